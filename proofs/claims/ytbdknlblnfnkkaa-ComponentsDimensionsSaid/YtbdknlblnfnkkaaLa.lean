/- The code does what the models say. The conditions stand in each statement. -/
import Derived.Test.YtbdknlblnfnkkaaFa
import Derived.Test.YtbdknlblnfnkkaaPB
import Derived.Test.YtbdknlblnfnkkaaShelf
namespace Go.Proofs.Ytbdknlblnfnkkaa
open Go Go.EL Go.RowKit Go.Proofs
theorem L_monomial_Cmp (a1 : (Fin 8 → Int)) (b1 : (Fin 8 → Int)) (r : Int) (hr : (monomial_Cmp a1 b1).Ret r) : Ctr Try.prog 72 #[.agg (vecG (Value.int .i64) 8 a1).toArray, .agg (vecG (Value.int .i64) 8 b1).toArray] (fun G => True) (fun G v => v = .int .i64 r) := by
 refine Ctr.enter (args := [_, _]) (N := 25) Try.func72 rfl rfl rfl (fun w0 G0 hL0 hpre => ?_)
 refine sr ?_
 refine WL.box 2 guard_none rfl rfl (fun b2 => ?_)
 refine WL.box 3 guard_none rfl rfl (fun b3 => ?_)
 refine sg rfl rfl <| nx <| WC.seq <| sr <| yy (Y0.loadLA 2 ag48 rfl rfl (vecG_size _ _ _)) rfl <| yy (Y0.loadLA 3 ag48 rfl rfl (vecG_size _ _ _)) rfl ?_
 refine yy (Y0.eqlV Try.underlying48 Try.underlying3 sc3 sz3 eg48 rfl rfl) rfl <| nx ?_
 refine WC.condD (p := a1 = b1) rfl (fun hc1 => ?_) (fun hc1 => ?_)
 ·replace hr := hr.pos hc1
  refine sr <| sg rfl rfl <| nx ?_
  refine WC.ret ?_
  replace hr : _ = r := hr
  refine WE.thenRet ?_
  subst hr
  exact WE.ret1 rfl rfl rfl
 ·replace hr := hr.neg hc1
  refine WC.skip <| WE.then <| sr <| sg rfl rfl <| nx <| WC.seq ?_
  refine WC.meetH (fun (gx : Int × Mem) => match gx with | ⟨i1, Gm1⟩ => [(2, .pointer (some ⟨b2, 0, none⟩)), (3, .pointer (some ⟨b3, 0, none⟩)), (5, .int .i64 i1)]) (fun (gx : Int × Mem) => match gx with | ⟨i1, Gm1⟩ => Mem.le G0 Gm1 ∧ (monomial_Cmp_k1 a1 b1 i1).Ret r) (fun (gx : Int × Mem) => match gx with | ⟨i1, Gm1⟩ => St w0 G0 Gm1 [(2, some ⟨b2, .cells (vecG (Value.int .i64) 8 a1).toArray 48 (0, 0), 0⟩), (3, some ⟨b3, .cells (vecG (Value.int .i64) 8 b1).toArray 48 (0, 0), 0⟩)]) ?_ ?_
  ·refine WC.block ?_
   let Phi1 : Int → Prop := fun oo => ((fun ov => match ov with | i1 => monomial_Cmp_k1 a1 b1 i1 : Int → Comp Int) oo).wp (fun a => a = r)
   replace hr : (Comp.loop _ _).wp Phi1 := hr
   refine WC.loopR (Φ := Phi1) (fun (gx : Int × Mem) => match gx with | ⟨i2, Gm2⟩ => (i2 : Int)) (fun (gx : Int × Mem) => match gx with | ⟨i2, Gm2⟩ => [(2, .pointer (some ⟨b2, 0, none⟩)), (3, .pointer (some ⟨b3, 0, none⟩)), (5, .int .i64 i2)]) (fun (gx : Int × Mem) => match gx with | ⟨i2, Gm2⟩ => Mem.le G0 Gm2) (fun (gx : Int × Mem) => match gx with | ⟨i2, Gm2⟩ => St w0 G0 Gm2 [(2, some ⟨b2, .cells (vecG (Value.int .i64) 8 a1).toArray 48 (0, 0), 0⟩), (3, some ⟨b3, .cells (vecG (Value.int .i64) 8 b1).toArray 48 (0, 0), 0⟩)]) ⟨0, G0⟩ hr (Fr.sub_cons rfl (Fr.sub_cons rfl (Fr.sub_cons rfl (Fr.sub_nil _)))) (Mem.le_refl _) ?_ ?_
   ·intro w hs
    exact hs.weaken (Lo.sub_cons rfl (Lo.sub_cons rfl (Lo.sub_nil _)))
   ·intro Aq1 gx hx hr
    obtain ⟨i2, Gm2⟩ := gx
    have Gm2le := hx
    refine WC.seq <| WC.seq ?_
    refine WC.drawn [false, false, false, false, false, false, false] mix (by kernel_rfl) (fun hb => ?_)
    refine Chain.y0 guard_none (fun _ hle => Y0.move rfl) ?_
    obtain ⟨hi3, hr⟩ := hr
    refine Chain.y0 guard_none (fun _ hle => Y0.idxA0 Try.underlying48 sz3 rfl rfl hi3) ?_
    refine Chain.y0 guard_none (fun _ hle => Y0.loadL 2 sc3 rfl rfl (vecG_at _ _ _ hi3)) ?_
    refine Chain.y0 guard_none (fun _ hle => Y0.move rfl) ?_
    obtain ⟨hi4, hr⟩ := hr
    refine Chain.y0 guard_none (fun _ hle => Y0.idxA0 Try.underlying48 sz3 rfl rfl hi4) ?_
    refine Chain.y0 guard_none (fun _ hle => Y0.loadL 3 sc3 rfl rfl (vecG_at _ _ _ hi4)) ?_
    refine Chain.y0 guard_none (fun _ hle => Y0.eql rfl rfl) ?_
    refine Chain.tail0 hb ?_
    refine WL.nil ?_
    refine WE.nx ?_
    refine WE.then ?_
    refine WC.condD (p := (getF a1 i2) = (getF b1 i2)) rfl (fun hc3 => ?_) (fun hc3 => ?_)
    ·replace hr := hr.pos hc3
     refine WC.skip <| WE.then <| WC.block <| WC.region <| mv rfl rfl <| yy (Y0.add rfl rfl) rfl ?_
     refine sg rfl rfl <| WL.nil ?_
     refine WE.inBlock ?_
     refine WE.backR ⟨IntKind.i64.wrap (i2 + 1), Gm2⟩ hr Gm2le (Fr.sub_cons rfl (Fr.sub_cons rfl (Fr.sub_cons rfl (Fr.sub_nil _)))) ?_
     ·intro w hs
      exact hs.weaken (Lo.sub_cons rfl (Lo.sub_cons rfl (Lo.sub_nil _)))
    ·replace hr := hr.neg hc3
     refine WC.exit ?_
     refine WE.thenExit ?_
     refine WE.thenExit ?_
     refine WE.exitHere ?_
     refine WE.endH ⟨i2, Gm2⟩ ⟨Gm2le, hr⟩ (Fr.sub_cons rfl (Fr.sub_cons rfl (Fr.sub_cons rfl (Fr.sub_nil _)))) ?_
     ·intro w hs
      exact hs.weaken (Lo.sub_cons rfl (Lo.sub_cons rfl (Lo.sub_nil _)))
  ·rintro ⟨i1, Gm1⟩ ⟨Gm1le, hr⟩
   refine WE.then <| WC.seq <| WC.seq ?_
   refine WC.drawn [false, false, false, false, false, false, false] mix (by kernel_rfl) (fun hb => ?_)
   refine Chain.y0 guard_none (fun _ hle => Y0.move rfl) ?_
   obtain ⟨hi1, hr⟩ := hr
   refine Chain.y0 guard_none (fun _ hle => Y0.idxA0 Try.underlying48 sz3 rfl rfl hi1) ?_
   refine Chain.y0 guard_none (fun _ hle => Y0.loadL 2 sc3 rfl rfl (vecG_at _ _ _ hi1)) ?_
   refine Chain.y0 guard_none (fun _ hle => Y0.move rfl) ?_
   obtain ⟨hi2, hr⟩ := hr
   refine Chain.y0 guard_none (fun _ hle => Y0.idxA0 Try.underlying48 sz3 rfl rfl hi2) ?_
   refine Chain.y0 guard_none (fun _ hle => Y0.loadL 3 sc3 rfl rfl (vecG_at _ _ _ hi2)) ?_
   refine Chain.y0 guard_none (fun _ hle => Y0.lss rfl rfl) ?_
   refine Chain.tail0 hb ?_
   refine WL.nil ?_
   refine WE.nx ?_
   refine WE.then ?_
   refine WC.condD (p := (getF a1 i1) < (getF b1 i1)) rfl (fun hc2 => ?_) (fun hc2 => ?_)
   ·replace hr := hr.pos hc2
    refine sr <| sg rfl rfl <| nx ?_
    refine WC.ret ?_
    replace hr : _ = r := hr
    refine WE.thenRet ?_
    subst hr
    exact WE.ret1 rfl rfl rfl
   ·replace hr := hr.neg hc2
    refine WC.skip <| WE.then <| sr <| sg rfl rfl <| nx ?_
    refine WC.ret ?_
    replace hr : _ = r := hr
    subst hr
    exact WE.ret1 rfl rfl rfl
theorem L_components_irreducible_c1 (a1 : (Fin 8 → Int)) (b1 : (Fin 8 → Int)) (r : Int) (hr : (components_irreducible_c1 a1 b1).Ret r) : Ctr Try.prog 71 #[.agg (vecG (Value.int .i64) 8 a1).toArray, .agg (vecG (Value.int .i64) 8 b1).toArray] (fun G => True) (fun G v => v = .int .i64 r) := by
 refine Ctr.enter (args := [_, _]) (N := 8) Try.func71 rfl rfl rfl (fun w0 G0 hL0 hpre => ?_)
 refine sr ?_
 refine WL.box 2 guard_none rfl rfl (fun b2 => ?_)
 refine WL.box 3 guard_none rfl rfl (fun b3 => ?_)
 refine sg rfl rfl <| nr <| yy (Y0.loadLA 3 ag48 rfl rfl (vecG_size _ _ _)) rfl <| yy (Y0.loadLA 2 ag48 rfl rfl (vecG_size _ _ _)) rfl ?_
 obtain ⟨yv1, hyv1, hr⟩ := hr
 refine WL.call0 guard_none rfl (YC.of E72 rfl) (L_monomial_Cmp _ _ _ hyv1) rfl (trivial) ?_
 refine sg rfl rfl <| nx ?_
 refine WC.ret ?_
 replace hr : _ = r := hr
 subst hr
 exact WE.ret1 rfl rfl rfl
theorem H_sort1 (x1 : List M) (x1p : Option Addr) (x1c x1n : Nat) (x1tk : Option Ow) (r : List M) (hr : (sortBy_monomial_Cmp x1).Ret r) : CtrL Try.prog 70 #[.slice x1p x1n x1c, .func (.func 72) #[] #[]] [(5000, x1tk)] (fun G => RowR (Rp.vec .i64 8) 48 G (.slice x1p x1n x1c) x1 x1tk) (fun G L v => ∃ zk0, L = [(5000, zk0)] ∧ v = .tuple #[] ∧ RowR (Rp.vec .i64 8) 48 G (.slice x1p x1n x1c) r zk0) := by
 obtain ⟨hl, hr⟩ := hr
 replace hr : _ = r := hr
 subst hr
 exact sortFunc (enc := fun m => vecG (Value.int .i64) 8 m) (fun _ => vecG_length _ _ _) (by decide) (fun x => vecG_one _ _ x (fun _ => rfl)) (fun _ _ _ => Iff.rfl) rfl swoM totM Try.sortL rfl (fun _ => by kernel_rfl) (fun _ => by kernel_rfl) (fun x y => L_monomial_Cmp x y _ (monomial_Cmp_ret x y)) E72 48 _ _ _ _ _ hl
theorem H_sort2 (x1 : List M) (x1p : Option Addr) (x1c x1n : Nat) (x1tk : Option Ow) (r : List M) (hr : (sortBy_irreducible_c1 x1).Ret r) : CtrL Try.prog 70 #[.slice x1p x1n x1c, .func (.func 71) #[] #[]] [(5000, x1tk)] (fun G => RowR (Rp.vec .i64 8) 48 G (.slice x1p x1n x1c) x1 x1tk) (fun G L v => ∃ zk0, L = [(5000, zk0)] ∧ v = .tuple #[] ∧ RowR (Rp.vec .i64 8) 48 G (.slice x1p x1n x1c) r zk0) := by
 obtain ⟨hl, hr⟩ := hr
 replace hr : _ = r := hr
 subst hr
 exact sortFunc (enc := fun m => vecG (Value.int .i64) 8 m) (fun _ => vecG_length _ _ _) (by decide) (fun x => vecG_one _ _ x (fun _ => rfl)) (fun _ _ _ => Iff.rfl) rfl swoR totR Try.sortL rfl (fun _ => by kernel_rfl) (fun _ => by kernel_rfl) (fun x y => L_components_irreducible_c1 x y _ (irreducible_c1_ret x y)) E71 48 _ _ _ _ _ hl
theorem L_cmp_isNaN_uint8 (x1 : Int) (r : Bool) (hr : (cmp_isNaN_uint8 x1).Ret r) : Ctr Try.prog 126 #[.int .u8 x1] (fun G => True) (fun G v => v = .bool r) := by
 refine Ctr.enter (args := [_]) (N := 6) Try.func126 rfl rfl rfl (fun w0 G0 hL0 hpre => ?_)
 refine sr <| sg rfl rfl <| nr <| mv rfl rfl <| mv rfl rfl <| yy (Y0.neq rfl rfl) rfl ?_
 refine sg rfl rfl <| nx ?_
 refine WC.ret ?_
 replace hr : _ = r := hr
 subst hr
 exact WE.ret1 rfl rfl rfl
theorem L_cmp_Less_uint8 (x1 : Int) (yv1 : Int) (r : Bool) (hr : (cmp_Less_uint8 x1 yv1).Ret r) : Ctr Try.prog 119 #[.int .u8 x1, .int .u8 yv1] (fun G => True) (fun G v => v = .bool r) := by
 refine Ctr.enter (args := [_, _]) (N := 17) Try.func119 rfl rfl rfl (fun w0 G0 hL0 hpre => ?_)
 refine sr <| sg rfl rfl <| nr <| mv rfl rfl ?_
 obtain ⟨yv2, hyv2, hr⟩ := hr
 refine WL.call0 guard_none rfl (YC.of E126 rfl) (L_cmp_isNaN_uint8 _ _ hyv2) rfl (trivial) ?_
 cases yv2
 ·skip
  refine mv rfl rfl <| sk rfl rfl rfl <| sk rfl rfl rfl <| sk rfl rfl rfl <| yy (Y0.pickF rfl rfl) rfl <| mv rfl rfl ?_
  refine WL.y0' (guard_yes rfl rfl) (Y0.move rfl) rfl ?_
  refine WL.y0' (guard_yes rfl rfl) (Y0.move rfl) rfl ?_
  refine WL.y0' (guard_yes rfl rfl) (Y0.lss rfl rfl) rfl ?_
  refine yy (Y0.pickF rfl rfl) rfl <| sg rfl rfl <| nx ?_
  refine WC.ret ?_
  replace hr : _ = r := hr
  subst hr
  exact WE.ret1 rfl rfl rfl
 ·skip
  refine mv rfl rfl ?_
  refine WL.y0' (guard_yes rfl rfl) (Y0.move rfl) rfl ?_
  obtain ⟨yv3, hyv3, hr⟩ := hr
  refine WL.call0 (guard_yes rfl rfl) rfl (YC.of E126 rfl) (L_cmp_isNaN_uint8 _ _ hyv3) rfl (trivial) ?_
  cases yv3
  ·skip
   refine WL.y0' (guard_yes rfl rfl) (Y0.not rfl) rfl ?_
   refine yy (Y0.pickT rfl rfl) rfl <| mv rfl rfl ?_
   refine WL.skip (guard_noF rfl rfl) rfl ?_
   refine WL.skip (guard_noF rfl rfl) rfl ?_
   refine WL.skip (guard_noF rfl rfl) rfl ?_
   refine yy (Y0.pickT rfl rfl) rfl <| sg rfl rfl <| nx ?_
   refine WC.ret ?_
   replace hr : _ = r := hr
   subst hr
   exact WE.ret1 rfl rfl rfl
  ·skip
   refine WL.y0' (guard_yes rfl rfl) (Y0.not rfl) rfl ?_
   refine yy (Y0.pickT rfl rfl) rfl <| mv rfl rfl ?_
   refine WL.y0' (guard_yes rfl rfl) (Y0.move rfl) rfl ?_
   refine WL.y0' (guard_yes rfl rfl) (Y0.move rfl) rfl ?_
   refine WL.y0' (guard_yes rfl rfl) (Y0.lss rfl rfl) rfl ?_
   refine yy (Y0.pickF rfl rfl) rfl <| sg rfl rfl <| nx ?_
   refine WC.ret ?_
   replace hr : _ = r := hr
   subst hr
   exact WE.ret1 rfl rfl rfl
theorem L_slices_insertionSortOrdered_uint8 (data1 : (List Int)) (a1 : Int) (b1 : Int) (data1p : Option Addr) (data1c : Nat) (data1n : Nat) (data1tk : Option Ow) (r : (List Int)) (hr : (slices_insertionSortOrdered_uint8 data1 a1 b1).Ret r) : CtrL Try.prog 113 #[.slice data1p data1n data1c, .int .i64 a1, .int .i64 b1] [(5000, data1tk)] (fun G => RowR (Rp.int .u8) 5 G (.slice data1p data1n data1c) data1 data1tk) (fun G L v => ∃ zk0, L = [(5000, zk0)] ∧ v = .tuple #[] ∧ RowR (Rp.int .u8) 5 G (.slice data1p data1n data1c) r zk0) := by
 refine CtrL.enter (args := [_, _, _]) (N := 49) Try.func113 rfl rfl rfl (fun w0 G0 hL0 hpre => ?_)
 have data1h := hpre
 refine sr <| mv rfl rfl <| yy (Y0.add rfl rfl) rfl <| sg rfl rfl <| nx ?_
 refine WC.meetH (fun (gx : (List Int) × Option Ow × Mem) => match gx with | ⟨data2, data2tk, Gm1⟩ => [(0, .slice data1p data1n data1c)]) (fun (gx : (List Int) × Option Ow × Mem) => match gx with | ⟨data2, data2tk, Gm1⟩ => Mem.le G0 Gm1 ∧ RowR (Rp.int .u8) 5 Gm1 (.slice data1p data1n data1c) data2 data2tk ∧ (slices_insertionSortOrdered_uint8_k1 data2).Ret r) (fun (gx : (List Int) × Option Ow × Mem) => match gx with | ⟨data2, data2tk, Gm1⟩ => St w0 G0 Gm1 [(5000, data2tk)]) ?_ ?_
 ·refine WC.block ?_
  let Phi1 : (List Int) → Prop := fun oo => ((fun ov => match ov with | data2 => slices_insertionSortOrdered_uint8_k1 data2 : (List Int) → Comp (List Int)) oo).wp (fun a => a = r)
  replace hr : (Comp.loop _ _).wp Phi1 := hr
  refine WC.loopR (Φ := Phi1) (fun (gx : (List Int) × Option Ow × Int × Mem) => match gx with | ⟨data3, data3tk, i1, Gm2⟩ => ((data3, i1) : (List Int) × Int)) (fun (gx : (List Int) × Option Ow × Int × Mem) => match gx with | ⟨data3, data3tk, i1, Gm2⟩ => [(0, .slice data1p data1n data1c), (1, .int .i64 a1), (2, .int .i64 b1), (6, .int .i64 i1)]) (fun (gx : (List Int) × Option Ow × Int × Mem) => match gx with | ⟨data3, data3tk, i1, Gm2⟩ => Mem.le G0 Gm2 ∧ RowR (Rp.int .u8) 5 Gm2 (.slice data1p data1n data1c) data3 data3tk) (fun (gx : (List Int) × Option Ow × Int × Mem) => match gx with | ⟨data3, data3tk, i1, Gm2⟩ => St w0 G0 Gm2 [(5000, data3tk)]) ⟨data1, data1tk, IntKind.i64.wrap (a1 + 1), G0⟩ hr (Fr.sub_cons rfl (Fr.sub_cons rfl (Fr.sub_cons rfl (Fr.sub_cons rfl (Fr.sub_nil _))))) ⟨(Mem.le_refl _), data1h⟩ ?_ ?_
  ·intro w hs
   exact hs.weaken (Lo.sub_cons rfl (Lo.sub_nil _))
  ·intro Aq1 gx hx hr
   obtain ⟨data3, data3tk, i1, Gm2⟩ := gx
   obtain ⟨Gm2le, data3h⟩ := hx
   refine WC.seq <| sr <| mv rfl rfl <| mv rfl rfl <| yy (Y0.lss rfl rfl) rfl <| nx ?_
   refine WC.condD (p := i1 < b1) rfl (fun hc1 => ?_) (fun hc1 => ?_)
   ·replace hr := hr.pos hc1
    refine WC.skip <| WE.then <| WC.seq <| WC.block <| sr <| mv rfl rfl ?_
    refine sg rfl rfl <| nx ?_
    refine WC.meetH (fun (gx : (List Int) × Option Ow × Mem) => match gx with | ⟨data4, data4tk, Gm3⟩ => [(0, .slice data1p data1n data1c), (1, .int .i64 a1), (2, .int .i64 b1), (6, .int .i64 i1)]) (fun (gx : (List Int) × Option Ow × Mem) => match gx with | ⟨data4, data4tk, Gm3⟩ => Mem.le Gm2 Gm3 ∧ RowR (Rp.int .u8) 5 Gm3 (.slice data1p data1n data1c) data4 data4tk ∧ (slices_insertionSortOrdered_uint8_k3 i1 data4).wp (Out Aq1 Phi1)) (fun (gx : (List Int) × Option Ow × Mem) => match gx with | ⟨data4, data4tk, Gm3⟩ => St w0 G0 Gm3 [(5000, data4tk)]) ?_ ?_
    ·refine WC.block ?_
     let Phi2 : (List Int) → Prop := fun oo => ((fun ov => match ov with | data4 => slices_insertionSortOrdered_uint8_k3 i1 data4 : (List Int) → Comp (((List Int) × Int) ⊕ (List Int))) oo).wp (Out Aq1 Phi1)
     replace hr : (Comp.loop _ _).wp Phi2 := hr
     refine WC.loopR (Φ := Phi2) (fun (gx : (List Int) × Option Ow × Int × Mem) => match gx with | ⟨data5, data5tk, j1, Gm4⟩ => ((data5, j1) : (List Int) × Int)) (fun (gx : (List Int) × Option Ow × Int × Mem) => match gx with | ⟨data5, data5tk, j1, Gm4⟩ => [(0, .slice data1p data1n data1c), (1, .int .i64 a1), (2, .int .i64 b1), (6, .int .i64 i1), (7, .int .i64 j1)]) (fun (gx : (List Int) × Option Ow × Int × Mem) => match gx with | ⟨data5, data5tk, j1, Gm4⟩ => Mem.le Gm2 Gm4 ∧ RowR (Rp.int .u8) 5 Gm4 (.slice data1p data1n data1c) data5 data5tk) (fun (gx : (List Int) × Option Ow × Int × Mem) => match gx with | ⟨data5, data5tk, j1, Gm4⟩ => St w0 G0 Gm4 [(5000, data5tk)]) ⟨data3, data3tk, i1, Gm2⟩ hr (Fr.sub_cons rfl (Fr.sub_cons rfl (Fr.sub_cons rfl (Fr.sub_cons rfl (Fr.sub_cons rfl (Fr.sub_nil _)))))) ⟨(Mem.le_refl _), data3h⟩ ?_ ?_
     ·intro w hs
      exact hs.weaken (Lo.sub_cons rfl (Lo.sub_nil _))
     ·intro Aq2 gx hx hr
      obtain ⟨data5, data5tk, j1, Gm4⟩ := gx
      obtain ⟨Gm4le, data5h⟩ := hx
      refine WC.seq <| WC.seq ?_
      refine WC.drawn [false, false, false, false, false, false, false, false, false, false, false, false, false, false, false] mix (by kernel_rfl) (fun hb => ?_)
      refine Chain.y0 guard_none (fun _ hle => Y0.move rfl) ?_
      refine Chain.y0 guard_none (fun _ hle => Y0.move rfl) ?_
      refine Chain.caseY0 (p := a1 < j1) guard_none (fun _ hle => Y0.gtr rfl rfl) (fun hb1 => ?_) (fun hb1 => ?_)
      ·replace hr := hr.pos hb1
       refine Chain.y0 guard_none (fun _ hle => Y0.move rfl) ?_
       refine Chain.y0 (guard_yes rfl rfl) (fun _ hle => Y0.move rfl) ?_
       refine Chain.y0 (guard_yes rfl rfl) (fun _ hle => Y0.move rfl) ?_
       obtain ⟨x1, hx1, hr⟩ := hr
       refine Chain.y0 (guard_yes rfl rfl) (fun _ hle => Y0.idxRow Try.underlying33 sz5 (data5h.mono hle) rfl rfl hx1) ?_
       refine Chain.y0 (guard_yes rfl rfl) (fun _ hle => Y0.loadT sc5 (data5h.mono hle) (key := 5000) rfl rfl (AtK.int (RowR.at data5h hx1))) ?_
       refine Chain.y0 (guard_yes rfl rfl) (fun _ hle => Y0.move rfl) ?_
       refine Chain.y0 (guard_yes rfl rfl) (fun _ hle => Y0.move rfl) ?_
       refine Chain.y0 (guard_yes rfl rfl) (fun _ hle => Y0.sub rfl rfl) ?_
       obtain ⟨x2, hx2, hr⟩ := hr
       refine Chain.y0 (guard_yes rfl rfl) (fun _ hle => Y0.idxRow Try.underlying33 sz5 (data5h.mono hle) rfl rfl hx2) ?_
       refine Chain.y0 (guard_yes rfl rfl) (fun _ hle => Y0.loadT sc5 (data5h.mono hle) (key := 5000) rfl rfl (AtK.int (RowR.at data5h hx2))) ?_
       obtain ⟨yv1, hyv1, hr⟩ := hr
       refine Chain.call0 (guard_yes rfl rfl) (fun _ => YC.of E119 rfl) (L_cmp_Less_uint8 _ _ _ hyv1) rfl (fun G' hle => trivial) ?_
       refine Chain.y0 guard_none (fun _ hle => Y0.pickT rfl rfl) ?_
       refine Chain.tail0 hb ?_
       refine WL.nil ?_
       refine WE.nx ?_
       refine WE.then ?_
       refine WC.cond (b := yv1) rfl (fun hc2 => ?_) (fun hc2 => ?_)
       ·replace hr := hr.pos hc2
        refine WC.skip <| WE.then <| WC.seq <| WC.block ?_
        refine WC.drawn [false, false, true, true, true, false, false, false, false, false, false, false, false, false, false] mix (by kernel_rfl) (fun hb => ?_)
        refine Chain.y0 guard_none (fun _ hle => Y0.move rfl) ?_
        refine Chain.y0 guard_none (fun _ hle => Y0.move rfl) ?_
        refine Chain.float guard_none (Y0.move rfl) ?_
        refine Chain.float guard_none (Y0.move rfl) ?_
        refine Chain.float guard_none (Y0.sub rfl rfl) ?_
        refine Chain.y0 guard_none (fun _ hle => Y0.move rfl) ?_
        refine Chain.y0 guard_none (fun _ hle => Y0.move rfl) ?_
        refine Chain.y0 guard_none (fun _ hle => Y0.sub rfl rfl) ?_
        obtain ⟨x3, hx3, hr⟩ := hr
        refine Chain.y0 guard_none (fun _ hle => Y0.idxRow Try.underlying33 sz5 (data5h.mono hle) rfl rfl hx3) ?_
        refine Chain.y0 guard_none (fun _ hle => Y0.loadT sc5 (data5h.mono hle) (key := 5000) rfl rfl (AtK.int (RowR.at data5h hx3))) ?_
        refine Chain.y0 guard_none (fun _ hle => Y0.move rfl) ?_
        refine Chain.y0 guard_none (fun _ hle => Y0.move rfl) ?_
        obtain ⟨x4, hx4, hr⟩ := hr
        refine Chain.y0 guard_none (fun _ hle => Y0.idxRow Try.underlying33 sz5 (data5h.mono hle) rfl rfl hx4) ?_
        refine Chain.y0 guard_none (fun _ hle => Y0.loadT sc5 (data5h.mono hle) (key := 5000) rfl rfl (AtK.int (RowR.at data5h hx4))) ?_
        obtain ⟨x5, hx5, hr⟩ := hr
        refine Chain.y0 guard_none (fun _ hle => Y0.idxRow Try.underlying33 sz5 (data5h.mono hle) rfl rfl hx5) ?_
        refine Chain.tail0 hb ?_
        refine WL.storeT (r := (Rp.int .u8)) (e := 5) (cs' := [.int .u8 x3]) (i := j1) (z' := x3) 5000 guard_none sz5 rfl data5h rfl rfl rfl rfl rfl hx5 (fun tk1 tk1h => ?_)
        obtain ⟨x6, hx6, hr⟩ := hr
        refine yy (Y0.idxRow Try.underlying33 sz5 tk1h rfl rfl hx6) rfl ?_
        refine WL.storeT (r := (Rp.int .u8)) (e := 5) (cs' := [.int .u8 x4]) (i := IntKind.i64.wrap (j1 - 1)) (z' := x4) 5000 guard_none sz5 rfl tk1h rfl rfl rfl rfl rfl hx6 (fun tk2 tk2h => ?_)
        refine WL.nil ?_
        refine WE.nx ?_
        refine WE.inBlock ?_
        refine WE.then <| WC.region <| mv rfl rfl <| yy (Y0.sub rfl rfl) rfl <| sg rfl rfl <| WL.nil ?_
        refine WE.backR ⟨((data5.set j1.toNat x3).set (IntKind.i64.wrap (j1 - 1)).toNat x4), tk2, IntKind.i64.wrap (j1 - 1), Gm4⟩ hr ⟨Gm4le, tk2h⟩ (Fr.sub_cons rfl (Fr.sub_cons rfl (Fr.sub_cons rfl (Fr.sub_cons rfl (Fr.sub_cons rfl (Fr.sub_nil _)))))) ?_
        ·intro w hs
         exact hs.weaken (Lo.sub_cons rfl (Lo.sub_nil _))
       ·replace hr := hr.neg (Bool.eq_false_iff.1 hc2)
        refine WC.exit ?_
        refine WE.thenExit ?_
        refine WE.thenExit ?_
        refine WE.exitHere ?_
        refine WE.endH ⟨data5, data5tk, Gm4⟩ ⟨Gm4le, data5h, hr⟩ (Fr.sub_cons rfl (Fr.sub_cons rfl (Fr.sub_cons rfl (Fr.sub_cons rfl (Fr.sub_nil _))))) ?_
        ·intro w hs
         exact hs.weaken (Lo.sub_cons rfl (Lo.sub_nil _))
      ·replace hr := hr.neg hb1
       refine Chain.y0 guard_none (fun _ hle => Y0.move rfl) ?_
       refine Chain.skip (guard_noT rfl rfl) ?_
       refine Chain.skip (guard_noT rfl rfl) ?_
       refine Chain.skip (guard_noT rfl rfl) ?_
       refine Chain.skip (guard_noT rfl rfl) ?_
       refine Chain.skip (guard_noT rfl rfl) ?_
       refine Chain.skip (guard_noT rfl rfl) ?_
       refine Chain.skip (guard_noT rfl rfl) ?_
       refine Chain.skip (guard_noT rfl rfl) ?_
       refine Chain.skip (guard_noT rfl rfl) ?_
       refine Chain.skip (guard_noT rfl rfl) ?_
       refine Chain.y0 guard_none (fun _ hle => Y0.pickF rfl rfl) ?_
       refine Chain.tail0 hb ?_
       refine WL.nil ?_
       refine WE.nx ?_
       refine WE.then ?_
       refine WC.condF rfl ?_
       refine WC.exit ?_
       refine WE.thenExit ?_
       refine WE.thenExit ?_
       refine WE.exitHere ?_
       refine WE.endH ⟨data5, data5tk, Gm4⟩ ⟨Gm4le, data5h, hr⟩ (Fr.sub_cons rfl (Fr.sub_cons rfl (Fr.sub_cons rfl (Fr.sub_cons rfl (Fr.sub_nil _))))) ?_
       ·intro w hs
        exact hs.weaken (Lo.sub_cons rfl (Lo.sub_nil _))
    ·rintro ⟨data4, data4tk, Gm3⟩ ⟨Gm3le, data4h, hr⟩
     refine WE.inBlock ?_
     refine WE.then <| WC.region <| mv rfl rfl <| yy (Y0.add rfl rfl) rfl <| sg rfl rfl <| WL.nil ?_
     refine WE.backR ⟨data4, data4tk, IntKind.i64.wrap (i1 + 1), Gm3⟩ hr ⟨(Mem.le_trans Gm2le Gm3le), data4h⟩ (Fr.sub_cons rfl (Fr.sub_cons rfl (Fr.sub_cons rfl (Fr.sub_cons rfl (Fr.sub_nil _))))) ?_
     ·intro w hs
      exact hs.weaken (Lo.sub_cons rfl (Lo.sub_nil _))
   ·replace hr := hr.neg hc1
    refine WC.exit ?_
    refine WE.thenExit ?_
    refine WE.thenExit ?_
    refine WE.exitHere ?_
    refine WE.endH ⟨data3, data3tk, Gm2⟩ ⟨Gm2le, data3h, hr⟩ (Fr.sub_cons rfl (Fr.sub_nil _)) ?_
    ·intro w hs
     exact hs.weaken (Lo.sub_cons rfl (Lo.sub_nil _))
 ·rintro ⟨data2, data2tk, Gm1⟩ ⟨Gm1le, data2h, hr⟩
  refine WE.retN ?_
  replace hr : _ = r := hr
  subst hr
  refine WE.conseq (S' := St w0 G0 Gm1 [(5000, data2tk)]) ?_ ?_
  ·intro w hs
   exact hs.weaken (Lo.sub_cons rfl (Lo.sub_nil _))
  exact WE.ret0 rfl  ⟨_, rfl, rfl, data2h⟩
theorem L_slices_order2Ordered_uint8 (data1 : (List Int)) (a1 : Int) (b1 : Int) (swaps1 : Int) (data1p : Option Addr) (data1c : Nat) (b2 : Nat) (r : Int × Int × Int) (hr : (slices_order2Ordered_uint8 data1 a1 b1 swaps1).Ret r) : CtrL Try.prog 127 #[.slice data1p data1.length data1c, .int .i64 a1, .int .i64 b1, .pointer (some ⟨b2, 0, none⟩)] [(6000, some ⟨b2, .cells ([.int .i64 swaps1]).toArray 3 (0, 0), 0⟩)] (fun G => SlR (Rp.int .u8) G (.slice data1p data1.length data1c) data1) (fun G L v => L = [(6000, some ⟨b2, .cells ([.int .i64 r.2.2]).toArray 3 (0, 0), 0⟩)] ∧ v = .tuple #[.int .i64 r.1, .int .i64 r.2.1]) := by
 refine CtrL.enter (args := [_, _, _, _]) (N := 28) Try.func127 rfl rfl rfl (fun w0 G0 hL0 hpre => ?_)
 have data1h := hpre
 refine sr <| sg rfl rfl <| sg rfl rfl <| nx <| WC.seq <| WC.seq ?_
 refine WC.drawn [false, false, false, false, false, false, false, false, false] mix (by kernel_rfl) (fun hb => ?_)
 refine Chain.y0 guard_none (fun _ hle => Y0.move rfl) ?_
 refine Chain.y0 guard_none (fun _ hle => Y0.move rfl) ?_
 obtain ⟨x1, hx1, hr⟩ := hr
 refine Chain.y0 guard_none (fun _ hle => Y0.idxR Try.underlying33 sz5 (data1h.mono hle) rfl rfl hx1) ?_
 refine Chain.y0 guard_none (fun _ hle => Y0.loadG sc5 rfl (AtK.int (At.mono (SlR.at data1h hx1) hle))) ?_
 refine Chain.y0 guard_none (fun _ hle => Y0.move rfl) ?_
 refine Chain.y0 guard_none (fun _ hle => Y0.move rfl) ?_
 obtain ⟨x2, hx2, hr⟩ := hr
 refine Chain.y0 guard_none (fun _ hle => Y0.idxR Try.underlying33 sz5 (data1h.mono hle) rfl rfl hx2) ?_
 refine Chain.y0 guard_none (fun _ hle => Y0.loadG sc5 rfl (AtK.int (At.mono (SlR.at data1h hx2) hle))) ?_
 obtain ⟨yv1, hyv1, hr⟩ := hr
 refine Chain.call0 guard_none (fun _ => YC.of E119 rfl) (L_cmp_Less_uint8 _ _ _ hyv1) rfl (fun G' hle => trivial) ?_
 refine Chain.tail0 hb ?_
 refine WL.nil ?_
 refine WE.nx ?_
 refine WE.then ?_
 refine WC.cond (b := yv1) rfl (fun hc1 => ?_) (fun hc1 => ?_)
 ·replace hr := hr.pos hc1
  refine sr <| mv rfl rfl <| yy (Y0.nilCheck rfl) rfl <| yy (Y0.loadL 6000 sc3 rfl rfl rfl) rfl <| yy (Y0.add rfl rfl) rfl <| yy (Y0.nilCheck rfl) rfl ?_
  refine WL.storeL 6000 ([.int .i64 (IntKind.i64.wrap (swaps1 + 1))]).toArray guard_none sz3 rfl rfl rfl (by first | decide | simp) rfl rfl ?_
  refine nr <| mv rfl rfl <| mv rfl rfl <| sg rfl rfl <| sg rfl rfl <| nx ?_
  refine WC.ret ?_
  replace hr : _ = r := hr
  refine WE.thenRet ?_
  subst hr
  refine WE.conseq (S' := St w0 G0 G0 [(6000, some ⟨b2, .cells ([.int .i64 (IntKind.i64.wrap (swaps1 + 1))]).toArray 3 (0, 0), 0⟩)]) ?_ ?_
  ·intro w hs
   exact hs.weaken (Lo.sub_cons rfl (Lo.sub_nil _))
  exact WE.ret2 rfl rfl rfl ⟨rfl, rfl⟩
 ·replace hr := hr.neg (Bool.eq_false_iff.1 hc1)
  refine WC.skip <| WE.then <| sr <| mv rfl rfl <| mv rfl rfl <| sg rfl rfl ?_
  refine sg rfl rfl <| nx ?_
  refine WC.ret ?_
  replace hr : _ = r := hr
  subst hr
  refine WE.conseq (S' := St w0 G0 G0 [(6000, some ⟨b2, .cells ([.int .i64 swaps1]).toArray 3 (0, 0), 0⟩)]) ?_ ?_
  ·intro w hs
   exact hs.weaken (Lo.sub_cons rfl (Lo.sub_nil _))
  exact WE.ret2 rfl rfl rfl ⟨rfl, rfl⟩
theorem L_slices_medianOrdered_uint8 (data1 : (List Int)) (a1 : Int) (b1 : Int) (c1 : Int) (swaps1 : Int) (data1p : Option Addr) (data1c : Nat) (b2 : Nat) (r : Int × Int) (hr : (slices_medianOrdered_uint8 data1 a1 b1 c1 swaps1).Ret r) : CtrL Try.prog 125 #[.slice data1p data1.length data1c, .int .i64 a1, .int .i64 b1, .int .i64 c1, .pointer (some ⟨b2, 0, none⟩)] [(6000, some ⟨b2, .cells ([.int .i64 swaps1]).toArray 3 (0, 0), 0⟩)] (fun G => SlR (Rp.int .u8) G (.slice data1p data1.length data1c) data1) (fun G L v => L = [(6000, some ⟨b2, .cells ([.int .i64 r.2]).toArray 3 (0, 0), 0⟩)] ∧ v = .int .i64 r.1) := by
 refine CtrL.enter (args := [_, _, _, _, _]) (N := 36) Try.func125 rfl rfl rfl (fun w0 G0 hL0 hpre => ?_)
 have data1h := hpre
 have hz : w0.L.zero := by
  rw [hL0]; intro p hp x hx
  simp only [List.mem_cons, List.not_mem_nil, or_false] at hp
  subst hp; cases hx; rfl
 refine sr <| sg rfl rfl <| nr <| mv rfl rfl <| mv rfl rfl <| mv rfl rfl ?_
 refine mv rfl rfl ?_
 obtain ⟨yv1, hyv1, hr⟩ := hr
 refine WL.callT guard_none rfl (YC.of E127 rfl) (L_slices_order2Ordered_uint8 _ _ _ _ _ _ _ _ hyv1) rfl (data1h) (Lo.sub_cons rfl (Lo.sub_nil _)) hz (fun yv1v Gv1 Lyv1 Gv1le yv1post => ?_)
 obtain ⟨rfl, rfl⟩ := yv1post
 refine mv rfl rfl <| yy (Y0.extract rfl rfl) rfl <| yy (Y0.extract rfl rfl) rfl <| sg rfl rfl <| sg rfl rfl <| nr ?_
 refine mv rfl rfl <| mv rfl rfl <| mv rfl rfl <| mv rfl rfl ?_
 obtain ⟨yv2, hyv2, hr⟩ := hr
 refine WL.callT guard_none rfl (YC.of E127 rfl) (L_slices_order2Ordered_uint8 _ _ _ _ _ _ _ _ hyv2) rfl ((data1h.mono Gv1le)) (Lo.sub_cons rfl (Lo.sub_nil _)) hz (fun yv2v Gv2 Lyv2 Gv2le yv2post => ?_)
 obtain ⟨rfl, rfl⟩ := yv2post
 refine mv rfl rfl <| yy (Y0.extract rfl rfl) rfl <| yy (Y0.extract rfl rfl) rfl <| sg rfl rfl <| sg rfl rfl <| nr ?_
 refine mv rfl rfl <| mv rfl rfl <| mv rfl rfl <| mv rfl rfl ?_
 obtain ⟨yv3, hyv3, hr⟩ := hr
 refine WL.callT guard_none rfl (YC.of E127 rfl) (L_slices_order2Ordered_uint8 _ _ _ _ _ _ _ _ hyv3) rfl ((data1h.mono (Mem.le_trans Gv1le Gv2le))) (Lo.sub_cons rfl (Lo.sub_nil _)) hz (fun yv3v Gv3 Lyv3 Gv3le yv3post => ?_)
 obtain ⟨rfl, rfl⟩ := yv3post
 refine mv rfl rfl <| yy (Y0.extract rfl rfl) rfl <| yy (Y0.extract rfl rfl) rfl <| sg rfl rfl <| sg rfl rfl <| nr ?_
 refine mv rfl rfl <| sg rfl rfl <| nx ?_
 refine WC.ret ?_
 replace hr : _ = r := hr
 subst hr
 refine WE.conseq (S' := St w0 G0 Gv3 [(6000, some ⟨b2, .cells ([.int .i64 yv3.2.2]).toArray 3 (0, 0), 0⟩)]) ?_ ?_
 ·intro w hs
  exact hs.weaken (Lo.sub_cons rfl (Lo.sub_nil _))
 exact WE.ret1 rfl rfl ⟨rfl, rfl⟩
theorem L_slices_choosePivotOrdered_uint8 (data1 : (List Int)) (a1 : Int) (b1 : Int) (data1p : Option Addr) (data1c : Nat) (r : Int × Int) (hr : (slices_choosePivotOrdered_uint8 data1 a1 b1).Ret r) : Ctr Try.prog 116 #[.slice data1p data1.length data1c, .int .i64 a1, .int .i64 b1] (fun G => SlR (Rp.int .u8) G (.slice data1p data1.length data1c) data1) (fun G v => v = .tuple #[.int .i64 r.1, .int .i64 r.2]) := by
 refine Ctr.enter (args := [_, _, _]) (N := 57) Try.func116 rfl rfl rfl (fun w0 G0 hL0 hpre => ?_)
 have data1h := hpre
 have hz : w0.L.zero := by rw [hL0]; intro p hp; simp at hp
 refine sr <| sg rfl rfl <| sg rfl rfl <| nr <| mv rfl rfl <| mv rfl rfl ?_
 refine yy (Y0.sub rfl rfl) rfl <| sg rfl rfl <| nr ?_
 refine WL.alloc 9 guard_none z3 rfl (fun b2 => ?_)
 refine nr <| mv rfl rfl <| mv rfl rfl <| yy (Y0.quo rfl rfl (by decide)) rfl <| yy (Y0.mul rfl rfl) rfl <| yy (Y0.add rfl rfl) rfl ?_
 refine sg rfl rfl <| nr <| mv rfl rfl <| mv rfl rfl <| yy (Y0.quo rfl rfl (by decide)) rfl <| yy (Y0.mul rfl rfl) rfl ?_
 refine yy (Y0.add rfl rfl) rfl <| sg rfl rfl <| nr <| mv rfl rfl <| mv rfl rfl <| yy (Y0.quo rfl rfl (by decide)) rfl ?_
 refine yy (Y0.mul rfl rfl) rfl <| yy (Y0.add rfl rfl) rfl <| sg rfl rfl <| nx <| WC.seq <| sr ?_
 refine mv rfl rfl <| yy (Y0.geq rfl rfl) rfl <| nx ?_
 refine WC.condD (p := 8 ≤ (IntKind.i64.wrap (b1 - a1))) rfl (fun hc1 => ?_) (fun hc1 => ?_)
 ·replace hr := hr.pos hc1
  refine WC.seq <| sr <| mv rfl rfl <| yy (Y0.geq rfl rfl) rfl <| nx ?_
  refine WC.condD (p := 50 ≤ (IntKind.i64.wrap (b1 - a1))) rfl (fun hc2 => ?_) (fun hc2 => ?_)
  ·replace hr := hr.pos hc2
   exact (show False from hr).elim
  ·replace hr := hr.neg hc2
   refine WC.skip <| WE.then <| WC.region <| mv rfl rfl <| mv rfl rfl <| mv rfl rfl ?_
   refine mv rfl rfl ?_
   obtain ⟨yv1, hyv1, hr⟩ := hr
   refine WL.conseq (fun w hs => hs.rekey (i := 9) (j := 6000) rfl (by rw [hL0]; rfl)) ?_
   refine WL.callT guard_none rfl (YC.of E125 rfl) (L_slices_medianOrdered_uint8 _ _ _ _ _ _ _ _ _ hyv1) rfl (data1h) (Lo.sub_cons rfl (Lo.sub_nil _)) hz (fun yv1v Gv1 Lyv1 Gv1le yv1post => ?_)
   obtain ⟨rfl, rfl⟩ := yv1post
   refine WL.conseq (fun w hs => hs.rekey (i := 6000) (j := 9) rfl (by rw [hL0]; rfl)) ?_
   refine sg rfl rfl <| nr <| yy (Y0.loadL 9 sc3 rfl rfl rfl) rfl <| nx <| WC.block <| sr ?_
   refine yy (Y0.eql rfl rfl) rfl <| sg rfl rfl <| nx ?_
   refine WC.condD (p := yv1.2 = 0) rfl (fun hc3 => ?_) (fun hc3 => ?_)
   ·replace hr := hr.pos hc3
    refine sr <| mv rfl rfl <| sg rfl rfl <| sg rfl rfl <| nx ?_
    refine WC.ret ?_
    replace hr : _ = r := hr
    refine WE.inBlockRet ?_
    subst hr
    exact WE.ret2 rfl rfl rfl rfl
   ·replace hr := hr.neg hc3
    refine sr <| yy (Y0.eql rfl rfl) rfl <| sg rfl rfl <| nx ?_
    refine WC.condD (p := yv1.2 = 12) rfl (fun hc4 => ?_) (fun hc4 => ?_)
    ·replace hr := hr.pos hc4
     refine sr <| mv rfl rfl <| sg rfl rfl <| sg rfl rfl <| nx ?_
     refine WC.ret ?_
     replace hr : _ = r := hr
     refine WE.inBlockRet ?_
     subst hr
     exact WE.ret2 rfl rfl rfl rfl
    ·replace hr := hr.neg hc4
     refine sr <| mv rfl rfl <| sg rfl rfl <| sg rfl rfl <| nx ?_
     refine WC.ret ?_
     replace hr : _ = r := hr
     refine WE.inBlockRet ?_
     subst hr
     exact WE.ret2 rfl rfl rfl rfl
 ·replace hr := hr.neg hc1
  refine WC.skip <| WE.then <| sr <| yy (Y0.loadL 9 sc3 rfl rfl rfl) rfl <| nx <| WC.block ?_
  refine sr <| yy (Y0.eql rfl rfl) rfl <| sg rfl rfl <| nx ?_
  refine WC.condD (p := (0 : Int) = 0) rfl (fun hc5 => ?_) (fun hc5 => ?_)
  ·replace hr := hr.pos hc5
   refine sr <| mv rfl rfl <| sg rfl rfl <| sg rfl rfl <| nx ?_
   refine WC.ret ?_
   replace hr : _ = r := hr
   refine WE.inBlockRet ?_
   subst hr
   exact WE.ret2 rfl rfl rfl rfl
  ·replace hr := hr.neg hc5
   refine sr <| yy (Y0.eql rfl rfl) rfl <| sg rfl rfl <| nx ?_
   refine WC.condD (p := (0 : Int) = 12) rfl (fun hc6 => ?_) (fun hc6 => ?_)
   ·replace hr := hr.pos hc6
    refine sr <| mv rfl rfl <| sg rfl rfl <| sg rfl rfl <| nx ?_
    refine WC.ret ?_
    replace hr : _ = r := hr
    refine WE.inBlockRet ?_
    subst hr
    exact WE.ret2 rfl rfl rfl rfl
   ·replace hr := hr.neg hc6
    refine sr <| mv rfl rfl <| sg rfl rfl <| sg rfl rfl <| nx ?_
    refine WC.ret ?_
    replace hr : _ = r := hr
    refine WE.inBlockRet ?_
    subst hr
    exact WE.ret2 rfl rfl rfl rfl
theorem L_slices_partitionOrdered_uint8 (a0_1 : (List Int)) (a1_1 : Int) (a2_1 : Int) (a3_1 : Int) (a0_1p : Option Addr) (a0_1c : Nat) (a0_1n : Nat) (a0_1tk : Option Ow) (r : Int × Bool × (List Int)) (hr : (slices_partitionOrdered_uint8 a0_1 a1_1 a2_1 a3_1).Ret r) : CtrL Try.prog 121 #[.slice a0_1p a0_1n a0_1c, .int .i64 a1_1, .int .i64 a2_1, .int .i64 a3_1] [(5000, a0_1tk)] (fun G => RowR (Rp.int .u8) 5 G (.slice a0_1p a0_1n a0_1c) a0_1 a0_1tk) (fun G L v => ∃ zk0, L = [(5000, zk0)] ∧ v = .tuple #[.int .i64 r.1, .bool r.2.1] ∧ RowR (Rp.int .u8) 5 G (.slice a0_1p a0_1n a0_1c) r.2.2 zk0) := by
 refine CtrL.enter (args := [_, _, _, _]) (N := 168) Try.func121 rfl rfl rfl (fun w0 G0 hL0 hpre => ?_)
 have a0_1h := hpre
 refine sr <| sg rfl rfl <| sg rfl rfl <| nx <| WC.seq ?_
 refine WC.drawn [false, false, true, true, false, false, false, false, false, false, false, false, false] mix (by kernel_rfl) (fun hb => ?_)
 refine Chain.y0 guard_none (fun _ hle => Y0.move rfl) ?_
 refine Chain.y0 guard_none (fun _ hle => Y0.move rfl) ?_
 refine Chain.float guard_none (Y0.move rfl) ?_
 refine Chain.float guard_none (Y0.move rfl) ?_
 refine Chain.y0 guard_none (fun _ hle => Y0.move rfl) ?_
 refine Chain.y0 guard_none (fun _ hle => Y0.move rfl) ?_
 obtain ⟨x1, hx1, hr⟩ := hr
 refine Chain.y0 guard_none (fun _ hle => Y0.idxRow Try.underlying33 sz5 (a0_1h.mono hle) rfl rfl hx1) ?_
 refine Chain.y0 guard_none (fun _ hle => Y0.loadT sc5 (a0_1h.mono hle) (key := 5000) rfl rfl (AtK.int (RowR.at a0_1h hx1))) ?_
 refine Chain.y0 guard_none (fun _ hle => Y0.move rfl) ?_
 refine Chain.y0 guard_none (fun _ hle => Y0.move rfl) ?_
 obtain ⟨x2, hx2, hr⟩ := hr
 refine Chain.y0 guard_none (fun _ hle => Y0.idxRow Try.underlying33 sz5 (a0_1h.mono hle) rfl rfl hx2) ?_
 refine Chain.y0 guard_none (fun _ hle => Y0.loadT sc5 (a0_1h.mono hle) (key := 5000) rfl rfl (AtK.int (RowR.at a0_1h hx2))) ?_
 obtain ⟨x3, hx3, hr⟩ := hr
 refine Chain.y0 guard_none (fun _ hle => Y0.idxRow Try.underlying33 sz5 (a0_1h.mono hle) rfl rfl hx3) ?_
 refine Chain.tail0 hb ?_
 refine WL.storeT (r := (Rp.int .u8)) (e := 5) (cs' := [.int .u8 x1]) (i := a1_1) (z' := x1) 5000 guard_none sz5 rfl a0_1h rfl rfl rfl rfl rfl hx3 (fun tk1 tk1h => ?_)
 obtain ⟨x4, hx4, hr⟩ := hr
 refine yy (Y0.idxRow Try.underlying33 sz5 tk1h rfl rfl hx4) rfl ?_
 refine WL.storeT (r := (Rp.int .u8)) (e := 5) (cs' := [.int .u8 x2]) (i := a3_1) (z' := x2) 5000 guard_none sz5 rfl tk1h rfl rfl rfl rfl rfl hx4 (fun tk2 tk2h => ?_)
 refine WL.nil ?_
 refine WE.nx ?_
 refine WE.then <| sr <| mv rfl rfl <| yy (Y0.add rfl rfl) rfl <| mv rfl rfl <| yy (Y0.sub rfl rfl) rfl ?_
 refine sg rfl rfl <| sg rfl rfl <| nx <| WC.seq ?_
 refine WC.meetH (fun (gx : Int × Mem) => match gx with | ⟨v10_1, Gm1⟩ => [(0, .slice a0_1p a0_1n a0_1c), (1, .int .i64 a1_1), (10, .int .i64 v10_1), (11, .int .i64 (IntKind.i64.wrap (a2_1 - 1)))]) (fun (gx : Int × Mem) => match gx with | ⟨v10_1, Gm1⟩ => Mem.le G0 Gm1 ∧ (slices_partitionOrdered_uint8_k9 a0_1 a1_1 a2_1 a3_1 x1 x2 v10_1).Ret r) (fun (gx : Int × Mem) => match gx with | ⟨v10_1, Gm1⟩ => St w0 G0 Gm1 [(5000, tk2)]) ?_ ?_
 ·refine WC.block ?_
  let Phi5 : Int → Prop := fun oo => ((fun ov => match ov with | v10_1 => slices_partitionOrdered_uint8_k9 a0_1 a1_1 a2_1 a3_1 x1 x2 v10_1 : Int → Comp (Int × Bool × (List Int))) oo).wp (fun a => a = r)
  replace hr : (Comp.loop _ _).wp Phi5 := hr
  refine WC.loopR (Φ := Phi5) (fun (gx : Int × Mem) => match gx with | ⟨v10_5, Gm10⟩ => (v10_5 : Int)) (fun (gx : Int × Mem) => match gx with | ⟨v10_5, Gm10⟩ => [(0, .slice a0_1p a0_1n a0_1c), (1, .int .i64 a1_1), (10, .int .i64 v10_5), (11, .int .i64 (IntKind.i64.wrap (a2_1 - 1)))]) (fun (gx : Int × Mem) => match gx with | ⟨v10_5, Gm10⟩ => Mem.le G0 Gm10) (fun (gx : Int × Mem) => match gx with | ⟨v10_5, Gm10⟩ => St w0 G0 Gm10 [(5000, tk2)]) ⟨IntKind.i64.wrap (a1_1 + 1), G0⟩ hr (Fr.sub_cons rfl (Fr.sub_cons rfl (Fr.sub_cons rfl (Fr.sub_cons rfl (Fr.sub_nil _))))) (Mem.le_refl _) ?_ ?_
  ·intro w hs
   exact hs.weaken (Lo.sub_cons rfl (Lo.sub_nil _))
  ·intro Aq5 gx hx hr
   obtain ⟨v10_5, Gm10⟩ := gx
   have Gm10le := hx
   refine WC.seq <| WC.seq ?_
   refine WC.drawn [false, false, false, false, false, false, false, false, false, false, false, false, false, false] mix (by kernel_rfl) (fun hb => ?_)
   refine Chain.y0 guard_none (fun _ hle => Y0.move rfl) ?_
   refine Chain.y0 guard_none (fun _ hle => Y0.move rfl) ?_
   refine Chain.caseY0 (p := v10_5 ≤ (IntKind.i64.wrap (a2_1 - 1))) guard_none (fun _ hle => Y0.leq rfl rfl) (fun hb4 => ?_) (fun hb4 => ?_)
   ·replace hr := hr.pos hb4
    refine Chain.y0 guard_none (fun _ hle => Y0.move rfl) ?_
    refine Chain.y0 (guard_yes rfl rfl) (fun _ hle => Y0.move rfl) ?_
    refine Chain.y0 (guard_yes rfl rfl) (fun _ hle => Y0.move rfl) ?_
    obtain ⟨x27, hx27, hr⟩ := hr
    refine Chain.y0 (guard_yes rfl rfl) (fun _ hle => Y0.idxRow Try.underlying33 sz5 ((tk2h.mono Gm10le).mono hle) rfl rfl hx27) ?_
    refine Chain.y0 (guard_yes rfl rfl) (fun _ hle => Y0.loadT sc5 ((tk2h.mono Gm10le).mono hle) (key := 5000) rfl rfl (AtK.int (RowR.at tk2h hx27))) ?_
    refine Chain.y0 (guard_yes rfl rfl) (fun _ hle => Y0.move rfl) ?_
    refine Chain.y0 (guard_yes rfl rfl) (fun _ hle => Y0.move rfl) ?_
    obtain ⟨x28, hx28, hr⟩ := hr
    refine Chain.y0 (guard_yes rfl rfl) (fun _ hle => Y0.idxRow Try.underlying33 sz5 ((tk2h.mono Gm10le).mono hle) rfl rfl hx28) ?_
    refine Chain.y0 (guard_yes rfl rfl) (fun _ hle => Y0.loadT sc5 ((tk2h.mono Gm10le).mono hle) (key := 5000) rfl rfl (AtK.int (RowR.at tk2h hx28))) ?_
    obtain ⟨yv4, hyv4, hr⟩ := hr
    refine Chain.call0 (guard_yes rfl rfl) (fun _ => YC.of E119 rfl) (L_cmp_Less_uint8 _ _ _ hyv4) rfl (fun G' hle => trivial) ?_
    refine Chain.y0 guard_none (fun _ hle => Y0.pickT rfl rfl) ?_
    refine Chain.tail0 hb ?_
    refine WL.nil ?_
    refine WE.nx ?_
    refine WE.then ?_
    refine WC.cond (b := yv4) rfl (fun hc6 => ?_) (fun hc6 => ?_)
    ·replace hr := hr.pos hc6
     refine WC.skip <| WE.then <| WC.block <| WC.region <| mv rfl rfl <| yy (Y0.add rfl rfl) rfl ?_
     refine sg rfl rfl <| WL.nil ?_
     refine WE.inBlock ?_
     refine WE.backR ⟨IntKind.i64.wrap (v10_5 + 1), Gm10⟩ hr Gm10le (Fr.sub_cons rfl (Fr.sub_cons rfl (Fr.sub_cons rfl (Fr.sub_cons rfl (Fr.sub_nil _))))) ?_
     ·intro w hs
      exact hs.weaken (Lo.sub_cons rfl (Lo.sub_nil _))
    ·replace hr := hr.neg (Bool.eq_false_iff.1 hc6)
     refine WC.exit ?_
     refine WE.thenExit ?_
     refine WE.thenExit ?_
     refine WE.exitHere ?_
     refine WE.endH ⟨v10_5, Gm10⟩ ⟨Gm10le, hr⟩ (Fr.sub_cons rfl (Fr.sub_cons rfl (Fr.sub_cons rfl (Fr.sub_cons rfl (Fr.sub_nil _))))) ?_
     ·intro w hs
      exact hs.weaken (Lo.sub_cons rfl (Lo.sub_nil _))
   ·replace hr := hr.neg hb4
    refine Chain.y0 guard_none (fun _ hle => Y0.move rfl) ?_
    refine Chain.skip (guard_noT rfl rfl) ?_
    refine Chain.skip (guard_noT rfl rfl) ?_
    refine Chain.skip (guard_noT rfl rfl) ?_
    refine Chain.skip (guard_noT rfl rfl) ?_
    refine Chain.skip (guard_noT rfl rfl) ?_
    refine Chain.skip (guard_noT rfl rfl) ?_
    refine Chain.skip (guard_noT rfl rfl) ?_
    refine Chain.skip (guard_noT rfl rfl) ?_
    refine Chain.skip (guard_noT rfl rfl) ?_
    refine Chain.y0 guard_none (fun _ hle => Y0.pickF rfl rfl) ?_
    refine Chain.tail0 hb ?_
    refine WL.nil ?_
    refine WE.nx ?_
    refine WE.then ?_
    refine WC.condF rfl ?_
    refine WC.exit ?_
    refine WE.thenExit ?_
    refine WE.thenExit ?_
    refine WE.exitHere ?_
    refine WE.endH ⟨v10_5, Gm10⟩ ⟨Gm10le, hr⟩ (Fr.sub_cons rfl (Fr.sub_cons rfl (Fr.sub_cons rfl (Fr.sub_cons rfl (Fr.sub_nil _))))) ?_
    ·intro w hs
     exact hs.weaken (Lo.sub_cons rfl (Lo.sub_nil _))
 ·rintro ⟨v10_1, Gm1⟩ ⟨Gm1le, hr⟩
  refine WE.then <| WC.seq ?_
  refine WC.meetH (fun (gx : Int × Mem) => match gx with | ⟨v11_1, Gm2⟩ => [(0, .slice a0_1p a0_1n a0_1c), (1, .int .i64 a1_1), (10, .int .i64 v10_1), (11, .int .i64 v11_1)]) (fun (gx : Int × Mem) => match gx with | ⟨v11_1, Gm2⟩ => Mem.le Gm1 Gm2 ∧ (slices_partitionOrdered_uint8_k7 a0_1 a1_1 a3_1 x1 x2 v10_1 v11_1).Ret r) (fun (gx : Int × Mem) => match gx with | ⟨v11_1, Gm2⟩ => St w0 G0 Gm2 [(5000, tk2)]) ?_ ?_
  ·refine WC.block ?_
   let Phi4 : Int → Prop := fun oo => ((fun ov => match ov with | v11_1 => slices_partitionOrdered_uint8_k7 a0_1 a1_1 a3_1 x1 x2 v10_1 v11_1 : Int → Comp (Int × Bool × (List Int))) oo).wp (fun a => a = r)
   replace hr : (Comp.loop _ _).wp Phi4 := hr
   refine WC.loopR (Φ := Phi4) (fun (gx : Int × Mem) => match gx with | ⟨v11_6, Gm9⟩ => (v11_6 : Int)) (fun (gx : Int × Mem) => match gx with | ⟨v11_6, Gm9⟩ => [(0, .slice a0_1p a0_1n a0_1c), (1, .int .i64 a1_1), (10, .int .i64 v10_1), (11, .int .i64 v11_6)]) (fun (gx : Int × Mem) => match gx with | ⟨v11_6, Gm9⟩ => Mem.le Gm1 Gm9) (fun (gx : Int × Mem) => match gx with | ⟨v11_6, Gm9⟩ => St w0 G0 Gm9 [(5000, tk2)]) ⟨IntKind.i64.wrap (a2_1 - 1), Gm1⟩ hr (Fr.sub_cons rfl (Fr.sub_cons rfl (Fr.sub_cons rfl (Fr.sub_cons rfl (Fr.sub_nil _))))) (Mem.le_refl _) ?_ ?_
   ·intro w hs
    exact hs.weaken (Lo.sub_cons rfl (Lo.sub_nil _))
   ·intro Aq4 gx hx hr
    obtain ⟨v11_6, Gm9⟩ := gx
    have Gm9le := hx
    refine WC.seq <| WC.seq ?_
    refine WC.drawn [false, false, false, false, false, false, false, false, false, false, false, false, false, false, false] mix (by kernel_rfl) (fun hb => ?_)
    refine Chain.y0 guard_none (fun _ hle => Y0.move rfl) ?_
    refine Chain.y0 guard_none (fun _ hle => Y0.move rfl) ?_
    refine Chain.caseY0 (p := v10_1 ≤ v11_6) guard_none (fun _ hle => Y0.leq rfl rfl) (fun hb3 => ?_) (fun hb3 => ?_)
    ·replace hr := hr.pos hb3
     refine Chain.y0 guard_none (fun _ hle => Y0.move rfl) ?_
     refine Chain.y0 (guard_yes rfl rfl) (fun _ hle => Y0.move rfl) ?_
     refine Chain.y0 (guard_yes rfl rfl) (fun _ hle => Y0.move rfl) ?_
     obtain ⟨x25, hx25, hr⟩ := hr
     refine Chain.y0 (guard_yes rfl rfl) (fun _ hle => Y0.idxRow Try.underlying33 sz5 ((tk2h.mono (Mem.le_trans Gm1le Gm9le)).mono hle) rfl rfl hx25) ?_
     refine Chain.y0 (guard_yes rfl rfl) (fun _ hle => Y0.loadT sc5 ((tk2h.mono (Mem.le_trans Gm1le Gm9le)).mono hle) (key := 5000) rfl rfl (AtK.int (RowR.at tk2h hx25))) ?_
     refine Chain.y0 (guard_yes rfl rfl) (fun _ hle => Y0.move rfl) ?_
     refine Chain.y0 (guard_yes rfl rfl) (fun _ hle => Y0.move rfl) ?_
     obtain ⟨x26, hx26, hr⟩ := hr
     refine Chain.y0 (guard_yes rfl rfl) (fun _ hle => Y0.idxRow Try.underlying33 sz5 ((tk2h.mono (Mem.le_trans Gm1le Gm9le)).mono hle) rfl rfl hx26) ?_
     refine Chain.y0 (guard_yes rfl rfl) (fun _ hle => Y0.loadT sc5 ((tk2h.mono (Mem.le_trans Gm1le Gm9le)).mono hle) (key := 5000) rfl rfl (AtK.int (RowR.at tk2h hx26))) ?_
     obtain ⟨yv3, hyv3, hr⟩ := hr
     refine Chain.call0 (guard_yes rfl rfl) (fun _ => YC.of E119 rfl) (L_cmp_Less_uint8 _ _ _ hyv3) rfl (fun G' hle => trivial) ?_
     refine Chain.y0 (guard_yes rfl rfl) (fun _ hle => Y0.not rfl) ?_
     refine Chain.y0 guard_none (fun _ hle => Y0.pickT rfl rfl) ?_
     refine Chain.tail0 hb ?_
     refine WL.nil ?_
     refine WE.nx ?_
     refine WE.then ?_
     refine WC.cond (b := !yv3) rfl (fun hc5 => ?_) (fun hc5 => ?_)
     ·replace hr := hr.pos hc5
      refine WC.skip <| WE.then <| WC.block <| WC.region <| mv rfl rfl <| yy (Y0.sub rfl rfl) rfl ?_
      refine sg rfl rfl <| WL.nil ?_
      refine WE.inBlock ?_
      refine WE.backR ⟨IntKind.i64.wrap (v11_6 - 1), Gm9⟩ hr Gm9le (Fr.sub_cons rfl (Fr.sub_cons rfl (Fr.sub_cons rfl (Fr.sub_cons rfl (Fr.sub_nil _))))) ?_
      ·intro w hs
       exact hs.weaken (Lo.sub_cons rfl (Lo.sub_nil _))
     ·replace hr := hr.neg (Bool.eq_false_iff.1 hc5)
      refine WC.exit ?_
      refine WE.thenExit ?_
      refine WE.thenExit ?_
      refine WE.exitHere ?_
      refine WE.endH ⟨v11_6, Gm9⟩ ⟨Gm9le, hr⟩ (Fr.sub_cons rfl (Fr.sub_cons rfl (Fr.sub_cons rfl (Fr.sub_cons rfl (Fr.sub_nil _))))) ?_
      ·intro w hs
       exact hs.weaken (Lo.sub_cons rfl (Lo.sub_nil _))
    ·replace hr := hr.neg hb3
     refine Chain.y0 guard_none (fun _ hle => Y0.move rfl) ?_
     refine Chain.skip (guard_noT rfl rfl) ?_
     refine Chain.skip (guard_noT rfl rfl) ?_
     refine Chain.skip (guard_noT rfl rfl) ?_
     refine Chain.skip (guard_noT rfl rfl) ?_
     refine Chain.skip (guard_noT rfl rfl) ?_
     refine Chain.skip (guard_noT rfl rfl) ?_
     refine Chain.skip (guard_noT rfl rfl) ?_
     refine Chain.skip (guard_noT rfl rfl) ?_
     refine Chain.skip (guard_noT rfl rfl) ?_
     refine Chain.skip (guard_noT rfl rfl) ?_
     refine Chain.y0 guard_none (fun _ hle => Y0.pickF rfl rfl) ?_
     refine Chain.tail0 hb ?_
     refine WL.nil ?_
     refine WE.nx ?_
     refine WE.then ?_
     refine WC.condF rfl ?_
     refine WC.exit ?_
     refine WE.thenExit ?_
     refine WE.thenExit ?_
     refine WE.exitHere ?_
     refine WE.endH ⟨v11_6, Gm9⟩ ⟨Gm9le, hr⟩ (Fr.sub_cons rfl (Fr.sub_cons rfl (Fr.sub_cons rfl (Fr.sub_cons rfl (Fr.sub_nil _))))) ?_
     ·intro w hs
      exact hs.weaken (Lo.sub_cons rfl (Lo.sub_nil _))
  ·rintro ⟨v11_1, Gm2⟩ ⟨Gm2le, hr⟩
   refine WE.then <| WC.seq <| sr <| mv rfl rfl <| mv rfl rfl <| yy (Y0.gtr rfl rfl) rfl ?_
   refine nx ?_
   refine WC.condD (p := v11_1 < v10_1) rfl (fun hc1 => ?_) (fun hc1 => ?_)
   ·replace hr := hr.pos hc1
    refine WC.seq ?_
    refine WC.drawn [false, false, true, true, false, false, false, false, false, false, false, false, false] mix (by kernel_rfl) (fun hb => ?_)
    refine Chain.y0 guard_none (fun _ hle => Y0.move rfl) ?_
    refine Chain.y0 guard_none (fun _ hle => Y0.move rfl) ?_
    refine Chain.float guard_none (Y0.move rfl) ?_
    refine Chain.float guard_none (Y0.move rfl) ?_
    refine Chain.y0 guard_none (fun _ hle => Y0.move rfl) ?_
    refine Chain.y0 guard_none (fun _ hle => Y0.move rfl) ?_
    obtain ⟨x5, hx5, hr⟩ := hr
    refine Chain.y0 guard_none (fun _ hle => Y0.idxRow Try.underlying33 sz5 ((tk2h.mono (Mem.le_trans Gm1le Gm2le)).mono hle) rfl rfl hx5) ?_
    refine Chain.y0 guard_none (fun _ hle => Y0.loadT sc5 ((tk2h.mono (Mem.le_trans Gm1le Gm2le)).mono hle) (key := 5000) rfl rfl (AtK.int (RowR.at tk2h hx5))) ?_
    refine Chain.y0 guard_none (fun _ hle => Y0.move rfl) ?_
    refine Chain.y0 guard_none (fun _ hle => Y0.move rfl) ?_
    obtain ⟨x6, hx6, hr⟩ := hr
    refine Chain.y0 guard_none (fun _ hle => Y0.idxRow Try.underlying33 sz5 ((tk2h.mono (Mem.le_trans Gm1le Gm2le)).mono hle) rfl rfl hx6) ?_
    refine Chain.y0 guard_none (fun _ hle => Y0.loadT sc5 ((tk2h.mono (Mem.le_trans Gm1le Gm2le)).mono hle) (key := 5000) rfl rfl (AtK.int (RowR.at tk2h hx6))) ?_
    obtain ⟨x7, hx7, hr⟩ := hr
    refine Chain.y0 guard_none (fun _ hle => Y0.idxRow Try.underlying33 sz5 ((tk2h.mono (Mem.le_trans Gm1le Gm2le)).mono hle) rfl rfl hx7) ?_
    refine Chain.tail0 hb ?_
    refine WL.storeT (r := (Rp.int .u8)) (e := 5) (cs' := [.int .u8 x5]) (i := v11_1) (z' := x5) 5000 guard_none sz5 rfl (tk2h.mono (Mem.le_trans Gm1le Gm2le)) rfl rfl rfl rfl rfl hx7 (fun tk3 tk3h => ?_)
    obtain ⟨x8, hx8, hr⟩ := hr
    refine yy (Y0.idxRow Try.underlying33 sz5 tk3h rfl rfl hx8) rfl ?_
    refine WL.storeT (r := (Rp.int .u8)) (e := 5) (cs' := [.int .u8 x6]) (i := a1_1) (z' := x6) 5000 guard_none sz5 rfl tk3h rfl rfl rfl rfl rfl hx8 (fun tk4 tk4h => ?_)
    refine WL.nil ?_
    refine WE.nx ?_
    refine WE.then <| sr <| mv rfl rfl <| sg rfl rfl <| sg rfl rfl <| nx ?_
    refine WC.ret ?_
    replace hr : _ = r := hr
    refine WE.thenRet ?_
    subst hr
    refine WE.conseq (S' := St w0 G0 Gm2 [(5000, tk4)]) ?_ ?_
    ·intro w hs
     exact hs.weaken (Lo.sub_cons rfl (Lo.sub_nil _))
    exact WE.ret2 rfl rfl rfl ⟨_, rfl, rfl, tk4h⟩
   ·replace hr := hr.neg hc1
    refine WC.skip <| WE.then <| WC.seq ?_
    refine WC.drawn [false, false, true, true, false, false, false, false, false, false, false, false, false] mix (by kernel_rfl) (fun hb => ?_)
    refine Chain.y0 guard_none (fun _ hle => Y0.move rfl) ?_
    refine Chain.y0 guard_none (fun _ hle => Y0.move rfl) ?_
    refine Chain.float guard_none (Y0.move rfl) ?_
    refine Chain.float guard_none (Y0.move rfl) ?_
    refine Chain.y0 guard_none (fun _ hle => Y0.move rfl) ?_
    refine Chain.y0 guard_none (fun _ hle => Y0.move rfl) ?_
    obtain ⟨x9, hx9, hr⟩ := hr
    refine Chain.y0 guard_none (fun _ hle => Y0.idxRow Try.underlying33 sz5 ((tk2h.mono (Mem.le_trans Gm1le Gm2le)).mono hle) rfl rfl hx9) ?_
    refine Chain.y0 guard_none (fun _ hle => Y0.loadT sc5 ((tk2h.mono (Mem.le_trans Gm1le Gm2le)).mono hle) (key := 5000) rfl rfl (AtK.int (RowR.at tk2h hx9))) ?_
    refine Chain.y0 guard_none (fun _ hle => Y0.move rfl) ?_
    refine Chain.y0 guard_none (fun _ hle => Y0.move rfl) ?_
    obtain ⟨x10, hx10, hr⟩ := hr
    refine Chain.y0 guard_none (fun _ hle => Y0.idxRow Try.underlying33 sz5 ((tk2h.mono (Mem.le_trans Gm1le Gm2le)).mono hle) rfl rfl hx10) ?_
    refine Chain.y0 guard_none (fun _ hle => Y0.loadT sc5 ((tk2h.mono (Mem.le_trans Gm1le Gm2le)).mono hle) (key := 5000) rfl rfl (AtK.int (RowR.at tk2h hx10))) ?_
    obtain ⟨x11, hx11, hr⟩ := hr
    refine Chain.y0 guard_none (fun _ hle => Y0.idxRow Try.underlying33 sz5 ((tk2h.mono (Mem.le_trans Gm1le Gm2le)).mono hle) rfl rfl hx11) ?_
    refine Chain.tail0 hb ?_
    refine WL.storeT (r := (Rp.int .u8)) (e := 5) (cs' := [.int .u8 x9]) (i := v10_1) (z' := x9) 5000 guard_none sz5 rfl (tk2h.mono (Mem.le_trans Gm1le Gm2le)) rfl rfl rfl rfl rfl hx11 (fun tk5 tk5h => ?_)
    obtain ⟨x12, hx12, hr⟩ := hr
    refine yy (Y0.idxRow Try.underlying33 sz5 tk5h rfl rfl hx12) rfl ?_
    refine WL.storeT (r := (Rp.int .u8)) (e := 5) (cs' := [.int .u8 x10]) (i := v11_1) (z' := x10) 5000 guard_none sz5 rfl tk5h rfl rfl rfl rfl rfl hx12 (fun tk6 tk6h => ?_)
    refine WL.nil ?_
    refine WE.nx ?_
    refine WE.then <| sr <| mv rfl rfl <| yy (Y0.add rfl rfl) rfl <| sg rfl rfl <| nr ?_
    refine mv rfl rfl <| yy (Y0.sub rfl rfl) rfl <| sg rfl rfl <| nx <| WC.seq ?_
    refine WC.meetH (fun (gx : (List Int) × Option Ow × Int × Mem) => match gx with | ⟨v0_1, v0_1tk, v11_2, Gm3⟩ => [(0, .slice a0_1p a0_1n a0_1c), (1, .int .i64 a1_1), (11, .int .i64 v11_2)]) (fun (gx : (List Int) × Option Ow × Int × Mem) => match gx with | ⟨v0_1, v0_1tk, v11_2, Gm3⟩ => Mem.le Gm2 Gm3 ∧ RowR (Rp.int .u8) 5 Gm3 (.slice a0_1p a0_1n a0_1c) v0_1 v0_1tk ∧ (slices_partitionOrdered_uint8_k1 a1_1 v0_1 v11_2).Ret r) (fun (gx : (List Int) × Option Ow × Int × Mem) => match gx with | ⟨v0_1, v0_1tk, v11_2, Gm3⟩ => St w0 G0 Gm3 [(5000, v0_1tk)]) ?_ ?_
    ·refine WC.block ?_
     let Phi1 : (((List Int) × Int)) → Prop := fun oo => ((fun ov => match ov with | (v0_1, v11_2) => slices_partitionOrdered_uint8_k1 a1_1 v0_1 v11_2 : (((List Int) × Int)) → Comp (Int × Bool × (List Int))) oo).wp (fun a => a = r)
     replace hr : (Comp.loop _ _).wp Phi1 := hr
     refine WC.loopR (Φ := Phi1) (fun (gx : (List Int) × Option Ow × Int × Int × Mem) => match gx with | ⟨v0_2, v0_2tk, v10_2, v11_3, Gm4⟩ => ((v0_2, v10_2, v11_3) : (List Int) × Int × Int)) (fun (gx : (List Int) × Option Ow × Int × Int × Mem) => match gx with | ⟨v0_2, v0_2tk, v10_2, v11_3, Gm4⟩ => [(0, .slice a0_1p a0_1n a0_1c), (1, .int .i64 a1_1), (10, .int .i64 v10_2), (11, .int .i64 v11_3)]) (fun (gx : (List Int) × Option Ow × Int × Int × Mem) => match gx with | ⟨v0_2, v0_2tk, v10_2, v11_3, Gm4⟩ => Mem.le Gm2 Gm4 ∧ RowR (Rp.int .u8) 5 Gm4 (.slice a0_1p a0_1n a0_1c) v0_2 v0_2tk) (fun (gx : (List Int) × Option Ow × Int × Int × Mem) => match gx with | ⟨v0_2, v0_2tk, v10_2, v11_3, Gm4⟩ => St w0 G0 Gm4 [(5000, v0_2tk)]) ⟨((((a0_1.set a1_1.toNat x1).set a3_1.toNat x2).set v10_1.toNat x9).set v11_1.toNat x10), tk6, IntKind.i64.wrap (v10_1 + 1), IntKind.i64.wrap (v11_1 - 1), Gm2⟩ hr (Fr.sub_cons rfl (Fr.sub_cons rfl (Fr.sub_cons rfl (Fr.sub_cons rfl (Fr.sub_nil _))))) ⟨(Mem.le_refl _), tk6h⟩ ?_ ?_
     ·intro w hs
      exact hs.weaken (Lo.sub_cons rfl (Lo.sub_nil _))
     ·intro Aq1 gx hx hr
      obtain ⟨v0_2, v0_2tk, v10_2, v11_3, Gm4⟩ := gx
      obtain ⟨Gm4le, v0_2h⟩ := hx
      refine WC.block <| WC.seq ?_
      refine WC.meetH (fun (gx : Int × Mem) => match gx with | ⟨v10_3, Gm5⟩ => [(0, .slice a0_1p a0_1n a0_1c), (1, .int .i64 a1_1), (10, .int .i64 v10_3), (11, .int .i64 v11_3)]) (fun (gx : Int × Mem) => match gx with | ⟨v10_3, Gm5⟩ => Mem.le Gm4 Gm5 ∧ (slices_partitionOrdered_uint8_k5 a1_1 v0_2 v11_3 v10_3).wp (Out Aq1 Phi1)) (fun (gx : Int × Mem) => match gx with | ⟨v10_3, Gm5⟩ => St w0 G0 Gm5 [(5000, v0_2tk)]) ?_ ?_
      ·refine WC.block ?_
       let Phi3 : Int → Prop := fun oo => ((fun ov => match ov with | v10_3 => slices_partitionOrdered_uint8_k5 a1_1 v0_2 v11_3 v10_3 : Int → Comp (((List Int) × Int × Int) ⊕ (((List Int) × Int)))) oo).wp (Out Aq1 Phi1)
       replace hr : (Comp.loop _ _).wp Phi3 := hr
       refine WC.loopR (Φ := Phi3) (fun (gx : Int × Mem) => match gx with | ⟨v10_4, Gm8⟩ => (v10_4 : Int)) (fun (gx : Int × Mem) => match gx with | ⟨v10_4, Gm8⟩ => [(0, .slice a0_1p a0_1n a0_1c), (1, .int .i64 a1_1), (10, .int .i64 v10_4), (11, .int .i64 v11_3)]) (fun (gx : Int × Mem) => match gx with | ⟨v10_4, Gm8⟩ => Mem.le Gm4 Gm8) (fun (gx : Int × Mem) => match gx with | ⟨v10_4, Gm8⟩ => St w0 G0 Gm8 [(5000, v0_2tk)]) ⟨v10_2, Gm4⟩ hr (Fr.sub_cons rfl (Fr.sub_cons rfl (Fr.sub_cons rfl (Fr.sub_cons rfl (Fr.sub_nil _))))) (Mem.le_refl _) ?_ ?_
       ·intro w hs
        exact hs.weaken (Lo.sub_cons rfl (Lo.sub_nil _))
       ·intro Aq3 gx hx hr
        obtain ⟨v10_4, Gm8⟩ := gx
        have Gm8le := hx
        refine WC.seq <| WC.seq ?_
        refine WC.drawn [false, false, false, false, false, false, false, false, false, false, false, false, false, false] mix (by kernel_rfl) (fun hb => ?_)
        refine Chain.y0 guard_none (fun _ hle => Y0.move rfl) ?_
        refine Chain.y0 guard_none (fun _ hle => Y0.move rfl) ?_
        refine Chain.caseY0 (p := v10_4 ≤ v11_3) guard_none (fun _ hle => Y0.leq rfl rfl) (fun hb2 => ?_) (fun hb2 => ?_)
        ·replace hr := hr.pos hb2
         refine Chain.y0 guard_none (fun _ hle => Y0.move rfl) ?_
         refine Chain.y0 (guard_yes rfl rfl) (fun _ hle => Y0.move rfl) ?_
         refine Chain.y0 (guard_yes rfl rfl) (fun _ hle => Y0.move rfl) ?_
         obtain ⟨x23, hx23, hr⟩ := hr
         refine Chain.y0 (guard_yes rfl rfl) (fun _ hle => Y0.idxRow Try.underlying33 sz5 ((v0_2h.mono Gm8le).mono hle) rfl rfl hx23) ?_
         refine Chain.y0 (guard_yes rfl rfl) (fun _ hle => Y0.loadT sc5 ((v0_2h.mono Gm8le).mono hle) (key := 5000) rfl rfl (AtK.int (RowR.at v0_2h hx23))) ?_
         refine Chain.y0 (guard_yes rfl rfl) (fun _ hle => Y0.move rfl) ?_
         refine Chain.y0 (guard_yes rfl rfl) (fun _ hle => Y0.move rfl) ?_
         obtain ⟨x24, hx24, hr⟩ := hr
         refine Chain.y0 (guard_yes rfl rfl) (fun _ hle => Y0.idxRow Try.underlying33 sz5 ((v0_2h.mono Gm8le).mono hle) rfl rfl hx24) ?_
         refine Chain.y0 (guard_yes rfl rfl) (fun _ hle => Y0.loadT sc5 ((v0_2h.mono Gm8le).mono hle) (key := 5000) rfl rfl (AtK.int (RowR.at v0_2h hx24))) ?_
         obtain ⟨yv2, hyv2, hr⟩ := hr
         refine Chain.call0 (guard_yes rfl rfl) (fun _ => YC.of E119 rfl) (L_cmp_Less_uint8 _ _ _ hyv2) rfl (fun G' hle => trivial) ?_
         refine Chain.y0 guard_none (fun _ hle => Y0.pickT rfl rfl) ?_
         refine Chain.tail0 hb ?_
         refine WL.nil ?_
         refine WE.nx ?_
         refine WE.then ?_
         refine WC.cond (b := yv2) rfl (fun hc4 => ?_) (fun hc4 => ?_)
         ·replace hr := hr.pos hc4
          refine WC.skip <| WE.then <| WC.block <| WC.region <| mv rfl rfl <| yy (Y0.add rfl rfl) rfl ?_
          refine sg rfl rfl <| WL.nil ?_
          refine WE.inBlock ?_
          refine WE.backR ⟨IntKind.i64.wrap (v10_4 + 1), Gm8⟩ hr Gm8le (Fr.sub_cons rfl (Fr.sub_cons rfl (Fr.sub_cons rfl (Fr.sub_cons rfl (Fr.sub_nil _))))) ?_
          ·intro w hs
           exact hs.weaken (Lo.sub_cons rfl (Lo.sub_nil _))
         ·replace hr := hr.neg (Bool.eq_false_iff.1 hc4)
          refine WC.exit ?_
          refine WE.thenExit ?_
          refine WE.thenExit ?_
          refine WE.exitHere ?_
          refine WE.endH ⟨v10_4, Gm8⟩ ⟨Gm8le, hr⟩ (Fr.sub_cons rfl (Fr.sub_cons rfl (Fr.sub_cons rfl (Fr.sub_cons rfl (Fr.sub_nil _))))) ?_
          ·intro w hs
           exact hs.weaken (Lo.sub_cons rfl (Lo.sub_nil _))
        ·replace hr := hr.neg hb2
         refine Chain.y0 guard_none (fun _ hle => Y0.move rfl) ?_
         refine Chain.skip (guard_noT rfl rfl) ?_
         refine Chain.skip (guard_noT rfl rfl) ?_
         refine Chain.skip (guard_noT rfl rfl) ?_
         refine Chain.skip (guard_noT rfl rfl) ?_
         refine Chain.skip (guard_noT rfl rfl) ?_
         refine Chain.skip (guard_noT rfl rfl) ?_
         refine Chain.skip (guard_noT rfl rfl) ?_
         refine Chain.skip (guard_noT rfl rfl) ?_
         refine Chain.skip (guard_noT rfl rfl) ?_
         refine Chain.y0 guard_none (fun _ hle => Y0.pickF rfl rfl) ?_
         refine Chain.tail0 hb ?_
         refine WL.nil ?_
         refine WE.nx ?_
         refine WE.then ?_
         refine WC.condF rfl ?_
         refine WC.exit ?_
         refine WE.thenExit ?_
         refine WE.thenExit ?_
         refine WE.exitHere ?_
         refine WE.endH ⟨v10_4, Gm8⟩ ⟨Gm8le, hr⟩ (Fr.sub_cons rfl (Fr.sub_cons rfl (Fr.sub_cons rfl (Fr.sub_cons rfl (Fr.sub_nil _))))) ?_
         ·intro w hs
          exact hs.weaken (Lo.sub_cons rfl (Lo.sub_nil _))
      ·rintro ⟨v10_3, Gm5⟩ ⟨Gm5le, hr⟩
       refine WE.then <| WC.seq ?_
       refine WC.meetH (fun (gx : Int × Mem) => match gx with | ⟨v11_4, Gm6⟩ => [(0, .slice a0_1p a0_1n a0_1c), (1, .int .i64 a1_1), (10, .int .i64 v10_3), (11, .int .i64 v11_4)]) (fun (gx : Int × Mem) => match gx with | ⟨v11_4, Gm6⟩ => Mem.le Gm5 Gm6 ∧ (slices_partitionOrdered_uint8_k3 v0_2 v10_3 v11_4).wp (Out Aq1 Phi1)) (fun (gx : Int × Mem) => match gx with | ⟨v11_4, Gm6⟩ => St w0 G0 Gm6 [(5000, v0_2tk)]) ?_ ?_
       ·refine WC.block ?_
        let Phi2 : Int → Prop := fun oo => ((fun ov => match ov with | v11_4 => slices_partitionOrdered_uint8_k3 v0_2 v10_3 v11_4 : Int → Comp (((List Int) × Int × Int) ⊕ (((List Int) × Int)))) oo).wp (Out Aq1 Phi1)
        replace hr : (Comp.loop _ _).wp Phi2 := hr
        refine WC.loopR (Φ := Phi2) (fun (gx : Int × Mem) => match gx with | ⟨v11_5, Gm7⟩ => (v11_5 : Int)) (fun (gx : Int × Mem) => match gx with | ⟨v11_5, Gm7⟩ => [(0, .slice a0_1p a0_1n a0_1c), (1, .int .i64 a1_1), (10, .int .i64 v10_3), (11, .int .i64 v11_5)]) (fun (gx : Int × Mem) => match gx with | ⟨v11_5, Gm7⟩ => Mem.le Gm5 Gm7) (fun (gx : Int × Mem) => match gx with | ⟨v11_5, Gm7⟩ => St w0 G0 Gm7 [(5000, v0_2tk)]) ⟨v11_3, Gm5⟩ hr (Fr.sub_cons rfl (Fr.sub_cons rfl (Fr.sub_cons rfl (Fr.sub_cons rfl (Fr.sub_nil _))))) (Mem.le_refl _) ?_ ?_
        ·intro w hs
         exact hs.weaken (Lo.sub_cons rfl (Lo.sub_nil _))
        ·intro Aq2 gx hx hr
         obtain ⟨v11_5, Gm7⟩ := gx
         have Gm7le := hx
         refine WC.seq <| WC.seq ?_
         refine WC.drawn [false, false, false, false, false, false, false, false, false, false, false, false, false, false, false] mix (by kernel_rfl) (fun hb => ?_)
         refine Chain.y0 guard_none (fun _ hle => Y0.move rfl) ?_
         refine Chain.y0 guard_none (fun _ hle => Y0.move rfl) ?_
         refine Chain.caseY0 (p := v10_3 ≤ v11_5) guard_none (fun _ hle => Y0.leq rfl rfl) (fun hb1 => ?_) (fun hb1 => ?_)
         ·replace hr := hr.pos hb1
          refine Chain.y0 guard_none (fun _ hle => Y0.move rfl) ?_
          refine Chain.y0 (guard_yes rfl rfl) (fun _ hle => Y0.move rfl) ?_
          refine Chain.y0 (guard_yes rfl rfl) (fun _ hle => Y0.move rfl) ?_
          obtain ⟨x21, hx21, hr⟩ := hr
          refine Chain.y0 (guard_yes rfl rfl) (fun _ hle => Y0.idxRow Try.underlying33 sz5 ((v0_2h.mono (Mem.le_trans Gm5le Gm7le)).mono hle) rfl rfl hx21) ?_
          refine Chain.y0 (guard_yes rfl rfl) (fun _ hle => Y0.loadT sc5 ((v0_2h.mono (Mem.le_trans Gm5le Gm7le)).mono hle) (key := 5000) rfl rfl (AtK.int (RowR.at v0_2h hx21))) ?_
          refine Chain.y0 (guard_yes rfl rfl) (fun _ hle => Y0.move rfl) ?_
          refine Chain.y0 (guard_yes rfl rfl) (fun _ hle => Y0.move rfl) ?_
          obtain ⟨x22, hx22, hr⟩ := hr
          refine Chain.y0 (guard_yes rfl rfl) (fun _ hle => Y0.idxRow Try.underlying33 sz5 ((v0_2h.mono (Mem.le_trans Gm5le Gm7le)).mono hle) rfl rfl hx22) ?_
          refine Chain.y0 (guard_yes rfl rfl) (fun _ hle => Y0.loadT sc5 ((v0_2h.mono (Mem.le_trans Gm5le Gm7le)).mono hle) (key := 5000) rfl rfl (AtK.int (RowR.at v0_2h hx22))) ?_
          obtain ⟨yv1, hyv1, hr⟩ := hr
          refine Chain.call0 (guard_yes rfl rfl) (fun _ => YC.of E119 rfl) (L_cmp_Less_uint8 _ _ _ hyv1) rfl (fun G' hle => trivial) ?_
          refine Chain.y0 (guard_yes rfl rfl) (fun _ hle => Y0.not rfl) ?_
          refine Chain.y0 guard_none (fun _ hle => Y0.pickT rfl rfl) ?_
          refine Chain.tail0 hb ?_
          refine WL.nil ?_
          refine WE.nx ?_
          refine WE.then ?_
          refine WC.cond (b := !yv1) rfl (fun hc3 => ?_) (fun hc3 => ?_)
          ·replace hr := hr.pos hc3
           refine WC.skip <| WE.then <| WC.block <| WC.region <| mv rfl rfl <| yy (Y0.sub rfl rfl) rfl ?_
           refine sg rfl rfl <| WL.nil ?_
           refine WE.inBlock ?_
           refine WE.backR ⟨IntKind.i64.wrap (v11_5 - 1), Gm7⟩ hr Gm7le (Fr.sub_cons rfl (Fr.sub_cons rfl (Fr.sub_cons rfl (Fr.sub_cons rfl (Fr.sub_nil _))))) ?_
           ·intro w hs
            exact hs.weaken (Lo.sub_cons rfl (Lo.sub_nil _))
          ·replace hr := hr.neg (Bool.eq_false_iff.1 hc3)
           refine WC.exit ?_
           refine WE.thenExit ?_
           refine WE.thenExit ?_
           refine WE.exitHere ?_
           refine WE.endH ⟨v11_5, Gm7⟩ ⟨Gm7le, hr⟩ (Fr.sub_cons rfl (Fr.sub_cons rfl (Fr.sub_cons rfl (Fr.sub_cons rfl (Fr.sub_nil _))))) ?_
           ·intro w hs
            exact hs.weaken (Lo.sub_cons rfl (Lo.sub_nil _))
         ·replace hr := hr.neg hb1
          refine Chain.y0 guard_none (fun _ hle => Y0.move rfl) ?_
          refine Chain.skip (guard_noT rfl rfl) ?_
          refine Chain.skip (guard_noT rfl rfl) ?_
          refine Chain.skip (guard_noT rfl rfl) ?_
          refine Chain.skip (guard_noT rfl rfl) ?_
          refine Chain.skip (guard_noT rfl rfl) ?_
          refine Chain.skip (guard_noT rfl rfl) ?_
          refine Chain.skip (guard_noT rfl rfl) ?_
          refine Chain.skip (guard_noT rfl rfl) ?_
          refine Chain.skip (guard_noT rfl rfl) ?_
          refine Chain.skip (guard_noT rfl rfl) ?_
          refine Chain.y0 guard_none (fun _ hle => Y0.pickF rfl rfl) ?_
          refine Chain.tail0 hb ?_
          refine WL.nil ?_
          refine WE.nx ?_
          refine WE.then ?_
          refine WC.condF rfl ?_
          refine WC.exit ?_
          refine WE.thenExit ?_
          refine WE.thenExit ?_
          refine WE.exitHere ?_
          refine WE.endH ⟨v11_5, Gm7⟩ ⟨Gm7le, hr⟩ (Fr.sub_cons rfl (Fr.sub_cons rfl (Fr.sub_cons rfl (Fr.sub_cons rfl (Fr.sub_nil _))))) ?_
          ·intro w hs
           exact hs.weaken (Lo.sub_cons rfl (Lo.sub_nil _))
       ·rintro ⟨v11_4, Gm6⟩ ⟨Gm6le, hr⟩
        refine WE.then <| WC.seq <| sr <| mv rfl rfl <| mv rfl rfl <| yy (Y0.gtr rfl rfl) rfl ?_
        refine nx ?_
        refine WC.condD (p := v11_4 < v10_3) rfl (fun hc2 => ?_) (fun hc2 => ?_)
        ·replace hr := hr.pos hc2
         refine WC.exit ?_
         refine WE.thenExit ?_
         refine WE.exitOut rfl ?_
         refine WE.thenExit ?_
         refine WE.exitHere ?_
         refine WE.endH ⟨v0_2, v0_2tk, v11_4, Gm6⟩ ⟨(Mem.le_trans (Mem.le_trans Gm4le Gm5le) Gm6le), (v0_2h.mono (Mem.le_trans Gm5le Gm6le)), hr⟩ (Fr.sub_cons rfl (Fr.sub_cons rfl (Fr.sub_cons rfl (Fr.sub_nil _)))) ?_
         ·intro w hs
          exact hs.weaken (Lo.sub_cons rfl (Lo.sub_nil _))
        ·replace hr := hr.neg hc2
         refine WC.skip <| WE.then <| WC.seq ?_
         refine WC.drawn [false, false, true, true, false, false, false, false, false, false, false, false, false] mix (by kernel_rfl) (fun hb => ?_)
         refine Chain.y0 guard_none (fun _ hle => Y0.move rfl) ?_
         refine Chain.y0 guard_none (fun _ hle => Y0.move rfl) ?_
         refine Chain.float guard_none (Y0.move rfl) ?_
         refine Chain.float guard_none (Y0.move rfl) ?_
         refine Chain.y0 guard_none (fun _ hle => Y0.move rfl) ?_
         refine Chain.y0 guard_none (fun _ hle => Y0.move rfl) ?_
         obtain ⟨x17, hx17, hr⟩ := hr
         refine Chain.y0 guard_none (fun _ hle => Y0.idxRow Try.underlying33 sz5 ((v0_2h.mono (Mem.le_trans Gm5le Gm6le)).mono hle) rfl rfl hx17) ?_
         refine Chain.y0 guard_none (fun _ hle => Y0.loadT sc5 ((v0_2h.mono (Mem.le_trans Gm5le Gm6le)).mono hle) (key := 5000) rfl rfl (AtK.int (RowR.at v0_2h hx17))) ?_
         refine Chain.y0 guard_none (fun _ hle => Y0.move rfl) ?_
         refine Chain.y0 guard_none (fun _ hle => Y0.move rfl) ?_
         obtain ⟨x18, hx18, hr⟩ := hr
         refine Chain.y0 guard_none (fun _ hle => Y0.idxRow Try.underlying33 sz5 ((v0_2h.mono (Mem.le_trans Gm5le Gm6le)).mono hle) rfl rfl hx18) ?_
         refine Chain.y0 guard_none (fun _ hle => Y0.loadT sc5 ((v0_2h.mono (Mem.le_trans Gm5le Gm6le)).mono hle) (key := 5000) rfl rfl (AtK.int (RowR.at v0_2h hx18))) ?_
         obtain ⟨x19, hx19, hr⟩ := hr
         refine Chain.y0 guard_none (fun _ hle => Y0.idxRow Try.underlying33 sz5 ((v0_2h.mono (Mem.le_trans Gm5le Gm6le)).mono hle) rfl rfl hx19) ?_
         refine Chain.tail0 hb ?_
         refine WL.storeT (r := (Rp.int .u8)) (e := 5) (cs' := [.int .u8 x17]) (i := v10_3) (z' := x17) 5000 guard_none sz5 rfl (v0_2h.mono (Mem.le_trans Gm5le Gm6le)) rfl rfl rfl rfl rfl hx19 (fun tk9 tk9h => ?_)
         obtain ⟨x20, hx20, hr⟩ := hr
         refine yy (Y0.idxRow Try.underlying33 sz5 tk9h rfl rfl hx20) rfl ?_
         refine WL.storeT (r := (Rp.int .u8)) (e := 5) (cs' := [.int .u8 x18]) (i := v11_4) (z' := x18) 5000 guard_none sz5 rfl tk9h rfl rfl rfl rfl rfl hx20 (fun tk10 tk10h => ?_)
         refine WL.nil ?_
         refine WE.nx ?_
         refine WE.then <| sr <| mv rfl rfl <| yy (Y0.add rfl rfl) rfl <| sg rfl rfl <| nx ?_
         refine WC.region <| mv rfl rfl <| yy (Y0.sub rfl rfl) rfl <| sg rfl rfl <| WL.nil ?_
         refine WE.inBlock ?_
         refine WE.backR ⟨((v0_2.set v10_3.toNat x17).set v11_4.toNat x18), tk10, IntKind.i64.wrap (v10_3 + 1), IntKind.i64.wrap (v11_4 - 1), Gm6⟩ hr ⟨(Mem.le_trans (Mem.le_trans Gm4le Gm5le) Gm6le), tk10h⟩ (Fr.sub_cons rfl (Fr.sub_cons rfl (Fr.sub_cons rfl (Fr.sub_cons rfl (Fr.sub_nil _))))) ?_
         ·intro w hs
          exact hs.weaken (Lo.sub_cons rfl (Lo.sub_nil _))
    ·rintro ⟨v0_1, v0_1tk, v11_2, Gm3⟩ ⟨Gm3le, v0_1h, hr⟩
     refine WE.then <| WC.seq ?_
     refine WC.drawn [false, false, true, true, false, false, false, false, false, false, false, false, false] mix (by kernel_rfl) (fun hb => ?_)
     refine Chain.y0 guard_none (fun _ hle => Y0.move rfl) ?_
     refine Chain.y0 guard_none (fun _ hle => Y0.move rfl) ?_
     refine Chain.float guard_none (Y0.move rfl) ?_
     refine Chain.float guard_none (Y0.move rfl) ?_
     refine Chain.y0 guard_none (fun _ hle => Y0.move rfl) ?_
     refine Chain.y0 guard_none (fun _ hle => Y0.move rfl) ?_
     obtain ⟨x13, hx13, hr⟩ := hr
     refine Chain.y0 guard_none (fun _ hle => Y0.idxRow Try.underlying33 sz5 (v0_1h.mono hle) rfl rfl hx13) ?_
     refine Chain.y0 guard_none (fun _ hle => Y0.loadT sc5 (v0_1h.mono hle) (key := 5000) rfl rfl (AtK.int (RowR.at v0_1h hx13))) ?_
     refine Chain.y0 guard_none (fun _ hle => Y0.move rfl) ?_
     refine Chain.y0 guard_none (fun _ hle => Y0.move rfl) ?_
     obtain ⟨x14, hx14, hr⟩ := hr
     refine Chain.y0 guard_none (fun _ hle => Y0.idxRow Try.underlying33 sz5 (v0_1h.mono hle) rfl rfl hx14) ?_
     refine Chain.y0 guard_none (fun _ hle => Y0.loadT sc5 (v0_1h.mono hle) (key := 5000) rfl rfl (AtK.int (RowR.at v0_1h hx14))) ?_
     obtain ⟨x15, hx15, hr⟩ := hr
     refine Chain.y0 guard_none (fun _ hle => Y0.idxRow Try.underlying33 sz5 (v0_1h.mono hle) rfl rfl hx15) ?_
     refine Chain.tail0 hb ?_
     refine WL.storeT (r := (Rp.int .u8)) (e := 5) (cs' := [.int .u8 x13]) (i := v11_2) (z' := x13) 5000 guard_none sz5 rfl v0_1h rfl rfl rfl rfl rfl hx15 (fun tk7 tk7h => ?_)
     obtain ⟨x16, hx16, hr⟩ := hr
     refine yy (Y0.idxRow Try.underlying33 sz5 tk7h rfl rfl hx16) rfl ?_
     refine WL.storeT (r := (Rp.int .u8)) (e := 5) (cs' := [.int .u8 x14]) (i := a1_1) (z' := x14) 5000 guard_none sz5 rfl tk7h rfl rfl rfl rfl rfl hx16 (fun tk8 tk8h => ?_)
     refine WL.nil ?_
     refine WE.nx ?_
     refine WE.then <| sr <| mv rfl rfl <| sg rfl rfl <| sg rfl rfl <| nx ?_
     refine WC.ret ?_
     replace hr : _ = r := hr
     subst hr
     refine WE.conseq (S' := St w0 G0 Gm3 [(5000, tk8)]) ?_ ?_
     ·intro w hs
      exact hs.weaken (Lo.sub_cons rfl (Lo.sub_nil _))
     exact WE.ret2 rfl rfl rfl ⟨_, rfl, rfl, tk8h⟩
theorem L_slices_pdqsortOrdered_uint8 (a0_1 : (List Int)) (a1_1 : Int) (a2_1 : Int) (a3_1 : Int) (a0_1p : Option Addr) (a0_1c : Nat) (a0_1n : Nat) (a0_1tk : Option Ow) (r : (List Int)) (hr : (slices_pdqsortOrdered_uint8 a0_1 a1_1 a2_1 a3_1).Ret r) : CtrL Try.prog 106 #[.slice a0_1p a0_1n a0_1c, .int .i64 a1_1, .int .i64 a2_1, .int .i64 a3_1] [(5000, a0_1tk)] (fun G => RowR (Rp.int .u8) 5 G (.slice a0_1p a0_1n a0_1c) a0_1 a0_1tk) (fun G L v => ∃ zk0, L = [(5000, zk0)] ∧ v = .tuple #[] ∧ RowR (Rp.int .u8) 5 G (.slice a0_1p a0_1n a0_1c) r zk0) := by
 refine CtrL.enter (args := [_, _, _, _]) (N := 134) Try.func106 rfl rfl rfl (fun w0 G0 hL0 hpre => ?_)
 have a0_1h := hpre
 have hz : w0.L.zero := by
  rw [hL0]; intro p hp x hx
  simp only [List.mem_cons, List.not_mem_nil, or_false] at hp
  subst hp; exact RowR.zero a0_1h hx
 refine sr <| sg rfl rfl <| nr <| sg rfl rfl <| nx ?_
 refine WC.meetH (fun (gx : (List Int) × Option Ow × Mem) => match gx with | ⟨v0_1, v0_1tk, Gm1⟩ => [(0, .slice a0_1p a0_1n a0_1c)]) (fun (gx : (List Int) × Option Ow × Mem) => match gx with | ⟨v0_1, v0_1tk, Gm1⟩ => Mem.le G0 Gm1 ∧ RowR (Rp.int .u8) 5 Gm1 (.slice a0_1p a0_1n a0_1c) v0_1 v0_1tk ∧ (slices_pdqsortOrdered_uint8_k1 v0_1).Ret r) (fun (gx : (List Int) × Option Ow × Mem) => match gx with | ⟨v0_1, v0_1tk, Gm1⟩ => St w0 G0 Gm1 [(5000, v0_1tk)]) ?_ ?_
 ·refine WC.block ?_
  let Phi1 : (List Int) → Prop := fun oo => ((fun ov => match ov with | rv1 => Comp.ret rv1 : (List Int) → Comp (List Int)) oo).wp (fun a => a = r)
  replace hr : (Comp.loop _ _).wp Phi1 := hr
  refine WC.loopR (Φ := Phi1) (fun (gx : (List Int) × Option Ow × Int × Int × Int × Bool × Bool × Mem) => match gx with | ⟨v0_2, v0_2tk, v1_1, v2_1, v3_1, v8_1, v9_1, Gm2⟩ => ((v0_2, v1_1, v2_1, v3_1, v8_1, v9_1) : (List Int) × Int × Int × Int × Bool × Bool)) (fun (gx : (List Int) × Option Ow × Int × Int × Int × Bool × Bool × Mem) => match gx with | ⟨v0_2, v0_2tk, v1_1, v2_1, v3_1, v8_1, v9_1, Gm2⟩ => [(0, .slice a0_1p a0_1n a0_1c), (1, .int .i64 v1_1), (2, .int .i64 v2_1), (3, .int .i64 v3_1), (8, .bool v8_1), (9, .bool v9_1)]) (fun (gx : (List Int) × Option Ow × Int × Int × Int × Bool × Bool × Mem) => match gx with | ⟨v0_2, v0_2tk, v1_1, v2_1, v3_1, v8_1, v9_1, Gm2⟩ => Mem.le G0 Gm2 ∧ RowR (Rp.int .u8) 5 Gm2 (.slice a0_1p a0_1n a0_1c) v0_2 v0_2tk) (fun (gx : (List Int) × Option Ow × Int × Int × Int × Bool × Bool × Mem) => match gx with | ⟨v0_2, v0_2tk, v1_1, v2_1, v3_1, v8_1, v9_1, Gm2⟩ => St w0 G0 Gm2 [(5000, v0_2tk)]) ⟨a0_1, a0_1tk, a1_1, a2_1, a3_1, true, true, G0⟩ hr (Fr.sub_cons rfl (Fr.sub_cons rfl (Fr.sub_cons rfl (Fr.sub_cons rfl (Fr.sub_cons rfl (Fr.sub_cons rfl (Fr.sub_nil _))))))) ⟨(Mem.le_refl _), a0_1h⟩ ?_ ?_
  ·intro w hs
   exact hs.weaken (Lo.sub_cons rfl (Lo.sub_nil _))
  ·intro Aq1 gx hx hr
   obtain ⟨v0_2, v0_2tk, v1_1, v2_1, v3_1, v8_1, v9_1, Gm2⟩ := gx
   obtain ⟨Gm2le, v0_2h⟩ := hx
   refine WC.block <| sr <| mv rfl rfl <| mv rfl rfl <| yy (Y0.sub rfl rfl) rfl <| sg rfl rfl ?_
   refine nx <| WC.seq <| sr <| mv rfl rfl <| yy (Y0.leq rfl rfl) rfl <| nx ?_
   refine WC.condD (p := (IntKind.i64.wrap (v2_1 - v1_1)) ≤ 12) rfl (fun hc1 => ?_) (fun hc1 => ?_)
   ·replace hr := hr.pos hc1
    refine sr <| mv rfl rfl <| mv rfl rfl <| mv rfl rfl ?_
    obtain ⟨yv1, hyv1, hr⟩ := hr
    refine WL.callT guard_none rfl (YC.of E113 rfl) (L_slices_insertionSortOrdered_uint8 _ _ _ _ _ _ _ _ hyv1) rfl (v0_2h) (Lo.sub_cons rfl (Lo.sub_nil _)) hz (fun yv1v Gv1 Lyv1 Gv1le yv1post => ?_)
    obtain ⟨yv1tk0, rfl, rfl, yv1rh0⟩ := yv1post
    refine nx ?_
    refine WC.ret ?_
    replace hr : _ = r := hr
    refine WE.thenRet ?_
    refine WE.inBlockRet ?_
    refine WE.thenRet ?_
    refine WE.inBlockRet ?_
    refine WE.endRet ?_
    subst hr
    refine WE.conseq (S' := St w0 G0 Gv1 [(5000, yv1tk0)]) ?_ ?_
    ·intro w hs
     exact hs.weaken (Lo.sub_cons rfl (Lo.sub_nil _))
    exact WE.ret0 rfl  ⟨_, rfl, rfl, yv1rh0⟩
   ·replace hr := hr.neg hc1
    exact (show False from hr).elim
 ·rintro ⟨v0_1, v0_1tk, Gm1⟩ ⟨Gm1le, v0_1h, hr⟩
  refine WE.retN ?_
  replace hr : _ = r := hr
  subst hr
  refine WE.conseq (S' := St w0 G0 Gm1 [(5000, v0_1tk)]) ?_ ?_
  ·intro w hs
   exact hs.weaken (Lo.sub_cons rfl (Lo.sub_nil _))
  exact WE.ret0 rfl  ⟨_, rfl, rfl, v0_1h⟩
theorem L_slices_partialInsertionSortOrdered_uint8 (a0_1 : (List Int)) (a1_1 : Int) (a2_1 : Int) (a0_1p : Option Addr) (a0_1c : Nat) (a0_1n : Nat) (a0_1tk : Option Ow) (r : Bool × (List Int)) (hr : (slices_partialInsertionSortOrdered_uint8 a0_1 a1_1 a2_1).Ret r) : CtrL Try.prog 118 #[.slice a0_1p a0_1n a0_1c, .int .i64 a1_1, .int .i64 a2_1] [(5000, a0_1tk)] (fun G => RowR (Rp.int .u8) 5 G (.slice a0_1p a0_1n a0_1c) a0_1 a0_1tk) (fun G L v => ∃ zk0, L = [(5000, zk0)] ∧ v = .bool r.1 ∧ RowR (Rp.int .u8) 5 G (.slice a0_1p a0_1n a0_1c) r.2 zk0) := by
 refine CtrL.enter (args := [_, _, _]) (N := 133) Try.func118 rfl rfl rfl (fun w0 G0 hL0 hpre => ?_)
 have a0_1h := hpre
 refine sr <| sg rfl rfl <| nr <| mv rfl rfl <| yy (Y0.add rfl rfl) rfl <| sg rfl rfl ?_
 refine nx <| WC.seq <| sr <| sg rfl rfl <| nx ?_
 refine WC.meetH (fun (gx : (List Int) × Option Ow × Mem) => match gx with | ⟨v0_1, v0_1tk, Gm1⟩ => [(0, .slice a0_1p a0_1n a0_1c)]) (fun (gx : (List Int) × Option Ow × Mem) => match gx with | ⟨v0_1, v0_1tk, Gm1⟩ => Mem.le G0 Gm1 ∧ RowR (Rp.int .u8) 5 Gm1 (.slice a0_1p a0_1n a0_1c) v0_1 v0_1tk ∧ (slices_partialInsertionSortOrdered_uint8_k1 v0_1).Ret r) (fun (gx : (List Int) × Option Ow × Mem) => match gx with | ⟨v0_1, v0_1tk, Gm1⟩ => St w0 G0 Gm1 [(5000, v0_1tk)]) ?_ ?_
 ·refine WC.block ?_
  let Phi1 : ((Bool × (List Int)) ⊕ (List Int)) → Prop := fun oo => ((fun ov => match ov with | .inl rv1 => Comp.ret rv1 | .inr v0_1 => slices_partialInsertionSortOrdered_uint8_k1 v0_1 : ((Bool × (List Int)) ⊕ (List Int)) → Comp (Bool × (List Int))) oo).wp (fun a => a = r)
  replace hr : (Comp.loop _ _).wp Phi1 := hr
  refine WC.loopR (Φ := Phi1) (fun (gx : (List Int) × Option Ow × Int × Int × Mem) => match gx with | ⟨v0_2, v0_2tk, v7_1, v8_1, Gm2⟩ => ((v0_2, v7_1, v8_1) : (List Int) × Int × Int)) (fun (gx : (List Int) × Option Ow × Int × Int × Mem) => match gx with | ⟨v0_2, v0_2tk, v7_1, v8_1, Gm2⟩ => [(0, .slice a0_1p a0_1n a0_1c), (1, .int .i64 a1_1), (2, .int .i64 a2_1), (7, .int .i64 v7_1), (8, .int .i64 v8_1)]) (fun (gx : (List Int) × Option Ow × Int × Int × Mem) => match gx with | ⟨v0_2, v0_2tk, v7_1, v8_1, Gm2⟩ => Mem.le G0 Gm2 ∧ RowR (Rp.int .u8) 5 Gm2 (.slice a0_1p a0_1n a0_1c) v0_2 v0_2tk) (fun (gx : (List Int) × Option Ow × Int × Int × Mem) => match gx with | ⟨v0_2, v0_2tk, v7_1, v8_1, Gm2⟩ => St w0 G0 Gm2 [(5000, v0_2tk)]) ⟨a0_1, a0_1tk, IntKind.i64.wrap (a1_1 + 1), 0, G0⟩ hr (Fr.sub_cons rfl (Fr.sub_cons rfl (Fr.sub_cons rfl (Fr.sub_cons rfl (Fr.sub_cons rfl (Fr.sub_nil _)))))) ⟨(Mem.le_refl _), a0_1h⟩ ?_ ?_
  ·intro w hs
   exact hs.weaken (Lo.sub_cons rfl (Lo.sub_nil _))
  ·intro Aq1 gx hx hr
   obtain ⟨v0_2, v0_2tk, v7_1, v8_1, Gm2⟩ := gx
   obtain ⟨Gm2le, v0_2h⟩ := hx
   refine WC.seq <| sr <| mv rfl rfl <| yy (Y0.lss rfl rfl) rfl <| nx ?_
   refine WC.condD (p := v8_1 < 5) rfl (fun hc1 => ?_) (fun hc1 => ?_)
   ·replace hr := hr.pos hc1
    refine WC.skip <| WE.then <| WC.seq <| WC.block <| WC.seq ?_
    refine WC.meetH (fun (gx : Int × Mem) => match gx with | ⟨v7_2, Gm3⟩ => [(0, .slice a0_1p a0_1n a0_1c), (1, .int .i64 a1_1), (2, .int .i64 a2_1), (7, .int .i64 v7_2), (8, .int .i64 v8_1)]) (fun (gx : Int × Mem) => match gx with | ⟨v7_2, Gm3⟩ => Mem.le Gm2 Gm3 ∧ (slices_partialInsertionSortOrdered_uint8_k8 a1_1 a2_1 v0_2 v8_1 v7_2).wp (Out Aq1 Phi1)) (fun (gx : Int × Mem) => match gx with | ⟨v7_2, Gm3⟩ => St w0 G0 Gm3 [(5000, v0_2tk)]) ?_ ?_
    ·refine WC.block ?_
     let Phi4 : Int → Prop := fun oo => ((fun ov => match ov with | v7_2 => slices_partialInsertionSortOrdered_uint8_k8 a1_1 a2_1 v0_2 v8_1 v7_2 : Int → Comp (((List Int) × Int × Int) ⊕ ((Bool × (List Int)) ⊕ (List Int)))) oo).wp (Out Aq1 Phi1)
     replace hr : (Comp.loop _ _).wp Phi4 := hr
     refine WC.loopR (Φ := Phi4) (fun (gx : Int × Mem) => match gx with | ⟨v7_3, Gm9⟩ => (v7_3 : Int)) (fun (gx : Int × Mem) => match gx with | ⟨v7_3, Gm9⟩ => [(0, .slice a0_1p a0_1n a0_1c), (1, .int .i64 a1_1), (2, .int .i64 a2_1), (7, .int .i64 v7_3), (8, .int .i64 v8_1)]) (fun (gx : Int × Mem) => match gx with | ⟨v7_3, Gm9⟩ => Mem.le Gm2 Gm9) (fun (gx : Int × Mem) => match gx with | ⟨v7_3, Gm9⟩ => St w0 G0 Gm9 [(5000, v0_2tk)]) ⟨v7_1, Gm2⟩ hr (Fr.sub_cons rfl (Fr.sub_cons rfl (Fr.sub_cons rfl (Fr.sub_cons rfl (Fr.sub_cons rfl (Fr.sub_nil _)))))) (Mem.le_refl _) ?_ ?_
     ·intro w hs
      exact hs.weaken (Lo.sub_cons rfl (Lo.sub_nil _))
     ·intro Aq4 gx hx hr
      obtain ⟨v7_3, Gm9⟩ := gx
      have Gm9le := hx
      refine WC.seq <| WC.seq ?_
      refine WC.drawn [false, false, false, false, false, false, false, false, false, false, false, false, false, false, false, false] mix (by kernel_rfl) (fun hb => ?_)
      refine Chain.y0 guard_none (fun _ hle => Y0.move rfl) ?_
      refine Chain.y0 guard_none (fun _ hle => Y0.move rfl) ?_
      refine Chain.caseY0 (p := v7_3 < a2_1) guard_none (fun _ hle => Y0.lss rfl rfl) (fun hb1 => ?_) (fun hb1 => ?_)
      ·replace hr := hr.pos hb1
       refine Chain.y0 guard_none (fun _ hle => Y0.move rfl) ?_
       refine Chain.y0 (guard_yes rfl rfl) (fun _ hle => Y0.move rfl) ?_
       refine Chain.y0 (guard_yes rfl rfl) (fun _ hle => Y0.move rfl) ?_
       obtain ⟨x17, hx17, hr⟩ := hr
       refine Chain.y0 (guard_yes rfl rfl) (fun _ hle => Y0.idxRow Try.underlying33 sz5 ((v0_2h.mono Gm9le).mono hle) rfl rfl hx17) ?_
       refine Chain.y0 (guard_yes rfl rfl) (fun _ hle => Y0.loadT sc5 ((v0_2h.mono Gm9le).mono hle) (key := 5000) rfl rfl (AtK.int (RowR.at v0_2h hx17))) ?_
       refine Chain.y0 (guard_yes rfl rfl) (fun _ hle => Y0.move rfl) ?_
       refine Chain.y0 (guard_yes rfl rfl) (fun _ hle => Y0.move rfl) ?_
       refine Chain.y0 (guard_yes rfl rfl) (fun _ hle => Y0.sub rfl rfl) ?_
       obtain ⟨x18, hx18, hr⟩ := hr
       refine Chain.y0 (guard_yes rfl rfl) (fun _ hle => Y0.idxRow Try.underlying33 sz5 ((v0_2h.mono Gm9le).mono hle) rfl rfl hx18) ?_
       refine Chain.y0 (guard_yes rfl rfl) (fun _ hle => Y0.loadT sc5 ((v0_2h.mono Gm9le).mono hle) (key := 5000) rfl rfl (AtK.int (RowR.at v0_2h hx18))) ?_
       obtain ⟨yv3, hyv3, hr⟩ := hr
       refine Chain.call0 (guard_yes rfl rfl) (fun _ => YC.of E119 rfl) (L_cmp_Less_uint8 _ _ _ hyv3) rfl (fun G' hle => trivial) ?_
       refine Chain.y0 (guard_yes rfl rfl) (fun _ hle => Y0.not rfl) ?_
       refine Chain.y0 guard_none (fun _ hle => Y0.pickT rfl rfl) ?_
       refine Chain.tail0 hb ?_
       refine WL.nil ?_
       refine WE.nx ?_
       refine WE.then ?_
       refine WC.cond (b := !yv3) rfl (fun hc10 => ?_) (fun hc10 => ?_)
       ·replace hr := hr.pos hc10
        refine WC.skip <| WE.then <| WC.block <| WC.region <| mv rfl rfl <| yy (Y0.add rfl rfl) rfl ?_
        refine sg rfl rfl <| WL.nil ?_
        refine WE.inBlock ?_
        refine WE.backR ⟨IntKind.i64.wrap (v7_3 + 1), Gm9⟩ hr Gm9le (Fr.sub_cons rfl (Fr.sub_cons rfl (Fr.sub_cons rfl (Fr.sub_cons rfl (Fr.sub_cons rfl (Fr.sub_nil _)))))) ?_
        ·intro w hs
         exact hs.weaken (Lo.sub_cons rfl (Lo.sub_nil _))
       ·replace hr := hr.neg (Bool.eq_false_iff.1 hc10)
        refine WC.exit ?_
        refine WE.thenExit ?_
        refine WE.thenExit ?_
        refine WE.exitHere ?_
        refine WE.endH ⟨v7_3, Gm9⟩ ⟨Gm9le, hr⟩ (Fr.sub_cons rfl (Fr.sub_cons rfl (Fr.sub_cons rfl (Fr.sub_cons rfl (Fr.sub_cons rfl (Fr.sub_nil _)))))) ?_
        ·intro w hs
         exact hs.weaken (Lo.sub_cons rfl (Lo.sub_nil _))
      ·replace hr := hr.neg hb1
       refine Chain.y0 guard_none (fun _ hle => Y0.move rfl) ?_
       refine Chain.skip (guard_noT rfl rfl) ?_
       refine Chain.skip (guard_noT rfl rfl) ?_
       refine Chain.skip (guard_noT rfl rfl) ?_
       refine Chain.skip (guard_noT rfl rfl) ?_
       refine Chain.skip (guard_noT rfl rfl) ?_
       refine Chain.skip (guard_noT rfl rfl) ?_
       refine Chain.skip (guard_noT rfl rfl) ?_
       refine Chain.skip (guard_noT rfl rfl) ?_
       refine Chain.skip (guard_noT rfl rfl) ?_
       refine Chain.skip (guard_noT rfl rfl) ?_
       refine Chain.skip (guard_noT rfl rfl) ?_
       refine Chain.y0 guard_none (fun _ hle => Y0.pickF rfl rfl) ?_
       refine Chain.tail0 hb ?_
       refine WL.nil ?_
       refine WE.nx ?_
       refine WE.then ?_
       refine WC.condF rfl ?_
       refine WC.exit ?_
       refine WE.thenExit ?_
       refine WE.thenExit ?_
       refine WE.exitHere ?_
       refine WE.endH ⟨v7_3, Gm9⟩ ⟨Gm9le, hr⟩ (Fr.sub_cons rfl (Fr.sub_cons rfl (Fr.sub_cons rfl (Fr.sub_cons rfl (Fr.sub_cons rfl (Fr.sub_nil _)))))) ?_
       ·intro w hs
        exact hs.weaken (Lo.sub_cons rfl (Lo.sub_nil _))
    ·rintro ⟨v7_2, Gm3⟩ ⟨Gm3le, hr⟩
     refine WE.then <| WC.seq <| sr <| mv rfl rfl <| mv rfl rfl <| yy (Y0.eql rfl rfl) rfl ?_
     refine nx ?_
     refine WC.condD (p := v7_2 = a2_1) rfl (fun hc2 => ?_) (fun hc2 => ?_)
     ·replace hr := hr.pos hc2
      refine sr <| sg rfl rfl <| nx ?_
      refine WC.ret ?_
      replace hr : _ = r := hr
      refine WE.thenRet ?_
      refine WE.inBlockRet ?_
      refine WE.thenRet ?_
      refine WE.thenRet ?_
      refine WE.inBlockRet ?_
      refine WE.endRet ?_
      refine WE.thenRet ?_
      subst hr
      refine WE.conseq (S' := St w0 G0 Gm3 [(5000, v0_2tk)]) ?_ ?_
      ·intro w hs
       exact hs.weaken (Lo.sub_cons rfl (Lo.sub_nil _))
      exact WE.ret1 rfl rfl ⟨_, rfl, rfl, (v0_2h.mono Gm3le)⟩
     ·replace hr := hr.neg hc2
      refine WC.skip <| WE.then <| WC.seq <| sr <| mv rfl rfl <| mv rfl rfl ?_
      refine yy (Y0.sub rfl rfl) rfl <| yy (Y0.lss rfl rfl) rfl <| nx ?_
      refine WC.condD (p := (IntKind.i64.wrap (a2_1 - a1_1)) < 50) rfl (fun hc3 => ?_) (fun hc3 => ?_)
      ·replace hr := hr.pos hc3
       refine sr <| sg rfl rfl <| nx ?_
       refine WC.ret ?_
       replace hr : _ = r := hr
       refine WE.thenRet ?_
       refine WE.inBlockRet ?_
       refine WE.thenRet ?_
       refine WE.thenRet ?_
       refine WE.inBlockRet ?_
       refine WE.endRet ?_
       refine WE.thenRet ?_
       subst hr
       refine WE.conseq (S' := St w0 G0 Gm3 [(5000, v0_2tk)]) ?_ ?_
       ·intro w hs
        exact hs.weaken (Lo.sub_cons rfl (Lo.sub_nil _))
       exact WE.ret1 rfl rfl ⟨_, rfl, rfl, (v0_2h.mono Gm3le)⟩
      ·replace hr := hr.neg hc3
       refine WC.skip <| WE.then <| WC.seq ?_
       refine WC.drawn [false, false, true, true, true, false, false, false, false, false, false, false, false, false, false] mix (by kernel_rfl) (fun hb => ?_)
       refine Chain.y0 guard_none (fun _ hle => Y0.move rfl) ?_
       refine Chain.y0 guard_none (fun _ hle => Y0.move rfl) ?_
       refine Chain.float guard_none (Y0.move rfl) ?_
       refine Chain.float guard_none (Y0.move rfl) ?_
       refine Chain.float guard_none (Y0.sub rfl rfl) ?_
       refine Chain.y0 guard_none (fun _ hle => Y0.move rfl) ?_
       refine Chain.y0 guard_none (fun _ hle => Y0.move rfl) ?_
       refine Chain.y0 guard_none (fun _ hle => Y0.sub rfl rfl) ?_
       obtain ⟨x1, hx1, hr⟩ := hr
       refine Chain.y0 guard_none (fun _ hle => Y0.idxRow Try.underlying33 sz5 ((v0_2h.mono Gm3le).mono hle) rfl rfl hx1) ?_
       refine Chain.y0 guard_none (fun _ hle => Y0.loadT sc5 ((v0_2h.mono Gm3le).mono hle) (key := 5000) rfl rfl (AtK.int (RowR.at v0_2h hx1))) ?_
       refine Chain.y0 guard_none (fun _ hle => Y0.move rfl) ?_
       refine Chain.y0 guard_none (fun _ hle => Y0.move rfl) ?_
       obtain ⟨x2, hx2, hr⟩ := hr
       refine Chain.y0 guard_none (fun _ hle => Y0.idxRow Try.underlying33 sz5 ((v0_2h.mono Gm3le).mono hle) rfl rfl hx2) ?_
       refine Chain.y0 guard_none (fun _ hle => Y0.loadT sc5 ((v0_2h.mono Gm3le).mono hle) (key := 5000) rfl rfl (AtK.int (RowR.at v0_2h hx2))) ?_
       obtain ⟨x3, hx3, hr⟩ := hr
       refine Chain.y0 guard_none (fun _ hle => Y0.idxRow Try.underlying33 sz5 ((v0_2h.mono Gm3le).mono hle) rfl rfl hx3) ?_
       refine Chain.tail0 hb ?_
       refine WL.storeT (r := (Rp.int .u8)) (e := 5) (cs' := [.int .u8 x1]) (i := v7_2) (z' := x1) 5000 guard_none sz5 rfl (v0_2h.mono Gm3le) rfl rfl rfl rfl rfl hx3 (fun tk1 tk1h => ?_)
       obtain ⟨x4, hx4, hr⟩ := hr
       refine yy (Y0.idxRow Try.underlying33 sz5 tk1h rfl rfl hx4) rfl ?_
       refine WL.storeT (r := (Rp.int .u8)) (e := 5) (cs' := [.int .u8 x2]) (i := IntKind.i64.wrap (v7_2 - 1)) (z' := x2) 5000 guard_none sz5 rfl tk1h rfl rfl rfl rfl rfl hx4 (fun tk2 tk2h => ?_)
       refine WL.nil ?_
       refine WE.nx ?_
       refine WE.then ?_
       refine WC.seqH (fun (gx : (List Int) × Option Ow × Mem) => match gx with | ⟨v0_3, v0_3tk, Gm4⟩ => [(0, .slice a0_1p a0_1n a0_1c), (1, .int .i64 a1_1), (2, .int .i64 a2_1), (7, .int .i64 v7_2), (8, .int .i64 v8_1)]) (fun (gx : (List Int) × Option Ow × Mem) => match gx with | ⟨v0_3, v0_3tk, Gm4⟩ => Mem.le Gm3 Gm4 ∧ RowR (Rp.int .u8) 5 Gm4 (.slice a0_1p a0_1n a0_1c) v0_3 v0_3tk ∧ (slices_partialInsertionSortOrdered_uint8_k5 a2_1 v8_1 v7_2 v0_3).wp (Out Aq1 Phi1)) (fun (gx : (List Int) × Option Ow × Mem) => match gx with | ⟨v0_3, v0_3tk, Gm4⟩ => St w0 G0 Gm4 [(5000, v0_3tk)]) ?_ ?_
       ·skip
        refine sr <| mv rfl rfl <| mv rfl rfl <| yy (Y0.sub rfl rfl) rfl <| yy (Y0.geq rfl rfl) rfl <| nx ?_
        refine WC.condD (p := 2 ≤ (IntKind.i64.wrap (v7_2 - a1_1))) rfl (fun hc7 => ?_) (fun hc7 => ?_)
        ·replace hr := hr.pos hc7
         refine sr <| mv rfl rfl <| yy (Y0.sub rfl rfl) rfl <| sg rfl rfl <| nx ?_
         refine WC.meetH (fun (gx : (List Int) × Option Ow × Mem) => match gx with | ⟨v0_6, v0_6tk, Gm7⟩ => [(0, .slice a0_1p a0_1n a0_1c), (1, .int .i64 a1_1), (2, .int .i64 a2_1), (7, .int .i64 v7_2), (8, .int .i64 v8_1)]) (fun (gx : (List Int) × Option Ow × Mem) => match gx with | ⟨v0_6, v0_6tk, Gm7⟩ => Mem.le Gm3 Gm7 ∧ RowR (Rp.int .u8) 5 Gm7 (.slice a0_1p a0_1n a0_1c) v0_6 v0_6tk ∧ (slices_partialInsertionSortOrdered_uint8_k6 a2_1 v8_1 v7_2 v0_6).wp (Out Aq1 Phi1)) (fun (gx : (List Int) × Option Ow × Mem) => match gx with | ⟨v0_6, v0_6tk, Gm7⟩ => St w0 G0 Gm7 [(5000, v0_6tk)]) ?_ ?_
         ·refine WC.block ?_
          let Phi3 : (List Int) → Prop := fun oo => ((fun ov => match ov with | v0_6 => slices_partialInsertionSortOrdered_uint8_k6 a2_1 v8_1 v7_2 v0_6 : (List Int) → Comp (((List Int) × Int × Int) ⊕ ((Bool × (List Int)) ⊕ (List Int)))) oo).wp (Out Aq1 Phi1)
          replace hr : (Comp.loop _ _).wp Phi3 := hr
          refine WC.loopR (Φ := Phi3) (fun (gx : (List Int) × Option Ow × Int × Mem) => match gx with | ⟨v0_7, v0_7tk, v9_1, Gm8⟩ => ((v0_7, v9_1) : (List Int) × Int)) (fun (gx : (List Int) × Option Ow × Int × Mem) => match gx with | ⟨v0_7, v0_7tk, v9_1, Gm8⟩ => [(0, .slice a0_1p a0_1n a0_1c), (1, .int .i64 a1_1), (2, .int .i64 a2_1), (7, .int .i64 v7_2), (8, .int .i64 v8_1), (9, .int .i64 v9_1)]) (fun (gx : (List Int) × Option Ow × Int × Mem) => match gx with | ⟨v0_7, v0_7tk, v9_1, Gm8⟩ => Mem.le Gm3 Gm8 ∧ RowR (Rp.int .u8) 5 Gm8 (.slice a0_1p a0_1n a0_1c) v0_7 v0_7tk) (fun (gx : (List Int) × Option Ow × Int × Mem) => match gx with | ⟨v0_7, v0_7tk, v9_1, Gm8⟩ => St w0 G0 Gm8 [(5000, v0_7tk)]) ⟨((v0_2.set v7_2.toNat x1).set (IntKind.i64.wrap (v7_2 - 1)).toNat x2), tk2, IntKind.i64.wrap (v7_2 - 1), Gm3⟩ hr (Fr.sub_cons rfl (Fr.sub_cons rfl (Fr.sub_cons rfl (Fr.sub_cons rfl (Fr.sub_cons rfl (Fr.sub_cons rfl (Fr.sub_nil _))))))) ⟨(Mem.le_refl _), tk2h⟩ ?_ ?_
          ·intro w hs
           exact hs.weaken (Lo.sub_cons rfl (Lo.sub_nil _))
          ·intro Aq3 gx hx hr
           obtain ⟨v0_7, v0_7tk, v9_1, Gm8⟩ := gx
           obtain ⟨Gm8le, v0_7h⟩ := hx
           refine WC.seq <| sr <| mv rfl rfl <| yy (Y0.geq rfl rfl) rfl <| nx ?_
           refine WC.condD (p := 1 ≤ v9_1) rfl (fun hc8 => ?_) (fun hc8 => ?_)
           ·replace hr := hr.pos hc8
            refine WC.skip <| WE.then <| WC.seq <| WC.block <| WC.seq <| WC.seq ?_
            refine WC.drawn [false, false, false, false, false, false, false, false, false, false, false] mix (by kernel_rfl) (fun hb => ?_)
            refine Chain.y0 guard_none (fun _ hle => Y0.move rfl) ?_
            refine Chain.y0 guard_none (fun _ hle => Y0.move rfl) ?_
            obtain ⟨x11, hx11, hr⟩ := hr
            refine Chain.y0 guard_none (fun _ hle => Y0.idxRow Try.underlying33 sz5 (v0_7h.mono hle) rfl rfl hx11) ?_
            refine Chain.y0 guard_none (fun _ hle => Y0.loadT sc5 (v0_7h.mono hle) (key := 5000) rfl rfl (AtK.int (RowR.at v0_7h hx11))) ?_
            refine Chain.y0 guard_none (fun _ hle => Y0.move rfl) ?_
            refine Chain.y0 guard_none (fun _ hle => Y0.move rfl) ?_
            refine Chain.y0 guard_none (fun _ hle => Y0.sub rfl rfl) ?_
            obtain ⟨x12, hx12, hr⟩ := hr
            refine Chain.y0 guard_none (fun _ hle => Y0.idxRow Try.underlying33 sz5 (v0_7h.mono hle) rfl rfl hx12) ?_
            refine Chain.y0 guard_none (fun _ hle => Y0.loadT sc5 (v0_7h.mono hle) (key := 5000) rfl rfl (AtK.int (RowR.at v0_7h hx12))) ?_
            obtain ⟨yv2, hyv2, hr⟩ := hr
            refine Chain.call0 guard_none (fun _ => YC.of E119 rfl) (L_cmp_Less_uint8 _ _ _ hyv2) rfl (fun G' hle => trivial) ?_
            refine Chain.y0 guard_none (fun _ hle => Y0.not rfl) ?_
            refine Chain.tail0 hb ?_
            refine WL.nil ?_
            refine WE.nx ?_
            refine WE.then ?_
            refine WC.cond (b := !yv2) rfl (fun hc9 => ?_) (fun hc9 => ?_)
            ·replace hr := hr.pos hc9
             refine WC.exit ?_
             refine WE.thenExit ?_
             refine WE.exitOut rfl ?_
             refine WE.thenExit ?_
             refine WE.thenExit ?_
             refine WE.exitHere ?_
             refine WE.endH ⟨v0_7, v0_7tk, Gm8⟩ ⟨Gm8le, v0_7h, hr⟩ (Fr.sub_cons rfl (Fr.sub_cons rfl (Fr.sub_cons rfl (Fr.sub_cons rfl (Fr.sub_cons rfl (Fr.sub_nil _)))))) ?_
             ·intro w hs
              exact hs.weaken (Lo.sub_cons rfl (Lo.sub_nil _))
            ·replace hr := hr.neg (Bool.eq_false_iff.1 hc9)
             refine WC.skip <| WE.then ?_
             refine WC.drawn [false, false, true, true, true, false, false, false, false, false, false, false, false, false, false] mix (by kernel_rfl) (fun hb => ?_)
             refine Chain.y0 guard_none (fun _ hle => Y0.move rfl) ?_
             refine Chain.y0 guard_none (fun _ hle => Y0.move rfl) ?_
             refine Chain.float guard_none (Y0.move rfl) ?_
             refine Chain.float guard_none (Y0.move rfl) ?_
             refine Chain.float guard_none (Y0.sub rfl rfl) ?_
             refine Chain.y0 guard_none (fun _ hle => Y0.move rfl) ?_
             refine Chain.y0 guard_none (fun _ hle => Y0.move rfl) ?_
             refine Chain.y0 guard_none (fun _ hle => Y0.sub rfl rfl) ?_
             obtain ⟨x13, hx13, hr⟩ := hr
             refine Chain.y0 guard_none (fun _ hle => Y0.idxRow Try.underlying33 sz5 (v0_7h.mono hle) rfl rfl hx13) ?_
             refine Chain.y0 guard_none (fun _ hle => Y0.loadT sc5 (v0_7h.mono hle) (key := 5000) rfl rfl (AtK.int (RowR.at v0_7h hx13))) ?_
             refine Chain.y0 guard_none (fun _ hle => Y0.move rfl) ?_
             refine Chain.y0 guard_none (fun _ hle => Y0.move rfl) ?_
             obtain ⟨x14, hx14, hr⟩ := hr
             refine Chain.y0 guard_none (fun _ hle => Y0.idxRow Try.underlying33 sz5 (v0_7h.mono hle) rfl rfl hx14) ?_
             refine Chain.y0 guard_none (fun _ hle => Y0.loadT sc5 (v0_7h.mono hle) (key := 5000) rfl rfl (AtK.int (RowR.at v0_7h hx14))) ?_
             obtain ⟨x15, hx15, hr⟩ := hr
             refine Chain.y0 guard_none (fun _ hle => Y0.idxRow Try.underlying33 sz5 (v0_7h.mono hle) rfl rfl hx15) ?_
             refine Chain.tail0 hb ?_
             refine WL.storeT (r := (Rp.int .u8)) (e := 5) (cs' := [.int .u8 x13]) (i := v9_1) (z' := x13) 5000 guard_none sz5 rfl v0_7h rfl rfl rfl rfl rfl hx15 (fun tk5 tk5h => ?_)
             obtain ⟨x16, hx16, hr⟩ := hr
             refine yy (Y0.idxRow Try.underlying33 sz5 tk5h rfl rfl hx16) rfl ?_
             refine WL.storeT (r := (Rp.int .u8)) (e := 5) (cs' := [.int .u8 x14]) (i := IntKind.i64.wrap (v9_1 - 1)) (z' := x14) 5000 guard_none sz5 rfl tk5h rfl rfl rfl rfl rfl hx16 (fun tk6 tk6h => ?_)
             refine WL.nil ?_
             refine WE.nx ?_
             refine WE.inBlock ?_
             refine WE.then <| WC.region <| mv rfl rfl <| yy (Y0.sub rfl rfl) rfl <| sg rfl rfl <| WL.nil ?_
             refine WE.backR ⟨((v0_7.set v9_1.toNat x13).set (IntKind.i64.wrap (v9_1 - 1)).toNat x14), tk6, IntKind.i64.wrap (v9_1 - 1), Gm8⟩ hr ⟨Gm8le, tk6h⟩ (Fr.sub_cons rfl (Fr.sub_cons rfl (Fr.sub_cons rfl (Fr.sub_cons rfl (Fr.sub_cons rfl (Fr.sub_cons rfl (Fr.sub_nil _))))))) ?_
             ·intro w hs
              exact hs.weaken (Lo.sub_cons rfl (Lo.sub_nil _))
           ·replace hr := hr.neg hc8
            refine WC.exit ?_
            refine WE.thenExit ?_
            refine WE.thenExit ?_
            refine WE.exitHere ?_
            refine WE.endH ⟨v0_7, v0_7tk, Gm8⟩ ⟨Gm8le, v0_7h, hr⟩ (Fr.sub_cons rfl (Fr.sub_cons rfl (Fr.sub_cons rfl (Fr.sub_cons rfl (Fr.sub_cons rfl (Fr.sub_nil _)))))) ?_
            ·intro w hs
             exact hs.weaken (Lo.sub_cons rfl (Lo.sub_nil _))
         ·rintro ⟨v0_6, v0_6tk, Gm7⟩ ⟨Gm7le, v0_6h, hr⟩
          refine WE.midH ⟨v0_6, v0_6tk, Gm7⟩ ⟨Gm7le, v0_6h, hr⟩ (Fr.sub_cons rfl (Fr.sub_cons rfl (Fr.sub_cons rfl (Fr.sub_cons rfl (Fr.sub_cons rfl (Fr.sub_nil _)))))) ?_
          ·intro w hs
           exact hs.weaken (Lo.sub_cons rfl (Lo.sub_nil _))
        ·replace hr := hr.neg hc7
         refine WC.skip ?_
         refine WE.midH ⟨((v0_2.set v7_2.toNat x1).set (IntKind.i64.wrap (v7_2 - 1)).toNat x2), tk2, Gm3⟩ ⟨(Mem.le_refl _), tk2h, hr⟩ (Fr.sub_cons rfl (Fr.sub_cons rfl (Fr.sub_cons rfl (Fr.sub_cons rfl (Fr.sub_cons rfl (Fr.sub_nil _)))))) ?_
         ·intro w hs
          exact hs.weaken (Lo.sub_cons rfl (Lo.sub_nil _))
       ·rintro ⟨v0_3, v0_3tk, Gm4⟩ ⟨Gm4le, v0_3h, hr⟩
        refine sr <| mv rfl rfl <| mv rfl rfl <| yy (Y0.sub rfl rfl) rfl <| yy (Y0.geq rfl rfl) rfl <| nx ?_
        refine WC.condD (p := 2 ≤ (IntKind.i64.wrap (a2_1 - v7_2))) rfl (fun hc4 => ?_) (fun hc4 => ?_)
        ·replace hr := hr.pos hc4
         refine sr <| mv rfl rfl <| yy (Y0.add rfl rfl) rfl <| sg rfl rfl <| nx ?_
         refine WC.meetH (fun (gx : (List Int) × Option Ow × Mem) => match gx with | ⟨v0_4, v0_4tk, Gm5⟩ => [(0, .slice a0_1p a0_1n a0_1c), (1, .int .i64 a1_1), (2, .int .i64 a2_1), (7, .int .i64 v7_2), (8, .int .i64 v8_1)]) (fun (gx : (List Int) × Option Ow × Mem) => match gx with | ⟨v0_4, v0_4tk, Gm5⟩ => Mem.le Gm4 Gm5 ∧ RowR (Rp.int .u8) 5 Gm5 (.slice a0_1p a0_1n a0_1c) v0_4 v0_4tk ∧ (slices_partialInsertionSortOrdered_uint8_k3 v8_1 v7_2 v0_4).wp (Out Aq1 Phi1)) (fun (gx : (List Int) × Option Ow × Mem) => match gx with | ⟨v0_4, v0_4tk, Gm5⟩ => St w0 G0 Gm5 [(5000, v0_4tk)]) ?_ ?_
         ·refine WC.block ?_
          let Phi2 : (List Int) → Prop := fun oo => ((fun ov => match ov with | v0_4 => slices_partialInsertionSortOrdered_uint8_k3 v8_1 v7_2 v0_4 : (List Int) → Comp (((List Int) × Int × Int) ⊕ ((Bool × (List Int)) ⊕ (List Int)))) oo).wp (Out Aq1 Phi1)
          replace hr : (Comp.loop _ _).wp Phi2 := hr
          refine WC.loopR (Φ := Phi2) (fun (gx : (List Int) × Option Ow × Int × Mem) => match gx with | ⟨v0_5, v0_5tk, v10_1, Gm6⟩ => ((v0_5, v10_1) : (List Int) × Int)) (fun (gx : (List Int) × Option Ow × Int × Mem) => match gx with | ⟨v0_5, v0_5tk, v10_1, Gm6⟩ => [(0, .slice a0_1p a0_1n a0_1c), (1, .int .i64 a1_1), (2, .int .i64 a2_1), (7, .int .i64 v7_2), (8, .int .i64 v8_1), (10, .int .i64 v10_1)]) (fun (gx : (List Int) × Option Ow × Int × Mem) => match gx with | ⟨v0_5, v0_5tk, v10_1, Gm6⟩ => Mem.le Gm4 Gm6 ∧ RowR (Rp.int .u8) 5 Gm6 (.slice a0_1p a0_1n a0_1c) v0_5 v0_5tk) (fun (gx : (List Int) × Option Ow × Int × Mem) => match gx with | ⟨v0_5, v0_5tk, v10_1, Gm6⟩ => St w0 G0 Gm6 [(5000, v0_5tk)]) ⟨v0_3, v0_3tk, IntKind.i64.wrap (v7_2 + 1), Gm4⟩ hr (Fr.sub_cons rfl (Fr.sub_cons rfl (Fr.sub_cons rfl (Fr.sub_cons rfl (Fr.sub_cons rfl (Fr.sub_cons rfl (Fr.sub_nil _))))))) ⟨(Mem.le_refl _), v0_3h⟩ ?_ ?_
          ·intro w hs
           exact hs.weaken (Lo.sub_cons rfl (Lo.sub_nil _))
          ·intro Aq2 gx hx hr
           obtain ⟨v0_5, v0_5tk, v10_1, Gm6⟩ := gx
           obtain ⟨Gm6le, v0_5h⟩ := hx
           refine WC.seq <| sr <| mv rfl rfl <| mv rfl rfl <| yy (Y0.lss rfl rfl) rfl <| nx ?_
           refine WC.condD (p := v10_1 < a2_1) rfl (fun hc5 => ?_) (fun hc5 => ?_)
           ·replace hr := hr.pos hc5
            refine WC.skip <| WE.then <| WC.seq <| WC.block <| WC.seq <| WC.seq ?_
            refine WC.drawn [false, false, false, false, false, false, false, false, false, false, false] mix (by kernel_rfl) (fun hb => ?_)
            refine Chain.y0 guard_none (fun _ hle => Y0.move rfl) ?_
            refine Chain.y0 guard_none (fun _ hle => Y0.move rfl) ?_
            obtain ⟨x5, hx5, hr⟩ := hr
            refine Chain.y0 guard_none (fun _ hle => Y0.idxRow Try.underlying33 sz5 (v0_5h.mono hle) rfl rfl hx5) ?_
            refine Chain.y0 guard_none (fun _ hle => Y0.loadT sc5 (v0_5h.mono hle) (key := 5000) rfl rfl (AtK.int (RowR.at v0_5h hx5))) ?_
            refine Chain.y0 guard_none (fun _ hle => Y0.move rfl) ?_
            refine Chain.y0 guard_none (fun _ hle => Y0.move rfl) ?_
            refine Chain.y0 guard_none (fun _ hle => Y0.sub rfl rfl) ?_
            obtain ⟨x6, hx6, hr⟩ := hr
            refine Chain.y0 guard_none (fun _ hle => Y0.idxRow Try.underlying33 sz5 (v0_5h.mono hle) rfl rfl hx6) ?_
            refine Chain.y0 guard_none (fun _ hle => Y0.loadT sc5 (v0_5h.mono hle) (key := 5000) rfl rfl (AtK.int (RowR.at v0_5h hx6))) ?_
            obtain ⟨yv1, hyv1, hr⟩ := hr
            refine Chain.call0 guard_none (fun _ => YC.of E119 rfl) (L_cmp_Less_uint8 _ _ _ hyv1) rfl (fun G' hle => trivial) ?_
            refine Chain.y0 guard_none (fun _ hle => Y0.not rfl) ?_
            refine Chain.tail0 hb ?_
            refine WL.nil ?_
            refine WE.nx ?_
            refine WE.then ?_
            refine WC.cond (b := !yv1) rfl (fun hc6 => ?_) (fun hc6 => ?_)
            ·replace hr := hr.pos hc6
             refine WC.exit ?_
             refine WE.thenExit ?_
             refine WE.exitOut rfl ?_
             refine WE.thenExit ?_
             refine WE.thenExit ?_
             refine WE.exitHere ?_
             refine WE.endH ⟨v0_5, v0_5tk, Gm6⟩ ⟨Gm6le, v0_5h, hr⟩ (Fr.sub_cons rfl (Fr.sub_cons rfl (Fr.sub_cons rfl (Fr.sub_cons rfl (Fr.sub_cons rfl (Fr.sub_nil _)))))) ?_
             ·intro w hs
              exact hs.weaken (Lo.sub_cons rfl (Lo.sub_nil _))
            ·replace hr := hr.neg (Bool.eq_false_iff.1 hc6)
             refine WC.skip <| WE.then ?_
             refine WC.drawn [false, false, true, true, true, false, false, false, false, false, false, false, false, false, false] mix (by kernel_rfl) (fun hb => ?_)
             refine Chain.y0 guard_none (fun _ hle => Y0.move rfl) ?_
             refine Chain.y0 guard_none (fun _ hle => Y0.move rfl) ?_
             refine Chain.float guard_none (Y0.move rfl) ?_
             refine Chain.float guard_none (Y0.move rfl) ?_
             refine Chain.float guard_none (Y0.sub rfl rfl) ?_
             refine Chain.y0 guard_none (fun _ hle => Y0.move rfl) ?_
             refine Chain.y0 guard_none (fun _ hle => Y0.move rfl) ?_
             refine Chain.y0 guard_none (fun _ hle => Y0.sub rfl rfl) ?_
             obtain ⟨x7, hx7, hr⟩ := hr
             refine Chain.y0 guard_none (fun _ hle => Y0.idxRow Try.underlying33 sz5 (v0_5h.mono hle) rfl rfl hx7) ?_
             refine Chain.y0 guard_none (fun _ hle => Y0.loadT sc5 (v0_5h.mono hle) (key := 5000) rfl rfl (AtK.int (RowR.at v0_5h hx7))) ?_
             refine Chain.y0 guard_none (fun _ hle => Y0.move rfl) ?_
             refine Chain.y0 guard_none (fun _ hle => Y0.move rfl) ?_
             obtain ⟨x8, hx8, hr⟩ := hr
             refine Chain.y0 guard_none (fun _ hle => Y0.idxRow Try.underlying33 sz5 (v0_5h.mono hle) rfl rfl hx8) ?_
             refine Chain.y0 guard_none (fun _ hle => Y0.loadT sc5 (v0_5h.mono hle) (key := 5000) rfl rfl (AtK.int (RowR.at v0_5h hx8))) ?_
             obtain ⟨x9, hx9, hr⟩ := hr
             refine Chain.y0 guard_none (fun _ hle => Y0.idxRow Try.underlying33 sz5 (v0_5h.mono hle) rfl rfl hx9) ?_
             refine Chain.tail0 hb ?_
             refine WL.storeT (r := (Rp.int .u8)) (e := 5) (cs' := [.int .u8 x7]) (i := v10_1) (z' := x7) 5000 guard_none sz5 rfl v0_5h rfl rfl rfl rfl rfl hx9 (fun tk3 tk3h => ?_)
             obtain ⟨x10, hx10, hr⟩ := hr
             refine yy (Y0.idxRow Try.underlying33 sz5 tk3h rfl rfl hx10) rfl ?_
             refine WL.storeT (r := (Rp.int .u8)) (e := 5) (cs' := [.int .u8 x8]) (i := IntKind.i64.wrap (v10_1 - 1)) (z' := x8) 5000 guard_none sz5 rfl tk3h rfl rfl rfl rfl rfl hx10 (fun tk4 tk4h => ?_)
             refine WL.nil ?_
             refine WE.nx ?_
             refine WE.inBlock ?_
             refine WE.then <| WC.region <| mv rfl rfl <| yy (Y0.add rfl rfl) rfl <| sg rfl rfl <| WL.nil ?_
             refine WE.backR ⟨((v0_5.set v10_1.toNat x7).set (IntKind.i64.wrap (v10_1 - 1)).toNat x8), tk4, IntKind.i64.wrap (v10_1 + 1), Gm6⟩ hr ⟨Gm6le, tk4h⟩ (Fr.sub_cons rfl (Fr.sub_cons rfl (Fr.sub_cons rfl (Fr.sub_cons rfl (Fr.sub_cons rfl (Fr.sub_cons rfl (Fr.sub_nil _))))))) ?_
             ·intro w hs
              exact hs.weaken (Lo.sub_cons rfl (Lo.sub_nil _))
           ·replace hr := hr.neg hc5
            refine WC.exit ?_
            refine WE.thenExit ?_
            refine WE.thenExit ?_
            refine WE.exitHere ?_
            refine WE.endH ⟨v0_5, v0_5tk, Gm6⟩ ⟨Gm6le, v0_5h, hr⟩ (Fr.sub_cons rfl (Fr.sub_cons rfl (Fr.sub_cons rfl (Fr.sub_cons rfl (Fr.sub_cons rfl (Fr.sub_nil _)))))) ?_
            ·intro w hs
             exact hs.weaken (Lo.sub_cons rfl (Lo.sub_nil _))
         ·rintro ⟨v0_4, v0_4tk, Gm5⟩ ⟨Gm5le, v0_4h, hr⟩
          refine WE.inBlock ?_
          refine WE.then <| WC.region <| mv rfl rfl <| yy (Y0.add rfl rfl) rfl <| sg rfl rfl <| WL.nil ?_
          refine WE.backR ⟨v0_4, v0_4tk, v7_2, IntKind.i64.wrap (v8_1 + 1), Gm5⟩ hr ⟨(Mem.le_trans (Mem.le_trans (Mem.le_trans Gm2le Gm3le) Gm4le) Gm5le), v0_4h⟩ (Fr.sub_cons rfl (Fr.sub_cons rfl (Fr.sub_cons rfl (Fr.sub_cons rfl (Fr.sub_cons rfl (Fr.sub_nil _)))))) ?_
          ·intro w hs
           exact hs.weaken (Lo.sub_cons rfl (Lo.sub_nil _))
        ·replace hr := hr.neg hc4
         refine WC.skip ?_
         refine WE.inBlock ?_
         refine WE.then <| WC.region <| mv rfl rfl <| yy (Y0.add rfl rfl) rfl <| sg rfl rfl <| WL.nil ?_
         refine WE.backR ⟨v0_3, v0_3tk, v7_2, IntKind.i64.wrap (v8_1 + 1), Gm4⟩ hr ⟨(Mem.le_trans (Mem.le_trans Gm2le Gm3le) Gm4le), v0_3h⟩ (Fr.sub_cons rfl (Fr.sub_cons rfl (Fr.sub_cons rfl (Fr.sub_cons rfl (Fr.sub_cons rfl (Fr.sub_nil _)))))) ?_
         ·intro w hs
          exact hs.weaken (Lo.sub_cons rfl (Lo.sub_nil _))
   ·replace hr := hr.neg hc1
    refine WC.exit ?_
    refine WE.thenExit ?_
    refine WE.thenExit ?_
    refine WE.exitHere ?_
    refine WE.endH ⟨v0_2, v0_2tk, Gm2⟩ ⟨Gm2le, v0_2h, hr⟩ (Fr.sub_cons rfl (Fr.sub_nil _)) ?_
    ·intro w hs
     exact hs.weaken (Lo.sub_cons rfl (Lo.sub_nil _))
 ·rintro ⟨v0_1, v0_1tk, Gm1⟩ ⟨Gm1le, v0_1h, hr⟩
  refine WE.then <| sr <| sg rfl rfl <| nx ?_
  refine WC.ret ?_
  replace hr : _ = r := hr
  subst hr
  refine WE.conseq (S' := St w0 G0 Gm1 [(5000, v0_1tk)]) ?_ ?_
  ·intro w hs
   exact hs.weaken (Lo.sub_cons rfl (Lo.sub_nil _))
  exact WE.ret1 rfl rfl ⟨_, rfl, rfl, v0_1h⟩
theorem L_slices_pdqsortOrdered_uint8_2 (a0_1 : (List Int)) (a1_1 : Int) (a2_1 : Int) (a3_1 : Int) (a0_1p : Option Addr) (a0_1c : Nat) (a0_1n : Nat) (a0_1tk : Option Ow) (r : (List Int)) (hr : (slices_pdqsortOrdered_uint8_2 a0_1 a1_1 a2_1 a3_1).Ret r) : CtrL Try.prog 106 #[.slice a0_1p a0_1n a0_1c, .int .i64 a1_1, .int .i64 a2_1, .int .i64 a3_1] [(5000, a0_1tk)] (fun G => RowR (Rp.int .u8) 5 G (.slice a0_1p a0_1n a0_1c) a0_1 a0_1tk) (fun G L v => ∃ zk0, L = [(5000, zk0)] ∧ v = .tuple #[] ∧ RowR (Rp.int .u8) 5 G (.slice a0_1p a0_1n a0_1c) r zk0) := by
 refine CtrL.enter (args := [_, _, _, _]) (N := 134) Try.func106 rfl rfl rfl (fun w0 G0 hL0 hpre => ?_)
 have a0_1h := hpre
 have hz : w0.L.zero := by
  rw [hL0]; intro p hp x hx
  simp only [List.mem_cons, List.not_mem_nil, or_false] at hp
  subst hp; exact RowR.zero a0_1h hx
 refine sr <| sg rfl rfl <| nr <| sg rfl rfl <| nx ?_
 refine WC.meetH (fun (gx : (List Int) × Option Ow × Mem) => match gx with | ⟨v0_1, v0_1tk, Gm1⟩ => [(0, .slice a0_1p a0_1n a0_1c)]) (fun (gx : (List Int) × Option Ow × Mem) => match gx with | ⟨v0_1, v0_1tk, Gm1⟩ => Mem.le G0 Gm1 ∧ RowR (Rp.int .u8) 5 Gm1 (.slice a0_1p a0_1n a0_1c) v0_1 v0_1tk ∧ (slices_pdqsortOrdered_uint8_2_k1 v0_1).Ret r) (fun (gx : (List Int) × Option Ow × Mem) => match gx with | ⟨v0_1, v0_1tk, Gm1⟩ => St w0 G0 Gm1 [(5000, v0_1tk)]) ?_ ?_
 ·refine WC.block ?_
  let Phi1 : (List Int) → Prop := fun oo => ((fun ov => match ov with | rv1 => Comp.ret rv1 : (List Int) → Comp (List Int)) oo).wp (fun a => a = r)
  replace hr : (Comp.loop _ _).wp Phi1 := hr
  refine WC.loopR (Φ := Phi1) (fun (gx : (List Int) × Option Ow × Int × Int × Int × Bool × Bool × Mem) => match gx with | ⟨v0_2, v0_2tk, v1_1, v2_1, v3_1, v8_1, v9_1, Gm2⟩ => ((v0_2, v1_1, v2_1, v3_1, v8_1, v9_1) : (List Int) × Int × Int × Int × Bool × Bool)) (fun (gx : (List Int) × Option Ow × Int × Int × Int × Bool × Bool × Mem) => match gx with | ⟨v0_2, v0_2tk, v1_1, v2_1, v3_1, v8_1, v9_1, Gm2⟩ => [(0, .slice a0_1p a0_1n a0_1c), (1, .int .i64 v1_1), (2, .int .i64 v2_1), (3, .int .i64 v3_1), (8, .bool v8_1), (9, .bool v9_1)]) (fun (gx : (List Int) × Option Ow × Int × Int × Int × Bool × Bool × Mem) => match gx with | ⟨v0_2, v0_2tk, v1_1, v2_1, v3_1, v8_1, v9_1, Gm2⟩ => Mem.le G0 Gm2 ∧ RowR (Rp.int .u8) 5 Gm2 (.slice a0_1p a0_1n a0_1c) v0_2 v0_2tk) (fun (gx : (List Int) × Option Ow × Int × Int × Int × Bool × Bool × Mem) => match gx with | ⟨v0_2, v0_2tk, v1_1, v2_1, v3_1, v8_1, v9_1, Gm2⟩ => St w0 G0 Gm2 [(5000, v0_2tk)]) ⟨a0_1, a0_1tk, a1_1, a2_1, a3_1, true, true, G0⟩ hr (Fr.sub_cons rfl (Fr.sub_cons rfl (Fr.sub_cons rfl (Fr.sub_cons rfl (Fr.sub_cons rfl (Fr.sub_cons rfl (Fr.sub_nil _))))))) ⟨(Mem.le_refl _), a0_1h⟩ ?_ ?_
  ·intro w hs
   exact hs.weaken (Lo.sub_cons rfl (Lo.sub_nil _))
  ·intro Aq1 gx hx hr
   obtain ⟨v0_2, v0_2tk, v1_1, v2_1, v3_1, v8_1, v9_1, Gm2⟩ := gx
   obtain ⟨Gm2le, v0_2h⟩ := hx
   refine WC.block <| sr <| mv rfl rfl <| mv rfl rfl <| yy (Y0.sub rfl rfl) rfl <| sg rfl rfl ?_
   refine nx <| WC.seq <| sr <| mv rfl rfl <| yy (Y0.leq rfl rfl) rfl <| nx ?_
   refine WC.condD (p := (IntKind.i64.wrap (v2_1 - v1_1)) ≤ 12) rfl (fun hc1 => ?_) (fun hc1 => ?_)
   ·replace hr := hr.pos hc1
    refine sr <| mv rfl rfl <| mv rfl rfl <| mv rfl rfl ?_
    obtain ⟨yv1, hyv1, hr⟩ := hr
    refine WL.callT guard_none rfl (YC.of E113 rfl) (L_slices_insertionSortOrdered_uint8 _ _ _ _ _ _ _ _ hyv1) rfl (v0_2h) (Lo.sub_cons rfl (Lo.sub_nil _)) hz (fun yv1v Gv1 Lyv1 Gv1le yv1post => ?_)
    obtain ⟨yv1tk0, rfl, rfl, yv1rh0⟩ := yv1post
    refine nx ?_
    refine WC.ret ?_
    replace hr : _ = r := hr
    refine WE.thenRet ?_
    refine WE.inBlockRet ?_
    refine WE.thenRet ?_
    refine WE.inBlockRet ?_
    refine WE.endRet ?_
    subst hr
    refine WE.conseq (S' := St w0 G0 Gv1 [(5000, yv1tk0)]) ?_ ?_
    ·intro w hs
     exact hs.weaken (Lo.sub_cons rfl (Lo.sub_nil _))
    exact WE.ret0 rfl  ⟨_, rfl, rfl, yv1rh0⟩
   ·replace hr := hr.neg hc1
    refine WC.skip <| WE.then <| WC.seq <| sr <| mv rfl rfl <| yy (Y0.eql rfl rfl) rfl ?_
    refine nx ?_
    refine WC.condD (p := v3_1 = 0) rfl (fun hc2 => ?_) (fun hc2 => ?_)
    ·replace hr := hr.pos hc2
     exact (show False from hr).elim
    ·replace hr := hr.neg hc2
     refine WC.skip <| WE.then ?_
     refine WC.seqH (fun (gx : (List Int) × Option Ow × Int × Mem) => match gx with | ⟨v0_3, v0_3tk, v3_2, Gm3⟩ => [(0, .slice a0_1p a0_1n a0_1c), (1, .int .i64 v1_1), (2, .int .i64 v2_1), (3, .int .i64 v3_2), (8, .bool v8_1), (9, .bool v9_1), (10, .int .i64 (IntKind.i64.wrap (v2_1 - v1_1)))]) (fun (gx : (List Int) × Option Ow × Int × Mem) => match gx with | ⟨v0_3, v0_3tk, v3_2, Gm3⟩ => Mem.le Gm2 Gm3 ∧ RowR (Rp.int .u8) 5 Gm3 (.slice a0_1p a0_1n a0_1c) v0_3 v0_3tk ∧ (slices_pdqsortOrdered_uint8_2_k5 v1_1 v2_1 v8_1 v9_1 v0_3 v3_2).wp (Out Aq1 Phi1)) (fun (gx : (List Int) × Option Ow × Int × Mem) => match gx with | ⟨v0_3, v0_3tk, v3_2, Gm3⟩ => St w0 G0 Gm3 [(5000, v0_3tk)]) ?_ ?_
     ·skip
      refine sr <| mv rfl rfl <| yy (Y0.not rfl) rfl <| nx ?_
      refine WC.cond (b := !v8_1) rfl (fun hc9 => ?_) (fun hc9 => ?_)
      ·replace hr := hr.pos hc9
       exact (show False from hr).elim
      ·replace hr := hr.neg (Bool.eq_false_iff.1 hc9)
       refine WC.skip ?_
       refine WE.midH ⟨v0_2, v0_2tk, v3_1, Gm2⟩ ⟨(Mem.le_refl _), v0_2h, hr⟩ (Fr.sub_cons rfl (Fr.sub_cons rfl (Fr.sub_cons rfl (Fr.sub_cons rfl (Fr.sub_cons rfl (Fr.sub_cons rfl (Fr.sub_cons rfl (Fr.sub_nil _)))))))) ?_
       ·intro w hs
        exact hs.weaken (Lo.sub_cons rfl (Lo.sub_nil _))
     ·rintro ⟨v0_3, v0_3tk, v3_2, Gm3⟩ ⟨Gm3le, v0_3h, hr⟩
      refine sr <| mv rfl rfl <| mv rfl rfl <| mv rfl rfl ?_
      obtain ⟨yv2, hyv2, hr⟩ := hr
      refine WL.peekROZ (L1 := []) (r := (Rp.int .u8)) (e := 5) 5000 v0_3h rfl hz guard_none rfl (fun _ => YC.of E116 rfl) (Ctr.ro (L_slices_choosePivotOrdered_uint8 _ _ _ _ _ _ hyv2)) (by rw [RowR.eqv v0_3h]) (fun G' hle hpk => (SlR.std hpk)) (Lo.sub_nil _) (fun i hi => by simp at hi) hz ?_
      refine mv rfl rfl <| yy (Y0.extract rfl rfl) rfl <| yy (Y0.extract rfl rfl) rfl <| sg rfl rfl <| sg rfl rfl <| nx ?_
      refine WC.seqH (fun (gx : (List Int) × Option Ow × Int × Int × Mem) => match gx with | ⟨v0_4, v0_4tk, v11_1, v12_1, Gm4⟩ => [(0, .slice a0_1p a0_1n a0_1c), (1, .int .i64 v1_1), (2, .int .i64 v2_1), (3, .int .i64 v3_2), (8, .bool v8_1), (9, .bool v9_1), (10, .int .i64 (IntKind.i64.wrap (v2_1 - v1_1))), (11, .int .i64 v11_1), (12, .int .i64 v12_1)]) (fun (gx : (List Int) × Option Ow × Int × Int × Mem) => match gx with | ⟨v0_4, v0_4tk, v11_1, v12_1, Gm4⟩ => Mem.le Gm3 Gm4 ∧ RowR (Rp.int .u8) 5 Gm4 (.slice a0_1p a0_1n a0_1c) v0_4 v0_4tk ∧ (slices_pdqsortOrdered_uint8_2_k4 v1_1 v2_1 v8_1 v9_1 v3_2 v0_4 v11_1 v12_1).wp (Out Aq1 Phi1)) (fun (gx : (List Int) × Option Ow × Int × Int × Mem) => match gx with | ⟨v0_4, v0_4tk, v11_1, v12_1, Gm4⟩ => St w0 G0 Gm4 [(5000, v0_4tk)]) ?_ ?_
      ·skip
       refine sr <| mv rfl rfl <| yy (Y0.eql rfl rfl) rfl <| nx ?_
       refine WC.condD (p := yv2.2 = 2) rfl (fun hc8 => ?_) (fun hc8 => ?_)
       ·replace hr := hr.pos hc8
        exact (show False from hr).elim
       ·replace hr := hr.neg hc8
        refine WC.skip ?_
        refine WE.midH ⟨v0_3, v0_3tk, yv2.1, yv2.2, Gm3⟩ ⟨(Mem.le_refl _), v0_3h, hr⟩ (Fr.sub_cons rfl (Fr.sub_cons rfl (Fr.sub_cons rfl (Fr.sub_cons rfl (Fr.sub_cons rfl (Fr.sub_cons rfl (Fr.sub_cons rfl (Fr.sub_cons rfl (Fr.sub_cons rfl (Fr.sub_nil _)))))))))) ?_
        ·intro w hs
         exact hs.weaken (Lo.sub_cons rfl (Lo.sub_nil _))
      ·rintro ⟨v0_4, v0_4tk, v11_1, v12_1, Gm4⟩ ⟨Gm4le, v0_4h, hr⟩
       refine WC.seqH (fun (gx : (List Int) × Option Ow × Mem) => match gx with | ⟨v0_5, v0_5tk, Gm5⟩ => [(0, .slice a0_1p a0_1n a0_1c), (1, .int .i64 v1_1), (2, .int .i64 v2_1), (3, .int .i64 v3_2), (8, .bool v8_1), (9, .bool v9_1), (10, .int .i64 (IntKind.i64.wrap (v2_1 - v1_1))), (11, .int .i64 v11_1)]) (fun (gx : (List Int) × Option Ow × Mem) => match gx with | ⟨v0_5, v0_5tk, Gm5⟩ => Mem.le Gm4 Gm5 ∧ RowR (Rp.int .u8) 5 Gm5 (.slice a0_1p a0_1n a0_1c) v0_5 v0_5tk ∧ (slices_pdqsortOrdered_uint8_2_k3 v1_1 v2_1 v3_2 v11_1 v0_5).wp (Out Aq1 Phi1)) (fun (gx : (List Int) × Option Ow × Mem) => match gx with | ⟨v0_5, v0_5tk, Gm5⟩ => St w0 G0 Gm5 [(5000, v0_5tk)]) ?_ ?_
       ·skip
        refine sr ?_
        refine WL.caseY0 (p := v8_1 = true) guard_none (Y0.eq (Y0.move rfl) (congrArg Value.bool (bdec _))) rfl (fun hb2 => ?_) (fun hb2 => ?_)
        ·replace hr := hr.pos hb2
         refine mv rfl rfl ?_
         refine WL.caseY0 (p := v9_1 = true) (guard_yes rfl rfl) (Y0.eq (Y0.move rfl) (congrArg Value.bool (bdec _))) rfl (fun hb3 => ?_) (fun hb3 => ?_)
         ·replace hr := hr.pos hb3
          refine yy (Y0.pickT rfl rfl) rfl <| mv rfl rfl ?_
          refine WL.y0' (guard_yes rfl rfl) (Y0.move rfl) rfl ?_
          refine WL.y0' (guard_yes rfl rfl) (Y0.eql rfl rfl) rfl ?_
          refine yy (Y0.pickT rfl rfl) rfl <| nx ?_
          refine WC.condD (p := v12_1 = 1) rfl (fun hc6 => ?_) (fun hc6 => ?_)
          ·replace hr := hr.pos hc6
           refine sr <| mv rfl rfl <| mv rfl rfl <| mv rfl rfl ?_
           obtain ⟨yv10, hyv10, hr⟩ := hr
           refine WL.callT guard_none rfl (YC.of E118 rfl) (L_slices_partialInsertionSortOrdered_uint8 _ _ _ _ _ _ _ _ hyv10) rfl (v0_4h) (Lo.sub_cons rfl (Lo.sub_nil _)) hz (fun yv10v Gv8 Lyv10 Gv8le yv10post => ?_)
           obtain ⟨yv10tk0, rfl, rfl, yv10rh0⟩ := yv10post
           refine nx ?_
           refine WC.cond (b := yv10.1) rfl (fun hc7 => ?_) (fun hc7 => ?_)
           ·replace hr := hr.pos hc7
            refine WC.ret ?_
            replace hr : _ = r := hr
            refine WE.thenRet ?_
            refine WE.inBlockRet ?_
            refine WE.thenRet ?_
            refine WE.inBlockRet ?_
            refine WE.endRet ?_
            subst hr
            refine WE.conseq (S' := St w0 G0 Gv8 [(5000, yv10tk0)]) ?_ ?_
            ·intro w hs
             exact hs.weaken (Lo.sub_cons rfl (Lo.sub_nil _))
            exact WE.ret0 rfl  ⟨_, rfl, rfl, yv10rh0⟩
           ·replace hr := hr.neg (Bool.eq_false_iff.1 hc7)
            refine WC.skip ?_
            refine WE.midH ⟨yv10.2, yv10tk0, Gv8⟩ ⟨Gv8le, yv10rh0, hr⟩ (Fr.sub_cons rfl (Fr.sub_cons rfl (Fr.sub_cons rfl (Fr.sub_cons rfl (Fr.sub_cons rfl (Fr.sub_cons rfl (Fr.sub_cons rfl (Fr.sub_cons rfl (Fr.sub_nil _))))))))) ?_
            ·intro w hs
             exact hs.weaken (Lo.sub_cons rfl (Lo.sub_nil _))
          ·replace hr := hr.neg hc6
           refine WC.skip ?_
           refine WE.midH ⟨v0_4, v0_4tk, Gm4⟩ ⟨(Mem.le_refl _), v0_4h, hr⟩ (Fr.sub_cons rfl (Fr.sub_cons rfl (Fr.sub_cons rfl (Fr.sub_cons rfl (Fr.sub_cons rfl (Fr.sub_cons rfl (Fr.sub_cons rfl (Fr.sub_cons rfl (Fr.sub_nil _))))))))) ?_
           ·intro w hs
            exact hs.weaken (Lo.sub_cons rfl (Lo.sub_nil _))
         ·replace hr := hr.neg hb3
          refine yy (Y0.pickT rfl rfl) rfl <| mv rfl rfl <| sk rfl rfl rfl <| sk rfl rfl rfl <| yy (Y0.pickF rfl rfl) rfl <| nx ?_
          refine WC.condF rfl ?_
          refine WC.skip ?_
          refine WE.midH ⟨v0_4, v0_4tk, Gm4⟩ ⟨(Mem.le_refl _), v0_4h, hr⟩ (Fr.sub_cons rfl (Fr.sub_cons rfl (Fr.sub_cons rfl (Fr.sub_cons rfl (Fr.sub_cons rfl (Fr.sub_cons rfl (Fr.sub_cons rfl (Fr.sub_cons rfl (Fr.sub_nil _))))))))) ?_
          ·intro w hs
           exact hs.weaken (Lo.sub_cons rfl (Lo.sub_nil _))
        ·replace hr := hr.neg hb2
         refine mv rfl rfl <| sk rfl rfl rfl <| yy (Y0.pickF rfl rfl) rfl <| mv rfl rfl <| sk rfl rfl rfl <| sk rfl rfl rfl ?_
         refine yy (Y0.pickF rfl rfl) rfl <| nx ?_
         refine WC.condF rfl ?_
         refine WC.skip ?_
         refine WE.midH ⟨v0_4, v0_4tk, Gm4⟩ ⟨(Mem.le_refl _), v0_4h, hr⟩ (Fr.sub_cons rfl (Fr.sub_cons rfl (Fr.sub_cons rfl (Fr.sub_cons rfl (Fr.sub_cons rfl (Fr.sub_cons rfl (Fr.sub_cons rfl (Fr.sub_cons rfl (Fr.sub_nil _))))))))) ?_
         ·intro w hs
          exact hs.weaken (Lo.sub_cons rfl (Lo.sub_nil _))
       ·rintro ⟨v0_5, v0_5tk, Gm5⟩ ⟨Gm5le, v0_5h, hr⟩
        refine WC.seq <| WC.seq ?_
        refine WC.drawn [false, false, false, false, false, false, false, false, false, false, false, false, false, false, false] mix (by kernel_rfl) (fun hb => ?_)
        refine Chain.y0 guard_none (fun _ hle => Y0.move rfl) ?_
        refine Chain.caseY0 (p := 0 < v1_1) guard_none (fun _ hle => Y0.gtr rfl rfl) (fun hb1 => ?_) (fun hb1 => ?_)
        ·replace hr := hr.pos hb1
         refine Chain.y0 guard_none (fun _ hle => Y0.move rfl) ?_
         refine Chain.y0 (guard_yes rfl rfl) (fun _ hle => Y0.move rfl) ?_
         refine Chain.y0 (guard_yes rfl rfl) (fun _ hle => Y0.move rfl) ?_
         refine Chain.y0 (guard_yes rfl rfl) (fun _ hle => Y0.sub rfl rfl) ?_
         obtain ⟨x1, hx1, hr⟩ := hr
         refine Chain.y0 (guard_yes rfl rfl) (fun _ hle => Y0.idxRow Try.underlying33 sz5 (v0_5h.mono hle) rfl rfl hx1) ?_
         refine Chain.y0 (guard_yes rfl rfl) (fun _ hle => Y0.loadT sc5 (v0_5h.mono hle) (key := 5000) rfl rfl (AtK.int (RowR.at v0_5h hx1))) ?_
         refine Chain.y0 (guard_yes rfl rfl) (fun _ hle => Y0.move rfl) ?_
         refine Chain.y0 (guard_yes rfl rfl) (fun _ hle => Y0.move rfl) ?_
         obtain ⟨x2, hx2, hr⟩ := hr
         refine Chain.y0 (guard_yes rfl rfl) (fun _ hle => Y0.idxRow Try.underlying33 sz5 (v0_5h.mono hle) rfl rfl hx2) ?_
         refine Chain.y0 (guard_yes rfl rfl) (fun _ hle => Y0.loadT sc5 (v0_5h.mono hle) (key := 5000) rfl rfl (AtK.int (RowR.at v0_5h hx2))) ?_
         obtain ⟨yv3, hyv3, hr⟩ := hr
         refine Chain.call0 (guard_yes rfl rfl) (fun _ => YC.of E119 rfl) (L_cmp_Less_uint8 _ _ _ hyv3) rfl (fun G' hle => trivial) ?_
         refine Chain.y0 (guard_yes rfl rfl) (fun _ hle => Y0.not rfl) ?_
         refine Chain.y0 guard_none (fun _ hle => Y0.pickT rfl rfl) ?_
         refine Chain.tail0 hb ?_
         refine WL.nil ?_
         refine WE.nx ?_
         refine WE.then ?_
         refine WC.cond (b := !yv3) rfl (fun hc3 => ?_) (fun hc3 => ?_)
         ·replace hr := hr.pos hc3
          exact (show False from hr).elim
         ·replace hr := hr.neg (Bool.eq_false_iff.1 hc3)
          refine WC.skip <| WE.then <| sr <| mv rfl rfl <| mv rfl rfl <| mv rfl rfl ?_
          refine mv rfl rfl ?_
          obtain ⟨yv4, hyv4, hr⟩ := hr
          refine WL.callT guard_none rfl (YC.of E121 rfl) (L_slices_partitionOrdered_uint8 _ _ _ _ _ _ _ _ _ hyv4) rfl (v0_5h) (Lo.sub_cons rfl (Lo.sub_nil _)) hz (fun yv4v Gv2 Lyv4 Gv2le yv4post => ?_)
          obtain ⟨yv4tk0, rfl, rfl, yv4rh0⟩ := yv4post
          refine mv rfl rfl <| yy (Y0.extract rfl rfl) rfl <| yy (Y0.extract rfl rfl) rfl <| sg rfl rfl <| sg rfl rfl <| nr ?_
          refine mv rfl rfl <| sg rfl rfl <| nr <| mv rfl rfl <| mv rfl rfl <| yy (Y0.sub rfl rfl) rfl ?_
          refine mv rfl rfl <| mv rfl rfl <| yy (Y0.sub rfl rfl) rfl <| sg rfl rfl <| sg rfl rfl <| nr ?_
          refine mv rfl rfl <| yy (Y0.quo rfl rfl (by decide)) rfl <| sg rfl rfl <| nr <| mv rfl rfl <| mv rfl rfl ?_
          refine yy (Y0.lss rfl rfl) rfl <| nx ?_
          refine WC.condD (p := (IntKind.i64.wrap (yv4.1 - v1_1)) < (IntKind.i64.wrap (v2_1 - yv4.1))) rfl (fun hc4 => ?_) (fun hc4 => ?_)
          ·replace hr := hr.pos hc4
           refine sr <| mv rfl rfl <| mv rfl rfl <| yy (Y0.geq rfl rfl) rfl <| sg rfl rfl <| nr ?_
           refine mv rfl rfl <| mv rfl rfl <| mv rfl rfl <| mv rfl rfl ?_
           obtain ⟨yv5, hyv5, hr⟩ := hr
           refine WL.callT guard_none rfl (YC.of E106 rfl) (L_slices_pdqsortOrdered_uint8 _ _ _ _ _ _ _ _ _ hyv5) rfl (yv4rh0) (Lo.sub_cons rfl (Lo.sub_nil _)) hz (fun yv5v Gv3 Lyv5 Gv3le yv5post => ?_)
           obtain ⟨yv5tk0, rfl, rfl, yv5rh0⟩ := yv5post
           refine nx <| WC.region <| mv rfl rfl <| yy (Y0.add rfl rfl) rfl <| sg rfl rfl <| WL.nil ?_
           refine WE.inBlock ?_
           refine WE.backR ⟨yv5, yv5tk0, IntKind.i64.wrap (yv4.1 + 1), v2_1, v3_2, decide ((IntKind.i64.wrap (Int.tdiv (IntKind.i64.wrap (v2_1 - v1_1)) 8)) ≤ (IntKind.i64.wrap (yv4.1 - v1_1))), yv4.2.1, Gv3⟩ hr ⟨(Mem.le_trans (Mem.le_trans (Mem.le_trans (Mem.le_trans (Mem.le_trans Gm2le Gm3le) Gm4le) Gm5le) Gv2le) Gv3le), yv5rh0⟩ (Fr.sub_cons rfl (Fr.sub_cons rfl (Fr.sub_cons rfl (Fr.sub_cons rfl (Fr.sub_cons rfl (Fr.sub_cons rfl (Fr.sub_nil _))))))) ?_
           ·intro w hs
            exact hs.weaken (Lo.sub_cons rfl (Lo.sub_nil _))
          ·replace hr := hr.neg hc4
           refine sr <| mv rfl rfl <| mv rfl rfl <| yy (Y0.geq rfl rfl) rfl <| sg rfl rfl <| nr ?_
           refine mv rfl rfl <| mv rfl rfl <| yy (Y0.add rfl rfl) rfl <| mv rfl rfl <| mv rfl rfl ?_
           obtain ⟨yv6, hyv6, hr⟩ := hr
           refine WL.callT guard_none rfl (YC.of E106 rfl) (L_slices_pdqsortOrdered_uint8 _ _ _ _ _ _ _ _ _ hyv6) rfl (yv4rh0) (Lo.sub_cons rfl (Lo.sub_nil _)) hz (fun yv6v Gv4 Lyv6 Gv4le yv6post => ?_)
           obtain ⟨yv6tk0, rfl, rfl, yv6rh0⟩ := yv6post
           refine nx <| WC.region <| mv rfl rfl <| sg rfl rfl <| WL.nil ?_
           refine WE.inBlock ?_
           refine WE.backR ⟨yv6, yv6tk0, v1_1, yv4.1, v3_2, decide ((IntKind.i64.wrap (Int.tdiv (IntKind.i64.wrap (v2_1 - v1_1)) 8)) ≤ (IntKind.i64.wrap (v2_1 - yv4.1))), yv4.2.1, Gv4⟩ hr ⟨(Mem.le_trans (Mem.le_trans (Mem.le_trans (Mem.le_trans (Mem.le_trans Gm2le Gm3le) Gm4le) Gm5le) Gv2le) Gv4le), yv6rh0⟩ (Fr.sub_cons rfl (Fr.sub_cons rfl (Fr.sub_cons rfl (Fr.sub_cons rfl (Fr.sub_cons rfl (Fr.sub_cons rfl (Fr.sub_nil _))))))) ?_
           ·intro w hs
            exact hs.weaken (Lo.sub_cons rfl (Lo.sub_nil _))
        ·replace hr := hr.neg hb1
         refine Chain.y0 guard_none (fun _ hle => Y0.move rfl) ?_
         refine Chain.skip (guard_noT rfl rfl) ?_
         refine Chain.skip (guard_noT rfl rfl) ?_
         refine Chain.skip (guard_noT rfl rfl) ?_
         refine Chain.skip (guard_noT rfl rfl) ?_
         refine Chain.skip (guard_noT rfl rfl) ?_
         refine Chain.skip (guard_noT rfl rfl) ?_
         refine Chain.skip (guard_noT rfl rfl) ?_
         refine Chain.skip (guard_noT rfl rfl) ?_
         refine Chain.skip (guard_noT rfl rfl) ?_
         refine Chain.skip (guard_noT rfl rfl) ?_
         refine Chain.skip (guard_noT rfl rfl) ?_
         refine Chain.y0 guard_none (fun _ hle => Y0.pickF rfl rfl) ?_
         refine Chain.tail0 hb ?_
         refine WL.nil ?_
         refine WE.nx ?_
         refine WE.then ?_
         refine WC.condF rfl ?_
         refine WC.skip <| WE.then <| sr <| mv rfl rfl <| mv rfl rfl <| mv rfl rfl ?_
         refine mv rfl rfl ?_
         obtain ⟨yv7, hyv7, hr⟩ := hr
         refine WL.callT guard_none rfl (YC.of E121 rfl) (L_slices_partitionOrdered_uint8 _ _ _ _ _ _ _ _ _ hyv7) rfl (v0_5h) (Lo.sub_cons rfl (Lo.sub_nil _)) hz (fun yv7v Gv5 Lyv7 Gv5le yv7post => ?_)
         obtain ⟨yv7tk0, rfl, rfl, yv7rh0⟩ := yv7post
         refine mv rfl rfl <| yy (Y0.extract rfl rfl) rfl <| yy (Y0.extract rfl rfl) rfl <| sg rfl rfl <| sg rfl rfl <| nr ?_
         refine mv rfl rfl <| sg rfl rfl <| nr <| mv rfl rfl <| mv rfl rfl <| yy (Y0.sub rfl rfl) rfl ?_
         refine mv rfl rfl <| mv rfl rfl <| yy (Y0.sub rfl rfl) rfl <| sg rfl rfl <| sg rfl rfl <| nr ?_
         refine mv rfl rfl <| yy (Y0.quo rfl rfl (by decide)) rfl <| sg rfl rfl <| nr <| mv rfl rfl <| mv rfl rfl ?_
         refine yy (Y0.lss rfl rfl) rfl <| nx ?_
         refine WC.condD (p := (IntKind.i64.wrap (yv7.1 - v1_1)) < (IntKind.i64.wrap (v2_1 - yv7.1))) rfl (fun hc5 => ?_) (fun hc5 => ?_)
         ·replace hr := hr.pos hc5
          refine sr <| mv rfl rfl <| mv rfl rfl <| yy (Y0.geq rfl rfl) rfl <| sg rfl rfl <| nr ?_
          refine mv rfl rfl <| mv rfl rfl <| mv rfl rfl <| mv rfl rfl ?_
          obtain ⟨yv8, hyv8, hr⟩ := hr
          refine WL.callT guard_none rfl (YC.of E106 rfl) (L_slices_pdqsortOrdered_uint8 _ _ _ _ _ _ _ _ _ hyv8) rfl (yv7rh0) (Lo.sub_cons rfl (Lo.sub_nil _)) hz (fun yv8v Gv6 Lyv8 Gv6le yv8post => ?_)
          obtain ⟨yv8tk0, rfl, rfl, yv8rh0⟩ := yv8post
          refine nx <| WC.region <| mv rfl rfl <| yy (Y0.add rfl rfl) rfl <| sg rfl rfl <| WL.nil ?_
          refine WE.inBlock ?_
          refine WE.backR ⟨yv8, yv8tk0, IntKind.i64.wrap (yv7.1 + 1), v2_1, v3_2, decide ((IntKind.i64.wrap (Int.tdiv (IntKind.i64.wrap (v2_1 - v1_1)) 8)) ≤ (IntKind.i64.wrap (yv7.1 - v1_1))), yv7.2.1, Gv6⟩ hr ⟨(Mem.le_trans (Mem.le_trans (Mem.le_trans (Mem.le_trans (Mem.le_trans Gm2le Gm3le) Gm4le) Gm5le) Gv5le) Gv6le), yv8rh0⟩ (Fr.sub_cons rfl (Fr.sub_cons rfl (Fr.sub_cons rfl (Fr.sub_cons rfl (Fr.sub_cons rfl (Fr.sub_cons rfl (Fr.sub_nil _))))))) ?_
          ·intro w hs
           exact hs.weaken (Lo.sub_cons rfl (Lo.sub_nil _))
         ·replace hr := hr.neg hc5
          refine sr <| mv rfl rfl <| mv rfl rfl <| yy (Y0.geq rfl rfl) rfl <| sg rfl rfl <| nr ?_
          refine mv rfl rfl <| mv rfl rfl <| yy (Y0.add rfl rfl) rfl <| mv rfl rfl <| mv rfl rfl ?_
          obtain ⟨yv9, hyv9, hr⟩ := hr
          refine WL.callT guard_none rfl (YC.of E106 rfl) (L_slices_pdqsortOrdered_uint8 _ _ _ _ _ _ _ _ _ hyv9) rfl (yv7rh0) (Lo.sub_cons rfl (Lo.sub_nil _)) hz (fun yv9v Gv7 Lyv9 Gv7le yv9post => ?_)
          obtain ⟨yv9tk0, rfl, rfl, yv9rh0⟩ := yv9post
          refine nx <| WC.region <| mv rfl rfl <| sg rfl rfl <| WL.nil ?_
          refine WE.inBlock ?_
          refine WE.backR ⟨yv9, yv9tk0, v1_1, yv7.1, v3_2, decide ((IntKind.i64.wrap (Int.tdiv (IntKind.i64.wrap (v2_1 - v1_1)) 8)) ≤ (IntKind.i64.wrap (v2_1 - yv7.1))), yv7.2.1, Gv7⟩ hr ⟨(Mem.le_trans (Mem.le_trans (Mem.le_trans (Mem.le_trans (Mem.le_trans Gm2le Gm3le) Gm4le) Gm5le) Gv5le) Gv7le), yv9rh0⟩ (Fr.sub_cons rfl (Fr.sub_cons rfl (Fr.sub_cons rfl (Fr.sub_cons rfl (Fr.sub_cons rfl (Fr.sub_cons rfl (Fr.sub_nil _))))))) ?_
          ·intro w hs
           exact hs.weaken (Lo.sub_cons rfl (Lo.sub_nil _))
 ·rintro ⟨v0_1, v0_1tk, Gm1⟩ ⟨Gm1le, v0_1h, hr⟩
  refine WE.retN ?_
  replace hr : _ = r := hr
  subst hr
  refine WE.conseq (S' := St w0 G0 Gm1 [(5000, v0_1tk)]) ?_ ?_
  ·intro w hs
   exact hs.weaken (Lo.sub_cons rfl (Lo.sub_nil _))
  exact WE.ret0 rfl  ⟨_, rfl, rfl, v0_1h⟩
theorem L_monomial_Valid (m1 : (Fin 8 → Int)) (r : Bool) (hr : (monomial_Valid m1).Ret r) : Ctr Try.prog 64 #[.agg (vecG (Value.int .i64) 8 m1).toArray] (fun G => True) (fun G v => v = .bool r) := by
 refine Ctr.enter (args := [_]) (N := 16) Try.func64 rfl rfl rfl (fun w0 G0 hL0 hpre => ?_)
 refine sr ?_
 refine WL.box 1 guard_none rfl rfl (fun b1 => ?_)
 refine sg rfl rfl <| nx <| WC.seq <| sr <| yy (Y0.loadLA 1 ag48 rfl rfl (vecG_size _ _ _)) rfl <| mv rfl rfl ?_
 refine nx ?_
 refine WC.meetH (fun (gx : Mem) => match gx with | Gm1 => []) (fun (gx : Mem) => match gx with | Gm1 => Mem.le G0 Gm1 ∧ (monomial_Valid_k1).Ret r) (fun (gx : Mem) => match gx with | Gm1 => St w0 G0 Gm1 []) ?_ ?_
 ·refine WC.block ?_
  let Phi1 : (Bool ⊕ Unit) → Prop := fun oo => ((fun ov => match ov with | .inl rv1 => Comp.ret rv1 | .inr () => monomial_Valid_k1 : (Bool ⊕ Unit) → Comp Bool) oo).wp (fun a => a = r)
  replace hr : (Comp.loop _ _).wp Phi1 := hr
  refine WC.loopR (Φ := Phi1) (fun (gx : Int × Mem) => match gx with | ⟨v6_1, Gm2⟩ => (v6_1 : Int)) (fun (gx : Int × Mem) => match gx with | ⟨v6_1, Gm2⟩ => [(5, .agg (vecG (Value.int .i64) 8 m1).toArray), (6, .int .i64 v6_1)]) (fun (gx : Int × Mem) => match gx with | ⟨v6_1, Gm2⟩ => Mem.le G0 Gm2) (fun (gx : Int × Mem) => match gx with | ⟨v6_1, Gm2⟩ => St w0 G0 Gm2 []) ⟨0, G0⟩ hr (Fr.sub_cons rfl (Fr.sub_cons rfl (Fr.sub_nil _))) (Mem.le_refl _) ?_ ?_
  ·intro w hs
   exact hs.weaken (Lo.sub_nil _)
  ·intro Aq1 gx hx hr
   obtain ⟨v6_1, Gm2⟩ := gx
   have Gm2le := hx
   refine sr <| yy (Y0.lss rfl rfl) rfl <| nx <| WC.seq ?_
   refine WC.condD (p := v6_1 < 8) rfl (fun hc1 => ?_) (fun hc1 => ?_)
   ·replace hr := hr.pos hc1
    refine WC.skip <| WE.then <| WC.seq <| WC.block <| sr ?_
    obtain ⟨hi1, hr⟩ := hr
    refine yy (Y0.index Try.underlying48 sc3 sz3 rfl rfl hi1 (vecG_at _ _ _ hi1)) rfl <| sg rfl rfl <| nr <| mv rfl rfl ?_
    refine WL.caseY0 (p := (getF m1 v6_1) < 0) guard_none (Y0.lss rfl rfl) rfl (fun hb1 => ?_) (fun hb1 => ?_)
    ·replace hr := hr.pos hb1
     refine mv rfl rfl ?_
     refine WL.skip (guard_noF rfl rfl) rfl ?_
     refine WL.skip (guard_noF rfl rfl) rfl ?_
     refine yy (Y0.pickT rfl rfl) rfl <| nx ?_
     refine WC.condT rfl ?_
     refine sr <| sg rfl rfl <| nx ?_
     refine WC.ret ?_
     replace hr : _ = r := hr
     refine WE.inBlockRet ?_
     refine WE.thenRet ?_
     refine WE.thenRet ?_
     refine WE.inBlockRet ?_
     refine WE.endRet ?_
     refine WE.thenRet ?_
     subst hr
     exact WE.ret1 rfl rfl rfl
    ·replace hr := hr.neg hb1
     refine mv rfl rfl ?_
     refine WL.y0' (guard_yes rfl rfl) (Y0.move rfl) rfl ?_
     refine WL.y0' (guard_yes rfl rfl) (Y0.gtr rfl rfl) rfl ?_
     refine yy (Y0.pickF rfl rfl) rfl <| nx ?_
     refine WC.condD (p := 65535 < (getF m1 v6_1)) rfl (fun hc2 => ?_) (fun hc2 => ?_)
     ·replace hr := hr.pos hc2
      refine sr <| sg rfl rfl <| nx ?_
      refine WC.ret ?_
      replace hr : _ = r := hr
      refine WE.inBlockRet ?_
      refine WE.thenRet ?_
      refine WE.thenRet ?_
      refine WE.inBlockRet ?_
      refine WE.endRet ?_
      refine WE.thenRet ?_
      subst hr
      exact WE.ret1 rfl rfl rfl
     ·replace hr := hr.neg hc2
      refine WC.skip ?_
      refine WE.inBlock ?_
      refine WE.then <| WC.region <| yy (Y0.add rfl rfl) rfl <| mv rfl rfl <| WL.nil ?_
      refine WE.backR ⟨IntKind.i64.wrap (v6_1 + 1), Gm2⟩ hr Gm2le (Fr.sub_cons rfl (Fr.sub_cons rfl (Fr.sub_nil _))) ?_
      ·intro w hs
       exact hs.weaken (Lo.sub_nil _)
   ·replace hr := hr.neg hc1
    refine WC.exit ?_
    refine WE.thenExit ?_
    refine WE.thenExit ?_
    refine WE.exitHere ?_
    refine WE.endH Gm2 ⟨Gm2le, hr⟩ (Fr.sub_nil _) ?_
    ·intro w hs
     exact hs.weaken (Lo.sub_nil _)
 ·rintro Gm1 ⟨Gm1le, hr⟩
  refine WE.then <| sr <| sg rfl rfl <| nx ?_
  refine WC.ret ?_
  replace hr : _ = r := hr
  subst hr
  exact WE.ret1 rfl rfl rfl
theorem L_monomial_Support (m1 : (Fin 8 → Int)) (r : Int) (hr : (monomial_Support m1).Ret r) : Ctr Try.prog 65 #[.agg (vecG (Value.int .i64) 8 m1).toArray] (fun G => True) (fun G v => v = .int .u8 r) := by
 refine Ctr.enter (args := [_]) (N := 19) Try.func65 rfl rfl rfl (fun w0 G0 hL0 hpre => ?_)
 refine sr ?_
 refine WL.box 1 guard_none rfl rfl (fun b1 => ?_)
 refine sg rfl rfl <| nr <| sg rfl rfl <| nx <| WC.seq <| sr ?_
 refine yy (Y0.loadLA 1 ag48 rfl rfl (vecG_size _ _ _)) rfl <| mv rfl rfl <| nx ?_
 refine WC.meetH (fun (gx : Int × Mem) => match gx with | ⟨s1, Gm1⟩ => [(3, .int .u8 s1)]) (fun (gx : Int × Mem) => match gx with | ⟨s1, Gm1⟩ => Mem.le G0 Gm1 ∧ (monomial_Support_k1 s1).Ret r) (fun (gx : Int × Mem) => match gx with | ⟨s1, Gm1⟩ => St w0 G0 Gm1 []) ?_ ?_
 ·refine WC.block ?_
  let Phi1 : Int → Prop := fun oo => ((fun ov => match ov with | s1 => monomial_Support_k1 s1 : Int → Comp Int) oo).wp (fun a => a = r)
  replace hr : (Comp.loop _ _).wp Phi1 := hr
  refine WC.loopR (Φ := Phi1) (fun (gx : Int × Int × Mem) => match gx with | ⟨s2, v7_1, Gm2⟩ => ((s2, v7_1) : Int × Int)) (fun (gx : Int × Int × Mem) => match gx with | ⟨s2, v7_1, Gm2⟩ => [(3, .int .u8 s2), (6, .agg (vecG (Value.int .i64) 8 m1).toArray), (7, .int .i64 v7_1)]) (fun (gx : Int × Int × Mem) => match gx with | ⟨s2, v7_1, Gm2⟩ => Mem.le G0 Gm2) (fun (gx : Int × Int × Mem) => match gx with | ⟨s2, v7_1, Gm2⟩ => St w0 G0 Gm2 []) ⟨0, 0, G0⟩ hr (Fr.sub_cons rfl (Fr.sub_cons rfl (Fr.sub_cons rfl (Fr.sub_nil _)))) (Mem.le_refl _) ?_ ?_
  ·intro w hs
   exact hs.weaken (Lo.sub_nil _)
  ·intro Aq1 gx hx hr
   obtain ⟨s2, v7_1, Gm2⟩ := gx
   have Gm2le := hx
   refine sr <| yy (Y0.lss rfl rfl) rfl <| nx <| WC.seq ?_
   refine WC.condD (p := v7_1 < 8) rfl (fun hc1 => ?_) (fun hc1 => ?_)
   ·replace hr := hr.pos hc1
    refine WC.skip <| WE.then <| WC.seq <| WC.block <| sr <| mv rfl rfl ?_
    obtain ⟨hi1, hr⟩ := hr
    refine yy (Y0.index Try.underlying48 sc3 sz3 rfl rfl hi1 (vecG_at _ _ _ hi1)) rfl <| sg rfl rfl <| sg rfl rfl <| nr <| mv rfl rfl <| yy (Y0.gtr rfl rfl) rfl ?_
    refine nx ?_
    refine WC.condD (p := 0 < (getF m1 v7_1)) rfl (fun hc2 => ?_) (fun hc2 => ?_)
    ·replace hr := hr.pos hc2
     refine WC.region <| mv rfl rfl <| mv rfl rfl ?_
     obtain ⟨hd1, hr⟩ := hr
     refine yy (Y0.shl rfl rfl hd1) rfl <| yy (Y0.or rfl rfl) rfl <| sg rfl rfl <| WL.nil ?_
     refine WE.inBlock ?_
     refine WE.then <| WC.region <| yy (Y0.add rfl rfl) rfl <| mv rfl rfl <| WL.nil ?_
     refine WE.backR ⟨IntKind.u8.wrap (BitVec.ofInt IntKind.u8.bits s2 ||| BitVec.ofInt IntKind.u8.bits (IntKind.u8.wrap (1 * 2 ^ (min (v7_1).toNat IntKind.u8.bits)))).toNat, IntKind.i64.wrap (v7_1 + 1), Gm2⟩ hr Gm2le (Fr.sub_cons rfl (Fr.sub_cons rfl (Fr.sub_cons rfl (Fr.sub_nil _)))) ?_
     ·intro w hs
      exact hs.weaken (Lo.sub_nil _)
    ·replace hr := hr.neg hc2
     refine WC.skip ?_
     refine WE.inBlock ?_
     refine WE.then <| WC.region <| yy (Y0.add rfl rfl) rfl <| mv rfl rfl <| WL.nil ?_
     refine WE.backR ⟨s2, IntKind.i64.wrap (v7_1 + 1), Gm2⟩ hr Gm2le (Fr.sub_cons rfl (Fr.sub_cons rfl (Fr.sub_cons rfl (Fr.sub_nil _)))) ?_
     ·intro w hs
      exact hs.weaken (Lo.sub_nil _)
   ·replace hr := hr.neg hc1
    refine WC.exit ?_
    refine WE.thenExit ?_
    refine WE.thenExit ?_
    refine WE.exitHere ?_
    refine WE.endH ⟨s2, Gm2⟩ ⟨Gm2le, hr⟩ (Fr.sub_cons rfl (Fr.sub_nil _)) ?_
    ·intro w hs
     exact hs.weaken (Lo.sub_nil _)
 ·rintro ⟨s1, Gm1⟩ ⟨Gm1le, hr⟩
  refine WE.then <| sr <| mv rfl rfl <| sg rfl rfl <| nx ?_
  refine WC.ret ?_
  replace hr : _ = r := hr
  subst hr
  exact WE.ret1 rfl rfl rfl
theorem L_components_check (l1 : (List (Fin 8 → Int))) (n1 : Int) (l1p : Option Addr) (l1c : Nat) (r : Int) (hr : (components_check l1 n1).Ret r) : Ctr Try.prog 42 #[.slice l1p l1.length l1c, .int .i64 n1] (fun G => SlR (Rp.vec .i64 8) G (.slice l1p l1.length l1c) l1) (fun G v => v = .int .i64 r) := by
 refine Ctr.enter (args := [_, _]) (N := 34) Try.func42 rfl rfl rfl (fun w0 G0 hL0 hpre => ?_)
 have l1h := hpre
 refine sr <| sg rfl rfl <| nx <| WC.seq <| sr <| mv rfl rfl ?_
 refine WL.caseY0 (p := n1 < 0) guard_none (Y0.lss rfl rfl) rfl (fun hb1 => ?_) (fun hb1 => ?_)
 ·replace hr := hr.pos hb1
  refine mv rfl rfl ?_
  refine WL.skip (guard_noF rfl rfl) rfl ?_
  refine WL.skip (guard_noF rfl rfl) rfl ?_
  refine yy (Y0.pickT rfl rfl) rfl <| nx ?_
  refine WC.condT rfl ?_
  refine sr <| sg rfl rfl <| nx ?_
  refine WC.ret ?_
  replace hr : _ = r := hr
  refine WE.thenRet ?_
  subst hr
  exact WE.ret1 rfl rfl rfl
 ·replace hr := hr.neg hb1
  refine mv rfl rfl ?_
  refine WL.y0' (guard_yes rfl rfl) (Y0.move rfl) rfl ?_
  refine WL.y0' (guard_yes rfl rfl) (Y0.gtr rfl rfl) rfl ?_
  refine yy (Y0.pickF rfl rfl) rfl <| nx ?_
  refine WC.condD (p := 8 < n1) rfl (fun hc1 => ?_) (fun hc1 => ?_)
  ·replace hr := hr.pos hc1
   refine sr <| sg rfl rfl <| nx ?_
   refine WC.ret ?_
   replace hr : _ = r := hr
   refine WE.thenRet ?_
   subst hr
   exact WE.ret1 rfl rfl rfl
  ·replace hr := hr.neg hc1
   refine WC.skip <| WE.then <| WC.seq <| sr <| mv rfl rfl <| yy (Y0.lenR Try.underlying28 l1h rfl) rfl ?_
   refine mv rfl rfl <| nx ?_
   refine WC.meetH (fun (gx : Mem) => match gx with | Gm1 => [(0, .slice l1p l1.length l1c)]) (fun (gx : Mem) => match gx with | Gm1 => Mem.le G0 Gm1 ∧ (components_check_k1 l1).Ret r) (fun (gx : Mem) => match gx with | Gm1 => St w0 G0 Gm1 []) ?_ ?_
   ·refine WC.block ?_
    let Phi1 : (Int ⊕ Unit) → Prop := fun oo => ((fun ov => match ov with | .inl rv1 => Comp.ret rv1 | .inr () => components_check_k1 l1 : (Int ⊕ Unit) → Comp Int) oo).wp (fun a => a = r)
    replace hr : (Comp.loop _ _).wp Phi1 := hr
    refine WC.loopR (Φ := Phi1) (fun (gx : Int × Mem) => match gx with | ⟨v15_1, Gm2⟩ => (v15_1 : Int)) (fun (gx : Int × Mem) => match gx with | ⟨v15_1, Gm2⟩ => [(0, .slice l1p l1.length l1c), (1, .int .i64 n1), (13, .slice l1p l1.length l1c), (14, .int .i64 (l1.length : Int)), (15, .int .i64 v15_1)]) (fun (gx : Int × Mem) => match gx with | ⟨v15_1, Gm2⟩ => Mem.le G0 Gm2) (fun (gx : Int × Mem) => match gx with | ⟨v15_1, Gm2⟩ => St w0 G0 Gm2 []) ⟨0, G0⟩ hr (Fr.sub_cons rfl (Fr.sub_cons rfl (Fr.sub_cons rfl (Fr.sub_cons rfl (Fr.sub_cons rfl (Fr.sub_nil _)))))) (Mem.le_refl _) ?_ ?_
    ·intro w hs
     exact hs.weaken (Lo.sub_nil _)
    ·intro Aq1 gx hx hr
     obtain ⟨v15_1, Gm2⟩ := gx
     have Gm2le := hx
     refine sr <| yy (Y0.lss rfl rfl) rfl <| nx <| WC.seq ?_
     refine WC.condD (p := v15_1 < (l1.length : Int)) rfl (fun hc3 => ?_) (fun hc3 => ?_)
     ·replace hr := hr.pos hc3
      refine WC.skip <| WE.then <| WC.seq <| WC.block <| sr ?_
      obtain ⟨x1, hx1, hr⟩ := hr
      refine yy (Y0.idxR Try.underlying28 sz48 (l1h.mono Gm2le) rfl rfl hx1) rfl <| yy (Y0.loadGA _ ag48 rfl (vecG_size _ _ _) (AtK.vec (At.mono (SlR.at l1h hx1) Gm2le))) rfl ?_
      refine WL.alloc 6 guard_none z48 rfl (fun b1 => ?_)
      refine WL.storeLA 6 guard_none sz48 rfl rfl rfl (vecG_size _ _ _) (vecG_size _ _ _) (fun u hu => Rp.one (Rp.vec .i64 8) (G := Gm2) (x := x1) (cs := vecG (Value.int .i64) 8 x1) rfl u (by simpa using hu)) ?_
      refine nr <| yy (Y0.loadLA 6 ag48 rfl rfl (vecG_size _ _ _)) rfl ?_
      obtain ⟨yv1, hyv1, hr⟩ := hr
      refine WL.call0 guard_none rfl (YC.of E64 rfl) (L_monomial_Valid _ _ hyv1) rfl (trivial) ?_
      cases yv1
      ·skip
       refine yy (Y0.not rfl) rfl <| mv rfl rfl ?_
       refine WL.skip (guard_noF rfl rfl) rfl ?_
       refine WL.skip (guard_noF rfl rfl) rfl ?_
       refine WL.skip (guard_noF rfl rfl) rfl ?_
       refine WL.skip (guard_noF rfl rfl) rfl ?_
       refine WL.skip (guard_noF rfl rfl) rfl ?_
       refine WL.skip (guard_noF rfl rfl) rfl ?_
       refine yy (Y0.pickT rfl rfl) rfl <| nx ?_
       refine WC.condT rfl ?_
       refine sr <| sg rfl rfl <| nx ?_
       refine WC.ret ?_
       replace hr : _ = r := hr
       refine WE.inBlockRet ?_
       refine WE.thenRet ?_
       refine WE.thenRet ?_
       refine WE.inBlockRet ?_
       refine WE.endRet ?_
       refine WE.thenRet ?_
       subst hr
       exact WE.ret1 rfl rfl rfl
      ·skip
       refine yy (Y0.not rfl) rfl <| mv rfl rfl ?_
       refine WL.y0' (guard_yes rfl rfl) (Y0.loadLA 6 ag48 rfl rfl (vecG_size _ _ _)) rfl ?_
       obtain ⟨yv2, hyv2, hr⟩ := hr
       refine WL.call0 (guard_yes rfl rfl) rfl (YC.of E65 rfl) (L_monomial_Support _ _ hyv2) rfl (trivial) ?_
       refine WL.y0' (guard_yes rfl rfl) (Y0.conv Try.underlying5 Try.underlying3 rfl) rfl ?_
       refine WL.y0' (guard_yes rfl rfl) (Y0.move rfl) rfl ?_
       obtain ⟨hd1, hr⟩ := hr
       refine WL.y0' (guard_yes rfl rfl) (Y0.shr rfl rfl hd1) rfl ?_
       refine WL.y0' (guard_yes rfl rfl) (Y0.neq rfl rfl) rfl ?_
       refine yy (Y0.pickF rfl rfl) rfl <| nx ?_
       refine WC.condD (p := ¬ (Int.fdiv (IntKind.i64.wrap yv2) (2 ^ (min (n1).toNat IntKind.i64.bits))) = 0) rfl (fun hc4 => ?_) (fun hc4 => ?_)
       ·replace hr := hr.pos hc4
        refine sr <| sg rfl rfl <| nx ?_
        refine WC.ret ?_
        replace hr : _ = r := hr
        refine WE.inBlockRet ?_
        refine WE.thenRet ?_
        refine WE.thenRet ?_
        refine WE.inBlockRet ?_
        refine WE.endRet ?_
        refine WE.thenRet ?_
        subst hr
        exact WE.ret1 rfl rfl rfl
       ·replace hr := hr.neg hc4
        refine WC.skip ?_
        refine WE.inBlock ?_
        refine WE.then <| WC.region <| yy (Y0.add rfl rfl) rfl <| mv rfl rfl <| WL.nil ?_
        refine WE.backR ⟨IntKind.i64.wrap (v15_1 + 1), Gm2⟩ hr Gm2le (Fr.sub_cons rfl (Fr.sub_cons rfl (Fr.sub_cons rfl (Fr.sub_cons rfl (Fr.sub_cons rfl (Fr.sub_nil _)))))) ?_
        ·intro w hs
         exact hs.weaken (Lo.sub_nil _)
     ·replace hr := hr.neg hc3
      refine WC.exit ?_
      refine WE.thenExit ?_
      refine WE.thenExit ?_
      refine WE.exitHere ?_
      refine WE.endH Gm2 ⟨Gm2le, hr⟩ (Fr.sub_cons rfl (Fr.sub_nil _)) ?_
      ·intro w hs
       exact hs.weaken (Lo.sub_nil _)
   ·rintro Gm1 ⟨Gm1le, hr⟩
    refine WE.then <| WC.seq <| sr <| mv rfl rfl <| yy (Y0.lenR Try.underlying28 (l1h.mono Gm1le) rfl) rfl <| yy (Y0.gtr rfl rfl) rfl ?_
    refine nx ?_
    refine WC.condD (p := 8 < (l1.length : Int)) rfl (fun hc2 => ?_) (fun hc2 => ?_)
    ·replace hr := hr.pos hc2
     refine sr <| sg rfl rfl <| nx ?_
     refine WC.ret ?_
     replace hr : _ = r := hr
     refine WE.thenRet ?_
     subst hr
     exact WE.ret1 rfl rfl rfl
    ·replace hr := hr.neg hc2
     refine WC.skip <| WE.then <| sr <| sg rfl rfl <| nx ?_
     refine WC.ret ?_
     replace hr : _ = r := hr
     subst hr
     exact WE.ret1 rfl rfl rfl
theorem L_slices_Clone_api_Mono_api_Mono (s1 : (List (Fin 8 → Int))) (s1p : Option Addr) (s1c : Nat) (r : (List (Fin 8 → Int))) (hr : (slices_Clone_api_Mono_api_Mono s1).Ret r) : CtrL Try.prog 78 #[.slice s1p s1.length s1c] [] (fun G => SlR (Rp.vec .i64 8) G (.slice s1p s1.length s1c) s1) (fun G L v => ∃ zp zc ztk, L = [(7000, ztk)] ∧ v = .slice zp r.length zc ∧ RowR (Rp.vec .i64 8) 48 G (.slice zp r.length zc) r ztk) := by
 refine CtrL.enter (args := [_]) (N := 8) Try.func78 rfl rfl rfl (fun w0 G0 hL0 hpre => ?_)
 have s1h := hpre
 refine sr <| sg rfl rfl <| nx <| WC.seq <| sr <| mv rfl rfl ?_
 refine yy (Y0.eqlNil Try.underlying28 rfl rfl) rfl <| nx ?_
 refine WC.condD (p := s1p = none) rfl (fun hc1 => ?_) (fun hc1 => ?_)
 ·replace hr := hr.1 (SlR.nil_of s1h hc1)
  refine sr <| sg rfl rfl <| nx ?_
  refine WC.ret ?_
  replace hr : _ = r := hr
  refine WE.thenRet ?_
  subst hr
  refine WE.conseq (S' := St w0 G0 G0 [(7000, none)]) ?_ ?_
  ·intro w hs
   exact hs.weaken (Lo.sub_no (Lo.sub_nil _))
  exact WE.ret1 rfl rfl ⟨_, _, _, rfl, rfl, (RowR.nil (r := (Rp.vec .i64 8)) (e := 48))⟩
 ·replace hr := hr.2
  refine WC.skip <| WE.then <| sr ?_
  refine WL.litT (e := 48) (r := (Rp.vec .i64 8)) (vs := #[]) (cs := []) ([] : List (Fin 8 → Int)) 4005 guard_none rfl rfl rfl rfl (by decide) (fun _ => by kernel_rfl) (rfl) (fun p1 p1tk p1h => ?_)
  refine mv rfl rfl ?_
  obtain ⟨hsm1, hr⟩ := hr
  refine WL.appendT (r := (Rp.vec .i64 8)) (e := 48) 4005 guard_none rfl Try.underlying28 el48 rfl (by decide) rfl rfl p1h rfl s1h hsm1 (fun p2 p2c p2tk p2h => ?_)
  refine sg rfl rfl <| nx ?_
  refine WC.ret ?_
  replace hr : _ = r := hr
  subst hr
  refine WE.conseq (S' := St w0 G0 G0 [(7000, p2tk)]) ?_ ?_
  ·intro w hs
   have hs := hs.rekey (i := 4005) (j := 7000) rfl (by rw [hL0]; rfl)
   exact hs.weaken (Lo.sub_cons rfl (Lo.sub_nil _))
  exact WE.ret1 rfl rfl ⟨_, _, _, rfl, rfl, p2h⟩
theorem L_math_bits_Len64 (x1 : Int) (r : Int) (hr : (math_bits_Len64 x1).Ret r) : Ctr Try.prog 104 #[.int .u64 x1] (fun G => True) (fun G v => v = .int .i64 r) := by
 refine Ctr.enter (args := [_]) (N := 25) Try.func104 rfl rfl rfl (fun w0 G0 hL0 hpre => ?_)
 refine sr <| sg rfl rfl <| nx ?_
 refine WC.seqH (fun (gx : Int × Int × Mem) => match gx with | ⟨x2, n1, Gm1⟩ => [(0, .int .u64 x2), (2, .int .i64 n1)]) (fun (gx : Int × Int × Mem) => match gx with | ⟨x2, n1, Gm1⟩ => Mem.le G0 Gm1 ∧ (math_bits_Len64_k2 x2 n1).Ret r) (fun (gx : Int × Int × Mem) => match gx with | ⟨x2, n1, Gm1⟩ => St w0 G0 Gm1 []) ?_ ?_
 ·skip
  refine sr <| mv rfl rfl <| yy (Y0.geq rfl rfl) rfl <| nx ?_
  refine WC.condD (p := 4294967296 ≤ x1) rfl (fun hc3 => ?_) (fun hc3 => ?_)
  ·replace hr := hr.pos hc3
   refine sr <| mv rfl rfl <| yy (Y0.shr rfl rfl (by decide)) rfl <| sg rfl rfl <| nx <| WC.region ?_
   refine sg rfl rfl <| WL.nil ?_
   refine WE.midH ⟨Int.fdiv x1 (2 ^ (min (32 : Int).toNat IntKind.u64.bits)), 32, G0⟩ ⟨(Mem.le_refl _), hr⟩ (Fr.sub_cons rfl (Fr.sub_cons rfl (Fr.sub_nil _))) ?_
   ·intro w hs
    exact hs.weaken (Lo.sub_nil _)
  ·replace hr := hr.neg hc3
   refine WC.skip ?_
   refine WE.midH ⟨x1, 0, G0⟩ ⟨(Mem.le_refl _), hr⟩ (Fr.sub_cons rfl (Fr.sub_cons rfl (Fr.sub_nil _))) ?_
   ·intro w hs
    exact hs.weaken (Lo.sub_nil _)
 ·rintro ⟨x2, n1, Gm1⟩ ⟨Gm1le, hr⟩
  refine WC.seqH (fun (gx : Int × Int × Mem) => match gx with | ⟨x3, n2, Gm2⟩ => [(0, .int .u64 x3), (2, .int .i64 n2)]) (fun (gx : Int × Int × Mem) => match gx with | ⟨x3, n2, Gm2⟩ => Mem.le Gm1 Gm2 ∧ (math_bits_Len64_k1 x3 n2).Ret r) (fun (gx : Int × Int × Mem) => match gx with | ⟨x3, n2, Gm2⟩ => St w0 G0 Gm2 []) ?_ ?_
  ·skip
   refine sr <| mv rfl rfl <| yy (Y0.geq rfl rfl) rfl <| nx ?_
   refine WC.condD (p := 65536 ≤ x2) rfl (fun hc2 => ?_) (fun hc2 => ?_)
   ·replace hr := hr.pos hc2
    refine sr <| mv rfl rfl <| yy (Y0.shr rfl rfl (by decide)) rfl <| sg rfl rfl <| nx <| WC.region ?_
    refine mv rfl rfl <| yy (Y0.add rfl rfl) rfl <| sg rfl rfl <| WL.nil ?_
    refine WE.midH ⟨Int.fdiv x2 (2 ^ (min (16 : Int).toNat IntKind.u64.bits)), IntKind.i64.wrap (n1 + 16), Gm1⟩ ⟨(Mem.le_refl _), hr⟩ (Fr.sub_cons rfl (Fr.sub_cons rfl (Fr.sub_nil _))) ?_
    ·intro w hs
     exact hs.weaken (Lo.sub_nil _)
   ·replace hr := hr.neg hc2
    refine WC.skip ?_
    refine WE.midH ⟨x2, n1, Gm1⟩ ⟨(Mem.le_refl _), hr⟩ (Fr.sub_cons rfl (Fr.sub_cons rfl (Fr.sub_nil _))) ?_
    ·intro w hs
     exact hs.weaken (Lo.sub_nil _)
  ·rintro ⟨x3, n2, Gm2⟩ ⟨Gm2le, hr⟩
   refine WC.seq <| sr <| mv rfl rfl <| yy (Y0.geq rfl rfl) rfl <| nx ?_
   refine WC.condD (p := 256 ≤ x3) rfl (fun hc1 => ?_) (fun hc1 => ?_)
   ·replace hr := hr.pos hc1
    refine sr <| mv rfl rfl <| yy (Y0.shr rfl rfl (by decide)) rfl <| sg rfl rfl <| nx <| WC.region ?_
    refine mv rfl rfl <| yy (Y0.add rfl rfl) rfl <| sg rfl rfl <| nr <| mv rfl rfl <| mv rfl rfl ?_
    refine yy (Y0.conv Try.underlying114 Try.underlying5 rfl) rfl ?_
    obtain ⟨hi1, hr⟩ := hr
    refine yy (Y0.indexS (s := str_633d862b) Try.underlying9 rfl rfl hi1) rfl <| yy (Y0.conv Try.underlying5 Try.underlying3 rfl) rfl <| yy (Y0.add rfl rfl) rfl <| sg rfl rfl <| nx ?_
    refine WC.ret ?_
    replace hr : _ = r := hr
    subst hr
    exact WE.ret1 rfl rfl rfl
   ·replace hr := hr.neg hc1
    refine WC.skip <| WE.then <| sr <| mv rfl rfl <| mv rfl rfl <| yy (Y0.conv Try.underlying114 Try.underlying5 rfl) rfl ?_
    obtain ⟨hi2, hr⟩ := hr
    refine yy (Y0.indexS (s := str_633d862b) Try.underlying9 rfl rfl hi2) rfl <| yy (Y0.conv Try.underlying5 Try.underlying3 rfl) rfl <| yy (Y0.add rfl rfl) rfl <| sg rfl rfl <| nx ?_
    refine WC.ret ?_
    replace hr : _ = r := hr
    subst hr
    exact WE.ret1 rfl rfl rfl
theorem L_math_bits_Len (x1 : Int) (r : Int) (hr : (math_bits_Len x1).Ret r) : Ctr Try.prog 88 #[.int .u64 x1] (fun G => True) (fun G v => v = .int .i64 r) := by
 refine Ctr.enter (args := [_]) (N := 8) Try.func88 rfl rfl rfl (fun w0 G0 hL0 hpre => ?_)
 refine sr <| sg rfl rfl <| nx <| WC.seq ?_
 refine WC.condF rfl ?_
 refine WC.skip <| WE.then <| sr <| mv rfl rfl ?_
 obtain ⟨yv1, hyv1, hr⟩ := hr
 refine WL.call0 guard_none rfl (YC.of E104 rfl) (L_math_bits_Len64 _ _ hyv1) rfl (trivial) ?_
 refine sg rfl rfl <| nx ?_
 refine WC.ret ?_
 replace hr : _ = r := hr
 subst hr
 exact WE.ret1 rfl rfl rfl
theorem L_monomial_Divides (a1 : (Fin 8 → Int)) (b1 : (Fin 8 → Int)) (r : Bool) (hr : (monomial_Divides a1 b1).Ret r) : Ctr Try.prog 92 #[.agg (vecG (Value.int .i64) 8 a1).toArray, .agg (vecG (Value.int .i64) 8 b1).toArray] (fun G => True) (fun G v => v = .bool r) := by
 refine Ctr.enter (args := [_, _]) (N := 17) Try.func92 rfl rfl rfl (fun w0 G0 hL0 hpre => ?_)
 refine sr ?_
 refine WL.box 2 guard_none rfl rfl (fun b2 => ?_)
 refine WL.box 3 guard_none rfl rfl (fun b3 => ?_)
 refine sg rfl rfl <| nx <| WC.seq <| sr <| mv rfl rfl <| nx ?_
 refine WC.meetH (fun (gx : Mem) => match gx with | Gm1 => []) (fun (gx : Mem) => match gx with | Gm1 => Mem.le G0 Gm1 ∧ (monomial_Divides_k1).Ret r) (fun (gx : Mem) => match gx with | Gm1 => St w0 G0 Gm1 []) ?_ ?_
 ·refine WC.block ?_
  let Phi1 : (Bool ⊕ Unit) → Prop := fun oo => ((fun ov => match ov with | .inl rv1 => Comp.ret rv1 | .inr () => monomial_Divides_k1 : (Bool ⊕ Unit) → Comp Bool) oo).wp (fun a => a = r)
  replace hr : (Comp.loop _ _).wp Phi1 := hr
  refine WC.loopR (Φ := Phi1) (fun (gx : Int × Mem) => match gx with | ⟨v6_1, Gm2⟩ => (v6_1 : Int)) (fun (gx : Int × Mem) => match gx with | ⟨v6_1, Gm2⟩ => [(2, .pointer (some ⟨b2, 0, none⟩)), (3, .pointer (some ⟨b3, 0, none⟩)), (6, .int .i64 v6_1)]) (fun (gx : Int × Mem) => match gx with | ⟨v6_1, Gm2⟩ => Mem.le G0 Gm2) (fun (gx : Int × Mem) => match gx with | ⟨v6_1, Gm2⟩ => St w0 G0 Gm2 [(2, some ⟨b2, .cells (vecG (Value.int .i64) 8 a1).toArray 48 (0, 0), 0⟩), (3, some ⟨b3, .cells (vecG (Value.int .i64) 8 b1).toArray 48 (0, 0), 0⟩)]) ⟨0, G0⟩ hr (Fr.sub_cons rfl (Fr.sub_cons rfl (Fr.sub_cons rfl (Fr.sub_nil _)))) (Mem.le_refl _) ?_ ?_
  ·intro w hs
   exact hs.weaken (Lo.sub_cons rfl (Lo.sub_cons rfl (Lo.sub_nil _)))
  ·intro Aq1 gx hx hr
   obtain ⟨v6_1, Gm2⟩ := gx
   have Gm2le := hx
   refine sr <| yy (Y0.lss rfl rfl) rfl <| nx <| WC.seq ?_
   refine WC.condD (p := v6_1 < 8) rfl (fun hc1 => ?_) (fun hc1 => ?_)
   ·replace hr := hr.pos hc1
    refine WC.skip <| WE.then <| WC.seq <| WC.block <| sr <| mv rfl rfl ?_
    refine sg rfl rfl <| nx <| WC.seq ?_
    refine WC.drawn [false, false, false, false, false, false, false] mix (by kernel_rfl) (fun hb => ?_)
    refine Chain.y0 guard_none (fun _ hle => Y0.move rfl) ?_
    obtain ⟨hi1, hr⟩ := hr
    refine Chain.y0 guard_none (fun _ hle => Y0.idxA0 Try.underlying48 sz3 rfl rfl hi1) ?_
    refine Chain.y0 guard_none (fun _ hle => Y0.loadL 2 sc3 rfl rfl (vecG_at _ _ _ hi1)) ?_
    refine Chain.y0 guard_none (fun _ hle => Y0.move rfl) ?_
    obtain ⟨hi2, hr⟩ := hr
    refine Chain.y0 guard_none (fun _ hle => Y0.idxA0 Try.underlying48 sz3 rfl rfl hi2) ?_
    refine Chain.y0 guard_none (fun _ hle => Y0.loadL 3 sc3 rfl rfl (vecG_at _ _ _ hi2)) ?_
    refine Chain.y0 guard_none (fun _ hle => Y0.gtr rfl rfl) ?_
    refine Chain.tail0 hb ?_
    refine WL.nil ?_
    refine WE.nx ?_
    refine WE.then ?_
    refine WC.condD (p := (getF b1 v6_1) < (getF a1 v6_1)) rfl (fun hc2 => ?_) (fun hc2 => ?_)
    ·replace hr := hr.pos hc2
     refine sr <| sg rfl rfl <| nx ?_
     refine WC.ret ?_
     replace hr : _ = r := hr
     refine WE.inBlockRet ?_
     refine WE.thenRet ?_
     refine WE.thenRet ?_
     refine WE.inBlockRet ?_
     refine WE.endRet ?_
     refine WE.thenRet ?_
     subst hr
     exact WE.ret1 rfl rfl rfl
    ·replace hr := hr.neg hc2
     refine WC.skip ?_
     refine WE.inBlock ?_
     refine WE.then <| WC.region <| yy (Y0.add rfl rfl) rfl <| mv rfl rfl <| WL.nil ?_
     refine WE.backR ⟨IntKind.i64.wrap (v6_1 + 1), Gm2⟩ hr Gm2le (Fr.sub_cons rfl (Fr.sub_cons rfl (Fr.sub_cons rfl (Fr.sub_nil _)))) ?_
     ·intro w hs
      exact hs.weaken (Lo.sub_cons rfl (Lo.sub_cons rfl (Lo.sub_nil _)))
   ·replace hr := hr.neg hc1
    refine WC.exit ?_
    refine WE.thenExit ?_
    refine WE.thenExit ?_
    refine WE.exitHere ?_
    refine WE.endH Gm2 ⟨Gm2le, hr⟩ (Fr.sub_nil _) ?_
    ·intro w hs
     exact hs.weaken (Lo.sub_nil _)
 ·rintro Gm1 ⟨Gm1le, hr⟩
  refine WE.then <| sr <| sg rfl rfl <| nx ?_
  refine WC.ret ?_
  replace hr : _ = r := hr
  subst hr
  exact WE.ret1 rfl rfl rfl
theorem L_monomial_In (m1 : (Fin 8 → Int)) (l1 : (List (Fin 8 → Int))) (l1p : Option Addr) (l1c : Nat) (r : Bool) (hr : (monomial_In m1 l1).Ret r) : Ctr Try.prog 80 #[.agg (vecG (Value.int .i64) 8 m1).toArray, .slice l1p l1.length l1c] (fun G => SlR (Rp.vec .i64 8) G (.slice l1p l1.length l1c) l1) (fun G v => v = .bool r) := by
 refine Ctr.enter (args := [_, _]) (N := 17) Try.func80 rfl rfl rfl (fun w0 G0 hL0 hpre => ?_)
 have l1h := hpre
 refine sr ?_
 refine WL.box 2 guard_none rfl rfl (fun b1 => ?_)
 refine sg rfl rfl <| nx <| WC.seq <| sr <| mv rfl rfl <| yy (Y0.lenR Try.underlying28 l1h rfl) rfl ?_
 refine mv rfl rfl <| nx ?_
 refine WC.meetH (fun (gx : Mem) => match gx with | Gm1 => []) (fun (gx : Mem) => match gx with | Gm1 => Mem.le G0 Gm1 ∧ (monomial_In_k1).Ret r) (fun (gx : Mem) => match gx with | Gm1 => St w0 G0 Gm1 []) ?_ ?_
 ·refine WC.block ?_
  let Phi1 : (Bool ⊕ Unit) → Prop := fun oo => ((fun ov => match ov with | .inl rv1 => Comp.ret rv1 | .inr () => monomial_In_k1 : (Bool ⊕ Unit) → Comp Bool) oo).wp (fun a => a = r)
  replace hr : (Comp.loop _ _).wp Phi1 := hr
  refine WC.loopR (Φ := Phi1) (fun (gx : Int × Mem) => match gx with | ⟨v9_1, Gm2⟩ => (v9_1 : Int)) (fun (gx : Int × Mem) => match gx with | ⟨v9_1, Gm2⟩ => [(2, .pointer (some ⟨b1, 0, none⟩)), (7, .slice l1p l1.length l1c), (8, .int .i64 (l1.length : Int)), (9, .int .i64 v9_1)]) (fun (gx : Int × Mem) => match gx with | ⟨v9_1, Gm2⟩ => Mem.le G0 Gm2) (fun (gx : Int × Mem) => match gx with | ⟨v9_1, Gm2⟩ => St w0 G0 Gm2 [(2, some ⟨b1, .cells (vecG (Value.int .i64) 8 m1).toArray 48 (0, 0), 0⟩)]) ⟨0, G0⟩ hr (Fr.sub_cons rfl (Fr.sub_cons rfl (Fr.sub_cons rfl (Fr.sub_cons rfl (Fr.sub_nil _))))) (Mem.le_refl _) ?_ ?_
  ·intro w hs
   exact hs.weaken (Lo.sub_cons rfl (Lo.sub_nil _))
  ·intro Aq1 gx hx hr
   obtain ⟨v9_1, Gm2⟩ := gx
   have Gm2le := hx
   refine sr <| yy (Y0.lss rfl rfl) rfl <| nx <| WC.seq ?_
   refine WC.condD (p := v9_1 < (l1.length : Int)) rfl (fun hc1 => ?_) (fun hc1 => ?_)
   ·replace hr := hr.pos hc1
    refine WC.skip <| WE.then <| WC.seq <| WC.block <| sr ?_
    obtain ⟨x1, hx1, hr⟩ := hr
    refine yy (Y0.idxR Try.underlying28 sz48 (l1h.mono Gm2le) rfl rfl hx1) rfl <| yy (Y0.loadGA _ ag48 rfl (vecG_size _ _ _) (AtK.vec (At.mono (SlR.at l1h hx1) Gm2le))) rfl ?_
    refine WL.alloc 6 guard_none z48 rfl (fun b2 => ?_)
    refine WL.storeLA 6 guard_none sz48 rfl rfl rfl (vecG_size _ _ _) (vecG_size _ _ _) (fun u hu => Rp.one (Rp.vec .i64 8) (G := Gm2) (x := x1) (cs := vecG (Value.int .i64) 8 x1) rfl u (by simpa using hu)) ?_
    refine nr <| yy (Y0.loadLA 6 ag48 rfl rfl (vecG_size _ _ _)) rfl <| yy (Y0.loadLA 2 ag48 rfl rfl (vecG_size _ _ _)) rfl ?_
    obtain ⟨yv1, hyv1, hr⟩ := hr
    refine WL.call0 guard_none rfl (YC.of E92 rfl) (L_monomial_Divides _ _ _ hyv1) rfl (trivial) ?_
    refine nx ?_
    refine WC.cond (b := yv1) rfl (fun hc2 => ?_) (fun hc2 => ?_)
    ·replace hr := hr.pos hc2
     refine sr <| sg rfl rfl <| nx ?_
     refine WC.ret ?_
     replace hr : _ = r := hr
     refine WE.inBlockRet ?_
     refine WE.thenRet ?_
     refine WE.thenRet ?_
     refine WE.inBlockRet ?_
     refine WE.endRet ?_
     refine WE.thenRet ?_
     subst hr
     exact WE.ret1 rfl rfl rfl
    ·replace hr := hr.neg (Bool.eq_false_iff.1 hc2)
     refine WC.skip ?_
     refine WE.inBlock ?_
     refine WE.then <| WC.region <| yy (Y0.add rfl rfl) rfl <| mv rfl rfl <| WL.nil ?_
     refine WE.backR ⟨IntKind.i64.wrap (v9_1 + 1), Gm2⟩ hr Gm2le (Fr.sub_cons rfl (Fr.sub_cons rfl (Fr.sub_cons rfl (Fr.sub_cons rfl (Fr.sub_nil _))))) ?_
     ·intro w hs
      exact hs.weaken (Lo.sub_cons rfl (Lo.sub_nil _))
   ·replace hr := hr.neg hc1
    refine WC.exit ?_
    refine WE.thenExit ?_
    refine WE.thenExit ?_
    refine WE.exitHere ?_
    refine WE.endH Gm2 ⟨Gm2le, hr⟩ (Fr.sub_nil _) ?_
    ·intro w hs
     exact hs.weaken (Lo.sub_nil _)
 ·rintro Gm1 ⟨Gm1le, hr⟩
  refine WE.then <| sr <| sg rfl rfl <| nx ?_
  refine WC.ret ?_
  replace hr : _ = r := hr
  subst hr
  exact WE.ret1 rfl rfl rfl
theorem L_monomial_Minimal_c1 (m1 : (Fin 8 → Int)) (cap1 : (List (Fin 8 → Int))) (cap1p : Option Addr) (cap1c : Nat) (b1 : Nat) (r : Bool) (hr : (monomial_Minimal_c1 m1 cap1).Ret r) : CtrL Try.prog 79 #[.agg (vecG (Value.int .i64) 8 m1).toArray, .pointer (some ⟨b1, 0, none⟩)] [(111004, some ⟨b1, .cells ([.slice cap1p cap1.length cap1c]).toArray 28 (0, 0), 0⟩)] (fun G => SlR (Rp.vec .i64 8) G (.slice cap1p cap1.length cap1c) cap1) (fun G L v => L = [(111004, some ⟨b1, .cells ([.slice cap1p cap1.length cap1c]).toArray 28 (0, 0), 0⟩)] ∧ v = .bool r) := by
 refine CtrL.enter (args := [_, _]) (N := 7) Try.func79 rfl rfl rfl (fun w0 G0 hL0 hpre => ?_)
 have cap1h := hpre
 refine sr ?_
 refine WL.box 2 guard_none rfl rfl (fun b2 => ?_)
 refine sg rfl rfl <| nr <| yy (Y0.loadLA 2 ag48 rfl rfl (vecG_size _ _ _)) rfl <| yy (Y0.loadL 111004 sc28 rfl rfl rfl) rfl ?_
 obtain ⟨yv1, hyv1, hr⟩ := hr
 refine WL.call0 guard_none rfl (YC.of E80 rfl) (L_monomial_In _ _ _ _ _ hyv1) rfl (cap1h) ?_
 refine sg rfl rfl <| nx ?_
 refine WC.ret ?_
 replace hr : _ = r := hr
 subst hr
 refine WE.conseq (S' := St w0 G0 G0 [(111004, some ⟨b1, .cells ([.slice cap1p cap1.length cap1c]).toArray 28 (0, 0), 0⟩)]) ?_ ?_
 ·intro w hs
  exact hs.weaken (Lo.sub_cons rfl (Lo.sub_nil _))
 exact WE.ret1 rfl rfl ⟨rfl, rfl⟩
theorem L_slices_Reverse_api_Mono_api_Mono (s1 : (List (Fin 8 → Int))) (s1p : Option Addr) (s1c : Nat) (s1n : Nat) (s1tk : Option Ow) (r : (List (Fin 8 → Int))) (hr : (slices_Reverse_api_Mono_api_Mono s1).Ret r) : CtrL Try.prog 81 #[.slice s1p s1n s1c] [(5000, s1tk)] (fun G => RowR (Rp.vec .i64 8) 48 G (.slice s1p s1n s1c) s1 s1tk) (fun G L v => ∃ zk0, L = [(5000, zk0)] ∧ v = .tuple #[] ∧ RowR (Rp.vec .i64 8) 48 G (.slice s1p s1n s1c) r zk0) := by
 refine CtrL.enter (args := [_]) (N := 28) Try.func81 rfl rfl rfl (fun w0 G0 hL0 hpre => ?_)
 have s1h := hpre
 refine sr <| mv rfl rfl <| yy (Y0.lenRow Try.underlying28 s1h rfl) rfl <| yy (Y0.sub rfl rfl) rfl <| sg rfl rfl <| sg rfl rfl ?_
 refine nx ?_
 refine WC.meetH (fun (gx : (List (Fin 8 → Int)) × Option Ow × Mem) => match gx with | ⟨s2, s2tk, Gm1⟩ => [(0, .slice s1p s1n s1c)]) (fun (gx : (List (Fin 8 → Int)) × Option Ow × Mem) => match gx with | ⟨s2, s2tk, Gm1⟩ => Mem.le G0 Gm1 ∧ RowR (Rp.vec .i64 8) 48 Gm1 (.slice s1p s1n s1c) s2 s2tk ∧ (slices_Reverse_api_Mono_api_Mono_k1 s2).Ret r) (fun (gx : (List (Fin 8 → Int)) × Option Ow × Mem) => match gx with | ⟨s2, s2tk, Gm1⟩ => St w0 G0 Gm1 [(5000, s2tk)]) ?_ ?_
 ·refine WC.block ?_
  let Phi1 : (((List (Fin 8 → Int)))) → Prop := fun oo => ((fun ov => match ov with | s2 => slices_Reverse_api_Mono_api_Mono_k1 s2 : (((List (Fin 8 → Int)))) → Comp ((List (Fin 8 → Int)))) oo).wp (fun a => a = r)
  replace hr : (Comp.loop _ _).wp Phi1 := hr
  refine WC.loopR (Φ := Phi1) (fun (gx : (List (Fin 8 → Int)) × Option Ow × Int × Int × Mem) => match gx with | ⟨s3, s3tk, i1, j1, Gm2⟩ => ((s3, i1, j1) : (List (Fin 8 → Int)) × Int × Int)) (fun (gx : (List (Fin 8 → Int)) × Option Ow × Int × Int × Mem) => match gx with | ⟨s3, s3tk, i1, j1, Gm2⟩ => [(0, .slice s1p s1n s1c), (2, .int .i64 i1), (3, .int .i64 j1)]) (fun (gx : (List (Fin 8 → Int)) × Option Ow × Int × Int × Mem) => match gx with | ⟨s3, s3tk, i1, j1, Gm2⟩ => Mem.le G0 Gm2 ∧ RowR (Rp.vec .i64 8) 48 Gm2 (.slice s1p s1n s1c) s3 s3tk) (fun (gx : (List (Fin 8 → Int)) × Option Ow × Int × Int × Mem) => match gx with | ⟨s3, s3tk, i1, j1, Gm2⟩ => St w0 G0 Gm2 [(5000, s3tk)]) ⟨s1, s1tk, 0, IntKind.i64.wrap ((s1.length : Int) - 1), G0⟩ hr (Fr.sub_cons rfl (Fr.sub_cons rfl (Fr.sub_cons rfl (Fr.sub_nil _)))) ⟨(Mem.le_refl _), s1h⟩ ?_ ?_
  ·intro w hs
   exact hs.weaken (Lo.sub_cons rfl (Lo.sub_nil _))
  ·intro Aq1 gx hx hr
   obtain ⟨s3, s3tk, i1, j1, Gm2⟩ := gx
   obtain ⟨Gm2le, s3h⟩ := hx
   refine WC.seq <| sr <| mv rfl rfl <| mv rfl rfl <| yy (Y0.lss rfl rfl) rfl <| nx ?_
   refine WC.condD (p := i1 < j1) rfl (fun hc1 => ?_) (fun hc1 => ?_)
   ·replace hr := hr.pos hc1
    refine WC.skip <| WE.then <| WC.seq <| WC.block ?_
    refine WC.drawn [false, false, true, true, false, false, false, false, false, false, false, false, false] mix (by kernel_rfl) (fun hb => ?_)
    refine Chain.y0 guard_none (fun _ hle => Y0.move rfl) ?_
    refine Chain.y0 guard_none (fun _ hle => Y0.move rfl) ?_
    refine Chain.float guard_none (Y0.move rfl) ?_
    refine Chain.float guard_none (Y0.move rfl) ?_
    refine Chain.y0 guard_none (fun _ hle => Y0.move rfl) ?_
    refine Chain.y0 guard_none (fun _ hle => Y0.move rfl) ?_
    obtain ⟨x1, hx1, hr⟩ := hr
    refine Chain.y0 guard_none (fun _ hle => Y0.idxRow Try.underlying28 sz48 (s3h.mono hle) rfl rfl hx1) ?_
    refine Chain.y0 guard_none (fun _ hle => Y0.loadTA _ ag48 (s3h.mono hle) (key := 5000) rfl rfl (vecG_size _ _ _) (by decide) (AtK.vec (RowR.at s3h hx1))) ?_
    refine Chain.y0 guard_none (fun _ hle => Y0.move rfl) ?_
    refine Chain.y0 guard_none (fun _ hle => Y0.move rfl) ?_
    obtain ⟨x2, hx2, hr⟩ := hr
    refine Chain.y0 guard_none (fun _ hle => Y0.idxRow Try.underlying28 sz48 (s3h.mono hle) rfl rfl hx2) ?_
    refine Chain.y0 guard_none (fun _ hle => Y0.loadTA _ ag48 (s3h.mono hle) (key := 5000) rfl rfl (vecG_size _ _ _) (by decide) (AtK.vec (RowR.at s3h hx2))) ?_
    obtain ⟨x3, hx3, hr⟩ := hr
    refine Chain.y0 guard_none (fun _ hle => Y0.idxRow Try.underlying28 sz48 (s3h.mono hle) rfl rfl hx3) ?_
    refine Chain.tail0 hb ?_
    refine WL.storeT (r := (Rp.vec .i64 8)) (e := 48) (cs' := vecG (Value.int .i64) 8 x1) (i := i1) (z' := x1) 5000 guard_none sz48 rfl s3h rfl rfl rfl rfl rfl hx3 (fun tk1 tk1h => ?_)
    obtain ⟨x4, hx4, hr⟩ := hr
    refine yy (Y0.idxRow Try.underlying28 sz48 tk1h rfl rfl hx4) rfl ?_
    refine WL.storeT (r := (Rp.vec .i64 8)) (e := 48) (cs' := vecG (Value.int .i64) 8 x2) (i := j1) (z' := x2) 5000 guard_none sz48 rfl tk1h rfl rfl rfl rfl rfl hx4 (fun tk2 tk2h => ?_)
    refine WL.nil ?_
    refine WE.nx ?_
    refine WE.inBlock ?_
    refine WE.then <| WC.region <| mv rfl rfl <| yy (Y0.add rfl rfl) rfl <| mv rfl rfl <| yy (Y0.sub rfl rfl) rfl ?_
    refine sg rfl rfl <| sg rfl rfl <| WL.nil ?_
    refine WE.backR ⟨((s3.set i1.toNat x1).set j1.toNat x2), tk2, IntKind.i64.wrap (i1 + 1), IntKind.i64.wrap (j1 - 1), Gm2⟩ hr ⟨Gm2le, tk2h⟩ (Fr.sub_cons rfl (Fr.sub_cons rfl (Fr.sub_cons rfl (Fr.sub_nil _)))) ?_
    ·intro w hs
     exact hs.weaken (Lo.sub_cons rfl (Lo.sub_nil _))
   ·replace hr := hr.neg hc1
    refine WC.exit ?_
    refine WE.thenExit ?_
    refine WE.thenExit ?_
    refine WE.exitHere ?_
    refine WE.endH ⟨s3, s3tk, Gm2⟩ ⟨Gm2le, s3h, hr⟩ (Fr.sub_cons rfl (Fr.sub_nil _)) ?_
    ·intro w hs
     exact hs.weaken (Lo.sub_cons rfl (Lo.sub_nil _))
 ·rintro ⟨s2, s2tk, Gm1⟩ ⟨Gm1le, s2h, hr⟩
  refine WE.retN ?_
  replace hr : _ = r := hr
  subst hr
  refine WE.conseq (S' := St w0 G0 Gm1 [(5000, s2tk)]) ?_ ?_
  ·intro w hs
   exact hs.weaken (Lo.sub_cons rfl (Lo.sub_nil _))
  exact WE.ret0 rfl  ⟨_, rfl, rfl, s2h⟩
theorem L_monomial_Minimal (l1 : (List (Fin 8 → Int))) (l1p : Option Addr) (l1c : Nat) (r : (List (Fin 8 → Int))) (hr : (monomial_Minimal l1).Ret r) : Ctr Try.prog 55 #[.slice l1p l1.length l1c] (fun G => SlR (Rp.vec .i64 8) G (.slice l1p l1.length l1c) l1) (fun G v => ∃ zp zc, v = .slice zp r.length zc ∧ SlR (Rp.vec .i64 8) G (.slice zp r.length zc) r) := by
 refine Ctr.enter (args := [_]) (N := 31) Try.func55 rfl rfl rfl (fun w0 G0 hL0 hpre => ?_)
 have l1h := hpre
 have hz : w0.L.zero := by rw [hL0]; intro p hp; simp at hp
 refine sr <| sg rfl rfl <| nr <| mv rfl rfl ?_
 obtain ⟨yv1, hyv1, hr⟩ := hr
 refine WL.callT guard_none rfl (YC.of E78 rfl) (L_slices_Clone_api_Mono_api_Mono _ _ _ _ hyv1) rfl (l1h) (Lo.sub_nil _) hz (fun yv1v Gv1 Lyv1 Gv1le yv1post => ?_)
 obtain ⟨yv1p, yv1c, yv1tk, rfl, rfl, yv1h⟩ := yv1post
 refine WL.conseq (fun w hs => hs.rekey (i := 7000) (j := 4009) rfl (by rw [hL0]; rfl)) ?_
 refine sg rfl rfl <| nr <| mv rfl rfl ?_
 obtain ⟨yv2, hyv2, hr⟩ := hr
 refine WL.conseq (fun w hs => hs.rekey (i := 4009) (j := 5000) rfl (by rw [hL0]; rfl)) ?_
 refine WL.callT guard_none rfl (YC.of E70 rfl) (H_sort1 _ _ _ _ _ _ hyv2) rfl (yv1h) (Lo.sub_cons rfl (Lo.sub_nil _)) hz (fun yv2v Gv2 Lyv2 Gv2le yv2post => ?_)
 obtain ⟨yv2tk0, rfl, rfl, yv2rh0⟩ := yv2post
 refine WL.conseq (fun w hs => hs.rekey (i := 5000) (j := 4009) rfl (by rw [hL0]; rfl)) ?_
 refine nr ?_
 refine WL.alloc 111004 guard_none z28 rfl (fun b1 => ?_)
 refine nr <| yy (Y0.makeFunc rfl rfl) rfl <| sg rfl rfl <| nx <| WC.seq <| sr ?_
 refine mv rfl rfl <| yy (Y0.lenRow Try.underlying28 yv2rh0 rfl) rfl <| mv rfl rfl <| nx ?_
 refine WC.meetH (fun (gx : (List (Fin 8 → Int)) × Option Addr × Nat × Option Ow × Mem) => match gx with | ⟨bx1, bx1p, bx1c, bx1tk, Gm1⟩ => [(4, .pointer (some ⟨b1, 0, none⟩))]) (fun (gx : (List (Fin 8 → Int)) × Option Addr × Nat × Option Ow × Mem) => match gx with | ⟨bx1, bx1p, bx1c, bx1tk, Gm1⟩ => Mem.le Gv2 Gm1 ∧ RowR (Rp.vec .i64 8) 48 Gm1 (.slice bx1p bx1.length bx1c) bx1 bx1tk ∧ (monomial_Minimal_k1 bx1).Ret r) (fun (gx : (List (Fin 8 → Int)) × Option Addr × Nat × Option Ow × Mem) => match gx with | ⟨bx1, bx1p, bx1c, bx1tk, Gm1⟩ => St w0 G0 Gm1 [(111004, some ⟨b1, .cells ([.slice bx1p bx1.length bx1c]).toArray 28 (0, 0), 0⟩), (511004, bx1tk)]) ?_ ?_
 ·refine WC.block ?_
  let Phi1 : (((List (Fin 8 → Int)))) → Prop := fun oo => ((fun ov => match ov with | bx1 => monomial_Minimal_k1 bx1 : (((List (Fin 8 → Int)))) → Comp ((List (Fin 8 → Int)))) oo).wp (fun a => a = r)
  replace hr : (Comp.loop _ _).wp Phi1 := hr
  refine WC.loopR (Φ := Phi1) (fun (gx : Int × (List (Fin 8 → Int)) × Option Addr × Nat × Option Ow × Mem) => match gx with | ⟨v15_1, bx2, bx2p, bx2c, bx2tk, Gm2⟩ => ((v15_1, bx2) : Int × (List (Fin 8 → Int)))) (fun (gx : Int × (List (Fin 8 → Int)) × Option Addr × Nat × Option Ow × Mem) => match gx with | ⟨v15_1, bx2, bx2p, bx2c, bx2tk, Gm2⟩ => [(4, .pointer (some ⟨b1, 0, none⟩)), (5, .func (.func 79) #[] #[.pointer (some ⟨b1, 0, none⟩)]), (13, .slice yv1p yv1.length yv1c), (14, .int .i64 (yv2.length : Int)), (15, .int .i64 v15_1)]) (fun (gx : Int × (List (Fin 8 → Int)) × Option Addr × Nat × Option Ow × Mem) => match gx with | ⟨v15_1, bx2, bx2p, bx2c, bx2tk, Gm2⟩ => Mem.le Gv2 Gm2 ∧ RowR (Rp.vec .i64 8) 48 Gm2 (.slice bx2p bx2.length bx2c) bx2 bx2tk) (fun (gx : Int × (List (Fin 8 → Int)) × Option Addr × Nat × Option Ow × Mem) => match gx with | ⟨v15_1, bx2, bx2p, bx2c, bx2tk, Gm2⟩ => St w0 G0 Gm2 [(111004, some ⟨b1, .cells ([.slice bx2p bx2.length bx2c]).toArray 28 (0, 0), 0⟩), (4009, yv2tk0), (511004, bx2tk)]) ⟨0, [], none, 0, none, Gv2⟩ hr (Fr.sub_cons rfl (Fr.sub_cons rfl (Fr.sub_cons rfl (Fr.sub_cons rfl (Fr.sub_cons rfl (Fr.sub_nil _)))))) ⟨(Mem.le_refl _), RowR.nil⟩ ?_ ?_
  ·intro w hs
   exact hs.weaken (Lo.sub_cons rfl (Lo.sub_cons rfl (Lo.sub_no (Lo.sub_nil _))))
  ·intro Aq1 gx hx hr
   obtain ⟨v15_1, bx2, bx2p, bx2c, bx2tk, Gm2⟩ := gx
   obtain ⟨Gm2le, bx2h⟩ := hx
   refine sr <| yy (Y0.lss rfl rfl) rfl <| nx <| WC.seq ?_
   refine WC.condD (p := v15_1 < (yv2.length : Int)) rfl (fun hc1 => ?_) (fun hc1 => ?_)
   ·replace hr := hr.pos hc1
    refine WC.skip <| WE.then <| WC.seq <| WC.block <| sr ?_
    obtain ⟨x1, hx1, hr⟩ := hr
    refine yy (Y0.idxRow Try.underlying28 sz48 (yv2rh0.mono Gm2le) rfl rfl hx1) rfl <| yy (Y0.loadTA _ ag48 (yv2rh0.mono Gm2le) (key := 4009) rfl rfl (vecG_size _ _ _) (by decide) (AtK.vec (RowR.at yv2rh0 hx1))) rfl ?_
    refine WL.alloc 7 guard_none z48 rfl (fun b2 => ?_)
    refine WL.storeLA 7 guard_none sz48 rfl rfl rfl (vecG_size _ _ _) (vecG_size _ _ _) (fun u hu => Rp.one (Rp.vec .i64 8) (G := Gm2) (x := x1) (cs := vecG (Value.int .i64) 8 x1) rfl u (by simpa using hu)) ?_
    refine nr <| mv rfl rfl <| yy (Y0.loadLA 7 ag48 rfl rfl (vecG_size _ _ _)) rfl ?_
    obtain ⟨yv4, hyv4, hr⟩ := hr
    refine WL.peekROZ (r := (Rp.vec .i64 8)) (e := 48) 511004 bx2h rfl hz guard_none rfl (fun _ => YC.ofV E79 rfl rfl) (L_monomial_Minimal_c1 _ _ _ _ _ _ hyv4) rfl (fun G' hle hpk => hpk) (Lo.sub_cons rfl (Lo.sub_nil _)) (fun i hi => by simp only [List.map_cons, List.map_nil, List.mem_cons, List.not_mem_nil, or_false] at hi; subst hi; exact ⟨rfl, by decide⟩) hz ?_
    refine yy (Y0.not rfl) rfl <| nx ?_
    refine WC.cond (b := !yv4) rfl (fun hc2 => ?_) (fun hc2 => ?_)
    ·replace hr := hr.pos hc2
     refine WC.region <| yy (Y0.loadL 111004 sc28 rfl rfl rfl) rfl <| yy (Y0.loadLA 7 ag48 rfl rfl (vecG_size _ _ _)) rfl ?_
     refine WL.litR (e := 48) (r := (Rp.vec .i64 8)) (vs := #[(0, .agg (vecG (Value.int .i64) 8 x1).toArray)]) (cs := (vecG (Value.int .i64) 8 x1) ++ ([])) ([x1] : List (Fin 8 → Int)) guard_none rfl rfl rfl rfl (by decide) (fun _ => by kernel_rfl) ⟨vecG (Value.int .i64) 8 x1, [], rfl, rfl, rfl⟩ (key := 999) rfl (by rw [hL0]; rfl) (fun p1 Gv5 Gv5le p1h => ?_)
     obtain ⟨hsm1, hr⟩ := hr
     refine WL.appendT (r := (Rp.vec .i64 8)) (e := 48) 511004 guard_none rfl Try.underlying28 el48 rfl (by decide) rfl rfl (bx2h.mono Gv5le) rfl p1h hsm1 (fun p2 p2c p2tk p2h => ?_)
     refine WL.storeL 111004 ([.slice p2 (bx2 ++ [x1]).length p2c]).toArray guard_none sz28 rfl rfl rfl (by first | decide | simp) rfl rfl ?_
     refine WL.nil ?_
     refine WE.inBlock ?_
     refine WE.then <| WC.region <| yy (Y0.add rfl rfl) rfl <| mv rfl rfl <| WL.nil ?_
     refine WE.backR ⟨IntKind.i64.wrap (v15_1 + 1), (bx2 ++ [x1]), p2, p2c, p2tk, Gv5⟩ hr ⟨(Mem.le_trans Gm2le Gv5le), p2h⟩ (Fr.sub_cons rfl (Fr.sub_cons rfl (Fr.sub_cons rfl (Fr.sub_cons rfl (Fr.sub_cons rfl (Fr.sub_nil _)))))) ?_
     ·intro w hs
      exact hs.weaken (Lo.sub_cons rfl (Lo.sub_cons rfl (Lo.sub_cons rfl (Lo.sub_nil _))))
    ·replace hr := hr.neg (Bool.eq_false_iff.1 hc2)
     refine WC.skip ?_
     refine WE.inBlock ?_
     refine WE.then <| WC.region <| yy (Y0.add rfl rfl) rfl <| mv rfl rfl <| WL.nil ?_
     refine WE.backR ⟨IntKind.i64.wrap (v15_1 + 1), bx2, bx2p, bx2c, bx2tk, Gm2⟩ hr ⟨Gm2le, bx2h⟩ (Fr.sub_cons rfl (Fr.sub_cons rfl (Fr.sub_cons rfl (Fr.sub_cons rfl (Fr.sub_cons rfl (Fr.sub_nil _)))))) ?_
     ·intro w hs
      exact hs.weaken (Lo.sub_cons rfl (Lo.sub_cons rfl (Lo.sub_cons rfl (Lo.sub_nil _))))
   ·replace hr := hr.neg hc1
    refine WC.exit ?_
    refine WE.thenExit ?_
    refine WE.thenExit ?_
    refine WE.exitHere ?_
    refine WE.endH ⟨bx2, bx2p, bx2c, bx2tk, Gm2⟩ ⟨Gm2le, bx2h, hr⟩ (Fr.sub_cons rfl (Fr.sub_nil _)) ?_
    ·intro w hs
     exact hs.weaken (Lo.sub_cons rfl (Lo.sub_cons rfl (Lo.sub_nil _)))
 ·rintro ⟨bx1, bx1p, bx1c, bx1tk, Gm1⟩ ⟨Gm1le, bx1h, hr⟩
  refine WE.then <| sr <| yy (Y0.loadL 111004 sc28 rfl rfl rfl) rfl ?_
  obtain ⟨yv3, hyv3, hr⟩ := hr
  refine WL.conseq (fun w hs => hs.rekey (i := 511004) (j := 5000) rfl (by rw [hL0]; rfl)) ?_
  refine WL.callT guard_none rfl (YC.of E81 rfl) (L_slices_Reverse_api_Mono_api_Mono _ _ _ _ _ _ hyv3) rfl (bx1h) (Lo.sub_cons rfl (Lo.sub_nil _)) hz (fun yv3v Gv3 Lyv3 Gv3le yv3post => ?_)
  obtain ⟨yv3tk0, rfl, rfl, yv3rh0⟩ := yv3post
  refine WL.conseq (fun w hs => hs.rekey (i := 5000) (j := 511004) rfl (by rw [hL0]; rfl)) ?_
  refine nr <| yy (Y0.loadL 111004 sc28 rfl rfl rfl) rfl <| sg rfl rfl <| nx ?_
  refine WC.ret ?_
  replace hr : _ = r := hr
  subst hr
  refine WE.freezeT (r := (Rp.vec .i64 8)) (e := 48) 511004 yv3rh0 rfl (by rw [hL0]; rfl) (fun tk1 Gv4 Gv4le tk1h tk1ht => ?_)
  exact WE.ret1 rfl rfl ⟨_, _, (SlR.eqv tk1h), (SlR.std tk1h)⟩
theorem L_components_split (a1 : (Fin 8 → Int)) (g1 : (Fin 8 → Int)) (r : (List (Fin 8 → Int))) (hr : (components_split a1 g1).Ret r) : Ctr Try.prog 66 #[.agg (vecG (Value.int .i64) 8 a1).toArray, .agg (vecG (Value.int .i64) 8 g1).toArray] (fun G => True) (fun G v => ∃ zp zc, v = .slice zp r.length zc ∧ SlR (Rp.vec .i64 8) G (.slice zp r.length zc) r) := by
 refine Ctr.enter (args := [_, _]) (N := 39) Try.func66 rfl rfl rfl (fun w0 G0 hL0 hpre => ?_)
 refine sr ?_
 refine WL.box 2 guard_none rfl rfl (fun b1 => ?_)
 refine WL.box 3 guard_none rfl rfl (fun b2 => ?_)
 refine sg rfl rfl <| nr <| sg rfl rfl <| nx <| WC.seq <| sr ?_
 refine yy (Y0.loadLA 3 ag48 rfl rfl (vecG_size _ _ _)) rfl <| mv rfl rfl <| nx ?_
 refine WC.meetH (fun (gx : (List (Fin 8 → Int)) × Option Addr × Nat × Option Ow × Mem) => match gx with | ⟨l1, l1p, l1c, l1tk, Gm1⟩ => [(5, .slice l1p l1.length l1c)]) (fun (gx : (List (Fin 8 → Int)) × Option Addr × Nat × Option Ow × Mem) => match gx with | ⟨l1, l1p, l1c, l1tk, Gm1⟩ => Mem.le G0 Gm1 ∧ SlR (Rp.vec .i64 8) Gm1 (.slice l1p l1.length l1c) l1 ∧ Tok 8 48 (.slice l1p l1.length l1c) l1.length l1tk ∧ (components_split_k1 l1).Ret r) (fun (gx : (List (Fin 8 → Int)) × Option Addr × Nat × Option Ow × Mem) => match gx with | ⟨l1, l1p, l1c, l1tk, Gm1⟩ => St w0 G0 Gm1 [(1005, l1tk)]) ?_ ?_
 ·refine WC.block ?_
  let Phi1 : (((List (Fin 8 → Int))) ⊕ ((List (Fin 8 → Int)))) → Prop := fun oo => ((fun ov => match ov with | .inl rv1 => Comp.ret rv1 | .inr l1 => components_split_k1 l1 : (((List (Fin 8 → Int))) ⊕ ((List (Fin 8 → Int)))) → Comp ((List (Fin 8 → Int)))) oo).wp (fun a => a = r)
  replace hr : (Comp.loop _ _).wp Phi1 := hr
  refine WC.loopR (Φ := Phi1) (fun (gx : (List (Fin 8 → Int)) × Option Addr × Nat × Option Ow × Int × Mem) => match gx with | ⟨l2, l2p, l2c, l2tk, v10_1, Gm2⟩ => ((l2, v10_1) : (List (Fin 8 → Int)) × Int)) (fun (gx : (List (Fin 8 → Int)) × Option Addr × Nat × Option Ow × Int × Mem) => match gx with | ⟨l2, l2p, l2c, l2tk, v10_1, Gm2⟩ => [(2, .pointer (some ⟨b1, 0, none⟩)), (5, .slice l2p l2.length l2c), (9, .agg (vecG (Value.int .i64) 8 g1).toArray), (10, .int .i64 v10_1)]) (fun (gx : (List (Fin 8 → Int)) × Option Addr × Nat × Option Ow × Int × Mem) => match gx with | ⟨l2, l2p, l2c, l2tk, v10_1, Gm2⟩ => Mem.le G0 Gm2 ∧ SlR (Rp.vec .i64 8) Gm2 (.slice l2p l2.length l2c) l2 ∧ Tok 8 48 (.slice l2p l2.length l2c) l2.length l2tk) (fun (gx : (List (Fin 8 → Int)) × Option Addr × Nat × Option Ow × Int × Mem) => match gx with | ⟨l2, l2p, l2c, l2tk, v10_1, Gm2⟩ => St w0 G0 Gm2 [(2, some ⟨b1, .cells (vecG (Value.int .i64) 8 a1).toArray 48 (0, 0), 0⟩), (1005, l2tk)]) ⟨[], none, 0, none, 0, G0⟩ hr (Fr.sub_cons rfl (Fr.sub_cons rfl (Fr.sub_cons rfl (Fr.sub_cons rfl (Fr.sub_nil _))))) ⟨(Mem.le_refl _), (SlR.nil _ _), Tok.full⟩ ?_ ?_
  ·intro w hs
   exact hs.weaken (Lo.sub_cons rfl (Lo.sub_no (Lo.sub_nil _)))
  ·intro Aq1 gx hx hr
   obtain ⟨l2, l2p, l2c, l2tk, v10_1, Gm2⟩ := gx
   obtain ⟨Gm2le, l2h, l2ht⟩ := hx
   refine sr <| yy (Y0.lss rfl rfl) rfl <| nx <| WC.seq ?_
   refine WC.condD (p := v10_1 < 8) rfl (fun hc1 => ?_) (fun hc1 => ?_)
   ·replace hr := hr.pos hc1
    refine WC.skip <| WE.then <| WC.seq <| WC.block <| sr <| mv rfl rfl ?_
    obtain ⟨hi1, hr⟩ := hr
    refine yy (Y0.index Try.underlying48 sc3 sz3 rfl rfl hi1 (vecG_at _ _ _ hi1)) rfl <| sg rfl rfl <| sg rfl rfl <| nx <| WC.seq <| sr ?_
    refine mv rfl rfl ?_
    obtain ⟨hi2, hr⟩ := hr
    refine yy (Y0.idxA0 Try.underlying48 sz3 rfl rfl hi2) rfl <| yy (Y0.loadL 2 sc3 rfl rfl (vecG_at _ _ _ hi2)) rfl ?_
    refine WL.caseY0 (p := 0 < (getF a1 v10_1)) guard_none (Y0.gtr rfl rfl) rfl (fun hb1 => ?_) (fun hb1 => ?_)
    ·replace hr := hr.pos hb1
     refine mv rfl rfl ?_
     refine WL.y0' (guard_yes rfl rfl) (Y0.move rfl) rfl ?_
     obtain ⟨hi3, hr⟩ := hr
     refine WL.y0' (guard_yes rfl rfl) (Y0.idxA0 Try.underlying48 sz3 rfl rfl hi3) rfl ?_
     refine WL.y0' (guard_yes rfl rfl) (Y0.loadL 2 sc3 rfl rfl (vecG_at _ _ _ hi3)) rfl ?_
     refine WL.y0' (guard_yes rfl rfl) (Y0.move rfl) rfl ?_
     refine WL.y0' (guard_yes rfl rfl) (Y0.leq rfl rfl) rfl ?_
     refine yy (Y0.pickT rfl rfl) rfl <| nx ?_
     refine WC.condD (p := (getF a1 v10_1) ≤ (getF g1 v10_1)) rfl (fun hc2 => ?_) (fun hc2 => ?_)
     ·replace hr := hr.pos hc2
      refine sr <| yy (Y0.loadLA 2 ag48 rfl rfl (vecG_size _ _ _)) rfl ?_
      refine WL.litR (e := 48) (r := (Rp.vec .i64 8)) (vs := #[(0, .agg (vecG (Value.int .i64) 8 a1).toArray)]) (cs := (vecG (Value.int .i64) 8 a1) ++ ([])) ([a1] : List (Fin 8 → Int)) guard_none rfl rfl rfl rfl (by decide) (fun _ => by kernel_rfl) ⟨vecG (Value.int .i64) 8 a1, [], rfl, rfl, rfl⟩ (key := 999) rfl (by rw [hL0]; rfl) (fun p1 Gv1 Gv1le p1h => ?_)
      refine sg rfl rfl <| nx ?_
      refine WC.ret ?_
      replace hr : _ = r := hr
      refine WE.thenRet ?_
      refine WE.inBlockRet ?_
      refine WE.thenRet ?_
      refine WE.thenRet ?_
      refine WE.inBlockRet ?_
      refine WE.endRet ?_
      refine WE.thenRet ?_
      subst hr
      exact WE.ret1 rfl rfl ⟨_, _, rfl, p1h⟩
     ·replace hr := hr.neg hc2
      refine WC.skip <| WE.then <| sr <| mv rfl rfl <| yy (Y0.gtr rfl rfl) rfl <| nx ?_
      refine WC.condD (p := 0 < (getF g1 v10_1)) rfl (fun hc3 => ?_) (fun hc3 => ?_)
      ·replace hr := hr.pos hc3
       refine sr <| yy (Y0.loadLA 2 ag48 rfl rfl (vecG_size _ _ _)) rfl ?_
       refine WL.alloc 8 guard_none z48 rfl (fun b3 => ?_)
       refine WL.storeLA 8 guard_none sz48 rfl rfl rfl (vecG_size _ _ _) (vecG_size _ _ _) (fun u hu => Rp.one (Rp.vec .i64 8) (G := Gm2) (x := a1) (cs := vecG (Value.int .i64) 8 a1) rfl u (by simpa using hu)) ?_
       refine nr <| mv rfl rfl <| mv rfl rfl ?_
       obtain ⟨hi4, hr⟩ := hr
       refine yy (Y0.idxA0 Try.underlying48 sz3 rfl rfl hi4) rfl ?_
       refine WL.storeL 8 (vecG (Value.int .i64) 8 (setF a1 v10_1.toNat (getF g1 v10_1))).toArray guard_none sz3 rfl rfl rfl (by first | (rw [vecG_size]; omega) | (show _ < (vecG _ _ _).toArray.size; rw [vecG_size]; omega)) rfl (vecG_put _ _ _ _ _) ?_
       refine nx <| WC.region <| mv rfl rfl <| yy (Y0.loadLA 8 ag48 rfl rfl (vecG_size _ _ _)) rfl ?_
       refine WL.litR (e := 48) (r := (Rp.vec .i64 8)) (vs := #[(0, .agg (vecG (Value.int .i64) 8 (setF a1 v10_1.toNat (getF g1 v10_1))).toArray)]) (cs := (vecG (Value.int .i64) 8 (setF a1 v10_1.toNat (getF g1 v10_1))) ++ ([])) ([setF a1 v10_1.toNat (getF g1 v10_1)] : List (Fin 8 → Int)) guard_none rfl rfl rfl rfl (by decide) (fun _ => by kernel_rfl) ⟨vecG (Value.int .i64) 8 (setF a1 v10_1.toNat (getF g1 v10_1)), [], rfl, rfl, rfl⟩ (key := 999) rfl (by rw [hL0]; rfl) (fun p2 Gv2 Gv2le p2h => ?_)
       obtain ⟨hsm1, hr⟩ := hr
       refine WL.appendR (r := (Rp.vec .i64 8)) 1005 guard_none rfl Try.underlying28 el48 rfl (by decide) rfl rfl (l2h.mono Gv2le) rfl (by rw [hL0]; rfl) l2ht p2h hsm1 (fun p3 p3c p3tk Gv3 Gv3le p3h p3ht => ?_)
       refine sg rfl rfl <| WL.nil ?_
       refine WE.inBlock ?_
       refine WE.then <| WC.region <| yy (Y0.add rfl rfl) rfl <| mv rfl rfl <| WL.nil ?_
       refine WE.backR ⟨(l2 ++ [setF a1 v10_1.toNat (getF g1 v10_1)]), p3, p3c, p3tk, IntKind.i64.wrap (v10_1 + 1), Gv3⟩ hr ⟨(Mem.le_trans (Mem.le_trans Gm2le Gv2le) Gv3le), p3h, p3ht⟩ (Fr.sub_cons rfl (Fr.sub_cons rfl (Fr.sub_cons rfl (Fr.sub_cons rfl (Fr.sub_nil _))))) ?_
       ·intro w hs
        exact hs.weaken (Lo.sub_cons rfl (Lo.sub_cons rfl (Lo.sub_nil _)))
      ·replace hr := hr.neg hc3
       refine WC.skip ?_
       refine WE.inBlock ?_
       refine WE.then <| WC.region <| yy (Y0.add rfl rfl) rfl <| mv rfl rfl <| WL.nil ?_
       refine WE.backR ⟨l2, l2p, l2c, l2tk, IntKind.i64.wrap (v10_1 + 1), Gm2⟩ hr ⟨Gm2le, l2h, l2ht⟩ (Fr.sub_cons rfl (Fr.sub_cons rfl (Fr.sub_cons rfl (Fr.sub_cons rfl (Fr.sub_nil _))))) ?_
       ·intro w hs
        exact hs.weaken (Lo.sub_cons rfl (Lo.sub_cons rfl (Lo.sub_nil _)))
    ·replace hr := hr.neg hb1
     refine mv rfl rfl <| sk rfl rfl rfl <| sk rfl rfl rfl <| sk rfl rfl rfl <| sk rfl rfl rfl <| sk rfl rfl rfl ?_
     refine yy (Y0.pickF rfl rfl) rfl <| nx ?_
     refine WC.condF rfl ?_
     refine WC.skip <| WE.then <| sr <| mv rfl rfl <| yy (Y0.gtr rfl rfl) rfl <| nx ?_
     refine WC.condD (p := 0 < (getF g1 v10_1)) rfl (fun hc4 => ?_) (fun hc4 => ?_)
     ·replace hr := hr.pos hc4
      refine sr <| yy (Y0.loadLA 2 ag48 rfl rfl (vecG_size _ _ _)) rfl ?_
      refine WL.alloc 8 guard_none z48 rfl (fun b4 => ?_)
      refine WL.storeLA 8 guard_none sz48 rfl rfl rfl (vecG_size _ _ _) (vecG_size _ _ _) (fun u hu => Rp.one (Rp.vec .i64 8) (G := Gm2) (x := a1) (cs := vecG (Value.int .i64) 8 a1) rfl u (by simpa using hu)) ?_
      refine nr <| mv rfl rfl <| mv rfl rfl ?_
      obtain ⟨hi5, hr⟩ := hr
      refine yy (Y0.idxA0 Try.underlying48 sz3 rfl rfl hi5) rfl ?_
      refine WL.storeL 8 (vecG (Value.int .i64) 8 (setF a1 v10_1.toNat (getF g1 v10_1))).toArray guard_none sz3 rfl rfl rfl (by first | (rw [vecG_size]; omega) | (show _ < (vecG _ _ _).toArray.size; rw [vecG_size]; omega)) rfl (vecG_put _ _ _ _ _) ?_
      refine nx <| WC.region <| mv rfl rfl <| yy (Y0.loadLA 8 ag48 rfl rfl (vecG_size _ _ _)) rfl ?_
      refine WL.litR (e := 48) (r := (Rp.vec .i64 8)) (vs := #[(0, .agg (vecG (Value.int .i64) 8 (setF a1 v10_1.toNat (getF g1 v10_1))).toArray)]) (cs := (vecG (Value.int .i64) 8 (setF a1 v10_1.toNat (getF g1 v10_1))) ++ ([])) ([setF a1 v10_1.toNat (getF g1 v10_1)] : List (Fin 8 → Int)) guard_none rfl rfl rfl rfl (by decide) (fun _ => by kernel_rfl) ⟨vecG (Value.int .i64) 8 (setF a1 v10_1.toNat (getF g1 v10_1)), [], rfl, rfl, rfl⟩ (key := 999) rfl (by rw [hL0]; rfl) (fun p4 Gv4 Gv4le p4h => ?_)
      obtain ⟨hsm2, hr⟩ := hr
      refine WL.appendR (r := (Rp.vec .i64 8)) 1005 guard_none rfl Try.underlying28 el48 rfl (by decide) rfl rfl (l2h.mono Gv4le) rfl (by rw [hL0]; rfl) l2ht p4h hsm2 (fun p5 p5c p5tk Gv5 Gv5le p5h p5ht => ?_)
      refine sg rfl rfl <| WL.nil ?_
      refine WE.inBlock ?_
      refine WE.then <| WC.region <| yy (Y0.add rfl rfl) rfl <| mv rfl rfl <| WL.nil ?_
      refine WE.backR ⟨(l2 ++ [setF a1 v10_1.toNat (getF g1 v10_1)]), p5, p5c, p5tk, IntKind.i64.wrap (v10_1 + 1), Gv5⟩ hr ⟨(Mem.le_trans (Mem.le_trans Gm2le Gv4le) Gv5le), p5h, p5ht⟩ (Fr.sub_cons rfl (Fr.sub_cons rfl (Fr.sub_cons rfl (Fr.sub_cons rfl (Fr.sub_nil _))))) ?_
      ·intro w hs
       exact hs.weaken (Lo.sub_cons rfl (Lo.sub_cons rfl (Lo.sub_nil _)))
     ·replace hr := hr.neg hc4
      refine WC.skip ?_
      refine WE.inBlock ?_
      refine WE.then <| WC.region <| yy (Y0.add rfl rfl) rfl <| mv rfl rfl <| WL.nil ?_
      refine WE.backR ⟨l2, l2p, l2c, l2tk, IntKind.i64.wrap (v10_1 + 1), Gm2⟩ hr ⟨Gm2le, l2h, l2ht⟩ (Fr.sub_cons rfl (Fr.sub_cons rfl (Fr.sub_cons rfl (Fr.sub_cons rfl (Fr.sub_nil _))))) ?_
      ·intro w hs
       exact hs.weaken (Lo.sub_cons rfl (Lo.sub_cons rfl (Lo.sub_nil _)))
   ·replace hr := hr.neg hc1
    refine WC.exit ?_
    refine WE.thenExit ?_
    refine WE.thenExit ?_
    refine WE.exitHere ?_
    refine WE.endH ⟨l2, l2p, l2c, l2tk, Gm2⟩ ⟨Gm2le, l2h, l2ht, hr⟩ (Fr.sub_cons rfl (Fr.sub_nil _)) ?_
    ·intro w hs
     exact hs.weaken (Lo.sub_cons rfl (Lo.sub_nil _))
 ·rintro ⟨l1, l1p, l1c, l1tk, Gm1⟩ ⟨Gm1le, l1h, l1ht, hr⟩
  refine WE.then <| sr <| mv rfl rfl <| sg rfl rfl <| nx ?_
  refine WC.ret ?_
  replace hr : _ = r := hr
  subst hr
  exact WE.ret1 rfl rfl ⟨_, _, rfl, l1h⟩
theorem L_components_contains (a1 : (Fin 8 → Int)) (b1 : (Fin 8 → Int)) (r : Bool) (hr : (components_contains a1 b1).Ret r) : Ctr Try.prog 69 #[.agg (vecG (Value.int .i64) 8 a1).toArray, .agg (vecG (Value.int .i64) 8 b1).toArray] (fun G => True) (fun G v => v = .bool r) := by
 refine Ctr.enter (args := [_, _]) (N := 28) Try.func69 rfl rfl rfl (fun w0 G0 hL0 hpre => ?_)
 refine sr ?_
 refine WL.box 2 guard_none rfl rfl (fun b2 => ?_)
 refine WL.box 3 guard_none rfl rfl (fun b3 => ?_)
 refine sg rfl rfl <| nx <| WC.seq <| sr <| yy (Y0.loadLA 3 ag48 rfl rfl (vecG_size _ _ _)) rfl <| mv rfl rfl ?_
 refine nx ?_
 refine WC.meetH (fun (gx : Mem) => match gx with | Gm1 => []) (fun (gx : Mem) => match gx with | Gm1 => Mem.le G0 Gm1 ∧ (components_contains_k1).Ret r) (fun (gx : Mem) => match gx with | Gm1 => St w0 G0 Gm1 []) ?_ ?_
 ·refine WC.block ?_
  let Phi1 : (Bool ⊕ Unit) → Prop := fun oo => ((fun ov => match ov with | .inl rv1 => Comp.ret rv1 | .inr () => components_contains_k1 : (Bool ⊕ Unit) → Comp Bool) oo).wp (fun a => a = r)
  replace hr : (Comp.loop _ _).wp Phi1 := hr
  refine WC.loopR (Φ := Phi1) (fun (gx : Int × Mem) => match gx with | ⟨v8_1, Gm2⟩ => (v8_1 : Int)) (fun (gx : Int × Mem) => match gx with | ⟨v8_1, Gm2⟩ => [(2, .pointer (some ⟨b2, 0, none⟩)), (7, .agg (vecG (Value.int .i64) 8 b1).toArray), (8, .int .i64 v8_1)]) (fun (gx : Int × Mem) => match gx with | ⟨v8_1, Gm2⟩ => Mem.le G0 Gm2) (fun (gx : Int × Mem) => match gx with | ⟨v8_1, Gm2⟩ => St w0 G0 Gm2 [(2, some ⟨b2, .cells (vecG (Value.int .i64) 8 a1).toArray 48 (0, 0), 0⟩)]) ⟨0, G0⟩ hr (Fr.sub_cons rfl (Fr.sub_cons rfl (Fr.sub_cons rfl (Fr.sub_nil _)))) (Mem.le_refl _) ?_ ?_
  ·intro w hs
   exact hs.weaken (Lo.sub_cons rfl (Lo.sub_nil _))
  ·intro Aq1 gx hx hr
   obtain ⟨v8_1, Gm2⟩ := gx
   have Gm2le := hx
   refine sr <| yy (Y0.lss rfl rfl) rfl <| nx <| WC.seq ?_
   refine WC.condD (p := v8_1 < 8) rfl (fun hc1 => ?_) (fun hc1 => ?_)
   ·replace hr := hr.pos hc1
    refine WC.skip <| WE.then <| WC.seq <| WC.block <| sr <| mv rfl rfl ?_
    obtain ⟨hi1, hr⟩ := hr
    refine yy (Y0.index Try.underlying48 sc3 sz3 rfl rfl hi1 (vecG_at _ _ _ hi1)) rfl <| sg rfl rfl <| sg rfl rfl <| nr <| mv rfl rfl ?_
    refine WL.caseY0 (p := 0 < (getF b1 v8_1)) guard_none (Y0.gtr rfl rfl) rfl (fun hb1 => ?_) (fun hb1 => ?_)
    ·replace hr := hr.pos hb1
     refine mv rfl rfl ?_
     refine WL.y0' (guard_yes rfl rfl) (Y0.move rfl) rfl ?_
     obtain ⟨hi2, hr⟩ := hr
     refine WL.y0' (guard_yes rfl rfl) (Y0.idxA0 Try.underlying48 sz3 rfl rfl hi2) rfl ?_
     refine WL.y0' (guard_yes rfl rfl) (Y0.loadL 2 sc3 rfl rfl (vecG_at _ _ _ hi2)) rfl ?_
     refine WL.caseY0 (p := (getF a1 v8_1) = 0) (guard_yes rfl rfl) (Y0.eql rfl rfl) rfl (fun hb2 => ?_) (fun hb2 => ?_)
     ·replace hr := hr.pos hb2
      refine WL.y0' (guard_yes rfl rfl) (Y0.move rfl) rfl ?_
      refine WL.skip (guard_noF rfl rfl) rfl ?_
      refine WL.skip (guard_noF rfl rfl) rfl ?_
      refine WL.skip (guard_noF rfl rfl) rfl ?_
      refine WL.skip (guard_noF rfl rfl) rfl ?_
      refine WL.skip (guard_noF rfl rfl) rfl ?_
      refine WL.y0' (guard_yes rfl rfl) (Y0.pickT rfl rfl) rfl ?_
      refine yy (Y0.pickT rfl rfl) rfl <| nx ?_
      refine WC.condT rfl ?_
      refine sr <| sg rfl rfl <| nx ?_
      refine WC.ret ?_
      replace hr : _ = r := hr
      refine WE.inBlockRet ?_
      refine WE.thenRet ?_
      refine WE.thenRet ?_
      refine WE.inBlockRet ?_
      refine WE.endRet ?_
      refine WE.thenRet ?_
      subst hr
      exact WE.ret1 rfl rfl rfl
     ·replace hr := hr.neg hb2
      refine WL.y0' (guard_yes rfl rfl) (Y0.move rfl) rfl ?_
      refine WL.y0' (guard_yes rfl rfl) (Y0.move rfl) rfl ?_
      obtain ⟨hi3, hr⟩ := hr
      refine WL.y0' (guard_yes rfl rfl) (Y0.idxA0 Try.underlying48 sz3 rfl rfl hi3) rfl ?_
      refine WL.y0' (guard_yes rfl rfl) (Y0.loadL 2 sc3 rfl rfl (vecG_at _ _ _ hi3)) rfl ?_
      refine WL.y0' (guard_yes rfl rfl) (Y0.move rfl) rfl ?_
      refine WL.y0' (guard_yes rfl rfl) (Y0.gtr rfl rfl) rfl ?_
      refine WL.y0' (guard_yes rfl rfl) (Y0.pickF rfl rfl) rfl ?_
      refine yy (Y0.pickT rfl rfl) rfl <| nx ?_
      refine WC.condD (p := (getF b1 v8_1) < (getF a1 v8_1)) rfl (fun hc2 => ?_) (fun hc2 => ?_)
      ·replace hr := hr.pos hc2
       refine sr <| sg rfl rfl <| nx ?_
       refine WC.ret ?_
       replace hr : _ = r := hr
       refine WE.inBlockRet ?_
       refine WE.thenRet ?_
       refine WE.thenRet ?_
       refine WE.inBlockRet ?_
       refine WE.endRet ?_
       refine WE.thenRet ?_
       subst hr
       exact WE.ret1 rfl rfl rfl
      ·replace hr := hr.neg hc2
       refine WC.skip ?_
       refine WE.inBlock ?_
       refine WE.then <| WC.region <| yy (Y0.add rfl rfl) rfl <| mv rfl rfl <| WL.nil ?_
       refine WE.backR ⟨IntKind.i64.wrap (v8_1 + 1), Gm2⟩ hr Gm2le (Fr.sub_cons rfl (Fr.sub_cons rfl (Fr.sub_cons rfl (Fr.sub_nil _)))) ?_
       ·intro w hs
        exact hs.weaken (Lo.sub_cons rfl (Lo.sub_nil _))
    ·replace hr := hr.neg hb1
     refine mv rfl rfl <| sk rfl rfl rfl <| sk rfl rfl rfl <| sk rfl rfl rfl <| sk rfl rfl rfl <| sk rfl rfl rfl ?_
     refine WL.skip (guard_undef rfl rfl) rfl ?_
     refine WL.skip (guard_undef rfl rfl) rfl ?_
     refine WL.skip (guard_undef rfl rfl) rfl ?_
     refine WL.skip (guard_undef rfl rfl) rfl ?_
     refine WL.skip (guard_undef rfl rfl) rfl ?_
     refine sk rfl rfl rfl <| yy (Y0.pickF rfl rfl) rfl <| nx ?_
     refine WC.condF rfl ?_
     refine WC.skip ?_
     refine WE.inBlock ?_
     refine WE.then <| WC.region <| yy (Y0.add rfl rfl) rfl <| mv rfl rfl <| WL.nil ?_
     refine WE.backR ⟨IntKind.i64.wrap (v8_1 + 1), Gm2⟩ hr Gm2le (Fr.sub_cons rfl (Fr.sub_cons rfl (Fr.sub_cons rfl (Fr.sub_nil _)))) ?_
     ·intro w hs
      exact hs.weaken (Lo.sub_cons rfl (Lo.sub_nil _))
   ·replace hr := hr.neg hc1
    refine WC.exit ?_
    refine WE.thenExit ?_
    refine WE.thenExit ?_
    refine WE.exitHere ?_
    refine WE.endH Gm2 ⟨Gm2le, hr⟩ (Fr.sub_nil _) ?_
    ·intro w hs
     exact hs.weaken (Lo.sub_nil _)
 ·rintro Gm1 ⟨Gm1le, hr⟩
  refine WE.then <| sr <| sg rfl rfl <| nx ?_
  refine WC.ret ?_
  replace hr : _ = r := hr
  subst hr
  exact WE.ret1 rfl rfl rfl
theorem collect67 : CollectsL Try.prog 67 #[] 86 ky48 (Rp.vec .i64 8) 48 :=
 collect (collects_of (fun hN hi hG => appA (ok := ky48.ok) (enc := fun m => (vecG (Value.int .i64) 8 m).toArray) (n := 8) Try.func85 rfl rfl rfl sc28 sz28 Try.underlying28 el48 rfl (by decide) z48 rfl ag48 sz48 (fun _ => by simp [vecG_length]) (fun x u hu => vecG_one (Value.int .i64) 8 x (fun _ => rfl) u (by simpa using hu)) (fun _ _ => rfl) (fun _ _ => by kernel_rfl) E86 hN hi hG) (fun h1 h2 h3 h4 => keysA (ok := ky48.ok) (enc := fun m => (vecG (Value.int .i64) 8 m).toArray) (n := 8) Try.func86 rfl rfl rfl sc82 Try.underlying82 z48 rfl ag48 sz48 (fun _ => by simp [vecG_length]) (fun x u hu => vecG_one (Value.int .i64) 8 x (fun _ => rfl) u (by simpa using hu)) h1 h2 h3 h4)) E85 Try.func67 rfl rfl rfl
theorem L_components_irreducible (a0_1 : (List (Fin 8 → Int))) (a0_1p : Option Addr) (a0_1c : Nat) (r : (List (Fin 8 → Int))) (hr : (components_irreducible a0_1).Ret r) : Ctr Try.prog 43 #[.slice a0_1p a0_1.length a0_1c] (fun G => SlR (Rp.vec .i64 8) G (.slice a0_1p a0_1.length a0_1c) a0_1) (fun G v => ∃ zp zc, v = .slice zp r.length zc ∧ SlR (Rp.vec .i64 8) G (.slice zp r.length zc) r) := by
 refine Ctr.enter (args := [_]) (N := 77) Try.func43 rfl rfl rfl (fun w0 G0 hL0 hpre => ?_)
 have a0_1h := hpre
 have hz : w0.L.zero := by rw [hL0]; intro p hp; simp at hp
 refine sr <| sg rfl rfl <| nr <| yy (Y0.build (vs := #[]) (v := .agg (vecG (Value.int .i64) 8 (fun _ => 0)).toArray) rfl rfl (fun _ => by kernel_rfl)) rfl ?_
 refine WL.litT (e := 48) (r := (Rp.vec .i64 8)) (vs := #[(0, .agg (vecG (Value.int .i64) 8 (fun _ => 0)).toArray)]) (cs := (vecG (Value.int .i64) 8 (fun _ => 0)) ++ ([])) ([(fun _ => 0)] : List (Fin 8 → Int)) 4017 guard_none rfl rfl rfl rfl (by decide) (fun _ => by kernel_rfl) ⟨vecG (Value.int .i64) 8 (fun _ => 0), [], rfl, rfl, rfl⟩ (fun p1 p1tk p1h => ?_)
 refine sg rfl rfl <| nx <| WC.seq <| sr <| mv rfl rfl ?_
 obtain ⟨yv1, hyv1, hr⟩ := hr
 refine WL.call guard_none rfl (YC.of E55 rfl) (L_monomial_Minimal _ _ _ _ hyv1) rfl (a0_1h) (fun yv1v Gv1 Gv1le yv1post => ?_)
 obtain ⟨yv1p, yv1c, rfl, yv1h⟩ := yv1post
 refine yy (Y0.lenR Try.underlying28 yv1h rfl) rfl <| mv rfl rfl <| nx ?_
 refine WC.meetH (fun (gx : (List (Fin 8 → Int)) × Option Addr × Nat × Option Ow × Mem) => match gx with | ⟨v3_1, v3_1p, v3_1c, v3_1tk, Gm1⟩ => [(3, .slice v3_1p v3_1.length v3_1c)]) (fun (gx : (List (Fin 8 → Int)) × Option Addr × Nat × Option Ow × Mem) => match gx with | ⟨v3_1, v3_1p, v3_1c, v3_1tk, Gm1⟩ => Mem.le Gv1 Gm1 ∧ RowR (Rp.vec .i64 8) 48 Gm1 (.slice v3_1p v3_1.length v3_1c) v3_1 v3_1tk ∧ (components_irreducible_k1 v3_1).Ret r) (fun (gx : (List (Fin 8 → Int)) × Option Addr × Nat × Option Ow × Mem) => match gx with | ⟨v3_1, v3_1p, v3_1c, v3_1tk, Gm1⟩ => St w0 G0 Gm1 [(4003, v3_1tk)]) ?_ ?_
 ·refine WC.block ?_
  let Phi1 : (((List (Fin 8 → Int)))) → Prop := fun oo => ((fun ov => match ov with | v3_1 => components_irreducible_k1 v3_1 : (((List (Fin 8 → Int)))) → Comp ((List (Fin 8 → Int)))) oo).wp (fun a => a = r)
  replace hr : (Comp.loop _ _).wp Phi1 := hr
  refine WC.loopR (Φ := Phi1) (fun (gx : (List (Fin 8 → Int)) × Option Addr × Nat × Option Ow × Int × Mem) => match gx with | ⟨v3_2, v3_2p, v3_2c, v3_2tk, v21_1, Gm2⟩ => ((v3_2, v21_1) : (List (Fin 8 → Int)) × Int)) (fun (gx : (List (Fin 8 → Int)) × Option Addr × Nat × Option Ow × Int × Mem) => match gx with | ⟨v3_2, v3_2p, v3_2c, v3_2tk, v21_1, Gm2⟩ => [(3, .slice v3_2p v3_2.length v3_2c), (19, .slice yv1p yv1.length yv1c), (20, .int .i64 (yv1.length : Int)), (21, .int .i64 v21_1)]) (fun (gx : (List (Fin 8 → Int)) × Option Addr × Nat × Option Ow × Int × Mem) => match gx with | ⟨v3_2, v3_2p, v3_2c, v3_2tk, v21_1, Gm2⟩ => Mem.le Gv1 Gm2 ∧ RowR (Rp.vec .i64 8) 48 Gm2 (.slice v3_2p v3_2.length v3_2c) v3_2 v3_2tk) (fun (gx : (List (Fin 8 → Int)) × Option Addr × Nat × Option Ow × Int × Mem) => match gx with | ⟨v3_2, v3_2p, v3_2c, v3_2tk, v21_1, Gm2⟩ => St w0 G0 Gm2 [(4003, v3_2tk)]) ⟨[(fun _ => 0)], p1, 1, p1tk, 0, Gv1⟩ hr (Fr.sub_cons rfl (Fr.sub_cons rfl (Fr.sub_cons rfl (Fr.sub_cons rfl (Fr.sub_nil _))))) ⟨(Mem.le_refl _), (p1h.mono Gv1le)⟩ ?_ ?_
  ·intro w hs
   have hs := hs.rekey (i := 4017) (j := 4003) rfl (by rw [hL0]; rfl)
   exact hs.weaken (Lo.sub_cons rfl (Lo.sub_nil _))
  ·intro Aq1 gx hx hr
   obtain ⟨v3_2, v3_2p, v3_2c, v3_2tk, v21_1, Gm2⟩ := gx
   obtain ⟨Gm2le, v3_2h⟩ := hx
   refine sr <| yy (Y0.lss rfl rfl) rfl <| nx <| WC.seq ?_
   refine WC.condD (p := v21_1 < (yv1.length : Int)) rfl (fun hc1 => ?_) (fun hc1 => ?_)
   ·replace hr := hr.pos hc1
    refine WC.skip <| WE.then <| WC.seq <| WC.block <| sr ?_
    obtain ⟨x1, hx1, hr⟩ := hr
    refine yy (Y0.idxR Try.underlying28 sz48 (yv1h.mono Gm2le) rfl rfl hx1) rfl <| yy (Y0.loadGA _ ag48 rfl (vecG_size _ _ _) (AtK.vec (At.mono (SlR.at yv1h hx1) Gm2le))) rfl ?_
    refine WL.alloc 5 guard_none z48 rfl (fun b1 => ?_)
    refine WL.storeLA 5 guard_none sz48 rfl rfl rfl (vecG_size _ _ _) (vecG_size _ _ _) (fun u hu => Rp.one (Rp.vec .i64 8) (G := Gm2) (x := x1) (cs := vecG (Value.int .i64) 8 x1) rfl u (by simpa using hu)) ?_
    refine nx ?_
    refine WC.scope ?_
    refine sr ?_
    refine WL.makeMap (ky := ky48) (Rv := RvS Rp.bool Gm2) 4025 guard_none rfl (fun mb1 mb1tk mb1h => ?_)
    refine sg rfl rfl <| nx <| WC.seq <| sr <| mv rfl rfl <| yy (Y0.lenRow Try.underlying28 v3_2h rfl) rfl ?_
    refine mv rfl rfl <| nx ?_
    refine WC.meetH (fun (gx : (List ((Fin 8 → Int) × Bool)) × Option Ow × Mem) => match gx with | ⟨mp1, mp1tk, Gm3⟩ => [(19, .slice yv1p yv1.length yv1c), (20, .int .i64 (yv1.length : Int)), (21, .int .i64 v21_1), (6, .map (some mb1))]) (fun (gx : (List ((Fin 8 → Int) × Bool)) × Option Ow × Mem) => match gx with | ⟨mp1, mp1tk, Gm3⟩ => Mem.le Gm2 Gm3 ∧ MapR ky48 (RvS Rp.bool Gm3) (.map (some mb1)) mp1 mp1tk ∧ (components_irreducible_k8 v21_1 mp1).wp (Out Aq1 Phi1)) (fun (gx : (List ((Fin 8 → Int) × Bool)) × Option Ow × Mem) => match gx with | ⟨mp1, mp1tk, Gm3⟩ => St w0 G0 Gm3 [(4025, mp1tk)]) ?_ ?_
    ·refine WC.block ?_
     let Phi4 : (((List ((Fin 8 → Int) × Bool)))) → Prop := fun oo => ((fun ov => match ov with | mp1 => components_irreducible_k8 v21_1 mp1 : (((List ((Fin 8 → Int) × Bool)))) → Comp (((List (Fin 8 → Int)) × Int) ⊕ (((List (Fin 8 → Int)))))) oo).wp (Out Aq1 Phi1)
     replace hr : (Comp.loop _ _).wp Phi4 := hr
     refine WC.loopR (Φ := Phi4) (fun (gx : Int × (List ((Fin 8 → Int) × Bool)) × Option Ow × Mem) => match gx with | ⟨v28_1, mp2, mp2tk, Gm9⟩ => ((v28_1, mp2) : Int × (List ((Fin 8 → Int) × Bool)))) (fun (gx : Int × (List ((Fin 8 → Int) × Bool)) × Option Ow × Mem) => match gx with | ⟨v28_1, mp2, mp2tk, Gm9⟩ => [(5, .pointer (some ⟨b1, 0, none⟩)), (19, .slice yv1p yv1.length yv1c), (20, .int .i64 (yv1.length : Int)), (21, .int .i64 v21_1), (26, .slice v3_2p v3_2.length v3_2c), (27, .int .i64 (v3_2.length : Int)), (28, .int .i64 v28_1), (6, .map (some mb1))]) (fun (gx : Int × (List ((Fin 8 → Int) × Bool)) × Option Ow × Mem) => match gx with | ⟨v28_1, mp2, mp2tk, Gm9⟩ => Mem.le Gm2 Gm9 ∧ MapR ky48 (RvS Rp.bool Gm9) (.map (some mb1)) mp2 mp2tk) (fun (gx : Int × (List ((Fin 8 → Int) × Bool)) × Option Ow × Mem) => match gx with | ⟨v28_1, mp2, mp2tk, Gm9⟩ => St w0 G0 Gm9 [(5, some ⟨b1, .cells (vecG (Value.int .i64) 8 x1).toArray 48 (0, 0), 0⟩), (4003, v3_2tk), (4025, mp2tk)]) ⟨0, [], mb1tk, Gm2⟩ hr (Fr.sub_cons rfl (Fr.sub_cons rfl (Fr.sub_cons rfl (Fr.sub_cons rfl (Fr.sub_cons rfl (Fr.sub_cons rfl (Fr.sub_cons rfl (Fr.sub_cons rfl (Fr.sub_nil _))))))))) ⟨(Mem.le_refl _), mb1h⟩ ?_ ?_
     ·intro w hs
      exact hs.weaken (Lo.sub_cons rfl (Lo.sub_cons rfl (Lo.sub_cons rfl (Lo.sub_nil _))))
     ·intro Aq4 gx hx hr
      obtain ⟨v28_1, mp2, mp2tk, Gm9⟩ := gx
      obtain ⟨Gm9le, mp2h⟩ := hx
      refine sr <| yy (Y0.lss rfl rfl) rfl <| nx <| WC.seq ?_
      refine WC.condD (p := v28_1 < (v3_2.length : Int)) rfl (fun hc5 => ?_) (fun hc5 => ?_)
      ·replace hr := hr.pos hc5
       refine WC.skip <| WE.then <| WC.seq <| WC.block <| sr ?_
       obtain ⟨x4, hx4, hr⟩ := hr
       refine yy (Y0.idxRow Try.underlying28 sz48 (v3_2h.mono Gm9le) rfl rfl hx4) rfl <| yy (Y0.loadTA _ ag48 (v3_2h.mono Gm9le) (key := 4003) rfl rfl (vecG_size _ _ _) (by decide) (AtK.vec (RowR.at v3_2h hx4))) rfl ?_
       refine WL.alloc 8 guard_none z48 rfl (fun b4 => ?_)
       refine WL.storeLA 8 guard_none sz48 rfl rfl rfl (vecG_size _ _ _) (vecG_size _ _ _) (fun u hu => Rp.one (Rp.vec .i64 8) (G := Gm9) (x := x4) (cs := vecG (Value.int .i64) 8 x4) rfl u (by simpa using hu)) ?_
       refine nr <| yy (Y0.loadLA 8 ag48 rfl rfl (vecG_size _ _ _)) rfl <| yy (Y0.loadLA 5 ag48 rfl rfl (vecG_size _ _ _)) rfl ?_
       obtain ⟨yv4, hyv4, hr⟩ := hr
       refine WL.call guard_none rfl (YC.of E66 rfl) (L_components_split _ _ _ hyv4) rfl (trivial) (fun yv4v Gv9 Gv9le yv4post => ?_)
       obtain ⟨yv4p, yv4c, rfl, yv4h⟩ := yv4post
       refine yy (Y0.lenR Try.underlying28 yv4h rfl) rfl <| mv rfl rfl <| nx ?_
       refine WC.meetH (fun (gx : (List ((Fin 8 → Int) × Bool)) × Option Ow × Mem) => match gx with | ⟨mp3, mp3tk, Gm10⟩ => [(5, .pointer (some ⟨b1, 0, none⟩)), (19, .slice yv1p yv1.length yv1c), (20, .int .i64 (yv1.length : Int)), (21, .int .i64 v21_1), (26, .slice v3_2p v3_2.length v3_2c), (27, .int .i64 (v3_2.length : Int)), (28, .int .i64 v28_1), (6, .map (some mb1))]) (fun (gx : (List ((Fin 8 → Int) × Bool)) × Option Ow × Mem) => match gx with | ⟨mp3, mp3tk, Gm10⟩ => Mem.le Gv9 Gm10 ∧ MapR ky48 (RvS Rp.bool Gm10) (.map (some mb1)) mp3 mp3tk ∧ (components_irreducible_k10 v28_1 mp3).wp (Out Aq4 Phi4)) (fun (gx : (List ((Fin 8 → Int) × Bool)) × Option Ow × Mem) => match gx with | ⟨mp3, mp3tk, Gm10⟩ => St w0 G0 Gm10 [(5, some ⟨b1, .cells (vecG (Value.int .i64) 8 x1).toArray 48 (0, 0), 0⟩), (4003, v3_2tk), (4025, mp3tk)]) ?_ ?_
       ·refine WC.block ?_
        let Phi5 : (((List ((Fin 8 → Int) × Bool)))) → Prop := fun oo => ((fun ov => match ov with | mp3 => components_irreducible_k10 v28_1 mp3 : (((List ((Fin 8 → Int) × Bool)))) → Comp ((Int × (List ((Fin 8 → Int) × Bool))) ⊕ (((List ((Fin 8 → Int) × Bool)))))) oo).wp (Out Aq4 Phi4)
        replace hr : (Comp.loop _ _).wp Phi5 := hr
        refine WC.loopR (Φ := Phi5) (fun (gx : Int × (List ((Fin 8 → Int) × Bool)) × Option Ow × Mem) => match gx with | ⟨v36_1, mp4, mp4tk, Gm11⟩ => ((v36_1, mp4) : Int × (List ((Fin 8 → Int) × Bool)))) (fun (gx : Int × (List ((Fin 8 → Int) × Bool)) × Option Ow × Mem) => match gx with | ⟨v36_1, mp4, mp4tk, Gm11⟩ => [(5, .pointer (some ⟨b1, 0, none⟩)), (19, .slice yv1p yv1.length yv1c), (20, .int .i64 (yv1.length : Int)), (21, .int .i64 v21_1), (26, .slice v3_2p v3_2.length v3_2c), (27, .int .i64 (v3_2.length : Int)), (28, .int .i64 v28_1), (34, .slice yv4p yv4.length yv4c), (35, .int .i64 (yv4.length : Int)), (36, .int .i64 v36_1), (6, .map (some mb1))]) (fun (gx : Int × (List ((Fin 8 → Int) × Bool)) × Option Ow × Mem) => match gx with | ⟨v36_1, mp4, mp4tk, Gm11⟩ => Mem.le Gv9 Gm11 ∧ MapR ky48 (RvS Rp.bool Gm11) (.map (some mb1)) mp4 mp4tk) (fun (gx : Int × (List ((Fin 8 → Int) × Bool)) × Option Ow × Mem) => match gx with | ⟨v36_1, mp4, mp4tk, Gm11⟩ => St w0 G0 Gm11 [(5, some ⟨b1, .cells (vecG (Value.int .i64) 8 x1).toArray 48 (0, 0), 0⟩), (4003, v3_2tk), (4025, mp4tk)]) ⟨0, mp2, mp2tk, Gv9⟩ hr (Fr.sub_cons rfl (Fr.sub_cons rfl (Fr.sub_cons rfl (Fr.sub_cons rfl (Fr.sub_cons rfl (Fr.sub_cons rfl (Fr.sub_cons rfl (Fr.sub_cons rfl (Fr.sub_cons rfl (Fr.sub_cons rfl (Fr.sub_cons rfl (Fr.sub_nil _)))))))))))) ⟨(Mem.le_refl _), (MapR.mono mp2h Gv9le)⟩ ?_ ?_
        ·intro w hs
         exact hs.weaken (Lo.sub_cons rfl (Lo.sub_cons rfl (Lo.sub_cons rfl (Lo.sub_nil _))))
        ·intro Aq5 gx hx hr
         obtain ⟨v36_1, mp4, mp4tk, Gm11⟩ := gx
         obtain ⟨Gm11le, mp4h⟩ := hx
         refine sr <| yy (Y0.lss rfl rfl) rfl <| nx <| WC.seq ?_
         refine WC.condD (p := v36_1 < (yv4.length : Int)) rfl (fun hc6 => ?_) (fun hc6 => ?_)
         ·replace hr := hr.pos hc6
          refine WC.skip <| WE.then <| WC.seq <| WC.block <| sr ?_
          obtain ⟨x5, hx5, hr⟩ := hr
          refine yy (Y0.idxR Try.underlying28 sz48 (yv4h.mono Gm11le) rfl rfl hx5) rfl <| yy (Y0.loadGA _ ag48 rfl (vecG_size _ _ _) (AtK.vec (At.mono (SlR.at yv4h hx5) Gm11le))) rfl ?_
          refine WL.alloc 10 guard_none z48 rfl (fun b5 => ?_)
          refine WL.storeLA 10 guard_none sz48 rfl rfl rfl (vecG_size _ _ _) (vecG_size _ _ _) (fun u hu => Rp.one (Rp.vec .i64 8) (G := Gm11) (x := x5) (cs := vecG (Value.int .i64) 8 x5) rfl u (by simpa using hu)) ?_
          refine nx <| WC.region <| mv rfl rfl <| yy (Y0.loadLA 10 ag48 rfl rfl (vecG_size _ _ _)) rfl ?_
          obtain ⟨⟨hk1, hk1s⟩, hr⟩ := hr
          refine WL.mapPut (Rv' := RvS Rp.bool Gm11) (k := x5) (z := true) 4025 guard_none Try.underlying82 mp4h rfl rfl rfl rfl hk1 rfl (fun _ _ _ _ h => h) hk1s (fun tk3 tk3h => ?_)
          refine WL.nil ?_
          refine WE.inBlock ?_
          refine WE.then <| WC.region <| yy (Y0.add rfl rfl) rfl <| mv rfl rfl <| WL.nil ?_
          refine WE.backR ⟨IntKind.i64.wrap (v36_1 + 1), (mput mp4 x5 true), tk3, Gm11⟩ hr ⟨Gm11le, tk3h⟩ (Fr.sub_cons rfl (Fr.sub_cons rfl (Fr.sub_cons rfl (Fr.sub_cons rfl (Fr.sub_cons rfl (Fr.sub_cons rfl (Fr.sub_cons rfl (Fr.sub_cons rfl (Fr.sub_cons rfl (Fr.sub_cons rfl (Fr.sub_cons rfl (Fr.sub_nil _)))))))))))) ?_
          ·intro w hs
           exact hs.weaken (Lo.sub_cons rfl (Lo.sub_cons rfl (Lo.sub_cons rfl (Lo.sub_nil _))))
         ·replace hr := hr.neg hc6
          refine WC.exit ?_
          refine WE.thenExit ?_
          refine WE.thenExit ?_
          refine WE.exitHere ?_
          refine WE.endH ⟨mp4, mp4tk, Gm11⟩ ⟨Gm11le, mp4h, hr⟩ (Fr.sub_cons rfl (Fr.sub_cons rfl (Fr.sub_cons rfl (Fr.sub_cons rfl (Fr.sub_cons rfl (Fr.sub_cons rfl (Fr.sub_cons rfl (Fr.sub_cons rfl (Fr.sub_nil _))))))))) ?_
          ·intro w hs
           exact hs.weaken (Lo.sub_cons rfl (Lo.sub_cons rfl (Lo.sub_cons rfl (Lo.sub_nil _))))
       ·rintro ⟨mp3, mp3tk, Gm10⟩ ⟨Gm10le, mp3h, hr⟩
        refine WE.inBlock ?_
        refine WE.then <| WC.region <| yy (Y0.add rfl rfl) rfl <| mv rfl rfl <| WL.nil ?_
        refine WE.backR ⟨IntKind.i64.wrap (v28_1 + 1), mp3, mp3tk, Gm10⟩ hr ⟨(Mem.le_trans (Mem.le_trans Gm9le Gv9le) Gm10le), mp3h⟩ (Fr.sub_cons rfl (Fr.sub_cons rfl (Fr.sub_cons rfl (Fr.sub_cons rfl (Fr.sub_cons rfl (Fr.sub_cons rfl (Fr.sub_cons rfl (Fr.sub_cons rfl (Fr.sub_nil _))))))))) ?_
        ·intro w hs
         exact hs.weaken (Lo.sub_cons rfl (Lo.sub_cons rfl (Lo.sub_cons rfl (Lo.sub_nil _))))
      ·replace hr := hr.neg hc5
       refine WC.exit ?_
       refine WE.thenExit ?_
       refine WE.thenExit ?_
       refine WE.exitHere ?_
       refine WE.endH ⟨mp2, mp2tk, Gm9⟩ ⟨Gm9le, mp2h, hr⟩ (Fr.sub_cons rfl (Fr.sub_cons rfl (Fr.sub_cons rfl (Fr.sub_cons rfl (Fr.sub_nil _))))) ?_
       ·intro w hs
        exact hs.weaken (Lo.sub_cons rfl (Lo.sub_nil _))
    ·rintro ⟨mp1, mp1tk, Gm3⟩ ⟨Gm3le, mp1h, hr⟩
     refine WE.then <| sr <| mv rfl rfl ?_
     refine WL.call guard_none rfl (YC.of E68 rfl) (keysBox Try.func68 rfl rfl rfl (some mb1)) rfl trivial (fun kf1v Gv4 Gv4le kf1post => ?_)
     obtain ⟨kf1, rfl, kf1h⟩ := kf1post
     refine WL.callT guard_none rfl (YC.of E67 rfl) (collect67 _ _ _ _ _ 4025 (by decide) (MapR.mono mp1h Gv4le)) rfl kf1h (Lo.sub_cons rfl (Lo.sub_nil _)) hz (fun ks1v Gv5 Lks1 Gv5le ks1post => ?_)
     obtain ⟨ks1, ks1p, ks1c, ks1tk, rfl, rfl, ks1h, ks1perm⟩ := ks1post
     replace hr := hr ks1 ks1perm
     refine WL.conseq (fun w hs => hs.rekey (i := 7000) (j := 4046) rfl (by rw [hL0]; rfl)) ?_
     refine WL.freezeT (r := (Rp.vec .i64 8)) (e := 48) 4046 ks1h rfl (by rw [hL0]; rfl) (fun tk2 Gv6 Gv6le tk2h tk2ht => ?_)
     refine sg rfl rfl <| nr <| sg rfl rfl <| nx <| WC.seq ?_
     refine WC.label ?_
     refine WE.then <| sr <| mv rfl rfl <| yy (Y0.lenR Try.underlying28 tk2h rfl) rfl <| mv rfl rfl <| nx ?_
     refine WC.meetH (fun (gx : (List (Fin 8 → Int)) × Option Addr × Nat × Option Ow × Mem) => match gx with | ⟨v3_3, v3_3p, v3_3c, v3_3tk, Gm4⟩ => [(3, .slice v3_3p v3_3.length v3_3c), (19, .slice yv1p yv1.length yv1c), (20, .int .i64 (yv1.length : Int)), (21, .int .i64 v21_1)]) (fun (gx : (List (Fin 8 → Int)) × Option Addr × Nat × Option Ow × Mem) => match gx with | ⟨v3_3, v3_3p, v3_3c, v3_3tk, Gm4⟩ => Mem.le Gv6 Gm4 ∧ RowR (Rp.vec .i64 8) 48 Gm4 (.slice v3_3p v3_3.length v3_3c) v3_3 v3_3tk ∧ (components_irreducible_k3 v21_1 v3_3).wp (Out Aq1 Phi1)) (fun (gx : (List (Fin 8 → Int)) × Option Addr × Nat × Option Ow × Mem) => match gx with | ⟨v3_3, v3_3p, v3_3c, v3_3tk, Gm4⟩ => St w0 G0 Gm4 [(4003, v3_3tk)]) ?_ ?_
     ·refine WC.block ?_
      let Phi2 : (((List (Fin 8 → Int)))) → Prop := fun oo => ((fun ov => match ov with | v3_3 => components_irreducible_k3 v21_1 v3_3 : (((List (Fin 8 → Int)))) → Comp (((List (Fin 8 → Int)) × Int) ⊕ (((List (Fin 8 → Int)))))) oo).wp (Out Aq1 Phi1)
      replace hr : (Comp.loop _ _).wp Phi2 := hr
      refine WC.loopR (Φ := Phi2) (fun (gx : (List (Fin 8 → Int)) × Option Addr × Nat × Option Ow × Int × Mem) => match gx with | ⟨v3_4, v3_4p, v3_4c, v3_4tk, v49_1, Gm5⟩ => ((v3_4, v49_1) : (List (Fin 8 → Int)) × Int)) (fun (gx : (List (Fin 8 → Int)) × Option Addr × Nat × Option Ow × Int × Mem) => match gx with | ⟨v3_4, v3_4p, v3_4c, v3_4tk, v49_1, Gm5⟩ => [(3, .slice v3_4p v3_4.length v3_4c), (11, .slice ks1p ks1.length ks1c), (19, .slice yv1p yv1.length yv1c), (20, .int .i64 (yv1.length : Int)), (21, .int .i64 v21_1), (47, .slice ks1p ks1.length ks1c), (48, .int .i64 (ks1.length : Int)), (49, .int .i64 v49_1)]) (fun (gx : (List (Fin 8 → Int)) × Option Addr × Nat × Option Ow × Int × Mem) => match gx with | ⟨v3_4, v3_4p, v3_4c, v3_4tk, v49_1, Gm5⟩ => Mem.le Gv6 Gm5 ∧ RowR (Rp.vec .i64 8) 48 Gm5 (.slice v3_4p v3_4.length v3_4c) v3_4 v3_4tk) (fun (gx : (List (Fin 8 → Int)) × Option Addr × Nat × Option Ow × Int × Mem) => match gx with | ⟨v3_4, v3_4p, v3_4c, v3_4tk, v49_1, Gm5⟩ => St w0 G0 Gm5 [(4046, tk2), (4003, v3_4tk)]) ⟨[], none, 0, none, 0, Gv6⟩ hr (Fr.sub_cons rfl (Fr.sub_cons rfl (Fr.sub_cons rfl (Fr.sub_cons rfl (Fr.sub_cons rfl (Fr.sub_cons rfl (Fr.sub_cons rfl (Fr.sub_cons rfl (Fr.sub_nil _))))))))) ⟨(Mem.le_refl _), RowR.nil⟩ ?_ ?_
      ·intro w hs
       exact hs.weaken (Lo.sub_cons rfl (Lo.sub_no (Lo.sub_nil _)))
      ·intro Aq2 gx hx hr
       obtain ⟨v3_4, v3_4p, v3_4c, v3_4tk, v49_1, Gm5⟩ := gx
       obtain ⟨Gm5le, v3_4h⟩ := hx
       refine sr <| yy (Y0.lss rfl rfl) rfl <| nx <| WC.seq ?_
       refine WC.condD (p := v49_1 < (ks1.length : Int)) rfl (fun hc2 => ?_) (fun hc2 => ?_)
       ·replace hr := hr.pos hc2
        refine WC.skip <| WE.then <| WC.seq ?_
        refine WC.meetH (fun (gx : (List (Fin 8 → Int)) × Option Addr × Nat × Option Ow × Mem) => match gx with | ⟨v3_5, v3_5p, v3_5c, v3_5tk, Gm6⟩ => [(3, .slice v3_5p v3_5.length v3_5c), (11, .slice ks1p ks1.length ks1c), (19, .slice yv1p yv1.length yv1c), (20, .int .i64 (yv1.length : Int)), (21, .int .i64 v21_1), (47, .slice ks1p ks1.length ks1c), (48, .int .i64 (ks1.length : Int)), (49, .int .i64 v49_1)]) (fun (gx : (List (Fin 8 → Int)) × Option Addr × Nat × Option Ow × Mem) => match gx with | ⟨v3_5, v3_5p, v3_5c, v3_5tk, Gm6⟩ => Mem.le Gm5 Gm6 ∧ RowR (Rp.vec .i64 8) 48 Gm6 (.slice v3_5p v3_5.length v3_5c) v3_5 v3_5tk ∧ (components_irreducible_k5 v49_1 v3_5).wp (Out Aq2 Phi2)) (fun (gx : (List (Fin 8 → Int)) × Option Addr × Nat × Option Ow × Mem) => match gx with | ⟨v3_5, v3_5p, v3_5c, v3_5tk, Gm6⟩ => St w0 G0 Gm6 [(4046, tk2), (4003, v3_5tk)]) ?_ ?_
        ·refine WC.block <| sr ?_
         obtain ⟨x2, hx2, hr⟩ := hr
         refine yy (Y0.idxR Try.underlying28 sz48 (tk2h.mono Gm5le) rfl rfl hx2) rfl <| yy (Y0.loadGA _ ag48 rfl (vecG_size _ _ _) (AtK.vec (At.mono (SlR.at tk2h hx2) Gm5le))) rfl ?_
         refine WL.alloc 13 guard_none z48 rfl (fun b2 => ?_)
         refine WL.storeLA 13 guard_none sz48 rfl rfl rfl (vecG_size _ _ _) (vecG_size _ _ _) (fun u hu => Rp.one (Rp.vec .i64 8) (G := Gm5) (x := x2) (cs := vecG (Value.int .i64) 8 x2) rfl u (by simpa using hu)) ?_
         refine nx <| WC.seq <| sr <| mv rfl rfl <| yy (Y0.lenR Try.underlying28 (tk2h.mono Gm5le) rfl) rfl <| mv rfl rfl ?_
         refine nx ?_
         refine WC.meetH (fun (gx : Mem) => match gx with | Gm7 => [(3, .slice v3_4p v3_4.length v3_4c), (11, .slice ks1p ks1.length ks1c), (13, .pointer (some ⟨b2, 0, none⟩)), (19, .slice yv1p yv1.length yv1c), (20, .int .i64 (yv1.length : Int)), (21, .int .i64 v21_1), (47, .slice ks1p ks1.length ks1c), (48, .int .i64 (ks1.length : Int)), (49, .int .i64 v49_1)]) (fun (gx : Mem) => match gx with | Gm7 => Mem.le Gm5 Gm7 ∧ (components_irreducible_k6 v3_4 v49_1 x2).wp (Out Aq2 Phi2)) (fun (gx : Mem) => match gx with | Gm7 => St w0 G0 Gm7 [(13, some ⟨b2, .cells (vecG (Value.int .i64) 8 x2).toArray 48 (0, 0), 0⟩), (4046, tk2), (4003, v3_4tk)]) ?_ ?_
         ·refine WC.block ?_
          let Phi3 : (((List (Fin 8 → Int))) ⊕ Unit) → Prop := fun oo => ((fun ov => match ov with | .inl v3_5 => components_irreducible_k5 v49_1 v3_5 | .inr () => components_irreducible_k6 v3_4 v49_1 x2 : (((List (Fin 8 → Int))) ⊕ Unit) → Comp (((List (Fin 8 → Int)) × Int) ⊕ (((List (Fin 8 → Int)))))) oo).wp (Out Aq2 Phi2)
          replace hr : (Comp.loop _ _).wp Phi3 := hr
          refine WC.loopR (Φ := Phi3) (fun (gx : Int × Mem) => match gx with | ⟨v55_1, Gm8⟩ => (v55_1 : Int)) (fun (gx : Int × Mem) => match gx with | ⟨v55_1, Gm8⟩ => [(3, .slice v3_4p v3_4.length v3_4c), (11, .slice ks1p ks1.length ks1c), (13, .pointer (some ⟨b2, 0, none⟩)), (19, .slice yv1p yv1.length yv1c), (20, .int .i64 (yv1.length : Int)), (21, .int .i64 v21_1), (47, .slice ks1p ks1.length ks1c), (48, .int .i64 (ks1.length : Int)), (49, .int .i64 v49_1), (53, .slice ks1p ks1.length ks1c), (54, .int .i64 (ks1.length : Int)), (55, .int .i64 v55_1)]) (fun (gx : Int × Mem) => match gx with | ⟨v55_1, Gm8⟩ => Mem.le Gm5 Gm8) (fun (gx : Int × Mem) => match gx with | ⟨v55_1, Gm8⟩ => St w0 G0 Gm8 [(13, some ⟨b2, .cells (vecG (Value.int .i64) 8 x2).toArray 48 (0, 0), 0⟩), (4046, tk2), (4003, v3_4tk)]) ⟨0, Gm5⟩ hr (Fr.sub_cons rfl (Fr.sub_cons rfl (Fr.sub_cons rfl (Fr.sub_cons rfl (Fr.sub_cons rfl (Fr.sub_cons rfl (Fr.sub_cons rfl (Fr.sub_cons rfl (Fr.sub_cons rfl (Fr.sub_cons rfl (Fr.sub_cons rfl (Fr.sub_cons rfl (Fr.sub_nil _))))))))))))) (Mem.le_refl _) ?_ ?_
          ·intro w hs
           exact hs.weaken (Lo.sub_cons rfl (Lo.sub_cons rfl (Lo.sub_cons rfl (Lo.sub_nil _))))
          ·intro Aq3 gx hx hr
           obtain ⟨v55_1, Gm8⟩ := gx
           have Gm8le := hx
           refine sr <| yy (Y0.lss rfl rfl) rfl <| nx <| WC.seq ?_
           refine WC.condD (p := v55_1 < (ks1.length : Int)) rfl (fun hc3 => ?_) (fun hc3 => ?_)
           ·replace hr := hr.pos hc3
            refine WC.skip <| WE.then <| WC.seq <| WC.block <| sr ?_
            obtain ⟨x3, hx3, hr⟩ := hr
            refine yy (Y0.idxR Try.underlying28 sz48 (tk2h.mono (Mem.le_trans Gm5le Gm8le)) rfl rfl hx3) rfl <| yy (Y0.loadGA _ ag48 rfl (vecG_size _ _ _) (AtK.vec (At.mono (SlR.at tk2h hx3) (Mem.le_trans Gm5le Gm8le)))) rfl ?_
            refine WL.alloc 15 guard_none z48 rfl (fun b3 => ?_)
            refine WL.storeLA 15 guard_none sz48 rfl rfl rfl (vecG_size _ _ _) (vecG_size _ _ _) (fun u hu => Rp.one (Rp.vec .i64 8) (G := Gm8) (x := x3) (cs := vecG (Value.int .i64) 8 x3) rfl u (by simpa using hu)) ?_
            refine nr <| yy (Y0.loadLA 13 ag48 rfl rfl (vecG_size _ _ _)) rfl <| yy (Y0.loadLA 15 ag48 rfl rfl (vecG_size _ _ _)) rfl ?_
            refine WL.caseY0 (p := ¬ x2 = x3) guard_none (Y0.neqV Try.underlying48 Try.underlying3 sc3 sz3 eg48 rfl rfl) rfl (fun hb1 => ?_) (fun hb1 => ?_)
            ·replace hr := hr.pos hb1
             refine mv rfl rfl ?_
             refine WL.y0' (guard_yes rfl rfl) (Y0.loadLA 13 ag48 rfl rfl (vecG_size _ _ _)) rfl ?_
             refine WL.y0' (guard_yes rfl rfl) (Y0.loadLA 15 ag48 rfl rfl (vecG_size _ _ _)) rfl ?_
             obtain ⟨yv3, hyv3, hr⟩ := hr
             refine WL.call0 (guard_yes rfl rfl) rfl (YC.of E69 rfl) (L_components_contains _ _ _ hyv3) rfl (trivial) ?_
             refine yy (Y0.pickT rfl rfl) rfl <| nx ?_
             refine WC.cond (b := yv3) rfl (fun hc4 => ?_) (fun hc4 => ?_)
             ·replace hr := hr.pos hc4
              refine WC.exit ?_
              refine WE.exitOut rfl ?_
              refine WE.thenExit ?_
              refine WE.thenExit ?_
              refine WE.exitOut rfl ?_
              refine WE.endExit ?_
              refine WE.thenExit ?_
              refine WE.exitHere ?_
              refine WE.endH ⟨v3_4, v3_4p, v3_4c, v3_4tk, Gm8⟩ ⟨Gm8le, (v3_4h.mono Gm8le), hr⟩ (Fr.sub_cons rfl (Fr.sub_cons rfl (Fr.sub_cons rfl (Fr.sub_cons rfl (Fr.sub_cons rfl (Fr.sub_cons rfl (Fr.sub_cons rfl (Fr.sub_cons rfl (Fr.sub_nil _))))))))) ?_
              ·intro w hs
               exact hs.weaken (Lo.sub_cons rfl (Lo.sub_cons rfl (Lo.sub_nil _)))
             ·replace hr := hr.neg (Bool.eq_false_iff.1 hc4)
              refine WC.skip ?_
              refine WE.inBlock ?_
              refine WE.then <| WC.region <| yy (Y0.add rfl rfl) rfl <| mv rfl rfl <| WL.nil ?_
              refine WE.backR ⟨IntKind.i64.wrap (v55_1 + 1), Gm8⟩ hr Gm8le (Fr.sub_cons rfl (Fr.sub_cons rfl (Fr.sub_cons rfl (Fr.sub_cons rfl (Fr.sub_cons rfl (Fr.sub_cons rfl (Fr.sub_cons rfl (Fr.sub_cons rfl (Fr.sub_cons rfl (Fr.sub_cons rfl (Fr.sub_cons rfl (Fr.sub_cons rfl (Fr.sub_nil _))))))))))))) ?_
              ·intro w hs
               exact hs.weaken (Lo.sub_cons rfl (Lo.sub_cons rfl (Lo.sub_cons rfl (Lo.sub_nil _))))
            ·replace hr := hr.neg hb1
             refine mv rfl rfl <| sk rfl rfl rfl <| sk rfl rfl rfl <| sk rfl rfl rfl <| yy (Y0.pickF rfl rfl) rfl <| nx ?_
             refine WC.condF rfl ?_
             refine WC.skip ?_
             refine WE.inBlock ?_
             refine WE.then <| WC.region <| yy (Y0.add rfl rfl) rfl <| mv rfl rfl <| WL.nil ?_
             refine WE.backR ⟨IntKind.i64.wrap (v55_1 + 1), Gm8⟩ hr Gm8le (Fr.sub_cons rfl (Fr.sub_cons rfl (Fr.sub_cons rfl (Fr.sub_cons rfl (Fr.sub_cons rfl (Fr.sub_cons rfl (Fr.sub_cons rfl (Fr.sub_cons rfl (Fr.sub_cons rfl (Fr.sub_cons rfl (Fr.sub_cons rfl (Fr.sub_cons rfl (Fr.sub_nil _))))))))))))) ?_
             ·intro w hs
              exact hs.weaken (Lo.sub_cons rfl (Lo.sub_cons rfl (Lo.sub_cons rfl (Lo.sub_nil _))))
           ·replace hr := hr.neg hc3
            refine WC.exit ?_
            refine WE.thenExit ?_
            refine WE.thenExit ?_
            refine WE.exitHere ?_
            refine WE.endH Gm8 ⟨Gm8le, hr⟩ (Fr.sub_cons rfl (Fr.sub_cons rfl (Fr.sub_cons rfl (Fr.sub_cons rfl (Fr.sub_cons rfl (Fr.sub_cons rfl (Fr.sub_cons rfl (Fr.sub_cons rfl (Fr.sub_cons rfl (Fr.sub_nil _)))))))))) ?_
            ·intro w hs
             exact hs.weaken (Lo.sub_cons rfl (Lo.sub_cons rfl (Lo.sub_cons rfl (Lo.sub_nil _))))
         ·rintro Gm7 ⟨Gm7le, hr⟩
          refine WE.then <| WC.region <| mv rfl rfl <| yy (Y0.loadLA 13 ag48 rfl rfl (vecG_size _ _ _)) rfl ?_
          refine WL.litR (e := 48) (r := (Rp.vec .i64 8)) (vs := #[(0, .agg (vecG (Value.int .i64) 8 x2).toArray)]) (cs := (vecG (Value.int .i64) 8 x2) ++ ([])) ([x2] : List (Fin 8 → Int)) guard_none rfl rfl rfl rfl (by decide) (fun _ => by kernel_rfl) ⟨vecG (Value.int .i64) 8 x2, [], rfl, rfl, rfl⟩ (key := 999) rfl (by rw [hL0]; rfl) (fun p2 Gv7 Gv7le p2h => ?_)
          obtain ⟨hsm1, hr⟩ := hr
          refine WL.appendT (r := (Rp.vec .i64 8)) (e := 48) 4003 guard_none rfl Try.underlying28 el48 rfl (by decide) rfl rfl (v3_4h.mono (Mem.le_trans Gm7le Gv7le)) rfl p2h hsm1 (fun p3 p3c p3tk p3h => ?_)
          refine sg rfl rfl <| WL.nil ?_
          refine WE.inBlock ?_
          refine WE.endH ⟨(v3_4 ++ [x2]), p3, p3c, p3tk, Gv7⟩ ⟨(Mem.le_trans Gm7le Gv7le), p3h, hr⟩ (Fr.sub_cons rfl (Fr.sub_cons rfl (Fr.sub_cons rfl (Fr.sub_cons rfl (Fr.sub_cons rfl (Fr.sub_cons rfl (Fr.sub_cons rfl (Fr.sub_cons rfl (Fr.sub_nil _))))))))) ?_
          ·intro w hs
           exact hs.weaken (Lo.sub_cons rfl (Lo.sub_cons rfl (Lo.sub_nil _)))
        ·rintro ⟨v3_5, v3_5p, v3_5c, v3_5tk, Gm6⟩ ⟨Gm6le, v3_5h, hr⟩
         refine WE.then <| WC.region <| yy (Y0.add rfl rfl) rfl <| mv rfl rfl <| WL.nil ?_
         refine WE.backR ⟨v3_5, v3_5p, v3_5c, v3_5tk, IntKind.i64.wrap (v49_1 + 1), Gm6⟩ hr ⟨(Mem.le_trans Gm5le Gm6le), v3_5h⟩ (Fr.sub_cons rfl (Fr.sub_cons rfl (Fr.sub_cons rfl (Fr.sub_cons rfl (Fr.sub_cons rfl (Fr.sub_cons rfl (Fr.sub_cons rfl (Fr.sub_cons rfl (Fr.sub_nil _))))))))) ?_
         ·intro w hs
          exact hs.weaken (Lo.sub_cons rfl (Lo.sub_cons rfl (Lo.sub_nil _)))
       ·replace hr := hr.neg hc2
        refine WC.exit ?_
        refine WE.thenExit ?_
        refine WE.thenExit ?_
        refine WE.exitHere ?_
        refine WE.endH ⟨v3_4, v3_4p, v3_4c, v3_4tk, Gm5⟩ ⟨Gm5le, v3_4h, hr⟩ (Fr.sub_cons rfl (Fr.sub_cons rfl (Fr.sub_cons rfl (Fr.sub_cons rfl (Fr.sub_nil _))))) ?_
        ·intro w hs
         exact hs.weaken (Lo.sub_cons rfl (Lo.sub_nil _))
     ·rintro ⟨v3_3, v3_3p, v3_3c, v3_3tk, Gm4⟩ ⟨Gm4le, v3_3h, hr⟩
      refine WE.scopeN ?_
      refine WE.inBlock ?_
      refine WE.then <| WC.region <| yy (Y0.add rfl rfl) rfl <| mv rfl rfl <| WL.nil ?_
      refine WE.backR ⟨v3_3, v3_3p, v3_3c, v3_3tk, IntKind.i64.wrap (v21_1 + 1), Gm4⟩ hr ⟨(Mem.le_trans (Mem.le_trans (Mem.le_trans (Mem.le_trans (Mem.le_trans Gm2le Gm3le) Gv4le) Gv5le) Gv6le) Gm4le), v3_3h⟩ (Fr.sub_cons rfl (Fr.sub_cons rfl (Fr.sub_cons rfl (Fr.sub_cons rfl (Fr.sub_nil _))))) ?_
      ·intro w hs
       exact hs.weaken (Lo.sub_cons rfl (Lo.sub_nil _))
   ·replace hr := hr.neg hc1
    refine WC.exit ?_
    refine WE.thenExit ?_
    refine WE.thenExit ?_
    refine WE.exitHere ?_
    refine WE.endH ⟨v3_2, v3_2p, v3_2c, v3_2tk, Gm2⟩ ⟨Gm2le, v3_2h, hr⟩ (Fr.sub_cons rfl (Fr.sub_nil _)) ?_
    ·intro w hs
     exact hs.weaken (Lo.sub_cons rfl (Lo.sub_nil _))
 ·rintro ⟨v3_1, v3_1p, v3_1c, v3_1tk, Gm1⟩ ⟨Gm1le, v3_1h, hr⟩
  refine WE.then <| sr <| mv rfl rfl ?_
  obtain ⟨yv2, hyv2, hr⟩ := hr
  refine WL.conseq (fun w hs => hs.rekey (i := 4003) (j := 5000) rfl (by rw [hL0]; rfl)) ?_
  refine WL.callT guard_none rfl (YC.of E70 rfl) (H_sort2 _ _ _ _ _ _ hyv2) rfl (v3_1h) (Lo.sub_cons rfl (Lo.sub_nil _)) hz (fun yv2v Gv2 Lyv2 Gv2le yv2post => ?_)
  obtain ⟨yv2tk0, rfl, rfl, yv2rh0⟩ := yv2post
  refine WL.conseq (fun w hs => hs.rekey (i := 5000) (j := 4003) rfl (by rw [hL0]; rfl)) ?_
  refine nr <| mv rfl rfl <| sg rfl rfl <| nx ?_
  refine WC.ret ?_
  replace hr : _ = r := hr
  subst hr
  refine WE.freezeT (r := (Rp.vec .i64 8)) (e := 48) 4003 yv2rh0 rfl (by rw [hL0]; rfl) (fun tk1 Gv3 Gv3le tk1h tk1ht => ?_)
  exact WE.ret1 rfl rfl ⟨_, _, (SlR.eqv tk1h), (SlR.std tk1h)⟩
theorem L_components_Irreducible (l1 : (List (Fin 8 → Int))) (n1 : Int) (l1p : Option Addr) (l1c : Nat) (r : (List (Fin 8 → Int)) × Int) (hr : (components_Irreducible l1 n1).Ret r) : Ctr Try.prog 14 #[.slice l1p l1.length l1c, .int .i64 n1] (fun G => SlR (Rp.vec .i64 8) G (.slice l1p l1.length l1c) l1) (fun G v => ∃ zr0p zr0c, v = .tuple #[.slice zr0p r.1.length zr0c, .int .i64 r.2] ∧ SlR (Rp.vec .i64 8) G (.slice zr0p r.1.length zr0c) r.1) := by
 refine Ctr.enter (args := [_, _]) (N := 15) Try.func14 rfl rfl rfl (fun w0 G0 hL0 hpre => ?_)
 have l1h := hpre
 refine sr <| sg rfl rfl <| sg rfl rfl <| nx <| WC.seq <| sr ?_
 refine mv rfl rfl <| mv rfl rfl ?_
 obtain ⟨yv1, hyv1, hr⟩ := hr
 refine WL.call0 guard_none rfl (YC.of E42 rfl) (L_components_check _ _ _ _ _ hyv1) rfl (l1h) ?_
 refine sg rfl rfl <| nr <| mv rfl rfl <| yy (Y0.neq rfl rfl) rfl <| nx ?_
 refine WC.condD (p := ¬ yv1 = 0) rfl (fun hc1 => ?_) (fun hc1 => ?_)
 ·replace hr := hr.pos hc1
  refine sr <| mv rfl rfl <| sg rfl rfl <| sg rfl rfl <| nx ?_
  refine WC.ret ?_
  replace hr : _ = r := hr
  refine WE.thenRet ?_
  subst hr
  exact WE.ret2 rfl rfl rfl ⟨_, _, rfl, (SlR.nil (Rp.vec .i64 8) _)⟩
 ·replace hr := hr.neg hc1
  refine WC.skip <| WE.then <| sr <| mv rfl rfl ?_
  obtain ⟨yv2, hyv2, hr⟩ := hr
  refine WL.call guard_none rfl (YC.of E43 rfl) (L_components_irreducible _ _ _ _ hyv2) rfl (l1h) (fun yv2v Gv2 Gv2le yv2post => ?_)
  obtain ⟨yv2p, yv2c, rfl, yv2h⟩ := yv2post
  refine sg rfl rfl <| sg rfl rfl <| nx ?_
  refine WC.ret ?_
  replace hr : _ = r := hr
  subst hr
  exact WE.ret2 rfl rfl rfl ⟨_, _, rfl, yv2h⟩
theorem L_components_parts (l1 : (List (Fin 8 → Int))) (l1p : Option Addr) (l1c : Nat) (r : (List (Int × (List (List (Fin 8 → Int)))))) (hr : (components_parts l1).Ret r) : CtrL Try.prog 49 #[.slice l1p l1.length l1c] [] (fun G => SlR (Rp.vec .i64 8) G (.slice l1p l1.length l1c) l1) (fun G L v => ∃ zb ztk, L = [(7000, ztk)] ∧ v = .map (some zb) ∧ MapR ky5 (RvS (Rp.sl (Rp.sl (Rp.vec .i64 8))) G) (.map (some zb)) r ztk) := by
 refine CtrL.enter (args := [_]) (N := 46) Try.func49 rfl rfl rfl (fun w0 G0 hL0 hpre => ?_)
 have l1h := hpre
 refine sr <| sg rfl rfl <| nr ?_
 refine WL.makeMapT (ky := ky5) (r := (Rp.sl (Rp.vec .i64 8))) (e := 28) 4011 guard_none rfl (fun mb1 mb1tk mb1h => ?_)
 refine sg rfl rfl <| nx <| WC.seq <| sr <| mv rfl rfl ?_
 obtain ⟨yv1, hyv1, hr⟩ := hr
 refine WL.call guard_none rfl (YC.of E43 rfl) (L_components_irreducible _ _ _ _ hyv1) rfl (l1h) (fun yv1v Gv1 Gv1le yv1post => ?_)
 obtain ⟨yv1p, yv1c, rfl, yv1h⟩ := yv1post
 refine yy (Y0.lenR Try.underlying28 yv1h rfl) rfl <| mv rfl rfl <| nx ?_
 refine WC.meetH (fun (gx : (List (Int × (List (List (Fin 8 → Int))))) × Option Ow × Lo × Mem) => match gx with | ⟨mp1, mp1tk, mp1T, Gm1⟩ => [(3, .map (some mb1))]) (fun (gx : (List (Int × (List (List (Fin 8 → Int))))) × Option Ow × Lo × Mem) => match gx with | ⟨mp1, mp1tk, mp1T, Gm1⟩ => Mem.le Gv1 Gm1 ∧ MapR ky5 (RvT (Rp.sl (Rp.vec .i64 8)) 28 mp1T Gm1) (.map (some mb1)) mp1 mp1tk ∧ TokM mp1T mp1 ∧ (components_parts_k1 mp1).Ret r) (fun (gx : (List (Int × (List (List (Fin 8 → Int))))) × Option Ow × Lo × Mem) => match gx with | ⟨mp1, mp1tk, mp1T, Gm1⟩ => St w0 G0 Gm1 ((4011, mp1tk) :: mp1T)) ?_ ?_
 ·refine WC.block ?_
  let Phi1 : (((List (Int × (List (List (Fin 8 → Int))))))) → Prop := fun oo => ((fun ov => match ov with | mp1 => components_parts_k1 mp1 : (((List (Int × (List (List (Fin 8 → Int))))))) → Comp ((List (Int × (List (List (Fin 8 → Int))))))) oo).wp (fun a => a = r)
  replace hr : (Comp.loop _ _).wp Phi1 := hr
  refine WC.loopR (Φ := Phi1) (fun (gx : Int × (List (Int × (List (List (Fin 8 → Int))))) × Option Ow × Lo × Mem) => match gx with | ⟨v15_1, mp2, mp2tk, mp2T, Gm2⟩ => ((v15_1, mp2) : Int × (List (Int × (List (List (Fin 8 → Int))))))) (fun (gx : Int × (List (Int × (List (List (Fin 8 → Int))))) × Option Ow × Lo × Mem) => match gx with | ⟨v15_1, mp2, mp2tk, mp2T, Gm2⟩ => [(13, .slice yv1p yv1.length yv1c), (14, .int .i64 (yv1.length : Int)), (15, .int .i64 v15_1), (3, .map (some mb1))]) (fun (gx : Int × (List (Int × (List (List (Fin 8 → Int))))) × Option Ow × Lo × Mem) => match gx with | ⟨v15_1, mp2, mp2tk, mp2T, Gm2⟩ => Mem.le Gv1 Gm2 ∧ MapR ky5 (RvT (Rp.sl (Rp.vec .i64 8)) 28 mp2T Gm2) (.map (some mb1)) mp2 mp2tk ∧ TokM mp2T mp2) (fun (gx : Int × (List (Int × (List (List (Fin 8 → Int))))) × Option Ow × Lo × Mem) => match gx with | ⟨v15_1, mp2, mp2tk, mp2T, Gm2⟩ => St w0 G0 Gm2 ((4011, mp2tk) :: mp2T)) ⟨0, [], mb1tk, [], Gv1⟩ hr (Fr.sub_cons rfl (Fr.sub_cons rfl (Fr.sub_cons rfl (Fr.sub_cons rfl (Fr.sub_nil _))))) ⟨(Mem.le_refl _), (MapR.monoT mb1h Gv1le), TokM.nil⟩ ?_ ?_
  ·intro w hs
   exact hs.weaken (Lo.sub_cons rfl (Lo.sub_nil _))
  ·intro Aq1 gx hx hr
   obtain ⟨v15_1, mp2, mp2tk, mp2T, Gm2⟩ := gx
   obtain ⟨Gm2le, mp2h, mp2Th⟩ := hx
   refine sr <| yy (Y0.lss rfl rfl) rfl <| nx <| WC.seq ?_
   refine WC.condD (p := v15_1 < (yv1.length : Int)) rfl (fun hc1 => ?_) (fun hc1 => ?_)
   ·replace hr := hr.pos hc1
    refine WC.skip <| WE.then <| WC.seq <| WC.block <| sr ?_
    obtain ⟨x1, hx1, hr⟩ := hr
    refine yy (Y0.idxR Try.underlying28 sz48 (yv1h.mono Gm2le) rfl rfl hx1) rfl <| yy (Y0.loadGA _ ag48 rfl (vecG_size _ _ _) (AtK.vec (At.mono (SlR.at yv1h hx1) Gm2le))) rfl ?_
    refine WL.alloc 5 guard_none z48 rfl (fun b1 => ?_)
    refine WL.storeLA 5 guard_none sz48 rfl rfl rfl (vecG_size _ _ _) (vecG_size _ _ _) (fun u hu => Rp.one (Rp.vec .i64 8) (G := Gm2) (x := x1) (cs := vecG (Value.int .i64) 8 x1) rfl u (by simpa using hu)) ?_
    refine nr <| sg rfl rfl <| nx <| WC.seq <| sr <| yy (Y0.loadLA 5 ag48 rfl rfl (vecG_size _ _ _)) rfl ?_
    refine mv rfl rfl <| nx ?_
    refine WC.meetH (fun (gx : (List (Fin 8 → Int)) × Option Addr × Nat × Option Ow × Mem) => match gx with | ⟨gens1, gens1p, gens1c, gens1tk, Gm3⟩ => [(5, .pointer (some ⟨b1, 0, none⟩)), (6, .slice gens1p gens1.length gens1c), (13, .slice yv1p yv1.length yv1c), (14, .int .i64 (yv1.length : Int)), (15, .int .i64 v15_1), (3, .map (some mb1))]) (fun (gx : (List (Fin 8 → Int)) × Option Addr × Nat × Option Ow × Mem) => match gx with | ⟨gens1, gens1p, gens1c, gens1tk, Gm3⟩ => Mem.le Gm2 Gm3 ∧ SlR (Rp.vec .i64 8) Gm3 (.slice gens1p gens1.length gens1c) gens1 ∧ Tok 8 48 (.slice gens1p gens1.length gens1c) gens1.length gens1tk ∧ (components_parts_k3 v15_1 mp2 x1 gens1).wp (Out Aq1 Phi1)) (fun (gx : (List (Fin 8 → Int)) × Option Addr × Nat × Option Ow × Mem) => match gx with | ⟨gens1, gens1p, gens1c, gens1tk, Gm3⟩ => St w0 G0 Gm3 ((5, some ⟨b1, .cells (vecG (Value.int .i64) 8 x1).toArray 48 (0, 0), 0⟩) :: (1006, gens1tk) :: (4011, mp2tk) :: mp2T)) ?_ ?_
    ·refine WC.block ?_
     let Phi2 : (((List (Fin 8 → Int)))) → Prop := fun oo => ((fun ov => match ov with | gens1 => components_parts_k3 v15_1 mp2 x1 gens1 : (((List (Fin 8 → Int)))) → Comp ((Int × (List (Int × (List (List (Fin 8 → Int)))))) ⊕ (((List (Int × (List (List (Fin 8 → Int))))))))) oo).wp (Out Aq1 Phi1)
     replace hr : (Comp.loop _ _).wp Phi2 := hr
     refine WC.loopR (Φ := Phi2) (fun (gx : (List (Fin 8 → Int)) × Option Addr × Nat × Option Ow × Int × Mem) => match gx with | ⟨gens2, gens2p, gens2c, gens2tk, v20_1, Gm4⟩ => ((gens2, v20_1) : (List (Fin 8 → Int)) × Int)) (fun (gx : (List (Fin 8 → Int)) × Option Addr × Nat × Option Ow × Int × Mem) => match gx with | ⟨gens2, gens2p, gens2c, gens2tk, v20_1, Gm4⟩ => [(5, .pointer (some ⟨b1, 0, none⟩)), (6, .slice gens2p gens2.length gens2c), (13, .slice yv1p yv1.length yv1c), (14, .int .i64 (yv1.length : Int)), (15, .int .i64 v15_1), (19, .agg (vecG (Value.int .i64) 8 x1).toArray), (20, .int .i64 v20_1), (3, .map (some mb1))]) (fun (gx : (List (Fin 8 → Int)) × Option Addr × Nat × Option Ow × Int × Mem) => match gx with | ⟨gens2, gens2p, gens2c, gens2tk, v20_1, Gm4⟩ => Mem.le Gm2 Gm4 ∧ SlR (Rp.vec .i64 8) Gm4 (.slice gens2p gens2.length gens2c) gens2 ∧ Tok 8 48 (.slice gens2p gens2.length gens2c) gens2.length gens2tk) (fun (gx : (List (Fin 8 → Int)) × Option Addr × Nat × Option Ow × Int × Mem) => match gx with | ⟨gens2, gens2p, gens2c, gens2tk, v20_1, Gm4⟩ => St w0 G0 Gm4 ((5, some ⟨b1, .cells (vecG (Value.int .i64) 8 x1).toArray 48 (0, 0), 0⟩) :: (1006, gens2tk) :: (4011, mp2tk) :: mp2T)) ⟨[], none, 0, none, 0, Gm2⟩ hr (Fr.sub_cons rfl (Fr.sub_cons rfl (Fr.sub_cons rfl (Fr.sub_cons rfl (Fr.sub_cons rfl (Fr.sub_cons rfl (Fr.sub_cons rfl (Fr.sub_cons rfl (Fr.sub_nil _))))))))) ⟨(Mem.le_refl _), (SlR.nil _ _), Tok.full⟩ ?_ ?_
     ·intro w hs
      exact hs.weaken (Lo.sub_cons rfl (Lo.sub_no (Lo.sub_cons rfl ((by (try simp only [List.cons_append, List.nil_append]); repeat (first | exact Lo.sub_refl _ | refine Lo.sub_low mp2Th.high (by decide) ?_))))))
     ·intro Aq2 gx hx hr
      obtain ⟨gens2, gens2p, gens2c, gens2tk, v20_1, Gm4⟩ := gx
      obtain ⟨Gm4le, gens2h, gens2ht⟩ := hx
      refine sr <| yy (Y0.lss rfl rfl) rfl <| nx <| WC.seq ?_
      refine WC.condD (p := v20_1 < 8) rfl (fun hc2 => ?_) (fun hc2 => ?_)
      ·replace hr := hr.pos hc2
       refine WC.skip <| WE.then <| WC.seq <| WC.block <| sr <| mv rfl rfl ?_
       obtain ⟨hi1, hr⟩ := hr
       refine yy (Y0.index Try.underlying48 sc3 sz3 rfl rfl hi1 (vecG_at _ _ _ hi1)) rfl <| sg rfl rfl <| sg rfl rfl <| nr <| mv rfl rfl <| yy (Y0.gtr rfl rfl) rfl ?_
       refine nx ?_
       refine WC.condD (p := 0 < (getF x1 v20_1)) rfl (fun hc3 => ?_) (fun hc3 => ?_)
       ·replace hr := hr.pos hc3
        refine sr ?_
        refine WL.alloc 9 guard_none z48 rfl (fun b2 => ?_)
        refine nr <| mv rfl rfl <| mv rfl rfl ?_
        obtain ⟨hi2, hr⟩ := hr
        refine yy (Y0.idxA0 Try.underlying48 sz3 rfl rfl hi2) rfl ?_
        refine WL.storeL 9 (vecG (Value.int .i64) 8 (setF (fun _ => 0) v20_1.toNat (getF x1 v20_1))).toArray guard_none sz3 rfl rfl rfl (by first | (rw [vecG_size]; omega) | (show _ < (vecG _ _ _).toArray.size; rw [vecG_size]; omega)) rfl (vecG_put _ _ _ _ _) ?_
        refine nx <| WC.region <| mv rfl rfl <| yy (Y0.loadLA 9 ag48 rfl rfl (vecG_size _ _ _)) rfl ?_
        refine WL.litR (e := 48) (r := (Rp.vec .i64 8)) (vs := #[(0, .agg (vecG (Value.int .i64) 8 (setF (fun _ => 0) v20_1.toNat (getF x1 v20_1))).toArray)]) (cs := (vecG (Value.int .i64) 8 (setF (fun _ => 0) v20_1.toNat (getF x1 v20_1))) ++ ([])) ([setF (fun _ => 0) v20_1.toNat (getF x1 v20_1)] : List (Fin 8 → Int)) guard_none rfl rfl rfl rfl (by decide) (fun _ => by kernel_rfl) ⟨vecG (Value.int .i64) 8 (setF (fun _ => 0) v20_1.toNat (getF x1 v20_1)), [], rfl, rfl, rfl⟩ (key := 999) (by repeat (first | exact Lo.none_low mp2Th.high (by decide) | rw [Lo.get_cons, if_neg (by decide)])) (by rw [hL0]; rfl) (fun p4 Gv5 Gv5le p4h => ?_)
        obtain ⟨hsm2, hr⟩ := hr
        refine WL.appendR (r := (Rp.vec .i64 8)) 1006 guard_none rfl Try.underlying28 el48 rfl (by decide) rfl rfl (gens2h.mono Gv5le) rfl (by rw [hL0]; rfl) gens2ht p4h hsm2 (fun p5 p5c p5tk Gv6 Gv6le p5h p5ht => ?_)
        refine sg rfl rfl <| WL.nil ?_
        refine WE.inBlock ?_
        refine WE.then <| WC.region <| yy (Y0.add rfl rfl) rfl <| mv rfl rfl <| WL.nil ?_
        refine WE.backR ⟨(gens2 ++ [setF (fun _ => 0) v20_1.toNat (getF x1 v20_1)]), p5, p5c, p5tk, IntKind.i64.wrap (v20_1 + 1), Gv6⟩ hr ⟨(Mem.le_trans (Mem.le_trans Gm4le Gv5le) Gv6le), p5h, p5ht⟩ (Fr.sub_cons rfl (Fr.sub_cons rfl (Fr.sub_cons rfl (Fr.sub_cons rfl (Fr.sub_cons rfl (Fr.sub_cons rfl (Fr.sub_cons rfl (Fr.sub_cons rfl (Fr.sub_nil _))))))))) ?_
        ·intro w hs
         exact hs.weaken (Lo.sub_cons rfl (Lo.sub_cons rfl (Lo.sub_cons rfl ((by (try simp only [List.cons_append, List.nil_append]); repeat (first | exact Lo.sub_refl _ | refine Lo.sub_low mp2Th.high (by decide) ?_))))))
       ·replace hr := hr.neg hc3
        refine WC.skip ?_
        refine WE.inBlock ?_
        refine WE.then <| WC.region <| yy (Y0.add rfl rfl) rfl <| mv rfl rfl <| WL.nil ?_
        refine WE.backR ⟨gens2, gens2p, gens2c, gens2tk, IntKind.i64.wrap (v20_1 + 1), Gm4⟩ hr ⟨Gm4le, gens2h, gens2ht⟩ (Fr.sub_cons rfl (Fr.sub_cons rfl (Fr.sub_cons rfl (Fr.sub_cons rfl (Fr.sub_cons rfl (Fr.sub_cons rfl (Fr.sub_cons rfl (Fr.sub_cons rfl (Fr.sub_nil _))))))))) ?_
        ·intro w hs
         exact hs.weaken (Lo.sub_cons rfl (Lo.sub_cons rfl (Lo.sub_cons rfl ((by (try simp only [List.cons_append, List.nil_append]); repeat (first | exact Lo.sub_refl _ | refine Lo.sub_low mp2Th.high (by decide) ?_))))))
      ·replace hr := hr.neg hc2
       refine WC.exit ?_
       refine WE.thenExit ?_
       refine WE.thenExit ?_
       refine WE.exitHere ?_
       refine WE.endH ⟨gens2, gens2p, gens2c, gens2tk, Gm4⟩ ⟨Gm4le, gens2h, gens2ht, hr⟩ (Fr.sub_cons rfl (Fr.sub_cons rfl (Fr.sub_cons rfl (Fr.sub_cons rfl (Fr.sub_cons rfl (Fr.sub_cons rfl (Fr.sub_nil _))))))) ?_
       ·intro w hs
        exact hs.weaken (Lo.sub_cons rfl (Lo.sub_cons rfl (Lo.sub_cons rfl ((by (try simp only [List.cons_append, List.nil_append]); repeat (first | exact Lo.sub_refl _ | refine Lo.sub_low mp2Th.high (by decide) ?_))))))
    ·rintro ⟨gens1, gens1p, gens1c, gens1tk, Gm3⟩ ⟨Gm3le, gens1h, gens1ht, hr⟩
     refine WE.then <| sr <| yy (Y0.loadLA 5 ag48 rfl rfl (vecG_size _ _ _)) rfl ?_
     obtain ⟨yv2, hyv2, hr⟩ := hr
     refine WL.call0 guard_none rfl (YC.of E65 rfl) (L_monomial_Support _ _ hyv2) rfl (trivial) ?_
     refine sg rfl rfl <| nx <| WC.region <| mv rfl rfl <| mv rfl rfl <| mv rfl rfl ?_
     refine mv rfl rfl ?_
     obtain ⟨hk1, hr⟩ := hr
     refine WL.mapGetT (k := yv2) 4011 guard_none rfl Try.underlying69 zv74 (MapR.monoT mp2h Gm3le) mp2Th rfl rfl rfl hk1 (fun p1 p1c p1h p1t => ?_)
     refine mv rfl rfl ?_
     refine WL.litR (e := 28) (r := (Rp.sl (Rp.vec .i64 8))) (vs := #[(0, .slice gens1p gens1.length gens1c)]) (cs := [.slice gens1p gens1.length gens1c] ++ ([])) ([gens1] : List (List (Fin 8 → Int))) guard_none rfl rfl rfl rfl (by decide) (fun _ => by kernel_rfl) ⟨[.slice gens1p gens1.length gens1c], [], rfl, ⟨_, rfl, gens1h⟩, rfl⟩ (key := 999) (by repeat (first | exact Lo.none_low mp2Th.high (by decide) | rw [Lo.get_cons, if_neg (by decide)])) (by rw [hL0]; rfl) (fun p2 Gv3 Gv3le p2h => ?_)
     obtain ⟨hsm1, hr⟩ := hr
     refine WL.conseq (S' := St w0 G0 Gv3 ((5, some ⟨b1, .cells (vecG (Value.int .i64) 8 x1).toArray 48 (0, 0), 0⟩) :: (1006, gens1tk) :: (4011, mp2tk) :: mp2T)) (fun w hs => hs.weaken (Lo.sub_cons rfl (Lo.sub_cons rfl (Lo.sub_cons rfl ((by (try simp only [List.cons_append, List.nil_append]); repeat (first | exact Lo.sub_refl _ | refine Lo.sub_low mp2Th.high (by decide) ?_))))))) ?_
     refine WL.appendD (r := (Rp.sl (Rp.vec .i64 8))) (A := [(5, some ⟨b1, .cells (vecG (Value.int .i64) 8 x1).toArray 48 (0, 0), 0⟩), (1006, gens1tk), (4011, mp2tk)]) (T := mp2T) (k := yv2) guard_none rfl rfl mp2Th.high Try.underlying74 el28 rfl (by decide) rfl rfl (p1h.mono Gv3le) hL0 p1t p2h hsm1 (fun p3 p3c p3tk Gv4 Gv4le p3h p3ht => ?_)
     obtain ⟨⟨hk2, hk2s⟩, hr⟩ := hr
     refine WL.mapPutT (tk' := p3tk) (k := yv2) (z := (((mget mp2 yv2).getD []) ++ [gens1])) 4011 guard_none Try.underlying69 (MapR.monoT mp2h (Mem.le_trans (Mem.le_trans Gm3le Gv3le) Gv4le)) rfl rfl rfl rfl hk2 p3h p3ht hk2s (fun tk1 tk1h => ?_)
     refine WL.nil ?_
     refine WE.inBlock ?_
     refine WE.then <| WC.region <| yy (Y0.add rfl rfl) rfl <| mv rfl rfl <| WL.nil ?_
     refine WE.backR ⟨IntKind.i64.wrap (v15_1 + 1), (mput mp2 yv2 (((mget mp2 yv2).getD []) ++ [gens1])), tk1, ((kcode yv2, p3tk) :: mp2T), Gv4⟩ hr ⟨(Mem.le_trans (Mem.le_trans (Mem.le_trans Gm2le Gm3le) Gv3le) Gv4le), tk1h, (TokM.put (k := yv2) (tk' := p3tk) (y := (((mget mp2 yv2).getD []) ++ [gens1])) mp2Th)⟩ (Fr.sub_cons rfl (Fr.sub_cons rfl (Fr.sub_cons rfl (Fr.sub_cons rfl (Fr.sub_nil _))))) ?_
     ·intro w hs
      exact hs.weaken (Lo.sub_cons rfl ((by (try simp only [List.cons_append, List.nil_append]); repeat (first | exact Lo.sub_refl _ | refine Lo.sub_low (TokM.put (k := yv2) (tk' := p3tk) (y := (((mget mp2 yv2).getD []) ++ [gens1])) mp2Th).high (by decide) ?_))))
   ·replace hr := hr.neg hc1
    refine WC.exit ?_
    refine WE.thenExit ?_
    refine WE.thenExit ?_
    refine WE.exitHere ?_
    refine WE.endH ⟨mp2, mp2tk, mp2T, Gm2⟩ ⟨Gm2le, mp2h, mp2Th, hr⟩ (Fr.sub_cons rfl (Fr.sub_nil _)) ?_
    ·intro w hs
     exact hs.weaken (Lo.sub_cons rfl ((by (try simp only [List.cons_append, List.nil_append]); repeat (first | exact Lo.sub_refl _ | refine Lo.sub_low mp2Th.high (by decide) ?_))))
 ·rintro ⟨mp1, mp1tk, mp1T, Gm1⟩ ⟨Gm1le, mp1h, mp1Th, hr⟩
  refine WE.then <| sr <| mv rfl rfl <| sg rfl rfl <| nx ?_
  refine WC.ret ?_
  replace hr : _ = r := hr
  subst hr
  refine WE.conseq (S' := St w0 G0 Gm1 [(7000, mp1tk)]) ?_ ?_
  ·intro w hs
   have hs := hs.rekey (i := 4011) (j := 7000) rfl (by rw [hL0]; rfl)
   exact hs.weaken (Lo.sub_cons rfl (Lo.sub_nil _))
  exact WE.ret1 rfl rfl ⟨_, _, rfl, rfl, (MapR.drop mp1h)⟩
theorem collect89 : CollectsL Try.prog 89 #[] 91 ky5 (Rp.int .u8) 5 :=
 collect (collects_of (fun hN hi hG => appS (ok := ky5.ok) (enc := fun x => (Value.int .u8) x) Try.func105 rfl rfl rfl sc33 sz33 Try.underlying33 el5 rfl (by decide) (fun _ _ => rfl) (fun _ _ => by kernel_rfl) E91 hN hi hG) (fun h1 h2 h3 h4 => keysS (ok := ky5.ok) (enc := fun x => (Value.int .u8) x) Try.func91 rfl rfl rfl sc69 Try.underlying69 h1 h2 h3 h4)) E105 Try.func89 rfl rfl rfl
theorem L_slices_Sort_uint8_uint8 (x1 : (List Int)) (x1p : Option Addr) (x1c : Nat) (x1n : Nat) (x1tk : Option Ow) (r : (List Int)) (hr : (slices_Sort_uint8_uint8 x1).Ret r) : CtrL Try.prog 90 #[.slice x1p x1n x1c] [(5000, x1tk)] (fun G => RowR (Rp.int .u8) 5 G (.slice x1p x1n x1c) x1 x1tk) (fun G L v => ∃ zk0, L = [(5000, zk0)] ∧ v = .tuple #[] ∧ RowR (Rp.int .u8) 5 G (.slice x1p x1n x1c) r zk0) := by
 refine CtrL.enter (args := [_]) (N := 11) Try.func90 rfl rfl rfl (fun w0 G0 hL0 hpre => ?_)
 have x1h := hpre
 have hz : w0.L.zero := by
  rw [hL0]; intro p hp x hx
  simp only [List.mem_cons, List.not_mem_nil, or_false] at hp
  subst hp; exact RowR.zero x1h hx
 refine sr <| mv rfl rfl <| yy (Y0.lenRow Try.underlying33 x1h rfl) rfl <| sg rfl rfl <| nx <| WC.region ?_
 refine mv rfl rfl <| mv rfl rfl <| mv rfl rfl <| yy (Y0.conv Try.underlying3 Try.underlying100 rfl) rfl ?_
 obtain ⟨yv1, hyv1, hr⟩ := hr
 refine WL.call0 guard_none rfl (YC.of E88 rfl) (L_math_bits_Len _ _ hyv1) rfl (trivial) ?_
 obtain ⟨yv2, hyv2, hr⟩ := hr
 refine WL.callT guard_none rfl (YC.of E106 rfl) (L_slices_pdqsortOrdered_uint8_2 _ _ _ _ _ _ _ _ _ hyv2) rfl (x1h) (Lo.sub_cons rfl (Lo.sub_nil _)) hz (fun yv2v Gv2 Lyv2 Gv2le yv2post => ?_)
 obtain ⟨yv2tk0, rfl, rfl, yv2rh0⟩ := yv2post
 refine WL.nil ?_
 refine WE.retN ?_
 replace hr : _ = r := hr
 subst hr
 refine WE.conseq (S' := St w0 G0 Gv2 [(5000, yv2tk0)]) ?_ ?_
 ·intro w hs
  exact hs.weaken (Lo.sub_cons rfl (Lo.sub_nil _))
 exact WE.ret0 rfl  ⟨_, rfl, rfl, yv2rh0⟩
theorem sorted74 : SortedL Try.prog 74 91 ky5 (Rp.int .u8) 5 slices_Sort_uint8_uint8 :=
 sorted collect89 (fun xs p c tk y h => L_slices_Sort_uint8_uint8 xs p c xs.length tk y h) E89 E90 Try.func74 rfl rfl rfl
theorem L_components_primes (byv1 : (List (Int × (List (List (Fin 8 → Int)))))) (byv1b : Nat) (byv1tk : Option Ow) (r : (List Int)) (hr : (components_primes byv1).Ret r) : CtrL Try.prog 48 #[.map (some byv1b)] [(5500, byv1tk)] (fun G => MapR ky5 (RvS (Rp.sl (Rp.sl (Rp.vec .i64 8))) G) (.map (some byv1b)) byv1 byv1tk) (fun G L v => L = [(5500, byv1tk)] ∧ (∃ zp zc, v = .slice zp r.length zc ∧ SlR (Rp.int .u8) G (.slice zp r.length zc) r)) := by
 refine CtrL.enter (args := [_]) (N := 6) Try.func48 rfl rfl rfl (fun w0 G0 hL0 hpre => ?_)
 have byv1h := hpre
 have hz : w0.L.zero := by
  rw [hL0]; intro p hp x hx
  simp only [List.mem_cons, List.not_mem_nil, or_false] at hp
  subst hp; exact MapR.zero byv1h hx
 refine sr <| sg rfl rfl <| nr <| mv rfl rfl ?_
 refine WL.call guard_none rfl (YC.of E75 rfl) (keysBox Try.func75 rfl rfl rfl (some byv1b)) rfl trivial (fun kf1v Gv1 Gv1le kf1post => ?_)
 obtain ⟨kf1, rfl, kf1h⟩ := kf1post
 refine WL.callT guard_none rfl (YC.of E74 rfl) (sorted74 _ _ _ _ _ 5500 _ (by decide) (MapR.mono byv1h Gv1le) hr) rfl kf1h (Lo.sub_cons rfl (Lo.sub_nil _)) hz (fun ks1v Gv2 Lks1 Gv2le ks1post => ?_)
 clear hr
 obtain ⟨ks1, ks1p, ks1c, ks1tk, rfl, rfl, ks1h, hr⟩ := ks1post
 refine WL.conseq (fun w hs => hs.rekey (i := 7000) (j := 4005) rfl (by rw [hL0]; rfl)) ?_
 refine WL.freezeT (r := (Rp.int .u8)) (e := 5) 4005 ks1h rfl (by rw [hL0]; rfl) (fun tk1 Gv3 Gv3le tk1h tk1ht => ?_)
 refine sg rfl rfl <| nx ?_
 refine WC.ret ?_
 replace hr : _ = r := hr
 subst hr
 refine WE.conseq (S' := St w0 G0 Gv3 [(5500, byv1tk)]) ?_ ?_
 ·intro w hs
  exact hs.weaken (Lo.sub_cons rfl (Lo.sub_nil _))
 exact WE.ret1 rfl rfl ⟨rfl, ⟨_, _, (SlR.eqv tk1h), (SlR.std tk1h)⟩⟩
theorem L_components_Primes (l1 : (List (Fin 8 → Int))) (n1 : Int) (l1p : Option Addr) (l1c : Nat) (r : (List Int) × Int) (hr : (components_Primes l1 n1).Ret r) : Ctr Try.prog 16 #[.slice l1p l1.length l1c, .int .i64 n1] (fun G => SlR (Rp.vec .i64 8) G (.slice l1p l1.length l1c) l1) (fun G v => ∃ zr0p zr0c, v = .tuple #[.slice zr0p r.1.length zr0c, .int .i64 r.2] ∧ SlR (Rp.int .u8) G (.slice zr0p r.1.length zr0c) r.1) := by
 refine Ctr.enter (args := [_, _]) (N := 16) Try.func16 rfl rfl rfl (fun w0 G0 hL0 hpre => ?_)
 have l1h := hpre
 have hz : w0.L.zero := by rw [hL0]; intro p hp; simp at hp
 refine sr <| sg rfl rfl <| sg rfl rfl <| nx <| WC.seq <| sr ?_
 refine mv rfl rfl <| mv rfl rfl ?_
 obtain ⟨yv1, hyv1, hr⟩ := hr
 refine WL.call0 guard_none rfl (YC.of E42 rfl) (L_components_check _ _ _ _ _ hyv1) rfl (l1h) ?_
 refine sg rfl rfl <| nr <| mv rfl rfl <| yy (Y0.neq rfl rfl) rfl <| nx ?_
 refine WC.condD (p := ¬ yv1 = 0) rfl (fun hc1 => ?_) (fun hc1 => ?_)
 ·replace hr := hr.pos hc1
  refine sr <| mv rfl rfl <| sg rfl rfl <| sg rfl rfl <| nx ?_
  refine WC.ret ?_
  replace hr : _ = r := hr
  refine WE.thenRet ?_
  subst hr
  exact WE.ret2 rfl rfl rfl ⟨_, _, rfl, (SlR.nil (Rp.int .u8) _)⟩
 ·replace hr := hr.neg hc1
  refine WC.skip <| WE.then <| sr <| mv rfl rfl ?_
  obtain ⟨yv2, hyv2, hr⟩ := hr
  refine WL.callT guard_none rfl (YC.of E49 rfl) (L_components_parts _ _ _ _ hyv2) rfl (l1h) (Lo.sub_nil _) hz (fun yv2v Gv2 Lyv2 Gv2le yv2post => ?_)
  obtain ⟨yv2b, yv2tk, rfl, rfl, yv2h⟩ := yv2post
  refine WL.conseq (fun w hs => hs.rekey (i := 7000) (j := 4014) rfl (by rw [hL0]; rfl)) ?_
  obtain ⟨yv3, hyv3, hr⟩ := hr
  refine WL.conseq (fun w hs => hs.rekey (i := 4014) (j := 5500) rfl (by rw [hL0]; rfl)) ?_
  refine WL.callRO guard_none rfl (YC.of E48 rfl) (L_components_primes _ _ _ _ hyv3) rfl (yv2h) (Lo.sub_cons rfl (Lo.sub_nil _)) (fun i hi => by simp only [List.map_cons, List.map_nil, List.mem_cons, List.not_mem_nil, or_false] at hi; subst hi; exact rfl) hz (fun yv3v Gv3 Gv3le yv3post => ?_)
  obtain ⟨yv3p, yv3c, rfl, yv3h⟩ := yv3post
  refine WL.conseq (fun w hs => hs.rekey (i := 5500) (j := 4014) rfl (by rw [hL0]; rfl)) ?_
  refine sg rfl rfl <| sg rfl rfl <| nx ?_
  refine WC.ret ?_
  replace hr : _ = r := hr
  subst hr
  exact WE.ret2 rfl rfl rfl ⟨_, _, rfl, yv3h⟩
theorem L_components_Embedded_c1 (q1 : Int) (cap1 : Int) (b1 : Nat) (r : Bool) (hr : (components_Embedded_c1 q1 cap1).Ret r) : CtrL Try.prog 51 #[.int .u8 q1, .pointer (some ⟨b1, 0, none⟩)] [(103610, some ⟨b1, .cells ([.int .u8 cap1]).toArray 5 (0, 0), 0⟩)] (fun G => True) (fun G L v => L = [(103610, some ⟨b1, .cells ([.int .u8 cap1]).toArray 5 (0, 0), 0⟩)] ∧ v = .bool r) := by
 refine CtrL.enter (args := [_, _]) (N := 13) Try.func51 rfl rfl rfl (fun w0 G0 hL0 hpre => ?_)
 refine sr <| sg rfl rfl <| nr <| mv rfl rfl <| yy (Y0.loadL 103610 sc5 rfl rfl rfl) rfl ?_
 refine WL.caseY0 (p := ¬ q1 = cap1) guard_none (Y0.neq rfl rfl) rfl (fun hb1 => ?_) (fun hb1 => ?_)
 ·replace hr := hr.pos hb1
  refine mv rfl rfl ?_
  refine WL.y0' (guard_yes rfl rfl) (Y0.move rfl) rfl ?_
  refine WL.y0' (guard_yes rfl rfl) (Y0.loadL 103610 sc5 rfl rfl rfl) rfl ?_
  refine WL.y0' (guard_yes rfl rfl) (Y0.andNot rfl rfl) rfl ?_
  refine WL.y0' (guard_yes rfl rfl) (Y0.eql rfl rfl) rfl ?_
  refine yy (Y0.pickT rfl rfl) rfl <| sg rfl rfl <| nx ?_
  refine WC.ret ?_
  replace hr : _ = r := hr
  subst hr
  refine WE.conseq (S' := St w0 G0 G0 [(103610, some ⟨b1, .cells ([.int .u8 cap1]).toArray 5 (0, 0), 0⟩)]) ?_ ?_
  ·intro w hs
   exact hs.weaken (Lo.sub_cons rfl (Lo.sub_nil _))
  exact WE.ret1 rfl rfl ⟨rfl, rfl⟩
 ·replace hr := hr.neg hb1
  refine mv rfl rfl <| sk rfl rfl rfl <| sk rfl rfl rfl <| sk rfl rfl rfl <| sk rfl rfl rfl <| yy (Y0.pickF rfl rfl) rfl ?_
  refine sg rfl rfl <| nx ?_
  refine WC.ret ?_
  replace hr : _ = r := hr
  subst hr
  refine WE.conseq (S' := St w0 G0 G0 [(103610, some ⟨b1, .cells ([.int .u8 cap1]).toArray 5 (0, 0), 0⟩)]) ?_ ?_
  ·intro w hs
   exact hs.weaken (Lo.sub_cons rfl (Lo.sub_nil _))
  exact WE.ret1 rfl rfl ⟨rfl, rfl⟩
end Go.Proofs.Ytbdknlblnfnkkaa
