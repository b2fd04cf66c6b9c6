/- The code does what the models say. The conditions stand in each statement. -/
import Derived.Test.YtbdknlblnfnkkaaLa
namespace Go.Proofs.Ytbdknlblnfnkkaa
open Go Go.EL Go.RowKit Go.Proofs
theorem L_slices_IndexFunc_uint8_uint8_components_Embedded_c1 (s1 : (List Int)) (cap1 : Int) (s1p : Option Addr) (s1c : Nat) (b1 : Nat) (r : Int) (hr : (slices_IndexFunc_uint8_uint8_components_Embedded_c1 s1 cap1).Ret r) : CtrL Try.prog 76 #[.slice s1p s1.length s1c, .func (.func 51) #[] #[.pointer (some ⟨b1, 0, none⟩)]] [(103610, some ⟨b1, .cells ([.int .u8 cap1]).toArray 5 (0, 0), 0⟩)] (fun G => SlR (Rp.int .u8) G (.slice s1p s1.length s1c) s1) (fun G L v => L = [(103610, some ⟨b1, .cells ([.int .u8 cap1]).toArray 5 (0, 0), 0⟩)] ∧ v = .int .i64 r) := by
 refine CtrL.enter (args := [_, _]) (N := 19) Try.func76 rfl rfl rfl (fun w0 G0 hL0 hpre => ?_)
 have s1h := hpre
 have hz : w0.L.zero := by
  rw [hL0]; intro p hp x hx
  simp only [List.mem_cons, List.not_mem_nil, or_false] at hp
  subst hp; cases hx; rfl
 refine sr <| sg rfl rfl <| nx <| WC.seq <| sr <| mv rfl rfl ?_
 refine yy (Y0.lenR Try.underlying33 s1h rfl) rfl <| mv rfl rfl <| nx ?_
 refine WC.meetH (fun (gx : Mem) => match gx with | Gm1 => []) (fun (gx : Mem) => match gx with | Gm1 => Mem.le G0 Gm1 ∧ (slices_IndexFunc_uint8_uint8_components_Embedded_c1_k1).Ret r) (fun (gx : Mem) => match gx with | Gm1 => St w0 G0 Gm1 [(103610, some ⟨b1, .cells ([.int .u8 cap1]).toArray 5 (0, 0), 0⟩)]) ?_ ?_
 ·refine WC.block ?_
  let Phi1 : (Int ⊕ Unit) → Prop := fun oo => ((fun ov => match ov with | .inl rv1 => Comp.ret rv1 | .inr () => slices_IndexFunc_uint8_uint8_components_Embedded_c1_k1 : (Int ⊕ Unit) → Comp Int) oo).wp (fun a => a = r)
  replace hr : (Comp.loop _ _).wp Phi1 := hr
  refine WC.loopR (Φ := Phi1) (fun (gx : Int × Mem) => match gx with | ⟨v8_1, Gm2⟩ => (v8_1 : Int)) (fun (gx : Int × Mem) => match gx with | ⟨v8_1, Gm2⟩ => [(0, .slice s1p s1.length s1c), (1, .func (.func 51) #[] #[.pointer (some ⟨b1, 0, none⟩)]), (7, .int .i64 (s1.length : Int)), (8, .int .i64 v8_1)]) (fun (gx : Int × Mem) => match gx with | ⟨v8_1, Gm2⟩ => Mem.le G0 Gm2) (fun (gx : Int × Mem) => match gx with | ⟨v8_1, Gm2⟩ => St w0 G0 Gm2 [(103610, some ⟨b1, .cells ([.int .u8 cap1]).toArray 5 (0, 0), 0⟩)]) ⟨0, G0⟩ hr (Fr.sub_cons rfl (Fr.sub_cons rfl (Fr.sub_cons rfl (Fr.sub_cons rfl (Fr.sub_nil _))))) (Mem.le_refl _) ?_ ?_
  ·intro w hs
   exact hs.weaken (Lo.sub_cons rfl (Lo.sub_nil _))
  ·intro Aq1 gx hx hr
   obtain ⟨v8_1, Gm2⟩ := gx
   have Gm2le := hx
   refine sr <| yy (Y0.lss rfl rfl) rfl <| nx <| WC.seq ?_
   refine WC.condD (p := v8_1 < (s1.length : Int)) rfl (fun hc1 => ?_) (fun hc1 => ?_)
   ·replace hr := hr.pos hc1
    refine WC.skip <| WE.then <| WC.seq <| WC.block <| sr <| mv rfl rfl ?_
    refine sg rfl rfl <| nr <| mv rfl rfl <| mv rfl rfl <| mv rfl rfl ?_
    obtain ⟨x1, hx1, hr⟩ := hr
    refine yy (Y0.idxR Try.underlying33 sz5 (s1h.mono Gm2le) rfl rfl hx1) rfl <| yy (Y0.loadG sc5 rfl (AtK.int (At.mono (SlR.at s1h hx1) Gm2le))) rfl ?_
    obtain ⟨yv1, hyv1, hr⟩ := hr
    refine WL.callRO guard_none rfl (YC.ofV E51 rfl rfl) (L_components_Embedded_c1 _ _ _ _ hyv1) rfl (trivial) (Lo.sub_cons rfl (Lo.sub_nil _)) (fun i hi => by simp only [List.map_cons, List.map_nil, List.mem_cons, List.not_mem_nil, or_false] at hi; subst hi; exact rfl) hz (fun yv1v Gv1 Gv1le yv1post => ?_)
    subst yv1post
    refine nx ?_
    refine WC.cond (b := yv1) rfl (fun hc2 => ?_) (fun hc2 => ?_)
    ·replace hr := hr.pos hc2
     refine sr <| mv rfl rfl <| sg rfl rfl <| nx ?_
     refine WC.ret ?_
     replace hr : _ = r := hr
     refine WE.inBlockRet ?_
     refine WE.thenRet ?_
     refine WE.thenRet ?_
     refine WE.inBlockRet ?_
     refine WE.endRet ?_
     refine WE.thenRet ?_
     subst hr
     refine WE.conseq (S' := St w0 G0 Gv1 [(103610, some ⟨b1, .cells ([.int .u8 cap1]).toArray 5 (0, 0), 0⟩)]) ?_ ?_
     ·intro w hs
      exact hs.weaken (Lo.sub_cons rfl (Lo.sub_nil _))
     exact WE.ret1 rfl rfl ⟨rfl, rfl⟩
    ·replace hr := hr.neg (Bool.eq_false_iff.1 hc2)
     refine WC.skip ?_
     refine WE.inBlock ?_
     refine WE.then <| WC.region <| yy (Y0.add rfl rfl) rfl <| mv rfl rfl <| WL.nil ?_
     refine WE.backR ⟨IntKind.i64.wrap (v8_1 + 1), Gv1⟩ hr (Mem.le_trans Gm2le Gv1le) (Fr.sub_cons rfl (Fr.sub_cons rfl (Fr.sub_cons rfl (Fr.sub_cons rfl (Fr.sub_nil _))))) ?_
     ·intro w hs
      exact hs.weaken (Lo.sub_cons rfl (Lo.sub_nil _))
   ·replace hr := hr.neg hc1
    refine WC.exit ?_
    refine WE.thenExit ?_
    refine WE.thenExit ?_
    refine WE.exitHere ?_
    refine WE.endH Gm2 ⟨Gm2le, hr⟩ (Fr.sub_nil _) ?_
    ·intro w hs
     exact hs.weaken (Lo.sub_cons rfl (Lo.sub_nil _))
 ·rintro Gm1 ⟨Gm1le, hr⟩
  refine WE.then <| sr <| sg rfl rfl <| nx ?_
  refine WC.ret ?_
  replace hr : _ = r := hr
  subst hr
  refine WE.conseq (S' := St w0 G0 Gm1 [(103610, some ⟨b1, .cells ([.int .u8 cap1]).toArray 5 (0, 0), 0⟩)]) ?_ ?_
  ·intro w hs
   exact hs.weaken (Lo.sub_cons rfl (Lo.sub_nil _))
  exact WE.ret1 rfl rfl ⟨rfl, rfl⟩
theorem L_slices_ContainsFunc_uint8_uint8_components_Embedded_c1 (s1 : (List Int)) (cap1 : Int) (s1p : Option Addr) (s1c : Nat) (b1 : Nat) (r : Bool) (hr : (slices_ContainsFunc_uint8_uint8_components_Embedded_c1 s1 cap1).Ret r) : CtrL Try.prog 50 #[.slice s1p s1.length s1c, .func (.func 51) #[] #[.pointer (some ⟨b1, 0, none⟩)]] [(103610, some ⟨b1, .cells ([.int .u8 cap1]).toArray 5 (0, 0), 0⟩)] (fun G => SlR (Rp.int .u8) G (.slice s1p s1.length s1c) s1) (fun G L v => L = [(103610, some ⟨b1, .cells ([.int .u8 cap1]).toArray 5 (0, 0), 0⟩)] ∧ v = .bool r) := by
 refine CtrL.enter (args := [_, _]) (N := 9) Try.func50 rfl rfl rfl (fun w0 G0 hL0 hpre => ?_)
 have s1h := hpre
 have hz : w0.L.zero := by
  rw [hL0]; intro p hp x hx
  simp only [List.mem_cons, List.not_mem_nil, or_false] at hp
  subst hp; cases hx; rfl
 refine sr <| sg rfl rfl <| nr <| mv rfl rfl <| mv rfl rfl ?_
 obtain ⟨yv1, hyv1, hr⟩ := hr
 refine WL.callRO guard_none rfl (YC.of E76 rfl) (L_slices_IndexFunc_uint8_uint8_components_Embedded_c1 _ _ _ _ _ _ hyv1) rfl (s1h) (Lo.sub_cons rfl (Lo.sub_nil _)) (fun i hi => by simp only [List.map_cons, List.map_nil, List.mem_cons, List.not_mem_nil, or_false] at hi; subst hi; exact rfl) hz (fun yv1v Gv1 Gv1le yv1post => ?_)
 subst yv1post
 refine yy (Y0.geq rfl rfl) rfl <| sg rfl rfl <| nx ?_
 refine WC.ret ?_
 replace hr : _ = r := hr
 subst hr
 refine WE.conseq (S' := St w0 G0 Gv1 [(103610, some ⟨b1, .cells ([.int .u8 cap1]).toArray 5 (0, 0), 0⟩)]) ?_ ?_
 ·intro w hs
  exact hs.weaken (Lo.sub_cons rfl (Lo.sub_nil _))
 exact WE.ret1 rfl rfl ⟨rfl, rfl⟩
theorem L_components_Embedded (l1 : (List (Fin 8 → Int))) (n1 : Int) (l1p : Option Addr) (l1c : Nat) (r : (List Int) × Int) (hr : (components_Embedded l1 n1).Ret r) : Ctr Try.prog 18 #[.slice l1p l1.length l1c, .int .i64 n1] (fun G => SlR (Rp.vec .i64 8) G (.slice l1p l1.length l1c) l1) (fun G v => ∃ zr0p zr0c, v = .tuple #[.slice zr0p r.1.length zr0c, .int .i64 r.2] ∧ SlR (Rp.int .u8) G (.slice zr0p r.1.length zr0c) r.1) := by
 refine Ctr.enter (args := [_, _]) (N := 35) Try.func18 rfl rfl rfl (fun w0 G0 hL0 hpre => ?_)
 have l1h := hpre
 have hz : w0.L.zero := by rw [hL0]; intro p hp; simp at hp
 refine sr <| sg rfl rfl <| sg rfl rfl <| nx <| WC.seq <| sr ?_
 refine mv rfl rfl <| mv rfl rfl ?_
 obtain ⟨yv1, hyv1, hr⟩ := hr
 refine WL.call0 guard_none rfl (YC.of E42 rfl) (L_components_check _ _ _ _ _ hyv1) rfl (l1h) ?_
 refine sg rfl rfl <| nr <| mv rfl rfl <| yy (Y0.neq rfl rfl) rfl <| nx ?_
 refine WC.condD (p := ¬ yv1 = 0) rfl (fun hc1 => ?_) (fun hc1 => ?_)
 ·replace hr := hr.pos hc1
  refine sr <| mv rfl rfl <| sg rfl rfl <| sg rfl rfl <| nx ?_
  refine WC.ret ?_
  replace hr : _ = r := hr
  refine WE.thenRet ?_
  subst hr
  exact WE.ret2 rfl rfl rfl ⟨_, _, rfl, (SlR.nil (Rp.int .u8) _)⟩
 ·replace hr := hr.neg hc1
  refine WC.skip <| WE.then <| sr <| mv rfl rfl ?_
  obtain ⟨yv2, hyv2, hr⟩ := hr
  refine WL.callT guard_none rfl (YC.of E49 rfl) (L_components_parts _ _ _ _ hyv2) rfl (l1h) (Lo.sub_nil _) hz (fun yv2v Gv2 Lyv2 Gv2le yv2post => ?_)
  obtain ⟨yv2b, yv2tk, rfl, rfl, yv2h⟩ := yv2post
  refine WL.conseq (fun w hs => hs.rekey (i := 7000) (j := 4018) rfl (by rw [hL0]; rfl)) ?_
  obtain ⟨yv3, hyv3, hr⟩ := hr
  refine WL.conseq (fun w hs => hs.rekey (i := 4018) (j := 5500) rfl (by rw [hL0]; rfl)) ?_
  refine WL.callRO guard_none rfl (YC.of E48 rfl) (L_components_primes _ _ _ _ hyv3) rfl (yv2h) (Lo.sub_cons rfl (Lo.sub_nil _)) (fun i hi => by simp only [List.map_cons, List.map_nil, List.mem_cons, List.not_mem_nil, or_false] at hi; subst hi; exact rfl) hz (fun yv3v Gv3 Gv3le yv3post => ?_)
  obtain ⟨yv3p, yv3c, rfl, yv3h⟩ := yv3post
  refine WL.conseq (fun w hs => hs.rekey (i := 5500) (j := 4018) rfl (by rw [hL0]; rfl)) ?_
  refine sg rfl rfl <| nr <| sg rfl rfl <| nx <| WC.seq <| sr ?_
  refine mv rfl rfl <| yy (Y0.lenR Try.underlying33 yv3h rfl) rfl <| mv rfl rfl <| nx ?_
  refine WC.meetH (fun (gx : (List Int) × Option Addr × Nat × Option Ow × Mem) => match gx with | ⟨result1, result1p, result1c, result1tk, Gm1⟩ => [(8, .slice result1p result1.length result1c)]) (fun (gx : (List Int) × Option Addr × Nat × Option Ow × Mem) => match gx with | ⟨result1, result1p, result1c, result1tk, Gm1⟩ => Mem.le Gv3 Gm1 ∧ SlR (Rp.int .u8) Gm1 (.slice result1p result1.length result1c) result1 ∧ Tok 1 5 (.slice result1p result1.length result1c) result1.length result1tk ∧ (components_Embedded_k1 result1).Ret r) (fun (gx : (List Int) × Option Addr × Nat × Option Ow × Mem) => match gx with | ⟨result1, result1p, result1c, result1tk, Gm1⟩ => St w0 G0 Gm1 [(1008, result1tk)]) ?_ ?_
  ·refine WC.block ?_
   let Phi1 : (List Int) → Prop := fun oo => ((fun ov => match ov with | result1 => components_Embedded_k1 result1 : (List Int) → Comp ((List Int) × Int)) oo).wp (fun a => a = r)
   replace hr : (Comp.loop _ _).wp Phi1 := hr
   refine WC.loopR (Φ := Phi1) (fun (gx : (List Int) × Option Addr × Nat × Option Ow × Int × Mem) => match gx with | ⟨result2, result2p, result2c, result2tk, v22_1, Gm2⟩ => ((result2, v22_1) : (List Int) × Int)) (fun (gx : (List Int) × Option Addr × Nat × Option Ow × Int × Mem) => match gx with | ⟨result2, result2p, result2c, result2tk, v22_1, Gm2⟩ => [(7, .slice yv3p yv3.length yv3c), (8, .slice result2p result2.length result2c), (20, .slice yv3p yv3.length yv3c), (21, .int .i64 (yv3.length : Int)), (22, .int .i64 v22_1)]) (fun (gx : (List Int) × Option Addr × Nat × Option Ow × Int × Mem) => match gx with | ⟨result2, result2p, result2c, result2tk, v22_1, Gm2⟩ => Mem.le Gv3 Gm2 ∧ SlR (Rp.int .u8) Gm2 (.slice result2p result2.length result2c) result2 ∧ Tok 1 5 (.slice result2p result2.length result2c) result2.length result2tk) (fun (gx : (List Int) × Option Addr × Nat × Option Ow × Int × Mem) => match gx with | ⟨result2, result2p, result2c, result2tk, v22_1, Gm2⟩ => St w0 G0 Gm2 [(1008, result2tk)]) ⟨[], none, 0, none, 0, Gv3⟩ hr (Fr.sub_cons rfl (Fr.sub_cons rfl (Fr.sub_cons rfl (Fr.sub_cons rfl (Fr.sub_cons rfl (Fr.sub_nil _)))))) ⟨(Mem.le_refl _), (SlR.nil _ _), Tok.full⟩ ?_ ?_
   ·intro w hs
    exact hs.weaken (Lo.sub_no (Lo.sub_nil _))
   ·intro Aq1 gx hx hr
    obtain ⟨result2, result2p, result2c, result2tk, v22_1, Gm2⟩ := gx
    obtain ⟨Gm2le, result2h, result2ht⟩ := hx
    refine sr <| yy (Y0.lss rfl rfl) rfl <| nx <| WC.seq ?_
    refine WC.condD (p := v22_1 < (yv3.length : Int)) rfl (fun hc2 => ?_) (fun hc2 => ?_)
    ·replace hr := hr.pos hc2
     refine WC.skip <| WE.then <| WC.seq <| WC.block <| sr ?_
     obtain ⟨x1, hx1, hr⟩ := hr
     refine yy (Y0.idxR Try.underlying33 sz5 (yv3h.mono Gm2le) rfl rfl hx1) rfl <| yy (Y0.loadG sc5 rfl (AtK.int (At.mono (SlR.at yv3h hx1) Gm2le))) rfl ?_
     refine WL.alloc 103610 guard_none z5 rfl (fun b1 => ?_)
     refine WL.storeL 103610 ([.int .u8 x1]).toArray guard_none sz5 rfl rfl rfl (by first | decide | simp) rfl rfl ?_
     refine nr <| mv rfl rfl <| yy (Y0.makeFunc rfl rfl) rfl ?_
     obtain ⟨yv4, hyv4, hr⟩ := hr
     refine WL.callRO guard_none rfl (YC.of E50 rfl) (L_slices_ContainsFunc_uint8_uint8_components_Embedded_c1 _ _ _ _ _ _ hyv4) rfl ((yv3h.mono Gm2le)) (Lo.sub_cons rfl (Lo.sub_nil _)) (fun i hi => by simp only [List.map_cons, List.map_nil, List.mem_cons, List.not_mem_nil, or_false] at hi; subst hi; exact rfl) hz (fun yv4v Gv4 Gv4le yv4post => ?_)
     subst yv4post
     refine nx ?_
     refine WC.cond (b := yv4) rfl (fun hc3 => ?_) (fun hc3 => ?_)
     ·replace hr := hr.pos hc3
      refine WC.region <| mv rfl rfl <| yy (Y0.loadL 103610 sc5 rfl rfl rfl) rfl ?_
      refine WL.litR (e := 5) (r := (Rp.int .u8)) (vs := #[(0, .int .u8 x1)]) (cs := [.int .u8 x1] ++ ([])) ([x1] : List Int) guard_none rfl rfl rfl rfl (by decide) (fun _ => by kernel_rfl) ⟨[.int .u8 x1], [], rfl, rfl, rfl⟩ (key := 999) rfl (by rw [hL0]; rfl) (fun p1 Gv5 Gv5le p1h => ?_)
      obtain ⟨hsm1, hr⟩ := hr
      refine WL.appendR (r := (Rp.int .u8)) 1008 guard_none rfl Try.underlying33 el5 rfl (by decide) rfl rfl (result2h.mono (Mem.le_trans Gv4le Gv5le)) rfl (by rw [hL0]; rfl) result2ht p1h hsm1 (fun p2 p2c p2tk Gv6 Gv6le p2h p2ht => ?_)
      refine sg rfl rfl <| WL.nil ?_
      refine WE.inBlock ?_
      refine WE.then <| WC.region <| yy (Y0.add rfl rfl) rfl <| mv rfl rfl <| WL.nil ?_
      refine WE.backR ⟨(result2 ++ [x1]), p2, p2c, p2tk, IntKind.i64.wrap (v22_1 + 1), Gv6⟩ hr ⟨(Mem.le_trans (Mem.le_trans (Mem.le_trans Gm2le Gv4le) Gv5le) Gv6le), p2h, p2ht⟩ (Fr.sub_cons rfl (Fr.sub_cons rfl (Fr.sub_cons rfl (Fr.sub_cons rfl (Fr.sub_cons rfl (Fr.sub_nil _)))))) ?_
      ·intro w hs
       exact hs.weaken (Lo.sub_cons rfl (Lo.sub_nil _))
     ·replace hr := hr.neg (Bool.eq_false_iff.1 hc3)
      refine WC.skip ?_
      refine WE.inBlock ?_
      refine WE.then <| WC.region <| yy (Y0.add rfl rfl) rfl <| mv rfl rfl <| WL.nil ?_
      refine WE.backR ⟨result2, result2p, result2c, result2tk, IntKind.i64.wrap (v22_1 + 1), Gv4⟩ hr ⟨(Mem.le_trans Gm2le Gv4le), (result2h.mono Gv4le), result2ht⟩ (Fr.sub_cons rfl (Fr.sub_cons rfl (Fr.sub_cons rfl (Fr.sub_cons rfl (Fr.sub_cons rfl (Fr.sub_nil _)))))) ?_
      ·intro w hs
       exact hs.weaken (Lo.sub_cons rfl (Lo.sub_nil _))
    ·replace hr := hr.neg hc2
     refine WC.exit ?_
     refine WE.thenExit ?_
     refine WE.thenExit ?_
     refine WE.exitHere ?_
     refine WE.endH ⟨result2, result2p, result2c, result2tk, Gm2⟩ ⟨Gm2le, result2h, result2ht, hr⟩ (Fr.sub_cons rfl (Fr.sub_nil _)) ?_
     ·intro w hs
      exact hs.weaken (Lo.sub_cons rfl (Lo.sub_nil _))
  ·rintro ⟨result1, result1p, result1c, result1tk, Gm1⟩ ⟨Gm1le, result1h, result1ht, hr⟩
   refine WE.then <| sr <| mv rfl rfl <| sg rfl rfl <| sg rfl rfl <| nx ?_
   refine WC.ret ?_
   replace hr : _ = r := hr
   subst hr
   exact WE.ret2 rfl rfl rfl ⟨_, _, rfl, result1h⟩
theorem L_monomial_Lcm (a1 : (Fin 8 → Int)) (b1 : (Fin 8 → Int)) (r : (Fin 8 → Int)) (hr : (monomial_Lcm a1 b1).Ret r) : Ctr Try.prog 77 #[.agg (vecG (Value.int .i64) 8 a1).toArray, .agg (vecG (Value.int .i64) 8 b1).toArray] (fun G => True) (fun G v => v = .agg (vecG (Value.int .i64) 8 r).toArray) := by
 refine Ctr.enter (args := [_, _]) (N := 20) Try.func77 rfl rfl rfl (fun w0 G0 hL0 hpre => ?_)
 refine sr ?_
 refine WL.box 2 guard_none rfl rfl (fun b2 => ?_)
 refine WL.box 3 guard_none rfl rfl (fun b3 => ?_)
 refine WL.alloc 4 guard_none z48 rfl (fun b4 => ?_)
 refine nx <| WC.seq <| sr <| mv rfl rfl <| nx ?_
 refine WC.meetH (fun (gx : (Fin 8 → Int) × Mem) => match gx with | ⟨bx1, Gm1⟩ => [(2, .pointer (some ⟨b2, 0, none⟩)), (4, .pointer (some ⟨b4, 0, none⟩))]) (fun (gx : (Fin 8 → Int) × Mem) => match gx with | ⟨bx1, Gm1⟩ => Mem.le G0 Gm1 ∧ (monomial_Lcm_k1 bx1).Ret r) (fun (gx : (Fin 8 → Int) × Mem) => match gx with | ⟨bx1, Gm1⟩ => St w0 G0 Gm1 [(2, some ⟨b2, .cells (vecG (Value.int .i64) 8 bx1).toArray 48 (0, 0), 0⟩), (4, some ⟨b4, .cells (vecG (Value.int .i64) 8 (fun _ => 0)).toArray 48 (0, 0), 0⟩)]) ?_ ?_
 ·refine WC.block ?_
  let Phi1 : (Fin 8 → Int) → Prop := fun oo => ((fun ov => match ov with | bx1 => monomial_Lcm_k1 bx1 : (Fin 8 → Int) → Comp (Fin 8 → Int)) oo).wp (fun a => a = r)
  replace hr : (Comp.loop _ _).wp Phi1 := hr
  refine WC.loopR (Φ := Phi1) (fun (gx : Int × (Fin 8 → Int) × Mem) => match gx with | ⟨v6_1, bx2, Gm2⟩ => ((v6_1, bx2) : Int × (Fin 8 → Int))) (fun (gx : Int × (Fin 8 → Int) × Mem) => match gx with | ⟨v6_1, bx2, Gm2⟩ => [(2, .pointer (some ⟨b2, 0, none⟩)), (3, .pointer (some ⟨b3, 0, none⟩)), (4, .pointer (some ⟨b4, 0, none⟩)), (6, .int .i64 v6_1)]) (fun (gx : Int × (Fin 8 → Int) × Mem) => match gx with | ⟨v6_1, bx2, Gm2⟩ => Mem.le G0 Gm2) (fun (gx : Int × (Fin 8 → Int) × Mem) => match gx with | ⟨v6_1, bx2, Gm2⟩ => St w0 G0 Gm2 [(2, some ⟨b2, .cells (vecG (Value.int .i64) 8 bx2).toArray 48 (0, 0), 0⟩), (3, some ⟨b3, .cells (vecG (Value.int .i64) 8 b1).toArray 48 (0, 0), 0⟩), (4, some ⟨b4, .cells (vecG (Value.int .i64) 8 (fun _ => 0)).toArray 48 (0, 0), 0⟩)]) ⟨0, a1, G0⟩ hr (Fr.sub_cons rfl (Fr.sub_cons rfl (Fr.sub_cons rfl (Fr.sub_cons rfl (Fr.sub_nil _))))) (Mem.le_refl _) ?_ ?_
  ·intro w hs
   exact hs.weaken (Lo.sub_cons rfl (Lo.sub_cons rfl (Lo.sub_cons rfl (Lo.sub_nil _))))
  ·intro Aq1 gx hx hr
   obtain ⟨v6_1, bx2, Gm2⟩ := gx
   have Gm2le := hx
   refine sr <| yy (Y0.lss rfl rfl) rfl <| nx <| WC.seq ?_
   refine WC.condD (p := v6_1 < 8) rfl (fun hc1 => ?_) (fun hc1 => ?_)
   ·replace hr := hr.pos hc1
    refine WC.skip <| WE.then <| WC.seq <| WC.block <| sr <| mv rfl rfl ?_
    refine sg rfl rfl <| nx ?_
    refine WC.drawn [false, false, false, false, false, false, false, false, false] mix (by kernel_rfl) (fun hb => ?_)
    refine Chain.y0 guard_none (fun _ hle => Y0.move rfl) ?_
    refine Chain.y0 guard_none (fun _ hle => Y0.move rfl) ?_
    obtain ⟨hi1, hr⟩ := hr
    refine Chain.y0 guard_none (fun _ hle => Y0.idxA0 Try.underlying48 sz3 rfl rfl hi1) ?_
    refine Chain.y0 guard_none (fun _ hle => Y0.loadL 2 sc3 rfl rfl (vecG_at _ _ _ hi1)) ?_
    refine Chain.y0 guard_none (fun _ hle => Y0.move rfl) ?_
    obtain ⟨hi2, hr⟩ := hr
    refine Chain.y0 guard_none (fun _ hle => Y0.idxA0 Try.underlying48 sz3 rfl rfl hi2) ?_
    refine Chain.y0 guard_none (fun _ hle => Y0.loadL 3 sc3 rfl rfl (vecG_at _ _ _ hi2)) ?_
    refine Chain.y0 guard_none (fun _ hle => Y0.max2 rfl rfl) ?_
    obtain ⟨hi3, hr⟩ := hr
    refine Chain.y0 guard_none (fun _ hle => Y0.idxA0 Try.underlying48 sz3 rfl rfl hi3) ?_
    refine Chain.tail0 hb ?_
    refine WL.storeL 2 (vecG (Value.int .i64) 8 (setF bx2 v6_1.toNat (if (getF bx2 v6_1) < (getF b1 v6_1) then (getF b1 v6_1) else (getF bx2 v6_1)))).toArray guard_none sz3 rfl rfl rfl (by first | (rw [vecG_size]; omega) | (show _ < (vecG _ _ _).toArray.size; rw [vecG_size]; omega)) rfl (vecG_put _ _ _ _ _) ?_
    refine WL.nil ?_
    refine WE.nx ?_
    refine WE.inBlock ?_
    refine WE.then <| WC.region <| yy (Y0.add rfl rfl) rfl <| mv rfl rfl <| WL.nil ?_
    refine WE.backR ⟨IntKind.i64.wrap (v6_1 + 1), setF bx2 v6_1.toNat (if (getF bx2 v6_1) < (getF b1 v6_1) then (getF b1 v6_1) else (getF bx2 v6_1)), Gm2⟩ hr Gm2le (Fr.sub_cons rfl (Fr.sub_cons rfl (Fr.sub_cons rfl (Fr.sub_cons rfl (Fr.sub_nil _))))) ?_
    ·intro w hs
     exact hs.weaken (Lo.sub_cons rfl (Lo.sub_cons rfl (Lo.sub_cons rfl (Lo.sub_nil _))))
   ·replace hr := hr.neg hc1
    refine WC.exit ?_
    refine WE.thenExit ?_
    refine WE.thenExit ?_
    refine WE.exitHere ?_
    refine WE.endH ⟨bx2, Gm2⟩ ⟨Gm2le, hr⟩ (Fr.sub_cons rfl (Fr.sub_cons rfl (Fr.sub_nil _))) ?_
    ·intro w hs
     exact hs.weaken (Lo.sub_cons rfl (Lo.sub_cons rfl (Lo.sub_nil _)))
 ·rintro ⟨bx1, Gm1⟩ ⟨Gm1le, hr⟩
  refine WE.then <| sr <| yy (Y0.loadLA 2 ag48 rfl rfl (vecG_size _ _ _)) rfl ?_
  refine WL.storeLA 4 guard_none sz48 rfl rfl rfl (vecG_size _ _ _) (vecG_size _ _ _) (fun u hu => Rp.one (Rp.vec .i64 8) (G := Gm1) (x := bx1) (cs := vecG (Value.int .i64) 8 bx1) rfl u (by simpa using hu)) ?_
  refine nx ?_
  refine WC.ret ?_
  replace hr : _ = r := hr
  subst hr
  exact WE.ret1 rfl (RV.cellA (i := 4) ag48 rfl rfl (vecG_size _ _ _)) rfl
theorem L_components_meet (ideals1 : (List (List (Fin 8 → Int)))) (ideals1p : Option Addr) (ideals1c : Nat) (r : (List (Fin 8 → Int))) (hr : (components_meet ideals1).Ret r) : Ctr Try.prog 52 #[.slice ideals1p ideals1.length ideals1c] (fun G => SlR (Rp.sl (Rp.vec .i64 8)) G (.slice ideals1p ideals1.length ideals1c) ideals1) (fun G v => ∃ zp zc, v = .slice zp r.length zc ∧ SlR (Rp.vec .i64 8) G (.slice zp r.length zc) r) := by
 refine Ctr.enter (args := [_]) (N := 46) Try.func52 rfl rfl rfl (fun w0 G0 hL0 hpre => ?_)
 have ideals1h := hpre
 refine sr <| sg rfl rfl <| nr <| mv rfl rfl ?_
 obtain ⟨x1, hx1, hr⟩ := hr
 refine yy (Y0.idxR Try.underlying74 sz28 ideals1h rfl rfl hx1) rfl ?_
 obtain ⟨p1, p1c, p1e, p1h⟩ := AtK.sl (SlR.at ideals1h hx1)
 refine yy (Y0.loadG sc28 rfl (p1e)) rfl ?_
 obtain ⟨yv1, hyv1, hr⟩ := hr
 refine WL.call guard_none rfl (YC.of E55 rfl) (L_monomial_Minimal _ _ _ _ hyv1) rfl (p1h) (fun yv1v Gv1 Gv1le yv1post => ?_)
 obtain ⟨yv1p, yv1c, rfl, yv1h⟩ := yv1post
 refine sg rfl rfl <| nx <| WC.seq <| sr <| mv rfl rfl ?_
 obtain ⟨hs1, hr⟩ := hr
 refine WL.sliceRL (r := (Rp.sl (Rp.vec .i64 8))) guard_none rfl Try.underlying74 sz28 rfl (ideals1h.mono Gv1le) rfl rfl hs1 (fun p2 p2c p2h => ?_)
 refine yy (Y0.lenR Try.underlying74 p2h rfl) rfl <| mv rfl rfl <| nx ?_
 refine WC.meetH (fun (gx : (List (Fin 8 → Int)) × Option Addr × Nat × Mem) => match gx with | ⟨result1, result1p, result1c, Gm1⟩ => [(3, .slice result1p result1.length result1c)]) (fun (gx : (List (Fin 8 → Int)) × Option Addr × Nat × Mem) => match gx with | ⟨result1, result1p, result1c, Gm1⟩ => Mem.le Gv1 Gm1 ∧ SlR (Rp.vec .i64 8) Gm1 (.slice result1p result1.length result1c) result1 ∧ (components_meet_k1 result1).Ret r) (fun (gx : (List (Fin 8 → Int)) × Option Addr × Nat × Mem) => match gx with | ⟨result1, result1p, result1c, Gm1⟩ => St w0 G0 Gm1 []) ?_ ?_
 ·refine WC.block ?_
  let Phi1 : (((List (Fin 8 → Int)))) → Prop := fun oo => ((fun ov => match ov with | result1 => components_meet_k1 result1 : (((List (Fin 8 → Int)))) → Comp ((List (Fin 8 → Int)))) oo).wp (fun a => a = r)
  replace hr : (Comp.loop _ _).wp Phi1 := hr
  refine WC.loopR (Φ := Phi1) (fun (gx : (List (Fin 8 → Int)) × Option Addr × Nat × Int × Mem) => match gx with | ⟨result2, result2p, result2c, v18_1, Gm2⟩ => ((result2, v18_1) : (List (Fin 8 → Int)) × Int)) (fun (gx : (List (Fin 8 → Int)) × Option Addr × Nat × Int × Mem) => match gx with | ⟨result2, result2p, result2c, v18_1, Gm2⟩ => [(3, .slice result2p result2.length result2c), (16, .slice p2 ((ideals1.take (ideals1.length : Int).toNat).drop (1 : Int).toNat).length p2c), (17, .int .i64 (((ideals1.take (ideals1.length : Int).toNat).drop (1 : Int).toNat).length : Int)), (18, .int .i64 v18_1)]) (fun (gx : (List (Fin 8 → Int)) × Option Addr × Nat × Int × Mem) => match gx with | ⟨result2, result2p, result2c, v18_1, Gm2⟩ => Mem.le Gv1 Gm2 ∧ SlR (Rp.vec .i64 8) Gm2 (.slice result2p result2.length result2c) result2) (fun (gx : (List (Fin 8 → Int)) × Option Addr × Nat × Int × Mem) => match gx with | ⟨result2, result2p, result2c, v18_1, Gm2⟩ => St w0 G0 Gm2 []) ⟨yv1, yv1p, yv1c, 0, Gv1⟩ hr (Fr.sub_cons rfl (Fr.sub_cons rfl (Fr.sub_cons rfl (Fr.sub_cons rfl (Fr.sub_nil _))))) ⟨(Mem.le_refl _), yv1h⟩ ?_ ?_
  ·intro w hs
   exact hs.weaken (Lo.sub_nil _)
  ·intro Aq1 gx hx hr
   obtain ⟨result2, result2p, result2c, v18_1, Gm2⟩ := gx
   obtain ⟨Gm2le, result2h⟩ := hx
   refine sr <| yy (Y0.lss rfl rfl) rfl <| nx <| WC.seq ?_
   refine WC.condD (p := v18_1 < (((ideals1.take (ideals1.length : Int).toNat).drop (1 : Int).toNat).length : Int)) rfl (fun hc1 => ?_) (fun hc1 => ?_)
   ·replace hr := hr.pos hc1
    refine WC.skip <| WE.then <| WC.seq <| WC.block <| sr ?_
    obtain ⟨x2, hx2, hr⟩ := hr
    refine yy (Y0.idxR Try.underlying74 sz28 (p2h.mono Gm2le) rfl rfl hx2) rfl ?_
    obtain ⟨p3, p3c, p3e, p3h⟩ := AtK.sl (At.mono (SlR.at p2h hx2) Gm2le)
    refine yy (Y0.loadG sc28 rfl (p3e)) rfl <| sg rfl rfl <| nr <| sg rfl rfl <| nx <| WC.seq ?_
    refine sr <| mv rfl rfl <| yy (Y0.lenR Try.underlying28 result2h rfl) rfl <| mv rfl rfl <| nx ?_
    refine WC.meetH (fun (gx : (List (Fin 8 → Int)) × Option Addr × Nat × Option Ow × Mem) => match gx with | ⟨all1, all1p, all1c, all1tk, Gm3⟩ => [(6, .slice all1p all1.length all1c), (16, .slice p2 ((ideals1.take (ideals1.length : Int).toNat).drop (1 : Int).toNat).length p2c), (17, .int .i64 (((ideals1.take (ideals1.length : Int).toNat).drop (1 : Int).toNat).length : Int)), (18, .int .i64 v18_1)]) (fun (gx : (List (Fin 8 → Int)) × Option Addr × Nat × Option Ow × Mem) => match gx with | ⟨all1, all1p, all1c, all1tk, Gm3⟩ => Mem.le Gm2 Gm3 ∧ SlR (Rp.vec .i64 8) Gm3 (.slice all1p all1.length all1c) all1 ∧ Tok 8 48 (.slice all1p all1.length all1c) all1.length all1tk ∧ (components_meet_k3 v18_1 all1).wp (Out Aq1 Phi1)) (fun (gx : (List (Fin 8 → Int)) × Option Addr × Nat × Option Ow × Mem) => match gx with | ⟨all1, all1p, all1c, all1tk, Gm3⟩ => St w0 G0 Gm3 [(1006, all1tk)]) ?_ ?_
    ·refine WC.block ?_
     let Phi2 : (((List (Fin 8 → Int)))) → Prop := fun oo => ((fun ov => match ov with | all1 => components_meet_k3 v18_1 all1 : (((List (Fin 8 → Int)))) → Comp (((List (Fin 8 → Int)) × Int) ⊕ (((List (Fin 8 → Int)))))) oo).wp (Out Aq1 Phi1)
     replace hr : (Comp.loop _ _).wp Phi2 := hr
     refine WC.loopR (Φ := Phi2) (fun (gx : (List (Fin 8 → Int)) × Option Addr × Nat × Option Ow × Int × Mem) => match gx with | ⟨all2, all2p, all2c, all2tk, v24_1, Gm4⟩ => ((all2, v24_1) : (List (Fin 8 → Int)) × Int)) (fun (gx : (List (Fin 8 → Int)) × Option Addr × Nat × Option Ow × Int × Mem) => match gx with | ⟨all2, all2p, all2c, all2tk, v24_1, Gm4⟩ => [(5, .slice p3 x2.length p3c), (6, .slice all2p all2.length all2c), (16, .slice p2 ((ideals1.take (ideals1.length : Int).toNat).drop (1 : Int).toNat).length p2c), (17, .int .i64 (((ideals1.take (ideals1.length : Int).toNat).drop (1 : Int).toNat).length : Int)), (18, .int .i64 v18_1), (22, .slice result2p result2.length result2c), (23, .int .i64 (result2.length : Int)), (24, .int .i64 v24_1)]) (fun (gx : (List (Fin 8 → Int)) × Option Addr × Nat × Option Ow × Int × Mem) => match gx with | ⟨all2, all2p, all2c, all2tk, v24_1, Gm4⟩ => Mem.le Gm2 Gm4 ∧ SlR (Rp.vec .i64 8) Gm4 (.slice all2p all2.length all2c) all2 ∧ Tok 8 48 (.slice all2p all2.length all2c) all2.length all2tk) (fun (gx : (List (Fin 8 → Int)) × Option Addr × Nat × Option Ow × Int × Mem) => match gx with | ⟨all2, all2p, all2c, all2tk, v24_1, Gm4⟩ => St w0 G0 Gm4 [(1006, all2tk)]) ⟨[], none, 0, none, 0, Gm2⟩ hr (Fr.sub_cons rfl (Fr.sub_cons rfl (Fr.sub_cons rfl (Fr.sub_cons rfl (Fr.sub_cons rfl (Fr.sub_cons rfl (Fr.sub_cons rfl (Fr.sub_cons rfl (Fr.sub_nil _))))))))) ⟨(Mem.le_refl _), (SlR.nil _ _), Tok.full⟩ ?_ ?_
     ·intro w hs
      exact hs.weaken (Lo.sub_no (Lo.sub_nil _))
     ·intro Aq2 gx hx hr
      obtain ⟨all2, all2p, all2c, all2tk, v24_1, Gm4⟩ := gx
      obtain ⟨Gm4le, all2h, all2ht⟩ := hx
      refine sr <| yy (Y0.lss rfl rfl) rfl <| nx <| WC.seq ?_
      refine WC.condD (p := v24_1 < (result2.length : Int)) rfl (fun hc2 => ?_) (fun hc2 => ?_)
      ·replace hr := hr.pos hc2
       refine WC.skip <| WE.then <| WC.seq <| WC.block <| sr ?_
       obtain ⟨x3, hx3, hr⟩ := hr
       refine yy (Y0.idxR Try.underlying28 sz48 (result2h.mono Gm4le) rfl rfl hx3) rfl <| yy (Y0.loadGA _ ag48 rfl (vecG_size _ _ _) (AtK.vec (At.mono (SlR.at result2h hx3) Gm4le))) rfl ?_
       refine WL.alloc 8 guard_none z48 rfl (fun b1 => ?_)
       refine WL.storeLA 8 guard_none sz48 rfl rfl rfl (vecG_size _ _ _) (vecG_size _ _ _) (fun u hu => Rp.one (Rp.vec .i64 8) (G := Gm4) (x := x3) (cs := vecG (Value.int .i64) 8 x3) rfl u (by simpa using hu)) ?_
       refine nr <| mv rfl rfl <| yy (Y0.lenR Try.underlying28 (p3h.mono Gm4le) rfl) rfl <| mv rfl rfl <| nx ?_
       refine WC.meetH (fun (gx : (List (Fin 8 → Int)) × Option Addr × Nat × Option Ow × Mem) => match gx with | ⟨all3, all3p, all3c, all3tk, Gm5⟩ => [(5, .slice p3 x2.length p3c), (6, .slice all3p all3.length all3c), (16, .slice p2 ((ideals1.take (ideals1.length : Int).toNat).drop (1 : Int).toNat).length p2c), (17, .int .i64 (((ideals1.take (ideals1.length : Int).toNat).drop (1 : Int).toNat).length : Int)), (18, .int .i64 v18_1), (22, .slice result2p result2.length result2c), (23, .int .i64 (result2.length : Int)), (24, .int .i64 v24_1)]) (fun (gx : (List (Fin 8 → Int)) × Option Addr × Nat × Option Ow × Mem) => match gx with | ⟨all3, all3p, all3c, all3tk, Gm5⟩ => Mem.le Gm4 Gm5 ∧ SlR (Rp.vec .i64 8) Gm5 (.slice all3p all3.length all3c) all3 ∧ Tok 8 48 (.slice all3p all3.length all3c) all3.length all3tk ∧ (components_meet_k5 v24_1 all3).wp (Out Aq2 Phi2)) (fun (gx : (List (Fin 8 → Int)) × Option Addr × Nat × Option Ow × Mem) => match gx with | ⟨all3, all3p, all3c, all3tk, Gm5⟩ => St w0 G0 Gm5 [(1006, all3tk)]) ?_ ?_
       ·refine WC.block ?_
        let Phi3 : (((List (Fin 8 → Int)))) → Prop := fun oo => ((fun ov => match ov with | all3 => components_meet_k5 v24_1 all3 : (((List (Fin 8 → Int)))) → Comp (((List (Fin 8 → Int)) × Int) ⊕ (((List (Fin 8 → Int)))))) oo).wp (Out Aq2 Phi2)
        replace hr : (Comp.loop _ _).wp Phi3 := hr
        refine WC.loopR (Φ := Phi3) (fun (gx : (List (Fin 8 → Int)) × Option Addr × Nat × Option Ow × Int × Mem) => match gx with | ⟨all4, all4p, all4c, all4tk, v30_1, Gm6⟩ => ((all4, v30_1) : (List (Fin 8 → Int)) × Int)) (fun (gx : (List (Fin 8 → Int)) × Option Addr × Nat × Option Ow × Int × Mem) => match gx with | ⟨all4, all4p, all4c, all4tk, v30_1, Gm6⟩ => [(5, .slice p3 x2.length p3c), (6, .slice all4p all4.length all4c), (8, .pointer (some ⟨b1, 0, none⟩)), (16, .slice p2 ((ideals1.take (ideals1.length : Int).toNat).drop (1 : Int).toNat).length p2c), (17, .int .i64 (((ideals1.take (ideals1.length : Int).toNat).drop (1 : Int).toNat).length : Int)), (18, .int .i64 v18_1), (22, .slice result2p result2.length result2c), (23, .int .i64 (result2.length : Int)), (24, .int .i64 v24_1), (28, .slice p3 x2.length p3c), (29, .int .i64 (x2.length : Int)), (30, .int .i64 v30_1)]) (fun (gx : (List (Fin 8 → Int)) × Option Addr × Nat × Option Ow × Int × Mem) => match gx with | ⟨all4, all4p, all4c, all4tk, v30_1, Gm6⟩ => Mem.le Gm4 Gm6 ∧ SlR (Rp.vec .i64 8) Gm6 (.slice all4p all4.length all4c) all4 ∧ Tok 8 48 (.slice all4p all4.length all4c) all4.length all4tk) (fun (gx : (List (Fin 8 → Int)) × Option Addr × Nat × Option Ow × Int × Mem) => match gx with | ⟨all4, all4p, all4c, all4tk, v30_1, Gm6⟩ => St w0 G0 Gm6 [(8, some ⟨b1, .cells (vecG (Value.int .i64) 8 x3).toArray 48 (0, 0), 0⟩), (1006, all4tk)]) ⟨all2, all2p, all2c, all2tk, 0, Gm4⟩ hr (Fr.sub_cons rfl (Fr.sub_cons rfl (Fr.sub_cons rfl (Fr.sub_cons rfl (Fr.sub_cons rfl (Fr.sub_cons rfl (Fr.sub_cons rfl (Fr.sub_cons rfl (Fr.sub_cons rfl (Fr.sub_cons rfl (Fr.sub_cons rfl (Fr.sub_cons rfl (Fr.sub_nil _))))))))))))) ⟨(Mem.le_refl _), all2h, all2ht⟩ ?_ ?_
        ·intro w hs
         exact hs.weaken (Lo.sub_cons rfl (Lo.sub_cons rfl (Lo.sub_nil _)))
        ·intro Aq3 gx hx hr
         obtain ⟨all4, all4p, all4c, all4tk, v30_1, Gm6⟩ := gx
         obtain ⟨Gm6le, all4h, all4ht⟩ := hx
         refine sr <| yy (Y0.lss rfl rfl) rfl <| nx <| WC.seq ?_
         refine WC.condD (p := v30_1 < (x2.length : Int)) rfl (fun hc3 => ?_) (fun hc3 => ?_)
         ·replace hr := hr.pos hc3
          refine WC.skip <| WE.then <| WC.seq <| WC.block <| sr ?_
          obtain ⟨x4, hx4, hr⟩ := hr
          refine yy (Y0.idxR Try.underlying28 sz48 (p3h.mono (Mem.le_trans Gm4le Gm6le)) rfl rfl hx4) rfl <| yy (Y0.loadGA _ ag48 rfl (vecG_size _ _ _) (AtK.vec (At.mono (SlR.at p3h hx4) (Mem.le_trans Gm4le Gm6le)))) rfl ?_
          refine WL.alloc 10 guard_none z48 rfl (fun b2 => ?_)
          refine WL.storeLA 10 guard_none sz48 rfl rfl rfl (vecG_size _ _ _) (vecG_size _ _ _) (fun u hu => Rp.one (Rp.vec .i64 8) (G := Gm6) (x := x4) (cs := vecG (Value.int .i64) 8 x4) rfl u (by simpa using hu)) ?_
          refine nx <| WC.region <| mv rfl rfl <| yy (Y0.loadLA 8 ag48 rfl rfl (vecG_size _ _ _)) rfl <| yy (Y0.loadLA 10 ag48 rfl rfl (vecG_size _ _ _)) rfl ?_
          obtain ⟨yv3, hyv3, hr⟩ := hr
          refine WL.call0 guard_none rfl (YC.of E77 rfl) (L_monomial_Lcm _ _ _ hyv3) rfl (trivial) ?_
          refine WL.litR (e := 48) (r := (Rp.vec .i64 8)) (vs := #[(0, .agg (vecG (Value.int .i64) 8 yv3).toArray)]) (cs := (vecG (Value.int .i64) 8 yv3) ++ ([])) ([yv3] : List (Fin 8 → Int)) guard_none rfl rfl rfl rfl (by decide) (fun _ => by kernel_rfl) ⟨vecG (Value.int .i64) 8 yv3, [], rfl, rfl, rfl⟩ (key := 999) rfl (by rw [hL0]; rfl) (fun p4 Gv4 Gv4le p4h => ?_)
          obtain ⟨hsm1, hr⟩ := hr
          refine WL.appendR (r := (Rp.vec .i64 8)) 1006 guard_none rfl Try.underlying28 el48 rfl (by decide) rfl rfl (all4h.mono Gv4le) rfl (by rw [hL0]; rfl) all4ht p4h hsm1 (fun p5 p5c p5tk Gv5 Gv5le p5h p5ht => ?_)
          refine sg rfl rfl <| WL.nil ?_
          refine WE.inBlock ?_
          refine WE.then <| WC.region <| yy (Y0.add rfl rfl) rfl <| mv rfl rfl <| WL.nil ?_
          refine WE.backR ⟨(all4 ++ [yv3]), p5, p5c, p5tk, IntKind.i64.wrap (v30_1 + 1), Gv5⟩ hr ⟨(Mem.le_trans (Mem.le_trans Gm6le Gv4le) Gv5le), p5h, p5ht⟩ (Fr.sub_cons rfl (Fr.sub_cons rfl (Fr.sub_cons rfl (Fr.sub_cons rfl (Fr.sub_cons rfl (Fr.sub_cons rfl (Fr.sub_cons rfl (Fr.sub_cons rfl (Fr.sub_cons rfl (Fr.sub_cons rfl (Fr.sub_cons rfl (Fr.sub_cons rfl (Fr.sub_nil _))))))))))))) ?_
          ·intro w hs
           exact hs.weaken (Lo.sub_cons rfl (Lo.sub_cons rfl (Lo.sub_nil _)))
         ·replace hr := hr.neg hc3
          refine WC.exit ?_
          refine WE.thenExit ?_
          refine WE.thenExit ?_
          refine WE.exitHere ?_
          refine WE.endH ⟨all4, all4p, all4c, all4tk, Gm6⟩ ⟨Gm6le, all4h, all4ht, hr⟩ (Fr.sub_cons rfl (Fr.sub_cons rfl (Fr.sub_cons rfl (Fr.sub_cons rfl (Fr.sub_cons rfl (Fr.sub_cons rfl (Fr.sub_cons rfl (Fr.sub_cons rfl (Fr.sub_nil _))))))))) ?_
          ·intro w hs
           exact hs.weaken (Lo.sub_cons rfl (Lo.sub_nil _))
       ·rintro ⟨all3, all3p, all3c, all3tk, Gm5⟩ ⟨Gm5le, all3h, all3ht, hr⟩
        refine WE.inBlock ?_
        refine WE.then <| WC.region <| yy (Y0.add rfl rfl) rfl <| mv rfl rfl <| WL.nil ?_
        refine WE.backR ⟨all3, all3p, all3c, all3tk, IntKind.i64.wrap (v24_1 + 1), Gm5⟩ hr ⟨(Mem.le_trans Gm4le Gm5le), all3h, all3ht⟩ (Fr.sub_cons rfl (Fr.sub_cons rfl (Fr.sub_cons rfl (Fr.sub_cons rfl (Fr.sub_cons rfl (Fr.sub_cons rfl (Fr.sub_cons rfl (Fr.sub_cons rfl (Fr.sub_nil _))))))))) ?_
        ·intro w hs
         exact hs.weaken (Lo.sub_cons rfl (Lo.sub_nil _))
      ·replace hr := hr.neg hc2
       refine WC.exit ?_
       refine WE.thenExit ?_
       refine WE.thenExit ?_
       refine WE.exitHere ?_
       refine WE.endH ⟨all2, all2p, all2c, all2tk, Gm4⟩ ⟨Gm4le, all2h, all2ht, hr⟩ (Fr.sub_cons rfl (Fr.sub_cons rfl (Fr.sub_cons rfl (Fr.sub_cons rfl (Fr.sub_nil _))))) ?_
       ·intro w hs
        exact hs.weaken (Lo.sub_cons rfl (Lo.sub_nil _))
    ·rintro ⟨all1, all1p, all1c, all1tk, Gm3⟩ ⟨Gm3le, all1h, all1ht, hr⟩
     refine WE.then <| WC.region <| mv rfl rfl ?_
     obtain ⟨yv2, hyv2, hr⟩ := hr
     refine WL.call guard_none rfl (YC.of E55 rfl) (L_monomial_Minimal _ _ _ _ hyv2) rfl (all1h) (fun yv2v Gv2 Gv2le yv2post => ?_)
     obtain ⟨yv2p, yv2c, rfl, yv2h⟩ := yv2post
     refine sg rfl rfl <| WL.nil ?_
     refine WE.inBlock ?_
     refine WE.then <| WC.region <| yy (Y0.add rfl rfl) rfl <| mv rfl rfl <| WL.nil ?_
     refine WE.backR ⟨yv2, yv2p, yv2c, IntKind.i64.wrap (v18_1 + 1), Gv2⟩ hr ⟨(Mem.le_trans (Mem.le_trans Gm2le Gm3le) Gv2le), yv2h⟩ (Fr.sub_cons rfl (Fr.sub_cons rfl (Fr.sub_cons rfl (Fr.sub_cons rfl (Fr.sub_nil _))))) ?_
     ·intro w hs
      exact hs.weaken (Lo.sub_nil _)
   ·replace hr := hr.neg hc1
    refine WC.exit ?_
    refine WE.thenExit ?_
    refine WE.thenExit ?_
    refine WE.exitHere ?_
    refine WE.endH ⟨result2, result2p, result2c, Gm2⟩ ⟨Gm2le, result2h, hr⟩ (Fr.sub_cons rfl (Fr.sub_nil _)) ?_
    ·intro w hs
     exact hs.weaken (Lo.sub_nil _)
 ·rintro ⟨result1, result1p, result1c, Gm1⟩ ⟨Gm1le, result1h, hr⟩
  refine WE.then <| sr <| mv rfl rfl <| sg rfl rfl <| nx ?_
  refine WC.ret ?_
  replace hr : _ = r := hr
  subst hr
  exact WE.ret1 rfl rfl ⟨_, _, rfl, result1h⟩
theorem L_components_Primary (l1 : (List (Fin 8 → Int))) (n1 : Int) (l1p : Option Addr) (l1c : Nat) (r : (List T_api_Part) × Int) (hr : (components_Primary l1 n1).Ret r) : Ctr Try.prog 20 #[.slice l1p l1.length l1c, .int .i64 n1] (fun G => SlR (Rp.vec .i64 8) G (.slice l1p l1.length l1c) l1) (fun G v => ∃ zr0p zr0c, v = .tuple #[.slice zr0p r.1.length zr0c, .int .i64 r.2] ∧ SlR rp_api_Part G (.slice zr0p r.1.length zr0c) r.1) := by
 refine Ctr.enter (args := [_, _]) (N := 37) Try.func20 rfl rfl rfl (fun w0 G0 hL0 hpre => ?_)
 have l1h := hpre
 have hz : w0.L.zero := by rw [hL0]; intro p hp; simp at hp
 refine sr <| sg rfl rfl <| sg rfl rfl <| nx <| WC.seq <| sr ?_
 refine mv rfl rfl <| mv rfl rfl ?_
 obtain ⟨yv1, hyv1, hr⟩ := hr
 refine WL.call0 guard_none rfl (YC.of E42 rfl) (L_components_check _ _ _ _ _ hyv1) rfl (l1h) ?_
 refine sg rfl rfl <| nr <| mv rfl rfl <| yy (Y0.neq rfl rfl) rfl <| nx ?_
 refine WC.condD (p := ¬ yv1 = 0) rfl (fun hc1 => ?_) (fun hc1 => ?_)
 ·replace hr := hr.pos hc1
  refine sr <| mv rfl rfl <| sg rfl rfl <| sg rfl rfl <| nx ?_
  refine WC.ret ?_
  replace hr : _ = r := hr
  refine WE.thenRet ?_
  subst hr
  exact WE.ret2 rfl rfl rfl ⟨_, _, rfl, (SlR.nil rp_api_Part _)⟩
 ·replace hr := hr.neg hc1
  refine WC.skip <| WE.then <| sr <| mv rfl rfl ?_
  obtain ⟨yv2, hyv2, hr⟩ := hr
  refine WL.callT guard_none rfl (YC.of E49 rfl) (L_components_parts _ _ _ _ hyv2) rfl (l1h) (Lo.sub_nil _) hz (fun yv2v Gv2 Lyv2 Gv2le yv2post => ?_)
  obtain ⟨yv2b, yv2tk, rfl, rfl, yv2h⟩ := yv2post
  refine WL.conseq (fun w hs => hs.rekey (i := 7000) (j := 4018) rfl (by rw [hL0]; rfl)) ?_
  refine sg rfl rfl <| nr <| sg rfl rfl <| nx <| WC.seq <| sr ?_
  refine mv rfl rfl ?_
  obtain ⟨yv3, hyv3, hr⟩ := hr
  refine WL.conseq (fun w hs => hs.rekey (i := 4018) (j := 5500) rfl (by rw [hL0]; rfl)) ?_
  refine WL.callRO guard_none rfl (YC.of E48 rfl) (L_components_primes _ _ _ _ hyv3) rfl (yv2h) (Lo.sub_cons rfl (Lo.sub_nil _)) (fun i hi => by simp only [List.map_cons, List.map_nil, List.mem_cons, List.not_mem_nil, or_false] at hi; subst hi; exact rfl) hz (fun yv3v Gv3 Gv3le yv3post => ?_)
  obtain ⟨yv3p, yv3c, rfl, yv3h⟩ := yv3post
  refine WL.conseq (fun w hs => hs.rekey (i := 5500) (j := 4018) rfl (by rw [hL0]; rfl)) ?_
  refine yy (Y0.lenR Try.underlying33 yv3h rfl) rfl <| mv rfl rfl <| nx ?_
  refine WC.meetH (fun (gx : (List T_api_Part) × Option Addr × Nat × Option Ow × Mem) => match gx with | ⟨result1, result1p, result1c, result1tk, Gm1⟩ => [(8, .slice result1p result1.length result1c)]) (fun (gx : (List T_api_Part) × Option Addr × Nat × Option Ow × Mem) => match gx with | ⟨result1, result1p, result1c, result1tk, Gm1⟩ => Mem.le Gv3 Gm1 ∧ SlR rp_api_Part Gm1 (.slice result1p result1.length result1c) result1 ∧ Tok 2 60 (.slice result1p result1.length result1c) result1.length result1tk ∧ (components_Primary_k1 result1).Ret r) (fun (gx : (List T_api_Part) × Option Addr × Nat × Option Ow × Mem) => match gx with | ⟨result1, result1p, result1c, result1tk, Gm1⟩ => St w0 G0 Gm1 [(1008, result1tk)]) ?_ ?_
  ·refine WC.block ?_
   let Phi1 : (List T_api_Part) → Prop := fun oo => ((fun ov => match ov with | result1 => components_Primary_k1 result1 : (List T_api_Part) → Comp ((List T_api_Part) × Int)) oo).wp (fun a => a = r)
   replace hr : (Comp.loop _ _).wp Phi1 := hr
   refine WC.loopR (Φ := Phi1) (fun (gx : (List T_api_Part) × Option Addr × Nat × Option Ow × Int × Mem) => match gx with | ⟨result2, result2p, result2c, result2tk, v22_1, Gm2⟩ => ((result2, v22_1) : (List T_api_Part) × Int)) (fun (gx : (List T_api_Part) × Option Addr × Nat × Option Ow × Int × Mem) => match gx with | ⟨result2, result2p, result2c, result2tk, v22_1, Gm2⟩ => [(8, .slice result2p result2.length result2c), (20, .slice yv3p yv3.length yv3c), (21, .int .i64 (yv3.length : Int)), (22, .int .i64 v22_1), (7, .map (some yv2b))]) (fun (gx : (List T_api_Part) × Option Addr × Nat × Option Ow × Int × Mem) => match gx with | ⟨result2, result2p, result2c, result2tk, v22_1, Gm2⟩ => Mem.le Gv3 Gm2 ∧ SlR rp_api_Part Gm2 (.slice result2p result2.length result2c) result2 ∧ Tok 2 60 (.slice result2p result2.length result2c) result2.length result2tk) (fun (gx : (List T_api_Part) × Option Addr × Nat × Option Ow × Int × Mem) => match gx with | ⟨result2, result2p, result2c, result2tk, v22_1, Gm2⟩ => St w0 G0 Gm2 [(1008, result2tk), (4018, yv2tk)]) ⟨[], none, 0, none, 0, Gv3⟩ hr (Fr.sub_cons rfl (Fr.sub_cons rfl (Fr.sub_cons rfl (Fr.sub_cons rfl (Fr.sub_cons rfl (Fr.sub_nil _)))))) ⟨(Mem.le_refl _), (SlR.nil _ _), Tok.full⟩ ?_ ?_
   ·intro w hs
    exact hs.weaken (Lo.sub_no (Lo.sub_cons rfl (Lo.sub_nil _)))
   ·intro Aq1 gx hx hr
    obtain ⟨result2, result2p, result2c, result2tk, v22_1, Gm2⟩ := gx
    obtain ⟨Gm2le, result2h, result2ht⟩ := hx
    refine sr <| yy (Y0.lss rfl rfl) rfl <| nx <| WC.seq ?_
    refine WC.condD (p := v22_1 < (yv3.length : Int)) rfl (fun hc2 => ?_) (fun hc2 => ?_)
    ·replace hr := hr.pos hc2
     refine WC.skip <| WE.then <| WC.seq <| WC.block <| sr ?_
     obtain ⟨x1, hx1, hr⟩ := hr
     refine yy (Y0.idxR Try.underlying33 sz5 (yv3h.mono Gm2le) rfl rfl hx1) rfl <| yy (Y0.loadG sc5 rfl (AtK.int (At.mono (SlR.at yv3h hx1) Gm2le))) rfl <| sg rfl rfl <| nx <| WC.region <| mv rfl rfl ?_
     refine mv rfl rfl <| mv rfl rfl <| mv rfl rfl ?_
     obtain ⟨hk1, hr⟩ := hr
     refine WL.mapGetS (k := x1) 4018 guard_none rfl Try.underlying69 zv74 (MapR.mono yv2h (Mem.le_trans Gv3le Gm2le)) rfl rfl rfl hk1 (fun p1 p1c p1h => ?_)
     obtain ⟨yv4, hyv4, hr⟩ := hr
     refine WL.call guard_none rfl (YC.of E52 rfl) (L_components_meet _ _ _ _ hyv4) rfl (p1h) (fun yv4v Gv4 Gv4le yv4post => ?_)
     obtain ⟨yv4p, yv4c, rfl, yv4h⟩ := yv4post
     refine yy (Y0.build (vs := #[(0, .int .u8 x1), (1, .slice yv4p yv4.length yv4c)]) (v := .agg ([.int .u8 x1, .slice yv4p yv4.length yv4c]).toArray) rfl rfl (fun _ => by kernel_rfl)) rfl ?_
     refine WL.litR (e := 60) (r := rp_api_Part) (vs := #[(0, .agg ([.int .u8 x1, .slice yv4p yv4.length yv4c]).toArray)]) (cs := [.int .u8 x1, .slice yv4p yv4.length yv4c] ++ ([])) ([(T_api_Part.mk x1 yv4)] : List T_api_Part) guard_none rfl rfl rfl rfl (by decide) (fun _ => by kernel_rfl) ⟨[.int .u8 x1, .slice yv4p yv4.length yv4c], [], rfl, ⟨[.int .u8 x1], [.slice yv4p yv4.length yv4c], rfl, rfl, ⟨_, rfl, yv4h⟩⟩, rfl⟩ (key := 999) rfl (by rw [hL0]; rfl) (fun p2 Gv5 Gv5le p2h => ?_)
     obtain ⟨hsm1, hr⟩ := hr
     refine WL.appendR (r := rp_api_Part) 1008 guard_none rfl Try.underlying36 el60 rfl (by decide) rfl rfl (result2h.mono (Mem.le_trans Gv4le Gv5le)) rfl (by rw [hL0]; rfl) result2ht p2h hsm1 (fun p3 p3c p3tk Gv6 Gv6le p3h p3ht => ?_)
     refine sg rfl rfl <| WL.nil ?_
     refine WE.inBlock ?_
     refine WE.then <| WC.region <| yy (Y0.add rfl rfl) rfl <| mv rfl rfl <| WL.nil ?_
     refine WE.backR ⟨(result2 ++ [(T_api_Part.mk x1 yv4)]), p3, p3c, p3tk, IntKind.i64.wrap (v22_1 + 1), Gv6⟩ hr ⟨(Mem.le_trans (Mem.le_trans (Mem.le_trans Gm2le Gv4le) Gv5le) Gv6le), p3h, p3ht⟩ (Fr.sub_cons rfl (Fr.sub_cons rfl (Fr.sub_cons rfl (Fr.sub_cons rfl (Fr.sub_cons rfl (Fr.sub_nil _)))))) ?_
     ·intro w hs
      exact hs.weaken (Lo.sub_cons rfl (Lo.sub_cons rfl (Lo.sub_nil _)))
    ·replace hr := hr.neg hc2
     refine WC.exit ?_
     refine WE.thenExit ?_
     refine WE.thenExit ?_
     refine WE.exitHere ?_
     refine WE.endH ⟨result2, result2p, result2c, result2tk, Gm2⟩ ⟨Gm2le, result2h, result2ht, hr⟩ (Fr.sub_cons rfl (Fr.sub_nil _)) ?_
     ·intro w hs
      exact hs.weaken (Lo.sub_cons rfl (Lo.sub_nil _))
  ·rintro ⟨result1, result1p, result1c, result1tk, Gm1⟩ ⟨Gm1le, result1h, result1ht, hr⟩
   refine WE.then <| sr <| mv rfl rfl <| sg rfl rfl <| sg rfl rfl <| nx ?_
   refine WC.ret ?_
   replace hr : _ = r := hr
   subst hr
   exact WE.ret2 rfl rfl rfl ⟨_, _, rfl, result1h⟩
theorem L_R04_Same (a1 : (List (Fin 8 → Int))) (b1 : (List (Fin 8 → Int))) (a1p : Option Addr) (a1c : Nat) (b1p : Option Addr) (b1c : Nat) (r : Bool) (hr : (R04_Same a1 b1).Ret r) : Ctr Try.prog 22 #[.slice a1p a1.length a1c, .slice b1p b1.length b1c] (fun G => SlR (Rp.vec .i64 8) G (.slice a1p a1.length a1c) a1 ∧ SlR (Rp.vec .i64 8) G (.slice b1p b1.length b1c) b1) (fun G v => v = .bool r) := by
 refine Ctr.enter (args := [_, _]) (N := 26) Try.func22 rfl rfl rfl (fun w0 G0 hL0 hpre => ?_)
 obtain ⟨a1h, b1h⟩ := hpre
 refine sr <| sg rfl rfl <| nx <| WC.seq <| sr <| mv rfl rfl ?_
 refine yy (Y0.lenR Try.underlying28 a1h rfl) rfl <| mv rfl rfl <| yy (Y0.lenR Try.underlying28 b1h rfl) rfl <| yy (Y0.neq rfl rfl) rfl <| nx ?_
 refine WC.condD (p := ¬ (a1.length : Int) = (b1.length : Int)) rfl (fun hc1 => ?_) (fun hc1 => ?_)
 ·replace hr := hr.pos hc1
  refine sr <| sg rfl rfl <| nx ?_
  refine WC.ret ?_
  replace hr : _ = r := hr
  refine WE.thenRet ?_
  subst hr
  exact WE.ret1 rfl rfl rfl
 ·replace hr := hr.neg hc1
  refine WC.skip <| WE.then <| WC.seq <| sr <| sg rfl rfl <| nx ?_
  refine WC.meetH (fun (gx : Mem) => match gx with | Gm1 => []) (fun (gx : Mem) => match gx with | Gm1 => Mem.le G0 Gm1 ∧ (R04_Same_k1).Ret r) (fun (gx : Mem) => match gx with | Gm1 => St w0 G0 Gm1 []) ?_ ?_
  ·refine WC.block ?_
   let Phi1 : (Bool ⊕ Unit) → Prop := fun oo => ((fun ov => match ov with | .inl rv1 => Comp.ret rv1 | .inr () => R04_Same_k1 : (Bool ⊕ Unit) → Comp Bool) oo).wp (fun a => a = r)
   replace hr : (Comp.loop _ _).wp Phi1 := hr
   refine WC.loopR (Φ := Phi1) (fun (gx : Int × Mem) => match gx with | ⟨i1, Gm2⟩ => (i1 : Int)) (fun (gx : Int × Mem) => match gx with | ⟨i1, Gm2⟩ => [(0, .slice a1p a1.length a1c), (1, .slice b1p b1.length b1c), (5, .int .i64 i1)]) (fun (gx : Int × Mem) => match gx with | ⟨i1, Gm2⟩ => Mem.le G0 Gm2) (fun (gx : Int × Mem) => match gx with | ⟨i1, Gm2⟩ => St w0 G0 Gm2 []) ⟨0, G0⟩ hr (Fr.sub_cons rfl (Fr.sub_cons rfl (Fr.sub_cons rfl (Fr.sub_nil _)))) (Mem.le_refl _) ?_ ?_
   ·intro w hs
    exact hs.weaken (Lo.sub_nil _)
   ·intro Aq1 gx hx hr
    obtain ⟨i1, Gm2⟩ := gx
    have Gm2le := hx
    refine WC.seq <| sr <| mv rfl rfl <| mv rfl rfl <| yy (Y0.lenR Try.underlying28 (a1h.mono Gm2le) rfl) rfl <| yy (Y0.lss rfl rfl) rfl ?_
    refine nx ?_
    refine WC.condD (p := i1 < (a1.length : Int)) rfl (fun hc2 => ?_) (fun hc2 => ?_)
    ·replace hr := hr.pos hc2
     refine WC.skip <| WE.then <| WC.seq <| WC.block <| WC.seq ?_
     refine WC.drawn [false, false, false, false, false, false, false, false, false] mix (by kernel_rfl) (fun hb => ?_)
     refine Chain.y0 guard_none (fun _ hle => Y0.move rfl) ?_
     refine Chain.y0 guard_none (fun _ hle => Y0.move rfl) ?_
     obtain ⟨x1, hx1, hr⟩ := hr
     refine Chain.y0 guard_none (fun _ hle => Y0.idxR Try.underlying28 sz48 ((a1h.mono Gm2le).mono hle) rfl rfl hx1) ?_
     refine Chain.y0 guard_none (fun _ hle => Y0.loadGA _ ag48 rfl (vecG_size _ _ _) (AtK.vec (At.mono (At.mono (SlR.at a1h hx1) Gm2le) hle))) ?_
     refine Chain.y0 guard_none (fun _ hle => Y0.move rfl) ?_
     refine Chain.y0 guard_none (fun _ hle => Y0.move rfl) ?_
     obtain ⟨x2, hx2, hr⟩ := hr
     refine Chain.y0 guard_none (fun _ hle => Y0.idxR Try.underlying28 sz48 ((b1h.mono Gm2le).mono hle) rfl rfl hx2) ?_
     refine Chain.y0 guard_none (fun _ hle => Y0.loadGA _ ag48 rfl (vecG_size _ _ _) (AtK.vec (At.mono (At.mono (SlR.at b1h hx2) Gm2le) hle))) ?_
     refine Chain.y0 guard_none (fun _ hle => Y0.neqV Try.underlying48 Try.underlying3 sc3 sz3 eg48 rfl rfl) ?_
     refine Chain.tail0 hb ?_
     refine WL.nil ?_
     refine WE.nx ?_
     refine WE.then ?_
     refine WC.condD (p := ¬ x1 = x2) rfl (fun hc3 => ?_) (fun hc3 => ?_)
     ·replace hr := hr.pos hc3
      refine sr <| sg rfl rfl <| nx ?_
      refine WC.ret ?_
      replace hr : _ = r := hr
      refine WE.inBlockRet ?_
      refine WE.thenRet ?_
      refine WE.thenRet ?_
      refine WE.inBlockRet ?_
      refine WE.endRet ?_
      refine WE.thenRet ?_
      subst hr
      exact WE.ret1 rfl rfl rfl
     ·replace hr := hr.neg hc3
      refine WC.skip ?_
      refine WE.inBlock ?_
      refine WE.then <| WC.region <| mv rfl rfl <| yy (Y0.add rfl rfl) rfl <| sg rfl rfl <| WL.nil ?_
      refine WE.backR ⟨IntKind.i64.wrap (i1 + 1), Gm2⟩ hr Gm2le (Fr.sub_cons rfl (Fr.sub_cons rfl (Fr.sub_cons rfl (Fr.sub_nil _)))) ?_
      ·intro w hs
       exact hs.weaken (Lo.sub_nil _)
    ·replace hr := hr.neg hc2
     refine WC.exit ?_
     refine WE.thenExit ?_
     refine WE.thenExit ?_
     refine WE.exitHere ?_
     refine WE.endH Gm2 ⟨Gm2le, hr⟩ (Fr.sub_nil _) ?_
     ·intro w hs
      exact hs.weaken (Lo.sub_nil _)
  ·rintro Gm1 ⟨Gm1le, hr⟩
   refine WE.then <| sr <| sg rfl rfl <| nx ?_
   refine WC.ret ?_
   replace hr : _ = r := hr
   subst hr
   exact WE.ret1 rfl rfl rfl
theorem L_R18_SameSets (a1 : (List Int)) (b1 : (List Int)) (a1p : Option Addr) (a1c : Nat) (b1p : Option Addr) (b1c : Nat) (r : Bool) (hr : (R18_SameSets a1 b1).Ret r) : Ctr Try.prog 23 #[.slice a1p a1.length a1c, .slice b1p b1.length b1c] (fun G => SlR (Rp.int .u8) G (.slice a1p a1.length a1c) a1 ∧ SlR (Rp.int .u8) G (.slice b1p b1.length b1c) b1) (fun G v => v = .bool r) := by
 refine Ctr.enter (args := [_, _]) (N := 10) Try.func23 rfl rfl rfl (fun w0 G0 hL0 hpre => ?_)
 obtain ⟨a1h, b1h⟩ := hpre
 refine sr <| sg rfl rfl <| nr <| mv rfl rfl <| yy (Y0.convBS Try.underlying33 Try.underlying5 Try.underlying9 a1h rfl) rfl <| mv rfl rfl ?_
 refine yy (Y0.convBS Try.underlying33 Try.underlying5 Try.underlying9 b1h rfl) rfl <| yy (Y0.eqlS Try.underlying9 rfl rfl) rfl <| sg rfl rfl <| nx ?_
 refine WC.ret ?_
 replace hr : _ = r := hr
 subst hr
 exact WE.ret1 rfl rfl rfl
theorem L_R21_SameParts (a1 : (List T_api_Part)) (b1 : (List T_api_Part)) (a1p : Option Addr) (a1c : Nat) (b1p : Option Addr) (b1c : Nat) (r : Bool) (hr : (R21_SameParts a1 b1).Ret r) : Ctr Try.prog 24 #[.slice a1p a1.length a1c, .slice b1p b1.length b1c] (fun G => SlR rp_api_Part G (.slice a1p a1.length a1c) a1 ∧ SlR rp_api_Part G (.slice b1p b1.length b1c) b1) (fun G v => v = .bool r) := by
 refine Ctr.enter (args := [_, _]) (N := 42) Try.func24 rfl rfl rfl (fun w0 G0 hL0 hpre => ?_)
 obtain ⟨a1h, b1h⟩ := hpre
 refine sr <| sg rfl rfl <| nx <| WC.seq <| sr <| mv rfl rfl ?_
 refine yy (Y0.lenR Try.underlying36 a1h rfl) rfl <| mv rfl rfl <| yy (Y0.lenR Try.underlying36 b1h rfl) rfl <| yy (Y0.neq rfl rfl) rfl <| nx ?_
 refine WC.condD (p := ¬ (a1.length : Int) = (b1.length : Int)) rfl (fun hc1 => ?_) (fun hc1 => ?_)
 ·replace hr := hr.pos hc1
  refine sr <| sg rfl rfl <| nx ?_
  refine WC.ret ?_
  replace hr : _ = r := hr
  refine WE.thenRet ?_
  subst hr
  exact WE.ret1 rfl rfl rfl
 ·replace hr := hr.neg hc1
  refine WC.skip <| WE.then <| WC.seq <| sr <| sg rfl rfl <| nx ?_
  refine WC.meetH (fun (gx : Mem) => match gx with | Gm1 => []) (fun (gx : Mem) => match gx with | Gm1 => Mem.le G0 Gm1 ∧ (R21_SameParts_k1).Ret r) (fun (gx : Mem) => match gx with | Gm1 => St w0 G0 Gm1 []) ?_ ?_
  ·refine WC.block ?_
   let Phi1 : (Bool ⊕ Unit) → Prop := fun oo => ((fun ov => match ov with | .inl rv1 => Comp.ret rv1 | .inr () => R21_SameParts_k1 : (Bool ⊕ Unit) → Comp Bool) oo).wp (fun a => a = r)
   replace hr : (Comp.loop _ _).wp Phi1 := hr
   refine WC.loopR (Φ := Phi1) (fun (gx : Int × Mem) => match gx with | ⟨i1, Gm2⟩ => (i1 : Int)) (fun (gx : Int × Mem) => match gx with | ⟨i1, Gm2⟩ => [(0, .slice a1p a1.length a1c), (1, .slice b1p b1.length b1c), (5, .int .i64 i1)]) (fun (gx : Int × Mem) => match gx with | ⟨i1, Gm2⟩ => Mem.le G0 Gm2) (fun (gx : Int × Mem) => match gx with | ⟨i1, Gm2⟩ => St w0 G0 Gm2 []) ⟨0, G0⟩ hr (Fr.sub_cons rfl (Fr.sub_cons rfl (Fr.sub_cons rfl (Fr.sub_nil _)))) (Mem.le_refl _) ?_ ?_
   ·intro w hs
    exact hs.weaken (Lo.sub_nil _)
   ·intro Aq1 gx hx hr
    obtain ⟨i1, Gm2⟩ := gx
    have Gm2le := hx
    refine WC.seq <| sr <| mv rfl rfl <| mv rfl rfl <| yy (Y0.lenR Try.underlying36 (a1h.mono Gm2le) rfl) rfl <| yy (Y0.lss rfl rfl) rfl ?_
    refine nx ?_
    refine WC.condD (p := i1 < (a1.length : Int)) rfl (fun hc2 => ?_) (fun hc2 => ?_)
    ·replace hr := hr.pos hc2
     refine WC.skip <| WE.then <| WC.seq <| WC.block <| WC.seq ?_
     refine WC.drawn [false, false, false, false, false, false, false, false, false, false, false, false, false, false, false, false, false, false, false, false, false, false, false, false, false] mix (by kernel_rfl) (fun hb => ?_)
     refine Chain.y0 guard_none (fun _ hle => Y0.move rfl) ?_
     refine Chain.y0 guard_none (fun _ hle => Y0.move rfl) ?_
     obtain ⟨x1, hx1, hr⟩ := hr
     refine Chain.y0 guard_none (fun _ hle => Y0.idxR Try.underlying36 sz60 ((a1h.mono Gm2le).mono hle) rfl rfl hx1) ?_
     refine Chain.y0 guard_none (fun _ hle => Y0.fieldAddr Try.underlying60 rfl (fun _ => by kernel_rfl) rfl) ?_
     refine Chain.y0 guard_none (fun _ hle => Y0.loadG sc5 rfl (AtK.int (At.mono (At.mono (AtK.fst (AtK.via (SlR.at a1h hx1))) Gm2le) hle))) ?_
     refine Chain.y0 guard_none (fun _ hle => Y0.move rfl) ?_
     refine Chain.y0 guard_none (fun _ hle => Y0.move rfl) ?_
     obtain ⟨x2, hx2, hr⟩ := hr
     refine Chain.y0 guard_none (fun _ hle => Y0.idxR Try.underlying36 sz60 ((b1h.mono Gm2le).mono hle) rfl rfl hx2) ?_
     refine Chain.y0 guard_none (fun _ hle => Y0.fieldAddr Try.underlying60 rfl (fun _ => by kernel_rfl) rfl) ?_
     refine Chain.y0 guard_none (fun _ hle => Y0.loadG sc5 rfl (AtK.int (At.mono (At.mono (AtK.fst (AtK.via (SlR.at b1h hx2))) Gm2le) hle))) ?_
     refine Chain.caseY0 (p := ¬ x1.prime = x2.prime) guard_none (fun _ hle => Y0.neq rfl rfl) (fun hb1 => ?_) (fun hb1 => ?_)
     ·replace hr := hr.pos hb1
      refine Chain.y0 guard_none (fun _ hle => Y0.move rfl) ?_
      refine Chain.skip (guard_noF rfl rfl) ?_
      refine Chain.skip (guard_noF rfl rfl) ?_
      refine Chain.skip (guard_noF rfl rfl) ?_
      refine Chain.skip (guard_noF rfl rfl) ?_
      refine Chain.skip (guard_noF rfl rfl) ?_
      refine Chain.skip (guard_noF rfl rfl) ?_
      refine Chain.skip (guard_noF rfl rfl) ?_
      refine Chain.skip (guard_noF rfl rfl) ?_
      refine Chain.skip (guard_noF rfl rfl) ?_
      refine Chain.skip (guard_noF rfl rfl) ?_
      refine Chain.skip (guard_noF rfl rfl) ?_
      refine Chain.skip (guard_noF rfl rfl) ?_
      refine Chain.y0 guard_none (fun _ hle => Y0.pickT rfl rfl) ?_
      refine Chain.tail0 hb ?_
      refine WL.nil ?_
      refine WE.nx ?_
      refine WE.then ?_
      refine WC.condT rfl ?_
      refine sr <| sg rfl rfl <| nx ?_
      refine WC.ret ?_
      replace hr : _ = r := hr
      refine WE.inBlockRet ?_
      refine WE.thenRet ?_
      refine WE.thenRet ?_
      refine WE.inBlockRet ?_
      refine WE.endRet ?_
      refine WE.thenRet ?_
      subst hr
      exact WE.ret1 rfl rfl rfl
     ·replace hr := hr.neg hb1
      refine Chain.y0 guard_none (fun _ hle => Y0.move rfl) ?_
      refine Chain.y0 (guard_yes rfl rfl) (fun _ hle => Y0.move rfl) ?_
      refine Chain.y0 (guard_yes rfl rfl) (fun _ hle => Y0.move rfl) ?_
      obtain ⟨x3, hx3, hr⟩ := hr
      refine Chain.y0 (guard_yes rfl rfl) (fun _ hle => Y0.idxR Try.underlying36 sz60 ((a1h.mono Gm2le).mono hle) rfl rfl hx3) ?_
      refine Chain.y0 (guard_yes rfl rfl) (fun _ hle => Y0.fieldAddr Try.underlying60 rfl (fun _ => by kernel_rfl) rfl) ?_
      obtain ⟨p1, p1c, p1e, p1h⟩ := AtK.sl (At.mono (AtK.snd (AtK.via (SlR.at a1h hx3))) Gm2le)
      refine Chain.y0 (guard_yes rfl rfl) (fun _ hle => Y0.loadG sc28 rfl (hle _ _ _ p1e)) ?_
      refine Chain.y0 (guard_yes rfl rfl) (fun _ hle => Y0.move rfl) ?_
      refine Chain.y0 (guard_yes rfl rfl) (fun _ hle => Y0.move rfl) ?_
      obtain ⟨x4, hx4, hr⟩ := hr
      refine Chain.y0 (guard_yes rfl rfl) (fun _ hle => Y0.idxR Try.underlying36 sz60 ((b1h.mono Gm2le).mono hle) rfl rfl hx4) ?_
      refine Chain.y0 (guard_yes rfl rfl) (fun _ hle => Y0.fieldAddr Try.underlying60 rfl (fun _ => by kernel_rfl) rfl) ?_
      obtain ⟨p2, p2c, p2e, p2h⟩ := AtK.sl (At.mono (AtK.snd (AtK.via (SlR.at b1h hx4))) Gm2le)
      refine Chain.y0 (guard_yes rfl rfl) (fun _ hle => Y0.loadG sc28 rfl (hle _ _ _ p2e)) ?_
      obtain ⟨yv1, hyv1, hr⟩ := hr
      refine Chain.call0 (guard_yes rfl rfl) (fun _ => YC.of E22 rfl) (L_R04_Same _ _ _ _ _ _ _ hyv1) rfl (fun G' hle => ⟨(p1h.mono hle), (p2h.mono hle)⟩) ?_
      refine Chain.y0 (guard_yes rfl rfl) (fun _ hle => Y0.not rfl) ?_
      refine Chain.y0 guard_none (fun _ hle => Y0.pickF rfl rfl) ?_
      refine Chain.tail0 hb ?_
      refine WL.nil ?_
      refine WE.nx ?_
      refine WE.then ?_
      refine WC.cond (b := !yv1) rfl (fun hc3 => ?_) (fun hc3 => ?_)
      ·replace hr := hr.pos hc3
       refine sr <| sg rfl rfl <| nx ?_
       refine WC.ret ?_
       replace hr : _ = r := hr
       refine WE.inBlockRet ?_
       refine WE.thenRet ?_
       refine WE.thenRet ?_
       refine WE.inBlockRet ?_
       refine WE.endRet ?_
       refine WE.thenRet ?_
       subst hr
       exact WE.ret1 rfl rfl rfl
      ·replace hr := hr.neg (Bool.eq_false_iff.1 hc3)
       refine WC.skip ?_
       refine WE.inBlock ?_
       refine WE.then <| WC.region <| mv rfl rfl <| yy (Y0.add rfl rfl) rfl <| sg rfl rfl <| WL.nil ?_
       refine WE.backR ⟨IntKind.i64.wrap (i1 + 1), Gm2⟩ hr Gm2le (Fr.sub_cons rfl (Fr.sub_cons rfl (Fr.sub_cons rfl (Fr.sub_nil _)))) ?_
       ·intro w hs
        exact hs.weaken (Lo.sub_nil _)
    ·replace hr := hr.neg hc2
     refine WC.exit ?_
     refine WE.thenExit ?_
     refine WE.thenExit ?_
     refine WE.exitHere ?_
     refine WE.endH Gm2 ⟨Gm2le, hr⟩ (Fr.sub_nil _) ?_
     ·intro w hs
      exact hs.weaken (Lo.sub_nil _)
  ·rintro Gm1 ⟨Gm1le, hr⟩
   refine WE.then <| sr <| sg rfl rfl <| nx ?_
   refine WC.ret ?_
   replace hr : _ = r := hr
   subst hr
   exact WE.ret1 rfl rfl rfl
theorem L_components_Radical (l1 : (List (Fin 8 → Int))) (l1p : Option Addr) (l1c : Nat) (r : (List (Fin 8 → Int))) (hr : (components_Radical l1).Ret r) : Ctr Try.prog 27 #[.slice l1p l1.length l1c] (fun G => SlR (Rp.vec .i64 8) G (.slice l1p l1.length l1c) l1) (fun G v => ∃ zp zc, v = .slice zp r.length zc ∧ SlR (Rp.vec .i64 8) G (.slice zp r.length zc) r) := by
 refine Ctr.enter (args := [_]) (N := 30) Try.func27 rfl rfl rfl (fun w0 G0 hL0 hpre => ?_)
 have l1h := hpre
 refine sr <| sg rfl rfl <| nr <| sg rfl rfl <| nx <| WC.seq ?_
 refine sr <| mv rfl rfl <| yy (Y0.lenR Try.underlying28 l1h rfl) rfl <| mv rfl rfl <| nx ?_
 refine WC.meetH (fun (gx : (List (Fin 8 → Int)) × Option Addr × Nat × Option Ow × Mem) => match gx with | ⟨rv1, rv1p, rv1c, rv1tk, Gm1⟩ => [(3, .slice rv1p rv1.length rv1c)]) (fun (gx : (List (Fin 8 → Int)) × Option Addr × Nat × Option Ow × Mem) => match gx with | ⟨rv1, rv1p, rv1c, rv1tk, Gm1⟩ => Mem.le G0 Gm1 ∧ SlR (Rp.vec .i64 8) Gm1 (.slice rv1p rv1.length rv1c) rv1 ∧ Tok 8 48 (.slice rv1p rv1.length rv1c) rv1.length rv1tk ∧ (components_Radical_k1 rv1).Ret r) (fun (gx : (List (Fin 8 → Int)) × Option Addr × Nat × Option Ow × Mem) => match gx with | ⟨rv1, rv1p, rv1c, rv1tk, Gm1⟩ => St w0 G0 Gm1 [(1003, rv1tk)]) ?_ ?_
 ·refine WC.block ?_
  let Phi1 : (((List (Fin 8 → Int)))) → Prop := fun oo => ((fun ov => match ov with | rv1 => components_Radical_k1 rv1 : (((List (Fin 8 → Int)))) → Comp ((List (Fin 8 → Int)))) oo).wp (fun a => a = r)
  replace hr : (Comp.loop _ _).wp Phi1 := hr
  refine WC.loopR (Φ := Phi1) (fun (gx : (List (Fin 8 → Int)) × Option Addr × Nat × Option Ow × Int × Mem) => match gx with | ⟨rv2, rv2p, rv2c, rv2tk, v9_1, Gm2⟩ => ((rv2, v9_1) : (List (Fin 8 → Int)) × Int)) (fun (gx : (List (Fin 8 → Int)) × Option Addr × Nat × Option Ow × Int × Mem) => match gx with | ⟨rv2, rv2p, rv2c, rv2tk, v9_1, Gm2⟩ => [(3, .slice rv2p rv2.length rv2c), (7, .slice l1p l1.length l1c), (8, .int .i64 (l1.length : Int)), (9, .int .i64 v9_1)]) (fun (gx : (List (Fin 8 → Int)) × Option Addr × Nat × Option Ow × Int × Mem) => match gx with | ⟨rv2, rv2p, rv2c, rv2tk, v9_1, Gm2⟩ => Mem.le G0 Gm2 ∧ SlR (Rp.vec .i64 8) Gm2 (.slice rv2p rv2.length rv2c) rv2 ∧ Tok 8 48 (.slice rv2p rv2.length rv2c) rv2.length rv2tk) (fun (gx : (List (Fin 8 → Int)) × Option Addr × Nat × Option Ow × Int × Mem) => match gx with | ⟨rv2, rv2p, rv2c, rv2tk, v9_1, Gm2⟩ => St w0 G0 Gm2 [(1003, rv2tk)]) ⟨[], none, 0, none, 0, G0⟩ hr (Fr.sub_cons rfl (Fr.sub_cons rfl (Fr.sub_cons rfl (Fr.sub_cons rfl (Fr.sub_nil _))))) ⟨(Mem.le_refl _), (SlR.nil _ _), Tok.full⟩ ?_ ?_
  ·intro w hs
   exact hs.weaken (Lo.sub_no (Lo.sub_nil _))
  ·intro Aq1 gx hx hr
   obtain ⟨rv2, rv2p, rv2c, rv2tk, v9_1, Gm2⟩ := gx
   obtain ⟨Gm2le, rv2h, rv2ht⟩ := hx
   refine sr <| yy (Y0.lss rfl rfl) rfl <| nx <| WC.seq ?_
   refine WC.condD (p := v9_1 < (l1.length : Int)) rfl (fun hc1 => ?_) (fun hc1 => ?_)
   ·replace hr := hr.pos hc1
    refine WC.skip <| WE.then <| WC.seq <| WC.block <| sr ?_
    obtain ⟨x1, hx1, hr⟩ := hr
    refine yy (Y0.idxR Try.underlying28 sz48 (l1h.mono Gm2le) rfl rfl hx1) rfl <| yy (Y0.loadGA _ ag48 rfl (vecG_size _ _ _) (AtK.vec (At.mono (SlR.at l1h hx1) Gm2le))) rfl ?_
    refine WL.alloc 5 guard_none z48 rfl (fun b1 => ?_)
    refine WL.storeLA 5 guard_none sz48 rfl rfl rfl (vecG_size _ _ _) (vecG_size _ _ _) (fun u hu => Rp.one (Rp.vec .i64 8) (G := Gm2) (x := x1) (cs := vecG (Value.int .i64) 8 x1) rfl u (by simpa using hu)) ?_
    refine nx <| WC.seq <| sr <| mv rfl rfl <| nx ?_
    refine WC.meetH (fun (gx : (Fin 8 → Int) × Mem) => match gx with | ⟨bx1, Gm3⟩ => [(3, .slice rv2p rv2.length rv2c), (5, .pointer (some ⟨b1, 0, none⟩)), (7, .slice l1p l1.length l1c), (8, .int .i64 (l1.length : Int)), (9, .int .i64 v9_1)]) (fun (gx : (Fin 8 → Int) × Mem) => match gx with | ⟨bx1, Gm3⟩ => Mem.le Gm2 Gm3 ∧ (components_Radical_k3 rv2 v9_1 bx1).wp (Out Aq1 Phi1)) (fun (gx : (Fin 8 → Int) × Mem) => match gx with | ⟨bx1, Gm3⟩ => St w0 G0 Gm3 [(5, some ⟨b1, .cells (vecG (Value.int .i64) 8 bx1).toArray 48 (0, 0), 0⟩), (1003, rv2tk)]) ?_ ?_
    ·refine WC.block ?_
     let Phi2 : (Fin 8 → Int) → Prop := fun oo => ((fun ov => match ov with | bx1 => components_Radical_k3 rv2 v9_1 bx1 : (Fin 8 → Int) → Comp (((List (Fin 8 → Int)) × Int) ⊕ (((List (Fin 8 → Int)))))) oo).wp (Out Aq1 Phi1)
     replace hr : (Comp.loop _ _).wp Phi2 := hr
     refine WC.loopR (Φ := Phi2) (fun (gx : Int × (Fin 8 → Int) × Mem) => match gx with | ⟨v13_1, bx2, Gm4⟩ => ((v13_1, bx2) : Int × (Fin 8 → Int))) (fun (gx : Int × (Fin 8 → Int) × Mem) => match gx with | ⟨v13_1, bx2, Gm4⟩ => [(3, .slice rv2p rv2.length rv2c), (5, .pointer (some ⟨b1, 0, none⟩)), (7, .slice l1p l1.length l1c), (8, .int .i64 (l1.length : Int)), (9, .int .i64 v9_1), (13, .int .i64 v13_1)]) (fun (gx : Int × (Fin 8 → Int) × Mem) => match gx with | ⟨v13_1, bx2, Gm4⟩ => Mem.le Gm2 Gm4) (fun (gx : Int × (Fin 8 → Int) × Mem) => match gx with | ⟨v13_1, bx2, Gm4⟩ => St w0 G0 Gm4 [(5, some ⟨b1, .cells (vecG (Value.int .i64) 8 bx2).toArray 48 (0, 0), 0⟩), (1003, rv2tk)]) ⟨0, x1, Gm2⟩ hr (Fr.sub_cons rfl (Fr.sub_cons rfl (Fr.sub_cons rfl (Fr.sub_cons rfl (Fr.sub_cons rfl (Fr.sub_cons rfl (Fr.sub_nil _))))))) (Mem.le_refl _) ?_ ?_
     ·intro w hs
      exact hs.weaken (Lo.sub_cons rfl (Lo.sub_cons rfl (Lo.sub_nil _)))
     ·intro Aq2 gx hx hr
      obtain ⟨v13_1, bx2, Gm4⟩ := gx
      have Gm4le := hx
      refine sr <| yy (Y0.lss rfl rfl) rfl <| nx <| WC.seq ?_
      refine WC.condD (p := v13_1 < 8) rfl (fun hc2 => ?_) (fun hc2 => ?_)
      ·replace hr := hr.pos hc2
       refine WC.skip <| WE.then <| WC.seq <| WC.block <| sr <| mv rfl rfl ?_
       refine sg rfl rfl <| nx <| WC.region <| mv rfl rfl <| mv rfl rfl ?_
       obtain ⟨hi1, hr⟩ := hr
       refine yy (Y0.idxA0 Try.underlying48 sz3 rfl rfl hi1) rfl <| yy (Y0.loadL 5 sc3 rfl rfl (vecG_at _ _ _ hi1)) rfl <| yy (Y0.min2 rfl rfl) rfl ?_
       obtain ⟨hi2, hr⟩ := hr
       refine yy (Y0.idxA0 Try.underlying48 sz3 rfl rfl hi2) rfl ?_
       refine WL.storeL 5 (vecG (Value.int .i64) 8 (setF bx2 v13_1.toNat (if 1 < (getF bx2 v13_1) then 1 else (getF bx2 v13_1)))).toArray guard_none sz3 rfl rfl rfl (by first | (rw [vecG_size]; omega) | (show _ < (vecG _ _ _).toArray.size; rw [vecG_size]; omega)) rfl (vecG_put _ _ _ _ _) ?_
       refine WL.nil ?_
       refine WE.inBlock ?_
       refine WE.then <| WC.region <| yy (Y0.add rfl rfl) rfl <| mv rfl rfl <| WL.nil ?_
       refine WE.backR ⟨IntKind.i64.wrap (v13_1 + 1), setF bx2 v13_1.toNat (if 1 < (getF bx2 v13_1) then 1 else (getF bx2 v13_1)), Gm4⟩ hr Gm4le (Fr.sub_cons rfl (Fr.sub_cons rfl (Fr.sub_cons rfl (Fr.sub_cons rfl (Fr.sub_cons rfl (Fr.sub_cons rfl (Fr.sub_nil _))))))) ?_
       ·intro w hs
        exact hs.weaken (Lo.sub_cons rfl (Lo.sub_cons rfl (Lo.sub_nil _)))
      ·replace hr := hr.neg hc2
       refine WC.exit ?_
       refine WE.thenExit ?_
       refine WE.thenExit ?_
       refine WE.exitHere ?_
       refine WE.endH ⟨bx2, Gm4⟩ ⟨Gm4le, hr⟩ (Fr.sub_cons rfl (Fr.sub_cons rfl (Fr.sub_cons rfl (Fr.sub_cons rfl (Fr.sub_cons rfl (Fr.sub_nil _)))))) ?_
       ·intro w hs
        exact hs.weaken (Lo.sub_cons rfl (Lo.sub_cons rfl (Lo.sub_nil _)))
    ·rintro ⟨bx1, Gm3⟩ ⟨Gm3le, hr⟩
     refine WE.then <| WC.region <| mv rfl rfl <| yy (Y0.loadLA 5 ag48 rfl rfl (vecG_size _ _ _)) rfl ?_
     refine WL.litR (e := 48) (r := (Rp.vec .i64 8)) (vs := #[(0, .agg (vecG (Value.int .i64) 8 bx1).toArray)]) (cs := (vecG (Value.int .i64) 8 bx1) ++ ([])) ([bx1] : List (Fin 8 → Int)) guard_none rfl rfl rfl rfl (by decide) (fun _ => by kernel_rfl) ⟨vecG (Value.int .i64) 8 bx1, [], rfl, rfl, rfl⟩ (key := 999) rfl (by rw [hL0]; rfl) (fun p1 Gv2 Gv2le p1h => ?_)
     obtain ⟨hsm1, hr⟩ := hr
     refine WL.appendR (r := (Rp.vec .i64 8)) 1003 guard_none rfl Try.underlying28 el48 rfl (by decide) rfl rfl (rv2h.mono (Mem.le_trans Gm3le Gv2le)) rfl (by rw [hL0]; rfl) rv2ht p1h hsm1 (fun p2 p2c p2tk Gv3 Gv3le p2h p2ht => ?_)
     refine sg rfl rfl <| WL.nil ?_
     refine WE.inBlock ?_
     refine WE.then <| WC.region <| yy (Y0.add rfl rfl) rfl <| mv rfl rfl <| WL.nil ?_
     refine WE.backR ⟨(rv2 ++ [bx1]), p2, p2c, p2tk, IntKind.i64.wrap (v9_1 + 1), Gv3⟩ hr ⟨(Mem.le_trans (Mem.le_trans (Mem.le_trans Gm2le Gm3le) Gv2le) Gv3le), p2h, p2ht⟩ (Fr.sub_cons rfl (Fr.sub_cons rfl (Fr.sub_cons rfl (Fr.sub_cons rfl (Fr.sub_nil _))))) ?_
     ·intro w hs
      exact hs.weaken (Lo.sub_cons rfl (Lo.sub_nil _))
   ·replace hr := hr.neg hc1
    refine WC.exit ?_
    refine WE.thenExit ?_
    refine WE.thenExit ?_
    refine WE.exitHere ?_
    refine WE.endH ⟨rv2, rv2p, rv2c, rv2tk, Gm2⟩ ⟨Gm2le, rv2h, rv2ht, hr⟩ (Fr.sub_cons rfl (Fr.sub_nil _)) ?_
    ·intro w hs
     exact hs.weaken (Lo.sub_cons rfl (Lo.sub_nil _))
 ·rintro ⟨rv1, rv1p, rv1c, rv1tk, Gm1⟩ ⟨Gm1le, rv1h, rv1ht, hr⟩
  refine WE.then <| sr <| mv rfl rfl ?_
  obtain ⟨yv1, hyv1, hr⟩ := hr
  refine WL.call guard_none rfl (YC.of E55 rfl) (L_monomial_Minimal _ _ _ _ hyv1) rfl (rv1h) (fun yv1v Gv1 Gv1le yv1post => ?_)
  obtain ⟨yv1p, yv1c, rfl, yv1h⟩ := yv1post
  refine sg rfl rfl <| nx ?_
  refine WC.ret ?_
  replace hr : _ = r := hr
  subst hr
  exact WE.ret1 rfl rfl ⟨_, _, rfl, yv1h⟩
theorem L_components_Meet (l1 : (List (Fin 8 → Int))) (m1 : (List (Fin 8 → Int))) (l1p : Option Addr) (l1c : Nat) (m1p : Option Addr) (m1c : Nat) (r : (List (Fin 8 → Int))) (hr : (components_Meet l1 m1).Ret r) : Ctr Try.prog 25 #[.slice l1p l1.length l1c, .slice m1p m1.length m1c] (fun G => SlR (Rp.vec .i64 8) G (.slice l1p l1.length l1c) l1 ∧ SlR (Rp.vec .i64 8) G (.slice m1p m1.length m1c) m1) (fun G v => ∃ zp zc, v = .slice zp r.length zc ∧ SlR (Rp.vec .i64 8) G (.slice zp r.length zc) r) := by
 refine Ctr.enter (args := [_, _]) (N := 9) Try.func25 rfl rfl rfl (fun w0 G0 hL0 hpre => ?_)
 obtain ⟨l1h, m1h⟩ := hpre
 refine sr <| sg rfl rfl <| nr <| mv rfl rfl <| mv rfl rfl ?_
 refine WL.litR (e := 28) (r := (Rp.sl (Rp.vec .i64 8))) (vs := #[(0, .slice l1p l1.length l1c), (1, .slice m1p m1.length m1c)]) (cs := [.slice l1p l1.length l1c] ++ ([.slice m1p m1.length m1c] ++ ([]))) ([l1, m1] : List (List (Fin 8 → Int))) guard_none rfl rfl rfl rfl (by decide) (fun _ => by kernel_rfl) ⟨[.slice l1p l1.length l1c], [.slice m1p m1.length m1c] ++ ([]), rfl, ⟨_, rfl, l1h⟩, ⟨[.slice m1p m1.length m1c], [], rfl, ⟨_, rfl, m1h⟩, rfl⟩⟩ (key := 999) rfl (by rw [hL0]; rfl) (fun p1 Gv1 Gv1le p1h => ?_)
 obtain ⟨yv1, hyv1, hr⟩ := hr
 refine WL.call guard_none rfl (YC.of E52 rfl) (L_components_meet _ _ _ _ hyv1) rfl (p1h) (fun yv1v Gv2 Gv2le yv1post => ?_)
 obtain ⟨yv1p, yv1c, rfl, yv1h⟩ := yv1post
 refine sg rfl rfl <| nx ?_
 refine WC.ret ?_
 replace hr : _ = r := hr
 subst hr
 exact WE.ret1 rfl rfl ⟨_, _, rfl, yv1h⟩
theorem L_law21_sanity (r : Bool) (hr : (law21_sanity).Ret r) : Ctr Try.prog 11 #[] (fun G => True) (fun G v => v = .bool r) := by
 refine Ctr.enter (args := []) (N := 108) Try.func11 rfl rfl rfl (fun w0 G0 hL0 hpre => ?_)
 refine sr <| sg rfl rfl <| nr <| yy (Y0.build (vs := #[(0, .int .i64 2)]) (v := .agg (vecG (Value.int .i64) 8 (setF (fun _ => 0) 0 2)).toArray) rfl rfl (fun _ => by kernel_rfl)) rfl <| yy (Y0.build (vs := #[(0, .int .i64 1), (1, .int .i64 1)]) (v := .agg (vecG (Value.int .i64) 8 (setF (setF (fun _ => 0) 0 1) 1 1)).toArray) rfl rfl (fun _ => by kernel_rfl)) rfl ?_
 refine WL.litR (e := 48) (r := (Rp.vec .i64 8)) (vs := #[(0, .agg (vecG (Value.int .i64) 8 (setF (fun _ => 0) 0 2)).toArray), (1, .agg (vecG (Value.int .i64) 8 (setF (setF (fun _ => 0) 0 1) 1 1)).toArray)]) (cs := (vecG (Value.int .i64) 8 (setF (fun _ => 0) 0 2)) ++ ((vecG (Value.int .i64) 8 (setF (setF (fun _ => 0) 0 1) 1 1)) ++ ([]))) ([setF (fun _ => 0) 0 2, setF (setF (fun _ => 0) 0 1) 1 1] : List (Fin 8 → Int)) guard_none rfl rfl rfl rfl (by decide) (fun _ => by kernel_rfl) ⟨vecG (Value.int .i64) 8 (setF (fun _ => 0) 0 2), (vecG (Value.int .i64) 8 (setF (setF (fun _ => 0) 0 1) 1 1)) ++ ([]), rfl, rfl, ⟨vecG (Value.int .i64) 8 (setF (setF (fun _ => 0) 0 1) 1 1), [], rfl, rfl, rfl⟩⟩ (key := 999) rfl (by rw [hL0]; rfl) (fun p1 Gv1 Gv1le p1h => ?_)
 refine sg rfl rfl <| nr <| mv rfl rfl ?_
 obtain ⟨yv1, hyv1, hr⟩ := hr
 refine WL.call guard_none rfl (YC.of E14 rfl) (L_components_Irreducible _ _ _ _ _ hyv1) rfl (p1h) (fun yv1v Gv2 Gv2le yv1post => ?_)
 obtain ⟨yv1r0p, yv1r0c, rfl, yv1r0h⟩ := yv1post
 refine mv rfl rfl <| yy (Y0.extract rfl rfl) rfl <| yy (Y0.extract rfl rfl) rfl <| sg rfl rfl <| sg rfl rfl <| nr ?_
 refine mv rfl rfl ?_
 obtain ⟨yv2, hyv2, hr⟩ := hr
 refine WL.call guard_none rfl (YC.of E16 rfl) (L_components_Primes _ _ _ _ _ hyv2) rfl ((p1h.mono Gv2le)) (fun yv2v Gv3 Gv3le yv2post => ?_)
 obtain ⟨yv2r0p, yv2r0c, rfl, yv2r0h⟩ := yv2post
 refine mv rfl rfl <| yy (Y0.extract rfl rfl) rfl <| yy (Y0.extract rfl rfl) rfl <| sg rfl rfl <| sg rfl rfl <| nr ?_
 refine mv rfl rfl ?_
 obtain ⟨yv3, hyv3, hr⟩ := hr
 refine WL.call guard_none rfl (YC.of E18 rfl) (L_components_Embedded _ _ _ _ _ hyv3) rfl ((p1h.mono (Mem.le_trans Gv2le Gv3le))) (fun yv3v Gv4 Gv4le yv3post => ?_)
 obtain ⟨yv3r0p, yv3r0c, rfl, yv3r0h⟩ := yv3post
 refine mv rfl rfl <| yy (Y0.extract rfl rfl) rfl <| yy (Y0.extract rfl rfl) rfl <| sg rfl rfl <| sg rfl rfl <| nr ?_
 refine mv rfl rfl ?_
 obtain ⟨yv4, hyv4, hr⟩ := hr
 refine WL.call guard_none rfl (YC.of E20 rfl) (L_components_Primary _ _ _ _ _ hyv4) rfl ((p1h.mono (Mem.le_trans (Mem.le_trans Gv2le Gv3le) Gv4le))) (fun yv4v Gv5 Gv5le yv4post => ?_)
 obtain ⟨yv4r0p, yv4r0c, rfl, yv4r0h⟩ := yv4post
 refine mv rfl rfl <| yy (Y0.extract rfl rfl) rfl <| yy (Y0.extract rfl rfl) rfl <| sg rfl rfl <| sg rfl rfl <| nr ?_
 refine mv rfl rfl ?_
 obtain ⟨yv5, hyv5, hr⟩ := hr
 refine WL.call guard_none rfl (YC.of E16 rfl) (L_components_Primes _ _ _ _ _ hyv5) rfl ((p1h.mono (Mem.le_trans (Mem.le_trans (Mem.le_trans Gv2le Gv3le) Gv4le) Gv5le))) (fun yv5v Gv6 Gv6le yv5post => ?_)
 obtain ⟨yv5r0p, yv5r0c, rfl, yv5r0h⟩ := yv5post
 refine mv rfl rfl <| yy (Y0.extract rfl rfl) rfl <| yy (Y0.extract rfl rfl) rfl <| sg rfl rfl <| sg rfl rfl <| nx ?_
 refine WC.seqH (fun (gx : Bool × Mem) => match gx with | ⟨v12_1, Gm1⟩ => [(1, .slice p1 2 2), (2, .slice yv1r0p yv1.1.length yv1r0c), (4, .slice yv2r0p yv2.1.length yv2r0c), (6, .slice yv3r0p yv3.1.length yv3r0c), (8, .slice yv4r0p yv4.1.length yv4r0c), (12, .bool v12_1)]) (fun (gx : Bool × Mem) => match gx with | ⟨v12_1, Gm1⟩ => Mem.le Gv6 Gm1 ∧ (law21_sanity_k1 yv1 yv2 yv3 yv4 v12_1).Ret r) (fun (gx : Bool × Mem) => match gx with | ⟨v12_1, Gm1⟩ => St w0 G0 Gm1 []) ?_ ?_
 ·skip
  refine WC.region <| mv rfl rfl ?_
  refine WL.caseY0 (p := yv1.2 = 0) guard_none (Y0.eql rfl rfl) rfl (fun hb2 => ?_) (fun hb2 => ?_)
  ·replace hr := hr.pos hb2
   refine mv rfl rfl ?_
   refine WL.y0' (guard_yes rfl rfl) (Y0.move rfl) rfl ?_
   refine WL.caseY0 (p := yv2.2 = 0) (guard_yes rfl rfl) (Y0.eql rfl rfl) rfl (fun hb3 => ?_) (fun hb3 => ?_)
   ·replace hr := hr.pos hb3
    refine yy (Y0.pickT rfl rfl) rfl <| mv rfl rfl ?_
    refine WL.y0' (guard_yes rfl rfl) (Y0.move rfl) rfl ?_
    refine WL.caseY0 (p := yv3.2 = 0) (guard_yes rfl rfl) (Y0.eql rfl rfl) rfl (fun hb4 => ?_) (fun hb4 => ?_)
    ·replace hr := hr.pos hb4
     refine yy (Y0.pickT rfl rfl) rfl <| mv rfl rfl ?_
     refine WL.y0' (guard_yes rfl rfl) (Y0.move rfl) rfl ?_
     refine WL.caseY0 (p := yv4.2 = 0) (guard_yes rfl rfl) (Y0.eql rfl rfl) rfl (fun hb5 => ?_) (fun hb5 => ?_)
     ·replace hr := hr.pos hb5
      refine yy (Y0.pickT rfl rfl) rfl <| mv rfl rfl ?_
      refine WL.y0' (guard_yes rfl rfl) (Y0.move rfl) rfl ?_
      refine WL.y0' (guard_yes rfl rfl) (Y0.eql rfl rfl) rfl ?_
      refine yy (Y0.pickT rfl rfl) rfl <| sg rfl rfl <| WL.nil ?_
      refine WE.midH ⟨decide (yv5.2 = 1), Gv6⟩ ⟨(Mem.le_refl _), hr⟩ (Fr.sub_cons rfl (Fr.sub_cons rfl (Fr.sub_cons rfl (Fr.sub_cons rfl (Fr.sub_cons rfl (Fr.sub_cons rfl (Fr.sub_nil _))))))) ?_
      ·intro w hs
       exact hs.weaken (Lo.sub_nil _)
     ·replace hr := hr.neg hb5
      refine yy (Y0.pickT rfl rfl) rfl <| mv rfl rfl <| sk rfl rfl rfl <| sk rfl rfl rfl <| yy (Y0.pickF rfl rfl) rfl <| sg rfl rfl ?_
      refine WL.nil ?_
      refine WE.midH ⟨false, Gv6⟩ ⟨(Mem.le_refl _), hr⟩ (Fr.sub_cons rfl (Fr.sub_cons rfl (Fr.sub_cons rfl (Fr.sub_cons rfl (Fr.sub_cons rfl (Fr.sub_cons rfl (Fr.sub_nil _))))))) ?_
      ·intro w hs
       exact hs.weaken (Lo.sub_nil _)
    ·replace hr := hr.neg hb4
     refine yy (Y0.pickT rfl rfl) rfl <| mv rfl rfl <| sk rfl rfl rfl <| sk rfl rfl rfl <| yy (Y0.pickF rfl rfl) rfl <| mv rfl rfl ?_
     refine sk rfl rfl rfl <| sk rfl rfl rfl <| yy (Y0.pickF rfl rfl) rfl <| sg rfl rfl <| WL.nil ?_
     refine WE.midH ⟨false, Gv6⟩ ⟨(Mem.le_refl _), hr⟩ (Fr.sub_cons rfl (Fr.sub_cons rfl (Fr.sub_cons rfl (Fr.sub_cons rfl (Fr.sub_cons rfl (Fr.sub_cons rfl (Fr.sub_nil _))))))) ?_
     ·intro w hs
      exact hs.weaken (Lo.sub_nil _)
   ·replace hr := hr.neg hb3
    refine yy (Y0.pickT rfl rfl) rfl <| mv rfl rfl <| sk rfl rfl rfl <| sk rfl rfl rfl <| yy (Y0.pickF rfl rfl) rfl <| mv rfl rfl ?_
    refine sk rfl rfl rfl <| sk rfl rfl rfl <| yy (Y0.pickF rfl rfl) rfl <| mv rfl rfl <| sk rfl rfl rfl <| sk rfl rfl rfl ?_
    refine yy (Y0.pickF rfl rfl) rfl <| sg rfl rfl <| WL.nil ?_
    refine WE.midH ⟨false, Gv6⟩ ⟨(Mem.le_refl _), hr⟩ (Fr.sub_cons rfl (Fr.sub_cons rfl (Fr.sub_cons rfl (Fr.sub_cons rfl (Fr.sub_cons rfl (Fr.sub_cons rfl (Fr.sub_nil _))))))) ?_
    ·intro w hs
     exact hs.weaken (Lo.sub_nil _)
  ·replace hr := hr.neg hb2
   refine mv rfl rfl <| sk rfl rfl rfl <| sk rfl rfl rfl <| yy (Y0.pickF rfl rfl) rfl <| mv rfl rfl <| sk rfl rfl rfl ?_
   refine sk rfl rfl rfl <| yy (Y0.pickF rfl rfl) rfl <| mv rfl rfl <| sk rfl rfl rfl <| sk rfl rfl rfl <| yy (Y0.pickF rfl rfl) rfl ?_
   refine mv rfl rfl <| sk rfl rfl rfl <| sk rfl rfl rfl <| yy (Y0.pickF rfl rfl) rfl <| sg rfl rfl <| WL.nil ?_
   refine WE.midH ⟨false, Gv6⟩ ⟨(Mem.le_refl _), hr⟩ (Fr.sub_cons rfl (Fr.sub_cons rfl (Fr.sub_cons rfl (Fr.sub_cons rfl (Fr.sub_cons rfl (Fr.sub_cons rfl (Fr.sub_nil _))))))) ?_
   ·intro w hs
    exact hs.weaken (Lo.sub_nil _)
 ·rintro ⟨v12_1, Gm1⟩ ⟨Gm1le, hr⟩
  refine sr <| yy (Y0.build (vs := #[(0, .int .i64 1)]) (v := .agg (vecG (Value.int .i64) 8 (setF (fun _ => 0) 0 1)).toArray) rfl rfl (fun _ => by kernel_rfl)) rfl ?_
  refine WL.litR (e := 48) (r := (Rp.vec .i64 8)) (vs := #[(0, .agg (vecG (Value.int .i64) 8 (setF (fun _ => 0) 0 1)).toArray)]) (cs := (vecG (Value.int .i64) 8 (setF (fun _ => 0) 0 1)) ++ ([])) ([setF (fun _ => 0) 0 1] : List (Fin 8 → Int)) guard_none rfl rfl rfl rfl (by decide) (fun _ => by kernel_rfl) ⟨vecG (Value.int .i64) 8 (setF (fun _ => 0) 0 1), [], rfl, rfl, rfl⟩ (key := 999) rfl (by rw [hL0]; rfl) (fun p2 Gv7 Gv7le p2h => ?_)
  refine yy (Y0.build (vs := #[(0, .int .u8 1), (1, .slice p2 1 1)]) (v := .agg ([.int .u8 1, .slice p2 1 1]).toArray) rfl rfl (fun _ => by kernel_rfl)) rfl <| yy (Y0.build (vs := #[(0, .int .i64 2)]) (v := .agg (vecG (Value.int .i64) 8 (setF (fun _ => 0) 0 2)).toArray) rfl rfl (fun _ => by kernel_rfl)) rfl ?_
  refine yy (Y0.build (vs := #[(0, .int .i64 0), (1, .int .i64 1)]) (v := .agg (vecG (Value.int .i64) 8 (setF (setF (fun _ => 0) 0 0) 1 1)).toArray) rfl rfl (fun _ => by kernel_rfl)) rfl ?_
  refine WL.litR (e := 48) (r := (Rp.vec .i64 8)) (vs := #[(0, .agg (vecG (Value.int .i64) 8 (setF (fun _ => 0) 0 2)).toArray), (1, .agg (vecG (Value.int .i64) 8 (setF (setF (fun _ => 0) 0 0) 1 1)).toArray)]) (cs := (vecG (Value.int .i64) 8 (setF (fun _ => 0) 0 2)) ++ ((vecG (Value.int .i64) 8 (setF (setF (fun _ => 0) 0 0) 1 1)) ++ ([]))) ([setF (fun _ => 0) 0 2, setF (setF (fun _ => 0) 0 0) 1 1] : List (Fin 8 → Int)) guard_none rfl rfl rfl rfl (by decide) (fun _ => by kernel_rfl) ⟨vecG (Value.int .i64) 8 (setF (fun _ => 0) 0 2), (vecG (Value.int .i64) 8 (setF (setF (fun _ => 0) 0 0) 1 1)) ++ ([]), rfl, rfl, ⟨vecG (Value.int .i64) 8 (setF (setF (fun _ => 0) 0 0) 1 1), [], rfl, rfl, rfl⟩⟩ (key := 999) rfl (by rw [hL0]; rfl) (fun p3 Gv8 Gv8le p3h => ?_)
  refine yy (Y0.build (vs := #[(0, .int .u8 3), (1, .slice p3 2 2)]) (v := .agg ([.int .u8 3, .slice p3 2 2]).toArray) rfl rfl (fun _ => by kernel_rfl)) rfl ?_
  refine WL.litR (e := 60) (r := rp_api_Part) (vs := #[(0, .agg ([.int .u8 1, .slice p2 1 1]).toArray), (1, .agg ([.int .u8 3, .slice p3 2 2]).toArray)]) (cs := [.int .u8 1, .slice p2 1 1] ++ ([.int .u8 3, .slice p3 2 2] ++ ([]))) ([(T_api_Part.mk 1 [setF (fun _ => 0) 0 1]), (T_api_Part.mk 3 [setF (fun _ => 0) 0 2, setF (setF (fun _ => 0) 0 0) 1 1])] : List T_api_Part) guard_none rfl rfl rfl rfl (by decide) (fun _ => by kernel_rfl) ⟨[.int .u8 1, .slice p2 1 1], [.int .u8 3, .slice p3 2 2] ++ ([]), rfl, ⟨[.int .u8 1], [.slice p2 1 1], rfl, rfl, ⟨_, rfl, (p2h.mono Gv8le)⟩⟩, ⟨[.int .u8 3, .slice p3 2 2], [], rfl, ⟨[.int .u8 3], [.slice p3 2 2], rfl, rfl, ⟨_, rfl, p3h⟩⟩, rfl⟩⟩ (key := 999) rfl (by rw [hL0]; rfl) (fun p4 Gv9 Gv9le p4h => ?_)
  refine sg rfl rfl <| nr ?_
  refine WL.caseY0 (p := v12_1 = true) guard_none (Y0.eq (Y0.move rfl) (congrArg Value.bool (bdec _))) rfl (fun hb1 => ?_) (fun hb1 => ?_)
  ·replace hr := hr.pos hb1
   refine mv rfl rfl ?_
   refine WL.y0' (guard_yes rfl rfl) (Y0.move rfl) rfl ?_
   refine WL.y0' (guard_yes rfl rfl) (Y0.build (vs := #[(0, .int .i64 2), (1, .int .i64 1)]) (v := .agg (vecG (Value.int .i64) 8 (setF (setF (fun _ => 0) 0 2) 1 1)).toArray) rfl rfl (fun _ => by kernel_rfl)) rfl ?_
   refine WL.y0' (guard_yes rfl rfl) (Y0.build (vs := #[(0, .int .i64 1)]) (v := .agg (vecG (Value.int .i64) 8 (setF (fun _ => 0) 0 1)).toArray) rfl rfl (fun _ => by kernel_rfl)) rfl ?_
   refine WL.litR (e := 48) (r := (Rp.vec .i64 8)) (vs := #[(0, .agg (vecG (Value.int .i64) 8 (setF (setF (fun _ => 0) 0 2) 1 1)).toArray), (1, .agg (vecG (Value.int .i64) 8 (setF (fun _ => 0) 0 1)).toArray)]) (cs := (vecG (Value.int .i64) 8 (setF (setF (fun _ => 0) 0 2) 1 1)) ++ ((vecG (Value.int .i64) 8 (setF (fun _ => 0) 0 1)) ++ ([]))) ([setF (setF (fun _ => 0) 0 2) 1 1, setF (fun _ => 0) 0 1] : List (Fin 8 → Int)) (guard_yes rfl rfl) rfl rfl rfl rfl (by decide) (fun _ => by kernel_rfl) ⟨vecG (Value.int .i64) 8 (setF (setF (fun _ => 0) 0 2) 1 1), (vecG (Value.int .i64) 8 (setF (fun _ => 0) 0 1)) ++ ([]), rfl, rfl, ⟨vecG (Value.int .i64) 8 (setF (fun _ => 0) 0 1), [], rfl, rfl, rfl⟩⟩ (key := 999) rfl (by rw [hL0]; rfl) (fun p5 Gv10 Gv10le p5h => ?_)
   obtain ⟨yv6, hyv6, hr⟩ := hr
   refine WL.call0 (guard_yes rfl rfl) rfl (YC.of E22 rfl) (L_R04_Same _ _ _ _ _ _ _ hyv6) rfl (⟨(yv1r0h.mono (Mem.le_trans (Mem.le_trans (Mem.le_trans (Mem.le_trans (Mem.le_trans (Mem.le_trans (Mem.le_trans (Mem.le_trans Gv3le Gv4le) Gv5le) Gv6le) Gm1le) Gv7le) Gv8le) Gv9le) Gv10le)), p5h⟩) ?_
   cases yv6
   ·skip
    refine yy (Y0.pickT rfl rfl) rfl <| mv rfl rfl <| sk rfl rfl rfl <| sk rfl rfl rfl <| sk rfl rfl rfl <| yy (Y0.pickF rfl rfl) rfl ?_
    refine mv rfl rfl <| sk rfl rfl rfl <| sk rfl rfl rfl <| sk rfl rfl rfl <| yy (Y0.pickF rfl rfl) rfl <| mv rfl rfl ?_
    refine sk rfl rfl rfl <| sk rfl rfl rfl <| sk rfl rfl rfl <| yy (Y0.pickF rfl rfl) rfl <| mv rfl rfl <| sk rfl rfl rfl ?_
    refine sk rfl rfl rfl <| sk rfl rfl rfl <| sk rfl rfl rfl <| sk rfl rfl rfl <| yy (Y0.pickF rfl rfl) rfl <| mv rfl rfl ?_
    refine sk rfl rfl rfl <| sk rfl rfl rfl <| sk rfl rfl rfl <| sk rfl rfl rfl <| sk rfl rfl rfl <| sk rfl rfl rfl ?_
    refine sk rfl rfl rfl <| sk rfl rfl rfl <| yy (Y0.pickF rfl rfl) rfl <| sg rfl rfl <| nx ?_
    refine WC.ret ?_
    replace hr : _ = r := hr
    subst hr
    exact WE.ret1 rfl rfl rfl
   ·skip
    refine yy (Y0.pickT rfl rfl) rfl <| mv rfl rfl ?_
    refine WL.y0' (guard_yes rfl rfl) (Y0.move rfl) rfl ?_
    refine WL.litR (e := 5) (r := (Rp.int .u8)) (vs := #[(0, .int .u8 1), (1, .int .u8 3)]) (cs := [.int .u8 1] ++ ([.int .u8 3] ++ ([]))) ([1, 3] : List Int) (guard_yes rfl rfl) rfl rfl rfl rfl (by decide) (fun _ => by kernel_rfl) ⟨[.int .u8 1], [.int .u8 3] ++ ([]), rfl, rfl, ⟨[.int .u8 3], [], rfl, rfl, rfl⟩⟩ (key := 999) rfl (by rw [hL0]; rfl) (fun p6 Gv12 Gv12le p6h => ?_)
    obtain ⟨yv7, hyv7, hr⟩ := hr
    refine WL.call0 (guard_yes rfl rfl) rfl (YC.of E23 rfl) (L_R18_SameSets _ _ _ _ _ _ _ hyv7) rfl (⟨(yv2r0h.mono (Mem.le_trans (Mem.le_trans (Mem.le_trans (Mem.le_trans (Mem.le_trans (Mem.le_trans (Mem.le_trans (Mem.le_trans Gv4le Gv5le) Gv6le) Gm1le) Gv7le) Gv8le) Gv9le) Gv10le) Gv12le)), p6h⟩) ?_
    cases yv7
    ·skip
     refine yy (Y0.pickT rfl rfl) rfl <| mv rfl rfl <| sk rfl rfl rfl <| sk rfl rfl rfl <| sk rfl rfl rfl <| yy (Y0.pickF rfl rfl) rfl ?_
     refine mv rfl rfl <| sk rfl rfl rfl <| sk rfl rfl rfl <| sk rfl rfl rfl <| yy (Y0.pickF rfl rfl) rfl <| mv rfl rfl ?_
     refine sk rfl rfl rfl <| sk rfl rfl rfl <| sk rfl rfl rfl <| sk rfl rfl rfl <| sk rfl rfl rfl <| yy (Y0.pickF rfl rfl) rfl ?_
     refine mv rfl rfl <| sk rfl rfl rfl <| sk rfl rfl rfl <| sk rfl rfl rfl <| sk rfl rfl rfl <| sk rfl rfl rfl ?_
     refine sk rfl rfl rfl <| sk rfl rfl rfl <| sk rfl rfl rfl <| yy (Y0.pickF rfl rfl) rfl <| sg rfl rfl <| nx ?_
     refine WC.ret ?_
     replace hr : _ = r := hr
     subst hr
     exact WE.ret1 rfl rfl rfl
    ·skip
     refine yy (Y0.pickT rfl rfl) rfl <| mv rfl rfl ?_
     refine WL.y0' (guard_yes rfl rfl) (Y0.move rfl) rfl ?_
     refine WL.litR (e := 5) (r := (Rp.int .u8)) (vs := #[(0, .int .u8 3)]) (cs := [.int .u8 3] ++ ([])) ([3] : List Int) (guard_yes rfl rfl) rfl rfl rfl rfl (by decide) (fun _ => by kernel_rfl) ⟨[.int .u8 3], [], rfl, rfl, rfl⟩ (key := 999) rfl (by rw [hL0]; rfl) (fun p7 Gv14 Gv14le p7h => ?_)
     obtain ⟨yv8, hyv8, hr⟩ := hr
     refine WL.call0 (guard_yes rfl rfl) rfl (YC.of E23 rfl) (L_R18_SameSets _ _ _ _ _ _ _ hyv8) rfl (⟨(yv3r0h.mono (Mem.le_trans (Mem.le_trans (Mem.le_trans (Mem.le_trans (Mem.le_trans (Mem.le_trans (Mem.le_trans (Mem.le_trans Gv5le Gv6le) Gm1le) Gv7le) Gv8le) Gv9le) Gv10le) Gv12le) Gv14le)), p7h⟩) ?_
     cases yv8
     ·skip
      refine yy (Y0.pickT rfl rfl) rfl <| mv rfl rfl <| sk rfl rfl rfl <| sk rfl rfl rfl <| sk rfl rfl rfl <| yy (Y0.pickF rfl rfl) rfl ?_
      refine mv rfl rfl <| sk rfl rfl rfl <| sk rfl rfl rfl <| sk rfl rfl rfl <| sk rfl rfl rfl <| sk rfl rfl rfl ?_
      refine yy (Y0.pickF rfl rfl) rfl <| mv rfl rfl <| sk rfl rfl rfl <| sk rfl rfl rfl <| sk rfl rfl rfl <| sk rfl rfl rfl ?_
      refine sk rfl rfl rfl <| sk rfl rfl rfl <| sk rfl rfl rfl <| sk rfl rfl rfl <| yy (Y0.pickF rfl rfl) rfl <| sg rfl rfl ?_
      refine nx ?_
      refine WC.ret ?_
      replace hr : _ = r := hr
      subst hr
      exact WE.ret1 rfl rfl rfl
     ·skip
      refine yy (Y0.pickT rfl rfl) rfl <| mv rfl rfl ?_
      refine WL.y0' (guard_yes rfl rfl) (Y0.move rfl) rfl ?_
      refine WL.y0' (guard_yes rfl rfl) (Y0.move rfl) rfl ?_
      obtain ⟨yv9, hyv9, hr⟩ := hr
      refine WL.call0 (guard_yes rfl rfl) rfl (YC.of E24 rfl) (L_R21_SameParts _ _ _ _ _ _ _ hyv9) rfl (⟨(yv4r0h.mono (Mem.le_trans (Mem.le_trans (Mem.le_trans (Mem.le_trans (Mem.le_trans (Mem.le_trans (Mem.le_trans Gv6le Gm1le) Gv7le) Gv8le) Gv9le) Gv10le) Gv12le) Gv14le)), (p4h.mono (Mem.le_trans (Mem.le_trans Gv10le Gv12le) Gv14le))⟩) ?_
      cases yv9
      ·skip
       refine yy (Y0.pickT rfl rfl) rfl <| mv rfl rfl <| sk rfl rfl rfl <| sk rfl rfl rfl <| sk rfl rfl rfl <| sk rfl rfl rfl ?_
       refine sk rfl rfl rfl <| yy (Y0.pickF rfl rfl) rfl <| mv rfl rfl <| sk rfl rfl rfl <| sk rfl rfl rfl <| sk rfl rfl rfl ?_
       refine sk rfl rfl rfl <| sk rfl rfl rfl <| sk rfl rfl rfl <| sk rfl rfl rfl <| sk rfl rfl rfl <| yy (Y0.pickF rfl rfl) rfl ?_
       refine sg rfl rfl <| nx ?_
       refine WC.ret ?_
       replace hr : _ = r := hr
       subst hr
       exact WE.ret1 rfl rfl rfl
      ·skip
       refine yy (Y0.pickT rfl rfl) rfl <| mv rfl rfl ?_
       refine WL.y0' (guard_yes rfl rfl) (Y0.move rfl) rfl ?_
       obtain ⟨yv10, hyv10, hr⟩ := hr
       refine WL.call (guard_yes rfl rfl) rfl (YC.of E27 rfl) (L_components_Radical _ _ _ _ hyv10) rfl ((p1h.mono (Mem.le_trans (Mem.le_trans (Mem.le_trans (Mem.le_trans (Mem.le_trans (Mem.le_trans (Mem.le_trans (Mem.le_trans (Mem.le_trans (Mem.le_trans (Mem.le_trans Gv2le Gv3le) Gv4le) Gv5le) Gv6le) Gm1le) Gv7le) Gv8le) Gv9le) Gv10le) Gv12le) Gv14le))) (fun yv10v Gv17 Gv17le yv10post => ?_)
       obtain ⟨yv10p, yv10c, rfl, yv10h⟩ := yv10post
       refine WL.y0' (guard_yes rfl rfl) (Y0.build (vs := #[(0, .int .i64 1)]) (v := .agg (vecG (Value.int .i64) 8 (setF (fun _ => 0) 0 1)).toArray) rfl rfl (fun _ => by kernel_rfl)) rfl ?_
       refine WL.litR (e := 48) (r := (Rp.vec .i64 8)) (vs := #[(0, .agg (vecG (Value.int .i64) 8 (setF (fun _ => 0) 0 1)).toArray)]) (cs := (vecG (Value.int .i64) 8 (setF (fun _ => 0) 0 1)) ++ ([])) ([setF (fun _ => 0) 0 1] : List (Fin 8 → Int)) (guard_yes rfl rfl) rfl rfl rfl rfl (by decide) (fun _ => by kernel_rfl) ⟨vecG (Value.int .i64) 8 (setF (fun _ => 0) 0 1), [], rfl, rfl, rfl⟩ (key := 999) rfl (by rw [hL0]; rfl) (fun p8 Gv18 Gv18le p8h => ?_)
       obtain ⟨yv11, hyv11, hr⟩ := hr
       refine WL.call0 (guard_yes rfl rfl) rfl (YC.of E22 rfl) (L_R04_Same _ _ _ _ _ _ _ hyv11) rfl (⟨(yv10h.mono Gv18le), p8h⟩) ?_
       cases yv11
       ·skip
        refine yy (Y0.pickT rfl rfl) rfl <| mv rfl rfl <| sk rfl rfl rfl <| sk rfl rfl rfl <| sk rfl rfl rfl <| sk rfl rfl rfl ?_
        refine sk rfl rfl rfl <| sk rfl rfl rfl <| sk rfl rfl rfl <| sk rfl rfl rfl <| yy (Y0.pickF rfl rfl) rfl <| sg rfl rfl ?_
        refine nx ?_
        refine WC.ret ?_
        replace hr : _ = r := hr
        subst hr
        exact WE.ret1 rfl rfl rfl
       ·skip
        refine yy (Y0.pickT rfl rfl) rfl <| mv rfl rfl ?_
        refine WL.y0' (guard_yes rfl rfl) (Y0.build (vs := #[(0, .int .i64 1)]) (v := .agg (vecG (Value.int .i64) 8 (setF (fun _ => 0) 0 1)).toArray) rfl rfl (fun _ => by kernel_rfl)) rfl ?_
        refine WL.litR (e := 48) (r := (Rp.vec .i64 8)) (vs := #[(0, .agg (vecG (Value.int .i64) 8 (setF (fun _ => 0) 0 1)).toArray)]) (cs := (vecG (Value.int .i64) 8 (setF (fun _ => 0) 0 1)) ++ ([])) ([setF (fun _ => 0) 0 1] : List (Fin 8 → Int)) (guard_yes rfl rfl) rfl rfl rfl rfl (by decide) (fun _ => by kernel_rfl) ⟨vecG (Value.int .i64) 8 (setF (fun _ => 0) 0 1), [], rfl, rfl, rfl⟩ (key := 999) rfl (by rw [hL0]; rfl) (fun p9 Gv20 Gv20le p9h => ?_)
        refine WL.y0' (guard_yes rfl rfl) (Y0.build (vs := #[(0, .int .i64 0), (1, .int .i64 1)]) (v := .agg (vecG (Value.int .i64) 8 (setF (setF (fun _ => 0) 0 0) 1 1)).toArray) rfl rfl (fun _ => by kernel_rfl)) rfl ?_
        refine WL.litR (e := 48) (r := (Rp.vec .i64 8)) (vs := #[(0, .agg (vecG (Value.int .i64) 8 (setF (setF (fun _ => 0) 0 0) 1 1)).toArray)]) (cs := (vecG (Value.int .i64) 8 (setF (setF (fun _ => 0) 0 0) 1 1)) ++ ([])) ([setF (setF (fun _ => 0) 0 0) 1 1] : List (Fin 8 → Int)) (guard_yes rfl rfl) rfl rfl rfl rfl (by decide) (fun _ => by kernel_rfl) ⟨vecG (Value.int .i64) 8 (setF (setF (fun _ => 0) 0 0) 1 1), [], rfl, rfl, rfl⟩ (key := 999) rfl (by rw [hL0]; rfl) (fun p10 Gv21 Gv21le p10h => ?_)
        obtain ⟨yv12, hyv12, hr⟩ := hr
        refine WL.call (guard_yes rfl rfl) rfl (YC.of E25 rfl) (L_components_Meet _ _ _ _ _ _ _ hyv12) rfl (⟨(p9h.mono Gv21le), p10h⟩) (fun yv12v Gv22 Gv22le yv12post => ?_)
        obtain ⟨yv12p, yv12c, rfl, yv12h⟩ := yv12post
        refine WL.y0' (guard_yes rfl rfl) (Y0.build (vs := #[(0, .int .i64 1), (1, .int .i64 1)]) (v := .agg (vecG (Value.int .i64) 8 (setF (setF (fun _ => 0) 0 1) 1 1)).toArray) rfl rfl (fun _ => by kernel_rfl)) rfl ?_
        refine WL.litR (e := 48) (r := (Rp.vec .i64 8)) (vs := #[(0, .agg (vecG (Value.int .i64) 8 (setF (setF (fun _ => 0) 0 1) 1 1)).toArray)]) (cs := (vecG (Value.int .i64) 8 (setF (setF (fun _ => 0) 0 1) 1 1)) ++ ([])) ([setF (setF (fun _ => 0) 0 1) 1 1] : List (Fin 8 → Int)) (guard_yes rfl rfl) rfl rfl rfl rfl (by decide) (fun _ => by kernel_rfl) ⟨vecG (Value.int .i64) 8 (setF (setF (fun _ => 0) 0 1) 1 1), [], rfl, rfl, rfl⟩ (key := 999) rfl (by rw [hL0]; rfl) (fun p11 Gv23 Gv23le p11h => ?_)
        obtain ⟨yv13, hyv13, hr⟩ := hr
        refine WL.call0 (guard_yes rfl rfl) rfl (YC.of E22 rfl) (L_R04_Same _ _ _ _ _ _ _ hyv13) rfl (⟨(yv12h.mono Gv23le), p11h⟩) ?_
        refine yy (Y0.pickT rfl rfl) rfl <| sg rfl rfl <| nx ?_
        refine WC.ret ?_
        replace hr : _ = r := hr
        subst hr
        exact WE.ret1 rfl rfl rfl
  ·replace hr := hr.neg hb1
   refine mv rfl rfl <| sk rfl rfl rfl <| sk rfl rfl rfl <| sk rfl rfl rfl <| sk rfl rfl rfl <| sk rfl rfl rfl ?_
   refine yy (Y0.pickF rfl rfl) rfl <| mv rfl rfl <| sk rfl rfl rfl <| sk rfl rfl rfl <| sk rfl rfl rfl <| yy (Y0.pickF rfl rfl) rfl ?_
   refine mv rfl rfl <| sk rfl rfl rfl <| sk rfl rfl rfl <| sk rfl rfl rfl <| yy (Y0.pickF rfl rfl) rfl <| mv rfl rfl ?_
   refine sk rfl rfl rfl <| sk rfl rfl rfl <| sk rfl rfl rfl <| yy (Y0.pickF rfl rfl) rfl <| mv rfl rfl <| sk rfl rfl rfl ?_
   refine sk rfl rfl rfl <| sk rfl rfl rfl <| sk rfl rfl rfl <| sk rfl rfl rfl <| yy (Y0.pickF rfl rfl) rfl <| mv rfl rfl ?_
   refine sk rfl rfl rfl <| sk rfl rfl rfl <| sk rfl rfl rfl <| sk rfl rfl rfl <| sk rfl rfl rfl <| sk rfl rfl rfl ?_
   refine sk rfl rfl rfl <| sk rfl rfl rfl <| yy (Y0.pickF rfl rfl) rfl <| sg rfl rfl <| nx ?_
   refine WC.ret ?_
   replace hr : _ = r := hr
   subst hr
   exact WE.ret1 rfl rfl rfl
end Go.Proofs.Ytbdknlblnfnkkaa
