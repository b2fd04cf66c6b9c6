/- slices.Sorted(maps.Keys(m)). The conditions stand in each statement. -/
import Derived.Test.YtbdknlblnfnkkaaElv
namespace Go.EL
open Go Go.RowKit Go.Proofs
section
variable {P : Program} {K : Type} {kt : TypeId}
def SortedL (P : Program) (f g : FuncId) (ky : Ky P kt K) (r : Rp K) (e : TypeId) (sm : List K → Comp (List K)) : Prop :=
  ∀ {V : Type} (Rv : K → Value → V → Prop) (v : Value) (D : List (K × V)) (tk : Option Ow) (bm kk : Nat) (Φ : List K → Prop), kk ≠ 7000 ∧ kk ≠ 5000 → MapR ky Rv v D tk → (∀ ks, ks.Perm (D.map (·.1)) → ∃ y, (sm ks).Ret y ∧ Φ y) →
    CtrL P f #[.func (.func g) #[] #[.pointer (some ⟨bm, 0, none⟩)]] [(kk, tk)] (fun G => G bm 0 = some v) (fun G L u => ∃ y p c tk2, L = [(7000, tk2), (kk, tk)] ∧ u = .slice p y.length c ∧ RowR r e G u y tk2 ∧ Φ y)
theorem sorted {f0 f1 f g : FuncId} {fn : Func} {ky : Ky P kt K} {r : Rp K} {e : TypeId} {sm : List K → Comp (List K)} {i0 i1 i2 i3 : Nat} {y2 y4 y5 y3 y6 y7 y8 y9 : TypeId} {p2 p4 p5 p3 p6 p7 p8 p9 : String} {a2 a4 a5 a3 a6 a7 a8 a9 : Array Edge} {ts tu : Array TypeId} (h : CollectsL P f0 #[] g ky r e)
    (hs : ∀ xs p c tk y, (sm xs).Ret y → CtrL P f1 #[.slice p xs.length c] [(5000, tk)] (fun G => RowR r e G (.slice p xs.length c) xs tk) (fun G L v => ∃ zk, L = [(5000, zk)] ∧ v = .tuple #[] ∧ RowR r e G (.slice p xs.length c) y zk)) (hE : Enters P f0) (hE1 : Enters P f1)
    (hf : P.funcs[f]? = some fn) (hb : fn.body = some (.seq (.region i0 #[⟨some 2, .assign (.const (.slice none 0 0)), y2, p2, a2, none⟩] false)
      (.seq (.region i1 #[⟨some 4, .move (.tmp 0), y4, p4, a4, none⟩, ⟨some 5, .call ⟨.value (.func f0), #[.tmp 4], ts⟩, y5, p5, a5, none⟩, ⟨some 3, .assign (.tmp 5), y3, p3, a3, none⟩] false)
        (.seq (.region i2 #[⟨some 6, .move (.tmp 3), y6, p6, a6, none⟩, ⟨some 7, .call ⟨.value (.func f1), #[.tmp 6], tu⟩, y7, p7, a7, none⟩] false)
          (.seq (.region i3 #[⟨some 8, .move (.tmp 3), y8, p8, a8, none⟩, ⟨some 2, .assign (.tmp 8), y9, p9, a9, none⟩] false) .ret)))))
    (hN : fn.ntmps = 9) (hr : fn.results = #[.tmp 2]) : SortedL P f g ky r e sm := by
  intro V Rv v D tk bm kk Φ hkk hmap hΦ
  refine CtrL.enter (args := [_]) (N := 9) hf hb hN rfl (fun w0 G0 hL0 hpre => ?_)
  have hz : w0.L.zero := by rw [hL0]; intro p hp x hx; simp only [List.mem_singleton] at hp; subst hp; exact hmap.zero hx
  refine WC.seq (WC.region (WL.y0' guard_none (Y0.assign rfl) rfl (WL.nil (WE.then (WC.seq (WC.region (WL.y0' guard_none (Y0.move rfl) rfl ?_)))))))
  refine WL.callT guard_none rfl (YC.of hE rfl) (h Rv v D tk bm kk hkk hmap) rfl hpre (Lo.sub_refl _) hz (fun u G' L' hle hpost => ?_)
  obtain ⟨xs, p, c, tk2, rfl, rfl, hrow, hperm⟩ := hpost
  obtain ⟨y, hy, hΦy⟩ := hΦ xs hperm
  refine WL.y0' guard_none (Y0.assign rfl) rfl (WL.nil (WE.then (WC.seq (WC.region (WL.y0' guard_none (Y0.move rfl) rfl ?_)))))
  have h7 : w0.L.get 7000 = none := by rw [hL0, Lo.get_cons, if_neg hkk.1]; rfl
  have h5 : w0.L.get 5000 = none := by rw [hL0, Lo.get_cons, if_neg hkk.2]; rfl
  refine WL.conseq (fun w hs => hs.rekey (i := 7000) (j := 5000) rfl h7) ?_
  refine WL.callT guard_none rfl (YC.of hE1 rfl) (hs xs p c tk2 y hy) rfl hrow (Lo.sub_cons rfl (Lo.sub_nil _)) hz (fun u G2 L2 hle2 hpost => ?_)
  obtain ⟨zk, rfl, rfl, hrow2⟩ := hpost
  refine WL.nil (WE.then (WC.seq (WC.region (WL.y0' guard_none (Y0.move rfl) rfl (WL.y0' guard_none (Y0.assign rfl) rfl (WL.nil (WE.then (WC.ret ?_))))))))
  refine WE.conseq (S' := St w0 G0 G2 [(7000, zk), (kk, tk)]) (fun w hs => (hs.rekey (i := 5000) (j := 7000) rfl h5).weaken (Lo.sub_cons rfl (Lo.sub_cons ?_ (Lo.sub_nil _)))) ?_
  · simp only [Lo.without, List.map_cons, List.map_nil, List.cons_append, List.nil_append, Lo.get_cons, if_neg (Ne.symm hkk.1), if_neg (Ne.symm hkk.2), if_pos]
  exact WE.ret1 hr rfl ⟨y, p, c, zk, rfl, hrow2.eqv, hrow2, hΦy⟩
end
end Go.EL
