/- Contracts of the functions that choose the minimal monomials and list all monomials. The conditions stand in each statement. -/
import Derived.Test.YtdpmpefjplfgbaaMb
import Derived.Test.YtdpmpefjplfgbaaEll
import Derived.Test.YtdpmpefjplfgbaaShelf
namespace Go.Proofs.Ytdpmpefjplfgbaa
open Go Go.EL Go.RowKit
theorem aE27 : ∀ w, (isAgg 27).run Try.prog w = .ok true w := Try.isAgg27
theorem zE27 : ∀ w, (Go.sizeOf 27).run Try.prog w = .ok 8 w := Try.sizeOf27

theorem sReverse0  : Ctr Try.prog 42 #[.slice none 0 0] (fun G => True) (fun G r => r = .tuple #[]) := by
  refine Ctr.enter (args := [_]) (N := 28) Try.func42 rfl rfl rfl (fun w0 G0 hL0 hpre => ?_)
  refine WC.seq ?_
  refine WC.region ?_
  refine WL.y0' guard_none (Y0.move rfl) rfl ?_
  refine WL.y0' guard_none (Y0.lenSl Try.underlying42 rfl) rfl ?_
  first | refine WL.y0' guard_none (Y0.subI rfl rfl (by omega)) rfl ?_ | refine WL.y0' guard_none (Y0.sub rfl rfl) rfl ?_
  refine WL.y0' guard_none (Y0.assign rfl) rfl ?_
  refine WL.y0' guard_none (Y0.assign rfl) rfl ?_
  refine WL.nil ?_
  refine WE.then ?_
  refine WC.block ?_
  refine WC.loopH (fun (x : Unit) => [(2, .int .i64 0), (3, .int .i64 (-1))]) (fun (x : Unit) => True) (fun (x : Unit) => St w0 G0 G0 []) (fun (x : Unit) => 0) () ?_ ?_ ?_ ?_
  · exact Fr.sub_cons rfl (Fr.sub_cons rfl (Fr.sub_nil _))
  · trivial
  · intro w hs; exact hs
  rintro x hx
  skip
  refine WC.seq ?_
  refine WC.seq ?_
  refine WC.region ?_
  refine WL.y0' guard_none (Y0.move rfl) rfl ?_
  refine WL.y0' guard_none (Y0.move rfl) rfl ?_
  refine WL.caseY0 guard_none (Y0.lss rfl rfl) rfl (fun h9 => ?_) (fun h9 => ?_)
  · skip
    exact absurd h9 (by decide)
  · skip
    refine WL.nil ?_
    refine WE.then ?_
    refine WC.condF rfl ?_
    refine WC.exit ?_
    refine WE.thenExit ?_
    refine WE.thenExit ?_
    refine WE.exitHere ?_
    refine WE.retN ?_
    refine WE.ret0 rfl  ?_
    rfl

theorem mMin1n (m : M) (b4 : Nat) (l : List M) (hok : RowOk 8 none l.length (flat l)) : CtrL Try.prog 41 #[.agg (vecA m), .pointer (some ⟨b4, 0, none⟩)] ((4, b4, .cells #[rowV none l.length] 42 (0, 0)) :: rowL 1 27 none) (fun G => True) (fun G L r => L = ((4, b4, .cells #[rowV none l.length] 42 (0, 0)) :: rowL 1 27 none) ∧ r = .bool (inM m l)) := by
  refine CtrL.enter (args := [_, _]) (N := 7) Try.func41 rfl rfl rfl (fun w0 G0 hL0 hpre => ?_)
  refine WC.seq ?_
  refine WC.region ?_
  refine WL.box 2 guard_none rfl rfl (fun b2 => ?_)
  refine WL.y0' guard_none (Y0.assign rfl) rfl ?_
  refine WL.nil ?_
  refine WE.then ?_
  refine WC.seq ?_
  refine WC.region ?_
  refine WL.y0' guard_none (Y0.loadLA 2 ag27 rfl rfl rfl) rfl ?_
  refine WL.y0' guard_none (Y0.loadL 4 sc42 rfl rfl rfl) rfl ?_
  have hl0 : l = [] := List.eq_nil_of_length_eq_zero hok.2
  subst hl0
  refine WL.call0 guard_none rfl (YC.of E34 rfl) (mIn _ _ []) rfl (SlM.nil _) ?_
  refine WL.y0' guard_none (Y0.assign rfl) rfl ?_
  refine WL.nil ?_
  refine WE.then ?_
  refine WC.ret ?_
  refine WE.conseq (St.conseqL (L' := [(4, b4, .cells #[rowV none 0] 42 (0, 0))]) (Lo.sub_cons rfl (Lo.sub_nil _))) ?_
  refine WE.ret1 rfl rfl ?_
  exact ⟨rfl, rfl⟩

theorem mMin1s (m : M) (b4 : Nat) (l : List M) (r : Row) (hok : RowOk 8 (some r) l.length (flat l)) : CtrL Try.prog 41 #[.agg (vecA m), .pointer (some ⟨b4, 0, none⟩)] ((4, b4, .cells #[rowV (some r) l.length] 42 (0, 0)) :: rowL 1 27 (some r)) (fun G => True) (fun G L r0 => L = ((4, b4, .cells #[rowV (some r) l.length] 42 (0, 0)) :: rowL 1 27 (some r)) ∧ r0 = .bool (inM m l)) := by
  refine CtrL.enter (args := [_, _]) (N := 7) Try.func41 rfl rfl rfl (fun w0 G0 hL0 hpre => ?_)
  refine WC.seq ?_
  refine WC.region ?_
  refine WL.box 2 guard_none rfl rfl (fun b2 => ?_)
  refine WL.y0' guard_none (Y0.assign rfl) rfl ?_
  refine WL.nil ?_
  refine WE.then ?_
  refine WC.seq ?_
  refine WC.region ?_
  refine WL.y0' guard_none (Y0.loadLA 2 ag27 rfl rfl rfl) rfl ?_
  refine WL.y0' guard_none (Y0.loadL 4 sc42 rfl rfl rfl) rfl ?_
  refine WL.callL [(4, b4, .cells #[rowV (some r) l.length] 42 (0, 0))] guard_none rfl (YC.of E34 rfl) (Ctr.lend (i := 1) (n := l.length * 8) (e := 27) (mIn _ _ l) (pre' := fun _ => True) (fun G _ => SlM.ofRow hok)) rfl trivial (Lo.sub_cons rfl (Lo.sub_nil _)) (Lo.sub_cons rfl (Lo.sub_nil _)) rfl (fun v6 G6 L6 hle6 hp6 => ?_)
  obtain ⟨rfl, rfl⟩ := hp6
  refine WL.y0' guard_none (Y0.assign rfl) rfl ?_
  refine WL.nil ?_
  refine WE.then ?_
  refine WC.ret ?_
  refine WE.conseq (St.conseqL (L' := [(4, b4, .cells #[rowV (some r) l.length] 42 (0, 0)), (1, r.b, .cells r.cur 27 (0, 0))]) (Lo.sub_cons rfl (Lo.sub_cons rfl (Lo.sub_nil _)))) ?_
  refine WE.ret1 rfl rfl ?_
  exact ⟨rfl, rfl⟩

theorem mMin1 (m : M) (b4 : Nat) (l : List M) (ov : Option Row) (hok : RowOk 8 ov l.length (flat l)) : CtrL Try.prog 41 #[.agg (vecA m), .pointer (some ⟨b4, 0, none⟩)] ((4, b4, .cells #[rowV ov l.length] 42 (0, 0)) :: rowL 1 27 ov) (fun _ => True) (fun _ L r => L = ((4, b4, .cells #[rowV ov l.length] 42 (0, 0)) :: rowL 1 27 ov) ∧ r = .bool (inM m l)) := by
  cases ov with
  | none => exact mMin1n m b4 l hok
  | some r => exact mMin1s m b4 l r hok

theorem mMinimal (v : Value) (l : List M) (hlen : l.length ≤ 1000000) : Ctr Try.prog 33 #[v] (fun G => SlM G v l) (fun G r => SlM G r (minimalM l)) := by
  refine Ctr.enter (args := [_]) (N := 31) Try.func33 rfl rfl rfl (fun w0 G0 hL0 hpre => ?_)
  refine WC.seq ?_
  refine WC.region ?_
  refine WL.y0' guard_none (Y0.assign rfl) rfl ?_
  refine WL.nil ?_
  refine WE.then ?_
  refine WC.seq ?_
  refine WC.region ?_
  refine WL.y0' guard_none (Y0.move rfl) rfl ?_
  refine WL.callL [] guard_none rfl (YC.of E39 rfl) (sClone _ _ hlen) rfl hpre (Lo.sub_nil _) (Lo.sub_nil _) rfl (fun v9 G9 L9 hle9 hp9 => ?_)
  obtain ⟨ov9, rfl, hok9, rfl⟩ := hp9
  refine WL.y0' guard_none (Y0.assign rfl) rfl ?_
  refine WL.nil ?_
  refine WE.then ?_
  refine WC.seq ?_
  refine WC.region ?_
  refine WL.y0' guard_none (Y0.move rfl) rfl ?_
  refine WL.callL [] guard_none rfl (YC.of E40 rfl) (sortRow Try.sortL rfl aE27 zE27 mCmp E19 5 _ ov9 27 hlen hok9) rfl trivial (by intro i x hx; rw [List.append_nil]; exact hx) (Lo.sub_nil _) rfl (fun v11 G11 L11 hle11 hp11 => ?_)
  obtain ⟨ov5, rfl, hv59, hok5, rfl⟩ := hp11
  rw [← hv59]
  refine WL.conseq (S' := St w0 G0 G11 ([] ++ rowL 5 27 ov5)) (fun w hs => by simpa using hs) ?_
  refine WL.give rfl (by rw [hL0]; rfl) hok5 (fun G1 hle1 hsl => ?_)
  rw [sortM_length] at hsl
  obtain ⟨p, cap, bb, off, hv5, hmax, hp1, hp2, hcell⟩ := hsl
  rw [sortM_length] at hv5 hmax hp2
  have hbase := Mem.le_trans hle9 (Mem.le_trans hle11 hle1)
  rw [hv5]
  refine WL.nil ?_
  refine WE.then ?_
  refine WC.seq ?_
  refine WC.region ?_
  refine WL.alloc 4 guard_none z42 rfl (fun b4 => ?_)
  refine WL.nil ?_
  refine WE.then ?_
  refine WC.seq ?_
  refine WC.region ?_
  refine WL.y0' guard_none (Y0.makeFunc rfl rfl) rfl ?_
  refine WL.y0' guard_none (Y0.assign rfl) rfl ?_
  refine WL.nil ?_
  refine WE.then ?_
  refine WC.seq ?_
  refine WC.seq ?_
  refine WC.region ?_
  refine WL.y0' guard_none (Y0.move rfl) rfl ?_
  refine WL.y0' guard_none (Y0.lenSl Try.underlying42 rfl) rfl ?_
  refine WL.y0' guard_none (Y0.move rfl) rfl ?_
  refine WL.nil ?_
  refine WE.then ?_
  refine WC.block ?_
  refine WC.loopH (fun (gst : Nat × Option Row × List M) => match gst with | ⟨x, ov, acc⟩ => [(4, .pointer (some ⟨b4, 0, none⟩)), (5, .func (.func 41) #[] #[.pointer (some ⟨b4, 0, none⟩)]), (13, .slice p l.length cap), (14, .int .i64 (l.length : Int)), (15, .int .i64 (x : Int))]) (fun (gst : Nat × Option Row × List M) => match gst with | ⟨x, ov, acc⟩ => x ≤ l.length ∧ RowOk 8 ov acc.length (flat acc) ∧ acc = minAcc ((sortM l).take x) ∧ (ov = none ∨ 0 < acc.length) ∧ acc.length ≤ x) (fun (gst : Nat × Option Row × List M) => match gst with | ⟨x, ov, acc⟩ => St w0 G0 G1 ([(4, b4, .cells #[rowV ov acc.length] 42 (0, 0))] ++ rowL 1 27 ov)) (fun (gst : Nat × Option Row × List M) => match gst with | ⟨x, ov, acc⟩ => l.length - x) ⟨0, none, []⟩ ?_ ?_ ?_ ?_
  · exact Fr.sub_cons rfl (Fr.sub_cons rfl (Fr.sub_cons rfl (Fr.sub_cons rfl (Fr.sub_cons rfl (Fr.sub_nil _)))))
  · exact ⟨by omega, ⟨rfl, rfl⟩, by simp [minAcc], .inl rfl, by simp⟩
  · intro w hs; exact hs
  rintro ⟨x, ov, acc⟩ hx
  obtain ⟨hk, hok, hacc, hnn, hal⟩ := hx
  refine WC.seq ?_
  refine WC.region ?_
  refine WL.caseY0 guard_none (Y0.lss rfl rfl) rfl (fun h16 => ?_) (fun h16 => ?_)
  · skip
    have hn : x < (sortM l).length := by rw [sortM_length]; omega
    have hp := hp2 (by omega)
    subst hp
    refine WL.nil ?_
    refine WE.then ?_
    refine WC.seq ?_
    refine WC.condT rfl ?_
    refine WC.skip ?_
    refine WE.then ?_
    refine WC.seq ?_
    refine WC.block ?_
    refine WC.seq ?_
    refine WC.region ?_
    first | refine WL.y0' guard_none (Y0.idxSlN Try.underlying42 sz27 rfl rfl (by omega)) rfl ?_ | refine WL.y0' guard_none (Y0.idxSl Try.underlying42 sz27 rfl rfl (by omega)) rfl ?_
    refine WL.y0' guard_none (Y0.loadGA _ ag27 rfl rfl (SlM.cells hcell hn)) rfl ?_
    refine WL.alloc 7 guard_none z27 rfl (fun b7 => ?_)
    refine WL.storeLA 7 guard_none sz27 rfl rfl rfl rfl rfl rfl ?_
    refine WL.nil ?_
    refine WE.then ?_
    refine WC.seq ?_
    refine WC.region ?_
    refine WL.y0' guard_none (Y0.move rfl) rfl ?_
    refine WL.y0' guard_none (Y0.loadLA 7 ag27 rfl rfl rfl) rfl ?_
    refine WL.callL [(7, b7, .cells (vecA (sortM l)[x]) 27 (0, 0))] guard_none rfl (YC.ofV E41 rfl rfl) (mMin1 (sortM l)[x] b4 acc ov hok) rfl trivial (by cases ov; exact Lo.sub_cons rfl (Lo.sub_nil _); exact Lo.sub_cons rfl (Lo.sub_cons rfl (Lo.sub_nil _))) (Lo.sub_cons rfl (Lo.sub_nil _)) (by cases ov <;> rfl) (fun v21 G21 L21 hle21 hp21 => ?_)
    obtain ⟨rfl, rfl⟩ := hp21
    refine WL.conseq (S' := St w0 G0 G1 ([(7, b7, .cells (vecA (sortM l)[x]) 27 (0, 0)), (4, b4, .cells #[rowV ov acc.length] 42 (0, 0))] ++ rowL 1 27 ov)) (fun w hs => (hs.memLe hbase hle21).weaken (by cases ov; exact Lo.sub_cons rfl (Lo.sub_cons rfl (Lo.sub_nil _)); exact Lo.sub_cons rfl (Lo.sub_cons rfl (Lo.sub_cons rfl (Lo.sub_nil _))))) ?_
    refine WL.caseY0 guard_none (Y0.eq (Y0.not rfl) (congrArg Value.bool (not_dec _))) rfl (fun h22 => ?_) (fun h22 => ?_)
    · skip
      refine WL.nil ?_
      refine WE.then ?_
      refine WC.condT rfl ?_
      refine WC.region ?_
      refine WL.y0' guard_none (Y0.loadL 4 sc42 rfl rfl rfl) rfl ?_
      refine WL.y0' guard_none (Y0.loadLA 7 ag27 rfl rfl rfl) rfl ?_
      refine WL.buildSl 25 guard_none rfl (vs := #[(0, .agg (vecA (sortM l)[x]))]) rfl rfl (bs42 _) (fun b25 => ?_)
      refine WL.append 1 [(25, b25, .cells (vecA (sortM l)[x]) 27 (0, 0)), (7, b7, .cells (vecA (sortM l)[x]) 27 (0, 0)), (4, b4, .cells #[rowV ov acc.length] 42 (0, 0))] guard_none rfl Try.underlying42 el27 rfl rfl rfl (fun _ h => h) rfl hok (Src.ofL (i := 25) rfl) rfl (vecA_cell _) (by simp only [maxLen]; omega) (by omega) (fun ov1 hok1 => ?_)
      refine WL.storeL 4 guard_none sz42 rfl rfl rfl Nat.zero_lt_one (by cases ov1 <;> rfl) ?_
      refine WL.nil ?_
      refine WE.inBlock ?_
      refine WE.then ?_
      refine WC.region ?_
      first | refine WL.y0' guard_none (Y0.addI rfl rfl (by omega)) rfl ?_ | refine WL.y0' guard_none (Y0.add rfl rfl) rfl ?_
      refine WL.y0' guard_none (Y0.move rfl) rfl ?_
      refine WL.nil ?_
      refine WE.backH ⟨x + 1, ov1, acc ++ [(sortM l)[x]]⟩ ?_ ?_ ?_ ?_
      · exact ⟨by omega, by rw [flat_append, flat_one, List.length_append]; exact hok1, minAcc_no hn hacc h22, .inr (by simp), by simp; omega⟩
      · exact Fr.sub_cons rfl (Fr.sub_cons rfl (Fr.sub_cons rfl (Fr.sub_cons rfl (Fr.sub_cons rfl (Fr.sub_nil _)))))
      · intro w hs; exact hs.weaken (by rw [List.length_append]; exact Lo.sub_app (A := (4, _) :: [(25, _), (7, _), (4, _)]) (A' := [_]) (Lo.sub_cons rfl (Lo.sub_nil _)) rfl)
      · dsimp only; omega
    · skip
      refine WL.nil ?_
      refine WE.then ?_
      refine WC.condF rfl ?_
      refine WC.skip ?_
      refine WE.inBlock ?_
      refine WE.then ?_
      refine WC.region ?_
      first | refine WL.y0' guard_none (Y0.addI rfl rfl (by omega)) rfl ?_ | refine WL.y0' guard_none (Y0.add rfl rfl) rfl ?_
      refine WL.y0' guard_none (Y0.move rfl) rfl ?_
      refine WL.nil ?_
      refine WE.backH ⟨x + 1, ov, acc⟩ ?_ ?_ ?_ ?_
      · exact ⟨by omega, hok, minAcc_yes hn hacc (by simpa using h22), hnn, by omega⟩
      · exact Fr.sub_cons rfl (Fr.sub_cons rfl (Fr.sub_cons rfl (Fr.sub_cons rfl (Fr.sub_cons rfl (Fr.sub_nil _)))))
      · intro w hs; exact hs.weaken (Lo.sub_app (Lo.sub_cons rfl (Lo.sub_nil _)) rfl)
      · dsimp only; omega
  · skip
    refine WL.nil ?_
    refine WE.then ?_
    refine WC.seq ?_
    refine WC.condF rfl ?_
    refine WC.exit ?_
    refine WE.thenExit ?_
    refine WE.thenExit ?_
    refine WE.exitHere ?_
    refine WE.then ?_
    refine WC.seq ?_
    refine WC.region ?_
    refine WL.y0' guard_none (Y0.loadL 4 sc42 rfl rfl rfl) rfl ?_
    have hxl : x = (sortM l).length := by rw [sortM_length]; omega
    have hacc2 : acc = minAcc (sortM l) := by rw [hacc, hxl, List.take_length]
    refine WL.callL [(4, b4, .cells #[rowV ov acc.length] 42 (0, 0))] guard_none rfl (YC.of E42 rfl) (revRow sReverse sReverse0 acc ov hnn (by omega) hok) rfl trivial (by cases ov; exact Lo.sub_nil _; exact Lo.sub_cons rfl (Lo.sub_nil _)) (Lo.sub_cons rfl (Lo.sub_nil _)) (by cases ov <;> rfl) (fun v29 G29 L29 hle29 hp29 => ?_)
    obtain ⟨ovr, rfl, hvr, hokr, rfl⟩ := hp29
    refine WL.conseq (S' := St w0 G0 G29 ([(4, b4, .cells #[rowV ov acc.length] 42 (0, 0))] ++ rowL 1 27 ovr)) (fun w hs => hs.weaken (by cases ovr; exact Lo.sub_cons rfl (Lo.sub_nil _); exact Lo.sub_cons rfl (Lo.sub_cons rfl (Lo.sub_nil _)))) ?_
    rw [← hvr]
    refine WL.nil ?_
    refine WE.then ?_
    refine WC.seq ?_
    refine WC.region ?_
    refine WL.y0' guard_none (Y0.loadL 4 sc42 rfl rfl rfl) rfl ?_
    refine WL.y0' guard_none (Y0.assign rfl) rfl ?_
    refine WL.nil ?_
    refine WE.then ?_
    refine WC.ret ?_
    rw [show acc.length = acc.reverse.length from List.length_reverse.symm]
    refine WE.give rfl (by rw [hL0]; rfl) hokr (fun Gr hler hslr => ?_)
    refine WE.ret1 rfl rfl ?_
    have hm : minimalM l = acc.reverse := by rw [minimalM, ← hacc2]
    show SlM Gr _ (minimalM l)
    rw [hm]
    exact hslr

end Go.Proofs.Ytdpmpefjplfgbaa
