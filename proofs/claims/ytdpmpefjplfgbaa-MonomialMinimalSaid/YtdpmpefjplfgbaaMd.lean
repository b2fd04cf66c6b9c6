/- Contracts of the functions that list all monomials of a degree. The conditions stand in each statement. -/
import Derived.Test.YtdpmpefjplfgbaaMc
namespace Go.Proofs.Ytdpmpefjplfgbaa
open Go Go.EL Go.RowKit
abbrev fBox (n bn br bm bf : Nat) (m : M) (ov : Option Row) (c : Nat) : Lo := [(2, bn, .cells #[.int .i64 (n : Int)] 3 (0, 0)), (6, br, .cells #[rowV ov c] 42 (0, 0)), (7, bm, .cells (vecA m) 27 (0, 0)), (8, bf, .cells #[.func (.func 38) #[] #[.pointer (some ⟨bn, 0, none⟩), .pointer (some ⟨br, 0, none⟩), .pointer (some ⟨bm, 0, none⟩), .pointer (some ⟨bf, 0, none⟩)]] 56 (0, 0))]
abbrev fLo (n bn br bm bf : Nat) (m : M) (ov : Option Row) (c : Nat) : Lo := fBox n bn br bm bf m ov c ++ rowL 1 27 ov
theorem fLo_set (n bn br bm bf : Nat) {m m' : M} (ov : Option Row) (c : Nat) {i : Nat} {z : Value} (hz : (vecA m).setIfInBounds i z = vecA m') : Lo.sub (fLo n bn br bm bf m' ov c) ((7, bm, .cells ((vecA m).setIfInBounds i z) 27 (0, 0)) :: fLo n bn br bm bf m ov c) := by
  rw [hz]
  cases ov
  · exact Lo.sub_cons rfl (Lo.sub_cons rfl (Lo.sub_cons rfl (Lo.sub_cons rfl (Lo.sub_nil _))))
  · exact Lo.sub_cons rfl (Lo.sub_cons rfl (Lo.sub_cons rfl (Lo.sub_cons rfl (Lo.sub_cons rfl (Lo.sub_nil _)))))

theorem mFill0 (n bn br bm bf : Nat) (i left : Nat) (m : M) (ov : Option Row) (acc : List M) (hi : i + 0 = n) (hleft : left ≤ 12) (hm : ∀ j : Fin 8, i ≤ j.val → m j = 0) (hok : RowOk 8 ov acc.length (flat acc)) (hlen : acc.length + (fillL 0 i left m).length ≤ 1000000000) : CtrL Try.prog 38 #[.int .i64 (i : Int), .int .i64 (left : Int), .pointer (some ⟨bn, 0, none⟩), .pointer (some ⟨br, 0, none⟩), .pointer (some ⟨bm, 0, none⟩), .pointer (some ⟨bf, 0, none⟩)] (fLo n bn br bm bf m ov acc.length) (fun G => True) (fun G L r => ∃ ov', L = fLo n bn br bm bf m ov' (acc ++ fillL 0 i left m).length ∧ RowOk 8 ov' (acc ++ fillL 0 i left m).length (flat (acc ++ fillL 0 i left m)) ∧ r = .tuple #[]) := by
  refine CtrL.enter (args := [_, _, _, _, _, _]) (N := 42) Try.func38 rfl rfl rfl (fun w0 G0 hL0 hpre => ?_)
  refine WC.seq ?_
  refine WC.seq ?_
  refine WC.region ?_
  refine WL.y0' guard_none (Y0.move rfl) rfl ?_
  refine WL.y0' guard_none (Y0.loadL 2 sc3 rfl rfl rfl) rfl ?_
  refine WL.y0' guard_none (Y0.eq (Y0.eql rfl rfl) (congrArg Value.bool (decide_eq_true (by omega)))) rfl ?_
  refine WL.nil ?_
  refine WE.then ?_
  refine WC.condT rfl ?_
  refine WC.seq ?_
  refine WC.seq ?_
  refine WC.region ?_
  refine WL.y0' guard_none (Y0.move rfl) rfl ?_
  refine WL.caseY0 guard_none (Y0.eql rfl rfl) rfl (fun h14 => ?_) (fun h14 => ?_)
  · skip
    have hl0 : left = 0 := by omega
    subst hl0
    refine WL.nil ?_
    refine WE.then ?_
    refine WC.condT rfl ?_
    refine WC.region ?_
    refine WL.y0' guard_none (Y0.loadL 6 sc42 rfl rfl rfl) rfl ?_
    refine WL.y0' guard_none (Y0.loadLA 7 ag27 rfl rfl rfl) rfl ?_
    refine WL.buildSl 17 guard_none rfl (vs := #[(0, .agg (vecA m))]) rfl rfl (bs42 _) (fun b17 => ?_)
    refine WL.append 1 ((17, b17, .cells (vecA m) 27 (0, 0)) :: fBox n bn br bm bf m ov acc.length) guard_none rfl Try.underlying42 el27 rfl rfl rfl (fun _ h => h) rfl hok (Src.ofL (i := 17) rfl) rfl (vecA_cell _) (by simp only [maxLen]; omega) (by omega) (fun ov1 hok1 => ?_)
    refine WL.storeL 6 guard_none sz42 rfl rfl rfl Nat.zero_lt_one (by cases ov1 <;> rfl) ?_
    refine WL.nil ?_
    refine WE.then ?_
    refine WC.ret ?_
    refine WE.thenRet ?_
    refine WE.conseq (fun w hs => hs.weaken (L' := fLo n bn br bm bf m ov1 (acc.length + 1)) (Lo.sub_app (A := (6, _) :: (17, b17, .cells (vecA m) 27 (0, 0)) :: fBox n bn br bm bf m ov acc.length) (Lo.sub_cons rfl (Lo.sub_cons rfl (Lo.sub_cons rfl (Lo.sub_cons rfl (Lo.sub_nil _))))) rfl)) ?_
    refine WE.ret0 rfl  ?_
    exact ⟨ov1, by simp [fillL], by simp only [fillL, if_true, List.length_append, flat_append, flat_one]; exact hok1, rfl⟩
  · skip
    refine WL.nil ?_
    refine WE.then ?_
    refine WC.condF rfl ?_
    refine WC.skip ?_
    refine WE.then ?_
    refine WC.ret ?_
    refine WE.thenRet ?_
    refine WE.ret0 rfl  ?_
    have hl0 : left ≠ 0 := by omega
    exact ⟨ov, by simp [fillL, hl0], by simp only [fillL, if_neg hl0, List.append_nil]; exact hok, rfl⟩

theorem mFill (n bn br bm bf : Nat) (hn8 : n ≤ 8) : ∀ (k : Nat) (i left : Nat) (m : M) (ov : Option Row) (acc : List M) (hi : i + k = n) (hleft : left ≤ 12) (hm : ∀ j : Fin 8, i ≤ j.val → m j = 0) (hok : RowOk 8 ov acc.length (flat acc)) (hlen : acc.length + (fillL k i left m).length ≤ 1000000000), CtrL Try.prog 38 #[.int .i64 (i : Int), .int .i64 (left : Int), .pointer (some ⟨bn, 0, none⟩), .pointer (some ⟨br, 0, none⟩), .pointer (some ⟨bm, 0, none⟩), .pointer (some ⟨bf, 0, none⟩)] (fLo n bn br bm bf m ov acc.length) (fun _ => True) (fun _ L r => ∃ ov', L = fLo n bn br bm bf m ov' (acc ++ fillL k i left m).length ∧ RowOk 8 ov' (acc ++ fillL k i left m).length (flat (acc ++ fillL k i left m)) ∧ r = .tuple #[])
  | 0, i, left, m, ov, acc, hi, hleft, hm, hok, hlen => mFill0 n bn br bm bf i left m ov acc hi hleft hm hok hlen
  | k + 1, i, left, m, ov, acc, hi, hleft, hm, hok, hlen => by
    have ih := mFill n bn br bm bf hn8 k
    refine CtrL.enter (args := [_, _, _, _, _, _]) (N := 42) Try.func38 rfl rfl rfl (fun w0 G0 hL0 hpre => ?_)
    refine WC.seq ?_
    refine WC.seq ?_
    refine WC.region ?_
    refine WL.y0' guard_none (Y0.move rfl) rfl ?_
    refine WL.y0' guard_none (Y0.loadL 2 sc3 rfl rfl rfl) rfl ?_
    refine WL.y0' guard_none (Y0.eq (Y0.eql rfl rfl) (congrArg Value.bool (decide_eq_false (by omega)))) rfl ?_
    refine WL.nil ?_
    refine WE.then ?_
    refine WC.condF rfl ?_
    refine WC.skip ?_
    refine WE.then ?_
    refine WC.seq ?_
    refine WC.region ?_
    refine WL.y0' guard_none (Y0.assign rfl) rfl ?_
    refine WL.nil ?_
    refine WE.then ?_
    refine WC.seq ?_
    refine WC.seq ?_
    refine WC.region ?_
    refine WL.y0' guard_none (Y0.move rfl) rfl ?_
    refine WL.y0' guard_none (Y0.loadL 2 sc3 rfl rfl rfl) rfl ?_
    first | refine WL.y0' guard_none (Y0.subI rfl rfl (by omega)) rfl ?_ | refine WL.y0' guard_none (Y0.sub rfl rfl) rfl ?_
    refine WL.caseY0 guard_none (Y0.eql rfl rfl) rfl (fun h22 => ?_) (fun h22 => ?_)
    · skip
      have hk0 : k = 0 := by omega
      refine WL.nil ?_
      refine WE.then ?_
      refine WC.condT rfl ?_
      refine WC.region ?_
      refine WL.y0' guard_none (Y0.move rfl) rfl ?_
      refine WL.y0' guard_none (Y0.assign rfl) rfl ?_
      refine WL.nil ?_
      refine WE.then ?_
      refine WC.seq ?_
      refine WC.seq ?_
      refine WC.region ?_
      refine WL.y0' guard_none (Y0.move rfl) rfl ?_
      refine WL.y0' guard_none (Y0.assign rfl) rfl ?_
      refine WL.nil ?_
      refine WE.then ?_
      refine WC.block ?_
      refine WC.loopH (fun (gst : Nat × Int × Option Row) => match gst with | ⟨c, v, ov2⟩ => [(0, .int .i64 (i : Int)), (1, .int .i64 (left : Int)), (2, .pointer (some ⟨bn, 0, none⟩)), (3, .pointer (some ⟨br, 0, none⟩)), (4, .pointer (some ⟨bm, 0, none⟩)), (5, .pointer (some ⟨bf, 0, none⟩)), (8, .int .i64 (left : Int)), (9, .int .i64 ((left : Int) - (c : Int)))]) (fun (gst : Nat × Int × Option Row) => match gst with | ⟨c, v, ov2⟩ => c ≤ (if k = 0 then 1 else left + 1) ∧ RowOk 8 ov2 (acc ++ doneL k i left m c).length (flat (acc ++ doneL k i left m c))) (fun (gst : Nat × Int × Option Row) => match gst with | ⟨c, v, ov2⟩ => St w0 G0 G0 (fLo n bn br bm bf (upd m i v) ov2 (acc ++ doneL k i left m c).length)) (fun (gst : Nat × Int × Option Row) => match gst with | ⟨c, v, ov2⟩ => (if k = 0 then 1 else left + 1) - c) ⟨0, 0, ov⟩ ?_ ?_ ?_ ?_
      · exact Fr.sub_cons rfl (Fr.sub_cons rfl (Fr.sub_cons rfl (Fr.sub_cons rfl (Fr.sub_cons rfl (Fr.sub_cons rfl (Fr.sub_cons rfl (Fr.sub_cons (congrArg (fun z => some (Value.int .i64 z)) (by omega : (left : Int) = (left : Int) - ((0 : Nat) : Int))) (Fr.sub_nil _))))))))
      · exact ⟨by omega, by simpa [doneL_zero] using hok⟩
      · intro w hs; show St w0 G0 G0 (fLo n bn br bm bf (upd m i 0) ov (acc ++ doneL k i left m 0).length) w; rw [doneL_zero, List.append_nil, upd_back m hm]; exact hs
      rintro ⟨c, v, ov2⟩ hx
      obtain ⟨hc, hok2⟩ := hx
      have hi8 : i < 8 := by omega
      refine WC.seq ?_
      refine WC.seq ?_
      refine WC.region ?_
      refine WL.y0' guard_none (Y0.move rfl) rfl ?_
      refine WL.y0' guard_none (Y0.move rfl) rfl ?_
      refine WL.caseY0 guard_none (Y0.geq rfl rfl) rfl (fun h27 => ?_) (fun h27 => ?_)
      · skip
        have hcl : c ≤ left := by (try (rw [if_neg hk0] at hc)); (try (rw [if_pos hk0] at hc)); omega
        have hcT : c + 1 ≤ (if k = 0 then 1 else left + 1) := by split <;> omega
        have hmo := doneL_mono k i left m hcT
        rw [← fillL_succ, doneL_succ k i left m hcl, List.length_append] at hmo
        refine WL.nil ?_
        refine WE.then ?_
        refine WC.condT rfl ?_
        refine WC.skip ?_
        refine WE.then ?_
        refine WC.seq ?_
        refine WC.block ?_
        refine WC.seq ?_
        refine WC.region ?_
        refine WL.y0' guard_none (Y0.move rfl) rfl ?_
        refine WL.y0' guard_none (Y0.move rfl) rfl ?_
        first | refine WL.y0' guard_none (Y0.idxArr1 Try.underlying27 sz3 rfl rfl (by omega)) rfl ?_ | refine WL.y0' guard_none (Y0.idxArr Try.underlying27 sz3 rfl rfl (by omega)) rfl ?_
        refine WL.storeL 7 guard_none sz3 rfl rfl rfl hi8 rfl ?_
        refine WL.conseq (fun w hs => hs.weaken (fLo_set n bn br bm bf (m' := upd m i ((left - c : Nat) : Int)) ov2 (acc ++ doneL k i left m c).length (by have := vecA_set (upd m i v) hi8 ((left : Int) - (c : Int)); rw [upd_upd] at this; rw [show ((left - c : Nat) : Int) = (left : Int) - (c : Int) by omega]; exact this))) ?_
        refine WL.nil ?_
        refine WE.then ?_
        refine WC.region ?_
        refine WL.y0' guard_none (Y0.loadL 8 sc56 rfl rfl rfl) rfl ?_
        refine WL.y0' guard_none (Y0.move rfl) rfl ?_
        refine WL.y0' guard_none (Y0.eq (Y0.addI rfl rfl (by omega)) (congrArg (Value.int .i64) (show (i : Int) + 1 = ((i + 1 : Nat) : Int) by omega))) rfl ?_
        refine WL.y0' guard_none (Y0.move rfl) rfl ?_
        refine WL.y0' guard_none (Y0.move rfl) rfl ?_
        refine WL.y0' guard_none (Y0.eq (Y0.subI rfl rfl (by omega)) (congrArg (Value.int .i64) (show (left : Int) - ((left : Int) - (c : Int)) = ((c : Nat) : Int) by omega))) rfl ?_
        refine WL.callL [] guard_none rfl (YC.ofV E38 rfl rfl) (ih (i + 1) c (upd m i ((left - c : Nat) : Int)) ov2 (acc ++ doneL k i left m c) (by omega) (by omega) (upd_tail m _ hm) hok2 (by rw [List.length_append]; omega)) rfl trivial (fun _ _ h => h) (Lo.sub_nil _) rfl (fun v39 G39 L39 hle39 hp39 => ?_)
        obtain ⟨ov3, rfl, hok3, rfl⟩ := hp39
        refine WL.conseq (fun w hs => (hs.memLe (Mem.le_refl _) hle39).weaken (L' := fLo n bn br bm bf (upd m i ((left - c : Nat) : Int)) ov3 (acc ++ doneL k i left m c ++ fillL k (i + 1) c (upd m i ((left - c : Nat) : Int))).length) (fun _ _ h => by rw [List.append_nil]; exact h)) ?_
        refine WL.nil ?_
        refine WE.inBlock ?_
        refine WE.then ?_
        refine WC.region ?_
        refine WL.y0' guard_none (Y0.move rfl) rfl ?_
        first | refine WL.y0' guard_none (Y0.subI rfl rfl (by omega)) rfl ?_ | refine WL.y0' guard_none (Y0.sub rfl rfl) rfl ?_
        refine WL.y0' guard_none (Y0.assign rfl) rfl ?_
        refine WL.nil ?_
        refine WE.backH ⟨c + 1, ((left - c : Nat) : Int), ov3⟩ ?_ ?_ ?_ ?_
        · exact ⟨by split <;> omega, by rw [doneL_succ k i left m hcl, ← List.append_assoc]; exact hok3⟩
        · exact Fr.sub_cons rfl (Fr.sub_cons rfl (Fr.sub_cons rfl (Fr.sub_cons rfl (Fr.sub_cons rfl (Fr.sub_cons rfl (Fr.sub_cons rfl (Fr.sub_cons (congrArg (fun z => some (Value.int .i64 z)) (by omega : (left : Int) - (c : Int) - 1 = (left : Int) - ((c + 1 : Nat) : Int))) (Fr.sub_nil _))))))))
        · intro w hs; show St w0 G0 G0 (fLo n bn br bm bf (upd m i ((left - c : Nat) : Int)) ov3 (acc ++ doneL k i left m (c + 1)).length) w; rw [doneL_succ k i left m hcl, ← List.append_assoc]; exact hs
        · show (if k = 0 then 1 else left + 1) - (c + 1) < (if k = 0 then 1 else left + 1) - c; split <;> omega
      · skip
        refine WL.nil ?_
        refine WE.then ?_
        refine WC.condF rfl ?_
        refine WC.exit ?_
        refine WE.thenExit ?_
        refine WE.thenExit ?_
        refine WE.exitHere ?_
        refine WE.then ?_
        refine WC.region ?_
        refine WL.y0' guard_none (Y0.move rfl) rfl ?_
        first | refine WL.y0' guard_none (Y0.idxArr1 Try.underlying27 sz3 rfl rfl (by omega)) rfl ?_ | refine WL.y0' guard_none (Y0.idxArr Try.underlying27 sz3 rfl rfl (by omega)) rfl ?_
        refine WL.storeL 7 guard_none sz3 rfl rfl rfl hi8 rfl ?_
        have hcT : c = (if k = 0 then 1 else left + 1) := by split at hc <;> split <;> omega
        refine WL.conseq (fun w hs => hs.weaken (L' := fLo n bn br bm bf m ov2 (acc ++ fillL (k + 1) i left m).length) (by rw [fillL_succ, ← hcT]; exact fLo_set n bn br bm bf ov2 (acc ++ doneL k i left m c).length (by have := vecA_set (upd m i v) hi8 0; rw [upd_upd, upd_back m hm] at this; exact this))) ?_
        refine WL.nil ?_
        refine WE.retN ?_
        refine WE.ret0 rfl  ?_
        exact ⟨ov2, rfl, by rw [fillL_succ, ← hcT]; exact hok2, rfl⟩
    · skip
      have hk0 : k ≠ 0 := by omega
      refine WL.nil ?_
      refine WE.then ?_
      refine WC.condF rfl ?_
      refine WC.skip ?_
      refine WE.then ?_
      refine WC.seq ?_
      refine WC.seq ?_
      refine WC.region ?_
      refine WL.y0' guard_none (Y0.move rfl) rfl ?_
      refine WL.y0' guard_none (Y0.assign rfl) rfl ?_
      refine WL.nil ?_
      refine WE.then ?_
      refine WC.block ?_
      refine WC.loopH (fun (gst : Nat × Int × Option Row) => match gst with | ⟨c, v, ov2⟩ => [(0, .int .i64 (i : Int)), (1, .int .i64 (left : Int)), (2, .pointer (some ⟨bn, 0, none⟩)), (3, .pointer (some ⟨br, 0, none⟩)), (4, .pointer (some ⟨bm, 0, none⟩)), (5, .pointer (some ⟨bf, 0, none⟩)), (8, .int .i64 0), (9, .int .i64 ((left : Int) - (c : Int)))]) (fun (gst : Nat × Int × Option Row) => match gst with | ⟨c, v, ov2⟩ => c ≤ (if k = 0 then 1 else left + 1) ∧ RowOk 8 ov2 (acc ++ doneL k i left m c).length (flat (acc ++ doneL k i left m c))) (fun (gst : Nat × Int × Option Row) => match gst with | ⟨c, v, ov2⟩ => St w0 G0 G0 (fLo n bn br bm bf (upd m i v) ov2 (acc ++ doneL k i left m c).length)) (fun (gst : Nat × Int × Option Row) => match gst with | ⟨c, v, ov2⟩ => (if k = 0 then 1 else left + 1) - c) ⟨0, 0, ov⟩ ?_ ?_ ?_ ?_
      · exact Fr.sub_cons rfl (Fr.sub_cons rfl (Fr.sub_cons rfl (Fr.sub_cons rfl (Fr.sub_cons rfl (Fr.sub_cons rfl (Fr.sub_cons rfl (Fr.sub_cons (congrArg (fun z => some (Value.int .i64 z)) (by omega : (left : Int) = (left : Int) - ((0 : Nat) : Int))) (Fr.sub_nil _))))))))
      · exact ⟨by omega, by simpa [doneL_zero] using hok⟩
      · intro w hs; show St w0 G0 G0 (fLo n bn br bm bf (upd m i 0) ov (acc ++ doneL k i left m 0).length) w; rw [doneL_zero, List.append_nil, upd_back m hm]; exact hs
      rintro ⟨c, v, ov2⟩ hx
      obtain ⟨hc, hok2⟩ := hx
      have hi8 : i < 8 := by omega
      refine WC.seq ?_
      refine WC.seq ?_
      refine WC.region ?_
      refine WL.y0' guard_none (Y0.move rfl) rfl ?_
      refine WL.y0' guard_none (Y0.move rfl) rfl ?_
      refine WL.caseY0 guard_none (Y0.geq rfl rfl) rfl (fun h27 => ?_) (fun h27 => ?_)
      · skip
        have hcl : c ≤ left := by (try (rw [if_neg hk0] at hc)); (try (rw [if_pos hk0] at hc)); omega
        have hcT : c + 1 ≤ (if k = 0 then 1 else left + 1) := by split <;> omega
        have hmo := doneL_mono k i left m hcT
        rw [← fillL_succ, doneL_succ k i left m hcl, List.length_append] at hmo
        refine WL.nil ?_
        refine WE.then ?_
        refine WC.condT rfl ?_
        refine WC.skip ?_
        refine WE.then ?_
        refine WC.seq ?_
        refine WC.block ?_
        refine WC.seq ?_
        refine WC.region ?_
        refine WL.y0' guard_none (Y0.move rfl) rfl ?_
        refine WL.y0' guard_none (Y0.move rfl) rfl ?_
        first | refine WL.y0' guard_none (Y0.idxArr1 Try.underlying27 sz3 rfl rfl (by omega)) rfl ?_ | refine WL.y0' guard_none (Y0.idxArr Try.underlying27 sz3 rfl rfl (by omega)) rfl ?_
        refine WL.storeL 7 guard_none sz3 rfl rfl rfl hi8 rfl ?_
        refine WL.conseq (fun w hs => hs.weaken (fLo_set n bn br bm bf (m' := upd m i ((left - c : Nat) : Int)) ov2 (acc ++ doneL k i left m c).length (by have := vecA_set (upd m i v) hi8 ((left : Int) - (c : Int)); rw [upd_upd] at this; rw [show ((left - c : Nat) : Int) = (left : Int) - (c : Int) by omega]; exact this))) ?_
        refine WL.nil ?_
        refine WE.then ?_
        refine WC.region ?_
        refine WL.y0' guard_none (Y0.loadL 8 sc56 rfl rfl rfl) rfl ?_
        refine WL.y0' guard_none (Y0.move rfl) rfl ?_
        refine WL.y0' guard_none (Y0.eq (Y0.addI rfl rfl (by omega)) (congrArg (Value.int .i64) (show (i : Int) + 1 = ((i + 1 : Nat) : Int) by omega))) rfl ?_
        refine WL.y0' guard_none (Y0.move rfl) rfl ?_
        refine WL.y0' guard_none (Y0.move rfl) rfl ?_
        refine WL.y0' guard_none (Y0.eq (Y0.subI rfl rfl (by omega)) (congrArg (Value.int .i64) (show (left : Int) - ((left : Int) - (c : Int)) = ((c : Nat) : Int) by omega))) rfl ?_
        refine WL.callL [] guard_none rfl (YC.ofV E38 rfl rfl) (ih (i + 1) c (upd m i ((left - c : Nat) : Int)) ov2 (acc ++ doneL k i left m c) (by omega) (by omega) (upd_tail m _ hm) hok2 (by rw [List.length_append]; omega)) rfl trivial (fun _ _ h => h) (Lo.sub_nil _) rfl (fun v39 G39 L39 hle39 hp39 => ?_)
        obtain ⟨ov3, rfl, hok3, rfl⟩ := hp39
        refine WL.conseq (fun w hs => (hs.memLe (Mem.le_refl _) hle39).weaken (L' := fLo n bn br bm bf (upd m i ((left - c : Nat) : Int)) ov3 (acc ++ doneL k i left m c ++ fillL k (i + 1) c (upd m i ((left - c : Nat) : Int))).length) (fun _ _ h => by rw [List.append_nil]; exact h)) ?_
        refine WL.nil ?_
        refine WE.inBlock ?_
        refine WE.then ?_
        refine WC.region ?_
        refine WL.y0' guard_none (Y0.move rfl) rfl ?_
        first | refine WL.y0' guard_none (Y0.subI rfl rfl (by omega)) rfl ?_ | refine WL.y0' guard_none (Y0.sub rfl rfl) rfl ?_
        refine WL.y0' guard_none (Y0.assign rfl) rfl ?_
        refine WL.nil ?_
        refine WE.backH ⟨c + 1, ((left - c : Nat) : Int), ov3⟩ ?_ ?_ ?_ ?_
        · exact ⟨by split <;> omega, by rw [doneL_succ k i left m hcl, ← List.append_assoc]; exact hok3⟩
        · exact Fr.sub_cons rfl (Fr.sub_cons rfl (Fr.sub_cons rfl (Fr.sub_cons rfl (Fr.sub_cons rfl (Fr.sub_cons rfl (Fr.sub_cons rfl (Fr.sub_cons (congrArg (fun z => some (Value.int .i64 z)) (by omega : (left : Int) - (c : Int) - 1 = (left : Int) - ((c + 1 : Nat) : Int))) (Fr.sub_nil _))))))))
        · intro w hs; show St w0 G0 G0 (fLo n bn br bm bf (upd m i ((left - c : Nat) : Int)) ov3 (acc ++ doneL k i left m (c + 1)).length) w; rw [doneL_succ k i left m hcl, ← List.append_assoc]; exact hs
        · show (if k = 0 then 1 else left + 1) - (c + 1) < (if k = 0 then 1 else left + 1) - c; split <;> omega
      · skip
        refine WL.nil ?_
        refine WE.then ?_
        refine WC.condF rfl ?_
        refine WC.exit ?_
        refine WE.thenExit ?_
        refine WE.thenExit ?_
        refine WE.exitHere ?_
        refine WE.then ?_
        refine WC.region ?_
        refine WL.y0' guard_none (Y0.move rfl) rfl ?_
        first | refine WL.y0' guard_none (Y0.idxArr1 Try.underlying27 sz3 rfl rfl (by omega)) rfl ?_ | refine WL.y0' guard_none (Y0.idxArr Try.underlying27 sz3 rfl rfl (by omega)) rfl ?_
        refine WL.storeL 7 guard_none sz3 rfl rfl rfl hi8 rfl ?_
        have hcT : c = (if k = 0 then 1 else left + 1) := by split at hc <;> split <;> omega
        refine WL.conseq (fun w hs => hs.weaken (L' := fLo n bn br bm bf m ov2 (acc ++ fillL (k + 1) i left m).length) (by rw [fillL_succ, ← hcT]; exact fLo_set n bn br bm bf ov2 (acc ++ doneL k i left m c).length (by have := vecA_set (upd m i v) hi8 0; rw [upd_upd, upd_back m hm] at this; exact this))) ?_
        refine WL.nil ?_
        refine WE.retN ?_
        refine WE.ret0 rfl  ?_
        exact ⟨ov2, rfl, by rw [fillL_succ, ← hcT]; exact hok2, rfl⟩

theorem mAllBad (n d : Int) (hbad : ¬ (0 ≤ n ∧ n ≤ 8 ∧ 0 ≤ d ∧ d ≤ 12)) : Ctr Try.prog 30 #[.int .i64 n, .int .i64 d] (fun G => True) (fun G r => r = .tuple #[.slice none 0 0, .int .i64 1]) := by
  refine Ctr.enter (args := [_, _]) (N := 28) Try.func30 rfl rfl rfl (fun w0 G0 hL0 hpre => ?_)
  refine WC.seq ?_
  refine WC.region ?_
  refine WL.box 2 guard_none rfl rfl (fun b2 => ?_)
  refine WL.y0' guard_none (Y0.assign rfl) rfl ?_
  refine WL.y0' guard_none (Y0.assign rfl) rfl ?_
  refine WL.nil ?_
  refine WE.then ?_
  refine WC.seq ?_
  refine WC.seq ?_
  refine WC.region ?_
  refine WL.y0' guard_none (Y0.loadL 2 sc3 rfl rfl rfl) rfl ?_
  refine WL.caseY0 guard_none (Y0.lss rfl rfl) rfl (fun h10 => ?_) (fun h10 => ?_)
  · skip
    refine WL.y0' guard_none (Y0.move rfl) rfl ?_
    refine WL.skip (guard_noF rfl rfl) rfl ?_
    refine WL.skip (guard_noF rfl rfl) rfl ?_
    refine WL.y0' guard_none (Y0.pickT rfl rfl) rfl ?_
    refine WL.y0' guard_none (Y0.move rfl) rfl ?_
    refine WL.skip (guard_noF rfl rfl) rfl ?_
    refine WL.skip (guard_noF rfl rfl) rfl ?_
    refine WL.y0' guard_none (Y0.pickT rfl rfl) rfl ?_
    refine WL.y0' guard_none (Y0.move rfl) rfl ?_
    refine WL.skip (guard_noF rfl rfl) rfl ?_
    refine WL.skip (guard_noF rfl rfl) rfl ?_
    refine WL.y0' guard_none (Y0.pickT rfl rfl) rfl ?_
    refine WL.nil ?_
    refine WE.then ?_
    refine WC.condT rfl ?_
    refine WC.seq ?_
    refine WC.region ?_
    refine WL.y0' guard_none (Y0.assign rfl) rfl ?_
    refine WL.y0' guard_none (Y0.assign rfl) rfl ?_
    refine WL.nil ?_
    refine WE.then ?_
    refine WC.ret ?_
    refine WE.thenRet ?_
    refine WE.ret2 rfl rfl rfl ?_
    rfl
  · skip
    refine WL.y0' guard_none (Y0.move rfl) rfl ?_
    refine WL.y0' (guard_yes rfl rfl) (Y0.loadL 2 sc3 rfl rfl rfl) rfl ?_
    refine WL.caseY0 (guard_yes rfl rfl) (Y0.gtr rfl rfl) rfl (fun h13 => ?_) (fun h13 => ?_)
    · skip
      refine WL.y0' guard_none (Y0.pickF rfl rfl) rfl ?_
      refine WL.y0' guard_none (Y0.move rfl) rfl ?_
      refine WL.skip (guard_noF rfl rfl) rfl ?_
      refine WL.skip (guard_noF rfl rfl) rfl ?_
      refine WL.y0' guard_none (Y0.pickT rfl rfl) rfl ?_
      refine WL.y0' guard_none (Y0.move rfl) rfl ?_
      refine WL.skip (guard_noF rfl rfl) rfl ?_
      refine WL.skip (guard_noF rfl rfl) rfl ?_
      refine WL.y0' guard_none (Y0.pickT rfl rfl) rfl ?_
      refine WL.nil ?_
      refine WE.then ?_
      refine WC.condT rfl ?_
      refine WC.seq ?_
      refine WC.region ?_
      refine WL.y0' guard_none (Y0.assign rfl) rfl ?_
      refine WL.y0' guard_none (Y0.assign rfl) rfl ?_
      refine WL.nil ?_
      refine WE.then ?_
      refine WC.ret ?_
      refine WE.thenRet ?_
      refine WE.ret2 rfl rfl rfl ?_
      rfl
    · skip
      refine WL.y0' guard_none (Y0.pickF rfl rfl) rfl ?_
      refine WL.y0' guard_none (Y0.move rfl) rfl ?_
      refine WL.y0' (guard_yes rfl rfl) (Y0.move rfl) rfl ?_
      refine WL.caseY0 (guard_yes rfl rfl) (Y0.lss rfl rfl) rfl (fun h17 => ?_) (fun h17 => ?_)
      · skip
        refine WL.y0' guard_none (Y0.pickF rfl rfl) rfl ?_
        refine WL.y0' guard_none (Y0.move rfl) rfl ?_
        refine WL.skip (guard_noF rfl rfl) rfl ?_
        refine WL.skip (guard_noF rfl rfl) rfl ?_
        refine WL.y0' guard_none (Y0.pickT rfl rfl) rfl ?_
        refine WL.nil ?_
        refine WE.then ?_
        refine WC.condT rfl ?_
        refine WC.seq ?_
        refine WC.region ?_
        refine WL.y0' guard_none (Y0.assign rfl) rfl ?_
        refine WL.y0' guard_none (Y0.assign rfl) rfl ?_
        refine WL.nil ?_
        refine WE.then ?_
        refine WC.ret ?_
        refine WE.thenRet ?_
        refine WE.ret2 rfl rfl rfl ?_
        rfl
      · skip
        refine WL.y0' guard_none (Y0.pickF rfl rfl) rfl ?_
        refine WL.y0' guard_none (Y0.move rfl) rfl ?_
        refine WL.y0' (guard_yes rfl rfl) (Y0.move rfl) rfl ?_
        refine WL.caseY0 (guard_yes rfl rfl) (Y0.gtr rfl rfl) rfl (fun h21 => ?_) (fun h21 => ?_)
        · skip
          refine WL.y0' guard_none (Y0.pickF rfl rfl) rfl ?_
          refine WL.nil ?_
          refine WE.then ?_
          refine WC.condT rfl ?_
          refine WC.seq ?_
          refine WC.region ?_
          refine WL.y0' guard_none (Y0.assign rfl) rfl ?_
          refine WL.y0' guard_none (Y0.assign rfl) rfl ?_
          refine WL.nil ?_
          refine WE.then ?_
          refine WC.ret ?_
          refine WE.thenRet ?_
          refine WE.ret2 rfl rfl rfl ?_
          rfl
        · skip
          exact absurd ⟨by omega, by omega, by omega, by omega⟩ hbad

theorem mAllOk (n d : Nat) (hn : n ≤ 8) (hd : d ≤ 12) : Ctr Try.prog 30 #[.int .i64 (n : Int), .int .i64 (d : Int)] (fun G => True) (fun G r => ∃ v, r = .tuple #[v, .int .i64 0] ∧ SlM G v (allM n d)) := by
  refine Ctr.enter (args := [_, _]) (N := 28) Try.func30 rfl rfl rfl (fun w0 G0 hL0 hpre => ?_)
  refine WC.seq ?_
  refine WC.region ?_
  refine WL.box 2 guard_none rfl rfl (fun b2 => ?_)
  refine WL.y0' guard_none (Y0.assign rfl) rfl ?_
  refine WL.y0' guard_none (Y0.assign rfl) rfl ?_
  refine WL.nil ?_
  refine WE.then ?_
  refine WC.seq ?_
  refine WC.seq ?_
  refine WC.region ?_
  refine WL.y0' guard_none (Y0.loadL 2 sc3 rfl rfl rfl) rfl ?_
  refine WL.y0' guard_none (Y0.eq (Y0.lss rfl rfl) (congrArg Value.bool (decide_eq_false (by omega)))) rfl ?_
  refine WL.y0' guard_none (Y0.move rfl) rfl ?_
  refine WL.y0' (guard_yes rfl rfl) (Y0.loadL 2 sc3 rfl rfl rfl) rfl ?_
  refine WL.y0' (guard_yes rfl rfl) (Y0.eq (Y0.gtr rfl rfl) (congrArg Value.bool (decide_eq_false (by omega)))) rfl ?_
  refine WL.y0' guard_none (Y0.pickF rfl rfl) rfl ?_
  refine WL.y0' guard_none (Y0.move rfl) rfl ?_
  refine WL.y0' (guard_yes rfl rfl) (Y0.move rfl) rfl ?_
  refine WL.y0' (guard_yes rfl rfl) (Y0.eq (Y0.lss rfl rfl) (congrArg Value.bool (decide_eq_false (by omega)))) rfl ?_
  refine WL.y0' guard_none (Y0.pickF rfl rfl) rfl ?_
  refine WL.y0' guard_none (Y0.move rfl) rfl ?_
  refine WL.y0' (guard_yes rfl rfl) (Y0.move rfl) rfl ?_
  refine WL.y0' (guard_yes rfl rfl) (Y0.eq (Y0.gtr rfl rfl) (congrArg Value.bool (decide_eq_false (by omega)))) rfl ?_
  refine WL.y0' guard_none (Y0.pickF rfl rfl) rfl ?_
  refine WL.nil ?_
  refine WE.then ?_
  refine WC.condF rfl ?_
  refine WC.skip ?_
  refine WE.then ?_
  refine WC.seq ?_
  refine WC.region ?_
  refine WL.alloc 6 guard_none z42 rfl (fun b6 => ?_)
  refine WL.nil ?_
  refine WE.then ?_
  refine WC.seq ?_
  refine WC.region ?_
  refine WL.alloc 7 guard_none z27 rfl (fun b7 => ?_)
  refine WL.nil ?_
  refine WE.then ?_
  refine WC.seq ?_
  refine WC.region ?_
  refine WL.alloc 8 guard_none z56 rfl (fun b8 => ?_)
  refine WL.nil ?_
  refine WE.then ?_
  refine WC.seq ?_
  refine WC.region ?_
  refine WL.y0' guard_none (Y0.makeFunc rfl rfl) rfl ?_
  refine WL.storeL 8 guard_none sz56 rfl rfl rfl (by first | decide | exact hn | (simp; omega)) rfl ?_
  refine WL.nil ?_
  refine WE.then ?_
  refine WC.seq ?_
  refine WC.region ?_
  refine WL.y0' guard_none (Y0.loadL 8 sc56 rfl rfl rfl) rfl ?_
  refine WL.y0' guard_none (Y0.move rfl) rfl ?_
  refine WL.callL [] guard_none rfl (YC.ofV E38 rfl rfl) (mFill n b2 b6 b7 b8 hn n 0 d zeroM none [] (by omega) hd (fun _ _ => rfl) ⟨rfl, rfl⟩ (by have := allM_length hn hd; simp only [List.length_nil, Nat.zero_add]; exact this)) rfl trivial (Lo.sub_cons rfl (Lo.sub_cons rfl (Lo.sub_cons rfl (Lo.sub_cons rfl (Lo.sub_nil _))))) (Lo.sub_nil _) rfl (fun v26 G26 L26 hle26 hp26 => ?_)
  rw [List.nil_append] at hp26
  obtain ⟨ov, rfl, hok, rfl⟩ := hp26
  refine WL.conseq (S' := St w0 G0 G26 (fLo n b2 b6 b7 b8 zeroM ov (allM n d).length)) (fun w hs => hs.weaken (fun _ _ h => by rw [List.append_nil]; exact h)) ?_
  refine WL.nil ?_
  refine WE.then ?_
  refine WC.seq ?_
  refine WC.region ?_
  refine WL.y0' guard_none (Y0.loadL 6 sc42 rfl rfl rfl) rfl ?_
  refine WL.y0' guard_none (Y0.assign rfl) rfl ?_
  refine WL.y0' guard_none (Y0.assign rfl) rfl ?_
  refine WL.nil ?_
  refine WE.then ?_
  refine WC.ret ?_
  refine WE.give rfl (by rw [hL0]; rfl) hok (fun Gr hler hslr => ?_)
  refine WE.ret2 rfl rfl rfl ?_
  exact ⟨_, rfl, hslr⟩

end Go.Proofs.Ytdpmpefjplfgbaa
