/- Maps in the lifted form: values in one cell; values that may be appended to. The conditions stand in each statement. -/
import Derived.Test.YtbdknlblnfnkkaaElt
namespace Go.EL
open Go Go.RowKit Go.Proofs Go.MapKept

/-- A value of one cell. -/
def RvS {K V : Type} (r : Rp V) (G : Mem) : K → Value → V → Prop := fun _ u x => r.rep G [u] x
/-- A slice that may be appended to: the right lies under the key's name. -/
def kcode (x : Int) : Nat := 8000000 + (if 0 ≤ x then 2 * x.toNat else 2 * (-x).toNat + 1)
theorem kcode_ge (x : Int) : 8000000 ≤ kcode x := Nat.le_add_right _ _
theorem kcode_inj {x y : Int} (h : kcode x = kcode y) : x = y := by
  unfold kcode at h
  split at h <;> split at h <;> omega
def RvT {α : Type} (r : Rp α) (e : TypeId) (T : Lo) (G : Mem) : Int → Value → List α → Prop := fun k u l => SlR r G u l ∧ Tok r.size e u l.length (T.get (kcode k))
structure TokM {α : Type} (T : Lo) (D : List (Int × List α)) : Prop where
  high : ∀ i x, T.get i = some x → 8000000 ≤ i
  none : ∀ k, mget D k = none → T.get (kcode k) = none
theorem TokM.nil {α : Type} : TokM [] ([] : List (Int × List α)) := ⟨fun i x h => by simp [Lo.get] at h, fun _ _ => rfl⟩

theorem Lo.get_low {i j : Nat} {x : Option Ow} {L : Lo} (hi : i < 8000000) (hj : 8000000 ≤ j) : Lo.get ((i, x) :: L) j = L.get j := by rw [Lo.get_cons, if_neg (by omega)]
theorem Lo.get_skip : ∀ {A T : Lo}, A.all (fun p => decide (p.1 < 8000000)) = true → ∀ {j : Nat}, 8000000 ≤ j → Lo.get (A ++ T) j = T.get j
  | [], _, _, _, _ => rfl
  | p :: A, T, h, j, hj => by
    simp only [List.all_cons, Bool.and_eq_true, decide_eq_true_eq] at h
    rw [List.cons_append, Lo.get_low (i := p.1) (x := p.2) h.1 hj]
    exact Lo.get_skip h.2 hj
theorem Lo.get_keep : ∀ {A T T' : Lo}, (∀ i x, T.get i = some x → 8000000 ≤ i) → ∀ {j : Nat} {x : Ow}, j < 8000000 → Lo.get (A ++ T) j = some x → Lo.get (A ++ T') j = some x
  | [], T, T', hT, j, x, hj, h => by have := hT j x h; omega
  | p :: A, T, T', hT, j, x, hj, h => by
    obtain ⟨i, y⟩ := p
    rw [List.cons_append, Lo.get_cons] at h ⊢
    split at h
    · rename_i e; rw [if_pos e]; exact h
    · rename_i e; rw [if_neg e]; exact Lo.get_keep hT hj h
theorem Lo.sub_swap {A T : Lo} {k : Nat} {x : Option Ow} (hA : A.all (fun p => decide (p.1 < 8000000)) = true) (hk : 8000000 ≤ k) (hT : ∀ i x, T.get i = some x → 8000000 ≤ i) : Lo.sub (A ++ ((k, x) :: T)) ((k, x) :: (A ++ T)) := by
  intro i y hy
  have hT' : ∀ i y, Lo.get ((k, x) :: T) i = some y → 8000000 ≤ i := fun i y h => by
    rw [Lo.get_cons] at h
    split at h
    · omega
    · exact hT i y h
  by_cases hi : i < 8000000
  · have := Lo.get_keep (T' := T) hT' hi hy
    rw [Lo.get_cons, if_neg (by omega)]
    exact this
  · rw [Lo.get_skip hA (by omega)] at hy
    rw [Lo.get_cons] at hy ⊢
    split at hy
    · rename_i e; rw [if_pos e]; exact hy
    · rename_i e; rw [if_neg e, Lo.get_skip hA (by omega)]; exact hy
theorem Lo.none_low {T : Lo} (hT : ∀ i x, T.get i = some x → 8000000 ≤ i) {i : Nat} (hi : i < 8000000) : T.get i = none := by
  cases h : T.get i with
  | none => rfl
  | some x => have := hT i x h; omega
/-- The tail of rights stays behind whatever has a low name. -/
theorem Lo.sub_low {T L : Lo} {i : Nat} {x : Option Ow} (hT : ∀ i x, T.get i = some x → 8000000 ≤ i) (hi : i < 8000000) (h : Lo.sub T L) : Lo.sub T ((i, x) :: L) := fun j y hy => by
  rw [Lo.get_cons, if_neg (by have := hT j y hy; omega)]
  exact h j y hy

section
variable {P : Program} {kt : TypeId} {K V : Type} {ky : Ky P kt K} {r : Rp V} {G G' : Mem}
theorem MapR.mono {v : Value} {D : List (K × V)} {tk : Option Ow} (h : MapR ky (RvS r G) v D tk) (hle : Mem.le G G') : MapR ky (RvS r G') v D tk := h.imp fun _ _ _ h => r.mono hle h
end
section
variable {P : Program} {kt : TypeId} {α : Type} {ky : Ky P kt Int} {r : Rp α} {e : TypeId} {G G' : Mem} {T : Lo}
theorem MapR.monoT {v : Value} {D : List (Int × List α)} {tk : Option Ow} (h : MapR ky (RvT r e T G) v D tk) (hle : Mem.le G G') : MapR ky (RvT r e T G') v D tk := h.imp fun _ _ _ h => ⟨h.1.mono hle, h.2⟩
/-- The rights are given up. -/
theorem MapR.drop {v : Value} {D : List (Int × List α)} {tk : Option Ow} (h : MapR ky (RvT r e T G) v D tk) : MapR ky (RvS (Rp.sl r) G) v D tk := h.imp fun _ _ u h => ⟨u, rfl, h.1⟩
variable {N : Nat} {Q : Post} {fr : Fr} {ops : Array Oper} {l : List Oper} {dst : Option Nat} {ty : TypeId} {pos : String} {af : Array Edge} {g : Option (Nat × Bool)} {w0 : Bs} {G0 : Mem} {L : Lo}
theorem WL.makeMapT {t : TypeId} (key : Nat) (hg : guardOK ops fr ⟨dst, .makeMap t none, ty, pos, af, g⟩ true) (hd : dstOK N dst)
    (k : ∀ b tk, MapR ky (RvT r e [] G) (.map (some b)) [] tk → WL P N ops Q l (putFr dst (.map (some b)) fr) (St w0 G0 G ((key, tk) :: L))) : WL P N ops Q (⟨dst, .makeMap t none, ty, pos, af, g⟩ :: l) fr (St w0 G0 G L) := WL.makeMap key hg hd k
theorem WL.mapGetT {t et : TypeId} {m x : Operand} {v : Value} {D : List (Int × List α)} {tk : Option Ow} {k : Int} (key : Nat) (hg : guardOK ops fr ⟨dst, .lookup t m x false, ty, pos, af, g⟩ true) (hd : dstOK N dst) (ht : P.underlying t = some (.map kt et)) (hz : ∀ w, (zeroValue et).run P w = .ok (.slice none 0 0) w)
    (h : MapR ky (RvT r e T G) v D tk) (hT : TokM T D) (hid : L.get key = tk) (hm : fr.ev m = some v) (hx : fr.ev x = some (ky.enc k)) (hk : ky.ok k)
    (kk : ∀ p c, SlR r G (.slice p ((mget D k).getD []).length c) ((mget D k).getD []) → Tok r.size e (.slice p ((mget D k).getD []).length c) ((mget D k).getD []).length (T.get (kcode k)) → WL P N ops Q l (putFr dst (.slice p ((mget D k).getD []).length c) fr) (St w0 G0 G L)) :
    WL P N ops Q (⟨dst, .lookup t m x false, ty, pos, af, g⟩ :: l) fr (St w0 G0 G L) := by
  refine WL.mapGet (R := fun u => ∃ p c, u = .slice p ((mget D k).getD []).length c ∧ SlR r G u ((mget D k).getD []) ∧ Tok r.size e u ((mget D k).getD []).length (T.get (kcode k))) key false hg hd ht hz h hid hm hx hk (fun h0 => ?_) (fun val y h1 h2 => ?_) (fun u hu => ?_)
  · rw [h0]
    refine ⟨none, 0, rfl, SlR.nil _ _, ?_⟩
    rw [hT.none k h0]
    exact ⟨none, rfl⟩
  · rw [h1]
    obtain ⟨p, c, cs, hc⟩ := h2.1
    have hv := hc.1
    subst hv
    exact ⟨p, c, rfl, h2.1, h2.2⟩
  · obtain ⟨p, c, rfl, h1, h2⟩ := hu
    exact kk p c h1 h2
theorem WL.mapGetS {t et : TypeId} {m x : Operand} {v : Value} {D : List (Int × List α)} {tk : Option Ow} {k : Int} (key : Nat) (hg : guardOK ops fr ⟨dst, .lookup t m x false, ty, pos, af, g⟩ true) (hd : dstOK N dst) (ht : P.underlying t = some (.map kt et)) (hz : ∀ w, (zeroValue et).run P w = .ok (.slice none 0 0) w)
    (h : MapR ky (RvS (Rp.sl r) G) v D tk) (hid : L.get key = tk) (hm : fr.ev m = some v) (hx : fr.ev x = some (ky.enc k)) (hk : ky.ok k)
    (kk : ∀ p c, SlR r G (.slice p ((mget D k).getD []).length c) ((mget D k).getD []) → WL P N ops Q l (putFr dst (.slice p ((mget D k).getD []).length c) fr) (St w0 G0 G L)) :
    WL P N ops Q (⟨dst, .lookup t m x false, ty, pos, af, g⟩ :: l) fr (St w0 G0 G L) := by
  refine WL.mapGet (R := fun u => ∃ p c, u = .slice p ((mget D k).getD []).length c ∧ SlR r G u ((mget D k).getD [])) key false hg hd ht hz h hid hm hx hk (fun h0 => ?_) (fun val y h1 h2 => ?_) (fun u hu => ?_)
  · rw [h0]
    exact ⟨none, 0, rfl, SlR.nil _ _⟩
  · rw [h1]
    obtain ⟨w, hw, hs⟩ := h2
    simp only [List.cons.injEq, and_true] at hw
    subst hw
    obtain ⟨p, c, cs, hc⟩ := hs
    have hv := hc.1
    subst hv
    exact ⟨p, c, rfl, p, c, cs, hc⟩
  · obtain ⟨p, c, rfl, h1⟩ := hu
    exact kk p c h1
/-- Append to a value of the map. -/
theorem WL.appendD {A : Lo} {t : TypeId} {z : Value} {s x : Operand} {bytes m c : Nat} {v : Value} {xs ys : List α} {p : Option Addr} {k : Int} (hg : guardOK ops fr ⟨dst, .call ⟨.builtin .append, #[s, x], #[t, t]⟩, ty, pos, af, g⟩ true) (hd : dstOK N dst)
    (hA : A.all (fun p => decide (p.1 < 8000000)) = true) (hT : ∀ i x, T.get i = some x → 8000000 ≤ i) (ht : P.underlying t = some (.slice e)) (hE : ElT P e z r.size bytes) (hzs : z.cells.size = r.size) (hby : bytes ≤ 100000) (hs : fr.ev s = some v) (hx : fr.ev x = some (.slice p m c)) (hv : SlR r G v xs) (h0 : w0.L = []) (htk : Tok r.size e v xs.length (T.get (kcode k)))
    (hy : SlR r G (.slice p m c) ys) (hsm : (xs ++ ys).length ≤ small)
    (kk : ∀ p' cap' tk' G', Mem.le G G' → SlR r G' (.slice p' (xs ++ ys).length cap') (xs ++ ys) → Tok r.size e (.slice p' (xs ++ ys).length cap') (xs ++ ys).length tk' → WL P N ops Q l (putFr dst (.slice p' (xs ++ ys).length cap') fr) (St w0 G0 G' (A ++ ((kcode k, tk') :: T)))) :
    WL P N ops Q (⟨dst, .call ⟨.builtin .append, #[s, x], #[t, t]⟩, ty, pos, af, g⟩ :: l) fr (St w0 G0 G (A ++ T)) :=
  WL.appendR (kcode k) hg hd ht hE hzs hby hs hx hv (Lo.get_skip hA (kcode_ge k)) (by rw [h0]; rfl) htk hy hsm (fun p' cap' tk' G' h1 h2 h3 => WL.conseq (fun w hs => hs.weaken (Lo.sub_swap hA (kcode_ge k) hT)) (kk p' cap' tk' G' h1 h2 h3))
theorem mget_mput {K V : Type} [DecidableEq K] : ∀ (D : List (K × V)) (k : K) (x : V) (j : K), mget (mput D k x) j = if k = j then some x else mget D j
  | [], k, x, j => by simp only [mput, mget]
  | p :: D, k, x, j => by
    simp only [mput]
    split
    · rename_i h
      subst h
      simp only [mget]
      split <;> simp_all
    · rename_i h
      simp only [mget, mget_mput D k x j]
      split
      · rename_i h2
        subst h2
        rw [if_neg (fun e => h e.symm)]
      · rfl
theorem TokM.put {D : List (Int × List α)} (hT : TokM T D) {k : Int} {tk' : Option Ow} {y : List α} : TokM ((kcode k, tk') :: T) (mput D k y) := by
  refine ⟨fun i x h => ?_, fun j hj => ?_⟩
  · rw [Lo.get_cons] at h
    split at h
    · rename_i e; rw [← e]; exact kcode_ge k
    · exact hT.high i x h
  · rw [mget_mput] at hj
    split at hj
    · cases hj
    · rename_i h
      rw [Lo.get_cons, if_neg (fun e => h (kcode_inj e))]
      exact hT.none j hj
theorem WL.mapPutT {t et : TypeId} {m x y : Operand} {v val : Value} {D : List (Int × List α)} {tk tk' : Option Ow} {k : Int} {z : List α} (key : Nat) (hg : guardOK ops fr ⟨none, .mapUpdate t m x y, ty, pos, af, g⟩ true) (ht : P.underlying t = some (.map kt et)) (h : MapR ky (RvT r e T G) v D tk) (hid : L.get key = tk)
    (hm : fr.ev m = some v) (hx : fr.ev x = some (ky.enc k)) (hy : fr.ev y = some val) (hk : ky.ok k) (hs : SlR r G val z) (htk : Tok r.size e val z.length tk') (hsm : (mput D k z).length ≤ small)
    (kk : ∀ tk2, MapR ky (RvT r e ((kcode k, tk') :: T) G) v (mput D k z) tk2 → WL P N ops Q l fr (St w0 G0 G ((key, tk2) :: L))) : WL P N ops Q (⟨none, .mapUpdate t m x y, ty, pos, af, g⟩ :: l) fr (St w0 G0 G L) :=
  WL.mapPut (Rv' := RvT r e ((kcode k, tk') :: T) G) key hg ht h hid hm hx hy hk ⟨hs, by rw [Lo.get_cons, if_pos rfl]; exact htk⟩ (fun p _ hne u hu => ⟨hu.1, by rw [Lo.get_cons, if_neg (fun e => hne (kcode_inj e).symm)]; exact hu.2⟩) hsm kk
end
end Go.EL
