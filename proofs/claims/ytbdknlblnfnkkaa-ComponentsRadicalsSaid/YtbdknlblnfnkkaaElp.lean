/- Maps of the call's own, as lists of keys and values. The conditions stand in each statement. -/
import Derived.Test.YtbdknlblnfnkkaaEln
import Derived.Maps.Keyed
import Derived.Carry
namespace Go.EL
open Go Go.RowKit Go.Proofs Go.MapKept

/-- How keys lie. -/
structure Ky (P : Program) (kt : TypeId) (K : Type) where
  enc : K → Value
  ok : K → Prop
  inj : ∀ {x y}, enc x = enc y → x = y
  lit : ∀ {x}, ok x → ∃ l, keyOf P kt (enc x) = some l
  keyed : Go.Maps.Keyed P kt

section
variable {K V : Type} [DecidableEq K]
/-- A list of keys and values, with one more: at its old place, or at the end. -/
def mput : List (K × V) → K → V → List (K × V)
  | [], k, x => [(k, x)]
  | p :: D, k, x => if p.1 = k then (k, x) :: D else p :: mput D k x
def mget : List (K × V) → K → Option V
  | [], _ => none
  | p :: D, k => if p.1 = k then some p.2 else mget D k
theorem mput_new : ∀ {D : List (K × V)} {k : K} {x : V}, (∀ p ∈ D, p.1 ≠ k) → mput D k x = D ++ [(k, x)]
  | [], _, _, _ => rfl
  | p :: D, k, x, h => by
    simp only [mput, if_neg (h p (by simp)), List.cons_append]
    rw [mput_new (fun q hq => h q (by simp [hq]))]
theorem mget_new : ∀ {D : List (K × V)} {k : K}, (∀ p ∈ D, p.1 ≠ k) → mget D k = none
  | [], _, _ => rfl
  | p :: D, k, h => by
    simp only [mget, if_neg (h p (by simp))]
    exact mget_new (fun q hq => h q (by simp [hq]))
end

section
variable {K V : Type}
def MapL (enc : K → Value) (Rv : K → Value → V → Prop) : List MapEntry → List (K × V) → Prop
  | [], [] => True
  | en :: es, p :: D => en.key = enc p.1 ∧ Rv p.1 en.val p.2 ∧ MapL enc Rv es D
  | _, _ => False
variable {enc : K → Value} {Rv Rv' : K → Value → V → Prop}
theorem MapL.length : ∀ {es : List MapEntry} {D : List (K × V)}, MapL enc Rv es D → es.length = D.length
  | [], [], _ => rfl
  | _ :: _, _ :: _, h => by simp only [List.length_cons]; rw [MapL.length h.2.2]
  | [], _ :: _, h => by cases h
  | _ :: _, [], h => by cases h
theorem MapL.imp : ∀ {es : List MapEntry} {D : List (K × V)}, MapL enc Rv es D → (∀ p ∈ D, ∀ v, Rv p.1 v p.2 → Rv' p.1 v p.2) → MapL enc Rv' es D
  | [], [], _, _ => trivial
  | _ :: _, p :: _, h, hi => ⟨h.1, hi p (by simp) _ h.2.1, MapL.imp h.2.2 (fun q hq => hi q (by simp [hq]))⟩
  | [], _ :: _, h, _ => by cases h
  | _ :: _, [], h, _ => by cases h
theorem MapL.key : ∀ {es : List MapEntry} {D : List (K × V)}, MapL enc Rv es D → ∀ en ∈ es, ∃ p ∈ D, en.key = enc p.1 ∧ Rv p.1 en.val p.2
  | [], [], _, en, h => by cases h
  | e :: _, p :: _, h, en, hen => by
    rcases List.mem_cons.1 hen with rfl | hen
    · exact ⟨p, by simp, h.1, h.2.1⟩
    · obtain ⟨q, hq, r⟩ := MapL.key h.2.2 en hen
      exact ⟨q, by simp [hq], r⟩
  | [], _ :: _, h, _, _ => by cases h
  | _ :: _, [], h, _, _ => by cases h
theorem MapL.mem : ∀ {es : List MapEntry} {D : List (K × V)}, MapL enc Rv es D → ∀ p ∈ D, ∃ en ∈ es, en.key = enc p.1
  | [], [], _, p, h => by cases h
  | e :: _, q :: _, h, p, hp => by
    rcases List.mem_cons.1 hp with rfl | hp
    · exact ⟨e, by simp, h.1⟩
    · obtain ⟨en, hen, r⟩ := MapL.mem h.2.2 p hp
      exact ⟨en, by simp [hen], r⟩
  | [], _ :: _, h, _, _ => by cases h
  | _ :: _, [], h, _, _ => by cases h
theorem MapL.push : ∀ {es : List MapEntry} {D : List (K × V)} {en : MapEntry} {k : K} {x : V}, MapL enc Rv es D → en.key = enc k → Rv k en.val x → MapL enc Rv (es ++ [en]) (D ++ [(k, x)])
  | [], [], _, _, _, _, h1, h2 => ⟨h1, h2, trivial⟩
  | _ :: _, _ :: _, _, _, _, h, h1, h2 => ⟨h.1, h.2.1, MapL.push h.2.2 h1 h2⟩
  | [], _ :: _, _, _, _, h, _, _ => by cases h
  | _ :: _, [], _, _, _, h, _, _ => by cases h
/-- The entry of a key is the one that is written, and no other. -/
theorem MapL.set [DecidableEq K] (hinj : ∀ {x y}, enc x = enc y → x = y) {k : K} {val : Value} {x : V} (hv : Rv' k val x) : ∀ {es : List MapEntry} {D : List (K × V)} {j : Nat} {e0 : MapEntry}, MapL enc Rv es D → es.Pairwise (fun a b => a.key ≠ b.key) →
    es[j]? = some e0 → e0.key = enc k → (∀ p ∈ D, p.1 ≠ k → ∀ v, Rv p.1 v p.2 → Rv' p.1 v p.2) → MapL enc Rv' (es.set j { e0 with key := enc k, val := val }) (mput D k x)
  | [], _, j, e0, _, _, h, _, _ => by simp at h
  | e :: es, [], _, _, h, _, _, _, _ => by cases h
  | e :: es, p :: D, 0, e0, h, hp, he, hk, hi => by
    simp only [List.getElem?_cons_zero, Option.some.injEq] at he
    subst he
    have hpk : p.1 = k := hinj (h.1.symm.trans hk)
    simp only [mput, if_pos hpk, List.set_cons_zero]
    refine ⟨rfl, hv, h.2.2.imp fun q hq v hv' => hi q (by simp [hq]) (fun e' => ?_) v hv'⟩
    obtain ⟨en, hen, hek⟩ := MapL.mem h.2.2 q hq
    exact (List.pairwise_cons.1 hp).1 en hen (by rw [hk, hek, e'])
  | e :: es, p :: D, j + 1, e0, h, hp, he, hk, hi => by
    simp only [List.getElem?_cons_succ] at he
    have hpk : p.1 ≠ k := fun e' => (List.pairwise_cons.1 hp).1 e0 (List.mem_of_getElem? he) (by rw [hk, h.1, e'])
    simp only [mput, if_neg hpk, List.set_cons_succ]
    exact ⟨h.1, hi p (by simp) hpk _ h.2.1, MapL.set hinj hv h.2.2 (List.pairwise_cons.1 hp).2 he hk (fun q hq => hi q (by simp [hq]))⟩
theorem MapL.get [DecidableEq K] (hinj : ∀ {x y}, enc x = enc y → x = y) {k : K} : ∀ {es : List MapEntry} {D : List (K × V)} {j : Nat} {e0 : MapEntry}, MapL enc Rv es D → es.Pairwise (fun a b => a.key ≠ b.key) →
    es[j]? = some e0 → e0.key = enc k → ∃ x, mget D k = some x ∧ Rv k e0.val x
  | [], _, j, e0, _, _, h, _ => by simp at h
  | e :: es, [], _, _, h, _, _, _ => by cases h
  | e :: es, p :: D, 0, e0, h, hp, he, hk => by
    simp only [List.getElem?_cons_zero, Option.some.injEq] at he
    subst he
    have hpk : p.1 = k := hinj (h.1.symm.trans hk)
    refine ⟨p.2, by simp [mget, hpk], ?_⟩
    rw [← hpk]; exact h.2.1
  | e :: es, p :: D, j + 1, e0, h, hp, he, hk => by
    simp only [List.getElem?_cons_succ] at he
    have hpk : p.1 ≠ k := fun e' => (List.pairwise_cons.1 hp).1 e0 (List.mem_of_getElem? he) (by rw [hk, h.1, e'])
    simp only [mget, if_neg hpk]
    exact MapL.get hinj h.2.2 (List.pairwise_cons.1 hp).2 he hk
end

section
variable {P : Program} {kt : TypeId} {K V : Type} [DecidableEq K]
/-- A map of the call's own. -/
def MapR (ky : Ky P kt K) (Rv : K → Value → V → Prop) (v : Value) (D : List (K × V)) (tk : Option Ow) : Prop :=
  ∃ b es clock, v = .map (some b) ∧ tk = some ⟨b, .map es clock, 0⟩ ∧ Stamped es clock ∧ (∀ p ∈ D, ky.ok p.1) ∧ MapL ky.enc Rv es.toList D ∧ D.length ≤ small
variable {ky : Ky P kt K} {Rv Rv' : K → Value → V → Prop}
omit [DecidableEq K] in
theorem MapR.imp {v : Value} {D : List (K × V)} {tk : Option Ow} (h : MapR ky Rv v D tk) (hi : ∀ p ∈ D, ∀ v, Rv p.1 v p.2 → Rv' p.1 v p.2) : MapR ky Rv' v D tk := by
  obtain ⟨b, es, clock, h1, h2, h3, h4, h5, h6⟩ := h
  exact ⟨b, es, clock, h1, h2, h3, h4, h5.imp hi, h6⟩
omit [DecidableEq K] in
theorem MapR.empty (b : Nat) : MapR ky Rv (.map (some b)) [] (some ⟨b, .map #[] 0, 0⟩) := ⟨b, #[], 0, rfl, rfl, stamped_empty 0, by simp, trivial, by simp [small]⟩
omit [DecidableEq K] in
theorem MapR.zero {v : Value} {D : List (K × V)} {tk : Option Ow} {x : Ow} (h : MapR ky Rv v D tk) (hx : tk = some x) : x.m = 0 := by
  obtain ⟨b, es, clock, h1, h2, _⟩ := h
  rw [h2] at hx; cases hx; rfl
variable {w0 : Bs} {G0 G : Mem} {L : Lo}
theorem run_put {t e : TypeId} (ht : P.underlying t = some (.map kt e)) {v : Value} {D : List (K × V)} {tk : Option Ow} (h : MapR ky Rv v D tk) {key : Nat} (hid : L.get key = tk) {k : K} {val : Value} {x : V} (hk : ky.ok k) (hv : Rv' k val x) (hi : ∀ p ∈ D, p.1 ≠ k → ∀ v, Rv p.1 v p.2 → Rv' p.1 v p.2)
    (hsm : (mput D k x).length ≤ small) (w : World) (hs : St w0 G0 G L w) : ∃ tk' w', (Instr.mapUpdate t v (ky.enc k) val).run P w = .ok () w' ∧ MapR ky Rv' v (mput D k x) tk' ∧ St w0 G0 G ((key, tk') :: L) w' := by
  obtain ⟨b, es, clock, rfl, rfl, h3, h4, h5, h6⟩ := h
  obtain ⟨l, hl⟩ := ky.lit hk
  have hb := (hs.loc key _ hid).1
  dsimp only at hb
  have hbs := (Array.getElem?_eq_some_iff.1 hb).1
  have hkeys : ∀ en ∈ es.toList, ∃ l, keyOf P kt en.key = some l := fun en hen => by
    obtain ⟨p, hp, hpk, _⟩ := h5.key en hen
    rw [hpk]; exact ky.lit (h4 p hp)
  have hupd : ∀ o', St w0 G0 G ((key, some ⟨b, o', 0⟩) :: L) { w with heap := w.heap.setIfInBounds b o' } := fun o' =>
    hs.upd hid (by simp [hbs]) (Nat.le_refl _) (fun k' _ hk' => absurd hk' (Nat.not_lt_zero k')) (fun k' hk' => by simp only [Array.getElem?_setIfInBounds]; rw [if_neg (fun e' => hk' e'.symm)]) rfl rfl rfl rfl (by simp)
  rcases ky.keyed.find w hl es.toList hkeys with ⟨h1, h2⟩ | ⟨j, e0, h1, h2, h3'⟩
  · have hnew : ∀ p ∈ D, p.1 ≠ k := fun p hp e' => by
      obtain ⟨en, hen, hek⟩ := h5.mem p hp
      exact h2 en hen (by rw [hek, e'])
    refine ⟨some ⟨b, .map (es.push ⟨ky.enc k, val, clock⟩) (clock + 1), 0⟩, _, ?_, ⟨b, _, _, rfl, rfl, stamped_push h3 h2, ?_, ?_, hsm⟩, hupd _⟩
    · simp [Instr.mapUpdate, run_underlying ht, MapKept.run_getObj_map hb, ky.keyed.check w false hl, h1, MapKept.run_setObj_map _ hb, Result.andThen]
    · rw [mput_new hnew]
      intro p hp
      rcases List.mem_append.1 hp with hp | hp
      · exact h4 p hp
      · simp only [List.mem_singleton] at hp; subst hp; exact hk
    · rw [mput_new hnew, Array.toList_push]
      exact (h5.imp fun p hp v hv' => hi p hp (hnew p hp) v hv').push rfl hv
  · have hj : es[j]? = some e0 := by rw [← Array.getElem?_toList]; exact h2
    have hkeyf : ∀ e' : MapEntry, es[j]? = some e' → ({ e' with key := ky.enc k, val := val } : MapEntry).key = e'.key := fun e' he' => by rw [hj] at he'; cases he'; exact h3'.symm
    have hpw := ((stamped_iff es clock).1 h3).2.2
    have hlist : (es.modify j fun e' => { e' with key := ky.enc k, val := val }).toList = es.toList.set j { e0 with key := ky.enc k, val := val } := by
      apply List.ext_getElem?
      intro i
      rw [Array.getElem?_toList, Array.getElem?_modify, List.getElem?_set]
      by_cases hij : j = i
      · subst hij
        rw [if_pos rfl, if_pos rfl, hj, if_pos (List.getElem?_eq_some_iff.1 h2).1]; rfl
      · rw [if_neg hij, if_neg hij, Array.getElem?_toList]
    refine ⟨some ⟨b, .map (es.modify j fun e' => { e' with key := ky.enc k, val := val }) clock, 0⟩, _, ?_, ⟨b, _, _, rfl, rfl, stamped_modify h3 _ _ (fun _ _ => rfl) (fun e' _ he' => hkeyf e' he'), ?_, ?_, hsm⟩, hupd _⟩
    · simp [Instr.mapUpdate, run_underlying ht, MapKept.run_getObj_map hb, ky.keyed.check w false hl, h1, hj, h3', ky.keyed.stays w hl, MapKept.run_setObj_map _ hb, Result.andThen]
    · have : ∀ (D : List (K × V)), (∀ p ∈ D, ky.ok p.1) → ∀ p ∈ mput D k x, ky.ok p.1 := by
        intro D
        induction D with
        | nil => intro _ p hp; simp only [mput, List.mem_singleton] at hp; subst hp; exact hk
        | cons q D ih =>
          intro hD p hp
          simp only [mput] at hp
          split at hp
          · rcases List.mem_cons.1 hp with rfl | hp
            · exact hk
            · exact hD p (by simp [hp])
          · rcases List.mem_cons.1 hp with rfl | hp
            · exact hD p (by simp)
            · exact ih (fun p hp => hD p (by simp [hp])) p hp
      exact this D h4
    · rw [hlist]
      exact MapL.set (fun h => ky.inj h) hv h5 hpw h2 h3' hi
theorem run_get (c : Bool) {t e : TypeId} (ht : P.underlying t = some (.map kt e)) {z : Value} (hz : ∀ w, (zeroValue e).run P w = .ok z w) {v : Value} {D : List (K × V)} {tk : Option Ow} (h : MapR ky Rv v D tk) {key : Nat} (hid : L.get key = tk) {k : K} (hk : ky.ok k) (w : World) (hs : St w0 G0 G L w) :
    ∃ val, (Instr.lookup t v (ky.enc k) c).run P w = .ok (if c then .tuple #[val, .bool (mget D k).isSome] else val) w ∧ ((mget D k = none ∧ val = z) ∨ ∃ x, mget D k = some x ∧ Rv k val x) := by
  obtain ⟨b, es, clock, rfl, rfl, h3, h4, h5, h6⟩ := h
  obtain ⟨l, hl⟩ := ky.lit hk
  have hb := (hs.loc key _ hid).1
  dsimp only at hb
  have hkeys : ∀ en ∈ es.toList, ∃ l, keyOf P kt en.key = some l := fun en hen => by
    obtain ⟨p, hp, hpk, _⟩ := h5.key en hen
    rw [hpk]; exact ky.lit (h4 p hp)
  have hpw := ((stamped_iff es clock).1 h3).2.2
  rcases ky.keyed.find w hl es.toList hkeys with ⟨h1, h2⟩ | ⟨j, e0, h1, h2, h3'⟩
  · have hnew : ∀ p ∈ D, p.1 ≠ k := fun p hp e' => by
      obtain ⟨en, hen, hek⟩ := h5.mem p hp
      exact h2 en hen (by rw [hek, e'])
    have hm := mget_new hnew
    refine ⟨z, ?_, .inl ⟨hm, rfl⟩⟩
    rw [hm]
    simp [Instr.lookup, run_underlying ht, MapKept.run_getObj_map hb, ky.keyed.check w _ hl, h1, hz, Result.andThen]
  · obtain ⟨x, hx, hrx⟩ := MapL.get (fun h => ky.inj h) h5 hpw h2 h3'
    refine ⟨e0.val, ?_, .inr ⟨x, hx, hrx⟩⟩
    rw [hx]
    simp [Instr.lookup, run_underlying ht, MapKept.run_getObj_map hb, ky.keyed.check w _ hl, h1, Result.andThen]
end

section
variable {P : Program} {kt : TypeId} {K V : Type} [DecidableEq K] {ky : Ky P kt K} {Rv Rv' : K → Value → V → Prop}
variable {N : Nat} {Q : Post} {fr : Fr} {S : Asrt} {ops : Array Oper} {l : List Oper} {dst : Option Nat} {ty : TypeId} {pos : String} {af : Array Edge} {g : Option (Nat × Bool)}
variable {w0 : Bs} {G0 G : Mem} {L : Lo}
omit [DecidableEq K] in
theorem WL.makeMap {t : TypeId} (key : Nat) (hg : guardOK ops fr ⟨dst, .makeMap t none, ty, pos, af, g⟩ true) (hd : dstOK N dst)
    (k : ∀ b tk, MapR ky Rv (.map (some b)) [] tk → WL P N ops Q l (putFr dst (.map (some b)) fr) (St w0 G0 G ((key, tk) :: L))) : WL P N ops Q (⟨dst, .makeMap t none, ty, pos, af, g⟩ :: l) fr (St w0 G0 G L) := by
  refine WL.yr (Φ := fun v w => ∃ b, v = .map (some b) ∧ St w0 G0 G ((key, some ⟨b, .map #[] 0, 0⟩) :: L) w) hg (fun a w ha hs => ?_) hd (fun v a w ha ⟨b, h1, h2⟩ => by subst h1; exact k b _ (MapR.empty b) a w ha h2)
  have : (execOp a.eval ⟨dst, .makeMap t none, ty, pos, af, g⟩).run P w = .ok (.value (.map (some w.heap.size))) (w.alloc (.map #[] 0)) := by
    simp [execOp, run_makeMap]
  rw [this]
  exact ⟨_, rfl, hs.push key _⟩
theorem WL.mapPut {t e : TypeId} {m x y : Operand} {v val : Value} {D : List (K × V)} {tk : Option Ow} {k : K} {z : V} (key : Nat) (hg : guardOK ops fr ⟨none, .mapUpdate t m x y, ty, pos, af, g⟩ true) (ht : P.underlying t = some (.map kt e)) (h : MapR ky Rv v D tk) (hid : L.get key = tk)
    (hm : fr.ev m = some v) (hx : fr.ev x = some (ky.enc k)) (hy : fr.ev y = some val) (hk : ky.ok k) (hv : Rv' k val z) (hi : ∀ p ∈ D, p.1 ≠ k → ∀ v, Rv p.1 v p.2 → Rv' p.1 v p.2) (hsm : (mput D k z).length ≤ small)
    (kk : ∀ tk', MapR ky Rv' v (mput D k z) tk' → WL P N ops Q l fr (St w0 G0 G ((key, tk') :: L))) : WL P N ops Q (⟨none, .mapUpdate t m x y, ty, pos, af, g⟩ :: l) fr (St w0 G0 G L) := by
  refine WL.yr (Φ := fun _ w => ∃ tk', MapR ky Rv' v (mput D k z) tk' ∧ St w0 G0 G ((key, tk') :: L) w) hg (fun a w ha hs => ?_) trivial (fun _ a w ha ⟨tk', h1, h2⟩ => kk tk' h1 a w ha h2)
  obtain ⟨tk', w', h1, h2, h3⟩ := run_put ht h hid hk hv hi hsm w hs
  have : (execOp a.eval ⟨none, .mapUpdate t m x y, ty, pos, af, g⟩).run P w = .ok .skip w' ∨ (execOp a.eval ⟨none, .mapUpdate t m x y, ty, pos, af, g⟩).run P w = .ok (.value undef) w' := by
    simp [execOp, ha.ev hm, ha.ev hx, ha.ev hy, h1]
  rcases this with this | this <;> rw [this] <;> exact ⟨tk', h2, h3⟩
theorem Y0.mapGet {t e : TypeId} {m x : Operand} {v z : Value} {D : List (K × V)} {tk : Option Ow} {k : K} {key : Nat} (ht : P.underlying t = some (.map kt e)) (hz : ∀ w, (zeroValue e).run P w = .ok z w) (h : MapR ky Rv v D tk) (hid : L.get key = tk)
    (hm : fr.ev m = some v) (hx : fr.ev x = some (ky.enc k)) (hk : ky.ok k) (c : Bool) {R : Value → Prop} (h0 : mget D k = none → R (if c then .tuple #[z, .bool false] else z)) (h1 : ∀ val y, mget D k = some y → Rv k val y → R (if c then .tuple #[val, .bool true] else val)) :
    YR P N ⟨dst, .lookup t m x c, ty, pos, af, g⟩ fr (St w0 G0 G L) (fun u w => R u ∧ St w0 G0 G L w) := fun a w ha hs => by
  obtain ⟨val, hr, hc⟩ := run_get c ht hz h hid hk w hs
  have : (execOp a.eval ⟨dst, .lookup t m x c, ty, pos, af, g⟩).run P w = .ok (.value (if c then .tuple #[val, .bool (mget D k).isSome] else val)) w := by
    simp [execOp, ha.ev hm, ha.ev hx, hr]
  rw [this]
  refine ⟨?_, hs⟩
  rcases hc with ⟨e1, rfl⟩ | ⟨y, e1, e2⟩
  · have := h0 e1; rw [e1]; exact this
  · have := h1 val y e1 e2; rw [e1]; exact this
/-- m[k]: what is found, or the zero value. -/
theorem WL.mapGet {t e : TypeId} {m x : Operand} {v z : Value} {D : List (K × V)} {tk : Option Ow} {k : K} (key : Nat) (c : Bool) {R : Value → Prop} (hg : guardOK ops fr ⟨dst, .lookup t m x c, ty, pos, af, g⟩ true) (hd : dstOK N dst) (ht : P.underlying t = some (.map kt e)) (hz : ∀ w, (zeroValue e).run P w = .ok z w) (h : MapR ky Rv v D tk) (hid : L.get key = tk)
    (hm : fr.ev m = some v) (hx : fr.ev x = some (ky.enc k)) (hk : ky.ok k) (h0 : mget D k = none → R (if c then .tuple #[z, .bool false] else z)) (h1 : ∀ val y, mget D k = some y → Rv k val y → R (if c then .tuple #[val, .bool true] else val))
    (kk : ∀ u, R u → WL P N ops Q l (putFr dst u fr) (St w0 G0 G L)) : WL P N ops Q (⟨dst, .lookup t m x c, ty, pos, af, g⟩ :: l) fr (St w0 G0 G L) :=
  WL.yr hg (Y0.mapGet ht hz h hid hm hx hk c h0 h1) hd (fun u a w ha ⟨q1, q2⟩ => kk u q1 a w ha q2)
end
end Go.EL
