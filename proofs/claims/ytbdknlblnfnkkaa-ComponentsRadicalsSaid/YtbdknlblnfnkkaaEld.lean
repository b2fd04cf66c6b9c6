/- That a chain of premises serves whatever order a region draws. No condition. -/
import Derived.Test.YtbdknlblnfnkkaaElc
namespace Go.EL
open Go Go.RowKit

abbrev Ent := Value ⊕ (Value → Gx → Prop)
def Ent.val (e : Ent) (u : Nat → Value) (t : Nat) : Value := match e with | .inl c => c | .inr _ => u t
def Ent.post : Ent → Value → Gx → Prop
  | .inl c => fun v _ => v = c
  | .inr φ => φ
abbrev Tab := List (Oper × Ent)
def detT : Tab → Fr → Fr
  | [], det => det
  | (o, .inl c) :: r, det => detT r (putFr o.dst c det)
  | (_, .inr _) :: r, det => detT r det
def undT : Tab → Und → Und
  | [], und => und
  | (_, .inl _) :: r, und => undT r und
  | (o, .inr φ) :: r, und => undT r (match o.dst with | some d => (d, φ) :: und | none => und)

theorem Fr.get_append (A B : Fr) (t : Nat) : Fr.get (A ++ B) t = (A.get t).or (B.get t) := by
  induction A with
  | nil => simp [Fr.get]
  | cons p A ih =>
    simp only [List.cons_append, Fr.get]
    cases Nat.beq p.1 t <;> simp [ih]
theorem Fr.get_cons (t : Nat) (v : Value) (A : Fr) (s : Nat) : Fr.get ((t, v) :: A) s = if t = s then some v else A.get s := by
  simp only [Fr.get]
  by_cases e : t = s
  · subst e; simp
  · have : Nat.beq t s = false := by cases hb : Nat.beq t s; rfl; exact absurd (Nat.eq_of_beq_eq_true hb) e
    simp [this, e]
theorem undFr_get_none {und : Und} {u : Nat → Value} {t : Nat} (h : ∀ p ∈ und, p.1 ≠ t) : (undFr und u).get t = none := by
  induction und with
  | nil => rfl
  | cons p r ih =>
    simp only [undFr]
    rw [Fr.get_cons, if_neg (h p (by simp))]
    exact ih (fun q hq => h q (by simp [hq]))

section
variable {fr : Fr} {u : Nat → Value}
/-- The frame behind the operations of T. -/
theorem frame_at : ∀ (T : Tab) (det : Fr) (und : Und) (t : Nat), (∀ p ∈ und, ∀ q ∈ T, q.1.dst ≠ some p.1) → (∀ (j₁ j₂ : Nat) (q₁ q₂ : Oper × Ent) (d : Nat), T[j₁]? = some q₁ → T[j₂]? = some q₂ → q₁.1.dst = some d → q₂.1.dst = some d → j₁ = j₂) → (∀ q ∈ T, ∀ φ, q.2 = .inr φ → q.1.dst.isSome = true) →
    ((∀ q ∈ T, q.1.dst ≠ some t) → Fr.get (undFr (undT T und) u ++ (detT T det ++ fr)) t = Fr.get (undFr und u ++ (det ++ fr)) t) ∧
    (∀ q ∈ T, q.1.dst = some t → Fr.get (undFr (undT T und) u ++ (detT T det ++ fr)) t = some (q.2.val u t))
  | [], det, und, t, _, _, _ => ⟨fun _ => rfl, fun q hq => by simp at hq⟩
  | (o, .inl c) :: r, det, und, t, h1, h2, h3 => by
    have h2' : ∀ j₁ j₂ (q₁ q₂ : Oper × Ent) d, r[j₁]? = some q₁ → r[j₂]? = some q₂ → q₁.1.dst = some d → q₂.1.dst = some d → j₁ = j₂ := fun j₁ j₂ q₁ q₂ d a b c d' => by
      have := h2 (j₁ + 1) (j₂ + 1) q₁ q₂ d (by simpa using a) (by simpa using b) c d'
      omega
    obtain ⟨ih1, ih2⟩ := frame_at r (putFr o.dst c det) und t (fun p hp q hq => h1 p hp q (by simp [hq])) h2' (fun q hq => h3 q (by simp [hq]))
    simp only [detT, undT]
    refine ⟨fun hn => ?_, fun q hq hd => ?_⟩
    · rw [ih1 (fun q hq => hn q (by simp [hq]))]
      have ho : o.dst ≠ some t := hn (o, .inl c) (by simp)
      rw [Fr.get_append, Fr.get_append, Fr.get_append, Fr.get_append]
      congr 2
      cases hd : o.dst with
      | none => rfl
      | some d => simp only [putFr]; rw [Fr.get_cons, if_neg (fun e => ho (by rw [hd, e]))]
    · rcases List.mem_cons.1 hq with rfl | hq
      · have hn : ∀ q ∈ r, q.1.dst ≠ some t := fun q hq' he => by
          obtain ⟨j, hj⟩ := List.getElem?_of_mem hq'
          have := h2 0 (j + 1) (o, .inl c) q t (by simp) (by simpa using hj) hd he
          omega
        rw [ih1 hn, Fr.get_append, undFr_get_none (fun p hp e => h1 p hp (o, .inl c) (by simp) (by rw [hd, e])), Fr.get_append]
        simp only at hd
        rw [hd]
        simp [putFr, Fr.get_cons, Ent.val]
      · exact ih2 q hq hd
  | (o, .inr φ) :: r, det, und, t, h1, h2, h3 => by
    have h2' : ∀ j₁ j₂ (q₁ q₂ : Oper × Ent) d, r[j₁]? = some q₁ → r[j₂]? = some q₂ → q₁.1.dst = some d → q₂.1.dst = some d → j₁ = j₂ := fun j₁ j₂ q₁ q₂ d a b c d' => by
      have := h2 (j₁ + 1) (j₂ + 1) q₁ q₂ d (by simpa using a) (by simpa using b) c d'
      omega
    obtain ⟨d, hd0⟩ := Option.isSome_iff_exists.1 (h3 (o, .inr φ) (by simp) φ rfl)
    simp only at hd0
    have hnr : ∀ q ∈ r, q.1.dst ≠ some d := fun q hq' he => by
      obtain ⟨j, hj⟩ := List.getElem?_of_mem hq'
      have := h2 0 (j + 1) (o, .inr φ) q d (by simp) (by simpa using hj) hd0 he
      omega
    obtain ⟨ih1, ih2⟩ := frame_at r det ((d, φ) :: und) t (fun p hp q hq => by
      rcases List.mem_cons.1 hp with rfl | hp
      · exact hnr q hq
      · exact h1 p hp q (by simp [hq])) h2' (fun q hq => h3 q (by simp [hq]))
    simp only [detT, undT, hd0]
    refine ⟨fun hn => ?_, fun q hq hd => ?_⟩
    · rw [ih1 (fun q hq => hn q (by simp [hq]))]
      have ho : o.dst ≠ some t := hn (o, .inr φ) (by simp)
      simp only [undFr, List.cons_append]
      rw [Fr.get_cons, if_neg (fun e => ho (by rw [hd0, e]))]
    · rcases List.mem_cons.1 hq with rfl | hq
      · simp only at hd
        have hdt : d = t := by rw [hd0] at hd; simpa using hd
        subst hdt
        rw [ih1 hnr]
        simp only [undFr, List.cons_append]
        rw [Fr.get_cons, if_pos rfl]
        rfl
      · exact ih2 q hq hd

theorem und_mem : ∀ (T : Tab) (und : Und) (p : Nat × (Value → Gx → Prop)), p ∈ undT T und → p ∈ und ∨ ∃ (j : Nat) (o : Oper), T[j]? = some (o, (.inr p.2 : Ent)) ∧ o.dst = some p.1
  | [], und, p, h => .inl h
  | (o, .inl c) :: r, und, p, h => by
    rcases und_mem r und p h with h | ⟨j, o', h1, h2⟩
    · exact .inl h
    · exact .inr ⟨j + 1, o', by simpa using h1, h2⟩
  | (o, .inr φ) :: r, und, p, h => by
    simp only [undT] at h
    rcases und_mem r _ p h with h | ⟨j, o', h1, h2⟩
    · cases hd : o.dst with
      | none => rw [hd] at h; exact .inl h
      | some d =>
        rw [hd] at h
        rcases List.mem_cons.1 h with rfl | h
        · exact .inr ⟨0, o, by simp, hd⟩
        · exact .inl h
    · exact .inr ⟨j + 1, o', by simpa using h1, h2⟩

theorem undAll_of {und : Und} {u : Nat → Value} {G : Gx} (h : ∀ p ∈ und, p.2 (u p.1) G) : undAll und u G := by
  induction und with
  | nil => trivial
  | cons p r ih => exact ⟨h p (by simp), ih (fun q hq => h q (by simp [hq]))⟩
theorem undLook_of {ops : Array Oper} {o : Oper} {und : Und} {u : Nat → Value} {G : Gx} (h : ∀ p ∈ und, p.1 ∈ o.looksAt ops → p.2 (u p.1) G) : undLook ops o und u G := by
  induction und with
  | nil => trivial
  | cons p r ih =>
    refine ⟨?_, ih (fun q hq => h q (by simp [hq]))⟩
    cases hc : (o.looksAt ops).contains p.1
    · trivial
    · exact h p (by simp) (by simpa using hc)
end

section
variable {P : Program} {N : Nat} {Q : Post} {fr : Fr} {w0 : Bs} {G0 G : Mem} {L : Lo} {ops : Array Oper}
/-- The table of a chain. -/
theorem chain_tab : ∀ (fl : List Bool) (rest : List Oper) (det : Fr) (und : Und), Chain P N Q fr w0 G0 G L ops fl rest det und →
    ∃ T : Tab, T.map (·.1) = rest.take fl.length ∧
      (∀ j o e, T[j]? = some (o, e) → ∀ u G', Gx.le (Gx.of G) G' → undLook ops o (undT (T.take j) und) u G' → OpOK P N w0 G0 L ops (undFr (undT (T.take j) und) u ++ (detT (T.take j) det ++ fr)) G' o e.post) ∧
      (∀ q ∈ T, ∀ φ, q.2 = .inr φ → q.1.dst.isSome = true ∧ ∀ v G₁ G₂, Gx.le G₁ G₂ → φ v G₁ → φ v G₂) ∧
      (∀ j o e, T[j]? = some (o, e) → fl.getD j false = true → ∃ c, e = .inl c ∧ ∀ u, guardOK ops (undFr (undT (T.take j) und) u ++ (detT (T.take j) det ++ fr)) o true ∧ Y0 P N o (undFr (undT (T.take j) und) u ++ (detT (T.take j) det ++ fr)) (fun _ => True) c) ∧
      (∀ u G', Gx.le (Gx.of G) G' → undAll (undT T und) u G' → WL P N ops (NX Q) (rest.drop fl.length) (undFr (undT T und) u ++ (detT T det ++ fr)) (StX w0 G0 G' L))
  | [], rest, det, und, h => ⟨[], by simp, by simp, by simp, by simp, by simpa [undT, detT, Chain] using h⟩
  | f :: fs, [], det, und, h => ⟨[], by simp, by simp, by simp, by simp, by cases f <;> simpa [undT, detT, Chain] using h⟩
  | true :: fs, o :: r, det, und, h => by
    simp only [Chain] at h
    obtain ⟨c, hp, hr⟩ := h
    obtain ⟨T, t1, t2, t3, t5, t4⟩ := chain_tab fs r _ und hr
    refine ⟨(o, .inl c) :: T, by simp [t1], fun j o' e hj => ?_, fun q hq => ?_, fun j o' e hj hf => ?_, by simpa [undT, detT] using t4⟩
    · cases j with
      | zero =>
        simp only [List.getElem?_cons_zero, Option.some.injEq, Prod.mk.injEq] at hj
        obtain ⟨rfl, rfl⟩ := hj
        intro u G' hle _
        simp only [List.take_zero, undT, detT, Ent.post]
        exact .inr ⟨(hp u).1, fun a w ha hs => by rw [(hp u).2 a w ha trivial]; exact ⟨G', Gx.le_refl _, hs, rfl⟩⟩
      | succ j =>
        simp only [List.getElem?_cons_succ] at hj
        simpa [undT, detT] using t2 j o' e hj
    · rcases List.mem_cons.1 hq with rfl | hq
      · intro φ he; cases he
      · exact t3 q hq
    · cases j with
      | zero =>
        simp only [List.getElem?_cons_zero, Option.some.injEq, Prod.mk.injEq] at hj
        obtain ⟨rfl, rfl⟩ := hj
        exact ⟨c, rfl, by simpa [undT, detT] using hp⟩
      | succ j =>
        simp only [List.getElem?_cons_succ] at hj
        simpa [undT, detT] using t5 j o' e hj (by simpa using hf)
  | false :: fs, o :: r, det, und, h => by
    simp only [Chain] at h
    rcases h with ⟨c, hp, hr⟩ | ⟨d, φ, hd, hm, hp, hr⟩
    · obtain ⟨T, t1, t2, t3, t5, t4⟩ := chain_tab fs r _ und hr
      refine ⟨(o, .inl c) :: T, by simp [t1], fun j o' e hj => ?_, fun q hq => ?_, fun j o' e hj hf => ?_, by simpa [undT, detT] using t4⟩
      · cases j with
        | zero =>
          simp only [List.getElem?_cons_zero, Option.some.injEq, Prod.mk.injEq] at hj
          obtain ⟨rfl, rfl⟩ := hj
          simpa [undT, detT, Ent.post] using hp
        | succ j =>
          simp only [List.getElem?_cons_succ] at hj
          simpa [undT, detT] using t2 j o' e hj
      · rcases List.mem_cons.1 hq with rfl | hq
        · intro φ he; cases he
        · exact t3 q hq
      · cases j with
        | zero => simp at hf
        | succ j =>
          simp only [List.getElem?_cons_succ] at hj
          simpa [undT, detT] using t5 j o' e hj (by simpa using hf)
    · obtain ⟨T, t1, t2, t3, t5, t4⟩ := chain_tab fs r det _ hr
      refine ⟨(o, .inr φ) :: T, by simp [t1], fun j o' e hj => ?_, fun q hq => ?_, fun j o' e hj hf => ?_, by simpa [undT, detT, hd] using t4⟩
      · cases j with
        | zero =>
          simp only [List.getElem?_cons_zero, Option.some.injEq, Prod.mk.injEq] at hj
          obtain ⟨rfl, rfl⟩ := hj
          simpa [undT, detT, Ent.post] using hp
        | succ j =>
          simp only [List.getElem?_cons_succ] at hj
          simpa [undT, detT, hd] using t2 j o' e hj
      · rcases List.mem_cons.1 hq with rfl | hq
        · intro φ' he
          cases he
          exact ⟨by simp [hd], hm⟩
        · exact t3 q hq
      · cases j with
        | zero => simp at hf
        | succ j =>
          simp only [List.getElem?_cons_succ] at hj
          simpa [undT, detT, hd] using t5 j o' e hj (by simpa using hf)
end

/-- Slots: written once, within the frame; who looks at a slot waits for its writer, or its writer for him. -/
def slotsB (N : Nat) (l : List Oper) (n : Nat) : Bool :=
  let A := ancs .any l []
  let ops := l.toArray
  let L := (l.take n).zipIdx
  L.all fun p => (match p.1.dst with
    | none => true
    | some t => Nat.blt t N && L.all fun q => Nat.beq p.2 q.2 || ((match q.1.dst with | none => true | some s => !Nat.beq t s) &&
        (!((q.1.looksAt ops).contains t) || bif Nat.blt p.2 q.2 then (A.getD q.2 []).contains p.2 else (A.getD p.2 []).contains q.2)))
/-- Operations that float: what the tail writes they neither look at nor write; who of the tail looks at what they write waits for them; they do not write what an earlier one of them looks at. -/
def floatB (l : List Oper) (fl : List Bool) : Bool :=
  let A := ancs .any l []
  let ops := l.toArray
  (List.range fl.length).all fun i => !fl.getD i false || ((l[i]?).map fun oi =>
    (List.range l.length).all fun k => ((l[k]?).map fun ok =>
      (Nat.blt k fl.length || (((A.getD k []).contains i || (match ok.dst with | none => true | some t => !(oi.looksAt ops).contains t && (match oi.dst with | none => true | some s => !Nat.beq t s))) &&
        (match oi.dst with | none => true | some t => !(ok.looksAt ops).contains t || (A.getD k []).contains i))) &&
      (!(Nat.ble k i && fl.getD k false) || (match oi.dst with | none => true | some t => !(ok.looksAt ops).contains t))).getD true).getD true
def drawB (N : Nat) (l : List Oper) (fl : List Bool) : Bool := edgesB .any l && tailB .any l fl && slotsB N l fl.length && Region.noSelect l.toArray && floatB l fl
theorem floatB_spec {l : List Oper} {fl : List Bool} (h : floatB l fl = true) {i k : Nat} {oi ok : Oper} (hi : i < fl.length) (hf : fl.getD i false = true) (hoi : l[i]? = some oi) (hok : l[k]? = some ok) :
    (fl.length ≤ k → (∀ t, i ∉ (ancs .any l []).getD k [] → ok.dst = some t → t ∉ oi.looksAt l.toArray ∧ oi.dst ≠ some t) ∧ (∀ t, oi.dst = some t → t ∈ ok.looksAt l.toArray → i ∈ (ancs .any l []).getD k [])) ∧
    (k ≤ i → fl.getD k false = true → ∀ t, oi.dst = some t → t ∉ ok.looksAt l.toArray) := by
  simp only [floatB, List.all_eq_true, List.mem_range, Bool.or_eq_true, Bool.not_eq_true'] at h
  have hkl : k < l.length := (List.getElem?_eq_some_iff.1 hok).1
  have h1 := (h i hi).resolve_left (by rw [hf]; simp)
  rw [hoi] at h1
  simp only [Option.map_some, Option.getD_some, List.all_eq_true, List.mem_range] at h1
  have h2 := h1 k hkl
  rw [hok] at h2
  simp only [Option.map_some, Option.getD_some, Bool.and_eq_true, Bool.or_eq_true, Nat.blt_eq] at h2
  obtain ⟨h3, h4⟩ := h2
  refine ⟨fun hk => ?_, fun hki hfk t ht => ?_⟩
  · have h5 := h3.resolve_left (by omega)
    refine ⟨fun t hna ht => ?_, fun t ht hl => ?_⟩
    · have h6 := h5.1
      rw [show ((ancs .any l []).getD k []).contains i = false by simpa using hna] at h6
      rw [ht] at h6
      simp only [Bool.false_eq_true, false_or, Bool.and_eq_true, Bool.not_eq_true'] at h6
      refine ⟨by simpa using h6.1, fun e => ?_⟩
      have h7 := h6.2
      rw [e] at h7
      simp at h7
    · have h6 := h5.2
      rw [ht] at h6
      simp only [Bool.or_eq_true, Bool.not_eq_true'] at h6
      rcases h6 with h6 | h6
      · simp at h6; exact absurd hl h6
      · simpa using h6
  · rcases h4 with h4 | h4
    · simp only [Bool.not_eq_true', Bool.and_eq_false_iff] at h4
      rcases h4 with h4 | h4
      · have : Nat.ble k i = true := by simpa using hki
        rw [this] at h4; cases h4
      · rw [hfk] at h4; cases h4
    · rw [ht] at h4
      simpa using h4

theorem drawB_slots {N : Nat} {l : List Oper} {n : Nat} (h : slotsB N l n = true) {i : Nat} {o : Oper} {t : Nat} (hi : i < n) (ho : l[i]? = some o) (hd : o.dst = some t) :
    t < N ∧ ∀ j o', j < n → l[j]? = some o' → i ≠ j → o'.dst ≠ some t ∧ (t ∈ o'.looksAt l.toArray → (i < j → i ∈ (ancs .any l []).getD j []) ∧ (j < i → j ∈ (ancs .any l []).getD i [])) := by
  simp only [slotsB, List.all_eq_true] at h
  have hm : ∀ j o', j < n → l[j]? = some o' → (o', j) ∈ (l.take n).zipIdx := fun j o' hj hl => by
    rw [List.mem_zipIdx_iff_getElem?]
    simp only [List.getElem?_take, if_pos hj]
    exact hl
  have h0 := h (o, i) (hm i o hi ho)
  simp only [hd, Bool.and_eq_true, List.all_eq_true, Nat.blt_eq] at h0
  refine ⟨h0.1, fun j o' hj hl hne => ?_⟩
  have h1 := h0.2 (o', j) (hm j o' hj hl)
  have hb : Nat.beq i j = false := by cases hb : Nat.beq i j; rfl; exact absurd (Nat.eq_of_beq_eq_true hb) hne
  simp only [hb, Bool.false_or, Bool.and_eq_true, Bool.or_eq_true] at h1
  refine ⟨fun e => ?_, fun hl' => ?_⟩
  · have h2 := h1.1
    simp only [e] at h2
    simp at h2
  · have h2 := h1.2
    have hc : (o'.looksAt l.toArray).contains t = true := by simpa using hl'
    rw [hc] at h2
    simp only [Bool.not_true, Bool.false_eq_true, false_or] at h2
    refine ⟨fun hij => ?_, fun hji => ?_⟩
    · rw [show Nat.blt i j = true by simpa using hij] at h2
      simpa using h2
    · rw [show Nat.blt i j = false by cases hb : Nat.blt i j; rfl; rw [Nat.blt_eq] at hb; omega] at h2
      simpa using h2

/-- A frame as F says, else as a. -/
def fill (F : Fr) (a : Act) : Act := { tmps := a.tmps.mapIdx fun t x => (F.get t).getD x, defers := a.defers }
theorem fill_at (F : Fr) (a : Act) (t : Nat) : (fill F a).tmps[t]? = (a.tmps[t]?).map fun x => (F.get t).getD x := by simp [fill]
theorem fill_rel {N : Nat} {F : Fr} {a : Act} (hd : a.defers = []) (hs : a.tmps.size = N) (hF : ∀ t v, F.get t = some v → t < N) : Rel N F (fill F a) where
  defers := hd
  size := by simp [fill, hs]
  here := fun t v h => by
    rw [fill_at]
    have := hF t v h
    rw [Array.getElem?_eq_getElem (by omega)]
    simp [h]
end Go.EL
