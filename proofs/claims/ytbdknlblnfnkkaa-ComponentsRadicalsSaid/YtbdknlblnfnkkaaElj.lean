/- How plain data lie in memory: representations, lists in slices. No condition. -/
import Derived.Test.YtbdknlblnfnkkaaEli
namespace Go.EL
open Go Go.RowKit Go.Proofs

/-- A representation of plain data by cells. -/
structure Rp (α : Type) where
  size : Nat
  rep : Mem → List Value → α → Prop
  len : ∀ {G cs x}, rep G cs x → cs.length = size
  mono : ∀ {G G' cs x}, Mem.le G G' → rep G cs x → rep G' cs x
  one : ∀ {G cs x}, rep G cs x → ∀ u ∈ cs, u.oneCell' = true

def Rp.int (k : IntKind) : Rp Int := ⟨1, fun _ cs x => cs = [.int k x], fun h => by rw [h]; rfl, fun _ h => h, fun h u hu => by rw [h] at hu; simp at hu; subst hu; rfl⟩
def Rp.bool : Rp Bool := ⟨1, fun _ cs x => cs = [.bool x], fun h => by rw [h]; rfl, fun _ h => h, fun h u hu => by rw [h] at hu; simp at hu; subst hu; rfl⟩
def Rp.str : Rp ByteArray := ⟨1, fun _ cs x => cs = [.string x], fun h => by rw [h]; rfl, fun _ h => h, fun h u hu => by rw [h] at hu; simp at hu; subst hu; rfl⟩
/-- The cells of an array of one-cell data. -/
def vecG {α : Type} (mk : α → Value) (n : Nat) (f : Fin n → α) : List Value := List.ofFn fun i => mk (f i)
abbrev vecL (k : IntKind) (n : Nat) (f : Fin n → Int) : List Value := vecG (Value.int k) n f
section
variable {α : Type} (mk : α → Value) (n : Nat) (f : Fin n → α)
theorem vecG_length : (vecG mk n f).length = n := by simp [vecG]
theorem vecG_get {i : Nat} (h : i < n) : (vecG mk n f)[i]? = some (mk (f ⟨i, h⟩)) := by simp [vecG, h]
theorem vecG_one (hm : ∀ x, (mk x).oneCell' = true) : ∀ u ∈ vecG mk n f, u.oneCell' = true := by
  intro u hu
  simp only [vecG, List.mem_ofFn] at hu
  obtain ⟨i, rfl⟩ := hu
  exact hm _
end
def setF {α : Type} {n : Nat} (f : Fin n → α) (i : Nat) (x : α) : Fin n → α := fun j => if j.val = i then x else f j
def getF {α : Type} [Inhabited α] {n : Nat} (f : Fin n → α) (i : Int) : α := if h : i.toNat < n then f ⟨i.toNat, h⟩ else default
theorem getF_eq {α : Type} [Inhabited α] {n : Nat} (f : Fin n → α) {i : Int} (h : i.toNat < n) : getF f i = f ⟨i.toNat, h⟩ := by simp [getF, h]
theorem vecG_set {α : Type} (mk : α → Value) (n : Nat) (f : Fin n → α) (i : Nat) (x : α) : (vecG mk n f).set i (mk x) = vecG mk n (setF f i x) := by
  apply List.ext_getElem
  · simp [vecG]
  · intro j h1 h2
    simp only [vecG, List.getElem_set, List.getElem_ofFn, setF]
    by_cases e : i = j
    · subst e; simp
    · rw [if_neg e, if_neg (fun e' => e e'.symm)]
theorem vecG_at {α : Type} [Inhabited α] (mk : α → Value) (n : Nat) (f : Fin n → α) {i : Int} (h : 0 ≤ i ∧ i < (n : Int)) : (vecG mk n f).toArray[i.toNat]? = some (mk (getF f i)) := by
  have hi : i.toNat < n := by omega
  rw [getF_eq f hi, List.getElem?_toArray, vecG_get mk n f hi]
theorem vecG_put {α : Type} (mk : α → Value) (n : Nat) (f : Fin n → α) (i : Nat) (x : α) : (vecG mk n f).toArray.setIfInBounds i (mk x) = (vecG mk n (setF f i x)).toArray := by
  rw [List.setIfInBounds_toArray, vecG_set]
def Rp.vecG {α : Type} (mk : α → Value) (hm : ∀ x, (mk x).oneCell' = true) (n : Nat) : Rp (Fin n → α) := ⟨n, fun _ cs f => cs = EL.vecG mk n f, fun h => by rw [h]; exact vecG_length _ _ _, fun _ h => h, fun h => by rw [h]; exact vecG_one _ _ _ hm⟩
abbrev Rp.vec (k : IntKind) (n : Nat) : Rp (Fin n → Int) := Rp.vecG (Value.int k) (fun _ => rfl) n
abbrev Rp.vecB (n : Nat) : Rp (Fin n → Bool) := Rp.vecG Value.bool (fun _ => rfl) n
/-- Two data, one behind the other. -/
def Rp.pair {α β : Type} (a : Rp α) (b : Rp β) : Rp (α × β) where
  size := a.size + b.size
  rep G cs x := ∃ c d, cs = c ++ d ∧ a.rep G c x.1 ∧ b.rep G d x.2
  len := by rintro G cs x ⟨c, d, rfl, h1, h2⟩; rw [List.length_append, a.len h1, b.len h2]
  mono := by rintro G G' cs x hle ⟨c, d, rfl, h1, h2⟩; exact ⟨c, d, rfl, a.mono hle h1, b.mono hle h2⟩
  one := by
    rintro G cs x ⟨c, d, rfl, h1, h2⟩ u hu
    rcases List.mem_append.1 hu with hu | hu
    · exact a.one h1 u hu
    · exact b.one h2 u hu
/-- The same cells, read as other data. -/
def Rp.via {α β : Type} (a : Rp α) (f : β → α) : Rp β := ⟨a.size, fun G cs x => a.rep G cs (f x), a.len, a.mono, a.one⟩

/-- A list, element by element. -/
def RepL {α : Type} (r : Rp α) (G : Mem) : List Value → List α → Prop
  | cs, [] => cs = []
  | cs, x :: l => ∃ c d, cs = c ++ d ∧ r.rep G c x ∧ RepL r G d l
namespace RepL
variable {α : Type} {r : Rp α} {G G' : Mem}
theorem len : ∀ {l : List α} {cs : List Value}, RepL r G cs l → cs.length = l.length * r.size
  | [], cs, h => by simp only [RepL] at h; simp [h]
  | x :: l, cs, ⟨c, d, e, h1, h2⟩ => by
    have := len h2
    subst e
    simp only [List.length_append, r.len h1, this, List.length_cons, Nat.add_mul]
    omega
theorem mono (hle : Mem.le G G') : ∀ {l : List α} {cs : List Value}, RepL r G cs l → RepL r G' cs l
  | [], _, h => h
  | _ :: _, _, ⟨c, d, e, h1, h2⟩ => ⟨c, d, e, r.mono hle h1, mono hle h2⟩
theorem one : ∀ {l : List α} {cs : List Value}, RepL r G cs l → ∀ u ∈ cs, u.oneCell' = true
  | [], cs, h => by simp only [RepL] at h; simp [h]
  | _ :: _, _, ⟨c, d, e, h1, h2⟩ => by
    subst e
    intro u hu
    rcases List.mem_append.1 hu with hu | hu
    · exact r.one h1 u hu
    · exact one h2 u hu
theorem single {x : α} {c : List Value} (h : r.rep G c x) : RepL r G c [x] := ⟨c, [], by simp, h, rfl⟩
theorem append : ∀ {l m : List α} {cs ds : List Value}, RepL r G cs l → RepL r G ds m → RepL r G (cs ++ ds) (l ++ m)
  | [], m, cs, ds, h, k => by simp only [RepL] at h; subst h; exact k
  | _ :: _, m, _, ds, ⟨c, d, e, h1, h2⟩, k => by subst e; exact ⟨c, d ++ ds, by simp, h1, append h2 k⟩
theorem get : ∀ {l : List α} {cs : List Value}, RepL r G cs l → ∀ {i : Nat} {x : α}, l[i]? = some x → ∃ c, r.rep G c x ∧ ∀ j u, c[j]? = some u → cs[i * r.size + j]? = some u
  | [], _, _, i, x, hx => by simp at hx
  | y :: l, _, ⟨c, d, e, h1, h2⟩, 0, x, hx => by
    simp only [List.getElem?_cons_zero, Option.some.injEq] at hx
    subst hx e
    refine ⟨c, h1, fun j u hu => ?_⟩
    rw [Nat.zero_mul, Nat.zero_add, List.getElem?_append_left (List.getElem?_eq_some_iff.1 hu).1]
    exact hu
  | y :: l, _, ⟨c, d, e, h1, h2⟩, i + 1, x, hx => by
    simp only [List.getElem?_cons_succ] at hx
    subst e
    obtain ⟨c', h3, h4⟩ := get h2 hx
    refine ⟨c', h3, fun j u hu => ?_⟩
    rw [List.getElem?_append_right (by rw [r.len h1, Nat.add_mul]; omega)]
    rw [show (i + 1) * r.size + j - c.length = i * r.size + j by rw [r.len h1, Nat.add_mul]; omega]
    exact h4 j u hu
theorem split : ∀ {l m : List α} {cs : List Value}, RepL r G cs (l ++ m) → ∃ c d, cs = c ++ d ∧ RepL r G c l ∧ RepL r G d m
  | [], m, cs, h => ⟨[], cs, rfl, rfl, h⟩
  | x :: l, m, _, ⟨c, d, e, h1, h2⟩ => by
    obtain ⟨c', d', e', h3, h4⟩ := split h2
    exact ⟨c ++ c', d', by rw [e, e', List.append_assoc], ⟨c, c', rfl, h1, h3⟩, h4⟩
end RepL

/-- Where a slice's first element lies. -/
def pb : Option Addr → Nat
  | some a => a.block
  | none => 0
def po : Option Addr → Nat
  | some a => a.off
  | none => 0
/-- A slice that reads as a list. -/
def SlR {α : Type} (r : Rp α) (G : Mem) (v : Value) (l : List α) : Prop :=
  ∃ p cap cs, v = .slice p l.length cap ∧ (l.length ≤ cap ∧ cap ≤ 9223372036854775807) ∧ (∀ a, p = some a → a.spot = none) ∧ (0 < l.length → p.isSome = true) ∧ RepL r G cs l ∧ ∀ j u, cs[j]? = some u → G (pb p) (po p + j) = some u
theorem SlR.mono {α : Type} {r : Rp α} {G G' : Mem} {v : Value} {l : List α} (h : SlR r G v l) (hle : Mem.le G G') : SlR r G' v l := by
  obtain ⟨p, cap, cs, h1, h5, h2, h3, h4, h6⟩ := h
  exact ⟨p, cap, cs, h1, h5, h2, h3, h4.mono hle, fun j u hu => hle _ _ _ (h6 j u hu)⟩
theorem SlR.nil {α : Type} (r : Rp α) (G : Mem) : SlR r G (.slice none 0 0) [] := ⟨none, 0, [], rfl, by simp, fun _ h => (by cases h), fun h => (by simp at h), rfl, fun j u h => (by simp at h)⟩
theorem SlR.one {α : Type} {r : Rp α} {G : Mem} {v : Value} {l : List α} (h : SlR r G v l) : v.oneCell' = true := by
  obtain ⟨p, cap, cs, h1, _⟩ := h
  rw [h1]; rfl
def Rp.sl {α : Type} (r : Rp α) : Rp (List α) := ⟨1, fun G cs l => ∃ v, cs = [v] ∧ SlR r G v l, fun ⟨v, h, _⟩ => by rw [h]; rfl, fun hle ⟨v, h, k⟩ => ⟨v, h, k.mono hle⟩, fun ⟨v, h, k⟩ u hu => by rw [h] at hu; simp at hu; subst hu; exact k.one⟩

section
variable {P : Program} {N : Nat} {Q : Post} {fr : Fr} {S : Asrt} {ops : Array Oper} {l : List Oper} {dst : Option Nat} {ty : TypeId} {pos : String} {af : Array Edge} {g : Option (Nat × Bool)}
variable {w0 : Bs} {G0 G : Mem} {L : Lo} {α : Type} {r : Rp α}

theorem Y0.lenR {x : Operand} {t e : TypeId} {v : Value} {xs : List α} (ht : P.underlying t = some (.slice e)) (h : SlR r G v xs) (hx : fr.ev x = some v) : Y0 P N ⟨dst, .call ⟨.builtin .len, #[x], #[t]⟩, ty, pos, af, g⟩ fr S (.int .i64 (xs.length : Int)) := by
  obtain ⟨p, cap, cs, h1, _⟩ := h
  subst h1
  exact Y0.lenSl ht hx
/-- A datum lies at a place: K says what the cells hold. -/
def AtK (r : Rp α) (G : Mem) (K : Nat → Value → Prop) (o : Nat) (x : α) : Prop := ∃ c, r.rep G c x ∧ ∀ j u, c[j]? = some u → K (o + j) u
abbrev At (r : Rp α) (G : Mem) (b o : Nat) (x : α) : Prop := AtK r G (fun k u => G b k = some u) o x
theorem At.mono {G' : Mem} {b o : Nat} {x : α} (h : At r G b o x) (hle : Mem.le G G') : At r G' b o x := by
  obtain ⟨c, h1, h2⟩ := h
  exact ⟨c, r.mono hle h1, fun j u hu => hle _ _ _ (h2 j u hu)⟩
theorem AtK.mono {G' : Mem} {K : Nat → Value → Prop} {o : Nat} {x : α} (h : AtK r G K o x) (hle : Mem.le G G') : AtK r G' K o x := by
  obtain ⟨c, h1, h2⟩ := h
  exact ⟨c, r.mono hle h1, h2⟩
theorem SlR.at {p : Option Addr} {n cap : Nat} {xs : List α} (h : SlR r G (.slice p n cap) xs) {i : Int} {x : α} (hi : 0 ≤ i ∧ xs[i.toNat]? = some x) : At r G (pb p) (po p + i.toNat * r.size) x := by
  obtain ⟨p', cap', cs, h1, _, _, h3, h4, h5⟩ := h
  cases h1
  obtain ⟨c, hc1, hc2⟩ := h4.get hi.2
  exact ⟨c, hc1, fun j u hu => by rw [Nat.add_assoc]; exact h5 _ _ (hc2 j u hu)⟩
theorem Y0.idxR {t e : TypeId} {x y : Operand} {n cap sz : Nat} {p : Option Addr} {k : IntKind} {i : Int} {xs : List α} {z : α} (ht : P.underlying t = some (.slice e)) (hsz : (P.info? e).map (·.size) = some sz) (h : SlR r G (.slice p n cap) xs)
    (hx : fr.ev x = some (.slice p n cap)) (hy : fr.ev y = some (.int k i)) (hi : 0 ≤ i ∧ xs[i.toNat]? = some z) : Y0 P N ⟨dst, .indexAddr t x y, ty, pos, af, g⟩ fr S (.pointer (some ⟨pb p, po p + i.toNat * sz, none⟩)) := by
  obtain ⟨p', cap', cs, h1, _, h2, h3, h4, h5⟩ := h
  cases h1
  have hlt := (List.getElem?_eq_some_iff.1 hi.2).1
  have hp := h3 (by omega)
  cases p with
  | none => cases hp
  | some a =>
    obtain ⟨ab, ao, ap⟩ := a
    have := h2 _ rfl
    dsimp only at this
    subst this
    exact Y0.idxSl ht hsz hx hy (by omega)
variable {K : Nat → Value → Prop}
theorem AtK.fst {β : Type} {q : Rp β} {o : Nat} {x : α × β} (h : AtK (Rp.pair r q) G K o x) : AtK r G K o x.1 := by
  obtain ⟨c, ⟨c1, c2, rfl, h1, h2⟩, h3⟩ := h
  exact ⟨c1, h1, fun j u hu => h3 j u (by rw [List.getElem?_append_left (List.getElem?_eq_some_iff.1 hu).1]; exact hu)⟩
theorem AtK.snd {β : Type} {q : Rp β} {o : Nat} {x : α × β} (h : AtK (Rp.pair r q) G K o x) : AtK q G K (o + r.size) x.2 := by
  obtain ⟨c, ⟨c1, c2, rfl, h1, h2⟩, h3⟩ := h
  refine ⟨c2, h2, fun j u hu => ?_⟩
  have := h3 (r.size + j) u (by rw [List.getElem?_append_right (by rw [r.len h1]; omega), r.len h1, Nat.add_sub_cancel_left]; exact hu)
  rwa [← Nat.add_assoc] at this
theorem AtK.via {β : Type} {f : β → α} {o : Nat} {x : β} (h : AtK (Rp.via r f) G K o x) : AtK r G K o (f x) := h
theorem AtK.int {k : IntKind} {o : Nat} {x : Int} (h : AtK (Rp.int k) G K o x) : K o (.int k x) := by
  obtain ⟨c, h1, h2⟩ := h
  have h1 : c = [.int k x] := h1
  subst h1
  exact h2 0 _ rfl
theorem AtK.bool {o : Nat} {x : Bool} (h : AtK Rp.bool G K o x) : K o (.bool x) := by
  obtain ⟨c, h1, h2⟩ := h
  have h1 : c = [.bool x] := h1
  subst h1
  exact h2 0 _ rfl
theorem AtK.str {o : Nat} {x : ByteArray} (h : AtK Rp.str G K o x) : K o (.string x) := by
  obtain ⟨c, h1, h2⟩ := h
  have h1 : c = [.string x] := h1
  subst h1
  exact h2 0 _ rfl
theorem AtK.sl {o : Nat} {x : List α} (h : AtK (Rp.sl r) G K o x) : ∃ p cap, K o (.slice p x.length cap) ∧ SlR r G (.slice p x.length cap) x := by
  obtain ⟨c, ⟨v, h1, h3⟩, h2⟩ := h
  subst h1
  have h4 := h2 0 _ rfl
  obtain ⟨p, cap, cs, h5, h6⟩ := h3
  subst h5
  exact ⟨p, cap, h4, p, cap, cs, rfl, h6⟩
theorem AtK.vec {α : Type} {mk : α → Value} {hm : ∀ x, (mk x).oneCell' = true} {n o : Nat} {x : Fin n → α} (h : AtK (Rp.vecG mk hm n) G K o x) : ∀ j u, (EL.vecG mk n x).toArray[j]? = some u → K (o + j) u := by
  obtain ⟨c, h1, h2⟩ := h
  have h1 : c = EL.vecG mk n x := h1
  subst h1
  intro j u hu
  exact h2 j u (by simpa using hu)
/-- One element of an array of one-cell data. -/
theorem AtK.vecAt {α : Type} [Inhabited α] {mk : α → Value} {hm : ∀ x, (mk x).oneCell' = true} {n o : Nat} {x : Fin n → α} (h : AtK (Rp.vecG mk hm n) G K o x) {i : Int} (hi : 0 ≤ i ∧ i < (n : Int)) : K (o + i.toNat) (mk (getF x i)) :=
  h.vec _ _ (vecG_at mk n x hi)
end
end Go.EL
