/- Calls to which blocks are lent. No condition. -/
import Derived.Test.YtbdknlblnfnkkaaElm
namespace Go.EL
open Go Go.RowKit Go.Proofs

theorem Hp.empty (w : World) : Hp (fun _ _ => none) [] w := ⟨(by intro _ _ _ h; cases h), (by intro _ _ h; simp [Lo.get] at h), (by intro _ _ _ _ _ h; simp [Lo.get] at h)⟩
section
variable {P : Program} {N : Nat} {Q : Post} {fr : Fr} {S : Asrt} {ops : Array Oper} {l : List Oper} {dst : Option Nat} {ty : TypeId} {pos : String} {af : Array Edge} {g : Option (Nat × Bool)}
variable {w0 : Bs} {G0 G : Mem} {L : Lo} {α : Type} {r : Rp α} {e : TypeId}

theorem Lo.mem_of_get : ∀ {L1 : Lo} {i : Nat} {x : Ow}, L1.get i = some x → i ∈ L1.map (·.1)
  | [], i, x, h => by simp [Lo.get] at h
  | p :: L1, i, x, h => by
    obtain ⟨k, q⟩ := p
    rw [Lo.get_cons] at h
    split at h
    · rename_i e; simp [e]
    · have := Lo.mem_of_get h; simp only [List.map_cons, List.mem_cons]; exact .inr this
/-- All marks of the list are at the start. -/
def Lo.zero (L : Lo) : Prop := ∀ p ∈ L, ∀ x, p.2 = some x → x.m = 0
theorem Lo.zero_get : ∀ {L : Lo} {i : Nat} {x : Ow}, L.zero → L.get i = some x → x.m = 0
  | [], i, x, _, h => by simp [Lo.get] at h
  | p :: L, i, x, hz, h => by
    obtain ⟨k, q⟩ := p
    rw [Lo.get_cons] at h
    split at h
    · exact hz (k, q) (by simp) x h
    · exact Lo.zero_get (L := L) (fun p hp => hz p (by simp [hp])) h
/-- The lent blocks come back as they were. -/
theorem YC.yrRO {o : Oper} {f : FuncId} {args args' : Array Value} {L1 : Lo} {pre : Mem → Prop} {post : Mem → Value → Prop} (h : YC P N o fr (St w0 G0 G L) f args') (sp : CtrL P f args L1 pre (fun G L' v => L' = L1 ∧ post G v)) (e : args' = args) (hp : pre G)
    (h1 : Lo.sub L1 L) (hsame : ∀ i, i ∈ L1.map (·.1) → L1.get i = L.get i) (hz : w0.L.zero) :
    YR P N o fr (St w0 G0 G L) (fun v w' => ∃ G', Mem.le G G' ∧ St w0 G0 G' L w' ∧ post G' v) := fun a w ha hs => by
  rw [h a w ha hs]
  subst e
  refine (sp w G (hs.hp h1) hp).mono fun e' w' ⟨r, G', L', q1, q2, q3, q4⟩ => ⟨r, q1, G', q2.le, ?_, q4⟩
  subst q3
  refine hs.ext (R := L.without (L'.map (·.1))) q2 h1 (fun i x hx => (Lo.get_without hx).1) (fun i x hx => ?_) (fun i x y hi _ z hz' => ?_) (fun i x hx => ?_)
  · cases hg : L'.get i with
    | none => rfl
    | some y => exact absurd (Lo.mem_of_get hg) (Lo.get_without hx).2
  · rw [Lo.zero_get hz hz']; exact Nat.zero_le _
  · by_cases hi : i ∈ L'.map (·.1)
    · left; rw [hsame i hi]; exact hx
    · right
      have : ∀ (ks : List Nat), i ∉ ks → (L.without ks).get i = L.get i := by
        intro ks
        induction ks with
        | nil => intro _; rfl
        | cons k ks ih =>
          intro hk
          simp only [List.mem_cons, not_or] at hk
          simp only [Lo.without, List.map_cons, List.cons_append]
          rw [Lo.get_cons, if_neg (fun e => hk.1 e.symm)]
          exact ih hk.2
      rw [this _ hi]; exact hx
theorem WL.callRO {op : Op} {f : FuncId} {args args' : Array Value} {L1 : Lo} {pre : Mem → Prop} {post : Mem → Value → Prop} (hg : guardOK ops fr ⟨dst, op, ty, pos, af, g⟩ true) (hd : dstOK N dst) (h : YC P N ⟨dst, op, ty, pos, af, g⟩ fr (St w0 G0 G L) f args')
    (sp : CtrL P f args L1 pre (fun G L' v => L' = L1 ∧ post G v)) (e : args' = args) (hp : pre G) (h1 : Lo.sub L1 L) (hsame : ∀ i, i ∈ L1.map (·.1) → L1.get i = L.get i) (hz : w0.L.zero)
    (k : ∀ v G', Mem.le G G' → post G' v → WL P N ops Q l (putFr dst v fr) (St w0 G0 G' L)) : WL P N ops Q (⟨dst, op, ty, pos, af, g⟩ :: l) fr (St w0 G0 G L) :=
  WL.yr hg (h.yrRO sp e hp h1 hsame hz) hd (fun v a w ha ⟨G', q1, q2, q3⟩ => k v G' q1 q3 a w ha q2)
/-- .. and the call reads a row that nobody else knows. -/
theorem WL.peekRO {op : Op} {f : FuncId} {args args' : Array Value} {L1 : Lo} {pre : Mem → Prop} {v c : Value} {xs : List α} {tk : Option Ow} (key : Nat) (hrow : RowR r e G v xs tk) (hid : L.get key = tk) (h0 : w0.L.get key = none) (hg : guardOK ops fr ⟨dst, op, ty, pos, af, g⟩ true) (hd : dstOK N dst)
    (h : ∀ S, YC P N ⟨dst, op, ty, pos, af, g⟩ fr S f args') (sp : CtrL P f args L1 pre (fun _ L' v => L' = L1 ∧ v = c)) (e' : args' = args) (hp : ∀ G', Mem.le G G' → SlR r G' v xs → pre G')
    (h1 : Lo.sub L1 L) (hsame : ∀ i, i ∈ L1.map (·.1) → L1.get i = L.get i ∧ key ≠ i) (hz : w0.L.zero)
    (k : WL P N ops Q l (putFr dst c fr) (St w0 G0 G L)) : WL P N ops Q (⟨dst, op, ty, pos, af, g⟩ :: l) fr (St w0 G0 G L) := by
  refine WL.peek key L hrow hid h0 hg hd (fun tk' G' hle hsl a w ha hs => ?_) (WL.conseq (fun w hs => hs.weaken (fun i x hx => ?_)) k)
  · exact (YC.yrRO (h _) sp e' (hp G' hle hsl) (fun i x hx => by
      have hi := Lo.mem_of_get hx
      rw [Lo.get_cons, if_neg (hsame i hi).2]
      exact h1 i x hx) (fun i hi => by rw [Lo.get_cons, if_neg (hsame i hi).2]; exact (hsame i hi).1) hz a w ha hs).mono fun u w' ⟨G'', q1, q2, q3⟩ => ⟨q3, G'', q1, q2⟩
  · rw [Lo.get_cons]
    split
    · rename_i e2; subst e2; rw [← hid]; exact hx
    · exact hx
/-- A call that turns what it is lent; the marks of what was lent to us lie at the start. -/
theorem WL.callT {op : Op} {f : FuncId} {args args' : Array Value} {L1 : Lo} {pre : Mem → Prop} {post : Mem → Lo → Value → Prop} (hg : guardOK ops fr ⟨dst, op, ty, pos, af, g⟩ true) (hd : dstOK N dst) (h : YC P N ⟨dst, op, ty, pos, af, g⟩ fr (St w0 G0 G L) f args')
    (sp : CtrL P f args L1 pre post) (e : args' = args) (hp : pre G) (h1 : Lo.sub L1 L) (hz : w0.L.zero)
    (k : ∀ v G' L', Mem.le G G' → post G' L' v → WL P N ops Q l (putFr dst v fr) (St w0 G0 G' (L' ++ L.without (L1.map (·.1))))) : WL P N ops Q (⟨dst, op, ty, pos, af, g⟩ :: l) fr (St w0 G0 G L) := by
  refine WL.yr (Φ := fun v w' => ∃ G' L', Mem.le G G' ∧ St w0 G0 G' (L' ++ L.without (L1.map (·.1))) w' ∧ post G' L' v) hg (fun a w ha hs => ?_) hd (fun v a w ha ⟨G', L', q1, q2, q3⟩ => k v G' L' q1 q3 a w ha q2)
  rw [h a w ha hs]
  subst e
  refine (sp w G (hs.hp h1) hp).mono fun e' w' ⟨r, G', L', q1, q2, q3⟩ => ⟨r, q1, G', L', q2.le, hs.ext (R := L.without (L1.map (·.1))) q2 h1 (fun i x hx => (Lo.get_without hx).1) (fun i x hx => ?_) (fun i x y hi _ z hz' => ?_) (fun i x hx => Lo.get_append _ _ i x hx), q3⟩
  · cases hg : L1.get i with
    | none => rfl
    | some y => exact absurd (Lo.mem_of_get hg) (Lo.get_without hx).2
  · rw [Lo.zero_get hz hz']; exact Nat.zero_le _
theorem RowR.zero {v : Value} {xs : List α} {tk : Option Ow} {x : Ow} (h : RowR r e G v xs tk) (hx : tk = some x) : x.m = 0 := by
  subst hx
  obtain ⟨_, _, _, _, _, h, _⟩ := h
  exact h
theorem Ctr.ro {f : FuncId} {args : Array Value} {pre : Mem → Prop} {post : Mem → Value → Prop} (h : Ctr P f args pre post) : CtrL P f args [] pre (fun G L' v => L' = [] ∧ post G v) := fun w G hi hp =>
  (h w G hi hp).mono fun e' w' ⟨r, G', L', q1, q2, q3⟩ => ⟨r, G', [], q1, q2.nil, rfl, q3⟩
theorem SlR.row0 {p : Option Addr} (h : SlR r G (.slice p 0 0) ([] : List α)) : RowR r e G (.slice p 0 0) [] none := by
  obtain ⟨p', cap, cs, h1, _, h2, _⟩ := h
  cases h1
  exact ⟨rfl, p, rfl, h2⟩
theorem SlR.eqv {p : Option Addr} {n cap : Nat} {xs : List α} (h : SlR r G (.slice p n cap) xs) : Value.slice p n cap = .slice p xs.length cap := by
  obtain ⟨p', cap', cs, h1, _⟩ := h
  cases h1; rfl
theorem SlR.std {p : Option Addr} {n cap : Nat} {xs : List α} (h : SlR r G (.slice p n cap) xs) : SlR r G (.slice p xs.length cap) xs := by rw [← h.eqv]; exact h
theorem RowR.eqv {p : Option Addr} {n cap : Nat} {xs : List α} {tk : Option Ow} (h : RowR r e G (.slice p n cap) xs tk) : Value.slice p n cap = .slice p xs.length cap := by
  obtain ⟨p', cap', h1⟩ := h.form
  cases h1; rfl
theorem RowR.std {p : Option Addr} {n cap : Nat} {xs : List α} {tk : Option Ow} (h : RowR r e G (.slice p n cap) xs tk) : RowR r e G (.slice p xs.length cap) xs tk := by rw [← h.eqv]; exact h
/-- A slice literal that stays the call's own. -/
theorem WL.litT {t : TypeId} {len : Nat} {parts : Array (Nat × Operand)} {vs : Array (Nat × Value)} {cs : List Value} (xs : List α) (key : Nat) (hg : guardOK ops fr ⟨dst, .buildSlice t len parts, ty, pos, af, g⟩ true) (hd : dstOK N dst)
    (hps : fr.evs (parts.toList.map (·.2)) = some (vs.toList.map (·.2))) (hix : parts.toList.map (·.1) = vs.toList.map (·.1)) (hlen : xs.length = len) (hsm : len ≤ small)
    (h : ∀ w, (Instr.buildSlice t len vs).run P w = .ok (.slice (some ⟨w.heap.size, 0, none⟩) len len) (w.alloc (.cells cs.toArray e))) (hrep : RepL r G cs xs)
    (k : ∀ p tk, RowR r e G (.slice p len len) xs tk → WL P N ops Q l (putFr dst (.slice p len len) fr) (St w0 G0 G ((key, tk) :: L))) : WL P N ops Q (⟨dst, .buildSlice t len parts, ty, pos, af, g⟩ :: l) fr (St w0 G0 G L) := by
  refine WL.yr (Φ := fun v w => ∃ p tk, v = .slice p len len ∧ RowR r e G (.slice p len len) xs tk ∧ St w0 G0 G ((key, tk) :: L) w) hg (fun a w ha hs => ?_) hd (fun v a w ha ⟨p, tk, h1, h2, h3⟩ => by subst h1; exact k p tk h2 a w ha h3)
  have h1 := ha.evs _ _ hps
  have h2 : (parts.map fun p => (p.1, a.eval p.2)) = vs := by
    apply Array.ext'
    simp only [Array.toList_map]
    have hl : parts.toList.length = vs.toList.length := by have := congrArg List.length hix; simpa using this
    generalize parts.toList = ps at *
    generalize vs.toList = us at *
    clear h hps
    induction ps generalizing us with
    | nil => cases us <;> simp_all
    | cons p ps ih =>
      cases us with
      | nil => simp at hl
      | cons q us =>
        simp only [List.map_cons, List.cons.injEq] at hix h1 ⊢
        exact ⟨Prod.ext hix.1 h1.1, ih us hix.2 h1.2 (by simpa using hl)⟩
  have h3 : (parts.map fun (i, x) => (i, a.eval x)) = vs := h2
  have : (execOp a.eval ⟨dst, .buildSlice t len parts, ty, pos, af, g⟩).run P w = .ok (.value (.slice (some ⟨w.heap.size, 0, none⟩) len len)) (w.alloc (.cells cs.toArray e)) := by
    simp only [execOp, h3]
    simp [h w]
  rw [this]
  have hcs := hrep.len
  refine ⟨_, some ⟨w.heap.size, .cells cs.toArray e (0, 0), 0⟩, rfl, ⟨len, cs, [], by rw [hlen], by simp, rfl, hrep, by simp [hcs, hlen], by simp only [small, maxLen] at *; omega, by omega⟩, hs.push key (.cells cs.toArray e)⟩
/-- In a region that draws: a call that lays memory. -/
theorem Chain.callU {fs : List Bool} {l : List Oper} {det : Fr} {und : Und} {d : Nat} {op : Op} {f : FuncId} {args args' : Array Value} {pre : Mem → Prop} {post : Mem → Value → Prop} (hg : ∀ u, guardOK ops (undFr und u ++ (det ++ fr)) ⟨some d, op, ty, pos, af, g⟩ true) (h : ∀ u S, YC P N ⟨some d, op, ty, pos, af, g⟩ (undFr und u ++ (det ++ fr)) S f args') (sp : Ctr P f args pre post) (e : args' = args)
    (hp : ∀ G', Mem.le G G' → pre G') (hm : ∀ v G₁ G₂, Mem.le G₁ G₂ → post G₁ v → post G₂ v) (k : Chain P N Q fr w0 G0 G L ops fs l det ((d, fun v g => post g.m v) :: und)) : Chain P N Q fr w0 G0 G L ops (false :: fs) (⟨some d, op, ty, pos, af, g⟩ :: l) det und :=
  Chain.cund d _ rfl (fun v _ _ h => hm v _ _ h.1) (fun u G' hle _ => OpOK.call (hg u) (h u _) sp e (hp G'.m hle.1)) k
theorem Chain.y0U {fs : List Bool} {l : List Oper} {det : Fr} {und : Und} {o : Oper} {c : Value} (hg : ∀ u, guardOK ops (undFr und u ++ (det ++ fr)) o true) (h : ∀ u G', Mem.le G G' → Y0 P N o (undFr und u ++ (det ++ fr)) (St w0 G0 G' L) c) (k : Chain P N Q fr w0 G0 G L ops fs l (putFr o.dst c det) und) :
    Chain P N Q fr w0 G0 G L ops (false :: fs) (o :: l) det und := .inl ⟨c, fun u G' hle _ => OpOK.y0 (hg u) (h u G'.m hle.1), k⟩
theorem Chain.floatU {fs : List Bool} {l : List Oper} {det : Fr} {und : Und} {o : Oper} {c : Value} (hg : ∀ u, guardOK ops (undFr und u ++ (det ++ fr)) o true) (h : ∀ u, Y0 P N o (undFr und u ++ (det ++ fr)) (fun _ => True) c) (k : Chain P N Q fr w0 G0 G L ops fs l (putFr o.dst c det) und) :
    Chain P N Q fr w0 G0 G L ops (true :: fs) (o :: l) det und := ⟨c, fun u => ⟨hg u, h u⟩, k⟩
theorem Chain.skipU {fs : List Bool} {l : List Oper} {det : Fr} {und : Und} {o : Oper} (hg : ∀ u, guardOK ops (undFr und u ++ (det ++ fr)) o false) (k : Chain P N Q fr w0 G0 G L ops fs l (putFr o.dst undef det) und) : Chain P N Q fr w0 G0 G L ops (false :: fs) (o :: l) det und := .inl ⟨undef, fun u _ _ _ => OpOK.skip (hg u), k⟩
/-- .. a call whose arguments are such values; what it yields is determined. -/
theorem Chain.callD {fs : List Bool} {l : List Oper} {det : Fr} {und : Und} {o : Oper} {f : FuncId} {c : Value} (hg : ∀ u, guardOK ops (undFr und u ++ (det ++ fr)) o true)
    (h : ∀ u (G' : Gx), Mem.le G G'.m → undLook ops o und u G' → ∃ args args' pre, (∀ S, YC P N o (undFr und u ++ (det ++ fr)) S f args') ∧ Ctr P f args pre (fun _ r => r = c) ∧ args' = args ∧ pre G'.m) (k : Chain P N Q fr w0 G0 G L ops fs l (putFr o.dst c det) und) :
    Chain P N Q fr w0 G0 G L ops (false :: fs) (o :: l) det und := .inl ⟨c, fun u G' hle hu => by
      obtain ⟨args, args', pre, h1, h2, h3, h4⟩ := h u G' hle.1 hu
      exact OpOK.call0 (hg u) (h1 _) h2 h3 h4, k⟩
theorem Chain.tailU1 {l : List Oper} {det : Fr} {d : Nat} {post : Mem → Value → Prop} (k : ∀ v G', Mem.le G G' → post G' v → WL P N ops (NX Q) l ((d, v) :: (det ++ fr)) (St w0 G0 G' L)) : Chain P N Q fr w0 G0 G L ops [] l det [(d, fun v g => post g.m v)] := fun u g hle hu a w ha hs =>
  k (u d) g.m hle.1 hu.1 a w ha hs.st
theorem Chain.tailU2 {l : List Oper} {det : Fr} {d d' : Nat} {post post' : Mem → Value → Prop} (k : ∀ v v' G', Mem.le G G' → post G' v → post' G' v' → WL P N ops (NX Q) l ((d, v) :: (d', v') :: (det ++ fr)) (St w0 G0 G' L)) : Chain P N Q fr w0 G0 G L ops [] l det [(d, fun v g => post g.m v), (d', fun v g => post' g.m v)] := fun u g hle hu a w ha hs =>
  k (u d) (u d') g.m hle.1 hu.1 hu.2.1 a w ha hs.st
theorem Chain.tailU3 {l : List Oper} {det : Fr} {d d' d'' : Nat} {post post' post'' : Mem → Value → Prop} (k : ∀ v v' v'' G', Mem.le G G' → post G' v → post' G' v' → post'' G' v'' → WL P N ops (NX Q) l ((d, v) :: (d', v') :: (d'', v'') :: (det ++ fr)) (St w0 G0 G' L)) : Chain P N Q fr w0 G0 G L ops [] l det [(d, fun v g => post g.m v), (d', fun v g => post' g.m v), (d'', fun v g => post'' g.m v)] := fun u g hle hu a w ha hs =>
  k (u d) (u d') (u d'') g.m hle.1 hu.1 hu.2.1 hu.2.2.1 a w ha hs.st
end
end Go.EL
