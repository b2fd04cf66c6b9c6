/- Iterators over a map's keys: the pieces. The conditions stand in each statement. -/
import Derived.Test.YtbdknlblnfnkkaaEC
import Derived.RangeFuncGives
import Derived.RangeFuncIn
import Derived.RangeFuncLeaves
import Derived.Maps.RangeRun
import Derived.TacticsIn
import Derived.OwnWalkIn
import Derived.DeepKeys4
import Derived.Laws.BytesString
import Derived.Laws.MakeOwn
namespace Go.EL
open Go Go.RowKit Go.Proofs Go.MapKept

/-! ### Within a round -/
theorem oper_in {P : Program} {o : Oper} {a : Act} {w : World} {K K' : Act → World → Prop} {Q : Post} {n l : Nat} (hd : ∀ c, o.op ≠ .defer c) (hK : ∀ a w, K a w → K' a w) (h : o.wp P a w K Q) : o.wpIn (Fence.wide.inRound l) n P a w K' Q := by
  refine ⟨fun _ _ => trivial, ?_⟩
  rw [Oper.semAt_plain _ _ _ hd]
  unfold Oper.wp at h
  generalize (execOp a.eval o).run P w = res at h ⊢
  cases res with
  | ok nx w' =>
    cases nx <;> simp only [Oper.upon] at h <;> simp only [Oper.uponIn]
    case value v => exact hK _ _ h
    case skip => exact hK _ _ h
    case defer d => exact hK _ _ h
    case enter f args => exact ⟨fun h => by simp [Fence.inRound, Fence.wide] at h, (callsIn_wide (n := n - 1)).2 (h.mono fun e w'' he => by cases e <;> first | exact hK _ _ he | exact he)⟩
    case row row args => exact ⟨fun h => by simp [Fence.inRound, Fence.wide] at h, fun c cs _ => let ⟨v, w', r, s⟩ := h c cs; ⟨v, w', hK _ _ r, stepsIn_wide.2 s⟩⟩
  | halt x w' => cases x <;> first | exact h.elim | exact h
theorem wpListIn_of {P : Program} {ops : Array Oper} {Q : Post} {n r : Nat} (hQ : ¬ LetsOut Q) : ∀ {l : List Oper} {a : Act} {w : World}, (∀ o ∈ l, ∀ c, o.op ≠ .defer c) → wpList P ops Q l a w → wpListIn (Fence.wide.inRound r) n P ops Q l a w
  | [], _, _, _, h => h
  | o :: l, a, w, hd, h => by
    unfold wpList at h
    unfold wpListIn
    split at h
    · rename_i hw
      rw [if_pos hw]
      rcases h with h | h
      · exact oper_in (hd o (by simp)) (fun a w h' => wpListIn_of hQ (fun o' ho' => hd o' (by simp [ho'])) h') h
      · exact absurd h.2 hQ
    · rename_i hw
      rw [if_neg hw]
      exact ⟨fun _ _ => trivial, wpListIn_of hQ (fun o' ho' => hd o' (by simp [ho'])) h⟩
theorem wpIn_region_of {P : Program} {l : List Oper} {id n r : Nat} {Q : Post} {a : Act} {w : World} (hQ : ¬ LetsOut Q) (hd : ∀ o ∈ l, ∀ c, o.op ≠ .defer c) (h : wpList P l.toArray Q l a w) : (Code.region id l.toArray false).wpIn (Fence.wide.inRound r) n P Q a w := by
  refine wpIn_region ?_
  have := wpOpsIn_eq_wpListIn (F := Fence.wide.inRound r) (n := n) (P := P) (ops := l.toArray) (Q := Q) l 0 (fun j => by simp)
  rw [List.range_eq_range', List.size_toArray, this]
  exact wpListIn_of hQ hd h

section
variable {P : Program} {N : Nat} {w0 : Bs} {G0 G : Mem} {L : Lo}
/-- The loop's record in its block. -/
theorem St.putLoop {w : World} {l key : Nat} {r r' : Loop} (hs : St w0 G0 G L w) (hl : L.get key = some ⟨l, .loop r, 0⟩) : St w0 G0 G ((key, some ⟨l, .loop r', 0⟩) :: L) (w.putObj l (.loop r')) := by
  have hb := (hs.loc key _ hl).1
  have hlt := (Array.getElem?_eq_some_iff.1 hb).1
  exact hs.upd hl (World.putObj_heap_same hlt) (Nat.le_refl _) (fun k _ hk => absurd hk (Nat.not_lt_zero k)) (fun k hk => World.putObj_heap_other hk) rfl rfl rfl rfl (by simp)
theorem Hp.st {w : World} (h : Hp G L w) : St ⟨w, L⟩ G G L w :=
  ⟨rfl, rfl, rfl, Nat.le_refl _, Nat.le_refl _, fun _ _ _ => rfl, Mem.le_refl _, h.imm, fun _ _ _ h => .inl h, fun i x hx => ⟨(h.loc i x hx).1, .inl ⟨x, hx, rfl⟩, (h.loc i x hx).2⟩, h.dist⟩
theorem St.toExt {G' : Mem} {L' : Lo} {w w' : World} (h : St ⟨w, L⟩ G G' L' w') : Ext w G L w' G' L' :=
  ⟨h.os, h.tape, h.output, h.drawn, h.size, h.block, h.base, h.imm, h.fresh, h.loc, h.dist⟩
/-- A round whose variables are laid by one region and whose body is one region. -/
theorem round_of {opsA opsB : List Oper} {idA idB blk n l fn : Nat} {r : Loop} {tmps : Array Value} {fr : Fr} {W : World} {post : Mem → Lo → Prop} (hst : r.state = .ready) (hpe : r.pending = none)
    (hA : r.assign = .region idA opsA.toArray false) (hB : r.body = .block blk (.region idB opsB.toArray false)) (dA : ∀ o ∈ opsA, ∀ c, o.op ≠ .defer c) (dB : ∀ o ∈ opsB, ∀ c, o.op ≠ .defer c) (hrel : Rel N fr ⟨tmps, []⟩) (hHp : Hp G L W) (hl : L.get 8001 = some ⟨l, .loop r, 0⟩)
    (h : WL P N opsA.toArray (fun e a w => e = .normal ∧ ∃ fr1 G1 L1, Rel N fr1 a ∧ St ⟨W, L⟩ G G1 L1 w ∧ L1.get 8001 = some ⟨l, .loop r, 0⟩ ∧
      WL P N opsB.toArray (fun e a w => e = .normal ∧ ∃ G2 L2, St ⟨W, L⟩ G G2 L2 w ∧ L2.get 8001 = some ⟨l, .loop { r with state := .busy }, 0⟩ ∧ post G2 L2) opsB fr1 (St ⟨W, L⟩ G G1 ((8001, some ⟨l, .loop { r with state := .busy }, 0⟩) :: L1))) opsA fr (St ⟨W, L⟩ G G L)) :
    RoundIn Fence.wide n P l fn tmps r.assign r.body W (fun e W' => e = .returned (.bool true) ∧ ∃ G2 L2, Ext W G L W' G2 ((8001, some ⟨l, .loop r, 0⟩) :: L2) ∧ post G2 L2) := by
  refine roundIn_of_wpIn trivial ?_
  rw [hA, hB]
  have noOut : ∀ (X : Act → World → Prop), ¬ LetsOut (fun e a w => e = Exit.normal ∧ X a w) := fun X ⟨a, w, h⟩ => by cases h.1
  have h1 := wpIn_region_of (id := idA) (n := n) (r := l) (noOut _) dA (h _ W hrel hHp.st)
  refine Code.wpIn_mono (fun e a w hq => ?_) h1
  obtain ⟨rfl, fr1, G1, L1, ha1, hs1, hl1, hw⟩ := hq
  have hb1 := (hs1.loc 8001 _ hl1).1
  refine ⟨_, run_beginRound hb1 hst, ?_⟩
  have hs2 := hs1.putLoop (r' := { r with state := .busy }) hl1
  refine wpIn_block (Code.wpIn_mono (fun e a w hq => ?_) (wpIn_region_of (id := idB) (n := n) (r := l) (noOut _) dB (hw a _ ha1 hs2)))
  obtain ⟨rfl, G2, L2, hs3, hl3, hp⟩ := hq
  have hb3 := (hs3.loc 8001 _ hl3).1
  refine ⟨_, _, run_endRound none hb3, rfl, G2, L2, ?_, hp⟩
  have hs4 := hs3.putLoop (r' := { { r with state := .busy } with state := if (none : Option Code).isNone then .ready else .done, pending := none }) hl3
  have e1 : ({ { r with state := .busy } with state := if (none : Option Code).isNone then .ready else .done, pending := none } : Loop) = r := by
    obtain ⟨s, p, f, t, ps, as1, bo, d⟩ := r
    simp only at hst hpe
    subst hst hpe
    rfl
  rw [e1] at hs4 ⊢
  exact hs4.toExt
end

/-! ### The iterator's steps -/
/-- From one world to another by an iterator's own deeds: only objects of walks that were laid since B turn. -/
structure Stp (B : Nat) (W W' : World) : Prop where
  os : W'.os = W.os
  tape : W'.tape = W.tape
  output : W'.output = W.output
  drawn : W.drawn ≤ W'.drawn
  size : W.heap.size ≤ W'.heap.size
  block : ∀ (k : Nat) (o : Obj), W.heap[k]? = some o → (k < B ∨ o.isWalk = false) → W'.heap[k]? = some o
theorem Stp.refl (B : Nat) (W : World) : Stp B W W := ⟨rfl, rfl, rfl, Nat.le_refl _, Nat.le_refl _, fun _ _ h _ => h⟩
theorem Stp.trans {B : Nat} {W W' W'' : World} (h : Stp B W W') (k : Stp B W' W'') : Stp B W W'' :=
  ⟨k.os.trans h.os, k.tape.trans h.tape, k.output.trans h.output, Nat.le_trans h.drawn k.drawn, Nat.le_trans h.size k.size, fun j o e1 e2 => k.block j o (h.block j o e1 e2) e2⟩
theorem Stp.alloc (B : Nat) (W : World) (o : Obj) : Stp B W (W.alloc o) :=
  ⟨rfl, rfl, rfl, Nat.le_refl _, by simp, fun k o' h _ => (Below.heap_alloc W o k (Array.getElem?_eq_some_iff.1 h).1).trans h⟩
/-- What is known and owned abides it. -/
theorem St.stp {w0 : Bs} {G0 G : Mem} {L : Lo} {B : Nat} {W W' : World} (h : St w0 G0 G L W) (hs : Stp B W W') (hB : w0.w.heap.size ≤ B) (hL : ∀ i x, L.get i = some x → x.o.isWalk = false) : St w0 G0 G L W' := by
  refine ⟨hs.os.trans h.os, hs.tape.trans h.tape, hs.output.trans h.output, Nat.le_trans h.drawn hs.drawn, Nat.le_trans h.size hs.size, fun k hk hn => ?_, h.base, fun b o v hv => ?_, h.fresh, fun i x hx => ⟨hs.block _ _ (h.loc i x hx).1 (.inr (hL i x hx)), (h.loc i x hx).2⟩, h.dist⟩
  · have h1 := h.block k hk hn
    have hk' : k < W.heap.size := Nat.lt_of_lt_of_le hk h.size
    rw [← h1, Array.getElem?_eq_getElem hk']
    exact hs.block k _ (Array.getElem?_eq_getElem hk') (.inl (Nat.lt_of_lt_of_le hk hB))
  · have hc := h.imm b o v hv
    obtain ⟨ob, h1, h2⟩ := not_walk_of_cell hc
    have h1' : W'.heap[b]? = some ob := hs.block b ob h1 (.inr h2)
    have h1 : W.heap[b]? = some ob := h1
    simp only [World.cell?, h1, h1'] at hc ⊢
    exact hc
/-- A walk over a map under way: which entries have come. -/
structure Rng (b r : Nat) (es : Array MapEntry) (clock : Nat) (cons : List MapEntry) (left : Nat) (w : World) : Prop where
  map : w.heap[b]? = some (.map es clock)
  iter : ∃ seen c0, w.heap[r]? = some (.mapIter (some b) clock seen c0) ∧ clock ≤ c0 ∧ (leftOf es seen).size = left ∧ ∀ x, x ∈ cons ↔ x ∈ es.toList ∧ seen.contains x.born = true
  nodup : cons.Nodup
theorem born_inj {es : Array MapEntry} {clock : Nat} (h : Stamped es clock) {x y : MapEntry} (hx : x ∈ es.toList) (hy : y ∈ es.toList) (e : x.born = y.born) : x = y := by
  have hn := h.2.1
  have : ∀ (l : List MapEntry), (l.map (·.born)).Nodup → x ∈ l → y ∈ l → x = y := by
    intro l
    induction l with
    | nil => intro _ hx; cases hx
    | cons z l ih =>
      intro hn hx hy
      simp only [List.map_cons, List.nodup_cons, List.mem_map, not_exists, not_and] at hn
      rcases List.mem_cons.1 hx with h1 | h1 <;> rcases List.mem_cons.1 hy with h2 | h2
      · rw [h1, h2]
      · exact absurd (by rw [← e, h1]) (hn.1 y h2)
      · exact absurd (by rw [e, h2]) (hn.1 x h1)
      · exact ih hn.2 h1 h2
  exact this _ hn hx hy
section
variable {P : Program} {b r : Nat} {es : Array MapEntry} {clock : Nat} {cons : List MapEntry} {left : Nat} {w : World}
theorem Rng.next (h : Rng b r es clock cons left w) (hS : Stamped es clock) (ty : TypeId) :
    (left = 0 ∧ (Instr.next (.pointer (some ⟨r, 0, none⟩)) false ty).run P w = .ok (.tuple #[.bool false]) w) ∨
    ∃ e ∈ es.toList, ∃ w' left', (¬ e ∈ cons) ∧ (Instr.next (.pointer (some ⟨r, 0, none⟩)) false ty).run P w = .ok (.tuple #[.bool true, e.key, e.val]) w' ∧ Rng b r es clock (cons ++ [e]) left' w' ∧ left' < left ∧
      (Instr.entry (.pointer (some ⟨r, 0, none⟩))).run P w' = .ok (.tuple #[e.key, e.val]) w' ∧ ∀ B, B ≤ r → Stp B w w' := by
  obtain ⟨seen, c0, hr, hc, hl, hm⟩ := h.iter
  rcases run_next_at (P := P) w ty r b clock c0 seen es clock hr h.map hS.1 hc with ⟨h0, h1⟩ | ⟨e, he, w1, hw1, h1⟩
  · exact .inl ⟨by omega, h1⟩
  · have he' : e ∈ es.toList ∧ seen.contains e.born = false := by
      simp only [leftOf, Array.toList_filter, List.mem_filter, Bool.not_eq_true'] at he
      exact he
    have hrb : r ≠ b := fun e' => by subst e'; have := h.map; rw [hr] at this; cases this
    have hrl : r < w.heap.size := (Array.getElem?_eq_some_iff.1 hr).1
    have hsame : w1.heap = w.heap := by rcases hw1 with rfl | rfl <;> rfl
    have hdr : w.drawn ≤ w1.drawn := by rcases hw1 with rfl | rfl; exact Nat.le_refl _; exact Nat.le_succ _
    have hor : w1.os = w.os ∧ w1.tape = w.tape ∧ w1.output = w.output := by rcases hw1 with rfl | rfl <;> exact ⟨rfl, rfl, rfl⟩
    have hn1 : (ChangeMaps.setBlock w1 r (.mapIter (some b) clock (seen.push e.born) clock)).heap[r]? = some (.mapIter (some b) clock (seen.push e.born) clock) := by
      simp [ChangeMaps.setBlock, hsame, hrl]
    have hn2 : ∀ k, k ≠ r → (ChangeMaps.setBlock w1 r (.mapIter (some b) clock (seen.push e.born) clock)).heap[k]? = w.heap[k]? := fun k hk => by
      simp [ChangeMaps.setBlock, hsame, Array.getElem?_setIfInBounds, Ne.symm hk]
    refine .inr ⟨e, he'.1, ChangeMaps.setBlock w1 r (.mapIter (some b) clock (seen.push e.born) clock), (leftOf es (seen.push e.born)).size, fun hc' => by { have := ((hm e).1 hc').2; rw [he'.2] at this; cases this }, h1, ⟨(hn2 b (Ne.symm hrb)).trans h.map, ⟨_, clock, hn1, Nat.le_refl _, rfl, fun x => ?_⟩, ?_⟩, ?_, ?_, fun B hB => ⟨hor.1, hor.2.1, hor.2.2, hdr, by simp [ChangeMaps.setBlock, hsame], fun k o hk ho => ?_⟩⟩
    · simp only [List.mem_append, List.mem_singleton, Array.contains_push, Bool.or_eq_true, beq_iff_eq]
      constructor
      · rintro (hx | rfl)
        · exact ⟨((hm x).1 hx).1, .inl ((hm x).1 hx).2⟩
        · exact ⟨he'.1, .inr rfl⟩
      · rintro ⟨hx, hx' | hx'⟩
        · exact .inl ((hm x).2 ⟨hx, hx'⟩)
        · exact .inr (born_inj hS hx he'.1 hx')
    · refine List.nodup_append.2 ⟨h.nodup, by simp, fun a ha c hc' => ?_⟩
      simp only [List.mem_singleton] at hc'
      subst hc'
      intro e'
      subst e'
      have := ((hm a).1 ha).2
      rw [he'.2] at this; cases this
    · have hsub : leftOf es (seen.push e.born) = (leftOf es seen).filter fun x => x.born != e.born := by
        simp only [leftOf, Array.filter_filter, Array.contains_push, Bool.not_or]
        congr 1
        funext x
        rw [Bool.and_comm]; rfl
      rw [hsub, ← hl]
      have : ∀ (l : List MapEntry), e ∈ l → (l.filter fun x => x.born != e.born).length < l.length := by
        intro l hl'
        have h1 := List.length_filter_le (fun x : MapEntry => x.born != e.born) l
        rcases Nat.lt_or_ge (l.filter fun x => x.born != e.born).length l.length with h2 | h2
        · exact h2
        · have := List.length_filter_eq_length_iff.1 (Nat.le_antisymm h1 h2) e hl'
          simp at this
      have := this (leftOf es seen).toList he
      have e2 : ((leftOf es seen).filter fun x => x.born != e.born).size = ((leftOf es seen).toList.filter fun x => x.born != e.born).length := by
        rw [← Array.toList_filter, Array.length_toList]
      rw [e2, ← Array.length_toList (xs := leftOf es seen)]
      exact this
    · exact run_entry_at _ r b clock seen es clock e hn1 ((hn2 b (Ne.symm hrb)).trans h.map) he'.1 hS.2.1
    · by_cases hkr : k = r
      · subst hkr
        rw [hr] at hk; cases hk
        rcases ho with ho | ho
        · omega
        · cases ho
      · rw [hn2 k hkr]; exact hk
theorem Rng.stp {w' : World} (h : Rng b r es clock cons left w) (hk : KeepsWalks w w') : Rng b r es clock cons left w' := by
  obtain ⟨seen, c0, hr, rest⟩ := h.iter
  exact ⟨hk.same b _ h.map rfl, ⟨seen, c0, hk.same r _ hr rfl, rest⟩, h.nodup⟩
theorem Rng.done (h : Rng b r es clock cons 0 w) (hS : Stamped es clock) : cons.Perm es.toList := by
  obtain ⟨seen, c0, hr, hc, hl, hm⟩ := h.iter
  have hn : es.toList.Nodup := by
    have := hS.2.1
    exact (List.pairwise_map.1 this).imp fun hne e => hne (by rw [e])
  refine (List.perm_ext_iff_of_nodup h.nodup hn).2 fun x => ⟨fun hx => ((hm x).1 hx).1, fun hx => (hm x).2 ⟨hx, ?_⟩⟩
  have h0 : leftOf es seen = #[] := Array.eq_empty_of_size_eq_zero hl
  cases hs : seen.contains x.born with
  | true => rfl
  | false =>
    have : x ∈ (leftOf es seen).toList := by simp only [leftOf, Array.toList_filter, List.mem_filter, Bool.not_eq_true']; exact ⟨hx, hs⟩
    rw [h0] at this; simp at this
end

/-! ### What an iterator gives -/
def Gives {K : Type} (P : Program) (g : Nat) (lb : Array Value) (enc : K → Value) (ok : K → Prop) (S : List K → Prop) (n : Nat) (w : World) : Prop :=
  ∀ (l : Nat) (J : List K → World → Prop) (W : World), (∀ (k : Nat) (o : Obj), w.heap[k]? = some o → W.heap[k]? = some o) → (∀ s W1 W2, J s W1 → Stp W.heap.size W1 W2 → J s W2) →
    (∀ pre x W1, J pre W1 → ok x → pre.length < n → YieldAt Fence.wide 0 P l #[enc x] W1 fun e W2 => e = .returned (.bool true) ∧ J (pre ++ [x]) W2 ∧ KeepsWalks W1 W2) → J [] W →
    Calls P g (#[.func (.yield l) #[] #[]] ++ lb) W fun e W' => (∃ v, e = .returned v) ∧ ∃ xs, S xs ∧ J xs W'
end Go.EL
/- Iterators over a map's keys: maps.Keys, slices.AppendSeq, by the form of their code. The conditions stand in each statement. -/
namespace Go.EL
open Go Go.RowKit Go.Proofs Go.MapKept

section
variable {P : Program} {N : Nat} {Q : Post} {fr : Fr} {S : Asrt} {ops : Array Oper} {l : List Oper} {dst : Option Nat} {ty : TypeId} {pos : String} {af : Array Edge} {g : Option (Nat × Bool)}
/-- The operations of a region, one of which may be a call of yield. -/
def WLI (P : Program) (N : Nat) (ops : Array Oper) (Q : Post) (l : List Oper) (fr : Fr) (S : Asrt) : Prop := ∀ a w, Rel N fr a → S w → wpListIn Fence.wide 0 P ops Q l a w
theorem WLI.nil (h : WE N Q .normal fr S) : WLI P N ops Q [] fr S := h
theorem WLI.y0 {op : Op} {v : Value} (hg : guardOK ops fr ⟨dst, op, ty, pos, af, g⟩ true) (h : Y0 P N ⟨dst, op, ty, pos, af, g⟩ fr S v) (hn : ∀ c, op ≠ .defer c) (hd : dstOK N dst) (k : WLI P N ops Q l (putFr dst v fr) S) : WLI P N ops Q (⟨dst, op, ty, pos, af, g⟩ :: l) fr S := fun a w ha hs => by
  unfold wpListIn
  rw [if_pos (ha.wanted hg)]
  refine ⟨fun _ _ => trivial, ?_⟩
  rw [Oper.semAt_plain _ _ _ hn, h a w ha hs]
  exact k _ w (ha.putFr v hd) hs
theorem WLI.yield {x y : Operand} {ts : Array TypeId} {loop : Nat} {u : Value} {Φ : Value → Asrt} (hg : guardOK ops fr ⟨dst, .call ⟨.value x, #[y], ts⟩, ty, pos, af, g⟩ true) (hd : dstOK N dst) (hx : fr.ev x = some (.func (.yield loop) #[] #[])) (hy : fr.ev y = some u)
    (hY : ∀ w, S w → YieldAt Fence.wide 0 P loop #[u] w fun e w' => ∃ v, e = .returned v ∧ Φ v w') (k : ∀ v, WLI P N ops Q l (putFr dst v fr) (Φ v)) : WLI P N ops Q (⟨dst, .call ⟨.value x, #[y], ts⟩, ty, pos, af, g⟩ :: l) fr S := fun a w ha hs => by
  unfold wpListIn
  rw [if_pos (ha.wanted hg)]
  refine ⟨fun _ _ => trivial, ?_⟩
  rw [Oper.semAt_plain _ _ _ (fun c h => by cases h)]
  obtain ⟨fn, tmps, assign, body, h1, h2⟩ := hY w hs
  have : (execOp a.eval ⟨dst, .call ⟨.value x, #[y], ts⟩, ty, pos, af, g⟩).run P w = .ok (.round loop fn tmps assign body) w := by
    simp [execOp, resolve, ha.ev hx, ha.ev hy, Deferred.ofValue, invoke, h1]
  rw [this]
  refine ⟨fun h => by simp [Fence.wide] at h, h2.mono fun e w' ⟨v, e1, e2⟩ => ?_⟩
  subst e1
  exact k v _ w' (ha.putFr v hd) e2
theorem WC.regionI {id : Nat} {l : List Oper} (h : WLI P N l.toArray Q l fr S) : WC P N (.region id l.toArray false) Q fr S := fun a w ha hs => by
  refine (wpIn_wide (n := 0)).1 (wpIn_region ?_)
  have := wpOpsIn_eq_wpListIn (F := Fence.wide) (n := 0) (P := P) (ops := l.toArray) (Q := Q) l 0 (fun j => by simp)
  rw [List.range_eq_range', List.size_toArray, this]
  exact h a w ha hs
theorem Y0.loadW {t : TypeId} {x : Operand} {b off : Nat} {v : Value} (ht : ScalT P t) (hx : fr.ev x = some (.pointer (some ⟨b, off, none⟩))) (hv : ∀ w, S w → w.cell? ⟨b, off, none⟩ = some v) : Y0 P N ⟨dst, .load t x, ty, pos, af, g⟩ fr S v := fun a w ha hs => by
  simp [execOp, ha.ev hx, Instr.loadAt, Instr.sureAddr, run_loadVar_scal ht (hv w hs)]
theorem WC.loopM {c : Code} {X : Type} (m : X → Nat) (F : X → Fr) (I : X → Asrt) (x₀ : X) (hF : Fr.sub (F x₀) fr) (hI : ∀ w, S w → I x₀ w)
    (round : ∀ x, WC P N c (Exit.then (fun a w => ∃ x', m x' < m x ∧ Rel N (F x') a ∧ I x' w) Q) (F x) (I x)) : WC P N (.loop c) Q fr S := by
  have key : ∀ n x, m x = n → ∀ a w, Rel N (F x) a → I x w → LoopIn P c Q a w := by
    intro n
    induction n using Nat.strongRecOn with
    | _ n ih =>
      intro x hx a w ha hI
      refine LoopIn.fold (Code.wp_mono (fun e a' w' hq => ?_) (round x a w ha hI))
      cases e <;> first | exact hq | skip
      obtain ⟨x', h1, h2, h3⟩ := hq
      exact ih (m x') (by omega) x' rfl a' w' h2 h3
  exact fun a w ha hs => (key _ x₀ rfl a w (ha.weaken hF) (hI w hs)).wp
end
theorem nodup_len {α : Type} : ∀ {l m : List α}, l.Nodup → (∀ x ∈ l, x ∈ m) → l.length ≤ m.length
  | [], m, _, _ => Nat.zero_le _
  | a :: l, m, h, hs => by
    obtain ⟨s, t, rfl⟩ := List.append_of_mem (hs a (by simp))
    have h1 := List.nodup_cons.1 h
    have := nodup_len (l := l) (m := s ++ t) h1.2 (fun x hx => by
      have := hs x (by simp [hx])
      simp only [List.mem_append, List.mem_cons] at this ⊢
      rcases this with h | rfl | h
      · exact .inl h
      · exact absurd hx h1.1
      · exact .inr h)
    simp only [List.length_append, List.length_cons] at this ⊢
    omega
theorem Stp.of_st {w w' : World} {G0 G : Mem} {L : Lo} (h : St ⟨w, []⟩ G0 G L w') (B : Nat) : Stp B w w' :=
  ⟨h.os, h.tape, h.output, h.drawn, h.size, fun k o hk _ => by rw [h.block k (Array.getElem?_eq_some_iff.1 hk).1 (fun _ _ e => by simp [Lo.get] at e)]; exact hk⟩

section
variable {P : Program} {K : Type}
/-- maps.Keys' iterator, at keys of many cells. -/
theorem keysA {f : Nat} {fn : Func} {tM tK kt e : TypeId} {n : Nat} {z : Value} {enc : K → Array Value} {ok : K → Prop} {i0 i1 i2 i3 : Nat} {y4 y5 y6 y7 y8 y9 y3 ys y10 y11 y12 y13 tn : TypeId} {p4 p5 p6 p7 p8 p9 p3 ps p10 p11 p12 p13 : String} {a4 a5 a6 a7 a8 a9 a3 as9 a10 a11 a12 a13 : Array Edge} {ts : Array TypeId}
    (hf : P.funcs[f]? = some fn)
    (hb : fn.body = some (.seq (.region i0 #[⟨some 4, .load tM (.tmp 1), y4, p4, a4, none⟩, ⟨some 5, .range tM (.tmp 4), y5, p5, a5, none⟩] false)
      (.block 0 (.loop (.seq (.region i1 #[⟨some 6, .next (.tmp 5) false, y6, p6, a6, none⟩, ⟨some 7, .extract (.tmp 6) 0, y7, p7, a7, none⟩] false)
        (.seq (.cond (.tmp 7) .skip (.exit 0)) (.block 1 (.seq (.region i2 #[⟨some 8, .entry (.tmp 5), y8, p8, a8, none⟩, ⟨some 9, .extract (.tmp 8) 0, y9, p9, a9, none⟩, ⟨some 3, .alloc tK, y3, p3, a3, none⟩, ⟨none, .store tK (.tmp 3) (.tmp 9), ys, ps, as9, none⟩] false)
          (.seq (.region i3 #[⟨some 10, .move (.tmp 0), y10, p10, a10, none⟩, ⟨some 11, .load tK (.tmp 3), y11, p11, a11, none⟩, ⟨some 12, .call ⟨.value (.tmp 10), #[.tmp 11], ts⟩, y12, p12, a12, none⟩, ⟨some 13, .unOp .not tn (.tmp 12), y13, p13, a13, none⟩] false)
            (.cond (.tmp 13) .ret .skip))))))))))
    (hN : fn.ntmps = 14) (hr : fn.results = #[]) (hM : ScalT P tM) (hu : P.underlying tM = some (.map kt e)) (hz : (P.info? tK).map (·.zero) = some (some z)) (hzs : z.cells.size = n) (hK : AggT P tK n) (hsz : (P.info? tK).map (·.size) = some n)
    (hen : ∀ x, (enc x).size = n) (hone : ∀ x, ∀ u ∈ (enc x).toList, u.oneCell' = true)
    {w : World} {Bm b : Nat} {es : Array MapEntry} {clock : Nat} (hcell : w.cell? ⟨Bm, 0, none⟩ = some (.map (some b))) (hmap : w.heap[b]? = some (.map es clock)) (hS : Stamped es clock) (hk : ∀ en ∈ es.toList, ∃ x, ok x ∧ en.key = .agg (enc x)) :
    Gives P f #[.pointer (some ⟨Bm, 0, none⟩)] (fun x => .agg (enc x)) ok (fun xs => ∃ cons : List MapEntry, cons.Perm es.toList ∧ cons.map (·.key) = xs.map fun x => .agg (enc x)) es.size w := by
  intro l J W hW hA hY h0
  have hcW : W.cell? ⟨Bm, 0, none⟩ = some (.map (some b)) := by
    obtain ⟨ob, h1, h2⟩ := not_walk_of_cell hcell
    have h1 : w.heap[Bm]? = some ob := h1
    have h1' := hW Bm ob h1
    simp only [World.cell?, h1] at hcell
    simp only [World.cell?, h1']
    exact hcell
  have hmW := hW b _ hmap
  suffices hwc : WC P 14 _ (bodyPost P fn fun e W' => (∃ v, e = .returned v) ∧ ∃ xs : List K, (∃ cons : List MapEntry, cons.Perm es.toList ∧ cons.map (·.key) = xs.map fun x => .agg (enc x)) ∧ J xs W') (argFr [.func (.yield l) #[] #[], .pointer (some ⟨Bm, 0, none⟩)] 0) (fun w => w = W) by
    refine calls_of_wp hf hb (hwc _ W ⟨rfl, by rw [hN]; rfl, fun t v hv => ?_⟩ rfl)
    obtain ⟨_, h2⟩ := argFr_get _ 0 t v hv
    simp only [Nat.sub_zero] at h2
    have hlt := (List.getElem?_eq_some_iff.1 h2).1
    rw [Array.getElem?_append_left (by simpa using hlt)]
    simpa using h2
  have hbl : b < W.heap.size := (Array.getElem?_eq_some_iff.1 hmW).1
  let I : List K × List MapEntry × Nat → Asrt := fun x w => J x.1 w ∧ Rng b W.heap.size es clock x.2.1 x.2.2 w ∧ x.2.1.map (·.key) = x.1.map fun x => Value.agg (enc x)
  refine WC.seq (WC.region (WL.y0' guard_none (Y0.loadW hM rfl (fun w hw => by subst hw; exact hcW)) rfl ?_))
  refine WL.yr (Φ := fun v w => v = .pointer (some ⟨W.heap.size, 0, none⟩) ∧ I ([], [], (leftOf es #[]).size) w) guard_none (fun a w ha hs => ?_) rfl (fun v a w ha hs => ?_)
  · subst hs
    have : (execOp a.eval ⟨some 5, .range tM (.tmp 4), y5, p5, a5, none⟩).run P w = .ok (.value (.pointer (some ⟨w.heap.size, 0, none⟩))) (w.alloc (.mapIter (some b) clock #[] clock)) := by
      simp [execOp, ha.ev (x := .tmp 4) (v := .map (some b)) rfl, Instr.range, run_underlying hu, MapKept.run_getObj_map hmW, Result.andThen, run_newObj_alloc]
    rw [this]
    refine ⟨rfl, hA _ _ _ h0 (Stp.alloc _ _ _), ⟨(Below.heap_alloc _ _ b hbl).trans hmW, ⟨#[], clock, World.alloc_heap_new _ _, Nat.le_refl _, rfl, fun x => ?_⟩, List.nodup_nil⟩, rfl⟩
    simp
  · obtain ⟨rfl, hs⟩ := hs
    suffices hq : WL P 14 _ _ [] _ (I ([], [], (leftOf es #[]).size)) from hq a w ha hs
    refine WL.nil (WE.then (WC.block (WC.loopM (X := List K × List MapEntry × Nat) (fun x => x.2.2) (fun _ => [(0, .func (.yield l) #[] #[]), (5, .pointer (some ⟨W.heap.size, 0, none⟩))]) I ([], [], (leftOf es #[]).size) (Fr.sub_cons rfl (Fr.sub_cons rfl (Fr.sub_nil _))) (fun _ h => h) ?_)))
    rintro ⟨ss, cons, left⟩
    refine WC.seq (WC.region ?_)
    refine WL.yr (Φ := fun v w => (v = .tuple #[.bool false] ∧ left = 0 ∧ I (ss, cons, left) w) ∨ ∃ en ∈ es.toList, ∃ left', v = .tuple #[.bool true, en.key, en.val] ∧ ((¬ en ∈ cons) ∧ J ss w ∧ Rng b W.heap.size es clock (cons ++ [en]) left' w ∧ left' < left ∧ cons.map (·.key) = ss.map (fun x => Value.agg (enc x)) ∧ (Instr.entry (.pointer (some ⟨W.heap.size, 0, none⟩))).run P w = .ok (.tuple #[en.key, en.val]) w)) guard_none (fun a w ha hs => ?_) rfl (fun v a w ha hs => ?_)
    · obtain ⟨hJ, hR, hc⟩ := hs
      rcases hR.next (P := P) hS y6 with ⟨h1, h2⟩ | ⟨en, h1, w', left', h2, h3, h4, h5, h6, h7⟩
      · have : (execOp a.eval ⟨some 6, .next (.tmp 5) false, y6, p6, a6, none⟩).run P w = .ok (.value (.tuple #[.bool false])) w := by
          simp [execOp, ha.ev (x := .tmp 5) (v := .pointer (some ⟨W.heap.size, 0, none⟩)) rfl, h2]
        rw [this]
        exact .inl ⟨rfl, h1, hJ, hR, hc⟩
      · have : (execOp a.eval ⟨some 6, .next (.tmp 5) false, y6, p6, a6, none⟩).run P w = .ok (.value (.tuple #[.bool true, en.key, en.val])) w' := by
          simp [execOp, ha.ev (x := .tmp 5) (v := .pointer (some ⟨W.heap.size, 0, none⟩)) rfl, h3]
        rw [this]
        exact .inr ⟨en, h1, left', rfl, h2, hA _ _ _ hJ (h7 _ (Nat.le_refl _)), h4, h5, hc, h6⟩
    · rcases hs with ⟨rfl, rfl, hs⟩ | ⟨en, hen', left', rfl, hs⟩
      · -- nothing is left
        suffices hq : WL P 14 _ _ _ _ (I (ss, cons, 0)) from hq a w ha hs
        refine WL.y0' guard_none (Y0.extract rfl rfl) rfl (WL.nil (WE.then (WC.seq (WC.condF rfl (WC.exit (WE.thenExit (WE.thenExit (WE.exitHere ?_))))))))
        rintro a w ha ⟨hJ, hR, hc⟩
        exact ⟨ha.defers, .tuple #[], by simp [results, hr], ⟨_, rfl⟩, ss, ⟨cons, hR.done hS, hc⟩, hJ⟩
      · suffices hq : WL P 14 _ _ _ _ (fun w => (¬ en ∈ cons) ∧ J ss w ∧ Rng b W.heap.size es clock (cons ++ [en]) left' w ∧ left' < left ∧ cons.map (·.key) = ss.map (fun x => Value.agg (enc x)) ∧ (Instr.entry (.pointer (some ⟨W.heap.size, 0, none⟩))).run P w = .ok (.tuple #[en.key, en.val]) w) from hq a w ha hs
        refine WL.y0' guard_none (Y0.extract rfl rfl) rfl (WL.nil (WE.then (WC.seq (WC.condT rfl (WC.skip (WE.then (WC.block (WC.seq (WC.region ?_)))))))))
        obtain ⟨x, hok, hkx⟩ := hk en hen'
        refine WL.y0' (v := .tuple #[.agg (enc x), en.val]) guard_none (fun a w ha hs => ?_) rfl (WL.y0' guard_none (Y0.extract rfl rfl) rfl ?_)
        · simp [execOp, ha.ev (x := .tmp 5) (v := .pointer (some ⟨W.heap.size, 0, none⟩)) rfl, hs.2.2.2.2.2, hkx]
        · intro a w1 ha hs
          obtain ⟨hnc, hJ, hR, hlt, hc, _⟩ := hs
          have hst : St ⟨w1, []⟩ (fun _ _ => none) (fun _ _ => none) [] w1 := (Hp.empty w1).st
          revert a ha
          suffices h : WL P 14 _ _ _ _ (St ⟨w1, []⟩ (fun _ _ => none) (fun _ _ => none) []) from fun a ha => h a w1 ha hst
          refine WL.alloc 3 guard_none hz rfl (fun b3 => ?_)
          refine WL.storeLA 3 guard_none hsz rfl rfl rfl hzs (hen x) (hone x) (WL.nil (WE.then (WC.seq (WC.regionI ?_))))
          refine WLI.y0 guard_none (Y0.move rfl) (fun c h => by cases h) rfl (WLI.y0 guard_none (Y0.loadLA 3 hK rfl rfl (hen x)) (fun c h => by cases h) rfl ?_)
          have hlen : ss.length < es.size := by
            have h1 : (cons ++ [en]).length ≤ es.toList.length := by
              obtain ⟨seen, c0, _, _, _, hm⟩ := hR.iter
              exact nodup_len hR.nodup (fun y hy => ((hm y).1 hy).1)
            have h2 : cons.length = ss.length := by have := congrArg List.length hc; simpa using this
            simp only [List.length_append, List.length_cons, List.length_nil, Array.length_toList] at h1
            omega
          refine WLI.yield (Φ := fun v w => v = .bool true ∧ I (ss ++ [x], cons ++ [en], left') w) guard_none rfl rfl rfl (fun w hs => ?_) (fun v => ?_)
          · have hstp := Stp.of_st hs W.heap.size
            have hkw : KeepsWalks w1 w := ⟨hs.size, fun k o hk' _ => by rw [hs.block k (Array.getElem?_eq_some_iff.1 hk').1 (fun _ _ e => by simp [Lo.get] at e)]; exact hk'⟩
            obtain ⟨fn', tm, as1, bo, q1, q2⟩ := hY ss x w (hA _ _ _ hJ hstp) hok hlen
            refine ⟨fn', tm, as1, bo, q1, q2.mono fun e w' ⟨e1, e2, e3⟩ => ⟨_, e1, rfl, e2, (hR.stp hkw).stp e3, ?_⟩⟩
            simp [hc, hkx]
          · intro a w ha hs
            obtain ⟨rfl, hs⟩ := hs
            suffices hq : WLI P 14 _ _ _ _ (I (ss ++ [x], cons ++ [en], left')) from hq a w ha hs
            refine WLI.y0 guard_none (Y0.not rfl) (fun c h => by cases h) rfl (WLI.nil (WE.then (WC.condF rfl (WC.skip (WE.inBlock ?_)))))
            exact fun a w ha hs => ⟨(ss ++ [x], cons ++ [en], left'), hlt, ha.weaken (Fr.sub_cons rfl (Fr.sub_cons rfl (Fr.sub_nil _))), hs⟩
end
end Go.EL
/- Iterators over a map's keys: keys of one cell; slices.AppendSeq. The conditions stand in each statement. -/
namespace Go.EL
open Go Go.RowKit Go.Proofs Go.MapKept

section
variable {P : Program} {K : Type}
/-- maps.Keys' iterator, at keys of one cell. -/
theorem keysS {f : Nat} {fn : Func} {tM kt e : TypeId} {enc : K → Value} {ok : K → Prop} {i0 i1 i2 i3 : Nat} {y4 y5 y6 y7 y8 y9 y3 y10 y11 y12 y13 tn : TypeId} {p4 p5 p6 p7 p8 p9 p3 p10 p11 p12 p13 : String} {a4 a5 a6 a7 a8 a9 a3 a10 a11 a12 a13 : Array Edge} {ts : Array TypeId}
    (hf : P.funcs[f]? = some fn)
    (hb : fn.body = some (.seq (.region i0 #[⟨some 4, .load tM (.tmp 1), y4, p4, a4, none⟩, ⟨some 5, .range tM (.tmp 4), y5, p5, a5, none⟩] false)
      (.block 0 (.loop (.seq (.region i1 #[⟨some 6, .next (.tmp 5) false, y6, p6, a6, none⟩, ⟨some 7, .extract (.tmp 6) 0, y7, p7, a7, none⟩] false)
        (.seq (.cond (.tmp 7) .skip (.exit 0)) (.block 1 (.seq (.region i2 #[⟨some 8, .entry (.tmp 5), y8, p8, a8, none⟩, ⟨some 9, .extract (.tmp 8) 0, y9, p9, a9, none⟩, ⟨some 3, .assign (.tmp 9), y3, p3, a3, none⟩] false)
          (.seq (.region i3 #[⟨some 10, .move (.tmp 0), y10, p10, a10, none⟩, ⟨some 11, .move (.tmp 3), y11, p11, a11, none⟩, ⟨some 12, .call ⟨.value (.tmp 10), #[.tmp 11], ts⟩, y12, p12, a12, none⟩, ⟨some 13, .unOp .not tn (.tmp 12), y13, p13, a13, none⟩] false)
            (.cond (.tmp 13) .ret .skip))))))))))
    (hN : fn.ntmps = 14) (hr : fn.results = #[]) (hM : ScalT P tM) (hu : P.underlying tM = some (.map kt e))
    {w : World} {Bm b : Nat} {es : Array MapEntry} {clock : Nat} (hcell : w.cell? ⟨Bm, 0, none⟩ = some (.map (some b))) (hmap : w.heap[b]? = some (.map es clock)) (hS : Stamped es clock) (hk : ∀ en ∈ es.toList, ∃ x, ok x ∧ en.key = enc x) :
    Gives P f #[.pointer (some ⟨Bm, 0, none⟩)] (fun x => enc x) ok (fun xs => ∃ cons : List MapEntry, cons.Perm es.toList ∧ cons.map (·.key) = xs.map fun x => enc x) es.size w := by
  intro l J W hW hA hY h0
  have hcW : W.cell? ⟨Bm, 0, none⟩ = some (.map (some b)) := by
    obtain ⟨ob, h1, h2⟩ := not_walk_of_cell hcell
    have h1 : w.heap[Bm]? = some ob := h1
    have h1' := hW Bm ob h1
    simp only [World.cell?, h1] at hcell
    simp only [World.cell?, h1']
    exact hcell
  have hmW := hW b _ hmap
  suffices hwc : WC P 14 _ (bodyPost P fn fun e W' => (∃ v, e = .returned v) ∧ ∃ xs : List K, (∃ cons : List MapEntry, cons.Perm es.toList ∧ cons.map (·.key) = xs.map fun x => enc x) ∧ J xs W') (argFr [.func (.yield l) #[] #[], .pointer (some ⟨Bm, 0, none⟩)] 0) (fun w => w = W) by
    refine calls_of_wp hf hb (hwc _ W ⟨rfl, by rw [hN]; rfl, fun t v hv => ?_⟩ rfl)
    obtain ⟨_, h2⟩ := argFr_get _ 0 t v hv
    simp only [Nat.sub_zero] at h2
    have hlt := (List.getElem?_eq_some_iff.1 h2).1
    rw [Array.getElem?_append_left (by simpa using hlt)]
    simpa using h2
  have hbl : b < W.heap.size := (Array.getElem?_eq_some_iff.1 hmW).1
  let I : List K × List MapEntry × Nat → Asrt := fun x w => J x.1 w ∧ Rng b W.heap.size es clock x.2.1 x.2.2 w ∧ x.2.1.map (·.key) = x.1.map fun x => enc x
  refine WC.seq (WC.region (WL.y0' guard_none (Y0.loadW hM rfl (fun w hw => by subst hw; exact hcW)) rfl ?_))
  refine WL.yr (Φ := fun v w => v = .pointer (some ⟨W.heap.size, 0, none⟩) ∧ I ([], [], (leftOf es #[]).size) w) guard_none (fun a w ha hs => ?_) rfl (fun v a w ha hs => ?_)
  · subst hs
    have : (execOp a.eval ⟨some 5, .range tM (.tmp 4), y5, p5, a5, none⟩).run P w = .ok (.value (.pointer (some ⟨w.heap.size, 0, none⟩))) (w.alloc (.mapIter (some b) clock #[] clock)) := by
      simp [execOp, ha.ev (x := .tmp 4) (v := .map (some b)) rfl, Instr.range, run_underlying hu, MapKept.run_getObj_map hmW, Result.andThen, run_newObj_alloc]
    rw [this]
    refine ⟨rfl, hA _ _ _ h0 (Stp.alloc _ _ _), ⟨(Below.heap_alloc _ _ b hbl).trans hmW, ⟨#[], clock, World.alloc_heap_new _ _, Nat.le_refl _, rfl, fun x => ?_⟩, List.nodup_nil⟩, rfl⟩
    simp
  · obtain ⟨rfl, hs⟩ := hs
    suffices hq : WL P 14 _ _ [] _ (I ([], [], (leftOf es #[]).size)) from hq a w ha hs
    refine WL.nil (WE.then (WC.block (WC.loopM (X := List K × List MapEntry × Nat) (fun x => x.2.2) (fun _ => [(0, .func (.yield l) #[] #[]), (5, .pointer (some ⟨W.heap.size, 0, none⟩))]) I ([], [], (leftOf es #[]).size) (Fr.sub_cons rfl (Fr.sub_cons rfl (Fr.sub_nil _))) (fun _ h => h) ?_)))
    rintro ⟨ss, cons, left⟩
    refine WC.seq (WC.region ?_)
    refine WL.yr (Φ := fun v w => (v = .tuple #[.bool false] ∧ left = 0 ∧ I (ss, cons, left) w) ∨ ∃ en ∈ es.toList, ∃ left', v = .tuple #[.bool true, en.key, en.val] ∧ ((¬ en ∈ cons) ∧ J ss w ∧ Rng b W.heap.size es clock (cons ++ [en]) left' w ∧ left' < left ∧ cons.map (·.key) = ss.map (fun x => enc x) ∧ (Instr.entry (.pointer (some ⟨W.heap.size, 0, none⟩))).run P w = .ok (.tuple #[en.key, en.val]) w)) guard_none (fun a w ha hs => ?_) rfl (fun v a w ha hs => ?_)
    · obtain ⟨hJ, hR, hc⟩ := hs
      rcases hR.next (P := P) hS y6 with ⟨h1, h2⟩ | ⟨en, h1, w', left', h2, h3, h4, h5, h6, h7⟩
      · have : (execOp a.eval ⟨some 6, .next (.tmp 5) false, y6, p6, a6, none⟩).run P w = .ok (.value (.tuple #[.bool false])) w := by
          simp [execOp, ha.ev (x := .tmp 5) (v := .pointer (some ⟨W.heap.size, 0, none⟩)) rfl, h2]
        rw [this]
        exact .inl ⟨rfl, h1, hJ, hR, hc⟩
      · have : (execOp a.eval ⟨some 6, .next (.tmp 5) false, y6, p6, a6, none⟩).run P w = .ok (.value (.tuple #[.bool true, en.key, en.val])) w' := by
          simp [execOp, ha.ev (x := .tmp 5) (v := .pointer (some ⟨W.heap.size, 0, none⟩)) rfl, h3]
        rw [this]
        exact .inr ⟨en, h1, left', rfl, h2, hA _ _ _ hJ (h7 _ (Nat.le_refl _)), h4, h5, hc, h6⟩
    · rcases hs with ⟨rfl, rfl, hs⟩ | ⟨en, hen', left', rfl, hs⟩
      · -- nothing is left
        suffices hq : WL P 14 _ _ _ _ (I (ss, cons, 0)) from hq a w ha hs
        refine WL.y0' guard_none (Y0.extract rfl rfl) rfl (WL.nil (WE.then (WC.seq (WC.condF rfl (WC.exit (WE.thenExit (WE.thenExit (WE.exitHere ?_))))))))
        rintro a w ha ⟨hJ, hR, hc⟩
        exact ⟨ha.defers, .tuple #[], by simp [results, hr], ⟨_, rfl⟩, ss, ⟨cons, hR.done hS, hc⟩, hJ⟩
      · suffices hq : WL P 14 _ _ _ _ (fun w => (¬ en ∈ cons) ∧ J ss w ∧ Rng b W.heap.size es clock (cons ++ [en]) left' w ∧ left' < left ∧ cons.map (·.key) = ss.map (fun x => enc x) ∧ (Instr.entry (.pointer (some ⟨W.heap.size, 0, none⟩))).run P w = .ok (.tuple #[en.key, en.val]) w) from hq a w ha hs
        refine WL.y0' guard_none (Y0.extract rfl rfl) rfl (WL.nil (WE.then (WC.seq (WC.condT rfl (WC.skip (WE.then (WC.block (WC.seq (WC.region ?_)))))))))
        obtain ⟨x, hok, hkx⟩ := hk en hen'
        refine WL.y0' (v := .tuple #[enc x, en.val]) guard_none (fun a w ha hs => ?_) rfl (WL.y0' guard_none (Y0.extract rfl rfl) rfl ?_)
        · simp [execOp, ha.ev (x := .tmp 5) (v := .pointer (some ⟨W.heap.size, 0, none⟩)) rfl, hs.2.2.2.2.2, hkx]
        · intro a w1 ha hs
          obtain ⟨hnc, hJ, hR, hlt, hc, _⟩ := hs
          have hst : St ⟨w1, []⟩ (fun _ _ => none) (fun _ _ => none) [] w1 := (Hp.empty w1).st
          revert a ha
          suffices h : WL P 14 _ _ _ _ (St ⟨w1, []⟩ (fun _ _ => none) (fun _ _ => none) []) from fun a ha => h a w1 ha hst
          refine WL.y0' guard_none (Y0.assign rfl) rfl (WL.nil (WE.then (WC.seq (WC.regionI ?_))))
          refine WLI.y0 guard_none (Y0.move rfl) (fun c h => by cases h) rfl (WLI.y0 guard_none (Y0.move rfl) (fun c h => by cases h) rfl ?_)
          have hlen : ss.length < es.size := by
            have h1 : (cons ++ [en]).length ≤ es.toList.length := by
              obtain ⟨seen, c0, _, _, _, hm⟩ := hR.iter
              exact nodup_len hR.nodup (fun y hy => ((hm y).1 hy).1)
            have h2 : cons.length = ss.length := by have := congrArg List.length hc; simpa using this
            simp only [List.length_append, List.length_cons, List.length_nil, Array.length_toList] at h1
            omega
          refine WLI.yield (Φ := fun v w => v = .bool true ∧ I (ss ++ [x], cons ++ [en], left') w) guard_none rfl rfl rfl (fun w hs => ?_) (fun v => ?_)
          · have hstp := Stp.of_st hs W.heap.size
            have hkw : KeepsWalks w1 w := ⟨hs.size, fun k o hk' _ => by rw [hs.block k (Array.getElem?_eq_some_iff.1 hk').1 (fun _ _ e => by simp [Lo.get] at e)]; exact hk'⟩
            obtain ⟨fn', tm, as1, bo, q1, q2⟩ := hY ss x w (hA _ _ _ hJ hstp) hok hlen
            refine ⟨fn', tm, as1, bo, q1, q2.mono fun e w' ⟨e1, e2, e3⟩ => ⟨_, e1, rfl, e2, (hR.stp hkw).stp e3, ?_⟩⟩
            simp [hc, hkx]
          · intro a w ha hs
            obtain ⟨rfl, hs⟩ := hs
            suffices hq : WLI P 14 _ _ _ _ (I (ss ++ [x], cons ++ [en], left')) from hq a w ha hs
            refine WLI.y0 guard_none (Y0.not rfl) (fun c h => by cases h) rfl (WLI.nil (WE.then (WC.condF rfl (WC.skip (WE.inBlock ?_)))))
            exact fun a w ha hs => ⟨(ss ++ [x], cons ++ [en], left'), hlt, ha.weaken (Fr.sub_cons rfl (Fr.sub_cons rfl (Fr.sub_nil _))), hs⟩
/-- slices.AppendSeq(nil, seq), at elements of many cells. -/
theorem appA {f g : Nat} {fn : Func} {lb : Array Value} {tS e : TypeId} {n bytes N : Nat} {z : Value} {enc : K → Array Value} {ok : K → Prop} {r : Rp K} {Sx : List K → Prop} {i0 i1 i2 i3 i4 : Nat} {y2 y4 y6 y5 y7 y8 y9 y10 y11 y13 y12 y14 : TypeId} {p2 p4 p6 p5 p7 p8 p9 p10 p11 p13 p12 p14 : String} {a2 a4 a6 a5 a7 a8 a9 a10 a11 a13 a12 a14 : Array Edge}
    (hf : P.funcs[f]? = some fn)
    (hb : fn.body = some (.seq (.region i0 #[⟨some 2, .box tS (.tmp 0), y2, p2, a2, none⟩, ⟨some 4, .assign (.const (.slice none 0 0)), y4, p4, a4, none⟩] false)
      (.seq (.seq (.region i1 #[⟨some 6, .move (.tmp 1), y6, p6, a6, none⟩] false) (.block 0 (.rangeFunc (.tmp 6) #[7] (.region i2 #[⟨some 5, .alloc e, y5, p5, a5, none⟩, ⟨none, .store e (.tmp 5) (.tmp 7), y7, p7, a7, none⟩] false) (.block 1 (.region i3 #[⟨some 8, .load tS (.tmp 2), y8, p8, a8, none⟩, ⟨some 9, .load e (.tmp 5), y9, p9, a9, none⟩, ⟨some 10, .buildSlice tS 1 #[(0, .tmp 9)], y10, p10, a10, none⟩, ⟨some 11, .call ⟨.builtin .append, #[.tmp 8, .tmp 10], #[tS, tS]⟩, y11, p11, a11, none⟩, ⟨none, .store tS (.tmp 2) (.tmp 11), y13, p13, a13, none⟩] false)))))
        (.seq (.region i4 #[⟨some 12, .load tS (.tmp 2), y12, p12, a12, none⟩, ⟨some 4, .assign (.tmp 12), y14, p14, a14, none⟩] false) .ret))))
    (hN : fn.ntmps = 13) (hr : fn.results = #[.tmp 4]) (hS : ScalT P tS) (hSz : (P.info? tS).map (·.size) = some 1) (hu : P.underlying tS = some (.slice e)) (hE : ElT P e z r.size bytes) (hzs : z.cells.size = r.size) (hby : bytes ≤ 100000) (hz : (P.info? e).map (·.zero) = some (some z)) (hzc : z.cells.size = n) (hK : AggT P e n) (hsz : (P.info? e).map (·.size) = some n) (hen : ∀ x, (enc x).size = n) (hone : ∀ x, ∀ u ∈ (enc x).toList, u.oneCell' = true)
    (hrep : ∀ G x, r.rep G (enc x).toList x) (hlit : ∀ x w, (Instr.buildSlice tS 1 #[(0, .agg (enc x))]).run P w = .ok (.slice (some ⟨w.heap.size, 0, none⟩) 1 1) (w.alloc (.cells (enc x).toList.toArray e)))
    (hg : ∀ args w, (callFunc g args).run P w = .ok (.enter g args) w) (hNs : N ≤ small) {w : World} {G : Mem} (hi : Imm G w) (hG : Gives P g lb (fun x => .agg (enc x)) ok Sx N w) :
    Calls P f #[.slice none 0 0, .func (.func g) #[] lb] w (RetL ⟨w, []⟩ G (fun G' L' v => ∃ xs p c tk, L' = [(7000, tk)] ∧ v = .slice p xs.length c ∧ RowR r e G' v xs tk ∧ Sx xs)) := by
  refine (callsIn_wide (n := 0)).1 (callsIn_of_wp_marks hf hb trivial ((wpIn_wide (n := 0)).2 ?_))
  have hHp : Hp G [] w := ⟨hi, by intro _ _ h; simp [Lo.get] at h, by intro _ _ _ _ _ h; simp [Lo.get] at h⟩
  suffices hwc : WC P 13 _ (bodyPostM Fence.wide 0 P fn (RetL ⟨w, []⟩ G (fun G' L' v => ∃ xs p c tk, L' = [(7000, tk)] ∧ v = .slice p xs.length c ∧ RowR r e G' v xs tk ∧ Sx xs))) (argFr [.slice none 0 0, .func (.func g) #[] lb] 0) (St ⟨w, []⟩ G G []) by
    refine hwc _ w ⟨rfl, by rw [hN]; rfl, fun t v hv => ?_⟩ hHp.st
    obtain ⟨_, h2⟩ := argFr_get _ 0 t v hv
    simp only [Nat.sub_zero] at h2
    have hlt := (List.getElem?_eq_some_iff.1 h2).1
    rw [Array.getElem?_append_left (by simpa using hlt)]
    simpa using h2
  refine WC.seq (WC.region (WL.box 2 guard_none rfl rfl (fun B => WL.y0' guard_none (Y0.assign rfl) rfl (WL.nil (WE.then (WC.seq (WC.seq (WC.region (WL.y0' guard_none (Y0.move rfl) rfl (WL.nil (WE.then (WC.block ?_)))))))))))) 
  intro a w1 ha hs
  refine (wpIn_wide (n := 0)).1 (wpIn_rangeFunc ?_)
  intro fnid _
  let rec' : Loop := { state := .ready, pending := none, fn := fnid, tmps := a.tmps, params := #[7], assign := .region i2 #[⟨some 5, .alloc e, y5, p5, a5, none⟩, ⟨none, .store e (.tmp 5) (.tmp 7), y7, p7, a7, none⟩] false, body := .block 1 (.region i3 #[⟨some 8, .load tS (.tmp 2), y8, p8, a8, none⟩, ⟨some 9, .load e (.tmp 5), y9, p9, a9, none⟩, ⟨some 10, .buildSlice tS 1 #[(0, .tmp 9)], y10, p10, a10, none⟩, ⟨some 11, .call ⟨.builtin .append, #[.tmp 8, .tmp 10], #[tS, tS]⟩, y11, p11, a11, none⟩, ⟨none, .store tS (.tmp 2) (.tmp 11), y13, p13, a13, none⟩] false), defers := w1.heap.size }
  have hs1 : St ⟨w, []⟩ G G _ ((w1.alloc (.deferred (some []))).alloc (.loop rec')) := (hs.push 8002 (.deferred (some []))).push 8001 (.loop rec')
  have hl1 : (w1.alloc (.deferred (some []))).heap.size = w1.heap.size + 1 := by simp
  rw [hl1] at hs1
  refine ⟨w1.heap.size + 1, [{ target := .collected w1.heap.size, args := #[] }], ((w1.alloc (.deferred (some []))).alloc (.loop rec')), { target := .fn (.func g) lb, args := #[.func (.yield (w1.heap.size + 1)) #[] #[]] }, ((w1.alloc (.deferred (some []))).alloc (.loop rec')), g, #[.func (.yield (w1.heap.size + 1)) #[] #[]] ++ lb, ((w1.alloc (.deferred (some []))).alloc (.loop rec')), run_enterLoop_outer _ _ _ _ _, ?_, fun _ _ => trivial, ?_, fun h => by simp [Fence.wide] at h, ?_⟩
  · have e6 := ha.here 6 (.func (.func g) #[] lb) rfl
    simp [resolve, rangeCall, Deferred.ofValue, Act.eval, e6]
  · simp [invoke, hg]
  refine (callsIn_wide (n := 0)).2 ?_
  let J : List K → World → Prop := fun xs W => ∃ G' p c tk, St ⟨w, []⟩ G G' [(8001, some ⟨w1.heap.size + 1, .loop rec', 0⟩), (8002, some ⟨w1.heap.size, .deferred (some []), 0⟩), (2, some ⟨B, .cells #[.slice p xs.length c] tS (0, 0), 0⟩), (7000, tk)] W ∧ RowR r e G' (.slice p xs.length c) xs tk
  have hrn : RowR r e G (.slice none 0 0) ([] : List K) none := RowR.nil
  refine Calls.mono (hG (w1.heap.size + 1) J _ (fun k o hk => ?_) (fun xs W1 W2 hJ hst => ?_) (fun pre x W1 hJ hok hlen => ?_) ⟨G, none, 0, none, hs1.weaken (Lo.sub_cons rfl (Lo.sub_cons rfl (Lo.sub_cons rfl (Lo.sub_no (Lo.sub_nil _))))), hrn⟩) (fun en W2 hq => ?_)
  · have hk' := (Array.getElem?_eq_some_iff.1 hk).1
    rw [hs1.block k hk' (fun _ _ h => by simp [Lo.get] at h)]; exact hk
  · obtain ⟨G', p, c, tk, h1, h2⟩ := hJ
    refine ⟨G', p, c, tk, h1.stp hst ?_ (fun i x hx => ?_), h2⟩
    · have := hs1.size; exact this
    · simp only [Lo.get_cons] at hx
      split at hx
      · cases hx; rfl
      · split at hx
        · cases hx; rfl
        · split at hx
          · cases hx; rfl
          · split at hx
            · cases tk with
              | none => cases hx
              | some y =>
                cases hx
                obtain ⟨_, _, _, _, e2, _⟩ := h2
                rw [e2]; rfl
            · simp [Lo.get] at hx
  · obtain ⟨G1, p, c, tk, h1, h2⟩ := hJ
    have hlb := (h1.loc 8001 _ rfl).1
    refine ⟨fnid, a.tmps.setIfInBounds 7 (.agg (enc x)), rec'.assign, rec'.body, (by simpa [rec'] using run_yield (P := P) (args := #[.agg (enc x)]) hlb rfl), ?_⟩
    let L1 : Lo := [(8001, some ⟨w1.heap.size + 1, .loop rec', 0⟩), (2, some ⟨B, .cells #[.slice p pre.length c] tS (0, 0), 0⟩), (7000, tk)]
    have hL1 : Lo.sub L1 [(8001, some ⟨w1.heap.size + 1, .loop rec', 0⟩), (8002, some ⟨w1.heap.size, .deferred (some []), 0⟩), (2, some ⟨B, .cells #[.slice p pre.length c] tS (0, 0), 0⟩), (7000, tk)] := Lo.sub_cons rfl (Lo.sub_cons rfl (Lo.sub_cons rfl (Lo.sub_nil _)))
    have hrel : Rel 13 [(2, .pointer (some ⟨B, 0, none⟩)), (7, .agg (enc x))] ⟨a.tmps.setIfInBounds 7 (.agg (enc x)), []⟩ := by
      refine ⟨rfl, by simpa using ha.size, fun t v hv => ?_⟩
      rw [Fr.get_cons] at hv
      split at hv
      · rename_i ht; subst ht; cases hv
        rw [Array.getElem?_setIfInBounds_ne (by decide)]
        exact ha.here 2 _ rfl
      · rw [Fr.get_cons] at hv
        split at hv
        · rename_i ht; subst ht; cases hv
          rw [Array.getElem?_setIfInBounds_self_of_lt (by rw [ha.size]; decide)]
        · simp [Fr.get] at hv
    refine (round_of (P := P) (N := 13) (opsA := [⟨some 5, .alloc e, y5, p5, a5, none⟩, ⟨none, .store e (.tmp 5) (.tmp 7), y7, p7, a7, none⟩]) (opsB := [⟨some 8, .load tS (.tmp 2), y8, p8, a8, none⟩, ⟨some 9, .load e (.tmp 5), y9, p9, a9, none⟩, ⟨some 10, .buildSlice tS 1 #[(0, .tmp 9)], y10, p10, a10, none⟩, ⟨some 11, .call ⟨.builtin .append, #[.tmp 8, .tmp 10], #[tS, tS]⟩, y11, p11, a11, none⟩, ⟨none, .store tS (.tmp 2) (.tmp 11), y13, p13, a13, none⟩]) (post := fun G2 L2 => Mem.le G1 G2 ∧ ∃ p' c' tk', Lo.sub [(2, some ⟨B, .cells #[.slice p' (pre ++ [x]).length c'] tS (0, 0), 0⟩), (7000, tk')] L2 ∧ RowR r e G2 (.slice p' (pre ++ [x]).length c') (pre ++ [x]) tk') rfl rfl rfl rfl ?_ ?_ hrel (h1.hp hL1) rfl ?_).mono ?_
    · intro o ho c'; simp only [List.mem_cons, List.not_mem_nil, or_false] at ho; rcases ho with rfl | rfl <;> (intro h; cases h)
    · intro o ho c'; simp only [List.mem_cons, List.not_mem_nil, or_false] at ho; rcases ho with rfl | rfl | rfl | rfl | rfl <;> (intro h; cases h)
    · refine WL.alloc 5 guard_none hz rfl (fun b5 => WL.storeLA 5 guard_none hsz rfl rfl rfl hzc (hen x) (hone x) (WL.nil ?_))
      intro a1 v1 ha1 hs2
      refine ⟨rfl, _, _, _, ha1, hs2, rfl, ?_⟩
      refine WL.y0' guard_none (Y0.loadL 2 hS rfl rfl rfl) rfl (WL.y0' guard_none (Y0.loadLA 5 hK rfl rfl (hen x)) rfl ?_)
      refine WL.litR (e := e) (r := r) (vs := #[(0, .agg (enc x))]) (cs := (enc x).toList) ([x] : List K) guard_none rfl rfl rfl rfl (by decide) (fun w => hlit x w) (RepL.single (hrep _ x)) (key := 999) rfl rfl (fun q G2 hle hq => ?_)
      refine WL.appendT (r := r) (e := e) 7000 guard_none rfl hu hE hzs hby rfl rfl (h2.mono hle) rfl hq (by simp only [List.length_append, List.length_cons, List.length_nil]; omega) (fun p' c' tk' hrow => ?_)
      refine WL.storeL 2 #[.slice p' (pre ++ [x]).length c'] guard_none hSz rfl rfl rfl (by simp) rfl rfl (WL.nil ?_)
      exact fun a2 v2 _ hs3 => ⟨rfl, _, _, hs3, rfl, hle, p', c', tk', Lo.sub_cons rfl (Lo.sub_cons rfl (Lo.sub_nil _)), hrow⟩
    · rintro e' W2 ⟨e1, G2, L2, hx, hle, p', c', tk', hsub, hrow⟩
      refine ⟨e1, ⟨G2, p', c', tk', ?_, hrow⟩, ⟨hx.size, fun k o hk ho => ?_⟩⟩
      · refine h1.ext (R := [(8002, some ⟨w1.heap.size, .deferred (some []), 0⟩)]) hx hL1 (Lo.sub_cons rfl (Lo.sub_nil _)) (fun i y hy => ?_) (fun _ _ _ _ _ z hz' => by simp [Lo.get] at hz') (fun i y hy => ?_)
        · rw [Lo.get_cons] at hy
          split at hy
          · rename_i hi'; subst hi'; rfl
          · simp [Lo.get] at hy
        · rw [Lo.get_cons] at hy
          split at hy
          · rename_i hi'; subst hi'; left; rw [Lo.get_cons, if_pos rfl]; exact hy
          · rename_i hi1
            rw [Lo.get_cons] at hy
            split at hy
            · rename_i hi2; right; rw [Lo.get_cons, if_pos hi2]; exact hy
            · left; rw [Lo.get_cons, if_neg hi1]; exact hsub i y hy
      · refine (hx.block k (Array.getElem?_eq_some_iff.1 hk).1 (fun i y hy hyk => ?_)).trans hk
        have hyo := (h1.loc i y (hL1 i y hy)).1
        rw [hyk, hk] at hyo
        have hoo : y.o.isWalk = true := by cases hyo; exact ho
        simp only [L1, Lo.get_cons] at hy
        split at hy
        · cases hy; cases hoo
        · split at hy
          · cases hy; cases hoo
          · split at hy
            · cases tk with
              | none => cases hy
              | some q =>
                cases hy
                obtain ⟨_, _, _, _, e2, _⟩ := h2
                rw [e2] at hoo; cases hoo
            · simp [Lo.get] at hy
  · obtain ⟨⟨v0, rfl⟩, xs, hSx, G', p, c, tk, h1, h2⟩ := hq
    have hend := run_endLoop (P := P) (h1.loc 8001 _ rfl).1 (by simp [rec'])
    have h3 := h1.putLoop (r' := { rec' with state := .exhausted }) (key := 8001) rfl
    refine ⟨none, _, hend, ?_⟩
    refine wp_seq (wp_region_lit ?_)
    have hc := cell_of_row _ B 0 _ tS (0, 0) (h3.loc 2 _ rfl).1
    have hc' := run_loadVar_scal (P := P) hS (hc.trans rfl)
    unfold wpList
    rw [if_pos (by rfl)]
    refine .inl ?_
    have r1 : (execOp ({ a with defers := [{ target := .collected w1.heap.size, args := #[] }] ++ a.defers } : Act).eval ⟨some 12, .load tS (.tmp 2), y12, p12, a12, none⟩).run P (W2.putObj (w1.heap.size + 1) (.loop { rec' with state := .exhausted })) = .ok (.value (.slice p xs.length c)) (W2.putObj (w1.heap.size + 1) (.loop { rec' with state := .exhausted })) := by
      have e9 := ha.here 2 (.pointer (some ⟨B, 0, none⟩)) rfl
      simp [execOp, Act.eval, e9, Instr.loadAt, Instr.sureAddr, hc']
    unfold Oper.wp
    rw [r1]
    show wpList _ _ _ _ _ _
    unfold wpList
    rw [if_pos (by rfl)]
    refine .inl ?_
    have hsz : a.tmps.size = 13 := ha.size
    have r2 : (execOp ((({ a with defers := [{ target := .collected w1.heap.size, args := #[] }] ++ a.defers } : Act).put (some 12) (.slice p xs.length c))).eval ⟨some 4, .assign (.tmp 12), y14, p14, a14, none⟩).run P (W2.putObj (w1.heap.size + 1) (.loop { rec' with state := .exhausted })) = .ok (.value (.slice p xs.length c)) (W2.putObj (w1.heap.size + 1) (.loop { rec' with state := .exhausted })) := by
      simp [execOp, Act.eval, Act.put, hsz]
    unfold Oper.wp
    rw [r2]
    refine wp_ret ?_
    show LeavesInM _ _ _ _ _ _ _ _ _
    have e3 : ((({ a with defers := [{ target := .collected w1.heap.size, args := #[] }] ++ a.defers } : Act).put (some 12) (.slice p xs.length c)).put (some 4) (.slice p xs.length c)).defers = [{ target := .collected w1.heap.size, args := #[] }] := by
      simp [Act.put, ha.defers]
    rw [e3]
    refine ⟨by simp, .inl ⟨_, _, rfl, run_takeDeferred (h3.loc 8002 _ rfl).1, ?_⟩⟩
    refine ⟨.slice p xs.length c, ?_, ?_⟩
    · rw [results_tmp hr]
      simp [Act.put, hsz]
    · refine ⟨_, G', [(7000, tk)], rfl, ?_, xs, p, c, tk, rfl, rfl, h2, hSx⟩
      have hdl := (Array.getElem?_eq_some_iff.1 (h3.loc 8002 _ rfl).1).1
      have h4 := h3.upd (i := 8002) (m' := 0) (w' := World.putObj _ w1.heap.size (.deferred none)) rfl (World.putObj_heap_same hdl) (Nat.le_refl _) (fun k _ hk => absurd hk (Nat.not_lt_zero k)) (fun k hk => World.putObj_heap_other hk) rfl rfl rfl rfl (by simp)
      exact (h4.weaken (Lo.sub_cons rfl (Lo.sub_nil _))).toExt
/-- slices.AppendSeq(nil, seq), at elements of one cell. -/
theorem appS {f g : Nat} {fn : Func} {lb : Array Value} {tS e : TypeId} {bytes N : Nat} {z : Value} {enc : K → Value} {ok : K → Prop} {r : Rp K} {Sx : List K → Prop} {i0 i1 i2 i3 i4 : Nat} {y2 y4 y6 y5 y8 y9 y10 y11 y13 y12 y14 : TypeId} {p2 p4 p6 p5 p8 p9 p10 p11 p13 p12 p14 : String} {a2 a4 a6 a5 a8 a9 a10 a11 a13 a12 a14 : Array Edge}
    (hf : P.funcs[f]? = some fn)
    (hb : fn.body = some (.seq (.region i0 #[⟨some 2, .box tS (.tmp 0), y2, p2, a2, none⟩, ⟨some 4, .assign (.const (.slice none 0 0)), y4, p4, a4, none⟩] false)
      (.seq (.seq (.region i1 #[⟨some 6, .move (.tmp 1), y6, p6, a6, none⟩] false) (.block 0 (.rangeFunc (.tmp 6) #[7] (.region i2 #[⟨some 5, .assign (.tmp 7), y5, p5, a5, none⟩] false) (.block 1 (.region i3 #[⟨some 8, .load tS (.tmp 2), y8, p8, a8, none⟩, ⟨some 9, .move (.tmp 5), y9, p9, a9, none⟩, ⟨some 10, .buildSlice tS 1 #[(0, .tmp 9)], y10, p10, a10, none⟩, ⟨some 11, .call ⟨.builtin .append, #[.tmp 8, .tmp 10], #[tS, tS]⟩, y11, p11, a11, none⟩, ⟨none, .store tS (.tmp 2) (.tmp 11), y13, p13, a13, none⟩] false)))))
        (.seq (.region i4 #[⟨some 12, .load tS (.tmp 2), y12, p12, a12, none⟩, ⟨some 4, .assign (.tmp 12), y14, p14, a14, none⟩] false) .ret))))
    (hN : fn.ntmps = 13) (hr : fn.results = #[.tmp 4]) (hS : ScalT P tS) (hSz : (P.info? tS).map (·.size) = some 1) (hu : P.underlying tS = some (.slice e)) (hE : ElT P e z r.size bytes) (hzs : z.cells.size = r.size) (hby : bytes ≤ 100000) 
    (hrep : ∀ G x, r.rep G [enc x] x) (hlit : ∀ x w, (Instr.buildSlice tS 1 #[(0, enc x)]).run P w = .ok (.slice (some ⟨w.heap.size, 0, none⟩) 1 1) (w.alloc (.cells [enc x].toArray e)))
    (hg : ∀ args w, (callFunc g args).run P w = .ok (.enter g args) w) (hNs : N ≤ small) {w : World} {G : Mem} (hi : Imm G w) (hG : Gives P g lb (fun x => enc x) ok Sx N w) :
    Calls P f #[.slice none 0 0, .func (.func g) #[] lb] w (RetL ⟨w, []⟩ G (fun G' L' v => ∃ xs p c tk, L' = [(7000, tk)] ∧ v = .slice p xs.length c ∧ RowR r e G' v xs tk ∧ Sx xs)) := by
  refine (callsIn_wide (n := 0)).1 (callsIn_of_wp_marks hf hb trivial ((wpIn_wide (n := 0)).2 ?_))
  have hHp : Hp G [] w := ⟨hi, by intro _ _ h; simp [Lo.get] at h, by intro _ _ _ _ _ h; simp [Lo.get] at h⟩
  suffices hwc : WC P 13 _ (bodyPostM Fence.wide 0 P fn (RetL ⟨w, []⟩ G (fun G' L' v => ∃ xs p c tk, L' = [(7000, tk)] ∧ v = .slice p xs.length c ∧ RowR r e G' v xs tk ∧ Sx xs))) (argFr [.slice none 0 0, .func (.func g) #[] lb] 0) (St ⟨w, []⟩ G G []) by
    refine hwc _ w ⟨rfl, by rw [hN]; rfl, fun t v hv => ?_⟩ hHp.st
    obtain ⟨_, h2⟩ := argFr_get _ 0 t v hv
    simp only [Nat.sub_zero] at h2
    have hlt := (List.getElem?_eq_some_iff.1 h2).1
    rw [Array.getElem?_append_left (by simpa using hlt)]
    simpa using h2
  refine WC.seq (WC.region (WL.box 2 guard_none rfl rfl (fun B => WL.y0' guard_none (Y0.assign rfl) rfl (WL.nil (WE.then (WC.seq (WC.seq (WC.region (WL.y0' guard_none (Y0.move rfl) rfl (WL.nil (WE.then (WC.block ?_)))))))))))) 
  intro a w1 ha hs
  refine (wpIn_wide (n := 0)).1 (wpIn_rangeFunc ?_)
  intro fnid _
  let rec' : Loop := { state := .ready, pending := none, fn := fnid, tmps := a.tmps, params := #[7], assign := .region i2 #[⟨some 5, .assign (.tmp 7), y5, p5, a5, none⟩] false, body := .block 1 (.region i3 #[⟨some 8, .load tS (.tmp 2), y8, p8, a8, none⟩, ⟨some 9, .move (.tmp 5), y9, p9, a9, none⟩, ⟨some 10, .buildSlice tS 1 #[(0, .tmp 9)], y10, p10, a10, none⟩, ⟨some 11, .call ⟨.builtin .append, #[.tmp 8, .tmp 10], #[tS, tS]⟩, y11, p11, a11, none⟩, ⟨none, .store tS (.tmp 2) (.tmp 11), y13, p13, a13, none⟩] false), defers := w1.heap.size }
  have hs1 : St ⟨w, []⟩ G G _ ((w1.alloc (.deferred (some []))).alloc (.loop rec')) := (hs.push 8002 (.deferred (some []))).push 8001 (.loop rec')
  have hl1 : (w1.alloc (.deferred (some []))).heap.size = w1.heap.size + 1 := by simp
  rw [hl1] at hs1
  refine ⟨w1.heap.size + 1, [{ target := .collected w1.heap.size, args := #[] }], ((w1.alloc (.deferred (some []))).alloc (.loop rec')), { target := .fn (.func g) lb, args := #[.func (.yield (w1.heap.size + 1)) #[] #[]] }, ((w1.alloc (.deferred (some []))).alloc (.loop rec')), g, #[.func (.yield (w1.heap.size + 1)) #[] #[]] ++ lb, ((w1.alloc (.deferred (some []))).alloc (.loop rec')), run_enterLoop_outer _ _ _ _ _, ?_, fun _ _ => trivial, ?_, fun h => by simp [Fence.wide] at h, ?_⟩
  · have e6 := ha.here 6 (.func (.func g) #[] lb) rfl
    simp [resolve, rangeCall, Deferred.ofValue, Act.eval, e6]
  · simp [invoke, hg]
  refine (callsIn_wide (n := 0)).2 ?_
  let J : List K → World → Prop := fun xs W => ∃ G' p c tk, St ⟨w, []⟩ G G' [(8001, some ⟨w1.heap.size + 1, .loop rec', 0⟩), (8002, some ⟨w1.heap.size, .deferred (some []), 0⟩), (2, some ⟨B, .cells #[.slice p xs.length c] tS (0, 0), 0⟩), (7000, tk)] W ∧ RowR r e G' (.slice p xs.length c) xs tk
  have hrn : RowR r e G (.slice none 0 0) ([] : List K) none := RowR.nil
  refine Calls.mono (hG (w1.heap.size + 1) J _ (fun k o hk => ?_) (fun xs W1 W2 hJ hst => ?_) (fun pre x W1 hJ hok hlen => ?_) ⟨G, none, 0, none, hs1.weaken (Lo.sub_cons rfl (Lo.sub_cons rfl (Lo.sub_cons rfl (Lo.sub_no (Lo.sub_nil _))))), hrn⟩) (fun en W2 hq => ?_)
  · have hk' := (Array.getElem?_eq_some_iff.1 hk).1
    rw [hs1.block k hk' (fun _ _ h => by simp [Lo.get] at h)]; exact hk
  · obtain ⟨G', p, c, tk, h1, h2⟩ := hJ
    refine ⟨G', p, c, tk, h1.stp hst ?_ (fun i x hx => ?_), h2⟩
    · have := hs1.size; exact this
    · simp only [Lo.get_cons] at hx
      split at hx
      · cases hx; rfl
      · split at hx
        · cases hx; rfl
        · split at hx
          · cases hx; rfl
          · split at hx
            · cases tk with
              | none => cases hx
              | some y =>
                cases hx
                obtain ⟨_, _, _, _, e2, _⟩ := h2
                rw [e2]; rfl
            · simp [Lo.get] at hx
  · obtain ⟨G1, p, c, tk, h1, h2⟩ := hJ
    have hlb := (h1.loc 8001 _ rfl).1
    refine ⟨fnid, a.tmps.setIfInBounds 7 (enc x), rec'.assign, rec'.body, (by simpa [rec'] using run_yield (P := P) (args := #[enc x]) hlb rfl), ?_⟩
    let L1 : Lo := [(8001, some ⟨w1.heap.size + 1, .loop rec', 0⟩), (2, some ⟨B, .cells #[.slice p pre.length c] tS (0, 0), 0⟩), (7000, tk)]
    have hL1 : Lo.sub L1 [(8001, some ⟨w1.heap.size + 1, .loop rec', 0⟩), (8002, some ⟨w1.heap.size, .deferred (some []), 0⟩), (2, some ⟨B, .cells #[.slice p pre.length c] tS (0, 0), 0⟩), (7000, tk)] := Lo.sub_cons rfl (Lo.sub_cons rfl (Lo.sub_cons rfl (Lo.sub_nil _)))
    have hrel : Rel 13 [(2, .pointer (some ⟨B, 0, none⟩)), (7, enc x)] ⟨a.tmps.setIfInBounds 7 (enc x), []⟩ := by
      refine ⟨rfl, by simpa using ha.size, fun t v hv => ?_⟩
      rw [Fr.get_cons] at hv
      split at hv
      · rename_i ht; subst ht; cases hv
        rw [Array.getElem?_setIfInBounds_ne (by decide)]
        exact ha.here 2 _ rfl
      · rw [Fr.get_cons] at hv
        split at hv
        · rename_i ht; subst ht; cases hv
          rw [Array.getElem?_setIfInBounds_self_of_lt (by rw [ha.size]; decide)]
        · simp [Fr.get] at hv
    refine (round_of (P := P) (N := 13) (opsA := [⟨some 5, .assign (.tmp 7), y5, p5, a5, none⟩]) (opsB := [⟨some 8, .load tS (.tmp 2), y8, p8, a8, none⟩, ⟨some 9, .move (.tmp 5), y9, p9, a9, none⟩, ⟨some 10, .buildSlice tS 1 #[(0, .tmp 9)], y10, p10, a10, none⟩, ⟨some 11, .call ⟨.builtin .append, #[.tmp 8, .tmp 10], #[tS, tS]⟩, y11, p11, a11, none⟩, ⟨none, .store tS (.tmp 2) (.tmp 11), y13, p13, a13, none⟩]) (post := fun G2 L2 => Mem.le G1 G2 ∧ ∃ p' c' tk', Lo.sub [(2, some ⟨B, .cells #[.slice p' (pre ++ [x]).length c'] tS (0, 0), 0⟩), (7000, tk')] L2 ∧ RowR r e G2 (.slice p' (pre ++ [x]).length c') (pre ++ [x]) tk') rfl rfl rfl rfl ?_ ?_ hrel (h1.hp hL1) rfl ?_).mono ?_
    · intro o ho c'; simp only [List.mem_cons, List.not_mem_nil, or_false] at ho; subst ho; (intro h; cases h)
    · intro o ho c'; simp only [List.mem_cons, List.not_mem_nil, or_false] at ho; rcases ho with rfl | rfl | rfl | rfl | rfl <;> (intro h; cases h)
    · refine WL.y0' guard_none (Y0.assign rfl) rfl (WL.nil ?_)
      intro a1 v1 ha1 hs2
      refine ⟨rfl, _, _, _, ha1, hs2, rfl, ?_⟩
      refine WL.y0' guard_none (Y0.loadL 2 hS rfl rfl rfl) rfl (WL.y0' guard_none (Y0.move rfl) rfl ?_)
      refine WL.litR (e := e) (r := r) (vs := #[(0, enc x)]) (cs := [enc x]) ([x] : List K) guard_none rfl rfl rfl rfl (by decide) (fun w => hlit x w) (RepL.single (hrep _ x)) (key := 999) rfl rfl (fun q G2 hle hq => ?_)
      refine WL.appendT (r := r) (e := e) 7000 guard_none rfl hu hE hzs hby rfl rfl (h2.mono hle) rfl hq (by simp only [List.length_append, List.length_cons, List.length_nil]; omega) (fun p' c' tk' hrow => ?_)
      refine WL.storeL 2 #[.slice p' (pre ++ [x]).length c'] guard_none hSz rfl rfl rfl (by simp) rfl rfl (WL.nil ?_)
      exact fun a2 v2 _ hs3 => ⟨rfl, _, _, hs3, rfl, hle, p', c', tk', Lo.sub_cons rfl (Lo.sub_cons rfl (Lo.sub_nil _)), hrow⟩
    · rintro e' W2 ⟨e1, G2, L2, hx, hle, p', c', tk', hsub, hrow⟩
      refine ⟨e1, ⟨G2, p', c', tk', ?_, hrow⟩, ⟨hx.size, fun k o hk ho => ?_⟩⟩
      · refine h1.ext (R := [(8002, some ⟨w1.heap.size, .deferred (some []), 0⟩)]) hx hL1 (Lo.sub_cons rfl (Lo.sub_nil _)) (fun i y hy => ?_) (fun _ _ _ _ _ z hz' => by simp [Lo.get] at hz') (fun i y hy => ?_)
        · rw [Lo.get_cons] at hy
          split at hy
          · rename_i hi'; subst hi'; rfl
          · simp [Lo.get] at hy
        · rw [Lo.get_cons] at hy
          split at hy
          · rename_i hi'; subst hi'; left; rw [Lo.get_cons, if_pos rfl]; exact hy
          · rename_i hi1
            rw [Lo.get_cons] at hy
            split at hy
            · rename_i hi2; right; rw [Lo.get_cons, if_pos hi2]; exact hy
            · left; rw [Lo.get_cons, if_neg hi1]; exact hsub i y hy
      · refine (hx.block k (Array.getElem?_eq_some_iff.1 hk).1 (fun i y hy hyk => ?_)).trans hk
        have hyo := (h1.loc i y (hL1 i y hy)).1
        rw [hyk, hk] at hyo
        have hoo : y.o.isWalk = true := by cases hyo; exact ho
        simp only [L1, Lo.get_cons] at hy
        split at hy
        · cases hy; cases hoo
        · split at hy
          · cases hy; cases hoo
          · split at hy
            · cases tk with
              | none => cases hy
              | some q =>
                cases hy
                obtain ⟨_, _, _, _, e2, _⟩ := h2
                rw [e2] at hoo; cases hoo
            · simp [Lo.get] at hy
  · obtain ⟨⟨v0, rfl⟩, xs, hSx, G', p, c, tk, h1, h2⟩ := hq
    have hend := run_endLoop (P := P) (h1.loc 8001 _ rfl).1 (by simp [rec'])
    have h3 := h1.putLoop (r' := { rec' with state := .exhausted }) (key := 8001) rfl
    refine ⟨none, _, hend, ?_⟩
    refine wp_seq (wp_region_lit ?_)
    have hc := cell_of_row _ B 0 _ tS (0, 0) (h3.loc 2 _ rfl).1
    have hc' := run_loadVar_scal (P := P) hS (hc.trans rfl)
    unfold wpList
    rw [if_pos (by rfl)]
    refine .inl ?_
    have r1 : (execOp ({ a with defers := [{ target := .collected w1.heap.size, args := #[] }] ++ a.defers } : Act).eval ⟨some 12, .load tS (.tmp 2), y12, p12, a12, none⟩).run P (W2.putObj (w1.heap.size + 1) (.loop { rec' with state := .exhausted })) = .ok (.value (.slice p xs.length c)) (W2.putObj (w1.heap.size + 1) (.loop { rec' with state := .exhausted })) := by
      have e9 := ha.here 2 (.pointer (some ⟨B, 0, none⟩)) rfl
      simp [execOp, Act.eval, e9, Instr.loadAt, Instr.sureAddr, hc']
    unfold Oper.wp
    rw [r1]
    show wpList _ _ _ _ _ _
    unfold wpList
    rw [if_pos (by rfl)]
    refine .inl ?_
    have hsz : a.tmps.size = 13 := ha.size
    have r2 : (execOp ((({ a with defers := [{ target := .collected w1.heap.size, args := #[] }] ++ a.defers } : Act).put (some 12) (.slice p xs.length c))).eval ⟨some 4, .assign (.tmp 12), y14, p14, a14, none⟩).run P (W2.putObj (w1.heap.size + 1) (.loop { rec' with state := .exhausted })) = .ok (.value (.slice p xs.length c)) (W2.putObj (w1.heap.size + 1) (.loop { rec' with state := .exhausted })) := by
      simp [execOp, Act.eval, Act.put, hsz]
    unfold Oper.wp
    rw [r2]
    refine wp_ret ?_
    show LeavesInM _ _ _ _ _ _ _ _ _
    have e3 : ((({ a with defers := [{ target := .collected w1.heap.size, args := #[] }] ++ a.defers } : Act).put (some 12) (.slice p xs.length c)).put (some 4) (.slice p xs.length c)).defers = [{ target := .collected w1.heap.size, args := #[] }] := by
      simp [Act.put, ha.defers]
    rw [e3]
    refine ⟨by simp, .inl ⟨_, _, rfl, run_takeDeferred (h3.loc 8002 _ rfl).1, ?_⟩⟩
    refine ⟨.slice p xs.length c, ?_, ?_⟩
    · rw [results_tmp hr]
      simp [Act.put, hsz]
    · refine ⟨_, G', [(7000, tk)], rfl, ?_, xs, p, c, tk, rfl, rfl, h2, hSx⟩
      have hdl := (Array.getElem?_eq_some_iff.1 (h3.loc 8002 _ rfl).1).1
      have h4 := h3.upd (i := 8002) (m' := 0) (w' := World.putObj _ w1.heap.size (.deferred none)) rfl (World.putObj_heap_same hdl) (Nat.le_refl _) (fun k _ hk => absurd hk (Nat.not_lt_zero k)) (fun k hk => World.putObj_heap_other hk) rfl rfl rfl rfl (by simp)
      exact (h4.weaken (Lo.sub_cons rfl (Lo.sub_nil _))).toExt
end
end Go.EL
/- Keys of maps; slices.Collect(maps.Keys(m)). The conditions stand in each statement. -/
namespace Go.EL
open Go Go.RowKit Go.Proofs Go.MapKept

theorem vecG_inj {α : Type} {mk : α → Value} (hm : ∀ x y, mk x = mk y → x = y) {n : Nat} {f g : Fin n → α} (h : vecG mk n f = vecG mk n g) : f = g := by
  funext i
  have h1 := vecG_get mk n f i.isLt
  have h2 := vecG_get mk n g i.isLt
  rw [h, h2] at h1
  exact (hm _ _ (Option.some.inj h1)).symm
theorem mapM_some {α β : Type} {f : α → Option β} : ∀ {l : List α}, (∀ x ∈ l, ∃ y, f x = some y) → ∃ ys, l.mapM f = some ys
  | [], _ => ⟨[], rfl⟩
  | x :: l, h => by
    obtain ⟨y, hy⟩ := h x (by simp)
    obtain ⟨ys, hys⟩ := mapM_some (l := l) (fun z hz => h z (by simp [hz]))
    exact ⟨y :: ys, by simp [List.mapM_cons, hy, hys]⟩
/-- Integers as keys. -/
def Ky.int {P : Program} {kt : TypeId} {ik : IntKind} (hu : P.underlying kt = some (.int ik)) : Ky P kt Int where
  enc x := .int ik x
  ok x := (Lit.int ik x).wf = true
  inj h := by cases h; rfl
  lit h := ⟨_, Go.Maps.keyOf_int_mk hu h⟩
  keyed := Go.Maps.int_keyed hu
/-- Arrays of integers as keys. -/
def Ky.arr {P : Program} {kt e : TypeId} {ik : IntKind} {n : Nat} (hu : P.underlying kt = some (.array n e)) (he : P.underlying e = some (.int ik)) (hkt : P.keyType kt = true) (hc : P.cellsOf kt = n) (hce : P.cellsOf e = 1) (hl : laidOutB P = true) (hrow : kt < P.types.size) (hk2 : P.keyTypeAt 2 kt = true) : Ky P kt (Fin n → Int) where
  enc m := .agg (vecG (Value.int ik) n m).toArray
  ok m := ∀ i, (Lit.int ik (m i)).wf = true
  inj h := vecG_inj (mk := Value.int ik) (fun x y e => by cases e; rfl) (by simpa using h)
  lit {m} h := by
    have hlen : (vecG (Value.int ik) n m).length = n := vecG_length _ _ _
    have hform : (Value.agg (vecG (Value.int ik) n m).toArray).formed P kt = true := by simp [Value.formed, hu, hc, hlen]
    obtain ⟨d, hd⟩ : ∃ d, P.types.size = d + 1 := ⟨P.types.size - 1, by have := Nat.lt_of_le_of_lt (Nat.zero_le _) hrow; omega⟩
    have hm : ∃ ys, (List.range n).mapM (fun i => P.keyLits P.types.size e (((vecG (Value.int ik) n m).drop (i * P.cellsOf e)).take (P.cellsOf e))) = some ys := by
      refine mapM_some fun i hi => ?_
      have hi : i < n := by simpa using hi
      have hg := vecG_get (Value.int ik) n m hi
      have e1 : ((vecG (Value.int ik) n m).drop (i * P.cellsOf e)).take (P.cellsOf e) = [.int ik (m ⟨i, hi⟩)] := by
        rw [hce, Nat.mul_one, List.take_one, List.head?_drop, hg]; rfl
      rw [e1, hd]
      exact ⟨[.int ik (m ⟨i, hi⟩)], by simp [Program.keyLits, he, h ⟨i, hi⟩]⟩
    obtain ⟨ys, hys⟩ := hm
    refine ⟨.string (keyBytes ys.flatten), ?_⟩
    have hk1 : P.keyLits (P.types.size + 1) kt (vecG (Value.int ik) n m) = some ys.flatten := by
      simp only [Program.keyLits, hu, hc, hlen, if_true, hys, Option.map_some]
    simp [keyOf, hu, hkt, hform, Value.cells, hk1]
  keyed := Go.Maps.Keyed.of_law (deep_law_laid hl (m := 2) (by omega) hrow hk2 (by rw [hu]))

/-- What a call has not been lent comes back as it was. -/
theorem Ext.frame {w w' : World} {G G' : Mem} {L0 L' : Lo} (h : Ext w G [] w' G' L') (hp : Hp G L0 w) (hd : ∀ i x, L'.get i = some x → L0.get i = none) : Ext w G L0 w' G' (L' ++ L0) := by
  have get : ∀ i x, Lo.get (L' ++ L0) i = some x → L'.get i = some x ∨ L0.get i = some x := fun i x hx => Lo.get_append L' L0 i x hx
  have nb : ∀ i x, L'.get i = some x → w.heap.size ≤ x.b := fun i x hx => by
    rcases (h.loc i x hx).2.1 with ⟨y, hy, _⟩ | h'
    · simp [Lo.get] at hy
    · exact h'
  have lt : ∀ i x, L0.get i = some x → x.b < w.heap.size := fun i x hx => (Array.getElem?_eq_some_iff.1 (hp.loc i x hx).1).1
  refine ⟨h.os, h.tape, h.output, h.drawn, h.size, fun k hk _ => h.block k hk (fun _ _ e => by simp [Lo.get] at e), h.le, h.imm, fun b o v hv => ?_, fun i x hx => ?_, fun i j x y hne hx hy => ?_⟩
  · rcases h.fresh b o v hv with h' | h' | h'
    · exact .inl h'
    · exact .inr (.inl h')
    · exact (Lo.own_nil h').elim
  · rcases get i x hx with hx | hx
    · exact ⟨(h.loc i x hx).1, .inr (nb i x hx), (h.loc i x hx).2.2⟩
    · refine ⟨by rw [h.block x.b (lt i x hx) (fun _ _ e => by simp [Lo.get] at e)]; exact (hp.loc i x hx).1, .inl ⟨x, hx, rfl⟩, fun k hk => ?_⟩
      cases hg : G' x.b k with
      | none => rfl
      | some v =>
        rcases h.fresh x.b k v hg with h' | h' | h'
        · rw [(hp.loc i x hx).2 k hk] at h'; cases h'
        · have := lt i x hx; omega
        · exact (Lo.own_nil h').elim
  · rcases get i x hx with hx | hx <;> rcases get j y hy with hy | hy
    · exact h.dist i j x y hne hx hy
    · have := nb i x hx; have := lt j y hy; omega
    · have := lt i x hx; have := nb j y hy; omega
    · exact hp.dist i j x y hne hx hy

theorem perm_of_map {K V : Type} {enc : K → Value} (hinj : ∀ {x y}, enc x = enc y → x = y) {xs ys : List K} (h : (xs.map enc).Perm (ys.map enc)) : xs.Perm ys := by
  classical
  let inv : Value → Option K := fun v => if h : ∃ k, enc k = v then some h.choose else none
  have hi : ∀ l : List K, (l.map enc).filterMap inv = l := by
    intro l
    induction l with
    | nil => rfl
    | cons x l ih =>
      have : inv (enc x) = some x := by
        have hx : ∃ k, enc k = enc x := ⟨x, rfl⟩
        simp only [inv, dif_pos hx]
        rw [hinj hx.choose_spec]
      simp only [List.map_cons, List.filterMap_cons, this, ih]
  have := h.filterMap inv
  rwa [hi, hi] at this
theorem MapL.keys {K V : Type} {enc : K → Value} {Rv : K → Value → V → Prop} : ∀ {es : List MapEntry} {D : List (K × V)}, MapL enc Rv es D → es.map (·.key) = (D.map (·.1)).map enc
  | [], [], _ => rfl
  | _ :: _, _ :: _, h => by simp only [List.map_cons, List.cons.injEq]; exact ⟨h.1, MapL.keys h.2.2⟩
  | [], _ :: _, h => by cases h
  | _ :: _, [], h => by cases h

theorem Lo.sub_app : ∀ (A B : Lo), Lo.sub A (A ++ B)
  | [], _ => Lo.sub_nil _
  | p :: A, B => fun i x h => by
    obtain ⟨j, y⟩ := p
    rw [List.cons_append, Lo.get_cons]
    rw [Lo.get_cons] at h
    split at h
    · rename_i e; rw [if_pos e]; exact h
    · rename_i e; rw [if_neg e]; exact Lo.sub_app A B i x h

/-- A map of the call's own, in a box that never changes: what its keys' iterator gives. -/
def KeysOf {K V : Type} (D : List (K × V)) (xs : List K) : Prop := xs.Perm (D.map (·.1))
section
variable {P : Program} {K V : Type} {kt : TypeId}
/-- A contract of slices.AppendSeq(nil, maps.Keys(m)). -/
def CollectsL (P : Program) (f : FuncId) (lead : Array Value) (g : FuncId) (ky : Ky P kt K) (r : Rp K) (e : TypeId) : Prop :=
  ∀ {V : Type} (Rv : K → Value → V → Prop) (v : Value) (D : List (K × V)) (tk : Option Ow) (bm kk : Nat), kk ≠ 7000 ∧ kk ≠ 5000 → MapR ky Rv v D tk →
    CtrL P f (lead.push (.func (.func g) #[] #[.pointer (some ⟨bm, 0, none⟩)])) [(kk, tk)] (fun G => G bm 0 = some v) (fun G L u => ∃ xs p c tk2, L = [(7000, tk2), (kk, tk)] ∧ u = .slice p xs.length c ∧ RowR r e G u xs tk2 ∧ xs.Perm (D.map (·.1)))
theorem collects_of {f g : FuncId} {ky : Ky P kt K} {r : Rp K} {e : TypeId}
    (happ : ∀ {w : World} {G : Mem} {lb : Array Value} {Sx : List K → Prop} {N : Nat}, N ≤ small → Imm G w → Gives P g lb ky.enc ky.ok Sx N w → Calls P f #[.slice none 0 0, .func (.func g) #[] lb] w (RetL ⟨w, []⟩ G (fun G' L' v => ∃ xs p c tk, L' = [(7000, tk)] ∧ v = .slice p xs.length c ∧ RowR r e G' v xs tk ∧ Sx xs)))
    (hkeys : ∀ {w : World} {Bm b : Nat} {es : Array MapEntry} {clock : Nat}, w.cell? ⟨Bm, 0, none⟩ = some (.map (some b)) → w.heap[b]? = some (.map es clock) → Stamped es clock → (∀ en ∈ es.toList, ∃ x, ky.ok x ∧ en.key = ky.enc x) →
      Gives P g #[.pointer (some ⟨Bm, 0, none⟩)] ky.enc ky.ok (fun xs => ∃ cons : List MapEntry, cons.Perm es.toList ∧ cons.map (·.key) = xs.map ky.enc) es.size w) : CollectsL P f #[.slice none 0 0] g ky r e := by
  intro V Rv v D tk bm kk hkk hmap w G hi hpre
  obtain ⟨b, es, clock, rfl, rfl, h3, h4, h5, h6⟩ := hmap
  have hget : Lo.get [(kk, some (⟨b, .map es clock, 0⟩ : Ow))] kk = some ⟨b, .map es clock, 0⟩ := by rw [Lo.get_cons, if_pos rfl]
  have hb := (hi.loc kk _ hget).1
  have hsz : es.size ≤ small := by have := h5.length; rw [Array.length_toList] at this; omega
  refine (happ hsz hi.imm (hkeys (hi.imm _ _ _ hpre) hb h3 (fun en hen => ?_))).mono ?_
  · obtain ⟨p, hp, hk, _⟩ := h5.key en hen
    exact ⟨p.1, h4 p hp, hk⟩
  · rintro en w' ⟨u, G', L', e1, hx, xs, p, c, tk2, rfl, rfl, hrow, cons, hc1, hc2⟩
    refine ⟨_, G', [(7000, tk2), (kk, _)], e1, hx.frame (L0 := [(kk, some ⟨b, .map es clock, 0⟩)]) hi (fun i x hx' => ?_), xs, p, c, tk2, rfl, rfl, hrow, ?_⟩
    · rw [Lo.get_cons] at hx'
      split at hx'
      · rename_i e2; subst e2; rw [Lo.get_cons, if_neg hkk.1]; rfl
      · simp [Lo.get] at hx'
    · refine perm_of_map (V := V) (fun h => ky.inj h) ?_
      rw [← hc2, ← h5.keys]
      exact hc1.map _
/-- slices.Collect over it. -/
theorem collect {f0 f g : FuncId} {fn : Func} {ky : Ky P kt K} {r : Rp K} {e : TypeId} {i0 i1 : Nat} {y2 y3 y4 y5 : TypeId} {p2 p3 p4 p5 : String} {a2 a3 a4 a5 : Array Edge} {ts : Array TypeId} (h : CollectsL P f0 #[.slice none 0 0] g ky r e) (hE : Enters P f0)
    (hf : P.funcs[f]? = some fn) (hb : fn.body = some (.seq (.region i0 #[⟨some 2, .assign (.const (.slice none 0 0)), y2, p2, a2, none⟩] false)
      (.seq (.region i1 #[⟨some 3, .move (.tmp 0), y3, p3, a3, none⟩, ⟨some 4, .call ⟨.value (.func f0), #[.const (.slice none 0 0), .tmp 3], ts⟩, y4, p4, a4, none⟩, ⟨some 2, .assign (.tmp 4), y5, p5, a5, none⟩] false) .ret)))
    (hN : fn.ntmps = 5) (hr : fn.results = #[.tmp 2]) : CollectsL P f #[] g ky r e := by
  intro V Rv v D tk bm kk hkk hmap
  refine CtrL.enter (args := [_]) (N := 5) hf hb hN rfl (fun w0 G0 hL0 hpre => ?_)
  have hz : w0.L.zero := by rw [hL0]; intro p hp x hx; simp only [List.mem_singleton] at hp; subst hp; exact hmap.zero hx
  refine WC.seq (WC.region (WL.y0' guard_none (Y0.assign rfl) rfl (WL.nil (WE.then (WC.seq (WC.region (WL.y0' guard_none (Y0.move rfl) rfl ?_)))))))
  refine WL.callT guard_none rfl (YC.of hE rfl) (h Rv v D tk bm kk hkk hmap) rfl hpre (Lo.sub_refl _) hz (fun u G' L' hle hpost => ?_)
  obtain ⟨xs, p, c, tk2, rfl, rfl, hrow, hperm⟩ := hpost
  refine WL.y0' guard_none (Y0.assign rfl) rfl (WL.nil (WE.then (WC.ret ?_)))
  refine WE.conseq (S' := St w0 G0 G' [(7000, tk2), (kk, tk)]) (fun w hs => hs.weaken (Lo.sub_app _ _)) ?_
  exact WE.ret1 hr rfl ⟨xs, p, c, tk2, rfl, rfl, hrow, hperm⟩
/-- maps.Keys: the map is boxed, and the box never changes. -/
theorem keysBox {f g : FuncId} {fn : Func} {tM : TypeId} {i0 i1 : Nat} {y1 y2 y3 y4 : TypeId} {p1 p2 p3 p4 : String} {a1 a2 a3 a4 : Array Edge}
    (hf : P.funcs[f]? = some fn) (hb : fn.body = some (.seq (.region i0 #[⟨some 1, .box tM (.tmp 0), y1, p1, a1, none⟩, ⟨some 2, .assign (.const .nilFunc), y2, p2, a2, none⟩] false)
      (.seq (.region i1 #[⟨some 3, .makeFunc (.func g) #[] #[.tmp 1], y3, p3, a3, none⟩, ⟨some 2, .assign (.tmp 3), y4, p4, a4, none⟩] false) .ret))) (hN : fn.ntmps = 4) (hr : fn.results = #[.tmp 2]) (m : Option Nat) :
    Ctr P f #[.map m] (fun _ => True) (fun G u => ∃ bm, u = .func (.func g) #[] #[.pointer (some ⟨bm, 0, none⟩)] ∧ G bm 0 = some (.map m)) := by
  refine Ctr.enter (args := [_]) (N := 4) hf hb hN rfl (fun w0 G0 hL0 _ => ?_)
  refine WC.seq (WC.region (WL.box 1 guard_none rfl rfl (fun bm => WL.y0' guard_none (Y0.assign rfl) rfl (WL.nil (WE.then (WC.seq (WC.region (WL.y0' guard_none (Y0.makeFunc rfl rfl) rfl (WL.y0' guard_none (Y0.assign rfl) rfl (WL.nil (WE.then (WC.ret ?_)))))))))))) 
  intro a w ha hs
  obtain ⟨h1, h2⟩ := hs.know (i := 1) (n := 1) rfl (by rw [hL0]; rfl) (Nat.zero_le _)
  refine (?_ : WE 4 _ .ret _ (St w0 G0 (Mem.row G0 bm #[Value.map m] 0 1) _)) a w ha h1
  exact WE.ret1 hr rfl ⟨bm, rfl, by rw [Mem.row_at (Nat.zero_le _) (by decide)]; rfl⟩
end
end Go.EL
/- Maps in the lifted form: values in one cell; values that may be appended to. The conditions stand in each statement. -/
namespace Go.EL
open Go Go.RowKit Go.Proofs Go.MapKept

/-- A value of one cell. -/
def RvS {K V : Type} (r : Rp V) (G : Mem) : K → Value → V → Prop := fun _ u x => r.rep G [u] x
/-- A slice that may be appended to: the right lies under the key's name. -/
def kcode (x : Int) : Nat := 8000000 + (if 0 ≤ x then 2 * x.toNat else 2 * (-x).toNat + 1)
theorem kcode_ge (x : Int) : 8000000 ≤ kcode x := Nat.le_add_right _ _
theorem kcode_inj {x y : Int} (h : kcode x = kcode y) : x = y := by
  unfold kcode at h
  split at h <;> split at h <;> omega
def RvT {α : Type} (r : Rp α) (e : TypeId) (T : Lo) (G : Mem) : Int → Value → List α → Prop := fun k u l => SlR r G u l ∧ Tok r.size e u l.length (T.get (kcode k))
structure TokM {α : Type} (T : Lo) (D : List (Int × List α)) : Prop where
  high : ∀ i x, T.get i = some x → 8000000 ≤ i
  none : ∀ k, mget D k = none → T.get (kcode k) = none
theorem TokM.nil {α : Type} : TokM [] ([] : List (Int × List α)) := ⟨fun i x h => by simp [Lo.get] at h, fun _ _ => rfl⟩

theorem Lo.get_low {i j : Nat} {x : Option Ow} {L : Lo} (hi : i < 8000000) (hj : 8000000 ≤ j) : Lo.get ((i, x) :: L) j = L.get j := by rw [Lo.get_cons, if_neg (by omega)]
theorem Lo.get_skip : ∀ {A T : Lo}, A.all (fun p => decide (p.1 < 8000000)) = true → ∀ {j : Nat}, 8000000 ≤ j → Lo.get (A ++ T) j = T.get j
  | [], _, _, _, _ => rfl
  | p :: A, T, h, j, hj => by
    simp only [List.all_cons, Bool.and_eq_true, decide_eq_true_eq] at h
    rw [List.cons_append, Lo.get_low (i := p.1) (x := p.2) h.1 hj]
    exact Lo.get_skip h.2 hj
theorem Lo.get_keep : ∀ {A T T' : Lo}, (∀ i x, T.get i = some x → 8000000 ≤ i) → ∀ {j : Nat} {x : Ow}, j < 8000000 → Lo.get (A ++ T) j = some x → Lo.get (A ++ T') j = some x
  | [], T, T', hT, j, x, hj, h => by have := hT j x h; omega
  | p :: A, T, T', hT, j, x, hj, h => by
    obtain ⟨i, y⟩ := p
    rw [List.cons_append, Lo.get_cons] at h ⊢
    split at h
    · rename_i e; rw [if_pos e]; exact h
    · rename_i e; rw [if_neg e]; exact Lo.get_keep hT hj h
theorem Lo.sub_swap {A T : Lo} {k : Nat} {x : Option Ow} (hA : A.all (fun p => decide (p.1 < 8000000)) = true) (hk : 8000000 ≤ k) (hT : ∀ i x, T.get i = some x → 8000000 ≤ i) : Lo.sub (A ++ ((k, x) :: T)) ((k, x) :: (A ++ T)) := by
  intro i y hy
  have hT' : ∀ i y, Lo.get ((k, x) :: T) i = some y → 8000000 ≤ i := fun i y h => by
    rw [Lo.get_cons] at h
    split at h
    · omega
    · exact hT i y h
  by_cases hi : i < 8000000
  · have := Lo.get_keep (T' := T) hT' hi hy
    rw [Lo.get_cons, if_neg (by omega)]
    exact this
  · rw [Lo.get_skip hA (by omega)] at hy
    rw [Lo.get_cons] at hy ⊢
    split at hy
    · rename_i e; rw [if_pos e]; exact hy
    · rename_i e; rw [if_neg e, Lo.get_skip hA (by omega)]; exact hy
theorem Lo.none_low {T : Lo} (hT : ∀ i x, T.get i = some x → 8000000 ≤ i) {i : Nat} (hi : i < 8000000) : T.get i = none := by
  cases h : T.get i with
  | none => rfl
  | some x => have := hT i x h; omega
/-- The tail of rights stays behind whatever has a low name. -/
theorem Lo.sub_low {T L : Lo} {i : Nat} {x : Option Ow} (hT : ∀ i x, T.get i = some x → 8000000 ≤ i) (hi : i < 8000000) (h : Lo.sub T L) : Lo.sub T ((i, x) :: L) := fun j y hy => by
  rw [Lo.get_cons, if_neg (by have := hT j y hy; omega)]
  exact h j y hy

section
variable {P : Program} {kt : TypeId} {K V : Type} {ky : Ky P kt K} {r : Rp V} {G G' : Mem}
theorem MapR.mono {v : Value} {D : List (K × V)} {tk : Option Ow} (h : MapR ky (RvS r G) v D tk) (hle : Mem.le G G') : MapR ky (RvS r G') v D tk := h.imp fun _ _ _ h => r.mono hle h
end
section
variable {P : Program} {kt : TypeId} {α : Type} {ky : Ky P kt Int} {r : Rp α} {e : TypeId} {G G' : Mem} {T : Lo}
theorem MapR.monoT {v : Value} {D : List (Int × List α)} {tk : Option Ow} (h : MapR ky (RvT r e T G) v D tk) (hle : Mem.le G G') : MapR ky (RvT r e T G') v D tk := h.imp fun _ _ _ h => ⟨h.1.mono hle, h.2⟩
/-- The rights are given up. -/
theorem MapR.drop {v : Value} {D : List (Int × List α)} {tk : Option Ow} (h : MapR ky (RvT r e T G) v D tk) : MapR ky (RvS (Rp.sl r) G) v D tk := h.imp fun _ _ u h => ⟨u, rfl, h.1⟩
variable {N : Nat} {Q : Post} {fr : Fr} {ops : Array Oper} {l : List Oper} {dst : Option Nat} {ty : TypeId} {pos : String} {af : Array Edge} {g : Option (Nat × Bool)} {w0 : Bs} {G0 : Mem} {L : Lo}
theorem WL.makeMapT {t : TypeId} (key : Nat) (hg : guardOK ops fr ⟨dst, .makeMap t none, ty, pos, af, g⟩ true) (hd : dstOK N dst)
    (k : ∀ b tk, MapR ky (RvT r e [] G) (.map (some b)) [] tk → WL P N ops Q l (putFr dst (.map (some b)) fr) (St w0 G0 G ((key, tk) :: L))) : WL P N ops Q (⟨dst, .makeMap t none, ty, pos, af, g⟩ :: l) fr (St w0 G0 G L) := WL.makeMap key hg hd k
theorem WL.mapGetT {t et : TypeId} {m x : Operand} {v : Value} {D : List (Int × List α)} {tk : Option Ow} {k : Int} (key : Nat) (hg : guardOK ops fr ⟨dst, .lookup t m x false, ty, pos, af, g⟩ true) (hd : dstOK N dst) (ht : P.underlying t = some (.map kt et)) (hz : ∀ w, (zeroValue et).run P w = .ok (.slice none 0 0) w)
    (h : MapR ky (RvT r e T G) v D tk) (hT : TokM T D) (hid : L.get key = tk) (hm : fr.ev m = some v) (hx : fr.ev x = some (ky.enc k)) (hk : ky.ok k)
    (kk : ∀ p c, SlR r G (.slice p ((mget D k).getD []).length c) ((mget D k).getD []) → Tok r.size e (.slice p ((mget D k).getD []).length c) ((mget D k).getD []).length (T.get (kcode k)) → WL P N ops Q l (putFr dst (.slice p ((mget D k).getD []).length c) fr) (St w0 G0 G L)) :
    WL P N ops Q (⟨dst, .lookup t m x false, ty, pos, af, g⟩ :: l) fr (St w0 G0 G L) := by
  refine WL.mapGet (R := fun u => ∃ p c, u = .slice p ((mget D k).getD []).length c ∧ SlR r G u ((mget D k).getD []) ∧ Tok r.size e u ((mget D k).getD []).length (T.get (kcode k))) key false hg hd ht hz h hid hm hx hk (fun h0 => ?_) (fun val y h1 h2 => ?_) (fun u hu => ?_)
  · rw [h0]
    refine ⟨none, 0, rfl, SlR.nil _ _, ?_⟩
    rw [hT.none k h0]
    exact ⟨none, rfl⟩
  · rw [h1]
    obtain ⟨p, c, cs, hc⟩ := h2.1
    have hv := hc.1
    subst hv
    exact ⟨p, c, rfl, h2.1, h2.2⟩
  · obtain ⟨p, c, rfl, h1, h2⟩ := hu
    exact kk p c h1 h2
theorem WL.mapGetS {t et : TypeId} {m x : Operand} {v : Value} {D : List (Int × List α)} {tk : Option Ow} {k : Int} (key : Nat) (hg : guardOK ops fr ⟨dst, .lookup t m x false, ty, pos, af, g⟩ true) (hd : dstOK N dst) (ht : P.underlying t = some (.map kt et)) (hz : ∀ w, (zeroValue et).run P w = .ok (.slice none 0 0) w)
    (h : MapR ky (RvS (Rp.sl r) G) v D tk) (hid : L.get key = tk) (hm : fr.ev m = some v) (hx : fr.ev x = some (ky.enc k)) (hk : ky.ok k)
    (kk : ∀ p c, SlR r G (.slice p ((mget D k).getD []).length c) ((mget D k).getD []) → WL P N ops Q l (putFr dst (.slice p ((mget D k).getD []).length c) fr) (St w0 G0 G L)) :
    WL P N ops Q (⟨dst, .lookup t m x false, ty, pos, af, g⟩ :: l) fr (St w0 G0 G L) := by
  refine WL.mapGet (R := fun u => ∃ p c, u = .slice p ((mget D k).getD []).length c ∧ SlR r G u ((mget D k).getD [])) key false hg hd ht hz h hid hm hx hk (fun h0 => ?_) (fun val y h1 h2 => ?_) (fun u hu => ?_)
  · rw [h0]
    exact ⟨none, 0, rfl, SlR.nil _ _⟩
  · rw [h1]
    obtain ⟨w, hw, hs⟩ := h2
    simp only [List.cons.injEq, and_true] at hw
    subst hw
    obtain ⟨p, c, cs, hc⟩ := hs
    have hv := hc.1
    subst hv
    exact ⟨p, c, rfl, p, c, cs, hc⟩
  · obtain ⟨p, c, rfl, h1⟩ := hu
    exact kk p c h1
/-- Append to a value of the map. -/
theorem WL.appendD {A : Lo} {t : TypeId} {z : Value} {s x : Operand} {bytes m c : Nat} {v : Value} {xs ys : List α} {p : Option Addr} {k : Int} (hg : guardOK ops fr ⟨dst, .call ⟨.builtin .append, #[s, x], #[t, t]⟩, ty, pos, af, g⟩ true) (hd : dstOK N dst)
    (hA : A.all (fun p => decide (p.1 < 8000000)) = true) (hT : ∀ i x, T.get i = some x → 8000000 ≤ i) (ht : P.underlying t = some (.slice e)) (hE : ElT P e z r.size bytes) (hzs : z.cells.size = r.size) (hby : bytes ≤ 100000) (hs : fr.ev s = some v) (hx : fr.ev x = some (.slice p m c)) (hv : SlR r G v xs) (h0 : w0.L = []) (htk : Tok r.size e v xs.length (T.get (kcode k)))
    (hy : SlR r G (.slice p m c) ys) (hsm : (xs ++ ys).length ≤ small)
    (kk : ∀ p' cap' tk' G', Mem.le G G' → SlR r G' (.slice p' (xs ++ ys).length cap') (xs ++ ys) → Tok r.size e (.slice p' (xs ++ ys).length cap') (xs ++ ys).length tk' → WL P N ops Q l (putFr dst (.slice p' (xs ++ ys).length cap') fr) (St w0 G0 G' (A ++ ((kcode k, tk') :: T)))) :
    WL P N ops Q (⟨dst, .call ⟨.builtin .append, #[s, x], #[t, t]⟩, ty, pos, af, g⟩ :: l) fr (St w0 G0 G (A ++ T)) :=
  WL.appendR (kcode k) hg hd ht hE hzs hby hs hx hv (Lo.get_skip hA (kcode_ge k)) (by rw [h0]; rfl) htk hy hsm (fun p' cap' tk' G' h1 h2 h3 => WL.conseq (fun w hs => hs.weaken (Lo.sub_swap hA (kcode_ge k) hT)) (kk p' cap' tk' G' h1 h2 h3))
theorem mget_mput {K V : Type} [DecidableEq K] : ∀ (D : List (K × V)) (k : K) (x : V) (j : K), mget (mput D k x) j = if k = j then some x else mget D j
  | [], k, x, j => by simp only [mput, mget]
  | p :: D, k, x, j => by
    simp only [mput]
    split
    · rename_i h
      subst h
      simp only [mget]
      split <;> simp_all
    · rename_i h
      simp only [mget, mget_mput D k x j]
      split
      · rename_i h2
        subst h2
        rw [if_neg (fun e => h e.symm)]
      · rfl
theorem TokM.put {D : List (Int × List α)} (hT : TokM T D) {k : Int} {tk' : Option Ow} {y : List α} : TokM ((kcode k, tk') :: T) (mput D k y) := by
  refine ⟨fun i x h => ?_, fun j hj => ?_⟩
  · rw [Lo.get_cons] at h
    split at h
    · rename_i e; rw [← e]; exact kcode_ge k
    · exact hT.high i x h
  · rw [mget_mput] at hj
    split at hj
    · cases hj
    · rename_i h
      rw [Lo.get_cons, if_neg (fun e => h (kcode_inj e))]
      exact hT.none j hj
theorem WL.mapPutT {t et : TypeId} {m x y : Operand} {v val : Value} {D : List (Int × List α)} {tk tk' : Option Ow} {k : Int} {z : List α} (key : Nat) (hg : guardOK ops fr ⟨none, .mapUpdate t m x y, ty, pos, af, g⟩ true) (ht : P.underlying t = some (.map kt et)) (h : MapR ky (RvT r e T G) v D tk) (hid : L.get key = tk)
    (hm : fr.ev m = some v) (hx : fr.ev x = some (ky.enc k)) (hy : fr.ev y = some val) (hk : ky.ok k) (hs : SlR r G val z) (htk : Tok r.size e val z.length tk') (hsm : (mput D k z).length ≤ small)
    (kk : ∀ tk2, MapR ky (RvT r e ((kcode k, tk') :: T) G) v (mput D k z) tk2 → WL P N ops Q l fr (St w0 G0 G ((key, tk2) :: L))) : WL P N ops Q (⟨none, .mapUpdate t m x y, ty, pos, af, g⟩ :: l) fr (St w0 G0 G L) :=
  WL.mapPut (Rv' := RvT r e ((kcode k, tk') :: T) G) key hg ht h hid hm hx hy hk ⟨hs, by rw [Lo.get_cons, if_pos rfl]; exact htk⟩ (fun p _ hne u hu => ⟨hu.1, by rw [Lo.get_cons, if_neg (fun e => hne (kcode_inj e).symm)]; exact hu.2⟩) hsm kk
end
end Go.EL
/- Strings: bytes of them, and strings of bytes. The conditions stand in each statement. -/
namespace Go.EL
open Go Go.RowKit Go.Proofs
/-- A byte of a string. -/
def byteAt (s : ByteArray) (i : Int) : Int := ((s.data.getD i.toNat 0).toNat : Int)
/-- The string of bytes. -/
def bytesOf (l : List Int) : ByteArray := l.foldl (fun r n => r.push (UInt8.ofNat n.toNat)) ByteArray.empty
section
variable {P : Program} {N : Nat} {fr : Fr} {S : Asrt} {dst : Option Nat} {ty : TypeId} {pos : String} {af : Array Edge} {g : Option (Nat × Bool)} {w0 : Bs} {G0 G : Mem} {L : Lo}
theorem Y0.indexS {t : TypeId} {x y : Operand} {s : ByteArray} {k : IntKind} {i : Int} (ht : P.underlying t = some .string) (hx : fr.ev x = some (.string s)) (hy : fr.ev y = some (.int k i)) (hi : 0 ≤ i ∧ i < (s.size : Int)) :
    Y0 P N ⟨dst, .index t x y, ty, pos, af, g⟩ fr S (.int .u8 (byteAt s i)) := fun a w ha _ => by
  have hlt : i.toNat < s.size := by omega
  have e1 : s[i.toNat]? = some (s.data.getD i.toNat 0) := by
    rw [getElem?_pos s i.toNat hlt]
    have hlt' : i.toNat < s.data.size := hlt
    simp only [Array.getD, dif_pos hlt']
    rfl
  simp [execOp, ha.ev hx, ha.ev hy, Instr.index, asIntOf, run_underlying ht, hi.1, e1, byteAt]
theorem ba_beq (a b : ByteArray) : (a == b) = decide (a = b) := by
  obtain ⟨a⟩ := a
  obtain ⟨b⟩ := b
  have h1 : ((⟨a⟩ : ByteArray) == ⟨b⟩) = (a == b) := rfl
  rw [h1]
  by_cases h : a = b
  · subst h; simp
  · have : ¬ (⟨a⟩ : ByteArray) = ⟨b⟩ := fun e => h (by cases e; rfl)
    simp [h, this]
theorem ba_lbeq (a b : ByteArray) : (a.toList == b.toList) = decide (a = b) := by
  rw [ByteArray.toList_eq, ByteArray.toList_eq]
  obtain ⟨⟨a⟩⟩ := a
  obtain ⟨⟨b⟩⟩ := b
  by_cases h : a = b
  · subst h; simp
  · have h2 : ¬ (⟨⟨a⟩⟩ : ByteArray) = ⟨⟨b⟩⟩ := fun e => h (by cases e; rfl)
    simp [h]
theorem Y0.eqlS {t : TypeId} {x y : Operand} {s u : ByteArray} {b : TypeId} (ht : P.underlying t = some .string) (hx : fr.ev x = some (.string s)) (hy : fr.ev y = some (.string u)) : Y0 P N ⟨dst, .binOp .eql t x y b, ty, pos, af, g⟩ fr S (.bool (decide (s = u))) :=
  Y0.bin hx hy (guard_string _ _ _ _ _ _) fun w => by simp [binOp, Op.stringOp, ba_lbeq]
theorem Y0.neqS {t : TypeId} {x y : Operand} {s u : ByteArray} {b : TypeId} (ht : P.underlying t = some .string) (hx : fr.ev x = some (.string s)) (hy : fr.ev y = some (.string u)) : Y0 P N ⟨dst, .binOp .neq t x y b, ty, pos, af, g⟩ fr S (.bool (decide (¬ s = u))) :=
  Y0.bin hx hy (guard_string _ _ _ _ _ _) fun w => by simp [binOp, Op.stringOp, ba_lbeq]
theorem RepL.ints {k : IntKind} : ∀ {xs : List Int} {cs : List Value}, RepL (Rp.int k) G cs xs → cs = xs.map (Value.int k)
  | [], cs, h => by simpa [RepL] using h
  | y :: ys, _, ⟨c, d, e0, e1, e2⟩ => by
    have e1 : c = [.int k y] := e1
    rw [e0, e1, RepL.ints e2]; rfl
theorem Y0.convBS {t d e : TypeId} {x : Operand} {v : Value} {xs : List Int} (ht : P.underlying t = some (.slice e)) (he : P.underlying e = some (.int .u8)) (hd : P.underlying d = some .string) (h : SlR (Rp.int .u8) G v xs) (hx : fr.ev x = some v) :
    Y0 P N ⟨dst, .convert t d x, ty, pos, af, g⟩ fr (St w0 G0 G L) (.string (bytesOf xs)) := fun a w ha hs => by
  obtain ⟨p, cap, cs, rfl, _, h2, h3, h4, h5⟩ := h
  have hcs := h4.ints
  subst hcs
  have hr : (convert t d (.slice p xs.length cap)).run P w = .ok (.string (bytesOf xs)) w := by
    rw [run_convert_bytes_string w t d e p xs.length cap ht he hd]
    cases p with
    | none =>
      have : xs = [] := by
        cases xs with
        | nil => rfl
        | cons y ys => have := h3 (by simp); cases this
      subst this
      simp [Conv.bytesToString, bytesOf]
    | some ad =>
      obtain ⟨ab, ao, asp⟩ := ad
      have := h2 _ rfl
      dsimp only at this
      subst this
      refine run_bytesToString w _ _ _ xs ?_
      have := run_loadCells_list (P := P) w ⟨ab, ao, none⟩ (xs.map (Value.int .u8)) (fun j v hv => by rw [add_none]; exact hs.imm _ _ _ (h5 j v hv))
      simpa using this
  simp [execOp, ha.ev hx, hr]
end
end Go.EL
/- slices.Sorted(maps.Keys(m)). The conditions stand in each statement. -/
namespace Go.EL
open Go Go.RowKit Go.Proofs
section
variable {P : Program} {K : Type} {kt : TypeId}
def SortedL (P : Program) (f g : FuncId) (ky : Ky P kt K) (r : Rp K) (e : TypeId) (sm : List K → Comp (List K)) : Prop :=
  ∀ {V : Type} (Rv : K → Value → V → Prop) (v : Value) (D : List (K × V)) (tk : Option Ow) (bm kk : Nat) (Φ : List K → Prop), kk ≠ 7000 ∧ kk ≠ 5000 → MapR ky Rv v D tk → (∀ ks, ks.Perm (D.map (·.1)) → ∃ y, (sm ks).Ret y ∧ Φ y) →
    CtrL P f #[.func (.func g) #[] #[.pointer (some ⟨bm, 0, none⟩)]] [(kk, tk)] (fun G => G bm 0 = some v) (fun G L u => ∃ y p c tk2, L = [(7000, tk2), (kk, tk)] ∧ u = .slice p y.length c ∧ RowR r e G u y tk2 ∧ Φ y)
theorem sorted {f0 f1 f g : FuncId} {fn : Func} {ky : Ky P kt K} {r : Rp K} {e : TypeId} {sm : List K → Comp (List K)} {i0 i1 i2 i3 : Nat} {y2 y4 y5 y3 y6 y7 y8 y9 : TypeId} {p2 p4 p5 p3 p6 p7 p8 p9 : String} {a2 a4 a5 a3 a6 a7 a8 a9 : Array Edge} {ts tu : Array TypeId} (h : CollectsL P f0 #[] g ky r e)
    (hs : ∀ xs p c tk y, (sm xs).Ret y → CtrL P f1 #[.slice p xs.length c] [(5000, tk)] (fun G => RowR r e G (.slice p xs.length c) xs tk) (fun G L v => ∃ zk, L = [(5000, zk)] ∧ v = .tuple #[] ∧ RowR r e G (.slice p xs.length c) y zk)) (hE : Enters P f0) (hE1 : Enters P f1)
    (hf : P.funcs[f]? = some fn) (hb : fn.body = some (.seq (.region i0 #[⟨some 2, .assign (.const (.slice none 0 0)), y2, p2, a2, none⟩] false)
      (.seq (.region i1 #[⟨some 4, .move (.tmp 0), y4, p4, a4, none⟩, ⟨some 5, .call ⟨.value (.func f0), #[.tmp 4], ts⟩, y5, p5, a5, none⟩, ⟨some 3, .assign (.tmp 5), y3, p3, a3, none⟩] false)
        (.seq (.region i2 #[⟨some 6, .move (.tmp 3), y6, p6, a6, none⟩, ⟨some 7, .call ⟨.value (.func f1), #[.tmp 6], tu⟩, y7, p7, a7, none⟩] false)
          (.seq (.region i3 #[⟨some 8, .move (.tmp 3), y8, p8, a8, none⟩, ⟨some 2, .assign (.tmp 8), y9, p9, a9, none⟩] false) .ret)))))
    (hN : fn.ntmps = 9) (hr : fn.results = #[.tmp 2]) : SortedL P f g ky r e sm := by
  intro V Rv v D tk bm kk Φ hkk hmap hΦ
  refine CtrL.enter (args := [_]) (N := 9) hf hb hN rfl (fun w0 G0 hL0 hpre => ?_)
  have hz : w0.L.zero := by rw [hL0]; intro p hp x hx; simp only [List.mem_singleton] at hp; subst hp; exact hmap.zero hx
  refine WC.seq (WC.region (WL.y0' guard_none (Y0.assign rfl) rfl (WL.nil (WE.then (WC.seq (WC.region (WL.y0' guard_none (Y0.move rfl) rfl ?_)))))))
  refine WL.callT guard_none rfl (YC.of hE rfl) (h Rv v D tk bm kk hkk hmap) rfl hpre (Lo.sub_refl _) hz (fun u G' L' hle hpost => ?_)
  obtain ⟨xs, p, c, tk2, rfl, rfl, hrow, hperm⟩ := hpost
  obtain ⟨y, hy, hΦy⟩ := hΦ xs hperm
  refine WL.y0' guard_none (Y0.assign rfl) rfl (WL.nil (WE.then (WC.seq (WC.region (WL.y0' guard_none (Y0.move rfl) rfl ?_)))))
  have h7 : w0.L.get 7000 = none := by rw [hL0, Lo.get_cons, if_neg hkk.1]; rfl
  have h5 : w0.L.get 5000 = none := by rw [hL0, Lo.get_cons, if_neg hkk.2]; rfl
  refine WL.conseq (fun w hs => hs.rekey (i := 7000) (j := 5000) rfl h7) ?_
  refine WL.callT guard_none rfl (YC.of hE1 rfl) (hs xs p c tk2 y hy) rfl hrow (Lo.sub_cons rfl (Lo.sub_nil _)) hz (fun u G2 L2 hle2 hpost => ?_)
  obtain ⟨zk, rfl, rfl, hrow2⟩ := hpost
  refine WL.nil (WE.then (WC.seq (WC.region (WL.y0' guard_none (Y0.move rfl) rfl (WL.y0' guard_none (Y0.assign rfl) rfl (WL.nil (WE.then (WC.ret ?_))))))))
  refine WE.conseq (S' := St w0 G0 G2 [(7000, zk), (kk, tk)]) (fun w hs => (hs.rekey (i := 5000) (j := 7000) rfl h5).weaken (Lo.sub_cons rfl (Lo.sub_cons ?_ (Lo.sub_nil _)))) ?_
  · simp only [Lo.without, List.map_cons, List.map_nil, List.cons_append, List.nil_append, Lo.get_cons, if_neg (Ne.symm hkk.1), if_neg (Ne.symm hkk.2), if_pos]
  exact WE.ret1 hr rfl ⟨y, p, c, zk, rfl, hrow2.eqv, hrow2, hΦy⟩
end
end Go.EL
/- Slices that are made. The conditions stand in each statement. -/
namespace Go.EL
open Go Go.RowKit Go.Proofs
theorem made_flat {z : Array Value} (h0 : 0 < z.size) : ∀ n : Nat, (madeCells z (n * z.size)).toList = (List.replicate n z.toList).flatten
  | 0 => by simp [madeCells]
  | n + 1 => by
    rw [List.replicate_succ', List.flatten_append, List.flatten_cons, List.flatten_nil, List.append_nil, ← made_flat h0 n]
    apply List.ext_getElem?
    intro i
    have hlen : (madeCells z (n * z.size)).toList.length = n * z.size := by simp [madeCells]
    rw [List.getElem?_append, hlen]
    split
    · rename_i h
      have h1 : i < (n + 1) * z.size := by rw [Nat.add_mul]; omega
      simp [madeCells, h, h1]
    · rename_i h
      by_cases h2 : i < (n + 1) * z.size
      · have h3 : i - n * z.size < z.size := by rw [Nat.add_mul] at h2; omega
        have h4 : i % z.size = i - n * z.size := by
          have : i = (i - n * z.size) + z.size * n := by rw [Nat.mul_comm z.size n]; omega
          rw [this, Nat.add_mul_mod_self_left, Nat.mod_eq_of_lt (by omega)]
          rw [Nat.mul_comm z.size n]; omega
        simp [madeCells, h2, h4, h3]
      · have h3 : ¬ i - n * z.size < z.size := by rw [Nat.add_mul] at h2; omega
        rw [List.getElem?_eq_none (by simp [madeCells]; omega), List.getElem?_eq_none (by simp; omega)]
theorem RepL.replicate {α : Type} {r : Rp α} {G : Mem} {c : List Value} {x : α} (h : r.rep G c x) : ∀ n : Nat, RepL r G (List.replicate n c).flatten (List.replicate n x)
  | 0 => rfl
  | n + 1 => by rw [List.replicate_succ, List.replicate_succ, List.flatten_cons]; exact ⟨c, _, rfl, h, RepL.replicate h n⟩
section
variable {P : Program} {N : Nat} {Q : Post} {fr : Fr} {ops : Array Oper} {l : List Oper} {dst : Option Nat} {ty : TypeId} {pos : String} {af : Array Edge} {g : Option (Nat × Bool)}
variable {w0 : Bs} {G0 G : Mem} {L : Lo} {α : Type} {r : Rp α} {e : TypeId} {w : World}
theorem WL.makeT {t : TypeId} {z : Value} {x y : Operand} {bytes : Nat} {k k' : IntKind} {n : Int} {zx : α} (key : Nat) (hg : guardOK ops fr ⟨dst, .makeSlice t x y, ty, pos, af, g⟩ true) (hd : dstOK N dst) (ht : P.underlying t = some (.slice e)) (hE : ElT P e z r.size bytes) (hzs : z.cells.size = r.size) (hby : bytes ≤ 100000) (h0 : 0 < r.size)
    (hrep : r.rep G z.cells.toList zx) (hx : fr.ev x = some (.int k n)) (hy : fr.ev y = some (.int k' n)) (hn : 0 ≤ n ∧ n ≤ 1000000)
    (kk : ∀ p tk, RowR r e G (.slice p n.toNat n.toNat) (List.replicate n.toNat zx) tk → WL P N ops Q l (putFr dst (.slice p n.toNat n.toNat) fr) (St w0 G0 G ((key, tk) :: L))) : WL P N ops Q (⟨dst, .makeSlice t x y, ty, pos, af, g⟩ :: l) fr (St w0 G0 G L) := by
  obtain ⟨i, hi, hz, hsz, hbt⟩ := hE.parts
  refine WL.yr (Φ := fun v w => ∃ p tk, v = .slice p n.toNat n.toNat ∧ RowR r e G (.slice p n.toNat n.toNat) (List.replicate n.toNat zx) tk ∧ St w0 G0 G ((key, tk) :: L) w) hg (fun a w ha hs => ?_) hd (fun v a w ha ⟨p, tk, h1, h2, h3⟩ => by subst h1; exact kk p tk h2 a w ha h3)
  have hbn : (i.bytes : Int) * n ≤ 281474976710656 := by
    have h1 : (i.bytes : Int) ≤ 100000 := by omega
    have : (i.bytes : Int) * n ≤ 100000 * 1000000 := Int.mul_le_mul h1 hn.2 hn.1 (by omega)
    omega
  have hr := run_make w t e i z ht hi hz k k' n n hn.1 (Int.le_refl _) hbn (by omega)
  have : (execOp a.eval ⟨dst, .makeSlice t x y, ty, pos, af, g⟩).run P w = .ok (.value (.slice (some ⟨w.heap.size, 0, none⟩) n.toNat n.toNat)) (w.alloc (.cells (madeCells z.cells (n.toNat * i.size)) e)) := by
    simp [execOp, ha.ev hx, ha.ev hy, hr]
  rw [this]
  refine ⟨_, some ⟨w.heap.size, .cells (madeCells z.cells (n.toNat * i.size)) e (0, 0), 0⟩, rfl, ?_, hs.push key _⟩
  rw [hsz, ← hzs]
  refine ⟨n.toNat, (madeCells z.cells (n.toNat * z.cells.size)).toList, [], by simp, by simp, rfl, ?_, by simp [madeCells, hzs], by simp only [maxLen]; omega, by simp⟩
  rw [made_flat (by omega)]
  exact RepL.replicate hrep _
theorem Y0.nilCheck {S : Asrt} {x : Operand} {a : Addr} (hx : fr.ev x = some (.pointer (some a))) : Y0 P N ⟨dst, .nilCheck x, ty, pos, af, g⟩ fr S (.pointer (some a)) := fun b w hb _ => by simp [execOp, hb.ev hx]
theorem St.knowZ {i b m n : Nat} {c : Array Value} {t : TypeId} (h : St w0 G0 G L w) (hi : L.get i = some ⟨b, .cells c t (0, 0), m⟩) (h0 : w0.L.zero) (hmn : m ≤ n) :
    St w0 G0 (Mem.row G b c m n) ((i, some ⟨b, .cells c t (0, 0), n⟩) :: L) w ∧ Mem.le G (Mem.row G b c m n) := by
  obtain ⟨l1, l2, l3⟩ := h.loc i _ hi
  have hle := Mem.le_row (c := c) (n := n) l3
  refine ⟨⟨h.os, h.tape, h.output, h.drawn, h.size, h.block, Mem.le_trans h.base hle, fun b' o v hv => ?_, fun b' o v hv => ?_, fun j y hj => ?_, fun j k y z hne e1 e2 => ?_⟩, hle⟩
  · unfold Mem.row at hv
    split at hv
    · rename_i e
      obtain ⟨e1, _, _⟩ := e
      subst e1
      rw [cell_of_row w b' o c t (0, 0) l1]; exact hv
    · exact h.imm b' o v hv
  · unfold Mem.row at hv
    split at hv
    · rename_i e
      obtain ⟨e1, _, _⟩ := e
      subst e1
      exact .inr (l2.elim (fun ⟨y, e, eb⟩ => .inr ⟨i, y, e, eb, by rw [Lo.zero_get h0 e]; exact Nat.zero_le _⟩) (fun h => .inl h))
    · exact h.fresh b' o v hv
  · rw [Lo.get_cons] at hj
    split at hj
    · rename_i hij
      subst hij
      simp only [Option.some.injEq] at hj
      subst hj
      refine ⟨l1, l2, fun k hk => ?_⟩
      unfold Mem.row
      rw [if_neg (by dsimp only at hk ⊢; omega)]
      exact l3 k (Nat.le_trans hmn hk)
    · rename_i hij
      obtain ⟨m1, m2, m3⟩ := h.loc j y hj
      refine ⟨m1, m2, fun k hk => ?_⟩
      have hb : y.b ≠ b := fun e => h.dist i j _ y hij hi hj e.symm
      unfold Mem.row
      rw [if_neg (fun e => hb e.1)]
      exact m3 k hk
  · rw [Lo.get_cons] at e1 e2
    split at e1 <;> split at e2
    · omega
    · rename_i hij hik
      simp only [Option.some.injEq] at e1
      subst e1
      exact h.dist i k ⟨b, .cells c t (0, 0), m⟩ z hik hi e2
    · rename_i hij hik
      simp only [Option.some.injEq] at e2
      subst e2
      exact h.dist j i y ⟨b, .cells c t (0, 0), m⟩ (fun e => hij e.symm) e1 hi
    · exact h.dist j k _ _ hne e1 e2
theorem RowR.freezeZ {v : Value} {xs : List α} {tk : Option Ow} {key : Nat} (h : RowR r e G v xs tk) (hid : L.get key = tk) (h0 : w0.L.zero) {w : World} (hs : St w0 G0 G L w) :
    ∃ G' tk', Mem.le G G' ∧ SlR r G' v xs ∧ Tok r.size e v xs.length tk' ∧ St w0 G0 G' ((key, tk') :: L) w ∧ (∀ Gx L' w', Mem.le G Gx → Mem.le G' Gx → St w0 G0 Gx ((key, tk') :: L') w' → St w0 G0 G ((key, tk) :: L') w') := by
  cases tk with
  | none =>
    obtain ⟨rfl, p, rfl, hp⟩ := h
    exact ⟨G, none, Mem.le_refl _, ⟨p, 0, [], rfl, by simp, hp, fun h => by simp at h, rfl, fun j u h => by simp at h⟩, ⟨p, rfl⟩, hs.weaken (Lo.sub_cons hid (Lo.sub_refl _)), fun Gx L' w' h1 _ h2 => h2.memLe hs.base h1⟩
  | some x =>
    obtain ⟨cap, cs, rest, rfl, h2, h3, h4, h5, h6, h7⟩ := h
    obtain ⟨xb, xo, xm⟩ := x
    dsimp only at h2 h3
    subst h2 h3
    have hl := h4.len
    obtain ⟨k1, k2⟩ := hs.knowZ (i := key) (n := xs.length * r.size) hid h0 (Nat.zero_le _)
    refine ⟨_, some ⟨xb, .cells (cs ++ rest).toArray e (0, 0), xs.length * r.size⟩, k2, ⟨_, cap, cs, rfl, by simp only [maxLen] at h6; omega, fun a ha => by cases ha; rfl, fun _ => rfl, h4.mono k2, fun j u hu => ?_⟩, ⟨cap, _, rfl, rfl, rfl, by simpa using h5, h6, h7⟩, k1, fun Gx L' w' e1 e2 e3 => ?_⟩
    · have hj := (List.getElem?_eq_some_iff.1 hu).1
      show Mem.row G xb _ 0 _ xb (0 + j) = some u
      rw [Nat.zero_add, Mem.row_at (Nat.zero_le _) (by rw [← hl]; exact hj), List.getElem?_toArray, List.getElem?_append_left hj]
      exact hu
    · exact (e3.memLe hs.base e1).unmark (fun k => (hs.loc key _ hid).2.2 k (Nat.zero_le _))
theorem WL.peekZ {op : Op} {v c : Value} {xs : List α} {tk : Option Ow} (key : Nat) (L' : Lo) (h : RowR r e G v xs tk) (hid : L.get key = tk) (h0 : w0.L.zero) (hg : guardOK ops fr ⟨dst, op, ty, pos, af, g⟩ true) (hd : dstOK N dst)
    (hy : ∀ tk' G', Mem.le G G' → SlR r G' v xs → YR P N ⟨dst, op, ty, pos, af, g⟩ fr (St w0 G0 G' ((key, tk') :: L)) (fun u w' => u = c ∧ ∃ G'', Mem.le G' G'' ∧ St w0 G0 G'' ((key, tk') :: L') w'))
    (k : WL P N ops Q l (putFr dst c fr) (St w0 G0 G ((key, tk) :: L'))) : WL P N ops Q (⟨dst, op, ty, pos, af, g⟩ :: l) fr (St w0 G0 G L) := by
  refine WL.yr (Φ := fun u w' => u = c ∧ St w0 G0 G ((key, tk) :: L') w') hg (fun a w ha hs => ?_) hd (fun u a w ha ⟨h1, h2⟩ => by subst h1; exact k a w ha h2)
  obtain ⟨G', tk', h1, h2, h3, h4, h5⟩ := h.freezeZ hid h0 hs
  exact (hy tk' G' h1 h2 a w ha h4).mono fun u w' ⟨q1, G'', q2, q3⟩ => ⟨q1, h5 G'' L' w' (Mem.le_trans h1 q2) q2 q3⟩
theorem WL.peekROZ {op : Op} {f : FuncId} {args args' : Array Value} {L1 : Lo} {pre : Mem → Prop} {v c : Value} {xs : List α} {tk : Option Ow} (key : Nat) (hrow : RowR r e G v xs tk) (hid : L.get key = tk) (h0 : w0.L.zero) (hg : guardOK ops fr ⟨dst, op, ty, pos, af, g⟩ true) (hd : dstOK N dst)
    (h : ∀ S, YC P N ⟨dst, op, ty, pos, af, g⟩ fr S f args') (sp : CtrL P f args L1 pre (fun _ L' v => L' = L1 ∧ v = c)) (e' : args' = args) (hp : ∀ G', Mem.le G G' → SlR r G' v xs → pre G')
    (h1 : Lo.sub L1 L) (hsame : ∀ i, i ∈ L1.map (·.1) → L1.get i = L.get i ∧ key ≠ i) (hz : w0.L.zero)
    (k : WL P N ops Q l (putFr dst c fr) (St w0 G0 G L)) : WL P N ops Q (⟨dst, op, ty, pos, af, g⟩ :: l) fr (St w0 G0 G L) := by
  refine WL.peekZ key L hrow hid h0 hg hd (fun tk' G' hle hsl a w ha hs => ?_) (WL.conseq (fun w hs => hs.weaken (fun i x hx => ?_)) k)
  · exact (YC.yrRO (h _) sp e' (hp G' hle hsl) (fun i x hx => by
      have hi := Lo.mem_of_get hx
      rw [Lo.get_cons, if_neg (hsame i hi).2]
      exact h1 i x hx) (fun i hi => by rw [Lo.get_cons, if_neg (hsame i hi).2]; exact (hsame i hi).1) hz a w ha hs).mono fun u w' ⟨G'', q1, q2, q3⟩ => ⟨q3, G'', q1, q2⟩
  · rw [Lo.get_cons]
    split
    · rename_i e2; subst e2; rw [← hid]; exact hx
    · exact hx
end
section
variable {P : Program} {N : Nat} {Q : Post} {fr : Fr} {S : Asrt} {ops : Array Oper} {l : List Oper} {dst : Option Nat} {ty : TypeId} {pos : String} {af : Array Edge} {id : Nat} {y : Code} {op : Op} {v : Value} {x : Operand}
theorem nx (h : WC P N y Q fr S) : WL P N ops (Exit.then (y.wp P Q) Q) [] fr S := h
theorem sr (h : WL P N l.toArray (Exit.then (y.wp P Q) Q) l fr S) : WC P N (.seq (.region id l.toArray false) y) Q fr S := WC.seq (WC.region h)
theorem nr (h : WL P N l.toArray (Exit.then (y.wp P Q) Q) l fr S) : WL P N ops (Exit.then ((Code.seq (.region id l.toArray false) y).wp P Q) Q) [] fr S := nx (sr h)
theorem yy (h : Y0 P N ⟨dst, op, ty, pos, af, none⟩ fr S v) (hd : dstOK N dst) (k : WL P N ops Q l (putFr dst v fr) S) : WL P N ops Q (⟨dst, op, ty, pos, af, none⟩ :: l) fr S := WL.y0' guard_none h hd k
theorem mv (h : fr.ev x = some v) (hd : dstOK N dst) (k : WL P N ops Q l (putFr dst v fr) S) : WL P N ops Q (⟨dst, .move x, ty, pos, af, none⟩ :: l) fr S := yy (Y0.move h) hd k
theorem sg (h : fr.ev x = some v) (hd : dstOK N dst) (k : WL P N ops Q l (putFr dst v fr) S) : WL P N ops Q (⟨dst, .assign x, ty, pos, af, none⟩ :: l) fr S := yy (Y0.assign h) hd k
theorem sk {j d : Nat} (h1 : (ops[j]?).bind (·.dst) = some d) (h2 : fr.get d = some (.bool false)) (hd : dstOK N dst) (k : WL P N ops Q l (putFr dst undef fr) S) : WL P N ops Q (⟨dst, op, ty, pos, af, some (j, true)⟩ :: l) fr S := WL.skip (guard_noT h1 h2) hd k
end
section
variable {P : Program} {N : Nat} {Q : Post} {fr : Fr} {ops : Array Oper} {l : List Oper} {dst : Option Nat} {ty : TypeId} {pos : String} {af : Array Edge} {g : Option (Nat × Bool)} {w0 : Bs} {G0 G : Mem} {L : Lo}
theorem RepL.nums {k : IntKind} : ∀ xs : List Int, RepL (Rp.int k) G (xs.map (Value.int k)) xs
  | [] => rfl
  | x :: xs => ⟨[.int k x], xs.map (Value.int k), rfl, rfl, RepL.nums xs⟩
/-- A slice of all of an array that is the call's own: its cells become known. -/
theorem WL.sliceBox {t e T : TypeId} {x : Operand} {b n : Nat} {ki : IntKind} {f : Fin n → Int} (key : Nat) (hg : guardOK ops fr ⟨dst, .slice t x none none none, ty, pos, af, g⟩ true) (hd : dstOK N dst) (ht : P.underlying t = some (.array n e)) (hsz : (P.info? e).map (·.size) = some 1)
    (hn : n ≤ 100000) (hx : fr.ev x = some (.pointer (some ⟨b, 0, none⟩))) (hid : L.get key = some ⟨b, .cells (vecG (Value.int ki) n f).toArray T (0, 0), 0⟩) (h0 : w0.L.get key = none)
    (k : ∀ p G', Mem.le G G' → SlR (Rp.int ki) G' (.slice p (List.ofFn f).length n) (List.ofFn f) → WL P N ops Q l (putFr dst (.slice p (List.ofFn f).length n) fr) (St w0 G0 G' ((key, none) :: L))) : WL P N ops Q (⟨dst, .slice t x none none none, ty, pos, af, g⟩ :: l) fr (St w0 G0 G L) := by
  have hlen : (List.ofFn f).length = n := List.length_ofFn
  refine WL.yr (Φ := fun v w => v = .slice (some ⟨b, 0, none⟩) n n ∧ St w0 G0 G L w) hg (fun a w ha hs => ?_) hd (fun v a w ha ⟨h1, h2⟩ => ?_)
  · have : (execOp a.eval ⟨dst, .slice t x none none none, ty, pos, af, g⟩).run P w = .ok (.value (.slice (some ⟨b, 0, none⟩) n n)) w := by
      simp only [execOp, ha.ev hx, Option.map_none]
      simp [Instr.sliceAt, run_underlying ht, Instr.sureAddr, Instr.sliceBounds, run_sizeOf hsz, add_none]
    rw [this]
    exact ⟨rfl, hs⟩
  · subst h1
    obtain ⟨k1, k2⟩ := h2.know (i := key) (n := n) hid h0 (Nat.zero_le _)
    have key' := k (some ⟨b, 0, none⟩) _ k2 ⟨some ⟨b, 0, none⟩, n, vecG (Value.int ki) n f, rfl, ⟨by omega, by omega⟩, fun a ha => by cases ha; rfl, fun _ => rfl, ?_, fun j u hu => ?_⟩
    · rw [hlen] at key'
      refine key' a w ha (k1.weaken fun i y hy => ?_)
      rw [Lo.get_cons] at hy ⊢
      split at hy
      · cases hy
      · rename_i hne; rw [if_neg hne]; exact hy
    · have : vecG (Value.int ki) n f = (List.ofFn f).map (Value.int ki) := by unfold vecG; rw [List.map_ofFn]; rfl
      rw [this]
      exact RepL.nums _
    · have hj := (List.getElem?_eq_some_iff.1 hu).1
      rw [vecG_length] at hj
      show Mem.row G b _ 0 _ b (0 + j) = some u
      rw [Nat.zero_add, Mem.row_at (Nat.zero_le _) hj, List.getElem?_toArray]
      exact hu
end
end Go.EL
