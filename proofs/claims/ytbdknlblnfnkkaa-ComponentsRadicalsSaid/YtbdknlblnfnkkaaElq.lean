/- Iterators over a map's keys: the pieces. The conditions stand in each statement. -/
import Derived.Test.YtbdknlblnfnkkaaElp
import Derived.RangeFuncGives
import Derived.RangeFuncIn
import Derived.RangeFuncLeaves
import Derived.Maps.RangeRun
import Derived.TacticsIn
import Derived.OwnWalkIn
namespace Go.EL
open Go Go.RowKit Go.Proofs Go.MapKept

/-! ### Within a round -/
theorem oper_in {P : Program} {o : Oper} {a : Act} {w : World} {K K' : Act → World → Prop} {Q : Post} {n l : Nat} (hd : ∀ c, o.op ≠ .defer c) (hK : ∀ a w, K a w → K' a w) (h : o.wp P a w K Q) : o.wpIn (Fence.wide.inRound l) n P a w K' Q := by
  refine ⟨fun _ _ => trivial, ?_⟩
  rw [Oper.semAt_plain _ _ _ hd]
  unfold Oper.wp at h
  generalize (execOp a.eval o).run P w = res at h ⊢
  cases res with
  | ok nx w' =>
    cases nx <;> simp only [Oper.upon] at h <;> simp only [Oper.uponIn]
    case value v => exact hK _ _ h
    case skip => exact hK _ _ h
    case defer d => exact hK _ _ h
    case enter f args => exact ⟨fun h => by simp [Fence.inRound, Fence.wide] at h, (callsIn_wide (n := n - 1)).2 (h.mono fun e w'' he => by cases e <;> first | exact hK _ _ he | exact he)⟩
    case row row args => exact ⟨fun h => by simp [Fence.inRound, Fence.wide] at h, fun c cs _ => let ⟨v, w', r, s⟩ := h c cs; ⟨v, w', hK _ _ r, stepsIn_wide.2 s⟩⟩
  | halt x w' => cases x <;> first | exact h.elim | exact h
theorem wpListIn_of {P : Program} {ops : Array Oper} {Q : Post} {n r : Nat} (hQ : ¬ LetsOut Q) : ∀ {l : List Oper} {a : Act} {w : World}, (∀ o ∈ l, ∀ c, o.op ≠ .defer c) → wpList P ops Q l a w → wpListIn (Fence.wide.inRound r) n P ops Q l a w
  | [], _, _, _, h => h
  | o :: l, a, w, hd, h => by
    unfold wpList at h
    unfold wpListIn
    split at h
    · rename_i hw
      rw [if_pos hw]
      rcases h with h | h
      · exact oper_in (hd o (by simp)) (fun a w h' => wpListIn_of hQ (fun o' ho' => hd o' (by simp [ho'])) h') h
      · exact absurd h.2 hQ
    · rename_i hw
      rw [if_neg hw]
      exact ⟨fun _ _ => trivial, wpListIn_of hQ (fun o' ho' => hd o' (by simp [ho'])) h⟩
theorem wpIn_region_of {P : Program} {l : List Oper} {id n r : Nat} {Q : Post} {a : Act} {w : World} (hQ : ¬ LetsOut Q) (hd : ∀ o ∈ l, ∀ c, o.op ≠ .defer c) (h : wpList P l.toArray Q l a w) : (Code.region id l.toArray false).wpIn (Fence.wide.inRound r) n P Q a w := by
  refine wpIn_region ?_
  have := wpOpsIn_eq_wpListIn (F := Fence.wide.inRound r) (n := n) (P := P) (ops := l.toArray) (Q := Q) l 0 (fun j => by simp)
  rw [List.range_eq_range', List.size_toArray, this]
  exact wpListIn_of hQ hd h

section
variable {P : Program} {N : Nat} {w0 : Bs} {G0 G : Mem} {L : Lo}
/-- The loop's record in its block. -/
theorem St.putLoop {w : World} {l key : Nat} {r r' : Loop} (hs : St w0 G0 G L w) (hl : L.get key = some ⟨l, .loop r, 0⟩) : St w0 G0 G ((key, some ⟨l, .loop r', 0⟩) :: L) (w.putObj l (.loop r')) := by
  have hb := (hs.loc key _ hl).1
  have hlt := (Array.getElem?_eq_some_iff.1 hb).1
  exact hs.upd hl (World.putObj_heap_same hlt) (Nat.le_refl _) (fun k _ hk => absurd hk (Nat.not_lt_zero k)) (fun k hk => World.putObj_heap_other hk) rfl rfl rfl rfl (by simp)
theorem Hp.st {w : World} (h : Hp G L w) : St ⟨w, L⟩ G G L w :=
  ⟨rfl, rfl, rfl, Nat.le_refl _, Nat.le_refl _, fun _ _ _ => rfl, Mem.le_refl _, h.imm, fun _ _ _ h => .inl h, fun i x hx => ⟨(h.loc i x hx).1, .inl ⟨x, hx, rfl⟩, (h.loc i x hx).2⟩, h.dist⟩
theorem St.toExt {G' : Mem} {L' : Lo} {w w' : World} (h : St ⟨w, L⟩ G G' L' w') : Ext w G L w' G' L' :=
  ⟨h.os, h.tape, h.output, h.drawn, h.size, h.block, h.base, h.imm, h.fresh, h.loc, h.dist⟩
/-- A round whose variables are laid by one region and whose body is one region. -/
theorem round_of {opsA opsB : List Oper} {idA idB blk n l fn : Nat} {r : Loop} {tmps : Array Value} {fr : Fr} {W : World} {post : Mem → Lo → Prop} (hst : r.state = .ready) (hpe : r.pending = none)
    (hA : r.assign = .region idA opsA.toArray false) (hB : r.body = .block blk (.region idB opsB.toArray false)) (dA : ∀ o ∈ opsA, ∀ c, o.op ≠ .defer c) (dB : ∀ o ∈ opsB, ∀ c, o.op ≠ .defer c) (hrel : Rel N fr ⟨tmps, []⟩) (hHp : Hp G L W) (hl : L.get 8001 = some ⟨l, .loop r, 0⟩)
    (h : WL P N opsA.toArray (fun e a w => e = .normal ∧ ∃ fr1 G1 L1, Rel N fr1 a ∧ St ⟨W, L⟩ G G1 L1 w ∧ L1.get 8001 = some ⟨l, .loop r, 0⟩ ∧
      WL P N opsB.toArray (fun e a w => e = .normal ∧ ∃ G2 L2, St ⟨W, L⟩ G G2 L2 w ∧ L2.get 8001 = some ⟨l, .loop { r with state := .busy }, 0⟩ ∧ post G2 L2) opsB fr1 (St ⟨W, L⟩ G G1 ((8001, some ⟨l, .loop { r with state := .busy }, 0⟩) :: L1))) opsA fr (St ⟨W, L⟩ G G L)) :
    RoundIn Fence.wide n P l fn tmps r.assign r.body W (fun e W' => e = .returned (.bool true) ∧ ∃ G2 L2, Ext W G L W' G2 ((8001, some ⟨l, .loop r, 0⟩) :: L2) ∧ post G2 L2) := by
  refine roundIn_of_wpIn trivial ?_
  rw [hA, hB]
  have noOut : ∀ (X : Act → World → Prop), ¬ LetsOut (fun e a w => e = Exit.normal ∧ X a w) := fun X ⟨a, w, h⟩ => by cases h.1
  have h1 := wpIn_region_of (id := idA) (n := n) (r := l) (noOut _) dA (h _ W hrel hHp.st)
  refine Code.wpIn_mono (fun e a w hq => ?_) h1
  obtain ⟨rfl, fr1, G1, L1, ha1, hs1, hl1, hw⟩ := hq
  have hb1 := (hs1.loc 8001 _ hl1).1
  refine ⟨_, run_beginRound hb1 hst, ?_⟩
  have hs2 := hs1.putLoop (r' := { r with state := .busy }) hl1
  refine wpIn_block (Code.wpIn_mono (fun e a w hq => ?_) (wpIn_region_of (id := idB) (n := n) (r := l) (noOut _) dB (hw a _ ha1 hs2)))
  obtain ⟨rfl, G2, L2, hs3, hl3, hp⟩ := hq
  have hb3 := (hs3.loc 8001 _ hl3).1
  refine ⟨_, _, run_endRound none hb3, rfl, G2, L2, ?_, hp⟩
  have hs4 := hs3.putLoop (r' := { { r with state := .busy } with state := if (none : Option Code).isNone then .ready else .done, pending := none }) hl3
  have e1 : ({ { r with state := .busy } with state := if (none : Option Code).isNone then .ready else .done, pending := none } : Loop) = r := by
    obtain ⟨s, p, f, t, ps, as1, bo, d⟩ := r
    simp only at hst hpe
    subst hst hpe
    rfl
  rw [e1] at hs4 ⊢
  exact hs4.toExt
end

/-! ### The iterator's steps -/
/-- From one world to another by an iterator's own deeds: only objects of walks that were laid since B turn. -/
structure Stp (B : Nat) (W W' : World) : Prop where
  os : W'.os = W.os
  tape : W'.tape = W.tape
  output : W'.output = W.output
  drawn : W.drawn ≤ W'.drawn
  size : W.heap.size ≤ W'.heap.size
  block : ∀ (k : Nat) (o : Obj), W.heap[k]? = some o → (k < B ∨ o.isWalk = false) → W'.heap[k]? = some o
theorem Stp.refl (B : Nat) (W : World) : Stp B W W := ⟨rfl, rfl, rfl, Nat.le_refl _, Nat.le_refl _, fun _ _ h _ => h⟩
theorem Stp.trans {B : Nat} {W W' W'' : World} (h : Stp B W W') (k : Stp B W' W'') : Stp B W W'' :=
  ⟨k.os.trans h.os, k.tape.trans h.tape, k.output.trans h.output, Nat.le_trans h.drawn k.drawn, Nat.le_trans h.size k.size, fun j o e1 e2 => k.block j o (h.block j o e1 e2) e2⟩
theorem Stp.alloc (B : Nat) (W : World) (o : Obj) : Stp B W (W.alloc o) :=
  ⟨rfl, rfl, rfl, Nat.le_refl _, by simp, fun k o' h _ => (Below.heap_alloc W o k (Array.getElem?_eq_some_iff.1 h).1).trans h⟩
/-- What is known and owned abides it. -/
theorem St.stp {w0 : Bs} {G0 G : Mem} {L : Lo} {B : Nat} {W W' : World} (h : St w0 G0 G L W) (hs : Stp B W W') (hB : w0.w.heap.size ≤ B) (hL : ∀ i x, L.get i = some x → x.o.isWalk = false) : St w0 G0 G L W' := by
  refine ⟨hs.os.trans h.os, hs.tape.trans h.tape, hs.output.trans h.output, Nat.le_trans h.drawn hs.drawn, Nat.le_trans h.size hs.size, fun k hk hn => ?_, h.base, fun b o v hv => ?_, h.fresh, fun i x hx => ⟨hs.block _ _ (h.loc i x hx).1 (.inr (hL i x hx)), (h.loc i x hx).2⟩, h.dist⟩
  · have h1 := h.block k hk hn
    have hk' : k < W.heap.size := Nat.lt_of_lt_of_le hk h.size
    rw [← h1, Array.getElem?_eq_getElem hk']
    exact hs.block k _ (Array.getElem?_eq_getElem hk') (.inl (Nat.lt_of_lt_of_le hk hB))
  · have hc := h.imm b o v hv
    obtain ⟨ob, h1, h2⟩ := not_walk_of_cell hc
    have h1' : W'.heap[b]? = some ob := hs.block b ob h1 (.inr h2)
    have h1 : W.heap[b]? = some ob := h1
    simp only [World.cell?, h1, h1'] at hc ⊢
    exact hc
/-- A walk over a map under way: which entries have come. -/
structure Rng (b r : Nat) (es : Array MapEntry) (clock : Nat) (cons : List MapEntry) (left : Nat) (w : World) : Prop where
  map : w.heap[b]? = some (.map es clock)
  iter : ∃ seen c0, w.heap[r]? = some (.mapIter (some b) clock seen c0) ∧ clock ≤ c0 ∧ (leftOf es seen).size = left ∧ ∀ x, x ∈ cons ↔ x ∈ es.toList ∧ seen.contains x.born = true
  nodup : cons.Nodup
theorem born_inj {es : Array MapEntry} {clock : Nat} (h : Stamped es clock) {x y : MapEntry} (hx : x ∈ es.toList) (hy : y ∈ es.toList) (e : x.born = y.born) : x = y := by
  have hn := h.2.1
  have : ∀ (l : List MapEntry), (l.map (·.born)).Nodup → x ∈ l → y ∈ l → x = y := by
    intro l
    induction l with
    | nil => intro _ hx; cases hx
    | cons z l ih =>
      intro hn hx hy
      simp only [List.map_cons, List.nodup_cons, List.mem_map, not_exists, not_and] at hn
      rcases List.mem_cons.1 hx with h1 | h1 <;> rcases List.mem_cons.1 hy with h2 | h2
      · rw [h1, h2]
      · exact absurd (by rw [← e, h1]) (hn.1 y h2)
      · exact absurd (by rw [e, h2]) (hn.1 x h1)
      · exact ih hn.2 h1 h2
  exact this _ hn hx hy
section
variable {P : Program} {b r : Nat} {es : Array MapEntry} {clock : Nat} {cons : List MapEntry} {left : Nat} {w : World}
theorem Rng.next (h : Rng b r es clock cons left w) (hS : Stamped es clock) (ty : TypeId) :
    (left = 0 ∧ (Instr.next (.pointer (some ⟨r, 0, none⟩)) false ty).run P w = .ok (.tuple #[.bool false]) w) ∨
    ∃ e ∈ es.toList, ∃ w' left', (¬ e ∈ cons) ∧ (Instr.next (.pointer (some ⟨r, 0, none⟩)) false ty).run P w = .ok (.tuple #[.bool true, e.key, e.val]) w' ∧ Rng b r es clock (cons ++ [e]) left' w' ∧ left' < left ∧
      (Instr.entry (.pointer (some ⟨r, 0, none⟩))).run P w' = .ok (.tuple #[e.key, e.val]) w' ∧ ∀ B, B ≤ r → Stp B w w' := by
  obtain ⟨seen, c0, hr, hc, hl, hm⟩ := h.iter
  rcases run_next_at (P := P) w ty r b clock c0 seen es clock hr h.map hS.1 hc with ⟨h0, h1⟩ | ⟨e, he, w1, hw1, h1⟩
  · exact .inl ⟨by omega, h1⟩
  · have he' : e ∈ es.toList ∧ seen.contains e.born = false := by
      simp only [leftOf, Array.toList_filter, List.mem_filter, Bool.not_eq_true'] at he
      exact he
    have hrb : r ≠ b := fun e' => by subst e'; have := h.map; rw [hr] at this; cases this
    have hrl : r < w.heap.size := (Array.getElem?_eq_some_iff.1 hr).1
    have hsame : w1.heap = w.heap := by rcases hw1 with rfl | rfl <;> rfl
    have hdr : w.drawn ≤ w1.drawn := by rcases hw1 with rfl | rfl; exact Nat.le_refl _; exact Nat.le_succ _
    have hor : w1.os = w.os ∧ w1.tape = w.tape ∧ w1.output = w.output := by rcases hw1 with rfl | rfl <;> exact ⟨rfl, rfl, rfl⟩
    have hn1 : (ChangeMaps.setBlock w1 r (.mapIter (some b) clock (seen.push e.born) clock)).heap[r]? = some (.mapIter (some b) clock (seen.push e.born) clock) := by
      simp [ChangeMaps.setBlock, hsame, hrl]
    have hn2 : ∀ k, k ≠ r → (ChangeMaps.setBlock w1 r (.mapIter (some b) clock (seen.push e.born) clock)).heap[k]? = w.heap[k]? := fun k hk => by
      simp [ChangeMaps.setBlock, hsame, Array.getElem?_setIfInBounds, Ne.symm hk]
    refine .inr ⟨e, he'.1, ChangeMaps.setBlock w1 r (.mapIter (some b) clock (seen.push e.born) clock), (leftOf es (seen.push e.born)).size, fun hc' => by { have := ((hm e).1 hc').2; rw [he'.2] at this; cases this }, h1, ⟨(hn2 b (Ne.symm hrb)).trans h.map, ⟨_, clock, hn1, Nat.le_refl _, rfl, fun x => ?_⟩, ?_⟩, ?_, ?_, fun B hB => ⟨hor.1, hor.2.1, hor.2.2, hdr, by simp [ChangeMaps.setBlock, hsame], fun k o hk ho => ?_⟩⟩
    · simp only [List.mem_append, List.mem_singleton, Array.contains_push, Bool.or_eq_true, beq_iff_eq]
      constructor
      · rintro (hx | rfl)
        · exact ⟨((hm x).1 hx).1, .inl ((hm x).1 hx).2⟩
        · exact ⟨he'.1, .inr rfl⟩
      · rintro ⟨hx, hx' | hx'⟩
        · exact .inl ((hm x).2 ⟨hx, hx'⟩)
        · exact .inr (born_inj hS hx he'.1 hx')
    · refine List.nodup_append.2 ⟨h.nodup, by simp, fun a ha c hc' => ?_⟩
      simp only [List.mem_singleton] at hc'
      subst hc'
      intro e'
      subst e'
      have := ((hm a).1 ha).2
      rw [he'.2] at this; cases this
    · have hsub : leftOf es (seen.push e.born) = (leftOf es seen).filter fun x => x.born != e.born := by
        simp only [leftOf, Array.filter_filter, Array.contains_push, Bool.not_or]
        congr 1
        funext x
        rw [Bool.and_comm]; rfl
      rw [hsub, ← hl]
      have : ∀ (l : List MapEntry), e ∈ l → (l.filter fun x => x.born != e.born).length < l.length := by
        intro l hl'
        have h1 := List.length_filter_le (fun x : MapEntry => x.born != e.born) l
        rcases Nat.lt_or_ge (l.filter fun x => x.born != e.born).length l.length with h2 | h2
        · exact h2
        · have := List.length_filter_eq_length_iff.1 (Nat.le_antisymm h1 h2) e hl'
          simp at this
      have := this (leftOf es seen).toList he
      have e2 : ((leftOf es seen).filter fun x => x.born != e.born).size = ((leftOf es seen).toList.filter fun x => x.born != e.born).length := by
        rw [← Array.toList_filter, Array.length_toList]
      rw [e2, ← Array.length_toList (xs := leftOf es seen)]
      exact this
    · exact run_entry_at _ r b clock seen es clock e hn1 ((hn2 b (Ne.symm hrb)).trans h.map) he'.1 hS.2.1
    · by_cases hkr : k = r
      · subst hkr
        rw [hr] at hk; cases hk
        rcases ho with ho | ho
        · omega
        · cases ho
      · rw [hn2 k hkr]; exact hk
theorem Rng.stp {w' : World} (h : Rng b r es clock cons left w) (hk : KeepsWalks w w') : Rng b r es clock cons left w' := by
  obtain ⟨seen, c0, hr, rest⟩ := h.iter
  exact ⟨hk.same b _ h.map rfl, ⟨seen, c0, hk.same r _ hr rfl, rest⟩, h.nodup⟩
theorem Rng.done (h : Rng b r es clock cons 0 w) (hS : Stamped es clock) : cons.Perm es.toList := by
  obtain ⟨seen, c0, hr, hc, hl, hm⟩ := h.iter
  have hn : es.toList.Nodup := by
    have := hS.2.1
    exact (List.pairwise_map.1 this).imp fun hne e => hne (by rw [e])
  refine (List.perm_ext_iff_of_nodup h.nodup hn).2 fun x => ⟨fun hx => ((hm x).1 hx).1, fun hx => (hm x).2 ⟨hx, ?_⟩⟩
  have h0 : leftOf es seen = #[] := Array.eq_empty_of_size_eq_zero hl
  cases hs : seen.contains x.born with
  | true => rfl
  | false =>
    have : x ∈ (leftOf es seen).toList := by simp only [leftOf, Array.toList_filter, List.mem_filter, Bool.not_eq_true']; exact ⟨hx, hs⟩
    rw [h0] at this; simp at this
end

/-! ### What an iterator gives -/
def Gives {K : Type} (P : Program) (g : Nat) (lb : Array Value) (enc : K → Value) (ok : K → Prop) (S : List K → Prop) (n : Nat) (w : World) : Prop :=
  ∀ (l : Nat) (J : List K → World → Prop) (W : World), (∀ (k : Nat) (o : Obj), w.heap[k]? = some o → W.heap[k]? = some o) → (∀ s W1 W2, J s W1 → Stp W.heap.size W1 W2 → J s W2) →
    (∀ pre x W1, J pre W1 → ok x → pre.length < n → YieldAt Fence.wide 0 P l #[enc x] W1 fun e W2 => e = .returned (.bool true) ∧ J (pre ++ [x]) W2 ∧ KeepsWalks W1 W2) → J [] W →
    Calls P g (#[.func (.yield l) #[] #[]] ++ lb) W fun e W' => (∃ v, e = .returned v) ∧ ∃ xs, S xs ∧ J xs W'
end Go.EL
