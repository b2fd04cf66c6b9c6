/- Strings: bytes of them, and strings of bytes. The conditions stand in each statement. -/
import Derived.Test.YtbdknlblnfnkkaaElu
import Derived.Laws.BytesString
namespace Go.EL
open Go Go.RowKit Go.Proofs
/-- A byte of a string. -/
def byteAt (s : ByteArray) (i : Int) : Int := ((s.data.getD i.toNat 0).toNat : Int)
/-- The string of bytes. -/
def bytesOf (l : List Int) : ByteArray := l.foldl (fun r n => r.push (UInt8.ofNat n.toNat)) ByteArray.empty
section
variable {P : Program} {N : Nat} {fr : Fr} {S : Asrt} {dst : Option Nat} {ty : TypeId} {pos : String} {af : Array Edge} {g : Option (Nat × Bool)} {w0 : Bs} {G0 G : Mem} {L : Lo}
theorem Y0.indexS {t : TypeId} {x y : Operand} {s : ByteArray} {k : IntKind} {i : Int} (ht : P.underlying t = some .string) (hx : fr.ev x = some (.string s)) (hy : fr.ev y = some (.int k i)) (hi : 0 ≤ i ∧ i < (s.size : Int)) :
    Y0 P N ⟨dst, .index t x y, ty, pos, af, g⟩ fr S (.int .u8 (byteAt s i)) := fun a w ha _ => by
  have hlt : i.toNat < s.size := by omega
  have e1 : s[i.toNat]? = some (s.data.getD i.toNat 0) := by
    rw [getElem?_pos s i.toNat hlt]
    have hlt' : i.toNat < s.data.size := hlt
    simp only [Array.getD, dif_pos hlt']
    rfl
  simp [execOp, ha.ev hx, ha.ev hy, Instr.index, asIntOf, run_underlying ht, hi.1, e1, byteAt]
theorem ba_beq (a b : ByteArray) : (a == b) = decide (a = b) := by
  obtain ⟨a⟩ := a
  obtain ⟨b⟩ := b
  have h1 : ((⟨a⟩ : ByteArray) == ⟨b⟩) = (a == b) := rfl
  rw [h1]
  by_cases h : a = b
  · subst h; simp
  · have : ¬ (⟨a⟩ : ByteArray) = ⟨b⟩ := fun e => h (by cases e; rfl)
    simp [h, this]
theorem ba_lbeq (a b : ByteArray) : (a.toList == b.toList) = decide (a = b) := by
  rw [ByteArray.toList_eq, ByteArray.toList_eq]
  obtain ⟨⟨a⟩⟩ := a
  obtain ⟨⟨b⟩⟩ := b
  by_cases h : a = b
  · subst h; simp
  · have h2 : ¬ (⟨⟨a⟩⟩ : ByteArray) = ⟨⟨b⟩⟩ := fun e => h (by cases e; rfl)
    simp [h]
theorem Y0.eqlS {t : TypeId} {x y : Operand} {s u : ByteArray} {b : TypeId} (ht : P.underlying t = some .string) (hx : fr.ev x = some (.string s)) (hy : fr.ev y = some (.string u)) : Y0 P N ⟨dst, .binOp .eql t x y b, ty, pos, af, g⟩ fr S (.bool (decide (s = u))) :=
  Y0.bin hx hy (guard_string _ _ _ _ _ _) fun w => by simp [binOp, Op.stringOp, ba_lbeq]
theorem Y0.neqS {t : TypeId} {x y : Operand} {s u : ByteArray} {b : TypeId} (ht : P.underlying t = some .string) (hx : fr.ev x = some (.string s)) (hy : fr.ev y = some (.string u)) : Y0 P N ⟨dst, .binOp .neq t x y b, ty, pos, af, g⟩ fr S (.bool (decide (¬ s = u))) :=
  Y0.bin hx hy (guard_string _ _ _ _ _ _) fun w => by simp [binOp, Op.stringOp, ba_lbeq]
theorem RepL.ints {k : IntKind} : ∀ {xs : List Int} {cs : List Value}, RepL (Rp.int k) G cs xs → cs = xs.map (Value.int k)
  | [], cs, h => by simpa [RepL] using h
  | y :: ys, _, ⟨c, d, e0, e1, e2⟩ => by
    have e1 : c = [.int k y] := e1
    rw [e0, e1, RepL.ints e2]; rfl
theorem Y0.convBS {t d e : TypeId} {x : Operand} {v : Value} {xs : List Int} (ht : P.underlying t = some (.slice e)) (he : P.underlying e = some (.int .u8)) (hd : P.underlying d = some .string) (h : SlR (Rp.int .u8) G v xs) (hx : fr.ev x = some v) :
    Y0 P N ⟨dst, .convert t d x, ty, pos, af, g⟩ fr (St w0 G0 G L) (.string (bytesOf xs)) := fun a w ha hs => by
  obtain ⟨p, cap, cs, rfl, _, h2, h3, h4, h5⟩ := h
  have hcs := h4.ints
  subst hcs
  have hr : (convert t d (.slice p xs.length cap)).run P w = .ok (.string (bytesOf xs)) w := by
    rw [run_convert_bytes_string w t d e p xs.length cap ht he hd]
    cases p with
    | none =>
      have : xs = [] := by
        cases xs with
        | nil => rfl
        | cons y ys => have := h3 (by simp); cases this
      subst this
      simp [Conv.bytesToString, bytesOf]
    | some ad =>
      obtain ⟨ab, ao, asp⟩ := ad
      have := h2 _ rfl
      dsimp only at this
      subst this
      refine run_bytesToString w _ _ _ xs ?_
      have := run_loadCells_list (P := P) w ⟨ab, ao, none⟩ (xs.map (Value.int .u8)) (fun j v hv => by rw [add_none]; exact hs.imm _ _ _ (h5 j v hv))
      simpa using this
  simp [execOp, ha.ev hx, hr]
end
end Go.EL
