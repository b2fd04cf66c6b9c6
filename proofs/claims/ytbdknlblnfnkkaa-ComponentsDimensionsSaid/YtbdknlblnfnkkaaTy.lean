/- Plain types and how they lie in memory. No condition. -/
import Derived.Test.YtbdknlblnfnkkaaED
import Derived.Test.YtbdknlblnfnkkaaEC
namespace Go.EL
open Go Go.EL Go.RowKit Go.Proofs
structure T_law21_Input where
  l : (List (Fin 4 → Int))
  n : Int
abbrev rp_law21_Input : Rp T_law21_Input := Rp.via (Rp.pair (Rp.sl (Rp.vec .u8 4)) (Rp.int .u8)) (fun x => (x.l, x.n))
theorem at_law21_Input {G : Mem} {K : Nat → Value → Prop} {o : Nat} {x : T_law21_Input} (h : AtK rp_law21_Input G K o x) : ∃ zlp zlc, (∀ (j : Nat) (u : Value), ([.slice zlp x.l.length zlc, .int .u8 x.n]).toArray[j]? = some u → K (o + j) u) ∧ SlR (Rp.vec .u8 4) G (.slice zlp x.l.length zlc) x.l := by
  obtain ⟨c, h, hc⟩ := h
  obtain ⟨c1, d1, e1, h1, k1⟩ := h
  subst e1
  obtain ⟨v2, e2, s2⟩ := h1
  subst e2
  obtain ⟨p2, q2, f2⟩ := SlR.form s2
  subst f2
  replace k1 : _ = ([.int .u8 _] : List Value) := k1
  subst k1
  exact ⟨p2, q2, fun j u hu => hc j u (by simpa using hu), s2⟩
structure T_api_Part where
  prime : Int
  gens : (List (Fin 8 → Int))
abbrev rp_api_Part : Rp T_api_Part := Rp.via (Rp.pair (Rp.int .u8) (Rp.sl (Rp.vec .i64 8))) (fun x => (x.prime, x.gens))
theorem at_api_Part {G : Mem} {K : Nat → Value → Prop} {o : Nat} {x : T_api_Part} (h : AtK rp_api_Part G K o x) : ∃ zgensp zgensc, (∀ (j : Nat) (u : Value), ([.int .u8 x.prime, .slice zgensp x.gens.length zgensc]).toArray[j]? = some u → K (o + j) u) ∧ SlR (Rp.vec .i64 8) G (.slice zgensp x.gens.length zgensc) x.gens := by
  obtain ⟨c, h, hc⟩ := h
  obtain ⟨c1, d1, e1, h1, k1⟩ := h
  subst e1
  replace h1 : _ = ([.int .u8 _] : List Value) := h1
  subst h1
  obtain ⟨v3, e3, s3⟩ := k1
  subst e3
  obtain ⟨p3, q3, f3⟩ := SlR.form s3
  subst f3
  exact ⟨p3, q3, fun j u hu => hc j u (by simpa using hu), s3⟩
end Go.EL
