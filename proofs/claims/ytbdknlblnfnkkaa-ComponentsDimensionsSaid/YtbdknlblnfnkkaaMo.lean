/- Plain models of functions. No condition. -/
import Derived.Test.YtbdknlblnfnkkaaTy
import Derived.Test.YtbdknlblnfnkkaaPA
namespace Go.EL
open Go Go.EL Go.RowKit Go.Proofs
def sortBy_monomial_Cmp (l : List M) : Comp (List M) := Comp.chk (l.length ≤ small) (Comp.ret (sortBy cmpM l))
def sortBy_irreducible_c1 (l : List M) : Comp (List M) := Comp.chk (l.length ≤ small) (Comp.ret (sortBy (fun a b => cmpM b a) l))
def str_d97f7905 : ByteArray := ⟨#[0, 1, 1, 2, 1, 2, 2, 3, 1, 2, 2, 3, 2, 3, 3, 4, 1, 2, 2, 3, 2, 3, 3, 4, 2, 3, 3, 4, 3, 4, 4, 5, 1, 2, 2, 3, 2, 3, 3, 4, 2, 3, 3, 4, 3, 4, 4, 5, 2, 3, 3, 4, 3, 4, 4, 5, 3, 4, 4, 5, 4, 5, 5, 6, 1, 2, 2, 3, 2, 3, 3, 4, 2, 3, 3, 4, 3, 4, 4, 5, 2, 3, 3, 4, 3, 4, 4, 5, 3, 4, 4, 5, 4, 5, 5, 6, 2, 3, 3, 4, 3, 4, 4, 5, 3, 4, 4, 5, 4, 5, 5, 6, 3, 4, 4, 5, 4, 5, 5, 6, 4, 5, 5, 6, 5, 6, 6, 7, 1, 2, 2, 3, 2, 3, 3, 4, 2, 3, 3, 4, 3, 4, 4, 5, 2, 3, 3, 4, 3, 4, 4, 5, 3, 4, 4, 5, 4, 5, 5, 6, 2, 3, 3, 4, 3, 4, 4, 5, 3, 4, 4, 5, 4, 5, 5, 6, 3, 4, 4, 5, 4, 5, 5, 6, 4, 5, 5, 6, 5, 6, 6, 7, 2, 3, 3, 4, 3, 4, 4, 5, 3, 4, 4, 5, 4, 5, 5, 6, 3, 4, 4, 5, 4, 5, 5, 6, 4, 5, 5, 6, 5, 6, 6, 7, 3, 4, 4, 5, 4, 5, 5, 6, 4, 5, 5, 6, 5, 6, 6, 7, 4, 5, 5, 6, 5, 6, 6, 7, 5, 6, 6, 7, 6, 7, 7, 8]⟩
def str_633d862b : ByteArray := ⟨#[0, 1, 2, 2, 3, 3, 3, 3, 4, 4, 4, 4, 4, 4, 4, 4, 5, 5, 5, 5, 5, 5, 5, 5, 5, 5, 5, 5, 5, 5, 5, 5, 6, 6, 6, 6, 6, 6, 6, 6, 6, 6, 6, 6, 6, 6, 6, 6, 6, 6, 6, 6, 6, 6, 6, 6, 6, 6, 6, 6, 6, 6, 6, 6, 7, 7, 7, 7, 7, 7, 7, 7, 7, 7, 7, 7, 7, 7, 7, 7, 7, 7, 7, 7, 7, 7, 7, 7, 7, 7, 7, 7, 7, 7, 7, 7, 7, 7, 7, 7, 7, 7, 7, 7, 7, 7, 7, 7, 7, 7, 7, 7, 7, 7, 7, 7, 7, 7, 7, 7, 7, 7, 7, 7, 7, 7, 7, 7, 8, 8, 8, 8, 8, 8, 8, 8, 8, 8, 8, 8, 8, 8, 8, 8, 8, 8, 8, 8, 8, 8, 8, 8, 8, 8, 8, 8, 8, 8, 8, 8, 8, 8, 8, 8, 8, 8, 8, 8, 8, 8, 8, 8, 8, 8, 8, 8, 8, 8, 8, 8, 8, 8, 8, 8, 8, 8, 8, 8, 8, 8, 8, 8, 8, 8, 8, 8, 8, 8, 8, 8, 8, 8, 8, 8, 8, 8, 8, 8, 8, 8, 8, 8, 8, 8, 8, 8, 8, 8, 8, 8, 8, 8, 8, 8, 8, 8, 8, 8, 8, 8, 8, 8, 8, 8, 8, 8, 8, 8, 8, 8, 8, 8, 8, 8, 8, 8, 8, 8, 8, 8, 8, 8, 8, 8, 8, 8]⟩
def monomial_Cmp_k1 (a1 : (Fin 8 → Int)) (b1 : (Fin 8 → Int)) (i1 : Int) : Comp Int :=
  Comp.chk (0 ≤ i1 ∧ i1 < 8) (Comp.chk (0 ≤ i1 ∧ i1 < 8) (if (getF a1 i1) < (getF b1 i1) then (Comp.ret (-1)) else (Comp.ret 1)))
def monomial_Cmp_L2 (a1 : (Fin 8 → Int)) (b1 : (Fin 8 → Int)) : Int → Comp Int :=
  Comp.loop fun gs => match gs with | i2 => Comp.chk (0 ≤ i2 ∧ i2 < 8) (Comp.chk (0 ≤ i2 ∧ i2 < 8) (if (getF a1 i2) = (getF b1 i2) then (Comp.ret (.inl (IntKind.i64.wrap (i2 + 1)))) else (Comp.ret (.inr i2))))
def monomial_Cmp (a1 : (Fin 8 → Int)) (b1 : (Fin 8 → Int)) : Comp Int :=
  if a1 = b1 then (Comp.ret 0) else (Comp.next (monomial_Cmp_L2 a1 b1 0) fun ov => match ov with | i1 => monomial_Cmp_k1 a1 b1 i1)
def components_irreducible_c1 (a1 : (Fin 8 → Int)) (b1 : (Fin 8 → Int)) : Comp Int :=
  Comp.bind (monomial_Cmp b1 a1) fun yv1 => Comp.ret yv1
def cmp_isNaN_uint8 (x1 : Int) : Comp Bool :=
  Comp.ret (decide (¬ x1 = x1))
def cmp_Less_uint8 (x1 : Int) (yv1 : Int) : Comp Bool :=
  Comp.bind (cmp_isNaN_uint8 x1) fun yv2 => match yv2 with | false => (Comp.ret (decide (x1 < yv1))) | true => (Comp.bind (cmp_isNaN_uint8 yv1) fun yv3 => match yv3 with | false => (Comp.ret true) | true => (Comp.ret (decide (x1 < yv1))))
def slices_insertionSortOrdered_uint8_k1 (data2 : (List Int)) : Comp (List Int) :=
  Comp.ret data2
def slices_insertionSortOrdered_uint8_k3 (i1 : Int) (data4 : (List Int)) : Comp (((List Int) × Int) ⊕ (List Int)) :=
  Comp.ret (.inl (data4, IntKind.i64.wrap (i1 + 1)))
def slices_insertionSortOrdered_uint8_L4 (a1 : Int) : ((List Int) × Int) → Comp (List Int) :=
  Comp.loop fun gs => match gs with | (data5, j1) => if a1 < j1 then (Comp.at' data5 j1 fun x1 => Comp.at' data5 (IntKind.i64.wrap (j1 - 1)) fun x2 => Comp.bind (cmp_Less_uint8 x1 x2) fun yv1 => if yv1 = true then (Comp.at' data5 (IntKind.i64.wrap (j1 - 1)) fun x3 => Comp.at' data5 j1 fun x4 => Comp.at' data5 j1 fun x5 => Comp.at' (data5.set j1.toNat x3) (IntKind.i64.wrap (j1 - 1)) fun x6 => Comp.ret (.inl (((data5.set j1.toNat x3).set (IntKind.i64.wrap (j1 - 1)).toNat x4), IntKind.i64.wrap (j1 - 1)))) else (Comp.ret (.inr data5))) else (Comp.ret (.inr data5))
def slices_insertionSortOrdered_uint8_L2 (a1 : Int) (b1 : Int) : ((List Int) × Int) → Comp (List Int) :=
  Comp.loop fun gs => match gs with | (data3, i1) => if i1 < b1 then (Comp.next (slices_insertionSortOrdered_uint8_L4 a1 (data3, i1)) fun ov => match ov with | data4 => slices_insertionSortOrdered_uint8_k3 i1 data4) else (Comp.ret (.inr data3))
def slices_insertionSortOrdered_uint8 (data1 : (List Int)) (a1 : Int) (b1 : Int) : Comp (List Int) :=
  Comp.next (slices_insertionSortOrdered_uint8_L2 a1 b1 (data1, IntKind.i64.wrap (a1 + 1))) fun ov => match ov with | data2 => slices_insertionSortOrdered_uint8_k1 data2
def slices_order2Ordered_uint8 (data1 : (List Int)) (a1 : Int) (b1 : Int) (swaps1 : Int) : Comp (Int × Int × Int) :=
  Comp.at' data1 b1 fun x1 => Comp.at' data1 a1 fun x2 => Comp.bind (cmp_Less_uint8 x1 x2) fun yv1 => if yv1 = true then (Comp.ret (b1, a1, IntKind.i64.wrap (swaps1 + 1))) else (Comp.ret (a1, b1, swaps1))
def slices_medianOrdered_uint8 (data1 : (List Int)) (a1 : Int) (b1 : Int) (c1 : Int) (swaps1 : Int) : Comp (Int × Int) :=
  Comp.bind (slices_order2Ordered_uint8 data1 a1 b1 swaps1) fun yv1 => Comp.bind (slices_order2Ordered_uint8 data1 yv1.2.1 c1 yv1.2.2) fun yv2 => Comp.bind (slices_order2Ordered_uint8 data1 yv1.1 yv2.1 yv2.2.2) fun yv3 => Comp.ret (yv3.2.1, yv3.2.2)
def slices_choosePivotOrdered_uint8 (data1 : (List Int)) (a1 : Int) (b1 : Int) : Comp (Int × Int) :=
  if 8 ≤ (IntKind.i64.wrap (b1 - a1)) then (if 50 ≤ (IntKind.i64.wrap (b1 - a1)) then Comp.fail else (Comp.bind (slices_medianOrdered_uint8 data1 (IntKind.i64.wrap (a1 + (IntKind.i64.wrap ((IntKind.i64.wrap (Int.tdiv (IntKind.i64.wrap (b1 - a1)) 4)) * 1)))) (IntKind.i64.wrap (a1 + (IntKind.i64.wrap ((IntKind.i64.wrap (Int.tdiv (IntKind.i64.wrap (b1 - a1)) 4)) * 2)))) (IntKind.i64.wrap (a1 + (IntKind.i64.wrap ((IntKind.i64.wrap (Int.tdiv (IntKind.i64.wrap (b1 - a1)) 4)) * 3)))) 0) fun yv1 => if yv1.2 = 0 then (Comp.ret (yv1.1, 1)) else (if yv1.2 = 12 then (Comp.ret (yv1.1, 2)) else (Comp.ret (yv1.1, 0))))) else (if (0 : Int) = 0 then (Comp.ret (IntKind.i64.wrap (a1 + (IntKind.i64.wrap ((IntKind.i64.wrap (Int.tdiv (IntKind.i64.wrap (b1 - a1)) 4)) * 2))), 1)) else (if (0 : Int) = 12 then (Comp.ret (IntKind.i64.wrap (a1 + (IntKind.i64.wrap ((IntKind.i64.wrap (Int.tdiv (IntKind.i64.wrap (b1 - a1)) 4)) * 2))), 2)) else (Comp.ret (IntKind.i64.wrap (a1 + (IntKind.i64.wrap ((IntKind.i64.wrap (Int.tdiv (IntKind.i64.wrap (b1 - a1)) 4)) * 2))), 0))))
def slices_partitionOrdered_uint8_k1 (a1_1 : Int) (v0_1 : (List Int)) (v11_2 : Int) : Comp (Int × Bool × (List Int)) :=
  Comp.at' v0_1 a1_1 fun x13 => Comp.at' v0_1 v11_2 fun x14 => Comp.at' v0_1 v11_2 fun x15 => Comp.at' (v0_1.set v11_2.toNat x13) a1_1 fun x16 => Comp.ret (v11_2, false, ((v0_1.set v11_2.toNat x13).set a1_1.toNat x14))
def slices_partitionOrdered_uint8_k3 (v0_2 : (List Int)) (v10_3 : Int) (v11_4 : Int) : Comp (((List Int) × Int × Int) ⊕ (((List Int) × Int))) :=
  if v11_4 < v10_3 then (Comp.ret (.inr (v0_2, v11_4))) else (Comp.at' v0_2 v11_4 fun x17 => Comp.at' v0_2 v10_3 fun x18 => Comp.at' v0_2 v10_3 fun x19 => Comp.at' (v0_2.set v10_3.toNat x17) v11_4 fun x20 => Comp.ret (.inl (((v0_2.set v10_3.toNat x17).set v11_4.toNat x18), IntKind.i64.wrap (v10_3 + 1), IntKind.i64.wrap (v11_4 - 1))))
def slices_partitionOrdered_uint8_L4 (a1_1 : Int) (v0_2 : (List Int)) (v10_3 : Int) : Int → Comp Int :=
  Comp.loop fun gs => match gs with | v11_5 => if v10_3 ≤ v11_5 then (Comp.at' v0_2 v11_5 fun x21 => Comp.at' v0_2 a1_1 fun x22 => Comp.bind (cmp_Less_uint8 x21 x22) fun yv1 => if (!yv1) = true then (Comp.ret (.inl (IntKind.i64.wrap (v11_5 - 1)))) else (Comp.ret (.inr v11_5))) else (Comp.ret (.inr v11_5))
def slices_partitionOrdered_uint8_k5 (a1_1 : Int) (v0_2 : (List Int)) (v11_3 : Int) (v10_3 : Int) : Comp (((List Int) × Int × Int) ⊕ (((List Int) × Int))) :=
  Comp.next (slices_partitionOrdered_uint8_L4 a1_1 v0_2 v10_3 v11_3) fun ov => match ov with | v11_4 => slices_partitionOrdered_uint8_k3 v0_2 v10_3 v11_4
def slices_partitionOrdered_uint8_L6 (a1_1 : Int) (v0_2 : (List Int)) (v11_3 : Int) : Int → Comp Int :=
  Comp.loop fun gs => match gs with | v10_4 => if v10_4 ≤ v11_3 then (Comp.at' v0_2 v10_4 fun x23 => Comp.at' v0_2 a1_1 fun x24 => Comp.bind (cmp_Less_uint8 x23 x24) fun yv2 => if yv2 = true then (Comp.ret (.inl (IntKind.i64.wrap (v10_4 + 1)))) else (Comp.ret (.inr v10_4))) else (Comp.ret (.inr v10_4))
def slices_partitionOrdered_uint8_L2 (a1_1 : Int) : ((List Int) × Int × Int) → Comp (((List Int) × Int)) :=
  Comp.loop fun gs => match gs with | (v0_2, v10_2, v11_3) => Comp.next (slices_partitionOrdered_uint8_L6 a1_1 v0_2 v11_3 v10_2) fun ov => match ov with | v10_3 => slices_partitionOrdered_uint8_k5 a1_1 v0_2 v11_3 v10_3
def slices_partitionOrdered_uint8_k7 (a0_1 : (List Int)) (a1_1 : Int) (a3_1 : Int) (x1 : Int) (x2 : Int) (v10_1 : Int) (v11_1 : Int) : Comp (Int × Bool × (List Int)) :=
  if v11_1 < v10_1 then (Comp.at' ((a0_1.set a1_1.toNat x1).set a3_1.toNat x2) a1_1 fun x5 => Comp.at' ((a0_1.set a1_1.toNat x1).set a3_1.toNat x2) v11_1 fun x6 => Comp.at' ((a0_1.set a1_1.toNat x1).set a3_1.toNat x2) v11_1 fun x7 => Comp.at' (((a0_1.set a1_1.toNat x1).set a3_1.toNat x2).set v11_1.toNat x5) a1_1 fun x8 => Comp.ret (v11_1, true, ((((a0_1.set a1_1.toNat x1).set a3_1.toNat x2).set v11_1.toNat x5).set a1_1.toNat x6))) else (Comp.at' ((a0_1.set a1_1.toNat x1).set a3_1.toNat x2) v11_1 fun x9 => Comp.at' ((a0_1.set a1_1.toNat x1).set a3_1.toNat x2) v10_1 fun x10 => Comp.at' ((a0_1.set a1_1.toNat x1).set a3_1.toNat x2) v10_1 fun x11 => Comp.at' (((a0_1.set a1_1.toNat x1).set a3_1.toNat x2).set v10_1.toNat x9) v11_1 fun x12 => Comp.next (slices_partitionOrdered_uint8_L2 a1_1 (((((a0_1.set a1_1.toNat x1).set a3_1.toNat x2).set v10_1.toNat x9).set v11_1.toNat x10), IntKind.i64.wrap (v10_1 + 1), IntKind.i64.wrap (v11_1 - 1))) fun ov => match ov with | (v0_1, v11_2) => slices_partitionOrdered_uint8_k1 a1_1 v0_1 v11_2)
def slices_partitionOrdered_uint8_L8 (a0_1 : (List Int)) (a1_1 : Int) (a3_1 : Int) (x1 : Int) (x2 : Int) (v10_1 : Int) : Int → Comp Int :=
  Comp.loop fun gs => match gs with | v11_6 => if v10_1 ≤ v11_6 then (Comp.at' ((a0_1.set a1_1.toNat x1).set a3_1.toNat x2) v11_6 fun x25 => Comp.at' ((a0_1.set a1_1.toNat x1).set a3_1.toNat x2) a1_1 fun x26 => Comp.bind (cmp_Less_uint8 x25 x26) fun yv3 => if (!yv3) = true then (Comp.ret (.inl (IntKind.i64.wrap (v11_6 - 1)))) else (Comp.ret (.inr v11_6))) else (Comp.ret (.inr v11_6))
def slices_partitionOrdered_uint8_k9 (a0_1 : (List Int)) (a1_1 : Int) (a2_1 : Int) (a3_1 : Int) (x1 : Int) (x2 : Int) (v10_1 : Int) : Comp (Int × Bool × (List Int)) :=
  Comp.next (slices_partitionOrdered_uint8_L8 a0_1 a1_1 a3_1 x1 x2 v10_1 (IntKind.i64.wrap (a2_1 - 1))) fun ov => match ov with | v11_1 => slices_partitionOrdered_uint8_k7 a0_1 a1_1 a3_1 x1 x2 v10_1 v11_1
def slices_partitionOrdered_uint8_L10 (a0_1 : (List Int)) (a1_1 : Int) (a2_1 : Int) (a3_1 : Int) (x1 : Int) (x2 : Int) : Int → Comp Int :=
  Comp.loop fun gs => match gs with | v10_5 => if v10_5 ≤ (IntKind.i64.wrap (a2_1 - 1)) then (Comp.at' ((a0_1.set a1_1.toNat x1).set a3_1.toNat x2) v10_5 fun x27 => Comp.at' ((a0_1.set a1_1.toNat x1).set a3_1.toNat x2) a1_1 fun x28 => Comp.bind (cmp_Less_uint8 x27 x28) fun yv4 => if yv4 = true then (Comp.ret (.inl (IntKind.i64.wrap (v10_5 + 1)))) else (Comp.ret (.inr v10_5))) else (Comp.ret (.inr v10_5))
def slices_partitionOrdered_uint8 (a0_1 : (List Int)) (a1_1 : Int) (a2_1 : Int) (a3_1 : Int) : Comp (Int × Bool × (List Int)) :=
  Comp.at' a0_1 a3_1 fun x1 => Comp.at' a0_1 a1_1 fun x2 => Comp.at' a0_1 a1_1 fun x3 => Comp.at' (a0_1.set a1_1.toNat x1) a3_1 fun x4 => Comp.next (slices_partitionOrdered_uint8_L10 a0_1 a1_1 a2_1 a3_1 x1 x2 (IntKind.i64.wrap (a1_1 + 1))) fun ov => match ov with | v10_1 => slices_partitionOrdered_uint8_k9 a0_1 a1_1 a2_1 a3_1 x1 x2 v10_1
def slices_pdqsortOrdered_uint8_k1 (v0_1 : (List Int)) : Comp (List Int) :=
  Comp.ret v0_1
def slices_pdqsortOrdered_uint8_L2 : ((List Int) × Int × Int × Int × Bool × Bool) → Comp (List Int) :=
  Comp.loop fun gs => match gs with | (v0_2, v1_1, v2_1, v3_1, v8_1, v9_1) => if (IntKind.i64.wrap (v2_1 - v1_1)) ≤ 12 then (Comp.bind (slices_insertionSortOrdered_uint8 v0_2 v1_1 v2_1) fun yv1 => Comp.ret (.inr yv1)) else Comp.fail
def slices_pdqsortOrdered_uint8 (a0_1 : (List Int)) (a1_1 : Int) (a2_1 : Int) (a3_1 : Int) : Comp (List Int) :=
  Comp.next (slices_pdqsortOrdered_uint8_L2 (a0_1, a1_1, a2_1, a3_1, true, true)) fun ov => match ov with | rv1 => Comp.ret rv1
def slices_partialInsertionSortOrdered_uint8_k1 (v0_1 : (List Int)) : Comp (Bool × (List Int)) :=
  Comp.ret (false, v0_1)
def slices_partialInsertionSortOrdered_uint8_k3 (v8_1 : Int) (v7_2 : Int) (v0_4 : (List Int)) : Comp (((List Int) × Int × Int) ⊕ ((Bool × (List Int)) ⊕ (List Int))) :=
  Comp.ret (.inl (v0_4, v7_2, IntKind.i64.wrap (v8_1 + 1)))
def slices_partialInsertionSortOrdered_uint8_L4 (a2_1 : Int) : ((List Int) × Int) → Comp (List Int) :=
  Comp.loop fun gs => match gs with | (v0_5, v10_1) => if v10_1 < a2_1 then (Comp.at' v0_5 v10_1 fun x5 => Comp.at' v0_5 (IntKind.i64.wrap (v10_1 - 1)) fun x6 => Comp.bind (cmp_Less_uint8 x5 x6) fun yv1 => if (!yv1) = true then (Comp.ret (.inr v0_5)) else (Comp.at' v0_5 (IntKind.i64.wrap (v10_1 - 1)) fun x7 => Comp.at' v0_5 v10_1 fun x8 => Comp.at' v0_5 v10_1 fun x9 => Comp.at' (v0_5.set v10_1.toNat x7) (IntKind.i64.wrap (v10_1 - 1)) fun x10 => Comp.ret (.inl (((v0_5.set v10_1.toNat x7).set (IntKind.i64.wrap (v10_1 - 1)).toNat x8), IntKind.i64.wrap (v10_1 + 1))))) else (Comp.ret (.inr v0_5))
def slices_partialInsertionSortOrdered_uint8_k5 (a2_1 : Int) (v8_1 : Int) (v7_2 : Int) (v0_3 : (List Int)) : Comp (((List Int) × Int × Int) ⊕ ((Bool × (List Int)) ⊕ (List Int))) :=
  if 2 ≤ (IntKind.i64.wrap (a2_1 - v7_2)) then (Comp.next (slices_partialInsertionSortOrdered_uint8_L4 a2_1 (v0_3, IntKind.i64.wrap (v7_2 + 1))) fun ov => match ov with | v0_4 => slices_partialInsertionSortOrdered_uint8_k3 v8_1 v7_2 v0_4) else (Comp.ret (.inl (v0_3, v7_2, IntKind.i64.wrap (v8_1 + 1))))
def slices_partialInsertionSortOrdered_uint8_k6 (a2_1 : Int) (v8_1 : Int) (v7_2 : Int) (v0_6 : (List Int)) : Comp (((List Int) × Int × Int) ⊕ ((Bool × (List Int)) ⊕ (List Int))) :=
  slices_partialInsertionSortOrdered_uint8_k5 a2_1 v8_1 v7_2 v0_6
def slices_partialInsertionSortOrdered_uint8_L7 : ((List Int) × Int) → Comp (List Int) :=
  Comp.loop fun gs => match gs with | (v0_7, v9_1) => if 1 ≤ v9_1 then (Comp.at' v0_7 v9_1 fun x11 => Comp.at' v0_7 (IntKind.i64.wrap (v9_1 - 1)) fun x12 => Comp.bind (cmp_Less_uint8 x11 x12) fun yv2 => if (!yv2) = true then (Comp.ret (.inr v0_7)) else (Comp.at' v0_7 (IntKind.i64.wrap (v9_1 - 1)) fun x13 => Comp.at' v0_7 v9_1 fun x14 => Comp.at' v0_7 v9_1 fun x15 => Comp.at' (v0_7.set v9_1.toNat x13) (IntKind.i64.wrap (v9_1 - 1)) fun x16 => Comp.ret (.inl (((v0_7.set v9_1.toNat x13).set (IntKind.i64.wrap (v9_1 - 1)).toNat x14), IntKind.i64.wrap (v9_1 - 1))))) else (Comp.ret (.inr v0_7))
def slices_partialInsertionSortOrdered_uint8_k8 (a1_1 : Int) (a2_1 : Int) (v0_2 : (List Int)) (v8_1 : Int) (v7_2 : Int) : Comp (((List Int) × Int × Int) ⊕ ((Bool × (List Int)) ⊕ (List Int))) :=
  if v7_2 = a2_1 then (Comp.ret (.inr (.inl (true, v0_2)))) else (if (IntKind.i64.wrap (a2_1 - a1_1)) < 50 then (Comp.ret (.inr (.inl (false, v0_2)))) else (Comp.at' v0_2 (IntKind.i64.wrap (v7_2 - 1)) fun x1 => Comp.at' v0_2 v7_2 fun x2 => Comp.at' v0_2 v7_2 fun x3 => Comp.at' (v0_2.set v7_2.toNat x1) (IntKind.i64.wrap (v7_2 - 1)) fun x4 => if 2 ≤ (IntKind.i64.wrap (v7_2 - a1_1)) then (Comp.next (slices_partialInsertionSortOrdered_uint8_L7 (((v0_2.set v7_2.toNat x1).set (IntKind.i64.wrap (v7_2 - 1)).toNat x2), IntKind.i64.wrap (v7_2 - 1))) fun ov => match ov with | v0_6 => slices_partialInsertionSortOrdered_uint8_k6 a2_1 v8_1 v7_2 v0_6) else (slices_partialInsertionSortOrdered_uint8_k5 a2_1 v8_1 v7_2 ((v0_2.set v7_2.toNat x1).set (IntKind.i64.wrap (v7_2 - 1)).toNat x2))))
def slices_partialInsertionSortOrdered_uint8_L9 (a2_1 : Int) (v0_2 : (List Int)) : Int → Comp Int :=
  Comp.loop fun gs => match gs with | v7_3 => if v7_3 < a2_1 then (Comp.at' v0_2 v7_3 fun x17 => Comp.at' v0_2 (IntKind.i64.wrap (v7_3 - 1)) fun x18 => Comp.bind (cmp_Less_uint8 x17 x18) fun yv3 => if (!yv3) = true then (Comp.ret (.inl (IntKind.i64.wrap (v7_3 + 1)))) else (Comp.ret (.inr v7_3))) else (Comp.ret (.inr v7_3))
def slices_partialInsertionSortOrdered_uint8_L2 (a1_1 : Int) (a2_1 : Int) : ((List Int) × Int × Int) → Comp ((Bool × (List Int)) ⊕ (List Int)) :=
  Comp.loop fun gs => match gs with | (v0_2, v7_1, v8_1) => if v8_1 < 5 then (Comp.next (slices_partialInsertionSortOrdered_uint8_L9 a2_1 v0_2 v7_1) fun ov => match ov with | v7_2 => slices_partialInsertionSortOrdered_uint8_k8 a1_1 a2_1 v0_2 v8_1 v7_2) else (Comp.ret (.inr (.inr v0_2)))
def slices_partialInsertionSortOrdered_uint8 (a0_1 : (List Int)) (a1_1 : Int) (a2_1 : Int) : Comp (Bool × (List Int)) :=
  Comp.next (slices_partialInsertionSortOrdered_uint8_L2 a1_1 a2_1 (a0_1, IntKind.i64.wrap (a1_1 + 1), 0)) fun ov => match ov with | .inl rv1 => Comp.ret rv1 | .inr v0_1 => slices_partialInsertionSortOrdered_uint8_k1 v0_1
def slices_pdqsortOrdered_uint8_2_k1 (v0_1 : (List Int)) : Comp (List Int) :=
  Comp.ret v0_1
def slices_pdqsortOrdered_uint8_2_k3 (v1_1 : Int) (v2_1 : Int) (v3_2 : Int) (v11_1 : Int) (v0_5 : (List Int)) : Comp (((List Int) × Int × Int × Int × Bool × Bool) ⊕ (List Int)) :=
  if 0 < v1_1 then (Comp.at' v0_5 (IntKind.i64.wrap (v1_1 - 1)) fun x1 => Comp.at' v0_5 v11_1 fun x2 => Comp.bind (cmp_Less_uint8 x1 x2) fun yv3 => if (!yv3) = true then Comp.fail else (Comp.bind (slices_partitionOrdered_uint8 v0_5 v1_1 v2_1 v11_1) fun yv4 => if (IntKind.i64.wrap (yv4.1 - v1_1)) < (IntKind.i64.wrap (v2_1 - yv4.1)) then (Comp.bind (slices_pdqsortOrdered_uint8 yv4.2.2 v1_1 yv4.1 v3_2) fun yv5 => Comp.ret (.inl (yv5, IntKind.i64.wrap (yv4.1 + 1), v2_1, v3_2, decide ((IntKind.i64.wrap (Int.tdiv (IntKind.i64.wrap (v2_1 - v1_1)) 8)) ≤ (IntKind.i64.wrap (yv4.1 - v1_1))), yv4.2.1))) else (Comp.bind (slices_pdqsortOrdered_uint8 yv4.2.2 (IntKind.i64.wrap (yv4.1 + 1)) v2_1 v3_2) fun yv6 => Comp.ret (.inl (yv6, v1_1, yv4.1, v3_2, decide ((IntKind.i64.wrap (Int.tdiv (IntKind.i64.wrap (v2_1 - v1_1)) 8)) ≤ (IntKind.i64.wrap (v2_1 - yv4.1))), yv4.2.1))))) else (Comp.bind (slices_partitionOrdered_uint8 v0_5 v1_1 v2_1 v11_1) fun yv7 => if (IntKind.i64.wrap (yv7.1 - v1_1)) < (IntKind.i64.wrap (v2_1 - yv7.1)) then (Comp.bind (slices_pdqsortOrdered_uint8 yv7.2.2 v1_1 yv7.1 v3_2) fun yv8 => Comp.ret (.inl (yv8, IntKind.i64.wrap (yv7.1 + 1), v2_1, v3_2, decide ((IntKind.i64.wrap (Int.tdiv (IntKind.i64.wrap (v2_1 - v1_1)) 8)) ≤ (IntKind.i64.wrap (yv7.1 - v1_1))), yv7.2.1))) else (Comp.bind (slices_pdqsortOrdered_uint8 yv7.2.2 (IntKind.i64.wrap (yv7.1 + 1)) v2_1 v3_2) fun yv9 => Comp.ret (.inl (yv9, v1_1, yv7.1, v3_2, decide ((IntKind.i64.wrap (Int.tdiv (IntKind.i64.wrap (v2_1 - v1_1)) 8)) ≤ (IntKind.i64.wrap (v2_1 - yv7.1))), yv7.2.1))))
def slices_pdqsortOrdered_uint8_2_k4 (v1_1 : Int) (v2_1 : Int) (v8_1 : Bool) (v9_1 : Bool) (v3_2 : Int) (v0_4 : (List Int)) (v11_1 : Int) (v12_1 : Int) : Comp (((List Int) × Int × Int × Int × Bool × Bool) ⊕ (List Int)) :=
  if v8_1 = true then (if v9_1 = true then (if v12_1 = 1 then (Comp.bind (slices_partialInsertionSortOrdered_uint8 v0_4 v1_1 v2_1) fun yv10 => if yv10.1 = true then (Comp.ret (.inr yv10.2)) else (slices_pdqsortOrdered_uint8_2_k3 v1_1 v2_1 v3_2 v11_1 yv10.2)) else (slices_pdqsortOrdered_uint8_2_k3 v1_1 v2_1 v3_2 v11_1 v0_4)) else (slices_pdqsortOrdered_uint8_2_k3 v1_1 v2_1 v3_2 v11_1 v0_4)) else (slices_pdqsortOrdered_uint8_2_k3 v1_1 v2_1 v3_2 v11_1 v0_4)
def slices_pdqsortOrdered_uint8_2_k5 (v1_1 : Int) (v2_1 : Int) (v8_1 : Bool) (v9_1 : Bool) (v0_3 : (List Int)) (v3_2 : Int) : Comp (((List Int) × Int × Int × Int × Bool × Bool) ⊕ (List Int)) :=
  Comp.bind (slices_choosePivotOrdered_uint8 v0_3 v1_1 v2_1) fun yv2 => if yv2.2 = 2 then Comp.fail else (slices_pdqsortOrdered_uint8_2_k4 v1_1 v2_1 v8_1 v9_1 v3_2 v0_3 yv2.1 yv2.2)
def slices_pdqsortOrdered_uint8_2_L2 : ((List Int) × Int × Int × Int × Bool × Bool) → Comp (List Int) :=
  Comp.loop fun gs => match gs with | (v0_2, v1_1, v2_1, v3_1, v8_1, v9_1) => if (IntKind.i64.wrap (v2_1 - v1_1)) ≤ 12 then (Comp.bind (slices_insertionSortOrdered_uint8 v0_2 v1_1 v2_1) fun yv1 => Comp.ret (.inr yv1)) else (if v3_1 = 0 then Comp.fail else (if (!v8_1) = true then Comp.fail else (slices_pdqsortOrdered_uint8_2_k5 v1_1 v2_1 v8_1 v9_1 v0_2 v3_1)))
def slices_pdqsortOrdered_uint8_2 (a0_1 : (List Int)) (a1_1 : Int) (a2_1 : Int) (a3_1 : Int) : Comp (List Int) :=
  Comp.next (slices_pdqsortOrdered_uint8_2_L2 (a0_1, a1_1, a2_1, a3_1, true, true)) fun ov => match ov with | rv1 => Comp.ret rv1
def monomial_Valid_k1 : Comp Bool :=
  Comp.ret true
def monomial_Valid_L2 (m1 : (Fin 8 → Int)) : Int → Comp (Bool ⊕ Unit) :=
  Comp.loop fun gs => match gs with | v6_1 => if v6_1 < 8 then (Comp.chk (0 ≤ v6_1 ∧ v6_1 < 8) (if (getF m1 v6_1) < 0 then (Comp.ret (.inr (.inl false))) else (if 65535 < (getF m1 v6_1) then (Comp.ret (.inr (.inl false))) else (Comp.ret (.inl (IntKind.i64.wrap (v6_1 + 1))))))) else (Comp.ret (.inr (.inr ())))
def monomial_Valid (m1 : (Fin 8 → Int)) : Comp Bool :=
  Comp.next (monomial_Valid_L2 m1 0) fun ov => match ov with | .inl rv1 => Comp.ret rv1 | .inr () => monomial_Valid_k1
def monomial_Support_k1 (s1 : Int) : Comp Int :=
  Comp.ret s1
def monomial_Support_L2 (m1 : (Fin 8 → Int)) : (Int × Int) → Comp Int :=
  Comp.loop fun gs => match gs with | (s2, v7_1) => if v7_1 < 8 then (Comp.chk (0 ≤ v7_1 ∧ v7_1 < 8) (if 0 < (getF m1 v7_1) then (Comp.chk (0 ≤ v7_1) (Comp.ret (.inl (IntKind.u8.wrap (BitVec.ofInt IntKind.u8.bits s2 ||| BitVec.ofInt IntKind.u8.bits (IntKind.u8.wrap (1 * 2 ^ (min (v7_1).toNat IntKind.u8.bits)))).toNat, IntKind.i64.wrap (v7_1 + 1))))) else (Comp.ret (.inl (s2, IntKind.i64.wrap (v7_1 + 1)))))) else (Comp.ret (.inr s2))
def monomial_Support (m1 : (Fin 8 → Int)) : Comp Int :=
  Comp.next (monomial_Support_L2 m1 (0, 0)) fun ov => match ov with | s1 => monomial_Support_k1 s1
def components_check_k1 (l1 : (List (Fin 8 → Int))) : Comp Int :=
  if 8 < (l1.length : Int) then (Comp.ret 2) else (Comp.ret 0)
def components_check_L2 (l1 : (List (Fin 8 → Int))) (n1 : Int) : Int → Comp (Int ⊕ Unit) :=
  Comp.loop fun gs => match gs with | v15_1 => if v15_1 < (l1.length : Int) then (Comp.at' l1 v15_1 fun x1 => Comp.bind (monomial_Valid x1) fun yv1 => match yv1 with | false => (Comp.ret (.inr (.inl 1))) | true => (Comp.bind (monomial_Support x1) fun yv2 => Comp.chk (0 ≤ n1) (if ¬ (Int.fdiv (IntKind.i64.wrap yv2) (2 ^ (min (n1).toNat IntKind.i64.bits))) = 0 then (Comp.ret (.inr (.inl 1))) else (Comp.ret (.inl (IntKind.i64.wrap (v15_1 + 1))))))) else (Comp.ret (.inr (.inr ())))
def components_check (l1 : (List (Fin 8 → Int))) (n1 : Int) : Comp Int :=
  if n1 < 0 then (Comp.ret 1) else (if 8 < n1 then (Comp.ret 1) else (Comp.next (components_check_L2 l1 n1 0) fun ov => match ov with | .inl rv1 => Comp.ret rv1 | .inr () => components_check_k1 l1))
def slices_Clone_api_Mono_api_Mono (s1 : (List (Fin 8 → Int))) : Comp ((List (Fin 8 → Int))) :=
  Comp.nilCase s1 (Comp.ret []) (Comp.chk (([] ++ s1).length ≤ small) (Comp.ret ([] ++ s1)))
def math_bits_Len32_k1 (x2 : Int) (n1 : Int) : Comp Int :=
  if 256 ≤ x2 then (Comp.chk (0 ≤ IntKind.u8.wrap (Int.fdiv x2 (2 ^ (min (8 : Int).toNat IntKind.u32.bits))) ∧ (IntKind.u8.wrap (Int.fdiv x2 (2 ^ (min (8 : Int).toNat IntKind.u32.bits)))) < (str_633d862b.size : Int)) (Comp.ret (IntKind.i64.wrap ((IntKind.i64.wrap (n1 + 8)) + (IntKind.i64.wrap (byteAt str_633d862b (IntKind.u8.wrap (Int.fdiv x2 (2 ^ (min (8 : Int).toNat IntKind.u32.bits)))))))))) else (Comp.chk (0 ≤ IntKind.u8.wrap x2 ∧ (IntKind.u8.wrap x2) < (str_633d862b.size : Int)) (Comp.ret (IntKind.i64.wrap (n1 + (IntKind.i64.wrap (byteAt str_633d862b (IntKind.u8.wrap x2)))))))
def math_bits_Len32 (x1 : Int) : Comp Int :=
  if 65536 ≤ x1 then (math_bits_Len32_k1 (Int.fdiv x1 (2 ^ (min (16 : Int).toNat IntKind.u32.bits))) 16) else (math_bits_Len32_k1 x1 0)
def math_bits_Len64_k1 (x3 : Int) (n2 : Int) : Comp Int :=
  if 256 ≤ x3 then (Comp.chk (0 ≤ IntKind.u8.wrap (Int.fdiv x3 (2 ^ (min (8 : Int).toNat IntKind.u64.bits))) ∧ (IntKind.u8.wrap (Int.fdiv x3 (2 ^ (min (8 : Int).toNat IntKind.u64.bits)))) < (str_633d862b.size : Int)) (Comp.ret (IntKind.i64.wrap ((IntKind.i64.wrap (n2 + 8)) + (IntKind.i64.wrap (byteAt str_633d862b (IntKind.u8.wrap (Int.fdiv x3 (2 ^ (min (8 : Int).toNat IntKind.u64.bits)))))))))) else (Comp.chk (0 ≤ IntKind.u8.wrap x3 ∧ (IntKind.u8.wrap x3) < (str_633d862b.size : Int)) (Comp.ret (IntKind.i64.wrap (n2 + (IntKind.i64.wrap (byteAt str_633d862b (IntKind.u8.wrap x3)))))))
def math_bits_Len64_k2 (x2 : Int) (n1 : Int) : Comp Int :=
  if 65536 ≤ x2 then (math_bits_Len64_k1 (Int.fdiv x2 (2 ^ (min (16 : Int).toNat IntKind.u64.bits))) (IntKind.i64.wrap (n1 + 16))) else (math_bits_Len64_k1 x2 n1)
def math_bits_Len64 (x1 : Int) : Comp Int :=
  if 4294967296 ≤ x1 then (math_bits_Len64_k2 (Int.fdiv x1 (2 ^ (min (32 : Int).toNat IntKind.u64.bits))) 32) else (math_bits_Len64_k2 x1 0)
def math_bits_Len (x1 : Int) : Comp Int :=
  Comp.bind (math_bits_Len64 x1) fun yv1 => Comp.ret yv1
def monomial_Divides_k1 : Comp Bool :=
  Comp.ret true
def monomial_Divides_L2 (a1 : (Fin 8 → Int)) (b1 : (Fin 8 → Int)) : Int → Comp (Bool ⊕ Unit) :=
  Comp.loop fun gs => match gs with | v6_1 => if v6_1 < 8 then (Comp.chk (0 ≤ v6_1 ∧ v6_1 < 8) (Comp.chk (0 ≤ v6_1 ∧ v6_1 < 8) (if (getF b1 v6_1) < (getF a1 v6_1) then (Comp.ret (.inr (.inl false))) else (Comp.ret (.inl (IntKind.i64.wrap (v6_1 + 1))))))) else (Comp.ret (.inr (.inr ())))
def monomial_Divides (a1 : (Fin 8 → Int)) (b1 : (Fin 8 → Int)) : Comp Bool :=
  Comp.next (monomial_Divides_L2 a1 b1 0) fun ov => match ov with | .inl rv1 => Comp.ret rv1 | .inr () => monomial_Divides_k1
def monomial_In_k1 : Comp Bool :=
  Comp.ret false
def monomial_In_L2 (m1 : (Fin 8 → Int)) (l1 : (List (Fin 8 → Int))) : Int → Comp (Bool ⊕ Unit) :=
  Comp.loop fun gs => match gs with | v9_1 => if v9_1 < (l1.length : Int) then (Comp.at' l1 v9_1 fun x1 => Comp.bind (monomial_Divides x1 m1) fun yv1 => if yv1 = true then (Comp.ret (.inr (.inl true))) else (Comp.ret (.inl (IntKind.i64.wrap (v9_1 + 1))))) else (Comp.ret (.inr (.inr ())))
def monomial_In (m1 : (Fin 8 → Int)) (l1 : (List (Fin 8 → Int))) : Comp Bool :=
  Comp.next (monomial_In_L2 m1 l1 0) fun ov => match ov with | .inl rv1 => Comp.ret rv1 | .inr () => monomial_In_k1
def monomial_Minimal_c1 (m1 : (Fin 8 → Int)) (cap1 : (List (Fin 8 → Int))) : Comp Bool :=
  Comp.bind (monomial_In m1 cap1) fun yv1 => Comp.ret yv1
def slices_Reverse_api_Mono_api_Mono_k1 (s2 : (List (Fin 8 → Int))) : Comp ((List (Fin 8 → Int))) :=
  Comp.ret s2
def slices_Reverse_api_Mono_api_Mono_L2 : ((List (Fin 8 → Int)) × Int × Int) → Comp (((List (Fin 8 → Int)))) :=
  Comp.loop fun gs => match gs with | (s3, i1, j1) => if i1 < j1 then (Comp.at' s3 j1 fun x1 => Comp.at' s3 i1 fun x2 => Comp.at' s3 i1 fun x3 => Comp.at' (s3.set i1.toNat x1) j1 fun x4 => Comp.ret (.inl (((s3.set i1.toNat x1).set j1.toNat x2), IntKind.i64.wrap (i1 + 1), IntKind.i64.wrap (j1 - 1)))) else (Comp.ret (.inr s3))
def slices_Reverse_api_Mono_api_Mono (s1 : (List (Fin 8 → Int))) : Comp ((List (Fin 8 → Int))) :=
  Comp.next (slices_Reverse_api_Mono_api_Mono_L2 (s1, 0, IntKind.i64.wrap ((s1.length : Int) - 1))) fun ov => match ov with | s2 => slices_Reverse_api_Mono_api_Mono_k1 s2
def monomial_Minimal_k1 (bx1 : (List (Fin 8 → Int))) : Comp ((List (Fin 8 → Int))) :=
  Comp.bind (slices_Reverse_api_Mono_api_Mono bx1) fun yv3 => Comp.ret yv3
def monomial_Minimal_L2 (yv2 : (List (Fin 8 → Int))) : (Int × (List (Fin 8 → Int))) → Comp (((List (Fin 8 → Int)))) :=
  Comp.loop fun gs => match gs with | (v15_1, bx2) => if v15_1 < (yv2.length : Int) then (Comp.at' yv2 v15_1 fun x1 => Comp.bind (monomial_Minimal_c1 x1 bx2) fun yv4 => if (!yv4) = true then (Comp.chk ((bx2 ++ [x1]).length ≤ small) (Comp.ret (.inl (IntKind.i64.wrap (v15_1 + 1), (bx2 ++ [x1]))))) else (Comp.ret (.inl (IntKind.i64.wrap (v15_1 + 1), bx2)))) else (Comp.ret (.inr bx2))
def monomial_Minimal (l1 : (List (Fin 8 → Int))) : Comp ((List (Fin 8 → Int))) :=
  Comp.bind (slices_Clone_api_Mono_api_Mono l1) fun yv1 => Comp.bind (sortBy_monomial_Cmp yv1) fun yv2 => Comp.next (monomial_Minimal_L2 yv2 (0, [])) fun ov => match ov with | bx1 => monomial_Minimal_k1 bx1
def components_split_k1 (l1 : (List (Fin 8 → Int))) : Comp ((List (Fin 8 → Int))) :=
  Comp.ret l1
def components_split_L2 (a1 : (Fin 8 → Int)) (g1 : (Fin 8 → Int)) : ((List (Fin 8 → Int)) × Int) → Comp (((List (Fin 8 → Int))) ⊕ ((List (Fin 8 → Int)))) :=
  Comp.loop fun gs => match gs with | (l2, v10_1) => if v10_1 < 8 then (Comp.chk (0 ≤ v10_1 ∧ v10_1 < 8) (Comp.chk (0 ≤ v10_1 ∧ v10_1 < 8) (if 0 < (getF a1 v10_1) then (Comp.chk (0 ≤ v10_1 ∧ v10_1 < 8) (if (getF a1 v10_1) ≤ (getF g1 v10_1) then (Comp.ret (.inr (.inl [a1]))) else (if 0 < (getF g1 v10_1) then (Comp.chk (0 ≤ v10_1 ∧ v10_1 < 8) (Comp.chk ((l2 ++ [setF a1 v10_1.toNat (getF g1 v10_1)]).length ≤ small) (Comp.ret (.inl ((l2 ++ [setF a1 v10_1.toNat (getF g1 v10_1)]), IntKind.i64.wrap (v10_1 + 1)))))) else (Comp.ret (.inl (l2, IntKind.i64.wrap (v10_1 + 1))))))) else (if 0 < (getF g1 v10_1) then (Comp.chk (0 ≤ v10_1 ∧ v10_1 < 8) (Comp.chk ((l2 ++ [setF a1 v10_1.toNat (getF g1 v10_1)]).length ≤ small) (Comp.ret (.inl ((l2 ++ [setF a1 v10_1.toNat (getF g1 v10_1)]), IntKind.i64.wrap (v10_1 + 1)))))) else (Comp.ret (.inl (l2, IntKind.i64.wrap (v10_1 + 1)))))))) else (Comp.ret (.inr (.inr l2)))
def components_split (a1 : (Fin 8 → Int)) (g1 : (Fin 8 → Int)) : Comp ((List (Fin 8 → Int))) :=
  Comp.next (components_split_L2 a1 g1 ([], 0)) fun ov => match ov with | .inl rv1 => Comp.ret rv1 | .inr l1 => components_split_k1 l1
def components_contains_k1 : Comp Bool :=
  Comp.ret true
def components_contains_L2 (a1 : (Fin 8 → Int)) (b1 : (Fin 8 → Int)) : Int → Comp (Bool ⊕ Unit) :=
  Comp.loop fun gs => match gs with | v8_1 => if v8_1 < 8 then (Comp.chk (0 ≤ v8_1 ∧ v8_1 < 8) (if 0 < (getF b1 v8_1) then (Comp.chk (0 ≤ v8_1 ∧ v8_1 < 8) (if (getF a1 v8_1) = 0 then (Comp.ret (.inr (.inl false))) else (Comp.chk (0 ≤ v8_1 ∧ v8_1 < 8) (if (getF b1 v8_1) < (getF a1 v8_1) then (Comp.ret (.inr (.inl false))) else (Comp.ret (.inl (IntKind.i64.wrap (v8_1 + 1)))))))) else (Comp.ret (.inl (IntKind.i64.wrap (v8_1 + 1)))))) else (Comp.ret (.inr (.inr ())))
def components_contains (a1 : (Fin 8 → Int)) (b1 : (Fin 8 → Int)) : Comp Bool :=
  Comp.next (components_contains_L2 a1 b1 0) fun ov => match ov with | .inl rv1 => Comp.ret rv1 | .inr () => components_contains_k1
def components_irreducible_k1 (v3_1 : (List (Fin 8 → Int))) : Comp ((List (Fin 8 → Int))) :=
  Comp.bind (sortBy_irreducible_c1 v3_1) fun yv2 => Comp.ret yv2
def components_irreducible_k3 (v21_1 : Int) (v3_3 : (List (Fin 8 → Int))) : Comp (((List (Fin 8 → Int)) × Int) ⊕ (((List (Fin 8 → Int))))) :=
  Comp.ret (.inl (v3_3, IntKind.i64.wrap (v21_1 + 1)))
def components_irreducible_k5 (v49_1 : Int) (v3_5 : (List (Fin 8 → Int))) : Comp (((List (Fin 8 → Int)) × Int) ⊕ (((List (Fin 8 → Int))))) :=
  Comp.ret (.inl (v3_5, IntKind.i64.wrap (v49_1 + 1)))
def components_irreducible_k6 (v3_4 : (List (Fin 8 → Int))) (v49_1 : Int) (x2 : (Fin 8 → Int)) : Comp (((List (Fin 8 → Int)) × Int) ⊕ (((List (Fin 8 → Int))))) :=
  Comp.chk ((v3_4 ++ [x2]).length ≤ small) (components_irreducible_k5 v49_1 (v3_4 ++ [x2]))
def components_irreducible_L7 (ks1 : List (Fin 8 → Int)) (v3_4 : (List (Fin 8 → Int))) (x2 : (Fin 8 → Int)) : Int → Comp (((List (Fin 8 → Int))) ⊕ Unit) :=
  Comp.loop fun gs => match gs with | v55_1 => if v55_1 < (ks1.length : Int) then (Comp.at' ks1 v55_1 fun x3 => if ¬ x2 = x3 then (Comp.bind (components_contains x2 x3) fun yv3 => if yv3 = true then (Comp.ret (.inr (.inl v3_4))) else (Comp.ret (.inl (IntKind.i64.wrap (v55_1 + 1))))) else (Comp.ret (.inl (IntKind.i64.wrap (v55_1 + 1))))) else (Comp.ret (.inr (.inr ())))
def components_irreducible_L4 (ks1 : List (Fin 8 → Int)) : ((List (Fin 8 → Int)) × Int) → Comp (((List (Fin 8 → Int)))) :=
  Comp.loop fun gs => match gs with | (v3_4, v49_1) => if v49_1 < (ks1.length : Int) then (Comp.at' ks1 v49_1 fun x2 => Comp.next (components_irreducible_L7 ks1 v3_4 x2 0) fun ov => match ov with | .inl v3_5 => components_irreducible_k5 v49_1 v3_5 | .inr () => components_irreducible_k6 v3_4 v49_1 x2) else (Comp.ret (.inr v3_4))
def components_irreducible_k8 (v21_1 : Int) (mp1 : (List ((Fin 8 → Int) × Bool))) : Comp (((List (Fin 8 → Int)) × Int) ⊕ (((List (Fin 8 → Int))))) :=
  Comp.any (fun ks : List (Fin 8 → Int) => ks.Perm (mp1.map (·.1))) fun ks1 => Comp.next (components_irreducible_L4 ks1 ([], 0)) fun ov => match ov with | v3_3 => components_irreducible_k3 v21_1 v3_3
def components_irreducible_k10 (v28_1 : Int) (mp3 : (List ((Fin 8 → Int) × Bool))) : Comp ((Int × (List ((Fin 8 → Int) × Bool))) ⊕ (((List ((Fin 8 → Int) × Bool))))) :=
  Comp.ret (.inl (IntKind.i64.wrap (v28_1 + 1), mp3))
def components_irreducible_L11 (yv4 : (List (Fin 8 → Int))) : (Int × (List ((Fin 8 → Int) × Bool))) → Comp (((List ((Fin 8 → Int) × Bool)))) :=
  Comp.loop fun gs => match gs with | (v36_1, mp4) => if v36_1 < (yv4.length : Int) then (Comp.at' yv4 v36_1 fun x5 => Comp.chk ((∀ i, (Lit.int IntKind.i64 (x5 i)).wf = true) ∧ (mput mp4 x5 true).length ≤ small) (Comp.ret (.inl (IntKind.i64.wrap (v36_1 + 1), (mput mp4 x5 true))))) else (Comp.ret (.inr mp4))
def components_irreducible_L9 (v3_2 : (List (Fin 8 → Int))) (x1 : (Fin 8 → Int)) : (Int × (List ((Fin 8 → Int) × Bool))) → Comp (((List ((Fin 8 → Int) × Bool)))) :=
  Comp.loop fun gs => match gs with | (v28_1, mp2) => if v28_1 < (v3_2.length : Int) then (Comp.at' v3_2 v28_1 fun x4 => Comp.bind (components_split x4 x1) fun yv4 => Comp.next (components_irreducible_L11 yv4 (0, mp2)) fun ov => match ov with | mp3 => components_irreducible_k10 v28_1 mp3) else (Comp.ret (.inr mp2))
def components_irreducible_L2 (yv1 : (List (Fin 8 → Int))) : ((List (Fin 8 → Int)) × Int) → Comp (((List (Fin 8 → Int)))) :=
  Comp.loop fun gs => match gs with | (v3_2, v21_1) => if v21_1 < (yv1.length : Int) then (Comp.at' yv1 v21_1 fun x1 => Comp.next (components_irreducible_L9 v3_2 x1 (0, [])) fun ov => match ov with | mp1 => components_irreducible_k8 v21_1 mp1) else (Comp.ret (.inr v3_2))
def components_irreducible (a0_1 : (List (Fin 8 → Int))) : Comp ((List (Fin 8 → Int))) :=
  Comp.bind (monomial_Minimal a0_1) fun yv1 => Comp.next (components_irreducible_L2 yv1 ([(fun _ => 0)], 0)) fun ov => match ov with | v3_1 => components_irreducible_k1 v3_1
def components_Irreducible (l1 : (List (Fin 8 → Int))) (n1 : Int) : Comp ((List (Fin 8 → Int)) × Int) :=
  Comp.bind (components_check l1 n1) fun yv1 => if ¬ yv1 = 0 then (Comp.ret ([], yv1)) else (Comp.bind (components_irreducible l1) fun yv2 => Comp.ret (yv2, 0))
def components_parts_k1 (mp1 : (List (Int × (List (List (Fin 8 → Int)))))) : Comp ((List (Int × (List (List (Fin 8 → Int)))))) :=
  Comp.ret mp1
def components_parts_k3 (v15_1 : Int) (mp2 : (List (Int × (List (List (Fin 8 → Int)))))) (x1 : (Fin 8 → Int)) (gens1 : (List (Fin 8 → Int))) : Comp ((Int × (List (Int × (List (List (Fin 8 → Int)))))) ⊕ (((List (Int × (List (List (Fin 8 → Int)))))))) :=
  Comp.bind (monomial_Support x1) fun yv2 => Comp.chk ((Lit.int IntKind.u8 yv2).wf = true) (Comp.chk ((((mget mp2 yv2).getD []) ++ [gens1]).length ≤ small) (Comp.chk (((Lit.int IntKind.u8 yv2).wf = true) ∧ (mput mp2 yv2 (((mget mp2 yv2).getD []) ++ [gens1])).length ≤ small) (Comp.ret (.inl (IntKind.i64.wrap (v15_1 + 1), (mput mp2 yv2 (((mget mp2 yv2).getD []) ++ [gens1])))))))
def components_parts_L4 (x1 : (Fin 8 → Int)) : ((List (Fin 8 → Int)) × Int) → Comp (((List (Fin 8 → Int)))) :=
  Comp.loop fun gs => match gs with | (gens2, v20_1) => if v20_1 < 8 then (Comp.chk (0 ≤ v20_1 ∧ v20_1 < 8) (if 0 < (getF x1 v20_1) then (Comp.chk (0 ≤ v20_1 ∧ v20_1 < 8) (Comp.chk ((gens2 ++ [setF (fun _ => 0) v20_1.toNat (getF x1 v20_1)]).length ≤ small) (Comp.ret (.inl ((gens2 ++ [setF (fun _ => 0) v20_1.toNat (getF x1 v20_1)]), IntKind.i64.wrap (v20_1 + 1)))))) else (Comp.ret (.inl (gens2, IntKind.i64.wrap (v20_1 + 1)))))) else (Comp.ret (.inr gens2))
def components_parts_L2 (yv1 : (List (Fin 8 → Int))) : (Int × (List (Int × (List (List (Fin 8 → Int)))))) → Comp (((List (Int × (List (List (Fin 8 → Int))))))) :=
  Comp.loop fun gs => match gs with | (v15_1, mp2) => if v15_1 < (yv1.length : Int) then (Comp.at' yv1 v15_1 fun x1 => Comp.next (components_parts_L4 x1 ([], 0)) fun ov => match ov with | gens1 => components_parts_k3 v15_1 mp2 x1 gens1) else (Comp.ret (.inr mp2))
def components_parts (l1 : (List (Fin 8 → Int))) : Comp ((List (Int × (List (List (Fin 8 → Int)))))) :=
  Comp.bind (components_irreducible l1) fun yv1 => Comp.next (components_parts_L2 yv1 (0, [])) fun ov => match ov with | mp1 => components_parts_k1 mp1
def slices_Sort_uint8_uint8 (x1 : (List Int)) : Comp (List Int) :=
  Comp.bind (math_bits_Len (IntKind.u64.wrap (x1.length : Int))) fun yv1 => Comp.bind (slices_pdqsortOrdered_uint8_2 x1 0 (x1.length : Int) yv1) fun yv2 => Comp.ret yv2
def components_primes (byv1 : (List (Int × (List (List (Fin 8 → Int)))))) : Comp (List Int) :=
  Comp.any (fun ks : List Int => ks.Perm (byv1.map (·.1))) fun ks => Comp.bind (slices_Sort_uint8_uint8 ks) fun ks1 => Comp.ret ks1
def components_Primes (l1 : (List (Fin 8 → Int))) (n1 : Int) : Comp ((List Int) × Int) :=
  Comp.bind (components_check l1 n1) fun yv1 => if ¬ yv1 = 0 then (Comp.ret ([], yv1)) else (Comp.bind (components_parts l1) fun yv2 => Comp.bind (components_primes yv2) fun yv3 => Comp.ret (yv3, 0))
def components_Embedded_c1 (q1 : Int) (cap1 : Int) : Comp Bool :=
  if ¬ q1 = cap1 then (Comp.ret (decide ((IntKind.u8.wrap (BitVec.ofInt IntKind.u8.bits q1 &&& ~~~ BitVec.ofInt IntKind.u8.bits cap1).toNat) = 0))) else (Comp.ret false)
def slices_IndexFunc_uint8_uint8_components_Embedded_c1_k1 : Comp Int :=
  Comp.ret (-1)
def slices_IndexFunc_uint8_uint8_components_Embedded_c1_L2 (s1 : (List Int)) (cap1 : Int) : Int → Comp (Int ⊕ Unit) :=
  Comp.loop fun gs => match gs with | v8_1 => if v8_1 < (s1.length : Int) then (Comp.at' s1 v8_1 fun x1 => Comp.bind (components_Embedded_c1 x1 cap1) fun yv1 => if yv1 = true then (Comp.ret (.inr (.inl v8_1))) else (Comp.ret (.inl (IntKind.i64.wrap (v8_1 + 1))))) else (Comp.ret (.inr (.inr ())))
def slices_IndexFunc_uint8_uint8_components_Embedded_c1 (s1 : (List Int)) (cap1 : Int) : Comp Int :=
  Comp.next (slices_IndexFunc_uint8_uint8_components_Embedded_c1_L2 s1 cap1 0) fun ov => match ov with | .inl rv1 => Comp.ret rv1 | .inr () => slices_IndexFunc_uint8_uint8_components_Embedded_c1_k1
def slices_ContainsFunc_uint8_uint8_components_Embedded_c1 (s1 : (List Int)) (cap1 : Int) : Comp Bool :=
  Comp.bind (slices_IndexFunc_uint8_uint8_components_Embedded_c1 s1 cap1) fun yv1 => Comp.ret (decide (0 ≤ yv1))
def components_Embedded_k1 (result1 : (List Int)) : Comp ((List Int) × Int) :=
  Comp.ret (result1, 0)
def components_Embedded_L2 (yv3 : (List Int)) : ((List Int) × Int) → Comp (List Int) :=
  Comp.loop fun gs => match gs with | (result2, v22_1) => if v22_1 < (yv3.length : Int) then (Comp.at' yv3 v22_1 fun x1 => Comp.bind (slices_ContainsFunc_uint8_uint8_components_Embedded_c1 yv3 x1) fun yv4 => if yv4 = true then (Comp.chk ((result2 ++ [x1]).length ≤ small) (Comp.ret (.inl ((result2 ++ [x1]), IntKind.i64.wrap (v22_1 + 1))))) else (Comp.ret (.inl (result2, IntKind.i64.wrap (v22_1 + 1))))) else (Comp.ret (.inr result2))
def components_Embedded (l1 : (List (Fin 8 → Int))) (n1 : Int) : Comp ((List Int) × Int) :=
  Comp.bind (components_check l1 n1) fun yv1 => if ¬ yv1 = 0 then (Comp.ret ([], yv1)) else (Comp.bind (components_parts l1) fun yv2 => Comp.bind (components_primes yv2) fun yv3 => Comp.next (components_Embedded_L2 yv3 ([], 0)) fun ov => match ov with | result1 => components_Embedded_k1 result1)
def monomial_Lcm_k1 (bx1 : (Fin 8 → Int)) : Comp (Fin 8 → Int) :=
  Comp.ret bx1
def monomial_Lcm_L2 (b1 : (Fin 8 → Int)) : (Int × (Fin 8 → Int)) → Comp (Fin 8 → Int) :=
  Comp.loop fun gs => match gs with | (v6_1, bx2) => if v6_1 < 8 then (Comp.chk (0 ≤ v6_1 ∧ v6_1 < 8) (Comp.chk (0 ≤ v6_1 ∧ v6_1 < 8) (Comp.chk (0 ≤ v6_1 ∧ v6_1 < 8) (Comp.ret (.inl (IntKind.i64.wrap (v6_1 + 1), setF bx2 v6_1.toNat (if (getF bx2 v6_1) < (getF b1 v6_1) then (getF b1 v6_1) else (getF bx2 v6_1)))))))) else (Comp.ret (.inr bx2))
def monomial_Lcm (a1 : (Fin 8 → Int)) (b1 : (Fin 8 → Int)) : Comp (Fin 8 → Int) :=
  Comp.next (monomial_Lcm_L2 b1 (0, a1)) fun ov => match ov with | bx1 => monomial_Lcm_k1 bx1
def components_meet_k1 (result1 : (List (Fin 8 → Int))) : Comp ((List (Fin 8 → Int))) :=
  Comp.ret result1
def components_meet_k3 (v18_1 : Int) (all1 : (List (Fin 8 → Int))) : Comp (((List (Fin 8 → Int)) × Int) ⊕ (((List (Fin 8 → Int))))) :=
  Comp.bind (monomial_Minimal all1) fun yv2 => Comp.ret (.inl (yv2, IntKind.i64.wrap (v18_1 + 1)))
def components_meet_k5 (v24_1 : Int) (all3 : (List (Fin 8 → Int))) : Comp (((List (Fin 8 → Int)) × Int) ⊕ (((List (Fin 8 → Int))))) :=
  Comp.ret (.inl (all3, IntKind.i64.wrap (v24_1 + 1)))
def components_meet_L6 (x2 : (List (Fin 8 → Int))) (x3 : (Fin 8 → Int)) : ((List (Fin 8 → Int)) × Int) → Comp (((List (Fin 8 → Int)))) :=
  Comp.loop fun gs => match gs with | (all4, v30_1) => if v30_1 < (x2.length : Int) then (Comp.at' x2 v30_1 fun x4 => Comp.bind (monomial_Lcm x3 x4) fun yv3 => Comp.chk ((all4 ++ [yv3]).length ≤ small) (Comp.ret (.inl ((all4 ++ [yv3]), IntKind.i64.wrap (v30_1 + 1))))) else (Comp.ret (.inr all4))
def components_meet_L4 (result2 : (List (Fin 8 → Int))) (x2 : (List (Fin 8 → Int))) : ((List (Fin 8 → Int)) × Int) → Comp (((List (Fin 8 → Int)))) :=
  Comp.loop fun gs => match gs with | (all2, v24_1) => if v24_1 < (result2.length : Int) then (Comp.at' result2 v24_1 fun x3 => Comp.next (components_meet_L6 x2 x3 (all2, 0)) fun ov => match ov with | all3 => components_meet_k5 v24_1 all3) else (Comp.ret (.inr all2))
def components_meet_L2 (ideals1 : (List (List (Fin 8 → Int)))) : ((List (Fin 8 → Int)) × Int) → Comp (((List (Fin 8 → Int)))) :=
  Comp.loop fun gs => match gs with | (result2, v18_1) => if v18_1 < (((ideals1.take (ideals1.length : Int).toNat).drop (1 : Int).toNat).length : Int) then (Comp.at' ((ideals1.take (ideals1.length : Int).toNat).drop (1 : Int).toNat) v18_1 fun x2 => Comp.next (components_meet_L4 result2 x2 ([], 0)) fun ov => match ov with | all1 => components_meet_k3 v18_1 all1) else (Comp.ret (.inr result2))
def components_meet (ideals1 : (List (List (Fin 8 → Int)))) : Comp ((List (Fin 8 → Int))) :=
  Comp.at' ideals1 0 fun x1 => Comp.bind (monomial_Minimal x1) fun yv1 => Comp.chk (0 ≤ (1 : Int) ∧ (1 : Int) ≤ (ideals1.length : Int) ∧ (ideals1.length : Int) ≤ (ideals1.length : Int)) (Comp.next (components_meet_L2 ideals1 (yv1, 0)) fun ov => match ov with | result1 => components_meet_k1 result1)
def components_Primary_k1 (result1 : (List T_api_Part)) : Comp ((List T_api_Part) × Int) :=
  Comp.ret (result1, 0)
def components_Primary_L2 (yv2 : (List (Int × (List (List (Fin 8 → Int)))))) (yv3 : (List Int)) : ((List T_api_Part) × Int) → Comp (List T_api_Part) :=
  Comp.loop fun gs => match gs with | (result2, v22_1) => if v22_1 < (yv3.length : Int) then (Comp.at' yv3 v22_1 fun x1 => Comp.chk ((Lit.int IntKind.u8 x1).wf = true) (Comp.bind (components_meet ((mget yv2 x1).getD [])) fun yv4 => Comp.chk ((result2 ++ [(T_api_Part.mk x1 yv4)]).length ≤ small) (Comp.ret (.inl ((result2 ++ [(T_api_Part.mk x1 yv4)]), IntKind.i64.wrap (v22_1 + 1)))))) else (Comp.ret (.inr result2))
def components_Primary (l1 : (List (Fin 8 → Int))) (n1 : Int) : Comp ((List T_api_Part) × Int) :=
  Comp.bind (components_check l1 n1) fun yv1 => if ¬ yv1 = 0 then (Comp.ret ([], yv1)) else (Comp.bind (components_parts l1) fun yv2 => Comp.bind (components_primes yv2) fun yv3 => Comp.next (components_Primary_L2 yv2 yv3 ([], 0)) fun ov => match ov with | result1 => components_Primary_k1 result1)
def R04_Same_k1 : Comp Bool :=
  Comp.ret true
def R04_Same_L2 (a1 : (List (Fin 8 → Int))) (b1 : (List (Fin 8 → Int))) : Int → Comp (Bool ⊕ Unit) :=
  Comp.loop fun gs => match gs with | i1 => if i1 < (a1.length : Int) then (Comp.at' a1 i1 fun x1 => Comp.at' b1 i1 fun x2 => if ¬ x1 = x2 then (Comp.ret (.inr (.inl false))) else (Comp.ret (.inl (IntKind.i64.wrap (i1 + 1))))) else (Comp.ret (.inr (.inr ())))
def R04_Same (a1 : (List (Fin 8 → Int))) (b1 : (List (Fin 8 → Int))) : Comp Bool :=
  if ¬ (a1.length : Int) = (b1.length : Int) then (Comp.ret false) else (Comp.next (R04_Same_L2 a1 b1 0) fun ov => match ov with | .inl rv1 => Comp.ret rv1 | .inr () => R04_Same_k1)
def R18_SameSets (a1 : (List Int)) (b1 : (List Int)) : Comp Bool :=
  Comp.ret (decide ((bytesOf a1) = (bytesOf b1)))
def R21_SameParts_k1 : Comp Bool :=
  Comp.ret true
def R21_SameParts_L2 (a1 : (List T_api_Part)) (b1 : (List T_api_Part)) : Int → Comp (Bool ⊕ Unit) :=
  Comp.loop fun gs => match gs with | i1 => if i1 < (a1.length : Int) then (Comp.at' a1 i1 fun x1 => Comp.at' b1 i1 fun x2 => if ¬ x1.prime = x2.prime then (Comp.ret (.inr (.inl false))) else (Comp.at' a1 i1 fun x3 => Comp.at' b1 i1 fun x4 => Comp.bind (R04_Same x3.gens x4.gens) fun yv1 => if (!yv1) = true then (Comp.ret (.inr (.inl false))) else (Comp.ret (.inl (IntKind.i64.wrap (i1 + 1)))))) else (Comp.ret (.inr (.inr ())))
def R21_SameParts (a1 : (List T_api_Part)) (b1 : (List T_api_Part)) : Comp Bool :=
  if ¬ (a1.length : Int) = (b1.length : Int) then (Comp.ret false) else (Comp.next (R21_SameParts_L2 a1 b1 0) fun ov => match ov with | .inl rv1 => Comp.ret rv1 | .inr () => R21_SameParts_k1)
def components_Radical_k1 (rv1 : (List (Fin 8 → Int))) : Comp ((List (Fin 8 → Int))) :=
  Comp.bind (monomial_Minimal rv1) fun yv1 => Comp.ret yv1
def components_Radical_k3 (rv2 : (List (Fin 8 → Int))) (v9_1 : Int) (bx1 : (Fin 8 → Int)) : Comp (((List (Fin 8 → Int)) × Int) ⊕ (((List (Fin 8 → Int))))) :=
  Comp.chk ((rv2 ++ [bx1]).length ≤ small) (Comp.ret (.inl ((rv2 ++ [bx1]), IntKind.i64.wrap (v9_1 + 1))))
def components_Radical_L4 : (Int × (Fin 8 → Int)) → Comp (Fin 8 → Int) :=
  Comp.loop fun gs => match gs with | (v13_1, bx2) => if v13_1 < 8 then (Comp.chk (0 ≤ v13_1 ∧ v13_1 < 8) (Comp.chk (0 ≤ v13_1 ∧ v13_1 < 8) (Comp.ret (.inl (IntKind.i64.wrap (v13_1 + 1), setF bx2 v13_1.toNat (if 1 < (getF bx2 v13_1) then 1 else (getF bx2 v13_1))))))) else (Comp.ret (.inr bx2))
def components_Radical_L2 (l1 : (List (Fin 8 → Int))) : ((List (Fin 8 → Int)) × Int) → Comp (((List (Fin 8 → Int)))) :=
  Comp.loop fun gs => match gs with | (rv2, v9_1) => if v9_1 < (l1.length : Int) then (Comp.at' l1 v9_1 fun x1 => Comp.next (components_Radical_L4 (0, x1)) fun ov => match ov with | bx1 => components_Radical_k3 rv2 v9_1 bx1) else (Comp.ret (.inr rv2))
def components_Radical (l1 : (List (Fin 8 → Int))) : Comp ((List (Fin 8 → Int))) :=
  Comp.next (components_Radical_L2 l1 ([], 0)) fun ov => match ov with | rv1 => components_Radical_k1 rv1
def components_Meet (l1 : (List (Fin 8 → Int))) (m1 : (List (Fin 8 → Int))) : Comp ((List (Fin 8 → Int))) :=
  Comp.bind (components_meet [l1, m1]) fun yv1 => Comp.ret yv1
def law21_sanity_k1 (yv1 : (List (Fin 8 → Int)) × Int) (yv2 : (List Int) × Int) (yv3 : (List Int) × Int) (yv4 : (List T_api_Part) × Int) (v12_1 : Bool) : Comp Bool :=
  if v12_1 = true then (Comp.bind (R04_Same yv1.1 [setF (setF (fun _ => 0) 0 2) 1 1, setF (fun _ => 0) 0 1]) fun yv6 => match yv6 with | false => (Comp.ret false) | true => (Comp.bind (R18_SameSets yv2.1 [1, 3]) fun yv7 => match yv7 with | false => (Comp.ret false) | true => (Comp.bind (R18_SameSets yv3.1 [3]) fun yv8 => match yv8 with | false => (Comp.ret false) | true => (Comp.bind (R21_SameParts yv4.1 [(T_api_Part.mk 1 [setF (fun _ => 0) 0 1]), (T_api_Part.mk 3 [setF (fun _ => 0) 0 2, setF (setF (fun _ => 0) 0 0) 1 1])]) fun yv9 => match yv9 with | false => (Comp.ret false) | true => (Comp.bind (components_Radical [setF (fun _ => 0) 0 2, setF (setF (fun _ => 0) 0 1) 1 1]) fun yv10 => Comp.bind (R04_Same yv10 [setF (fun _ => 0) 0 1]) fun yv11 => match yv11 with | false => (Comp.ret false) | true => (Comp.bind (components_Meet [setF (fun _ => 0) 0 1] [setF (setF (fun _ => 0) 0 0) 1 1]) fun yv12 => Comp.bind (R04_Same yv12 [setF (setF (fun _ => 0) 0 1) 1 1]) fun yv13 => Comp.ret yv13)))))) else (Comp.ret false)
def law21_sanity : Comp Bool :=
  Comp.bind (components_Irreducible [setF (fun _ => 0) 0 2, setF (setF (fun _ => 0) 0 1) 1 1] 2) fun yv1 => Comp.bind (components_Primes [setF (fun _ => 0) 0 2, setF (setF (fun _ => 0) 0 1) 1 1] 2) fun yv2 => Comp.bind (components_Embedded [setF (fun _ => 0) 0 2, setF (setF (fun _ => 0) 0 1) 1 1] 2) fun yv3 => Comp.bind (components_Primary [setF (fun _ => 0) 0 2, setF (setF (fun _ => 0) 0 1) 1 1] 2) fun yv4 => Comp.bind (components_Primes [setF (fun _ => 0) 0 2, setF (setF (fun _ => 0) 0 1) 1 1] 1) fun yv5 => if yv1.2 = 0 then (if yv2.2 = 0 then (if yv3.2 = 0 then (if yv4.2 = 0 then (law21_sanity_k1 yv1 yv2 yv3 yv4 (decide (yv5.2 = 1))) else (law21_sanity_k1 yv1 yv2 yv3 yv4 false)) else (law21_sanity_k1 yv1 yv2 yv3 yv4 false)) else (law21_sanity_k1 yv1 yv2 yv3 yv4 false)) else (law21_sanity_k1 yv1 yv2 yv3 yv4 false)
def law21_vars (x1 : T_law21_Input) : Comp Int :=
  Comp.ret (IntKind.i64.wrap (Int.tmod x1.n 5))
def R18_Made_k1 (out1 : (List (Fin 8 → Int))) : Comp ((List (Fin 8 → Int))) :=
  Comp.ret out1
def R18_Made_k3 (out2 : (List (Fin 8 → Int))) (i1 : Int) (bx1 : (Fin 8 → Int)) : Comp (((List (Fin 8 → Int)) × Int) ⊕ (((List (Fin 8 → Int))))) :=
  Comp.chk ((out2 ++ [bx1]).length ≤ small) (Comp.ret (.inl ((out2 ++ [bx1]), IntKind.i64.wrap (i1 + 1))))
def R18_Made_L4 (x1 : (List (Fin 4 → Int))) (n1 : Int) (top1 : Int) (i1 : Int) : (Int × (Fin 8 → Int)) → Comp (Fin 8 → Int) :=
  Comp.loop fun gs => match gs with | (k1, bx2) => if k1 < n1 then (if k1 < 4 then (Comp.at' x1 i1 fun x2 => Comp.chk (0 ≤ k1 ∧ k1 < 4) (Comp.chk ((IntKind.i64.wrap (top1 + 1)) ≠ 0) (Comp.chk (0 ≤ k1 ∧ k1 < 8) (Comp.ret (.inl (IntKind.i64.wrap (k1 + 1), setF bx2 k1.toNat (Int.tmod (IntKind.i64.wrap (getF x2 k1)) (IntKind.i64.wrap (top1 + 1))))))))) else (Comp.ret (.inr bx2))) else (Comp.ret (.inr bx2))
def R18_Made_L2 (x1 : (List (Fin 4 → Int))) (n1 : Int) (most1 : Int) (top1 : Int) : ((List (Fin 8 → Int)) × Int) → Comp (((List (Fin 8 → Int)))) :=
  Comp.loop fun gs => match gs with | (out2, i1) => if i1 < (x1.length : Int) then (if i1 < most1 then (Comp.next (R18_Made_L4 x1 n1 top1 i1 (0, (fun _ => 0))) fun ov => match ov with | bx1 => R18_Made_k3 out2 i1 bx1) else (Comp.ret (.inr out2))) else (Comp.ret (.inr out2))
def R18_Made (x1 : (List (Fin 4 → Int))) (n1 : Int) (most1 : Int) (top1 : Int) : Comp ((List (Fin 8 → Int))) :=
  Comp.next (R18_Made_L2 x1 n1 most1 top1 ([], 0)) fun ov => match ov with | out1 => R18_Made_k1 out1
def R04_Valid_k1 : Comp Bool :=
  Comp.ret true
def R04_Valid_L2 (m1 : (Fin 8 → Int)) : Int → Comp (Bool ⊕ Unit) :=
  Comp.loop fun gs => match gs with | i1 => if i1 < 8 then (Comp.chk (0 ≤ i1 ∧ i1 < 8) (if (getF m1 i1) < 0 then (Comp.ret (.inr (.inl false))) else (Comp.chk (0 ≤ i1 ∧ i1 < 8) (if 65535 < (getF m1 i1) then (Comp.ret (.inr (.inl false))) else (Comp.ret (.inl (IntKind.i64.wrap (i1 + 1)))))))) else (Comp.ret (.inr (.inr ())))
def R04_Valid (m1 : (Fin 8 → Int)) : Comp Bool :=
  Comp.next (R04_Valid_L2 m1 0) fun ov => match ov with | .inl rv1 => Comp.ret rv1 | .inr () => R04_Valid_k1
def R04_Bit_k1 (n1 : Int) : Comp Int :=
  Comp.ret (IntKind.u8.wrap n1)
def R04_Bit_L2 (i1 : Int) : (Int × Int) → Comp Int :=
  Comp.loop fun gs => match gs with | (n2, k1) => if k1 < i1 then (Comp.ret (.inl (IntKind.i64.wrap (2 * n2), IntKind.i64.wrap (k1 + 1)))) else (Comp.ret (.inr n2))
def R04_Bit (i1 : Int) : Comp Int :=
  Comp.next (R04_Bit_L2 i1 (1, 0)) fun ov => match ov with | n1 => R04_Bit_k1 n1
def R04_Support_k1 (n1 : Int) : Comp Int :=
  Comp.ret n1
def R04_Support_L2 (m1 : (Fin 8 → Int)) : (Int × Int) → Comp Int :=
  Comp.loop fun gs => match gs with | (n2, i1) => if i1 < 8 then (Comp.chk (0 ≤ i1 ∧ i1 < 8) (if 0 < (getF m1 i1) then (Comp.bind (R04_Bit i1) fun yv1 => Comp.ret (.inl (IntKind.u8.wrap (n2 + yv1), IntKind.i64.wrap (i1 + 1)))) else (Comp.ret (.inl (n2, IntKind.i64.wrap (i1 + 1)))))) else (Comp.ret (.inr n2))
def R04_Support (m1 : (Fin 8 → Int)) : Comp Int :=
  Comp.next (R04_Support_L2 m1 (0, 0)) fun ov => match ov with | n1 => R04_Support_k1 n1
def R21_check_k1 (l1 : (List (Fin 8 → Int))) : Comp Int :=
  if 8 < (l1.length : Int) then (Comp.ret 2) else (Comp.ret 0)
def R21_check_L2 (l1 : (List (Fin 8 → Int))) (n1 : Int) : Int → Comp (Int ⊕ Unit) :=
  Comp.loop fun gs => match gs with | i1 => if i1 < (l1.length : Int) then (Comp.at' l1 i1 fun x1 => Comp.bind (R04_Valid x1) fun yv1 => match yv1 with | false => (Comp.ret (.inr (.inl 1))) | true => (Comp.at' l1 i1 fun x2 => Comp.bind (R04_Support x2) fun yv2 => Comp.chk (0 ≤ n1) (if 0 < (Int.fdiv (IntKind.i64.wrap yv2) (2 ^ (min (n1).toNat IntKind.i64.bits))) then (Comp.ret (.inr (.inl 1))) else (Comp.ret (.inl (IntKind.i64.wrap (i1 + 1))))))) else (Comp.ret (.inr (.inr ())))
def R21_check (l1 : (List (Fin 8 → Int))) (n1 : Int) : Comp Int :=
  if n1 < 0 then (Comp.ret 1) else (if 8 < n1 then (Comp.ret 1) else (Comp.next (R21_check_L2 l1 n1 0) fun ov => match ov with | .inl rv1 => Comp.ret rv1 | .inr () => R21_check_k1 l1))
def R04_Divides_k1 : Comp Bool :=
  Comp.ret true
def R04_Divides_L2 (a1 : (Fin 8 → Int)) (b1 : (Fin 8 → Int)) : Int → Comp (Bool ⊕ Unit) :=
  Comp.loop fun gs => match gs with | i1 => if i1 < 8 then (Comp.chk (0 ≤ i1 ∧ i1 < 8) (Comp.chk (0 ≤ i1 ∧ i1 < 8) (if (getF b1 i1) < (getF a1 i1) then (Comp.ret (.inr (.inl false))) else (Comp.ret (.inl (IntKind.i64.wrap (i1 + 1))))))) else (Comp.ret (.inr (.inr ())))
def R04_Divides (a1 : (Fin 8 → Int)) (b1 : (Fin 8 → Int)) : Comp Bool :=
  Comp.next (R04_Divides_L2 a1 b1 0) fun ov => match ov with | .inl rv1 => Comp.ret rv1 | .inr () => R04_Divides_k1
def R04_lowest_k1 : Comp Bool :=
  Comp.ret true
def R04_lowest_L2 (m1 : (Fin 8 → Int)) (l1 : (List (Fin 8 → Int))) : Int → Comp (Bool ⊕ Unit) :=
  Comp.loop fun gs => match gs with | i1 => if i1 < (l1.length : Int) then (Comp.at' l1 i1 fun x1 => if ¬ x1 = m1 then (Comp.at' l1 i1 fun x2 => Comp.bind (R04_Divides x2 m1) fun yv1 => if yv1 = true then (Comp.ret (.inr (.inl false))) else (Comp.ret (.inl (IntKind.i64.wrap (i1 + 1))))) else (Comp.ret (.inl (IntKind.i64.wrap (i1 + 1))))) else (Comp.ret (.inr (.inr ())))
def R04_lowest (m1 : (Fin 8 → Int)) (l1 : (List (Fin 8 → Int))) : Comp Bool :=
  Comp.next (R04_lowest_L2 m1 l1 0) fun ov => match ov with | .inl rv1 => Comp.ret rv1 | .inr () => R04_lowest_k1
def R04_Cmp_k1 : Comp Int :=
  Comp.ret 0
def R04_Cmp_L2 (a1 : (Fin 8 → Int)) (b1 : (Fin 8 → Int)) : Int → Comp (Int ⊕ Unit) :=
  Comp.loop fun gs => match gs with | i1 => if i1 < 8 then (Comp.chk (0 ≤ i1 ∧ i1 < 8) (Comp.chk (0 ≤ i1 ∧ i1 < 8) (if (getF a1 i1) < (getF b1 i1) then (Comp.ret (.inr (.inl (-1)))) else (Comp.chk (0 ≤ i1 ∧ i1 < 8) (Comp.chk (0 ≤ i1 ∧ i1 < 8) (if (getF b1 i1) < (getF a1 i1) then (Comp.ret (.inr (.inl 1))) else (Comp.ret (.inl (IntKind.i64.wrap (i1 + 1)))))))))) else (Comp.ret (.inr (.inr ())))
def R04_Cmp (a1 : (Fin 8 → Int)) (b1 : (Fin 8 → Int)) : Comp Int :=
  Comp.next (R04_Cmp_L2 a1 b1 0) fun ov => match ov with | .inl rv1 => Comp.ret rv1 | .inr () => R04_Cmp_k1
def R04_insert_k1 (m1 : (Fin 8 → Int)) (out1 : (List (Fin 8 → Int))) (done1 : Bool) : Comp ((List (Fin 8 → Int))) :=
  if (!done1) = true then (Comp.chk ((out1 ++ [m1]).length ≤ small) (Comp.ret (out1 ++ [m1]))) else (Comp.ret out1)
def R04_insert_L2 (l1 : (List (Fin 8 → Int))) (m1 : (Fin 8 → Int)) : ((List (Fin 8 → Int)) × Bool × Int) → Comp (((List (Fin 8 → Int)) × Bool)) :=
  Comp.loop fun gs => match gs with | (out2, done2, i1) => if i1 < (l1.length : Int) then (if done2 = true then (Comp.at' l1 i1 fun x1 => Comp.chk ((out2 ++ [x1]).length ≤ small) (Comp.ret (.inl ((out2 ++ [x1]), done2, IntKind.i64.wrap (i1 + 1))))) else (Comp.at' l1 i1 fun x2 => Comp.bind (R04_Cmp m1 x2) fun yv1 => if 0 ≤ yv1 then (Comp.at' l1 i1 fun x3 => if ¬ x3 = m1 then (Comp.chk ((out2 ++ [m1]).length ≤ small) (Comp.at' l1 i1 fun x4 => Comp.chk (((out2 ++ [m1]) ++ [x4]).length ≤ small) (Comp.ret (.inl (((out2 ++ [m1]) ++ [x4]), true, IntKind.i64.wrap (i1 + 1)))))) else (Comp.at' l1 i1 fun x5 => Comp.chk ((out2 ++ [x5]).length ≤ small) (Comp.ret (.inl ((out2 ++ [x5]), true, IntKind.i64.wrap (i1 + 1)))))) else (Comp.at' l1 i1 fun x6 => Comp.chk ((out2 ++ [x6]).length ≤ small) (Comp.ret (.inl ((out2 ++ [x6]), done2, IntKind.i64.wrap (i1 + 1))))))) else (Comp.ret (.inr (out2, done2)))
def R04_insert (l1 : (List (Fin 8 → Int))) (m1 : (Fin 8 → Int)) : Comp ((List (Fin 8 → Int))) :=
  Comp.next (R04_insert_L2 l1 m1 ([], false, 0)) fun ov => match ov with | (out1, done1) => R04_insert_k1 m1 out1 done1
def R04_Minimal_k1 (out1 : (List (Fin 8 → Int))) : Comp ((List (Fin 8 → Int))) :=
  Comp.ret out1
def R04_Minimal_L2 (l1 : (List (Fin 8 → Int))) : ((List (Fin 8 → Int)) × Int) → Comp (((List (Fin 8 → Int)))) :=
  Comp.loop fun gs => match gs with | (out2, i1) => if i1 < (l1.length : Int) then (Comp.at' l1 i1 fun x1 => Comp.bind (R04_lowest x1 l1) fun yv1 => if yv1 = true then (Comp.at' l1 i1 fun x2 => Comp.bind (R04_insert out2 x2) fun yv2 => Comp.ret (.inl (yv2, IntKind.i64.wrap (i1 + 1)))) else (Comp.ret (.inl (out2, IntKind.i64.wrap (i1 + 1))))) else (Comp.ret (.inr out2))
def R04_Minimal (l1 : (List (Fin 8 → Int))) : Comp ((List (Fin 8 → Int))) :=
  Comp.next (R04_Minimal_L2 l1 ([], 0)) fun ov => match ov with | out1 => R04_Minimal_k1 out1
def R21_split_k1 (out1 : (List (Fin 8 → Int))) : Comp ((List (Fin 8 → Int))) :=
  Comp.ret out1
def R21_split_L2 (a1 : (Fin 8 → Int)) (m1 : (Fin 8 → Int)) : ((List (Fin 8 → Int)) × Int) → Comp (((List (Fin 8 → Int)))) :=
  Comp.loop fun gs => match gs with | (out2, i1) => if i1 < 8 then (Comp.chk (0 ≤ i1 ∧ i1 < 8) (if 0 < (getF m1 i1) then (Comp.chk (0 ≤ i1 ∧ i1 < 8) (if (getF a1 i1) = 0 then (Comp.chk (0 ≤ i1 ∧ i1 < 8) (Comp.chk (0 ≤ i1 ∧ i1 < 8) (Comp.chk ((out2 ++ [setF a1 i1.toNat (getF m1 i1)]).length ≤ small) (Comp.ret (.inl ((out2 ++ [setF a1 i1.toNat (getF m1 i1)]), IntKind.i64.wrap (i1 + 1))))))) else (Comp.chk (0 ≤ i1 ∧ i1 < 8) (Comp.chk (0 ≤ i1 ∧ i1 < 8) (if (getF m1 i1) < (getF a1 i1) then (Comp.chk (0 ≤ i1 ∧ i1 < 8) (Comp.chk (0 ≤ i1 ∧ i1 < 8) (Comp.chk ((out2 ++ [setF a1 i1.toNat (getF m1 i1)]).length ≤ small) (Comp.ret (.inl ((out2 ++ [setF a1 i1.toNat (getF m1 i1)]), IntKind.i64.wrap (i1 + 1))))))) else (Comp.chk ((out2 ++ [a1]).length ≤ small) (Comp.ret (.inl ((out2 ++ [a1]), IntKind.i64.wrap (i1 + 1)))))))))) else (Comp.ret (.inl (out2, IntKind.i64.wrap (i1 + 1)))))) else (Comp.ret (.inr out2))
def R21_split (a1 : (Fin 8 → Int)) (m1 : (Fin 8 → Int)) : Comp ((List (Fin 8 → Int))) :=
  Comp.next (R21_split_L2 a1 m1 ([], 0)) fun ov => match ov with | out1 => R21_split_k1 out1
def R21_Inside_k1 : Comp Bool :=
  Comp.ret true
def R21_Inside_L2 (a1 : (Fin 8 → Int)) (b1 : (Fin 8 → Int)) : Int → Comp (Bool ⊕ Unit) :=
  Comp.loop fun gs => match gs with | i1 => if i1 < 8 then (Comp.chk (0 ≤ i1 ∧ i1 < 8) (if 0 < (getF a1 i1) then (Comp.chk (0 ≤ i1 ∧ i1 < 8) (if (getF b1 i1) = 0 then (Comp.ret (.inr (.inl false))) else (Comp.chk (0 ≤ i1 ∧ i1 < 8) (Comp.chk (0 ≤ i1 ∧ i1 < 8) (if (getF a1 i1) < (getF b1 i1) then (Comp.ret (.inr (.inl false))) else (Comp.ret (.inl (IntKind.i64.wrap (i1 + 1))))))))) else (Comp.ret (.inl (IntKind.i64.wrap (i1 + 1)))))) else (Comp.ret (.inr (.inr ())))
def R21_Inside (a1 : (Fin 8 → Int)) (b1 : (Fin 8 → Int)) : Comp Bool :=
  Comp.next (R21_Inside_L2 a1 b1 0) fun ov => match ov with | .inl rv1 => Comp.ret rv1 | .inr () => R21_Inside_k1
def R21_least_k1 (out1 : (List (Fin 8 → Int))) : Comp ((List (Fin 8 → Int))) :=
  Comp.ret out1
def R21_least_k3 (l1 : (List (Fin 8 → Int))) (out2 : (List (Fin 8 → Int))) (i1 : Int) (keep1 : Bool) : Comp (((List (Fin 8 → Int)) × Int) ⊕ (((List (Fin 8 → Int))))) :=
  if keep1 = true then (Comp.at' l1 i1 fun x1 => Comp.chk ((out2 ++ [x1]).length ≤ small) (Comp.ret (.inl ((out2 ++ [x1]), IntKind.i64.wrap (i1 + 1))))) else (Comp.ret (.inl (out2, IntKind.i64.wrap (i1 + 1))))
def R21_least_L4 (l1 : (List (Fin 8 → Int))) (i1 : Int) : (Bool × Int) → Comp Bool :=
  Comp.loop fun gs => match gs with | (keep2, k1) => if k1 < (l1.length : Int) then (Comp.at' l1 k1 fun x2 => Comp.at' l1 i1 fun x3 => Comp.bind (R21_Inside x2 x3) fun yv1 => match yv1 with | false => (Comp.ret (.inl (keep2, IntKind.i64.wrap (k1 + 1)))) | true => (Comp.at' l1 k1 fun x4 => Comp.at' l1 i1 fun x5 => if ¬ x4 = x5 then (Comp.ret (.inl (false, IntKind.i64.wrap (k1 + 1)))) else (if k1 < i1 then (Comp.ret (.inl (false, IntKind.i64.wrap (k1 + 1)))) else (Comp.ret (.inl (keep2, IntKind.i64.wrap (k1 + 1))))))) else (Comp.ret (.inr keep2))
def R21_least_L2 (l1 : (List (Fin 8 → Int))) : ((List (Fin 8 → Int)) × Int) → Comp (((List (Fin 8 → Int)))) :=
  Comp.loop fun gs => match gs with | (out2, i1) => if i1 < (l1.length : Int) then (Comp.next (R21_least_L4 l1 i1 (true, 0)) fun ov => match ov with | keep1 => R21_least_k3 l1 out2 i1 keep1) else (Comp.ret (.inr out2))
def R21_least (l1 : (List (Fin 8 → Int))) : Comp ((List (Fin 8 → Int))) :=
  Comp.next (R21_least_L2 l1 ([], 0)) fun ov => match ov with | out1 => R21_least_k1 out1
def R21_sorted_k1 (out1 : (List (Fin 8 → Int))) : Comp ((List (Fin 8 → Int))) :=
  Comp.ret out1
def R21_sorted_k3 (l1 : (List (Fin 8 → Int))) (out2 : (List (Fin 8 → Int))) (i1 : Int) (atv1 : Int) : Comp (((List (Fin 8 → Int)) × Int) ⊕ (((List (Fin 8 → Int))))) :=
  Comp.chk (0 ≤ (0 : Int) ∧ (0 : Int) ≤ atv1 ∧ atv1 ≤ (out2.length : Int)) (Comp.chk (([] ++ ((out2.take atv1.toNat).drop (0 : Int).toNat)).length ≤ small) (Comp.at' l1 i1 fun x1 => Comp.chk ((([] ++ ((out2.take atv1.toNat).drop (0 : Int).toNat)) ++ [x1]).length ≤ small) (Comp.chk (0 ≤ atv1 ∧ atv1 ≤ (out2.length : Int) ∧ (out2.length : Int) ≤ (out2.length : Int)) (Comp.chk (((([] ++ ((out2.take atv1.toNat).drop (0 : Int).toNat)) ++ [x1]) ++ ((out2.take (out2.length : Int).toNat).drop atv1.toNat)).length ≤ small) (Comp.ret (.inl (((([] ++ ((out2.take atv1.toNat).drop (0 : Int).toNat)) ++ [x1]) ++ ((out2.take (out2.length : Int).toNat).drop atv1.toNat)), IntKind.i64.wrap (i1 + 1))))))))
def R21_sorted_L4 (l1 : (List (Fin 8 → Int))) (out2 : (List (Fin 8 → Int))) (i1 : Int) : Int → Comp Int :=
  Comp.loop fun gs => match gs with | atv2 => if atv2 < (out2.length : Int) then (Comp.at' out2 atv2 fun x2 => Comp.at' l1 i1 fun x3 => Comp.bind (R04_Cmp x2 x3) fun yv1 => if 0 < yv1 then (Comp.ret (.inl (IntKind.i64.wrap (atv2 + 1)))) else (Comp.ret (.inr atv2))) else (Comp.ret (.inr atv2))
def R21_sorted_L2 (l1 : (List (Fin 8 → Int))) : ((List (Fin 8 → Int)) × Int) → Comp (((List (Fin 8 → Int)))) :=
  Comp.loop fun gs => match gs with | (out2, i1) => if i1 < (l1.length : Int) then (Comp.next (R21_sorted_L4 l1 out2 i1 0) fun ov => match ov with | atv1 => R21_sorted_k3 l1 out2 i1 atv1) else (Comp.ret (.inr out2))
def R21_sorted (l1 : (List (Fin 8 → Int))) : Comp ((List (Fin 8 → Int))) :=
  Comp.next (R21_sorted_L2 l1 ([], 0)) fun ov => match ov with | out1 => R21_sorted_k1 out1
def R21_Irreducible_k1 (out1 : (List (Fin 8 → Int))) : Comp ((List (Fin 8 → Int)) × Int) :=
  Comp.bind (R21_sorted out1) fun yv3 => Comp.ret (yv3, 0)
def R21_Irreducible_k3 (i1 : Int) (next1 : (List (Fin 8 → Int))) : Comp (((List (Fin 8 → Int)) × Int) ⊕ (((List (Fin 8 → Int))))) :=
  Comp.bind (R21_least next1) fun yv4 => Comp.ret (.inl (yv4, IntKind.i64.wrap (i1 + 1)))
def R21_Irreducible_L4 (yv2 : (List (Fin 8 → Int))) (out2 : (List (Fin 8 → Int))) (i1 : Int) : ((List (Fin 8 → Int)) × Int) → Comp (((List (Fin 8 → Int)))) :=
  Comp.loop fun gs => match gs with | (next2, k1) => if k1 < (out2.length : Int) then (Comp.at' out2 k1 fun x1 => Comp.at' yv2 i1 fun x2 => Comp.bind (R21_split x1 x2) fun yv5 => Comp.chk ((next2 ++ yv5).length ≤ small) (Comp.ret (.inl ((next2 ++ yv5), IntKind.i64.wrap (k1 + 1))))) else (Comp.ret (.inr next2))
def R21_Irreducible_L2 (yv2 : (List (Fin 8 → Int))) : ((List (Fin 8 → Int)) × Int) → Comp (((List (Fin 8 → Int)))) :=
  Comp.loop fun gs => match gs with | (out2, i1) => if i1 < (yv2.length : Int) then (Comp.next (R21_Irreducible_L4 yv2 out2 i1 ([], 0)) fun ov => match ov with | next1 => R21_Irreducible_k3 i1 next1) else (Comp.ret (.inr out2))
def R21_Irreducible (l1 : (List (Fin 8 → Int))) (n1 : Int) : Comp ((List (Fin 8 → Int)) × Int) :=
  Comp.bind (R21_check l1 n1) fun yv1 => if ¬ yv1 = 0 then (Comp.ret ([], yv1)) else (Comp.bind (R04_Minimal l1) fun yv2 => Comp.next (R21_Irreducible_L2 yv2 ([(fun _ => 0)], 0)) fun ov => match ov with | out1 => R21_Irreducible_k1 out1)
def R21_Primes_k1 (yv1 : (List (Fin 8 → Int)) × Int) (out1 : (List Int)) : Comp ((List Int) × Int) :=
  Comp.ret (out1, yv1.2)
def R21_Primes_k3 (setv1 : Int) (out3 : (List Int)) : Comp (((List Int) × Int) ⊕ (List Int)) :=
  Comp.ret (.inl (out3, IntKind.i64.wrap (setv1 + 1)))
def R21_Primes_L4 (yv1 : (List (Fin 8 → Int)) × Int) (setv1 : Int) : ((List Int) × Int) → Comp (List Int) :=
  Comp.loop fun gs => match gs with | (out4, i1) => if i1 < (yv1.1.length : Int) then (Comp.at' yv1.1 i1 fun x1 => Comp.bind (R04_Support x1) fun yv2 => if (IntKind.i64.wrap yv2) = setv1 then (Comp.chk ((out4 ++ [IntKind.u8.wrap setv1]).length ≤ small) (Comp.ret (.inr (out4 ++ [IntKind.u8.wrap setv1])))) else (Comp.ret (.inl (out4, IntKind.i64.wrap (i1 + 1))))) else (Comp.ret (.inr out4))
def R21_Primes_L2 (yv1 : (List (Fin 8 → Int)) × Int) : ((List Int) × Int) → Comp (List Int) :=
  Comp.loop fun gs => match gs with | (out2, setv1) => if setv1 < 256 then (Comp.next (R21_Primes_L4 yv1 setv1 (out2, 0)) fun ov => match ov with | out3 => R21_Primes_k3 setv1 out3) else (Comp.ret (.inr out2))
def R21_Primes (l1 : (List (Fin 8 → Int))) (n1 : Int) : Comp ((List Int) × Int) :=
  Comp.bind (R21_Irreducible l1 n1) fun yv1 => Comp.next (R21_Primes_L2 yv1 ([], 0)) fun ov => match ov with | out1 => R21_Primes_k1 yv1 out1
def R21_Embedded_k1 (yv1 : (List Int) × Int) (out1 : (List Int)) : Comp ((List Int) × Int) :=
  Comp.ret (out1, yv1.2)
def R21_Embedded_k3 (i1 : Int) (out3 : (List Int)) : Comp (((List Int) × Int) ⊕ (List Int)) :=
  Comp.ret (.inl (out3, IntKind.i64.wrap (i1 + 1)))
def R21_Embedded_L4 (yv1 : (List Int) × Int) (i1 : Int) : ((List Int) × Int) → Comp (List Int) :=
  Comp.loop fun gs => match gs with | (out4, k1) => if k1 < (yv1.1.length : Int) then (if ¬ k1 = i1 then (Comp.at' yv1.1 k1 fun x1 => Comp.at' yv1.1 i1 fun x2 => if (IntKind.u8.wrap (BitVec.ofInt IntKind.u8.bits x1 &&& ~~~ BitVec.ofInt IntKind.u8.bits x2).toNat) = 0 then (Comp.at' yv1.1 i1 fun x3 => Comp.chk ((out4 ++ [x3]).length ≤ small) (Comp.ret (.inr (out4 ++ [x3])))) else (Comp.ret (.inl (out4, IntKind.i64.wrap (k1 + 1))))) else (Comp.ret (.inl (out4, IntKind.i64.wrap (k1 + 1))))) else (Comp.ret (.inr out4))
def R21_Embedded_L2 (yv1 : (List Int) × Int) : ((List Int) × Int) → Comp (List Int) :=
  Comp.loop fun gs => match gs with | (out2, i1) => if i1 < (yv1.1.length : Int) then (Comp.next (R21_Embedded_L4 yv1 i1 (out2, 0)) fun ov => match ov with | out3 => R21_Embedded_k3 i1 out3) else (Comp.ret (.inr out2))
def R21_Embedded (l1 : (List (Fin 8 → Int))) (n1 : Int) : Comp ((List Int) × Int) :=
  Comp.bind (R21_Primes l1 n1) fun yv1 => Comp.next (R21_Embedded_L2 yv1 ([], 0)) fun ov => match ov with | out1 => R21_Embedded_k1 yv1 out1
def R21_Gens_k1 (out1 : (List (Fin 8 → Int))) : Comp ((List (Fin 8 → Int))) :=
  Comp.ret out1
def R21_Gens_L2 (a1 : (Fin 8 → Int)) : ((List (Fin 8 → Int)) × Int) → Comp (((List (Fin 8 → Int)))) :=
  Comp.loop fun gs => match gs with | (out2, i1) => if i1 < 8 then (Comp.chk (0 ≤ i1 ∧ i1 < 8) (if 0 < (getF a1 i1) then (Comp.chk (0 ≤ i1 ∧ i1 < 8) (Comp.chk (0 ≤ i1 ∧ i1 < 8) (Comp.chk ((out2 ++ [setF (fun _ => 0) i1.toNat (getF a1 i1)]).length ≤ small) (Comp.ret (.inl ((out2 ++ [setF (fun _ => 0) i1.toNat (getF a1 i1)]), IntKind.i64.wrap (i1 + 1))))))) else (Comp.ret (.inl (out2, IntKind.i64.wrap (i1 + 1)))))) else (Comp.ret (.inr out2))
def R21_Gens (a1 : (Fin 8 → Int)) : Comp ((List (Fin 8 → Int))) :=
  Comp.next (R21_Gens_L2 a1 ([], 0)) fun ov => match ov with | out1 => R21_Gens_k1 out1
def R04_Lcm_k1 (bx1 : (Fin 8 → Int)) : Comp (Fin 8 → Int) :=
  Comp.ret bx1
def R04_Lcm_L2 (b1 : (Fin 8 → Int)) : (Int × (Fin 8 → Int)) → Comp (Fin 8 → Int) :=
  Comp.loop fun gs => match gs with | (i1, bx2) => if i1 < 8 then (Comp.chk (0 ≤ i1 ∧ i1 < 8) (Comp.chk (0 ≤ i1 ∧ i1 < 8) (Comp.chk (0 ≤ i1 ∧ i1 < 8) (Comp.ret (.inl (IntKind.i64.wrap (i1 + 1), setF bx2 i1.toNat (if (getF bx2 i1) < (getF b1 i1) then (getF b1 i1) else (getF bx2 i1)))))))) else (Comp.ret (.inr bx2))
def R04_Lcm (a1 : (Fin 8 → Int)) (b1 : (Fin 8 → Int)) : Comp (Fin 8 → Int) :=
  Comp.next (R04_Lcm_L2 b1 (0, a1)) fun ov => match ov with | bx1 => R04_Lcm_k1 bx1
def R21_Meet_k1 (out1 : (List (Fin 8 → Int))) : Comp ((List (Fin 8 → Int))) :=
  Comp.bind (R04_Minimal out1) fun yv1 => Comp.ret yv1
def R21_Meet_k3 (i1 : Int) (out3 : (List (Fin 8 → Int))) : Comp (((List (Fin 8 → Int)) × Int) ⊕ (((List (Fin 8 → Int))))) :=
  Comp.ret (.inl (out3, IntKind.i64.wrap (i1 + 1)))
def R21_Meet_L4 (l1 : (List (Fin 8 → Int))) (m1 : (List (Fin 8 → Int))) (i1 : Int) : ((List (Fin 8 → Int)) × Int) → Comp (((List (Fin 8 → Int)))) :=
  Comp.loop fun gs => match gs with | (out4, k1) => if k1 < (m1.length : Int) then (Comp.at' l1 i1 fun x1 => Comp.at' m1 k1 fun x2 => Comp.bind (R04_Lcm x1 x2) fun yv2 => Comp.chk ((out4 ++ [yv2]).length ≤ small) (Comp.ret (.inl ((out4 ++ [yv2]), IntKind.i64.wrap (k1 + 1))))) else (Comp.ret (.inr out4))
def R21_Meet_L2 (l1 : (List (Fin 8 → Int))) (m1 : (List (Fin 8 → Int))) : ((List (Fin 8 → Int)) × Int) → Comp (((List (Fin 8 → Int)))) :=
  Comp.loop fun gs => match gs with | (out2, i1) => if i1 < (l1.length : Int) then (Comp.next (R21_Meet_L4 l1 m1 i1 (out2, 0)) fun ov => match ov with | out3 => R21_Meet_k3 i1 out3) else (Comp.ret (.inr out2))
def R21_Meet (l1 : (List (Fin 8 → Int))) (m1 : (List (Fin 8 → Int))) : Comp ((List (Fin 8 → Int))) :=
  Comp.next (R21_Meet_L2 l1 m1 ([], 0)) fun ov => match ov with | out1 => R21_Meet_k1 out1
def R21_Primary_k1 (yv1 : (List (Fin 8 → Int)) × Int) (v10_1 : (List T_api_Part)) : Comp ((List T_api_Part) × Int) :=
  Comp.ret (v10_1, yv1.2)
def R21_Primary_k3 (yv2 : (List Int) × Int) (v10_2 : (List T_api_Part)) (v11_1 : Int) (v12_1 : (List (Fin 8 → Int))) : Comp (((List T_api_Part) × Int) ⊕ (List T_api_Part)) :=
  Comp.at' yv2.1 v11_1 fun x1 => Comp.chk ((v10_2 ++ [(T_api_Part.mk x1 v12_1)]).length ≤ small) (Comp.ret (.inl ((v10_2 ++ [(T_api_Part.mk x1 v12_1)]), IntKind.i64.wrap (v11_1 + 1))))
def R21_Primary_L4 (yv1 : (List (Fin 8 → Int)) × Int) (yv2 : (List Int) × Int) (v11_1 : Int) : ((List (Fin 8 → Int)) × Int) → Comp (((List (Fin 8 → Int)))) :=
  Comp.loop fun gs => match gs with | (v12_2, v13_1) => if v13_1 < (yv1.1.length : Int) then (Comp.at' yv1.1 v13_1 fun x2 => Comp.bind (R04_Support x2) fun yv3 => Comp.at' yv2.1 v11_1 fun x3 => if yv3 = x3 then (Comp.at' yv1.1 v13_1 fun x4 => Comp.bind (R21_Gens x4) fun yv4 => Comp.bind (R21_Meet v12_2 yv4) fun yv5 => Comp.ret (.inl (yv5, IntKind.i64.wrap (v13_1 + 1)))) else (Comp.ret (.inl (v12_2, IntKind.i64.wrap (v13_1 + 1))))) else (Comp.ret (.inr v12_2))
def R21_Primary_L2 (yv1 : (List (Fin 8 → Int)) × Int) (yv2 : (List Int) × Int) : ((List T_api_Part) × Int) → Comp (List T_api_Part) :=
  Comp.loop fun gs => match gs with | (v10_2, v11_1) => if v11_1 < (yv2.1.length : Int) then (Comp.next (R21_Primary_L4 yv1 yv2 v11_1 ([(fun _ => 0)], 0)) fun ov => match ov with | v12_1 => R21_Primary_k3 yv2 v10_2 v11_1 v12_1) else (Comp.ret (.inr v10_2))
def R21_Primary (a0_1 : (List (Fin 8 → Int))) (a1_1 : Int) : Comp ((List T_api_Part) × Int) :=
  Comp.bind (R21_Irreducible a0_1 a1_1) fun yv1 => Comp.bind (R21_Primes a0_1 a1_1) fun yv2 => Comp.next (R21_Primary_L2 yv1 yv2 ([], 0)) fun ov => match ov with | v10_1 => R21_Primary_k1 yv1 v10_1
def R21_Radical_k1 (out1 : (List (Fin 8 → Int))) : Comp ((List (Fin 8 → Int))) :=
  Comp.bind (R04_Minimal out1) fun yv1 => Comp.ret yv1
def R21_Radical_k3 (out2 : (List (Fin 8 → Int))) (i1 : Int) (bx1 : (Fin 8 → Int)) : Comp (((List (Fin 8 → Int)) × Int) ⊕ (((List (Fin 8 → Int))))) :=
  Comp.chk ((out2 ++ [bx1]).length ≤ small) (Comp.ret (.inl ((out2 ++ [bx1]), IntKind.i64.wrap (i1 + 1))))
def R21_Radical_L4 (l1 : (List (Fin 8 → Int))) (i1 : Int) : (Int × (Fin 8 → Int)) → Comp (Fin 8 → Int) :=
  Comp.loop fun gs => match gs with | (k1, bx2) => if k1 < 8 then (Comp.at' l1 i1 fun x1 => Comp.chk (0 ≤ k1 ∧ k1 < 8) (Comp.chk (0 ≤ k1 ∧ k1 < 8) (Comp.ret (.inl (IntKind.i64.wrap (k1 + 1), setF bx2 k1.toNat (if 1 < (getF x1 k1) then 1 else (getF x1 k1))))))) else (Comp.ret (.inr bx2))
def R21_Radical_L2 (l1 : (List (Fin 8 → Int))) : ((List (Fin 8 → Int)) × Int) → Comp (((List (Fin 8 → Int)))) :=
  Comp.loop fun gs => match gs with | (out2, i1) => if i1 < (l1.length : Int) then (Comp.next (R21_Radical_L4 l1 i1 (0, (fun _ => 0))) fun ov => match ov with | bx1 => R21_Radical_k3 out2 i1 bx1) else (Comp.ret (.inr out2))
def R21_Radical (l1 : (List (Fin 8 → Int))) : Comp ((List (Fin 8 → Int))) :=
  Comp.next (R21_Radical_L2 l1 ([], 0)) fun ov => match ov with | out1 => R21_Radical_k1 out1
def law21_ComponentsMatchReference_k1 (yv1 : Bool) (yv3 : (List (Fin 8 → Int))) (yv4 : (List (Fin 8 → Int))) (yv5 : (List (Fin 8 → Int)) × Int) (yv6 : (List (Fin 8 → Int)) × Int) (yv7 : (List Int) × Int) (yv8 : (List Int) × Int) (yv9 : (List Int) × Int) (yv10 : (List Int) × Int) (yv11 : (List T_api_Part) × Int) (yv12 : (List T_api_Part) × Int) (v25_1 : Bool) : Comp Bool :=
  if v25_1 = true then (Comp.bind (R04_Same yv5.1 yv6.1) fun yv13 => match yv13 with | false => (Comp.ret false) | true => (Comp.bind (R18_SameSets yv7.1 yv8.1) fun yv14 => match yv14 with | false => (Comp.ret false) | true => (Comp.bind (R18_SameSets yv9.1 yv10.1) fun yv15 => match yv15 with | false => (Comp.ret false) | true => (Comp.bind (R21_SameParts yv11.1 yv12.1) fun yv16 => match yv16 with | false => (Comp.ret false) | true => (Comp.bind (components_Meet yv3 yv4) fun yv17 => Comp.bind (R21_Meet yv3 yv4) fun yv18 => Comp.bind (R04_Same yv17 yv18) fun yv19 => match yv19 with | false => (Comp.ret false) | true => (Comp.bind (components_Radical yv3) fun yv20 => Comp.bind (R21_Radical yv3) fun yv21 => Comp.bind (R04_Same yv20 yv21) fun yv22 => match yv22 with | false => (Comp.ret false) | true => (Comp.ret yv1))))))) else (Comp.ret false)
def law21_ComponentsMatchReference (a0_1 : T_law21_Input) (a1_1 : (List (Fin 4 → Int))) : Comp Bool :=
  Comp.bind (law21_sanity) fun yv1 => if (!yv1) = true then (Comp.ret false) else (Comp.bind (law21_vars a0_1) fun yv2 => Comp.bind (R18_Made a0_1.l yv2 8 3) fun yv3 => Comp.bind (R18_Made a1_1 yv2 5 3) fun yv4 => Comp.bind (components_Irreducible yv3 yv2) fun yv5 => Comp.bind (R21_Irreducible yv3 yv2) fun yv6 => Comp.bind (components_Primes yv3 yv2) fun yv7 => Comp.bind (R21_Primes yv3 yv2) fun yv8 => Comp.bind (components_Embedded yv3 yv2) fun yv9 => Comp.bind (R21_Embedded yv3 yv2) fun yv10 => Comp.bind (components_Primary yv3 yv2) fun yv11 => Comp.bind (R21_Primary yv3 yv2) fun yv12 => if yv5.2 = yv6.2 then (if yv7.2 = yv8.2 then (if yv9.2 = yv10.2 then (law21_ComponentsMatchReference_k1 yv1 yv3 yv4 yv5 yv6 yv7 yv8 yv9 yv10 yv11 yv12 (decide (yv11.2 = yv12.2))) else (law21_ComponentsMatchReference_k1 yv1 yv3 yv4 yv5 yv6 yv7 yv8 yv9 yv10 yv11 yv12 false)) else (law21_ComponentsMatchReference_k1 yv1 yv3 yv4 yv5 yv6 yv7 yv8 yv9 yv10 yv11 yv12 false)) else (law21_ComponentsMatchReference_k1 yv1 yv3 yv4 yv5 yv6 yv7 yv8 yv9 yv10 yv11 yv12 false))
def law21_made (x1 : T_law21_Input) : Comp ((List (Fin 8 → Int))) :=
  Comp.bind (R18_Made x1.l (IntKind.i64.wrap (Int.tmod x1.n 5)) 4 3) fun yv1 => Comp.ret yv1
def law21_all_k1 (out1 : (List (Fin 8 → Int))) : Comp ((List (Fin 8 → Int))) :=
  Comp.ret out1
def law21_all_k3 (i1 : Int) (next1 : (List (Fin 8 → Int))) : Comp (((List (Fin 8 → Int)) × Int) ⊕ (((List (Fin 8 → Int))))) :=
  Comp.ret (.inl (next1, IntKind.i64.wrap (i1 + 1)))
def law21_all_k5 (k1 : Int) (next3 : (List (Fin 8 → Int))) : Comp (((List (Fin 8 → Int)) × Int) ⊕ (((List (Fin 8 → Int))))) :=
  Comp.ret (.inl (next3, IntKind.i64.wrap (k1 + 1)))
def law21_all_L6 (out2 : (List (Fin 8 → Int))) (i1 : Int) (k1 : Int) : ((List (Fin 8 → Int)) × Int) → Comp (((List (Fin 8 → Int)))) :=
  Comp.loop fun gs => match gs with | (next4, ev1) => if ev1 ≤ 4 then (Comp.at' out2 k1 fun x1 => Comp.chk (0 ≤ i1 ∧ i1 < 8) (Comp.chk ((next4 ++ [setF x1 i1.toNat ev1]).length ≤ small) (Comp.ret (.inl ((next4 ++ [setF x1 i1.toNat ev1]), IntKind.i64.wrap (ev1 + 1)))))) else (Comp.ret (.inr next4))
def law21_all_L4 (out2 : (List (Fin 8 → Int))) (i1 : Int) : ((List (Fin 8 → Int)) × Int) → Comp (((List (Fin 8 → Int)))) :=
  Comp.loop fun gs => match gs with | (next2, k1) => if k1 < (out2.length : Int) then (Comp.next (law21_all_L6 out2 i1 k1 (next2, 0)) fun ov => match ov with | next3 => law21_all_k5 k1 next3) else (Comp.ret (.inr next2))
def law21_all_L2 (n1 : Int) : ((List (Fin 8 → Int)) × Int) → Comp (((List (Fin 8 → Int)))) :=
  Comp.loop fun gs => match gs with | (out2, i1) => if i1 < n1 then (Comp.next (law21_all_L4 out2 i1 ([], 0)) fun ov => match ov with | next1 => law21_all_k3 i1 next1) else (Comp.ret (.inr out2))
def law21_all (n1 : Int) : Comp ((List (Fin 8 → Int))) :=
  Comp.next (law21_all_L2 n1 ([(fun _ => 0)], 0)) fun ov => match ov with | out1 => law21_all_k1 out1
def R04_In_k1 : Comp Bool :=
  Comp.ret false
def R04_In_L2 (m1 : (Fin 8 → Int)) (l1 : (List (Fin 8 → Int))) : Int → Comp (Bool ⊕ Unit) :=
  Comp.loop fun gs => match gs with | i1 => if i1 < (l1.length : Int) then (Comp.at' l1 i1 fun x1 => Comp.bind (R04_Divides x1 m1) fun yv1 => if yv1 = true then (Comp.ret (.inr (.inl true))) else (Comp.ret (.inl (IntKind.i64.wrap (i1 + 1))))) else (Comp.ret (.inr (.inr ())))
def R04_In (m1 : (Fin 8 → Int)) (l1 : (List (Fin 8 → Int))) : Comp Bool :=
  Comp.next (R04_In_L2 m1 l1 0) fun ov => match ov with | .inl rv1 => Comp.ret rv1 | .inr () => R04_In_k1
def law21_ComponentsMeet_k1 (yv1 : Bool) : Comp Bool :=
  Comp.ret yv1
def law21_ComponentsMeet_k3 (yv2 : (List (Fin 8 → Int))) (yv6 : (List (Fin 8 → Int))) (v11_1 : Int) (x1 : (Fin 8 → Int)) (bx1 : (Fin 8 → Int)) : Comp (Int ⊕ (Bool ⊕ Unit)) :=
  Comp.bind (R04_In x1 yv6) fun yv15 => Comp.bind (R04_In bx1 yv2) fun yv16 => if ¬ yv15 = yv16 then (Comp.ret (.inr (.inl false))) else (Comp.ret (.inl (IntKind.i64.wrap (v11_1 + 1))))
def law21_ComponentsMeet_L4 (x1 : (Fin 8 → Int)) : (Int × (Fin 8 → Int)) → Comp (Fin 8 → Int) :=
  Comp.loop fun gs => match gs with | (v14_1, bx2) => if v14_1 < 8 then (Comp.chk (0 ≤ v14_1 ∧ v14_1 < 8) (Comp.chk (0 ≤ v14_1 ∧ v14_1 < 8) (Comp.ret (.inl (IntKind.i64.wrap (v14_1 + 1), setF bx2 v14_1.toNat (IntKind.i64.wrap (3 * (getF x1 v14_1)))))))) else (Comp.ret (.inr bx2))
def law21_ComponentsMeet_k5 (yv2 : (List (Fin 8 → Int))) (yv6 : (List (Fin 8 → Int))) (v11_1 : Int) (x1 : (Fin 8 → Int)) (bx3 : (Fin 8 → Int)) : Comp (Int ⊕ (Bool ⊕ Unit)) :=
  Comp.bind (R04_In x1 yv6) fun yv18 => Comp.bind (R04_In bx3 yv2) fun yv19 => if ¬ yv18 = yv19 then (Comp.ret (.inr (.inl false))) else (Comp.ret (.inl (IntKind.i64.wrap (v11_1 + 1))))
def law21_ComponentsMeet_L6 (x1 : (Fin 8 → Int)) : (Int × (Fin 8 → Int)) → Comp (Fin 8 → Int) :=
  Comp.loop fun gs => match gs with | (v14_2, bx4) => if v14_2 < 8 then (Comp.chk (0 ≤ v14_2 ∧ v14_2 < 8) (Comp.chk (0 ≤ v14_2 ∧ v14_2 < 8) (Comp.ret (.inl (IntKind.i64.wrap (v14_2 + 1), setF bx4 v14_2.toNat (IntKind.i64.wrap (3 * (getF x1 v14_2)))))))) else (Comp.ret (.inr bx4))
def law21_ComponentsMeet_L2 (yv2 : (List (Fin 8 → Int))) (yv4 : (List (Fin 8 → Int))) (yv5 : (List (Fin 8 → Int))) (yv6 : (List (Fin 8 → Int))) (yv12 : (List (Fin 8 → Int))) : Int → Comp (Bool ⊕ Unit) :=
  Comp.loop fun gs => match gs with | v11_1 => if v11_1 < (yv12.length : Int) then (Comp.at' yv12 v11_1 fun x1 => Comp.bind (R04_In x1 yv5) fun yv13 => Comp.bind (R04_In x1 yv2) fun yv14 => match yv14 with | false => (if ¬ yv13 = false then (Comp.ret (.inr (.inl false))) else (Comp.next (law21_ComponentsMeet_L4 x1 (0, (fun _ => 0))) fun ov => match ov with | bx1 => law21_ComponentsMeet_k3 yv2 yv6 v11_1 x1 bx1)) | true => (Comp.bind (R04_In x1 yv4) fun yv17 => if ¬ yv13 = yv17 then (Comp.ret (.inr (.inl false))) else (Comp.next (law21_ComponentsMeet_L6 x1 (0, (fun _ => 0))) fun ov => match ov with | bx3 => law21_ComponentsMeet_k5 yv2 yv6 v11_1 x1 bx3))) else (Comp.ret (.inr (.inr ())))
def law21_ComponentsMeet (a0_1 : T_law21_Input) (a1_1 : (List (Fin 4 → Int))) : Comp Bool :=
  Comp.bind (law21_sanity) fun yv1 => if (!yv1) = true then (Comp.ret false) else (Comp.bind (law21_made a0_1) fun yv2 => Comp.bind (law21_vars a0_1) fun yv3 => Comp.bind (R18_Made a1_1 yv3 4 3) fun yv4 => Comp.bind (components_Meet yv2 yv4) fun yv5 => Comp.bind (components_Radical yv2) fun yv6 => Comp.bind (R04_Minimal yv5) fun yv7 => Comp.bind (R04_Same yv5 yv7) fun yv8 => match yv8 with | false => (Comp.ret false) | true => (Comp.bind (R04_Minimal yv6) fun yv9 => Comp.bind (R04_Same yv6 yv9) fun yv10 => if (!yv10) = true then (Comp.ret false) else (Comp.bind (law21_vars a0_1) fun yv11 => Comp.bind (law21_all yv11) fun yv12 => Comp.next (law21_ComponentsMeet_L2 yv2 yv4 yv5 yv6 yv12 0) fun ov => match ov with | .inl rv1 => Comp.ret rv1 | .inr () => law21_ComponentsMeet_k1 yv1)))
def law21_meet_k1 (out1 : (List (Fin 8 → Int))) : Comp ((List (Fin 8 → Int))) :=
  Comp.ret out1
def law21_meet_L2 (l1 : (List (Fin 8 → Int))) (but1 : Int) : ((List (Fin 8 → Int)) × Int) → Comp (((List (Fin 8 → Int)))) :=
  Comp.loop fun gs => match gs with | (out2, i1) => if i1 < (l1.length : Int) then (if ¬ i1 = but1 then (Comp.at' l1 i1 fun x1 => Comp.bind (R21_Gens x1) fun yv1 => Comp.bind (R21_Meet out2 yv1) fun yv2 => Comp.ret (.inl (yv2, IntKind.i64.wrap (i1 + 1)))) else (Comp.ret (.inl (out2, IntKind.i64.wrap (i1 + 1))))) else (Comp.ret (.inr out2))
def law21_meet (l1 : (List (Fin 8 → Int))) (but1 : Int) : Comp ((List (Fin 8 → Int))) :=
  Comp.next (law21_meet_L2 l1 but1 ([(fun _ => 0)], 0)) fun ov => match ov with | out1 => law21_meet_k1 out1
def law21_ComponentsIrreducible_k1 (yv1 : Bool) : Comp Bool :=
  Comp.ret yv1
def law21_ComponentsIrreducible_L2 (yv2 : (List (Fin 8 → Int))) (yv4 : (List (Fin 8 → Int)) × Int) : Int → Comp (Bool ⊕ Unit) :=
  Comp.loop fun gs => match gs with | v7_1 => if v7_1 < (yv4.1.length : Int) then (Comp.at' yv4.1 v7_1 fun x1 => Comp.bind (R04_Valid x1) fun yv8 => match yv8 with | false => (Comp.ret (.inr (.inl false))) | true => (if 0 < v7_1 then (Comp.at' yv4.1 (IntKind.i64.wrap (v7_1 - 1)) fun x2 => Comp.at' yv4.1 v7_1 fun x3 => Comp.bind (R04_Cmp x2 x3) fun yv9 => if yv9 ≤ 0 then (Comp.ret (.inr (.inl false))) else (Comp.bind (law21_meet yv4.1 v7_1) fun yv10 => Comp.bind (R04_Minimal yv2) fun yv11 => Comp.bind (R04_Same yv10 yv11) fun yv12 => if yv12 = true then (Comp.ret (.inr (.inl false))) else (Comp.ret (.inl (IntKind.i64.wrap (v7_1 + 1)))))) else (Comp.bind (law21_meet yv4.1 v7_1) fun yv13 => Comp.bind (R04_Minimal yv2) fun yv14 => Comp.bind (R04_Same yv13 yv14) fun yv15 => if yv15 = true then (Comp.ret (.inr (.inl false))) else (Comp.ret (.inl (IntKind.i64.wrap (v7_1 + 1))))))) else (Comp.ret (.inr (.inr ())))
def law21_ComponentsIrreducible (a0_1 : T_law21_Input) : Comp Bool :=
  Comp.bind (law21_sanity) fun yv1 => if (!yv1) = true then (Comp.ret false) else (Comp.bind (law21_made a0_1) fun yv2 => Comp.bind (law21_vars a0_1) fun yv3 => Comp.bind (components_Irreducible yv2 yv3) fun yv4 => if ¬ yv4.2 = 0 then (Comp.ret false) else (if 100 < (yv4.1.length : Int) then (Comp.ret false) else (Comp.bind (law21_meet yv4.1 (-1)) fun yv5 => Comp.bind (R04_Minimal yv2) fun yv6 => Comp.bind (R04_Same yv5 yv6) fun yv7 => if (!yv7) = true then (Comp.ret false) else (Comp.next (law21_ComponentsIrreducible_L2 yv2 yv4 0) fun ov => match ov with | .inl rv1 => Comp.ret rv1 | .inr () => law21_ComponentsIrreducible_k1 yv1))))
def law21_prime_k1 (bx1 : (Fin 8 → Int)) : Comp ((List (Fin 8 → Int))) :=
  Comp.bind (R21_Gens bx1) fun yv1 => Comp.ret yv1
def law21_prime_L2 (setv1 : Int) : (Int × (Fin 8 → Int)) → Comp (Fin 8 → Int) :=
  Comp.loop fun gs => match gs with | (i1, bx2) => if i1 < 8 then (Comp.chk (0 ≤ i1) (Comp.chk (0 ≤ i1 ∧ i1 < 8) (Comp.ret (.inl (IntKind.i64.wrap (i1 + 1), setF bx2 i1.toNat (Int.tmod (Int.fdiv (IntKind.i64.wrap setv1) (2 ^ (min (i1).toNat IntKind.i64.bits))) 2)))))) else (Comp.ret (.inr bx2))
def law21_prime (setv1 : Int) : Comp ((List (Fin 8 → Int))) :=
  Comp.next (law21_prime_L2 setv1 (0, (fun _ => 0))) fun ov => match ov with | bx1 => law21_prime_k1 bx1
def law21_ComponentsRadicals_k1 (yv1 : Bool) (yv2 : (List (Fin 8 → Int))) (yv6 : (List Int) × Int) (v9_1 : (List (Fin 8 → Int))) (v10_1 : Int) : Comp Bool :=
  if v10_1 = (yv6.1.length : Int) then (Comp.bind (components_Radical yv2) fun yv7 => Comp.bind (R04_Same v9_1 yv7) fun yv8 => match yv8 with | false => (Comp.ret false) | true => (Comp.ret yv1)) else (Comp.ret false)
def law21_ComponentsRadicals_k3 (yv4 : (List Int) × Int) (yv6 : (List Int) × Int) (v9_2 : (List (Fin 8 → Int))) (v10_2 : Int) (v11_1 : Int) (v12_1 : Bool) : Comp (((List (Fin 8 → Int)) × Int × Int) ⊕ (Bool ⊕ ((List (Fin 8 → Int)) × Int))) :=
  if v12_1 = true then (if (yv6.1.length : Int) ≤ v10_2 then (Comp.ret (.inr (.inl false))) else (Comp.at' yv6.1 v10_2 fun x1 => Comp.at' yv4.1 v11_1 fun x2 => if ¬ x1 = x2 then (Comp.ret (.inr (.inl false))) else (Comp.ret (.inl (v9_2, IntKind.i64.wrap (v10_2 + 1), IntKind.i64.wrap (v11_1 + 1)))))) else (Comp.at' yv4.1 v11_1 fun x3 => Comp.bind (law21_prime x3) fun yv9 => Comp.bind (R21_Meet v9_2 yv9) fun yv10 => Comp.ret (.inl (yv10, v10_2, IntKind.i64.wrap (v11_1 + 1))))
def law21_ComponentsRadicals_L4 (yv4 : (List Int) × Int) (v11_1 : Int) : (Bool × Int) → Comp Bool :=
  Comp.loop fun gs => match gs with | (v12_2, v13_1) => if v13_1 < (yv4.1.length : Int) then (if v12_2 = true then (Comp.ret (.inl (true, IntKind.i64.wrap (v13_1 + 1)))) else (if ¬ v13_1 = v11_1 then (Comp.at' yv4.1 v13_1 fun x4 => Comp.at' yv4.1 v11_1 fun x5 => if (IntKind.u8.wrap (BitVec.ofInt IntKind.u8.bits x4 &&& ~~~ BitVec.ofInt IntKind.u8.bits x5).toNat) = 0 then (Comp.ret (.inl (true, IntKind.i64.wrap (v13_1 + 1)))) else (Comp.ret (.inl (false, IntKind.i64.wrap (v13_1 + 1))))) else (Comp.ret (.inl (false, IntKind.i64.wrap (v13_1 + 1)))))) else (Comp.ret (.inr v12_2))
def law21_ComponentsRadicals_L2 (yv4 : (List Int) × Int) (yv6 : (List Int) × Int) : ((List (Fin 8 → Int)) × Int × Int) → Comp (Bool ⊕ ((List (Fin 8 → Int)) × Int)) :=
  Comp.loop fun gs => match gs with | (v9_2, v10_2, v11_1) => if v11_1 < (yv4.1.length : Int) then (Comp.next (law21_ComponentsRadicals_L4 yv4 v11_1 (false, 0)) fun ov => match ov with | v12_1 => law21_ComponentsRadicals_k3 yv4 yv6 v9_2 v10_2 v11_1 v12_1) else (Comp.ret (.inr (.inr (v9_2, v10_2))))
def law21_ComponentsRadicals (a0_1 : T_law21_Input) : Comp Bool :=
  Comp.bind (law21_sanity) fun yv1 => if (!yv1) = true then (Comp.ret false) else (Comp.bind (law21_made a0_1) fun yv2 => Comp.bind (law21_vars a0_1) fun yv3 => Comp.bind (components_Primes yv2 yv3) fun yv4 => Comp.bind (law21_vars a0_1) fun yv5 => Comp.bind (components_Embedded yv2 yv5) fun yv6 => if ¬ yv4.2 = 0 then (Comp.ret false) else (if ¬ yv6.2 = 0 then (Comp.ret false) else (Comp.next (law21_ComponentsRadicals_L2 yv4 yv6 ([(fun _ => 0)], 0, 0)) fun ov => match ov with | .inl rv1 => Comp.ret rv1 | .inr (v9_1, v10_1) => law21_ComponentsRadicals_k1 yv1 yv2 yv6 v9_1 v10_1)))
def R04_Gcd_k1 (bx1 : (Fin 8 → Int)) : Comp (Fin 8 → Int) :=
  Comp.ret bx1
def R04_Gcd_L2 (b1 : (Fin 8 → Int)) : (Int × (Fin 8 → Int)) → Comp (Fin 8 → Int) :=
  Comp.loop fun gs => match gs with | (i1, bx2) => if i1 < 8 then (Comp.chk (0 ≤ i1 ∧ i1 < 8) (Comp.chk (0 ≤ i1 ∧ i1 < 8) (Comp.chk (0 ≤ i1 ∧ i1 < 8) (Comp.ret (.inl (IntKind.i64.wrap (i1 + 1), setF bx2 i1.toNat (if (getF b1 i1) < (getF bx2 i1) then (getF b1 i1) else (getF bx2 i1)))))))) else (Comp.ret (.inr bx2))
def R04_Gcd (a1 : (Fin 8 → Int)) (b1 : (Fin 8 → Int)) : Comp (Fin 8 → Int) :=
  Comp.next (R04_Gcd_L2 b1 (0, a1)) fun ov => match ov with | bx1 => R04_Gcd_k1 bx1
def R04_Quo_k1 (bx1 : (Fin 8 → Int)) : Comp ((Fin 8 → Int) × Bool) :=
  Comp.ret (bx1, true)
def R04_Quo_L2 (b1 : (Fin 8 → Int)) : (Int × (Fin 8 → Int)) → Comp (Fin 8 → Int) :=
  Comp.loop fun gs => match gs with | (i1, bx2) => if i1 < 8 then (Comp.chk (0 ≤ i1 ∧ i1 < 8) (Comp.chk (0 ≤ i1 ∧ i1 < 8) (Comp.chk (0 ≤ i1 ∧ i1 < 8) (Comp.ret (.inl (IntKind.i64.wrap (i1 + 1), setF bx2 i1.toNat (IntKind.i64.wrap ((getF bx2 i1) - (getF b1 i1))))))))) else (Comp.ret (.inr bx2))
def R04_Quo (a1 : (Fin 8 → Int)) (b1 : (Fin 8 → Int)) : Comp ((Fin 8 → Int) × Bool) :=
  Comp.bind (R04_Divides b1 a1) fun yv1 => if (!yv1) = true then (Comp.ret ((fun _ => 0), false)) else (Comp.next (R04_Quo_L2 b1 (0, a1)) fun ov => match ov with | bx1 => R04_Quo_k1 bx1)
def R18_Colon_k1 (out1 : (List (Fin 8 → Int))) : Comp ((List (Fin 8 → Int))) :=
  Comp.bind (R04_Minimal out1) fun yv1 => Comp.ret yv1
def R18_Colon_L2 (l1 : (List (Fin 8 → Int))) (m1 : (Fin 8 → Int)) : ((List (Fin 8 → Int)) × Int) → Comp (((List (Fin 8 → Int)))) :=
  Comp.loop fun gs => match gs with | (out2, i1) => if i1 < (l1.length : Int) then (Comp.at' l1 i1 fun x1 => Comp.at' l1 i1 fun x2 => Comp.bind (R04_Gcd x2 m1) fun yv2 => Comp.bind (R04_Quo x1 yv2) fun yv3 => Comp.chk ((out2 ++ [yv3.1]).length ≤ small) (Comp.ret (.inl ((out2 ++ [yv3.1]), IntKind.i64.wrap (i1 + 1))))) else (Comp.ret (.inr out2))
def R18_Colon (l1 : (List (Fin 8 → Int))) (m1 : (Fin 8 → Int)) : Comp ((List (Fin 8 → Int))) :=
  Comp.next (R18_Colon_L2 l1 m1 ([], 0)) fun ov => match ov with | out1 => R18_Colon_k1 out1
def R04_Degree_k1 (n1 : Int) : Comp Int :=
  Comp.ret n1
def R04_Degree_L2 (m1 : (Fin 8 → Int)) : (Int × Int) → Comp Int :=
  Comp.loop fun gs => match gs with | (n2, i1) => if i1 < 8 then (Comp.chk (0 ≤ i1 ∧ i1 < 8) (Comp.ret (.inl (IntKind.i64.wrap (n2 + (getF m1 i1)), IntKind.i64.wrap (i1 + 1))))) else (Comp.ret (.inr n2))
def R04_Degree (m1 : (Fin 8 → Int)) : Comp Int :=
  Comp.next (R04_Degree_L2 m1 (0, 0)) fun ov => match ov with | n1 => R04_Degree_k1 n1
def law21_ComponentsPrimes_k1 (yv1 : Bool) (yv4 : (List Int) × Int) (v14_1 : Int) : Comp Bool :=
  if v14_1 = (yv4.1.length : Int) then (Comp.ret yv1) else (Comp.ret false)
def law21_ComponentsPrimes_L2 (yv4 : (List Int) × Int) (bx1 : (Fin 256 → Bool)) : (Int × Int) → Comp (Bool ⊕ Int) :=
  Comp.loop fun gs => match gs with | (v14_2, v15_1) => if v15_1 < 256 then (Comp.chk (0 ≤ v15_1 ∧ v15_1 < 256) (if (getF bx1 v15_1) = true then (if (yv4.1.length : Int) ≤ v14_2 then (Comp.ret (.inr (.inl false))) else (Comp.at' yv4.1 v14_2 fun x1 => if ¬ (IntKind.i64.wrap x1) = v15_1 then (Comp.ret (.inr (.inl false))) else (Comp.ret (.inl (IntKind.i64.wrap (v14_2 + 1), IntKind.i64.wrap (v15_1 + 1)))))) else (Comp.ret (.inl (v14_2, IntKind.i64.wrap (v15_1 + 1)))))) else (Comp.ret (.inr (.inr v14_2)))
def law21_ComponentsPrimes_k3 (yv1 : Bool) (yv4 : (List Int) × Int) (bx1 : (Fin 256 → Bool)) : Comp Bool :=
  Comp.next (law21_ComponentsPrimes_L2 yv4 bx1 (0, 0)) fun ov => match ov with | .inl rv1 => Comp.ret rv1 | .inr v14_1 => law21_ComponentsPrimes_k1 yv1 yv4 v14_1
def law21_ComponentsPrimes_k5 (v9_1 : Int) (bx2 : (Fin 256 → Bool)) (v11_1 : Int) (v12_1 : Bool) : Comp ((Int × (Fin 256 → Bool)) ⊕ (Fin 256 → Bool)) :=
  if v12_1 = true then (Comp.chk (0 ≤ v11_1 ∧ v11_1 < 256) (Comp.ret (.inl (IntKind.i64.wrap (v9_1 + 1), setF bx2 v11_1.toNat true)))) else (Comp.ret (.inl (IntKind.i64.wrap (v9_1 + 1), bx2)))
def law21_ComponentsPrimes_L6 (yv7 : (List (Fin 8 → Int))) : (Int × Bool × Int) → Comp (Int × Bool) :=
  Comp.loop fun gs => match gs with | (v11_2, v12_2, v13_1) => if v13_1 < (yv7.length : Int) then (if v12_2 = true then (Comp.at' yv7 v13_1 fun x3 => Comp.bind (R04_Degree x3) fun yv8 => if yv8 = 1 then (Comp.at' yv7 v13_1 fun x4 => Comp.bind (R04_Support x4) fun yv9 => Comp.ret (.inl (IntKind.u8.wrap (BitVec.ofInt IntKind.u8.bits v11_2 ||| BitVec.ofInt IntKind.u8.bits yv9).toNat, true, IntKind.i64.wrap (v13_1 + 1)))) else (Comp.at' yv7 v13_1 fun x5 => Comp.bind (R04_Support x5) fun yv10 => Comp.ret (.inl (IntKind.u8.wrap (BitVec.ofInt IntKind.u8.bits v11_2 ||| BitVec.ofInt IntKind.u8.bits yv10).toNat, false, IntKind.i64.wrap (v13_1 + 1))))) else (Comp.at' yv7 v13_1 fun x6 => Comp.bind (R04_Support x6) fun yv11 => Comp.ret (.inl (IntKind.u8.wrap (BitVec.ofInt IntKind.u8.bits v11_2 ||| BitVec.ofInt IntKind.u8.bits yv11).toNat, false, IntKind.i64.wrap (v13_1 + 1))))) else (Comp.ret (.inr (v11_2, v12_2)))
def law21_ComponentsPrimes_L4 (yv2 : (List (Fin 8 → Int))) (yv6 : (List (Fin 8 → Int))) : (Int × (Fin 256 → Bool)) → Comp (Fin 256 → Bool) :=
  Comp.loop fun gs => match gs with | (v9_1, bx2) => if v9_1 < (yv6.length : Int) then (Comp.at' yv6 v9_1 fun x2 => Comp.bind (R18_Colon yv2 x2) fun yv7 => Comp.next (law21_ComponentsPrimes_L6 yv7 (0, true, 0)) fun ov => match ov with | (v11_1, v12_1) => law21_ComponentsPrimes_k5 v9_1 bx2 v11_1 v12_1) else (Comp.ret (.inr bx2))
def law21_ComponentsPrimes (a0_1 : T_law21_Input) : Comp Bool :=
  Comp.bind (law21_sanity) fun yv1 => if (!yv1) = true then (Comp.ret false) else (Comp.bind (law21_made a0_1) fun yv2 => Comp.bind (law21_vars a0_1) fun yv3 => Comp.bind (components_Primes yv2 yv3) fun yv4 => if ¬ yv4.2 = 0 then (Comp.ret false) else (Comp.bind (law21_vars a0_1) fun yv5 => Comp.bind (law21_all yv5) fun yv6 => Comp.next (law21_ComponentsPrimes_L4 yv2 yv6 (0, (fun _ => false))) fun ov => match ov with | bx1 => law21_ComponentsPrimes_k3 yv1 yv4 bx1))
def R18_Ones_k1 (out1 : Int) : Comp Int :=
  Comp.ret out1
def R18_Ones_L2 (setv1 : Int) : (Int × Int) → Comp Int :=
  Comp.loop fun gs => match gs with | (out2, i1) => if i1 < 8 then (Comp.chk (0 ≤ i1) (Comp.ret (.inl (IntKind.i64.wrap (out2 + (Int.tmod (Int.fdiv (IntKind.i64.wrap setv1) (2 ^ (min (i1).toNat IntKind.i64.bits))) 2)), IntKind.i64.wrap (i1 + 1))))) else (Comp.ret (.inr out2))
def R18_Ones (setv1 : Int) : Comp Int :=
  Comp.next (R18_Ones_L2 setv1 (0, 0)) fun ov => match ov with | out1 => R18_Ones_k1 out1
def law21_ComponentsPrimary_k1 (yv1 : Bool) (yv2 : (List (Fin 8 → Int))) (v9_1 : (List (Fin 8 → Int))) : Comp Bool :=
  Comp.bind (R04_Minimal yv2) fun yv7 => Comp.bind (R04_Same v9_1 yv7) fun yv8 => match yv8 with | false => (Comp.ret false) | true => (Comp.ret yv1)
def law21_ComponentsPrimary_k3 (yv4 : (List T_api_Part) × Int) (yv6 : (List Int) × Int) (v9_2 : (List (Fin 8 → Int))) (v10_1 : Int) (x1 : T_api_Part) (v12_1 : Int) : Comp (((List (Fin 8 → Int)) × Int) ⊕ (Bool ⊕ ((List (Fin 8 → Int))))) :=
  Comp.at' yv4.1 v10_1 fun x2 => Comp.at' yv6.1 v10_1 fun x3 => if ¬ x2.prime = x3 then (Comp.ret (.inr (.inl false))) else (Comp.at' yv6.1 v10_1 fun x4 => if ¬ v12_1 = x4 then (Comp.ret (.inr (.inl false))) else (Comp.bind (R04_Minimal x1.gens) fun yv9 => Comp.bind (R04_Same x1.gens yv9) fun yv10 => if (!yv10) = true then (Comp.ret (.inr (.inl false))) else (Comp.bind (R21_Meet v9_2 x1.gens) fun yv11 => Comp.ret (.inl (yv11, IntKind.i64.wrap (v10_1 + 1))))))
def law21_ComponentsPrimary_L4 (yv4 : (List T_api_Part) × Int) (v10_1 : Int) (x1 : T_api_Part) : (Int × Int) → Comp (Bool ⊕ Int) :=
  Comp.loop fun gs => match gs with | (v12_2, v13_1) => if v13_1 < (x1.gens.length : Int) then (Comp.at' x1.gens v13_1 fun x5 => Comp.bind (R04_Support x5) fun yv12 => Comp.at' yv4.1 v10_1 fun x6 => if ¬ (IntKind.u8.wrap (BitVec.ofInt IntKind.u8.bits yv12 &&& ~~~ BitVec.ofInt IntKind.u8.bits x6.prime).toNat) = 0 then (Comp.ret (.inr (.inl false))) else (Comp.at' x1.gens v13_1 fun x7 => Comp.bind (R04_Support x7) fun yv13 => Comp.bind (R18_Ones yv13) fun yv14 => if yv14 = 1 then (Comp.at' x1.gens v13_1 fun x8 => Comp.bind (R04_Support x8) fun yv15 => Comp.ret (.inl (IntKind.u8.wrap (BitVec.ofInt IntKind.u8.bits v12_2 ||| BitVec.ofInt IntKind.u8.bits yv15).toNat, IntKind.i64.wrap (v13_1 + 1)))) else (Comp.ret (.inl (v12_2, IntKind.i64.wrap (v13_1 + 1)))))) else (Comp.ret (.inr (.inr v12_2)))
def law21_ComponentsPrimary_L2 (yv4 : (List T_api_Part) × Int) (yv6 : (List Int) × Int) : ((List (Fin 8 → Int)) × Int) → Comp (Bool ⊕ ((List (Fin 8 → Int)))) :=
  Comp.loop fun gs => match gs with | (v9_2, v10_1) => if v10_1 < (yv4.1.length : Int) then (Comp.at' yv4.1 v10_1 fun x1 => Comp.next (law21_ComponentsPrimary_L4 yv4 v10_1 x1 (0, 0)) fun ov => match ov with | .inl rv2 => Comp.ret (.inr (.inl rv2)) | .inr v12_1 => law21_ComponentsPrimary_k3 yv4 yv6 v9_2 v10_1 x1 v12_1) else (Comp.ret (.inr (.inr v9_2)))
def law21_ComponentsPrimary (a0_1 : T_law21_Input) : Comp Bool :=
  Comp.bind (law21_sanity) fun yv1 => if (!yv1) = true then (Comp.ret false) else (Comp.bind (law21_made a0_1) fun yv2 => Comp.bind (law21_vars a0_1) fun yv3 => Comp.bind (components_Primary yv2 yv3) fun yv4 => Comp.bind (law21_vars a0_1) fun yv5 => Comp.bind (components_Primes yv2 yv5) fun yv6 => if ¬ yv4.2 = 0 then (Comp.ret false) else (if ¬ yv6.2 = 0 then (Comp.ret false) else (if ¬ (yv4.1.length : Int) = (yv6.1.length : Int) then (Comp.ret false) else (Comp.next (law21_ComponentsPrimary_L2 yv4 yv6 ([(fun _ => 0)], 0)) fun ov => match ov with | .inl rv1 => Comp.ret rv1 | .inr v9_1 => law21_ComponentsPrimary_k1 yv1 yv2 v9_1))))
def law21_ComponentsErrors_k1 (yv1 : Bool) (v9_1 : Int) (yv2 : (List (Fin 8 → Int)) × Int) (yv3 : (List Int) × Int) (yv4 : (List Int) × Int) (yv5 : (List T_api_Part) × Int) (yv6 : (List T_api_Part) × Int) (v21_1 : Bool) : Comp Bool :=
  if yv2.2 = v9_1 then (if yv3.2 = v9_1 then (if yv4.2 = v9_1 then (if yv5.2 = v9_1 then (if yv6.2 = 2 then (if v21_1 = true then (Comp.ret yv1) else (Comp.ret false)) else (Comp.ret false)) else (Comp.ret false)) else (Comp.ret false)) else (Comp.ret false)) else (Comp.ret false)
def law21_ComponentsErrors_k2 (a0_1 : Int) (a1_1 : Int) (a2_1 : Int) (yv1 : Bool) (v9_1 : Int) : Comp Bool :=
  Comp.bind (components_Irreducible [setF (fun _ => 0) ((Int.tmod a1_1 8).toNat) a2_1] a0_1) fun yv2 => Comp.bind (components_Primes [setF (fun _ => 0) ((Int.tmod a1_1 8).toNat) a2_1] a0_1) fun yv3 => Comp.bind (components_Embedded [setF (fun _ => 0) ((Int.tmod a1_1 8).toNat) a2_1] a0_1) fun yv4 => Comp.bind (components_Primary [setF (fun _ => 0) ((Int.tmod a1_1 8).toNat) a2_1] a0_1) fun yv5 => Comp.chk (0 ≤ (9 : Int) ∧ (9 : Int) ≤ 1000000) (Comp.bind (components_Primary (List.replicate (9 : Int).toNat (fun _ => 0)) 0) fun yv6 => if v9_1 = 0 then (law21_ComponentsErrors_k1 yv1 v9_1 yv2 yv3 yv4 yv5 yv6 true) else (law21_ComponentsErrors_k1 yv1 v9_1 yv2 yv3 yv4 yv5 yv6 (decide ((IntKind.i64.wrap ((IntKind.i64.wrap ((IntKind.i64.wrap ((yv2.1.length : Int) + (yv3.1.length : Int))) + (yv4.1.length : Int))) + (yv5.1.length : Int))) = 0))))
def law21_ComponentsErrors (a0_1 : Int) (a1_1 : Int) (a2_1 : Int) : Comp Bool :=
  Comp.bind (law21_sanity) fun yv1 => if (!yv1) = true then (Comp.ret false) else (Comp.chk (0 ≤ Int.tmod a1_1 8 ∧ (Int.tmod a1_1 8) < 8) (if a0_1 < 0 then (law21_ComponentsErrors_k2 a0_1 a1_1 a2_1 yv1 1) else (if 8 < a0_1 then (law21_ComponentsErrors_k2 a0_1 a1_1 a2_1 yv1 1) else (if a2_1 < 0 then (law21_ComponentsErrors_k2 a0_1 a1_1 a2_1 yv1 1) else (if 65535 < a2_1 then (law21_ComponentsErrors_k2 a0_1 a1_1 a2_1 yv1 1) else (if 0 < a2_1 then (if a0_1 ≤ (IntKind.i64.wrap (Int.tmod a1_1 8)) then (law21_ComponentsErrors_k2 a0_1 a1_1 a2_1 yv1 1) else (law21_ComponentsErrors_k2 a0_1 a1_1 a2_1 yv1 0)) else (law21_ComponentsErrors_k2 a0_1 a1_1 a2_1 yv1 0)))))))
def slices_Max_int_int_k1 (m1 : Int) : Comp Int :=
  Comp.ret m1
def slices_Max_int_int_L2 (x1 : (List Int)) : (Int × Int) → Comp Int :=
  Comp.loop fun gs => match gs with | (m2, i1) => if i1 < (x1.length : Int) then (Comp.at' x1 i1 fun x3 => Comp.ret (.inl (if m2 < x3 then x3 else m2, IntKind.i64.wrap (i1 + 1)))) else (Comp.ret (.inr m2))
def slices_Max_int_int_k3 (x1 : (List Int)) : Comp Int :=
  Comp.at' x1 0 fun x2 => Comp.next (slices_Max_int_int_L2 x1 (x2, 1)) fun ov => match ov with | m1 => slices_Max_int_int_k1 m1
def slices_Max_int_int (x1 : (List Int)) : Comp Int :=
  if (x1.length : Int) < 1 then Comp.fail else (slices_Max_int_int_k3 x1)
def hilbert_check_k1 : Comp Int :=
  Comp.ret 0
def hilbert_check_L2 (l1 : (List (Fin 8 → Int))) : Int → Comp (Int ⊕ Unit) :=
  Comp.loop fun gs => match gs with | v38_1 => if v38_1 < (l1.length : Int) then (Comp.at' l1 v38_1 fun x1 => Comp.bind (slices_Max_int_int (List.ofFn x1)) fun yv1 => if 64 < yv1 then (Comp.ret (.inr (.inl 2))) else (Comp.ret (.inl (IntKind.i64.wrap (v38_1 + 1))))) else (Comp.ret (.inr (.inr ())))
def hilbert_check_k3 (l1 : (List (Fin 8 → Int))) : Comp Int :=
  if 12 < (l1.length : Int) then (Comp.ret 2) else (Comp.next (hilbert_check_L2 l1 0) fun ov => match ov with | .inl rv1 => Comp.ret rv1 | .inr () => hilbert_check_k1)
def hilbert_check_L4 (l1 : (List (Fin 8 → Int))) (n1 : Int) : Int → Comp (Int ⊕ Unit) :=
  Comp.loop fun gs => match gs with | v17_1 => if v17_1 < (l1.length : Int) then (Comp.at' l1 v17_1 fun x2 => Comp.bind (monomial_Valid x2) fun yv2 => match yv2 with | false => (Comp.ret (.inr (.inl 1))) | true => (Comp.bind (monomial_Support x2) fun yv3 => Comp.chk (0 ≤ n1) (if ¬ (Int.fdiv (IntKind.i64.wrap yv3) (2 ^ (min (n1).toNat IntKind.i64.bits))) = 0 then (Comp.ret (.inr (.inl 1))) else (Comp.ret (.inl (IntKind.i64.wrap (v17_1 + 1))))))) else (Comp.ret (.inr (.inr ())))
def hilbert_check (l1 : (List (Fin 8 → Int))) (n1 : Int) : Comp Int :=
  if n1 < 0 then (Comp.ret 1) else (if 8 < n1 then (Comp.ret 1) else (Comp.next (hilbert_check_L4 l1 n1 0) fun ov => match ov with | .inl rv2 => Comp.ret rv2 | .inr () => hilbert_check_k3 l1))
def hilbert_independent_c1 (m1 : (Fin 8 → Int)) (cap1 : Int) : Comp Bool :=
  Comp.bind (monomial_Support m1) fun yv1 => Comp.ret (decide ((IntKind.u8.wrap (BitVec.ofInt IntKind.u8.bits yv1 &&& ~~~ BitVec.ofInt IntKind.u8.bits (IntKind.u8.wrap cap1)).toNat) = 0))
def slices_IndexFunc_api_Mono_api_Mono_hilbert_independent_c1_k1 : Comp Int :=
  Comp.ret (-1)
def slices_IndexFunc_api_Mono_api_Mono_hilbert_independent_c1_L2 (s1 : (List (Fin 8 → Int))) (cap1 : Int) : Int → Comp (Int ⊕ Unit) :=
  Comp.loop fun gs => match gs with | v8_1 => if v8_1 < (s1.length : Int) then (Comp.at' s1 v8_1 fun x1 => Comp.bind (hilbert_independent_c1 x1 cap1) fun yv1 => if yv1 = true then (Comp.ret (.inr (.inl v8_1))) else (Comp.ret (.inl (IntKind.i64.wrap (v8_1 + 1))))) else (Comp.ret (.inr (.inr ())))
def slices_IndexFunc_api_Mono_api_Mono_hilbert_independent_c1 (s1 : (List (Fin 8 → Int))) (cap1 : Int) : Comp Int :=
  Comp.next (slices_IndexFunc_api_Mono_api_Mono_hilbert_independent_c1_L2 s1 cap1 0) fun ov => match ov with | .inl rv1 => Comp.ret rv1 | .inr () => slices_IndexFunc_api_Mono_api_Mono_hilbert_independent_c1_k1
def slices_ContainsFunc_api_Mono_api_Mono_hilbert_independent_c1 (s1 : (List (Fin 8 → Int))) (cap1 : Int) : Comp Bool :=
  Comp.bind (slices_IndexFunc_api_Mono_api_Mono_hilbert_independent_c1 s1 cap1) fun yv1 => Comp.ret (decide (0 ≤ yv1))
def hilbert_independent_k1 (result1 : (List Int)) : Comp (List Int) :=
  Comp.ret result1
def hilbert_independent_L2 (l1 : (List (Fin 8 → Int))) (n1 : Int) : ((List Int) × Int) → Comp (List Int) :=
  Comp.loop fun gs => match gs with | (result2, v10_1) => if v10_1 < (IntKind.i64.wrap (1 * 2 ^ (min (n1).toNat IntKind.i64.bits))) then (Comp.bind (slices_ContainsFunc_api_Mono_api_Mono_hilbert_independent_c1 l1 v10_1) fun yv1 => if (!yv1) = true then (Comp.chk ((result2 ++ [IntKind.u8.wrap v10_1]).length ≤ small) (Comp.ret (.inl ((result2 ++ [IntKind.u8.wrap v10_1]), IntKind.i64.wrap (v10_1 + 1))))) else (Comp.ret (.inl (result2, IntKind.i64.wrap (v10_1 + 1))))) else (Comp.ret (.inr result2))
def hilbert_independent (l1 : (List (Fin 8 → Int))) (n1 : Int) : Comp (List Int) :=
  Comp.chk (0 ≤ n1) (Comp.next (hilbert_independent_L2 l1 n1 ([], 0)) fun ov => match ov with | result1 => hilbert_independent_k1 result1)
def math_bits_OnesCount8 (x1 : Int) : Comp Int :=
  Comp.chk (0 ≤ x1 ∧ x1 < (str_d97f7905.size : Int)) (Comp.ret (IntKind.i64.wrap (byteAt str_d97f7905 x1)))
def hilbert_dimension_k1 (d1 : Int) : Comp Int :=
  Comp.ret d1
def hilbert_dimension_L2 (yv1 : (List Int)) : (Int × Int) → Comp Int :=
  Comp.loop fun gs => match gs with | (d2, v12_1) => if v12_1 < (yv1.length : Int) then (Comp.at' yv1 v12_1 fun x1 => Comp.bind (math_bits_OnesCount8 x1) fun yv2 => Comp.ret (.inl (if d2 < yv2 then yv2 else d2, IntKind.i64.wrap (v12_1 + 1)))) else (Comp.ret (.inr d2))
def hilbert_dimension (l1 : (List (Fin 8 → Int))) (n1 : Int) : Comp Int :=
  Comp.bind (hilbert_independent l1 n1) fun yv1 => Comp.next (hilbert_dimension_L2 yv1 ((-1), 0)) fun ov => match ov with | d1 => hilbert_dimension_k1 d1
def hilbert_Dimension (l1 : (List (Fin 8 → Int))) (n1 : Int) : Comp (Int × Int) :=
  Comp.bind (hilbert_check l1 n1) fun yv1 => if ¬ yv1 = 0 then (Comp.ret (0, yv1)) else (Comp.bind (hilbert_dimension l1 n1) fun yv2 => Comp.ret (yv2, 0))
def law21_ComponentsDimensions_k1 (yv1 : Bool) (yv3 : Int) (yv5 : Int × Int) (least1 : Int) : Comp Bool :=
  if yv5.1 = (IntKind.i64.wrap (yv3 - least1)) then (Comp.ret yv1) else (Comp.ret false)
def law21_ComponentsDimensions_L2 (yv4 : (List Int) × Int) : (Int × Int) → Comp Int :=
  Comp.loop fun gs => match gs with | (least2, i1) => if i1 < (yv4.1.length : Int) then (Comp.at' yv4.1 i1 fun x2 => Comp.bind (R18_Ones x2) fun yv6 => Comp.ret (.inl (if yv6 < least2 then yv6 else least2, IntKind.i64.wrap (i1 + 1)))) else (Comp.ret (.inr least2))
def law21_ComponentsDimensions (x1 : T_law21_Input) : Comp Bool :=
  Comp.bind (law21_sanity) fun yv1 => if (!yv1) = true then (Comp.ret false) else (Comp.bind (law21_made x1) fun yv2 => Comp.bind (law21_vars x1) fun yv3 => Comp.bind (components_Primes yv2 yv3) fun yv4 => Comp.bind (hilbert_Dimension yv2 yv3) fun yv5 => if ¬ yv4.2 = 0 then (Comp.ret false) else (if ¬ yv5.2 = 0 then (Comp.ret false) else (Comp.next (law21_ComponentsDimensions_L2 yv4 (IntKind.i64.wrap (yv3 + 1), 0)) fun ov => match ov with | least1 => law21_ComponentsDimensions_k1 yv1 yv3 yv5 least1)))
end Go.EL
