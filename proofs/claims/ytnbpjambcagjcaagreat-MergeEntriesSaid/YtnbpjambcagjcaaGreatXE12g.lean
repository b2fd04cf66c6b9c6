/- The law MergeEntries holds for every input: a part of its proof (what the code does, plain models, and what they return). No condition. -/
import Derived.Test.YtnbpjambcagjcaaGreatXE12f
import Derived.Test.YtnbpjambcagjcaaGreatXE12d
set_option linter.unusedVariables false
set_option linter.unusedSimpArgs false
namespace Go.Proofs.YtnbpjambcagjcaaGreat
open Go.IntKind (i8 i16 i32 i64 u8 u16 u32 u64)
open Go.Proofs.Tryz
open Go Go.EL Go.RowKit Go.Proofs
theorem fA'{c p e d n o k h s q r}(hr:(Zgk c p).Ret r):Ctr prog 83 #[.agg ((v31' c e d n o k h)).toArray,.agg ((v116' p s q)).toArray] (fun G=>sl Rp.str G e d c.vars/\sl e' G n o c.eqs/\sl e' G k h c.neqs/\sl r' G s q p.p) (w31' r):=by
 refine A' (args:=[_,_]) (N:=117) func83 z z z (fun w0 G0 bJ aZ=>?_)
 obtain⟨m,g,f,B⟩:=aZ
 refine sr<|Y' 2 z z z fun b1=>Y' 3 z z z fun b2=>O' 4 z z31 z fun b3=>nr<|yy (m' 2 ai' z z z) z<|O' 5 z z31 z fun b4=>x' 5 z aR' z z z z z (List.all_eq_true.1 z)<|nr<|yy (bD' z) z<|yy (g' 3 sc3 z z z) z<|yy (Y0.ZhC z) z<|yy (g' 3 sc44 z z z) z<|yy (at' (vs:=#[(0,i' p.id),(1,.slice s p.p.length q)]) (v:=.agg ((v57' p.id s p.p q)).toArray) z z (fun _=>by kernel_rfl)) z<|O' 6 z z57 z fun b5=>x' 6 z bK' z z z z z (List.all_eq_true.1 z)<|nx<|c'<|ad' [ff,ff,ff,ff,ff,ff,ff,ff,ff] mix (by kernel_rfl) fun hb=>cn (fun _ l=>aF' z)<|cn (fun _ l=>g' 2 bc' z z z)<|cn (fun _ l=>bD' z)<|cn (fun _ l=>g' 3 sc3 z z z) ?_
 obtain⟨bO,aJ,hr⟩:=hr
 refine cm' z (fun _=>u' E132 z) (dP' aJ) z (fun G' l=>(g.mono l))<|cn (fun _ l=>aG' z)<|cn (fun _ l=>g' 2 bc' z z z)<|cn (fun _ l=>bD' z)<|cn (fun _ l=>g' 3 sc3 z z z)<|af' hb ?_
 obtain⟨bK,aK,hr⟩:=hr
 refine B' z z (u' E132 z) (dP' aK) z (f)<|sg z z<|sg z z<|o'<|am'<|a'<|c'<|sr<|yy (cZ' z) z<|yy (g' 3 sc3 z z z) z<|nx<|s'<|sr<|yy (au' z z) z<|sx0 z z<|E' hr z (fun bn hr=>?_) (fun bn hr=>?_)
 .refine aP' (fun (⟨x,A,C,D⟩:Zc×Option Addr×Nat×Mem)=>[(2,pt0 b1),(3,pt0 b2),(4,pt0 b3),(5,pt0 b4),(6,pt0 b5)]) (fun ⟨x,A,C,D⟩=>Mem.le G0 D/\sl r' D A C x.p/\(Zak c p x).Ret r) (fun ⟨x,A,C,D⟩=>St w0 G0 D [(2,bk0 b1 (v31' c e d n o k h) 31),(3,bk0 b2 (v116' p s q) 116),(4,bk0 b3 ([.slice none 0 0,.slice none 0 0,.slice none 0 0,i' 0]) 31),(5,bk0 b4 (v31' c e d n o k h) 31),(6,bk0 b5 (v57' x.id A x.p C) 57)]) ?_ ?_
  .refine sr<|yy (bD' z) z<|yy (g' 3 sc3 z z z) z<|yy (au' z z) z<|nx<|E' hr z (fun bi hr=>?_) (fun bi hr=>?_)
   .refine n'<|yy (bt' z) z<|yy (g' 2 sc3 z z z) z<|yy (bl' z) z<|aB' 6 ([i' c.next,.slice s p.p.length q]).toArray z sz3 z z z (show 0<2 by decide) z z<|o'<|al' ⟨(Zc.mk c.next p.p),s,q,G0⟩ ⟨mr,B,hr⟩ (f5 z z z z z) (w5 z z z z z)
   refine l'<|al' ⟨(Zc.mk p.id p.p),s,q,G0⟩ ⟨mr,B,hr⟩ (f5 z z z z z) (w5 z z z z z)
  rintro⟨x,A,C,D⟩ ⟨y,S,hr⟩
  refine sr<|yy (bt' z) z<|yy (g' 2 sc3 z z z) z<|yy (bl' z) z<|yy (g' 6 sc3 z z z) z<|yy (I' z z) z<|yy (Y0.max2 z z) z<|yy (bt' z) z<|aB' 5 ([.slice e c.vars.length d,.slice n c.eqs.length o,.slice k c.neqs.length h,i' (if c.next<(i64.wrap (x.id+1)) then (i64.wrap (x.id+1)) else c.next)]).toArray z sz3 z z z (show 3<4 by decide) z z<|nr<|yy (Y0.ZhD z) z<|yy (g' 3 sc4 z z z) z<|nx<|ay' hr z (fun be hr=>?_) (fun be hr=>?_)
  .refine n'<|yy (aG' z) z<|yy (g' 2 bc' z z z) z<|yy (m' 6 ag57 z z z) z ?_
   obtain⟨bf,aV,hr⟩:=hr
   refine Q' z z (u' E133 z) (dJ' aV) z (⟨(f.mono y),S⟩) (fun bv bI P ab=>?_)
   obtain⟨aB,aW,rfl,aF⟩:=ab
   refine yy (aG' z) z<|aB' 5 ([.slice e c.vars.length d,.slice n c.eqs.length o,.slice aB bf.length aW,i' (if c.next<(i64.wrap (x.id+1)) then (i64.wrap (x.id+1)) else c.next)]).toArray z sz29 z z z (show 2<4 by decide) z z<|o'<|v'<|a'<|sr<|yy (m' 5 ai' z z z) z<|x' 4 z aR' z z z z z (List.all_eq_true.1 z)<|nx<|k' ?_
   obtain rfl:_=r:=hr
   exact j' z (ak' (i:=4) ai' z z z) ⟨_,_,_,_,_,_,z,(m.mono (mx y P)),(g.mono (mx y P)),aF⟩
  refine n'<|yy (aF' z) z<|yy (g' 2 bc' z z z) z<|yy (m' 6 ag57 z z z) z ?_
  obtain⟨a7,ay,hr⟩:=hr
  refine Q' z z (u' E133 z) (dJ' ay) z (⟨(g.mono y),S⟩) (fun bz bM U X=>?_)
  obtain⟨aT,aN,rfl,aL⟩:=X
  refine yy (aF' z) z<|aB' 5 ([.slice e c.vars.length d,.slice aT a7.length aN,.slice k c.neqs.length h,i' (if c.next<(i64.wrap (x.id+1)) then (i64.wrap (x.id+1)) else c.next)]).toArray z sz29 z z z (show 1<4 by decide) z z<|o'<|v'<|a'<|sr<|yy (m' 5 ai' z z z) z<|x' 4 z aR' z z z z z (List.all_eq_true.1 z)<|nx<|k' ?_
  obtain rfl:_=r:=hr
  exact j' z (ak' (i:=4) ai' z z z) ⟨_,_,_,_,_,_,z,(m.mono (mx y U)),aL,(f.mono (mx y U))⟩
 refine sr<|yy (au' z z) z<|sx0 z z<|E' hr z (fun bd hr=>?_) (fun bd hr=>?_)
 .refine sr<|yy (aF' z) z<|yy (g' 2 bc' z z z) z<|yy (bD' z) z<|yy (g' 3 sc3 z z z) z ?_
  obtain⟨aw,aU,hr⟩:=hr
  refine Q' z z (u' E134 z) (ep' aU) z (g) (fun bu bG T Z=>?_)
  obtain⟨ae,ah,rfl,aE⟩:=Z
  refine yy (aF' z) z<|aB' 5 ([.slice e c.vars.length d,.slice ae aw.length ah,.slice k c.neqs.length h,i' c.next]).toArray z sz29 z z z (show 1<4 by decide) z z<|nx<|n'<|yy (aG' z) z<|yy (g' 2 bc' z z z) z<|yy (bD' z) z<|yy (g' 3 sc3 z z z) z ?_
  obtain⟨a8,az,hr⟩:=hr
  refine Q' z z (u' E134 z) (ep' az) z ((f.mono T)) (fun bs bP M W=>?_)
  obtain⟨aS,aC,rfl,aY⟩:=W
  refine yy (aG' z) z<|aB' 5 ([.slice e c.vars.length d,.slice ae aw.length ah,.slice aS a8.length aC,i' c.next]).toArray z sz29 z z z (show 2<4 by decide) z z<|o'<|v'<|a'<|sr<|yy (m' 5 ai' z z z) z<|x' 4 z aR' z z z z z (List.all_eq_true.1 z)<|nx<|k' ?_
  obtain rfl:_=r:=hr
  exact j' z (ak' (i:=4) ai' z z z) ⟨_,_,_,_,_,_,z,(m.mono (mx T M)),(aE.mono M),aY⟩
 refine sr<|yy (au' z z) z<|sx0 z z<|E' hr z (fun bk hr=>?_) (fun bk hr=>?_)
 .refine sr<|mv z z<|yy (aV' z z) z<|nx<|E' hr z (fun bh hr=>?_) (fun bh hr=>?_)
  .refine n'<|yy (aF' z) z<|yy (g' 2 bc' z z z) z<|yy (m' 6 ag57 z z z) z ?_
   obtain⟨bj,aX,hr⟩:=hr
   refine Q' z z (u' E133 z) (dJ' aX) z (⟨g,B⟩) (fun bx bQ O ac=>?_)
   obtain⟨aR,aA,rfl,aM⟩:=ac
   refine yy (aF' z) z<|aB' 5 ([.slice e c.vars.length d,.slice aR bj.length aA,.slice k c.neqs.length h,i' c.next]).toArray z sz29 z z z (show 1<4 by decide) z z<|o'<|v'<|a'<|sr<|yy (m' 5 ai' z z z) z<|x' 4 z aR' z z z z z (List.all_eq_true.1 z)<|nx<|k' ?_
   obtain rfl:_=r:=hr
   exact j' z (ak' (i:=4) ai' z z z) ⟨_,_,_,_,_,_,z,(m.mono O),aM,(f.mono O)⟩
  refine n'<|yy (aG' z) z<|yy (g' 2 bc' z z z) z<|yy (m' 6 ag57 z z z) z ?_
  obtain⟨a6,a2,hr⟩:=hr
  refine Q' z z (u' E133 z) (dJ' a2) z (⟨f,B⟩) (fun br bH V Y=>?_)
  obtain⟨a3,aP,rfl,a1⟩:=Y
  refine yy (aG' z) z<|aB' 5 ([.slice e c.vars.length d,.slice n c.eqs.length o,.slice a3 a6.length aP,i' c.next]).toArray z sz29 z z z (show 2<4 by decide) z z<|o'<|v'<|a'<|sr<|yy (m' 5 ai' z z z) z<|x' 4 z aR' z z z z z (List.all_eq_true.1 z)<|nx<|k' ?_
  obtain rfl:_=r:=hr
  exact j' z (ak' (i:=4) ai' z z z) ⟨_,_,_,_,_,_,z,(m.mono V),(g.mono V),a1⟩
 refine sr<|yy (au' z z) z<|sx0 z z<|E' hr z (fun a9 hr=>?_) (fun a9 hr=>?_)
 .refine sr<|yy (aF' z) z<|yy (g' 2 bc' z z z) z<|yy (bD' z) z<|yy (g' 3 sc3 z z z) z ?_
  obtain⟨ag,aH,hr⟩:=hr
  refine Q' z z (u' E134 z) (ep' aH) z (g) (fun bC bL t aa=>?_)
  obtain⟨L,I,rfl,aI⟩:=aa
  refine yy (aF' z) z<|aB' 5 ([.slice e c.vars.length d,.slice L ag.length I,.slice k c.neqs.length h,i' c.next]).toArray z sz29 z z z (show 1<4 by decide) z z<|nr<|yy (aG' z) z<|yy (g' 2 bc' z z z) z<|yy (bD' z) z<|yy (g' 3 sc3 z z z) z ?_
  obtain⟨af,au,hr⟩:=hr
  refine Q' z z (u' E134 z) (ep' au) z ((f.mono t)) (fun bp bN u H=>?_)
  obtain⟨R,Q,rfl,ai⟩:=H
  refine yy (aG' z) z<|aB' 5 ([.slice e c.vars.length d,.slice L ag.length I,.slice R af.length Q,i' c.next]).toArray z sz29 z z z (show 2<4 by decide) z z<|nr<|mv z z<|yy (aV' z z) z<|nx<|E' hr z (fun bg hr=>?_) (fun bg hr=>?_)
  .refine ad' [ff,ff,ff,ff,ff,ff,ff] mix (by kernel_rfl) fun hb=>cn (fun _ l=>aG' z)<|cn (fun _ l=>g' 2 bc' z z z)<|cn (fun _ l=>aF' z)<|cn (fun _ l=>g' 2 bc' z z z)<|cn (fun _ l=>f' z) ?_
   obtain⟨x1,ax,hr⟩:=hr
   refine cn (fun _ l=>P' N' bK' ((g.mono (mx t u)).mono l) z z ax) ?_
   obtain⟨bB,bD,ba,a0⟩:=bN' (H' (X' g ax) (mx t u))
   refine cn (fun _ l=>as' _ ag57 z z (fun j v hv=>l _ _ _ (ba j v hv)))<|af' hb ?_
   obtain⟨aO,aq,hr⟩:=hr
   refine Q' z z (u' E133 z) (dJ' aq) z (⟨(f.mono (mx t u)),a0⟩) (fun bq bt E K=>?_)
   obtain⟨am,ar,rfl,ao⟩:=K
   refine yy (aG' z) z<|aB' 5 ([.slice e c.vars.length d,.slice L ag.length I,.slice am aO.length ar,i' c.next]).toArray z sz29 z z z (show 2<4 by decide) z z<|o'<|am'<|v'<|a'<|sr<|yy (m' 5 ai' z z z) z<|x' 4 z aR' z z z z z (List.all_eq_true.1 z)<|nx<|k' ?_
   obtain rfl:_=r:=hr
   exact j' z (ak' (i:=4) ai' z z z) ⟨_,_,_,_,_,_,z,(m.mono (mx (mx t u) E)),(aI.mono (mx u E)),ao⟩
  refine ad' [ff,ff,ff,ff,ff,ff,ff] mix (by kernel_rfl) fun hb=>cn (fun _ l=>aF' z)<|cn (fun _ l=>g' 2 bc' z z z)<|cn (fun _ l=>aG' z)<|cn (fun _ l=>g' 2 bc' z z z)<|cn (fun _ l=>f' z) ?_
  obtain⟨x2,av,hr⟩:=hr
  refine cn (fun _ l=>P' N' bK' ((f.mono (mx t u)).mono l) z z av) ?_
  obtain⟨bA,bw,a4,aG⟩:=bN' (H' (X' f av) (mx t u))
  refine cn (fun _ l=>as' _ ag57 z z (fun j v hv=>l _ _ _ (a4 j v hv)))<|af' hb ?_
  obtain⟨aD,al,hr⟩:=hr
  refine Q' z z (u' E133 z) (dJ' al) z (⟨(g.mono (mx t u)),aG⟩) (fun bo bE F J=>?_)
  obtain⟨aj,ak,rfl,an⟩:=J
  refine yy (aF' z) z<|aB' 5 ([.slice e c.vars.length d,.slice aj aD.length ak,.slice R af.length Q,i' c.next]).toArray z sz29 z z z (show 1<4 by decide) z z<|o'<|am'<|v'<|a'<|sr<|yy (m' 5 ai' z z z) z<|x' 4 z aR' z z z z z (List.all_eq_true.1 z)<|nx<|k' ?_
  obtain rfl:_=r:=hr
  exact j' z (ak' (i:=4) ai' z z z) ⟨_,_,_,_,_,_,z,(m.mono (mx (mx t u) F)),an,(ai.mono F)⟩
 refine l'<|v'<|a'<|sr<|yy (m' 5 ai' z z z) z<|x' 4 z aR' z z z z z (List.all_eq_true.1 z)<|nx<|k' ?_
 obtain rfl:_=r:=hr
 exact j' z (ak' (i:=4) ai' z z z) ⟨_,_,_,_,_,_,z,m,g,f⟩
theorem ez'{d f s q m n j h F E r}(hr:(ZZ d f).Ret r):Ctr prog 44 #[.agg ((v31' d s q m n j h)).toArray,.agg ((v116' f F E)).toArray] (fun G=>sl Rp.str G s q d.vars/\sl e' G m n d.eqs/\sl e' G j h d.neqs/\sl r' G F E f.p) (w31t' r):=by
 refine A' (args:=[_,_]) (N:=157) func44 z z z (fun w0 G0 U bw=>?_)
 obtain⟨g,l,k,C⟩:=bw
 refine sr<|Y' 2 z z z fun b1=>Y' 3 z z z fun b2=>O' 4 z z31 z fun b3=>sg z z<|nr<|yy (m' 2 ai' z z z) z<|yy (m' 3 ag116 z z z) z ?_
 obtain⟨c5,be,hr⟩:=hr
 refine B' z z (u' E80 z) (gl' be) z (⟨g,l,k,C⟩)<|sx0 z z<|c'<|sr<|mv z z<|yy (bj' z z) z<|nx<|E' hr z (fun cb hr=>?_) (fun cb hr=>?_)
 .refine sr<|yy (at' (vs:=#[]) (v:=.agg ([.slice none 0 0,.slice none 0 0,.slice none 0 0,i' 0]).toArray) z z (fun _=>by kernel_rfl)) z<|mv z z<|x' 4 z aR' z z z z z (List.all_eq_true.1 z)<|sx0 z z<|k'<|b' ?_
  obtain rfl:_=r:=hr
  exact bE' z (ak' (i:=4) ai' z z z) z ⟨_,_,_,_,_,_,z,(ah' Rp.str _),(ah' e' _),(ah' e' _)⟩
 refine l'<|a'<|sr<|yy (aH' z) z<|yy (g' 2 bF' z z z) z<|yy (K' J' g z) z<|sg z z<|nr<|yy (m' 2 ai' z z z) z<|O' 8 z z31 z fun b4=>x' 8 z aR' z z z z z (List.all_eq_true.1 z)<|nr<|WL.litT (e:=9) (r:=Rp.str) (vs:=#[]) (cs:=[]) ([]:List ByteArray) 4021 z z z z z (by decide) (fun _=>by kernel_rfl) (z) fun p1 cx bR=>yy (aH' z) z<|yy (g' 2 bF' z z z) z ?_
 obtain⟨a9,hr⟩:=hr
 refine WL.appendT (r:=Rp.str) (e:=9) 4021 z z J' el9 z (by decide) z z bR z g a9 fun p2 au cQ Y=>yy (aH' z) z<|aB' 8 ([.slice p2 ([]++d.vars).length au,.slice m d.eqs.length n,.slice j d.neqs.length h,i' d.next]).toArray z sz28 z z z (show 0<4 by decide) z z<|nx<|c'<|sr<|yy (cZ' z) z<|yy (g' 3 sc3 z z z) z<|nx<|s'<|sr<|yy (au' z z) z<|sx0 z z<|E' hr z (fun bQ hr=>?_) (fun bQ hr=>?_)
 .refine c'<|ad' [ff,ff,ff,ff,ff,ff,ff,ff,ff,ff,ff,ff,ff,ff,ff,ff] mix (by kernel_rfl) fun p=>Chain.litOwn (r:=Rp.str) (e:=9) ([]:List ByteArray) (fun _=>z) z (by decide) (fun u o c t=>?_) ?_
  .exact⟨#[],[],z,z,fun _=>by kernel_rfl,z⟩
  refine cu (fun _ _ c=>aH' z)<|cu (fun _ _ c=>g' 2 bF' z z z)<|cu (fun _ _ c=>by' z)<|cu (fun _ _ c=>g' 3 sc3 z z z) ?_
  obtain⟨bX,hr⟩:=hr
  obtain⟨p3,bO,bS,b6⟩:=SlR.cut (r:=Rp.str) none (some (i' f.at')) sz9 z J' g (.inl ⟨z,z⟩) (.inr ⟨_,z⟩) bX
  refine cu (fun _ _ c=>Y0.cutH J' b6 z z) ?_
  obtain⟨bh,hr⟩:=hr
  refine Chain.appendOwn (r:=Rp.str) (e:=9) (kk:=33) (xs:=([]:List ByteArray)) ((d.vars.take f.at'.toNat).drop (0:Int).toNat) (fun _=>z) z (by kernel_rfl) (by kernel_rfl) J' el9 z (by decide) bh (fun u o c t=>?_) ?_
  .obtain⟨aE,_⟩:=(show (RowX Rp.str 9 33 ([]:List ByteArray)) (u 33) o/\True from t)
   exact⟨u 33,.slice p3 ((d.vars.take f.at'.toNat).drop (0:Int).toNat).length bO,aE,z,z,(bS.mono c)⟩
  refine cu (fun _ _ c=>dQ' z)<|cu (fun _ _ c=>g' 3 sc9 z z z)<|ch' (r:=Rp.str) (e:=9) ([f.name]:List ByteArray) (fun _=>z) z (by decide) (fun u o c t=>?_) ?_
  .exact⟨#[(0,.string f.name)],[.string f.name]++([]),z,z,fun _=>by kernel_rfl,⟨[.string f.name],[],z,z,z⟩⟩
  obtain⟨bb,hr⟩:=hr
  refine Chain.appendOwn (r:=Rp.str) (e:=9) (kk:=39) (xs:=(([]:List ByteArray)++((d.vars.take f.at'.toNat).drop (0:Int).toNat))) [f.name] (fun _=>z) z (by kernel_rfl) (by kernel_rfl) J' el9 z (by decide) bb (fun u o c t=>?_) ?_
  .obtain⟨⟨p4,an,aD,aZ⟩,aG,_,_⟩:=(show (fun G v=>∃ p4 an,v = .slice p4 1 1/\SlRd Rp.str G (.slice p4 1 1) an [f.name]) o.m (u 42)/\(RowX Rp.str 9 39 (([]:List ByteArray)++((d.vars.take f.at'.toNat).drop (0:Int).toNat))) (u 39) o/\True/\True from t)
   exact⟨u 39,.slice p4 1 1,aG,z,(by simp only[undFr,eatO,List.map_cons,List.map_nil,aD] <;> rfl),aZ⟩
  refine cu (fun _ _ c=>aH' z)<|cu (fun _ _ c=>g' 2 bF' z z z)<|cu (fun _ _ c=>by' z)<|cu (fun _ _ c=>g' 3 sc3 z z z) ?_
  obtain⟨bI,hr⟩:=hr
  obtain⟨p5,cU,bZ,bV⟩:=SlR.cut (r:=Rp.str) (some (i' f.at')) none sz9 z J' g (.inr ⟨_,z⟩) (.inl ⟨z,z⟩) bI
  refine cu (fun _ _ c=>Y0.cutL J' bV z z)<|Chain.tailX4 (fun cw cG cy cK X1 S ah ag bB bC=>?_)
  obtain⟨p4,an,rfl,aZ⟩:=ag
  refine WL.adoptR ah (fun cH cR cj bo ba cN=>?_)
  subst bo
  refine cJ' (show WL _ _ _ _ _ _ (St w0 G0 X1.m _) from ?_)
  obtain⟨bv,hr⟩:=hr
  refine WL.appendT (r:=Rp.str) (e:=9) 43 z z J' el9 z (by decide) z z ba z (bZ.mono S) bv fun p6 al cE bG=>yy (aH' z) z<|aB' 8 ([.slice p6 (((([]:List ByteArray)++((d.vars.take f.at'.toNat).drop (0:Int).toNat))++[f.name])++((d.vars.take (d.vars.length:Int).toNat).drop f.at'.toNat)).length al,.slice m d.eqs.length n,.slice j d.neqs.length h,i' d.next]).toArray z sz28 z z z (show 0<4 by decide) z z<|o'<|am'<|a'<|c'<|ad' [ff,ff,ff,ff,ff,ff] mix (by kernel_rfl) fun p=>cn (fun _ c=>aF' z)<|cn (fun _ c=>g' 2 bc' z z z)<|cn (fun _ c=>f' z)<|cn (fun _ c=>by' z)<|cn (fun _ c=>g' 3 sc3 z z z) ?_
  obtain⟨cX,a6,hr⟩:=hr
  refine cm' z (fun _=>u' E82 z) (db' a6) z (fun o c=>trivial)<|af' p ?_
  obtain⟨a3,bu,hr⟩:=hr
  refine Q' z z (u' E81 z) (de' bu) z ((l.mono S)) (fun cF c0 X aj=>?_)
  obtain⟨av,ak,rfl,bj⟩:=aj
  refine yy (aF' z) z<|aB' 8 ([.slice p6 (((([]:List ByteArray)++((d.vars.take f.at'.toNat).drop (0:Int).toNat))++[f.name])++((d.vars.take (d.vars.length:Int).toNat).drop f.at'.toNat)).length al,.slice av a3.length ak,.slice j d.neqs.length h,i' d.next]).toArray z sz29 z z z (show 1<4 by decide) z z<|o'<|am'<|a'<|ad' [ff,ff,ff,ff,ff,ff] mix (by kernel_rfl) fun p=>cn (fun _ c=>aG' z)<|cn (fun _ c=>g' 2 bc' z z z)<|cn (fun _ c=>f' z)<|cn (fun _ c=>by' z)<|cn (fun _ c=>g' 3 sc3 z z z) ?_
  obtain⟨cT,bA,hr⟩:=hr
  refine cm' z (fun _=>u' E82 z) (db' bA) z (fun o c=>trivial)<|af' p ?_
  obtain⟨b0,bc,hr⟩:=hr
  refine Q' z z (u' E81 z) (de' bc) z ((k.mono (mx S X))) (fun cL c4 ac ai=>?_)
  obtain⟨bx,a8,rfl,bd⟩:=ai
  refine yy (aG' z) z<|aB' 8 ([.slice p6 (((([]:List ByteArray)++((d.vars.take f.at'.toNat).drop (0:Int).toNat))++[f.name])++((d.vars.take (d.vars.length:Int).toNat).drop f.at'.toNat)).length al,.slice av a3.length ak,.slice bx b0.length a8,i' d.next]).toArray z sz29 z z z (show 2<4 by decide) z z<|o'<|am'<|v'<|a'<|sr<|bQ' (r:=Rp.str) (e:=9) 43 (bG.mono (mx X ac)) z (by rw[U]; rfl) fun cS cW aa bp co=>yy (m' 8 ai' z z z) z<|x' 4 z aR' z z z z z (List.all_eq_true.1 z)<|sx0 z z<|k' ?_
  obtain rfl:_=r:=hr
  exact bE' z (ak' (i:=4) ai' z z z) z ⟨_,_,_,_,_,_,z,bp,(bj.mono (mx ac aa)),(bd.mono aa)⟩
 refine sr<|yy (au' z z) z<|sx0 z z<|E' hr z (fun bT hr=>?_) (fun bT hr=>?_)
 .refine c'<|ad' [ff,ff,ff,ff,ff,ff,ff,ff,ff,ff,ff,ff,ff] mix (by kernel_rfl) fun p=>Chain.litOwn (r:=Rp.str) (e:=9) ([]:List ByteArray) (fun _=>z) z (by decide) (fun u o c t=>?_) ?_
  .exact⟨#[],[],z,z,fun _=>by kernel_rfl,z⟩
  refine cu (fun _ _ c=>aH' z)<|cu (fun _ _ c=>g' 2 bF' z z z)<|cu (fun _ _ c=>by' z)<|cu (fun _ _ c=>g' 3 sc3 z z z) ?_
  obtain⟨bD,hr⟩:=hr
  obtain⟨p7,b8,bL,bU⟩:=SlR.cut (r:=Rp.str) none (some (i' f.at')) sz9 z J' g (.inl ⟨z,z⟩) (.inr ⟨_,z⟩) bD
  refine cu (fun _ _ c=>Y0.cutH J' bU z z) ?_
  obtain⟨bl,hr⟩:=hr
  refine Chain.appendOwn (r:=Rp.str) (e:=9) (kk:=69) (xs:=([]:List ByteArray)) ((d.vars.take f.at'.toNat).drop (0:Int).toNat) (fun _=>z) z (by kernel_rfl) (by kernel_rfl) J' el9 z (by decide) bl (fun u o c t=>?_) ?_
  .obtain⟨aq,_⟩:=(show (RowX Rp.str 9 69 ([]:List ByteArray)) (u 69) o/\True from t)
   exact⟨u 69,.slice p7 ((d.vars.take f.at'.toNat).drop (0:Int).toNat).length b8,aq,z,z,(bL.mono c)⟩
  refine cu (fun _ _ c=>aH' z)<|cu (fun _ _ c=>g' 2 bF' z z z)<|cu (fun _ _ c=>by' z)<|cu (fun _ _ c=>g' 3 sc3 z z z)<|cu (fun _ _ c=>I' z z) ?_
  obtain⟨bW,hr⟩:=hr
  obtain⟨p8,da,bE,ca⟩:=SlR.cut (r:=Rp.str) (some (i' (i64.wrap (f.at'+1)))) none sz9 z J' g (.inr ⟨_,z⟩) (.inl ⟨z,z⟩) bW
  refine cu (fun _ _ c=>Y0.cutL J' ca z z)<|Chain.tailX2 fun cm cf X2 Q M a7=>WL.adoptR M (fun ce cp bK aL aI cr=>?_)
  subst aL
  refine cJ' (show WL _ _ _ _ _ _ (St w0 G0 X2.m _) from ?_)
  obtain⟨br,hr⟩:=hr
  refine WL.appendT (r:=Rp.str) (e:=9) 75 z z J' el9 z (by decide) z z aI z (bE.mono Q) br fun p9 ar cD bH=>yy (aH' z) z<|aB' 8 ([.slice p9 ((([]:List ByteArray)++((d.vars.take f.at'.toNat).drop (0:Int).toNat))++((d.vars.take (d.vars.length:Int).toNat).drop (i64.wrap (f.at'+1)).toNat)).length ar,.slice m d.eqs.length n,.slice j d.neqs.length h,i' d.next]).toArray z sz28 z z z (show 0<4 by decide) z z<|o'<|am'<|a'<|c'<|ad' [ff,ff,ff,ff,ff,ff,ff] mix (by kernel_rfl) fun p=>cn (fun _ c=>aF' z)<|cn (fun _ c=>g' 2 bc' z z z)<|cn (fun _ c=>by' z)<|cn (fun _ c=>g' 3 sc3 z z z)<|cn (fun _ c=>f' z)<|cn (fun _ c=>be' z z) ?_
  obtain⟨cA,aC,hr⟩:=hr
  refine cm' z (fun _=>u' E82 z) (db' aC) z (fun o c=>trivial)<|af' p ?_
  obtain⟨ao,aM,hr⟩:=hr
  refine Q' z z (u' E81 z) (de' aM) z ((l.mono Q)) (fun ci c6 V P=>?_)
  obtain⟨ad,Z,rfl,aQ⟩:=P
  refine yy (aF' z) z<|aB' 8 ([.slice p9 ((([]:List ByteArray)++((d.vars.take f.at'.toNat).drop (0:Int).toNat))++((d.vars.take (d.vars.length:Int).toNat).drop (i64.wrap (f.at'+1)).toNat)).length ar,.slice ad ao.length Z,.slice j d.neqs.length h,i' d.next]).toArray z sz29 z z z (show 1<4 by decide) z z<|o'<|am'<|a'<|ad' [ff,ff,ff,ff,ff,ff,ff] mix (by kernel_rfl) fun p=>cn (fun _ c=>aG' z)<|cn (fun _ c=>g' 2 bc' z z z)<|cn (fun _ c=>by' z)<|cn (fun _ c=>g' 3 sc3 z z z)<|cn (fun _ c=>f' z)<|cn (fun _ c=>be' z z) ?_
  obtain⟨cJ,aR,hr⟩:=hr
  refine cm' z (fun _=>u' E82 z) (db' aR) z (fun o c=>trivial)<|af' p ?_
  obtain⟨bn,aT,hr⟩:=hr
  refine Q' z z (u' E81 z) (de' aT) z ((k.mono (mx Q V))) (fun ch c9 W R=>?_)
  obtain⟨aA,aO,rfl,aJ⟩:=R
  refine yy (aG' z) z<|aB' 8 ([.slice p9 ((([]:List ByteArray)++((d.vars.take f.at'.toNat).drop (0:Int).toNat))++((d.vars.take (d.vars.length:Int).toNat).drop (i64.wrap (f.at'+1)).toNat)).length ar,.slice ad ao.length Z,.slice aA bn.length aO,i' d.next]).toArray z sz29 z z z (show 2<4 by decide) z z<|o'<|am'<|v'<|a'<|sr<|bQ' (r:=Rp.str) (e:=9) 75 (bH.mono (mx V W)) z (by rw[U]; rfl) fun c8 cY af bf cq=>yy (m' 8 ai' z z z) z<|x' 4 z aR' z z z z z (List.all_eq_true.1 z)<|sx0 z z<|k' ?_
  obtain rfl:_=r:=hr
  exact bE' z (ak' (i:=4) ai' z z z) z ⟨_,_,_,_,_,_,z,bf,(aQ.mono (mx W af)),(aJ.mono af)⟩
 refine sr<|yy (au' z z) z<|sx0 z z<|E' hr z (fun bP hr=>?_) (fun bP hr=>?_)
 .refine n'<|yy (aH' z) z<|yy (g' 8 bF' z z z) z<|yy (by' z) z<|yy (g' 3 sc3 z z z) z<|yy (dQ' z) z<|yy (g' 3 sc9 z z z) z ?_
  obtain⟨x1,a4,hr⟩:=hr
  refine yy (aY' J' sz9 Y z z a4) z<|bO' (r:=Rp.str) (e:=9) (cs':=[.string f.name]) (i:=f.at') (z':=f.name) 4021 z sz9 z Y z z z z z a4 fun c7 bz=>o'<|v'<|a'<|sr<|bQ' (r:=Rp.str) (e:=9) 4021 bz z (by rw[U]; rfl) fun cZ c3 T ap ck=>yy (m' 8 ai' z z z) z<|x' 4 z aR' z z z z z (List.all_eq_true.1 z)<|sx0 z z<|k' ?_
  obtain rfl:_=r:=hr
  exact bE' z (ak' (i:=4) ai' z z z) z ⟨_,_,_,_,_,_,(by rw[dc' ap]),(dd' ap),(l.mono T),(k.mono T)⟩
 refine sr<|yy (au' z z) z<|sx0 z z<|E' hr z (fun b7 hr=>?_) (fun b7 hr=>?_)
 .refine sr ?_
  obtain⟨y,aS,hr⟩:=hr
  refine B' z z (u' E82 z) (db' aS) z (trivial)<|O' 9 z z109 z fun b5=>x' 9 z sz109 z z z (M' _ _ _) (M' _ _ _) (fun u t=>Rp.one (cy' .i64 8) (G:=G0) (x:=y) (cs:=vecG (Value.int .i64) 8 y) z u (by first|simpa using t|simpa [Value.cells] using t))<|nr<|yy (by' z) z<|yy (g' 3 sc3 z z z) z<|yy (eo' z) z<|yy (g' 3 sc3 z z z) z ?_
  obtain⟨bM,hr⟩:=hr
  refine yy (aQ' br' sz3 z z bM) z<|aB' 9 (vecG (Value.int .i64) 8 (setF y f.at'.toNat f.to')).toArray z sz3 z z z (by first|(rw[M']; omega)|(show _<(vecG _ _ _).toArray.size; rw[M']; omega)) z (co' _ _ _ _ _)<|nr<|yy (eo' z) z<|yy (g' 3 sc3 z z z) z<|yy (by' z) z<|yy (g' 3 sc3 z z z) z ?_
  obtain⟨bF,hr⟩:=hr
  refine yy (aQ' br' sz3 z z bF) z<|aB' 9 (vecG (Value.int .i64) 8 (setF (setF y f.at'.toNat f.to') f.to'.toNat f.at')).toArray z sz3 z z z (by first|(rw[M']; omega)|(show _<(vecG _ _ _).toArray.size; rw[M']; omega)) z (co' _ _ _ _ _)<|nx<|c'<|ad' [ff,ff,ff,ff,ff,ff,ff,ff,ff,ff] mix (by kernel_rfl) fun p=>cn (fun _ c=>aH' z)<|cn (fun _ c=>g' 8 bF' z z z)<|cn (fun _ c=>by' z)<|cn (fun _ c=>g' 3 sc3 z z z)<|cn (fun _ c=>aH' z)<|cn (fun _ c=>g' 2 bF' z z z)<|cn (fun _ c=>eo' z)<|cn (fun _ c=>g' 3 sc3 z z z) ?_
  obtain⟨x2,aU,hr⟩:=hr
  refine cn (fun _ c=>P' J' sz9 (g.mono c) z z aU)<|cn (fun _ c=>ae' sc9 z (bT' (H' (X' g aU) c)))<|af' p ?_
  obtain⟨x3,a0,hr⟩:=hr
  refine yy (aY' J' sz9 Y z z a0) z<|bO' (r:=Rp.str) (e:=9) (cs':=[.string x2]) (i:=f.at') (z':=x2) 4021 z sz9 z Y z z z z z a0 fun cV ay=>o'<|am'<|a'<|c'<|ad' [ff,ff,ff,ff,ff,ff,ff,ff,ff,ff] mix (by kernel_rfl) fun p=>cn (fun _ c=>aH' z)<|cn (fun _ c=>g' 8 bF' z z z)<|cn (fun _ c=>eo' z)<|cn (fun _ c=>g' 3 sc3 z z z)<|cn (fun _ c=>aH' z)<|cn (fun _ c=>g' 2 bF' z z z)<|cn (fun _ c=>by' z)<|cn (fun _ c=>g' 3 sc3 z z z) ?_
  obtain⟨x4,aW,hr⟩:=hr
  refine cn (fun _ c=>P' J' sz9 (g.mono c) z z aW)<|cn (fun _ c=>ae' sc9 z (bT' (H' (X' g aW) c)))<|af' p ?_
  obtain⟨x5,aX,hr⟩:=hr
  refine yy (aY' J' sz9 ay z z aX) z<|bO' (r:=Rp.str) (e:=9) (cs':=[.string x4]) (i:=f.to') (z':=x4) 4021 z sz9 z ay z z z z z aX fun c2 bt=>o'<|am'<|a'<|sr<|yy (aF' z) z<|yy (g' 2 bc' z z z) z<|yy (m' 9 ag109 z z (M' _ _ _)) z ?_
  obtain⟨aw,aF,hr⟩:=hr
  refine Q' z z (u' E81 z) (de' aF) z (l) (fun cl cv B J=>?_)
  obtain⟨ae,ab,rfl,aN⟩:=J
  refine yy (aF' z) z<|aB' 8 ([.slice p2 ([]++d.vars).length au,.slice ae aw.length ab,.slice j d.neqs.length h,i' d.next]).toArray z sz29 z z z (show 1<4 by decide) z z<|nx<|n'<|yy (aG' z) z<|yy (g' 2 bc' z z z) z<|yy (m' 9 ag109 z z (M' _ _ _)) z ?_
  obtain⟨bs,aK,hr⟩:=hr
  refine Q' z z (u' E81 z) (de' aK) z ((k.mono B)) (fun cc cP I K=>?_)
  obtain⟨aH,aB,rfl,az⟩:=K
  refine yy (aG' z) z<|aB' 8 ([.slice p2 ([]++d.vars).length au,.slice ae aw.length ab,.slice aH bs.length aB,i' d.next]).toArray z sz29 z z z (show 2<4 by decide) z z<|o'<|v'<|a'<|sr<|bQ' (r:=Rp.str) (e:=9) 4021 (bt.mono (mx B I)) z (by rw[U]; rfl) fun c1 cO D ax cd=>yy (m' 8 ai' z z z) z<|x' 4 z aR' z z z z z (List.all_eq_true.1 z)<|sx0 z z<|k' ?_
  obtain rfl:_=r:=hr
  exact bE' z (ak' (i:=4) ai' z z z) z ⟨_,_,_,_,_,_,(by rw[dc' ax]),(dd' ax),(aN.mono (mx I D)),(az.mono D)⟩
 refine sr<|yy (m' 2 ai' z z z) z<|yy (m' 3 ag116 z z z) z ?_
 obtain⟨cI,aP,hr⟩:=hr
 refine Q' z z (u' E83 z) (fA' aP) z (⟨g,l,k,C⟩) (fun cg cz bY O=>?_)
 obtain⟨a1,aV,bk,bg,aY,a2,rfl,A,L,H⟩:=O
 refine x' 4 z aR' z z z z z (List.all_eq_true.1 z)<|sx0 z z<|k'<|w'<|b' ?_
 obtain rfl:_=r:=hr
 exact bE' z (ak' (i:=4) ai' z z z) z ⟨_,_,_,_,_,_,z,A,L,H⟩
theorem gr'{l1 V aw ax r}(hr:(Zij l1 V).Ret r):Ctr prog 20 #[.slice aw l1.length ax,i' V] (fun G=>sl bv' G aw ax l1) (w31' r):=by
 refine A' (args:=[_,_]) (N:=36) func20 z z z (fun w0 G0 bg aV=>?_)
 have au:=aV
 refine sr<|O' 4 z z31 z fun b1=>nr<|yy (at' (vs:=#[(3,i' 1)]) (v:=.agg ([.slice none 0 0,.slice none 0 0,.slice none 0 0,i' 1]).toArray) z z (fun _=>by kernel_rfl)) z<|O' 5 z z31 z fun b2=>x' 5 z aR' z z z z z (List.all_eq_true.1 z)<|nx<|c'<|sr<|sx0 z z<|R' (fun (⟨Q,x,q,E,D,t,s,S⟩:Zb×Option Addr×Nat×Option Addr×Nat×Option Addr×Nat×Mem)=>[(4,pt0 b1),(5,pt0 b2)]) (fun ⟨Q,x,q,E,D,t,s,S⟩=>Mem.le G0 S/\sl Rp.str S x q Q.vars/\sl e' S E D Q.eqs/\sl e' S t s Q.neqs/\(Ze9 Q).Ret r) (fun ⟨Q,x,q,E,D,t,s,S⟩=>St w0 G0 S [(4,bk0 b1 ([.slice none 0 0,.slice none 0 0,.slice none 0 0,i' 0]) 31),(5,bk0 b2 (v31' Q x q E D t s) 31)]) ?_ ?_
 .refine s' ?_
  let av:Zb->Prop:=fun oo=>((fun ov=>match ov with|Q=>Ze9 Q:Zb->Cq Zb) oo).wp (fun a=>a=r)
  replace hr:(Cq.loop _ _).wp av:=hr
  refine T' (Φ:=av) (fun (⟨i1,L,l,e,n,m,g,k,O⟩:Int×Zb×Option Addr×Nat×Option Addr×Nat×Option Addr×Nat×Mem)=>((i1,L):Int×Zb)) (fun ⟨i1,L,l,e,n,m,g,k,O⟩=>[(0,.slice aw l1.length ax),(1,i' V),(4,pt0 b1),(5,pt0 b2),(6,i' i1)]) (fun ⟨i1,L,l,e,n,m,g,k,O⟩=>Mem.le G0 O/\y31' O l e n m g k L) (fun ⟨i1,L,l,e,n,m,g,k,O⟩=>St w0 G0 O [(4,bk0 b1 ([.slice none 0 0,.slice none 0 0,.slice none 0 0,i' 0]) 31),(5,bk0 b2 (v31' L l e n m g k) 31)]) ⟨0,(Zb.mk [] [] [] 1),none,0,none,0,none,0,G0⟩ hr (f5 z z z z z) ⟨mr,(ah' _ _),(ah' _ _),(ah' _ _)⟩ (w2 z z) ?_
  .intro bf gx hx hr
   obtain⟨i1,L,l,e,n,m,g,k,O⟩:=gx
   obtain⟨F,A,C,y⟩:=hx
   refine c'<|sr<|mv z z<|mv z z<|yy (K' dw' (au.mono F) z) z<|ao' hr z (V' z z) z (fun a1 hr=>?_) (fun a1 hr=>?_)
   .refine mv z z<|gy z z (f' z) z<|gy z z (f' z) z<|gy z z (V' z z) z<|yy (t' z z) z<|nx<|E' hr z (fun a2 hr=>?_) (fun a2 hr=>?_)
    .refine l'<|a'<|c'<|s'<|c'<|ad' [ff,ff,ff,ff,ff,ff,ff,ff,ff,ff,tt,ff] mix (by kernel_rfl) fun hb=>cn (fun _ d=>m' 5 ai' z z z)<|cn (fun _ d=>m' 5 ai' z z z)<|cn (fun _ d=>f' z)<|cn (fun _ d=>f' z) ?_
     obtain⟨x1,aN,hr⟩:=hr
     refine cn (fun _ d=>P' dw' sz122 ((au.mono F).mono d) z z aN) ?_
     obtain⟨a5,a4,aW,aF⟩:=ZgT (H' (X' au aN) F)
     refine cn (fun _ d=>as' _ ag122 z z (fun j v hv=>d _ _ _ (aW j v hv))) ?_
     obtain⟨aM,aR,hr⟩:=hr
     refine aw' (post:=w116' aM) (fun _=>z) (fun _ _=>u' E45 z) (fx' aR) z (fun X d=>⟨(A.mono d),(C.mono d),(y.mono d),(aF.mono d)⟩) (fun v G1 G2 d h=>?_) ?_
     .obtain⟨ai,ag,rfl,T⟩:=h
      exact⟨_,_,z,T.mono d⟩
     obtain⟨R,aS,hr⟩:=hr
     refine bz' (f:=44) (φ:=w31t' R) (fun _=>z) (fun v G1 G2 d h=>?_) (fun u X d hu=>?_) ?_
     .obtain⟨K,J,M,P,H,I,rfl,p,B,o⟩:=h
      exact⟨_,_,_,_,_,_,z,p.mono d,B.mono d,o.mono d⟩
     .obtain⟨⟨ai,ag,aE,T⟩,_⟩:=(show (w116' aM) X.m (u 28)/\True from hu)
      exact⟨_,_,_,fun _=>u' E44 z,ez' aS,(by simp only[aE] <;> rfl),⟨(A.mono d),(C.mono d),(y.mono d),T⟩⟩
     refine bC' (φ:=w31t' R) (fun _=>z) (fun v G1 G2 d h=>?_) (fun u X d hu=>?_) ?_
     .obtain⟨p1,aj,p2,ah,p3,af,rfl,Y,aa,Z⟩:=h
      exact⟨_,_,_,_,_,_,z,Y.mono d,aa.mono d,Z.mono d⟩
     .obtain⟨⟨K,J,M,P,H,I,aD,p,B,o⟩,_,_⟩:=(show (w31t' R) X.m (u 29)/\True/\True from hu)
      simp only[undFr,aD]
      exact⟨_,f' z,K,J,M,P,H,I,z,p,B,o⟩
     refine bC' (φ:=w31' R.1) (fun _=>z) (fun v G1 G2 d h=>?_) (fun u X d hu=>?_) ?_
     .obtain⟨p4,aL,p5,aJ,p6,aK,rfl,ar,ay,aq⟩:=h
      exact⟨_,_,_,_,_,_,z,ar.mono d,ay.mono d,aq.mono d⟩
     .obtain⟨⟨p1,aj,p2,ah,p3,af,W,Y,aa,Z⟩,_,_,_⟩:=(show (w31t' R) X.m (u 21)/\True/\True/\True from hu)
      simp only[undFr,W]
      exact⟨_,L' z z,p1,aj,p2,ah,p3,af,z,Y,aa,Z⟩
     refine bZ' (c:=i' R.2) (fun _=>z) (fun u X d hu=>?_) ?_
     .obtain⟨_,⟨p1,aj,p2,ah,p3,af,W,Y,aa,Z⟩,_,_,_⟩:=(show True/\(w31t' R) X.m (u 21)/\True/\True/\True from hu)
      simp only[undFr,W]
      exact L' z z
     refine bJ' (fun _=>z) z31<|Chain.tailX5 (fun bh a9 a6 bb bc X1 U az al ao ap ak=>?_)
     obtain⟨b3,rfl,aQ⟩:=az
     obtain⟨p4,aL,p5,aJ,p6,aK,rfl,ar,ay,aq⟩:=al
     obtain⟨p1,aj,p2,ah,p3,af,rfl,Y,aa,Z⟩:=ao
     obtain⟨K,J,M,P,H,I,rfl,p,B,o⟩:=ap
     obtain⟨ai,ag,rfl,T⟩:=ak
     refine di' aQ (cJ' (show WL _ _ _ _ _ _ (St w0 G0 X1.m _) from ?_))
     refine x' 7 z aR' z z z z z (List.all_eq_true.1 z)<|sg z z<|o'<|am'<|a'<|sr<|mv z z<|yy (au' z z) z<|nx<|E' hr z (fun aZ hr=>?_) (fun aZ hr=>?_)
     .refine n'<|yy (m' 7 ai' z z z) z<|x' 5 z aR' z z z z z (List.all_eq_true.1 z)<|o'<|v'<|a'<|n'<|mv z z<|yy (I' z z) z<|sg z z<|o'<|C' ⟨i64.wrap (i1+1),R.1,p4,aL,p5,aJ,p6,aK,X1.m⟩ hr ⟨(mx F U),ar,ay,aq⟩ (f5 z z z z z) (w2 z z)
     refine l'<|v'<|a'<|n'<|mv z z<|yy (I' z z) z<|sg z z<|o'<|C' ⟨i64.wrap (i1+1),L,l,e,n,m,g,k,X1.m⟩ hr ⟨(mx F U),(A.mono U),(C.mono U),(y.mono U)⟩ (f5 z z z z z) (w2 z z)
    refine U'<|h'<|h'<|y'<|W' ⟨L,l,e,n,m,g,k,O⟩ ⟨F,A,C,y,hr⟩ (f2 z z) (w2 z z)
   refine mv z z<|sn3 z<|yy (p' z z) z<|nx<|aK' z<|U'<|h'<|h'<|y'<|W' ⟨L,l,e,n,m,g,k,O⟩ ⟨F,A,C,y,hr⟩ (f2 z z) (w2 z z)
 rintro⟨Q,x,q,E,D,t,s,S⟩ ⟨a3,ac,an,ad,hr⟩
 refine a'<|sr<|yy (m' 5 ai' z z z) z<|x' 4 z aR' z z z z z (List.all_eq_true.1 z)<|nx<|k' ?_
 obtain rfl:_=r:=hr
 exact j' z (ak' (i:=4) ai' z z z) ⟨_,_,_,_,_,_,z,ac,an,ad⟩
theorem fh'{s1 l1 T O P Y X S Q an ao r}(hr:(ZeC s1 l1 T).Ret r):Ctr prog 22 #[.agg ((v31' s1 O P Y X S Q)).toArray,.slice an l1.length ao,i' T] (fun G=>sl Rp.str G O P s1.vars/\sl e' G Y X s1.eqs/\sl e' G S Q s1.neqs/\sl bv' G an ao l1) (wl' cg' r):=by
 refine A' (args:=[_,_,_]) (N:=44) func22 z z z (fun w0 G0 ay aO=>?_)
 obtain⟨au,ax,aq,az⟩:=aO
 refine sr<|Y' 3 z z z fun b1=>sg z z<|nr<|aD' (e:=116) (r:=cg') (vs:=#[]) (cs:=[]) ([]:List Zg) z z z z z (by decide) (fun _=>by kernel_rfl) (z) (key:=999) z (by rw[ay]; rfl) fun p1 aA I aW=>sx0 z z<|c'<|sr<|sx0 z z<|R' (fun (⟨A,H,F,E,aa⟩:(List Zg)×Option Addr×Nat×Option Ow×Mem)=>[(7,.slice H A.length F)]) (fun ⟨A,H,F,E,aa⟩=>Mem.le aA aa/\sl cg' aa H F A/\Tok 7 116 (.slice H A.length F) A.length E/\(Zek A).Ret r) (fun ⟨A,H,F,E,aa⟩=>St w0 G0 aa [(1007,E)]) ?_ ?_
 .refine s' ?_
  let am:(List Zg)->Prop:=fun oo=>((fun ov=>match ov with|A=>Zek A:(List Zg)->Cq (List Zg)) oo).wp (fun a=>a=r)
  replace hr:(Cq.loop _ _).wp am:=hr
  refine T' (Φ:=am) (fun (⟨m,q,p,l,Z,D,k,f,o,n,i,g,x⟩:(List Zg)×Option Addr×Nat×Option Ow×Int×Zb×Option Addr×Nat×Option Addr×Nat×Option Addr×Nat×Mem)=>((m,Z,D):(List Zg)×Int×Zb)) (fun ⟨m,q,p,l,Z,D,k,f,o,n,i,g,x⟩=>[(1,.slice an l1.length ao),(2,i' T),(3,pt0 b1),(7,.slice q m.length p),(8,i' Z)]) (fun ⟨m,q,p,l,Z,D,k,f,o,n,i,g,x⟩=>Mem.le aA x/\sl cg' x q p m/\Tok 7 116 (.slice q m.length p) m.length l/\y31' x k f o n i g D) (fun ⟨m,q,p,l,Z,D,k,f,o,n,i,g,x⟩=>St w0 G0 x [(3,bk0 b1 (v31' D k f o n i g) 31),(1007,l)]) ⟨[],p1,0,none,0,s1,O,P,Y,X,S,Q,aA⟩ hr (f5 z z z z z) ⟨mr,aW,cc',(au.mono I),(ax.mono I),(aq.mono I)⟩ (wk (lc z (lw ln))) ?_
  .intro aP gx hx hr
   obtain⟨m,q,p,l,Z,D,k,f,o,n,i,g,x⟩:=gx
   obtain⟨C,U,L,J,R,K⟩:=hx
   refine aP' (fun (gx:Mem)=>match gx with|ai=>[(1,.slice an l1.length ao),(2,i' T),(3,pt0 b1),(7,.slice q m.length p),(8,i' Z)]) (fun (gx:Mem)=>match gx with|ai=>Mem.le x ai/\(ZgM l1 m Z D).wp (Out aP am)) (fun (gx:Mem)=>match gx with|ai=>St w0 G0 ai [(3,bk0 b1 (v31' D k f o n i g) 31),(1007,l)]) ?_ ?_
   .refine sr<|mv z z<|mv z z<|yy (K' dw' (az.mono (mx I C)) z) z<|ao' hr z (V' z z) z (fun a0 hr=>?_) (fun a0 hr=>?_)
    .refine mv z z<|gy z z (f' z) z<|gy z z (f' z) z<|gy z z (V' z z) z<|yy (t' z z) z<|nx<|E' hr z (fun aV hr=>?_) (fun aV hr=>?_)
     .refine l'<|al' x ⟨mr,hr⟩ (f5 z z z z z) (w2 z z)
     refine U'<|h'<|h'<|y'<|W' ⟨m,q,p,l,x⟩ ⟨C,U,L,hr⟩ (f1 z) (w1 z)
    refine mv z z<|sn3 z<|yy (p' z z) z<|nx<|aK' z<|U'<|h'<|h'<|y'<|W' ⟨m,q,p,l,x⟩ ⟨C,U,L,hr⟩ (f1 z) (w1 z)
   rintro ai ⟨d,hr⟩
   refine c'<|s'<|c'<|ad' [ff,ff,ff,ff,ff,ff,ff] mix (by kernel_rfl) fun hb=>cn (fun _ B=>m' 3 ai' z z z)<|cn (fun _ B=>f' z)<|cn (fun _ B=>f' z) ?_
   obtain⟨x1,aH,hr⟩:=hr
   refine cn (fun _ B=>P' dw' sz122 ((az.mono (mx (mx I C) d)).mono B) z z aH) ?_
   obtain⟨a4,a3,aR,aE⟩:=ZgT (H' (X' az aH) (mx (mx I C) d))
   refine cn (fun _ B=>as' _ ag122 z z (fun j v hv=>B _ _ _ (aR j v hv))) ?_
   obtain⟨c,aM,hr⟩:=hr
   refine aw' (post:=w116' c) (fun _=>z) (fun _ _=>u' E45 z) (fx' aM) z (fun G' B=>⟨((J.mono d).mono B),((R.mono d).mono B),((K.mono d).mono B),(aE.mono B)⟩) (fun v G1 G2 B h=>?_) ?_
   .obtain⟨t,s,rfl,V⟩:=h
    exact⟨_,_,z,V.mono B⟩
   refine bJ' (fun _=>z) z116<|Chain.tailX2 (fun bf ba X1 y aB ap=>?_)
   obtain⟨b2,rfl,aK⟩:=aB
   obtain⟨t,s,rfl,V⟩:=ap
   refine di' aK (cJ' (show WL _ _ _ _ _ _ (St w0 G0 X1.m _) from ?_))
   refine x' 9 z sz116 z z z z z (List.all_eq_true.1 z)<|o'<|am'<|a'<|sr<|yy (m' 3 ai' z z z) z<|yy (m' 9 ag116 z z z) z ?_
   obtain⟨aU,aN,hr⟩:=hr
   refine Q' z z (u' E44 z) (ez' aN) z (⟨(J.mono (mx d y)),(R.mono (mx d y)),(K.mono (mx d y)),V⟩) (fun a9 aS u av=>?_)
   obtain⟨ag,ae,aj,ak,ab,ac,rfl,af,ah,ad⟩:=av
   refine mv z z<|yy (L' z z) z<|yy (L' z z) z<|O' 10 z z31 z fun b3=>x' 10 z aR' z z z z z (List.all_eq_true.1 z)<|sg z z<|nr<|mv z z<|yy (au' z z) z<|nx<|E' hr z (fun a1 hr=>?_) (fun a1 hr=>?_)
   .refine sr<|mv z z<|yy (m' 9 ag116 z z z) z<|aD' (e:=116) (r:=cg') (vs:=#[(0,.agg ((v116' c t s)).toArray)]) (cs:=(v116' c t s)++([])) ([c]:List Zg) z z z z z (by decide) (fun _=>by kernel_rfl) ⟨(v116' c t s),[],z,⟨[i' c.kind],[.string c.name,i' c.at',i' c.to',i' c.id,.slice t c.p.length s,.bool c.neq],z,z,⟨[.string c.name],[i' c.at',i' c.to',i' c.id,.slice t c.p.length s,.bool c.neq],z,z,⟨[i' c.at'],[i' c.to',i' c.id,.slice t c.p.length s,.bool c.neq],z,z,⟨[i' c.to'],[i' c.id,.slice t c.p.length s,.bool c.neq],z,z,⟨[i' c.id],[.slice t c.p.length s,.bool c.neq],z,z,⟨[.slice t c.p.length s],[.bool c.neq],z,⟨_,z,(V.mono u)⟩,z⟩⟩⟩⟩⟩⟩,z⟩ (key:=999) z (by rw[ay]; rfl) (fun p2 be M aZ=>?_)
    obtain⟨aJ,hr⟩:=hr
    refine aW' (r:=cg') 1007 z z dx' el116 z (by decide) z z (U.mono (mx (mx (mx d y) u) M)) z (by rw[ay]; rfl) L aZ aJ fun p3 aT aI aQ W aY aL=>sx0 z z<|n'<|yy (m' 10 ai' z z z) z<|x' 3 z aR' z z z z z (List.all_eq_true.1 z)<|o'<|v'<|a'<|n'<|mv z z<|yy (I' z z) z<|sg z z<|o'<|C' ⟨(m++[c]),p3,aT,aI,i64.wrap (Z+1),aU.1,ag,ae,aj,ak,ab,ac,aQ⟩ hr ⟨(mx (mx (mx (mx (mx C d) y) u) M) W),aY,aL,(af.mono (mx M W)),(ah.mono (mx M W)),(ad.mono (mx M W))⟩ (f5 z z z z z) (w2 z z)
   have N1:=mx (mx d y) u
   refine l'<|v'<|a'<|n'<|mv z z<|yy (I' z z) z<|sg z z<|o'<|C' ⟨m,q,p,l,i64.wrap (Z+1),D,k,f,o,n,i,g,aS⟩ hr ⟨(mx (mx (mx C d) y) u),(U.mono N1),L,(J.mono N1),(R.mono N1),(K.mono N1)⟩ (f5 z z z z z) (w2 z z)
 rintro⟨A,H,F,E,aa⟩ ⟨a2,aG,aX,hr⟩
 refine a'<|sr<|mv z z<|sx0 z z<|k' ?_
 obtain rfl:_=r:=hr
 exact j' z z ⟨_,_,z,aG⟩
theorem gG'{s1 l1 ac ad an ak af ae aC aE r}(hr:(Zls s1 l1).Ret r):Ctr prog 46 #[.agg ((v31' s1 ac ad an ak af ae)).toArray,.slice aC l1.length aE] (fun G=>sl Rp.str G ac ad s1.vars/\sl e' G an ak s1.eqs/\sl e' G af ae s1.neqs/\sl cg' G aC aE l1) (w124' r):=by
 refine A' (args:=[_,_]) (N:=33) func46 z z z (fun w0 G0 bA bd=>?_)
 obtain⟨aM,aP,aI,aA⟩:=bd
 refine sr<|Y' 2 z z z fun b1=>O' 4 z z124 z fun b2=>nx<|c'<|sr<|sx0 z z<|R' (fun (⟨M,y,n,D,B,t,p,ah,H,E,O,L,F,I,Y⟩:Zb×Option Addr×Nat×Option Addr×Nat×Option Addr×Nat×Zz×Option Addr×Nat×Option Addr×Nat×Option Addr×Nat×Mem)=>[(1,.slice aC l1.length aE),(2,pt0 b1),(4,pt0 b2)]) (fun ⟨M,y,n,D,B,t,p,ah,H,E,O,L,F,I,Y⟩=>Mem.le G0 Y/\sl Rp.str Y y n M.vars/\sl e' Y D B M.eqs/\sl e' Y t p M.neqs/\sl Rp.str Y H E ah.s.vars/\sl e' Y O L ah.s.eqs/\sl e' Y F I ah.s.neqs/\(ZgK l1 M).Ret r) (fun ⟨M,y,n,D,B,t,p,ah,H,E,O,L,F,I,Y⟩=>St w0 G0 Y [(2,bk0 b1 (v31' M y n D B t p) 31),(4,bk0 b2 (v124' ah H E O L F I) 124)]) ?_ ?_
 .refine s' ?_
  let aS:(Zz⊕(Zb×Zz))->Prop:=fun oo=>((fun ov=>match ov with | .inl rv1=>Cq.ret rv1 | .inr (M,ah)=>ZgK l1 M:(Zz⊕(Zb×Zz))->Cq Zz) oo).wp (fun a=>a=r)
  replace hr:(Cq.loop _ _).wp aS:=hr
  refine T' (Φ:=aS) (fun (⟨i1,aa,x,o,C,A,s,q,X,d,g,l,m,e,k,Q⟩:Int×Zb×Option Addr×Nat×Option Addr×Nat×Option Addr×Nat×Zz×Option Addr×Nat×Option Addr×Nat×Option Addr×Nat×Mem)=>((i1,aa,X):Int×Zb×Zz)) (fun ⟨i1,aa,x,o,C,A,s,q,X,d,g,l,m,e,k,Q⟩=>[(1,.slice aC l1.length aE),(2,pt0 b1),(4,pt0 b2),(5,i' i1)]) (fun ⟨i1,aa,x,o,C,A,s,q,X,d,g,l,m,e,k,Q⟩=>Mem.le G0 Q/\sl Rp.str Q x o aa.vars/\sl e' Q C A aa.eqs/\sl e' Q s q aa.neqs/\y31' Q d g l m e k X.s) (fun ⟨i1,aa,x,o,C,A,s,q,X,d,g,l,m,e,k,Q⟩=>St w0 G0 Q [(2,bk0 b1 (v31' aa x o C A s q) 31),(4,bk0 b2 (v124' X d g l m e k) 124)]) ⟨0,s1,ac,ad,an,ak,af,ae,(Zz.mk (Zb.mk [] [] [] 0) 0 0),none,0,none,0,none,0,G0⟩ hr (f4 z z z z) ⟨mr,aM,aP,aI,(ah' _ _),(ah' _ _),(ah' _ _)⟩ (w2 z z) ?_
  .intro bz gx hx hr
   obtain⟨i1,aa,x,o,C,A,s,q,X,d,g,l,m,e,k,Q⟩:=gx
   obtain⟨ab,aj,ao,al,ai,am,ag⟩:=hx
   refine c'<|sr<|mv z z<|mv z z<|yy (K' dx' (aA.mono ab) z) z<|yy (V' z z) z<|nx<|E' hr z (fun bn hr=>?_) (fun bn hr=>?_)
   .refine l'<|a'<|c'<|s'<|c'<|ad' [ff,ff,ff,ff,ff,ff,ff,ff,tt,ff] mix (by kernel_rfl) fun hb=>cn (fun _ f=>m' 2 ai' z z z)<|cn (fun _ f=>f' z)<|cn (fun _ f=>f' z) ?_
    obtain⟨x1,a8,hr⟩:=hr
    refine cn (fun _ f=>P' dx' sz116 ((aA.mono ab).mono f) z z a8) ?_
    obtain⟨bt,bv,bf,be⟩:=ZmA (H' (X' aA a8) ab)
    refine cn (fun _ f=>as' _ ag116 z z (fun j v hv=>f _ _ _ (bf j v hv))) ?_
    obtain⟨Z,bb,hr⟩:=hr
    refine aw' (post:=w31t' Z) (fun _=>z) (fun _ _=>u' E44 z) (ez' bb) z (fun G' f=>⟨(aj.mono f),(ao.mono f),(al.mono f),(be.mono f)⟩) (fun v G1 G2 f h=>?_) ?_
    .obtain⟨S,U,V,W,T,R,rfl,J,P,K⟩:=h
     exact⟨_,_,_,_,_,_,z,J.mono f,P.mono f,K.mono f⟩
    refine bC' (φ:=w31t' Z) (fun _=>z) (fun v G1 G2 f h=>?_) (fun u G' f hu=>?_) ?_
    .obtain⟨p1,aF,p2,aD,p3,aB,rfl,av,ax,aw⟩:=h
     exact⟨_,_,_,_,_,_,z,av.mono f,ax.mono f,aw.mono f⟩
    .obtain⟨⟨S,U,V,W,T,R,a0,J,P,K⟩,_⟩:=(show (w31t' Z) G'.m (u 20)/\True from hu)
     simp only[undFr,a0]
     exact⟨_,f' z,S,U,V,W,T,R,z,J,P,K⟩
    refine bC' (φ:=w31' Z.1) (fun _=>z) (fun v G1 G2 f h=>?_) (fun u G' f hu=>?_) ?_
    .obtain⟨p4,a5,p5,a3,p6,a4,rfl,aR,aU,aQ⟩:=h
     exact⟨_,_,_,_,_,_,z,aR.mono f,aU.mono f,aQ.mono f⟩
    .obtain⟨⟨p1,aF,p2,aD,p3,aB,ap,av,ax,aw⟩,_,_⟩:=(show (w31t' Z) G'.m (u 14)/\True/\True from hu)
     simp only[undFr,ap]
     exact⟨_,L' z z,p1,aF,p2,aD,p3,aB,z,av,ax,aw⟩
    refine bZ' (c:=i' Z.2) (fun _=>z) (fun u G' f hu=>?_) ?_
    .obtain⟨_,⟨p1,aF,p2,aD,p3,aB,ap,av,ax,aw⟩,_,_⟩:=(show True/\(w31t' Z) G'.m (u 14)/\True/\True from hu)
     simp only[undFr,ap]
     exact L' z z
    refine bJ' (fun _=>z) z31<|Chain.tailX4 (fun bB bo bs bu X1 ar aV aN aO aH=>?_)
    obtain⟨b3,rfl,ba⟩:=aV
    obtain⟨p4,a5,p5,a3,p6,a4,rfl,aR,aU,aQ⟩:=aN
    obtain⟨p1,aF,p2,aD,p3,aB,rfl,av,ax,aw⟩:=aO
    obtain⟨S,U,V,W,T,R,rfl,J,P,K⟩:=aH
    refine di' ba (cJ' (show WL _ _ _ _ _ _ (St w0 G0 X1.m _) from ?_))
    refine x' 6 z aR' z z z z z (List.all_eq_true.1 z)<|sg z z<|o'<|am'<|a'<|c'<|sr<|mv z z<|yy (bj' z z) z<|nx<|E' hr z (fun bk hr=>?_) (fun bk hr=>?_)
    .refine sr<|mv z z<|mv z z<|yy (at' (vs:=#[(1,i' i1),(2,i' Z.2)]) (v:=.agg ([.slice none 0 0,.slice none 0 0,.slice none 0 0,i' 0,i' i1,i' Z.2]).toArray) z z (fun _=>by kernel_rfl)) z<|x' 4 z sz124 z z z z z (List.all_eq_true.1 z)<|nx<|k'<|b'<|w'<|b'<|b'<|w'<|ap'<|b' ?_
     obtain rfl:_=r:=hr
     exact j' z (ak' (i:=4) ag124 z z z) ⟨_,_,_,_,_,_,z,(ah' Rp.str _),(ah' e' _),(ah' e' _)⟩
    refine l'<|a'<|n'<|yy (m' 6 ai' z z z) z<|x' 2 z aR' z z z z z (List.all_eq_true.1 z)<|o'<|v'<|a'<|n'<|mv z z<|yy (I' z z) z<|sg z z<|o'<|C' ⟨i64.wrap (i1+1),Z.1,p4,a5,p5,a3,p6,a4,X,d,g,l,m,e,k,X1.m⟩ hr ⟨(mx ab ar),aR,aU,aQ,(ai.mono ar),(am.mono ar),(ag.mono ar)⟩ (f4 z z z z) (w2 z z)
   refine U'<|h'<|h'<|y'<|W' ⟨aa,x,o,C,A,s,q,X,d,g,l,m,e,k,Q⟩ ⟨ab,aj,ao,al,ai,am,ag,hr⟩ (f3 z z z) (w2 z z)
 rintro⟨M,y,n,D,B,t,p,ah,H,E,O,L,F,I,Y⟩ ⟨aZ,ay,aL,az,a7,a9,a6,hr⟩
 refine a'<|sr<|yy (m' 2 ai' z z z) z<|mv z z<|yy (K' dx' (aA.mono aZ) z) z<|yy (at' (vs:=#[(0,.agg ((v31' M y n D B t p)).toArray),(1,i' (l1.length:Int))]) (v:=.agg ([.slice y M.vars.length n,.slice D M.eqs.length B,.slice t M.neqs.length p,i' M.next,i' (l1.length:Int),i' 0]).toArray) z z (fun _=>by kernel_rfl)) z<|x' 4 z sz124 z z z z z (List.all_eq_true.1 z)<|nx<|k' ?_
 obtain rfl:_=r:=hr
 exact j' z (ak' (i:=4) ag124 z z z) ⟨_,_,_,_,_,_,z,ay,aL,az⟩
theorem fM'{B F j k s q l m D C r}(hr:(Zhy B F).Ret r):Ctr prog 21 #[.agg ((v31' B j k s q l m)).toArray,.slice D F.length C] (fun G=>sl Rp.str G j k B.vars/\sl e' G s q B.eqs/\sl e' G l m B.neqs/\sl cg' G D C F) (w31u' r):=by
 refine A' (args:=[_,_]) (N:=17) func21 z z z (fun T S Q E=>?_)
 obtain⟨y,A,v,I⟩:=E
 refine sr<|Y' 2 z z z fun R=>O' 4 z z31 z fun U=>sg z z<|sg z z<|nr<|yy (m' 2 ai' z z z) z<|mv z z ?_
 obtain⟨n,H,hr⟩:=hr
 refine Q' z z (u' E46 z) (gG' H) z (⟨y,A,v,I⟩) (fun O P K x=>?_)
 obtain⟨d,f,h,g,c,e,rfl,p,t,o⟩:=x
 refine O' 7 z z124 z fun M=>x' 7 z sz124 z z z z z (List.all_eq_true.1 z)<|nx<|c'<|WC.drawnB [(7,bk0 M (v124' n d f h g c e) 124)] (lc z ln) [ff,ff,tt,tt,tt,tt] mix (by kernel_rfl) fun L=>cn (fun _ J=>Y0.Zqb z)<|cn (fun _ J=>aj' ((v31' n.s d f h g c e)).toArray 7 ai' z z z (aq' ([]) ((v31' n.s d f h g c e)) ([i' n.n,i' n.e])))<|dm' z (Y0.Zqc z)<|dm' z (g' 7 sc3 z z z)<|dm' z (Y0.Zqd z)<|dm' z (g' 7 sc37 z z z)<|Chain.tailB L<|WLT.one (fun w u=>u.weaken (lc z ln))<|x' 4 z aR' z z z z z (List.all_eq_true.1 z)<|WLT.back<|WLT.y0 (fun w u=>u.weaken (lc z ln)) z (Y0.assign z) z<|WLT.y0 (fun w u=>u.weaken (lc z ln)) z (Y0.assign z) z<|WLT.nil (fun w u=>u.weaken (lc z ln))<|am'<|a'<|k' ?_
 obtain rfl:_=r:=hr
 exact cv' z (ak' (i:=4) ai' z z z) z z ⟨_,_,_,_,_,_,z,p,t,o⟩
theorem eq'{x1 an am aV ba bb a3 r}(hr:(Zil x1).Ret r):Ctr prog 8 #[.agg ((v24' x1 an am aV ba bb a3)).toArray] (fun G=>sl bv' G an am x1.base/\sl bv' G aV ba x1.a/\sl bv' G bb a3 x1.b) (fun G v=>∃ Z ab ao ap T W X R al af aa S Y U ae aq V ac,v = .tuple #[.agg ((v31' r.1 Z ab ao ap T W)).toArray,.agg ((v31' r.2.1 X R al af aa S)).toArray,.agg ((v31' r.2.2 Y U ae aq V ac)).toArray]/\sl Rp.str G Z ab r.1.vars/\sl e' G ao ap r.1.eqs/\sl e' G T W r.1.neqs/\sl Rp.str G X R r.2.1.vars/\sl e' G al af r.2.1.eqs/\sl e' G aa S r.2.1.neqs/\y31' G Y U ae aq V ac r.2.2):=by
 refine A' (args:=[_]) (N:=38) func8 z z z (fun w0 G0 b8 bG=>?_)
 obtain⟨aO,bz,bw⟩:=bG
 refine sr<|Y' 1 z z z fun b1=>O' 2 z z31 z fun b2=>O' 3 z z31 z fun b3=>O' 4 z z31 z fun b4=>nr<|yy (Y0.ZqB z) z<|yy (g' 1 sc22 z z z) z ?_
 obtain⟨ca,bA,hr⟩:=hr
 refine Q' z z (u' E20 z) (gr' bA) z (aO) (fun bZ b9 aH aJ=>?_)
 obtain⟨bC,bt,bH,bI,bu,bD,rfl,m,s,l⟩:=aJ
 refine O' 5 z z31 z fun b5=>x' 5 z aR' z z z z z (List.all_eq_true.1 z)<|nx<|c'<|ad' [ff,ff,ff,ff,ff,ff,ff,ff,tt,tt,ff] mix (by kernel_rfl) fun hb=>cn (fun _ d=>m' 5 ai' z z z)<|cn (fun _ d=>m' 5 ai' z z z)<|cn (fun _ d=>Y0.ZqC z)<|cn (fun _ d=>g' 1 sc22 z z z) ?_
 obtain⟨bo,bB,hr⟩:=hr
 refine aw' (post:=wl' cg' bo) (fun _=>z) (fun _ _=>u' E22 z) (fh' bB) z (fun p d=>⟨(m.mono d),(s.mono d),(l.mono d),((bz.mono aH).mono d)⟩) (fun v G1 G2 d h=>?_) ?_
 .obtain⟨a2,aW,rfl,au⟩:=h
  exact⟨_,_,z,au.mono d⟩
 obtain⟨L,bE,hr⟩:=hr
 refine bz' (f:=21) (φ:=w31u' L) (fun _=>z) (fun v G1 G2 d h=>?_) (fun u p d E=>?_) ?_
 .obtain⟨D,t,H,I,y,A,rfl,g,n,e⟩:=h
  exact⟨_,_,_,_,_,_,z,g.mono d,n.mono d,e.mono d⟩
 .obtain⟨⟨a2,aW,bg,au⟩,_⟩:=(show (wl' cg' bo) p.m (u 20)/\True from E)
  exact⟨_,_,_,fun _=>u' E21 z,fM' bE,(by simp only[bg] <;> rfl),⟨(m.mono d),(s.mono d),(l.mono d),au⟩⟩
 refine bC' (φ:=w31u' L) (fun _=>z) (fun v G1 G2 d h=>?_) (fun u p d E=>?_) ?_
 .obtain⟨p1,az,p2,ax,p3,av,rfl,ai,ak,aj⟩:=h
  exact⟨_,_,_,_,_,_,z,ai.mono d,ak.mono d,aj.mono d⟩
 .obtain⟨⟨D,t,H,I,y,A,bh,g,n,e⟩,_,_⟩:=(show (w31u' L) p.m (u 21)/\True/\True from E)
  simp only[undFr,bh]
  exact⟨_,f' z,D,t,H,I,y,A,z,g,n,e⟩
 refine bC' (φ:=w31' L.1) (fun _=>z) (fun v G1 G2 d h=>?_) (fun u p d E=>?_) ?_
 .obtain⟨p4,bn,p5,bj,p6,bm,rfl,aZ,a6,aX⟩:=h
  exact⟨_,_,_,_,_,_,z,aZ.mono d,a6.mono d,aX.mono d⟩
 .obtain⟨⟨p1,az,p2,ax,p3,av,O,ai,ak,aj⟩,_,_,_⟩:=(show (w31u' L) p.m (u 15)/\True/\True/\True from E)
  simp only[undFr,O]
  exact⟨_,L' z z,p1,az,p2,ax,p3,av,z,ai,ak,aj⟩
 refine bZ' (c:=i' L.2.1) (fun _=>z) (fun u p d E=>?_) ?_
 .obtain⟨_,⟨p1,az,p2,ax,p3,av,O,ai,ak,aj⟩,_,_,_⟩:=(show True/\(w31u' L) p.m (u 15)/\True/\True/\True from E)
  simp only[undFr,O]
  exact L' z z
 refine bZ' (c:=i' L.2.2) (fun _=>z) (fun u p d E=>?_) ?_
 .obtain⟨_,⟨p1,az,p2,ax,p3,av,O,ai,ak,aj⟩,_,_,_⟩:=(show True/\(w31u' L) p.m (u 15)/\True/\True/\True from E)
  simp only[undFr,O]
  exact L' z z
 refine bJ' (fun _=>z) z31<|Chain.tailX5 (fun cb bQ bW bR bX X1 q a8 aM aK aP aQ=>?_)
 obtain⟨b6,rfl,bx⟩:=a8
 obtain⟨p4,bn,p5,bj,p6,bm,rfl,aZ,a6,aX⟩:=aM
 obtain⟨p1,az,p2,ax,p3,av,rfl,ai,ak,aj⟩:=aK
 obtain⟨D,t,H,I,y,A,rfl,g,n,e⟩:=aP
 obtain⟨a2,aW,rfl,au⟩:=aQ
 refine di' bx (cJ' (show WL _ _ _ _ _ _ (St w0 G0 X1.m _) from ?_))
 refine x' 6 z aR' z z z z z (List.all_eq_true.1 z)<|sg z z<|sg z z<|o'<|am'<|a'<|c'<|ad' [ff,ff,ff,ff,ff,ff,ff,ff,tt,tt,ff] mix (by kernel_rfl) fun hb=>cn (fun _ d=>m' 5 ai' z z z)<|cn (fun _ d=>m' 5 ai' z z z)<|cn (fun _ d=>Y0.ZqD z)<|cn (fun _ d=>g' 1 sc22 z z z) ?_
 obtain⟨bl,br,hr⟩:=hr
 refine aw' (post:=wl' cg' bl) (fun _=>z) (fun _ _=>u' E22 z) (fh' br) z (fun p d=>⟨((m.mono q).mono d),((s.mono q).mono d),((l.mono q).mono d),((bw.mono (mx aH q)).mono d)⟩) (fun v G1 G2 d h=>?_) ?_
 .obtain⟨a5,aY,rfl,ar⟩:=h
  exact⟨_,_,z,ar.mono d⟩
 obtain⟨M,bF,hr⟩:=hr
 refine bz' (f:=21) (φ:=w31u' M) (fun _=>z) (fun v G1 G2 d h=>?_) (fun u p d E=>?_) ?_
 .obtain⟨C,B,K,J,F,x,rfl,k,o,j⟩:=h
  exact⟨_,_,_,_,_,_,z,k.mono d,o.mono d,j.mono d⟩
 .obtain⟨⟨a5,aY,bi,ar⟩,_⟩:=(show (wl' cg' bl) p.m (u 30)/\True from E)
  exact⟨_,_,_,fun _=>u' E21 z,fM' bF,(by simp only[bi] <;> rfl),⟨((m.mono q).mono d),((s.mono q).mono d),((l.mono q).mono d),ar⟩⟩
 refine bC' (φ:=w31u' M) (fun _=>z) (fun v G1 G2 d h=>?_) (fun u p d E=>?_) ?_
 .obtain⟨p7,ay,p8,aA,p9,aw,rfl,ah,ad,ag⟩:=h
  exact⟨_,_,_,_,_,_,z,ah.mono d,ad.mono d,ag.mono d⟩
 .obtain⟨⟨C,B,K,J,F,x,bf,k,o,j⟩,_,_⟩:=(show (w31u' M) p.m (u 31)/\True/\True from E)
  simp only[undFr,bf]
  exact⟨_,f' z,C,B,K,J,F,x,z,k,o,j⟩
 refine bC' (φ:=w31' M.1) (fun _=>z) (fun v G1 G2 d h=>?_) (fun u p d E=>?_) ?_
 .obtain⟨bk,aT,bq,a9,bp,be,rfl,aE,aG,aC⟩:=h
  exact⟨_,_,_,_,_,_,z,aE.mono d,aG.mono d,aC.mono d⟩
 .obtain⟨⟨p7,ay,p8,aA,p9,aw,P,ah,ad,ag⟩,_,_,_⟩:=(show (w31u' M) p.m (u 25)/\True/\True/\True from E)
  simp only[undFr,P]
  exact⟨_,L' z z,p7,ay,p8,aA,p9,aw,z,ah,ad,ag⟩
 refine bZ' (c:=i' M.2.1) (fun _=>z) (fun u p d E=>?_) ?_
 .obtain⟨_,⟨p7,ay,p8,aA,p9,aw,P,ah,ad,ag⟩,_,_,_⟩:=(show True/\(w31u' M) p.m (u 25)/\True/\True/\True from E)
  simp only[undFr,P]
  exact L' z z
 refine bZ' (c:=i' M.2.2) (fun _=>z) (fun u p d E=>?_) ?_
 .obtain⟨_,⟨p7,ay,p8,aA,p9,aw,P,ah,ad,ag⟩,_,_,_⟩:=(show True/\(w31u' M) p.m (u 25)/\True/\True/\True from E)
  simp only[undFr,P]
  exact L' z z
 refine bJ' (fun _=>z) z31<|Chain.tailX5 (fun cc bY bO bV bP X2 Q bc aN aL aR aI=>?_)
 obtain⟨b7,rfl,bv⟩:=bc
 obtain⟨bk,aT,bq,a9,bp,be,rfl,aE,aG,aC⟩:=aN
 obtain⟨p7,ay,p8,aA,p9,aw,rfl,ah,ad,ag⟩:=aL
 obtain⟨C,B,K,J,F,x,rfl,k,o,j⟩:=aR
 obtain⟨a5,aY,rfl,ar⟩:=aI
 refine di' bv (cJ' (show WL _ _ _ _ _ _ (St w0 G0 X2.m _) from ?_))
 refine x' 9 z aR' z z z z z (List.all_eq_true.1 z)<|sg z z<|sg z z<|o'<|am'<|a'<|c'<|WC.drawnB [(6,bk0 b6 (v31' L.1 p4 bn p5 bj p6 bm) 31),(9,bk0 b7 (v31' M.1 bk aT bq a9 bp be) 31)] (lc z (lc z ln)) [ff,tt,tt] mix (by kernel_rfl) fun hb=>cn (fun _ d=>m' 5 ai' z z z)<|dm' z (m' 6 ai' z z z)<|dm' z (m' 9 ai' z z z)<|Chain.tailB hb<|WLT.one (fun w hs=>hs.weaken (lc z (lc z ln)))<|x' 2 z aR' z z z z z (List.all_eq_true.1 z)<|WLT.back<|WLT.one (fun w hs=>hs.weaken (lc z (lc z ln)))<|x' 3 z aR' z z z z z (List.all_eq_true.1 z)<|WLT.back<|WLT.one (fun w hs=>hs.weaken (lc z (lc z ln)))<|x' 4 z aR' z z z z z (List.all_eq_true.1 z)<|WLT.back<|WLT.nil (fun w hs=>hs.weaken (lc z (lc z ln)))<|am'<|a'<|k' ?_
 obtain rfl:_=r:=hr
 exact cv' z (ak' (i:=2) ai' z z z) (ak' (i:=3) ai' z z z) (ak' (i:=4) ai' z z z) ⟨_,_,_,_,_,_,_,_,_,_,_,_,_,_,_,_,_,_,z,(m.mono (mx q Q)),(s.mono (mx q Q)),(l.mono (mx q Q)),(aZ.mono Q),(a6.mono Q),(aX.mono Q),aE,aG,aC⟩
theorem gs'{J I g j q p k l r}(hr:(Zii J I).Ret r):Ctr prog 34 #[.agg ((v31' J g j q p k l)).toArray,i' I] (fun G=>y31' G g j q p k l J) (fun G v=>∃ T S,v = .tuple #[.agg ((v57' r.1.id T r.1.p S)).toArray,.bool r.2.1,.bool r.2.2]/\sl r' G T S r.1.p):=by
 refine A' (args:=[_,_]) (N:=50) func34 z z z (fun X O aB ae=>?_)
 obtain⟨ak,o,h⟩:=ae
 refine sr<|Y' 2 z z z fun U=>O' 4 z z57 z fun L=>sg z z<|sx0 z z<|c'<|sr<|sx0 z z<|R' (fun (⟨x,s,t,F⟩:Zc×Option Addr×Nat×Mem)=>[(1,i' I),(2,pt0 U),(4,pt0 L)]) (fun ⟨x,s,t,F⟩=>Mem.le O F/\sl r' F s t x.p/\(Zdq J I x).Ret r) (fun ⟨x,s,t,F⟩=>St X O F [(2,bk0 U (v31' J g j q p k l) 31),(4,bk0 L (v57' x.id s x.p t) 57)]) ?_ ?_
 .refine s' ?_
  let V:((Zc×Bool×Bool)⊕Zc)->Prop:=fun oo=>((fun ov=>match ov with | .inl rv2=>Cq.ret rv2 | .inr x=>Zdq J I x:((Zc×Bool×Bool)⊕Zc)->Cq (Zc×Bool×Bool)) oo).wp (fun a=>a=r)
  replace hr:(Cq.loop _ _).wp V:=hr
  refine T' (Φ:=V) (fun (⟨M,u,e,f,D⟩:Int×Zc×Option Addr×Nat×Mem)=>((M,u):Int×Zc)) (fun ⟨M,u,e,f,D⟩=>[(1,i' I),(2,pt0 U),(4,pt0 L),(7,i' M)]) (fun ⟨M,u,e,f,D⟩=>Mem.le O D/\sl r' D e f u.p) (fun ⟨M,u,e,f,D⟩=>St X O D [(2,bk0 U (v31' J g j q p k l) 31),(4,bk0 L (v57' u.id e u.p f) 57)]) ⟨0,(Zc.mk 0 []),none,0,O⟩ hr (f4 z z z z) ⟨mr,(ah' _ _)⟩ (w2 z z) ?_
  .intro az gx hx hr
   obtain⟨M,u,e,f,D⟩:=gx
   obtain⟨n,Q⟩:=hx
   refine c'<|sr<|mv z z<|yy (aF' z) z<|yy (g' 2 bc' z z z) z<|yy (K' N' (o.mono n) z) z<|yy (V' z z) z<|nx<|E' hr z (fun ap hr=>?_) (fun ap hr=>?_)
   .refine l'<|a'<|c'<|s'<|sr<|yy (aF' z) z<|yy (g' 2 bc' z z z) z<|mv z z ?_
    obtain⟨x3,Z,hr⟩:=hr
    refine yy (P' N' bK' (o.mono n) z z Z) z<|yy (bl' z) z<|yy (ae' sc3 z (aA' (H' (bS' (aS' (X' o Z))) n))) z<|mv z z<|yy (au' z z) z<|nx<|E' hr z (fun am hr=>?_) (fun am hr=>?_)
    .refine sr<|yy (aF' z) z<|yy (g' 2 bc' z z z) z<|mv z z ?_
     obtain⟨x4,ab,hr⟩:=hr
     refine yy (P' N' bK' (o.mono n) z z ab) z ?_
     obtain⟨ay,aw,al,ad⟩:=bN' (H' (X' o ab) n)
     refine yy (as' _ ag57 z z al) z<|x' 4 z bK' z z z z z (List.all_eq_true.1 z)<|sg z z<|sx0 z z<|k'<|w'<|b'<|b'<|w'<|ap'<|b' ?_
     obtain rfl:_=r:=hr
     exact cv' z (ak' (i:=4) ag57 z z z) z z ⟨_,_,z,ad⟩
    refine l'<|v'<|a'<|n'<|mv z z<|yy (I' z z) z<|sg z z<|o'<|C' ⟨i64.wrap (M+1),u,e,f,D⟩ hr ⟨n,Q⟩ (f4 z z z z) (w2 z z)
   refine U'<|h'<|h'<|y'<|W' ⟨u,e,f,D⟩ ⟨n,Q,hr⟩ (f3 z z z) (w2 z z)
 rintro⟨x,s,t,F⟩ ⟨A,Y,hr⟩
 refine a'<|c'<|sr<|sx0 z z<|R' (fun (⟨H,E,B,K⟩:Zc×Option Addr×Nat×Mem)=>[(4,pt0 L)]) (fun ⟨H,E,B,K⟩=>Mem.le F K/\sl r' K E B H.p/\(Ze6).Ret r) (fun ⟨H,E,B,K⟩=>St X O K [(4,bk0 L (v57' H.id E H.p B) 57)]) ?_ ?_
 .refine s' ?_
  let W:((Zc×Bool×Bool)⊕Zc)->Prop:=fun oo=>((fun ov=>match ov with | .inl rv1=>Cq.ret rv1 | .inr H=>Ze6:((Zc×Bool×Bool)⊕Zc)->Cq (Zc×Bool×Bool)) oo).wp (fun a=>a=r)
  replace hr:(Cq.loop _ _).wp W:=hr
  refine T' (Φ:=W) (fun (⟨P,y,c,d,C⟩:Int×Zc×Option Addr×Nat×Mem)=>((P,y):Int×Zc)) (fun ⟨P,y,c,d,C⟩=>[(1,i' I),(2,pt0 U),(4,pt0 L),(8,i' P)]) (fun ⟨P,y,c,d,C⟩=>Mem.le F C/\sl r' C c d y.p) (fun ⟨P,y,c,d,C⟩=>St X O C [(2,bk0 U (v31' J g j q p k l) 31),(4,bk0 L (v57' y.id c y.p d) 57)]) ⟨0,x,s,t,F⟩ hr (f4 z z z z) ⟨mr,Y⟩ (w2 z z) ?_
  .intro aA gx hx hr
   obtain⟨P,y,c,d,C⟩:=gx
   obtain⟨m,R⟩:=hx
   refine c'<|sr<|mv z z<|yy (aG' z) z<|yy (g' 2 bc' z z z) z<|yy (K' N' (h.mono (mx A m)) z) z<|yy (V' z z) z<|nx<|E' hr z (fun aq hr=>?_) (fun aq hr=>?_)
   .refine l'<|a'<|c'<|s'<|sr<|yy (aG' z) z<|yy (g' 2 bc' z z z) z<|mv z z ?_
    obtain⟨x1,ac,hr⟩:=hr
    refine yy (P' N' bK' (h.mono (mx A m)) z z ac) z<|yy (bl' z) z<|yy (ae' sc3 z (aA' (H' (bS' (aS' (X' h ac))) (mx A m)))) z<|mv z z<|yy (au' z z) z<|nx<|E' hr z (fun an hr=>?_) (fun an hr=>?_)
    .refine sr<|yy (aG' z) z<|yy (g' 2 bc' z z z) z<|mv z z ?_
     obtain⟨x2,aa,hr⟩:=hr
     refine yy (P' N' bK' (h.mono (mx A m)) z z aa) z ?_
     obtain⟨av,ax,ao,ai⟩:=bN' (H' (X' h aa) (mx A m))
     refine yy (as' _ ag57 z z ao) z<|x' 4 z bK' z z z z z (List.all_eq_true.1 z)<|sg z z<|sx0 z z<|k'<|w'<|b'<|b'<|w'<|ap'<|b' ?_
     obtain rfl:_=r:=hr
     exact cv' z (ak' (i:=4) ag57 z z z) z z ⟨_,_,z,ai⟩
    refine l'<|v'<|a'<|n'<|mv z z<|yy (I' z z) z<|sg z z<|o'<|C' ⟨i64.wrap (P+1),y,c,d,C⟩ hr ⟨m,R⟩ (f4 z z z z) (w2 z z)
   refine U'<|h'<|h'<|y'<|W' ⟨y,c,d,C⟩ ⟨m,R,hr⟩ (f1 z) (w1 z)
 rintro⟨H,E,B,K⟩ ⟨ar,au,hr⟩
 refine a'<|sr<|yy (at' (vs:=#[]) (v:=.agg ([i' 0,.slice none 0 0]).toArray) z z (fun _=>by kernel_rfl)) z<|x' 4 z bK' z z z z z (List.all_eq_true.1 z)<|sg z z<|sx0 z z<|k' ?_
 obtain rfl:_=r:=hr
 exact cv' z (ak' (i:=4) ag57 z z z) z z ⟨_,_,z,(ah' r' _)⟩
theorem cK'{l k c d q p m n r}(hr:(Zag l k).Ret r):Ctr prog 12 #[.agg ((v31' l c d q p m n)).toArray,i' k] (fun G=>y31' G c d q p m n l) (w46' r):=by
 refine A' (args:=[_,_]) (N:=27) func12 z z z (fun K J F x=>?_)
 obtain⟨g,u,t⟩:=x
 refine sr<|Y' 2 z z z fun H=>O' 4 z z46 z fun L=>nr<|yy (m' 2 ai' z z z) z<|mv z z ?_
 obtain⟨o,y,hr⟩:=hr
 refine Q' z z (u' E34 z) (gs' y) z (⟨g,u,t⟩) (fun D E j s=>?_)
 obtain⟨f,e,rfl,h⟩:=s
 refine mv z z<|yy (L' z z) z<|yy (L' z z) z<|yy (L' z z) z<|O' 5 z z57 z fun I=>x' 5 z bK' z z z z z (List.all_eq_true.1 z)<|sg z z<|sg z z<|nr<|mv z z<|yy (ck' z) z<|yy (g' 5 sc44 z z z) z<|yy (aH' z) z<|yy (g' 2 bF' z z z) z<|yy (at' (vs:=#[(1,i' k),(2,.slice f o.1.p.length e),(3,.slice c l.vars.length d)]) (v:=.agg ([i' 0,i' k,.slice f o.1.p.length e,.slice c l.vars.length d]).toArray) z z (fun _=>by kernel_rfl)) z<|O' 8 z z46 z fun M=>x' 8 z sz46 z z z z z (List.all_eq_true.1 z)<|nx<|c'<|sr<|mv z z<|nx<|ay' hr z (fun C hr=>?_) (fun C hr=>?_)
 .refine n'<|yy (ed' z) z<|aB' 8 ([i' 1,i' k,.slice f o.1.p.length e,.slice c l.vars.length d]).toArray z sz3 z z z (show 0<4 by decide) z z<|nx<|c'<|sr<|mv z z<|nx<|ay' hr z (fun A hr=>?_) (fun A hr=>?_)
  .refine n'<|yy (ed' z) z<|aB' 8 ([i' 2,i' k,.slice f o.1.p.length e,.slice c l.vars.length d]).toArray z sz3 z z z (show 0<4 by decide) z z<|nr<|yy (m' 8 ag46 z z z) z<|x' 4 z sz46 z z z z z (List.all_eq_true.1 z)<|nx<|k' ?_
   obtain rfl:_=r:=hr
   exact j' z (ak' (i:=4) ag46 z z z) ⟨_,_,_,_,z,h,(g.mono j)⟩
  refine l'<|a'<|sr<|yy (m' 8 ag46 z z z) z<|x' 4 z sz46 z z z z z (List.all_eq_true.1 z)<|nx<|k' ?_
  obtain rfl:_=r:=hr
  exact j' z (ak' (i:=4) ag46 z z z) ⟨_,_,_,_,z,h,(g.mono j)⟩
 refine l'<|a'<|c'<|sr<|mv z z<|nx<|ay' hr z (fun B hr=>?_) (fun B hr=>?_)
 .refine n'<|yy (ed' z) z<|aB' 8 ([i' 2,i' k,.slice f o.1.p.length e,.slice c l.vars.length d]).toArray z sz3 z z z (show 0<4 by decide) z z<|nr<|yy (m' 8 ag46 z z z) z<|x' 4 z sz46 z z z z z (List.all_eq_true.1 z)<|nx<|k' ?_
  obtain rfl:_=r:=hr
  exact j' z (ak' (i:=4) ag46 z z z) ⟨_,_,_,_,z,h,(g.mono j)⟩
 refine l'<|a'<|sr<|yy (m' 8 ag46 z z z) z<|x' 4 z sz46 z z z z z (List.all_eq_true.1 z)<|nx<|k' ?_
 obtain rfl:_=r:=hr
 exact j' z (ak' (i:=4) ag46 z z z) ⟨_,_,_,_,z,h,(g.mono j)⟩
theorem fi'{n e m l r}(hr:(ZeE n e).Ret r):Ctr prog 68 #[.slice m n.length l,.string e] (fun G=>sl Rp.str G m l n) (fun G v=>v=i' r):=by
 refine A' (args:=[_,_]) (N:=19) func68 z z z (fun s j C p=>?_)
 have i:=p
 refine sr<|sx0 z z<|c'<|sr<|sx0 z z<|R' (fun (g:Mem)=>match g with|f=>[]) (fun (g:Mem)=>match g with|f=>Mem.le j f/\(Zeo).Ret r) (fun (g:Mem)=>match g with|f=>St s j f []) ?_ ?_
 .refine s' ?_
  let k:(Int⊕Unit)->Prop:=fun y=>((fun x=>match x with | .inl rv1=>Cq.ret rv1 | .inr ()=>Zeo:(Int⊕Unit)->Cq Int) y).wp (fun a=>a=r)
  replace hr:(Cq.loop _ _).wp k:=hr
  refine T' (Φ:=k) (fun (⟨h,d⟩:Int×Mem)=>(h:Int)) (fun ⟨h,d⟩=>[(0,.slice m n.length l),(1,.string e),(5,i' h)]) (fun ⟨h,d⟩=>Mem.le j d) (fun ⟨h,d⟩=>St s j d []) ⟨0,j⟩ hr (f3 z z z) mr (wk ln) ?_
  .intro B g A hr
   obtain⟨h,d⟩:=g
   have c:=A
   refine c'<|sr<|mv z z<|mv z z<|yy (K' J' (i.mono c) z) z<|yy (V' z z) z<|nx<|E' hr z (fun t hr=>?_) (fun t hr=>?_)
   .refine l'<|a'<|c'<|s'<|sr<|mv z z<|mv z z ?_
    obtain⟨D,o,hr⟩:=hr
    refine yy (P' J' sz9 (i.mono c) z z o) z<|yy (ae' sc9 z (bT' (H' (X' i o) c))) z<|mv z z<|yy (Y0.eqlS aI' z z) z<|nx<|E' hr z (fun q hr=>?_) (fun q hr=>?_)
    .refine sr<|mv z z<|sx0 z z<|k'<|w'<|b'<|b'<|w'<|ap'<|b' (k0' hr z z)
    refine l'<|v'<|a'<|n'<|mv z z<|yy (I' z z) z<|sg z z<|o'<|C' ⟨i64.wrap (h+1),d⟩ hr c (f3 z z z) (wk ln)
   refine U'<|h'<|h'<|y'<|W' d ⟨c,hr⟩ fn (wk ln)
 rintro f ⟨u,hr⟩
 refine a'<|sr<|sx0 z z<|k' (k0' hr z z)
theorem fY'{L k y I H s o v x r}(hr:(Zfd L k y).Ret r):Ctr prog 35 #[.slice I L.length H,.slice s k.length o,.slice v y.length x] (fun G=>sl r' G I H L/\sl Rp.str G s o k/\sl Rp.str G v x y) (wl' Rp.str r):=by
 refine A' (args:=[_,_,_]) (N:=40) func35 z z z (fun Y X O Z=>?_)
 obtain⟨ah,j,Q⟩:=Z
 refine sr<|sg z z<|nr<|aD' (e:=9) (r:=Rp.str) (vs:=#[]) (cs:=[]) ([]:List ByteArray) z z z z z (by decide) (fun _=>by kernel_rfl) (z) (key:=999) z (by rw[O]; rfl) fun p2 K l am=>sx0 z z<|c'<|sr<|sx0 z z<|R' (fun (⟨i,t,p,n,D⟩:(List ByteArray)×Option Addr×Nat×Option Ow×Mem)=>[(7,.slice t i.length p)]) (fun ⟨i,t,p,n,D⟩=>Mem.le K D/\sl Rp.str D t p i/\Tok 1 9 (.slice t i.length p) i.length n/\(Zc8 i).Ret r) (fun ⟨i,t,p,n,D⟩=>St Y X D [(1007,n)]) ?_ ?_
 .refine s' ?_
  let F:(List ByteArray)->Prop:=fun oo=>((fun ov=>match ov with|i=>Zc8 i:(List ByteArray)->Cq (List ByteArray)) oo).wp (fun a=>a=r)
  replace hr:(Cq.loop _ _).wp F:=hr
  refine T' (Φ:=F) (fun (⟨c,g,f,d,B,m⟩:(List ByteArray)×Option Addr×Nat×Option Ow×Int×Mem)=>((c,B):(List ByteArray)×Int)) (fun ⟨c,g,f,d,B,m⟩=>[(0,.slice I L.length H),(1,.slice s k.length o),(2,.slice v y.length x),(7,.slice g c.length f),(8,i' B)]) (fun ⟨c,g,f,d,B,m⟩=>Mem.le K m/\sl Rp.str m g f c/\Tok 1 9 (.slice g c.length f) c.length d) (fun ⟨c,g,f,d,B,m⟩=>St Y X m [(1007,d)]) ⟨[],p2,0,none,0,K⟩ hr (f5 z z z z z) ⟨mr,am,cc'⟩ (wk (lw ln)) ?_
  .intro af gx hx hr
   obtain⟨c,g,f,d,B,m⟩:=gx
   obtain⟨h,E,A⟩:=hx
   refine c'<|sr<|mv z z<|mv z z<|yy (K' J' (j.mono (mx l h)) z) z<|yy (V' z z) z<|nx<|E' hr z (fun an hr=>?_) (fun an hr=>?_)
   .refine l'<|a'<|c'<|s'<|aP' (fun (⟨u,C⟩:Bool×Mem)=>[(0,.slice I L.length H),(1,.slice s k.length o),(2,.slice v y.length x),(7,.slice g c.length f),(8,i' B),(31,.bool u)]) (fun ⟨u,C⟩=>Mem.le m C/\(ZaR k c B u).wp (Out af F)) (fun ⟨u,C⟩=>St Y X C [(1007,d)]) ?_ ?_
    .refine n'<|mv z z ?_
     obtain⟨ay,ab,hr⟩:=hr
     refine B' z z (u' E67 z) (en' ab) z ((ah.mono (mx l h)))<|mv z z<|yy (az' aO' underlying149 z) z ?_
     obtain⟨ae,hr⟩:=hr
     refine yy (Y0.shr z z ae) z<|yy (Y0.and z z) z<|ao' hr z (au' z z) z (fun ak hr=>?_) (fun ak hr=>?_)
     .refine mv z z<|gy z z (f' z) z<|gy z z (f' z) z<|gy z z (f' z) z ?_
      obtain⟨x2,S,hr⟩:=hr
      refine gy z z (P' J' sz9 (j.mono (mx l h)) z z S) z<|gy z z (ae' sc9 z (bT' (H' (X' j S) (mx l h)))) z ?_
      obtain⟨ad,U,hr⟩:=hr
      refine B' (D' z z) z (u' E68 z) (fi' U) z ((Q.mono (mx l h)))<|gy z z (V' z z) z<|yy (t' z z) z<|o'<|al' ⟨decide (ad<0),m⟩ ⟨mr,hr⟩ (f6 z z z z z z) (w1 z)
     refine mv z z<|sn7 z<|yy (p' z z) z<|o'<|al' ⟨false,m⟩ ⟨mr,hr⟩ (f6 z z z z z z) (w1 z)
    rintro⟨u,C⟩ ⟨q,hr⟩
    refine ay' hr z (fun ag hr=>?_) (fun ag hr=>?_)
    .refine n'<|mv z z<|mv z z<|mv z z ?_
     obtain⟨M,T,hr⟩:=hr
     refine yy (P' J' sz9 (j.mono (mx (mx l h) q)) z z T) z<|yy (ae' sc9 z (bT' (H' (X' j T) (mx (mx l h) q)))) z<|aD' (e:=9) (r:=Rp.str) (vs:=#[(0,.string M)]) (cs:=[.string M]++([])) ([M]:List ByteArray) z z z z z (by decide) (fun _=>by kernel_rfl) ⟨[.string M],[],z,z,z⟩ (key:=999) z (by rw[O]; rfl) (fun p3 az J al=>?_)
     obtain⟨aa,hr⟩:=hr
     refine aW' (r:=Rp.str) 1007 z z J' el9 z (by decide) z z (E.mono (mx q J)) z (by rw[O]; rfl) A al aa fun p4 ac V ai P ao W=>sg z z<|o'<|v'<|a'<|n'<|mv z z<|yy (I' z z) z<|sg z z<|o'<|C' ⟨(c++[M]),p4,ac,V,i64.wrap (B+1),ai⟩ hr ⟨(mx (mx (mx h q) J) P),ao,W⟩ (f5 z z z z z) (w1 z)
    refine l'<|v'<|a'<|n'<|mv z z<|yy (I' z z) z<|sg z z<|o'<|C' ⟨c,g,f,d,i64.wrap (B+1),C⟩ hr ⟨(mx h q),(E.mono q),A⟩ (f5 z z z z z) (w1 z)
   refine U'<|h'<|h'<|y'<|W' ⟨c,g,f,d,m⟩ ⟨h,E,A,hr⟩ (f1 z) (w1 z)
 rintro⟨i,t,p,n,D⟩ ⟨ap,R,aj,hr⟩
 refine a'<|sr<|mv z z<|sx0 z z<|k' ?_
 obtain rfl:_=r:=hr
 exact j' z z ⟨_,_,z,R⟩
theorem gD'{m r}(hr:(Zhw m).Ret r):Ctr prog 70 #[i' m] (fun G=>True) (wlt' r' r):=by
 refine A' (args:=[_]) (N:=18) func70 z z z fun Q F A H=>sr<|sg z z<|sx0 z z<|c'<|sr<|mv z z<|ao' hr z (V' z z) z (fun y hr=>?_) (fun y hr=>?_)
 .refine mv z z<|sn2 z<|yy (t' z z) z<|nx<|av' z<|sr<|sg z z<|sx0 z z<|k'<|b' ?_
  obtain rfl:_=r:=hr
  exact bE' z z z ⟨_,_,z,(ah' r' _)⟩
 refine mv z z<|gy z z (f' z) z<|gy z z (aV' z z) z<|yy (p' z z) z<|nx<|E' hr z (fun B hr=>?_) (fun B hr=>?_)
 .exact (show False from hr).elim
 refine l'<|a'<|sr<|yy (at' (vs:=#[]) (v:=.agg (vecG (Value.int .i64) 8 (fun _=>0)).toArray) z z (fun _=>by kernel_rfl)) z<|O' 4 z z110 z fun K=>x' 4 z sz110 z z z (M' _ _ _) (M' _ _ _) (fun u s=>Rp.one (cy' .i64 8) (G:=F) (x:=(fun _=>0)) (cs:=vecG (Value.int .i64) 8 (fun _=>0)) z u (by first|simpa using s|simpa [Value.cells] using s))<|nr<|mv z z ?_
 obtain⟨q,hr⟩:=hr
 refine yy (aQ' ag' sz3 z z q) z<|aB' 4 (vecG (Value.int .i64) 8 (setF (fun _=>0) m.toNat 1)).toArray z sz3 z z z (by first|(rw[M']; omega)|(show _<(vecG _ _ _).toArray.size; rw[M']; omega)) z (co' _ _ _ _ _)<|nx<|c'<|ad' [ff,ff] mix (by kernel_rfl) (fun M=>?_)
 obtain⟨j,p,hr⟩:=hr
 refine aw' (post:=w101' j) (fun _=>z) (fun _ _=>u' E38 z) (cP' p) z (fun L n=>trivial) (fun v R P n h=>?_) ?_
 .obtain⟨f,i,c,g,rfl,k,l⟩:=h
  exact⟨_,_,_,_,z,k.mono n,l.mono n⟩
 refine cu (fun _ _ n=>m' 4 aT' z z (M' _ _ _))<|bn' (d:=14) (post:=w101' j) (fun E I D o=>?_)
 obtain⟨f,i,c,g,rfl,k,l⟩:=o
 refine yy (at' (vs:=#[(0,.agg ((v101' j f i c g)).toArray),(1,.agg (vecG (Value.int .i64) 8 (setF (fun _=>0) m.toNat 1)).toArray)]) (v:=.agg (((v101' j f i c g):List Value)++(vecG (Value.int .i64) 8 (setF (fun _=>0) m.toNat 1))).toArray) z z (fun _=>by kernel_rfl)) z<|aD' (e:=152) (r:=r') (vs:=#[(0,.agg (((v101' j f i c g):List Value)++(vecG (Value.int .i64) 8 (setF (fun _=>0) m.toNat 1))).toArray)]) (cs:=(((v101' j f i c g):List Value)++(vecG (Value.int .i64) 8 (setF (fun _=>0) m.toNat 1)))++([])) ([(Za.mk j (setF (fun _=>0) m.toNat 1))]:List Za) z z z z z (by decide) (fun _=>by kernel_rfl) ⟨((v101' j f i c g):List Value)++(vecG (Value.int .i64) 8 (setF (fun _=>0) m.toNat 1)),[],z,⟨(v101' j f i c g),vecG (Value.int .i64) 8 (setF (fun _=>0) m.toNat 1),z,⟨(v99' j.num f i),(v99' j.den c g),z,⟨[.bool j.num.neg],[.slice f j.num.mag.length i],z,z,⟨_,z,k⟩⟩,⟨[.bool j.den.neg],[.slice c j.den.mag.length g],z,z,⟨_,z,l⟩⟩⟩,z⟩,z⟩ (key:=999) z (by rw[A]; rfl) fun O J C t=>sg z z<|sg z z<|o'<|am'<|a'<|k' ?_
 obtain rfl:_=r:=hr
 exact bE' z z z ⟨_,_,z,t⟩
theorem fI'{n q h u r}(hr:(Zeg n q).Ret r):Ctr prog 112 #[.agg (vecG (Value.int .i64) 8 n).toArray,.agg (h).toArray] (fun G=>ArRd (Rp.sl r') 8 G h u q) (fun G v=>v = .bool r):=by
 refine A' (args:=[_,_]) (N:=21) func112 z z z (fun x i K o=>?_)
 have m:=o
 refine sr<|Y' 2 z z z fun p=>Y' 3 z z z fun y=>sx0 z z<|c'<|sr<|sx0 z z<|R' (fun (g:Mem)=>match g with|e=>[]) (fun (g:Mem)=>match g with|e=>Mem.le i e/\(ZcA).Ret r) (fun (g:Mem)=>match g with|e=>St x i e []) ?_ ?_
 .refine s' ?_
  let j:(Bool⊕Unit)->Prop:=fun F=>((fun E=>match E with | .inl rv1=>Cq.ret rv1 | .inr ()=>ZcA:(Bool⊕Unit)->Cq Bool) F).wp (fun a=>a=r)
  replace hr:(Cq.loop _ _).wp j:=hr
  refine T' (Φ:=j) (fun (⟨f,c⟩:Int×Mem)=>(f:Int)) (fun ⟨f,c⟩=>[(2,pt0 p),(3,pt0 y),(5,i' f)]) (fun ⟨f,c⟩=>Mem.le i c) (fun ⟨f,c⟩=>St x i c [(2,bk0 p (vecG (Value.int .i64) 8 n) 110),(3,bk0 y (h) 144)]) ⟨0,i⟩ hr (f3 z z z) mr (w2 z z) ?_
  .intro I g H hr
   obtain⟨f,c⟩:=g
   have d:=H
   refine c'<|sr<|mv z z<|yy (V' z z) z<|nx<|E' hr z (fun C hr=>?_) (fun C hr=>?_)
   .refine l'<|a'<|c'<|s'<|sr<|mv z z ?_
    obtain⟨k,hr⟩:=hr
    refine yy (aQ' ag' sz3 z z k) z<|yy (g' 2 sc3 z z (bo' _ _ _ k)) z<|ao' hr z (aZ' z z) z (fun B hr=>?_) (fun B hr=>?_)
    .refine mv z z<|gy z z (f' z) z ?_
     obtain⟨M,l,hr⟩:=hr
     refine gy z z (dh' cz' sz44 z z (dI' (m.mono d) l)) z ?_
     obtain⟨L,J,s,A⟩:=dg' (ArRd.at (m.mono d) l)
     refine gy z z (g' 3 sc44 z z s) z<|gy z z (K' F' A z) z<|gy z z (au' z z) z<|yy (t' z z) z<|nx<|E' hr z (fun t hr=>?_) (fun t hr=>?_)
     .exact (show False from hr).elim
     refine l'<|v'<|a'<|n'<|mv z z<|yy (I' z z) z<|sg z z<|o'<|C' ⟨i64.wrap (f+1),c⟩ hr d (f3 z z z) (w2 z z)
    refine mv z z<|sn5 z<|yy (p' z z) z<|nx<|aK' z<|l'<|v'<|a'<|n'<|mv z z<|yy (I' z z) z<|sg z z<|o'<|C' ⟨i64.wrap (f+1),c⟩ hr d (f3 z z z) (w2 z z)
   refine U'<|h'<|h'<|y'<|W' c ⟨d,hr⟩ fn (wk ln)
 rintro e ⟨D,hr⟩
 refine a'<|sr<|sx0 z z<|k' (k0' hr z z)
theorem gE'{p1 q1 S Y U W r}(hr:(ZjR p1 q1).Ret r):Ctr prog 113 #[.slice S p1.length Y,.slice U q1.length W] (fun G=>sl r' G S Y p1/\sl r' G U W q1) (wlt' r' r):=by
 refine A' (args:=[_,_]) (N:=39) func113 z z z (fun w0 G0 aw aq=>?_)
 obtain⟨D,aC⟩:=aq
 refine sr<|sg z z<|sg z z<|nr<|aD' (e:=152) (r:=r') (vs:=#[]) (cs:=[]) ([]:List Za) z z z z z (by decide) (fun _=>by kernel_rfl) (z) (key:=999) z (by rw[aw]; rfl) fun p2 V n aA=>sx0 z z<|c'<|sr<|sx0 z z<|R' (fun (⟨m,q,p,A⟩:(List Za)×Option Addr×Nat×Mem)=>[(6,.slice q m.length p)]) (fun ⟨m,q,p,A⟩=>Mem.le V A/\sl r' A q p m/\(ZfO m).Ret r) (fun ⟨m,q,p,A⟩=>St w0 G0 A []) ?_ ?_
 .refine s' ?_
  let T:(((List Za)×Int)⊕(List Za))->Prop:=fun oo=>((fun ov=>match ov with | .inl rv1=>Cq.ret rv1 | .inr m=>ZfO m:(((List Za)×Int)⊕(List Za))->Cq ((List Za)×Int)) oo).wp (fun a=>a=r)
  replace hr:(Cq.loop _ _).wp T:=hr
  refine T' (Φ:=T) (fun (⟨l,k,i,H,t⟩:(List Za)×Option Addr×Nat×Int×Mem)=>((l,H):(List Za)×Int)) (fun ⟨l,k,i,H,t⟩=>[(0,.slice S p1.length Y),(1,.slice U q1.length W),(6,.slice k l.length i),(7,i' H)]) (fun ⟨l,k,i,H,t⟩=>Mem.le V t/\sl r' t k i l) (fun ⟨l,k,i,H,t⟩=>St w0 G0 t []) ⟨[],p2,0,0,V⟩ hr (f4 z z z z) ⟨mr,aA⟩ (wk ln) ?_
  .intro aS gx hx hr
   obtain⟨l,k,i,H,t⟩:=gx
   obtain⟨g,K⟩:=hx
   refine c'<|sr<|mv z z<|mv z z<|yy (K' F' (D.mono (mx n g)) z) z<|yy (V' z z) z<|nx<|E' hr z (fun aF hr=>?_) (fun aF hr=>?_)
   .refine l'<|a'<|c'<|s'<|c'<|ad' [ff,ff,ff,ff,ff,ff,ff,ff,ff,ff,ff,ff,ff,ff,tt] mix (by kernel_rfl) fun hb=>cn (fun _ f=>f' z)<|cn (fun _ f=>f' z) ?_
    obtain⟨x1,ak,hr⟩:=hr
    refine cn (fun _ f=>P' F' bh' ((D.mono (mx n g)).mono f) z z ak)<|cn (fun _ f=>bB' z) ?_
    obtain⟨ag,ah,ai,aj,ar,C,F⟩:=cN' (H' (bS' (aS' (X' D ak))) (mx n g))
    refine cn (fun _ f=>as' _ bg' z z (fun j v hv=>f _ _ _ (ar j v hv)))<|cn (fun _ f=>f' z)<|cn (fun _ f=>f' z) ?_
    obtain⟨x2,af,hr⟩:=hr
    refine cn (fun _ f=>P' F' bh' ((D.mono (mx n g)).mono f) z z af)<|cn (fun _ f=>aL' z)<|cn (fun _ f=>as' _ aT' z (M' _ _ _) (cG' (H' (H' (bP' (aS' (X' D af))) (mx n g)) f)))<|cn (fun _ f=>f' z) ?_
    obtain⟨o,am,hr⟩:=hr
    refine aw' (post:=wlt' r' o) (fun _=>z) (fun _ _=>u' E41 z) (ey' am) z (fun L f=>⟨(C.mono f),(F.mono f),((aC.mono (mx n g)).mono f)⟩) (fun v G1 G2 f h=>?_) ?_
    .obtain⟨y,x,rfl,s⟩:=h
     exact⟨_,_,z,s.mono f⟩
    refine bC' (φ:=wlt' r' o) (fun _=>z) (fun v G1 G2 f h=>?_) (fun u L f X=>?_) ?_
    .obtain⟨Z,I,rfl,E⟩:=h
     exact⟨_,_,z,E.mono f⟩
    .obtain⟨⟨y,x,aa,s⟩,_⟩:=(show (wlt' r' o) L.m (u 29)/\True from X)
     simp only[undFr,aa]
     exact⟨_,f' z,y,x,z,s⟩
    refine bC' (φ:=wl' r' o.1) (fun _=>z) (fun v G1 G2 f h=>?_) (fun u L f X=>?_) ?_
    .obtain⟨p4,ax,rfl,R⟩:=h
     exact⟨_,_,z,R.mono f⟩
    .obtain⟨⟨Z,I,B,E⟩,_,_⟩:=(show (wlt' r' o) L.m (u 17)/\True/\True from X)
     simp only[undFr,B]
     exact⟨_,L' z z,Z,I,z,E⟩
    refine bZ' (c:=i' o.2) (fun _=>z) (fun u L f X=>?_) ?_
    .obtain⟨_,⟨Z,I,B,E⟩,_,_⟩:=(show True/\(wlt' r' o) L.m (u 17)/\True/\True from X)
     simp only[undFr,B]
     exact L' z z
    refine dM' (d:=30) (post:=wl' r' o.1) (d':=17) (post':=wlt' r' o) (d'':=29) (post'':=wlt' r' o) (fun aI aO aP aT J P Q M=>?_)
    obtain⟨p4,ax,rfl,R⟩:=P
    obtain⟨Z,I,rfl,E⟩:=Q
    obtain⟨y,x,rfl,s⟩:=M
    refine sg z z<|sg z z<|o'<|am'<|a'<|c'<|sr<|mv z z<|yy (bj' z z) z<|nx<|E' hr z (fun ay hr=>?_) (fun ay hr=>?_)
    .exact (show False from hr).elim
    refine l'<|a'<|n'<|mv z z<|mv z z ?_
    obtain⟨au,al,hr⟩:=hr
    refine Q' z z (u' E114 z) (ew' al) z (⟨(K.mono J),R⟩) (fun aM az ac O=>?_)
    obtain⟨ap,ao,rfl,an⟩:=O
    refine sg z z<|o'<|v'<|a'<|n'<|mv z z<|yy (I' z z) z<|sg z z<|o'<|C' ⟨au,ap,ao,i64.wrap (H+1),az⟩ hr ⟨(mx (mx g J) ac),an⟩ (f4 z z z z) (wk ln)
   refine U'<|h'<|h'<|y'<|W' ⟨l,k,i,t⟩ ⟨g,K,hr⟩ (f1 z) (wk ln)
 rintro⟨m,q,p,A⟩ ⟨aG,ae,hr⟩
 refine a'<|sr<|mv z z<|sg z z<|sx0 z z<|k' ?_
 obtain rfl:_=r:=hr
 exact bE' z z z ⟨_,_,z,ae⟩
theorem gm'{A al n v p aB r}(hr:(ZgG A al).Ret r):Ctr prog 71 #[.slice n A.length v,.agg (p).toArray] (fun G=>sl r' G n v A/\ArRd (Rp.sl r') 8 G p aB al) (wlt' r' r):=by
 refine A' (args:=[_,_]) (N:=67) func71 z z z (fun w0 G0 a2 aZ=>?_)
 obtain⟨m,Q⟩:=aZ
 refine sr<|Y' 3 z z z fun T=>sg z z<|sx0 z z<|c'<|sr<|mv z z ?_
 obtain⟨bo,aR,hr⟩:=hr
 refine B' z z (u' E111 z) (eV' aR) z (m)<|yy (aZ' z z) z<|nx<|E' hr z (fun bf hr=>?_) (fun bf hr=>?_)
 .exact (show False from hr).elim
 refine l'<|a'<|sr<|aD' (e:=152) (r:=r') (vs:=#[]) (cs:=[]) ([]:List Za) z z z z z (by decide) (fun _=>by kernel_rfl) (z) (key:=999) z (by rw[a2]; rfl) fun p1 ao i a6=>sx0 z z<|c'<|sr<|sx0 z z<|R' (fun (⟨C,K,L,V⟩:(List Za)×Option Addr×Nat×Mem)=>[(6,.slice K C.length L)]) (fun ⟨C,K,L,V⟩=>Mem.le ao V/\sl r' V K L C/\(Zeb C).Ret r) (fun ⟨C,K,L,V⟩=>St w0 G0 V []) ?_ ?_
 .refine s' ?_
  let W:(((List Za)×Int)⊕(List Za))->Prop:=fun oo=>((fun ov=>match ov with | .inl rv1=>Cq.ret rv1 | .inr C=>Zeb C:(((List Za)×Int)⊕(List Za))->Cq ((List Za)×Int)) oo).wp (fun a=>a=r)
  replace hr:(Cq.loop _ _).wp W:=hr
  refine T' (Φ:=W) (fun (⟨g,f,d,h,M⟩:(List Za)×Option Addr×Nat×Int×Mem)=>((g,h):(List Za)×Int)) (fun ⟨g,f,d,h,M⟩=>[(0,.slice n A.length v),(3,pt0 T),(6,.slice f g.length d),(7,i' h)]) (fun ⟨g,f,d,h,M⟩=>Mem.le ao M/\sl r' M f d g) (fun ⟨g,f,d,h,M⟩=>St w0 G0 M [(3,bk0 T (p) 144)]) ⟨[],p1,0,0,ao⟩ hr (f4 z z z z) ⟨mr,a6⟩ (w1 z) ?_
  .intro aG gx hx hr
   obtain⟨g,f,d,h,M⟩:=gx
   obtain⟨c,Y⟩:=hx
   refine c'<|sr<|mv z z<|mv z z<|yy (K' F' (m.mono (mx i c)) z) z<|yy (V' z z) z<|nx<|E' hr z (fun a4 hr=>?_) (fun a4 hr=>?_)
   .refine l'<|a'<|c'<|s'<|c'<|c'<|ad' [ff,ff,ff,ff,ff,ff] mix (by kernel_rfl) fun hb=>cn (fun _ S=>f' z)<|cn (fun _ S=>f' z) ?_
    obtain⟨x1,aN,hr⟩:=hr
    refine cn (fun _ S=>P' F' bh' ((m.mono (mx i c)).mono S) z z aN)<|cn (fun _ S=>aL' z)<|cn (fun _ S=>as' _ aT' z (M' _ _ _) (cG' (H' (H' (bP' (aS' (X' m aN))) (mx i c)) S)))<|cn (fun _ S=>m' 3 ag144 z z (cA' (Q.mono (mx i c))))<|af' hb ?_
    obtain⟨bm,aS,hr⟩:=hr
    refine B' z z (u' E112 z) (fI' aS) z ((Q.mono (mx i c)))<|o'<|am'<|a'<|ay' hr z (fun a9 hr=>?_) (fun a9 hr=>?_)
    .refine U'<|h'<|y'<|a'<|n'<|mv z z<|yy (I' z z) z<|sg z z<|o'<|C' ⟨g,f,d,i64.wrap (h+1),M⟩ hr ⟨c,Y⟩ (f4 z z z z) (w1 z)
    refine l'<|a'<|sr<|mv z z<|mv z z ?_
    obtain⟨x2,aD,hr⟩:=hr
    refine yy (P' F' bh' (m.mono (mx i c)) z z aD) z<|yy (bB' z) z ?_
    obtain⟨aK,aL,aM,aJ,a1,aa,Z⟩:=cN' (H' (bS' (aS' (X' m aD))) (mx i c))
    refine yy (as' _ bg' z z a1) z ?_
    obtain⟨a5,aX,hr⟩:=hr
    refine Q' z z (u' E43 z) (eB' aX) z (⟨aa,Z⟩) (fun bj ak F ah=>?_)
    obtain⟨aP,aY,rfl,aQ⟩:=ah
    refine sx0 z z<|c'<|sr<|sx0 z z<|R' (fun (⟨B,J,O,U⟩:(List Za)×Option Addr×Nat×Mem)=>[(0,.slice n A.length v),(3,pt0 T),(6,.slice f g.length d),(7,i' h),(8,.slice J B.length O)]) (fun ⟨B,J,O,U⟩=>Mem.le ak U/\sl r' U J O B/\(Zec g h B).wp (Out aG W)) (fun ⟨B,J,O,U⟩=>St w0 G0 U [(3,bk0 T (p) 144)]) ?_ ?_
    .refine s' ?_
     let X:(((List Za)×Int)⊕(List Za))->Prop:=fun oo=>((fun ov=>match ov with | .inl rv2=>Cq.ret (.inr (.inl rv2)) | .inr B=>Zec g h B:(((List Za)×Int)⊕(List Za))->Cq (((List Za)×Int)⊕(((List Za)×Int)⊕(List Za)))) oo).wp (Out aG W)
     replace hr:(Cq.loop _ _).wp X:=hr
     refine T' (Φ:=X) (fun (⟨u,k,l,j,y⟩:(List Za)×Option Addr×Nat×Int×Mem)=>((u,j):(List Za)×Int)) (fun ⟨u,k,l,j,y⟩=>[(0,.slice n A.length v),(3,pt0 T),(6,.slice f g.length d),(7,i' h),(8,.slice k u.length l),(9,i' j)]) (fun ⟨u,k,l,j,y⟩=>Mem.le ak y/\sl r' y k l u) (fun ⟨u,k,l,j,y⟩=>St w0 G0 y [(3,bk0 T (p) 144)]) ⟨a5,aP,aY,0,ak⟩ hr (f6 z z z z z z) ⟨mr,aQ⟩ (w1 z) ?_
     .intro aF gx hx hr
      obtain⟨u,k,l,j,y⟩:=gx
      obtain⟨H,ac⟩:=hx
      refine c'<|sr<|mv z z<|yy (V' z z) z<|nx<|E' hr z (fun a3 hr=>?_) (fun a3 hr=>?_)
      .refine l'<|a'<|c'<|s'<|sr<|sx0 z z<|R' (fun (⟨s,E,I,R⟩:(List Za)×Option Addr×Nat×Mem)=>[(0,.slice n A.length v),(3,pt0 T),(6,.slice f g.length d),(7,i' h),(8,.slice E s.length I),(9,i' j)]) (fun ⟨s,E,I,R⟩=>Mem.le y R/\sl r' R E I s/\(Zed j s).wp (Out aF X)) (fun ⟨s,E,I,R⟩=>St w0 G0 R [(3,bk0 T (p) 144)]) ?_ ?_
       .refine s' ?_
        let ar:(((List Za)×Int)⊕(List Za))->Prop:=fun oo=>((fun ov=>match ov with | .inl rv3=>Cq.ret (.inr (.inl rv3)) | .inr s=>Zed j s:(((List Za)×Int)⊕(List Za))->Cq (((List Za)×Int)⊕(((List Za)×Int)⊕(List Za)))) oo).wp (Out aF X)
        replace hr:(Cq.loop _ _).wp ar:=hr
        refine T' (Φ:=ar) (fun (⟨x,o,t,q,P⟩:(List Za)×Option Addr×Nat×Int×Mem)=>((x,q):(List Za)×Int)) (fun ⟨x,o,t,q,P⟩=>[(0,.slice n A.length v),(3,pt0 T),(6,.slice f g.length d),(7,i' h),(8,.slice o x.length t),(9,i' j),(10,i' q)]) (fun ⟨x,o,t,q,P⟩=>Mem.le y P/\sl r' P o t x) (fun ⟨x,o,t,q,P⟩=>St w0 G0 P [(3,bk0 T (p) 144)]) ⟨u,k,l,0,y⟩ hr (f7 z z z z z z z) ⟨mr,ac⟩ (w1 z) ?_
        .intro bn gx hx hr
         obtain⟨x,o,t,q,P⟩:=gx
         obtain⟨D,ad⟩:=hx
         refine c'<|sr<|mv z z<|mv z z<|mv z z<|mv z z ?_
         obtain⟨x3,aI,hr⟩:=hr
         refine yy (P' F' bh' (m.mono (mx (mx (mx (mx i c) F) H) D)) z z aI) z<|yy (aL' z) z ?_
         obtain⟨aH,hr⟩:=hr
         refine yy (Y0.idxA ag' sz3 z z aH) z<|yy (ae' sc3 z (AtK.vecAt (H' (bP' (aS' (X' m aI))) (mx (mx (mx (mx i c) F) H) D)) aH)) z<|yy (V' z z) z<|nx<|E' hr z (fun bc hr=>?_) (fun bc hr=>?_)
         .refine l'<|a'<|c'<|s'<|sr<|mv z z<|mv z z ?_
          obtain⟨x4,aE,hr⟩:=hr
          refine yy (dh' cz' sz44 z z (dI' (Q.mono (mx (mx (mx (mx i c) F) H) D)) aE)) z ?_
          obtain⟨p2,bp,ba,a8⟩:=dg' (ArRd.at (Q.mono (mx (mx (mx (mx i c) F) H) D)) aE)
          refine yy (g' 3 sc44 z z ba) z ?_
          obtain⟨bd,aW,hr⟩:=hr
          refine Q' z z (u' E113 z) (gE' aW) z (⟨ad,a8⟩) (fun bi be aA af=>?_)
          obtain⟨aq,au,rfl,aj⟩:=af
          refine mv z z<|yy (L' z z) z<|yy (L' z z) z<|sg z z<|sx0 z z<|c'<|sr<|mv z z<|yy (bj' z z) z<|nx<|E' hr z (fun a7 hr=>?_) (fun a7 hr=>?_)
          .exact (show False from hr).elim
          refine l'<|a'<|n'<|mv z z<|sg z z<|o'<|v'<|a'<|n'<|mv z z<|yy (I' z z) z<|sg z z<|o'<|C' ⟨bd.1,aq,au,i64.wrap (q+1),be⟩ hr ⟨(mx D aA),aj⟩ (f7 z z z z z z z) (w1 z)
         refine U'<|h'<|h'<|y'<|W' ⟨x,o,t,P⟩ ⟨D,ad,hr⟩ (f6 z z z z z z) (w1 z)
       rintro⟨s,E,I,R⟩ ⟨az,aw,hr⟩
       refine v'<|a'<|n'<|mv z z<|yy (I' z z) z<|sg z z<|o'<|C' ⟨s,E,I,i64.wrap (j+1),R⟩ hr ⟨(mx H az),aw⟩ (f6 z z z z z z) (w1 z)
      refine U'<|h'<|h'<|y'<|W' ⟨u,k,l,y⟩ ⟨H,ac,hr⟩ (f5 z z z z z) (w1 z)
    rintro⟨B,J,O,U⟩ ⟨ab,aC,hr⟩
    refine a'<|n'<|mv z z<|mv z z ?_
    obtain⟨a0,aO,hr⟩:=hr
    refine Q' z z (u' E114 z) (ew' aO) z (⟨(Y.mono (mx F ab)),aC⟩) (fun bk bb ay ae=>?_)
    obtain⟨aV,aU,rfl,aT⟩:=ae
    refine sg z z<|o'<|v'<|a'<|n'<|mv z z<|yy (I' z z) z<|sg z z<|o'<|C' ⟨a0,aV,aU,i64.wrap (h+1),bb⟩ hr ⟨(mx (mx (mx c F) ab) ay),aT⟩ (f4 z z z z) (w1 z)
   refine U'<|h'<|h'<|y'<|W' ⟨g,f,d,M⟩ ⟨c,Y,hr⟩ (f1 z) (wk ln)
 rintro⟨C,K,L,V⟩ ⟨bg,ax,hr⟩
 refine a'<|sr<|mv z z<|sg z z<|sx0 z z<|k' ?_
 obtain rfl:_=r:=hr
 exact bE' z z z ⟨_,_,z,ax⟩
theorem fp'{B h s D C l i q x r}(hr:(Zc9 B h s).Ret r):Ctr prog 37 #[.slice D B.length C,.slice l h.length i,.slice q s.length x] (fun G=>sl r' G D C B/\sl Rp.str G l i h/\sl Rp.str G q x s) (wl' r' r):=by
 refine A' (args:=[_,_,_]) (N:=41) func37 z z z (fun w0 j au W=>?_)
 obtain⟨ad,k,R⟩:=W
 refine sr<|sg z z<|nr<|yy (at' (vs:=#[]) (v:=.agg (([.slice none 0 0,.slice none 0 0,.slice none 0 0,.slice none 0 0,.slice none 0 0,.slice none 0 0,.slice none 0 0,.slice none 0 0]:List Value)).toArray) z z (fun _=>by kernel_rfl)) z<|O' 7 z z144 z fun P=>x' 7 z sz144 z z z (cA' (show ArRd (Rp.sl r') 8 j ([.slice none 0 0,.slice none 0 0,.slice none 0 0,.slice none 0 0,.slice none 0 0,.slice none 0 0,.slice none 0 0,.slice none 0 0]:List Value) () _ from cU' (G:=j) (r:=(Rp.sl r')) (n:=8) (zc:=[.slice none 0 0]) (z:=[]) ⟨_,z,(ah' _ _)⟩)) (cA' (show ArRd (Rp.sl r') 8 j ([.slice none 0 0,.slice none 0 0,.slice none 0 0,.slice none 0 0,.slice none 0 0,.slice none 0 0,.slice none 0 0,.slice none 0 0]:List Value) () _ from cU' (G:=j) (r:=(Rp.sl r')) (n:=8) (zc:=[.slice none 0 0]) (z:=[]) ⟨_,z,(ah' _ _)⟩)) (ArRd.one (show ArRd (Rp.sl r') 8 j ([.slice none 0 0,.slice none 0 0,.slice none 0 0,.slice none 0 0,.slice none 0 0,.slice none 0 0,.slice none 0 0,.slice none 0 0]:List Value) () _ from cU' (G:=j) (r:=(Rp.sl r')) (n:=8) (zc:=[.slice none 0 0]) (z:=[]) ⟨_,z,(ah' _ _)⟩))<|nx<|c'<|sr<|sx0 z z<|R' (fun (⟨m,o,A,p⟩:(List (List Za))×List Value×Unit×Mem)=>[(0,.slice D B.length C),(7,pt0 P)]) (fun ⟨m,o,A,p⟩=>Mem.le j p/\ArRd (Rp.sl r') 8 p o A m/\(ZbX B m).Ret r) (fun ⟨m,o,A,p⟩=>St w0 j p [(7,bk0 P (o) 144)]) ?_ ?_
 .refine s' ?_
  let M:(((List (List Za))))->Prop:=fun oo=>((fun ov=>match ov with|m=>ZbX B m:(((List (List Za))))->Cq (List Za)) oo).wp (fun a=>a=r)
  replace hr:(Cq.loop _ _).wp M:=hr
  refine T' (Φ:=M) (fun (⟨y,f,e,d,g⟩:Int×(List (List Za))×List Value×Unit×Mem)=>((y,f):Int×(List (List Za)))) (fun ⟨y,f,e,d,g⟩=>[(0,.slice D B.length C),(1,.slice l h.length i),(2,.slice q s.length x),(7,pt0 P),(8,i' y)]) (fun ⟨y,f,e,d,g⟩=>Mem.le j g/\ArRd (Rp.sl r') 8 g e d f) (fun ⟨y,f,e,d,g⟩=>St w0 j g [(7,bk0 P (e) 144)]) ⟨0,(List.replicate 8 []),([.slice none 0 0,.slice none 0 0,.slice none 0 0,.slice none 0 0,.slice none 0 0,.slice none 0 0,.slice none 0 0,.slice none 0 0]:List Value),(),j⟩ hr (f5 z z z z z) ⟨mr,(show ArRd (Rp.sl r') 8 j ([.slice none 0 0,.slice none 0 0,.slice none 0 0,.slice none 0 0,.slice none 0 0,.slice none 0 0,.slice none 0 0,.slice none 0 0]:List Value) () _ from cU' (G:=j) (r:=(Rp.sl r')) (n:=8) (zc:=[.slice none 0 0]) (z:=[]) ⟨_,z,(ah' _ _)⟩)⟩ (w1 z) ?_
  .intro ar gx hx hr
   obtain⟨y,f,e,d,g⟩:=gx
   obtain⟨c,t⟩:=hx
   refine c'<|sr<|mv z z<|mv z z<|yy (K' J' (k.mono c) z) z<|yy (V' z z) z<|nx<|E' hr z (fun af hr=>?_) (fun af hr=>?_)
   .refine l'<|a'<|c'<|s'<|sr<|mv z z<|mv z z<|mv z z ?_
    obtain⟨x1,T,hr⟩:=hr
    refine yy (P' J' sz9 (k.mono c) z z T) z<|yy (ae' sc9 z (bT' (H' (X' k T) c))) z ?_
    obtain⟨ap,U,hr⟩:=hr
    refine B' z z (u' E68 z) (fi' U) z ((R.mono c))<|sg z z<|nr<|mv z z<|yy (aV' z z) z<|nx<|E' hr z (fun ab hr=>?_) (fun ab hr=>?_)
    .refine n'<|mv z z<|mv z z ?_
     obtain⟨L,V,hr⟩:=hr
     refine Q' z z (u' E70 z) (gD' V) z (trivial) (fun aj ae u E=>?_)
     obtain⟨O,K,rfl,H⟩:=E
     refine mv z z<|yy (L' z z) z<|yy (L' z z) z ?_
     obtain⟨x2,S,hr⟩:=hr
     refine yy (dh' cz' sz44 z z (dI' (t.mono u) S)) z<|WL.storeAy (cs':=[.slice O L.1.length K]) (z':=L.1) 7 z sz44 z (by decide) (t.mono u) z z z z ⟨_,z,H⟩ S fun d1 aa=>o'<|v'<|a'<|n'<|mv z z<|yy (I' z z) z<|sg z z<|o'<|C' ⟨i64.wrap (y+1),f.set y.toNat L.1,d1,d,ae⟩ hr ⟨(mx c u),aa⟩ (f5 z z z z z) (w1 z)
    refine l'<|v'<|a'<|n'<|mv z z<|yy (I' z z) z<|sg z z<|o'<|C' ⟨i64.wrap (y+1),f,e,d,g⟩ hr ⟨c,t⟩ (f5 z z z z z) (w1 z)
   refine U'<|h'<|h'<|y'<|W' ⟨f,e,d,g⟩ ⟨c,t,hr⟩ (f2 z z) (w1 z)
 rintro⟨m,o,A,p⟩ ⟨Q,I,hr⟩
 refine a'<|sr<|mv z z<|yy (m' 7 ag144 z z (cA' I)) z ?_
 obtain⟨aq,X,hr⟩:=hr
 refine Q' z z (u' E71 z) (gm' X) z (⟨(ad.mono Q),I⟩) (fun ah ao ag F=>?_)
 obtain⟨Z,Y,rfl,J⟩:=F
 refine mv z z<|yy (L' z z) z<|yy (L' z z) z<|sg z z<|sg z z<|nr<|mv z z<|sx0 z z<|k' ?_
 obtain rfl:_=r:=hr
 exact j' z z ⟨_,_,z,J⟩
theorem da'{F D B x o n A C k i r}(hr:(ZaJ F D).Ret r):Ctr prog 13 #[.agg ((v46' F B x o n)).toArray,.agg ((v46' D A C k i)).toArray] (fun G=>sl r' G B x F.p/\sl Rp.str G o n F.vars/\sl r' G A C D.p/\sl Rp.str G k i D.vars) (fun G v=>v = .bool r):=by
 refine A' (args:=[_,_]) (N:=36) func13 z z z (fun w0 G0 ae R=>?_)
 obtain⟨y,j,L,m⟩:=R
 refine sr<|Y' 2 z z z fun b2=>Y' 3 z z z fun b3=>sx0 z z<|c'<|sr<|yy (ed' z) z<|yy (g' 2 sc3 z z z) z<|yy (ed' z) z<|yy (g' 3 sc3 z z z) z<|yy (bj' z z) z<|nx<|E' hr z (fun U hr=>?_) (fun U hr=>?_)
 .refine sr<|sx0 z z<|k'<|b' (k0' hr z z)
 refine l'<|a'<|c'<|ad' [ff,ff,ff,ff,ff,ff,ff,ff,ff,ff,ff,ff,ff,ff,ff,ff,ff,ff,ff,ff,ff,ff,ff] mix (by kernel_rfl) fun W=>cn (fun _ e=>ed' z)<|cn (fun _ e=>g' 2 sc3 z z z)<|bX' hr z (fun _ e=>au' z z) (fun T hr=>?_) (fun T hr=>?_)
 .refine cn (fun _ e=>f' z)<|cf z z<|cf z z<|cf z z<|cf z z<|cf z z<|cf z z<|cf z z<|cf z z<|cf z z<|cf z z<|cs z z<|cs z z<|cs z z<|cs z z<|cs z z<|cs z z<|cs z z<|cs z z<|cs z z<|af' W<|ar' (aa' z z) z<|sf z z z<|yy (t' z z) z<|sg z z<|o'<|am'<|a'<|k' (k0' hr z z)
 refine cn (fun _ e=>f' z)<|cy z z (fun _ e=>Y0.ZlI z)<|cy z z (fun _ e=>g' 2 sc44 z z z)<|cy z z (fun _ e=>Y0.Zjf z)<|cy z z (fun _ e=>g' 2 bF' z z z)<|cy z z (fun _ e=>Y0.Zjf z)<|cy z z (fun _ e=>g' 3 bF' z z z) ?_
 obtain⟨l,S,hr⟩:=hr
 refine aw' (post:=wl' Rp.str l) (fun _=>(D' z z)) (fun _ _=>u' E35 z) (fY' S) z (fun K e=>⟨(y.mono e),(j.mono e),(m.mono e)⟩) (fun v Z X e h=>?_) ?_
 .obtain⟨q,p,rfl,g⟩:=h
  exact⟨_,_,z,g.mono e⟩
 refine Chain.y0UD (c:=i' (l.length:Int)) (fun _=>(D' z z)) (fun u K e Y=>?_) ?_
 .obtain⟨⟨q,p,E,g⟩,_⟩:=(show (wl' Rp.str l) K.m (u 20)/\True from Y)
  simp only[undFr,E]
  exact K' J' g z
 by_cases hb2:(l.length:Int)=0
 .replace hr:=hr.pos hb2
  refine cf' (fun _=>(D' z z)) (fun _ _ e=>cp' (au' z z) (congrArg Value.bool (decide_eq_true hb2)))<|cf' (fun _=>(D' z z)) (fun _ _ e=>f' z)<|cf' (fun _=>(D' z z)) (fun _ _ e=>Y0.ZlI z)<|cf' (fun _=>(D' z z)) (fun _ _ e=>g' 2 sc44 z z z)<|cf' (fun _=>(D' z z)) (fun _ _ e=>Y0.Zjf z)<|cf' (fun _=>(D' z z)) (fun _ _ e=>g' 2 bF' z z z)<|cf' (fun _=>(D' z z)) (fun _ _ e=>Y0.Zjf z)<|cf' (fun _=>(D' z z)) (fun _ _ e=>g' 3 bF' z z z) ?_
  obtain⟨I,J,hr⟩:=hr
  refine aw' (post:=wl' r' I) (fun _=>(D' z z)) (fun _ _=>u' E37 z) (fp' J) z (fun K e=>⟨(y.mono e),(j.mono e),(m.mono e)⟩) (fun v Z X e h=>?_) ?_
  .obtain⟨O,Q,rfl,s⟩:=h
   exact⟨_,_,z,s.mono e⟩
  refine cf' (fun _=>(D' z z)) (fun _ _ e=>Y0.ZlI z)<|cf' (fun _=>(D' z z)) (fun _ _ e=>g' 3 sc44 z z z)<|dL' (d:=30) (post:=wl' r' I) (d':=20) (post':=wl' Rp.str l) (fun aa M ab H t f=>?_)
  obtain⟨O,Q,rfl,s⟩:=t
  obtain⟨q,p,rfl,g⟩:=f
  obtain⟨ac,P,hr⟩:=hr
  refine B' (D' z z) z (u' E36 z) (fw' P) z (⟨s,(L.mono H)⟩)<|gy z z (t' z z) z<|yy (p' z z) z<|sg z z<|o'<|am'<|a'<|k' (k0' hr z z)
 replace hr:=hr.neg hb2
 refine cf' (fun _=>(D' z z)) (fun _ _ e=>cp' (au' z z) (congrArg Value.bool (decide_eq_false hb2)))<|cf' (fun _=>(D' z z)) (fun _ _ e=>f' z)<|bb' (fun _=>(bp' z z))<|bb' (fun _=>(bp' z z))<|bb' (fun _=>(bp' z z))<|bb' (fun _=>(bp' z z))<|bb' (fun _=>(bp' z z))<|bb' (fun _=>(bp' z z))<|bb' (fun _=>(bp' z z))<|bb' (fun _=>(bp' z z))<|bb' (fun _=>(bp' z z))<|bn' (d:=20) (post:=wl' Rp.str l) (fun M ad V f=>?_)
 obtain⟨q,p,rfl,g⟩:=f
 refine sk z z z<|gy z z (p' z z) z<|yy (p' z z) z<|sg z z<|o'<|am'<|a'<|k' (k0' hr z z)
theorem fN'{A q p u v o n r}(hr:(ZhA A).Ret r):Ctr prog 14 #[.agg ((v31' A q p u v o n)).toArray] (fun G=>y31' G q p u v o n A) (wl' (Rp.int .i64) r):=by
 refine A' (args:=[_]) (N:=69) func14 z z z (fun w0 X M an=>?_)
 obtain⟨af,k,i⟩:=an
 refine sr<|Y' 1 z z z fun S=>sg z z<|nr<|aD' (e:=3) (r:=(Rp.int .i64)) (vs:=#[]) (cs:=[]) ([]:List Int) z z z z z (by decide) (fun _=>by kernel_rfl) (z) (key:=999) z (by rw[M]; rfl) fun p1 U h ax=>sg z z<|sg z z<|sx0 z z<|c'<|R' (fun (⟨y,E,D,C,J⟩:(List Int)×Option Addr×Nat×Option Ow×Mem)=>[(3,.slice E y.length D)]) (fun ⟨y,E,D,C,J⟩=>Mem.le U J/\sl (Rp.int .i64) J E D y/\Tok 1 3 (.slice E y.length D) y.length C/\(ZfR y).Ret r) (fun ⟨y,E,D,C,J⟩=>St w0 X J [(1003,C)]) ?_ ?_
 .refine s' ?_
  let L:(List Int)->Prop:=fun oo=>((fun ov=>match ov with|y=>ZfR y:(List Int)->Cq (List Int)) oo).wp (fun a=>a=r)
  replace hr:(Cq.loop _ _).wp L:=hr
  refine T' (Φ:=L) (fun (⟨g,l,m,j,t,s,B⟩:(List Int)×Option Addr×Nat×Option Ow×Int×Int×Mem)=>((g,t,s):(List Int)×Int×Int)) (fun ⟨g,l,m,j,t,s,B⟩=>[(1,pt0 S),(3,.slice l g.length m),(4,i' t),(5,i' s)]) (fun ⟨g,l,m,j,t,s,B⟩=>Mem.le U B/\sl (Rp.int .i64) B l m g/\Tok 1 3 (.slice l g.length m) g.length j) (fun ⟨g,l,m,j,t,s,B⟩=>St w0 X B [(1,bk0 S (v31' A q p u v o n) 31),(1003,j)]) ⟨[],p1,0,none,0,0,U⟩ hr (f4 z z z z) ⟨mr,ax,cc'⟩ (wk (lc z (lw ln))) ?_
  .intro ad P hx hr
   obtain⟨g,l,m,j,t,s,B⟩:=P
   obtain⟨d,K,I⟩:=hx
   refine aP' (fun (P:Mem)=>match P with|F=>[(1,pt0 S),(3,.slice l g.length m),(4,i' t),(5,i' s)]) (fun (P:Mem)=>match P with|F=>Mem.le B F/\(ZcE A g t s).wp (Out ad L)) (fun (P:Mem)=>match P with|F=>St w0 X F [(1,bk0 S (v31' A q p u v o n) 31),(1003,j)]) ?_ ?_
   .refine sr<|mv z z<|yy (aF' z) z<|yy (g' 1 bc' z z z) z<|yy (K' N' (k.mono (mx h d)) z) z<|ao' hr z (V' z z) z (fun aB hr=>?_) (fun aB hr=>?_)
    .refine mv z z<|sn5 z<|yy (t' z z) z<|nx<|av' z<|l'<|al' B ⟨mr,hr⟩ (f4 z z z z) (w2 z z)
    refine mv z z<|gy z z (f' z) z<|gy z z (aG' z) z<|gy z z (g' 1 bc' z z z) z<|gy z z (K' N' (i.mono (mx h d)) z) z<|gy z z (V' z z) z<|yy (p' z z) z<|nx<|E' hr z (fun av hr=>?_) (fun av hr=>?_)
    .refine l'<|al' B ⟨mr,hr⟩ (f4 z z z z) (w2 z z)
    refine U'<|h'<|h'<|y'<|W' ⟨g,l,m,j,B⟩ ⟨d,K,I,hr⟩ (f1 z) (w1 z)
   rintro F ⟨f,hr⟩
   refine s'<|aP' (fun (⟨H,O⟩:Bool×Mem)=>[(1,pt0 S),(3,.slice l g.length m),(4,i' t),(5,i' s),(45,.bool H)]) (fun ⟨H,O⟩=>Mem.le F O/\(Za2 A g t s H).wp (Out ad L)) (fun ⟨H,O⟩=>St w0 X O [(1,bk0 S (v31' A q p u v o n) 31),(1003,j)]) ?_ ?_
   .refine ad' [ff,ff,ff,ff,ff,ff,ff,ff,ff,ff,ff,ff,ff,ff,ff,ff,ff,ff,ff,ff,ff,ff,ff,ff] mix (by kernel_rfl) fun hb=>cn (fun _ c=>f' z)<|cn (fun _ c=>aG' z)<|cn (fun _ c=>g' 1 bc' z z z)<|cn (fun _ c=>K' N' ((i.mono (mx (mx h d) f)).mono c) z)<|bX' hr z (fun _ c=>au' z z) (fun aE hr=>?_) (fun aE hr=>?_)
    .refine cn (fun _ c=>f' z)<|cf z z<|cf z z<|cf z z<|cf z z<|cf z z<|cf z z<|cs z z<|cs z z<|cs z z<|cs z z<|cs z z<|cs z z<|cs z z<|cs z z<|cs z z<|cs z z<|cs z z<|cs z z<|af' hb<|ar' (aa' z z) z<|sf z z z<|yy (t' z z) z<|o'<|am'<|al' ⟨true,F⟩ ⟨mr,hr⟩ (f5 z z z z z) (w2 z z)
    refine cn (fun _ c=>f' z)<|cy z z (fun _ c=>f' z)<|cy z z (fun _ c=>aF' z)<|cy z z (fun _ c=>g' 1 bc' z z z)<|cy z z (fun _ c=>K' N' ((k.mono (mx (mx h d) f)).mono c) z)<|bX' hr (D' z z) (fun _ c=>V' z z) (fun aw hr=>?_) (fun aw hr=>?_)
    .refine cy z z (fun _ c=>f' z)<|cy z z (fun _ c=>aF' z)<|cy z z (fun _ c=>g' 1 bc' z z z)<|cy z z (fun _ c=>f' z) ?_
     obtain⟨x3,ae,hr⟩:=hr
     refine cy z z (fun _ c=>P' N' bK' ((k.mono (mx (mx h d) f)).mono c) z z ae)<|cy z z (fun _ c=>bl' z)<|cy z z (fun _ c=>ae' sc3 z (aA' (H' (H' (bS' (aS' (X' k ae))) (mx (mx h d) f)) c)))<|cy z z (fun _ c=>aG' z)<|cy z z (fun _ c=>g' 1 bc' z z z)<|cy z z (fun _ c=>f' z) ?_
     obtain⟨x4,ac,hr⟩:=hr
     refine cy z z (fun _ c=>P' N' bK' ((i.mono (mx (mx h d) f)).mono c) z z ac)<|cy z z (fun _ c=>bl' z)<|cy z z (fun _ c=>ae' sc3 z (aA' (H' (H' (bS' (aS' (X' i ac))) (mx (mx h d) f)) c)))<|af' hb<|gy z z (V' z z) z<|gy z z (t' z z) z<|yy (p' z z) z<|o'<|am'<|al' ⟨decide (x3.id<x4.id),F⟩ ⟨mr,hr⟩ (f5 z z z z z) (w2 z z)
    refine cy z z (fun _ c=>f' z)<|ct z z<|ct z z<|ct z z<|ct z z<|ct z z<|ct z z<|ct z z<|ct z z<|ct z z<|ct z z<|ct z z<|ct z z<|af' hb<|sk z z z<|gy z z (p' z z) z<|yy (p' z z) z<|o'<|am'<|al' ⟨false,F⟩ ⟨mr,hr⟩ (f5 z z z z z) (w2 z z)
   rintro⟨H,O⟩ ⟨x,hr⟩
   refine ay' hr z (fun aF hr=>?_) (fun aF hr=>?_)
   .refine sr<|mv z z<|yy (aF' z) z<|yy (g' 1 bc' z z z) z<|mv z z ?_
    obtain⟨V,ag,hr⟩:=hr
    have N1:=mx (mx (mx h d) f) x
    refine yy (P' N' bK' (k.mono N1) z z ag) z<|yy (bl' z) z<|yy (ae' sc3 z (aA' (H' (bS' (aS' (X' k ag))) N1))) z<|aD' (e:=3) (r:=(Rp.int .i64)) (vs:=#[(0,i' V.id)]) (cs:=[i' V.id]++([])) ([V.id]:List Int) z z z z z (by decide) (fun _=>by kernel_rfl) ⟨[i' V.id],[],z,z,z⟩ (key:=999) z (by rw[M]; rfl) (fun p2 aQ Q aA=>?_)
    obtain⟨aj,hr⟩:=hr
    refine aW' (r:=(Rp.int .i64)) 1003 z z aN' el3 z (by decide) z z (K.mono (mx (mx f x) Q)) z (by rw[M]; rfl) I aA aj fun p3 ar ai ay Z az ak=>sx0 z z<|n'<|mv z z<|yy (I' z z) z<|sg z z<|o'<|v'<|C' ⟨(g++[V.id]),p3,ar,ai,i64.wrap (t+1),s,ay⟩ hr ⟨(mx (mx (mx (mx d f) x) Q) Z),az,ak⟩ (f4 z z z z) (w2 z z)
   refine sr<|mv z z<|yy (aG' z) z<|yy (g' 1 bc' z z z) z<|mv z z ?_
   obtain⟨T,ab,hr⟩:=hr
   have N2:=mx (mx (mx h d) f) x
   refine yy (P' N' bK' (i.mono N2) z z ab) z<|yy (bl' z) z<|yy (ae' sc3 z (aA' (H' (bS' (aS' (X' i ab))) N2))) z<|aD' (e:=3) (r:=(Rp.int .i64)) (vs:=#[(0,i' T.id)]) (cs:=[i' T.id]++([])) ([T.id]:List Int) z z z z z (by decide) (fun _=>by kernel_rfl) ⟨[i' T.id],[],z,z,z⟩ (key:=999) z (by rw[M]; rfl) (fun p4 aP R aq=>?_)
   obtain⟨al,hr⟩:=hr
   refine aW' (r:=(Rp.int .i64)) 1003 z z aN' el3 z (by decide) z z (K.mono (mx (mx f x) R)) z (by rw[M]; rfl) I aq al fun p5 ap ao aC W aD am=>sx0 z z<|n'<|mv z z<|yy (I' z z) z<|sg z z<|o'<|v'<|C' ⟨(g++[T.id]),p5,ap,ao,t,i64.wrap (s+1),aC⟩ hr ⟨(mx (mx (mx (mx d f) x) R) W),aD,am⟩ (f4 z z z z) (w2 z z)
 rintro⟨y,E,D,C,J⟩ ⟨aG,Y,au,hr⟩
 refine a'<|sr<|mv z z<|sx0 z z<|k' ?_
 obtain rfl:_=r:=hr
 exact j' z z ⟨_,_,z,Y⟩
theorem fZ'{M Q j k q p m n E H i l r}(hr:(Zfg M Q).Ret r):Ctr prog 15 #[.agg ((v31' M j k q p m n)).toArray,.agg ((v46' Q E H i l)).toArray] (fun G=>sl Rp.str G j k M.vars/\sl e' G q p M.eqs/\sl e' G m n M.neqs/\sl r' G E H Q.p/\sl Rp.str G i l Q.vars) (fun G v=>v = .bool r):=by
 refine A' (args:=[_,_]) (N:=23) func15 z z z (fun w0 G0 au aa=>?_)
 obtain⟨t,y,s,W,L⟩:=aa
 refine sr<|Y' 2 z z z fun b1=>Y' 3 z z z fun b2=>sg z z<|nr<|yy (m' 2 ai' z z z) z ?_
 obtain⟨ad,ab,hr⟩:=hr
 refine Q' z z (u' E14 z) (fN' ab) z (⟨t,y,s⟩) (fun al O g K=>?_)
 obtain⟨Z,Y,rfl,B⟩:=K
 refine sx0 z z<|c'<|sr<|sx0 z z<|R' (fun (D:Mem)=>match D with|A=>[]) (fun (D:Mem)=>match D with|A=>Mem.le O A/\(Zdf).Ret r) (fun (D:Mem)=>match D with|A=>St w0 G0 A []) ?_ ?_
 .refine s' ?_
  let P:(Bool⊕Unit)->Prop:=fun oo=>((fun ov=>match ov with | .inl rv1=>Cq.ret rv1 | .inr ()=>Zdf:(Bool⊕Unit)->Cq Bool) oo).wp (fun a=>a=r)
  replace hr:(Cq.loop _ _).wp P:=hr
  refine T' (Φ:=P) (fun (⟨F,o⟩:Int×Mem)=>(F:Int)) (fun ⟨F,o⟩=>[(2,pt0 b1),(3,pt0 b2),(5,.slice Z ad.length Y),(6,i' F)]) (fun ⟨F,o⟩=>Mem.le O o) (fun ⟨F,o⟩=>St w0 G0 o [(2,bk0 b1 (v31' M j k q p m n) 31),(3,bk0 b2 (v46' Q E H i l) 46)]) ⟨0,O⟩ hr (f4 z z z z) mr (w2 z z) ?_
  .intro aq D hx hr
   obtain⟨F,o⟩:=D
   have c:=hx
   refine c'<|sr<|mv z z<|mv z z<|yy (K' aN' (B.mono c) z) z<|yy (V' z z) z<|nx<|E' hr z (fun aj hr=>?_) (fun aj hr=>?_)
   .refine l'<|a'<|c'<|s'<|c'<|ad' [ff,ff,ff,ff,ff,ff,ff] mix (by kernel_rfl) fun hb=>cn (fun _ e=>m' 2 ai' z z z)<|cn (fun _ e=>f' z)<|cn (fun _ e=>f' z) ?_
    obtain⟨x2,T,hr⟩:=hr
    refine cn (fun _ e=>P' aN' sz3 ((B.mono c).mono e) z z T)<|cn (fun _ e=>ae' sc3 z (aA' (H' (H' (X' B T) c) e))) ?_
    obtain⟨U,V,hr⟩:=hr
    refine aw' (post:=w46' U) (fun _=>z) (fun _ _=>u' E12 z) (cK' V) z (fun G' e=>⟨((t.mono (mx g c)).mono e),((y.mono (mx g c)).mono e),((s.mono (mx g c)).mono e)⟩) (fun v G1 G2 e h=>?_) ?_
    .obtain⟨R,S,C,I,rfl,u,f⟩:=h
     exact⟨_,_,_,_,z,u.mono e,f.mono e⟩
    refine cu (fun _ _ e=>m' 3 ag46 z z z)<|bn' (d:=20) (post:=w46' U) (fun ap ai x J=>?_)
    obtain⟨R,S,C,I,rfl,u,f⟩:=J
    obtain⟨ar,X,hr⟩:=hr
    refine B' z z (u' E13 z) (da' X) z (⟨u,f,(W.mono (mx (mx g c) x)),(L.mono (mx (mx g c) x))⟩)<|o'<|am'<|a'<|ay' hr z (fun af hr=>?_) (fun af hr=>?_)
    .refine sr<|sx0 z z<|k'<|w'<|b'<|b'<|w'<|ap'<|b' (k0' hr z z)
    refine l'<|v'<|a'<|n'<|mv z z<|yy (I' z z) z<|sg z z<|o'<|C' ⟨i64.wrap (F+1),ai⟩ hr (mx c x) (f4 z z z z) (w2 z z)
   refine U'<|h'<|h'<|y'<|W' o ⟨c,hr⟩ fn (wk ln)
 rintro A ⟨ak,hr⟩
 refine a'<|sr<|sx0 z z<|k' (k0' hr z z)
theorem ZfD(aI:ZG)(az:Option Addr)(aB:Nat)(aQ:Option Addr)(aT:Nat)(aY:Option Addr)(aZ:Nat)(r:Bool)(hr:(Zdx aI).Ret r):Ctr prog 5 #[.agg ((v24' aI az aB aQ aT aY aZ)).toArray] (fun G=>sl bv' G az aB aI.base/\sl bv' G aQ aT aI.a/\sl bv' G aY aZ aI.b) (fun G v=>v = .bool r):=by
 refine A' (args:=[_]) (N:=121) func5 z z z (fun w0 G0 cR cz=>?_)
 obtain⟨aR,bv,bw⟩:=cz
 refine sr<|Y' 1 z z z fun b1=>sg z z<|nr ?_
 obtain⟨ai,ck,hr⟩:=hr
 refine B' z z (u' E7 z) (cY' ck) z (trivial)<|sx0 z z<|c'<|sr<|mv z z<|yy (an' z) z<|nx<|ay' hr z (fun de hr=>?_) (fun de hr=>?_)
 .refine sr<|sx0 z z<|k'<|b' (k0' hr z z)
 refine l'<|a'<|sr<|yy (m' 1 ag24 z z z) z ?_
 obtain⟨f,cl,hr⟩:=hr
 refine Q' z z (u' E8 z) (eq' cl) z (⟨aR,bv,bw⟩) (fun dq dw dh bl=>?_)
 obtain⟨K,J,P,Q,D,H,x,y,t,u,k,l,n,o,q,p,i,g,rfl,av,ay,ar,ad,aj,ab,ac,ah,ae⟩:=bl
 refine mv z z<|yy (L' z z) z<|yy (L' z z) z<|yy (L' z z) z<|O' 4 z z31 z fun b2=>O' 5 z z31 z fun b3=>O' 6 z z31 z fun b4=>x' 4 z aR' z z z z z (List.all_eq_true.1 z)<|x' 5 z aR' z z z z z (List.all_eq_true.1 z)<|x' 6 z aR' z z z z z (List.all_eq_true.1 z)<|nr<|yy (m' 4 ai' z z z) z<|yy (m' 5 ai' z z z) z<|yy (m' 6 ai' z z z) z ?_
 obtain⟨aq,cv,hr⟩:=hr
 refine Q' z z (u' E10 z) (bR' cv) z (⟨av,ay,ar,ad,aj,ab,ac,ah,ae⟩) (fun dl bs A bj=>?_)
 obtain⟨I,B,M,O,C,E,c5,c8,rfl,ap,aA,an,cS⟩:=bj
 refine mv z z<|yy (L' z z) z<|yy (L' z z) z<|yy (L' z z) z<|O' 7 z z31 z fun b5=>x' 7 z aR' z z z z z (List.all_eq_true.1 z)<|sg z z<|sx0 z z<|c'<|sr<|mv z z<|yy (bj' z z) z<|nx<|E' hr z (fun cX hr=>?_) (fun cX hr=>?_)
 .refine sr<|mv z z<|sx0 z z<|k'<|b' (k0' hr z z)
 refine l'<|a'<|c'<|sr<|sx0 z z<|R' (fun (R:Mem)=>match R with|aX=>[(3,.bool ai),(4,pt0 b2),(5,pt0 b3),(6,pt0 b4),(7,pt0 b5)]) (fun (R:Mem)=>match R with|aX=>Mem.le bs aX/\(Z2 ai f aq).Ret r) (fun (R:Mem)=>match R with|aX=>St w0 G0 aX [(4,bk0 b2 (v31' f.1 K J P Q D H) 31),(5,bk0 b3 (v31' f.2.1 x y t u k l) 31),(6,bk0 b4 (v31' f.2.2 n o q p i g) 31),(7,bk0 b5 (v31' aq.1 I B M O C E) 31)]) ?_ ?_
 .refine s' ?_
  let a4:(Bool⊕Unit)->Prop:=fun oo=>((fun ov=>match ov with | .inl rv3=>Cq.ret rv3 | .inr ()=>Z2 ai f aq:(Bool⊕Unit)->Cq Bool) oo).wp (fun a=>a=r)
  replace hr:(Cq.loop _ _).wp a4:=hr
  refine T' (Φ:=a4) (fun (⟨L,al⟩:Int×Mem)=>(L:Int)) (fun ⟨L,al⟩=>[(3,.bool ai),(4,pt0 b2),(5,pt0 b3),(6,pt0 b4),(7,pt0 b5),(10,i' L)]) (fun ⟨L,al⟩=>Mem.le bs al) (fun ⟨L,al⟩=>St w0 G0 al [(4,bk0 b2 (v31' f.1 K J P Q D H) 31),(5,bk0 b3 (v31' f.2.1 x y t u k l) 31),(6,bk0 b4 (v31' f.2.2 n o q p i g) 31),(7,bk0 b5 (v31' aq.1 I B M O C E) 31)]) ⟨1,bs⟩ hr (f6 z z z z z z) mr (w4 z z z z) ?_
  .intro c3 R hx hr
   obtain⟨L,al⟩:=R
   have m:=hx
   refine aP' (fun (R:Mem)=>match R with|aU=>[(3,.bool ai),(4,pt0 b2),(5,pt0 b3),(6,pt0 b4),(7,pt0 b5),(10,i' L)]) (fun (R:Mem)=>match R with|aU=>Mem.le al aU/\(ZaW f aq L).wp (Out c3 a4)) (fun (R:Mem)=>match R with|aU=>St w0 G0 aU [(4,bk0 b2 (v31' f.1 K J P Q D H) 31),(5,bk0 b3 (v31' f.2.1 x y t u k l) 31),(6,bk0 b4 (v31' f.2.2 n o q p i g) 31),(7,bk0 b5 (v31' aq.1 I B M O C E) 31)]) ?_ ?_
   .refine sr<|mv z z<|yy (bt' z) z<|yy (g' 4 sc3 z z z) z<|ao' hr z (V' z z) z (fun cY hr=>?_) (fun cY hr=>?_)
    .refine mv z z<|gy z z (f' z) z<|gy z z (V' z z) z<|yy (t' z z) z<|nx<|E' hr z (fun cZ hr=>?_) (fun cZ hr=>?_)
     .refine l'<|al' al ⟨mr,hr⟩ (f6 z z z z z z) (w4 z z z z)
     refine U'<|h'<|h'<|y'<|W' al ⟨m,hr⟩ (f5 z z z z z) (w4 z z z z)
    refine mv z z<|sn2 z<|yy (p' z z) z<|nx<|aK' z<|U'<|h'<|h'<|y'<|W' al ⟨m,hr⟩ (f5 z z z z z) (w4 z z z z)
   rintro aU ⟨s,hr⟩
   refine c'<|s'<|c'<|ad' [ff,ff,ff,ff,ff,ff,ff,ff,ff,ff,ff,ff,ff,ff,ff,ff] mix (by kernel_rfl) fun hb=>cn (fun _ c=>m' 4 ai' z z z)<|cn (fun _ c=>f' z) ?_
   obtain⟨c7,cx,hr⟩:=hr
   have N1:=mx (mx A m) s
   refine aw' (post:=w46' c7) (fun _=>z) (fun _ _=>u' E12 z) (cK' cx) z (fun G' c=>⟨((av.mono N1).mono c),((ay.mono N1).mono c),((ar.mono N1).mono c)⟩) (fun v G1 G2 c h=>?_) ?_
   .obtain⟨bL,bG,a3,a7,rfl,au,Z⟩:=h
    exact⟨_,_,_,_,z,au.mono c,Z.mono c⟩
   refine cu (fun _ _ c=>m' 5 ai' z z z)<|cu (fun _ _ c=>f' z) ?_
   obtain⟨cN,cA,hr⟩:=hr
   refine aw' (post:=w46' cN) (fun _=>z) (fun _ _=>u' E12 z) (cK' cA) z (fun G' c=>⟨((ad.mono N1).mono c),((aj.mono N1).mono c),((ab.mono N1).mono c)⟩) (fun v G1 G2 c h=>?_) ?_
   .obtain⟨bP,bJ,a1,a8,rfl,aw,W⟩:=h
    exact⟨_,_,_,_,z,aw.mono c,W.mono c⟩
   refine cu (fun _ _ c=>m' 6 ai' z z z)<|cu (fun _ _ c=>f' z) ?_
   obtain⟨c6,ci,hr⟩:=hr
   refine aw' (post:=w46' c6) (fun _=>z) (fun _ _=>u' E12 z) (cK' ci) z (fun G' c=>⟨((ac.mono N1).mono c),((ah.mono N1).mono c),((ae.mono N1).mono c)⟩) (fun v G1 G2 c h=>?_) ?_
   .obtain⟨bQ,bR,a5,a9,rfl,ao,X⟩:=h
    exact⟨_,_,_,_,z,ao.mono c,X.mono c⟩
   refine cu (fun _ _ c=>m' 7 ai' z z z)<|cu (fun _ _ c=>f' z) ?_
   obtain⟨ch,bS,hr⟩:=hr
   refine aw' (post:=w46' ch) (fun _=>z) (fun _ _=>u' E12 z) (cK' bS) z (fun G' c=>⟨((ap.mono (mx m s)).mono c),((aA.mono (mx m s)).mono c),((an.mono (mx m s)).mono c)⟩) (fun v G1 G2 c h=>?_) ?_
   .obtain⟨bD,bu,aO,aP,rfl,ag,T⟩:=h
    exact⟨_,_,_,_,z,ag.mono c,T.mono c⟩
   refine bJ' (fun _=>z) z46<|bJ' (fun _=>z) z46<|bJ' (fun _=>z) z46<|bJ' (fun _=>z) z46<|Chain.tailX8 (fun dz dA dx du dg dr dj dn X1 aM bA aH af Y a0 bi bg bn=>?_)
   obtain⟨bD,bu,aO,aP,rfl,ag,T⟩:=a0
   obtain⟨bQ,bR,a5,a9,rfl,ao,X⟩:=bi
   obtain⟨bP,bJ,a1,a8,rfl,aw,W⟩:=bg
   obtain⟨bL,bG,a3,a7,rfl,au,Z⟩:=bn
   refine ea' bA (fun b9 cT bx=>?_)
   subst cT
   replace aH:=ee' aH (by decide) bx
   replace af:=ee' af (by decide) bx
   replace Y:=ee' Y (by decide) bx
   refine ea' aH (fun b8 dc bZ=>?_)
   subst dc
   replace af:=ee' af (by decide) bZ
   replace Y:=ee' Y (by decide) bZ
   refine ea' af (fun b7 cM cU=>?_)
   subst cM
   replace Y:=ee' Y (by decide) cU
   refine ea' Y (fun b6 c0 dy=>?_)
   subst c0
   refine cJ' (show WL _ _ _ _ _ _ (St w0 G0 X1.m _) from ?_)
   refine x' 11 z sz46 z z z z z (List.all_eq_true.1 z)<|x' 12 z sz46 z z z z z (List.all_eq_true.1 z)<|x' 13 z sz46 z z z z z (List.all_eq_true.1 z)<|x' 14 z sz46 z z z z z (List.all_eq_true.1 z)<|o'<|am'<|a'<|sr<|yy (m' 11 ag46 z z z) z<|yy (m' 12 ag46 z z z) z ?_
   obtain⟨co,bN,hr⟩:=hr
   refine B' z z (u' E13 z) (da' bN) z (⟨au,Z,aw,W⟩) ?_
   cases co
   .refine mv z z<|sn4 z<|yy (p' z z) z<|mv z z<|gy z z (m' 11 ag46 z z z) z<|gy z z (m' 13 ag46 z z z) z ?_
    obtain⟨cg,bH,hr⟩:=hr
    refine B' (D' z z) z (u' E13 z) (da' bH) z (⟨au,Z,ao,X⟩) ?_
    cases cg
    .refine gy z z (f' z) z<|sn4 z<|gy z z (p' z z) z<|yy (p' z z) z<|nx<|aK' z<|l'<|v'<|a'<|n'<|mv z z<|yy (I' z z) z<|sg z z<|o'<|C' ⟨i64.wrap (L+1),X1.m⟩ hr (mx (mx m s) aM) (f6 z z z z z z) (w4 z z z z)
    refine gy z z (f' z) z<|gy z z (m' 14 ag46 z z z) z<|gy z z (m' 12 ag46 z z z) z ?_
    obtain⟨dm,bM,hr⟩:=hr
    refine B' (D' z z) z (u' E13 z) (da' bM) z (⟨ag,T,aw,W⟩)<|gy z z (an' z) z<|gy z z (t' z z) z<|yy (p' z z) z<|nx<|ay' hr z (fun c1 hr=>?_) (fun c1 hr=>?_)
    .refine sr<|sx0 z z<|k'<|w'<|b'<|b'<|w'<|ap'<|b' (k0' hr z z)
    refine l'<|v'<|a'<|n'<|mv z z<|yy (I' z z) z<|sg z z<|o'<|C' ⟨i64.wrap (L+1),X1.m⟩ hr (mx (mx m s) aM) (f6 z z z z z z) (w4 z z z z)
   refine mv z z<|gy z z (m' 14 ag46 z z z) z<|gy z z (m' 13 ag46 z z z) z ?_
   obtain⟨cj,bV,hr⟩:=hr
   refine B' (D' z z) z (u' E13 z) (da' bV) z (⟨ag,T,ao,X⟩) ?_
   cases cj
   .refine gy z z (an' z) z<|yy (t' z z) z<|mv z z<|sn4 z<|ar' (aa' z z) z<|ar' (aa' z z) z<|ar' (aa' z z) z<|ar' (aa' z z) z<|sf z z z<|yy (t' z z) z<|nx<|av' z<|sr<|sx0 z z<|k'<|w'<|b'<|b'<|w'<|ap'<|b' (k0' hr z z)
   refine gy z z (an' z) z<|yy (t' z z) z<|mv z z<|gy z z (m' 11 ag46 z z z) z<|gy z z (m' 13 ag46 z z z) z ?_
   obtain⟨cp,bX,hr⟩:=hr
   refine B' (D' z z) z (u' E13 z) (da' bX) z (⟨au,Z,ao,X⟩) ?_
   cases cp
   .refine gy z z (f' z) z<|sn4 z<|gy z z (p' z z) z<|yy (p' z z) z<|nx<|aK' z<|l'<|v'<|a'<|n'<|mv z z<|yy (I' z z) z<|sg z z<|o'<|C' ⟨i64.wrap (L+1),X1.m⟩ hr (mx (mx m s) aM) (f6 z z z z z z) (w4 z z z z)
   refine gy z z (f' z) z<|gy z z (m' 14 ag46 z z z) z<|gy z z (m' 12 ag46 z z z) z ?_
   obtain⟨di,bW,hr⟩:=hr
   refine B' (D' z z) z (u' E13 z) (da' bW) z (⟨ag,T,aw,W⟩)<|gy z z (an' z) z<|gy z z (t' z z) z<|yy (p' z z) z<|nx<|ay' hr z (fun cP hr=>?_) (fun cP hr=>?_)
   .refine sr<|sx0 z z<|k'<|w'<|b'<|b'<|w'<|ap'<|b' (k0' hr z z)
   refine l'<|v'<|a'<|n'<|mv z z<|yy (I' z z) z<|sg z z<|o'<|C' ⟨i64.wrap (L+1),X1.m⟩ hr (mx (mx m s) aM) (f6 z z z z z z) (w4 z z z z)
 rintro aX ⟨V,hr⟩
 have N2:=mx A V
 refine a'<|sr<|yy (m' 5 ai' z z z) z<|yy (m' 6 ai' z z z) z<|aD' (e:=31) (r:=ZdQ) (vs:=#[(0,.agg ((v31' f.2.1 x y t u k l)).toArray),(1,.agg ((v31' f.2.2 n o q p i g)).toArray)]) (cs:=(v31' f.2.1 x y t u k l)++((v31' f.2.2 n o q p i g)++([]))) ([f.2.1,f.2.2]:List Zb) z z z z z (by decide) (fun _=>by kernel_rfl) ⟨(v31' f.2.1 x y t u k l),(v31' f.2.2 n o q p i g)++([]),z,⟨[.slice x f.2.1.vars.length y],[.slice t f.2.1.eqs.length u,.slice k f.2.1.neqs.length l,i' f.2.1.next],z,⟨_,z,(ad.mono N2)⟩,⟨[.slice t f.2.1.eqs.length u],[.slice k f.2.1.neqs.length l,i' f.2.1.next],z,⟨_,z,(aj.mono N2)⟩,⟨[.slice k f.2.1.neqs.length l],[i' f.2.1.next],z,⟨_,z,(ab.mono N2)⟩,z⟩⟩⟩,⟨(v31' f.2.2 n o q p i g),[],z,⟨[.slice n f.2.2.vars.length o],[.slice q f.2.2.eqs.length p,.slice i f.2.2.neqs.length g,i' f.2.2.next],z,⟨_,z,(ac.mono N2)⟩,⟨[.slice q f.2.2.eqs.length p],[.slice i f.2.2.neqs.length g,i' f.2.2.next],z,⟨_,z,(ah.mono N2)⟩,⟨[.slice i f.2.2.neqs.length g],[i' f.2.2.next],z,⟨_,z,(ae.mono N2)⟩,z⟩⟩⟩,z⟩⟩ (key:=999) z (by rw[cR]; rfl) fun p1 bo aN ba=>sx0 z z<|c'<|sr<|sx0 z z<|R' (fun (R:Mem)=>match R with|aV=>[(3,.bool ai)]) (fun (R:Mem)=>match R with|aV=>Mem.le bo aV/\(ZaU ai).Ret r) (fun (R:Mem)=>match R with|aV=>St w0 G0 aV []) ?_ ?_
 .refine s' ?_
  let aL:(Bool⊕Unit)->Prop:=fun oo=>((fun ov=>match ov with | .inl rv1=>Cq.ret rv1 | .inr ()=>ZaU ai:(Bool⊕Unit)->Cq Bool) oo).wp (fun a=>a=r)
  replace hr:(Cq.loop _ _).wp aL:=hr
  refine T' (Φ:=aL) (fun (⟨S,aF⟩:Int×Mem)=>(S:Int)) (fun ⟨S,aF⟩=>[(3,.bool ai),(4,pt0 b2),(7,pt0 b5),(15,.slice p1 2 2),(16,i' S)]) (fun ⟨S,aF⟩=>Mem.le bo aF) (fun ⟨S,aF⟩=>St w0 G0 aF [(4,bk0 b2 (v31' f.1 K J P Q D H) 31),(7,bk0 b5 (v31' aq.1 I B M O C E) 31)]) ⟨0,bo⟩ hr (f5 z z z z z) mr (w2 z z) ?_
  .intro ca R hx hr
   obtain⟨S,aF⟩:=R
   have U:=hx
   refine c'<|sr<|mv z z<|yy (V' z z) z<|nx<|E' hr z (fun c2 hr=>?_) (fun c2 hr=>?_)
   .refine l'<|a'<|c'<|s'<|sr<|mv z z<|mv z z ?_
    obtain⟨x1,cd,hr⟩:=hr
    refine yy (P' bU' aR' (ba.mono U) z z cd) z ?_
    obtain⟨cC,cH,db,cK,cI,cB,cQ,bd,bB,bm⟩:=cC' (H' (X' ba cd) U)
    refine yy (as' _ ai' z z cQ) z ?_
    obtain⟨cO,ce,hr⟩:=hr
    refine Q' z z (u' E14 z) (fN' ce) z (⟨bd,bB,bm⟩) (fun dp bz ak bf=>?_)
    obtain⟨cq,cm,rfl,aG⟩:=bf
    refine sg z z<|nr<|sx0 z z<|R' (fun (R:Mem)=>match R with|aJ=>[(3,.bool ai),(4,pt0 b2),(7,pt0 b5),(15,.slice p1 2 2),(16,i' S)]) (fun (R:Mem)=>match R with|aJ=>Mem.le bz aJ/\(ZaV S).wp (Out ca aL)) (fun (R:Mem)=>match R with|aJ=>St w0 G0 aJ [(4,bk0 b2 (v31' f.1 K J P Q D H) 31),(7,bk0 b5 (v31' aq.1 I B M O C E) 31)]) ?_ ?_
    .refine s' ?_
     let bt:(Bool⊕Unit)->Prop:=fun oo=>((fun ov=>match ov with | .inl rv2=>Cq.ret (.inr (.inl rv2)) | .inr ()=>ZaV S:(Bool⊕Unit)->Cq (Int⊕(Bool⊕Unit))) oo).wp (Out ca aL)
     replace hr:(Cq.loop _ _).wp bt:=hr
     refine T' (Φ:=bt) (fun (⟨aa,ax⟩:Int×Mem)=>(aa:Int)) (fun ⟨aa,ax⟩=>[(3,.bool ai),(4,pt0 b2),(7,pt0 b5),(15,.slice p1 2 2),(16,i' S),(17,.slice cq cO.length cm),(18,i' aa)]) (fun ⟨aa,ax⟩=>Mem.le bz ax) (fun ⟨aa,ax⟩=>St w0 G0 ax [(4,bk0 b2 (v31' f.1 K J P Q D H) 31),(7,bk0 b5 (v31' aq.1 I B M O C E) 31)]) ⟨0,bz⟩ hr (f7 z z z z z z z) mr (w2 z z) ?_
     .intro dt R hx hr
      obtain⟨aa,ax⟩:=R
      have F:=hx
      refine c'<|sr<|mv z z<|mv z z<|yy (K' aN' (aG.mono F) z) z<|yy (V' z z) z<|nx<|E' hr z (fun cV hr=>?_) (fun cV hr=>?_)
      .refine l'<|a'<|c'<|s'<|c'<|ad' [ff,ff,ff,ff,ff,ff,ff,ff,ff,ff,ff,ff,ff,ff,ff,ff,ff,ff] mix (by kernel_rfl) fun hb=>cn (fun _ c=>f' z)<|cn (fun _ c=>f' z) ?_
       obtain⟨x2,bY,hr⟩:=hr
       refine cn (fun _ c=>P' aN' sz3 ((aG.mono F).mono c) z z bY)<|cn (fun _ c=>ae' sc3 z (aA' (H' (H' (X' aG bY) F) c)))<|cn (fun _ c=>bt' z)<|cn (fun _ c=>g' 4 sc3 z z z)<|bX' hr z (fun _ c=>aV' z z) (fun dd hr=>?_) (fun dd hr=>?_)
       .refine cn (fun _ c=>f' z)<|cy z z (fun _ c=>m' 7 ai' z z z)<|cy z z (fun _ c=>f' z)<|cy z z (fun _ c=>f' z) ?_
        obtain⟨x3,cb,hr⟩:=hr
        refine cy z z (fun _ c=>P' bU' aR' ((ba.mono (mx (mx U ak) F)).mono c) z z cb) ?_
        obtain⟨cE,cD,cW,c4,cG,cF,cJ,bc,bC,be⟩:=cC' (H' (X' ba cb) (mx (mx U ak) F))
        refine cy z z (fun _ c=>as' _ ai' z z (fun j v hv=>c _ _ _ (cJ j v hv)))<|cy z z (fun _ c=>f' z)<|cy z z (fun _ c=>f' z) ?_
        obtain⟨x4,b0,hr⟩:=hr
        refine cy z z (fun _ c=>P' aN' sz3 ((aG.mono F).mono c) z z b0)<|cy z z (fun _ c=>ae' sc3 z (aA' (H' (H' (X' aG b0) F) c))) ?_
        obtain⟨cc,cr,hr⟩:=hr
        refine aw' (post:=w46' cc) (fun _=>(D' z z)) (fun _ _=>u' E12 z) (cK' cr) z (fun G' c=>⟨(bc.mono c),(bC.mono c),(be.mono c)⟩) (fun v G1 G2 c h=>?_) ?_
        .obtain⟨bK,bO,a2,a6,rfl,aK,am⟩:=h
         exact⟨_,_,_,_,z,aK.mono c,am.mono c⟩
        refine bn' (d:=116) (post:=w46' cc) (fun dk da aE bh=>?_)
        obtain⟨bK,bO,a2,a6,rfl,aK,am⟩:=bh
        obtain⟨dv,cf,hr⟩:=hr
        have N3:=mx (mx (mx (mx (mx V aN) U) ak) F) aE
        refine B' (D' z z) z (u' E15 z) (fZ' cf) z (⟨(ap.mono N3),(aA.mono N3),(an.mono N3),aK,am⟩)<|gy z z (an' z) z<|yy (t' z z) z<|o'<|am'<|a'<|ay' hr z (fun c9 hr=>?_) (fun c9 hr=>?_)
        .refine sr<|sx0 z z<|k'<|w'<|b'<|b'<|w'<|ap'<|w'<|b'<|b'<|w'<|ap'<|b' (k0' hr z z)
        refine l'<|v'<|a'<|n'<|mv z z<|yy (I' z z) z<|sg z z<|o'<|C' ⟨i64.wrap (aa+1),da⟩ hr (mx F aE) (f7 z z z z z z z) (w2 z z)
       refine cn (fun _ c=>f' z)<|ct z z<|ct z z<|ct z z<|ct z z<|ct z z<|ct z z<|ct z z<|ct z z<|ct z z<|ct z z<|af' hb<|sn2 z<|yy (p' z z) z<|o'<|am'<|a'<|aK' z<|l'<|v'<|a'<|n'<|mv z z<|yy (I' z z) z<|sg z z<|o'<|C' ⟨i64.wrap (aa+1),ax⟩ hr F (f7 z z z z z z z) (w2 z z)
      refine U'<|h'<|h'<|y'<|W' ax ⟨F,hr⟩ (f5 z z z z z) (w2 z z)
    rintro aJ ⟨bU,hr⟩
    refine v'<|a'<|n'<|mv z z<|yy (I' z z) z<|sg z z<|o'<|C' ⟨i64.wrap (S+1),aJ⟩ hr (mx (mx U ak) bU) (f5 z z z z z) (w2 z z)
   refine U'<|h'<|h'<|y'<|W' aF ⟨U,hr⟩ (f1 z) (wk ln)
 rintro aV ⟨df,hr⟩
 refine a'<|sr<|mv z z<|sx0 z z<|k' (k0' hr z z)
end Go.Proofs.YtnbpjambcagjcaaGreat

namespace Go.EL
open Go.IntKind (i8 i16 i32 i64 u8 u16 u32 u64)
open Go Go.RowKit
structure EqsX (n:Nat) (l:List Zc):Prop where
 len:l.length<=12
 ids:∀ q ∈ l,1<=q.id/\q.id<=1000000
 inc:l.Pairwise fun a b=>a.id<b.id
 pol:∀ q ∈ l,PolOk q.p/\fitB q.p (n:Int)=true
structure GoodX (s:Zb):Prop where
 vars:s.vars.length<=4
 name:∀ v ∈ s.vars,nameB v=true
 diff:s.vars.Pairwise fun a b=>a≠b
 eqs:EqsX s.vars.length s.eqs
 neqs:EqsX s.vars.length s.neqs
 apart:∀ a ∈ s.eqs,∀ b ∈ s.neqs,a.id≠b.id
theorem EqsOk.x{n:Nat}{next:Int}{l:List Zc}(h:EqsOk n next l)(hn:next<=1000000):EqsX n l:=⟨h.len,fun q hq=>by have:=h.ids q hq; omega,h.inc,h.pol⟩
theorem Good.x{s:Zb}(h:Good s)(n:Int):GoodX ⟨s.vars,s.eqs,s.neqs,n⟩:=⟨h.vars,h.name,h.diff,h.eqs.x h.next.2,h.neqs.x h.next.2,h.apart⟩
theorem ZmG(a0 a1 a2:Zb):((mergeF a0 a1 a2).2.2=0/\(mergeF a0 a1 a2).2.1=[])\/((mergeF a0 a1 a2).2.2=350/\0<(mergeF a0 a1 a2).2.1.length/\(mergeF a0 a1 a2).1=zeroS)\/((mergeF a0 a1 a2).2.2=2/\(mergeF a0 a1 a2).2.1=[]/\(mergeF a0 a1 a2).1=zeroS):=by
 unfold mergeF
 split
 .exact .inl ⟨rfl,rfl⟩
 split
 .exact .inl ⟨rfl,rfl⟩
 split
 .exact .inl ⟨rfl,rfl⟩
 unfold mergeG
 split
 .rename_i h; exact .inr (.inl ⟨rfl,h,rfl⟩)
 split
 .exact .inr (.inr ⟨rfl,rfl,rfl⟩)
 exact .inl ⟨rfl,rfl⟩
end Go.EL

namespace Go.EL
open Go.IntKind (i8 i16 i32 i64 u8 u16 u32 u64)
open Go Go.RowKit
abbrev Diff(l:List ByteArray):Prop:=l.Pairwise fun a b=>a≠b
theorem ZlQ{l:List ByteArray}(hd:Diff l){i:Nat}(hi:i<l.length):idxI l l[i]=(i:Int):=by
 have h0:0<=idxI l l[i]:=ZlP.2 (List.getElem_mem hi)
 have h1:=Zjk (l:=l) (v:=l[i]) (k:=(idxI l l[i]).toNat) (by omega)
 obtain⟨hj,e⟩:=List.getElem?_eq_some_iff.1 h1
 by_cases hij:(idxI l l[i]).toNat=i
 .omega
 exact absurd e (ZbO hd hj hi hij)
def nm(vars:List ByteArray)(m:M)(v:ByteArray):Int:=if h:0<=idxI vars v/\idxI vars v<8 then m ⟨(idxI vars v).toNat,by omega⟩ else 0
theorem ZhI{vars:List ByteArray}(hd:Diff vars)(m:M){i:Fin 8}(hi:i.val<vars.length):nm vars m vars[i.val]=m i:=by
 unfold nm
 have:=ZlQ hd hi
 rw[dif_pos (by have:=i.isLt; omega)]
 congr 1
 exact Fin.ext (by show (idxI vars vars[i.val]).toNat=i.val; omega)
theorem Zjw{vars:List ByteArray}(m:M){v:ByteArray}(h:v ∉ vars):nm vars m v=0:=by
 unfold nm
 rw[dif_neg fun k=>h (ZlP.1 k.1)]
def named(vars:List ByteArray)(p:List Za):List (Zj×(ByteArray->Int)):=p.map fun t=>(t.c,nm vars t.m)
def NamedEq(fr:List ByteArray)(p:List Za)(to:List ByteArray)(q:List Za):Prop:=∀ z,z ∈ named fr p↔z ∈ named to q
theorem NamedEq.refl(fr:List ByteArray)(p:List Za):NamedEq fr p fr p:=fun _=>Iff.rfl
theorem NamedEq.symm{fr to:List ByteArray}{p q:List Za}(h:NamedEq fr p to q):NamedEq to q fr p:=fun z=>(h z).symm
theorem NamedEq.trans{a b c:List ByteArray}{p q r:List Za}(h:NamedEq a p b q)(k:NamedEq b q c r):NamedEq a p c r:=fun z=>(h z).trans (k z)
theorem Zon{fr to:List ByteArray}(hf:Diff fr)(ht:Diff to)(lf:fr.length<=8)(lt:to.length<=8){m:M}(h:MonOk (idxS fr to) m):nm to (sigM (idxS fr to) m)=nm fr m:=by
 have hσ:=Zd2 hf lt
 funext v
 by_cases hv:v ∈ to
 .obtain⟨j,hj,rfl⟩:=List.mem_iff_getElem.1 hv
  rw[ZhI ht (i:=⟨j,by omega⟩) _ hj]
  by_cases hfv:to[j] ∈ fr
  .obtain⟨i,hi,e⟩:=List.mem_iff_getElem.1 hfv
   have hs:idxS fr to i=some j:=by
    have h0:=ZlQ ht hj
    rw[ZhF hi (by rw[e]; omega),e,h0,Int.toNat_natCast]
   rw[show sigM (idxS fr to) m ⟨j,by omega⟩=m ⟨i,by omega⟩ from Zkc hσ m (i:=⟨i,by omega⟩) hs,<- e,ZhI hf (i:=⟨i,by omega⟩) m hi]
  rw[Zjw _ hfv]
  refine ZkP _ _ fun i _ hi=>hfv ?_
  obtain⟨u,h1,h2⟩:=Zcp hi
  rw[List.getElem?_eq_getElem hj] at h2
  cases h2
  exact List.mem_of_getElem? h1
 rw[Zjw _ hv]
 by_cases hfv:v ∈ fr
 .obtain⟨i,hi,rfl⟩:=List.mem_iff_getElem.1 hfv
  rw[ZhI hf (i:=⟨i,by omega⟩) m hi]
  have h0:¬ 0<m ⟨i,by omega⟩:=fun h0=>by
   obtain⟨j,hj⟩:=h.map _ h0
   obtain⟨u,h1,h2⟩:=Zcp hj
   rw[List.getElem?_eq_getElem hi] at h1
   cases h1
   exact hv (List.mem_of_getElem? h2)
  have:=h.nn ⟨i,by omega⟩
  omega
 rw[Zjw _ hfv]
theorem Zhs{fr to:List ByteArray}(hf:Diff fr)(ht:Diff to)(lf:fr.length<=8)(lt:to.length<=8){p:List Za}(hp:PolFit fr.length p)(hm:missP fr to p=[]):NamedEq fr p to (trP fr to p):=by
 have hs:=Zck lf hp hm
 have hσ:=Zd2 hf lt
 intro z
 unfold named
 rw[List.mem_map,List.mem_map]
 constructor
 .rintro⟨t,h1,rfl⟩
  exact⟨⟨t.c,sigM _ t.m⟩,(ZfX (hs.inj hσ) hs.pol.ord).2 ⟨t,h1,rfl⟩,by rw[Zon hf ht lf lt (hs.mon t h1)]⟩
 rintro⟨u,h1,rfl⟩
 obtain⟨t,h2,rfl⟩:=(ZfX (hs.inj hσ) hs.pol.ord).1 h1
 exact⟨t,h2,by rw[Zon hf ht lf lt (hs.mon t h2)]⟩
theorem ZkF{fr to:List ByteArray}{p:List Za}:∀ k,(∀ i,i<k->missB2 fr to p i=false)->missTo fr to p k=[]
 | 0,_=>rfl
 | k+1,h=>by
  simp only[missTo]
  rw[ZkF k fun i hi=>h i (by omega),h k (by omega)]
  rfl
theorem Zjv{fr to:List ByteArray}(hf:Diff fr){p q:List Za}(h:NamedEq fr p to q):missP fr to p=[]:=by
 refine ZkF _ fun i hi=>?_
 unfold missB2
 split
 .rename_i hb
  cases ho:Occurs ⟨i,hb.2⟩ p with
  | false=>rfl
  | true=>
   rw[Bool.true_and]
   refine decide_eq_false fun hn=>?_
   obtain⟨t,h1,h2⟩:=List.any_eq_true.1 ho
   have h2:=of_decide_eq_true h2
   obtain⟨u,h3,h4⟩:=List.mem_map.1 ((h (t.c,nm fr t.m)).1 (List.mem_map.2 ⟨t,h1,rfl⟩))
   have h5:=congrFun (congrArg Prod.snd h4) fr[i]
   simp only at h5
   rw[ZhI hf (i:=⟨i,hb.2⟩) t.m hi,Zjw _ (Zjl hn)] at h5
   omega
 rfl
theorem ZqQ{vars:List ByteArray}(hd:Diff vars){a b:M}(ha:∀ i:Fin 8,vars.length<=i.val->a i=0)(hb:∀ i:Fin 8,vars.length<=i.val->b i=0)(e:nm vars a=nm vars b):a=b:=by
 funext i
 by_cases hi:i.val<vars.length
 .rw[<- ZhI hd a hi,<- ZhI hd b hi,e]
 rw[ha i (by omega),hb i (by omega)]
theorem ZlM{n:Nat}(hn:n<=8){p:List Za}(hp:PolFit n p):∀ t ∈ p,∀ i:Fin 8,n<=i.val->t.m i=0:=fun t ht i hi=>by
 have h1:=((Zdb hn).1 hp.2).1 t ht i hi
 have h2:=((hp.1.trm t ht).m i).1
 omega
theorem Zn7{p q:List Za}(hp:Desc p)(hq:Desc q)(h:∀ t,t ∈ p↔t ∈ q):p=q:=by
 refine ZjC hq ((List.perm_ext_iff_of_nodup ?_ ?_).2 h) (Zkr hp)
 .exact (Zay hp).imp fun h e=>h (by rw[e])
 exact (Zay hq).imp fun h e=>h (by rw[e])
theorem Zok{to:List ByteArray}(ht:Diff to)(lt:to.length<=8){p q:List Za}(hp:PolFit to.length p)(hq:PolFit to.length q)(h:NamedEq to p to q):p=q:=by
 have key:∀ {p q:List Za},PolFit to.length p->PolFit to.length q->NamedEq to p to q->∀ t ∈ p,t ∈ q:=fun {p q} hp hq h t hm=>by
  obtain⟨u,h1,h2⟩:=List.mem_map.1 ((h (t.c,nm to t.m)).1 (List.mem_map.2 ⟨t,hm,rfl⟩))
  have e1:u.c=t.c:=congrArg Prod.fst h2
  have e2:u.m=t.m:=ZqQ ht (ZlM lt hq u h1) (ZlM lt hp t hm) (congrArg Prod.snd h2)
  cases u; cases t
  simp only at e1 e2
  subst e1 e2
  exact h1
 exact Zn7 hp.1.ord hq.1.ord fun t=>⟨key hp hq h t,key hq hp h.symm t⟩
theorem Znb{fr to:List ByteArray}(hf:Diff fr)(ht:Diff to)(lf:fr.length<=8)(lt:to.length<=8){p q:List Za}(hp:PolFit fr.length p)(hq:PolFit to.length q):((trF fr to p).2=true/\(trF fr to p).1=q)↔NamedEq fr p to q:=by
 constructor
 .intro h
  by_cases hm:missP fr to p=[]
  .have e:trF fr to p=(trP fr to p,true):=by unfold trF; rw[if_pos hm]
   rw[e] at h
   rw[<- h.2]
   exact Zhs hf ht lf lt hp hm
  have e:trF fr to p=([],false):=by unfold trF; rw[if_neg hm]
  rw[e] at h
  cases h.1
 intro h
 have hm:=Zjv hf h
 have e:trF fr to p=(trP fr to p,true):=by unfold trF; rw[if_pos hm]
 rw[e]
 exact⟨rfl,Zok ht lt (Zep hf lt (Zck lf hp hm)) hq ((Zhs hf ht lf lt hp hm).symm.trans h)⟩
def Says(s:List ByteArray)(u:Option Zh)(t:List ByteArray)(v:Option Zh):Prop:=match u,v with
 | some u,some v=>u.neq=v.neq/\NamedEq s u.p t v.p
 | none,none=>True
 | _,_=>False
theorem Says.refl(s:List ByteArray)(u:Option Zh):Says s u s u:=by
 cases u with
 | none=>trivial
 | some u=>exact⟨rfl,NamedEq.refl _ _⟩
theorem Says.symm{s t:List ByteArray}{u v:Option Zh}(h:Says s u t v):Says t v s u:=by
 cases u with
 | none=>cases v with
  | none=>trivial
  | some v=>cases h
 | some u=>cases v with
  | none=>cases h
  | some v=>exact⟨h.1.symm,h.2.symm⟩
theorem Says.trans{r s t:List ByteArray}{u v w:Option Zh}(h:Says r u s v)(k:Says s v t w):Says r u t w:=by
 cases u with
 | none=>cases v with
  | none=>cases w with
   | none=>trivial
   | some w=>cases k
  | some v=>cases h
 | some u=>cases v with
  | none=>cases h
  | some v=>cases w with
   | none=>cases k
   | some w=>exact⟨h.1.trans k.1,h.2.trans k.2⟩
theorem ZiD{s t:Zb}(hs:Good s)(ht:Good t)(x:Int):likeF s t x=true↔Says s.vars (entO s x) t.vars (entO t x):=by
 have l1:=hs.vars
 have l2:=ht.vars
 unfold likeF
 cases h1:entO s x with
 | none=>cases h2:entO t x with
  | none=>exact⟨fun _=>trivial,fun _=>rfl⟩
  | some v=>exact⟨fun h=>(nomatch h),fun h=>(nomatch h)⟩
 | some u=>cases h2:entO t x with
  | none=>exact⟨fun h=>(nomatch h),fun h=>(nomatch h)⟩
  | some v=>
   show (decide (u.neq=v.neq) && ((trF s.vars t.vars u.p).2 && decide ((trF s.vars t.vars u.p).1=v.p)))=true↔_
   rw[Bool.and_eq_true,Bool.and_eq_true,decide_eq_true_eq,decide_eq_true_eq,Znb hs.diff ht.diff (by omega) (by omega) (Zby hs h1) (Zby ht h2)]
   exact Iff.rfl
theorem ZkC{l:List Zc}{neq:Bool}{id:Int}:mget (entL neq l) id=(findQ l id).map fun q=>⟨q.p,neq⟩:=by
 induction l with
 | nil=>rfl
 | cons q l ih=>
  show (if q.id=id then some (⟨q.p,neq⟩:Zh) else mget (entL neq l) id)=_
  unfold findQ at ih ⊢
  rw[List.find?_cons]
  by_cases e:q.id=id
  .rw[if_pos e,decide_eq_true e]; rfl
  rw[if_neg e,decide_eq_false e]; exact ih
theorem ZmH{K V:Type}[DecidableEq K](a b:List (K×V))(k:K):mget (a++b) k=match mget a k with|some x=>some x|none=>mget b k:=by
 induction a with
 | nil=>rfl
 | cons p a ih=>
  show (if p.1=k then some p.2 else mget (a++b) k)=_
  simp only[mget]
  split
  .rfl
  exact ih
theorem Zp1(s:Zb)(id:Int):entO s id=match findQ s.eqs id with|some q=>some ⟨q.p,false⟩|none=>(findQ s.neqs id).map fun q=>⟨q.p,true⟩:=by
 unfold entO entF
 rw[ZmH,ZkC,ZkC]
 cases findQ s.eqs id <;> rfl
end Go.EL

namespace Go.EL
open Go.IntKind (i8 i16 i32 i64 u8 u16 u32 u64)
open Go Go.RowKit
abbrev idsP(P:List Zf):List Int:=P.map (·.id)
theorem ZiN{s:Zb}{x:Int}:∀ y ∈ pickO s x,y.id=x:=fun y hy=>by
 unfold pickO at hy
 cases h1:entO s x with
 | none=>rw[h1] at hy; cases hy
 | some u=>rw[h1] at hy; rw[List.mem_singleton.1 hy]
theorem ZiU{a0 a1 a2:Zb}{x:Int}:∀ y ∈ (stepO a0 a1 a2 x).1,y.id=x:=fun y hy=>by
 unfold stepO at hy
 split at hy
 .exact ZiN y hy
 split at hy
 .exact ZiN y hy
 split at hy
 .exact ZiN y hy
 cases hy
theorem Zox{l:List Zf}(h:l.length<=1):(idsP l).Pairwise (· < ·):=by
 match l,h with
 | [],_=>exact List.Pairwise.nil
 | [_],_=>exact List.pairwise_singleton _ _
theorem Zcs{a0 a1 a2:Zb}:∀ {l:List Int},l.Pairwise (· < ·)->(∀ y ∈ (oldTo a0 a1 a2 l).1,y.id ∈ l/\y.id<a0.next)/\(idsP (oldTo a0 a1 a2 l).1).Pairwise (· < ·)
 | [],_=>⟨fun y hy=>(nomatch hy),List.Pairwise.nil⟩
 | x::l,h=>by
  obtain⟨h1,h2⟩:=List.pairwise_cons.1 h
  obtain⟨k1,k2⟩:=Zcs (a0:=a0) (a1:=a1) (a2:=a2) h2
  unfold oldTo
  split
  .exact⟨fun y hy=>(nomatch hy),List.Pairwise.nil⟩
  rename_i hn
  refine⟨fun y hy=>?_,?_⟩
  .rcases List.mem_append.1 hy with hy|hy
   .rw[ZiU y hy]; exact⟨by simp,by omega⟩
   exact⟨List.mem_cons_of_mem _ (k1 y hy).1,(k1 y hy).2⟩
  show (idsP (_++_)).Pairwise _
  unfold idsP
  rw[List.map_append]
  refine List.pairwise_append.2 ⟨Zox (ZkQ a0 a1 a2 x).1,k2,fun i hi j hj=>?_⟩
  obtain⟨y,hy,rfl⟩:=List.mem_map.1 hi
  obtain⟨z,hz,rfl⟩:=List.mem_map.1 hj
  rw[ZiU y hy]
  exact h1 _ (k1 z hz).1
theorem ZiK{a0 a1 a2:Zb}:∀ {l:List Int},l.Pairwise (· < ·)->∀ x ∈ l,x<a0.next->(∀ y ∈ (stepO a0 a1 a2 x).1,y ∈ (oldTo a0 a1 a2 l).1)/\(∀ y ∈ (oldTo a0 a1 a2 l).1,y.id=x->y ∈ (stepO a0 a1 a2 x).1)/\∀ c ∈ (stepO a0 a1 a2 x).2,c ∈ (oldTo a0 a1 a2 l).2
 | [],_,x,hx,_=>by cases hx
 | z::l,h,x,hx,hn=>by
  obtain⟨h1,h2⟩:=List.pairwise_cons.1 h
  have hzn:¬ a0.next<=z:=by
   rcases List.mem_cons.1 hx with rfl|hx
   .omega
   have:=h1 x hx; omega
  have e:oldTo a0 a1 a2 (z::l)=((stepO a0 a1 a2 z).1++(oldTo a0 a1 a2 l).1,(stepO a0 a1 a2 z).2++(oldTo a0 a1 a2 l).2):=if_neg hzn
  rw[e]
  rcases List.mem_cons.1 hx with rfl|hx
  .refine⟨fun y hy=>List.mem_append_left _ hy,fun y hy ey=>?_,fun c hc=>List.mem_append_left _ hc⟩
   rcases List.mem_append.1 hy with hy|hy
   .exact hy
   have:=h1 _ ((Zcs h2).1 y hy).1; omega
  obtain⟨k1,k2,k3⟩:=ZiK h2 x hx hn
  refine⟨fun y hy=>List.mem_append_right _ (k1 y hy),fun y hy ey=>?_,fun c hc=>List.mem_append_right _ (k3 c hc)⟩
  rcases List.mem_append.1 hy with hy|hy
  .have:=ZiU y hy
   have:=h1 x hx
   omega
  exact k2 y hy ey
theorem Zl1(s:Zb):∀ (l:List Int) (n:Int),(idsP (numP s n l)).Pairwise (· < ·)
 | [],_=>List.Pairwise.nil
 | x::l,n=>List.pairwise_cons.2 ⟨fun j hj=>by
   obtain⟨y,hy,rfl⟩:=List.mem_map.1 hj
   obtain⟨m,_,_,h1,_,rfl⟩:=Zev hy
   show n<m
   omega,Zl1 s l (n+1)⟩
theorem Zeu{a0 a:Zb}{x:Int}:x ∈ newL a0 a↔x ∈ idsS a/\a0.next<=x:=by
 unfold newL
 rw[List.mem_filter,Zaq,decide_eq_true_eq]
theorem Zf1{a0 a1 a2:Zb}(h1:Good a1):(idsP (newF a0 a1 a2).1).Pairwise (· < ·)/\∀ y ∈ (newF a0 a1 a2).1,a0.next<=y.id/\y.id<(newF a0 a1 a2).2:=by
 have hfr:a0.next<=freshN a0 a1/\a1.next<=freshN a0 a1:=by unfold freshN; split <;> omega
 have h2:∀ y ∈ (newL a0 a1).map (fun x=>pickD a1 x x),a0.next<=y.id/\y.id<a1.next:=fun y hy=>by
  obtain⟨x,hx,rfl⟩:=List.mem_map.1 hy
  have:=Zeu.1 hx
  exact⟨this.2,(Zbb h1 this.1).2⟩
 have h3:∀ y ∈ numP a2 (freshN a0 a1) (newL a0 a2),freshN a0 a1<=y.id/\y.id<freshN a0 a1+((newL a0 a2).length:Int):=fun y hy=>by
  obtain⟨m,_,_,k1,k2,rfl⟩:=Zev hy
  exact⟨k1,k2⟩
 refine⟨?_,fun y hy=>?_⟩
 .show (idsP (_++_)).Pairwise _
  unfold idsP
  rw[List.map_append]
  refine List.pairwise_append.2 ⟨?_,Zl1 _ _ _,fun i hi j hj=>?_⟩
  .rw[List.map_map]
   have:((fun x:Zf=>x.id) ∘ fun x=>pickD a1 x x)=fun x:Int=>x:=rfl
   rw[this,List.map_id']
   exact (ZbK _).filter _
  obtain⟨y,hy,rfl⟩:=List.mem_map.1 hi
  obtain⟨z,hz,rfl⟩:=List.mem_map.1 hj
  have:=h2 y hy
  have:=h3 z hz
  omega
 show a0.next<=y.id/\y.id<freshN a0 a1+((newL a0 a2).length:Int)
 rcases List.mem_append.1 hy with hy|hy
 .have:=h2 y hy; omega
 have:=h3 y hy; omega
abbrev allP(a0 a1 a2:Zb):List Zf:=(oldF a0 a1 a2).1++(newF a0 a1 a2).1
theorem ZlD{a0 a1 a2:Zb}(h1:Good a1):(idsP (allP a0 a1 a2)).Pairwise (· < ·):=by
 have ho:=Zcs (a0:=a0) (a1:=a1) (a2:=a2) (ZbK (idsS a0++(idsS a1++idsS a2)))
 obtain⟨n1,n2⟩:=Zf1 (a0:=a0) (a2:=a2) h1
 unfold allP idsP
 rw[List.map_append]
 refine List.pairwise_append.2 ⟨ho.2,n1,fun i hi j hj=>?_⟩
 obtain⟨y,hy,rfl⟩:=List.mem_map.1 hi
 obtain⟨z,hz,rfl⟩:=List.mem_map.1 hj
 have:=(ho.1 y hy).2
 have:=(n2 z hz).1
 omega
theorem ZoW{a0 a1 a2:Zb}(h1:Good a1){y z:Zf}(hy:y ∈ allP a0 a1 a2)(hz:z ∈ allP a0 a1 a2)(e:y.id=z.id):y=z:=by
 have hp:=List.pairwise_map.1 (ZlD (a0:=a0) (a2:=a2) h1)
 obtain⟨i,hi,rfl⟩:=List.mem_iff_getElem.1 hy
 obtain⟨j,hj,rfl⟩:=List.mem_iff_getElem.1 hz
 rcases Nat.lt_trichotomy i j with hij|hij|hij
 .have:=List.pairwise_iff_getElem.1 hp i j hi hj hij; omega
 .subst hij; rfl
 have:=List.pairwise_iff_getElem.1 hp j i hj hi hij; omega
structure WentWell (a0 a1 a2:Zb):Prop where
 miss:∀ y ∈ allP a0 a1 a2,missP y.from'.vars (variablesF a0.vars a1.vars a2.vars) y.entry.p=[]
 conf:(oldF a0 a1 a2).2=[]
 vars:(variablesF a0.vars a1.vars a2.vars).length<=4
 eqs:(mergeSys a0 a1 a2).eqs.length<=12
 neqs:(mergeSys a0 a1 a2).neqs.length<=12
 next:(newF a0 a1 a2).2<=1000000
theorem ZoN{a0 a1 a2:Zb}(h:(mergeG a0 a1 a2).2.2=0):(mergeG a0 a1 a2).1=mergeSys a0 a1 a2/\WentWell a0 a1 a2:=by
 unfold mergeG at h ⊢
 by_cases c:0<(confF a0 a1 a2).length
 .rw[if_pos c] at h; cases h
 rw[if_neg c] at h ⊢
 split at h
 .cases h
 rename_i d
 rw[if_neg d]
 have hnil:confF a0 a1 a2=[]:=List.length_eq_zero_iff.1 (by omega)
 unfold confF at hnil
 obtain⟨q1,q2⟩:=List.append_eq_nil_iff.1 hnil
 have q3:=ZpF.1 (List.map_eq_nil_iff.1 q1)
 refine⟨rfl,fun y hy=>?_,q2,?_,?_,?_,?_⟩
 .exact List.flatMap_eq_nil_iff.1 q3 y hy
 .exact Nat.le_of_not_lt fun k=>d (.inl k)
 .exact Nat.le_of_not_lt fun k=>d (.inr (.inl k))
 .exact Nat.le_of_not_lt fun k=>d (.inr (.inr (.inl k)))
 exact Int.not_lt.1 fun k=>d (.inr (.inr (.inr k)))
section
variable {a0 a1 a2:Zb}
theorem ZoY(h1:Good a1)(h2:Good a2):∀ y ∈ allP a0 a1 a2,PickOk y:=fun y hy=>by
 rcases List.mem_append.1 hy with hy|hy
 .exact ZiL h1 h2 _ y hy
 exact Zm4 h1 h2 y hy
theorem ZoM(w:WentWell a0 a1 a2)(h1:Good a1)(h2:Good a2){y:Zf}(hy:y ∈ allP a0 a1 a2):PolFit (variablesF a0.vars a1.vars a2.vars).length (putE (variablesF a0.vars a1.vars a2.vars) y).p/\NamedEq (variablesF a0.vars a1.vars a2.vars) (putE (variablesF a0.vars a1.vars a2.vars) y).p y.from'.vars y.entry.p:=by
 have hk:=ZoY h1 h2 y hy
 have hm:=w.miss y hy
 have lv:=hk.from'.vars
 have hd:=ZfA (base:=a0.vars) h1.diff h2.diff
 have hw:=w.vars
 have e:(putE (variablesF a0.vars a1.vars a2.vars) y).p=trP y.from'.vars (variablesF a0.vars a1.vars a2.vars) y.entry.p:=by
  show (trF _ _ _).1=_
  unfold trF
  rw[if_pos hm]
 rw[e]
 exact⟨Zep hk.from'.diff (by omega) (Zck (by omega) hk.fit hm),(Zhs hk.from'.diff hd (by omega) (by omega) hk.fit hm).symm⟩
theorem Zlc{v:ByteArray}(h:v ∈ variablesF a0.vars a1.vars a2.vars):v ∈ a1.vars\/v ∈ a2.vars:=by
 unfold variablesF at h
 split at h
 .exact .inr h
 rcases List.mem_append.1 h with h|h
 .exact .inl (List.mem_filter.1 h).1
 exact .inr (List.mem_filter.1 h).1
theorem ZkX(w:WentWell a0 a1 a2)(h0:Good a0)(h1:Good a1)(h2:Good a2):Good (mergeSys a0 a1 a2):=by
 have hinc:=List.pairwise_map.1 (ZlD (a0:=a0) (a2:=a2) h1)
 have hid:∀ y ∈ allP a0 a1 a2,1<=y.id/\y.id<(newF a0 a1 a2).2:=fun y hy=>by
  obtain⟨_,n2⟩:=Zf1 (a0:=a0) (a2:=a2) h1
  have hn:=h0.next
  have hf:a0.next<=(newF a0 a1 a2).2:=by
   show a0.next<=freshN a0 a1+_
   have:a0.next<=freshN a0 a1:=by unfold freshN; split <;> omega
   omega
  rcases List.mem_append.1 hy with hy|hy
  .have ho:=(Zcs (a0:=a0) (a1:=a1) (a2:=a2) (ZbK (idsS a0++(idsS a1++idsS a2)))).1 y hy
   have hm:=Zaq.1 ho.1
   have:1<=y.id:=by
    rcases List.mem_append.1 hm with hm|hm
    .exact (Zbb h0 hm).1
    rcases List.mem_append.1 hm with hm|hm
    .exact (Zbb h1 hm).1
    exact (Zbb h2 hm).1
   omega
  have:=n2 y hy; omega
 have half:∀ (f:Zf->Bool),(((allP a0 a1 a2).filter f).map (putE (variablesF a0.vars a1.vars a2.vars))).length<=12->EqsOk (variablesF a0.vars a1.vars a2.vars).length (newF a0 a1 a2).2 (((allP a0 a1 a2).filter f).map (putE (variablesF a0.vars a1.vars a2.vars))):=fun f hl=>{
  len:=hl
  ids:=fun q hq=>by
   obtain⟨y,hy,rfl⟩:=List.mem_map.1 hq
   exact hid y (List.mem_filter.1 hy).1
  inc:=List.pairwise_map.2 (hinc.filter f)
  pol:=fun q hq=>by
   obtain⟨y,hy,rfl⟩:=List.mem_map.1 hq
   exact (ZoM w h1 h2 (List.mem_filter.1 hy).1).1 }
 have hn:1<=(newF a0 a1 a2).2:=by
  show 1<=freshN a0 a1+_
  have:=h0.next
  have:a0.next<=freshN a0 a1:=by unfold freshN; split <;> omega
  omega
 exact {
  vars:=w.vars
  name:=fun v hv=>(Zlc hv).elim (h1.name v) (h2.name v)
  diff:=ZfA h1.diff h2.diff
  next:=⟨hn,w.next⟩
  eqs:=half _ w.eqs
  neqs:=half _ w.neqs
  apart:=fun p hp q hq e=>by
   obtain⟨y,hy,rfl⟩:=List.mem_map.1 hp
   obtain⟨z,hz,rfl⟩:=List.mem_map.1 hq
   obtain⟨y1,y2⟩:=List.mem_filter.1 hy
   obtain⟨z1,z2⟩:=List.mem_filter.1 hz
   have:=ZoW h1 y1 z1 e
   subst this
   rw[z2] at y2
   cases y2 }
theorem Zp2{s:Zb}(h:Good s){x:Int}{u:Zh}(hm:(x,u) ∈ entF s):entO s x=some u:=by
 obtain⟨v,hv⟩:=Zkt (s:=s) (id:=x) (by rw[<- Z1]; exact List.mem_map.2 ⟨_,hm,rfl⟩)
 have h2:=ZlF hv
 have hnd:=Zkw h
 rw[<- Z1] at hnd
 obtain⟨i,hi,e1⟩:=List.mem_iff_getElem.1 hm
 obtain⟨j,hj,e2⟩:=List.mem_iff_getElem.1 h2
 have:i=j:=by
  have hp:=List.pairwise_map.1 hnd
  rcases Nat.lt_trichotomy i j with hij|hij|hij
  .exact absurd (by rw[e1,e2]) (List.pairwise_iff_getElem.1 hp i j hi hj hij)
  .exact hij
  exact absurd (by rw[e1,e2]) (List.pairwise_iff_getElem.1 hp j i hj hi hij)
 subst this
 rw[hv]
 rw[e1] at e2
 cases e2
 rfl
theorem Zqy(w:WentWell a0 a1 a2)(h0:Good a0)(h1:Good a1)(h2:Good a2){y:Zf}(hy:y ∈ allP a0 a1 a2):entO (mergeSys a0 a1 a2) y.id=some ⟨(putE (variablesF a0.vars a1.vars a2.vars) y).p,y.entry.neq⟩:=by
 refine Zp2 (ZkX w h0 h1 h2) ?_
 cases hn:y.entry.neq with
 | false=>exact List.mem_append_left _ (List.mem_map.2 ⟨_,List.mem_map.2 ⟨y,List.mem_filter.2 ⟨hy,by rw[hn]; rfl⟩,rfl⟩,rfl⟩)
 | true=>exact List.mem_append_right _ (List.mem_map.2 ⟨_,List.mem_map.2 ⟨y,List.mem_filter.2 ⟨hy,hn⟩,rfl⟩,rfl⟩)
theorem Zey{x:Int}:x ∈ idsS (mergeSys a0 a1 a2)↔∃ y ∈ allP a0 a1 a2,y.id=x:=by
 unfold idsS
 rw[List.mem_append]
 constructor
 .rintro (h|h)
  .obtain⟨q,hq,rfl⟩:=List.mem_map.1 h
   obtain⟨y,hy,rfl⟩:=List.mem_map.1 hq
   exact⟨y,(List.mem_filter.1 hy).1,rfl⟩
  obtain⟨q,hq,rfl⟩:=List.mem_map.1 h
  obtain⟨y,hy,rfl⟩:=List.mem_map.1 hq
  exact⟨y,(List.mem_filter.1 hy).1,rfl⟩
 rintro⟨y,hy,rfl⟩
 cases hn:y.entry.neq with
 | false=>exact .inl (List.mem_map.2 ⟨_,List.mem_map.2 ⟨y,List.mem_filter.2 ⟨hy,by rw[hn]; rfl⟩,rfl⟩,rfl⟩)
 | true=>exact .inr (List.mem_map.2 ⟨_,List.mem_map.2 ⟨y,List.mem_filter.2 ⟨hy,hn⟩,rfl⟩,rfl⟩)
theorem ZeU(w:WentWell a0 a1 a2)(h0:Good a0)(h1:Good a1)(h2:Good a2){y:Zf}(hy:y ∈ allP a0 a1 a2){x:Int}(hx:entO y.from' x=some y.entry):Says (mergeSys a0 a1 a2).vars (entO (mergeSys a0 a1 a2) y.id) y.from'.vars (entO y.from' x):=by
 rw[Zqy w h0 h1 h2 hy,hx]
 exact⟨rfl,(ZoM w h1 h2 hy).2⟩
theorem Zjz(w:WentWell a0 a1 a2)(h0:Good a0)(h1:Good a1)(h2:Good a2){s:Zb}{x:Int}(hm:∀ y ∈ pickO s x,y ∈ allP a0 a1 a2)(ho:∀ y ∈ allP a0 a1 a2,y.id=x->y ∈ pickO s x):Says (mergeSys a0 a1 a2).vars (entO (mergeSys a0 a1 a2) x) s.vars (entO s x):=by
 cases he:entO s x with
 | none=>
  have e:pickO s x=[]:=by unfold pickO; rw[he]
  have hn:entO (mergeSys a0 a1 a2) x=none:=ZeJ fun hi=>by
   obtain⟨y,hy,ey⟩:=Zey.1 hi
   have:=ho y hy ey
   rw[e] at this
   cases this
  rw[hn]
  trivial
 | some u=>
  have e:pickO s x=[⟨x,u,s⟩]:=by unfold pickO; rw[he]
  have:=ZeU w h0 h1 h2 (hm ⟨x,u,s⟩ (by rw[e]; simp)) (x:=x) he
  rw[<- he]
  exact this
end
structure MergeOk (s a b m:Zb):Prop where
 good:Good m
 old1:∀ x,x<s.next->Says s.vars (entO s x) a.vars (entO a x)->Says m.vars (entO m x) b.vars (entO b x)
 old2:∀ x,x<s.next->Says s.vars (entO s x) b.vars (entO b x)->Says m.vars (entO m x) a.vars (entO a x)
 new1:∀ x ∈ idsS a,s.next<=x->∃ y ∈ idsS m,Says m.vars (entO m y) a.vars (entO a x)
 new2:∀ x ∈ idsS b,s.next<=x->∃ y ∈ idsS m,Says m.vars (entO m y) b.vars (entO b x)
 from':∀ x ∈ idsS m,(∃ y,Says m.vars (entO m x) a.vars (entO a y))\/∃ y,Says m.vars (entO m x) b.vars (entO b y)
theorem Zl0(s:Zb){x:Int}:∀ {l:List Int}{n:Int},x ∈ l->∃ m,pickD s m x ∈ numP s n l
 | z::l,n,h=>by
  rcases List.mem_cons.1 h with rfl|h
  .exact⟨n,List.mem_cons_self⟩
  obtain⟨m,hm⟩:=Zl0 s (n:=n+1) h
  exact⟨m,List.mem_cons_of_mem _ hm⟩
theorem ZeO{s:Zb}{x:Int}(hx:x ∈ idsS s)(n:Int):entO s x=some (pickD s n x).entry:=by
 obtain⟨u,hu⟩:=Zkt hx
 show _=some ((entO s x).getD _)
 rw[hu]
 rfl
theorem Zoi{a0 a1 a2:Zb}(h0:Good a0)(h1:Good a1)(h2:Good a2)(w:WentWell a0 a1 a2):MergeOk a0 a1 a2 (mergeSys a0 a1 a2):=by
 have hU:=ZbK (idsS a0++(idsS a1++idsS a2))
 have hin:∀ x,x ∈ uniI (idsS a0++(idsS a1++idsS a2))↔x ∈ idsS a0\/x ∈ idsS a1\/x ∈ idsS a2:=fun x=>by rw[Zaq,List.mem_append,List.mem_append]
 have key:∀ x,x<a0.next->x ∈ uniI (idsS a0++(idsS a1++idsS a2))->(∀ y ∈ (stepO a0 a1 a2 x).1,y ∈ allP a0 a1 a2)/\(∀ y ∈ allP a0 a1 a2,y.id=x->y ∈ (stepO a0 a1 a2 x).1):=fun x hx hm=>by
  obtain⟨k1,k2,_⟩:=ZiK (a0:=a0) (a1:=a1) (a2:=a2) hU x hm hx
  refine⟨fun y hy=>List.mem_append_left _ (k1 y hy),fun y hy e=>?_⟩
  rcases List.mem_append.1 hy with hy|hy
  .exact k2 y hy e
  have:=((Zf1 (a0:=a0) (a2:=a2) h1).2 y hy).1; omega
 have out:∀ x,x<a0.next->x ∉ uniI (idsS a0++(idsS a1++idsS a2))->entO (mergeSys a0 a1 a2) x=none:=fun x hx hm=>ZeJ fun hi=>by
  obtain⟨y,hy,e⟩:=Zey.1 hi
  rcases List.mem_append.1 hy with hy|hy
  .have:=((Zcs (a0:=a0) (a1:=a1) (a2:=a2) hU).1 y hy).1
   rw[e] at this
   exact hm this
  have:=((Zf1 (a0:=a0) (a2:=a2) h1).2 y hy).1; omega
 have at1:∀ x,x<a0.next->Says a0.vars (entO a0 x) a1.vars (entO a1 x)->Says (mergeSys a0 a1 a2).vars (entO (mergeSys a0 a1 a2) x) a2.vars (entO a2 x):=fun x hx hs=>by
  by_cases hm:x ∈ uniI (idsS a0++(idsS a1++idsS a2))
  .obtain⟨k1,k2⟩:=key x hx hm
   have e:stepO a0 a1 a2 x=(pickO a2 x,[]):=if_pos ((ZiD h1 h0 x).2 hs.symm)
   rw[e] at k1 k2
   exact Zjz w h0 h1 h2 k1 k2
  rw[out x hx hm,ZeJ (s:=a2) fun h=>hm ((hin x).2 (.inr (.inr h)))]
  trivial
 refine⟨ZkX w h0 h1 h2,at1,fun x hx hs=>?_,fun x hx hn=>?_,fun x hx hn=>?_,fun x hx=>?_⟩
 .by_cases hm:x ∈ uniI (idsS a0++(idsS a1++idsS a2))
  .by_cases c:likeF a1 a0 x=true
   .have c':=(ZiD h1 h0 x).1 c
    exact (at1 x hx c'.symm).trans (hs.symm.trans c'.symm)
   obtain⟨k1,k2⟩:=key x hx hm
   have e:stepO a0 a1 a2 x=(pickO a1 x,[]):=by unfold stepO; rw[if_neg c,if_pos ((ZiD h2 h0 x).2 hs.symm)]
   rw[e] at k1 k2
   exact Zjz w h0 h1 h2 k1 k2
  rw[out x hx hm,ZeJ (s:=a1) fun h=>hm ((hin x).2 (.inr (.inl h)))]
  trivial
 .have hy:pickD a1 x x ∈ allP a0 a1 a2:=List.mem_append_right _ (List.mem_append_left _ (List.mem_map.2 ⟨x,Zeu.2 ⟨hx,hn⟩,rfl⟩))
  exact⟨x,Zey.2 ⟨_,hy,rfl⟩,ZeU w h0 h1 h2 hy (ZeO hx x)⟩
 .obtain⟨m,hm⟩:=Zl0 a2 (n:=freshN a0 a1) (Zeu.2 ⟨hx,hn⟩:x ∈ newL a0 a2)
  have hy:pickD a2 m x ∈ allP a0 a1 a2:=List.mem_append_right _ (List.mem_append_right _ hm)
  exact⟨m,Zey.2 ⟨_,hy,rfl⟩,ZeU w h0 h1 h2 hy (ZeO hx m)⟩
 obtain⟨y,hy,rfl⟩:=Zey.1 hx
 have src:(y.from'=a1\/y.from'=a2)/\∃ z,entO y.from' z=some y.entry:=by
  have hpick:∀ {s:Zb}{z:Int},y ∈ pickO s z->y.from'=s/\∃ z,entO y.from' z=some y.entry:=fun {s z} h=>by
   unfold pickO at h
   cases he:entO s z with
   | none=>rw[he] at h; cases h
   | some u=>rw[he] at h; rw[List.mem_singleton.1 h]; exact⟨rfl,z,he⟩
  rcases List.mem_append.1 hy with hy|hy
  .have ho:=(Zcs (a0:=a0) (a1:=a1) (a2:=a2) hU).1 y hy
   obtain⟨_,k2,_⟩:=ZiK (a0:=a0) (a1:=a1) (a2:=a2) hU y.id ho.1 ho.2
   have hs:=k2 y hy rfl
   unfold stepO at hs
   split at hs
   .have:=hpick hs; exact⟨.inr this.1,this.2⟩
   split at hs
   .have:=hpick hs; exact⟨.inl this.1,this.2⟩
   split at hs
   .have:=hpick hs; exact⟨.inl this.1,this.2⟩
   cases hs
  rcases List.mem_append.1 hy with hy|hy
  .obtain⟨x,hx2,rfl⟩:=List.mem_map.1 hy
   exact⟨.inl rfl,x,ZeO (Zeu.1 hx2).1 x⟩
  obtain⟨m,x,hx2,_,_,rfl⟩:=Zev hy
  exact⟨.inr rfl,x,ZeO (Zeu.1 hx2).1 m⟩
 obtain⟨hs,z,hz⟩:=src
 have:=ZeU w h0 h1 h2 hy hz
 rcases hs with hs|hs
 .rw[hs] at this; exact .inl ⟨z,this⟩
 rw[hs] at this; exact .inr ⟨z,this⟩
theorem Zpf{s a b:Zb}(hs:Good s)(ha:Good a)(hb:Good b)(h:(mergeF s a b).2.2=0):MergeOk s a b (mergeF s a b).1:=by
 unfold mergeF at h ⊢
 by_cases c1:a=s
 .rw[if_pos c1]
  subst c1
  exact⟨hb,fun x _ _=>Says.refl _ _,fun x _ k=>k.symm,fun x hx hn=>by have:=Zbb hs hx; omega,fun x hx _=>⟨x,hx,Says.refl _ _⟩,fun x _=>.inr ⟨x,Says.refl _ _⟩⟩
 rw[if_neg c1] at h ⊢
 by_cases c2:b=s
 .rw[if_pos c2]
  subst c2
  exact⟨ha,fun x _ k=>k.symm,fun x _ _=>Says.refl _ _,fun x hx _=>⟨x,hx,Says.refl _ _⟩,fun x hx hn=>by have:=Zbb hs hx; omega,fun x _=>.inl ⟨x,Says.refl _ _⟩⟩
 rw[if_neg c2] at h ⊢
 by_cases c3:b=a
 .rw[if_pos c3]
  subst c3
  exact⟨ha,fun x _ _=>Says.refl _ _,fun x _ _=>Says.refl _ _,fun x hx _=>⟨x,hx,Says.refl _ _⟩,fun x hx _=>⟨x,hx,Says.refl _ _⟩,fun x _=>.inl ⟨x,Says.refl _ _⟩⟩
 rw[if_neg c3] at h ⊢
 obtain⟨e,w⟩:=ZoN h
 rw[e]
 exact Zoi hs ha hb w
end Go.EL

namespace Go.EL
open Go.IntKind (i8 i16 i32 i64 u8 u16 u32 u64)
open Go Go.RowKit
theorem Zi7{l:List ByteArray}(hl:l.length<=100)(v:ByteArray):(ZeE l v).Ret (idxI l v):=by
 refine Cq.Zm l.length (fun k st=>st=(k:Int)/\idxI l v=idxFrom v (l.drop k) k) (fun k st hk hs=>?_) (fun st hs=>?_) ⟨rfl,rfl⟩
 .obtain⟨rfl,he⟩:=hs
  rw[List.drop_eq_getElem_cons hk] at he
  simp only[idxFrom] at he
  rw[Cq.Zd,if_pos (by omega)]
  refine⟨l[k],idxN hk,?_⟩
  rw[Cq.Zd]
  split
  .rename_i h
   rw[if_pos h] at he
   exact he.symm
  rename_i h
  rw[if_neg h] at he
  exact⟨wrapN (by omega),he⟩
 obtain⟨rfl,he⟩:=hs
 rw[Cq.Zd,if_neg (by omega)]
 rw[List.drop_length] at he
 exact he.symm
theorem Znc{k:Nat}(h:k<=8):u64.wrap (k:Int)=(k:Int):=by
 have:(between 0 8 fun x=>u64.wrap x == x)=true:=by decide +kernel
 have:=Zt this (x:=(k:Int)) (by omega) (by omega)
 simpa using this
theorem Zqx(p:List Za)(i:Fin 8):((u8.wrap (BitVec.ofInt u8.bits (Int.fdiv (usesP p) (2 ^ (min (u64.wrap (i.val:Int)).toNat u8.bits))) &&& BitVec.ofInt u8.bits 1).toNat)=1)↔Occurs i p=true:=by
 have hi:=i.isLt
 have hb:=Zgf p
 rw[Znc (by omega),Int.toNat_natCast,show min i.val u8.bits=i.val by simp only[IntKind.bits]; omega]
 have h:=ZdF p i
 rw[Nat.testBit_eq_decide_div_mod_eq,<- Nat.shiftRight_eq_div_pow] at h
 obtain⟨u,hu⟩:=Int.eq_ofNat_of_zero_le hb.1
 rw[hu] at h hb ⊢
 rw[Int.toNat_natCast] at h
 have hle:u >>> i.val<=u:=Nat.shiftRight_le u i.val
 rw[ZlL,show (1:Int)=((1:Nat):Int) from rfl,Zn5 (by omega) (by decide),Nat.and_one_is_mod]
 unfold Occurs
 rw[<- h,decide_eq_true_eq]
 omega
theorem ZgO{fr to:List ByteArray}{p:List Za}(hf:fr.length<=8)(ht:to.length<=100)(hp:p.length<=100):(Zfd p fr to).Ret (missP fr to p):=by
 show (Cq.next _ _).wp _
 refine Cq.Zm fr.length (fun k s=>s=(missTo fr to p k,(k:Int))) (fun k s hk hs=>?_) (fun s hs=>?_) rfl
 .subst hs
  refine Cq.wp.yes (p:=(k:Int)<(fr.length:Int)) (by omega) ?_
  have key:=Zqx p ⟨k,by omega⟩
  refine⟨_,Zcy hp,by rw[Znc (by omega)]; omega,?_⟩
  have hl:=ZdX fr to p k
  rw[Cq.Zd]
  have e0:missB2 fr to p k=(Occurs ⟨k,by omega⟩ p && decide (idxI to fr[k]<0)):=by unfold missB2; rw[dif_pos ⟨hk,by omega⟩]
  have e1:missTo fr to p (k+1)=missTo fr to p k++(if missB2 fr to p k=true then [fr[k]] else []):=by simp only[missTo,Zj2 hk]
  have k4:∀ b:Bool,b=missB2 fr to p k->∀ Φ:List ByteArray->Prop,(ZaR fr (missTo fr to p k) (k:Int) b).wp (Out (fun s'=>s'=(missTo fr to p (k+1),((k+1:Nat):Int))) Φ):=fun b hb Φ=>by
   unfold ZaR
   rw[Cq.Zd]
   cases b with
   | true=>
    rw[if_pos rfl]
    refine⟨fr[k],idxN hk,by simp[small]; omega,?_⟩
    show _=_
    rw[wrapN (by omega),e1,<- hb,if_pos rfl]
   | false=>
    rw[if_neg (by decide)]
    show _=_
    rw[wrapN (by omega),e1,<- hb,if_neg (by decide),List.append_nil]
  by_cases ho:Occurs ⟨k,by omega⟩ p=true
  .rw[if_pos (key.2 ho)]
   refine⟨fr[k],idxN hk,_,Zi7 ht fr[k],?_⟩
   exact k4 _ (by rw[e0,ho,Bool.true_and]) _
  rw[if_neg fun h=>ho (key.1 h)]
  exact k4 _ (by rw[e0,(Bool.not_eq_true _).mp ho,Bool.false_and]) _
 subst hs
 refine Cq.wp.no (p:=(fr.length:Int)<(fr.length:Int)) (by omega) ?_
 rfl
theorem ZoU:(between 0 7 fun j=>runs 60 (Zhw j) ([⟨ratI 1,varM j.toNat 1⟩],0))=true:=by decide +kernel
theorem ZoV{j:Nat}(h:j<8):(Zhw (j:Int)).Ret ([⟨ratI 1,varM j 1⟩],0):=by
 have:=ZF (Zt ZoU (x:=(j:Int)) (by omega) (by omega))
 simpa using this
theorem Zpu:(between (-12) 12 fun a=>runs 40 (Zhv (ratI a) (ratI 1)) (ratI a))=true:=by decide +kernel
theorem Zot:(between (-12) 12 fun a=>a == 0 || between (-12) 12 fun b=>b == 0 || runs 30 (Zc0 (ratI a) (ratI b)) (decide (a=b)))=true:=by decide +kernel
theorem Znz{a:Int}(h0:a≠0)(h1:-12<=a)(h2:a<=12){m n:M}(hm:Ok m)(hn:Ok n)(hmn:Ok (mulM m n)):(Zdv (ratI a) m [⟨ratI 1,n⟩]).Ret ([⟨ratI a,mulM m n⟩],0):=by
 have hs:=ZF (Zt Zgb (x:=a) (by omega) (by omega))
 refine⟨_,hs,?_⟩
 rw[Cq.Zd,if_neg (by split <;> first|omega|(split <;> omega))]
 show (Cq.next _ _).wp _
 refine Cq.Zm 1 (fun k s=>(k=0/\s=([],(0:Int)))\/(k=1/\s=([⟨ratI a,mulM m n⟩],(1:Int)))) (fun k s hk hs=>?_) (fun s hs=>?_) (.inl ⟨rfl,rfl⟩)
 .obtain⟨rfl,rfl⟩:=hs.resolve_right (by omega)
  rw[Cq.Zd,if_pos (by simp)]
  refine⟨⟨ratI 1,n⟩,⟨by decide,rfl⟩,_,ZhT hm hn hmn,?_⟩
  rw[Cq.Zd,if_neg (by simp)]
  exact⟨⟨ratI 1,n⟩,⟨by decide,rfl⟩,_,ZF (Zt Zpu h1 h2),by simp[small],.inr ⟨rfl,rfl⟩⟩
 obtain⟨_,rfl⟩:=hs.resolve_left (by omega)
 rw[Cq.Zd,if_neg (by simp)]
 rfl
theorem ZoT{a:Int}(h0:a≠0)(h1:-12<=a)(h2:a<=12){m n:M}(hm:Ok m)(hn:Ok n)(hmn:Ok (mulM m n)):(ZjR [⟨ratI a,m⟩] [⟨ratI 1,n⟩]).Ret ([⟨ratI a,mulM m n⟩],0):=by
 show (Cq.next _ _).wp _
 refine Cq.Zm 1 (fun k s=>(k=0/\s=([],(0:Int)))\/(k=1/\s=([⟨ratI a,mulM m n⟩],(1:Int)))) (fun k s hk hs=>?_) (fun s hs=>?_) (.inl ⟨rfl,rfl⟩)
 .obtain⟨rfl,rfl⟩:=hs.resolve_right (by omega)
  rw[Cq.Zd,if_pos (by simp)]
  refine⟨⟨ratI a,m⟩,⟨by decide,rfl⟩,⟨ratI a,m⟩,⟨by decide,rfl⟩,_,Znz h0 h1 h2 hm hn hmn,?_⟩
  rw[Cq.Zd,if_neg (by simp)]
  exact⟨_,Zdp (p:=[]) (by simp) (fun x hx=>absurd hx List.not_mem_nil),.inr ⟨rfl,rfl⟩⟩
 obtain⟨_,rfl⟩:=hs.resolve_left (by omega)
 rw[Cq.Zd,if_neg (by simp)]
 rfl
theorem Zk5{σ:Nat->Option Nat}{m:M}(hm:Mapped σ m):(Zeg m (qOf σ)).Ret false:=by
 show (Cq.next _ _).wp _
 refine Cq.Zm 8 (fun k s=>s=(k:Int)) (fun k s hk hs=>?_) (fun s hs=>?_) rfl
 .subst hs
  refine Cq.wp.yes (p:=(k:Int)<8) (by omega) ?_
  refine⟨by omega,?_⟩
  rw[getFN hk,Cq.Zd]
  split
  .rename_i h
   obtain⟨j,hj⟩:=hm ⟨k,hk⟩ h
   refine⟨_,ZhJ σ hk,?_⟩
   rw[show σ k=some j from hj,Cq.Zd,if_neg Zne,wrapN (by omega)]
   rfl
  rw[wrapN (by omega)]; rfl
 subst hs
 refine Cq.wp.no (p:=((8:Nat):Int)<8) (by omega) ?_
 rfl
theorem ZnA{t:Za}(h:TermOk t):(Zcx t.c).Ret [⟨t.c,fun _=>0⟩]:=by
 obtain⟨s,h1,h2⟩:=h.rs
 refine⟨s,h1,?_⟩
 rw[Cq.Zd,if_neg h2]
 rfl
theorem Zn0{σ:Nat->Option Nat}(hσ:SigOk σ){p:List Za}{k:Nat}(hk:k<p.length)(hc:∃ a:Int,p[k].c=ratI a/\a≠0/\-12<=a/\a<=12)(h:MonOk σ p[k].m){v:Nat}(hv:v<8):(ZgI p (qOf σ) (k:Int) (v:Int) ([⟨p[k].c,sigTo σ p[k].m v⟩],0)).Ret (.inr [⟨p[k].c,sigTo σ p[k].m (v+1)⟩]):=by
 have hl:=h.le ⟨v,hv⟩
 cases hs:σ v with
 | none=>
  have h0:¬ 0<p[k].m ⟨v,hv⟩:=fun h0=>by obtain⟨j,hj⟩:=h.map _ h0; rw[hs] at hj; cases hj
  have e:sigTo σ p[k].m (v+1)=sigTo σ p[k].m v:=by simp only[sigTo,dif_pos hv,hs]
  refine Cq.Zm 0 (fun i s=>s=([⟨p[k].c,sigTo σ p[k].m v⟩],(0:Int))) (fun i s hi _=>absurd hi (Nat.not_lt_zero i)) (fun s hs=>?_) rfl
  subst hs
  refine⟨p[k],idxN hk,by omega,?_⟩
  rw[getFN hv,Cq.Zd,if_neg (by omega),e]
  rfl
 | some j=>
  have hj8:=hσ.rng _ _ hs
  have e:sigTo σ p[k].m (v+1)=mulM (sigTo σ p[k].m v) (varM j (p[k].m ⟨v,hv⟩)):=by simp only[sigTo,dif_pos hv,hs]
  obtain⟨n,hn⟩:∃ n:Nat,p[k].m ⟨v,hv⟩=(n:Int):=⟨(p[k].m ⟨v,hv⟩).toNat,by omega⟩
  have hok:Ok (mulM (sigTo σ p[k].m v) (varM j (n:Int))):=by rw[<- hn,<- e]; exact Zdn hσ h (by omega)
  have hlow:∀ i:Nat,i<=n->Ok (mulM (sigTo σ p[k].m v) (varM j (i:Int))):=fun i hi x=>by
   have h1:=hok x
   have h2:=Zdn hσ h (k:=v) (by omega) x
   unfold mulM varM at h1 ⊢
   split at h1
   .rename_i e; rw[if_pos e]; omega
   rename_i e; rw[if_neg e]; omega
  obtain⟨a,ea,h0,h1,h2⟩:=hc
  rw[e,hn]
  refine Cq.Zm n (fun (i:Nat) (s:List Za×Int)=>s=([(⟨p[k].c,mulM (sigTo σ p[k].m v) (varM j (i:Int))⟩:Za)],(i:Int))) (fun i s hi hs2=>?_) (fun s hs2=>?_) (by rw[show ((0:Nat):Int)=0 from rfl,ZkW])
  .subst hs2
   refine⟨p[k],idxN hk,by omega,?_⟩
   rw[getFN hv,hn,Cq.Zd,if_pos (by omega)]
   refine⟨_,ZhJ σ hv,?_⟩
   rw[hs,ea]
   have hnx:=hlow (i+1) (by omega)
   have e2:mulM (mulM (sigTo σ p[k].m v) (varM j (i:Int))) (varM j 1)=mulM (sigTo σ p[k].m v) (varM j ((i+1:Nat):Int)):=by
    funext x; unfold mulM varM; split <;> omega
   have:=ZoT h0 h1 h2 (hlow i (by omega)) (Zd4 (j:=j) (e:=1) (by decide) (by decide)) (by rw[e2]; exact hnx)
   rw[e2] at this
   refine⟨_,this,?_⟩
   rw[Cq.Zd,if_neg (fun h=>h rfl),wrapN (by omega)]
   rfl
  subst hs2
  refine⟨p[k],idxN hk,by omega,?_⟩
  rw[getFN hv,hn,Cq.Zd,if_neg (by omega)]
  rfl
theorem ZnB{σ:Nat->Option Nat}(hσ:SigOk σ){p:List Za}{k:Nat}(hk:k<p.length)(hc:∃ a:Int,p[k].c=ratI a/\a≠0/\-12<=a/\a<=12)(h:MonOk σ p[k].m):(ZgH p (qOf σ) (k:Int) ([⟨p[k].c,fun _=>0⟩],0)).Ret (.inr [⟨p[k].c,sigM σ p[k].m⟩]):=by
 refine Cq.Zm 8 (fun v s=>s=([⟨p[k].c,sigTo σ p[k].m v⟩],(v:Int))) (fun v s hv hs=>?_) (fun s hs=>?_) rfl
 .subst hs
  refine Cq.wp.yes (p:=(v:Int)<8) (by omega) ?_
  refine (Zn0 hσ hk hc h hv).then ?_
  show _=_
  rw[wrapN (by omega)]
 subst hs
 refine Cq.wp.no (p:=((8:Nat):Int)<8) (by omega) ?_
 rfl
theorem Zo8{g:M->M}{p:List Za}(hg:InjOn g p)(hd:Desc p){k:Nat}(hk:k<p.length):∀ x ∈ genP g (p.take k),x.m≠(genT g p[k]).m:=by
 intro x hx e
 obtain⟨y,hy,rfl⟩:=List.mem_map.1 ((ZhE hg hd k (by omega)).1.mem_iff.1 hx)
 have hm:=hg _ (List.mem_of_mem_take hy) _ (List.getElem_mem hk) e
 obtain⟨i,hi,rfl⟩:=List.mem_iff_getElem.1 hy
 simp only[List.length_take] at hi
 rw[List.getElem_take] at hm
 exact List.pairwise_iff_getElem.1 (Zay hd) i k (by omega) hk (by omega) hm
theorem Zny{σ:Nat->Option Nat}(hσ:SigOk σ){p:List Za}(h:SubOk σ p):(ZgG p (qOf σ)).Ret (genP (sigM σ) p,0):=by
 have hl:=h.pol.len
 refine⟨_,Zfp h.pol,?_⟩
 have:=h.deg64
 rw[Cq.Zd,if_neg (by omega)]
 show (Cq.next _ _).wp _
 refine Cq.Zm p.length (fun k s=>s=(genP (sigM σ) (p.take k),(k:Int))) (fun k s hk hs=>?_) (fun s hs=>?_) (by simp[genP])
 .subst hs
  have hm:=h.mon _ (List.getElem_mem hk)
  have ht:=h.pol.at hk
  refine Cq.wp.yes (p:=(k:Int)<(p.length:Int)) (by omega) ?_
  refine⟨p[k],idxN hk,false,Zk5 hm.map,?_⟩
  rw[Cq.Zd,if_neg (by decide)]
  refine⟨p[k],idxN hk,_,ZnA ht,?_⟩
  refine (ZnB hσ hk ht.c hm).then ?_
  have hlen:=(ZhE (h.inj hσ) h.pol.ord k (by omega)).1.length_eq
  rw[List.length_map,List.length_take] at hlen
  refine⟨_,Zdp (by omega) (fun x hx e=>absurd e (Zo8 (h.inj hσ) h.pol.ord hk x hx)),?_⟩
  show _=_
  rw[wrapN (by omega),<- List.take_append_getElem hk,Zku]
  rfl
 subst hs
 show (if (p.length:Int)<(p.length:Int) then _ else _:Cq _).wp _
 rw[Cq.Zd,if_neg (by omega),List.take_length]
 rfl
theorem Zi8{fr to:List ByteArray}{p:List Za}(hd:Diff fr)(hf:fr.length<=8)(ht:to.length<=8)(hp:PolFit fr.length p)(hm:missP fr to p=[]):(Zc9 p fr to).Ret (trP fr to p):=by
 have hσ:=Zd2 hd ht
 show (Cq.next _ _).wp _
 refine Cq.Zm fr.length (fun k s=>s=((k:Int),mixQ fr to k)) (fun k s hk hs=>?_) (fun s hs=>?_) (by rw[ZkH]; rfl)
 .subst hs
  refine Cq.wp.yes (p:=(k:Int)<(fr.length:Int)) (by omega) ?_
  refine⟨fr[k],idxN hk,_,Zi7 (by omega) fr[k],?_⟩
  rw[Cq.Zd]
  by_cases hi:0<=idxI to fr[k]
  .rw[if_pos hi]
   have hs:=ZhF hk hi
   have hj:=hσ.rng _ _ hs
   have hv:=ZoV hj
   rw[Int.toNat_of_nonneg hi] at hv
   refine⟨_,hv,_,⟨by omega,by rw[Int.toNat_natCast]; exact ZhG _ _ _ (by omega)⟩,?_⟩
   show _=_
   rw[wrapN (by omega),Int.toNat_natCast,<- ZlV fr to (by omega:k<8),hs]
   rfl
  rw[if_neg hi]
  have hs:idxS fr to k=none:=by
   unfold idxS
   rw[List.getElem?_eq_getElem hk]
   simp only
   rw[if_neg hi]
  show _=_
  rw[wrapN (by omega),ZkG fr to hs]
 subst hs
 show (if (fr.length:Int)<(fr.length:Int) then _ else _:Cq _).wp _
 rw[Cq.Zd,if_neg (by omega),ZlU hf]
 exact⟨_,Zny hσ (Zck hf hp hm),rfl⟩
theorem Zk4{x y:Za}(hx:TermOk x)(hy:TermOk y):(ZaQ x y).Ret (decide (x=y)):=by
 unfold ZaQ
 by_cases hm:x.m=y.m
 .rw[if_pos hm]
  obtain⟨⟨a,e1,a0,a1,a2⟩,_⟩:=hx
  obtain⟨⟨b,e2,b0,b1,b2⟩,_⟩:=hy
  have h1:=Zt Zot (x:=a) a1 a2
  have h2:(between (-12) 12 fun b=>b == 0 || runs 30 (Zc0 (ratI a) (ratI b)) (decide (a=b)))=true:=by simpa [a0] using h1
  have h3:=Zt h2 (x:=b) b1 b2
  have h4:(Zc0 (ratI a) (ratI b)).Ret (decide (a=b)):=ZF (by simpa [b0] using h3)
  rw[<- e1,<- e2] at h4
  refine⟨_,h4,?_⟩
  refine decide_eq_decide.2 ⟨fun k=>?_,fun k=>ZiR (by rw[<- e1,<- e2,k])⟩
  cases x; cases y
  simp only at hm e1 e2
  rw[hm,e1,e2,k]
 rw[if_neg hm]
 exact (decide_eq_false fun k=>hm (by rw[k])).symm
theorem Znx{p q:List Za}(hp:PolOk p)(hq:PolOk q):(Zcb p q).Ret (decide (p=q)):=by
 have hl:=hp.len
 unfold Zcb
 by_cases hlen:p.length=q.length
 .rw[if_neg (fun k=>k (by omega))]
  refine Cq.Zm p.length (fun k s=>s=(k:Int)/\p.take k=q.take k) (fun k s hk hs=>?_) (fun s hs=>?_) ⟨rfl,rfl⟩
  .obtain⟨rfl,he⟩:=hs
   have hk2:k<q.length:=by omega
   rw[Cq.Zd,if_pos (by omega)]
   refine⟨p[k],idxN hk,q[k],idxN hk2,_,Zk4 (hp.at hk) (hq.at hk2),?_⟩
   rw[Cq.Zd]
   by_cases e:p[k]=q[k]
   .rw[decide_eq_true e,if_neg (by decide)]
    refine⟨wrapN (by omega),?_⟩
    rw[<- List.take_append_getElem hk,<- List.take_append_getElem hk2,he,e]
   rw[decide_eq_false e,if_pos (by decide)]
   show _=_
   refine (decide_eq_false fun k'=>e ?_).symm
   simp only[k']
  obtain⟨rfl,he⟩:=hs
  rw[Cq.Zd,if_neg (by omega)]
  show _=_
  refine (decide_eq_true ?_).symm
  rw[List.take_length,hlen,List.take_length] at he
  exact he
 rw[if_pos (fun k=>hlen (by omega))]
 exact (decide_eq_false fun k=>hlen (by rw[k])).symm
def kindB(b:Bool):Int:=if b=true then 2 else 1
theorem ZiC:∀ b,¬ kindB b=0:=by decide
theorem Zog:∀ b c,kindB b=kindB c↔b=c:=by decide
def kindE:Option Zh->Int
 | none=>0
 | some u=>kindB u.neq
def entR(s:Zb)(id:Int):ZJ:=⟨kindE (entO s id),id,((entO s id).getD ⟨[],false⟩).p,s.vars⟩
theorem Zdw{s t:Zb}(hs:Good s)(ht:Good t)(x y:Int):∃ b,(ZaJ (entR s x) (entR t y)).Ret b/\(b=true↔Says s.vars (entO s x) t.vars (entO t y)):=by
 have l1:=hs.vars
 have l2:=ht.vars
 unfold ZaJ entR
 cases h1:entO s x with
 | none=>cases h2:entO t y with
  | none=>exact⟨true,Cq.wp.no (fun k=>k rfl) (Cq.wp.yes rfl rfl),fun _=>trivial,fun _=>rfl⟩
  | some v=>
   have hk:¬ kindE none=kindE (some v):=fun k=>ZiC v.neq k.symm
   exact⟨false,Cq.wp.yes hk rfl,fun h=>(nomatch h),fun h=>(nomatch h)⟩
 | some u=>cases h2:entO t y with
  | none=>
   have hk:¬ kindE (some u)=kindE none:=ZiC u.neq
   exact⟨false,Cq.wp.yes hk rfl,fun h=>(nomatch h),fun h=>(nomatch h)⟩
  | some v=>
   have hu:=Zby hs h1
   have hv:=Zby ht h2
   have hkk:kindE (some u)=kindE (some v)↔u.neq=v.neq:=Zog _ _
   have hk0:¬ kindE (some u)=0:=ZiC u.neq
   by_cases hn:u.neq=v.neq
   .by_cases hm:missP s.vars t.vars u.p=[]
    .refine⟨decide (trP s.vars t.vars u.p=v.p),Cq.wp.no (fun k=>k (hkk.2 hn)) (Cq.wp.no hk0 ⟨_,ZgO (by show s.vars.length<=8; omega) (by show t.vars.length<=100; omega) hu.1.len,?_⟩),?_⟩
     .show (if ((missP s.vars t.vars u.p).length:Int)=0 then _ else _:Cq _).wp _
      refine Cq.wp.yes (by rw[hm]; rfl) ⟨_,Zi8 hs.diff (by show s.vars.length<=8; omega) (by show t.vars.length<=8; omega) hu hm,_,Znx (Zep hs.diff (by omega) (Zck (by omega) hu hm)).1 hv.1,rfl⟩
     rw[decide_eq_true_eq]
     have:=Znb hs.diff ht.diff (by omega) (by omega) hu hv
     have e:trF s.vars t.vars u.p=(trP s.vars t.vars u.p,true):=by unfold trF; rw[if_pos hm]
     rw[e] at this
     exact⟨fun k=>⟨hn,this.1 ⟨rfl,k⟩⟩,fun k=>(this.2 k.2).2⟩
    refine⟨false,Cq.wp.no (fun k=>k (hkk.2 hn)) (Cq.wp.no hk0 ⟨_,ZgO (by show s.vars.length<=8; omega) (by show t.vars.length<=100; omega) hu.1.len,?_⟩),fun k=>(nomatch k),fun k=>absurd (Zjv hs.diff k.2) hm⟩
    show (if ((missP s.vars t.vars u.p).length:Int)=0 then _ else _:Cq _).wp _
    have:=List.length_pos_iff.2 hm
    exact Cq.wp.no (by omega) rfl
   exact⟨false,Cq.wp.yes (fun k=>hn (hkk.1 k)) rfl,fun k=>(nomatch k),fun k=>absurd k.1 hn⟩
theorem ZnZ{s:Zb}(h:Good s)(id:Int):(Zii s id).Ret (findE s id):=by
 have l1:=h.eqs.len
 have l2:=h.neqs.len
 show (Cq.next _ _).wp _
 refine Cq.Zm s.eqs.length (fun k st=>st=((k:Int),(⟨0,[]⟩:Zc))/\findQ s.eqs id=findQ (s.eqs.drop k) id) (fun k st hk hs=>?_) (fun st hs=>?_) ⟨rfl,rfl⟩
 .obtain⟨rfl,he⟩:=hs
  rw[Zji hk] at he
  refine Cq.wp.yes (p:=(k:Int)<(s.eqs.length:Int)) (by omega) ?_
  refine⟨s.eqs[k],idxN hk,?_⟩
  rw[Cq.Zd]
  split
  .rename_i e
   rw[if_pos e] at he
   refine⟨s.eqs[k],idxN hk,?_⟩
   show _=findE s id
   unfold findE
   rw[he]
  rename_i e
  rw[if_neg e] at he
  exact⟨by rw[wrapN (by omega)],he⟩
 obtain⟨rfl,he⟩:=hs
 rw[List.drop_length] at he
 refine Cq.wp.no (p:=(s.eqs.length:Int)<(s.eqs.length:Int)) (by omega) ?_
 show (Zdq s id (⟨0,[]⟩:Zc)).wp _
 show (Cq.next _ _).wp _
 refine Cq.Zm s.neqs.length (fun k st=>st=((k:Int),(⟨0,[]⟩:Zc))/\findQ s.neqs id=findQ (s.neqs.drop k) id) (fun k st hk hs=>?_) (fun st hs=>?_) ⟨rfl,rfl⟩
 .obtain⟨rfl,he2⟩:=hs
  rw[Zji hk] at he2
  refine Cq.wp.yes (p:=(k:Int)<(s.neqs.length:Int)) (by omega) ?_
  refine⟨s.neqs[k],idxN hk,?_⟩
  rw[Cq.Zd]
  split
  .rename_i e
   rw[if_pos e] at he2
   refine⟨s.neqs[k],idxN hk,?_⟩
   show _=findE s id
   unfold findE
   rw[he,he2]
   rfl
  rename_i e
  rw[if_neg e] at he2
  exact⟨by rw[wrapN (by omega)],he2⟩
 obtain⟨rfl,he2⟩:=hs
 rw[List.drop_length] at he2
 refine Cq.wp.no (p:=(s.neqs.length:Int)<(s.neqs.length:Int)) (by omega) ?_
 show _=findE s id
 unfold findE
 rw[he,he2]
 rfl
theorem Zbd{s:Zb}(h:Good s)(id:Int):(Zag s id).Ret (entR s id):=by
 refine⟨_,ZnZ h id,?_⟩
 unfold entR
 rw[Zp1]
 unfold findE
 cases findQ s.eqs id with
 | some q=>exact Cq.wp.yes rfl (Cq.wp.no (fun k=>(nomatch k)) rfl)
 | none=>
  cases findQ s.neqs id with
  | some q=>exact Cq.wp.yes rfl (Cq.wp.yes rfl rfl)
  | none=>exact Cq.wp.no (fun k=>(nomatch k)) (Cq.wp.no (fun k=>(nomatch k)) rfl)
end Go.EL

namespace Go.EL
open Go.IntKind (i8 i16 i32 i64 u8 u16 u32 u64)
open Go Go.RowKit
theorem Zpd{a b:List Int}(ha:a.Pairwise (· < ·))(hb:b.Pairwise (· < ·))(h:∀ k,k ∈ a↔k ∈ b):a=b:=
 List.Perm.eq_of_pairwise (le:=fun x y:Int=>x<y) (fun x y _ _ h1 h2=>by omega) ha hb ((List.perm_ext_iff_of_nodup (ha.imp fun h e=>by omega) (hb.imp fun h e=>by omega)).2 h)
structure IdsI (s:Zb) (out:List Int) (i j:Nat):Prop where
 li:i<=s.eqs.length
 lj:j<=s.neqs.length
 inc:out.Pairwise (· < ·)
 mem:∀ k,k ∈ out↔k ∈ (s.eqs.take i).map (·.id)\/k ∈ (s.neqs.take j).map (·.id)
 be:∀ x ∈ out,∀ h:i<s.eqs.length,x<s.eqs[i].id
 bn:∀ x ∈ out,∀ h:j<s.neqs.length,x<s.neqs[j].id
 len:out.length<=i+j
theorem Zmg{l:List Zc}{k:Nat}(hk:k<l.length)(x:Int):x ∈ (l.take (k+1)).map (·.id)↔x ∈ (l.take k).map (·.id)\/x=l[k].id:=by
 rw[<- List.take_append_getElem hk,List.map_append,List.mem_append]
 simp
theorem IdsI.takeE{s:Zb}(hg:Good s){out:List Int}{i j:Nat}(h:IdsI s out i j)(hi:i<s.eqs.length)(hj:∀ q:j<s.neqs.length,s.eqs[i].id<s.neqs[j].id):IdsI s (out++[s.eqs[i].id]) (i+1) j where
 li:=hi
 lj:=h.lj
 inc:=List.pairwise_append.2 ⟨h.inc,List.pairwise_singleton _ _,fun x hx y hy=>by rw[List.mem_singleton.1 hy]; exact h.be x hx hi⟩
 mem k:=by
  rw[List.mem_append,h.mem,Zmg hi,List.mem_singleton]
  exact or_right_comm
 be x hx q:=by
  have h1:=List.pairwise_iff_getElem.1 hg.eqs.inc i (i+1) hi q (by omega)
  rcases List.mem_append.1 hx with hx|hx
  .have:=h.be x hx hi; omega
  rw[List.mem_singleton.1 hx]; exact h1
 bn x hx q:=by
  rcases List.mem_append.1 hx with hx|hx
  .exact h.bn x hx q
  rw[List.mem_singleton.1 hx]; exact hj q
 len:=by rw[List.length_append]; have:=h.len; simp; omega
theorem IdsI.takeN{s:Zb}(hg:Good s){out:List Int}{i j:Nat}(h:IdsI s out i j)(hj:j<s.neqs.length)(hi:∀ q:i<s.eqs.length,s.neqs[j].id<s.eqs[i].id):IdsI s (out++[s.neqs[j].id]) i (j+1) where
 li:=h.li
 lj:=hj
 inc:=List.pairwise_append.2 ⟨h.inc,List.pairwise_singleton _ _,fun x hx y hy=>by rw[List.mem_singleton.1 hy]; exact h.bn x hx hj⟩
 mem k:=by
  rw[List.mem_append,h.mem,Zmg hj,List.mem_singleton]
  exact or_assoc
 bn x hx q:=by
  have h1:=List.pairwise_iff_getElem.1 hg.neqs.inc j (j+1) hj q (by omega)
  rcases List.mem_append.1 hx with hx|hx
  .have:=h.bn x hx hj; omega
  rw[List.mem_singleton.1 hx]; exact h1
 be x hx q:=by
  rcases List.mem_append.1 hx with hx|hx
  .exact h.be x hx q
  rw[List.mem_singleton.1 hx]; exact hi q
 len:=by rw[List.length_append]; have:=h.len; simp; omega
theorem Zim{s:Zb}(h:Good s):(ZhA s).Ret (uniI (idsS s)):=by
 have l1:=h.eqs.len
 have l2:=h.neqs.len
 show (Cq.next _ _).wp _
 refine Cq.Zdg (fun st:List Int×Int×Int=>∃ i j:Nat,st.2.1=(i:Int)/\st.2.2=(j:Int)/\IdsI s st.1 i j) (fun st=>(24-st.2.1-st.2.2).toNat) (fun st hI=>?_) (([]:List Int),(0:Int),(0:Int)) ⟨0,0,rfl,rfl,⟨Nat.zero_le _,Nat.zero_le _,List.Pairwise.nil,fun k=>by simp,fun x hx=>(nomatch hx),fun x hx=>(nomatch hx),Nat.le_refl 0⟩⟩
 obtain⟨out,a,b⟩:=st
 obtain⟨i,j,rfl,rfl,hI⟩:=hI
 simp only at hI
 have li:=hI.li
 have lj:=hI.lj
 have ll:=hI.len
 have kE:∀ hi:i<s.eqs.length,(∀ q:j<s.neqs.length,s.eqs[i].id<s.neqs[j].id)->(Za2 s out (i:Int) (j:Int) true).wp (Out (fun st=>(∃ i j:Nat,st.2.1=(i:Int)/\st.2.2=(j:Int)/\IdsI s st.1 i j)/\(24-st.2.1-st.2.2).toNat<(24-(i:Int)-(j:Int)).toNat) fun a=>a=uniI (idsS s)):=fun hi hj=>by
  refine Cq.wp.yes rfl ⟨s.eqs[i],idxN hi,by simp[small]; omega,⟨i+1,j,wrapN (by omega),rfl,hI.takeE h hi hj⟩,?_⟩
  show (24-i64.wrap ((i:Int)+1)-(j:Int)).toNat<_
  rw[wrapN (by omega)]; omega
 have kN:∀ hj:j<s.neqs.length,(∀ q:i<s.eqs.length,s.neqs[j].id<s.eqs[i].id)->(Za2 s out (i:Int) (j:Int) false).wp (Out (fun st=>(∃ i j:Nat,st.2.1=(i:Int)/\st.2.2=(j:Int)/\IdsI s st.1 i j)/\(24-st.2.1-st.2.2).toNat<(24-(i:Int)-(j:Int)).toNat) fun a=>a=uniI (idsS s)):=fun hj hi=>by
  refine Cq.wp.no (by decide) ⟨s.neqs[j],idxN hj,by simp[small]; omega,⟨i,j+1,rfl,wrapN (by omega),hI.takeN h hj hi⟩,?_⟩
  show (24-(i:Int)-i64.wrap ((j:Int)+1)).toNat<_
  rw[wrapN (by omega)]; omega
 have k4:i<s.eqs.length\/j<s.neqs.length->(ZcE s out (i:Int) (j:Int)).wp (Out (fun st=>(∃ i j:Nat,st.2.1=(i:Int)/\st.2.2=(j:Int)/\IdsI s st.1 i j)/\(24-st.2.1-st.2.2).toNat<(24-(i:Int)-(j:Int)).toNat) fun a=>a=uniI (idsS s)):=fun hor=>by
  unfold ZcE
  by_cases c1:j=s.neqs.length
  .exact Cq.wp.yes (by omega) (kE (by omega) fun q=>by omega)
  refine Cq.wp.no (by omega) ?_
  by_cases c2:i<s.eqs.length
  .have hj:j<s.neqs.length:=by omega
   refine Cq.wp.yes (by omega) ⟨s.eqs[i],idxN c2,s.neqs[j],idxN hj,?_⟩
   show (Za2 s out (i:Int) (j:Int) (decide (s.eqs[i].id<s.neqs[j].id))).wp _
   by_cases c3:s.eqs[i].id<s.neqs[j].id
   .rw[decide_eq_true c3]; exact kE c2 fun _=>c3
   rw[decide_eq_false c3]
   have:=h.apart _ (List.getElem_mem c2) _ (List.getElem_mem hj)
   exact kN hj fun _=>by omega
  exact Cq.wp.no (by omega) (kN (by omega) fun q=>absurd q c2)
 by_cases c1:i<s.eqs.length
 .exact Cq.wp.yes (by show (i:Int)<_; omega) (k4 (.inl c1))
 refine Cq.wp.no (by show ¬ (i:Int)<_; omega) ?_
 by_cases c2:j<s.neqs.length
 .exact Cq.wp.yes (by show (j:Int)<_; omega) (k4 (.inr c2))
 refine Cq.wp.no (by show ¬ (j:Int)<_; omega) ?_
 show out=uniI (idsS s)
 refine Zpd hI.inc (ZbK _) fun k=>?_
 rw[hI.mem,Zaq,show i=s.eqs.length by omega,show j=s.neqs.length by omega,List.take_length,List.take_length]
 unfold idsS
 rw[List.mem_append]
theorem Znd{s:Zb}(h:Good s):(uniI (idsS s)).length<=24:=Nat.le_trans Zdo (ZaS h)
theorem Zod{m t:Zb}(hm:Good m)(ht:Good t){y:Int}(h:∃ z ∈ idsS m,Says m.vars (entO m z) t.vars (entO t y)):(Zfg m (entR t y)).Ret true:=by
 obtain⟨z,hz,hs⟩:=h
 have hl:=Znd hm
 refine⟨_,Zim hm,?_⟩
 show (Cq.next _ _).wp _
 refine Cq.Zm (uniI (idsS m)).length (fun k st=>st=(k:Int)/\∀ i (hi:i<(uniI (idsS m)).length),i<k->¬ Says m.vars (entO m (uniI (idsS m))[i]) t.vars (entO t y)) (fun k st hk hs2=>?_) (fun st hs2=>?_) ⟨rfl,fun i _ hi=>absurd hi (Nat.not_lt_zero i)⟩
 .obtain⟨rfl,hno⟩:=hs2
  obtain⟨b,hb,hbi⟩:=Zdw hm ht (uniI (idsS m))[k] y
  refine Cq.wp.yes (by omega) ⟨(uniI (idsS m))[k],idxN hk,_,Zbd hm _,b,hb,?_⟩
  cases b with
  | true=>exact Cq.wp.yes rfl rfl
  | false=>
   refine Cq.wp.no (by decide) ⟨wrapN (by omega),fun i hi hik=>?_⟩
   by_cases e:i=k
   .subst e
    exact fun q=>(nomatch hbi.2 q)
   exact hno i hi (by omega)
 obtain⟨rfl,hno⟩:=hs2
 obtain⟨i,hi,e⟩:=List.mem_iff_getElem.1 (Zaq.2 hz)
 exact absurd (by rw[e]; exact hs) (hno i hi hi)
theorem Zl9{s a b m:Zb}{c:List Zi}{e:Int}(i:Nat){t:Zb}(hi:[a,b][i]? = some t)(hm:Good m)(ht:Good t)(h:∀ x ∈ idsS t,s.next<=x->∃ y ∈ idsS m,Says m.vars (entO m y) t.vars (entO t x)):(Zcq (s,a,b) (m,c,e) (i:Int) (uniI (idsS t)) 0).Ret (.inr ()):=by
 have hl:=Znd ht
 refine Cq.Zm (uniI (idsS t)).length (fun k st=>st=(k:Int)) (fun k st hk hs=>?_) (fun st hs=>?_) rfl
 .subst hs
  refine Cq.wp.yes (by omega) ⟨(uniI (idsS t))[k],idxN hk,?_⟩
  have hx:=Zaq.1 (List.getElem_mem hk)
  by_cases hn:s.next<=(uniI (idsS t))[k]
  .refine Cq.wp.yes hn ⟨t,⟨by omega,by rw[Int.toNat_natCast]; exact hi⟩,(uniI (idsS t))[k],idxN hk,_,Zbd ht _,true,Zod hm ht (h _ hx hn),?_⟩
   exact Cq.wp.no (by decide) (wrapN (by omega))
  exact Cq.wp.no hn (wrapN (by omega))
 subst hs
 exact Cq.wp.no (by omega) rfl
theorem Zoy{s a b m:Zb}{c:List Zi}{e:Int}(ha:Good a)(hb:Good b)(h:MergeOk s a b m):(Z2 true (s,a,b) (m,c,e)).Ret true:=by
 show (Cq.next _ _).wp _
 refine Cq.Zm 2 (fun k st=>st=(k:Int)) (fun k st hk hs=>?_) (fun st hs=>?_) rfl
 .subst hs
  refine Cq.wp.yes (by omega) ?_
  match k,hk with
  | 0,_=>
   refine⟨a,⟨by decide,rfl⟩,_,Zim ha,?_⟩
   refine (Zl9 (s:=s) (a:=a) (b:=b) (m:=m) (c:=c) (e:=e) 0 rfl h.good ha h.new1).then ?_
   exact wrapN (by omega)
  | 1,_=>
   refine⟨b,⟨by decide,rfl⟩,_,Zim hb,?_⟩
   refine (Zl9 (s:=s) (a:=a) (b:=b) (m:=m) (c:=c) (e:=e) 1 rfl h.good hb h.new2).then ?_
   exact wrapN (by omega)
 subst hs
 exact Cq.wp.no (by omega) rfl
theorem Zqo{s a b m:Zb}{c:List Zi}{e:Int}(hs:Good s)(ha:Good a)(hb:Good b)(h:MergeOk s a b m){x:Int}(hx:x<s.next):(ZaW (s,a,b) (m,c,e) x).Ret (.inl (i64.wrap (x+1))):=by
 obtain⟨b1,k1,i1⟩:=Zdw hs ha x x
 obtain⟨b2,k2,i2⟩:=Zdw hs hb x x
 obtain⟨b3,k3,i3⟩:=Zdw h.good hb x x
 obtain⟨b4,k4,i4⟩:=Zdw h.good ha x x
 refine⟨_,Zbd hs x,_,Zbd ha x,_,Zbd hb x,_,Zbd h.good x,b1,k1,?_⟩
 cases b1 with
 | false=>
  refine⟨b2,k2,?_⟩
  cases b2 with
  | false=>rfl
  | true=>
   have e4:b4=true:=i4.2 (h.old2 x hx (i2.1 rfl))
   subst e4
   exact⟨true,k4,Cq.wp.no (by decide) rfl⟩
 | true=>
  have e3:b3=true:=i3.2 (h.old1 x hx (i1.1 rfl))
  subst e3
  refine⟨true,k3,b2,k2,?_⟩
  cases b2 with
  | false=>rfl
  | true=>
   have e4:b4=true:=i4.2 (h.old2 x hx (i2.1 rfl))
   subst e4
   exact⟨true,k4,Cq.wp.no (by decide) rfl⟩
theorem Zif{x:ZG}(h:ThreeOk x):(Zdx x).Ret true:=by
 obtain⟨s,a,b,h1,hs,ha,hb⟩:=ZnW h
 refine⟨true,ZlH,Cq.wp.no (by decide) ⟨_,h1,_,Zdt hs ha hb,?_⟩⟩
 have hok:=Zpf hs ha hb
 have hsh:=ZmG s a b
 generalize mergeF s a b=o at hok hsh ⊢
 obtain⟨m,c,e⟩:=o
 by_cases he:e=0
 .subst he
  have hk:=hok rfl
  refine Cq.wp.no (fun k=>k rfl) ?_
  show (Cq.next _ _).wp _
  refine Cq.Zdg (fun v:Int=>1<=v/\v<=100) (fun v=>(100-v).toNat) (fun v hv=>?_) (1:Int) ⟨by decide,by decide⟩
  have last:(Z2 true (s,a,b) (m,c,0)).wp fun o=>o=true:=Zoy ha hb hk
  by_cases c1:v<s.next
  .refine Cq.wp.yes c1 ?_
   by_cases c2:v<100
   .refine Cq.wp.yes c2 ?_
    refine Cq.mono _ ?_ (Zqo (c:=c) (e:=0) hs ha hb hk c1)
    rintro o rfl
    show (1<=i64.wrap (v+1)/\i64.wrap (v+1)<=100)/\(100-i64.wrap (v+1)).toNat<(100-v).toNat
    rw[wrap64 (by omega)]
    omega
   exact Cq.wp.no c2 last
  exact Cq.wp.no c1 last
 exact Cq.wp.yes he rfl
end Go.EL

