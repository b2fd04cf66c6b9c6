/- The law VersionValid holds for every input: a part of its proof (what the code does, plain models, and what they return). No condition. -/
import Derived.Test.YtnjiloaolgjedaaGreatXV12f
import Derived.Test.YtnjiloaolgjedaaGreatXV12d
set_option linter.unusedVariables false
set_option linter.unusedSimpArgs false
namespace Go.Proofs.YtnjiloaolgjedaaGreat
open Go.IntKind (i8 i16 i32 i64 u8 u16 u32 u64)
open Go.Proofs.Tryz
open Go Go.EL Go.RowKit Go.Proofs
theorem et'{d f s q m n j h F E r}(hr:(Zaa d f).Ret r):Ctr prog 55 #[.agg ((v31' d s q m n j h)).toArray,.agg ((v48' f F E)).toArray] (fun G=>sl Rp.str G s q d.vars/\sl b' G m n d.eqs/\sl b' G j h d.neqs/\sl K' G F E f.p) (w31t' r):=by
 refine H' (args:=[_,_]) (N:=157) func55 z z z (fun w0 G0 U bw=>?_)
 obtain⟨g,l,k,C⟩:=bw
 refine sr<|ag' 2 z z z fun b1=>ag' 3 z z z fun b2=>Q' 4 z z31 z fun b3=>sg z z<|nr<|yy (o' 2 au' z z z) z<|yy (o' 3 bP' z z z) z ?_
 obtain⟨c5,be,hr⟩:=hr
 refine E' z z (t' E71 z) (fT' be) z (⟨g,l,k,C⟩)<|sx0 z z<|n'<|sr<|mv z z<|yy (aw' z z) z<|nx<|L' hr z (fun cb hr=>?_) (fun cb hr=>?_)
 .refine sr<|yy (av' (vs:=#[]) (v:=.agg ([.slice none 0 0,.slice none 0 0,.slice none 0 0,i' 0]).toArray) z z (fun _=>by kernel_rfl)) z<|mv z z<|s' 4 z aV' z z z z z (List.all_eq_true.1 z)<|sx0 z z<|j'<|a' ?_
  obtain rfl:_=r:=hr
  exact aH' z (ad' (i:=4) au' z z z) z ⟨_,_,_,_,_,_,z,(R' Rp.str _),(R' b' _),(R' b' _)⟩
 refine q'<|g'<|sr<|yy (aF' z) z<|yy (f' 2 bB' z z z) z<|yy (M' F' g z) z<|sg z z<|nr<|yy (o' 2 au' z z z) z<|Q' 8 z z31 z fun b4=>s' 8 z aV' z z z z z (List.all_eq_true.1 z)<|nr<|WL.litT (e:=9) (r:=Rp.str) (vs:=#[]) (cs:=[]) ([]:List ByteArray) 4021 z z z z z (by decide) (fun _=>by kernel_rfl) (z) fun p1 cx bR=>yy (aF' z) z<|yy (f' 2 bB' z z z) z ?_
 obtain⟨a9,hr⟩:=hr
 refine cr' (r:=Rp.str) (e:=9) 4021 z z F' el9 z (by decide) z z bR z g a9 fun p2 au cQ Y=>yy (aF' z) z<|aD' 8 ([.slice p2 ([]++d.vars).length au,.slice m d.eqs.length n,.slice j d.neqs.length h,i' d.next]).toArray z sz28 z z z (show 0<4 by decide) z z<|nx<|n'<|sr<|yy (cB' z) z<|yy (f' 3 sc3 z z z) z<|nx<|C'<|sr<|yy (at' z z) z<|sx0 z z<|L' hr z (fun bQ hr=>?_) (fun bQ hr=>?_)
 .refine n'<|ah' [ff,ff,ff,ff,ff,ff,ff,ff,ff,ff,ff,ff,ff,ff,ff,ff] mix (by kernel_rfl) fun p=>dB' (r:=Rp.str) (e:=9) ([]:List ByteArray) (fun _=>z) z (by decide) (fun u o c t=>?_) ?_
  .exact⟨#[],[],z,z,fun _=>by kernel_rfl,z⟩
  refine cu (fun _ _ c=>aF' z)<|cu (fun _ _ c=>f' 2 bB' z z z)<|cu (fun _ _ c=>aK' z)<|cu (fun _ _ c=>f' 3 sc3 z z z) ?_
  obtain⟨bX,hr⟩:=hr
  obtain⟨p3,bO,bS,b6⟩:=SlR.cut (r:=Rp.str) none (some (i' f.at')) sz9 z F' g (.inl ⟨z,z⟩) (.inr ⟨_,z⟩) bX
  refine cu (fun _ _ c=>Y0.cutH F' b6 z z) ?_
  obtain⟨bh,hr⟩:=hr
  refine ca' (r:=Rp.str) (e:=9) (kk:=33) (xs:=([]:List ByteArray)) ((d.vars.take f.at'.toNat).drop (0:Int).toNat) (fun _=>z) z (by kernel_rfl) (by kernel_rfl) F' el9 z (by decide) bh (fun u o c t=>?_) ?_
  .obtain⟨aE,_⟩:=(show (RowX Rp.str 9 33 ([]:List ByteArray)) (u 33) o/\True from t)
   exact⟨u 33,.slice p3 ((d.vars.take f.at'.toNat).drop (0:Int).toNat).length bO,aE,z,z,(bS.mono c)⟩
  refine cu (fun _ _ c=>cc' z)<|cu (fun _ _ c=>f' 3 sc9 z z z)<|eH' (r:=Rp.str) (e:=9) ([f.name]:List ByteArray) (fun _=>z) z (by decide) (fun u o c t=>?_) ?_
  .exact⟨#[(0,.string f.name)],[.string f.name]++([]),z,z,fun _=>by kernel_rfl,⟨[.string f.name],[],z,z,z⟩⟩
  obtain⟨bb,hr⟩:=hr
  refine ca' (r:=Rp.str) (e:=9) (kk:=39) (xs:=(([]:List ByteArray)++((d.vars.take f.at'.toNat).drop (0:Int).toNat))) [f.name] (fun _=>z) z (by kernel_rfl) (by kernel_rfl) F' el9 z (by decide) bb (fun u o c t=>?_) ?_
  .obtain⟨⟨p4,an,aD,aZ⟩,aG,_,_⟩:=(show (fun G v=>∃ p4 an,v = .slice p4 1 1/\SlRd Rp.str G (.slice p4 1 1) an [f.name]) o.m (u 42)/\(RowX Rp.str 9 39 (([]:List ByteArray)++((d.vars.take f.at'.toNat).drop (0:Int).toNat))) (u 39) o/\True/\True from t)
   exact⟨u 39,.slice p4 1 1,aG,z,(by simp only[undFr,eatO,List.map_cons,List.map_nil,aD] <;> rfl),aZ⟩
  refine cu (fun _ _ c=>aF' z)<|cu (fun _ _ c=>f' 2 bB' z z z)<|cu (fun _ _ c=>aK' z)<|cu (fun _ _ c=>f' 3 sc3 z z z) ?_
  obtain⟨bI,hr⟩:=hr
  obtain⟨p5,cU,bZ,bV⟩:=SlR.cut (r:=Rp.str) (some (i' f.at')) none sz9 z F' g (.inr ⟨_,z⟩) (.inl ⟨z,z⟩) bI
  refine cu (fun _ _ c=>Y0.cutL F' bV z z)<|cp' (fun cw cG cy cK X1 S ah ag bB bC=>?_)
  obtain⟨p4,an,rfl,aZ⟩:=ag
  refine WL.adoptR ah (fun cH cR cj bo ba cN=>?_)
  subst bo
  refine cg' (show WL _ _ _ _ _ _ (St w0 G0 X1.m _) from ?_)
  obtain⟨bv,hr⟩:=hr
  refine cr' (r:=Rp.str) (e:=9) 43 z z F' el9 z (by decide) z z ba z (bZ.mono S) bv fun p6 al cE bG=>yy (aF' z) z<|aD' 8 ([.slice p6 (((([]:List ByteArray)++((d.vars.take f.at'.toNat).drop (0:Int).toNat))++[f.name])++((d.vars.take (d.vars.length:Int).toNat).drop f.at'.toNat)).length al,.slice m d.eqs.length n,.slice j d.neqs.length h,i' d.next]).toArray z sz28 z z z (show 0<4 by decide) z z<|v'<|ar'<|g'<|n'<|ah' [ff,ff,ff,ff,ff,ff] mix (by kernel_rfl) fun p=>cn (fun _ c=>aY' z)<|cn (fun _ c=>f' 2 bq' z z z)<|cn (fun _ c=>e' z)<|cn (fun _ c=>aK' z)<|cn (fun _ c=>f' 3 sc3 z z z) ?_
  obtain⟨cX,a6,hr⟩:=hr
  refine bv' z (fun _=>t' E73 z) (dK' a6) z (fun o c=>trivial)<|T' p ?_
  obtain⟨a3,bu,hr⟩:=hr
  refine P' z z (t' E72 z) (dL' bu) z ((l.mono S)) (fun cF c0 X aj=>?_)
  obtain⟨av,ak,rfl,bj⟩:=aj
  refine yy (aY' z) z<|aD' 8 ([.slice p6 (((([]:List ByteArray)++((d.vars.take f.at'.toNat).drop (0:Int).toNat))++[f.name])++((d.vars.take (d.vars.length:Int).toNat).drop f.at'.toNat)).length al,.slice av a3.length ak,.slice j d.neqs.length h,i' d.next]).toArray z sz29 z z z (show 1<4 by decide) z z<|v'<|ar'<|g'<|ah' [ff,ff,ff,ff,ff,ff] mix (by kernel_rfl) fun p=>cn (fun _ c=>bb' z)<|cn (fun _ c=>f' 2 bq' z z z)<|cn (fun _ c=>e' z)<|cn (fun _ c=>aK' z)<|cn (fun _ c=>f' 3 sc3 z z z) ?_
  obtain⟨cT,bA,hr⟩:=hr
  refine bv' z (fun _=>t' E73 z) (dK' bA) z (fun o c=>trivial)<|T' p ?_
  obtain⟨b0,bc,hr⟩:=hr
  refine P' z z (t' E72 z) (dL' bc) z ((k.mono (mx S X))) (fun cL c4 ac ai=>?_)
  obtain⟨bx,a8,rfl,bd⟩:=ai
  refine yy (bb' z) z<|aD' 8 ([.slice p6 (((([]:List ByteArray)++((d.vars.take f.at'.toNat).drop (0:Int).toNat))++[f.name])++((d.vars.take (d.vars.length:Int).toNat).drop f.at'.toNat)).length al,.slice av a3.length ak,.slice bx b0.length a8,i' d.next]).toArray z sz29 z z z (show 2<4 by decide) z z<|v'<|ar'<|I'<|g'<|sr<|bE' (r:=Rp.str) (e:=9) 43 (bG.mono (mx X ac)) z (by rw[U]; rfl) fun cS cW aa bp co=>yy (o' 8 au' z z z) z<|s' 4 z aV' z z z z z (List.all_eq_true.1 z)<|sx0 z z<|j' ?_
  obtain rfl:_=r:=hr
  exact aH' z (ad' (i:=4) au' z z z) z ⟨_,_,_,_,_,_,z,bp,(bj.mono (mx ac aa)),(bd.mono aa)⟩
 refine sr<|yy (at' z z) z<|sx0 z z<|L' hr z (fun bT hr=>?_) (fun bT hr=>?_)
 .refine n'<|ah' [ff,ff,ff,ff,ff,ff,ff,ff,ff,ff,ff,ff,ff] mix (by kernel_rfl) fun p=>dB' (r:=Rp.str) (e:=9) ([]:List ByteArray) (fun _=>z) z (by decide) (fun u o c t=>?_) ?_
  .exact⟨#[],[],z,z,fun _=>by kernel_rfl,z⟩
  refine cu (fun _ _ c=>aF' z)<|cu (fun _ _ c=>f' 2 bB' z z z)<|cu (fun _ _ c=>aK' z)<|cu (fun _ _ c=>f' 3 sc3 z z z) ?_
  obtain⟨bD,hr⟩:=hr
  obtain⟨p7,b8,bL,bU⟩:=SlR.cut (r:=Rp.str) none (some (i' f.at')) sz9 z F' g (.inl ⟨z,z⟩) (.inr ⟨_,z⟩) bD
  refine cu (fun _ _ c=>Y0.cutH F' bU z z) ?_
  obtain⟨bl,hr⟩:=hr
  refine ca' (r:=Rp.str) (e:=9) (kk:=69) (xs:=([]:List ByteArray)) ((d.vars.take f.at'.toNat).drop (0:Int).toNat) (fun _=>z) z (by kernel_rfl) (by kernel_rfl) F' el9 z (by decide) bl (fun u o c t=>?_) ?_
  .obtain⟨aq,_⟩:=(show (RowX Rp.str 9 69 ([]:List ByteArray)) (u 69) o/\True from t)
   exact⟨u 69,.slice p7 ((d.vars.take f.at'.toNat).drop (0:Int).toNat).length b8,aq,z,z,(bL.mono c)⟩
  refine cu (fun _ _ c=>aF' z)<|cu (fun _ _ c=>f' 2 bB' z z z)<|cu (fun _ _ c=>aK' z)<|cu (fun _ _ c=>f' 3 sc3 z z z)<|cu (fun _ _ c=>W' z z) ?_
  obtain⟨bW,hr⟩:=hr
  obtain⟨p8,da,bE,ca⟩:=SlR.cut (r:=Rp.str) (some (i' (i64.wrap (f.at'+1)))) none sz9 z F' g (.inr ⟨_,z⟩) (.inl ⟨z,z⟩) bW
  refine cu (fun _ _ c=>Y0.cutL F' ca z z)<|ei' fun cm cf X2 Q M a7=>WL.adoptR M (fun ce cp bK aL aI cr=>?_)
  subst aL
  refine cg' (show WL _ _ _ _ _ _ (St w0 G0 X2.m _) from ?_)
  obtain⟨br,hr⟩:=hr
  refine cr' (r:=Rp.str) (e:=9) 75 z z F' el9 z (by decide) z z aI z (bE.mono Q) br fun p9 ar cD bH=>yy (aF' z) z<|aD' 8 ([.slice p9 ((([]:List ByteArray)++((d.vars.take f.at'.toNat).drop (0:Int).toNat))++((d.vars.take (d.vars.length:Int).toNat).drop (i64.wrap (f.at'+1)).toNat)).length ar,.slice m d.eqs.length n,.slice j d.neqs.length h,i' d.next]).toArray z sz28 z z z (show 0<4 by decide) z z<|v'<|ar'<|g'<|n'<|ah' [ff,ff,ff,ff,ff,ff,ff] mix (by kernel_rfl) fun p=>cn (fun _ c=>aY' z)<|cn (fun _ c=>f' 2 bq' z z z)<|cn (fun _ c=>aK' z)<|cn (fun _ c=>f' 3 sc3 z z z)<|cn (fun _ c=>e' z)<|cn (fun _ c=>bk' z z) ?_
  obtain⟨cA,aC,hr⟩:=hr
  refine bv' z (fun _=>t' E73 z) (dK' aC) z (fun o c=>trivial)<|T' p ?_
  obtain⟨ao,aM,hr⟩:=hr
  refine P' z z (t' E72 z) (dL' aM) z ((l.mono Q)) (fun ci c6 V P=>?_)
  obtain⟨ad,Z,rfl,aQ⟩:=P
  refine yy (aY' z) z<|aD' 8 ([.slice p9 ((([]:List ByteArray)++((d.vars.take f.at'.toNat).drop (0:Int).toNat))++((d.vars.take (d.vars.length:Int).toNat).drop (i64.wrap (f.at'+1)).toNat)).length ar,.slice ad ao.length Z,.slice j d.neqs.length h,i' d.next]).toArray z sz29 z z z (show 1<4 by decide) z z<|v'<|ar'<|g'<|ah' [ff,ff,ff,ff,ff,ff,ff] mix (by kernel_rfl) fun p=>cn (fun _ c=>bb' z)<|cn (fun _ c=>f' 2 bq' z z z)<|cn (fun _ c=>aK' z)<|cn (fun _ c=>f' 3 sc3 z z z)<|cn (fun _ c=>e' z)<|cn (fun _ c=>bk' z z) ?_
  obtain⟨cJ,aR,hr⟩:=hr
  refine bv' z (fun _=>t' E73 z) (dK' aR) z (fun o c=>trivial)<|T' p ?_
  obtain⟨bn,aT,hr⟩:=hr
  refine P' z z (t' E72 z) (dL' aT) z ((k.mono (mx Q V))) (fun ch c9 W R=>?_)
  obtain⟨aA,aO,rfl,aJ⟩:=R
  refine yy (bb' z) z<|aD' 8 ([.slice p9 ((([]:List ByteArray)++((d.vars.take f.at'.toNat).drop (0:Int).toNat))++((d.vars.take (d.vars.length:Int).toNat).drop (i64.wrap (f.at'+1)).toNat)).length ar,.slice ad ao.length Z,.slice aA bn.length aO,i' d.next]).toArray z sz29 z z z (show 2<4 by decide) z z<|v'<|ar'<|I'<|g'<|sr<|bE' (r:=Rp.str) (e:=9) 75 (bH.mono (mx V W)) z (by rw[U]; rfl) fun c8 cY af bf cq=>yy (o' 8 au' z z z) z<|s' 4 z aV' z z z z z (List.all_eq_true.1 z)<|sx0 z z<|j' ?_
  obtain rfl:_=r:=hr
  exact aH' z (ad' (i:=4) au' z z z) z ⟨_,_,_,_,_,_,z,bf,(aQ.mono (mx W af)),(aJ.mono af)⟩
 refine sr<|yy (at' z z) z<|sx0 z z<|L' hr z (fun bP hr=>?_) (fun bP hr=>?_)
 .refine A'<|yy (aF' z) z<|yy (f' 8 bB' z z z) z<|yy (aK' z) z<|yy (f' 3 sc3 z z z) z<|yy (cc' z) z<|yy (f' 3 sc9 z z z) z ?_
  obtain⟨x1,a4,hr⟩:=hr
  refine yy (aQ' F' sz9 Y z z a4) z<|bx' (r:=Rp.str) (e:=9) (cs':=[.string f.name]) (i:=f.at') (z':=f.name) 4021 z sz9 z Y z z z z z a4 fun c7 bz=>v'<|I'<|g'<|sr<|bE' (r:=Rp.str) (e:=9) 4021 bz z (by rw[U]; rfl) fun cZ c3 T ap ck=>yy (o' 8 au' z z z) z<|s' 4 z aV' z z z z z (List.all_eq_true.1 z)<|sx0 z z<|j' ?_
  obtain rfl:_=r:=hr
  exact aH' z (ad' (i:=4) au' z z z) z ⟨_,_,_,_,_,_,(by rw[dm' ap]),(df' ap),(l.mono T),(k.mono T)⟩
 refine sr<|yy (at' z z) z<|sx0 z z<|L' hr z (fun b7 hr=>?_) (fun b7 hr=>?_)
 .refine sr ?_
  obtain⟨y,aS,hr⟩:=hr
  refine E' z z (t' E73 z) (dK' aS) z (trivial)<|Q' 9 z z119 z fun b5=>s' 9 z sz119 z z z (ae' _ _ _) (ae' _ _ _) (fun u t=>Rp.one (dz' .i64 8) (G:=G0) (x:=y) (cs:=vecG (Value.int .i64) 8 y) z u (by first|simpa using t|simpa [Value.cells] using t))<|nr<|yy (aK' z) z<|yy (f' 3 sc3 z z z) z<|yy (cz' z) z<|yy (f' 3 sc3 z z z) z ?_
  obtain⟨bM,hr⟩:=hr
  refine yy (bj' bg' sz3 z z bM) z<|aD' 9 (vecG (Value.int .i64) 8 (setF y f.at'.toNat f.to')).toArray z sz3 z z z (by first|(rw[ae']; omega)|(show _<(vecG _ _ _).toArray.size; rw[ae']; omega)) z (cj' _ _ _ _ _)<|nr<|yy (cz' z) z<|yy (f' 3 sc3 z z z) z<|yy (aK' z) z<|yy (f' 3 sc3 z z z) z ?_
  obtain⟨bF,hr⟩:=hr
  refine yy (bj' bg' sz3 z z bF) z<|aD' 9 (vecG (Value.int .i64) 8 (setF (setF y f.at'.toNat f.to') f.to'.toNat f.at')).toArray z sz3 z z z (by first|(rw[ae']; omega)|(show _<(vecG _ _ _).toArray.size; rw[ae']; omega)) z (cj' _ _ _ _ _)<|nx<|n'<|ah' [ff,ff,ff,ff,ff,ff,ff,ff,ff,ff] mix (by kernel_rfl) fun p=>cn (fun _ c=>aF' z)<|cn (fun _ c=>f' 8 bB' z z z)<|cn (fun _ c=>aK' z)<|cn (fun _ c=>f' 3 sc3 z z z)<|cn (fun _ c=>aF' z)<|cn (fun _ c=>f' 2 bB' z z z)<|cn (fun _ c=>cz' z)<|cn (fun _ c=>f' 3 sc3 z z z) ?_
  obtain⟨x2,aU,hr⟩:=hr
  refine cn (fun _ c=>V' F' sz9 (g.mono c) z z aU)<|cn (fun _ c=>aa' sc9 z (cd' (J' (af' g aU) c)))<|T' p ?_
  obtain⟨x3,a0,hr⟩:=hr
  refine yy (aQ' F' sz9 Y z z a0) z<|bx' (r:=Rp.str) (e:=9) (cs':=[.string x2]) (i:=f.at') (z':=x2) 4021 z sz9 z Y z z z z z a0 fun cV ay=>v'<|ar'<|g'<|n'<|ah' [ff,ff,ff,ff,ff,ff,ff,ff,ff,ff] mix (by kernel_rfl) fun p=>cn (fun _ c=>aF' z)<|cn (fun _ c=>f' 8 bB' z z z)<|cn (fun _ c=>cz' z)<|cn (fun _ c=>f' 3 sc3 z z z)<|cn (fun _ c=>aF' z)<|cn (fun _ c=>f' 2 bB' z z z)<|cn (fun _ c=>aK' z)<|cn (fun _ c=>f' 3 sc3 z z z) ?_
  obtain⟨x4,aW,hr⟩:=hr
  refine cn (fun _ c=>V' F' sz9 (g.mono c) z z aW)<|cn (fun _ c=>aa' sc9 z (cd' (J' (af' g aW) c)))<|T' p ?_
  obtain⟨x5,aX,hr⟩:=hr
  refine yy (aQ' F' sz9 ay z z aX) z<|bx' (r:=Rp.str) (e:=9) (cs':=[.string x4]) (i:=f.to') (z':=x4) 4021 z sz9 z ay z z z z z aX fun c2 bt=>v'<|ar'<|g'<|sr<|yy (aY' z) z<|yy (f' 2 bq' z z z) z<|yy (o' 9 ag119 z z (ae' _ _ _)) z ?_
  obtain⟨aw,aF,hr⟩:=hr
  refine P' z z (t' E72 z) (dL' aF) z (l) (fun cl cv B J=>?_)
  obtain⟨ae,ab,rfl,aN⟩:=J
  refine yy (aY' z) z<|aD' 8 ([.slice p2 ([]++d.vars).length au,.slice ae aw.length ab,.slice j d.neqs.length h,i' d.next]).toArray z sz29 z z z (show 1<4 by decide) z z<|nx<|A'<|yy (bb' z) z<|yy (f' 2 bq' z z z) z<|yy (o' 9 ag119 z z (ae' _ _ _)) z ?_
  obtain⟨bs,aK,hr⟩:=hr
  refine P' z z (t' E72 z) (dL' aK) z ((k.mono B)) (fun cc cP I K=>?_)
  obtain⟨aH,aB,rfl,az⟩:=K
  refine yy (bb' z) z<|aD' 8 ([.slice p2 ([]++d.vars).length au,.slice ae aw.length ab,.slice aH bs.length aB,i' d.next]).toArray z sz29 z z z (show 2<4 by decide) z z<|v'<|I'<|g'<|sr<|bE' (r:=Rp.str) (e:=9) 4021 (bt.mono (mx B I)) z (by rw[U]; rfl) fun c1 cO D ax cd=>yy (o' 8 au' z z z) z<|s' 4 z aV' z z z z z (List.all_eq_true.1 z)<|sx0 z z<|j' ?_
  obtain rfl:_=r:=hr
  exact aH' z (ad' (i:=4) au' z z z) z ⟨_,_,_,_,_,_,(by rw[dm' ax]),(df' ax),(aN.mono (mx I D)),(az.mono D)⟩
 refine sr<|yy (o' 2 au' z z z) z<|yy (o' 3 bP' z z z) z ?_
 obtain⟨cI,aP,hr⟩:=hr
 refine P' z z (t' E74 z) (gj' aP) z (⟨g,l,k,C⟩) (fun cg cz bY O=>?_)
 obtain⟨a1,aV,bk,bg,aY,a2,rfl,A,L,H⟩:=O
 refine s' 4 z aV' z z z z z (List.all_eq_true.1 z)<|sx0 z z<|j'<|m'<|a' ?_
 obtain rfl:_=r:=hr
 exact aH' z (ad' (i:=4) au' z z z) z ⟨_,_,_,_,_,_,z,A,L,H⟩
theorem ha'{l1 V aw ax r}(hr:(Ziq l1 V).Ret r):Ctr prog 35 #[.slice aw l1.length ax,i' V] (fun G=>sl cq' G aw ax l1) (w31' r):=by
 refine H' (args:=[_,_]) (N:=36) func35 z z z (fun w0 G0 bg aV=>?_)
 have au:=aV
 refine sr<|Q' 4 z z31 z fun b1=>nr<|yy (av' (vs:=#[(3,i' 1)]) (v:=.agg ([.slice none 0 0,.slice none 0 0,.slice none 0 0,i' 1]).toArray) z z (fun _=>by kernel_rfl)) z<|Q' 5 z z31 z fun b2=>s' 5 z aV' z z z z z (List.all_eq_true.1 z)<|nx<|n'<|sr<|sx0 z z<|am' (fun (⟨Q,x,q,E,D,t,s,S⟩:Za×Option Addr×Nat×Option Addr×Nat×Option Addr×Nat×Mem)=>[(4,pt0 b1),(5,pt0 b2)]) (fun ⟨Q,x,q,E,D,t,s,S⟩=>Mem.le G0 S/\sl Rp.str S x q Q.vars/\sl b' S E D Q.eqs/\sl b' S t s Q.neqs/\(Zft Q).Ret r) (fun ⟨Q,x,q,E,D,t,s,S⟩=>St w0 G0 S [(4,bk0 b1 ([.slice none 0 0,.slice none 0 0,.slice none 0 0,i' 0]) 31),(5,bk0 b2 (v31' Q x q E D t s) 31)]) ?_ ?_
 .refine C' ?_
  let av:Za->Prop:=fun oo=>((fun ov=>match ov with|Q=>Zft Q:Za->Cq Za) oo).wp (fun a=>a=r)
  replace hr:(Cq.loop _ _).wp av:=hr
  refine an' (Φ:=av) (fun (⟨i1,L,l,e,n,m,g,k,O⟩:Int×Za×Option Addr×Nat×Option Addr×Nat×Option Addr×Nat×Mem)=>((i1,L):Int×Za)) (fun ⟨i1,L,l,e,n,m,g,k,O⟩=>[(0,.slice aw l1.length ax),(1,i' V),(4,pt0 b1),(5,pt0 b2),(6,i' i1)]) (fun ⟨i1,L,l,e,n,m,g,k,O⟩=>Mem.le G0 O/\y31' O l e n m g k L) (fun ⟨i1,L,l,e,n,m,g,k,O⟩=>St w0 G0 O [(4,bk0 b1 ([.slice none 0 0,.slice none 0 0,.slice none 0 0,i' 0]) 31),(5,bk0 b2 (v31' L l e n m g k) 31)]) ⟨0,(Za.mk [] [] [] 1),none,0,none,0,none,0,G0⟩ hr (f5 z z z z z) ⟨mr,(R' _ _),(R' _ _),(R' _ _)⟩ (w2 z z) ?_
  .intro bf gx hx hr
   obtain⟨i1,L,l,e,n,m,g,k,O⟩:=gx
   obtain⟨F,A,C,y⟩:=hx
   refine n'<|sr<|mv z z<|mv z z<|yy (M' da' (au.mono F) z) z<|ac' hr z (aj' z z) z (fun a1 hr=>?_) (fun a1 hr=>?_)
   .refine mv z z<|gy z z (e' z) z<|gy z z (e' z) z<|gy z z (aj' z z) z<|yy (h' z z) z<|nx<|L' hr z (fun a2 hr=>?_) (fun a2 hr=>?_)
    .refine q'<|g'<|n'<|C'<|n'<|ah' [ff,ff,ff,ff,ff,ff,ff,ff,ff,ff,tt,ff] mix (by kernel_rfl) fun hb=>cn (fun _ d=>o' 5 au' z z z)<|cn (fun _ d=>o' 5 au' z z z)<|cn (fun _ d=>e' z)<|cn (fun _ d=>e' z) ?_
     obtain⟨x1,aN,hr⟩:=hr
     refine cn (fun _ d=>V' da' sz54 ((au.mono F).mono d) z z aN) ?_
     obtain⟨a5,a4,aW,aF⟩:=Zg8 (J' (af' au aN) F)
     refine cn (fun _ d=>aC' _ ag54 z z (fun j v hv=>d _ _ _ (aW j v hv))) ?_
     obtain⟨aM,aR,hr⟩:=hr
     refine aX' (post:=w48' aM) (fun _=>z) (fun _ _=>t' E19 z) (fd' aR) z (fun X d=>⟨(A.mono d),(C.mono d),(y.mono d),(aF.mono d)⟩) (fun v G1 G2 d h=>?_) ?_
     .obtain⟨ai,ag,rfl,T⟩:=h
      exact⟨_,_,z,T.mono d⟩
     obtain⟨R,aS,hr⟩:=hr
     refine cE' (f:=55) (φ:=w31t' R) (fun _=>z) (fun v G1 G2 d h=>?_) (fun u X d hu=>?_) ?_
     .obtain⟨K,J,M,P,H,I,rfl,p,B,o⟩:=h
      exact⟨_,_,_,_,_,_,z,p.mono d,B.mono d,o.mono d⟩
     .obtain⟨⟨ai,ag,aE,T⟩,_⟩:=(show (w48' aM) X.m (u 28)/\True from hu)
      exact⟨_,_,_,fun _=>t' E55 z,et' aS,(by simp only[aE] <;> rfl),⟨(A.mono d),(C.mono d),(y.mono d),T⟩⟩
     refine bm' (φ:=w31t' R) (fun _=>z) (fun v G1 G2 d h=>?_) (fun u X d hu=>?_) ?_
     .obtain⟨p1,aj,p2,ah,p3,af,rfl,Y,aa,Z⟩:=h
      exact⟨_,_,_,_,_,_,z,Y.mono d,aa.mono d,Z.mono d⟩
     .obtain⟨⟨K,J,M,P,H,I,aD,p,B,o⟩,_,_⟩:=(show (w31t' R) X.m (u 29)/\True/\True from hu)
      simp only[undFr,aD]
      exact⟨_,e' z,K,J,M,P,H,I,z,p,B,o⟩
     refine bm' (φ:=w31' R.1) (fun _=>z) (fun v G1 G2 d h=>?_) (fun u X d hu=>?_) ?_
     .obtain⟨p4,aL,p5,aJ,p6,aK,rfl,ar,ay,aq⟩:=h
      exact⟨_,_,_,_,_,_,z,ar.mono d,ay.mono d,aq.mono d⟩
     .obtain⟨⟨p1,aj,p2,ah,p3,af,W,Y,aa,Z⟩,_,_,_⟩:=(show (w31t' R) X.m (u 21)/\True/\True/\True from hu)
      simp only[undFr,W]
      exact⟨_,x' z z,p1,aj,p2,ah,p3,af,z,Y,aa,Z⟩
     refine bu' (c:=i' R.2) (fun _=>z) (fun u X d hu=>?_) ?_
     .obtain⟨_,⟨p1,aj,p2,ah,p3,af,W,Y,aa,Z⟩,_,_,_⟩:=(show True/\(w31t' R) X.m (u 21)/\True/\True/\True from hu)
      simp only[undFr,W]
      exact x' z z
     refine bF' (fun _=>z) z31<|ek' (fun bh a9 a6 bb bc X1 U az al ao ap ak=>?_)
     obtain⟨b3,rfl,aQ⟩:=az
     obtain⟨p4,aL,p5,aJ,p6,aK,rfl,ar,ay,aq⟩:=al
     obtain⟨p1,aj,p2,ah,p3,af,rfl,Y,aa,Z⟩:=ao
     obtain⟨K,J,M,P,H,I,rfl,p,B,o⟩:=ap
     obtain⟨ai,ag,rfl,T⟩:=ak
     refine cx' aQ (cg' (show WL _ _ _ _ _ _ (St w0 G0 X1.m _) from ?_))
     refine s' 7 z aV' z z z z z (List.all_eq_true.1 z)<|sg z z<|v'<|ar'<|g'<|sr<|mv z z<|yy (at' z z) z<|nx<|L' hr z (fun aZ hr=>?_) (fun aZ hr=>?_)
     .refine A'<|yy (o' 7 au' z z z) z<|s' 5 z aV' z z z z z (List.all_eq_true.1 z)<|v'<|I'<|g'<|A'<|mv z z<|yy (W' z z) z<|sg z z<|v'<|Y' ⟨i64.wrap (i1+1),R.1,p4,aL,p5,aJ,p6,aK,X1.m⟩ hr ⟨(mx F U),ar,ay,aq⟩ (f5 z z z z z) (w2 z z)
     refine q'<|I'<|g'<|A'<|mv z z<|yy (W' z z) z<|sg z z<|v'<|Y' ⟨i64.wrap (i1+1),L,l,e,n,m,g,k,X1.m⟩ hr ⟨(mx F U),(A.mono U),(C.mono U),(y.mono U)⟩ (f5 z z z z z) (w2 z z)
    refine ap'<|r'<|r'<|O'<|aq' ⟨L,l,e,n,m,g,k,O⟩ ⟨F,A,C,y,hr⟩ (f2 z z) (w2 z z)
   refine mv z z<|sn3 z<|yy (l' z z) z<|nx<|bd' z<|ap'<|r'<|r'<|O'<|aq' ⟨L,l,e,n,m,g,k,O⟩ ⟨F,A,C,y,hr⟩ (f2 z z) (w2 z z)
 rintro⟨Q,x,q,E,D,t,s,S⟩ ⟨a3,ac,an,ad,hr⟩
 refine g'<|sr<|yy (o' 5 au' z z z) z<|s' 4 z aV' z z z z z (List.all_eq_true.1 z)<|nx<|j' ?_
 obtain rfl:_=r:=hr
 exact k' z (ad' (i:=4) au' z z z) ⟨_,_,_,_,_,_,z,ac,an,ad⟩
theorem fB'{h m e d r}(hr:(Zd6 h m).Ret r):Ctr prog 69 #[.slice e h.length d,i' m] (fun G=>sl K' G e d h) (fun G v=>v = .bool r):=by
 refine H' (args:=[_,_]) (N:=21) func69 z z z (fun t s q i=>?_)
 have c:=i
 refine sr<|sg z z<|nr<|mv z z ?_
 obtain⟨k,j,hr⟩:=hr
 refine E' z z (t' E94 z) (fS' j) z (c) ?_
 cases k
 .refine mv z z<|sn3 z<|yy (l' z z) z<|mv z z<|sn7 z<|yy (l' z z) z<|sx0 z z<|j' (k0' hr z z)
 refine mv z z<|gy z z (e' z) z ?_
 obtain⟨o,f,hr⟩:=hr
 refine E' (w' z z) z (t' E95 z) (fA' f) z (c)<|ac' hr (w' z z) (bL' z z) z (fun n hr=>?_) (fun n hr=>?_)
 .refine yy (h' z z) z<|mv z z<|gy z z (e' z) z ?_
  obtain⟨p,g,hr⟩:=hr
  refine E' (w' z z) z (t' E96 z) (eI' g) z (c)<|gy z z (aN' aP' aA' z) z<|gy z z (e' z) z<|gy z z (aN' aA' dR' z) z ?_
  obtain⟨l,hr⟩:=hr
  refine gy z z (Y0.shl z z l) z<|gy z z (aj' z z) z<|yy (h' z z) z<|sx0 z z<|j' (k0' hr z z)
 refine yy (h' z z) z<|mv z z<|sn7 z<|yy (l' z z) z<|sx0 z z<|j' (k0' hr z z)
theorem gk'{p C g o n r}(hr:(Zcg p C g).Ret r):Ctr prog 53 #[.slice o p.length n,i' C,i' g] (fun G=>sl b' G o n p) (fun G v=>v = .bool r):=by
 refine H' (args:=[_,_,_]) (N:=60) func53 z z z (fun I l ac B=>?_)
 have e:=B
 refine sr<|sx0 z z<|n'<|sr<|mv z z<|yy (M' y' e z) z<|yy (be' z z) z<|nx<|L' hr z (fun S hr=>?_) (fun S hr=>?_)
 .refine sr<|sx0 z z<|j'<|a' (k0' hr z z)
 refine q'<|g'<|n'<|sr<|sx0 z z<|am' (fun (j:Mem)=>match j with|h=>[]) (fun (j:Mem)=>match j with|h=>Mem.le l h/\(Zfs).Ret r) (fun (j:Mem)=>match j with|h=>St I l h []) ?_ ?_
 .refine C' ?_
  let m:(Bool⊕Unit)->Prop:=fun W=>((fun U=>match U with | .inl rv1=>Cq.ret rv1 | .inr ()=>Zfs:(Bool⊕Unit)->Cq Bool) W).wp (fun a=>a=r)
  replace hr:(Cq.loop _ _).wp m:=hr
  refine an' (Φ:=m) (fun (⟨i,f⟩:Int×Mem)=>(i:Int)) (fun ⟨i,f⟩=>[(0,.slice o p.length n),(1,i' C),(2,i' g),(7,i' i)]) (fun ⟨i,f⟩=>Mem.le l f) (fun ⟨i,f⟩=>St I l f []) ⟨0,l⟩ hr (f4 z z z z) mr (wk ln) ?_
  .intro aa j V hr
   obtain⟨i,f⟩:=j
   have d:=V
   refine n'<|sr<|mv z z<|mv z z<|yy (M' y' (e.mono d) z) z<|yy (aj' z z) z<|nx<|L' hr z (fun H hr=>?_) (fun H hr=>?_)
   .refine q'<|g'<|n'<|C'<|n'<|ah' [ff,ff,ff,ff,ff,ff,ff,ff,ff,ff,ff,ff,ff,ff,ff,ff,ff,ff,ff,ff,ff,ff,ff,ff,ff,ff,ff,ff,ff,ff,ff,ff,ff,ff,ff,ff,ff,ff,ff,ff] mix (by kernel_rfl) fun k=>cn (fun _ c=>e' z)<|cn (fun _ c=>e' z) ?_
    obtain⟨x1,x,hr⟩:=hr
    refine cn (fun _ c=>V' y' aT' ((e.mono d).mono c) z z x)<|cn (fun _ c=>bn' z)<|cn (fun _ c=>aa' sc3 z (aI' (J' (J' (aW' (ay' (af' e x))) d) c)))<|by' hr z (fun _ c=>aj' z z) (fun O hr=>?_) (fun O hr=>?_)
    .refine cn (fun _ c=>e' z)<|cf z z<|cf z z<|cf z z<|cf z z<|cf z z<|cf z z<|cf z z<|cn (fun _ c=>h' z z)<|cn (fun _ c=>e' z)<|cf z z<|cf z z<|cf z z<|cs z z<|cs z z<|cs z z<|cs z z<|cs z z<|cs z z<|cs z z<|cs z z<|cs z z<|cs z z<|cs z z<|cs z z<|cf z z<|cn (fun _ c=>h' z z)<|cn (fun _ c=>e' z)<|cf z z<|cf z z<|cf z z<|cf z z<|cf z z<|cf z z<|T' k<|sn2 z<|yy (h' z z) z<|v'<|ar'<|g'<|U' z<|sr<|sx0 z z<|j'<|m'<|a'<|a'<|m'<|ab'<|a' (k0' hr z z)
    refine cn (fun _ c=>e' z)<|cy z z (fun _ c=>e' z)<|cy z z (fun _ c=>e' z) ?_
    obtain⟨x2,s,hr⟩:=hr
    refine cy z z (fun _ c=>V' y' aT' ((e.mono d).mono c) z z s)<|cy z z (fun _ c=>bn' z)<|cy z z (fun _ c=>aa' sc3 z (aI' (J' (J' (aW' (ay' (af' e s))) d) c)))<|cy z z (fun _ c=>e' z)<|by' hr (w' z z) (fun _ c=>bf' z z) (fun L hr=>?_) (fun L hr=>?_)
    .refine cn (fun _ c=>l' z z)<|cn (fun _ c=>e' z)<|cf z z<|cf z z<|cf z z<|cs z z<|cs z z<|cs z z<|cs z z<|cs z z<|cs z z<|cs z z<|cs z z<|cs z z<|cs z z<|cs z z<|cs z z<|cf z z<|cn (fun _ c=>h' z z)<|cn (fun _ c=>e' z)<|cf z z<|cf z z<|cf z z<|cf z z<|cf z z<|cf z z<|T' k<|sn2 z<|yy (h' z z) z<|v'<|ar'<|g'<|U' z<|sr<|sx0 z z<|j'<|m'<|a'<|a'<|m'<|ab'<|a' (k0' hr z z)
    refine cn (fun _ c=>l' z z)<|cn (fun _ c=>e' z)<|cy z z (fun _ c=>e' z)<|by' hr (w' z z) (fun _ c=>be' z z) (fun Q hr=>?_) (fun Q hr=>?_)
    .refine cy z z (fun _ c=>e' z)<|cy z z (fun _ c=>e' z)<|cy z z (fun _ c=>e' z)<|cy z z (fun _ c=>bk' z z) ?_
     obtain⟨x3,q,hr⟩:=hr
     refine cy z z (fun _ c=>V' y' aT' ((e.mono d).mono c) z z q)<|cy z z (fun _ c=>bn' z)<|cy z z (fun _ c=>aa' sc3 z (aI' (J' (J' (aW' (ay' (af' e q))) d) c)))<|cy z z (fun _ c=>e' z)<|cy z z (fun _ c=>e' z) ?_
     obtain⟨x4,u,hr⟩:=hr
     refine cy z z (fun _ c=>V' y' aT' ((e.mono d).mono c) z z u)<|cy z z (fun _ c=>bn' z)<|cy z z (fun _ c=>aa' sc3 z (aI' (J' (J' (aW' (ay' (af' e u))) d) c)))<|by' hr (w' z z) (fun _ c=>bf' z z) (fun M hr=>?_) (fun M hr=>?_)
     .refine cy z z (fun _ c=>h' z z)<|cn (fun _ c=>l' z z)<|cn (fun _ c=>e' z)<|cf z z<|cf z z<|cf z z<|cf z z<|cf z z<|cf z z<|T' k<|sn2 z<|yy (h' z z) z<|v'<|ar'<|g'<|U' z<|sr<|sx0 z z<|j'<|m'<|a'<|a'<|m'<|ab'<|a' (k0' hr z z)
     refine cy z z (fun _ c=>h' z z)<|cn (fun _ c=>l' z z)<|cn (fun _ c=>e' z)<|cy z z (fun _ c=>e' z)<|cy z z (fun _ c=>e' z) ?_
     obtain⟨x5,y,hr⟩:=hr
     refine cy z z (fun _ c=>V' y' aT' ((e.mono d).mono c) z z y)<|cy z z (fun _ c=>bZ' z) ?_
     obtain⟨p1,ab,E,K⟩:=bG' (J' (ax' (ay' (af' e y))) d)
     refine cy z z (fun _ c=>aa' cG' z (c _ _ _ E))<|cy z z (fun _ c=>e' z)<|T' k ?_
     obtain⟨Y,D,hr⟩:=hr
     refine E' (w' z z) z (t' E69 z) (fB' D) z (K)<|gy z z (al' z) z<|yy (l' z z) z<|v'<|ar'<|g'<|aL' hr z (fun R hr=>?_) (fun R hr=>?_)
     .refine sr<|sx0 z z<|j'<|m'<|a'<|a'<|m'<|ab'<|a' (k0' hr z z)
     refine q'<|I'<|g'<|A'<|mv z z<|yy (W' z z) z<|sg z z<|v'<|Y' ⟨i64.wrap (i+1),f⟩ hr d (f4 z z z z) (wk ln)
    refine cy z z (fun _ c=>e' z)<|ct z z<|ct z z<|ct z z<|ct z z<|ct z z<|ct z z<|ct z z<|ct z z<|ct z z<|ct z z<|ct z z<|ct z z<|cy z z (fun _ c=>l' z z)<|cn (fun _ c=>l' z z)<|cn (fun _ c=>e' z)<|cy z z (fun _ c=>e' z)<|cy z z (fun _ c=>e' z) ?_
    obtain⟨x6,t,hr⟩:=hr
    refine cy z z (fun _ c=>V' y' aT' ((e.mono d).mono c) z z t)<|cy z z (fun _ c=>bZ' z) ?_
    obtain⟨p2,Z,J,P⟩:=bG' (J' (ax' (ay' (af' e t))) d)
    refine cy z z (fun _ c=>aa' cG' z (c _ _ _ J))<|cy z z (fun _ c=>e' z)<|T' k ?_
    obtain⟨X,A,hr⟩:=hr
    refine E' (w' z z) z (t' E69 z) (fB' A) z (P)<|gy z z (al' z) z<|yy (l' z z) z<|v'<|ar'<|g'<|aL' hr z (fun F hr=>?_) (fun F hr=>?_)
    .refine sr<|sx0 z z<|j'<|m'<|a'<|a'<|m'<|ab'<|a' (k0' hr z z)
    refine q'<|I'<|g'<|A'<|mv z z<|yy (W' z z) z<|sg z z<|v'<|Y' ⟨i64.wrap (i+1),f⟩ hr d (f4 z z z z) (wk ln)
   refine ap'<|r'<|r'<|O'<|aq' f ⟨d,hr⟩ fn (wk ln)
 rintro h ⟨T,hr⟩
 refine g'<|sr<|sx0 z z<|j' (k0' hr z z)
theorem eu'{g f e i j d c r}(hr:(ZaS g).Ret r):Ctr prog 27 #[.agg ((v31' g f e i j d c)).toArray] (fun G=>y31' G f e i j d c g) (fun G v=>v = .bool r):=by
 refine H' (args:=[_]) (N:=96) func27 z z z (fun R K aB ak=>?_)
 obtain⟨l,t,p⟩:=ak
 refine sr<|ag' 1 z z z fun A=>sg z z<|nr<|yy (aF' z) z<|yy (f' 1 bB' z z z) z<|yy (M' F' l z) z<|sx0 z z<|aM' (fun (k:Mem)=>match k with|H=>[(1,pt0 A),(3,i' (g.vars.length:Int))]) (fun (k:Mem)=>match k with|H=>Mem.le K H/\(ZgW g).Ret r) (fun (k:Mem)=>match k with|H=>St R K H [(1,bk0 A (v31' g f e i j d c) 31)]) ?_ ?_
 .refine sr<|mv z z<|ac' hr z (be' z z) z (fun ax hr=>?_) (fun ax hr=>?_)
  .refine mv z z<|sn3 z<|yy (h' z z) z<|mv z z<|sn3 z<|yy (h' z z) z<|mv z z<|sn7 z<|yy (h' z z) z<|mv z z<|sn7 z<|yy (h' z z) z<|nx<|U' z<|sr<|sx0 z z<|j'<|a' (k0' hr z z)
  refine mv z z<|gy z z (bw' z) z<|gy z z (f' 1 sc3 z z z) z<|ac' hr (w' z z) (aj' z z) z (fun ap hr=>?_) (fun ap hr=>?_)
  .refine yy (l' z z) z<|mv z z<|sn3 z<|yy (h' z z) z<|mv z z<|sn7 z<|yy (h' z z) z<|mv z z<|sn7 z<|yy (h' z z) z<|nx<|U' z<|sr<|sx0 z z<|j'<|a' (k0' hr z z)
  refine yy (l' z z) z<|mv z z<|gy z z (bw' z) z<|gy z z (f' 1 sc3 z z z) z<|ac' hr (w' z z) (be' z z) z (fun au hr=>?_) (fun au hr=>?_)
  .refine yy (l' z z) z<|mv z z<|sn7 z<|yy (h' z z) z<|mv z z<|sn7 z<|yy (h' z z) z<|nx<|U' z<|sr<|sx0 z z<|j'<|a' (k0' hr z z)
  refine yy (l' z z) z<|mv z z<|gy z z (aY' z) z<|gy z z (f' 1 bq' z z z) z<|gy z z (e' z) z<|gy z z (bw' z) z<|gy z z (f' 1 sc3 z z z) z ?_
  obtain⟨am,ai,hr⟩:=hr
  refine E' (w' z z) z (t' E53 z) (gk' ai) z (t) ?_
  cases am
  .refine gy z z (al' z) z<|yy (l' z z) z<|mv z z<|sn7 z<|yy (h' z z) z<|nx<|U' z<|sr<|sx0 z z<|j'<|a' (k0' hr z z)
  refine gy z z (al' z) z<|yy (l' z z) z<|mv z z<|gy z z (bb' z) z<|gy z z (f' 1 bq' z z z) z<|gy z z (e' z) z<|gy z z (bw' z) z<|gy z z (f' 1 sc3 z z z) z ?_
  obtain⟨aC,aj,hr⟩:=hr
  refine E' (w' z z) z (t' E53 z) (gk' aj) z (p)<|gy z z (al' z) z<|yy (l' z z) z<|nx<|aL' hr z (fun aq hr=>?_) (fun aq hr=>?_)
  .refine sr<|sx0 z z<|j'<|a' (k0' hr z z)
  refine q'<|as' K ⟨mr,hr⟩ (f2 z z) (w1 z)
 rintro H ⟨m,hr⟩
 refine n'<|sr<|sx0 z z<|am' (fun (k:Mem)=>match k with|F=>[(1,pt0 A)]) (fun (k:Mem)=>match k with|F=>Mem.le H F/\(ZcI g).Ret r) (fun (k:Mem)=>match k with|F=>St R K F [(1,bk0 A (v31' g f e i j d c) 31)]) ?_ ?_
 .refine C' ?_
  let Q:(Bool⊕Unit)->Prop:=fun U=>((fun V=>match V with | .inl rv3=>Cq.ret rv3 | .inr ()=>ZcI g:(Bool⊕Unit)->Cq Bool) U).wp (fun a=>a=r)
  replace hr:(Cq.loop _ _).wp Q:=hr
  refine an' (Φ:=Q) (fun (⟨n,C⟩:Int×Mem)=>(n:Int)) (fun ⟨n,C⟩=>[(1,pt0 A),(3,i' (g.vars.length:Int)),(4,i' n)]) (fun ⟨n,C⟩=>Mem.le H C) (fun ⟨n,C⟩=>St R K C [(1,bk0 A (v31' g f e i j d c) 31)]) ⟨0,H⟩ hr (f3 z z z) mr (w1 z) ?_
  .intro ae k T hr
   obtain⟨n,C⟩:=k
   have q:=T
   refine n'<|sr<|mv z z<|mv z z<|yy (aj' z z) z<|nx<|L' hr z (fun an hr=>?_) (fun an hr=>?_)
   .refine q'<|g'<|n'<|C'<|n'<|sr<|sx0 z z<|am' (fun (k:Mem)=>match k with|M=>[(1,pt0 A),(3,i' (g.vars.length:Int)),(4,i' n)]) (fun (k:Mem)=>match k with|M=>Mem.le C M/\(ZcJ g n).wp (Out ae Q)) (fun (k:Mem)=>match k with|M=>St R K M [(1,bk0 A (v31' g f e i j d c) 31)]) ?_ ?_
    .refine C' ?_
     let W:(Bool⊕Unit)->Prop:=fun U=>((fun V=>match V with | .inl rv4=>Cq.ret (.inr (.inl rv4)) | .inr ()=>ZcJ g n:(Bool⊕Unit)->Cq (Int⊕(Bool⊕Unit))) U).wp (Out ae Q)
     replace hr:(Cq.loop _ _).wp W:=hr
     refine an' (Φ:=W) (fun (⟨E,I⟩:Int×Mem)=>(E:Int)) (fun ⟨E,I⟩=>[(1,pt0 A),(3,i' (g.vars.length:Int)),(4,i' n),(5,i' E)]) (fun ⟨E,I⟩=>Mem.le C I) (fun ⟨E,I⟩=>St R K I [(1,bk0 A (v31' g f e i j d c) 31)]) ⟨0,C⟩ hr (f4 z z z z) mr (w1 z) ?_
     .intro aE k T hr
      obtain⟨E,I⟩:=k
      have y:=T
      refine n'<|sr<|mv z z<|mv z z<|yy (aj' z z) z<|nx<|L' hr z (fun ar hr=>?_) (fun ar hr=>?_)
      .refine q'<|g'<|n'<|C'<|n'<|ah' [ff,ff,ff,ff,ff,ff,ff,ff,ff,ff] mix (by kernel_rfl) fun hb=>cn (fun _ h=>aF' z)<|cn (fun _ h=>f' 1 bB' z z z)<|cn (fun _ h=>e' z) ?_
       obtain⟨x4,aa,hr⟩:=hr
       refine cn (fun _ h=>V' F' sz9 ((l.mono (mx (mx m q) y)).mono h) z z aa)<|cn (fun _ h=>aa' sc9 z (cd' (J' (J' (af' l aa) (mx (mx m q) y)) h)))<|cn (fun _ h=>aF' z)<|cn (fun _ h=>f' 1 bB' z z z)<|cn (fun _ h=>e' z) ?_
       obtain⟨x5,ab,hr⟩:=hr
       refine cn (fun _ h=>V' F' sz9 ((l.mono (mx (mx m q) y)).mono h) z z ab)<|cn (fun _ h=>aa' sc9 z (cd' (J' (J' (af' l ab) (mx (mx m q) y)) h)))<|T' hb<|yy (Y0.eqlS bl' z z) z<|v'<|ar'<|g'<|L' hr z (fun al hr=>?_) (fun al hr=>?_)
       .refine sr<|sx0 z z<|j'<|m'<|a'<|a'<|m'<|ab'<|a'<|m'<|a'<|a'<|m'<|ab'<|a' (k0' hr z z)
       refine q'<|I'<|g'<|A'<|mv z z<|yy (W' z z) z<|sg z z<|v'<|Y' ⟨i64.wrap (E+1),I⟩ hr y (f4 z z z z) (w1 z)
      refine ap'<|r'<|r'<|O'<|aq' I ⟨y,hr⟩ (f3 z z z) (w1 z)
    rintro M ⟨O,hr⟩
    refine g'<|sr<|yy (aF' z) z<|yy (f' 1 bB' z z z) z<|mv z z ?_
    obtain⟨x3,ad,hr⟩:=hr
    refine yy (V' F' sz9 (l.mono (mx (mx m q) O)) z z ad) z<|yy (aa' sc9 z (cd' (J' (af' l ad) (mx (mx m q) O)))) z ?_
    obtain⟨aD,ah,hr⟩:=hr
    refine E' z z (t' E54 z) (fe' ah) z (trivial)<|yy (al' z) z<|nx<|aL' hr z (fun aw hr=>?_) (fun aw hr=>?_)
    .refine sr<|sx0 z z<|j'<|m'<|a'<|a'<|m'<|ab'<|a' (k0' hr z z)
    refine q'<|I'<|g'<|A'<|mv z z<|yy (W' z z) z<|sg z z<|v'<|Y' ⟨i64.wrap (n+1),M⟩ hr (mx q O) (f3 z z z) (w1 z)
   refine ap'<|r'<|r'<|O'<|aq' C ⟨q,hr⟩ (f1 z) (w1 z)
 rintro F ⟨x,hr⟩
 refine g'<|n'<|sr<|sx0 z z<|am' (fun (k:Mem)=>match k with|S=>[]) (fun (k:Mem)=>match k with|S=>Mem.le F S/\(Zes).Ret r) (fun (k:Mem)=>match k with|S=>St R K S []) ?_ ?_
 .refine C' ?_
  let P:(Bool⊕Unit)->Prop:=fun U=>((fun V=>match V with | .inl rv1=>Cq.ret rv1 | .inr ()=>Zes:(Bool⊕Unit)->Cq Bool) U).wp (fun a=>a=r)
  replace hr:(Cq.loop _ _).wp P:=hr
  refine an' (Φ:=P) (fun (⟨o,B⟩:Int×Mem)=>(o:Int)) (fun ⟨o,B⟩=>[(1,pt0 A),(6,i' o)]) (fun ⟨o,B⟩=>Mem.le F B) (fun ⟨o,B⟩=>St R K B [(1,bk0 A (v31' g f e i j d c) 31)]) ⟨0,F⟩ hr (f2 z z) mr (w1 z) ?_
  .intro ac k T hr
   obtain⟨o,B⟩:=k
   have s:=T
   refine n'<|sr<|mv z z<|yy (aY' z) z<|yy (f' 1 bq' z z z) z<|yy (M' y' (t.mono (mx (mx m x) s)) z) z<|yy (aj' z z) z<|nx<|L' hr z (fun ay hr=>?_) (fun ay hr=>?_)
   .refine q'<|g'<|n'<|C'<|sr<|sx0 z z<|am' (fun (k:Mem)=>match k with|L=>[(1,pt0 A),(6,i' o)]) (fun (k:Mem)=>match k with|L=>Mem.le B L/\(Zet o).wp (Out ac P)) (fun (k:Mem)=>match k with|L=>St R K L [(1,bk0 A (v31' g f e i j d c) 31)]) ?_ ?_
    .refine C' ?_
     let X:(Bool⊕Unit)->Prop:=fun U=>((fun V=>match V with | .inl rv2=>Cq.ret (.inr (.inl rv2)) | .inr ()=>Zet o:(Bool⊕Unit)->Cq (Int⊕(Bool⊕Unit))) U).wp (Out ac P)
     replace hr:(Cq.loop _ _).wp X:=hr
     refine an' (Φ:=X) (fun (⟨D,J⟩:Int×Mem)=>(D:Int)) (fun ⟨D,J⟩=>[(1,pt0 A),(6,i' o),(7,i' D)]) (fun ⟨D,J⟩=>Mem.le B J) (fun ⟨D,J⟩=>St R K J [(1,bk0 A (v31' g f e i j d c) 31)]) ⟨0,B⟩ hr (f3 z z z) mr (w1 z) ?_
     .intro aA k T hr
      obtain⟨D,J⟩:=k
      have u:=T
      refine n'<|sr<|mv z z<|yy (bb' z) z<|yy (f' 1 bq' z z z) z<|yy (M' y' (p.mono (mx (mx (mx m x) s) u)) z) z<|yy (aj' z z) z<|nx<|L' hr z (fun ao hr=>?_) (fun ao hr=>?_)
      .refine q'<|g'<|n'<|C'<|n'<|ah' [ff,ff,ff,ff,ff,ff,ff,ff,ff,ff,ff,ff] mix (by kernel_rfl) fun hb=>cn (fun _ h=>aY' z)<|cn (fun _ h=>f' 1 bq' z z z)<|cn (fun _ h=>e' z) ?_
       obtain⟨x1,af,hr⟩:=hr
       refine cn (fun _ h=>V' y' aT' ((t.mono (mx (mx (mx m x) s) u)).mono h) z z af)<|cn (fun _ h=>bn' z)<|cn (fun _ h=>aa' sc3 z (aI' (J' (J' (aW' (ay' (af' t af))) (mx (mx (mx m x) s) u)) h)))<|cn (fun _ h=>bb' z)<|cn (fun _ h=>f' 1 bq' z z z)<|cn (fun _ h=>e' z) ?_
       obtain⟨x2,Z,hr⟩:=hr
       refine cn (fun _ h=>V' y' aT' ((p.mono (mx (mx (mx m x) s) u)).mono h) z z Z)<|cn (fun _ h=>bn' z)<|cn (fun _ h=>aa' sc3 z (aI' (J' (J' (aW' (ay' (af' p Z))) (mx (mx (mx m x) s) u)) h)))<|T' hb<|yy (at' z z) z<|v'<|ar'<|g'<|L' hr z (fun av hr=>?_) (fun av hr=>?_)
       .refine sr<|sx0 z z<|j'<|m'<|a'<|a'<|m'<|ab'<|m'<|a'<|a'<|m'<|ab'<|a' (k0' hr z z)
       refine q'<|I'<|g'<|A'<|mv z z<|yy (W' z z) z<|sg z z<|v'<|Y' ⟨i64.wrap (D+1),J⟩ hr u (f3 z z z) (w1 z)
      refine ap'<|r'<|r'<|O'<|aq' J ⟨u,hr⟩ (f2 z z) (w1 z)
    rintro L ⟨Y,hr⟩
    refine I'<|g'<|A'<|mv z z<|yy (W' z z) z<|sg z z<|v'<|Y' ⟨i64.wrap (o+1),L⟩ hr (mx s Y) (f2 z z) (w1 z)
   refine ap'<|r'<|r'<|O'<|aq' B ⟨s,hr⟩ fn (wk ln)
 rintro S ⟨az,hr⟩
 refine g'<|sr<|sx0 z z<|j' (k0' hr z z)
theorem hl'{k c d j h f g r}(hr:(ZjE k).Ret r):Ctr prog 34 #[.agg ((v31' k c d j h f g)).toArray] (fun G=>y31' G c d j h f g k) (w34t' r):=by
 refine H' (args:=[_]) (N:=12) func34 z z z (fun D C u p=>?_)
 obtain⟨m,o,l⟩:=p
 refine sr<|ag' 1 z z z fun B=>Q' 2 z z34 z fun E=>sx0 z z<|n'<|sr<|yy (o' 1 au' z z z) z ?_
 obtain⟨y,q,hr⟩:=hr
 refine E' z z (t' E27 z) (eu' q) z (⟨m,o,l⟩)<|yy (al' z) z<|nx<|aL' hr z (fun x hr=>?_) (fun x hr=>?_)
 .refine sr<|yy (av' (vs:=#[]) (v:=.agg ([.slice none 0 0,.slice none 0 0,.slice none 0 0,i' 0,.slice none 0 0]).toArray) z z (fun _=>by kernel_rfl)) z<|s' 2 z bC' z z z z z (List.all_eq_true.1 z)<|sx0 z z<|j'<|a' ?_
  obtain rfl:_=r:=hr
  exact aH' z (ad' (i:=2) aB' z z z) z ⟨_,_,_,_,_,_,_,_,z,(R' Rp.str _),(R' b' _),(R' b' _),(R' X' _)⟩
 refine q'<|g'<|sr<|yy (o' 1 au' z z z) z<|yy (av' (vs:=#[(0,i' (-1)),(1,i' (-1))]) (v:=.agg ([i' (-1),i' (-1),.slice none 0 0]).toArray) z z (fun _=>by kernel_rfl)) z<|bc' (e:=63) (r:=X') (vs:=#[(0,.agg ([i' (-1),i' (-1),.slice none 0 0]).toArray)]) (cs:=[i' (-1),i' (-1),.slice none 0 0]++([])) ([(Zf.mk (-1) (-1) [])]:List Zf) z z z z z (by decide) (fun _=>by kernel_rfl) ⟨[i' (-1),i' (-1),.slice none 0 0],[],z,⟨[i' (-1)],[i' (-1),.slice none 0 0],z,z,⟨[i' (-1)],[.slice none 0 0],z,z,⟨_,z,(R' _ _)⟩⟩⟩,z⟩ (key:=999) z (by rw[u]; rfl) fun s A n t=>yy (av' (vs:=#[(0,.agg ((v31' k c d j h f g)).toArray),(1,.slice s 1 1)]) (v:=.agg ([.slice c k.vars.length d,.slice j k.eqs.length h,.slice f k.neqs.length g,i' k.next,.slice s 1 1]).toArray) z z (fun _=>by kernel_rfl)) z<|s' 2 z bC' z z z z z (List.all_eq_true.1 z)<|sx0 z z<|j' ?_
 obtain rfl:_=r:=hr
 exact aH' z (ad' (i:=2) aB' z z z) z ⟨_,_,_,_,_,_,_,_,z,(m.mono n),(o.mono n),(l.mono n),t⟩
theorem ef'{i q d f g h c e j k r}(hr:(ZhL i q).Ret r):Ctr prog 40 #[.agg ((v34' i d f g h c e j k)).toArray,i' q] (fun G=>y34' G d f g h c e j k i) (fun G v=>v = .bool r):=by
 refine H' (args:=[_,_]) (N:=14) func40 z z z (fun y x t p=>?_)
 obtain⟨l,n,m,o⟩:=p
 refine sr<|ag' 2 z z z fun u=>sg z z<|nr<|mv z z<|ac' hr z (bf' z z) z (fun s hr=>?_) (fun s hr=>?_)
 .refine mv z z<|gy z z (e' z) z<|gy z z (ai' z) z<|gy z z (f' 2 aZ' z z z) z<|gy z z (M' B' o z) z<|gy z z (aj' z z) z<|yy (h' z z) z<|sx0 z z<|j' (k0' hr z z)
 refine mv z z<|sn5 z<|yy (l' z z) z<|sx0 z z<|j' (k0' hr z z)
theorem fg'{s1 l1 ac ad an ak af ae aC aE r}(hr:(Zi0 s1 l1).Ret r):Ctr prog 30 #[.agg ((v31' s1 ac ad an ak af ae)).toArray,.slice aC l1.length aE] (fun G=>sl Rp.str G ac ad s1.vars/\sl b' G an ak s1.eqs/\sl b' G af ae s1.neqs/\sl Z' G aC aE l1) (w72' r):=by
 refine H' (args:=[_,_]) (N:=33) func30 z z z (fun w0 G0 bA bd=>?_)
 obtain⟨aM,aP,aI,aA⟩:=bd
 refine sr<|ag' 2 z z z fun b1=>Q' 4 z z72 z fun b2=>nx<|n'<|sr<|sx0 z z<|am' (fun (⟨M,y,n,D,B,t,p,ah,H,E,O,L,F,I,Y⟩:Za×Option Addr×Nat×Option Addr×Nat×Option Addr×Nat×Zx×Option Addr×Nat×Option Addr×Nat×Option Addr×Nat×Mem)=>[(1,.slice aC l1.length aE),(2,pt0 b1),(4,pt0 b2)]) (fun ⟨M,y,n,D,B,t,p,ah,H,E,O,L,F,I,Y⟩=>Mem.le G0 Y/\sl Rp.str Y y n M.vars/\sl b' Y D B M.eqs/\sl b' Y t p M.neqs/\sl Rp.str Y H E ah.s.vars/\sl b' Y O L ah.s.eqs/\sl b' Y F I ah.s.neqs/\(ZgX l1 M).Ret r) (fun ⟨M,y,n,D,B,t,p,ah,H,E,O,L,F,I,Y⟩=>St w0 G0 Y [(2,bk0 b1 (v31' M y n D B t p) 31),(4,bk0 b2 (v72' ah H E O L F I) 72)]) ?_ ?_
 .refine C' ?_
  let aS:(Zx⊕(Za×Zx))->Prop:=fun oo=>((fun ov=>match ov with | .inl rv1=>Cq.ret rv1 | .inr (M,ah)=>ZgX l1 M:(Zx⊕(Za×Zx))->Cq Zx) oo).wp (fun a=>a=r)
  replace hr:(Cq.loop _ _).wp aS:=hr
  refine an' (Φ:=aS) (fun (⟨i1,aa,x,o,C,A,s,q,X,d,g,l,m,e,k,Q⟩:Int×Za×Option Addr×Nat×Option Addr×Nat×Option Addr×Nat×Zx×Option Addr×Nat×Option Addr×Nat×Option Addr×Nat×Mem)=>((i1,aa,X):Int×Za×Zx)) (fun ⟨i1,aa,x,o,C,A,s,q,X,d,g,l,m,e,k,Q⟩=>[(1,.slice aC l1.length aE),(2,pt0 b1),(4,pt0 b2),(5,i' i1)]) (fun ⟨i1,aa,x,o,C,A,s,q,X,d,g,l,m,e,k,Q⟩=>Mem.le G0 Q/\sl Rp.str Q x o aa.vars/\sl b' Q C A aa.eqs/\sl b' Q s q aa.neqs/\y31' Q d g l m e k X.s) (fun ⟨i1,aa,x,o,C,A,s,q,X,d,g,l,m,e,k,Q⟩=>St w0 G0 Q [(2,bk0 b1 (v31' aa x o C A s q) 31),(4,bk0 b2 (v72' X d g l m e k) 72)]) ⟨0,s1,ac,ad,an,ak,af,ae,(Zx.mk (Za.mk [] [] [] 0) 0 0),none,0,none,0,none,0,G0⟩ hr (f4 z z z z) ⟨mr,aM,aP,aI,(R' _ _),(R' _ _),(R' _ _)⟩ (w2 z z) ?_
  .intro bz gx hx hr
   obtain⟨i1,aa,x,o,C,A,s,q,X,d,g,l,m,e,k,Q⟩:=gx
   obtain⟨ab,aj,ao,al,ai,am,ag⟩:=hx
   refine n'<|sr<|mv z z<|mv z z<|yy (M' ao' (aA.mono ab) z) z<|yy (aj' z z) z<|nx<|L' hr z (fun bn hr=>?_) (fun bn hr=>?_)
   .refine q'<|g'<|n'<|C'<|n'<|ah' [ff,ff,ff,ff,ff,ff,ff,ff,tt,ff] mix (by kernel_rfl) fun hb=>cn (fun _ f=>o' 2 au' z z z)<|cn (fun _ f=>e' z)<|cn (fun _ f=>e' z) ?_
    obtain⟨x1,a8,hr⟩:=hr
    refine cn (fun _ f=>V' ao' cf' ((aA.mono ab).mono f) z z a8) ?_
    obtain⟨bt,bv,bf,be⟩:=dd' (J' (af' aA a8) ab)
    refine cn (fun _ f=>aC' _ bP' z z (fun j v hv=>f _ _ _ (bf j v hv))) ?_
    obtain⟨Z,bb,hr⟩:=hr
    refine aX' (post:=w31t' Z) (fun _=>z) (fun _ _=>t' E55 z) (et' bb) z (fun G' f=>⟨(aj.mono f),(ao.mono f),(al.mono f),(be.mono f)⟩) (fun v G1 G2 f h=>?_) ?_
    .obtain⟨S,U,V,W,T,R,rfl,J,P,K⟩:=h
     exact⟨_,_,_,_,_,_,z,J.mono f,P.mono f,K.mono f⟩
    refine bm' (φ:=w31t' Z) (fun _=>z) (fun v G1 G2 f h=>?_) (fun u G' f hu=>?_) ?_
    .obtain⟨p1,aF,p2,aD,p3,aB,rfl,av,ax,aw⟩:=h
     exact⟨_,_,_,_,_,_,z,av.mono f,ax.mono f,aw.mono f⟩
    .obtain⟨⟨S,U,V,W,T,R,a0,J,P,K⟩,_⟩:=(show (w31t' Z) G'.m (u 20)/\True from hu)
     simp only[undFr,a0]
     exact⟨_,e' z,S,U,V,W,T,R,z,J,P,K⟩
    refine bm' (φ:=w31' Z.1) (fun _=>z) (fun v G1 G2 f h=>?_) (fun u G' f hu=>?_) ?_
    .obtain⟨p4,a5,p5,a3,p6,a4,rfl,aR,aU,aQ⟩:=h
     exact⟨_,_,_,_,_,_,z,aR.mono f,aU.mono f,aQ.mono f⟩
    .obtain⟨⟨p1,aF,p2,aD,p3,aB,ap,av,ax,aw⟩,_,_⟩:=(show (w31t' Z) G'.m (u 14)/\True/\True from hu)
     simp only[undFr,ap]
     exact⟨_,x' z z,p1,aF,p2,aD,p3,aB,z,av,ax,aw⟩
    refine bu' (c:=i' Z.2) (fun _=>z) (fun u G' f hu=>?_) ?_
    .obtain⟨_,⟨p1,aF,p2,aD,p3,aB,ap,av,ax,aw⟩,_,_⟩:=(show True/\(w31t' Z) G'.m (u 14)/\True/\True from hu)
     simp only[undFr,ap]
     exact x' z z
    refine bF' (fun _=>z) z31<|cp' (fun bB bo bs bu X1 ar aV aN aO aH=>?_)
    obtain⟨b3,rfl,ba⟩:=aV
    obtain⟨p4,a5,p5,a3,p6,a4,rfl,aR,aU,aQ⟩:=aN
    obtain⟨p1,aF,p2,aD,p3,aB,rfl,av,ax,aw⟩:=aO
    obtain⟨S,U,V,W,T,R,rfl,J,P,K⟩:=aH
    refine cx' ba (cg' (show WL _ _ _ _ _ _ (St w0 G0 X1.m _) from ?_))
    refine s' 6 z aV' z z z z z (List.all_eq_true.1 z)<|sg z z<|v'<|ar'<|g'<|n'<|sr<|mv z z<|yy (aw' z z) z<|nx<|L' hr z (fun bk hr=>?_) (fun bk hr=>?_)
    .refine sr<|mv z z<|mv z z<|yy (av' (vs:=#[(1,i' i1),(2,i' Z.2)]) (v:=.agg ([.slice none 0 0,.slice none 0 0,.slice none 0 0,i' 0,i' i1,i' Z.2]).toArray) z z (fun _=>by kernel_rfl)) z<|s' 4 z sz72 z z z z z (List.all_eq_true.1 z)<|nx<|j'<|a'<|m'<|a'<|a'<|m'<|ab'<|a' ?_
     obtain rfl:_=r:=hr
     exact k' z (ad' (i:=4) ag72 z z z) ⟨_,_,_,_,_,_,z,(R' Rp.str _),(R' b' _),(R' b' _)⟩
    refine q'<|g'<|A'<|yy (o' 6 au' z z z) z<|s' 2 z aV' z z z z z (List.all_eq_true.1 z)<|v'<|I'<|g'<|A'<|mv z z<|yy (W' z z) z<|sg z z<|v'<|Y' ⟨i64.wrap (i1+1),Z.1,p4,a5,p5,a3,p6,a4,X,d,g,l,m,e,k,X1.m⟩ hr ⟨(mx ab ar),aR,aU,aQ,(ai.mono ar),(am.mono ar),(ag.mono ar)⟩ (f4 z z z z) (w2 z z)
   refine ap'<|r'<|r'<|O'<|aq' ⟨aa,x,o,C,A,s,q,X,d,g,l,m,e,k,Q⟩ ⟨ab,aj,ao,al,ai,am,ag,hr⟩ (f3 z z z) (w2 z z)
 rintro⟨M,y,n,D,B,t,p,ah,H,E,O,L,F,I,Y⟩ ⟨aZ,ay,aL,az,a7,a9,a6,hr⟩
 refine g'<|sr<|yy (o' 2 au' z z z) z<|mv z z<|yy (M' ao' (aA.mono aZ) z) z<|yy (av' (vs:=#[(0,.agg ((v31' M y n D B t p)).toArray),(1,i' (l1.length:Int))]) (v:=.agg ([.slice y M.vars.length n,.slice D M.eqs.length B,.slice t M.neqs.length p,i' M.next,i' (l1.length:Int),i' 0]).toArray) z z (fun _=>by kernel_rfl)) z<|s' 4 z sz72 z z z z z (List.all_eq_true.1 z)<|nx<|j' ?_
 obtain rfl:_=r:=hr
 exact k' z (ad' (i:=4) ag72 z z z) ⟨_,_,_,_,_,_,z,ay,aL,az⟩
theorem fk'{l i k f g c d F J r}(hr:(Zb4 l).Ret r):Ctr prog 41 #[.agg ((v34' l i k f g c d F J)).toArray] (fun G=>y34' G i k f g c d F J l) (fun G v=>∃ ak ag,v = .tuple #[.slice ak r.1.length ag,.bool r.2]/\sl aR' G ak ag r.1):=by
 refine H' (args:=[_]) (N:=66) func41 z z z (fun w0 G0 ah aE=>?_)
 obtain⟨S,V,R,U⟩:=aE
 refine sr<|ag' 1 z z z fun b1=>sg z z<|sg z z<|nr<|yy (cJ' z) z<|yy (aJ' ((v31' l.root i k f g c d)).toArray 1 au' z z z (aU' ([]) ((v31' l.root i k f g c d)) ([.slice F l.v.length J]))) z<|bc' (e:=31) (r:=aR') (vs:=#[(0,.agg ((v31' l.root i k f g c d)).toArray)]) (cs:=(v31' l.root i k f g c d)++([])) ([l.root]:List Za) z z z z z (by decide) (fun _=>by kernel_rfl) ⟨(v31' l.root i k f g c d),[],z,⟨[.slice i l.root.vars.length k],[.slice f l.root.eqs.length g,.slice c l.root.neqs.length d,i' l.root.next],z,⟨_,z,S⟩,⟨[.slice f l.root.eqs.length g],[.slice c l.root.neqs.length d,i' l.root.next],z,⟨_,z,V⟩,⟨[.slice c l.root.neqs.length d],[i' l.root.next],z,⟨_,z,R⟩,z⟩⟩⟩,z⟩ (key:=999) z (by rw[ah]; rfl) fun p1 ai X aR=>sx0 z z<|n'<|sr<|sx0 z z<|am' (fun (⟨C,K,L,I,W⟩:(List Za)×Option Addr×Nat×Option Ow×Mem)=>[(4,.slice K C.length L)]) (fun ⟨C,K,L,I,W⟩=>Mem.le ai W/\sl aR' W K L C/\Tok 4 31 (.slice K C.length L) C.length I/\(Zdk C).Ret r) (fun ⟨C,K,L,I,W⟩=>St w0 G0 W [(1004,I)]) ?_ ?_
 .refine C' ?_
  let ab:(((List Za)×Bool)⊕(List Za))->Prop:=fun oo=>((fun ov=>match ov with | .inl rv1=>Cq.ret rv1 | .inr C=>Zdk C:(((List Za)×Bool)⊕(List Za))->Cq ((List Za)×Bool)) oo).wp (fun a=>a=r)
  replace hr:(Cq.loop _ _).wp ab:=hr
  refine an' (Φ:=ab) (fun (⟨u,B,A,y,D,M⟩:(List Za)×Option Addr×Nat×Option Ow×Int×Mem)=>((u,D):(List Za)×Int)) (fun ⟨u,B,A,y,D,M⟩=>[(1,pt0 b1),(4,.slice B u.length A),(5,i' D)]) (fun ⟨u,B,A,y,D,M⟩=>Mem.le ai M/\sl aR' M B A u/\Tok 4 31 (.slice B u.length A) u.length y) (fun ⟨u,B,A,y,D,M⟩=>St w0 G0 M [(1,bk0 b1 (v34' l i k f g c d F J) 34),(1004,y)]) ⟨[l.root],p1,1,none,1,ai⟩ hr (f3 z z z) ⟨mr,aR,cX'⟩ (wk (lc z (lw ln))) ?_
  .intro aK gx hx hr
   obtain⟨u,B,A,y,D,M⟩:=gx
   obtain⟨Q,T,Z⟩:=hx
   refine n'<|sr<|mv z z<|yy (ai' z) z<|yy (f' 1 aZ' z z z) z<|yy (M' B' (U.mono (mx X Q)) z) z<|yy (aj' z z) z<|nx<|L' hr z (fun a2 hr=>?_) (fun a2 hr=>?_)
   .refine q'<|g'<|n'<|C'<|sr<|yy (ai' z) z<|yy (f' 1 aZ' z z z) z<|mv z z ?_
    obtain⟨x1,aw,hr⟩:=hr
    refine yy (V' B' bV' (U.mono (mx X Q)) z z aw) z ?_
    obtain⟨aD,aC,aL,aj⟩:=cO' (J' (af' U aw) (mx X Q))
    refine yy (aC' _ ag63 z z aL) z<|Q' 6 z z63 z fun b2=>s' 6 z bV' z z z z z (List.all_eq_true.1 z)<|nx<|aM' (fun (gx:Mem)=>match gx with|Y=>[(1,pt0 b1),(4,.slice B u.length A),(5,i' D),(6,pt0 b2)]) (fun (gx:Mem)=>match gx with|Y=>Mem.le M Y/\(ZfS u D x1).wp (Out aK ab)) (fun (gx:Mem)=>match gx with|Y=>St w0 G0 Y [(1,bk0 b1 (v34' l i k f g c d F J) 34),(6,bk0 b2 (v63' x1 aD aC) 63),(1004,y)]) ?_ ?_
    .refine sr<|yy (bX' z) z<|yy (f' 6 sc3 z z z) z<|ac' hr z (aj' z z) z (fun a1 hr=>?_) (fun a1 hr=>?_)
     .refine mv z z<|sn4 z<|yy (h' z z) z<|mv z z<|sn3 z<|yy (h' z z) z<|mv z z<|sn4 z<|yy (h' z z) z<|mv z z<|sn4 z<|yy (h' z z) z<|nx<|U' z<|sr<|sg z z<|sx0 z z<|j'<|a'<|m'<|a'<|a'<|m'<|ab'<|a' ?_
      obtain rfl:_=r:=hr
      exact aH' z z z ⟨_,_,z,(R' aR' _)⟩
     refine mv z z<|gy z z (bX' z) z<|gy z z (f' 6 sc3 z z z) z<|gy z z (e' z) z<|ac' hr (w' z z) (bf' z z) z (fun aQ hr=>?_) (fun aQ hr=>?_)
     .refine yy (l' z z) z<|mv z z<|sn3 z<|yy (h' z z) z<|mv z z<|sn4 z<|yy (h' z z) z<|mv z z<|sn4 z<|yy (h' z z) z<|nx<|U' z<|sr<|sg z z<|sx0 z z<|j'<|a'<|m'<|a'<|a'<|m'<|ab'<|a' ?_
      obtain rfl:_=r:=hr
      exact aH' z z z ⟨_,_,z,(R' aR' _)⟩
     refine yy (l' z z) z<|mv z z<|gy z z (cC' z) z<|gy z z (f' 6 sc3 z z z) z<|ac' hr (w' z z) (aj' z z) z (fun aV hr=>?_) (fun aV hr=>?_)
     .refine yy (l' z z) z<|mv z z<|sn4 z<|yy (h' z z) z<|mv z z<|sn4 z<|yy (h' z z) z<|nx<|U' z<|sr<|sg z z<|sx0 z z<|j'<|a'<|m'<|a'<|a'<|m'<|ab'<|a' ?_
      obtain rfl:_=r:=hr
      exact aH' z z z ⟨_,_,z,(R' aR' _)⟩
     refine yy (l' z z) z<|mv z z<|gy z z (cC' z) z<|gy z z (f' 6 sc3 z z z) z<|gy z z (e' z) z<|ac' hr (w' z z) (bf' z z) z (fun a0 hr=>?_) (fun a0 hr=>?_)
     .refine yy (l' z z) z<|mv z z<|sn4 z<|yy (h' z z) z<|nx<|U' z<|sr<|sg z z<|sx0 z z<|j'<|a'<|m'<|a'<|a'<|m'<|ab'<|a' ?_
      obtain rfl:_=r:=hr
      exact aH' z z z ⟨_,_,z,(R' aR' _)⟩
     refine yy (l' z z) z<|mv z z<|gy z z (bJ' z) z<|gy z z (f' 6 sc44 z z z) z<|gy z z (M' ao' aj z) z<|gy z z (be' z z) z<|yy (l' z z) z<|nx<|L' hr z (fun aW hr=>?_) (fun aW hr=>?_)
     .refine sr<|sg z z<|sx0 z z<|j'<|a'<|m'<|a'<|a'<|m'<|ab'<|a' ?_
      obtain rfl:_=r:=hr
      exact aH' z z z ⟨_,_,z,(R' aR' _)⟩
     refine q'<|as' M ⟨mr,hr⟩ (f4 z z z z) (w3 z z z)
    rintro Y ⟨P,hr⟩
    refine n'<|ah' [ff,ff,ff,ff,ff,ff,ff,ff,ff] mix (by kernel_rfl) fun hb=>cn (fun _ x=>e' z)<|cn (fun _ x=>bX' z)<|cn (fun _ x=>f' 6 sc3 z z z) ?_
    obtain⟨x2,av,hr⟩:=hr
    refine cn (fun _ x=>V' cI' aV' ((T.mono P).mono x) z z av) ?_
    obtain⟨aG,aF,aO,aX,aI,aH,aJ,ad,an,ae⟩:=cY' (J' (af' T av) P)
    refine cn (fun _ x=>aC' _ au' z z (fun j v hv=>x _ _ _ (aJ j v hv)))<|cn (fun _ x=>bJ' z)<|cn (fun _ x=>f' 6 sc44 z z z) ?_
    obtain⟨t,aB,hr⟩:=hr
    refine aX' (post:=w72' t) (fun _=>z) (fun _ _=>t' E30 z) (fg' aB) z (fun G' x=>⟨(ad.mono x),(an.mono x),(ae.mono x),((aj.mono P).mono x)⟩) (fun v G1 G2 x h=>?_) ?_
    .obtain⟨o,q,s,p,m,n,rfl,E,O,H⟩:=h
     exact⟨_,_,_,_,_,_,z,E.mono x,O.mono x,H.mono x⟩
    refine bF' (fun _=>z) z72<|ei' (fun bd a8 X1 al am af=>?_)
    obtain⟨b3,rfl,az⟩:=am
    obtain⟨o,q,s,p,m,n,rfl,E,O,H⟩:=af
    refine cx' az (cg' (show WL _ _ _ _ _ _ (St w0 G0 X1.m _) from ?_))
    refine s' 7 z sz72 z z z z z (List.all_eq_true.1 z)<|v'<|ar'<|g'<|n'<|sr<|yy (Y0.Zk8 z) z<|yy (f' 7 sc36 z z z) z<|yy (aw' z z) z<|nx<|L' hr z (fun aP hr=>?_) (fun aP hr=>?_)
    .refine sr<|sg z z<|sx0 z z<|j'<|a'<|m'<|a'<|a'<|m'<|ab'<|a' ?_
     obtain rfl:_=r:=hr
     exact aH' z z z ⟨_,_,z,(R' aR' _)⟩
    refine q'<|g'<|A'<|mv z z<|yy (Y0.Zp1 z) z<|yy (aJ' ((v31' t.s o q s p m n)).toArray 7 au' z z z (aU' ([]) ((v31' t.s o q s p m n)) ([i' t.n,i' t.e]))) z<|bc' (e:=31) (r:=aR') (vs:=#[(0,.agg ((v31' t.s o q s p m n)).toArray)]) (cs:=(v31' t.s o q s p m n)++([])) ([t.s]:List Za) z z z z z (by decide) (fun _=>by kernel_rfl) ⟨(v31' t.s o q s p m n),[],z,⟨[.slice o t.s.vars.length q],[.slice s t.s.eqs.length p,.slice m t.s.neqs.length n,i' t.s.next],z,⟨_,z,E⟩,⟨[.slice s t.s.eqs.length p],[.slice m t.s.neqs.length n,i' t.s.next],z,⟨_,z,O⟩,⟨[.slice m t.s.neqs.length n],[i' t.s.next],z,⟨_,z,H⟩,z⟩⟩⟩,z⟩ (key:=999) z (by rw[ah]; rfl) (fun p2 bc ac aU=>?_)
    obtain⟨ay,hr⟩:=hr
    refine bT' (r:=aR') 1004 z z cI' el31 z (by decide) z z (T.mono (mx (mx P al) ac)) z (by rw[ah]; rfl) Z aU ay fun p3 aN ax aS ar aT aA=>sg z z<|v'<|I'<|g'<|A'<|mv z z<|yy (W' z z) z<|sg z z<|v'<|Y' ⟨(u++[t.s]),p3,aN,ax,i64.wrap (D+1),aS⟩ hr ⟨(mx (mx (mx (mx Q P) al) ac) ar),aT,aA⟩ (f3 z z z) (w2 z z)
   refine ap'<|r'<|r'<|O'<|aq' ⟨u,B,A,y,M⟩ ⟨Q,T,Z,hr⟩ (f1 z) (w1 z)
 rintro⟨C,K,L,I,W⟩ ⟨a3,ao,aM,hr⟩
 refine g'<|sr<|mv z z<|sg z z<|sx0 z z<|j' ?_
 obtain rfl:_=r:=hr
 exact aH' z z z ⟨_,_,z,ao⟩
theorem eN'{m J f h j k e g o p r}(hr:(Zg2 m J).Ret r):Ctr prog 12 #[.agg ((v34' m f h j k e g o p)).toArray,i' J] (fun G=>y34' G f h j k e g o p m) (w31t' r):=by
 refine H' (args:=[_,_]) (N:=22) func12 z z z (fun Y X V B=>?_)
 obtain⟨c,l,d,q⟩:=B
 refine sr<|ag' 2 z z z fun W=>Q' 4 z z31 z fun Z=>sx0 z z<|n'<|sr<|yy (o' 2 aB' z z z) z<|mv z z ?_
 obtain⟨T,C,hr⟩:=hr
 refine E' z z (t' E40 z) (ef' C) z (⟨c,l,d,q⟩)<|yy (al' z) z<|nx<|aL' hr z (fun P hr=>?_) (fun P hr=>?_)
 .refine sr<|yy (av' (vs:=#[]) (v:=.agg ([.slice none 0 0,.slice none 0 0,.slice none 0 0,i' 0]).toArray) z z (fun _=>by kernel_rfl)) z<|s' 4 z aV' z z z z z (List.all_eq_true.1 z)<|sx0 z z<|j'<|a' ?_
  obtain rfl:_=r:=hr
  exact aH' z (ad' (i:=4) au' z z z) z ⟨_,_,_,_,_,_,z,(R' Rp.str _),(R' b' _),(R' b' _)⟩
 refine q'<|g'<|sr<|yy (o' 2 aB' z z z) z ?_
 obtain⟨S,A,hr⟩:=hr
 refine P' z z (t' E41 z) (fk' A) z (⟨c,l,d,q⟩) (fun R U Q s=>?_)
 obtain⟨L,K,rfl,n⟩:=s
 refine mv z z<|yy (x' z z) z<|yy (x' z z) z<|sg z z<|sg z z<|nr<|mv z z<|mv z z ?_
 obtain⟨x1,y,hr⟩:=hr
 refine yy (V' cI' aV' n z z y) z ?_
 obtain⟨F,E,O,I,H,D,M,u,x,t⟩:=cY' (af' n y)
 refine yy (aC' _ au' z z M) z<|s' 4 z aV' z z z z z (List.all_eq_true.1 z)<|sx0 z z<|j' ?_
 obtain rfl:_=r:=hr
 exact aH' z (ad' (i:=4) au' z z z) z ⟨_,_,_,_,_,_,z,u,x,t⟩
theorem ev'{s1 l1 T O P Y X S Q an ao r}(hr:(ZgY s1 l1 T).Ret r):Ctr prog 28 #[.agg ((v31' s1 O P Y X S Q)).toArray,.slice an l1.length ao,i' T] (fun G=>sl Rp.str G O P s1.vars/\sl b' G Y X s1.eqs/\sl b' G S Q s1.neqs/\sl cq' G an ao l1) (wl' Z' r):=by
 refine H' (args:=[_,_,_]) (N:=44) func28 z z z (fun w0 G0 ay aO=>?_)
 obtain⟨au,ax,aq,az⟩:=aO
 refine sr<|ag' 3 z z z fun b1=>sg z z<|nr<|bc' (e:=48) (r:=Z') (vs:=#[]) (cs:=[]) ([]:List Zc) z z z z z (by decide) (fun _=>by kernel_rfl) (z) (key:=999) z (by rw[ay]; rfl) fun p1 aA I aW=>sx0 z z<|n'<|sr<|sx0 z z<|am' (fun (⟨A,H,F,E,aa⟩:(List Zc)×Option Addr×Nat×Option Ow×Mem)=>[(7,.slice H A.length F)]) (fun ⟨A,H,F,E,aa⟩=>Mem.le aA aa/\sl Z' aa H F A/\Tok 7 48 (.slice H A.length F) A.length E/\(Zeu A).Ret r) (fun ⟨A,H,F,E,aa⟩=>St w0 G0 aa [(1007,E)]) ?_ ?_
 .refine C' ?_
  let am:(List Zc)->Prop:=fun oo=>((fun ov=>match ov with|A=>Zeu A:(List Zc)->Cq (List Zc)) oo).wp (fun a=>a=r)
  replace hr:(Cq.loop _ _).wp am:=hr
  refine an' (Φ:=am) (fun (⟨m,q,p,l,Z,D,k,f,o,n,i,g,x⟩:(List Zc)×Option Addr×Nat×Option Ow×Int×Za×Option Addr×Nat×Option Addr×Nat×Option Addr×Nat×Mem)=>((m,Z,D):(List Zc)×Int×Za)) (fun ⟨m,q,p,l,Z,D,k,f,o,n,i,g,x⟩=>[(1,.slice an l1.length ao),(2,i' T),(3,pt0 b1),(7,.slice q m.length p),(8,i' Z)]) (fun ⟨m,q,p,l,Z,D,k,f,o,n,i,g,x⟩=>Mem.le aA x/\sl Z' x q p m/\Tok 7 48 (.slice q m.length p) m.length l/\y31' x k f o n i g D) (fun ⟨m,q,p,l,Z,D,k,f,o,n,i,g,x⟩=>St w0 G0 x [(3,bk0 b1 (v31' D k f o n i g) 31),(1007,l)]) ⟨[],p1,0,none,0,s1,O,P,Y,X,S,Q,aA⟩ hr (f5 z z z z z) ⟨mr,aW,cX',(au.mono I),(ax.mono I),(aq.mono I)⟩ (wk (lc z (lw ln))) ?_
  .intro aP gx hx hr
   obtain⟨m,q,p,l,Z,D,k,f,o,n,i,g,x⟩:=gx
   obtain⟨C,U,L,J,R,K⟩:=hx
   refine aM' (fun (gx:Mem)=>match gx with|ai=>[(1,.slice an l1.length ao),(2,i' T),(3,pt0 b1),(7,.slice q m.length p),(8,i' Z)]) (fun (gx:Mem)=>match gx with|ai=>Mem.le x ai/\(Zg0 l1 m Z D).wp (Out aP am)) (fun (gx:Mem)=>match gx with|ai=>St w0 G0 ai [(3,bk0 b1 (v31' D k f o n i g) 31),(1007,l)]) ?_ ?_
   .refine sr<|mv z z<|mv z z<|yy (M' da' (az.mono (mx I C)) z) z<|ac' hr z (aj' z z) z (fun a0 hr=>?_) (fun a0 hr=>?_)
    .refine mv z z<|gy z z (e' z) z<|gy z z (e' z) z<|gy z z (aj' z z) z<|yy (h' z z) z<|nx<|L' hr z (fun aV hr=>?_) (fun aV hr=>?_)
     .refine q'<|as' x ⟨mr,hr⟩ (f5 z z z z z) (w2 z z)
     refine ap'<|r'<|r'<|O'<|aq' ⟨m,q,p,l,x⟩ ⟨C,U,L,hr⟩ (f1 z) (w1 z)
    refine mv z z<|sn3 z<|yy (l' z z) z<|nx<|bd' z<|ap'<|r'<|r'<|O'<|aq' ⟨m,q,p,l,x⟩ ⟨C,U,L,hr⟩ (f1 z) (w1 z)
   rintro ai ⟨d,hr⟩
   refine n'<|C'<|n'<|ah' [ff,ff,ff,ff,ff,ff,ff] mix (by kernel_rfl) fun hb=>cn (fun _ B=>o' 3 au' z z z)<|cn (fun _ B=>e' z)<|cn (fun _ B=>e' z) ?_
   obtain⟨x1,aH,hr⟩:=hr
   refine cn (fun _ B=>V' da' sz54 ((az.mono (mx (mx I C) d)).mono B) z z aH) ?_
   obtain⟨a4,a3,aR,aE⟩:=Zg8 (J' (af' az aH) (mx (mx I C) d))
   refine cn (fun _ B=>aC' _ ag54 z z (fun j v hv=>B _ _ _ (aR j v hv))) ?_
   obtain⟨c,aM,hr⟩:=hr
   refine aX' (post:=w48' c) (fun _=>z) (fun _ _=>t' E19 z) (fd' aM) z (fun G' B=>⟨((J.mono d).mono B),((R.mono d).mono B),((K.mono d).mono B),(aE.mono B)⟩) (fun v G1 G2 B h=>?_) ?_
   .obtain⟨t,s,rfl,V⟩:=h
    exact⟨_,_,z,V.mono B⟩
   refine bF' (fun _=>z) z48<|ei' (fun bf ba X1 y aB ap=>?_)
   obtain⟨b2,rfl,aK⟩:=aB
   obtain⟨t,s,rfl,V⟩:=ap
   refine cx' aK (cg' (show WL _ _ _ _ _ _ (St w0 G0 X1.m _) from ?_))
   refine s' 9 z cf' z z z z z (List.all_eq_true.1 z)<|v'<|ar'<|g'<|sr<|yy (o' 3 au' z z z) z<|yy (o' 9 bP' z z z) z ?_
   obtain⟨aU,aN,hr⟩:=hr
   refine P' z z (t' E55 z) (et' aN) z (⟨(J.mono (mx d y)),(R.mono (mx d y)),(K.mono (mx d y)),V⟩) (fun a9 aS u av=>?_)
   obtain⟨ag,ae,aj,ak,ab,ac,rfl,af,ah,ad⟩:=av
   refine mv z z<|yy (x' z z) z<|yy (x' z z) z<|Q' 10 z z31 z fun b3=>s' 10 z aV' z z z z z (List.all_eq_true.1 z)<|sg z z<|nr<|mv z z<|yy (at' z z) z<|nx<|L' hr z (fun a1 hr=>?_) (fun a1 hr=>?_)
   .refine sr<|mv z z<|yy (o' 9 bP' z z z) z<|bc' (e:=48) (r:=Z') (vs:=#[(0,.agg ((v48' c t s)).toArray)]) (cs:=(v48' c t s)++([])) ([c]:List Zc) z z z z z (by decide) (fun _=>by kernel_rfl) ⟨(v48' c t s),[],z,⟨[i' c.kind],[.string c.name,i' c.at',i' c.to',i' c.id,.slice t c.p.length s,.bool c.neq],z,z,⟨[.string c.name],[i' c.at',i' c.to',i' c.id,.slice t c.p.length s,.bool c.neq],z,z,⟨[i' c.at'],[i' c.to',i' c.id,.slice t c.p.length s,.bool c.neq],z,z,⟨[i' c.to'],[i' c.id,.slice t c.p.length s,.bool c.neq],z,z,⟨[i' c.id],[.slice t c.p.length s,.bool c.neq],z,z,⟨[.slice t c.p.length s],[.bool c.neq],z,⟨_,z,(V.mono u)⟩,z⟩⟩⟩⟩⟩⟩,z⟩ (key:=999) z (by rw[ay]; rfl) (fun p2 be M aZ=>?_)
    obtain⟨aJ,hr⟩:=hr
    refine bT' (r:=Z') 1007 z z ao' el48 z (by decide) z z (U.mono (mx (mx (mx d y) u) M)) z (by rw[ay]; rfl) L aZ aJ fun p3 aT aI aQ W aY aL=>sx0 z z<|A'<|yy (o' 10 au' z z z) z<|s' 3 z aV' z z z z z (List.all_eq_true.1 z)<|v'<|I'<|g'<|A'<|mv z z<|yy (W' z z) z<|sg z z<|v'<|Y' ⟨(m++[c]),p3,aT,aI,i64.wrap (Z+1),aU.1,ag,ae,aj,ak,ab,ac,aQ⟩ hr ⟨(mx (mx (mx (mx (mx C d) y) u) M) W),aY,aL,(af.mono (mx M W)),(ah.mono (mx M W)),(ad.mono (mx M W))⟩ (f5 z z z z z) (w2 z z)
   have N1:=mx (mx d y) u
   refine q'<|I'<|g'<|A'<|mv z z<|yy (W' z z) z<|sg z z<|v'<|Y' ⟨m,q,p,l,i64.wrap (Z+1),D,k,f,o,n,i,g,aS⟩ hr ⟨(mx (mx (mx C d) y) u),(U.mono N1),L,(J.mono N1),(R.mono N1),(K.mono N1)⟩ (f5 z z z z z) (w2 z z)
 rintro⟨A,H,F,E,aa⟩ ⟨a2,aG,aX,hr⟩
 refine g'<|sr<|mv z z<|sx0 z z<|j' ?_
 obtain rfl:_=r:=hr
 exact k' z z ⟨_,_,z,aG⟩
theorem fC'{c y x m g j k l d f J K T U r}(hr:(Zgg c y x m).Ret r):Ctr prog 36 #[.agg ((v34' c g j k l d f J K)).toArray,i' y,i' x,.slice T m.length U] (fun G=>sl Rp.str G g j c.root.vars/\sl b' G k l c.root.eqs/\sl b' G d f c.root.neqs/\sl X' G J K c.v/\sl Z' G T U m) (w84' r):=by
 refine H' (args:=[_,_,_,_]) (N:=66) func36 z z z (fun w0 G0 a7 a2=>?_)
 obtain⟨D,E,C,I,ab⟩:=a2
 refine sr<|ag' 4 z z z fun b1=>Q' 8 z z84 z fun b2=>nx<|n'<|sr<|yy (o' 4 aB' z z z) z<|mv z z ?_
 obtain⟨bG,aV,hr⟩:=hr
 refine E' z z (t' E40 z) (ef' aV) z (⟨D,E,C,I⟩)<|yy (al' z) z<|nx<|aL' hr z (fun bj hr=>?_) (fun bj hr=>?_)
 .refine sr<|yy (av' (vs:=#[(2,i' 340)]) (v:=.agg ([.slice none 0 0,.slice none 0 0,.slice none 0 0,i' 0,.slice none 0 0,i' 0,i' 340]).toArray) z z (fun _=>by kernel_rfl)) z<|s' 8 z sz84 z z z z z (List.all_eq_true.1 z)<|nx<|j'<|a' ?_
  obtain rfl:_=r:=hr
  exact k' z (ad' (i:=8) ag84 z z z) ⟨_,_,_,_,_,_,_,_,z,(R' Rp.str _),(R' b' _),(R' b' _),(R' X' _)⟩
 refine q'<|g'<|aM' (fun (⟨S,n,q,t,s,o,p,M,L,P⟩:ZR×Option Addr×Nat×Option Addr×Nat×Option Addr×Nat×Option Addr×Nat×Mem)=>[(1,i' y),(2,i' x),(3,.slice T m.length U),(4,pt0 b1),(8,pt0 b2)]) (fun ⟨S,n,q,t,s,o,p,M,L,P⟩=>Mem.le G0 P/\sl Rp.str P n q S.h.root.vars/\sl b' P t s S.h.root.eqs/\sl b' P o p S.h.root.neqs/\sl X' P M L S.h.v/\(ZgH c y x m).Ret r) (fun ⟨S,n,q,t,s,o,p,M,L,P⟩=>St w0 G0 P [(4,bk0 b1 (v34' c g j k l d f J K) 34),(8,bk0 b2 (v84' S n q t s o p M L) 84)]) ?_ ?_
 .refine sr<|yy (ai' z) z<|yy (f' 4 aZ' z z z) z<|yy (M' B' I z) z<|ac' hr z (bf' z z) z (fun bi hr=>?_) (fun bi hr=>?_)
  .refine mv z z<|sn3 z<|yy (h' z z) z<|nx<|U' z<|sr<|yy (av' (vs:=#[(2,i' 2)]) (v:=.agg ([.slice none 0 0,.slice none 0 0,.slice none 0 0,i' 0,.slice none 0 0,i' 0,i' 2]).toArray) z z (fun _=>by kernel_rfl)) z<|s' 8 z sz84 z z z z z (List.all_eq_true.1 z)<|nx<|j'<|a' ?_
   obtain rfl:_=r:=hr
   exact k' z (ad' (i:=8) ag84 z z z) ⟨_,_,_,_,_,_,_,_,z,(R' Rp.str _),(R' b' _),(R' b' _),(R' X' _)⟩
  refine mv z z<|gy z z (e' z) z<|gy z z (M' ao' ab z) z<|gy z z (be' z z) z<|yy (l' z z) z<|nx<|L' hr z (fun be hr=>?_) (fun be hr=>?_)
  .refine sr<|yy (av' (vs:=#[(2,i' 2)]) (v:=.agg ([.slice none 0 0,.slice none 0 0,.slice none 0 0,i' 0,.slice none 0 0,i' 0,i' 2]).toArray) z z (fun _=>by kernel_rfl)) z<|s' 8 z sz84 z z z z z (List.all_eq_true.1 z)<|nx<|j'<|a' ?_
   obtain rfl:_=r:=hr
   exact k' z (ad' (i:=8) ag84 z z z) ⟨_,_,_,_,_,_,_,_,z,(R' Rp.str _),(R' b' _),(R' b' _),(R' X' _)⟩
  refine q'<|as' ⟨(ZR.mk (Zg.mk (Za.mk [] [] [] 0) []) 0 0),none,0,none,0,none,0,none,0,G0⟩ ⟨mr,(R' _ _),(R' _ _),(R' _ _),(R' _ _),hr⟩ (f5 z z z z z) (w2 z z)
 rintro⟨S,n,q,t,s,o,p,M,L,P⟩ ⟨B,ak,an,aj,bg,hr⟩
 refine sr<|yy (o' 4 aB' z z z) z<|mv z z ?_
 obtain⟨bE,aW,hr⟩:=hr
 refine P' z z (t' E12 z) (eN' aW) z (⟨(D.mono B),(E.mono B),(C.mono B),(I.mono B)⟩) (fun bz bD H ai=>?_)
 obtain⟨aC,aA,aL,aM,ax,az,rfl,ac,ad,aa⟩:=ai
 refine mv z z<|yy (x' z z) z<|yy (x' z z) z<|Q' 9 z z31 z fun b3=>s' 9 z aV' z z z z z (List.all_eq_true.1 z)<|sg z z<|nr<|yy (o' 9 au' z z z) z<|mv z z ?_
 obtain⟨aH,aZ,hr⟩:=hr
 refine P' z z (t' E30 z) (fg' aZ) z (⟨ac,ad,aa,(ab.mono (mx B H))⟩) (fun bs bF O ah=>?_)
 obtain⟨aN,aF,aT,aS,aI,aJ,rfl,aK,aP,aG⟩:=ah
 refine Q' 11 z z72 z fun b4=>s' 11 z sz72 z z z z z (List.all_eq_true.1 z)<|nx<|n'<|sr<|yy (Y0.Zk8 z) z<|yy (f' 11 sc36 z z z) z<|yy (aw' z z) z<|nx<|L' hr z (fun bb hr=>?_) (fun bb hr=>?_)
 .refine sr<|yy (Y0.Zk8 z) z<|yy (f' 11 sc36 z z z) z<|yy (av' (vs:=#[(2,i' aH.e)]) (v:=.agg ([.slice none 0 0,.slice none 0 0,.slice none 0 0,i' 0,.slice none 0 0,i' 0,i' aH.e]).toArray) z z (fun _=>by kernel_rfl)) z<|s' 8 z sz84 z z z z z (List.all_eq_true.1 z)<|nx<|j'<|a' ?_
  obtain rfl:_=r:=hr
  exact k' z (ad' (i:=8) ag84 z z z) ⟨_,_,_,_,_,_,_,_,z,(R' Rp.str _),(R' b' _),(R' b' _),(R' X' _)⟩
 refine q'<|g'<|n'<|ah' [ff,ff,ff,ff,ff,ff,ff,ff] mix (by kernel_rfl) fun hb=>cn (fun _ A=>cJ' z)<|cn (fun _ A=>aJ' ((v31' c.root g j k l d f)).toArray 4 au' z z z (aU' ([]) ((v31' c.root g j k l d f)) ([.slice J c.v.length K])))<|dB' (r:=X') (e:=63) ([]:List Zf) (fun _=>z) z (by decide) (fun u W A Y=>?_) ?_
 .exact⟨#[],[],z,z,fun _=>by kernel_rfl,z⟩
 refine cu (fun _ _ A=>ai' z)<|cu (fun _ _ A=>f' 4 aZ' z z z) ?_
 obtain⟨aQ,hr⟩:=hr
 refine ca' (r:=X') (e:=63) (kk:=45) (xs:=([]:List Zf)) c.v (fun _=>z) z (by kernel_rfl) (by kernel_rfl) B' el63 z (by decide) aQ (fun u W A Y=>?_) ?_
 .obtain⟨av,_⟩:=(show (RowX X' 63 45 ([]:List Zf)) (u 45) W/\True from Y)
  exact⟨u 45,.slice J c.v.length K,av,z,z,((I.mono (mx (mx B H) O)).mono A)⟩
 refine Chain.buildRow (r:=X') (e:=63) (kk:=48) (xs:=(([]:List Zf)++c.v)) (fun aq al=>.agg ([.slice g c.root.vars.length j,.slice k c.root.eqs.length l,.slice d c.root.neqs.length f,i' c.root.next,.slice aq (([]:List Zf)++c.v).length al]).toArray) (fun _=>z) z (by kernel_rfl) (by kernel_rfl) (fun u W A Y=>?_) ?_
 .obtain⟨aD,_,_⟩:=(show (RowX X' 63 48 (([]:List Zf)++c.v)) (u 48) W/\True/\True from Y)
  exact⟨u 48,aD,fun cp cc ao _=>av' (vs:=#[(0,.agg ((v31' c.root g j k l d f)).toArray),(1,.slice cp (([]:List Zf)++c.v).length cc)]) (by simp only[undFr,eatO,List.map_cons,List.map_nil,ao] <;> rfl) z (fun _=>by kernel_rfl)⟩
 refine bF' (fun _=>z) z34<|cp' fun bI bp br bx X1 Z ar Q a5 a3=>WL.adoptL ar (fun b5 ba bf=>?_)
 subst ba
 replace Q:=RowM.drop Q (by decide) bf
 refine WL.adoptM Q (fun aq al bl aR a1 bt=>?_)
 subst aR
 refine cg' (show WL _ _ _ _ _ _ (St w0 G0 X1.m _) from ?_)
 refine s' 12 z bC' z z z z z (List.all_eq_true.1 z)<|v'<|ar'<|g'<|n'<|ah' [ff,ff,ff,ff,ff,ff,ff,ff,ff] mix (by kernel_rfl) fun hb=>cn (fun _ A=>ai' z)<|cn (fun _ A=>f' 12 aZ' z z z)<|cn (fun _ A=>e' z)<|cn (fun _ A=>e' z)<|dB' (r:=Z') (e:=48) ([]:List Zc) (fun _=>z) z (by decide) (fun u W A Y=>?_) ?_
 .exact⟨#[],[],z,z,fun _=>by kernel_rfl,z⟩
 refine cu (fun _ _ A=>e' z) ?_
 obtain⟨aX,hr⟩:=hr
 refine ca' (r:=Z') (e:=48) (kk:=54) (xs:=([]:List Zc)) m (fun _=>z) z (by kernel_rfl) (by kernel_rfl) ao' el48 z (by decide) aX (fun u W A Y=>?_) ?_
 .obtain⟨au,_⟩:=(show (RowX Z' 48 54 ([]:List Zc)) (u 54) W/\True from Y)
  exact⟨u 54,.slice T m.length U,au,z,z,((ab.mono (mx (mx (mx B H) O) Z)).mono A)⟩
 refine Chain.buildEat (r:=Z') (e:=48) (kk:=56) (xs:=(([]:List Zc)++m)) (φ:=fun G v=>∃ R F,v = .agg ([i' y,i' x,.slice R (([]:List Zc)++m).length F]).toArray/\SlR Z' G (.slice R (([]:List Zc)++m).length F) (([]:List Zc)++m)) (fun _=>z) z (by kernel_rfl) (by kernel_rfl) (fun v G1 G2 A h=>?_) (fun u W A Y=>?_) ?_
 .obtain⟨R,F,rfl,af⟩:=h
  exact⟨_,_,z,af.mono A⟩
 .obtain⟨ay,_,_⟩:=(show (RowX Z' 48 56 (([]:List Zc)++m)) (u 56) W/\True/\True from Y)
  exact⟨u 56,ay,fun cp cc Gf ao a9=>⟨_,fun _=>av' (vs:=#[(0,i' y),(1,i' x),(2,.slice cp (([]:List Zc)++m).length cc)]) (by simp only[undFr,eatO,List.map_cons,List.map_nil,ao] <;> rfl) z (fun _=>by kernel_rfl),cp,cc,z,a9⟩⟩
 refine eH' (r:=X') (e:=63) ([(Zf.mk y x (([]:List Zc)++m))]:List Zf) (fun _=>z) z (by decide) (fun u W A Y=>?_) ?_
 .obtain⟨⟨R,F,aE,af⟩,_,_,_⟩:=(show (fun G v=>∃ R F,v = .agg ([i' y,i' x,.slice R (([]:List Zc)++m).length F]).toArray/\SlR Z' G (.slice R (([]:List Zc)++m).length F) (([]:List Zc)++m)) W.m (u 57)/\True/\True/\True from Y)
  simp only[undFr,aE]
  exact⟨#[(0,.agg ([i' y,i' x,.slice R (([]:List Zc)++m).length F]).toArray)],[i' y,i' x,.slice R (([]:List Zc)++m).length F]++([]),z,z,fun _=>by kernel_rfl,⟨[i' y,i' x,.slice R (([]:List Zc)++m).length F],[],z,⟨[i' y],[i' x,.slice R (([]:List Zc)++m).length F],z,z,⟨[i' x],[.slice R (([]:List Zc)++m).length F],z,z,⟨_,z,af⟩⟩⟩,z⟩⟩
 refine cp' (fun bk bA bo bw X2 X ae ag a4 a6=>?_)
 obtain⟨p2,bH,rfl,bd⟩:=ae
 obtain⟨R,F,rfl,af⟩:=ag
 refine cg' (show WL _ _ _ _ _ _ (St w0 G0 X2.m _) from ?_)
 obtain⟨aU,hr⟩:=hr
 refine cr' (r:=X') (e:=63) 49 z z B' el63 z (by decide) z z (a1.mono X) z bd aU fun p3 am bq bc=>yy (ai' z) z<|bE' (r:=X') (e:=63) 49 bc z (by rw[a7]; rfl) fun bB bC V aY bm=>aD' 12 ([.slice g c.root.vars.length j,.slice k c.root.eqs.length l,.slice d c.root.neqs.length f,i' c.root.next,.slice p3 ((([]:List Zf)++c.v)++[(Zf.mk y x (([]:List Zc)++m))]).length am]).toArray z sz32 z z z (show 4<5 by decide) z z<|v'<|ar'<|g'<|sr<|yy (o' 12 aB' z z z) z<|yy (ai' z) z<|yy (f' 4 aZ' z z z) z<|yy (M' B' (I.mono (mx (mx (mx (mx (mx B H) O) Z) X) V)) z) z<|yy (av' (vs:=#[(0,.agg ([.slice g c.root.vars.length j,.slice k c.root.eqs.length l,.slice d c.root.neqs.length f,i' c.root.next,.slice p3 ((([]:List Zf)++c.v)++[(Zf.mk y x (([]:List Zc)++m))]).length am]).toArray),(1,i' (c.v.length:Int))]) (v:=.agg ([.slice g c.root.vars.length j,.slice k c.root.eqs.length l,.slice d c.root.neqs.length f,i' c.root.next,.slice p3 ((([]:List Zf)++c.v)++[(Zf.mk y x (([]:List Zc)++m))]).length am,i' (c.v.length:Int),i' 0]).toArray) z z (fun _=>by kernel_rfl)) z<|s' 8 z sz84 z z z z z (List.all_eq_true.1 z)<|nx<|j' ?_
 obtain rfl:_=r:=hr
 have N1:=mx (mx (mx (mx (mx B H) O) Z) X) V
 exact k' z (ad' (i:=8) ag84 z z z) ⟨_,_,_,_,_,_,_,_,z,(D.mono N1),(E.mono N1),(C.mono N1),aY⟩
theorem dV'{M ap P O Q S r}(hr:(Zis M ap).Ret r):Ctr prog 10 #[.agg ((v25' M P O Q S)).toArray,i' ap] (fun G=>sl cq' G P O M.s/\sl dn' G Q S M.v) (w34' r):=by
 refine H' (args:=[_,_]) (N:=82) func10 z z z (fun w0 G0 bQ bq=>?_)
 obtain⟨aU,x⟩:=bq
 refine sr<|ag' 2 z z z fun b1=>Q' 4 z z34 z fun b2=>nr<|yy (Y0.ZpJ z) z<|yy (f' 2 sc22 z z z) z ?_
 obtain⟨bU,bi,hr⟩:=hr
 refine P' z z (t' E35 z) (ha' bi) z (aU) (fun bN bT I aM=>?_)
 obtain⟨bm,bg,br,bs,bh,bo,rfl,aI,aK,aG⟩:=aM
 obtain⟨bt,bj,hr⟩:=hr
 refine P' z z (t' E34 z) (hl' bj) z (⟨aI,aK,aG⟩) (fun bM aT H aR=>?_)
 obtain⟨Z,Y,an,af,ac,ad,aO,aJ,rfl,ab,ah,aa,aS⟩:=aR
 refine mv z z<|yy (x' z z) z<|yy (x' z z) z<|Q' 5 z z34 z fun b3=>s' 5 z bC' z z z z z (List.all_eq_true.1 z)<|sx0 z z<|n'<|sr<|sx0 z z<|am' (fun (⟨R,p,o,s,t,n,q,U,X,W⟩:Zg×Option Addr×Nat×Option Addr×Nat×Option Addr×Nat×Option Addr×Nat×Mem)=>[(4,pt0 b2),(5,pt0 b3)]) (fun ⟨R,p,o,s,t,n,q,U,X,W⟩=>Mem.le aT W/\sl Rp.str W p o R.root.vars/\sl b' W s t R.root.eqs/\sl b' W n q R.root.neqs/\sl X' W U X R.v/\(Zfx R).Ret r) (fun ⟨R,p,o,s,t,n,q,U,X,W⟩=>St w0 G0 W [(4,bk0 b2 ([.slice none 0 0,.slice none 0 0,.slice none 0 0,i' 0,.slice none 0 0]) 34),(5,bk0 b3 (v34' R p o s t n q U X) 34)]) ?_ ?_
 .refine C' ?_
  let aA:Zg->Prop:=fun oo=>((fun ov=>match ov with|R=>Zfx R:Zg->Cq Zg) oo).wp (fun a=>a=r)
  replace hr:(Cq.loop _ _).wp aA:=hr
  refine an' (Φ:=aA) (fun (⟨J,C,j,e,k,l,f,g,F,D,K⟩:Int×Zg×Option Addr×Nat×Option Addr×Nat×Option Addr×Nat×Option Addr×Nat×Mem)=>((J,C):Int×Zg)) (fun ⟨J,C,j,e,k,l,f,g,F,D,K⟩=>[(1,i' ap),(2,pt0 b1),(4,pt0 b2),(5,pt0 b3),(7,i' J)]) (fun ⟨J,C,j,e,k,l,f,g,F,D,K⟩=>Mem.le aT K/\y34' K j e k l f g F D C) (fun ⟨J,C,j,e,k,l,f,g,F,D,K⟩=>St w0 G0 K [(2,bk0 b1 (v25' M P O Q S) 25),(4,bk0 b2 ([.slice none 0 0,.slice none 0 0,.slice none 0 0,i' 0,.slice none 0 0]) 34),(5,bk0 b3 (v34' C j e k l f g F D) 34)]) ⟨0,bt.1,Z,Y,an,af,ac,ad,aO,aJ,aT⟩ hr (f5 z z z z z) ⟨mr,ab,ah,aa,aS⟩ (w3 z z z) ?_
  .intro bb gx hx hr
   obtain⟨J,C,j,e,k,l,f,g,F,D,K⟩:=gx
   obtain⟨u,A,E,y,T⟩:=hx
   refine aM' (fun (gx:Mem)=>match gx with|ae=>[(1,i' ap),(2,pt0 b1),(4,pt0 b2),(5,pt0 b3),(7,i' J)]) (fun (gx:Mem)=>match gx with|ae=>Mem.le K ae/\(Zh4 M J C).wp (Out bb aA)) (fun (gx:Mem)=>match gx with|ae=>St w0 G0 ae [(2,bk0 b1 (v25' M P O Q S) 25),(4,bk0 b2 ([.slice none 0 0,.slice none 0 0,.slice none 0 0,i' 0,.slice none 0 0]) 34),(5,bk0 b3 (v34' C j e k l f g F D) 34)]) ?_ ?_
   .refine sr<|mv z z<|yy (Y0.Zhh z) z<|yy (f' 2 sc23 z z z) z<|yy (M' dt' (x.mono (mx (mx I H) u)) z) z<|ac' hr z (aj' z z) z (fun bD hr=>?_) (fun bD hr=>?_)
    .refine mv z z<|gy z z (e' z) z<|gy z z (e' z) z<|gy z z (aj' z z) z<|yy (h' z z) z<|nx<|L' hr z (fun bv hr=>?_) (fun bv hr=>?_)
     .refine q'<|as' K ⟨mr,hr⟩ (f5 z z z z z) (w3 z z z)
     refine ap'<|r'<|r'<|O'<|aq' ⟨C,j,e,k,l,f,g,F,D,K⟩ ⟨u,A,E,y,T,hr⟩ (f2 z z) (w2 z z)
    refine mv z z<|sn3 z<|yy (l' z z) z<|nx<|bd' z<|ap'<|r'<|r'<|O'<|aq' ⟨C,j,e,k,l,f,g,F,D,K⟩ ⟨u,A,E,y,T,hr⟩ (f2 z z) (w2 z z)
   rintro ae ⟨m,hr⟩
   refine n'<|C'<|n'<|ah' [ff,ff,ff,ff,ff,ff,ff,ff,ff,ff] mix (by kernel_rfl) fun hb=>cn (fun _ c=>Y0.Zhh z)<|cn (fun _ c=>f' 2 sc23 z z z)<|cn (fun _ c=>e' z) ?_
   obtain⟨x1,be,hr⟩:=hr
   have N1:=mx (mx (mx I H) u) m
   refine cn (fun _ c=>V' dt' sz82 ((x.mono N1).mono c) z z be)<|cn (fun _ c=>Y0.Zp2 z)<|cn (fun _ c=>aa' sc5 z (aI' (J' (J' (aW' (ay' (af' x be))) N1) c)))<|cn (fun _ c=>aN' aP' aA' z)<|cn (fun _ c=>ai' z)<|cn (fun _ c=>f' 5 aZ' z z z)<|cn (fun _ c=>M' B' ((T.mono m).mono c) z)<|T' hb ?_
   obtain⟨bz,hr⟩:=hr
   refine yy (bA' z z bz) z<|sg z z<|v'<|ar'<|g'<|sr<|sx0 z z<|aM' (fun (⟨ao,aC⟩:Int×Mem)=>[(1,i' ap),(2,pt0 b1),(4,pt0 b2),(5,pt0 b3),(7,i' J),(8,i' (Int.tmod (i64.wrap x1.at') (C.v.length:Int))),(9,i' ao)]) (fun ⟨ao,aC⟩=>Mem.le ae aC/\(ZbB M J C x1 ao).wp (Out bb aA)) (fun ⟨ao,aC⟩=>St w0 G0 aC [(2,bk0 b1 (v25' M P O Q S) 25),(4,bk0 b2 ([.slice none 0 0,.slice none 0 0,.slice none 0 0,i' 0,.slice none 0 0]) 34),(5,bk0 b3 (v34' C j e k l f g F D) 34)]) ?_ ?_
   .refine sr<|yy (Y0.Zhh z) z<|yy (f' 2 sc23 z z z) z<|mv z z ?_
    obtain⟨x3,bc,hr⟩:=hr
    refine yy (V' dt' sz82 (x.mono N1) z z bc) z<|yy (Y0.ZnH z) z<|yy (aa' sc5 z (aI' (J' (aW' (ax' (ay' (af' x bc)))) N1))) z<|yy (bA' z z (by decide)) z<|yy (at' z z) z<|nx<|L' hr z (fun bE hr=>?_) (fun bE hr=>?_)
    .refine ah' [ff,ff,ff,ff,ff,ff,ff,ff,ff,ff,ff] mix (by kernel_rfl) fun hb=>cn (fun _ c=>Y0.Zhh z)<|cn (fun _ c=>f' 2 sc23 z z z)<|cn (fun _ c=>e' z) ?_
     obtain⟨x4,ba,hr⟩:=hr
     refine cn (fun _ c=>V' dt' sz82 ((x.mono N1).mono c) z z ba)<|cn (fun _ c=>Y0.ZnH z)<|cn (fun _ c=>aa' sc5 z (aI' (J' (J' (aW' (ax' (ay' (af' x ba)))) N1) c)))<|cn (fun _ c=>dZ' z z (by decide))<|cn (fun _ c=>aN' aP' aA' z)<|cn (fun _ c=>ai' z)<|cn (fun _ c=>f' 5 aZ' z z z)<|cn (fun _ c=>M' B' ((T.mono m).mono c) z)<|T' hb ?_
     obtain⟨bx,hr⟩:=hr
     refine yy (bA' z z bx) z<|sg z z<|v'<|ar'<|as' ⟨Int.tmod (i64.wrap (u8.wrap (Int.tdiv x4.other 4))) (C.v.length:Int),ae⟩ ⟨mr,hr⟩ (f7 z z z z z z z) (w3 z z z)
    refine q'<|as' ⟨(-1),ae⟩ ⟨mr,hr⟩ (f7 z z z z z z z) (w3 z z z)
   rintro⟨ao,aC⟩ ⟨B,hr⟩
   refine sr<|yy (o' 5 aB' z z z) z<|mv z z ?_
   obtain⟨bR,bp,hr⟩:=hr
   refine P' z z (t' E12 z) (eN' bp) z (⟨(A.mono (mx m B)),(E.mono (mx m B)),(y.mono (mx m B)),(T.mono (mx m B))⟩) (fun bH bS L aQ=>?_)
   obtain⟨a3,aZ,a7,bd,a0,a2,rfl,az,aD,ay⟩:=aQ
   refine mv z z<|yy (x' z z) z<|yy (x' z z) z<|Q' 10 z z31 z fun b4=>s' 10 z aV' z z z z z (List.all_eq_true.1 z)<|sx0 z z<|ah' [ff,ff,ff,ff,ff,ff,ff,ff,ff,ff,ff] mix (by kernel_rfl) fun hb=>cn (fun _ c=>o' 5 aB' z z z)<|cn (fun _ c=>e' z)<|cn (fun _ c=>e' z)<|cn (fun _ c=>o' 10 au' z z z)<|cn (fun _ c=>Y0.Zhh z)<|cn (fun _ c=>f' 2 sc23 z z z)<|cn (fun _ c=>e' z) ?_
   obtain⟨x2,a8,hr⟩:=hr
   refine cn (fun _ c=>V' dt' sz82 ((x.mono (mx (mx N1 B) L)).mono c) z z a8)<|cn (fun _ c=>Y0.Zp3 z) ?_
   obtain⟨p1,bV,bu,bw⟩:=bG' (J' (ax' (ax' (ay' (af' x a8)))) (mx (mx N1 B) L))
   refine cn (fun _ c=>aa' sc22 z (c _ _ _ bu)) ?_
   obtain⟨a9,bf,hr⟩:=hr
   refine aX' (post:=wl' Z' a9) (fun _=>z) (fun _ _=>t' E28 z) (ev' bf) z (fun G' c=>⟨(az.mono c),(aD.mono c),(ay.mono c),(bw.mono c)⟩) (fun v G1 G2 c h=>?_) ?_
   .obtain⟨bl,bk,rfl,aH⟩:=h
    exact⟨_,_,z,aH.mono c⟩
   refine cU' (d:=78) (post:=wl' Z' a9) (fun bK bP V aN=>?_)
   obtain⟨bl,bk,rfl,aH⟩:=aN
   obtain⟨bC,bn,hr⟩:=hr
   have N2:=mx (mx (mx m B) L) V
   refine P' z z (t' E36 z) (fC' bn) z (⟨(A.mono N2),(E.mono N2),(y.mono N2),(T.mono N2),aH⟩) (fun bG bA a1 aP=>?_)
   obtain⟨am,ag,av,ar,ak,ai,aV,aW,rfl,al,aq,aj,aX⟩:=aP
   refine yy (Y0.fieldA underlying84 z aB' z z) z<|s' 5 z bC' z z z z z (List.all_eq_true.1 z)<|v'<|ar'<|I'<|g'<|A'<|mv z z<|yy (W' z z) z<|sg z z<|v'<|Y' ⟨i64.wrap (J+1),bC.h,am,ag,av,ar,ak,ai,aV,aW,bA⟩ hr ⟨(mx (mx (mx (mx (mx u m) B) L) V) a1),al,aq,aj,aX⟩ (f5 z z z z z) (w3 z z z)
 rintro⟨R,p,o,s,t,n,q,U,X,W⟩ ⟨bF,aw,ax,au,a5,hr⟩
 refine g'<|sr<|yy (o' 5 aB' z z z) z<|s' 4 z bC' z z z z z (List.all_eq_true.1 z)<|nx<|j' ?_
 obtain rfl:_=r:=hr
 exact k' z (ad' (i:=4) aB' z z z) ⟨_,_,_,_,_,_,_,_,z,aw,ax,au,a5⟩
theorem gl'{s q k h i g r}(hr:(Zin s q).Ret r):Ctr prog 154 #[.agg ((v128' s k h)).toArray,.agg ((v128' q i g)).toArray] (fun G=>sl (Rp.int .u32) G k h s.mag/\sl (Rp.int .u32) G i g q.mag) (fun G v=>v = .bool r):=by
 refine H' (args:=[_,_]) (N:=38) func154 z z z (fun B o O x=>?_)
 obtain⟨e,j⟩:=x
 refine sr<|ag' 2 z z z fun C=>ag' 3 z z z fun y=>sx0 z z<|n'<|sr<|yy (br' z) z<|yy (f' 2 sc4 z z z) z<|yy (br' z) z<|yy (f' 3 sc4 z z z) z<|ac' hr z (er' bR' z z) z (fun D hr=>?_) (fun D hr=>?_)
 .refine mv z z<|sn7 z<|yy (h' z z) z<|nx<|U' z<|sr<|sx0 z z<|j'<|a' (k0' hr z z)
 refine mv z z<|gy z z (ba' z) z<|gy z z (f' 2 bN' z z z) z<|gy z z (M' D' e z) z<|gy z z (ba' z) z<|gy z z (f' 3 bN' z z z) z<|gy z z (M' D' j z) z<|gy z z (aw' z z) z<|yy (l' z z) z<|nx<|L' hr z (fun F hr=>?_) (fun F hr=>?_)
 .exact (show False from hr).elim
 refine q'<|g'<|n'<|sr<|sx0 z z<|am' (fun (m:Mem)=>match m with|l=>[]) (fun (m:Mem)=>match m with|l=>Mem.le o l/\(Zfk).Ret r) (fun (m:Mem)=>match m with|l=>St B o l []) ?_ ?_
 .refine C' ?_
  let p:(Bool⊕Unit)->Prop:=fun K=>((fun J=>match J with | .inl rv1=>Cq.ret rv1 | .inr ()=>Zfk:(Bool⊕Unit)->Cq Bool) K).wp (fun a=>a=r)
  replace hr:(Cq.loop _ _).wp p:=hr
  refine an' (Φ:=p) (fun (⟨n,f⟩:Int×Mem)=>(n:Int)) (fun ⟨n,f⟩=>[(2,pt0 C),(3,pt0 y),(5,i' n)]) (fun ⟨n,f⟩=>Mem.le o f) (fun ⟨n,f⟩=>St B o f [(2,bk0 C (v128' s k h) 128),(3,bk0 y (v128' q i g) 128)]) ⟨0,o⟩ hr (f3 z z z) mr (w2 z z) ?_
  .intro M m L hr
   obtain⟨n,f⟩:=m
   have d:=L
   refine n'<|sr<|mv z z<|yy (ba' z) z<|yy (f' 2 bN' z z z) z<|yy (M' D' (e.mono d) z) z<|yy (aj' z z) z<|nx<|L' hr z (fun A hr=>?_) (fun A hr=>?_)
   .refine q'<|g'<|n'<|C'<|n'<|ah' [ff,ff,ff,ff,ff,ff,ff,ff,ff,ff] mix (by kernel_rfl) fun I=>cn (fun _ c=>ba' z)<|cn (fun _ c=>f' 2 bN' z z z)<|cn (fun _ c=>e' z) ?_
    obtain⟨Q,u,hr⟩:=hr
    refine cn (fun _ c=>V' D' bs' ((e.mono d).mono c) z z u)<|cn (fun _ c=>aa' bY' z (aI' (J' (J' (af' e u) d) c)))<|cn (fun _ c=>ba' z)<|cn (fun _ c=>f' 3 bN' z z z)<|cn (fun _ c=>e' z) ?_
    obtain⟨P,t,hr⟩:=hr
    refine cn (fun _ c=>V' D' bs' ((j.mono d).mono c) z z t)<|cn (fun _ c=>aa' bY' z (aI' (J' (J' (af' j t) d) c)))<|T' I<|yy (aw' z z) z<|v'<|ar'<|g'<|L' hr z (fun E hr=>?_) (fun E hr=>?_)
    .exact (show False from hr).elim
    refine q'<|I'<|g'<|A'<|mv z z<|yy (W' z z) z<|sg z z<|v'<|Y' ⟨i64.wrap (n+1),f⟩ hr d (f3 z z z) (w2 z z)
   refine ap'<|r'<|r'<|O'<|aq' f ⟨d,hr⟩ fn (wk ln)
 rintro l ⟨H,hr⟩
 refine g'<|sr<|sx0 z z<|j' (k0' hr z z)
theorem hc'{l k j f h g i d c e r}(hr:(Zoo l k).Ret r):Ctr prog 105 #[.agg ((v130' l j f h g)).toArray,.agg ((v130' k i d c e)).toArray] (fun G=>sl (Rp.int .u32) G j f l.num.mag/\sl (Rp.int .u32) G h g l.den.mag/\sl (Rp.int .u32) G i d k.num.mag/\sl (Rp.int .u32) G c e k.den.mag) (fun G v=>v = .bool r):=by
 refine H' (args:=[_,_]) (N:=17) func105 z z z (fun C B y s=>?_)
 obtain⟨p,m,n,o⟩:=s
 refine sr<|ag' 2 z z z fun D=>ag' 3 z z z fun A=>sg z z<|nr<|yy (cF' z) z<|yy (aJ' ((v128' l.num j f)).toArray 2 bt' z z z (aU' ([]) ((v128' l.num j f)) ((v128' l.den h g)))) z<|yy (cF' z) z<|yy (aJ' ((v128' k.num i d)).toArray 3 bt' z z z (aU' ([]) ((v128' k.num i d)) ((v128' k.den c e)))) z ?_
 obtain⟨u,t,hr⟩:=hr
 refine E' z z (t' E154 z) (gl' t) z (⟨p,n⟩) ?_
 cases u
 .refine mv z z<|sn5 z<|yy (l' z z) z<|sx0 z z<|j' (k0' hr z z)
 refine mv z z<|gy z z (ck' z) z<|gy z z (aJ' ((v128' l.den h g)).toArray 2 bt' z z z (aU' ((v128' l.num j f)) ((v128' l.den h g)) ([]))) z<|gy z z (ck' z) z<|gy z z (aJ' ((v128' k.den c e)).toArray 3 bt' z z z (aU' ((v128' k.num i d)) ((v128' k.den c e)) ([]))) z ?_
 obtain⟨x,q,hr⟩:=hr
 refine E' (w' z z) z (t' E154 z) (gl' q) z (⟨m,o⟩)<|yy (h' z z) z<|sx0 z z<|j' (k0' hr z z)
theorem eT'{k d f g h c e o p r}(hr:(ZdI k).Ret r):Ctr prog 26 #[.agg ((v34' k d f g h c e o p)).toArray] (fun G=>y34' G d f g h c e o p k) (fun G v=>v = .bool r):=by
 refine H' (args:=[_]) (N:=50) func26 z z z (fun P A aa F=>?_)
 obtain⟨l,n,m,j⟩:=F
 refine sr<|ag' 1 z z z fun y=>sx0 z z<|aM' (fun (t:Mem)=>match t with|s=>[(1,pt0 y)]) (fun (t:Mem)=>match t with|s=>Mem.le A s/\(Zg4 k).Ret r) (fun (t:Mem)=>match t with|s=>St P A s [(1,bk0 y (v34' k d f g h c e o p) 34)]) ?_ ?_
 .refine sr<|yy (cJ' z) z<|yy (aJ' ((v31' k.root d f g h c e)).toArray 1 au' z z z (aU' ([]) ((v31' k.root d f g h c e)) ([.slice o k.v.length p]))) z ?_
  obtain⟨K,E,hr⟩:=hr
  refine E' z z (t' E27 z) (eu' E) z (⟨l,n,m⟩) ?_
  cases K
  .refine yy (al' z) z<|mv z z<|sn4 z<|yy (h' z z) z<|mv z z<|sn4 z<|yy (h' z z) z<|nx<|U' z<|sr<|sx0 z z<|j'<|a' (k0' hr z z)
  refine yy (al' z) z<|mv z z<|gy z z (ai' z) z<|gy z z (f' 1 aZ' z z z) z<|gy z z (M' B' j z) z<|ac' hr (w' z z) (aj' z z) z (fun T hr=>?_) (fun T hr=>?_)
  .refine yy (l' z z) z<|mv z z<|sn4 z<|yy (h' z z) z<|nx<|U' z<|sr<|sx0 z z<|j'<|a' (k0' hr z z)
  refine yy (l' z z) z<|mv z z<|gy z z (ai' z) z<|gy z z (f' 1 aZ' z z z) z<|gy z z (M' B' j z) z<|gy z z (be' z z) z<|yy (l' z z) z<|nx<|L' hr z (fun O hr=>?_) (fun O hr=>?_)
  .refine sr<|sx0 z z<|j'<|a' (k0' hr z z)
  refine q'<|as' A ⟨mr,hr⟩ (f1 z) (w1 z)
 rintro s ⟨i,hr⟩
 refine aM' (fun (t:Mem)=>match t with|u=>[(1,pt0 y)]) (fun (t:Mem)=>match t with|u=>Mem.le s u/\(Zg3 k).Ret r) (fun (t:Mem)=>match t with|u=>St P A u [(1,bk0 y (v34' k d f g h c e o p) 34)]) ?_ ?_
 .refine sr<|yy (ai' z) z<|yy (f' 1 aZ' z z z) z ?_
  obtain⟨x1,D,hr⟩:=hr
  refine yy (V' B' bV' (j.mono i) z z D) z<|yy (bX' z) z<|yy (aa' sc3 z (aI' (J' (aW' (ay' (af' j D))) i))) z<|ac' hr z (aw' z z) z (fun S hr=>?_) (fun S hr=>?_)
  .refine mv z z<|sn6 z<|yy (h' z z) z<|mv z z<|sn7 z<|yy (h' z z) z<|nx<|U' z<|sr<|sx0 z z<|j'<|a' (k0' hr z z)
  refine mv z z<|gy z z (ai' z) z<|gy z z (f' 1 aZ' z z z) z ?_
  obtain⟨x2,C,hr⟩:=hr
  refine gy z z (V' B' bV' (j.mono i) z z C) z<|gy z z (cC' z) z<|gy z z (aa' sc3 z (aI' (J' (aW' (ax' (ay' (af' j C)))) i))) z<|ac' hr (w' z z) (aw' z z) z (fun R hr=>?_) (fun R hr=>?_)
  .refine yy (l' z z) z<|mv z z<|sn7 z<|yy (h' z z) z<|nx<|U' z<|sr<|sx0 z z<|j'<|a' (k0' hr z z)
  refine yy (l' z z) z<|mv z z<|gy z z (ai' z) z<|gy z z (f' 1 aZ' z z z) z ?_
  obtain⟨x3,B,hr⟩:=hr
  refine gy z z (V' B' bV' (j.mono i) z z B) z<|gy z z (bJ' z) z ?_
  obtain⟨p1,Z,M,Q⟩:=bG' (J' (ax' (ax' (ay' (af' j B)))) i)
  refine gy z z (aa' sc44 z (M)) z<|gy z z (M' ao' Q z) z<|gy z z (be' z z) z<|yy (l' z z) z<|nx<|L' hr z (fun U hr=>?_) (fun U hr=>?_)
  .refine sr<|sx0 z z<|j'<|a' (k0' hr z z)
  refine q'<|as' s ⟨mr,hr⟩ (f1 z) (w1 z)
 rintro u ⟨q,hr⟩
 refine sr<|yy (o' 1 aB' z z z) z ?_
 obtain⟨Y,H,hr⟩:=hr
 refine P' z z (t' E41 z) (fk' H) z (⟨(l.mono (mx i q)),(n.mono (mx i q)),(m.mono (mx i q)),(j.mono (mx i q))⟩) (fun W X V x=>?_)
 obtain⟨J,I,rfl,L⟩:=x
 refine mv z z<|yy (x' z z) z<|yy (x' z z) z<|sg z z<|sg z z<|nr<|mv z z<|sx0 z z<|j' (k0' hr z z)
end Go.Proofs.YtnjiloaolgjedaaGreat

namespace Go.Proofs.YtnjiloaolgjedaaGreat
open Go.IntKind (i8 i16 i32 i64 u8 u16 u32 u64)
open Go.Proofs.Tryz
open Go Go.EL Go.RowKit Go.Proofs
set_option maxHeartbeats 2000000 in
theorem fl'{c aK I J m p x B g k af al r}(hr:(Zb6 c aK I J).Ret r):CtrL prog 25 #[.agg ((v34' c m p x B g k af al)).toArray,.int .u8 aK,.int .u8 I,i' J] [] (fun G=>y34' G m p x B g k af al c) (fun G L v=>∃ ak ai aq ap ag am a4 a5 zn a9,L=[(7000,a9)]/\v = .agg ([.slice ak r.root.vars.length ai,.slice aq r.root.eqs.length ap,.slice ag r.root.neqs.length am,i' r.root.next,.slice a4 zn a5]).toArray/\sl Rp.str G ak ai r.root.vars/\sl b' G aq ap r.root.eqs/\sl b' G ag am r.root.neqs/\RowR X' 63 G (.slice a4 zn a5) r.v a9):=by
 refine bh' (args:=[_,_,_,_]) (N:=119) func25 z z z (fun w0 G0 Y bw=>?_)
 obtain⟨o,y,n,aJ⟩:=bw
 refine sr<|ag' 4 z z z fun b1=>Q' 8 z z34 z fun b2=>nx<|n'<|ah' [ff,ff,ff,ff,ff,ff,ff,ff] mix (by kernel_rfl) fun hb=>cn (fun _ d=>cJ' z)<|cn (fun _ d=>aJ' ((v31' c.root m p x B g k)).toArray 4 au' z z z (aU' ([]) ((v31' c.root m p x B g k)) ([.slice af c.v.length al])))<|dB' (r:=X') (e:=63) ([]:List Zf) (fun _=>z) z (by decide) (fun u G' d hu=>?_) ?_
 .exact⟨#[],[],z,z,fun _=>by kernel_rfl,z⟩
 refine cu (fun _ _ d=>ai' z)<|cu (fun _ _ d=>f' 4 aZ' z z z) ?_
 obtain⟨bi,hr⟩:=hr
 refine ca' (r:=X') (e:=63) (kk:=13) (xs:=([]:List Zf)) c.v (fun _=>z) z (by kernel_rfl) (by kernel_rfl) B' el63 z (by decide) bi (fun u G' d hu=>?_) ?_
 .obtain⟨aU,_⟩:=(show (RowX X' 63 13 ([]:List Zf)) (u 13) G'/\True from hu)
  exact⟨u 13,.slice af c.v.length al,aU,z,z,(aJ.mono d)⟩
 refine Chain.buildRow (r:=X') (e:=63) (kk:=16) (xs:=(([]:List Zf)++c.v)) (fun av az=>.agg ([.slice m c.root.vars.length p,.slice x c.root.eqs.length B,.slice g c.root.neqs.length k,i' c.root.next,.slice av (([]:List Zf)++c.v).length az]).toArray) (fun _=>z) z (by kernel_rfl) (by kernel_rfl) (fun u G' d hu=>?_) ?_
 .obtain⟨aR,_,_⟩:=(show (RowX X' 63 16 (([]:List Zf)++c.v)) (u 16) G'/\True/\True from hu)
  exact⟨u 16,aR,fun cp cc bQ _=>av' (vs:=#[(0,.agg ((v31' c.root m p x B g k)).toArray),(1,.slice cp (([]:List Zf)++c.v).length cc)]) (by simp only[undFr,eatO,List.map_cons,List.map_nil,bQ] <;> rfl) z (fun _=>by kernel_rfl)⟩
 refine bF' (fun _=>z) z34<|cp' fun cN cj cx cy X1 C aN ao bD bA=>WL.adoptL aN (fun b3 bJ b0=>?_)
 subst bJ
 replace ao:=RowM.drop ao (by decide) b0
 refine WL.adoptM ao (fun av az aV be F cA=>?_)
 subst be
 refine cg' (show WL _ _ _ _ _ _ (St w0 G0 X1.m _) from ?_)
 refine s' 9 z bC' z z z z z (List.all_eq_true.1 z)<|v'<|ar'<|g'<|sr<|mv z z<|yy (aN' aP' aA' z) z<|yy (ai' z) z<|yy (f' 9 aZ' z z z) z<|yy (dD' B' F z) z ?_
 obtain⟨bY,hr⟩:=hr
 refine yy (bA' z z bY) z<|sx0 z z<|n'<|sr<|mv z z<|yy (bA' z z (by decide)) z<|nx<|C'<|sr<|yy (at' z z) z<|sx0 z z<|L' hr z (fun ca hr=>?_) (fun ca hr=>?_)
 .refine A'<|yy (ai' z) z<|yy (f' 9 aZ' z z z) z<|mv z z<|mv z z ?_
  obtain⟨x1,bb,hr⟩:=hr
  refine yy (aQ' B' bV' F z z bb) z<|yy (bX' z) z<|WL.storeF (r:=X') (e:=63) (off:=0) (cs':=[i' J]) (i:=Int.tmod (i64.wrap I) ((([]:List Zf)++c.v).length:Int)) (z:=x1) (z':=(Zf.mk J x1.other x1.e)) 17 z sz3 z (Nat.le_of_ble_eq_true z) F z z z z (List.all_eq_true.1 z) (Rp.ZhT (Rp.Zlk (off:=0) (Nat.le_of_ble_eq_true z) (Rp.whole z))) bb fun cE bt=>v'<|I'<|g'<|sr<|yy (o' 9 aB' z z z) z<|s' 8 z bC' z z z z z (List.all_eq_true.1 z)<|nx<|j' ?_
  obtain rfl:_=r:=hr
  refine aE' (fun w U=>U.rekey (i:=17) (j:=7000) z (by rw[Y]; rfl))<|di' z (ad' (i:=8) aB' z z z) (lc z ln) ⟨_,_,_,_,_,_,_,_,_,_,z,z,(o.mono C),(y.mono C),(n.mono C),bt⟩
 refine sr<|yy (at' z z) z<|sx0 z z<|L' hr z (fun bN hr=>?_) (fun bN hr=>?_)
 .refine A'<|yy (ai' z) z<|yy (f' 9 aZ' z z z) z<|mv z z<|mv z z ?_
  obtain⟨x2,a1,hr⟩:=hr
  refine yy (aQ' B' bV' F z z a1) z<|yy (cC' z) z<|WL.storeF (r:=X') (e:=63) (off:=1) (cs':=[i' J]) (i:=Int.tmod (i64.wrap I) ((([]:List Zf)++c.v).length:Int)) (z:=x2) (z':=(Zf.mk x2.parent J x2.e)) 17 z sz3 z (Nat.le_of_ble_eq_true z) F z z z z (List.all_eq_true.1 z) (Rp.ZhT (Rp.ZeN (off:=0) (Rp.Zlk (off:=0) (Nat.le_of_ble_eq_true z) (Rp.whole z)))) a1 fun cO bn=>v'<|I'<|g'<|sr<|yy (o' 9 aB' z z z) z<|s' 8 z bC' z z z z z (List.all_eq_true.1 z)<|nx<|j' ?_
  obtain rfl:_=r:=hr
  refine aE' (fun w U=>U.rekey (i:=17) (j:=7000) z (by rw[Y]; rfl))<|di' z (ad' (i:=8) aB' z z z) (lc z ln) ⟨_,_,_,_,_,_,_,_,_,_,z,z,(o.mono C),(y.mono C),(n.mono C),bn⟩
 refine sr<|yy (at' z z) z<|sx0 z z<|L' hr z (fun bT hr=>?_) (fun bT hr=>?_)
 .refine ah' [ff,ff,ff,ff,ff,ff,ff,ff,ff,ff,ff,ff,ff,ff,ff,ff] mix (by kernel_rfl) fun hb=>cn (fun _ d=>ai' z)<|cn (fun _ d=>f' 9 aZ' z z z)<|cn (fun _ d=>e' z)<|dB' (r:=Z') (e:=48) ([]:List Zc) (fun _=>z) z (by decide) (fun u G' d hu=>?_) ?_
  .exact⟨#[],[],z,z,fun _=>by kernel_rfl,z⟩
  refine cu (fun _ _ d=>ai' z)<|cu (fun _ _ d=>f' 9 aZ' z z z)<|cu (fun _ _ d=>e' z) ?_
  obtain⟨x3,a6,hr⟩:=hr
  refine cu (fun _ _ d=>aQ' B' bV' (F.mono d) z z a6)<|cu (fun _ _ d=>bJ' z) ?_
  obtain⟨p1,b7,bK,bP⟩:=bG' (ax' (ax' (ay' (cA' F a6))))
  refine cu (fun _ _ d=>dk' sc44 (F.mono d) (key:=17) z z bK) ?_
  obtain⟨bo,hr⟩:=hr
  refine ca' (r:=Z') (e:=48) (kk:=47) (xs:=([]:List Zc)) x3.e (fun _=>z) z (by kernel_rfl) (by kernel_rfl) ao' el48 z (by decide) bo (fun u G' d hu=>?_) ?_
  .obtain⟨aP,_⟩:=(show (RowX Z' 48 47 ([]:List Zc)) (u 47) G'/\True from hu)
   exact⟨u 47,.slice p1 x3.e.length b7,aP,z,z,(bP.mono d)⟩
  refine cu (fun _ _ d=>e' z)<|cu (fun _ _ d=>bA' z z (by decide))<|cu (fun _ _ d=>av' (vs:=#[(0,i' (Int.tmod J 10)),(1,.string Zr),(4,i' 1)]) (v:=.agg ([i' (Int.tmod J 10),.string Zr,i' 0,i' 0,i' 1,.slice none 0 0,.bool false]).toArray) z z (fun _=>by kernel_rfl))<|eH' (r:=Z') (e:=48) ([(Zc.mk (Int.tmod J 10) Zr 0 0 1 [] false)]:List Zc) (fun _=>z) z (by decide) (fun u G' d hu=>?_) ?_
  .exact⟨#[(0,.agg ([i' (Int.tmod J 10),.string Zr,i' 0,i' 0,i' 1,.slice none 0 0,.bool false]).toArray)],[i' (Int.tmod J 10),.string Zr,i' 0,i' 0,i' 1,.slice none 0 0,.bool false]++([]),z,z,fun _=>by kernel_rfl,⟨[i' (Int.tmod J 10),.string Zr,i' 0,i' 0,i' 1,.slice none 0 0,.bool false],[],z,⟨[i' (Int.tmod J 10)],[.string Zr,i' 0,i' 0,i' 1,.slice none 0 0,.bool false],z,z,⟨[.string Zr],[i' 0,i' 0,i' 1,.slice none 0 0,.bool false],z,z,⟨[i' 0],[i' 0,i' 1,.slice none 0 0,.bool false],z,z,⟨[i' 0],[i' 1,.slice none 0 0,.bool false],z,z,⟨[i' 1],[.slice none 0 0,.bool false],z,z,⟨[.slice none 0 0],[.bool false],z,⟨_,z,((R' _ _).mono d)⟩,z⟩⟩⟩⟩⟩⟩,z⟩⟩
  obtain⟨bm,hr⟩:=hr
  refine ca' (r:=Z') (e:=48) (kk:=54) (xs:=(([]:List Zc)++x3.e)) [(Zc.mk (Int.tmod J 10) Zr 0 0 1 [] false)] (fun _=>z) z (by kernel_rfl) (by kernel_rfl) ao' el48 z (by decide) bm (fun u G' d hu=>?_) ?_
  .obtain⟨⟨p2,aM,aX,a7⟩,aW,_,_⟩:=(show (fun G v=>∃ p2 aM,v = .slice p2 1 1/\SlRd Z' G (.slice p2 1 1) aM [(Zc.mk (Int.tmod J 10) Zr 0 0 1 [] false)]) G'.m (u 58)/\(RowX Z' 48 54 (([]:List Zc)++x3.e)) (u 54) G'/\True/\True from hu)
   exact⟨u 54,.slice p2 1 1,aW,z,(by simp only[undFr,eatO,List.map_cons,List.map_nil,aX] <;> rfl),a7⟩
  refine cp' (fun ct cf ch cv X2 ay aG aE bC bB=>?_)
  obtain⟨p2,aM,rfl,a7⟩:=aE
  refine WL.adoptR aG (fun br bd cb bf bp cg=>?_)
  subst bf
  refine cg' (show WL _ _ _ _ _ _ (St w0 G0 X2.m _) from ?_)
  obtain⟨x4,a2,hr⟩:=hr
  refine yy (aQ' B' bV' (F.mono ay) z z a2) z<|yy (bJ' z) z<|bE' (r:=Z') (e:=48) 59 bp z (by rw[Y]; rfl) fun cM cL ar bx ce=>WL.storeF (r:=X') (e:=63) (off:=2) (cs':=[.slice br ((([]:List Zc)++x3.e)++[(Zc.mk (Int.tmod J 10) Zr 0 0 1 [] false)]).length bd]) (i:=Int.tmod (i64.wrap I) ((([]:List Zf)++c.v).length:Int)) (z:=x4) (z':=(Zf.mk x4.parent x4.other ((([]:List Zc)++x3.e)++[(Zc.mk (Int.tmod J 10) Zr 0 0 1 [] false)]))) 17 z sz44 z (Nat.le_of_ble_eq_true z) (F.mono (mx ay ar)) z z z z (List.all_eq_true.1 z) (Rp.ZhT (Rp.ZeN (off:=1) (Rp.ZeN (off:=0) (Rp.whole ⟨_,z,bx⟩)))) a2 fun cH bl=>v'<|ar'<|I'<|g'<|sr<|yy (o' 9 aB' z z z) z<|s' 8 z bC' z z z z z (List.all_eq_true.1 z)<|nx<|j' ?_
  obtain rfl:_=r:=hr
  have N1:=mx (mx C ay) ar
  refine aE' (fun w U=>U.rekey (i:=17) (j:=7000) z (by rw[Y]; rfl))<|di' z (ad' (i:=8) aB' z z z) (lc z ln) ⟨_,_,_,_,_,_,_,_,_,_,z,z,(o.mono N1),(y.mono N1),(n.mono N1),bl⟩
 refine sr<|yy (at' z z) z<|sx0 z z<|L' hr z (fun bL hr=>?_) (fun bL hr=>?_)
 .refine sr<|yy (ai' z) z<|yy (f' 9 aZ' z z z) z<|mv z z ?_
  obtain⟨x5,a3,hr⟩:=hr
  refine yy (aQ' B' bV' F z z a3) z<|yy (bJ' z) z ?_
  obtain⟨p3,cI,b9,bS⟩:=bG' (ax' (ax' (ay' (cA' F a3))))
  refine yy (dk' sc44 F (key:=17) z z b9) z<|yy (M' ao' bS z) z<|yy (be' z z) z<|nx<|L' hr z (fun b6 hr=>?_) (fun b6 hr=>?_)
  .refine ah' [ff,ff,ff,ff,ff,ff,ff,ff,ff,ff] mix (by kernel_rfl) fun hb=>cn (fun _ d=>ai' z)<|cn (fun _ d=>f' 9 aZ' z z z)<|cn (fun _ d=>e' z)<|cn (fun _ d=>ai' z)<|cn (fun _ d=>f' 9 aZ' z z z)<|cn (fun _ d=>e' z) ?_
   obtain⟨x6,a8,hr⟩:=hr
   refine cn (fun _ d=>aQ' B' bV' (F.mono d) z z a8)<|cn (fun _ d=>bJ' z) ?_
   obtain⟨p4,cJ,bV,bH⟩:=bG' (ax' (ax' (ay' (cA' F a8))))
   refine cn (fun _ d=>dk' sc44 (F.mono d) (key:=17) z z bV) ?_
   obtain⟨bZ,hr⟩:=hr
   obtain⟨p5,bE,b4,bW⟩:=SlR.cut (r:=Z') (some (i' (1:Int))) none cf' z ao' bH (.inr ⟨_,z⟩) (.inl ⟨z,z⟩) bZ
   refine cn (fun _ d=>Y0.cutL ao' bW z z)<|T' hb ?_
   obtain⟨x7,ba,hr⟩:=hr
   refine yy (aQ' B' bV' F z z ba) z<|yy (bJ' z) z<|WL.storeF (r:=X') (e:=63) (off:=2) (cs':=[.slice p5 ((x6.e.take (x6.e.length:Int).toNat).drop (1:Int).toNat).length bE]) (i:=Int.tmod (i64.wrap I) ((([]:List Zf)++c.v).length:Int)) (z:=x7) (z':=(Zf.mk x7.parent x7.other ((x6.e.take (x6.e.length:Int).toNat).drop (1:Int).toNat))) 17 z sz44 z (Nat.le_of_ble_eq_true z) F z z z z (List.all_eq_true.1 z) (Rp.ZhT (Rp.ZeN (off:=1) (Rp.ZeN (off:=0) (Rp.whole ⟨_,z,b4⟩)))) ba fun cF bz=>v'<|ar'<|I'<|g'<|sr<|yy (o' 9 aB' z z z) z<|s' 8 z bC' z z z z z (List.all_eq_true.1 z)<|nx<|j' ?_
   obtain rfl:_=r:=hr
   refine aE' (fun w U=>U.rekey (i:=17) (j:=7000) z (by rw[Y]; rfl))<|di' z (ad' (i:=8) aB' z z z) (lc z ln) ⟨_,_,_,_,_,_,_,_,_,_,z,z,(o.mono C),(y.mono C),(n.mono C),bz⟩
  refine q'<|I'<|g'<|sr<|yy (o' 9 aB' z z z) z<|s' 8 z bC' z z z z z (List.all_eq_true.1 z)<|nx<|j' ?_
  obtain rfl:_=r:=hr
  refine aE' (fun w U=>U.rekey (i:=17) (j:=7000) z (by rw[Y]; rfl))<|di' z (ad' (i:=8) aB' z z z) (lc z ln) ⟨_,_,_,_,_,_,_,_,_,_,z,z,(o.mono C),(y.mono C),(n.mono C),F⟩
 refine sr<|yy (at' z z) z<|sx0 z z<|L' hr z (fun bR hr=>?_) (fun bR hr=>?_)
 .obtain⟨⟨ci,cq,cz⟩,hr⟩:=hr
  have b5:(Int.tmod (i64.wrap I) ((([]:List Zf)++c.v).length:Int))=(((Int.tmod (i64.wrap I) ((([]:List Zf)++c.v).length:Int)).toNat:Nat):Int):=by omega
  have bU:i64.wrap ((Int.tmod (i64.wrap I) ((([]:List Zf)++c.v).length:Int))+1)=(((Int.tmod (i64.wrap I) ((([]:List Zf)++c.v).length:Int)).toNat+1:Nat):Int):=by rw[IntKind.wrap_i64]; omega
  refine ah' [ff,ff,ff,ff,ff,ff,ff,ff,ff] mix (by kernel_rfl) fun hb=>cn (fun _ d=>ai' z)<|cn (fun _ d=>f' 9 aZ' z z z)<|cn (fun _ d=>e' z)<|cn (fun _ d=>Y0.slcH (h:=(Int.tmod (i64.wrap I) ((([]:List Zf)++c.v).length:Int)).toNat) B' bV' z ((show _=some (Value.int .i64 (Int.tmod (i64.wrap I) ((([]:List Zf)++c.v).length:Int))) from z).trans (congrArg (fun z=>some (Value.int .i64 z)) b5)) (Nat.le_trans (show (Int.tmod (i64.wrap I) ((([]:List Zf)++c.v).length:Int)).toNat<=(([]:List Zf)++c.v).length by omega) (RowR.ZpH (F.mono d))))<|cn (fun _ d=>ai' z)<|cn (fun _ d=>f' 9 aZ' z z z)<|cn (fun _ d=>e' z)<|cn (fun _ d=>W' z z)<|cn (fun _ d=>Y0.slcG (l:=(Int.tmod (i64.wrap I) ((([]:List Zf)++c.v).length:Int)).toNat+1) B' bV' z ((show _=some (Value.int .i64 (i64.wrap ((Int.tmod (i64.wrap I) ((([]:List Zf)++c.v).length:Int))+1))) from z).trans (congrArg (fun z=>some (Value.int .i64 z)) bU)) (show (Int.tmod (i64.wrap I) ((([]:List Zf)++c.v).length:Int)).toNat+1<=(([]:List Zf)++c.v).length by omega))<|T' hb<|WL.cutRow (r:=X') (e:=63) (i:=(Int.tmod (i64.wrap I) ((([]:List Zf)++c.v).length:Int)).toNat) 17 z z B' bV' z F z z z (show (Int.tmod (i64.wrap I) ((([]:List Zf)++c.v).length:Int)).toNat<(([]:List Zf)++c.v).length by omega) fun cK bu=>yy (ai' z) z<|aD' 9 ([.slice m c.root.vars.length p,.slice x c.root.eqs.length B,.slice g c.root.neqs.length k,i' c.root.next,.slice av ((([]:List Zf)++c.v).take (Int.tmod (i64.wrap I) ((([]:List Zf)++c.v).length:Int)).toNat++(([]:List Zf)++c.v).drop ((Int.tmod (i64.wrap I) ((([]:List Zf)++c.v).length:Int)).toNat+1)).length az]).toArray z sz32 z z z (show 4<5 by decide) z z<|v'<|ar'<|I'<|g'<|sr<|yy (o' 9 aB' z z z) z<|s' 8 z bC' z z z z z (List.all_eq_true.1 z)<|nx<|j' ?_
  obtain rfl:_=r:=hr
  refine aE' (fun w U=>U.rekey (i:=17) (j:=7000) z (by rw[Y]; rfl))<|di' z (ad' (i:=8) aB' z z z) (lc z ln) ⟨_,_,_,_,_,_,_,_,_,_,z,z,(o.mono C),(y.mono C),(n.mono C),bu⟩
 refine sr<|yy (at' z z) z<|sx0 z z<|L' hr z (fun bO hr=>?_) (fun bO hr=>?_)
 .refine A'<|mv z z<|yy (cJ' z) z<|yy (bw' z) z<|aD' 9 ([.slice m c.root.vars.length p,.slice x c.root.eqs.length B,.slice g c.root.neqs.length k,i' J,.slice av (([]:List Zf)++c.v).length az]).toArray z sz3 z z z (show 3<5 by decide) z z<|v'<|I'<|g'<|sr<|yy (o' 9 aB' z z z) z<|s' 8 z bC' z z z z z (List.all_eq_true.1 z)<|nx<|j' ?_
  obtain rfl:_=r:=hr
  refine aE' (fun w U=>U.rekey (i:=17) (j:=7000) z (by rw[Y]; rfl))<|di' z (ad' (i:=8) aB' z z z) (lc z ln) ⟨_,_,_,_,_,_,_,_,_,_,z,z,(o.mono C),(y.mono C),(n.mono C),F⟩
 refine sr<|yy (at' z z) z<|sx0 z z<|L' hr z (fun bM hr=>?_) (fun bM hr=>?_)
 .refine am' (fun (⟨H,K,M,R,Q,O,P,W,ae,aj,Z,an⟩:Za×Option Addr×Nat×Option Addr×Nat×Option Addr×Nat×(List Zf)×Option Addr×Nat×Option Ow×Mem)=>[(8,pt0 b2),(9,pt0 b3)]) (fun ⟨H,K,M,R,Q,O,P,W,ae,aj,Z,an⟩=>Mem.le X1.m an/\sl Rp.str an K M H.vars/\sl b' an R Q H.eqs/\sl b' an O P H.neqs/\RowR X' 63 an (.slice ae W.length aj) W Z/\(Zdn H W).Ret r) (fun ⟨H,K,M,R,Q,O,P,W,ae,aj,Z,an⟩=>St w0 G0 an [(8,bk0 b2 ([.slice none 0 0,.slice none 0 0,.slice none 0 0,i' 0,.slice none 0 0]) 34),(9,bk0 b3 ([.slice K H.vars.length M,.slice R H.eqs.length Q,.slice O H.neqs.length P,i' H.next,.slice ae W.length aj]) 34),(500091,Z)]) ?_ ?_
  .refine C' ?_
   let aL:((Za×(List Zf)))->Prop:=fun oo=>((fun ov=>match ov with|(H,W)=>Zdn H W:((Za×(List Zf)))->Cq Zg) oo).wp (fun a=>a=r)
   replace hr:(Cq.loop _ _).wp aL:=hr
   refine an' (Φ:=aL) (fun (⟨f,A,t,D,E,s,q,T,X,V,S,ac⟩:Za×Option Addr×Nat×Option Addr×Nat×Option Addr×Nat×(List Zf)×Option Addr×Nat×Option Ow×Mem)=>((f,T):Za×(List Zf))) (fun ⟨f,A,t,D,E,s,q,T,X,V,S,ac⟩=>[(2,.int .u8 I),(8,pt0 b2),(9,pt0 b3)]) (fun ⟨f,A,t,D,E,s,q,T,X,V,S,ac⟩=>Mem.le X1.m ac/\sl Rp.str ac A t f.vars/\sl b' ac D E f.eqs/\sl b' ac s q f.neqs/\RowR X' 63 ac (.slice X T.length V) T S) (fun ⟨f,A,t,D,E,s,q,T,X,V,S,ac⟩=>St w0 G0 ac [(8,bk0 b2 ([.slice none 0 0,.slice none 0 0,.slice none 0 0,i' 0,.slice none 0 0]) 34),(9,bk0 b3 ([.slice A f.vars.length t,.slice D f.eqs.length E,.slice s f.neqs.length q,i' f.next,.slice X T.length V]) 34),(500091,S)]) ⟨c.root,m,p,x,B,g,k,(([]:List Zf)++c.v),av,az,aV,X1.m⟩ hr (f3 z z z) ⟨mr,(o.mono C),(y.mono C),(n.mono C),F⟩ ?_ ?_
   .intro w U
    have U:=U.rekey (i:=17) (j:=500091) z (by rw[Y]; rfl)
    exact U.weaken (lc z (lc z (lc z ln)))
   intro cG gx hx hr
   obtain⟨f,A,t,D,E,s,q,T,X,V,S,ac⟩:=gx
   obtain⟨aD,aa,ad,ab,aC⟩:=hx
   refine n'<|sr<|yy (ai' z) z<|yy (f' 9 aZ' z z z) z<|yy (dD' B' aC z) z<|mv z z<|yy (bA' z z (by decide)) z<|yy (aN' aP' aA' z) z<|yy (W' z z) z<|yy (aj' z z) z<|nx<|L' hr z (fun bq hr=>?_) (fun bq hr=>?_)
   .refine q'<|g'<|C'<|A'<|yy (ai' z) z<|yy (f' 9 aZ' z z z) z<|yy (av' (vs:=#[(0,i' 0),(1,i' (-1))]) (v:=.agg ([i' 0,i' (-1),.slice none 0 0]).toArray) z z (fun _=>by kernel_rfl)) z<|bc' (e:=63) (r:=X') (vs:=#[(0,.agg ([i' 0,i' (-1),.slice none 0 0]).toArray)]) (cs:=[i' 0,i' (-1),.slice none 0 0]++([])) ([(Zf.mk 0 (-1) [])]:List Zf) z z z z z (by decide) (fun _=>by kernel_rfl) ⟨[i' 0,i' (-1),.slice none 0 0],[],z,⟨[i' 0],[i' (-1),.slice none 0 0],z,z,⟨[i' (-1)],[.slice none 0 0],z,z,⟨_,z,(R' _ _)⟩⟩⟩,z⟩ (key:=999) z (by rw[Y]; rfl) (fun p6 bG ah bF=>?_)
    obtain⟨bv,hr⟩:=hr
    refine cr' (r:=X') (e:=63) 500091 z z B' el63 z (by decide) z z (aC.mono ah) z bF bv fun p7 bc bh bI=>yy (ai' z) z<|aD' 9 ([.slice A f.vars.length t,.slice D f.eqs.length E,.slice s f.neqs.length q,i' f.next,.slice p7 (T++[(Zf.mk 0 (-1) [])]).length bc]).toArray z sz32 z z z (show 4<5 by decide) z z<|v'<|I'<|Y' ⟨f,A,t,D,E,s,q,(T++[(Zf.mk 0 (-1) [])]),p7,bc,bh,bG⟩ hr ⟨(mx aD ah),(aa.mono ah),(ad.mono ah),(ab.mono ah),bI⟩ (f3 z z z) (w3 z z z)
   refine ap'<|r'<|r'<|O'<|aq' ⟨f,A,t,D,E,s,q,T,X,V,S,ac⟩ ⟨aD,aa,ad,ab,aC,hr⟩ (f2 z z) (w3 z z z)
  rintro⟨H,K,M,R,Q,O,P,W,ae,aj,Z,an⟩ ⟨cd,aw,aA,ax,aS,hr⟩
  refine I'<|g'<|sr<|yy (o' 9 aB' z z z) z<|s' 8 z bC' z z z z z (List.all_eq_true.1 z)<|nx<|j' ?_
  obtain rfl:_=r:=hr
  refine aE' (fun w U=>U.rekey (i:=500091) (j:=7000) z (by rw[Y]; rfl))<|di' z (ad' (i:=8) aB' z z z) (lc z ln) ⟨_,_,_,_,_,_,_,_,_,_,z,z,aw,aA,ax,aS⟩
 refine q'<|I'<|g'<|sr<|yy (o' 9 aB' z z z) z<|s' 8 z bC' z z z z z (List.all_eq_true.1 z)<|nx<|j' ?_
 obtain rfl:_=r:=hr
 refine aE' (fun w U=>U.rekey (i:=17) (j:=7000) z (by rw[Y]; rfl))<|di' z (ad' (i:=8) aB' z z z) (lc z ln) ⟨_,_,_,_,_,_,_,_,_,_,z,z,(o.mono C),(y.mono C),(n.mono C),F⟩
theorem Zf3(aO:ZF)(aX:(Fin 2->Int))(bw:Int)(aR:Option Addr)(aQ:Nat)(aS:Option Addr)(aV:Nat)(r:Bool)(hr:(ZdK aO aX bw).Ret r):Ctr prog 4 #[.agg ((v25' aO aR aQ aS aV)).toArray,.agg (vecG (Value.int .u8) 2 aX).toArray,i' bw] (fun G=>sl cq' G aR aQ aO.s/\sl dn' G aS aV aO.v) (fun G v=>v = .bool r):=by
 refine H' (args:=[_,_,_]) (N:=156) func4 z z z (fun w0 G0 av cc=>?_)
 obtain⟨bv,bu⟩:=cc
 have hz:w0.L.zero:=by rw[av]; intro p hp; simp at hp
 refine sr<|ag' 3 z z z fun b1=>ag' 4 z z z fun b2=>sg z z<|nr ?_
 obtain⟨aq,bU,hr⟩:=hr
 refine E' z z (t' E9 z) (dg' bU) z (trivial)<|sx0 z z<|n'<|sr<|mv z z<|yy (al' z) z<|nx<|aL' hr z (fun cO hr=>?_) (fun cO hr=>?_)
 .refine sr<|sx0 z z<|j'<|a' (k0' hr z z)
 refine q'<|g'<|sr<|yy (o' 3 ag25 z z z) z ?_
 obtain⟨ap,bV,hr⟩:=hr
 refine P' z z (t' E10 z) (dV' bV) z (⟨bv,bu⟩) (fun c7 dl cP bl=>?_)
 obtain⟨x,t,A,B,u,s,aw,aA,rfl,I,Q,F,aG⟩:=bl
 refine Q' 8 z z34 z fun b3=>s' 8 z bC' z z z z z (List.all_eq_true.1 z)<|nr<|yy (o' 8 aB' z z z) z<|yy (bM' eF' sz5 z z (by decide)) z<|yy (f' 4 sc5 z z (bi' _ _ _ (i:=(0:Int)) (by decide))) z<|yy (bM' eF' sz5 z z (by decide)) z<|yy (f' 4 sc5 z z (bi' _ _ _ (i:=(1:Int)) (by decide))) z<|mv z z ?_
 obtain⟨ax,ca,hr⟩:=hr
 refine cw' z z (t' E25 z) (fl' ca) z (⟨I,Q,F,aG⟩) ln hz (fun cY dn c8 C bh=>?_)
 obtain⟨E,O,T,U,K,L,aH,aF,bG,cQ,rfl,rfl,H,R,J,aZ⟩:=bh
 obtain rfl:bG=_:=RowR.lenEq aZ
 refine bH' (fun w hs=>hs.rekey (i:=7000) (j:=4032) z (by rw[av]; rfl))<|bE' (r:=X') (e:=63) 4032 aZ z (by rw[av]; rfl) fun dg dj m aD cR=>Q' 9 z z34 z fun b4=>s' 9 z bC' z z z z z (List.all_eq_true.1 z)<|nr<|yy (o' 8 aB' z z z) z ?_
 obtain⟨au,bO,hr⟩:=hr
 have N1:=mx C m
 refine cw' z z (t' E25 z) (fl' bO) z (⟨(I.mono N1),(Q.mono N1),(F.mono N1),(aG.mono N1)⟩) ln hz (fun c4 dp df k bd=>?_)
 obtain⟨Y,X,ab,ac,aa,Z,a1,a2,bK,aY,rfl,rfl,aj,ar,al,a3⟩:=bd
 obtain rfl:bK=_:=RowR.lenEq a3
 refine bH' (fun w hs=>hs.rekey (i:=7000) (j:=4034) z (by rw[av]; rfl))<|Q' 10 z z34 z fun b5=>s' 10 z bC' z z z z z (List.all_eq_true.1 z)<|nr<|bc' (e:=48) (r:=Z') (vs:=#[]) (cs:=[]) ([]:List Zc) z z z z z (by decide) (fun _=>by kernel_rfl) (z) (key:=999) z (by rw[av]; rfl) fun p1 bC g cA=>sx0 z z<|n'<|sr<|sx0 z z<|am' (fun (⟨l,o,q,D,aN⟩:(List Zc)×Option Addr×Nat×Option Ow×Mem)=>[(7,.bool aq),(8,pt0 b3),(9,pt0 b4),(10,pt0 b5),(11,.slice o l.length q)]) (fun ⟨l,o,q,D,aN⟩=>Mem.le bC aN/\sl Z' aN o q l/\Tok 7 48 (.slice o l.length q) l.length D/\(Zav aq ap ax au l).Ret r) (fun ⟨l,o,q,D,aN⟩=>St w0 G0 aN [(8,bk0 b3 (v34' ap x t A B u s aw aA) 34),(9,bk0 b4 (v34' ax E O T U K L aH aF) 34),(10,bk0 b5 (v34' au Y X ab ac aa Z a1 a2) 34),(4034,aY),(1011,D)]) ?_ ?_
 .refine C' ?_
  let bx:(List Zc)->Prop:=fun oo=>((fun ov=>match ov with|l=>Zav aq ap ax au l:(List Zc)->Cq Bool) oo).wp (fun a=>a=r)
  replace hr:(Cq.loop _ _).wp bx:=hr
  refine an' (Φ:=bx) (fun (⟨M,W,V,P,ae,aE⟩:(List Zc)×Option Addr×Nat×Option Ow×Int×Mem)=>((M,ae):(List Zc)×Int)) (fun ⟨M,W,V,P,ae,aE⟩=>[(4,pt0 b2),(7,.bool aq),(8,pt0 b3),(9,pt0 b4),(10,pt0 b5),(11,.slice W M.length V),(12,i' ae)]) (fun ⟨M,W,V,P,ae,aE⟩=>Mem.le bC aE/\sl Z' aE W V M/\Tok 7 48 (.slice W M.length V) M.length P) (fun ⟨M,W,V,P,ae,aE⟩=>St w0 G0 aE [(4,bk0 b2 (vecG (Value.int .u8) 2 aX) 60),(8,bk0 b3 (v34' ap x t A B u s aw aA) 34),(9,bk0 b4 (v34' ax E O T U K L aH aF) 34),(10,bk0 b5 (v34' au Y X ab ac aa Z a1 a2) 34),(4034,aY),(1011,P)]) ⟨[],p1,0,none,0,bC⟩ hr (f7 z z z z z z z) ⟨mr,cA,cX'⟩ (wk (lc z (lc z (lc z (lc z (lc z (lw ln))))))) ?_
  .intro dh gx hx hr
   obtain⟨M,W,V,P,ae,aE⟩:=gx
   obtain⟨a0,aP,aK⟩:=hx
   refine n'<|sr<|mv z z<|yy (bM' eF' sz5 z z (by decide)) z<|yy (f' 4 sc5 z z (bi' _ _ _ (i:=(1:Int)) (by decide))) z<|yy (bA' z z (by decide)) z<|yy (aN' aP' aA' z) z<|yy (W' z z) z<|yy (aj' z z) z<|nx<|L' hr z (fun cI hr=>?_) (fun cI hr=>?_)
   .refine q'<|g'<|n'<|C'<|A'<|mv z z<|yy (av' (vs:=#[(0,i' 4)]) (v:=.agg ([i' 4,.string ByteArray.empty,i' 0,i' 0,i' 0,.slice none 0 0,.bool false]).toArray) z z (fun _=>by kernel_rfl)) z<|bc' (e:=48) (r:=Z') (vs:=#[(0,.agg ([i' 4,.string ByteArray.empty,i' 0,i' 0,i' 0,.slice none 0 0,.bool false]).toArray)]) (cs:=[i' 4,.string ByteArray.empty,i' 0,i' 0,i' 0,.slice none 0 0,.bool false]++([])) ([(Zc.mk 4 ByteArray.empty 0 0 0 [] false)]:List Zc) z z z z z (by decide) (fun _=>by kernel_rfl) ⟨[i' 4,.string ByteArray.empty,i' 0,i' 0,i' 0,.slice none 0 0,.bool false],[],z,⟨[i' 4],[.string ByteArray.empty,i' 0,i' 0,i' 0,.slice none 0 0,.bool false],z,z,⟨[.string ByteArray.empty],[i' 0,i' 0,i' 0,.slice none 0 0,.bool false],z,z,⟨[i' 0],[i' 0,i' 0,.slice none 0 0,.bool false],z,z,⟨[i' 0],[i' 0,.slice none 0 0,.bool false],z,z,⟨[i' 0],[.slice none 0 0,.bool false],z,z,⟨[.slice none 0 0],[.bool false],z,⟨_,z,(R' _ _)⟩,z⟩⟩⟩⟩⟩⟩,z⟩ (key:=999) z (by rw[av]; rfl) (fun p4 c9 aU cu=>?_)
    obtain⟨bY,hr⟩:=hr
    refine bT' (r:=Z') 1011 z z ao' el48 z (by decide) z z (aP.mono aU) z (by rw[av]; rfl) aK cu bY fun p5 cr cd bX bA cH bZ=>sg z z<|v'<|I'<|g'<|A'<|mv z z<|yy (W' z z) z<|sg z z<|v'<|Y' ⟨(M++[(Zc.mk 4 ByteArray.empty 0 0 0 [] false)]),p5,cr,cd,i64.wrap (ae+1),bX⟩ hr ⟨(mx (mx a0 aU) bA),cH,bZ⟩ (f7 z z z z z z z) (w6 z z z z z z)
   refine ap'<|r'<|r'<|O'<|aq' ⟨M,W,V,P,aE⟩ ⟨a0,aP,aK,hr⟩ (f5 z z z z z) (w5 z z z z z)
 rintro⟨l,o,q,D,aN⟩ ⟨h,am,cm,hr⟩
 refine g'<|sr<|yy (o' 8 aB' z z z) z ?_
 obtain⟨aM,b9,hr⟩:=hr
 have N2:=mx (mx (mx N1 k) g) h
 refine P' z z (t' E12 z) (eN' b9) z (⟨(I.mono N2),(Q.mono N2),(F.mono N2),(aG.mono N2)⟩) (fun cX dk f bf=>?_)
 obtain⟨ag,af,an,ak,ad,ah,rfl,az,bN,bL⟩:=bf
 refine mv z z<|yy (x' z z) z<|yy (x' z z) z<|Q' 13 z z31 z fun b6=>s' 13 z aV' z z z z z (List.all_eq_true.1 z)<|sg z z<|nr<|yy (ai' z) z<|yy (f' 10 aZ' z z z) z<|mv z z<|yy (av' (vs:=#[(0,i' 0),(1,i' (-1)),(2,.slice o l.length q)]) (v:=.agg ([i' 0,i' (-1),.slice o l.length q]).toArray) z z (fun _=>by kernel_rfl)) z<|bc' (e:=63) (r:=X') (vs:=#[(0,.agg ([i' 0,i' (-1),.slice o l.length q]).toArray)]) (cs:=[i' 0,i' (-1),.slice o l.length q]++([])) ([(Zf.mk 0 (-1) l)]:List Zf) z z z z z (by decide) (fun _=>by kernel_rfl) ⟨[i' 0,i' (-1),.slice o l.length q],[],z,⟨[i' 0],[i' (-1),.slice o l.length q],z,z,⟨[i' (-1)],[.slice o l.length q],z,z,⟨_,z,(am.mono f)⟩⟩⟩,z⟩ (key:=999) z (by rw[av]; rfl) (fun p2 dm c cD=>?_)
 obtain⟨bR,hr⟩:=hr
 refine cr' (r:=X') (e:=63) 4034 z z B' el63 z (by decide) z z (a3.mono (mx (mx (mx g h) f) c)) z cD bR fun p3 cv cV cC=>yy (ai' z) z<|bE' (r:=X') (e:=63) 4034 cC z (by rw[av]; rfl) fun ds bM d bz cS=>aD' 10 ([.slice Y au.root.vars.length X,.slice ab au.root.eqs.length ac,.slice aa au.root.neqs.length Z,i' au.root.next,.slice p3 (au.v++[(Zf.mk 0 (-1) l)]).length cv]).toArray z sz32 z z z (show 4<5 by decide) z z<|nx<|aM' (fun (gx:Mem)=>match gx with|aB=>[(7,.bool aq),(8,pt0 b3),(9,pt0 b4),(11,.slice o l.length q),(13,pt0 b6)]) (fun (gx:Mem)=>match gx with|aB=>Mem.le bM aB/\(Zcz aq ap ax l aM).Ret r) (fun (gx:Mem)=>match gx with|aB=>St w0 G0 aB [(8,bk0 b3 (v34' ap x t A B u s aw aA) 34),(9,bk0 b4 (v34' ax E O T U K L aH aF) 34),(13,bk0 b6 (v31' aM.1 ag af an ak ad ah) 31),(1011,D)]) ?_ ?_
 .refine n'<|ah' [ff,ff,ff,ff,ff,ff,ff,ff,ff] mix (by kernel_rfl) fun hb=>cn (fun _ y=>o' 9 aB' z z z) ?_
  obtain⟨dq,bT,hr⟩:=hr
  have N3:=mx (mx (mx (mx (mx (mx m k) g) h) f) c) d
  refine bv' z (fun _=>t' E18 z) (cl' bT) z (fun G' y=>⟨((H.mono N3).mono y),((R.mono N3).mono y),((J.mono N3).mono y),((aD.mono (mx (mx (mx (mx (mx k g) h) f) c) d)).mono y)⟩)<|cn (fun _ y=>o' 9 aB' z z z) ?_
  obtain⟨c5,bJ,hr⟩:=hr
  refine bv' z (fun _=>t' E26 z) (eT' bJ) z (fun G' y=>⟨((H.mono N3).mono y),((R.mono N3).mono y),((J.mono N3).mono y),((aD.mono (mx (mx (mx (mx (mx k g) h) f) c) d)).mono y)⟩)<|by' hr z (fun _ y=>er' bR' z z) (fun bW hr=>?_) (fun bW hr=>?_)
  .refine cn (fun _ y=>e' z)<|cf z z<|cf z z<|cf z z<|T' hb<|sn2 z<|yy (h' z z) z<|mv z z<|sn2 z<|yy (h' z z) z<|v'<|ar'<|g'<|U' z<|sr<|sx0 z z<|j'<|a' (k0' hr z z)
  refine cn (fun _ y=>e' z)<|cy z z (fun _ y=>o' 10 aB' z z z) ?_
  obtain⟨da,bI,hr⟩:=hr
  have N4:=mx (mx (mx (mx g h) f) c) d
  refine bv' (w' z z) (fun _=>t' E18 z) (cl' bI) z (fun G' y=>⟨((aj.mono N4).mono y),((ar.mono N4).mono y),((al.mono N4).mono y),(bz.mono y)⟩)<|cy z z (fun _ y=>o' 10 aB' z z z)<|T' hb ?_
  obtain⟨c0,bE,hr⟩:=hr
  refine E' (w' z z) z (t' E26 z) (eT' bE) z (⟨(aj.mono N4),(ar.mono N4),(al.mono N4),bz⟩)<|ac' hr (w' z z) (er' bR' z z) z (fun ce hr=>?_) (fun ce hr=>?_)
  .refine yy (l' z z) z<|mv z z<|sn2 z<|yy (h' z z) z<|v'<|ar'<|g'<|U' z<|sr<|sx0 z z<|j'<|a' (k0' hr z z)
  refine yy (l' z z) z<|mv z z<|gy z z (av' (vs:=#[]) (v:=.agg ([.slice none 0 0,.slice none 0 0,.slice none 0 0,i' 0,.slice none 0 0]).toArray) z z (fun _=>by kernel_rfl)) z ?_
  obtain⟨c2,bH,hr⟩:=hr
  refine E' (w' z z) z (t' E18 z) (cl' bH) z (⟨(R' Rp.str _),(R' b' _),(R' b' _),(R' X' _)⟩)<|yy (l' z z) z<|v'<|ar'<|g'<|aL' hr z (fun cx hr=>?_) (fun cx hr=>?_)
  .refine sr<|sx0 z z<|j'<|a' (k0' hr z z)
  refine q'<|as' bM ⟨mr,hr⟩ (f5 z z z z z) (w4 z z z z)
 rintro aB ⟨n,hr⟩
 refine aM' (fun (gx:Mem)=>match gx with|aT=>[(7,.bool aq),(8,pt0 b3),(11,.slice o l.length q),(13,pt0 b6)]) (fun (gx:Mem)=>match gx with|aT=>Mem.le aB aT/\(Zba aq ap l aM).Ret r) (fun (gx:Mem)=>match gx with|aT=>St w0 G0 aT [(8,bk0 b3 (v34' ap x t A B u s aw aA) 34),(13,bk0 b6 (v31' aM.1 ag af an ak ad ah) 31),(1011,D)]) ?_ ?_
 .refine aM' (fun (⟨ay,aL⟩:Bool×Mem)=>[(7,.bool aq),(8,pt0 b3),(9,pt0 b4),(11,.slice o l.length q),(13,pt0 b6),(84,.bool ay)]) (fun ⟨ay,aL⟩=>Mem.le aB aL/\(Zau aq ap ax l aM ay).Ret r) (fun ⟨ay,aL⟩=>St w0 G0 aL [(8,bk0 b3 (v34' ap x t A B u s aw aA) 34),(9,bk0 b4 (v34' ax E O T U K L aH aF) 34),(13,bk0 b6 (v31' aM.1 ag af an ak ad ah) 31),(1011,D)]) ?_ ?_
  .refine A'<|yy (o' 9 aB' z z z) z ?_
   obtain⟨cq,cg,hr⟩:=hr
   have N5:=mx (mx (mx (mx (mx (mx (mx m k) g) h) f) c) d) n
   refine E' z z (t' E26 z) (eT' cg) z (⟨(H.mono N5),(R.mono N5),(J.mono N5),(aD.mono (mx (mx (mx (mx (mx (mx k g) h) f) c) d) n))⟩) ?_
   cases cq
   .refine mv z z<|sn4 z<|yy (l' z z) z<|v'<|as' ⟨false,aB⟩ ⟨mr,hr⟩ (f6 z z z z z z) (w4 z z z z)
   refine mv z z<|gy z z (ai' z) z<|gy z z (f' 9 aZ' z z z) z<|gy z z (M' B' (aD.mono (mx (mx (mx (mx (mx (mx k g) h) f) c) d) n)) z) z<|gy z z (bf' z z) z<|yy (h' z z) z<|v'<|as' ⟨decide (199<=(ax.v.length:Int)),aB⟩ ⟨mr,hr⟩ (f6 z z z z z z) (w4 z z z z)
  rintro⟨ay,aL⟩ ⟨ao,hr⟩
  refine aL' hr z (fun cz hr=>?_) (fun cz hr=>?_)
  .refine sr<|yy (o' 9 aB' z z z) z ?_
   obtain⟨dr,cb,hr⟩:=hr
   have N6:=mx (mx (mx (mx (mx (mx (mx (mx m k) g) h) f) c) d) n) ao
   have N7:=mx (mx (mx (mx (mx (mx (mx k g) h) f) c) d) n) ao
   refine P' z z (t' E20 z) (bQ' cb) z (⟨(H.mono N6),(R.mono N6),(J.mono N6),(aD.mono N7),(R' Z' _)⟩) (fun c3 db bD bm=>?_)
   obtain⟨be,bn,bp,bs,ba,bb,ch,ci,rfl,bg,br,bi,aJ⟩:=bm
   refine mv z z<|yy (x' z z) z<|yy (x' z z) z<|yy (x' z z) z<|Q' 15 z z34 z fun b8=>s' 15 z bC' z z z z z (List.all_eq_true.1 z)<|sg z z<|sx0 z z<|n'<|sr<|yy (ai' z) z<|yy (f' 9 aZ' z z z) z<|yy (M' B' (aD.mono (mx N7 bD)) z) z<|yy (at' z z) z<|nx<|L' hr z (fun cF hr=>?_) (fun cF hr=>?_)
   .refine sr<|ac' hr z (cK' (e' z) (congrArg Value.bool (bdec _))) z (fun cG hr=>?_) (fun cG hr=>?_)
    .refine mv z z<|gy z z (e' z) z<|ac' hr (w' z z) (at' z z) z (fun cL hr=>?_) (fun cL hr=>?_)
     .refine yy (h' z z) z<|mv z z<|gy z z (e' z) z<|ac' hr (w' z z) (at' z z) z (fun ct hr=>?_) (fun ct hr=>?_)
      .refine yy (h' z z) z<|mv z z<|gy z z (ai' z) z<|gy z z (f' 15 aZ' z z z) z<|gy z z (M' B' aJ z) z<|gy z z (at' z z) z<|yy (h' z z) z<|sx0 z z<|j'<|a'<|a' (k0' hr z z)
      refine yy (h' z z) z<|mv z z<|sn4 z<|yy (l' z z) z<|sx0 z z<|j'<|a'<|a' (k0' hr z z)
     refine yy (h' z z) z<|mv z z<|sn2 z<|yy (l' z z) z<|mv z z<|sn4 z<|yy (l' z z) z<|sx0 z z<|j'<|a'<|a' (k0' hr z z)
    refine mv z z<|sn2 z<|yy (l' z z) z<|mv z z<|sn2 z<|yy (l' z z) z<|mv z z<|sn4 z<|yy (l' z z) z<|sx0 z z<|j'<|a'<|a' (k0' hr z z)
   refine q'<|g'<|sr<|ac' hr z (cK' (e' z) (congrArg Value.bool (bdec _))) z (fun cw hr=>?_) (fun cw hr=>?_)
   .refine mv z z<|gy z z (e' z) z<|ac' hr (w' z z) (at' z z) z (fun b0 hr=>?_) (fun b0 hr=>?_)
    .refine yy (h' z z) z<|mv z z<|gy z z (e' z) z<|ac' hr (w' z z) (at' z z) z (fun bQ hr=>?_) (fun bQ hr=>?_)
     .refine yy (h' z z) z<|mv z z<|gy z z (ai' z) z<|gy z z (f' 15 aZ' z z z) z<|gy z z (M' B' aJ z) z<|gy z z (at' z z) z<|yy (h' z z) z<|sx0 z z<|j'<|a' (k0' hr z z)
     refine yy (h' z z) z<|mv z z<|sn4 z<|yy (l' z z) z<|sx0 z z<|j'<|a' (k0' hr z z)
    refine yy (h' z z) z<|mv z z<|sn2 z<|yy (l' z z) z<|mv z z<|sn4 z<|yy (l' z z) z<|sx0 z z<|j'<|a' (k0' hr z z)
   refine mv z z<|sn2 z<|yy (l' z z) z<|mv z z<|sn2 z<|yy (l' z z) z<|mv z z<|sn4 z<|yy (l' z z) z<|sx0 z z<|j'<|a' (k0' hr z z)
  refine q'<|as' aL ⟨ao,hr⟩ (f4 z z z z) (w3 z z z)
 rintro aT ⟨S,hr⟩
 refine sr<|yy (o' 8 aB' z z z) z<|mv z z ?_
 obtain⟨di,bP,hr⟩:=hr
 have N8:=mx (mx (mx (mx (mx (mx (mx (mx N1 k) g) h) f) c) d) n) S
 refine P' z z (t' E20 z) (bQ' bP) z (⟨(I.mono N8),(Q.mono N8),(F.mono N8),(aG.mono N8),(am.mono (mx (mx (mx (mx f c) d) n) S))⟩) (fun cU cW ai a6=>?_)
 obtain⟨bc,a5,bq,bo,a8,bj,cl,cj,rfl,a4,bt,a7,ck⟩:=a6
 refine mv z z<|yy (x' z z) z<|yy (x' z z) z<|yy (x' z z) z<|Q' 18 z z34 z fun b7=>s' 18 z bC' z z z z z (List.all_eq_true.1 z)<|sg z z<|sg z z<|nr<|ac' hr z (cK' (e' z) (congrArg Value.bool (bdec _))) z (fun cN hr=>?_) (fun cN hr=>?_)
 .refine mv z z<|gy z z (e' z) z<|gy z z (M' ao' (am.mono (mx (mx (mx (mx (mx f c) d) n) S) ai)) z) z<|ac' hr (w' z z) (bL' z z) z (fun cB hr=>?_) (fun cB hr=>?_)
  .refine gy z z (e' z) z<|sn2 z<|gy z z (h' z z) z<|yy (h' z z) z<|mv z z<|gy z z (e' z) z<|gy z z (M' ao' (am.mono (mx (mx (mx (mx (mx f c) d) n) S) ai)) z) z<|ac' hr (w' z z) (be' z z) z (fun cE hr=>?_) (fun cE hr=>?_)
   .refine gy z z (e' z) z<|sn7 z<|gy z z (h' z z) z<|yy (h' z z) z<|sx0 z z<|j' (k0' hr z z)
   refine gy z z (e' z) z<|gy z z (e' z) z<|gy z z (at' z z) z<|gy z z (aF' z) z<|gy z z (f' 13 bB' z z z) z<|gy z z (M' F' (az.mono (mx (mx (mx (mx c d) n) S) ai)) z) z<|gy z z (be' z z) z<|gy z z (Y0.eqlB bR' z z) z<|gy z z (l' z z) z<|yy (h' z z) z<|sx0 z z<|j' (k0' hr z z)
  refine gy z z (e' z) z<|gy z z (e' z) z<|ac' hr (w' z z) (at' z z) z (fun cM hr=>?_) (fun cM hr=>?_)
  .refine gy z z (l' z z) z<|yy (h' z z) z<|mv z z<|gy z z (e' z) z<|gy z z (M' ao' (am.mono (mx (mx (mx (mx (mx f c) d) n) S) ai)) z) z<|ac' hr (w' z z) (be' z z) z (fun cJ hr=>?_) (fun cJ hr=>?_)
   .refine gy z z (e' z) z<|sn7 z<|gy z z (h' z z) z<|yy (h' z z) z<|sx0 z z<|j' (k0' hr z z)
   refine gy z z (e' z) z<|gy z z (e' z) z<|gy z z (at' z z) z<|gy z z (aF' z) z<|gy z z (f' 13 bB' z z z) z<|gy z z (M' F' (az.mono (mx (mx (mx (mx c d) n) S) ai)) z) z<|gy z z (be' z z) z<|gy z z (Y0.eqlB bR' z z) z<|gy z z (l' z z) z<|yy (h' z z) z<|sx0 z z<|j' (k0' hr z z)
  refine gy z z (l' z z) z<|yy (h' z z) z<|mv z z<|sn4 z<|N' (u' z z) z<|N' (u' z z) z<|N' (u' z z) z<|N' (u' z z) z<|N' (u' z z) z<|N' (u' z z) z<|N' (u' z z) z<|sk z z z<|yy (l' z z) z<|sx0 z z<|j' (k0' hr z z)
 refine mv z z<|sn4 z<|N' (u' z z) z<|N' (u' z z) z<|sk z z z<|yy (l' z z) z<|mv z z<|sn4 z<|N' (u' z z) z<|N' (u' z z) z<|N' (u' z z) z<|N' (u' z z) z<|N' (u' z z) z<|N' (u' z z) z<|N' (u' z z) z<|sk z z z<|yy (l' z z) z<|sx0 z z<|j' (k0' hr z z)
end Go.Proofs.YtnjiloaolgjedaaGreat

namespace Go.Proofs.YtnjiloaolgjedaaGreat
open Go.IntKind (i8 i16 i32 i64 u8 u16 u32 u64)
open Go.Proofs.Tryz
open Go Go.EL Go.RowKit Go.Proofs
end Go.Proofs.YtnjiloaolgjedaaGreat

namespace Go.EL
open Go.IntKind (i8 i16 i32 i64 u8 u16 u32 u64)
open Go Go.RowKit
def sanE(v:ByteArray):Zc:=⟨1,v,0,0,0,[],false⟩
def sanX(v:ByteArray):Za:=⟨[v],[],[],1⟩
def vA:Zf:=⟨-1,-1,[]⟩
def vB(v:ByteArray):Zf:=⟨0,-1,[sanE v]⟩
theorem Zlu:checkF oneS (sanE Zr)=0:=by decide +kernel
theorem Zlv:checkF oneS (sanE ZJ)=0:=by decide +kernel
theorem Zdt(v:ByteArray)(hc:checkF oneS (sanE v)=0):allF oneS [sanE v] 0=⟨sanX v,1,0⟩:=by
 have h:Runs oneS [sanE v]:=⟨hc,trivial⟩
 rw[Zey h]; rfl
theorem Zji(v:ByteArray):∀ e ∈ [sanE v],PolOk e.p/\KindOk e:=fun e he=>by
 rw[List.mem_singleton] at he
 subst he
 exact⟨Zb7,show (-1000:Int)<=1 by decide,show (1:Int)<=1000 by decide⟩
def sanH:Zg:=⟨oneS,[vA]⟩
def sanI:Zg:=⟨oneS,[vA,vB Zr]⟩
def sanJ:Zg:=⟨oneS,[vA,vB Zr,vB ZJ]⟩
theorem ZhQ:HistOk sanH [oneS]:=ZiI ZeM
theorem ZjO:HistOk sanI [oneS,sanX Zr]:=by
 have h0:(allF oneS [sanE Zr] 0).e=0:=by rw[Zdt _ Zlu]
 have h:=ZhQ.add (v:=0) (o:=-1) (s:=oneS) rfl (by decide) (by decide) (by decide) (Zji _) h0
 rw[Zdt _ Zlu] at h
 exact h
theorem ZbY:HistOk sanJ [oneS,sanX Zr,sanX ZJ]:=by
 have h0:(allF oneS [sanE ZJ] 0).e=0:=by rw[Zdt _ Zlv]
 have h:=ZjO.add (v:=0) (o:=-1) (s:=oneS) rfl (by decide) (by decide) (by decide) (Zji _) h0
 rw[Zdt _ Zlv] at h
 exact h
theorem Zqb:addF sanH [oneS] 0 (-1) [sanE Zr]=(sanI,1,0):=Zeh (v:=0) ZhQ rfl (-1) (by decide) (by decide) (by rw[Zdt _ Zlu])
theorem Zqc:addF sanI [oneS,sanX Zr] 0 (-1) [sanE ZJ]=(sanJ,2,0):=Zeh (v:=0) ZjO rfl (-1) (by decide) (by decide) (by rw[Zdt _ Zlv])
theorem Zlw:upB (parV sanJ) (othV sanJ) 2 1=false:=rfl
theorem ZoQ:upB (parV sanJ) (othV sanJ) 1 2=false:=rfl
theorem ZoP:(Zc4 sanJ 1 2).Ret (0,0):=by
 obtain⟨r,h1,h2⟩:=Zol ZbY 1 2
 rcases h2 with ⟨_,_,v,⟨k1,k2,_⟩,rfl⟩|⟨k,_⟩
 .have hv:=ZhD ZbY.down (b:=(1:Int).toNat) (by decide) k1
  have hv':v=0\/v=1:=by have:(1:Int).toNat=1:=rfl; omega
  rcases hv' with rfl|rfl
  .exact h1
  rw[show (2:Int).toNat=2 from rfl,Zlw] at k2; cases k2
 exact absurd ⟨rfl,rfl⟩ k
theorem Zoe{h:Zg}{a b:Nat}(ha:a<h.v.length)(hb:b<h.v.length)(hu:upB (parV h) (othV h) b a=false):upH h (a:Int) (b:Int)=false:=by rw[ZlG ha hb,hu]
theorem Zqd:undoF sanJ [oneS,sanX Zr,sanX ZJ] 1 2=(zeroH,0,340):=by
 unfold undoF
 have h:upH sanJ ((2:Nat):Int) ((1:Nat):Int)=false:=Zoe (by decide) (by decide) ZoQ
 rw[show upH sanJ 2 1=false from h]; rfl
theorem Zm2:(ZO ⟨oneS,[]⟩).Ret false:=by
 refine⟨true,Zbv ZeM,?_⟩
 show (if (((0:Nat):Int))<1 then _ else _:Cq _).wp _
 exact Cq.wp.yes (by decide) rfl
theorem Zlx:ZeH.Ret true:=by
 refine⟨_,Zo6 ZeM,?_⟩
 show (if ¬ (0:Int)=0 then _ else _:Cq _).wp _
 refine Cq.wp.no (fun h=>h rfl) (Cq.wp.no (fun h=>h rfl) ⟨true,Zh7 ZhQ,Cq.wp.no (by decide) ?_⟩)
 refine⟨_,rfl,_,ZbQ ZhQ 0 (by decide) (Zji _),?_⟩
 have e1:=Zqb
 unfold sanE at e1
 rw[e1]
 refine Cq.wp.no (fun h=>h rfl) (Cq.wp.no (fun h=>h rfl) (Cq.wp.no (fun h=>h rfl) ?_))
 refine⟨_,rfl,_,ZbQ ZjO 0 (by decide) (Zji _),?_⟩
 have e2:=Zqc
 unfold sanE at e2
 rw[e2]
 refine Cq.wp.no (fun h=>h rfl) (Cq.wp.no (fun h=>h rfl) (Cq.wp.no (fun h=>h rfl) ⟨true,Zh7 ZbY,Cq.wp.no (by decide) ?_⟩))
 obtain⟨t,u1,u2,u3,_⟩:=ZbY.Zob (v:=1) (by decide) (by decide)
 refine⟨_,ZoP,_,ZkZ ZbY ((1:Nat):Int) ((1:Nat):Int),_,ZkZ ZbY 1 2,?_⟩
 rw[u1,Zqd]
 refine Cq.wp.no (fun h=>h rfl) (Cq.wp.no (fun h=>h rfl) (Cq.wp.no (fun h=>h rfl) (Cq.wp.no (fun h=>h rfl) (Cq.wp.no (fun h=>h rfl) (Cq.wp.no (fun h=>h rfl) ?_)))))
 refine⟨_,ZgN ZbY 1 2,?_⟩
 have h12:upH sanJ ((1:Nat):Int) ((2:Nat):Int)=false:=Zoe (by decide) (by decide) Zlw
 rw[show upH sanJ 1 2=false from h12]
 refine⟨_,ZgN ZbY 0 2,?_⟩
 have h02:upH sanJ ((0:Nat):Int) ((2:Nat):Int)=true:=(ZlG (by decide) (by decide)).trans (ZjR ZbY (by decide))
 rw[show upH sanJ 0 2=true from h02]
 refine Cq.wp.no (by decide) ?_
 refine⟨_,ZgP u2 ((3:Nat):Int),_,ZgP u2 ((2:Nat):Int),_,ZgP u2 4,?_⟩
 rw[ZfT (v:=3) (s:=t) rfl,ZfT (v:=2) (s:=sanX ZJ) rfl]
 refine Cq.wp.yes rfl (Cq.wp.yes rfl (Cq.wp.yes rfl ?_))
 have hv:t.vars=[]:=u3.1
 refine Cq.wp.yes (by rw[hv]; rfl) (Cq.wp.yes rfl ⟨false,Zm2,rfl⟩)
end Go.EL

namespace Go.EL
open Go.IntKind (i8 i16 i32 i64 u8 u16 u32 u64)
open Go Go.RowKit
section
variable {h i j:Zg}{ss si sj:List Za}
theorem Zp6(hh:HistOk h ss){z:Int}(hz:0<=z/\z<=255):∃ k:Nat,Int.tmod (i64.wrap z) (h.v.length:Int)=(k:Int)/\k<h.v.length:=by
 have hb:=hh.bd
 rw[wrap64 (by omega)]
 have ht:=ZaC (a:=z) (b:=(h.v.length:Int)) (by omega) (by omega)
 exact⟨(Int.tmod z (h.v.length:Int)).toNat,by omega,by omega⟩
end
theorem Zop{h:Zg}{ss:List Za}(hh:HistOk h ss){v:Nat}{s:Za}(hs:ss[v]? = some s){l:List Zc}(o:Int)(hn:h.v.length<200)(hl:l.length<=64)(h0:(allF s l 0).e≠0):addF h ss (v:Int) o l=(zeroH,0,(allF s l 0).e):=by
 have:=ZcT hs
 have:=hh.len
 unfold addF
 rw[if_pos (by omega),if_neg (by omega),Int.toNat_natCast,getD_some hs,if_neg h0]
theorem AlikeS.symm{a b:Za}(h:AlikeS a b):AlikeS b a:=⟨h.1.symm,h.2.1.symm,h.2.2.symm⟩
end Go.EL

namespace Go.EL
open Go.IntKind (i8 i16 i32 i64 u8 u16 u32 u64)
open Go Go.RowKit
theorem Zhj(next:Int):∀ {l:List Zb},¬ (∀ q ∈ l,q.id<next)->∃ (j:Nat) (hj:j<l.length),next<=l[j].id/\∀ (i:Nat) (hi:i<l.length),i<j->l[i].id<next
 | [],h=>absurd (fun q hq=>absurd hq List.not_mem_nil) h
 | q::l,h=>by
  by_cases c:next<=q.id
  .exact⟨0,by simp,c,fun i _ h=>absurd h (Nat.not_lt_zero i)⟩
  obtain⟨j,hj,h1,h2⟩:=Zhj next (l:=l) (fun hh=>h fun x hx=>by
   rcases List.mem_cons.1 hx with rfl|hx
   .omega
   exact hh x hx)
  refine⟨j+1,by simp; omega,h1,fun i hi hij=>?_⟩
  cases i with
  | zero=>show q.id<next; omega
  | succ i=>exact h2 i (by simp at hi; omega) (by omega)
structure EqsX (n:Nat) (l:List Zb):Prop where
 len:l.length<=12
 ids:∀ q ∈ l,1<=q.id/\q.id<=1000000
 inc:l.Pairwise fun a b=>a.id<b.id
 pol:∀ q ∈ l,PolOk q.p/\fitB q.p (n:Int)=true
structure GoodX (s:Za):Prop where
 vars:s.vars.length<=4
 name:∀ v ∈ s.vars,nameB v=true
 diff:s.vars.Pairwise fun a b=>a≠b
 eqs:EqsX s.vars.length s.eqs
 neqs:EqsX s.vars.length s.neqs
 apart:∀ a ∈ s.eqs,∀ b ∈ s.neqs,a.id≠b.id
theorem EqsOk.x{n:Nat}{next:Int}{l:List Zb}(h:EqsOk n next l)(hn:next<=1000000):EqsX n l:=⟨h.len,fun q hq=>by have:=h.ids q hq; omega,h.inc,h.pol⟩
theorem EqsX.ok{n:Nat}{next:Int}{l:List Zb}(h:EqsX n l)(hn:∀ q ∈ l,q.id<next):EqsOk n next l:=⟨h.len,fun q hq=>⟨(h.ids q hq).1,hn q hq⟩,h.inc,h.pol⟩
theorem Good.x{s:Za}(h:Good s)(n:Int):GoodX ⟨s.vars,s.eqs,s.neqs,n⟩:=⟨h.vars,h.name,h.diff,h.eqs.x h.next.2,h.neqs.x h.next.2,h.apart⟩
def NextOk(s:Za):Prop:=(1<=s.next/\s.next<=1000000)/\(∀ q ∈ s.eqs,q.id<s.next)/\∀ q ∈ s.neqs,q.id<s.next
theorem GoodX.good{s:Za}(h:GoodX s)(hn:NextOk s):Good s:=⟨h.vars,h.name,h.diff,hn.1,h.eqs.ok hn.2.1,h.neqs.ok hn.2.2,h.apart⟩
theorem Zlf{n:Nat}(hn:n<=4){next:Int}{l:List Zb}(h:EqsX n l)(hb:¬ ∀ q ∈ l,q.id<next):(Zcg l (n:Int) next).Ret false:=by
 have hl:=h.len
 obtain⟨j,hj,b1,b2⟩:=Zhj next hb
 unfold Zcg
 rw[if_neg (by omega)]
 show (Cq.next _ _).wp _
 refine Cq.Zk j (fun k s=>s=(k:Int)) (fun k s hk hs=>?_) (fun s hs=>?_) rfl
 .subst hs
  have hkl:k<l.length:=by omega
  have hid:=h.ids _ (List.getElem_mem hkl)
  have hlt:=b2 k hkl hk
  obtain⟨hp,hf⟩:=h.pol _ (List.getElem_mem hkl)
  refine Cq.wp.yes (p:=(k:Int)<(l.length:Int)) (by omega) ?_
  refine⟨l[k],idxN hkl,?_⟩
  rw[Cq.Zd,if_neg (by omega)]
  refine⟨l[k],idxN hkl,?_⟩
  rw[Cq.Zd,if_neg (by omega),Cq.Zd]
  split
  .rename_i h0
   obtain⟨i,rfl⟩:∃ i,k=i+1:=⟨k-1,by omega⟩
   have hi:i64.wrap (((i+1:Nat):Int)-1)=(i:Int):=by rw[wrap64 (by omega)]; omega
   rw[hi]
   have:=List.pairwise_iff_getElem.1 h.inc i (i+1) (by omega) hkl (by omega)
   refine⟨l[i],idxN (by omega),l[i+1],idxN hkl,?_⟩
   rw[Cq.Zd,if_neg (by omega)]
   refine⟨l[i+1],idxN hkl,true,Zef hp hn hf,?_⟩
   rw[Cq.Zd,if_neg (by decide)]
   exact wrapN (by omega)
  refine⟨l[k],idxN hkl,true,Zef hp hn hf,?_⟩
  rw[Cq.Zd,if_neg (by decide)]
  exact wrapN (by omega)
 subst hs
 have hid:=h.ids _ (List.getElem_mem hj)
 refine Cq.wp.yes (p:=(j:Int)<(l.length:Int)) (by omega) ?_
 refine⟨l[j],idxN hj,?_⟩
 rw[Cq.Zd,if_neg (by omega)]
 refine⟨l[j],idxN hj,?_⟩
 rw[Cq.Zd,if_pos b1]
 rfl
theorem ZjZ{s:Za}{l:List Zb}(h:EqsX s.vars.length l){m:List Int}(hm:∀ q ∈ l,q.id ∉ m)(hml:m.length<=100)(hb:¬ ∀ q ∈ l,q.id<s.next):
  (Zc1 s l (0,idKey m)).Ret (.inl false):=by
 have hl:=h.len
 obtain⟨j,hj,b1,b2⟩:=Zhj s.next hb
 refine Cq.Zk j (fun k st=>st=((k:Int),idKey (m++idsOf (l.take k)))) (fun k st hk hs=>?_) (fun st hs=>?_) (by simp[idsOf])
 .subst hs
  have hkl:k<l.length:=by omega
  have hid:=h.ids _ (List.getElem_mem hkl)
  have hlt:=b2 k hkl hk
  obtain⟨hp,hf⟩:=h.pol _ (List.getElem_mem hkl)
  have hnew:l[k].id ∉ m++idsOf (l.take k):=fun hh=>by
   rcases List.mem_append.1 hh with hh|hh
   .exact hm _ (List.getElem_mem hkl) hh
   exact ZfW h.inc hkl hh
  obtain⟨hput,hget⟩:=Zkb hnew
  have hwf:(Lit.int i64 l[k].id).wf=true:=by
   simp only[Lit.wf,Bool.and_eq_true,decide_eq_true_eq]
   exact⟨Int.le_trans (by decide) hid.1,Int.le_trans hid.2 (by decide)⟩
  have hk5:(ZaY s (k:Int) (idKey (m++idsOf (l.take k))) l[k]).wp (Out (fun s'=>s'=(((k+1:Nat):Int),idKey (m++idsOf (l.take (k+1))))) (fun a=>a=(.inl false:Bool⊕List (Int×Bool)))):=by
   refine⟨⟨hwf,?_⟩,true,Zfe hp (by omega) |> (hf ▸ ·),?_⟩
   .rw[hput]
    simp[idKey,idsOf,small]; omega
   rw[Cq.Zd,if_neg (by decide)]
   show _=_
   have e:idsOf (l.take (k+1))=idsOf (l.take k)++[l[k].id]:=by
    unfold idsOf
    rw[<- List.take_append_getElem hkl,List.map_append]
    rfl
   rw[hput,wrapN (by omega),List.append_assoc,e]
  refine Cq.wp.yes (p:=(k:Int)<(l.length:Int)) (by omega) ?_
  refine⟨l[k],idxN hkl,?_⟩
  rw[Cq.Zd,if_neg (by omega),Cq.Zd,if_neg (by omega)]
  refine⟨hwf,?_⟩
  rw[hget,Cq.Zd,if_neg (by simp),Cq.Zd]
  split
  .rename_i h0
   obtain⟨i,rfl⟩:∃ i,k=i+1:=⟨k-1,by omega⟩
   have hi:i64.wrap (((i+1:Nat):Int)-1)=(i:Int):=by rw[wrap64 (by omega)]; omega
   rw[hi]
   have:=List.pairwise_iff_getElem.1 h.inc i (i+1) (by omega) hkl (by omega)
   refine⟨l[i],idxN (by omega),?_⟩
   rw[Cq.Zd,if_neg (by omega)]
   exact hk5
  exact hk5
 subst hs
 have hid:=h.ids _ (List.getElem_mem hj)
 refine Cq.wp.yes (p:=(j:Int)<(l.length:Int)) (by omega) ?_
 refine⟨l[j],idxN hj,?_⟩
 rw[Cq.Zd,if_neg (by omega),Cq.Zd,if_pos b1]
 rfl
theorem Zjc{s:Za}(h:GoodX s)(hn:1<=s.next/\s.next<=1000000){b:Bool}(hk:(ZaZ s).Ret b):(Z7 s).Ret b:=by
 have hv:=h.vars
 unfold Z7
 rw[if_neg (by omega),if_neg (by omega),if_neg (by omega)]
 show (Cq.next _ _).wp _
 refine Cq.Zk s.vars.length (fun k st=>st=((k:Int),nameKey (s.vars.take k))) (fun k st hk hs=>?_) (fun st hs=>?_) rfl
 .subst hs
  have hnew:s.vars[k] ∉ s.vars.take k:=fun hm=>by
   obtain⟨i,hi,e⟩:=List.mem_iff_getElem.1 hm
   simp only[List.length_take] at hi
   rw[List.getElem_take] at e
   exact List.pairwise_iff_getElem.1 h.diff i k (by omega) hk (by omega) e
  obtain⟨hput,hget⟩:=Zig hnew
  have hnm:=h.name _ (List.getElem_mem hk)
  have hsz:=Zkf hnm
  refine Cq.wp.yes (p:=(k:Int)<(s.vars.length:Int)) (by omega) ?_
  refine⟨s.vars[k],idxN hk,true,hnm ▸ Zgp _,by omega,?_⟩
  rw[hget,Cq.Zd,if_neg (by simp),hput]
  refine⟨⟨by omega,by simp[nameKey,small]; omega⟩,?_⟩
  show _=_
  rw[wrapN (by omega),List.take_append_getElem hk]
 subst hs
 refine Cq.wp.no (p:=((s.vars.length:Nat):Int)<(s.vars.length:Int)) (by omega) ?_
 exact hk
theorem ValidX{s:Za}(h:GoodX s):∃ b,(Z7 s).Ret b/\(ZaS s).Ret b/\(b=true->Good s):=by
 have hv:=h.vars
 by_cases hn:1<=s.next/\s.next<=1000000
 .by_cases he:∀ q ∈ s.eqs,q.id<s.next
  .by_cases hq:∀ q ∈ s.neqs,q.id<s.next
   .have hg:=h.good ⟨hn,he,hq⟩
    exact⟨true,Zbv hg,ZgF hg,fun _=>hg⟩
   refine⟨false,Zjc h hn ?_,?_,fun e=>by cases e⟩
   .have hle:=h.eqs.len
    have hln:=h.neqs.len
    show (Cq.next _ _).wp _
    refine Cq.Zk 1 (fun k st=>st=((k:Int),idKey (if k=0 then [] else idsOf s.eqs))) (fun k st hk hs=>?_) (fun st hs=>?_) rfl
    .subst hs
     have hk0:k=0:=by omega
     subst hk0
     refine⟨s.eqs,⟨by omega,rfl⟩,?_⟩
     rw[Cq.Zd,if_neg (by omega)]
     show (Cq.next _ _).wp _
     refine (Zgi hv hn.2 (h.eqs.ok he) (m:=[]) (fun _ _=>by simp) (by simp)).then ?_
     rfl
    subst hs
    refine⟨s.neqs,⟨by omega,rfl⟩,?_⟩
    rw[Cq.Zd,if_neg (by omega)]
    show (Cq.next _ _).wp _
    refine (ZjZ h.neqs (m:=idsOf s.eqs) (fun q hq hm=>?_) (by simp[idsOf]; omega) hq).then ?_
    .obtain⟨a,ha,e⟩:=List.mem_map.1 hm
     exact h.apart a ha q hq e
    rfl
   unfold ZaS
   rw[if_neg (by omega),if_neg (by omega),if_neg (by omega)]
   refine⟨true,ZiH hv (h.eqs.ok he),false,Zlf hv h.neqs hq,?_⟩
   exact Cq.wp.yes rfl rfl
  refine⟨false,Zjc h hn ?_,?_,fun e=>by cases e⟩
  .have hle:=h.eqs.len
   show (Cq.next _ _).wp _
   refine Cq.Zk 0 (fun k st=>st=((k:Int),idKey [])) (fun k st hk hs=>absurd hk (Nat.not_lt_zero k)) (fun st hs=>?_) rfl
   subst hs
   refine⟨s.eqs,⟨by omega,rfl⟩,?_⟩
   rw[Cq.Zd,if_neg (by omega)]
   show (Cq.next _ _).wp _
   refine (ZjZ h.eqs (m:=[]) (fun _ _=>by simp) (by simp) he).then ?_
   rfl
  unfold ZaS
  rw[if_neg (by omega),if_neg (by omega),if_neg (by omega)]
  exact⟨false,Zlf hv h.eqs he,rfl⟩
 refine⟨false,?_,?_,fun e=>by cases e⟩
 .unfold Z7
  rw[if_neg (by omega)]
  by_cases c:s.next<1
  .rw[if_pos c]; rfl
  rw[if_neg c,if_pos (by omega)]; rfl
 unfold ZaS
 rw[if_neg (by omega)]
 by_cases c:s.next<1
 .rw[if_pos c]; rfl
 rw[if_neg c,if_pos (by omega)]; rfl
theorem ZoH{α:Type}(l:List α)(x:α):(l++[x])[l.length]? = some x:=by rw[List.getElem?_append_right (Nat.le_refl _),Nat.sub_self]; rfl
def stepV(ss:List Za)(x:Zf):Option (List Za):=
 if (0<=x.parent/\x.parent<(ss.length:Int))/\(-1<=x.other/\x.other<(ss.length:Int))/\x.e.length<=64/\(allF (ss.getD x.parent.toNat zeroS) x.e 0).e=0 then some (ss++[(allF (ss.getD x.parent.toNat zeroS) x.e 0).s]) else none
def runV:List Za->List Zf->Option (List Za)
 | ss,[]=>some ss
 | ss,x::l=>match stepV ss x with|none=>none|some ts=>runV ts l
structure VersX (l:List Zf):Prop where
 len:l.length<=1000
 eds:∀ x ∈ l,x.e.length<=1000/\∀ e ∈ x.e,PolOk e.p/\KindOk e
theorem Zmr{root:Za}:∀ {l pre:List Zf}{ss ts:List Za},HistOk ⟨root,pre⟩ ss->(∀ x ∈ l,∀ e ∈ x.e,PolOk e.p/\KindOk e)->(pre++l).length<=200->runV ss l=some ts->HistOk ⟨root,pre++l⟩ ts
 | [],pre,ss,ts,h,_,_,hr=>by
  cases hr
  rw[List.append_nil]; exact h
 | x::l,pre,ss,ts,h,he,hl,hr=>by
  unfold runV stepV at hr
  by_cases c:(0<=x.parent/\x.parent<(ss.length:Int))/\(-1<=x.other/\x.other<(ss.length:Int))/\x.e.length<=64/\(allF (ss.getD x.parent.toNat zeroS) x.e 0).e=0
  .rw[if_pos c] at hr
   obtain⟨⟨p0,p1⟩,o,hlen,h0⟩:=c
   have hsl:ss.length=pre.length:=h.len
   obtain⟨n,hn⟩:∃ n:Nat,x.parent=n:=⟨x.parent.toNat,by omega⟩
   obtain⟨s,_,hs,_⟩:=h.at (v:=n) (show n<pre.length by omega)
   rw[hn,Int.toNat_natCast,getD_some hs] at h0 hr
   rw[List.length_append,List.length_cons] at hl
   have h2:=h.add (o:=x.other) hs (show pre.length<200 by omega) ⟨o.1,show x.other<(pre.length:Int) by omega⟩ hlen (he x List.mem_cons_self) h0
   have e:pre++x::l=(pre++[x])++l:=by simp
   have ex:(⟨(n:Int),x.other,x.e⟩:Zf)=x:=by rw[<- hn]
   rw[ex] at h2
   rw[e]
   exact Zmr h2 (fun y hy=>he y (List.mem_cons_of_mem _ hy)) (by rw[<- e,List.length_append,List.length_cons]; exact hl) hr
  rw[if_neg c] at hr
  cases hr
theorem Zaj{ss:List Za}{x:Zf}{l:List Zf}(h:¬ ((0<=x.parent/\x.parent<(ss.length:Int))/\(-1<=x.other/\x.other<(ss.length:Int))/\x.e.length<=64/\(allF (ss.getD x.parent.toNat zeroS) x.e 0).e=0)):runV ss (x::l)=none:=by
 unfold runV stepV
 rw[if_neg h]
theorem Zkj{ss:List Za}{x:Zf}{l:List Zf}(h:(0<=x.parent/\x.parent<(ss.length:Int))/\(-1<=x.other/\x.other<(ss.length:Int))/\x.e.length<=64/\(allF (ss.getD x.parent.toNat zeroS) x.e 0).e=0):runV ss (x::l)=runV (ss++[(allF (ss.getD x.parent.toNat zeroS) x.e 0).s]) l:=by
 show (match stepV ss x with|none=>none|some ts=>runV ts l)=_
 unfold stepV
 rw[if_pos h]
theorem SystemsX{h:Zg}(hv:VersX h.v)(hg:Good h.root):(Zb4 h).Ret (match runV [h.root] (h.v.drop 1) with|some ss=>(ss,true)|none=>([],false)):=by
 have hl:=hv.len
 show (Cq.next _ _).wp _
 refine Cq.Zk (h.v.length-1) (fun k st=>∃ out:List Za,st=(out,((k+1:Nat):Int))/\out.length=k+1/\(∀ s ∈ out,Good s)/\runV [h.root] (h.v.drop 1)=runV out (h.v.drop (k+1))) (fun k st hk hs=>?_) (fun st hs=>?_) ⟨[h.root],rfl,rfl,fun s hs=>by rw[List.mem_singleton] at hs; rw[hs]; exact hg,rfl⟩
 .obtain⟨out,rfl,ho,hgs,he⟩:=hs
  have hkl:k+1<h.v.length:=by omega
  obtain⟨x,hx⟩:∃ x,h.v[k+1]? = some x:=⟨_,List.getElem?_eq_getElem hkl⟩
  have hd:h.v.drop (k+1)=x::h.v.drop (k+2):=by
   rw[List.drop_eq_getElem_cons hkl]
   rw[List.getElem?_eq_getElem hkl] at hx
   rw[Option.some.inj hx]
  obtain⟨hxl,hxe⟩:=hv.eds x (List.mem_of_getElem? hx)
  rw[hd] at he
  rw[he]
  refine Cq.wp.yes (p:=((k+1:Nat):Int)<(h.v.length:Int)) (by omega) ?_
  refine⟨x,idxS hx,?_⟩
  rw[Cq.Zd]
  by_cases c1:x.parent<0
  .rw[if_pos c1,Zaj (fun h=>by omega)]; rfl
  rw[if_neg c1,Cq.Zd]
  by_cases c2:((k+1:Nat):Int)<=x.parent
  .rw[if_pos c2,Zaj (fun h=>by omega)]; rfl
  rw[if_neg c2,Cq.Zd]
  by_cases c3:x.other < -1
  .rw[if_pos c3,Zaj (fun h=>by omega)]; rfl
  rw[if_neg c3,Cq.Zd]
  by_cases c4:((k+1:Nat):Int)<=x.other
  .rw[if_pos c4,Zaj (fun h=>by omega)]; rfl
  rw[if_neg c4,Cq.Zd]
  by_cases c5:(64:Int)<(x.e.length:Int)
  .rw[if_pos c5,Zaj (fun h=>by omega)]; rfl
  rw[if_neg c5]
  obtain⟨s,hs⟩:∃ s,out[x.parent.toNat]? = some s:=⟨_,List.getElem?_eq_getElem (by omega)⟩
  have hsg:=hgs s (List.mem_of_getElem? hs)
  refine⟨s,⟨by omega,hs⟩,_,ZkK hxl (fun e he=>(hxe e he).1) hsg,?_⟩
  rw[Cq.Zd]
  by_cases c6:(allF s x.e 0).e=0
  .rw[if_neg (fun h=>h c6),Zkj ⟨by omega,by omega,by omega,by rw[getD_some hs]; exact c6⟩,getD_some hs]
   refine⟨by rw[List.length_append,List.length_singleton]; unfold small; omega,out++[(allF s x.e 0).s],?_,by rw[List.length_append,ho]; rfl,fun y hy=>?_,rfl⟩
   .show _=_
    rw[wrapN (by omega)]
   rcases List.mem_append.1 hy with hy|hy
   .exact hgs y hy
   rw[List.mem_singleton] at hy
   subst hy
   exact (ZhM (fun e he=>(hxe e he).1) hsg 0).2 c6
  rw[if_pos c6,Zaj (fun h=>c6 (by have:=h.2.2.2; rw[getD_some hs] at this; exact this))]; rfl
 obtain⟨out,rfl,ho,hgs,he⟩:=hs
 rw[he,List.drop_of_length_le (by omega)]
 refine Cq.wp.no (p:=((h.v.length-1+1:Nat):Int)<(h.v.length:Int)) (by omega) ?_
 rfl
theorem ValidVX{h:Zg}(hv:VersX h.v)(hg:Good h.root)(hl:1<=h.v.length)(hf:h.v[0]? = some ⟨-1,-1,[]⟩):(ZaM h).Ret (runV [h.root] (h.v.drop 1)).isSome:=by
 have hlen:=hv.len
 refine⟨by omega,?_⟩
 refine Cq.ZW ?_
 refine Cq.wp.yes (p:=(0:Int)<(h.v.length:Int)) (by omega) ?_
 refine⟨_,⟨by omega,hf⟩,?_⟩
 refine Cq.wp.yes rfl (Cq.wp.no (by decide) (Cq.wp.no (by decide) (Cq.wp.no (by decide) ⟨_,⟨by omega,List.getElem?_eq_getElem (by rw[List.length_replicate]; show (0:Int).toNat<_; rw[Int.toNat_natCast]; omega)⟩,?_⟩)))
 show (ZeT h _).wp _
 rw[show i64.wrap ((0:Int)+1)=((1:Nat):Int) from rfl]
 refine Cq.Zk (h.v.length-1) (fun k st=>∃ (A out:List Za),st=(A,((k+1:Nat):Int))/\A.length=h.v.length/\out.length=k+1/\(∀ j,j<k+1->A[j]? = out[j]?)/\(∀ s ∈ out,Good s)/\runV [h.root] (h.v.drop 1)=runV out (h.v.drop (k+1))) (fun k st hk hs=>?_) (fun st hs=>?_)
  ⟨_,[h.root],rfl,by rw[List.length_set,List.length_replicate,Int.toNat_natCast],rfl,fun j hj=>?_,fun s hs=>by rw[List.mem_singleton] at hs; rw[hs]; exact hg,rfl⟩
 .obtain⟨A,out,rfl,hA,ho,hAo,hgs,he⟩:=hs
  have hkl:k+1<h.v.length:=by omega
  obtain⟨x,hx⟩:∃ x,h.v[k+1]? = some x:=⟨_,List.getElem?_eq_getElem hkl⟩
  have hd:h.v.drop (k+1)=x::h.v.drop (k+2):=by
   rw[List.drop_eq_getElem_cons hkl]
   rw[List.getElem?_eq_getElem hkl] at hx
   rw[Option.some.inj hx]
  obtain⟨hxl,hxe⟩:=hv.eds x (List.mem_of_getElem? hx)
  rw[hd] at he
  rw[he]
  refine Cq.wp.yes (p:=((k+1:Nat):Int)<(h.v.length:Int)) (by omega) ?_
  refine⟨x,idxS hx,?_⟩
  rw[Cq.Zd,if_neg (by omega),Cq.Zd]
  by_cases c1:x.parent<0
  .rw[if_pos c1,Zaj (fun h=>by omega)]; rfl
  rw[if_neg c1,Cq.Zd]
  by_cases c2:((k+1:Nat):Int)<=x.parent
  .rw[if_pos c2,Zaj (fun h=>by omega)]; rfl
  rw[if_neg c2,Cq.Zd]
  by_cases c3:x.other < -1
  .rw[if_pos c3,Zaj (fun h=>by omega)]; rfl
  rw[if_neg c3,Cq.Zd]
  by_cases c4:((k+1:Nat):Int)<=x.other
  .rw[if_pos c4,Zaj (fun h=>by omega)]; rfl
  rw[if_neg c4,Cq.Zd]
  by_cases c5:(64:Int)<(x.e.length:Int)
  .rw[if_pos c5,Zaj (fun h=>by omega)]; rfl
  rw[if_neg c5]
  obtain⟨s,hs⟩:∃ s,out[x.parent.toNat]? = some s:=⟨_,List.getElem?_eq_getElem (by omega)⟩
  have hsg:=hgs s (List.mem_of_getElem? hs)
  refine⟨s,⟨by omega,by rw[hAo _ (by omega)]; exact hs⟩,_,ZhH hxl hxe hsg,?_⟩
  show (if ¬ (allF s x.e 0).e=0 then _ else _:Cq _).wp _
  rw[Cq.Zd]
  by_cases c6:(allF s x.e 0).e=0
  .rw[if_neg (fun h=>h c6),Zkj ⟨by omega,by omega,by omega,by rw[getD_some hs]; exact c6⟩,getD_some hs]
   refine⟨A[k+1],⟨by omega,List.getElem?_eq_getElem (by omega)⟩,A.set (k+1) (allF s x.e 0).s,out++[(allF s x.e 0).s],?_,by rw[List.length_set]; exact hA,by rw[List.length_append,ho]; rfl,fun j hj=>?_,fun y hy=>?_,rfl⟩
   .show _=_
    rw[wrapN (by omega),Int.toNat_natCast]
   .rw[Zek (by omega)]
    by_cases c7:k+1=j
    .subst c7
     rw[if_pos rfl,<- ho,ZoH]
    rw[if_neg c7,hAo j (by omega),List.getElem?_append_left (by omega)]
   rcases List.mem_append.1 hy with hy|hy
   .exact hgs y hy
   rw[List.mem_singleton] at hy
   subst hy
   exact (ZhM (fun e he=>(hxe e he).1) hsg 0).2 c6
  rw[if_pos c6,Zaj (fun h=>c6 (by have:=h.2.2.2; rw[getD_some hs] at this; exact this))]; rfl
 .obtain⟨A,out,rfl,hA,ho,hAo,hgs,he⟩:=hs
  rw[he,List.drop_of_length_le (by omega)]
  refine Cq.wp.no (p:=((h.v.length-1+1:Nat):Int)<(h.v.length:Int)) (by omega) ?_
  rfl
 have hj0:j=0:=by omega
 subst hj0
 rw[show (0:Int).toNat=0 from rfl,Zek (by rw[List.length_replicate,Int.toNat_natCast]; omega),if_pos rfl]; rfl
theorem ValidHX{h:Zg}(hg:GoodX h.root)(hv:VersX h.v):∃ b,(ZO h).Ret b/\(ZdI h).Ret b/\(b=true->∃ ss,HistOk h ss):=by
 have hlen:=hv.len
 obtain⟨b0,v1,v2,v3⟩:=ValidX hg
 cases b0 with
 | false=>exact⟨false,⟨_,v1,rfl⟩,⟨_,v2,rfl⟩,fun e=>by cases e⟩
 | true=>
  have hgood:=v3 rfl
  by_cases c1:h.v.length<1
  .exact⟨false,⟨_,v1,Cq.wp.yes (by omega) rfl⟩,⟨_,v2,Cq.wp.yes (by omega) rfl⟩,fun e=>by cases e⟩
  by_cases c2:200<h.v.length
  .exact⟨false,⟨_,v1,Cq.wp.no (by omega) (Cq.wp.yes (by omega) rfl)⟩,⟨_,v2,Cq.wp.no (by omega) (Cq.wp.yes (by omega) rfl)⟩,fun e=>by cases e⟩
  obtain⟨x,hx⟩:∃ x,h.v[0]? = some x:=⟨_,List.getElem?_eq_getElem (by omega)⟩
  have first:∀ {c:Cq Bool},(ZaM h).Ret false->(ZO h).Ret false:=fun {c} hk=>⟨_,v1,Cq.wp.no (by omega) (Cq.wp.no (by omega) hk)⟩
  have one:∀ (hk:(if ¬ x.parent=(-1) then (Cq.ret (.inr (.inl false)):Cq ((List Za×Int)⊕(Bool⊕Unit))) else (if ¬ x.other=(-1) then (Cq.ret (.inr (.inl false))) else (if 0<(x.e.length:Int) then (Cq.ret (.inr (.inl false))) else Cq.fail))).Ret (.inr (.inl false))),(ZaM h).Ret false:=fun hk=>by
   refine⟨by omega,Cq.ZW ?_⟩
   refine Cq.wp.yes (p:=(0:Int)<(h.v.length:Int)) (by omega) ?_
   refine⟨x,⟨by omega,hx⟩,Cq.wp.yes rfl ?_⟩
   by_cases d1:x.parent = -1
   .refine Cq.wp.no (fun k=>k d1) ?_
    have hk:=hk.neg (fun k=>k d1)
    by_cases d2:x.other = -1
    .refine Cq.wp.no (fun k=>k d2) ?_
     have hk:=hk.neg (fun k=>k d2)
     by_cases d3:0<(x.e.length:Int)
     .exact Cq.wp.yes d3 rfl
     exact (hk.neg d3).elim
    exact Cq.wp.yes d2 rfl
   exact Cq.wp.yes d1 rfl
  by_cases d1:x.parent = -1
  .by_cases d2:x.other = -1
   .by_cases d3:0<(x.e.length:Int)
    .refine⟨false,first (c:=Cq.fail) (one (Cq.wp.no (fun k=>k d1) (Cq.wp.no (fun k=>k d2) (Cq.wp.yes d3 rfl)))),⟨_,v2,Cq.wp.no (by omega) (Cq.wp.no (by omega) ⟨x,⟨by omega,hx⟩,Cq.wp.no (fun k=>k d1) ⟨x,⟨by omega,hx⟩,Cq.wp.no (fun k=>k d2) ⟨x,⟨by omega,hx⟩,Cq.wp.yes d3 rfl⟩⟩⟩)⟩,fun e=>by cases e⟩
    have hxe:x=⟨-1,-1,[]⟩:=by
     obtain⟨a,b,c⟩:=x
     have:c=[]:=List.length_eq_zero_iff.1 (by have:¬ 0<(c.length:Int):=d3; omega)
     have ha:a = -1:=d1
     have hb:b = -1:=d2
     rw[this,ha,hb]
    subst hxe
    refine⟨_,⟨_,v1,Cq.wp.no (by omega) (Cq.wp.no (by omega) (ValidVX hv hgood (by omega) hx))⟩,⟨_,v2,Cq.wp.no (by omega) (Cq.wp.no (by omega) ⟨_,⟨by omega,hx⟩,Cq.wp.no (by decide) ⟨_,⟨by omega,hx⟩,Cq.wp.no (by decide) ⟨_,⟨by omega,hx⟩,Cq.wp.no (by decide) ⟨_,SystemsX hv hgood,?_⟩⟩⟩⟩)⟩,fun e=>?_⟩
    .cases runV [h.root] (h.v.drop 1) <;> rfl
    cases hr:runV [h.root] (h.v.drop 1) with
    | none=>rw[hr] at e; cases e
    | some ts=>
     have hh:=Zmr (l:=h.v.drop 1) (pre:=[⟨-1,-1,[]⟩]) (ZiI hgood) (fun y hy=>(hv.eds y (List.mem_of_mem_drop hy)).2) (by rw[List.length_append,List.length_drop]; show 1+_<=200; omega) hr
     have e2:[(⟨-1,-1,[]⟩:Zf)]++h.v.drop 1=h.v:=by
      have h3:=List.take_append_drop 1 h.v
      rw[Zff hx] at h3
      exact h3
     rw[e2] at hh
     exact⟨ts,hh⟩
   refine⟨false,first (c:=Cq.fail) (one (Cq.wp.no (fun k=>k d1) (Cq.wp.yes d2 rfl))),⟨_,v2,Cq.wp.no (by omega) (Cq.wp.no (by omega) ⟨x,⟨by omega,hx⟩,Cq.wp.no (fun k=>k d1) ⟨x,⟨by omega,hx⟩,Cq.wp.yes d2 rfl⟩⟩)⟩,fun e=>by cases e⟩
  refine⟨false,first (c:=Cq.fail) (one (Cq.wp.yes d1 rfl)),⟨_,v2,Cq.wp.no (by omega) (Cq.wp.no (by omega) ⟨x,⟨by omega,hx⟩,Cq.wp.yes d1 rfl⟩)⟩,fun e=>by cases e⟩
end Go.EL

namespace Go.EL
open Go.IntKind (i8 i16 i32 i64 u8 u16 u32 u64)
open Go Go.RowKit
section
variable {h:Zg}{ss:List Za}
theorem HistOk.edits2(hh:HistOk h ss){v:Nat}{x:Zf}(hx:h.v[v]? = some x):x.e.length<=64/\∀ e ∈ x.e,PolOk e.p/\KindOk e:=by
 obtain⟨_,h2,h3,_⟩:=hh.version (ZcT hx)
 rw[Zgn hx] at h2 h3
 exact⟨h3,h2⟩
theorem HistOk.versX(hh:HistOk h ss):VersX h.v where
 len:=by have:=hh.bd; omega
 eds:=fun x hx=>by
  obtain⟨v,hv,rfl⟩:=List.mem_iff_getElem.1 hx
  obtain⟨h1,h2⟩:=hh.edits2 (List.getElem?_eq_getElem hv)
  exact⟨by omega,h2⟩
theorem ZlB(hh:HistOk h ss)(k n:Int){a:Int}(ha:0<=a/\a<=255):∃ g,(Zb6 h k a n).Ret g/\GoodX g.root/\VersX g.v/\g.v.length<=300:=by
 have hb:=hh.bd
 obtain⟨v,hv,hvl⟩:=Zp6 hh ha
 obtain⟨x,hx⟩:∃ x,h.v[v]? = some x:=⟨_,List.getElem?_eq_getElem hvl⟩
 have hvx:=hh.versX
 have hr:GoodX h.root:=hh.rootG.x h.root.next
 obtain⟨xl,xe⟩:=hh.edits2 hx
 have ix:=idxS hx
 have put:∀ y:Zf,(y.e.length<=1000/\∀ e ∈ y.e,PolOk e.p/\KindOk e)->VersX (h.v.set v y)/\(h.v.set v y).length<=300:=fun y hy=>⟨⟨by rw[List.length_set]; exact hvx.len,fun z hz=>(List.mem_or_eq_of_mem_set hz).elim (hvx.eds z) (fun e=>e ▸ hy)⟩,by rw[List.length_set]; omega⟩
 unfold Zb6
 rw[List.nil_append,hv]
 have hs:h.v.length<=small:=by unfold small; omega
 have h0:((h.v.length:Nat):Int)≠0:=by omega
 by_cases c1:Int.tmod k 8=1
 .exact⟨⟨h.root,h.v.set v ⟨n,x.other,x.e⟩⟩,⟨hs,h0,Cq.wp.yes c1 ⟨x,ix,rfl⟩⟩,hr,put _ ⟨by show x.e.length<=1000; omega,xe⟩⟩
 by_cases c2:Int.tmod k 8=2
 .exact⟨⟨h.root,h.v.set v ⟨x.parent,n,x.e⟩⟩,⟨hs,h0,Cq.wp.no c1 (Cq.wp.yes c2 ⟨x,ix,rfl⟩)⟩,hr,put _ ⟨by show x.e.length<=1000; omega,xe⟩⟩
 by_cases c3:Int.tmod k 8=3
 .have l1:(([]:List Zc)++x.e).length=x.e.length:=by rw[List.nil_append]
  have l2:∀ e:Zc,((([]:List Zc)++x.e)++[e]).length=x.e.length+1:=fun e=>by rw[List.nil_append,List.length_append]; rfl
  refine⟨⟨h.root,h.v.set v ⟨x.parent,x.other,(([]:List Zc)++x.e)++[(⟨Int.tmod n 10,Zr,0,0,1,[],false⟩:Zc)]⟩⟩,⟨hs,h0,Cq.wp.no c1 (Cq.wp.no c2 (Cq.wp.yes c3 ⟨x,ix,by rw[l1]; unfold small; omega,by rw[l2]; unfold small; omega,x,ix,rfl⟩))⟩,hr,put _ ⟨by show (([]++x.e)++_).length<=1000; rw[l2]; omega,fun e he=>?_⟩⟩
  rcases List.mem_append.1 he with he|he
  .exact xe e (by rw[List.nil_append] at he; exact he)
  rw[List.mem_singleton] at he
  subst he
  refine⟨Zb7,?_⟩
  show -1000<=Int.tmod n 10/\Int.tmod n 10<=1000
  have h1:(Int.tmod n 10).natAbs<10:=by rw[Int.natAbs_tmod]; exact Nat.mod_lt _ (by decide)
  omega
 by_cases c4:Int.tmod k 8=4
 .by_cases d:0<(x.e.length:Int)
  .refine⟨⟨h.root,h.v.set v ⟨x.parent,x.other,(x.e.take ((x.e.length:Nat):Int).toNat).drop (1:Int).toNat⟩⟩,⟨hs,h0,Cq.wp.no c1 (Cq.wp.no c2 (Cq.wp.no c3 (Cq.wp.yes c4 ⟨x,ix,Cq.wp.yes d ⟨x,ix,by omega,x,ix,rfl⟩⟩)))⟩,hr,put _ ⟨?_,fun e he=>xe e (List.mem_of_mem_take (List.mem_of_mem_drop he))⟩⟩
   show ((x.e.take _).drop _).length<=1000
   rw[List.length_drop,List.length_take]
   omega
  exact⟨⟨h.root,h.v⟩,⟨hs,h0,Cq.wp.no c1 (Cq.wp.no c2 (Cq.wp.no c3 (Cq.wp.yes c4 ⟨x,ix,Cq.wp.no d rfl⟩)))⟩,hr,hvx,by show h.v.length<=300; omega⟩
 by_cases c5:Int.tmod k 8=5
 .have hl:(h.v.take v++h.v.drop (v+1)).length<=300:=by rw[List.length_append,List.length_take,List.length_drop]; omega
  refine⟨⟨h.root,h.v.take v++h.v.drop (v+1)⟩,⟨hs,h0,Cq.wp.no c1 (Cq.wp.no c2 (Cq.wp.no c3 (Cq.wp.no c4 (Cq.wp.yes c5 ⟨by omega,rfl⟩))))⟩,hr,⟨by show (h.v.take v++h.v.drop (v+1)).length<=1000; omega,fun z hz=>?_⟩,hl⟩
  rcases List.mem_append.1 hz with hz|hz
  .exact hvx.eds z (List.mem_of_mem_take hz)
  exact hvx.eds z (List.mem_of_mem_drop hz)
 by_cases c6:Int.tmod k 8=6
 .exact⟨⟨⟨h.root.vars,h.root.eqs,h.root.neqs,n⟩,h.v⟩,⟨hs,h0,Cq.wp.no c1 (Cq.wp.no c2 (Cq.wp.no c3 (Cq.wp.no c4 (Cq.wp.no c5 (Cq.wp.yes c6 rfl)))))⟩,hh.rootG.x n,hvx,by show h.v.length<=300; omega⟩
 by_cases c7:Int.tmod k 8=7
 .have ht:=ZaC (a:=a) (b:=4) ha.1 (by decide)
  obtain⟨t,et⟩:∃ t:Nat,Int.tmod a 4=t:=⟨(Int.tmod a 4).toNat,by omega⟩
  have hw:i64.wrap (199+i64.wrap (Int.tmod a 4))=((199+t:Nat):Int):=by rw[wrap64 (x:=Int.tmod a 4) (by omega),wrap64 (by omega)]; omega
  have hl:∀ m,(h.v++List.replicate m (⟨0,-1,[]⟩:Zf)).length=h.v.length+m:=fun m=>by rw[List.length_append,List.length_replicate]
  refine⟨⟨h.root,h.v++List.replicate (199+t-h.v.length) ⟨0,-1,[]⟩⟩,⟨hs,h0,Cq.wp.no c1 (Cq.wp.no c2 (Cq.wp.no c3 (Cq.wp.no c4 (Cq.wp.no c5 (Cq.wp.no c6 (Cq.wp.yes c7 ?_))))))⟩,hr,⟨by rw[hl]; omega,fun z hz=>?_⟩,by rw[hl]; omega⟩
  .show (Cq.next _ _).wp _
   refine Cq.Zk (199+t-h.v.length) (fun k st=>st=(h.root,h.v++List.replicate k (⟨0,-1,[]⟩:Zf))) (fun k st hk hs=>?_) (fun st hs=>?_) (by rw[List.replicate_zero,List.append_nil])
   .subst hs
    show (if (((h.v++List.replicate k (⟨0,-1,[]⟩:Zf)).length:Nat):Int)<_ then _ else _:Cq _).wp _
    rw[hw,Cq.Zd,if_pos (by rw[hl]; omega)]
    refine⟨by rw[List.length_append,hl]; show _+1<=_; unfold small; omega,?_⟩
    show _=_
    rw[List.append_assoc,<- List.replicate_succ']
   subst hs
   show (if (((h.v++List.replicate _ (⟨0,-1,[]⟩:Zf)).length:Nat):Int)<_ then _ else _:Cq _).wp _
   rw[hw,Cq.Zd,if_neg (by rw[hl]; omega)]
   rfl
  rcases List.mem_append.1 hz with hz|hz
  .exact hvx.eds z hz
  rw[List.eq_of_mem_replicate hz]
  exact⟨by show 0<=1000; decide,fun e he=>absurd he List.not_mem_nil⟩
 exact⟨⟨h.root,h.v⟩,⟨hs,h0,Cq.wp.no c1 (Cq.wp.no c2 (Cq.wp.no c3 (Cq.wp.no c4 (Cq.wp.no c5 (Cq.wp.no c6 (Cq.wp.no c7 rfl))))))⟩,hr,hvx,by show h.v.length<=300; omega⟩
def edS:Zc:=⟨4,ByteArray.empty,0,0,0,[],false⟩
theorem ZnE(c:Nat):∀ e ∈ List.replicate c edS,PolOk e.p/\KindOk e:=fun e he=>by
 rw[List.eq_of_mem_replicate he]
 exact⟨Zb7,by decide,by decide⟩
theorem Zj6(s:Za):checkF s edS=if 0<s.vars.length then 0 else 330:=by
 unfold checkF
 rw[if_neg (by decide),if_neg (by decide),if_neg (by decide),if_pos (show edS.kind=4 from rfl)]
 unfold isV
 by_cases c:0<s.vars.length
 .have h1:(0:Int)<=0/\(0:Int)<(s.vars.length:Int):=⟨by decide,by omega⟩
  rw[if_pos c,if_pos ⟨decide_eq_true h1,decide_eq_true h1⟩]
 have h1:¬ ((0:Int)<=0/\(0:Int)<(s.vars.length:Int)):=by omega
 rw[if_neg c,if_neg (fun h=>h1 (of_decide_eq_true h.1))]
theorem Zmk:∀ (c k:Nat) {s:Za},0<s.vars.length->(allF s (List.replicate c edS) k).e=0
 | 0,_,_,_=>rfl
 | c+1,k,s,hs=>by
  show (if checkF s edS=0 then allF (doF s edS) (List.replicate c edS) (k+1) else _).e=0
  rw[Zj6,if_pos hs,if_pos rfl]
  refine Zmk c (k+1) ?_
  rw[doF4 rfl]
  show 0<(List.set (List.set s.vars _ _) _ _).length
  rw[List.length_set,List.length_set]
  exact hs
theorem Zpf{c:Nat}(hc:0<c){s:Za}(hs:¬ 0<s.vars.length):(allF s (List.replicate c edS) 0).e=330:=by
 obtain⟨d,rfl⟩:∃ d,c=d+1:=⟨c-1,by omega⟩
 show (if checkF s edS=0 then allF (doF s edS) (List.replicate d edS) 1 else ⟨zeroS,(0:Nat),checkF s edS⟩:Zx).e=330
 rw[Zj6,if_neg hs,if_neg (by decide)]
theorem Zn7{z:Fin 2->Int}(hz:0<=getF z 1/\getF z 1<=255):∃ c,(Zcy z ([],0)).Ret (List.replicate c edS)/\60<=c/\c<=67:=by
 have ht:=ZaC (a:=getF z 1) (b:=8) hz.1 (by decide)
 obtain⟨t,et⟩:∃ t:Nat,Int.tmod (getF z 1) 8=t:=⟨(Int.tmod (getF z 1) 8).toNat,by omega⟩
 have hw:i64.wrap (60+i64.wrap (Int.tmod (getF z 1) 8))=((60+t:Nat):Int):=by rw[wrap64 (x:=Int.tmod (getF z 1) 8) (by omega),wrap64 (by omega)]; omega
 refine⟨60+t,?_,by omega,by omega⟩
 refine Cq.Zk (60+t) (fun k st=>st=(List.replicate k edS,(k:Int))) (fun k st hk hs=>?_) (fun st hs=>?_) rfl
 .subst hs
  show (if (k:Int)<_ then _ else _:Cq _).wp _
  rw[hw,Cq.Zd,if_pos (by omega)]
  refine⟨by rw[List.length_append,List.length_replicate]; show _+1<=_; unfold small; omega,?_⟩
  show _=_
  rw[wrapN (by omega),List.replicate_succ']
  rfl
 subst hs
 show (if ((60+t:Nat):Int)<_ then _ else _:Cq _).wp _
 rw[hw,Cq.Zd,if_neg (by omega)]
 rfl
theorem Znj:(ZO ⟨⟨[],[],[],0⟩,[]⟩).Ret false:=by
 have hx:GoodX ⟨[],[],[],0⟩:=ZeM.x 0
 obtain⟨b,h1,_,h3⟩:=ValidX hx
 cases b with
 | true=>exact absurd (h3 rfl).next.1 (by decide)
 | false=>exact⟨_,h1,rfl⟩
theorem ZoT(hh:HistOk h ss)(hn:h.v.length<200){c:Nat}(c1:60<=c)(c2:c<=67):(Zba true h (List.replicate c edS) (h.root,0)).Ret true:=by
 have hl:(List.replicate c edS).length=c:=List.length_replicate
 refine⟨_,ZbQ hh 0 (by omega) (ZnE c),Cq.wp.yes rfl ?_⟩
 by_cases d:c<=64
 .refine Cq.wp.yes (by rw[hl]; omega) (Cq.wp.no (by rw[hl]; omega) ?_)
  have hroot:=hh.root
  by_cases hv:0<h.root.vars.length
  .have e:=Zeh (v:=0) hh hroot (-1) hn (l:=List.replicate c edS) (by omega) (Zmk c 0 hv)
   rw[show ((0:Nat):Int)=0 from rfl] at e
   rw[e]
   show decide (decide ((0:Int)=0)=decide (0<(h.root.vars.length:Int)))=true
   rw[decide_eq_true (show 0<(h.root.vars.length:Int) by omega)]; rfl
  have e0:=Zpf (c:=c) (by omega) hv
  have e:=Zop (v:=0) hh hroot (-1) hn (l:=List.replicate c edS) (by omega) (by rw[e0]; decide)
  rw[show ((0:Nat):Int)=0 from rfl,e0] at e
  rw[e]
  show decide (decide ((330:Int)=0)=decide (0<(h.root.vars.length:Int)))=true
  rw[decide_eq_false (show ¬ 0<(h.root.vars.length:Int) by omega)]; rfl
 refine Cq.wp.no (by rw[hl]; omega) ?_
 have e:addF h ss 0 (-1) (List.replicate c edS)=(zeroH,0,2):=by
  have hb:=hh.bd
  unfold addF
  rw[if_pos (by omega),if_pos (by omega)]
 rw[e]
 exact Cq.wp.yes rfl (Cq.wp.yes (by rw[hl]; omega) rfl)
end
theorem Ziu{x:ZF}{z:Fin 2->Int}{n:Int}(hx:HRawOk x)(hz:∀ i,0<=z i/\z i<=255)(_:-9223372036854775808<=n/\n<=9223372036854775807):(ZdK x z n).Ret true:=by
 obtain⟨h,ss,hm,hh,hlen⟩:=Znm hx (m:=6) (by decide)
 have z1:0<=getF z 1/\getF z 1<=255:=hz 1
 obtain⟨g,g1,g2,g3,g4⟩:=ZlB hh (getF z 0) n z1
 obtain⟨i,i1,i2,i3,i4⟩:=ZlB hh 1 0 (a:=1) (by decide)
 obtain⟨c,e1,e2,e3⟩:=Zn7 z1
 have hl:(List.replicate c edS).length=c:=List.length_replicate
 have hroot:=hh.root
 obtain⟨b,v1,v2,v3⟩:=ValidHX (h:=g) g2 g3
 have jv:VersX (i.v++[⟨0,-1,List.replicate c edS⟩]):=⟨by rw[List.length_append]; show _+1<=_; omega,fun y hy=>by
  rcases List.mem_append.1 hy with hy|hy
  .exact i3.eds y hy
  rw[List.mem_singleton] at hy
  subst hy
  exact⟨by show (List.replicate c edS).length<=1000; omega,ZnE c⟩⟩
 obtain⟨d,w1,w2,_⟩:=ValidHX (h:=⟨i.root,i.v++[⟨0,-1,List.replicate c edS⟩]⟩) i2 jv
 have k1:=ZoT hh (by omega) e2 e3
 refine⟨true,Zlx,Cq.wp.no (by decide) ⟨h,hm,g,g1,i,i1,?_⟩⟩
 show (Cq.next _ _).wp _
 refine e1.then ?_
 show (Zav true h g i (List.replicate c edS)).Ret true
 refine⟨_,Zgh hh 0,?_⟩
 have e0:=ZfT (v:=0) hroot
 rw[show ((0:Nat):Int)=0 from rfl] at e0
 rw[e0]
 refine⟨by rw[List.length_append]; show _+1<=_; unfold small; omega,b,v1,b,v2,Cq.wp.no (fun k=>k rfl) ⟨d,w1,d,w2,Cq.wp.no (fun k=>k rfl) ⟨false,Znj,Cq.wp.no (by decide) ⟨b,v2,?_⟩⟩⟩⟩
 cases b with
 | false=>exact Cq.wp.no (by decide) k1
 | true=>
  obtain⟨gs,hg⟩:=v3 rfl
  have hb:=hg.bd
  show (Zau true h g (List.replicate c edS) (h.root,0) (decide (199<=(g.v.length:Int)))).Ret true
  by_cases q:199<=(g.v.length:Int)
  .rw[decide_eq_true q]
   refine Cq.wp.yes rfl ⟨_,ZbQ hg 0 (l:=[]) (by decide) (fun e he=>absurd he List.not_mem_nil),?_⟩
   by_cases r:(g.v.length:Int)=200
   .have e:addF g gs 0 (-1) []=(zeroH,0,2):=by
     unfold addF
     rw[if_pos (by omega),if_pos (by omega)]
    rw[e]
    exact Cq.wp.yes r (Cq.wp.yes rfl (Cq.wp.yes rfl (Cq.wp.yes rfl rfl)))
   have e:=Zeh (v:=0) hg hg.root (-1) (l:=[]) (by omega) (by decide) rfl
   rw[show ((0:Nat):Int)=0 from rfl] at e
   rw[e]
   have gl:g.v.length=199:=by omega
   refine Cq.wp.no r (Cq.wp.yes rfl (Cq.wp.yes rfl (Cq.wp.yes (by show ((g.v.length:Nat):Int)=199; omega) ?_)))
   show decide ((((g.v++[_]).length:Nat):Int)=200)=true
   rw[List.length_append,gl]; rfl
  rw[decide_eq_false q]
  exact Cq.wp.no (by decide) k1
end Go.EL

