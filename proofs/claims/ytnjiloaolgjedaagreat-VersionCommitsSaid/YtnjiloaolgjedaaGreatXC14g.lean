/- The law VersionCommits holds for every input: a part of its proof (what the code does, plain models, and what they return). No condition. -/
import Derived.Test.YtnjiloaolgjedaaGreatXC14f
import Derived.Test.YtnjiloaolgjedaaGreatXC14d
set_option linter.unusedVariables false
set_option linter.unusedSimpArgs false
namespace Go.Proofs.YtnjiloaolgjedaaGreat
open Go.IntKind (i8 i16 i32 i64 u8 u16 u32 u64)
open Go.Proofs.Tryz
open Go Go.EL Go.RowKit Go.Proofs
theorem er'{d f s q n m j h F A r}(hr:(Z9 d f).Ret r):Ctr prog 55 #[.agg ((v31' d s q n m j h)).toArray,.agg ((v48' f F A)).toArray] (fun G=>sl Rp.str G s q d.vars/\sl b' G n m d.eqs/\sl b' G j h d.neqs/\sl K' G F A f.p) (w31t' r):=by
 refine E' (args:=[_,_]) (N:=157) func55 z z z (fun w0 G0 aa a7=>?_)
 obtain⟨g,l,k,I⟩:=a7
 refine sr<|af' 2 z z z fun b1=>af' 3 z z z fun b2=>V' 4 z z31 z fun b3=>sg z z<|nr<|yy (o' 2 at' z z z) z<|yy (o' 3 bO' z z z) z ?_
 obtain⟨c2,bi,hr⟩:=hr
 refine F' z z (t' E71 z) (fO' bi) z (⟨g,l,k,I⟩)<|sx0 z z<|n'<|sr<|mv z z<|yy (aw' z z) z<|nx<|L' hr z (fun bY hr=>?_) (fun bY hr=>?_)
 .refine sr<|yy (av' (vs:=#[]) (v:=.agg ([.slice none 0 0,.slice none 0 0,.slice none 0 0,i' 0]).toArray) z z (fun _=>by kernel_rfl)) z<|mv z z<|s' 4 z aV' z z z z z (List.all_eq_true.1 z)<|sx0 z z<|j'<|a' ?_
  obtain rfl:_=r:=hr
  exact aE' z (aa' (i:=4) at' z z z) z ⟨_,_,_,_,_,_,z,(W' Rp.str _),(W' b' _),(W' b' _)⟩
 refine q'<|g'<|sr<|yy (aH' z) z<|yy (f' 2 bC' z z z) z<|yy (M' H' g z) z<|sg z z<|nr<|yy (o' 2 at' z z z) z<|V' 8 z z31 z fun b4=>s' 8 z aV' z z z z z (List.all_eq_true.1 z)<|nr<|WL.litT (e:=9) (r:=Rp.str) (vs:=#[]) (cs:=[]) ([]:List ByteArray) 4021 z z z z z (by decide) (fun _=>by kernel_rfl) (z) fun p1 cP bD=>yy (aH' z) z<|yy (f' 2 bC' z z z) z ?_
 obtain⟨bc,hr⟩:=hr
 refine ct' (r:=Rp.str) (e:=9) 4021 z z H' el9 z (by decide) z z bD z g bc fun p2 ax cy af=>yy (aH' z) z<|aC' 8 ([.slice p2 ([]++d.vars).length ax,.slice n d.eqs.length m,.slice j d.neqs.length h,i' d.next]).toArray z sz28 z z z (show 0<4 by decide) z z<|nx<|n'<|sr<|yy (cA' z) z<|yy (f' 3 sc3 z z z) z<|nx<|B'<|sr<|yy (au' z z) z<|sx0 z z<|L' hr z (fun bR hr=>?_) (fun bR hr=>?_)
 .refine n'<|ah' [ff,ff,ff,ff,ff,ff,ff,ff,ff,ff,ff,ff,ff,ff,ff,ff] mix (by kernel_rfl) fun p=>dz' (r:=Rp.str) (e:=9) ([]:List ByteArray) (fun _=>z) z (by decide) (fun u o c t=>?_) ?_
  .exact⟨#[],[],z,z,fun _=>by kernel_rfl,z⟩
  refine cu (fun _ _ c=>aH' z)<|cu (fun _ _ c=>f' 2 bC' z z z)<|cu (fun _ _ c=>aJ' z)<|cu (fun _ _ c=>f' 3 sc3 z z z) ?_
  obtain⟨bM,hr⟩:=hr
  obtain⟨p3,b7,bZ,bS⟩:=SlR.cut (r:=Rp.str) none (some (i' f.at')) sz9 z H' g (.inl ⟨z,z⟩) (.inr ⟨_,z⟩) bM
  refine cu (fun _ _ c=>Y0.cutH H' bS z z) ?_
  obtain⟨bf,hr⟩:=hr
  refine bY' (r:=Rp.str) (e:=9) (kk:=33) (xs:=([]:List ByteArray)) ((d.vars.take f.at'.toNat).drop (0:Int).toNat) (fun _=>z) z (by kernel_rfl) (by kernel_rfl) H' el9 z (by decide) bf (fun u o c t=>?_) ?_
  .obtain⟨aP,_⟩:=(show (RowX Rp.str 9 33 ([]:List ByteArray)) (u 33) o/\True from t)
   exact⟨u 33,.slice p3 ((d.vars.take f.at'.toNat).drop (0:Int).toNat).length b7,aP,z,z,(bZ.mono c)⟩
  refine cu (fun _ _ c=>ca' z)<|cu (fun _ _ c=>f' 3 sc9 z z z)<|eE' (r:=Rp.str) (e:=9) ([f.name]:List ByteArray) (fun _=>z) z (by decide) (fun u o c t=>?_) ?_
  .exact⟨#[(0,.string f.name)],[.string f.name]++([]),z,z,fun _=>by kernel_rfl,⟨[.string f.name],[],z,z,z⟩⟩
  obtain⟨bo,hr⟩:=hr
  refine bY' (r:=Rp.str) (e:=9) (kk:=39) (xs:=(([]:List ByteArray)++((d.vars.take f.at'.toNat).drop (0:Int).toNat))) [f.name] (fun _=>z) z (by kernel_rfl) (by kernel_rfl) H' el9 z (by decide) bo (fun u o c t=>?_) ?_
  .obtain⟨⟨p4,ap,aQ,a4⟩,aK,_,_⟩:=(show (fun G v=>∃ p4 ap,v = .slice p4 1 1/\SlRd Rp.str G (.slice p4 1 1) ap [f.name]) o.m (u 42)/\(RowX Rp.str 9 39 (([]:List ByteArray)++((d.vars.take f.at'.toNat).drop (0:Int).toNat))) (u 39) o/\True/\True from t)
   exact⟨u 39,.slice p4 1 1,aK,z,(by simp only[undFr,eatO,List.map_cons,List.map_nil,aQ] <;> rfl),a4⟩
  refine cu (fun _ _ c=>aH' z)<|cu (fun _ _ c=>f' 2 bC' z z z)<|cu (fun _ _ c=>aJ' z)<|cu (fun _ _ c=>f' 3 sc3 z z z) ?_
  obtain⟨bF,hr⟩:=hr
  obtain⟨p5,c7,bH,b0⟩:=SlR.cut (r:=Rp.str) (some (i' f.at')) none sz9 z H' g (.inr ⟨_,z⟩) (.inl ⟨z,z⟩) bF
  refine cu (fun _ _ c=>Y0.cutL H' b0 z z)<|cn' (fun cA cN cz cv X1 L ai ag bC bB=>?_)
  obtain⟨p4,ap,rfl,a4⟩:=ag
  refine WL.adoptR ai (fun cR cO co bl bj cI=>?_)
  subst bl
  refine cf' (show WL _ _ _ _ _ _ (St w0 G0 X1.m _) from ?_)
  obtain⟨a9,hr⟩:=hr
  refine ct' (r:=Rp.str) (e:=9) 43 z z H' el9 z (by decide) z z bj z (bH.mono L) a9 fun p6 aq cL bP=>yy (aH' z) z<|aC' 8 ([.slice p6 (((([]:List ByteArray)++((d.vars.take f.at'.toNat).drop (0:Int).toNat))++[f.name])++((d.vars.take (d.vars.length:Int).toNat).drop f.at'.toNat)).length aq,.slice n d.eqs.length m,.slice j d.neqs.length h,i' d.next]).toArray z sz28 z z z (show 0<4 by decide) z z<|u'<|aq'<|g'<|n'<|ah' [ff,ff,ff,ff,ff,ff] mix (by kernel_rfl) fun p=>cn (fun _ c=>aY' z)<|cn (fun _ c=>f' 2 br' z z z)<|cn (fun _ c=>e' z)<|cn (fun _ c=>aJ' z)<|cn (fun _ c=>f' 3 sc3 z z z) ?_
  obtain⟨cV,bv,hr⟩:=hr
  refine bD' z (fun _=>t' E73 z) (dI' bv) z (fun o c=>trivial)<|R' p ?_
  obtain⟨aV,br,hr⟩:=hr
  refine P' z z (t' E72 z) (dK' br) z ((l.mono L)) (fun cH c3 Z aj=>?_)
  obtain⟨ak,ay,rfl,bn⟩:=aj
  refine yy (aY' z) z<|aC' 8 ([.slice p6 (((([]:List ByteArray)++((d.vars.take f.at'.toNat).drop (0:Int).toNat))++[f.name])++((d.vars.take (d.vars.length:Int).toNat).drop f.at'.toNat)).length aq,.slice ak aV.length ay,.slice j d.neqs.length h,i' d.next]).toArray z sz29 z z z (show 1<4 by decide) z z<|u'<|aq'<|g'<|ah' [ff,ff,ff,ff,ff,ff] mix (by kernel_rfl) fun p=>cn (fun _ c=>ba' z)<|cn (fun _ c=>f' 2 br' z z z)<|cn (fun _ c=>e' z)<|cn (fun _ c=>aJ' z)<|cn (fun _ c=>f' 3 sc3 z z z) ?_
  obtain⟨c1,bg,hr⟩:=hr
  refine bD' z (fun _=>t' E73 z) (dI' bg) z (fun o c=>trivial)<|R' p ?_
  obtain⟨b9,a6,hr⟩:=hr
  refine P' z z (t' E72 z) (dK' a6) z ((k.mono (mt L Z))) (fun cJ c6 ab ah=>?_)
  obtain⟨bx,bA,rfl,bk⟩:=ah
  refine yy (ba' z) z<|aC' 8 ([.slice p6 (((([]:List ByteArray)++((d.vars.take f.at'.toNat).drop (0:Int).toNat))++[f.name])++((d.vars.take (d.vars.length:Int).toNat).drop f.at'.toNat)).length aq,.slice ak aV.length ay,.slice bx b9.length bA,i' d.next]).toArray z sz29 z z z (show 2<4 by decide) z z<|u'<|aq'<|J'<|g'<|sr<|bn' (r:=Rp.str) (e:=9) 43 (bP.mono (mt Z ab)) z (by rw[aa]; rfl) fun c4 cW ad bm cd=>yy (o' 8 at' z z z) z<|s' 4 z aV' z z z z z (List.all_eq_true.1 z)<|sx0 z z<|j' ?_
  obtain rfl:_=r:=hr
  exact aE' z (aa' (i:=4) at' z z z) z ⟨_,_,_,_,_,_,z,bm,(bn.mono (mt ab ad)),(bk.mono ad)⟩
 refine sr<|yy (au' z z) z<|sx0 z z<|L' hr z (fun bG hr=>?_) (fun bG hr=>?_)
 .refine n'<|ah' [ff,ff,ff,ff,ff,ff,ff,ff,ff,ff,ff,ff,ff] mix (by kernel_rfl) fun p=>dz' (r:=Rp.str) (e:=9) ([]:List ByteArray) (fun _=>z) z (by decide) (fun u o c t=>?_) ?_
  .exact⟨#[],[],z,z,fun _=>by kernel_rfl,z⟩
  refine cu (fun _ _ c=>aH' z)<|cu (fun _ _ c=>f' 2 bC' z z z)<|cu (fun _ _ c=>aJ' z)<|cu (fun _ _ c=>f' 3 sc3 z z z) ?_
  obtain⟨bQ,hr⟩:=hr
  obtain⟨p7,bL,bW,bX⟩:=SlR.cut (r:=Rp.str) none (some (i' f.at')) sz9 z H' g (.inl ⟨z,z⟩) (.inr ⟨_,z⟩) bQ
  refine cu (fun _ _ c=>Y0.cutH H' bX z z) ?_
  obtain⟨bs,hr⟩:=hr
  refine bY' (r:=Rp.str) (e:=9) (kk:=69) (xs:=([]:List ByteArray)) ((d.vars.take f.at'.toNat).drop (0:Int).toNat) (fun _=>z) z (by kernel_rfl) (by kernel_rfl) H' el9 z (by decide) bs (fun u o c t=>?_) ?_
  .obtain⟨ar,_⟩:=(show (RowX Rp.str 9 69 ([]:List ByteArray)) (u 69) o/\True from t)
   exact⟨u 69,.slice p7 ((d.vars.take f.at'.toNat).drop (0:Int).toNat).length bL,ar,z,z,(bW.mono c)⟩
  refine cu (fun _ _ c=>aH' z)<|cu (fun _ _ c=>f' 2 bC' z z z)<|cu (fun _ _ c=>aJ' z)<|cu (fun _ _ c=>f' 3 sc3 z z z)<|cu (fun _ _ c=>X' z z) ?_
  obtain⟨b8,hr⟩:=hr
  obtain⟨p8,cS,cb,bE⟩:=SlR.cut (r:=Rp.str) (some (i' (i64.wrap (f.at'+1)))) none sz9 z H' g (.inr ⟨_,z⟩) (.inl ⟨z,z⟩) b8
  refine cu (fun _ _ c=>Y0.cutL H' bE z z)<|eg' fun cj cp X2 Q R a8=>WL.adoptR R (fun ch cl bK aL aF cr=>?_)
  subst aL
  refine cf' (show WL _ _ _ _ _ _ (St w0 G0 X2.m _) from ?_)
  obtain⟨bz,hr⟩:=hr
  refine ct' (r:=Rp.str) (e:=9) 75 z z H' el9 z (by decide) z z aF z (cb.mono Q) bz fun p9 aw cK ca=>yy (aH' z) z<|aC' 8 ([.slice p9 ((([]:List ByteArray)++((d.vars.take f.at'.toNat).drop (0:Int).toNat))++((d.vars.take (d.vars.length:Int).toNat).drop (i64.wrap (f.at'+1)).toNat)).length aw,.slice n d.eqs.length m,.slice j d.neqs.length h,i' d.next]).toArray z sz28 z z z (show 0<4 by decide) z z<|u'<|aq'<|g'<|n'<|ah' [ff,ff,ff,ff,ff,ff,ff] mix (by kernel_rfl) fun p=>cn (fun _ c=>aY' z)<|cn (fun _ c=>f' 2 br' z z z)<|cn (fun _ c=>aJ' z)<|cn (fun _ c=>f' 3 sc3 z z z)<|cn (fun _ c=>e' z)<|cn (fun _ c=>bj' z z) ?_
  obtain⟨cM,aO,hr⟩:=hr
  refine bD' z (fun _=>t' E73 z) (dI' aO) z (fun o c=>trivial)<|R' p ?_
  obtain⟨ao,aS,hr⟩:=hr
  refine P' z z (t' E72 z) (dK' aS) z ((l.mono Q)) (fun ck cZ T M=>?_)
  obtain⟨ae,ac,rfl,aD⟩:=M
  refine yy (aY' z) z<|aC' 8 ([.slice p9 ((([]:List ByteArray)++((d.vars.take f.at'.toNat).drop (0:Int).toNat))++((d.vars.take (d.vars.length:Int).toNat).drop (i64.wrap (f.at'+1)).toNat)).length aw,.slice ae ao.length ac,.slice j d.neqs.length h,i' d.next]).toArray z sz29 z z z (show 1<4 by decide) z z<|u'<|aq'<|g'<|ah' [ff,ff,ff,ff,ff,ff,ff] mix (by kernel_rfl) fun p=>cn (fun _ c=>ba' z)<|cn (fun _ c=>f' 2 br' z z z)<|cn (fun _ c=>aJ' z)<|cn (fun _ c=>f' 3 sc3 z z z)<|cn (fun _ c=>e' z)<|cn (fun _ c=>bj' z z) ?_
  obtain⟨cx,aA,hr⟩:=hr
  refine bD' z (fun _=>t' E73 z) (dI' aA) z (fun o c=>trivial)<|R' p ?_
  obtain⟨bq,az,hr⟩:=hr
  refine P' z z (t' E72 z) (dK' az) z ((k.mono (mt Q T))) (fun cm c0 Y K=>?_)
  obtain⟨aJ,aT,rfl,aB⟩:=K
  refine yy (ba' z) z<|aC' 8 ([.slice p9 ((([]:List ByteArray)++((d.vars.take f.at'.toNat).drop (0:Int).toNat))++((d.vars.take (d.vars.length:Int).toNat).drop (i64.wrap (f.at'+1)).toNat)).length aw,.slice ae ao.length ac,.slice aJ bq.length aT,i' d.next]).toArray z sz29 z z z (show 2<4 by decide) z z<|u'<|aq'<|J'<|g'<|sr<|bn' (r:=Rp.str) (e:=9) 75 (ca.mono (mt T Y)) z (by rw[aa]; rfl) fun cU c9 V bb cg=>yy (o' 8 at' z z z) z<|s' 4 z aV' z z z z z (List.all_eq_true.1 z)<|sx0 z z<|j' ?_
  obtain rfl:_=r:=hr
  exact aE' z (aa' (i:=4) at' z z z) z ⟨_,_,_,_,_,_,z,bb,(aD.mono (mt Y V)),(aB.mono V)⟩
 refine sr<|yy (au' z z) z<|sx0 z z<|L' hr z (fun bN hr=>?_) (fun bN hr=>?_)
 .refine A'<|yy (aH' z) z<|yy (f' 8 bC' z z z) z<|yy (aJ' z) z<|yy (f' 3 sc3 z z z) z<|yy (ca' z) z<|yy (f' 3 sc9 z z z) z ?_
  obtain⟨x1,a2,hr⟩:=hr
  refine yy (aP' H' sz9 af z z a2) z<|bx' (r:=Rp.str) (e:=9) (cs':=[.string f.name]) (i:=f.at') (z':=f.name) 4021 z sz9 z af z z z z z a2 fun da bw=>u'<|J'<|g'<|sr<|bn' (r:=Rp.str) (e:=9) 4021 bw z (by rw[aa]; rfl) fun c5 cT X al ce=>yy (o' 8 at' z z z) z<|s' 4 z aV' z z z z z (List.all_eq_true.1 z)<|sx0 z z<|j' ?_
  obtain rfl:_=r:=hr
  exact aE' z (aa' (i:=4) at' z z z) z ⟨_,_,_,_,_,_,(by rw[cH' al]),(cw' al),(l.mono X),(k.mono X)⟩
 refine sr<|yy (au' z z) z<|sx0 z z<|L' hr z (fun bT hr=>?_) (fun bT hr=>?_)
 .refine sr ?_
  obtain⟨y,aR,hr⟩:=hr
  refine F' z z (t' E73 z) (dI' aR) z (trivial)<|V' 9 z z119 z fun b5=>s' 9 z sz119 z z z (ac' _ _ _) (ac' _ _ _) (fun u t=>Rp.one (dw' .i64 8) (G:=G0) (x:=y) (cs:=vecG (Value.int .i64) 8 y) z u (by first|simpa using t|simpa [Value.cells] using t))<|nr<|yy (aJ' z) z<|yy (f' 3 sc3 z z z) z<|yy (cy' z) z<|yy (f' 3 sc3 z z z) z ?_
  obtain⟨bI,hr⟩:=hr
  refine yy (bi' be' sz3 z z bI) z<|aC' 9 (vecG (Value.int .i64) 8 (setF y f.at'.toNat f.to')).toArray z sz3 z z z (by first|(rw[ac']; omega)|(show _<(vecG _ _ _).toArray.size; rw[ac']; omega)) z (ci' _ _ _ _ _)<|nr<|yy (cy' z) z<|yy (f' 3 sc3 z z z) z<|yy (aJ' z) z<|yy (f' 3 sc3 z z z) z ?_
  obtain⟨b6,hr⟩:=hr
  refine yy (bi' be' sz3 z z b6) z<|aC' 9 (vecG (Value.int .i64) 8 (setF (setF y f.at'.toNat f.to') f.to'.toNat f.at')).toArray z sz3 z z z (by first|(rw[ac']; omega)|(show _<(vecG _ _ _).toArray.size; rw[ac']; omega)) z (ci' _ _ _ _ _)<|nx<|n'<|ah' [ff,ff,ff,ff,ff,ff,ff,ff,ff,ff] mix (by kernel_rfl) fun p=>cn (fun _ c=>aH' z)<|cn (fun _ c=>f' 8 bC' z z z)<|cn (fun _ c=>aJ' z)<|cn (fun _ c=>f' 3 sc3 z z z)<|cn (fun _ c=>aH' z)<|cn (fun _ c=>f' 2 bC' z z z)<|cn (fun _ c=>cy' z)<|cn (fun _ c=>f' 3 sc3 z z z) ?_
  obtain⟨x2,a1,hr⟩:=hr
  refine cn (fun _ c=>T' H' sz9 (g.mono c) z z a1)<|cn (fun _ c=>Z' sc9 z (cb' (I' (ae' g a1) c)))<|R' p ?_
  obtain⟨x3,a0,hr⟩:=hr
  refine yy (aP' H' sz9 af z z a0) z<|bx' (r:=Rp.str) (e:=9) (cs':=[.string x2]) (i:=f.at') (z':=x2) 4021 z sz9 z af z z z z z a0 fun c8 au=>u'<|aq'<|g'<|n'<|ah' [ff,ff,ff,ff,ff,ff,ff,ff,ff,ff] mix (by kernel_rfl) fun p=>cn (fun _ c=>aH' z)<|cn (fun _ c=>f' 8 bC' z z z)<|cn (fun _ c=>cy' z)<|cn (fun _ c=>f' 3 sc3 z z z)<|cn (fun _ c=>aH' z)<|cn (fun _ c=>f' 2 bC' z z z)<|cn (fun _ c=>aJ' z)<|cn (fun _ c=>f' 3 sc3 z z z) ?_
  obtain⟨x4,aY,hr⟩:=hr
  refine cn (fun _ c=>T' H' sz9 (g.mono c) z z aY)<|cn (fun _ c=>Z' sc9 z (cb' (I' (ae' g aY) c)))<|R' p ?_
  obtain⟨x5,aW,hr⟩:=hr
  refine yy (aP' H' sz9 au z z aW) z<|bx' (r:=Rp.str) (e:=9) (cs':=[.string x4]) (i:=f.to') (z':=x4) 4021 z sz9 z au z z z z z aW fun cX bu=>u'<|aq'<|g'<|sr<|yy (aY' z) z<|yy (f' 2 br' z z z) z<|yy (o' 9 ag119 z z (ac' _ _ _)) z ?_
  obtain⟨an,aM,hr⟩:=hr
  refine P' z z (t' E72 z) (dK' aM) z (l) (fun cf cQ H S=>?_)
  obtain⟨W,U,rfl,aG⟩:=S
  refine yy (aY' z) z<|aC' 8 ([.slice p2 ([]++d.vars).length ax,.slice W an.length U,.slice j d.neqs.length h,i' d.next]).toArray z sz29 z z z (show 1<4 by decide) z z<|nx<|A'<|yy (ba' z) z<|yy (f' 2 br' z z z) z<|yy (o' 9 ag119 z z (ac' _ _ _)) z ?_
  obtain⟨a5,aH,hr⟩:=hr
  refine P' z z (t' E72 z) (dK' aH) z ((k.mono H)) (fun cc cB C O=>?_)
  obtain⟨aE,aN,rfl,aC⟩:=O
  refine yy (ba' z) z<|aC' 8 ([.slice p2 ([]++d.vars).length ax,.slice W an.length U,.slice aE a5.length aN,i' d.next]).toArray z sz29 z z z (show 2<4 by decide) z z<|u'<|J'<|g'<|sr<|bn' (r:=Rp.str) (e:=9) 4021 (bu.mono (mt H C)) z (by rw[aa]; rfl) fun cY cF D am ci=>yy (o' 8 at' z z z) z<|s' 4 z aV' z z z z z (List.all_eq_true.1 z)<|sx0 z z<|j' ?_
  obtain rfl:_=r:=hr
  exact aE' z (aa' (i:=4) at' z z z) z ⟨_,_,_,_,_,_,(by rw[cH' am]),(cw' am),(aG.mono (mt C D)),(aC.mono D)⟩
 refine sr<|yy (o' 2 at' z z z) z<|yy (o' 3 bO' z z z) z ?_
 obtain⟨cE,aI,hr⟩:=hr
 refine P' z z (t' E74 z) (ge' aI) z (⟨g,l,k,I⟩) (fun cq cD bO J=>?_)
 obtain⟨aU,aX,be,bh,a3,aZ,rfl,E,P,B⟩:=J
 refine s' 4 z aV' z z z z z (List.all_eq_true.1 z)<|sx0 z z<|j'<|m'<|a' ?_
 obtain rfl:_=r:=hr
 exact aE' z (aa' (i:=4) at' z z z) z ⟨_,_,_,_,_,_,z,E,P,B⟩
theorem gV'{l1 V av ax r}(hr:(Zim l1 V).Ret r):Ctr prog 35 #[.slice av l1.length ax,i' V] (fun G=>sl cr' G av ax l1) (w31' r):=by
 refine E' (args:=[_,_]) (N:=36) func35 z z z (fun w0 G0 bh aO=>?_)
 have ar:=aO
 refine sr<|V' 4 z z31 z fun b1=>nr<|yy (av' (vs:=#[(3,i' 1)]) (v:=.agg ([.slice none 0 0,.slice none 0 0,.slice none 0 0,i' 1]).toArray) z z (fun _=>by kernel_rfl)) z<|V' 5 z z31 z fun b2=>s' 5 z aV' z z z z z (List.all_eq_true.1 z)<|nx<|n'<|sr<|sx0 z z<|am' (fun (⟨Q,A,t,D,C,y,s,S⟩:Za×Option Addr×Nat×Option Addr×Nat×Option Addr×Nat×Mem)=>[(4,pt0 b1),(5,pt0 b2)]) (fun ⟨Q,A,t,D,C,y,s,S⟩=>Mem.le G0 S/\sl Rp.str S A t Q.vars/\sl b' S D C Q.eqs/\sl b' S y s Q.neqs/\(Zft Q).Ret r) (fun ⟨Q,A,t,D,C,y,s,S⟩=>St w0 G0 S [(4,bk0 b1 ([.slice none 0 0,.slice none 0 0,.slice none 0 0,i' 0]) 31),(5,bk0 b2 (v31' Q A t D C y s) 31)]) ?_ ?_
 .refine B' ?_
  let aq:Za->Prop:=fun oo=>((fun ov=>match ov with|Q=>Zft Q:Za->Cq Za) oo).wp (fun a=>a=r)
  replace hr:(Cq.loop _ _).wp aq:=hr
  refine an' (Φ:=aq) (fun (⟨Y,L,l,e,n,m,g,k,P⟩:Int×Za×Option Addr×Nat×Option Addr×Nat×Option Addr×Nat×Mem)=>((Y,L):Int×Za)) (fun ⟨Y,L,l,e,n,m,g,k,P⟩=>[(0,.slice av l1.length ax),(1,i' V),(4,pt0 b1),(5,pt0 b2),(6,i' Y)]) (fun ⟨Y,L,l,e,n,m,g,k,P⟩=>Mem.le G0 P/\y31' P l e n m g k L) (fun ⟨Y,L,l,e,n,m,g,k,P⟩=>St w0 G0 P [(4,bk0 b1 ([.slice none 0 0,.slice none 0 0,.slice none 0 0,i' 0]) 31),(5,bk0 b2 (v31' L l e n m g k) 31)]) ⟨0,(Za.mk [] [] [] 1),none,0,none,0,none,0,G0⟩ hr (f5 z z z z z) ⟨mr,(W' _ _),(W' _ _),(W' _ _)⟩ (w2 z z) ?_
  .intro bg gx hx hr
   obtain⟨Y,L,l,e,n,m,g,k,P⟩:=gx
   obtain⟨I,q,E,x⟩:=hx
   refine n'<|sr<|mv z z<|mv z z<|yy (M' da' (ar.mono I) z) z<|ad' hr z (ai' z z) z (fun aW hr=>?_) (fun aW hr=>?_)
   .refine mv z z<|gy z z (e' z) z<|gy z z (e' z) z<|gy z z (ai' z z) z<|yy (h' z z) z<|nx<|L' hr z (fun a0 hr=>?_) (fun a0 hr=>?_)
    .refine q'<|g'<|n'<|B'<|n'<|ah' [ff,ff,ff,ff,ff,ff,ff,ff,ff,ff,tt,ff] mix (by kernel_rfl) fun hb=>cn (fun _ d=>o' 5 at' z z z)<|cn (fun _ d=>o' 5 at' z z z)<|cn (fun _ d=>e' z)<|cn (fun _ d=>e' z) ?_
     obtain⟨x1,aN,hr⟩:=hr
     refine cn (fun _ d=>T' da' sz54 ((ar.mono I).mono d) z z aN) ?_
     obtain⟨a3,a4,aX,aF⟩:=Zg2 (I' (ae' ar aN) I)
     refine cn (fun _ d=>aA' _ ag54 z z (fun j v hv=>d _ _ _ (aX j v hv))) ?_
     obtain⟨aJ,aR,hr⟩:=hr
     refine aX' (post:=w48' aJ) (fun _=>z) (fun _ _=>t' E19 z) (eY' aR) z (fun G' d=>⟨(q.mono d),(E.mono d),(x.mono d),(aF.mono d)⟩) (fun v G1 G2 d h=>?_) ?_
     .obtain⟨ag,aj,rfl,T⟩:=h
      exact⟨_,_,z,T.mono d⟩
     obtain⟨R,aU,hr⟩:=hr
     refine cD' (f:=55) (φ:=w31t' R) (fun _=>z) (fun v G1 G2 d h=>?_) (fun u G' d hu=>?_) ?_
     .obtain⟨K,J,M,O,H,F,rfl,p,B,o⟩:=h
      exact⟨_,_,_,_,_,_,z,p.mono d,B.mono d,o.mono d⟩
     .obtain⟨⟨ag,aj,aA,T⟩,_⟩:=(show (w48' aJ) G'.m (u 28)/\True from hu)
      exact⟨_,_,_,fun _=>t' E55 z,er' aU,(by simp only[aA] <;> rfl),⟨(q.mono d),(E.mono d),(x.mono d),T⟩⟩
     refine bm' (φ:=w31t' R) (fun _=>z) (fun v G1 G2 d h=>?_) (fun u G' d hu=>?_) ?_
     .obtain⟨p1,af,p2,ai,p3,ah,rfl,X,ab,Z⟩:=h
      exact⟨_,_,_,_,_,_,z,X.mono d,ab.mono d,Z.mono d⟩
     .obtain⟨⟨K,J,M,O,H,F,aH,p,B,o⟩,_,_⟩:=(show (w31t' R) G'.m (u 29)/\True/\True from hu)
      simp only[undFr,aH]
      exact⟨_,e' z,K,J,M,O,H,F,z,p,B,o⟩
     refine bm' (φ:=w31' R.1) (fun _=>z) (fun v G1 G2 d h=>?_) (fun u G' d hu=>?_) ?_
     .obtain⟨p4,aK,p5,aM,p6,aL,rfl,az,au,ay⟩:=h
      exact⟨_,_,_,_,_,_,z,az.mono d,au.mono d,ay.mono d⟩
     .obtain⟨⟨p1,af,p2,ai,p3,ah,W,X,ab,Z⟩,_,_,_⟩:=(show (w31t' R) G'.m (u 21)/\True/\True/\True from hu)
      simp only[undFr,W]
      exact⟨_,y' z z,p1,af,p2,ai,p3,ah,z,X,ab,Z⟩
     refine bv' (c:=i' R.2) (fun _=>z) (fun u G' d hu=>?_) ?_
     .obtain⟨_,⟨p1,af,p2,ai,p3,ah,W,X,ab,Z⟩,_,_,_⟩:=(show True/\(w31t' R) G'.m (u 21)/\True/\True/\True from hu)
      simp only[undFr,W]
      exact y' z z
     refine bE' (fun _=>z) z31<|ei' (fun bf bd a7 a6 a8 X1 U aw al ap ak ao=>?_)
     obtain⟨b3,rfl,aQ⟩:=aw
     obtain⟨p4,aK,p5,aM,p6,aL,rfl,az,au,ay⟩:=al
     obtain⟨p1,af,p2,ai,p3,ah,rfl,X,ab,Z⟩:=ap
     obtain⟨K,J,M,O,H,F,rfl,p,B,o⟩:=ak
     obtain⟨ag,aj,rfl,T⟩:=ao
     refine cu' aQ (cf' (show WL _ _ _ _ _ _ (St w0 G0 X1.m _) from ?_))
     refine s' 7 z aV' z z z z z (List.all_eq_true.1 z)<|sg z z<|u'<|aq'<|g'<|sr<|mv z z<|yy (au' z z) z<|nx<|L' hr z (fun aY hr=>?_) (fun aY hr=>?_)
     .refine A'<|yy (o' 7 at' z z z) z<|s' 5 z aV' z z z z z (List.all_eq_true.1 z)<|u'<|J'<|g'<|A'<|mv z z<|yy (X' z z) z<|sg z z<|u'<|Y' ⟨i64.wrap (Y+1),R.1,p4,aK,p5,aM,p6,aL,X1.m⟩ hr ⟨(mt I U),az,au,ay⟩ (f5 z z z z z) (w2 z z)
     refine q'<|J'<|g'<|A'<|mv z z<|yy (X' z z) z<|sg z z<|u'<|Y' ⟨i64.wrap (Y+1),L,l,e,n,m,g,k,X1.m⟩ hr ⟨(mt I U),(q.mono U),(E.mono U),(x.mono U)⟩ (f5 z z z z z) (w2 z z)
    refine ao'<|r'<|r'<|O'<|ap' ⟨L,l,e,n,m,g,k,P⟩ ⟨I,q,E,x,hr⟩ (f2 z z) (w2 z z)
   refine mv z z<|sn3 z<|yy (l' z z) z<|nx<|bb' z<|ao'<|r'<|r'<|O'<|ap' ⟨L,l,e,n,m,g,k,P⟩ ⟨I,q,E,x,hr⟩ (f2 z z) (w2 z z)
 rintro⟨Q,A,t,D,C,y,s,S⟩ ⟨a5,ad,am,ac,hr⟩
 refine g'<|sr<|yy (o' 5 at' z z z) z<|s' 4 z aV' z z z z z (List.all_eq_true.1 z)<|nx<|j' ?_
 obtain rfl:_=r:=hr
 exact k' z (aa' (i:=4) at' z z z) ⟨_,_,_,_,_,_,z,ad,am,ac⟩
theorem fw'{g l e d r}(hr:(Zd3 g l).Ret r):Ctr prog 69 #[.slice e g.length d,i' l] (fun G=>sl K' G e d g) (fun G v=>v = .bool r):=by
 refine E' (args:=[_,_]) (N:=21) func69 z z z (fun s t p h=>?_)
 have c:=h
 refine sr<|sg z z<|nr<|mv z z ?_
 obtain⟨k,i,hr⟩:=hr
 refine F' z z (t' E94 z) (fN' i) z (c) ?_
 cases k
 .refine mv z z<|sn3 z<|yy (l' z z) z<|mv z z<|sn7 z<|yy (l' z z) z<|sx0 z z<|j' (k0' hr z z)
 refine mv z z<|gy z z (e' z) z ?_
 obtain⟨q,j,hr⟩:=hr
 refine F' (v' z z) z (t' E95 z) (fv' j) z (c)<|ad' hr (v' z z) (bN' z z) z (fun m hr=>?_) (fun m hr=>?_)
 .refine yy (h' z z) z<|mv z z<|gy z z (e' z) z ?_
  obtain⟨o,f,hr⟩:=hr
  refine F' (v' z z) z (t' E96 z) (eF' f) z (c)<|gy z z (aN' aQ' aB' z) z<|gy z z (e' z) z<|gy z z (aN' aB' dQ' z) z ?_
  obtain⟨n,hr⟩:=hr
  refine gy z z (Y0.shl z z n) z<|gy z z (ai' z z) z<|yy (h' z z) z<|sx0 z z<|j' (k0' hr z z)
 refine yy (h' z z) z<|mv z z<|sn7 z<|yy (l' z z) z<|sx0 z z<|j' (k0' hr z z)
theorem gf'{p A g m o r}(hr:(Zes p A g).Ret r):Ctr prog 53 #[.slice m p.length o,i' A,i' g] (fun G=>sl b' G m o p) (fun G v=>v = .bool r):=by
 refine E' (args:=[_,_,_]) (N:=60) func53 z z z (fun J n aa B=>?_)
 have e:=B
 refine sr<|sx0 z z<|n'<|sr<|mv z z<|yy (M' w' e z) z<|yy (bh' z z) z<|nx<|L' hr z (fun P hr=>?_) (fun P hr=>?_)
 .exact (show False from hr).elim
 refine q'<|g'<|n'<|sr<|sx0 z z<|am' (fun (j:Mem)=>match j with|i=>[]) (fun (j:Mem)=>match j with|i=>Mem.le n i/\(Zfs).Ret r) (fun (j:Mem)=>match j with|i=>St J n i []) ?_ ?_
 .refine B' ?_
  let k:(Bool⊕Unit)->Prop:=fun V=>((fun U=>match U with | .inl rv1=>Cq.ret rv1 | .inr ()=>Zfs:(Bool⊕Unit)->Cq Bool) V).wp (fun a=>a=r)
  replace hr:(Cq.loop _ _).wp k:=hr
  refine an' (Φ:=k) (fun (⟨h,f⟩:Int×Mem)=>(h:Int)) (fun ⟨h,f⟩=>[(0,.slice m p.length o),(1,i' A),(2,i' g),(7,i' h)]) (fun ⟨h,f⟩=>Mem.le n f) (fun ⟨h,f⟩=>St J n f []) ⟨0,n⟩ hr (f4 z z z z) mr (wk ln) ?_
  .intro Y j W hr
   obtain⟨h,f⟩:=j
   have d:=W
   refine n'<|sr<|mv z z<|mv z z<|yy (M' w' (e.mono d) z) z<|yy (ai' z z) z<|nx<|L' hr z (fun F hr=>?_) (fun F hr=>?_)
   .refine q'<|g'<|n'<|B'<|n'<|ah' [ff,ff,ff,ff,ff,ff,ff,ff,ff,ff,ff,ff,ff,ff,ff,ff,ff,ff,ff,ff,ff,ff,ff,ff,ff,ff,ff,ff,ff,ff,ff,ff,ff,ff,ff,ff,ff,ff,ff,ff] mix (by kernel_rfl) fun l=>cn (fun _ c=>e' z)<|cn (fun _ c=>e' z) ?_
    obtain⟨x1,q,hr⟩:=hr
    refine cn (fun _ c=>T' w' aT' ((e.mono d).mono c) z z q)<|cn (fun _ c=>bo' z)<|cn (fun _ c=>Z' sc3 z (aF' (I' (I' (aW' (ay' (ae' e q))) d) c)))<|bz' hr z (fun _ c=>ai' z z) (fun L hr=>?_) (fun L hr=>?_)
    .refine cn (fun _ c=>e' z)<|cf z z<|cf z z<|cf z z<|cf z z<|cf z z<|cf z z<|cf z z<|cn (fun _ c=>h' z z)<|cn (fun _ c=>e' z)<|cf z z<|cf z z<|cf z z<|cs z z<|cs z z<|cs z z<|cs z z<|cs z z<|cs z z<|cs z z<|cs z z<|cs z z<|cs z z<|cs z z<|cs z z<|cf z z<|cn (fun _ c=>h' z z)<|cn (fun _ c=>e' z)<|cf z z<|cf z z<|cf z z<|cf z z<|cf z z<|cf z z<|R' l<|sn2 z<|yy (h' z z) z<|u'<|aq'<|g'<|U' z<|sr<|sx0 z z<|j'<|m'<|a'<|a'<|m'<|ag'<|a' (k0' hr z z)
    refine cn (fun _ c=>e' z)<|cy z z (fun _ c=>e' z)<|cy z z (fun _ c=>e' z) ?_
    obtain⟨x2,t,hr⟩:=hr
    refine cy z z (fun _ c=>T' w' aT' ((e.mono d).mono c) z z t)<|cy z z (fun _ c=>bo' z)<|cy z z (fun _ c=>Z' sc3 z (aF' (I' (I' (aW' (ay' (ae' e t))) d) c)))<|cy z z (fun _ c=>e' z)<|bz' hr (v' z z) (fun _ c=>bf' z z) (fun I hr=>?_) (fun I hr=>?_)
    .refine cn (fun _ c=>l' z z)<|cn (fun _ c=>e' z)<|cf z z<|cf z z<|cf z z<|cs z z<|cs z z<|cs z z<|cs z z<|cs z z<|cs z z<|cs z z<|cs z z<|cs z z<|cs z z<|cs z z<|cs z z<|cf z z<|cn (fun _ c=>h' z z)<|cn (fun _ c=>e' z)<|cf z z<|cf z z<|cf z z<|cf z z<|cf z z<|cf z z<|R' l<|sn2 z<|yy (h' z z) z<|u'<|aq'<|g'<|U' z<|sr<|sx0 z z<|j'<|m'<|a'<|a'<|m'<|ag'<|a' (k0' hr z z)
    refine cn (fun _ c=>l' z z)<|cn (fun _ c=>e' z)<|cy z z (fun _ c=>e' z)<|bz' hr (v' z z) (fun _ c=>bh' z z) (fun K hr=>?_) (fun K hr=>?_)
    .refine cy z z (fun _ c=>e' z)<|cy z z (fun _ c=>e' z)<|cy z z (fun _ c=>e' z)<|cy z z (fun _ c=>bj' z z) ?_
     obtain⟨x3,s,hr⟩:=hr
     refine cy z z (fun _ c=>T' w' aT' ((e.mono d).mono c) z z s)<|cy z z (fun _ c=>bo' z)<|cy z z (fun _ c=>Z' sc3 z (aF' (I' (I' (aW' (ay' (ae' e s))) d) c)))<|cy z z (fun _ c=>e' z)<|cy z z (fun _ c=>e' z) ?_
     obtain⟨x4,u,hr⟩:=hr
     refine cy z z (fun _ c=>T' w' aT' ((e.mono d).mono c) z z u)<|cy z z (fun _ c=>bo' z)<|cy z z (fun _ c=>Z' sc3 z (aF' (I' (I' (aW' (ay' (ae' e u))) d) c)))<|bz' hr (v' z z) (fun _ c=>bf' z z) (fun Q hr=>?_) (fun Q hr=>?_)
     .refine cy z z (fun _ c=>h' z z)<|cn (fun _ c=>l' z z)<|cn (fun _ c=>e' z)<|cf z z<|cf z z<|cf z z<|cf z z<|cf z z<|cf z z<|R' l<|sn2 z<|yy (h' z z) z<|u'<|aq'<|g'<|U' z<|sr<|sx0 z z<|j'<|m'<|a'<|a'<|m'<|ag'<|a' (k0' hr z z)
     refine cy z z (fun _ c=>h' z z)<|cn (fun _ c=>l' z z)<|cn (fun _ c=>e' z)<|cy z z (fun _ c=>e' z)<|cy z z (fun _ c=>e' z) ?_
     obtain⟨x5,x,hr⟩:=hr
     refine cy z z (fun _ c=>T' w' aT' ((e.mono d).mono c) z z x)<|cy z z (fun _ c=>bX' z) ?_
     obtain⟨p1,ab,O,E⟩:=bF' (I' (ax' (ay' (ae' e x))) d)
     refine cy z z (fun _ c=>Z' cF' z (c _ _ _ O))<|cy z z (fun _ c=>e' z)<|R' l ?_
     obtain⟨X,C,hr⟩:=hr
     refine F' (v' z z) z (t' E69 z) (fw' C) z (E)<|gy z z (al' z) z<|yy (l' z z) z<|u'<|aq'<|g'<|aL' hr z (fun H hr=>?_) (fun H hr=>?_)
     .exact (show False from hr).elim
     refine q'<|J'<|g'<|A'<|mv z z<|yy (X' z z) z<|sg z z<|u'<|Y' ⟨i64.wrap (h+1),f⟩ hr d (f4 z z z z) (wk ln)
    refine cy z z (fun _ c=>e' z)<|ct z z<|ct z z<|ct z z<|ct z z<|ct z z<|ct z z<|ct z z<|ct z z<|ct z z<|ct z z<|ct z z<|ct z z<|cy z z (fun _ c=>l' z z)<|cn (fun _ c=>l' z z)<|cn (fun _ c=>e' z)<|cy z z (fun _ c=>e' z)<|cy z z (fun _ c=>e' z) ?_
    obtain⟨x6,y,hr⟩:=hr
    refine cy z z (fun _ c=>T' w' aT' ((e.mono d).mono c) z z y)<|cy z z (fun _ c=>bX' z) ?_
    obtain⟨p2,Z,S,R⟩:=bF' (I' (ax' (ay' (ae' e y))) d)
    refine cy z z (fun _ c=>Z' cF' z (c _ _ _ S))<|cy z z (fun _ c=>e' z)<|R' l ?_
    obtain⟨ac,D,hr⟩:=hr
    refine F' (v' z z) z (t' E69 z) (fw' D) z (R)<|gy z z (al' z) z<|yy (l' z z) z<|u'<|aq'<|g'<|aL' hr z (fun M hr=>?_) (fun M hr=>?_)
    .exact (show False from hr).elim
    refine q'<|J'<|g'<|A'<|mv z z<|yy (X' z z) z<|sg z z<|u'<|Y' ⟨i64.wrap (h+1),f⟩ hr d (f4 z z z z) (wk ln)
   refine ao'<|r'<|r'<|O'<|ap' f ⟨d,hr⟩ fn (wk ln)
 rintro i ⟨T,hr⟩
 refine g'<|sr<|sx0 z z<|j' (k0' hr z z)
theorem es'{g f c j i e d r}(hr:(ZdD g).Ret r):Ctr prog 27 #[.agg ((v31' g f c j i e d)).toArray] (fun G=>y31' G f c j i e d g) (fun G v=>v = .bool r):=by
 refine E' (args:=[_]) (N:=96) func27 z z z (fun Q K aD ag=>?_)
 obtain⟨l,t,p⟩:=ag
 refine sr<|af' 1 z z z fun A=>sg z z<|nr<|yy (aH' z) z<|yy (f' 1 bC' z z z) z<|yy (M' H' l z) z<|sx0 z z<|aM' (fun (k:Mem)=>match k with|J=>[(1,pt0 A),(3,i' (g.vars.length:Int))]) (fun (k:Mem)=>match k with|J=>Mem.le K J/\(ZgS g).Ret r) (fun (k:Mem)=>match k with|J=>St Q K J [(1,bk0 A (v31' g f c j i e d) 31)]) ?_ ?_
 .refine sr<|mv z z<|ad' hr z (bh' z z) z (fun am hr=>?_) (fun am hr=>?_)
  .refine mv z z<|sn3 z<|yy (h' z z) z<|mv z z<|sn3 z<|yy (h' z z) z<|mv z z<|sn7 z<|yy (h' z z) z<|mv z z<|sn7 z<|yy (h' z z) z<|nx<|U' z<|sr<|sx0 z z<|j'<|a' (k0' hr z z)
  refine mv z z<|gy z z (bw' z) z<|gy z z (f' 1 sc3 z z z) z<|ad' hr (v' z z) (ai' z z) z (fun ax hr=>?_) (fun ax hr=>?_)
  .refine yy (l' z z) z<|mv z z<|sn3 z<|yy (h' z z) z<|mv z z<|sn7 z<|yy (h' z z) z<|mv z z<|sn7 z<|yy (h' z z) z<|nx<|U' z<|sr<|sx0 z z<|j'<|a' (k0' hr z z)
  refine yy (l' z z) z<|mv z z<|gy z z (bw' z) z<|gy z z (f' 1 sc3 z z z) z<|ad' hr (v' z z) (bh' z z) z (fun au hr=>?_) (fun au hr=>?_)
  .refine yy (l' z z) z<|mv z z<|sn7 z<|yy (h' z z) z<|mv z z<|sn7 z<|yy (h' z z) z<|nx<|U' z<|sr<|sx0 z z<|j'<|a' (k0' hr z z)
  refine yy (l' z z) z<|mv z z<|gy z z (aY' z) z<|gy z z (f' 1 br' z z z) z<|gy z z (e' z) z<|gy z z (bw' z) z<|gy z z (f' 1 sc3 z z z) z ?_
  obtain⟨ap,ai,hr⟩:=hr
  refine F' (v' z z) z (t' E53 z) (gf' ai) z (t) ?_
  cases ap
  .refine gy z z (al' z) z<|yy (l' z z) z<|mv z z<|sn7 z<|yy (h' z z) z<|nx<|U' z<|sr<|sx0 z z<|j'<|a' (k0' hr z z)
  refine gy z z (al' z) z<|yy (l' z z) z<|mv z z<|gy z z (ba' z) z<|gy z z (f' 1 br' z z z) z<|gy z z (e' z) z<|gy z z (bw' z) z<|gy z z (f' 1 sc3 z z z) z ?_
  obtain⟨aC,ak,hr⟩:=hr
  refine F' (v' z z) z (t' E53 z) (gf' ak) z (p)<|gy z z (al' z) z<|yy (l' z z) z<|nx<|aL' hr z (fun ay hr=>?_) (fun ay hr=>?_)
  .exact (show False from hr).elim
  refine q'<|ar' K ⟨mr,hr⟩ (f2 z z) (w1 z)
 rintro J ⟨m,hr⟩
 refine n'<|sr<|sx0 z z<|am' (fun (k:Mem)=>match k with|I=>[(1,pt0 A)]) (fun (k:Mem)=>match k with|I=>Mem.le J I/\(ZcE g).Ret r) (fun (k:Mem)=>match k with|I=>St Q K I [(1,bk0 A (v31' g f c j i e d) 31)]) ?_ ?_
 .refine B' ?_
  let R:(Bool⊕Unit)->Prop:=fun V=>((fun T=>match T with | .inl rv3=>Cq.ret rv3 | .inr ()=>ZcE g:(Bool⊕Unit)->Cq Bool) V).wp (fun a=>a=r)
  replace hr:(Cq.loop _ _).wp R:=hr
  refine an' (Φ:=R) (fun (⟨n,C⟩:Int×Mem)=>(n:Int)) (fun ⟨n,C⟩=>[(1,pt0 A),(3,i' (g.vars.length:Int)),(4,i' n)]) (fun ⟨n,C⟩=>Mem.le J C) (fun ⟨n,C⟩=>St Q K C [(1,bk0 A (v31' g f c j i e d) 31)]) ⟨0,J⟩ hr (f3 z z z) mr (w1 z) ?_
  .intro aa k U hr
   obtain⟨n,C⟩:=k
   have s:=U
   refine n'<|sr<|mv z z<|mv z z<|yy (ai' z z) z<|nx<|L' hr z (fun ao hr=>?_) (fun ao hr=>?_)
   .refine q'<|g'<|n'<|B'<|n'<|sr<|sx0 z z<|am' (fun (k:Mem)=>match k with|M=>[(1,pt0 A),(3,i' (g.vars.length:Int)),(4,i' n)]) (fun (k:Mem)=>match k with|M=>Mem.le C M/\(ZcF g n).wp (Out aa R)) (fun (k:Mem)=>match k with|M=>St Q K M [(1,bk0 A (v31' g f c j i e d) 31)]) ?_ ?_
    .refine B' ?_
     let X:(Bool⊕Unit)->Prop:=fun V=>((fun T=>match T with | .inl rv4=>Cq.ret (.inr (.inl rv4)) | .inr ()=>ZcF g n:(Bool⊕Unit)->Cq (Int⊕(Bool⊕Unit))) V).wp (Out aa R)
     replace hr:(Cq.loop _ _).wp X:=hr
     refine an' (Φ:=X) (fun (⟨E,H⟩:Int×Mem)=>(E:Int)) (fun ⟨E,H⟩=>[(1,pt0 A),(3,i' (g.vars.length:Int)),(4,i' n),(5,i' E)]) (fun ⟨E,H⟩=>Mem.le C H) (fun ⟨E,H⟩=>St Q K H [(1,bk0 A (v31' g f c j i e d) 31)]) ⟨0,C⟩ hr (f4 z z z z) mr (w1 z) ?_
     .intro aA k U hr
      obtain⟨E,H⟩:=k
      have y:=U
      refine n'<|sr<|mv z z<|mv z z<|yy (ai' z z) z<|nx<|L' hr z (fun aw hr=>?_) (fun aw hr=>?_)
      .refine q'<|g'<|n'<|B'<|n'<|ah' [ff,ff,ff,ff,ff,ff,ff,ff,ff,ff] mix (by kernel_rfl) fun hb=>cn (fun _ h=>aH' z)<|cn (fun _ h=>f' 1 bC' z z z)<|cn (fun _ h=>e' z) ?_
       obtain⟨x4,ab,hr⟩:=hr
       refine cn (fun _ h=>T' H' sz9 ((l.mono (mt (mt m s) y)).mono h) z z ab)<|cn (fun _ h=>Z' sc9 z (cb' (I' (I' (ae' l ab) (mt (mt m s) y)) h)))<|cn (fun _ h=>aH' z)<|cn (fun _ h=>f' 1 bC' z z z)<|cn (fun _ h=>e' z) ?_
       obtain⟨x5,Z,hr⟩:=hr
       refine cn (fun _ h=>T' H' sz9 ((l.mono (mt (mt m s) y)).mono h) z z Z)<|cn (fun _ h=>Z' sc9 z (cb' (I' (I' (ae' l Z) (mt (mt m s) y)) h)))<|R' hb<|yy (Y0.eqlS bl' z z) z<|u'<|aq'<|g'<|L' hr z (fun an hr=>?_) (fun an hr=>?_)
       .exact (show False from hr).elim
       refine q'<|J'<|g'<|A'<|mv z z<|yy (X' z z) z<|sg z z<|u'<|Y' ⟨i64.wrap (E+1),H⟩ hr y (f4 z z z z) (w1 z)
      refine ao'<|r'<|r'<|O'<|ap' H ⟨y,hr⟩ (f3 z z z) (w1 z)
    rintro M ⟨P,hr⟩
    refine g'<|sr<|yy (aH' z) z<|yy (f' 1 bC' z z z) z<|mv z z ?_
    obtain⟨x3,ac,hr⟩:=hr
    refine yy (T' H' sz9 (l.mono (mt (mt m s) P)) z z ac) z<|yy (Z' sc9 z (cb' (I' (ae' l ac) (mt (mt m s) P)))) z ?_
    obtain⟨aB,ah,hr⟩:=hr
    refine F' z z (t' E54 z) (eZ' ah) z (trivial)<|yy (al' z) z<|nx<|aL' hr z (fun ar hr=>?_) (fun ar hr=>?_)
    .exact (show False from hr).elim
    refine q'<|J'<|g'<|A'<|mv z z<|yy (X' z z) z<|sg z z<|u'<|Y' ⟨i64.wrap (n+1),M⟩ hr (mt s P) (f3 z z z) (w1 z)
   refine ao'<|r'<|r'<|O'<|ap' C ⟨s,hr⟩ (f1 z) (w1 z)
 rintro I ⟨x,hr⟩
 refine g'<|n'<|sr<|sx0 z z<|am' (fun (k:Mem)=>match k with|S=>[]) (fun (k:Mem)=>match k with|S=>Mem.le I S/\(Zeq).Ret r) (fun (k:Mem)=>match k with|S=>St Q K S []) ?_ ?_
 .refine B' ?_
  let O:(Bool⊕Unit)->Prop:=fun V=>((fun T=>match T with | .inl rv1=>Cq.ret rv1 | .inr ()=>Zeq:(Bool⊕Unit)->Cq Bool) V).wp (fun a=>a=r)
  replace hr:(Cq.loop _ _).wp O:=hr
  refine an' (Φ:=O) (fun (⟨o,B⟩:Int×Mem)=>(o:Int)) (fun ⟨o,B⟩=>[(1,pt0 A),(6,i' o)]) (fun ⟨o,B⟩=>Mem.le I B) (fun ⟨o,B⟩=>St Q K B [(1,bk0 A (v31' g f c j i e d) 31)]) ⟨0,I⟩ hr (f2 z z) mr (w1 z) ?_
  .intro ae k U hr
   obtain⟨o,B⟩:=k
   have q:=U
   refine n'<|sr<|mv z z<|yy (aY' z) z<|yy (f' 1 br' z z z) z<|yy (M' w' (t.mono (mt (mt m x) q)) z) z<|yy (ai' z z) z<|nx<|L' hr z (fun av hr=>?_) (fun av hr=>?_)
   .refine q'<|g'<|n'<|B'<|sr<|sx0 z z<|am' (fun (k:Mem)=>match k with|L=>[(1,pt0 A),(6,i' o)]) (fun (k:Mem)=>match k with|L=>Mem.le B L/\(Zer o).wp (Out ae O)) (fun (k:Mem)=>match k with|L=>St Q K L [(1,bk0 A (v31' g f c j i e d) 31)]) ?_ ?_
    .refine B' ?_
     let W:(Bool⊕Unit)->Prop:=fun V=>((fun T=>match T with | .inl rv2=>Cq.ret (.inr (.inl rv2)) | .inr ()=>Zer o:(Bool⊕Unit)->Cq (Int⊕(Bool⊕Unit))) V).wp (Out ae O)
     replace hr:(Cq.loop _ _).wp W:=hr
     refine an' (Φ:=W) (fun (⟨D,F⟩:Int×Mem)=>(D:Int)) (fun ⟨D,F⟩=>[(1,pt0 A),(6,i' o),(7,i' D)]) (fun ⟨D,F⟩=>Mem.le B F) (fun ⟨D,F⟩=>St Q K F [(1,bk0 A (v31' g f c j i e d) 31)]) ⟨0,B⟩ hr (f3 z z z) mr (w1 z) ?_
     .intro aE k U hr
      obtain⟨D,F⟩:=k
      have u:=U
      refine n'<|sr<|mv z z<|yy (ba' z) z<|yy (f' 1 br' z z z) z<|yy (M' w' (p.mono (mt (mt (mt m x) q) u)) z) z<|yy (ai' z z) z<|nx<|L' hr z (fun aq hr=>?_) (fun aq hr=>?_)
      .refine q'<|g'<|n'<|B'<|n'<|ah' [ff,ff,ff,ff,ff,ff,ff,ff,ff,ff,ff,ff] mix (by kernel_rfl) fun hb=>cn (fun _ h=>aY' z)<|cn (fun _ h=>f' 1 br' z z z)<|cn (fun _ h=>e' z) ?_
       obtain⟨x1,af,hr⟩:=hr
       refine cn (fun _ h=>T' w' aT' ((t.mono (mt (mt (mt m x) q) u)).mono h) z z af)<|cn (fun _ h=>bo' z)<|cn (fun _ h=>Z' sc3 z (aF' (I' (I' (aW' (ay' (ae' t af))) (mt (mt (mt m x) q) u)) h)))<|cn (fun _ h=>ba' z)<|cn (fun _ h=>f' 1 br' z z z)<|cn (fun _ h=>e' z) ?_
       obtain⟨x2,ad,hr⟩:=hr
       refine cn (fun _ h=>T' w' aT' ((p.mono (mt (mt (mt m x) q) u)).mono h) z z ad)<|cn (fun _ h=>bo' z)<|cn (fun _ h=>Z' sc3 z (aF' (I' (I' (aW' (ay' (ae' p ad))) (mt (mt (mt m x) q) u)) h)))<|R' hb<|yy (au' z z) z<|u'<|aq'<|g'<|L' hr z (fun al hr=>?_) (fun al hr=>?_)
       .exact (show False from hr).elim
       refine q'<|J'<|g'<|A'<|mv z z<|yy (X' z z) z<|sg z z<|u'<|Y' ⟨i64.wrap (D+1),F⟩ hr u (f3 z z z) (w1 z)
      refine ao'<|r'<|r'<|O'<|ap' F ⟨u,hr⟩ (f2 z z) (w1 z)
    rintro L ⟨Y,hr⟩
    refine J'<|g'<|A'<|mv z z<|yy (X' z z) z<|sg z z<|u'<|Y' ⟨i64.wrap (o+1),L⟩ hr (mt q Y) (f2 z z) (w1 z)
   refine ao'<|r'<|r'<|O'<|ap' B ⟨q,hr⟩ fn (wk ln)
 rintro S ⟨az,hr⟩
 refine g'<|sr<|sx0 z z<|j' (k0' hr z z)
theorem hg'{k d c h j f g r}(hr:(ZjH k).Ret r):Ctr prog 34 #[.agg ((v31' k d c h j f g)).toArray] (fun G=>y31' G d c h j f g k) (w34t' r):=by
 refine E' (args:=[_]) (N:=12) func34 z z z (fun C E u p=>?_)
 obtain⟨l,o,m⟩:=p
 refine sr<|af' 1 z z z fun B=>V' 2 z z34 z fun D=>sx0 z z<|n'<|sr<|yy (o' 1 at' z z z) z ?_
 obtain⟨y,q,hr⟩:=hr
 refine F' z z (t' E27 z) (es' q) z (⟨l,o,m⟩)<|yy (al' z) z<|nx<|aL' hr z (fun x hr=>?_) (fun x hr=>?_)
 .refine sr<|yy (av' (vs:=#[]) (v:=.agg ([.slice none 0 0,.slice none 0 0,.slice none 0 0,i' 0,.slice none 0 0]).toArray) z z (fun _=>by kernel_rfl)) z<|s' 2 z bH' z z z z z (List.all_eq_true.1 z)<|sx0 z z<|j'<|a' ?_
  obtain rfl:_=r:=hr
  exact aE' z (aa' (i:=2) aG' z z z) z ⟨_,_,_,_,_,_,_,_,z,(W' Rp.str _),(W' b' _),(W' b' _),(W' Q' _)⟩
 refine q'<|g'<|sr<|yy (o' 1 at' z z z) z<|yy (av' (vs:=#[(0,i' (-1)),(1,i' (-1))]) (v:=.agg ([i' (-1),i' (-1),.slice none 0 0]).toArray) z z (fun _=>by kernel_rfl)) z<|bd' (e:=63) (r:=Q') (vs:=#[(0,.agg ([i' (-1),i' (-1),.slice none 0 0]).toArray)]) (cs:=[i' (-1),i' (-1),.slice none 0 0]++([])) ([(Zh.mk (-1) (-1) [])]:List Zh) z z z z z (by decide) (fun _=>by kernel_rfl) ⟨[i' (-1),i' (-1),.slice none 0 0],[],z,⟨[i' (-1)],[i' (-1),.slice none 0 0],z,z,⟨[i' (-1)],[.slice none 0 0],z,z,⟨_,z,(W' _ _)⟩⟩⟩,z⟩ (key:=999) z (by rw[u]; rfl) fun t A n s=>yy (av' (vs:=#[(0,.agg ((v31' k d c h j f g)).toArray),(1,.slice t 1 1)]) (v:=.agg ([.slice d k.vars.length c,.slice h k.eqs.length j,.slice f k.neqs.length g,i' k.next,.slice t 1 1]).toArray) z z (fun _=>by kernel_rfl)) z<|s' 2 z bH' z z z z z (List.all_eq_true.1 z)<|sx0 z z<|j' ?_
 obtain rfl:_=r:=hr
 exact aE' z (aa' (i:=2) aG' z z z) z ⟨_,_,_,_,_,_,_,_,z,(l.mono n),(o.mono n),(m.mono n),s⟩
theorem ed'{i s e f g h c d j k r}(hr:(ZhG i s).Ret r):Ctr prog 40 #[.agg ((v34' i e f g h c d j k)).toArray,i' s] (fun G=>y34' G e f g h c d j k i) (fun G v=>v = .bool r):=by
 refine E' (args:=[_,_]) (N:=14) func40 z z z (fun x y t p=>?_)
 obtain⟨m,n,l,o⟩:=p
 refine sr<|af' 2 z z z fun u=>sg z z<|nr<|mv z z<|ad' hr z (bf' z z) z (fun q hr=>?_) (fun q hr=>?_)
 .refine mv z z<|gy z z (e' z) z<|gy z z (aj' z) z<|gy z z (f' 2 bc' z z z) z<|gy z z (M' D' o z) z<|gy z z (ai' z z) z<|yy (h' z z) z<|sx0 z z<|j' (k0' hr z z)
 refine mv z z<|sn5 z<|yy (l' z z) z<|sx0 z z<|j' (k0' hr z z)
theorem fb'{s1 l1 ac ae ak am ad af aC aD r}(hr:(ZfT s1 l1).Ret r):Ctr prog 30 #[.agg ((v31' s1 ac ae ak am ad af)).toArray,.slice aC l1.length aD] (fun G=>sl Rp.str G ac ae s1.vars/\sl b' G ak am s1.eqs/\sl b' G ad af s1.neqs/\sl ab' G aC aD l1) (w72' r):=by
 refine E' (args:=[_,_]) (N:=33) func30 z z z (fun w0 G0 bB a9=>?_)
 obtain⟨aG,aR,aO,aA⟩:=a9
 refine sr<|af' 2 z z z fun b1=>V' 4 z z72 z fun b2=>nx<|n'<|sr<|sx0 z z<|am' (fun (⟨L,x,q,D,B,t,n,ag,I,F,M,O,E,H,Y⟩:Za×Option Addr×Nat×Option Addr×Nat×Option Addr×Nat×Zu×Option Addr×Nat×Option Addr×Nat×Option Addr×Nat×Mem)=>[(1,.slice aC l1.length aD),(2,pt0 b1),(4,pt0 b2)]) (fun ⟨L,x,q,D,B,t,n,ag,I,F,M,O,E,H,Y⟩=>Mem.le G0 Y/\sl Rp.str Y x q L.vars/\sl b' Y D B L.eqs/\sl b' Y t n L.neqs/\sl Rp.str Y I F ag.s.vars/\sl b' Y M O ag.s.eqs/\sl b' Y E H ag.s.neqs/\(ZgT l1 L).Ret r) (fun ⟨L,x,q,D,B,t,n,ag,I,F,M,O,E,H,Y⟩=>St w0 G0 Y [(2,bk0 b1 (v31' L x q D B t n) 31),(4,bk0 b2 (v72' ag I F M O E H) 72)]) ?_ ?_
 .refine B' ?_
  let aP:(Zu⊕(Za×Zu))->Prop:=fun oo=>((fun ov=>match ov with | .inl rv1=>Cq.ret rv1 | .inr (L,ag)=>ZgT l1 L:(Zu⊕(Za×Zu))->Cq Zu) oo).wp (fun a=>a=r)
  replace hr:(Cq.loop _ _).wp aP:=hr
  refine an' (Φ:=aP) (fun (⟨i1,Z,y,s,A,C,o,p,W,f,g,m,l,k,d,Q⟩:Int×Za×Option Addr×Nat×Option Addr×Nat×Option Addr×Nat×Zu×Option Addr×Nat×Option Addr×Nat×Option Addr×Nat×Mem)=>((i1,Z,W):Int×Za×Zu)) (fun ⟨i1,Z,y,s,A,C,o,p,W,f,g,m,l,k,d,Q⟩=>[(1,.slice aC l1.length aD),(2,pt0 b1),(4,pt0 b2),(5,i' i1)]) (fun ⟨i1,Z,y,s,A,C,o,p,W,f,g,m,l,k,d,Q⟩=>Mem.le G0 Q/\sl Rp.str Q y s Z.vars/\sl b' Q A C Z.eqs/\sl b' Q o p Z.neqs/\y31' Q f g m l k d W.s) (fun ⟨i1,Z,y,s,A,C,o,p,W,f,g,m,l,k,d,Q⟩=>St w0 G0 Q [(2,bk0 b1 (v31' Z y s A C o p) 31),(4,bk0 b2 (v72' W f g m l k d) 72)]) ⟨0,s1,ac,ae,ak,am,ad,af,(Zu.mk (Za.mk [] [] [] 0) 0 0),none,0,none,0,none,0,G0⟩ hr (f4 z z z z) ⟨mr,aG,aR,aO,(W' _ _),(W' _ _),(W' _ _)⟩ (w2 z z) ?_
  .intro bA gx hx hr
   obtain⟨i1,Z,y,s,A,C,o,p,W,f,g,m,l,k,d,Q⟩:=gx
   obtain⟨ab,an,ao,aj,ah,al,ai⟩:=hx
   refine n'<|sr<|mv z z<|mv z z<|yy (M' as' (aA.mono ab) z) z<|yy (ai' z z) z<|nx<|L' hr z (fun bk hr=>?_) (fun bk hr=>?_)
   .refine q'<|g'<|n'<|B'<|n'<|ah' [ff,ff,ff,ff,ff,ff,ff,ff,tt,ff] mix (by kernel_rfl) fun hb=>cn (fun _ e=>o' 2 at' z z z)<|cn (fun _ e=>e' z)<|cn (fun _ e=>e' z) ?_
    obtain⟨x1,a8,hr⟩:=hr
    refine cn (fun _ e=>T' as' cd' ((aA.mono ab).mono e) z z a8) ?_
    obtain⟨bo,bu,bg,bd⟩:=de' (I' (ae' aA a8) ab)
    refine cn (fun _ e=>aA' _ bO' z z (fun j v hv=>e _ _ _ (bg j v hv))) ?_
    obtain⟨aa,bb,hr⟩:=hr
    refine aX' (post:=w31t' aa) (fun _=>z) (fun _ _=>t' E55 z) (er' bb) z (fun G' e=>⟨(an.mono e),(ao.mono e),(aj.mono e),(bd.mono e)⟩) (fun v G1 G2 e h=>?_) ?_
    .obtain⟨U,R,V,X,T,S,rfl,J,P,K⟩:=h
     exact⟨_,_,_,_,_,_,z,J.mono e,P.mono e,K.mono e⟩
    refine bm' (φ:=w31t' aa) (fun _=>z) (fun v G1 G2 e h=>?_) (fun u G' e hu=>?_) ?_
    .obtain⟨p1,aB,p2,aF,p3,aE,rfl,av,ax,aw⟩:=h
     exact⟨_,_,_,_,_,_,z,av.mono e,ax.mono e,aw.mono e⟩
    .obtain⟨⟨U,R,V,X,T,S,aW,J,P,K⟩,_⟩:=(show (w31t' aa) G'.m (u 20)/\True from hu)
     simp only[undFr,aW]
     exact⟨_,e' z,U,R,V,X,T,S,z,J,P,K⟩
    refine bm' (φ:=w31' aa.1) (fun _=>z) (fun v G1 G2 e h=>?_) (fun u G' e hu=>?_) ?_
    .obtain⟨p4,a5,p5,a7,p6,a6,rfl,aV,aQ,aU⟩:=h
     exact⟨_,_,_,_,_,_,z,aV.mono e,aQ.mono e,aU.mono e⟩
    .obtain⟨⟨p1,aB,p2,aF,p3,aE,au,av,ax,aw⟩,_,_⟩:=(show (w31t' aa) G'.m (u 14)/\True/\True from hu)
     simp only[undFr,au]
     exact⟨_,y' z z,p1,aB,p2,aF,p3,aE,z,av,ax,aw⟩
    refine bv' (c:=i' aa.2) (fun _=>z) (fun u G' e hu=>?_) ?_
    .obtain⟨_,⟨p1,aB,p2,aF,p3,aE,au,av,ax,aw⟩,_,_⟩:=(show True/\(w31t' aa) G'.m (u 14)/\True/\True from hu)
     simp only[undFr,au]
     exact y' z z
    refine bE' (fun _=>z) z31<|cn' (fun bz bq bp br X1 aq aS aN aH aM=>?_)
    obtain⟨b3,rfl,ba⟩:=aS
    obtain⟨p4,a5,p5,a7,p6,a6,rfl,aV,aQ,aU⟩:=aN
    obtain⟨p1,aB,p2,aF,p3,aE,rfl,av,ax,aw⟩:=aH
    obtain⟨U,R,V,X,T,S,rfl,J,P,K⟩:=aM
    refine cu' ba (cf' (show WL _ _ _ _ _ _ (St w0 G0 X1.m _) from ?_))
    refine s' 6 z aV' z z z z z (List.all_eq_true.1 z)<|sg z z<|u'<|aq'<|g'<|n'<|sr<|mv z z<|yy (aw' z z) z<|nx<|L' hr z (fun bi hr=>?_) (fun bi hr=>?_)
    .refine sr<|mv z z<|mv z z<|yy (av' (vs:=#[(1,i' i1),(2,i' aa.2)]) (v:=.agg ([.slice none 0 0,.slice none 0 0,.slice none 0 0,i' 0,i' i1,i' aa.2]).toArray) z z (fun _=>by kernel_rfl)) z<|s' 4 z sz72 z z z z z (List.all_eq_true.1 z)<|nx<|j'<|a'<|m'<|a'<|a'<|m'<|ag'<|a' ?_
     obtain rfl:_=r:=hr
     exact k' z (aa' (i:=4) ag72 z z z) ⟨_,_,_,_,_,_,z,(W' Rp.str _),(W' b' _),(W' b' _)⟩
    refine q'<|g'<|A'<|yy (o' 6 at' z z z) z<|s' 2 z aV' z z z z z (List.all_eq_true.1 z)<|u'<|J'<|g'<|A'<|mv z z<|yy (X' z z) z<|sg z z<|u'<|Y' ⟨i64.wrap (i1+1),aa.1,p4,a5,p5,a7,p6,a6,W,f,g,m,l,k,d,X1.m⟩ hr ⟨(mt ab aq),aV,aQ,aU,(ah.mono aq),(al.mono aq),(ai.mono aq)⟩ (f4 z z z z) (w2 z z)
   refine ao'<|r'<|r'<|O'<|ap' ⟨Z,y,s,A,C,o,p,W,f,g,m,l,k,d,Q⟩ ⟨ab,an,ao,aj,ah,al,ai,hr⟩ (f3 z z z) (w2 z z)
 rintro⟨L,x,q,D,B,t,n,ag,I,F,M,O,E,H,Y⟩ ⟨a2,az,aJ,ay,a3,be,a4,hr⟩
 refine g'<|sr<|yy (o' 2 at' z z z) z<|mv z z<|yy (M' as' (aA.mono a2) z) z<|yy (av' (vs:=#[(0,.agg ((v31' L x q D B t n)).toArray),(1,i' (l1.length:Int))]) (v:=.agg ([.slice x L.vars.length q,.slice D L.eqs.length B,.slice t L.neqs.length n,i' L.next,i' (l1.length:Int),i' 0]).toArray) z z (fun _=>by kernel_rfl)) z<|s' 4 z sz72 z z z z z (List.all_eq_true.1 z)<|nx<|j' ?_
 obtain rfl:_=r:=hr
 exact k' z (aa' (i:=4) ag72 z z z) ⟨_,_,_,_,_,_,z,az,aJ,ay⟩
theorem fg'{l k i f g c d H E r}(hr:(Zfy l).Ret r):Ctr prog 41 #[.agg ((v34' l k i f g c d H E)).toArray] (fun G=>y34' G k i f g c d H E l) (fun G v=>∃ ah am,v = .tuple #[.slice ah r.1.length am,.bool r.2]/\sl aR' G ah am r.1):=by
 refine E' (args:=[_]) (N:=66) func41 z z z (fun w0 G0 al ax=>?_)
 obtain⟨R,V,S,U⟩:=ax
 refine sr<|af' 1 z z z fun b1=>sg z z<|sg z z<|nr<|yy (cJ' z) z<|yy (aI' ((v31' l.root k i f g c d)).toArray 1 at' z z z (aU' ([]) ((v31' l.root k i f g c d)) ([.slice H l.v.length E]))) z<|bd' (e:=31) (r:=aR') (vs:=#[(0,.agg ((v31' l.root k i f g c d)).toArray)]) (cs:=(v31' l.root k i f g c d)++([])) ([l.root]:List Za) z z z z z (by decide) (fun _=>by kernel_rfl) ⟨(v31' l.root k i f g c d),[],z,⟨[.slice k l.root.vars.length i],[.slice f l.root.eqs.length g,.slice c l.root.neqs.length d,i' l.root.next],z,⟨_,z,R⟩,⟨[.slice f l.root.eqs.length g],[.slice c l.root.neqs.length d,i' l.root.next],z,⟨_,z,V⟩,⟨[.slice c l.root.neqs.length d],[i' l.root.next],z,⟨_,z,S⟩,z⟩⟩⟩,z⟩ (key:=999) z (by rw[al]; rfl) fun p1 an X aJ=>sx0 z z<|n'<|sr<|sx0 z z<|am' (fun (⟨C,L,K,F,W⟩:(List Za)×Option Addr×Nat×Option Ow×Mem)=>[(4,.slice L C.length K)]) (fun ⟨C,L,K,F,W⟩=>Mem.le an W/\sl aR' W L K C/\Tok 4 31 (.slice L C.length K) C.length F/\(Zde C).Ret r) (fun ⟨C,L,K,F,W⟩=>St w0 G0 W [(1004,F)]) ?_ ?_
 .refine B' ?_
  let aa:(((List Za)×Bool)⊕(List Za))->Prop:=fun oo=>((fun ov=>match ov with | .inl rv1=>Cq.ret rv1 | .inr C=>Zde C:(((List Za)×Bool)⊕(List Za))->Cq ((List Za)×Bool)) oo).wp (fun a=>a=r)
  replace hr:(Cq.loop _ _).wp aa:=hr
  refine an' (Φ:=aa) (fun (⟨u,A,B,x,D,M⟩:(List Za)×Option Addr×Nat×Option Ow×Int×Mem)=>((u,D):(List Za)×Int)) (fun ⟨u,A,B,x,D,M⟩=>[(1,pt0 b1),(4,.slice A u.length B),(5,i' D)]) (fun ⟨u,A,B,x,D,M⟩=>Mem.le an M/\sl aR' M A B u/\Tok 4 31 (.slice A u.length B) u.length x) (fun ⟨u,A,B,x,D,M⟩=>St w0 G0 M [(1,bk0 b1 (v34' l k i f g c d H E) 34),(1004,x)]) ⟨[l.root],p1,1,none,1,an⟩ hr (f3 z z z) ⟨mr,aJ,dh'⟩ (wk (lc z (lw ln))) ?_
  .intro aT gx hx hr
   obtain⟨u,A,B,x,D,M⟩:=gx
   obtain⟨P,T,Y⟩:=hx
   refine n'<|sr<|mv z z<|yy (aj' z) z<|yy (f' 1 bc' z z z) z<|yy (M' D' (U.mono (mt X P)) z) z<|yy (ai' z z) z<|nx<|L' hr z (fun aW hr=>?_) (fun aW hr=>?_)
   .refine q'<|g'<|n'<|B'<|sr<|yy (aj' z) z<|yy (f' 1 bc' z z z) z<|mv z z ?_
    obtain⟨x1,aw,hr⟩:=hr
    refine yy (T' D' bR' (U.mono (mt X P)) z z aw) z ?_
    obtain⟨aE,aA,aP,ag⟩:=cO' (I' (ae' U aw) (mt X P))
    refine yy (aA' _ ag63 z z aP) z<|V' 6 z z63 z fun b2=>s' 6 z bR' z z z z z (List.all_eq_true.1 z)<|nx<|aM' (fun (gx:Mem)=>match gx with|Z=>[(1,pt0 b1),(4,.slice A u.length B),(5,i' D),(6,pt0 b2)]) (fun (gx:Mem)=>match gx with|Z=>Mem.le M Z/\(ZfU u D x1).wp (Out aT aa)) (fun (gx:Mem)=>match gx with|Z=>St w0 G0 Z [(1,bk0 b1 (v34' l k i f g c d H E) 34),(6,bk0 b2 (v63' x1 aE aA) 63),(1004,x)]) ?_ ?_
    .refine sr<|yy (bT' z) z<|yy (f' 6 sc3 z z z) z<|ad' hr z (ai' z z) z (fun aL hr=>?_) (fun aL hr=>?_)
     .refine mv z z<|sn4 z<|yy (h' z z) z<|mv z z<|sn3 z<|yy (h' z z) z<|mv z z<|sn4 z<|yy (h' z z) z<|mv z z<|sn4 z<|yy (h' z z) z<|nx<|U' z<|sr<|sg z z<|sx0 z z<|j'<|a'<|m'<|a'<|a'<|m'<|ag'<|a' ?_
      obtain rfl:_=r:=hr
      exact aE' z z z ⟨_,_,z,(W' aR' _)⟩
     refine mv z z<|gy z z (bT' z) z<|gy z z (f' 6 sc3 z z z) z<|gy z z (e' z) z<|ad' hr (v' z z) (bf' z z) z (fun aZ hr=>?_) (fun aZ hr=>?_)
     .refine yy (l' z z) z<|mv z z<|sn3 z<|yy (h' z z) z<|mv z z<|sn4 z<|yy (h' z z) z<|mv z z<|sn4 z<|yy (h' z z) z<|nx<|U' z<|sr<|sg z z<|sx0 z z<|j'<|a'<|m'<|a'<|a'<|m'<|ag'<|a' ?_
      obtain rfl:_=r:=hr
      exact aE' z z z ⟨_,_,z,(W' aR' _)⟩
     refine yy (l' z z) z<|mv z z<|gy z z (cB' z) z<|gy z z (f' 6 sc3 z z z) z<|ad' hr (v' z z) (ai' z z) z (fun aS hr=>?_) (fun aS hr=>?_)
     .refine yy (l' z z) z<|mv z z<|sn4 z<|yy (h' z z) z<|mv z z<|sn4 z<|yy (h' z z) z<|nx<|U' z<|sr<|sg z z<|sx0 z z<|j'<|a'<|m'<|a'<|a'<|m'<|ag'<|a' ?_
      obtain rfl:_=r:=hr
      exact aE' z z z ⟨_,_,z,(W' aR' _)⟩
     refine yy (l' z z) z<|mv z z<|gy z z (cB' z) z<|gy z z (f' 6 sc3 z z z) z<|gy z z (e' z) z<|ad' hr (v' z z) (bf' z z) z (fun aQ hr=>?_) (fun aQ hr=>?_)
     .refine yy (l' z z) z<|mv z z<|sn4 z<|yy (h' z z) z<|nx<|U' z<|sr<|sg z z<|sx0 z z<|j'<|a'<|m'<|a'<|a'<|m'<|ag'<|a' ?_
      obtain rfl:_=r:=hr
      exact aE' z z z ⟨_,_,z,(W' aR' _)⟩
     refine yy (l' z z) z<|mv z z<|gy z z (bI' z) z<|gy z z (f' 6 sc44 z z z) z<|gy z z (M' as' ag z) z<|gy z z (bh' z z) z<|yy (l' z z) z<|nx<|L' hr z (fun aK hr=>?_) (fun aK hr=>?_)
     .refine sr<|sg z z<|sx0 z z<|j'<|a'<|m'<|a'<|a'<|m'<|ag'<|a' ?_
      obtain rfl:_=r:=hr
      exact aE' z z z ⟨_,_,z,(W' aR' _)⟩
     refine q'<|ar' M ⟨mr,hr⟩ (f4 z z z z) (w3 z z z)
    rintro Z ⟨Q,hr⟩
    refine n'<|ah' [ff,ff,ff,ff,ff,ff,ff,ff,ff] mix (by kernel_rfl) fun hb=>cn (fun _ y=>e' z)<|cn (fun _ y=>bT' z)<|cn (fun _ y=>f' 6 sc3 z z z) ?_
    obtain⟨x2,av,hr⟩:=hr
    refine cn (fun _ y=>T' cI' aV' ((T.mono Q).mono y) z z av) ?_
    obtain⟨aH,aI,aO,aU,aF,aG,a0,ad,ak,ae⟩:=cY' (I' (ae' T av) Q)
    refine cn (fun _ y=>aA' _ at' z z (fun j v hv=>y _ _ _ (a0 j v hv)))<|cn (fun _ y=>bI' z)<|cn (fun _ y=>f' 6 sc44 z z z) ?_
    obtain⟨t,aC,hr⟩:=hr
    refine aX' (post:=w72' t) (fun _=>z) (fun _ _=>t' E30 z) (fb' aC) z (fun G' y=>⟨(ad.mono y),(ak.mono y),(ae.mono y),((ag.mono Q).mono y)⟩) (fun v G1 G2 y h=>?_) ?_
    .obtain⟨s,q,p,o,m,n,rfl,J,O,I⟩:=h
     exact⟨_,_,_,_,_,_,z,J.mono y,O.mono y,I.mono y⟩
    refine bE' (fun _=>z) z72<|eg' (fun bc a6 X1 ai aj af=>?_)
    obtain⟨b3,rfl,aB⟩:=aj
    obtain⟨s,q,p,o,m,n,rfl,J,O,I⟩:=af
    refine cu' aB (cf' (show WL _ _ _ _ _ _ (St w0 G0 X1.m _) from ?_))
    refine s' 7 z sz72 z z z z z (List.all_eq_true.1 z)<|u'<|aq'<|g'<|n'<|sr<|yy (Y0.Zk7 z) z<|yy (f' 7 sc36 z z z) z<|yy (aw' z z) z<|nx<|L' hr z (fun aR hr=>?_) (fun aR hr=>?_)
    .refine sr<|sg z z<|sx0 z z<|j'<|a'<|m'<|a'<|a'<|m'<|ag'<|a' ?_
     obtain rfl:_=r:=hr
     exact aE' z z z ⟨_,_,z,(W' aR' _)⟩
    refine q'<|g'<|A'<|mv z z<|yy (Y0.Zhc z) z<|yy (aI' ((v31' t.s s q p o m n)).toArray 7 at' z z z (aU' ([]) ((v31' t.s s q p o m n)) ([i' t.n,i' t.e]))) z<|bd' (e:=31) (r:=aR') (vs:=#[(0,.agg ((v31' t.s s q p o m n)).toArray)]) (cs:=(v31' t.s s q p o m n)++([])) ([t.s]:List Za) z z z z z (by decide) (fun _=>by kernel_rfl) ⟨(v31' t.s s q p o m n),[],z,⟨[.slice s t.s.vars.length q],[.slice p t.s.eqs.length o,.slice m t.s.neqs.length n,i' t.s.next],z,⟨_,z,J⟩,⟨[.slice p t.s.eqs.length o],[.slice m t.s.neqs.length n,i' t.s.next],z,⟨_,z,O⟩,⟨[.slice m t.s.neqs.length n],[i' t.s.next],z,⟨_,z,I⟩,z⟩⟩⟩,z⟩ (key:=999) z (by rw[al]; rfl) (fun p2 bd ac a2=>?_)
    obtain⟨ay,hr⟩:=hr
    refine bW' (r:=aR') 1004 z z cI' el31 z (by decide) z z (T.mono (mt (mt Q ai) ac)) z (by rw[al]; rfl) Y a2 ay fun p3 aY aD aV ar aX az=>sg z z<|u'<|J'<|g'<|A'<|mv z z<|yy (X' z z) z<|sg z z<|u'<|Y' ⟨(u++[t.s]),p3,aY,aD,i64.wrap (D+1),aV⟩ hr ⟨(mt (mt (mt (mt P Q) ai) ac) ar),aX,az⟩ (f3 z z z) (w2 z z)
   refine ao'<|r'<|r'<|O'<|ap' ⟨u,A,B,x,M⟩ ⟨P,T,Y,hr⟩ (f1 z) (w1 z)
 rintro⟨C,L,K,F,W⟩ ⟨a3,ap,aM,hr⟩
 refine g'<|sr<|mv z z<|sg z z<|sx0 z z<|j' ?_
 obtain rfl:_=r:=hr
 exact aE' z z z ⟨_,_,z,ap⟩
theorem fc'{m M e h j l c d o q r}(hr:(ZiZ m M).Ret r):Ctr prog 12 #[.agg ((v34' m e h j l c d o q)).toArray,i' M] (fun G=>y34' G e h j l c d o q m) (w31t' r):=by
 refine E' (args:=[_,_]) (N:=22) func12 z z z (fun X Z U A=>?_)
 obtain⟨g,k,f,p⟩:=A
 refine sr<|af' 2 z z z fun W=>V' 4 z z31 z fun Y=>sx0 z z<|n'<|sr<|yy (o' 2 aG' z z z) z<|mv z z ?_
 obtain⟨S,B,hr⟩:=hr
 refine F' z z (t' E40 z) (ed' B) z (⟨g,k,f,p⟩)<|yy (al' z) z<|nx<|aL' hr z (fun L hr=>?_) (fun L hr=>?_)
 .refine sr<|yy (av' (vs:=#[]) (v:=.agg ([.slice none 0 0,.slice none 0 0,.slice none 0 0,i' 0]).toArray) z z (fun _=>by kernel_rfl)) z<|s' 4 z aV' z z z z z (List.all_eq_true.1 z)<|sx0 z z<|j'<|a' ?_
  obtain rfl:_=r:=hr
  exact aE' z (aa' (i:=4) at' z z z) z ⟨_,_,_,_,_,_,z,(W' Rp.str _),(W' b' _),(W' b' _)⟩
 refine q'<|g'<|sr<|yy (o' 2 aG' z z z) z ?_
 obtain⟨V,C,hr⟩:=hr
 refine P' z z (t' E41 z) (fg' C) z (⟨g,k,f,p⟩) (fun R T Q s=>?_)
 obtain⟨O,P,rfl,n⟩:=s
 refine mv z z<|yy (y' z z) z<|yy (y' z z) z<|sg z z<|sg z z<|nr<|mv z z<|mv z z ?_
 obtain⟨x1,y,hr⟩:=hr
 refine yy (T' cI' aV' n z z y) z ?_
 obtain⟨E,D,K,J,H,F,I,t,x,u⟩:=cY' (ae' n y)
 refine yy (aA' _ at' z z I) z<|s' 4 z aV' z z z z z (List.all_eq_true.1 z)<|sx0 z z<|j' ?_
 obtain rfl:_=r:=hr
 exact aE' z (aa' (i:=4) at' z z z) z ⟨_,_,_,_,_,_,z,t,x,u⟩
theorem et'{s1 l1 T O R X Y Q S an ao r}(hr:(ZdE s1 l1 T).Ret r):Ctr prog 28 #[.agg ((v31' s1 O R X Y Q S)).toArray,.slice an l1.length ao,i' T] (fun G=>sl Rp.str G O R s1.vars/\sl b' G X Y s1.eqs/\sl b' G Q S s1.neqs/\sl cr' G an ao l1) (wl' ab' r):=by
 refine E' (args:=[_,_,_]) (N:=44) func28 z z z (fun w0 G0 aA aI=>?_)
 obtain⟨ap,ay,aw,ax⟩:=aI
 refine sr<|af' 3 z z z fun b1=>sg z z<|nr<|bd' (e:=48) (r:=ab') (vs:=#[]) (cs:=[]) ([]:List Zc) z z z z z (by decide) (fun _=>by kernel_rfl) (z) (key:=999) z (by rw[aA]; rfl) fun p1 aB F aP=>sx0 z z<|n'<|sr<|sx0 z z<|am' (fun (⟨A,I,H,E,aa⟩:(List Zc)×Option Addr×Nat×Option Ow×Mem)=>[(7,.slice I A.length H)]) (fun ⟨A,I,H,E,aa⟩=>Mem.le aB aa/\sl ab' aa I H A/\Tok 7 48 (.slice I A.length H) A.length E/\(Zeu A).Ret r) (fun ⟨A,I,H,E,aa⟩=>St w0 G0 aa [(1007,E)]) ?_ ?_
 .refine B' ?_
  let al:(List Zc)->Prop:=fun oo=>((fun ov=>match ov with|A=>Zeu A:(List Zc)->Cq (List Zc)) oo).wp (fun a=>a=r)
  replace hr:(Cq.loop _ _).wp al:=hr
  refine an' (Φ:=al) (fun (⟨m,q,p,l,Z,D,k,g,o,n,i,f,x⟩:(List Zc)×Option Addr×Nat×Option Ow×Int×Za×Option Addr×Nat×Option Addr×Nat×Option Addr×Nat×Mem)=>((m,Z,D):(List Zc)×Int×Za)) (fun ⟨m,q,p,l,Z,D,k,g,o,n,i,f,x⟩=>[(1,.slice an l1.length ao),(2,i' T),(3,pt0 b1),(7,.slice q m.length p),(8,i' Z)]) (fun ⟨m,q,p,l,Z,D,k,g,o,n,i,f,x⟩=>Mem.le aB x/\sl ab' x q p m/\Tok 7 48 (.slice q m.length p) m.length l/\y31' x k g o n i f D) (fun ⟨m,q,p,l,Z,D,k,g,o,n,i,f,x⟩=>St w0 G0 x [(3,bk0 b1 (v31' D k g o n i f) 31),(1007,l)]) ⟨[],p1,0,none,0,s1,O,R,X,Y,Q,S,aB⟩ hr (f5 z z z z z) ⟨mr,aP,dh',(ap.mono F),(ay.mono F),(aw.mono F)⟩ (wk (lc z (lw ln))) ?_
  .intro aW gx hx hr
   obtain⟨m,q,p,l,Z,D,k,g,o,n,i,f,x⟩:=gx
   obtain⟨C,V,L,K,P,J⟩:=hx
   refine aM' (fun (gx:Mem)=>match gx with|ak=>[(1,.slice an l1.length ao),(2,i' T),(3,pt0 b1),(7,.slice q m.length p),(8,i' Z)]) (fun (gx:Mem)=>match gx with|ak=>Mem.le x ak/\(ZgV l1 m Z D).wp (Out aW al)) (fun (gx:Mem)=>match gx with|ak=>St w0 G0 ak [(3,bk0 b1 (v31' D k g o n i f) 31),(1007,l)]) ?_ ?_
   .refine sr<|mv z z<|mv z z<|yy (M' da' (ax.mono (mt F C)) z) z<|ad' hr z (ai' z z) z (fun aQ hr=>?_) (fun aQ hr=>?_)
    .refine mv z z<|gy z z (e' z) z<|gy z z (e' z) z<|gy z z (ai' z z) z<|yy (h' z z) z<|nx<|L' hr z (fun aU hr=>?_) (fun aU hr=>?_)
     .refine q'<|ar' x ⟨mr,hr⟩ (f5 z z z z z) (w2 z z)
     refine ao'<|r'<|r'<|O'<|ap' ⟨m,q,p,l,x⟩ ⟨C,V,L,hr⟩ (f1 z) (w1 z)
    refine mv z z<|sn3 z<|yy (l' z z) z<|nx<|bb' z<|ao'<|r'<|r'<|O'<|ap' ⟨m,q,p,l,x⟩ ⟨C,V,L,hr⟩ (f1 z) (w1 z)
   rintro ak ⟨d,hr⟩
   refine n'<|B'<|n'<|ah' [ff,ff,ff,ff,ff,ff,ff] mix (by kernel_rfl) fun hb=>cn (fun _ B=>o' 3 at' z z z)<|cn (fun _ B=>e' z)<|cn (fun _ B=>e' z) ?_
   obtain⟨x1,aH,hr⟩:=hr
   refine cn (fun _ B=>T' da' sz54 ((ax.mono (mt (mt F C) d)).mono B) z z aH) ?_
   obtain⟨a2,a3,aR,aF⟩:=Zg2 (I' (ae' ax aH) (mt (mt F C) d))
   refine cn (fun _ B=>aA' _ ag54 z z (fun j v hv=>B _ _ _ (aR j v hv))) ?_
   obtain⟨c,aM,hr⟩:=hr
   refine aX' (post:=w48' c) (fun _=>z) (fun _ _=>t' E19 z) (eY' aM) z (fun G' B=>⟨((K.mono d).mono B),((P.mono d).mono B),((J.mono d).mono B),(aF.mono B)⟩) (fun v G1 G2 B h=>?_) ?_
   .obtain⟨s,t,rfl,U⟩:=h
    exact⟨_,_,z,U.mono B⟩
   refine bE' (fun _=>z) z48<|eg' (fun be a8 X1 y az av=>?_)
   obtain⟨b2,rfl,aL⟩:=az
   obtain⟨s,t,rfl,U⟩:=av
   refine cu' aL (cf' (show WL _ _ _ _ _ _ (St w0 G0 X1.m _) from ?_))
   refine s' 9 z cd' z z z z z (List.all_eq_true.1 z)<|u'<|aq'<|g'<|sr<|yy (o' 3 at' z z z) z<|yy (o' 9 bO' z z z) z ?_
   obtain⟨aT,aO,hr⟩:=hr
   refine P' z z (t' E55 z) (er' aO) z (⟨(K.mono (mt d y)),(P.mono (mt d y)),(J.mono (mt d y)),U⟩) (fun a5 aV u aq=>?_)
   obtain⟨af,ae,ah,ai,ad,ac,rfl,ag,aj,ab⟩:=aq
   refine mv z z<|yy (y' z z) z<|yy (y' z z) z<|V' 10 z z31 z fun b3=>s' 10 z aV' z z z z z (List.all_eq_true.1 z)<|sg z z<|nr<|mv z z<|yy (au' z z) z<|nx<|L' hr z (fun aX hr=>?_) (fun aX hr=>?_)
   .refine sr<|mv z z<|yy (o' 9 bO' z z z) z<|bd' (e:=48) (r:=ab') (vs:=#[(0,.agg ((v48' c s t)).toArray)]) (cs:=(v48' c s t)++([])) ([c]:List Zc) z z z z z (by decide) (fun _=>by kernel_rfl) ⟨(v48' c s t),[],z,⟨[i' c.kind],[.string c.name,i' c.at',i' c.to',i' c.id,.slice s c.p.length t,.bool c.neq],z,z,⟨[.string c.name],[i' c.at',i' c.to',i' c.id,.slice s c.p.length t,.bool c.neq],z,z,⟨[i' c.at'],[i' c.to',i' c.id,.slice s c.p.length t,.bool c.neq],z,z,⟨[i' c.to'],[i' c.id,.slice s c.p.length t,.bool c.neq],z,z,⟨[i' c.id],[.slice s c.p.length t,.bool c.neq],z,z,⟨[.slice s c.p.length t],[.bool c.neq],z,⟨_,z,(U.mono u)⟩,z⟩⟩⟩⟩⟩⟩,z⟩ (key:=999) z (by rw[aA]; rfl) (fun p2 bf M a1=>?_)
    obtain⟨aJ,hr⟩:=hr
    refine bW' (r:=ab') 1007 z z as' el48 z (by decide) z z (V.mono (mt (mt (mt d y) u) M)) z (by rw[aA]; rfl) L a1 aJ fun p3 aZ aN aS W aY aK=>sx0 z z<|A'<|yy (o' 10 at' z z z) z<|s' 3 z aV' z z z z z (List.all_eq_true.1 z)<|u'<|J'<|g'<|A'<|mv z z<|yy (X' z z) z<|sg z z<|u'<|Y' ⟨(m++[c]),p3,aZ,aN,i64.wrap (Z+1),aT.1,af,ae,ah,ai,ad,ac,aS⟩ hr ⟨(mt (mt (mt (mt (mt C d) y) u) M) W),aY,aK,(ag.mono (mt M W)),(aj.mono (mt M W)),(ab.mono (mt M W))⟩ (f5 z z z z z) (w2 z z)
   have N1:=mt (mt d y) u
   refine q'<|J'<|g'<|A'<|mv z z<|yy (X' z z) z<|sg z z<|u'<|Y' ⟨m,q,p,l,i64.wrap (Z+1),D,k,g,o,n,i,f,aV⟩ hr ⟨(mt (mt (mt C d) y) u),(V.mono N1),L,(K.mono N1),(P.mono N1),(J.mono N1)⟩ (f5 z z z z z) (w2 z z)
 rintro⟨A,I,H,E,aa⟩ ⟨a4,aC,a0,hr⟩
 refine g'<|sr<|mv z z<|sx0 z z<|j' ?_
 obtain rfl:_=r:=hr
 exact k' z z ⟨_,_,z,aC⟩
theorem fx'{c y x m j g k l d f L K U T r}(hr:(Zgh c y x m).Ret r):Ctr prog 36 #[.agg ((v34' c j g k l d f L K)).toArray,i' y,i' x,.slice U m.length T] (fun G=>sl Rp.str G j g c.root.vars/\sl b' G k l c.root.eqs/\sl b' G d f c.root.neqs/\sl Q' G L K c.v/\sl ab' G U T m) (w84' r):=by
 refine E' (args:=[_,_,_,_]) (N:=66) func36 z z z (fun w0 G0 bd aP=>?_)
 obtain⟨C,E,D,J,ab⟩:=aP
 refine sr<|af' 4 z z z fun b1=>V' 8 z z84 z fun b2=>nx<|n'<|sr<|yy (o' 4 aG' z z z) z<|mv z z ?_
 obtain⟨bE,aT,hr⟩:=hr
 refine F' z z (t' E40 z) (ed' aT) z (⟨C,E,D,J⟩)<|yy (al' z) z<|nx<|aL' hr z (fun be hr=>?_) (fun be hr=>?_)
 .refine sr<|yy (av' (vs:=#[(2,i' 340)]) (v:=.agg ([.slice none 0 0,.slice none 0 0,.slice none 0 0,i' 0,.slice none 0 0,i' 0,i' 340]).toArray) z z (fun _=>by kernel_rfl)) z<|s' 8 z sz84 z z z z z (List.all_eq_true.1 z)<|nx<|j'<|a' ?_
  obtain rfl:_=r:=hr
  exact k' z (aa' (i:=8) ag84 z z z) ⟨_,_,_,_,_,_,_,_,z,(W' Rp.str _),(W' b' _),(W' b' _),(W' Q' _)⟩
 refine q'<|g'<|aM' (fun (⟨S,q,o,t,s,p,n,I,M,P⟩:ZQ×Option Addr×Nat×Option Addr×Nat×Option Addr×Nat×Option Addr×Nat×Mem)=>[(1,i' y),(2,i' x),(3,.slice U m.length T),(4,pt0 b1),(8,pt0 b2)]) (fun ⟨S,q,o,t,s,p,n,I,M,P⟩=>Mem.le G0 P/\sl Rp.str P q o S.h.root.vars/\sl b' P t s S.h.root.eqs/\sl b' P p n S.h.root.neqs/\sl Q' P I M S.h.v/\(ZgE c y x m).Ret r) (fun ⟨S,q,o,t,s,p,n,I,M,P⟩=>St w0 G0 P [(4,bk0 b1 (v34' c j g k l d f L K) 34),(8,bk0 b2 (v84' S q o t s p n I M) 84)]) ?_ ?_
 .refine sr<|yy (aj' z) z<|yy (f' 4 bc' z z z) z<|yy (M' D' J z) z<|ad' hr z (bf' z z) z (fun a8 hr=>?_) (fun a8 hr=>?_)
  .refine mv z z<|sn3 z<|yy (h' z z) z<|nx<|U' z<|sr<|yy (av' (vs:=#[(2,i' 2)]) (v:=.agg ([.slice none 0 0,.slice none 0 0,.slice none 0 0,i' 0,.slice none 0 0,i' 0,i' 2]).toArray) z z (fun _=>by kernel_rfl)) z<|s' 8 z sz84 z z z z z (List.all_eq_true.1 z)<|nx<|j'<|a' ?_
   obtain rfl:_=r:=hr
   exact k' z (aa' (i:=8) ag84 z z z) ⟨_,_,_,_,_,_,_,_,z,(W' Rp.str _),(W' b' _),(W' b' _),(W' Q' _)⟩
  refine mv z z<|gy z z (e' z) z<|gy z z (M' as' ab z) z<|gy z z (bh' z z) z<|yy (l' z z) z<|nx<|L' hr z (fun a7 hr=>?_) (fun a7 hr=>?_)
  .refine sr<|yy (av' (vs:=#[(2,i' 2)]) (v:=.agg ([.slice none 0 0,.slice none 0 0,.slice none 0 0,i' 0,.slice none 0 0,i' 0,i' 2]).toArray) z z (fun _=>by kernel_rfl)) z<|s' 8 z sz84 z z z z z (List.all_eq_true.1 z)<|nx<|j'<|a' ?_
   obtain rfl:_=r:=hr
   exact k' z (aa' (i:=8) ag84 z z z) ⟨_,_,_,_,_,_,_,_,z,(W' Rp.str _),(W' b' _),(W' b' _),(W' Q' _)⟩
  refine q'<|ar' ⟨(ZQ.mk (Zf.mk (Za.mk [] [] [] 0) []) 0 0),none,0,none,0,none,0,none,0,G0⟩ ⟨mr,(W' _ _),(W' _ _),(W' _ _),(W' _ _),hr⟩ (f5 z z z z z) (w2 z z)
 rintro⟨S,q,o,t,s,p,n,I,M,P⟩ ⟨B,ak,am,aj,bc,hr⟩
 refine sr<|yy (o' 4 aG' z z z) z<|mv z z ?_
 obtain⟨bD,a0,hr⟩:=hr
 refine P' z z (t' E12 z) (fc' a0) z (⟨(C.mono B),(E.mono B),(D.mono B),(J.mono B)⟩) (fun bn bF H ag=>?_)
 obtain⟨aC,ay,aG,aI,aw,au,rfl,ac,ad,aa⟩:=ag
 refine mv z z<|yy (y' z z) z<|yy (y' z z) z<|V' 9 z z31 z fun b3=>s' 9 z aV' z z z z z (List.all_eq_true.1 z)<|sg z z<|nr<|yy (o' 9 at' z z z) z<|mv z z ?_
 obtain⟨aM,a1,hr⟩:=hr
 refine P' z z (t' E30 z) (fb' a1) z (⟨ac,ad,aa,(ab.mono (mt B H))⟩) (fun bo bH O ai=>?_)
 obtain⟨aN,aL,aU,aR,aF,aJ,rfl,aK,aW,aH⟩:=ai
 refine V' 11 z z72 z fun b4=>s' 11 z sz72 z z z z z (List.all_eq_true.1 z)<|nx<|n'<|sr<|yy (Y0.Zk7 z) z<|yy (f' 11 sc36 z z z) z<|yy (aw' z z) z<|nx<|L' hr z (fun bb hr=>?_) (fun bb hr=>?_)
 .refine sr<|yy (Y0.Zk7 z) z<|yy (f' 11 sc36 z z z) z<|yy (av' (vs:=#[(2,i' aM.e)]) (v:=.agg ([.slice none 0 0,.slice none 0 0,.slice none 0 0,i' 0,.slice none 0 0,i' 0,i' aM.e]).toArray) z z (fun _=>by kernel_rfl)) z<|s' 8 z sz84 z z z z z (List.all_eq_true.1 z)<|nx<|j'<|a' ?_
  obtain rfl:_=r:=hr
  exact k' z (aa' (i:=8) ag84 z z z) ⟨_,_,_,_,_,_,_,_,z,(W' Rp.str _),(W' b' _),(W' b' _),(W' Q' _)⟩
 refine q'<|g'<|n'<|ah' [ff,ff,ff,ff,ff,ff,ff,ff] mix (by kernel_rfl) fun hb=>cn (fun _ A=>cJ' z)<|cn (fun _ A=>aI' ((v31' c.root j g k l d f)).toArray 4 at' z z z (aU' ([]) ((v31' c.root j g k l d f)) ([.slice L c.v.length K])))<|dz' (r:=Q') (e:=63) ([]:List Zh) (fun _=>z) z (by decide) (fun u Y A X=>?_) ?_
 .exact⟨#[],[],z,z,fun _=>by kernel_rfl,z⟩
 refine cu (fun _ _ A=>aj' z)<|cu (fun _ _ A=>f' 4 bc' z z z) ?_
 obtain⟨aQ,hr⟩:=hr
 refine bY' (r:=Q') (e:=63) (kk:=45) (xs:=([]:List Zh)) c.v (fun _=>z) z (by kernel_rfl) (by kernel_rfl) D' el63 z (by decide) aQ (fun u Y A X=>?_) ?_
 .obtain⟨aB,_⟩:=(show (RowX Q' 63 45 ([]:List Zh)) (u 45) Y/\True from X)
  exact⟨u 45,.slice L c.v.length K,aB,z,z,((J.mono (mt (mt B H) O)).mono A)⟩
 refine Chain.buildRow (r:=Q') (e:=63) (kk:=48) (xs:=(([]:List Zh)++c.v)) (fun al aq=>.agg ([.slice j c.root.vars.length g,.slice k c.root.eqs.length l,.slice d c.root.neqs.length f,i' c.root.next,.slice al (([]:List Zh)++c.v).length aq]).toArray) (fun _=>z) z (by kernel_rfl) (by kernel_rfl) (fun u Y A X=>?_) ?_
 .obtain⟨aE,_,_⟩:=(show (RowX Q' 63 48 (([]:List Zh)++c.v)) (u 48) Y/\True/\True from X)
  exact⟨u 48,aE,fun cp cc ar _=>av' (vs:=#[(0,.agg ((v31' c.root j g k l d f)).toArray),(1,.slice cp (([]:List Zh)++c.v).length cc)]) (by simp only[undFr,eatO,List.map_cons,List.map_nil,ar] <;> rfl) z (fun _=>by kernel_rfl)⟩
 refine bE' (fun _=>z) z34<|cn' fun bB bw bq bA X1 W an R a5 a4=>WL.adoptL an (fun b5 ba a9=>?_)
 subst ba
 replace R:=RowM.drop R (by decide) a9
 refine WL.adoptM R (fun al aq bk aV a2 bz=>?_)
 subst aV
 refine cf' (show WL _ _ _ _ _ _ (St w0 G0 X1.m _) from ?_)
 refine s' 12 z bH' z z z z z (List.all_eq_true.1 z)<|u'<|aq'<|g'<|n'<|ah' [ff,ff,ff,ff,ff,ff,ff,ff,ff] mix (by kernel_rfl) fun hb=>cn (fun _ A=>aj' z)<|cn (fun _ A=>f' 12 bc' z z z)<|cn (fun _ A=>e' z)<|cn (fun _ A=>e' z)<|dz' (r:=ab') (e:=48) ([]:List Zc) (fun _=>z) z (by decide) (fun u Y A X=>?_) ?_
 .exact⟨#[],[],z,z,fun _=>by kernel_rfl,z⟩
 refine cu (fun _ _ A=>e' z) ?_
 obtain⟨aS,hr⟩:=hr
 refine bY' (r:=ab') (e:=48) (kk:=54) (xs:=([]:List Zc)) m (fun _=>z) z (by kernel_rfl) (by kernel_rfl) as' el48 z (by decide) aS (fun u Y A X=>?_) ?_
 .obtain⟨av,_⟩:=(show (RowX ab' 48 54 ([]:List Zc)) (u 54) Y/\True from X)
  exact⟨u 54,.slice U m.length T,av,z,z,((ab.mono (mt (mt (mt B H) O) W)).mono A)⟩
 refine Chain.buildEat (r:=ab') (e:=48) (kk:=56) (xs:=(([]:List Zc)++m)) (φ:=fun G v=>∃ Q F,v = .agg ([i' y,i' x,.slice Q (([]:List Zc)++m).length F]).toArray/\SlR ab' G (.slice Q (([]:List Zc)++m).length F) (([]:List Zc)++m)) (fun _=>z) z (by kernel_rfl) (by kernel_rfl) (fun v G1 G2 A h=>?_) (fun u Y A X=>?_) ?_
 .obtain⟨Q,F,rfl,af⟩:=h
  exact⟨_,_,z,af.mono A⟩
 .obtain⟨ax,_,_⟩:=(show (RowX ab' 48 56 (([]:List Zc)++m)) (u 56) Y/\True/\True from X)
  exact⟨u 56,ax,fun cp cc Gf ar bh=>⟨_,fun _=>av' (vs:=#[(0,i' y),(1,i' x),(2,.slice cp (([]:List Zc)++m).length cc)]) (by simp only[undFr,eatO,List.map_cons,List.map_nil,ar] <;> rfl) z (fun _=>by kernel_rfl),cp,cc,z,bh⟩⟩
 refine eE' (r:=Q') (e:=63) ([(Zh.mk y x (([]:List Zc)++m))]:List Zh) (fun _=>z) z (by decide) (fun u Y A X=>?_) ?_
 .obtain⟨⟨Q,F,aD,af⟩,_,_,_⟩:=(show (fun G v=>∃ Q F,v = .agg ([i' y,i' x,.slice Q (([]:List Zc)++m).length F]).toArray/\SlR ab' G (.slice Q (([]:List Zc)++m).length F) (([]:List Zc)++m)) Y.m (u 57)/\True/\True/\True from X)
  simp only[undFr,aD]
  exact⟨#[(0,.agg ([i' y,i' x,.slice Q (([]:List Zc)++m).length F]).toArray)],[i' y,i' x,.slice Q (([]:List Zc)++m).length F]++([]),z,z,fun _=>by kernel_rfl,⟨[i' y,i' x,.slice Q (([]:List Zc)++m).length F],[],z,⟨[i' y],[i' x,.slice Q (([]:List Zc)++m).length F],z,z,⟨[i' x],[.slice Q (([]:List Zc)++m).length F],z,z,⟨_,z,af⟩⟩⟩,z⟩⟩
 refine cn' (fun bm bv bp bt X2 Z ae ah a3 a6=>?_)
 obtain⟨p2,bI,rfl,bj⟩:=ae
 obtain⟨Q,F,rfl,af⟩:=ah
 refine cf' (show WL _ _ _ _ _ _ (St w0 G0 X2.m _) from ?_)
 obtain⟨aY,hr⟩:=hr
 refine ct' (r:=Q') (e:=63) 49 z z D' el63 z (by decide) z z (a2.mono Z) z bj aY fun p3 ap bu bf=>yy (aj' z) z<|bn' (r:=Q') (e:=63) 49 bf z (by rw[bd]; rfl) fun bG bC V aX bl=>aC' 12 ([.slice j c.root.vars.length g,.slice k c.root.eqs.length l,.slice d c.root.neqs.length f,i' c.root.next,.slice p3 ((([]:List Zh)++c.v)++[(Zh.mk y x (([]:List Zc)++m))]).length ap]).toArray z sz32 z z z (show 4<5 by decide) z z<|u'<|aq'<|g'<|sr<|yy (o' 12 aG' z z z) z<|yy (aj' z) z<|yy (f' 4 bc' z z z) z<|yy (M' D' (J.mono (mt (mt (mt (mt (mt B H) O) W) Z) V)) z) z<|yy (av' (vs:=#[(0,.agg ([.slice j c.root.vars.length g,.slice k c.root.eqs.length l,.slice d c.root.neqs.length f,i' c.root.next,.slice p3 ((([]:List Zh)++c.v)++[(Zh.mk y x (([]:List Zc)++m))]).length ap]).toArray),(1,i' (c.v.length:Int))]) (v:=.agg ([.slice j c.root.vars.length g,.slice k c.root.eqs.length l,.slice d c.root.neqs.length f,i' c.root.next,.slice p3 ((([]:List Zh)++c.v)++[(Zh.mk y x (([]:List Zc)++m))]).length ap,i' (c.v.length:Int),i' 0]).toArray) z z (fun _=>by kernel_rfl)) z<|s' 8 z sz84 z z z z z (List.all_eq_true.1 z)<|nx<|j' ?_
 obtain rfl:_=r:=hr
 have N1:=mt (mt (mt (mt (mt B H) O) W) Z) V
 exact k' z (aa' (i:=8) ag84 z z z) ⟨_,_,_,_,_,_,_,_,z,(C.mono N1),(E.mono N1),(D.mono N1),aX⟩
theorem ek'{L av P S R Q r}(hr:(Zio L av).Ret r):Ctr prog 10 #[.agg ((v25' L P S R Q)).toArray,i' av] (fun G=>sl cr' G P S L.s/\sl dJ' G R Q L.v) (w34' r):=by
 refine E' (args:=[_,_]) (N:=82) func10 z z z (fun w0 G0 bT bh=>?_)
 obtain⟨aW,x⟩:=bh
 refine sr<|af' 2 z z z fun b1=>V' 4 z z34 z fun b2=>nr<|yy (Y0.ZpA z) z<|yy (f' 2 sc22 z z z) z ?_
 obtain⟨bR,bj,hr⟩:=hr
 refine P' z z (t' E35 z) (gV' bj) z (aW) (fun bJ bV I aP=>?_)
 obtain⟨bn,bk,bs,br,bg,bi,rfl,aF,aL,aH⟩:=aP
 obtain⟨bz,bo,hr⟩:=hr
 refine P' z z (t' E34 z) (hg' bo) z (⟨aF,aL,aH⟩) (fun bG aU H aJ=>?_)
 obtain⟨ad,ab,af,al,Z,aa,aM,aR,rfl,ac,ai,Y,aN⟩:=aJ
 refine mv z z<|yy (y' z z) z<|yy (y' z z) z<|V' 5 z z34 z fun b3=>s' 5 z bH' z z z z z (List.all_eq_true.1 z)<|sx0 z z<|n'<|sr<|sx0 z z<|am' (fun (⟨O,q,p,t,s,o,n,V,U,X⟩:Zf×Option Addr×Nat×Option Addr×Nat×Option Addr×Nat×Option Addr×Nat×Mem)=>[(4,pt0 b2),(5,pt0 b3)]) (fun ⟨O,q,p,t,s,o,n,V,U,X⟩=>Mem.le aU X/\sl Rp.str X q p O.root.vars/\sl b' X t s O.root.eqs/\sl b' X o n O.root.neqs/\sl Q' X V U O.v/\(Zfx O).Ret r) (fun ⟨O,q,p,t,s,o,n,V,U,X⟩=>St w0 G0 X [(4,bk0 b2 ([.slice none 0 0,.slice none 0 0,.slice none 0 0,i' 0,.slice none 0 0]) 34),(5,bk0 b3 (v34' O q p t s o n V U) 34)]) ?_ ?_
 .refine B' ?_
  let az:Zf->Prop:=fun oo=>((fun ov=>match ov with|O=>Zfx O:Zf->Cq Zf) oo).wp (fun a=>a=r)
  replace hr:(Cq.loop _ _).wp az:=hr
  refine an' (Φ:=az) (fun (⟨J,C,f,e,l,k,j,g,E,D,K⟩:Int×Zf×Option Addr×Nat×Option Addr×Nat×Option Addr×Nat×Option Addr×Nat×Mem)=>((J,C):Int×Zf)) (fun ⟨J,C,f,e,l,k,j,g,E,D,K⟩=>[(1,i' av),(2,pt0 b1),(4,pt0 b2),(5,pt0 b3),(7,i' J)]) (fun ⟨J,C,f,e,l,k,j,g,E,D,K⟩=>Mem.le aU K/\y34' K f e l k j g E D C) (fun ⟨J,C,f,e,l,k,j,g,E,D,K⟩=>St w0 G0 K [(2,bk0 b1 (v25' L P S R Q) 25),(4,bk0 b2 ([.slice none 0 0,.slice none 0 0,.slice none 0 0,i' 0,.slice none 0 0]) 34),(5,bk0 b3 (v34' C f e l k j g E D) 34)]) ⟨0,bz.1,ad,ab,af,al,Z,aa,aM,aR,aU⟩ hr (f5 z z z z z) ⟨mr,ac,ai,Y,aN⟩ (w3 z z z) ?_
  .intro bb gx hx hr
   obtain⟨J,C,f,e,l,k,j,g,E,D,K⟩:=gx
   obtain⟨u,B,F,y,T⟩:=hx
   refine aM' (fun (gx:Mem)=>match gx with|ae=>[(1,i' av),(2,pt0 b1),(4,pt0 b2),(5,pt0 b3),(7,i' J)]) (fun (gx:Mem)=>match gx with|ae=>Mem.le K ae/\(Zh0 L J C).wp (Out bb az)) (fun (gx:Mem)=>match gx with|ae=>St w0 G0 ae [(2,bk0 b1 (v25' L P S R Q) 25),(4,bk0 b2 ([.slice none 0 0,.slice none 0 0,.slice none 0 0,i' 0,.slice none 0 0]) 34),(5,bk0 b3 (v34' C f e l k j g E D) 34)]) ?_ ?_
   .refine sr<|mv z z<|yy (Y0.Zhb z) z<|yy (f' 2 sc23 z z z) z<|yy (M' dq' (x.mono (mt (mt I H) u)) z) z<|ad' hr z (ai' z z) z (fun bu hr=>?_) (fun bu hr=>?_)
    .refine mv z z<|gy z z (e' z) z<|gy z z (e' z) z<|gy z z (ai' z z) z<|yy (h' z z) z<|nx<|L' hr z (fun bB hr=>?_) (fun bB hr=>?_)
     .refine q'<|ar' K ⟨mr,hr⟩ (f5 z z z z z) (w3 z z z)
     refine ao'<|r'<|r'<|O'<|ap' ⟨C,f,e,l,k,j,g,E,D,K⟩ ⟨u,B,F,y,T,hr⟩ (f2 z z) (w2 z z)
    refine mv z z<|sn3 z<|yy (l' z z) z<|nx<|bb' z<|ao'<|r'<|r'<|O'<|ap' ⟨C,f,e,l,k,j,g,E,D,K⟩ ⟨u,B,F,y,T,hr⟩ (f2 z z) (w2 z z)
   rintro ae ⟨m,hr⟩
   refine n'<|B'<|n'<|ah' [ff,ff,ff,ff,ff,ff,ff,ff,ff,ff] mix (by kernel_rfl) fun hb=>cn (fun _ c=>Y0.Zhb z)<|cn (fun _ c=>f' 2 sc23 z z z)<|cn (fun _ c=>e' z) ?_
   obtain⟨x1,bd,hr⟩:=hr
   have N1:=mt (mt (mt I H) u) m
   refine cn (fun _ c=>T' dq' sz82 ((x.mono N1).mono c) z z bd)<|cn (fun _ c=>Y0.ZpS z)<|cn (fun _ c=>Z' sc5 z (aF' (I' (I' (aW' (ay' (ae' x bd))) N1) c)))<|cn (fun _ c=>aN' aQ' aB' z)<|cn (fun _ c=>aj' z)<|cn (fun _ c=>f' 5 bc' z z z)<|cn (fun _ c=>M' D' ((T.mono m).mono c) z)<|R' hb ?_
   obtain⟨bA,hr⟩:=hr
   refine yy (bA' z z bA) z<|sg z z<|u'<|aq'<|g'<|sr<|sx0 z z<|aM' (fun (⟨ao,aC⟩:Int×Mem)=>[(1,i' av),(2,pt0 b1),(4,pt0 b2),(5,pt0 b3),(7,i' J),(8,i' (Int.tmod (i64.wrap x1.at') (C.v.length:Int))),(9,i' ao)]) (fun ⟨ao,aC⟩=>Mem.le ae aC/\(Zbu L J C x1 ao).wp (Out bb az)) (fun ⟨ao,aC⟩=>St w0 G0 aC [(2,bk0 b1 (v25' L P S R Q) 25),(4,bk0 b2 ([.slice none 0 0,.slice none 0 0,.slice none 0 0,i' 0,.slice none 0 0]) 34),(5,bk0 b3 (v34' C f e l k j g E D) 34)]) ?_ ?_
   .refine sr<|yy (Y0.Zhb z) z<|yy (f' 2 sc23 z z z) z<|mv z z ?_
    obtain⟨x3,a9,hr⟩:=hr
    refine yy (T' dq' sz82 (x.mono N1) z z a9) z<|yy (Y0.ZnD z) z<|yy (Z' sc5 z (aF' (I' (aW' (ax' (ay' (ae' x a9)))) N1))) z<|yy (bA' z z (by decide)) z<|yy (au' z z) z<|nx<|L' hr z (fun bC hr=>?_) (fun bC hr=>?_)
    .refine ah' [ff,ff,ff,ff,ff,ff,ff,ff,ff,ff,ff] mix (by kernel_rfl) fun hb=>cn (fun _ c=>Y0.Zhb z)<|cn (fun _ c=>f' 2 sc23 z z z)<|cn (fun _ c=>e' z) ?_
     obtain⟨x4,a8,hr⟩:=hr
     refine cn (fun _ c=>T' dq' sz82 ((x.mono N1).mono c) z z a8)<|cn (fun _ c=>Y0.ZnD z)<|cn (fun _ c=>Z' sc5 z (aF' (I' (I' (aW' (ax' (ay' (ae' x a8)))) N1) c)))<|cn (fun _ c=>dX' z z (by decide))<|cn (fun _ c=>aN' aQ' aB' z)<|cn (fun _ c=>aj' z)<|cn (fun _ c=>f' 5 bc' z z z)<|cn (fun _ c=>M' D' ((T.mono m).mono c) z)<|R' hb ?_
     obtain⟨bE,hr⟩:=hr
     refine yy (bA' z z bE) z<|sg z z<|u'<|aq'<|ar' ⟨Int.tmod (i64.wrap (u8.wrap (Int.tdiv x4.other 4))) (C.v.length:Int),ae⟩ ⟨mr,hr⟩ (f7 z z z z z z z) (w3 z z z)
    refine q'<|ar' ⟨(-1),ae⟩ ⟨mr,hr⟩ (f7 z z z z z z z) (w3 z z z)
   rintro⟨ao,aC⟩ ⟨A,hr⟩
   refine sr<|yy (o' 5 aG' z z z) z<|mv z z ?_
   obtain⟨bS,bp,hr⟩:=hr
   refine P' z z (t' E12 z) (fc' bp) z (⟨(B.mono (mt m A)),(F.mono (mt m A)),(y.mono (mt m A)),(T.mono (mt m A))⟩) (fun bH bU M aS=>?_)
   obtain⟨a4,aZ,bc,a7,a6,a0,rfl,ay,aD,aA⟩:=aS
   refine mv z z<|yy (y' z z) z<|yy (y' z z) z<|V' 10 z z31 z fun b4=>s' 10 z aV' z z z z z (List.all_eq_true.1 z)<|sx0 z z<|ah' [ff,ff,ff,ff,ff,ff,ff,ff,ff,ff,ff] mix (by kernel_rfl) fun hb=>cn (fun _ c=>o' 5 aG' z z z)<|cn (fun _ c=>e' z)<|cn (fun _ c=>e' z)<|cn (fun _ c=>o' 10 at' z z z)<|cn (fun _ c=>Y0.Zhb z)<|cn (fun _ c=>f' 2 sc23 z z z)<|cn (fun _ c=>e' z) ?_
   obtain⟨x2,ba,hr⟩:=hr
   refine cn (fun _ c=>T' dq' sz82 ((x.mono (mt (mt N1 A) M)).mono c) z z ba)<|cn (fun _ c=>Y0.ZpT z) ?_
   obtain⟨p1,bP,bw,bt⟩:=bF' (I' (ax' (ax' (ay' (ae' x ba)))) (mt (mt N1 A) M))
   refine cn (fun _ c=>Z' sc22 z (c _ _ _ bw)) ?_
   obtain⟨be,bf,hr⟩:=hr
   refine aX' (post:=wl' ab' be) (fun _=>z) (fun _ _=>t' E28 z) (et' bf) z (fun G' c=>⟨(ay.mono c),(aD.mono c),(aA.mono c),(bt.mono c)⟩) (fun v G1 G2 c h=>?_) ?_
   .obtain⟨bl,bq,rfl,aI⟩:=h
    exact⟨_,_,z,aI.mono c⟩
   refine cU' (d:=78) (post:=wl' ab' be) (fun bN bQ W aK=>?_)
   obtain⟨bl,bq,rfl,aI⟩:=aK
   obtain⟨bD,bm,hr⟩:=hr
   have N2:=mt (mt (mt m A) M) W
   refine P' z z (t' E36 z) (fx' bm) z (⟨(B.mono N2),(F.mono N2),(y.mono N2),(T.mono N2),aI⟩) (fun bI bx aY aQ=>?_)
   obtain⟨aj,ag,aw,ap,am,an,aX,aV,rfl,ah,ar,ak,aT⟩:=aQ
   refine yy (Y0.fieldA underlying84 z aG' z z) z<|s' 5 z bH' z z z z z (List.all_eq_true.1 z)<|u'<|aq'<|J'<|g'<|A'<|mv z z<|yy (X' z z) z<|sg z z<|u'<|Y' ⟨i64.wrap (J+1),bD.h,aj,ag,aw,ap,am,an,aX,aV,bx⟩ hr ⟨(mt (mt (mt (mt (mt u m) A) M) W) aY),ah,ar,ak,aT⟩ (f5 z z z z z) (w3 z z z)
 rintro⟨O,q,p,t,s,o,n,V,U,X⟩ ⟨bF,aq,ax,au,a1,hr⟩
 refine g'<|sr<|yy (o' 5 aG' z z z) z<|s' 4 z bH' z z z z z (List.all_eq_true.1 z)<|nx<|j' ?_
 obtain rfl:_=r:=hr
 exact k' z (aa' (i:=4) aG' z z z) ⟨_,_,_,_,_,_,_,_,z,aq,ax,au,a1⟩
theorem gg'{s q h g j i r}(hr:(Zik s q).Ret r):Ctr prog 154 #[.agg ((v128' s h g)).toArray,.agg ((v128' q j i)).toArray] (fun G=>sl (Rp.int .u32) G h g s.mag/\sl (Rp.int .u32) G j i q.mag) (fun G v=>v = .bool r):=by
 refine E' (args:=[_,_]) (N:=38) func154 z z z (fun B p O x=>?_)
 obtain⟨e,k⟩:=x
 refine sr<|af' 2 z z z fun F=>af' 3 z z z fun D=>sx0 z z<|n'<|sr<|yy (bs' z) z<|yy (f' 2 sc4 z z z) z<|yy (bs' z) z<|yy (f' 3 sc4 z z z) z<|ad' hr z (Y0.neqB cv' z z) z (fun C hr=>?_) (fun C hr=>?_)
 .refine mv z z<|sn7 z<|yy (h' z z) z<|nx<|U' z<|sr<|sx0 z z<|j'<|a' (k0' hr z z)
 refine mv z z<|gy z z (aZ' z) z<|gy z z (f' 2 bL' z z z) z<|gy z z (M' C' e z) z<|gy z z (aZ' z) z<|gy z z (f' 3 bL' z z z) z<|gy z z (M' C' k z) z<|gy z z (aw' z z) z<|yy (l' z z) z<|nx<|L' hr z (fun E hr=>?_) (fun E hr=>?_)
 .exact (show False from hr).elim
 refine q'<|g'<|n'<|sr<|sx0 z z<|am' (fun (m:Mem)=>match m with|l=>[]) (fun (m:Mem)=>match m with|l=>Mem.le p l/\(Zfi).Ret r) (fun (m:Mem)=>match m with|l=>St B p l []) ?_ ?_
 .refine B' ?_
  let o:(Bool⊕Unit)->Prop:=fun K=>((fun J=>match J with | .inl rv1=>Cq.ret rv1 | .inr ()=>Zfi:(Bool⊕Unit)->Cq Bool) K).wp (fun a=>a=r)
  replace hr:(Cq.loop _ _).wp o:=hr
  refine an' (Φ:=o) (fun (⟨n,f⟩:Int×Mem)=>(n:Int)) (fun ⟨n,f⟩=>[(2,pt0 F),(3,pt0 D),(5,i' n)]) (fun ⟨n,f⟩=>Mem.le p f) (fun ⟨n,f⟩=>St B p f [(2,bk0 F (v128' s h g) 128),(3,bk0 D (v128' q j i) 128)]) ⟨0,p⟩ hr (f3 z z z) mr (w2 z z) ?_
  .intro M m L hr
   obtain⟨n,f⟩:=m
   have d:=L
   refine n'<|sr<|mv z z<|yy (aZ' z) z<|yy (f' 2 bL' z z z) z<|yy (M' C' (e.mono d) z) z<|yy (ai' z z) z<|nx<|L' hr z (fun y hr=>?_) (fun y hr=>?_)
   .refine q'<|g'<|n'<|B'<|n'<|ah' [ff,ff,ff,ff,ff,ff,ff,ff,ff,ff] mix (by kernel_rfl) fun I=>cn (fun _ c=>aZ' z)<|cn (fun _ c=>f' 2 bL' z z z)<|cn (fun _ c=>e' z) ?_
    obtain⟨Q,t,hr⟩:=hr
    refine cn (fun _ c=>T' C' bt' ((e.mono d).mono c) z z t)<|cn (fun _ c=>Z' bV' z (aF' (I' (I' (ae' e t) d) c)))<|cn (fun _ c=>aZ' z)<|cn (fun _ c=>f' 3 bL' z z z)<|cn (fun _ c=>e' z) ?_
    obtain⟨P,u,hr⟩:=hr
    refine cn (fun _ c=>T' C' bt' ((k.mono d).mono c) z z u)<|cn (fun _ c=>Z' bV' z (aF' (I' (I' (ae' k u) d) c)))<|R' I<|yy (aw' z z) z<|u'<|aq'<|g'<|L' hr z (fun A hr=>?_) (fun A hr=>?_)
    .exact (show False from hr).elim
    refine q'<|J'<|g'<|A'<|mv z z<|yy (X' z z) z<|sg z z<|u'<|Y' ⟨i64.wrap (n+1),f⟩ hr d (f3 z z z) (w2 z z)
   refine ao'<|r'<|r'<|O'<|ap' f ⟨d,hr⟩ fn (wk ln)
 rintro l ⟨H,hr⟩
 refine g'<|sr<|sx0 z z<|j' (k0' hr z z)
theorem gX'{l k j d c h i g f e r}(hr:(Zij l k).Ret r):Ctr prog 105 #[.agg ((v130' l j d c h)).toArray,.agg ((v130' k i g f e)).toArray] (fun G=>sl (Rp.int .u32) G j d l.num.mag/\sl (Rp.int .u32) G c h l.den.mag/\sl (Rp.int .u32) G i g k.num.mag/\sl (Rp.int .u32) G f e k.den.mag) (fun G v=>v = .bool r):=by
 refine E' (args:=[_,_]) (N:=17) func105 z z z (fun A D x q=>?_)
 obtain⟨p,o,n,m⟩:=q
 refine sr<|af' 2 z z z fun C=>af' 3 z z z fun B=>sg z z<|nr<|yy (cE' z) z<|yy (aI' ((v128' l.num j d)).toArray 2 bu' z z z (aU' ([]) ((v128' l.num j d)) ((v128' l.den c h)))) z<|yy (cE' z) z<|yy (aI' ((v128' k.num i g)).toArray 3 bu' z z z (aU' ([]) ((v128' k.num i g)) ((v128' k.den f e)))) z ?_
 obtain⟨u,s,hr⟩:=hr
 refine F' z z (t' E154 z) (gg' s) z (⟨p,n⟩) ?_
 cases u
 .refine mv z z<|sn5 z<|yy (l' z z) z<|sx0 z z<|j' (k0' hr z z)
 refine mv z z<|gy z z (cj' z) z<|gy z z (aI' ((v128' l.den c h)).toArray 2 bu' z z z (aU' ((v128' l.num j d)) ((v128' l.den c h)) ([]))) z<|gy z z (cj' z) z<|gy z z (aI' ((v128' k.den f e)).toArray 3 bu' z z z (aU' ((v128' k.num i g)) ((v128' k.den f e)) ([]))) z ?_
 obtain⟨y,t,hr⟩:=hr
 refine F' (v' z z) z (t' E154 z) (gg' t) z (⟨o,m⟩)<|yy (h' z z) z<|sx0 z z<|j' (k0' hr z z)
theorem gl'{l k d j i g e h c f r}(hr:(ZcA l k).Ret r):Ctr prog 75 #[.agg (((v130' l.c d j i g):List Value)++(vecG (Value.int .i64) 8 l.m)).toArray,.agg (((v130' k.c e h c f):List Value)++(vecG (Value.int .i64) 8 k.m)).toArray] (fun G=>sl (Rp.int .u32) G d j l.c.num.mag/\sl (Rp.int .u32) G i g l.c.den.mag/\sl (Rp.int .u32) G e h k.c.num.mag/\sl (Rp.int .u32) G c f k.c.den.mag) (fun G v=>v = .bool r):=by
 refine E' (args:=[_,_]) (N:=17) func75 z z z (fun y C x q=>?_)
 obtain⟨o,m,p,n⟩:=q
 refine sr<|af' 2 z z z fun B=>af' 3 z z z fun A=>sg z z<|nr<|yy (bB' z) z<|yy (aI' (vecG (Value.int .i64) 8 l.m).toArray 2 bS' z z (ac' _ _ _) (aU' ((v130' l.c d j i g)) (vecG (Value.int .i64) 8 l.m) ([]))) z<|yy (bB' z) z<|yy (aI' (vecG (Value.int .i64) 8 k.m).toArray 3 bS' z z (ac' _ _ _) (aU' ((v130' k.c e h c f)) (vecG (Value.int .i64) 8 k.m) ([]))) z<|ad' hr z (Y0.eqlV aO' aB' sc3 sz3 eg120 z z) z (fun t hr=>?_) (fun t hr=>?_)
 .refine mv z z<|gy z z (cQ' z) z<|gy z z (aI' ((v130' l.c d j i g)).toArray 2 cR' z z z (aU' ([]) ((v130' l.c d j i g)) ((vecG (Value.int .i64) 8 l.m)))) z<|gy z z (cQ' z) z<|gy z z (aI' ((v130' k.c e h c f)).toArray 3 cR' z z z (aU' ([]) ((v130' k.c e h c f)) ((vecG (Value.int .i64) 8 k.m)))) z ?_
  obtain⟨u,s,hr⟩:=hr
  refine F' (v' z z) z (t' E105 z) (gX' s) z (⟨o,m,p,n⟩)<|yy (h' z z) z<|sx0 z z<|j' (k0' hr z z)
 refine mv z z<|sn5 z<|yy (l' z z) z<|sx0 z z<|j' (k0' hr z z)
theorem gh'{E C x t q p r}(hr:(Zge E C).Ret r):Ctr prog 58 #[.slice x E.length t,.slice q C.length p] (fun G=>sl K' G x t E/\sl K' G q p C) (fun G v=>v = .bool r):=by
 refine E' (args:=[_,_]) (N:=27) func58 z z z (fun S u ad M=>?_)
 obtain⟨n,s⟩:=M
 refine sr<|sx0 z z<|n'<|sr<|mv z z<|yy (M' ak' n z) z<|mv z z<|yy (M' ak' s z) z<|yy (aw' z z) z<|nx<|L' hr z (fun V hr=>?_) (fun V hr=>?_)
 .exact (show False from hr).elim
 refine q'<|g'<|n'<|sr<|sx0 z z<|am' (fun (l:Mem)=>match l with|k=>[]) (fun (l:Mem)=>match l with|k=>Mem.le u k/\(Zfo).Ret r) (fun (l:Mem)=>match l with|k=>St S u k []) ?_ ?_
 .refine B' ?_
  let o:(Bool⊕Unit)->Prop:=fun Z=>((fun Y=>match Y with | .inl rv1=>Cq.ret rv1 | .inr ()=>Zfo:(Bool⊕Unit)->Cq Bool) Z).wp (fun a=>a=r)
  replace hr:(Cq.loop _ _).wp o:=hr
  refine an' (Φ:=o) (fun (⟨m,e⟩:Int×Mem)=>(m:Int)) (fun ⟨m,e⟩=>[(0,.slice x E.length t),(1,.slice q C.length p),(5,i' m)]) (fun ⟨m,e⟩=>Mem.le u e) (fun ⟨m,e⟩=>St S u e []) ⟨0,u⟩ hr (f3 z z z) mr (wk ln) ?_
  .intro ac l hx hr
   obtain⟨m,e⟩:=l
   have c:=hx
   refine n'<|sr<|mv z z<|mv z z<|yy (M' ak' (n.mono c) z) z<|yy (ai' z z) z<|nx<|L' hr z (fun Q hr=>?_) (fun Q hr=>?_)
   .refine q'<|g'<|n'<|B'<|n'<|ah' [ff,ff,ff,ff,ff,ff,ff,ff] mix (by kernel_rfl) fun X=>cn (fun _ d=>e' z)<|cn (fun _ d=>e' z) ?_
    obtain⟨x1,K,hr⟩:=hr
    refine cn (fun _ d=>T' ak' cg' ((n.mono c).mono d) z z K) ?_
    obtain⟨y,B,D,F,T,f,h⟩:=do' (I' (ae' n K) c)
    refine cn (fun _ d=>aA' _ ag133 z z (fun j v O=>d _ _ _ (T j v O)))<|cn (fun _ d=>e' z)<|cn (fun _ d=>e' z) ?_
    obtain⟨x2,L,hr⟩:=hr
    refine cn (fun _ d=>T' ak' cg' ((s.mono c).mono d) z z L) ?_
    obtain⟨J,A,I,H,U,g,i⟩:=do' (I' (ae' s L) c)
    refine cn (fun _ d=>aA' _ ag133 z z (fun j v O=>d _ _ _ (U j v O)))<|R' X ?_
    obtain⟨ab,P,hr⟩:=hr
    refine F' z z (t' E75 z) (gl' P) z (⟨f,h,g,i⟩)<|yy (al' z) z<|u'<|aq'<|g'<|aL' hr z (fun R hr=>?_) (fun R hr=>?_)
    .exact (show False from hr).elim
    refine q'<|J'<|g'<|A'<|mv z z<|yy (X' z z) z<|sg z z<|u'<|Y' ⟨i64.wrap (m+1),e⟩ hr c (f3 z z z) (wk ln)
   refine ao'<|r'<|r'<|O'<|ap' e ⟨c,hr⟩ fn (wk ln)
 rintro k ⟨W,hr⟩
 refine g'<|sr<|sx0 z z<|j' (k0' hr z z)
theorem eT'{s q l p m o r}(hr:(ZbB s q).Ret r):Ctr prog 43 #[.slice l s.length p,.slice m q.length o] (fun G=>sl b' G l p s/\sl b' G m o q) (fun G v=>v = .bool r):=by
 refine E' (args:=[_,_]) (N:=42) func43 z z z (fun H n V A=>?_)
 obtain⟨f,g⟩:=A
 refine sr<|sx0 z z<|n'<|sr<|mv z z<|yy (M' w' f z) z<|mv z z<|yy (M' w' g z) z<|yy (aw' z z) z<|nx<|L' hr z (fun K hr=>?_) (fun K hr=>?_)
 .exact (show False from hr).elim
 refine q'<|g'<|n'<|sr<|sx0 z z<|am' (fun (i:Mem)=>match i with|h=>[]) (fun (i:Mem)=>match i with|h=>Mem.le n h/\(ZcD).Ret r) (fun (i:Mem)=>match i with|h=>St H n h []) ?_ ?_
 .refine B' ?_
  let k:(Bool⊕Unit)->Prop:=fun Q=>((fun P=>match P with | .inl rv1=>Cq.ret rv1 | .inr ()=>ZcD:(Bool⊕Unit)->Cq Bool) Q).wp (fun a=>a=r)
  replace hr:(Cq.loop _ _).wp k:=hr
  refine an' (Φ:=k) (fun (⟨j,e⟩:Int×Mem)=>(j:Int)) (fun ⟨j,e⟩=>[(0,.slice l s.length p),(1,.slice m q.length o),(5,i' j)]) (fun ⟨j,e⟩=>Mem.le n e) (fun ⟨j,e⟩=>St H n e []) ⟨0,n⟩ hr (f3 z z z) mr (wk ln) ?_
  .intro T i R hr
   obtain⟨j,e⟩:=i
   have d:=R
   refine n'<|sr<|mv z z<|mv z z<|yy (M' w' (f.mono d) z) z<|yy (ai' z z) z<|nx<|L' hr z (fun D hr=>?_) (fun D hr=>?_)
   .refine q'<|g'<|n'<|B'<|n'<|ah' [ff,ff,ff,ff,ff,ff,ff,ff,ff,ff,ff,ff,ff,ff,ff,ff,ff,ff,ff,ff,ff,ff] mix (by kernel_rfl) fun E=>cn (fun _ c=>e' z)<|cn (fun _ c=>e' z) ?_
    obtain⟨x1,t,hr⟩:=hr
    refine cn (fun _ c=>T' w' aT' ((f.mono d).mono c) z z t)<|cn (fun _ c=>bo' z)<|cn (fun _ c=>Z' sc3 z (aF' (I' (I' (aW' (ay' (ae' f t))) d) c)))<|cn (fun _ c=>e' z)<|cn (fun _ c=>e' z) ?_
    obtain⟨x2,x,hr⟩:=hr
    refine cn (fun _ c=>T' w' aT' ((g.mono d).mono c) z z x)<|cn (fun _ c=>bo' z)<|cn (fun _ c=>Z' sc3 z (aF' (I' (I' (aW' (ay' (ae' g x))) d) c)))<|bz' hr z (fun _ c=>aw' z z) (fun I hr=>?_) (fun I hr=>?_)
    .refine cn (fun _ c=>e' z)<|cf z z<|cf z z<|cf z z<|cf z z<|cf z z<|cf z z<|cf z z<|cf z z<|cf z z<|cf z z<|R' E<|sn2 z<|yy (h' z z) z<|u'<|aq'<|g'<|U' z<|sr<|sx0 z z<|j'<|m'<|a'<|a'<|m'<|ag'<|a' (k0' hr z z)
    refine cn (fun _ c=>e' z)<|cy z z (fun _ c=>e' z)<|cy z z (fun _ c=>e' z) ?_
    obtain⟨x3,u,hr⟩:=hr
    refine cy z z (fun _ c=>T' w' aT' ((f.mono d).mono c) z z u)<|cy z z (fun _ c=>bX' z) ?_
    obtain⟨Z,W,J,C⟩:=bF' (I' (ax' (ay' (ae' f u))) d)
    refine cy z z (fun _ c=>Z' cF' z (c _ _ _ J))<|cy z z (fun _ c=>e' z)<|cy z z (fun _ c=>e' z) ?_
    obtain⟨X,y,hr⟩:=hr
    refine cy z z (fun _ c=>T' w' aT' ((g.mono d).mono c) z z y)<|cy z z (fun _ c=>bX' z) ?_
    obtain⟨Y,U,M,L⟩:=bF' (I' (ax' (ay' (ae' g y))) d)
    refine cy z z (fun _ c=>Z' cF' z (c _ _ _ M))<|R' E ?_
    obtain⟨S,B,hr⟩:=hr
    refine F' (v' z z) z (t' E58 z) (gh' B) z (⟨C,L⟩)<|gy z z (al' z) z<|yy (l' z z) z<|u'<|aq'<|g'<|aL' hr z (fun F hr=>?_) (fun F hr=>?_)
    .exact (show False from hr).elim
    refine q'<|J'<|g'<|A'<|mv z z<|yy (X' z z) z<|sg z z<|u'<|Y' ⟨i64.wrap (j+1),e⟩ hr d (f3 z z z) (wk ln)
   refine ao'<|r'<|r'<|O'<|ap' e ⟨d,hr⟩ fn (wk ln)
 rintro h ⟨O,hr⟩
 refine g'<|sr<|sx0 z z<|j' (k0' hr z z)
theorem dH'{B A m i o n g l f h q s k e r}(hr:(Zep B A).Ret r):Ctr prog 15 #[.agg ((v31' B m i o n g l)).toArray,.agg ((v31' A f h q s k e)).toArray] (fun G=>sl Rp.str G m i B.vars/\sl b' G o n B.eqs/\sl b' G g l B.neqs/\y31' G f h q s k e A) (fun G v=>v = .bool r):=by
 refine E' (args:=[_,_]) (N:=54) func15 z z z (fun Q K ag R=>?_)
 obtain⟨j,I,E,u,J,F⟩:=R
 refine sr<|af' 2 z z z fun M=>af' 3 z z z fun L=>sx0 z z<|aM' (fun (t:Mem)=>match t with|y=>[(2,pt0 M),(3,pt0 L)]) (fun (t:Mem)=>match t with|y=>Mem.le K y/\(ZhY B A).Ret r) (fun (t:Mem)=>match t with|y=>St Q K y [(2,bk0 M (v31' B m i o n g l) 31),(3,bk0 L (v31' A f h q s k e) 31)]) ?_ ?_
 .refine sr<|yy (aH' z) z<|yy (f' 2 bC' z z z) z<|yy (M' H' j z) z<|yy (aH' z) z<|yy (f' 3 bC' z z z) z<|yy (M' H' u z) z<|ad' hr z (aw' z z) z (fun Y hr=>?_) (fun Y hr=>?_)
  .refine mv z z<|sn5 z<|yy (h' z z) z<|mv z z<|sn6 z<|yy (h' z z) z<|mv z z<|sn6 z<|yy (h' z z) z<|nx<|U' z<|sr<|sx0 z z<|j'<|a' (k0' hr z z)
  refine mv z z<|gy z z (bw' z) z<|gy z z (f' 2 sc3 z z z) z<|gy z z (bw' z) z<|gy z z (f' 3 sc3 z z z) z<|ad' hr (v' z z) (aw' z z) z (fun X hr=>?_) (fun X hr=>?_)
  .refine yy (l' z z) z<|mv z z<|sn6 z<|yy (h' z z) z<|mv z z<|sn6 z<|yy (h' z z) z<|nx<|U' z<|sr<|sx0 z z<|j'<|a' (k0' hr z z)
  refine yy (l' z z) z<|mv z z<|gy z z (aY' z) z<|gy z z (f' 2 br' z z z) z<|gy z z (aY' z) z<|gy z z (f' 3 br' z z z) z ?_
  obtain⟨V,S,hr⟩:=hr
  refine F' (v' z z) z (t' E43 z) (eT' S) z (⟨I,J⟩) ?_
  cases V
  .refine gy z z (al' z) z<|yy (l' z z) z<|mv z z<|sn6 z<|yy (h' z z) z<|nx<|U' z<|sr<|sx0 z z<|j'<|a' (k0' hr z z)
  refine gy z z (al' z) z<|yy (l' z z) z<|mv z z<|gy z z (ba' z) z<|gy z z (f' 2 br' z z z) z<|gy z z (ba' z) z<|gy z z (f' 3 br' z z z) z ?_
  obtain⟨ah,T,hr⟩:=hr
  refine F' (v' z z) z (t' E43 z) (eT' T) z (⟨E,F⟩)<|gy z z (al' z) z<|yy (l' z z) z<|nx<|aL' hr z (fun W hr=>?_) (fun W hr=>?_)
  .exact (show False from hr).elim
  refine q'<|ar' K ⟨mr,hr⟩ (f2 z z) (w2 z z)
 rintro y ⟨p,hr⟩
 refine n'<|sr<|sx0 z z<|am' (fun (t:Mem)=>match t with|C=>[]) (fun (t:Mem)=>match t with|C=>Mem.le y C/\(Zfr).Ret r) (fun (t:Mem)=>match t with|C=>St Q K C []) ?_ ?_
 .refine B' ?_
  let H:(Bool⊕Unit)->Prop:=fun oo=>((fun ov=>match ov with | .inl rv1=>Cq.ret rv1 | .inr ()=>Zfr:(Bool⊕Unit)->Cq Bool) oo).wp (fun a=>a=r)
  replace hr:(Cq.loop _ _).wp H:=hr
  refine an' (Φ:=H) (fun (⟨D,x⟩:Int×Mem)=>(D:Int)) (fun ⟨D,x⟩=>[(2,pt0 M),(3,pt0 L),(5,i' D)]) (fun ⟨D,x⟩=>Mem.le y x) (fun ⟨D,x⟩=>St Q K x [(2,bk0 M (v31' B m i o n g l) 31),(3,bk0 L (v31' A f h q s k e) 31)]) ⟨0,y⟩ hr (f3 z z z) mr (w2 z z) ?_
  .intro af t hx hr
   obtain⟨D,x⟩:=t
   have d:=hx
   refine n'<|sr<|mv z z<|yy (aH' z) z<|yy (f' 2 bC' z z z) z<|yy (M' H' (j.mono (mt p d)) z) z<|yy (ai' z z) z<|nx<|L' hr z (fun Z hr=>?_) (fun Z hr=>?_)
   .refine q'<|g'<|n'<|B'<|n'<|ah' [ff,ff,ff,ff,ff,ff,ff,ff,ff,ff] mix (by kernel_rfl) fun hb=>cn (fun _ c=>aH' z)<|cn (fun _ c=>f' 2 bC' z z z)<|cn (fun _ c=>e' z) ?_
    obtain⟨x1,O,hr⟩:=hr
    refine cn (fun _ c=>T' H' sz9 ((j.mono (mt p d)).mono c) z z O)<|cn (fun _ c=>Z' sc9 z (cb' (I' (I' (ae' j O) (mt p d)) c)))<|cn (fun _ c=>aH' z)<|cn (fun _ c=>f' 3 bC' z z z)<|cn (fun _ c=>e' z) ?_
    obtain⟨x2,P,hr⟩:=hr
    refine cn (fun _ c=>T' H' sz9 ((u.mono (mt p d)).mono c) z z P)<|cn (fun _ c=>Z' sc9 z (cb' (I' (I' (ae' u P) (mt p d)) c)))<|R' hb<|yy (Y0.neqS bl' z z) z<|u'<|aq'<|g'<|L' hr z (fun U hr=>?_) (fun U hr=>?_)
    .exact (show False from hr).elim
    refine q'<|J'<|g'<|A'<|mv z z<|yy (X' z z) z<|sg z z<|u'<|Y' ⟨i64.wrap (D+1),x⟩ hr d (f3 z z z) (w2 z z)
   refine ao'<|r'<|r'<|O'<|ap' x ⟨d,hr⟩ fn (wk ln)
 rintro C ⟨aa,hr⟩
 refine g'<|sr<|sx0 z z<|j' (k0' hr z z)
end Go.Proofs.YtnjiloaolgjedaaGreat

namespace Go.Proofs.YtnjiloaolgjedaaGreat
open Go.IntKind (i8 i16 i32 i64 u8 u16 u32 u64)
open Go.Proofs.Tryz
open Go Go.EL Go.RowKit Go.Proofs
abbrev mx:=@Mem.le_trans
set_option maxHeartbeats 2000000 in
theorem Zff(bm:ZE)(bS:(List (List Zs)))(m:Int)(bF:Option Addr)(bB:Nat)(bG:Option Addr)(bL:Nat)(bs:List Value)(c1:Unit)(r:Bool)(hr:(ZcQ bm bS m).Ret r):Ctr prog 6 #[.agg ((v25' bm bF bB bG bL)).toArray,.agg (bs).toArray,.int .u8 m] (fun G=>sl cr' G bF bB bm.s/\sl dJ' G bG bL bm.v/\ArRd (Rp.sl cr') 2 G bs c1 bS) (fun G v=>v = .bool r):=by
 refine E' (args:=[_,_,_]) (N:=224) func6 z z z (fun w0 G0 b0 dl=>?_)
 obtain⟨cL,cD,a4⟩:=dl
 refine sr<|af' 3 z z z fun b1=>af' 4 z z z fun b2=>sg z z<|nr ?_
 obtain⟨aU,dI,hr⟩:=hr
 refine F' z z (t' E9 z) (dy' dI) z (trivial)<|sx0 z z<|n'<|sr<|mv z z<|yy (al' z) z<|nx<|aL' hr z (fun dZ hr=>?_) (fun dZ hr=>?_)
 .refine sr<|sx0 z z<|j'<|a' (k0' hr z z)
 refine q'<|g'<|sr<|yy (o' 3 ag25 z z z) z ?_
 obtain⟨au,dB,hr⟩:=hr
 refine P' z z (t' E10 z) (ek' dB) z ?_ (fun eM e9 a2 ca=>?_)
 .exact⟨cL,cD⟩
 obtain⟨R,Q,X,Z,I,M,a3,a1,rfl,J,Y,S,aB⟩:=ca
 refine V' 8 z z34 z fun b3=>s' 8 z bH' z z z z z (List.all_eq_true.1 z)<|nr<|mv z z<|yy (aN' aQ' aB' z) z<|yy (aj' z) z<|yy (f' 8 bc' z z z) z<|yy (M' D' aB z) z ?_
 obtain⟨d6,hr⟩:=hr
 refine yy (bA' z z d6) z<|sg z z<|nr<|yy (o' 8 aG' z z z) z<|mv z z ?_
 obtain⟨dg,dC,hr⟩:=hr
 refine P' z z (t' E11 z) (bJ' dC) z ?_ (fun ey dk x co=>?_)
 .exact⟨J,Y,S,aB⟩
 obtain⟨bo,bt,bC,bK,bv,bp,rfl,al,az,an⟩:=co
 refine mv z z<|yy (y' z z) z<|yy (y' z z) z<|V' 10 z z31 z fun b4=>s' 10 z aV' z z z z z (List.all_eq_true.1 z)<|sx0 z z<|aM' (fun (gx:Mem)=>match gx with|bz=>[(2,.int .u8 m),(4,pt0 b2),(7,.bool aU),(8,pt0 b3),(9,i' (Int.tmod (i64.wrap m) (au.v.length:Int))),(10,pt0 b4)]) (fun (gx:Mem)=>match gx with|bz=>Mem.le dk bz/\(ZbY bS m aU au dg).Ret r) (fun (gx:Mem)=>match gx with|bz=>St w0 G0 bz [(4,bk0 b2 (bs) 70),(8,bk0 b3 (v34' au R Q X Z I M a3 a1) 34),(10,bk0 b4 (v31' dg.1 bo bt bC bK bv bp) 31)]) ?_ ?_
 .refine sr<|mv z z<|ad' hr z (aw' z z) z (fun dF hr=>?_) (fun dF hr=>?_)
  .refine mv z z<|sn3 z<|yy (h' z z) z<|nx<|U' z<|sr<|sx0 z z<|j'<|a' (k0' hr z z)
  refine mv z z<|gy z z (o' 10 at' z z z) z ?_
  obtain⟨eH,cY,hr⟩:=hr
  refine F' (v' z z) z (t' E27 z) (es' cY) z (⟨al,az,an⟩)<|gy z z (al' z) z<|yy (l' z z) z<|nx<|aL' hr z (fun ed hr=>?_) (fun ed hr=>?_)
  .refine sr<|sx0 z z<|j'<|a' (k0' hr z z)
  refine q'<|ar' dk ⟨mr,hr⟩ (f6 z z z z z z) (w3 z z z)
 rintro bz ⟨i,hr⟩
 refine sr<|yy (o' 10 at' z z z) z ?_
 obtain⟨x1,dh,hr⟩:=hr
 refine yy (Y0.idxAy underlying70 sz22 z z (ArRd.lt (a4.mono (mx (mx a2 x) i)) dh)) z ?_
 obtain⟨p1,eU,dY,d9⟩:=bF' (ArRd.at (a4.mono (mx (mx a2 x) i)) dh)
 refine yy (f' 4 sc22 z z dY) z ?_
 obtain⟨ar,dK,hr⟩:=hr
 refine P' z z (t' E28 z) (et' dK) z ?_ (fun eS eW q cf=>?_)
 .exact⟨(al.mono i),(az.mono i),(an.mono i),d9⟩
 obtain⟨bn,bk,rfl,bl⟩:=cf
 refine sg z z<|nr<|yy (o' 10 at' z z z) z<|mv z z ?_
 obtain⟨aW,dA,hr⟩:=hr
 refine P' z z (t' E30 z) (fb' dA) z ?_ (fun eO e1 t cm=>?_)
 .exact⟨(al.mono (mx i q)),(az.mono (mx i q)),(an.mono (mx i q)),bl⟩
 obtain⟨ad,ae,am,ao,ag,af,rfl,aV,a6,aT⟩:=cm
 refine V' 13 z z72 z fun b5=>s' 13 z sz72 z z z z z (List.all_eq_true.1 z)<|nr<|yy (Y0.Zhc z) z<|yy (aI' ((v31' aW.s ad ae am ao ag af)).toArray 13 at' z z z (aU' ([]) ((v31' aW.s ad ae am ao ag af)) ([i' aW.n,i' aW.e]))) z ?_
 obtain⟨x2,db,hr⟩:=hr
 refine yy (Y0.idxAy underlying70 sz22 z z (ArRd.lt (a4.mono (mx (mx (mx (mx a2 x) i) q) t)) db)) z ?_
 obtain⟨p2,e6,el,d8⟩:=bF' (ArRd.at (a4.mono (mx (mx (mx (mx a2 x) i) q) t)) db)
 refine yy (f' 4 sc22 z z el) z ?_
 obtain⟨bf,dt,hr⟩:=hr
 refine P' z z (t' E28 z) (et' dt) z ?_ (fun eR e4 o ci=>?_)
 .exact⟨aV,a6,aT,d8⟩
 obtain⟨cq,cB,rfl,bQ⟩:=ci
 refine sg z z<|nr<|yy (Y0.Zhc z) z<|yy (aI' ((v31' aW.s ad ae am ao ag af)).toArray 13 at' z z z (aU' ([]) ((v31' aW.s ad ae am ao ag af)) ([i' aW.n,i' aW.e]))) z<|mv z z ?_
 obtain⟨aq,ds,hr⟩:=hr
 refine P' z z (t' E30 z) (fb' ds) z ?_ (fun eG e2 s cg=>?_)
 .exact⟨(aV.mono o),(a6.mono o),(aT.mono o),bQ⟩
 obtain⟨D,F,V,W,E,H,rfl,aR,a5,aS⟩:=cg
 refine V' 15 z z72 z fun b6=>s' 15 z sz72 z z z z z (List.all_eq_true.1 z)<|nr<|yy (o' 8 aG' z z z) z<|mv z z<|mv z z ?_
 obtain⟨bg,dq,hr⟩:=hr
 refine P' z z (t' E20 z) (ce' dq) z ?_ (fun ez da p cb=>?_)
 .have N1:=mx (mx (mx (mx (mx x i) q) t) o) s
  exact⟨(J.mono N1),(Y.mono N1),(S.mono N1),(aB.mono N1),(bl.mono (mx (mx t o) s))⟩
 obtain⟨ah,aj,aw,av,ai,ak,bh,bd,rfl,aQ,aY,aN,ab⟩:=cb
 refine mv z z<|yy (y' z z) z<|yy (y' z z) z<|yy (y' z z) z<|V' 16 z z34 z fun b7=>s' 16 z bH' z z z z z (List.all_eq_true.1 z)<|sg z z<|sx0 z z<|aM' (fun (gx:Mem)=>match gx with|bD=>[(2,.int .u8 m),(7,.bool aU),(8,pt0 b3),(9,i' (Int.tmod (i64.wrap m) (au.v.length:Int))),(12,.slice bn ar.length bk),(14,.slice cq bf.length cB),(15,pt0 b6),(16,pt0 b7),(17,i' bg.2.1)]) (fun (gx:Mem)=>match gx with|bD=>Mem.le da bD/\(ZbX m aU au ar bf aq bg).Ret r) (fun (gx:Mem)=>match gx with|bD=>St w0 G0 bD [(8,bk0 b3 (v34' au R Q X Z I M a3 a1) 34),(15,bk0 b6 (v72' aq D F V W E H) 72),(16,bk0 b7 (v34' bg.1 ah aj aw av ai ak bh bd) 34)]) ?_ ?_
 .refine sr<|mv z z<|ad' hr z (aw' z z) z (fun dy hr=>?_) (fun dy hr=>?_)
  .refine mv z z<|sn5 z<|yy (h' z z) z<|mv z z<|sn6 z<|yy (h' z z) z<|nx<|U' z<|sr<|sx0 z z<|j'<|a' (k0' hr z z)
  refine mv z z<|gy z z (e' z) z<|gy z z (aj' z) z<|gy z z (f' 8 bc' z z z) z<|gy z z (M' D' (aB.mono (mx (mx (mx (mx (mx (mx x i) q) t) o) s) p)) z) z<|ad' hr (v' z z) (aw' z z) z (fun du hr=>?_) (fun du hr=>?_)
  .refine yy (l' z z) z<|mv z z<|sn6 z<|yy (h' z z) z<|nx<|U' z<|sr<|sx0 z z<|j'<|a' (k0' hr z z)
  refine yy (l' z z) z<|mv z z<|gy z z (aj' z) z<|gy z z (f' 16 bc' z z z) z<|gy z z (M' D' ab z) z<|gy z z (e' z) z<|gy z z (X' z z) z<|gy z z (aw' z z) z<|yy (l' z z) z<|nx<|L' hr z (fun dX hr=>?_) (fun dX hr=>?_)
  .refine sr<|sx0 z z<|j'<|a' (k0' hr z z)
  refine q'<|ar' da ⟨mr,hr⟩ (f9 z z z z z z z z z) (w3 z z z)
 rintro bD ⟨d,hr⟩
 refine sr<|yy (o' 16 aG' z z z) z<|mv z z<|mv z z ?_
 obtain⟨cM,dL,hr⟩:=hr
 refine P' z z (t' E20 z) (ce' dL) z ?_ (fun eN eX l ce=>?_)
 .exact⟨(aQ.mono d),(aY.mono d),(aN.mono d),(ab.mono d),(bQ.mono (mx (mx s p) d))⟩
 obtain⟨aK,aO,aZ,aX,aL,aP,cl,ck,rfl,aM,a0,aJ,be⟩:=ce
 refine mv z z<|yy (y' z z) z<|yy (y' z z) z<|yy (y' z z) z<|V' 19 z z34 z fun b8=>s' 19 z bH' z z z z z (List.all_eq_true.1 z)<|sg z z<|sx0 z z<|n'<|ah' [ff,ff,ff,ff,ff,ff,ff,ff,ff,ff,tt,tt,ff] mix (by kernel_rfl) fun hb=>cn (fun _ n=>o' 8 aG' z z z)<|cn (fun _ n=>e' z)<|dz' (r:=ab') (e:=48) ([]:List Zc) (fun _=>z) z (by decide) (fun u G' n hu=>?_) ?_
 .exact⟨#[],[],z,z,fun _=>by kernel_rfl,z⟩
 refine cu (fun _ _ n=>e' z) ?_
 obtain⟨dM,hr⟩:=hr
 refine bY' (r:=ab') (e:=48) (kk:=109) (xs:=([]:List Zc)) ar (fun _=>z) z (by kernel_rfl) (by kernel_rfl) as' el48 z (by decide) dM (fun u G' n hu=>?_) ?_
 .obtain⟨cv,_⟩:=(show (RowX ab' 48 109 ([]:List Zc)) (u 109) G'/\True from hu)
  exact⟨u 109,.slice bn ar.length bk,cv,z,z,((bl.mono (mx (mx (mx (mx (mx t o) s) p) d) l)).mono n)⟩
 refine cu (fun _ _ n=>e' z) ?_
 obtain⟨dH,hr⟩:=hr
 refine bY' (r:=ab') (e:=48) (kk:=111) (xs:=(([]:List Zc)++ar)) bf (fun _=>z) z (by kernel_rfl) (by kernel_rfl) as' el48 z (by decide) dH (fun u G' n hu=>?_) ?_
 .obtain⟨cK,_,_⟩:=(show (RowX ab' 48 111 (([]:List Zc)++ar)) (u 111) G'/\True/\True from hu)
  exact⟨u 111,.slice cq bf.length cB,cK,z,z,((bQ.mono (mx (mx (mx s p) d) l)).mono n)⟩
 obtain⟨aa,cX,hr⟩:=hr
 refine Chain.callEat (f:=20) (r:=ab') (e:=48) (kk:=113) (xs:=((([]:List Zc)++ar)++bf)) (φ:=w34u' aa) (fun _=>z) z (by kernel_rfl) (by kernel_rfl) (fun v G1 G2 n h=>?_) (fun u G' n hu=>?_) ?_
 .obtain⟨P,K,U,T,L,O,aD,aC,rfl,A,C,B,ap⟩:=h
  exact⟨_,_,_,_,_,_,_,_,z,A.mono n,C.mono n,B.mono n,ap.mono n⟩
 .obtain⟨cA,_,_,_⟩:=(show (RowX ab' 48 113 ((([]:List Zc)++ar)++bf)) (u 113) G'/\True/\True/\True from hu)
  have N2:=mx (mx (mx (mx (mx (mx (mx (mx x i) q) t) o) s) p) d) l
  exact⟨u 113,cA,fun cp cc Gf d2 n eF ef=>⟨_,_,_,fun _=>t' E20 z,ce' cX,(by simp only[undFr,eatO,List.map_cons,List.map_nil,d2] <;> rfl),⟨((J.mono N2).mono n),((Y.mono N2).mono n),((S.mono N2).mono n),((aB.mono N2).mono n),ef⟩⟩⟩
 refine bm' (φ:=w34u' aa) (fun _=>z) (fun v G1 G2 n h=>?_) (fun u G' n hu=>?_) ?_
 .obtain⟨p3,bE,p4,bI,p5,bJ,p6,bw,rfl,bi,bj,bc,bb⟩:=h
  exact⟨_,_,_,_,_,_,_,_,z,bi.mono n,bj.mono n,bc.mono n,bb.mono n⟩
 .obtain⟨⟨P,K,U,T,L,O,aD,aC,cG,A,C,B,ap⟩,_,_,_,_⟩:=(show (w34u' aa) G'.m (u 114)/\True/\True/\True/\True from hu)
  simp only[undFr,cG]
  exact⟨_,e' z,P,K,U,T,L,O,aD,aC,z,A,C,B,ap⟩
 refine bm' (φ:=w34' aa.1) (fun _=>z) (fun v G1 G2 n h=>?_) (fun u G' n hu=>?_) ?_
 .obtain⟨p7,di,p8,dc,p9,de,df,cI,rfl,cz,cH,cC,bq⟩:=h
  exact⟨_,_,_,_,_,_,_,_,z,cz.mono n,cH.mono n,cC.mono n,bq.mono n⟩
 .obtain⟨⟨p3,bE,p4,bI,p5,bJ,p6,bw,ay,bi,bj,bc,bb⟩,_,_,_,_,_⟩:=(show (w34u' aa) G'.m (u 106)/\True/\True/\True/\True/\True from hu)
  simp only[undFr,ay]
  exact⟨_,y' z z,p3,bE,p4,bI,p5,bJ,p6,bw,z,bi,bj,bc,bb⟩
 refine bv' (c:=i' aa.2.1) (fun _=>z) (fun u G' n hu=>?_) ?_
 .obtain⟨_,⟨p3,bE,p4,bI,p5,bJ,p6,bw,ay,bi,bj,bc,bb⟩,_,_,_,_,_⟩:=(show True/\(w34u' aa) G'.m (u 106)/\True/\True/\True/\True/\True from hu)
  simp only[undFr,ay]
  exact y' z z
 refine bv' (c:=i' aa.2.2) (fun _=>z) (fun u G' n hu=>?_) ?_
 .obtain⟨_,⟨p3,bE,p4,bI,p5,bJ,p6,bw,ay,bi,bj,bc,bb⟩,_,_,_,_,_⟩:=(show True/\(w34u' aa) G'.m (u 106)/\True/\True/\True/\True/\True from hu)
  simp only[undFr,ay]
  exact y' z z
 refine bE' (fun _=>z) z34<|Chain.tailX7 (fun e8 et eo eq ex ew en X1 y cx bR bN bM dJ dD dm=>?_)
 obtain⟨p7,di,p8,dc,p9,de,df,cI,rfl,cz,cH,cC,bq⟩:=bR
 obtain⟨p3,bE,p4,bI,p5,bJ,p6,bw,rfl,bi,bj,bc,bb⟩:=bN
 obtain⟨P,K,U,T,L,O,aD,aC,rfl,A,C,B,ap⟩:=bM
 refine WL.adoptL cx (fun b9 eh eZ=>?_)
 subst eh
 refine cf' (show WL _ _ _ _ _ _ (St w0 G0 X1.m _) from ?_)
 refine s' 22 z bH' z z z z z (List.all_eq_true.1 z)<|sg z z<|sg z z<|u'<|aq'<|g'<|aM' (fun (gx:Mem)=>match gx with|bx=>[(2,.int .u8 m),(7,.bool aU),(8,pt0 b3),(9,i' (Int.tmod (i64.wrap m) (au.v.length:Int))),(12,.slice bn ar.length bk),(15,pt0 b6),(16,pt0 b7),(17,i' bg.2.1),(19,pt0 b8),(20,i' cM.2.1),(22,pt0 b9),(23,i' aa.2.1)]) (fun (gx:Mem)=>match gx with|bx=>Mem.le X1.m bx/\(ZbW m aU au ar aq bg cM aa).Ret r) (fun (gx:Mem)=>match gx with|bx=>St w0 G0 bx [(8,bk0 b3 (v34' au R Q X Z I M a3 a1) 34),(15,bk0 b6 (v72' aq D F V W E H) 72),(16,bk0 b7 (v34' bg.1 ah aj aw av ai ak bh bd) 34),(19,bk0 b8 (v34' cM.1 aK aO aZ aX aL aP cl ck) 34),(22,bk0 b9 (v34' aa.1 p7 di p8 dc p9 de df cI) 34)]) ?_ ?_
 .refine sr<|mv z z<|ad' hr z (aw' z z) z (fun dQ hr=>?_) (fun dQ hr=>?_)
  .refine mv z z<|sn2 z<|yy (h' z z) z<|mv z z<|sn4 z<|yy (h' z z) z<|mv z z<|sn3 z<|yy (h' z z) z<|mv z z<|sn6 z<|yy (h' z z) z<|mv z z<|sn6 z<|yy (h' z z) z<|nx<|U' z<|sr<|sx0 z z<|j'<|a' (k0' hr z z)
  refine mv z z<|gy z z (e' z) z<|ad' hr (v' z z) (aw' z z) z (fun d1 hr=>?_) (fun d1 hr=>?_)
  .refine yy (l' z z) z<|mv z z<|sn4 z<|yy (h' z z) z<|mv z z<|sn3 z<|yy (h' z z) z<|mv z z<|sn6 z<|yy (h' z z) z<|mv z z<|sn6 z<|yy (h' z z) z<|nx<|U' z<|sr<|sx0 z z<|j'<|a' (k0' hr z z)
  refine yy (l' z z) z<|mv z z<|gy z z (e' z) z<|gy z z (e' z) z<|gy z z (X' z z) z<|ad' hr (v' z z) (aw' z z) z (fun d4 hr=>?_) (fun d4 hr=>?_)
  .refine yy (l' z z) z<|mv z z<|sn3 z<|yy (h' z z) z<|mv z z<|sn6 z<|yy (h' z z) z<|mv z z<|sn6 z<|yy (h' z z) z<|nx<|U' z<|sr<|sx0 z z<|j'<|a' (k0' hr z z)
  refine yy (l' z z) z<|mv z z<|gy z z (e' z) z<|gy z z (e' z) z<|ad' hr (v' z z) (aw' z z) z (fun eg hr=>?_) (fun eg hr=>?_)
  .refine yy (l' z z) z<|mv z z<|sn6 z<|yy (h' z z) z<|mv z z<|sn6 z<|yy (h' z z) z<|nx<|U' z<|sr<|sx0 z z<|j'<|a' (k0' hr z z)
  refine yy (l' z z) z<|mv z z<|gy z z (aj' z) z<|gy z z (f' 19 bc' z z z) z<|gy z z (M' D' (be.mono y) z) z<|gy z z (e' z) z<|gy z z (X' z z) z<|ad' hr (v' z z) (aw' z z) z (fun dW hr=>?_) (fun dW hr=>?_)
  .refine yy (l' z z) z<|mv z z<|sn6 z<|yy (h' z z) z<|nx<|U' z<|sr<|sx0 z z<|j'<|a' (k0' hr z z)
  refine yy (l' z z) z<|mv z z<|gy z z (aj' z) z<|gy z z (f' 22 bc' z z z) z<|gy z z (M' D' bq z) z<|gy z z (e' z) z<|gy z z (X' z z) z<|gy z z (aw' z z) z<|yy (l' z z) z<|nx<|L' hr z (fun ea hr=>?_) (fun ea hr=>?_)
  .refine sr<|sx0 z z<|j'<|a' (k0' hr z z)
  refine q'<|ar' X1.m ⟨mr,hr⟩ (f12 z z z z z z z z z z z z) (w5 z z z z z)
 rintro bx ⟨j,hr⟩
 refine sr<|yy (o' 19 aG' z z z) z<|mv z z ?_
 obtain⟨eD,cZ,hr⟩:=hr
 refine P' z z (t' E11 z) (bJ' cZ) z ?_ (fun eu eK g bO=>?_)
 .exact⟨(aM.mono (mx y j)),(a0.mono (mx y j)),(aJ.mono (mx y j)),(be.mono (mx y j))⟩
 obtain⟨cN,cP,c9,cW,cU,cT,rfl,a9,br,ba⟩:=bO
 refine mv z z<|yy (y' z z) z<|yy (y' z z) z<|V' 25 z z31 z fun e0=>s' 25 z aV' z z z z z (List.all_eq_true.1 z)<|sg z z<|nr<|yy (o' 22 aG' z z z) z<|mv z z ?_
 obtain⟨eC,c8,hr⟩:=hr
 refine P' z z (t' E11 z) (bJ' c8) z ?_ (fun er cE k bT=>?_)
 .exact⟨(cz.mono (mx j g)),(cH.mono (mx j g)),(cC.mono (mx j g)),(bq.mono (mx j g))⟩
 obtain⟨cO,cS,c2,cV,cR,cQ,rfl,a7,bu,a8⟩:=bT
 refine mv z z<|yy (y' z z) z<|yy (y' z z) z<|V' 27 z z31 z fun eV=>s' 27 z aV' z z z z z (List.all_eq_true.1 z)<|sx0 z z<|aM' (fun (gx:Mem)=>match gx with|bH=>[(2,.int .u8 m),(7,.bool aU),(8,pt0 b3),(9,i' (Int.tmod (i64.wrap m) (au.v.length:Int))),(12,.slice bn ar.length bk)]) (fun (gx:Mem)=>match gx with|bH=>Mem.le cE bH/\(ZbV m aU au ar).Ret r) (fun (gx:Mem)=>match gx with|bH=>St w0 G0 bH [(8,bk0 b3 (v34' au R Q X Z I M a3 a1) 34)]) ?_ ?_
 .refine sr<|mv z z<|ad' hr z (aw' z z) z (fun d0 hr=>?_) (fun d0 hr=>?_)
  .refine mv z z<|sn2 z<|yy (h' z z) z<|mv z z<|sn5 z<|yy (h' z z) z<|mv z z<|sn5 z<|yy (h' z z) z<|mv z z<|sn8 z<|yy (h' z z) z<|mv z z<|sn7 z<|yy (h' z z) z<|nx<|U' z<|sr<|sx0 z z<|j'<|a' (k0' hr z z)
  refine mv z z<|gy z z (e' z) z<|ad' hr (v' z z) (aw' z z) z (fun d7 hr=>?_) (fun d7 hr=>?_)
  .refine yy (l' z z) z<|mv z z<|sn5 z<|yy (h' z z) z<|mv z z<|sn5 z<|yy (h' z z) z<|mv z z<|sn8 z<|yy (h' z z) z<|mv z z<|sn7 z<|yy (h' z z) z<|nx<|U' z<|sr<|sx0 z z<|j'<|a' (k0' hr z z)
  refine yy (l' z z) z<|mv z z<|gy z z (o' 25 at' z z z) z<|gy z z (Y0.Zhc z) z<|gy z z (aI' ((v31' aq.s D F V W E H)).toArray 15 at' z z z (aU' ([]) ((v31' aq.s D F V W E H)) ([i' aq.n,i' aq.e]))) z ?_
  obtain⟨dx,c7,hr⟩:=hr
  have N3:=mx (mx (mx (mx (mx (mx p d) l) y) j) g) k
  refine F' (v' z z) z (t' E15 z) (dH' c7) z (⟨(a9.mono k),(br.mono k),(ba.mono k),(aR.mono N3),(a5.mono N3),(aS.mono N3)⟩) ?_
  cases dx
  .refine gy z z (al' z) z<|yy (l' z z) z<|mv z z<|sn5 z<|yy (h' z z) z<|mv z z<|sn8 z<|yy (h' z z) z<|mv z z<|sn7 z<|yy (h' z z) z<|nx<|U' z<|sr<|sx0 z z<|j'<|a' (k0' hr z z)
  refine gy z z (al' z) z<|yy (l' z z) z<|mv z z<|gy z z (o' 27 at' z z z) z<|gy z z (Y0.Zhc z) z<|gy z z (aI' ((v31' aq.s D F V W E H)).toArray 15 at' z z z (aU' ([]) ((v31' aq.s D F V W E H)) ([i' aq.n,i' aq.e]))) z ?_
  obtain⟨dr,c6,hr⟩:=hr
  refine F' (v' z z) z (t' E15 z) (dH' c6) z (⟨a7,bu,a8,(aR.mono N3),(a5.mono N3),(aS.mono N3)⟩) ?_
  cases dr
  .refine gy z z (al' z) z<|yy (l' z z) z<|mv z z<|sn8 z<|yy (h' z z) z<|mv z z<|sn7 z<|yy (h' z z) z<|nx<|U' z<|sr<|sx0 z z<|j'<|a' (k0' hr z z)
  refine gy z z (al' z) z<|yy (l' z z) z<|mv z z<|gy z z (aj' z) z<|gy z z (f' 16 bc' z z z) z<|gy z z (e' z) z ?_
  obtain⟨x3,dd,hr⟩:=hr
  have N4:=mx (mx (mx (mx (mx d l) y) j) g) k
  refine gy z z (T' D' bR' (ab.mono N4) z z dd) z<|gy z z (bT' z) z<|gy z z (Z' sc3 z (aF' (I' (aW' (ay' (ae' ab dd))) N4))) z<|gy z z (e' z) z<|ad' hr (v' z z) (aw' z z) z (fun ec hr=>?_) (fun ec hr=>?_)
  .refine yy (l' z z) z<|mv z z<|sn7 z<|yy (h' z z) z<|nx<|U' z<|sr<|sx0 z z<|j'<|a' (k0' hr z z)
  refine yy (l' z z) z<|mv z z<|gy z z (aj' z) z<|gy z z (f' 16 bc' z z z) z<|gy z z (e' z) z ?_
  obtain⟨x4,dj,hr⟩:=hr
  refine gy z z (T' D' bR' (ab.mono N4) z z dj) z<|gy z z (cB' z) z<|gy z z (Z' sc3 z (aF' (I' (aW' (ax' (ay' (ae' ab dj)))) N4))) z<|gy z z (aw' z z) z<|yy (l' z z) z<|nx<|L' hr z (fun ej hr=>?_) (fun ej hr=>?_)
  .refine sr<|sx0 z z<|j'<|a' (k0' hr z z)
  refine q'<|ar' cE ⟨mr,hr⟩ (f5 z z z z z) (w1 z)
 rintro bH ⟨aF,hr⟩
 refine sr<|bd' (e:=48) (r:=ab') (vs:=#[]) (cs:=[]) ([]:List Zc) z z z z z (by decide) (fun _=>by kernel_rfl) (z) (key:=999) z (by rw[b0]; rfl) fun eY eP ax dn=>mv z z ?_
 obtain⟨dN,hr⟩:=hr
 have N5:=mx (mx (mx (mx (mx (mx (mx (mx (mx (mx (mx t o) s) p) d) l) y) j) g) k) aF) ax
 refine bW' (r:=ab') 2204 z z as' el48 z (by decide) z z dn z (by rw[b0]; rfl) dh' (bl.mono N5) dN fun e3 eQ em eB aH dv c0=>mv z z<|yy (aN' aQ' aB' z) z<|yy (Y0.neg z) z<|yy (av' (vs:=#[(0,i' 6),(4,i' (i64.wrap (0-(i64.wrap m))))]) (v:=.agg ([i' 6,.string ByteArray.empty,i' 0,i' 0,i' (i64.wrap (0-(i64.wrap m))),.slice none 0 0,.bool false]).toArray) z z (fun _=>by kernel_rfl)) z<|bd' (e:=48) (r:=ab') (vs:=#[(0,.agg ([i' 6,.string ByteArray.empty,i' 0,i' 0,i' (i64.wrap (0-(i64.wrap m))),.slice none 0 0,.bool false]).toArray)]) (cs:=[i' 6,.string ByteArray.empty,i' 0,i' 0,i' (i64.wrap (0-(i64.wrap m))),.slice none 0 0,.bool false]++([])) ([(Zc.mk 6 ByteArray.empty 0 0 (i64.wrap (0-(i64.wrap m))) [] false)]:List Zc) z z z z z (by decide) (fun _=>by kernel_rfl) ⟨[i' 6,.string ByteArray.empty,i' 0,i' 0,i' (i64.wrap (0-(i64.wrap m))),.slice none 0 0,.bool false],[],z,⟨[i' 6],[.string ByteArray.empty,i' 0,i' 0,i' (i64.wrap (0-(i64.wrap m))),.slice none 0 0,.bool false],z,z,⟨[.string ByteArray.empty],[i' 0,i' 0,i' (i64.wrap (0-(i64.wrap m))),.slice none 0 0,.bool false],z,z,⟨[i' 0],[i' 0,i' (i64.wrap (0-(i64.wrap m))),.slice none 0 0,.bool false],z,z,⟨[i' 0],[i' (i64.wrap (0-(i64.wrap m))),.slice none 0 0,.bool false],z,z,⟨[i' (i64.wrap (0-(i64.wrap m)))],[.slice none 0 0,.bool false],z,z,⟨[.slice none 0 0],[.bool false],z,⟨_,z,(W' _ _)⟩,z⟩⟩⟩⟩⟩⟩,z⟩ (key:=999) z (by rw[b0]; rfl) (fun eT eE aA dO=>?_)
 obtain⟨dw,hr⟩:=hr
 refine bW' (r:=ab') 2204 z z as' el48 z (by decide) z z (dv.mono aA) z (by rw[b0]; rfl) c0 dO dw fun e5 eJ ev eI aE dP es=>sg z z<|nr<|yy (o' 8 aG' z z z) z<|mv z z<|mv z z ?_
 obtain⟨eL,c5,hr⟩:=hr
 refine P' z z (t' E20 z) (ce' c5) z ?_ (fun ep eA ek bP=>?_)
 .have N6:=mx (mx (mx (mx (mx (mx (mx (mx (mx (mx (mx (mx (mx (mx (mx (mx (mx x i) q) t) o) s) p) d) l) y) j) g) k) aF) ax) aH) aA) aE
  exact⟨(J.mono N6),(Y.mono N6),(S.mono N6),(aB.mono N6),dP⟩
 obtain⟨bX,bW,cd,cj,bY,bZ,dz,dE,rfl,bV,ch,bU,dG⟩:=bP
 refine mv z z<|yy (y' z z) z<|yy (y' z z) z<|yy (y' z z) z<|V' 30 z z34 z fun e7=>s' 30 z bH' z z z z z (List.all_eq_true.1 z)<|sg z z<|sg z z<|nr<|ad' hr z (dc' (e' z) (congrArg Value.bool (bdec _))) z (fun dT hr=>?_) (fun dT hr=>?_)
 .refine mv z z<|gy z z (e' z) z<|gy z z (au' z z) z<|yy (h' z z) z<|sx0 z z<|j' (k0' hr z z)
 refine mv z z<|sn2 z<|yy (l' z z) z<|sx0 z z<|j' (k0' hr z z)
end Go.Proofs.YtnjiloaolgjedaaGreat

namespace Go.Proofs.YtnjiloaolgjedaaGreat
open Go.IntKind (i8 i16 i32 i64 u8 u16 u32 u64)
open Go.Proofs.Tryz
open Go Go.EL Go.RowKit Go.Proofs
end Go.Proofs.YtnjiloaolgjedaaGreat

namespace Go.EL
open Go.IntKind (i8 i16 i32 i64 u8 u16 u32 u64)
open Go Go.RowKit
def sanE(v:ByteArray):Zc:=⟨1,v,0,0,0,[],false⟩
def sanX(v:ByteArray):Za:=⟨[v],[],[],1⟩
def vA:Zh:=⟨-1,-1,[]⟩
def vB(v:ByteArray):Zh:=⟨0,-1,[sanE v]⟩
theorem Zlr:checkF oneS (sanE ZG)=0:=by decide +kernel
theorem Zls:checkF oneS (sanE ZJ)=0:=by decide +kernel
theorem Zdn(v:ByteArray)(hc:checkF oneS (sanE v)=0):allF oneS [sanE v] 0=⟨sanX v,1,0⟩:=by
 have h:Runs oneS [sanE v]:=⟨hc,trivial⟩
 rw[ZbC h]; rfl
theorem Zji(v:ByteArray):∀ e ∈ [sanE v],PolOk e.p/\KindOk e:=fun e he=>by
 rw[List.mem_singleton] at he
 subst he
 exact⟨ZcU,show (-1000:Int)<=1 by decide,show (1:Int)<=1000 by decide⟩
def sanH:Zf:=⟨oneS,[vA]⟩
def sanI:Zf:=⟨oneS,[vA,vB ZG]⟩
def sanJ:Zf:=⟨oneS,[vA,vB ZG,vB ZJ]⟩
theorem ZhL:HistOk sanH [oneS]:=Zlg Zgp
theorem ZjS:HistOk sanI [oneS,sanX ZG]:=by
 have h0:(allF oneS [sanE ZG] 0).e=0:=by rw[Zdn _ Zlr]
 have h:=ZhL.add (v:=0) (o:=-1) (s:=oneS) rfl (by decide) (by decide) (by decide) (Zji _) h0
 rw[Zdn _ Zlr] at h
 exact h
theorem ZbT:HistOk sanJ [oneS,sanX ZG,sanX ZJ]:=by
 have h0:(allF oneS [sanE ZJ] 0).e=0:=by rw[Zdn _ Zls]
 have h:=ZjS.add (v:=0) (o:=-1) (s:=oneS) rfl (by decide) (by decide) (by decide) (Zji _) h0
 rw[Zdn _ Zls] at h
 exact h
theorem Zp1:addF sanH [oneS] 0 (-1) [sanE ZG]=(sanI,1,0):=Zdf (v:=0) ZhL rfl (-1) (by decide) (by decide) (by rw[Zdn _ Zlr])
theorem Zp2:addF sanI [oneS,sanX ZG] 0 (-1) [sanE ZJ]=(sanJ,2,0):=Zdf (v:=0) ZjS rfl (-1) (by decide) (by decide) (by rw[Zdn _ Zls])
theorem Zlt:upB (parV sanJ) (othV sanJ) 2 1=false:=rfl
theorem ZoL:upB (parV sanJ) (othV sanJ) 1 2=false:=rfl
theorem ZoK:(ZcZ sanJ 1 2).Ret (0,0):=by
 obtain⟨r,h1,h2⟩:=Zoi ZbT 1 2
 rcases h2 with ⟨_,_,v,⟨k1,k2,_⟩,rfl⟩|⟨k,_⟩
 .have hv:=Zhz ZbT.down (b:=(1:Int).toNat) (by decide) k1
  have hv':v=0\/v=1:=by have:(1:Int).toNat=1:=rfl; omega
  rcases hv' with rfl|rfl
  .exact h1
  rw[show (2:Int).toNat=2 from rfl,Zlt] at k2; cases k2
 exact absurd ⟨rfl,rfl⟩ k
theorem Zob{h:Zf}{a b:Nat}(ha:a<h.v.length)(hb:b<h.v.length)(hu:upB (parV h) (othV h) b a=false):upH h (a:Int) (b:Int)=false:=by rw[ZlC ha hb,hu]
theorem Zp3:undoF sanJ [oneS,sanX ZG,sanX ZJ] 1 2=(zeroH,0,340):=by
 unfold undoF
 have h:upH sanJ ((2:Nat):Int) ((1:Nat):Int)=false:=Zob (by decide) (by decide) ZoL
 rw[show upH sanJ 2 1=false from h]; rfl
theorem ZmZ:(ZaL ⟨oneS,[]⟩).Ret false:=by
 refine⟨true,Zb5 Zgp,?_⟩
 show (if (((0:Nat):Int))<1 then _ else _:Cq _).wp _
 exact Cq.wp.yes (by decide) rfl
theorem Zlu:ZeG.Ret true:=by
 refine⟨_,Zo0 Zgp,?_⟩
 show (if ¬ (0:Int)=0 then _ else _:Cq _).wp _
 refine Cq.wp.no (fun h=>h rfl) (Cq.wp.no (fun h=>h rfl) ⟨true,Zh3 ZhL,Cq.wp.no (by decide) ?_⟩)
 refine⟨_,rfl,_,ZaN ZhL 0 (by decide) (Zji _),?_⟩
 have e1:=Zp1
 unfold sanE at e1
 rw[e1]
 refine Cq.wp.no (fun h=>h rfl) (Cq.wp.no (fun h=>h rfl) (Cq.wp.no (fun h=>h rfl) ?_))
 refine⟨_,rfl,_,ZaN ZjS 0 (by decide) (Zji _),?_⟩
 have e2:=Zp2
 unfold sanE at e2
 rw[e2]
 refine Cq.wp.no (fun h=>h rfl) (Cq.wp.no (fun h=>h rfl) (Cq.wp.no (fun h=>h rfl) ⟨true,Zh3 ZbT,Cq.wp.no (by decide) ?_⟩))
 obtain⟨t,u1,u2,u3,_⟩:=ZbT.Zn8 (v:=1) (by decide) (by decide)
 refine⟨_,ZoK,_,ZkY ZbT ((1:Nat):Int) ((1:Nat):Int),_,ZkY ZbT 1 2,?_⟩
 rw[u1,Zp3]
 refine Cq.wp.no (fun h=>h rfl) (Cq.wp.no (fun h=>h rfl) (Cq.wp.no (fun h=>h rfl) (Cq.wp.no (fun h=>h rfl) (Cq.wp.no (fun h=>h rfl) (Cq.wp.no (fun h=>h rfl) ?_)))))
 refine⟨_,ZgK ZbT 1 2,?_⟩
 have h12:upH sanJ ((1:Nat):Int) ((2:Nat):Int)=false:=Zob (by decide) (by decide) Zlt
 rw[show upH sanJ 1 2=false from h12]
 refine⟨_,ZgK ZbT 0 2,?_⟩
 have h02:upH sanJ ((0:Nat):Int) ((2:Nat):Int)=true:=(ZlC (by decide) (by decide)).trans (ZjV ZbT (by decide))
 rw[show upH sanJ 0 2=true from h02]
 refine Cq.wp.no (by decide) ?_
 refine⟨_,ZdA u2 ((3:Nat):Int),_,ZdA u2 ((2:Nat):Int),_,ZdA u2 4,?_⟩
 rw[ZdF (v:=3) (s:=t) rfl,ZdF (v:=2) (s:=sanX ZJ) rfl]
 refine Cq.wp.yes rfl (Cq.wp.yes rfl (Cq.wp.yes rfl ?_))
 have hv:t.vars=[]:=u3.1
 refine Cq.wp.yes (by rw[hv]; rfl) (Cq.wp.yes rfl ⟨false,ZmZ,rfl⟩)
end Go.EL

namespace Go.EL
open Go.IntKind (i8 i16 i32 i64 u8 u16 u32 u64)
open Go Go.RowKit
section
variable {h i j:Zf}{ss si sj:List Za}
theorem ZpW(hh:HistOk h ss){z:Int}(hz:0<=z/\z<=255):∃ k:Nat,Int.tmod (i64.wrap z) (h.v.length:Int)=(k:Int)/\k<h.v.length:=by
 have hb:=hh.bd
 rw[wrap64 (by omega)]
 have ht:=Za9 (a:=z) (b:=(h.v.length:Int)) (by omega) (by omega)
 exact⟨(Int.tmod z (h.v.length:Int)).toNat,by omega,by omega⟩
theorem ZiE(h:Zf)(x:Zh)(hn:h.v.length<=200):(((⟨h.root,h.v++[x]⟩:Zf).v.length:Nat):Int)=i64.wrap ((h.v.length:Int)+1):=by
 rw[wrapN (by omega)]
 show (((h.v++[x]).length:Nat):Int)=_
 rw[List.length_append]; rfl
theorem ZfY{α:Type}(l:List α)(x:α):(l++[x])[l.length]? = some x:=by rw[List.getElem?_append_right (Nat.le_refl _),Nat.sub_self]; rfl
end
theorem all_append:∀ {a:List Zc}{s:Za},Runs s a->∀ (b:List Zc) (k:Nat),allF s (a++b) k=allF (runF s a) b (k+a.length)
 | [],_,_,_,_=>rfl
 | e::a,s,hr,b,k=>by
  show (if checkF s e=0 then allF (doF s e) (a++b) (k+1) else _)=_
  rw[if_pos hr.1,all_append hr.2 b (k+1),show k+1+a.length=k+(e::a).length by rw[List.length_cons]; omega]; rfl
theorem Zok{h:Zf}{ss:List Za}(hh:HistOk h ss){v:Nat}{s:Za}(hs:ss[v]? = some s){l:List Zc}(o:Int)(hn:h.v.length<200)(hl:l.length<=64)(h0:(allF s l 0).e≠0):addF h ss (v:Int) o l=(zeroH,0,(allF s l 0).e):=by
 have:=ZdH hs
 have:=hh.len
 unfold addF
 rw[if_pos (by omega),if_neg (by omega),Int.toNat_natCast,getD_some hs,if_neg h0]
theorem ZgY{x:ZE}{l:List (List Zs)}{n:Int}(hx:HRawOk x)(hl:l.length=2/\∀ y ∈ l,∀ z ∈ y,DescOk z)(hn:0<=n/\n<=255):(ZcQ x l n).Ret true:=by
 obtain⟨h,ss,hm,hh,hlen⟩:=Zni hx (m:=6) (by decide)
 obtain⟨v,hv,hvl⟩:=ZpW hh hn
 obtain⟨s,_,hs,_,hg⟩:=hh.at hvl
 obtain⟨l0,l1,rfl⟩:∃ l0 l1,l=[l0,l1]:=by
  match l,hl.1 with
  | [a,b],_=>exact⟨a,b,rfl⟩
 obtain⟨a,a1,a2,a3⟩:=Zig (hl.2 l0 (by simp)) (m:=3) (by decide) hg
 have pa:=ZhK a3
 have ra:=Zec a3
 have ga:=Zfa hg (fun e he=>(pa e he).1) ra
 obtain⟨b,b1,b2,b3⟩:=Zig (hl.2 l1 (by simp)) (m:=3) (by decide) ga
 have pb:=ZhK b3
 have rb:=Zec b3
 have gb:=Zfa ga (fun e he=>(pb e he).1) rb
 have hla:=ZbC ra 0
 have hlb:=ZbC rb 0
 have rab:Runs s (a++b):=ZaY.2 ⟨ra,rb⟩
 have hlab:=ZbC rab 0
 have h0a:(allF s a 0).e=0:=by rw[hla]
 have h0b:(allF (runF s a) b 0).e=0:=by rw[hlb]
 have h0ab:(allF s (a++b) 0).e=0:=by rw[hlab]
 have pab:∀ e ∈ a++b,PolOk e.p/\KindOk e:=fun e he=>(List.mem_append.1 he).elim (pa e) (pb e)
 have hb:=hh.bd
 have hsl:=hh.len
 have hi:=hh.add (o:=-1) hs (by omega) ⟨by omega,by omega⟩ (by omega) pa h0a
 have hboth:=hh.add (o:=-1) hs (by omega) ⟨by omega,by omega⟩ (by rw[List.length_append]; omega) pab h0ab
 have hss:(ss++[(allF s a 0).s])[h.v.length]? = some (runF s a):=by rw[<- hsl,ZfY,hla]
 have hbi:=hi.bd
 have hil:(h.v++[(⟨(v:Int),-1,a⟩:Zh)]).length=h.v.length+1:=by rw[List.length_append]; rfl
 have hj:=hi.add (o:=-1) hss (show (h.v++_).length<200 by omega) ⟨by omega,by omega⟩ (by omega) pb h0b
 have w2:i64.wrap ((h.v.length:Int)+2)=((h.v.length+2:Nat):Int):=by rw[wrap64 (by omega)]; omega
 refine⟨true,Zlu,Cq.wp.no (by decide) ⟨h,hm,by omega,_,ZdA hh _,?_⟩⟩
 rw[hv,ZdF hs]
 refine Cq.wp.no (fun h=>h rfl) ⟨true,ZgC hg,Cq.wp.no (by decide) ⟨l0,⟨by decide,rfl⟩,a,a1,_,ZiQ (by omega) (fun e h=>(pa e h).1) hg,l1,⟨by decide,rfl⟩,?_⟩⟩
 rw[hla]
 refine⟨b,b1,_,ZiQ (by omega) (fun e h=>(pb e h).1) ga,_,ZaN hh _ (by omega) pa,?_⟩
 rw[hv,hlb,Zdf hh hs (-1) (by omega) (by omega) h0a]
 refine Cq.wp.no (fun h=>h rfl) (Cq.wp.no (fun h=>h rfl) (Cq.wp.no (fun k=>k (ZiE h _ (by omega))) ⟨_,ZaN hi _ (by omega) pb,?_,?_,_,ZaN hh _ (by rw[List.nil_append,List.length_append]; omega) (by rw[List.nil_append]; exact pab),?_⟩))
 .rw[List.nil_append]; unfold small; omega
 .rw[List.nil_append,List.length_append]; unfold small; omega
 rw[hv,List.nil_append,Zdf hh hs (-1) (by omega) (by rw[List.length_append]; omega) h0ab]
 have ej:=Zdf (v:=h.v.length) hi hss (-1) (show (h.v++_).length<200 by omega) (by omega) h0b
 show Cq.wp (if ¬ (addF _ _ ((h.v.length:Nat):Int) (-1) b).2.2=0 then _ else _) _
 rw[ej]
 refine Cq.wp.no (fun h=>h rfl) (Cq.wp.no (fun h=>h rfl) (Cq.wp.no (fun k=>k ?_) (Cq.wp.no (fun h=>h rfl) (Cq.wp.no (fun k=>k ?_) (Cq.wp.no (fun k=>k (ZiE h _ (by omega))) ⟨_,ZdA hj _,_,ZdA hboth _,?_⟩)))))
 .exact ZiE h _ (by omega)
 .show (((h.v++[_])++[_]).length:Int)=i64.wrap ((h.v.length:Int)+2)
  rw[w2,List.length_append,List.length_append]; rfl
 have q1:((ss++[(allF s a 0).s])++[(allF (runF s a) b 0).s])[h.v.length+1]? = some (runF (runF s a) b):=by
  have e:(ss++[(allF s a 0).s]).length=h.v.length+1:=by rw[List.length_append,hsl]; rfl
  rw[<- e,ZfY,hlb]
 have q2:(ss++[(allF s (a++b) 0).s])[h.v.length]? = some (runF (runF s a) b):=by rw[<- hsl,ZfY,hlab,Zed]
 have z1:(((⟨h.root,h.v++[⟨(v:Int),-1,a⟩]⟩:Zf).v.length:Nat):Int)=((h.v.length+1:Nat):Int):=by rw[<- hil]
 show Cq.wp (if ¬ (atF _ (((⟨h.root,h.v++[⟨(v:Int),-1,a⟩]⟩:Zf).v.length:Nat):Int)).2=0 then _ else _) _
 rw[z1,ZdF q1,ZdF q2]
 refine Cq.wp.no (fun h=>h rfl) (Cq.wp.no (fun h=>h rfl) ⟨true,ZkW gb.sys,true,ZkW gb.sys,⟨(v:Int),-1,a⟩,idxS (ZfY h.v _),?_⟩)
 refine Cq.wp.no (fun k=>k hv.symm) ⟨⟨(v:Int),-1,a⟩,idxS (ZfY h.v _),Cq.wp.no (fun h=>h rfl) ⟨?_,?_,?_⟩⟩
 .rw[List.nil_append]; unfold small; omega
 .rw[List.nil_append,List.length_append,List.length_singleton]; unfold small; omega
 have wn:i64.wrap (0-i64.wrap n) = -n:=by rw[wrap64 (x:=n) (by omega),wrap64 (by omega)]; omega
 rw[wn,List.nil_append]
 have pbad:∀ e ∈ a++[(⟨6,ByteArray.empty,0,0,-n,[],false⟩:Zc)],PolOk e.p/\KindOk e:=fun e he=>by
  rcases List.mem_append.1 he with he|he
  .exact pa e he
  rw[List.mem_singleton] at he
  subst he
  exact⟨ZcU,show (-1000:Int)<=6 by decide,show (6:Int)<=1000 by decide⟩
 have ebad:(allF s (a++[(⟨6,ByteArray.empty,0,0,-n,[],false⟩:Zc)]) 0).e=332:=by
  rw[all_append ra]
  have hc:checkF (runF s a) ⟨6,ByteArray.empty,0,0,-n,[],false⟩=332:=by
   rw[check678 (.inl rfl)]
   unfold idC
   rw[if_pos (ZiD ga (show -n<=0 by omega))]
  show (if checkF (runF s a) ⟨6,ByteArray.empty,0,0,-n,[],false⟩=0 then _ else _:Zu).e=332
  rw[hc,if_neg (by decide)]
 refine⟨_,ZaN hh _ (by rw[List.length_append,List.length_singleton]; omega) pbad,Cq.wp.yes rfl ?_⟩
 rw[hv,Zok hh hs (-1) (by omega) (by rw[List.length_append,List.length_singleton]; omega) (by rw[ebad]; decide),ebad]
 rfl
theorem AlikeS.symm{a b:Za}(h:AlikeS a b):AlikeS b a:=⟨h.1.symm,h.2.1.symm,h.2.2.symm⟩
end Go.EL

