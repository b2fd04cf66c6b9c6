/- The law SystemMatchesReference holds for every input: a part of its proof (what the code does, plain models, and what they return). No condition. -/
import Derived.Test.YtoakocgcakgpnaaGreatXMR22f
import Derived.Test.YtoakocgcakgpnaaGreatXMR22d
set_option linter.unusedVariables false
set_option linter.unusedSimpArgs false
namespace Go.Proofs.YtoakocgcakgpnaaGreat
open Go.IntKind (i8 i16 i32 i64 u8 u16 u32 u64)
open Go.Proofs.Tryz
open Go Go.EL Go.RowKit Go.Proofs
theorem eI'{M ac af r}(hr:(Zfz M).Ret r):Ctr prog 102 #[.slice ac M.length af] (fun G=>sl a' G ac af M) (wl' a' r):=by
 refine H' (args:=[_]) (N:=101) func102 z z z (fun w0 G0 cW cK=>?_)
 have x:=cK
 refine sr<|sx0 z z<|g'<|sr<|mv z z<|yy (O' C' x z) z<|yy (aH' z z) z<|nx<|P' hr z (fun dn hr=>?_) (fun dn hr=>?_)
 .refine sr<|aF' (e:=119) (r:=a') (vs:=#[]) (cs:=[]) ([]:List Za) z z z z z (by decide) (fun _=>by kernel_rfl) (z) (key:=999) z (by rw[cW]; rfl) fun p1 dX dz c8=>sx0 z z<|k'<|f' ?_
  obtain rfl:_=r:=hr
  exact j' z z ⟨_,_,z,c8⟩
 refine n'<|b'<|sr ?_
 obtain⟨de,cE,hr⟩:=hr
 refine N' z z (m' E61 z) (di' cE) z (trivial) (fun dM dT A bB=>?_)
 obtain⟨bH,bx,rfl,bz⟩:=bB
 obtain⟨a8,cF,hr⟩:=hr
 refine N' z z (m' E61 z) (di' cF) z (trivial) (fun dK bW y bJ=>?_)
 obtain⟨av,ax,rfl,bE⟩:=bJ
 refine X' 3 z z57 z fun b1=>X' 4 z z57 z fun b2=>B' 3 z bn' z z z z z (List.all_eq_true.1 z)<|B' 4 z bn' z z z z z (List.all_eq_true.1 z)<|nx<|g'<|sr<|sx0 z z<|ab' (fun (⟨ag,H,I,au⟩:Zc×Option Addr×Nat×Mem)=>[(0,.slice ac M.length af),(3,pt0 b1),(4,pt0 b2)]) (fun ⟨ag,H,I,au⟩=>Mem.le bW au/\sl (Rp.int .u32) au H I ag.mag/\(ZbS M a8 ag).Ret r) (fun ⟨ag,H,I,au⟩=>St w0 G0 au [(3,bk0 b1 (v57' ag H I) 57),(4,bk0 b2 (v57' a8 av ax) 57)]) ?_ ?_
 .refine y' ?_
  let bY:Zc->Prop:=fun oo=>((fun ov=>match ov with|ag=>ZbS M a8 ag:Zc->Cq (List Za)) oo).wp (fun a=>a=r)
  replace hr:(Cq.loop _ _).wp bY:=hr
  refine ac' (Φ:=bY) (fun (⟨ar,aA,L,F,ay⟩:Int×Zc×Option Addr×Nat×Mem)=>((ar,aA):Int×Zc)) (fun ⟨ar,aA,L,F,ay⟩=>[(0,.slice ac M.length af),(3,pt0 b1),(4,pt0 b2),(5,i' ar)]) (fun ⟨ar,aA,L,F,ay⟩=>Mem.le bW ay/\sl (Rp.int .u32) ay L F aA.mag) (fun ⟨ar,aA,L,F,ay⟩=>St w0 G0 ay [(3,bk0 b1 (v57' aA L F) 57),(4,bk0 b2 (v57' a8 av ax) 57)]) ⟨0,de,bH,bx,bW⟩ hr (f4 z z z z) ⟨mr,(bz.mono y)⟩ (w2 z z) ?_
  .intro dQ gx hx hr
   obtain⟨ar,aA,L,F,ay⟩:=gx
   obtain⟨ad,aw⟩:=hx
   refine g'<|sr<|mv z z<|mv z z<|yy (O' C' (x.mono (mx (mx A y) ad)) z) z<|yy (aa' z z) z<|nx<|P' hr z (fun c4 hr=>?_) (fun c4 hr=>?_)
   .refine n'<|b'<|g'<|y'<|g'<|ak' [ff,ff,ff,ff,ff,ff,ff,ff,ff,ff,ff,ff,ff,ff,ff,ff,ff,tt,tt,ff,ff] mix (by kernel_rfl) fun hb=>cn (fun _ g=>c' z)<|cn (fun _ g=>c' z) ?_
    obtain⟨x4,ck,hr⟩:=hr
    refine cn (fun _ g=>V' C' aW' ((x.mono (mx (mx A y) ad)).mono g) z z ck)<|cn (fun _ g=>aV' z)<|cn (fun _ g=>aY' z) ?_
    obtain⟨dg,cP,c2,b9⟩:=ea' (J' (bq' (aG' (br' (aG' (Z' x ck))))) (mx (mx A y) ad))
    refine cn (fun _ g=>ao' _ at' z z (fun j v hv=>g _ _ _ (c2 j v hv)))<|cn (fun _ g=>D' 3 at' z z z)<|cn (fun _ g=>c' z)<|cn (fun _ g=>c' z) ?_
    obtain⟨x5,cm,hr⟩:=hr
    refine cn (fun _ g=>V' C' aW' ((x.mono (mx (mx A y) ad)).mono g) z z cm)<|cn (fun _ g=>aV' z)<|cn (fun _ g=>aY' z) ?_
    obtain⟨c9,cT,c0,bM⟩:=ea' (J' (bq' (aG' (br' (aG' (Z' x cm))))) (mx (mx A y) ad))
    refine cn (fun _ g=>ao' _ at' z z (fun j v hv=>g _ _ _ (c0 j v hv))) ?_
    obtain⟨bS,ce,hr⟩:=hr
    refine az' (post:=w57' bS) (fun _=>z) (fun _ _=>m' E120 z) (em' ce) z (fun Y g=>⟨(aw.mono g),(bM.mono g)⟩) (fun v G1 G2 g h=>?_) ?_
    .obtain⟨aG,aL,rfl,ae⟩:=h
     exact⟨_,_,z,ae.mono g⟩
    obtain⟨i,ch,hr⟩:=hr
    refine bJ' (f:=158) (φ:=fun G v=>∃ l n o m,v = .tuple #[.agg ((v57' i.1 l n)).toArray,.agg ((v57' i.2.1 o m)).toArray,i' i.2.2]/\sl (Rp.int .u32) G l n i.1.mag/\sl (Rp.int .u32) G o m i.2.1.mag) (fun _=>z) (fun v G1 G2 g h=>?_) (fun u Y g hu=>?_) ?_
    .obtain⟨l,n,o,m,rfl,S,T⟩:=h
     exact⟨_,_,_,_,z,S.mono g,T.mono g⟩
    .obtain⟨⟨aG,aL,bO,ae⟩,_⟩:=(show (w57' bS) Y.m (u 43)/\True from hu)
     exact⟨_,_,_,fun _=>m' E158 z,eg' ch,(by simp only[bO] <;> rfl),⟨(b9.mono g),ae⟩⟩
    refine bF' (φ:=fun G v=>∃ p6 O p7 R,v = .tuple #[.agg ((v57' i.1 p6 O)).toArray,.agg ((v57' i.2.1 p7 R)).toArray,i' i.2.2]/\sl (Rp.int .u32) G p6 O i.1.mag/\sl (Rp.int .u32) G p7 R i.2.1.mag) (fun _=>z) (fun v G1 G2 g h=>?_) (fun u Y g hu=>?_) ?_
    .obtain⟨p6,O,p7,R,rfl,aO,aQ⟩:=h
     exact⟨_,_,_,_,z,aO.mono g,aQ.mono g⟩
    .obtain⟨⟨l,n,o,m,bT,S,T⟩,_,_⟩:=(show (fun G v=>∃ l n o m,v = .tuple #[.agg ((v57' i.1 l n)).toArray,.agg ((v57' i.2.1 o m)).toArray,i' i.2.2]/\sl (Rp.int .u32) G l n i.1.mag/\sl (Rp.int .u32) G o m i.2.1.mag) Y.m (u 44)/\True/\True from hu)
     simp only[undFr,bT]
     exact⟨_,c' z,l,n,o,m,z,S,T⟩
    refine bF' (φ:=w57' i.1) (fun _=>z) (fun v G1 G2 g h=>?_) (fun u Y g hu=>?_) ?_
    .obtain⟨p8,dl,rfl,bL⟩:=h
     exact⟨_,_,z,bL.mono g⟩
    .obtain⟨⟨p6,O,p7,R,aa,aO,aQ⟩,_,_,_⟩:=(show (fun G v=>∃ p6 O p7 R,v = .tuple #[.agg ((v57' i.1 p6 O)).toArray,.agg ((v57' i.2.1 p7 R)).toArray,i' i.2.2]/\sl (Rp.int .u32) G p6 O i.1.mag/\sl (Rp.int .u32) G p7 R i.2.1.mag) Y.m (u 29)/\True/\True/\True from hu)
     simp only[undFr,aa]
     exact⟨_,R' z z,p6,O,z,aO⟩
    refine dW' (kk:=29) (φ:=w57' i.2.1) (by kernel_rfl) (fun _=>z) (fun v G1 G2 g h=>?_) (fun u Y g hu=>?_) ?_
    .obtain⟨p9,c3,rfl,cl⟩:=h
     exact⟨_,_,z,cl.mono g⟩
    .obtain⟨_,⟨p6,O,p7,R,aa,aO,aQ⟩,_,_,_⟩:=(show True/\(fun G v=>∃ p6 O p7 R,v = .tuple #[.agg ((v57' i.1 p6 O)).toArray,.agg ((v57' i.2.1 p7 R)).toArray,i' i.2.2]/\sl (Rp.int .u32) G p6 O i.1.mag/\sl (Rp.int .u32) G p7 R i.2.1.mag) Y.m (u 29)/\True/\True/\True from hu)
     exact⟨_,_,aa,(by simp only[undFr,aa] <;> rfl),z,p7,R,z,aQ⟩
    refine cI' (c:=i' i.2.2) (fun _=>z) (fun u Y g hu=>?_) ?_
    .obtain⟨_,_,⟨p6,O,p7,R,aa,aO,aQ⟩,_,_,_⟩:=(show True/\True/\(fun G v=>∃ p6 O p7 R,v = .tuple #[.agg ((v57' i.1 p6 O)).toArray,.agg ((v57' i.2.1 p7 R)).toArray,i' i.2.2]/\sl (Rp.int .u32) G p6 O i.1.mag/\sl (Rp.int .u32) G p7 R i.2.1.mag) Y.m (u 29)/\True/\True/\True from hu)
     simp only[undFr,aa]
     exact R' z z
    refine bN' (fun _=>z) z57<|bN' (fun _=>z) z57<|Chain.tailX7 (fun dV dR dx dw du dr dv X2 bZ bR aH bd bm bq bp bn=>?_)
    obtain⟨p9,c3,rfl,cl⟩:=bd
    obtain⟨p8,dl,rfl,bL⟩:=bm
    obtain⟨p6,O,p7,R,rfl,aO,aQ⟩:=bq
    obtain⟨l,n,o,m,rfl,S,T⟩:=bp
    obtain⟨aG,aL,rfl,ae⟩:=bn
    refine dT' bR (fun b7 cQ c1=>?_)
    subst cQ
    replace aH:=Laid.drop aH (by decide) c1
    refine dT' aH (fun b6 da dW=>?_)
    subst da
    refine ds' (show WL _ _ _ _ _ _ (St w0 G0 X2.m _) from ?_)
    refine B' 6 z bn' z z z z z (List.all_eq_true.1 z)<|B' 7 z bn' z z z z z (List.all_eq_true.1 z)<|sg z z<|q'<|am'<|b'<|x'<|yy (D' 3 at' z z z) z<|yy (D' 6 at' z z z) z ?_
    obtain⟨cH,cd,hr⟩:=hr
    refine N' z z (m' E63 z) (cJ' cd) z (⟨(aw.mono bZ),bL⟩) (fun dp cz bP bg=>?_)
    obtain⟨bl,bj,rfl,bi⟩:=bg
    refine B' 3 z bn' z z z z z (List.all_eq_true.1 z)<|q'<|F'<|b'<|x'<|mv z z<|yy (W' z z) z<|sg z z<|q'<|T' ⟨i64.wrap (ar+1),cH,bl,bj,cz⟩ hr ⟨(mx (mx ad bZ) bP),bi⟩ (f4 z z z z) (w2 z z)
   refine ae'<|h'<|h'<|I'<|af' ⟨aA,L,F,ay⟩ ⟨ad,aw,hr⟩ (f3 z z z) (w2 z z)
 rintro⟨ag,H,I,au⟩ ⟨U,aR,hr⟩
 refine b'<|g'<|sr<|sx0 z z<|ab' (fun (⟨aC,ab,Z,aU⟩:Zc×Option Addr×Nat×Mem)=>[(0,.slice ac M.length af),(3,pt0 b1),(4,pt0 b2)]) (fun ⟨aC,ab,Z,aU⟩=>Mem.le au aU/\sl (Rp.int .u32) aU ab Z aC.mag/\(Za4 M ag aC).Ret r) (fun ⟨aC,ab,Z,aU⟩=>St w0 G0 aU [(3,bk0 b1 (v57' ag H I) 57),(4,bk0 b2 (v57' aC ab Z) 57)]) ?_ ?_
 .refine y' ?_
  let bV:Zc->Prop:=fun oo=>((fun ov=>match ov with|aC=>Za4 M ag aC:Zc->Cq (List Za)) oo).wp (fun a=>a=r)
  replace hr:(Cq.loop _ _).wp bV:=hr
  refine ac' (Φ:=bV) (fun (⟨ap,aB,J,K,az⟩:Int×Zc×Option Addr×Nat×Mem)=>((ap,aB):Int×Zc)) (fun ⟨ap,aB,J,K,az⟩=>[(0,.slice ac M.length af),(3,pt0 b1),(4,pt0 b2),(9,i' ap)]) (fun ⟨ap,aB,J,K,az⟩=>Mem.le au az/\sl (Rp.int .u32) az J K aB.mag) (fun ⟨ap,aB,J,K,az⟩=>St w0 G0 az [(3,bk0 b1 (v57' ag H I) 57),(4,bk0 b2 (v57' aB J K) 57)]) ⟨0,a8,av,ax,au⟩ hr (f4 z z z z) ⟨mr,(bE.mono U)⟩ (w2 z z) ?_
  .intro dS gx hx hr
   obtain⟨ap,aB,J,K,az⟩:=gx
   obtain⟨X,aP⟩:=hx
   refine g'<|sr<|mv z z<|mv z z<|yy (O' C' (x.mono (mx (mx (mx A y) U) X)) z) z<|yy (aa' z z) z<|nx<|P' hr z (fun db hr=>?_) (fun db hr=>?_)
   .refine n'<|b'<|g'<|y'<|g'<|ak' [ff,ff,ff,ff,ff,ff,ff,ff,ff,ff,tt,tt,ff,ff] mix (by kernel_rfl) fun hb=>cn (fun _ g=>D' 3 at' z z z)<|cn (fun _ g=>c' z)<|cn (fun _ g=>c' z) ?_
    obtain⟨x2,cj,hr⟩:=hr
    refine cn (fun _ g=>V' C' aW' ((x.mono (mx (mx (mx A y) U) X)).mono g) z z cj)<|cn (fun _ g=>aV' z)<|cn (fun _ g=>aY' z) ?_
    obtain⟨c5,dj,cM,bX⟩:=ea' (J' (bq' (aG' (br' (aG' (Z' x cj))))) (mx (mx (mx A y) U) X))
    refine cn (fun _ g=>ao' _ at' z z (fun j v hv=>g _ _ _ (cM j v hv))) ?_
    obtain⟨k,cJ,hr⟩:=hr
    refine az' (post:=fun G v=>∃ p s t q,v = .tuple #[.agg ((v57' k.1 p s)).toArray,.agg ((v57' k.2.1 t q)).toArray,i' k.2.2]/\sl (Rp.int .u32) G p s k.1.mag/\sl (Rp.int .u32) G t q k.2.1.mag) (fun _=>z) (fun _ _=>m' E158 z) (eg' cJ) z (fun Y g=>⟨((aR.mono X).mono g),(bX.mono g)⟩) (fun v G1 G2 g h=>?_) ?_
    .obtain⟨p,s,t,q,rfl,W,V⟩:=h
     exact⟨_,_,_,_,z,W.mono g,V.mono g⟩
    refine bF' (φ:=fun G v=>∃ p2 Q p3 P,v = .tuple #[.agg ((v57' k.1 p2 Q)).toArray,.agg ((v57' k.2.1 p3 P)).toArray,i' k.2.2]/\sl (Rp.int .u32) G p2 Q k.1.mag/\sl (Rp.int .u32) G p3 P k.2.1.mag) (fun _=>z) (fun v G1 G2 g h=>?_) (fun u Y g hu=>?_) ?_
    .obtain⟨p2,Q,p3,P,rfl,aT,aS⟩:=h
     exact⟨_,_,_,_,z,aT.mono g,aS.mono g⟩
    .obtain⟨⟨p,s,t,q,ca,W,V⟩,_⟩:=(show (fun G v=>∃ p s t q,v = .tuple #[.agg ((v57' k.1 p s)).toArray,.agg ((v57' k.2.1 t q)).toArray,i' k.2.2]/\sl (Rp.int .u32) G p s k.1.mag/\sl (Rp.int .u32) G t q k.2.1.mag) Y.m (u 65)/\True from hu)
     simp only[undFr,ca]
     exact⟨_,c' z,p,s,t,q,z,W,V⟩
    refine bF' (φ:=w57' k.1) (fun _=>z) (fun v G1 G2 g h=>?_) (fun u Y g hu=>?_) ?_
    .obtain⟨p4,cX,rfl,bQ⟩:=h
     exact⟨_,_,z,bQ.mono g⟩
    .obtain⟨⟨p2,Q,p3,P,ao,aT,aS⟩,_,_⟩:=(show (fun G v=>∃ p2 Q p3 P,v = .tuple #[.agg ((v57' k.1 p2 Q)).toArray,.agg ((v57' k.2.1 p3 P)).toArray,i' k.2.2]/\sl (Rp.int .u32) G p2 Q k.1.mag/\sl (Rp.int .u32) G p3 P k.2.1.mag) Y.m (u 57)/\True/\True from hu)
     simp only[undFr,ao]
     exact⟨_,R' z z,p2,Q,z,aT⟩
    refine dW' (kk:=57) (φ:=w57' k.2.1) (by kernel_rfl) (fun _=>z) (fun v G1 G2 g h=>?_) (fun u Y g hu=>?_) ?_
    .obtain⟨p5,cR,rfl,cv⟩:=h
     exact⟨_,_,z,cv.mono g⟩
    .obtain⟨_,⟨p2,Q,p3,P,ao,aT,aS⟩,_,_⟩:=(show True/\(fun G v=>∃ p2 Q p3 P,v = .tuple #[.agg ((v57' k.1 p2 Q)).toArray,.agg ((v57' k.2.1 p3 P)).toArray,i' k.2.2]/\sl (Rp.int .u32) G p2 Q k.1.mag/\sl (Rp.int .u32) G p3 P k.2.1.mag) Y.m (u 57)/\True/\True from hu)
     exact⟨_,_,ao,(by simp only[undFr,ao] <;> rfl),z,p3,P,z,aS⟩
    refine cI' (c:=i' k.2.2) (fun _=>z) (fun u Y g hu=>?_) ?_
    .obtain⟨_,_,⟨p2,Q,p3,P,ao,aT,aS⟩,_,_⟩:=(show True/\True/\(fun G v=>∃ p2 Q p3 P,v = .tuple #[.agg ((v57' k.1 p2 Q)).toArray,.agg ((v57' k.2.1 p3 P)).toArray,i' k.2.2]/\sl (Rp.int .u32) G p2 Q k.1.mag/\sl (Rp.int .u32) G p3 P k.2.1.mag) Y.m (u 57)/\True/\True from hu)
     simp only[undFr,ao]
     exact R' z z
    refine bN' (fun _=>z) z57<|bN' (fun _=>z) z57<|Chain.tailX6 (fun dZ d0 ds dL dA dH X1 a1 b8 aK bc bF bD bK=>?_)
    obtain⟨p5,cR,rfl,cv⟩:=bc
    obtain⟨p4,cX,rfl,bQ⟩:=bF
    obtain⟨p2,Q,p3,P,rfl,aT,aS⟩:=bD
    obtain⟨p,s,t,q,rfl,W,V⟩:=bK
    refine dT' b8 (fun b5 cZ dh=>?_)
    subst cZ
    replace aK:=Laid.drop aK (by decide) dh
    refine dT' aK (fun b4 dm dO=>?_)
    subst dm
    refine ds' (show WL _ _ _ _ _ _ (St w0 G0 X1.m _) from ?_)
    refine B' 10 z bn' z z z z z (List.all_eq_true.1 z)<|B' 11 z bn' z z z z z (List.all_eq_true.1 z)<|sg z z<|q'<|am'<|b'<|ak' [ff,ff,ff,ff,ff,ff,ff,ff,ff] mix (by kernel_rfl) fun hb=>cn (fun _ g=>D' 4 at' z z z)<|cn (fun _ g=>c' z)<|cn (fun _ g=>c' z) ?_
    obtain⟨x3,cp,hr⟩:=hr
    refine cn (fun _ g=>V' C' aW' ((x.mono (mx (mx (mx (mx A y) U) X) a1)).mono g) z z cp)<|cn (fun _ g=>aV' z)<|cn (fun _ g=>bk' z) ?_
    obtain⟨dd,di,cY,bU⟩:=ea' (J' (br' (aG' (br' (aG' (Z' x cp))))) (mx (mx (mx (mx A y) U) X) a1))
    refine cn (fun _ g=>ao' _ at' z z (fun j v hv=>g _ _ _ (cY j v hv)))<|cn (fun _ g=>D' 10 at' z z z) ?_
    obtain⟨b0,cf,hr⟩:=hr
    refine az' (post:=w57' b0) (fun _=>z) (fun _ _=>m' E63 z) (cJ' cf) z (fun Y g=>⟨(bU.mono g),(bQ.mono g)⟩) (fun v G1 G2 g h=>?_) ?_
    .obtain⟨bs,bv,rfl,aq⟩:=h
     exact⟨_,_,z,aq.mono g⟩
    refine bi' (d:=77) (post:=w57' b0) (fun dy dU bw bk=>?_)
    obtain⟨bs,bv,rfl,aq⟩:=bk
    obtain⟨cC,cc,hr⟩:=hr
    refine N' z z (m' E120 z) (em' cc) z (⟨(aP.mono (mx a1 bw)),aq⟩) (fun dq dc cg bh=>?_)
    obtain⟨bt,be,rfl,bf⟩:=bh
    refine B' 4 z bn' z z z z z (List.all_eq_true.1 z)<|q'<|am'<|F'<|b'<|x'<|mv z z<|yy (W' z z) z<|sg z z<|q'<|T' ⟨i64.wrap (ap+1),cC,bt,be,dc⟩ hr ⟨(mx (mx (mx X a1) bw) cg),bf⟩ (f4 z z z z) (w2 z z)
   refine ae'<|h'<|h'<|I'<|af' ⟨aB,J,K,az⟩ ⟨X,aP,hr⟩ (f3 z z z) (w2 z z)
 rintro⟨aC,ab,Z,aU⟩ ⟨aD,bG,hr⟩
 refine b'<|sr<|yy (D' 3 at' z z z) z<|yy (D' 4 at' z z z) z ?_
 obtain⟨c7,cI,hr⟩:=hr
 refine N' z z (m' E159 z) (gb' cI) z (⟨(aR.mono aD),bG⟩) (fun dC co a4 bI=>?_)
 obtain⟨aN,aI,aF,aM,rfl,aj,an⟩:=bI
 refine mv z z<|yy (R' z z) z<|yy (R' z z) z<|X' 13 z z59 z fun b3=>B' 13 z ch' z z z z z (List.all_eq_true.1 z)<|sx0 z z<|aO' (fun (⟨aJ,E,B,C,D,aE⟩:Zh×Option Addr×Nat×Option Addr×Nat×Mem)=>[(0,.slice ac M.length af),(13,pt0 b3)]) (fun ⟨aJ,E,B,C,D,aE⟩=>Mem.le co aE/\sl (Rp.int .u32) aE E B aJ.num.mag/\sl (Rp.int .u32) aE C D aJ.den.mag/\(Zdv M aJ).Ret r) (fun ⟨aJ,E,B,C,D,aE⟩=>St w0 G0 aE [(13,bk0 b3 (v59' aJ E B C D) 59)]) ?_ ?_
 .refine sr<|mv z z ?_
  obtain⟨x1,cw,hr⟩:=hr
  refine yy (V' C' aW' (x.mono (mx (mx (mx (mx A y) U) aD) a4)) z z cw) z<|yy (aV' z) z ?_
  obtain⟨cr,ct,cu,cq,cV,ba,a9⟩:=ce' (J' (br' (aG' (Z' x cw))) (mx (mx (mx (mx A y) U) aD) a4))
  refine yy (ao' _ bc' z z cV) z ?_
  obtain⟨d1,cG,hr⟩:=hr
  refine K' z z (m' E65 z) (cT' cG) z (⟨ba,a9⟩)<|yy (aa' z z) z<|nx<|P' hr z (fun c6 hr=>?_) (fun c6 hr=>?_)
  .refine x'<|yy (D' 13 bc' z z z) z ?_
   obtain⟨cS,cy,hr⟩:=hr
   refine N' z z (m' E160 z) (gc' cy) z (⟨aj,an⟩) (fun dB cU ci bA=>?_)
   obtain⟨aW,aZ,a5,a0,rfl,aY,a3⟩:=bA
   refine B' 13 z ch' z z z z z (List.all_eq_true.1 z)<|q'<|ax' ⟨cS,aW,aZ,a5,a0,cU⟩ ⟨ci,aY,a3,hr⟩ (f2 z z) (w1 z)
  refine n'<|ax' ⟨c7.1,aN,aI,aF,aM,co⟩ ⟨mr,aj,an,hr⟩ (f2 z z) (w1 z)
 rintro⟨aJ,E,B,C,D,aE⟩ ⟨cb,aV,a2,hr⟩
 refine sr<|yy (D' 13 bc' z z z) z<|yy (au' (vs:=#[]) (v:=.agg (vecG (Value.int .i64) 8 (fun _=>0)).toArray) z z (fun _=>by kernel_rfl)) z<|mv z z ?_
 obtain⟨dP,cx,hr⟩:=hr
 refine N' z z (m' E27 z) (da' cx) z (⟨aV,a2,(x.mono (mx (mx (mx (mx (mx A y) U) aD) a4) cb))⟩) (fun dI dY dt bC=>?_)
 obtain⟨dk,df,rfl,bN⟩:=bC
 refine mv z z<|yy (R' z z) z<|yy (R' z z) z<|sg z z<|sg z z<|nr<|mv z z<|sx0 z z<|k' ?_
 obtain rfl:_=r:=hr
 exact j' z z ⟨_,_,z,bN⟩
theorem ft'{p o l g j i k e c f r}(hr:(Ze8 p o).Ret r):Ctr prog 161 #[.agg ((v59' p l g j i)).toArray,.agg ((v59' o k e c f)).toArray] (fun G=>sl (Rp.int .u32) G l g p.num.mag/\sl (Rp.int .u32) G j i p.den.mag/\sl (Rp.int .u32) G k e o.num.mag/\sl (Rp.int .u32) G c f o.den.mag) (fun G v=>v=i' r):=by
 refine H' (args:=[_,_]) (N:=16) func161 z z z (fun w0 Y U J=>?_)
 obtain⟨u,q,s,t⟩:=J
 refine sr<|ai' 2 z z z fun b2=>ai' 3 z z z fun X=>sx0 z z<|g'<|ak' [ff,ff,ff,ff,ff,ff,ff,ff,ff] mix (by kernel_rfl) fun W=>cn (fun _ m=>bk' z)<|cn (fun _ m=>al' ((v57' p.num l g)).toArray 2 at' z z z (ap' ([]) ((v57' p.num l g)) ((v57' p.den j i))))<|cn (fun _ m=>aY' z)<|cn (fun _ m=>al' ((v57' o.den c f)).toArray 3 at' z z z (ap' ((v57' o.num k e)) ((v57' o.den c f)) ([]))) ?_
 obtain⟨F,K,hr⟩:=hr
 refine az' (post:=w57' F) (fun _=>z) (fun _ _=>m' E63 z) (cJ' K) z (fun V m=>⟨(u.mono m),(t.mono m)⟩) (fun v G1 Z m h=>?_) ?_
 .obtain⟨y,A,rfl,n⟩:=h
  exact⟨_,_,z,n.mono m⟩
 refine cu (fun _ _ m=>bk' z)<|cu (fun _ _ m=>al' ((v57' o.num k e)).toArray 3 at' z z z (ap' ([]) ((v57' o.num k e)) ((v57' o.den c f))))<|cu (fun _ _ m=>aY' z)<|cu (fun _ _ m=>al' ((v57' p.den j i)).toArray 2 at' z z z (ap' ((v57' p.num l g)) ((v57' p.den j i)) ([])))<|bi' (d:=9) (post:=w57' F) (fun O Q x B=>?_)
 obtain⟨y,A,rfl,n⟩:=B
 obtain⟨R,H,hr⟩:=hr
 refine N' z z (m' E63 z) (cJ' H) z (⟨(s.mono x),(q.mono x)⟩) (fun P T E D=>?_)
 obtain⟨M,L,rfl,C⟩:=D
 obtain⟨S,I,hr⟩:=hr
 refine K' z z (m' E191 z) (fr' I) z (⟨(n.mono E),C⟩)<|sg z z<|q'<|am'<|b'<|k' (k0' hr z z)
theorem fu'{k h m p n o r}(hr:(ZiT k h).Ret r):Ctr prog 103 #[.slice m k.length p,.slice n h.length o] (fun G=>sl a' G m p k/\sl a' G n o h) (fun G v=>v=i' r):=by
 refine H' (args:=[_,_]) (N:=74) func103 z z z (fun w0 K aH ap=>?_)
 obtain⟨g,f⟩:=ap
 refine sr<|sx0 z z<|g'<|sr<|sx0 z z<|ab' (fun (q:Mem)=>match q with|F=>[(0,.slice m k.length p),(1,.slice n h.length o)]) (fun (q:Mem)=>match q with|F=>Mem.le K F/\(Zcm k h).Ret r) (fun (q:Mem)=>match q with|F=>St w0 K F []) ?_ ?_
 .refine y' ?_
  let I:(Int⊕Unit)->Prop:=fun oo=>((fun ov=>match ov with | .inl rv1=>Cq.ret rv1 | .inr ()=>Zcm k h:(Int⊕Unit)->Cq Int) oo).wp (fun a=>a=r)
  replace hr:(Cq.loop _ _).wp I:=hr
  refine ac' (Φ:=I) (fun (⟨i,l⟩:Int×Mem)=>(i:Int)) (fun ⟨i,l⟩=>[(0,.slice m k.length p),(1,.slice n h.length o),(5,i' i)]) (fun ⟨i,l⟩=>Mem.le K l) (fun ⟨i,l⟩=>St w0 K l []) ⟨0,K⟩ hr (f3 z z z) mr (wk ln) ?_
  .intro ar q hx hr
   obtain⟨i,l⟩:=q
   have d:=hx
   refine aO' (fun (q:Mem)=>match q with|t=>[(0,.slice m k.length p),(1,.slice n h.length o),(5,i' i)]) (fun (q:Mem)=>match q with|t=>Mem.le l t/\(Zfw k h i).wp (Out ar I)) (fun (q:Mem)=>match q with|t=>St w0 K t []) ?_ ?_
   .refine sr<|mv z z<|mv z z<|yy (O' C' (g.mono d) z) z<|aE' hr z (aa' z z) z (fun aB hr=>?_) (fun aB hr=>?_)
    .refine mv z z<|gy z z (c' z) z<|gy z z (c' z) z<|gy z z (O' C' (f.mono d) z) z<|gy z z (aa' z z) z<|yy (w' z z) z<|nx<|P' hr z (fun aA hr=>?_) (fun aA hr=>?_)
     .refine n'<|ax' l ⟨mr,hr⟩ (f3 z z z) (wk ln)
     refine ae'<|h'<|h'<|I'<|af' l ⟨d,hr⟩ (f2 z z) (wk ln)
    refine mv z z<|sn4 z<|yy (t' z z) z<|nx<|bw' z<|ae'<|h'<|h'<|I'<|af' l ⟨d,hr⟩ (f2 z z) (wk ln)
   rintro t ⟨e,hr⟩
   refine g'<|y'<|g'<|g'<|ak' [ff,ff,ff,ff,ff,ff,ff,ff,ff,ff] mix (by kernel_rfl) fun H=>cn (fun _ c=>c' z)<|cn (fun _ c=>c' z) ?_
   obtain⟨x1,ah,hr⟩:=hr
   refine cn (fun _ c=>V' C' aW' ((g.mono (mx d e)).mono c) z z ah)<|cn (fun _ c=>aM' z)<|cn (fun _ c=>ao' _ bo' z (Q' _ _ _) (bK' (J' (J' (bq' (aG' (Z' g ah))) (mx d e)) c)))<|cn (fun _ c=>c' z)<|cn (fun _ c=>c' z) ?_
   obtain⟨x2,L,hr⟩:=hr
   refine cn (fun _ c=>V' C' aW' ((f.mono (mx d e)).mono c) z z L)<|cn (fun _ c=>aM' z)<|cn (fun _ c=>ao' _ bo' z (Q' _ _ _) (bK' (J' (J' (bq' (aG' (Z' f L))) (mx d e)) c)))<|ah' H ?_
   obtain⟨aK,al,hr⟩:=hr
   refine K' z z (m' E81 z) (dR' al) z (trivial)<|yy (bp' z z) z<|q'<|am'<|b'<|P' hr z (fun az hr=>?_) (fun az hr=>?_)
   .refine g'<|ak' [ff,ff,ff,ff,ff,ff,ff,ff,ff,ff] mix (by kernel_rfl) fun H=>cn (fun _ c=>c' z)<|cn (fun _ c=>c' z) ?_
    obtain⟨x3,Q,hr⟩:=hr
    refine cn (fun _ c=>V' C' aW' ((g.mono (mx d e)).mono c) z z Q)<|cn (fun _ c=>aM' z)<|cn (fun _ c=>ao' _ bo' z (Q' _ _ _) (bK' (J' (J' (bq' (aG' (Z' g Q))) (mx d e)) c)))<|cn (fun _ c=>c' z)<|cn (fun _ c=>c' z) ?_
    obtain⟨x4,O,hr⟩:=hr
    refine cn (fun _ c=>V' C' aW' ((f.mono (mx d e)).mono c) z z O)<|cn (fun _ c=>aM' z)<|cn (fun _ c=>ao' _ bo' z (Q' _ _ _) (bK' (J' (J' (bq' (aG' (Z' f O))) (mx d e)) c)))<|ah' H ?_
    obtain⟨aI,am,hr⟩:=hr
    refine K' z z (m' E81 z) (dR' am) z (trivial)<|sg z z<|q'<|am'<|b'<|k'<|f'<|A'<|f'<|f'<|A'<|an'<|f' (k0' hr z z)
   refine n'<|b'<|g'<|ak' [ff,ff,ff,ff,ff,ff,ff,ff,ff,ff] mix (by kernel_rfl) fun H=>cn (fun _ c=>c' z)<|cn (fun _ c=>c' z) ?_
   obtain⟨x5,P,hr⟩:=hr
   refine cn (fun _ c=>V' C' aW' ((g.mono (mx d e)).mono c) z z P)<|cn (fun _ c=>aV' z) ?_
   obtain⟨U,ab,ac,R,au,D,A⟩:=ce' (J' (br' (aG' (Z' g P))) (mx d e))
   refine cn (fun _ c=>ao' _ bc' z z (fun j v J=>c _ _ _ (au j v J)))<|cn (fun _ c=>c' z)<|cn (fun _ c=>c' z) ?_
   obtain⟨x6,aa,hr⟩:=hr
   refine cn (fun _ c=>V' C' aW' ((f.mono (mx d e)).mono c) z z aa)<|cn (fun _ c=>aV' z) ?_
   obtain⟨S,W,Y,Z,aq,x,C⟩:=ce' (J' (br' (aG' (Z' f aa))) (mx d e))
   refine cn (fun _ c=>ao' _ bc' z z (fun j v J=>c _ _ _ (aq j v J)))<|ah' H ?_
   obtain⟨aJ,an,hr⟩:=hr
   refine K' z z (m' E161 z) (ft' an) z (⟨D,A,x,C⟩)<|yy (bp' z z) z<|q'<|am'<|b'<|P' hr z (fun ax hr=>?_) (fun ax hr=>?_)
   .refine g'<|ak' [ff,ff,ff,ff,ff,ff,ff,ff,ff,ff] mix (by kernel_rfl) fun H=>cn (fun _ c=>c' z)<|cn (fun _ c=>c' z) ?_
    obtain⟨x7,ae,hr⟩:=hr
    refine cn (fun _ c=>V' C' aW' ((g.mono (mx d e)).mono c) z z ae)<|cn (fun _ c=>aV' z) ?_
    obtain⟨ad,ag,X,T,av,y,u⟩:=ce' (J' (br' (aG' (Z' g ae))) (mx d e))
    refine cn (fun _ c=>ao' _ bc' z z (fun j v J=>c _ _ _ (av j v J)))<|cn (fun _ c=>c' z)<|cn (fun _ c=>c' z) ?_
    obtain⟨x8,af,hr⟩:=hr
    refine cn (fun _ c=>V' C' aW' ((f.mono (mx d e)).mono c) z z af)<|cn (fun _ c=>aV' z) ?_
    obtain⟨ai,V,M,aj,aw,B,E⟩:=ce' (J' (br' (aG' (Z' f af))) (mx d e))
    refine cn (fun _ c=>ao' _ bc' z z (fun j v J=>c _ _ _ (aw j v J)))<|ah' H ?_
    obtain⟨aG,ak,hr⟩:=hr
    refine K' z z (m' E161 z) (ft' ak) z (⟨y,u,B,E⟩)<|sg z z<|q'<|am'<|b'<|k'<|A'<|f'<|f'<|A'<|an'<|f' (k0' hr z z)
   refine n'<|F'<|b'<|x'<|mv z z<|yy (W' z z) z<|sg z z<|q'<|T' ⟨i64.wrap (i+1),t⟩ hr (mx d e) (f3 z z z) (wk ln)
 rintro F ⟨s,hr⟩
 refine b'<|g'<|sr<|mv z z<|yy (O' C' (g.mono s) z) z<|mv z z<|yy (O' C' (f.mono s) z) z<|yy (aa' z z) z<|nx<|P' hr z (fun aC hr=>?_) (fun aC hr=>?_)
 .refine sr<|sx0 z z<|k'<|f' (k0' hr z z)
 refine n'<|b'<|g'<|sr<|mv z z<|yy (O' C' (g.mono s) z) z<|mv z z<|yy (O' C' (f.mono s) z) z<|yy (aS' z z) z<|nx<|P' hr z (fun ay hr=>?_) (fun ay hr=>?_)
 .refine sr<|sx0 z z<|k'<|f' (k0' hr z z)
 refine n'<|b'<|sr<|sx0 z z<|k' (k0' hr z z)
theorem fi'{s q k h i g r}(hr:(Zhy s q).Ret r):Ctr prog 173 #[.agg ((v57' s k h)).toArray,.agg ((v57' q i g)).toArray] (fun G=>sl (Rp.int .u32) G k h s.mag/\sl (Rp.int .u32) G i g q.mag) (fun G v=>v = .bool r):=by
 refine H' (args:=[_,_]) (N:=38) func173 z z z (fun B o O x=>?_)
 obtain⟨e,j⟩:=x
 refine sr<|ai' 2 z z z fun C=>ai' 3 z z z fun y=>sx0 z z<|g'<|sr<|yy (aQ' z) z<|yy (o' 2 sc4 z z z) z<|yy (aQ' z) z<|yy (o' 3 sc4 z z z) z<|aE' hr z (Y0.neqB bf' z z) z (fun D hr=>?_) (fun D hr=>?_)
 .refine mv z z<|sn7 z<|yy (w' z z) z<|nx<|aB' z<|sr<|sx0 z z<|k'<|f' (k0' hr z z)
 refine mv z z<|gy z z (as' z) z<|gy z z (o' 2 be' z z z) z<|gy z z (O' p' e z) z<|gy z z (as' z) z<|gy z z (o' 3 be' z z z) z<|gy z z (O' p' j z) z<|gy z z (bp' z z) z<|yy (t' z z) z<|nx<|P' hr z (fun F hr=>?_) (fun F hr=>?_)
 .refine sr<|sx0 z z<|k'<|f' (k0' hr z z)
 refine n'<|b'<|g'<|sr<|sx0 z z<|ab' (fun (m:Mem)=>match m with|l=>[]) (fun (m:Mem)=>match m with|l=>Mem.le o l/\(ZeK).Ret r) (fun (m:Mem)=>match m with|l=>St B o l []) ?_ ?_
 .refine y' ?_
  let p:(Bool⊕Unit)->Prop:=fun K=>((fun J=>match J with | .inl rv1=>Cq.ret rv1 | .inr ()=>ZeK:(Bool⊕Unit)->Cq Bool) K).wp (fun a=>a=r)
  replace hr:(Cq.loop _ _).wp p:=hr
  refine ac' (Φ:=p) (fun (⟨n,f⟩:Int×Mem)=>(n:Int)) (fun ⟨n,f⟩=>[(2,pt0 C),(3,pt0 y),(5,i' n)]) (fun ⟨n,f⟩=>Mem.le o f) (fun ⟨n,f⟩=>St B o f [(2,bk0 C (v57' s k h) 57),(3,bk0 y (v57' q i g) 57)]) ⟨0,o⟩ hr (f3 z z z) mr (w2 z z) ?_
  .intro M m L hr
   obtain⟨n,f⟩:=m
   have d:=L
   refine g'<|sr<|mv z z<|yy (as' z) z<|yy (o' 2 be' z z z) z<|yy (O' p' (e.mono d) z) z<|yy (aa' z z) z<|nx<|P' hr z (fun A hr=>?_) (fun A hr=>?_)
   .refine n'<|b'<|g'<|y'<|g'<|ak' [ff,ff,ff,ff,ff,ff,ff,ff,ff,ff] mix (by kernel_rfl) fun I=>cn (fun _ c=>as' z)<|cn (fun _ c=>o' 2 be' z z z)<|cn (fun _ c=>c' z) ?_
    obtain⟨Q,u,hr⟩:=hr
    refine cn (fun _ c=>V' p' aP' ((e.mono d).mono c) z z u)<|cn (fun _ c=>aj' bu' z (aJ' (J' (J' (Z' e u) d) c)))<|cn (fun _ c=>as' z)<|cn (fun _ c=>o' 3 be' z z z)<|cn (fun _ c=>c' z) ?_
    obtain⟨P,t,hr⟩:=hr
    refine cn (fun _ c=>V' p' aP' ((j.mono d).mono c) z z t)<|cn (fun _ c=>aj' bu' z (aJ' (J' (J' (Z' j t) d) c)))<|ah' I<|yy (bp' z z) z<|q'<|am'<|b'<|P' hr z (fun E hr=>?_) (fun E hr=>?_)
    .refine sr<|sx0 z z<|k'<|A'<|f'<|f'<|A'<|an'<|f' (k0' hr z z)
    refine n'<|F'<|b'<|x'<|mv z z<|yy (W' z z) z<|sg z z<|q'<|T' ⟨i64.wrap (n+1),f⟩ hr d (f3 z z z) (w2 z z)
   refine ae'<|h'<|h'<|I'<|af' f ⟨d,hr⟩ fn (wk ln)
 rintro l ⟨H,hr⟩
 refine b'<|sr<|sx0 z z<|k' (k0' hr z z)
theorem fQ'{l k j f h g i d c e r}(hr:(Zfp l k).Ret r):Ctr prog 128 #[.agg ((v59' l j f h g)).toArray,.agg ((v59' k i d c e)).toArray] (fun G=>sl (Rp.int .u32) G j f l.num.mag/\sl (Rp.int .u32) G h g l.den.mag/\sl (Rp.int .u32) G i d k.num.mag/\sl (Rp.int .u32) G c e k.den.mag) (fun G v=>v = .bool r):=by
 refine H' (args:=[_,_]) (N:=17) func128 z z z (fun C B y s=>?_)
 obtain⟨p,m,n,o⟩:=s
 refine sr<|ai' 2 z z z fun D=>ai' 3 z z z fun A=>sg z z<|nr<|yy (bk' z) z<|yy (al' ((v57' l.num j f)).toArray 2 at' z z z (ap' ([]) ((v57' l.num j f)) ((v57' l.den h g)))) z<|yy (bk' z) z<|yy (al' ((v57' k.num i d)).toArray 3 at' z z z (ap' ([]) ((v57' k.num i d)) ((v57' k.den c e)))) z ?_
 obtain⟨u,t,hr⟩:=hr
 refine K' z z (m' E173 z) (fi' t) z (⟨p,n⟩) ?_
 cases u
 .refine mv z z<|sn5 z<|yy (t' z z) z<|sx0 z z<|k' (k0' hr z z)
 refine mv z z<|gy z z (aY' z) z<|gy z z (al' ((v57' l.den h g)).toArray 2 at' z z z (ap' ((v57' l.num j f)) ((v57' l.den h g)) ([]))) z<|gy z z (aY' z) z<|gy z z (al' ((v57' k.den c e)).toArray 3 at' z z z (ap' ((v57' k.num i d)) ((v57' k.den c e)) ([]))) z ?_
 obtain⟨x,q,hr⟩:=hr
 refine K' (E' z z) z (m' E173 z) (fi' q) z (⟨m,o⟩)<|yy (w' z z) z<|sx0 z z<|k' (k0' hr z z)
theorem fp'{l k j h g f i d c e r}(hr:(Zcn l k).Ret r):Ctr prog 73 #[.agg (((v59' l.c j h g f):List Value)++(vecG (Value.int .i64) 8 l.m)).toArray,.agg (((v59' k.c i d c e):List Value)++(vecG (Value.int .i64) 8 k.m)).toArray] (fun G=>sl (Rp.int .u32) G j h l.c.num.mag/\sl (Rp.int .u32) G g f l.c.den.mag/\sl (Rp.int .u32) G i d k.c.num.mag/\sl (Rp.int .u32) G c e k.c.den.mag) (fun G v=>v = .bool r):=by
 refine H' (args:=[_,_]) (N:=17) func73 z z z (fun B A x q=>?_)
 obtain⟨m,n,p,o⟩:=q
 refine sr<|ai' 2 z z z fun C=>ai' 3 z z z fun y=>sg z z<|nr<|yy (aM' z) z<|yy (al' (vecG (Value.int .i64) 8 l.m).toArray 2 bo' z z (Q' _ _ _) (ap' ((v59' l.c j h g f)) (vecG (Value.int .i64) 8 l.m) ([]))) z<|yy (aM' z) z<|yy (al' (vecG (Value.int .i64) 8 k.m).toArray 3 bo' z z (Q' _ _ _) (ap' ((v59' k.c i d c e)) (vecG (Value.int .i64) 8 k.m) ([]))) z<|aE' hr z (Y0.eqlV ar' aD' sc3 sz3 eg68 z z) z (fun t hr=>?_) (fun t hr=>?_)
 .refine mv z z<|gy z z (aV' z) z<|gy z z (al' ((v59' l.c j h g f)).toArray 2 bc' z z z (ap' ([]) ((v59' l.c j h g f)) ((vecG (Value.int .i64) 8 l.m)))) z<|gy z z (aV' z) z<|gy z z (al' ((v59' k.c i d c e)).toArray 3 bc' z z z (ap' ([]) ((v59' k.c i d c e)) ((vecG (Value.int .i64) 8 k.m)))) z ?_
  obtain⟨u,s,hr⟩:=hr
  refine K' (E' z z) z (m' E128 z) (fQ' s) z (⟨m,n,p,o⟩)<|yy (w' z z) z<|sx0 z z<|k' (k0' hr z z)
 refine mv z z<|sn5 z<|yy (t' z z) z<|sx0 z z<|k' (k0' hr z z)
theorem dG'{F B t s u p r}(hr:(Zbh F B).Ret r):Ctr prog 34 #[.slice t F.length s,.slice u B.length p] (fun G=>sl a' G t s F/\sl a' G u p B) (fun G v=>v = .bool r):=by
 refine H' (args:=[_,_]) (N:=27) func34 z z z (fun T o ad M=>?_)
 obtain⟨n,q⟩:=M
 refine sr<|sx0 z z<|g'<|sr<|mv z z<|yy (O' C' n z) z<|mv z z<|yy (O' C' q z) z<|yy (bp' z z) z<|nx<|P' hr z (fun V hr=>?_) (fun V hr=>?_)
 .refine sr<|sx0 z z<|k'<|f' (k0' hr z z)
 refine n'<|b'<|g'<|sr<|sx0 z z<|ab' (fun (l:Mem)=>match l with|k=>[]) (fun (l:Mem)=>match l with|k=>Mem.le o k/\(ZeO).Ret r) (fun (l:Mem)=>match l with|k=>St T o k []) ?_ ?_
 .refine y' ?_
  let x:(Bool⊕Unit)->Prop:=fun oo=>((fun Y=>match Y with | .inl rv1=>Cq.ret rv1 | .inr ()=>ZeO:(Bool⊕Unit)->Cq Bool) oo).wp (fun a=>a=r)
  replace hr:(Cq.loop _ _).wp x:=hr
  refine ac' (Φ:=x) (fun (⟨m,e⟩:Int×Mem)=>(m:Int)) (fun ⟨m,e⟩=>[(0,.slice t F.length s),(1,.slice u B.length p),(5,i' m)]) (fun ⟨m,e⟩=>Mem.le o e) (fun ⟨m,e⟩=>St T o e []) ⟨0,o⟩ hr (f3 z z z) mr (wk ln) ?_
  .intro ac l Z hr
   obtain⟨m,e⟩:=l
   have c:=Z
   refine g'<|sr<|mv z z<|mv z z<|yy (O' C' (n.mono c) z) z<|yy (aa' z z) z<|nx<|P' hr z (fun S hr=>?_) (fun S hr=>?_)
   .refine n'<|b'<|g'<|y'<|g'<|ak' [ff,ff,ff,ff,ff,ff,ff,ff] mix (by kernel_rfl) fun X=>cn (fun _ d=>c' z)<|cn (fun _ d=>c' z) ?_
    obtain⟨x1,L,hr⟩:=hr
    refine cn (fun _ d=>V' C' aW' ((n.mono c).mono d) z z L) ?_
    obtain⟨C,y,H,A,Q,i,f⟩:=bM' (J' (Z' n L) c)
    refine cn (fun _ d=>ao' _ cF' z z (fun j v O=>d _ _ _ (Q j v O)))<|cn (fun _ d=>c' z)<|cn (fun _ d=>c' z) ?_
    obtain⟨x2,K,hr⟩:=hr
    refine cn (fun _ d=>V' C' aW' ((q.mono c).mono d) z z K) ?_
    obtain⟨D,J,E,I,R,g,h⟩:=bM' (J' (Z' q K) c)
    refine cn (fun _ d=>ao' _ cF' z z (fun j v O=>d _ _ _ (R j v O)))<|ah' X ?_
    obtain⟨ab,P,hr⟩:=hr
    refine K' z z (m' E73 z) (fp' P) z (⟨i,f,g,h⟩)<|yy (aA' z) z<|q'<|am'<|b'<|aK' hr z (fun U hr=>?_) (fun U hr=>?_)
    .refine sr<|sx0 z z<|k'<|A'<|f'<|f'<|A'<|an'<|f' (k0' hr z z)
    refine n'<|F'<|b'<|x'<|mv z z<|yy (W' z z) z<|sg z z<|q'<|T' ⟨i64.wrap (m+1),e⟩ hr c (f3 z z z) (wk ln)
   refine ae'<|h'<|h'<|I'<|af' e ⟨c,hr⟩ fn (wk ln)
 rintro k ⟨W,hr⟩
 refine b'<|sr<|sx0 z z<|k' (k0' hr z z)
theorem eJ'{v p t u r}(hr:(ZdM v p).Ret r):Ctr prog 52 #[.slice t v.length u,.bool p] (fun G=>sl (Rp.sl a') G t u v) (wl' (Rp.sl a') r):=by
 refine H' (args:=[_,_]) (N:=75) func52 z z z (fun X W P ap=>?_)
 have K:=ap
 refine sr<|sg z z<|nr<|aF' (e:=65) (r:=(Rp.sl a')) (vs:=#[]) (cs:=[]) ([]:List (List Za)) z z z z z (by decide) (fun _=>by kernel_rfl) (z) (key:=999) z (by rw[P]; rfl) fun p1 U M aD=>sx0 z z<|g'<|sr<|sx0 z z<|ab' (fun (⟨q,A,y,I⟩:(List (List Za))×Option Addr×Nat×Mem)=>[(5,.slice A q.length y)]) (fun ⟨q,A,y,I⟩=>Mem.le U I/\sl (Rp.sl a') I A y q/\(Zdx q).Ret r) (fun ⟨q,A,y,I⟩=>St X W I []) ?_ ?_
 .refine y' ?_
  let H:(((List (List Za))))->Prop:=fun oo=>((fun ov=>match ov with|q=>Zdx q:(((List (List Za))))->Cq ((List (List Za)))) oo).wp (fun a=>a=r)
  replace hr:(Cq.loop _ _).wp H:=hr
  refine ac' (Φ:=H) (fun (⟨f,i,h,j,E⟩:(List (List Za))×Option Addr×Nat×Int×Mem)=>((f,j):(List (List Za))×Int)) (fun ⟨f,i,h,j,E⟩=>[(0,.slice t v.length u),(1,.bool p),(5,.slice i f.length h),(6,i' j)]) (fun ⟨f,i,h,j,E⟩=>Mem.le U E/\sl (Rp.sl a') E i h f) (fun ⟨f,i,h,j,E⟩=>St X W E []) ⟨[],p1,0,0,U⟩ hr (f4 z z z z) ⟨mr,aD⟩ (wk ln) ?_
  .intro S J hx hr
   obtain⟨f,i,h,j,E⟩:=J
   obtain⟨k,g⟩:=hx
   refine g'<|sr<|mv z z<|mv z z<|yy (O' M' (K.mono (mx M k)) z) z<|yy (aa' z z) z<|nx<|P' hr z (fun aS hr=>?_) (fun aS hr=>?_)
   .refine n'<|b'<|g'<|y'<|sr<|mv z z<|mv z z ?_
    obtain⟨x1,ad,hr⟩:=hr
    refine yy (V' M' cj' (K.mono (mx M k)) z z ad) z ?_
    obtain⟨p2,bc,aL,aF⟩:=bl' (J' (Z' K ad) (mx M k))
    refine yy (aj' bU' z (aL)) z ?_
    obtain⟨s,ak,hr⟩:=hr
    refine N' z z (m' E102 z) (eI' ak) z (aF) (fun aX T d R=>?_)
    obtain⟨D,B,rfl,C⟩:=R
    refine sg z z<|sx0 z z<|g'<|ab' (fun (⟨l,m⟩:Int×Mem)=>[(0,.slice t v.length u),(1,.bool p),(5,.slice i f.length h),(6,i' j),(7,.slice D s.length B),(8,i' l)]) (fun ⟨l,m⟩=>Mem.le T m/\(Za5 p f j s l).wp (Out S H)) (fun ⟨l,m⟩=>St X W m []) ?_ ?_
    .refine y' ?_
     let V:Int->Prop:=fun oo=>((fun ov=>match ov with|l=>Za5 p f j s l:Int->Cq (((List (List Za))×Int)⊕(((List (List Za)))))) oo).wp (Out S H)
     replace hr:(Cq.loop _ _).wp V:=hr
     refine ac' (Φ:=V) (fun (⟨o,x⟩:Int×Mem)=>(o:Int)) (fun ⟨o,x⟩=>[(0,.slice t v.length u),(1,.bool p),(5,.slice i f.length h),(6,i' j),(7,.slice D s.length B),(8,i' o)]) (fun ⟨o,x⟩=>Mem.le T x) (fun ⟨o,x⟩=>St X W x []) ⟨0,T⟩ hr (f6 z z z z z z) mr (wk ln) ?_
     .intro a4 J hx hr
      obtain⟨o,x⟩:=J
      have n:=hx
      refine g'<|sr<|mv z z<|mv z z<|yy (O' M' (g.mono (mx d n)) z) z<|aE' hr z (aa' z z) z (fun aI hr=>?_) (fun aI hr=>?_)
      .refine mv z z<|gy z z (c' z) z<|gy z z (c' z) z ?_
       obtain⟨x4,ab,hr⟩:=hr
       refine gy z z (V' M' cj' (g.mono (mx d n)) z z ab) z ?_
       obtain⟨a5,aU,ah,aj⟩:=bl' (J' (Z' g ab) (mx d n))
       refine gy z z (aj' bU' z (ah)) z<|gy z z (c' z) z ?_
       obtain⟨bd,an,hr⟩:=hr
       refine K' (E' z z) z (m' E103 z) (fu' an) z (⟨aj,(C.mono n)⟩)<|gy z z (aa' z z) z<|yy (w' z z) z<|nx<|P' hr z (fun aA hr=>?_) (fun aA hr=>?_)
       .refine n'<|b'<|y'<|x'<|mv z z<|yy (W' z z) z<|sg z z<|q'<|F'<|T' ⟨i64.wrap (o+1),x⟩ hr n (f6 z z z z z z) (wk ln)
       refine ae'<|h'<|h'<|I'<|af' ⟨o,x⟩ ⟨n,hr⟩ (f6 z z z z z z) (wk ln)
      refine mv z z<|sn7 z<|yy (t' z z) z<|nx<|bw' z<|ae'<|h'<|h'<|I'<|af' ⟨o,x⟩ ⟨n,hr⟩ (f6 z z z z z z) (wk ln)
    rintro⟨l,m⟩ ⟨c,hr⟩
    refine b'<|aO' (fun (J:Mem)=>match J with|O=>[(0,.slice t v.length u),(1,.bool p),(5,.slice i f.length h),(6,i' j),(7,.slice D s.length B),(8,i' l)]) (fun (J:Mem)=>match J with|O=>Mem.le m O/\(ZV f j s l).wp (Out S H)) (fun (J:Mem)=>match J with|O=>St X W O []) ?_ ?_
    .refine sr<|mv z z<|yy (O' C' (C.mono c) z) z<|aE' hr z (aH' z z) z (fun aR hr=>?_) (fun aR hr=>?_)
     .refine mv z z<|sn2 z<|aX' (aq' z z) z<|aX' (aq' z z) z<|aX' (aq' z z) z<|sf z z z<|yy (w' z z) z<|mv z z<|sn5 z<|aX' (aq' z z) z<|aX' (aq' z z) z<|aX' (aq' z z) z<|aX' (aq' z z) z<|aX' (aq' z z) z<|aX' (aq' z z) z<|sf z z z<|yy (w' z z) z<|nx<|aB' z<|ae'<|h'<|I'<|b'<|x'<|mv z z<|yy (W' z z) z<|sg z z<|q'<|T' ⟨f,i,h,i64.wrap (j+1),m⟩ hr ⟨(mx (mx k d) c),(g.mono (mx d c))⟩ (f4 z z z z) (wk ln)
     refine mv z z<|aE' hr (E' z z) (db' (c' z) (congrArg Value.bool (bdec _))) z (fun aC hr=>?_) (fun aC hr=>?_)
     .refine gy z z (c' z) z<|gy z z (c' z) z ?_
      obtain⟨a8,al,hr⟩:=hr
      refine K' (E' z z) z (m' E104 z) (dF' al) z ((C.mono c))<|aE' hr (E' z z) (aH' z z) z (fun aG hr=>?_) (fun aG hr=>?_)
      .refine gy z z (w' z z) z<|yy (t' z z) z<|mv z z<|sn5 z<|aX' (aq' z z) z<|aX' (aq' z z) z<|aX' (aq' z z) z<|aX' (aq' z z) z<|aX' (aq' z z) z<|aX' (aq' z z) z<|sf z z z<|yy (w' z z) z<|nx<|aB' z<|ae'<|h'<|I'<|b'<|x'<|mv z z<|yy (W' z z) z<|sg z z<|q'<|T' ⟨f,i,h,i64.wrap (j+1),m⟩ hr ⟨(mx (mx k d) c),(g.mono (mx d c))⟩ (f4 z z z z) (wk ln)
      refine gy z z (w' z z) z<|yy (t' z z) z<|mv z z<|gy z z (c' z) z<|gy z z (c' z) z<|gy z z (O' M' (g.mono (mx d c)) z) z<|aE' hr (E' z z) (aa' z z) z (fun aQ hr=>?_) (fun aQ hr=>?_)
      .refine gy z z (c' z) z<|gy z z (c' z) z<|gy z z (c' z) z ?_
       obtain⟨x2,aa,hr⟩:=hr
       refine gy z z (V' M' cj' (g.mono (mx d c)) z z aa) z ?_
       obtain⟨p8,be,aJ,ar⟩:=bl' (J' (Z' g aa) (mx d c))
       refine gy z z (aj' bU' z (aJ)) z<|gy z z (c' z) z ?_
       obtain⟨ba,ao,hr⟩:=hr
       refine K' (E' z z) z (m' E34 z) (dG' ao) z (⟨ar,(C.mono c)⟩)<|gy z z (w' z z) z<|yy (t' z z) z<|nx<|aK' hr z (fun aB hr=>?_) (fun aB hr=>?_)
       .refine ae'<|h'<|I'<|b'<|x'<|mv z z<|yy (W' z z) z<|sg z z<|q'<|T' ⟨f,i,h,i64.wrap (j+1),m⟩ hr ⟨(mx (mx k d) c),(g.mono (mx d c))⟩ (f4 z z z z) (wk ln)
       refine n'<|ax' m ⟨mr,hr⟩ (f6 z z z z z z) (wk ln)
      refine gy z z (c' z) z<|sn6 z<|gy z z (t' z z) z<|yy (t' z z) z<|nx<|bw' z<|n'<|ax' m ⟨mr,hr⟩ (f6 z z z z z z) (wk ln)
     refine gy z z (c' z) z<|sn3 z<|gy z z (t' z z) z<|yy (t' z z) z<|mv z z<|gy z z (c' z) z<|gy z z (c' z) z<|gy z z (O' M' (g.mono (mx d c)) z) z<|aE' hr (E' z z) (aa' z z) z (fun aO hr=>?_) (fun aO hr=>?_)
     .refine gy z z (c' z) z<|gy z z (c' z) z<|gy z z (c' z) z ?_
      obtain⟨x3,ac,hr⟩:=hr
      refine gy z z (V' M' cj' (g.mono (mx d c)) z z ac) z ?_
      obtain⟨p9,a9,ax,av⟩:=bl' (J' (Z' g ac) (mx d c))
      refine gy z z (aj' bU' z (ax)) z<|gy z z (c' z) z ?_
      obtain⟨a3,ae,hr⟩:=hr
      refine K' (E' z z) z (m' E34 z) (dG' ae) z (⟨av,(C.mono c)⟩)<|gy z z (w' z z) z<|yy (t' z z) z<|nx<|aK' hr z (fun aH hr=>?_) (fun aH hr=>?_)
      .refine ae'<|h'<|I'<|b'<|x'<|mv z z<|yy (W' z z) z<|sg z z<|q'<|T' ⟨f,i,h,i64.wrap (j+1),m⟩ hr ⟨(mx (mx k d) c),(g.mono (mx d c))⟩ (f4 z z z z) (wk ln)
      refine n'<|ax' m ⟨mr,hr⟩ (f6 z z z z z z) (wk ln)
     refine gy z z (c' z) z<|sn6 z<|gy z z (t' z z) z<|yy (t' z z) z<|nx<|bw' z<|n'<|ax' m ⟨mr,hr⟩ (f6 z z z z z z) (wk ln)
    rintro O ⟨F,hr⟩
    refine sr<|mv z z<|aF' (e:=65) (r:=(Rp.sl a')) (vs:=#[(0,.slice D s.length B)]) (cs:=[.slice D s.length B]++([])) ([s]:List (List Za)) z z z z z (by decide) (fun _=>by kernel_rfl) ⟨[.slice D s.length B],[],z,⟨_,z,(C.mono (mx c F))⟩,z⟩ (key:=999) z (by rw[P]; rfl) fun p3 bb L aE=>mv z z<|mv z z ?_
    obtain⟨aK,hr⟩:=hr
    refine WL.sliceRL (r:=(Rp.sl a')) z z M' cj' z (g.mono (mx (mx (mx d c) F) L)) z z aK (fun p4 a7 ay=>?_)
    obtain⟨ag,hr⟩:=hr
    refine bb' (r:=(Rp.sl a')) 2067 z z M' el65 z (by decide) z z aE z (by rw[P]; rfl) cb' ay ag fun p5 a2 a1 a6 Q aN aZ=>sx0 z z<|x'<|mv z z<|mv z z<|mv z z ?_
    obtain⟨aw,hr⟩:=hr
    refine WL.slice3 (r:=(Rp.sl a')) z z M' cj' z (g.mono (mx (mx (mx (mx d c) F) L) Q)) z z z aw fun p6 au=>mv z z ?_
    obtain⟨am,hr⟩:=hr
    refine bb' (r:=(Rp.sl a')) 2073 z z M' el65 z (by decide) z z au z (by rw[P]; rfl) cb' aN am fun p7 aP aV aM Y az aW=>sg z z<|q'<|F'<|b'<|x'<|mv z z<|yy (W' z z) z<|sg z z<|q'<|T' ⟨(((f.take l.toNat).drop (0:Int).toNat)++([s]++((f.take (f.length:Int).toNat).drop l.toNat))),p7,aP,i64.wrap (j+1),aM⟩ hr ⟨(mx (mx (mx (mx (mx (mx k d) c) F) L) Q) Y),az⟩ (f4 z z z z) (wk ln)
   refine ae'<|h'<|h'<|I'<|af' ⟨f,i,h,E⟩ ⟨k,g,hr⟩ (f1 z) (wk ln)
 rintro⟨q,A,y,I⟩ ⟨aT,Z,hr⟩
 refine b'<|sr<|mv z z<|sx0 z z<|k' ?_
 obtain rfl:_=r:=hr
 exact j' z z ⟨_,_,z,Z⟩
theorem ei'{n F p O P B C r}(hr:(ZfB n F p).Ret r):Ctr prog 13 #[i' n,.slice O F.length P,.slice B p.length C] (fun G=>sl (Rp.sl a') G O P F/\sl (Rp.sl a') G B C p) (w28t' r):=by
 refine H' (args:=[_,_,_]) (N:=68) func13 z z z (fun w0 G0 T aR=>?_)
 obtain⟨W,y⟩:=aR
 refine sr<|X' 6 z z28 z fun b1=>sx0 z z<|aO' (fun (⟨H,g,f,d,c,K⟩:Ze×Option Addr×Nat×Option Addr×Nat×Mem)=>[(0,i' n),(1,.slice O F.length P),(2,.slice B p.length C),(6,pt0 b1)]) (fun ⟨H,g,f,d,c,K⟩=>Mem.le G0 K/\sl (Rp.sl a') K g f H.eqs/\sl (Rp.sl a') K d c H.neqs/\(Zf4 n F p).Ret r) (fun ⟨H,g,f,d,c,K⟩=>St w0 G0 K [(6,bk0 b1 (v28' H g f d c) 28)]) ?_ ?_
 .refine sr<|mv z z<|aE' hr z (aa' z z) z (fun a1 hr=>?_) (fun a1 hr=>?_)
  .refine mv z z<|sn2 z<|yy (w' z z) z<|mv z z<|sn4 z<|yy (w' z z) z<|mv z z<|sn4 z<|yy (w' z z) z<|nx<|aB' z<|sr<|yy (au' (vs:=#[]) (v:=.agg ([i' 0,.slice none 0 0,.slice none 0 0]).toArray) z z (fun _=>by kernel_rfl)) z<|B' 6 z bB' z z z z z (List.all_eq_true.1 z)<|sx0 z z<|k'<|f' ?_
   obtain rfl:_=r:=hr
   exact bd' z (aw' (i:=6) bj' z z z) z ⟨_,_,_,_,z,(ay' (Rp.sl a') _),(ay' (Rp.sl a') _)⟩
  refine mv z z<|gy z z (c' z) z<|aE' hr (E' z z) (aS' z z) z (fun a5 hr=>?_) (fun a5 hr=>?_)
  .refine yy (t' z z) z<|mv z z<|sn4 z<|yy (w' z z) z<|mv z z<|sn4 z<|yy (w' z z) z<|nx<|aB' z<|sr<|yy (au' (vs:=#[]) (v:=.agg ([i' 0,.slice none 0 0,.slice none 0 0]).toArray) z z (fun _=>by kernel_rfl)) z<|B' 6 z bB' z z z z z (List.all_eq_true.1 z)<|sx0 z z<|k'<|f' ?_
   obtain rfl:_=r:=hr
   exact bd' z (aw' (i:=6) bj' z z z) z ⟨_,_,_,_,z,(ay' (Rp.sl a') _),(ay' (Rp.sl a') _)⟩
  refine yy (t' z z) z<|mv z z<|gy z z (c' z) z<|gy z z (c' z) z ?_
  obtain⟨a9,aN,hr⟩:=hr
  refine K' (E' z z) z (m' E50 z) (fs' aN) z (W) ?_
  cases a9
  .refine gy z z (aA' z) z<|yy (t' z z) z<|mv z z<|sn4 z<|yy (w' z z) z<|nx<|aB' z<|sr<|yy (au' (vs:=#[]) (v:=.agg ([i' 0,.slice none 0 0,.slice none 0 0]).toArray) z z (fun _=>by kernel_rfl)) z<|B' 6 z bB' z z z z z (List.all_eq_true.1 z)<|sx0 z z<|k'<|f' ?_
   obtain rfl:_=r:=hr
   exact bd' z (aw' (i:=6) bj' z z z) z ⟨_,_,_,_,z,(ay' (Rp.sl a') _),(ay' (Rp.sl a') _)⟩
  refine gy z z (aA' z) z<|yy (t' z z) z<|mv z z<|gy z z (c' z) z<|gy z z (c' z) z ?_
  obtain⟨bn,aD,hr⟩:=hr
  refine K' (E' z z) z (m' E50 z) (fs' aD) z (y)<|gy z z (aA' z) z<|yy (t' z z) z<|nx<|aK' hr z (fun aZ hr=>?_) (fun aZ hr=>?_)
  .refine sr<|yy (au' (vs:=#[]) (v:=.agg ([i' 0,.slice none 0 0,.slice none 0 0]).toArray) z z (fun _=>by kernel_rfl)) z<|B' 6 z bB' z z z z z (List.all_eq_true.1 z)<|sx0 z z<|k'<|f' ?_
   obtain rfl:_=r:=hr
   exact bd' z (aw' (i:=6) bj' z z z) z ⟨_,_,_,_,z,(ay' (Rp.sl a') _),(ay' (Rp.sl a') _)⟩
  refine n'<|ax' ⟨(Ze.mk 0 [] []),none,0,none,0,G0⟩ ⟨mr,(ay' _ _),(ay' _ _),hr⟩ (f4 z z z z) (w1 z)
 rintro⟨H,g,f,d,c,K⟩ ⟨D,aT,aH,hr⟩
 refine sr<|aF' (e:=65) (r:=(Rp.sl a')) (vs:=#[]) (cs:=[]) ([]:List (List Za)) z z z z z (by decide) (fun _=>by kernel_rfl) (z) (key:=999) z (by rw[T]; rfl) fun p1 bt E a2=>mv z z ?_
 obtain⟨aE,hr⟩:=hr
 refine bb' (r:=(Rp.sl a')) 2032 z z M' el65 z (by decide) z z a2 z (by rw[T]; rfl) cb' (W.mono (mx D E)) aE fun p2 a7 aP ai I a4 aJ=>sx0 z z<|g'<|sr<|sx0 z z<|ab' (fun (⟨o,u,x,q,L⟩:(List (List Za))×Option Addr×Nat×Option Ow×Mem)=>[(0,i' n),(2,.slice B p.length C),(6,pt0 b1),(8,.slice u o.length x)]) (fun ⟨o,u,x,q,L⟩=>Mem.le ai L/\sl (Rp.sl a') L u x o/\Tok 1 65 (.slice u o.length x) o.length q/\(ZbT n p o).Ret r) (fun ⟨o,u,x,q,L⟩=>St w0 G0 L [(6,bk0 b1 (v28' H g f d c) 28),(1008,q)]) ?_ ?_
 .refine y' ?_
  let aj:(((List (List Za))))->Prop:=fun oo=>((fun ov=>match ov with|o=>ZbT n p o:(((List (List Za))))->Cq (Ze×Int)) oo).wp (fun a=>a=r)
  replace hr:(Cq.loop _ _).wp aj:=hr
  refine ac' (Φ:=aj) (fun (⟨k,l,m,h,s,A⟩:(List (List Za))×Option Addr×Nat×Option Ow×Int×Mem)=>((k,s):(List (List Za))×Int)) (fun ⟨k,l,m,h,s,A⟩=>[(0,i' n),(2,.slice B p.length C),(6,pt0 b1),(8,.slice l k.length m),(9,i' s)]) (fun ⟨k,l,m,h,s,A⟩=>Mem.le ai A/\sl (Rp.sl a') A l m k/\Tok 1 65 (.slice l k.length m) k.length h) (fun ⟨k,l,m,h,s,A⟩=>St w0 G0 A [(6,bk0 b1 (v28' H g f d c) 28),(1008,h)]) ⟨([]++F),p2,a7,aP,0,ai⟩ hr (f5 z z z z z) ⟨mr,a4,aJ⟩ ?_ ?_
  .intro w hs
   have hs:=hs.rekey (i:=2032) (j:=1008) z (by rw[T]; rfl)
   exact hs.weaken (lc z (lc z ln))
  intro bm gx hx hr
  obtain⟨k,l,m,h,s,A⟩:=gx
  obtain⟨t,M,J⟩:=hx
  refine g'<|sr<|mv z z<|mv z z<|yy (O' M' (y.mono (mx (mx (mx D E) I) t)) z) z<|yy (aa' z z) z<|nx<|P' hr z (fun a0 hr=>?_) (fun a0 hr=>?_)
  .refine n'<|b'<|g'<|y'<|sr<|mv z z<|mv z z ?_
   obtain⟨x1,aB,hr⟩:=hr
   refine yy (V' M' cj' (y.mono (mx (mx (mx D E) I) t)) z z aB) z ?_
   obtain⟨p3,bq,aV,a3⟩:=bl' (J' (Z' y aB) (mx (mx (mx D E) I) t))
   refine yy (aj' bU' z (aV)) z<|yy (O' C' a3 z) z<|yy (aH' z z) z<|nx<|P' hr z (fun a6 hr=>?_) (fun a6 hr=>?_)
   .refine x'<|mv z z ?_
    obtain⟨br,aO,hr⟩:=hr
    refine N' z z (m' E26 z) (cc' aO) z (trivial) (fun bd bu Y ae=>?_)
    obtain⟨ay,aq,au,aw,rfl,Q,R⟩:=ae
    obtain⟨S,aC,hr⟩:=hr
    refine N' z z (m' E51 z) (dn' aC) z (⟨Q,R⟩) (fun bh bv X ad=>?_)
    obtain⟨V,U,rfl,aL⟩:=ad
    refine aF' (e:=65) (r:=(Rp.sl a')) (vs:=#[(0,.slice V S.length U)]) (cs:=[.slice V S.length U]++([])) ([S]:List (List Za)) z z z z z (by decide) (fun _=>by kernel_rfl) ⟨[.slice V S.length U],[],z,⟨_,z,aL⟩,z⟩ (key:=999) z (by rw[T]; rfl) (fun p4 bp aa aX=>?_)
    obtain⟨aK,hr⟩:=hr
    refine bb' (r:=(Rp.sl a')) 1008 z z M' el65 z (by decide) z z (M.mono (mx (mx Y X) aa)) z (by rw[T]; rfl) J aX aK fun p5 aU aS aY ap a8 aM=>sg z z<|q'<|F'<|b'<|x'<|mv z z<|yy (W' z z) z<|sg z z<|q'<|T' ⟨(k++[S]),p5,aU,aS,i64.wrap (s+1),aY⟩ hr ⟨(mx (mx (mx (mx t Y) X) aa) ap),a8,aM⟩ (f5 z z z z z) (w2 z z)
   refine n'<|F'<|b'<|x'<|mv z z<|yy (W' z z) z<|sg z z<|q'<|T' ⟨k,l,m,h,i64.wrap (s+1),A⟩ hr ⟨t,M,J⟩ (f5 z z z z z) (w2 z z)
  refine ae'<|h'<|h'<|I'<|af' ⟨k,l,m,h,A⟩ ⟨t,M,J,hr⟩ (f4 z z z z) (w2 z z)
 rintro⟨o,u,x,q,L⟩ ⟨ar,av,aW,hr⟩
 refine b'<|sr<|mv z z<|mv z z ?_
 obtain⟨aA,aG,hr⟩:=hr
 refine N' z z (m' E52 z) (eJ' aG) z (av) (fun bk bs ax ac=>?_)
 obtain⟨an,ah,rfl,am⟩:=ac
 refine mv z z ?_
 obtain⟨az,aI,hr⟩:=hr
 refine N' z z (m' E52 z) (eJ' aI) z ((y.mono (mx (mx (mx (mx D E) I) ar) ax))) (fun bj bo Z af=>?_)
 obtain⟨ak,ag,rfl,ao⟩:=af
 refine yy (au' (vs:=#[(0,i' n),(1,.slice an aA.length ah),(2,.slice ak az.length ag)]) (v:=.agg ([i' n,.slice an aA.length ah,.slice ak az.length ag]).toArray) z z (fun _=>by kernel_rfl)) z<|X' 10 z z28 z fun b2=>B' 10 z bB' z z z z z (List.all_eq_true.1 z)<|nx<|g'<|sr<|yy (cR' z) z<|yy (o' 10 sc25 z z z) z<|yy (O' M' (am.mono Z) z) z<|aE' hr z (aS' z z) z (fun ba hr=>?_) (fun ba hr=>?_)
 .refine mv z z<|sn4 z<|yy (w' z z) z<|nx<|aB' z<|sr<|yy (au' (vs:=#[]) (v:=.agg ([i' 0,.slice none 0 0,.slice none 0 0]).toArray) z z (fun _=>by kernel_rfl)) z<|B' 6 z bB' z z z z z (List.all_eq_true.1 z)<|sx0 z z<|k'<|f' ?_
  obtain rfl:_=r:=hr
  exact bd' z (aw' (i:=6) bj' z z z) z ⟨_,_,_,_,z,(ay' (Rp.sl a') _),(ay' (Rp.sl a') _)⟩
 refine mv z z<|gy z z (cB' z) z<|gy z z (o' 10 sc25 z z z) z<|gy z z (O' M' ao z) z<|gy z z (aS' z z) z<|yy (t' z z) z<|nx<|P' hr z (fun bb hr=>?_) (fun bb hr=>?_)
 .refine sr<|yy (au' (vs:=#[]) (v:=.agg ([i' 0,.slice none 0 0,.slice none 0 0]).toArray) z z (fun _=>by kernel_rfl)) z<|B' 6 z bB' z z z z z (List.all_eq_true.1 z)<|sx0 z z<|k'<|f' ?_
  obtain rfl:_=r:=hr
  exact bd' z (aw' (i:=6) bj' z z z) z ⟨_,_,_,_,z,(ay' (Rp.sl a') _),(ay' (Rp.sl a') _)⟩
 refine n'<|b'<|sr<|yy (D' 10 bj' z z z) z<|B' 6 z bB' z z z z z (List.all_eq_true.1 z)<|sx0 z z<|k' ?_
 obtain rfl:_=r:=hr
 exact bd' z (aw' (i:=6) bj' z z z) z ⟨_,_,_,_,z,(am.mono Z),ao⟩
theorem eA'{o q p u i j c d g h f e r}(hr:(ZeZ o q p u).Ret r):Ctr prog 14 #[.agg ((v28' o i j c d)).toArray,i' q,.agg ((v28' p g h f e)).toArray,i' u] (fun G=>sl (Rp.sl a') G i j o.eqs/\sl (Rp.sl a') G c d o.neqs/\sl (Rp.sl a') G g h p.eqs/\sl (Rp.sl a') G f e p.neqs) (fun G v=>v = .bool r):=by
 refine H' (args:=[_,_,_,_]) (N:=17) func14 z z z (fun D C A s=>?_)
 obtain⟨m,l,n,k⟩:=s
 refine sr<|ai' 4 z z z fun B=>ai' 6 z z z fun E=>sg z z<|nr<|mv z z<|mv z z<|aE' hr z (aH' z z) z (fun x hr=>?_) (fun x hr=>?_)
 .refine mv z z<|gy z z (D' 4 bj' z z z) z<|gy z z (D' 6 bj' z z z) z ?_
  obtain⟨y,t,hr⟩:=hr
  refine K' (E' z z) z (m' E20 z) (Zbx _ _ _ _ _ _ _ _ _ _ _ t) z (⟨m,l,n,k⟩)<|yy (w' z z) z<|sx0 z z<|k' (k0' hr z z)
 refine mv z z<|sn3 z<|yy (t' z z) z<|sx0 z z<|k' (k0' hr z z)
theorem dp'{A af ad R U r}(hr:(Zd5 A).Ret r):Ctr prog 17 #[.agg ((v37' A af ad R U)).toArray] (fun G=>sl cE' G af ad A.l/\sl (Rp.int .u8) G R U A.gap) (w42' r):=by
 refine H' (args:=[_]) (N:=77) func17 z z z (fun w0 G0 aw a4=>?_)
 obtain⟨am,Z⟩:=a4
 refine sr<|ai' 1 z z z fun b1=>X' 2 z z42 z fun b2=>nr<|aF' (e:=9) (r:=Rp.str) (vs:=#[(0,.string ZJ),(1,.string ZG),(2,.string ZC)]) (cs:=[.string ZJ]++([.string ZG]++([.string ZC]++([])))) ([ZJ,ZG,ZC]:List ByteArray) z z z z z (by decide) (fun _=>by kernel_rfl) ⟨[.string ZJ],[.string ZG]++([.string ZC]++([])),z,z,⟨[.string ZG],[.string ZC]++([]),z,z,⟨[.string ZC],[],z,z,z⟩⟩⟩ (key:=999) z (by rw[aw]; rfl) fun p1 aI ab bd=>sg z z<|nr<|yy (Y0.ZoD z) z<|yy (o' 1 sc5 z z z) z<|yy (bP' z z (by decide)) z<|yy (av' aL' aD' z) z<|sg z z<|nr<|mv z z<|mv z z<|mv z z ?_
 obtain⟨bi,hr⟩:=hr
 refine WL.slice3 (r:=Rp.str) z z aI' sz9 z bd z z z bi fun p2 bf=>yy (au' (vs:=#[(0,.slice p2 (([ZJ,ZG,ZC].take (i64.wrap (Int.tmod A.n 4)).toNat).drop (0:Int).toNat).length ((([ZJ,ZG,ZC].take (i64.wrap (Int.tmod A.n 4)).toNat).drop (0:Int).toNat).length)),(3,i' 1)]) (v:=.agg ([.slice p2 (([ZJ,ZG,ZC].take (i64.wrap (Int.tmod A.n 4)).toNat).drop (0:Int).toNat).length ((([ZJ,ZG,ZC].take (i64.wrap (Int.tmod A.n 4)).toNat).drop (0:Int).toNat).length),.slice none 0 0,.slice none 0 0,i' 1]).toArray) z z (fun _=>by kernel_rfl)) z<|X' 5 z z42 z fun b3=>B' 5 z sz42 z z z z z (List.all_eq_true.1 z)<|nx<|g'<|sr<|sx0 z z<|ab' (fun (⟨E,T,S,D,P,O,Q,y,H,J,L,I,ai⟩:(List ByteArray)×Option Addr×Nat×(List Zb)×Option Addr×Nat×Option Ow×(List Zb)×Option Addr×Nat×Option Ow×Int×Mem)=>[(2,pt0 b2),(5,pt0 b3)]) (fun ⟨E,T,S,D,P,O,Q,y,H,J,L,I,ai⟩=>Mem.le aI ai/\sl Rp.str ai T S E/\sl U' ai P O D/\Tok 2 70 (.slice P D.length O) D.length Q/\sl U' ai H J y/\Tok 2 70 (.slice H y.length J) y.length L/\(ZbN E D y I).Ret r) (fun ⟨E,T,S,D,P,O,Q,y,H,J,L,I,ai⟩=>St w0 G0 ai [(2,bk0 b2 ([.slice none 0 0,.slice none 0 0,.slice none 0 0,i' 0]) 42),(5,bk0 b3 ([.slice T E.length S,.slice P D.length O,.slice H y.length J,i' I]) 42),(310051,Q),(310052,L)]) ?_ ?_
 .refine y' ?_
  let aq:(((List ByteArray)×(List Zb)×(List Zb)×Int))->Prop:=fun oo=>((fun ov=>match ov with|(E,D,y,I)=>ZbN E D y I:(((List ByteArray)×(List Zb)×(List Zb)×Int))->Cq Zg) oo).wp (fun a=>a=r)
  replace hr:(Cq.loop _ _).wp aq:=hr
  refine ac' (Φ:=aq) (fun (⟨M,f,g,k,l,q,s,t,d,n,m,p,c,W⟩:Int×(List ByteArray)×Option Addr×Nat×(List Zb)×Option Addr×Nat×Option Ow×(List Zb)×Option Addr×Nat×Option Ow×Int×Mem)=>((M,f,l,d,c):Int×(List ByteArray)×(List Zb)×(List Zb)×Int)) (fun ⟨M,f,g,k,l,q,s,t,d,n,m,p,c,W⟩=>[(1,pt0 b1),(2,pt0 b2),(4,i' (i64.wrap (Int.tmod A.n 4))),(5,pt0 b3),(6,i' M)]) (fun ⟨M,f,g,k,l,q,s,t,d,n,m,p,c,W⟩=>Mem.le aI W/\sl Rp.str W g k f/\sl U' W q s l/\Tok 2 70 (.slice q l.length s) l.length t/\sl U' W n m d/\Tok 2 70 (.slice n d.length m) d.length p) (fun ⟨M,f,g,k,l,q,s,t,d,n,m,p,c,W⟩=>St w0 G0 W [(1,bk0 b1 (v37' A af ad R U) 37),(2,bk0 b2 ([.slice none 0 0,.slice none 0 0,.slice none 0 0,i' 0]) 42),(5,bk0 b3 ([.slice g f.length k,.slice q l.length s,.slice n d.length m,i' c]) 42),(310051,t),(310052,p)]) ⟨0,(([ZJ,ZG,ZC].take (i64.wrap (Int.tmod A.n 4)).toNat).drop (0:Int).toNat),p2,(([ZJ,ZG,ZC].take (i64.wrap (Int.tmod A.n 4)).toNat).drop (0:Int).toNat).length,[],none,0,none,[],none,0,none,1,aI⟩ hr (f5 z z z z z) ⟨mr,bf,(ay' _ _),cb',(ay' _ _),cb'⟩ (wk (lc z (lc z (lc z (lw (lw ln)))))) ?_
  .intro aP gx hx hr
   obtain⟨M,f,g,k,l,q,s,t,d,n,m,p,c,W⟩:=gx
   obtain⟨F,X,ag,Y,aa,V⟩:=hx
   refine aO' (fun (gx:Mem)=>match gx with|ah=>[(1,pt0 b1),(2,pt0 b2),(4,i' (i64.wrap (Int.tmod A.n 4))),(5,pt0 b3),(6,i' M)]) (fun (gx:Mem)=>match gx with|ah=>Mem.le W ah/\(Zda A M f l d c).wp (Out aP aq)) (fun (gx:Mem)=>match gx with|ah=>St w0 G0 ah [(1,bk0 b1 (v37' A af ad R U) 37),(2,bk0 b2 ([.slice none 0 0,.slice none 0 0,.slice none 0 0,i' 0]) 42),(5,bk0 b3 ([.slice g f.length k,.slice q l.length s,.slice n d.length m,i' c]) 42),(310051,t),(310052,p)]) ?_ ?_
   .refine sr<|mv z z<|yy (Y0.ZmC z) z<|yy (o' 1 sc22 z z z) z<|yy (O' dq' (am.mono (mx ab F)) z) z<|aE' hr z (aa' z z) z (fun bl hr=>?_) (fun bl hr=>?_)
    .refine mv z z<|gy z z (c' z) z<|gy z z (aa' z z) z<|yy (w' z z) z<|nx<|P' hr z (fun bg hr=>?_) (fun bg hr=>?_)
     .refine n'<|ax' W ⟨mr,hr⟩ (f5 z z z z z) (w5 z z z z z)
     refine ae'<|h'<|h'<|I'<|af' ⟨f,g,k,l,q,s,t,d,n,m,p,c,W⟩ ⟨F,X,ag,Y,aa,V,hr⟩ (f2 z z) (w4 z z z z)
    refine mv z z<|sn2 z<|yy (t' z z) z<|nx<|bw' z<|ae'<|h'<|h'<|I'<|af' ⟨f,g,k,l,q,s,t,d,n,m,p,c,W⟩ ⟨F,X,ag,Y,aa,V,hr⟩ (f2 z z) (w4 z z z z)
   rintro ah ⟨B,hr⟩
   refine g'<|y'<|sr<|sx0 z z<|aO' (fun (⟨o,ax⟩:Int×Mem)=>[(1,pt0 b1),(2,pt0 b2),(4,i' (i64.wrap (Int.tmod A.n 4))),(5,pt0 b3),(6,i' M),(7,i' o)]) (fun ⟨o,ax⟩=>Mem.le ah ax/\(Zc9 A M f l d c o).wp (Out aP aq)) (fun ⟨o,ax⟩=>St w0 G0 ax [(1,bk0 b1 (v37' A af ad R U) 37),(2,bk0 b2 ([.slice none 0 0,.slice none 0 0,.slice none 0 0,i' 0]) 42),(5,bk0 b3 ([.slice g f.length k,.slice q l.length s,.slice n d.length m,i' c]) 42),(310051,t),(310052,p)]) ?_ ?_
   .refine sr<|yy (Y0.Zki z) z<|yy (o' 1 sc35 z z z) z<|yy (O' cn' (Z.mono (mx (mx ab F) B)) z) z<|yy (aS' z z) z<|nx<|P' hr z (fun bc hr=>?_) (fun bc hr=>?_)
    .refine ak' [ff,ff,ff,ff,ff,ff,ff] mix (by kernel_rfl) fun hb=>cn (fun _ x=>Y0.Zki z)<|cn (fun _ x=>o' 1 sc35 z z z)<|cn (fun _ x=>c' z)<|cn (fun _ x=>Y0.Zki z)<|cn (fun _ x=>o' 1 sc35 z z z)<|cn (fun _ x=>O' cn' ((Z.mono (mx (mx ab F) B)).mono x) z) ?_
     obtain⟨bh,hr⟩:=hr
     refine cn (fun _ x=>bP' z z bh)<|ah' hb ?_
     obtain⟨x2,aO,hr⟩:=hr
     refine yy (V' cn' sz5 (Z.mono (mx (mx ab F) B)) z z aO) z<|yy (aj' sc5 z (aJ' (J' (Z' Z aO) (mx (mx ab F) B)))) z<|yy (bP' z z (by decide)) z<|yy (av' aL' aD' z) z<|sg z z<|q'<|am'<|ax' ⟨i64.wrap (Int.tmod x2 4),ah⟩ ⟨mr,hr⟩ (f6 z z z z z z) (w5 z z z z z)
    refine n'<|ax' ⟨0,ah⟩ ⟨mr,hr⟩ (f6 z z z z z z) (w5 z z z z z)
   rintro⟨o,ax⟩ ⟨K,hr⟩
   refine g'<|ak' [ff,ff,ff,ff,ff,ff,ff,ff,ff,ff,ff,ff,ff] mix (by kernel_rfl) fun hb=>cn (fun _ x=>bz' z)<|cn (fun _ x=>o' 5 sc3 z z z)<|cn (fun _ x=>c' z)<|cn (fun _ x=>W' z z)<|cn (fun _ x=>Y0.ZmC z)<|cn (fun _ x=>o' 1 sc22 z z z)<|cn (fun _ x=>c' z) ?_
   obtain⟨x1,aR,hr⟩:=hr
   refine cn (fun _ x=>V' dq' sz93 ((am.mono (mx (mx (mx ab F) B) K)).mono x) z z aR) ?_
   obtain⟨bu,bo,a9,aS⟩:=Zka (J' (Z' am aR) (mx (mx (mx ab F) B) K))
   refine cn (fun _ x=>ao' _ ag93 z z (fun j v hv=>x _ _ _ (a9 j v hv)))<|cn (fun _ x=>c' z) ?_
   obtain⟨C,aY,hr⟩:=hr
   refine az' (post:=wl' a' C) (fun _=>z) (fun _ _=>m' E42 z) (ff' aY) z (fun G' x=>(aS.mono x)) (fun v G1 G2 x h=>?_) ?_
   .obtain⟨ao,an,rfl,ar⟩:=h
    exact⟨_,_,z,ar.mono x⟩
   refine bF' (φ:=fun G v=>∃ p3 ac,v = .agg ([i' (i64.wrap (c+o)),.slice p3 C.length ac]).toArray/\sl a' G p3 ac C) (fun _=>z) (fun v G1 G2 x h=>?_) (fun u G' x hu=>?_) ?_
   .obtain⟨p3,ac,rfl,aC⟩:=h
    exact⟨_,_,z,aC.mono x⟩
   .obtain⟨⟨ao,an,aN,ar⟩,_⟩:=(show (wl' a' C) G'.m (u 55)/\True from hu)
    simp only[undFr,aN]
    exact⟨_,au' (vs:=#[(0,i' (i64.wrap (c+o))),(1,.slice ao C.length an)]) (v:=.agg ([i' (i64.wrap (c+o)),.slice ao C.length an]).toArray) z z (fun _=>by kernel_rfl),ao,an,z,ar⟩
   refine bN' (fun _=>z) z70<|Chain.tailX3 (fun bE bv bw X1 ae aK aG aE=>?_)
   obtain⟨b4,rfl,aW⟩:=aK
   obtain⟨p3,ac,rfl,aC⟩:=aG
   obtain⟨ao,an,rfl,ar⟩:=aE
   refine WL.adopt aW (ds' (show WL _ _ _ _ _ _ (St w0 G0 X1.m _) from ?_))
   refine B' 8 z bR' z z z z z (List.all_eq_true.1 z)<|q'<|am'<|b'<|g'<|sr<|mv z z<|yy (bP' z z (by decide)) z<|yy (aH' z z) z<|nx<|P' hr z (fun bm hr=>?_) (fun bm hr=>?_)
   .refine x'<|yy (bA' z) z<|yy (o' 5 bO' z z z) z<|yy (D' 8 ag70 z z z) z<|aF' (e:=70) (r:=U') (vs:=#[(0,.agg ([i' (i64.wrap (c+o)),.slice p3 C.length ac]).toArray)]) (cs:=[i' (i64.wrap (c+o)),.slice p3 C.length ac]++([])) ([(Zb.mk (i64.wrap (c+o)) C)]:List Zb) z z z z z (by decide) (fun _=>by kernel_rfl) ⟨[i' (i64.wrap (c+o)),.slice p3 C.length ac],[],z,⟨[i' (i64.wrap (c+o))],[.slice p3 C.length ac],z,z,⟨_,z,aC⟩⟩,z⟩ (key:=999) z (by rw[aw]; rfl) (fun p4 bD ak ba=>?_)
    obtain⟨aV,hr⟩:=hr
    have N1:=mx (mx (mx B K) ae) ak
    refine bb' (r:=U') 310052 z z Y' el70 z (by decide) z z (aa.mono N1) z (by rw[aw]; rfl) V ba aV fun p5 aH a5 be au bk a2=>yy (bA' z) z<|by' 5 ([.slice g f.length k,.slice q l.length s,.slice p5 (d++[(Zb.mk (i64.wrap (c+o)) C)]).length aH,i' c]).toArray z sz40 z z z (show 2<4 by decide) z z<|nx<|x'<|yy (bt' z) z<|yy (o' 8 sc3 z z z) z<|yy (W' z z) z<|yy (bz' z) z<|by' 5 ([.slice g f.length k,.slice q l.length s,.slice p5 (d++[(Zb.mk (i64.wrap (c+o)) C)]).length aH,i' (i64.wrap ((i64.wrap (c+o))+1))]).toArray z sz3 z z z (show 3<4 by decide) z z<|q'<|F'<|b'<|x'<|mv z z<|yy (W' z z) z<|sg z z<|q'<|T' ⟨i64.wrap (M+1),f,g,k,l,q,s,t,(d++[(Zb.mk (i64.wrap (c+o)) C)]),p5,aH,a5,i64.wrap ((i64.wrap (c+o))+1),be⟩ hr ⟨(mx (mx (mx (mx (mx F B) K) ae) ak) au),(X.mono (mx N1 au)),(ag.mono (mx N1 au)),Y,bk,a2⟩ (f5 z z z z z) (w5 z z z z z)
   refine x'<|yy (bx' z) z<|yy (o' 5 bO' z z z) z<|yy (D' 8 ag70 z z z) z<|aF' (e:=70) (r:=U') (vs:=#[(0,.agg ([i' (i64.wrap (c+o)),.slice p3 C.length ac]).toArray)]) (cs:=[i' (i64.wrap (c+o)),.slice p3 C.length ac]++([])) ([(Zb.mk (i64.wrap (c+o)) C)]:List Zb) z z z z z (by decide) (fun _=>by kernel_rfl) ⟨[i' (i64.wrap (c+o)),.slice p3 C.length ac],[],z,⟨[i' (i64.wrap (c+o))],[.slice p3 C.length ac],z,z,⟨_,z,aC⟩⟩,z⟩ (key:=999) z (by rw[aw]; rfl) (fun p6 bC al a8=>?_)
   obtain⟨a1,hr⟩:=hr
   have N2:=mx (mx (mx B K) ae) al
   refine bb' (r:=U') 310051 z z Y' el70 z (by decide) z z (ag.mono N2) z (by rw[aw]; rfl) Y a8 a1 fun p7 aL aU bj ap bb aZ=>yy (bx' z) z<|by' 5 ([.slice g f.length k,.slice p7 (l++[(Zb.mk (i64.wrap (c+o)) C)]).length aL,.slice n d.length m,i' c]).toArray z sz40 z z z (show 1<4 by decide) z z<|nx<|x'<|yy (bt' z) z<|yy (o' 8 sc3 z z z) z<|yy (W' z z) z<|yy (bz' z) z<|by' 5 ([.slice g f.length k,.slice p7 (l++[(Zb.mk (i64.wrap (c+o)) C)]).length aL,.slice n d.length m,i' (i64.wrap ((i64.wrap (c+o))+1))]).toArray z sz3 z z z (show 3<4 by decide) z z<|q'<|F'<|b'<|x'<|mv z z<|yy (W' z z) z<|sg z z<|q'<|T' ⟨i64.wrap (M+1),f,g,k,(l++[(Zb.mk (i64.wrap (c+o)) C)]),p7,aL,aU,d,n,m,p,i64.wrap ((i64.wrap (c+o))+1),bj⟩ hr ⟨(mx (mx (mx (mx (mx F B) K) ae) al) ap),(X.mono (mx N2 ap)),bb,aZ,(aa.mono (mx N2 ap)),V⟩ (f5 z z z z z) (w5 z z z z z)
 rintro⟨E,T,S,D,P,O,Q,y,H,J,L,I,ai⟩ ⟨bn,aA,aF,a3,aB,aQ,hr⟩
 refine b'<|sr<|yy (D' 5 ag42 z z z) z<|B' 2 z sz42 z z z z z (List.all_eq_true.1 z)<|nx<|k' ?_
 obtain rfl:_=r:=hr
 exact j' z (aw' (i:=2) ag42 z z z) ⟨_,_,_,_,_,_,z,aA,aF,aB⟩
theorem fj'{p C g o n r}(hr:(ZcO p C g).Ret r):Ctr prog 72 #[.slice o p.length n,i' C,i' g] (fun G=>sl U' G o n p) (fun G v=>v = .bool r):=by
 refine H' (args:=[_,_,_]) (N:=60) func72 z z z (fun I l ac B=>?_)
 have e:=B
 refine sr<|sx0 z z<|g'<|sr<|mv z z<|yy (O' Y' e z) z<|yy (aS' z z) z<|nx<|P' hr z (fun S hr=>?_) (fun S hr=>?_)
 .refine sr<|sx0 z z<|k'<|f' (k0' hr z z)
 refine n'<|b'<|g'<|sr<|sx0 z z<|ab' (fun (j:Mem)=>match j with|h=>[]) (fun (j:Mem)=>match j with|h=>Mem.le l h/\(ZeV).Ret r) (fun (j:Mem)=>match j with|h=>St I l h []) ?_ ?_
 .refine y' ?_
  let m:(Bool⊕Unit)->Prop:=fun W=>((fun U=>match U with | .inl rv1=>Cq.ret rv1 | .inr ()=>ZeV:(Bool⊕Unit)->Cq Bool) W).wp (fun a=>a=r)
  replace hr:(Cq.loop _ _).wp m:=hr
  refine ac' (Φ:=m) (fun (⟨i,f⟩:Int×Mem)=>(i:Int)) (fun ⟨i,f⟩=>[(0,.slice o p.length n),(1,i' C),(2,i' g),(7,i' i)]) (fun ⟨i,f⟩=>Mem.le l f) (fun ⟨i,f⟩=>St I l f []) ⟨0,l⟩ hr (f4 z z z z) mr (wk ln) ?_
  .intro aa j V hr
   obtain⟨i,f⟩:=j
   have d:=V
   refine g'<|sr<|mv z z<|mv z z<|yy (O' Y' (e.mono d) z) z<|yy (aa' z z) z<|nx<|P' hr z (fun H hr=>?_) (fun H hr=>?_)
   .refine n'<|b'<|g'<|y'<|g'<|ak' [ff,ff,ff,ff,ff,ff,ff,ff,ff,ff,ff,ff,ff,ff,ff,ff,ff,ff,ff,ff,ff,ff,ff,ff,ff,ff,ff,ff,ff,ff,ff,ff,ff,ff,ff,ff,ff,ff,ff,ff] mix (by kernel_rfl) fun k=>cn (fun _ c=>c' z)<|cn (fun _ c=>c' z) ?_
    obtain⟨x1,x,hr⟩:=hr
    refine cn (fun _ c=>V' Y' bR' ((e.mono d).mono c) z z x)<|cn (fun _ c=>bt' z)<|cn (fun _ c=>aj' sc3 z (aJ' (J' (J' (br' (aG' (Z' e x))) d) c)))<|bG' hr z (fun _ c=>aa' z z) (fun O hr=>?_) (fun O hr=>?_)
    .refine cn (fun _ c=>c' z)<|cf z z<|cf z z<|cf z z<|cf z z<|cf z z<|cf z z<|cf z z<|cn (fun _ c=>w' z z)<|cn (fun _ c=>c' z)<|cf z z<|cf z z<|cf z z<|cs z z<|cs z z<|cs z z<|cs z z<|cs z z<|cs z z<|cs z z<|cs z z<|cs z z<|cs z z<|cs z z<|cs z z<|cf z z<|cn (fun _ c=>w' z z)<|cn (fun _ c=>c' z)<|cf z z<|cf z z<|cf z z<|cf z z<|cf z z<|cf z z<|ah' k<|sn2 z<|yy (w' z z) z<|q'<|am'<|b'<|aB' z<|sr<|sx0 z z<|k'<|A'<|f'<|f'<|A'<|an'<|f' (k0' hr z z)
    refine cn (fun _ c=>c' z)<|cy z z (fun _ c=>c' z)<|cy z z (fun _ c=>c' z) ?_
    obtain⟨x2,s,hr⟩:=hr
    refine cy z z (fun _ c=>V' Y' bR' ((e.mono d).mono c) z z s)<|cy z z (fun _ c=>bt' z)<|cy z z (fun _ c=>aj' sc3 z (aJ' (J' (J' (br' (aG' (Z' e s))) d) c)))<|cy z z (fun _ c=>c' z)<|bG' hr (E' z z) (fun _ c=>bH' z z) (fun L hr=>?_) (fun L hr=>?_)
    .refine cn (fun _ c=>t' z z)<|cn (fun _ c=>c' z)<|cf z z<|cf z z<|cf z z<|cs z z<|cs z z<|cs z z<|cs z z<|cs z z<|cs z z<|cs z z<|cs z z<|cs z z<|cs z z<|cs z z<|cs z z<|cf z z<|cn (fun _ c=>w' z z)<|cn (fun _ c=>c' z)<|cf z z<|cf z z<|cf z z<|cf z z<|cf z z<|cf z z<|ah' k<|sn2 z<|yy (w' z z) z<|q'<|am'<|b'<|aB' z<|sr<|sx0 z z<|k'<|A'<|f'<|f'<|A'<|an'<|f' (k0' hr z z)
    refine cn (fun _ c=>t' z z)<|cn (fun _ c=>c' z)<|cy z z (fun _ c=>c' z)<|bG' hr (E' z z) (fun _ c=>aS' z z) (fun Q hr=>?_) (fun Q hr=>?_)
    .refine cy z z (fun _ c=>c' z)<|cy z z (fun _ c=>c' z)<|cy z z (fun _ c=>c' z)<|cy z z (fun _ c=>ba' z z) ?_
     obtain⟨x3,q,hr⟩:=hr
     refine cy z z (fun _ c=>V' Y' bR' ((e.mono d).mono c) z z q)<|cy z z (fun _ c=>bt' z)<|cy z z (fun _ c=>aj' sc3 z (aJ' (J' (J' (br' (aG' (Z' e q))) d) c)))<|cy z z (fun _ c=>c' z)<|cy z z (fun _ c=>c' z) ?_
     obtain⟨x4,u,hr⟩:=hr
     refine cy z z (fun _ c=>V' Y' bR' ((e.mono d).mono c) z z u)<|cy z z (fun _ c=>bt' z)<|cy z z (fun _ c=>aj' sc3 z (aJ' (J' (J' (br' (aG' (Z' e u))) d) c)))<|bG' hr (E' z z) (fun _ c=>bH' z z) (fun M hr=>?_) (fun M hr=>?_)
     .refine cy z z (fun _ c=>w' z z)<|cn (fun _ c=>t' z z)<|cn (fun _ c=>c' z)<|cf z z<|cf z z<|cf z z<|cf z z<|cf z z<|cf z z<|ah' k<|sn2 z<|yy (w' z z) z<|q'<|am'<|b'<|aB' z<|sr<|sx0 z z<|k'<|A'<|f'<|f'<|A'<|an'<|f' (k0' hr z z)
     refine cy z z (fun _ c=>w' z z)<|cn (fun _ c=>t' z z)<|cn (fun _ c=>c' z)<|cy z z (fun _ c=>c' z)<|cy z z (fun _ c=>c' z) ?_
     obtain⟨x5,y,hr⟩:=hr
     refine cy z z (fun _ c=>V' Y' bR' ((e.mono d).mono c) z z y)<|cy z z (fun _ c=>cl' z) ?_
     obtain⟨p1,ab,E,K⟩:=bl' (J' (bq' (aG' (Z' e y))) d)
     refine cy z z (fun _ c=>aj' bU' z (c _ _ _ E))<|cy z z (fun _ c=>c' z)<|ah' k ?_
     obtain⟨Y,D,hr⟩:=hr
     refine K' (E' z z) z (m' E101 z) (eh' D) z (K)<|gy z z (aA' z) z<|yy (t' z z) z<|q'<|am'<|b'<|aK' hr z (fun R hr=>?_) (fun R hr=>?_)
     .refine sr<|sx0 z z<|k'<|A'<|f'<|f'<|A'<|an'<|f' (k0' hr z z)
     refine n'<|F'<|b'<|x'<|mv z z<|yy (W' z z) z<|sg z z<|q'<|T' ⟨i64.wrap (i+1),f⟩ hr d (f4 z z z z) (wk ln)
    refine cy z z (fun _ c=>c' z)<|ct z z<|ct z z<|ct z z<|ct z z<|ct z z<|ct z z<|ct z z<|ct z z<|ct z z<|ct z z<|ct z z<|ct z z<|cy z z (fun _ c=>t' z z)<|cn (fun _ c=>t' z z)<|cn (fun _ c=>c' z)<|cy z z (fun _ c=>c' z)<|cy z z (fun _ c=>c' z) ?_
    obtain⟨x6,t,hr⟩:=hr
    refine cy z z (fun _ c=>V' Y' bR' ((e.mono d).mono c) z z t)<|cy z z (fun _ c=>cl' z) ?_
    obtain⟨p2,Z,J,P⟩:=bl' (J' (bq' (aG' (Z' e t))) d)
    refine cy z z (fun _ c=>aj' bU' z (c _ _ _ J))<|cy z z (fun _ c=>c' z)<|ah' k ?_
    obtain⟨X,A,hr⟩:=hr
    refine K' (E' z z) z (m' E101 z) (eh' A) z (P)<|gy z z (aA' z) z<|yy (t' z z) z<|q'<|am'<|b'<|aK' hr z (fun F hr=>?_) (fun F hr=>?_)
    .refine sr<|sx0 z z<|k'<|A'<|f'<|f'<|A'<|an'<|f' (k0' hr z z)
    refine n'<|F'<|b'<|x'<|mv z z<|yy (W' z z) z<|sg z z<|q'<|T' ⟨i64.wrap (i+1),f⟩ hr d (f4 z z z z) (wk ln)
   refine ae'<|h'<|h'<|I'<|af' f ⟨d,hr⟩ fn (wk ln)
 rintro h ⟨T,hr⟩
 refine b'<|sr<|sx0 z z<|k' (k0' hr z z)
theorem eK'{c r}(hr:(Zcs c).Ret r):Ctr prog 69 #[.int .u8 c] (fun G=>True) (fun G v=>v = .bool r):=by
 refine H' (args:=[_]) (N:=17) func69 z z z fun j k i h=>sr<|sg z z<|nr<|mv z z<|aE' hr z (bH' z z) z (fun e hr=>?_) (fun e hr=>?_)
 .refine mv z z<|gy z z (c' z) z<|aE' hr (E' z z) (bW' z z) z (fun g hr=>?_) (fun g hr=>?_)
  .refine yy (w' z z) z<|mv z z<|sn3 z<|aX' (aq' z z) z<|aX' (aq' z z) z<|sf z z z<|yy (w' z z) z<|sx0 z z<|k' (k0' hr z z)
  refine yy (w' z z) z<|mv z z<|gy z z (c' z) z<|aE' hr (E' z z) (bH' z z) z (fun f hr=>?_) (fun f hr=>?_)
  .refine gy z z (c' z) z<|gy z z (c' z) z<|gy z z (bW' z z) z<|gy z z (w' z z) z<|yy (t' z z) z<|sx0 z z<|k' (k0' hr z z)
  refine gy z z (c' z) z<|sn2 z<|gy z z (t' z z) z<|yy (t' z z) z<|sx0 z z<|k' (k0' hr z z)
 refine mv z z<|sn2 z<|yy (t' z z) z<|mv z z<|gy z z (c' z) z<|aE' hr (E' z z) (bH' z z) z (fun d hr=>?_) (fun d hr=>?_)
 .refine gy z z (c' z) z<|gy z z (c' z) z<|gy z z (bW' z z) z<|gy z z (w' z z) z<|yy (t' z z) z<|sx0 z z<|k' (k0' hr z z)
 refine gy z z (c' z) z<|sn2 z<|gy z z (t' z z) z<|yy (t' z z) z<|sx0 z z<|k' (k0' hr z z)
theorem ed'{g r}(hr:(ZfA g).Ret r):Ctr prog 29 #[.string g] (fun G=>True) (fun G v=>v = .bool r):=by
 refine H' (args:=[_]) (N:=48) func29 z z z fun m j S L=>sr<|sx0 z z<|aO' (fun (e:Mem)=>match e with|f=>[(0,.string g)]) (fun (e:Mem)=>match e with|f=>Mem.le j f/\(Zg9 g).Ret r) (fun (e:Mem)=>match e with|f=>St m j f []) ?_ ?_
 .refine sr<|mv z z<|yy (Y0.lenS aR' z) z<|aE' hr z (aa' z z) z (fun F hr=>?_) (fun F hr=>?_)
  .refine mv z z<|sn3 z<|yy (w' z z) z<|mv z z<|sn4 z<|yy (w' z z) z<|nx<|aB' z<|sr<|sx0 z z<|k'<|f' (k0' hr z z)
  refine mv z z<|gy z z (c' z) z<|gy z z (Y0.lenS aR' z) z<|aE' hr (E' z z) (aS' z z) z (fun C hr=>?_) (fun C hr=>?_)
  .refine yy (t' z z) z<|mv z z<|sn4 z<|yy (w' z z) z<|nx<|aB' z<|sr<|sx0 z z<|k'<|f' (k0' hr z z)
  refine yy (t' z z) z<|mv z z<|gy z z (c' z) z ?_
  obtain⟨p,hr⟩:=hr
  refine gy z z (de' (s:=g) aR' z z p) z ?_
  obtain⟨Q,l,hr⟩:=hr
  refine K' (E' z z) z (m' E69 z) (eK' l) z (trivial)<|gy z z (aA' z) z<|yy (t' z z) z<|nx<|aK' hr z (fun y hr=>?_) (fun y hr=>?_)
  .refine sr<|sx0 z z<|k'<|f' (k0' hr z z)
  refine n'<|ax' j ⟨mr,hr⟩ (f1 z) (wk ln)
 rintro f ⟨J,hr⟩
 refine g'<|sr<|sx0 z z<|ab' (fun (e:Mem)=>match e with|i=>[]) (fun (e:Mem)=>match e with|i=>Mem.le f i/\(ZeT).Ret r) (fun (e:Mem)=>match e with|i=>St m j i []) ?_ ?_
 .refine y' ?_
  let k:(Bool⊕Unit)->Prop:=fun O=>((fun M=>match M with | .inl rv1=>Cq.ret rv1 | .inr ()=>ZeT:(Bool⊕Unit)->Cq Bool) O).wp (fun a=>a=r)
  replace hr:(Cq.loop _ _).wp k:=hr
  refine ac' (Φ:=k) (fun (⟨h,c⟩:Int×Mem)=>(h:Int)) (fun ⟨h,c⟩=>[(0,.string g),(3,i' h)]) (fun ⟨h,c⟩=>Mem.le f c) (fun ⟨h,c⟩=>St m j c []) ⟨1,f⟩ hr (f2 z z) mr (wk ln) ?_
  .intro R e P hr
   obtain⟨h,c⟩:=e
   have d:=P
   refine g'<|sr<|mv z z<|mv z z<|yy (Y0.lenS aR' z) z<|yy (aa' z z) z<|nx<|P' hr z (fun I hr=>?_) (fun I hr=>?_)
   .refine n'<|b'<|g'<|y'<|sr<|mv z z<|mv z z ?_
    obtain⟨o,hr⟩:=hr
    refine yy (de' (s:=g) aR' z z o) z ?_
    obtain⟨u,n,hr⟩:=hr
    refine K' z z (m' E69 z) (eK' n) z (trivial) ?_
    cases u
    .refine yy (aA' z) z<|mv z z<|gy z z (c' z) z<|gy z z (c' z) z ?_
     obtain⟨t,hr⟩:=hr
     refine gy z z (de' (s:=g) aR' z z t) z<|aE' hr (E' z z) (bH' z z) z (fun E hr=>?_) (fun E hr=>?_)
     .refine gy z z (c' z) z<|gy z z (c' z) z<|gy z z (c' z) z ?_
      obtain⟨D,hr⟩:=hr
      refine gy z z (de' (s:=g) aR' z z D) z<|aE' hr (E' z z) (bW' z z) z (fun B hr=>?_) (fun B hr=>?_)
      .refine gy z z (w' z z) z<|gy z z (aA' z) z<|yy (w' z z) z<|mv z z<|sn4 z<|yy (t' z z) z<|nx<|bw' z<|n'<|F'<|b'<|x'<|mv z z<|yy (W' z z) z<|sg z z<|q'<|T' ⟨i64.wrap (h+1),c⟩ hr d (f2 z z) (wk ln)
      refine gy z z (w' z z) z<|gy z z (aA' z) z<|yy (w' z z) z<|mv z z<|gy z z (c' z) z<|gy z z (c' z) z ?_
      obtain⟨x,hr⟩:=hr
      refine gy z z (de' (s:=g) aR' z z x) z<|gy z z (bp' z z) z<|yy (w' z z) z<|nx<|P' hr z (fun A hr=>?_) (fun A hr=>?_)
      .refine sr<|sx0 z z<|k'<|A'<|f'<|f'<|A'<|an'<|f' (k0' hr z z)
      refine n'<|F'<|b'<|x'<|mv z z<|yy (W' z z) z<|sg z z<|q'<|T' ⟨i64.wrap (h+1),c⟩ hr d (f2 z z) (wk ln)
     refine gy z z (c' z) z<|sn4 z<|gy z z (t' z z) z<|gy z z (aA' z) z<|yy (w' z z) z<|mv z z<|gy z z (c' z) z<|gy z z (c' z) z ?_
     obtain⟨q,hr⟩:=hr
     refine gy z z (de' (s:=g) aR' z z q) z<|gy z z (bp' z z) z<|yy (w' z z) z<|nx<|P' hr z (fun H hr=>?_) (fun H hr=>?_)
     .refine sr<|sx0 z z<|k'<|A'<|f'<|f'<|A'<|an'<|f' (k0' hr z z)
     refine n'<|F'<|b'<|x'<|mv z z<|yy (W' z z) z<|sg z z<|q'<|T' ⟨i64.wrap (h+1),c⟩ hr d (f2 z z) (wk ln)
    refine yy (aA' z) z<|mv z z<|sn5 z<|aX' (aq' z z) z<|aX' (aq' z z) z<|aX' (aq' z z) z<|aX' (aq' z z) z<|sn2 z<|yy (t' z z) z<|mv z z<|sn4 z<|yy (t' z z) z<|nx<|bw' z<|n'<|F'<|b'<|x'<|mv z z<|yy (W' z z) z<|sg z z<|q'<|T' ⟨i64.wrap (h+1),c⟩ hr d (f2 z z) (wk ln)
   refine ae'<|h'<|h'<|I'<|af' c ⟨d,hr⟩ fn (wk ln)
 rintro i ⟨K,hr⟩
 refine b'<|sr<|sx0 z z<|k' (k0' hr z z)
theorem eo'{g f e i j d c r}(hr:(Zbi g).Ret r):Ctr prog 31 #[.agg ((v42' g f e i j d c)).toArray] (fun G=>y31' G f e i j d c g) (fun G v=>v = .bool r):=by
 refine H' (args:=[_]) (N:=96) func31 z z z (fun R K aB ak=>?_)
 obtain⟨l,t,p⟩:=ak
 refine sr<|ai' 1 z z z fun A=>sg z z<|nr<|yy (bQ' z) z<|yy (o' 1 sc39 z z z) z<|yy (O' aI' l z) z<|sx0 z z<|aO' (fun (k:Mem)=>match k with|H=>[(1,pt0 A),(3,i' (g.vars.length:Int))]) (fun (k:Mem)=>match k with|H=>Mem.le K H/\(Zgm g).Ret r) (fun (k:Mem)=>match k with|H=>St R K H [(1,bk0 A (v42' g f e i j d c) 42)]) ?_ ?_
 .refine sr<|mv z z<|aE' hr z (aS' z z) z (fun ax hr=>?_) (fun ax hr=>?_)
  .refine mv z z<|sn3 z<|yy (w' z z) z<|mv z z<|sn3 z<|yy (w' z z) z<|mv z z<|sn7 z<|yy (w' z z) z<|mv z z<|sn7 z<|yy (w' z z) z<|nx<|aB' z<|sr<|sx0 z z<|k'<|f' (k0' hr z z)
  refine mv z z<|gy z z (bz' z) z<|gy z z (o' 1 sc3 z z z) z<|aE' hr (E' z z) (aa' z z) z (fun ap hr=>?_) (fun ap hr=>?_)
  .refine yy (t' z z) z<|mv z z<|sn3 z<|yy (w' z z) z<|mv z z<|sn7 z<|yy (w' z z) z<|mv z z<|sn7 z<|yy (w' z z) z<|nx<|aB' z<|sr<|sx0 z z<|k'<|f' (k0' hr z z)
  refine yy (t' z z) z<|mv z z<|gy z z (bz' z) z<|gy z z (o' 1 sc3 z z z) z<|aE' hr (E' z z) (aS' z z) z (fun au hr=>?_) (fun au hr=>?_)
  .refine yy (t' z z) z<|mv z z<|sn7 z<|yy (w' z z) z<|mv z z<|sn7 z<|yy (w' z z) z<|nx<|aB' z<|sr<|sx0 z z<|k'<|f' (k0' hr z z)
  refine yy (t' z z) z<|mv z z<|gy z z (bx' z) z<|gy z z (o' 1 bO' z z z) z<|gy z z (c' z) z<|gy z z (bz' z) z<|gy z z (o' 1 sc3 z z z) z ?_
  obtain⟨am,ai,hr⟩:=hr
  refine K' (E' z z) z (m' E72 z) (fj' ai) z (t) ?_
  cases am
  .refine gy z z (aA' z) z<|yy (t' z z) z<|mv z z<|sn7 z<|yy (w' z z) z<|nx<|aB' z<|sr<|sx0 z z<|k'<|f' (k0' hr z z)
  refine gy z z (aA' z) z<|yy (t' z z) z<|mv z z<|gy z z (bA' z) z<|gy z z (o' 1 bO' z z z) z<|gy z z (c' z) z<|gy z z (bz' z) z<|gy z z (o' 1 sc3 z z z) z ?_
  obtain⟨aC,aj,hr⟩:=hr
  refine K' (E' z z) z (m' E72 z) (fj' aj) z (p)<|gy z z (aA' z) z<|yy (t' z z) z<|nx<|aK' hr z (fun aq hr=>?_) (fun aq hr=>?_)
  .refine sr<|sx0 z z<|k'<|f' (k0' hr z z)
  refine n'<|ax' K ⟨mr,hr⟩ (f2 z z) (w1 z)
 rintro H ⟨m,hr⟩
 refine g'<|sr<|sx0 z z<|ab' (fun (k:Mem)=>match k with|F=>[(1,pt0 A)]) (fun (k:Mem)=>match k with|F=>Mem.le H F/\(Zbj g).Ret r) (fun (k:Mem)=>match k with|F=>St R K F [(1,bk0 A (v42' g f e i j d c) 42)]) ?_ ?_
 .refine y' ?_
  let Q:(Bool⊕Unit)->Prop:=fun U=>((fun V=>match V with | .inl rv3=>Cq.ret rv3 | .inr ()=>Zbj g:(Bool⊕Unit)->Cq Bool) U).wp (fun a=>a=r)
  replace hr:(Cq.loop _ _).wp Q:=hr
  refine ac' (Φ:=Q) (fun (⟨n,C⟩:Int×Mem)=>(n:Int)) (fun ⟨n,C⟩=>[(1,pt0 A),(3,i' (g.vars.length:Int)),(4,i' n)]) (fun ⟨n,C⟩=>Mem.le H C) (fun ⟨n,C⟩=>St R K C [(1,bk0 A (v42' g f e i j d c) 42)]) ⟨0,H⟩ hr (f3 z z z) mr (w1 z) ?_
  .intro ae k T hr
   obtain⟨n,C⟩:=k
   have q:=T
   refine g'<|sr<|mv z z<|mv z z<|yy (aa' z z) z<|nx<|P' hr z (fun an hr=>?_) (fun an hr=>?_)
   .refine n'<|b'<|g'<|y'<|g'<|sr<|sx0 z z<|ab' (fun (k:Mem)=>match k with|M=>[(1,pt0 A),(3,i' (g.vars.length:Int)),(4,i' n)]) (fun (k:Mem)=>match k with|M=>Mem.le C M/\(Zbk g n).wp (Out ae Q)) (fun (k:Mem)=>match k with|M=>St R K M [(1,bk0 A (v42' g f e i j d c) 42)]) ?_ ?_
    .refine y' ?_
     let W:(Bool⊕Unit)->Prop:=fun U=>((fun V=>match V with | .inl rv4=>Cq.ret (.inr (.inl rv4)) | .inr ()=>Zbk g n:(Bool⊕Unit)->Cq (Int⊕(Bool⊕Unit))) U).wp (Out ae Q)
     replace hr:(Cq.loop _ _).wp W:=hr
     refine ac' (Φ:=W) (fun (⟨E,I⟩:Int×Mem)=>(E:Int)) (fun ⟨E,I⟩=>[(1,pt0 A),(3,i' (g.vars.length:Int)),(4,i' n),(5,i' E)]) (fun ⟨E,I⟩=>Mem.le C I) (fun ⟨E,I⟩=>St R K I [(1,bk0 A (v42' g f e i j d c) 42)]) ⟨0,C⟩ hr (f4 z z z z) mr (w1 z) ?_
     .intro aE k T hr
      obtain⟨E,I⟩:=k
      have y:=T
      refine g'<|sr<|mv z z<|mv z z<|yy (aa' z z) z<|nx<|P' hr z (fun ar hr=>?_) (fun ar hr=>?_)
      .refine n'<|b'<|g'<|y'<|g'<|ak' [ff,ff,ff,ff,ff,ff,ff,ff,ff,ff] mix (by kernel_rfl) fun hb=>cn (fun _ h=>bQ' z)<|cn (fun _ h=>o' 1 sc39 z z z)<|cn (fun _ h=>c' z) ?_
       obtain⟨x4,aa,hr⟩:=hr
       refine cn (fun _ h=>V' aI' sz9 ((l.mono (mx (mx m q) y)).mono h) z z aa)<|cn (fun _ h=>aj' sc9 z (dJ' (J' (J' (Z' l aa) (mx (mx m q) y)) h)))<|cn (fun _ h=>bQ' z)<|cn (fun _ h=>o' 1 sc39 z z z)<|cn (fun _ h=>c' z) ?_
       obtain⟨x5,ab,hr⟩:=hr
       refine cn (fun _ h=>V' aI' sz9 ((l.mono (mx (mx m q) y)).mono h) z z ab)<|cn (fun _ h=>aj' sc9 z (dJ' (J' (J' (Z' l ab) (mx (mx m q) y)) h)))<|ah' hb<|yy (Y0.eqlS aR' z z) z<|q'<|am'<|b'<|P' hr z (fun al hr=>?_) (fun al hr=>?_)
       .refine sr<|sx0 z z<|k'<|A'<|f'<|f'<|A'<|an'<|f'<|A'<|f'<|f'<|A'<|an'<|f' (k0' hr z z)
       refine n'<|F'<|b'<|x'<|mv z z<|yy (W' z z) z<|sg z z<|q'<|T' ⟨i64.wrap (E+1),I⟩ hr y (f4 z z z z) (w1 z)
      refine ae'<|h'<|h'<|I'<|af' I ⟨y,hr⟩ (f3 z z z) (w1 z)
    rintro M ⟨O,hr⟩
    refine b'<|sr<|yy (bQ' z) z<|yy (o' 1 sc39 z z z) z<|mv z z ?_
    obtain⟨x3,ad,hr⟩:=hr
    refine yy (V' aI' sz9 (l.mono (mx (mx m q) O)) z z ad) z<|yy (aj' sc9 z (dJ' (J' (Z' l ad) (mx (mx m q) O)))) z ?_
    obtain⟨aD,ah,hr⟩:=hr
    refine K' z z (m' E29 z) (ed' ah) z (trivial)<|yy (aA' z) z<|nx<|aK' hr z (fun aw hr=>?_) (fun aw hr=>?_)
    .refine sr<|sx0 z z<|k'<|A'<|f'<|f'<|A'<|an'<|f' (k0' hr z z)
    refine n'<|F'<|b'<|x'<|mv z z<|yy (W' z z) z<|sg z z<|q'<|T' ⟨i64.wrap (n+1),M⟩ hr (mx q O) (f3 z z z) (w1 z)
   refine ae'<|h'<|h'<|I'<|af' C ⟨q,hr⟩ (f1 z) (w1 z)
 rintro F ⟨x,hr⟩
 refine b'<|g'<|sr<|sx0 z z<|ab' (fun (k:Mem)=>match k with|S=>[]) (fun (k:Mem)=>match k with|S=>Mem.le F S/\(Zd7).Ret r) (fun (k:Mem)=>match k with|S=>St R K S []) ?_ ?_
 .refine y' ?_
  let P:(Bool⊕Unit)->Prop:=fun U=>((fun V=>match V with | .inl rv1=>Cq.ret rv1 | .inr ()=>Zd7:(Bool⊕Unit)->Cq Bool) U).wp (fun a=>a=r)
  replace hr:(Cq.loop _ _).wp P:=hr
  refine ac' (Φ:=P) (fun (⟨o,B⟩:Int×Mem)=>(o:Int)) (fun ⟨o,B⟩=>[(1,pt0 A),(6,i' o)]) (fun ⟨o,B⟩=>Mem.le F B) (fun ⟨o,B⟩=>St R K B [(1,bk0 A (v42' g f e i j d c) 42)]) ⟨0,F⟩ hr (f2 z z) mr (w1 z) ?_
  .intro ac k T hr
   obtain⟨o,B⟩:=k
   have s:=T
   refine g'<|sr<|mv z z<|yy (bx' z) z<|yy (o' 1 bO' z z z) z<|yy (O' Y' (t.mono (mx (mx m x) s)) z) z<|yy (aa' z z) z<|nx<|P' hr z (fun ay hr=>?_) (fun ay hr=>?_)
   .refine n'<|b'<|g'<|y'<|sr<|sx0 z z<|ab' (fun (k:Mem)=>match k with|L=>[(1,pt0 A),(6,i' o)]) (fun (k:Mem)=>match k with|L=>Mem.le B L/\(Zd8 o).wp (Out ac P)) (fun (k:Mem)=>match k with|L=>St R K L [(1,bk0 A (v42' g f e i j d c) 42)]) ?_ ?_
    .refine y' ?_
     let X:(Bool⊕Unit)->Prop:=fun U=>((fun V=>match V with | .inl rv2=>Cq.ret (.inr (.inl rv2)) | .inr ()=>Zd8 o:(Bool⊕Unit)->Cq (Int⊕(Bool⊕Unit))) U).wp (Out ac P)
     replace hr:(Cq.loop _ _).wp X:=hr
     refine ac' (Φ:=X) (fun (⟨D,J⟩:Int×Mem)=>(D:Int)) (fun ⟨D,J⟩=>[(1,pt0 A),(6,i' o),(7,i' D)]) (fun ⟨D,J⟩=>Mem.le B J) (fun ⟨D,J⟩=>St R K J [(1,bk0 A (v42' g f e i j d c) 42)]) ⟨0,B⟩ hr (f3 z z z) mr (w1 z) ?_
     .intro aA k T hr
      obtain⟨D,J⟩:=k
      have u:=T
      refine g'<|sr<|mv z z<|yy (bA' z) z<|yy (o' 1 bO' z z z) z<|yy (O' Y' (p.mono (mx (mx (mx m x) s) u)) z) z<|yy (aa' z z) z<|nx<|P' hr z (fun ao hr=>?_) (fun ao hr=>?_)
      .refine n'<|b'<|g'<|y'<|g'<|ak' [ff,ff,ff,ff,ff,ff,ff,ff,ff,ff,ff,ff] mix (by kernel_rfl) fun hb=>cn (fun _ h=>bx' z)<|cn (fun _ h=>o' 1 bO' z z z)<|cn (fun _ h=>c' z) ?_
       obtain⟨x1,af,hr⟩:=hr
       refine cn (fun _ h=>V' Y' bR' ((t.mono (mx (mx (mx m x) s) u)).mono h) z z af)<|cn (fun _ h=>bt' z)<|cn (fun _ h=>aj' sc3 z (aJ' (J' (J' (br' (aG' (Z' t af))) (mx (mx (mx m x) s) u)) h)))<|cn (fun _ h=>bA' z)<|cn (fun _ h=>o' 1 bO' z z z)<|cn (fun _ h=>c' z) ?_
       obtain⟨x2,Z,hr⟩:=hr
       refine cn (fun _ h=>V' Y' bR' ((p.mono (mx (mx (mx m x) s) u)).mono h) z z Z)<|cn (fun _ h=>bt' z)<|cn (fun _ h=>aj' sc3 z (aJ' (J' (J' (br' (aG' (Z' p Z))) (mx (mx (mx m x) s) u)) h)))<|ah' hb<|yy (aH' z z) z<|q'<|am'<|b'<|P' hr z (fun av hr=>?_) (fun av hr=>?_)
       .refine sr<|sx0 z z<|k'<|A'<|f'<|f'<|A'<|an'<|A'<|f'<|f'<|A'<|an'<|f' (k0' hr z z)
       refine n'<|F'<|b'<|x'<|mv z z<|yy (W' z z) z<|sg z z<|q'<|T' ⟨i64.wrap (D+1),J⟩ hr u (f3 z z z) (w1 z)
      refine ae'<|h'<|h'<|I'<|af' J ⟨u,hr⟩ (f2 z z) (w1 z)
    rintro L ⟨Y,hr⟩
    refine F'<|b'<|x'<|mv z z<|yy (W' z z) z<|sg z z<|q'<|T' ⟨i64.wrap (o+1),L⟩ hr (mx s Y) (f2 z z) (w1 z)
   refine ae'<|h'<|h'<|I'<|af' B ⟨s,hr⟩ fn (wk ln)
 rintro S ⟨az,hr⟩
 refine b'<|sr<|sx0 z z<|k' (k0' hr z z)
theorem dM'{F D B r}(hr:(Zes F).Ret r):Ctr prog 38 #[.slice D F.length B] (fun G=>sl U' G D B F) (wl' (Rp.sl a') r):=by
 refine H' (args:=[_]) (N:=21) func38 z z z (fun R Q y L=>?_)
 have u:=L
 refine sr<|sg z z<|nr<|aF' (e:=65) (r:=(Rp.sl a')) (vs:=#[]) (cs:=[]) ([]:List (List Za)) z z z z z (by decide) (fun _=>by kernel_rfl) (z) (key:=999) z (by rw[y]; rfl) fun p1 v o T=>sx0 z z<|g'<|sr<|sx0 z z<|ab' (fun (⟨h,k,j,i,n⟩:(List (List Za))×Option Addr×Nat×Option Ow×Mem)=>[(3,.slice k h.length j)]) (fun ⟨h,k,j,i,n⟩=>Mem.le v n/\sl (Rp.sl a') n k j h/\Tok 1 65 (.slice k h.length j) h.length i/\(Zd6 h).Ret r) (fun ⟨h,k,j,i,n⟩=>St R Q n [(1003,i)]) ?_ ?_
 .refine y' ?_
  let A:(((List (List Za))))->Prop:=fun oo=>((fun ov=>match ov with|h=>Zd6 h:(((List (List Za))))->Cq ((List (List Za)))) oo).wp (fun a=>a=r)
  replace hr:(Cq.loop _ _).wp A:=hr
  refine ac' (Φ:=A) (fun (⟨c,g,f,d,q,m⟩:(List (List Za))×Option Addr×Nat×Option Ow×Int×Mem)=>((c,q):(List (List Za))×Int)) (fun ⟨c,g,f,d,q,m⟩=>[(0,.slice D F.length B),(3,.slice g c.length f),(4,i' q)]) (fun ⟨c,g,f,d,q,m⟩=>Mem.le v m/\sl (Rp.sl a') m g f c/\Tok 1 65 (.slice g c.length f) c.length d) (fun ⟨c,g,f,d,q,m⟩=>St R Q m [(1003,d)]) ⟨[],p1,0,none,0,v⟩ hr (f3 z z z) ⟨mr,T,cb'⟩ (wk (lw ln)) ?_
  .intro ah gx hx hr
   obtain⟨c,g,f,d,q,m⟩:=gx
   obtain⟨l,t,p⟩:=hx
   refine g'<|sr<|mv z z<|mv z z<|yy (O' Y' (u.mono (mx o l)) z) z<|yy (aa' z z) z<|nx<|P' hr z (fun Y hr=>?_) (fun Y hr=>?_)
   .refine n'<|b'<|g'<|y'<|x'<|mv z z<|mv z z<|mv z z ?_
    obtain⟨C,I,hr⟩:=hr
    refine yy (V' Y' bR' (u.mono (mx o l)) z z I) z<|yy (cl' z) z ?_
    obtain⟨J,x,S,X⟩:=bl' (J' (bq' (aG' (Z' u I))) (mx o l))
    refine yy (aj' bU' z (S)) z<|aF' (e:=65) (r:=(Rp.sl a')) (vs:=#[(0,.slice J C.p.length x)]) (cs:=[.slice J C.p.length x]++([])) ([C.p]:List (List Za)) z z z z z (by decide) (fun _=>by kernel_rfl) ⟨[.slice J C.p.length x],[],z,⟨_,z,X⟩,z⟩ (key:=999) z (by rw[y]; rfl) (fun p3 ai s W=>?_)
    obtain⟨M,hr⟩:=hr
    refine bb' (r:=(Rp.sl a')) 1003 z z M' el65 z (by decide) z z (t.mono s) z (by rw[y]; rfl) p W M fun p4 P O U E Z K=>sg z z<|q'<|F'<|b'<|x'<|mv z z<|yy (W' z z) z<|sg z z<|q'<|T' ⟨(c++[C.p]),p4,P,O,i64.wrap (q+1),U⟩ hr ⟨(mx (mx l s) E),Z,K⟩ (f3 z z z) (w1 z)
   refine ae'<|h'<|h'<|I'<|af' ⟨c,g,f,d,m⟩ ⟨l,t,p,hr⟩ (f1 z) (w1 z)
 rintro⟨h,k,j,i,n⟩ ⟨aa,H,V,hr⟩
 refine b'<|sr<|mv z z<|sx0 z z<|k' ?_
 obtain rfl:_=r:=hr
 exact j' z z ⟨_,_,z,H⟩
theorem fk'{Q m o C B p s r}(hr:(ZhC Q).Ret r):Ctr prog 16 #[.agg ((v42' Q m o C B p s)).toArray] (fun G=>y31' G m o C B p s Q) (w28t' r):=by
 refine H' (args:=[_]) (N:=21) func16 z z z (fun w0 G0 aq ab=>?_)
 obtain⟨q,y,n⟩:=ab
 refine sr<|ai' 1 z z z fun b1=>X' 2 z z28 z fun b2=>sx0 z z<|g'<|sr<|yy (D' 1 ag42 z z z) z ?_
 obtain⟨ao,ad,hr⟩:=hr
 refine K' z z (m' E31 z) (eo' ad) z (⟨q,y,n⟩)<|yy (aA' z) z<|nx<|aK' hr z (fun ag hr=>?_) (fun ag hr=>?_)
 .refine sr<|yy (au' (vs:=#[]) (v:=.agg ([i' 0,.slice none 0 0,.slice none 0 0]).toArray) z z (fun _=>by kernel_rfl)) z<|B' 2 z bB' z z z z z (List.all_eq_true.1 z)<|sx0 z z<|k'<|f' ?_
  obtain rfl:_=r:=hr
  exact bd' z (aw' (i:=2) bj' z z z) z ⟨_,_,_,_,z,(ay' (Rp.sl a') _),(ay' (Rp.sl a') _)⟩
 refine n'<|b'<|g'<|ak' [ff,ff,ff,ff,ff,ff,ff,ff,ff,ff,ff,tt] mix (by kernel_rfl) fun hb=>cn (fun _ c=>bQ' z)<|cn (fun _ c=>o' 1 sc39 z z z)<|cn (fun _ c=>O' aI' (q.mono c) z)<|cn (fun _ c=>Y0.max2 z z)<|cn (fun _ c=>bx' z)<|cn (fun _ c=>o' 1 bO' z z z) ?_
 obtain⟨K,W,hr⟩:=hr
 refine az' (post:=wl' (Rp.sl a') K) (fun _=>z) (fun _ _=>m' E38 z) (dM' W) z (fun E c=>(y.mono c)) (fun v G1 Z c h=>?_) ?_
 .obtain⟨L,M,rfl,x⟩:=h
  exact⟨_,_,z,x.mono c⟩
 refine cu (fun _ _ c=>bA' z)<|cu (fun _ _ c=>o' 1 bO' z z z) ?_
 obtain⟨R,Y,hr⟩:=hr
 refine az' (post:=wl' (Rp.sl a') R) (fun _=>z) (fun _ _=>m' E38 z) (dM' Y) z (fun E c=>(n.mono c)) (fun v G1 Z c h=>?_) ?_
 .obtain⟨O,P,rfl,t⟩:=h
  exact⟨_,_,z,t.mono c⟩
 obtain⟨A,X,hr⟩:=hr
 refine bJ' (f:=13) (φ:=w28t' A) (fun _=>z) (fun v G1 Z c h=>?_) (fun u E c hu=>?_) ?_
 .obtain⟨l,k,j,g,rfl,e,d⟩:=h
  exact⟨_,_,_,_,z,e.mono c,d.mono c⟩
 .obtain⟨⟨O,P,V,t⟩,⟨L,M,U,x⟩,_⟩:=(show (wl' (Rp.sl a') R) E.m (u 17)/\(wl' (Rp.sl a') K) E.m (u 14)/\True from hu)
  exact⟨_,_,_,fun _=>m' E13 z,ei' X,(by simp only[V,U] <;> rfl),⟨x,t⟩⟩
 refine dW' (kk:=18) (φ:=w28' A.1) (by kernel_rfl) (fun _=>z) (fun v G1 Z c h=>?_) (fun u E c hu=>?_) ?_
 .obtain⟨p1,af,p2,ae,rfl,S,T⟩:=h
  exact⟨_,_,_,_,z,S.mono c,T.mono c⟩
 .obtain⟨⟨l,k,j,g,D,e,d⟩,_,_,_⟩:=(show (w28t' A) E.m (u 18)/\True/\True/\True from hu)
  exact⟨_,_,D,(by simp only[undFr,D] <;> rfl),z,l,k,j,g,z,e,d⟩
 refine Chain.tailU4 (d0:=19) (post0:=w28' A.1) (d1:=18) (post1:=w28t' A) (d2:=17) (post2:=wl' (Rp.sl a') R) (d3:=14) (post3:=wl' (Rp.sl a') K) (fun al aj am an ap ah F I H J=>?_)
 obtain⟨p1,af,p2,ae,rfl,S,T⟩:=F
 obtain⟨l,k,j,g,rfl,e,d⟩:=I
 obtain⟨O,P,rfl,t⟩:=H
 obtain⟨L,M,rfl,x⟩:=J
 refine yy (R' z z) z<|B' 2 z bB' z z z z z (List.all_eq_true.1 z)<|sg z z<|q'<|am'<|b'<|k' ?_
 obtain rfl:_=r:=hr
 exact bd' z (aw' (i:=2) bj' z z z) z ⟨_,_,_,_,z,S,T⟩
theorem gd'{m r}(hr:(ZgS m).Ret r):Ctr prog 70 #[i' m] (fun G=>True) (wlt' a' r):=by
 refine H' (args:=[_]) (N:=18) func70 z z z fun Q F A H=>sr<|sg z z<|sx0 z z<|g'<|sr<|mv z z<|aE' hr z (aa' z z) z (fun y hr=>?_) (fun y hr=>?_)
 .refine mv z z<|sn2 z<|yy (w' z z) z<|nx<|aB' z<|sr<|sg z z<|sx0 z z<|k'<|f' ?_
  obtain rfl:_=r:=hr
  exact bd' z z z ⟨_,_,z,(ay' a' _)⟩
 refine mv z z<|gy z z (c' z) z<|gy z z (bH' z z) z<|yy (t' z z) z<|nx<|P' hr z (fun B hr=>?_) (fun B hr=>?_)
 .exact (show False from hr).elim
 refine n'<|b'<|sr<|yy (au' (vs:=#[]) (v:=.agg (vecG (Value.int .i64) 8 (fun _=>0)).toArray) z z (fun _=>by kernel_rfl)) z<|X' 4 z z68 z fun K=>B' 4 z sz68 z z z (Q' _ _ _) (Q' _ _ _) (fun u s=>Rp.one (bD' .i64 8) (G:=F) (x:=(fun _=>0)) (cs:=vecG (Value.int .i64) 8 (fun _=>0)) z u (by first|simpa using s|simpa [Value.cells] using s))<|nr<|mv z z ?_
 obtain⟨q,hr⟩:=hr
 refine yy (aT' ar' sz3 z z q) z<|by' 4 (vecG (Value.int .i64) 8 (setF (fun _=>0) m.toNat 1)).toArray z sz3 z z z (by first|(rw[Q']; omega)|(show _<(vecG _ _ _).toArray.size; rw[Q']; omega)) z (cL' _ _ _ _ _)<|nx<|g'<|ak' [ff,ff] mix (by kernel_rfl) (fun M=>?_)
 obtain⟨j,p,hr⟩:=hr
 refine az' (post:=w59' j) (fun _=>z) (fun _ _=>m' E26 z) (cc' p) z (fun L n=>trivial) (fun v R P n h=>?_) ?_
 .obtain⟨f,i,c,g,rfl,k,l⟩:=h
  exact⟨_,_,_,_,z,k.mono n,l.mono n⟩
 refine cu (fun _ _ n=>D' 4 bo' z z (Q' _ _ _))<|bi' (d:=14) (post:=w59' j) (fun E I D o=>?_)
 obtain⟨f,i,c,g,rfl,k,l⟩:=o
 refine yy (au' (vs:=#[(0,.agg ((v59' j f i c g)).toArray),(1,.agg (vecG (Value.int .i64) 8 (setF (fun _=>0) m.toNat 1)).toArray)]) (v:=.agg (((v59' j f i c g):List Value)++(vecG (Value.int .i64) 8 (setF (fun _=>0) m.toNat 1))).toArray) z z (fun _=>by kernel_rfl)) z<|aF' (e:=119) (r:=a') (vs:=#[(0,.agg (((v59' j f i c g):List Value)++(vecG (Value.int .i64) 8 (setF (fun _=>0) m.toNat 1))).toArray)]) (cs:=(((v59' j f i c g):List Value)++(vecG (Value.int .i64) 8 (setF (fun _=>0) m.toNat 1)))++([])) ([(Za.mk j (setF (fun _=>0) m.toNat 1))]:List Za) z z z z z (by decide) (fun _=>by kernel_rfl) ⟨((v59' j f i c g):List Value)++(vecG (Value.int .i64) 8 (setF (fun _=>0) m.toNat 1)),[],z,⟨(v59' j f i c g),vecG (Value.int .i64) 8 (setF (fun _=>0) m.toNat 1),z,⟨(v57' j.num f i),(v57' j.den c g),z,⟨[.bool j.num.neg],[.slice f j.num.mag.length i],z,z,⟨_,z,k⟩⟩,⟨[.bool j.den.neg],[.slice c j.den.mag.length g],z,z,⟨_,z,l⟩⟩⟩,z⟩,z⟩ (key:=999) z (by rw[A]; rfl) fun O J C t=>sg z z<|sg z z<|q'<|am'<|b'<|k' ?_
 obtain rfl:_=r:=hr
 exact bd' z z z ⟨_,_,z,t⟩
theorem ge'{n r}(hr:(Zle n).Ret r):Ctr prog 126 #[i' n] (fun G=>True) (wl' a' r):=by
 refine H' (args:=[_]) (N:=6) func126 z z z fun E D C u=>sr<|sg z z<|nr<|mv z z ?_
 obtain⟨A,m,hr⟩:=hr
 refine N' z z (m' E26 z) (cc' m) z (trivial) (fun q x p e=>?_)
 obtain⟨h,j,g,i,rfl,c,d⟩:=e
 obtain⟨y,k,hr⟩:=hr
 refine N' z z (m' E51 z) (dn' k) z (⟨c,d⟩) (fun v B o f=>?_)
 obtain⟨s,t,rfl,l⟩:=f
 refine sx0 z z<|k' ?_
 obtain rfl:_=r:=hr
 exact j' z z ⟨_,_,z,l⟩
theorem gf'{p1 q1 S Y U W r}(hr:(Zlf p1 q1).Ret r):Ctr prog 127 #[.slice S p1.length Y,.slice U q1.length W] (fun G=>sl a' G S Y p1/\sl a' G U W q1) (wlt' a' r):=by
 refine H' (args:=[_,_]) (N:=39) func127 z z z (fun w0 G0 aw aq=>?_)
 obtain⟨D,aC⟩:=aq
 refine sr<|sg z z<|sg z z<|nr<|aF' (e:=119) (r:=a') (vs:=#[]) (cs:=[]) ([]:List Za) z z z z z (by decide) (fun _=>by kernel_rfl) (z) (key:=999) z (by rw[aw]; rfl) fun p2 V n aA=>sx0 z z<|g'<|sr<|sx0 z z<|ab' (fun (⟨m,q,p,A⟩:(List Za)×Option Addr×Nat×Mem)=>[(6,.slice q m.length p)]) (fun ⟨m,q,p,A⟩=>Mem.le V A/\sl a' A q p m/\(Zfx m).Ret r) (fun ⟨m,q,p,A⟩=>St w0 G0 A []) ?_ ?_
 .refine y' ?_
  let T:(((List Za)×Int)⊕(List Za))->Prop:=fun oo=>((fun ov=>match ov with | .inl rv1=>Cq.ret rv1 | .inr m=>Zfx m:(((List Za)×Int)⊕(List Za))->Cq ((List Za)×Int)) oo).wp (fun a=>a=r)
  replace hr:(Cq.loop _ _).wp T:=hr
  refine ac' (Φ:=T) (fun (⟨l,k,i,H,t⟩:(List Za)×Option Addr×Nat×Int×Mem)=>((l,H):(List Za)×Int)) (fun ⟨l,k,i,H,t⟩=>[(0,.slice S p1.length Y),(1,.slice U q1.length W),(6,.slice k l.length i),(7,i' H)]) (fun ⟨l,k,i,H,t⟩=>Mem.le V t/\sl a' t k i l) (fun ⟨l,k,i,H,t⟩=>St w0 G0 t []) ⟨[],p2,0,0,V⟩ hr (f4 z z z z) ⟨mr,aA⟩ (wk ln) ?_
  .intro aS gx hx hr
   obtain⟨l,k,i,H,t⟩:=gx
   obtain⟨g,K⟩:=hx
   refine g'<|sr<|mv z z<|mv z z<|yy (O' C' (D.mono (mx n g)) z) z<|yy (aa' z z) z<|nx<|P' hr z (fun aF hr=>?_) (fun aF hr=>?_)
   .refine n'<|b'<|g'<|y'<|g'<|ak' [ff,ff,ff,ff,ff,ff,ff,ff,ff,ff,ff,ff,ff,ff,tt] mix (by kernel_rfl) fun hb=>cn (fun _ f=>c' z)<|cn (fun _ f=>c' z) ?_
    obtain⟨x1,ak,hr⟩:=hr
    refine cn (fun _ f=>V' C' aW' ((D.mono (mx n g)).mono f) z z ak)<|cn (fun _ f=>aV' z) ?_
    obtain⟨ag,ah,ai,aj,ar,C,F⟩:=ce' (J' (br' (aG' (Z' D ak))) (mx n g))
    refine cn (fun _ f=>ao' _ bc' z z (fun j v hv=>f _ _ _ (ar j v hv)))<|cn (fun _ f=>c' z)<|cn (fun _ f=>c' z) ?_
    obtain⟨x2,af,hr⟩:=hr
    refine cn (fun _ f=>V' C' aW' ((D.mono (mx n g)).mono f) z z af)<|cn (fun _ f=>aM' z)<|cn (fun _ f=>ao' _ bo' z (Q' _ _ _) (bK' (J' (J' (bq' (aG' (Z' D af))) (mx n g)) f)))<|cn (fun _ f=>c' z) ?_
    obtain⟨o,am,hr⟩:=hr
    refine az' (post:=wlt' a' o) (fun _=>z) (fun _ _=>m' E27 z) (da' am) z (fun L f=>⟨(C.mono f),(F.mono f),((aC.mono (mx n g)).mono f)⟩) (fun v G1 G2 f h=>?_) ?_
    .obtain⟨y,x,rfl,s⟩:=h
     exact⟨_,_,z,s.mono f⟩
    refine bF' (φ:=wlt' a' o) (fun _=>z) (fun v G1 G2 f h=>?_) (fun u L f X=>?_) ?_
    .obtain⟨Z,I,rfl,E⟩:=h
     exact⟨_,_,z,E.mono f⟩
    .obtain⟨⟨y,x,aa,s⟩,_⟩:=(show (wlt' a' o) L.m (u 29)/\True from X)
     simp only[undFr,aa]
     exact⟨_,c' z,y,x,z,s⟩
    refine bF' (φ:=wl' a' o.1) (fun _=>z) (fun v G1 G2 f h=>?_) (fun u L f X=>?_) ?_
    .obtain⟨p4,ax,rfl,R⟩:=h
     exact⟨_,_,z,R.mono f⟩
    .obtain⟨⟨Z,I,B,E⟩,_,_⟩:=(show (wlt' a' o) L.m (u 17)/\True/\True from X)
     simp only[undFr,B]
     exact⟨_,R' z z,Z,I,z,E⟩
    refine cI' (c:=i' o.2) (fun _=>z) (fun u L f X=>?_) ?_
    .obtain⟨_,⟨Z,I,B,E⟩,_,_⟩:=(show True/\(wlt' a' o) L.m (u 17)/\True/\True from X)
     simp only[undFr,B]
     exact R' z z
    refine cx' (d:=30) (post:=wl' a' o.1) (d':=17) (post':=wlt' a' o) (d'':=29) (post'':=wlt' a' o) (fun aI aO aP aT J P Q M=>?_)
    obtain⟨p4,ax,rfl,R⟩:=P
    obtain⟨Z,I,rfl,E⟩:=Q
    obtain⟨y,x,rfl,s⟩:=M
    refine sg z z<|sg z z<|q'<|am'<|b'<|g'<|sr<|mv z z<|yy (bp' z z) z<|nx<|P' hr z (fun ay hr=>?_) (fun ay hr=>?_)
    .exact (show False from hr).elim
    refine n'<|b'<|x'<|mv z z<|mv z z ?_
    obtain⟨au,al,hr⟩:=hr
    refine N' z z (m' E41 z) (dz' al) z (⟨(K.mono J),R⟩) (fun aM az ac O=>?_)
    obtain⟨ap,ao,rfl,an⟩:=O
    refine sg z z<|q'<|F'<|b'<|x'<|mv z z<|yy (W' z z) z<|sg z z<|q'<|T' ⟨au,ap,ao,i64.wrap (H+1),az⟩ hr ⟨(mx (mx g J) ac),an⟩ (f4 z z z z) (wk ln)
   refine ae'<|h'<|h'<|I'<|af' ⟨l,k,i,t⟩ ⟨g,K,hr⟩ (f1 z) (wk ln)
 rintro⟨m,q,p,A⟩ ⟨aG,ae,hr⟩
 refine b'<|sr<|mv z z<|sg z z<|sx0 z z<|k' ?_
 obtain rfl:_=r:=hr
 exact bd' z z z ⟨_,_,z,ae⟩
theorem gg'{t D p o r}(hr:(ZiU t D).Ret r):Ctr prog 71 #[.slice p t.length o,i' D] (fun G=>sl a' G p o t) (wlt' a' r):=by
 refine H' (args:=[_,_]) (N:=33) func71 z z z (fun O A ag P=>?_)
 have V:=P
 refine sr<|sg z z<|sx0 z z<|aO' (fun (n:Mem)=>match n with|l=>[(0,.slice p t.length o),(1,i' D)]) (fun (n:Mem)=>match n with|l=>Mem.le A l/\(Zh7 t D).Ret r) (fun (n:Mem)=>match n with|l=>St O A l []) ?_ ?_
 .refine sr<|mv z z<|aE' hr z (aa' z z) z (fun W hr=>?_) (fun W hr=>?_)
  .refine mv z z<|sn2 z<|yy (w' z z) z<|nx<|aB' z<|sr<|sg z z<|sx0 z z<|k'<|f' ?_
   obtain rfl:_=r:=hr
   exact bd' z z z ⟨_,_,z,(ay' a' _)⟩
  refine mv z z<|gy z z (c' z) z<|gy z z (aS' z z) z<|yy (t' z z) z<|nx<|P' hr z (fun X hr=>?_) (fun X hr=>?_)
  .exact (show False from hr).elim
  refine n'<|ax' A ⟨mr,hr⟩ (f2 z z) (wk ln)
 rintro l ⟨E,hr⟩
 refine sr ?_
 obtain⟨S,Q,hr⟩:=hr
 refine N' z z (m' E126 z) (ge' Q) z (trivial) (fun aa v I s=>?_)
 obtain⟨M,L,rfl,K⟩:=s
 refine sx0 z z<|g'<|sr<|sx0 z z<|ab' (fun (⟨f,h,g,j⟩:(List Za)×Option Addr×Nat×Mem)=>[(6,.slice h f.length g)]) (fun ⟨f,h,g,j⟩=>Mem.le v j/\sl a' j h g f/\(Zfy f).Ret r) (fun ⟨f,h,g,j⟩=>St O A j []) ?_ ?_
 .refine y' ?_
  let C:(((List Za)×Int)⊕(List Za))->Prop:=fun oo=>((fun ov=>match ov with | .inl rv1=>Cq.ret rv1 | .inr f=>Zfy f:(((List Za)×Int)⊕(List Za))->Cq ((List Za)×Int)) oo).wp (fun a=>a=r)
  replace hr:(Cq.loop _ _).wp C:=hr
  refine ac' (Φ:=C) (fun (⟨e,d,c,m,i⟩:(List Za)×Option Addr×Nat×Int×Mem)=>((e,m):(List Za)×Int)) (fun ⟨e,d,c,m,i⟩=>[(0,.slice p t.length o),(1,i' D),(6,.slice d e.length c),(7,i' m)]) (fun ⟨e,d,c,m,i⟩=>Mem.le v i/\sl a' i d c e) (fun ⟨e,d,c,m,i⟩=>St O A i []) ⟨S,M,L,0,v⟩ hr (f4 z z z z) ⟨mr,K⟩ (wk ln) ?_
  .intro af n hx hr
   obtain⟨e,d,c,m,i⟩:=n
   obtain⟨k,q⟩:=hx
   refine g'<|sr<|mv z z<|mv z z<|yy (aa' z z) z<|nx<|P' hr z (fun Y hr=>?_) (fun Y hr=>?_)
   .refine n'<|b'<|g'<|y'<|sr<|mv z z<|mv z z ?_
    obtain⟨R,J,hr⟩:=hr
    refine N' z z (m' E127 z) (gf' J) z (⟨q,(V.mono (mx (mx E I) k))⟩) (fun ae U F u=>?_)
    obtain⟨y,x,rfl,B⟩:=u
    refine mv z z<|yy (R' z z) z<|yy (R' z z) z<|sg z z<|sx0 z z<|g'<|sr<|mv z z<|yy (bp' z z) z<|nx<|P' hr z (fun T hr=>?_) (fun T hr=>?_)
    .exact (show False from hr).elim
    refine n'<|b'<|x'<|mv z z<|sg z z<|q'<|F'<|b'<|x'<|mv z z<|yy (W' z z) z<|sg z z<|q'<|T' ⟨R.1,y,x,i64.wrap (m+1),U⟩ hr ⟨(mx k F),B⟩ (f4 z z z z) (wk ln)
   refine ae'<|h'<|h'<|I'<|af' ⟨e,d,c,i⟩ ⟨k,q,hr⟩ (f1 z) (wk ln)
 rintro⟨f,h,g,j⟩ ⟨Z,H,hr⟩
 refine b'<|sr<|mv z z<|sg z z<|sx0 z z<|k' ?_
 obtain rfl:_=r:=hr
 exact bd' z z z ⟨_,_,z,H⟩
set_option maxHeartbeats 2000000 in
theorem fl'{c l q p s t o n r}(hr:(ZbW c l).Ret r):Ctr prog 30 #[.agg ((v42' c q p s t o n)).toArray,.agg ((v76' l)).toArray] (fun G=>y31' G q p s t o n c) (w42' r):=by
 refine H' (args:=[_,_]) (N:=142) func30 z z z (fun w0 G0 Y cC=>?_)
 obtain⟨D,E,C⟩:=cC
 refine sr<|ai' 2 z z z fun b1=>ai' 3 z z z fun b2=>X' 4 z z42 z fun b3=>nx<|g'<|ak' [ff,ff,ff,ff,ff,ff,ff] mix (by kernel_rfl) fun hb=>Chain.litOwn (r:=U') (e:=70) ([]:List Zb) (fun _=>z) z (by decide) (fun u G' m hu=>?_) ?_
 .exact⟨#[],[],z,z,fun _=>by kernel_rfl,z⟩
 refine cu (fun _ _ m=>bx' z)<|cu (fun _ _ m=>o' 2 bO' z z z) ?_
 obtain⟨b5,hr⟩:=hr
 refine Chain.appendOwn (r:=U') (e:=70) (kk:=12) (xs:=([]:List Zb)) c.eqs (fun _=>z) z (by kernel_rfl) (by kernel_rfl) Y' el70 z (by decide) b5 (fun u G' m hu=>?_) ?_
 .obtain⟨bJ,_⟩:=(show (RowX U' 70 12 ([]:List Zb)) (u 12) G'/\True from hu)
  exact⟨u 12,.slice s c.eqs.length t,bJ,z,z,(E.mono m)⟩
 refine Chain.litOwn (r:=U') (e:=70) ([]:List Zb) (fun _=>z) z (by decide) (fun u G' m hu=>?_) ?_
 .exact⟨#[],[],z,z,fun _=>by kernel_rfl,z⟩
 refine cu (fun _ _ m=>bA' z)<|cu (fun _ _ m=>o' 2 bO' z z z)<|Chain.tailX3 fun dy dO dR X1 B bt a0 cG=>WL.adoptR bt (fun dw d3 dp bX ca co=>?_)
 subst bX
 replace a0:=RowX.drop a0 (by decide) co
 refine WL.adoptR a0 (fun aY aX dj b0 cE dN=>?_)
 subst b0
 refine ds' (show WL _ _ _ _ _ _ (St w0 G0 X1.m _) from ?_)
 obtain⟨cm,hr⟩:=hr
 refine dl' (r:=U') (e:=70) 16 z z Y' el70 z (by decide) z z ca z (C.mono B) cm fun p1 aV dz cY=>sg z z<|sg z z<|bV' (r:=U') (e:=70) 12 (RowR.nil (r:=U') (e:=70)) z (by rw[Y]; rfl) fun d7 ee x dZ dr=>bV' (r:=U') (e:=70) 15 (cE.mono x) z (by rw[Y]; rfl) fun c7 ec y ah bb=>bV' (r:=U') (e:=70) 16 (cY.mono (mx x y)) z (by rw[Y]; rfl) fun bT ed k ay bm=>q'<|am'<|b'<|sr<|yy (Y0.Zkk z) z<|yy (o' 3 sc5 z z z) z<|yy (av' aL' aD' z) z<|yy (bP' z z (by decide)) z ?_
 obtain⟨aa,bV,hr⟩:=hr
 refine N' z z (m' E70 z) (gd' bV) z (trivial) (fun dK a6 g bq=>?_)
 obtain⟨I,H,rfl,a3⟩:=bq
 refine mv z z<|yy (R' z z) z<|yy (R' z z) z<|sg z z<|sx0 z z<|aO' (fun (⟨aB,ax,aw,aL,aF,aG,al,R,Q,aq,ak,U,T,aJ⟩:(List Zb)×Option Addr×Nat×(List Zb)×Option Addr×Nat×Zg×Option Addr×Nat×Option Addr×Nat×Option Addr×Nat×Mem)=>[(2,pt0 b1),(4,pt0 b3),(5,.slice ax aB.length aw),(6,.slice aF aL.length aG)]) (fun ⟨aB,ax,aw,aL,aF,aG,al,R,Q,aq,ak,U,T,aJ⟩=>Mem.le a6 aJ/\sl U' aJ ax aw aB/\sl U' aJ aF aG aL/\sl Rp.str aJ R Q al.vars/\sl U' aJ aq ak al.eqs/\sl U' aJ U T al.neqs/\(ZH aB aL al).Ret r) (fun ⟨aB,ax,aw,aL,aF,aG,al,R,Q,aq,ak,U,T,aJ⟩=>St w0 G0 aJ [(2,bk0 b1 (v42' al R Q aq ak U T) 42),(4,bk0 b3 ([.slice none 0 0,.slice none 0 0,.slice none 0 0,i' 0]) 42)]) ?_ ?_
 .refine sr<|yy (Y0.ZoK z) z<|yy (o' 3 sc5 z z z) z<|yy (bP' z z (by decide)) z<|nx<|y'<|sr<|yy (aH' z z) z<|sx0 z z<|P' hr z (fun dc hr=>?_) (fun dc hr=>?_)
  .have N1:=mx (mx (mx (mx B x) y) k) g
   refine x'<|yy (Y0.Zio z) z<|yy (o' 3 sc3 z z z) z<|yy (bz' z) z<|by' 2 ([.slice q c.vars.length p,.slice s c.eqs.length t,.slice o c.neqs.length n,i' l.by']).toArray z sz3 z z z (show 3<4 by decide) z z<|q'<|F'<|ax' ⟨(([]:List Zb)++c.eqs),aY,aX,(([]:List Zb)++c.neqs),p1,aV,(Zg.mk c.vars c.eqs c.neqs l.by'),q,p,s,t,o,n,a6⟩ ⟨mr,(ah.mono (mx k g)),(ay.mono g),(D.mono N1),(E.mono N1),(C.mono N1),hr⟩ (f4 z z z z) (w2 z z)
  refine sr<|yy (aH' z z) z<|sx0 z z<|P' hr z (fun cW hr=>?_) (fun cW hr=>?_)
  .refine ak' [ff,ff,ff,ff,ff,ff,ff] mix (by kernel_rfl) fun hb=>Chain.litOwn (r:=Rp.str) (e:=9) ([]:List ByteArray) (fun _=>z) z (by decide) (fun u G' m hu=>?_) ?_
   .exact⟨#[],[],z,z,fun _=>by kernel_rfl,z⟩
   refine cu (fun _ _ m=>bQ' z)<|cu (fun _ _ m=>o' 2 sc39 z z z) ?_
   obtain⟨cf,hr⟩:=hr
   refine Chain.appendOwn (r:=Rp.str) (e:=9) (kk:=38) (xs:=([]:List ByteArray)) c.vars (fun _=>z) z (by kernel_rfl) (by kernel_rfl) aI' el9 z (by decide) cf (fun u G' m hu=>?_) ?_
   .obtain⟨bN,_⟩:=(show (RowX Rp.str 9 38 ([]:List ByteArray)) (u 38) G'/\True from hu)
    exact⟨u 38,.slice q c.vars.length p,bN,z,z,((D.mono (mx (mx (mx (mx B x) y) k) g)).mono m)⟩
   refine cu (fun _ _ m=>Y0.ZoL z)<|cu (fun _ _ m=>o' 3 sc9 z z z)<|cu' (r:=Rp.str) (e:=9) ([l.name]:List ByteArray) (fun _=>z) z (by decide) (fun u G' m hu=>?_) ?_
   .exact⟨#[(0,.string l.name)],[.string l.name]++([]),z,z,fun _=>by kernel_rfl,⟨[.string l.name],[],z,z,z⟩⟩
   refine Chain.tailX3 (fun dJ du dx X2 a4 bu bo cH=>?_)
   obtain⟨p2,eg,rfl,c1⟩:=bu
   refine WL.adoptR bo (fun dY dA dk cb cB dE=>?_)
   subst cb
   refine ds' (show WL _ _ _ _ _ _ (St w0 G0 X2.m _) from ?_)
   obtain⟨cz,hr⟩:=hr
   have N2:=mx (mx (mx (mx (mx B x) y) k) g) a4
   refine dl' (r:=Rp.str) (e:=9) 41 z z aI' el9 z (by decide) z z cB z c1 cz fun p3 bS dv c0=>yy (bQ' z) z<|bV' (r:=Rp.str) (e:=9) 41 c0 z (by rw[Y]; rfl) fun eb ei aP cc dm=>by' 2 ([.slice p3 ((([]:List ByteArray)++c.vars)++[l.name]).length bS,.slice s c.eqs.length t,.slice o c.neqs.length n,i' c.next]).toArray z sz39 z z z (show 0<4 by decide) z z<|bV' (r:=Rp.str) (e:=9) 38 (RowR.nil (r:=Rp.str) (e:=9)) z (by rw[Y]; rfl) fun d8 c9 aE d5 ds=>q'<|am'<|F'<|ax' ⟨(([]:List Zb)++c.eqs),aY,aX,(([]:List Zb)++c.neqs),p1,aV,(Zg.mk ((([]:List ByteArray)++c.vars)++[l.name]) c.eqs c.neqs c.next),p3,bS,s,t,o,n,c9⟩ ⟨(mx (mx a4 aP) aE),(ah.mono (mx (mx (mx (mx k g) a4) aP) aE)),(ay.mono (mx (mx (mx g a4) aP) aE)),(cc.mono aE),(E.mono (mx (mx N2 aP) aE)),(C.mono (mx (mx N2 aP) aE)),hr⟩ (f4 z z z z) (w2 z z)
  refine sr<|yy (aH' z z) z<|sx0 z z<|P' hr z (fun c3 hr=>?_) (fun c3 hr=>?_)
  .refine x'<|mv z z<|yy (Y0.Zio z) z<|yy (o' 3 sc3 z z z) z<|mv z z<|yy (au' (vs:=#[(0,i' l.by'),(1,.slice I aa.1.length H)]) (v:=.agg ([i' l.by',.slice I aa.1.length H]).toArray) z z (fun _=>by kernel_rfl)) z<|aF' (e:=70) (r:=U') (vs:=#[(0,.agg ([i' l.by',.slice I aa.1.length H]).toArray)]) (cs:=[i' l.by',.slice I aa.1.length H]++([])) ([(Zb.mk l.by' aa.1)]:List Zb) z z z z z (by decide) (fun _=>by kernel_rfl) ⟨[i' l.by',.slice I aa.1.length H],[],z,⟨[i' l.by'],[.slice I aa.1.length H],z,z,⟨_,z,a3⟩⟩,z⟩ (key:=999) z (by rw[Y]; rfl) (fun p4 ea aI cQ=>?_)
   obtain⟨cp,hr⟩:=hr
   have N3:=mx (mx (mx (mx (mx B x) y) k) g) aI
   refine bb' (r:=U') 15 z z Y' el70 z (by decide) z z (ah.mono (mx (mx k g) aI)) z (by rw[Y]; rfl) bb cQ cp fun p5 cL d4 cT aN c5 dW=>sg z z<|q'<|F'<|ax' ⟨((([]:List Zb)++c.eqs)++[(Zb.mk l.by' aa.1)]),p5,cL,(([]:List Zb)++c.neqs),p1,aV,c,q,p,s,t,o,n,cT⟩ ⟨(mx aI aN),c5,(ay.mono (mx (mx g aI) aN)),(D.mono (mx N3 aN)),(E.mono (mx N3 aN)),(C.mono (mx N3 aN)),hr⟩ (f4 z z z z) (w2 z z)
  refine sr<|yy (aH' z z) z<|sx0 z z<|P' hr z (fun cV hr=>?_) (fun cV hr=>?_)
  .refine x'<|mv z z<|yy (Y0.Zio z) z<|yy (o' 3 sc3 z z z) z<|mv z z<|yy (au' (vs:=#[(0,i' l.by'),(1,.slice I aa.1.length H)]) (v:=.agg ([i' l.by',.slice I aa.1.length H]).toArray) z z (fun _=>by kernel_rfl)) z<|aF' (e:=70) (r:=U') (vs:=#[(0,.agg ([i' l.by',.slice I aa.1.length H]).toArray)]) (cs:=[i' l.by',.slice I aa.1.length H]++([])) ([(Zb.mk l.by' aa.1)]:List Zb) z z z z z (by decide) (fun _=>by kernel_rfl) ⟨[i' l.by',.slice I aa.1.length H],[],z,⟨[i' l.by'],[.slice I aa.1.length H],z,z,⟨_,z,a3⟩⟩,z⟩ (key:=999) z (by rw[Y]; rfl) (fun p6 ef aH cM=>?_)
   obtain⟨cx,hr⟩:=hr
   have N4:=mx (mx (mx (mx (mx B x) y) k) g) aH
   refine bb' (r:=U') 16 z z Y' el70 z (by decide) z z (ay.mono (mx g aH)) z (by rw[Y]; rfl) bm cM cx fun p7 da dC bY az cR dP=>sg z z<|q'<|F'<|ax' ⟨(([]:List Zb)++c.eqs),aY,aX,((([]:List Zb)++c.neqs)++[(Zb.mk l.by' aa.1)]),p7,da,c,q,p,s,t,o,n,bY⟩ ⟨(mx aH az),(ah.mono (mx (mx (mx k g) aH) az)),cR,(D.mono (mx N4 az)),(E.mono (mx N4 az)),(C.mono (mx N4 az)),hr⟩ (f4 z z z z) (w2 z z)
  refine sr<|yy (aH' z z) z<|sx0 z z<|P' hr z (fun c6 hr=>?_) (fun c6 hr=>?_)
  .refine x'<|mv z z<|mv z z ?_
   obtain⟨bW,hr⟩:=hr
   have N5:=mx (mx (mx (mx B x) y) k) g
   refine bb' (r:=U') 16 z z Y' el70 z (by decide) z z (ay.mono g) z (by rw[Y]; rfl) bm (ah.mono (mx k g)) bW fun p8 c2 d0 ct aC cK d2=>sg z z<|q'<|F'<|ax' ⟨(([]:List Zb)++c.eqs),aY,aX,((([]:List Zb)++c.neqs)++(([]:List Zb)++c.eqs)),p8,c2,c,q,p,s,t,o,n,ct⟩ ⟨aC,(ah.mono (mx (mx k g) aC)),cK,(D.mono (mx N5 aC)),(E.mono (mx N5 aC)),(C.mono (mx N5 aC)),hr⟩ (f4 z z z z) (w2 z z)
  refine sr<|yy (aH' z z) z<|sx0 z z<|P' hr z (fun cZ hr=>?_) (fun cZ hr=>?_)
  .refine sr<|mv z z<|yy (Y0.Zkk z) z<|yy (o' 3 sc5 z z z) z<|yy (cV' z z (by decide)) z<|yy (av' aL' aD' z) z<|yy (bP' z z (by decide)) z<|yy (W' z z) z ?_
   obtain⟨a1,cF,hr⟩:=hr
   refine N' z z (m' E71 z) (gg' cF) z (a3) (fun dt dV ai br=>?_)
   obtain⟨ar,an,rfl,bC⟩:=br
   refine mv z z<|yy (R' z z) z<|yy (R' z z) z<|sg z z<|sx0 z z<|x'<|yy (Y0.Zio z) z<|yy (o' 3 sc3 z z z) z<|mv z z<|yy (au' (vs:=#[(0,i' l.by'),(1,.slice ar a1.1.length an)]) (v:=.agg ([i' l.by',.slice ar a1.1.length an]).toArray) z z (fun _=>by kernel_rfl)) z<|aF' (e:=70) (r:=U') (vs:=#[(0,.agg ([i' l.by',.slice ar a1.1.length an]).toArray)]) (cs:=[i' l.by',.slice ar a1.1.length an]++([])) ([(Zb.mk l.by' a1.1)]:List Zb) z z z z z (by decide) (fun _=>by kernel_rfl) ⟨[i' l.by',.slice ar a1.1.length an],[],z,⟨[i' l.by'],[.slice ar a1.1.length an],z,z,⟨_,z,bC⟩⟩,z⟩ (key:=999) z (by rw[Y]; rfl) fun p9 dF am cO=>mv z z ?_
   obtain⟨cw,hr⟩:=hr
   have N6:=mx (mx (mx (mx (mx (mx B x) y) k) g) ai) am
   refine bb' (r:=U') 2089 z z Y' el70 z (by decide) z z cO z (by rw[Y]; rfl) cb' (ah.mono (mx (mx (mx k g) ai) am)) cw fun cN bU dg b9 aD cg dn=>sg z z<|q'<|F'<|ax' ⟨([(Zb.mk l.by' a1.1)]++(([]:List Zb)++c.eqs)),cN,bU,(([]:List Zb)++c.neqs),p1,aV,c,q,p,s,t,o,n,b9⟩ ⟨(mx (mx ai am) aD),cg,(ay.mono (mx (mx (mx g ai) am) aD)),(D.mono (mx N6 aD)),(E.mono (mx N6 aD)),(C.mono (mx N6 aD)),hr⟩ (f4 z z z z) (w2 z z)
  refine sr<|yy (aH' z z) z<|sx0 z z<|P' hr z (fun cP hr=>?_) (fun cP hr=>?_)
  .refine g'<|sr<|sx0 z z<|ab' (fun (⟨S,aR,aM,a5⟩:(List Zb)×Option Addr×Nat×Mem)=>[(2,pt0 b1),(3,pt0 b2),(4,pt0 b3),(5,.slice aR S.length aM),(6,.slice p1 (([]:List Zb)++c.neqs).length aV)]) (fun ⟨S,aR,aM,a5⟩=>Mem.le a6 a5/\sl U' a5 aR aM S/\(Zai c l S).Ret r) (fun ⟨S,aR,aM,a5⟩=>St w0 G0 a5 [(2,bk0 b1 (v42' c q p s t o n) 42),(3,bk0 b2 (v76' l) 76),(4,bk0 b3 ([.slice none 0 0,.slice none 0 0,.slice none 0 0,i' 0]) 42),(16,bT)]) ?_ ?_
   .refine y' ?_
    let bD:(List Zb)->Prop:=fun oo=>((fun ov=>match ov with|S=>Zai c l S:(List Zb)->Cq Zg) oo).wp (fun a=>a=r)
    replace hr:(Cq.loop _ _).wp bD:=hr
    refine ac' (Φ:=bD) (fun (⟨ad,ae,af,ao,F,a2⟩:(List Zb)×Option Addr×Nat×Option Ow×Int×Mem)=>((ad,F):(List Zb)×Int)) (fun ⟨ad,ae,af,ao,F,a2⟩=>[(2,pt0 b1),(3,pt0 b2),(4,pt0 b3),(5,.slice ae ad.length af),(6,.slice p1 (([]:List Zb)++c.neqs).length aV),(11,i' F)]) (fun ⟨ad,ae,af,ao,F,a2⟩=>Mem.le a6 a2/\sl U' a2 ae af ad/\Tok 2 70 (.slice ae ad.length af) ad.length ao) (fun ⟨ad,ae,af,ao,F,a2⟩=>St w0 G0 a2 [(2,bk0 b1 (v42' c q p s t o n) 42),(3,bk0 b2 (v76' l) 76),(4,bk0 b3 ([.slice none 0 0,.slice none 0 0,.slice none 0 0,i' 0]) 42),(16,bT),(1005,ao)]) ⟨(([]:List Zb)++c.eqs),aY,aX,c7,0,a6⟩ hr (f6 z z z z z z) ⟨mr,(ah.mono (mx k g)),bb⟩ ?_ ?_
    .intro w hs
     have hs:=hs.rekey (i:=15) (j:=1005) z (by rw[Y]; rfl)
     exact hs.weaken (lc z (lc z (lc z (lc z (lc z ln)))))
    intro d9 gx hx hr
    obtain⟨ad,ae,af,ao,F,a2⟩:=gx
    obtain⟨bj,bk,bw⟩:=hx
    refine g'<|sr<|mv z z<|yy (aa' z z) z<|nx<|P' hr z (fun cX hr=>?_) (fun cX hr=>?_)
    .refine n'<|b'<|g'<|y'<|ak' [tt,ff,ff,ff,ff,ff,ff,ff] mix (by kernel_rfl) fun hb=>cv' z (c' z)<|cn (fun _ m=>bz' z)<|cn (fun _ m=>o' 2 sc3 z z z)<|cn (fun _ m=>c' z)<|cn (fun _ m=>W' z z)<|cn (fun _ m=>c' z) ?_
     obtain⟨bF,ch,hr⟩:=hr
     refine az' (post:=w59' bF) (fun _=>z) (fun _ _=>m' E26 z) (cc' ch) z (fun G' m=>trivial) (fun v G1 G2 m h=>?_) ?_
     .obtain⟨aQ,aU,aW,aT,rfl,ab,ac⟩:=h
      exact⟨_,_,_,_,z,ab.mono m,ac.mono m⟩
     obtain⟨ag,bQ,hr⟩:=hr
     refine bJ' (f:=51) (φ:=wl' a' ag) (fun _=>z) (fun v G1 G2 m h=>?_) (fun u G' m hu=>?_) ?_
     .obtain⟨av,au,rfl,a7⟩:=h
      exact⟨_,_,z,a7.mono m⟩
     .obtain⟨⟨aQ,aU,aW,aT,bO,ab,ac⟩,_⟩:=(show (w59' bF) G'.m (u 102)/\True from hu)
      exact⟨_,_,_,fun _=>m' E51 z,dn' bQ,(by simp only[bO] <;> rfl),⟨ab,ac⟩⟩
     refine cD' (d:=103) (post:=wl' a' ag) (d':=102) (post':=w59' bF) (fun df dQ dU bd be bs=>?_)
     obtain⟨av,au,rfl,a7⟩:=be
     obtain⟨aQ,aU,aW,aT,rfl,ab,ac⟩:=bs
     refine yy (au' (vs:=#[(0,i' (i64.wrap (c.next+F))),(1,.slice av ag.length au)]) (v:=.agg ([i' (i64.wrap (c.next+F)),.slice av ag.length au]).toArray) z z (fun _=>by kernel_rfl)) z<|aF' (e:=70) (r:=U') (vs:=#[(0,.agg ([i' (i64.wrap (c.next+F)),.slice av ag.length au]).toArray)]) (cs:=[i' (i64.wrap (c.next+F)),.slice av ag.length au]++([])) ([(Zb.mk (i64.wrap (c.next+F)) ag)]:List Zb) z z z z z (by decide) (fun _=>by kernel_rfl) ⟨[i' (i64.wrap (c.next+F)),.slice av ag.length au],[],z,⟨[i' (i64.wrap (c.next+F))],[.slice av ag.length au],z,z,⟨_,z,a7⟩⟩,z⟩ (key:=999) z (by rw[Y]; rfl) (fun ej dT bc b7=>?_)
     obtain⟨cr,hr⟩:=hr
     refine bb' (r:=U') 1005 z z Y' el70 z (by decide) z z (bk.mono (mx bd bc)) z (by rw[Y]; rfl) bw b7 cr fun cS ce bL cy bA cl bM=>sg z z<|q'<|am'<|F'<|b'<|x'<|mv z z<|yy (W' z z) z<|sg z z<|q'<|T' ⟨(ad++[(Zb.mk (i64.wrap (c.next+F)) ag)]),cS,ce,bL,i64.wrap (F+1),cy⟩ hr ⟨(mx (mx (mx bj bd) bc) bA),cl,bM⟩ (f6 z z z z z z) (w5 z z z z z)
    refine ae'<|h'<|h'<|I'<|af' ⟨ad,ae,af,a2⟩ ⟨bj,bk,hr⟩ (f5 z z z z z) (w4 z z z z)
   rintro⟨S,aR,aM,a5⟩ ⟨aO,bl,hr⟩
   refine b'<|ak' [ff,ff,ff,ff,ff,ff,ff,ff,ff,ff,ff,ff,ff,ff,ff] mix (by kernel_rfl) fun hb=>cn (fun _ m=>c' z)<|cn (fun _ m=>c' z)<|cn (fun _ m=>O' Y' (bl.mono m) z)<|cn (fun _ m=>ba' z z)<|cn (fun _ m=>Y0.Zkk z)<|cn (fun _ m=>o' 3 sc5 z z z)<|cn (fun _ m=>bP' z z (by decide))<|cn (fun _ m=>av' aL' aD' z)<|cn (fun _ m=>ba' z z)<|cn (fun _ m=>Y0.max2 z z) ?_
   obtain⟨c4,hr⟩:=hr
   obtain⟨c8,cv,cD,bZ⟩:=SlR.cut (r:=U') (some (i' (if 0<(i64.wrap ((i64.wrap ((S.length:Int)-12))-(i64.wrap (Int.tmod l.at' 2)))) then (i64.wrap ((i64.wrap ((S.length:Int)-12))-(i64.wrap (Int.tmod l.at' 2)))) else 0))) none bR' z Y' bl (.inr ⟨_,z⟩) (.inl ⟨z,z⟩) c4
   have N7:=mx (mx (mx (mx (mx B x) y) k) g) aO
   refine cn (fun _ m=>Y0.cutL Y' bZ z z)<|cn (fun _ m=>bz' z)<|cn (fun _ m=>o' 2 sc3 z z z)<|cn (fun _ m=>W' z z)<|cn (fun _ m=>Y0.assign z)<|ah' hb<|yy (bz' z) z<|by' 2 ([.slice q c.vars.length p,.slice s c.eqs.length t,.slice o c.neqs.length n,i' (i64.wrap (c.next+20))]).toArray z sz3 z z z (show 3<4 by decide) z z<|q'<|am'<|F'<|ax' ⟨((S.take (S.length:Int).toNat).drop (if 0<(i64.wrap ((i64.wrap ((S.length:Int)-12))-(i64.wrap (Int.tmod l.at' 2)))) then (i64.wrap ((i64.wrap ((S.length:Int)-12))-(i64.wrap (Int.tmod l.at' 2)))) else 0).toNat),c8,cv,(([]:List Zb)++c.neqs),p1,aV,(Zg.mk c.vars c.eqs c.neqs (i64.wrap (c.next+20))),q,p,s,t,o,n,a5⟩ ⟨aO,cD,(ay.mono (mx g aO)),(D.mono N7),(E.mono N7),(C.mono N7),hr⟩ (f4 z z z z) (w2 z z)
  refine sr<|yy (aH' z z) z<|sx0 z z<|P' hr z (fun cU hr=>?_) (fun cU hr=>?_)
  .refine g'<|ak' [tt,ff,ff,ff,ff,ff] mix (by kernel_rfl) fun hb=>cv' z (c' z)<|cn (fun _ m=>bz' z)<|cn (fun _ m=>o' 2 sc3 z z z) ?_
   obtain⟨A,bK,hr⟩:=hr
   refine az' (post:=w59' A) (fun _=>z) (fun _ _=>m' E26 z) (cc' bK) z (fun G' m=>trivial) (fun v G1 G2 m h=>?_) ?_
   .obtain⟨P,O,M,L,rfl,V,W⟩:=h
    exact⟨_,_,_,_,z,V.mono m,W.mono m⟩
   refine bF' (φ:=fun G v=>∃ Z K X J,v = .agg (((v59' A Z K X J):List Value)++(vecG (Value.int .i64) 8 (fun _=>0))).toArray/\sl (Rp.int .u32) G Z K A.num.mag/\sl (Rp.int .u32) G X J A.den.mag) (fun _=>z) (fun v G1 G2 m h=>?_) (fun u G' m hu=>?_) ?_
   .obtain⟨Z,K,X,J,rfl,a9,a8⟩:=h
    exact⟨_,_,_,_,z,a9.mono m,a8.mono m⟩
   .obtain⟨⟨P,O,M,L,bz,V,W⟩,_⟩:=(show (w59' A) G'.m (u 127)/\True from hu)
    simp only[undFr,bz]
    exact⟨_,au' (vs:=#[(0,.agg ((v59' A P O M L)).toArray)]) (v:=.agg (((v59' A P O M L):List Value)++(vecG (Value.int .i64) 8 (fun _=>0))).toArray) z z (fun _=>by kernel_rfl),P,O,M,L,z,V,W⟩
   refine cu' (r:=a') (e:=119) ([(Za.mk A (fun _=>0))]:List Za) (fun _=>z) z (by decide) (fun u G' m hu=>?_) ?_
   .obtain⟨⟨Z,K,X,J,bv,a9,a8⟩,_,_⟩:=(show (fun G v=>∃ Z K X J,v = .agg (((v59' A Z K X J):List Value)++(vecG (Value.int .i64) 8 (fun _=>0))).toArray/\sl (Rp.int .u32) G Z K A.num.mag/\sl (Rp.int .u32) G X J A.den.mag) G'.m (u 128)/\True/\True from hu)
    simp only[undFr,bv]
    exact⟨#[(0,.agg (((v59' A Z K X J):List Value)++(vecG (Value.int .i64) 8 (fun _=>0))).toArray)],(((v59' A Z K X J):List Value)++(vecG (Value.int .i64) 8 (fun _=>0)))++([]),z,z,fun _=>by kernel_rfl,⟨((v59' A Z K X J):List Value)++(vecG (Value.int .i64) 8 (fun _=>0)),[],z,⟨(v59' A Z K X J),vecG (Value.int .i64) 8 (fun _=>0),z,⟨(v57' A.num Z K),(v57' A.den X J),z,⟨[.bool A.num.neg],[.slice Z A.num.mag.length K],z,z,⟨_,z,a9⟩⟩,⟨[.bool A.den.neg],[.slice X A.den.mag.length J],z,z,⟨_,z,a8⟩⟩⟩,z⟩,z⟩⟩
   refine cx' (d:=129) (post:=fun G v=>∃ aS bB,v = .slice aS 1 1/\SlRd a' G (.slice aS 1 1) bB [(Za.mk A (fun _=>0))]) (d':=128) (post':=fun G v=>∃ Z K X J,v = .agg (((v59' A Z K X J):List Value)++(vecG (Value.int .i64) 8 (fun _=>0))).toArray/\sl (Rp.int .u32) G Z K A.num.mag/\sl (Rp.int .u32) G X J A.den.mag) (d'':=127) (post'':=w59' A) (fun dh dd dq dX ap bi bg bh=>?_)
   obtain⟨aS,bB,rfl,cj⟩:=bi
   obtain⟨Z,K,X,J,rfl,a9,a8⟩:=bg
   obtain⟨P,O,M,L,rfl,V,W⟩:=bh
   refine yy (au' (vs:=#[(0,i' c.next),(1,.slice aS 1 1)]) (v:=.agg ([i' c.next,.slice aS 1 1]).toArray) z z (fun _=>by kernel_rfl)) z<|aF' (e:=70) (r:=U') (vs:=#[(0,.agg ([i' c.next,.slice aS 1 1]).toArray)]) (cs:=[i' c.next,.slice aS 1 1]++([])) ([(Zb.mk c.next [(Za.mk A (fun _=>0))])]:List Zb) z z z z z (by decide) (fun _=>by kernel_rfl) ⟨[i' c.next,.slice aS 1 1],[],z,⟨[i' c.next],[.slice aS 1 1],z,z,⟨_,z,cj⟩⟩,z⟩ (key:=999) z (by rw[Y]; rfl) (fun eh d1 aj b8=>?_)
   obtain⟨bH,hr⟩:=hr
   have N8:=mx (mx (mx (mx (mx (mx B x) y) k) g) ap) aj
   refine bb' (r:=U') 15 z z Y' el70 z (by decide) z z (ah.mono (mx (mx (mx k g) ap) aj)) z (by rw[Y]; rfl) bb b8 bH fun db cq de ck aA b6 dl=>sg z z<|q'<|am'<|b'<|x'<|yy (bz' z) z<|yy (o' 2 sc3 z z z) z<|yy (W' z z) z<|yy (bz' z) z<|by' 2 ([.slice q c.vars.length p,.slice s c.eqs.length t,.slice o c.neqs.length n,i' (i64.wrap (c.next+1))]).toArray z sz3 z z z (show 3<4 by decide) z z<|q'<|F'<|ax' ⟨((([]:List Zb)++c.eqs)++[(Zb.mk c.next [(Za.mk A (fun _=>0))])]),db,cq,(([]:List Zb)++c.neqs),p1,aV,(Zg.mk c.vars c.eqs c.neqs (i64.wrap (c.next+1))),q,p,s,t,o,n,ck⟩ ⟨(mx (mx ap aj) aA),b6,(ay.mono (mx (mx (mx g ap) aj) aA)),(D.mono (mx N8 aA)),(E.mono (mx N8 aA)),(C.mono (mx N8 aA)),hr⟩ (f4 z z z z) (w2 z z)
  have N9:=mx (mx (mx (mx B x) y) k) g
  refine n'<|F'<|ax' ⟨(([]:List Zb)++c.eqs),aY,aX,(([]:List Zb)++c.neqs),p1,aV,c,q,p,s,t,o,n,a6⟩ ⟨mr,(ah.mono (mx k g)),(ay.mono g),(D.mono N9),(E.mono N9),(C.mono N9),hr⟩ (f4 z z z z) (w2 z z)
 rintro⟨aB,ax,aw,aL,aF,aG,al,R,Q,aq,ak,U,T,aJ⟩ ⟨di,bP,bI,bf,cI,ci,hr⟩
 refine sr<|mv z z<|mv z z<|yy (bx' z) z<|by' 2 ([.slice R al.vars.length Q,.slice ax aB.length aw,.slice U al.neqs.length T,i' al.next]).toArray z sz40 z z z (show 1<4 by decide) z z<|yy (bA' z) z<|by' 2 ([.slice R al.vars.length Q,.slice ax aB.length aw,.slice aF aL.length aG,i' al.next]).toArray z sz40 z z z (show 2<4 by decide) z z<|nr<|yy (D' 2 ag42 z z z) z<|B' 4 z sz42 z z z z z (List.all_eq_true.1 z)<|nx<|k' ?_
 obtain rfl:_=r:=hr
 exact j' z (aw' (i:=4) ag42 z z z) ⟨_,_,_,_,_,_,z,bf,bP,bI⟩
theorem fB'{l L F I p o d f r}(hr:(Ze3 l L).Ret r):Ctr prog 32 #[.agg ((v42' l F I p o d f)).toArray,i' L] (fun G=>y31' G F I p o d f l) (fun G v=>∃ Q P,v = .tuple #[.agg ((v70' r.1 Q P)).toArray,.bool r.2.1,.bool r.2.2]/\sl a' G Q P r.1.p):=by
 refine H' (args:=[_,_]) (N:=38) func32 z z z (fun w0 Z av ag=>?_)
 obtain⟨am,V,S⟩:=ag
 refine sr<|ai' 2 z z z fun b1=>X' 4 z z70 z fun M=>sg z z<|sx0 z z<|g'<|sr<|yy (bx' z) z<|yy (o' 2 bO' z z z) z<|yy (bA' z) z<|yy (o' 2 bO' z z z) z<|aF' (e:=40) (r:=(Rp.sl U')) (vs:=#[(0,.slice p l.eqs.length o),(1,.slice d l.neqs.length f)]) (cs:=[.slice p l.eqs.length o]++([.slice d l.neqs.length f]++([]))) ([l.eqs,l.neqs]:List (List Zb)) z z z z z (by decide) (fun _=>by kernel_rfl) ⟨[.slice p l.eqs.length o],[.slice d l.neqs.length f]++([]),z,⟨_,z,V⟩,⟨[.slice d l.neqs.length f],[],z,⟨_,z,S⟩,z⟩⟩ (key:=999) z (by rw[av]; rfl) fun p1 T az W=>yy (O' dj' W z) z<|mv z z<|nx<|ab' (fun (⟨H,u,B,J⟩:Zb×Option Addr×Nat×Mem)=>[(4,pt0 M)]) (fun ⟨H,u,B,J⟩=>Mem.le T J/\sl a' J u B H.p/\(Zc3).Ret r) (fun ⟨H,u,B,J⟩=>St w0 Z J [(4,bk0 M (v70' H u B) 70)]) ?_ ?_
 .refine y' ?_
  let K:((Zb×Bool×Bool)⊕Zb)->Prop:=fun oo=>((fun ov=>match ov with | .inl rv1=>Cq.ret rv1 | .inr H=>Zc3:((Zb×Bool×Bool)⊕Zb)->Cq (Zb×Bool×Bool)) oo).wp (fun a=>a=r)
  replace hr:(Cq.loop _ _).wp K:=hr
  refine ac' (Φ:=K) (fun (⟨c,x,h,g,n⟩:Int×Zb×Option Addr×Nat×Mem)=>((c,x):Int×Zb)) (fun ⟨c,x,h,g,n⟩=>[(1,i' L),(4,pt0 M),(15,.slice p1 2 2),(16,i' ([l.eqs,l.neqs].length:Int)),(17,i' c)]) (fun ⟨c,x,h,g,n⟩=>Mem.le T n/\sl a' n h g x.p) (fun ⟨c,x,h,g,n⟩=>St w0 Z n [(4,bk0 M (v70' x h g) 70)]) ⟨0,(Zb.mk 0 []),none,0,T⟩ hr (f5 z z z z z) ⟨mr,(ay' _ _)⟩ (w1 z) ?_
  .intro ae gx hx hr
   obtain⟨c,x,h,g,n⟩:=gx
   obtain⟨C,R⟩:=hx
   refine sr<|yy (aa' z z) z<|nx<|g'<|P' hr z (fun ao hr=>?_) (fun ao hr=>?_)
   .refine n'<|b'<|g'<|y'<|sr<|mv z z ?_
    obtain⟨x1,ad,hr⟩:=hr
    refine yy (V' dj' sz40 (W.mono C) z z ad) z ?_
    obtain⟨p2,an,aq,X⟩:=bl' (J' (Z' W ad) C)
    refine yy (aj' bO' z (aq)) z<|sg z z<|sg z z<|nr<|mv z z<|yy (O' Y' X z) z<|mv z z<|nx<|ab' (fun (⟨A,q,s,E⟩:Zb×Option Addr×Nat×Mem)=>[(1,i' L),(4,pt0 M),(15,.slice p1 2 2),(16,i' ([l.eqs,l.neqs].length:Int)),(17,i' c)]) (fun ⟨A,q,s,E⟩=>Mem.le n E/\sl a' E q s A.p/\(Zc4 c A).wp (Out ae K)) (fun ⟨A,q,s,E⟩=>St w0 Z E [(4,bk0 M (v70' A q s) 70)]) ?_ ?_
    .refine y' ?_
     let U:((Zb×Bool×Bool)⊕Zb)->Prop:=fun oo=>((fun ov=>match ov with | .inl rv2=>Cq.ret (.inr (.inl rv2)) | .inr A=>Zc4 c A:((Zb×Bool×Bool)⊕Zb)->Cq ((Int×Zb)⊕((Zb×Bool×Bool)⊕Zb))) oo).wp (Out ae K)
     replace hr:(Cq.loop _ _).wp U:=hr
     refine ac' (Φ:=U) (fun (⟨m,t,j,k,y⟩:Int×Zb×Option Addr×Nat×Mem)=>((m,t):Int×Zb)) (fun ⟨m,t,j,k,y⟩=>[(1,i' L),(4,pt0 M),(7,i' c),(15,.slice p1 2 2),(16,i' ([l.eqs,l.neqs].length:Int)),(17,i' c),(22,.slice p2 x1.length an),(23,i' (x1.length:Int)),(24,i' m)]) (fun ⟨m,t,j,k,y⟩=>Mem.le n y/\sl a' y j k t.p) (fun ⟨m,t,j,k,y⟩=>St w0 Z y [(4,bk0 M (v70' t j k) 70)]) ⟨0,x,h,g,n⟩ hr (f9 z z z z z z z z z) ⟨mr,R⟩ (w1 z) ?_
     .intro aD gx hx hr
      obtain⟨m,t,j,k,y⟩:=gx
      obtain⟨D,O⟩:=hx
      refine sr<|yy (aa' z z) z<|nx<|g'<|P' hr z (fun ap hr=>?_) (fun ap hr=>?_)
      .refine n'<|b'<|g'<|y'<|sr ?_
       obtain⟨x2,ac,hr⟩:=hr
       refine yy (V' Y' bR' (X.mono D) z z ac) z ?_
       obtain⟨aA,aC,ar,ak⟩:=cA' (J' (Z' X ac) D)
       refine yy (ao' _ ag70 z z ar) z<|X' 10 z z70 z fun b3=>B' 10 z bR' z z z z z (List.all_eq_true.1 z)<|nr<|yy (bt' z) z<|yy (o' 10 sc3 z z z) z<|mv z z<|yy (aH' z z) z<|nx<|P' hr z (fun aw hr=>?_) (fun aw hr=>?_)
       .refine sr<|yy (D' 10 ag70 z z z) z<|mv z z<|yy (aH' z z) z<|B' 4 z bR' z z z z z (List.all_eq_true.1 z)<|sg z z<|sx0 z z<|k'<|A'<|f'<|f'<|A'<|an'<|A'<|f'<|f'<|A'<|an'<|f' ?_
        obtain rfl:_=r:=hr
        exact WE.ret3 z (aw' (i:=4) ag70 z z z) z z ⟨_,_,z,ak⟩
       refine n'<|F'<|b'<|x'<|yy (W' z z) z<|mv z z<|q'<|T' ⟨i64.wrap (m+1),t,j,k,y⟩ hr ⟨D,O⟩ (f9 z z z z z z z z z) (w1 z)
      refine ae'<|h'<|h'<|I'<|af' ⟨t,j,k,y⟩ ⟨D,O,hr⟩ (f5 z z z z z) (w1 z)
    rintro⟨A,q,s,E⟩ ⟨ab,Y,hr⟩
    refine F'<|b'<|x'<|yy (W' z z) z<|mv z z<|q'<|T' ⟨i64.wrap (c+1),A,q,s,E⟩ hr ⟨(mx C ab),Y⟩ (f5 z z z z z) (w1 z)
   refine ae'<|h'<|h'<|I'<|af' ⟨x,h,g,n⟩ ⟨C,R,hr⟩ (f1 z) (w1 z)
 rintro⟨H,u,B,J⟩ ⟨ax,ay,hr⟩
 refine b'<|sr<|yy (au' (vs:=#[]) (v:=.agg ([i' 0,.slice none 0 0]).toArray) z z (fun _=>by kernel_rfl)) z<|B' 4 z bR' z z z z z (List.all_eq_true.1 z)<|sg z z<|sx0 z z<|k' ?_
 obtain rfl:_=r:=hr
 exact WE.ret3 z (aw' (i:=4) ag70 z z z) z z ⟨_,_,z,(ay' a' _)⟩
theorem fS'{I H g j q p k l r}(hr:(ZhD I H).Ret r):Ctr prog 33 #[.agg ((v42' I g j q p k l)).toArray,i' H] (fun G=>y31' G g j q p k l I) (fun G v=>∃ T S,v = .tuple #[.agg ((v70' r.1 T S)).toArray,.bool r.2.1,.bool r.2.2]/\sl a' G T S r.1.p):=by
 refine H' (args:=[_,_]) (N:=50) func33 z z z (fun X O aB ae=>?_)
 obtain⟨ak,o,h⟩:=ae
 refine sr<|ai' 2 z z z fun U=>X' 4 z z70 z fun L=>sg z z<|sx0 z z<|g'<|sr<|sx0 z z<|ab' (fun (⟨B,s,t,F⟩:Zb×Option Addr×Nat×Mem)=>[(1,i' H),(2,pt0 U),(4,pt0 L)]) (fun ⟨B,s,t,F⟩=>Mem.le O F/\sl a' F s t B.p/\(Zc8 I H B).Ret r) (fun ⟨B,s,t,F⟩=>St X O F [(2,bk0 U (v42' I g j q p k l) 42),(4,bk0 L (v70' B s t) 70)]) ?_ ?_
 .refine y' ?_
  let V:((Zb×Bool×Bool)⊕Zb)->Prop:=fun oo=>((fun ov=>match ov with | .inl rv2=>Cq.ret rv2 | .inr B=>Zc8 I H B:((Zb×Bool×Bool)⊕Zb)->Cq (Zb×Bool×Bool)) oo).wp (fun a=>a=r)
  replace hr:(Cq.loop _ _).wp V:=hr
  refine ac' (Φ:=V) (fun (⟨M,u,e,f,C⟩:Int×Zb×Option Addr×Nat×Mem)=>((M,u):Int×Zb)) (fun ⟨M,u,e,f,C⟩=>[(1,i' H),(2,pt0 U),(4,pt0 L),(7,i' M)]) (fun ⟨M,u,e,f,C⟩=>Mem.le O C/\sl a' C e f u.p) (fun ⟨M,u,e,f,C⟩=>St X O C [(2,bk0 U (v42' I g j q p k l) 42),(4,bk0 L (v70' u e f) 70)]) ⟨0,(Zb.mk 0 []),none,0,O⟩ hr (f4 z z z z) ⟨mr,(ay' _ _)⟩ (w2 z z) ?_
  .intro az gx hx hr
   obtain⟨M,u,e,f,C⟩:=gx
   obtain⟨n,Q⟩:=hx
   refine g'<|sr<|mv z z<|yy (bx' z) z<|yy (o' 2 bO' z z z) z<|yy (O' Y' (o.mono n) z) z<|yy (aa' z z) z<|nx<|P' hr z (fun ap hr=>?_) (fun ap hr=>?_)
   .refine n'<|b'<|g'<|y'<|sr<|yy (bx' z) z<|yy (o' 2 bO' z z z) z<|mv z z ?_
    obtain⟨x3,Z,hr⟩:=hr
    refine yy (V' Y' bR' (o.mono n) z z Z) z<|yy (bt' z) z<|yy (aj' sc3 z (aJ' (J' (br' (aG' (Z' o Z))) n))) z<|mv z z<|yy (aH' z z) z<|nx<|P' hr z (fun am hr=>?_) (fun am hr=>?_)
    .refine sr<|yy (bx' z) z<|yy (o' 2 bO' z z z) z<|mv z z ?_
     obtain⟨x4,ab,hr⟩:=hr
     refine yy (V' Y' bR' (o.mono n) z z ab) z ?_
     obtain⟨ay,aw,al,ad⟩:=cA' (J' (Z' o ab) n)
     refine yy (ao' _ ag70 z z al) z<|B' 4 z bR' z z z z z (List.all_eq_true.1 z)<|sg z z<|sx0 z z<|k'<|A'<|f'<|f'<|A'<|an'<|f' ?_
     obtain rfl:_=r:=hr
     exact WE.ret3 z (aw' (i:=4) ag70 z z z) z z ⟨_,_,z,ad⟩
    refine n'<|F'<|b'<|x'<|mv z z<|yy (W' z z) z<|sg z z<|q'<|T' ⟨i64.wrap (M+1),u,e,f,C⟩ hr ⟨n,Q⟩ (f4 z z z z) (w2 z z)
   refine ae'<|h'<|h'<|I'<|af' ⟨u,e,f,C⟩ ⟨n,Q,hr⟩ (f3 z z z) (w2 z z)
 rintro⟨B,s,t,F⟩ ⟨x,Y,hr⟩
 refine b'<|g'<|sr<|sx0 z z<|ab' (fun (⟨J,D,y,K⟩:Zb×Option Addr×Nat×Mem)=>[(4,pt0 L)]) (fun ⟨J,D,y,K⟩=>Mem.le F K/\sl a' K D y J.p/\(ZeS).Ret r) (fun ⟨J,D,y,K⟩=>St X O K [(4,bk0 L (v70' J D y) 70)]) ?_ ?_
 .refine y' ?_
  let W:((Zb×Bool×Bool)⊕Zb)->Prop:=fun oo=>((fun ov=>match ov with | .inl rv1=>Cq.ret rv1 | .inr J=>ZeS:((Zb×Bool×Bool)⊕Zb)->Cq (Zb×Bool×Bool)) oo).wp (fun a=>a=r)
  replace hr:(Cq.loop _ _).wp W:=hr
  refine ac' (Φ:=W) (fun (⟨P,E,c,d,A⟩:Int×Zb×Option Addr×Nat×Mem)=>((P,E):Int×Zb)) (fun ⟨P,E,c,d,A⟩=>[(1,i' H),(2,pt0 U),(4,pt0 L),(8,i' P)]) (fun ⟨P,E,c,d,A⟩=>Mem.le F A/\sl a' A c d E.p) (fun ⟨P,E,c,d,A⟩=>St X O A [(2,bk0 U (v42' I g j q p k l) 42),(4,bk0 L (v70' E c d) 70)]) ⟨0,B,s,t,F⟩ hr (f4 z z z z) ⟨mr,Y⟩ (w2 z z) ?_
  .intro aA gx hx hr
   obtain⟨P,E,c,d,A⟩:=gx
   obtain⟨m,R⟩:=hx
   refine g'<|sr<|mv z z<|yy (bA' z) z<|yy (o' 2 bO' z z z) z<|yy (O' Y' (h.mono (mx x m)) z) z<|yy (aa' z z) z<|nx<|P' hr z (fun aq hr=>?_) (fun aq hr=>?_)
   .refine n'<|b'<|g'<|y'<|sr<|yy (bA' z) z<|yy (o' 2 bO' z z z) z<|mv z z ?_
    obtain⟨x1,ac,hr⟩:=hr
    refine yy (V' Y' bR' (h.mono (mx x m)) z z ac) z<|yy (bt' z) z<|yy (aj' sc3 z (aJ' (J' (br' (aG' (Z' h ac))) (mx x m)))) z<|mv z z<|yy (aH' z z) z<|nx<|P' hr z (fun an hr=>?_) (fun an hr=>?_)
    .refine sr<|yy (bA' z) z<|yy (o' 2 bO' z z z) z<|mv z z ?_
     obtain⟨x2,aa,hr⟩:=hr
     refine yy (V' Y' bR' (h.mono (mx x m)) z z aa) z ?_
     obtain⟨av,ax,ao,ai⟩:=cA' (J' (Z' h aa) (mx x m))
     refine yy (ao' _ ag70 z z ao) z<|B' 4 z bR' z z z z z (List.all_eq_true.1 z)<|sg z z<|sx0 z z<|k'<|A'<|f'<|f'<|A'<|an'<|f' ?_
     obtain rfl:_=r:=hr
     exact WE.ret3 z (aw' (i:=4) ag70 z z z) z z ⟨_,_,z,ai⟩
    refine n'<|F'<|b'<|x'<|mv z z<|yy (W' z z) z<|sg z z<|q'<|T' ⟨i64.wrap (P+1),E,c,d,A⟩ hr ⟨m,R⟩ (f4 z z z z) (w2 z z)
   refine ae'<|h'<|h'<|I'<|af' ⟨E,c,d,A⟩ ⟨m,R,hr⟩ (f1 z) (w1 z)
 rintro⟨J,D,y,K⟩ ⟨ar,au,hr⟩
 refine b'<|sr<|yy (au' (vs:=#[]) (v:=.agg ([i' 0,.slice none 0 0]).toArray) z z (fun _=>by kernel_rfl)) z<|B' 4 z bR' z z z z z (List.all_eq_true.1 z)<|sg z z<|sx0 z z<|k' ?_
 obtain rfl:_=r:=hr
 exact WE.ret3 z (aw' (i:=4) ag70 z z z) z z ⟨_,_,z,(ay' a' _)⟩
theorem fc'{i h e d c f r}(hr:(Zc5 i h).Ret r):Ctr prog 74 #[.agg ((v70' i e d)).toArray,.agg ((v70' h c f)).toArray] (fun G=>sl a' G e d i.p/\sl a' G c f h.p) (fun G v=>v = .bool r):=by
 refine H' (args:=[_,_]) (N:=17) func74 z z z (fun s q o j=>?_)
 obtain⟨g,k⟩:=j
 refine sr<|ai' 2 z z z fun p=>ai' 3 z z z fun t=>sg z z<|nr<|yy (bt' z) z<|yy (o' 2 sc3 z z z) z<|yy (bt' z) z<|yy (o' 3 sc3 z z z) z<|aE' hr z (aH' z z) z (fun m hr=>?_) (fun m hr=>?_)
 .refine mv z z<|gy z z (cl' z) z<|gy z z (o' 2 bU' z z z) z<|gy z z (cl' z) z<|gy z z (o' 3 bU' z z z) z ?_
  obtain⟨n,l,hr⟩:=hr
  refine K' (E' z z) z (m' E75 z) (ZaG _ _ _ _ _ _ _ l) z (⟨g,k⟩)<|yy (w' z z) z<|sx0 z z<|k' (k0' hr z z)
 refine mv z z<|sn5 z<|yy (t' z z) z<|sx0 z z<|k' (k0' hr z z)
theorem dK'{h n i j k l r}(hr:(Zaa h n).Ret r):Ctr prog 76 #[.slice i h.length j,.slice k n.length l] (fun G=>sl Rp.str G i j h/\sl Rp.str G k l n) (fun G v=>v = .bool r):=by
 refine H' (args:=[_,_]) (N:=26) func76 z z z (fun A q K x=>?_)
 obtain⟨g,m⟩:=x
 refine sr<|sx0 z z<|g'<|sr<|mv z z<|yy (O' aI' g z) z<|mv z z<|yy (O' aI' m z) z<|yy (bp' z z) z<|nx<|P' hr z (fun C hr=>?_) (fun C hr=>?_)
 .refine sr<|sx0 z z<|k'<|f' (k0' hr z z)
 refine n'<|b'<|g'<|sr<|mv z z<|yy (O' aI' g z) z<|mv z z<|nx<|ab' (fun (p:Mem)=>match p with|o=>[]) (fun (p:Mem)=>match p with|o=>Mem.le q o/\(Z3).Ret r) (fun (p:Mem)=>match p with|o=>St A q o []) ?_ ?_
 .refine y' ?_
  let s:(Bool⊕Unit)->Prop:=fun H=>((fun F=>match F with | .inl rv1=>Cq.ret rv1 | .inr ()=>Z3:(Bool⊕Unit)->Cq Bool) H).wp (fun a=>a=r)
  replace hr:(Cq.loop _ _).wp s:=hr
  refine ac' (Φ:=s) (fun (⟨c,f⟩:Int×Mem)=>(c:Int)) (fun ⟨c,f⟩=>[(0,.slice i h.length j),(1,.slice k n.length l),(12,i' (h.length:Int)),(13,i' c)]) (fun ⟨c,f⟩=>Mem.le q f) (fun ⟨c,f⟩=>St A q f []) ⟨0,q⟩ hr (f4 z z z z) mr (wk ln) ?_
  .intro J p I hr
   obtain⟨c,f⟩:=p
   have e:=I
   refine sr<|yy (aa' z z) z<|nx<|g'<|P' hr z (fun y hr=>?_) (fun y hr=>?_)
   .refine n'<|b'<|g'<|y'<|sr<|mv z z<|sx0 z z<|g'<|ak' [ff,ff,ff,ff,ff,ff,ff,ff] mix (by kernel_rfl) fun E=>cn (fun _ d=>c' z)<|cn (fun _ d=>c' z) ?_
    obtain⟨M,u,hr⟩:=hr
    refine cn (fun _ d=>V' aI' sz9 ((g.mono e).mono d) z z u)<|cn (fun _ d=>aj' sc9 z (dJ' (J' (J' (Z' g u) e) d)))<|cn (fun _ d=>c' z)<|cn (fun _ d=>c' z) ?_
    obtain⟨L,t,hr⟩:=hr
    refine cn (fun _ d=>V' aI' sz9 ((m.mono e).mono d) z z t)<|cn (fun _ d=>aj' sc9 z (dJ' (J' (J' (Z' m t) e) d)))<|ah' E<|yy (Y0.neqS aR' z z) z<|q'<|am'<|b'<|P' hr z (fun B hr=>?_) (fun B hr=>?_)
    .exact (show False from hr).elim
    refine n'<|F'<|b'<|x'<|yy (W' z z) z<|mv z z<|q'<|T' ⟨i64.wrap (c+1),f⟩ hr e (f4 z z z z) (wk ln)
   refine ae'<|h'<|h'<|I'<|af' f ⟨e,hr⟩ fn (wk ln)
 rintro o ⟨D,hr⟩
 refine b'<|sr<|sx0 z z<|k' (k0' hr z z)
theorem bg'{g m h i j k r}(hr:(Zn g m).Ret r):Ctr prog 77 #[.slice h g.length i,.slice j m.length k,.func (.func 74) #[] #[]] (fun G=>sl U' G h i g/\sl U' G j k m) (fun G v=>v = .bool r):=by
 refine H' (args:=[_,_,_]) (N:=32) func77 z z z (fun E p T x=>?_)
 obtain⟨f,l⟩:=x
 refine sr<|sx0 z z<|g'<|sr<|mv z z<|yy (O' Y' f z) z<|mv z z<|yy (O' Y' l z) z<|yy (bp' z z) z<|nx<|P' hr z (fun C hr=>?_) (fun C hr=>?_)
 .refine sr<|sx0 z z<|k'<|f' (k0' hr z z)
 refine n'<|b'<|g'<|sr<|mv z z<|yy (O' Y' f z) z<|mv z z<|nx<|ab' (fun (o:Mem)=>match o with|n=>[]) (fun (o:Mem)=>match o with|n=>Mem.le p n/\(Zp).Ret r) (fun (o:Mem)=>match o with|n=>St E p n []) ?_ ?_
 .refine y' ?_
  let q:(Bool⊕Unit)->Prop:=fun P=>((fun M=>match M with | .inl rv1=>Cq.ret rv1 | .inr ()=>Zp:(Bool⊕Unit)->Cq Bool) P).wp (fun a=>a=r)
  replace hr:(Cq.loop _ _).wp q:=hr
  refine ac' (Φ:=q) (fun (⟨c,e⟩:Int×Mem)=>(c:Int)) (fun ⟨c,e⟩=>[(1,.slice j m.length k),(2,.func (.func 74) #[] #[]),(15,.slice h g.length i),(16,i' (g.length:Int)),(17,i' c)]) (fun ⟨c,e⟩=>Mem.le p e) (fun ⟨c,e⟩=>St E p e []) ⟨0,p⟩ hr (f5 z z z z z) mr (wk ln) ?_
  .intro S o O hr
   obtain⟨c,e⟩:=o
   have d:=O
   refine sr<|yy (aa' z z) z<|nx<|g'<|P' hr z (fun D hr=>?_) (fun D hr=>?_)
   .refine n'<|b'<|g'<|y'<|sr<|mv z z ?_
    obtain⟨X,t,hr⟩:=hr
    refine yy (V' Y' bR' (f.mono d) z z t) z ?_
    obtain⟨K,L,F,y⟩:=cA' (J' (Z' f t) d)
    refine yy (ao' _ ag70 z z F) z<|X' 8 z z70 z fun U=>sg z z<|B' 8 z bR' z z z z z (List.all_eq_true.1 z)<|nr<|mv z z<|mv z z ?_
    obtain⟨W,s,hr⟩:=hr
    refine yy (V' Y' bR' (l.mono d) z z s) z ?_
    obtain⟨Q,J,B,u⟩:=cA' (J' (Z' l s) d)
    refine yy (ao' _ ag70 z z B) z<|X' 9 z z70 z fun V=>B' 9 z bR' z z z z z (List.all_eq_true.1 z)<|nr<|mv z z<|yy (D' 8 ag70 z z z) z<|yy (D' 9 ag70 z z z) z ?_
    obtain⟨R,A,hr⟩:=hr
    refine K' z z (YC.ofV E74 z z) (fc' A) z (⟨y,u⟩)<|yy (aA' z) z<|nx<|aK' hr z (fun H hr=>?_) (fun H hr=>?_)
    .refine sr<|sx0 z z<|k'<|A'<|f'<|f'<|A'<|an'<|f' (k0' hr z z)
    refine n'<|F'<|b'<|x'<|yy (W' z z) z<|mv z z<|q'<|T' ⟨i64.wrap (c+1),e⟩ hr d (f5 z z z z z) (wk ln)
   refine ae'<|h'<|h'<|I'<|af' e ⟨d,hr⟩ fn (wk ln)
 rintro n ⟨I,hr⟩
 refine b'<|sr<|sx0 z z<|k' (k0' hr z z)
theorem fC'{x t h g m k i e c j l n f d r}(hr:(Ze4 x t).Ret r):Ctr prog 35 #[.agg ((v42' x h g m k i e)).toArray,.agg ((v42' t c j l n f d)).toArray] (fun G=>sl Rp.str G h g x.vars/\sl U' G m k x.eqs/\sl U' G i e x.neqs/\y31' G c j l n f d t) (fun G v=>v = .bool r):=by
 refine H' (args:=[_,_]) (N:=34) func35 z z z (fun M L J C=>?_)
 obtain⟨o,u,q,p,y,s⟩:=C
 refine sr<|ai' 2 z z z fun O=>ai' 3 z z z fun K=>sg z z<|nr<|sg z z<|nr<|yy (bz' z) z<|yy (o' 2 sc3 z z z) z<|yy (bz' z) z<|yy (o' 3 sc3 z z z) z<|aE' hr z (aH' z z) z (fun H hr=>?_) (fun H hr=>?_)
 .refine mv z z<|gy z z (bQ' z) z<|gy z z (o' 2 sc39 z z z) z<|gy z z (bQ' z) z<|gy z z (o' 3 sc39 z z z) z ?_
  obtain⟨F,D,hr⟩:=hr
  refine K' (E' z z) z (m' E76 z) (dK' D) z (⟨o,p⟩) ?_
  cases F
  .refine yy (w' z z) z<|mv z z<|sn6 z<|yy (t' z z) z<|mv z z<|sn6 z<|yy (t' z z) z<|sx0 z z<|k' (k0' hr z z)
  refine yy (w' z z) z<|mv z z<|gy z z (bx' z) z<|gy z z (o' 2 bO' z z z) z<|gy z z (bx' z) z<|gy z z (o' 3 bO' z z z) z<|gy z z (c' z) z ?_
  obtain⟨E,A,hr⟩:=hr
  refine K' (E' z z) z (m' E77 z) (bg' A) z (⟨u,y⟩) ?_
  cases E
  .refine yy (w' z z) z<|mv z z<|sn6 z<|yy (t' z z) z<|sx0 z z<|k' (k0' hr z z)
  refine yy (w' z z) z<|mv z z<|gy z z (bA' z) z<|gy z z (o' 2 bO' z z z) z<|gy z z (bA' z) z<|gy z z (o' 3 bO' z z z) z<|gy z z (c' z) z ?_
  obtain⟨I,B,hr⟩:=hr
  refine K' (E' z z) z (m' E77 z) (bg' B) z (⟨q,s⟩)<|yy (w' z z) z<|sx0 z z<|k' (k0' hr z z)
 refine mv z z<|sn5 z<|yy (t' z z) z<|mv z z<|sn6 z<|yy (t' z z) z<|mv z z<|sn6 z<|yy (t' z z) z<|sx0 z z<|k' (k0' hr z z)
theorem es'{s q m p k o r}(hr:(Zcq s q).Ret r):Ctr prog 78 #[.slice m s.length p,.slice k q.length o] (fun G=>sl U' G m p s/\sl U' G k o q) (fun G v=>v = .bool r):=by
 refine H' (args:=[_,_]) (N:=42) func78 z z z (fun F l W A=>?_)
 obtain⟨f,h⟩:=A
 refine sr<|sx0 z z<|g'<|sr<|mv z z<|yy (O' Y' f z) z<|mv z z<|yy (O' Y' h z) z<|yy (bp' z z) z<|nx<|P' hr z (fun M hr=>?_) (fun M hr=>?_)
 .refine sr<|sx0 z z<|k'<|f' (k0' hr z z)
 refine n'<|b'<|g'<|sr<|sx0 z z<|ab' (fun (i:Mem)=>match i with|g=>[]) (fun (i:Mem)=>match i with|g=>Mem.le l g/\(Zcr).Ret r) (fun (i:Mem)=>match i with|g=>St F l g []) ?_ ?_
 .refine y' ?_
  let n:(Bool⊕Unit)->Prop:=fun R=>((fun P=>match P with | .inl rv1=>Cq.ret rv1 | .inr ()=>Zcr:(Bool⊕Unit)->Cq Bool) R).wp (fun a=>a=r)
  replace hr:(Cq.loop _ _).wp n:=hr
  refine ac' (Φ:=n) (fun (⟨j,e⟩:Int×Mem)=>(j:Int)) (fun ⟨j,e⟩=>[(0,.slice m s.length p),(1,.slice k q.length o),(5,i' j)]) (fun ⟨j,e⟩=>Mem.le l e) (fun ⟨j,e⟩=>St F l e []) ⟨0,l⟩ hr (f3 z z z) mr (wk ln) ?_
  .intro U i Q hr
   obtain⟨j,e⟩:=i
   have d:=Q
   refine g'<|sr<|mv z z<|mv z z<|yy (O' Y' (f.mono d) z) z<|yy (aa' z z) z<|nx<|P' hr z (fun E hr=>?_) (fun E hr=>?_)
   .refine n'<|b'<|g'<|y'<|g'<|ak' [ff,ff,ff,ff,ff,ff,ff,ff,ff,ff,ff,ff,ff,ff,ff,ff,ff,ff,ff,ff,ff,ff] mix (by kernel_rfl) fun C=>cn (fun _ c=>c' z)<|cn (fun _ c=>c' z) ?_
    obtain⟨x1,y,hr⟩:=hr
    refine cn (fun _ c=>V' Y' bR' ((f.mono d).mono c) z z y)<|cn (fun _ c=>bt' z)<|cn (fun _ c=>aj' sc3 z (aJ' (J' (J' (br' (aG' (Z' f y))) d) c)))<|cn (fun _ c=>c' z)<|cn (fun _ c=>c' z) ?_
    obtain⟨x2,u,hr⟩:=hr
    refine cn (fun _ c=>V' Y' bR' ((h.mono d).mono c) z z u)<|cn (fun _ c=>bt' z)<|cn (fun _ c=>aj' sc3 z (aJ' (J' (J' (br' (aG' (Z' h u))) d) c)))<|bG' hr z (fun _ c=>bp' z z) (fun J hr=>?_) (fun J hr=>?_)
    .refine cn (fun _ c=>c' z)<|cf z z<|cf z z<|cf z z<|cf z z<|cf z z<|cf z z<|cf z z<|cf z z<|cf z z<|cf z z<|ah' C<|sn2 z<|yy (w' z z) z<|q'<|am'<|b'<|aB' z<|sr<|sx0 z z<|k'<|A'<|f'<|f'<|A'<|an'<|f' (k0' hr z z)
    refine cn (fun _ c=>c' z)<|cy z z (fun _ c=>c' z)<|cy z z (fun _ c=>c' z) ?_
    obtain⟨Z,t,hr⟩:=hr
    refine cy z z (fun _ c=>V' Y' bR' ((f.mono d).mono c) z z t)<|cy z z (fun _ c=>cl' z) ?_
    obtain⟨p1,V,D,I⟩:=bl' (J' (bq' (aG' (Z' f t))) d)
    refine cy z z (fun _ c=>aj' bU' z (c _ _ _ D))<|cy z z (fun _ c=>c' z)<|cy z z (fun _ c=>c' z) ?_
    obtain⟨Y,x,hr⟩:=hr
    refine cy z z (fun _ c=>V' Y' bR' ((h.mono d).mono c) z z x)<|cy z z (fun _ c=>cl' z) ?_
    obtain⟨X,S,H,K⟩:=bl' (J' (bq' (aG' (Z' h x))) d)
    refine cy z z (fun _ c=>aj' bU' z (c _ _ _ H))<|ah' C ?_
    obtain⟨T,B,hr⟩:=hr
    refine K' (E' z z) z (m' E34 z) (dG' B) z (⟨I,K⟩)<|gy z z (aA' z) z<|yy (t' z z) z<|q'<|am'<|b'<|aK' hr z (fun L hr=>?_) (fun L hr=>?_)
    .exact (show False from hr).elim
    refine n'<|F'<|b'<|x'<|mv z z<|yy (W' z z) z<|sg z z<|q'<|T' ⟨i64.wrap (j+1),e⟩ hr d (f3 z z z) (wk ln)
   refine ae'<|h'<|h'<|I'<|af' e ⟨d,hr⟩ fn (wk ln)
 rintro g ⟨O,hr⟩
 refine b'<|sr<|sx0 z z<|k' (k0' hr z z)
theorem fT'{C A l k q o m i g e p s j h r}(hr:(ZhE C A).Ret r):Ctr prog 36 #[.agg ((v42' C l k q o m i)).toArray,.agg ((v42' A g e p s j h)).toArray] (fun G=>sl Rp.str G l k C.vars/\sl U' G q o C.eqs/\sl U' G m i C.neqs/\y31' G g e p s j h A) (fun G v=>v = .bool r):=by
 refine H' (args:=[_,_]) (N:=54) func36 z z z (fun R H ah S=>?_)
 obtain⟨f,I,E,t,K,F⟩:=S
 refine sr<|ai' 2 z z z fun M=>ai' 3 z z z fun L=>sx0 z z<|aO' (fun (u:Mem)=>match u with|y=>[(2,pt0 M),(3,pt0 L)]) (fun (u:Mem)=>match u with|y=>Mem.le H y/\(Zha C A).Ret r) (fun (u:Mem)=>match u with|y=>St R H y [(2,bk0 M (v42' C l k q o m i) 42),(3,bk0 L (v42' A g e p s j h) 42)]) ?_ ?_
 .refine sr<|yy (bQ' z) z<|yy (o' 2 sc39 z z z) z<|yy (O' aI' f z) z<|yy (bQ' z) z<|yy (o' 3 sc39 z z z) z<|yy (O' aI' t z) z<|aE' hr z (bp' z z) z (fun X hr=>?_) (fun X hr=>?_)
  .refine mv z z<|sn5 z<|yy (w' z z) z<|mv z z<|sn6 z<|yy (w' z z) z<|mv z z<|sn6 z<|yy (w' z z) z<|nx<|aB' z<|sr<|sx0 z z<|k'<|f' (k0' hr z z)
  refine mv z z<|gy z z (bz' z) z<|gy z z (o' 2 sc3 z z z) z<|gy z z (bz' z) z<|gy z z (o' 3 sc3 z z z) z<|aE' hr (E' z z) (bp' z z) z (fun W hr=>?_) (fun W hr=>?_)
  .refine yy (t' z z) z<|mv z z<|sn6 z<|yy (w' z z) z<|mv z z<|sn6 z<|yy (w' z z) z<|nx<|aB' z<|sr<|sx0 z z<|k'<|f' (k0' hr z z)
  refine yy (t' z z) z<|mv z z<|gy z z (bx' z) z<|gy z z (o' 2 bO' z z z) z<|gy z z (bx' z) z<|gy z z (o' 3 bO' z z z) z ?_
  obtain⟨U,T,hr⟩:=hr
  refine K' (E' z z) z (m' E78 z) (es' T) z (⟨I,K⟩) ?_
  cases U
  .refine gy z z (aA' z) z<|yy (t' z z) z<|mv z z<|sn6 z<|yy (w' z z) z<|nx<|aB' z<|sr<|sx0 z z<|k'<|f' (k0' hr z z)
  refine gy z z (aA' z) z<|yy (t' z z) z<|mv z z<|gy z z (bA' z) z<|gy z z (o' 2 bO' z z z) z<|gy z z (bA' z) z<|gy z z (o' 3 bO' z z z) z ?_
  obtain⟨af,Q,hr⟩:=hr
  refine K' (E' z z) z (m' E78 z) (es' Q) z (⟨E,F⟩)<|gy z z (aA' z) z<|yy (t' z z) z<|nx<|aK' hr z (fun Y hr=>?_) (fun Y hr=>?_)
  .refine sr<|sx0 z z<|k'<|f' (k0' hr z z)
  refine n'<|ax' H ⟨mr,hr⟩ (f2 z z) (w2 z z)
 rintro y ⟨n,hr⟩
 refine g'<|sr<|sx0 z z<|ab' (fun (u:Mem)=>match u with|B=>[]) (fun (u:Mem)=>match u with|B=>Mem.le y B/\(ZeU).Ret r) (fun (u:Mem)=>match u with|B=>St R H B []) ?_ ?_
 .refine y' ?_
  let J:(Bool⊕Unit)->Prop:=fun oo=>((fun ov=>match ov with | .inl rv1=>Cq.ret rv1 | .inr ()=>ZeU:(Bool⊕Unit)->Cq Bool) oo).wp (fun a=>a=r)
  replace hr:(Cq.loop _ _).wp J:=hr
  refine ac' (Φ:=J) (fun (⟨D,x⟩:Int×Mem)=>(D:Int)) (fun ⟨D,x⟩=>[(2,pt0 M),(3,pt0 L),(5,i' D)]) (fun ⟨D,x⟩=>Mem.le y x) (fun ⟨D,x⟩=>St R H x [(2,bk0 M (v42' C l k q o m i) 42),(3,bk0 L (v42' A g e p s j h) 42)]) ⟨0,y⟩ hr (f3 z z z) mr (w2 z z) ?_
  .intro ag u hx hr
   obtain⟨D,x⟩:=u
   have d:=hx
   refine g'<|sr<|mv z z<|yy (bQ' z) z<|yy (o' 2 sc39 z z z) z<|yy (O' aI' (f.mono (mx n d)) z) z<|yy (aa' z z) z<|nx<|P' hr z (fun Z hr=>?_) (fun Z hr=>?_)
   .refine n'<|b'<|g'<|y'<|g'<|ak' [ff,ff,ff,ff,ff,ff,ff,ff,ff,ff] mix (by kernel_rfl) fun hb=>cn (fun _ c=>bQ' z)<|cn (fun _ c=>o' 2 sc39 z z z)<|cn (fun _ c=>c' z) ?_
    obtain⟨x1,P,hr⟩:=hr
    refine cn (fun _ c=>V' aI' sz9 ((f.mono (mx n d)).mono c) z z P)<|cn (fun _ c=>aj' sc9 z (dJ' (J' (J' (Z' f P) (mx n d)) c)))<|cn (fun _ c=>bQ' z)<|cn (fun _ c=>o' 3 sc39 z z z)<|cn (fun _ c=>c' z) ?_
    obtain⟨x2,O,hr⟩:=hr
    refine cn (fun _ c=>V' aI' sz9 ((t.mono (mx n d)).mono c) z z O)<|cn (fun _ c=>aj' sc9 z (dJ' (J' (J' (Z' t O) (mx n d)) c)))<|ah' hb<|yy (Y0.neqS aR' z z) z<|q'<|am'<|b'<|P' hr z (fun V hr=>?_) (fun V hr=>?_)
    .exact (show False from hr).elim
    refine n'<|F'<|b'<|x'<|mv z z<|yy (W' z z) z<|sg z z<|q'<|T' ⟨i64.wrap (D+1),x⟩ hr d (f3 z z z) (w2 z z)
   refine ae'<|h'<|h'<|I'<|af' x ⟨d,hr⟩ fn (wk ln)
 rintro B ⟨aa,hr⟩
 refine b'<|sr<|sx0 z z<|k' (k0' hr z z)
theorem Zci(x:Zq)(al:ZD)(V:Int)(M:Option Addr)(J:Nat)(s:Option Addr)(t:Nat)(r:Bool)(hr:(ZaK x al V).Ret r):Ctr prog 8 #[.agg ((v37' x M J s t)).toArray,.agg ((v76' al)).toArray,i' V] (fun G=>sl cE' G M J x.l/\sl (Rp.int .u8) G s t x.gap) (fun G v=>v = .bool r):=by
 refine H' (args:=[_,_,_]) (N:=104) func8 z z z (fun w0 G0 bE aX=>?_)
 obtain⟨X,E⟩:=aX
 refine sr<|ai' 3 z z z fun b1=>ai' 4 z z z fun b2=>sg z z<|nr ?_
 obtain⟨aF,aQ,hr⟩:=hr
 refine K' z z (m' E10 z) (ck' aQ) z (trivial)<|sx0 z z<|g'<|sr<|mv z z<|yy (aA' z) z<|nx<|aK' hr z (fun bh hr=>?_) (fun bh hr=>?_)
 .exact (show False from hr).elim
 refine n'<|b'<|g'<|ak' [ff,ff,ff,ff,ff] mix (by kernel_rfl) fun T=>cn (fun _ c=>D' 3 ag37 z z z) ?_
 obtain⟨aD,aR,hr⟩:=hr
 refine az' (post:=w42' aD) (fun _=>z) (fun _ _=>m' E17 z) (dp' aR) z (fun G' c=>⟨(X.mono c),(E.mono c)⟩) (fun v G1 G2 c h=>?_) ?_
 .obtain⟨A,F,Q,O,I,B,rfl,p,q,o⟩:=h
  exact⟨_,_,_,_,_,_,z,p.mono c,q.mono c,o.mono c⟩
 refine cu (fun _ _ c=>D' 4 ag76 z z z) ?_
 obtain⟨an,aV,hr⟩:=hr
 refine bJ' (f:=30) (φ:=w42' an) (fun _=>z) (fun v G1 G2 c h=>?_) (fun u G' c hu=>?_) ?_
 .obtain⟨C,H,S,P,y,D,rfl,g,k,i⟩:=h
  exact⟨_,_,_,_,_,_,z,g.mono c,k.mono c,i.mono c⟩
 .obtain⟨⟨A,F,Q,O,I,B,av,p,q,o⟩,_⟩:=(show (w42' aD) G'.m (u 24)/\True from hu)
  exact⟨_,_,_,fun _=>m' E30 z,fl' aV,(by simp only[av] <;> rfl),⟨p,q,o⟩⟩
 refine bN' (fun _=>z) z42<|Chain.tailX3 (fun bG bk bs X1 ao ap ai aj=>?_)
 obtain⟨b3,rfl,aN⟩:=ap
 obtain⟨C,H,S,P,y,D,rfl,g,k,i⟩:=ai
 obtain⟨A,F,Q,O,I,B,rfl,p,q,o⟩:=aj
 refine WL.adopt aN (ds' (show WL _ _ _ _ _ _ (St w0 G0 X1.m _) from ?_))
 refine B' 8 z sz42 z z z z z (List.all_eq_true.1 z)<|q'<|am'<|b'<|sr<|yy (D' 8 ag42 z z z) z ?_
 obtain⟨bA,aL,hr⟩:=hr
 refine N' z z (m' E21 z) (cW' aL) z (⟨g,k,i⟩) (fun bq bD d ad=>?_)
 obtain⟨aI,aH,au,ax,rfl,Y,U⟩:=ad
 refine mv z z<|yy (R' z z) z<|yy (R' z z) z<|X' 9 z z28 z fun b4=>B' 9 z bB' z z z z z (List.all_eq_true.1 z)<|sg z z<|nr<|yy (D' 8 ag42 z z z) z ?_
 obtain⟨bJ,aU,hr⟩:=hr
 refine N' z z (m' E16 z) (fk' aU) z (⟨(g.mono d),(k.mono d),(i.mono d)⟩) (fun bj aE e af=>?_)
 obtain⟨aJ,aG,aq,aw,rfl,Z,W⟩:=af
 refine mv z z<|yy (R' z z) z<|yy (R' z z) z<|X' 11 z z28 z fun b5=>B' 11 z bB' z z z z z (List.all_eq_true.1 z)<|sx0 z z<|aO' (fun (gx:Mem)=>match gx with|aa=>[(2,i' V),(3,pt0 b1),(7,.bool aF),(8,pt0 b3)]) (fun (gx:Mem)=>match gx with|aa=>Mem.le aE aa/\(Zap x V aF an).Ret r) (fun (gx:Mem)=>match gx with|aa=>St w0 G0 aa [(3,bk0 b1 (v37' x M J s t) 37),(8,bk0 b3 (v42' an C H S P y D) 42)]) ?_ ?_
 .refine g'<|ak' [ff,ff,ff,ff,ff,ff,ff,ff,ff,ff] mix (by kernel_rfl) fun T=>cn (fun _ c=>D' 8 ag42 z z z) ?_
  obtain⟨bo,ay,hr⟩:=hr
  refine bL' z (fun _=>m' E28 z) (ct' ay) z (fun G' c=>⟨((g.mono (mx d e)).mono c),((k.mono (mx d e)).mono c),((i.mono (mx d e)).mono c)⟩)<|cn (fun _ c=>D' 8 ag42 z z z) ?_
  obtain⟨br,aB,hr⟩:=hr
  refine bL' z (fun _=>m' E31 z) (eo' aB) z (fun G' c=>⟨((g.mono (mx d e)).mono c),((k.mono (mx d e)).mono c),((i.mono (mx d e)).mono c)⟩)<|bG' hr z (fun _ c=>Y0.neqB bf' z z) (fun bd hr=>?_) (fun bd hr=>?_)
  .refine cn (fun _ c=>c' z)<|cf z z<|cf z z<|cf z z<|cf z z<|ah' T<|sn2 z<|yy (w' z z) z<|q'<|am'<|b'<|aB' z<|sr<|sx0 z z<|k'<|f' (k0' hr z z)
  refine cn (fun _ c=>c' z)<|cy z z (fun _ c=>D' 9 bj' z z z)<|cy z z (fun _ c=>c' z)<|cy z z (fun _ c=>D' 11 bj' z z z)<|cy z z (fun _ c=>c' z)<|ah' T ?_
  obtain⟨bw,aC,hr⟩:=hr
  refine K' (E' z z) z (m' E14 z) (eA' aC) z (⟨(Y.mono e),(U.mono e),Z,W⟩)<|gy z z (aA' z) z<|yy (t' z z) z<|q'<|am'<|b'<|aK' hr z (fun bb hr=>?_) (fun bb hr=>?_)
  .exact (show False from hr).elim
  refine n'<|ax' aE ⟨mr,hr⟩ (f4 z z z z) (w2 z z)
 rintro aa ⟨j,hr⟩
 refine g'<|sr<|yy (D' 8 ag42 z z z) z ?_
 obtain⟨bB,aM,hr⟩:=hr
 have N1:=mx (mx d e) j
 refine K' z z (m' E31 z) (eo' aM) z (⟨(g.mono N1),(k.mono N1),(i.mono N1)⟩)<|yy (aA' z) z<|nx<|aK' hr z (fun a8 hr=>?_) (fun a8 hr=>?_)
 .refine sr<|mv z z<|sx0 z z<|k'<|f' (k0' hr z z)
 refine n'<|b'<|sr<|yy (D' 8 ag42 z z z) z<|mv z z ?_
 obtain⟨bI,aW,hr⟩:=hr
 refine N' z z (m' E32 z) (fB' aW) z (⟨(g.mono N1),(k.mono N1),(i.mono N1)⟩) (fun bp bF l ak=>?_)
 obtain⟨a2,a0,rfl,ag⟩:=ak
 refine mv z z<|yy (R' z z) z<|yy (R' z z) z<|yy (R' z z) z<|X' 13 z z70 z fun b6=>B' 13 z bR' z z z z z (List.all_eq_true.1 z)<|sg z z<|sg z z<|nr<|yy (D' 8 ag42 z z z) z<|mv z z ?_
 obtain⟨bz,aZ,hr⟩:=hr
 refine N' z z (m' E33 z) (fS' aZ) z (⟨(g.mono (mx N1 l)),(k.mono (mx N1 l)),(i.mono (mx N1 l))⟩) (fun bi bK m ae=>?_)
 obtain⟨a1,a5,rfl,ac⟩:=ae
 refine mv z z<|yy (R' z z) z<|yy (R' z z) z<|yy (R' z z) z<|X' 16 z z70 z fun b7=>B' 16 z bR' z z z z z (List.all_eq_true.1 z)<|sg z z<|sg z z<|nr<|yy (D' 3 ag37 z z z) z ?_
 obtain⟨bH,aP,hr⟩:=hr
 have N2:=mx (mx (mx (mx (mx ao d) e) j) l) m
 refine N' z z (m' E17 z) (dp' aP) z (⟨(X.mono N2),(E.mono N2)⟩) (fun bt bC n ah=>?_)
 obtain⟨aS,aY,a4,a3,aK,aT,rfl,K,R,L⟩:=ah
 refine X' 19 z z42 z fun b8=>B' 19 z sz42 z z z z z (List.all_eq_true.1 z)<|nx<|g'<|ak' [ff,ff,ff,ff,ff,ff,ff,ff,ff,ff,ff,ff,ff,ff,ff,ff,ff,ff,ff,ff,ff,ff,ff,ff,ff,ff,ff,ff] mix (by kernel_rfl) fun T=>cn (fun _ c=>c' z)<|cn (fun _ c=>c' z)<|bG' hr z (fun _ c=>do' bf' z z) (fun bg hr=>?_) (fun bg hr=>?_)
 .refine cn (fun _ c=>c' z)<|cy z z (fun _ c=>c' z)<|cy z z (fun _ c=>c' z)<|bG' hr (E' z z) (fun _ c=>do' bf' z z) (fun a9 hr=>?_) (fun a9 hr=>?_)
  .refine cn (fun _ c=>w' z z)<|cn (fun _ c=>c' z)<|cy z z (fun _ c=>bt' z)<|cy z z (fun _ c=>o' 13 sc3 z z z)<|cy z z (fun _ c=>bt' z)<|cy z z (fun _ c=>o' 16 sc3 z z z)<|bG' hr (E' z z) (fun _ c=>aH' z z) (fun ba hr=>?_) (fun ba hr=>?_)
   .refine cn (fun _ c=>w' z z)<|cn (fun _ c=>c' z)<|cy z z (fun _ c=>cl' z)<|cy z z (fun _ c=>o' 13 bU' z z z)<|cy z z (fun _ c=>cl' z)<|cy z z (fun _ c=>o' 16 bU' z z z) ?_
    obtain⟨aO,aA,hr⟩:=hr
    refine bL' (E' z z) (fun _=>m' E34 z) (dG' aA) z (fun G' c=>⟨((ag.mono (mx m n)).mono c),((ac.mono n).mono c)⟩) ?_
    cases aO
    .refine cn (fun _ c=>w' z z)<|cn (fun _ c=>c' z)<|ct z z<|ct z z<|ct z z<|ct z z<|ct z z<|ah' T<|sn2 z<|yy (t' z z) z<|mv z z<|sk z z z<|yy (t' z z) z<|sg z z<|q'<|am'<|b'<|k' (k0' hr z z)
    refine cn (fun _ c=>w' z z)<|cn (fun _ c=>c' z)<|cy z z (fun _ c=>D' 8 ag42 z z z)<|cy z z (fun _ c=>D' 19 ag42 z z z) ?_
    obtain⟨bv,az,hr⟩:=hr
    have N3:=mx (mx (mx N1 l) m) n
    refine bL' (E' z z) (fun _=>m' E35 z) (fC' az) z (fun G' c=>⟨((g.mono N3).mono c),((k.mono N3).mono c),((i.mono N3).mono c),(K.mono c),(R.mono c),(L.mono c)⟩)<|cy z z (fun _ c=>D' 8 ag42 z z z)<|cy z z (fun _ c=>D' 19 ag42 z z z)<|ah' T ?_
    obtain⟨bn,ar,hr⟩:=hr
    have N4:=mx (mx (mx N1 l) m) n
    refine K' (E' z z) z (m' E36 z) (fT' ar) z (⟨(g.mono N3),(k.mono N3),(i.mono N3),K,R,L⟩)<|aE' hr (E' z z) (do' bf' z z) z (fun bf hr=>?_) (fun bf hr=>?_)
    .refine yy (w' z z) z<|mv z z<|gy z z (c' z) z<|yy (w' z z) z<|sg z z<|q'<|am'<|b'<|k' (k0' hr z z)
    refine yy (w' z z) z<|mv z z<|sk z z z<|yy (t' z z) z<|sg z z<|q'<|am'<|b'<|k' (k0' hr z z)
   refine cn (fun _ c=>w' z z)<|cn (fun _ c=>c' z)<|ct z z<|ct z z<|ct z z<|ct z z<|ct z z<|cn (fun _ c=>t' z z)<|cn (fun _ c=>c' z)<|ct z z<|ct z z<|ct z z<|ct z z<|ct z z<|ah' T<|sn2 z<|yy (t' z z) z<|mv z z<|sk z z z<|yy (t' z z) z<|sg z z<|q'<|am'<|b'<|k' (k0' hr z z)
  refine cn (fun _ c=>w' z z)<|cn (fun _ c=>c' z)<|ct z z<|ct z z<|ct z z<|ct z z<|ct z z<|cn (fun _ c=>t' z z)<|cn (fun _ c=>c' z)<|ct z z<|ct z z<|ct z z<|ct z z<|ct z z<|cn (fun _ c=>t' z z)<|cn (fun _ c=>c' z)<|ct z z<|ct z z<|ct z z<|ct z z<|ct z z<|ah' T<|sn2 z<|yy (t' z z) z<|mv z z<|sk z z z<|yy (t' z z) z<|sg z z<|q'<|am'<|b'<|k' (k0' hr z z)
 refine cn (fun _ c=>c' z)<|ct z z<|ct z z<|ct z z<|cn (fun _ c=>t' z z)<|cn (fun _ c=>c' z)<|ct z z<|ct z z<|ct z z<|ct z z<|ct z z<|cn (fun _ c=>t' z z)<|cn (fun _ c=>c' z)<|ct z z<|ct z z<|ct z z<|ct z z<|ct z z<|cn (fun _ c=>t' z z)<|cn (fun _ c=>c' z)<|ct z z<|ct z z<|ct z z<|ct z z<|ct z z<|ah' T<|sn2 z<|yy (t' z z) z<|mv z z<|sk z z z<|yy (t' z z) z<|sg z z<|q'<|am'<|b'<|k' (k0' hr z z)
end Go.Proofs.YtoakocgcakgpnaaGreat

namespace Go.Proofs.YtoakocgcakgpnaaGreat
open Go.IntKind (i8 i16 i32 i64 u8 u16 u32 u64)
open Go.Proofs.Tryz
open Go Go.EL Go.RowKit Go.Proofs
end Go.Proofs.YtoakocgcakgpnaaGreat

namespace Go.EL
open Go.IntKind (i8 i16 i32 i64 u8 u16 u32 u64)
open Go Go.RowKit
structure Writ (k:Ze):Prop where
 n:0<=k.n/\k.n<=1000
 eqs:∀ p ∈ k.eqs,PolOk p
 neqs:∀ p ∈ k.neqs,PolOk p
 len:k.eqs.length<=12/\k.neqs.length<=12
theorem Writ.zero:Writ zeroK:=⟨by decide,fun p hp=>absurd hp List.not_mem_nil,fun p hp=>absurd hp List.not_mem_nil,by decide⟩
theorem CoreOk.writ{k:Ze}(h:CoreOk k):Writ k:=⟨by have:=h.n; omega,fun p hp=>(h.eqs.pol p hp).1,fun p hp=>(h.neqs.pol p hp).1,h.eqs.len,h.neqs.len⟩
theorem Writ.core{k:Ze}(h:Writ k):(Zd2 [] k).Ret (coreW k):=Zmm h.n h.eqs h.neqs h.len.1 h.len.2
theorem ZnZ{k m:Ze}(hk:Writ k)(hm:Writ m)(e:keyB k=keyB m):(ZaI k m).Ret true:=⟨_,hk.core,_,hm.core,decide_eq_true e⟩
theorem Zjb{k:Ze}{e:Int}(h:Writ k):(ZeZ k e k e).Ret true:=Cq.wp.yes rfl ⟨_,ZnZ h h rfl,rfl⟩
theorem Zl4{n:Int}{eqs neqs:List Pol}(he:∀ p ∈ eqs,PolOk p)(hi:∀ p ∈ neqs,PolOk p):Writ (normF n eqs neqs).1/\((normF n eqs neqs).2=0->CoreOk (normF n eqs neqs).1):=by
 unfold normF
 by_cases hn:1<=n/\n<=4
 .rw[if_pos hn]
  by_cases ha:(eqs++neqs).all (fun p=>fitB p n)=true
  .rw[if_pos ha]
   by_cases h1:12<(srtP (eqsF eqs neqs)).length
   .rw[if_pos h1]; exact⟨Writ.zero,fun h=>absurd h (by decide)⟩
   rw[if_neg h1]
   by_cases h2:12<(srtP (kept neqs true)).length
   .rw[if_pos h2]; exact⟨Writ.zero,fun h=>absurd h (by decide)⟩
   rw[if_neg h2]
   obtain⟨m,rfl,m1,m4⟩:=Ziz hn
   rw[List.all_append,Bool.and_eq_true] at ha
   have hc:=Zlm ⟨m1,m4⟩ (fun p hp=>⟨he p hp,List.all_eq_true.1 ha.1 p hp⟩) (fun p hp=>⟨hi p hp,List.all_eq_true.1 ha.2 p hp⟩) (by omega) (by omega)
   exact⟨hc.writ,fun _=>hc⟩
  rw[if_neg ha]; exact⟨Writ.zero,fun h=>absurd h (by decide)⟩
 rw[if_neg hn]; exact⟨Writ.zero,fun h=>absurd h (by decide)⟩
theorem Zi3{l:List Zb}(hl:l.length<=1000):(Zes l).Ret (l.map (·.p)):=by
 refine Cq.Zk l.length (fun k s=>s=((l.take k).map (·.p),(k:Int))) (fun k s hk hs=>?_) (fun s hs=>?_) rfl
 .subst hs
  refine Cq.wp.yes (by omega) ⟨_,idxN hk,?_,?_⟩
  .simp only[List.length_append,List.length_map,List.length_take,List.length_singleton,small]; omega
  show _=_
  rw[wrapN (by omega),List.take_succ_eq_append_getElem hk,List.map_append]
  rfl
 subst hs
 refine Cq.wp.no (by omega) ?_
 rw[List.take_of_length_le (Nat.le_refl _)]
 exact rfl
theorem Zjr{l:List Zb}(hl:l.length<=1000):(Zaz l).Ret (l.map (·.p)):=by
 refine⟨⟨by omega,by omega⟩,?_⟩
 refine Cq.Zk l.length (fun k s=>s=((l.take k).map (·.p)++List.replicate (l.length-k) [],(k:Int))) (fun k s hk hs=>?_) (fun s hs=>?_) (by show _=_; simp)
 .subst hs
  have hlen:((l.take k).map (·.p)++List.replicate (l.length-k) ([]:Pol)).length=l.length:=by simp; omega
  refine Cq.wp.yes (by omega) ⟨_,idxN hk,_,idxN (by rw[hlen]; exact hk),?_⟩
  show _=_
  rw[wrapN (by omega),Int.toNat_natCast,List.take_succ_eq_append_getElem hk,List.map_append,List.map_singleton]
  congr 1
  rw[List.set_append,if_neg (by rw[List.length_map,List.length_take]; omega)]
  have e:l.length-k=(l.length-(k+1))+1:=by omega
  have hk2:k-((l.take k).map (·.p)).length=0:=by simp; omega
  rw[hk2,e,List.replicate_succ,List.set_cons_zero,List.append_assoc]
  rfl
 subst hs
 refine Cq.wp.no (by omega) ?_
 show _=_
 rw[List.take_of_length_le (Nat.le_refl _)]
 simp
def varN(s:Zg):Int:=if 1<(s.vars.length:Int) then (s.vars.length:Int) else 1
def coreF(s:Zg):Ze×Int:=normF (varN s) (s.eqs.map (·.p)) (s.neqs.map (·.p))
theorem Good.polys{s:Zg}(h:Good s):(∀ p ∈ s.eqs.map (·.p),PolOk p)/\∀ p ∈ s.neqs.map (·.p),PolOk p:=
 ⟨fun p hp=>by obtain⟨q,hq,rfl⟩:=List.mem_map.1 hp; exact (h.eqs.pol q hq).1,fun p hp=>by obtain⟨q,hq,rfl⟩:=List.mem_map.1 hp; exact (h.neqs.pol q hq).1⟩
theorem Znn{s:Zg}(h:Good s):(Zdc s).Ret (coreF s):=by
 have l1:=h.eqs.len
 have l2:=h.neqs.len
 obtain⟨p1,p2⟩:=h.polys
 exact⟨true,ZjN h,Cq.wp.no (by decide) ⟨_,Zjr (by omega),_,Zjr (by omega),_,Zhd (by rw[List.length_map]; omega) (by rw[List.length_map]; omega) p1 p2,rfl⟩⟩
theorem ZlK{s:Zg}(h:Good s):(ZhC s).Ret (coreF s):=by
 have l1:=h.eqs.len
 have l2:=h.neqs.len
 obtain⟨p1,p2⟩:=h.polys
 exact⟨true,Zdy h,Cq.wp.no (by decide) ⟨_,Zi3 (by omega),_,Zi3 (by omega),_,Zk3 (by rw[List.length_map]; omega) (by rw[List.length_map]; omega) p1 p2,rfl⟩⟩
end Go.EL

namespace Go.EL
open Go.IntKind (i8 i16 i32 i64 u8 u16 u32 u64)
open Go Go.RowKit
def eM(j:Nat)(n:Int):M:=setF (fun _=>0) j n
def oddP(j:Nat)(n:Int):Pol:=[⟨ratI 1,eM j n⟩]
theorem ZoS{j:Nat}{n:Int}(h:0<=n/\n<=65535):Ok (eM j n):=fun i=>by
 unfold eM setF
 split
 .exact h
 exact ok0 i
theorem ZkB{c:Int}{m:M}(h0:c≠0)(h1:-12<=c)(h2:c<=12)(hm:Ok m):PolOk [⟨ratI c,m⟩] where
 ord:=List.pairwise_singleton _ _
 trm:=fun t ht=>by rw[List.mem_singleton] at ht; subst ht; exact⟨⟨c,rfl,h0,h1,h2⟩,hm⟩
 len:=by simp
theorem ZmV{j:Nat}{n:Int}(h:0<=n/\n<=65535):PolOk (oddP j n):=ZkB (by decide) (by decide) (by decide) (ZoS h)
theorem Zot:(between 0 7 fun j=>between 11 14 fun n=>runs 80 (ZiU (oddP j.toNat 1) n) (oddP j.toNat n,0))=true:=by decide +kernel
theorem Zmj:(between 0 12 fun n=>runs 20 (ZN n) (ratI n) && runs 20 (Zag (ratI n)) (if n=0 then [] else [⟨ratI n,fun _=>0⟩]))=true:=by decide +kernel
theorem nilOk:PolOk []:=⟨List.Pairwise.nil,fun t ht=>absurd ht List.not_mem_nil,by simp⟩
def constP(i:Int):Pol:=if i=0 then [] else [⟨ratI i,fun _=>0⟩]
theorem Znv{i:Int}(h:0<=i/\i<=12):PolOk (constP i):=by
 unfold constP
 split
 .exact nilOk
 exact ZkB (by omega) (by omega) (by omega) ok0
def constsF(next:Int)(k:Nat):List Zb:=(List.range k).map fun (i:Nat)=>(⟨next+(i:Int),constP (i:Int)⟩:Zb)
theorem Zik(next:Int)(k:Nat):(constsF next k).length=k:=by unfold constsF; rw[List.length_map,List.length_range]
def EqL{α:Type}(a b:List α):Prop:=a=b\/a.length≠b.length
structure RelS (a b:Zg):Prop where
 vars:EqL a.vars b.vars
 eqs:EqL a.eqs b.eqs
 neqs:EqL a.neqs b.neqs
theorem Good.x1{s:Zg}(h:Good s):(∀ q ∈ s.eqs,PolX q.p)/\∀ q ∈ s.neqs,PolX q.p:=⟨fun q hq=>.inl (h.eqs.pol q hq).1,fun q hq=>.inl (h.neqs.pol q hq).1⟩
theorem snocX{l:List Zb}(h:∀ q ∈ l,PolX q.p){i:Int}{p:Pol}(hp:PolX p):∀ q ∈ l++[⟨i,p⟩],PolX q.p:=fun q hq=>by
 rcases List.mem_append.1 hq with hq|hq
 .exact h q hq
 rw[List.mem_singleton] at hq; subst hq; exact hp
theorem Zez{α:Type}(l:List α)(x:α):EqL (l++[x]) l:=.inr (by rw[List.length_append,List.length_singleton]; omega)
theorem ZlR{s:Zg}(h:Good s)(hl:s.eqs.length+s.neqs.length<=6){z:ZD}(hp:0<=z.part/\z.part<=255)(ha:0<=z.at'/\z.at'<=255):
  ∃ s',(ZbW s z).Ret s'/\SysX s'/\RelS s' s:=by
 obtain⟨x1,x2⟩:=h.x1
 have hv:=h.vars
 have hnx:=h.next
 obtain⟨j,hj,j8⟩:∃ j:Nat,Int.tmod (i64.wrap z.at') 8=(j:Int)/\j<8:=by
  rw[wrap64 (by omega)]
  have:=Zch ha.1 (show (0:Int)<8 by decide)
  exact⟨(Int.tmod z.at' 8).toNat,by omega,by omega⟩
 have hvar:(ZgS (Int.tmod (i64.wrap z.at') 8)).Ret (oddP j 1,0):=by
  rw[hj]
  refine Cq.wp.no (by omega) (Cq.wp.no (by omega) ⟨⟨by omega,by omega⟩,_,rWhole1,?_⟩)
  show _=_
  rw[Int.toNat_natCast]
  rfl
 have h1ok:PolOk (oddP j 1):=ZmV (by omega)
 have sm:∀ {α:Type}(l:List α),l.length<=1000->l.length<=small:=fun l hl=>by simp only[small]; omega
 have pre:∀ {c:(Pol×Int)->Cq Zg}{s':Zg},(c (oddP j 1,0)).Ret s'->(Cq.chk ((([]:List Zb)++s.eqs).length<=small) (Cq.chk ((([]:List Zb)++s.neqs).length<=small) (Cq.bind (ZgS (Int.tmod (i64.wrap z.at') 8)) c))).Ret s':=fun hc=>
  ⟨sm _ (by rw[List.nil_append]; omega),sm _ (by rw[List.nil_append]; omega),_,hvar,hc⟩
 unfold ZbW
 by_cases c1:Int.tmod z.part 9=1
 .exact⟨⟨s.vars,s.eqs,s.neqs,z.by'⟩,pre (Cq.wp.yes c1 rfl),⟨⟨by show s.eqs.length<=1000; omega,x1⟩,⟨by show s.neqs.length<=1000; omega,x2⟩⟩,⟨.inl rfl,.inl rfl,.inl rfl⟩⟩
 by_cases c2:Int.tmod z.part 9=2
 .exact⟨⟨s.vars++[z.name],s.eqs,s.neqs,s.next⟩,pre (Cq.wp.no c1 (Cq.wp.yes c2 ⟨sm _ (by rw[List.nil_append]; omega),sm _ (by rw[List.nil_append,List.length_append,List.length_singleton]; omega),rfl⟩)),⟨⟨by show s.eqs.length<=1000; omega,x1⟩,⟨by show s.neqs.length<=1000; omega,x2⟩⟩,⟨Zez _ _,.inl rfl,.inl rfl⟩⟩
 by_cases c3:Int.tmod z.part 9=3
 .exact⟨⟨s.vars,s.eqs++[(⟨z.by',oddP j 1⟩:Zb)],s.neqs,s.next⟩,pre (Cq.wp.no c1 (Cq.wp.no c2 (Cq.wp.yes c3 ⟨sm _ (by rw[List.nil_append,List.length_append,List.length_singleton]; omega),rfl⟩))),⟨⟨by show (s.eqs++[_]).length<=1000; rw[List.length_append,List.length_singleton]; omega,snocX x1 (.inl h1ok)⟩,⟨by show s.neqs.length<=1000; omega,x2⟩⟩,⟨.inl rfl,Zez _ _,.inl rfl⟩⟩
 by_cases c4:Int.tmod z.part 9=4
 .exact⟨⟨s.vars,s.eqs,s.neqs++[(⟨z.by',oddP j 1⟩:Zb)],s.next⟩,pre (Cq.wp.no c1 (Cq.wp.no c2 (Cq.wp.no c3 (Cq.wp.yes c4 ⟨sm _ (by rw[List.nil_append,List.length_append,List.length_singleton]; omega),rfl⟩)))),⟨⟨by show s.eqs.length<=1000; omega,x1⟩,⟨by show (s.neqs++[_]).length<=1000; rw[List.length_append,List.length_singleton]; omega,snocX x2 (.inl h1ok)⟩⟩,⟨.inl rfl,.inl rfl,Zez _ _⟩⟩
 by_cases c5:Int.tmod z.part 9=5
 .refine⟨⟨s.vars,s.eqs,s.neqs++s.eqs,s.next⟩,pre (Cq.wp.no c1 (Cq.wp.no c2 (Cq.wp.no c3 (Cq.wp.no c4 (Cq.wp.yes c5 ⟨sm _ (by rw[List.nil_append,List.nil_append,List.length_append]; omega),rfl⟩))))),⟨⟨by show s.eqs.length<=1000; omega,x1⟩,⟨by show (s.neqs++s.eqs).length<=1000; rw[List.length_append]; omega,fun q hq=>(List.mem_append.1 hq).elim (x2 q) (x1 q)⟩⟩,⟨.inl rfl,.inl rfl,?_⟩⟩
  by_cases he:s.eqs=[]
  .exact .inl (by show s.neqs++s.eqs=_; rw[he,List.append_nil])
  have:=List.length_pos_iff.2 he
  exact .inr (by show (s.neqs++s.eqs).length≠_; rw[List.length_append]; omega)
 by_cases c6:Int.tmod z.part 9=6
 .obtain⟨n,hn,n1,n2⟩:∃ n:Int,i64.wrap (11+(Int.tmod (i64.wrap (u8.wrap (Int.tdiv z.at' 8))) 4))=n/\11<=n/\n<=14:=by
   have h0:0<=u8.wrap (Int.tdiv z.at' 8)/\u8.wrap (Int.tdiv z.at' 8)<=255:=by
    simp only[IntKind.wrap,IntKind.bits,IntKind.signed,Bool.false_and,Bool.false_eq_true,if_false]
    omega
   rw[wrap64 (x:=u8.wrap (Int.tdiv z.at' 8)) (by omega)]
   have:=Zch h0.1 (show (0:Int)<4 by decide)
   rw[wrap64 (by omega)]
   exact⟨_,rfl,by omega,by omega⟩
  have hpw:=Zo (Zo Zot (x:=(j:Int)) (by omega) (by omega)) n1 n2
  rw[Int.toNat_natCast] at hpw
  refine⟨⟨s.vars,[(⟨z.by',oddP j n⟩:Zb)]++s.eqs,s.neqs,s.next⟩,pre (Cq.wp.no c1 (Cq.wp.no c2 (Cq.wp.no c3 (Cq.wp.no c4 (Cq.wp.no c5 (Cq.wp.yes c6 ⟨(oddP j n,0),by rw[hn]; exact Zv hpw,sm _ (by rw[List.nil_append,List.length_append,List.length_singleton]; omega),rfl⟩)))))),⟨⟨by show ([_]++s.eqs).length<=1000; rw[List.length_append,List.length_singleton]; omega,fun q hq=>?_⟩,⟨by show s.neqs.length<=1000; omega,x2⟩⟩,⟨.inl rfl,.inr (by show ([_]++s.eqs).length≠_; rw[List.length_append,List.length_singleton]; omega),.inl rfl⟩⟩
  rcases List.mem_append.1 hq with hq|hq
  .rw[List.mem_singleton] at hq; subst hq; exact .inl (ZmV (by omega))
  exact x1 q hq
 by_cases c7:Int.tmod z.part 9=7
 .have ht:=Zch ha.1 (show (0:Int)<2 by decide)
  have hlen:(s.eqs++constsF s.next 13).length=s.eqs.length+13:=by rw[List.length_append,Zik]
  obtain⟨d,hd,d1⟩:∃ d:Nat,(s.eqs.length:Int)+1-Int.tmod z.at' 2=(d:Int)/\d<=s.eqs.length+1/\s.eqs.length<=d:=⟨((s.eqs.length:Int)+1-Int.tmod z.at' 2).toNat,by omega,by omega,by omega⟩
  refine⟨⟨s.vars,(s.eqs++constsF s.next 13).drop d,s.neqs,s.next+20⟩,pre (Cq.wp.no c1 (Cq.wp.no c2 (Cq.wp.no c3 (Cq.wp.no c4 (Cq.wp.no c5 (Cq.wp.no c6 (Cq.wp.yes c7 ?_))))))),⟨⟨by show (List.drop _ _).length<=1000; rw[List.length_drop,hlen]; omega,fun q hq=>?_⟩,⟨by show s.neqs.length<=1000; omega,x2⟩⟩,⟨.inl rfl,.inr (by show (List.drop _ _).length≠_; rw[List.length_drop,hlen]; omega),.inl rfl⟩⟩
  .refine Cq.Zk 13 (fun k st=>st=(s.eqs++constsF s.next k,(k:Int))) (fun k st hk hs=>?_) (fun st hs=>?_) (by show _=_; simp[constsF])
   .subst hs
    have hw:=Zo Zmj (x:=(k:Int)) (by omega) (by omega)
    rw[Bool.and_eq_true] at hw
    refine Cq.wp.yes (by omega) ⟨_,Zv hw.1,_,Zv hw.2,sm _ (by rw[List.length_append,List.length_append,Zik,List.length_singleton]; omega),?_⟩
    show _=_
    rw[wrapN (by omega),wrap64 (by omega),List.append_assoc]
    congr 2
    unfold constsF
    rw[List.range_succ,List.map_append]
    rfl
   subst hs
   refine Cq.wp.no (by decide) ?_
   show (Zai s z (s.eqs++constsF s.next 13)).Ret _
   unfold Zai
   have e1:i64.wrap (((s.eqs++constsF s.next 13).length:Int)-12)=(s.eqs.length:Int)+1:=by rw[hlen,wrap64 (by omega)]; omega
   have e2:i64.wrap ((s.eqs.length:Int)+1-i64.wrap (Int.tmod z.at' 2))=(d:Int):=by
    rw[wrap64 (x:=Int.tmod z.at' 2) (by omega),wrap64 (by omega)]; omega
   have e3:(if (0:Int)<(d:Int) then (d:Int) else 0)=(d:Int):=by split <;> omega
   rw[e1,e2,e3]
   refine⟨⟨by omega,by rw[hlen]; omega,by omega⟩,?_⟩
   show _=_
   have e4:(s.eqs++constsF s.next 13).take ((s.eqs++constsF s.next 13).length:Int).toNat=s.eqs++constsF s.next 13:=by rw[Int.toNat_natCast,List.take_length]
   rw[e4,wrap64 (by omega),Int.toNat_natCast]
   rfl
  rcases List.mem_append.1 (List.mem_of_mem_drop hq) with hq|hq
  .exact x1 q hq
  obtain⟨i,hi,rfl⟩:=List.mem_map.1 hq
  rw[List.mem_range] at hi
  exact .inl (Znv (by omega))
 by_cases c8:Int.tmod z.part 9=8
 .refine⟨⟨s.vars,s.eqs++[(⟨s.next,badP⟩:Zb)],s.neqs,s.next+1⟩,pre (Cq.wp.no c1 (Cq.wp.no c2 (Cq.wp.no c3 (Cq.wp.no c4 (Cq.wp.no c5 (Cq.wp.no c6 (Cq.wp.no c7 (Cq.wp.yes c8 ⟨ratI 0,Cq.Ret.Zw 20 (by decide +kernel),sm _ (by rw[List.nil_append,List.length_append,List.length_singleton]; omega),?_⟩)))))))),⟨⟨by show (s.eqs++[_]).length<=1000; rw[List.length_append,List.length_singleton]; omega,snocX x1 (.inr rfl)⟩,⟨by show s.neqs.length<=1000; omega,x2⟩⟩,⟨.inl rfl,Zez _ _,.inl rfl⟩⟩
  show _=_
  rw[wrap64 (by omega)]
  rfl
 exact⟨s,pre (Cq.wp.no c1 (Cq.wp.no c2 (Cq.wp.no c3 (Cq.wp.no c4 (Cq.wp.no c5 (Cq.wp.no c6 (Cq.wp.no c7 (Cq.wp.no c8 rfl)))))))),⟨⟨by omega,x1⟩,⟨by omega,x2⟩⟩,⟨.inl rfl,.inl rfl,.inl rfl⟩⟩
end Go.EL

namespace Go.EL
open Go.IntKind (i8 i16 i32 i64 u8 u16 u32 u64)
open Go Go.RowKit
theorem Zm7{q:Zb}(h:PolOk q.p):(Zc5 q q).Ret true:=by
 refine Cq.wp.yes rfl ⟨true,?_,rfl⟩
 have:=Zem h.good h.good
 rw[Zbl] at this
 exact this
theorem Zjt{p:Pol}(h:PolOk p):(Zbh p p).Ret true:=by
 have:=Zib h.good h.good
 rw[Zbl] at this
 exact this
theorem Zim{a b:List Zb}(h:EqL a b)(hl:a.length<=100)(hp:∀ q ∈ a,PolOk q.p):(Zn a b).Ret (decide (a.length=b.length)):=by
 by_cases e:a.length=b.length
 .rcases h with rfl|h
  .rw[decide_eq_true e]
   refine Cq.wp.no (by omega) ?_
   refine Cq.Zk a.length (fun k s=>s=(k:Int)) (fun k s hk hs=>?_) (fun s hs=>?_) rfl
   .subst hs
    exact Cq.wp.yes (by omega) ⟨_,idxN hk,_,idxN hk,_,Zm7 (hp _ (List.getElem_mem hk)),Cq.wp.no (by decide) (wrapN (by omega))⟩
   subst hs
   exact Cq.wp.no (by omega) rfl
  exact absurd e h
 rw[decide_eq_false e]
 exact Cq.wp.yes (by omega) rfl
theorem Zhc{a b:List Zb}(h:EqL a b)(hl:a.length<=100)(hp:∀ q ∈ a,PolOk q.p):(Zcq a b).Ret (decide (a.length=b.length)):=by
 by_cases e:a.length=b.length
 .rcases h with rfl|h
  .rw[decide_eq_true e]
   refine Cq.wp.no (by omega) ?_
   refine Cq.Zk a.length (fun k s=>s=(k:Int)) (fun k s hk hs=>?_) (fun s hs=>?_) rfl
   .subst hs
    exact Cq.wp.yes (by omega) ⟨_,idxN hk,_,idxN hk,Cq.wp.no (fun h=>h rfl) ⟨_,idxN hk,_,idxN hk,_,Zjt (hp _ (List.getElem_mem hk)),Cq.wp.no (by decide) (wrapN (by omega))⟩⟩
   subst hs
   exact Cq.wp.no (by omega) rfl
  exact absurd e h
 rw[decide_eq_false e]
 exact Cq.wp.yes (by omega) rfl
theorem ZmU{a b:List ByteArray}(h:EqL a b)(hl:a.length<=100):(Zaa a b).Ret (decide (a.length=b.length)):=by
 by_cases e:a.length=b.length
 .rcases h with rfl|h
  .rw[decide_eq_true e]
   refine Cq.wp.no (by omega) ?_
   refine Cq.Zk a.length (fun k s=>s=(k:Int)) (fun k s hk hs=>?_) (fun s hs=>?_) rfl
   .subst hs
    exact Cq.wp.yes (by omega) ⟨_,idxN hk,_,idxN hk,Cq.wp.no (fun h=>h rfl) (wrapN (by omega))⟩
   subst hs
   exact Cq.wp.no (by omega) rfl
  exact absurd e h
 rw[decide_eq_false e]
 exact Cq.wp.yes (by omega) rfl
def sameB(a b:Zg):Bool:=decide (a.next=b.next) && (decide (a.vars.length=b.vars.length) && (decide (a.eqs.length=b.eqs.length) && decide (a.neqs.length=b.neqs.length)))
theorem Zms{a b:Zg}(ha:Good a)(h:RelS a b):(Ze4 a b).Ret (sameB a b):=by
 have hv:=ha.vars
 have l1:=ha.eqs.len
 have l2:=ha.neqs.len
 unfold sameB
 by_cases c1:a.next=b.next
 .rw[decide_eq_true c1,Bool.true_and]
  refine Cq.wp.yes c1 ⟨_,ZmU h.vars (by omega),?_⟩
  cases e1:decide (a.vars.length=b.vars.length) with
  | false=>exact rfl
  | true=>
   refine⟨_,Zim h.eqs (by omega) (fun q hq=>(ha.eqs.pol q hq).1),?_⟩
   cases e2:decide (a.eqs.length=b.eqs.length) with
   | false=>exact rfl
   | true=>exact⟨_,Zim h.neqs (by omega) (fun q hq=>(ha.neqs.pol q hq).1),rfl⟩
 rw[decide_eq_false c1]
 exact Cq.wp.no c1 rfl
theorem ZlN{a b:Zg}(ha:Good a)(h:RelS a b):(ZhE a b).Ret (sameB a b):=by
 have hv:=ha.vars
 have l1:=ha.eqs.len
 have l2:=ha.neqs.len
 unfold sameB
 by_cases c2:a.vars.length=b.vars.length
 .refine Cq.wp.no (by omega) ?_
  by_cases c1:a.next=b.next
  .rw[decide_eq_true c1,decide_eq_true c2,Bool.true_and,Bool.true_and]
   refine Cq.wp.no (fun h=>h c1) ⟨_,Zhc h.eqs (by omega) (fun q hq=>(ha.eqs.pol q hq).1),?_⟩
   cases e2:decide (a.eqs.length=b.eqs.length) with
   | false=>exact rfl
   | true=>
    refine⟨_,Zhc h.neqs (by omega) (fun q hq=>(ha.neqs.pol q hq).1),?_⟩
    cases e3:decide (a.neqs.length=b.neqs.length) with
    | false=>exact Cq.wp.yes (by decide) rfl
    | true=>
     refine Cq.wp.no (by decide) ?_
     have hvv:a.vars=b.vars:=h.vars.resolve_right fun h=>h c2
     refine Cq.Zk a.vars.length (fun k s=>s=(k:Int)) (fun k s hk hs=>?_) (fun s hs=>?_) rfl
     .subst hs
      refine Cq.wp.yes (by omega) ⟨_,idxN hk,a.vars[k],⟨by omega,?_⟩,Cq.wp.no (fun h=>h rfl) (wrapN (by omega))⟩
      rw[<- hvv]
      exact (idxN hk).2
     subst hs
     exact Cq.wp.no (by omega) rfl
  rw[decide_eq_false c1]
  exact Cq.wp.yes c1 rfl
 rw[decide_eq_false c2,Bool.false_and,Bool.and_false]
 exact Cq.wp.yes (by omega) rfl
def findL(l:List Zb)(id:Int)(b:Bool):Option (Zb×Bool×Bool):=(l.find? fun q=>decide (q.id=id)).map fun q=>(q,b,true)
def findF(s:Zg)(id:Int):Zb×Bool×Bool:=((findL s.eqs id false).orElse fun _=>findL s.neqs id true).getD (⟨0,[]⟩,false,false)
theorem ZiW{l:List Zb}{id:Int}{b:Bool}(h:∀ i (h:i<l.length),l[i].id≠id):findL l id b=none:=by
 unfold findL
 rw[List.find?_eq_none.2 fun q hq=>by
  obtain⟨i,hi,rfl⟩:=List.getElem_of_mem hq
  simpa using h i hi]
 rfl
theorem ZhI{l:List Zb}{id:Int}{b:Bool}{k:Nat}(hk:k<l.length)(e:l[k].id=id)(h:∀ i (h:i<l.length),i<k->l[i].id≠id):findL l id b=some (l[k],b,true):=by
 unfold findL
 have:l.find? (fun q=>decide (q.id=id))=some l[k]:=by
  rw[List.find?_eq_some_iff_append]
  refine⟨by simpa using e,l.take k,l.drop (k+1),?_,fun q hq=>?_⟩
  .rw[<- List.drop_eq_getElem_cons hk,List.take_append_drop]
  obtain⟨i,hi,rfl⟩:=List.getElem_of_mem hq
  rw[List.length_take] at hi
  rw[List.getElem_take]
  simpa using h i (by omega) (by omega)
 rw[this]
 rfl
theorem Zmr{s:Zg}(l1:s.eqs.length<=100)(l2:s.neqs.length<=100)(id:Int):(Ze3 s id).Ret (findF s id):=by
 have inner:∀ (l:List Zb) (v:Int) (z:Zb),l.length<=100->(ZbF id v l (0,z)).wp fun o=>match o with | .inl r=>findL l id (decide (v=1))=some r | .inr z'=>z'=z/\findL l id (decide (v=1))=none:=fun l v z hl=>by
  refine Cq.Zk l.length (fun k st=>st=((k:Int),z)/\∀ i (h:i<l.length),i<k->l[i].id≠id) ?_ ?_ ⟨rfl,fun _ _ h=>absurd h (Nat.not_lt_zero _)⟩
  .rintro k st hk ⟨rfl,hn⟩
   refine Cq.wp.yes (by omega) ⟨_,idxN hk,?_⟩
   by_cases e:l[k].id=id
   .exact Cq.wp.yes e (ZhI hk e hn)
   refine Cq.wp.no e ⟨by rw[wrapN (by omega)],fun i hi hik=>?_⟩
   by_cases e':i=k
   .subst e'; exact e
   exact hn i hi (by omega)
  rintro st ⟨rfl,hn⟩
  exact Cq.wp.no (by omega) ⟨rfl,ZiW fun i hi=>hn i hi hi⟩
 refine (Zfk s id (0,⟨0,[]⟩)).mono (p:=fun o=>match o with | .inl r=>r=findF s id | .inr _=>findF s id=(⟨0,[]⟩,false,false)) (fun o h=>?_) (Cq.Zk 2 (fun k st=>st=((k:Int),⟨0,[]⟩)/\(1<=k->findL s.eqs id false=none)/\(2<=k->findL s.neqs id true=none)) ?_ ?_ ⟨rfl,fun h=>absurd h (by omega),fun h=>absurd h (by omega)⟩)
 .match o,h with
  | .inl r,h=>exact h
  | .inr _,h=>exact h.symm
 .rintro k st hk ⟨rfl,h1,h2⟩
  rcases (show k=0\/k=1 by omega) with rfl|rfl
  .refine Cq.wp.yes (by show (0:Int)<2; decide) ⟨s.eqs,⟨by omega,rfl⟩,?_⟩
   refine (ZbF id _ s.eqs _).mono (fun o h=>?_) (inner s.eqs ((0:Nat):Int) ⟨0,[]⟩ l1)
   match o,h with
   | .inl r,h=>
    have h:findL s.eqs id false=some r:=h
    show r=findF s id
    unfold findF
    rw[h]; rfl
   | .inr z,⟨hz,h⟩=>
    subst hz
    exact⟨rfl,fun _=>h,fun h=>absurd h (by omega)⟩
  refine Cq.wp.yes (by show (1:Int)<2; decide) ⟨s.neqs,⟨by omega,rfl⟩,?_⟩
  refine (ZbF id _ s.neqs _).mono (fun o h=>?_) (inner s.neqs ((1:Nat):Int) ⟨0,[]⟩ l2)
  match o,h with
  | .inl r,h=>
   have h:findL s.neqs id true=some r:=h
   show r=findF s id
   unfold findF
   rw[h1 (Nat.le_refl 1),h]; rfl
  | .inr z,⟨hz,h⟩=>
   subst hz
   exact⟨rfl,fun _=>h1 (Nat.le_refl 1),fun _=>h⟩
 rintro st ⟨rfl,h1,h2⟩
 refine Cq.wp.no (by show ¬ (2:Int)<2; decide) ?_
 show findF s id=_
 unfold findF
 rw[h1 (by omega),h2 (by omega)]; rfl
theorem Zmn{s:Zg}(l1:s.eqs.length<=100)(l2:s.neqs.length<=100)(id:Int):(ZhD s id).Ret (findF s id):=by
 refine (Zg8 s id (0,⟨0,[]⟩)).mono (p:=fun o=>match o with | .inl r=>r=findF s id | .inr z=>z=⟨0,[]⟩/\findL s.eqs id false=none) (fun o h=>?_) (Cq.Zk s.eqs.length (fun k st=>st=((k:Int),⟨0,[]⟩)/\∀ i (h:i<s.eqs.length),i<k->s.eqs[i].id≠id) ?_ ?_ ⟨rfl,fun _ _ h=>absurd h (Nat.not_lt_zero _)⟩)
 .match o,h with
  | .inl r,h=>exact h
  | .inr z,⟨hz,h1⟩=>
   subst hz
   show (Zc8 s id ⟨0,[]⟩).Ret _
   refine (Zg7 s id (0,⟨0,[]⟩)).mono (p:=fun o=>match o with | .inl r=>r=findF s id | .inr _=>findF s id=(⟨0,[]⟩,false,false)) (fun o h=>?_) (Cq.Zk s.neqs.length (fun k st=>st=((k:Int),⟨0,[]⟩)/\∀ i (h:i<s.neqs.length),i<k->s.neqs[i].id≠id) ?_ ?_ ⟨rfl,fun _ _ h=>absurd h (Nat.not_lt_zero _)⟩)
   .match o,h with
    | .inl r,h=>exact h
    | .inr _,h=>exact h.symm
   .rintro k st hk ⟨rfl,hn⟩
    refine Cq.wp.yes (by omega) ⟨_,idxN hk,?_⟩
    by_cases e:s.neqs[k].id=id
    .refine Cq.wp.yes e ⟨_,idxN hk,?_⟩
     show _=findF s id
     unfold findF
     rw[h1,ZhI hk e hn]; rfl
    refine Cq.wp.no e ⟨by rw[wrapN (by omega)],fun i hi hik=>?_⟩
    by_cases e':i=k
    .subst e'; exact e
    exact hn i hi (by omega)
   rintro st ⟨rfl,hn⟩
   refine Cq.wp.no (by omega) ?_
   show findF s id=_
   unfold findF
   rw[h1,ZiW fun i hi=>hn i hi hi]; rfl
 .rintro k st hk ⟨rfl,hn⟩
  refine Cq.wp.yes (by omega) ⟨_,idxN hk,?_⟩
  by_cases e:s.eqs[k].id=id
  .refine Cq.wp.yes e ⟨_,idxN hk,?_⟩
   show _=findF s id
   unfold findF
   rw[ZhI hk e hn]; rfl
  refine Cq.wp.no e ⟨by rw[wrapN (by omega)],fun i hi hik=>?_⟩
  by_cases e':i=k
  .subst e'; exact e
  exact hn i hi (by omega)
 rintro st ⟨rfl,hn⟩
 exact Cq.wp.no (by omega) ⟨rfl,ZiW fun i hi=>hn i hi hi⟩
theorem ZnA{s:Zg}(h:Good s)(id:Int):PolOk (findF s id).1.p:=by
 have key:∀ {l:List Zb}{b:Bool}{r:Zb×Bool×Bool},findL l id b=some r->r.1 ∈ l:=fun {l b r} hr=>by
  unfold findL at hr
  cases hf:l.find? fun q=>decide (q.id=id) with
  | none=>rw[hf] at hr; cases hr
  | some q=>
   rw[hf] at hr
   cases hr
   exact List.mem_of_find?_eq_some hf
 unfold findF
 cases h1:findL s.eqs id false with
 | some r=>exact (h.eqs.pol _ (key h1)).1
 | none=>
  cases h2:findL s.neqs id true with
  | some r=>exact (h.neqs.pol _ (key h2)).1
  | none=>exact nilOk
theorem Zdz{x:Zq}{z:ZD}{id:Int}(hx:Raw32Ok x)(hz:(0<=z.part/\z.part<=255)/\0<=z.at'/\z.at'<=255)(_:-9223372036854775808<=id/\id<=9223372036854775807):(ZaK x z id).Ret true:=by
 obtain⟨hg,hl⟩:=Zl2 hx
 obtain⟨s,hs,sx,hrel⟩:=ZlR hg hl hz.1 hz.2
 refine⟨true,Zkf,Cq.wp.no (by decide) ⟨_,Zh0 hx,s,hs,?_⟩⟩
 rcases ZgW (Zmt sx) with ⟨h,hr⟩|⟨h,hr⟩
 .obtain⟨p1,p2⟩:=h.polys
  have l1:=h.eqs.len
  have l2:=h.neqs.len
  refine⟨_,Znn h,_,ZlK h,_,hr,_,Zdy h,Cq.wp.no (fun h=>h rfl) ⟨true,Zjb (Zl4 p1 p2).1,Cq.wp.no (by decide) ?_⟩⟩
  refine⟨_,Zdy h,Cq.wp.no (by decide) ⟨_,Zmr (by omega) (by omega) id,_,Zmn (by omega) (by omega) id,_,Zh0 hx,Cq.wp.yes rfl (Cq.wp.yes rfl (Cq.wp.yes rfl ⟨_,Zjt (ZnA h id),_,Zms h hrel,_,ZlN h hrel,Cq.wp.yes rfl rfl⟩))⟩⟩
 rcases ZgW (Zmq sx) with ⟨h',hr'⟩|⟨_,hr'⟩
 .exact absurd h' h
 refine⟨(zeroK,320),⟨_,hr,Cq.wp.yes (by decide) rfl⟩,(zeroK,320),⟨_,hr',Cq.wp.yes (by decide) rfl⟩,_,hr,_,hr',Cq.wp.no (fun h=>h rfl) ⟨true,Zjb Writ.zero,Cq.wp.no (by decide) ?_⟩⟩
 exact⟨_,hr',Cq.wp.yes (by decide) rfl⟩
end Go.EL

