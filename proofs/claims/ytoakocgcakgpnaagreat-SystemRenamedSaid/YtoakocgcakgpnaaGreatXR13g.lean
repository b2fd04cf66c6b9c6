/- The law SystemRenamed holds for every input: a part of its proof (what the code does, plain models, and what they return). No condition. -/
import Derived.Test.YtoakocgcakgpnaaGreatXR13f
import Derived.Test.YtoakocgcakgpnaaGreatXR13d
set_option linter.unusedVariables false
set_option linter.unusedSimpArgs false
namespace Go.Proofs.YtoakocgcakgpnaaGreat
open Go.IntKind (i8 i16 i32 i64 u8 u16 u32 u64)
open Go.Proofs.Tryz
open Go Go.EL Go.RowKit Go.Proofs
theorem eI'{M ac af r}(hr:(Zfe M).Ret r):Ctr prog 102 #[.slice ac M.length af] (fun G=>sl a' G ac af M) (wl' a' r):=by
 refine H' (args:=[_]) (N:=101) func102 z z z (fun w0 G0 cW cK=>?_)
 have x:=cK
 refine sr<|sx0 z z<|g'<|sr<|mv z z<|yy (O' C' x z) z<|yy (aH' z z) z<|nx<|P' hr z (fun dn hr=>?_) (fun dn hr=>?_)
 .refine sr<|aF' (e:=119) (r:=a') (vs:=#[]) (cs:=[]) ([]:List Za) z z z z z (by decide) (fun _=>by kernel_rfl) (z) (key:=999) z (by rw[cW]; rfl) fun p1 dX dz c8=>sx0 z z<|k'<|f' ?_
  obtain rfl:_=r:=hr
  exact j' z z ⟨_,_,z,c8⟩
 refine n'<|b'<|sr ?_
 obtain⟨de,cE,hr⟩:=hr
 refine N' z z (m' E61 z) (di' cE) z (trivial) (fun dM dT A bB=>?_)
 obtain⟨bH,bx,rfl,bz⟩:=bB
 obtain⟨a8,cF,hr⟩:=hr
 refine N' z z (m' E61 z) (di' cF) z (trivial) (fun dK bW y bJ=>?_)
 obtain⟨av,ax,rfl,bE⟩:=bJ
 refine X' 3 z z57 z fun b1=>X' 4 z z57 z fun b2=>B' 3 z bn' z z z z z (List.all_eq_true.1 z)<|B' 4 z bn' z z z z z (List.all_eq_true.1 z)<|nx<|g'<|sr<|sx0 z z<|ab' (fun (⟨ag,H,I,au⟩:Zb×Option Addr×Nat×Mem)=>[(0,.slice ac M.length af),(3,pt0 b1),(4,pt0 b2)]) (fun ⟨ag,H,I,au⟩=>Mem.le bW au/\sl (Rp.int .u32) au H I ag.mag/\(ZbK M a8 ag).Ret r) (fun ⟨ag,H,I,au⟩=>St w0 G0 au [(3,bk0 b1 (v57' ag H I) 57),(4,bk0 b2 (v57' a8 av ax) 57)]) ?_ ?_
 .refine y' ?_
  let bY:Zb->Prop:=fun oo=>((fun ov=>match ov with|ag=>ZbK M a8 ag:Zb->Cq (List Za)) oo).wp (fun a=>a=r)
  replace hr:(Cq.loop _ _).wp bY:=hr
  refine ac' (Φ:=bY) (fun (⟨ar,aA,L,F,ay⟩:Int×Zb×Option Addr×Nat×Mem)=>((ar,aA):Int×Zb)) (fun ⟨ar,aA,L,F,ay⟩=>[(0,.slice ac M.length af),(3,pt0 b1),(4,pt0 b2),(5,i' ar)]) (fun ⟨ar,aA,L,F,ay⟩=>Mem.le bW ay/\sl (Rp.int .u32) ay L F aA.mag) (fun ⟨ar,aA,L,F,ay⟩=>St w0 G0 ay [(3,bk0 b1 (v57' aA L F) 57),(4,bk0 b2 (v57' a8 av ax) 57)]) ⟨0,de,bH,bx,bW⟩ hr (f4 z z z z) ⟨mr,(bz.mono y)⟩ (w2 z z) ?_
  .intro dQ gx hx hr
   obtain⟨ar,aA,L,F,ay⟩:=gx
   obtain⟨ad,aw⟩:=hx
   refine g'<|sr<|mv z z<|mv z z<|yy (O' C' (x.mono (mx (mx A y) ad)) z) z<|yy (aa' z z) z<|nx<|P' hr z (fun c4 hr=>?_) (fun c4 hr=>?_)
   .refine n'<|b'<|g'<|y'<|g'<|ak' [ff,ff,ff,ff,ff,ff,ff,ff,ff,ff,ff,ff,ff,ff,ff,ff,ff,tt,tt,ff,ff] mix (by kernel_rfl) fun hb=>cn (fun _ g=>c' z)<|cn (fun _ g=>c' z) ?_
    obtain⟨x4,ck,hr⟩:=hr
    refine cn (fun _ g=>V' C' aW' ((x.mono (mx (mx A y) ad)).mono g) z z ck)<|cn (fun _ g=>aV' z)<|cn (fun _ g=>aY' z) ?_
    obtain⟨dg,cP,c2,b9⟩:=ea' (J' (bq' (aG' (br' (aG' (Z' x ck))))) (mx (mx A y) ad))
    refine cn (fun _ g=>ao' _ at' z z (fun j v hv=>g _ _ _ (c2 j v hv)))<|cn (fun _ g=>D' 3 at' z z z)<|cn (fun _ g=>c' z)<|cn (fun _ g=>c' z) ?_
    obtain⟨x5,cm,hr⟩:=hr
    refine cn (fun _ g=>V' C' aW' ((x.mono (mx (mx A y) ad)).mono g) z z cm)<|cn (fun _ g=>aV' z)<|cn (fun _ g=>aY' z) ?_
    obtain⟨c9,cT,c0,bM⟩:=ea' (J' (bq' (aG' (br' (aG' (Z' x cm))))) (mx (mx A y) ad))
    refine cn (fun _ g=>ao' _ at' z z (fun j v hv=>g _ _ _ (c0 j v hv))) ?_
    obtain⟨bS,ce,hr⟩:=hr
    refine az' (post:=w57' bS) (fun _=>z) (fun _ _=>m' E120 z) (em' ce) z (fun Y g=>⟨(aw.mono g),(bM.mono g)⟩) (fun v G1 G2 g h=>?_) ?_
    .obtain⟨aG,aL,rfl,ae⟩:=h
     exact⟨_,_,z,ae.mono g⟩
    obtain⟨i,ch,hr⟩:=hr
    refine bJ' (f:=158) (φ:=fun G v=>∃ l n o m,v = .tuple #[.agg ((v57' i.1 l n)).toArray,.agg ((v57' i.2.1 o m)).toArray,i' i.2.2]/\sl (Rp.int .u32) G l n i.1.mag/\sl (Rp.int .u32) G o m i.2.1.mag) (fun _=>z) (fun v G1 G2 g h=>?_) (fun u Y g hu=>?_) ?_
    .obtain⟨l,n,o,m,rfl,S,T⟩:=h
     exact⟨_,_,_,_,z,S.mono g,T.mono g⟩
    .obtain⟨⟨aG,aL,bO,ae⟩,_⟩:=(show (w57' bS) Y.m (u 43)/\True from hu)
     exact⟨_,_,_,fun _=>m' E158 z,eg' ch,(by simp only[bO] <;> rfl),⟨(b9.mono g),ae⟩⟩
    refine bF' (φ:=fun G v=>∃ p6 O p7 R,v = .tuple #[.agg ((v57' i.1 p6 O)).toArray,.agg ((v57' i.2.1 p7 R)).toArray,i' i.2.2]/\sl (Rp.int .u32) G p6 O i.1.mag/\sl (Rp.int .u32) G p7 R i.2.1.mag) (fun _=>z) (fun v G1 G2 g h=>?_) (fun u Y g hu=>?_) ?_
    .obtain⟨p6,O,p7,R,rfl,aO,aQ⟩:=h
     exact⟨_,_,_,_,z,aO.mono g,aQ.mono g⟩
    .obtain⟨⟨l,n,o,m,bT,S,T⟩,_,_⟩:=(show (fun G v=>∃ l n o m,v = .tuple #[.agg ((v57' i.1 l n)).toArray,.agg ((v57' i.2.1 o m)).toArray,i' i.2.2]/\sl (Rp.int .u32) G l n i.1.mag/\sl (Rp.int .u32) G o m i.2.1.mag) Y.m (u 44)/\True/\True from hu)
     simp only[undFr,bT]
     exact⟨_,c' z,l,n,o,m,z,S,T⟩
    refine bF' (φ:=w57' i.1) (fun _=>z) (fun v G1 G2 g h=>?_) (fun u Y g hu=>?_) ?_
    .obtain⟨p8,dl,rfl,bL⟩:=h
     exact⟨_,_,z,bL.mono g⟩
    .obtain⟨⟨p6,O,p7,R,aa,aO,aQ⟩,_,_,_⟩:=(show (fun G v=>∃ p6 O p7 R,v = .tuple #[.agg ((v57' i.1 p6 O)).toArray,.agg ((v57' i.2.1 p7 R)).toArray,i' i.2.2]/\sl (Rp.int .u32) G p6 O i.1.mag/\sl (Rp.int .u32) G p7 R i.2.1.mag) Y.m (u 29)/\True/\True/\True from hu)
     simp only[undFr,aa]
     exact⟨_,R' z z,p6,O,z,aO⟩
    refine dW' (kk:=29) (φ:=w57' i.2.1) (by kernel_rfl) (fun _=>z) (fun v G1 G2 g h=>?_) (fun u Y g hu=>?_) ?_
    .obtain⟨p9,c3,rfl,cl⟩:=h
     exact⟨_,_,z,cl.mono g⟩
    .obtain⟨_,⟨p6,O,p7,R,aa,aO,aQ⟩,_,_,_⟩:=(show True/\(fun G v=>∃ p6 O p7 R,v = .tuple #[.agg ((v57' i.1 p6 O)).toArray,.agg ((v57' i.2.1 p7 R)).toArray,i' i.2.2]/\sl (Rp.int .u32) G p6 O i.1.mag/\sl (Rp.int .u32) G p7 R i.2.1.mag) Y.m (u 29)/\True/\True/\True from hu)
     exact⟨_,_,aa,(by simp only[undFr,aa] <;> rfl),z,p7,R,z,aQ⟩
    refine cI' (c:=i' i.2.2) (fun _=>z) (fun u Y g hu=>?_) ?_
    .obtain⟨_,_,⟨p6,O,p7,R,aa,aO,aQ⟩,_,_,_⟩:=(show True/\True/\(fun G v=>∃ p6 O p7 R,v = .tuple #[.agg ((v57' i.1 p6 O)).toArray,.agg ((v57' i.2.1 p7 R)).toArray,i' i.2.2]/\sl (Rp.int .u32) G p6 O i.1.mag/\sl (Rp.int .u32) G p7 R i.2.1.mag) Y.m (u 29)/\True/\True/\True from hu)
     simp only[undFr,aa]
     exact R' z z
    refine bN' (fun _=>z) z57<|bN' (fun _=>z) z57<|Chain.tailX7 (fun dV dR dx dw du dr dv X2 bZ bR aH bd bm bq bp bn=>?_)
    obtain⟨p9,c3,rfl,cl⟩:=bd
    obtain⟨p8,dl,rfl,bL⟩:=bm
    obtain⟨p6,O,p7,R,rfl,aO,aQ⟩:=bq
    obtain⟨l,n,o,m,rfl,S,T⟩:=bp
    obtain⟨aG,aL,rfl,ae⟩:=bn
    refine dT' bR (fun b7 cQ c1=>?_)
    subst cQ
    replace aH:=Laid.drop aH (by decide) c1
    refine dT' aH (fun b6 da dW=>?_)
    subst da
    refine ds' (show WL _ _ _ _ _ _ (St w0 G0 X2.m _) from ?_)
    refine B' 6 z bn' z z z z z (List.all_eq_true.1 z)<|B' 7 z bn' z z z z z (List.all_eq_true.1 z)<|sg z z<|q'<|am'<|b'<|x'<|yy (D' 3 at' z z z) z<|yy (D' 6 at' z z z) z ?_
    obtain⟨cH,cd,hr⟩:=hr
    refine N' z z (m' E63 z) (cJ' cd) z (⟨(aw.mono bZ),bL⟩) (fun dp cz bP bg=>?_)
    obtain⟨bl,bj,rfl,bi⟩:=bg
    refine B' 3 z bn' z z z z z (List.all_eq_true.1 z)<|q'<|F'<|b'<|x'<|mv z z<|yy (W' z z) z<|sg z z<|q'<|T' ⟨i64.wrap (ar+1),cH,bl,bj,cz⟩ hr ⟨(mx (mx ad bZ) bP),bi⟩ (f4 z z z z) (w2 z z)
   refine ae'<|h'<|h'<|I'<|af' ⟨aA,L,F,ay⟩ ⟨ad,aw,hr⟩ (f3 z z z) (w2 z z)
 rintro⟨ag,H,I,au⟩ ⟨U,aR,hr⟩
 refine b'<|g'<|sr<|sx0 z z<|ab' (fun (⟨aC,ab,Z,aU⟩:Zb×Option Addr×Nat×Mem)=>[(0,.slice ac M.length af),(3,pt0 b1),(4,pt0 b2)]) (fun ⟨aC,ab,Z,aU⟩=>Mem.le au aU/\sl (Rp.int .u32) aU ab Z aC.mag/\(ZaT M ag aC).Ret r) (fun ⟨aC,ab,Z,aU⟩=>St w0 G0 aU [(3,bk0 b1 (v57' ag H I) 57),(4,bk0 b2 (v57' aC ab Z) 57)]) ?_ ?_
 .refine y' ?_
  let bV:Zb->Prop:=fun oo=>((fun ov=>match ov with|aC=>ZaT M ag aC:Zb->Cq (List Za)) oo).wp (fun a=>a=r)
  replace hr:(Cq.loop _ _).wp bV:=hr
  refine ac' (Φ:=bV) (fun (⟨ap,aB,J,K,az⟩:Int×Zb×Option Addr×Nat×Mem)=>((ap,aB):Int×Zb)) (fun ⟨ap,aB,J,K,az⟩=>[(0,.slice ac M.length af),(3,pt0 b1),(4,pt0 b2),(9,i' ap)]) (fun ⟨ap,aB,J,K,az⟩=>Mem.le au az/\sl (Rp.int .u32) az J K aB.mag) (fun ⟨ap,aB,J,K,az⟩=>St w0 G0 az [(3,bk0 b1 (v57' ag H I) 57),(4,bk0 b2 (v57' aB J K) 57)]) ⟨0,a8,av,ax,au⟩ hr (f4 z z z z) ⟨mr,(bE.mono U)⟩ (w2 z z) ?_
  .intro dS gx hx hr
   obtain⟨ap,aB,J,K,az⟩:=gx
   obtain⟨X,aP⟩:=hx
   refine g'<|sr<|mv z z<|mv z z<|yy (O' C' (x.mono (mx (mx (mx A y) U) X)) z) z<|yy (aa' z z) z<|nx<|P' hr z (fun db hr=>?_) (fun db hr=>?_)
   .refine n'<|b'<|g'<|y'<|g'<|ak' [ff,ff,ff,ff,ff,ff,ff,ff,ff,ff,tt,tt,ff,ff] mix (by kernel_rfl) fun hb=>cn (fun _ g=>D' 3 at' z z z)<|cn (fun _ g=>c' z)<|cn (fun _ g=>c' z) ?_
    obtain⟨x2,cj,hr⟩:=hr
    refine cn (fun _ g=>V' C' aW' ((x.mono (mx (mx (mx A y) U) X)).mono g) z z cj)<|cn (fun _ g=>aV' z)<|cn (fun _ g=>aY' z) ?_
    obtain⟨c5,dj,cM,bX⟩:=ea' (J' (bq' (aG' (br' (aG' (Z' x cj))))) (mx (mx (mx A y) U) X))
    refine cn (fun _ g=>ao' _ at' z z (fun j v hv=>g _ _ _ (cM j v hv))) ?_
    obtain⟨k,cJ,hr⟩:=hr
    refine az' (post:=fun G v=>∃ p s t q,v = .tuple #[.agg ((v57' k.1 p s)).toArray,.agg ((v57' k.2.1 t q)).toArray,i' k.2.2]/\sl (Rp.int .u32) G p s k.1.mag/\sl (Rp.int .u32) G t q k.2.1.mag) (fun _=>z) (fun _ _=>m' E158 z) (eg' cJ) z (fun Y g=>⟨((aR.mono X).mono g),(bX.mono g)⟩) (fun v G1 G2 g h=>?_) ?_
    .obtain⟨p,s,t,q,rfl,W,V⟩:=h
     exact⟨_,_,_,_,z,W.mono g,V.mono g⟩
    refine bF' (φ:=fun G v=>∃ p2 Q p3 P,v = .tuple #[.agg ((v57' k.1 p2 Q)).toArray,.agg ((v57' k.2.1 p3 P)).toArray,i' k.2.2]/\sl (Rp.int .u32) G p2 Q k.1.mag/\sl (Rp.int .u32) G p3 P k.2.1.mag) (fun _=>z) (fun v G1 G2 g h=>?_) (fun u Y g hu=>?_) ?_
    .obtain⟨p2,Q,p3,P,rfl,aT,aS⟩:=h
     exact⟨_,_,_,_,z,aT.mono g,aS.mono g⟩
    .obtain⟨⟨p,s,t,q,ca,W,V⟩,_⟩:=(show (fun G v=>∃ p s t q,v = .tuple #[.agg ((v57' k.1 p s)).toArray,.agg ((v57' k.2.1 t q)).toArray,i' k.2.2]/\sl (Rp.int .u32) G p s k.1.mag/\sl (Rp.int .u32) G t q k.2.1.mag) Y.m (u 65)/\True from hu)
     simp only[undFr,ca]
     exact⟨_,c' z,p,s,t,q,z,W,V⟩
    refine bF' (φ:=w57' k.1) (fun _=>z) (fun v G1 G2 g h=>?_) (fun u Y g hu=>?_) ?_
    .obtain⟨p4,cX,rfl,bQ⟩:=h
     exact⟨_,_,z,bQ.mono g⟩
    .obtain⟨⟨p2,Q,p3,P,ao,aT,aS⟩,_,_⟩:=(show (fun G v=>∃ p2 Q p3 P,v = .tuple #[.agg ((v57' k.1 p2 Q)).toArray,.agg ((v57' k.2.1 p3 P)).toArray,i' k.2.2]/\sl (Rp.int .u32) G p2 Q k.1.mag/\sl (Rp.int .u32) G p3 P k.2.1.mag) Y.m (u 57)/\True/\True from hu)
     simp only[undFr,ao]
     exact⟨_,R' z z,p2,Q,z,aT⟩
    refine dW' (kk:=57) (φ:=w57' k.2.1) (by kernel_rfl) (fun _=>z) (fun v G1 G2 g h=>?_) (fun u Y g hu=>?_) ?_
    .obtain⟨p5,cR,rfl,cv⟩:=h
     exact⟨_,_,z,cv.mono g⟩
    .obtain⟨_,⟨p2,Q,p3,P,ao,aT,aS⟩,_,_⟩:=(show True/\(fun G v=>∃ p2 Q p3 P,v = .tuple #[.agg ((v57' k.1 p2 Q)).toArray,.agg ((v57' k.2.1 p3 P)).toArray,i' k.2.2]/\sl (Rp.int .u32) G p2 Q k.1.mag/\sl (Rp.int .u32) G p3 P k.2.1.mag) Y.m (u 57)/\True/\True from hu)
     exact⟨_,_,ao,(by simp only[undFr,ao] <;> rfl),z,p3,P,z,aS⟩
    refine cI' (c:=i' k.2.2) (fun _=>z) (fun u Y g hu=>?_) ?_
    .obtain⟨_,_,⟨p2,Q,p3,P,ao,aT,aS⟩,_,_⟩:=(show True/\True/\(fun G v=>∃ p2 Q p3 P,v = .tuple #[.agg ((v57' k.1 p2 Q)).toArray,.agg ((v57' k.2.1 p3 P)).toArray,i' k.2.2]/\sl (Rp.int .u32) G p2 Q k.1.mag/\sl (Rp.int .u32) G p3 P k.2.1.mag) Y.m (u 57)/\True/\True from hu)
     simp only[undFr,ao]
     exact R' z z
    refine bN' (fun _=>z) z57<|bN' (fun _=>z) z57<|Chain.tailX6 (fun dZ d0 ds dL dA dH X1 a1 b8 aK bc bF bD bK=>?_)
    obtain⟨p5,cR,rfl,cv⟩:=bc
    obtain⟨p4,cX,rfl,bQ⟩:=bF
    obtain⟨p2,Q,p3,P,rfl,aT,aS⟩:=bD
    obtain⟨p,s,t,q,rfl,W,V⟩:=bK
    refine dT' b8 (fun b5 cZ dh=>?_)
    subst cZ
    replace aK:=Laid.drop aK (by decide) dh
    refine dT' aK (fun b4 dm dO=>?_)
    subst dm
    refine ds' (show WL _ _ _ _ _ _ (St w0 G0 X1.m _) from ?_)
    refine B' 10 z bn' z z z z z (List.all_eq_true.1 z)<|B' 11 z bn' z z z z z (List.all_eq_true.1 z)<|sg z z<|q'<|am'<|b'<|ak' [ff,ff,ff,ff,ff,ff,ff,ff,ff] mix (by kernel_rfl) fun hb=>cn (fun _ g=>D' 4 at' z z z)<|cn (fun _ g=>c' z)<|cn (fun _ g=>c' z) ?_
    obtain⟨x3,cp,hr⟩:=hr
    refine cn (fun _ g=>V' C' aW' ((x.mono (mx (mx (mx (mx A y) U) X) a1)).mono g) z z cp)<|cn (fun _ g=>aV' z)<|cn (fun _ g=>bk' z) ?_
    obtain⟨dd,di,cY,bU⟩:=ea' (J' (br' (aG' (br' (aG' (Z' x cp))))) (mx (mx (mx (mx A y) U) X) a1))
    refine cn (fun _ g=>ao' _ at' z z (fun j v hv=>g _ _ _ (cY j v hv)))<|cn (fun _ g=>D' 10 at' z z z) ?_
    obtain⟨b0,cf,hr⟩:=hr
    refine az' (post:=w57' b0) (fun _=>z) (fun _ _=>m' E63 z) (cJ' cf) z (fun Y g=>⟨(bU.mono g),(bQ.mono g)⟩) (fun v G1 G2 g h=>?_) ?_
    .obtain⟨bs,bv,rfl,aq⟩:=h
     exact⟨_,_,z,aq.mono g⟩
    refine bi' (d:=77) (post:=w57' b0) (fun dy dU bw bk=>?_)
    obtain⟨bs,bv,rfl,aq⟩:=bk
    obtain⟨cC,cc,hr⟩:=hr
    refine N' z z (m' E120 z) (em' cc) z (⟨(aP.mono (mx a1 bw)),aq⟩) (fun dq dc cg bh=>?_)
    obtain⟨bt,be,rfl,bf⟩:=bh
    refine B' 4 z bn' z z z z z (List.all_eq_true.1 z)<|q'<|am'<|F'<|b'<|x'<|mv z z<|yy (W' z z) z<|sg z z<|q'<|T' ⟨i64.wrap (ap+1),cC,bt,be,dc⟩ hr ⟨(mx (mx (mx X a1) bw) cg),bf⟩ (f4 z z z z) (w2 z z)
   refine ae'<|h'<|h'<|I'<|af' ⟨aB,J,K,az⟩ ⟨X,aP,hr⟩ (f3 z z z) (w2 z z)
 rintro⟨aC,ab,Z,aU⟩ ⟨aD,bG,hr⟩
 refine b'<|sr<|yy (D' 3 at' z z z) z<|yy (D' 4 at' z z z) z ?_
 obtain⟨c7,cI,hr⟩:=hr
 refine N' z z (m' E159 z) (gb' cI) z (⟨(aR.mono aD),bG⟩) (fun dC co a4 bI=>?_)
 obtain⟨aN,aI,aF,aM,rfl,aj,an⟩:=bI
 refine mv z z<|yy (R' z z) z<|yy (R' z z) z<|X' 13 z z59 z fun b3=>B' 13 z ch' z z z z z (List.all_eq_true.1 z)<|sx0 z z<|aO' (fun (⟨aJ,E,B,C,D,aE⟩:Zf×Option Addr×Nat×Option Addr×Nat×Mem)=>[(0,.slice ac M.length af),(13,pt0 b3)]) (fun ⟨aJ,E,B,C,D,aE⟩=>Mem.le co aE/\sl (Rp.int .u32) aE E B aJ.num.mag/\sl (Rp.int .u32) aE C D aJ.den.mag/\(Zdk M aJ).Ret r) (fun ⟨aJ,E,B,C,D,aE⟩=>St w0 G0 aE [(13,bk0 b3 (v59' aJ E B C D) 59)]) ?_ ?_
 .refine sr<|mv z z ?_
  obtain⟨x1,cw,hr⟩:=hr
  refine yy (V' C' aW' (x.mono (mx (mx (mx (mx A y) U) aD) a4)) z z cw) z<|yy (aV' z) z ?_
  obtain⟨cr,ct,cu,cq,cV,ba,a9⟩:=ce' (J' (br' (aG' (Z' x cw))) (mx (mx (mx (mx A y) U) aD) a4))
  refine yy (ao' _ bc' z z cV) z ?_
  obtain⟨d1,cG,hr⟩:=hr
  refine K' z z (m' E65 z) (cT' cG) z (⟨ba,a9⟩)<|yy (aa' z z) z<|nx<|P' hr z (fun c6 hr=>?_) (fun c6 hr=>?_)
  .refine x'<|yy (D' 13 bc' z z z) z ?_
   obtain⟨cS,cy,hr⟩:=hr
   refine N' z z (m' E160 z) (gc' cy) z (⟨aj,an⟩) (fun dB cU ci bA=>?_)
   obtain⟨aW,aZ,a5,a0,rfl,aY,a3⟩:=bA
   refine B' 13 z ch' z z z z z (List.all_eq_true.1 z)<|q'<|ax' ⟨cS,aW,aZ,a5,a0,cU⟩ ⟨ci,aY,a3,hr⟩ (f2 z z) (w1 z)
  refine n'<|ax' ⟨c7.1,aN,aI,aF,aM,co⟩ ⟨mr,aj,an,hr⟩ (f2 z z) (w1 z)
 rintro⟨aJ,E,B,C,D,aE⟩ ⟨cb,aV,a2,hr⟩
 refine sr<|yy (D' 13 bc' z z z) z<|yy (au' (vs:=#[]) (v:=.agg (vecG (Value.int .i64) 8 (fun _=>0)).toArray) z z (fun _=>by kernel_rfl)) z<|mv z z ?_
 obtain⟨dP,cx,hr⟩:=hr
 refine N' z z (m' E27 z) (da' cx) z (⟨aV,a2,(x.mono (mx (mx (mx (mx (mx A y) U) aD) a4) cb))⟩) (fun dI dY dt bC=>?_)
 obtain⟨dk,df,rfl,bN⟩:=bC
 refine mv z z<|yy (R' z z) z<|yy (R' z z) z<|sg z z<|sg z z<|nr<|mv z z<|sx0 z z<|k' ?_
 obtain rfl:_=r:=hr
 exact j' z z ⟨_,_,z,bN⟩
theorem ft'{p o l g j i k e c f r}(hr:(ZeQ p o).Ret r):Ctr prog 161 #[.agg ((v59' p l g j i)).toArray,.agg ((v59' o k e c f)).toArray] (fun G=>sl (Rp.int .u32) G l g p.num.mag/\sl (Rp.int .u32) G j i p.den.mag/\sl (Rp.int .u32) G k e o.num.mag/\sl (Rp.int .u32) G c f o.den.mag) (fun G v=>v=i' r):=by
 refine H' (args:=[_,_]) (N:=16) func161 z z z (fun w0 Y U J=>?_)
 obtain⟨u,q,s,t⟩:=J
 refine sr<|ai' 2 z z z fun b2=>ai' 3 z z z fun X=>sx0 z z<|g'<|ak' [ff,ff,ff,ff,ff,ff,ff,ff,ff] mix (by kernel_rfl) fun W=>cn (fun _ m=>bk' z)<|cn (fun _ m=>al' ((v57' p.num l g)).toArray 2 at' z z z (ap' ([]) ((v57' p.num l g)) ((v57' p.den j i))))<|cn (fun _ m=>aY' z)<|cn (fun _ m=>al' ((v57' o.den c f)).toArray 3 at' z z z (ap' ((v57' o.num k e)) ((v57' o.den c f)) ([]))) ?_
 obtain⟨F,K,hr⟩:=hr
 refine az' (post:=w57' F) (fun _=>z) (fun _ _=>m' E63 z) (cJ' K) z (fun V m=>⟨(u.mono m),(t.mono m)⟩) (fun v G1 Z m h=>?_) ?_
 .obtain⟨y,A,rfl,n⟩:=h
  exact⟨_,_,z,n.mono m⟩
 refine cu (fun _ _ m=>bk' z)<|cu (fun _ _ m=>al' ((v57' o.num k e)).toArray 3 at' z z z (ap' ([]) ((v57' o.num k e)) ((v57' o.den c f))))<|cu (fun _ _ m=>aY' z)<|cu (fun _ _ m=>al' ((v57' p.den j i)).toArray 2 at' z z z (ap' ((v57' p.num l g)) ((v57' p.den j i)) ([])))<|bi' (d:=9) (post:=w57' F) (fun O Q x B=>?_)
 obtain⟨y,A,rfl,n⟩:=B
 obtain⟨R,H,hr⟩:=hr
 refine N' z z (m' E63 z) (cJ' H) z (⟨(s.mono x),(q.mono x)⟩) (fun P T E D=>?_)
 obtain⟨M,L,rfl,C⟩:=D
 obtain⟨S,I,hr⟩:=hr
 refine K' z z (m' E191 z) (fr' I) z (⟨(n.mono E),C⟩)<|sg z z<|q'<|am'<|b'<|k' (k0' hr z z)
theorem fu'{k h m p n o r}(hr:(Ziq k h).Ret r):Ctr prog 103 #[.slice m k.length p,.slice n h.length o] (fun G=>sl a' G m p k/\sl a' G n o h) (fun G v=>v=i' r):=by
 refine H' (args:=[_,_]) (N:=74) func103 z z z (fun w0 K aH ap=>?_)
 obtain⟨g,f⟩:=ap
 refine sr<|sx0 z z<|g'<|sr<|sx0 z z<|ab' (fun (q:Mem)=>match q with|F=>[(0,.slice m k.length p),(1,.slice n h.length o)]) (fun (q:Mem)=>match q with|F=>Mem.le K F/\(Zcc k h).Ret r) (fun (q:Mem)=>match q with|F=>St w0 K F []) ?_ ?_
 .refine y' ?_
  let I:(Int⊕Unit)->Prop:=fun oo=>((fun ov=>match ov with | .inl rv1=>Cq.ret rv1 | .inr ()=>Zcc k h:(Int⊕Unit)->Cq Int) oo).wp (fun a=>a=r)
  replace hr:(Cq.loop _ _).wp I:=hr
  refine ac' (Φ:=I) (fun (⟨i,l⟩:Int×Mem)=>(i:Int)) (fun ⟨i,l⟩=>[(0,.slice m k.length p),(1,.slice n h.length o),(5,i' i)]) (fun ⟨i,l⟩=>Mem.le K l) (fun ⟨i,l⟩=>St w0 K l []) ⟨0,K⟩ hr (f3 z z z) mr (wk ln) ?_
  .intro ar q hx hr
   obtain⟨i,l⟩:=q
   have d:=hx
   refine aO' (fun (q:Mem)=>match q with|t=>[(0,.slice m k.length p),(1,.slice n h.length o),(5,i' i)]) (fun (q:Mem)=>match q with|t=>Mem.le l t/\(Zfc k h i).wp (Out ar I)) (fun (q:Mem)=>match q with|t=>St w0 K t []) ?_ ?_
   .refine sr<|mv z z<|mv z z<|yy (O' C' (g.mono d) z) z<|aE' hr z (aa' z z) z (fun aB hr=>?_) (fun aB hr=>?_)
    .refine mv z z<|gy z z (c' z) z<|gy z z (c' z) z<|gy z z (O' C' (f.mono d) z) z<|gy z z (aa' z z) z<|yy (w' z z) z<|nx<|P' hr z (fun aA hr=>?_) (fun aA hr=>?_)
     .refine n'<|ax' l ⟨mr,hr⟩ (f3 z z z) (wk ln)
     refine ae'<|h'<|h'<|I'<|af' l ⟨d,hr⟩ (f2 z z) (wk ln)
    refine mv z z<|sn4 z<|yy (t' z z) z<|nx<|bw' z<|ae'<|h'<|h'<|I'<|af' l ⟨d,hr⟩ (f2 z z) (wk ln)
   rintro t ⟨e,hr⟩
   refine g'<|y'<|g'<|g'<|ak' [ff,ff,ff,ff,ff,ff,ff,ff,ff,ff] mix (by kernel_rfl) fun H=>cn (fun _ c=>c' z)<|cn (fun _ c=>c' z) ?_
   obtain⟨x1,ah,hr⟩:=hr
   refine cn (fun _ c=>V' C' aW' ((g.mono (mx d e)).mono c) z z ah)<|cn (fun _ c=>aM' z)<|cn (fun _ c=>ao' _ bo' z (Q' _ _ _) (bK' (J' (J' (bq' (aG' (Z' g ah))) (mx d e)) c)))<|cn (fun _ c=>c' z)<|cn (fun _ c=>c' z) ?_
   obtain⟨x2,L,hr⟩:=hr
   refine cn (fun _ c=>V' C' aW' ((f.mono (mx d e)).mono c) z z L)<|cn (fun _ c=>aM' z)<|cn (fun _ c=>ao' _ bo' z (Q' _ _ _) (bK' (J' (J' (bq' (aG' (Z' f L))) (mx d e)) c)))<|ah' H ?_
   obtain⟨aK,al,hr⟩:=hr
   refine K' z z (m' E81 z) (dR' al) z (trivial)<|yy (bp' z z) z<|q'<|am'<|b'<|P' hr z (fun az hr=>?_) (fun az hr=>?_)
   .refine g'<|ak' [ff,ff,ff,ff,ff,ff,ff,ff,ff,ff] mix (by kernel_rfl) fun H=>cn (fun _ c=>c' z)<|cn (fun _ c=>c' z) ?_
    obtain⟨x3,Q,hr⟩:=hr
    refine cn (fun _ c=>V' C' aW' ((g.mono (mx d e)).mono c) z z Q)<|cn (fun _ c=>aM' z)<|cn (fun _ c=>ao' _ bo' z (Q' _ _ _) (bK' (J' (J' (bq' (aG' (Z' g Q))) (mx d e)) c)))<|cn (fun _ c=>c' z)<|cn (fun _ c=>c' z) ?_
    obtain⟨x4,O,hr⟩:=hr
    refine cn (fun _ c=>V' C' aW' ((f.mono (mx d e)).mono c) z z O)<|cn (fun _ c=>aM' z)<|cn (fun _ c=>ao' _ bo' z (Q' _ _ _) (bK' (J' (J' (bq' (aG' (Z' f O))) (mx d e)) c)))<|ah' H ?_
    obtain⟨aI,am,hr⟩:=hr
    refine K' z z (m' E81 z) (dR' am) z (trivial)<|sg z z<|q'<|am'<|b'<|k'<|f'<|A'<|f'<|f'<|A'<|an'<|f' (k0' hr z z)
   refine n'<|b'<|g'<|ak' [ff,ff,ff,ff,ff,ff,ff,ff,ff,ff] mix (by kernel_rfl) fun H=>cn (fun _ c=>c' z)<|cn (fun _ c=>c' z) ?_
   obtain⟨x5,P,hr⟩:=hr
   refine cn (fun _ c=>V' C' aW' ((g.mono (mx d e)).mono c) z z P)<|cn (fun _ c=>aV' z) ?_
   obtain⟨U,ab,ac,R,au,D,A⟩:=ce' (J' (br' (aG' (Z' g P))) (mx d e))
   refine cn (fun _ c=>ao' _ bc' z z (fun j v J=>c _ _ _ (au j v J)))<|cn (fun _ c=>c' z)<|cn (fun _ c=>c' z) ?_
   obtain⟨x6,aa,hr⟩:=hr
   refine cn (fun _ c=>V' C' aW' ((f.mono (mx d e)).mono c) z z aa)<|cn (fun _ c=>aV' z) ?_
   obtain⟨S,W,Y,Z,aq,x,C⟩:=ce' (J' (br' (aG' (Z' f aa))) (mx d e))
   refine cn (fun _ c=>ao' _ bc' z z (fun j v J=>c _ _ _ (aq j v J)))<|ah' H ?_
   obtain⟨aJ,an,hr⟩:=hr
   refine K' z z (m' E161 z) (ft' an) z (⟨D,A,x,C⟩)<|yy (bp' z z) z<|q'<|am'<|b'<|P' hr z (fun ax hr=>?_) (fun ax hr=>?_)
   .refine g'<|ak' [ff,ff,ff,ff,ff,ff,ff,ff,ff,ff] mix (by kernel_rfl) fun H=>cn (fun _ c=>c' z)<|cn (fun _ c=>c' z) ?_
    obtain⟨x7,ae,hr⟩:=hr
    refine cn (fun _ c=>V' C' aW' ((g.mono (mx d e)).mono c) z z ae)<|cn (fun _ c=>aV' z) ?_
    obtain⟨ad,ag,X,T,av,y,u⟩:=ce' (J' (br' (aG' (Z' g ae))) (mx d e))
    refine cn (fun _ c=>ao' _ bc' z z (fun j v J=>c _ _ _ (av j v J)))<|cn (fun _ c=>c' z)<|cn (fun _ c=>c' z) ?_
    obtain⟨x8,af,hr⟩:=hr
    refine cn (fun _ c=>V' C' aW' ((f.mono (mx d e)).mono c) z z af)<|cn (fun _ c=>aV' z) ?_
    obtain⟨ai,V,M,aj,aw,B,E⟩:=ce' (J' (br' (aG' (Z' f af))) (mx d e))
    refine cn (fun _ c=>ao' _ bc' z z (fun j v J=>c _ _ _ (aw j v J)))<|ah' H ?_
    obtain⟨aG,ak,hr⟩:=hr
    refine K' z z (m' E161 z) (ft' ak) z (⟨y,u,B,E⟩)<|sg z z<|q'<|am'<|b'<|k'<|A'<|f'<|f'<|A'<|an'<|f' (k0' hr z z)
   refine n'<|F'<|b'<|x'<|mv z z<|yy (W' z z) z<|sg z z<|q'<|T' ⟨i64.wrap (i+1),t⟩ hr (mx d e) (f3 z z z) (wk ln)
 rintro F ⟨s,hr⟩
 refine b'<|g'<|sr<|mv z z<|yy (O' C' (g.mono s) z) z<|mv z z<|yy (O' C' (f.mono s) z) z<|yy (aa' z z) z<|nx<|P' hr z (fun aC hr=>?_) (fun aC hr=>?_)
 .refine sr<|sx0 z z<|k'<|f' (k0' hr z z)
 refine n'<|b'<|g'<|sr<|mv z z<|yy (O' C' (g.mono s) z) z<|mv z z<|yy (O' C' (f.mono s) z) z<|yy (aS' z z) z<|nx<|P' hr z (fun ay hr=>?_) (fun ay hr=>?_)
 .refine sr<|sx0 z z<|k'<|f' (k0' hr z z)
 refine n'<|b'<|sr<|sx0 z z<|k' (k0' hr z z)
theorem fi'{s q k h i g r}(hr:(Zhb s q).Ret r):Ctr prog 173 #[.agg ((v57' s k h)).toArray,.agg ((v57' q i g)).toArray] (fun G=>sl (Rp.int .u32) G k h s.mag/\sl (Rp.int .u32) G i g q.mag) (fun G v=>v = .bool r):=by
 refine H' (args:=[_,_]) (N:=38) func173 z z z (fun B o O x=>?_)
 obtain⟨e,j⟩:=x
 refine sr<|ai' 2 z z z fun C=>ai' 3 z z z fun y=>sx0 z z<|g'<|sr<|yy (aQ' z) z<|yy (o' 2 sc4 z z z) z<|yy (aQ' z) z<|yy (o' 3 sc4 z z z) z<|aE' hr z (Y0.neqB bf' z z) z (fun D hr=>?_) (fun D hr=>?_)
 .refine mv z z<|sn7 z<|yy (w' z z) z<|nx<|aB' z<|sr<|sx0 z z<|k'<|f' (k0' hr z z)
 refine mv z z<|gy z z (as' z) z<|gy z z (o' 2 be' z z z) z<|gy z z (O' p' e z) z<|gy z z (as' z) z<|gy z z (o' 3 be' z z z) z<|gy z z (O' p' j z) z<|gy z z (bp' z z) z<|yy (t' z z) z<|nx<|P' hr z (fun F hr=>?_) (fun F hr=>?_)
 .refine sr<|sx0 z z<|k'<|f' (k0' hr z z)
 refine n'<|b'<|g'<|sr<|sx0 z z<|ab' (fun (m:Mem)=>match m with|l=>[]) (fun (m:Mem)=>match m with|l=>Mem.le o l/\(Zey).Ret r) (fun (m:Mem)=>match m with|l=>St B o l []) ?_ ?_
 .refine y' ?_
  let p:(Bool⊕Unit)->Prop:=fun K=>((fun J=>match J with | .inl rv1=>Cq.ret rv1 | .inr ()=>Zey:(Bool⊕Unit)->Cq Bool) K).wp (fun a=>a=r)
  replace hr:(Cq.loop _ _).wp p:=hr
  refine ac' (Φ:=p) (fun (⟨n,f⟩:Int×Mem)=>(n:Int)) (fun ⟨n,f⟩=>[(2,pt0 C),(3,pt0 y),(5,i' n)]) (fun ⟨n,f⟩=>Mem.le o f) (fun ⟨n,f⟩=>St B o f [(2,bk0 C (v57' s k h) 57),(3,bk0 y (v57' q i g) 57)]) ⟨0,o⟩ hr (f3 z z z) mr (w2 z z) ?_
  .intro M m L hr
   obtain⟨n,f⟩:=m
   have d:=L
   refine g'<|sr<|mv z z<|yy (as' z) z<|yy (o' 2 be' z z z) z<|yy (O' p' (e.mono d) z) z<|yy (aa' z z) z<|nx<|P' hr z (fun A hr=>?_) (fun A hr=>?_)
   .refine n'<|b'<|g'<|y'<|g'<|ak' [ff,ff,ff,ff,ff,ff,ff,ff,ff,ff] mix (by kernel_rfl) fun I=>cn (fun _ c=>as' z)<|cn (fun _ c=>o' 2 be' z z z)<|cn (fun _ c=>c' z) ?_
    obtain⟨Q,u,hr⟩:=hr
    refine cn (fun _ c=>V' p' aP' ((e.mono d).mono c) z z u)<|cn (fun _ c=>aj' bu' z (aJ' (J' (J' (Z' e u) d) c)))<|cn (fun _ c=>as' z)<|cn (fun _ c=>o' 3 be' z z z)<|cn (fun _ c=>c' z) ?_
    obtain⟨P,t,hr⟩:=hr
    refine cn (fun _ c=>V' p' aP' ((j.mono d).mono c) z z t)<|cn (fun _ c=>aj' bu' z (aJ' (J' (J' (Z' j t) d) c)))<|ah' I<|yy (bp' z z) z<|q'<|am'<|b'<|P' hr z (fun E hr=>?_) (fun E hr=>?_)
    .refine sr<|sx0 z z<|k'<|A'<|f'<|f'<|A'<|an'<|f' (k0' hr z z)
    refine n'<|F'<|b'<|x'<|mv z z<|yy (W' z z) z<|sg z z<|q'<|T' ⟨i64.wrap (n+1),f⟩ hr d (f3 z z z) (w2 z z)
   refine ae'<|h'<|h'<|I'<|af' f ⟨d,hr⟩ fn (wk ln)
 rintro l ⟨H,hr⟩
 refine b'<|sr<|sx0 z z<|k' (k0' hr z z)
theorem fQ'{l k j f h g i d c e r}(hr:(Ze5 l k).Ret r):Ctr prog 128 #[.agg ((v59' l j f h g)).toArray,.agg ((v59' k i d c e)).toArray] (fun G=>sl (Rp.int .u32) G j f l.num.mag/\sl (Rp.int .u32) G h g l.den.mag/\sl (Rp.int .u32) G i d k.num.mag/\sl (Rp.int .u32) G c e k.den.mag) (fun G v=>v = .bool r):=by
 refine H' (args:=[_,_]) (N:=17) func128 z z z (fun C B y s=>?_)
 obtain⟨p,m,n,o⟩:=s
 refine sr<|ai' 2 z z z fun D=>ai' 3 z z z fun A=>sg z z<|nr<|yy (bk' z) z<|yy (al' ((v57' l.num j f)).toArray 2 at' z z z (ap' ([]) ((v57' l.num j f)) ((v57' l.den h g)))) z<|yy (bk' z) z<|yy (al' ((v57' k.num i d)).toArray 3 at' z z z (ap' ([]) ((v57' k.num i d)) ((v57' k.den c e)))) z ?_
 obtain⟨u,t,hr⟩:=hr
 refine K' z z (m' E173 z) (fi' t) z (⟨p,n⟩) ?_
 cases u
 .refine mv z z<|sn5 z<|yy (t' z z) z<|sx0 z z<|k' (k0' hr z z)
 refine mv z z<|gy z z (aY' z) z<|gy z z (al' ((v57' l.den h g)).toArray 2 at' z z z (ap' ((v57' l.num j f)) ((v57' l.den h g)) ([]))) z<|gy z z (aY' z) z<|gy z z (al' ((v57' k.den c e)).toArray 3 at' z z z (ap' ((v57' k.num i d)) ((v57' k.den c e)) ([]))) z ?_
 obtain⟨x,q,hr⟩:=hr
 refine K' (E' z z) z (m' E173 z) (fi' q) z (⟨m,o⟩)<|yy (w' z z) z<|sx0 z z<|k' (k0' hr z z)
theorem fp'{l k j h g f i d c e r}(hr:(Zce l k).Ret r):Ctr prog 73 #[.agg (((v59' l.c j h g f):List Value)++(vecG (Value.int .i64) 8 l.m)).toArray,.agg (((v59' k.c i d c e):List Value)++(vecG (Value.int .i64) 8 k.m)).toArray] (fun G=>sl (Rp.int .u32) G j h l.c.num.mag/\sl (Rp.int .u32) G g f l.c.den.mag/\sl (Rp.int .u32) G i d k.c.num.mag/\sl (Rp.int .u32) G c e k.c.den.mag) (fun G v=>v = .bool r):=by
 refine H' (args:=[_,_]) (N:=17) func73 z z z (fun B A x q=>?_)
 obtain⟨m,n,p,o⟩:=q
 refine sr<|ai' 2 z z z fun C=>ai' 3 z z z fun y=>sg z z<|nr<|yy (aM' z) z<|yy (al' (vecG (Value.int .i64) 8 l.m).toArray 2 bo' z z (Q' _ _ _) (ap' ((v59' l.c j h g f)) (vecG (Value.int .i64) 8 l.m) ([]))) z<|yy (aM' z) z<|yy (al' (vecG (Value.int .i64) 8 k.m).toArray 3 bo' z z (Q' _ _ _) (ap' ((v59' k.c i d c e)) (vecG (Value.int .i64) 8 k.m) ([]))) z<|aE' hr z (Y0.eqlV ar' aD' sc3 sz3 eg68 z z) z (fun t hr=>?_) (fun t hr=>?_)
 .refine mv z z<|gy z z (aV' z) z<|gy z z (al' ((v59' l.c j h g f)).toArray 2 bc' z z z (ap' ([]) ((v59' l.c j h g f)) ((vecG (Value.int .i64) 8 l.m)))) z<|gy z z (aV' z) z<|gy z z (al' ((v59' k.c i d c e)).toArray 3 bc' z z z (ap' ([]) ((v59' k.c i d c e)) ((vecG (Value.int .i64) 8 k.m)))) z ?_
  obtain⟨u,s,hr⟩:=hr
  refine K' (E' z z) z (m' E128 z) (fQ' s) z (⟨m,n,p,o⟩)<|yy (w' z z) z<|sx0 z z<|k' (k0' hr z z)
 refine mv z z<|sn5 z<|yy (t' z z) z<|sx0 z z<|k' (k0' hr z z)
theorem dG'{F B t s u p r}(hr:(ZdQ F B).Ret r):Ctr prog 34 #[.slice t F.length s,.slice u B.length p] (fun G=>sl a' G t s F/\sl a' G u p B) (fun G v=>v = .bool r):=by
 refine H' (args:=[_,_]) (N:=27) func34 z z z (fun T o ad M=>?_)
 obtain⟨n,q⟩:=M
 refine sr<|sx0 z z<|g'<|sr<|mv z z<|yy (O' C' n z) z<|mv z z<|yy (O' C' q z) z<|yy (bp' z z) z<|nx<|P' hr z (fun V hr=>?_) (fun V hr=>?_)
 .refine sr<|sx0 z z<|k'<|f' (k0' hr z z)
 refine n'<|b'<|g'<|sr<|sx0 z z<|ab' (fun (l:Mem)=>match l with|k=>[]) (fun (l:Mem)=>match l with|k=>Mem.le o k/\(ZeC).Ret r) (fun (l:Mem)=>match l with|k=>St T o k []) ?_ ?_
 .refine y' ?_
  let x:(Bool⊕Unit)->Prop:=fun oo=>((fun Y=>match Y with | .inl rv1=>Cq.ret rv1 | .inr ()=>ZeC:(Bool⊕Unit)->Cq Bool) oo).wp (fun a=>a=r)
  replace hr:(Cq.loop _ _).wp x:=hr
  refine ac' (Φ:=x) (fun (⟨m,e⟩:Int×Mem)=>(m:Int)) (fun ⟨m,e⟩=>[(0,.slice t F.length s),(1,.slice u B.length p),(5,i' m)]) (fun ⟨m,e⟩=>Mem.le o e) (fun ⟨m,e⟩=>St T o e []) ⟨0,o⟩ hr (f3 z z z) mr (wk ln) ?_
  .intro ac l Z hr
   obtain⟨m,e⟩:=l
   have c:=Z
   refine g'<|sr<|mv z z<|mv z z<|yy (O' C' (n.mono c) z) z<|yy (aa' z z) z<|nx<|P' hr z (fun S hr=>?_) (fun S hr=>?_)
   .refine n'<|b'<|g'<|y'<|g'<|ak' [ff,ff,ff,ff,ff,ff,ff,ff] mix (by kernel_rfl) fun X=>cn (fun _ d=>c' z)<|cn (fun _ d=>c' z) ?_
    obtain⟨x1,L,hr⟩:=hr
    refine cn (fun _ d=>V' C' aW' ((n.mono c).mono d) z z L) ?_
    obtain⟨C,y,H,A,Q,i,f⟩:=bM' (J' (Z' n L) c)
    refine cn (fun _ d=>ao' _ cF' z z (fun j v O=>d _ _ _ (Q j v O)))<|cn (fun _ d=>c' z)<|cn (fun _ d=>c' z) ?_
    obtain⟨x2,K,hr⟩:=hr
    refine cn (fun _ d=>V' C' aW' ((q.mono c).mono d) z z K) ?_
    obtain⟨D,J,E,I,R,g,h⟩:=bM' (J' (Z' q K) c)
    refine cn (fun _ d=>ao' _ cF' z z (fun j v O=>d _ _ _ (R j v O)))<|ah' X ?_
    obtain⟨ab,P,hr⟩:=hr
    refine K' z z (m' E73 z) (fp' P) z (⟨i,f,g,h⟩)<|yy (aA' z) z<|q'<|am'<|b'<|aK' hr z (fun U hr=>?_) (fun U hr=>?_)
    .refine sr<|sx0 z z<|k'<|A'<|f'<|f'<|A'<|an'<|f' (k0' hr z z)
    refine n'<|F'<|b'<|x'<|mv z z<|yy (W' z z) z<|sg z z<|q'<|T' ⟨i64.wrap (m+1),e⟩ hr c (f3 z z z) (wk ln)
   refine ae'<|h'<|h'<|I'<|af' e ⟨c,hr⟩ fn (wk ln)
 rintro k ⟨W,hr⟩
 refine b'<|sr<|sx0 z z<|k' (k0' hr z z)
theorem eJ'{v p t u r}(hr:(ZdA v p).Ret r):Ctr prog 52 #[.slice t v.length u,.bool p] (fun G=>sl (Rp.sl a') G t u v) (wl' (Rp.sl a') r):=by
 refine H' (args:=[_,_]) (N:=75) func52 z z z (fun X W P ap=>?_)
 have K:=ap
 refine sr<|sg z z<|nr<|aF' (e:=65) (r:=(Rp.sl a')) (vs:=#[]) (cs:=[]) ([]:List (List Za)) z z z z z (by decide) (fun _=>by kernel_rfl) (z) (key:=999) z (by rw[P]; rfl) fun p1 U M aD=>sx0 z z<|g'<|sr<|sx0 z z<|ab' (fun (⟨q,A,y,I⟩:(List (List Za))×Option Addr×Nat×Mem)=>[(5,.slice A q.length y)]) (fun ⟨q,A,y,I⟩=>Mem.le U I/\sl (Rp.sl a') I A y q/\(Zdm q).Ret r) (fun ⟨q,A,y,I⟩=>St X W I []) ?_ ?_
 .refine y' ?_
  let H:(((List (List Za))))->Prop:=fun oo=>((fun ov=>match ov with|q=>Zdm q:(((List (List Za))))->Cq ((List (List Za)))) oo).wp (fun a=>a=r)
  replace hr:(Cq.loop _ _).wp H:=hr
  refine ac' (Φ:=H) (fun (⟨f,i,h,j,E⟩:(List (List Za))×Option Addr×Nat×Int×Mem)=>((f,j):(List (List Za))×Int)) (fun ⟨f,i,h,j,E⟩=>[(0,.slice t v.length u),(1,.bool p),(5,.slice i f.length h),(6,i' j)]) (fun ⟨f,i,h,j,E⟩=>Mem.le U E/\sl (Rp.sl a') E i h f) (fun ⟨f,i,h,j,E⟩=>St X W E []) ⟨[],p1,0,0,U⟩ hr (f4 z z z z) ⟨mr,aD⟩ (wk ln) ?_
  .intro S J hx hr
   obtain⟨f,i,h,j,E⟩:=J
   obtain⟨k,g⟩:=hx
   refine g'<|sr<|mv z z<|mv z z<|yy (O' M' (K.mono (mx M k)) z) z<|yy (aa' z z) z<|nx<|P' hr z (fun aS hr=>?_) (fun aS hr=>?_)
   .refine n'<|b'<|g'<|y'<|sr<|mv z z<|mv z z ?_
    obtain⟨x1,ad,hr⟩:=hr
    refine yy (V' M' cj' (K.mono (mx M k)) z z ad) z ?_
    obtain⟨p2,bc,aL,aF⟩:=bl' (J' (Z' K ad) (mx M k))
    refine yy (aj' bU' z (aL)) z ?_
    obtain⟨s,ak,hr⟩:=hr
    refine N' z z (m' E102 z) (eI' ak) z (aF) (fun aX T d R=>?_)
    obtain⟨D,B,rfl,C⟩:=R
    refine sg z z<|sx0 z z<|g'<|ab' (fun (⟨l,m⟩:Int×Mem)=>[(0,.slice t v.length u),(1,.bool p),(5,.slice i f.length h),(6,i' j),(7,.slice D s.length B),(8,i' l)]) (fun ⟨l,m⟩=>Mem.le T m/\(ZaU p f j s l).wp (Out S H)) (fun ⟨l,m⟩=>St X W m []) ?_ ?_
    .refine y' ?_
     let V:Int->Prop:=fun oo=>((fun ov=>match ov with|l=>ZaU p f j s l:Int->Cq (((List (List Za))×Int)⊕(((List (List Za)))))) oo).wp (Out S H)
     replace hr:(Cq.loop _ _).wp V:=hr
     refine ac' (Φ:=V) (fun (⟨o,x⟩:Int×Mem)=>(o:Int)) (fun ⟨o,x⟩=>[(0,.slice t v.length u),(1,.bool p),(5,.slice i f.length h),(6,i' j),(7,.slice D s.length B),(8,i' o)]) (fun ⟨o,x⟩=>Mem.le T x) (fun ⟨o,x⟩=>St X W x []) ⟨0,T⟩ hr (f6 z z z z z z) mr (wk ln) ?_
     .intro a4 J hx hr
      obtain⟨o,x⟩:=J
      have n:=hx
      refine g'<|sr<|mv z z<|mv z z<|yy (O' M' (g.mono (mx d n)) z) z<|aE' hr z (aa' z z) z (fun aI hr=>?_) (fun aI hr=>?_)
      .refine mv z z<|gy z z (c' z) z<|gy z z (c' z) z ?_
       obtain⟨x4,ab,hr⟩:=hr
       refine gy z z (V' M' cj' (g.mono (mx d n)) z z ab) z ?_
       obtain⟨a5,aU,ah,aj⟩:=bl' (J' (Z' g ab) (mx d n))
       refine gy z z (aj' bU' z (ah)) z<|gy z z (c' z) z ?_
       obtain⟨bd,an,hr⟩:=hr
       refine K' (E' z z) z (m' E103 z) (fu' an) z (⟨aj,(C.mono n)⟩)<|gy z z (aa' z z) z<|yy (w' z z) z<|nx<|P' hr z (fun aA hr=>?_) (fun aA hr=>?_)
       .refine n'<|b'<|y'<|x'<|mv z z<|yy (W' z z) z<|sg z z<|q'<|F'<|T' ⟨i64.wrap (o+1),x⟩ hr n (f6 z z z z z z) (wk ln)
       refine ae'<|h'<|h'<|I'<|af' ⟨o,x⟩ ⟨n,hr⟩ (f6 z z z z z z) (wk ln)
      refine mv z z<|sn7 z<|yy (t' z z) z<|nx<|bw' z<|ae'<|h'<|h'<|I'<|af' ⟨o,x⟩ ⟨n,hr⟩ (f6 z z z z z z) (wk ln)
    rintro⟨l,m⟩ ⟨c,hr⟩
    refine b'<|aO' (fun (J:Mem)=>match J with|O=>[(0,.slice t v.length u),(1,.bool p),(5,.slice i f.length h),(6,i' j),(7,.slice D s.length B),(8,i' l)]) (fun (J:Mem)=>match J with|O=>Mem.le m O/\(ZQ f j s l).wp (Out S H)) (fun (J:Mem)=>match J with|O=>St X W O []) ?_ ?_
    .refine sr<|mv z z<|yy (O' C' (C.mono c) z) z<|aE' hr z (aH' z z) z (fun aR hr=>?_) (fun aR hr=>?_)
     .refine mv z z<|sn2 z<|aX' (aq' z z) z<|aX' (aq' z z) z<|aX' (aq' z z) z<|sf z z z<|yy (w' z z) z<|mv z z<|sn5 z<|aX' (aq' z z) z<|aX' (aq' z z) z<|aX' (aq' z z) z<|aX' (aq' z z) z<|aX' (aq' z z) z<|aX' (aq' z z) z<|sf z z z<|yy (w' z z) z<|nx<|aB' z<|ae'<|h'<|I'<|b'<|x'<|mv z z<|yy (W' z z) z<|sg z z<|q'<|T' ⟨f,i,h,i64.wrap (j+1),m⟩ hr ⟨(mx (mx k d) c),(g.mono (mx d c))⟩ (f4 z z z z) (wk ln)
     refine mv z z<|aE' hr (E' z z) (db' (c' z) (congrArg Value.bool (bdec _))) z (fun aC hr=>?_) (fun aC hr=>?_)
     .refine gy z z (c' z) z<|gy z z (c' z) z ?_
      obtain⟨a8,al,hr⟩:=hr
      refine K' (E' z z) z (m' E104 z) (dF' al) z ((C.mono c))<|aE' hr (E' z z) (aH' z z) z (fun aG hr=>?_) (fun aG hr=>?_)
      .refine gy z z (w' z z) z<|yy (t' z z) z<|mv z z<|sn5 z<|aX' (aq' z z) z<|aX' (aq' z z) z<|aX' (aq' z z) z<|aX' (aq' z z) z<|aX' (aq' z z) z<|aX' (aq' z z) z<|sf z z z<|yy (w' z z) z<|nx<|aB' z<|ae'<|h'<|I'<|b'<|x'<|mv z z<|yy (W' z z) z<|sg z z<|q'<|T' ⟨f,i,h,i64.wrap (j+1),m⟩ hr ⟨(mx (mx k d) c),(g.mono (mx d c))⟩ (f4 z z z z) (wk ln)
      refine gy z z (w' z z) z<|yy (t' z z) z<|mv z z<|gy z z (c' z) z<|gy z z (c' z) z<|gy z z (O' M' (g.mono (mx d c)) z) z<|aE' hr (E' z z) (aa' z z) z (fun aQ hr=>?_) (fun aQ hr=>?_)
      .refine gy z z (c' z) z<|gy z z (c' z) z<|gy z z (c' z) z ?_
       obtain⟨x2,aa,hr⟩:=hr
       refine gy z z (V' M' cj' (g.mono (mx d c)) z z aa) z ?_
       obtain⟨p8,be,aJ,ar⟩:=bl' (J' (Z' g aa) (mx d c))
       refine gy z z (aj' bU' z (aJ)) z<|gy z z (c' z) z ?_
       obtain⟨ba,ao,hr⟩:=hr
       refine K' (E' z z) z (m' E34 z) (dG' ao) z (⟨ar,(C.mono c)⟩)<|gy z z (w' z z) z<|yy (t' z z) z<|nx<|aK' hr z (fun aB hr=>?_) (fun aB hr=>?_)
       .refine ae'<|h'<|I'<|b'<|x'<|mv z z<|yy (W' z z) z<|sg z z<|q'<|T' ⟨f,i,h,i64.wrap (j+1),m⟩ hr ⟨(mx (mx k d) c),(g.mono (mx d c))⟩ (f4 z z z z) (wk ln)
       refine n'<|ax' m ⟨mr,hr⟩ (f6 z z z z z z) (wk ln)
      refine gy z z (c' z) z<|sn6 z<|gy z z (t' z z) z<|yy (t' z z) z<|nx<|bw' z<|n'<|ax' m ⟨mr,hr⟩ (f6 z z z z z z) (wk ln)
     refine gy z z (c' z) z<|sn3 z<|gy z z (t' z z) z<|yy (t' z z) z<|mv z z<|gy z z (c' z) z<|gy z z (c' z) z<|gy z z (O' M' (g.mono (mx d c)) z) z<|aE' hr (E' z z) (aa' z z) z (fun aO hr=>?_) (fun aO hr=>?_)
     .refine gy z z (c' z) z<|gy z z (c' z) z<|gy z z (c' z) z ?_
      obtain⟨x3,ac,hr⟩:=hr
      refine gy z z (V' M' cj' (g.mono (mx d c)) z z ac) z ?_
      obtain⟨p9,a9,ax,av⟩:=bl' (J' (Z' g ac) (mx d c))
      refine gy z z (aj' bU' z (ax)) z<|gy z z (c' z) z ?_
      obtain⟨a3,ae,hr⟩:=hr
      refine K' (E' z z) z (m' E34 z) (dG' ae) z (⟨av,(C.mono c)⟩)<|gy z z (w' z z) z<|yy (t' z z) z<|nx<|aK' hr z (fun aH hr=>?_) (fun aH hr=>?_)
      .refine ae'<|h'<|I'<|b'<|x'<|mv z z<|yy (W' z z) z<|sg z z<|q'<|T' ⟨f,i,h,i64.wrap (j+1),m⟩ hr ⟨(mx (mx k d) c),(g.mono (mx d c))⟩ (f4 z z z z) (wk ln)
      refine n'<|ax' m ⟨mr,hr⟩ (f6 z z z z z z) (wk ln)
     refine gy z z (c' z) z<|sn6 z<|gy z z (t' z z) z<|yy (t' z z) z<|nx<|bw' z<|n'<|ax' m ⟨mr,hr⟩ (f6 z z z z z z) (wk ln)
    rintro O ⟨F,hr⟩
    refine sr<|mv z z<|aF' (e:=65) (r:=(Rp.sl a')) (vs:=#[(0,.slice D s.length B)]) (cs:=[.slice D s.length B]++([])) ([s]:List (List Za)) z z z z z (by decide) (fun _=>by kernel_rfl) ⟨[.slice D s.length B],[],z,⟨_,z,(C.mono (mx c F))⟩,z⟩ (key:=999) z (by rw[P]; rfl) fun p3 bb L aE=>mv z z<|mv z z ?_
    obtain⟨aK,hr⟩:=hr
    refine WL.sliceRL (r:=(Rp.sl a')) z z M' cj' z (g.mono (mx (mx (mx d c) F) L)) z z aK (fun p4 a7 ay=>?_)
    obtain⟨ag,hr⟩:=hr
    refine bb' (r:=(Rp.sl a')) 2067 z z M' el65 z (by decide) z z aE z (by rw[P]; rfl) cb' ay ag fun p5 a2 a1 a6 Q aN aZ=>sx0 z z<|x'<|mv z z<|mv z z<|mv z z ?_
    obtain⟨aw,hr⟩:=hr
    refine WL.slice3 (r:=(Rp.sl a')) z z M' cj' z (g.mono (mx (mx (mx (mx d c) F) L) Q)) z z z aw fun p6 au=>mv z z ?_
    obtain⟨am,hr⟩:=hr
    refine bb' (r:=(Rp.sl a')) 2073 z z M' el65 z (by decide) z z au z (by rw[P]; rfl) cb' aN am fun p7 aP aV aM Y az aW=>sg z z<|q'<|F'<|b'<|x'<|mv z z<|yy (W' z z) z<|sg z z<|q'<|T' ⟨(((f.take l.toNat).drop (0:Int).toNat)++([s]++((f.take (f.length:Int).toNat).drop l.toNat))),p7,aP,i64.wrap (j+1),aM⟩ hr ⟨(mx (mx (mx (mx (mx (mx k d) c) F) L) Q) Y),az⟩ (f4 z z z z) (wk ln)
   refine ae'<|h'<|h'<|I'<|af' ⟨f,i,h,E⟩ ⟨k,g,hr⟩ (f1 z) (wk ln)
 rintro⟨q,A,y,I⟩ ⟨aT,Z,hr⟩
 refine b'<|sr<|mv z z<|sx0 z z<|k' ?_
 obtain rfl:_=r:=hr
 exact j' z z ⟨_,_,z,Z⟩
theorem ei'{n F p O P B C r}(hr:(Zfg n F p).Ret r):Ctr prog 13 #[i' n,.slice O F.length P,.slice B p.length C] (fun G=>sl (Rp.sl a') G O P F/\sl (Rp.sl a') G B C p) (w28t' r):=by
 refine H' (args:=[_,_,_]) (N:=68) func13 z z z (fun w0 G0 T aR=>?_)
 obtain⟨W,y⟩:=aR
 refine sr<|X' 6 z z28 z fun b1=>sx0 z z<|aO' (fun (⟨H,g,f,d,c,K⟩:Zc×Option Addr×Nat×Option Addr×Nat×Mem)=>[(0,i' n),(1,.slice O F.length P),(2,.slice B p.length C),(6,pt0 b1)]) (fun ⟨H,g,f,d,c,K⟩=>Mem.le G0 K/\sl (Rp.sl a') K g f H.eqs/\sl (Rp.sl a') K d c H.neqs/\(ZfL n F p).Ret r) (fun ⟨H,g,f,d,c,K⟩=>St w0 G0 K [(6,bk0 b1 (v28' H g f d c) 28)]) ?_ ?_
 .refine sr<|mv z z<|aE' hr z (aa' z z) z (fun a1 hr=>?_) (fun a1 hr=>?_)
  .refine mv z z<|sn2 z<|yy (w' z z) z<|mv z z<|sn4 z<|yy (w' z z) z<|mv z z<|sn4 z<|yy (w' z z) z<|nx<|aB' z<|sr<|yy (au' (vs:=#[]) (v:=.agg ([i' 0,.slice none 0 0,.slice none 0 0]).toArray) z z (fun _=>by kernel_rfl)) z<|B' 6 z bB' z z z z z (List.all_eq_true.1 z)<|sx0 z z<|k'<|f' ?_
   obtain rfl:_=r:=hr
   exact bd' z (aw' (i:=6) bj' z z z) z ⟨_,_,_,_,z,(ay' (Rp.sl a') _),(ay' (Rp.sl a') _)⟩
  refine mv z z<|gy z z (c' z) z<|aE' hr (E' z z) (aS' z z) z (fun a5 hr=>?_) (fun a5 hr=>?_)
  .refine yy (t' z z) z<|mv z z<|sn4 z<|yy (w' z z) z<|mv z z<|sn4 z<|yy (w' z z) z<|nx<|aB' z<|sr<|yy (au' (vs:=#[]) (v:=.agg ([i' 0,.slice none 0 0,.slice none 0 0]).toArray) z z (fun _=>by kernel_rfl)) z<|B' 6 z bB' z z z z z (List.all_eq_true.1 z)<|sx0 z z<|k'<|f' ?_
   obtain rfl:_=r:=hr
   exact bd' z (aw' (i:=6) bj' z z z) z ⟨_,_,_,_,z,(ay' (Rp.sl a') _),(ay' (Rp.sl a') _)⟩
  refine yy (t' z z) z<|mv z z<|gy z z (c' z) z<|gy z z (c' z) z ?_
  obtain⟨a9,aN,hr⟩:=hr
  refine K' (E' z z) z (m' E50 z) (fs' aN) z (W) ?_
  cases a9
  .refine gy z z (aA' z) z<|yy (t' z z) z<|mv z z<|sn4 z<|yy (w' z z) z<|nx<|aB' z<|sr<|yy (au' (vs:=#[]) (v:=.agg ([i' 0,.slice none 0 0,.slice none 0 0]).toArray) z z (fun _=>by kernel_rfl)) z<|B' 6 z bB' z z z z z (List.all_eq_true.1 z)<|sx0 z z<|k'<|f' ?_
   obtain rfl:_=r:=hr
   exact bd' z (aw' (i:=6) bj' z z z) z ⟨_,_,_,_,z,(ay' (Rp.sl a') _),(ay' (Rp.sl a') _)⟩
  refine gy z z (aA' z) z<|yy (t' z z) z<|mv z z<|gy z z (c' z) z<|gy z z (c' z) z ?_
  obtain⟨bn,aD,hr⟩:=hr
  refine K' (E' z z) z (m' E50 z) (fs' aD) z (y)<|gy z z (aA' z) z<|yy (t' z z) z<|nx<|aK' hr z (fun aZ hr=>?_) (fun aZ hr=>?_)
  .refine sr<|yy (au' (vs:=#[]) (v:=.agg ([i' 0,.slice none 0 0,.slice none 0 0]).toArray) z z (fun _=>by kernel_rfl)) z<|B' 6 z bB' z z z z z (List.all_eq_true.1 z)<|sx0 z z<|k'<|f' ?_
   obtain rfl:_=r:=hr
   exact bd' z (aw' (i:=6) bj' z z z) z ⟨_,_,_,_,z,(ay' (Rp.sl a') _),(ay' (Rp.sl a') _)⟩
  refine n'<|ax' ⟨(Zc.mk 0 [] []),none,0,none,0,G0⟩ ⟨mr,(ay' _ _),(ay' _ _),hr⟩ (f4 z z z z) (w1 z)
 rintro⟨H,g,f,d,c,K⟩ ⟨D,aT,aH,hr⟩
 refine sr<|aF' (e:=65) (r:=(Rp.sl a')) (vs:=#[]) (cs:=[]) ([]:List (List Za)) z z z z z (by decide) (fun _=>by kernel_rfl) (z) (key:=999) z (by rw[T]; rfl) fun p1 bt E a2=>mv z z ?_
 obtain⟨aE,hr⟩:=hr
 refine bb' (r:=(Rp.sl a')) 2032 z z M' el65 z (by decide) z z a2 z (by rw[T]; rfl) cb' (W.mono (mx D E)) aE fun p2 a7 aP ai I a4 aJ=>sx0 z z<|g'<|sr<|sx0 z z<|ab' (fun (⟨o,u,x,q,L⟩:(List (List Za))×Option Addr×Nat×Option Ow×Mem)=>[(0,i' n),(2,.slice B p.length C),(6,pt0 b1),(8,.slice u o.length x)]) (fun ⟨o,u,x,q,L⟩=>Mem.le ai L/\sl (Rp.sl a') L u x o/\Tok 1 65 (.slice u o.length x) o.length q/\(ZbL n p o).Ret r) (fun ⟨o,u,x,q,L⟩=>St w0 G0 L [(6,bk0 b1 (v28' H g f d c) 28),(1008,q)]) ?_ ?_
 .refine y' ?_
  let aj:(((List (List Za))))->Prop:=fun oo=>((fun ov=>match ov with|o=>ZbL n p o:(((List (List Za))))->Cq (Zc×Int)) oo).wp (fun a=>a=r)
  replace hr:(Cq.loop _ _).wp aj:=hr
  refine ac' (Φ:=aj) (fun (⟨k,l,m,h,s,A⟩:(List (List Za))×Option Addr×Nat×Option Ow×Int×Mem)=>((k,s):(List (List Za))×Int)) (fun ⟨k,l,m,h,s,A⟩=>[(0,i' n),(2,.slice B p.length C),(6,pt0 b1),(8,.slice l k.length m),(9,i' s)]) (fun ⟨k,l,m,h,s,A⟩=>Mem.le ai A/\sl (Rp.sl a') A l m k/\Tok 1 65 (.slice l k.length m) k.length h) (fun ⟨k,l,m,h,s,A⟩=>St w0 G0 A [(6,bk0 b1 (v28' H g f d c) 28),(1008,h)]) ⟨([]++F),p2,a7,aP,0,ai⟩ hr (f5 z z z z z) ⟨mr,a4,aJ⟩ ?_ ?_
  .intro w hs
   have hs:=hs.rekey (i:=2032) (j:=1008) z (by rw[T]; rfl)
   exact hs.weaken (lc z (lc z ln))
  intro bm gx hx hr
  obtain⟨k,l,m,h,s,A⟩:=gx
  obtain⟨t,M,J⟩:=hx
  refine g'<|sr<|mv z z<|mv z z<|yy (O' M' (y.mono (mx (mx (mx D E) I) t)) z) z<|yy (aa' z z) z<|nx<|P' hr z (fun a0 hr=>?_) (fun a0 hr=>?_)
  .refine n'<|b'<|g'<|y'<|sr<|mv z z<|mv z z ?_
   obtain⟨x1,aB,hr⟩:=hr
   refine yy (V' M' cj' (y.mono (mx (mx (mx D E) I) t)) z z aB) z ?_
   obtain⟨p3,bq,aV,a3⟩:=bl' (J' (Z' y aB) (mx (mx (mx D E) I) t))
   refine yy (aj' bU' z (aV)) z<|yy (O' C' a3 z) z<|yy (aH' z z) z<|nx<|P' hr z (fun a6 hr=>?_) (fun a6 hr=>?_)
   .refine x'<|mv z z ?_
    obtain⟨br,aO,hr⟩:=hr
    refine N' z z (m' E26 z) (cc' aO) z (trivial) (fun bd bu Y ae=>?_)
    obtain⟨ay,aq,au,aw,rfl,Q,R⟩:=ae
    obtain⟨S,aC,hr⟩:=hr
    refine N' z z (m' E51 z) (dn' aC) z (⟨Q,R⟩) (fun bh bv X ad=>?_)
    obtain⟨V,U,rfl,aL⟩:=ad
    refine aF' (e:=65) (r:=(Rp.sl a')) (vs:=#[(0,.slice V S.length U)]) (cs:=[.slice V S.length U]++([])) ([S]:List (List Za)) z z z z z (by decide) (fun _=>by kernel_rfl) ⟨[.slice V S.length U],[],z,⟨_,z,aL⟩,z⟩ (key:=999) z (by rw[T]; rfl) (fun p4 bp aa aX=>?_)
    obtain⟨aK,hr⟩:=hr
    refine bb' (r:=(Rp.sl a')) 1008 z z M' el65 z (by decide) z z (M.mono (mx (mx Y X) aa)) z (by rw[T]; rfl) J aX aK fun p5 aU aS aY ap a8 aM=>sg z z<|q'<|F'<|b'<|x'<|mv z z<|yy (W' z z) z<|sg z z<|q'<|T' ⟨(k++[S]),p5,aU,aS,i64.wrap (s+1),aY⟩ hr ⟨(mx (mx (mx (mx t Y) X) aa) ap),a8,aM⟩ (f5 z z z z z) (w2 z z)
   refine n'<|F'<|b'<|x'<|mv z z<|yy (W' z z) z<|sg z z<|q'<|T' ⟨k,l,m,h,i64.wrap (s+1),A⟩ hr ⟨t,M,J⟩ (f5 z z z z z) (w2 z z)
  refine ae'<|h'<|h'<|I'<|af' ⟨k,l,m,h,A⟩ ⟨t,M,J,hr⟩ (f4 z z z z) (w2 z z)
 rintro⟨o,u,x,q,L⟩ ⟨ar,av,aW,hr⟩
 refine b'<|sr<|mv z z<|mv z z ?_
 obtain⟨aA,aG,hr⟩:=hr
 refine N' z z (m' E52 z) (eJ' aG) z (av) (fun bk bs ax ac=>?_)
 obtain⟨an,ah,rfl,am⟩:=ac
 refine mv z z ?_
 obtain⟨az,aI,hr⟩:=hr
 refine N' z z (m' E52 z) (eJ' aI) z ((y.mono (mx (mx (mx (mx D E) I) ar) ax))) (fun bj bo Z af=>?_)
 obtain⟨ak,ag,rfl,ao⟩:=af
 refine yy (au' (vs:=#[(0,i' n),(1,.slice an aA.length ah),(2,.slice ak az.length ag)]) (v:=.agg ([i' n,.slice an aA.length ah,.slice ak az.length ag]).toArray) z z (fun _=>by kernel_rfl)) z<|X' 10 z z28 z fun b2=>B' 10 z bB' z z z z z (List.all_eq_true.1 z)<|nx<|g'<|sr<|yy (cR' z) z<|yy (o' 10 sc25 z z z) z<|yy (O' M' (am.mono Z) z) z<|aE' hr z (aS' z z) z (fun ba hr=>?_) (fun ba hr=>?_)
 .refine mv z z<|sn4 z<|yy (w' z z) z<|nx<|aB' z<|sr<|yy (au' (vs:=#[]) (v:=.agg ([i' 0,.slice none 0 0,.slice none 0 0]).toArray) z z (fun _=>by kernel_rfl)) z<|B' 6 z bB' z z z z z (List.all_eq_true.1 z)<|sx0 z z<|k'<|f' ?_
  obtain rfl:_=r:=hr
  exact bd' z (aw' (i:=6) bj' z z z) z ⟨_,_,_,_,z,(ay' (Rp.sl a') _),(ay' (Rp.sl a') _)⟩
 refine mv z z<|gy z z (cB' z) z<|gy z z (o' 10 sc25 z z z) z<|gy z z (O' M' ao z) z<|gy z z (aS' z z) z<|yy (t' z z) z<|nx<|P' hr z (fun bb hr=>?_) (fun bb hr=>?_)
 .refine sr<|yy (au' (vs:=#[]) (v:=.agg ([i' 0,.slice none 0 0,.slice none 0 0]).toArray) z z (fun _=>by kernel_rfl)) z<|B' 6 z bB' z z z z z (List.all_eq_true.1 z)<|sx0 z z<|k'<|f' ?_
  obtain rfl:_=r:=hr
  exact bd' z (aw' (i:=6) bj' z z z) z ⟨_,_,_,_,z,(ay' (Rp.sl a') _),(ay' (Rp.sl a') _)⟩
 refine n'<|b'<|sr<|yy (D' 10 bj' z z z) z<|B' 6 z bB' z z z z z (List.all_eq_true.1 z)<|sx0 z z<|k' ?_
 obtain rfl:_=r:=hr
 exact bd' z (aw' (i:=6) bj' z z z) z ⟨_,_,_,_,z,(am.mono Z),ao⟩
theorem dp'{A af ad R U r}(hr:(Zff A).Ret r):Ctr prog 17 #[.agg ((v37' A af ad R U)).toArray] (fun G=>sl cE' G af ad A.l/\sl (Rp.int .u8) G R U A.gap) (w42' r):=by
 refine H' (args:=[_]) (N:=77) func17 z z z (fun w0 G0 aw a4=>?_)
 obtain⟨am,Z⟩:=a4
 refine sr<|ai' 1 z z z fun b1=>X' 2 z z42 z fun b2=>nr<|aF' (e:=9) (r:=Rp.str) (vs:=#[(0,.string ZE),(1,.string ZD),(2,.string ZA)]) (cs:=[.string ZE]++([.string ZD]++([.string ZA]++([])))) ([ZE,ZD,ZA]:List ByteArray) z z z z z (by decide) (fun _=>by kernel_rfl) ⟨[.string ZE],[.string ZD]++([.string ZA]++([])),z,z,⟨[.string ZD],[.string ZA]++([]),z,z,⟨[.string ZA],[],z,z,z⟩⟩⟩ (key:=999) z (by rw[aw]; rfl) fun p1 aI ab bd=>sg z z<|nr<|yy (Y0.ZnX z) z<|yy (o' 1 sc5 z z z) z<|yy (bP' z z (by decide)) z<|yy (av' aL' aD' z) z<|sg z z<|nr<|mv z z<|mv z z<|mv z z ?_
 obtain⟨bi,hr⟩:=hr
 refine WL.slice3 (r:=Rp.str) z z aI' sz9 z bd z z z bi fun p2 bf=>yy (au' (vs:=#[(0,.slice p2 (([ZE,ZD,ZA].take (i64.wrap (Int.tmod A.n 4)).toNat).drop (0:Int).toNat).length ((([ZE,ZD,ZA].take (i64.wrap (Int.tmod A.n 4)).toNat).drop (0:Int).toNat).length)),(3,i' 1)]) (v:=.agg ([.slice p2 (([ZE,ZD,ZA].take (i64.wrap (Int.tmod A.n 4)).toNat).drop (0:Int).toNat).length ((([ZE,ZD,ZA].take (i64.wrap (Int.tmod A.n 4)).toNat).drop (0:Int).toNat).length),.slice none 0 0,.slice none 0 0,i' 1]).toArray) z z (fun _=>by kernel_rfl)) z<|X' 5 z z42 z fun b3=>B' 5 z sz42 z z z z z (List.all_eq_true.1 z)<|nx<|g'<|sr<|sx0 z z<|ab' (fun (⟨E,T,S,D,P,O,Q,y,H,J,L,I,ai⟩:(List ByteArray)×Option Addr×Nat×(List Zg)×Option Addr×Nat×Option Ow×(List Zg)×Option Addr×Nat×Option Ow×Int×Mem)=>[(2,pt0 b2),(5,pt0 b3)]) (fun ⟨E,T,S,D,P,O,Q,y,H,J,L,I,ai⟩=>Mem.le aI ai/\sl Rp.str ai T S E/\sl U' ai P O D/\Tok 2 70 (.slice P D.length O) D.length Q/\sl U' ai H J y/\Tok 2 70 (.slice H y.length J) y.length L/\(ZbG E D y I).Ret r) (fun ⟨E,T,S,D,P,O,Q,y,H,J,L,I,ai⟩=>St w0 G0 ai [(2,bk0 b2 ([.slice none 0 0,.slice none 0 0,.slice none 0 0,i' 0]) 42),(5,bk0 b3 ([.slice T E.length S,.slice P D.length O,.slice H y.length J,i' I]) 42),(310051,Q),(310052,L)]) ?_ ?_
 .refine y' ?_
  let aq:(((List ByteArray)×(List Zg)×(List Zg)×Int))->Prop:=fun oo=>((fun ov=>match ov with|(E,D,y,I)=>ZbG E D y I:(((List ByteArray)×(List Zg)×(List Zg)×Int))->Cq Zm) oo).wp (fun a=>a=r)
  replace hr:(Cq.loop _ _).wp aq:=hr
  refine ac' (Φ:=aq) (fun (⟨M,f,g,k,l,q,s,t,d,n,m,p,c,W⟩:Int×(List ByteArray)×Option Addr×Nat×(List Zg)×Option Addr×Nat×Option Ow×(List Zg)×Option Addr×Nat×Option Ow×Int×Mem)=>((M,f,l,d,c):Int×(List ByteArray)×(List Zg)×(List Zg)×Int)) (fun ⟨M,f,g,k,l,q,s,t,d,n,m,p,c,W⟩=>[(1,pt0 b1),(2,pt0 b2),(4,i' (i64.wrap (Int.tmod A.n 4))),(5,pt0 b3),(6,i' M)]) (fun ⟨M,f,g,k,l,q,s,t,d,n,m,p,c,W⟩=>Mem.le aI W/\sl Rp.str W g k f/\sl U' W q s l/\Tok 2 70 (.slice q l.length s) l.length t/\sl U' W n m d/\Tok 2 70 (.slice n d.length m) d.length p) (fun ⟨M,f,g,k,l,q,s,t,d,n,m,p,c,W⟩=>St w0 G0 W [(1,bk0 b1 (v37' A af ad R U) 37),(2,bk0 b2 ([.slice none 0 0,.slice none 0 0,.slice none 0 0,i' 0]) 42),(5,bk0 b3 ([.slice g f.length k,.slice q l.length s,.slice n d.length m,i' c]) 42),(310051,t),(310052,p)]) ⟨0,(([ZE,ZD,ZA].take (i64.wrap (Int.tmod A.n 4)).toNat).drop (0:Int).toNat),p2,(([ZE,ZD,ZA].take (i64.wrap (Int.tmod A.n 4)).toNat).drop (0:Int).toNat).length,[],none,0,none,[],none,0,none,1,aI⟩ hr (f5 z z z z z) ⟨mr,bf,(ay' _ _),cb',(ay' _ _),cb'⟩ (wk (lc z (lc z (lc z (lw (lw ln)))))) ?_
  .intro aP gx hx hr
   obtain⟨M,f,g,k,l,q,s,t,d,n,m,p,c,W⟩:=gx
   obtain⟨F,X,ag,Y,aa,V⟩:=hx
   refine aO' (fun (gx:Mem)=>match gx with|ah=>[(1,pt0 b1),(2,pt0 b2),(4,i' (i64.wrap (Int.tmod A.n 4))),(5,pt0 b3),(6,i' M)]) (fun (gx:Mem)=>match gx with|ah=>Mem.le W ah/\(ZcX A M f l d c).wp (Out aP aq)) (fun (gx:Mem)=>match gx with|ah=>St w0 G0 ah [(1,bk0 b1 (v37' A af ad R U) 37),(2,bk0 b2 ([.slice none 0 0,.slice none 0 0,.slice none 0 0,i' 0]) 42),(5,bk0 b3 ([.slice g f.length k,.slice q l.length s,.slice n d.length m,i' c]) 42),(310051,t),(310052,p)]) ?_ ?_
   .refine sr<|mv z z<|yy (Y0.ZlT z) z<|yy (o' 1 sc22 z z z) z<|yy (O' dq' (am.mono (mx ab F)) z) z<|aE' hr z (aa' z z) z (fun bl hr=>?_) (fun bl hr=>?_)
    .refine mv z z<|gy z z (c' z) z<|gy z z (aa' z z) z<|yy (w' z z) z<|nx<|P' hr z (fun bg hr=>?_) (fun bg hr=>?_)
     .refine n'<|ax' W ⟨mr,hr⟩ (f5 z z z z z) (w5 z z z z z)
     refine ae'<|h'<|h'<|I'<|af' ⟨f,g,k,l,q,s,t,d,n,m,p,c,W⟩ ⟨F,X,ag,Y,aa,V,hr⟩ (f2 z z) (w4 z z z z)
    refine mv z z<|sn2 z<|yy (t' z z) z<|nx<|bw' z<|ae'<|h'<|h'<|I'<|af' ⟨f,g,k,l,q,s,t,d,n,m,p,c,W⟩ ⟨F,X,ag,Y,aa,V,hr⟩ (f2 z z) (w4 z z z z)
   rintro ah ⟨B,hr⟩
   refine g'<|y'<|sr<|sx0 z z<|aO' (fun (⟨o,ax⟩:Int×Mem)=>[(1,pt0 b1),(2,pt0 b2),(4,i' (i64.wrap (Int.tmod A.n 4))),(5,pt0 b3),(6,i' M),(7,i' o)]) (fun ⟨o,ax⟩=>Mem.le ah ax/\(ZcW A M f l d c o).wp (Out aP aq)) (fun ⟨o,ax⟩=>St w0 G0 ax [(1,bk0 b1 (v37' A af ad R U) 37),(2,bk0 b2 ([.slice none 0 0,.slice none 0 0,.slice none 0 0,i' 0]) 42),(5,bk0 b3 ([.slice g f.length k,.slice q l.length s,.slice n d.length m,i' c]) 42),(310051,t),(310052,p)]) ?_ ?_
   .refine sr<|yy (Y0.ZjM z) z<|yy (o' 1 sc35 z z z) z<|yy (O' cn' (Z.mono (mx (mx ab F) B)) z) z<|yy (aS' z z) z<|nx<|P' hr z (fun bc hr=>?_) (fun bc hr=>?_)
    .refine ak' [ff,ff,ff,ff,ff,ff,ff] mix (by kernel_rfl) fun hb=>cn (fun _ x=>Y0.ZjM z)<|cn (fun _ x=>o' 1 sc35 z z z)<|cn (fun _ x=>c' z)<|cn (fun _ x=>Y0.ZjM z)<|cn (fun _ x=>o' 1 sc35 z z z)<|cn (fun _ x=>O' cn' ((Z.mono (mx (mx ab F) B)).mono x) z) ?_
     obtain⟨bh,hr⟩:=hr
     refine cn (fun _ x=>bP' z z bh)<|ah' hb ?_
     obtain⟨x2,aO,hr⟩:=hr
     refine yy (V' cn' sz5 (Z.mono (mx (mx ab F) B)) z z aO) z<|yy (aj' sc5 z (aJ' (J' (Z' Z aO) (mx (mx ab F) B)))) z<|yy (bP' z z (by decide)) z<|yy (av' aL' aD' z) z<|sg z z<|q'<|am'<|ax' ⟨i64.wrap (Int.tmod x2 4),ah⟩ ⟨mr,hr⟩ (f6 z z z z z z) (w5 z z z z z)
    refine n'<|ax' ⟨0,ah⟩ ⟨mr,hr⟩ (f6 z z z z z z) (w5 z z z z z)
   rintro⟨o,ax⟩ ⟨K,hr⟩
   refine g'<|ak' [ff,ff,ff,ff,ff,ff,ff,ff,ff,ff,ff,ff,ff] mix (by kernel_rfl) fun hb=>cn (fun _ x=>bz' z)<|cn (fun _ x=>o' 5 sc3 z z z)<|cn (fun _ x=>c' z)<|cn (fun _ x=>W' z z)<|cn (fun _ x=>Y0.ZlT z)<|cn (fun _ x=>o' 1 sc22 z z z)<|cn (fun _ x=>c' z) ?_
   obtain⟨x1,aR,hr⟩:=hr
   refine cn (fun _ x=>V' dq' sz93 ((am.mono (mx (mx (mx ab F) B) K)).mono x) z z aR) ?_
   obtain⟨bu,bo,a9,aS⟩:=ZjE (J' (Z' am aR) (mx (mx (mx ab F) B) K))
   refine cn (fun _ x=>ao' _ ag93 z z (fun j v hv=>x _ _ _ (a9 j v hv)))<|cn (fun _ x=>c' z) ?_
   obtain⟨C,aY,hr⟩:=hr
   refine az' (post:=wl' a' C) (fun _=>z) (fun _ _=>m' E42 z) (ff' aY) z (fun G' x=>(aS.mono x)) (fun v G1 G2 x h=>?_) ?_
   .obtain⟨ao,an,rfl,ar⟩:=h
    exact⟨_,_,z,ar.mono x⟩
   refine bF' (φ:=fun G v=>∃ p3 ac,v = .agg ([i' (i64.wrap (c+o)),.slice p3 C.length ac]).toArray/\sl a' G p3 ac C) (fun _=>z) (fun v G1 G2 x h=>?_) (fun u G' x hu=>?_) ?_
   .obtain⟨p3,ac,rfl,aC⟩:=h
    exact⟨_,_,z,aC.mono x⟩
   .obtain⟨⟨ao,an,aN,ar⟩,_⟩:=(show (wl' a' C) G'.m (u 55)/\True from hu)
    simp only[undFr,aN]
    exact⟨_,au' (vs:=#[(0,i' (i64.wrap (c+o))),(1,.slice ao C.length an)]) (v:=.agg ([i' (i64.wrap (c+o)),.slice ao C.length an]).toArray) z z (fun _=>by kernel_rfl),ao,an,z,ar⟩
   refine bN' (fun _=>z) z70<|Chain.tailX3 (fun bE bv bw X1 ae aK aG aE=>?_)
   obtain⟨b4,rfl,aW⟩:=aK
   obtain⟨p3,ac,rfl,aC⟩:=aG
   obtain⟨ao,an,rfl,ar⟩:=aE
   refine WL.adopt aW (ds' (show WL _ _ _ _ _ _ (St w0 G0 X1.m _) from ?_))
   refine B' 8 z bR' z z z z z (List.all_eq_true.1 z)<|q'<|am'<|b'<|g'<|sr<|mv z z<|yy (bP' z z (by decide)) z<|yy (aH' z z) z<|nx<|P' hr z (fun bm hr=>?_) (fun bm hr=>?_)
   .refine x'<|yy (bA' z) z<|yy (o' 5 bO' z z z) z<|yy (D' 8 ag70 z z z) z<|aF' (e:=70) (r:=U') (vs:=#[(0,.agg ([i' (i64.wrap (c+o)),.slice p3 C.length ac]).toArray)]) (cs:=[i' (i64.wrap (c+o)),.slice p3 C.length ac]++([])) ([(Zg.mk (i64.wrap (c+o)) C)]:List Zg) z z z z z (by decide) (fun _=>by kernel_rfl) ⟨[i' (i64.wrap (c+o)),.slice p3 C.length ac],[],z,⟨[i' (i64.wrap (c+o))],[.slice p3 C.length ac],z,z,⟨_,z,aC⟩⟩,z⟩ (key:=999) z (by rw[aw]; rfl) (fun p4 bD ak ba=>?_)
    obtain⟨aV,hr⟩:=hr
    have N1:=mx (mx (mx B K) ae) ak
    refine bb' (r:=U') 310052 z z Y' el70 z (by decide) z z (aa.mono N1) z (by rw[aw]; rfl) V ba aV fun p5 aH a5 be au bk a2=>yy (bA' z) z<|by' 5 ([.slice g f.length k,.slice q l.length s,.slice p5 (d++[(Zg.mk (i64.wrap (c+o)) C)]).length aH,i' c]).toArray z sz40 z z z (show 2<4 by decide) z z<|nx<|x'<|yy (bt' z) z<|yy (o' 8 sc3 z z z) z<|yy (W' z z) z<|yy (bz' z) z<|by' 5 ([.slice g f.length k,.slice q l.length s,.slice p5 (d++[(Zg.mk (i64.wrap (c+o)) C)]).length aH,i' (i64.wrap ((i64.wrap (c+o))+1))]).toArray z sz3 z z z (show 3<4 by decide) z z<|q'<|F'<|b'<|x'<|mv z z<|yy (W' z z) z<|sg z z<|q'<|T' ⟨i64.wrap (M+1),f,g,k,l,q,s,t,(d++[(Zg.mk (i64.wrap (c+o)) C)]),p5,aH,a5,i64.wrap ((i64.wrap (c+o))+1),be⟩ hr ⟨(mx (mx (mx (mx (mx F B) K) ae) ak) au),(X.mono (mx N1 au)),(ag.mono (mx N1 au)),Y,bk,a2⟩ (f5 z z z z z) (w5 z z z z z)
   refine x'<|yy (bx' z) z<|yy (o' 5 bO' z z z) z<|yy (D' 8 ag70 z z z) z<|aF' (e:=70) (r:=U') (vs:=#[(0,.agg ([i' (i64.wrap (c+o)),.slice p3 C.length ac]).toArray)]) (cs:=[i' (i64.wrap (c+o)),.slice p3 C.length ac]++([])) ([(Zg.mk (i64.wrap (c+o)) C)]:List Zg) z z z z z (by decide) (fun _=>by kernel_rfl) ⟨[i' (i64.wrap (c+o)),.slice p3 C.length ac],[],z,⟨[i' (i64.wrap (c+o))],[.slice p3 C.length ac],z,z,⟨_,z,aC⟩⟩,z⟩ (key:=999) z (by rw[aw]; rfl) (fun p6 bC al a8=>?_)
   obtain⟨a1,hr⟩:=hr
   have N2:=mx (mx (mx B K) ae) al
   refine bb' (r:=U') 310051 z z Y' el70 z (by decide) z z (ag.mono N2) z (by rw[aw]; rfl) Y a8 a1 fun p7 aL aU bj ap bb aZ=>yy (bx' z) z<|by' 5 ([.slice g f.length k,.slice p7 (l++[(Zg.mk (i64.wrap (c+o)) C)]).length aL,.slice n d.length m,i' c]).toArray z sz40 z z z (show 1<4 by decide) z z<|nx<|x'<|yy (bt' z) z<|yy (o' 8 sc3 z z z) z<|yy (W' z z) z<|yy (bz' z) z<|by' 5 ([.slice g f.length k,.slice p7 (l++[(Zg.mk (i64.wrap (c+o)) C)]).length aL,.slice n d.length m,i' (i64.wrap ((i64.wrap (c+o))+1))]).toArray z sz3 z z z (show 3<4 by decide) z z<|q'<|F'<|b'<|x'<|mv z z<|yy (W' z z) z<|sg z z<|q'<|T' ⟨i64.wrap (M+1),f,g,k,(l++[(Zg.mk (i64.wrap (c+o)) C)]),p7,aL,aU,d,n,m,p,i64.wrap ((i64.wrap (c+o))+1),bj⟩ hr ⟨(mx (mx (mx (mx (mx F B) K) ae) al) ap),(X.mono (mx N2 ap)),bb,aZ,(aa.mono (mx N2 ap)),V⟩ (f5 z z z z z) (w5 z z z z z)
 rintro⟨E,T,S,D,P,O,Q,y,H,J,L,I,ai⟩ ⟨bn,aA,aF,a3,aB,aQ,hr⟩
 refine b'<|sr<|yy (D' 5 ag42 z z z) z<|B' 2 z sz42 z z z z z (List.all_eq_true.1 z)<|nx<|k' ?_
 obtain rfl:_=r:=hr
 exact j' z (aw' (i:=2) ag42 z z z) ⟨_,_,_,_,_,_,z,aA,aF,aB⟩
theorem eZ'{n1 r}(hr:(Zf2 n1).Ret r):Ctr prog 22 #[i' n1] (fun G=>True) (wl' (bD' .i64 8) r):=by
 refine H' (args:=[_]) (N:=63) func22 z z z fun w0 G0 ap bc=>sr<|sg z z<|nr<|yy (au' (vs:=#[(0,i' 0),(1,i' 1),(2,i' 2),(3,i' 3),(4,i' 4),(5,i' 5),(6,i' 6),(7,i' 7)]) (v:=.agg (vecG (Value.int .i64) 8 (setF (setF (setF (setF (setF (setF (setF (setF (fun _=>0) 0 0) 1 1) 2 2) 3 3) 4 4) 5 5) 6 6) 7 7)).toArray) z z (fun _=>by kernel_rfl)) z<|aF' (e:=44) (r:=(bD' .i64 8)) (vs:=#[(0,.agg (vecG (Value.int .i64) 8 (setF (setF (setF (setF (setF (setF (setF (setF (fun _=>0) 0 0) 1 1) 2 2) 3 3) 4 4) 5 5) 6 6) 7 7)).toArray)]) (cs:=(vecG (Value.int .i64) 8 (setF (setF (setF (setF (setF (setF (setF (setF (fun _=>0) 0 0) 1 1) 2 2) 3 3) 4 4) 5 5) 6 6) 7 7))++([])) ([setF (setF (setF (setF (setF (setF (setF (setF (fun _=>0) 0 0) 1 1) 2 2) 3 3) 4 4) 5 5) 6 6) 7 7]:List (Fin 8->Int)) z z z z z (by decide) (fun _=>by kernel_rfl) ⟨vecG (Value.int .i64) 8 (setF (setF (setF (setF (setF (setF (setF (setF (fun _=>0) 0 0) 1 1) 2 2) 3 3) 4 4) 5 5) 6 6) 7 7),[],z,z,z⟩ (key:=999) z (by rw[ap]; rfl) fun p1 az a8 a0=>sx0 z z<|g'<|sr<|sx0 z z<|ab' (fun (⟨L,P,O,aa⟩:(List (Fin 8->Int))×Option Addr×Nat×Mem)=>[(3,.slice P L.length O)]) (fun ⟨L,P,O,aa⟩=>Mem.le az aa/\sl (bD' .i64 8) aa P O L/\(ZdW L).Ret r) (fun ⟨L,P,O,aa⟩=>St w0 G0 aa []) ?_ ?_
 .refine y' ?_
  let ab:(((List (Fin 8->Int))))->Prop:=fun oo=>((fun ov=>match ov with|L=>ZdW L:(((List (Fin 8->Int))))->Cq ((List (Fin 8->Int)))) oo).wp (fun a=>a=r)
  replace hr:(Cq.loop _ _).wp ab:=hr
  refine ac' (Φ:=ab) (fun (⟨p,i,h,J,T⟩:(List (Fin 8->Int))×Option Addr×Nat×Int×Mem)=>((p,J):(List (Fin 8->Int))×Int)) (fun ⟨p,i,h,J,T⟩=>[(0,i' n1),(3,.slice i p.length h),(4,i' J)]) (fun ⟨p,i,h,J,T⟩=>Mem.le az T/\sl (bD' .i64 8) T i h p) (fun ⟨p,i,h,J,T⟩=>St w0 G0 T []) ⟨[setF (setF (setF (setF (setF (setF (setF (setF (fun _=>0) 0 0) 1 1) 2 2) 3 3) 4 4) 5 5) 6 6) 7 7],p1,1,0,az⟩ hr (f3 z z z) ⟨mr,a0⟩ (wk ln) ?_
  .intro aI gx hx hr
   obtain⟨p,i,h,J,T⟩:=gx
   obtain⟨ao,D⟩:=hx
   refine g'<|sr<|mv z z<|mv z z<|yy (aa' z z) z<|nx<|P' hr z (fun a6 hr=>?_) (fun a6 hr=>?_)
   .refine n'<|b'<|g'<|y'<|sr<|aF' (e:=44) (r:=(bD' .i64 8)) (vs:=#[]) (cs:=[]) ([]:List (Fin 8->Int)) z z z z z (by decide) (fun _=>by kernel_rfl) (z) (key:=999) z (by rw[ap]; rfl) fun p2 av C a2=>sx0 z z<|g'<|sr<|sx0 z z<|ab' (fun (⟨k,y,t,F,W⟩:(List (Fin 8->Int))×Option Addr×Nat×Option Ow×Mem)=>[(0,i' n1),(4,i' J),(5,.slice y k.length t)]) (fun ⟨k,y,t,F,W⟩=>Mem.le av W/\sl (bD' .i64 8) W y t k/\Tok 8 44 (.slice y k.length t) k.length F/\(ZdX J k).wp (Out aI ab)) (fun ⟨k,y,t,F,W⟩=>St w0 G0 W [(1005,F)]) ?_ ?_
    .refine y' ?_
     let ad:(((List (Fin 8->Int))))->Prop:=fun oo=>((fun ov=>match ov with|k=>ZdX J k:(((List (Fin 8->Int))))->Cq (((List (Fin 8->Int))×Int)⊕(((List (Fin 8->Int)))))) oo).wp (Out aI ab)
     replace hr:(Cq.loop _ _).wp ad:=hr
     refine ac' (Φ:=ad) (fun (⟨o,m,l,j,R,K⟩:(List (Fin 8->Int))×Option Addr×Nat×Option Ow×Int×Mem)=>((o,R):(List (Fin 8->Int))×Int)) (fun ⟨o,m,l,j,R,K⟩=>[(0,i' n1),(3,.slice i p.length h),(4,i' J),(5,.slice m o.length l),(6,i' R)]) (fun ⟨o,m,l,j,R,K⟩=>Mem.le av K/\sl (bD' .i64 8) K m l o/\Tok 8 44 (.slice m o.length l) o.length j) (fun ⟨o,m,l,j,R,K⟩=>St w0 G0 K [(1005,j)]) ⟨[],p2,0,none,0,av⟩ hr (f5 z z z z z) ⟨mr,a2,cb'⟩ (wk (lw ln)) ?_
     .intro aH gx hx hr
      obtain⟨o,m,l,j,R,K⟩:=gx
      obtain⟨q,ag,Z⟩:=hx
      refine g'<|sr<|mv z z<|mv z z<|yy (O' bm' (D.mono (mx C q)) z) z<|yy (aa' z z) z<|nx<|P' hr z (fun aZ hr=>?_) (fun aZ hr=>?_)
      .refine n'<|b'<|g'<|y'<|sr<|mv z z<|sx0 z z<|ab' (fun (⟨n,A,B,s,V⟩:(List (Fin 8->Int))×Option Addr×Nat×Option Ow×Mem)=>[(0,i' n1),(3,.slice i p.length h),(4,i' J),(5,.slice A n.length B),(6,i' R)]) (fun ⟨n,A,B,s,V⟩=>Mem.le K V/\sl (bD' .i64 8) V A B n/\Tok 8 44 (.slice A n.length B) n.length s/\(ZdY R n).wp (Out aH ad)) (fun ⟨n,A,B,s,V⟩=>St w0 G0 V [(1005,s)]) ?_ ?_
       .refine y' ?_
        let ae:(((List (Fin 8->Int))))->Prop:=fun oo=>((fun ov=>match ov with|n=>ZdY R n:(((List (Fin 8->Int))))->Cq (((List (Fin 8->Int))×Int)⊕(((List (Fin 8->Int)))))) oo).wp (Out aH ad)
        replace hr:(Cq.loop _ _).wp ae:=hr
        refine ac' (Φ:=ae) (fun (⟨c,g,f,d,M,I⟩:(List (Fin 8->Int))×Option Addr×Nat×Option Ow×Int×Mem)=>((c,M):(List (Fin 8->Int))×Int)) (fun ⟨c,g,f,d,M,I⟩=>[(0,i' n1),(3,.slice i p.length h),(4,i' J),(5,.slice g c.length f),(6,i' R),(7,i' M)]) (fun ⟨c,g,f,d,M,I⟩=>Mem.le K I/\sl (bD' .i64 8) I g f c/\Tok 8 44 (.slice g c.length f) c.length d) (fun ⟨c,g,f,d,M,I⟩=>St w0 G0 I [(1005,d)]) ⟨o,m,l,j,J,K⟩ hr (f6 z z z z z z) ⟨mr,ag,Z⟩ (w1 z) ?_
        .intro aL gx hx hr
         obtain⟨c,g,f,d,M,I⟩:=gx
         obtain⟨E,af,Y⟩:=hx
         refine g'<|sr<|mv z z<|mv z z<|yy (aa' z z) z<|nx<|P' hr z (fun a3 hr=>?_) (fun a3 hr=>?_)
         .refine n'<|b'<|g'<|y'<|sr<|mv z z<|mv z z ?_
          obtain⟨x1,aM,hr⟩:=hr
          refine yy (V' bm' sz44 (D.mono (mx (mx C q) E)) z z aM) z<|yy (ao' _ ag44 z (Q' _ _ _) (bK' (J' (Z' D aM) (mx (mx C q) E)))) z<|X' 8 z z44 z fun b1=>B' 8 z sz44 z z z (Q' _ _ _) (Q' _ _ _) (fun u hu=>Rp.one (bD' .i64 8) (G:=I) (x:=x1) (cs:=vecG (Value.int .i64) 8 x1) z u (by first|simpa using hu|simpa [Value.cells] using hu))<|nr<|mv z z<|mv z z<|mv z z<|mv z z ?_
          obtain⟨x2,aG,hr⟩:=hr
          refine yy (V' bm' sz44 (D.mono (mx (mx C q) E)) z z aG) z ?_
          obtain⟨aJ,hr⟩:=hr
          refine yy (Y0.idxA aZ' sz3 z z aJ) z<|yy (aj' sc3 z (dQ' (J' (Z' D aG) (mx (mx C q) E)) aJ)) z ?_
          obtain⟨aS,hr⟩:=hr
          refine yy (aT' aZ' sz3 z z aS) z<|by' 8 (vecG (Value.int .i64) 8 (setF x1 J.toNat (getF x2 M))).toArray z sz3 z z z (by first|(rw[Q']; omega)|(show _<(vecG _ _ _).toArray.size; rw[Q']; omega)) z (cL' _ _ _ _ _)<|nx<|g'<|sr<|mv z z<|sx0 z z<|ab' (fun (⟨H,ai⟩:(Fin 8->Int)×Mem)=>[(0,i' n1),(3,.slice i p.length h),(4,i' J),(5,.slice g c.length f),(6,i' R),(7,i' M),(8,pt0 b1)]) (fun ⟨H,ai⟩=>Mem.le I ai/\(ZdZ c M H).wp (Out aL ae)) (fun ⟨H,ai⟩=>St w0 G0 ai [(8,bk0 b1 (vecG (Value.int .i64) 8 H) 44),(1005,d)]) ?_ ?_
          .refine y' ?_
           let aw:(Fin 8->Int)->Prop:=fun oo=>((fun ov=>match ov with|H=>ZdZ c M H:(Fin 8->Int)->Cq (((List (Fin 8->Int))×Int)⊕(((List (Fin 8->Int)))))) oo).wp (Out aL ae)
           replace hr:(Cq.loop _ _).wp aw:=hr
           refine ac' (Φ:=aw) (fun (⟨X,Q,S⟩:Int×(Fin 8->Int)×Mem)=>((X,Q):Int×(Fin 8->Int))) (fun ⟨X,Q,S⟩=>[(0,i' n1),(3,.slice i p.length h),(4,i' J),(5,.slice g c.length f),(6,i' R),(7,i' M),(8,pt0 b1),(9,i' X)]) (fun ⟨X,Q,S⟩=>Mem.le I S) (fun ⟨X,Q,S⟩=>St w0 G0 S [(8,bk0 b1 (vecG (Value.int .i64) 8 Q) 44),(1005,d)]) ⟨M,setF x1 J.toNat (getF x2 M),I⟩ hr (f8 z z z z z z z z) mr (w2 z z) ?_
           .intro be gx hx hr
            obtain⟨X,Q,S⟩:=gx
            have U:=hx
            refine g'<|sr<|mv z z<|mv z z<|yy (aS' z z) z<|nx<|P' hr z (fun aY hr=>?_) (fun aY hr=>?_)
            .refine n'<|b'<|g'<|y'<|x'<|mv z z<|mv z z<|mv z z<|mv z z<|yy (ba' z z) z ?_
             obtain⟨x3,aK,hr⟩:=hr
             refine yy (V' bm' sz44 (D.mono (mx (mx (mx C q) E) U)) z z aK) z ?_
             obtain⟨aN,hr⟩:=hr
             refine yy (Y0.idxA aZ' sz3 z z aN) z<|yy (aj' sc3 z (dQ' (J' (Z' D aK) (mx (mx (mx C q) E) U)) aN)) z ?_
             obtain⟨aX,hr⟩:=hr
             refine yy (aT' aZ' sz3 z z aX) z<|by' 8 (vecG (Value.int .i64) 8 (setF Q X.toNat (getF x3 (i64.wrap (X-1))))).toArray z sz3 z z z (by first|(rw[Q']; omega)|(show _<(vecG _ _ _).toArray.size; rw[Q']; omega)) z (cL' _ _ _ _ _)<|q'<|F'<|b'<|x'<|mv z z<|yy (ba' z z) z<|sg z z<|q'<|T' ⟨i64.wrap (X-1),setF Q X.toNat (getF x3 (i64.wrap (X-1))),S⟩ hr U (f8 z z z z z z z z) (w2 z z)
            refine ae'<|h'<|h'<|I'<|af' ⟨Q,S⟩ ⟨U,hr⟩ (f7 z z z z z z z) (w2 z z)
          rintro⟨H,ai⟩ ⟨ar,hr⟩
          refine b'<|x'<|mv z z<|yy (D' 8 ag44 z z (Q' _ _ _)) z<|aF' (e:=44) (r:=(bD' .i64 8)) (vs:=#[(0,.agg (vecG (Value.int .i64) 8 H).toArray)]) (cs:=(vecG (Value.int .i64) 8 H)++([])) ([H]:List (Fin 8->Int)) z z z z z (by decide) (fun _=>by kernel_rfl) ⟨vecG (Value.int .i64) 8 H,[],z,z,z⟩ (key:=999) z (by rw[ap]; rfl) (fun p3 bd aq a1=>?_)
          obtain⟨aP,hr⟩:=hr
          refine bb' (r:=(bD' .i64 8)) 1005 z z bm' el44 z (by decide) z z (af.mono (mx ar aq)) z (by rw[ap]; rfl) Y a1 aP fun p4 aW aQ aT aE aV aO=>sg z z<|q'<|F'<|b'<|x'<|mv z z<|yy (W' z z) z<|sg z z<|q'<|T' ⟨(c++[H]),p4,aW,aQ,i64.wrap (M+1),aT⟩ hr ⟨(mx (mx (mx E ar) aq) aE),aV,aO⟩ (f6 z z z z z z) (w1 z)
         refine ae'<|h'<|h'<|I'<|af' ⟨c,g,f,d,I⟩ ⟨E,af,Y,hr⟩ (f5 z z z z z) (w1 z)
       rintro⟨n,A,B,s,V⟩ ⟨aC,ax,au,hr⟩
       refine F'<|b'<|x'<|mv z z<|yy (W' z z) z<|sg z z<|q'<|T' ⟨n,A,B,s,i64.wrap (R+1),V⟩ hr ⟨(mx q aC),ax,au⟩ (f5 z z z z z) (w1 z)
      refine ae'<|h'<|h'<|I'<|af' ⟨o,m,l,j,K⟩ ⟨q,ag,Z,hr⟩ (f3 z z z) (w1 z)
    rintro⟨k,y,t,F,W⟩ ⟨aA,ay,aR,hr⟩
    refine b'<|x'<|mv z z<|sg z z<|q'<|F'<|b'<|x'<|mv z z<|yy (W' z z) z<|sg z z<|q'<|T' ⟨k,y,t,i64.wrap (J+1),W⟩ hr ⟨(mx (mx ao C) aA),ay⟩ (f3 z z z) (wk ln)
   refine ae'<|h'<|h'<|I'<|af' ⟨p,i,h,T⟩ ⟨ao,D,hr⟩ (f1 z) (wk ln)
 rintro⟨L,P,O,aa⟩ ⟨a7,aF,hr⟩
 refine b'<|sr<|mv z z<|sx0 z z<|k' ?_
 obtain rfl:_=r:=hr
 exact j' z z ⟨_,_,z,aF⟩
theorem eE'{c r}(hr:(Zbz c).Ret r):Ctr prog 113 #[.agg (vecG (Value.int .i64) 8 c).toArray] (fun G=>True) (fun G v=>v = .bool r):=by
 refine H' (args:=[_]) (N:=31) func113 z z z fun y j M H=>sr<|ai' 1 z z z fun q=>sg z z<|nr<|yy (au' (vs:=#[]) (v:=.agg (vecG Value.bool 8 (fun _=>false)).toArray) z z (fun _=>by kernel_rfl)) z<|X' 3 z z111 z fun B=>B' 3 z sz111 z z z (Q' _ _ _) (Q' _ _ _) (fun u A=>Rp.one (Rp.vecB 8) (G:=j) (x:=(fun _=>false)) (cs:=vecG Value.bool 8 (fun _=>false)) z u (by first|simpa using A|simpa [Value.cells] using A))<|nx<|g'<|sr<|sx0 z z<|ab' (fun (h:Mem)=>match h with|g=>[]) (fun (h:Mem)=>match h with|g=>Mem.le j g/\(ZaI).Ret r) (fun (h:Mem)=>match h with|g=>St y j g []) ?_ ?_
 .refine y' ?_
  let k:(Bool⊕Unit)->Prop:=fun J=>((fun I=>match I with | .inl rv1=>Cq.ret rv1 | .inr ()=>ZaI:(Bool⊕Unit)->Cq Bool) J).wp (fun a=>a=r)
  replace hr:(Cq.loop _ _).wp k:=hr
  refine ac' (Φ:=k) (fun (⟨f,d,e⟩:Int×(Fin 8->Bool)×Mem)=>((f,d):Int×(Fin 8->Bool))) (fun ⟨f,d,e⟩=>[(1,pt0 q),(3,pt0 B),(4,i' f)]) (fun ⟨f,d,e⟩=>Mem.le j e) (fun ⟨f,d,e⟩=>St y j e [(1,bk0 q (vecG (Value.int .i64) 8 c) 44),(3,bk0 B (vecG Value.bool 8 d) 111)]) ⟨0,(fun _=>false),j⟩ hr (f3 z z z) mr (w2 z z) ?_
  .intro L h K hr
   obtain⟨f,d,e⟩:=h
   have i:=K
   refine g'<|sr<|mv z z<|yy (aa' z z) z<|nx<|P' hr z (fun E hr=>?_) (fun E hr=>?_)
   .refine n'<|b'<|g'<|y'<|g'<|sr<|mv z z ?_
    obtain⟨l,hr⟩:=hr
    refine yy (aT' aZ' sz3 z z l) z<|yy (o' 1 sc3 z z (bh' _ _ _ l)) z<|aE' hr z (aa' z z) z (fun D hr=>?_) (fun D hr=>?_)
    .refine mv z z<|sn4 z<|yy (w' z z) z<|mv z z<|sn5 z<|yy (w' z z) z<|nx<|aB' z<|sr<|sx0 z z<|k'<|f'<|A'<|f'<|f'<|A'<|an'<|f' (k0' hr z z)
    refine mv z z<|gy z z (c' z) z ?_
    obtain⟨n,hr⟩:=hr
    refine gy z z (aT' aZ' sz3 z z n) z<|gy z z (o' 1 sc3 z z (bh' _ _ _ n)) z<|aE' hr (E' z z) (bH' z z) z (fun C hr=>?_) (fun C hr=>?_)
    .refine yy (t' z z) z<|mv z z<|sn5 z<|yy (w' z z) z<|nx<|aB' z<|sr<|sx0 z z<|k'<|f'<|A'<|f'<|f'<|A'<|an'<|f' (k0' hr z z)
    refine yy (t' z z) z<|mv z z<|gy z z (c' z) z ?_
    obtain⟨p,hr⟩:=hr
    refine gy z z (aT' aZ' sz3 z z p) z<|gy z z (o' 1 sc3 z z (bh' _ _ _ p)) z ?_
    obtain⟨o,hr⟩:=hr
    refine gy z z (aT' cy' sz4 z z o) z<|gy z z (o' 3 sc4 z z (bh' _ _ _ o)) z<|yy (t' z z) z<|nx<|aK' hr z (fun t hr=>?_) (fun t hr=>?_)
    .exact (show False from hr).elim
    refine n'<|b'<|x'<|mv z z ?_
    obtain⟨m,hr⟩:=hr
    refine yy (aT' aZ' sz3 z z m) z<|yy (o' 1 sc3 z z (bh' _ _ _ m)) z ?_
    obtain⟨s,hr⟩:=hr
    refine yy (aT' cy' sz4 z z s) z<|by' 3 (vecG Value.bool 8 (setF d ((getF c f).toNat) true)).toArray z sz4 z z z (by first|(rw[Q']; omega)|(show _<(vecG _ _ _).toArray.size; rw[Q']; omega)) z (cL' _ _ _ _ _)<|q'<|F'<|b'<|x'<|mv z z<|yy (W' z z) z<|sg z z<|q'<|T' ⟨i64.wrap (f+1),setF d ((getF c f).toNat) true,e⟩ hr i (f3 z z z) (w2 z z)
   refine ae'<|h'<|h'<|I'<|af' e ⟨i,hr⟩ fn (wk ln)
 rintro g ⟨F,hr⟩
 refine b'<|sr<|sx0 z z<|k' (k0' hr z z)
theorem eB'{Q n L R r}(hr:(ZcV Q n).Ret r):Ctr prog 60 #[.slice L Q.length R,.agg (vecG (Value.int .i64) 8 n).toArray] (fun G=>sl a' G L R Q) (wlt' a' r):=by
 refine H' (args:=[_,_]) (N:=47) func60 z z z (fun w0 Y ag ar=>?_)
 have M:=ar
 refine sr<|ai' 3 z z z fun U=>sg z z<|sx0 z z<|g'<|sr<|yy (D' 3 ag44 z z (Q' _ _ _)) z ?_
 obtain⟨aN,ao,hr⟩:=hr
 refine K' z z (m' E113 z) (eE' ao) z (trivial)<|yy (aA' z) z<|nx<|aK' hr z (fun aG hr=>?_) (fun aG hr=>?_)
 .exact (show False from hr).elim
 refine n'<|b'<|sr<|aF' (e:=119) (r:=a') (vs:=#[]) (cs:=[]) ([]:List Za) z z z z z (by decide) (fun _=>by kernel_rfl) (z) (key:=999) z (by rw[ag]; rfl) fun p2 W t aC=>sx0 z z<|g'<|sr<|sx0 z z<|ab' (fun (⟨q,y,s,I⟩:(List Za)×Option Addr×Nat×Mem)=>[(6,.slice y q.length s)]) (fun ⟨q,y,s,I⟩=>Mem.le W I/\sl a' I y s q/\(ZcC q).Ret r) (fun ⟨q,y,s,I⟩=>St w0 Y I []) ?_ ?_
 .refine y' ?_
  let J:(List Za)->Prop:=fun oo=>((fun ov=>match ov with|q=>ZcC q:(List Za)->Cq ((List Za)×Int)) oo).wp (fun a=>a=r)
  replace hr:(Cq.loop _ _).wp J:=hr
  refine ac' (Φ:=J) (fun (⟨i,l,k,H,p⟩:(List Za)×Option Addr×Nat×Int×Mem)=>((i,H):(List Za)×Int)) (fun ⟨i,l,k,H,p⟩=>[(0,.slice L Q.length R),(3,pt0 U),(6,.slice l i.length k),(7,i' H)]) (fun ⟨i,l,k,H,p⟩=>Mem.le W p/\sl a' p l k i) (fun ⟨i,l,k,H,p⟩=>St w0 Y p [(3,bk0 U (vecG (Value.int .i64) 8 n) 44)]) ⟨[],p2,0,0,W⟩ hr (f4 z z z z) ⟨mr,aC⟩ (w1 z) ?_
  .intro af gx hx hr
   obtain⟨i,l,k,H,p⟩:=gx
   obtain⟨o,S⟩:=hx
   refine g'<|sr<|mv z z<|mv z z<|yy (O' C' (M.mono (mx t o)) z) z<|yy (aa' z z) z<|nx<|P' hr z (fun aA hr=>?_) (fun aA hr=>?_)
   .refine n'<|b'<|g'<|y'<|sr<|yy (au' (vs:=#[]) (v:=.agg (vecG (Value.int .i64) 8 (fun _=>0)).toArray) z z (fun _=>by kernel_rfl)) z<|X' 8 z z68 z fun b2=>B' 8 z sz68 z z z (Q' _ _ _) (Q' _ _ _) (fun u hu=>Rp.one (bD' .i64 8) (G:=p) (x:=(fun _=>0)) (cs:=vecG (Value.int .i64) 8 (fun _=>0)) z u (by first|simpa using hu|simpa [Value.cells] using hu))<|nx<|g'<|sr<|sx0 z z<|ab' (fun (⟨m,K⟩:(Fin 8->Int)×Mem)=>[(0,.slice L Q.length R),(3,pt0 U),(6,.slice l i.length k),(7,i' H),(8,pt0 b2)]) (fun ⟨m,K⟩=>Mem.le p K/\(ZcD Q i H m).wp (Out af J)) (fun ⟨m,K⟩=>St w0 Y K [(3,bk0 U (vecG (Value.int .i64) 8 n) 44),(8,bk0 b2 (vecG (Value.int .i64) 8 m) 68)]) ?_ ?_
    .refine y' ?_
     let X:(Fin 8->Int)->Prop:=fun oo=>((fun ov=>match ov with|m=>ZcD Q i H m:(Fin 8->Int)->Cq (((List Za)×Int)⊕(List Za))) oo).wp (Out af J)
     replace hr:(Cq.loop _ _).wp X:=hr
     refine ac' (Φ:=X) (fun (⟨F,A,C⟩:Int×(Fin 8->Int)×Mem)=>((F,A):Int×(Fin 8->Int))) (fun ⟨F,A,C⟩=>[(0,.slice L Q.length R),(3,pt0 U),(6,.slice l i.length k),(7,i' H),(8,pt0 b2),(9,i' F)]) (fun ⟨F,A,C⟩=>Mem.le p C) (fun ⟨F,A,C⟩=>St w0 Y C [(3,bk0 U (vecG (Value.int .i64) 8 n) 44),(8,bk0 b2 (vecG (Value.int .i64) 8 A) 68)]) ⟨0,(fun _=>0),p⟩ hr (f6 z z z z z z) mr (w2 z z) ?_
     .intro aL gx hx hr
      obtain⟨F,A,C⟩:=gx
      have E:=hx
      refine g'<|sr<|mv z z<|yy (aa' z z) z<|nx<|P' hr z (fun aD hr=>?_) (fun aD hr=>?_)
      .refine n'<|b'<|g'<|y'<|ak' [ff,ff,ff,ff,ff,ff,ff,ff,ff,ff] mix (by kernel_rfl) fun hb=>cn (fun _ h=>c' z) ?_
       obtain⟨ah,hr⟩:=hr
       refine cn (fun _ h=>aT' aZ' sz3 z z ah)<|cn (fun _ h=>o' 3 sc3 z z (bh' _ _ _ ah))<|cn (fun _ h=>c' z)<|cn (fun _ h=>c' z)<|cn (fun _ h=>c' z) ?_
       obtain⟨x2,ad,hr⟩:=hr
       refine cn (fun _ h=>V' C' aW' ((M.mono (mx (mx t o) E)).mono h) z z ad)<|cn (fun _ h=>aM' z) ?_
       obtain⟨ae,hr⟩:=hr
       refine cn (fun _ h=>Y0.idxA ar' sz3 z z ae)<|cn (fun _ h=>aj' sc3 z (dQ' (J' (J' (bq' (aG' (Z' M ad))) (mx (mx t o) E)) h) ae))<|ah' hb ?_
       obtain⟨aF,hr⟩:=hr
       refine yy (aT' ar' sz3 z z aF) z<|by' 8 (vecG (Value.int .i64) 8 (setF A ((getF n F).toNat) (getF x2.m F))).toArray z sz3 z z z (by first|(rw[Q']; omega)|(show _<(vecG _ _ _).toArray.size; rw[Q']; omega)) z (cL' _ _ _ _ _)<|q'<|am'<|F'<|b'<|x'<|mv z z<|yy (W' z z) z<|sg z z<|q'<|T' ⟨i64.wrap (F+1),setF A ((getF n F).toNat) (getF x2.m F),C⟩ hr E (f6 z z z z z z) (w2 z z)
      refine ae'<|h'<|h'<|I'<|af' ⟨A,C⟩ ⟨E,hr⟩ (f5 z z z z z) (w2 z z)
    rintro⟨m,K⟩ ⟨D,hr⟩
    refine b'<|ak' [tt,ff,ff,ff,ff,ff,ff] mix (by kernel_rfl) fun hb=>cv' z (c' z)<|cn (fun _ h=>c' z)<|cn (fun _ h=>c' z) ?_
    obtain⟨B,ai,hr⟩:=hr
    refine cn (fun _ h=>V' C' aW' ((M.mono (mx (mx t o) D)).mono h) z z ai)<|cn (fun _ h=>aV' z) ?_
    obtain⟨d,f,g,c,ax,P,O⟩:=ce' (J' (br' (aG' (Z' M ai))) (mx (mx t o) D))
    refine cn (fun _ h=>ao' _ bc' z z (fun j v hv=>h _ _ _ (ax j v hv)))<|cn (fun _ h=>D' 8 bo' z z (Q' _ _ _))<|ah' hb<|yy (au' (vs:=#[(0,.agg ((v59' B.c d f g c)).toArray),(1,.agg (vecG (Value.int .i64) 8 m).toArray)]) (v:=.agg (((v59' B.c d f g c):List Value)++(vecG (Value.int .i64) 8 m)).toArray) z z (fun _=>by kernel_rfl)) z<|aF' (e:=119) (r:=a') (vs:=#[(0,.agg (((v59' B.c d f g c):List Value)++(vecG (Value.int .i64) 8 m)).toArray)]) (cs:=(((v59' B.c d f g c):List Value)++(vecG (Value.int .i64) 8 m))++([])) ([(Za.mk B.c m)]:List Za) z z z z z (by decide) (fun _=>by kernel_rfl) ⟨((v59' B.c d f g c):List Value)++(vecG (Value.int .i64) 8 m),[],z,⟨(v59' B.c d f g c),vecG (Value.int .i64) 8 m,z,⟨(v57' B.c.num d f),(v57' B.c.den g c),z,⟨[.bool B.c.num.neg],[.slice d B.c.num.mag.length f],z,z,⟨_,z,P⟩⟩,⟨[.bool B.c.den.neg],[.slice g B.c.den.mag.length c],z,z,⟨_,z,O⟩⟩⟩,z⟩,z⟩ (key:=999) z (by rw[ag]; rfl) (fun p3 aM T aB=>?_)
    obtain⟨az,ap,hr⟩:=hr
    refine N' z z (m' E41 z) (dz' ap) z (⟨(S.mono (mx D T)),aB⟩) (fun aJ aw Z V=>?_)
    obtain⟨aq,ak,rfl,av⟩:=V
    refine sg z z<|q'<|am'<|F'<|b'<|x'<|mv z z<|yy (W' z z) z<|sg z z<|q'<|T' ⟨az,aq,ak,i64.wrap (H+1),aw⟩ hr ⟨(mx (mx (mx o D) T) Z),av⟩ (f4 z z z z) (w1 z)
   refine ae'<|h'<|h'<|I'<|af' ⟨i,l,k,p⟩ ⟨o,S,hr⟩ (f1 z) (wk ln)
 rintro⟨q,y,s,I⟩ ⟨aH,ac,hr⟩
 refine b'<|sr<|mv z z<|sg z z<|sx0 z z<|k' ?_
 obtain rfl:_=r:=hr
 exact bd' z z z ⟨_,_,z,ac⟩
theorem cQ'{n R l m j g r}(hr:(Zba n R).Ret r):Ctr prog 23 #[.agg ((v28' n l m j g)).toArray,.agg (vecG (Value.int .i64) 8 R).toArray] (fun G=>sl (Rp.sl a') G l m n.eqs/\sl (Rp.sl a') G j g n.neqs) (w28' r):=by
 refine H' (args:=[_,_]) (N:=68) func23 z z z (fun w0 G0 ah br=>?_)
 obtain⟨Q,K⟩:=br
 refine sr<|ai' 2 z z z fun b1=>ai' 3 z z z fun b2=>X' 4 z z28 z fun b3=>nr<|aF' (e:=65) (r:=(Rp.sl a')) (vs:=#[]) (cs:=[]) ([]:List (List Za)) z z z z z (by decide) (fun _=>by kernel_rfl) (z) (key:=999) z (by rw[ah]; rfl) fun p1 b8 P bB=>aF' (e:=65) (r:=(Rp.sl a')) (vs:=#[]) (cs:=[]) ([]:List (List Za)) z z z z z (by decide) (fun _=>by kernel_rfl) (z) (key:=999) z (by rw[ah]; rfl) fun p2 aP I bD=>sg z z<|sx0 z z<|g'<|sr<|sx0 z z<|ab' (fun (⟨k,F,D,o,W⟩:(List (List Za))×Option Addr×Nat×Option Ow×Mem)=>[(2,pt0 b1),(3,pt0 b2),(4,pt0 b3),(5,.slice F k.length D),(6,.slice p2 0 0)]) (fun ⟨k,F,D,o,W⟩=>Mem.le aP W/\sl (Rp.sl a') W F D k/\Tok 1 65 (.slice F k.length D) k.length o/\(Za2 n R k).Ret r) (fun ⟨k,F,D,o,W⟩=>St w0 G0 W [(2,bk0 b1 (v28' n l m j g) 28),(3,bk0 b2 (vecG (Value.int .i64) 8 R) 44),(4,bk0 b3 ([i' 0,.slice none 0 0,.slice none 0 0]) 28),(1005,o)]) ?_ ?_
 .refine y' ?_
  let aS:(((List (List Za))))->Prop:=fun oo=>((fun ov=>match ov with|k=>Za2 n R k:(((List (List Za))))->Cq Zc) oo).wp (fun a=>a=r)
  replace hr:(Cq.loop _ _).wp aS:=hr
  refine ac' (Φ:=aS) (fun (⟨t,C,A,y,S,aa⟩:(List (List Za))×Option Addr×Nat×Option Ow×Int×Mem)=>((t,S):(List (List Za))×Int)) (fun ⟨t,C,A,y,S,aa⟩=>[(2,pt0 b1),(3,pt0 b2),(4,pt0 b3),(5,.slice C t.length A),(6,.slice p2 0 0),(7,i' S)]) (fun ⟨t,C,A,y,S,aa⟩=>Mem.le aP aa/\sl (Rp.sl a') aa C A t/\Tok 1 65 (.slice C t.length A) t.length y) (fun ⟨t,C,A,y,S,aa⟩=>St w0 G0 aa [(2,bk0 b1 (v28' n l m j g) 28),(3,bk0 b2 (vecG (Value.int .i64) 8 R) 44),(4,bk0 b3 ([i' 0,.slice none 0 0,.slice none 0 0]) 28),(1005,y)]) ⟨[],p1,0,none,0,aP⟩ hr (f6 z z z z z z) ⟨mr,(bB.mono I),cb'⟩ (wk (lc z (lc z (lc z (lw ln))))) ?_
  .intro bX gx hx hr
   obtain⟨t,C,A,y,S,aa⟩:=gx
   obtain⟨X,aF,au⟩:=hx
   refine g'<|sr<|mv z z<|yy (cR' z) z<|yy (o' 2 sc25 z z z) z<|yy (O' M' (Q.mono (mx (mx P I) X)) z) z<|yy (aa' z z) z<|nx<|P' hr z (fun bA hr=>?_) (fun bA hr=>?_)
   .refine n'<|b'<|g'<|y'<|g'<|ak' [ff,ff,ff,ff,ff,ff,ff,ff,ff,tt] mix (by kernel_rfl) fun hb=>cn (fun _ f=>cR' z)<|cn (fun _ f=>o' 2 sc25 z z z)<|cn (fun _ f=>c' z) ?_
    obtain⟨x2,bb,hr⟩:=hr
    refine cn (fun _ f=>V' M' cj' ((Q.mono (mx (mx P I) X)).mono f) z z bb) ?_
    obtain⟨p8,cc,bG,bv⟩:=bl' (J' (Z' Q bb) (mx (mx P I) X))
    refine cn (fun _ f=>aj' bU' z (f _ _ _ bG))<|cn (fun _ f=>D' 3 ag44 z z (Q' _ _ _)) ?_
    obtain⟨x,bq,hr⟩:=hr
    refine az' (post:=wlt' a' x) (fun _=>z) (fun _ _=>m' E60 z) (eB' bq) z (fun Y f=>(bv.mono f)) (fun v G1 G2 f h=>?_) ?_
    .obtain⟨ad,af,rfl,T⟩:=h
     exact⟨_,_,z,T.mono f⟩
    refine bF' (φ:=wlt' a' x) (fun _=>z) (fun v G1 G2 f h=>?_) (fun u Y f hu=>?_) ?_
    .obtain⟨p9,aC,rfl,ao⟩:=h
     exact⟨_,_,z,ao.mono f⟩
    .obtain⟨⟨ad,af,a6,T⟩,_⟩:=(show (wlt' a' x) Y.m (u 31)/\True from hu)
     simp only[undFr,a6]
     exact⟨_,c' z,ad,af,z,T⟩
    refine bF' (φ:=wl' a' x.1) (fun _=>z) (fun v G1 G2 f h=>?_) (fun u Y f hu=>?_) ?_
    .obtain⟨aA,aj,rfl,aw⟩:=h
     exact⟨_,_,z,aw.mono f⟩
    .obtain⟨⟨p9,aC,al,ao⟩,_,_⟩:=(show (wlt' a' x) Y.m (u 24)/\True/\True from hu)
     simp only[undFr,al]
     exact⟨_,R' z z,p9,aC,z,ao⟩
    refine cI' (c:=i' x.2) (fun _=>z) (fun u Y f hu=>?_) ?_
    .obtain⟨_,⟨p9,aC,al,ao⟩,_,_⟩:=(show True/\(wlt' a' x) Y.m (u 24)/\True/\True from hu)
     simp only[undFr,al]
     exact R' z z
    refine cx' (d:=32) (post:=wl' a' x.1) (d':=24) (post':=wlt' a' x) (d'':=31) (post'':=wlt' a' x) (fun bR bO bP b0 az aO aH aK=>?_)
    obtain⟨aA,aj,rfl,aw⟩:=aO
    obtain⟨p9,aC,rfl,ao⟩:=aH
    obtain⟨ad,af,rfl,T⟩:=aK
    refine sg z z<|sg z z<|q'<|am'<|b'<|x'<|mv z z<|mv z z<|aF' (e:=65) (r:=(Rp.sl a')) (vs:=#[(0,.slice aA x.1.length aj)]) (cs:=[.slice aA x.1.length aj]++([])) ([x.1]:List (List Za)) z z z z z (by decide) (fun _=>by kernel_rfl) ⟨[.slice aA x.1.length aj],[],z,⟨_,z,aw⟩,z⟩ (key:=999) z (by rw[ah]; rfl) (fun cb b6 ax bt=>?_)
    obtain⟨bp,hr⟩:=hr
    refine bb' (r:=(Rp.sl a')) 1005 z z M' el65 z (by decide) z z (aF.mono (mx az ax)) z (by rw[ah]; rfl) au bt bp fun bH bu a2 bE a9 bk aX=>sg z z<|q'<|F'<|b'<|x'<|mv z z<|yy (W' z z) z<|sg z z<|q'<|T' ⟨(t++[x.1]),bH,bu,a2,i64.wrap (S+1),bE⟩ hr ⟨(mx (mx (mx X az) ax) a9),bk,aX⟩ (f6 z z z z z z) (w4 z z z z)
   refine ae'<|h'<|h'<|I'<|af' ⟨t,C,A,y,aa⟩ ⟨X,aF,au,hr⟩ (f5 z z z z z) (w4 z z z z)
 rintro⟨k,F,D,o,W⟩ ⟨ab,a8,bF,hr⟩
 refine b'<|g'<|sr<|sx0 z z<|ab' (fun (⟨H,M,O,L,ai⟩:(List (List Za))×Option Addr×Nat×Option Ow×Mem)=>[(2,pt0 b1),(4,pt0 b3),(5,.slice F k.length D),(6,.slice M H.length O)]) (fun ⟨H,M,O,L,ai⟩=>Mem.le W ai/\sl (Rp.sl a') ai M O H/\Tok 1 65 (.slice M H.length O) H.length L/\(Za1 n k H).Ret r) (fun ⟨H,M,O,L,ai⟩=>St w0 G0 ai [(2,bk0 b1 (v28' n l m j g) 28),(4,bk0 b3 ([i' 0,.slice none 0 0,.slice none 0 0]) 28),(1005,o),(1006,L)]) ?_ ?_
 .refine y' ?_
  let aR:(((List (List Za))))->Prop:=fun oo=>((fun ov=>match ov with|H=>Za1 n k H:(((List (List Za))))->Cq Zc) oo).wp (fun a=>a=r)
  replace hr:(Cq.loop _ _).wp aR:=hr
  refine ac' (Φ:=aR) (fun (⟨p,E,B,s,J,Z⟩:(List (List Za))×Option Addr×Nat×Option Ow×Int×Mem)=>((p,J):(List (List Za))×Int)) (fun ⟨p,E,B,s,J,Z⟩=>[(2,pt0 b1),(3,pt0 b2),(4,pt0 b3),(5,.slice F k.length D),(6,.slice E p.length B),(10,i' J)]) (fun ⟨p,E,B,s,J,Z⟩=>Mem.le W Z/\sl (Rp.sl a') Z E B p/\Tok 1 65 (.slice E p.length B) p.length s) (fun ⟨p,E,B,s,J,Z⟩=>St w0 G0 Z [(2,bk0 b1 (v28' n l m j g) 28),(3,bk0 b2 (vecG (Value.int .i64) 8 R) 44),(4,bk0 b3 ([i' 0,.slice none 0 0,.slice none 0 0]) 28),(1005,o),(1006,s)]) ⟨[],p2,0,none,0,W⟩ hr (f6 z z z z z z) ⟨mr,(bD.mono ab),cb'⟩ (wk (lc z (lc z (lc z (lc z (lw ln)))))) ?_
  .intro bY gx hx hr
   obtain⟨p,E,B,s,J,Z⟩:=gx
   obtain⟨U,aE,ap⟩:=hx
   refine g'<|sr<|mv z z<|yy (cB' z) z<|yy (o' 2 sc25 z z z) z<|yy (O' M' (K.mono (mx (mx (mx P I) ab) U)) z) z<|yy (aa' z z) z<|nx<|P' hr z (fun bL hr=>?_) (fun bL hr=>?_)
   .refine n'<|b'<|g'<|y'<|g'<|ak' [ff,ff,ff,ff,ff,ff,ff,ff,ff,tt] mix (by kernel_rfl) fun hb=>cn (fun _ f=>cB' z)<|cn (fun _ f=>o' 2 sc25 z z z)<|cn (fun _ f=>c' z) ?_
    obtain⟨x1,be,hr⟩:=hr
    refine cn (fun _ f=>V' M' cj' ((K.mono (mx (mx (mx P I) ab) U)).mono f) z z be) ?_
    obtain⟨p3,b5,bK,bC⟩:=bl' (J' (Z' K be) (mx (mx (mx P I) ab) U))
    refine cn (fun _ f=>aj' bU' z (f _ _ _ bK))<|cn (fun _ f=>D' 3 ag44 z z (Q' _ _ _)) ?_
    obtain⟨q,bn,hr⟩:=hr
    refine az' (post:=wlt' a' q) (fun _=>z) (fun _ _=>m' E60 z) (eB' bn) z (fun Y f=>(bC.mono f)) (fun v G1 G2 f h=>?_) ?_
    .obtain⟨ag,ac,rfl,V⟩:=h
     exact⟨_,_,z,V.mono f⟩
    refine bF' (φ:=wlt' a' q) (fun _=>z) (fun v G1 G2 f h=>?_) (fun u Y f hu=>?_) ?_
    .obtain⟨p4,aB,rfl,aq⟩:=h
     exact⟨_,_,z,aq.mono f⟩
    .obtain⟨⟨ag,ac,a0,V⟩,_⟩:=(show (wlt' a' q) Y.m (u 52)/\True from hu)
     simp only[undFr,a0]
     exact⟨_,c' z,ag,ac,z,V⟩
    refine bF' (φ:=wl' a' q.1) (fun _=>z) (fun v G1 G2 f h=>?_) (fun u Y f hu=>?_) ?_
    .obtain⟨p5,ay,rfl,aT⟩:=h
     exact⟨_,_,z,aT.mono f⟩
    .obtain⟨⟨p4,aB,ak,aq⟩,_,_⟩:=(show (wlt' a' q) Y.m (u 45)/\True/\True from hu)
     simp only[undFr,ak]
     exact⟨_,R' z z,p4,aB,z,aq⟩
    refine cI' (c:=i' q.2) (fun _=>z) (fun u Y f hu=>?_) ?_
    .obtain⟨_,⟨p4,aB,ak,aq⟩,_,_⟩:=(show True/\(wlt' a' q) Y.m (u 45)/\True/\True from hu)
     simp only[undFr,ak]
     exact R' z z
    refine cx' (d:=53) (post:=wl' a' q.1) (d':=45) (post':=wlt' a' q) (d'':=52) (post'':=wlt' a' q) (fun bS bQ bT bZ aG aJ aL aN=>?_)
    obtain⟨p5,ay,rfl,aT⟩:=aJ
    obtain⟨p4,aB,rfl,aq⟩:=aL
    obtain⟨ag,ac,rfl,V⟩:=aN
    refine sg z z<|sg z z<|q'<|am'<|b'<|x'<|mv z z<|mv z z<|aF' (e:=65) (r:=(Rp.sl a')) (vs:=#[(0,.slice p5 q.1.length ay)]) (cs:=[.slice p5 q.1.length ay]++([])) ([q.1]:List (List Za)) z z z z z (by decide) (fun _=>by kernel_rfl) ⟨[.slice p5 q.1.length ay],[],z,⟨_,z,aT⟩,z⟩ (key:=999) z (by rw[ah]; rfl) (fun p6 ca aD bw=>?_)
    obtain⟨bj,hr⟩:=hr
    refine bb' (r:=(Rp.sl a')) 1006 z z M' el65 z (by decide) z z (aE.mono (mx aG aD)) z (by rw[ah]; rfl) ap bw bj fun p7 bJ bi bI a3 bz bo=>sg z z<|q'<|F'<|b'<|x'<|mv z z<|yy (W' z z) z<|sg z z<|q'<|T' ⟨(p++[q.1]),p7,bJ,bi,i64.wrap (J+1),bI⟩ hr ⟨(mx (mx (mx U aG) aD) a3),bz,bo⟩ (f6 z z z z z z) (w5 z z z z z)
   refine ae'<|h'<|h'<|I'<|af' ⟨p,E,B,s,Z⟩ ⟨U,aE,ap,hr⟩ (f4 z z z z) (w4 z z z z)
 rintro⟨H,M,O,L,ai⟩ ⟨aW,a1,bx,hr⟩
 refine b'<|sr<|yy (co' z) z<|yy (o' 2 sc3 z z z) z<|mv z z<|mv z z ?_
 obtain⟨b9,bm,hr⟩:=hr
 refine N' z z (m' E13 z) (ei' bm) z (⟨(a8.mono aW),a1⟩) (fun bV b7 bM aI=>?_)
 obtain⟨bc,bd,a7,aV,rfl,av,am⟩:=aI
 refine mv z z<|yy (R' z z) z<|yy (R' z z) z<|X' 13 z z28 z fun b4=>B' 13 z bB' z z z z z (List.all_eq_true.1 z)<|sg z z<|nr<|yy (D' 13 bj' z z z) z<|B' 4 z bB' z z z z z (List.all_eq_true.1 z)<|nx<|k' ?_
 obtain rfl:_=r:=hr
 exact j' z (aw' (i:=4) bj' z z z) ⟨_,_,_,_,z,av,am⟩
theorem eQ'{c r}(hr:(Zb9 c).Ret r):Ctr prog 24 #[.agg (vecG (Value.int .i64) 8 c).toArray] (fun G=>True) (fun G v=>v = .bool r):=by
 refine H' (args:=[_]) (N:=31) func24 z z z fun y j M H=>sr<|ai' 1 z z z fun q=>sg z z<|nr<|yy (au' (vs:=#[]) (v:=.agg (vecG Value.bool 8 (fun _=>false)).toArray) z z (fun _=>by kernel_rfl)) z<|X' 3 z z111 z fun B=>B' 3 z sz111 z z z (Q' _ _ _) (Q' _ _ _) (fun u A=>Rp.one (Rp.vecB 8) (G:=j) (x:=(fun _=>false)) (cs:=vecG Value.bool 8 (fun _=>false)) z u (by first|simpa using A|simpa [Value.cells] using A))<|nx<|g'<|sr<|sx0 z z<|ab' (fun (h:Mem)=>match h with|g=>[]) (fun (h:Mem)=>match h with|g=>Mem.le j g/\(Za9).Ret r) (fun (h:Mem)=>match h with|g=>St y j g []) ?_ ?_
 .refine y' ?_
  let k:(Bool⊕Unit)->Prop:=fun J=>((fun I=>match I with | .inl rv1=>Cq.ret rv1 | .inr ()=>Za9:(Bool⊕Unit)->Cq Bool) J).wp (fun a=>a=r)
  replace hr:(Cq.loop _ _).wp k:=hr
  refine ac' (Φ:=k) (fun (⟨f,d,e⟩:Int×(Fin 8->Bool)×Mem)=>((f,d):Int×(Fin 8->Bool))) (fun ⟨f,d,e⟩=>[(1,pt0 q),(3,pt0 B),(4,i' f)]) (fun ⟨f,d,e⟩=>Mem.le j e) (fun ⟨f,d,e⟩=>St y j e [(1,bk0 q (vecG (Value.int .i64) 8 c) 44),(3,bk0 B (vecG Value.bool 8 d) 111)]) ⟨0,(fun _=>false),j⟩ hr (f3 z z z) mr (w2 z z) ?_
  .intro L h K hr
   obtain⟨f,d,e⟩:=h
   have i:=K
   refine g'<|sr<|mv z z<|yy (aa' z z) z<|nx<|P' hr z (fun E hr=>?_) (fun E hr=>?_)
   .refine n'<|b'<|g'<|y'<|g'<|sr<|mv z z ?_
    obtain⟨l,hr⟩:=hr
    refine yy (aT' aZ' sz3 z z l) z<|yy (o' 1 sc3 z z (bh' _ _ _ l)) z<|aE' hr z (aa' z z) z (fun D hr=>?_) (fun D hr=>?_)
    .refine mv z z<|sn4 z<|yy (w' z z) z<|mv z z<|sn5 z<|yy (w' z z) z<|nx<|aB' z<|sr<|sx0 z z<|k'<|f'<|A'<|f'<|f'<|A'<|an'<|f' (k0' hr z z)
    refine mv z z<|gy z z (c' z) z ?_
    obtain⟨n,hr⟩:=hr
    refine gy z z (aT' aZ' sz3 z z n) z<|gy z z (o' 1 sc3 z z (bh' _ _ _ n)) z<|aE' hr (E' z z) (aS' z z) z (fun C hr=>?_) (fun C hr=>?_)
    .refine yy (t' z z) z<|mv z z<|sn5 z<|yy (w' z z) z<|nx<|aB' z<|sr<|sx0 z z<|k'<|f'<|A'<|f'<|f'<|A'<|an'<|f' (k0' hr z z)
    refine yy (t' z z) z<|mv z z<|gy z z (c' z) z ?_
    obtain⟨p,hr⟩:=hr
    refine gy z z (aT' aZ' sz3 z z p) z<|gy z z (o' 1 sc3 z z (bh' _ _ _ p)) z ?_
    obtain⟨o,hr⟩:=hr
    refine gy z z (aT' cy' sz4 z z o) z<|gy z z (o' 3 sc4 z z (bh' _ _ _ o)) z<|yy (t' z z) z<|nx<|aK' hr z (fun t hr=>?_) (fun t hr=>?_)
    .exact (show False from hr).elim
    refine n'<|b'<|x'<|mv z z ?_
    obtain⟨m,hr⟩:=hr
    refine yy (aT' aZ' sz3 z z m) z<|yy (o' 1 sc3 z z (bh' _ _ _ m)) z ?_
    obtain⟨s,hr⟩:=hr
    refine yy (aT' cy' sz4 z z s) z<|by' 3 (vecG Value.bool 8 (setF d ((getF c f).toNat) true)).toArray z sz4 z z z (by first|(rw[Q']; omega)|(show _<(vecG _ _ _).toArray.size; rw[Q']; omega)) z (cL' _ _ _ _ _)<|q'<|F'<|b'<|x'<|mv z z<|yy (W' z z) z<|sg z z<|q'<|T' ⟨i64.wrap (f+1),setF d ((getF c f).toNat) true,e⟩ hr i (f3 z z z) (w2 z z)
   refine ae'<|h'<|h'<|I'<|af' e ⟨i,hr⟩ fn (wk ln)
 rintro g ⟨F,hr⟩
 refine b'<|sr<|sx0 z z<|k' (k0' hr z z)
theorem ZeO(X:Zo)(ax:Int)(ac:Option Addr)(aa:Nat)(R:Option Addr)(T:Nat)(r:Bool)(hr:(Zcv X ax).Ret r):Ctr prog 5 #[.agg ((v37' X ac aa R T)).toArray,.int .u8 ax] (fun G=>sl cE' G ac aa X.l/\sl (Rp.int .u8) G R T X.gap) (fun G v=>v = .bool r):=by
 refine H' (args:=[_,_]) (N:=91) func5 z z z (fun w0 G0 bW bi=>?_)
 obtain⟨aw,af⟩:=bi
 refine sr<|ai' 2 z z z fun b1=>sg z z<|nr ?_
 obtain⟨cb,bb,hr⟩:=hr
 refine K' z z (m' E10 z) (ck' bb) z (trivial)<|sx0 z z<|g'<|sr<|mv z z<|yy (aA' z) z<|nx<|aK' hr z (fun bA hr=>?_) (fun bA hr=>?_)
 .exact (show False from hr).elim
 refine n'<|b'<|sr<|yy (D' 2 ag37 z z z) z ?_
 obtain⟨bX,bc,hr⟩:=hr
 refine N' z z (m' E17 z) (dp' bc) z (⟨aw,af⟩) (fun bN bV bC aq=>?_)
 obtain⟨a6,a9,bl,bk,bd,a7,rfl,ah,ao,ae⟩:=aq
 obtain⟨bZ,bg,hr⟩:=hr
 refine N' z z (m' E21 z) (cW' bg) z (⟨ah,ao,ae⟩) (fun bJ b0 bD ap=>?_)
 obtain⟨aR,aV,aH,aI,rfl,J,E⟩:=ap
 refine mv z z<|yy (R' z z) z<|yy (R' z z) z<|X' 6 z z28 z fun b2=>B' 6 z bB' z z z z z (List.all_eq_true.1 z)<|sx0 z z<|g'<|sr<|mv z z<|yy (bp' z z) z<|nx<|P' hr z (fun bq hr=>?_) (fun bq hr=>?_)
 .exact (show False from hr).elim
 refine n'<|b'<|sr<|yy (co' z) z<|yy (o' 6 sc3 z z z) z ?_
 obtain⟨bT,a4,hr⟩:=hr
 refine N' z z (m' E22 z) (eZ' a4) z (trivial) (fun bM bU L al=>?_)
 obtain⟨bQ,bP,rfl,S⟩:=al
 refine sx0 z z<|g'<|ak' [ff,ff,ff,ff,ff,ff,ff,ff,ff,ff,ff] mix (by kernel_rfl) fun hb=>cn (fun _ e=>D' 6 bj' z z z)<|cn (fun _ e=>c' z)<|cn (fun _ e=>c' z)<|cn (fun _ e=>av' aL' aD' z)<|cn (fun _ e=>c' z)<|cn (fun _ e=>O' bm' (S.mono e) z) ?_
 obtain⟨br,hr⟩:=hr
 refine cn (fun _ e=>bP' z z br) ?_
 obtain⟨x1,aZ,hr⟩:=hr
 refine cn (fun _ e=>V' bm' sz44 (S.mono e) z z aZ)<|cn (fun _ e=>ao' _ ag44 z (Q' _ _ _) (bK' (J' (Z' S aZ) e))) ?_
 obtain⟨bu,bf,hr⟩:=hr
 refine az' (post:=w28' bu) (fun _=>z) (fun _ _=>m' E23 z) (cQ' bf) z (fun Y e=>⟨((J.mono L).mono e),((E.mono L).mono e)⟩) (fun v G1 G2 e h=>?_) ?_
 .obtain⟨au,ak,ad,ag,rfl,K,H⟩:=h
  exact⟨_,_,_,_,z,K.mono e,H.mono e⟩
 refine bN' (fun _=>z) z28<|Chain.tailX2 (fun cc bI X1 P aC an=>?_)
 obtain⟨b3,rfl,a8⟩:=aC
 obtain⟨au,ak,ad,ag,rfl,K,H⟩:=an
 refine WL.adopt a8 (ds' (show WL _ _ _ _ _ _ (St w0 G0 X1.m _) from ?_))
 refine B' 9 z bB' z z z z z (List.all_eq_true.1 z)<|q'<|am'<|b'<|sr<|yy (D' 6 bj' z z z) z ?_
 obtain⟨aU,a5,hr⟩:=hr
 refine N' z z (m' E18 z) (Zbp _ _ _ _ _ _ a5) z (⟨(J.mono (mx L P)),(E.mono (mx L P))⟩) (fun bG bs B aj=>?_)
 obtain⟨a3,aW,aJ,aN,rfl,p,n⟩:=aj
 refine mv z z<|yy (R' z z) z<|yy (R' z z) z<|X' 10 z z28 z fun b4=>X' 11 z z44 z fun b5=>B' 10 z bB' z z z z z (List.all_eq_true.1 z)<|B' 11 z sz44 z z z (Q' _ _ _) (Q' _ _ _) (fun u M=>Rp.one (bD' .i64 8) (G:=bs) (x:=aU.2) (cs:=vecG (Value.int .i64) 8 aU.2) z u (by first|simpa using M|simpa [Value.cells] using M))<|nr<|yy (D' 9 bj' z z z) z ?_
 obtain⟨aY,bh,hr⟩:=hr
 refine N' z z (m' E18 z) (Zbp _ _ _ _ _ _ bh) z (⟨(K.mono B),(H.mono B)⟩) (fun bL bv i ar=>?_)
 obtain⟨a2,a1,aL,aE,rfl,ab,V⟩:=ar
 refine mv z z<|yy (R' z z) z<|yy (R' z z) z<|X' 12 z z28 z fun b6=>X' 13 z z44 z fun b7=>B' 12 z bB' z z z z z (List.all_eq_true.1 z)<|B' 13 z sz44 z z z (Q' _ _ _) (Q' _ _ _) (fun u M=>Rp.one (bD' .i64 8) (G:=bv) (x:=aY.2) (cs:=vecG (Value.int .i64) 8 aY.2) z u (by first|simpa using M|simpa [Value.cells] using M))<|nr<|yy (D' 10 bj' z z z) z ?_
 obtain⟨aT,bj,hr⟩:=hr
 refine N' z z (m' E18 z) (Zbp _ _ _ _ _ _ bj) z (⟨(p.mono i),(n.mono i)⟩) (fun bF bn g am=>?_)
 obtain⟨aX,a0,aD,aF,rfl,Z,W⟩:=am
 refine mv z z<|yy (R' z z) z<|yy (R' z z) z<|X' 14 z z28 z fun b8=>X' 15 z z44 z fun b9=>B' 14 z bB' z z z z z (List.all_eq_true.1 z)<|B' 15 z sz44 z z z (Q' _ _ _) (Q' _ _ _) (fun u M=>Rp.one (bD' .i64 8) (G:=bn) (x:=aT.2) (cs:=vecG (Value.int .i64) 8 aT.2) z u (by first|simpa using M|simpa [Value.cells] using M))<|nx<|g'<|ak' [ff,ff,ff,ff,ff,ff,ff,ff,ff,ff,ff,ff,ff,ff,ff,ff,ff,ff,ff,ff,ff,ff,ff,ff,ff,ff,ff] mix (by kernel_rfl) fun hb=>cn (fun _ e=>D' 10 bj' z z z)<|cn (fun _ e=>D' 12 bj' z z z) ?_
 obtain⟨bt,ba,hr⟩:=hr
 refine bL' z (fun _=>m' E20 z) (ZZ _ _ _ _ _ _ _ _ _ _ _ ba) z (fun Y e=>⟨((p.mono (mx i g)).mono e),((n.mono (mx i g)).mono e),((ab.mono g).mono e),((V.mono g).mono e)⟩) ?_
 cases bt
 .refine cn (fun _ e=>c' z)<|ct z z<|ct z z<|ct z z<|ct z z<|ct z z<|cn (fun _ e=>t' z z)<|cn (fun _ e=>c' z)<|ct z z<|ct z z<|ct z z<|ct z z<|ct z z<|cn (fun _ e=>t' z z)<|cn (fun _ e=>c' z)<|ct z z<|ct z z<|ct z z<|cn (fun _ e=>t' z z)<|cn (fun _ e=>c' z)<|ct z z<|ct z z<|ct z z<|ct z z<|ah' hb<|sk z z z<|yy (t' z z) z<|mv z z<|sn2 z<|yy (t' z z) z<|mv z z<|sk z z z<|yy (t' z z) z<|sg z z<|q'<|am'<|b'<|k' (k0' hr z z)
 refine cn (fun _ e=>c' z)<|cy z z (fun _ e=>D' 6 bj' z z z)<|cy z z (fun _ e=>D' 11 ag44 z z (Q' _ _ _)) ?_
 obtain⟨O,aO,hr⟩:=hr
 have N1:=mx (mx (mx (mx L P) B) i) g
 refine az' (post:=w28' O) (fun _=>(E' z z)) (fun _ _=>m' E23 z) (cQ' aO) z (fun Y e=>⟨((J.mono N1).mono e),((E.mono N1).mono e)⟩) (fun v G1 G2 e h=>?_) ?_
 .obtain⟨A,y,s,q,rfl,l,j⟩:=h
  exact⟨_,_,_,_,z,l.mono e,j.mono e⟩
 refine aN' (fun _=>(E' z z)) (fun _ _ e=>D' 10 bj' z z z) ?_
 obtain⟨aB,aM,hr⟩:=hr
 refine dt' (f:=20) (c:=.bool aB) (fun _=>(E' z z)) (fun u Y e M=>?_) ?_
 .obtain⟨⟨A,y,s,q,az,l,j⟩,_⟩:=(show (w28' O) Y.m (u 61)/\True from M)
  exact⟨_,_,_,fun _=>m' E20 z,ZZ _ _ _ _ _ _ _ _ _ _ _ aM,(by simp only[az] <;> rfl),⟨l,j,((p.mono (mx i g)).mono e),((n.mono (mx i g)).mono e)⟩⟩
 cases aB
 .refine cu (fun _ _ e=>w' z z)<|cu (fun _ _ e=>c' z)<|aC' (fun _=>(aU' z z))<|aC' (fun _=>(aU' z z))<|aC' (fun _=>(aU' z z))<|aC' (fun _=>(aU' z z))<|aC' (fun _=>(aU' z z))<|cu (fun _ _ e=>t' z z)<|cu (fun _ _ e=>c' z)<|aC' (fun _=>(aU' z z))<|aC' (fun _=>(aU' z z))<|aC' (fun _=>(aU' z z))<|cu (fun _ _ e=>t' z z)<|cu (fun _ _ e=>c' z)<|aC' (fun _=>(aU' z z))<|aC' (fun _=>(aU' z z))<|aC' (fun _=>(aU' z z))<|aC' (fun _=>(aU' z z))<|bi' (d:=61) (post:=w28' O) (fun U bY bB k=>?_)
  obtain⟨A,y,s,q,rfl,l,j⟩:=k
  refine sk z z z<|yy (t' z z) z<|mv z z<|sn2 z<|yy (t' z z) z<|mv z z<|sk z z z<|yy (t' z z) z<|sg z z<|q'<|am'<|b'<|k' (k0' hr z z)
 refine cu (fun _ _ e=>w' z z)<|cu (fun _ _ e=>c' z)<|aN' (fun _=>(E' z z)) (fun _ _ e=>D' 9 bj' z z z)<|aN' (fun _=>(E' z z)) (fun _ _ e=>D' 13 ag44 z z (Q' _ _ _)) ?_
 obtain⟨Q,aG,hr⟩:=hr
 refine az' (post:=w28' Q) (fun _=>(E' z z)) (fun _ _=>m' E23 z) (cQ' aG) z (fun Y e=>⟨((K.mono (mx (mx B i) g)).mono e),((H.mono (mx (mx B i) g)).mono e)⟩) (fun v G1 G2 e h=>?_) ?_
 .obtain⟨I,F,D,C,rfl,o,m⟩:=h
  exact⟨_,_,_,_,z,o.mono e,m.mono e⟩
 refine aN' (fun _=>(E' z z)) (fun _ _ e=>D' 10 bj' z z z) ?_
 obtain⟨ay,aK,hr⟩:=hr
 refine dt' (f:=20) (c:=.bool ay) (fun _=>(E' z z)) (fun u Y e M=>?_) ?_
 .obtain⟨⟨I,F,D,C,av,o,m⟩,_,_⟩:=(show (w28' Q) Y.m (u 68)/\True/\True from M)
  exact⟨_,_,_,fun _=>m' E20 z,ZZ _ _ _ _ _ _ _ _ _ _ _ aK,(by simp only[av] <;> rfl),⟨o,m,((p.mono (mx i g)).mono e),((n.mono (mx i g)).mono e)⟩⟩
 cases ay
 .refine cu (fun _ _ e=>w' z z)<|cu (fun _ _ e=>c' z)<|aC' (fun _=>(aU' z z))<|aC' (fun _=>(aU' z z))<|aC' (fun _=>(aU' z z))<|cu (fun _ _ e=>t' z z)<|cu (fun _ _ e=>c' z)<|aC' (fun _=>(aU' z z))<|aC' (fun _=>(aU' z z))<|aC' (fun _=>(aU' z z))<|aC' (fun _=>(aU' z z))<|cD' (d:=68) (post:=w28' Q) (d':=61) (post':=w28' O) (fun ai U ca bE t k=>?_)
  obtain⟨I,F,D,C,rfl,o,m⟩:=t
  obtain⟨A,y,s,q,rfl,l,j⟩:=k
  refine sk z z z<|yy (t' z z) z<|mv z z<|sn2 z<|yy (t' z z) z<|mv z z<|sk z z z<|yy (t' z z) z<|sg z z<|q'<|am'<|b'<|k' (k0' hr z z)
 refine cu (fun _ _ e=>w' z z)<|cu (fun _ _ e=>c' z)<|aN' (fun _=>(E' z z)) (fun _ _ e=>D' 14 bj' z z z)<|aN' (fun _=>(E' z z)) (fun _ _ e=>D' 10 bj' z z z) ?_
 obtain⟨aA,aP,hr⟩:=hr
 refine dt' (f:=20) (c:=.bool aA) (fun _=>(E' z z)) (fun u Y e M=>?_) ?_
 .obtain⟨_,_,_⟩:=(show True/\True/\True from M)
  exact⟨_,_,_,fun _=>m' E20 z,ZZ _ _ _ _ _ _ _ _ _ _ _ aP,z,⟨(Z.mono e),(W.mono e),((p.mono (mx i g)).mono e),((n.mono (mx i g)).mono e)⟩⟩
 cases aA
 .refine cu (fun _ _ e=>w' z z)<|cu (fun _ _ e=>c' z)<|aC' (fun _=>(aU' z z))<|aC' (fun _=>(aU' z z))<|aC' (fun _=>(aU' z z))<|aC' (fun _=>(aU' z z))<|cD' (d:=68) (post:=w28' Q) (d':=61) (post':=w28' O) (fun ai U bH bo t k=>?_)
  obtain⟨I,F,D,C,rfl,o,m⟩:=t
  obtain⟨A,y,s,q,rfl,l,j⟩:=k
  refine sk z z z<|yy (t' z z) z<|mv z z<|sn2 z<|yy (t' z z) z<|mv z z<|sk z z z<|yy (t' z z) z<|sg z z<|q'<|am'<|b'<|k' (k0' hr z z)
 refine cu (fun _ _ e=>w' z z)<|cu (fun _ _ e=>c' z)<|aN' (fun _=>(E' z z)) (fun _ _ e=>D' 15 ag44 z z (Q' _ _ _))<|aN' (fun _=>(E' z z)) (fun _ _ e=>c' z) ?_
 obtain⟨x2,aS,hr⟩:=hr
 refine aN' (fun _=>(E' z z)) (fun _ _ e=>V' bm' sz44 ((S.mono (mx (mx (mx P B) i) g)).mono e) z z aS)<|aN' (fun _=>(E' z z)) (fun _ _ e=>ao' _ ag44 z (Q' _ _ _) (bK' (J' (J' (Z' S aS) (mx (mx (mx P B) i) g)) e)))<|cD' (d:=68) (post:=w28' Q) (d':=61) (post':=w28' O) (fun ai U bR bx t k=>?_)
 obtain⟨I,F,D,C,rfl,o,m⟩:=t
 obtain⟨A,y,s,q,rfl,l,j⟩:=k
 refine aE' hr (E' z z) (Y0.eqlV aZ' aD' sc3 sz3 eg44 z z) z (fun bz hr=>?_) (fun bz hr=>?_)
 .refine yy (w' z z) z<|mv z z<|gy z z (D' 11 ag44 z z (Q' _ _ _)) z ?_
  obtain⟨be,aQ,hr⟩:=hr
  refine K' (E' z z) z (m' E24 z) (eQ' aQ) z (trivial) ?_
  cases be
  .refine yy (w' z z) z<|mv z z<|sk z z z<|yy (t' z z) z<|sg z z<|q'<|am'<|b'<|k' (k0' hr z z)
  refine yy (w' z z) z<|mv z z<|gy z z (c' z) z<|yy (w' z z) z<|sg z z<|q'<|am'<|b'<|k' (k0' hr z z)
 refine yy (w' z z) z<|mv z z<|sn2 z<|yy (t' z z) z<|mv z z<|sk z z z<|yy (t' z z) z<|sg z z<|q'<|am'<|b'<|k' (k0' hr z z)
end Go.Proofs.YtoakocgcakgpnaaGreat

namespace Go.Proofs.YtoakocgcakgpnaaGreat
open Go.IntKind (i8 i16 i32 i64 u8 u16 u32 u64)
open Go.Proofs.Tryz
open Go Go.EL Go.RowKit Go.Proofs
end Go.Proofs.YtoakocgcakgpnaaGreat

namespace Go.EL
open Go.IntKind (i8 i16 i32 i64 u8 u16 u32 u64)
open Go Go.RowKit
structure Writ (k:Zc):Prop where
 n:0<=k.n/\k.n<=1000
 eqs:∀ p ∈ k.eqs,PolOk p
 neqs:∀ p ∈ k.neqs,PolOk p
 len:k.eqs.length<=12/\k.neqs.length<=12
theorem Writ.zero:Writ zeroK:=⟨by decide,fun p hp=>absurd hp List.not_mem_nil,fun p hp=>absurd hp List.not_mem_nil,by decide⟩
theorem CoreOk.writ{k:Zc}(h:CoreOk k):Writ k:=⟨by have:=h.n; omega,fun p hp=>(h.eqs.pol p hp).1,fun p hp=>(h.neqs.pol p hp).1,h.eqs.len,h.neqs.len⟩
theorem Writ.core{k:Zc}(h:Writ k):(ZdT [] k).Ret (coreW k):=ZlJ h.n h.eqs h.neqs h.len.1 h.len.2
theorem ZfA{k m:Zc}(hk:Writ k)(hm:Writ m)(e:keyB k=keyB m):(ZU k m).Ret true:=⟨_,hk.core,_,hm.core,decide_eq_true e⟩
theorem Zlq{n:Int}{eqs neqs:List Pol}(he:∀ p ∈ eqs,PolOk p)(hi:∀ p ∈ neqs,PolOk p):Writ (normF n eqs neqs).1/\((normF n eqs neqs).2=0->CoreOk (normF n eqs neqs).1):=by
 unfold normF
 by_cases hn:1<=n/\n<=4
 .rw[if_pos hn]
  by_cases ha:(eqs++neqs).all (fun p=>fitB p n)=true
  .rw[if_pos ha]
   by_cases h1:12<(srtP (eqsF eqs neqs)).length
   .rw[if_pos h1]; exact⟨Writ.zero,fun h=>absurd h (by decide)⟩
   rw[if_neg h1]
   by_cases h2:12<(srtP (kept neqs true)).length
   .rw[if_pos h2]; exact⟨Writ.zero,fun h=>absurd h (by decide)⟩
   rw[if_neg h2]
   obtain⟨m,rfl,m1,m4⟩:=Zd3 hn
   rw[List.all_append,Bool.and_eq_true] at ha
   have hc:=ZkJ ⟨m1,m4⟩ (fun p hp=>⟨he p hp,List.all_eq_true.1 ha.1 p hp⟩) (fun p hp=>⟨hi p hp,List.all_eq_true.1 ha.2 p hp⟩) (by omega) (by omega)
   exact⟨hc.writ,fun _=>hc⟩
  rw[if_neg ha]; exact⟨Writ.zero,fun h=>absurd h (by decide)⟩
 rw[if_neg hn]; exact⟨Writ.zero,fun h=>absurd h (by decide)⟩
theorem ZiV{l:List Zg}(hl:l.length<=1000):(Zao l).Ret (l.map (·.p)):=by
 refine⟨⟨by omega,by omega⟩,?_⟩
 refine Cq.Zk l.length (fun k s=>s=((l.take k).map (·.p)++List.replicate (l.length-k) [],(k:Int))) (fun k s hk hs=>?_) (fun s hs=>?_) (by show _=_; simp)
 .subst hs
  have hlen:((l.take k).map (·.p)++List.replicate (l.length-k) ([]:Pol)).length=l.length:=by simp; omega
  refine Cq.wp.yes (by omega) ⟨_,idxN hk,_,idxN (by rw[hlen]; exact hk),?_⟩
  show _=_
  rw[wrapN (by omega),Int.toNat_natCast,List.take_succ_eq_append_getElem hk,List.map_append,List.map_singleton]
  congr 1
  rw[List.set_append,if_neg (by rw[List.length_map,List.length_take]; omega)]
  have e:l.length-k=(l.length-(k+1))+1:=by omega
  have hk2:k-((l.take k).map (·.p)).length=0:=by simp; omega
  rw[hk2,e,List.replicate_succ,List.set_cons_zero,List.append_assoc]
  rfl
 subst hs
 refine Cq.wp.no (by omega) ?_
 show _=_
 rw[List.take_of_length_le (Nat.le_refl _)]
 simp
def varN(s:Zm):Int:=if 1<(s.vars.length:Int) then (s.vars.length:Int) else 1
def coreF(s:Zm):Zc×Int:=normF (varN s) (s.eqs.map (·.p)) (s.neqs.map (·.p))
theorem Good.polys{s:Zm}(h:Good s):(∀ p ∈ s.eqs.map (·.p),PolOk p)/\∀ p ∈ s.neqs.map (·.p),PolOk p:=
 ⟨fun p hp=>by obtain⟨q,hq,rfl⟩:=List.mem_map.1 hp; exact (h.eqs.pol q hq).1,fun p hp=>by obtain⟨q,hq,rfl⟩:=List.mem_map.1 hp; exact (h.neqs.pol q hq).1⟩
theorem ZmE{s:Zm}(h:Good s):(ZcZ s).Ret (coreF s):=by
 have l1:=h.eqs.len
 have l2:=h.neqs.len
 obtain⟨p1,p2⟩:=h.polys
 exact⟨true,Zjh h,Cq.wp.no (by decide) ⟨_,ZiV (by omega),_,ZiV (by omega),_,ZgT (by rw[List.length_map]; omega) (by rw[List.length_map]; omega) p1 p2,rfl⟩⟩
theorem ZlZ{p:Pol}{n m:Nat}(hn:n<=m)(hm:m<=8)(h:fitB p (n:Int)=true):fitB p (m:Int)=true:=by
 obtain⟨h1,h2⟩:=(Zbb (by omega)).1 h
 exact (Zbb hm).2 ⟨fun t ht i hi=>h1 t ht i (by omega),h2⟩
theorem ZmO{s:Zm}(h:Good s)(hl:s.eqs.length+s.neqs.length<=12):coreF s=(⟨varN s,srtP (eqsF (s.eqs.map (·.p)) (s.neqs.map (·.p))),srtP (kept (s.neqs.map (·.p)) true)⟩,0)/\CoreOk (coreF s).1:=by
 have hv:=h.vars
 obtain⟨m,hm,m1,m4,mv⟩:∃ m:Nat,varN s=(m:Int)/\1<=m/\m<=4/\s.vars.length<=m:=by
  unfold varN
  by_cases h1:1<(s.vars.length:Int)
  .rw[if_pos h1]; exact⟨_,rfl,by omega,by omega,Nat.le_refl _⟩
  rw[if_neg h1]; exact⟨1,rfl,by omega,by omega,by omega⟩
 have ha:(s.eqs.map (·.p)++s.neqs.map (·.p)).all (fun p=>fitB p (m:Int))=true:=List.all_eq_true.2 fun p hp=>by
  rcases List.mem_append.1 hp with hp|hp
  .obtain⟨q,hq,rfl⟩:=List.mem_map.1 hp
   exact ZlZ mv (by omega) (h.eqs.pol q hq).2
  obtain⟨q,hq,rfl⟩:=List.mem_map.1 hp
  exact ZlZ mv (by omega) (h.neqs.pol q hq).2
 have q1:=ZgF (eqsF (s.eqs.map (·.p)) (s.neqs.map (·.p)))
 have q2:=ZjI (s.eqs.map (·.p)) (s.neqs.map (·.p))
 have q3:=ZgF (kept (s.neqs.map (·.p)) true)
 have q4:=Zbh (s.neqs.map (·.p)) true
 rw[List.length_map,List.length_map] at q2
 rw[List.length_map] at q4
 have e:coreF s=(⟨varN s,srtP (eqsF (s.eqs.map (·.p)) (s.neqs.map (·.p))),srtP (kept (s.neqs.map (·.p)) true)⟩,0):=by
  unfold coreF normF
  rw[hm,if_pos ⟨by omega,by omega⟩,if_pos ha,if_neg (by omega),if_neg (by omega)]
 obtain⟨p1,p2⟩:=h.polys
 exact⟨e,(Zlq p1 p2).2 (by show (coreF s).2=0; rw[e])⟩
theorem ZhR{k:Zc}(h:CoreOk k):CoreOk (canonF k).1:=by
 have hp:=permsN h
 have hn:1<=k.n.toNat/\k.n.toNat<=4:=by have:=h.n; omega
 unfold canonF
 rw[Zcm] at hp
 exact ZkF h (fun x hx=>hp x (by simp[hx])) (perm1 h (hp _ (by simp))).core
end Go.EL

namespace Go.EL
open Go.IntKind (i8 i16 i32 i64 u8 u16 u32 u64)
open Go Go.RowKit
theorem Zfp:∀ {a b c:List UInt8},Op.bytesLess a b=true->Op.bytesLess b c=true->Op.bytesLess a c=true
 | [],_::_,_::_,_,_=>rfl
 | [],[],_,h,_=>by cases h
 | _::_,[],_,h,_=>by cases h
 | [],_::_,[],_,h=>by cases h
 | _::_,_::_,[],_,h=>by cases h
 | x::a,y::b,z::c,h1,h2=>by
  simp only[Op.bytesLess,Bool.or_eq_true,Bool.and_eq_true,decide_eq_true_eq,beq_iff_eq] at h1 h2 ⊢
  rcases h1 with h1|⟨rfl,h1⟩
  .rcases h2 with h2|⟨rfl,h2⟩
   .exact .inl (UInt8.lt_trans h1 h2)
   exact .inl h1
  rcases h2 with h2|⟨rfl,h2⟩
  .exact .inl h2
  exact .inr ⟨rfl,Zfp h1 h2⟩
theorem Zfo:∀ {a b:List UInt8},¬ Op.bytesLess a b=true->¬ Op.bytesLess b a=true->a=b
 | [],[],_,_=>rfl
 | [],_::_,h,_=>absurd rfl h
 | _::_,[],_,h=>absurd rfl h
 | x::a,y::b,h1,h2=>by
  simp only[Op.bytesLess,Bool.or_eq_true,Bool.and_eq_true,decide_eq_true_eq,beq_iff_eq,not_or,not_and] at h1 h2
  have e:x=y:=UInt8.le_antisymm (UInt8.not_lt.1 h2.1) (UInt8.not_lt.1 h1.1)
  subst e
  rw[Zfo (h1.2 rfl) (h2.2 rfl)]
theorem Zg1:∀ a:List UInt8,¬ Op.bytesLess a a=true
 | [],h=>by cases h
 | x::a,h=>by
  simp only[Op.bytesLess,Bool.or_eq_true,Bool.and_eq_true,decide_eq_true_eq,beq_iff_eq] at h
  rcases h with h|⟨_,h⟩
  .exact UInt8.lt_irrefl x h
  exact Zg1 a h
def compM(σ τ:M):M:=fun i=>getF σ (τ i)
def compB(l:List M)(τ:M):Bool:=l.all (fun σ=>l.any fun ρ=>decide (compM σ τ=ρ)) && l.all fun ρ=>l.any fun σ=>decide (compM σ τ=ρ)
def compsB(n:Nat):Bool:=(permsL n).all (compB (permsL n))
theorem Zld(n:Nat):compsB n=(permsL n).all (compB (permsL n)):=rfl
def surjB(π:M):Bool:=decide (∀ j:Fin 8,∃ i:Fin 8,π i=(j.val:Int))
theorem ZlR:(compsB 1 && compsB 2 && compsB 3 && compsB 4)=true:=by decide +kernel
theorem Zni:((permsL 1).all surjB && (permsL 2).all surjB && (permsL 3).all surjB && (permsL 4).all surjB)=true:=by decide +kernel
theorem comps{n:Nat}(h:1<=n/\n<=4){τ:M}(hτ:τ ∈ permsL n):(∀ σ ∈ permsL n,compM σ τ ∈ permsL n)/\∀ ρ ∈ permsL n,∃ σ ∈ permsL n,compM σ τ=ρ:=by
 have key:compsB n=true:=by
  have:=ZlR
  simp only[Bool.and_eq_true] at this
  obtain⟨⟨⟨h1,h2⟩,h3⟩,h4⟩:=this
  have hn:n=1\/n=2\/n=3\/n=4:=by omega
  rcases hn with rfl|rfl|rfl|rfl
  .exact h1
  .exact h2
  .exact h3
  exact h4
 rw[Zld] at key
 generalize permsL n=l at *
 have hk:compB l τ=true:=List.all_eq_true.1 key τ hτ
 unfold compB at hk
 rw[Bool.and_eq_true,List.all_eq_true,List.all_eq_true] at hk
 refine⟨fun σ hσ=>?_,fun ρ hρ=>?_⟩
 .obtain⟨ρ,h1,h2⟩:=List.any_eq_true.1 (hk.1 σ hσ)
  rw[of_decide_eq_true h2]
  exact h1
 obtain⟨σ,h1,h2⟩:=List.any_eq_true.1 (hk.2 ρ hρ)
 exact⟨σ,h1,of_decide_eq_true h2⟩
theorem surj{n:Nat}(h:1<=n/\n<=4){π:M}(hπ:π ∈ permsL n)(j:Fin 8):∃ i:Fin 8,π i=(j.val:Int):=by
 have:=Zni
 simp only[Bool.and_eq_true,List.all_eq_true] at this
 obtain⟨⟨⟨h1,h2⟩,h3⟩,h4⟩:=this
 have hn:n=1\/n=2\/n=3\/n=4:=by omega
 rcases hn with rfl|rfl|rfl|rfl
 .exact of_decide_eq_true (h1 π hπ) j
 .exact of_decide_eq_true (h2 π hπ) j
 .exact of_decide_eq_true (h3 π hπ) j
 exact of_decide_eq_true (h4 π hπ) j
theorem Znx{n:Nat}(h:1<=n/\n<=4){σ τ:M}(hτ:τ ∈ permsL n)(i j:Fin 8)(hj:(j.val:Int)=τ i):compM σ τ i=σ j:=by
 unfold compM
 rw[<- hj]
 exact getFN j.isLt
theorem Zlt{n:Nat}(h:1<=n/\n<=4){σ τ:M}(hσ:σ ∈ permsL n)(hτ:τ ∈ permsL n)(m:M):permM σ (permM τ m)=permM (compM σ τ) m:=by
 have h1:=(Z6 h hσ).perm
 have h2:=(Z6 h hτ).perm
 have h3:=(Z6 h ((comps h hτ).1 σ hσ)).perm
 funext j
 obtain⟨i,hi⟩:=surj h hσ j
 obtain⟨l,hl⟩:=surj h hτ i
 rw[ZcO h1 _ i j hi.symm,ZcO h2 _ l i hl.symm,ZcO h3 _ l j (by rw[Znx h hτ l i hl.symm]; exact hi.symm)]
def coefP(F:Zf->Zf)(p:Pol):Pol:=p.map fun t=>⟨F t.c,t.m⟩
theorem ZiK{F:Zf->Zf}{p:Pol}(h:Desc p):Desc (coefP F p):=by
 unfold coefP Desc
 rw[List.pairwise_map]
 exact h
theorem Zh6{π:M}(h:IsPerm π){p q:Pol}(hp:Desc p)(hq:Desc q)(e:q.Perm (p.map (permT π))):permP π p=q:=by
 obtain⟨h1,h2⟩:=ZR h hp
 exact Zh8 hq (h1.trans e.symm) (ZiO h2)
theorem Zh5{n:Nat}(h:1<=n/\n<=4){σ τ:M}(hσ:σ ∈ permsL n)(hτ:τ ∈ permsL n){p:Pol}(hp:PolOk p):permP σ (permP τ p)=permP (compM σ τ) p:=by
 have h1:=(Z6 h hσ).perm
 have h2:=(Z6 h hτ).perm
 have h3:=(Z6 h ((comps h hτ).1 σ hσ)).perm
 have q1:=Z1 h2 hp
 obtain⟨a1,a2⟩:=ZR h1 q1.ord
 obtain⟨b1,b2⟩:=ZR h2 hp.ord
 refine (Zh6 h3 hp.ord a2 ?_).symm
 refine a1.trans ((b1.map _).trans (List.Perm.of_eq ?_))
 rw[List.map_map]
 refine List.map_congr_left fun t _=>?_
 show (⟨t.c,permM σ (permM τ t.m)⟩:Za)=⟨t.c,_⟩
 rw[Zlt h hσ hτ]
theorem Zlu{π:M}(h:IsPerm π)(F:Zf->Zf){p:Pol}(hp:PolOk p):permP π (coefP F p)=coefP F (permP π p):=by
 obtain⟨b1,b2⟩:=ZR h hp.ord
 refine Zh6 h (ZiK hp.ord) (ZiK b2) ?_
 unfold coefP
 rw[List.map_map]
 refine (b1.map _).trans (List.Perm.of_eq ?_)
 rw[List.map_map]
 rfl
theorem ZnQ{s:Int}(hs:s=1\/s = -1){u:Int}{g k:Nat}(hg:1<=g)(hk:1<=k){n:Int}(hd:n % ((k*g:Nat):Int)=0):s*u*((s*(n / (g:Int))) / (k:Int))=u*(n / ((k*g:Nat):Int)):=by
 obtain⟨q,rfl⟩:∃ q,n=((k*g:Nat):Int)*q:=⟨n / ((k*g:Nat):Int),by have:=Int.mul_ediv_add_emod n ((k*g:Nat):Int); omega⟩
 have e1:((k*g:Nat):Int)*q=(g:Int)*((k:Int)*q):=by rw[Int.natCast_mul,Int.mul_comm (k:Int),Int.mul_assoc]
 have e0:((k*g:Nat):Int)≠0:=by
  have:=Nat.mul_pos (show 0<k by omega) (show 0<g by omega)
  omega
 rw[Int.mul_ediv_cancel_left _ e0,e1,Int.mul_ediv_cancel_left _ (by omega)]
 rcases hs with rfl|rfl
 .rw[Int.one_mul,Int.one_mul,Int.mul_ediv_cancel_left _ (by omega)]
 rw[show (-1:Int)*((k:Int)*q)=(k:Int)*(-q) by rw[Int.mul_neg,Int.neg_mul,Int.one_mul],Int.mul_ediv_cancel_left _ (by omega),Int.neg_mul,Int.one_mul,Int.neg_mul,Int.mul_neg,Int.neg_neg]
theorem Zng{s:Int}(hs:s=1\/s = -1){g:Nat}(hg:1<=g){p:Pol}(hp:PolOk p)(hne:p≠[])(hd:∀ t ∈ p,numC t.c % (g:Int)=0):sgnP (coefP (quoC s g) p)=s*sgnP p:=by
 match p,hne with
 | t::p,_=>
  obtain⟨e,n0,_⟩:=hp.num (t:=t) (by simp)
  have hdt:=hd t (by simp)
  show (if numC (quoC s g t.c)<0 then (-1:Int) else 1)=s*(if numC t.c<0 then -1 else 1)
  rw[Zhq]
  have q0:=Zj4 hg hdt n0
  have e2:=Int.mul_ediv_add_emod (numC t.c) g
  rw[hdt,Int.add_zero] at e2
  generalize numC t.c / (g:Int)=z at *
  generalize numC t.c=N at *
  have sg:z<0↔N<0:=by
   constructor
   .intro hz
    have:=Int.mul_neg_of_pos_of_neg (show (0:Int)<(g:Int) by omega) hz
    omega
   intro hN
   by_cases hz:0<z
   .have:=Int.mul_pos (show (0:Int)<(g:Int) by omega) hz
    omega
   omega
  rcases hs with rfl|rfl
  .rw[Int.one_mul,Int.one_mul]
   by_cases hN:N<0
   .rw[if_pos hN,if_pos (sg.2 hN)]
   rw[if_neg hN,if_neg (fun h=>hN (sg.1 h))]
  by_cases hN:N<0
  .have:=sg.2 hN
   rw[if_pos hN,if_neg (by omega)]; rfl
  have:¬ z<0:=fun h=>hN (sg.1 h)
  rw[if_neg hN,if_pos (by omega)]; rfl
theorem Zmi{s:Int}(hs:s=1\/s = -1){g:Nat}(hg:1<=g){p:Pol}(hp:PolOk p)(hd:∀ t ∈ p,numC t.c % (g:Int)=0):primP (coefP (quoC s g) p)=primP p:=by
 by_cases hne:p=[]
 .subst hne; rfl
 have hG:=Zgb hs hg hd
 have hG2:gcdTo (coefP (quoC s g) p)*g=gcdTo p:=hG
 have hk:1<=gcdTo (coefP (quoC s g) p):=by
  have:=(Zbd hp hne).1
  rcases Nat.eq_zero_or_pos (gcdTo (coefP (quoC s g) p)) with h0|h0
  .rw[h0,Nat.zero_mul] at hG2; omega
  exact h0
 show (coefP (quoC s g) p).map (fun t=>(⟨quoC (sgnP (coefP (quoC s g) p)) (gcdTo (coefP (quoC s g) p)) t.c,t.m⟩:Za))=p.map _
 rw[Zng hs hg hp hne hd]
 generalize gcdTo (coefP (quoC s g) p)=k at *
 unfold coefP
 rw[List.map_map]
 refine List.map_congr_left fun t ht=>?_
 have hdt:=ZcR ht
 rw[<- hG2] at hdt
 show (⟨quoC (s*sgnP p) k (quoC s g t.c),t.m⟩:Za)=⟨quoC (sgnP p) (gcdTo p) t.c,t.m⟩
 have:quoC (s*sgnP p) k (quoC s g t.c)=quoC (sgnP p) (gcdTo p) t.c:=by
  unfold quoC
  rw[ZN,ZnQ hs hg hk hdt,hG2]
 rw[this]
theorem ZiW{π:M}(h:IsPerm π){p:Pol}(hp:PolOk p):primP (permP π (primP p))=primP (permP π p):=by
 by_cases hne:p=[]
 .subst hne; rfl
 have e:primP p=coefP (quoC (sgnP p) (gcdTo p)) p:=rfl
 rw[e,Zlu h _ hp]
 refine Zmi (Ziy p) (Zbd hp hne).1 (Z1 h hp) (fun t ht=>?_)
 obtain⟨y,hy,rfl⟩:=List.mem_map.1 ((ZR h hp.ord).1.mem_iff.1 ht)
 have:=ZcR hy
 exact this
def prmL(π:M)(l:List Pol):List Pol:=l.map fun p=>primP (permP π p)
theorem ZjV{n:Nat}{least:Int}{l:List Pol}(hn:n<=4)(h:PartOk (n:Int) least l){π:M}(hπ:PermN n π){plain:Bool}(hp:plain=true->1<=least):kept (l.map (permP π)) plain=prmL π l:=by
 have hm:=ZhZ hn h hπ
 unfold kept prmL
 rw[List.map_map]
 refine List.filter_eq_self.2 fun q hq=>?_
 obtain⟨p,hpl,rfl⟩:=List.mem_map.1 hq
 obtain⟨q1,q2,q3,q4⟩:=hm (permP π p) (List.mem_map.2 ⟨p,hpl,rfl⟩)
 have:=ZnF (l:=[permP π p]) (plain:=plain) (p:=permP π p) (by simp) q3 (fun hpl'=>by have:=hp hpl'; omega)
 exact (List.mem_filter.1 this).2
theorem Zd4{k:Zc}(h:CoreOk k){π:M}(hπ:π ∈ permsL k.n.toNat):permK k π=⟨k.n,srtP (prmL π k.eqs),srtP (prmL π k.neqs)⟩:=by
 obtain⟨n,eqs,neqs⟩:=k
 obtain⟨m,rfl,m1,m4⟩:=Zd3 h.n
 have hN:PermN m π:=Z6 ⟨m1,m4⟩ hπ
 rw[(perm1 h (permsN h π hπ)).eq]
 have hi:=ZhZ m4 h.neqs hN
 dsimp only at hi ⊢
 unfold eqsF
 rw[Zgp (fun p hp=>(hi p hp).2.2.1),List.append_nil,ZjV m4 h.eqs hN (fun h=>by cases h),ZjV m4 h.neqs hN (fun _=>Int.le_refl 1)]
theorem Zmk{n:Nat}{least:Int}{l:List Pol}(h:PartOk (n:Int) least l){π:M}(hπ:IsPerm π):∀ q ∈ prmL π l,PolOk q:=fun q hq=>by
 obtain⟨p,hp,rfl⟩:=List.mem_map.1 hq
 exact Zb7 (Z1 hπ (h.pol p hp).1)
theorem ZkX{n:Nat}(hn:1<=n/\n<=4){least:Int}{l:List Pol}(h:PartOk (n:Int) least l){σ τ:M}(hσ:σ ∈ permsL n)(hτ:τ ∈ permsL n):srtP (prmL σ (srtP (prmL τ l)))=srtP (prmL (compM σ τ) l):=by
 have h1:=(Z6 hn hσ).perm
 have h2:=(Z6 hn hτ).perm
 have h3:=(Z6 hn ((comps hn hτ).1 σ hσ)).perm
 have g1:=Zmk h h2
 obtain⟨a1,a2⟩:=ZfC (fun p hp=>(g1 p hp).good)
 have g2:∀ q ∈ prmL σ (srtP (prmL τ l)),PolOk q:=fun q hq=>by
  obtain⟨p,hp,rfl⟩:=List.mem_map.1 hq
  exact Zb7 (Z1 h1 (g1 p ((a2 p).1 hp)))
 obtain⟨b1,b2⟩:=ZfC (fun p hp=>(g2 p hp).good)
 refine Zmr (fun p hp=>(Zmk h h3 p hp).good) b1 fun z=>?_
 rw[b2 z]
 constructor
 .intro hz
  obtain⟨p,hp,rfl⟩:=List.mem_map.1 hz
  obtain⟨q,hq,rfl⟩:=List.mem_map.1 ((a2 p).1 hp)
  have hqo:=(h.pol q hq).1
  refine List.mem_map.2 ⟨q,hq,?_⟩
  show primP (permP (compM σ τ) q)=primP (permP σ (primP (permP τ q)))
  rw[ZiW h1 (Z1 h2 hqo),Zh5 hn hσ hτ hqo]
 intro hz
 obtain⟨q,hq,rfl⟩:=List.mem_map.1 hz
 have hqo:=(h.pol q hq).1
 refine List.mem_map.2 ⟨primP (permP τ q),(a2 _).2 (List.mem_map.2 ⟨q,hq,rfl⟩),?_⟩
 show primP (permP σ (primP (permP τ q)))=primP (permP (compM σ τ) q)
 rw[ZiW h1 (Z1 h2 hqo),Zh5 hn hσ hτ hqo]
theorem Zfv{k:Zc}(h:CoreOk k){σ τ:M}(hσ:σ ∈ permsL k.n.toNat)(hτ:τ ∈ permsL k.n.toNat):permK (permK k τ) σ=permK k (compM σ τ):=by
 have hc:=(perm1 h (permsN h τ hτ)).core
 obtain⟨m,hm,m1,m4⟩:=Zd3 h.n
 have hN:k.n.toNat=m:=by omega
 have he:=h.eqs
 have hi:=h.neqs
 rw[hm] at he hi
 rw[hN] at hσ hτ
 have e1:=Zd4 h (π:=τ) (by rw[hN]; exact hτ)
 have e2:=Zd4 h (π:=compM σ τ) (by rw[hN]; exact (comps ⟨m1,m4⟩ hτ).1 σ hσ)
 have e3:=Zd4 hc (π:=σ) (by rw[e1]; show σ ∈ permsL k.n.toNat; rw[hN]; exact hσ)
 rw[e3,e2,e1]
 show (⟨k.n,srtP (prmL σ (srtP (prmL τ k.eqs))),srtP (prmL σ (srtP (prmL τ k.neqs)))⟩:Zc)=_
 rw[ZkX ⟨m1,m4⟩ he hσ hτ,ZkX ⟨m1,m4⟩ hi hσ hτ]
theorem Zhg(k:Zc):∀ (l:List M) (s:Zc×M),(∃ ρ,s=(permK k ρ,ρ))->
  (∃ ρ,bestF k l s=(permK k ρ,ρ)/\(ρ ∈ l\/bestF k l s=s))/\(¬ Op.bytesLess (keyB s.1).toList (keyB (bestF k l s).1).toList=true)/\∀ π ∈ l,¬ Op.bytesLess (keyB (permK k π)).toList (keyB (bestF k l s).1).toList=true
 | [],s,⟨ρ,hs⟩=>⟨⟨ρ,hs,.inr rfl⟩,Zg1 _,fun π hπ=>by cases hπ⟩
 | π::l,s,⟨ρ,hs⟩=>by
  unfold bestF
  by_cases hc:Op.bytesLess (keyB (permK k π)).toList (keyB s.1).toList=true
  .rw[if_pos hc]
   obtain⟨⟨r,h1,h2⟩,h3,h4⟩:=Zhg k l (permK k π,π) ⟨π,rfl⟩
   refine⟨⟨r,h1,?_⟩,fun h=>?_,fun x hx=>?_⟩
   .rcases h2 with h2|h2
    .exact .inl (by simp[h2])
    rw[h1] at h2
    have e:=(Prod.mk.inj h2).2
    exact .inl (by simp[e])
   .exact h3 (Zfp hc h)
   rcases List.mem_cons.1 hx with rfl|hx
   .exact h3
   exact h4 x hx
  rw[if_neg hc]
  obtain⟨⟨r,h1,h2⟩,h3,h4⟩:=Zhg k l s ⟨ρ,hs⟩
  refine⟨⟨r,h1,?_⟩,h3,fun x hx=>?_⟩
  .rcases h2 with h2|h2
   .exact .inl (by simp[h2])
   exact .inr h2
  rcases List.mem_cons.1 hx with rfl|hx
  .intro h
   by_cases e:Op.bytesLess (keyB (bestF k l s).1).toList (keyB s.1).toList=true
   .exact hc (Zfp h e)
   have:=Zfo h3 e
   rw[<- this] at h
   exact hc h
  exact h4 x hx
theorem ZiJ(k:Zc):∀ (l:List M) (s:Zc×M),(∀ π ∈ l,¬ Op.bytesLess (keyB (permK k π)).toList (keyB s.1).toList=true)->bestF k l s=s
 | [],_,_=>rfl
 | π::l,s,h=>by
  unfold bestF
  rw[if_neg (h π (by simp))]
  exact ZiJ k l s fun x hx=>h x (by simp[hx])
theorem ZhS(k:Zc):(∃ ρ ∈ permsL k.n.toNat,canonF k=(permK k ρ,ρ))/\∀ π ∈ permsL k.n.toNat,¬ Op.bytesLess (keyB (permK k π)).toList (keyB (canonF k).1).toList=true:=by
 obtain⟨⟨ρ,h1,h2⟩,h3,h4⟩:=Zhg k (permsL k.n.toNat).tail (permK k (fun i=>(i.val:Int)),fun i=>(i.val:Int)) ⟨_,rfl⟩
 rw[Zcm]
 refine⟨⟨ρ,?_,h1⟩,fun π hπ=>?_⟩
 .rcases h2 with h2|h2
  .simp[h2]
  rw[h1] at h2
  have:=(Prod.mk.inj h2).2
  simp[this]
 rcases List.mem_cons.1 hπ with rfl|hπ
 .exact h3
 exact h4 π hπ
theorem Znu{a b:ByteArray}(h:a.toList=b.toList):a=b:=by
 rw[Lib.toList_data,Lib.toList_data] at h
 exact ByteArray.ext (Array.toList_inj.1 h)
theorem id_comp{n:Nat}(hn:1<=n/\n<=4){ρ:M}(h:ρ ∈ permsL n):compM (fun i=>(i.val:Int)) ρ=ρ:=by
 funext i
 have hr:=(Z6 hn h).perm.rng i
 show getF _ (ρ i)=ρ i
 rw[getF8 hr]
 show ((ρ i).toNat:Int)=ρ i
 omega
theorem Zhf{π:M}(h:IsPerm π):(Zb9 π).Ret true:=by
 refine Cq.Zk 8 (fun k s=>∃ bx:Fin 8->Bool,s=((k:Int),bx)/\∀ j,bx j=true->∃ i:Fin 8,i.val<k/\(j.val:Int)=π i) (fun k s hk hs=>?_) (fun s hs=>?_) ⟨_,rfl,fun j hj=>by cases hj⟩
 .obtain⟨bx,rfl,hb⟩:=hs
  have r:=h.rng ⟨k,hk⟩
  refine Cq.wp.yes (by omega) ⟨⟨by omega,by omega⟩,?_⟩
  rw[getFN hk]
  refine Cq.wp.no (by omega) ⟨⟨by omega,by omega⟩,Cq.wp.no (by omega) ⟨⟨by omega,by omega⟩,r,Cq.wp.no (Zix h hk hb) ⟨⟨by omega,by omega⟩,r,?_⟩⟩⟩
  rw[wrapN (by omega)]
  exact⟨_,rfl,Zgx h hk hb⟩
 obtain⟨bx,rfl,hb⟩:=hs
 exact Cq.wp.no (by decide) rfl
theorem ZgL{x:Zo}{n:Int}(hx:Raw32Ok x)(hn:0<=n/\n<=255):(Zcv x n).Ret true:=by
 obtain⟨hg,hl⟩:=Zlo hx
 obtain⟨e,hc⟩:=ZmO hg (by omega)
 have h0:(coreF (madeS32 x)).2=0:=by rw[e]
 refine⟨true,ZjJ,Cq.wp.no (by decide) ⟨_,Zk1 hx,_,ZmE hg,Cq.wp.no (fun h=>h h0) ?_⟩⟩
 generalize (coreF (madeS32 x)).1=k at hc
 obtain⟨m,hm,m1,m4⟩:=Zd3 hc.n
 have hN:k.n.toNat=m:=by omega
 have hlen:1<=(permsL m).length/\(permsL m).length<=24:=by
  have e:m=1\/m=2\/m=3\/m=4:=by omega
  rcases e with rfl|rfl|rfl|rfl <;> decide +kernel
 refine⟨permsL m,by rw[hm]; exact ZlI ⟨m1,m4⟩,by omega,?_⟩
 obtain⟨j,hj,j1⟩:∃ j:Nat,Int.tmod (i64.wrap n) ((permsL m).length:Int)=(j:Int)/\j<(permsL m).length:=by
  rw[wrap64 (by omega)]
  have:=ZdI hn.1 (show (0:Int)<((permsL m).length:Int) by omega)
  exact⟨(Int.tmod n ((permsL m).length:Int)).toNat,by omega,by omega⟩
 rw[hj]
 have hτ:(permsL m)[j] ∈ permsL m:=List.getElem_mem j1
 refine⟨_,idxN j1,?_⟩
 generalize (permsL m)[j]=τ at hτ
 have hτ':τ ∈ permsL k.n.toNat:=by rw[hN]; exact hτ
 have ho:=(perm1 hc (permsN hc τ hτ')).core
 have hon:(permK k τ).n=k.n:=by rw[Zd4 hc hτ']
 have hc2:=ZhR hc
 obtain⟨⟨ρ,r1,r2⟩,r3⟩:=ZhS k
 obtain⟨⟨ω,w1,w2⟩,w3⟩:=ZhS (permK k τ)
 rw[hon] at w1 w3
 have hcn:(canonF k).1.n=k.n:=by rw[r2]; show (permK k ρ).n=_; rw[Zd4 hc r1]
 have hρ:(canonF k).2=ρ:=by rw[r2]
 have hω:(canonF (permK k τ)).2=ω:=by rw[w2]
 have hcr:(canonF k).1=permK k ρ:=by rw[r2]
 have hcw:(canonF (permK k τ)).1=permK (permK k τ) ω:=by rw[w2]
 rw[hN] at r1 r3 w1 w3
 have q1:ω ∈ permsL k.n.toNat:=by rw[hN]; exact w1
 have q2:ρ ∈ permsL k.n.toNat:=by rw[hN]; exact r1
 have key:keyB (canonF k).1=keyB (canonF (permK k τ)).1:=by
  refine Znu (Zfo (fun h=>?_) (fun h=>?_))
  .obtain⟨σ,s1,s2⟩:=(comps ⟨m1,m4⟩ hτ).2 ρ r1
   refine w3 σ s1 ?_
   rw[Zfv hc (by rw[hN]; exact s1) hτ',s2,<- hcr]
   exact h
  refine r3 (compM ω τ) ((comps ⟨m1,m4⟩ hτ).1 ω w1) ?_
  rw[<- Zfv hc q1 hτ',<- hcw]
  exact h
 have again:canonF (canonF k).1=((canonF k).1,fun i=>(i.val:Int)):=by
  have hid:(fun i:Fin 8=>(i.val:Int)) ∈ permsL m:=by rw[Zcm]; exact List.mem_cons_self
  have e1:∀ σ ∈ permsL m,permK (canonF k).1 σ=permK k (compM σ ρ):=fun σ hσ=>by
   rw[hcr]; exact Zfv hc (by rw[hN]; exact hσ) q2
  have e2:permK (canonF k).1 (fun i=>(i.val:Int))=(canonF k).1:=by rw[e1 _ hid,id_comp ⟨m1,m4⟩ r1,<- hcr]
  unfold canonF
  rw[show bestF k (permsL k.n.toNat).tail (permK k fun i=>(i.val:Int),fun i=>(i.val:Int))=canonF k from rfl,hcn,hN,e2]
  refine ZiJ _ _ _ fun π hπ=>?_
  have hπ':π ∈ permsL m:=by rw[Zcm]; exact List.mem_cons_of_mem _ hπ
  rw[e1 π hπ']
  exact r3 _ ((comps ⟨m1,m4⟩ r1).1 π hπ')
 have p1:=Zdn hc (permsN hc τ hτ')
 have p2:=Zdn hc (permsN hc ρ q2)
 have p3:=Zdn ho (permsN ho ω (by rw[hon]; exact q1))
 have hw1:=hc2.writ
 have hw2:=(ZhR ho).writ
 refine⟨_,p1,_,Zec hc,_,Zec ho,_,Zec hc2,true,ZfA hw1 hw2 key,permK k ρ,by rw[hρ]; exact p2,true,ZfA (perm1 hc (permsN hc ρ q2)).core.writ hw1 (by rw[hcr]),permK (permK k τ) ω,by rw[hω]; exact p3,true,ZfA (by rw[<- hcw]; exact hw2) hw1 (by rw[<- hcw,key]),true,ZfA (by rw[again]; exact hw1) hw1 (by rw[again]),?_⟩
 refine⟨fun i=>(i.val:Int),⟨Int.le_refl 0,rfl⟩,Cq.wp.yes (by rw[again]) ⟨true,by rw[hρ]; exact Zhf (permsN hc ρ q2).perm,rfl⟩⟩
end Go.EL

