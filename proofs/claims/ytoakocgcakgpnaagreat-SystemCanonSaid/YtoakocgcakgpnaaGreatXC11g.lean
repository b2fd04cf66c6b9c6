/- The law SystemCanon holds for every input: a part of its proof (what the code does, plain models, and what they return). No condition. -/
import Derived.Test.YtoakocgcakgpnaaGreatXC11f
import Derived.Test.YtoakocgcakgpnaaGreatXC11d
set_option linter.unusedVariables false
set_option linter.unusedSimpArgs false
namespace Go.Proofs.YtoakocgcakgpnaaGreat
open Go.IntKind (i8 i16 i32 i64 u8 u16 u32 u64)
open Go.Proofs.Tryz
open Go Go.EL Go.RowKit Go.Proofs
theorem eI'{M ac af r}(hr:(Zdw M).Ret r):Ctr prog 102 #[.slice ac M.length af] (fun G=>sl a' G ac af M) (wl' a' r):=by
 refine H' (args:=[_]) (N:=101) func102 z z z (fun w0 G0 cW cK=>?_)
 have x:=cK
 refine sr<|sx0 z z<|g'<|sr<|mv z z<|yy (O' C' x z) z<|yy (aH' z z) z<|nx<|P' hr z (fun dn hr=>?_) (fun dn hr=>?_)
 .refine sr<|aF' (e:=119) (r:=a') (vs:=#[]) (cs:=[]) ([]:List Za) z z z z z (by decide) (fun _=>by kernel_rfl) (z) (key:=999) z (by rw[cW]; rfl) fun p1 dX dz c8=>sx0 z z<|k'<|f' ?_
  obtain rfl:_=r:=hr
  exact j' z z ⟨_,_,z,c8⟩
 refine n'<|b'<|sr ?_
 obtain⟨de,cE,hr⟩:=hr
 refine N' z z (m' E61 z) (di' cE) z (trivial) (fun dM dT A bB=>?_)
 obtain⟨bH,bx,rfl,bz⟩:=bB
 obtain⟨a8,cF,hr⟩:=hr
 refine N' z z (m' E61 z) (di' cF) z (trivial) (fun dK bW y bJ=>?_)
 obtain⟨av,ax,rfl,bE⟩:=bJ
 refine X' 3 z z57 z fun b1=>X' 4 z z57 z fun b2=>B' 3 z bn' z z z z z (List.all_eq_true.1 z)<|B' 4 z bn' z z z z z (List.all_eq_true.1 z)<|nx<|g'<|sr<|sx0 z z<|ab' (fun (⟨ag,H,I,au⟩:Zb×Option Addr×Nat×Mem)=>[(0,.slice ac M.length af),(3,pt0 b1),(4,pt0 b2)]) (fun ⟨ag,H,I,au⟩=>Mem.le bW au/\sl (Rp.int .u32) au H I ag.mag/\(ZbC M a8 ag).Ret r) (fun ⟨ag,H,I,au⟩=>St w0 G0 au [(3,bk0 b1 (v57' ag H I) 57),(4,bk0 b2 (v57' a8 av ax) 57)]) ?_ ?_
 .refine y' ?_
  let bY:Zb->Prop:=fun oo=>((fun ov=>match ov with|ag=>ZbC M a8 ag:Zb->Cq (List Za)) oo).wp (fun a=>a=r)
  replace hr:(Cq.loop _ _).wp bY:=hr
  refine ac' (Φ:=bY) (fun (⟨ar,aA,L,F,ay⟩:Int×Zb×Option Addr×Nat×Mem)=>((ar,aA):Int×Zb)) (fun ⟨ar,aA,L,F,ay⟩=>[(0,.slice ac M.length af),(3,pt0 b1),(4,pt0 b2),(5,i' ar)]) (fun ⟨ar,aA,L,F,ay⟩=>Mem.le bW ay/\sl (Rp.int .u32) ay L F aA.mag) (fun ⟨ar,aA,L,F,ay⟩=>St w0 G0 ay [(3,bk0 b1 (v57' aA L F) 57),(4,bk0 b2 (v57' a8 av ax) 57)]) ⟨0,de,bH,bx,bW⟩ hr (f4 z z z z) ⟨mr,(bz.mono y)⟩ (w2 z z) ?_
  .intro dQ gx hx hr
   obtain⟨ar,aA,L,F,ay⟩:=gx
   obtain⟨ad,aw⟩:=hx
   refine g'<|sr<|mv z z<|mv z z<|yy (O' C' (x.mono (mx (mx A y) ad)) z) z<|yy (aa' z z) z<|nx<|P' hr z (fun c4 hr=>?_) (fun c4 hr=>?_)
   .refine n'<|b'<|g'<|y'<|g'<|ak' [ff,ff,ff,ff,ff,ff,ff,ff,ff,ff,ff,ff,ff,ff,ff,ff,ff,tt,tt,ff,ff] mix (by kernel_rfl) fun hb=>cn (fun _ g=>c' z)<|cn (fun _ g=>c' z) ?_
    obtain⟨x4,ck,hr⟩:=hr
    refine cn (fun _ g=>V' C' aW' ((x.mono (mx (mx A y) ad)).mono g) z z ck)<|cn (fun _ g=>aV' z)<|cn (fun _ g=>aY' z) ?_
    obtain⟨dg,cP,c2,b9⟩:=ea' (J' (bq' (aG' (br' (aG' (Z' x ck))))) (mx (mx A y) ad))
    refine cn (fun _ g=>ao' _ at' z z (fun j v hv=>g _ _ _ (c2 j v hv)))<|cn (fun _ g=>D' 3 at' z z z)<|cn (fun _ g=>c' z)<|cn (fun _ g=>c' z) ?_
    obtain⟨x5,cm,hr⟩:=hr
    refine cn (fun _ g=>V' C' aW' ((x.mono (mx (mx A y) ad)).mono g) z z cm)<|cn (fun _ g=>aV' z)<|cn (fun _ g=>aY' z) ?_
    obtain⟨c9,cT,c0,bM⟩:=ea' (J' (bq' (aG' (br' (aG' (Z' x cm))))) (mx (mx A y) ad))
    refine cn (fun _ g=>ao' _ at' z z (fun j v hv=>g _ _ _ (c0 j v hv))) ?_
    obtain⟨bS,ce,hr⟩:=hr
    refine az' (post:=w57' bS) (fun _=>z) (fun _ _=>m' E120 z) (em' ce) z (fun Y g=>⟨(aw.mono g),(bM.mono g)⟩) (fun v G1 G2 g h=>?_) ?_
    .obtain⟨aG,aL,rfl,ae⟩:=h
     exact⟨_,_,z,ae.mono g⟩
    obtain⟨i,ch,hr⟩:=hr
    refine bJ' (f:=158) (φ:=fun G v=>∃ l n o m,v = .tuple #[.agg ((v57' i.1 l n)).toArray,.agg ((v57' i.2.1 o m)).toArray,i' i.2.2]/\sl (Rp.int .u32) G l n i.1.mag/\sl (Rp.int .u32) G o m i.2.1.mag) (fun _=>z) (fun v G1 G2 g h=>?_) (fun u Y g hu=>?_) ?_
    .obtain⟨l,n,o,m,rfl,S,T⟩:=h
     exact⟨_,_,_,_,z,S.mono g,T.mono g⟩
    .obtain⟨⟨aG,aL,bO,ae⟩,_⟩:=(show (w57' bS) Y.m (u 43)/\True from hu)
     exact⟨_,_,_,fun _=>m' E158 z,eg' ch,(by simp only[bO] <;> rfl),⟨(b9.mono g),ae⟩⟩
    refine bF' (φ:=fun G v=>∃ p6 O p7 R,v = .tuple #[.agg ((v57' i.1 p6 O)).toArray,.agg ((v57' i.2.1 p7 R)).toArray,i' i.2.2]/\sl (Rp.int .u32) G p6 O i.1.mag/\sl (Rp.int .u32) G p7 R i.2.1.mag) (fun _=>z) (fun v G1 G2 g h=>?_) (fun u Y g hu=>?_) ?_
    .obtain⟨p6,O,p7,R,rfl,aO,aQ⟩:=h
     exact⟨_,_,_,_,z,aO.mono g,aQ.mono g⟩
    .obtain⟨⟨l,n,o,m,bT,S,T⟩,_,_⟩:=(show (fun G v=>∃ l n o m,v = .tuple #[.agg ((v57' i.1 l n)).toArray,.agg ((v57' i.2.1 o m)).toArray,i' i.2.2]/\sl (Rp.int .u32) G l n i.1.mag/\sl (Rp.int .u32) G o m i.2.1.mag) Y.m (u 44)/\True/\True from hu)
     simp only[undFr,bT]
     exact⟨_,c' z,l,n,o,m,z,S,T⟩
    refine bF' (φ:=w57' i.1) (fun _=>z) (fun v G1 G2 g h=>?_) (fun u Y g hu=>?_) ?_
    .obtain⟨p8,dl,rfl,bL⟩:=h
     exact⟨_,_,z,bL.mono g⟩
    .obtain⟨⟨p6,O,p7,R,aa,aO,aQ⟩,_,_,_⟩:=(show (fun G v=>∃ p6 O p7 R,v = .tuple #[.agg ((v57' i.1 p6 O)).toArray,.agg ((v57' i.2.1 p7 R)).toArray,i' i.2.2]/\sl (Rp.int .u32) G p6 O i.1.mag/\sl (Rp.int .u32) G p7 R i.2.1.mag) Y.m (u 29)/\True/\True/\True from hu)
     simp only[undFr,aa]
     exact⟨_,R' z z,p6,O,z,aO⟩
    refine dW' (kk:=29) (φ:=w57' i.2.1) (by kernel_rfl) (fun _=>z) (fun v G1 G2 g h=>?_) (fun u Y g hu=>?_) ?_
    .obtain⟨p9,c3,rfl,cl⟩:=h
     exact⟨_,_,z,cl.mono g⟩
    .obtain⟨_,⟨p6,O,p7,R,aa,aO,aQ⟩,_,_,_⟩:=(show True/\(fun G v=>∃ p6 O p7 R,v = .tuple #[.agg ((v57' i.1 p6 O)).toArray,.agg ((v57' i.2.1 p7 R)).toArray,i' i.2.2]/\sl (Rp.int .u32) G p6 O i.1.mag/\sl (Rp.int .u32) G p7 R i.2.1.mag) Y.m (u 29)/\True/\True/\True from hu)
     exact⟨_,_,aa,(by simp only[undFr,aa] <;> rfl),z,p7,R,z,aQ⟩
    refine cI' (c:=i' i.2.2) (fun _=>z) (fun u Y g hu=>?_) ?_
    .obtain⟨_,_,⟨p6,O,p7,R,aa,aO,aQ⟩,_,_,_⟩:=(show True/\True/\(fun G v=>∃ p6 O p7 R,v = .tuple #[.agg ((v57' i.1 p6 O)).toArray,.agg ((v57' i.2.1 p7 R)).toArray,i' i.2.2]/\sl (Rp.int .u32) G p6 O i.1.mag/\sl (Rp.int .u32) G p7 R i.2.1.mag) Y.m (u 29)/\True/\True/\True from hu)
     simp only[undFr,aa]
     exact R' z z
    refine bN' (fun _=>z) z57<|bN' (fun _=>z) z57<|Chain.tailX7 (fun dV dR dx dw du dr dv X2 bZ bR aH bd bm bq bp bn=>?_)
    obtain⟨p9,c3,rfl,cl⟩:=bd
    obtain⟨p8,dl,rfl,bL⟩:=bm
    obtain⟨p6,O,p7,R,rfl,aO,aQ⟩:=bq
    obtain⟨l,n,o,m,rfl,S,T⟩:=bp
    obtain⟨aG,aL,rfl,ae⟩:=bn
    refine dT' bR (fun b7 cQ c1=>?_)
    subst cQ
    replace aH:=Laid.drop aH (by decide) c1
    refine dT' aH (fun b6 da dW=>?_)
    subst da
    refine ds' (show WL _ _ _ _ _ _ (St w0 G0 X2.m _) from ?_)
    refine B' 6 z bn' z z z z z (List.all_eq_true.1 z)<|B' 7 z bn' z z z z z (List.all_eq_true.1 z)<|sg z z<|q'<|am'<|b'<|x'<|yy (D' 3 at' z z z) z<|yy (D' 6 at' z z z) z ?_
    obtain⟨cH,cd,hr⟩:=hr
    refine N' z z (m' E63 z) (cJ' cd) z (⟨(aw.mono bZ),bL⟩) (fun dp cz bP bg=>?_)
    obtain⟨bl,bj,rfl,bi⟩:=bg
    refine B' 3 z bn' z z z z z (List.all_eq_true.1 z)<|q'<|F'<|b'<|x'<|mv z z<|yy (W' z z) z<|sg z z<|q'<|T' ⟨i64.wrap (ar+1),cH,bl,bj,cz⟩ hr ⟨(mx (mx ad bZ) bP),bi⟩ (f4 z z z z) (w2 z z)
   refine ae'<|h'<|h'<|I'<|af' ⟨aA,L,F,ay⟩ ⟨ad,aw,hr⟩ (f3 z z z) (w2 z z)
 rintro⟨ag,H,I,au⟩ ⟨U,aR,hr⟩
 refine b'<|g'<|sr<|sx0 z z<|ab' (fun (⟨aC,ab,Z,aU⟩:Zb×Option Addr×Nat×Mem)=>[(0,.slice ac M.length af),(3,pt0 b1),(4,pt0 b2)]) (fun ⟨aC,ab,Z,aU⟩=>Mem.le au aU/\sl (Rp.int .u32) aU ab Z aC.mag/\(ZaO M ag aC).Ret r) (fun ⟨aC,ab,Z,aU⟩=>St w0 G0 aU [(3,bk0 b1 (v57' ag H I) 57),(4,bk0 b2 (v57' aC ab Z) 57)]) ?_ ?_
 .refine y' ?_
  let bV:Zb->Prop:=fun oo=>((fun ov=>match ov with|aC=>ZaO M ag aC:Zb->Cq (List Za)) oo).wp (fun a=>a=r)
  replace hr:(Cq.loop _ _).wp bV:=hr
  refine ac' (Φ:=bV) (fun (⟨ap,aB,J,K,az⟩:Int×Zb×Option Addr×Nat×Mem)=>((ap,aB):Int×Zb)) (fun ⟨ap,aB,J,K,az⟩=>[(0,.slice ac M.length af),(3,pt0 b1),(4,pt0 b2),(9,i' ap)]) (fun ⟨ap,aB,J,K,az⟩=>Mem.le au az/\sl (Rp.int .u32) az J K aB.mag) (fun ⟨ap,aB,J,K,az⟩=>St w0 G0 az [(3,bk0 b1 (v57' ag H I) 57),(4,bk0 b2 (v57' aB J K) 57)]) ⟨0,a8,av,ax,au⟩ hr (f4 z z z z) ⟨mr,(bE.mono U)⟩ (w2 z z) ?_
  .intro dS gx hx hr
   obtain⟨ap,aB,J,K,az⟩:=gx
   obtain⟨X,aP⟩:=hx
   refine g'<|sr<|mv z z<|mv z z<|yy (O' C' (x.mono (mx (mx (mx A y) U) X)) z) z<|yy (aa' z z) z<|nx<|P' hr z (fun db hr=>?_) (fun db hr=>?_)
   .refine n'<|b'<|g'<|y'<|g'<|ak' [ff,ff,ff,ff,ff,ff,ff,ff,ff,ff,tt,tt,ff,ff] mix (by kernel_rfl) fun hb=>cn (fun _ g=>D' 3 at' z z z)<|cn (fun _ g=>c' z)<|cn (fun _ g=>c' z) ?_
    obtain⟨x2,cj,hr⟩:=hr
    refine cn (fun _ g=>V' C' aW' ((x.mono (mx (mx (mx A y) U) X)).mono g) z z cj)<|cn (fun _ g=>aV' z)<|cn (fun _ g=>aY' z) ?_
    obtain⟨c5,dj,cM,bX⟩:=ea' (J' (bq' (aG' (br' (aG' (Z' x cj))))) (mx (mx (mx A y) U) X))
    refine cn (fun _ g=>ao' _ at' z z (fun j v hv=>g _ _ _ (cM j v hv))) ?_
    obtain⟨k,cJ,hr⟩:=hr
    refine az' (post:=fun G v=>∃ p s t q,v = .tuple #[.agg ((v57' k.1 p s)).toArray,.agg ((v57' k.2.1 t q)).toArray,i' k.2.2]/\sl (Rp.int .u32) G p s k.1.mag/\sl (Rp.int .u32) G t q k.2.1.mag) (fun _=>z) (fun _ _=>m' E158 z) (eg' cJ) z (fun Y g=>⟨((aR.mono X).mono g),(bX.mono g)⟩) (fun v G1 G2 g h=>?_) ?_
    .obtain⟨p,s,t,q,rfl,W,V⟩:=h
     exact⟨_,_,_,_,z,W.mono g,V.mono g⟩
    refine bF' (φ:=fun G v=>∃ p2 Q p3 P,v = .tuple #[.agg ((v57' k.1 p2 Q)).toArray,.agg ((v57' k.2.1 p3 P)).toArray,i' k.2.2]/\sl (Rp.int .u32) G p2 Q k.1.mag/\sl (Rp.int .u32) G p3 P k.2.1.mag) (fun _=>z) (fun v G1 G2 g h=>?_) (fun u Y g hu=>?_) ?_
    .obtain⟨p2,Q,p3,P,rfl,aT,aS⟩:=h
     exact⟨_,_,_,_,z,aT.mono g,aS.mono g⟩
    .obtain⟨⟨p,s,t,q,ca,W,V⟩,_⟩:=(show (fun G v=>∃ p s t q,v = .tuple #[.agg ((v57' k.1 p s)).toArray,.agg ((v57' k.2.1 t q)).toArray,i' k.2.2]/\sl (Rp.int .u32) G p s k.1.mag/\sl (Rp.int .u32) G t q k.2.1.mag) Y.m (u 65)/\True from hu)
     simp only[undFr,ca]
     exact⟨_,c' z,p,s,t,q,z,W,V⟩
    refine bF' (φ:=w57' k.1) (fun _=>z) (fun v G1 G2 g h=>?_) (fun u Y g hu=>?_) ?_
    .obtain⟨p4,cX,rfl,bQ⟩:=h
     exact⟨_,_,z,bQ.mono g⟩
    .obtain⟨⟨p2,Q,p3,P,ao,aT,aS⟩,_,_⟩:=(show (fun G v=>∃ p2 Q p3 P,v = .tuple #[.agg ((v57' k.1 p2 Q)).toArray,.agg ((v57' k.2.1 p3 P)).toArray,i' k.2.2]/\sl (Rp.int .u32) G p2 Q k.1.mag/\sl (Rp.int .u32) G p3 P k.2.1.mag) Y.m (u 57)/\True/\True from hu)
     simp only[undFr,ao]
     exact⟨_,R' z z,p2,Q,z,aT⟩
    refine dW' (kk:=57) (φ:=w57' k.2.1) (by kernel_rfl) (fun _=>z) (fun v G1 G2 g h=>?_) (fun u Y g hu=>?_) ?_
    .obtain⟨p5,cR,rfl,cv⟩:=h
     exact⟨_,_,z,cv.mono g⟩
    .obtain⟨_,⟨p2,Q,p3,P,ao,aT,aS⟩,_,_⟩:=(show True/\(fun G v=>∃ p2 Q p3 P,v = .tuple #[.agg ((v57' k.1 p2 Q)).toArray,.agg ((v57' k.2.1 p3 P)).toArray,i' k.2.2]/\sl (Rp.int .u32) G p2 Q k.1.mag/\sl (Rp.int .u32) G p3 P k.2.1.mag) Y.m (u 57)/\True/\True from hu)
     exact⟨_,_,ao,(by simp only[undFr,ao] <;> rfl),z,p3,P,z,aS⟩
    refine cI' (c:=i' k.2.2) (fun _=>z) (fun u Y g hu=>?_) ?_
    .obtain⟨_,_,⟨p2,Q,p3,P,ao,aT,aS⟩,_,_⟩:=(show True/\True/\(fun G v=>∃ p2 Q p3 P,v = .tuple #[.agg ((v57' k.1 p2 Q)).toArray,.agg ((v57' k.2.1 p3 P)).toArray,i' k.2.2]/\sl (Rp.int .u32) G p2 Q k.1.mag/\sl (Rp.int .u32) G p3 P k.2.1.mag) Y.m (u 57)/\True/\True from hu)
     simp only[undFr,ao]
     exact R' z z
    refine bN' (fun _=>z) z57<|bN' (fun _=>z) z57<|Chain.tailX6 (fun dZ d0 ds dL dA dH X1 a1 b8 aK bc bF bD bK=>?_)
    obtain⟨p5,cR,rfl,cv⟩:=bc
    obtain⟨p4,cX,rfl,bQ⟩:=bF
    obtain⟨p2,Q,p3,P,rfl,aT,aS⟩:=bD
    obtain⟨p,s,t,q,rfl,W,V⟩:=bK
    refine dT' b8 (fun b5 cZ dh=>?_)
    subst cZ
    replace aK:=Laid.drop aK (by decide) dh
    refine dT' aK (fun b4 dm dO=>?_)
    subst dm
    refine ds' (show WL _ _ _ _ _ _ (St w0 G0 X1.m _) from ?_)
    refine B' 10 z bn' z z z z z (List.all_eq_true.1 z)<|B' 11 z bn' z z z z z (List.all_eq_true.1 z)<|sg z z<|q'<|am'<|b'<|ak' [ff,ff,ff,ff,ff,ff,ff,ff,ff] mix (by kernel_rfl) fun hb=>cn (fun _ g=>D' 4 at' z z z)<|cn (fun _ g=>c' z)<|cn (fun _ g=>c' z) ?_
    obtain⟨x3,cp,hr⟩:=hr
    refine cn (fun _ g=>V' C' aW' ((x.mono (mx (mx (mx (mx A y) U) X) a1)).mono g) z z cp)<|cn (fun _ g=>aV' z)<|cn (fun _ g=>bk' z) ?_
    obtain⟨dd,di,cY,bU⟩:=ea' (J' (br' (aG' (br' (aG' (Z' x cp))))) (mx (mx (mx (mx A y) U) X) a1))
    refine cn (fun _ g=>ao' _ at' z z (fun j v hv=>g _ _ _ (cY j v hv)))<|cn (fun _ g=>D' 10 at' z z z) ?_
    obtain⟨b0,cf,hr⟩:=hr
    refine az' (post:=w57' b0) (fun _=>z) (fun _ _=>m' E63 z) (cJ' cf) z (fun Y g=>⟨(bU.mono g),(bQ.mono g)⟩) (fun v G1 G2 g h=>?_) ?_
    .obtain⟨bs,bv,rfl,aq⟩:=h
     exact⟨_,_,z,aq.mono g⟩
    refine bi' (d:=77) (post:=w57' b0) (fun dy dU bw bk=>?_)
    obtain⟨bs,bv,rfl,aq⟩:=bk
    obtain⟨cC,cc,hr⟩:=hr
    refine N' z z (m' E120 z) (em' cc) z (⟨(aP.mono (mx a1 bw)),aq⟩) (fun dq dc cg bh=>?_)
    obtain⟨bt,be,rfl,bf⟩:=bh
    refine B' 4 z bn' z z z z z (List.all_eq_true.1 z)<|q'<|am'<|F'<|b'<|x'<|mv z z<|yy (W' z z) z<|sg z z<|q'<|T' ⟨i64.wrap (ap+1),cC,bt,be,dc⟩ hr ⟨(mx (mx (mx X a1) bw) cg),bf⟩ (f4 z z z z) (w2 z z)
   refine ae'<|h'<|h'<|I'<|af' ⟨aB,J,K,az⟩ ⟨X,aP,hr⟩ (f3 z z z) (w2 z z)
 rintro⟨aC,ab,Z,aU⟩ ⟨aD,bG,hr⟩
 refine b'<|sr<|yy (D' 3 at' z z z) z<|yy (D' 4 at' z z z) z ?_
 obtain⟨c7,cI,hr⟩:=hr
 refine N' z z (m' E159 z) (gb' cI) z (⟨(aR.mono aD),bG⟩) (fun dC co a4 bI=>?_)
 obtain⟨aN,aI,aF,aM,rfl,aj,an⟩:=bI
 refine mv z z<|yy (R' z z) z<|yy (R' z z) z<|X' 13 z z59 z fun b3=>B' 13 z ch' z z z z z (List.all_eq_true.1 z)<|sx0 z z<|aO' (fun (⟨aJ,E,B,C,D,aE⟩:Zg×Option Addr×Nat×Option Addr×Nat×Mem)=>[(0,.slice ac M.length af),(13,pt0 b3)]) (fun ⟨aJ,E,B,C,D,aE⟩=>Mem.le co aE/\sl (Rp.int .u32) aE E B aJ.num.mag/\sl (Rp.int .u32) aE C D aJ.den.mag/\(Zdh M aJ).Ret r) (fun ⟨aJ,E,B,C,D,aE⟩=>St w0 G0 aE [(13,bk0 b3 (v59' aJ E B C D) 59)]) ?_ ?_
 .refine sr<|mv z z ?_
  obtain⟨x1,cw,hr⟩:=hr
  refine yy (V' C' aW' (x.mono (mx (mx (mx (mx A y) U) aD) a4)) z z cw) z<|yy (aV' z) z ?_
  obtain⟨cr,ct,cu,cq,cV,ba,a9⟩:=ce' (J' (br' (aG' (Z' x cw))) (mx (mx (mx (mx A y) U) aD) a4))
  refine yy (ao' _ bc' z z cV) z ?_
  obtain⟨d1,cG,hr⟩:=hr
  refine K' z z (m' E65 z) (cT' cG) z (⟨ba,a9⟩)<|yy (aa' z z) z<|nx<|P' hr z (fun c6 hr=>?_) (fun c6 hr=>?_)
  .refine x'<|yy (D' 13 bc' z z z) z ?_
   obtain⟨cS,cy,hr⟩:=hr
   refine N' z z (m' E160 z) (gc' cy) z (⟨aj,an⟩) (fun dB cU ci bA=>?_)
   obtain⟨aW,aZ,a5,a0,rfl,aY,a3⟩:=bA
   refine B' 13 z ch' z z z z z (List.all_eq_true.1 z)<|q'<|ax' ⟨cS,aW,aZ,a5,a0,cU⟩ ⟨ci,aY,a3,hr⟩ (f2 z z) (w1 z)
  refine n'<|ax' ⟨c7.1,aN,aI,aF,aM,co⟩ ⟨mr,aj,an,hr⟩ (f2 z z) (w1 z)
 rintro⟨aJ,E,B,C,D,aE⟩ ⟨cb,aV,a2,hr⟩
 refine sr<|yy (D' 13 bc' z z z) z<|yy (au' (vs:=#[]) (v:=.agg (vecG (Value.int .i64) 8 (fun _=>0)).toArray) z z (fun _=>by kernel_rfl)) z<|mv z z ?_
 obtain⟨dP,cx,hr⟩:=hr
 refine N' z z (m' E27 z) (da' cx) z (⟨aV,a2,(x.mono (mx (mx (mx (mx (mx A y) U) aD) a4) cb))⟩) (fun dI dY dt bC=>?_)
 obtain⟨dk,df,rfl,bN⟩:=bC
 refine mv z z<|yy (R' z z) z<|yy (R' z z) z<|sg z z<|sg z z<|nr<|mv z z<|sx0 z z<|k' ?_
 obtain rfl:_=r:=hr
 exact j' z z ⟨_,_,z,bN⟩
theorem ft'{p o l g j i k e c f r}(hr:(ZeS p o).Ret r):Ctr prog 161 #[.agg ((v59' p l g j i)).toArray,.agg ((v59' o k e c f)).toArray] (fun G=>sl (Rp.int .u32) G l g p.num.mag/\sl (Rp.int .u32) G j i p.den.mag/\sl (Rp.int .u32) G k e o.num.mag/\sl (Rp.int .u32) G c f o.den.mag) (fun G v=>v=i' r):=by
 refine H' (args:=[_,_]) (N:=16) func161 z z z (fun w0 Y U J=>?_)
 obtain⟨u,q,s,t⟩:=J
 refine sr<|ai' 2 z z z fun b2=>ai' 3 z z z fun X=>sx0 z z<|g'<|ak' [ff,ff,ff,ff,ff,ff,ff,ff,ff] mix (by kernel_rfl) fun W=>cn (fun _ m=>bk' z)<|cn (fun _ m=>al' ((v57' p.num l g)).toArray 2 at' z z z (ap' ([]) ((v57' p.num l g)) ((v57' p.den j i))))<|cn (fun _ m=>aY' z)<|cn (fun _ m=>al' ((v57' o.den c f)).toArray 3 at' z z z (ap' ((v57' o.num k e)) ((v57' o.den c f)) ([]))) ?_
 obtain⟨F,K,hr⟩:=hr
 refine az' (post:=w57' F) (fun _=>z) (fun _ _=>m' E63 z) (cJ' K) z (fun V m=>⟨(u.mono m),(t.mono m)⟩) (fun v G1 Z m h=>?_) ?_
 .obtain⟨y,A,rfl,n⟩:=h
  exact⟨_,_,z,n.mono m⟩
 refine cu (fun _ _ m=>bk' z)<|cu (fun _ _ m=>al' ((v57' o.num k e)).toArray 3 at' z z z (ap' ([]) ((v57' o.num k e)) ((v57' o.den c f))))<|cu (fun _ _ m=>aY' z)<|cu (fun _ _ m=>al' ((v57' p.den j i)).toArray 2 at' z z z (ap' ((v57' p.num l g)) ((v57' p.den j i)) ([])))<|bi' (d:=9) (post:=w57' F) (fun O Q x B=>?_)
 obtain⟨y,A,rfl,n⟩:=B
 obtain⟨R,H,hr⟩:=hr
 refine N' z z (m' E63 z) (cJ' H) z (⟨(s.mono x),(q.mono x)⟩) (fun P T E D=>?_)
 obtain⟨M,L,rfl,C⟩:=D
 obtain⟨S,I,hr⟩:=hr
 refine K' z z (m' E191 z) (fr' I) z (⟨(n.mono E),C⟩)<|sg z z<|q'<|am'<|b'<|k' (k0' hr z z)
theorem fu'{k h m p n o r}(hr:(ZgI k h).Ret r):Ctr prog 103 #[.slice m k.length p,.slice n h.length o] (fun G=>sl a' G m p k/\sl a' G n o h) (fun G v=>v=i' r):=by
 refine H' (args:=[_,_]) (N:=74) func103 z z z (fun w0 K aH ap=>?_)
 obtain⟨g,f⟩:=ap
 refine sr<|sx0 z z<|g'<|sr<|sx0 z z<|ab' (fun (q:Mem)=>match q with|F=>[(0,.slice m k.length p),(1,.slice n h.length o)]) (fun (q:Mem)=>match q with|F=>Mem.le K F/\(Zb3 k h).Ret r) (fun (q:Mem)=>match q with|F=>St w0 K F []) ?_ ?_
 .refine y' ?_
  let I:(Int⊕Unit)->Prop:=fun oo=>((fun ov=>match ov with | .inl rv1=>Cq.ret rv1 | .inr ()=>Zb3 k h:(Int⊕Unit)->Cq Int) oo).wp (fun a=>a=r)
  replace hr:(Cq.loop _ _).wp I:=hr
  refine ac' (Φ:=I) (fun (⟨i,l⟩:Int×Mem)=>(i:Int)) (fun ⟨i,l⟩=>[(0,.slice m k.length p),(1,.slice n h.length o),(5,i' i)]) (fun ⟨i,l⟩=>Mem.le K l) (fun ⟨i,l⟩=>St w0 K l []) ⟨0,K⟩ hr (f3 z z z) mr (wk ln) ?_
  .intro ar q hx hr
   obtain⟨i,l⟩:=q
   have d:=hx
   refine aO' (fun (q:Mem)=>match q with|t=>[(0,.slice m k.length p),(1,.slice n h.length o),(5,i' i)]) (fun (q:Mem)=>match q with|t=>Mem.le l t/\(Zfj k h i).wp (Out ar I)) (fun (q:Mem)=>match q with|t=>St w0 K t []) ?_ ?_
   .refine sr<|mv z z<|mv z z<|yy (O' C' (g.mono d) z) z<|aE' hr z (aa' z z) z (fun aB hr=>?_) (fun aB hr=>?_)
    .refine mv z z<|gy z z (c' z) z<|gy z z (c' z) z<|gy z z (O' C' (f.mono d) z) z<|gy z z (aa' z z) z<|yy (w' z z) z<|nx<|P' hr z (fun aA hr=>?_) (fun aA hr=>?_)
     .refine n'<|ax' l ⟨mr,hr⟩ (f3 z z z) (wk ln)
     refine ae'<|h'<|h'<|I'<|af' l ⟨d,hr⟩ (f2 z z) (wk ln)
    refine mv z z<|sn4 z<|yy (t' z z) z<|nx<|bw' z<|ae'<|h'<|h'<|I'<|af' l ⟨d,hr⟩ (f2 z z) (wk ln)
   rintro t ⟨e,hr⟩
   refine g'<|y'<|g'<|g'<|ak' [ff,ff,ff,ff,ff,ff,ff,ff,ff,ff] mix (by kernel_rfl) fun H=>cn (fun _ c=>c' z)<|cn (fun _ c=>c' z) ?_
   obtain⟨x1,ah,hr⟩:=hr
   refine cn (fun _ c=>V' C' aW' ((g.mono (mx d e)).mono c) z z ah)<|cn (fun _ c=>aM' z)<|cn (fun _ c=>ao' _ bo' z (Q' _ _ _) (bK' (J' (J' (bq' (aG' (Z' g ah))) (mx d e)) c)))<|cn (fun _ c=>c' z)<|cn (fun _ c=>c' z) ?_
   obtain⟨x2,L,hr⟩:=hr
   refine cn (fun _ c=>V' C' aW' ((f.mono (mx d e)).mono c) z z L)<|cn (fun _ c=>aM' z)<|cn (fun _ c=>ao' _ bo' z (Q' _ _ _) (bK' (J' (J' (bq' (aG' (Z' f L))) (mx d e)) c)))<|ah' H ?_
   obtain⟨aK,al,hr⟩:=hr
   refine K' z z (m' E81 z) (dR' al) z (trivial)<|yy (bp' z z) z<|q'<|am'<|b'<|P' hr z (fun az hr=>?_) (fun az hr=>?_)
   .refine g'<|ak' [ff,ff,ff,ff,ff,ff,ff,ff,ff,ff] mix (by kernel_rfl) fun H=>cn (fun _ c=>c' z)<|cn (fun _ c=>c' z) ?_
    obtain⟨x3,Q,hr⟩:=hr
    refine cn (fun _ c=>V' C' aW' ((g.mono (mx d e)).mono c) z z Q)<|cn (fun _ c=>aM' z)<|cn (fun _ c=>ao' _ bo' z (Q' _ _ _) (bK' (J' (J' (bq' (aG' (Z' g Q))) (mx d e)) c)))<|cn (fun _ c=>c' z)<|cn (fun _ c=>c' z) ?_
    obtain⟨x4,O,hr⟩:=hr
    refine cn (fun _ c=>V' C' aW' ((f.mono (mx d e)).mono c) z z O)<|cn (fun _ c=>aM' z)<|cn (fun _ c=>ao' _ bo' z (Q' _ _ _) (bK' (J' (J' (bq' (aG' (Z' f O))) (mx d e)) c)))<|ah' H ?_
    obtain⟨aI,am,hr⟩:=hr
    refine K' z z (m' E81 z) (dR' am) z (trivial)<|sg z z<|q'<|am'<|b'<|k'<|f'<|A'<|f'<|f'<|A'<|an'<|f' (k0' hr z z)
   refine n'<|b'<|g'<|ak' [ff,ff,ff,ff,ff,ff,ff,ff,ff,ff] mix (by kernel_rfl) fun H=>cn (fun _ c=>c' z)<|cn (fun _ c=>c' z) ?_
   obtain⟨x5,P,hr⟩:=hr
   refine cn (fun _ c=>V' C' aW' ((g.mono (mx d e)).mono c) z z P)<|cn (fun _ c=>aV' z) ?_
   obtain⟨U,ab,ac,R,au,D,A⟩:=ce' (J' (br' (aG' (Z' g P))) (mx d e))
   refine cn (fun _ c=>ao' _ bc' z z (fun j v J=>c _ _ _ (au j v J)))<|cn (fun _ c=>c' z)<|cn (fun _ c=>c' z) ?_
   obtain⟨x6,aa,hr⟩:=hr
   refine cn (fun _ c=>V' C' aW' ((f.mono (mx d e)).mono c) z z aa)<|cn (fun _ c=>aV' z) ?_
   obtain⟨S,W,Y,Z,aq,x,C⟩:=ce' (J' (br' (aG' (Z' f aa))) (mx d e))
   refine cn (fun _ c=>ao' _ bc' z z (fun j v J=>c _ _ _ (aq j v J)))<|ah' H ?_
   obtain⟨aJ,an,hr⟩:=hr
   refine K' z z (m' E161 z) (ft' an) z (⟨D,A,x,C⟩)<|yy (bp' z z) z<|q'<|am'<|b'<|P' hr z (fun ax hr=>?_) (fun ax hr=>?_)
   .refine g'<|ak' [ff,ff,ff,ff,ff,ff,ff,ff,ff,ff] mix (by kernel_rfl) fun H=>cn (fun _ c=>c' z)<|cn (fun _ c=>c' z) ?_
    obtain⟨x7,ae,hr⟩:=hr
    refine cn (fun _ c=>V' C' aW' ((g.mono (mx d e)).mono c) z z ae)<|cn (fun _ c=>aV' z) ?_
    obtain⟨ad,ag,X,T,av,y,u⟩:=ce' (J' (br' (aG' (Z' g ae))) (mx d e))
    refine cn (fun _ c=>ao' _ bc' z z (fun j v J=>c _ _ _ (av j v J)))<|cn (fun _ c=>c' z)<|cn (fun _ c=>c' z) ?_
    obtain⟨x8,af,hr⟩:=hr
    refine cn (fun _ c=>V' C' aW' ((f.mono (mx d e)).mono c) z z af)<|cn (fun _ c=>aV' z) ?_
    obtain⟨ai,V,M,aj,aw,B,E⟩:=ce' (J' (br' (aG' (Z' f af))) (mx d e))
    refine cn (fun _ c=>ao' _ bc' z z (fun j v J=>c _ _ _ (aw j v J)))<|ah' H ?_
    obtain⟨aG,ak,hr⟩:=hr
    refine K' z z (m' E161 z) (ft' ak) z (⟨y,u,B,E⟩)<|sg z z<|q'<|am'<|b'<|k'<|A'<|f'<|f'<|A'<|an'<|f' (k0' hr z z)
   refine n'<|F'<|b'<|x'<|mv z z<|yy (W' z z) z<|sg z z<|q'<|T' ⟨i64.wrap (i+1),t⟩ hr (mx d e) (f3 z z z) (wk ln)
 rintro F ⟨s,hr⟩
 refine b'<|g'<|sr<|mv z z<|yy (O' C' (g.mono s) z) z<|mv z z<|yy (O' C' (f.mono s) z) z<|yy (aa' z z) z<|nx<|P' hr z (fun aC hr=>?_) (fun aC hr=>?_)
 .refine sr<|sx0 z z<|k'<|f' (k0' hr z z)
 refine n'<|b'<|g'<|sr<|mv z z<|yy (O' C' (g.mono s) z) z<|mv z z<|yy (O' C' (f.mono s) z) z<|yy (aS' z z) z<|nx<|P' hr z (fun ay hr=>?_) (fun ay hr=>?_)
 .refine sr<|sx0 z z<|k'<|f' (k0' hr z z)
 refine n'<|b'<|sr<|sx0 z z<|k' (k0' hr z z)
theorem fi'{s q k h i g r}(hr:(Zhj s q).Ret r):Ctr prog 173 #[.agg ((v57' s k h)).toArray,.agg ((v57' q i g)).toArray] (fun G=>sl (Rp.int .u32) G k h s.mag/\sl (Rp.int .u32) G i g q.mag) (fun G v=>v = .bool r):=by
 refine H' (args:=[_,_]) (N:=38) func173 z z z (fun B o O x=>?_)
 obtain⟨e,j⟩:=x
 refine sr<|ai' 2 z z z fun C=>ai' 3 z z z fun y=>sx0 z z<|g'<|sr<|yy (aQ' z) z<|yy (o' 2 sc4 z z z) z<|yy (aQ' z) z<|yy (o' 3 sc4 z z z) z<|aE' hr z (Y0.neqB bf' z z) z (fun D hr=>?_) (fun D hr=>?_)
 .refine mv z z<|sn7 z<|yy (w' z z) z<|nx<|aB' z<|sr<|sx0 z z<|k'<|f' (k0' hr z z)
 refine mv z z<|gy z z (as' z) z<|gy z z (o' 2 be' z z z) z<|gy z z (O' p' e z) z<|gy z z (as' z) z<|gy z z (o' 3 be' z z z) z<|gy z z (O' p' j z) z<|gy z z (bp' z z) z<|yy (t' z z) z<|nx<|P' hr z (fun F hr=>?_) (fun F hr=>?_)
 .refine sr<|sx0 z z<|k'<|f' (k0' hr z z)
 refine n'<|b'<|g'<|sr<|sx0 z z<|ab' (fun (m:Mem)=>match m with|l=>[]) (fun (m:Mem)=>match m with|l=>Mem.le o l/\(Zez).Ret r) (fun (m:Mem)=>match m with|l=>St B o l []) ?_ ?_
 .refine y' ?_
  let p:(Bool⊕Unit)->Prop:=fun K=>((fun J=>match J with | .inl rv1=>Cq.ret rv1 | .inr ()=>Zez:(Bool⊕Unit)->Cq Bool) K).wp (fun a=>a=r)
  replace hr:(Cq.loop _ _).wp p:=hr
  refine ac' (Φ:=p) (fun (⟨n,f⟩:Int×Mem)=>(n:Int)) (fun ⟨n,f⟩=>[(2,pt0 C),(3,pt0 y),(5,i' n)]) (fun ⟨n,f⟩=>Mem.le o f) (fun ⟨n,f⟩=>St B o f [(2,bk0 C (v57' s k h) 57),(3,bk0 y (v57' q i g) 57)]) ⟨0,o⟩ hr (f3 z z z) mr (w2 z z) ?_
  .intro M m L hr
   obtain⟨n,f⟩:=m
   have d:=L
   refine g'<|sr<|mv z z<|yy (as' z) z<|yy (o' 2 be' z z z) z<|yy (O' p' (e.mono d) z) z<|yy (aa' z z) z<|nx<|P' hr z (fun A hr=>?_) (fun A hr=>?_)
   .refine n'<|b'<|g'<|y'<|g'<|ak' [ff,ff,ff,ff,ff,ff,ff,ff,ff,ff] mix (by kernel_rfl) fun I=>cn (fun _ c=>as' z)<|cn (fun _ c=>o' 2 be' z z z)<|cn (fun _ c=>c' z) ?_
    obtain⟨Q,u,hr⟩:=hr
    refine cn (fun _ c=>V' p' aP' ((e.mono d).mono c) z z u)<|cn (fun _ c=>aj' bu' z (aJ' (J' (J' (Z' e u) d) c)))<|cn (fun _ c=>as' z)<|cn (fun _ c=>o' 3 be' z z z)<|cn (fun _ c=>c' z) ?_
    obtain⟨P,t,hr⟩:=hr
    refine cn (fun _ c=>V' p' aP' ((j.mono d).mono c) z z t)<|cn (fun _ c=>aj' bu' z (aJ' (J' (J' (Z' j t) d) c)))<|ah' I<|yy (bp' z z) z<|q'<|am'<|b'<|P' hr z (fun E hr=>?_) (fun E hr=>?_)
    .refine sr<|sx0 z z<|k'<|A'<|f'<|f'<|A'<|an'<|f' (k0' hr z z)
    refine n'<|F'<|b'<|x'<|mv z z<|yy (W' z z) z<|sg z z<|q'<|T' ⟨i64.wrap (n+1),f⟩ hr d (f3 z z z) (w2 z z)
   refine ae'<|h'<|h'<|I'<|af' f ⟨d,hr⟩ fn (wk ln)
 rintro l ⟨H,hr⟩
 refine b'<|sr<|sx0 z z<|k' (k0' hr z z)
theorem fQ'{l k j f h g i d c e r}(hr:(Zfc l k).Ret r):Ctr prog 128 #[.agg ((v59' l j f h g)).toArray,.agg ((v59' k i d c e)).toArray] (fun G=>sl (Rp.int .u32) G j f l.num.mag/\sl (Rp.int .u32) G h g l.den.mag/\sl (Rp.int .u32) G i d k.num.mag/\sl (Rp.int .u32) G c e k.den.mag) (fun G v=>v = .bool r):=by
 refine H' (args:=[_,_]) (N:=17) func128 z z z (fun C B y s=>?_)
 obtain⟨p,m,n,o⟩:=s
 refine sr<|ai' 2 z z z fun D=>ai' 3 z z z fun A=>sg z z<|nr<|yy (bk' z) z<|yy (al' ((v57' l.num j f)).toArray 2 at' z z z (ap' ([]) ((v57' l.num j f)) ((v57' l.den h g)))) z<|yy (bk' z) z<|yy (al' ((v57' k.num i d)).toArray 3 at' z z z (ap' ([]) ((v57' k.num i d)) ((v57' k.den c e)))) z ?_
 obtain⟨u,t,hr⟩:=hr
 refine K' z z (m' E173 z) (fi' t) z (⟨p,n⟩) ?_
 cases u
 .refine mv z z<|sn5 z<|yy (t' z z) z<|sx0 z z<|k' (k0' hr z z)
 refine mv z z<|gy z z (aY' z) z<|gy z z (al' ((v57' l.den h g)).toArray 2 at' z z z (ap' ((v57' l.num j f)) ((v57' l.den h g)) ([]))) z<|gy z z (aY' z) z<|gy z z (al' ((v57' k.den c e)).toArray 3 at' z z z (ap' ((v57' k.num i d)) ((v57' k.den c e)) ([]))) z ?_
 obtain⟨x,q,hr⟩:=hr
 refine K' (E' z z) z (m' E173 z) (fi' q) z (⟨m,o⟩)<|yy (w' z z) z<|sx0 z z<|k' (k0' hr z z)
theorem fp'{l k j h g f i d c e r}(hr:(Zb5 l k).Ret r):Ctr prog 73 #[.agg (((v59' l.c j h g f):List Value)++(vecG (Value.int .i64) 8 l.m)).toArray,.agg (((v59' k.c i d c e):List Value)++(vecG (Value.int .i64) 8 k.m)).toArray] (fun G=>sl (Rp.int .u32) G j h l.c.num.mag/\sl (Rp.int .u32) G g f l.c.den.mag/\sl (Rp.int .u32) G i d k.c.num.mag/\sl (Rp.int .u32) G c e k.c.den.mag) (fun G v=>v = .bool r):=by
 refine H' (args:=[_,_]) (N:=17) func73 z z z (fun B A x q=>?_)
 obtain⟨m,n,p,o⟩:=q
 refine sr<|ai' 2 z z z fun C=>ai' 3 z z z fun y=>sg z z<|nr<|yy (aM' z) z<|yy (al' (vecG (Value.int .i64) 8 l.m).toArray 2 bo' z z (Q' _ _ _) (ap' ((v59' l.c j h g f)) (vecG (Value.int .i64) 8 l.m) ([]))) z<|yy (aM' z) z<|yy (al' (vecG (Value.int .i64) 8 k.m).toArray 3 bo' z z (Q' _ _ _) (ap' ((v59' k.c i d c e)) (vecG (Value.int .i64) 8 k.m) ([]))) z<|aE' hr z (Y0.eqlV ar' aD' sc3 sz3 eg68 z z) z (fun t hr=>?_) (fun t hr=>?_)
 .refine mv z z<|gy z z (aV' z) z<|gy z z (al' ((v59' l.c j h g f)).toArray 2 bc' z z z (ap' ([]) ((v59' l.c j h g f)) ((vecG (Value.int .i64) 8 l.m)))) z<|gy z z (aV' z) z<|gy z z (al' ((v59' k.c i d c e)).toArray 3 bc' z z z (ap' ([]) ((v59' k.c i d c e)) ((vecG (Value.int .i64) 8 k.m)))) z ?_
  obtain⟨u,s,hr⟩:=hr
  refine K' (E' z z) z (m' E128 z) (fQ' s) z (⟨m,n,p,o⟩)<|yy (w' z z) z<|sx0 z z<|k' (k0' hr z z)
 refine mv z z<|sn5 z<|yy (t' z z) z<|sx0 z z<|k' (k0' hr z z)
theorem dG'{F B t s u p r}(hr:(ZcB F B).Ret r):Ctr prog 34 #[.slice t F.length s,.slice u B.length p] (fun G=>sl a' G t s F/\sl a' G u p B) (fun G v=>v = .bool r):=by
 refine H' (args:=[_,_]) (N:=27) func34 z z z (fun T o ad M=>?_)
 obtain⟨n,q⟩:=M
 refine sr<|sx0 z z<|g'<|sr<|mv z z<|yy (O' C' n z) z<|mv z z<|yy (O' C' q z) z<|yy (bp' z z) z<|nx<|P' hr z (fun V hr=>?_) (fun V hr=>?_)
 .refine sr<|sx0 z z<|k'<|f' (k0' hr z z)
 refine n'<|b'<|g'<|sr<|sx0 z z<|ab' (fun (l:Mem)=>match l with|k=>[]) (fun (l:Mem)=>match l with|k=>Mem.le o k/\(ZeD).Ret r) (fun (l:Mem)=>match l with|k=>St T o k []) ?_ ?_
 .refine y' ?_
  let x:(Bool⊕Unit)->Prop:=fun oo=>((fun Y=>match Y with | .inl rv1=>Cq.ret rv1 | .inr ()=>ZeD:(Bool⊕Unit)->Cq Bool) oo).wp (fun a=>a=r)
  replace hr:(Cq.loop _ _).wp x:=hr
  refine ac' (Φ:=x) (fun (⟨m,e⟩:Int×Mem)=>(m:Int)) (fun ⟨m,e⟩=>[(0,.slice t F.length s),(1,.slice u B.length p),(5,i' m)]) (fun ⟨m,e⟩=>Mem.le o e) (fun ⟨m,e⟩=>St T o e []) ⟨0,o⟩ hr (f3 z z z) mr (wk ln) ?_
  .intro ac l Z hr
   obtain⟨m,e⟩:=l
   have c:=Z
   refine g'<|sr<|mv z z<|mv z z<|yy (O' C' (n.mono c) z) z<|yy (aa' z z) z<|nx<|P' hr z (fun S hr=>?_) (fun S hr=>?_)
   .refine n'<|b'<|g'<|y'<|g'<|ak' [ff,ff,ff,ff,ff,ff,ff,ff] mix (by kernel_rfl) fun X=>cn (fun _ d=>c' z)<|cn (fun _ d=>c' z) ?_
    obtain⟨x1,L,hr⟩:=hr
    refine cn (fun _ d=>V' C' aW' ((n.mono c).mono d) z z L) ?_
    obtain⟨C,y,H,A,Q,i,f⟩:=bM' (J' (Z' n L) c)
    refine cn (fun _ d=>ao' _ cF' z z (fun j v O=>d _ _ _ (Q j v O)))<|cn (fun _ d=>c' z)<|cn (fun _ d=>c' z) ?_
    obtain⟨x2,K,hr⟩:=hr
    refine cn (fun _ d=>V' C' aW' ((q.mono c).mono d) z z K) ?_
    obtain⟨D,J,E,I,R,g,h⟩:=bM' (J' (Z' q K) c)
    refine cn (fun _ d=>ao' _ cF' z z (fun j v O=>d _ _ _ (R j v O)))<|ah' X ?_
    obtain⟨ab,P,hr⟩:=hr
    refine K' z z (m' E73 z) (fp' P) z (⟨i,f,g,h⟩)<|yy (aA' z) z<|q'<|am'<|b'<|aK' hr z (fun U hr=>?_) (fun U hr=>?_)
    .refine sr<|sx0 z z<|k'<|A'<|f'<|f'<|A'<|an'<|f' (k0' hr z z)
    refine n'<|F'<|b'<|x'<|mv z z<|yy (W' z z) z<|sg z z<|q'<|T' ⟨i64.wrap (m+1),e⟩ hr c (f3 z z z) (wk ln)
   refine ae'<|h'<|h'<|I'<|af' e ⟨c,hr⟩ fn (wk ln)
 rintro k ⟨W,hr⟩
 refine b'<|sr<|sx0 z z<|k' (k0' hr z z)
theorem eJ'{v p t u r}(hr:(Zdy v p).Ret r):Ctr prog 52 #[.slice t v.length u,.bool p] (fun G=>sl (Rp.sl a') G t u v) (wl' (Rp.sl a') r):=by
 refine H' (args:=[_,_]) (N:=75) func52 z z z (fun X W P ap=>?_)
 have K:=ap
 refine sr<|sg z z<|nr<|aF' (e:=65) (r:=(Rp.sl a')) (vs:=#[]) (cs:=[]) ([]:List (List Za)) z z z z z (by decide) (fun _=>by kernel_rfl) (z) (key:=999) z (by rw[P]; rfl) fun p1 U M aD=>sx0 z z<|g'<|sr<|sx0 z z<|ab' (fun (⟨q,A,y,I⟩:(List (List Za))×Option Addr×Nat×Mem)=>[(5,.slice A q.length y)]) (fun ⟨q,A,y,I⟩=>Mem.le U I/\sl (Rp.sl a') I A y q/\(Zdj q).Ret r) (fun ⟨q,A,y,I⟩=>St X W I []) ?_ ?_
 .refine y' ?_
  let H:(((List (List Za))))->Prop:=fun oo=>((fun ov=>match ov with|q=>Zdj q:(((List (List Za))))->Cq ((List (List Za)))) oo).wp (fun a=>a=r)
  replace hr:(Cq.loop _ _).wp H:=hr
  refine ac' (Φ:=H) (fun (⟨f,i,h,j,E⟩:(List (List Za))×Option Addr×Nat×Int×Mem)=>((f,j):(List (List Za))×Int)) (fun ⟨f,i,h,j,E⟩=>[(0,.slice t v.length u),(1,.bool p),(5,.slice i f.length h),(6,i' j)]) (fun ⟨f,i,h,j,E⟩=>Mem.le U E/\sl (Rp.sl a') E i h f) (fun ⟨f,i,h,j,E⟩=>St X W E []) ⟨[],p1,0,0,U⟩ hr (f4 z z z z) ⟨mr,aD⟩ (wk ln) ?_
  .intro S J hx hr
   obtain⟨f,i,h,j,E⟩:=J
   obtain⟨k,g⟩:=hx
   refine g'<|sr<|mv z z<|mv z z<|yy (O' M' (K.mono (mx M k)) z) z<|yy (aa' z z) z<|nx<|P' hr z (fun aS hr=>?_) (fun aS hr=>?_)
   .refine n'<|b'<|g'<|y'<|sr<|mv z z<|mv z z ?_
    obtain⟨x1,ad,hr⟩:=hr
    refine yy (V' M' cj' (K.mono (mx M k)) z z ad) z ?_
    obtain⟨p2,bc,aL,aF⟩:=bl' (J' (Z' K ad) (mx M k))
    refine yy (aj' bU' z (aL)) z ?_
    obtain⟨s,ak,hr⟩:=hr
    refine N' z z (m' E102 z) (eI' ak) z (aF) (fun aX T d R=>?_)
    obtain⟨D,B,rfl,C⟩:=R
    refine sg z z<|sx0 z z<|g'<|ab' (fun (⟨l,m⟩:Int×Mem)=>[(0,.slice t v.length u),(1,.bool p),(5,.slice i f.length h),(6,i' j),(7,.slice D s.length B),(8,i' l)]) (fun ⟨l,m⟩=>Mem.le T m/\(ZaP p f j s l).wp (Out S H)) (fun ⟨l,m⟩=>St X W m []) ?_ ?_
    .refine y' ?_
     let V:Int->Prop:=fun oo=>((fun ov=>match ov with|l=>ZaP p f j s l:Int->Cq (((List (List Za))×Int)⊕(((List (List Za)))))) oo).wp (Out S H)
     replace hr:(Cq.loop _ _).wp V:=hr
     refine ac' (Φ:=V) (fun (⟨o,x⟩:Int×Mem)=>(o:Int)) (fun ⟨o,x⟩=>[(0,.slice t v.length u),(1,.bool p),(5,.slice i f.length h),(6,i' j),(7,.slice D s.length B),(8,i' o)]) (fun ⟨o,x⟩=>Mem.le T x) (fun ⟨o,x⟩=>St X W x []) ⟨0,T⟩ hr (f6 z z z z z z) mr (wk ln) ?_
     .intro a4 J hx hr
      obtain⟨o,x⟩:=J
      have n:=hx
      refine g'<|sr<|mv z z<|mv z z<|yy (O' M' (g.mono (mx d n)) z) z<|aE' hr z (aa' z z) z (fun aI hr=>?_) (fun aI hr=>?_)
      .refine mv z z<|gy z z (c' z) z<|gy z z (c' z) z ?_
       obtain⟨x4,ab,hr⟩:=hr
       refine gy z z (V' M' cj' (g.mono (mx d n)) z z ab) z ?_
       obtain⟨a5,aU,ah,aj⟩:=bl' (J' (Z' g ab) (mx d n))
       refine gy z z (aj' bU' z (ah)) z<|gy z z (c' z) z ?_
       obtain⟨bd,an,hr⟩:=hr
       refine K' (E' z z) z (m' E103 z) (fu' an) z (⟨aj,(C.mono n)⟩)<|gy z z (aa' z z) z<|yy (w' z z) z<|nx<|P' hr z (fun aA hr=>?_) (fun aA hr=>?_)
       .refine n'<|b'<|y'<|x'<|mv z z<|yy (W' z z) z<|sg z z<|q'<|F'<|T' ⟨i64.wrap (o+1),x⟩ hr n (f6 z z z z z z) (wk ln)
       refine ae'<|h'<|h'<|I'<|af' ⟨o,x⟩ ⟨n,hr⟩ (f6 z z z z z z) (wk ln)
      refine mv z z<|sn7 z<|yy (t' z z) z<|nx<|bw' z<|ae'<|h'<|h'<|I'<|af' ⟨o,x⟩ ⟨n,hr⟩ (f6 z z z z z z) (wk ln)
    rintro⟨l,m⟩ ⟨c,hr⟩
    refine b'<|aO' (fun (J:Mem)=>match J with|O=>[(0,.slice t v.length u),(1,.bool p),(5,.slice i f.length h),(6,i' j),(7,.slice D s.length B),(8,i' l)]) (fun (J:Mem)=>match J with|O=>Mem.le m O/\(ZO f j s l).wp (Out S H)) (fun (J:Mem)=>match J with|O=>St X W O []) ?_ ?_
    .refine sr<|mv z z<|yy (O' C' (C.mono c) z) z<|aE' hr z (aH' z z) z (fun aR hr=>?_) (fun aR hr=>?_)
     .refine mv z z<|sn2 z<|aX' (aq' z z) z<|aX' (aq' z z) z<|aX' (aq' z z) z<|sf z z z<|yy (w' z z) z<|mv z z<|sn5 z<|aX' (aq' z z) z<|aX' (aq' z z) z<|aX' (aq' z z) z<|aX' (aq' z z) z<|aX' (aq' z z) z<|aX' (aq' z z) z<|sf z z z<|yy (w' z z) z<|nx<|aB' z<|ae'<|h'<|I'<|b'<|x'<|mv z z<|yy (W' z z) z<|sg z z<|q'<|T' ⟨f,i,h,i64.wrap (j+1),m⟩ hr ⟨(mx (mx k d) c),(g.mono (mx d c))⟩ (f4 z z z z) (wk ln)
     refine mv z z<|aE' hr (E' z z) (db' (c' z) (congrArg Value.bool (bdec _))) z (fun aC hr=>?_) (fun aC hr=>?_)
     .refine gy z z (c' z) z<|gy z z (c' z) z ?_
      obtain⟨a8,al,hr⟩:=hr
      refine K' (E' z z) z (m' E104 z) (dF' al) z ((C.mono c))<|aE' hr (E' z z) (aH' z z) z (fun aG hr=>?_) (fun aG hr=>?_)
      .refine gy z z (w' z z) z<|yy (t' z z) z<|mv z z<|sn5 z<|aX' (aq' z z) z<|aX' (aq' z z) z<|aX' (aq' z z) z<|aX' (aq' z z) z<|aX' (aq' z z) z<|aX' (aq' z z) z<|sf z z z<|yy (w' z z) z<|nx<|aB' z<|ae'<|h'<|I'<|b'<|x'<|mv z z<|yy (W' z z) z<|sg z z<|q'<|T' ⟨f,i,h,i64.wrap (j+1),m⟩ hr ⟨(mx (mx k d) c),(g.mono (mx d c))⟩ (f4 z z z z) (wk ln)
      refine gy z z (w' z z) z<|yy (t' z z) z<|mv z z<|gy z z (c' z) z<|gy z z (c' z) z<|gy z z (O' M' (g.mono (mx d c)) z) z<|aE' hr (E' z z) (aa' z z) z (fun aQ hr=>?_) (fun aQ hr=>?_)
      .refine gy z z (c' z) z<|gy z z (c' z) z<|gy z z (c' z) z ?_
       obtain⟨x2,aa,hr⟩:=hr
       refine gy z z (V' M' cj' (g.mono (mx d c)) z z aa) z ?_
       obtain⟨p8,be,aJ,ar⟩:=bl' (J' (Z' g aa) (mx d c))
       refine gy z z (aj' bU' z (aJ)) z<|gy z z (c' z) z ?_
       obtain⟨ba,ao,hr⟩:=hr
       refine K' (E' z z) z (m' E34 z) (dG' ao) z (⟨ar,(C.mono c)⟩)<|gy z z (w' z z) z<|yy (t' z z) z<|nx<|aK' hr z (fun aB hr=>?_) (fun aB hr=>?_)
       .refine ae'<|h'<|I'<|b'<|x'<|mv z z<|yy (W' z z) z<|sg z z<|q'<|T' ⟨f,i,h,i64.wrap (j+1),m⟩ hr ⟨(mx (mx k d) c),(g.mono (mx d c))⟩ (f4 z z z z) (wk ln)
       refine n'<|ax' m ⟨mr,hr⟩ (f6 z z z z z z) (wk ln)
      refine gy z z (c' z) z<|sn6 z<|gy z z (t' z z) z<|yy (t' z z) z<|nx<|bw' z<|n'<|ax' m ⟨mr,hr⟩ (f6 z z z z z z) (wk ln)
     refine gy z z (c' z) z<|sn3 z<|gy z z (t' z z) z<|yy (t' z z) z<|mv z z<|gy z z (c' z) z<|gy z z (c' z) z<|gy z z (O' M' (g.mono (mx d c)) z) z<|aE' hr (E' z z) (aa' z z) z (fun aO hr=>?_) (fun aO hr=>?_)
     .refine gy z z (c' z) z<|gy z z (c' z) z<|gy z z (c' z) z ?_
      obtain⟨x3,ac,hr⟩:=hr
      refine gy z z (V' M' cj' (g.mono (mx d c)) z z ac) z ?_
      obtain⟨p9,a9,ax,av⟩:=bl' (J' (Z' g ac) (mx d c))
      refine gy z z (aj' bU' z (ax)) z<|gy z z (c' z) z ?_
      obtain⟨a3,ae,hr⟩:=hr
      refine K' (E' z z) z (m' E34 z) (dG' ae) z (⟨av,(C.mono c)⟩)<|gy z z (w' z z) z<|yy (t' z z) z<|nx<|aK' hr z (fun aH hr=>?_) (fun aH hr=>?_)
      .refine ae'<|h'<|I'<|b'<|x'<|mv z z<|yy (W' z z) z<|sg z z<|q'<|T' ⟨f,i,h,i64.wrap (j+1),m⟩ hr ⟨(mx (mx k d) c),(g.mono (mx d c))⟩ (f4 z z z z) (wk ln)
      refine n'<|ax' m ⟨mr,hr⟩ (f6 z z z z z z) (wk ln)
     refine gy z z (c' z) z<|sn6 z<|gy z z (t' z z) z<|yy (t' z z) z<|nx<|bw' z<|n'<|ax' m ⟨mr,hr⟩ (f6 z z z z z z) (wk ln)
    rintro O ⟨F,hr⟩
    refine sr<|mv z z<|aF' (e:=65) (r:=(Rp.sl a')) (vs:=#[(0,.slice D s.length B)]) (cs:=[.slice D s.length B]++([])) ([s]:List (List Za)) z z z z z (by decide) (fun _=>by kernel_rfl) ⟨[.slice D s.length B],[],z,⟨_,z,(C.mono (mx c F))⟩,z⟩ (key:=999) z (by rw[P]; rfl) fun p3 bb L aE=>mv z z<|mv z z ?_
    obtain⟨aK,hr⟩:=hr
    refine WL.sliceRL (r:=(Rp.sl a')) z z M' cj' z (g.mono (mx (mx (mx d c) F) L)) z z aK (fun p4 a7 ay=>?_)
    obtain⟨ag,hr⟩:=hr
    refine bb' (r:=(Rp.sl a')) 2067 z z M' el65 z (by decide) z z aE z (by rw[P]; rfl) cb' ay ag fun p5 a2 a1 a6 Q aN aZ=>sx0 z z<|x'<|mv z z<|mv z z<|mv z z ?_
    obtain⟨aw,hr⟩:=hr
    refine WL.slice3 (r:=(Rp.sl a')) z z M' cj' z (g.mono (mx (mx (mx (mx d c) F) L) Q)) z z z aw fun p6 au=>mv z z ?_
    obtain⟨am,hr⟩:=hr
    refine bb' (r:=(Rp.sl a')) 2073 z z M' el65 z (by decide) z z au z (by rw[P]; rfl) cb' aN am fun p7 aP aV aM Y az aW=>sg z z<|q'<|F'<|b'<|x'<|mv z z<|yy (W' z z) z<|sg z z<|q'<|T' ⟨(((f.take l.toNat).drop (0:Int).toNat)++([s]++((f.take (f.length:Int).toNat).drop l.toNat))),p7,aP,i64.wrap (j+1),aM⟩ hr ⟨(mx (mx (mx (mx (mx (mx k d) c) F) L) Q) Y),az⟩ (f4 z z z z) (wk ln)
   refine ae'<|h'<|h'<|I'<|af' ⟨f,i,h,E⟩ ⟨k,g,hr⟩ (f1 z) (wk ln)
 rintro⟨q,A,y,I⟩ ⟨aT,Z,hr⟩
 refine b'<|sr<|mv z z<|sx0 z z<|k' ?_
 obtain rfl:_=r:=hr
 exact j' z z ⟨_,_,z,Z⟩
theorem ei'{n F p O P B C r}(hr:(ZdA n F p).Ret r):Ctr prog 13 #[i' n,.slice O F.length P,.slice B p.length C] (fun G=>sl (Rp.sl a') G O P F/\sl (Rp.sl a') G B C p) (w28t' r):=by
 refine H' (args:=[_,_,_]) (N:=68) func13 z z z (fun w0 G0 T aR=>?_)
 obtain⟨W,y⟩:=aR
 refine sr<|X' 6 z z28 z fun b1=>sx0 z z<|aO' (fun (⟨H,g,f,d,c,K⟩:Zc×Option Addr×Nat×Option Addr×Nat×Mem)=>[(0,i' n),(1,.slice O F.length P),(2,.slice B p.length C),(6,pt0 b1)]) (fun ⟨H,g,f,d,c,K⟩=>Mem.le G0 K/\sl (Rp.sl a') K g f H.eqs/\sl (Rp.sl a') K d c H.neqs/\(ZfP n F p).Ret r) (fun ⟨H,g,f,d,c,K⟩=>St w0 G0 K [(6,bk0 b1 (v28' H g f d c) 28)]) ?_ ?_
 .refine sr<|mv z z<|aE' hr z (aa' z z) z (fun a1 hr=>?_) (fun a1 hr=>?_)
  .refine mv z z<|sn2 z<|yy (w' z z) z<|mv z z<|sn4 z<|yy (w' z z) z<|mv z z<|sn4 z<|yy (w' z z) z<|nx<|aB' z<|sr<|yy (au' (vs:=#[]) (v:=.agg ([i' 0,.slice none 0 0,.slice none 0 0]).toArray) z z (fun _=>by kernel_rfl)) z<|B' 6 z bB' z z z z z (List.all_eq_true.1 z)<|sx0 z z<|k'<|f' ?_
   obtain rfl:_=r:=hr
   exact bd' z (aw' (i:=6) bj' z z z) z ⟨_,_,_,_,z,(ay' (Rp.sl a') _),(ay' (Rp.sl a') _)⟩
  refine mv z z<|gy z z (c' z) z<|aE' hr (E' z z) (aS' z z) z (fun a5 hr=>?_) (fun a5 hr=>?_)
  .refine yy (t' z z) z<|mv z z<|sn4 z<|yy (w' z z) z<|mv z z<|sn4 z<|yy (w' z z) z<|nx<|aB' z<|sr<|yy (au' (vs:=#[]) (v:=.agg ([i' 0,.slice none 0 0,.slice none 0 0]).toArray) z z (fun _=>by kernel_rfl)) z<|B' 6 z bB' z z z z z (List.all_eq_true.1 z)<|sx0 z z<|k'<|f' ?_
   obtain rfl:_=r:=hr
   exact bd' z (aw' (i:=6) bj' z z z) z ⟨_,_,_,_,z,(ay' (Rp.sl a') _),(ay' (Rp.sl a') _)⟩
  refine yy (t' z z) z<|mv z z<|gy z z (c' z) z<|gy z z (c' z) z ?_
  obtain⟨a9,aN,hr⟩:=hr
  refine K' (E' z z) z (m' E50 z) (fs' aN) z (W) ?_
  cases a9
  .refine gy z z (aA' z) z<|yy (t' z z) z<|mv z z<|sn4 z<|yy (w' z z) z<|nx<|aB' z<|sr<|yy (au' (vs:=#[]) (v:=.agg ([i' 0,.slice none 0 0,.slice none 0 0]).toArray) z z (fun _=>by kernel_rfl)) z<|B' 6 z bB' z z z z z (List.all_eq_true.1 z)<|sx0 z z<|k'<|f' ?_
   obtain rfl:_=r:=hr
   exact bd' z (aw' (i:=6) bj' z z z) z ⟨_,_,_,_,z,(ay' (Rp.sl a') _),(ay' (Rp.sl a') _)⟩
  refine gy z z (aA' z) z<|yy (t' z z) z<|mv z z<|gy z z (c' z) z<|gy z z (c' z) z ?_
  obtain⟨bn,aD,hr⟩:=hr
  refine K' (E' z z) z (m' E50 z) (fs' aD) z (y)<|gy z z (aA' z) z<|yy (t' z z) z<|nx<|aK' hr z (fun aZ hr=>?_) (fun aZ hr=>?_)
  .refine sr<|yy (au' (vs:=#[]) (v:=.agg ([i' 0,.slice none 0 0,.slice none 0 0]).toArray) z z (fun _=>by kernel_rfl)) z<|B' 6 z bB' z z z z z (List.all_eq_true.1 z)<|sx0 z z<|k'<|f' ?_
   obtain rfl:_=r:=hr
   exact bd' z (aw' (i:=6) bj' z z z) z ⟨_,_,_,_,z,(ay' (Rp.sl a') _),(ay' (Rp.sl a') _)⟩
  refine n'<|ax' ⟨(Zc.mk 0 [] []),none,0,none,0,G0⟩ ⟨mr,(ay' _ _),(ay' _ _),hr⟩ (f4 z z z z) (w1 z)
 rintro⟨H,g,f,d,c,K⟩ ⟨D,aT,aH,hr⟩
 refine sr<|aF' (e:=65) (r:=(Rp.sl a')) (vs:=#[]) (cs:=[]) ([]:List (List Za)) z z z z z (by decide) (fun _=>by kernel_rfl) (z) (key:=999) z (by rw[T]; rfl) fun p1 bt E a2=>mv z z ?_
 obtain⟨aE,hr⟩:=hr
 refine bb' (r:=(Rp.sl a')) 2032 z z M' el65 z (by decide) z z a2 z (by rw[T]; rfl) cb' (W.mono (mx D E)) aE fun p2 a7 aP ai I a4 aJ=>sx0 z z<|g'<|sr<|sx0 z z<|ab' (fun (⟨o,u,x,q,L⟩:(List (List Za))×Option Addr×Nat×Option Ow×Mem)=>[(0,i' n),(2,.slice B p.length C),(6,pt0 b1),(8,.slice u o.length x)]) (fun ⟨o,u,x,q,L⟩=>Mem.le ai L/\sl (Rp.sl a') L u x o/\Tok 1 65 (.slice u o.length x) o.length q/\(ZbD n p o).Ret r) (fun ⟨o,u,x,q,L⟩=>St w0 G0 L [(6,bk0 b1 (v28' H g f d c) 28),(1008,q)]) ?_ ?_
 .refine y' ?_
  let aj:(((List (List Za))))->Prop:=fun oo=>((fun ov=>match ov with|o=>ZbD n p o:(((List (List Za))))->Cq (Zc×Int)) oo).wp (fun a=>a=r)
  replace hr:(Cq.loop _ _).wp aj:=hr
  refine ac' (Φ:=aj) (fun (⟨k,l,m,h,s,A⟩:(List (List Za))×Option Addr×Nat×Option Ow×Int×Mem)=>((k,s):(List (List Za))×Int)) (fun ⟨k,l,m,h,s,A⟩=>[(0,i' n),(2,.slice B p.length C),(6,pt0 b1),(8,.slice l k.length m),(9,i' s)]) (fun ⟨k,l,m,h,s,A⟩=>Mem.le ai A/\sl (Rp.sl a') A l m k/\Tok 1 65 (.slice l k.length m) k.length h) (fun ⟨k,l,m,h,s,A⟩=>St w0 G0 A [(6,bk0 b1 (v28' H g f d c) 28),(1008,h)]) ⟨([]++F),p2,a7,aP,0,ai⟩ hr (f5 z z z z z) ⟨mr,a4,aJ⟩ ?_ ?_
  .intro w hs
   have hs:=hs.rekey (i:=2032) (j:=1008) z (by rw[T]; rfl)
   exact hs.weaken (lc z (lc z ln))
  intro bm gx hx hr
  obtain⟨k,l,m,h,s,A⟩:=gx
  obtain⟨t,M,J⟩:=hx
  refine g'<|sr<|mv z z<|mv z z<|yy (O' M' (y.mono (mx (mx (mx D E) I) t)) z) z<|yy (aa' z z) z<|nx<|P' hr z (fun a0 hr=>?_) (fun a0 hr=>?_)
  .refine n'<|b'<|g'<|y'<|sr<|mv z z<|mv z z ?_
   obtain⟨x1,aB,hr⟩:=hr
   refine yy (V' M' cj' (y.mono (mx (mx (mx D E) I) t)) z z aB) z ?_
   obtain⟨p3,bq,aV,a3⟩:=bl' (J' (Z' y aB) (mx (mx (mx D E) I) t))
   refine yy (aj' bU' z (aV)) z<|yy (O' C' a3 z) z<|yy (aH' z z) z<|nx<|P' hr z (fun a6 hr=>?_) (fun a6 hr=>?_)
   .refine x'<|mv z z ?_
    obtain⟨br,aO,hr⟩:=hr
    refine N' z z (m' E26 z) (cc' aO) z (trivial) (fun bd bu Y ae=>?_)
    obtain⟨ay,aq,au,aw,rfl,Q,R⟩:=ae
    obtain⟨S,aC,hr⟩:=hr
    refine N' z z (m' E51 z) (dn' aC) z (⟨Q,R⟩) (fun bh bv X ad=>?_)
    obtain⟨V,U,rfl,aL⟩:=ad
    refine aF' (e:=65) (r:=(Rp.sl a')) (vs:=#[(0,.slice V S.length U)]) (cs:=[.slice V S.length U]++([])) ([S]:List (List Za)) z z z z z (by decide) (fun _=>by kernel_rfl) ⟨[.slice V S.length U],[],z,⟨_,z,aL⟩,z⟩ (key:=999) z (by rw[T]; rfl) (fun p4 bp aa aX=>?_)
    obtain⟨aK,hr⟩:=hr
    refine bb' (r:=(Rp.sl a')) 1008 z z M' el65 z (by decide) z z (M.mono (mx (mx Y X) aa)) z (by rw[T]; rfl) J aX aK fun p5 aU aS aY ap a8 aM=>sg z z<|q'<|F'<|b'<|x'<|mv z z<|yy (W' z z) z<|sg z z<|q'<|T' ⟨(k++[S]),p5,aU,aS,i64.wrap (s+1),aY⟩ hr ⟨(mx (mx (mx (mx t Y) X) aa) ap),a8,aM⟩ (f5 z z z z z) (w2 z z)
   refine n'<|F'<|b'<|x'<|mv z z<|yy (W' z z) z<|sg z z<|q'<|T' ⟨k,l,m,h,i64.wrap (s+1),A⟩ hr ⟨t,M,J⟩ (f5 z z z z z) (w2 z z)
  refine ae'<|h'<|h'<|I'<|af' ⟨k,l,m,h,A⟩ ⟨t,M,J,hr⟩ (f4 z z z z) (w2 z z)
 rintro⟨o,u,x,q,L⟩ ⟨ar,av,aW,hr⟩
 refine b'<|sr<|mv z z<|mv z z ?_
 obtain⟨aA,aG,hr⟩:=hr
 refine N' z z (m' E52 z) (eJ' aG) z (av) (fun bk bs ax ac=>?_)
 obtain⟨an,ah,rfl,am⟩:=ac
 refine mv z z ?_
 obtain⟨az,aI,hr⟩:=hr
 refine N' z z (m' E52 z) (eJ' aI) z ((y.mono (mx (mx (mx (mx D E) I) ar) ax))) (fun bj bo Z af=>?_)
 obtain⟨ak,ag,rfl,ao⟩:=af
 refine yy (au' (vs:=#[(0,i' n),(1,.slice an aA.length ah),(2,.slice ak az.length ag)]) (v:=.agg ([i' n,.slice an aA.length ah,.slice ak az.length ag]).toArray) z z (fun _=>by kernel_rfl)) z<|X' 10 z z28 z fun b2=>B' 10 z bB' z z z z z (List.all_eq_true.1 z)<|nx<|g'<|sr<|yy (cR' z) z<|yy (o' 10 sc25 z z z) z<|yy (O' M' (am.mono Z) z) z<|aE' hr z (aS' z z) z (fun ba hr=>?_) (fun ba hr=>?_)
 .refine mv z z<|sn4 z<|yy (w' z z) z<|nx<|aB' z<|sr<|yy (au' (vs:=#[]) (v:=.agg ([i' 0,.slice none 0 0,.slice none 0 0]).toArray) z z (fun _=>by kernel_rfl)) z<|B' 6 z bB' z z z z z (List.all_eq_true.1 z)<|sx0 z z<|k'<|f' ?_
  obtain rfl:_=r:=hr
  exact bd' z (aw' (i:=6) bj' z z z) z ⟨_,_,_,_,z,(ay' (Rp.sl a') _),(ay' (Rp.sl a') _)⟩
 refine mv z z<|gy z z (cB' z) z<|gy z z (o' 10 sc25 z z z) z<|gy z z (O' M' ao z) z<|gy z z (aS' z z) z<|yy (t' z z) z<|nx<|P' hr z (fun bb hr=>?_) (fun bb hr=>?_)
 .refine sr<|yy (au' (vs:=#[]) (v:=.agg ([i' 0,.slice none 0 0,.slice none 0 0]).toArray) z z (fun _=>by kernel_rfl)) z<|B' 6 z bB' z z z z z (List.all_eq_true.1 z)<|sx0 z z<|k'<|f' ?_
  obtain rfl:_=r:=hr
  exact bd' z (aw' (i:=6) bj' z z z) z ⟨_,_,_,_,z,(ay' (Rp.sl a') _),(ay' (Rp.sl a') _)⟩
 refine n'<|b'<|sr<|yy (D' 10 bj' z z z) z<|B' 6 z bB' z z z z z (List.all_eq_true.1 z)<|sx0 z z<|k' ?_
 obtain rfl:_=r:=hr
 exact bd' z (aw' (i:=6) bj' z z z) z ⟨_,_,_,_,z,(am.mono Z),ao⟩
theorem dp'{A af ad R U r}(hr:(Zfn A).Ret r):Ctr prog 17 #[.agg ((v37' A af ad R U)).toArray] (fun G=>sl cE' G af ad A.l/\sl (Rp.int .u8) G R U A.gap) (w42' r):=by
 refine H' (args:=[_]) (N:=77) func17 z z z (fun w0 G0 aw a4=>?_)
 obtain⟨am,Z⟩:=a4
 refine sr<|ai' 1 z z z fun b1=>X' 2 z z42 z fun b2=>nr<|aF' (e:=9) (r:=Rp.str) (vs:=#[(0,.string ZE),(1,.string ZD),(2,.string ZA)]) (cs:=[.string ZE]++([.string ZD]++([.string ZA]++([])))) ([ZE,ZD,ZA]:List ByteArray) z z z z z (by decide) (fun _=>by kernel_rfl) ⟨[.string ZE],[.string ZD]++([.string ZA]++([])),z,z,⟨[.string ZD],[.string ZA]++([]),z,z,⟨[.string ZA],[],z,z,z⟩⟩⟩ (key:=999) z (by rw[aw]; rfl) fun p1 aI ab bd=>sg z z<|nr<|yy (Y0.ZnX z) z<|yy (o' 1 sc5 z z z) z<|yy (bP' z z (by decide)) z<|yy (av' aL' aD' z) z<|sg z z<|nr<|mv z z<|mv z z<|mv z z ?_
 obtain⟨bi,hr⟩:=hr
 refine WL.slice3 (r:=Rp.str) z z aI' sz9 z bd z z z bi fun p2 bf=>yy (au' (vs:=#[(0,.slice p2 (([ZE,ZD,ZA].take (i64.wrap (Int.tmod A.n 4)).toNat).drop (0:Int).toNat).length ((([ZE,ZD,ZA].take (i64.wrap (Int.tmod A.n 4)).toNat).drop (0:Int).toNat).length)),(3,i' 1)]) (v:=.agg ([.slice p2 (([ZE,ZD,ZA].take (i64.wrap (Int.tmod A.n 4)).toNat).drop (0:Int).toNat).length ((([ZE,ZD,ZA].take (i64.wrap (Int.tmod A.n 4)).toNat).drop (0:Int).toNat).length),.slice none 0 0,.slice none 0 0,i' 1]).toArray) z z (fun _=>by kernel_rfl)) z<|X' 5 z z42 z fun b3=>B' 5 z sz42 z z z z z (List.all_eq_true.1 z)<|nx<|g'<|sr<|sx0 z z<|ab' (fun (⟨E,T,S,D,P,O,Q,y,H,J,L,I,ai⟩:(List ByteArray)×Option Addr×Nat×(List Zf)×Option Addr×Nat×Option Ow×(List Zf)×Option Addr×Nat×Option Ow×Int×Mem)=>[(2,pt0 b2),(5,pt0 b3)]) (fun ⟨E,T,S,D,P,O,Q,y,H,J,L,I,ai⟩=>Mem.le aI ai/\sl Rp.str ai T S E/\sl U' ai P O D/\Tok 2 70 (.slice P D.length O) D.length Q/\sl U' ai H J y/\Tok 2 70 (.slice H y.length J) y.length L/\(Zby E D y I).Ret r) (fun ⟨E,T,S,D,P,O,Q,y,H,J,L,I,ai⟩=>St w0 G0 ai [(2,bk0 b2 ([.slice none 0 0,.slice none 0 0,.slice none 0 0,i' 0]) 42),(5,bk0 b3 ([.slice T E.length S,.slice P D.length O,.slice H y.length J,i' I]) 42),(310051,Q),(310052,L)]) ?_ ?_
 .refine y' ?_
  let aq:(((List ByteArray)×(List Zf)×(List Zf)×Int))->Prop:=fun oo=>((fun ov=>match ov with|(E,D,y,I)=>Zby E D y I:(((List ByteArray)×(List Zf)×(List Zf)×Int))->Cq Zm) oo).wp (fun a=>a=r)
  replace hr:(Cq.loop _ _).wp aq:=hr
  refine ac' (Φ:=aq) (fun (⟨M,f,g,k,l,q,s,t,d,n,m,p,c,W⟩:Int×(List ByteArray)×Option Addr×Nat×(List Zf)×Option Addr×Nat×Option Ow×(List Zf)×Option Addr×Nat×Option Ow×Int×Mem)=>((M,f,l,d,c):Int×(List ByteArray)×(List Zf)×(List Zf)×Int)) (fun ⟨M,f,g,k,l,q,s,t,d,n,m,p,c,W⟩=>[(1,pt0 b1),(2,pt0 b2),(4,i' (i64.wrap (Int.tmod A.n 4))),(5,pt0 b3),(6,i' M)]) (fun ⟨M,f,g,k,l,q,s,t,d,n,m,p,c,W⟩=>Mem.le aI W/\sl Rp.str W g k f/\sl U' W q s l/\Tok 2 70 (.slice q l.length s) l.length t/\sl U' W n m d/\Tok 2 70 (.slice n d.length m) d.length p) (fun ⟨M,f,g,k,l,q,s,t,d,n,m,p,c,W⟩=>St w0 G0 W [(1,bk0 b1 (v37' A af ad R U) 37),(2,bk0 b2 ([.slice none 0 0,.slice none 0 0,.slice none 0 0,i' 0]) 42),(5,bk0 b3 ([.slice g f.length k,.slice q l.length s,.slice n d.length m,i' c]) 42),(310051,t),(310052,p)]) ⟨0,(([ZE,ZD,ZA].take (i64.wrap (Int.tmod A.n 4)).toNat).drop (0:Int).toNat),p2,(([ZE,ZD,ZA].take (i64.wrap (Int.tmod A.n 4)).toNat).drop (0:Int).toNat).length,[],none,0,none,[],none,0,none,1,aI⟩ hr (f5 z z z z z) ⟨mr,bf,(ay' _ _),cb',(ay' _ _),cb'⟩ (wk (lc z (lc z (lc z (lw (lw ln)))))) ?_
  .intro aP gx hx hr
   obtain⟨M,f,g,k,l,q,s,t,d,n,m,p,c,W⟩:=gx
   obtain⟨F,X,ag,Y,aa,V⟩:=hx
   refine aO' (fun (gx:Mem)=>match gx with|ah=>[(1,pt0 b1),(2,pt0 b2),(4,i' (i64.wrap (Int.tmod A.n 4))),(5,pt0 b3),(6,i' M)]) (fun (gx:Mem)=>match gx with|ah=>Mem.le W ah/\(ZcT A M f l d c).wp (Out aP aq)) (fun (gx:Mem)=>match gx with|ah=>St w0 G0 ah [(1,bk0 b1 (v37' A af ad R U) 37),(2,bk0 b2 ([.slice none 0 0,.slice none 0 0,.slice none 0 0,i' 0]) 42),(5,bk0 b3 ([.slice g f.length k,.slice q l.length s,.slice n d.length m,i' c]) 42),(310051,t),(310052,p)]) ?_ ?_
   .refine sr<|mv z z<|yy (Y0.Zl2 z) z<|yy (o' 1 sc22 z z z) z<|yy (O' dq' (am.mono (mx ab F)) z) z<|aE' hr z (aa' z z) z (fun bl hr=>?_) (fun bl hr=>?_)
    .refine mv z z<|gy z z (c' z) z<|gy z z (aa' z z) z<|yy (w' z z) z<|nx<|P' hr z (fun bg hr=>?_) (fun bg hr=>?_)
     .refine n'<|ax' W ⟨mr,hr⟩ (f5 z z z z z) (w5 z z z z z)
     refine ae'<|h'<|h'<|I'<|af' ⟨f,g,k,l,q,s,t,d,n,m,p,c,W⟩ ⟨F,X,ag,Y,aa,V,hr⟩ (f2 z z) (w4 z z z z)
    refine mv z z<|sn2 z<|yy (t' z z) z<|nx<|bw' z<|ae'<|h'<|h'<|I'<|af' ⟨f,g,k,l,q,s,t,d,n,m,p,c,W⟩ ⟨F,X,ag,Y,aa,V,hr⟩ (f2 z z) (w4 z z z z)
   rintro ah ⟨B,hr⟩
   refine g'<|y'<|sr<|sx0 z z<|aO' (fun (⟨o,ax⟩:Int×Mem)=>[(1,pt0 b1),(2,pt0 b2),(4,i' (i64.wrap (Int.tmod A.n 4))),(5,pt0 b3),(6,i' M),(7,i' o)]) (fun ⟨o,ax⟩=>Mem.le ah ax/\(ZcS A M f l d c o).wp (Out aP aq)) (fun ⟨o,ax⟩=>St w0 G0 ax [(1,bk0 b1 (v37' A af ad R U) 37),(2,bk0 b2 ([.slice none 0 0,.slice none 0 0,.slice none 0 0,i' 0]) 42),(5,bk0 b3 ([.slice g f.length k,.slice q l.length s,.slice n d.length m,i' c]) 42),(310051,t),(310052,p)]) ?_ ?_
   .refine sr<|yy (Y0.ZjZ z) z<|yy (o' 1 sc35 z z z) z<|yy (O' cn' (Z.mono (mx (mx ab F) B)) z) z<|yy (aS' z z) z<|nx<|P' hr z (fun bc hr=>?_) (fun bc hr=>?_)
    .refine ak' [ff,ff,ff,ff,ff,ff,ff] mix (by kernel_rfl) fun hb=>cn (fun _ x=>Y0.ZjZ z)<|cn (fun _ x=>o' 1 sc35 z z z)<|cn (fun _ x=>c' z)<|cn (fun _ x=>Y0.ZjZ z)<|cn (fun _ x=>o' 1 sc35 z z z)<|cn (fun _ x=>O' cn' ((Z.mono (mx (mx ab F) B)).mono x) z) ?_
     obtain⟨bh,hr⟩:=hr
     refine cn (fun _ x=>bP' z z bh)<|ah' hb ?_
     obtain⟨x2,aO,hr⟩:=hr
     refine yy (V' cn' sz5 (Z.mono (mx (mx ab F) B)) z z aO) z<|yy (aj' sc5 z (aJ' (J' (Z' Z aO) (mx (mx ab F) B)))) z<|yy (bP' z z (by decide)) z<|yy (av' aL' aD' z) z<|sg z z<|q'<|am'<|ax' ⟨i64.wrap (Int.tmod x2 4),ah⟩ ⟨mr,hr⟩ (f6 z z z z z z) (w5 z z z z z)
    refine n'<|ax' ⟨0,ah⟩ ⟨mr,hr⟩ (f6 z z z z z z) (w5 z z z z z)
   rintro⟨o,ax⟩ ⟨K,hr⟩
   refine g'<|ak' [ff,ff,ff,ff,ff,ff,ff,ff,ff,ff,ff,ff,ff] mix (by kernel_rfl) fun hb=>cn (fun _ x=>bz' z)<|cn (fun _ x=>o' 5 sc3 z z z)<|cn (fun _ x=>c' z)<|cn (fun _ x=>W' z z)<|cn (fun _ x=>Y0.Zl2 z)<|cn (fun _ x=>o' 1 sc22 z z z)<|cn (fun _ x=>c' z) ?_
   obtain⟨x1,aR,hr⟩:=hr
   refine cn (fun _ x=>V' dq' sz93 ((am.mono (mx (mx (mx ab F) B) K)).mono x) z z aR) ?_
   obtain⟨bu,bo,a9,aS⟩:=ZjR (J' (Z' am aR) (mx (mx (mx ab F) B) K))
   refine cn (fun _ x=>ao' _ ag93 z z (fun j v hv=>x _ _ _ (a9 j v hv)))<|cn (fun _ x=>c' z) ?_
   obtain⟨C,aY,hr⟩:=hr
   refine az' (post:=wl' a' C) (fun _=>z) (fun _ _=>m' E42 z) (ff' aY) z (fun G' x=>(aS.mono x)) (fun v G1 G2 x h=>?_) ?_
   .obtain⟨ao,an,rfl,ar⟩:=h
    exact⟨_,_,z,ar.mono x⟩
   refine bF' (φ:=fun G v=>∃ p3 ac,v = .agg ([i' (i64.wrap (c+o)),.slice p3 C.length ac]).toArray/\sl a' G p3 ac C) (fun _=>z) (fun v G1 G2 x h=>?_) (fun u G' x hu=>?_) ?_
   .obtain⟨p3,ac,rfl,aC⟩:=h
    exact⟨_,_,z,aC.mono x⟩
   .obtain⟨⟨ao,an,aN,ar⟩,_⟩:=(show (wl' a' C) G'.m (u 55)/\True from hu)
    simp only[undFr,aN]
    exact⟨_,au' (vs:=#[(0,i' (i64.wrap (c+o))),(1,.slice ao C.length an)]) (v:=.agg ([i' (i64.wrap (c+o)),.slice ao C.length an]).toArray) z z (fun _=>by kernel_rfl),ao,an,z,ar⟩
   refine bN' (fun _=>z) z70<|Chain.tailX3 (fun bE bv bw X1 ae aK aG aE=>?_)
   obtain⟨b4,rfl,aW⟩:=aK
   obtain⟨p3,ac,rfl,aC⟩:=aG
   obtain⟨ao,an,rfl,ar⟩:=aE
   refine WL.adopt aW (ds' (show WL _ _ _ _ _ _ (St w0 G0 X1.m _) from ?_))
   refine B' 8 z bR' z z z z z (List.all_eq_true.1 z)<|q'<|am'<|b'<|g'<|sr<|mv z z<|yy (bP' z z (by decide)) z<|yy (aH' z z) z<|nx<|P' hr z (fun bm hr=>?_) (fun bm hr=>?_)
   .refine x'<|yy (bA' z) z<|yy (o' 5 bO' z z z) z<|yy (D' 8 ag70 z z z) z<|aF' (e:=70) (r:=U') (vs:=#[(0,.agg ([i' (i64.wrap (c+o)),.slice p3 C.length ac]).toArray)]) (cs:=[i' (i64.wrap (c+o)),.slice p3 C.length ac]++([])) ([(Zf.mk (i64.wrap (c+o)) C)]:List Zf) z z z z z (by decide) (fun _=>by kernel_rfl) ⟨[i' (i64.wrap (c+o)),.slice p3 C.length ac],[],z,⟨[i' (i64.wrap (c+o))],[.slice p3 C.length ac],z,z,⟨_,z,aC⟩⟩,z⟩ (key:=999) z (by rw[aw]; rfl) (fun p4 bD ak ba=>?_)
    obtain⟨aV,hr⟩:=hr
    have N1:=mx (mx (mx B K) ae) ak
    refine bb' (r:=U') 310052 z z Y' el70 z (by decide) z z (aa.mono N1) z (by rw[aw]; rfl) V ba aV fun p5 aH a5 be au bk a2=>yy (bA' z) z<|by' 5 ([.slice g f.length k,.slice q l.length s,.slice p5 (d++[(Zf.mk (i64.wrap (c+o)) C)]).length aH,i' c]).toArray z sz40 z z z (show 2<4 by decide) z z<|nx<|x'<|yy (bt' z) z<|yy (o' 8 sc3 z z z) z<|yy (W' z z) z<|yy (bz' z) z<|by' 5 ([.slice g f.length k,.slice q l.length s,.slice p5 (d++[(Zf.mk (i64.wrap (c+o)) C)]).length aH,i' (i64.wrap ((i64.wrap (c+o))+1))]).toArray z sz3 z z z (show 3<4 by decide) z z<|q'<|F'<|b'<|x'<|mv z z<|yy (W' z z) z<|sg z z<|q'<|T' ⟨i64.wrap (M+1),f,g,k,l,q,s,t,(d++[(Zf.mk (i64.wrap (c+o)) C)]),p5,aH,a5,i64.wrap ((i64.wrap (c+o))+1),be⟩ hr ⟨(mx (mx (mx (mx (mx F B) K) ae) ak) au),(X.mono (mx N1 au)),(ag.mono (mx N1 au)),Y,bk,a2⟩ (f5 z z z z z) (w5 z z z z z)
   refine x'<|yy (bx' z) z<|yy (o' 5 bO' z z z) z<|yy (D' 8 ag70 z z z) z<|aF' (e:=70) (r:=U') (vs:=#[(0,.agg ([i' (i64.wrap (c+o)),.slice p3 C.length ac]).toArray)]) (cs:=[i' (i64.wrap (c+o)),.slice p3 C.length ac]++([])) ([(Zf.mk (i64.wrap (c+o)) C)]:List Zf) z z z z z (by decide) (fun _=>by kernel_rfl) ⟨[i' (i64.wrap (c+o)),.slice p3 C.length ac],[],z,⟨[i' (i64.wrap (c+o))],[.slice p3 C.length ac],z,z,⟨_,z,aC⟩⟩,z⟩ (key:=999) z (by rw[aw]; rfl) (fun p6 bC al a8=>?_)
   obtain⟨a1,hr⟩:=hr
   have N2:=mx (mx (mx B K) ae) al
   refine bb' (r:=U') 310051 z z Y' el70 z (by decide) z z (ag.mono N2) z (by rw[aw]; rfl) Y a8 a1 fun p7 aL aU bj ap bb aZ=>yy (bx' z) z<|by' 5 ([.slice g f.length k,.slice p7 (l++[(Zf.mk (i64.wrap (c+o)) C)]).length aL,.slice n d.length m,i' c]).toArray z sz40 z z z (show 1<4 by decide) z z<|nx<|x'<|yy (bt' z) z<|yy (o' 8 sc3 z z z) z<|yy (W' z z) z<|yy (bz' z) z<|by' 5 ([.slice g f.length k,.slice p7 (l++[(Zf.mk (i64.wrap (c+o)) C)]).length aL,.slice n d.length m,i' (i64.wrap ((i64.wrap (c+o))+1))]).toArray z sz3 z z z (show 3<4 by decide) z z<|q'<|F'<|b'<|x'<|mv z z<|yy (W' z z) z<|sg z z<|q'<|T' ⟨i64.wrap (M+1),f,g,k,(l++[(Zf.mk (i64.wrap (c+o)) C)]),p7,aL,aU,d,n,m,p,i64.wrap ((i64.wrap (c+o))+1),bj⟩ hr ⟨(mx (mx (mx (mx (mx F B) K) ae) al) ap),(X.mono (mx N2 ap)),bb,aZ,(aa.mono (mx N2 ap)),V⟩ (f5 z z z z z) (w5 z z z z z)
 rintro⟨E,T,S,D,P,O,Q,y,H,J,L,I,ai⟩ ⟨bn,aA,aF,a3,aB,aQ,hr⟩
 refine b'<|sr<|yy (D' 5 ag42 z z z) z<|B' 2 z sz42 z z z z z (List.all_eq_true.1 z)<|nx<|k' ?_
 obtain rfl:_=r:=hr
 exact j' z (aw' (i:=2) ag42 z z z) ⟨_,_,_,_,_,_,z,aA,aF,aB⟩
theorem fj'{p C g o n r}(hr:(Zd2 p C g).Ret r):Ctr prog 72 #[.slice o p.length n,i' C,i' g] (fun G=>sl U' G o n p) (fun G v=>v = .bool r):=by
 refine H' (args:=[_,_,_]) (N:=60) func72 z z z (fun I l ac B=>?_)
 have e:=B
 refine sr<|sx0 z z<|g'<|sr<|mv z z<|yy (O' Y' e z) z<|yy (aS' z z) z<|nx<|P' hr z (fun S hr=>?_) (fun S hr=>?_)
 .refine sr<|sx0 z z<|k'<|f' (k0' hr z z)
 refine n'<|b'<|g'<|sr<|sx0 z z<|ab' (fun (j:Mem)=>match j with|h=>[]) (fun (j:Mem)=>match j with|h=>Mem.le l h/\(ZeI).Ret r) (fun (j:Mem)=>match j with|h=>St I l h []) ?_ ?_
 .refine y' ?_
  let m:(Bool⊕Unit)->Prop:=fun W=>((fun U=>match U with | .inl rv1=>Cq.ret rv1 | .inr ()=>ZeI:(Bool⊕Unit)->Cq Bool) W).wp (fun a=>a=r)
  replace hr:(Cq.loop _ _).wp m:=hr
  refine ac' (Φ:=m) (fun (⟨i,f⟩:Int×Mem)=>(i:Int)) (fun ⟨i,f⟩=>[(0,.slice o p.length n),(1,i' C),(2,i' g),(7,i' i)]) (fun ⟨i,f⟩=>Mem.le l f) (fun ⟨i,f⟩=>St I l f []) ⟨0,l⟩ hr (f4 z z z z) mr (wk ln) ?_
  .intro aa j V hr
   obtain⟨i,f⟩:=j
   have d:=V
   refine g'<|sr<|mv z z<|mv z z<|yy (O' Y' (e.mono d) z) z<|yy (aa' z z) z<|nx<|P' hr z (fun H hr=>?_) (fun H hr=>?_)
   .refine n'<|b'<|g'<|y'<|g'<|ak' [ff,ff,ff,ff,ff,ff,ff,ff,ff,ff,ff,ff,ff,ff,ff,ff,ff,ff,ff,ff,ff,ff,ff,ff,ff,ff,ff,ff,ff,ff,ff,ff,ff,ff,ff,ff,ff,ff,ff,ff] mix (by kernel_rfl) fun k=>cn (fun _ c=>c' z)<|cn (fun _ c=>c' z) ?_
    obtain⟨x1,x,hr⟩:=hr
    refine cn (fun _ c=>V' Y' bR' ((e.mono d).mono c) z z x)<|cn (fun _ c=>bt' z)<|cn (fun _ c=>aj' sc3 z (aJ' (J' (J' (br' (aG' (Z' e x))) d) c)))<|bG' hr z (fun _ c=>aa' z z) (fun O hr=>?_) (fun O hr=>?_)
    .refine cn (fun _ c=>c' z)<|cf z z<|cf z z<|cf z z<|cf z z<|cf z z<|cf z z<|cf z z<|cn (fun _ c=>w' z z)<|cn (fun _ c=>c' z)<|cf z z<|cf z z<|cf z z<|cs z z<|cs z z<|cs z z<|cs z z<|cs z z<|cs z z<|cs z z<|cs z z<|cs z z<|cs z z<|cs z z<|cs z z<|cf z z<|cn (fun _ c=>w' z z)<|cn (fun _ c=>c' z)<|cf z z<|cf z z<|cf z z<|cf z z<|cf z z<|cf z z<|ah' k<|sn2 z<|yy (w' z z) z<|q'<|am'<|b'<|aB' z<|sr<|sx0 z z<|k'<|A'<|f'<|f'<|A'<|an'<|f' (k0' hr z z)
    refine cn (fun _ c=>c' z)<|cy z z (fun _ c=>c' z)<|cy z z (fun _ c=>c' z) ?_
    obtain⟨x2,s,hr⟩:=hr
    refine cy z z (fun _ c=>V' Y' bR' ((e.mono d).mono c) z z s)<|cy z z (fun _ c=>bt' z)<|cy z z (fun _ c=>aj' sc3 z (aJ' (J' (J' (br' (aG' (Z' e s))) d) c)))<|cy z z (fun _ c=>c' z)<|bG' hr (E' z z) (fun _ c=>bH' z z) (fun L hr=>?_) (fun L hr=>?_)
    .refine cn (fun _ c=>t' z z)<|cn (fun _ c=>c' z)<|cf z z<|cf z z<|cf z z<|cs z z<|cs z z<|cs z z<|cs z z<|cs z z<|cs z z<|cs z z<|cs z z<|cs z z<|cs z z<|cs z z<|cs z z<|cf z z<|cn (fun _ c=>w' z z)<|cn (fun _ c=>c' z)<|cf z z<|cf z z<|cf z z<|cf z z<|cf z z<|cf z z<|ah' k<|sn2 z<|yy (w' z z) z<|q'<|am'<|b'<|aB' z<|sr<|sx0 z z<|k'<|A'<|f'<|f'<|A'<|an'<|f' (k0' hr z z)
    refine cn (fun _ c=>t' z z)<|cn (fun _ c=>c' z)<|cy z z (fun _ c=>c' z)<|bG' hr (E' z z) (fun _ c=>aS' z z) (fun Q hr=>?_) (fun Q hr=>?_)
    .refine cy z z (fun _ c=>c' z)<|cy z z (fun _ c=>c' z)<|cy z z (fun _ c=>c' z)<|cy z z (fun _ c=>ba' z z) ?_
     obtain⟨x3,q,hr⟩:=hr
     refine cy z z (fun _ c=>V' Y' bR' ((e.mono d).mono c) z z q)<|cy z z (fun _ c=>bt' z)<|cy z z (fun _ c=>aj' sc3 z (aJ' (J' (J' (br' (aG' (Z' e q))) d) c)))<|cy z z (fun _ c=>c' z)<|cy z z (fun _ c=>c' z) ?_
     obtain⟨x4,u,hr⟩:=hr
     refine cy z z (fun _ c=>V' Y' bR' ((e.mono d).mono c) z z u)<|cy z z (fun _ c=>bt' z)<|cy z z (fun _ c=>aj' sc3 z (aJ' (J' (J' (br' (aG' (Z' e u))) d) c)))<|bG' hr (E' z z) (fun _ c=>bH' z z) (fun M hr=>?_) (fun M hr=>?_)
     .refine cy z z (fun _ c=>w' z z)<|cn (fun _ c=>t' z z)<|cn (fun _ c=>c' z)<|cf z z<|cf z z<|cf z z<|cf z z<|cf z z<|cf z z<|ah' k<|sn2 z<|yy (w' z z) z<|q'<|am'<|b'<|aB' z<|sr<|sx0 z z<|k'<|A'<|f'<|f'<|A'<|an'<|f' (k0' hr z z)
     refine cy z z (fun _ c=>w' z z)<|cn (fun _ c=>t' z z)<|cn (fun _ c=>c' z)<|cy z z (fun _ c=>c' z)<|cy z z (fun _ c=>c' z) ?_
     obtain⟨x5,y,hr⟩:=hr
     refine cy z z (fun _ c=>V' Y' bR' ((e.mono d).mono c) z z y)<|cy z z (fun _ c=>cl' z) ?_
     obtain⟨p1,ab,E,K⟩:=bl' (J' (bq' (aG' (Z' e y))) d)
     refine cy z z (fun _ c=>aj' bU' z (c _ _ _ E))<|cy z z (fun _ c=>c' z)<|ah' k ?_
     obtain⟨Y,D,hr⟩:=hr
     refine K' (E' z z) z (m' E101 z) (eh' D) z (K)<|gy z z (aA' z) z<|yy (t' z z) z<|q'<|am'<|b'<|aK' hr z (fun R hr=>?_) (fun R hr=>?_)
     .refine sr<|sx0 z z<|k'<|A'<|f'<|f'<|A'<|an'<|f' (k0' hr z z)
     refine n'<|F'<|b'<|x'<|mv z z<|yy (W' z z) z<|sg z z<|q'<|T' ⟨i64.wrap (i+1),f⟩ hr d (f4 z z z z) (wk ln)
    refine cy z z (fun _ c=>c' z)<|ct z z<|ct z z<|ct z z<|ct z z<|ct z z<|ct z z<|ct z z<|ct z z<|ct z z<|ct z z<|ct z z<|ct z z<|cy z z (fun _ c=>t' z z)<|cn (fun _ c=>t' z z)<|cn (fun _ c=>c' z)<|cy z z (fun _ c=>c' z)<|cy z z (fun _ c=>c' z) ?_
    obtain⟨x6,t,hr⟩:=hr
    refine cy z z (fun _ c=>V' Y' bR' ((e.mono d).mono c) z z t)<|cy z z (fun _ c=>cl' z) ?_
    obtain⟨p2,Z,J,P⟩:=bl' (J' (bq' (aG' (Z' e t))) d)
    refine cy z z (fun _ c=>aj' bU' z (c _ _ _ J))<|cy z z (fun _ c=>c' z)<|ah' k ?_
    obtain⟨X,A,hr⟩:=hr
    refine K' (E' z z) z (m' E101 z) (eh' A) z (P)<|gy z z (aA' z) z<|yy (t' z z) z<|q'<|am'<|b'<|aK' hr z (fun F hr=>?_) (fun F hr=>?_)
    .refine sr<|sx0 z z<|k'<|A'<|f'<|f'<|A'<|an'<|f' (k0' hr z z)
    refine n'<|F'<|b'<|x'<|mv z z<|yy (W' z z) z<|sg z z<|q'<|T' ⟨i64.wrap (i+1),f⟩ hr d (f4 z z z z) (wk ln)
   refine ae'<|h'<|h'<|I'<|af' f ⟨d,hr⟩ fn (wk ln)
 rintro h ⟨T,hr⟩
 refine b'<|sr<|sx0 z z<|k' (k0' hr z z)
theorem eK'{c r}(hr:(Zcb c).Ret r):Ctr prog 69 #[.int .u8 c] (fun G=>True) (fun G v=>v = .bool r):=by
 refine H' (args:=[_]) (N:=17) func69 z z z fun j k i h=>sr<|sg z z<|nr<|mv z z<|aE' hr z (bH' z z) z (fun e hr=>?_) (fun e hr=>?_)
 .refine mv z z<|gy z z (c' z) z<|aE' hr (E' z z) (bW' z z) z (fun g hr=>?_) (fun g hr=>?_)
  .refine yy (w' z z) z<|mv z z<|sn3 z<|aX' (aq' z z) z<|aX' (aq' z z) z<|sf z z z<|yy (w' z z) z<|sx0 z z<|k' (k0' hr z z)
  refine yy (w' z z) z<|mv z z<|gy z z (c' z) z<|aE' hr (E' z z) (bH' z z) z (fun f hr=>?_) (fun f hr=>?_)
  .refine gy z z (c' z) z<|gy z z (c' z) z<|gy z z (bW' z z) z<|gy z z (w' z z) z<|yy (t' z z) z<|sx0 z z<|k' (k0' hr z z)
  refine gy z z (c' z) z<|sn2 z<|gy z z (t' z z) z<|yy (t' z z) z<|sx0 z z<|k' (k0' hr z z)
 refine mv z z<|sn2 z<|yy (t' z z) z<|mv z z<|gy z z (c' z) z<|aE' hr (E' z z) (bH' z z) z (fun d hr=>?_) (fun d hr=>?_)
 .refine gy z z (c' z) z<|gy z z (c' z) z<|gy z z (bW' z z) z<|gy z z (w' z z) z<|yy (t' z z) z<|sx0 z z<|k' (k0' hr z z)
 refine gy z z (c' z) z<|sn2 z<|gy z z (t' z z) z<|yy (t' z z) z<|sx0 z z<|k' (k0' hr z z)
theorem ed'{g r}(hr:(Zfo g).Ret r):Ctr prog 29 #[.string g] (fun G=>True) (fun G v=>v = .bool r):=by
 refine H' (args:=[_]) (N:=48) func29 z z z fun m j S L=>sr<|sx0 z z<|aO' (fun (e:Mem)=>match e with|f=>[(0,.string g)]) (fun (e:Mem)=>match e with|f=>Mem.le j f/\(Zg0 g).Ret r) (fun (e:Mem)=>match e with|f=>St m j f []) ?_ ?_
 .refine sr<|mv z z<|yy (Y0.lenS aR' z) z<|aE' hr z (aa' z z) z (fun F hr=>?_) (fun F hr=>?_)
  .refine mv z z<|sn3 z<|yy (w' z z) z<|mv z z<|sn4 z<|yy (w' z z) z<|nx<|aB' z<|sr<|sx0 z z<|k'<|f' (k0' hr z z)
  refine mv z z<|gy z z (c' z) z<|gy z z (Y0.lenS aR' z) z<|aE' hr (E' z z) (aS' z z) z (fun C hr=>?_) (fun C hr=>?_)
  .refine yy (t' z z) z<|mv z z<|sn4 z<|yy (w' z z) z<|nx<|aB' z<|sr<|sx0 z z<|k'<|f' (k0' hr z z)
  refine yy (t' z z) z<|mv z z<|gy z z (c' z) z ?_
  obtain⟨p,hr⟩:=hr
  refine gy z z (de' (s:=g) aR' z z p) z ?_
  obtain⟨Q,l,hr⟩:=hr
  refine K' (E' z z) z (m' E69 z) (eK' l) z (trivial)<|gy z z (aA' z) z<|yy (t' z z) z<|nx<|aK' hr z (fun y hr=>?_) (fun y hr=>?_)
  .refine sr<|sx0 z z<|k'<|f' (k0' hr z z)
  refine n'<|ax' j ⟨mr,hr⟩ (f1 z) (wk ln)
 rintro f ⟨J,hr⟩
 refine g'<|sr<|sx0 z z<|ab' (fun (e:Mem)=>match e with|i=>[]) (fun (e:Mem)=>match e with|i=>Mem.le f i/\(ZeH).Ret r) (fun (e:Mem)=>match e with|i=>St m j i []) ?_ ?_
 .refine y' ?_
  let k:(Bool⊕Unit)->Prop:=fun O=>((fun M=>match M with | .inl rv1=>Cq.ret rv1 | .inr ()=>ZeH:(Bool⊕Unit)->Cq Bool) O).wp (fun a=>a=r)
  replace hr:(Cq.loop _ _).wp k:=hr
  refine ac' (Φ:=k) (fun (⟨h,c⟩:Int×Mem)=>(h:Int)) (fun ⟨h,c⟩=>[(0,.string g),(3,i' h)]) (fun ⟨h,c⟩=>Mem.le f c) (fun ⟨h,c⟩=>St m j c []) ⟨1,f⟩ hr (f2 z z) mr (wk ln) ?_
  .intro R e P hr
   obtain⟨h,c⟩:=e
   have d:=P
   refine g'<|sr<|mv z z<|mv z z<|yy (Y0.lenS aR' z) z<|yy (aa' z z) z<|nx<|P' hr z (fun I hr=>?_) (fun I hr=>?_)
   .refine n'<|b'<|g'<|y'<|sr<|mv z z<|mv z z ?_
    obtain⟨o,hr⟩:=hr
    refine yy (de' (s:=g) aR' z z o) z ?_
    obtain⟨u,n,hr⟩:=hr
    refine K' z z (m' E69 z) (eK' n) z (trivial) ?_
    cases u
    .refine yy (aA' z) z<|mv z z<|gy z z (c' z) z<|gy z z (c' z) z ?_
     obtain⟨t,hr⟩:=hr
     refine gy z z (de' (s:=g) aR' z z t) z<|aE' hr (E' z z) (bH' z z) z (fun E hr=>?_) (fun E hr=>?_)
     .refine gy z z (c' z) z<|gy z z (c' z) z<|gy z z (c' z) z ?_
      obtain⟨D,hr⟩:=hr
      refine gy z z (de' (s:=g) aR' z z D) z<|aE' hr (E' z z) (bW' z z) z (fun B hr=>?_) (fun B hr=>?_)
      .refine gy z z (w' z z) z<|gy z z (aA' z) z<|yy (w' z z) z<|mv z z<|sn4 z<|yy (t' z z) z<|nx<|bw' z<|n'<|F'<|b'<|x'<|mv z z<|yy (W' z z) z<|sg z z<|q'<|T' ⟨i64.wrap (h+1),c⟩ hr d (f2 z z) (wk ln)
      refine gy z z (w' z z) z<|gy z z (aA' z) z<|yy (w' z z) z<|mv z z<|gy z z (c' z) z<|gy z z (c' z) z ?_
      obtain⟨x,hr⟩:=hr
      refine gy z z (de' (s:=g) aR' z z x) z<|gy z z (bp' z z) z<|yy (w' z z) z<|nx<|P' hr z (fun A hr=>?_) (fun A hr=>?_)
      .refine sr<|sx0 z z<|k'<|A'<|f'<|f'<|A'<|an'<|f' (k0' hr z z)
      refine n'<|F'<|b'<|x'<|mv z z<|yy (W' z z) z<|sg z z<|q'<|T' ⟨i64.wrap (h+1),c⟩ hr d (f2 z z) (wk ln)
     refine gy z z (c' z) z<|sn4 z<|gy z z (t' z z) z<|gy z z (aA' z) z<|yy (w' z z) z<|mv z z<|gy z z (c' z) z<|gy z z (c' z) z ?_
     obtain⟨q,hr⟩:=hr
     refine gy z z (de' (s:=g) aR' z z q) z<|gy z z (bp' z z) z<|yy (w' z z) z<|nx<|P' hr z (fun H hr=>?_) (fun H hr=>?_)
     .refine sr<|sx0 z z<|k'<|A'<|f'<|f'<|A'<|an'<|f' (k0' hr z z)
     refine n'<|F'<|b'<|x'<|mv z z<|yy (W' z z) z<|sg z z<|q'<|T' ⟨i64.wrap (h+1),c⟩ hr d (f2 z z) (wk ln)
    refine yy (aA' z) z<|mv z z<|sn5 z<|aX' (aq' z z) z<|aX' (aq' z z) z<|aX' (aq' z z) z<|aX' (aq' z z) z<|sn2 z<|yy (t' z z) z<|mv z z<|sn4 z<|yy (t' z z) z<|nx<|bw' z<|n'<|F'<|b'<|x'<|mv z z<|yy (W' z z) z<|sg z z<|q'<|T' ⟨i64.wrap (h+1),c⟩ hr d (f2 z z) (wk ln)
   refine ae'<|h'<|h'<|I'<|af' c ⟨d,hr⟩ fn (wk ln)
 rintro i ⟨K,hr⟩
 refine b'<|sr<|sx0 z z<|k' (k0' hr z z)
theorem eo'{g f e i j d c r}(hr:(Zel g).Ret r):Ctr prog 31 #[.agg ((v42' g f e i j d c)).toArray] (fun G=>y31' G f e i j d c g) (fun G v=>v = .bool r):=by
 refine H' (args:=[_]) (N:=96) func31 z z z (fun R K aB ak=>?_)
 obtain⟨l,t,p⟩:=ak
 refine sr<|ai' 1 z z z fun A=>sg z z<|nr<|yy (bQ' z) z<|yy (o' 1 sc39 z z z) z<|yy (O' aI' l z) z<|sx0 z z<|aO' (fun (k:Mem)=>match k with|H=>[(1,pt0 A),(3,i' (g.vars.length:Int))]) (fun (k:Mem)=>match k with|H=>Mem.le K H/\(Zgb g).Ret r) (fun (k:Mem)=>match k with|H=>St R K H [(1,bk0 A (v42' g f e i j d c) 42)]) ?_ ?_
 .refine sr<|mv z z<|aE' hr z (aS' z z) z (fun ax hr=>?_) (fun ax hr=>?_)
  .refine mv z z<|sn3 z<|yy (w' z z) z<|mv z z<|sn3 z<|yy (w' z z) z<|mv z z<|sn7 z<|yy (w' z z) z<|mv z z<|sn7 z<|yy (w' z z) z<|nx<|aB' z<|sr<|sx0 z z<|k'<|f' (k0' hr z z)
  refine mv z z<|gy z z (bz' z) z<|gy z z (o' 1 sc3 z z z) z<|aE' hr (E' z z) (aa' z z) z (fun ap hr=>?_) (fun ap hr=>?_)
  .refine yy (t' z z) z<|mv z z<|sn3 z<|yy (w' z z) z<|mv z z<|sn7 z<|yy (w' z z) z<|mv z z<|sn7 z<|yy (w' z z) z<|nx<|aB' z<|sr<|sx0 z z<|k'<|f' (k0' hr z z)
  refine yy (t' z z) z<|mv z z<|gy z z (bz' z) z<|gy z z (o' 1 sc3 z z z) z<|aE' hr (E' z z) (aS' z z) z (fun au hr=>?_) (fun au hr=>?_)
  .refine yy (t' z z) z<|mv z z<|sn7 z<|yy (w' z z) z<|mv z z<|sn7 z<|yy (w' z z) z<|nx<|aB' z<|sr<|sx0 z z<|k'<|f' (k0' hr z z)
  refine yy (t' z z) z<|mv z z<|gy z z (bx' z) z<|gy z z (o' 1 bO' z z z) z<|gy z z (c' z) z<|gy z z (bz' z) z<|gy z z (o' 1 sc3 z z z) z ?_
  obtain⟨am,ai,hr⟩:=hr
  refine K' (E' z z) z (m' E72 z) (fj' ai) z (t) ?_
  cases am
  .refine gy z z (aA' z) z<|yy (t' z z) z<|mv z z<|sn7 z<|yy (w' z z) z<|nx<|aB' z<|sr<|sx0 z z<|k'<|f' (k0' hr z z)
  refine gy z z (aA' z) z<|yy (t' z z) z<|mv z z<|gy z z (bA' z) z<|gy z z (o' 1 bO' z z z) z<|gy z z (c' z) z<|gy z z (bz' z) z<|gy z z (o' 1 sc3 z z z) z ?_
  obtain⟨aC,aj,hr⟩:=hr
  refine K' (E' z z) z (m' E72 z) (fj' aj) z (p)<|gy z z (aA' z) z<|yy (t' z z) z<|nx<|aK' hr z (fun aq hr=>?_) (fun aq hr=>?_)
  .refine sr<|sx0 z z<|k'<|f' (k0' hr z z)
  refine n'<|ax' K ⟨mr,hr⟩ (f2 z z) (w1 z)
 rintro H ⟨m,hr⟩
 refine g'<|sr<|sx0 z z<|ab' (fun (k:Mem)=>match k with|F=>[(1,pt0 A)]) (fun (k:Mem)=>match k with|F=>Mem.le H F/\(Zb9 g).Ret r) (fun (k:Mem)=>match k with|F=>St R K F [(1,bk0 A (v42' g f e i j d c) 42)]) ?_ ?_
 .refine y' ?_
  let Q:(Bool⊕Unit)->Prop:=fun U=>((fun V=>match V with | .inl rv3=>Cq.ret rv3 | .inr ()=>Zb9 g:(Bool⊕Unit)->Cq Bool) U).wp (fun a=>a=r)
  replace hr:(Cq.loop _ _).wp Q:=hr
  refine ac' (Φ:=Q) (fun (⟨n,C⟩:Int×Mem)=>(n:Int)) (fun ⟨n,C⟩=>[(1,pt0 A),(3,i' (g.vars.length:Int)),(4,i' n)]) (fun ⟨n,C⟩=>Mem.le H C) (fun ⟨n,C⟩=>St R K C [(1,bk0 A (v42' g f e i j d c) 42)]) ⟨0,H⟩ hr (f3 z z z) mr (w1 z) ?_
  .intro ae k T hr
   obtain⟨n,C⟩:=k
   have q:=T
   refine g'<|sr<|mv z z<|mv z z<|yy (aa' z z) z<|nx<|P' hr z (fun an hr=>?_) (fun an hr=>?_)
   .refine n'<|b'<|g'<|y'<|g'<|sr<|sx0 z z<|ab' (fun (k:Mem)=>match k with|M=>[(1,pt0 A),(3,i' (g.vars.length:Int)),(4,i' n)]) (fun (k:Mem)=>match k with|M=>Mem.le C M/\(Zca g n).wp (Out ae Q)) (fun (k:Mem)=>match k with|M=>St R K M [(1,bk0 A (v42' g f e i j d c) 42)]) ?_ ?_
    .refine y' ?_
     let W:(Bool⊕Unit)->Prop:=fun U=>((fun V=>match V with | .inl rv4=>Cq.ret (.inr (.inl rv4)) | .inr ()=>Zca g n:(Bool⊕Unit)->Cq (Int⊕(Bool⊕Unit))) U).wp (Out ae Q)
     replace hr:(Cq.loop _ _).wp W:=hr
     refine ac' (Φ:=W) (fun (⟨E,I⟩:Int×Mem)=>(E:Int)) (fun ⟨E,I⟩=>[(1,pt0 A),(3,i' (g.vars.length:Int)),(4,i' n),(5,i' E)]) (fun ⟨E,I⟩=>Mem.le C I) (fun ⟨E,I⟩=>St R K I [(1,bk0 A (v42' g f e i j d c) 42)]) ⟨0,C⟩ hr (f4 z z z z) mr (w1 z) ?_
     .intro aE k T hr
      obtain⟨E,I⟩:=k
      have y:=T
      refine g'<|sr<|mv z z<|mv z z<|yy (aa' z z) z<|nx<|P' hr z (fun ar hr=>?_) (fun ar hr=>?_)
      .refine n'<|b'<|g'<|y'<|g'<|ak' [ff,ff,ff,ff,ff,ff,ff,ff,ff,ff] mix (by kernel_rfl) fun hb=>cn (fun _ h=>bQ' z)<|cn (fun _ h=>o' 1 sc39 z z z)<|cn (fun _ h=>c' z) ?_
       obtain⟨x4,aa,hr⟩:=hr
       refine cn (fun _ h=>V' aI' sz9 ((l.mono (mx (mx m q) y)).mono h) z z aa)<|cn (fun _ h=>aj' sc9 z (dJ' (J' (J' (Z' l aa) (mx (mx m q) y)) h)))<|cn (fun _ h=>bQ' z)<|cn (fun _ h=>o' 1 sc39 z z z)<|cn (fun _ h=>c' z) ?_
       obtain⟨x5,ab,hr⟩:=hr
       refine cn (fun _ h=>V' aI' sz9 ((l.mono (mx (mx m q) y)).mono h) z z ab)<|cn (fun _ h=>aj' sc9 z (dJ' (J' (J' (Z' l ab) (mx (mx m q) y)) h)))<|ah' hb<|yy (Y0.eqlS aR' z z) z<|q'<|am'<|b'<|P' hr z (fun al hr=>?_) (fun al hr=>?_)
       .refine sr<|sx0 z z<|k'<|A'<|f'<|f'<|A'<|an'<|f'<|A'<|f'<|f'<|A'<|an'<|f' (k0' hr z z)
       refine n'<|F'<|b'<|x'<|mv z z<|yy (W' z z) z<|sg z z<|q'<|T' ⟨i64.wrap (E+1),I⟩ hr y (f4 z z z z) (w1 z)
      refine ae'<|h'<|h'<|I'<|af' I ⟨y,hr⟩ (f3 z z z) (w1 z)
    rintro M ⟨O,hr⟩
    refine b'<|sr<|yy (bQ' z) z<|yy (o' 1 sc39 z z z) z<|mv z z ?_
    obtain⟨x3,ad,hr⟩:=hr
    refine yy (V' aI' sz9 (l.mono (mx (mx m q) O)) z z ad) z<|yy (aj' sc9 z (dJ' (J' (Z' l ad) (mx (mx m q) O)))) z ?_
    obtain⟨aD,ah,hr⟩:=hr
    refine K' z z (m' E29 z) (ed' ah) z (trivial)<|yy (aA' z) z<|nx<|aK' hr z (fun aw hr=>?_) (fun aw hr=>?_)
    .refine sr<|sx0 z z<|k'<|A'<|f'<|f'<|A'<|an'<|f' (k0' hr z z)
    refine n'<|F'<|b'<|x'<|mv z z<|yy (W' z z) z<|sg z z<|q'<|T' ⟨i64.wrap (n+1),M⟩ hr (mx q O) (f3 z z z) (w1 z)
   refine ae'<|h'<|h'<|I'<|af' C ⟨q,hr⟩ (f1 z) (w1 z)
 rintro F ⟨x,hr⟩
 refine b'<|g'<|sr<|sx0 z z<|ab' (fun (k:Mem)=>match k with|S=>[]) (fun (k:Mem)=>match k with|S=>Mem.le F S/\(Zd0).Ret r) (fun (k:Mem)=>match k with|S=>St R K S []) ?_ ?_
 .refine y' ?_
  let P:(Bool⊕Unit)->Prop:=fun U=>((fun V=>match V with | .inl rv1=>Cq.ret rv1 | .inr ()=>Zd0:(Bool⊕Unit)->Cq Bool) U).wp (fun a=>a=r)
  replace hr:(Cq.loop _ _).wp P:=hr
  refine ac' (Φ:=P) (fun (⟨o,B⟩:Int×Mem)=>(o:Int)) (fun ⟨o,B⟩=>[(1,pt0 A),(6,i' o)]) (fun ⟨o,B⟩=>Mem.le F B) (fun ⟨o,B⟩=>St R K B [(1,bk0 A (v42' g f e i j d c) 42)]) ⟨0,F⟩ hr (f2 z z) mr (w1 z) ?_
  .intro ac k T hr
   obtain⟨o,B⟩:=k
   have s:=T
   refine g'<|sr<|mv z z<|yy (bx' z) z<|yy (o' 1 bO' z z z) z<|yy (O' Y' (t.mono (mx (mx m x) s)) z) z<|yy (aa' z z) z<|nx<|P' hr z (fun ay hr=>?_) (fun ay hr=>?_)
   .refine n'<|b'<|g'<|y'<|sr<|sx0 z z<|ab' (fun (k:Mem)=>match k with|L=>[(1,pt0 A),(6,i' o)]) (fun (k:Mem)=>match k with|L=>Mem.le B L/\(Zd1 o).wp (Out ac P)) (fun (k:Mem)=>match k with|L=>St R K L [(1,bk0 A (v42' g f e i j d c) 42)]) ?_ ?_
    .refine y' ?_
     let X:(Bool⊕Unit)->Prop:=fun U=>((fun V=>match V with | .inl rv2=>Cq.ret (.inr (.inl rv2)) | .inr ()=>Zd1 o:(Bool⊕Unit)->Cq (Int⊕(Bool⊕Unit))) U).wp (Out ac P)
     replace hr:(Cq.loop _ _).wp X:=hr
     refine ac' (Φ:=X) (fun (⟨D,J⟩:Int×Mem)=>(D:Int)) (fun ⟨D,J⟩=>[(1,pt0 A),(6,i' o),(7,i' D)]) (fun ⟨D,J⟩=>Mem.le B J) (fun ⟨D,J⟩=>St R K J [(1,bk0 A (v42' g f e i j d c) 42)]) ⟨0,B⟩ hr (f3 z z z) mr (w1 z) ?_
     .intro aA k T hr
      obtain⟨D,J⟩:=k
      have u:=T
      refine g'<|sr<|mv z z<|yy (bA' z) z<|yy (o' 1 bO' z z z) z<|yy (O' Y' (p.mono (mx (mx (mx m x) s) u)) z) z<|yy (aa' z z) z<|nx<|P' hr z (fun ao hr=>?_) (fun ao hr=>?_)
      .refine n'<|b'<|g'<|y'<|g'<|ak' [ff,ff,ff,ff,ff,ff,ff,ff,ff,ff,ff,ff] mix (by kernel_rfl) fun hb=>cn (fun _ h=>bx' z)<|cn (fun _ h=>o' 1 bO' z z z)<|cn (fun _ h=>c' z) ?_
       obtain⟨x1,af,hr⟩:=hr
       refine cn (fun _ h=>V' Y' bR' ((t.mono (mx (mx (mx m x) s) u)).mono h) z z af)<|cn (fun _ h=>bt' z)<|cn (fun _ h=>aj' sc3 z (aJ' (J' (J' (br' (aG' (Z' t af))) (mx (mx (mx m x) s) u)) h)))<|cn (fun _ h=>bA' z)<|cn (fun _ h=>o' 1 bO' z z z)<|cn (fun _ h=>c' z) ?_
       obtain⟨x2,Z,hr⟩:=hr
       refine cn (fun _ h=>V' Y' bR' ((p.mono (mx (mx (mx m x) s) u)).mono h) z z Z)<|cn (fun _ h=>bt' z)<|cn (fun _ h=>aj' sc3 z (aJ' (J' (J' (br' (aG' (Z' p Z))) (mx (mx (mx m x) s) u)) h)))<|ah' hb<|yy (aH' z z) z<|q'<|am'<|b'<|P' hr z (fun av hr=>?_) (fun av hr=>?_)
       .refine sr<|sx0 z z<|k'<|A'<|f'<|f'<|A'<|an'<|A'<|f'<|f'<|A'<|an'<|f' (k0' hr z z)
       refine n'<|F'<|b'<|x'<|mv z z<|yy (W' z z) z<|sg z z<|q'<|T' ⟨i64.wrap (D+1),J⟩ hr u (f3 z z z) (w1 z)
      refine ae'<|h'<|h'<|I'<|af' J ⟨u,hr⟩ (f2 z z) (w1 z)
    rintro L ⟨Y,hr⟩
    refine F'<|b'<|x'<|mv z z<|yy (W' z z) z<|sg z z<|q'<|T' ⟨i64.wrap (o+1),L⟩ hr (mx s Y) (f2 z z) (w1 z)
   refine ae'<|h'<|h'<|I'<|af' B ⟨s,hr⟩ fn (wk ln)
 rintro S ⟨az,hr⟩
 refine b'<|sr<|sx0 z z<|k' (k0' hr z z)
theorem dM'{F D B r}(hr:(Zek F).Ret r):Ctr prog 38 #[.slice D F.length B] (fun G=>sl U' G D B F) (wl' (Rp.sl a') r):=by
 refine H' (args:=[_]) (N:=21) func38 z z z (fun R Q y L=>?_)
 have u:=L
 refine sr<|sg z z<|nr<|aF' (e:=65) (r:=(Rp.sl a')) (vs:=#[]) (cs:=[]) ([]:List (List Za)) z z z z z (by decide) (fun _=>by kernel_rfl) (z) (key:=999) z (by rw[y]; rfl) fun p1 v o T=>sx0 z z<|g'<|sr<|sx0 z z<|ab' (fun (⟨h,k,j,i,n⟩:(List (List Za))×Option Addr×Nat×Option Ow×Mem)=>[(3,.slice k h.length j)]) (fun ⟨h,k,j,i,n⟩=>Mem.le v n/\sl (Rp.sl a') n k j h/\Tok 1 65 (.slice k h.length j) h.length i/\(ZdZ h).Ret r) (fun ⟨h,k,j,i,n⟩=>St R Q n [(1003,i)]) ?_ ?_
 .refine y' ?_
  let A:(((List (List Za))))->Prop:=fun oo=>((fun ov=>match ov with|h=>ZdZ h:(((List (List Za))))->Cq ((List (List Za)))) oo).wp (fun a=>a=r)
  replace hr:(Cq.loop _ _).wp A:=hr
  refine ac' (Φ:=A) (fun (⟨c,g,f,d,q,m⟩:(List (List Za))×Option Addr×Nat×Option Ow×Int×Mem)=>((c,q):(List (List Za))×Int)) (fun ⟨c,g,f,d,q,m⟩=>[(0,.slice D F.length B),(3,.slice g c.length f),(4,i' q)]) (fun ⟨c,g,f,d,q,m⟩=>Mem.le v m/\sl (Rp.sl a') m g f c/\Tok 1 65 (.slice g c.length f) c.length d) (fun ⟨c,g,f,d,q,m⟩=>St R Q m [(1003,d)]) ⟨[],p1,0,none,0,v⟩ hr (f3 z z z) ⟨mr,T,cb'⟩ (wk (lw ln)) ?_
  .intro ah gx hx hr
   obtain⟨c,g,f,d,q,m⟩:=gx
   obtain⟨l,t,p⟩:=hx
   refine g'<|sr<|mv z z<|mv z z<|yy (O' Y' (u.mono (mx o l)) z) z<|yy (aa' z z) z<|nx<|P' hr z (fun Y hr=>?_) (fun Y hr=>?_)
   .refine n'<|b'<|g'<|y'<|x'<|mv z z<|mv z z<|mv z z ?_
    obtain⟨C,I,hr⟩:=hr
    refine yy (V' Y' bR' (u.mono (mx o l)) z z I) z<|yy (cl' z) z ?_
    obtain⟨J,x,S,X⟩:=bl' (J' (bq' (aG' (Z' u I))) (mx o l))
    refine yy (aj' bU' z (S)) z<|aF' (e:=65) (r:=(Rp.sl a')) (vs:=#[(0,.slice J C.p.length x)]) (cs:=[.slice J C.p.length x]++([])) ([C.p]:List (List Za)) z z z z z (by decide) (fun _=>by kernel_rfl) ⟨[.slice J C.p.length x],[],z,⟨_,z,X⟩,z⟩ (key:=999) z (by rw[y]; rfl) (fun p3 ai s W=>?_)
    obtain⟨M,hr⟩:=hr
    refine bb' (r:=(Rp.sl a')) 1003 z z M' el65 z (by decide) z z (t.mono s) z (by rw[y]; rfl) p W M fun p4 P O U E Z K=>sg z z<|q'<|F'<|b'<|x'<|mv z z<|yy (W' z z) z<|sg z z<|q'<|T' ⟨(c++[C.p]),p4,P,O,i64.wrap (q+1),U⟩ hr ⟨(mx (mx l s) E),Z,K⟩ (f3 z z z) (w1 z)
   refine ae'<|h'<|h'<|I'<|af' ⟨c,g,f,d,m⟩ ⟨l,t,p,hr⟩ (f1 z) (w1 z)
 rintro⟨h,k,j,i,n⟩ ⟨aa,H,V,hr⟩
 refine b'<|sr<|mv z z<|sx0 z z<|k' ?_
 obtain rfl:_=r:=hr
 exact j' z z ⟨_,_,z,H⟩
theorem fk'{Q m o C B p s r}(hr:(Zhm Q).Ret r):Ctr prog 16 #[.agg ((v42' Q m o C B p s)).toArray] (fun G=>y31' G m o C B p s Q) (w28t' r):=by
 refine H' (args:=[_]) (N:=21) func16 z z z (fun w0 G0 aq ab=>?_)
 obtain⟨q,y,n⟩:=ab
 refine sr<|ai' 1 z z z fun b1=>X' 2 z z28 z fun b2=>sx0 z z<|g'<|sr<|yy (D' 1 ag42 z z z) z ?_
 obtain⟨ao,ad,hr⟩:=hr
 refine K' z z (m' E31 z) (eo' ad) z (⟨q,y,n⟩)<|yy (aA' z) z<|nx<|aK' hr z (fun ag hr=>?_) (fun ag hr=>?_)
 .refine sr<|yy (au' (vs:=#[]) (v:=.agg ([i' 0,.slice none 0 0,.slice none 0 0]).toArray) z z (fun _=>by kernel_rfl)) z<|B' 2 z bB' z z z z z (List.all_eq_true.1 z)<|sx0 z z<|k'<|f' ?_
  obtain rfl:_=r:=hr
  exact bd' z (aw' (i:=2) bj' z z z) z ⟨_,_,_,_,z,(ay' (Rp.sl a') _),(ay' (Rp.sl a') _)⟩
 refine n'<|b'<|g'<|ak' [ff,ff,ff,ff,ff,ff,ff,ff,ff,ff,ff,tt] mix (by kernel_rfl) fun hb=>cn (fun _ c=>bQ' z)<|cn (fun _ c=>o' 1 sc39 z z z)<|cn (fun _ c=>O' aI' (q.mono c) z)<|cn (fun _ c=>Y0.max2 z z)<|cn (fun _ c=>bx' z)<|cn (fun _ c=>o' 1 bO' z z z) ?_
 obtain⟨K,W,hr⟩:=hr
 refine az' (post:=wl' (Rp.sl a') K) (fun _=>z) (fun _ _=>m' E38 z) (dM' W) z (fun E c=>(y.mono c)) (fun v G1 Z c h=>?_) ?_
 .obtain⟨L,M,rfl,x⟩:=h
  exact⟨_,_,z,x.mono c⟩
 refine cu (fun _ _ c=>bA' z)<|cu (fun _ _ c=>o' 1 bO' z z z) ?_
 obtain⟨R,Y,hr⟩:=hr
 refine az' (post:=wl' (Rp.sl a') R) (fun _=>z) (fun _ _=>m' E38 z) (dM' Y) z (fun E c=>(n.mono c)) (fun v G1 Z c h=>?_) ?_
 .obtain⟨O,P,rfl,t⟩:=h
  exact⟨_,_,z,t.mono c⟩
 obtain⟨A,X,hr⟩:=hr
 refine bJ' (f:=13) (φ:=w28t' A) (fun _=>z) (fun v G1 Z c h=>?_) (fun u E c hu=>?_) ?_
 .obtain⟨l,k,j,g,rfl,e,d⟩:=h
  exact⟨_,_,_,_,z,e.mono c,d.mono c⟩
 .obtain⟨⟨O,P,V,t⟩,⟨L,M,U,x⟩,_⟩:=(show (wl' (Rp.sl a') R) E.m (u 17)/\(wl' (Rp.sl a') K) E.m (u 14)/\True from hu)
  exact⟨_,_,_,fun _=>m' E13 z,ei' X,(by simp only[V,U] <;> rfl),⟨x,t⟩⟩
 refine dW' (kk:=18) (φ:=w28' A.1) (by kernel_rfl) (fun _=>z) (fun v G1 Z c h=>?_) (fun u E c hu=>?_) ?_
 .obtain⟨p1,af,p2,ae,rfl,S,T⟩:=h
  exact⟨_,_,_,_,z,S.mono c,T.mono c⟩
 .obtain⟨⟨l,k,j,g,D,e,d⟩,_,_,_⟩:=(show (w28t' A) E.m (u 18)/\True/\True/\True from hu)
  exact⟨_,_,D,(by simp only[undFr,D] <;> rfl),z,l,k,j,g,z,e,d⟩
 refine Chain.tailU4 (d0:=19) (post0:=w28' A.1) (d1:=18) (post1:=w28t' A) (d2:=17) (post2:=wl' (Rp.sl a') R) (d3:=14) (post3:=wl' (Rp.sl a') K) (fun al aj am an ap ah F I H J=>?_)
 obtain⟨p1,af,p2,ae,rfl,S,T⟩:=F
 obtain⟨l,k,j,g,rfl,e,d⟩:=I
 obtain⟨O,P,rfl,t⟩:=H
 obtain⟨L,M,rfl,x⟩:=J
 refine yy (R' z z) z<|B' 2 z bB' z z z z z (List.all_eq_true.1 z)<|sg z z<|q'<|am'<|b'<|k' ?_
 obtain rfl:_=r:=hr
 exact bd' z (aw' (i:=2) bj' z z z) z ⟨_,_,_,_,z,S,T⟩
theorem eZ'{n1 r}(hr:(Zga n1).Ret r):Ctr prog 22 #[i' n1] (fun G=>True) (wl' (bD' .i64 8) r):=by
 refine H' (args:=[_]) (N:=63) func22 z z z fun w0 G0 ap bc=>sr<|sg z z<|nr<|yy (au' (vs:=#[(0,i' 0),(1,i' 1),(2,i' 2),(3,i' 3),(4,i' 4),(5,i' 5),(6,i' 6),(7,i' 7)]) (v:=.agg (vecG (Value.int .i64) 8 (setF (setF (setF (setF (setF (setF (setF (setF (fun _=>0) 0 0) 1 1) 2 2) 3 3) 4 4) 5 5) 6 6) 7 7)).toArray) z z (fun _=>by kernel_rfl)) z<|aF' (e:=44) (r:=(bD' .i64 8)) (vs:=#[(0,.agg (vecG (Value.int .i64) 8 (setF (setF (setF (setF (setF (setF (setF (setF (fun _=>0) 0 0) 1 1) 2 2) 3 3) 4 4) 5 5) 6 6) 7 7)).toArray)]) (cs:=(vecG (Value.int .i64) 8 (setF (setF (setF (setF (setF (setF (setF (setF (fun _=>0) 0 0) 1 1) 2 2) 3 3) 4 4) 5 5) 6 6) 7 7))++([])) ([setF (setF (setF (setF (setF (setF (setF (setF (fun _=>0) 0 0) 1 1) 2 2) 3 3) 4 4) 5 5) 6 6) 7 7]:List (Fin 8->Int)) z z z z z (by decide) (fun _=>by kernel_rfl) ⟨vecG (Value.int .i64) 8 (setF (setF (setF (setF (setF (setF (setF (setF (fun _=>0) 0 0) 1 1) 2 2) 3 3) 4 4) 5 5) 6 6) 7 7),[],z,z,z⟩ (key:=999) z (by rw[ap]; rfl) fun p1 az a8 a0=>sx0 z z<|g'<|sr<|sx0 z z<|ab' (fun (⟨L,P,O,aa⟩:(List (Fin 8->Int))×Option Addr×Nat×Mem)=>[(3,.slice P L.length O)]) (fun ⟨L,P,O,aa⟩=>Mem.le az aa/\sl (bD' .i64 8) aa P O L/\(ZdV L).Ret r) (fun ⟨L,P,O,aa⟩=>St w0 G0 aa []) ?_ ?_
 .refine y' ?_
  let ab:(((List (Fin 8->Int))))->Prop:=fun oo=>((fun ov=>match ov with|L=>ZdV L:(((List (Fin 8->Int))))->Cq ((List (Fin 8->Int)))) oo).wp (fun a=>a=r)
  replace hr:(Cq.loop _ _).wp ab:=hr
  refine ac' (Φ:=ab) (fun (⟨p,i,h,J,T⟩:(List (Fin 8->Int))×Option Addr×Nat×Int×Mem)=>((p,J):(List (Fin 8->Int))×Int)) (fun ⟨p,i,h,J,T⟩=>[(0,i' n1),(3,.slice i p.length h),(4,i' J)]) (fun ⟨p,i,h,J,T⟩=>Mem.le az T/\sl (bD' .i64 8) T i h p) (fun ⟨p,i,h,J,T⟩=>St w0 G0 T []) ⟨[setF (setF (setF (setF (setF (setF (setF (setF (fun _=>0) 0 0) 1 1) 2 2) 3 3) 4 4) 5 5) 6 6) 7 7],p1,1,0,az⟩ hr (f3 z z z) ⟨mr,a0⟩ (wk ln) ?_
  .intro aI gx hx hr
   obtain⟨p,i,h,J,T⟩:=gx
   obtain⟨ao,D⟩:=hx
   refine g'<|sr<|mv z z<|mv z z<|yy (aa' z z) z<|nx<|P' hr z (fun a6 hr=>?_) (fun a6 hr=>?_)
   .refine n'<|b'<|g'<|y'<|sr<|aF' (e:=44) (r:=(bD' .i64 8)) (vs:=#[]) (cs:=[]) ([]:List (Fin 8->Int)) z z z z z (by decide) (fun _=>by kernel_rfl) (z) (key:=999) z (by rw[ap]; rfl) fun p2 av C a2=>sx0 z z<|g'<|sr<|sx0 z z<|ab' (fun (⟨k,y,t,F,W⟩:(List (Fin 8->Int))×Option Addr×Nat×Option Ow×Mem)=>[(0,i' n1),(4,i' J),(5,.slice y k.length t)]) (fun ⟨k,y,t,F,W⟩=>Mem.le av W/\sl (bD' .i64 8) W y t k/\Tok 8 44 (.slice y k.length t) k.length F/\(ZdW J k).wp (Out aI ab)) (fun ⟨k,y,t,F,W⟩=>St w0 G0 W [(1005,F)]) ?_ ?_
    .refine y' ?_
     let ad:(((List (Fin 8->Int))))->Prop:=fun oo=>((fun ov=>match ov with|k=>ZdW J k:(((List (Fin 8->Int))))->Cq (((List (Fin 8->Int))×Int)⊕(((List (Fin 8->Int)))))) oo).wp (Out aI ab)
     replace hr:(Cq.loop _ _).wp ad:=hr
     refine ac' (Φ:=ad) (fun (⟨o,m,l,j,R,K⟩:(List (Fin 8->Int))×Option Addr×Nat×Option Ow×Int×Mem)=>((o,R):(List (Fin 8->Int))×Int)) (fun ⟨o,m,l,j,R,K⟩=>[(0,i' n1),(3,.slice i p.length h),(4,i' J),(5,.slice m o.length l),(6,i' R)]) (fun ⟨o,m,l,j,R,K⟩=>Mem.le av K/\sl (bD' .i64 8) K m l o/\Tok 8 44 (.slice m o.length l) o.length j) (fun ⟨o,m,l,j,R,K⟩=>St w0 G0 K [(1005,j)]) ⟨[],p2,0,none,0,av⟩ hr (f5 z z z z z) ⟨mr,a2,cb'⟩ (wk (lw ln)) ?_
     .intro aH gx hx hr
      obtain⟨o,m,l,j,R,K⟩:=gx
      obtain⟨q,ag,Z⟩:=hx
      refine g'<|sr<|mv z z<|mv z z<|yy (O' bm' (D.mono (mx C q)) z) z<|yy (aa' z z) z<|nx<|P' hr z (fun aZ hr=>?_) (fun aZ hr=>?_)
      .refine n'<|b'<|g'<|y'<|sr<|mv z z<|sx0 z z<|ab' (fun (⟨n,A,B,s,V⟩:(List (Fin 8->Int))×Option Addr×Nat×Option Ow×Mem)=>[(0,i' n1),(3,.slice i p.length h),(4,i' J),(5,.slice A n.length B),(6,i' R)]) (fun ⟨n,A,B,s,V⟩=>Mem.le K V/\sl (bD' .i64 8) V A B n/\Tok 8 44 (.slice A n.length B) n.length s/\(ZdX R n).wp (Out aH ad)) (fun ⟨n,A,B,s,V⟩=>St w0 G0 V [(1005,s)]) ?_ ?_
       .refine y' ?_
        let ae:(((List (Fin 8->Int))))->Prop:=fun oo=>((fun ov=>match ov with|n=>ZdX R n:(((List (Fin 8->Int))))->Cq (((List (Fin 8->Int))×Int)⊕(((List (Fin 8->Int)))))) oo).wp (Out aH ad)
        replace hr:(Cq.loop _ _).wp ae:=hr
        refine ac' (Φ:=ae) (fun (⟨c,g,f,d,M,I⟩:(List (Fin 8->Int))×Option Addr×Nat×Option Ow×Int×Mem)=>((c,M):(List (Fin 8->Int))×Int)) (fun ⟨c,g,f,d,M,I⟩=>[(0,i' n1),(3,.slice i p.length h),(4,i' J),(5,.slice g c.length f),(6,i' R),(7,i' M)]) (fun ⟨c,g,f,d,M,I⟩=>Mem.le K I/\sl (bD' .i64 8) I g f c/\Tok 8 44 (.slice g c.length f) c.length d) (fun ⟨c,g,f,d,M,I⟩=>St w0 G0 I [(1005,d)]) ⟨o,m,l,j,J,K⟩ hr (f6 z z z z z z) ⟨mr,ag,Z⟩ (w1 z) ?_
        .intro aL gx hx hr
         obtain⟨c,g,f,d,M,I⟩:=gx
         obtain⟨E,af,Y⟩:=hx
         refine g'<|sr<|mv z z<|mv z z<|yy (aa' z z) z<|nx<|P' hr z (fun a3 hr=>?_) (fun a3 hr=>?_)
         .refine n'<|b'<|g'<|y'<|sr<|mv z z<|mv z z ?_
          obtain⟨x1,aM,hr⟩:=hr
          refine yy (V' bm' sz44 (D.mono (mx (mx C q) E)) z z aM) z<|yy (ao' _ ag44 z (Q' _ _ _) (bK' (J' (Z' D aM) (mx (mx C q) E)))) z<|X' 8 z z44 z fun b1=>B' 8 z sz44 z z z (Q' _ _ _) (Q' _ _ _) (fun u hu=>Rp.one (bD' .i64 8) (G:=I) (x:=x1) (cs:=vecG (Value.int .i64) 8 x1) z u (by first|simpa using hu|simpa [Value.cells] using hu))<|nr<|mv z z<|mv z z<|mv z z<|mv z z ?_
          obtain⟨x2,aG,hr⟩:=hr
          refine yy (V' bm' sz44 (D.mono (mx (mx C q) E)) z z aG) z ?_
          obtain⟨aJ,hr⟩:=hr
          refine yy (Y0.idxA aZ' sz3 z z aJ) z<|yy (aj' sc3 z (dQ' (J' (Z' D aG) (mx (mx C q) E)) aJ)) z ?_
          obtain⟨aS,hr⟩:=hr
          refine yy (aT' aZ' sz3 z z aS) z<|by' 8 (vecG (Value.int .i64) 8 (setF x1 J.toNat (getF x2 M))).toArray z sz3 z z z (by first|(rw[Q']; omega)|(show _<(vecG _ _ _).toArray.size; rw[Q']; omega)) z (cL' _ _ _ _ _)<|nx<|g'<|sr<|mv z z<|sx0 z z<|ab' (fun (⟨H,ai⟩:(Fin 8->Int)×Mem)=>[(0,i' n1),(3,.slice i p.length h),(4,i' J),(5,.slice g c.length f),(6,i' R),(7,i' M),(8,pt0 b1)]) (fun ⟨H,ai⟩=>Mem.le I ai/\(ZdY c M H).wp (Out aL ae)) (fun ⟨H,ai⟩=>St w0 G0 ai [(8,bk0 b1 (vecG (Value.int .i64) 8 H) 44),(1005,d)]) ?_ ?_
          .refine y' ?_
           let aw:(Fin 8->Int)->Prop:=fun oo=>((fun ov=>match ov with|H=>ZdY c M H:(Fin 8->Int)->Cq (((List (Fin 8->Int))×Int)⊕(((List (Fin 8->Int)))))) oo).wp (Out aL ae)
           replace hr:(Cq.loop _ _).wp aw:=hr
           refine ac' (Φ:=aw) (fun (⟨X,Q,S⟩:Int×(Fin 8->Int)×Mem)=>((X,Q):Int×(Fin 8->Int))) (fun ⟨X,Q,S⟩=>[(0,i' n1),(3,.slice i p.length h),(4,i' J),(5,.slice g c.length f),(6,i' R),(7,i' M),(8,pt0 b1),(9,i' X)]) (fun ⟨X,Q,S⟩=>Mem.le I S) (fun ⟨X,Q,S⟩=>St w0 G0 S [(8,bk0 b1 (vecG (Value.int .i64) 8 Q) 44),(1005,d)]) ⟨M,setF x1 J.toNat (getF x2 M),I⟩ hr (f8 z z z z z z z z) mr (w2 z z) ?_
           .intro be gx hx hr
            obtain⟨X,Q,S⟩:=gx
            have U:=hx
            refine g'<|sr<|mv z z<|mv z z<|yy (aS' z z) z<|nx<|P' hr z (fun aY hr=>?_) (fun aY hr=>?_)
            .refine n'<|b'<|g'<|y'<|x'<|mv z z<|mv z z<|mv z z<|mv z z<|yy (ba' z z) z ?_
             obtain⟨x3,aK,hr⟩:=hr
             refine yy (V' bm' sz44 (D.mono (mx (mx (mx C q) E) U)) z z aK) z ?_
             obtain⟨aN,hr⟩:=hr
             refine yy (Y0.idxA aZ' sz3 z z aN) z<|yy (aj' sc3 z (dQ' (J' (Z' D aK) (mx (mx (mx C q) E) U)) aN)) z ?_
             obtain⟨aX,hr⟩:=hr
             refine yy (aT' aZ' sz3 z z aX) z<|by' 8 (vecG (Value.int .i64) 8 (setF Q X.toNat (getF x3 (i64.wrap (X-1))))).toArray z sz3 z z z (by first|(rw[Q']; omega)|(show _<(vecG _ _ _).toArray.size; rw[Q']; omega)) z (cL' _ _ _ _ _)<|q'<|F'<|b'<|x'<|mv z z<|yy (ba' z z) z<|sg z z<|q'<|T' ⟨i64.wrap (X-1),setF Q X.toNat (getF x3 (i64.wrap (X-1))),S⟩ hr U (f8 z z z z z z z z) (w2 z z)
            refine ae'<|h'<|h'<|I'<|af' ⟨Q,S⟩ ⟨U,hr⟩ (f7 z z z z z z z) (w2 z z)
          rintro⟨H,ai⟩ ⟨ar,hr⟩
          refine b'<|x'<|mv z z<|yy (D' 8 ag44 z z (Q' _ _ _)) z<|aF' (e:=44) (r:=(bD' .i64 8)) (vs:=#[(0,.agg (vecG (Value.int .i64) 8 H).toArray)]) (cs:=(vecG (Value.int .i64) 8 H)++([])) ([H]:List (Fin 8->Int)) z z z z z (by decide) (fun _=>by kernel_rfl) ⟨vecG (Value.int .i64) 8 H,[],z,z,z⟩ (key:=999) z (by rw[ap]; rfl) (fun p3 bd aq a1=>?_)
          obtain⟨aP,hr⟩:=hr
          refine bb' (r:=(bD' .i64 8)) 1005 z z bm' el44 z (by decide) z z (af.mono (mx ar aq)) z (by rw[ap]; rfl) Y a1 aP fun p4 aW aQ aT aE aV aO=>sg z z<|q'<|F'<|b'<|x'<|mv z z<|yy (W' z z) z<|sg z z<|q'<|T' ⟨(c++[H]),p4,aW,aQ,i64.wrap (M+1),aT⟩ hr ⟨(mx (mx (mx E ar) aq) aE),aV,aO⟩ (f6 z z z z z z) (w1 z)
         refine ae'<|h'<|h'<|I'<|af' ⟨c,g,f,d,I⟩ ⟨E,af,Y,hr⟩ (f5 z z z z z) (w1 z)
       rintro⟨n,A,B,s,V⟩ ⟨aC,ax,au,hr⟩
       refine F'<|b'<|x'<|mv z z<|yy (W' z z) z<|sg z z<|q'<|T' ⟨n,A,B,s,i64.wrap (R+1),V⟩ hr ⟨(mx q aC),ax,au⟩ (f5 z z z z z) (w1 z)
      refine ae'<|h'<|h'<|I'<|af' ⟨o,m,l,j,K⟩ ⟨q,ag,Z,hr⟩ (f3 z z z) (w1 z)
    rintro⟨k,y,t,F,W⟩ ⟨aA,ay,aR,hr⟩
    refine b'<|x'<|mv z z<|sg z z<|q'<|F'<|b'<|x'<|mv z z<|yy (W' z z) z<|sg z z<|q'<|T' ⟨k,y,t,i64.wrap (J+1),W⟩ hr ⟨(mx (mx ao C) aA),ay⟩ (f3 z z z) (wk ln)
   refine ae'<|h'<|h'<|I'<|af' ⟨p,i,h,T⟩ ⟨ao,D,hr⟩ (f1 z) (wk ln)
 rintro⟨L,P,O,aa⟩ ⟨a7,aF,hr⟩
 refine b'<|sr<|mv z z<|sx0 z z<|k' ?_
 obtain rfl:_=r:=hr
 exact j' z z ⟨_,_,z,aF⟩
theorem eE'{c r}(hr:(Zbr c).Ret r):Ctr prog 113 #[.agg (vecG (Value.int .i64) 8 c).toArray] (fun G=>True) (fun G v=>v = .bool r):=by
 refine H' (args:=[_]) (N:=31) func113 z z z fun y j M H=>sr<|ai' 1 z z z fun q=>sg z z<|nr<|yy (au' (vs:=#[]) (v:=.agg (vecG Value.bool 8 (fun _=>false)).toArray) z z (fun _=>by kernel_rfl)) z<|X' 3 z z111 z fun B=>B' 3 z sz111 z z z (Q' _ _ _) (Q' _ _ _) (fun u A=>Rp.one (Rp.vecB 8) (G:=j) (x:=(fun _=>false)) (cs:=vecG Value.bool 8 (fun _=>false)) z u (by first|simpa using A|simpa [Value.cells] using A))<|nx<|g'<|sr<|sx0 z z<|ab' (fun (h:Mem)=>match h with|g=>[]) (fun (h:Mem)=>match h with|g=>Mem.le j g/\(ZaB).Ret r) (fun (h:Mem)=>match h with|g=>St y j g []) ?_ ?_
 .refine y' ?_
  let k:(Bool⊕Unit)->Prop:=fun J=>((fun I=>match I with | .inl rv1=>Cq.ret rv1 | .inr ()=>ZaB:(Bool⊕Unit)->Cq Bool) J).wp (fun a=>a=r)
  replace hr:(Cq.loop _ _).wp k:=hr
  refine ac' (Φ:=k) (fun (⟨f,d,e⟩:Int×(Fin 8->Bool)×Mem)=>((f,d):Int×(Fin 8->Bool))) (fun ⟨f,d,e⟩=>[(1,pt0 q),(3,pt0 B),(4,i' f)]) (fun ⟨f,d,e⟩=>Mem.le j e) (fun ⟨f,d,e⟩=>St y j e [(1,bk0 q (vecG (Value.int .i64) 8 c) 44),(3,bk0 B (vecG Value.bool 8 d) 111)]) ⟨0,(fun _=>false),j⟩ hr (f3 z z z) mr (w2 z z) ?_
  .intro L h K hr
   obtain⟨f,d,e⟩:=h
   have i:=K
   refine g'<|sr<|mv z z<|yy (aa' z z) z<|nx<|P' hr z (fun E hr=>?_) (fun E hr=>?_)
   .refine n'<|b'<|g'<|y'<|g'<|sr<|mv z z ?_
    obtain⟨l,hr⟩:=hr
    refine yy (aT' aZ' sz3 z z l) z<|yy (o' 1 sc3 z z (bh' _ _ _ l)) z<|aE' hr z (aa' z z) z (fun D hr=>?_) (fun D hr=>?_)
    .refine mv z z<|sn4 z<|yy (w' z z) z<|mv z z<|sn5 z<|yy (w' z z) z<|nx<|aB' z<|sr<|sx0 z z<|k'<|f'<|A'<|f'<|f'<|A'<|an'<|f' (k0' hr z z)
    refine mv z z<|gy z z (c' z) z ?_
    obtain⟨n,hr⟩:=hr
    refine gy z z (aT' aZ' sz3 z z n) z<|gy z z (o' 1 sc3 z z (bh' _ _ _ n)) z<|aE' hr (E' z z) (bH' z z) z (fun C hr=>?_) (fun C hr=>?_)
    .refine yy (t' z z) z<|mv z z<|sn5 z<|yy (w' z z) z<|nx<|aB' z<|sr<|sx0 z z<|k'<|f'<|A'<|f'<|f'<|A'<|an'<|f' (k0' hr z z)
    refine yy (t' z z) z<|mv z z<|gy z z (c' z) z ?_
    obtain⟨p,hr⟩:=hr
    refine gy z z (aT' aZ' sz3 z z p) z<|gy z z (o' 1 sc3 z z (bh' _ _ _ p)) z ?_
    obtain⟨o,hr⟩:=hr
    refine gy z z (aT' cy' sz4 z z o) z<|gy z z (o' 3 sc4 z z (bh' _ _ _ o)) z<|yy (t' z z) z<|nx<|aK' hr z (fun t hr=>?_) (fun t hr=>?_)
    .exact (show False from hr).elim
    refine n'<|b'<|x'<|mv z z ?_
    obtain⟨m,hr⟩:=hr
    refine yy (aT' aZ' sz3 z z m) z<|yy (o' 1 sc3 z z (bh' _ _ _ m)) z ?_
    obtain⟨s,hr⟩:=hr
    refine yy (aT' cy' sz4 z z s) z<|by' 3 (vecG Value.bool 8 (setF d ((getF c f).toNat) true)).toArray z sz4 z z z (by first|(rw[Q']; omega)|(show _<(vecG _ _ _).toArray.size; rw[Q']; omega)) z (cL' _ _ _ _ _)<|q'<|F'<|b'<|x'<|mv z z<|yy (W' z z) z<|sg z z<|q'<|T' ⟨i64.wrap (f+1),setF d ((getF c f).toNat) true,e⟩ hr i (f3 z z z) (w2 z z)
   refine ae'<|h'<|h'<|I'<|af' e ⟨i,hr⟩ fn (wk ln)
 rintro g ⟨F,hr⟩
 refine b'<|sr<|sx0 z z<|k' (k0' hr z z)
theorem eB'{Q n L R r}(hr:(ZcR Q n).Ret r):Ctr prog 60 #[.slice L Q.length R,.agg (vecG (Value.int .i64) 8 n).toArray] (fun G=>sl a' G L R Q) (wlt' a' r):=by
 refine H' (args:=[_,_]) (N:=47) func60 z z z (fun w0 Y ag ar=>?_)
 have M:=ar
 refine sr<|ai' 3 z z z fun U=>sg z z<|sx0 z z<|g'<|sr<|yy (D' 3 ag44 z z (Q' _ _ _)) z ?_
 obtain⟨aN,ao,hr⟩:=hr
 refine K' z z (m' E113 z) (eE' ao) z (trivial)<|yy (aA' z) z<|nx<|aK' hr z (fun aG hr=>?_) (fun aG hr=>?_)
 .exact (show False from hr).elim
 refine n'<|b'<|sr<|aF' (e:=119) (r:=a') (vs:=#[]) (cs:=[]) ([]:List Za) z z z z z (by decide) (fun _=>by kernel_rfl) (z) (key:=999) z (by rw[ag]; rfl) fun p2 W t aC=>sx0 z z<|g'<|sr<|sx0 z z<|ab' (fun (⟨q,y,s,I⟩:(List Za)×Option Addr×Nat×Mem)=>[(6,.slice y q.length s)]) (fun ⟨q,y,s,I⟩=>Mem.le W I/\sl a' I y s q/\(Zcz q).Ret r) (fun ⟨q,y,s,I⟩=>St w0 Y I []) ?_ ?_
 .refine y' ?_
  let J:(List Za)->Prop:=fun oo=>((fun ov=>match ov with|q=>Zcz q:(List Za)->Cq ((List Za)×Int)) oo).wp (fun a=>a=r)
  replace hr:(Cq.loop _ _).wp J:=hr
  refine ac' (Φ:=J) (fun (⟨i,l,k,H,p⟩:(List Za)×Option Addr×Nat×Int×Mem)=>((i,H):(List Za)×Int)) (fun ⟨i,l,k,H,p⟩=>[(0,.slice L Q.length R),(3,pt0 U),(6,.slice l i.length k),(7,i' H)]) (fun ⟨i,l,k,H,p⟩=>Mem.le W p/\sl a' p l k i) (fun ⟨i,l,k,H,p⟩=>St w0 Y p [(3,bk0 U (vecG (Value.int .i64) 8 n) 44)]) ⟨[],p2,0,0,W⟩ hr (f4 z z z z) ⟨mr,aC⟩ (w1 z) ?_
  .intro af gx hx hr
   obtain⟨i,l,k,H,p⟩:=gx
   obtain⟨o,S⟩:=hx
   refine g'<|sr<|mv z z<|mv z z<|yy (O' C' (M.mono (mx t o)) z) z<|yy (aa' z z) z<|nx<|P' hr z (fun aA hr=>?_) (fun aA hr=>?_)
   .refine n'<|b'<|g'<|y'<|sr<|yy (au' (vs:=#[]) (v:=.agg (vecG (Value.int .i64) 8 (fun _=>0)).toArray) z z (fun _=>by kernel_rfl)) z<|X' 8 z z68 z fun b2=>B' 8 z sz68 z z z (Q' _ _ _) (Q' _ _ _) (fun u hu=>Rp.one (bD' .i64 8) (G:=p) (x:=(fun _=>0)) (cs:=vecG (Value.int .i64) 8 (fun _=>0)) z u (by first|simpa using hu|simpa [Value.cells] using hu))<|nx<|g'<|sr<|sx0 z z<|ab' (fun (⟨m,K⟩:(Fin 8->Int)×Mem)=>[(0,.slice L Q.length R),(3,pt0 U),(6,.slice l i.length k),(7,i' H),(8,pt0 b2)]) (fun ⟨m,K⟩=>Mem.le p K/\(ZcA Q i H m).wp (Out af J)) (fun ⟨m,K⟩=>St w0 Y K [(3,bk0 U (vecG (Value.int .i64) 8 n) 44),(8,bk0 b2 (vecG (Value.int .i64) 8 m) 68)]) ?_ ?_
    .refine y' ?_
     let X:(Fin 8->Int)->Prop:=fun oo=>((fun ov=>match ov with|m=>ZcA Q i H m:(Fin 8->Int)->Cq (((List Za)×Int)⊕(List Za))) oo).wp (Out af J)
     replace hr:(Cq.loop _ _).wp X:=hr
     refine ac' (Φ:=X) (fun (⟨F,A,C⟩:Int×(Fin 8->Int)×Mem)=>((F,A):Int×(Fin 8->Int))) (fun ⟨F,A,C⟩=>[(0,.slice L Q.length R),(3,pt0 U),(6,.slice l i.length k),(7,i' H),(8,pt0 b2),(9,i' F)]) (fun ⟨F,A,C⟩=>Mem.le p C) (fun ⟨F,A,C⟩=>St w0 Y C [(3,bk0 U (vecG (Value.int .i64) 8 n) 44),(8,bk0 b2 (vecG (Value.int .i64) 8 A) 68)]) ⟨0,(fun _=>0),p⟩ hr (f6 z z z z z z) mr (w2 z z) ?_
     .intro aL gx hx hr
      obtain⟨F,A,C⟩:=gx
      have E:=hx
      refine g'<|sr<|mv z z<|yy (aa' z z) z<|nx<|P' hr z (fun aD hr=>?_) (fun aD hr=>?_)
      .refine n'<|b'<|g'<|y'<|ak' [ff,ff,ff,ff,ff,ff,ff,ff,ff,ff] mix (by kernel_rfl) fun hb=>cn (fun _ h=>c' z) ?_
       obtain⟨ah,hr⟩:=hr
       refine cn (fun _ h=>aT' aZ' sz3 z z ah)<|cn (fun _ h=>o' 3 sc3 z z (bh' _ _ _ ah))<|cn (fun _ h=>c' z)<|cn (fun _ h=>c' z)<|cn (fun _ h=>c' z) ?_
       obtain⟨x2,ad,hr⟩:=hr
       refine cn (fun _ h=>V' C' aW' ((M.mono (mx (mx t o) E)).mono h) z z ad)<|cn (fun _ h=>aM' z) ?_
       obtain⟨ae,hr⟩:=hr
       refine cn (fun _ h=>Y0.idxA ar' sz3 z z ae)<|cn (fun _ h=>aj' sc3 z (dQ' (J' (J' (bq' (aG' (Z' M ad))) (mx (mx t o) E)) h) ae))<|ah' hb ?_
       obtain⟨aF,hr⟩:=hr
       refine yy (aT' ar' sz3 z z aF) z<|by' 8 (vecG (Value.int .i64) 8 (setF A ((getF n F).toNat) (getF x2.m F))).toArray z sz3 z z z (by first|(rw[Q']; omega)|(show _<(vecG _ _ _).toArray.size; rw[Q']; omega)) z (cL' _ _ _ _ _)<|q'<|am'<|F'<|b'<|x'<|mv z z<|yy (W' z z) z<|sg z z<|q'<|T' ⟨i64.wrap (F+1),setF A ((getF n F).toNat) (getF x2.m F),C⟩ hr E (f6 z z z z z z) (w2 z z)
      refine ae'<|h'<|h'<|I'<|af' ⟨A,C⟩ ⟨E,hr⟩ (f5 z z z z z) (w2 z z)
    rintro⟨m,K⟩ ⟨D,hr⟩
    refine b'<|ak' [tt,ff,ff,ff,ff,ff,ff] mix (by kernel_rfl) fun hb=>cv' z (c' z)<|cn (fun _ h=>c' z)<|cn (fun _ h=>c' z) ?_
    obtain⟨B,ai,hr⟩:=hr
    refine cn (fun _ h=>V' C' aW' ((M.mono (mx (mx t o) D)).mono h) z z ai)<|cn (fun _ h=>aV' z) ?_
    obtain⟨d,f,g,c,ax,P,O⟩:=ce' (J' (br' (aG' (Z' M ai))) (mx (mx t o) D))
    refine cn (fun _ h=>ao' _ bc' z z (fun j v hv=>h _ _ _ (ax j v hv)))<|cn (fun _ h=>D' 8 bo' z z (Q' _ _ _))<|ah' hb<|yy (au' (vs:=#[(0,.agg ((v59' B.c d f g c)).toArray),(1,.agg (vecG (Value.int .i64) 8 m).toArray)]) (v:=.agg (((v59' B.c d f g c):List Value)++(vecG (Value.int .i64) 8 m)).toArray) z z (fun _=>by kernel_rfl)) z<|aF' (e:=119) (r:=a') (vs:=#[(0,.agg (((v59' B.c d f g c):List Value)++(vecG (Value.int .i64) 8 m)).toArray)]) (cs:=(((v59' B.c d f g c):List Value)++(vecG (Value.int .i64) 8 m))++([])) ([(Za.mk B.c m)]:List Za) z z z z z (by decide) (fun _=>by kernel_rfl) ⟨((v59' B.c d f g c):List Value)++(vecG (Value.int .i64) 8 m),[],z,⟨(v59' B.c d f g c),vecG (Value.int .i64) 8 m,z,⟨(v57' B.c.num d f),(v57' B.c.den g c),z,⟨[.bool B.c.num.neg],[.slice d B.c.num.mag.length f],z,z,⟨_,z,P⟩⟩,⟨[.bool B.c.den.neg],[.slice g B.c.den.mag.length c],z,z,⟨_,z,O⟩⟩⟩,z⟩,z⟩ (key:=999) z (by rw[ag]; rfl) (fun p3 aM T aB=>?_)
    obtain⟨az,ap,hr⟩:=hr
    refine N' z z (m' E41 z) (dz' ap) z (⟨(S.mono (mx D T)),aB⟩) (fun aJ aw Z V=>?_)
    obtain⟨aq,ak,rfl,av⟩:=V
    refine sg z z<|q'<|am'<|F'<|b'<|x'<|mv z z<|yy (W' z z) z<|sg z z<|q'<|T' ⟨az,aq,ak,i64.wrap (H+1),aw⟩ hr ⟨(mx (mx (mx o D) T) Z),av⟩ (f4 z z z z) (w1 z)
   refine ae'<|h'<|h'<|I'<|af' ⟨i,l,k,p⟩ ⟨o,S,hr⟩ (f1 z) (wk ln)
 rintro⟨q,y,s,I⟩ ⟨aH,ac,hr⟩
 refine b'<|sr<|mv z z<|sg z z<|sx0 z z<|k' ?_
 obtain rfl:_=r:=hr
 exact bd' z z z ⟨_,_,z,ac⟩
theorem cQ'{n R l m j g r}(hr:(Zb8 n R).Ret r):Ctr prog 23 #[.agg ((v28' n l m j g)).toArray,.agg (vecG (Value.int .i64) 8 R).toArray] (fun G=>sl (Rp.sl a') G l m n.eqs/\sl (Rp.sl a') G j g n.neqs) (w28' r):=by
 refine H' (args:=[_,_]) (N:=68) func23 z z z (fun w0 G0 ah br=>?_)
 obtain⟨Q,K⟩:=br
 refine sr<|ai' 2 z z z fun b1=>ai' 3 z z z fun b2=>X' 4 z z28 z fun b3=>nr<|aF' (e:=65) (r:=(Rp.sl a')) (vs:=#[]) (cs:=[]) ([]:List (List Za)) z z z z z (by decide) (fun _=>by kernel_rfl) (z) (key:=999) z (by rw[ah]; rfl) fun p1 b8 P bB=>aF' (e:=65) (r:=(Rp.sl a')) (vs:=#[]) (cs:=[]) ([]:List (List Za)) z z z z z (by decide) (fun _=>by kernel_rfl) (z) (key:=999) z (by rw[ah]; rfl) fun p2 aP I bD=>sg z z<|sx0 z z<|g'<|sr<|sx0 z z<|ab' (fun (⟨k,F,D,o,W⟩:(List (List Za))×Option Addr×Nat×Option Ow×Mem)=>[(2,pt0 b1),(3,pt0 b2),(4,pt0 b3),(5,.slice F k.length D),(6,.slice p2 0 0)]) (fun ⟨k,F,D,o,W⟩=>Mem.le aP W/\sl (Rp.sl a') W F D k/\Tok 1 65 (.slice F k.length D) k.length o/\(ZaX n R k).Ret r) (fun ⟨k,F,D,o,W⟩=>St w0 G0 W [(2,bk0 b1 (v28' n l m j g) 28),(3,bk0 b2 (vecG (Value.int .i64) 8 R) 44),(4,bk0 b3 ([i' 0,.slice none 0 0,.slice none 0 0]) 28),(1005,o)]) ?_ ?_
 .refine y' ?_
  let aS:(((List (List Za))))->Prop:=fun oo=>((fun ov=>match ov with|k=>ZaX n R k:(((List (List Za))))->Cq Zc) oo).wp (fun a=>a=r)
  replace hr:(Cq.loop _ _).wp aS:=hr
  refine ac' (Φ:=aS) (fun (⟨t,C,A,y,S,aa⟩:(List (List Za))×Option Addr×Nat×Option Ow×Int×Mem)=>((t,S):(List (List Za))×Int)) (fun ⟨t,C,A,y,S,aa⟩=>[(2,pt0 b1),(3,pt0 b2),(4,pt0 b3),(5,.slice C t.length A),(6,.slice p2 0 0),(7,i' S)]) (fun ⟨t,C,A,y,S,aa⟩=>Mem.le aP aa/\sl (Rp.sl a') aa C A t/\Tok 1 65 (.slice C t.length A) t.length y) (fun ⟨t,C,A,y,S,aa⟩=>St w0 G0 aa [(2,bk0 b1 (v28' n l m j g) 28),(3,bk0 b2 (vecG (Value.int .i64) 8 R) 44),(4,bk0 b3 ([i' 0,.slice none 0 0,.slice none 0 0]) 28),(1005,y)]) ⟨[],p1,0,none,0,aP⟩ hr (f6 z z z z z z) ⟨mr,(bB.mono I),cb'⟩ (wk (lc z (lc z (lc z (lw ln))))) ?_
  .intro bX gx hx hr
   obtain⟨t,C,A,y,S,aa⟩:=gx
   obtain⟨X,aF,au⟩:=hx
   refine g'<|sr<|mv z z<|yy (cR' z) z<|yy (o' 2 sc25 z z z) z<|yy (O' M' (Q.mono (mx (mx P I) X)) z) z<|yy (aa' z z) z<|nx<|P' hr z (fun bA hr=>?_) (fun bA hr=>?_)
   .refine n'<|b'<|g'<|y'<|g'<|ak' [ff,ff,ff,ff,ff,ff,ff,ff,ff,tt] mix (by kernel_rfl) fun hb=>cn (fun _ f=>cR' z)<|cn (fun _ f=>o' 2 sc25 z z z)<|cn (fun _ f=>c' z) ?_
    obtain⟨x2,bb,hr⟩:=hr
    refine cn (fun _ f=>V' M' cj' ((Q.mono (mx (mx P I) X)).mono f) z z bb) ?_
    obtain⟨p8,cc,bG,bv⟩:=bl' (J' (Z' Q bb) (mx (mx P I) X))
    refine cn (fun _ f=>aj' bU' z (f _ _ _ bG))<|cn (fun _ f=>D' 3 ag44 z z (Q' _ _ _)) ?_
    obtain⟨x,bq,hr⟩:=hr
    refine az' (post:=wlt' a' x) (fun _=>z) (fun _ _=>m' E60 z) (eB' bq) z (fun Y f=>(bv.mono f)) (fun v G1 G2 f h=>?_) ?_
    .obtain⟨ad,af,rfl,T⟩:=h
     exact⟨_,_,z,T.mono f⟩
    refine bF' (φ:=wlt' a' x) (fun _=>z) (fun v G1 G2 f h=>?_) (fun u Y f hu=>?_) ?_
    .obtain⟨p9,aC,rfl,ao⟩:=h
     exact⟨_,_,z,ao.mono f⟩
    .obtain⟨⟨ad,af,a6,T⟩,_⟩:=(show (wlt' a' x) Y.m (u 31)/\True from hu)
     simp only[undFr,a6]
     exact⟨_,c' z,ad,af,z,T⟩
    refine bF' (φ:=wl' a' x.1) (fun _=>z) (fun v G1 G2 f h=>?_) (fun u Y f hu=>?_) ?_
    .obtain⟨aA,aj,rfl,aw⟩:=h
     exact⟨_,_,z,aw.mono f⟩
    .obtain⟨⟨p9,aC,al,ao⟩,_,_⟩:=(show (wlt' a' x) Y.m (u 24)/\True/\True from hu)
     simp only[undFr,al]
     exact⟨_,R' z z,p9,aC,z,ao⟩
    refine cI' (c:=i' x.2) (fun _=>z) (fun u Y f hu=>?_) ?_
    .obtain⟨_,⟨p9,aC,al,ao⟩,_,_⟩:=(show True/\(wlt' a' x) Y.m (u 24)/\True/\True from hu)
     simp only[undFr,al]
     exact R' z z
    refine cx' (d:=32) (post:=wl' a' x.1) (d':=24) (post':=wlt' a' x) (d'':=31) (post'':=wlt' a' x) (fun bR bO bP b0 az aO aH aK=>?_)
    obtain⟨aA,aj,rfl,aw⟩:=aO
    obtain⟨p9,aC,rfl,ao⟩:=aH
    obtain⟨ad,af,rfl,T⟩:=aK
    refine sg z z<|sg z z<|q'<|am'<|b'<|x'<|mv z z<|mv z z<|aF' (e:=65) (r:=(Rp.sl a')) (vs:=#[(0,.slice aA x.1.length aj)]) (cs:=[.slice aA x.1.length aj]++([])) ([x.1]:List (List Za)) z z z z z (by decide) (fun _=>by kernel_rfl) ⟨[.slice aA x.1.length aj],[],z,⟨_,z,aw⟩,z⟩ (key:=999) z (by rw[ah]; rfl) (fun cb b6 ax bt=>?_)
    obtain⟨bp,hr⟩:=hr
    refine bb' (r:=(Rp.sl a')) 1005 z z M' el65 z (by decide) z z (aF.mono (mx az ax)) z (by rw[ah]; rfl) au bt bp fun bH bu a2 bE a9 bk aX=>sg z z<|q'<|F'<|b'<|x'<|mv z z<|yy (W' z z) z<|sg z z<|q'<|T' ⟨(t++[x.1]),bH,bu,a2,i64.wrap (S+1),bE⟩ hr ⟨(mx (mx (mx X az) ax) a9),bk,aX⟩ (f6 z z z z z z) (w4 z z z z)
   refine ae'<|h'<|h'<|I'<|af' ⟨t,C,A,y,aa⟩ ⟨X,aF,au,hr⟩ (f5 z z z z z) (w4 z z z z)
 rintro⟨k,F,D,o,W⟩ ⟨ab,a8,bF,hr⟩
 refine b'<|g'<|sr<|sx0 z z<|ab' (fun (⟨H,M,O,L,ai⟩:(List (List Za))×Option Addr×Nat×Option Ow×Mem)=>[(2,pt0 b1),(4,pt0 b3),(5,.slice F k.length D),(6,.slice M H.length O)]) (fun ⟨H,M,O,L,ai⟩=>Mem.le W ai/\sl (Rp.sl a') ai M O H/\Tok 1 65 (.slice M H.length O) H.length L/\(ZaW n k H).Ret r) (fun ⟨H,M,O,L,ai⟩=>St w0 G0 ai [(2,bk0 b1 (v28' n l m j g) 28),(4,bk0 b3 ([i' 0,.slice none 0 0,.slice none 0 0]) 28),(1005,o),(1006,L)]) ?_ ?_
 .refine y' ?_
  let aR:(((List (List Za))))->Prop:=fun oo=>((fun ov=>match ov with|H=>ZaW n k H:(((List (List Za))))->Cq Zc) oo).wp (fun a=>a=r)
  replace hr:(Cq.loop _ _).wp aR:=hr
  refine ac' (Φ:=aR) (fun (⟨p,E,B,s,J,Z⟩:(List (List Za))×Option Addr×Nat×Option Ow×Int×Mem)=>((p,J):(List (List Za))×Int)) (fun ⟨p,E,B,s,J,Z⟩=>[(2,pt0 b1),(3,pt0 b2),(4,pt0 b3),(5,.slice F k.length D),(6,.slice E p.length B),(10,i' J)]) (fun ⟨p,E,B,s,J,Z⟩=>Mem.le W Z/\sl (Rp.sl a') Z E B p/\Tok 1 65 (.slice E p.length B) p.length s) (fun ⟨p,E,B,s,J,Z⟩=>St w0 G0 Z [(2,bk0 b1 (v28' n l m j g) 28),(3,bk0 b2 (vecG (Value.int .i64) 8 R) 44),(4,bk0 b3 ([i' 0,.slice none 0 0,.slice none 0 0]) 28),(1005,o),(1006,s)]) ⟨[],p2,0,none,0,W⟩ hr (f6 z z z z z z) ⟨mr,(bD.mono ab),cb'⟩ (wk (lc z (lc z (lc z (lc z (lw ln)))))) ?_
  .intro bY gx hx hr
   obtain⟨p,E,B,s,J,Z⟩:=gx
   obtain⟨U,aE,ap⟩:=hx
   refine g'<|sr<|mv z z<|yy (cB' z) z<|yy (o' 2 sc25 z z z) z<|yy (O' M' (K.mono (mx (mx (mx P I) ab) U)) z) z<|yy (aa' z z) z<|nx<|P' hr z (fun bL hr=>?_) (fun bL hr=>?_)
   .refine n'<|b'<|g'<|y'<|g'<|ak' [ff,ff,ff,ff,ff,ff,ff,ff,ff,tt] mix (by kernel_rfl) fun hb=>cn (fun _ f=>cB' z)<|cn (fun _ f=>o' 2 sc25 z z z)<|cn (fun _ f=>c' z) ?_
    obtain⟨x1,be,hr⟩:=hr
    refine cn (fun _ f=>V' M' cj' ((K.mono (mx (mx (mx P I) ab) U)).mono f) z z be) ?_
    obtain⟨p3,b5,bK,bC⟩:=bl' (J' (Z' K be) (mx (mx (mx P I) ab) U))
    refine cn (fun _ f=>aj' bU' z (f _ _ _ bK))<|cn (fun _ f=>D' 3 ag44 z z (Q' _ _ _)) ?_
    obtain⟨q,bn,hr⟩:=hr
    refine az' (post:=wlt' a' q) (fun _=>z) (fun _ _=>m' E60 z) (eB' bn) z (fun Y f=>(bC.mono f)) (fun v G1 G2 f h=>?_) ?_
    .obtain⟨ag,ac,rfl,V⟩:=h
     exact⟨_,_,z,V.mono f⟩
    refine bF' (φ:=wlt' a' q) (fun _=>z) (fun v G1 G2 f h=>?_) (fun u Y f hu=>?_) ?_
    .obtain⟨p4,aB,rfl,aq⟩:=h
     exact⟨_,_,z,aq.mono f⟩
    .obtain⟨⟨ag,ac,a0,V⟩,_⟩:=(show (wlt' a' q) Y.m (u 52)/\True from hu)
     simp only[undFr,a0]
     exact⟨_,c' z,ag,ac,z,V⟩
    refine bF' (φ:=wl' a' q.1) (fun _=>z) (fun v G1 G2 f h=>?_) (fun u Y f hu=>?_) ?_
    .obtain⟨p5,ay,rfl,aT⟩:=h
     exact⟨_,_,z,aT.mono f⟩
    .obtain⟨⟨p4,aB,ak,aq⟩,_,_⟩:=(show (wlt' a' q) Y.m (u 45)/\True/\True from hu)
     simp only[undFr,ak]
     exact⟨_,R' z z,p4,aB,z,aq⟩
    refine cI' (c:=i' q.2) (fun _=>z) (fun u Y f hu=>?_) ?_
    .obtain⟨_,⟨p4,aB,ak,aq⟩,_,_⟩:=(show True/\(wlt' a' q) Y.m (u 45)/\True/\True from hu)
     simp only[undFr,ak]
     exact R' z z
    refine cx' (d:=53) (post:=wl' a' q.1) (d':=45) (post':=wlt' a' q) (d'':=52) (post'':=wlt' a' q) (fun bS bQ bT bZ aG aJ aL aN=>?_)
    obtain⟨p5,ay,rfl,aT⟩:=aJ
    obtain⟨p4,aB,rfl,aq⟩:=aL
    obtain⟨ag,ac,rfl,V⟩:=aN
    refine sg z z<|sg z z<|q'<|am'<|b'<|x'<|mv z z<|mv z z<|aF' (e:=65) (r:=(Rp.sl a')) (vs:=#[(0,.slice p5 q.1.length ay)]) (cs:=[.slice p5 q.1.length ay]++([])) ([q.1]:List (List Za)) z z z z z (by decide) (fun _=>by kernel_rfl) ⟨[.slice p5 q.1.length ay],[],z,⟨_,z,aT⟩,z⟩ (key:=999) z (by rw[ah]; rfl) (fun p6 ca aD bw=>?_)
    obtain⟨bj,hr⟩:=hr
    refine bb' (r:=(Rp.sl a')) 1006 z z M' el65 z (by decide) z z (aE.mono (mx aG aD)) z (by rw[ah]; rfl) ap bw bj fun p7 bJ bi bI a3 bz bo=>sg z z<|q'<|F'<|b'<|x'<|mv z z<|yy (W' z z) z<|sg z z<|q'<|T' ⟨(p++[q.1]),p7,bJ,bi,i64.wrap (J+1),bI⟩ hr ⟨(mx (mx (mx U aG) aD) a3),bz,bo⟩ (f6 z z z z z z) (w5 z z z z z)
   refine ae'<|h'<|h'<|I'<|af' ⟨p,E,B,s,Z⟩ ⟨U,aE,ap,hr⟩ (f4 z z z z) (w4 z z z z)
 rintro⟨H,M,O,L,ai⟩ ⟨aW,a1,bx,hr⟩
 refine b'<|sr<|yy (co' z) z<|yy (o' 2 sc3 z z z) z<|mv z z<|mv z z ?_
 obtain⟨b9,bm,hr⟩:=hr
 refine N' z z (m' E13 z) (ei' bm) z (⟨(a8.mono aW),a1⟩) (fun bV b7 bM aI=>?_)
 obtain⟨bc,bd,a7,aV,rfl,av,am⟩:=aI
 refine mv z z<|yy (R' z z) z<|yy (R' z z) z<|X' 13 z z28 z fun b4=>B' 13 z bB' z z z z z (List.all_eq_true.1 z)<|sg z z<|nr<|yy (D' 13 bj' z z z) z<|B' 4 z bB' z z z z z (List.all_eq_true.1 z)<|nx<|k' ?_
 obtain rfl:_=r:=hr
 exact j' z (aw' (i:=4) bj' z z z) ⟨_,_,_,_,z,av,am⟩
theorem fJ'{i n c f e r}(hr:(Zfm i n c).Ret r):Ctr prog 197 #[.slice f i.length e,i' n,i' c] (fun G=>sl a' G f e i) (fun G v=>v = .bool r):=by
 refine H' (args:=[_,_,_]) (N:=24) func197 z z z (fun u t s j=>?_)
 have d:=j
 refine sr<|sg z z<|nr<|mv z z ?_
 obtain⟨l,k,hr⟩:=hr
 refine K' z z (m' E156 z) (eY' k) z (d) ?_
 cases l
 .refine mv z z<|sn7 z<|yy (t' z z) z<|mv z z<|sn4 z<|yy (t' z z) z<|sx0 z z<|k' (k0' hr z z)
 refine mv z z<|gy z z (c' z) z ?_
 obtain⟨p,g,hr⟩:=hr
 refine K' (E' z z) z (m' E157 z) (fh' g) z (d)<|gy z z (av' aL' aD' z) z<|gy z z (c' z) z<|gy z z (av' aD' dg' z) z ?_
 obtain⟨m,hr⟩:=hr
 refine gy z z (Y0.shl z z m) z<|aE' hr (E' z z) (aa' z z) z (fun o hr=>?_) (fun o hr=>?_)
 .refine yy (w' z z) z<|mv z z<|gy z z (c' z) z ?_
  obtain⟨q,h,hr⟩:=hr
  refine K' (E' z z) z (m' E104 z) (dF' h) z (d)<|gy z z (c' z) z<|gy z z (bW' z z) z<|yy (w' z z) z<|sx0 z z<|k' (k0' hr z z)
 refine yy (w' z z) z<|mv z z<|sn4 z<|yy (t' z z) z<|sx0 z z<|k' (k0' hr z z)
theorem eL'{F R y C r}(hr:(Zdz F R).Ret r):Ctr prog 167 #[.slice y F.length C,i' R] (fun G=>sl (Rp.sl a') G y C F) (fun G v=>v = .bool r):=by
 refine H' (args:=[_,_]) (N:=60) func167 z z z (fun w0 B aD V=>?_)
 have i:=V
 refine sr<|sx0 z z<|g'<|sr<|mv z z<|yy (O' M' i z) z<|yy (aS' z z) z<|nx<|P' hr z (fun aq hr=>?_) (fun aq hr=>?_)
 .exact (show False from hr).elim
 refine n'<|b'<|g'<|sr<|sx0 z z<|ab' (fun (t:Mem)=>match t with|s=>[]) (fun (t:Mem)=>match t with|s=>Mem.le B s/\(Zdk).Ret r) (fun (t:Mem)=>match t with|s=>St w0 B s []) ?_ ?_
 .refine y' ?_
  let x:(Bool⊕Unit)->Prop:=fun oo=>((fun ov=>match ov with | .inl rv1=>Cq.ret rv1 | .inr ()=>Zdk:(Bool⊕Unit)->Cq Bool) oo).wp (fun a=>a=r)
  replace hr:(Cq.loop _ _).wp x:=hr
  refine ac' (Φ:=x) (fun (⟨p,l⟩:Int×Mem)=>(p:Int)) (fun ⟨p,l⟩=>[(0,.slice y F.length C),(1,i' R),(5,i' p)]) (fun ⟨p,l⟩=>Mem.le B l) (fun ⟨p,l⟩=>St w0 B l []) ⟨0,B⟩ hr (f3 z z z) mr (wk ln) ?_
  .intro aB t hx hr
   obtain⟨p,l⟩:=t
   have g:=hx
   refine g'<|sr<|mv z z<|mv z z<|yy (O' M' (i.mono g) z) z<|yy (aa' z z) z<|nx<|P' hr z (fun ac hr=>?_) (fun ac hr=>?_)
   .refine n'<|b'<|g'<|y'<|g'<|ak' [ff,ff,ff,ff,ff,ff,ff,ff,ff,ff,ff,ff,ff,ff,ff,ff,ff,ff,ff,ff,ff,ff,ff,ff,ff,ff,ff,ff,ff,ff,ff,ff,ff,ff,ff,ff,ff,ff,ff,ff,ff] mix (by kernel_rfl) fun W=>cn (fun _ e=>c' z)<|cn (fun _ e=>c' z) ?_
    obtain⟨x1,O,hr⟩:=hr
    refine cn (fun _ e=>V' M' cj' ((i.mono g).mono e) z z O) ?_
    obtain⟨p1,aI,ab,ad⟩:=bl' (J' (Z' i O) g)
    refine cn (fun _ e=>aj' bU' z (e _ _ _ ab))<|cn (fun _ e=>c' z) ?_
    obtain⟨aj,S,hr⟩:=hr
    refine bL' z (fun _=>m' E197 z) (fJ' S) z (fun P e=>(ad.mono e)) ?_
    cases aj
    .refine cn (fun _ e=>aA' z)<|cn (fun _ e=>c' z)<|cf z z<|cf z z<|cf z z<|cf z z<|cf z z<|cf z z<|cn (fun _ e=>w' z z)<|cn (fun _ e=>c' z)<|cf z z<|cf z z<|cf z z<|cf z z<|cf z z<|cf z z<|cf z z<|cf z z<|cf z z<|cf z z<|cf z z<|cn (fun _ e=>w' z z)<|cn (fun _ e=>c' z)<|cf z z<|cf z z<|cf z z<|cs z z<|cs z z<|cs z z<|cs z z<|cs z z<|cs z z<|cs z z<|cs z z<|cs z z<|ah' W<|aX' (aq' z z) z<|aX' (aq' z z) z<|sf z z z<|yy (w' z z) z<|q'<|am'<|b'<|aB' z<|sr<|sx0 z z<|k'<|A'<|f'<|f'<|A'<|an'<|f' (k0' hr z z)
    refine cn (fun _ e=>aA' z)<|cn (fun _ e=>c' z)<|cy z z (fun _ e=>c' z)<|cy z z (fun _ e=>c' z) ?_
    obtain⟨x2,H,hr⟩:=hr
    refine cy z z (fun _ e=>V' M' cj' ((i.mono g).mono e) z z H) ?_
    obtain⟨p2,aH,ak,af⟩:=bl' (J' (Z' i H) g)
    refine cy z z (fun _ e=>aj' bU' z (e _ _ _ ak))<|cy z z (fun _ e=>O' C' (af.mono e) z)<|bG' hr (E' z z) (fun _ e=>aH' z z) (fun ao hr=>?_) (fun ao hr=>?_)
    .refine cn (fun _ e=>t' z z)<|cn (fun _ e=>c' z)<|cf z z<|cf z z<|cf z z<|cf z z<|cf z z<|cf z z<|cf z z<|cf z z<|cf z z<|cf z z<|cf z z<|cn (fun _ e=>w' z z)<|cn (fun _ e=>c' z)<|cf z z<|cf z z<|cf z z<|cs z z<|cs z z<|cs z z<|cs z z<|cs z z<|cs z z<|cs z z<|cs z z<|cs z z<|ah' W<|aX' (aq' z z) z<|aX' (aq' z z) z<|sf z z z<|yy (w' z z) z<|q'<|am'<|b'<|aB' z<|sr<|sx0 z z<|k'<|A'<|f'<|f'<|A'<|an'<|f' (k0' hr z z)
    refine cn (fun _ e=>t' z z)<|cn (fun _ e=>c' z)<|cy z z (fun _ e=>c' z)<|cy z z (fun _ e=>c' z) ?_
    obtain⟨x3,K,hr⟩:=hr
    refine cy z z (fun _ e=>V' M' cj' ((i.mono g).mono e) z z K) ?_
    obtain⟨p3,aE,ap,ae⟩:=bl' (J' (Z' i K) g)
    refine cy z z (fun _ e=>aj' bU' z (e _ _ _ ap)) ?_
    obtain⟨q,T,hr⟩:=hr
    refine az' (post:=wl' a' q) (fun _=>(E' z z)) (fun _ _=>m' E102 z) (eI' T) z (fun P e=>(ae.mono e)) (fun v G1 G2 e h=>?_) ?_
    .obtain⟨o,m,rfl,k⟩:=h
     exact⟨_,_,z,k.mono e⟩
    refine aN' (fun _=>(E' z z)) (fun _ _ e=>c' z)<|aN' (fun _=>(E' z z)) (fun _ _ e=>c' z) ?_
    obtain⟨x4,I,hr⟩:=hr
    refine aN' (fun _=>(E' z z)) (fun _ _ e=>V' M' cj' ((i.mono g).mono e) z z I) ?_
    obtain⟨p4,aF,ah,aa⟩:=bl' (J' (Z' i I) g)
    refine aN' (fun _=>(E' z z)) (fun _ _ e=>aj' bU' z (e _ _ _ ah)) ?_
    obtain⟨L,U,hr⟩:=hr
    refine dt' (f:=34) (c:=.bool L) (fun _=>(E' z z)) (fun u P e hu=>?_) ?_
    .obtain⟨⟨o,m,D,k⟩,_⟩:=(show (wl' a' q) P.m (u 35)/\True from hu)
     exact⟨_,_,_,fun _=>m' E34 z,dG' U,(by simp only[D] <;> rfl),⟨k,(aa.mono e)⟩⟩
    cases L
    .refine aN' (fun _=>(E' z z)) (fun _ _ e=>aA' z)<|cu (fun _ _ e=>t' z z)<|cu (fun _ _ e=>c' z)<|aC' (fun _=>(Zc2 z z))<|aC' (fun _=>(Zc2 z z))<|aC' (fun _=>(Zc2 z z))<|aC' (fun _=>(aq' z z))<|aC' (fun _=>(aq' z z))<|aC' (fun _=>(aq' z z))<|aC' (fun _=>(aq' z z))<|aC' (fun _=>(aq' z z))<|aC' (fun _=>(aq' z z))<|aC' (fun _=>(aq' z z))<|aC' (fun _=>(aq' z z))<|aC' (fun _=>(aq' z z))<|bi' (d:=35) (post:=wl' a' q) (fun A aG au j=>?_)
     obtain⟨o,m,rfl,k⟩:=j
     refine aX' (aq' z z) z<|aX' (aq' z z) z<|sf z z z<|yy (w' z z) z<|q'<|am'<|b'<|aB' z<|sr<|sx0 z z<|k'<|A'<|f'<|f'<|A'<|an'<|f' (k0' hr z z)
    refine aN' (fun _=>(E' z z)) (fun _ _ e=>aA' z)<|cu (fun _ _ e=>t' z z)<|cu (fun _ _ e=>c' z)<|aN' (fun _=>(E' z z)) (fun _ _ e=>c' z) ?_
    by_cases hb2:0<p
    .replace hr:=hr.pos hb2
     refine aN' (fun _=>(E' z z)) (fun _ _ e=>db' (aS' z z) (congrArg Value.bool (decide_eq_true hb2)))<|aN' (fun _=>(E' z z)) (fun _ _ e=>c' z)<|aN' (fun _=>(E' z z)) (fun _ _ e=>c' z)<|aN' (fun _=>(E' z z)) (fun _ _ e=>c' z)<|aN' (fun _=>(E' z z)) (fun _ _ e=>ba' z z) ?_
     obtain⟨x5,J,hr⟩:=hr
     refine aN' (fun _=>(E' z z)) (fun _ _ e=>V' M' cj' ((i.mono g).mono e) z z J) ?_
     obtain⟨p5,az,am,al⟩:=bl' (J' (Z' i J) g)
     refine aN' (fun _=>(E' z z)) (fun _ _ e=>aj' bU' z (e _ _ _ am))<|aN' (fun _=>(E' z z)) (fun _ _ e=>c' z)<|aN' (fun _=>(E' z z)) (fun _ _ e=>c' z) ?_
     obtain⟨x6,M,hr⟩:=hr
     refine aN' (fun _=>(E' z z)) (fun _ _ e=>V' M' cj' ((i.mono g).mono e) z z M) ?_
     obtain⟨p6,aC,ai,X⟩:=bl' (J' (Z' i M) g)
     refine aN' (fun _=>(E' z z)) (fun _ _ e=>aj' bU' z (e _ _ _ ai))<|bi' (d:=35) (post:=wl' a' q) (fun A Z n j=>?_)
     obtain⟨o,m,rfl,k⟩:=j
     obtain⟨aA,Q,hr⟩:=hr
     refine K' (E' z z) z (m' E103 z) (fu' Q) z (⟨(al.mono n),(X.mono n)⟩)<|gy z z (bH' z z) z<|gy z z (w' z z) z<|yy (t' z z) z<|q'<|am'<|b'<|P' hr z (fun ag hr=>?_) (fun ag hr=>?_)
     .exact (show False from hr).elim
     refine n'<|F'<|b'<|x'<|mv z z<|yy (W' z z) z<|sg z z<|q'<|T' ⟨i64.wrap (p+1),Z⟩ hr (mx g n) (f3 z z z) (wk ln)
    replace hr:=hr.neg hb2
    refine aN' (fun _=>(E' z z)) (fun _ _ e=>db' (aS' z z) (congrArg Value.bool (decide_eq_false hb2)))<|aN' (fun _=>(E' z z)) (fun _ _ e=>c' z)<|aC' (fun _=>(aU' z z))<|aC' (fun _=>(aU' z z))<|aC' (fun _=>(aU' z z))<|aC' (fun _=>(aU' z z))<|aC' (fun _=>(aU' z z))<|aC' (fun _=>(aU' z z))<|aC' (fun _=>(aU' z z))<|aC' (fun _=>(aU' z z))<|aC' (fun _=>(aU' z z))<|bi' (d:=35) (post:=wl' a' q) (fun A Y E j=>?_)
    obtain⟨o,m,rfl,k⟩:=j
    refine sn2 z<|gy z z (t' z z) z<|yy (t' z z) z<|q'<|am'<|b'<|bw' z<|n'<|F'<|b'<|x'<|mv z z<|yy (W' z z) z<|sg z z<|q'<|T' ⟨i64.wrap (p+1),Y⟩ hr (mx g E) (f3 z z z) (wk ln)
   refine ae'<|h'<|h'<|I'<|af' l ⟨g,hr⟩ fn (wk ln)
 rintro s ⟨ar,hr⟩
 refine b'<|sr<|sx0 z z<|k' (k0' hr z z)
theorem fN'{n f g c d r}(hr:(Zf7 n).Ret r):Ctr prog 110 #[.agg ((v28' n f g c d)).toArray] (fun G=>sl (Rp.sl a') G f g n.eqs/\sl (Rp.sl a') G c d n.neqs) (fun G v=>v = .bool r):=by
 refine H' (args:=[_]) (N:=42) func110 z z z (fun A q V B=>?_)
 obtain⟨p,e⟩:=B
 refine sr<|ai' 1 z z z fun t=>sx0 z z<|aO' (fun (i:Mem)=>match i with|k=>[(1,pt0 t)]) (fun (i:Mem)=>match i with|k=>Mem.le q k/\(Zf8 n).Ret r) (fun (i:Mem)=>match i with|k=>St A q k [(1,bk0 t (v28' n f g c d) 28)]) ?_ ?_
 .refine sr<|yy (co' z) z<|yy (o' 1 sc3 z z z) z<|aE' hr z (aa' z z) z (fun J hr=>?_) (fun J hr=>?_)
  .refine mv z z<|sn3 z<|yy (w' z z) z<|mv z z<|sn6 z<|yy (w' z z) z<|mv z z<|sn6 z<|yy (w' z z) z<|nx<|aB' z<|sr<|sx0 z z<|k'<|f' (k0' hr z z)
  refine mv z z<|gy z z (co' z) z<|gy z z (o' 1 sc3 z z z) z<|aE' hr (E' z z) (aS' z z) z (fun I hr=>?_) (fun I hr=>?_)
  .refine yy (t' z z) z<|mv z z<|sn6 z<|yy (w' z z) z<|mv z z<|sn6 z<|yy (w' z z) z<|nx<|aB' z<|sr<|sx0 z z<|k'<|f' (k0' hr z z)
  refine yy (t' z z) z<|mv z z<|gy z z (cR' z) z<|gy z z (o' 1 sc25 z z z) z<|gy z z (co' z) z<|gy z z (o' 1 sc3 z z z) z ?_
  obtain⟨D,x,hr⟩:=hr
  refine K' (E' z z) z (m' E167 z) (eL' x) z (p) ?_
  cases D
  .refine gy z z (aA' z) z<|yy (t' z z) z<|mv z z<|sn6 z<|yy (w' z z) z<|nx<|aB' z<|sr<|sx0 z z<|k'<|f' (k0' hr z z)
  refine gy z z (aA' z) z<|yy (t' z z) z<|mv z z<|gy z z (cB' z) z<|gy z z (o' 1 sc25 z z z) z<|gy z z (co' z) z<|gy z z (o' 1 sc3 z z z) z ?_
  obtain⟨U,y,hr⟩:=hr
  refine K' (E' z z) z (m' E167 z) (eL' y) z (e)<|gy z z (aA' z) z<|yy (t' z z) z<|nx<|aK' hr z (fun K hr=>?_) (fun K hr=>?_)
  .exact (show False from hr).elim
  refine n'<|ax' q ⟨mr,hr⟩ (f1 z) (w1 z)
 rintro k ⟨l,hr⟩
 refine g'<|sr<|sx0 z z<|ab' (fun (i:Mem)=>match i with|m=>[]) (fun (i:Mem)=>match i with|m=>Mem.le k m/\(ZdS).Ret r) (fun (i:Mem)=>match i with|m=>St A q m []) ?_ ?_
 .refine y' ?_
  let s:(Bool⊕Unit)->Prop:=fun Q=>((fun O=>match O with | .inl rv1=>Cq.ret rv1 | .inr ()=>ZdS:(Bool⊕Unit)->Cq Bool) Q).wp (fun a=>a=r)
  replace hr:(Cq.loop _ _).wp s:=hr
  refine ac' (Φ:=s) (fun (⟨o,j⟩:Int×Mem)=>(o:Int)) (fun ⟨o,j⟩=>[(1,pt0 t),(3,i' o)]) (fun ⟨o,j⟩=>Mem.le k j) (fun ⟨o,j⟩=>St A q j [(1,bk0 t (v28' n f g c d) 28)]) ⟨0,k⟩ hr (f2 z z) mr (w1 z) ?_
  .intro S i P hr
   obtain⟨o,j⟩:=i
   have h:=P
   refine g'<|sr<|mv z z<|yy (cB' z) z<|yy (o' 1 sc25 z z z) z<|yy (O' M' (e.mono (mx l h)) z) z<|yy (aa' z z) z<|nx<|P' hr z (fun L hr=>?_) (fun L hr=>?_)
   .refine n'<|b'<|g'<|y'<|sr<|yy (cB' z) z<|yy (o' 1 sc25 z z z) z<|mv z z ?_
    obtain⟨X,u,hr⟩:=hr
    refine yy (V' M' cj' (e.mono (mx l h)) z z u) z ?_
    obtain⟨W,T,E,H⟩:=bl' (J' (Z' e u) (mx l h))
    refine yy (aj' bU' z (E)) z ?_
    obtain⟨R,C,hr⟩:=hr
    refine K' z z (m' E104 z) (dF' C) z (H)<|yy (aH' z z) z<|nx<|P' hr z (fun F hr=>?_) (fun F hr=>?_)
    .exact (show False from hr).elim
    refine n'<|F'<|b'<|x'<|mv z z<|yy (W' z z) z<|sg z z<|q'<|T' ⟨i64.wrap (o+1),j⟩ hr h (f2 z z) (w1 z)
   refine ae'<|h'<|h'<|I'<|af' j ⟨h,hr⟩ fn (wk ln)
 rintro m ⟨M,hr⟩
 refine b'<|sr<|sx0 z z<|k' (k0' hr z z)
theorem fv'{n h k c d r}(hr:(ZgK n).Ret r):Ctr prog 57 #[.agg ((v28' n h k c d)).toArray] (fun G=>sl (Rp.sl a') G h k n.eqs/\sl (Rp.sl a') G c d n.neqs) (fun G v=>v = .string r):=by
 refine H' (args:=[_]) (N:=10) func57 z z z (fun K U l q=>?_)
 obtain⟨g,f⟩:=q
 have hz:K.L.zero:=by rw[l]; intro p I; simp at I
 refine sr<|ai' 1 z z z fun T=>sx0 z z<|g'<|sr<|yy (D' 1 bj' z z z) z ?_
 obtain⟨Q,x,hr⟩:=hr
 refine K' z z (m' E110 z) (fN' x) z (⟨g,f⟩)<|yy (aA' z) z<|nx<|aK' hr z (fun A hr=>?_) (fun A hr=>?_)
 .exact (show False from hr).elim
 refine n'<|b'<|sr<|WL.litT (e:=5) (r:=(Rp.int .u8)) (vs:=#[]) (cs:=[]) ([]:List Int) 4006 z z z z z (by decide) (fun _=>by kernel_rfl) (z) fun V J y=>yy (D' 1 bj' z z z) z ?_
 obtain⟨P,o,hr⟩:=hr
 refine dy' (fun w s=>s.rekey (i:=4006) (j:=5000) z (by rw[l]; rfl))<|cf' z z (m' E58 z) (Ze9 _ _ _ _ _ _ _ _ _ _ o) z (⟨y,g,f⟩) (lc z ln) hz (fun M R L E m=>?_)
 obtain⟨F,H,B,rfl,rfl,t⟩:=m
 refine dy' (fun w s=>s.rekey (i:=5000) (j:=4008) z (by rw[l]; rfl))<|bV' (r:=(Rp.int .u8)) (e:=5) 4008 t z (by rw[l]; rfl) fun O S D u C=>yy (Y0.convBS cn' aL' aR' u z) z<|sx0 z z<|k' (k0' hr z z)
theorem fO'{k1 W S H I r}(hr:(Zf9 k1).Ret r):Ctr prog 19 #[.agg ((v28' k1 W S H I)).toArray] (fun G=>sl (Rp.sl a') G W S k1.eqs/\sl (Rp.sl a') G H I k1.neqs) (fun G v=>∃ ad af Q V,v = .tuple #[.agg ((v28' r.1 ad af Q V)).toArray,.agg (vecG (Value.int .i64) 8 r.2).toArray]/\sl (Rp.sl a') G ad af r.1.eqs/\sl (Rp.sl a') G Q V r.1.neqs):=by
 refine H' (args:=[_]) (N:=44) func19 z z z (fun w0 G0 be aS=>?_)
 obtain⟨ag,Z⟩:=aS
 refine sr<|ai' 1 z z z fun b1=>X' 2 z z28 z fun b2=>X' 3 z z44 z fun b3=>nr<|yy (co' z) z<|yy (o' 1 sc3 z z z) z ?_
 obtain⟨aX,aM,hr⟩:=hr
 refine N' z z (m' E22 z) (eZ' aM) z (trivial) (fun a8 bg O ak=>?_)
 obtain⟨aR,aJ,rfl,p⟩:=ak
 refine sx0 z z<|g'<|WC.drawnB [] ln [ff,ff,ff,ff,ff,tt,tt,tt,ff,ff] mix (by kernel_rfl) fun Y=>cn (fun _ c=>D' 1 bj' z z z)<|cn (fun _ c=>c' z) ?_
 obtain⟨x1,aH,hr⟩:=hr
 refine cn (fun _ c=>V' bm' sz44 (p.mono c) z z aH)<|cn (fun _ c=>ao' _ ag44 z (Q' _ _ _) (bK' (J' (Z' p aH) c))) ?_
 obtain⟨aF,aN,hr⟩:=hr
 refine az' (post:=w28' aF) (fun _=>z) (fun _ _=>m' E23 z) (cQ' aN) z (fun G' c=>⟨((ag.mono O).mono c),((Z.mono O).mono c)⟩) (fun v G1 G2 c h=>?_) ?_
 .obtain⟨ac,aa,U,R,rfl,K,C⟩:=h
  exact⟨_,_,_,_,z,K.mono c,C.mono c⟩
 refine Chain.floatBU (fun _=>z) (fun _=>c' z) ?_
 obtain⟨x2,aC,hr⟩:=hr
 refine Chain.floatBU (fun _=>z) (fun _=>V' bm' sz44 p z z aC)<|Chain.floatBU (fun _=>z) (fun _=>ao' _ ag44 z (Q' _ _ _) (bK' (Z' p aC)))<|bN' (fun _=>z) z28<|bN' (fun _=>z) z44<|Chain.tailY3 (fun bh bi a7 X1 m av X an=>?_)
 obtain⟨ac,aa,U,R,rfl,K,C⟩:=an
 refine WLT.adoptL av (fun b5 aV aY=>?_)
 subst aV
 replace X:=Laid.drop X (by decide) aY
 refine WLT.adoptL X (fun b4 aZ bb=>?_)
 subst aZ
 refine WLT.unX (show WLT _ _ _ _ _ _ _ (St w0 G0 X1.m _) from ?_)
 refine cZ' (fun w s=>(s.memLe Y m).weaken ln)<|B' 5 z bB' z z z z z (List.all_eq_true.1 z)<|cM'<|cZ' (fun w s=>(s.memLe Y m).weaken ln)<|B' 6 z sz44 z z z (Q' _ _ _) (Q' _ _ _) (fun u hu=>Rp.one (bD' .i64 8) (G:=X1.m) (x:=x2) (cs:=vecG (Value.int .i64) 8 x2) z u (by first|simpa using hu|simpa [Value.cells] using hu))<|cM'<|WLT.nil (fun w s=>(s.memLe Y m).weaken ln)<|am'<|b'<|g'<|sr<|sx0 z z<|ab' (fun (⟨E,o,n,l,k,A,M⟩:Zc×Option Addr×Nat×Option Addr×Nat×(Fin 8->Int)×Mem)=>[(2,pt0 b2),(3,pt0 b3),(5,pt0 b4),(6,pt0 b5)]) (fun ⟨E,o,n,l,k,A,M⟩=>Mem.le X1.m M/\sl (Rp.sl a') M o n E.eqs/\sl (Rp.sl a') M l k E.neqs/\(ZdU E A).Ret r) (fun ⟨E,o,n,l,k,A,M⟩=>St w0 G0 M [(2,bk0 b2 ([i' 0,.slice none 0 0,.slice none 0 0]) 28),(3,bk0 b3 (vecG (Value.int .i64) 8 (fun _=>0)) 44),(5,bk0 b4 (v28' E o n l k) 28),(6,bk0 b5 (vecG (Value.int .i64) 8 A) 44)]) ?_ ?_
 .refine y' ?_
  let ar:((Zc×(Fin 8->Int)))->Prop:=fun oo=>((fun ov=>match ov with|(E,A)=>ZdU E A:((Zc×(Fin 8->Int)))->Cq (Zc×(Fin 8->Int))) oo).wp (fun a=>a=r)
  replace hr:(Cq.loop _ _).wp ar:=hr
  refine ac' (Φ:=ar) (fun (⟨i1,B,g,f,e,d,L,F⟩:Int×Zc×Option Addr×Nat×Option Addr×Nat×(Fin 8->Int)×Mem)=>((i1,B,L):Int×Zc×(Fin 8->Int))) (fun ⟨i1,B,g,f,e,d,L,F⟩=>[(1,pt0 b1),(2,pt0 b2),(3,pt0 b3),(4,.slice aR aX.length aJ),(5,pt0 b4),(6,pt0 b5),(7,i' i1)]) (fun ⟨i1,B,g,f,e,d,L,F⟩=>Mem.le X1.m F/\sl (Rp.sl a') F g f B.eqs/\sl (Rp.sl a') F e d B.neqs) (fun ⟨i1,B,g,f,e,d,L,F⟩=>St w0 G0 F [(1,bk0 b1 (v28' k1 W S H I) 28),(2,bk0 b2 ([i' 0,.slice none 0 0,.slice none 0 0]) 28),(3,bk0 b3 (vecG (Value.int .i64) 8 (fun _=>0)) 44),(5,bk0 b4 (v28' B g f e d) 28),(6,bk0 b5 (vecG (Value.int .i64) 8 L) 44)]) ⟨1,aF,ac,aa,U,R,x2,X1.m⟩ hr (f7 z z z z z z z) ⟨mr,K,C⟩ (w5 z z z z z) ?_
  .intro bd gx hx hr
   obtain⟨i1,B,g,f,e,d,L,F⟩:=gx
   obtain⟨j,J,D⟩:=hx
   refine g'<|sr<|mv z z<|mv z z<|yy (O' bm' (p.mono (mx m j)) z) z<|yy (aa' z z) z<|nx<|P' hr z (fun a0 hr=>?_) (fun a0 hr=>?_)
   .refine n'<|b'<|g'<|y'<|g'<|ak' [ff,ff,ff,ff,ff,ff,ff] mix (by kernel_rfl) fun Y=>cn (fun _ c=>D' 1 bj' z z z)<|cn (fun _ c=>c' z)<|cn (fun _ c=>c' z) ?_
    obtain⟨x3,aE,hr⟩:=hr
    refine cn (fun _ c=>V' bm' sz44 ((p.mono (mx m j)).mono c) z z aE)<|cn (fun _ c=>ao' _ ag44 z (Q' _ _ _) (bK' (J' (J' (Z' p aE) (mx m j)) c))) ?_
    obtain⟨aG,aP,hr⟩:=hr
    refine az' (post:=w28' aG) (fun _=>z) (fun _ _=>m' E23 z) (cQ' aP) z (fun G' c=>⟨((ag.mono (mx (mx O m) j)).mono c),((Z.mono (mx (mx O m) j)).mono c)⟩) (fun v G1 G2 c h=>?_) ?_
    .obtain⟨ae,ab,P,T,rfl,y,q⟩:=h
     exact⟨_,_,_,_,z,y.mono c,q.mono c⟩
    refine bN' (fun _=>z) z28<|Chain.tailX2 (fun bf a2 X2 t aq am=>?_)
    obtain⟨b6,rfl,aQ⟩:=aq
    obtain⟨ae,ab,P,T,rfl,y,q⟩:=am
    refine WL.adopt aQ (ds' (show WL _ _ _ _ _ _ (St w0 G0 X2.m _) from ?_))
    refine B' 8 z bB' z z z z z (List.all_eq_true.1 z)<|q'<|am'<|b'<|g'<|ak' [ff,ff,ff] mix (by kernel_rfl) fun Y=>cn (fun _ c=>D' 8 bj' z z z) ?_
    obtain⟨bc,aI,hr⟩:=hr
    refine bL' z (fun _=>m' E57 z) (fv' aI) z (fun G' c=>⟨(y.mono c),(q.mono c)⟩)<|cn (fun _ c=>D' 5 bj' z z z)<|ah' Y ?_
    obtain⟨bj,aO,hr⟩:=hr
    refine K' z z (m' E57 z) (fv' aO) z (⟨(J.mono t),(D.mono t)⟩)<|yy (Y0.lssS z z) z<|q'<|am'<|b'<|aK' hr z (fun aW hr=>?_) (fun aW hr=>?_)
    .refine WC.drawnB [] ln [ff,tt,tt,tt,tt] mix (by kernel_rfl) fun Y=>cn (fun _ c=>D' 8 bj' z z z)<|ci' z (c' z)<|ci' z (c' z) ?_
     obtain⟨x4,aD,hr⟩:=hr
     refine ci' z (V' bm' sz44 (p.mono (mx (mx m j) t)) z z aD)<|ci' z (ao' _ ag44 z (Q' _ _ _) (bK' (J' (Z' p aD) (mx (mx m j) t))))<|Chain.tailB Y<|cZ' (fun w s=>s.weaken ln)<|B' 5 z bB' z z z z z (List.all_eq_true.1 z)<|cM'<|cZ' (fun w s=>s.weaken ln)<|B' 6 z sz44 z z z (Q' _ _ _) (Q' _ _ _) (fun u hu=>Rp.one (bD' .i64 8) (G:=X2.m) (x:=x4) (cs:=vecG (Value.int .i64) 8 x4) z u (by first|simpa using hu|simpa [Value.cells] using hu))<|cM'<|WLT.nil (fun w s=>s.weaken ln)<|am'<|F'<|b'<|x'<|mv z z<|yy (W' z z) z<|sg z z<|q'<|T' ⟨i64.wrap (i1+1),aG,ae,ab,P,T,x4,X2.m⟩ hr ⟨(mx j t),y,q⟩ (f7 z z z z z z z) (w5 z z z z z)
    refine n'<|F'<|b'<|x'<|mv z z<|yy (W' z z) z<|sg z z<|q'<|T' ⟨i64.wrap (i1+1),B,g,f,e,d,L,X2.m⟩ hr ⟨(mx j t),(J.mono t),(D.mono t)⟩ (f7 z z z z z z z) (w5 z z z z z)
   refine ae'<|h'<|h'<|I'<|af' ⟨B,g,f,e,d,L,F⟩ ⟨j,J,D,hr⟩ (f4 z z z z) (w4 z z z z)
 rintro⟨E,o,n,l,k,A,M⟩ ⟨a1,al,aj,hr⟩
 refine b'<|g'<|WC.drawnB [(6,bk0 b5 (vecG (Value.int .i64) 8 A) 44)] (lc z ln) [ff,tt] mix (by kernel_rfl) fun Y=>cn (fun _ c=>D' 5 bj' z z z)<|ci' z (D' 6 ag44 z z (Q' _ _ _))<|Chain.tailB Y<|cZ' (fun w s=>s.weaken (lc z ln))<|B' 2 z bB' z z z z z (List.all_eq_true.1 z)<|cM'<|cZ' (fun w s=>s.weaken (lc z ln))<|B' 3 z sz44 z z z (Q' _ _ _) (Q' _ _ _) (fun u hu=>Rp.one (bD' .i64 8) (G:=M) (x:=A) (cs:=vecG (Value.int .i64) 8 A) z u (by first|simpa using hu|simpa [Value.cells] using hu))<|cM'<|WLT.nil (fun w s=>s.weaken (lc z ln))<|am'<|b'<|k' ?_
 obtain rfl:_=r:=hr
 exact bd' z (aw' (i:=2) bj' z z z) (aw' (i:=3) ag44 z z (Q' _ _ _)) ⟨_,_,_,_,z,al,aj⟩
theorem ZfW(K:Zo)(C:Option Addr)(A:Nat)(i:Option Addr)(h:Nat)(r:Bool)(hr:(Zds K).Ret r):Ctr prog 4 #[.agg ((v37' K C A i h)).toArray] (fun G=>sl cE' G C A K.l/\sl (Rp.int .u8) G i h K.gap) (fun G v=>v = .bool r):=by
 refine H' (args:=[_]) (N:=44) func4 z z z (fun w0 G0 ax af=>?_)
 obtain⟨ac,y⟩:=af
 refine sr<|ai' 1 z z z fun b1=>sg z z<|nr ?_
 obtain⟨aB,Z,hr⟩:=hr
 refine K' z z (m' E10 z) (ck' Z) z (trivial)<|sx0 z z<|g'<|sr<|mv z z<|yy (aA' z) z<|nx<|aK' hr z (fun an hr=>?_) (fun an hr=>?_)
 .exact (show False from hr).elim
 refine n'<|b'<|sr<|yy (D' 1 ag37 z z z) z ?_
 obtain⟨ay,aa,hr⟩:=hr
 refine N' z z (m' E17 z) (dp' aa) z (⟨ac,y⟩) (fun av aw ao t=>?_)
 obtain⟨W,Y,ah,ag,ab,X,rfl,l,q,k⟩:=t
 obtain⟨az,ae,hr⟩:=hr
 refine N' z z (m' E16 z) (fk' ae) z (⟨l,q,k⟩) (fun ar aA ap s=>?_)
 obtain⟨L,O,E,I,rfl,d,c⟩:=s
 refine mv z z<|yy (R' z z) z<|yy (R' z z) z<|X' 4 z z28 z fun b2=>B' 4 z bB' z z z z z (List.all_eq_true.1 z)<|sg z z<|nr<|yy (D' 4 bj' z z z) z ?_
 obtain⟨M,U,hr⟩:=hr
 refine N' z z (m' E18 z) (ZeQ _ _ _ _ _ _ U) z (⟨d,c⟩) (fun au ai n o=>?_)
 obtain⟨R,Q,F,J,rfl,g,e⟩:=o
 refine mv z z<|yy (R' z z) z<|yy (R' z z) z<|X' 6 z z28 z fun b3=>X' 7 z z44 z fun b4=>B' 6 z bB' z z z z z (List.all_eq_true.1 z)<|B' 7 z sz44 z z z (Q' _ _ _) (Q' _ _ _) (fun u B=>Rp.one (bD' .i64 8) (G:=ai) (x:=M.2) (cs:=vecG (Value.int .i64) 8 M.2) z u (by first|simpa using B|simpa [Value.cells] using B))<|nr<|yy (D' 4 bj' z z z) z ?_
 obtain⟨S,ad,hr⟩:=hr
 refine N' z z (m' E19 z) (fO' ad) z (⟨(d.mono n),(c.mono n)⟩) (fun aq al m p=>?_)
 obtain⟨T,P,D,H,rfl,j,f⟩:=p
 refine mv z z<|yy (R' z z) z<|yy (R' z z) z<|X' 8 z z28 z fun b5=>X' 9 z z44 z fun b6=>B' 8 z bB' z z z z z (List.all_eq_true.1 z)<|B' 9 z sz44 z z z (Q' _ _ _) (Q' _ _ _) (fun u B=>Rp.one (bD' .i64 8) (G:=al) (x:=S.2) (cs:=vecG (Value.int .i64) 8 S.2) z u (by first|simpa using B|simpa [Value.cells] using B))<|nr<|mv z z<|aE' hr z (aH' z z) z (fun am hr=>?_) (fun am hr=>?_)
 .refine mv z z<|gy z z (D' 6 bj' z z z) z<|gy z z (D' 8 bj' z z z) z ?_
  obtain⟨aj,V,hr⟩:=hr
  refine K' (E' z z) z (m' E20 z) (Zbf _ _ _ _ _ _ _ _ _ _ _ V) z (⟨(g.mono m),(e.mono m),j,f⟩) ?_
  cases aj
  .refine yy (w' z z) z<|mv z z<|sn3 z<|yy (t' z z) z<|mv z z<|sk z z z<|yy (t' z z) z<|sx0 z z<|k' (k0' hr z z)
  refine yy (w' z z) z<|mv z z<|gy z z (D' 7 ag44 z z (Q' _ _ _)) z<|gy z z (D' 9 ag44 z z (Q' _ _ _)) z<|aE' hr (E' z z) (Y0.eqlV aZ' aD' sc3 sz3 eg44 z z) z (fun ak hr=>?_) (fun ak hr=>?_)
  .refine yy (w' z z) z<|mv z z<|gy z z (c' z) z<|yy (w' z z) z<|sx0 z z<|k' (k0' hr z z)
  refine yy (w' z z) z<|mv z z<|sk z z z<|yy (t' z z) z<|sx0 z z<|k' (k0' hr z z)
 refine mv z z<|sn3 z<|yy (t' z z) z<|mv z z<|sn3 z<|yy (t' z z) z<|mv z z<|sk z z z<|yy (t' z z) z<|sx0 z z<|k' (k0' hr z z)
end Go.Proofs.YtoakocgcakgpnaaGreat

namespace Go.Proofs.YtoakocgcakgpnaaGreat
open Go.IntKind (i8 i16 i32 i64 u8 u16 u32 u64)
open Go.Proofs.Tryz
open Go Go.EL Go.RowKit Go.Proofs
end Go.Proofs.YtoakocgcakgpnaaGreat

namespace Go.EL
open Go.IntKind (i8 i16 i32 i64 u8 u16 u32 u64)
open Go Go.RowKit
structure Writ (k:Zc):Prop where
 n:0<=k.n/\k.n<=1000
 eqs:∀ p ∈ k.eqs,PolOk p
 neqs:∀ p ∈ k.neqs,PolOk p
 len:k.eqs.length<=12/\k.neqs.length<=12
theorem Writ.zero:Writ zeroK:=⟨by decide,fun p hp=>absurd hp List.not_mem_nil,fun p hp=>absurd hp List.not_mem_nil,by decide⟩
theorem CoreOk.writ{k:Zc}(h:CoreOk k):Writ k:=⟨by have:=h.n; omega,fun p hp=>(h.eqs.pol p hp).1,fun p hp=>(h.neqs.pol p hp).1,h.eqs.len,h.neqs.len⟩
theorem Writ.core{k:Zc}(h:Writ k):(ZbI [] k).Ret (coreW k):=ZiG h.n h.eqs h.neqs h.len.1 h.len.2
theorem Znl{k m:Zc}(hk:Writ k)(hm:Writ m)(e:keyB k=keyB m):(Zaq k m).Ret true:=⟨_,hk.core,_,hm.core,decide_eq_true e⟩
theorem ZlE{n:Int}{eqs neqs:List Pol}(he:∀ p ∈ eqs,PolOk p)(hi:∀ p ∈ neqs,PolOk p):Writ (normF n eqs neqs).1/\((normF n eqs neqs).2=0->CoreOk (normF n eqs neqs).1):=by
 unfold normF
 by_cases hn:1<=n/\n<=4
 .rw[if_pos hn]
  by_cases ha:(eqs++neqs).all (fun p=>fitB p n)=true
  .rw[if_pos ha]
   by_cases h1:12<(srtP (eqsF eqs neqs)).length
   .rw[if_pos h1]; exact⟨Writ.zero,fun h=>absurd h (by decide)⟩
   rw[if_neg h1]
   by_cases h2:12<(srtP (kept neqs true)).length
   .rw[if_pos h2]; exact⟨Writ.zero,fun h=>absurd h (by decide)⟩
   rw[if_neg h2]
   obtain⟨m,rfl,m1,m4⟩:=ZeY hn
   rw[List.all_append,Bool.and_eq_true] at ha
   have hc:=ZkY ⟨m1,m4⟩ (fun p hp=>⟨he p hp,List.all_eq_true.1 ha.1 p hp⟩) (fun p hp=>⟨hi p hp,List.all_eq_true.1 ha.2 p hp⟩) (by omega) (by omega)
   exact⟨hc.writ,fun _=>hc⟩
  rw[if_neg ha]; exact⟨Writ.zero,fun h=>absurd h (by decide)⟩
 rw[if_neg hn]; exact⟨Writ.zero,fun h=>absurd h (by decide)⟩
theorem ZiC{l:List Zf}(hl:l.length<=1000):(Zek l).Ret (l.map (·.p)):=by
 refine Cq.Zk l.length (fun k s=>s=((l.take k).map (·.p),(k:Int))) (fun k s hk hs=>?_) (fun s hs=>?_) rfl
 .subst hs
  refine Cq.wp.yes (by omega) ⟨_,idxN hk,?_,?_⟩
  .simp only[List.length_append,List.length_map,List.length_take,List.length_singleton,small]; omega
  show _=_
  rw[wrapN (by omega),List.take_succ_eq_append_getElem hk,List.map_append]
  rfl
 subst hs
 refine Cq.wp.no (by omega) ?_
 rw[List.take_of_length_le (Nat.le_refl _)]
 exact rfl
def varN(s:Zm):Int:=if 1<(s.vars.length:Int) then (s.vars.length:Int) else 1
def coreF(s:Zm):Zc×Int:=normF (varN s) (s.eqs.map (·.p)) (s.neqs.map (·.p))
theorem Good.polys{s:Zm}(h:Good s):(∀ p ∈ s.eqs.map (·.p),PolOk p)/\∀ p ∈ s.neqs.map (·.p),PolOk p:=
 ⟨fun p hp=>by obtain⟨q,hq,rfl⟩:=List.mem_map.1 hp; exact (h.eqs.pol q hq).1,fun p hp=>by obtain⟨q,hq,rfl⟩:=List.mem_map.1 hp; exact (h.neqs.pol q hq).1⟩
theorem Zln{s:Zm}(h:Good s):(Zhm s).Ret (coreF s):=by
 have l1:=h.eqs.len
 have l2:=h.neqs.len
 obtain⟨p1,p2⟩:=h.polys
 exact⟨true,Zjl h,Cq.wp.no (by decide) ⟨_,ZiC (by omega),_,ZiC (by omega),_,Zg1 (by rw[List.length_map]; omega) (by rw[List.length_map]; omega) p1 p2,rfl⟩⟩
theorem Zl7{p:Pol}{n m:Nat}(hn:n<=m)(hm:m<=8)(h:fitB p (n:Int)=true):fitB p (m:Int)=true:=by
 obtain⟨h1,h2⟩:=(ZaD (by omega)).1 h
 exact (ZaD hm).2 ⟨fun t ht i hi=>h1 t ht i (by omega),h2⟩
theorem ZmS{s:Zm}(h:Good s)(hl:s.eqs.length+s.neqs.length<=12):coreF s=(⟨varN s,srtP (eqsF (s.eqs.map (·.p)) (s.neqs.map (·.p))),srtP (kept (s.neqs.map (·.p)) true)⟩,0)/\CoreOk (coreF s).1:=by
 have hv:=h.vars
 obtain⟨m,hm,m1,m4,mv⟩:∃ m:Nat,varN s=(m:Int)/\1<=m/\m<=4/\s.vars.length<=m:=by
  unfold varN
  by_cases h1:1<(s.vars.length:Int)
  .rw[if_pos h1]; exact⟨_,rfl,by omega,by omega,Nat.le_refl _⟩
  rw[if_neg h1]; exact⟨1,rfl,by omega,by omega,by omega⟩
 have ha:(s.eqs.map (·.p)++s.neqs.map (·.p)).all (fun p=>fitB p (m:Int))=true:=List.all_eq_true.2 fun p hp=>by
  rcases List.mem_append.1 hp with hp|hp
  .obtain⟨q,hq,rfl⟩:=List.mem_map.1 hp
   exact Zl7 mv (by omega) (h.eqs.pol q hq).2
  obtain⟨q,hq,rfl⟩:=List.mem_map.1 hp
  exact Zl7 mv (by omega) (h.neqs.pol q hq).2
 have q1:=ZgN (eqsF (s.eqs.map (·.p)) (s.neqs.map (·.p)))
 have q2:=ZjV (s.eqs.map (·.p)) (s.neqs.map (·.p))
 have q3:=ZgN (kept (s.neqs.map (·.p)) true)
 have q4:=Za6 (s.neqs.map (·.p)) true
 rw[List.length_map,List.length_map] at q2
 rw[List.length_map] at q4
 have e:coreF s=(⟨varN s,srtP (eqsF (s.eqs.map (·.p)) (s.neqs.map (·.p))),srtP (kept (s.neqs.map (·.p)) true)⟩,0):=by
  unfold coreF normF
  rw[hm,if_pos ⟨by omega,by omega⟩,if_pos ha,if_neg (by omega),if_neg (by omega)]
 obtain⟨p1,p2⟩:=h.polys
 exact⟨e,(ZlE p1 p2).2 (by show (coreF s).2=0; rw[e])⟩
theorem Zlt{k:Zc}(h:CoreOk k):CoreOk (canonF k).1:=by
 have hp:=permsN h
 have hn:1<=k.n.toNat/\k.n.toNat<=4:=by have:=h.n; omega
 unfold canonF
 rw[ZfB] at hp
 exact Ziu h (fun x hx=>hp x (by simp[hx])) (perm1 h (hp _ (by simp))).core
theorem ZhT{x:Zo}(hx:Raw32Ok x):(Zds x).Ret true:=by
 obtain⟨hg,hl⟩:=ZlC hx
 obtain⟨e,hc⟩:=ZmS hg (by omega)
 have h0:(coreF (madeS32 x)).2=0:=by rw[e]
 have hw:=(Zlt hc).writ
 exact⟨true,ZjW,Cq.wp.no (by decide) ⟨_,Zlh hx,_,Zln hg,_,ZiB hc,_,Zlm hc,Cq.wp.yes h0 ⟨true,Znl hw hw rfl,Cq.wp.yes rfl rfl⟩⟩⟩
end Go.EL

