/- The law VersionValid holds for every input: a part of its proof (what the code does, plain models, and what they return). No condition. -/
import Derived.Test.YtnjiloaolgjedaaGreatXV12e
set_option linter.unusedVariables false
set_option linter.unusedSimpArgs false
namespace Go.Proofs.YtnjiloaolgjedaaGreat
open Go.IntKind (i8 i16 i32 i64 u8 u16 u32 u64)
open Go.Proofs.Tryz
open Go Go.EL Go.RowKit Go.Proofs
theorem cl'{g j l k m d f s t r}(hr:(ZO g).Ret r):Ctr prog 18 #[.agg ((v34' g j l k m d f s t)).toArray] (fun G=>y34' G j l k m d f s t g) (fun G v=>v = .bool r):=by
 refine H' (args:=[_]) (N:=102) func18 z z z (fun w0 G0 bB aW=>?_)
 obtain⟨Q,T,P,D⟩:=aW
 refine sr<|ag' 1 z z z fun b1=>sx0 z z<|aM' (fun (F:Mem)=>match F with|W=>[(1,pt0 b1)]) (fun (F:Mem)=>match F with|W=>Mem.le G0 W/\(ZaM g).Ret r) (fun (F:Mem)=>match F with|W=>St w0 G0 W [(1,bk0 b1 (v34' g j l k m d f s t) 34)]) ?_ ?_
 .refine sr<|yy (cJ' z) z<|yy (aJ' ((v31' g.root j l k m d f)).toArray 1 au' z z z (aU' ([]) ((v31' g.root j l k m d f)) ([.slice s g.v.length t]))) z ?_
  obtain⟨a4,aM,hr⟩:=hr
  refine E' z z (t' E44 z) (ep' aM) z (⟨Q,T,P⟩) ?_
  cases a4
  .refine yy (al' z) z<|mv z z<|sn4 z<|yy (h' z z) z<|mv z z<|sn4 z<|yy (h' z z) z<|nx<|U' z<|sr<|sx0 z z<|j'<|a' (k0' hr z z)
  refine yy (al' z) z<|mv z z<|gy z z (ai' z) z<|gy z z (f' 1 aZ' z z z) z<|gy z z (M' B' D z) z<|ac' hr (w' z z) (aj' z z) z (fun bp hr=>?_) (fun bp hr=>?_)
  .refine yy (l' z z) z<|mv z z<|sn4 z<|yy (h' z z) z<|nx<|U' z<|sr<|sx0 z z<|j'<|a' (k0' hr z z)
  refine yy (l' z z) z<|mv z z<|gy z z (ai' z) z<|gy z z (f' 1 aZ' z z z) z<|gy z z (M' B' D z) z<|gy z z (be' z z) z<|yy (l' z z) z<|nx<|L' hr z (fun be hr=>?_) (fun be hr=>?_)
  .refine sr<|sx0 z z<|j'<|a' (k0' hr z z)
  refine q'<|as' G0 ⟨mr,hr⟩ (f1 z) (w1 z)
 rintro W ⟨H,hr⟩
 refine sr<|yy (ai' z) z<|yy (f' 1 aZ' z z z) z<|yy (M' B' (D.mono H) z) z ?_
 obtain⟨a3,hr⟩:=hr
 refine dT' (r:=aR') (e:=31) (n:=(g.v.length:Int)) (zx:=(Za.mk [] [] [] 0)) 4028 z z cI' el31 z (by decide) (by decide) ⟨[.slice none 0 0],[.slice none 0 0,.slice none 0 0,i' 0],z,⟨_,z,(R' _ _)⟩,⟨[.slice none 0 0],[.slice none 0 0,i' 0],z,⟨_,z,(R' _ _)⟩,⟨[.slice none 0 0],[i' 0],z,⟨_,z,(R' _ _)⟩,z⟩⟩⟩ z z a3 fun p1 aN bd=>sx0 z z<|n'<|sr<|yy (ai' z) z<|yy (f' 1 aZ' z z z) z<|yy (M' B' (D.mono H) z) z<|mv z z<|nx<|am' (fun (F:Mem)=>match F with|af=>[]) (fun (F:Mem)=>match F with|af=>Mem.le W af/\(Zcr).Ret r) (fun (F:Mem)=>match F with|af=>St w0 G0 af []) ?_ ?_
 .refine C' ?_
  let ah:(Bool⊕Unit)->Prop:=fun oo=>((fun ov=>match ov with | .inl rv1=>Cq.ret rv1 | .inr ()=>Zcr:(Bool⊕Unit)->Cq Bool) oo).wp (fun a=>a=r)
  replace hr:(Cq.loop _ _).wp ah:=hr
  refine an' (Φ:=ah) (fun (⟨K,A,p,R⟩:(List Za)×Option Ow×Int×Mem)=>((K,p):(List Za)×Int)) (fun ⟨K,A,p,R⟩=>[(1,pt0 b1),(3,.slice p1 (g.v.length:Int).toNat ((g.v.length:Int).toNat)),(30,.slice s g.v.length t),(31,i' (g.v.length:Int)),(32,i' p)]) (fun ⟨K,A,p,R⟩=>Mem.le W R/\RowR aR' 31 R (.slice p1 (g.v.length:Int).toNat ((g.v.length:Int).toNat)) K A) (fun ⟨K,A,p,R⟩=>St w0 G0 R [(1,bk0 b1 (v34' g j l k m d f s t) 34),(4028,A)]) ⟨(List.replicate (g.v.length:Int).toNat (Za.mk [] [] [] 0)),aN,0,W⟩ hr (f5 z z z z z) ⟨mr,bd⟩ (w2 z z) ?_
  .intro a5 F hx hr
   obtain⟨K,A,p,R⟩:=F
   obtain⟨B,J⟩:=hx
   refine sr<|yy (aj' z z) z<|nx<|n'<|L' hr z (fun bs hr=>?_) (fun bs hr=>?_)
   .refine q'<|g'<|n'<|C'<|sr<|mv z z ?_
    obtain⟨x1,aL,hr⟩:=hr
    refine yy (V' B' bV' (D.mono (mx H B)) z z aL) z ?_
    obtain⟨aU,aS,a6,ai⟩:=cO' (J' (af' D aL) (mx H B))
    refine yy (aC' _ ag63 z z a6) z<|Q' 5 z z63 z fun b2=>sg z z<|s' 5 z bV' z z z z z (List.all_eq_true.1 z)<|nx<|n'<|sr<|mv z z<|yy (at' z z) z<|nx<|L' hr z (fun bb hr=>?_) (fun bb hr=>?_)
    .refine n'<|sr<|yy (bX' z) z<|yy (f' 5 sc3 z z z) z<|ac' hr z (aw' z z) z (fun br hr=>?_) (fun br hr=>?_)
     .refine mv z z<|sn3 z<|yy (h' z z) z<|mv z z<|sn4 z<|yy (h' z z) z<|nx<|U' z<|sr<|sx0 z z<|j'<|a'<|a'<|m'<|a'<|a'<|m'<|ab'<|a' (k0' hr z z)
     refine mv z z<|gy z z (cC' z) z<|gy z z (f' 5 sc3 z z z) z<|ac' hr (w' z z) (aw' z z) z (fun bc hr=>?_) (fun bc hr=>?_)
     .refine yy (l' z z) z<|mv z z<|sn4 z<|yy (h' z z) z<|nx<|U' z<|sr<|sx0 z z<|j'<|a'<|a'<|m'<|a'<|a'<|m'<|ab'<|a' (k0' hr z z)
     refine yy (l' z z) z<|mv z z<|gy z z (bJ' z) z<|gy z z (f' 5 sc44 z z z) z<|gy z z (M' ao' ai z) z<|gy z z (be' z z) z<|yy (l' z z) z<|nx<|L' hr z (fun bg hr=>?_) (fun bg hr=>?_)
     .refine sr<|sx0 z z<|j'<|a'<|a'<|m'<|a'<|a'<|m'<|ab'<|a' (k0' hr z z)
     refine q'<|g'<|sr<|mv z z<|yy (cJ' z) z<|yy (aJ' ((v31' g.root j l k m d f)).toArray 1 au' z z z (aU' ([]) ((v31' g.root j l k m d f)) ([.slice s g.v.length t]))) z ?_
     obtain⟨x2,aI,hr⟩:=hr
     refine yy (aQ' cI' aV' J z z aI) z<|bx' (r:=aR') (e:=31) (cs':=(v31' g.root j l k m d f)) (i:=0) (z':=g.root) 4028 z aV' z J z z z z ⟨[.slice j g.root.vars.length l],[.slice k g.root.eqs.length m,.slice d g.root.neqs.length f,i' g.root.next],z,⟨_,z,(Q.mono (mx H B))⟩,⟨[.slice k g.root.eqs.length m],[.slice d g.root.neqs.length f,i' g.root.next],z,⟨_,z,(T.mono (mx H B))⟩,⟨[.slice d g.root.neqs.length f],[i' g.root.next],z,⟨_,z,(P.mono (mx H B))⟩,z⟩⟩⟩ aI fun a2 aT=>nx<|ap'<|r'<|O'<|g'<|A'<|yy (W' z z) z<|mv z z<|v'<|Y' ⟨(K.set (0:Int).toNat g.root),a2,i64.wrap (p+1),R⟩ hr ⟨B,aT⟩ (f5 z z z z z) (w2 z z)
    refine q'<|g'<|aM' (fun (F:Mem)=>match F with|ad=>[(1,pt0 b1),(3,.slice p1 (g.v.length:Int).toNat ((g.v.length:Int).toNat)),(4,i' p),(5,pt0 b2),(30,.slice s g.v.length t),(31,i' (g.v.length:Int)),(32,i' p)]) (fun (F:Mem)=>match F with|ad=>Mem.le R ad/\(ZeU K p x1).wp (Out a5 ah)) (fun (F:Mem)=>match F with|ad=>St w0 G0 ad [(1,bk0 b1 (v34' g j l k m d f s t) 34),(5,bk0 b2 (v63' x1 aU aS) 63),(4028,A)]) ?_ ?_
    .refine sr<|yy (bX' z) z<|yy (f' 5 sc3 z z z) z<|ac' hr z (aj' z z) z (fun bf hr=>?_) (fun bf hr=>?_)
     .refine mv z z<|sn4 z<|yy (h' z z) z<|mv z z<|sn3 z<|yy (h' z z) z<|mv z z<|sn4 z<|yy (h' z z) z<|mv z z<|sn4 z<|yy (h' z z) z<|nx<|U' z<|sr<|sx0 z z<|j'<|a'<|m'<|a'<|a'<|m'<|ab'<|a' (k0' hr z z)
     refine mv z z<|gy z z (bX' z) z<|gy z z (f' 5 sc3 z z z) z<|gy z z (e' z) z<|ac' hr (w' z z) (bf' z z) z (fun bq hr=>?_) (fun bq hr=>?_)
     .refine yy (l' z z) z<|mv z z<|sn3 z<|yy (h' z z) z<|mv z z<|sn4 z<|yy (h' z z) z<|mv z z<|sn4 z<|yy (h' z z) z<|nx<|U' z<|sr<|sx0 z z<|j'<|a'<|m'<|a'<|a'<|m'<|ab'<|a' (k0' hr z z)
     refine yy (l' z z) z<|mv z z<|gy z z (cC' z) z<|gy z z (f' 5 sc3 z z z) z<|ac' hr (w' z z) (aj' z z) z (fun bm hr=>?_) (fun bm hr=>?_)
     .refine yy (l' z z) z<|mv z z<|sn4 z<|yy (h' z z) z<|mv z z<|sn4 z<|yy (h' z z) z<|nx<|U' z<|sr<|sx0 z z<|j'<|a'<|m'<|a'<|a'<|m'<|ab'<|a' (k0' hr z z)
     refine yy (l' z z) z<|mv z z<|gy z z (cC' z) z<|gy z z (f' 5 sc3 z z z) z<|gy z z (e' z) z<|ac' hr (w' z z) (bf' z z) z (fun bi hr=>?_) (fun bi hr=>?_)
     .refine yy (l' z z) z<|mv z z<|sn4 z<|yy (h' z z) z<|nx<|U' z<|sr<|sx0 z z<|j'<|a'<|m'<|a'<|a'<|m'<|ab'<|a' (k0' hr z z)
     refine yy (l' z z) z<|mv z z<|gy z z (bJ' z) z<|gy z z (f' 5 sc44 z z z) z<|gy z z (M' ao' ai z) z<|gy z z (be' z z) z<|yy (l' z z) z<|nx<|L' hr z (fun bk hr=>?_) (fun bk hr=>?_)
     .refine sr<|sx0 z z<|j'<|a'<|m'<|a'<|a'<|m'<|ab'<|a' (k0' hr z z)
     refine q'<|as' R ⟨mr,hr⟩ (f7 z z z z z z z) (w3 z z z)
    rintro ad ⟨O,hr⟩
    refine n'<|ah' [ff,ff,ff,ff,ff,ff,ff,ff,ff,ff,tt,tt,ff] mix (by kernel_rfl) fun hb=>cn (fun _ o=>e' z)<|cn (fun _ o=>bX' z)<|cn (fun _ o=>f' 5 sc3 z z z) ?_
    obtain⟨x3,aK,hr⟩:=hr
    refine cn (fun _ o=>aQ' cI' aV' ((J.mono O).mono o) z z aK) ?_
    obtain⟨aY,aX,ba,bh,a0,aZ,a1,an,aE,ap⟩:=cY' (AtK.mono (cA' J aK) O)
    refine cn (fun _ o=>ey' _ au' ((J.mono O).mono o) (key:=4028) z z z (by decide) a1)<|cn (fun _ o=>bJ' z)<|cn (fun _ o=>f' 5 sc44 z z z) ?_
    obtain⟨q,aQ,hr⟩:=hr
    refine aX' (post:=w31u' q) (fun _=>z) (fun _ _=>t' E39 z) (fa' aQ) z (fun G' o=>⟨(an.mono o),(aE.mono o),(ap.mono o),((ai.mono O).mono o)⟩) (fun v G1 G2 o h=>?_) ?_
    .obtain⟨I,M,S,U,L,E,rfl,x,C,y⟩:=h
     exact⟨_,_,_,_,_,_,z,x.mono o,C.mono o,y.mono o⟩
    refine bm' (φ:=w31u' q) (fun _=>z) (fun v G1 G2 o h=>?_) (fun u G' o hu=>?_) ?_
    .obtain⟨p2,ae,p3,ab,p4,ac,rfl,Z,Y,X⟩:=h
     exact⟨_,_,_,_,_,_,z,Z.mono o,Y.mono o,X.mono o⟩
    .obtain⟨⟨I,M,S,U,L,E,aG,x,C,y⟩,_⟩:=(show (w31u' q) G'.m (u 91)/\True from hu)
     simp only[undFr,aG]
     exact⟨_,e' z,I,M,S,U,L,E,z,x,C,y⟩
    refine bm' (φ:=w31' q.1) (fun _=>z) (fun v G1 G2 o h=>?_) (fun u G' o hu=>?_) ?_
    .obtain⟨p5,ax,p6,am,p7,ag,rfl,aC,ay,az⟩:=h
     exact⟨_,_,_,_,_,_,z,aC.mono o,ay.mono o,az.mono o⟩
    .obtain⟨⟨p2,ae,p3,ab,p4,ac,V,Z,Y,X⟩,_,_⟩:=(show (w31u' q) G'.m (u 83)/\True/\True from hu)
     simp only[undFr,V]
     exact⟨_,x' z z,p2,ae,p3,ab,p4,ac,z,Z,Y,X⟩
    refine bu' (c:=i' q.2.1) (fun _=>z) (fun u G' o hu=>?_) ?_
    .obtain⟨_,⟨p2,ae,p3,ab,p4,ac,V,Z,Y,X⟩,_,_⟩:=(show True/\(w31u' q) G'.m (u 83)/\True/\True from hu)
     simp only[undFr,V]
     exact x' z z
    refine bu' (c:=i' q.2.2) (fun _=>z) (fun u G' o hu=>?_) ?_
    .obtain⟨_,⟨p2,ae,p3,ab,p4,ac,V,Z,Y,X⟩,_,_⟩:=(show True/\(w31u' q) G'.m (u 83)/\True/\True from hu)
     simp only[undFr,V]
     exact x' z z
    refine bF' (fun _=>z) z31<|cp' (fun bC bu bx bz X1 al aD ar au aq=>?_)
    obtain⟨b3,rfl,aO⟩:=aD
    obtain⟨p5,ax,p6,am,p7,ag,rfl,aC,ay,az⟩:=ar
    obtain⟨p2,ae,p3,ab,p4,ac,rfl,Z,Y,X⟩:=au
    obtain⟨I,M,S,U,L,E,rfl,x,C,y⟩:=aq
    refine cx' aO (cg' (show WL _ _ _ _ _ _ (St w0 G0 X1.m _) from ?_))
    refine s' 6 z aV' z z z z z (List.all_eq_true.1 z)<|sg z z<|sg z z<|v'<|ar'<|g'<|n'<|sr<|mv z z<|yy (aw' z z) z<|nx<|L' hr z (fun a9 hr=>?_) (fun a9 hr=>?_)
    .refine sr<|sx0 z z<|j'<|a'<|m'<|a'<|a'<|m'<|ab'<|a' (k0' hr z z)
    refine q'<|g'<|A'<|mv z z<|mv z z<|yy (o' 6 au' z z z) z ?_
    obtain⟨x4,aJ,hr⟩:=hr
    refine yy (aQ' cI' aV' (J.mono (mx O al)) z z aJ) z<|bx' (r:=aR') (e:=31) (cs':=(v31' q.1 p5 ax p6 am p7 ag)) (i:=p) (z':=q.1) 4028 z aV' z (J.mono (mx O al)) z z z z ⟨[.slice p5 q.1.vars.length ax],[.slice p6 q.1.eqs.length am,.slice p7 q.1.neqs.length ag,i' q.1.next],z,⟨_,z,aC⟩,⟨[.slice p6 q.1.eqs.length am],[.slice p7 q.1.neqs.length ag,i' q.1.next],z,⟨_,z,ay⟩,⟨[.slice p7 q.1.neqs.length ag],[i' q.1.next],z,⟨_,z,az⟩,z⟩⟩⟩ aJ fun bl aR=>v'<|I'<|g'<|A'<|yy (W' z z) z<|mv z z<|v'<|Y' ⟨(K.set p.toNat q.1),bl,i64.wrap (p+1),X1.m⟩ hr ⟨(mx (mx B O) al),aR⟩ (f5 z z z z z) (w2 z z)
   refine ap'<|r'<|r'<|O'<|aq' R ⟨B,hr⟩ fn (wk ln)
 rintro af ⟨bt,hr⟩
 refine g'<|sr<|sx0 z z<|j' (k0' hr z z)
theorem fL'{c r}(hr:(Zhl c).Ret r):Ctr prog 33 #[.string c] (fun G=>True) (wl' Z' r):=by
 refine H' (args:=[_]) (N:=6) func33 z z z fun k l d h=>sr<|sg z z<|nr<|mv z z<|yy (av' (vs:=#[(0,i' 1),(1,.string c)]) (v:=.agg ([i' 1,.string c,i' 0,i' 0,i' 0,.slice none 0 0,.bool false]).toArray) z z (fun _=>by kernel_rfl)) z<|bc' (e:=48) (r:=Z') (vs:=#[(0,.agg ([i' 1,.string c,i' 0,i' 0,i' 0,.slice none 0 0,.bool false]).toArray)]) (cs:=[i' 1,.string c,i' 0,i' 0,i' 0,.slice none 0 0,.bool false]++([])) ([(Zc.mk 1 c 0 0 0 [] false)]:List Zc) z z z z z (by decide) (fun _=>by kernel_rfl) ⟨[i' 1,.string c,i' 0,i' 0,i' 0,.slice none 0 0,.bool false],[],z,⟨[i' 1],[.string c,i' 0,i' 0,i' 0,.slice none 0 0,.bool false],z,z,⟨[.string c],[i' 0,i' 0,i' 0,.slice none 0 0,.bool false],z,z,⟨[i' 0],[i' 0,i' 0,.slice none 0 0,.bool false],z,z,⟨[i' 0],[i' 0,.slice none 0 0,.bool false],z,z,⟨[i' 0],[.slice none 0 0,.bool false],z,z,⟨[.slice none 0 0],[.bool false],z,⟨_,z,(R' _ _)⟩,z⟩⟩⟩⟩⟩⟩,z⟩ (key:=999) z (by rw[d]; rfl) fun j i g f=>sx0 z z<|j' ?_
 obtain rfl:_=r:=hr
 exact k' z z ⟨_,_,z,f⟩
theorem bK'{j O g h e f c d n o r}(hr:(Zbs j O).Ret r):Ctr prog 11 #[.agg ((v34' j g h e f c d n o)).toArray,i' O] (fun G=>y34' G g h e f c d n o j) (w31t' r):=by
 refine H' (args:=[_,_]) (N:=16) func11 z z z (fun w0 G0 A H=>?_)
 obtain⟨k,m,l,t⟩:=H
 refine sr<|ag' 102202 z z z fun R=>Q' 4 z z31 z fun b2=>sx0 z z<|n'<|sr<|yy (o' 102202 aB' z z z) z<|mv z z ?_
 obtain⟨X,K,hr⟩:=hr
 refine E' z z (t' E37 z) (Zbt _ _ _ _ _ _ _ _ _ _ _ K) z (⟨k,m,l,t⟩)<|yy (al' z) z<|nx<|aL' hr z (fun P hr=>?_) (fun P hr=>?_)
 .refine sr<|yy (av' (vs:=#[]) (v:=.agg ([.slice none 0 0,.slice none 0 0,.slice none 0 0,i' 0]).toArray) z z (fun _=>by kernel_rfl)) z<|s' 4 z aV' z z z z z (List.all_eq_true.1 z)<|sx0 z z<|j'<|a' ?_
  obtain rfl:_=r:=hr
  exact aH' z (ad' (i:=4) au' z z z) z ⟨_,_,_,_,_,_,z,(R' Rp.str _),(R' b' _),(R' b' _)⟩
 refine q'<|g'<|sr<|Q' 102206 z z87 z fun T=>nr<|yy (bU' z z) z<|aD' 102206 ([.func (.func 38) #[] #[pt0 R,pt0 T]]).toArray z sz87 z z z (by first|decide|simp) z z<|nx<|n'<|bI' 102202 z (by rw[A]; rfl) fun Z p E S=>bI' 102206 z (by rw[A]; rfl) fun aa y D U=>A'<|yy (f' 102206 sc87 z z z) z<|mv z z ?_
 obtain⟨W,B,hr⟩:=hr
 refine P' z z (dj' E38 z z) (gg' j _ _ _ _ _ B) z ⟨(J' (cm' (r:=Zbd) (cs:=(v34' j g h e f c d n o)) E z ⟨(v31' j.root g h e f c d),[.slice n j.v.length o],z,⟨[.slice g j.root.vars.length h],[.slice e j.root.eqs.length f,.slice c j.root.neqs.length d,i' j.root.next],z,⟨_,z,(k.mono p)⟩,⟨[.slice e j.root.eqs.length f],[.slice c j.root.neqs.length d,i' j.root.next],z,⟨_,z,(m.mono p)⟩,⟨[.slice c j.root.neqs.length d],[i' j.root.next],z,⟨_,z,(l.mono p)⟩,z⟩⟩⟩,⟨_,z,(t.mono p)⟩⟩) y),(D 0 _ z)⟩ (fun V Y Q u=>?_)
 obtain⟨F,J,L,M,C,I,rfl,s,x,q⟩:=u
 refine s' 4 z aV' z z z z z (List.all_eq_true.1 z)<|sx0 z z<|j' ?_
 obtain rfl:_=r:=hr
 exact aH' z (ad' (i:=4) au' z z z) z ⟨_,_,_,_,_,_,z,s,x,q⟩
theorem ec'{j c g r}(hr:(Zah j).Ret r):Ctr prog 47 #[.slice c j.length g] (fun G=>sl Z' G c g j) (wl' Z' r):=by
 refine H' (args:=[_]) (N:=8) func47 z z z (fun B y h k=>?_)
 have f:=k
 refine sr<|sx0 z z<|n'<|sr<|mv z z<|yy (Y0.eqlNil ao' z z) z<|nx<|dF' (p:=c=none) z (fun i=>?_) (fun i=>?_)
 .replace hr:=hr.1 (SlR.Zjd f i)
  refine sr<|sx0 z z<|j'<|a' ?_
  obtain rfl:_=r:=hr
  exact k' z z ⟨_,_,z,(R' Z' _)⟩
 replace hr:=hr.2
 refine q'<|g'<|sr<|bc' (e:=48) (r:=Z') (vs:=#[]) (cs:=[]) ([]:List Zc) z z z z z (by decide) (fun _=>by kernel_rfl) (z) (key:=999) z (by rw[h]; rfl) fun A t d m=>mv z z ?_
 obtain⟨l,hr⟩:=hr
 refine bT' (r:=Z') 2007 z z ao' el48 z (by decide) z z m z (by rw[h]; rfl) cX' (f.mono d) l fun x u s v o n q=>sx0 z z<|j' ?_
 obtain rfl:_=r:=hr
 exact k' z z ⟨_,_,z,n⟩
theorem dN'{m c h r}(hr:(Z0 m).Ret r):CtrL prog 48 #[.slice c m.length h] [] (fun G=>sl X' G c h m) (fun G L v=>∃ u x f,L=[(7000,f)]/\v = .slice u r.length x/\RowR X' 63 G (.slice u r.length x) r f):=by
 refine bh' (args:=[_]) (N:=8) func48 z z z (fun s d A n=>?_)
 have g:=n
 refine sr<|sx0 z z<|n'<|sr<|mv z z<|yy (Y0.eqlNil B' z z) z<|nx<|dF' (p:=c=none) z (fun k=>?_) (fun k=>?_)
 .replace hr:=hr.1 (SlR.Zjd g k)
  refine sr<|sx0 z z<|j'<|a' ?_
  obtain rfl:_=r:=hr
  refine aE' (S':=St s d d [(7000,none)]) (wk (lw ln))<|k' z z ⟨_,_,_,z,z,(RowR.nil (r:=X') (e:=63))⟩
 replace hr:=hr.2
 refine q'<|g'<|sr<|WL.litT (e:=63) (r:=X') (vs:=#[]) (cs:=[]) ([]:List Zf) 4005 z z z z z (by decide) (fun _=>by kernel_rfl) (z) fun E B t=>mv z z ?_
 obtain⟨q,hr⟩:=hr
 refine cr' (r:=X') (e:=63) 4005 z z B' el63 z (by decide) z z t z g q fun D C l y=>sx0 z z<|j' ?_
 obtain rfl:_=r:=hr
 refine aE' (S':=St s d d [(7000,l)]) ?_ ?_
 .intro w o
  have o:=o.rekey (i:=4005) (j:=7000) z (by rw[A]; rfl)
  exact o.weaken (lc z ln)
 exact k' z z ⟨_,_,_,z,z,y⟩
theorem bQ'{x B l1 g d k l j c O P ap au r}(hr:(Zap x B l1).Ret r):Ctr prog 20 #[.agg ((v34' x g d k l j c O P)).toArray,i' B,.slice ap l1.length au] (fun G=>sl Rp.str G g d x.root.vars/\sl b' G k l x.root.eqs/\sl b' G j c x.root.neqs/\sl X' G O P x.v/\sl Z' G ap au l1) (w34u' r):=by
 refine H' (args:=[_,_,_]) (N:=62) func20 z z z (fun w0 G0 bl aX=>?_)
 obtain⟨E,H,D,U,an⟩:=aX
 refine sr<|ag' 3 z z z fun b1=>Q' 6 z z34 z fun b2=>sg z z<|sg z z<|nr<|yy (o' 3 aB' z z z) z<|mv z z ?_
 obtain⟨aN,aU,hr⟩:=hr
 refine P' z z (t' E11 z) (bK' aU) z (⟨E,H,D,U⟩) (fun bh aM A ah=>?_)
 obtain⟨W,aa,ab,ad,X,V,rfl,Y,ac,Z⟩:=ah
 refine mv z z<|yy (x' z z) z<|yy (x' z z) z<|Q' 9 z z31 z fun b3=>s' 9 z aV' z z z z z (List.all_eq_true.1 z)<|sx0 z z<|n'<|sr<|mv z z<|yy (aw' z z) z<|nx<|L' hr z (fun a9 hr=>?_) (fun a9 hr=>?_)
 .refine sr<|yy (av' (vs:=#[]) (v:=.agg ([.slice none 0 0,.slice none 0 0,.slice none 0 0,i' 0,.slice none 0 0]).toArray) z z (fun _=>by kernel_rfl)) z<|mv z z<|s' 6 z bC' z z z z z (List.all_eq_true.1 z)<|sg z z<|sx0 z z<|j'<|a' ?_
  obtain rfl:_=r:=hr
  exact cW' z (ad' (i:=6) aB' z z z) z z ⟨_,_,_,_,_,_,_,_,z,(R' Rp.str _),(R' b' _),(R' b' _),(R' X' _)⟩
 refine q'<|g'<|aM' (fun (⟨T,o,n,q,s,m,p,M,S,R⟩:Zg×Option Addr×Nat×Option Addr×Nat×Option Addr×Nat×Option Addr×Nat×Mem)=>[(1,i' B),(2,.slice ap l1.length au),(3,pt0 b1),(6,pt0 b2),(9,pt0 b3)]) (fun ⟨T,o,n,q,s,m,p,M,S,R⟩=>Mem.le aM R/\sl Rp.str R o n T.root.vars/\sl b' R q s T.root.eqs/\sl b' R m p T.root.neqs/\sl X' R M S T.v/\(Zd3 x B l1 aN).Ret r) (fun ⟨T,o,n,q,s,m,p,M,S,R⟩=>St w0 G0 R [(3,bk0 b1 (v34' x g d k l j c O P) 34),(6,bk0 b2 (v34' T o n q s m p M S) 34),(9,bk0 b3 (v31' aN.1 W aa ab ad X V) 31)]) ?_ ?_
 .refine sr<|yy (ai' z) z<|yy (f' 3 aZ' z z z) z<|yy (M' B' (U.mono A) z) z<|ac' hr z (bf' z z) z (fun a8 hr=>?_) (fun a8 hr=>?_)
  .refine mv z z<|sn3 z<|yy (h' z z) z<|nx<|U' z<|sr<|yy (av' (vs:=#[]) (v:=.agg ([.slice none 0 0,.slice none 0 0,.slice none 0 0,i' 0,.slice none 0 0]).toArray) z z (fun _=>by kernel_rfl)) z<|s' 6 z bC' z z z z z (List.all_eq_true.1 z)<|sg z z<|sx0 z z<|j'<|a' ?_
   obtain rfl:_=r:=hr
   exact cW' z (ad' (i:=6) aB' z z z) z z ⟨_,_,_,_,_,_,_,_,z,(R' Rp.str _),(R' b' _),(R' b' _),(R' X' _)⟩
  refine mv z z<|gy z z (e' z) z<|gy z z (M' ao' (an.mono A) z) z<|gy z z (be' z z) z<|yy (l' z z) z<|nx<|L' hr z (fun a5 hr=>?_) (fun a5 hr=>?_)
  .refine sr<|yy (av' (vs:=#[]) (v:=.agg ([.slice none 0 0,.slice none 0 0,.slice none 0 0,i' 0,.slice none 0 0]).toArray) z z (fun _=>by kernel_rfl)) z<|s' 6 z bC' z z z z z (List.all_eq_true.1 z)<|sg z z<|sx0 z z<|j'<|a' ?_
   obtain rfl:_=r:=hr
   exact cW' z (ad' (i:=6) aB' z z z) z z ⟨_,_,_,_,_,_,_,_,z,(R' Rp.str _),(R' b' _),(R' b' _),(R' X' _)⟩
  refine q'<|as' ⟨(Zg.mk (Za.mk [] [] [] 0) []),none,0,none,0,none,0,none,0,aM⟩ ⟨mr,(R' _ _),(R' _ _),(R' _ _),(R' _ _),hr⟩ (f5 z z z z z) (w3 z z z)
 rintro⟨T,o,n,q,s,m,p,M,S,R⟩ ⟨t,av,az,aq,ba,hr⟩
 refine n'<|sr<|yy (o' 9 au' z z z) z<|mv z z ?_
 obtain⟨bm,aV,hr⟩:=hr
 refine P' z z (t' E39 z) (fa' aV) z (⟨(Y.mono t),(ac.mono t),(Z.mono t),(an.mono (mx A t))⟩) (fun bg bk F al=>?_)
 obtain⟨aH,aF,aO,aP,aC,aD,rfl,aG,aK,aE⟩:=al
 refine mv z z<|yy (x' z z) z<|yy (x' z z) z<|yy (x' z z) z<|Q' 11 z z31 z fun b4=>s' 11 z aV' z z z z z (List.all_eq_true.1 z)<|sg z z<|sg z z<|nr<|mv z z<|yy (aw' z z) z<|nx<|L' hr z (fun a3 hr=>?_) (fun a3 hr=>?_)
 .refine sr<|yy (av' (vs:=#[]) (v:=.agg ([.slice none 0 0,.slice none 0 0,.slice none 0 0,i' 0,.slice none 0 0]).toArray) z z (fun _=>by kernel_rfl)) z<|mv z z<|s' 6 z bC' z z z z z (List.all_eq_true.1 z)<|sg z z<|sx0 z z<|j'<|a' ?_
  obtain rfl:_=r:=hr
  exact cW' z (ad' (i:=6) aB' z z z) z z ⟨_,_,_,_,_,_,_,_,z,(R' Rp.str _),(R' b' _),(R' b' _),(R' X' _)⟩
 refine q'<|g'<|sr<|mv z z<|mv z z ?_
 obtain⟨y,aW,hr⟩:=hr
 refine P' z z (t' E47 z) (ec' aW) z ((an.mono (mx (mx A t) F))) (fun bd bn Q aj=>?_)
 obtain⟨I,K,rfl,aT⟩:=aj
 refine yy (av' (vs:=#[(0,i' B),(1,i' (-1)),(2,.slice I y.length K)]) (v:=.agg ([i' B,i' (-1),.slice I y.length K]).toArray) z z (fun _=>by kernel_rfl)) z<|Q' 14 z z63 z fun b5=>s' 14 z bV' z z z z z (List.all_eq_true.1 z)<|nx<|n'<|WC.drawnB [(3,bk0 b1 (v34' x g d k l j c O P) 34)] (lc z ln) [ff,ff,ff,ff,ff,ff,ff,ff,ff,tt,tt,tt] mix (by kernel_rfl) fun hb=>cn (fun _ C=>cJ' z)<|cn (fun _ C=>aJ' ((v31' x.root g d k l j c)).toArray 3 au' z z z (aU' ([]) ((v31' x.root g d k l j c)) ([.slice O x.v.length P])))<|cn (fun _ C=>ai' z)<|cn (fun _ C=>f' 3 aZ' z z z) ?_
 obtain⟨L,aQ,hr⟩:=hr
 refine Chain.callOwn (f:=48) (r:=X') (e:=63) (xs:=L) (fun _=>z) (fun u G' C hu=>?_) ?_
 .exact⟨_,_,_,fun _=>t' E48 z,dN' aQ,z,((U.mono (mx (mx (mx A t) F) Q)).mono C)⟩
 refine cu (fun _ _ C=>o' 14 ag63 z z z)<|eH' (r:=X') (e:=63) ([(Zf.mk B (-1) y)]:List Zf) (fun _=>z) z (by decide) (fun u G' C hu=>?_) ?_
 .exact⟨#[(0,.agg ([i' B,i' (-1),.slice I y.length K]).toArray)],[i' B,i' (-1),.slice I y.length K]++([]),z,z,fun _=>by kernel_rfl,⟨[i' B,i' (-1),.slice I y.length K],[],z,⟨[i' B],[i' (-1),.slice I y.length K],z,z,⟨[i' (-1)],[.slice I y.length K],z,z,⟨_,z,(aT.mono C)⟩⟩⟩,z⟩⟩
 obtain⟨aR,hr⟩:=hr
 refine ca' (r:=X') (e:=63) (kk:=54) (xs:=L) [(Zf.mk B (-1) y)] (fun _=>z) z (by kernel_rfl) (by kernel_rfl) B' el63 z (by decide) aR (fun u G' C hu=>?_) ?_
 .obtain⟨⟨p1,ax,aI,aL⟩,aB,_⟩:=(show (fun G v=>∃ p1 ax,v = .slice p1 1 1/\SlRd X' G (.slice p1 1 1) ax [(Zf.mk B (-1) y)]) G'.m (u 56)/\(RowX X' 63 54 L) (u 54) G'/\True from hu)
  exact⟨u 54,.slice p1 1 1,aB,z,(by simp only[undFr,eatO,List.map_cons,List.map_nil,aI] <;> rfl),aL⟩
 refine Chain.buildEat (r:=X') (e:=63) (kk:=57) (xs:=(L++[(Zf.mk B (-1) y)])) (φ:=fun G v=>∃ p2 af,v = .agg ([.slice g x.root.vars.length d,.slice k x.root.eqs.length l,.slice j x.root.neqs.length c,i' x.root.next,.slice p2 (L++[(Zf.mk B (-1) y)]).length af]).toArray/\SlR X' G (.slice p2 (L++[(Zf.mk B (-1) y)]).length af) (L++[(Zf.mk B (-1) y)])) (fun _=>z) z (by kernel_rfl) (by kernel_rfl) (fun v G1 G2 C h=>?_) (fun u G' C hu=>?_) ?_
 .obtain⟨p2,af,rfl,ao⟩:=h
  exact⟨_,_,z,ao.mono C⟩
 .obtain⟨aJ,_,_,_⟩:=(show (RowX X' 63 57 (L++[(Zf.mk B (-1) y)])) (u 57) G'/\True/\True/\True from hu)
  exact⟨u 57,aJ,fun cp cc Gf a4 a2=>⟨_,fun _=>av' (vs:=#[(0,.agg ((v31' x.root g d k l j c)).toArray),(1,.slice cp (L++[(Zf.mk B (-1) y)]).length cc)]) (by simp only[undFr,eatO,List.map_cons,List.map_nil,a4] <;> rfl) z (fun _=>by kernel_rfl),cp,cc,z,a2⟩⟩
 refine Chain.floatBU (fun _=>z) (fun _=>ai' z)<|Chain.floatBU (fun _=>z) (fun _=>f' 3 aZ' z z z)<|Chain.floatBU (fun _=>z) (fun _=>M' B' (U.mono (mx (mx (mx A t) F) Q)) z)<|Chain.tailBX4 hb (fun be bb bc bf X1 J ak aY ai aZ=>?_)
 obtain⟨p2,af,rfl,ao⟩:=ak
 obtain⟨p1,ax,rfl,aL⟩:=ai
 refine WLT.one (fun w hs=>(hs.memLe hb J).weaken (lc z ln))<|s' 6 z bC' z z z z z (List.all_eq_true.1 z)<|WLT.back<|WLT.y0 (fun w hs=>(hs.memLe hb J).weaken (lc z ln)) z (Y0.assign z) z<|WLT.y0 (fun w hs=>(hs.memLe hb J).weaken (lc z ln)) z (Y0.assign z) z<|WLT.nil (fun w hs=>(hs.memLe hb J).weaken (lc z ln))<|ar'<|g'<|j' ?_
 obtain rfl:_=r:=hr
 have N1:=mx (mx (mx (mx A t) F) Q) J
 exact cW' z (ad' (i:=6) aB' z z z) z z ⟨_,_,_,_,_,_,_,_,z,(E.mono N1),(H.mono N1),(D.mono N1),ao⟩
theorem go'{s c m l q p o n A y r}(hr:(ZeA s c).Ret r):Ctr prog 49 #[.agg ((v31' s m l q p o n)).toArray,.agg ((v48' c A y)).toArray] (fun G=>sl Rp.str G m l s.vars/\sl b' G q p s.eqs/\sl b' G o n s.neqs/\sl K' G A y c.p) (w48t' r):=by
 refine H' (args:=[_,_]) (N:=90) func49 z z z (fun w0 G0 am U=>?_)
 obtain⟨d,k,g,x⟩:=U
 refine sr<|ag' 2 z z z fun b1=>ag' 3 z z z fun b2=>Q' 4 z z48 z fun b3=>sx0 z z<|n'<|sr<|yy (o' 2 au' z z z) z<|yy (o' 3 bP' z z z) z ?_
 obtain⟨ak,V,hr⟩:=hr
 refine P' z z (t' E50 z) (eM' V) z (⟨d,k,g,x⟩) (fun ah aj f C=>?_)
 obtain⟨I,J,P,Q,D,H,rfl,E,M,F⟩:=C
 refine mv z z<|yy (x' z z) z<|yy (x' z z) z<|Q' 6 z z31 z fun b4=>s' 6 z aV' z z z z z (List.all_eq_true.1 z)<|sg z z<|nr<|mv z z<|yy (aw' z z) z<|nx<|L' hr z (fun X hr=>?_) (fun X hr=>?_)
 .refine sr<|yy (av' (vs:=#[]) (v:=.agg ([i' 0,.string ByteArray.empty,i' 0,i' 0,i' 0,.slice none 0 0,.bool false]).toArray) z z (fun _=>by kernel_rfl)) z<|mv z z<|s' 4 z cf' z z z z z (List.all_eq_true.1 z)<|sx0 z z<|j'<|a' ?_
  obtain rfl:_=r:=hr
  exact aH' z (ad' (i:=4) bP' z z z) z ⟨_,_,z,(R' K' _)⟩
 refine q'<|g'<|n'<|sr<|yy (cB' z) z<|yy (f' 3 sc3 z z z) z<|nx<|C'<|sr<|yy (at' z z) z<|sx0 z z<|L' hr z (fun aa hr=>?_) (fun aa hr=>?_)
 .refine sr<|yy (aK' z) z<|yy (f' 3 sc3 z z z) z<|yy (av' (vs:=#[(0,i' 2),(2,i' c.at')]) (v:=.agg ([i' 2,.string ByteArray.empty,i' c.at',i' 0,i' 0,.slice none 0 0,.bool false]).toArray) z z (fun _=>by kernel_rfl)) z<|s' 4 z cf' z z z z z (List.all_eq_true.1 z)<|sx0 z z<|j'<|m'<|a' ?_
  obtain rfl:_=r:=hr
  exact aH' z (ad' (i:=4) bP' z z z) z ⟨_,_,z,(R' K' _)⟩
 refine sr<|yy (at' z z) z<|sx0 z z<|L' hr z (fun af hr=>?_) (fun af hr=>?_)
 .refine n'<|ah' [ff,ff,ff,ff,ff,ff,ff,ff] mix (by kernel_rfl) fun S=>cn (fun _ e=>aK' z)<|cn (fun _ e=>f' 3 sc3 z z z)<|cn (fun _ e=>aF' z)<|cn (fun _ e=>f' 2 bB' z z z)<|cn (fun _ e=>aK' z)<|cn (fun _ e=>f' 3 sc3 z z z) ?_
  obtain⟨x1,O,hr⟩:=hr
  refine cn (fun _ e=>V' F' sz9 ((d.mono f).mono e) z z O)<|cn (fun _ e=>aa' sc9 z (cd' (J' (J' (af' d O) f) e)))<|T' S<|yy (av' (vs:=#[(0,i' 1),(2,i' c.at'),(1,.string x1)]) (v:=.agg ([i' 1,.string x1,i' c.at',i' 0,i' 0,.slice none 0 0,.bool false]).toArray) z z (fun _=>by kernel_rfl)) z<|s' 4 z cf' z z z z z (List.all_eq_true.1 z)<|sg z z<|v'<|ar'<|g'<|j'<|m'<|a' ?_
  obtain rfl:_=r:=hr
  exact aH' z (ad' (i:=4) bP' z z z) z ⟨_,_,z,(R' K' _)⟩
 refine sr<|yy (at' z z) z<|sx0 z z<|L' hr z (fun Y hr=>?_) (fun Y hr=>?_)
 .refine n'<|ah' [ff,ff,ff,ff,ff,ff,ff,ff] mix (by kernel_rfl) fun S=>cn (fun _ e=>aK' z)<|cn (fun _ e=>f' 3 sc3 z z z)<|cn (fun _ e=>aF' z)<|cn (fun _ e=>f' 2 bB' z z z)<|cn (fun _ e=>aK' z)<|cn (fun _ e=>f' 3 sc3 z z z) ?_
  obtain⟨x2,K,hr⟩:=hr
  refine cn (fun _ e=>V' F' sz9 ((d.mono f).mono e) z z K)<|cn (fun _ e=>aa' sc9 z (cd' (J' (J' (af' d K) f) e)))<|T' S<|yy (av' (vs:=#[(0,i' 3),(2,i' c.at'),(1,.string x2)]) (v:=.agg ([i' 3,.string x2,i' c.at',i' 0,i' 0,.slice none 0 0,.bool false]).toArray) z z (fun _=>by kernel_rfl)) z<|s' 4 z cf' z z z z z (List.all_eq_true.1 z)<|sg z z<|v'<|ar'<|g'<|j'<|m'<|a' ?_
  obtain rfl:_=r:=hr
  exact aH' z (ad' (i:=4) bP' z z z) z ⟨_,_,z,(R' K' _)⟩
 refine sr<|yy (at' z z) z<|sx0 z z<|L' hr z (fun W hr=>?_) (fun W hr=>?_)
 .refine sr<|yy (aK' z) z<|yy (f' 3 sc3 z z z) z<|yy (cz' z) z<|yy (f' 3 sc3 z z z) z<|yy (av' (vs:=#[(0,i' 4),(2,i' c.at'),(3,i' c.to')]) (v:=.agg ([i' 4,.string ByteArray.empty,i' c.at',i' c.to',i' 0,.slice none 0 0,.bool false]).toArray) z z (fun _=>by kernel_rfl)) z<|s' 4 z cf' z z z z z (List.all_eq_true.1 z)<|sx0 z z<|j'<|m'<|a' ?_
  obtain rfl:_=r:=hr
  exact aH' z (ad' (i:=4) bP' z z z) z ⟨_,_,z,(R' K' _)⟩
 refine sr<|yy (at' z z) z<|sx0 z z<|L' hr z (fun ad hr=>?_) (fun ad hr=>?_)
 .refine sr<|yy (o' 2 au' z z z) z<|yy (o' 3 bP' z z z) z ?_
  obtain⟨L,R,hr⟩:=hr
  refine E' z z (t' E65 z) (fh' R) z (⟨(d.mono f),(k.mono f),(g.mono f),(x.mono f)⟩)<|yy (av' (vs:=#[(0,i' 6),(4,i' L)]) (v:=.agg ([i' 6,.string ByteArray.empty,i' 0,i' 0,i' L,.slice none 0 0,.bool false]).toArray) z z (fun _=>by kernel_rfl)) z<|s' 4 z cf' z z z z z (List.all_eq_true.1 z)<|sx0 z z<|j'<|m'<|a' ?_
  obtain rfl:_=r:=hr
  exact aH' z (ad' (i:=4) bP' z z z) z ⟨_,_,z,(R' K' _)⟩
 refine sr<|yy (at' z z) z<|sx0 z z<|L' hr z (fun Z hr=>?_) (fun Z hr=>?_)
 .refine sr<|yy (aS' z) z<|yy (f' 3 sc3 z z z) z<|yy (av' (vs:=#[(0,i' 8),(4,i' c.id)]) (v:=.agg ([i' 8,.string ByteArray.empty,i' 0,i' 0,i' c.id,.slice none 0 0,.bool false]).toArray) z z (fun _=>by kernel_rfl)) z<|s' 4 z cf' z z z z z (List.all_eq_true.1 z)<|sx0 z z<|j'<|m'<|a' ?_
  obtain rfl:_=r:=hr
  exact aH' z (ad' (i:=4) bP' z z z) z ⟨_,_,z,(R' K' _)⟩
 refine q'<|I'<|g'<|sr<|yy (o' 2 au' z z z) z<|yy (aS' z) z<|yy (f' 3 sc3 z z z) z ?_
 obtain⟨u,T,hr⟩:=hr
 refine P' z z (t' E66 z) (eb' T) z (⟨(d.mono f),(k.mono f),(g.mono f)⟩) (fun ai al ag B=>?_)
 obtain⟨j,h,rfl,t⟩:=B
 refine mv z z<|yy (x' z z) z<|yy (x' z z) z<|yy (x' z z) z<|Q' 8 z z110 z fun b5=>s' 8 z aT' z z z z z (List.all_eq_true.1 z)<|sg z z<|sx0 z z<|n'<|sr<|yy (cB' z) z<|yy (f' 3 sc3 z z z) z<|yy (at' z z) z<|nx<|L' hr z (fun ab hr=>?_) (fun ab hr=>?_)
 .refine sr<|yy (aS' z) z<|yy (f' 3 sc3 z z z) z<|yy (bZ' z) z<|yy (f' 8 cG' z z z) z<|mv z z<|yy (av' (vs:=#[(0,i' 5),(4,i' c.id),(5,.slice j u.1.p.length h),(6,.bool u.2.1)]) (v:=.agg ([i' 5,.string ByteArray.empty,i' 0,i' 0,i' c.id,.slice j u.1.p.length h,.bool u.2.1]).toArray) z z (fun _=>by kernel_rfl)) z<|s' 4 z cf' z z z z z (List.all_eq_true.1 z)<|sx0 z z<|j'<|a' ?_
  obtain rfl:_=r:=hr
  exact aH' z (ad' (i:=4) bP' z z z) z ⟨_,_,z,t⟩
 refine q'<|g'<|sr<|yy (aS' z) z<|yy (f' 3 sc3 z z z) z<|yy (bZ' z) z<|yy (f' 8 cG' z z z) z<|yy (av' (vs:=#[(0,i' 7),(4,i' c.id),(5,.slice j u.1.p.length h)]) (v:=.agg ([i' 7,.string ByteArray.empty,i' 0,i' 0,i' c.id,.slice j u.1.p.length h,.bool false]).toArray) z z (fun _=>by kernel_rfl)) z<|s' 4 z cf' z z z z z (List.all_eq_true.1 z)<|sx0 z z<|j' ?_
 obtain rfl:_=r:=hr
 exact aH' z (ad' (i:=4) bP' z z z) z ⟨_,_,z,t⟩
theorem dW'{H p t q B r}(hr:(Z9 H).Ret r):CtrL prog 51 #[.slice p q t] [(5000,B)] (fun G=>RowR Z' 48 G (.slice p q t) H B) (fun G L v=>∃ K,L=[(5000,K)]/\v = .tuple #[]/\RowR Z' 48 G (.slice p q t) r K):=by
 refine bh' (args:=[_]) (N:=28) func51 z z z (fun R D ah S=>?_)
 have P:=S
 refine sr<|mv z z<|yy (dD' ao' P z) z<|yy (bk' z z) z<|sg z z<|sx0 z z<|am' (fun (⟨A,o,s⟩:(List Zc)×Option Ow×Mem)=>[(0,.slice p q t)]) (fun ⟨A,o,s⟩=>Mem.le D s/\RowR Z' 48 s (.slice p q t) A o/\(Z5 A).Ret r) (fun ⟨A,o,s⟩=>St R D s [(5000,o)]) ?_ ?_
 .refine C' ?_
  let E:(List Zc)->Prop:=fun oo=>((fun ov=>match ov with|A=>Z5 A:(List Zc)->Cq (List Zc)) oo).wp (fun a=>a=r)
  replace hr:(Cq.loop _ _).wp E:=hr
  refine an' (Φ:=E) (fun (⟨y,j,x,u,n⟩:(List Zc)×Option Ow×Int×Int×Mem)=>((y,x,u):(List Zc)×Int×Int)) (fun ⟨y,j,x,u,n⟩=>[(0,.slice p q t),(2,i' x),(3,i' u)]) (fun ⟨y,j,x,u,n⟩=>Mem.le D n/\RowR Z' 48 n (.slice p q t) y j) (fun ⟨y,j,x,u,n⟩=>St R D n [(5000,j)]) ⟨H,B,0,i64.wrap ((H.length:Int)-1),D⟩ hr (f3 z z z) ⟨mr,P⟩ (w1 z) ?_
  .intro ai gx hx hr
   obtain⟨y,j,x,u,n⟩:=gx
   obtain⟨C,m⟩:=hx
   refine n'<|sr<|mv z z<|mv z z<|yy (aj' z z) z<|nx<|L' hr z (fun Z hr=>?_) (fun Z hr=>?_)
   .refine q'<|g'<|n'<|C'<|ah' [ff,ff,tt,tt,ff,ff,ff,ff,ff,ff,ff,ff] mix (by kernel_rfl) fun hb=>cn (fun _ f=>e' z)<|cn (fun _ f=>e' z)<|cv' z (e' z)<|cv' z (e' z)<|cn (fun _ f=>e' z)<|cn (fun _ f=>e' z) ?_
    obtain⟨d,O,hr⟩:=hr
    refine cn (fun _ f=>aQ' ao' cf' (m.mono f) z z O) ?_
    obtain⟨h,k,Y,T⟩:=dd' (cA' m O)
    refine cn (fun _ f=>ey' _ bP' (m.mono f) (key:=5000) z z z (by decide) Y)<|cn (fun _ f=>e' z)<|cn (fun _ f=>e' z) ?_
    obtain⟨c,J,hr⟩:=hr
    refine cn (fun _ f=>aQ' ao' cf' (m.mono f) z z J) ?_
    obtain⟨l,g,V,Q⟩:=dd' (cA' m J)
    refine cn (fun _ f=>ey' _ bP' (m.mono f) (key:=5000) z z z (by decide) V)<|T' hb ?_
    obtain⟨x3,I,hr⟩:=hr
    refine yy (aQ' ao' cf' m z z I) z<|bx' (r:=Z') (e:=48) (cs':=(v48' d h k)) (i:=x) (z':=d) 5000 z cf' z m z z z z ⟨[i' d.kind],[.string d.name,i' d.at',i' d.to',i' d.id,.slice h d.p.length k,.bool d.neq],z,z,⟨[.string d.name],[i' d.at',i' d.to',i' d.id,.slice h d.p.length k,.bool d.neq],z,z,⟨[i' d.at'],[i' d.to',i' d.id,.slice h d.p.length k,.bool d.neq],z,z,⟨[i' d.to'],[i' d.id,.slice h d.p.length k,.bool d.neq],z,z,⟨[i' d.id],[.slice h d.p.length k,.bool d.neq],z,z,⟨[.slice h d.p.length k],[.bool d.neq],z,⟨_,z,T⟩,z⟩⟩⟩⟩⟩⟩ I (fun ag F=>?_)
    obtain⟨x4,M,hr⟩:=hr
    refine yy (aQ' ao' cf' F z z M) z<|bx' (r:=Z') (e:=48) (cs':=(v48' c l g)) (i:=u) (z':=c) 5000 z cf' z F z z z z ⟨[i' c.kind],[.string c.name,i' c.at',i' c.to',i' c.id,.slice l c.p.length g,.bool c.neq],z,z,⟨[.string c.name],[i' c.at',i' c.to',i' c.id,.slice l c.p.length g,.bool c.neq],z,z,⟨[i' c.at'],[i' c.to',i' c.id,.slice l c.p.length g,.bool c.neq],z,z,⟨[i' c.to'],[i' c.id,.slice l c.p.length g,.bool c.neq],z,z,⟨[i' c.id],[.slice l c.p.length g,.bool c.neq],z,z,⟨[.slice l c.p.length g],[.bool c.neq],z,⟨_,z,Q⟩,z⟩⟩⟩⟩⟩⟩ M fun W U=>v'<|ar'<|I'<|g'<|A'<|mv z z<|yy (W' z z) z<|mv z z<|yy (bk' z z) z<|sg z z<|sg z z<|v'<|Y' ⟨((y.set x.toNat d).set u.toNat c),W,i64.wrap (x+1),i64.wrap (u-1),n⟩ hr ⟨C,U⟩ (f3 z z z) (w1 z)
   refine ap'<|r'<|r'<|O'<|aq' ⟨y,j,n⟩ ⟨C,m,hr⟩ (f1 z) (w1 z)
 rintro⟨A,o,s⟩ ⟨aa,X,hr⟩
 refine WE.retN ?_
 obtain rfl:_=r:=hr
 refine aE' (S':=St R D s [(5000,o)]) (w1 z)<|WE.ret0 z  ⟨_,z,z,X⟩
theorem cP'{D Y bg l m n o g k aa ac r}(hr:(Zc5 D Y bg).Ret r):Ctr prog 22 #[.agg ((v34' D l m n o g k aa ac)).toArray,i' Y,i' bg] (fun G=>y34' G l m n o g k aa ac D) (w34u' r):=by
 refine H' (args:=[_,_,_]) (N:=72) func22 z z z (fun w0 G0 aK bP=>?_)
 obtain⟨C,L,B,J⟩:=bP
 have hz:w0.L.zero:=by rw[aK]; intro p hp; simp at hp
 refine sr<|ag' 3 z z z fun b1=>Q' 6 z z34 z fun b2=>sg z z<|sx0 z z<|n'<|sr<|yy (o' 3 aB' z z z) z<|mv z z<|mv z z ?_
 obtain⟨cJ,bL,hr⟩:=hr
 refine E' z z (t' E16 z) (ZbG _ _ _ _ _ _ _ _ _ _ _ _ bL) z (⟨C,L,B,J⟩)<|yy (al' z) z<|nx<|aL' hr z (fun b9 hr=>?_) (fun b9 hr=>?_)
 .refine sr<|yy (av' (vs:=#[]) (v:=.agg ([.slice none 0 0,.slice none 0 0,.slice none 0 0,i' 0,.slice none 0 0]).toArray) z z (fun _=>by kernel_rfl)) z<|s' 6 z bC' z z z z z (List.all_eq_true.1 z)<|sg z z<|sx0 z z<|j'<|a' ?_
  obtain rfl:_=r:=hr
  exact cW' z (ad' (i:=6) aB' z z z) z z ⟨_,_,_,_,_,_,_,_,z,(R' Rp.str _),(R' b' _),(R' b' _),(R' X' _)⟩
 refine q'<|g'<|sr<|sx0 z z<|aM' (fun (⟨aj,ak,am,Z,aB⟩:(List Zc)×Option Addr×Nat×Option Ow×Mem)=>[(1,i' Y),(3,pt0 b1),(6,pt0 b2),(9,.slice ak aj.length am)]) (fun ⟨aj,ak,am,Z,aB⟩=>Mem.le G0 aB/\RowR Z' 48 aB (.slice ak aj.length am) aj Z/\(Zc6 D Y aj).Ret r) (fun ⟨aj,ak,am,Z,aB⟩=>St w0 G0 aB [(3,bk0 b1 (v34' D l m n o g k aa ac) 34),(6,bk0 b2 ([.slice none 0 0,.slice none 0 0,.slice none 0 0,i' 0,.slice none 0 0]) 34),(4009,Z)]) ?_ ?_
 .refine sr<|mv z z<|yy (be' z z) z<|nx<|L' hr z (fun cb hr=>?_) (fun cb hr=>?_)
  .refine n'<|ah' [ff,ff,ff,ff,ff,ff,ff,ff,ff,ff,tt,ff] mix (by kernel_rfl) fun hb=>cn (fun _ f=>o' 3 aB' z z z)<|cn (fun _ f=>ai' z)<|cn (fun _ f=>f' 3 aZ' z z z)<|cn (fun _ f=>e' z) ?_
   obtain⟨x1,bF,hr⟩:=hr
   refine cn (fun _ f=>V' B' bV' (J.mono f) z z bF)<|cn (fun _ f=>bX' z)<|cn (fun _ f=>aa' sc3 z (aI' (J' (aW' (ay' (af' J bF))) f))) ?_
   obtain⟨ap,bG,hr⟩:=hr
   refine aX' (post:=w31t' ap) (fun _=>z) (fun _ _=>t' E11 z) (bK' bG) z (fun G' f=>⟨(C.mono f),(L.mono f),(B.mono f),(J.mono f)⟩) (fun v G1 G2 f h=>?_) ?_
   .obtain⟨T,R,ae,ad,S,U,rfl,F,M,E⟩:=h
    exact⟨_,_,_,_,_,_,z,F.mono f,M.mono f,E.mono f⟩
   refine bm' (φ:=w31t' ap) (fun _=>z) (fun v G1 G2 f h=>?_) (fun u G' f hu=>?_) ?_
   .obtain⟨p1,aU,p2,aT,p3,aR,rfl,aM,aO,aN⟩:=h
    exact⟨_,_,_,_,_,_,z,aM.mono f,aO.mono f,aN.mono f⟩
   .obtain⟨⟨T,R,ae,ad,S,U,bt,F,M,E⟩,_⟩:=(show (w31t' ap) G'.m (u 32)/\True from hu)
    simp only[undFr,bt]
    exact⟨_,e' z,T,R,ae,ad,S,U,z,F,M,E⟩
   refine bm' (φ:=w31' ap.1) (fun _=>z) (fun v G1 G2 f h=>?_) (fun u G' f hu=>?_) ?_
   .obtain⟨p4,bE,p5,bB,p6,bC,rfl,bh,bm,bf⟩:=h
    exact⟨_,_,_,_,_,_,z,bh.mono f,bm.mono f,bf.mono f⟩
   .obtain⟨⟨p1,aU,p2,aT,p3,aR,aH,aM,aO,aN⟩,_,_⟩:=(show (w31t' ap) G'.m (u 24)/\True/\True from hu)
    simp only[undFr,aH]
    exact⟨_,x' z z,p1,aU,p2,aT,p3,aR,z,aM,aO,aN⟩
   refine bu' (c:=i' ap.2) (fun _=>z) (fun u G' f hu=>?_) ?_
   .obtain⟨_,⟨p1,aU,p2,aT,p3,aR,aH,aM,aO,aN⟩,_,_⟩:=(show True/\(w31t' ap) G'.m (u 24)/\True/\True from hu)
    simp only[undFr,aH]
    exact x' z z
   refine bF' (fun _=>z) z31<|cp' (fun cL ck cl ct X1 aQ bo aY a3 a1=>?_)
   obtain⟨b3,rfl,bI⟩:=bo
   obtain⟨p4,bE,p5,bB,p6,bC,rfl,bh,bm,bf⟩:=aY
   obtain⟨p1,aU,p2,aT,p3,aR,rfl,aM,aO,aN⟩:=a3
   obtain⟨T,R,ae,ad,S,U,rfl,F,M,E⟩:=a1
   refine cx' bI (cg' (show WL _ _ _ _ _ _ (St w0 G0 X1.m _) from ?_))
   refine s' 10 z aV' z z z z z (List.all_eq_true.1 z)<|sg z z<|v'<|ar'<|g'<|sr<|yy (ai' z) z<|yy (f' 3 aZ' z z z) z<|mv z z ?_
   obtain⟨x2,bA,hr⟩:=hr
   refine yy (V' B' bV' (J.mono aQ) z z bA) z<|yy (bJ' z) z ?_
   obtain⟨p7,cf,b6,bi⟩:=bG' (J' (ax' (ax' (ay' (af' J bA)))) aQ)
   refine yy (aa' sc44 z (b6)) z<|yy (M' ao' bi z) z<|mv z z<|nx<|am' (fun (⟨O,af,ai,Q,az⟩:(List Zc)×Option Addr×Nat×Option Ow×Mem)=>[(1,i' Y),(3,pt0 b1),(6,pt0 b2),(9,.slice af O.length ai)]) (fun ⟨O,af,ai,Q,az⟩=>Mem.le X1.m az/\RowR Z' 48 az (.slice af O.length ai) O Q/\(Zc7 D Y O).Ret r) (fun ⟨O,af,ai,Q,az⟩=>St w0 G0 az [(3,bk0 b1 (v34' D l m n o g k aa ac) 34),(6,bk0 b2 ([.slice none 0 0,.slice none 0 0,.slice none 0 0,i' 0,.slice none 0 0]) 34),(4009,Q)]) ?_ ?_
   .refine C' ?_
    let bj:(List Zc)->Prop:=fun oo=>((fun ov=>match ov with|O=>Zc7 D Y O:(List Zc)->Cq (Zg×Int×Int)) oo).wp (fun a=>a=r)
    replace hr:(Cq.loop _ _).wp bj:=hr
    refine an' (Φ:=bj) (fun (⟨P,X,V,K,W,al,A,t,I,H,y,x,ab⟩:(List Zc)×Option Addr×Nat×Option Ow×Int×Za×Option Addr×Nat×Option Addr×Nat×Option Addr×Nat×Mem)=>((P,W,al):(List Zc)×Int×Za)) (fun ⟨P,X,V,K,W,al,A,t,I,H,y,x,ab⟩=>[(1,i' Y),(3,pt0 b1),(6,pt0 b2),(9,.slice X P.length V),(10,pt0 b3),(40,.slice p7 x2.e.length cf),(41,i' (x2.e.length:Int)),(42,i' W)]) (fun ⟨P,X,V,K,W,al,A,t,I,H,y,x,ab⟩=>Mem.le X1.m ab/\RowR Z' 48 ab (.slice X P.length V) P K/\y31' ab A t I H y x al) (fun ⟨P,X,V,K,W,al,A,t,I,H,y,x,ab⟩=>St w0 G0 ab [(3,bk0 b1 (v34' D l m n o g k aa ac) 34),(6,bk0 b2 ([.slice none 0 0,.slice none 0 0,.slice none 0 0,i' 0,.slice none 0 0]) 34),(10,bk0 b3 (v31' al A t I H y x) 31),(4009,K)]) ⟨[],none,0,none,0,ap.1,p4,bE,p5,bB,p6,bC,X1.m⟩ hr (f8 z z z z z z z z) ⟨mr,RowR.nil,bh,bm,bf⟩ (wk (lc z (lc z (lc z (lw ln))))) ?_
    .intro cD gx hx hr
     obtain⟨P,X,V,K,W,al,A,t,I,H,y,x,ab⟩:=gx
     obtain⟨ar,aS,ax,aA,ay⟩:=hx
     refine sr<|yy (aj' z z) z<|nx<|n'<|L' hr z (fun cd hr=>?_) (fun cd hr=>?_)
     .refine q'<|g'<|n'<|C'<|sr ?_
      obtain⟨x3,bD,hr⟩:=hr
      refine yy (V' ao' cf' (bi.mono ar) z z bD) z ?_
      obtain⟨cw,cy,bY,bq⟩:=dd' (J' (af' bi bD) ar)
      refine yy (aC' _ bP' z z bY) z<|Q' 13 z z48 z fun b4=>s' 13 z cf' z z z z z (List.all_eq_true.1 z)<|nr<|yy (o' 10 au' z z z) z<|yy (o' 13 bP' z z z) z ?_
      obtain⟨d,bO,hr⟩:=hr
      refine P' z z (t' E49 z) (go' bO) z (⟨ax,aA,ay,bq⟩) (fun cr cK ag ba=>?_)
      obtain⟨s,q,rfl,a4⟩:=ba
      refine mv z z<|yy (x' z z) z<|yy (x' z z) z<|Q' 14 z z48 z fun b5=>s' 14 z cf' z z z z z (List.all_eq_true.1 z)<|sg z z<|nr<|mv z z<|yy (o' 14 bP' z z z) z<|bc' (e:=48) (r:=Z') (vs:=#[(0,.agg ((v48' d.1 s q)).toArray)]) (cs:=(v48' d.1 s q)++([])) ([d.1]:List Zc) z z z z z (by decide) (fun _=>by kernel_rfl) ⟨(v48' d.1 s q),[],z,⟨[i' d.1.kind],[.string d.1.name,i' d.1.at',i' d.1.to',i' d.1.id,.slice s d.1.p.length q,.bool d.1.neq],z,z,⟨[.string d.1.name],[i' d.1.at',i' d.1.to',i' d.1.id,.slice s d.1.p.length q,.bool d.1.neq],z,z,⟨[i' d.1.at'],[i' d.1.to',i' d.1.id,.slice s d.1.p.length q,.bool d.1.neq],z,z,⟨[i' d.1.to'],[i' d.1.id,.slice s d.1.p.length q,.bool d.1.neq],z,z,⟨[i' d.1.id],[.slice s d.1.p.length q,.bool d.1.neq],z,z,⟨[.slice s d.1.p.length q],[.bool d.1.neq],z,⟨_,z,a4⟩,z⟩⟩⟩⟩⟩⟩,z⟩ (key:=999) z (by rw[aK]; rfl) (fun p8 cM ah bT=>?_)
      obtain⟨bH,hr⟩:=hr
      refine cr' (r:=Z') (e:=48) 4009 z z ao' el48 z (by decide) z z (aS.mono (mx ag ah)) z bT bH fun p9 ca bJ bW=>sx0 z z<|A'<|yy (o' 10 au' z z z) z<|yy (o' 13 bP' z z z) z ?_
      obtain⟨bV,bQ,hr⟩:=hr
      have N1:=mx ag ah
      refine P' z z (t' E50 z) (eM' bQ) z (⟨(ax.mono N1),(aA.mono N1),(ay.mono N1),(bq.mono N1)⟩) (fun cj bX aV a2=>?_)
      obtain⟨aG,aI,aL,aP,aC,aD,rfl,aF,aJ,aE⟩:=a2
      refine mv z z<|yy (x' z z) z<|yy (x' z z) z<|s' 10 z aV' z z z z z (List.all_eq_true.1 z)<|v'<|I'<|g'<|A'<|yy (W' z z) z<|mv z z<|v'<|Y' ⟨(P++[d.1]),p9,ca,bJ,i64.wrap (W+1),bV.1,aG,aI,aL,aP,aC,aD,bX⟩ hr ⟨(mx (mx (mx ar ag) ah) aV),(bW.mono aV),aF,aJ,aE⟩ (f8 z z z z z z z z) (w4 z z z z)
     refine ap'<|r'<|r'<|O'<|aq' ⟨P,X,V,K,ab⟩ ⟨ar,aS,hr⟩ (f4 z z z z) (w3 z z z)
   rintro⟨O,af,ai,Q,az⟩ ⟨bu,bx,hr⟩
   exact as' ⟨O,af,ai,Q,az⟩ ⟨(mx aQ bu),bx,hr⟩ (f4 z z z z) (w3 z z z)
  refine q'<|as' ⟨[],none,0,none,G0⟩ ⟨mr,RowR.nil,hr⟩ (f4 z z z z) (wk (lc z (lc z (lw ln))))
 rintro⟨aj,ak,am,Z,aB⟩ ⟨av,bw,hr⟩
 refine sr<|mv z z ?_
 obtain⟨cG,bM,hr⟩:=hr
 refine bH' (fun w hs=>hs.rekey (i:=4009) (j:=5000) z (by rw[aK]; rfl))<|cw' z z (t' E51 z) (dW' bM) z (bw) (lc z ln) hz (fun cv cF cq au bb=>?_)
 obtain⟨cc,rfl,rfl,bk⟩:=bb
 refine bH' (fun w hs=>hs.rekey (i:=5000) (j:=4009) z (by rw[aK]; rfl))<|nr<|yy (o' 3 aB' z z z) z<|mv z z<|mv z z<|bE' (r:=Z') (e:=48) 4009 bk z (by rw[aK]; rfl) (fun cC cI aw bn ci=>?_)
 obtain⟨cH,bN,hr⟩:=hr
 have N2:=mx (mx av au) aw
 refine P' z z (t' E20 z) (bQ' bN) (by rw[dm' bn]) (⟨(C.mono N2),(L.mono N2),(B.mono N2),(J.mono N2),(df' bn)⟩) (fun cm cE ch a7=>?_)
 obtain⟨a9,bc,bd,be,a6,aX,bR,bS,rfl,ao,aq,an,aZ⟩:=a7
 refine yy (x' z z) z<|yy (x' z z) z<|yy (x' z z) z<|s' 6 z bC' z z z z z (List.all_eq_true.1 z)<|sg z z<|sx0 z z<|j' ?_
 obtain rfl:_=r:=hr
 exact cW' z (ad' (i:=6) aB' z z z) z z ⟨_,_,_,_,_,_,_,_,z,ao,aq,an,aZ⟩
theorem dg'{r}(hr:(ZeH).Ret r):Ctr prog 9 #[] (fun G=>True) (fun G v=>v = .bool r):=by
 refine H' (args:=[]) (N:=177) func9 z z z fun w0 G0 d3 d1=>sr<|sg z z<|nr<|yy (av' (vs:=#[(3,i' 1)]) (v:=.agg ([.slice none 0 0,.slice none 0 0,.slice none 0 0,i' 1]).toArray) z z (fun _=>by kernel_rfl)) z ?_
 obtain⟨cO,c3,hr⟩:=hr
 refine P' z z (t' E32 z) (gC' c3) z (⟨(R' Rp.str _),(R' b' _),(R' b' _)⟩) (fun dW cN dF bj=>?_)
 obtain⟨aw,ar,az,aA,an,am,bv,bn,rfl,P,U,Q,av⟩:=bj
 refine mv z z<|yy (x' z z) z<|yy (x' z z) z<|Q' 1 z z34 z fun b1=>s' 1 z bC' z z z z z (List.all_eq_true.1 z)<|sx0 z z<|aM' (fun (L:Mem)=>match L with|a0=>[(1,pt0 b1)]) (fun (L:Mem)=>match L with|a0=>Mem.le cN a0/\(Ze9 cO).Ret r) (fun (L:Mem)=>match L with|a0=>St w0 G0 a0 [(1,bk0 b1 (v34' cO.1 aw ar az aA an am bv bn) 34)]) ?_ ?_
 .refine sr<|mv z z<|ac' hr z (aw' z z) z (fun c5 hr=>?_) (fun c5 hr=>?_)
  .refine mv z z<|sn4 z<|yy (h' z z) z<|mv z z<|sn3 z<|yy (h' z z) z<|nx<|U' z<|sr<|sx0 z z<|j'<|a' (k0' hr z z)
  refine mv z z<|gy z z (ai' z) z<|gy z z (f' 1 aZ' z z z) z<|gy z z (M' B' av z) z<|ac' hr (w' z z) (aw' z z) z (fun cS hr=>?_) (fun cS hr=>?_)
  .refine yy (l' z z) z<|mv z z<|sn3 z<|yy (h' z z) z<|nx<|U' z<|sr<|sx0 z z<|j'<|a' (k0' hr z z)
  refine yy (l' z z) z<|mv z z<|gy z z (o' 1 aB' z z z) z ?_
  obtain⟨d0,ch,hr⟩:=hr
  refine E' (w' z z) z (t' E18 z) (cl' ch) z (⟨P,U,Q,av⟩)<|gy z z (al' z) z<|yy (l' z z) z<|nx<|aL' hr z (fun dl hr=>?_) (fun dl hr=>?_)
  .refine sr<|sx0 z z<|j'<|a' (k0' hr z z)
  refine q'<|as' cN ⟨mr,hr⟩ (f1 z) (w1 z)
 rintro a0 ⟨aC,hr⟩
 refine n'<|ah' [ff,ff,ff,ff,ff,tt,tt,ff] mix (by kernel_rfl) fun hb=>cn (fun _ d=>o' 1 aB' z z z) ?_
 obtain⟨cL,c4,hr⟩:=hr
 refine aX' (post:=wl' Z' cL) (fun _=>z) (fun _ _=>t' E33 z) (fL' c4) z (fun O d=>trivial) (fun v G1 G2 d h=>?_) ?_
 .obtain⟨bK,bC,rfl,aO⟩:=h
  exact⟨_,_,z,aO.mono d⟩
 obtain⟨W,c9,hr⟩:=hr
 refine cE' (f:=20) (φ:=w34u' W) (fun _=>z) (fun v G1 G2 d h=>?_) (fun u O d T=>?_) ?_
 .obtain⟨D,F,I,J,C,t,au,ax,rfl,j,m,i,ab⟩:=h
  exact⟨_,_,_,_,_,_,_,_,z,j.mono d,m.mono d,i.mono d,ab.mono d⟩
 .obtain⟨⟨bK,bC,cm,aO⟩,_⟩:=(show (wl' Z' cL) O.m (u 43)/\True from T)
  exact⟨_,_,_,fun _=>t' E20 z,bQ' c9,(by simp only[cm] <;> rfl),⟨((P.mono aC).mono d),((U.mono aC).mono d),((Q.mono aC).mono d),((av.mono aC).mono d),aO⟩⟩
 refine bm' (φ:=w34u' W) (fun _=>z) (fun v G1 G2 d h=>?_) (fun u O d T=>?_) ?_
 .obtain⟨p1,aZ,p2,aV,p3,aR,p4,aQ,rfl,aK,aM,aL,aJ⟩:=h
  exact⟨_,_,_,_,_,_,_,_,z,aK.mono d,aM.mono d,aL.mono d,aJ.mono d⟩
 .obtain⟨⟨D,F,I,J,C,t,au,ax,cq,j,m,i,ab⟩,_,_⟩:=(show (w34u' W) O.m (u 44)/\True/\True from T)
  simp only[undFr,cq]
  exact⟨_,e' z,D,F,I,J,C,t,au,ax,z,j,m,i,ab⟩
 refine bm' (φ:=w34' W.1) (fun _=>z) (fun v G1 G2 d h=>?_) (fun u O d T=>?_) ?_
 .obtain⟨p5,cG,p6,cJ,p7,cQ,p8,cR,rfl,bO,bD,bF,ba⟩:=h
  exact⟨_,_,_,_,_,_,_,_,z,bO.mono d,bD.mono d,bF.mono d,ba.mono d⟩
 .obtain⟨⟨p1,aZ,p2,aV,p3,aR,p4,aQ,ac,aK,aM,aL,aJ⟩,_,_,_⟩:=(show (w34u' W) O.m (u 41)/\True/\True/\True from T)
  simp only[undFr,ac]
  exact⟨_,x' z z,p1,aZ,p2,aV,p3,aR,p4,aQ,z,aK,aM,aL,aJ⟩
 refine bu' (c:=i' W.2.1) (fun _=>z) (fun u O d T=>?_) ?_
 .obtain⟨_,⟨p1,aZ,p2,aV,p3,aR,p4,aQ,ac,aK,aM,aL,aJ⟩,_,_,_⟩:=(show True/\(w34u' W) O.m (u 41)/\True/\True/\True from T)
  simp only[undFr,ac]
  exact x' z z
 refine bu' (c:=i' W.2.2) (fun _=>z) (fun u O d T=>?_) ?_
 .obtain⟨_,⟨p1,aZ,p2,aV,p3,aR,p4,aQ,ac,aK,aM,aL,aJ⟩,_,_,_⟩:=(show True/\(w34u' W) O.m (u 41)/\True/\True/\True from T)
  simp only[undFr,ac]
  exact x' z z
 refine bF' (fun _=>z) z34<|ek' (fun d6 dK dP dL dT X1 dY bP bo bl bt bw=>?_)
 obtain⟨b2,rfl,c0⟩:=bP
 obtain⟨p5,cG,p6,cJ,p7,cQ,p8,cR,rfl,bO,bD,bF,ba⟩:=bo
 obtain⟨p1,aZ,p2,aV,p3,aR,p4,aQ,rfl,aK,aM,aL,aJ⟩:=bl
 obtain⟨D,F,I,J,C,t,au,ax,rfl,j,m,i,ab⟩:=bt
 obtain⟨bK,bC,rfl,aO⟩:=bw
 refine cx' c0 (cg' (show WL _ _ _ _ _ _ (St w0 G0 X1.m _) from ?_))
 refine s' 3 z bC' z z z z z (List.all_eq_true.1 z)<|sg z z<|sg z z<|v'<|ar'<|g'<|aM' (fun (L:Mem)=>match L with|aY=>[(3,pt0 b2)]) (fun (L:Mem)=>match L with|aY=>Mem.le X1.m aY/\(Ze8 W).Ret r) (fun (L:Mem)=>match L with|aY=>St w0 G0 aY [(3,bk0 b2 (v34' W.1 p5 cG p6 cJ p7 cQ p8 cR) 34)]) ?_ ?_
 .refine sr<|mv z z<|ac' hr z (aw' z z) z (fun da hr=>?_) (fun da hr=>?_)
  .refine mv z z<|sn2 z<|yy (h' z z) z<|mv z z<|sn4 z<|yy (h' z z) z<|nx<|U' z<|sr<|sx0 z z<|j'<|a' (k0' hr z z)
  refine mv z z<|gy z z (e' z) z<|ac' hr (w' z z) (aw' z z) z (fun c1 hr=>?_) (fun c1 hr=>?_)
  .refine yy (l' z z) z<|mv z z<|sn4 z<|yy (h' z z) z<|nx<|U' z<|sr<|sx0 z z<|j'<|a' (k0' hr z z)
  refine yy (l' z z) z<|mv z z<|gy z z (ai' z) z<|gy z z (f' 3 aZ' z z z) z<|gy z z (M' B' ba z) z<|gy z z (aw' z z) z<|yy (l' z z) z<|nx<|L' hr z (fun dq hr=>?_) (fun dq hr=>?_)
  .refine sr<|sx0 z z<|j'<|a' (k0' hr z z)
  refine q'<|as' X1.m ⟨mr,hr⟩ (f1 z) (w1 z)
 rintro aY ⟨aB,hr⟩
 refine n'<|ah' [ff,ff,ff,ff,ff,tt,tt,ff] mix (by kernel_rfl) fun hb=>cn (fun _ d=>o' 3 aB' z z z) ?_
 obtain⟨cI,cT,hr⟩:=hr
 refine aX' (post:=wl' Z' cI) (fun _=>z) (fun _ _=>t' E33 z) (fL' cT) z (fun O d=>trivial) (fun v G1 G2 d h=>?_) ?_
 .obtain⟨bN,bE,rfl,aN⟩:=h
  exact⟨_,_,z,aN.mono d⟩
 obtain⟨Y,db,hr⟩:=hr
 refine cE' (f:=20) (φ:=w34u' Y) (fun _=>z) (fun v G1 G2 d h=>?_) (fun u O d T=>?_) ?_
 .obtain⟨B,E,H,K,y,A,ak,ao,rfl,k,n,l,aa⟩:=h
  exact⟨_,_,_,_,_,_,_,_,z,k.mono d,n.mono d,l.mono d,aa.mono d⟩
 .obtain⟨⟨bN,bE,cy,aN⟩,_⟩:=(show (wl' Z' cI) O.m (u 62)/\True from T)
  exact⟨_,_,_,fun _=>t' E20 z,bQ' db,(by simp only[cy] <;> rfl),⟨((bO.mono aB).mono d),((bD.mono aB).mono d),((bF.mono aB).mono d),((ba.mono aB).mono d),aN⟩⟩
 refine bm' (φ:=w34u' Y) (fun _=>z) (fun v G1 G2 d h=>?_) (fun u O d T=>?_) ?_
 .obtain⟨p9,aU,aP,aD,aX,aE,aW,aF,rfl,aI,aq,ay,ap⟩:=h
  exact⟨_,_,_,_,_,_,_,_,z,aI.mono d,aq.mono d,ay.mono d,ap.mono d⟩
 .obtain⟨⟨B,E,H,K,y,A,ak,ao,cg,k,n,l,aa⟩,_,_⟩:=(show (w34u' Y) O.m (u 63)/\True/\True from T)
  simp only[undFr,cg]
  exact⟨_,e' z,B,E,H,K,y,A,ak,ao,z,k,n,l,aa⟩
 refine bm' (φ:=w34' Y.1) (fun _=>z) (fun v G1 G2 d h=>?_) (fun u O d T=>?_) ?_
 .obtain⟨cK,bI,cM,bJ,cF,bB,cP,bH,rfl,X,Z,V,S⟩:=h
  exact⟨_,_,_,_,_,_,_,_,z,X.mono d,Z.mono d,V.mono d,S.mono d⟩
 .obtain⟨⟨p9,aU,aP,aD,aX,aE,aW,aF,ae,aI,aq,ay,ap⟩,_,_,_⟩:=(show (w34u' Y) O.m (u 60)/\True/\True/\True from T)
  simp only[undFr,ae]
  exact⟨_,x' z z,p9,aU,aP,aD,aX,aE,aW,aF,z,aI,aq,ay,ap⟩
 refine bu' (c:=i' Y.2.1) (fun _=>z) (fun u O d T=>?_) ?_
 .obtain⟨_,⟨p9,aU,aP,aD,aX,aE,aW,aF,ae,aI,aq,ay,ap⟩,_,_,_⟩:=(show True/\(w34u' Y) O.m (u 60)/\True/\True/\True from T)
  simp only[undFr,ae]
  exact x' z z
 refine bu' (c:=i' Y.2.2) (fun _=>z) (fun u O d T=>?_) ?_
 .obtain⟨_,⟨p9,aU,aP,aD,aX,aE,aW,aF,ae,aI,aq,ay,ap⟩,_,_,_⟩:=(show True/\(w34u' Y) O.m (u 60)/\True/\True/\True from T)
  simp only[undFr,ae]
  exact x' z z
 refine bF' (fun _=>z) z34<|ek' (fun d7 dU dI dO dJ X2 dV bQ bq bm bx bi=>?_)
 obtain⟨b3,rfl,cX⟩:=bQ
 obtain⟨cK,bI,cM,bJ,cF,bB,cP,bH,rfl,X,Z,V,S⟩:=bq
 obtain⟨p9,aU,aP,aD,aX,aE,aW,aF,rfl,aI,aq,ay,ap⟩:=bm
 obtain⟨B,E,H,K,y,A,ak,ao,rfl,k,n,l,aa⟩:=bx
 obtain⟨bN,bE,rfl,aN⟩:=bi
 refine cx' cX (cg' (show WL _ _ _ _ _ _ (St w0 G0 X2.m _) from ?_))
 refine s' 6 z bC' z z z z z (List.all_eq_true.1 z)<|sg z z<|sg z z<|v'<|ar'<|g'<|aM' (fun (L:Mem)=>match L with|aS=>[(6,pt0 b3)]) (fun (L:Mem)=>match L with|aS=>Mem.le X2.m aS/\(Ze7 Y).Ret r) (fun (L:Mem)=>match L with|aS=>St w0 G0 aS [(6,bk0 b3 (v34' Y.1 cK bI cM bJ cF bB cP bH) 34)]) ?_ ?_
 .refine sr<|mv z z<|ac' hr z (aw' z z) z (fun c6 hr=>?_) (fun c6 hr=>?_)
  .refine mv z z<|sn2 z<|yy (h' z z) z<|mv z z<|sn4 z<|yy (h' z z) z<|mv z z<|sn3 z<|yy (h' z z) z<|nx<|U' z<|sr<|sx0 z z<|j'<|a' (k0' hr z z)
  refine mv z z<|gy z z (e' z) z<|ac' hr (w' z z) (aw' z z) z (fun dc hr=>?_) (fun dc hr=>?_)
  .refine yy (l' z z) z<|mv z z<|sn4 z<|yy (h' z z) z<|mv z z<|sn3 z<|yy (h' z z) z<|nx<|U' z<|sr<|sx0 z z<|j'<|a' (k0' hr z z)
  refine yy (l' z z) z<|mv z z<|gy z z (ai' z) z<|gy z z (f' 6 aZ' z z z) z<|gy z z (M' B' S z) z<|ac' hr (w' z z) (aw' z z) z (fun c2 hr=>?_) (fun c2 hr=>?_)
  .refine yy (l' z z) z<|mv z z<|sn3 z<|yy (h' z z) z<|nx<|U' z<|sr<|sx0 z z<|j'<|a' (k0' hr z z)
  refine yy (l' z z) z<|mv z z<|gy z z (o' 6 aB' z z z) z ?_
  obtain⟨dQ,cA,hr⟩:=hr
  refine E' (w' z z) z (t' E18 z) (cl' cA) z (⟨X,Z,V,S⟩)<|gy z z (al' z) z<|yy (l' z z) z<|nx<|aL' hr z (fun dm hr=>?_) (fun dm hr=>?_)
  .refine sr<|sx0 z z<|j'<|a' (k0' hr z z)
  refine q'<|as' X2.m ⟨mr,hr⟩ (f1 z) (w1 z)
 rintro aS ⟨g,hr⟩
 refine sr<|yy (o' 6 aB' z z z) z ?_
 obtain⟨dR,cB,hr⟩:=hr
 refine E' z z (t' E13 z) (Zju _ _ _ _ _ _ _ _ _ _ _ _ cB) z (⟨(X.mono g),(Z.mono g),(V.mono g),(S.mono g)⟩)<|mv z z<|yy (x' z z) z<|yy (x' z z) z<|sg z z<|sg z z<|nr<|yy (o' 6 aB' z z z) z ?_
 obtain⟨bL,cx,hr⟩:=hr
 refine P' z z (t' E22 z) (cP' cx) z (⟨(X.mono g),(Z.mono g),(V.mono g),(S.mono g)⟩) (fun dE d4 o a4=>?_)
 obtain⟨ad,ai,aj,al,ag,ah,a8,a1,rfl,s,x,q,R⟩:=a4
 refine mv z z<|yy (x' z z) z<|yy (x' z z) z<|yy (x' z z) z<|Q' 11 z z34 z fun b4=>s' 11 z bC' z z z z z (List.all_eq_true.1 z)<|sg z z<|sg z z<|nr<|yy (o' 6 aB' z z z) z ?_
 obtain⟨dM,ci,hr⟩:=hr
 refine P' z z (t' E22 z) (cP' ci) z (⟨(X.mono (mx g o)),(Z.mono (mx g o)),(V.mono (mx g o)),(S.mono (mx g o))⟩) (fun dA cH e a3=>?_)
 obtain⟨be,bf,bs,br,bg,bh,cV,dd,rfl,bc,bk,bd,cW⟩:=a3
 refine mv z z<|yy (x' z z) z<|yy (x' z z) z<|yy (x' z z) z<|Q' 14 z z34 z fun b5=>s' 14 z bC' z z z z z (List.all_eq_true.1 z)<|sg z z<|sx0 z z<|aM' (fun (L:Mem)=>match L with|aT=>[(11,pt0 b4)]) (fun (L:Mem)=>match L with|aT=>Mem.le cH aT/\(Ze6 bL).Ret r) (fun (L:Mem)=>match L with|aT=>St w0 G0 aT [(11,bk0 b4 (v34' bL.1 ad ai aj al ag ah a8 a1) 34)]) ?_ ?_
 .refine sr<|mv z z<|ac' hr z (aw' z z) z (fun ds hr=>?_) (fun ds hr=>?_)
  .refine mv z z<|sn2 z<|yy (h' z z) z<|mv z z<|sn2 z<|yy (h' z z) z<|mv z z<|sn2 z<|yy (h' z z) z<|mv z z<|sn4 z<|yy (h' z z) z<|mv z z<|sn2 z<|yy (h' z z) z<|mv z z<|sn2 z<|yy (h' z z) z<|mv z z<|sn3 z<|yy (h' z z) z<|nx<|U' z<|sr<|sx0 z z<|j'<|a' (k0' hr z z)
  refine mv z z<|gy z z (e' z) z<|ac' hr (w' z z) (aw' z z) z (fun dx hr=>?_) (fun dx hr=>?_)
  .refine yy (l' z z) z<|mv z z<|sn2 z<|yy (h' z z) z<|mv z z<|sn2 z<|yy (h' z z) z<|mv z z<|sn4 z<|yy (h' z z) z<|mv z z<|sn2 z<|yy (h' z z) z<|mv z z<|sn2 z<|yy (h' z z) z<|mv z z<|sn3 z<|yy (h' z z) z<|nx<|U' z<|sr<|sx0 z z<|j'<|a' (k0' hr z z)
  refine yy (l' z z) z<|mv z z<|gy z z (e' z) z<|ac' hr (w' z z) (aw' z z) z (fun df hr=>?_) (fun df hr=>?_)
  .refine yy (l' z z) z<|mv z z<|sn2 z<|yy (h' z z) z<|mv z z<|sn4 z<|yy (h' z z) z<|mv z z<|sn2 z<|yy (h' z z) z<|mv z z<|sn2 z<|yy (h' z z) z<|mv z z<|sn3 z<|yy (h' z z) z<|nx<|U' z<|sr<|sx0 z z<|j'<|a' (k0' hr z z)
  refine yy (l' z z) z<|mv z z<|gy z z (e' z) z<|ac' hr (w' z z) (aw' z z) z (fun di hr=>?_) (fun di hr=>?_)
  .refine yy (l' z z) z<|mv z z<|sn4 z<|yy (h' z z) z<|mv z z<|sn2 z<|yy (h' z z) z<|mv z z<|sn2 z<|yy (h' z z) z<|mv z z<|sn3 z<|yy (h' z z) z<|nx<|U' z<|sr<|sx0 z z<|j'<|a' (k0' hr z z)
  refine yy (l' z z) z<|mv z z<|gy z z (ai' z) z<|gy z z (f' 11 aZ' z z z) z<|gy z z (M' B' (R.mono e) z) z<|ac' hr (w' z z) (aw' z z) z (fun c7 hr=>?_) (fun c7 hr=>?_)
  .refine yy (l' z z) z<|mv z z<|sn2 z<|yy (h' z z) z<|mv z z<|sn2 z<|yy (h' z z) z<|mv z z<|sn3 z<|yy (h' z z) z<|nx<|U' z<|sr<|sx0 z z<|j'<|a' (k0' hr z z)
  refine yy (l' z z) z<|mv z z<|gy z z (e' z) z<|ac' hr (w' z z) (aw' z z) z (fun cU hr=>?_) (fun cU hr=>?_)
  .refine yy (l' z z) z<|mv z z<|sn2 z<|yy (h' z z) z<|mv z z<|sn3 z<|yy (h' z z) z<|nx<|U' z<|sr<|sx0 z z<|j'<|a' (k0' hr z z)
  refine yy (l' z z) z<|mv z z<|gy z z (o' 6 aB' z z z) z ?_
  obtain⟨c8,cp,hr⟩:=hr
  have N1:=mx (mx g o) e
  refine E' (w' z z) z (t' E16 z) (ZbG _ _ _ _ _ _ _ _ _ _ _ _ cp) z (⟨(X.mono N1),(Z.mono N1),(V.mono N1),(S.mono N1)⟩) ?_
  cases c8
  .refine yy (l' z z) z<|mv z z<|gy z z (o' 6 aB' z z z) z ?_
   obtain⟨dZ,ct,hr⟩:=hr
   refine E' (w' z z) z (t' E16 z) (ZbG _ _ _ _ _ _ _ _ _ _ _ _ ct) z (⟨(X.mono N1),(Z.mono N1),(V.mono N1),(S.mono N1)⟩)<|gy z z (al' z) z<|yy (l' z z) z<|nx<|aL' hr z (fun dk hr=>?_) (fun dk hr=>?_)
   .refine sr<|sx0 z z<|j'<|a' (k0' hr z z)
   refine q'<|as' cH ⟨mr,hr⟩ (f1 z) (w1 z)
  refine yy (l' z z) z<|mv z z<|sn3 z<|yy (h' z z) z<|nx<|U' z<|sr<|sx0 z z<|j'<|a' (k0' hr z z)
 rintro aT ⟨p,hr⟩
 refine sr<|yy (o' 11 aB' z z z) z ?_
 obtain⟨dN,cu,hr⟩:=hr
 refine P' z z (t' E11 z) (bK' cu) z (⟨(s.mono (mx e p)),(x.mono (mx e p)),(q.mono (mx e p)),(R.mono (mx e p))⟩) (fun dD d5 M a5=>?_)
 obtain⟨b0,bV,cl,ck,bX,ca,rfl,aG,cj,cd⟩:=a5
 refine mv z z<|yy (x' z z) z<|yy (x' z z) z<|Q' 17 z z31 z fun b6=>s' 17 z aV' z z z z z (List.all_eq_true.1 z)<|sg z z<|nr<|yy (o' 11 aB' z z z) z ?_
 obtain⟨dS,cC,hr⟩:=hr
 have N2:=mx (mx e p) M
 refine P' z z (t' E11 z) (bK' cC) z (⟨(s.mono N2),(x.mono N2),(q.mono N2),(R.mono N2)⟩) (fun dB d8 af a6=>?_)
 obtain⟨bT,bZ,cw,cz,cc,b9,rfl,aH,cs,ce⟩:=a6
 refine mv z z<|yy (x' z z) z<|yy (x' z z) z<|Q' 19 z z31 z fun b7=>s' 19 z aV' z z z z z (List.all_eq_true.1 z)<|sg z z<|nr<|yy (o' 11 aB' z z z) z ?_
 obtain⟨dX,cE,hr⟩:=hr
 have N3:=mx N2 af
 refine P' z z (t' E11 z) (bK' cE) z (⟨(s.mono N3),(x.mono N3),(q.mono N3),(R.mono N3)⟩) (fun dC d2 bb a7=>?_)
 obtain⟨bU,bW,cv,cr,bS,bY,rfl,cf,co,cb⟩:=a7
 refine mv z z<|yy (x' z z) z<|yy (x' z z) z<|Q' 21 z z31 z fun b8=>s' 21 z aV' z z z z z (List.all_eq_true.1 z)<|sg z z<|nr<|mv z z<|ac' hr z (at' z z) z (fun dz hr=>?_) (fun dz hr=>?_)
 .refine mv z z<|gy z z (e' z) z<|ac' hr (w' z z) (at' z z) z (fun dn hr=>?_) (fun dn hr=>?_)
  .refine yy (h' z z) z<|mv z z<|gy z z (e' z) z<|ac' hr (w' z z) (at' z z) z (fun dp hr=>?_) (fun dp hr=>?_)
   .refine yy (h' z z) z<|mv z z<|gy z z (aF' z) z<|gy z z (f' 17 bB' z z z) z<|gy z z (M' F' (aG.mono (mx af bb)) z) z<|ac' hr (w' z z) (at' z z) z (fun dy hr=>?_) (fun dy hr=>?_)
    .refine yy (h' z z) z<|mv z z<|gy z z (aF' z) z<|gy z z (f' 19 bB' z z z) z<|gy z z (M' F' (aH.mono bb) z) z<|ac' hr (w' z z) (at' z z) z (fun du hr=>?_) (fun du hr=>?_)
     .refine yy (h' z z) z<|mv z z<|gy z z (av' (vs:=#[(3,i' 1)]) (v:=.agg ([.slice none 0 0,.slice none 0 0,.slice none 0 0,i' 1]).toArray) z z (fun _=>by kernel_rfl)) z<|gy z z (av' (vs:=#[(0,.agg ([.slice none 0 0,.slice none 0 0,.slice none 0 0,i' 1]).toArray)]) (v:=.agg ([.slice none 0 0,.slice none 0 0,.slice none 0 0,i' 1,.slice none 0 0]).toArray) z z (fun _=>by kernel_rfl)) z ?_
      obtain⟨dG,cD,hr⟩:=hr
      refine E' (w' z z) z (t' E18 z) (cl' cD) z (⟨(R' Rp.str _),(R' b' _),(R' b' _),(R' X' _)⟩)<|gy z z (al' z) z<|yy (h' z z) z<|sx0 z z<|j' (k0' hr z z)
     refine yy (h' z z) z<|mv z z<|sn4 z<|yy (l' z z) z<|sx0 z z<|j' (k0' hr z z)
    refine yy (h' z z) z<|mv z z<|sn4 z<|yy (l' z z) z<|mv z z<|sn4 z<|yy (l' z z) z<|sx0 z z<|j' (k0' hr z z)
   refine yy (h' z z) z<|mv z z<|sn4 z<|yy (l' z z) z<|mv z z<|sn4 z<|yy (l' z z) z<|mv z z<|sn4 z<|yy (l' z z) z<|sx0 z z<|j' (k0' hr z z)
  refine yy (h' z z) z<|mv z z<|sn2 z<|yy (l' z z) z<|mv z z<|sn4 z<|yy (l' z z) z<|mv z z<|sn4 z<|yy (l' z z) z<|mv z z<|sn4 z<|yy (l' z z) z<|sx0 z z<|j' (k0' hr z z)
 refine mv z z<|sn2 z<|yy (l' z z) z<|mv z z<|sn2 z<|yy (l' z z) z<|mv z z<|sn4 z<|yy (l' z z) z<|mv z z<|sn4 z<|yy (l' z z) z<|mv z z<|sn4 z<|yy (l' z z) z<|sx0 z z<|j' (k0' hr z z)
theorem gP'{r}(hr:(ZjY).Ret r):Ctr prog 45 #[] (fun G=>True) (wl' Rp.str r):=by
 refine H' (args:=[]) (N:=2) func45 z z z fun j k c g=>sr<|sg z z<|nr<|bc' (e:=9) (r:=Rp.str) (vs:=#[(0,.string Zr),(1,.string ZJ),(2,.string Zas),(3,.string Zai),(4,.string Z6),(5,.string Z1)]) (cs:=[.string Zr]++([.string ZJ]++([.string Zas]++([.string Zai]++([.string Z6]++([.string Z1]++([]))))))) ([Zr,ZJ,Zas,Zai,Z6,Z1]:List ByteArray) z z z z z (by decide) (fun _=>by kernel_rfl) ⟨[.string Zr],[.string ZJ]++([.string Zas]++([.string Zai]++([.string Z6]++([.string Z1]++([]))))),z,z,⟨[.string ZJ],[.string Zas]++([.string Zai]++([.string Z6]++([.string Z1]++([])))),z,z,⟨[.string Zas],[.string Zai]++([.string Z6]++([.string Z1]++([]))),z,z,⟨[.string Zai],[.string Z6]++([.string Z1]++([])),z,z,⟨[.string Z6],[.string Z1]++([]),z,z,⟨[.string Z1],[],z,z,z⟩⟩⟩⟩⟩⟩ (key:=999) z (by rw[c]; rfl) fun i h f d=>sx0 z z<|j' ?_
 obtain rfl:_=r:=hr
 exact k' z z ⟨_,_,z,d⟩
theorem he'{c r}(hr:(ZhJ c).Ret r):Ctr prog 61 #[.int .i8 c] (fun G=>True) (fun G v=>v=i' r):=by
 refine H' (args:=[_]) (N:=10) func61 z z z fun g h f e=>sr<|sx0 z z<|n'<|sr<|mv z z<|yy (aj' z z) z<|nx<|L' hr z (fun d hr=>?_) (fun d hr=>?_)
 .refine sr<|mv z z<|yy (aN' ez' aA' z) z<|yy (Y0.neg z) z<|sx0 z z<|j'<|a' (k0' hr z z)
 refine q'<|g'<|sr<|mv z z<|yy (aN' ez' aA' z) z<|sx0 z z<|j' (k0' hr z z)
theorem dU'{g k j r}(hr:(Zce g).Ret r):Ctr prog 166 #[.slice k g.length j] (fun G=>sl (Rp.int .u32) G k j g) (wl' (Rp.int .u32) r):=by
 refine H' (args:=[_]) (N:=21) func166 z z z (fun s l E p=>?_)
 have i:=p
 refine sr<|sg z z<|nr<|mv z z<|yy (M' D' i z) z<|sx0 z z<|n'<|am' (fun (⟨h,f⟩:Int×Mem)=>[(0,.slice k g.length j),(3,i' h)]) (fun ⟨h,f⟩=>Mem.le l f/\(Zfj g h).Ret r) (fun ⟨h,f⟩=>St s l f []) ?_ ?_
 .refine C' ?_
  let m:Int->Prop:=fun A=>((fun x=>match x with|h=>Zfj g h:Int->Cq (List Int)) A).wp (fun a=>a=r)
  replace hr:(Cq.loop _ _).wp m:=hr
  refine an' (Φ:=m) (fun (⟨e,c⟩:Int×Mem)=>(e:Int)) (fun ⟨e,c⟩=>[(0,.slice k g.length j),(3,i' e)]) (fun ⟨e,c⟩=>Mem.le l c) (fun ⟨e,c⟩=>St s l c []) ⟨(g.length:Int),l⟩ hr (f2 z z) mr (wk ln) ?_
  .intro C y B hr
   obtain⟨e,c⟩:=y
   have d:=B
   refine n'<|sr<|mv z z<|ac' hr z (be' z z) z (fun u hr=>?_) (fun u hr=>?_)
   .refine mv z z<|gy z z (e' z) z<|gy z z (e' z) z<|gy z z (bk' z z) z ?_
    obtain⟨H,o,hr⟩:=hr
    refine gy z z (V' D' bs' (i.mono d) z z o) z<|gy z z (aa' bY' z (aI' (J' (af' i o) d))) z<|gy z z (at' z z) z<|yy (h' z z) z<|nx<|L' hr z (fun v hr=>?_) (fun v hr=>?_)
    .refine q'<|g'<|C'<|A'<|mv z z<|yy (bk' z z) z<|sg z z<|v'<|I'<|Y' ⟨i64.wrap (e-1),c⟩ hr d (f2 z z) (wk ln)
    refine ap'<|r'<|r'<|O'<|aq' ⟨e,c⟩ ⟨d,hr⟩ (f2 z z) (wk ln)
   refine mv z z<|sn6 z<|yy (l' z z) z<|nx<|bd' z<|ap'<|r'<|r'<|O'<|aq' ⟨e,c⟩ ⟨d,hr⟩ (f2 z z) (wk ln)
 rintro⟨h,f⟩ ⟨n,hr⟩
 refine g'<|sr<|mv z z<|mv z z ?_
 obtain⟨q,hr⟩:=hr
 refine WL.sliceRH (r:=(Rp.int .u32)) z z D' bs' z (i.mono n) z z q fun F D t=>sx0 z z<|j' ?_
 obtain rfl:_=r:=hr
 exact k' z z ⟨_,_,z,t⟩
theorem es'{c r}(hr:(ZdG c).Ret r):Ctr prog 119 #[.int .u64 c] (fun G=>True) (wl' (Rp.int .u32) r):=by
 refine H' (args:=[_]) (N:=11) func119 z z z fun v t i o=>sr<|sg z z<|nr<|mv z z<|yy (bA' z z (by decide)) z<|yy (aN' az' aG' z) z<|mv z z<|yy (dZ' z z (by decide)) z<|yy (aN' az' aG' z) z<|bc' (e:=202) (r:=(Rp.int .u32)) (vs:=#[(0,.int .u32 (u32.wrap (Int.tmod c 4294967296))),(1,.int .u32 (u32.wrap (u64.wrap (Int.tdiv c 4294967296))))]) (cs:=[.int .u32 (u32.wrap (Int.tmod c 4294967296))]++([.int .u32 (u32.wrap (u64.wrap (Int.tdiv c 4294967296)))]++([]))) ([u32.wrap (Int.tmod c 4294967296),u32.wrap (u64.wrap (Int.tdiv c 4294967296))]:List Int) z z z z z (by decide) (fun _=>by kernel_rfl) ⟨[.int .u32 (u32.wrap (Int.tmod c 4294967296))],[.int .u32 (u32.wrap (u64.wrap (Int.tdiv c 4294967296)))]++([]),z,z,⟨[.int .u32 (u32.wrap (u64.wrap (Int.tdiv c 4294967296)))],[],z,z,z⟩⟩ (key:=999) z (by rw[i]; rfl) (fun u p k h=>?_)
 obtain⟨q,g,hr⟩:=hr
 refine P' z z (t' E166 z) (dU' g) z (h) (fun l s j d=>?_)
 obtain⟨n,m,rfl,f⟩:=d
 refine sx0 z z<|j' ?_
 obtain rfl:_=r:=hr
 exact k' z z ⟨_,_,z,f⟩
theorem cS'{h m k j r}(hr:(Za0 h m).Ret r):Ctr prog 118 #[.bool h,.slice k m.length j] (fun G=>sl (Rp.int .u32) G k j m) (w128' r):=by
 refine H' (args:=[_,_]) (N:=16) func118 z z z (fun A y u l=>?_)
 have o:=l
 refine sr<|Q' 4 z z128 z fun x=>nr<|mv z z ?_
 obtain⟨c,n,hr⟩:=hr
 refine P' z z (t' E166 z) (dU' n) z (o) (fun s t q g=>?_)
 obtain⟨e,d,rfl,f⟩:=g
 refine sg z z<|nr<|ac' hr z (cK' (e' z) (congrArg Value.bool (bdec _))) z (fun p hr=>?_) (fun p hr=>?_)
 .refine mv z z<|gy z z (e' z) z<|gy z z (M' D' f z) z<|gy z z (be' z z) z<|yy (h' z z) z<|mv z z<|yy (av' (vs:=#[(0,.bool (decide (0<(c.length:Int)))),(1,.slice e c.length d)]) (v:=.agg ([.bool (decide (0<(c.length:Int))),.slice e c.length d]).toArray) z z (fun _=>by kernel_rfl)) z<|s' 4 z do' z z z z z (List.all_eq_true.1 z)<|nx<|j' ?_
  obtain rfl:_=r:=hr
  exact k' z (ad' (i:=4) bt' z z z) ⟨_,_,z,f⟩
 refine mv z z<|sn3 z<|yy (l' z z) z<|mv z z<|yy (av' (vs:=#[(0,.bool false),(1,.slice e c.length d)]) (v:=.agg ([.bool false,.slice e c.length d]).toArray) z z (fun _=>by kernel_rfl)) z<|s' 4 z do' z z z z z (List.all_eq_true.1 z)<|nx<|j' ?_
 obtain rfl:_=r:=hr
 exact k' z (ad' (i:=4) bt' z z z) ⟨_,_,z,f⟩
theorem ga'{u r}(hr:(ZiU u).Ret r):Ctr prog 84 #[i' u] (fun G=>True) (w128' r):=by
 refine H' (args:=[_]) (N:=16) func84 z z z fun Y X V K=>sr<|Q' 2 z z128 z fun W=>nx<|n'<|sr<|mv z z<|yy (aj' z z) z<|nx<|L' hr z (fun v hr=>?_) (fun v hr=>?_)
 .refine sr<|mv z z<|yy (W' z z) z<|yy (Y0.neg z) z<|yy (aN' underlying2 az' z) z<|yy (W' z z) z ?_
  obtain⟨Q,o,hr⟩:=hr
  refine P' z z (t' E119 z) (es' o) z (trivial) (fun C M B d=>?_)
  obtain⟨I,F,rfl,n⟩:=d
  obtain⟨O,j,hr⟩:=hr
  refine P' z z (t' E118 z) (cS' j) z (n) (fun L T A g=>?_)
  obtain⟨s,q,rfl,e⟩:=g
  refine s' 2 z do' z z z z z (List.all_eq_true.1 z)<|nx<|j'<|a' ?_
  obtain rfl:_=r:=hr
  exact k' z (ad' (i:=2) bt' z z z) ⟨_,_,z,e⟩
 refine q'<|g'<|sr<|mv z z<|yy (aN' underlying2 az' z) z ?_
 obtain⟨S,m,hr⟩:=hr
 refine P' z z (t' E119 z) (es' m) z (trivial) (fun J U y c=>?_)
 obtain⟨D,H,rfl,l⟩:=c
 obtain⟨P,k,hr⟩:=hr
 refine P' z z (t' E118 z) (cS' k) z (l) (fun E R x f=>?_)
 obtain⟨p,t,rfl,h⟩:=f
 refine s' 2 z do' z z z z z (List.all_eq_true.1 z)<|nx<|j' ?_
 obtain rfl:_=r:=hr
 exact k' z (ad' (i:=2) bt' z z z) ⟨_,_,z,h⟩
theorem fM'{q r}(hr:(ZdH q).Ret r):Ctr prog 64 #[i' q] (fun G=>True) (w130' r):=by
 refine H' (args:=[_]) (N:=7) func64 z z z fun E D B u=>sr<|Q' 2 z z130 z fun C=>nr<|mv z z ?_
 obtain⟨m,p,hr⟩:=hr
 refine P' z z (t' E84 z) (ga' p) z (trivial) (fun t y s g=>?_)
 obtain⟨c,d,rfl,j⟩:=g
 obtain⟨l,o,hr⟩:=hr
 refine P' z z (t' E84 z) (ga' o) z (trivial) (fun x A n k=>?_)
 obtain⟨f,e,rfl,h⟩:=k
 refine yy (av' (vs:=#[(0,.agg ((v128' m c d)).toArray),(1,.agg ((v128' l f e)).toArray)]) (v:=.agg ([.bool m.neg,.slice c m.mag.length d,.bool l.neg,.slice f l.mag.length e]).toArray) z z (fun _=>by kernel_rfl)) z<|s' 2 z sz130 z z z z z (List.all_eq_true.1 z)<|nx<|j' ?_
 obtain rfl:_=r:=hr
 exact k' z (ad' (i:=2) cR' z z z) ⟨_,_,_,_,z,(j.mono n),h⟩
theorem fb'{f d c r}(hr:(Zf4 f).Ret r):Ctr prog 115 #[.agg ((v128' f d c)).toArray] (fun G=>sl (Rp.int .u32) G d c f.mag) (fun G v=>v=i' r):=by
 refine H' (args:=[_]) (N:=9) func115 z z z (fun k l i g=>?_)
 have e:=g
 refine sr<|ag' 1 z z z fun j=>sx0 z z<|n'<|sr<|yy (br' z) z<|yy (f' 1 sc4 z z z) z<|nx<|aL' hr z (fun h hr=>?_) (fun h hr=>?_)
 .refine sr<|sx0 z z<|j'<|a' (k0' hr z z)
 refine q'<|g'<|sr<|yy (ba' z) z<|yy (f' 1 bN' z z z) z<|yy (M' D' e z) z<|yy (Y0.min2 z z) z<|sx0 z z<|j' (k0' hr z z)
theorem fc'{h d c f e r}(hr:(Zcf h).Ret r):Ctr prog 82 #[.agg ((v130' h d c f e)).toArray] (fun G=>sl (Rp.int .u32) G d c h.num.mag/\sl (Rp.int .u32) G f e h.den.mag) (fun G v=>v=i' r):=by
 refine H' (args:=[_]) (N:=6) func82 z z z (fun o p m j=>?_)
 obtain⟨g,i⟩:=j
 refine sr<|ag' 1 z z z fun n=>sg z z<|nr<|yy (cF' z) z<|yy (aJ' ((v128' h.num d c)).toArray 1 bt' z z z (aU' ([]) ((v128' h.num d c)) ((v128' h.den f e)))) z ?_
 obtain⟨l,k,hr⟩:=hr
 refine E' z z (t' E115 z) (fb' k) z (g)<|sx0 z z<|j' (k0' hr z z)
theorem fN'{l r}(hr:(ZeY l).Ret r):Ctr prog 148 #[.agg (vecG (Value.int .i64) 8 l).toArray] (fun G=>True) (fun G v=>v = .bool r):=by
 refine H' (args:=[_]) (N:=18) func148 z z z fun o h B t=>sr<|ag' 1 z z z fun m=>sx0 z z<|n'<|sr<|sx0 z z<|am' (fun (e:Mem)=>match e with|d=>[]) (fun (e:Mem)=>match e with|d=>Mem.le h d/\(Zep).Ret r) (fun (e:Mem)=>match e with|d=>St o h d []) ?_ ?_
 .refine C' ?_
  let i:(Bool⊕Unit)->Prop:=fun x=>((fun u=>match u with | .inl rv1=>Cq.ret rv1 | .inr ()=>Zep:(Bool⊕Unit)->Cq Bool) x).wp (fun a=>a=r)
  replace hr:(Cq.loop _ _).wp i:=hr
  refine an' (Φ:=i) (fun (⟨f,c⟩:Int×Mem)=>(f:Int)) (fun ⟨f,c⟩=>[(1,pt0 m),(3,i' f)]) (fun ⟨f,c⟩=>Mem.le h c) (fun ⟨f,c⟩=>St o h c [(1,bk0 m (vecG (Value.int .i64) 8 l) 120)]) ⟨0,h⟩ hr (f2 z z) mr (w1 z) ?_
  .intro A e y hr
   obtain⟨f,c⟩:=e
   have g:=y
   refine n'<|sr<|mv z z<|yy (aj' z z) z<|nx<|L' hr z (fun q hr=>?_) (fun q hr=>?_)
   .refine q'<|g'<|n'<|C'<|sr<|mv z z ?_
    obtain⟨j,hr⟩:=hr
    refine yy (bj' aO' sz3 z z j) z<|yy (f' 1 sc3 z z (bi' _ _ _ j)) z<|ac' hr z (aj' z z) z (fun p hr=>?_) (fun p hr=>?_)
    .refine mv z z<|sn4 z<|yy (h' z z) z<|nx<|U' z<|sr<|sx0 z z<|j'<|m'<|a'<|a'<|m'<|ab'<|a' (k0' hr z z)
    refine mv z z<|gy z z (e' z) z ?_
    obtain⟨k,hr⟩:=hr
    refine gy z z (bj' aO' sz3 z z k) z<|gy z z (f' 1 sc3 z z (bi' _ _ _ k)) z<|gy z z (be' z z) z<|yy (l' z z) z<|nx<|L' hr z (fun n hr=>?_) (fun n hr=>?_)
    .exact (show False from hr).elim
    refine q'<|I'<|g'<|A'<|mv z z<|yy (W' z z) z<|sg z z<|v'<|Y' ⟨i64.wrap (f+1),c⟩ hr g (f2 z z) (w1 z)
   refine ap'<|r'<|r'<|O'<|aq' c ⟨g,hr⟩ fn (wk ln)
 rintro d ⟨s,hr⟩
 refine g'<|sr<|sx0 z z<|j' (k0' hr z z)
theorem hf'{s k r}(hr:(ZjA s k).Ret r):Ctr prog 116 #[.agg (vecG (Value.int .i64) 8 s).toArray,.agg (vecG (Value.int .i64) 8 k).toArray] (fun G=>True) (fun G v=>v = .tuple #[.agg (vecG (Value.int .i64) 8 r.1).toArray,i' r.2]):=by
 refine H' (args:=[_,_]) (N:=24) func116 z z z fun B l Q I=>sr<|ag' 2 z z z fun n=>ag' 3 z z z fun y=>Q' 4 z z120 z fun o=>sx0 z z<|n'<|sr<|sx0 z z<|am' (fun (⟨d,g⟩:(Fin 8->Int)×Mem)=>[(2,pt0 n),(4,pt0 o)]) (fun ⟨d,g⟩=>Mem.le l g/\(Zga d).Ret r) (fun ⟨d,g⟩=>St B l g [(2,bk0 n (vecG (Value.int .i64) 8 d) 120),(4,bk0 o (vecG (Value.int .i64) 8 (fun _=>0)) 120)]) ?_ ?_
 .refine C' ?_
  let m:(Fin 8->Int)->Prop:=fun L=>((fun J=>match J with|d=>Zga d:(Fin 8->Int)->Cq ((Fin 8->Int)×Int)) L).wp (fun a=>a=r)
  replace hr:(Cq.loop _ _).wp m:=hr
  refine an' (Φ:=m) (fun (⟨e,c,f⟩:Int×(Fin 8->Int)×Mem)=>((e,c):Int×(Fin 8->Int))) (fun ⟨e,c,f⟩=>[(2,pt0 n),(3,pt0 y),(4,pt0 o),(6,i' e)]) (fun ⟨e,c,f⟩=>Mem.le l f) (fun ⟨e,c,f⟩=>St B l f [(2,bk0 n (vecG (Value.int .i64) 8 c) 120),(3,bk0 y (vecG (Value.int .i64) 8 k) 120),(4,bk0 o (vecG (Value.int .i64) 8 (fun _=>0)) 120)]) ⟨0,s,l⟩ hr (f4 z z z z) mr (w3 z z z) ?_
  .intro P K M hr
   obtain⟨e,c,f⟩:=K
   have j:=M
   refine n'<|sr<|mv z z<|yy (aj' z z) z<|nx<|L' hr z (fun A hr=>?_) (fun A hr=>?_)
   .refine q'<|g'<|n'<|C'<|ah' [ff,ff,ff,ff,ff,ff] mix (by kernel_rfl) fun H=>cn (fun _ h=>e' z) ?_
    obtain⟨p,hr⟩:=hr
    refine cn (fun _ h=>bj' aO' sz3 z z p)<|cn (fun _ h=>f' 2 sc3 z z (bi' _ _ _ p))<|cn (fun _ h=>e' z) ?_
    obtain⟨q,hr⟩:=hr
    refine cn (fun _ h=>bj' aO' sz3 z z q)<|cn (fun _ h=>f' 3 sc3 z z (bi' _ _ _ q))<|T' H<|yy (W' z z) z ?_
    obtain⟨D,hr⟩:=hr
    refine yy (bj' aO' sz3 z z D) z<|aD' 2 (vecG (Value.int .i64) 8 (setF c e.toNat (i64.wrap ((getF c e)+(getF k e))))).toArray z sz3 z z z (by first|(rw[ae']; omega)|(show _<(vecG _ _ _).toArray.size; rw[ae']; omega)) z (cj' _ _ _ _ _)<|v'<|ar'<|I'<|g'<|A'<|mv z z<|yy (W' z z) z<|sg z z<|v'<|Y' ⟨i64.wrap (e+1),setF c e.toNat (i64.wrap ((getF c e)+(getF k e))),f⟩ hr j (f4 z z z z) (w3 z z z)
   refine ap'<|r'<|r'<|O'<|aq' ⟨c,f⟩ ⟨j,hr⟩ (f2 z z) (w2 z z)
 rintro⟨d,g⟩ ⟨F,hr⟩
 refine g'<|n'<|sr<|yy (o' 2 bW' z z (ae' _ _ _)) z ?_
 obtain⟨O,t,hr⟩:=hr
 refine E' z z (t' E148 z) (fN' t) z (trivial)<|yy (al' z) z<|nx<|aL' hr z (fun E hr=>?_) (fun E hr=>?_)
 .exact (show False from hr).elim
 refine q'<|g'<|sr<|yy (o' 2 bW' z z (ae' _ _ _)) z<|s' 4 z sz120 z z z (ae' _ _ _) (ae' _ _ _) (fun u C=>Rp.one (dz' .i64 8) (G:=g) (x:=d) (cs:=vecG (Value.int .i64) 8 d) z u (by first|simpa using C|simpa [Value.cells] using C))<|sx0 z z<|j' ?_
 obtain rfl:_=r:=hr
 exact aH' z (ad' (i:=4) bW' z z (ae' _ _ _)) z z
theorem gQ'{d c B H E F r}(hr:(ZjW d c).Ret r):Ctr prog 165 #[.slice B d.length H,.slice E c.length F] (fun G=>sl (Rp.int .u32) G B H d/\sl (Rp.int .u32) G E F c) (wl' (Rp.int .u32) r):=by
 refine H' (args:=[_,_]) (N:=69) func165 z z z (fun Z O ar ao=>?_)
 obtain⟨I,C⟩:=ao
 refine sr<|sg z z<|nr<|mv z z<|yy (M' D' I z) z<|mv z z<|yy (M' D' C z) z<|yy (W' z z) z ?_
 obtain⟨aq,hr⟩:=hr
 refine dT' (r:=(Rp.int .u32)) (e:=202) (n:=i64.wrap ((d.length:Int)+(c.length:Int))) (zx:=0) 4015 z z D' el202 z (by decide) (by decide) z z z aq fun M ag av=>sx0 z z<|n'<|sr<|sx0 z z<|am' (fun (⟨A,q,K⟩:(List Int)×Option Ow×Mem)=>[(5,.slice M (i64.wrap ((d.length:Int)+(c.length:Int))).toNat ((i64.wrap ((d.length:Int)+(c.length:Int))).toNat))]) (fun ⟨A,q,K⟩=>Mem.le O K/\RowR (Rp.int .u32) 202 K (.slice M (i64.wrap ((d.length:Int)+(c.length:Int))).toNat ((i64.wrap ((d.length:Int)+(c.length:Int))).toNat)) A q/\(Zen A).Ret r) (fun ⟨A,q,K⟩=>St Z O K [(4015,q)]) ?_ ?_
 .refine C' ?_
  let L:(List Int)->Prop:=fun oo=>((fun ov=>match ov with|A=>Zen A:(List Int)->Cq (List Int)) oo).wp (fun a=>a=r)
  replace hr:(Cq.loop _ _).wp L:=hr
  refine an' (Φ:=L) (fun (⟨s,h,g,x⟩:(List Int)×Option Ow×Int×Mem)=>((s,g):(List Int)×Int)) (fun ⟨s,h,g,x⟩=>[(0,.slice B d.length H),(1,.slice E c.length F),(5,.slice M (i64.wrap ((d.length:Int)+(c.length:Int))).toNat ((i64.wrap ((d.length:Int)+(c.length:Int))).toNat)),(6,i' g)]) (fun ⟨s,h,g,x⟩=>Mem.le O x/\RowR (Rp.int .u32) 202 x (.slice M (i64.wrap ((d.length:Int)+(c.length:Int))).toNat ((i64.wrap ((d.length:Int)+(c.length:Int))).toNat)) s h) (fun ⟨s,h,g,x⟩=>St Z O x [(4015,h)]) ⟨(List.replicate (i64.wrap ((d.length:Int)+(c.length:Int))).toNat 0),ag,0,O⟩ hr (f4 z z z z) ⟨mr,av⟩ (w1 z) ?_
  .intro ad gx hx hr
   obtain⟨s,h,g,x⟩:=gx
   obtain⟨j,R⟩:=hx
   refine n'<|sr<|mv z z<|mv z z<|yy (M' D' (I.mono j) z) z<|yy (aj' z z) z<|nx<|L' hr z (fun ay hr=>?_) (fun ay hr=>?_)
   .refine q'<|g'<|n'<|C'<|sr<|sx0 z z<|n'<|sr<|sx0 z z<|am' (fun (⟨v,u,m,J⟩:(List Int)×Option Ow×Int×Mem)=>[(0,.slice B d.length H),(1,.slice E c.length F),(5,.slice M (i64.wrap ((d.length:Int)+(c.length:Int))).toNat ((i64.wrap ((d.length:Int)+(c.length:Int))).toNat)),(6,i' g),(7,.int .u64 m)]) (fun ⟨v,u,m,J⟩=>Mem.le x J/\RowR (Rp.int .u32) 202 J (.slice M (i64.wrap ((d.length:Int)+(c.length:Int))).toNat ((i64.wrap ((d.length:Int)+(c.length:Int))).toNat)) v u/\(Zeo c g v m).wp (Out ad L)) (fun ⟨v,u,m,J⟩=>St Z O J [(4015,u)]) ?_ ?_
    .refine C' ?_
     let T:(((List Int)×Int))->Prop:=fun oo=>((fun ov=>match ov with|(v,m)=>Zeo c g v m:(((List Int)×Int))->Cq (((List Int)×Int)⊕(List Int))) oo).wp (Out ad L)
     replace hr:(Cq.loop _ _).wp T:=hr
     refine an' (Φ:=T) (fun (⟨t,k,l,p,D⟩:(List Int)×Option Ow×Int×Int×Mem)=>((t,l,p):(List Int)×Int×Int)) (fun ⟨t,k,l,p,D⟩=>[(0,.slice B d.length H),(1,.slice E c.length F),(5,.slice M (i64.wrap ((d.length:Int)+(c.length:Int))).toNat ((i64.wrap ((d.length:Int)+(c.length:Int))).toNat)),(6,i' g),(7,.int .u64 l),(8,i' p)]) (fun ⟨t,k,l,p,D⟩=>Mem.le x D/\RowR (Rp.int .u32) 202 D (.slice M (i64.wrap ((d.length:Int)+(c.length:Int))).toNat ((i64.wrap ((d.length:Int)+(c.length:Int))).toNat)) t k) (fun ⟨t,k,l,p,D⟩=>St Z O D [(4015,k)]) ⟨s,h,0,0,x⟩ hr (f6 z z z z z z) ⟨mr,R⟩ (w1 z) ?_
     .intro aI gx hx hr
      obtain⟨t,k,l,p,D⟩:=gx
      obtain⟨o,y⟩:=hx
      refine n'<|sr<|mv z z<|mv z z<|yy (M' D' (C.mono (mx j o)) z) z<|yy (aj' z z) z<|nx<|L' hr z (fun au hr=>?_) (fun au hr=>?_)
      .refine q'<|g'<|n'<|C'<|n'<|ah' [ff,ff,ff,ff,ff,ff,ff,ff,ff,ff,ff,ff,ff,ff,ff,ff,ff,ff,ff,ff] mix (by kernel_rfl) fun hb=>cn (fun _ f=>e' z)<|cn (fun _ f=>e' z) ?_
       obtain⟨V,aa,hr⟩:=hr
       refine cn (fun _ f=>V' D' bs' ((I.mono (mx j o)).mono f) z z aa)<|cn (fun _ f=>aa' bY' z (aI' (J' (J' (af' I aa) (mx j o)) f)))<|cn (fun _ f=>aN' aG' az' z)<|cn (fun _ f=>e' z)<|cn (fun _ f=>e' z) ?_
       obtain⟨X,ae,hr⟩:=hr
       refine cn (fun _ f=>V' D' bs' ((C.mono (mx j o)).mono f) z z ae)<|cn (fun _ f=>aa' bY' z (aI' (J' (J' (af' C ae) (mx j o)) f)))<|cn (fun _ f=>aN' aG' az' z)<|cn (fun _ f=>Y0.mul z z)<|cn (fun _ f=>e' z)<|cn (fun _ f=>e' z)<|cn (fun _ f=>e' z)<|cn (fun _ f=>W' z z) ?_
       obtain⟨W,ab,hr⟩:=hr
       refine cn (fun _ f=>aQ' D' bs' (y.mono f) z z ab)<|cn (fun _ f=>dk' bY' (y.mono f) (key:=4015) z z (aI' (cA' y ab)))<|cn (fun _ f=>aN' aG' az' z)<|cn (fun _ f=>W' z z)<|cn (fun _ f=>e' z)<|T' hb<|yy (W' z z) z<|sg z z<|v'<|ar'<|g'<|sr<|mv z z<|mv z z<|mv z z<|yy (W' z z) z<|mv z z<|yy (bA' z z (by decide)) z<|yy (aN' az' aG' z) z ?_
       obtain⟨x5,ac,hr⟩:=hr
       refine yy (aQ' D' bs' y z z ac) z<|bx' (r:=(Rp.int .u32)) (e:=202) (cs':=[.int .u32 (u32.wrap (Int.tmod (u64.wrap ((u64.wrap ((u64.wrap ((u64.wrap V)*(u64.wrap X)))+(u64.wrap W)))+l)) 4294967296))]) (i:=i64.wrap (g+p)) (z':=u32.wrap (Int.tmod (u64.wrap ((u64.wrap ((u64.wrap ((u64.wrap V)*(u64.wrap X)))+(u64.wrap W)))+l)) 4294967296)) 4015 z bs' z y z z z z z ac fun aw an=>nx<|A'<|mv z z<|yy (dZ' z z (by decide)) z<|sg z z<|v'<|I'<|g'<|A'<|mv z z<|yy (W' z z) z<|sg z z<|v'<|Y' ⟨(t.set (i64.wrap (g+p)).toNat (u32.wrap (Int.tmod (u64.wrap ((u64.wrap ((u64.wrap ((u64.wrap V)*(u64.wrap X)))+(u64.wrap W)))+l)) 4294967296))),aw,u64.wrap (Int.tdiv (u64.wrap ((u64.wrap ((u64.wrap ((u64.wrap V)*(u64.wrap X)))+(u64.wrap W)))+l)) 4294967296),i64.wrap (p+1),D⟩ hr ⟨o,an⟩ (f6 z z z z z z) (w1 z)
      refine ap'<|r'<|r'<|O'<|aq' ⟨t,k,l,D⟩ ⟨o,y,hr⟩ (f5 z z z z z) (w1 z)
    rintro⟨v,u,m,J⟩ ⟨P,Q,hr⟩
    refine g'<|A'<|mv z z<|mv z z<|mv z z<|yy (M' D' (C.mono (mx j P)) z) z<|yy (W' z z) z<|mv z z<|yy (aN' az' aG' z) z ?_
    obtain⟨x1,af,hr⟩:=hr
    refine yy (aQ' D' bs' Q z z af) z<|bx' (r:=(Rp.int .u32)) (e:=202) (cs':=[.int .u32 (u32.wrap m)]) (i:=i64.wrap (g+(c.length:Int))) (z':=u32.wrap m) 4015 z bs' z Q z z z z z af fun ax al=>v'<|I'<|g'<|A'<|mv z z<|yy (W' z z) z<|sg z z<|v'<|Y' ⟨(v.set (i64.wrap (g+(c.length:Int))).toNat (u32.wrap m)),ax,i64.wrap (g+1),J⟩ hr ⟨(mx j P),al⟩ (f4 z z z z) (w1 z)
   refine ap'<|r'<|r'<|O'<|aq' ⟨s,h,x⟩ ⟨j,R,hr⟩ (f1 z) (w1 z)
 rintro⟨A,q,K⟩ ⟨aA,Y,hr⟩
 refine g'<|sr<|mv z z<|bE' (r:=(Rp.int .u32)) (e:=202) 4015 Y z (by rw[ar]; rfl) (fun aH aK aC U aB=>?_)
 obtain⟨aL,ak,hr⟩:=hr
 refine P' z z (t' E166 z) (dU' ak) (by rw[dm' U]) ((df' U)) (fun aF aJ az S=>?_)
 obtain⟨aG,aE,rfl,am⟩:=S
 refine sx0 z z<|j' ?_
 obtain rfl:_=r:=hr
 exact k' z z ⟨_,_,z,am⟩
theorem eA'{A t j f g e r}(hr:(Zeg A t).Ret r):Ctr prog 114 #[.agg ((v128' A j f)).toArray,.agg ((v128' t g e)).toArray] (fun G=>sl (Rp.int .u32) G j f A.mag/\sl (Rp.int .u32) G g e t.mag) (w128' r):=by
 refine H' (args:=[_,_]) (N:=16) func114 z z z (fun T R M y=>?_)
 obtain⟨o,p⟩:=y
 refine sr<|ag' 2 z z z fun U=>ag' 3 z z z fun Q=>Q' 4 z z128 z fun V=>nx<|n'<|ah' [ff,ff,ff,ff,ff,ff,ff,ff,ff,ff] mix (by kernel_rfl) fun P=>cn (fun _ c=>br' z)<|cn (fun _ c=>f' 2 sc4 z z z)<|cn (fun _ c=>br' z)<|cn (fun _ c=>f' 3 sc4 z z z)<|cn (fun _ c=>er' bR' z z)<|cn (fun _ c=>ba' z)<|cn (fun _ c=>f' 2 bN' z z z)<|cn (fun _ c=>ba' z)<|cn (fun _ c=>f' 3 bN' z z z) ?_
 obtain⟨q,B,hr⟩:=hr
 refine aX' (post:=wl' (Rp.int .u32) q) (fun _=>z) (fun _ _=>t' E165 z) (gQ' B) z (fun O c=>⟨(o.mono c),(p.mono c)⟩) (fun v W S c h=>?_) ?_
 .obtain⟨x,u,rfl,k⟩:=h
  exact⟨_,_,z,k.mono c⟩
 refine cU' (d:=14) (post:=wl' (Rp.int .u32) q) (fun H J F l=>?_)
 obtain⟨x,u,rfl,k⟩:=l
 obtain⟨K,s,hr⟩:=hr
 refine P' z z (t' E118 z) (cS' s) z (k) (fun I L E n=>?_)
 obtain⟨D,C,rfl,m⟩:=n
 refine s' 4 z do' z z z z z (List.all_eq_true.1 z)<|v'<|ar'<|g'<|j' ?_
 obtain rfl:_=r:=hr
 exact k' z (ad' (i:=4) bt' z z z) ⟨_,_,z,m⟩
theorem dH'{g i e d r}(hr:(Zdb g i).Ret r):Ctr prog 194 #[.slice e g.length d,i' i] (fun G=>sl (Rp.int .u32) G e d g) (fun G v=>v = .int .u64 r):=by
 refine H' (args:=[_,_]) (N:=14) func194 z z z (fun l n k h=>?_)
 have c:=h
 refine sr<|sx0 z z<|n'<|sr<|mv z z<|mv z z<|yy (M' D' c z) z<|yy (aj' z z) z<|nx<|L' hr z (fun j hr=>?_) (fun j hr=>?_)
 .refine sr<|mv z z<|mv z z ?_
  obtain⟨m,f,hr⟩:=hr
  refine yy (V' D' bs' c z z f) z<|yy (aa' bY' z (aI' (af' c f))) z<|yy (aN' aG' az' z) z<|sx0 z z<|j'<|a' (k0' hr z z)
 refine q'<|g'<|sr<|sx0 z z<|j' (k0' hr z z)
theorem fw'{g e d r}(hr:(Zf5 g).Ret r):Ctr prog 208 #[.slice e g.length d] (fun G=>sl (Rp.int .u32) G e d g) (fun G v=>v = .int .u64 r):=by
 refine H' (args:=[_]) (N:=9) func208 z z z (fun m n l h=>?_)
 have c:=h
 refine sr<|sg z z<|nr<|mv z z ?_
 obtain⟨j,i,hr⟩:=hr
 refine E' z z (t' E194 z) (dH' i) z (c)<|yy (Y0.mul z z) z<|mv z z ?_
 obtain⟨k,f,hr⟩:=hr
 refine E' z z (t' E194 z) (dH' f) z (c)<|yy (W' z z) z<|sx0 z z<|j' (k0' hr z z)
theorem gI'{l k r}(hr:(ZiX l k).Ret r):Ctr prog 207 #[.int .u64 l,.int .u64 k] (fun G=>True) (fun G v=>v = .int .u64 r):=by
 refine H' (args:=[_,_]) (N:=14) func207 z z z fun n i A q=>sr<|sx0 z z<|n'<|am' (fun (⟨g,f⟩:Int×Mem)=>[(0,.int .u64 g)]) (fun ⟨g,f⟩=>Mem.le i f/\(ZdT g).Ret r) (fun ⟨g,f⟩=>St n i f []) ?_ ?_
 .refine C' ?_
  let j:Int->Prop:=fun u=>((fun s=>match s with|g=>ZdT g:Int->Cq Int) u).wp (fun a=>a=r)
  replace hr:(Cq.loop _ _).wp j:=hr
  refine an' (Φ:=j) (fun (⟨d,e,c⟩:Int×Int×Mem)=>((d,e):Int×Int)) (fun ⟨d,e,c⟩=>[(0,.int .u64 d),(1,.int .u64 e)]) (fun ⟨d,e,c⟩=>Mem.le i c) (fun ⟨d,e,c⟩=>St n i c []) ⟨l,k,i⟩ hr (f2 z z) mr (wk ln) ?_
  .intro y t x hr
   obtain⟨d,e,c⟩:=t
   have h:=x
   refine n'<|sr<|mv z z<|yy (be' z z) z<|nx<|L' hr z (fun o hr=>?_) (fun o hr=>?_)
   .refine q'<|g'<|C'<|sr<|mv z z<|mv z z ?_
    obtain⟨m,hr⟩:=hr
    refine yy (bA' z z m) z<|sg z z<|nr<|mv z z<|sx0 z z<|A'<|mv z z<|sg z z<|v'<|I'<|Y' ⟨e,Int.tmod d e,c⟩ hr h (f2 z z) (wk ln)
   refine ap'<|r'<|r'<|O'<|aq' ⟨d,c⟩ ⟨h,hr⟩ (f1 z) (wk ln)
 rintro⟨g,f⟩ ⟨p,hr⟩
 refine g'<|sr<|mv z z<|sx0 z z<|j' (k0' hr z z)
theorem dh'{p s m q k o r}(hr:(ZaD p s).Ret r):Ctr prog 163 #[.slice m p.length q,.slice k s.length o] (fun G=>sl (Rp.int .u32) G m q p/\sl (Rp.int .u32) G k o s) (fun G v=>v=i' r):=by
 refine H' (args:=[_,_]) (N:=41) func163 z z z (fun F l P B=>?_)
 obtain⟨f,g⟩:=B
 refine sr<|sx0 z z<|n'<|sr<|mv z z<|yy (M' D' f z) z<|mv z z<|yy (M' D' g z) z<|yy (aj' z z) z<|nx<|L' hr z (fun I hr=>?_) (fun I hr=>?_)
 .refine sr<|sx0 z z<|j'<|a' (k0' hr z z)
 refine q'<|g'<|n'<|sr<|mv z z<|yy (M' D' f z) z<|mv z z<|yy (M' D' g z) z<|yy (be' z z) z<|nx<|L' hr z (fun E hr=>?_) (fun E hr=>?_)
 .refine sr<|sx0 z z<|j'<|a' (k0' hr z z)
 refine q'<|g'<|n'<|sr<|mv z z<|yy (M' D' f z) z<|yy (bk' z z) z<|sx0 z z<|am' (fun (i:Mem)=>match i with|h=>[]) (fun (i:Mem)=>match i with|h=>Mem.le l h/\(ZcD).Ret r) (fun (i:Mem)=>match i with|h=>St F l h []) ?_ ?_
 .refine C' ?_
  let n:(Int⊕Unit)->Prop:=fun M=>((fun K=>match K with | .inl rv1=>Cq.ret rv1 | .inr ()=>ZcD:(Int⊕Unit)->Cq Int) M).wp (fun a=>a=r)
  replace hr:(Cq.loop _ _).wp n:=hr
  refine an' (Φ:=n) (fun (⟨j,e⟩:Int×Mem)=>(j:Int)) (fun ⟨j,e⟩=>[(0,.slice m p.length q),(1,.slice k s.length o),(5,i' j)]) (fun ⟨j,e⟩=>Mem.le l e) (fun ⟨j,e⟩=>St F l e []) ⟨i64.wrap ((p.length:Int)-1),l⟩ hr (f3 z z z) mr (wk ln) ?_
  .intro O i L hr
   obtain⟨j,e⟩:=i
   have d:=L
   refine n'<|sr<|mv z z<|yy (bf' z z) z<|nx<|L' hr z (fun H hr=>?_) (fun H hr=>?_)
   .refine q'<|g'<|n'<|C'<|n'<|n'<|ah' [ff,ff,ff,ff,ff,ff,ff,ff] mix (by kernel_rfl) fun A=>cn (fun _ c=>e' z)<|cn (fun _ c=>e' z) ?_
    obtain⟨T,y,hr⟩:=hr
    refine cn (fun _ c=>V' D' bs' ((f.mono d).mono c) z z y)<|cn (fun _ c=>aa' bY' z (aI' (J' (J' (af' f y) d) c)))<|cn (fun _ c=>e' z)<|cn (fun _ c=>e' z) ?_
    obtain⟨S,u,hr⟩:=hr
    refine cn (fun _ c=>V' D' bs' ((g.mono d).mono c) z z u)<|cn (fun _ c=>aa' bY' z (aI' (J' (J' (af' g u) d) c)))<|T' A<|yy (aj' z z) z<|v'<|ar'<|g'<|L' hr z (fun D hr=>?_) (fun D hr=>?_)
    .refine sr<|sx0 z z<|j'<|a'<|m'<|a'<|a'<|m'<|ab'<|a' (k0' hr z z)
    refine q'<|g'<|n'<|ah' [ff,ff,ff,ff,ff,ff,ff,ff] mix (by kernel_rfl) fun A=>cn (fun _ c=>e' z)<|cn (fun _ c=>e' z) ?_
    obtain⟨R,t,hr⟩:=hr
    refine cn (fun _ c=>V' D' bs' ((f.mono d).mono c) z z t)<|cn (fun _ c=>aa' bY' z (aI' (J' (J' (af' f t) d) c)))<|cn (fun _ c=>e' z)<|cn (fun _ c=>e' z) ?_
    obtain⟨Q,x,hr⟩:=hr
    refine cn (fun _ c=>V' D' bs' ((g.mono d).mono c) z z x)<|cn (fun _ c=>aa' bY' z (aI' (J' (J' (af' g x) d) c)))<|T' A<|yy (be' z z) z<|v'<|ar'<|g'<|L' hr z (fun C hr=>?_) (fun C hr=>?_)
    .refine sr<|sx0 z z<|j'<|m'<|a'<|a'<|m'<|ab'<|a' (k0' hr z z)
    refine q'<|I'<|g'<|A'<|mv z z<|yy (bk' z z) z<|sg z z<|v'<|Y' ⟨i64.wrap (j-1),e⟩ hr d (f3 z z z) (wk ln)
   refine ap'<|r'<|r'<|O'<|aq' e ⟨d,hr⟩ fn (wk ln)
 rintro h ⟨J,hr⟩
 refine g'<|sr<|sx0 z z<|j' (k0' hr z z)
theorem gD'{j s B D r}(hr:(ZhY j s).Ret r):Ctr prog 215 #[.slice B j.length D,.int .u64 s] (fun G=>sl (Rp.int .u32) G B D j) (fun G v=>∃ A y,v = .tuple #[.slice A r.1.length y,.int .u64 r.2]/\sl (Rp.int .u32) G A y r.1):=by
 refine H' (args:=[_,_]) (N:=41) func215 z z z (fun W x U O=>?_)
 have t:=O
 refine sr<|sg z z<|sg z z<|nr<|mv z z<|yy (M' D' t z) z ?_
 obtain⟨S,hr⟩:=hr
 refine dT' (r:=(Rp.int .u32)) (e:=202) (n:=(j.length:Int)) (zx:=0) 4012 z z D' el202 z (by decide) (by decide) z z z S fun F M X=>sg z z<|nr<|sx0 z z<|n'<|sr<|mv z z<|yy (M' D' t z) z<|yy (bk' z z) z<|sx0 z z<|am' (fun (⟨h,g,m,o⟩:(List Int)×Option Ow×Int×Mem)=>[(6,.slice F (j.length:Int).toNat ((j.length:Int).toNat)),(7,.int .u64 m)]) (fun ⟨h,g,m,o⟩=>Mem.le x o/\RowR (Rp.int .u32) 202 o (.slice F (j.length:Int).toNat ((j.length:Int).toNat)) h g/\(Zda h m).Ret r) (fun ⟨h,g,m,o⟩=>St W x o [(4012,g)]) ?_ ?_
 .refine C' ?_
  let C:(((List Int)×Int))->Prop:=fun oo=>((fun ov=>match ov with|(h,m)=>Zda h m:(((List Int)×Int))->Cq ((List Int)×Int)) oo).wp (fun a=>a=r)
  replace hr:(Cq.loop _ _).wp C:=hr
  refine an' (Φ:=C) (fun (⟨d,c,f,p,k⟩:(List Int)×Option Ow×Int×Int×Mem)=>((d,f,p):(List Int)×Int×Int)) (fun ⟨d,c,f,p,k⟩=>[(0,.slice B j.length D),(1,.int .u64 s),(6,.slice F (j.length:Int).toNat ((j.length:Int).toNat)),(7,.int .u64 f),(8,i' p)]) (fun ⟨d,c,f,p,k⟩=>Mem.le x k/\RowR (Rp.int .u32) 202 k (.slice F (j.length:Int).toNat ((j.length:Int).toNat)) d c) (fun ⟨d,c,f,p,k⟩=>St W x k [(4012,c)]) ⟨(List.replicate (j.length:Int).toNat 0),M,0,i64.wrap ((j.length:Int)-1),x⟩ hr (f5 z z z z z) ⟨mr,X⟩ (w1 z) ?_
  .intro an gx hx hr
   obtain⟨d,c,f,p,k⟩:=gx
   obtain⟨l,q⟩:=hx
   refine n'<|sr<|mv z z<|yy (bf' z z) z<|nx<|L' hr z (fun Y hr=>?_) (fun Y hr=>?_)
   .refine q'<|g'<|n'<|C'<|sr<|mv z z<|yy (Y0.mul z z) z<|mv z z<|mv z z ?_
    obtain⟨I,K,hr⟩:=hr
    refine yy (V' D' bs' (t.mono l) z z K) z<|yy (aa' bY' z (aI' (J' (af' t K) l))) z<|yy (aN' aG' az' z) z<|yy (W' z z) z<|sg z z<|nr<|mv z z<|mv z z<|mv z z<|mv z z ?_
    obtain⟨V,hr⟩:=hr
    refine yy (dZ' z z V) z<|yy (aN' az' aG' z) z ?_
    obtain⟨x2,J,hr⟩:=hr
    refine yy (aQ' D' bs' q z z J) z<|bx' (r:=(Rp.int .u32)) (e:=202) (cs':=[.int .u32 (u32.wrap (u64.wrap (Int.tdiv (u64.wrap ((u64.wrap (f*4294967296))+(u64.wrap I))) s)))]) (i:=p) (z':=u32.wrap (u64.wrap (Int.tdiv (u64.wrap ((u64.wrap (f*4294967296))+(u64.wrap I))) s))) 4012 z bs' z q z z z z z J fun T Q=>nx<|A'<|mv z z<|mv z z ?_
    obtain⟨R,hr⟩:=hr
    refine yy (bA' z z R) z<|sg z z<|v'<|I'<|g'<|A'<|mv z z<|yy (bk' z z) z<|sg z z<|v'<|Y' ⟨(d.set p.toNat (u32.wrap (u64.wrap (Int.tdiv (u64.wrap ((u64.wrap (f*4294967296))+(u64.wrap I))) s)))),T,Int.tmod (u64.wrap ((u64.wrap (f*4294967296))+(u64.wrap I))) s,i64.wrap (p-1),k⟩ hr ⟨l,Q⟩ (f5 z z z z z) (w1 z)
   refine ap'<|r'<|r'<|O'<|aq' ⟨d,c,f,k⟩ ⟨l,q,hr⟩ (f2 z z) (w1 z)
 rintro⟨h,g,m,o⟩ ⟨Z,H,hr⟩
 refine g'<|sr<|mv z z<|bE' (r:=(Rp.int .u32)) (e:=202) 4012 H z (by rw[U]; rfl) (fun al ak ac E aa=>?_)
 obtain⟨am,P,hr⟩:=hr
 refine P' z z (t' E166 z) (dU' P) (by rw[dm' E]) ((df' E)) (fun ad ao ab u=>?_)
 obtain⟨af,ae,rfl,L⟩:=u
 refine mv z z<|sg z z<|sx0 z z<|j' ?_
 obtain rfl:_=r:=hr
 exact aH' z z z ⟨_,_,z,L⟩
theorem fj'{e f i g h j r}(hr:(Zfi e f).Ret r):Ctr prog 209 #[.slice i e.length g,.slice h f.length j] (fun G=>sl (Rp.int .u32) G i g e/\sl (Rp.int .u32) G h j f) (fun G v=>∃ o n m q,v = .tuple #[.slice o r.1.length n,.slice m r.2.length q]/\sl (Rp.int .u32) G o n r.1/\sl (Rp.int .u32) G m q r.2):=by
 refine H' (args:=[_,_]) (N:=110) func209 z z z (fun U T S A=>?_)
 obtain⟨d,c⟩:=A
 refine sr<|sg z z<|sx0 z z<|n'<|sr<|mv z z<|mv z z ?_
 obtain⟨O,B,hr⟩:=hr
 refine E' z z (t' E163 z) (dh' B) z (⟨d,c⟩)<|yy (aj' z z) z<|nx<|L' hr z (fun F hr=>?_) (fun F hr=>?_)
 .refine sr<|mv z z<|sg z z<|sx0 z z<|j'<|a' ?_
  obtain rfl:_=r:=hr
  exact aH' z z z ⟨_,_,_,_,z,(R' (Rp.int .u32) _),d⟩
 refine q'<|g'<|n'<|sr<|mv z z<|yy (M' D' c z) z<|yy (at' z z) z<|nx<|L' hr z (fun E hr=>?_) (fun E hr=>?_)
 .refine sr<|mv z z<|mv z z ?_
  obtain⟨V,t,hr⟩:=hr
  refine yy (V' D' bs' c z z t) z<|yy (aa' bY' z (aI' (af' c t))) z<|yy (aN' aG' az' z) z ?_
  obtain⟨M,u,hr⟩:=hr
  refine P' z z (t' E215 z) (gD' u) z (d) (fun L Q H l=>?_)
  obtain⟨D,C,rfl,p⟩:=l
  refine mv z z<|yy (x' z z) z<|yy (x' z z) z<|sg z z<|sg z z<|nr<|mv z z<|mv z z ?_
  obtain⟨P,y,hr⟩:=hr
  refine P' z z (t' E119 z) (es' y) z (trivial) (fun K R s k=>?_)
  obtain⟨I,J,rfl,x⟩:=k
  refine sg z z<|sx0 z z<|j'<|a' ?_
  obtain rfl:_=r:=hr
  exact aH' z z z ⟨_,_,_,_,z,(p.mono s),x⟩
 exact (show False from hr).elim
theorem gJ'{K J E I B H r}(hr:(ZiV K J).Ret r):Ctr prog 192 #[.slice E K.length I,.slice B J.length H] (fun G=>sl (Rp.int .u32) G E I K/\sl (Rp.int .u32) G B H J) (wl' (Rp.int .u32) r):=by
 refine H' (args:=[_,_]) (N:=33) func192 z z z (fun R y aw S=>?_)
 obtain⟨U,af⟩:=S
 refine sr<|sx0 z z<|n'<|am' (fun (⟨q,p,m,l⟩:(List Int)×Option Addr×Nat×Mem)=>[(0,.slice p q.length m)]) (fun ⟨q,p,m,l⟩=>Mem.le y l/\sl (Rp.int .u32) l p m q/\(ZdR q).Ret r) (fun ⟨q,p,m,l⟩=>St R y l []) ?_ ?_
 .refine C' ?_
  let s:((List Int)⊕(List Int))->Prop:=fun oo=>((fun ov=>match ov with | .inl rv1=>Cq.ret rv1 | .inr q=>ZdR q:((List Int)⊕(List Int))->Cq (List Int)) oo).wp (fun a=>a=r)
  replace hr:(Cq.loop _ _).wp s:=hr
  refine an' (Φ:=s) (fun (⟨k,g,h,j,i,f,c⟩:(List Int)×Option Addr×Nat×(List Int)×Option Addr×Nat×Mem)=>((k,j):(List Int)×(List Int))) (fun ⟨k,g,h,j,i,f,c⟩=>[(0,.slice g k.length h),(1,.slice i j.length f)]) (fun ⟨k,g,h,j,i,f,c⟩=>Mem.le y c/\sl (Rp.int .u32) c g h k/\sl (Rp.int .u32) c i f j) (fun ⟨k,g,h,j,i,f,c⟩=>St R y c []) ⟨K,E,I,J,B,H,y⟩ hr (f2 z z) ⟨mr,U,af⟩ (wk ln) ?_
  .intro Z gx hx hr
   obtain⟨k,g,h,j,i,f,c⟩:=gx
   obtain⟨v,t,o⟩:=hx
   refine n'<|sr<|mv z z<|yy (M' D' o z) z<|yy (be' z z) z<|nx<|L' hr z (fun Y hr=>?_) (fun Y hr=>?_)
   .refine q'<|g'<|C'<|n'<|aM' (fun (⟨e,n⟩:Bool×Mem)=>[(0,.slice g k.length h),(1,.slice i j.length f),(17,.bool e)]) (fun ⟨e,n⟩=>Mem.le c n/\(ZdS k j e).wp (Out Z s)) (fun ⟨e,n⟩=>St R y n []) ?_ ?_
    .refine A'<|mv z z<|yy (M' D' t z) z<|ac' hr z (bL' z z) z (fun ae hr=>?_) (fun ae hr=>?_)
     .refine mv z z<|gy z z (e' z) z<|gy z z (M' D' o z) z<|gy z z (bL' z z) z<|yy (h' z z) z<|v'<|as' ⟨decide ((j.length:Int)<=2),c⟩ ⟨mr,hr⟩ (f3 z z z) (wk ln)
     refine mv z z<|sn3 z<|yy (l' z z) z<|v'<|as' ⟨false,c⟩ ⟨mr,hr⟩ (f3 z z z) (wk ln)
    rintro⟨e,n⟩ ⟨d,hr⟩
    refine aL' hr z (fun ab hr=>?_) (fun ab hr=>?_)
    .refine sr<|mv z z ?_
     obtain⟨au,T,hr⟩:=hr
     refine E' z z (t' E208 z) (fw' T) z ((t.mono d))<|mv z z ?_
     obtain⟨aq,L,hr⟩:=hr
     refine E' z z (t' E208 z) (fw' L) z ((o.mono d)) ?_
     obtain⟨ax,P,hr⟩:=hr
     refine E' z z (t' E207 z) (gI' P) z (trivial) ?_
     obtain⟨ar,O,hr⟩:=hr
     refine P' z z (t' E119 z) (es' O) z (trivial) (fun ai av ah A=>?_)
     obtain⟨ap,al,rfl,Q⟩:=A
     refine sx0 z z<|j'<|a'<|m'<|a'<|m'<|ab'<|a' ?_
     obtain rfl:_=r:=hr
     exact k' z z ⟨_,_,z,Q⟩
    refine q'<|g'<|sr<|mv z z<|mv z z ?_
    obtain⟨X,M,hr⟩:=hr
    refine P' z z (t' E209 z) (fj' M) z (⟨(t.mono d),(o.mono d)⟩) (fun aj ad u x=>?_)
    obtain⟨W,ac,C,D,rfl,V,F⟩:=x
    refine mv z z<|yy (x' z z) z<|yy (x' z z) z<|sg z z<|sg z z<|nr<|mv z z<|sx0 z z<|A'<|mv z z<|sg z z<|v'<|I'<|Y' ⟨j,i,f,X.2,C,D,ad⟩ hr ⟨(mx (mx v d) u),(o.mono (mx d u)),F⟩ (f2 z z) (wk ln)
   refine ap'<|r'<|r'<|O'<|aq' ⟨k,g,h,c⟩ ⟨v,t,hr⟩ (f1 z) (wk ln)
 rintro⟨q,p,m,l⟩ ⟨ag,aa,hr⟩
 refine g'<|sr<|mv z z<|sx0 z z<|j' ?_
 obtain rfl:_=r:=hr
 exact k' z z ⟨_,_,z,aa⟩
theorem gt'{q n f d e c r}(hr:(Zjv q n).Ret r):Ctr prog 159 #[.agg ((v128' q f d)).toArray,.agg ((v128' n e c)).toArray] (fun G=>sl (Rp.int .u32) G f d q.mag/\sl (Rp.int .u32) G e c n.mag) (w128' r):=by
 refine H' (args:=[_,_]) (N:=11) func159 z z z (fun L K I p=>?_)
 obtain⟨k,l⟩:=p
 refine sr<|ag' 2 z z z fun M=>ag' 3 z z z fun J=>Q' 4 z z128 z fun O=>nr<|yy (ba' z) z<|yy (f' 2 bN' z z z) z<|yy (ba' z) z<|yy (f' 3 bN' z z z) z ?_
 obtain⟨F,s,hr⟩:=hr
 refine P' z z (t' E192 z) (gJ' s) z (⟨k,l⟩) (fun y D x g=>?_)
 obtain⟨B,A,rfl,o⟩:=g
 obtain⟨E,m,hr⟩:=hr
 refine P' z z (t' E118 z) (cS' m) z (o) (fun C H v j=>?_)
 obtain⟨u,t,rfl,h⟩:=j
 refine s' 4 z do' z z z z z (List.all_eq_true.1 z)<|nx<|j' ?_
 obtain rfl:_=r:=hr
 exact k' z (ad' (i:=4) bt' z z z) ⟨_,_,z,h⟩
theorem gR'{f d y C v B r}(hr:(ZjV f d).Ret r):Ctr prog 162 #[.slice y f.length C,.slice v d.length B] (fun G=>sl (Rp.int .u32) G y C f/\sl (Rp.int .u32) G v B d) (wl' (Rp.int .u32) r):=by
 refine H' (args:=[_,_]) (N:=42) func162 z z z (fun V x U P=>?_)
 obtain⟨H,J⟩:=P
 refine sr<|sg z z<|nr<|mv z z<|yy (M' D' H z) z<|mv z z<|yy (M' D' J z) z<|yy (eo' z z) z<|yy (W' z z) z<|sg z z<|nr<|mv z z ?_
 obtain⟨S,hr⟩:=hr
 refine dT' (r:=(Rp.int .u32)) (e:=202) (n:=i64.wrap ((if (f.length:Int)<(d.length:Int) then (d.length:Int) else (f.length:Int))+1)) (zx:=0) 4017 z z D' el202 z (by decide) (by decide) z z z S fun E O W=>sg z z<|nr<|sx0 z z<|n'<|sr<|sx0 z z<|am' (fun (⟨k,j,o⟩:(List Int)×Option Ow×Mem)=>[(6,.slice E (i64.wrap ((if (f.length:Int)<(d.length:Int) then (d.length:Int) else (f.length:Int))+1)).toNat ((i64.wrap ((if (f.length:Int)<(d.length:Int) then (d.length:Int) else (f.length:Int))+1)).toNat))]) (fun ⟨k,j,o⟩=>Mem.le x o/\RowR (Rp.int .u32) 202 o (.slice E (i64.wrap ((if (f.length:Int)<(d.length:Int) then (d.length:Int) else (f.length:Int))+1)).toNat ((i64.wrap ((if (f.length:Int)<(d.length:Int) then (d.length:Int) else (f.length:Int))+1)).toNat)) k j/\(Zel k).Ret r) (fun ⟨k,j,o⟩=>St V x o [(4017,j)]) ?_ ?_
 .refine C' ?_
  let A:(List Int)->Prop:=fun oo=>((fun ov=>match ov with|k=>Zel k:(List Int)->Cq (List Int)) oo).wp (fun a=>a=r)
  replace hr:(Cq.loop _ _).wp A:=hr
  refine an' (Φ:=A) (fun (⟨h,g,c,p,l⟩:(List Int)×Option Ow×Int×Int×Mem)=>((h,c,p):(List Int)×Int×Int)) (fun ⟨h,g,c,p,l⟩=>[(0,.slice y f.length C),(1,.slice v d.length B),(5,i' (i64.wrap ((if (f.length:Int)<(d.length:Int) then (d.length:Int) else (f.length:Int))+1))),(6,.slice E (i64.wrap ((if (f.length:Int)<(d.length:Int) then (d.length:Int) else (f.length:Int))+1)).toNat ((i64.wrap ((if (f.length:Int)<(d.length:Int) then (d.length:Int) else (f.length:Int))+1)).toNat)),(7,.int .u64 c),(8,i' p)]) (fun ⟨h,g,c,p,l⟩=>Mem.le x l/\RowR (Rp.int .u32) 202 l (.slice E (i64.wrap ((if (f.length:Int)<(d.length:Int) then (d.length:Int) else (f.length:Int))+1)).toNat ((i64.wrap ((if (f.length:Int)<(d.length:Int) then (d.length:Int) else (f.length:Int))+1)).toNat)) h g) (fun ⟨h,g,c,p,l⟩=>St V x l [(4017,g)]) ⟨(List.replicate (i64.wrap ((if (f.length:Int)<(d.length:Int) then (d.length:Int) else (f.length:Int))+1)).toNat 0),O,0,0,x⟩ hr (f6 z z z z z z) ⟨mr,W⟩ (w1 z) ?_
  .intro am gx hx hr
   obtain⟨h,g,c,p,l⟩:=gx
   obtain⟨m,q⟩:=hx
   refine n'<|sr<|mv z z<|mv z z<|yy (aj' z z) z<|nx<|L' hr z (fun X hr=>?_) (fun X hr=>?_)
   .refine q'<|g'<|n'<|C'<|sr<|mv z z<|mv z z ?_
    obtain⟨s,K,hr⟩:=hr
    refine E' z z (t' E194 z) (dH' K) z ((H.mono m))<|mv z z<|mv z z ?_
    obtain⟨t,L,hr⟩:=hr
    refine E' z z (t' E194 z) (dH' L) z ((J.mono m))<|yy (W' z z) z<|mv z z<|yy (W' z z) z<|sg z z<|nr<|mv z z<|mv z z<|mv z z<|yy (bA' z z (by decide)) z<|yy (aN' az' aG' z) z ?_
    obtain⟨x1,I,hr⟩:=hr
    refine yy (aQ' D' bs' q z z I) z<|bx' (r:=(Rp.int .u32)) (e:=202) (cs':=[.int .u32 (u32.wrap (Int.tmod (u64.wrap ((u64.wrap (s+t))+c)) 4294967296))]) (i:=p) (z':=u32.wrap (Int.tmod (u64.wrap ((u64.wrap (s+t))+c)) 4294967296)) 4017 z bs' z q z z z z z I fun T R=>nx<|A'<|mv z z<|yy (dZ' z z (by decide)) z<|sg z z<|v'<|I'<|g'<|A'<|mv z z<|yy (W' z z) z<|sg z z<|v'<|Y' ⟨(h.set p.toNat (u32.wrap (Int.tmod (u64.wrap ((u64.wrap (s+t))+c)) 4294967296))),T,u64.wrap (Int.tdiv (u64.wrap ((u64.wrap (s+t))+c)) 4294967296),i64.wrap (p+1),l⟩ hr ⟨m,R⟩ (f6 z z z z z z) (w1 z)
   refine ap'<|r'<|r'<|O'<|aq' ⟨h,g,l⟩ ⟨m,q,hr⟩ (f1 z) (w1 z)
 rintro⟨k,j,o⟩ ⟨Y,F,hr⟩
 refine g'<|sr<|mv z z<|bE' (r:=(Rp.int .u32)) (e:=202) 4017 F z (by rw[U]; rfl) (fun ak aj ab D Z=>?_)
 obtain⟨al,Q,hr⟩:=hr
 refine P' z z (t' E166 z) (dU' Q) (by rw[dm' D]) ((df' D)) (fun ac an aa u=>?_)
 obtain⟨ae,ad,rfl,M⟩:=u
 refine sx0 z z<|j' ?_
 obtain rfl:_=r:=hr
 exact k' z z ⟨_,_,z,M⟩
theorem fO'{m E y C v B r}(hr:(ZgS m E).Ret r):Ctr prog 164 #[.slice y m.length C,.slice v E.length B] (fun G=>sl (Rp.int .u32) G y C m/\sl (Rp.int .u32) G v B E) (wl' (Rp.int .u32) r):=by
 refine H' (args:=[_,_]) (N:=41) func164 z z z (fun V x U P=>?_)
 obtain⟨s,X⟩:=P
 refine sr<|sg z z<|nr<|mv z z<|yy (M' D' s z) z ?_
 obtain⟨S,hr⟩:=hr
 refine dT' (r:=(Rp.int .u32)) (e:=202) (n:=(m.length:Int)) (zx:=0) 4011 z z D' el202 z (by decide) (by decide) z z z S fun F O W=>sg z z<|nr<|sx0 z z<|n'<|sr<|sx0 z z<|am' (fun (⟨k,h,o⟩:(List Int)×Option Ow×Mem)=>[(5,.slice F (m.length:Int).toNat ((m.length:Int).toNat))]) (fun ⟨k,h,o⟩=>Mem.le x o/\RowR (Rp.int .u32) 202 o (.slice F (m.length:Int).toNat ((m.length:Int).toNat)) k h/\(Zem k).Ret r) (fun ⟨k,h,o⟩=>St V x o [(4011,h)]) ?_ ?_
 .refine C' ?_
  let A:(List Int)->Prop:=fun oo=>((fun ov=>match ov with|k=>Zem k:(List Int)->Cq (List Int)) oo).wp (fun a=>a=r)
  replace hr:(Cq.loop _ _).wp A:=hr
  refine an' (Φ:=A) (fun (⟨g,d,c,p,l⟩:(List Int)×Option Ow×Int×Int×Mem)=>((g,c,p):(List Int)×Int×Int)) (fun ⟨g,d,c,p,l⟩=>[(0,.slice y m.length C),(1,.slice v E.length B),(5,.slice F (m.length:Int).toNat ((m.length:Int).toNat)),(6,.int .u64 c),(7,i' p)]) (fun ⟨g,d,c,p,l⟩=>Mem.le x l/\RowR (Rp.int .u32) 202 l (.slice F (m.length:Int).toNat ((m.length:Int).toNat)) g d) (fun ⟨g,d,c,p,l⟩=>St V x l [(4011,d)]) ⟨(List.replicate (m.length:Int).toNat 0),O,0,0,x⟩ hr (f5 z z z z z) ⟨mr,W⟩ (w1 z) ?_
  .intro ao gx hx hr
   obtain⟨g,d,c,p,l⟩:=gx
   obtain⟨j,q⟩:=hx
   refine n'<|sr<|mv z z<|mv z z<|yy (M' D' (s.mono j) z) z<|yy (aj' z z) z<|nx<|L' hr z (fun Y hr=>?_) (fun Y hr=>?_)
   .refine q'<|g'<|n'<|C'<|n'<|ah' [ff,ff,ff,ff,ff,ff,ff,ff,ff,ff,ff] mix (by kernel_rfl) fun hb=>cn (fun _ f=>e' z)<|cn (fun _ f=>e' z) ?_
    obtain⟨I,K,hr⟩:=hr
    refine cn (fun _ f=>V' D' bs' ((s.mono j).mono f) z z K)<|cn (fun _ f=>aa' bY' z (aI' (J' (J' (af' s K) j) f)))<|cn (fun _ f=>aN' aG' az' z)<|cn (fun _ f=>W' z z)<|cn (fun _ f=>e' z)<|cn (fun _ f=>e' z) ?_
    obtain⟨t,L,hr⟩:=hr
    refine bv' z (fun _=>t' E194 z) (dH' L) z (fun G' f=>((X.mono j).mono f))<|cn (fun _ f=>bk' z z)<|cn (fun _ f=>e' z)<|T' hb<|yy (bk' z z) z<|sg z z<|v'<|ar'<|g'<|sr<|mv z z<|mv z z<|mv z z<|yy (bA' z z (by decide)) z<|yy (aN' az' aG' z) z ?_
    obtain⟨x2,J,hr⟩:=hr
    refine yy (aQ' D' bs' q z z J) z<|bx' (r:=(Rp.int .u32)) (e:=202) (cs':=[.int .u32 (u32.wrap (Int.tmod (u64.wrap ((u64.wrap ((u64.wrap (4294967296+(u64.wrap I)))-t))-c)) 4294967296))]) (i:=p) (z':=u32.wrap (Int.tmod (u64.wrap ((u64.wrap ((u64.wrap (4294967296+(u64.wrap I)))-t))-c)) 4294967296)) 4011 z bs' z q z z z z z J fun T R=>nx<|A'<|mv z z<|yy (dZ' z z (by decide)) z<|yy (bk' z z) z<|sg z z<|v'<|I'<|g'<|A'<|mv z z<|yy (W' z z) z<|sg z z<|v'<|Y' ⟨(g.set p.toNat (u32.wrap (Int.tmod (u64.wrap ((u64.wrap ((u64.wrap (4294967296+(u64.wrap I)))-t))-c)) 4294967296))),T,u64.wrap (1-(u64.wrap (Int.tdiv (u64.wrap ((u64.wrap ((u64.wrap (4294967296+(u64.wrap I)))-t))-c)) 4294967296))),i64.wrap (p+1),l⟩ hr ⟨j,R⟩ (f5 z z z z z) (w1 z)
   refine ap'<|r'<|r'<|O'<|aq' ⟨g,d,l⟩ ⟨j,q,hr⟩ (f1 z) (w1 z)
 rintro⟨k,h,o⟩ ⟨Z,H,hr⟩
 refine g'<|sr<|mv z z<|bE' (r:=(Rp.int .u32)) (e:=202) 4011 H z (by rw[U]; rfl) (fun am al ac D aa=>?_)
 obtain⟨an,Q,hr⟩:=hr
 refine P' z z (t' E166 z) (dU' Q) (by rw[dm' D]) ((df' D)) (fun ae ap ab u=>?_)
 obtain⟨ag,af,rfl,M⟩:=u
 refine sx0 z z<|j' ?_
 obtain rfl:_=r:=hr
 exact k' z z ⟨_,_,z,M⟩
theorem gK'{H F f d e g r}(hr:(ZiT H F).Ret r):Ctr prog 193 #[.agg ((v128' H f d)).toArray,.agg ((v128' F e g)).toArray] (fun G=>sl (Rp.int .u32) G f d H.mag/\sl (Rp.int .u32) G e g F.mag) (fun G v=>∃ n q l s,v = .tuple #[.agg ((v128' r.1 n q)).toArray,.agg ((v128' r.2.1 l s)).toArray,i' r.2.2]/\sl (Rp.int .u32) G n q r.1.mag/\sl (Rp.int .u32) G l s r.2.1.mag):=by
 refine H' (args:=[_,_]) (N:=46) func193 z z z (fun w0 G0 aw ab=>?_)
 obtain⟨Q,D⟩:=ab
 refine sr<|ag' 2 z z z fun V=>ag' 3 z z z fun T=>Q' 4 z z128 z fun W=>Q' 5 z z128 z fun S=>sx0 z z<|n'<|sr<|yy (ba' z) z<|yy (f' 3 bN' z z z) z<|yy (M' D' D z) z<|yy (at' z z) z<|nx<|L' hr z (fun ai hr=>?_) (fun ai hr=>?_)
 .exact (show False from hr).elim
 refine q'<|g'<|sr<|yy (ba' z) z<|yy (f' 2 bN' z z z) z<|yy (ba' z) z<|yy (f' 3 bN' z z z) z ?_
 obtain⟨m,ac,hr⟩:=hr
 refine P' z z (t' E209 z) (fj' ac) z (⟨Q,D⟩) (fun ap I ao L=>?_)
 obtain⟨y,u,x,C,rfl,R,A⟩:=L
 refine mv z z<|yy (x' z z) z<|yy (x' z z) z<|sg z z<|sx0 z z<|aM' (fun (⟨J,E,B,o,k,h,j⟩:(List Int)×Option Addr×Nat×(List Int)×Option Addr×Nat×Mem)=>[(2,pt0 V),(3,pt0 T),(4,pt0 W),(5,pt0 S),(7,.slice E J.length B),(8,.slice k o.length h)]) (fun ⟨J,E,B,o,k,h,j⟩=>Mem.le I j/\sl (Rp.int .u32) j E B J/\sl (Rp.int .u32) j k h o/\(ZgB H F J o).Ret r) (fun ⟨J,E,B,o,k,h,j⟩=>St w0 G0 j [(2,bk0 V (v128' H f d) 128),(3,bk0 T (v128' F e g) 128),(4,bk0 W ([.bool false,.slice none 0 0]) 128),(5,bk0 S ([.bool false,.slice none 0 0]) 128)]) ?_ ?_
 .refine aM' (fun (⟨c,p⟩:Bool×Mem)=>[(2,pt0 V),(3,pt0 T),(4,pt0 W),(5,pt0 S),(7,.slice y m.1.length u),(8,.slice x m.2.length C),(29,.bool c)]) (fun ⟨c,p⟩=>Mem.le I p/\(ZdQ H F m c).Ret r) (fun ⟨c,p⟩=>St w0 G0 p [(2,bk0 V (v128' H f d) 128),(3,bk0 T (v128' F e g) 128),(4,bk0 W ([.bool false,.slice none 0 0]) 128),(5,bk0 S ([.bool false,.slice none 0 0]) 128)]) ?_ ?_
  .refine A'<|yy (br' z) z<|ac' hr z (cK' (f' 2 sc4 z z z) (congrArg Value.bool (bdec _))) z (fun am hr=>?_) (fun am hr=>?_)
   .refine mv z z<|gy z z (e' z) z<|gy z z (M' D' A z) z<|gy z z (be' z z) z<|yy (h' z z) z<|v'<|as' ⟨decide (0<(m.2.length:Int)),I⟩ ⟨mr,hr⟩ (f7 z z z z z z z) (w4 z z z z)
   refine mv z z<|sn3 z<|yy (l' z z) z<|v'<|as' ⟨false,I⟩ ⟨mr,hr⟩ (f7 z z z z z z z) (w4 z z z z)
  rintro⟨c,p⟩ ⟨t,hr⟩
  refine aL' hr z (fun ak hr=>?_) (fun ak hr=>?_)
  .exact (show False from hr).elim
  refine q'<|as' ⟨m.1,y,u,m.2,x,C,p⟩ ⟨t,(R.mono t),(A.mono t),hr⟩ (f6 z z z z z z) (w4 z z z z)
 rintro⟨J,E,B,o,k,h,j⟩ ⟨an,aj,aa,hr⟩
 refine sr<|yy (br' z) z<|yy (f' 2 sc4 z z z) z<|yy (br' z) z<|yy (f' 3 sc4 z z z) z<|yy (er' bR' z z) z<|mv z z ?_
 obtain⟨au,Y,hr⟩:=hr
 refine P' z z (t' E118 z) (cS' Y) z (aj) (fun ar ax X P=>?_)
 obtain⟨ae,ad,rfl,M⟩:=P
 refine mv z z ?_
 obtain⟨av,Z,hr⟩:=hr
 refine P' z z (t' E118 z) (cS' Z) z ((aa.mono X)) (fun aq ay U K=>?_)
 obtain⟨ag,af,rfl,O⟩:=K
 refine s' 4 z do' z z z z z (List.all_eq_true.1 z)<|s' 5 z do' z z z z z (List.all_eq_true.1 z)<|sx0 z z<|j' ?_
 obtain rfl:_=r:=hr
 exact cW' z (ad' (i:=4) bt' z z z) (ad' (i:=5) bt' z z z) z ⟨_,_,_,_,z,(M.mono U),O⟩
theorem fP'{t q d c g f r}(hr:(ZgU t q).Ret r):Ctr prog 161 #[.agg ((v128' t d c)).toArray,.agg ((v128' q g f)).toArray] (fun G=>sl (Rp.int .u32) G d c t.mag/\sl (Rp.int .u32) G g f q.mag) (w128' r):=by
 refine H' (args:=[_,_]) (N:=16) func161 z z z (fun H F B s=>?_)
 obtain⟨k,j⟩:=s
 refine sr<|ag' 2 z z z fun C=>ag' 3 z z z fun I=>Q' 4 z z128 z fun E=>nr<|yy (o' 2 bt' z z z) z<|yy (o' 3 bt' z z z) z ?_
 obtain⟨A,u,hr⟩:=hr
 refine P' z z (t' E193 z) (gK' u) z (⟨k,j⟩) (fun x y v h=>?_)
 obtain⟨p,o,l,m,rfl,e,n⟩:=h
 refine mv z z<|yy (x' z z) z<|yy (x' z z) z<|yy (x' z z) z<|Q' 5 z z128 z fun J=>Q' 6 z z128 z fun D=>s' 5 z do' z z z z z (List.all_eq_true.1 z)<|s' 6 z do' z z z z z (List.all_eq_true.1 z)<|sg z z<|nr<|yy (o' 5 bt' z z z) z<|s' 4 z do' z z z z z (List.all_eq_true.1 z)<|nx<|j' ?_
 obtain rfl:_=r:=hr
 exact k' z (ad' (i:=4) bt' z z z) ⟨_,_,z,e⟩
theorem fx'{P M o l p m r}(hr:(Zf6 P M).Ret r):Ctr prog 112 #[.agg ((v128' P o l)).toArray,.agg ((v128' M p m)).toArray] (fun G=>sl (Rp.int .u32) G o l P.mag/\sl (Rp.int .u32) G p m M.mag) (w130' r):=by
 refine H' (args:=[_,_]) (N:=21) func112 z z z (fun w0 G0 al V=>?_)
 obtain⟨B,n⟩:=V
 refine sr<|ag' 2 z z z fun X=>ag' 3 z z z fun b2=>Q' 4 z z130 z fun Y=>nr<|yy (o' 2 bt' z z z) z<|yy (o' 3 bt' z z z) z ?_
 obtain⟨Z,W,hr⟩:=hr
 refine P' z z (t' E159 z) (gt' W) z (⟨B,n⟩) (fun ad R y I=>?_)
 obtain⟨E,F,rfl,K⟩:=I
 refine Q' 5 z z128 z fun b4=>s' 5 z do' z z z z z (List.all_eq_true.1 z)<|nx<|aM' (fun (⟨q,c,e,u⟩:Zj×Option Addr×Nat×Mem)=>[(2,pt0 X),(3,pt0 b2),(4,pt0 Y),(5,pt0 b4)]) (fun ⟨q,c,e,u⟩=>Mem.le R u/\sl (Rp.int .u32) u c e q.mag/\(ZgC P M q).Ret r) (fun ⟨q,c,e,u⟩=>St w0 G0 u [(2,bk0 X (v128' P o l) 128),(3,bk0 b2 (v128' M p m) 128),(4,bk0 Y ([.bool false,.slice none 0 0,.bool false,.slice none 0 0]) 130),(5,bk0 b4 (v128' q c e) 128)]) ?_ ?_
 .refine sr<|yy (o' 3 bt' z z z) z ?_
  obtain⟨ai,T,hr⟩:=hr
  refine E' z z (t' E115 z) (fb' T) z ((n.mono y))<|yy (aj' z z) z<|nx<|L' hr z (fun ac hr=>?_) (fun ac hr=>?_)
  .exact (show False from hr).elim
  refine q'<|as' ⟨Z,E,F,R⟩ ⟨mr,K,hr⟩ (f4 z z z z) (w4 z z z z)
 rintro⟨q,c,e,u⟩ ⟨C,s,hr⟩
 refine n'<|ah' [ff,ff,ff,ff,ff] mix (by kernel_rfl) fun hb=>cn (fun _ k=>o' 2 bt' z z z)<|cn (fun _ k=>o' 5 bt' z z z) ?_
 obtain⟨A,S,hr⟩:=hr
 refine aX' (post:=w128' A) (fun _=>z) (fun _ _=>t' E161 z) (fP' S) z (fun G' k=>⟨((B.mono (mx y C)).mono k),(s.mono k)⟩) (fun v G1 G2 k h=>?_) ?_
 .obtain⟨j,f,rfl,g⟩:=h
  exact⟨_,_,z,g.mono k⟩
 refine cu (fun _ _ k=>o' 3 bt' z z z)<|cu (fun _ _ k=>o' 5 bt' z z z)<|cU' (d:=16) (post:=w128' A) (fun ah aj D L=>?_)
 obtain⟨j,f,rfl,g⟩:=L
 obtain⟨O,U,hr⟩:=hr
 refine P' z z (t' E161 z) (fP' U) z (⟨(n.mono (mx (mx y C) D)),(s.mono D)⟩) (fun ag ak Q H=>?_)
 obtain⟨x,t,rfl,J⟩:=H
 refine yy (av' (vs:=#[(0,.agg ((v128' A j f)).toArray),(1,.agg ((v128' O x t)).toArray)]) (v:=.agg ([.bool A.neg,.slice j A.mag.length f,.bool O.neg,.slice x O.mag.length t]).toArray) z z (fun _=>by kernel_rfl)) z<|s' 4 z sz130 z z z z z (List.all_eq_true.1 z)<|v'<|ar'<|g'<|j' ?_
 obtain rfl:_=r:=hr
 exact k' z (ad' (i:=4) cR' z z z) ⟨_,_,_,_,z,(g.mono Q),J⟩
theorem hg'{q p m g k j l e c f r}(hr:(Zjx q p).Ret r):Ctr prog 117 #[.agg ((v130' q m g k j)).toArray,.agg ((v130' p l e c f)).toArray] (fun G=>sl (Rp.int .u32) G m g q.num.mag/\sl (Rp.int .u32) G k j q.den.mag/\sl (Rp.int .u32) G l e p.num.mag/\sl (Rp.int .u32) G c f p.den.mag) (w130' r):=by
 refine H' (args:=[_,_]) (N:=16) func117 z z z (fun w0 G0 af S=>?_)
 obtain⟨A,u,x,y⟩:=S
 refine sr<|ag' 2 z z z fun b2=>ag' 3 z z z fun b3=>Q' 4 z z130 z fun b4=>nx<|n'<|ah' [ff,ff,ff,ff,ff,ff,ff,ff,ff] mix (by kernel_rfl) fun hb=>cn (fun _ n=>cF' z)<|cn (fun _ n=>aJ' ((v128' q.num m g)).toArray 2 bt' z z z (aU' ([]) ((v128' q.num m g)) ((v128' q.den k j))))<|cn (fun _ n=>cF' z)<|cn (fun _ n=>aJ' ((v128' p.num l e)).toArray 3 bt' z z z (aU' ([]) ((v128' p.num l e)) ((v128' p.den c f)))) ?_
 obtain⟨P,T,hr⟩:=hr
 refine aX' (post:=w128' P) (fun _=>z) (fun _ _=>t' E114 z) (eA' T) z (fun G' n=>⟨(A.mono n),(x.mono n)⟩) (fun v G1 G2 n h=>?_) ?_
 .obtain⟨C,D,rfl,o⟩:=h
  exact⟨_,_,z,o.mono n⟩
 refine cu (fun _ _ n=>ck' z)<|cu (fun _ _ n=>aJ' ((v128' q.den k j)).toArray 2 bt' z z z (aU' ((v128' q.num m g)) ((v128' q.den k j)) ([])))<|cu (fun _ _ n=>ck' z)<|cu (fun _ _ n=>aJ' ((v128' p.den c f)).toArray 3 bt' z z z (aU' ((v128' p.num l e)) ((v128' p.den c f)) ([])))<|cU' (d:=9) (post:=w128' P) (fun X aa B F=>?_)
 obtain⟨C,D,rfl,o⟩:=F
 obtain⟨ab,Q,hr⟩:=hr
 refine P' z z (t' E114 z) (eA' Q) z (⟨(u.mono B),(y.mono B)⟩) (fun Z ad L I=>?_)
 obtain⟨V,U,rfl,H⟩:=I
 obtain⟨ac,R,hr⟩:=hr
 refine P' z z (t' E112 z) (fx' R) z (⟨(o.mono L),H⟩) (fun Y ae W E=>?_)
 obtain⟨O,K,M,J,rfl,t,s⟩:=E
 refine s' 4 z sz130 z z z z z (List.all_eq_true.1 z)<|v'<|ar'<|g'<|j' ?_
 obtain rfl:_=r:=hr
 exact k' z (ad' (i:=4) cR' z z z) ⟨_,_,_,_,z,t,s⟩
theorem gS'{Z m1 p1 D E C F aa ad r}(hr:(ZjX Z m1 p1).Ret r):Ctr prog 83 #[.agg ((v130' Z D E C F)).toArray,.agg (vecG (Value.int .i64) 8 m1).toArray,.slice aa p1.length ad] (fun G=>sl (Rp.int .u32) G D E Z.num.mag/\sl (Rp.int .u32) G C F Z.den.mag/\sl K' G aa ad p1) (wlt' K' r):=by
 refine H' (args:=[_,_,_]) (N:=47) func83 z z z (fun w0 G0 Y av=>?_)
 obtain⟨M,L,Q⟩:=av
 refine sr<|ag' 3 z z z fun b1=>ag' 4 z z z fun b2=>sg z z<|sg z z<|nr<|bc' (e:=133) (r:=K') (vs:=#[]) (cs:=[]) ([]:List Ze) z z z z z (by decide) (fun _=>by kernel_rfl) (z) (key:=999) z (by rw[Y]; rfl) fun p2 ac n aF=>sx0 z z<|n'<|sr<|yy (o' 3 cR' z z z) z ?_
 obtain⟨a0,ap,hr⟩:=hr
 refine E' z z (t' E82 z) (fc' ap) z (⟨(M.mono n),(L.mono n)⟩)<|yy (at' z z) z<|nx<|L' hr z (fun aM hr=>?_) (fun aM hr=>?_)
 .refine sr<|sg z z<|sx0 z z<|j'<|a' ?_
  obtain rfl:_=r:=hr
  exact aH' z z z ⟨_,_,z,(R' K' _)⟩
 refine q'<|g'<|n'<|sr<|sx0 z z<|am' (fun (⟨t,I,H,B,O⟩:(List Ze)×Option Addr×Nat×Option Ow×Mem)=>[(8,.slice I t.length H)]) (fun ⟨t,I,H,B,O⟩=>Mem.le ac O/\sl K' O I H t/\Tok 12 133 (.slice I t.length H) t.length B/\(Zeq t).Ret r) (fun ⟨t,I,H,B,O⟩=>St w0 G0 O [(1008,B)]) ?_ ?_
 .refine C' ?_
  let ab:(((List Ze)×Int)⊕(List Ze))->Prop:=fun oo=>((fun ov=>match ov with | .inl rv1=>Cq.ret rv1 | .inr t=>Zeq t:(((List Ze)×Int)⊕(List Ze))->Cq ((List Ze)×Int)) oo).wp (fun a=>a=r)
  replace hr:(Cq.loop _ _).wp ab:=hr
  refine an' (Φ:=ab) (fun (⟨o,s,q,p,T,K⟩:(List Ze)×Option Addr×Nat×Option Ow×Int×Mem)=>((o,T):(List Ze)×Int)) (fun ⟨o,s,q,p,T,K⟩=>[(2,.slice aa p1.length ad),(3,pt0 b1),(4,pt0 b2),(8,.slice s o.length q),(9,i' T)]) (fun ⟨o,s,q,p,T,K⟩=>Mem.le ac K/\sl K' K s q o/\Tok 12 133 (.slice s o.length q) o.length p) (fun ⟨o,s,q,p,T,K⟩=>St w0 G0 K [(3,bk0 b1 (v130' Z D E C F) 130),(4,bk0 b2 (vecG (Value.int .i64) 8 m1) 120),(1008,p)]) ⟨[],p2,0,none,0,ac⟩ hr (f5 z z z z z) ⟨mr,aF,cX'⟩ (wk (lc z (lc z (lw ln)))) ?_
  .intro aX gx hx hr
   obtain⟨o,s,q,p,T,K⟩:=gx
   obtain⟨m,U,P⟩:=hx
   refine n'<|sr<|mv z z<|mv z z<|yy (M' ak' (Q.mono (mx n m)) z) z<|yy (aj' z z) z<|nx<|L' hr z (fun aC hr=>?_) (fun aC hr=>?_)
   .refine q'<|g'<|n'<|C'<|n'<|ah' [ff,ff,ff,ff,ff,ff,ff,ff,ff,tt,ff] mix (by kernel_rfl) fun hb=>cn (fun _ k=>o' 4 bW' z z (ae' _ _ _))<|cn (fun _ k=>e' z)<|cn (fun _ k=>e' z) ?_
    obtain⟨x1,am,hr⟩:=hr
    refine cn (fun _ k=>V' ak' ch' ((Q.mono (mx n m)).mono k) z z am)<|cn (fun _ k=>bD' z)<|cn (fun _ k=>aC' _ bW' z (ae' _ _ _) (dy' (J' (J' (ax' (ay' (af' Q am))) (mx n m)) k))) ?_
    obtain⟨J,aq,hr⟩:=hr
    refine bv' z (fun _=>t' E116 z) (hf' aq) z (fun G' k=>trivial)<|cn (fun _ k=>e' z)<|cn (fun _ k=>x' z z)<|cv' z (x' z z)<|bF' (fun _=>z) z120<|Chain.tail1 hb fun b3=>s' 10 z sz120 z z z (ae' _ _ _) (ae' _ _ _) (fun u hu=>Rp.one (dz' .i64 8) (G:=K) (x:=J.1) (cs:=vecG (Value.int .i64) 8 J.1) z u (by first|simpa using hu|simpa [Value.cells] using hu))<|sg z z<|v'<|ar'<|g'<|n'<|sr<|mv z z<|yy (aw' z z) z<|nx<|L' hr z (fun aG hr=>?_) (fun aG hr=>?_)
    .exact (show False from hr).elim
    refine q'<|g'<|ah' [tt,ff,ff,ff,ff,ff,ff,ff,ff] mix (by kernel_rfl) fun hb=>cv' z (e' z)<|cn (fun _ k=>o' 3 cR' z z z)<|cn (fun _ k=>e' z)<|cn (fun _ k=>e' z) ?_
    obtain⟨x2,ah,hr⟩:=hr
    refine cn (fun _ k=>V' ak' ch' ((Q.mono (mx n m)).mono k) z z ah)<|cn (fun _ k=>cQ' z) ?_
    obtain⟨aj,ak,al,ai,ay,S,R⟩:=el' (J' (aW' (ay' (af' Q ah))) (mx n m))
    refine cn (fun _ k=>aC' _ cR' z z (fun j v hv=>k _ _ _ (ay j v hv))) ?_
    obtain⟨l,au,hr⟩:=hr
    refine aX' (post:=w130' l) (fun _=>z) (fun _ _=>t' E117 z) (hg' au) z (fun G' k=>⟨((M.mono (mx n m)).mono k),((L.mono (mx n m)).mono k),(S.mono k),(R.mono k)⟩) (fun v G1 G2 k h=>?_) ?_
    .obtain⟨i,c,f,g,rfl,y,A⟩:=h
     exact⟨_,_,_,_,z,y.mono k,A.mono k⟩
    refine cu (fun _ _ k=>o' 10 bW' z z (ae' _ _ _))<|cU' (d:=41) (post:=w130' l) (fun aQ aZ W X=>?_)
    obtain⟨i,c,f,g,rfl,y,A⟩:=X
    refine yy (av' (vs:=#[(0,.agg ((v130' l i c f g)).toArray),(1,.agg (vecG (Value.int .i64) 8 J.1).toArray)]) (v:=.agg (((v130' l i c f g):List Value)++(vecG (Value.int .i64) 8 J.1)).toArray) z z (fun _=>by kernel_rfl)) z<|bc' (e:=133) (r:=K') (vs:=#[(0,.agg (((v130' l i c f g):List Value)++(vecG (Value.int .i64) 8 J.1)).toArray)]) (cs:=(((v130' l i c f g):List Value)++(vecG (Value.int .i64) 8 J.1))++([])) ([(Ze.mk l J.1)]:List Ze) z z z z z (by decide) (fun _=>by kernel_rfl) ⟨((v130' l i c f g):List Value)++(vecG (Value.int .i64) 8 J.1),[],z,⟨(v130' l i c f g),vecG (Value.int .i64) 8 J.1,z,⟨(v128' l.num i c),(v128' l.den f g),z,⟨[.bool l.num.neg],[.slice i l.num.mag.length c],z,z,⟨_,z,y⟩⟩,⟨[.bool l.den.neg],[.slice f l.den.mag.length g],z,z,⟨_,z,A⟩⟩⟩,z⟩,z⟩ (key:=999) z (by rw[Y]; rfl) (fun p3 aY V aE=>?_)
    obtain⟨ao,hr⟩:=hr
    refine bT' (r:=K') 1008 z z ak' el133 z (by decide) z z (U.mono (mx W V)) z (by rw[Y]; rfl) P aE ao fun p4 aB aw aJ ae az an=>sg z z<|v'<|ar'<|I'<|g'<|A'<|mv z z<|yy (W' z z) z<|sg z z<|v'<|Y' ⟨(o++[(Ze.mk l J.1)]),p4,aB,aw,i64.wrap (T+1),aJ⟩ hr ⟨(mx (mx (mx m W) V) ae),az,an⟩ (f5 z z z z z) (w3 z z z)
   refine ap'<|r'<|r'<|O'<|aq' ⟨o,s,q,p,K⟩ ⟨m,U,P,hr⟩ (f1 z) (w1 z)
 rintro⟨t,I,H,B,O⟩ ⟨aN,ag,aD,hr⟩
 refine g'<|sr<|mv z z<|sg z z<|sx0 z z<|j' ?_
 obtain rfl:_=r:=hr
 exact aH' z z z ⟨_,_,z,ag⟩
theorem gT'{k n f c d e m l r}(hr:(ZgV k n).Ret r):Ctr prog 63 #[.agg ((v130' k f c d e)).toArray,.slice m n.length l] (fun G=>sl (Rp.int .u32) G f c k.num.mag/\sl (Rp.int .u32) G d e k.den.mag/\sl K' G m l n) (wl' K' r):=by
 refine H' (args:=[_,_]) (N:=15) func63 z z z (fun E D B o=>?_)
 obtain⟨h,g,t⟩:=o
 refine sr<|ag' 2 z z z fun C=>sg z z<|nr<|yy (o' 2 cR' z z z) z<|yy (av' (vs:=#[]) (v:=.agg (vecG (Value.int .i64) 8 (fun _=>0)).toArray) z z (fun _=>by kernel_rfl)) z<|mv z z ?_
 obtain⟨A,p,hr⟩:=hr
 refine P' z z (t' E83 z) (gS' p) z (⟨h,g,t⟩) (fun x y u i=>?_)
 obtain⟨s,q,rfl,j⟩:=i
 refine mv z z<|yy (x' z z) z<|yy (x' z z) z<|sg z z<|sg z z<|nr<|mv z z<|sx0 z z<|j' ?_
 obtain rfl:_=r:=hr
 exact k' z z ⟨_,_,z,j⟩
theorem fy'{q o r}(hr:(ZfO q o).Ret r):Ctr prog 80 #[.agg (vecG (Value.int .i64) 8 q).toArray,.agg (vecG (Value.int .i64) 8 o).toArray] (fun G=>True) (fun G v=>v=i' r):=by
 refine H' (args:=[_,_]) (N:=24) func80 z z z fun u i I D=>sr<|ag' 2 z z z fun x=>ag' 3 z z z fun s=>sx0 z z<|n'<|sr<|sx0 z z<|am' (fun (f:Mem)=>match f with|e=>[]) (fun (f:Mem)=>match f with|e=>Mem.le i e/\(Zf8).Ret r) (fun (f:Mem)=>match f with|e=>St u i e []) ?_ ?_
 .refine C' ?_
  let j:(Int⊕Unit)->Prop:=fun E=>((fun C=>match C with | .inl rv1=>Cq.ret rv1 | .inr ()=>Zf8:(Int⊕Unit)->Cq Int) E).wp (fun a=>a=r)
  replace hr:(Cq.loop _ _).wp j:=hr
  refine an' (Φ:=j) (fun (⟨g,d⟩:Int×Mem)=>(g:Int)) (fun ⟨g,d⟩=>[(2,pt0 x),(3,pt0 s),(5,i' g)]) (fun ⟨g,d⟩=>Mem.le i d) (fun ⟨g,d⟩=>St u i d [(2,bk0 x (vecG (Value.int .i64) 8 q) 120),(3,bk0 s (vecG (Value.int .i64) 8 o) 120)]) ⟨0,i⟩ hr (f3 z z z) mr (w2 z z) ?_
  .intro H f F hr
   obtain⟨g,d⟩:=f
   have h:=F
   refine n'<|sr<|mv z z<|yy (aj' z z) z<|nx<|L' hr z (fun A hr=>?_) (fun A hr=>?_)
   .refine q'<|g'<|n'<|C'<|n'<|n'<|ah' [ff,ff,ff,ff,ff,ff] mix (by kernel_rfl) fun p=>cn (fun _ c=>e' z) ?_
    obtain⟨k,hr⟩:=hr
    refine cn (fun _ c=>bj' aO' sz3 z z k)<|cn (fun _ c=>f' 2 sc3 z z (bi' _ _ _ k))<|cn (fun _ c=>e' z) ?_
    obtain⟨l,hr⟩:=hr
    refine cn (fun _ c=>bj' aO' sz3 z z l)<|cn (fun _ c=>f' 3 sc3 z z (bi' _ _ _ l))<|T' p<|yy (aj' z z) z<|v'<|ar'<|g'<|L' hr z (fun t hr=>?_) (fun t hr=>?_)
    .refine sr<|sx0 z z<|j'<|a'<|m'<|a'<|a'<|m'<|ab'<|a' (k0' hr z z)
    refine q'<|g'<|n'<|ah' [ff,ff,ff,ff,ff,ff] mix (by kernel_rfl) fun p=>cn (fun _ c=>e' z) ?_
    obtain⟨n,hr⟩:=hr
    refine cn (fun _ c=>bj' aO' sz3 z z n)<|cn (fun _ c=>f' 2 sc3 z z (bi' _ _ _ n))<|cn (fun _ c=>e' z) ?_
    obtain⟨m,hr⟩:=hr
    refine cn (fun _ c=>bj' aO' sz3 z z m)<|cn (fun _ c=>f' 3 sc3 z z (bi' _ _ _ m))<|T' p<|yy (be' z z) z<|v'<|ar'<|g'<|L' hr z (fun y hr=>?_) (fun y hr=>?_)
    .refine sr<|sx0 z z<|j'<|m'<|a'<|a'<|m'<|ab'<|a' (k0' hr z z)
    refine q'<|I'<|g'<|A'<|mv z z<|yy (W' z z) z<|sg z z<|v'<|Y' ⟨i64.wrap (g+1),d⟩ hr h (f3 z z z) (w2 z z)
   refine ap'<|r'<|r'<|O'<|aq' d ⟨h,hr⟩ fn (wk ln)
 rintro e ⟨B,hr⟩
 refine g'<|sr<|sx0 z z<|j' (k0' hr z z)
theorem hh'{L K j g l k r}(hr:(Zma L K).Ret r):Ctr prog 113 #[.agg ((v128' L j g)).toArray,.agg ((v128' K l k)).toArray] (fun G=>sl (Rp.int .u32) G j g L.mag/\sl (Rp.int .u32) G l k K.mag) (w128' r):=by
 refine H' (args:=[_,_]) (N:=40) func113 z z z (fun w0 G0 aA W=>?_)
 obtain⟨f,e⟩:=W
 refine sr<|ag' 2 z z z fun b2=>ag' 3 z z z fun b3=>Q' 4 z z128 z fun b4=>nx<|n'<|sr<|yy (br' z) z<|yy (f' 2 sc4 z z z) z<|yy (br' z) z<|yy (f' 3 sc4 z z z) z<|yy (Y0.eqlB bR' z z) z<|nx<|L' hr z (fun ai hr=>?_) (fun ai hr=>?_)
 .refine n'<|ah' [ff,ff,ff,ff,ff,ff,ff] mix (by kernel_rfl) fun hb=>cn (fun _ c=>br' z)<|cn (fun _ c=>f' 2 sc4 z z z)<|cn (fun _ c=>ba' z)<|cn (fun _ c=>f' 2 bN' z z z)<|cn (fun _ c=>ba' z)<|cn (fun _ c=>f' 3 bN' z z z) ?_
  obtain⟨E,M,hr⟩:=hr
  refine aX' (post:=wl' (Rp.int .u32) E) (fun _=>z) (fun _ _=>t' E162 z) (gR' M) z (fun G' c=>⟨(f.mono c),(e.mono c)⟩) (fun v G1 G2 c h=>?_) ?_
  .obtain⟨U,I,rfl,m⟩:=h
   exact⟨_,_,z,m.mono c⟩
  refine cU' (d:=16) (post:=wl' (Rp.int .u32) E) (fun aw aD an s=>?_)
  obtain⟨U,I,rfl,m⟩:=s
  obtain⟨aB,O,hr⟩:=hr
  refine P' z z (t' E118 z) (cS' O) z (m) (fun av az al B=>?_)
  obtain⟨Y,ac,rfl,x⟩:=B
  refine s' 4 z do' z z z z z (List.all_eq_true.1 z)<|v'<|ar'<|g'<|j'<|a' ?_
  obtain rfl:_=r:=hr
  exact k' z (ad' (i:=4) bt' z z z) ⟨_,_,z,x⟩
 refine q'<|g'<|n'<|sr<|yy (ba' z) z<|yy (f' 2 bN' z z z) z<|yy (ba' z) z<|yy (f' 3 bN' z z z) z ?_
 obtain⟨aC,T,hr⟩:=hr
 refine E' z z (t' E163 z) (dh' T) z (⟨f,e⟩)<|yy (aj' z z) z<|nx<|L' hr z (fun ag hr=>?_) (fun ag hr=>?_)
 .refine n'<|ah' [ff,ff,ff,ff,ff,ff,ff] mix (by kernel_rfl) fun hb=>cn (fun _ c=>br' z)<|cn (fun _ c=>f' 3 sc4 z z z)<|cn (fun _ c=>ba' z)<|cn (fun _ c=>f' 3 bN' z z z)<|cn (fun _ c=>ba' z)<|cn (fun _ c=>f' 2 bN' z z z) ?_
  obtain⟨C,F,hr⟩:=hr
  refine aX' (post:=wl' (Rp.int .u32) C) (fun _=>z) (fun _ _=>t' E164 z) (fO' F) z (fun G' c=>⟨(e.mono c),(f.mono c)⟩) (fun v G1 G2 c h=>?_) ?_
  .obtain⟨R,P,rfl,n⟩:=h
   exact⟨_,_,z,n.mono c⟩
  refine cU' (d:=30) (post:=wl' (Rp.int .u32) C) (fun au ax am t=>?_)
  obtain⟨R,P,rfl,n⟩:=t
  obtain⟨aG,S,hr⟩:=hr
  refine P' z z (t' E118 z) (cS' S) z (n) (fun aq aE ak u=>?_)
  obtain⟨ab,aa,rfl,y⟩:=u
  refine s' 4 z do' z z z z z (List.all_eq_true.1 z)<|v'<|ar'<|g'<|j'<|a' ?_
  obtain rfl:_=r:=hr
  exact k' z (ad' (i:=4) bt' z z z) ⟨_,_,z,y⟩
 refine q'<|g'<|n'<|ah' [ff,ff,ff,ff,ff,ff,ff] mix (by kernel_rfl) fun hb=>cn (fun _ c=>br' z)<|cn (fun _ c=>f' 2 sc4 z z z)<|cn (fun _ c=>ba' z)<|cn (fun _ c=>f' 2 bN' z z z)<|cn (fun _ c=>ba' z)<|cn (fun _ c=>f' 3 bN' z z z) ?_
 obtain⟨D,H,hr⟩:=hr
 refine aX' (post:=wl' (Rp.int .u32) D) (fun _=>z) (fun _ _=>t' E164 z) (fO' H) z (fun G' c=>⟨(f.mono c),(e.mono c)⟩) (fun v G1 G2 c h=>?_) ?_
 .obtain⟨Q,J,rfl,o⟩:=h
  exact⟨_,_,z,o.mono c⟩
 refine cU' (d:=38) (post:=wl' (Rp.int .u32) D) (fun ap aH aj p=>?_)
 obtain⟨Q,J,rfl,o⟩:=p
 obtain⟨aF,V,hr⟩:=hr
 refine P' z z (t' E118 z) (cS' V) z (o) (fun ar ay ao A=>?_)
 obtain⟨Z,X,rfl,q⟩:=A
 refine s' 4 z do' z z z z z (List.all_eq_true.1 z)<|v'<|ar'<|g'<|j' ?_
 obtain rfl:_=r:=hr
 exact k' z (ad' (i:=4) bt' z z z) ⟨_,_,z,q⟩
theorem hi'{t s m o e k l n g j r}(hr:(ZhI t s).Ret r):Ctr prog 81 #[.agg ((v130' t m o e k)).toArray,.agg ((v130' s l n g j)).toArray] (fun G=>sl (Rp.int .u32) G m o t.num.mag/\sl (Rp.int .u32) G e k t.den.mag/\sl (Rp.int .u32) G l n s.num.mag/\sl (Rp.int .u32) G g j s.den.mag) (w130' r):=by
 refine H' (args:=[_,_]) (N:=22) func81 z z z (fun w0 G0 aA ak=>?_)
 obtain⟨I,A,J,y⟩:=ak
 refine sr<|ag' 2 z z z fun b2=>ag' 3 z z z fun b3=>Q' 4 z z130 z fun b4=>nx<|n'<|ah' [ff,ff,ff,ff,ff,ff,ff,ff,ff,ff,ff,ff,ff,ff,ff] mix (by kernel_rfl) fun hb=>cn (fun _ c=>cF' z)<|cn (fun _ c=>aJ' ((v128' t.num m o)).toArray 2 bt' z z z (aU' ([]) ((v128' t.num m o)) ((v128' t.den e k))))<|cn (fun _ c=>ck' z)<|cn (fun _ c=>aJ' ((v128' s.den g j)).toArray 3 bt' z z z (aU' ((v128' s.num l n)) ((v128' s.den g j)) ([]))) ?_
 obtain⟨V,ag,hr⟩:=hr
 refine aX' (post:=w128' V) (fun _=>z) (fun _ _=>t' E114 z) (eA' ag) z (fun W c=>⟨(I.mono c),(y.mono c)⟩) (fun v G1 G2 c h=>?_) ?_
 .obtain⟨D,B,rfl,p⟩:=h
  exact⟨_,_,z,p.mono c⟩
 refine cu (fun _ _ c=>cF' z)<|cu (fun _ _ c=>aJ' ((v128' s.num l n)).toArray 3 bt' z z z (aU' ([]) ((v128' s.num l n)) ((v128' s.den g j))))<|cu (fun _ _ c=>ck' z)<|cu (fun _ _ c=>aJ' ((v128' t.den e k)).toArray 2 bt' z z z (aU' ((v128' t.num m o)) ((v128' t.den e k)) ([]))) ?_
 obtain⟨U,ah,hr⟩:=hr
 refine aX' (post:=w128' U) (fun _=>z) (fun _ _=>t' E114 z) (eA' ah) z (fun W c=>⟨(J.mono c),(A.mono c)⟩) (fun v G1 G2 c h=>?_) ?_
 .obtain⟨C,E,rfl,q⟩:=h
  exact⟨_,_,z,q.mono c⟩
 obtain⟨ae,aj,hr⟩:=hr
 refine cE' (f:=113) (φ:=w128' ae) (fun _=>z) (fun v G1 G2 c h=>?_) (fun u W c hu=>?_) ?_
 .obtain⟨T,Q,rfl,x⟩:=h
  exact⟨_,_,z,x.mono c⟩
 .obtain⟨⟨C,E,Z,q⟩,⟨D,B,ac,p⟩,_⟩:=(show (w128' U) W.m (u 14)/\(w128' V) W.m (u 9)/\True from hu)
  exact⟨_,_,_,fun _=>t' E113 z,hh' aj,(by simp only[Z,ac] <;> rfl),⟨p,q⟩⟩
 refine cu (fun _ _ c=>ck' z)<|cu (fun _ _ c=>aJ' ((v128' t.den e k)).toArray 2 bt' z z z (aU' ((v128' t.num m o)) ((v128' t.den e k)) ([])))<|cu (fun _ _ c=>ck' z)<|cu (fun _ _ c=>aJ' ((v128' s.den g j)).toArray 3 bt' z z z (aU' ((v128' s.num l n)) ((v128' s.den g j)) ([])))<|Chain.tailU3 (d:=15) (post:=w128' ae) (d':=14) (post':=w128' U) (d'':=9) (post'':=w128' V) (fun ar av aw aC K R S M=>?_)
 obtain⟨T,Q,rfl,x⟩:=R
 obtain⟨C,E,rfl,q⟩:=S
 obtain⟨D,B,rfl,p⟩:=M
 obtain⟨ay,af,hr⟩:=hr
 refine P' z z (t' E114 z) (eA' af) z (⟨(A.mono K),(y.mono K)⟩) (fun au az ab O=>?_)
 obtain⟨al,am,rfl,L⟩:=O
 obtain⟨aD,ai,hr⟩:=hr
 refine P' z z (t' E112 z) (fx' ai) z (⟨(x.mono ab),L⟩) (fun aq aB ap P=>?_)
 obtain⟨ad,X,Y,aa,rfl,F,H⟩:=P
 refine s' 4 z sz130 z z z z z (List.all_eq_true.1 z)<|v'<|ar'<|g'<|j' ?_
 obtain rfl:_=r:=hr
 exact k' z (ad' (i:=4) cR' z z z) ⟨_,_,_,_,z,F,H⟩
theorem gu'{I F S Y U V r}(hr:(ZfP I F).Ret r):Ctr prog 62 #[.slice S I.length Y,.slice U F.length V] (fun G=>sl K' G S Y I/\sl K' G U V F) (wl' K' r):=by
 refine H' (args:=[_,_]) (N:=109) func62 z z z (fun w0 G0 av bA=>?_)
 obtain⟨A,J⟩:=bA
 refine sr<|sg z z<|nr<|bc' (e:=133) (r:=K') (vs:=#[]) (cs:=[]) ([]:List Ze) z z z z z (by decide) (fun _=>by kernel_rfl) (z) (key:=999) z (by rw[av]; rfl) fun p1 aY g bS=>sg z z<|nr<|sg z z<|sx0 z z<|n'<|am' (fun (⟨aa,aj,ah,ae,az⟩:(List Ze)×Option Addr×Nat×Option Ow×Mem)=>[(5,.slice aj aa.length ah)]) (fun ⟨aa,aj,ah,ae,az⟩=>Mem.le aY az/\sl K' az aj ah aa/\Tok 12 133 (.slice aj aa.length ah) aa.length ae/\(Zgb aa).Ret r) (fun ⟨aa,aj,ah,ae,az⟩=>St w0 G0 az [(1005,ae)]) ?_ ?_
 .refine C' ?_
  let ao:(List Ze)->Prop:=fun oo=>((fun ov=>match ov with|aa=>Zgb aa:(List Ze)->Cq (List Ze)) oo).wp (fun a=>a=r)
  replace hr:(Cq.loop _ _).wp ao:=hr
  refine an' (Φ:=ao) (fun (⟨C,H,E,D,M,o,af⟩:(List Ze)×Option Addr×Nat×Option Ow×Int×Int×Mem)=>((C,M,o):(List Ze)×Int×Int)) (fun ⟨C,H,E,D,M,o,af⟩=>[(0,.slice S I.length Y),(1,.slice U F.length V),(5,.slice H C.length E),(6,i' M),(7,i' o)]) (fun ⟨C,H,E,D,M,o,af⟩=>Mem.le aY af/\sl K' af H E C/\Tok 12 133 (.slice H C.length E) C.length D) (fun ⟨C,H,E,D,M,o,af⟩=>St w0 G0 af [(1005,D)]) ⟨[],p1,0,none,0,0,aY⟩ hr (f5 z z z z z) ⟨mr,bS,cX'⟩ (wk (lw ln)) ?_
  .intro aI gx hx hr
   obtain⟨C,H,E,D,M,o,af⟩:=gx
   obtain⟨d,aE,aw⟩:=hx
   refine aM' (fun (gx:Mem)=>match gx with|am=>[(0,.slice S I.length Y),(1,.slice U F.length V),(5,.slice H C.length E),(6,i' M),(7,i' o)]) (fun (gx:Mem)=>match gx with|am=>Mem.le af am/\(Zbj I F C M o).wp (Out aI ao)) (fun (gx:Mem)=>match gx with|am=>St w0 G0 am [(1005,D)]) ?_ ?_
   .refine sr<|mv z z<|mv z z<|yy (M' ak' (A.mono (mx g d)) z) z<|ac' hr z (aj' z z) z (fun b3 hr=>?_) (fun b3 hr=>?_)
    .refine mv z z<|sn4 z<|yy (h' z z) z<|nx<|U' z<|q'<|as' af ⟨mr,hr⟩ (f5 z z z z z) (w1 z)
    refine mv z z<|gy z z (e' z) z<|gy z z (e' z) z<|gy z z (M' ak' (J.mono (mx g d)) z) z<|gy z z (aj' z z) z<|yy (l' z z) z<|nx<|L' hr z (fun bO hr=>?_) (fun bO hr=>?_)
    .refine q'<|as' af ⟨mr,hr⟩ (f5 z z z z z) (w1 z)
    refine ap'<|r'<|r'<|O'<|aq' ⟨C,H,E,D,af⟩ ⟨d,aE,aw,hr⟩ (f1 z) (w1 z)
   rintro am ⟨f,hr⟩
   refine C'<|aM' (fun (⟨L,W,X,R,K,an⟩:(List Ze)×Option Addr×Nat×Option Ow×Int×Mem)=>[(0,.slice S I.length Y),(1,.slice U F.length V),(5,.slice W L.length X),(6,i' K),(7,i' o)]) (fun ⟨L,W,X,R,K,an⟩=>Mem.le am an/\sl K' an W X L/\Tok 12 133 (.slice W L.length X) L.length R/\(ZcF I F o L K).wp (Out aI ao)) (fun ⟨L,W,X,R,K,an⟩=>St w0 G0 an [(1005,R)]) ?_ ?_
   .refine aM' (fun (⟨ar,ay⟩:Bool×Mem)=>[(0,.slice S I.length Y),(1,.slice U F.length V),(5,.slice H C.length E),(6,i' M),(7,i' o),(43,.bool ar)]) (fun ⟨ar,ay⟩=>Mem.le am ay/\(ZaR I F C M o ar).wp (Out aI ao)) (fun ⟨ar,ay⟩=>St w0 G0 ay [(1005,D)]) ?_ ?_
    .refine ah' [ff,ff,ff,ff,ff,ff,ff,ff,ff,ff,ff,ff,ff,ff,ff,ff,ff,ff,ff,ff] mix (by kernel_rfl) fun hb=>cn (fun _ c=>e' z)<|cn (fun _ c=>e' z)<|cn (fun _ c=>M' ak' ((J.mono (mx (mx g d) f)).mono c) z)<|by' hr z (fun _ c=>at' z z) (fun bR hr=>?_) (fun bR hr=>?_)
     .refine cn (fun _ c=>e' z)<|cf z z<|cf z z<|cf z z<|cf z z<|cf z z<|cs z z<|cs z z<|cs z z<|cs z z<|cs z z<|cs z z<|cs z z<|cs z z<|cs z z<|cs z z<|T' hb<|N' (u' z z) z<|N' (u' z z) z<|sf z z z<|yy (h' z z) z<|v'<|ar'<|as' ⟨true,am⟩ ⟨mr,hr⟩ (f6 z z z z z z) (w1 z)
     refine cn (fun _ c=>e' z)<|cy z z (fun _ c=>e' z)<|cy z z (fun _ c=>e' z)<|cy z z (fun _ c=>M' ak' ((A.mono (mx (mx g d) f)).mono c) z)<|by' hr (w' z z) (fun _ c=>aj' z z) (fun bV hr=>?_) (fun bV hr=>?_)
     .refine cy z z (fun _ c=>e' z)<|cy z z (fun _ c=>e' z)<|cy z z (fun _ c=>e' z) ?_
      obtain⟨x8,bj,hr⟩:=hr
      refine cy z z (fun _ c=>V' ak' ch' ((A.mono (mx (mx g d) f)).mono c) z z bj)<|cy z z (fun _ c=>bD' z)<|cy z z (fun _ c=>aC' _ bW' z (ae' _ _ _) (dy' (J' (J' (ax' (ay' (af' A bj))) (mx (mx g d) f)) c)))<|cy z z (fun _ c=>e' z)<|cy z z (fun _ c=>e' z) ?_
      obtain⟨x9,bi,hr⟩:=hr
      refine cy z z (fun _ c=>V' ak' ch' ((J.mono (mx (mx g d) f)).mono c) z z bi)<|cy z z (fun _ c=>bD' z)<|cy z z (fun _ c=>aC' _ bW' z (ae' _ _ _) (dy' (J' (J' (ax' (ay' (af' J bi))) (mx (mx g d) f)) c)))<|T' hb ?_
      obtain⟨bF,bl,hr⟩:=hr
      refine E' (w' z z) z (t' E80 z) (fy' bl) z (trivial)<|gy z z (be' z z) z<|gy z z (h' z z) z<|yy (l' z z) z<|v'<|ar'<|as' ⟨decide (0<bF),am⟩ ⟨mr,hr⟩ (f6 z z z z z z) (w1 z)
     refine cy z z (fun _ c=>e' z)<|ct z z<|ct z z<|ct z z<|ct z z<|ct z z<|ct z z<|ct z z<|ct z z<|ct z z<|ct z z<|T' hb<|sn2 z<|gy z z (l' z z) z<|yy (l' z z) z<|v'<|ar'<|as' ⟨false,am⟩ ⟨mr,hr⟩ (f6 z z z z z z) (w1 z)
    rintro⟨ar,ay⟩ ⟨ai,hr⟩
    refine aL' hr z (fun bW hr=>?_) (fun bW hr=>?_)
    .refine sr<|mv z z<|mv z z<|mv z z ?_
     obtain⟨x7,bh,hr⟩:=hr
     refine yy (V' ak' ch' (A.mono (mx (mx (mx g d) f) ai)) z z bh) z ?_
     obtain⟨p,q,s,u,bN,aF,aG⟩:=dr' (J' (af' A bh) (mx (mx (mx g d) f) ai))
     refine yy (aC' _ ag133 z z bN) z<|bc' (e:=133) (r:=K') (vs:=#[(0,.agg (((v130' x7.c p q s u):List Value)++(vecG (Value.int .i64) 8 x7.m)).toArray)]) (cs:=(((v130' x7.c p q s u):List Value)++(vecG (Value.int .i64) 8 x7.m))++([])) ([x7]:List Ze) z z z z z (by decide) (fun _=>by kernel_rfl) ⟨((v130' x7.c p q s u):List Value)++(vecG (Value.int .i64) 8 x7.m),[],z,⟨(v130' x7.c p q s u),vecG (Value.int .i64) 8 x7.m,z,⟨(v128' x7.c.num p q),(v128' x7.c.den s u),z,⟨[.bool x7.c.num.neg],[.slice p x7.c.num.mag.length q],z,z,⟨_,z,aF⟩⟩,⟨[.bool x7.c.den.neg],[.slice s x7.c.den.mag.length u],z,z,⟨_,z,aG⟩⟩⟩,z⟩,z⟩ (key:=999) z (by rw[av]; rfl) (fun p6 ch aS bE=>?_)
     obtain⟨br,hr⟩:=hr
     refine bT' (r:=K') 1005 z z ak' el133 z (by decide) z z (aE.mono (mx (mx f ai) aS)) z (by rw[av]; rfl) aw bE br fun p7 b2 bn bX a3 bK bu=>sg z z<|nr<|mv z z<|yy (W' z z) z<|sx0 z z<|ap'<|r'<|O'<|Y' ⟨(C++[x7]),p7,b2,bn,i64.wrap (M+1),o,bX⟩ hr ⟨(mx (mx (mx (mx d f) ai) aS) a3),bK,bu⟩ (f5 z z z z z) (w1 z)
    refine q'<|as' ⟨C,H,E,D,M,ay⟩ ⟨ai,(aE.mono (mx f ai)),aw,hr⟩ (f5 z z z z z) (w1 z)
   rintro⟨L,W,X,R,K,an⟩ ⟨n,aT,aH,hr⟩
   refine aM' (fun (⟨Z,ad,ac,ab,ap,ax⟩:(List Ze)×Option Addr×Nat×Option Ow×Int×Mem)=>[(0,.slice S I.length Y),(1,.slice U F.length V),(5,.slice ad Z.length ac),(6,i' K),(7,i' ap)]) (fun ⟨Z,ad,ac,ab,ap,ax⟩=>Mem.le an ax/\sl K' ax ad ac Z/\Tok 12 133 (.slice ad Z.length ac) Z.length ab/\(Zgc I F K Z ap).wp (Out aI ao)) (fun ⟨Z,ad,ac,ab,ap,ax⟩=>St w0 G0 ax [(1005,ab)]) ?_ ?_
   .refine aM' (fun (⟨aq,aA⟩:Bool×Mem)=>[(0,.slice S I.length Y),(1,.slice U F.length V),(5,.slice W L.length X),(6,i' K),(7,i' o),(70,.bool aq)]) (fun ⟨aq,aA⟩=>Mem.le an aA/\(ZcE I F o L K aq).wp (Out aI ao)) (fun ⟨aq,aA⟩=>St w0 G0 aA [(1005,R)]) ?_ ?_
    .refine ah' [ff,ff,ff,ff,ff,ff,ff,ff,ff,ff,ff,ff,ff,ff,ff] mix (by kernel_rfl) fun hb=>cn (fun _ c=>e' z)<|cn (fun _ c=>e' z)<|cn (fun _ c=>M' ak' ((A.mono (mx (mx (mx g d) f) n)).mono c) z)<|by' hr z (fun _ c=>at' z z) (fun b4 hr=>?_) (fun b4 hr=>?_)
     .refine cn (fun _ c=>e' z)<|cf z z<|cf z z<|cf z z<|cf z z<|cf z z<|cf z z<|cf z z<|cf z z<|cf z z<|cf z z<|T' hb<|sn2 z<|yy (h' z z) z<|v'<|ar'<|as' ⟨true,an⟩ ⟨mr,hr⟩ (f6 z z z z z z) (w1 z)
     refine cn (fun _ c=>e' z)<|cy z z (fun _ c=>e' z)<|cy z z (fun _ c=>e' z) ?_
     obtain⟨x5,a6,hr⟩:=hr
     refine cy z z (fun _ c=>V' ak' ch' ((A.mono (mx (mx (mx g d) f) n)).mono c) z z a6)<|cy z z (fun _ c=>bD' z)<|cy z z (fun _ c=>aC' _ bW' z (ae' _ _ _) (dy' (J' (J' (ax' (ay' (af' A a6))) (mx (mx (mx g d) f) n)) c)))<|cy z z (fun _ c=>e' z)<|cy z z (fun _ c=>e' z) ?_
     obtain⟨x6,be,hr⟩:=hr
     refine cy z z (fun _ c=>V' ak' ch' ((J.mono (mx (mx (mx g d) f) n)).mono c) z z be)<|cy z z (fun _ c=>bD' z)<|cy z z (fun _ c=>aC' _ bW' z (ae' _ _ _) (dy' (J' (J' (ax' (ay' (af' J be))) (mx (mx (mx g d) f) n)) c)))<|T' hb ?_
     obtain⟨bQ,bz,hr⟩:=hr
     refine E' (w' z z) z (t' E80 z) (fy' bz) z (trivial)<|gy z z (aj' z z) z<|yy (l' z z) z<|v'<|ar'<|as' ⟨decide (bQ<0),an⟩ ⟨mr,hr⟩ (f6 z z z z z z) (w1 z)
    rintro⟨aq,aA⟩ ⟨ag,hr⟩
    refine aL' hr z (fun bP hr=>?_) (fun bP hr=>?_)
    .refine sr<|mv z z<|mv z z<|mv z z ?_
     obtain⟨x4,a5,hr⟩:=hr
     refine yy (V' ak' ch' (J.mono (mx (mx (mx (mx g d) f) n) ag)) z z a5) z ?_
     obtain⟨x,t,y,B,bM,aC,aD⟩:=dr' (J' (af' J a5) (mx (mx (mx (mx g d) f) n) ag))
     refine yy (aC' _ ag133 z z bM) z<|bc' (e:=133) (r:=K') (vs:=#[(0,.agg (((v130' x4.c x t y B):List Value)++(vecG (Value.int .i64) 8 x4.m)).toArray)]) (cs:=(((v130' x4.c x t y B):List Value)++(vecG (Value.int .i64) 8 x4.m))++([])) ([x4]:List Ze) z z z z z (by decide) (fun _=>by kernel_rfl) ⟨((v130' x4.c x t y B):List Value)++(vecG (Value.int .i64) 8 x4.m),[],z,⟨(v130' x4.c x t y B),vecG (Value.int .i64) 8 x4.m,z,⟨(v128' x4.c.num x t),(v128' x4.c.den y B),z,⟨[.bool x4.c.num.neg],[.slice x x4.c.num.mag.length t],z,z,⟨_,z,aC⟩⟩,⟨[.bool x4.c.den.neg],[.slice y x4.c.den.mag.length B],z,z,⟨_,z,aD⟩⟩⟩,z⟩,z⟩ (key:=999) z (by rw[av]; rfl) (fun p4 cj aU bJ=>?_)
     obtain⟨bv,hr⟩:=hr
     refine bT' (r:=K') 1005 z z ak' el133 z (by decide) z z (aT.mono (mx ag aU)) z (by rw[av]; rfl) aH bJ bv fun p5 bD bB b0 a0 bZ bw=>sg z z<|nr<|mv z z<|yy (W' z z) z<|sx0 z z<|ap'<|r'<|O'<|Y' ⟨(L++[x4]),p5,bD,bB,K,i64.wrap (o+1),b0⟩ hr ⟨(mx (mx (mx (mx (mx d f) n) ag) aU) a0),bZ,bw⟩ (f5 z z z z z) (w1 z)
    refine q'<|as' ⟨L,W,X,R,o,aA⟩ ⟨ag,(aT.mono ag),aH,hr⟩ (f5 z z z z z) (w1 z)
   rintro⟨Z,ad,ac,ab,ap,ax⟩ ⟨T,aV,aK,hr⟩
   refine n'<|ah' [ff,ff,ff,ff,ff,ff,ff,ff,ff,ff,ff,ff] mix (by kernel_rfl) fun hb=>cn (fun _ c=>e' z)<|cn (fun _ c=>e' z) ?_
   obtain⟨x1,bk,hr⟩:=hr
   refine cn (fun _ c=>V' ak' ch' ((A.mono (mx (mx (mx (mx g d) f) n) T)).mono c) z z bk)<|cn (fun _ c=>cQ' z) ?_
   obtain⟨ba,bf,bg,a8,bH,aP,aM⟩:=el' (J' (aW' (ay' (af' A bk))) (mx (mx (mx (mx g d) f) n) T))
   refine cn (fun _ c=>aC' _ cR' z z (fun j v hv=>c _ _ _ (bH j v hv)))<|cn (fun _ c=>e' z)<|cn (fun _ c=>e' z) ?_
   obtain⟨x2,a4,hr⟩:=hr
   refine cn (fun _ c=>V' ak' ch' ((J.mono (mx (mx (mx (mx g d) f) n) T)).mono c) z z a4)<|cn (fun _ c=>cQ' z) ?_
   obtain⟨a9,bb,bc,bd,bC,aJ,aO⟩:=el' (J' (aW' (ay' (af' J a4))) (mx (mx (mx (mx g d) f) n) T))
   refine cn (fun _ c=>aC' _ cR' z z (fun j v hv=>c _ _ _ (bC j v hv))) ?_
   obtain⟨Q,bs,hr⟩:=hr
   refine aX' (post:=w130' Q) (fun _=>z) (fun _ _=>t' E81 z) (hi' bs) z (fun G' c=>⟨(aP.mono c),(aM.mono c),(aJ.mono c),(aO.mono c)⟩) (fun v G1 G2 c h=>?_) ?_
   .obtain⟨m,l,i,k,rfl,P,O⟩:=h
    exact⟨_,_,_,_,z,P.mono c,O.mono c⟩
   refine bF' (fun _=>z) z130<|ei' (fun ck cc X1 au aZ aX=>?_)
   obtain⟨b1,rfl,bp⟩:=aZ
   obtain⟨m,l,i,k,rfl,P,O⟩:=aX
   refine cx' bp (cg' (show WL _ _ _ _ _ _ (St w0 G0 X1.m _) from ?_))
   refine s' 8 z sz130 z z z z z (List.all_eq_true.1 z)<|v'<|ar'<|g'<|n'<|sr<|yy (o' 8 cR' z z z) z ?_
   obtain⟨cg,bt,hr⟩:=hr
   refine E' z z (t' E82 z) (fc' bt) z (⟨P,O⟩)<|yy (aw' z z) z<|nx<|L' hr z (fun b5 hr=>?_) (fun b5 hr=>?_)
   .refine ah' [tt,ff,ff,ff,ff,ff,ff] mix (by kernel_rfl) fun hb=>cv' z (e' z)<|cn (fun _ c=>o' 8 cR' z z z)<|cn (fun _ c=>e' z)<|cn (fun _ c=>e' z) ?_
    obtain⟨x3,a7,hr⟩:=hr
    have N1:=mx (mx (mx (mx (mx g d) f) n) T) au
    refine cn (fun _ c=>V' ak' ch' ((A.mono N1).mono c) z z a7)<|cn (fun _ c=>bD' z)<|cn (fun _ c=>aC' _ bW' z (ae' _ _ _) (dy' (J' (J' (ax' (ay' (af' A a7))) N1) c)))<|T' hb<|yy (av' (vs:=#[(0,.agg ((v130' Q m l i k)).toArray),(1,.agg (vecG (Value.int .i64) 8 x3.m).toArray)]) (v:=.agg (((v130' Q m l i k):List Value)++(vecG (Value.int .i64) 8 x3.m)).toArray) z z (fun _=>by kernel_rfl)) z<|bc' (e:=133) (r:=K') (vs:=#[(0,.agg (((v130' Q m l i k):List Value)++(vecG (Value.int .i64) 8 x3.m)).toArray)]) (cs:=(((v130' Q m l i k):List Value)++(vecG (Value.int .i64) 8 x3.m))++([])) ([(Ze.mk Q x3.m)]:List Ze) z z z z z (by decide) (fun _=>by kernel_rfl) ⟨((v130' Q m l i k):List Value)++(vecG (Value.int .i64) 8 x3.m),[],z,⟨(v130' Q m l i k),vecG (Value.int .i64) 8 x3.m,z,⟨(v128' Q.num m l),(v128' Q.den i k),z,⟨[.bool Q.num.neg],[.slice m Q.num.mag.length l],z,z,⟨_,z,P⟩⟩,⟨[.bool Q.den.neg],[.slice i Q.den.mag.length k],z,z,⟨_,z,O⟩⟩⟩,z⟩,z⟩ (key:=999) z (by rw[av]; rfl) (fun p2 ci aW bT=>?_)
    obtain⟨bo,hr⟩:=hr
    refine bT' (r:=K') 1005 z z ak' el133 z (by decide) z z (aV.mono (mx au aW)) z (by rw[av]; rfl) aK bT bo fun p3 bL bm bG a1 bU bq=>sg z z<|v'<|ar'<|g'<|sr<|mv z z<|yy (W' z z) z<|sx0 z z<|A'<|mv z z<|yy (W' z z) z<|sg z z<|v'<|I'<|Y' ⟨(Z++[(Ze.mk Q x3.m)]),p3,bL,bm,i64.wrap (K+1),i64.wrap (ap+1),bG⟩ hr ⟨(mx (mx (mx (mx (mx (mx d f) n) T) au) aW) a1),bU,bq⟩ (f5 z z z z z) (w1 z)
   refine q'<|g'<|sr<|mv z z<|yy (W' z z) z<|sx0 z z<|A'<|mv z z<|yy (W' z z) z<|sg z z<|v'<|I'<|Y' ⟨Z,ad,ac,ab,i64.wrap (K+1),i64.wrap (ap+1),X1.m⟩ hr ⟨(mx (mx (mx (mx d f) n) T) au),(aV.mono au),aK⟩ (f5 z z z z z) (w1 z)
 rintro⟨aa,aj,ah,ae,az⟩ ⟨b6,a2,bY,hr⟩
 refine g'<|sr<|mv z z<|sx0 z z<|j' ?_
 obtain rfl:_=r:=hr
 exact k' z z ⟨_,_,z,a2⟩
theorem gY'{y O I V A B r}(hr:(Zio y O I V).Ret r):Ctr prog 46 #[.agg ([.slice A y.t.length B]).toArray,i' O,i' I,i' V] (fun G=>sl (dz' .i8 5) G A B y.t) (wl' K' r):=by
 refine H' (args:=[_,_,_,_]) (N:=74) func46 z z z (fun w0 G0 aB aQ=>?_)
 have H:=aQ
 refine sr<|ag' 4 z z z fun b1=>sg z z<|nr<|bc' (e:=133) (r:=K') (vs:=#[]) (cs:=[]) ([]:List Ze) z z z z z (by decide) (fun _=>by kernel_rfl) (z) (key:=999) z (by rw[aB]; rfl) fun p1 ap U aV=>sx0 z z<|n'<|sr<|sx0 z z<|am' (fun (⟨J,Q,T,Z⟩:(List Ze)×Option Addr×Nat×Mem)=>[(9,.slice Q J.length T)]) (fun ⟨J,Q,T,Z⟩=>Mem.le ap Z/\sl K' Z Q T J/\(Zfn J).Ret r) (fun ⟨J,Q,T,Z⟩=>St w0 G0 Z []) ?_ ?_
 .refine C' ?_
  let Y:(List Ze)->Prop:=fun oo=>((fun ov=>match ov with|J=>Zfn J:(List Ze)->Cq (List Ze)) oo).wp (fun a=>a=r)
  replace hr:(Cq.loop _ _).wp Y:=hr
  refine an' (Φ:=Y) (fun (⟨k,m,n,j,L⟩:(List Ze)×Option Addr×Nat×Int×Mem)=>((k,j):(List Ze)×Int)) (fun ⟨k,m,n,j,L⟩=>[(1,i' O),(2,i' I),(3,i' V),(4,pt0 b1),(9,.slice m k.length n),(10,i' j)]) (fun ⟨k,m,n,j,L⟩=>Mem.le ap L/\sl K' L m n k) (fun ⟨k,m,n,j,L⟩=>St w0 G0 L [(4,bk0 b1 ([.slice A y.t.length B]) 52)]) ⟨[],p1,0,0,ap⟩ hr (f6 z z z z z z) ⟨mr,aV⟩ (w1 z) ?_
  .intro ao gx hx hr
   obtain⟨k,m,n,j,L⟩:=gx
   obtain⟨s,af⟩:=hx
   refine aM' (fun (gx:Mem)=>match gx with|R=>[(1,i' O),(2,i' I),(3,i' V),(4,pt0 b1),(9,.slice m k.length n),(10,i' j)]) (fun (gx:Mem)=>match gx with|R=>Mem.le L R/\(Zh1 y O I k j).wp (Out ao Y)) (fun (gx:Mem)=>match gx with|R=>St w0 G0 R [(4,bk0 b1 ([.slice A y.t.length B]) 52)]) ?_ ?_
   .refine sr<|mv z z<|yy (Y0.Zk5 z) z<|yy (f' 4 sc50 z z z) z<|yy (M' eE' (H.mono (mx U s)) z) z<|ac' hr z (aj' z z) z (fun aU hr=>?_) (fun aU hr=>?_)
    .refine mv z z<|gy z z (e' z) z<|gy z z (e' z) z<|gy z z (aj' z z) z<|yy (h' z z) z<|nx<|L' hr z (fun aT hr=>?_) (fun aT hr=>?_)
     .refine q'<|as' L ⟨mr,hr⟩ (f6 z z z z z z) (w1 z)
     refine ap'<|r'<|r'<|O'<|aq' ⟨k,m,n,L⟩ ⟨s,af,hr⟩ (f1 z) (wk ln)
    refine mv z z<|sn3 z<|yy (l' z z) z<|nx<|bd' z<|ap'<|r'<|r'<|O'<|aq' ⟨k,m,n,L⟩ ⟨s,af,hr⟩ (f1 z) (wk ln)
   rintro R ⟨M,hr⟩
   refine n'<|C'<|sr<|yy (av' (vs:=#[]) (v:=.agg (vecG (Value.int .i64) 8 (fun _=>0)).toArray) z z (fun _=>by kernel_rfl)) z<|Q' 11 z z120 z fun b2=>s' 11 z sz120 z z z (ae' _ _ _) (ae' _ _ _) (fun u hu=>Rp.one (dz' .i64 8) (G:=R) (x:=(fun _=>0)) (cs:=vecG (Value.int .i64) 8 (fun _=>0)) z u (by first|simpa using hu|simpa [Value.cells] using hu))<|nr<|mv z z<|sx0 z z<|n'<|sr<|sx0 z z<|am' (fun (⟨t,ah⟩:(Fin 8->Int)×Mem)=>[(1,i' O),(2,i' I),(3,i' V),(4,pt0 b1),(9,.slice m k.length n),(10,i' j),(11,pt0 b2)]) (fun ⟨t,ah⟩=>Mem.le R ah/\(Zfo y k j t).wp (Out ao Y)) (fun ⟨t,ah⟩=>St w0 G0 ah [(4,bk0 b1 ([.slice A y.t.length B]) 52),(11,bk0 b2 (vecG (Value.int .i64) 8 t) 120)]) ?_ ?_
   .refine C' ?_
    let aq:(Fin 8->Int)->Prop:=fun oo=>((fun ov=>match ov with|t=>Zfo y k j t:(Fin 8->Int)->Cq (((List Ze)×Int)⊕(List Ze))) oo).wp (Out ao Y)
    replace hr:(Cq.loop _ _).wp aq:=hr
    refine an' (Φ:=aq) (fun (⟨p,l,K,P⟩:Int×Int×(Fin 8->Int)×Mem)=>((p,l,K):Int×Int×(Fin 8->Int))) (fun ⟨p,l,K,P⟩=>[(1,i' O),(2,i' I),(3,i' V),(4,pt0 b1),(9,.slice m k.length n),(10,i' j),(11,pt0 b2),(12,i' p),(13,i' l)]) (fun ⟨p,l,K,P⟩=>Mem.le R P) (fun ⟨p,l,K,P⟩=>St w0 G0 P [(4,bk0 b1 ([.slice A y.t.length B]) 52),(11,bk0 b2 (vecG (Value.int .i64) 8 K) 120)]) ⟨I,0,(fun _=>0),R⟩ hr (f9 z z z z z z z z z) mr (w2 z z) ?_
    .intro be gx hx hr
     obtain⟨p,l,K,P⟩:=gx
     have S:=hx
     refine n'<|sr<|mv z z<|mv z z<|ac' hr z (aj' z z) z (fun a1 hr=>?_) (fun a1 hr=>?_)
     .refine mv z z<|gy z z (e' z) z<|gy z z (aj' z z) z<|yy (h' z z) z<|nx<|L' hr z (fun a2 hr=>?_) (fun a2 hr=>?_)
      .refine q'<|g'<|n'<|C'<|sr<|mv z z<|yy (Y0.Zk5 z) z<|yy (f' 4 sc50 z z z) z<|mv z z<|mv z z<|yy (W' z z) z ?_
       obtain⟨x2,az,hr⟩:=hr
       refine yy (V' eE' sz123 (H.mono (mx (mx (mx U s) M) S)) z z az) z ?_
       obtain⟨aA,hr⟩:=hr
       refine yy (Y0.idxA underlying123 sz122 z z aA) z<|yy (aa' sc122 z (AtK.vecAt (J' (af' H az) (mx (mx (mx U s) M) S)) aA)) z ?_
       obtain⟨au,aO,hr⟩:=hr
       refine E' z z (t' E61 z) (he' aO) z (trivial)<|mv z z<|yy (W' z z) z ?_
       obtain⟨aX,hr⟩:=hr
       refine yy (bA' z z aX) z ?_
       obtain⟨a0,hr⟩:=hr
       refine yy (bj' aO' sz3 z z a0) z<|aD' 11 (vecG (Value.int .i64) 8 (setF K l.toNat (Int.tmod au (i64.wrap (p+1))))).toArray z sz3 z z z (by first|(rw[ae']; omega)|(show _<(vecG _ _ _).toArray.size; rw[ae']; omega)) z (cj' _ _ _ _ _)<|nx<|A'<|mv z z<|mv z z ?_
       obtain⟨aC,hr⟩:=hr
       refine yy (bj' aO' sz3 z z aC) z<|yy (f' 11 sc3 z z (bi' _ _ _ aC)) z<|yy (bk' z z) z<|sg z z<|v'<|I'<|g'<|A'<|mv z z<|yy (W' z z) z<|sg z z<|v'<|Y' ⟨i64.wrap (p-(getF (setF K l.toNat (Int.tmod au (i64.wrap (p+1)))) l)),i64.wrap (l+1),setF K l.toNat (Int.tmod au (i64.wrap (p+1))),P⟩ hr S (f9 z z z z z z z z z) (w2 z z)
      refine ap'<|r'<|r'<|O'<|aq' ⟨K,P⟩ ⟨S,hr⟩ (f7 z z z z z z z) (w2 z z)
     refine mv z z<|sn2 z<|yy (l' z z) z<|nx<|bd' z<|ap'<|r'<|r'<|O'<|aq' ⟨K,P⟩ ⟨S,hr⟩ (f7 z z z z z z z) (w2 z z)
   rintro⟨t,ah⟩ ⟨X,hr⟩
   refine g'<|ah' [tt,ff,ff,ff,ff,ff,ff,ff,ff,ff,ff,ff] mix (by kernel_rfl) fun hb=>cv' z (e' z)<|cn (fun _ o=>Y0.Zk5 z)<|cn (fun _ o=>f' 4 sc50 z z z)<|cn (fun _ o=>e' z) ?_
   obtain⟨x1,aE,hr⟩:=hr
   have N1:=mx (mx (mx U s) M) X
   refine cn (fun _ o=>V' eE' sz123 ((H.mono N1).mono o) z z aE)<|cn (fun _ o=>Y0.idxA underlying123 sz122 z z (by decide))<|cn (fun _ o=>aa' sc122 z (AtK.vecAt (J' (J' (af' H aE) N1) o) (by decide)))<|cn (fun _ o=>bA' z z (by decide))<|cn (fun _ o=>aN' ez' underlying2 z) ?_
   obtain⟨aD,aJ,hr⟩:=hr
   refine aX' (post:=w130' aD) (fun _=>z) (fun _ _=>t' E64 z) (fM' aJ) z (fun G' o=>trivial) (fun v G1 G2 o h=>?_) ?_
   .obtain⟨ae,ad,aa,ac,rfl,D,C⟩:=h
    exact⟨_,_,_,_,z,D.mono o,C.mono o⟩
   obtain⟨q,aK,hr⟩:=hr
   refine aX' (post:=w130' q) (fun _=>z) (fun _ _=>t' E64 z) (fM' aK) z (fun G' o=>trivial) (fun v G1 G2 o h=>?_) ?_
   .obtain⟨c,g,f,i,rfl,F,E⟩:=h
    exact⟨_,_,_,_,z,F.mono o,E.mono o⟩
   refine cu (fun _ _ o=>o' 11 bW' z z (ae' _ _ _))<|dx' (d:=67) (post:=w130' q) (d':=66) (post':=w130' aD) (fun a9 ba bg ai an ak=>?_)
   obtain⟨c,g,f,i,rfl,F,E⟩:=an
   obtain⟨ae,ad,aa,ac,rfl,D,C⟩:=ak
   refine yy (av' (vs:=#[(0,.agg ((v130' q c g f i)).toArray),(1,.agg (vecG (Value.int .i64) 8 t).toArray)]) (v:=.agg (((v130' q c g f i):List Value)++(vecG (Value.int .i64) 8 t)).toArray) z z (fun _=>by kernel_rfl)) z<|bc' (e:=133) (r:=K') (vs:=#[(0,.agg (((v130' q c g f i):List Value)++(vecG (Value.int .i64) 8 t)).toArray)]) (cs:=(((v130' q c g f i):List Value)++(vecG (Value.int .i64) 8 t))++([])) ([(Ze.mk q t)]:List Ze) z z z z z (by decide) (fun _=>by kernel_rfl) ⟨((v130' q c g f i):List Value)++(vecG (Value.int .i64) 8 t),[],z,⟨(v130' q c g f i),vecG (Value.int .i64) 8 t,z,⟨(v128' q.num c g),(v128' q.den f i),z,⟨[.bool q.num.neg],[.slice c q.num.mag.length g],z,z,⟨_,z,F⟩⟩,⟨[.bool q.den.neg],[.slice f q.den.mag.length i],z,z,⟨_,z,E⟩⟩⟩,z⟩,z⟩ (key:=999) z (by rw[aB]; rfl) (fun p2 bi W aW=>?_)
   obtain⟨bh,aP,hr⟩:=hr
   refine P' z z (t' E63 z) (gT' aP) z (⟨(D.mono W),(C.mono W),aW⟩) (fun a6 bf aj am=>?_)
   obtain⟨a5,bb,rfl,aH⟩:=am
   obtain⟨aS,aF,hr⟩:=hr
   refine P' z z (t' E62 z) (gu' aF) z (⟨(af.mono (mx (mx (mx (mx M X) ai) W) aj)),aH⟩) (fun a8 aZ aw al=>?_)
   obtain⟨aN,aM,rfl,aL⟩:=al
   have N2:=mx (mx (mx (mx (mx (mx s M) X) ai) W) aj) aw
   refine sg z z<|v'<|ar'<|I'<|g'<|A'<|mv z z<|yy (W' z z) z<|sg z z<|v'<|Y' ⟨aS,aN,aM,i64.wrap (j+1),aZ⟩ hr ⟨N2,aL⟩ (f6 z z z z z z) (w1 z)
 rintro⟨J,Q,T,Z⟩ ⟨a3,ax,hr⟩
 refine g'<|sr<|mv z z<|sx0 z z<|j' ?_
 obtain rfl:_=r:=hr
 exact k' z z ⟨_,_,z,ax⟩
theorem fd'{e d y x A B t s m l r}(hr:(Zdh e d).Ret r):Ctr prog 19 #[.agg ((v31' e y x A B t s)).toArray,.agg ((v54' d m l)).toArray] (fun G=>sl Rp.str G y x e.vars/\sl b' G A B e.eqs/\sl b' G t s e.neqs/\sl (dz' .i8 5) G m l d.p.t) (w48' r):=by
 refine H' (args:=[_,_]) (N:=77) func19 z z z (fun w0 G0 aI aq=>?_)
 obtain⟨J,af,ad,P⟩:=aq
 refine sr<|ag' 2 z z z fun b1=>ag' 3 z z z fun b2=>Q' 4 z z48 z fun W=>nr<|yy (aF' z) z<|yy (f' 2 bB' z z z) z<|yy (M' F' J z) z<|sx0 z z<|n'<|ah' [ff,ff,ff,ff,ff,ff,ff,ff,ff,ff,ff,ff,ff,ff,ff,ff,ff,ff,ff,ff,ff,ff,ff,ff,ff,ff,ff,ff,ff,ff,ff,ff,ff,ff,ff,ff] mix (by kernel_rfl) fun hb=>cn (fun _ f=>Y0.ZnF z)<|cn (fun _ f=>f' 3 sc5 z z z)<|cn (fun _ f=>bA' z z (by decide))<|cn (fun _ f=>aN' aP' aA' z)<|cn (fun _ f=>W' z z)<|cn (fun _ f=>Y0.Zk6 z)<|cn (fun _ f=>f' 3 sc5 z z z)<|cn (fun _ f=>aN' aP' aA' z)<|cn (fun _ f=>e' z)<|cn (fun _ f=>W' z z) ?_
 obtain⟨ay,hr⟩:=hr
 refine cn (fun _ f=>bA' z z ay)<|cn (fun _ f=>Y0.ZnG z)<|cn (fun _ f=>f' 3 sc5 z z z)<|cn (fun _ f=>aN' aP' aA' z)<|cn (fun _ f=>e' z)<|cn (fun _ f=>W' z z) ?_
 obtain⟨ax,hr⟩:=hr
 refine cn (fun _ f=>bA' z z ax)<|cn (fun _ f=>Y0.Zk7 z)<|cn (fun _ f=>f' 3 sc5 z z z)<|cn (fun _ f=>aN' aP' aA' z)<|cn (fun _ f=>bw' z)<|cn (fun _ f=>f' 2 sc3 z z z)<|cn (fun _ f=>W' z z) ?_
 obtain⟨ar,hr⟩:=hr
 refine cn (fun _ f=>bA' z z ar)<|cn (fun _ f=>Y0.ZnG z)<|cn (fun _ f=>f' 3 sc5 z z z)<|cn (fun _ f=>bA' z z (by decide))<|cn (fun _ f=>at' z z) ?_
 obtain⟨O,aj,hr⟩:=hr
 refine aX' (post:=wl' Rp.str O) (fun _=>z) (fun _ _=>t' E45 z) (gP' aj) z (fun V f=>trivial) (fun v G1 G2 f h=>?_) ?_
 .obtain⟨L,K,rfl,C⟩:=h
  exact⟨_,_,z,C.mono f⟩
 refine cu (fun _ _ f=>Y0.Zk7 z)<|cu (fun _ _ f=>f' 3 sc5 z z z)<|cu (fun _ _ f=>bA' z z (by decide)) ?_
 obtain⟨I,ae,hr⟩:=hr
 refine bm' (φ:=fun G v=>∃ D F,v = .pointer (some ⟨pb D,po D+(Int.tmod d.n 6).toNat*1,none⟩)/\sl Rp.str G D F O) (fun _=>z) (fun v G1 G2 f h=>?_) (fun u V f hu=>?_) ?_
 .obtain⟨D,F,rfl,M⟩:=h
  exact⟨_,_,z,M.mono f⟩
 .obtain⟨⟨L,K,aa,C⟩,_⟩:=(show (wl' Rp.str O) V.m (u 38)/\True from hu)
  simp only[undFr,aa]
  exact⟨_,V' F' sz9 C z z ae,L,K,z,C⟩
 refine Chain.y0UD (c:=.string I) (fun _=>z) (fun u V f hu=>?_) ?_
 .obtain⟨⟨D,F,Y,M⟩,_,_⟩:=(show (fun G v=>∃ D F,v = .pointer (some ⟨pb D,po D+(Int.tmod d.n 6).toNat*1,none⟩)/\sl Rp.str G D F O) V.m (u 42)/\True/\True from hu)
  simp only[undFr,Y]
  exact aa' sc9 z (cd' (af' M ae))
 refine cu (fun _ _ f=>av' (vs:=#[(0,i' (i64.wrap (1+(i64.wrap (Int.tmod d.kind 16))))),(2,i' (Int.tmod (i64.wrap d.a) (i64.wrap ((e.vars.length:Int)+1)))),(3,i' (Int.tmod (i64.wrap d.b) (i64.wrap ((e.vars.length:Int)+1)))),(4,i' (Int.tmod (i64.wrap d.n) (i64.wrap (e.next+1)))),(6,.bool (decide ((Int.tmod d.b 4)=3))),(1,.string I)]) (v:=.agg ([i' (i64.wrap (1+(i64.wrap (Int.tmod d.kind 16)))),.string I,i' (Int.tmod (i64.wrap d.a) (i64.wrap ((e.vars.length:Int)+1))),i' (Int.tmod (i64.wrap d.b) (i64.wrap ((e.vars.length:Int)+1))),i' (Int.tmod (i64.wrap d.n) (i64.wrap (e.next+1))),.slice none 0 0,.bool (decide ((Int.tmod d.b 4)=3))]).toArray) z z (fun _=>by kernel_rfl))<|bF' (fun _=>z) z48<|Chain.tailX3 (fun aK aF aG T am U S Q=>?_)
 obtain⟨b4,rfl,ah⟩:=U
 obtain⟨D,F,rfl,M⟩:=S
 obtain⟨L,K,rfl,C⟩:=Q
 refine cx' ah (cg' (show WL _ _ _ _ _ _ (St w0 G0 T.m _) from ?_))
 refine s' 6 z cf' z z z z z (List.all_eq_true.1 z)<|v'<|ar'<|g'<|aM' (fun (⟨g,j,k,o⟩:Zc×Option Addr×Nat×Mem)=>[(3,pt0 b2),(4,pt0 W),(5,i' (e.vars.length:Int)),(6,pt0 b4)]) (fun ⟨g,j,k,o⟩=>Mem.le T.m o/\sl K' o j k g.p/\(Za1 e d g).Ret r) (fun ⟨g,j,k,o⟩=>St w0 G0 o [(3,bk0 b2 (v54' d m l) 54),(4,bk0 W ([i' 0,.string ByteArray.empty,i' 0,i' 0,i' 0,.slice none 0 0,.bool false]) 48),(6,bk0 b4 (v48' g j k) 48)]) ?_ ?_
 .refine sr<|yy (Y0.ZnF z) z<|yy (f' 3 sc5 z z z) z<|yy (bA' z z (by decide)) z<|yy (bf' z z) z<|nx<|L' hr z (fun au hr=>?_) (fun au hr=>?_)
  .refine sr<|yy (Y0.Zk6 z) z<|yy (f' 3 sc5 z z z) z<|yy (bA' z z (by decide)) z<|yy (aN' aP' aA' z) z<|yy (W' z z) z<|yy (cB' z) z<|aD' 6 ([i' (i64.wrap (5+(i64.wrap (Int.tmod d.a 4)))),.string I,i' (Int.tmod (i64.wrap d.a) (i64.wrap ((e.vars.length:Int)+1))),i' (Int.tmod (i64.wrap d.b) (i64.wrap ((e.vars.length:Int)+1))),i' (Int.tmod (i64.wrap d.n) (i64.wrap (e.next+1))),.slice none 0 0,.bool (decide ((Int.tmod d.b 4)=3))]).toArray z sz3 z z z (show 0<7 by decide) z z<|nr<|yy (Y0.Zk6 z) z<|yy (f' 3 sc5 z z z) z<|yy (bA' z z (by decide)) z<|yy (aj' z z) z<|nx<|L' hr z (fun aw hr=>?_) (fun aw hr=>?_)
   .refine A'<|yy (cB' z) z<|aD' 6 ([i' 5,.string I,i' (Int.tmod (i64.wrap d.a) (i64.wrap ((e.vars.length:Int)+1))),i' (Int.tmod (i64.wrap d.b) (i64.wrap ((e.vars.length:Int)+1))),i' (Int.tmod (i64.wrap d.n) (i64.wrap (e.next+1))),.slice none 0 0,.bool (decide ((Int.tmod d.b 4)=3))]).toArray z sz3 z z z (show 0<7 by decide) z z<|v'<|as' ⟨(Zc.mk 5 I (Int.tmod (i64.wrap d.a) (i64.wrap ((e.vars.length:Int)+1))) (Int.tmod (i64.wrap d.b) (i64.wrap ((e.vars.length:Int)+1))) (Int.tmod (i64.wrap d.n) (i64.wrap (e.next+1))) [] (decide ((Int.tmod d.b 4)=3))),none,0,T.m⟩ ⟨mr,(R' _ _),hr⟩ (f4 z z z z) (w3 z z z)
   refine q'<|as' ⟨(Zc.mk (i64.wrap (5+(i64.wrap (Int.tmod d.a 4)))) I (Int.tmod (i64.wrap d.a) (i64.wrap ((e.vars.length:Int)+1))) (Int.tmod (i64.wrap d.b) (i64.wrap ((e.vars.length:Int)+1))) (Int.tmod (i64.wrap d.n) (i64.wrap (e.next+1))) [] (decide ((Int.tmod d.b 4)=3))),none,0,T.m⟩ ⟨mr,(R' _ _),hr⟩ (f4 z z z z) (w3 z z z)
  refine q'<|as' ⟨(Zc.mk (i64.wrap (1+(i64.wrap (Int.tmod d.kind 16)))) I (Int.tmod (i64.wrap d.a) (i64.wrap ((e.vars.length:Int)+1))) (Int.tmod (i64.wrap d.b) (i64.wrap ((e.vars.length:Int)+1))) (Int.tmod (i64.wrap d.n) (i64.wrap (e.next+1))) [] (decide ((Int.tmod d.b 4)=3))),none,0,T.m⟩ ⟨mr,(R' _ _),hr⟩ (f4 z z z z) (w3 z z z)
 rintro⟨g,j,k,o⟩ ⟨Z,H,hr⟩
 refine aM' (fun (⟨n,p,q,E⟩:Zc×Option Addr×Nat×Mem)=>[(3,pt0 b2),(4,pt0 W),(5,i' (e.vars.length:Int)),(6,pt0 b4)]) (fun ⟨n,p,q,E⟩=>Mem.le o E/\sl K' E p q n.p/\(Zb3 e d n).Ret r) (fun ⟨n,p,q,E⟩=>St w0 G0 E [(3,bk0 b2 (v54' d m l) 54),(4,bk0 W ([i' 0,.string ByteArray.empty,i' 0,i' 0,i' 0,.slice none 0 0,.bool false]) 48),(6,bk0 b4 (v48' n p q) 48)]) ?_ ?_
 .refine sr<|yy (cB' z) z<|yy (f' 6 sc3 z z z) z<|ac' hr z (at' z z) z (fun az hr=>?_) (fun az hr=>?_)
  .refine mv z z<|gy z z (Y0.Zk7 z) z<|gy z z (f' 3 sc5 z z z) z<|gy z z (bA' z z (by decide)) z<|gy z z (be' z z) z<|yy (h' z z) z<|nx<|L' hr z (fun aA hr=>?_) (fun aA hr=>?_)
   .refine A'<|yy (aS' z) z<|aD' 6 ([i' g.kind,.string g.name,i' g.at',i' g.to',i' 0,.slice j g.p.length k,.bool g.neq]).toArray z sz3 z z z (show 4<7 by decide) z z<|v'<|as' ⟨(Zc.mk g.kind g.name g.at' g.to' 0 g.p g.neq),j,k,o⟩ ⟨mr,H,hr⟩ (f4 z z z z) (w3 z z z)
   refine q'<|as' ⟨g,j,k,o⟩ ⟨mr,H,hr⟩ (f4 z z z z) (w3 z z z)
  refine mv z z<|sn4 z<|yy (l' z z) z<|nx<|bd' z<|q'<|as' ⟨g,j,k,o⟩ ⟨mr,H,hr⟩ (f4 z z z z) (w3 z z z)
 rintro⟨n,p,q,E⟩ ⟨X,aB,hr⟩
 refine sr<|yy (Y0.ZpX z) z<|yy (aJ' ([.slice m d.p.t.length l]).toArray 3 ag52 z z z (aU' ([.int .u8 d.kind,.int .u8 d.a,.int .u8 d.b,.int .u8 d.n]) ([.slice m d.p.t.length l]) ([]))) z<|mv z z<|yy (Y0.min2 z z) z ?_
 obtain⟨av,an,hr⟩:=hr
 refine P' z z (t' E46 z) (gY' an) z ((P.mono (mx (mx am Z) X))) (fun aD aJ aC R=>?_)
 obtain⟨ag,ao,rfl,ai⟩:=R
 refine yy (dp' z) z<|aD' 6 ([i' n.kind,.string n.name,i' n.at',i' n.to',i' n.id,.slice ag av.length ao,.bool n.neq]).toArray z sz46 z z z (show 5<7 by decide) z z<|nr<|yy (o' 6 bP' z z z) z<|s' 4 z cf' z z z z z (List.all_eq_true.1 z)<|nx<|j' ?_
 obtain rfl:_=r:=hr
 exact k' z (ad' (i:=4) bP' z z z) ⟨_,_,z,ai⟩
theorem fz'{c r}(hr:(ZcK c).Ret r):Ctr prog 70 #[.int .u8 c] (fun G=>True) (fun G v=>v = .bool r):=by
 refine H' (args:=[_]) (N:=17) func70 z z z fun j k i h=>sr<|sg z z<|nr<|mv z z<|ac' hr z (bf' z z) z (fun e hr=>?_) (fun e hr=>?_)
 .refine mv z z<|gy z z (e' z) z<|ac' hr (w' z z) (bL' z z) z (fun g hr=>?_) (fun g hr=>?_)
  .refine yy (h' z z) z<|mv z z<|sn3 z<|N' (u' z z) z<|N' (u' z z) z<|sf z z z<|yy (h' z z) z<|sx0 z z<|j' (k0' hr z z)
  refine yy (h' z z) z<|mv z z<|gy z z (e' z) z<|ac' hr (w' z z) (bf' z z) z (fun f hr=>?_) (fun f hr=>?_)
  .refine gy z z (e' z) z<|gy z z (e' z) z<|gy z z (bL' z z) z<|gy z z (h' z z) z<|yy (l' z z) z<|sx0 z z<|j' (k0' hr z z)
  refine gy z z (e' z) z<|sn2 z<|gy z z (l' z z) z<|yy (l' z z) z<|sx0 z z<|j' (k0' hr z z)
 refine mv z z<|sn2 z<|yy (l' z z) z<|mv z z<|gy z z (e' z) z<|ac' hr (w' z z) (bf' z z) z (fun d hr=>?_) (fun d hr=>?_)
 .refine gy z z (e' z) z<|gy z z (e' z) z<|gy z z (bL' z z) z<|gy z z (h' z z) z<|yy (l' z z) z<|sx0 z z<|j' (k0' hr z z)
 refine gy z z (e' z) z<|sn2 z<|gy z z (l' z z) z<|yy (l' z z) z<|sx0 z z<|j' (k0' hr z z)
theorem fe'{g r}(hr:(Zdg g).Ret r):Ctr prog 54 #[.string g] (fun G=>True) (fun G v=>v = .bool r):=by
 refine H' (args:=[_]) (N:=48) func54 z z z fun m j S L=>sr<|sx0 z z<|aM' (fun (e:Mem)=>match e with|f=>[(0,.string g)]) (fun (e:Mem)=>match e with|f=>Mem.le j f/\(Zh2 g).Ret r) (fun (e:Mem)=>match e with|f=>St m j f []) ?_ ?_
 .refine sr<|mv z z<|yy (Y0.lenS bl' z) z<|ac' hr z (aj' z z) z (fun F hr=>?_) (fun F hr=>?_)
  .refine mv z z<|sn3 z<|yy (h' z z) z<|mv z z<|sn4 z<|yy (h' z z) z<|nx<|U' z<|sr<|sx0 z z<|j'<|a' (k0' hr z z)
  refine mv z z<|gy z z (e' z) z<|gy z z (Y0.lenS bl' z) z<|ac' hr (w' z z) (be' z z) z (fun C hr=>?_) (fun C hr=>?_)
  .refine yy (l' z z) z<|mv z z<|sn4 z<|yy (h' z z) z<|nx<|U' z<|sr<|sx0 z z<|j'<|a' (k0' hr z z)
  refine yy (l' z z) z<|mv z z<|gy z z (e' z) z ?_
  obtain⟨p,hr⟩:=hr
  refine gy z z (dQ' (s:=g) bl' z z p) z ?_
  obtain⟨Q,l,hr⟩:=hr
  refine E' (w' z z) z (t' E70 z) (fz' l) z (trivial)<|gy z z (al' z) z<|yy (l' z z) z<|nx<|aL' hr z (fun y hr=>?_) (fun y hr=>?_)
  .refine sr<|sx0 z z<|j'<|a' (k0' hr z z)
  refine q'<|as' j ⟨mr,hr⟩ (f1 z) (wk ln)
 rintro f ⟨J,hr⟩
 refine n'<|sr<|sx0 z z<|am' (fun (e:Mem)=>match e with|i=>[]) (fun (e:Mem)=>match e with|i=>Mem.le f i/\(Zfr).Ret r) (fun (e:Mem)=>match e with|i=>St m j i []) ?_ ?_
 .refine C' ?_
  let k:(Bool⊕Unit)->Prop:=fun O=>((fun M=>match M with | .inl rv1=>Cq.ret rv1 | .inr ()=>Zfr:(Bool⊕Unit)->Cq Bool) O).wp (fun a=>a=r)
  replace hr:(Cq.loop _ _).wp k:=hr
  refine an' (Φ:=k) (fun (⟨h,c⟩:Int×Mem)=>(h:Int)) (fun ⟨h,c⟩=>[(0,.string g),(3,i' h)]) (fun ⟨h,c⟩=>Mem.le f c) (fun ⟨h,c⟩=>St m j c []) ⟨1,f⟩ hr (f2 z z) mr (wk ln) ?_
  .intro R e P hr
   obtain⟨h,c⟩:=e
   have d:=P
   refine n'<|sr<|mv z z<|mv z z<|yy (Y0.lenS bl' z) z<|yy (aj' z z) z<|nx<|L' hr z (fun I hr=>?_) (fun I hr=>?_)
   .refine q'<|g'<|n'<|C'<|sr<|mv z z<|mv z z ?_
    obtain⟨o,hr⟩:=hr
    refine yy (dQ' (s:=g) bl' z z o) z ?_
    obtain⟨u,n,hr⟩:=hr
    refine E' z z (t' E70 z) (fz' n) z (trivial) ?_
    cases u
    .refine yy (al' z) z<|mv z z<|gy z z (e' z) z<|gy z z (e' z) z ?_
     obtain⟨t,hr⟩:=hr
     refine gy z z (dQ' (s:=g) bl' z z t) z<|ac' hr (w' z z) (bf' z z) z (fun E hr=>?_) (fun E hr=>?_)
     .refine gy z z (e' z) z<|gy z z (e' z) z<|gy z z (e' z) z ?_
      obtain⟨D,hr⟩:=hr
      refine gy z z (dQ' (s:=g) bl' z z D) z<|ac' hr (w' z z) (bL' z z) z (fun B hr=>?_) (fun B hr=>?_)
      .refine gy z z (h' z z) z<|gy z z (al' z) z<|yy (h' z z) z<|mv z z<|sn4 z<|yy (l' z z) z<|nx<|bd' z<|q'<|I'<|g'<|A'<|mv z z<|yy (W' z z) z<|sg z z<|v'<|Y' ⟨i64.wrap (h+1),c⟩ hr d (f2 z z) (wk ln)
      refine gy z z (h' z z) z<|gy z z (al' z) z<|yy (h' z z) z<|mv z z<|gy z z (e' z) z<|gy z z (e' z) z ?_
      obtain⟨x,hr⟩:=hr
      refine gy z z (dQ' (s:=g) bl' z z x) z<|gy z z (aw' z z) z<|yy (h' z z) z<|nx<|L' hr z (fun A hr=>?_) (fun A hr=>?_)
      .refine sr<|sx0 z z<|j'<|m'<|a'<|a'<|m'<|ab'<|a' (k0' hr z z)
      refine q'<|I'<|g'<|A'<|mv z z<|yy (W' z z) z<|sg z z<|v'<|Y' ⟨i64.wrap (h+1),c⟩ hr d (f2 z z) (wk ln)
     refine gy z z (e' z) z<|sn4 z<|gy z z (l' z z) z<|gy z z (al' z) z<|yy (h' z z) z<|mv z z<|gy z z (e' z) z<|gy z z (e' z) z ?_
     obtain⟨q,hr⟩:=hr
     refine gy z z (dQ' (s:=g) bl' z z q) z<|gy z z (aw' z z) z<|yy (h' z z) z<|nx<|L' hr z (fun H hr=>?_) (fun H hr=>?_)
     .refine sr<|sx0 z z<|j'<|m'<|a'<|a'<|m'<|ab'<|a' (k0' hr z z)
     refine q'<|I'<|g'<|A'<|mv z z<|yy (W' z z) z<|sg z z<|v'<|Y' ⟨i64.wrap (h+1),c⟩ hr d (f2 z z) (wk ln)
    refine yy (al' z) z<|mv z z<|sn5 z<|N' (u' z z) z<|N' (u' z z) z<|N' (u' z z) z<|N' (u' z z) z<|sn2 z<|yy (l' z z) z<|mv z z<|sn4 z<|yy (l' z z) z<|nx<|bd' z<|q'<|I'<|g'<|A'<|mv z z<|yy (W' z z) z<|sg z z<|v'<|Y' ⟨i64.wrap (h+1),c⟩ hr d (f2 z z) (wk ln)
   refine ap'<|r'<|r'<|O'<|aq' c ⟨d,hr⟩ fn (wk ln)
 rintro i ⟨K,hr⟩
 refine g'<|sr<|sx0 z z<|j' (k0' hr z z)
theorem fQ'{p l d e k j f h r}(hr:(Ze1 p l).Ret r):Ctr prog 97 #[.agg ((v31' p d e k j f h)).toArray,.string l] (fun G=>y31' G d e k j f h p) (fun G v=>v=i' r):=by
 refine H' (args:=[_,_]) (N:=21) func97 z z z (fun C q K u=>?_)
 obtain⟨g,A,x⟩:=u
 refine sr<|ag' 2 z z z fun y=>sx0 z z<|n'<|sr<|sx0 z z<|am' (fun (n:Mem)=>match n with|m=>[]) (fun (n:Mem)=>match n with|m=>Mem.le q m/\(Zev).Ret r) (fun (n:Mem)=>match n with|m=>St C q m []) ?_ ?_
 .refine C' ?_
  let s:(Int⊕Unit)->Prop:=fun H=>((fun F=>match F with | .inl rv1=>Cq.ret rv1 | .inr ()=>Zev:(Int⊕Unit)->Cq Int) H).wp (fun a=>a=r)
  replace hr:(Cq.loop _ _).wp s:=hr
  refine an' (Φ:=s) (fun (⟨o,i⟩:Int×Mem)=>(o:Int)) (fun ⟨o,i⟩=>[(1,.string l),(2,pt0 y),(5,i' o)]) (fun ⟨o,i⟩=>Mem.le q i) (fun ⟨o,i⟩=>St C q i [(2,bk0 y (v31' p d e k j f h) 31)]) ⟨0,q⟩ hr (f3 z z z) mr (w1 z) ?_
  .intro J n I hr
   obtain⟨o,i⟩:=n
   have c:=I
   refine n'<|sr<|mv z z<|yy (aF' z) z<|yy (f' 2 bB' z z z) z<|yy (M' F' (g.mono c) z) z<|yy (aj' z z) z<|nx<|L' hr z (fun D hr=>?_) (fun D hr=>?_)
   .refine q'<|g'<|n'<|C'<|sr<|yy (aF' z) z<|yy (f' 2 bB' z z z) z<|mv z z ?_
    obtain⟨L,t,hr⟩:=hr
    refine yy (V' F' sz9 (g.mono c) z z t) z<|yy (aa' sc9 z (cd' (J' (af' g t) c))) z<|mv z z<|yy (Y0.eqlS bl' z z) z<|nx<|L' hr z (fun B hr=>?_) (fun B hr=>?_)
    .refine sr<|mv z z<|sx0 z z<|j'<|m'<|a'<|a'<|m'<|ab'<|a' (k0' hr z z)
    refine q'<|I'<|g'<|A'<|mv z z<|yy (W' z z) z<|sg z z<|v'<|Y' ⟨i64.wrap (o+1),i⟩ hr c (f3 z z z) (w1 z)
   refine ap'<|r'<|r'<|O'<|aq' i ⟨c,hr⟩ fn (wk ln)
 rintro m ⟨E,hr⟩
 refine g'<|sr<|sx0 z z<|j' (k0' hr z z)
theorem ff'{k j c d h g e f r}(hr:(Zew k j).Ret r):Ctr prog 98 #[.agg ((v31' k c d h g e f)).toArray,i' j] (fun G=>y31' G c d h g e f k) (fun G v=>v = .bool r):=by
 refine H' (args:=[_,_]) (N:=14) func98 z z z (fun t s p l=>?_)
 obtain⟨i,n,m⟩:=l
 refine sr<|ag' 2 z z z fun q=>sg z z<|nr<|mv z z<|ac' hr z (bf' z z) z (fun o hr=>?_) (fun o hr=>?_)
 .refine mv z z<|gy z z (e' z) z<|gy z z (aF' z) z<|gy z z (f' 2 bB' z z z) z<|gy z z (M' F' i z) z<|gy z z (aj' z z) z<|yy (h' z z) z<|sx0 z z<|j' (k0' hr z z)
 refine mv z z<|sn5 z<|yy (l' z z) z<|sx0 z z<|j' (k0' hr z z)
theorem hj'{k r}(hr:(Zjy k).Ret r):Ctr prog 185 #[i' k] (fun G=>True) (fun G v=>v = .int .u8 r):=by
 refine H' (args:=[_]) (N:=14) func185 z z z fun l i x o=>sr<|sg z z<|nr<|sx0 z z<|n'<|sr<|sx0 z z<|am' (fun (⟨g,d⟩:Int×Mem)=>[(3,i' g)]) (fun ⟨g,d⟩=>Mem.le i d/\(Zf7 g).Ret r) (fun ⟨g,d⟩=>St l i d []) ?_ ?_
 .refine C' ?_
  let j:Int->Prop:=fun s=>((fun p=>match p with|g=>Zf7 g:Int->Cq Int) s).wp (fun a=>a=r)
  replace hr:(Cq.loop _ _).wp j:=hr
  refine an' (Φ:=j) (fun (⟨e,f,c⟩:Int×Int×Mem)=>((e,f):Int×Int)) (fun ⟨e,f,c⟩=>[(0,i' k),(3,i' e),(4,i' f)]) (fun ⟨e,f,c⟩=>Mem.le i c) (fun ⟨e,f,c⟩=>St l i c []) ⟨1,0,i⟩ hr (f3 z z z) mr (wk ln) ?_
  .intro u q t hr
   obtain⟨e,f,c⟩:=q
   have h:=t
   refine n'<|sr<|mv z z<|mv z z<|yy (aj' z z) z<|nx<|L' hr z (fun m hr=>?_) (fun m hr=>?_)
   .refine q'<|g'<|n'<|C'<|A'<|mv z z<|yy (Y0.mul z z) z<|sg z z<|v'<|I'<|g'<|A'<|mv z z<|yy (W' z z) z<|sg z z<|v'<|Y' ⟨i64.wrap (2*e),i64.wrap (f+1),c⟩ hr h (f3 z z z) (wk ln)
   refine ap'<|r'<|r'<|O'<|aq' ⟨e,c⟩ ⟨h,hr⟩ (f1 z) (wk ln)
 rintro⟨g,d⟩ ⟨n,hr⟩
 refine g'<|sr<|mv z z<|yy (aN' aA' aP' z) z<|sx0 z z<|j' (k0' hr z z)
theorem gE'{l r}(hr:(Zfm l).Ret r):Ctr prog 150 #[.agg (vecG (Value.int .i64) 8 l).toArray] (fun G=>True) (fun G v=>v = .int .u8 r):=by
 refine H' (args:=[_]) (N:=18) func150 z z z fun q i D u=>sr<|ag' 1 z z z fun n=>sg z z<|nr<|sx0 z z<|n'<|sr<|sx0 z z<|am' (fun (⟨h,f⟩:Int×Mem)=>[(3,.int .u8 h)]) (fun ⟨h,f⟩=>Mem.le i f/\(Zdc h).Ret r) (fun ⟨h,f⟩=>St q i f []) ?_ ?_
 .refine C' ?_
  let j:Int->Prop:=fun A=>((fun x=>match x with|h=>Zdc h:Int->Cq Int) A).wp (fun a=>a=r)
  replace hr:(Cq.loop _ _).wp j:=hr
  refine an' (Φ:=j) (fun (⟨d,g,c⟩:Int×Int×Mem)=>((d,g):Int×Int)) (fun ⟨d,g,c⟩=>[(1,pt0 n),(3,.int .u8 d),(4,i' g)]) (fun ⟨d,g,c⟩=>Mem.le i c) (fun ⟨d,g,c⟩=>St q i c [(1,bk0 n (vecG (Value.int .i64) 8 l) 120)]) ⟨0,0,i⟩ hr (f3 z z z) mr (w1 z) ?_
  .intro C y B hr
   obtain⟨d,g,c⟩:=y
   have e:=B
   refine n'<|sr<|mv z z<|yy (aj' z z) z<|nx<|L' hr z (fun s hr=>?_) (fun s hr=>?_)
   .refine q'<|g'<|n'<|C'<|sr<|mv z z ?_
    obtain⟨k,hr⟩:=hr
    refine yy (bj' aO' sz3 z z k) z<|yy (f' 1 sc3 z z (bi' _ _ _ k)) z<|yy (be' z z) z<|nx<|L' hr z (fun p hr=>?_) (fun p hr=>?_)
    .refine A'<|mv z z<|mv z z ?_
     obtain⟨o,m,hr⟩:=hr
     refine E' z z (t' E185 z) (hj' m) z (trivial)<|yy (W' z z) z<|sg z z<|v'<|I'<|g'<|A'<|mv z z<|yy (W' z z) z<|sg z z<|v'<|Y' ⟨u8.wrap (d+o),i64.wrap (g+1),c⟩ hr e (f3 z z z) (w1 z)
    refine q'<|I'<|g'<|A'<|mv z z<|yy (W' z z) z<|sg z z<|v'<|Y' ⟨d,i64.wrap (g+1),c⟩ hr e (f3 z z z) (w1 z)
   refine ap'<|r'<|r'<|O'<|aq' ⟨d,c⟩ ⟨e,hr⟩ (f1 z) (wk ln)
 rintro⟨h,f⟩ ⟨t,hr⟩
 refine g'<|sr<|mv z z<|sx0 z z<|j' (k0' hr z z)
theorem eI'{n k j r}(hr:(Zdf n).Ret r):Ctr prog 96 #[.slice k n.length j] (fun G=>sl K' G k j n) (fun G v=>v = .int .u8 r):=by
 refine H' (args:=[_]) (N:=20) func96 z z z (fun t i E p=>?_)
 have l:=p
 refine sr<|sg z z<|nr<|sx0 z z<|n'<|sr<|sx0 z z<|am' (fun (⟨d,g⟩:Int×Mem)=>[(3,.int .u8 d)]) (fun ⟨d,g⟩=>Mem.le i g/\(Zfq d).Ret r) (fun ⟨d,g⟩=>St t i g []) ?_ ?_
 .refine C' ?_
  let m:Int->Prop:=fun B=>((fun y=>match y with|d=>Zfq d:Int->Cq Int) B).wp (fun a=>a=r)
  replace hr:(Cq.loop _ _).wp m:=hr
  refine an' (Φ:=m) (fun (⟨c,h,f⟩:Int×Int×Mem)=>((c,h):Int×Int)) (fun ⟨c,h,f⟩=>[(0,.slice k n.length j),(3,.int .u8 c),(4,i' h)]) (fun ⟨c,h,f⟩=>Mem.le i f) (fun ⟨c,h,f⟩=>St t i f []) ⟨0,0,i⟩ hr (f3 z z z) mr (wk ln) ?_
  .intro D A C hr
   obtain⟨c,h,f⟩:=A
   have e:=C
   refine n'<|sr<|mv z z<|mv z z<|yy (M' ak' (l.mono e) z) z<|yy (aj' z z) z<|nx<|L' hr z (fun u hr=>?_) (fun u hr=>?_)
   .refine q'<|g'<|n'<|C'<|A'<|mv z z<|mv z z<|mv z z ?_
    obtain⟨F,o,hr⟩:=hr
    refine yy (V' ak' ch' (l.mono e) z z o) z<|yy (bD' z) z<|yy (aC' _ bW' z (ae' _ _ _) (dy' (J' (ax' (ay' (af' l o))) e))) z ?_
    obtain⟨s,q,hr⟩:=hr
    refine E' z z (t' E150 z) (gE' q) z (trivial)<|yy (Y0.or z z) z<|sg z z<|v'<|I'<|g'<|A'<|mv z z<|yy (W' z z) z<|sg z z<|v'<|Y' ⟨u8.wrap (BitVec.ofInt u8.bits c ||| BitVec.ofInt u8.bits s).toNat,i64.wrap (h+1),f⟩ hr e (f3 z z z) (wk ln)
   refine ap'<|r'<|r'<|O'<|aq' ⟨c,f⟩ ⟨e,hr⟩ (f1 z) (wk ln)
 rintro⟨d,g⟩ ⟨x,hr⟩
 refine g'<|sr<|mv z z<|sx0 z z<|j' (k0' hr z z)
theorem gZ'{s i c d h g e f r}(hr:(Zir s i).Ret r):Ctr prog 99 #[.agg ((v31' s c d h g e f)).toArray,i' i] (fun G=>y31' G c d h g e f s) (fun G v=>v = .bool r):=by
 refine H' (args:=[_,_]) (N:=45) func99 z z z (fun E y ah J=>?_)
 obtain⟨P,q,m⟩:=J
 refine sr<|ag' 2 z z z fun B=>sx0 z z<|n'<|sr<|sx0 z z<|am' (fun (j:Mem)=>match j with|p=>[(1,i' i),(2,pt0 B)]) (fun (j:Mem)=>match j with|p=>Mem.le y p/\(Zdx s i).Ret r) (fun (j:Mem)=>match j with|p=>St E y p [(2,bk0 B (v31' s c d h g e f) 31)]) ?_ ?_
 .refine C' ?_
  let C:(Bool⊕Unit)->Prop:=fun M=>((fun K=>match K with | .inl rv2=>Cq.ret rv2 | .inr ()=>Zdx s i:(Bool⊕Unit)->Cq Bool) M).wp (fun a=>a=r)
  replace hr:(Cq.loop _ _).wp C:=hr
  refine an' (Φ:=C) (fun (⟨x,o⟩:Int×Mem)=>(x:Int)) (fun ⟨x,o⟩=>[(1,i' i),(2,pt0 B),(5,i' x)]) (fun ⟨x,o⟩=>Mem.le y o) (fun ⟨x,o⟩=>St E y o [(2,bk0 B (v31' s c d h g e f) 31)]) ⟨0,y⟩ hr (f3 z z z) mr (w1 z) ?_
  .intro ae j L hr
   obtain⟨x,o⟩:=j
   have l:=L
   refine n'<|sr<|mv z z<|yy (aY' z) z<|yy (f' 2 bq' z z z) z<|yy (M' y' (q.mono l) z) z<|yy (aj' z z) z<|nx<|L' hr z (fun Y hr=>?_) (fun Y hr=>?_)
   .refine q'<|g'<|n'<|C'<|sr<|yy (aY' z) z<|yy (f' 2 bq' z z z) z<|mv z z ?_
    obtain⟨x2,F,hr⟩:=hr
    refine yy (V' y' aT' (q.mono l) z z F) z<|yy (bZ' z) z ?_
    obtain⟨p2,ac,V,X⟩:=bG' (J' (ax' (ay' (af' q F))) l)
    refine yy (aa' cG' z (V)) z ?_
    obtain⟨ab,I,hr⟩:=hr
    refine E' z z (t' E96 z) (eI' I) z (X)<|yy (aN' aP' aA' z) z<|mv z z ?_
    obtain⟨Q,hr⟩:=hr
    refine yy (Y0.shr z z Q) z<|yy (bA' z z (by decide)) z<|yy (at' z z) z<|nx<|L' hr z (fun T hr=>?_) (fun T hr=>?_)
    .refine sr<|sx0 z z<|j'<|m'<|a'<|a'<|m'<|ab'<|a' (k0' hr z z)
    refine q'<|I'<|g'<|A'<|mv z z<|yy (W' z z) z<|sg z z<|v'<|Y' ⟨i64.wrap (x+1),o⟩ hr l (f3 z z z) (w1 z)
   refine ap'<|r'<|r'<|O'<|aq' o ⟨l,hr⟩ (f2 z z) (w1 z)
 rintro p ⟨t,hr⟩
 refine g'<|n'<|sr<|sx0 z z<|am' (fun (j:Mem)=>match j with|u=>[]) (fun (j:Mem)=>match j with|u=>Mem.le p u/\(Zfw).Ret r) (fun (j:Mem)=>match j with|u=>St E y u []) ?_ ?_
 .refine C' ?_
  let D:(Bool⊕Unit)->Prop:=fun M=>((fun K=>match K with | .inl rv1=>Cq.ret rv1 | .inr ()=>Zfw:(Bool⊕Unit)->Cq Bool) M).wp (fun a=>a=r)
  replace hr:(Cq.loop _ _).wp D:=hr
  refine an' (Φ:=D) (fun (⟨A,n⟩:Int×Mem)=>(A:Int)) (fun ⟨A,n⟩=>[(1,i' i),(2,pt0 B),(6,i' A)]) (fun ⟨A,n⟩=>Mem.le p n) (fun ⟨A,n⟩=>St E y n [(2,bk0 B (v31' s c d h g e f) 31)]) ⟨0,p⟩ hr (f3 z z z) mr (w1 z) ?_
  .intro af j L hr
   obtain⟨A,n⟩:=j
   have k:=L
   refine n'<|sr<|mv z z<|yy (bb' z) z<|yy (f' 2 bq' z z z) z<|yy (M' y' (m.mono (mx t k)) z) z<|yy (aj' z z) z<|nx<|L' hr z (fun Z hr=>?_) (fun Z hr=>?_)
   .refine q'<|g'<|n'<|C'<|sr<|yy (bb' z) z<|yy (f' 2 bq' z z z) z<|mv z z ?_
    obtain⟨x1,H,hr⟩:=hr
    refine yy (V' y' aT' (m.mono (mx t k)) z z H) z<|yy (bZ' z) z ?_
    obtain⟨p1,ag,R,W⟩:=bG' (J' (ax' (ay' (af' m H))) (mx t k))
    refine yy (aa' cG' z (R)) z ?_
    obtain⟨ad,O,hr⟩:=hr
    refine E' z z (t' E96 z) (eI' O) z (W)<|yy (aN' aP' aA' z) z<|mv z z ?_
    obtain⟨S,hr⟩:=hr
    refine yy (Y0.shr z z S) z<|yy (bA' z z (by decide)) z<|yy (at' z z) z<|nx<|L' hr z (fun U hr=>?_) (fun U hr=>?_)
    .refine sr<|sx0 z z<|j'<|m'<|a'<|a'<|m'<|ab'<|a' (k0' hr z z)
    refine q'<|I'<|g'<|A'<|mv z z<|yy (W' z z) z<|sg z z<|v'<|Y' ⟨i64.wrap (A+1),n⟩ hr k (f3 z z z) (w1 z)
   refine ap'<|r'<|r'<|O'<|aq' n ⟨k,hr⟩ fn (wk ln)
 rintro u ⟨aa,hr⟩
 refine g'<|sr<|sx0 z z<|j' (k0' hr z z)
theorem dI'{n j m l r}(hr:(Zch n j).Ret r):Ctr prog 93 #[.slice m n.length l,i' j] (fun G=>sl b' G m l n) (fun G v=>v=i' r):=by
 refine H' (args:=[_,_]) (N:=20) func93 z z z (fun s i C p=>?_)
 have h:=p
 refine sr<|sx0 z z<|n'<|sr<|sx0 z z<|am' (fun (f:Mem)=>match f with|e=>[]) (fun (f:Mem)=>match f with|e=>Mem.le i e/\(Zfv).Ret r) (fun (f:Mem)=>match f with|e=>St s i e []) ?_ ?_
 .refine C' ?_
  let k:(Int⊕Unit)->Prop:=fun y=>((fun x=>match x with | .inl rv1=>Cq.ret rv1 | .inr ()=>Zfv:(Int⊕Unit)->Cq Int) y).wp (fun a=>a=r)
  replace hr:(Cq.loop _ _).wp k:=hr
  refine an' (Φ:=k) (fun (⟨g,d⟩:Int×Mem)=>(g:Int)) (fun ⟨g,d⟩=>[(0,.slice m n.length l),(1,i' j),(5,i' g)]) (fun ⟨g,d⟩=>Mem.le i d) (fun ⟨g,d⟩=>St s i d []) ⟨0,i⟩ hr (f3 z z z) mr (wk ln) ?_
  .intro B f A hr
   obtain⟨g,d⟩:=f
   have c:=A
   refine n'<|sr<|mv z z<|mv z z<|yy (M' y' (h.mono c) z) z<|yy (aj' z z) z<|nx<|L' hr z (fun t hr=>?_) (fun t hr=>?_)
   .refine q'<|g'<|n'<|C'<|sr<|mv z z<|mv z z ?_
    obtain⟨D,o,hr⟩:=hr
    refine yy (V' y' aT' (h.mono c) z z o) z<|yy (bn' z) z<|yy (aa' sc3 z (aI' (J' (aW' (ay' (af' h o))) c))) z<|mv z z<|yy (at' z z) z<|nx<|L' hr z (fun q hr=>?_) (fun q hr=>?_)
    .refine sr<|mv z z<|sx0 z z<|j'<|m'<|a'<|a'<|m'<|ab'<|a' (k0' hr z z)
    refine q'<|I'<|g'<|A'<|mv z z<|yy (W' z z) z<|sg z z<|v'<|Y' ⟨i64.wrap (g+1),d⟩ hr c (f3 z z z) (wk ln)
   refine ap'<|r'<|r'<|O'<|aq' d ⟨c,hr⟩ fn (wk ln)
 rintro e ⟨u,hr⟩
 refine g'<|sr<|sx0 z z<|j' (k0' hr z z)
theorem gv'{k l c d h g e f r}(hr:(ZhK k l).Ret r):Ctr prog 151 #[.agg ((v31' k c d h g e f)).toArray,i' l] (fun G=>y31' G c d h g e f k) (fun G v=>v = .bool r):=by
 refine H' (args:=[_,_]) (N:=17) func151 z z z (fun A y u n=>?_)
 obtain⟨p,j,i⟩:=n
 refine sr<|ag' 2 z z z fun x=>sg z z<|nr<|yy (aY' z) z<|yy (f' 2 bq' z z z) z<|mv z z ?_
 obtain⟨t,o,hr⟩:=hr
 refine E' z z (t' E93 z) (dI' o) z (j)<|ac' hr z (bf' z z) z (fun q hr=>?_) (fun q hr=>?_)
 .refine mv z z<|sn5 z<|yy (h' z z) z<|sx0 z z<|j' (k0' hr z z)
 refine mv z z<|gy z z (bb' z) z<|gy z z (f' 2 bq' z z z) z<|gy z z (e' z) z ?_
 obtain⟨s,m,hr⟩:=hr
 refine E' (w' z z) z (t' E93 z) (dI' m) z (i)<|gy z z (bf' z z) z<|yy (l' z z) z<|sx0 z z<|j' (k0' hr z z)
theorem fR'{g e d r}(hr:(ZgR g).Ret r):Ctr prog 183 #[.agg ((v128' g e d)).toArray] (fun G=>sl (Rp.int .u32) G e d g.mag) (fun G v=>v = .bool r):=by
 refine H' (args:=[_]) (N:=19) func183 z z z (fun l n j h=>?_)
 have c:=h
 refine sr<|ag' 1 z z z fun k=>sg z z<|nr<|yy (ba' z) z<|yy (f' 1 bN' z z z) z<|yy (M' D' c z) z<|sx0 z z<|n'<|sr<|mv z z<|yy (at' z z) z<|nx<|L' hr z (fun i hr=>?_) (fun i hr=>?_)
 .exact (show False from hr).elim
 refine q'<|g'<|sr<|yy (ba' z) z<|yy (f' 1 bN' z z z) z<|mv z z<|yy (bk' z z) z ?_
 obtain⟨m,f,hr⟩:=hr
 refine yy (V' D' bs' c z z f) z<|yy (aa' bY' z (aI' (af' c f))) z<|yy (aw' z z) z<|sx0 z z<|j' (k0' hr z z)
theorem hk'{n j h f g e r}(hr:(Zmb n j).Ret r):Ctr prog 184 #[.agg ((v128' n h f)).toArray,.agg ((v128' j g e)).toArray] (fun G=>sl (Rp.int .u32) G h f n.mag/\sl (Rp.int .u32) G g e j.mag) (fun G v=>v=i' r):=by
 refine H' (args:=[_,_]) (N:=31) func184 z z z (fun L K I m=>?_)
 obtain⟨c,d⟩:=m
 refine sr<|ag' 2 z z z fun M=>ag' 3 z z z fun J=>sx0 z z<|n'<|sr<|yy (br' z) z<|ac' hr z (cK' (f' 2 sc4 z z z) (congrArg Value.bool (bdec _))) z (fun y hr=>?_) (fun y hr=>?_)
 .refine mv z z<|gy z z (br' z) z<|gy z z (f' 3 sc4 z z z) z<|gy z z (al' z) z<|yy (h' z z) z<|nx<|aL' hr z (fun C hr=>?_) (fun C hr=>?_)
  .exact (show False from hr).elim
  refine q'<|g'<|n'<|sr<|yy (br' z) z<|ac' hr z (cK' (f' 2 sc4 z z z) (congrArg Value.bool (bdec _))) z (fun u hr=>?_) (fun u hr=>?_)
  .refine yy (al' z) z<|mv z z<|sn2 z<|yy (l' z z) z<|nx<|bd' z<|q'<|g'<|n'<|sr<|yy (br' z) z<|yy (f' 2 sc4 z z z) z<|nx<|aL' hr z (fun t hr=>?_) (fun t hr=>?_)
   .exact (show False from hr).elim
   refine q'<|g'<|sr<|yy (ba' z) z<|yy (f' 2 bN' z z z) z<|yy (ba' z) z<|yy (f' 3 bN' z z z) z ?_
   obtain⟨F,o,hr⟩:=hr
   refine E' z z (t' E163 z) (dh' o) z (⟨c,d⟩)<|sx0 z z<|j' (k0' hr z z)
  refine yy (al' z) z<|mv z z<|gy z z (br' z) z<|gy z z (f' 3 sc4 z z z) z<|yy (h' z z) z<|nx<|aL' hr z (fun B hr=>?_) (fun B hr=>?_)
  .exact (show False from hr).elim
  refine q'<|g'<|n'<|sr<|yy (br' z) z<|yy (f' 2 sc4 z z z) z<|nx<|aL' hr z (fun q hr=>?_) (fun q hr=>?_)
  .exact (show False from hr).elim
  refine q'<|g'<|sr<|yy (ba' z) z<|yy (f' 2 bN' z z z) z<|yy (ba' z) z<|yy (f' 3 bN' z z z) z ?_
  obtain⟨D,i,hr⟩:=hr
  refine E' z z (t' E163 z) (dh' i) z (⟨c,d⟩)<|sx0 z z<|j' (k0' hr z z)
 refine mv z z<|sn3 z<|yy (l' z z) z<|nx<|bd' z<|q'<|g'<|n'<|sr<|yy (br' z) z<|ac' hr z (cK' (f' 2 sc4 z z z) (congrArg Value.bool (bdec _))) z (fun A hr=>?_) (fun A hr=>?_)
 .refine yy (al' z) z<|mv z z<|sn2 z<|yy (l' z z) z<|nx<|bd' z<|q'<|g'<|n'<|sr<|yy (br' z) z<|yy (f' 2 sc4 z z z) z<|nx<|aL' hr z (fun p hr=>?_) (fun p hr=>?_)
  .exact (show False from hr).elim
  refine q'<|g'<|sr<|yy (ba' z) z<|yy (f' 2 bN' z z z) z<|yy (ba' z) z<|yy (f' 3 bN' z z z) z ?_
  obtain⟨H,l,hr⟩:=hr
  refine E' z z (t' E163 z) (dh' l) z (⟨c,d⟩)<|sx0 z z<|j' (k0' hr z z)
 refine yy (al' z) z<|mv z z<|gy z z (br' z) z<|gy z z (f' 3 sc4 z z z) z<|yy (h' z z) z<|nx<|aL' hr z (fun x hr=>?_) (fun x hr=>?_)
 .exact (show False from hr).elim
 refine q'<|g'<|n'<|sr<|yy (br' z) z<|yy (f' 2 sc4 z z z) z<|nx<|aL' hr z (fun s hr=>?_) (fun s hr=>?_)
 .exact (show False from hr).elim
 refine q'<|g'<|sr<|yy (ba' z) z<|yy (f' 2 bN' z z z) z<|yy (ba' z) z<|yy (f' 3 bN' z z z) z ?_
 obtain⟨E,k,hr⟩:=hr
 refine E' z z (t' E163 z) (dh' k) z (⟨c,d⟩)<|sx0 z z<|j' (k0' hr z z)
theorem gU'{g f e d c r}(hr:(ZeX g).Ret r):Ctr prog 147 #[.agg ((v130' g f e d c)).toArray] (fun G=>sl (Rp.int .u32) G f e g.num.mag/\sl (Rp.int .u32) G d c g.den.mag) (fun G v=>v = .bool r):=by
 refine H' (args:=[_]) (N:=27) func147 z z z (fun P A X B=>?_)
 obtain⟨i,h⟩:=B
 refine sr<|ag' 1 z z z fun I=>sx0 z z<|aM' (fun (p:Mem)=>match p with|j=>[(1,pt0 I)]) (fun (p:Mem)=>match p with|j=>Mem.le A j/\(ZgT g).Ret r) (fun (p:Mem)=>match p with|j=>St P A j [(1,bk0 I (v130' g f e d c) 130)]) ?_ ?_
 .refine sr<|yy (cF' z) z<|yy (aJ' ((v128' g.num f e)).toArray 1 bt' z z z (aU' ([]) ((v128' g.num f e)) ((v128' g.den d c)))) z ?_
  obtain⟨J,u,hr⟩:=hr
  refine E' z z (t' E183 z) (fR' u) z (i) ?_
  cases J
  .refine yy (al' z) z<|mv z z<|sn4 z<|yy (h' z z) z<|mv z z<|sn4 z<|yy (h' z z) z<|nx<|U' z<|sr<|sx0 z z<|j'<|a' (k0' hr z z)
  refine yy (al' z) z<|mv z z<|gy z z (ck' z) z<|gy z z (aJ' ((v128' g.den d c)).toArray 1 bt' z z z (aU' ((v128' g.num f e)) ((v128' g.den d c)) ([]))) z ?_
  obtain⟨K,t,hr⟩:=hr
  refine E' (w' z z) z (t' E183 z) (fR' t) z (h) ?_
  cases K
  .refine gy z z (al' z) z<|yy (l' z z) z<|mv z z<|sn4 z<|yy (h' z z) z<|nx<|U' z<|sr<|sx0 z z<|j'<|a' (k0' hr z z)
  refine gy z z (al' z) z<|yy (l' z z) z<|mv z z<|gy z z (ck' z) z<|gy z z (aJ' ((v128' g.den d c)).toArray 1 bt' z z z (aU' ((v128' g.num f e)) ((v128' g.den d c)) ([]))) z ?_
  obtain⟨U,x,hr⟩:=hr
  refine E' (w' z z) z (t' E115 z) (fb' x) z (h)<|gy z z (aj' z z) z<|yy (l' z z) z<|nx<|L' hr z (fun L hr=>?_) (fun L hr=>?_)
  .exact (show False from hr).elim
  refine q'<|as' A ⟨mr,hr⟩ (f1 z) (w1 z)
 rintro j ⟨k,hr⟩
 refine sr<|yy (cF' z) z<|yy (aJ' ((v128' g.num f e)).toArray 1 bt' z z z (aU' ([]) ((v128' g.num f e)) ((v128' g.den d c)))) z<|yy (ck' z) z<|yy (aJ' ((v128' g.den d c)).toArray 1 bt' z z z (aU' ((v128' g.num f e)) ((v128' g.den d c)) ([]))) z ?_
 obtain⟨T,C,hr⟩:=hr
 refine P' z z (t' E159 z) (gt' C) z (⟨(i.mono k),(h.mono k)⟩) (fun O R M l=>?_)
 obtain⟨D,E,rfl,n⟩:=l
 obtain⟨S,s,hr⟩:=hr
 refine P' z z (t' E84 z) (ga' s) z (trivial) (fun Q W q o=>?_)
 obtain⟨H,F,rfl,m⟩:=o
 obtain⟨V,y,hr⟩:=hr
 refine E' z z (t' E184 z) (hk' y) z (⟨(n.mono q),m⟩)<|yy (at' z z) z<|sx0 z z<|j' (k0' hr z z)
theorem fS'{u s q r}(hr:(ZeZ u).Ret r):Ctr prog 94 #[.slice s u.length q] (fun G=>sl K' G s q u) (fun G v=>v = .bool r):=by
 refine H' (args:=[_]) (N:=52) func94 z z z (fun Q t ak R=>?_)
 have e:=R
 refine sr<|sx0 z z<|n'<|sr<|sx0 z z<|am' (fun (h:Mem)=>match h with|n=>[]) (fun (h:Mem)=>match h with|n=>Mem.le t n/\(Zer).Ret r) (fun (h:Mem)=>match h with|n=>St Q t n []) ?_ ?_
 .refine C' ?_
  let p:(Bool⊕Unit)->Prop:=fun oo=>((fun ov=>match ov with | .inl rv1=>Cq.ret rv1 | .inr ()=>Zer:(Bool⊕Unit)->Cq Bool) oo).wp (fun a=>a=r)
  replace hr:(Cq.loop _ _).wp p:=hr
  refine an' (Φ:=p) (fun (⟨j,g⟩:Int×Mem)=>(j:Int)) (fun ⟨j,g⟩=>[(0,.slice s u.length q),(3,i' j)]) (fun ⟨j,g⟩=>Mem.le t g) (fun ⟨j,g⟩=>St Q t g []) ⟨0,t⟩ hr (f2 z z) mr (wk ln) ?_
  .intro W h hx hr
   obtain⟨j,g⟩:=h
   have c:=hx
   refine n'<|sr<|mv z z<|mv z z<|yy (M' ak' (e.mono c) z) z<|yy (aj' z z) z<|nx<|L' hr z (fun ac hr=>?_) (fun ac hr=>?_)
   .refine q'<|g'<|n'<|C'<|aM' (fun (h:Mem)=>match h with|i=>[(0,.slice s u.length q),(3,i' j)]) (fun (h:Mem)=>match h with|i=>Mem.le g i/\(ZcH u j).wp (Out W p)) (fun (h:Mem)=>match h with|i=>St Q t i []) ?_ ?_
    .refine sr<|mv z z<|mv z z ?_
     obtain⟨x3,x,hr⟩:=hr
     refine yy (V' ak' ch' (e.mono c) z z x) z<|yy (cQ' z) z ?_
     obtain⟨K,F,I,B,Z,l,m⟩:=el' (J' (aW' (ay' (af' e x))) c)
     refine yy (aC' _ cR' z z Z) z ?_
     obtain⟨U,M,hr⟩:=hr
     refine E' z z (t' E147 z) (gU' M) z (⟨l,m⟩) ?_
     cases U
     .refine yy (al' z) z<|mv z z<|sn7 z<|yy (h' z z) z<|mv z z<|sn7 z<|yy (h' z z) z<|nx<|U' z<|sr<|sx0 z z<|j'<|a'<|m'<|a'<|a'<|m'<|ab'<|a' (k0' hr z z)
     refine yy (al' z) z<|mv z z<|gy z z (e' z) z<|gy z z (e' z) z ?_
     obtain⟨x4,E,hr⟩:=hr
     refine gy z z (V' ak' ch' (e.mono c) z z E) z<|gy z z (cQ' z) z ?_
     obtain⟨C,L,y,D,T,k,o⟩:=el' (J' (aW' (ay' (af' e E))) c)
     refine gy z z (aC' _ cR' z z T) z ?_
     obtain⟨aj,P,hr⟩:=hr
     refine E' (w' z z) z (t' E82 z) (fc' P) z (⟨k,o⟩)<|ac' hr (w' z z) (at' z z) z (fun Y hr=>?_) (fun Y hr=>?_)
     .refine yy (l' z z) z<|mv z z<|sn7 z<|yy (h' z z) z<|nx<|U' z<|sr<|sx0 z z<|j'<|a'<|m'<|a'<|a'<|m'<|ab'<|a' (k0' hr z z)
     refine yy (l' z z) z<|mv z z<|gy z z (e' z) z<|gy z z (e' z) z ?_
     obtain⟨x5,J,hr⟩:=hr
     refine gy z z (V' ak' ch' (e.mono c) z z J) z<|gy z z (bD' z) z<|gy z z (aC' _ bW' z (ae' _ _ _) (dy' (J' (ax' (ay' (af' e J))) c))) z ?_
     obtain⟨ah,O,hr⟩:=hr
     refine E' (w' z z) z (t' E148 z) (fN' O) z (trivial)<|gy z z (al' z) z<|yy (l' z z) z<|nx<|aL' hr z (fun ab hr=>?_) (fun ab hr=>?_)
     .exact (show False from hr).elim
     refine q'<|as' g ⟨mr,hr⟩ (f2 z z) (wk ln)
    rintro i ⟨f,hr⟩
    refine n'<|ah' [ff,ff,ff,ff,ff,ff,ff,ff,ff,ff,ff,ff,ff,ff] mix (by kernel_rfl) fun V=>cn (fun _ d=>e' z)<|by' hr z (fun _ d=>be' z z) (fun aa hr=>?_) (fun aa hr=>?_)
    .refine cn (fun _ d=>e' z)<|cy z z (fun _ d=>e' z)<|cy z z (fun _ d=>e' z)<|cy z z (fun _ d=>bk' z z) ?_
     obtain⟨x1,H,hr⟩:=hr
     refine cy z z (fun _ d=>V' ak' ch' ((e.mono (mx c f)).mono d) z z H)<|cy z z (fun _ d=>bD' z)<|cy z z (fun _ d=>aC' _ bW' z (ae' _ _ _) (dy' (J' (J' (ax' (ay' (af' e H))) (mx c f)) d)))<|cy z z (fun _ d=>e' z)<|cy z z (fun _ d=>e' z) ?_
     obtain⟨x2,A,hr⟩:=hr
     refine cy z z (fun _ d=>V' ak' ch' ((e.mono (mx c f)).mono d) z z A)<|cy z z (fun _ d=>bD' z)<|cy z z (fun _ d=>aC' _ bW' z (ae' _ _ _) (dy' (J' (J' (ax' (ay' (af' e A))) (mx c f)) d)))<|T' V ?_
     obtain⟨ai,S,hr⟩:=hr
     refine E' (w' z z) z (t' E80 z) (fy' S) z (trivial)<|gy z z (bL' z z) z<|yy (h' z z) z<|v'<|ar'<|g'<|L' hr z (fun X hr=>?_) (fun X hr=>?_)
     .exact (show False from hr).elim
     refine q'<|I'<|g'<|A'<|mv z z<|yy (W' z z) z<|sg z z<|v'<|Y' ⟨i64.wrap (j+1),i⟩ hr (mx c f) (f2 z z) (wk ln)
    refine cn (fun _ d=>e' z)<|ct z z<|ct z z<|ct z z<|ct z z<|ct z z<|ct z z<|ct z z<|ct z z<|ct z z<|ct z z<|ct z z<|T' V<|sn2 z<|yy (l' z z) z<|v'<|ar'<|g'<|bd' z<|q'<|I'<|g'<|A'<|mv z z<|yy (W' z z) z<|sg z z<|v'<|Y' ⟨i64.wrap (j+1),i⟩ hr (mx c f) (f2 z z) (wk ln)
   refine ap'<|r'<|r'<|O'<|aq' g ⟨c,hr⟩ fn (wk ln)
 rintro n ⟨ad,hr⟩
 refine g'<|sr<|sx0 z z<|j' (k0' hr z z)
theorem gL'{k r}(hr:(Zf9 k).Ret r):Ctr prog 149 #[.agg (vecG (Value.int .i64) 8 k).toArray] (fun G=>True) (fun G v=>v=i' r):=by
 refine H' (args:=[_]) (N:=15) func149 z z z fun n i A q=>sr<|ag' 1 z z z fun m=>sg z z<|nr<|sx0 z z<|n'<|sr<|sx0 z z<|am' (fun (⟨g,e⟩:Int×Mem)=>[(3,i' g)]) (fun ⟨g,e⟩=>Mem.le i e/\(ZdU g).Ret r) (fun ⟨g,e⟩=>St n i e []) ?_ ?_
 .refine C' ?_
  let j:Int->Prop:=fun u=>((fun s=>match s with|g=>ZdU g:Int->Cq Int) u).wp (fun a=>a=r)
  replace hr:(Cq.loop _ _).wp j:=hr
  refine an' (Φ:=j) (fun (⟨d,f,c⟩:Int×Int×Mem)=>((d,f):Int×Int)) (fun ⟨d,f,c⟩=>[(1,pt0 m),(3,i' d),(4,i' f)]) (fun ⟨d,f,c⟩=>Mem.le i c) (fun ⟨d,f,c⟩=>St n i c [(1,bk0 m (vecG (Value.int .i64) 8 k) 120)]) ⟨0,0,i⟩ hr (f3 z z z) mr (w1 z) ?_
  .intro y t x hr
   obtain⟨d,f,c⟩:=t
   have h:=x
   refine n'<|sr<|mv z z<|yy (aj' z z) z<|nx<|L' hr z (fun o hr=>?_) (fun o hr=>?_)
   .refine q'<|g'<|n'<|C'<|A'<|mv z z<|mv z z ?_
    obtain⟨l,hr⟩:=hr
    refine yy (bj' aO' sz3 z z l) z<|yy (f' 1 sc3 z z (bi' _ _ _ l)) z<|yy (W' z z) z<|sg z z<|v'<|I'<|g'<|A'<|mv z z<|yy (W' z z) z<|sg z z<|v'<|Y' ⟨i64.wrap (d+(getF k f)),i64.wrap (f+1),c⟩ hr h (f3 z z z) (w1 z)
   refine ap'<|r'<|r'<|O'<|aq' ⟨d,c⟩ ⟨h,hr⟩ (f1 z) (wk ln)
 rintro⟨g,e⟩ ⟨p,hr⟩
 refine g'<|sr<|mv z z<|sx0 z z<|j' (k0' hr z z)
theorem fA'{n k j r}(hr:(Zd5 n).Ret r):Ctr prog 95 #[.slice k n.length j] (fun G=>sl K' G k j n) (fun G v=>v=i' r):=by
 refine H' (args:=[_]) (N:=20) func95 z z z (fun t i E q=>?_)
 have l:=q
 refine sr<|sg z z<|nr<|sx0 z z<|n'<|sr<|sx0 z z<|am' (fun (⟨g,f⟩:Int×Mem)=>[(3,i' g)]) (fun ⟨g,f⟩=>Mem.le i f/\(ZdV g).Ret r) (fun ⟨g,f⟩=>St t i f []) ?_ ?_
 .refine C' ?_
  let m:Int->Prop:=fun B=>((fun y=>match y with|g=>ZdV g:Int->Cq Int) B).wp (fun a=>a=r)
  replace hr:(Cq.loop _ _).wp m:=hr
  refine an' (Φ:=m) (fun (⟨e,h,d⟩:Int×Int×Mem)=>((e,h):Int×Int)) (fun ⟨e,h,d⟩=>[(0,.slice k n.length j),(3,i' e),(4,i' h)]) (fun ⟨e,h,d⟩=>Mem.le i d) (fun ⟨e,h,d⟩=>St t i d []) ⟨(-1),0,i⟩ hr (f3 z z z) mr (wk ln) ?_
  .intro D A C hr
   obtain⟨e,h,d⟩:=A
   have c:=C
   refine n'<|sr<|mv z z<|mv z z<|yy (M' ak' (l.mono c) z) z<|yy (aj' z z) z<|nx<|L' hr z (fun u hr=>?_) (fun u hr=>?_)
   .refine q'<|g'<|n'<|C'<|A'<|mv z z<|mv z z<|mv z z ?_
    obtain⟨F,p,hr⟩:=hr
    refine yy (V' ak' ch' (l.mono c) z z p) z<|yy (bD' z) z<|yy (aC' _ bW' z (ae' _ _ _) (dy' (J' (ax' (ay' (af' l p))) c))) z ?_
    obtain⟨o,s,hr⟩:=hr
    refine E' z z (t' E149 z) (gL' s) z (trivial)<|yy (eo' z z) z<|sg z z<|v'<|I'<|g'<|A'<|mv z z<|yy (W' z z) z<|sg z z<|v'<|Y' ⟨if e<o then o else e,i64.wrap (h+1),d⟩ hr c (f3 z z z) (wk ln)
   refine ap'<|r'<|r'<|O'<|aq' ⟨e,d⟩ ⟨c,hr⟩ (f1 z) (wk ln)
 rintro⟨g,f⟩ ⟨x,hr⟩
 refine g'<|sr<|mv z z<|sx0 z z<|j' (k0' hr z z)
theorem gi'{h m e d r}(hr:(Zge h m).Ret r):Ctr prog 152 #[.slice e h.length d,i' m] (fun G=>sl K' G e d h) (fun G v=>v = .bool r):=by
 refine H' (args:=[_,_]) (N:=20) func152 z z z (fun t s q i=>?_)
 have c:=i
 refine sr<|sg z z<|nr<|mv z z ?_
 obtain⟨k,j,hr⟩:=hr
 refine E' z z (t' E94 z) (fS' j) z (c) ?_
 cases k
 .refine mv z z<|sn6 z<|yy (l' z z) z<|mv z z<|sn3 z<|yy (l' z z) z<|sx0 z z<|j' (k0' hr z z)
 refine mv z z<|gy z z (e' z) z ?_
 obtain⟨o,f,hr⟩:=hr
 refine E' (w' z z) z (t' E96 z) (eI' f) z (c)<|gy z z (aN' aP' aA' z) z<|gy z z (e' z) z ?_
 obtain⟨l,hr⟩:=hr
 refine gy z z (Y0.shr z z l) z<|ac' hr (w' z z) (at' z z) z (fun n hr=>?_) (fun n hr=>?_)
 .refine yy (h' z z) z<|mv z z<|gy z z (e' z) z ?_
  obtain⟨p,g,hr⟩:=hr
  refine E' (w' z z) z (t' E95 z) (fA' g) z (c)<|gy z z (bL' z z) z<|yy (h' z z) z<|sx0 z z<|j' (k0' hr z z)
 refine yy (h' z z) z<|mv z z<|sn3 z<|yy (l' z z) z<|sx0 z z<|j' (k0' hr z z)
theorem gp'{q n d e j i f g m l r}(hr:(ZcL q n).Ret r):Ctr prog 100 #[.agg ((v31' q d e j i f g)).toArray,.agg ((v48' n m l)).toArray] (fun G=>sl Rp.str G d e q.vars/\sl b' G j i q.eqs/\sl b' G f g q.neqs/\sl K' G m l n.p) (fun G v=>v=i' r):=by
 refine H' (args:=[_,_]) (N:=60) func100 z z z (fun R x ad F=>?_)
 obtain⟨p,s,k,B⟩:=F
 refine sr<|ag' 2 z z z fun y=>ag' 3 z z z fun A=>sx0 z z<|aM' (fun (o:Mem)=>match o with|c=>[(2,pt0 y),(3,pt0 A)]) (fun (o:Mem)=>match o with|c=>Mem.le x c/\(ZaT q n).Ret r) (fun (o:Mem)=>match o with|c=>St R x c [(2,bk0 y (v31' q d e j i f g) 31),(3,bk0 A (v48' n m l) 48)]) ?_ ?_
 .refine sr<|yy (aS' z) z<|yy (f' 3 sc3 z z z) z<|ac' hr z (aj' z z) z (fun E hr=>?_) (fun E hr=>?_)
  .refine mv z z<|sn3 z<|yy (h' z z) z<|mv z z<|sn4 z<|N' (u' z z) z<|N' (u' z z) z<|N' (u' z z) z<|N' (u' z z) z<|sf z z z<|yy (h' z z) z<|nx<|U' z<|sr<|sx0 z z<|j'<|a' (k0' hr z z)
  refine mv z z<|gy z z (aS' z) z<|gy z z (f' 3 sc3 z z z) z<|ac' hr (w' z z) (be' z z) z (fun D hr=>?_) (fun D hr=>?_)
  .refine yy (l' z z) z<|mv z z<|sn4 z<|N' (u' z z) z<|N' (u' z z) z<|N' (u' z z) z<|N' (u' z z) z<|sf z z z<|yy (h' z z) z<|nx<|U' z<|sr<|sx0 z z<|j'<|a' (k0' hr z z)
  refine yy (l' z z) z<|mv z z<|gy z z (aS' z) z<|gy z z (f' 3 sc3 z z z) z<|ac' hr (w' z z) (be' z z) z (fun H hr=>?_) (fun H hr=>?_)
  .refine gy z z (e' z) z<|gy z z (o' 2 au' z z z) z<|gy z z (aS' z) z<|gy z z (f' 3 sc3 z z z) z ?_
   obtain⟨ab,C,hr⟩:=hr
   refine E' (w' z z) z (t' E151 z) (gv' C) z (⟨p,s,k⟩)<|gy z z (h' z z) z<|yy (l' z z) z<|nx<|aL' hr z (fun W hr=>?_) (fun W hr=>?_)
   .refine sr<|sx0 z z<|j'<|a' (k0' hr z z)
   refine q'<|as' x ⟨mr,hr⟩ (f2 z z) (w2 z z)
  refine gy z z (e' z) z<|sn4 z<|gy z z (l' z z) z<|yy (l' z z) z<|nx<|bd' z<|q'<|as' x ⟨mr,hr⟩ (f2 z z) (w2 z z)
 rintro c ⟨h,hr⟩
 refine aM' (fun (o:Mem)=>match o with|t=>[(2,pt0 y),(3,pt0 A)]) (fun (o:Mem)=>match o with|t=>Mem.le c t/\(ZI q n).Ret r) (fun (o:Mem)=>match o with|t=>St R x t [(2,bk0 y (v31' q d e j i f g) 31),(3,bk0 A (v48' n m l) 48)]) ?_ ?_
 .refine sr<|yy (dE' z) z<|ac' hr z (cK' (f' 3 sc4 z z z) (congrArg Value.bool (bdec _))) z (fun X hr=>?_) (fun X hr=>?_)
  .refine yy (al' z) z<|mv z z<|sn4 z<|yy (l' z z) z<|mv z z<|gy z z (dE' z) z<|ac' hr (w' z z) (cK' (f' 3 sc4 z z z) (congrArg Value.bool (bdec _))) z (fun S hr=>?_) (fun S hr=>?_)
   .refine gy z z (e' z) z<|gy z z (bb' z) z<|gy z z (f' 2 bq' z z z) z<|gy z z (M' y' (k.mono h) z) z<|ac' hr (w' z z) (bf' z z) z (fun Y hr=>?_) (fun Y hr=>?_)
    .refine gy z z (h' z z) z<|yy (l' z z) z<|mv z z<|sn4 z<|N' (u' z z) z<|N' (u' z z) z<|N' (u' z z) z<|sf z z z<|yy (h' z z) z<|nx<|U' z<|sr<|sx0 z z<|j'<|a' (k0' hr z z)
    refine gy z z (h' z z) z<|yy (l' z z) z<|mv z z<|gy z z (aS' z) z<|gy z z (f' 3 sc3 z z z) z<|ac' hr (w' z z) (at' z z) z (fun V hr=>?_) (fun V hr=>?_)
    .refine gy z z (e' z) z<|gy z z (bw' z) z<|gy z z (f' 2 sc3 z z z) z<|gy z z (bf' z z) z<|gy z z (h' z z) z<|yy (l' z z) z<|nx<|L' hr z (fun Q hr=>?_) (fun Q hr=>?_)
     .refine sr<|sx0 z z<|j'<|a' (k0' hr z z)
     refine q'<|as' c ⟨mr,hr⟩ (f2 z z) (w2 z z)
    refine gy z z (e' z) z<|sn3 z<|gy z z (l' z z) z<|yy (l' z z) z<|nx<|bd' z<|q'<|as' c ⟨mr,hr⟩ (f2 z z) (w2 z z)
   refine gy z z (e' z) z<|sn4 z<|gy z z (l' z z) z<|yy (l' z z) z<|mv z z<|gy z z (aS' z) z<|gy z z (f' 3 sc3 z z z) z<|ac' hr (w' z z) (at' z z) z (fun O hr=>?_) (fun O hr=>?_)
   .refine gy z z (e' z) z<|gy z z (bw' z) z<|gy z z (f' 2 sc3 z z z) z<|gy z z (bf' z z) z<|gy z z (h' z z) z<|yy (l' z z) z<|nx<|L' hr z (fun Z hr=>?_) (fun Z hr=>?_)
    .refine sr<|sx0 z z<|j'<|a' (k0' hr z z)
    refine q'<|as' c ⟨mr,hr⟩ (f2 z z) (w2 z z)
   refine gy z z (e' z) z<|sn3 z<|gy z z (l' z z) z<|yy (l' z z) z<|nx<|bd' z<|q'<|as' c ⟨mr,hr⟩ (f2 z z) (w2 z z)
  refine yy (al' z) z<|mv z z<|gy z z (aY' z) z<|gy z z (f' 2 bq' z z z) z<|gy z z (M' y' (s.mono h) z) z<|ac' hr (w' z z) (bf' z z) z (fun L hr=>?_) (fun L hr=>?_)
  .refine yy (h' z z) z<|mv z z<|sn3 z<|N' (u' z z) z<|N' (u' z z) z<|N' (u' z z) z<|N' (u' z z) z<|sf z z z<|yy (h' z z) z<|mv z z<|sn4 z<|N' (u' z z) z<|N' (u' z z) z<|N' (u' z z) z<|sf z z z<|yy (h' z z) z<|nx<|U' z<|sr<|sx0 z z<|j'<|a' (k0' hr z z)
  refine yy (h' z z) z<|mv z z<|gy z z (dE' z) z<|ac' hr (w' z z) (cK' (f' 3 sc4 z z z) (congrArg Value.bool (bdec _))) z (fun T hr=>?_) (fun T hr=>?_)
  .refine gy z z (e' z) z<|gy z z (bb' z) z<|gy z z (f' 2 bq' z z z) z<|gy z z (M' y' (k.mono h) z) z<|ac' hr (w' z z) (bf' z z) z (fun U hr=>?_) (fun U hr=>?_)
   .refine gy z z (h' z z) z<|yy (l' z z) z<|mv z z<|sn4 z<|N' (u' z z) z<|N' (u' z z) z<|N' (u' z z) z<|sf z z z<|yy (h' z z) z<|nx<|U' z<|sr<|sx0 z z<|j'<|a' (k0' hr z z)
   refine gy z z (h' z z) z<|yy (l' z z) z<|mv z z<|gy z z (aS' z) z<|gy z z (f' 3 sc3 z z z) z<|ac' hr (w' z z) (at' z z) z (fun M hr=>?_) (fun M hr=>?_)
   .refine gy z z (e' z) z<|gy z z (bw' z) z<|gy z z (f' 2 sc3 z z z) z<|gy z z (bf' z z) z<|gy z z (h' z z) z<|yy (l' z z) z<|nx<|L' hr z (fun P hr=>?_) (fun P hr=>?_)
    .refine sr<|sx0 z z<|j'<|a' (k0' hr z z)
    refine q'<|as' c ⟨mr,hr⟩ (f2 z z) (w2 z z)
   refine gy z z (e' z) z<|sn3 z<|gy z z (l' z z) z<|yy (l' z z) z<|nx<|bd' z<|q'<|as' c ⟨mr,hr⟩ (f2 z z) (w2 z z)
  refine gy z z (e' z) z<|sn4 z<|gy z z (l' z z) z<|yy (l' z z) z<|mv z z<|gy z z (aS' z) z<|gy z z (f' 3 sc3 z z z) z<|ac' hr (w' z z) (at' z z) z (fun J hr=>?_) (fun J hr=>?_)
  .refine gy z z (e' z) z<|gy z z (bw' z) z<|gy z z (f' 2 sc3 z z z) z<|gy z z (bf' z z) z<|gy z z (h' z z) z<|yy (l' z z) z<|nx<|L' hr z (fun K hr=>?_) (fun K hr=>?_)
   .refine sr<|sx0 z z<|j'<|a' (k0' hr z z)
   refine q'<|as' c ⟨mr,hr⟩ (f2 z z) (w2 z z)
  refine gy z z (e' z) z<|sn3 z<|gy z z (l' z z) z<|yy (l' z z) z<|nx<|bd' z<|q'<|as' c ⟨mr,hr⟩ (f2 z z) (w2 z z)
 rintro t ⟨u,hr⟩
 refine n'<|sr<|yy (dp' z) z<|yy (f' 3 cG' z z z) z<|yy (aF' z) z<|yy (f' 2 bB' z z z) z<|yy (M' F' (p.mono (mx h u)) z) z ?_
 obtain⟨ac,I,hr⟩:=hr
 refine E' z z (t' E152 z) (gi' I) z ((B.mono (mx h u)))<|yy (al' z) z<|nx<|aL' hr z (fun aa hr=>?_) (fun aa hr=>?_)
 .refine sr<|sx0 z z<|j'<|a' (k0' hr z z)
 refine q'<|g'<|sr<|sx0 z z<|j' (k0' hr z z)
theorem eC'{q o d e j i f g n m r}(hr:(ZbA q o).Ret r):Ctr prog 101 #[.agg ((v31' q d e j i f g)).toArray,.agg ((v48' o n m)).toArray] (fun G=>sl Rp.str G d e q.vars/\sl b' G j i q.eqs/\sl b' G f g q.neqs/\sl K' G n m o.p) (fun G v=>v=i' r):=by
 refine H' (args:=[_,_]) (N:=51) func101 z z z (fun Q t U A=>?_)
 obtain⟨l,c,k,u⟩:=A
 refine sr<|ag' 2 z z z fun C=>ag' 3 z z z fun I=>sx0 z z<|n'<|sr<|yy (o' 2 au' z z z) z<|yy (aS' z) z<|yy (f' 3 sc3 z z z) z ?_
 obtain⟨S,B,hr⟩:=hr
 refine E' z z (t' E151 z) (gv' B) z (⟨l,c,k⟩)<|yy (al' z) z<|nx<|aL' hr z (fun P hr=>?_) (fun P hr=>?_)
 .refine sr<|sx0 z z<|j'<|a' (k0' hr z z)
 refine q'<|g'<|aM' (fun (s:Mem)=>match s with|p=>[(2,pt0 C),(3,pt0 I)]) (fun (s:Mem)=>match s with|p=>Mem.le t p/\(ZbR q o).Ret r) (fun (s:Mem)=>match s with|p=>St Q t p [(2,bk0 C (v31' q d e j i f g) 31),(3,bk0 I (v48' o n m) 48)]) ?_ ?_
 .refine sr<|yy (cB' z) z<|yy (f' 3 sc3 z z z) z<|ac' hr z (at' z z) z (fun D hr=>?_) (fun D hr=>?_)
  .refine mv z z<|gy z z (dp' z) z<|gy z z (f' 3 cG' z z z) z<|gy z z (aF' z) z<|gy z z (f' 2 bB' z z z) z<|gy z z (M' F' l z) z ?_
   obtain⟨T,y,hr⟩:=hr
   refine E' (w' z z) z (t' E152 z) (gi' y) z (u)<|gy z z (al' z) z<|yy (h' z z) z<|nx<|aL' hr z (fun F hr=>?_) (fun F hr=>?_)
   .refine sr<|sx0 z z<|j'<|a' (k0' hr z z)
   refine q'<|as' t ⟨mr,hr⟩ (f2 z z) (w2 z z)
  refine mv z z<|sn7 z<|yy (l' z z) z<|nx<|bd' z<|q'<|as' t ⟨mr,hr⟩ (f2 z z) (w2 z z)
 rintro p ⟨h,hr⟩
 refine sr<|yy (aY' z) z<|yy (f' 2 bq' z z z) z<|yy (aS' z) z<|yy (f' 3 sc3 z z z) z ?_
 obtain⟨R,x,hr⟩:=hr
 refine E' z z (t' E93 z) (dI' x) z ((c.mono h))<|yy (bf' z z) z<|sx0 z z<|n'<|sr<|yy (cB' z) z<|yy (f' 3 sc3 z z z) z<|ac' hr z (at' z z) z (fun L hr=>?_) (fun L hr=>?_)
 .refine mv z z<|ac' hr (w' z z) (e' z) z (fun J hr=>?_) (fun J hr=>?_)
  .refine gy z z (e' z) z<|gy z z (bb' z) z<|gy z z (f' 2 bq' z z z) z<|gy z z (M' y' (k.mono h) z) z<|ac' hr (w' z z) (bf' z z) z (fun M hr=>?_) (fun M hr=>?_)
   .refine gy z z (h' z z) z<|gy z z (e' z) z<|sn3 z<|N' (u' z z) z<|N' (u' z z) z<|N' (u' z z) z<|N' (u' z z) z<|sf z z z<|gy z z (h' z z) z<|yy (h' z z) z<|nx<|U' z<|sr<|sx0 z z<|j'<|a' (k0' hr z z)
   refine gy z z (h' z z) z<|gy z z (e' z) z<|ac' hr (w' z z) (e' z) z (fun K hr=>?_) (fun K hr=>?_)
   .refine gy z z (al' z) z<|gy z z (e' z) z<|sn4 z<|gy z z (l' z z) z<|gy z z (l' z z) z<|yy (h' z z) z<|nx<|bd' z<|q'<|g'<|sr<|sx0 z z<|j' (k0' hr z z)
   refine gy z z (al' z) z<|gy z z (e' z) z<|gy z z (aY' z) z<|gy z z (f' 2 bq' z z z) z<|gy z z (M' y' (c.mono h) z) z<|gy z z (bf' z z) z<|gy z z (h' z z) z<|gy z z (l' z z) z<|yy (h' z z) z<|nx<|L' hr z (fun H hr=>?_) (fun H hr=>?_)
   .refine sr<|sx0 z z<|j'<|a' (k0' hr z z)
   refine q'<|g'<|sr<|sx0 z z<|j' (k0' hr z z)
  refine gy z z (e' z) z<|sn4 z<|gy z z (l' z z) z<|gy z z (e' z) z<|ac' hr (w' z z) (e' z) z (fun E hr=>?_) (fun E hr=>?_)
  .refine gy z z (al' z) z<|gy z z (e' z) z<|sn4 z<|gy z z (l' z z) z<|gy z z (l' z z) z<|yy (h' z z) z<|nx<|bd' z<|q'<|g'<|sr<|sx0 z z<|j' (k0' hr z z)
  refine gy z z (al' z) z<|gy z z (e' z) z<|gy z z (aY' z) z<|gy z z (f' 2 bq' z z z) z<|gy z z (M' y' (c.mono h) z) z<|gy z z (bf' z z) z<|gy z z (h' z z) z<|gy z z (l' z z) z<|yy (h' z z) z<|nx<|L' hr z (fun O hr=>?_) (fun O hr=>?_)
  .refine sr<|sx0 z z<|j'<|a' (k0' hr z z)
  refine q'<|g'<|sr<|sx0 z z<|j' (k0' hr z z)
 refine mv z z<|sn2 z<|N' (u' z z) z<|N' (u' z z) z<|N' (u' z z) z<|N' (u' z z) z<|sn2 z<|N' (u' z z) z<|N' (u' z z) z<|N' (u' z z) z<|N' (u' z z) z<|N' (u' z z) z<|N' (u' z z) z<|N' (u' z z) z<|N' (u' z z) z<|sk z z z<|yy (l' z z) z<|nx<|bd' z<|q'<|g'<|sr<|sx0 z z<|j' (k0' hr z z)
theorem fT'{m p h g l k j i o n r}(hr:(Ze0 m p).Ret r):Ctr prog 71 #[.agg ((v31' m h g l k j i)).toArray,.agg ((v48' p o n)).toArray] (fun G=>sl Rp.str G h g m.vars/\sl b' G l k m.eqs/\sl b' G j i m.neqs/\sl K' G o n p.p) (fun G v=>v=i' r):=by
 refine H' (args:=[_,_]) (N:=98) func71 z z z (fun w0 G0 aq O=>?_)
 obtain⟨c,e,d,f⟩:=O
 refine sr<|ag' 2 z z z fun b1=>ag' 3 z z z fun b2=>sg z z<|nr<|yy (aF' z) z<|yy (f' 2 bB' z z z) z<|yy (M' F' c z) z<|sx0 z z<|n'<|sr<|yy (cB' z) z<|yy (f' 3 sc3 z z z) z<|nx<|C'<|sr<|yy (at' z z) z<|sx0 z z<|L' hr z (fun Y hr=>?_) (fun Y hr=>?_)
 .refine n'<|sr<|mv z z<|yy (bf' z z) z<|nx<|L' hr z (fun ac hr=>?_) (fun ac hr=>?_)
  .refine sr<|sx0 z z<|j'<|a'<|m'<|a' (k0' hr z z)
  refine q'<|g'<|n'<|sr<|yy (aK' z) z<|yy (f' 3 sc3 z z z) z<|ac' hr z (aj' z z) z (fun af hr=>?_) (fun af hr=>?_)
  .refine mv z z<|sn4 z<|yy (h' z z) z<|nx<|U' z<|sr<|sx0 z z<|j'<|a'<|m'<|a' (k0' hr z z)
  refine mv z z<|gy z z (aK' z) z<|gy z z (f' 3 sc3 z z z) z<|gy z z (e' z) z<|gy z z (be' z z) z<|yy (l' z z) z<|nx<|L' hr z (fun T hr=>?_) (fun T hr=>?_)
  .refine sr<|sx0 z z<|j'<|a'<|m'<|a' (k0' hr z z)
  refine q'<|g'<|n'<|sr<|yy (cc' z) z<|yy (f' 3 sc9 z z z) z ?_
  obtain⟨X,S,hr⟩:=hr
  refine E' z z (t' E54 z) (fe' S) z (trivial) ?_
  cases X
  .refine yy (al' z) z<|mv z z<|sn5 z<|yy (h' z z) z<|nx<|U' z<|sr<|sx0 z z<|j'<|a'<|m'<|a' (k0' hr z z)
  refine yy (al' z) z<|mv z z<|gy z z (o' 2 au' z z z) z<|gy z z (cc' z) z<|gy z z (f' 3 sc9 z z z) z ?_
  obtain⟨al,x,hr⟩:=hr
  refine E' (w' z z) z (t' E97 z) (fQ' x) z (⟨c,e,d⟩)<|gy z z (bf' z z) z<|yy (l' z z) z<|nx<|L' hr z (fun Z hr=>?_) (fun Z hr=>?_)
  .refine sr<|sx0 z z<|j'<|a'<|m'<|a' (k0' hr z z)
  refine q'<|g'<|sr<|sx0 z z<|j'<|m'<|a' (k0' hr z z)
 refine sr<|yy (at' z z) z<|sx0 z z<|L' hr z (fun V hr=>?_) (fun V hr=>?_)
 .refine n'<|sr<|yy (o' 2 au' z z z) z<|yy (aK' z) z<|yy (f' 3 sc3 z z z) z ?_
  obtain⟨ap,D,hr⟩:=hr
  refine E' z z (t' E98 z) (ff' D) z (⟨c,e,d⟩)<|yy (al' z) z<|nx<|aL' hr z (fun ag hr=>?_) (fun ag hr=>?_)
  .refine sr<|sx0 z z<|j'<|a'<|m'<|a' (k0' hr z z)
  refine q'<|g'<|n'<|sr<|yy (o' 2 au' z z z) z<|yy (aK' z) z<|yy (f' 3 sc3 z z z) z ?_
  obtain⟨am,A,hr⟩:=hr
  refine E' z z (t' E99 z) (gZ' A) z (⟨c,e,d⟩)<|nx<|aL' hr z (fun ab hr=>?_) (fun ab hr=>?_)
  .refine sr<|sx0 z z<|j'<|a'<|m'<|a' (k0' hr z z)
  refine q'<|g'<|sr<|sx0 z z<|j'<|m'<|a' (k0' hr z z)
 refine sr<|yy (at' z z) z<|sx0 z z<|L' hr z (fun ad hr=>?_) (fun ad hr=>?_)
 .refine n'<|sr<|yy (o' 2 au' z z z) z<|yy (aK' z) z<|yy (f' 3 sc3 z z z) z ?_
  obtain⟨an,y,hr⟩:=hr
  refine E' z z (t' E98 z) (ff' y) z (⟨c,e,d⟩)<|yy (al' z) z<|nx<|aL' hr z (fun aa hr=>?_) (fun aa hr=>?_)
  .refine sr<|sx0 z z<|j'<|a'<|m'<|a' (k0' hr z z)
  refine q'<|g'<|sr<|yy (o' 2 au' z z z) z<|yy (cc' z) z<|yy (f' 3 sc9 z z z) z ?_
  obtain⟨ao,B,hr⟩:=hr
  refine E' z z (t' E97 z) (fQ' B) z (⟨c,e,d⟩)<|sx0 z z<|n'<|sr<|yy (cc' z) z<|yy (f' 3 sc9 z z z) z ?_
  obtain⟨W,J,hr⟩:=hr
  refine E' z z (t' E54 z) (fe' J) z (trivial) ?_
  cases W
  .refine yy (al' z) z<|mv z z<|sn3 z<|N' (u' z z) z<|N' (u' z z) z<|N' (u' z z) z<|N' (u' z z) z<|sf z z z<|yy (h' z z) z<|nx<|U' z<|sr<|sx0 z z<|j'<|a'<|m'<|a' (k0' hr z z)
  refine yy (al' z) z<|mv z z<|gy z z (e' z) z<|ac' hr (w' z z) (bf' z z) z (fun ae hr=>?_) (fun ae hr=>?_)
  .refine gy z z (e' z) z<|gy z z (e' z) z<|gy z z (aK' z) z<|gy z z (f' 3 sc3 z z z) z<|gy z z (aw' z z) z<|gy z z (h' z z) z<|yy (l' z z) z<|nx<|L' hr z (fun M hr=>?_) (fun M hr=>?_)
   .refine sr<|sx0 z z<|j'<|a'<|m'<|a' (k0' hr z z)
   refine q'<|g'<|sr<|sx0 z z<|j'<|m'<|a' (k0' hr z z)
  refine gy z z (e' z) z<|sn4 z<|gy z z (l' z z) z<|yy (l' z z) z<|nx<|bd' z<|q'<|g'<|sr<|sx0 z z<|j'<|m'<|a' (k0' hr z z)
 refine sr<|yy (at' z z) z<|sx0 z z<|L' hr z (fun K hr=>?_) (fun K hr=>?_)
 .refine n'<|sr<|yy (o' 2 au' z z z) z<|yy (aK' z) z<|yy (f' 3 sc3 z z z) z ?_
  obtain⟨U,Q,hr⟩:=hr
  refine E' z z (t' E98 z) (ff' Q) z (⟨c,e,d⟩) ?_
  cases U
  .refine yy (al' z) z<|mv z z<|sn5 z<|yy (h' z z) z<|nx<|U' z<|sr<|sx0 z z<|j'<|a'<|m'<|a' (k0' hr z z)
  refine yy (al' z) z<|mv z z<|gy z z (o' 2 au' z z z) z<|gy z z (cz' z) z<|gy z z (f' 3 sc3 z z z) z ?_
  obtain⟨ar,R,hr⟩:=hr
  refine E' (w' z z) z (t' E98 z) (ff' R) z (⟨c,e,d⟩)<|gy z z (al' z) z<|yy (l' z z) z<|nx<|aL' hr z (fun P hr=>?_) (fun P hr=>?_)
  .refine sr<|sx0 z z<|j'<|a'<|m'<|a' (k0' hr z z)
  refine q'<|g'<|sr<|sx0 z z<|j'<|m'<|a' (k0' hr z z)
 refine sr<|yy (at' z z) z<|sx0 z z<|L' hr z (fun I hr=>?_) (fun I hr=>?_)
 .refine sr<|yy (o' 2 au' z z z) z<|yy (o' 3 bP' z z z) z ?_
  obtain⟨ai,q,hr⟩:=hr
  refine E' z z (t' E100 z) (gp' q) z (⟨c,e,d,f⟩)<|sx0 z z<|j'<|m'<|a' (k0' hr z z)
 refine n'<|sr<|yy (at' z z) z<|sx0 z z<|L' hr z (fun E hr=>?_) (fun E hr=>?_)
 .refine q'<|g'<|L' hr z (fun F hr=>?_) (fun F hr=>?_)
  .refine sr<|yy (o' 2 au' z z z) z<|yy (o' 3 bP' z z z) z ?_
   obtain⟨aj,u,hr⟩:=hr
   refine E' z z (t' E101 z) (eC' u) z (⟨c,e,d,f⟩)<|sx0 z z<|j'<|m'<|a' (k0' hr z z)
  refine q'<|I'<|g'<|sr<|sx0 z z<|j' (k0' hr z z)
 refine sr<|yy (at' z z) z<|sx0 z z<|L' hr z (fun L hr=>?_) (fun L hr=>?_)
 .refine q'<|g'<|L' hr z (fun H hr=>?_) (fun H hr=>?_)
  .refine sr<|yy (o' 2 au' z z z) z<|yy (o' 3 bP' z z z) z ?_
   obtain⟨ak,t,hr⟩:=hr
   refine E' z z (t' E101 z) (eC' t) z (⟨c,e,d,f⟩)<|sx0 z z<|j'<|m'<|a' (k0' hr z z)
  refine q'<|I'<|g'<|sr<|sx0 z z<|j' (k0' hr z z)
 refine A'<|yy (at' z z) z<|sx0 z z<|L' hr z (fun C hr=>?_) (fun C hr=>?_)
 .refine sr<|yy (o' 2 au' z z z) z<|yy (o' 3 bP' z z z) z ?_
  obtain⟨ah,s,hr⟩:=hr
  refine E' z z (t' E101 z) (eC' s) z (⟨c,e,d,f⟩)<|sx0 z z<|j'<|m'<|a' (k0' hr z z)
 refine q'<|I'<|g'<|sr<|sx0 z z<|j' (k0' hr z z)
theorem dK'{c e r}(hr:(ZaA c e).Ret r):Ctr prog 73 #[i' c,i' e] (fun G=>True) (fun G v=>v = .agg (vecG (Value.int .i64) 8 r).toArray):=by
 refine H' (args:=[_,_]) (N:=43) func73 z z z fun y o S M=>sr<|Q' 4 z z119 z fun q=>nr<|yy (av' (vs:=#[]) (v:=.agg (vecG (Value.int .i64) 8 (fun _=>0)).toArray) z z (fun _=>by kernel_rfl)) z<|Q' 5 z z119 z fun s=>s' 5 z sz119 z z z (ae' _ _ _) (ae' _ _ _) (fun u t=>Rp.one (dz' .i64 8) (G:=o) (x:=(fun _=>0)) (cs:=vecG (Value.int .i64) 8 (fun _=>0)) z u (by first|simpa using t|simpa [Value.cells] using t))<|nx<|n'<|sr<|sx0 z z<|am' (fun (⟨h,m⟩:(Fin 8->Int)×Mem)=>[(0,i' c),(1,i' e),(4,pt0 q),(5,pt0 s)]) (fun ⟨h,m⟩=>Mem.le o m/\(Zdj c e h).Ret r) (fun ⟨h,m⟩=>St y o m [(4,bk0 q (vecG (Value.int .i64) 8 (fun _=>0)) 119),(5,bk0 s (vecG (Value.int .i64) 8 h) 119)]) ?_ ?_
 .refine C' ?_
  let p:(Fin 8->Int)->Prop:=fun Q=>((fun O=>match O with|h=>Zdj c e h:(Fin 8->Int)->Cq (Fin 8->Int)) Q).wp (fun a=>a=r)
  replace hr:(Cq.loop _ _).wp p:=hr
  refine an' (Φ:=p) (fun (⟨d,f,g⟩:Int×(Fin 8->Int)×Mem)=>((d,f):Int×(Fin 8->Int))) (fun ⟨d,f,g⟩=>[(0,i' c),(1,i' e),(4,pt0 q),(5,pt0 s),(6,i' d)]) (fun ⟨d,f,g⟩=>Mem.le o g) (fun ⟨d,f,g⟩=>St y o g [(4,bk0 q (vecG (Value.int .i64) 8 (fun _=>0)) 119),(5,bk0 s (vecG (Value.int .i64) 8 f) 119)]) ⟨0,(fun _=>0),o⟩ hr (f5 z z z z z) mr (w2 z z) ?_
  .intro D P R hr
   obtain⟨d,f,g⟩:=P
   have l:=R
   refine n'<|sr<|mv z z<|yy (aj' z z) z<|nx<|L' hr z (fun K hr=>?_) (fun K hr=>?_)
   .refine q'<|g'<|n'<|C'<|sr<|mv z z<|mv z z ?_
    obtain⟨B,hr⟩:=hr
    refine yy (bj' bg' sz3 z z B) z<|aD' 5 (vecG (Value.int .i64) 8 (setF f d.toNat d)).toArray z sz3 z z z (by first|(rw[ae']; omega)|(show _<(vecG _ _ _).toArray.size; rw[ae']; omega)) z (cj' _ _ _ _ _)<|nx<|aM' (fun (⟨j,k⟩:(Fin 8->Int)×Mem)=>[(0,i' c),(1,i' e),(4,pt0 q),(5,pt0 s),(6,i' d)]) (fun ⟨j,k⟩=>Mem.le g k/\(ZbS c e d j).wp (Out D p)) (fun ⟨j,k⟩=>St y o k [(4,bk0 q (vecG (Value.int .i64) 8 (fun _=>0)) 119),(5,bk0 s (vecG (Value.int .i64) 8 j) 119)]) ?_ ?_
    .refine sr<|mv z z<|mv z z<|ac' hr z (be' z z) z (fun F hr=>?_) (fun F hr=>?_)
     .refine mv z z<|gy z z (e' z) z<|gy z z (e' z) z<|gy z z (bL' z z) z<|yy (h' z z) z<|nx<|L' hr z (fun J hr=>?_) (fun J hr=>?_)
      .refine A'<|mv z z<|mv z z<|yy (bk' z z) z ?_
       obtain⟨C,hr⟩:=hr
       refine yy (bj' bg' sz3 z z C) z<|aD' 5 (vecG (Value.int .i64) 8 (setF (setF f d.toNat d) d.toNat (i64.wrap (d-1)))).toArray z sz3 z z z (by first|(rw[ae']; omega)|(show _<(vecG _ _ _).toArray.size; rw[ae']; omega)) z (cj' _ _ _ _ _)<|v'<|as' ⟨setF (setF f d.toNat d) d.toNat (i64.wrap (d-1)),g⟩ ⟨mr,hr⟩ (f5 z z z z z) (w2 z z)
      refine q'<|as' ⟨setF f d.toNat d,g⟩ ⟨mr,hr⟩ (f5 z z z z z) (w2 z z)
     refine mv z z<|sn3 z<|yy (l' z z) z<|nx<|bd' z<|q'<|as' ⟨setF f d.toNat d,g⟩ ⟨mr,hr⟩ (f5 z z z z z) (w2 z z)
    rintro⟨j,k⟩ ⟨n,hr⟩
    refine sr<|mv z z<|mv z z<|ac' hr z (aj' z z) z (fun I hr=>?_) (fun I hr=>?_)
    .refine mv z z<|gy z z (e' z) z<|gy z z (e' z) z<|gy z z (bf' z z) z<|yy (h' z z) z<|nx<|L' hr z (fun E hr=>?_) (fun E hr=>?_)
     .refine A'<|mv z z<|mv z z<|yy (W' z z) z ?_
      obtain⟨H,hr⟩:=hr
      refine yy (bj' bg' sz3 z z H) z<|aD' 5 (vecG (Value.int .i64) 8 (setF j d.toNat (i64.wrap (d+1)))).toArray z sz3 z z z (by first|(rw[ae']; omega)|(show _<(vecG _ _ _).toArray.size; rw[ae']; omega)) z (cj' _ _ _ _ _)<|v'<|I'<|g'<|A'<|mv z z<|yy (W' z z) z<|sg z z<|v'<|Y' ⟨i64.wrap (d+1),setF j d.toNat (i64.wrap (d+1)),k⟩ hr (mx l n) (f5 z z z z z) (w2 z z)
     refine q'<|I'<|g'<|A'<|mv z z<|yy (W' z z) z<|sg z z<|v'<|Y' ⟨i64.wrap (d+1),j,k⟩ hr (mx l n) (f5 z z z z z) (w2 z z)
    refine mv z z<|sn3 z<|yy (l' z z) z<|nx<|bd' z<|q'<|I'<|g'<|A'<|mv z z<|yy (W' z z) z<|sg z z<|v'<|Y' ⟨i64.wrap (d+1),j,k⟩ hr (mx l n) (f5 z z z z z) (w2 z z)
   refine ap'<|r'<|r'<|O'<|aq' ⟨f,g⟩ ⟨l,hr⟩ (f4 z z z z) (w2 z z)
 rintro⟨h,m⟩ ⟨L,hr⟩
 refine g'<|sr<|mv z z<|mv z z ?_
 obtain⟨A,hr⟩:=hr
 refine yy (bj' bg' sz3 z z A) z<|aD' 5 (vecG (Value.int .i64) 8 (setF h c.toNat e)).toArray z sz3 z z z (by first|(rw[ae']; omega)|(show _<(vecG _ _ _).toArray.size; rw[ae']; omega)) z (cj' _ _ _ _ _)<|nr<|yy (o' 5 ag119 z z (ae' _ _ _)) z<|s' 4 z sz119 z z z (ae' _ _ _) (ae' _ _ _) (fun u t=>Rp.one (dz' .i64 8) (G:=m) (x:=setF h c.toNat e) (cs:=vecG (Value.int .i64) 8 (setF h c.toNat e)) z u (by first|simpa using t|simpa [Value.cells] using t))<|nx<|j' ?_
 obtain rfl:_=r:=hr
 exact k' z (ad' (i:=4) ag119 z z (ae' _ _ _)) z
theorem fp'{c r}(hr:(Zb0 c).Ret r):Ctr prog 153 #[.agg (vecG (Value.int .i64) 8 c).toArray] (fun G=>True) (fun G v=>v = .bool r):=by
 refine H' (args:=[_]) (N:=31) func153 z z z fun y j M H=>sr<|ag' 1 z z z fun q=>sg z z<|nr<|yy (av' (vs:=#[]) (v:=.agg (vecG Value.bool 8 (fun _=>false)).toArray) z z (fun _=>by kernel_rfl)) z<|Q' 3 z z216 z fun B=>s' 3 z sz216 z z z (ae' _ _ _) (ae' _ _ _) (fun u A=>Rp.one (Rp.vecB 8) (G:=j) (x:=(fun _=>false)) (cs:=vecG Value.bool 8 (fun _=>false)) z u (by first|simpa using A|simpa [Value.cells] using A))<|nx<|n'<|sr<|sx0 z z<|am' (fun (h:Mem)=>match h with|g=>[]) (fun (h:Mem)=>match h with|g=>Mem.le j g/\(Zbk).Ret r) (fun (h:Mem)=>match h with|g=>St y j g []) ?_ ?_
 .refine C' ?_
  let k:(Bool⊕Unit)->Prop:=fun J=>((fun I=>match I with | .inl rv1=>Cq.ret rv1 | .inr ()=>Zbk:(Bool⊕Unit)->Cq Bool) J).wp (fun a=>a=r)
  replace hr:(Cq.loop _ _).wp k:=hr
  refine an' (Φ:=k) (fun (⟨f,d,e⟩:Int×(Fin 8->Bool)×Mem)=>((f,d):Int×(Fin 8->Bool))) (fun ⟨f,d,e⟩=>[(1,pt0 q),(3,pt0 B),(4,i' f)]) (fun ⟨f,d,e⟩=>Mem.le j e) (fun ⟨f,d,e⟩=>St y j e [(1,bk0 q (vecG (Value.int .i64) 8 c) 119),(3,bk0 B (vecG Value.bool 8 d) 216)]) ⟨0,(fun _=>false),j⟩ hr (f3 z z z) mr (w2 z z) ?_
  .intro L h K hr
   obtain⟨f,d,e⟩:=h
   have i:=K
   refine n'<|sr<|mv z z<|yy (aj' z z) z<|nx<|L' hr z (fun E hr=>?_) (fun E hr=>?_)
   .refine q'<|g'<|n'<|C'<|n'<|sr<|mv z z ?_
    obtain⟨l,hr⟩:=hr
    refine yy (bj' bg' sz3 z z l) z<|yy (f' 1 sc3 z z (bi' _ _ _ l)) z<|ac' hr z (aj' z z) z (fun D hr=>?_) (fun D hr=>?_)
    .refine mv z z<|sn4 z<|yy (h' z z) z<|mv z z<|sn5 z<|yy (h' z z) z<|nx<|U' z<|sr<|sx0 z z<|j'<|a'<|m'<|a'<|a'<|m'<|ab'<|a' (k0' hr z z)
    refine mv z z<|gy z z (e' z) z ?_
    obtain⟨n,hr⟩:=hr
    refine gy z z (bj' bg' sz3 z z n) z<|gy z z (f' 1 sc3 z z (bi' _ _ _ n)) z<|ac' hr (w' z z) (bf' z z) z (fun C hr=>?_) (fun C hr=>?_)
    .refine yy (l' z z) z<|mv z z<|sn5 z<|yy (h' z z) z<|nx<|U' z<|sr<|sx0 z z<|j'<|a'<|m'<|a'<|a'<|m'<|ab'<|a' (k0' hr z z)
    refine yy (l' z z) z<|mv z z<|gy z z (e' z) z ?_
    obtain⟨p,hr⟩:=hr
    refine gy z z (bj' bg' sz3 z z p) z<|gy z z (f' 1 sc3 z z (bi' _ _ _ p)) z ?_
    obtain⟨o,hr⟩:=hr
    refine gy z z (bj' dS' sz4 z z o) z<|gy z z (f' 3 sc4 z z (bi' _ _ _ o)) z<|yy (l' z z) z<|nx<|aL' hr z (fun t hr=>?_) (fun t hr=>?_)
    .exact (show False from hr).elim
    refine q'<|g'<|A'<|mv z z ?_
    obtain⟨m,hr⟩:=hr
    refine yy (bj' bg' sz3 z z m) z<|yy (f' 1 sc3 z z (bi' _ _ _ m)) z ?_
    obtain⟨s,hr⟩:=hr
    refine yy (bj' dS' sz4 z z s) z<|aD' 3 (vecG Value.bool 8 (setF d ((getF c f).toNat) true)).toArray z sz4 z z z (by first|(rw[ae']; omega)|(show _<(vecG _ _ _).toArray.size; rw[ae']; omega)) z (cj' _ _ _ _ _)<|v'<|I'<|g'<|A'<|mv z z<|yy (W' z z) z<|sg z z<|v'<|Y' ⟨i64.wrap (f+1),setF d ((getF c f).toNat) true,e⟩ hr i (f3 z z z) (w2 z z)
   refine ap'<|r'<|r'<|O'<|aq' e ⟨i,hr⟩ fn (wk ln)
 rintro g ⟨F,hr⟩
 refine g'<|sr<|sx0 z z<|j' (k0' hr z z)
theorem gF'{Q n L R r}(hr:(Zfp Q n).Ret r):Ctr prog 102 #[.slice L Q.length R,.agg (vecG (Value.int .i64) 8 n).toArray] (fun G=>sl K' G L R Q) (wlt' K' r):=by
 refine H' (args:=[_,_]) (N:=47) func102 z z z (fun w0 Y ag ar=>?_)
 have M:=ar
 refine sr<|ag' 3 z z z fun U=>sg z z<|sx0 z z<|n'<|sr<|yy (o' 3 ag119 z z (ae' _ _ _)) z ?_
 obtain⟨aN,ao,hr⟩:=hr
 refine E' z z (t' E153 z) (fp' ao) z (trivial)<|yy (al' z) z<|nx<|aL' hr z (fun aG hr=>?_) (fun aG hr=>?_)
 .exact (show False from hr).elim
 refine q'<|g'<|sr<|bc' (e:=133) (r:=K') (vs:=#[]) (cs:=[]) ([]:List Ze) z z z z z (by decide) (fun _=>by kernel_rfl) (z) (key:=999) z (by rw[ag]; rfl) fun p2 W t aC=>sx0 z z<|n'<|sr<|sx0 z z<|am' (fun (⟨q,y,s,I⟩:(List Ze)×Option Addr×Nat×Mem)=>[(6,.slice y q.length s)]) (fun ⟨q,y,s,I⟩=>Mem.le W I/\sl K' I y s q/\(Zdd q).Ret r) (fun ⟨q,y,s,I⟩=>St w0 Y I []) ?_ ?_
 .refine C' ?_
  let J:(List Ze)->Prop:=fun oo=>((fun ov=>match ov with|q=>Zdd q:(List Ze)->Cq ((List Ze)×Int)) oo).wp (fun a=>a=r)
  replace hr:(Cq.loop _ _).wp J:=hr
  refine an' (Φ:=J) (fun (⟨i,l,k,H,p⟩:(List Ze)×Option Addr×Nat×Int×Mem)=>((i,H):(List Ze)×Int)) (fun ⟨i,l,k,H,p⟩=>[(0,.slice L Q.length R),(3,pt0 U),(6,.slice l i.length k),(7,i' H)]) (fun ⟨i,l,k,H,p⟩=>Mem.le W p/\sl K' p l k i) (fun ⟨i,l,k,H,p⟩=>St w0 Y p [(3,bk0 U (vecG (Value.int .i64) 8 n) 119)]) ⟨[],p2,0,0,W⟩ hr (f4 z z z z) ⟨mr,aC⟩ (w1 z) ?_
  .intro af gx hx hr
   obtain⟨i,l,k,H,p⟩:=gx
   obtain⟨o,S⟩:=hx
   refine n'<|sr<|mv z z<|mv z z<|yy (M' ak' (M.mono (mx t o)) z) z<|yy (aj' z z) z<|nx<|L' hr z (fun aA hr=>?_) (fun aA hr=>?_)
   .refine q'<|g'<|n'<|C'<|sr<|yy (av' (vs:=#[]) (v:=.agg (vecG (Value.int .i64) 8 (fun _=>0)).toArray) z z (fun _=>by kernel_rfl)) z<|Q' 8 z z120 z fun b2=>s' 8 z sz120 z z z (ae' _ _ _) (ae' _ _ _) (fun u hu=>Rp.one (dz' .i64 8) (G:=p) (x:=(fun _=>0)) (cs:=vecG (Value.int .i64) 8 (fun _=>0)) z u (by first|simpa using hu|simpa [Value.cells] using hu))<|nx<|n'<|sr<|sx0 z z<|am' (fun (⟨m,K⟩:(Fin 8->Int)×Mem)=>[(0,.slice L Q.length R),(3,pt0 U),(6,.slice l i.length k),(7,i' H),(8,pt0 b2)]) (fun ⟨m,K⟩=>Mem.le p K/\(Zde Q i H m).wp (Out af J)) (fun ⟨m,K⟩=>St w0 Y K [(3,bk0 U (vecG (Value.int .i64) 8 n) 119),(8,bk0 b2 (vecG (Value.int .i64) 8 m) 120)]) ?_ ?_
    .refine C' ?_
     let X:(Fin 8->Int)->Prop:=fun oo=>((fun ov=>match ov with|m=>Zde Q i H m:(Fin 8->Int)->Cq (((List Ze)×Int)⊕(List Ze))) oo).wp (Out af J)
     replace hr:(Cq.loop _ _).wp X:=hr
     refine an' (Φ:=X) (fun (⟨F,A,C⟩:Int×(Fin 8->Int)×Mem)=>((F,A):Int×(Fin 8->Int))) (fun ⟨F,A,C⟩=>[(0,.slice L Q.length R),(3,pt0 U),(6,.slice l i.length k),(7,i' H),(8,pt0 b2),(9,i' F)]) (fun ⟨F,A,C⟩=>Mem.le p C) (fun ⟨F,A,C⟩=>St w0 Y C [(3,bk0 U (vecG (Value.int .i64) 8 n) 119),(8,bk0 b2 (vecG (Value.int .i64) 8 A) 120)]) ⟨0,(fun _=>0),p⟩ hr (f6 z z z z z z) mr (w2 z z) ?_
     .intro aL gx hx hr
      obtain⟨F,A,C⟩:=gx
      have E:=hx
      refine n'<|sr<|mv z z<|yy (aj' z z) z<|nx<|L' hr z (fun aD hr=>?_) (fun aD hr=>?_)
      .refine q'<|g'<|n'<|C'<|ah' [ff,ff,ff,ff,ff,ff,ff,ff,ff,ff] mix (by kernel_rfl) fun hb=>cn (fun _ h=>e' z) ?_
       obtain⟨ah,hr⟩:=hr
       refine cn (fun _ h=>bj' bg' sz3 z z ah)<|cn (fun _ h=>f' 3 sc3 z z (bi' _ _ _ ah))<|cn (fun _ h=>e' z)<|cn (fun _ h=>e' z)<|cn (fun _ h=>e' z) ?_
       obtain⟨x2,ad,hr⟩:=hr
       refine cn (fun _ h=>V' ak' ch' ((M.mono (mx (mx t o) E)).mono h) z z ad)<|cn (fun _ h=>bD' z) ?_
       obtain⟨ae,hr⟩:=hr
       refine cn (fun _ h=>Y0.idxA aO' sz3 z z ae)<|cn (fun _ h=>aa' sc3 z (AtK.vecAt (J' (J' (ax' (ay' (af' M ad))) (mx (mx t o) E)) h) ae))<|T' hb ?_
       obtain⟨aF,hr⟩:=hr
       refine yy (bj' aO' sz3 z z aF) z<|aD' 8 (vecG (Value.int .i64) 8 (setF A ((getF n F).toNat) (getF x2.m F))).toArray z sz3 z z z (by first|(rw[ae']; omega)|(show _<(vecG _ _ _).toArray.size; rw[ae']; omega)) z (cj' _ _ _ _ _)<|v'<|ar'<|I'<|g'<|A'<|mv z z<|yy (W' z z) z<|sg z z<|v'<|Y' ⟨i64.wrap (F+1),setF A ((getF n F).toNat) (getF x2.m F),C⟩ hr E (f6 z z z z z z) (w2 z z)
      refine ap'<|r'<|r'<|O'<|aq' ⟨A,C⟩ ⟨E,hr⟩ (f5 z z z z z) (w2 z z)
    rintro⟨m,K⟩ ⟨D,hr⟩
    refine g'<|ah' [tt,ff,ff,ff,ff,ff,ff] mix (by kernel_rfl) fun hb=>cv' z (e' z)<|cn (fun _ h=>e' z)<|cn (fun _ h=>e' z) ?_
    obtain⟨B,ai,hr⟩:=hr
    refine cn (fun _ h=>V' ak' ch' ((M.mono (mx (mx t o) D)).mono h) z z ai)<|cn (fun _ h=>cQ' z) ?_
    obtain⟨d,f,g,c,ax,P,O⟩:=el' (J' (aW' (ay' (af' M ai))) (mx (mx t o) D))
    refine cn (fun _ h=>aC' _ cR' z z (fun j v hv=>h _ _ _ (ax j v hv)))<|cn (fun _ h=>o' 8 bW' z z (ae' _ _ _))<|T' hb<|yy (av' (vs:=#[(0,.agg ((v130' B.c d f g c)).toArray),(1,.agg (vecG (Value.int .i64) 8 m).toArray)]) (v:=.agg (((v130' B.c d f g c):List Value)++(vecG (Value.int .i64) 8 m)).toArray) z z (fun _=>by kernel_rfl)) z<|bc' (e:=133) (r:=K') (vs:=#[(0,.agg (((v130' B.c d f g c):List Value)++(vecG (Value.int .i64) 8 m)).toArray)]) (cs:=(((v130' B.c d f g c):List Value)++(vecG (Value.int .i64) 8 m))++([])) ([(Ze.mk B.c m)]:List Ze) z z z z z (by decide) (fun _=>by kernel_rfl) ⟨((v130' B.c d f g c):List Value)++(vecG (Value.int .i64) 8 m),[],z,⟨(v130' B.c d f g c),vecG (Value.int .i64) 8 m,z,⟨(v128' B.c.num d f),(v128' B.c.den g c),z,⟨[.bool B.c.num.neg],[.slice d B.c.num.mag.length f],z,z,⟨_,z,P⟩⟩,⟨[.bool B.c.den.neg],[.slice g B.c.den.mag.length c],z,z,⟨_,z,O⟩⟩⟩,z⟩,z⟩ (key:=999) z (by rw[ag]; rfl) (fun p3 aM T aB=>?_)
    obtain⟨az,ap,hr⟩:=hr
    refine P' z z (t' E62 z) (gu' ap) z (⟨(S.mono (mx D T)),aB⟩) (fun aJ aw Z V=>?_)
    obtain⟨aq,ak,rfl,av⟩:=V
    refine sg z z<|v'<|ar'<|I'<|g'<|A'<|mv z z<|yy (W' z z) z<|sg z z<|v'<|Y' ⟨az,aq,ak,i64.wrap (H+1),aw⟩ hr ⟨(mx (mx (mx o D) T) Z),av⟩ (f4 z z z z) (w1 z)
   refine ap'<|r'<|r'<|O'<|aq' ⟨i,l,k,p⟩ ⟨o,S,hr⟩ (f1 z) (wk ln)
 rintro⟨q,y,s,I⟩ ⟨aH,ac,hr⟩
 refine g'<|sr<|mv z z<|sg z z<|sx0 z z<|j' ?_
 obtain rfl:_=r:=hr
 exact aH' z z z ⟨_,_,z,ac⟩
theorem dL'{l1 E Y ab r}(hr:(Zbg l1 E).Ret r):Ctr prog 72 #[.slice Y l1.length ab,.agg (vecG (Value.int .i64) 8 E).toArray] (fun G=>sl b' G Y ab l1) (wl' b' r):=by
 refine H' (args:=[_,_]) (N:=37) func72 z z z (fun w0 G0 V an=>?_)
 have J:=an
 refine sr<|ag' 3 z z z fun b1=>sg z z<|nr<|bc' (e:=110) (r:=b') (vs:=#[]) (cs:=[]) ([]:List Zb) z z z z z (by decide) (fun _=>by kernel_rfl) (z) (key:=999) z (by rw[V]; rfl) fun p1 Z t av=>sx0 z z<|n'<|sr<|sx0 z z<|am' (fun (⟨m,q,p,o,D⟩:(List Zb)×Option Addr×Nat×Option Ow×Mem)=>[(5,.slice q m.length p)]) (fun ⟨m,q,p,o,D⟩=>Mem.le Z D/\sl b' D q p m/\Tok 2 110 (.slice q m.length p) m.length o/\(Zex m).Ret r) (fun ⟨m,q,p,o,D⟩=>St w0 G0 D [(1005,o)]) ?_ ?_
 .refine C' ?_
  let X:(List Zb)->Prop:=fun oo=>((fun ov=>match ov with|m=>Zex m:(List Zb)->Cq (List Zb)) oo).wp (fun a=>a=r)
  replace hr:(Cq.loop _ _).wp X:=hr
  refine an' (Φ:=X) (fun (⟨i,l,k,j,M,x⟩:(List Zb)×Option Addr×Nat×Option Ow×Int×Mem)=>((i,M):(List Zb)×Int)) (fun ⟨i,l,k,j,M,x⟩=>[(0,.slice Y l1.length ab),(3,pt0 b1),(5,.slice l i.length k),(6,i' M)]) (fun ⟨i,l,k,j,M,x⟩=>Mem.le Z x/\sl b' x l k i/\Tok 2 110 (.slice l i.length k) i.length j) (fun ⟨i,l,k,j,M,x⟩=>St w0 G0 x [(3,bk0 b1 (vecG (Value.int .i64) 8 E) 119),(1005,j)]) ⟨[],p1,0,none,0,Z⟩ hr (f4 z z z z) ⟨mr,av,cX'⟩ (wk (lc z (lw ln))) ?_
  .intro aO gx hx hr
   obtain⟨i,l,k,j,M,x⟩:=gx
   obtain⟨n,P,I⟩:=hx
   refine n'<|sr<|mv z z<|mv z z<|yy (M' y' (J.mono (mx t n)) z) z<|yy (aj' z z) z<|nx<|L' hr z (fun aD hr=>?_) (fun aD hr=>?_)
   .refine q'<|g'<|n'<|C'<|n'<|ah' [ff,ff,ff,ff,ff,ff,ff,ff,ff,tt] mix (by kernel_rfl) fun hb=>cn (fun _ f=>e' z)<|cn (fun _ f=>e' z) ?_
    obtain⟨x1,ai,hr⟩:=hr
    refine cn (fun _ f=>V' y' aT' ((J.mono (mx t n)).mono f) z z ai)<|cn (fun _ f=>bZ' z) ?_
    obtain⟨p2,aR,az,ax⟩:=bG' (J' (ax' (ay' (af' J ai))) (mx t n))
    refine cn (fun _ f=>aa' cG' z (f _ _ _ az))<|cn (fun _ f=>o' 3 ag119 z z (ae' _ _ _)) ?_
    obtain⟨g,am,hr⟩:=hr
    refine aX' (post:=wlt' K' g) (fun _=>z) (fun _ _=>t' E102 z) (gF' am) z (fun R f=>(ax.mono f)) (fun v G1 G2 f h=>?_) ?_
    .obtain⟨C,A,rfl,s⟩:=h
     exact⟨_,_,z,s.mono f⟩
    refine bm' (φ:=wlt' K' g) (fun _=>z) (fun v G1 G2 f h=>?_) (fun u R f hu=>?_) ?_
    .obtain⟨p3,O,rfl,K⟩:=h
     exact⟨_,_,z,K.mono f⟩
    .obtain⟨⟨C,A,ad,s⟩,_⟩:=(show (wlt' K' g) R.m (u 23)/\True from hu)
     simp only[undFr,ad]
     exact⟨_,e' z,C,A,z,s⟩
    refine bm' (φ:=wl' K' g.1) (fun _=>z) (fun v G1 G2 f h=>?_) (fun u R f hu=>?_) ?_
    .obtain⟨L,B,rfl,W⟩:=h
     exact⟨_,_,z,W.mono f⟩
    .obtain⟨⟨p3,O,F,K⟩,_,_⟩:=(show (wlt' K' g) R.m (u 16)/\True/\True from hu)
     simp only[undFr,F]
     exact⟨_,x' z z,p3,O,z,K⟩
    refine bu' (c:=i' g.2) (fun _=>z) (fun u R f hu=>?_) ?_
    .obtain⟨_,⟨p3,O,F,K⟩,_,_⟩:=(show True/\(wlt' K' g) R.m (u 16)/\True/\True from hu)
     simp only[undFr,F]
     exact x' z z
    refine Chain.tailU3 (d:=24) (post:=wl' K' g.1) (d':=16) (post':=wlt' K' g) (d'':=23) (post'':=wlt' K' g) (fun aF aJ aK aP y T U S=>?_)
    obtain⟨L,B,rfl,W⟩:=T
    obtain⟨p3,O,rfl,K⟩:=U
    obtain⟨C,A,rfl,s⟩:=S
    refine sg z z<|sg z z<|v'<|ar'<|g'<|A'<|mv z z<|mv z z<|mv z z ?_
    obtain⟨H,ah,hr⟩:=hr
    refine yy (V' y' aT' (J.mono (mx (mx t n) y)) z z ah) z<|yy (bn' z) z<|yy (aa' sc3 z (aI' (J' (aW' (ay' (af' J ah))) (mx (mx t n) y)))) z<|mv z z<|yy (av' (vs:=#[(0,i' H.id),(1,.slice L g.1.length B)]) (v:=.agg ([i' H.id,.slice L g.1.length B]).toArray) z z (fun _=>by kernel_rfl)) z<|bc' (e:=110) (r:=b') (vs:=#[(0,.agg ([i' H.id,.slice L g.1.length B]).toArray)]) (cs:=[i' H.id,.slice L g.1.length B]++([])) ([(Zb.mk H.id g.1)]:List Zb) z z z z z (by decide) (fun _=>by kernel_rfl) ⟨[i' H.id,.slice L g.1.length B],[],z,⟨[i' H.id],[.slice L g.1.length B],z,z,⟨_,z,W⟩⟩,z⟩ (key:=999) z (by rw[V]; rfl) (fun p5 aQ Q aA=>?_)
    obtain⟨ak,hr⟩:=hr
    refine bT' (r:=b') 1005 z z y' el110 z (by decide) z z (P.mono (mx y Q)) z (by rw[V]; rfl) I aA ak fun p6 ar al ap ae ao aj=>sg z z<|v'<|I'<|g'<|A'<|mv z z<|yy (W' z z) z<|sg z z<|v'<|Y' ⟨(i++[(Zb.mk H.id g.1)]),p6,ar,al,i64.wrap (M+1),ap⟩ hr ⟨(mx (mx (mx n y) Q) ae),ao,aj⟩ (f4 z z z z) (w2 z z)
   refine ap'<|r'<|r'<|O'<|aq' ⟨i,l,k,j,x⟩ ⟨n,P,I,hr⟩ (f1 z) (w1 z)
 rintro⟨m,q,p,o,D⟩ ⟨aE,ag,aw,hr⟩
 refine g'<|sr<|mv z z<|sx0 z z<|j' ?_
 obtain rfl:_=r:=hr
 exact k' z z ⟨_,_,z,ag⟩
theorem ee'{Y d T U i j r}(hr:(Zcs Y d).Ret r):Ctr prog 103 #[.slice T Y.length U,.agg ((v110' d.id i d.p j)).toArray] (fun G=>sl b' G T U Y/\sl K' G i j d.p) (wl' b' r):=by
 refine H' (args:=[_,_]) (N:=53) func103 z z z (fun w0 G0 F au=>?_)
 obtain⟨H,aa⟩:=au
 refine sr<|ag' 3 z z z fun X=>sg z z<|nr<|bc' (e:=110) (r:=b') (vs:=#[]) (cs:=[]) ([]:List Zb) z z z z z (by decide) (fun _=>by kernel_rfl) (z) (key:=999) z (by rw[F]; rfl) fun p1 ab n aG=>sg z z<|nr<|sx0 z z<|n'<|sr<|sx0 z z<|am' (fun (⟨p,C,A,x,v,L⟩:(List Zb)×Option Addr×Nat×Option Ow×Bool×Mem)=>[(3,pt0 X),(5,.slice C p.length A),(6,.bool v)]) (fun ⟨p,C,A,x,v,L⟩=>Mem.le ab L/\sl b' L C A p/\Tok 2 110 (.slice C p.length A) p.length x/\(Zgf d p v).Ret r) (fun ⟨p,C,A,x,v,L⟩=>St w0 G0 L [(3,bk0 X (v110' d.id i d.p j) 110),(1005,x)]) ?_ ?_
 .refine C' ?_
  let Q:(((List Zb)×Bool))->Prop:=fun oo=>((fun ov=>match ov with|(p,v)=>Zgf d p v:(((List Zb)×Bool))->Cq (List Zb)) oo).wp (fun a=>a=r)
  replace hr:(Cq.loop _ _).wp Q:=hr
  refine an' (Φ:=Q) (fun (⟨h,l,k,g,m,K,y⟩:(List Zb)×Option Addr×Nat×Option Ow×Bool×Int×Mem)=>((h,m,K):(List Zb)×Bool×Int)) (fun ⟨h,l,k,g,m,K,y⟩=>[(0,.slice T Y.length U),(3,pt0 X),(5,.slice l h.length k),(6,.bool m),(7,i' K)]) (fun ⟨h,l,k,g,m,K,y⟩=>Mem.le ab y/\sl b' y l k h/\Tok 2 110 (.slice l h.length k) h.length g) (fun ⟨h,l,k,g,m,K,y⟩=>St w0 G0 y [(3,bk0 X (v110' d.id i d.p j) 110),(1005,g)]) ⟨[],p1,0,none,false,0,ab⟩ hr (f5 z z z z z) ⟨mr,aG,cX'⟩ (wk (lc z (lw ln))) ?_
  .intro az gx hx hr
   obtain⟨h,l,k,g,m,K,y⟩:=gx
   obtain⟨f,E,D⟩:=hx
   refine n'<|sr<|mv z z<|mv z z<|yy (M' y' (H.mono (mx n f)) z) z<|yy (aj' z z) z<|nx<|L' hr z (fun aF hr=>?_) (fun aF hr=>?_)
   .refine q'<|g'<|n'<|C'<|aM' (fun (⟨o,t,u,q,s,I⟩:(List Zb)×Option Addr×Nat×Option Ow×Bool×Mem)=>[(0,.slice T Y.length U),(3,pt0 X),(5,.slice t o.length u),(6,.bool s),(7,i' K)]) (fun ⟨o,t,u,q,s,I⟩=>Mem.le y I/\sl b' I t u o/\Tok 2 110 (.slice t o.length u) o.length q/\(Zd7 Y d K o s).wp (Out az Q)) (fun ⟨o,t,u,q,s,I⟩=>St w0 G0 I [(3,bk0 X (v110' d.id i d.p j) 110),(1005,q)]) ?_ ?_
    .refine n'<|ah' [ff,ff,ff,ff,ff,ff,ff,ff,ff,ff] mix (by kernel_rfl) fun hb=>by' hr z (fun _ c=>cK' (e' z) (congrArg Value.bool (bdec _))) (fun aN hr=>?_) (fun aN hr=>?_)
     .refine cn (fun _ c=>al' z)<|cn (fun _ c=>e' z)<|ct z z<|ct z z<|ct z z<|ct z z<|ct z z<|ct z z<|ct z z<|T' hb<|sk z z z<|yy (l' z z) z<|v'<|ar'<|g'<|bd' z<|q'<|as' ⟨h,l,k,g,m,y⟩ ⟨mr,E,D,hr⟩ (f5 z z z z z) (w2 z z)
     refine cn (fun _ c=>al' z)<|cn (fun _ c=>e' z)<|cy z z (fun _ c=>e' z)<|cy z z (fun _ c=>e' z) ?_
     obtain⟨x4,ai,hr⟩:=hr
     refine cy z z (fun _ c=>V' y' aT' ((H.mono (mx n f)).mono c) z z ai)<|cy z z (fun _ c=>bn' z)<|cy z z (fun _ c=>aa' sc3 z (aI' (J' (J' (aW' (ay' (af' H ai))) (mx n f)) c)))<|cy z z (fun _ c=>bn' z)<|cy z z (fun _ c=>f' 3 sc3 z z z)<|T' hb<|gy z z (bf' z z) z<|yy (h' z z) z<|v'<|ar'<|g'<|L' hr z (fun aE hr=>?_) (fun aE hr=>?_)
     .refine sr<|mv z z<|yy (o' 3 bO' z z z) z<|bc' (e:=110) (r:=b') (vs:=#[(0,.agg ((v110' d.id i d.p j)).toArray)]) (cs:=(v110' d.id i d.p j)++([])) ([d]:List Zb) z z z z z (by decide) (fun _=>by kernel_rfl) ⟨(v110' d.id i d.p j),[],z,⟨[i' d.id],[.slice i d.p.length j],z,z,⟨_,z,(aa.mono (mx n f))⟩⟩,z⟩ (key:=999) z (by rw[F]; rfl) (fun p6 a3 S ay=>?_)
      obtain⟨am,hr⟩:=hr
      refine bT' (r:=b') 1005 z z y' el110 z (by decide) z z (E.mono S) z (by rw[F]; rfl) D ay am fun p7 aM ak aA ag aD an=>sx0 z z<|A'<|sg z z<|v'<|as' ⟨(h++[d]),p7,aM,ak,true,aA⟩ ⟨(mx S ag),aD,an,hr⟩ (f5 z z z z z) (w2 z z)
     refine q'<|as' ⟨h,l,k,g,m,y⟩ ⟨mr,E,D,hr⟩ (f5 z z z z z) (w2 z z)
    rintro⟨o,t,u,q,s,I⟩ ⟨B,R,P,hr⟩
    refine n'<|ah' [ff,ff,ff,ff,ff,ff,ff] mix (by kernel_rfl) fun hb=>cn (fun _ c=>e' z)<|cn (fun _ c=>e' z) ?_
    obtain⟨x2,ah,hr⟩:=hr
    refine cn (fun _ c=>V' y' aT' ((H.mono (mx (mx n f) B)).mono c) z z ah)<|cn (fun _ c=>bn' z)<|cn (fun _ c=>aa' sc3 z (aI' (J' (J' (aW' (ay' (af' H ah))) (mx (mx n f) B)) c)))<|cn (fun _ c=>bn' z)<|cn (fun _ c=>f' 3 sc3 z z z)<|T' hb<|yy (aw' z z) z<|v'<|ar'<|g'<|L' hr z (fun aJ hr=>?_) (fun aJ hr=>?_)
    .refine A'<|mv z z<|mv z z<|mv z z ?_
     obtain⟨J,aj,hr⟩:=hr
     refine yy (V' y' aT' (H.mono (mx (mx n f) B)) z z aj) z ?_
     obtain⟨M,O,aB,av⟩:=bp' (J' (af' H aj) (mx (mx n f) B))
     refine yy (aC' _ bO' z z aB) z<|bc' (e:=110) (r:=b') (vs:=#[(0,.agg ((v110' J.id M J.p O)).toArray)]) (cs:=(v110' J.id M J.p O)++([])) ([J]:List Zb) z z z z z (by decide) (fun _=>by kernel_rfl) ⟨(v110' J.id M J.p O),[],z,⟨[i' J.id],[.slice M J.p.length O],z,z,⟨_,z,av⟩⟩,z⟩ (key:=999) z (by rw[F]; rfl) (fun p4 aZ V aC=>?_)
     obtain⟨ao,hr⟩:=hr
     refine bT' (r:=b') 1005 z z y' el110 z (by decide) z z (R.mono V) z (by rw[F]; rfl) P aC ao fun p5 ax aw aK ad aL aq=>sg z z<|v'<|I'<|g'<|A'<|mv z z<|yy (W' z z) z<|sg z z<|v'<|Y' ⟨(o++[J]),p5,ax,aw,s,i64.wrap (K+1),aK⟩ hr ⟨(mx (mx (mx f B) V) ad),aL,aq⟩ (f5 z z z z z) (w2 z z)
    refine q'<|I'<|g'<|A'<|mv z z<|yy (W' z z) z<|sg z z<|v'<|Y' ⟨o,t,u,q,s,i64.wrap (K+1),I⟩ hr ⟨(mx f B),R,P⟩ (f5 z z z z z) (w2 z z)
   refine ap'<|r'<|r'<|O'<|aq' ⟨h,l,k,g,m,y⟩ ⟨f,E,D,hr⟩ (f3 z z z) (w2 z z)
 rintro⟨p,C,A,x,v,L⟩ ⟨af,W,Z,hr⟩
 refine g'<|n'<|sr<|mv z z<|yy (al' z) z<|nx<|aL' hr z (fun aO hr=>?_) (fun aO hr=>?_)
 .refine A'<|mv z z<|yy (o' 3 bO' z z z) z<|bc' (e:=110) (r:=b') (vs:=#[(0,.agg ((v110' d.id i d.p j)).toArray)]) (cs:=(v110' d.id i d.p j)++([])) ([d]:List Zb) z z z z z (by decide) (fun _=>by kernel_rfl) ⟨(v110' d.id i d.p j),[],z,⟨[i' d.id],[.slice i d.p.length j],z,z,⟨_,z,(aa.mono (mx n af))⟩⟩,z⟩ (key:=999) z (by rw[F]; rfl) (fun p2 a0 ae aI=>?_)
  obtain⟨al,hr⟩:=hr
  refine bT' (r:=b') 1005 z z y' el110 z (by decide) z z (W.mono ae) z (by rw[F]; rfl) Z aI al fun p3 a1 aQ a2 aP aH aU=>sg z z<|nr<|mv z z<|sx0 z z<|j' ?_
  obtain rfl:_=r:=hr
  exact k' z z ⟨_,_,z,aH⟩
 refine q'<|g'<|sr<|mv z z<|sx0 z z<|j' ?_
 obtain rfl:_=r:=hr
 exact k' z z ⟨_,_,z,W⟩
theorem eJ'{I B F D r}(hr:(Zdi I B).Ret r):Ctr prog 104 #[.slice F I.length D,i' B] (fun G=>sl b' G F D I) (wl' b' r):=by
 refine H' (args:=[_,_]) (N:=29) func104 z z z (fun V T E P=>?_)
 have v:=P
 refine sr<|sg z z<|nr<|bc' (e:=110) (r:=b') (vs:=#[]) (cs:=[]) ([]:List Zb) z z z z z (by decide) (fun _=>by kernel_rfl) (z) (key:=999) z (by rw[E]; rfl) fun p1 A n X=>sx0 z z<|n'<|sr<|sx0 z z<|am' (fun (⟨i,l,k,j,q⟩:(List Zb)×Option Addr×Nat×Option Ow×Mem)=>[(5,.slice l i.length k)]) (fun ⟨i,l,k,j,q⟩=>Mem.le A q/\sl b' q l k i/\Tok 2 110 (.slice l i.length k) i.length j/\(Zfu i).Ret r) (fun ⟨i,l,k,j,q⟩=>St V T q [(1005,j)]) ?_ ?_
 .refine C' ?_
  let C:(List Zb)->Prop:=fun oo=>((fun ov=>match ov with|i=>Zfu i:(List Zb)->Cq (List Zb)) oo).wp (fun a=>a=r)
  replace hr:(Cq.loop _ _).wp C:=hr
  refine an' (Φ:=C) (fun (⟨d,g,f,c,x,m⟩:(List Zb)×Option Addr×Nat×Option Ow×Int×Mem)=>((d,x):(List Zb)×Int)) (fun ⟨d,g,f,c,x,m⟩=>[(0,.slice F I.length D),(1,i' B),(5,.slice g d.length f),(6,i' x)]) (fun ⟨d,g,f,c,x,m⟩=>Mem.le A m/\sl b' m g f d/\Tok 2 110 (.slice g d.length f) d.length c) (fun ⟨d,g,f,c,x,m⟩=>St V T m [(1005,c)]) ⟨[],p1,0,none,0,A⟩ hr (f4 z z z z) ⟨mr,X,cX'⟩ (wk (lw ln)) ?_
  .intro ak gx hx hr
   obtain⟨d,g,f,c,x,m⟩:=gx
   obtain⟨h,u,o⟩:=hx
   refine n'<|sr<|mv z z<|mv z z<|yy (M' y' (v.mono (mx n h)) z) z<|yy (aj' z z) z<|nx<|L' hr z (fun ac hr=>?_) (fun ac hr=>?_)
   .refine q'<|g'<|n'<|C'<|sr<|mv z z<|mv z z ?_
    obtain⟨x1,L,hr⟩:=hr
    refine yy (V' y' aT' (v.mono (mx n h)) z z L) z<|yy (bn' z) z<|yy (aa' sc3 z (aI' (J' (aW' (ay' (af' v L))) (mx n h)))) z<|mv z z<|yy (aw' z z) z<|nx<|L' hr z (fun U hr=>?_) (fun U hr=>?_)
    .refine A'<|mv z z<|mv z z<|mv z z ?_
     obtain⟨p,K,hr⟩:=hr
     refine yy (V' y' aT' (v.mono (mx n h)) z z K) z ?_
     obtain⟨s,t,W,Q⟩:=bp' (J' (af' v K) (mx n h))
     refine yy (aC' _ bO' z z W) z<|bc' (e:=110) (r:=b') (vs:=#[(0,.agg ((v110' p.id s p.p t)).toArray)]) (cs:=(v110' p.id s p.p t)++([])) ([p]:List Zb) z z z z z (by decide) (fun _=>by kernel_rfl) ⟨(v110' p.id s p.p t),[],z,⟨[i' p.id],[.slice s p.p.length t],z,z,⟨_,z,Q⟩⟩,z⟩ (key:=999) z (by rw[E]; rfl) (fun p2 al y ab=>?_)
     obtain⟨R,hr⟩:=hr
     refine bT' (r:=b') 1005 z z y' el110 z (by decide) z z (u.mono y) z (by rw[E]; rfl) o ab R fun p3 S O Y H aa M=>sg z z<|v'<|I'<|g'<|A'<|mv z z<|yy (W' z z) z<|sg z z<|v'<|Y' ⟨(d++[p]),p3,S,O,i64.wrap (x+1),Y⟩ hr ⟨(mx (mx h y) H),aa,M⟩ (f4 z z z z) (w1 z)
    refine q'<|I'<|g'<|A'<|mv z z<|yy (W' z z) z<|sg z z<|v'<|Y' ⟨d,g,f,c,i64.wrap (x+1),m⟩ hr ⟨h,u,o⟩ (f4 z z z z) (w1 z)
   refine ap'<|r'<|r'<|O'<|aq' ⟨d,g,f,c,m⟩ ⟨h,u,o,hr⟩ (f1 z) (w1 z)
 rintro⟨i,l,k,j,q⟩ ⟨ad,J,Z,hr⟩
 refine g'<|sr<|mv z z<|sx0 z z<|j' ?_
 obtain rfl:_=r:=hr
 exact k' z z ⟨_,_,z,J⟩
theorem gj'{c p e d n o k h s q r}(hr:(ZgG c p).Ret r):Ctr prog 74 #[.agg ((v31' c e d n o k h)).toArray,.agg ((v48' p s q)).toArray] (fun G=>sl Rp.str G e d c.vars/\sl b' G n o c.eqs/\sl b' G k h c.neqs/\sl K' G s q p.p) (w31' r):=by
 refine H' (args:=[_,_]) (N:=117) func74 z z z (fun w0 G0 bJ aZ=>?_)
 obtain⟨m,g,f,B⟩:=aZ
 refine sr<|ag' 2 z z z fun b1=>ag' 3 z z z fun b2=>Q' 4 z z31 z fun b3=>nr<|yy (o' 2 au' z z z) z<|Q' 5 z z31 z fun b4=>s' 5 z aV' z z z z z (List.all_eq_true.1 z)<|nr<|yy (aS' z) z<|yy (f' 3 sc3 z z z) z<|yy (dp' z) z<|yy (f' 3 cG' z z z) z<|yy (av' (vs:=#[(0,i' p.id),(1,.slice s p.p.length q)]) (v:=.agg ((v110' p.id s p.p q)).toArray) z z (fun _=>by kernel_rfl)) z<|Q' 6 z z110 z fun b5=>s' 6 z aT' z z z z z (List.all_eq_true.1 z)<|nx<|n'<|ah' [ff,ff,ff,ff,ff,ff,ff,ff,ff] mix (by kernel_rfl) fun hb=>cn (fun _ l=>aY' z)<|cn (fun _ l=>f' 2 bq' z z z)<|cn (fun _ l=>aS' z)<|cn (fun _ l=>f' 3 sc3 z z z) ?_
 obtain⟨bO,aJ,hr⟩:=hr
 refine bv' z (fun _=>t' E93 z) (dI' aJ) z (fun G' l=>(g.mono l))<|cn (fun _ l=>bb' z)<|cn (fun _ l=>f' 2 bq' z z z)<|cn (fun _ l=>aS' z)<|cn (fun _ l=>f' 3 sc3 z z z)<|T' hb ?_
 obtain⟨bK,aK,hr⟩:=hr
 refine E' z z (t' E93 z) (dI' aK) z (f)<|sg z z<|sg z z<|v'<|ar'<|g'<|n'<|sr<|yy (cB' z) z<|yy (f' 3 sc3 z z z) z<|nx<|C'<|sr<|yy (at' z z) z<|sx0 z z<|L' hr z (fun bn hr=>?_) (fun bn hr=>?_)
 .refine aM' (fun (⟨x,A,C,D⟩:Zb×Option Addr×Nat×Mem)=>[(2,pt0 b1),(3,pt0 b2),(4,pt0 b3),(5,pt0 b4),(6,pt0 b5)]) (fun ⟨x,A,C,D⟩=>Mem.le G0 D/\sl K' D A C x.p/\(ZaE c p x).Ret r) (fun ⟨x,A,C,D⟩=>St w0 G0 D [(2,bk0 b1 (v31' c e d n o k h) 31),(3,bk0 b2 (v48' p s q) 48),(4,bk0 b3 ([.slice none 0 0,.slice none 0 0,.slice none 0 0,i' 0]) 31),(5,bk0 b4 (v31' c e d n o k h) 31),(6,bk0 b5 (v110' x.id A x.p C) 110)]) ?_ ?_
  .refine sr<|yy (aS' z) z<|yy (f' 3 sc3 z z z) z<|yy (at' z z) z<|nx<|L' hr z (fun bi hr=>?_) (fun bi hr=>?_)
   .refine A'<|yy (bw' z) z<|yy (f' 2 sc3 z z z) z<|yy (bn' z) z<|aD' 6 ([i' c.next,.slice s p.p.length q]).toArray z sz3 z z z (show 0<2 by decide) z z<|v'<|as' ⟨(Zb.mk c.next p.p),s,q,G0⟩ ⟨mr,B,hr⟩ (f5 z z z z z) (w5 z z z z z)
   refine q'<|as' ⟨(Zb.mk p.id p.p),s,q,G0⟩ ⟨mr,B,hr⟩ (f5 z z z z z) (w5 z z z z z)
  rintro⟨x,A,C,D⟩ ⟨y,S,hr⟩
  refine sr<|yy (bw' z) z<|yy (f' 2 sc3 z z z) z<|yy (bn' z) z<|yy (f' 6 sc3 z z z) z<|yy (W' z z) z<|yy (eo' z z) z<|yy (bw' z) z<|aD' 5 ([.slice e c.vars.length d,.slice n c.eqs.length o,.slice k c.neqs.length h,i' (if c.next<(i64.wrap (x.id+1)) then (i64.wrap (x.id+1)) else c.next)]).toArray z sz3 z z z (show 3<4 by decide) z z<|nr<|yy (dE' z) z<|yy (f' 3 sc4 z z z) z<|nx<|aL' hr z (fun be hr=>?_) (fun be hr=>?_)
  .refine A'<|yy (bb' z) z<|yy (f' 2 bq' z z z) z<|yy (o' 6 bO' z z z) z ?_
   obtain⟨bf,aV,hr⟩:=hr
   refine P' z z (t' E103 z) (ee' aV) z (⟨(f.mono y),S⟩) (fun bv bI P ab=>?_)
   obtain⟨aB,aW,rfl,aF⟩:=ab
   refine yy (bb' z) z<|aD' 5 ([.slice e c.vars.length d,.slice n c.eqs.length o,.slice aB bf.length aW,i' (if c.next<(i64.wrap (x.id+1)) then (i64.wrap (x.id+1)) else c.next)]).toArray z sz29 z z z (show 2<4 by decide) z z<|v'<|I'<|g'<|sr<|yy (o' 5 au' z z z) z<|s' 4 z aV' z z z z z (List.all_eq_true.1 z)<|nx<|j' ?_
   obtain rfl:_=r:=hr
   exact k' z (ad' (i:=4) au' z z z) ⟨_,_,_,_,_,_,z,(m.mono (mx y P)),(g.mono (mx y P)),aF⟩
  refine A'<|yy (aY' z) z<|yy (f' 2 bq' z z z) z<|yy (o' 6 bO' z z z) z ?_
  obtain⟨a7,ay,hr⟩:=hr
  refine P' z z (t' E103 z) (ee' ay) z (⟨(g.mono y),S⟩) (fun bz bM U X=>?_)
  obtain⟨aT,aN,rfl,aL⟩:=X
  refine yy (aY' z) z<|aD' 5 ([.slice e c.vars.length d,.slice aT a7.length aN,.slice k c.neqs.length h,i' (if c.next<(i64.wrap (x.id+1)) then (i64.wrap (x.id+1)) else c.next)]).toArray z sz29 z z z (show 1<4 by decide) z z<|v'<|I'<|g'<|sr<|yy (o' 5 au' z z z) z<|s' 4 z aV' z z z z z (List.all_eq_true.1 z)<|nx<|j' ?_
  obtain rfl:_=r:=hr
  exact k' z (ad' (i:=4) au' z z z) ⟨_,_,_,_,_,_,z,(m.mono (mx y U)),aL,(f.mono (mx y U))⟩
 refine sr<|yy (at' z z) z<|sx0 z z<|L' hr z (fun bd hr=>?_) (fun bd hr=>?_)
 .refine sr<|yy (aY' z) z<|yy (f' 2 bq' z z z) z<|yy (aS' z) z<|yy (f' 3 sc3 z z z) z ?_
  obtain⟨aw,aU,hr⟩:=hr
  refine P' z z (t' E104 z) (eJ' aU) z (g) (fun bu bG T Z=>?_)
  obtain⟨ae,ah,rfl,aE⟩:=Z
  refine yy (aY' z) z<|aD' 5 ([.slice e c.vars.length d,.slice ae aw.length ah,.slice k c.neqs.length h,i' c.next]).toArray z sz29 z z z (show 1<4 by decide) z z<|nx<|A'<|yy (bb' z) z<|yy (f' 2 bq' z z z) z<|yy (aS' z) z<|yy (f' 3 sc3 z z z) z ?_
  obtain⟨a8,az,hr⟩:=hr
  refine P' z z (t' E104 z) (eJ' az) z ((f.mono T)) (fun bs bP M W=>?_)
  obtain⟨aS,aC,rfl,aY⟩:=W
  refine yy (bb' z) z<|aD' 5 ([.slice e c.vars.length d,.slice ae aw.length ah,.slice aS a8.length aC,i' c.next]).toArray z sz29 z z z (show 2<4 by decide) z z<|v'<|I'<|g'<|sr<|yy (o' 5 au' z z z) z<|s' 4 z aV' z z z z z (List.all_eq_true.1 z)<|nx<|j' ?_
  obtain rfl:_=r:=hr
  exact k' z (ad' (i:=4) au' z z z) ⟨_,_,_,_,_,_,z,(m.mono (mx T M)),(aE.mono M),aY⟩
 refine sr<|yy (at' z z) z<|sx0 z z<|L' hr z (fun bk hr=>?_) (fun bk hr=>?_)
 .refine sr<|mv z z<|yy (bf' z z) z<|nx<|L' hr z (fun bh hr=>?_) (fun bh hr=>?_)
  .refine A'<|yy (aY' z) z<|yy (f' 2 bq' z z z) z<|yy (o' 6 bO' z z z) z ?_
   obtain⟨bj,aX,hr⟩:=hr
   refine P' z z (t' E103 z) (ee' aX) z (⟨g,B⟩) (fun bx bQ O ac=>?_)
   obtain⟨aR,aA,rfl,aM⟩:=ac
   refine yy (aY' z) z<|aD' 5 ([.slice e c.vars.length d,.slice aR bj.length aA,.slice k c.neqs.length h,i' c.next]).toArray z sz29 z z z (show 1<4 by decide) z z<|v'<|I'<|g'<|sr<|yy (o' 5 au' z z z) z<|s' 4 z aV' z z z z z (List.all_eq_true.1 z)<|nx<|j' ?_
   obtain rfl:_=r:=hr
   exact k' z (ad' (i:=4) au' z z z) ⟨_,_,_,_,_,_,z,(m.mono O),aM,(f.mono O)⟩
  refine A'<|yy (bb' z) z<|yy (f' 2 bq' z z z) z<|yy (o' 6 bO' z z z) z ?_
  obtain⟨a6,a2,hr⟩:=hr
  refine P' z z (t' E103 z) (ee' a2) z (⟨f,B⟩) (fun br bH V Y=>?_)
  obtain⟨a3,aP,rfl,a1⟩:=Y
  refine yy (bb' z) z<|aD' 5 ([.slice e c.vars.length d,.slice n c.eqs.length o,.slice a3 a6.length aP,i' c.next]).toArray z sz29 z z z (show 2<4 by decide) z z<|v'<|I'<|g'<|sr<|yy (o' 5 au' z z z) z<|s' 4 z aV' z z z z z (List.all_eq_true.1 z)<|nx<|j' ?_
  obtain rfl:_=r:=hr
  exact k' z (ad' (i:=4) au' z z z) ⟨_,_,_,_,_,_,z,(m.mono V),(g.mono V),a1⟩
 refine sr<|yy (at' z z) z<|sx0 z z<|L' hr z (fun a9 hr=>?_) (fun a9 hr=>?_)
 .refine sr<|yy (aY' z) z<|yy (f' 2 bq' z z z) z<|yy (aS' z) z<|yy (f' 3 sc3 z z z) z ?_
  obtain⟨ag,aH,hr⟩:=hr
  refine P' z z (t' E104 z) (eJ' aH) z (g) (fun bC bL t aa=>?_)
  obtain⟨L,I,rfl,aI⟩:=aa
  refine yy (aY' z) z<|aD' 5 ([.slice e c.vars.length d,.slice L ag.length I,.slice k c.neqs.length h,i' c.next]).toArray z sz29 z z z (show 1<4 by decide) z z<|nr<|yy (bb' z) z<|yy (f' 2 bq' z z z) z<|yy (aS' z) z<|yy (f' 3 sc3 z z z) z ?_
  obtain⟨af,au,hr⟩:=hr
  refine P' z z (t' E104 z) (eJ' au) z ((f.mono t)) (fun bp bN u H=>?_)
  obtain⟨R,Q,rfl,ai⟩:=H
  refine yy (bb' z) z<|aD' 5 ([.slice e c.vars.length d,.slice L ag.length I,.slice R af.length Q,i' c.next]).toArray z sz29 z z z (show 2<4 by decide) z z<|nr<|mv z z<|yy (bf' z z) z<|nx<|L' hr z (fun bg hr=>?_) (fun bg hr=>?_)
  .refine ah' [ff,ff,ff,ff,ff,ff,ff] mix (by kernel_rfl) fun hb=>cn (fun _ l=>bb' z)<|cn (fun _ l=>f' 2 bq' z z z)<|cn (fun _ l=>aY' z)<|cn (fun _ l=>f' 2 bq' z z z)<|cn (fun _ l=>e' z) ?_
   obtain⟨x1,ax,hr⟩:=hr
   refine cn (fun _ l=>V' y' aT' ((g.mono (mx t u)).mono l) z z ax) ?_
   obtain⟨bB,bD,ba,a0⟩:=bp' (J' (af' g ax) (mx t u))
   refine cn (fun _ l=>aC' _ bO' z z (fun j v hv=>l _ _ _ (ba j v hv)))<|T' hb ?_
   obtain⟨aO,aq,hr⟩:=hr
   refine P' z z (t' E103 z) (ee' aq) z (⟨(f.mono (mx t u)),a0⟩) (fun bq bt E K=>?_)
   obtain⟨am,ar,rfl,ao⟩:=K
   refine yy (bb' z) z<|aD' 5 ([.slice e c.vars.length d,.slice L ag.length I,.slice am aO.length ar,i' c.next]).toArray z sz29 z z z (show 2<4 by decide) z z<|v'<|ar'<|I'<|g'<|sr<|yy (o' 5 au' z z z) z<|s' 4 z aV' z z z z z (List.all_eq_true.1 z)<|nx<|j' ?_
   obtain rfl:_=r:=hr
   exact k' z (ad' (i:=4) au' z z z) ⟨_,_,_,_,_,_,z,(m.mono (mx (mx t u) E)),(aI.mono (mx u E)),ao⟩
  refine ah' [ff,ff,ff,ff,ff,ff,ff] mix (by kernel_rfl) fun hb=>cn (fun _ l=>aY' z)<|cn (fun _ l=>f' 2 bq' z z z)<|cn (fun _ l=>bb' z)<|cn (fun _ l=>f' 2 bq' z z z)<|cn (fun _ l=>e' z) ?_
  obtain⟨x2,av,hr⟩:=hr
  refine cn (fun _ l=>V' y' aT' ((f.mono (mx t u)).mono l) z z av) ?_
  obtain⟨bA,bw,a4,aG⟩:=bp' (J' (af' f av) (mx t u))
  refine cn (fun _ l=>aC' _ bO' z z (fun j v hv=>l _ _ _ (a4 j v hv)))<|T' hb ?_
  obtain⟨aD,al,hr⟩:=hr
  refine P' z z (t' E103 z) (ee' al) z (⟨(g.mono (mx t u)),aG⟩) (fun bo bE F J=>?_)
  obtain⟨aj,ak,rfl,an⟩:=J
  refine yy (aY' z) z<|aD' 5 ([.slice e c.vars.length d,.slice aj aD.length ak,.slice R af.length Q,i' c.next]).toArray z sz29 z z z (show 1<4 by decide) z z<|v'<|ar'<|I'<|g'<|sr<|yy (o' 5 au' z z z) z<|s' 4 z aV' z z z z z (List.all_eq_true.1 z)<|nx<|j' ?_
  obtain rfl:_=r:=hr
  exact k' z (ad' (i:=4) au' z z z) ⟨_,_,_,_,_,_,z,(m.mono (mx (mx t u) F)),an,(ai.mono F)⟩
 refine q'<|I'<|g'<|sr<|yy (o' 5 au' z z z) z<|s' 4 z aV' z z z z z (List.all_eq_true.1 z)<|nx<|j' ?_
 obtain rfl:_=r:=hr
 exact k' z (ad' (i:=4) au' z z z) ⟨_,_,_,_,_,_,z,m,g,f⟩
end Go.Proofs.YtnjiloaolgjedaaGreat

