/- The law VersionCommits holds for every input: a part of its proof (what the code does, plain models, and what they return). No condition. -/
import Derived.Test.YtnjiloaolgjedaaGreatXC14e
set_option linter.unusedVariables false
set_option linter.unusedSimpArgs false
namespace Go.Proofs.YtnjiloaolgjedaaGreat
open Go.IntKind (i8 i16 i32 i64 u8 u16 u32 u64)
open Go.Proofs.Tryz
open Go Go.EL Go.RowKit Go.Proofs
theorem cX'{g m l j k d f t s r}(hr:(ZaL g).Ret r):Ctr prog 18 #[.agg ((v34' g m l j k d f t s)).toArray] (fun G=>y34' G m l j k d f t s g) (fun G v=>v = .bool r):=by
 refine E' (args:=[_]) (N:=102) func18 z z z (fun w0 G0 bC aN=>?_)
 obtain⟨P,R,Q,D⟩:=aN
 refine sr<|af' 1 z z z fun b1=>sx0 z z<|aM' (fun (H:Mem)=>match H with|W=>[(1,pt0 b1)]) (fun (H:Mem)=>match H with|W=>Mem.le G0 W/\(ZeR g).Ret r) (fun (H:Mem)=>match H with|W=>St w0 G0 W [(1,bk0 b1 (v34' g m l j k d f t s) 34)]) ?_ ?_
 .refine sr<|yy (cJ' z) z<|yy (aI' ((v31' g.root m l j k d f)).toArray 1 at' z z z (aU' ([]) ((v31' g.root m l j k d f)) ([.slice t g.v.length s]))) z ?_
  obtain⟨bs,aM,hr⟩:=hr
  refine F' z z (t' E44 z) (eo' aM) z (⟨P,R,Q⟩) ?_
  cases bs
  .refine yy (al' z) z<|mv z z<|sn4 z<|yy (h' z z) z<|mv z z<|sn4 z<|yy (h' z z) z<|nx<|U' z<|sr<|sx0 z z<|j'<|a' (k0' hr z z)
  refine yy (al' z) z<|mv z z<|gy z z (aj' z) z<|gy z z (f' 1 bc' z z z) z<|gy z z (M' D' D z) z<|ad' hr (v' z z) (ai' z z) z (fun a2 hr=>?_) (fun a2 hr=>?_)
  .refine yy (l' z z) z<|mv z z<|sn4 z<|yy (h' z z) z<|nx<|U' z<|sr<|sx0 z z<|j'<|a' (k0' hr z z)
  refine yy (l' z z) z<|mv z z<|gy z z (aj' z) z<|gy z z (f' 1 bc' z z z) z<|gy z z (M' D' D z) z<|gy z z (bh' z z) z<|yy (l' z z) z<|nx<|L' hr z (fun bm hr=>?_) (fun bm hr=>?_)
  .refine sr<|sx0 z z<|j'<|a' (k0' hr z z)
  refine q'<|ar' G0 ⟨mr,hr⟩ (f1 z) (w1 z)
 rintro W ⟨M,hr⟩
 refine sr<|yy (aj' z) z<|yy (f' 1 bc' z z z) z<|yy (M' D' (D.mono M) z) z ?_
 obtain⟨bb,hr⟩:=hr
 refine dS' (r:=aR') (e:=31) (n:=(g.v.length:Int)) (zx:=(Za.mk [] [] [] 0)) 4028 z z cI' el31 z (by decide) (by decide) ⟨[.slice none 0 0],[.slice none 0 0,.slice none 0 0,i' 0],z,⟨_,z,(W' _ _)⟩,⟨[.slice none 0 0],[.slice none 0 0,i' 0],z,⟨_,z,(W' _ _)⟩,⟨[.slice none 0 0],[i' 0],z,⟨_,z,(W' _ _)⟩,z⟩⟩⟩ z z bb fun p1 aW a1=>sx0 z z<|n'<|sr<|yy (aj' z) z<|yy (f' 1 bc' z z z) z<|yy (M' D' (D.mono M) z) z<|mv z z<|nx<|am' (fun (H:Mem)=>match H with|ad=>[]) (fun (H:Mem)=>match H with|ad=>Mem.le W ad/\(Zcn).Ret r) (fun (H:Mem)=>match H with|ad=>St w0 G0 ad []) ?_ ?_
 .refine B' ?_
  let ah:(Bool⊕Unit)->Prop:=fun oo=>((fun ov=>match ov with | .inl rv1=>Cq.ret rv1 | .inr ()=>Zcn:(Bool⊕Unit)->Cq Bool) oo).wp (fun a=>a=r)
  replace hr:(Cq.loop _ _).wp ah:=hr
  refine an' (Φ:=ah) (fun (⟨F,A,p,U⟩:(List Za)×Option Ow×Int×Mem)=>((F,p):(List Za)×Int)) (fun ⟨F,A,p,U⟩=>[(1,pt0 b1),(3,.slice p1 (g.v.length:Int).toNat ((g.v.length:Int).toNat)),(30,.slice t g.v.length s),(31,i' (g.v.length:Int)),(32,i' p)]) (fun ⟨F,A,p,U⟩=>Mem.le W U/\RowR aR' 31 U (.slice p1 (g.v.length:Int).toNat ((g.v.length:Int).toNat)) F A) (fun ⟨F,A,p,U⟩=>St w0 G0 U [(1,bk0 b1 (v34' g m l j k d f t s) 34),(4028,A)]) ⟨(List.replicate (g.v.length:Int).toNat (Za.mk [] [] [] 0)),aW,0,W⟩ hr (f5 z z z z z) ⟨mr,a1⟩ (w2 z z) ?_
  .intro bj H hx hr
   obtain⟨F,A,p,U⟩:=H
   obtain⟨B,I⟩:=hx
   refine sr<|yy (ai' z z) z<|nx<|n'<|L' hr z (fun bl hr=>?_) (fun bl hr=>?_)
   .refine q'<|g'<|n'<|B'<|sr<|mv z z ?_
    obtain⟨x1,aL,hr⟩:=hr
    refine yy (T' D' bR' (D.mono (mt M B)) z z aL) z ?_
    obtain⟨aT,aQ,ba,ai⟩:=cO' (I' (ae' D aL) (mt M B))
    refine yy (aA' _ ag63 z z ba) z<|V' 5 z z63 z fun b2=>sg z z<|s' 5 z bR' z z z z z (List.all_eq_true.1 z)<|nx<|n'<|sr<|mv z z<|yy (au' z z) z<|nx<|L' hr z (fun bf hr=>?_) (fun bf hr=>?_)
    .refine n'<|sr<|yy (bT' z) z<|yy (f' 5 sc3 z z z) z<|ad' hr z (aw' z z) z (fun a5 hr=>?_) (fun a5 hr=>?_)
     .refine mv z z<|sn3 z<|yy (h' z z) z<|mv z z<|sn4 z<|yy (h' z z) z<|nx<|U' z<|sr<|sx0 z z<|j'<|a'<|a'<|m'<|a'<|a'<|m'<|ag'<|a' (k0' hr z z)
     refine mv z z<|gy z z (cB' z) z<|gy z z (f' 5 sc3 z z z) z<|ad' hr (v' z z) (aw' z z) z (fun bo hr=>?_) (fun bo hr=>?_)
     .refine yy (l' z z) z<|mv z z<|sn4 z<|yy (h' z z) z<|nx<|U' z<|sr<|sx0 z z<|j'<|a'<|a'<|m'<|a'<|a'<|m'<|ag'<|a' (k0' hr z z)
     refine yy (l' z z) z<|mv z z<|gy z z (bI' z) z<|gy z z (f' 5 sc44 z z z) z<|gy z z (M' as' ai z) z<|gy z z (bh' z z) z<|yy (l' z z) z<|nx<|L' hr z (fun a4 hr=>?_) (fun a4 hr=>?_)
     .refine sr<|sx0 z z<|j'<|a'<|a'<|m'<|a'<|a'<|m'<|ag'<|a' (k0' hr z z)
     refine q'<|g'<|sr<|mv z z<|yy (cJ' z) z<|yy (aI' ((v31' g.root m l j k d f)).toArray 1 at' z z z (aU' ([]) ((v31' g.root m l j k d f)) ([.slice t g.v.length s]))) z ?_
     obtain⟨x2,aK,hr⟩:=hr
     refine yy (aP' cI' aV' I z z aK) z<|bx' (r:=aR') (e:=31) (cs':=(v31' g.root m l j k d f)) (i:=0) (z':=g.root) 4028 z aV' z I z z z z ⟨[.slice m g.root.vars.length l],[.slice j g.root.eqs.length k,.slice d g.root.neqs.length f,i' g.root.next],z,⟨_,z,(P.mono (mt M B))⟩,⟨[.slice j g.root.eqs.length k],[.slice d g.root.neqs.length f,i' g.root.next],z,⟨_,z,(R.mono (mt M B))⟩,⟨[.slice d g.root.neqs.length f],[i' g.root.next],z,⟨_,z,(Q.mono (mt M B))⟩,z⟩⟩⟩ aK fun bi aU=>nx<|ao'<|r'<|O'<|g'<|A'<|yy (X' z z) z<|mv z z<|u'<|Y' ⟨(F.set (0:Int).toNat g.root),bi,i64.wrap (p+1),U⟩ hr ⟨B,aU⟩ (f5 z z z z z) (w2 z z)
    refine q'<|g'<|aM' (fun (H:Mem)=>match H with|ab=>[(1,pt0 b1),(3,.slice p1 (g.v.length:Int).toNat ((g.v.length:Int).toNat)),(4,i' p),(5,pt0 b2),(30,.slice t g.v.length s),(31,i' (g.v.length:Int)),(32,i' p)]) (fun (H:Mem)=>match H with|ab=>Mem.le U ab/\(ZeQ F p x1).wp (Out bj ah)) (fun (H:Mem)=>match H with|ab=>St w0 G0 ab [(1,bk0 b1 (v34' g m l j k d f t s) 34),(5,bk0 b2 (v63' x1 aT aQ) 63),(4028,A)]) ?_ ?_
    .refine sr<|yy (bT' z) z<|yy (f' 5 sc3 z z z) z<|ad' hr z (ai' z z) z (fun bh hr=>?_) (fun bh hr=>?_)
     .refine mv z z<|sn4 z<|yy (h' z z) z<|mv z z<|sn3 z<|yy (h' z z) z<|mv z z<|sn4 z<|yy (h' z z) z<|mv z z<|sn4 z<|yy (h' z z) z<|nx<|U' z<|sr<|sx0 z z<|j'<|a'<|m'<|a'<|a'<|m'<|ag'<|a' (k0' hr z z)
     refine mv z z<|gy z z (bT' z) z<|gy z z (f' 5 sc3 z z z) z<|gy z z (e' z) z<|ad' hr (v' z z) (bf' z z) z (fun bd hr=>?_) (fun bd hr=>?_)
     .refine yy (l' z z) z<|mv z z<|sn3 z<|yy (h' z z) z<|mv z z<|sn4 z<|yy (h' z z) z<|mv z z<|sn4 z<|yy (h' z z) z<|nx<|U' z<|sr<|sx0 z z<|j'<|a'<|m'<|a'<|a'<|m'<|ag'<|a' (k0' hr z z)
     refine yy (l' z z) z<|mv z z<|gy z z (cB' z) z<|gy z z (f' 5 sc3 z z z) z<|ad' hr (v' z z) (ai' z z) z (fun a3 hr=>?_) (fun a3 hr=>?_)
     .refine yy (l' z z) z<|mv z z<|sn4 z<|yy (h' z z) z<|mv z z<|sn4 z<|yy (h' z z) z<|nx<|U' z<|sr<|sx0 z z<|j'<|a'<|m'<|a'<|a'<|m'<|ag'<|a' (k0' hr z z)
     refine yy (l' z z) z<|mv z z<|gy z z (cB' z) z<|gy z z (f' 5 sc3 z z z) z<|gy z z (e' z) z<|ad' hr (v' z z) (bf' z z) z (fun bq hr=>?_) (fun bq hr=>?_)
     .refine yy (l' z z) z<|mv z z<|sn4 z<|yy (h' z z) z<|nx<|U' z<|sr<|sx0 z z<|j'<|a'<|m'<|a'<|a'<|m'<|ag'<|a' (k0' hr z z)
     refine yy (l' z z) z<|mv z z<|gy z z (bI' z) z<|gy z z (f' 5 sc44 z z z) z<|gy z z (M' as' ai z) z<|gy z z (bh' z z) z<|yy (l' z z) z<|nx<|L' hr z (fun bg hr=>?_) (fun bg hr=>?_)
     .refine sr<|sx0 z z<|j'<|a'<|m'<|a'<|a'<|m'<|ag'<|a' (k0' hr z z)
     refine q'<|ar' U ⟨mr,hr⟩ (f7 z z z z z z z) (w3 z z z)
    rintro ab ⟨E,hr⟩
    refine n'<|ah' [ff,ff,ff,ff,ff,ff,ff,ff,ff,ff,tt,tt,ff] mix (by kernel_rfl) fun hb=>cn (fun _ o=>e' z)<|cn (fun _ o=>bT' z)<|cn (fun _ o=>f' 5 sc3 z z z) ?_
    obtain⟨x3,aJ,hr⟩:=hr
    refine cn (fun _ o=>aP' cI' aV' ((I.mono E).mono o) z z aJ) ?_
    obtain⟨aZ,a0,a8,bk,aX,aY,bp,ao,aA,ap⟩:=cY' (AtK.mono (cz' I aJ) E)
    refine cn (fun _ o=>ew' _ at' ((I.mono E).mono o) (key:=4028) z z z (by decide) bp)<|cn (fun _ o=>bI' z)<|cn (fun _ o=>f' 5 sc44 z z z) ?_
    obtain⟨q,aS,hr⟩:=hr
    refine aX' (post:=w31u' q) (fun _=>z) (fun _ _=>t' E39 z) (eV' aS) z (fun G' o=>⟨(ao.mono o),(aA.mono o),(ap.mono o),((ai.mono E).mono o)⟩) (fun v G1 G2 o h=>?_) ?_
    .obtain⟨O,J,S,T,L,K,rfl,x,C,y⟩:=h
     exact⟨_,_,_,_,_,_,z,x.mono o,C.mono o,y.mono o⟩
    refine bm' (φ:=w31u' q) (fun _=>z) (fun v G1 G2 o h=>?_) (fun u G' o hu=>?_) ?_
    .obtain⟨p2,ag,p3,ae,p4,ac,rfl,Y,X,Z⟩:=h
     exact⟨_,_,_,_,_,_,z,Y.mono o,X.mono o,Z.mono o⟩
    .obtain⟨⟨O,J,S,T,L,K,aG,x,C,y⟩,_⟩:=(show (w31u' q) G'.m (u 91)/\True from hu)
     simp only[undFr,aG]
     exact⟨_,e' z,O,J,S,T,L,K,z,x,C,y⟩
    refine bm' (φ:=w31' q.1) (fun _=>z) (fun v G1 G2 o h=>?_) (fun u G' o hu=>?_) ?_
    .obtain⟨p5,aE,p6,am,p7,aa,rfl,ax,aB,aD⟩:=h
     exact⟨_,_,_,_,_,_,z,ax.mono o,aB.mono o,aD.mono o⟩
    .obtain⟨⟨p2,ag,p3,ae,p4,ac,V,Y,X,Z⟩,_,_⟩:=(show (w31u' q) G'.m (u 83)/\True/\True from hu)
     simp only[undFr,V]
     exact⟨_,y' z z,p2,ag,p3,ae,p4,ac,z,Y,X,Z⟩
    refine bv' (c:=i' q.2.1) (fun _=>z) (fun u G' o hu=>?_) ?_
    .obtain⟨_,⟨p2,ag,p3,ae,p4,ac,V,Y,X,Z⟩,_,_⟩:=(show True/\(w31u' q) G'.m (u 83)/\True/\True from hu)
     simp only[undFr,V]
     exact y' z z
    refine bv' (c:=i' q.2.2) (fun _=>z) (fun u G' o hu=>?_) ?_
    .obtain⟨_,⟨p2,ag,p3,ae,p4,ac,V,Y,X,Z⟩,_,_⟩:=(show True/\(w31u' q) G'.m (u 83)/\True/\True from hu)
     simp only[undFr,V]
     exact y' z z
    refine bE' (fun _=>z) z31<|cn' (fun bB bv bu bw X1 aj az au an ar=>?_)
    obtain⟨b3,rfl,aR⟩:=az
    obtain⟨p5,aE,p6,am,p7,aa,rfl,ax,aB,aD⟩:=au
    obtain⟨p2,ag,p3,ae,p4,ac,rfl,Y,X,Z⟩:=an
    obtain⟨O,J,S,T,L,K,rfl,x,C,y⟩:=ar
    refine cu' aR (cf' (show WL _ _ _ _ _ _ (St w0 G0 X1.m _) from ?_))
    refine s' 6 z aV' z z z z z (List.all_eq_true.1 z)<|sg z z<|sg z z<|u'<|aq'<|g'<|n'<|sr<|mv z z<|yy (aw' z z) z<|nx<|L' hr z (fun bc hr=>?_) (fun bc hr=>?_)
    .refine sr<|sx0 z z<|j'<|a'<|m'<|a'<|a'<|m'<|ag'<|a' (k0' hr z z)
    refine q'<|g'<|A'<|mv z z<|mv z z<|yy (o' 6 at' z z z) z ?_
    obtain⟨x4,aI,hr⟩:=hr
    refine yy (aP' cI' aV' (I.mono (mt E aj)) z z aI) z<|bx' (r:=aR') (e:=31) (cs':=(v31' q.1 p5 aE p6 am p7 aa)) (i:=p) (z':=q.1) 4028 z aV' z (I.mono (mt E aj)) z z z z ⟨[.slice p5 q.1.vars.length aE],[.slice p6 q.1.eqs.length am,.slice p7 q.1.neqs.length aa,i' q.1.next],z,⟨_,z,ax⟩,⟨[.slice p6 q.1.eqs.length am],[.slice p7 q.1.neqs.length aa,i' q.1.next],z,⟨_,z,aB⟩,⟨[.slice p7 q.1.neqs.length aa],[i' q.1.next],z,⟨_,z,aD⟩,z⟩⟩⟩ aI fun a6 aO=>u'<|J'<|g'<|A'<|yy (X' z z) z<|mv z z<|u'<|Y' ⟨(F.set p.toNat q.1),a6,i64.wrap (p+1),X1.m⟩ hr ⟨(mt (mt B E) aj),aO⟩ (f5 z z z z z) (w2 z z)
   refine ao'<|r'<|r'<|O'<|ap' U ⟨B,hr⟩ fn (wk ln)
 rintro ad ⟨bt,hr⟩
 refine g'<|sr<|sx0 z z<|j' (k0' hr z z)
theorem fG'{c r}(hr:(Zhg c).Ret r):Ctr prog 33 #[.string c] (fun G=>True) (wl' ab' r):=by
 refine E' (args:=[_]) (N:=6) func33 z z z fun k l f h=>sr<|sg z z<|nr<|mv z z<|yy (av' (vs:=#[(0,i' 1),(1,.string c)]) (v:=.agg ([i' 1,.string c,i' 0,i' 0,i' 0,.slice none 0 0,.bool false]).toArray) z z (fun _=>by kernel_rfl)) z<|bd' (e:=48) (r:=ab') (vs:=#[(0,.agg ([i' 1,.string c,i' 0,i' 0,i' 0,.slice none 0 0,.bool false]).toArray)]) (cs:=[i' 1,.string c,i' 0,i' 0,i' 0,.slice none 0 0,.bool false]++([])) ([(Zc.mk 1 c 0 0 0 [] false)]:List Zc) z z z z z (by decide) (fun _=>by kernel_rfl) ⟨[i' 1,.string c,i' 0,i' 0,i' 0,.slice none 0 0,.bool false],[],z,⟨[i' 1],[.string c,i' 0,i' 0,i' 0,.slice none 0 0,.bool false],z,z,⟨[.string c],[i' 0,i' 0,i' 0,.slice none 0 0,.bool false],z,z,⟨[i' 0],[i' 0,i' 0,.slice none 0 0,.bool false],z,z,⟨[i' 0],[i' 0,.slice none 0 0,.bool false],z,z,⟨[i' 0],[.slice none 0 0,.bool false],z,z,⟨[.slice none 0 0],[.bool false],z,⟨_,z,(W' _ _)⟩,z⟩⟩⟩⟩⟩⟩,z⟩ (key:=999) z (by rw[f]; rfl) fun j i g d=>sx0 z z<|j' ?_
 obtain rfl:_=r:=hr
 exact k' z z ⟨_,_,z,d⟩
theorem bJ'{j P h g e f c d n p r}(hr:(Zap j P).Ret r):Ctr prog 11 #[.agg ((v34' j h g e f c d n p)).toArray,i' P] (fun G=>y34' G h g e f c d n p j) (w31t' r):=by
 refine E' (args:=[_,_]) (N:=16) func11 z z z (fun w0 G0 A D=>?_)
 obtain⟨l,m,k,t⟩:=D
 refine sr<|af' 102202 z z z fun R=>V' 4 z z31 z fun b2=>sx0 z z<|n'<|sr<|yy (o' 102202 aG' z z z) z<|mv z z ?_
 obtain⟨W,F,hr⟩:=hr
 refine F' z z (t' E37 z) (Zbn _ _ _ _ _ _ _ _ _ _ _ F) z (⟨l,m,k,t⟩)<|yy (al' z) z<|nx<|aL' hr z (fun O hr=>?_) (fun O hr=>?_)
 .refine sr<|yy (av' (vs:=#[]) (v:=.agg ([.slice none 0 0,.slice none 0 0,.slice none 0 0,i' 0]).toArray) z z (fun _=>by kernel_rfl)) z<|s' 4 z aV' z z z z z (List.all_eq_true.1 z)<|sx0 z z<|j'<|a' ?_
  obtain rfl:_=r:=hr
  exact aE' z (aa' (i:=4) at' z z z) z ⟨_,_,_,_,_,_,z,(W' Rp.str _),(W' b' _),(W' b' _)⟩
 refine q'<|g'<|sr<|V' 102206 z z87 z fun U=>nr<|yy (bQ' z z) z<|aC' 102206 ([.func (.func 38) #[] #[pt0 R,pt0 U]]).toArray z sz87 z z z (by first|decide|simp) z z<|nx<|n'<|bG' 102202 z (by rw[A]; rfl) fun X o B V=>bG' 102206 z (by rw[A]; rfl) fun Z y H S=>A'<|yy (f' 102206 sc87 z z z) z<|mv z z ?_
 obtain⟨aa,J,hr⟩:=hr
 refine P' z z (di' E38 z z) (gb' j _ _ _ _ _ J) z ⟨(I' (ck' (r:=Za5) (cs:=(v34' j h g e f c d n p)) B z ⟨(v31' j.root h g e f c d),[.slice n j.v.length p],z,⟨[.slice h j.root.vars.length g],[.slice e j.root.eqs.length f,.slice c j.root.neqs.length d,i' j.root.next],z,⟨_,z,(l.mono o)⟩,⟨[.slice e j.root.eqs.length f],[.slice c j.root.neqs.length d,i' j.root.next],z,⟨_,z,(m.mono o)⟩,⟨[.slice c j.root.neqs.length d],[i' j.root.next],z,⟨_,z,(k.mono o)⟩,z⟩⟩⟩,⟨_,z,(t.mono o)⟩⟩) y),(H 0 _ z)⟩ (fun T Y Q x=>?_)
 obtain⟨I,K,M,L,C,E,rfl,s,u,q⟩:=x
 refine s' 4 z aV' z z z z z (List.all_eq_true.1 z)<|sx0 z z<|j' ?_
 obtain rfl:_=r:=hr
 exact aE' z (aa' (i:=4) at' z z z) z ⟨_,_,_,_,_,_,z,s,u,q⟩
theorem ea'{j c h r}(hr:(Zag j).Ret r):Ctr prog 47 #[.slice c j.length h] (fun G=>sl ab' G c h j) (wl' ab' r):=by
 refine E' (args:=[_]) (N:=8) func47 z z z (fun x B f k=>?_)
 have i:=k
 refine sr<|sx0 z z<|n'<|sr<|mv z z<|yy (Y0.eqlNil as' z z) z<|nx<|dD' (p:=c=none) z (fun g=>?_) (fun g=>?_)
 .replace hr:=hr.1 (SlR.Zje i g)
  refine sr<|sx0 z z<|j'<|a' ?_
  obtain rfl:_=r:=hr
  exact k' z z ⟨_,_,z,(W' ab' _)⟩
 replace hr:=hr.2
 refine q'<|g'<|sr<|bd' (e:=48) (r:=ab') (vs:=#[]) (cs:=[]) ([]:List Zc) z z z z z (by decide) (fun _=>by kernel_rfl) (z) (key:=999) z (by rw[f]; rfl) fun A u d m=>mv z z ?_
 obtain⟨l,hr⟩:=hr
 refine bW' (r:=ab') 2007 z z as' el48 z (by decide) z z m z (by rw[f]; rfl) dh' (i.mono d) l fun y v q t o n s=>sx0 z z<|j' ?_
 obtain rfl:_=r:=hr
 exact k' z z ⟨_,_,z,n⟩
theorem dM'{l c g r}(hr:(ZZ l).Ret r):CtrL prog 48 #[.slice c l.length g] [] (fun G=>sl Q' G c g l) (fun G L v=>∃ u A k,L=[(7000,k)]/\v = .slice u r.length A/\RowR Q' 63 G (.slice u r.length A) r k):=by
 refine bg' (args:=[_]) (N:=8) func48 z z z (fun t d x m=>?_)
 have h:=m
 refine sr<|sx0 z z<|n'<|sr<|mv z z<|yy (Y0.eqlNil D' z z) z<|nx<|dD' (p:=c=none) z (fun f=>?_) (fun f=>?_)
 .replace hr:=hr.1 (SlR.Zje h f)
  refine sr<|sx0 z z<|j'<|a' ?_
  obtain rfl:_=r:=hr
  refine aK' (S':=St t d d [(7000,none)]) (wk (lw ln))<|k' z z ⟨_,_,_,z,z,(RowR.nil (r:=Q') (e:=63))⟩
 replace hr:=hr.2
 refine q'<|g'<|sr<|WL.litT (e:=63) (r:=Q') (vs:=#[]) (cs:=[]) ([]:List Zh) 4005 z z z z z (by decide) (fun _=>by kernel_rfl) (z) fun E B s=>mv z z ?_
 obtain⟨q,hr⟩:=hr
 refine ct' (r:=Q') (e:=63) 4005 z z D' el63 z (by decide) z z s z h q fun D C n y=>sx0 z z<|j' ?_
 obtain rfl:_=r:=hr
 refine aK' (S':=St t d d [(7000,n)]) ?_ ?_
 .intro w o
  have o:=o.rekey (i:=4005) (j:=7000) z (by rw[x]; rfl)
  exact o.weaken (lc z ln)
 exact k' z z ⟨_,_,_,z,z,y⟩
theorem ce'{x B l1 j d k l g c L M au av r}(hr:(Z4 x B l1).Ret r):Ctr prog 20 #[.agg ((v34' x j d k l g c L M)).toArray,i' B,.slice au l1.length av] (fun G=>sl Rp.str G j d x.root.vars/\sl b' G k l x.root.eqs/\sl b' G g c x.root.neqs/\sl Q' G L M x.v/\sl ab' G au av l1) (w34u' r):=by
 refine E' (args:=[_,_,_]) (N:=62) func20 z z z (fun w0 G0 bm aR=>?_)
 obtain⟨E,H,D,U,am⟩:=aR
 refine sr<|af' 3 z z z fun b1=>V' 6 z z34 z fun b2=>sg z z<|sg z z<|nr<|yy (o' 3 aG' z z z) z<|mv z z ?_
 obtain⟨aN,aU,hr⟩:=hr
 refine P' z z (t' E11 z) (bJ' aU) z (⟨E,H,D,U⟩) (fun be aP A ai=>?_)
 obtain⟨aa,W,ab,ac,Z,Y,rfl,V,ad,X⟩:=ai
 refine mv z z<|yy (y' z z) z<|yy (y' z z) z<|V' 9 z z31 z fun b3=>s' 9 z aV' z z z z z (List.all_eq_true.1 z)<|sx0 z z<|n'<|sr<|mv z z<|yy (aw' z z) z<|nx<|L' hr z (fun a6 hr=>?_) (fun a6 hr=>?_)
 .refine sr<|yy (av' (vs:=#[]) (v:=.agg ([.slice none 0 0,.slice none 0 0,.slice none 0 0,i' 0,.slice none 0 0]).toArray) z z (fun _=>by kernel_rfl)) z<|mv z z<|s' 6 z bH' z z z z z (List.all_eq_true.1 z)<|sg z z<|sx0 z z<|j'<|a' ?_
  obtain rfl:_=r:=hr
  exact cW' z (aa' (i:=6) aG' z z z) z z ⟨_,_,_,_,_,_,_,_,z,(W' Rp.str _),(W' b' _),(W' b' _),(W' Q' _)⟩
 refine q'<|g'<|aM' (fun (⟨T,p,o,s,q,n,m,Q,P,R⟩:Zf×Option Addr×Nat×Option Addr×Nat×Option Addr×Nat×Option Addr×Nat×Mem)=>[(1,i' B),(2,.slice au l1.length av),(3,pt0 b1),(6,pt0 b2),(9,pt0 b3)]) (fun ⟨T,p,o,s,q,n,m,Q,P,R⟩=>Mem.le aP R/\sl Rp.str R p o T.root.vars/\sl b' R s q T.root.eqs/\sl b' R n m T.root.neqs/\sl Q' R Q P T.v/\(Zd0 x B l1 aN).Ret r) (fun ⟨T,p,o,s,q,n,m,Q,P,R⟩=>St w0 G0 R [(3,bk0 b1 (v34' x j d k l g c L M) 34),(6,bk0 b2 (v34' T p o s q n m Q P) 34),(9,bk0 b3 (v31' aN.1 aa W ab ac Z Y) 31)]) ?_ ?_
 .refine sr<|yy (aj' z) z<|yy (f' 3 bc' z z z) z<|yy (M' D' (U.mono A) z) z<|ad' hr z (bf' z z) z (fun a1 hr=>?_) (fun a1 hr=>?_)
  .refine mv z z<|sn3 z<|yy (h' z z) z<|nx<|U' z<|sr<|yy (av' (vs:=#[]) (v:=.agg ([.slice none 0 0,.slice none 0 0,.slice none 0 0,i' 0,.slice none 0 0]).toArray) z z (fun _=>by kernel_rfl)) z<|s' 6 z bH' z z z z z (List.all_eq_true.1 z)<|sg z z<|sx0 z z<|j'<|a' ?_
   obtain rfl:_=r:=hr
   exact cW' z (aa' (i:=6) aG' z z z) z z ⟨_,_,_,_,_,_,_,_,z,(W' Rp.str _),(W' b' _),(W' b' _),(W' Q' _)⟩
  refine mv z z<|gy z z (e' z) z<|gy z z (M' as' (am.mono A) z) z<|gy z z (bh' z z) z<|yy (l' z z) z<|nx<|L' hr z (fun a0 hr=>?_) (fun a0 hr=>?_)
  .refine sr<|yy (av' (vs:=#[]) (v:=.agg ([.slice none 0 0,.slice none 0 0,.slice none 0 0,i' 0,.slice none 0 0]).toArray) z z (fun _=>by kernel_rfl)) z<|s' 6 z bH' z z z z z (List.all_eq_true.1 z)<|sg z z<|sx0 z z<|j'<|a' ?_
   obtain rfl:_=r:=hr
   exact cW' z (aa' (i:=6) aG' z z z) z z ⟨_,_,_,_,_,_,_,_,z,(W' Rp.str _),(W' b' _),(W' b' _),(W' Q' _)⟩
  refine q'<|ar' ⟨(Zf.mk (Za.mk [] [] [] 0) []),none,0,none,0,none,0,none,0,aP⟩ ⟨mr,(W' _ _),(W' _ _),(W' _ _),(W' _ _),hr⟩ (f5 z z z z z) (w3 z z z)
 rintro⟨T,p,o,s,q,n,m,Q,P,R⟩ ⟨t,an,az,ao,ba,hr⟩
 refine n'<|sr<|yy (o' 9 at' z z z) z<|mv z z ?_
 obtain⟨bk,aV,hr⟩:=hr
 refine P' z z (t' E39 z) (eV' aV) z (⟨(V.mono t),(ad.mono t),(X.mono t),(am.mono (mt A t))⟩) (fun bb bl F ag=>?_)
 obtain⟨aH,aE,aL,aM,aC,aB,rfl,aI,aO,aA⟩:=ag
 refine mv z z<|yy (y' z z) z<|yy (y' z z) z<|yy (y' z z) z<|V' 11 z z31 z fun b4=>s' 11 z aV' z z z z z (List.all_eq_true.1 z)<|sg z z<|sg z z<|nr<|mv z z<|yy (aw' z z) z<|nx<|L' hr z (fun a4 hr=>?_) (fun a4 hr=>?_)
 .refine sr<|yy (av' (vs:=#[]) (v:=.agg ([.slice none 0 0,.slice none 0 0,.slice none 0 0,i' 0,.slice none 0 0]).toArray) z z (fun _=>by kernel_rfl)) z<|mv z z<|s' 6 z bH' z z z z z (List.all_eq_true.1 z)<|sg z z<|sx0 z z<|j'<|a' ?_
  obtain rfl:_=r:=hr
  exact cW' z (aa' (i:=6) aG' z z z) z z ⟨_,_,_,_,_,_,_,_,z,(W' Rp.str _),(W' b' _),(W' b' _),(W' Q' _)⟩
 refine q'<|g'<|sr<|mv z z<|mv z z ?_
 obtain⟨y,aX,hr⟩:=hr
 refine P' z z (t' E47 z) (ea' aX) z ((am.mono (mt (mt A t) F))) (fun bc bn O al=>?_)
 obtain⟨I,K,rfl,aS⟩:=al
 refine yy (av' (vs:=#[(0,i' B),(1,i' (-1)),(2,.slice I y.length K)]) (v:=.agg ([i' B,i' (-1),.slice I y.length K]).toArray) z z (fun _=>by kernel_rfl)) z<|V' 14 z z63 z fun b5=>s' 14 z bR' z z z z z (List.all_eq_true.1 z)<|nx<|n'<|WC.drawnB [(3,bk0 b1 (v34' x j d k l g c L M) 34)] (lc z ln) [ff,ff,ff,ff,ff,ff,ff,ff,ff,tt,tt,tt] mix (by kernel_rfl) fun hb=>cn (fun _ C=>cJ' z)<|cn (fun _ C=>aI' ((v31' x.root j d k l g c)).toArray 3 at' z z z (aU' ([]) ((v31' x.root j d k l g c)) ([.slice L x.v.length M])))<|cn (fun _ C=>aj' z)<|cn (fun _ C=>f' 3 bc' z z z) ?_
 obtain⟨S,aQ,hr⟩:=hr
 refine Chain.callOwn (f:=48) (r:=Q') (e:=63) (xs:=S) (fun _=>z) (fun u G' C hu=>?_) ?_
 .exact⟨_,_,_,fun _=>t' E48 z,dM' aQ,z,((U.mono (mt (mt (mt A t) F) O)).mono C)⟩
 refine cu (fun _ _ C=>o' 14 ag63 z z z)<|eE' (r:=Q') (e:=63) ([(Zh.mk B (-1) y)]:List Zh) (fun _=>z) z (by decide) (fun u G' C hu=>?_) ?_
 .exact⟨#[(0,.agg ([i' B,i' (-1),.slice I y.length K]).toArray)],[i' B,i' (-1),.slice I y.length K]++([]),z,z,fun _=>by kernel_rfl,⟨[i' B,i' (-1),.slice I y.length K],[],z,⟨[i' B],[i' (-1),.slice I y.length K],z,z,⟨[i' (-1)],[.slice I y.length K],z,z,⟨_,z,(aS.mono C)⟩⟩⟩,z⟩⟩
 obtain⟨aT,hr⟩:=hr
 refine bY' (r:=Q') (e:=63) (kk:=54) (xs:=S) [(Zh.mk B (-1) y)] (fun _=>z) z (by kernel_rfl) (by kernel_rfl) D' el63 z (by decide) aT (fun u G' C hu=>?_) ?_
 .obtain⟨⟨p1,aq,aJ,aK⟩,aG,_⟩:=(show (fun G v=>∃ p1 aq,v = .slice p1 1 1/\SlRd Q' G (.slice p1 1 1) aq [(Zh.mk B (-1) y)]) G'.m (u 56)/\(RowX Q' 63 54 S) (u 54) G'/\True from hu)
  exact⟨u 54,.slice p1 1 1,aG,z,(by simp only[undFr,eatO,List.map_cons,List.map_nil,aJ] <;> rfl),aK⟩
 refine Chain.buildEat (r:=Q') (e:=63) (kk:=57) (xs:=(S++[(Zh.mk B (-1) y)])) (φ:=fun G v=>∃ p2 af,v = .agg ([.slice j x.root.vars.length d,.slice k x.root.eqs.length l,.slice g x.root.neqs.length c,i' x.root.next,.slice p2 (S++[(Zh.mk B (-1) y)]).length af]).toArray/\SlR Q' G (.slice p2 (S++[(Zh.mk B (-1) y)]).length af) (S++[(Zh.mk B (-1) y)])) (fun _=>z) z (by kernel_rfl) (by kernel_rfl) (fun v G1 G2 C h=>?_) (fun u G' C hu=>?_) ?_
 .obtain⟨p2,af,rfl,ay⟩:=h
  exact⟨_,_,z,ay.mono C⟩
 .obtain⟨aD,_,_,_⟩:=(show (RowX Q' 63 57 (S++[(Zh.mk B (-1) y)])) (u 57) G'/\True/\True/\True from hu)
  exact⟨u 57,aD,fun cp cc Gf a8 a7=>⟨_,fun _=>av' (vs:=#[(0,.agg ((v31' x.root j d k l g c)).toArray),(1,.slice cp (S++[(Zh.mk B (-1) y)]).length cc)]) (by simp only[undFr,eatO,List.map_cons,List.map_nil,a8] <;> rfl) z (fun _=>by kernel_rfl),cp,cc,z,a7⟩⟩
 refine Chain.floatBU (fun _=>z) (fun _=>aj' z)<|Chain.floatBU (fun _=>z) (fun _=>f' 3 bc' z z z)<|Chain.floatBU (fun _=>z) (fun _=>M' D' (U.mono (mt (mt (mt A t) F) O)) z)<|Chain.tailBX4 hb (fun bf bg bd bj X1 J ak aZ aj aY=>?_)
 obtain⟨p2,af,rfl,ay⟩:=ak
 obtain⟨p1,aq,rfl,aK⟩:=aj
 refine WLT.one (fun w hs=>(hs.memLe hb J).weaken (lc z ln))<|s' 6 z bH' z z z z z (List.all_eq_true.1 z)<|WLT.back<|WLT.y0 (fun w hs=>(hs.memLe hb J).weaken (lc z ln)) z (Y0.assign z) z<|WLT.y0 (fun w hs=>(hs.memLe hb J).weaken (lc z ln)) z (Y0.assign z) z<|WLT.nil (fun w hs=>(hs.memLe hb J).weaken (lc z ln))<|aq'<|g'<|j' ?_
 obtain rfl:_=r:=hr
 have N1:=mt (mt (mt (mt A t) F) O) J
 exact cW' z (aa' (i:=6) aG' z z z) z z ⟨_,_,_,_,_,_,_,_,z,(E.mono N1),(H.mono N1),(D.mono N1),ay⟩
theorem gj'{p c o n q s m l A x r}(hr:(Zez p c).Ret r):Ctr prog 49 #[.agg ((v31' p o n q s m l)).toArray,.agg ((v48' c A x)).toArray] (fun G=>sl Rp.str G o n p.vars/\sl b' G q s p.eqs/\sl b' G m l p.neqs/\sl K' G A x c.p) (w48t' r):=by
 refine E' (args:=[_,_]) (N:=90) func49 z z z (fun w0 G0 al T=>?_)
 obtain⟨d,k,g,y⟩:=T
 refine sr<|af' 2 z z z fun b1=>af' 3 z z z fun b2=>V' 4 z z48 z fun b3=>sx0 z z<|n'<|sr<|yy (o' 2 at' z z z) z<|yy (o' 3 bO' z z z) z ?_
 obtain⟨aj,U,hr⟩:=hr
 refine P' z z (t' E50 z) (eJ' U) z (⟨d,k,g,y⟩) (fun ah ak e B=>?_)
 obtain⟨J,E,K,O,I,H,rfl,D,P,F⟩:=B
 refine mv z z<|yy (y' z z) z<|yy (y' z z) z<|V' 6 z z31 z fun b4=>s' 6 z aV' z z z z z (List.all_eq_true.1 z)<|sg z z<|nr<|mv z z<|yy (aw' z z) z<|nx<|L' hr z (fun ab hr=>?_) (fun ab hr=>?_)
 .refine sr<|yy (av' (vs:=#[]) (v:=.agg ([i' 0,.string ByteArray.empty,i' 0,i' 0,i' 0,.slice none 0 0,.bool false]).toArray) z z (fun _=>by kernel_rfl)) z<|mv z z<|s' 4 z cd' z z z z z (List.all_eq_true.1 z)<|sx0 z z<|j'<|a' ?_
  obtain rfl:_=r:=hr
  exact aE' z (aa' (i:=4) bO' z z z) z ⟨_,_,z,(W' K' _)⟩
 refine q'<|g'<|n'<|sr<|yy (cA' z) z<|yy (f' 3 sc3 z z z) z<|nx<|B'<|sr<|yy (au' z z) z<|sx0 z z<|L' hr z (fun W hr=>?_) (fun W hr=>?_)
 .refine sr<|yy (aJ' z) z<|yy (f' 3 sc3 z z z) z<|yy (av' (vs:=#[(0,i' 2),(2,i' c.at')]) (v:=.agg ([i' 2,.string ByteArray.empty,i' c.at',i' 0,i' 0,.slice none 0 0,.bool false]).toArray) z z (fun _=>by kernel_rfl)) z<|s' 4 z cd' z z z z z (List.all_eq_true.1 z)<|sx0 z z<|j'<|m'<|a' ?_
  obtain rfl:_=r:=hr
  exact aE' z (aa' (i:=4) bO' z z z) z ⟨_,_,z,(W' K' _)⟩
 refine sr<|yy (au' z z) z<|sx0 z z<|L' hr z (fun Y hr=>?_) (fun Y hr=>?_)
 .refine n'<|ah' [ff,ff,ff,ff,ff,ff,ff,ff] mix (by kernel_rfl) fun R=>cn (fun _ f=>aJ' z)<|cn (fun _ f=>f' 3 sc3 z z z)<|cn (fun _ f=>aH' z)<|cn (fun _ f=>f' 2 bC' z z z)<|cn (fun _ f=>aJ' z)<|cn (fun _ f=>f' 3 sc3 z z z) ?_
  obtain⟨x1,L,hr⟩:=hr
  refine cn (fun _ f=>T' H' sz9 ((d.mono e).mono f) z z L)<|cn (fun _ f=>Z' sc9 z (cb' (I' (I' (ae' d L) e) f)))<|R' R<|yy (av' (vs:=#[(0,i' 1),(2,i' c.at'),(1,.string x1)]) (v:=.agg ([i' 1,.string x1,i' c.at',i' 0,i' 0,.slice none 0 0,.bool false]).toArray) z z (fun _=>by kernel_rfl)) z<|s' 4 z cd' z z z z z (List.all_eq_true.1 z)<|sg z z<|u'<|aq'<|g'<|j'<|m'<|a' ?_
  obtain rfl:_=r:=hr
  exact aE' z (aa' (i:=4) bO' z z z) z ⟨_,_,z,(W' K' _)⟩
 refine sr<|yy (au' z z) z<|sx0 z z<|L' hr z (fun Z hr=>?_) (fun Z hr=>?_)
 .refine n'<|ah' [ff,ff,ff,ff,ff,ff,ff,ff] mix (by kernel_rfl) fun R=>cn (fun _ f=>aJ' z)<|cn (fun _ f=>f' 3 sc3 z z z)<|cn (fun _ f=>aH' z)<|cn (fun _ f=>f' 2 bC' z z z)<|cn (fun _ f=>aJ' z)<|cn (fun _ f=>f' 3 sc3 z z z) ?_
  obtain⟨x2,M,hr⟩:=hr
  refine cn (fun _ f=>T' H' sz9 ((d.mono e).mono f) z z M)<|cn (fun _ f=>Z' sc9 z (cb' (I' (I' (ae' d M) e) f)))<|R' R<|yy (av' (vs:=#[(0,i' 3),(2,i' c.at'),(1,.string x2)]) (v:=.agg ([i' 3,.string x2,i' c.at',i' 0,i' 0,.slice none 0 0,.bool false]).toArray) z z (fun _=>by kernel_rfl)) z<|s' 4 z cd' z z z z z (List.all_eq_true.1 z)<|sg z z<|u'<|aq'<|g'<|j'<|m'<|a' ?_
  obtain rfl:_=r:=hr
  exact aE' z (aa' (i:=4) bO' z z z) z ⟨_,_,z,(W' K' _)⟩
 refine sr<|yy (au' z z) z<|sx0 z z<|L' hr z (fun X hr=>?_) (fun X hr=>?_)
 .refine sr<|yy (aJ' z) z<|yy (f' 3 sc3 z z z) z<|yy (cy' z) z<|yy (f' 3 sc3 z z z) z<|yy (av' (vs:=#[(0,i' 4),(2,i' c.at'),(3,i' c.to')]) (v:=.agg ([i' 4,.string ByteArray.empty,i' c.at',i' c.to',i' 0,.slice none 0 0,.bool false]).toArray) z z (fun _=>by kernel_rfl)) z<|s' 4 z cd' z z z z z (List.all_eq_true.1 z)<|sx0 z z<|j'<|m'<|a' ?_
  obtain rfl:_=r:=hr
  exact aE' z (aa' (i:=4) bO' z z z) z ⟨_,_,z,(W' K' _)⟩
 refine sr<|yy (au' z z) z<|sx0 z z<|L' hr z (fun ad hr=>?_) (fun ad hr=>?_)
 .refine sr<|yy (o' 2 at' z z z) z<|yy (o' 3 bO' z z z) z ?_
  obtain⟨Q,V,hr⟩:=hr
  refine F' z z (t' E65 z) (fd' V) z (⟨(d.mono e),(k.mono e),(g.mono e),(y.mono e)⟩)<|yy (av' (vs:=#[(0,i' 6),(4,i' Q)]) (v:=.agg ([i' 6,.string ByteArray.empty,i' 0,i' 0,i' Q,.slice none 0 0,.bool false]).toArray) z z (fun _=>by kernel_rfl)) z<|s' 4 z cd' z z z z z (List.all_eq_true.1 z)<|sx0 z z<|j'<|m'<|a' ?_
  obtain rfl:_=r:=hr
  exact aE' z (aa' (i:=4) bO' z z z) z ⟨_,_,z,(W' K' _)⟩
 refine sr<|yy (au' z z) z<|sx0 z z<|L' hr z (fun af hr=>?_) (fun af hr=>?_)
 .refine sr<|yy (aS' z) z<|yy (f' 3 sc3 z z z) z<|yy (av' (vs:=#[(0,i' 8),(4,i' c.id)]) (v:=.agg ([i' 8,.string ByteArray.empty,i' 0,i' 0,i' c.id,.slice none 0 0,.bool false]).toArray) z z (fun _=>by kernel_rfl)) z<|s' 4 z cd' z z z z z (List.all_eq_true.1 z)<|sx0 z z<|j'<|m'<|a' ?_
  obtain rfl:_=r:=hr
  exact aE' z (aa' (i:=4) bO' z z z) z ⟨_,_,z,(W' K' _)⟩
 refine q'<|J'<|g'<|sr<|yy (o' 2 at' z z z) z<|yy (aS' z) z<|yy (f' 3 sc3 z z z) z ?_
 obtain⟨t,S,hr⟩:=hr
 refine P' z z (t' E66 z) (dZ' S) z (⟨(d.mono e),(k.mono e),(g.mono e)⟩) (fun ai am ag C=>?_)
 obtain⟨j,h,rfl,u⟩:=C
 refine mv z z<|yy (y' z z) z<|yy (y' z z) z<|yy (y' z z) z<|V' 8 z z110 z fun b5=>s' 8 z aT' z z z z z (List.all_eq_true.1 z)<|sg z z<|sx0 z z<|n'<|sr<|yy (cA' z) z<|yy (f' 3 sc3 z z z) z<|yy (au' z z) z<|nx<|L' hr z (fun ac hr=>?_) (fun ac hr=>?_)
 .refine sr<|yy (aS' z) z<|yy (f' 3 sc3 z z z) z<|yy (bX' z) z<|yy (f' 8 cF' z z z) z<|mv z z<|yy (av' (vs:=#[(0,i' 5),(4,i' c.id),(5,.slice j t.1.p.length h),(6,.bool t.2.1)]) (v:=.agg ([i' 5,.string ByteArray.empty,i' 0,i' 0,i' c.id,.slice j t.1.p.length h,.bool t.2.1]).toArray) z z (fun _=>by kernel_rfl)) z<|s' 4 z cd' z z z z z (List.all_eq_true.1 z)<|sx0 z z<|j'<|a' ?_
  obtain rfl:_=r:=hr
  exact aE' z (aa' (i:=4) bO' z z z) z ⟨_,_,z,u⟩
 refine q'<|g'<|sr<|yy (aS' z) z<|yy (f' 3 sc3 z z z) z<|yy (bX' z) z<|yy (f' 8 cF' z z z) z<|yy (av' (vs:=#[(0,i' 7),(4,i' c.id),(5,.slice j t.1.p.length h)]) (v:=.agg ([i' 7,.string ByteArray.empty,i' 0,i' 0,i' c.id,.slice j t.1.p.length h,.bool false]).toArray) z z (fun _=>by kernel_rfl)) z<|s' 4 z cd' z z z z z (List.all_eq_true.1 z)<|sx0 z z<|j' ?_
 obtain rfl:_=r:=hr
 exact aE' z (aa' (i:=4) bO' z z z) z ⟨_,_,z,u⟩
theorem dU'{H p t s B r}(hr:(Z8 H).Ret r):CtrL prog 51 #[.slice p s t] [(5000,B)] (fun G=>RowR ab' 48 G (.slice p s t) H B) (fun G L v=>∃ O,L=[(5000,O)]/\v = .tuple #[]/\RowR ab' 48 G (.slice p s t) r O):=by
 refine bg' (args:=[_]) (N:=28) func51 z z z (fun Q D ai S=>?_)
 have P:=S
 refine sr<|mv z z<|yy (dB' as' P z) z<|yy (bj' z z) z<|sg z z<|sx0 z z<|am' (fun (⟨A,o,q⟩:(List Zc)×Option Ow×Mem)=>[(0,.slice p s t)]) (fun ⟨A,o,q⟩=>Mem.le D q/\RowR ab' 48 q (.slice p s t) A o/\(Z3 A).Ret r) (fun ⟨A,o,q⟩=>St Q D q [(5000,o)]) ?_ ?_
 .refine B' ?_
  let F:(List Zc)->Prop:=fun oo=>((fun ov=>match ov with|A=>Z3 A:(List Zc)->Cq (List Zc)) oo).wp (fun a=>a=r)
  replace hr:(Cq.loop _ _).wp F:=hr
  refine an' (Φ:=F) (fun (⟨y,l,u,x,n⟩:(List Zc)×Option Ow×Int×Int×Mem)=>((y,u,x):(List Zc)×Int×Int)) (fun ⟨y,l,u,x,n⟩=>[(0,.slice p s t),(2,i' u),(3,i' x)]) (fun ⟨y,l,u,x,n⟩=>Mem.le D n/\RowR ab' 48 n (.slice p s t) y l) (fun ⟨y,l,u,x,n⟩=>St Q D n [(5000,l)]) ⟨H,B,0,i64.wrap ((H.length:Int)-1),D⟩ hr (f3 z z z) ⟨mr,P⟩ (w1 z) ?_
  .intro ah gx hx hr
   obtain⟨y,l,u,x,n⟩:=gx
   obtain⟨C,m⟩:=hx
   refine n'<|sr<|mv z z<|mv z z<|yy (ai' z z) z<|nx<|L' hr z (fun X hr=>?_) (fun X hr=>?_)
   .refine q'<|g'<|n'<|B'<|ah' [ff,ff,tt,tt,ff,ff,ff,ff,ff,ff,ff,ff] mix (by kernel_rfl) fun hb=>cn (fun _ f=>e' z)<|cn (fun _ f=>e' z)<|cq' z (e' z)<|cq' z (e' z)<|cn (fun _ f=>e' z)<|cn (fun _ f=>e' z) ?_
    obtain⟨d,I,hr⟩:=hr
    refine cn (fun _ f=>aP' as' cd' (m.mono f) z z I) ?_
    obtain⟨g,h,V,T⟩:=de' (cz' m I)
    refine cn (fun _ f=>ew' _ bO' (m.mono f) (key:=5000) z z z (by decide) V)<|cn (fun _ f=>e' z)<|cn (fun _ f=>e' z) ?_
    obtain⟨c,K,hr⟩:=hr
    refine cn (fun _ f=>aP' as' cd' (m.mono f) z z K) ?_
    obtain⟨k,j,W,R⟩:=de' (cz' m K)
    refine cn (fun _ f=>ew' _ bO' (m.mono f) (key:=5000) z z z (by decide) W)<|R' hb ?_
    obtain⟨x3,J,hr⟩:=hr
    refine yy (aP' as' cd' m z z J) z<|bx' (r:=ab') (e:=48) (cs':=(v48' d g h)) (i:=u) (z':=d) 5000 z cd' z m z z z z ⟨[i' d.kind],[.string d.name,i' d.at',i' d.to',i' d.id,.slice g d.p.length h,.bool d.neq],z,z,⟨[.string d.name],[i' d.at',i' d.to',i' d.id,.slice g d.p.length h,.bool d.neq],z,z,⟨[i' d.at'],[i' d.to',i' d.id,.slice g d.p.length h,.bool d.neq],z,z,⟨[i' d.to'],[i' d.id,.slice g d.p.length h,.bool d.neq],z,z,⟨[i' d.id],[.slice g d.p.length h,.bool d.neq],z,z,⟨[.slice g d.p.length h],[.bool d.neq],z,⟨_,z,T⟩,z⟩⟩⟩⟩⟩⟩ J (fun ag E=>?_)
    obtain⟨x4,M,hr⟩:=hr
    refine yy (aP' as' cd' E z z M) z<|bx' (r:=ab') (e:=48) (cs':=(v48' c k j)) (i:=x) (z':=c) 5000 z cd' z E z z z z ⟨[i' c.kind],[.string c.name,i' c.at',i' c.to',i' c.id,.slice k c.p.length j,.bool c.neq],z,z,⟨[.string c.name],[i' c.at',i' c.to',i' c.id,.slice k c.p.length j,.bool c.neq],z,z,⟨[i' c.at'],[i' c.to',i' c.id,.slice k c.p.length j,.bool c.neq],z,z,⟨[i' c.to'],[i' c.id,.slice k c.p.length j,.bool c.neq],z,z,⟨[i' c.id],[.slice k c.p.length j,.bool c.neq],z,z,⟨[.slice k c.p.length j],[.bool c.neq],z,⟨_,z,R⟩,z⟩⟩⟩⟩⟩⟩ M fun Y U=>u'<|aq'<|J'<|g'<|A'<|mv z z<|yy (X' z z) z<|mv z z<|yy (bj' z z) z<|sg z z<|sg z z<|u'<|Y' ⟨((y.set u.toNat d).set x.toNat c),Y,i64.wrap (u+1),i64.wrap (x-1),n⟩ hr ⟨C,U⟩ (f3 z z z) (w1 z)
   refine ao'<|r'<|r'<|O'<|ap' ⟨y,l,n⟩ ⟨C,m,hr⟩ (f1 z) (w1 z)
 rintro⟨A,o,q⟩ ⟨aa,Z,hr⟩
 refine WE.retN ?_
 obtain rfl:_=r:=hr
 refine aK' (S':=St Q D q [(5000,o)]) (w1 z)<|WE.ret0 z  ⟨_,z,z,Z⟩
theorem cP'{B Z bn m l n o g k ac ab r}(hr:(Zc0 B Z bn).Ret r):Ctr prog 22 #[.agg ((v34' B m l n o g k ac ab)).toArray,i' Z,i' bn] (fun G=>y34' G m l n o g k ac ab B) (w34u' r):=by
 refine E' (args:=[_,_,_]) (N:=72) func22 z z z (fun w0 G0 aM bH=>?_)
 obtain⟨C,K,D,J⟩:=bH
 have hz:w0.L.zero:=by rw[aM]; intro p hp; simp at hp
 refine sr<|af' 3 z z z fun b1=>V' 6 z z34 z fun b2=>sg z z<|sx0 z z<|n'<|sr<|yy (o' 3 aG' z z z) z<|mv z z<|mv z z ?_
 obtain⟨cH,bL,hr⟩:=hr
 refine F' z z (t' E16 z) (Zby _ _ _ _ _ _ _ _ _ _ _ _ bL) z (⟨C,K,D,J⟩)<|yy (al' z) z<|nx<|aL' hr z (fun b8 hr=>?_) (fun b8 hr=>?_)
 .refine sr<|yy (av' (vs:=#[]) (v:=.agg ([.slice none 0 0,.slice none 0 0,.slice none 0 0,i' 0,.slice none 0 0]).toArray) z z (fun _=>by kernel_rfl)) z<|s' 6 z bH' z z z z z (List.all_eq_true.1 z)<|sg z z<|sx0 z z<|j'<|a' ?_
  obtain rfl:_=r:=hr
  exact cW' z (aa' (i:=6) aG' z z z) z z ⟨_,_,_,_,_,_,_,_,z,(W' Rp.str _),(W' b' _),(W' b' _),(W' Q' _)⟩
 refine q'<|g'<|sr<|sx0 z z<|aM' (fun (⟨aj,ak,am,aa,aB⟩:(List Zc)×Option Addr×Nat×Option Ow×Mem)=>[(1,i' Z),(3,pt0 b1),(6,pt0 b2),(9,.slice ak aj.length am)]) (fun ⟨aj,ak,am,aa,aB⟩=>Mem.le G0 aB/\RowR ab' 48 aB (.slice ak aj.length am) aj aa/\(Zc1 B Z aj).Ret r) (fun ⟨aj,ak,am,aa,aB⟩=>St w0 G0 aB [(3,bk0 b1 (v34' B m l n o g k ac ab) 34),(6,bk0 b2 ([.slice none 0 0,.slice none 0 0,.slice none 0 0,i' 0,.slice none 0 0]) 34),(4009,aa)]) ?_ ?_
 .refine sr<|mv z z<|yy (bh' z z) z<|nx<|L' hr z (fun b6 hr=>?_) (fun b6 hr=>?_)
  .refine n'<|ah' [ff,ff,ff,ff,ff,ff,ff,ff,ff,ff,tt,ff] mix (by kernel_rfl) fun hb=>cn (fun _ f=>o' 3 aG' z z z)<|cn (fun _ f=>aj' z)<|cn (fun _ f=>f' 3 bc' z z z)<|cn (fun _ f=>e' z) ?_
   obtain⟨x1,bF,hr⟩:=hr
   refine cn (fun _ f=>T' D' bR' (J.mono f) z z bF)<|cn (fun _ f=>bT' z)<|cn (fun _ f=>Z' sc3 z (aF' (I' (aW' (ay' (ae' J bF))) f))) ?_
   obtain⟨ap,bG,hr⟩:=hr
   refine aX' (post:=w31t' ap) (fun _=>z) (fun _ _=>t' E11 z) (bJ' bG) z (fun G' f=>⟨(C.mono f),(K.mono f),(D.mono f),(J.mono f)⟩) (fun v G1 G2 f h=>?_) ?_
   .obtain⟨R,X,Y,ae,T,W,rfl,E,M,F⟩:=h
    exact⟨_,_,_,_,_,_,z,E.mono f,M.mono f,F.mono f⟩
   refine bm' (φ:=w31t' ap) (fun _=>z) (fun v G1 G2 f h=>?_) (fun u G' f hu=>?_) ?_
   .obtain⟨p1,aS,p2,aU,p3,aT,rfl,aJ,aP,aO⟩:=h
    exact⟨_,_,_,_,_,_,z,aJ.mono f,aP.mono f,aO.mono f⟩
   .obtain⟨⟨R,X,Y,ae,T,W,bz,E,M,F⟩,_⟩:=(show (w31t' ap) G'.m (u 32)/\True from hu)
    simp only[undFr,bz]
    exact⟨_,e' z,R,X,Y,ae,T,W,z,E,M,F⟩
   refine bm' (φ:=w31' ap.1) (fun _=>z) (fun v G1 G2 f h=>?_) (fun u G' f hu=>?_) ?_
   .obtain⟨p4,bC,p5,bE,p6,bD,rfl,bq,bg,bk⟩:=h
    exact⟨_,_,_,_,_,_,z,bq.mono f,bg.mono f,bk.mono f⟩
   .obtain⟨⟨p1,aS,p2,aU,p3,aT,aI,aJ,aP,aO⟩,_,_⟩:=(show (w31t' ap) G'.m (u 24)/\True/\True from hu)
    simp only[undFr,aI]
    exact⟨_,y' z z,p1,aS,p2,aU,p3,aT,z,aJ,aP,aO⟩
   refine bv' (c:=i' ap.2) (fun _=>z) (fun u G' f hu=>?_) ?_
   .obtain⟨_,⟨p1,aS,p2,aU,p3,aT,aI,aJ,aP,aO⟩,_,_⟩:=(show True/\(w31t' ap) G'.m (u 24)/\True/\True from hu)
    simp only[undFr,aI]
    exact y' z z
   refine bE' (fun _=>z) z31<|cn' (fun cC cv cq cA X1 aQ bi a8 a9 a0=>?_)
   obtain⟨b3,rfl,bJ⟩:=bi
   obtain⟨p4,bC,p5,bE,p6,bD,rfl,bq,bg,bk⟩:=a8
   obtain⟨p1,aS,p2,aU,p3,aT,rfl,aJ,aP,aO⟩:=a9
   obtain⟨R,X,Y,ae,T,W,rfl,E,M,F⟩:=a0
   refine cu' bJ (cf' (show WL _ _ _ _ _ _ (St w0 G0 X1.m _) from ?_))
   refine s' 10 z aV' z z z z z (List.all_eq_true.1 z)<|sg z z<|u'<|aq'<|g'<|sr<|yy (aj' z) z<|yy (f' 3 bc' z z z) z<|mv z z ?_
   obtain⟨x2,bB,hr⟩:=hr
   refine yy (T' D' bR' (J.mono aQ) z z bB) z<|yy (bI' z) z ?_
   obtain⟨p7,bW,cc,bo⟩:=bF' (I' (ax' (ax' (ay' (ae' J bB)))) aQ)
   refine yy (Z' sc44 z (cc)) z<|yy (M' as' bo z) z<|mv z z<|nx<|am' (fun (⟨O,ai,ag,Q,az⟩:(List Zc)×Option Addr×Nat×Option Ow×Mem)=>[(1,i' Z),(3,pt0 b1),(6,pt0 b2),(9,.slice ai O.length ag)]) (fun ⟨O,ai,ag,Q,az⟩=>Mem.le X1.m az/\RowR ab' 48 az (.slice ai O.length ag) O Q/\(Zc2 B Z O).Ret r) (fun ⟨O,ai,ag,Q,az⟩=>St w0 G0 az [(3,bk0 b1 (v34' B m l n o g k ac ab) 34),(6,bk0 b2 ([.slice none 0 0,.slice none 0 0,.slice none 0 0,i' 0,.slice none 0 0]) 34),(4009,Q)]) ?_ ?_
   .refine B' ?_
    let bf:(List Zc)->Prop:=fun oo=>((fun ov=>match ov with|O=>Zc2 B Z O:(List Zc)->Cq (Zf×Int×Int)) oo).wp (fun a=>a=r)
    replace hr:(Cq.loop _ _).wp bf:=hr
    refine an' (Φ:=bf) (fun (⟨P,U,S,L,V,al,A,x,I,H,y,t,ad⟩:(List Zc)×Option Addr×Nat×Option Ow×Int×Za×Option Addr×Nat×Option Addr×Nat×Option Addr×Nat×Mem)=>((P,V,al):(List Zc)×Int×Za)) (fun ⟨P,U,S,L,V,al,A,x,I,H,y,t,ad⟩=>[(1,i' Z),(3,pt0 b1),(6,pt0 b2),(9,.slice U P.length S),(10,pt0 b3),(40,.slice p7 x2.e.length bW),(41,i' (x2.e.length:Int)),(42,i' V)]) (fun ⟨P,U,S,L,V,al,A,x,I,H,y,t,ad⟩=>Mem.le X1.m ad/\RowR ab' 48 ad (.slice U P.length S) P L/\y31' ad A x I H y t al) (fun ⟨P,U,S,L,V,al,A,x,I,H,y,t,ad⟩=>St w0 G0 ad [(3,bk0 b1 (v34' B m l n o g k ac ab) 34),(6,bk0 b2 ([.slice none 0 0,.slice none 0 0,.slice none 0 0,i' 0,.slice none 0 0]) 34),(10,bk0 b3 (v31' al A x I H y t) 31),(4009,L)]) ⟨[],none,0,none,0,ap.1,p4,bC,p5,bE,p6,bD,X1.m⟩ hr (f8 z z z z z z z z) ⟨mr,RowR.nil,bq,bg,bk⟩ (wk (lc z (lc z (lc z (lw ln))))) ?_
    .intro cL gx hx hr
     obtain⟨P,U,S,L,V,al,A,x,I,H,y,t,ad⟩:=gx
     obtain⟨ar,aV,ay,aA,ax⟩:=hx
     refine sr<|yy (ai' z z) z<|nx<|n'<|L' hr z (fun bU hr=>?_) (fun bU hr=>?_)
     .refine q'<|g'<|n'<|B'<|sr ?_
      obtain⟨x3,bA,hr⟩:=hr
      refine yy (T' as' cd' (bo.mono ar) z z bA) z ?_
      obtain⟨cj,cx,bX,bp⟩:=de' (I' (ae' bo bA) ar)
      refine yy (aA' _ bO' z z bX) z<|V' 13 z z48 z fun b4=>s' 13 z cd' z z z z z (List.all_eq_true.1 z)<|nr<|yy (o' 10 at' z z z) z<|yy (o' 13 bO' z z z) z ?_
      obtain⟨d,bN,hr⟩:=hr
      refine P' z z (t' E49 z) (gj' bN) z (⟨ay,aA,ax,bp⟩) (fun cu cE af bb=>?_)
      obtain⟨q,s,rfl,aW⟩:=bb
      refine mv z z<|yy (y' z z) z<|yy (y' z z) z<|V' 14 z z48 z fun b5=>s' 14 z cd' z z z z z (List.all_eq_true.1 z)<|sg z z<|nr<|mv z z<|yy (o' 14 bO' z z z) z<|bd' (e:=48) (r:=ab') (vs:=#[(0,.agg ((v48' d.1 q s)).toArray)]) (cs:=(v48' d.1 q s)++([])) ([d.1]:List Zc) z z z z z (by decide) (fun _=>by kernel_rfl) ⟨(v48' d.1 q s),[],z,⟨[i' d.1.kind],[.string d.1.name,i' d.1.at',i' d.1.to',i' d.1.id,.slice q d.1.p.length s,.bool d.1.neq],z,z,⟨[.string d.1.name],[i' d.1.at',i' d.1.to',i' d.1.id,.slice q d.1.p.length s,.bool d.1.neq],z,z,⟨[i' d.1.at'],[i' d.1.to',i' d.1.id,.slice q d.1.p.length s,.bool d.1.neq],z,z,⟨[i' d.1.to'],[i' d.1.id,.slice q d.1.p.length s,.bool d.1.neq],z,z,⟨[i' d.1.id],[.slice q d.1.p.length s,.bool d.1.neq],z,z,⟨[.slice q d.1.p.length s],[.bool d.1.neq],z,⟨_,z,aW⟩,z⟩⟩⟩⟩⟩⟩,z⟩ (key:=999) z (by rw[aM]; rfl) (fun p8 cF ah cg=>?_)
      obtain⟨bI,hr⟩:=hr
      refine ct' (r:=ab') (e:=48) 4009 z z as' el48 z (by decide) z z (aV.mono (mt af ah)) z cg bI fun p9 cd bM cf=>sx0 z z<|A'<|yy (o' 10 at' z z z) z<|yy (o' 13 bO' z z z) z ?_
      obtain⟨b0,bK,hr⟩:=hr
      have N1:=mt af ah
      refine P' z z (t' E50 z) (eJ' bK) z (⟨(ay.mono N1),(aA.mono N1),(ax.mono N1),(bp.mono N1)⟩) (fun cp ce aR aZ=>?_)
      obtain⟨aF,aG,aK,aL,aD,aC,rfl,aH,aN,aE⟩:=aZ
      refine mv z z<|yy (y' z z) z<|yy (y' z z) z<|s' 10 z aV' z z z z z (List.all_eq_true.1 z)<|u'<|J'<|g'<|A'<|yy (X' z z) z<|mv z z<|u'<|Y' ⟨(P++[d.1]),p9,cd,bM,i64.wrap (V+1),b0.1,aF,aG,aK,aL,aD,aC,ce⟩ hr ⟨(mt (mt (mt ar af) ah) aR),(cf.mono aR),aH,aN,aE⟩ (f8 z z z z z z z z) (w4 z z z z)
     refine ao'<|r'<|r'<|O'<|ap' ⟨P,U,S,L,ad⟩ ⟨ar,aV,hr⟩ (f4 z z z z) (w3 z z z)
   rintro⟨O,ai,ag,Q,az⟩ ⟨bs,bw,hr⟩
   exact ar' ⟨O,ai,ag,Q,az⟩ ⟨(mt aQ bs),bw,hr⟩ (f4 z z z z) (w3 z z z)
  refine q'<|ar' ⟨[],none,0,none,G0⟩ ⟨mr,RowR.nil,hr⟩ (f4 z z z z) (wk (lc z (lc z (lw ln))))
 rintro⟨aj,ak,am,aa,aB⟩ ⟨aw,bx,hr⟩
 refine sr<|mv z z ?_
 obtain⟨cG,bO,hr⟩:=hr
 refine bK' (fun w hs=>hs.rekey (i:=4009) (j:=5000) z (by rw[aM]; rfl))<|cN' z z (t' E51 z) (dU' bO) z (bx) (lc z ln) hz (fun cl cJ cy au aX=>?_)
 obtain⟨bT,rfl,rfl,bh⟩:=aX
 refine bK' (fun w hs=>hs.rekey (i:=5000) (j:=4009) z (by rw[aM]; rfl))<|nr<|yy (o' 3 aG' z z z) z<|mv z z<|mv z z<|bn' (r:=ab') (e:=48) 4009 bh z (by rw[aM]; rfl) (fun cK cM av bl ch=>?_)
 obtain⟨cI,bP,hr⟩:=hr
 have N2:=mt (mt aw au) av
 refine P' z z (t' E20 z) (ce' bP) (by rw[cH' bl]) (⟨(C.mono N2),(K.mono N2),(D.mono N2),(J.mono N2),(cw' bl)⟩) (fun co cD ci bc=>?_)
 obtain⟨a3,a1,bd,be,a5,a2,bS,bR,rfl,ao,aq,an,aY⟩:=bc
 refine yy (y' z z) z<|yy (y' z z) z<|yy (y' z z) z<|s' 6 z bH' z z z z z (List.all_eq_true.1 z)<|sg z z<|sx0 z z<|j' ?_
 obtain rfl:_=r:=hr
 exact cW' z (aa' (i:=6) aG' z z z) z z ⟨_,_,_,_,_,_,_,_,z,ao,aq,an,aY⟩
theorem dy'{r}(hr:(ZeG).Ret r):Ctr prog 9 #[] (fun G=>True) (fun G v=>v = .bool r):=by
 refine E' (args:=[]) (N:=177) func9 z z z fun w0 G0 d5 dK=>sr<|sg z z<|nr<|yy (av' (vs:=#[(3,i' 1)]) (v:=.agg ([.slice none 0 0,.slice none 0 0,.slice none 0 0,i' 1]).toArray) z z (fun _=>by kernel_rfl)) z ?_
 obtain⟨cL,c2,hr⟩:=hr
 refine P' z z (t' E32 z) (gx' c2) z (⟨(W' Rp.str _),(W' b' _),(W' b' _)⟩) (fun dP cR dC bu=>?_)
 obtain⟨ax,aj,aA,az,am,au,bl,bj,rfl,P,U,Q,aq⟩:=bu
 refine mv z z<|yy (y' z z) z<|yy (y' z z) z<|V' 1 z z34 z fun b1=>s' 1 z bH' z z z z z (List.all_eq_true.1 z)<|sx0 z z<|aM' (fun (L:Mem)=>match L with|aZ=>[(1,pt0 b1)]) (fun (L:Mem)=>match L with|aZ=>Mem.le cR aZ/\(Ze6 cL).Ret r) (fun (L:Mem)=>match L with|aZ=>St w0 G0 aZ [(1,bk0 b1 (v34' cL.1 ax aj aA az am au bl bj) 34)]) ?_ ?_
 .refine sr<|mv z z<|ad' hr z (aw' z z) z (fun dc hr=>?_) (fun dc hr=>?_)
  .refine mv z z<|sn4 z<|yy (h' z z) z<|mv z z<|sn3 z<|yy (h' z z) z<|nx<|U' z<|sr<|sx0 z z<|j'<|a' (k0' hr z z)
  refine mv z z<|gy z z (aj' z) z<|gy z z (f' 1 bc' z z z) z<|gy z z (M' D' aq z) z<|ad' hr (v' z z) (aw' z z) z (fun da hr=>?_) (fun da hr=>?_)
  .refine yy (l' z z) z<|mv z z<|sn3 z<|yy (h' z z) z<|nx<|U' z<|sr<|sx0 z z<|j'<|a' (k0' hr z z)
  refine yy (l' z z) z<|mv z z<|gy z z (o' 1 aG' z z z) z ?_
  obtain⟨dX,cu,hr⟩:=hr
  refine F' (v' z z) z (t' E18 z) (cX' cu) z (⟨P,U,Q,aq⟩)<|gy z z (al' z) z<|yy (l' z z) z<|nx<|aL' hr z (fun dn hr=>?_) (fun dn hr=>?_)
  .refine sr<|sx0 z z<|j'<|a' (k0' hr z z)
  refine q'<|ar' cR ⟨mr,hr⟩ (f1 z) (w1 z)
 rintro aZ ⟨aC,hr⟩
 refine n'<|ah' [ff,ff,ff,ff,ff,tt,tt,ff] mix (by kernel_rfl) fun hb=>cn (fun _ d=>o' 1 aG' z z z) ?_
 obtain⟨cK,c6,hr⟩:=hr
 refine aX' (post:=wl' ab' cK) (fun _=>z) (fun _ _=>t' E33 z) (fG' c6) z (fun O d=>trivial) (fun v G1 G2 d h=>?_) ?_
 .obtain⟨bO,bM,rfl,aO⟩:=h
  exact⟨_,_,z,aO.mono d⟩
 obtain⟨W,c7,hr⟩:=hr
 refine cD' (f:=20) (φ:=w34u' W) (fun _=>z) (fun v G1 G2 d h=>?_) (fun u O d S=>?_) ?_
 .obtain⟨D,x,I,J,F,B,aw,ak,rfl,l,o,j,aa⟩:=h
  exact⟨_,_,_,_,_,_,_,_,z,l.mono d,o.mono d,j.mono d,aa.mono d⟩
 .obtain⟨⟨bO,bM,cA,aO⟩,_⟩:=(show (wl' ab' cK) O.m (u 43)/\True from S)
  exact⟨_,_,_,fun _=>t' E20 z,ce' c7,(by simp only[cA] <;> rfl),⟨((P.mono aC).mono d),((U.mono aC).mono d),((Q.mono aC).mono d),((aq.mono aC).mono d),aO⟩⟩
 refine bm' (φ:=w34u' W) (fun _=>z) (fun v G1 G2 d h=>?_) (fun u O d S=>?_) ?_
 .obtain⟨p1,aQ,p2,aX,p3,aU,p4,aS,rfl,aI,aL,aJ,aM⟩:=h
  exact⟨_,_,_,_,_,_,_,_,z,aI.mono d,aL.mono d,aJ.mono d,aM.mono d⟩
 .obtain⟨⟨D,x,I,J,F,B,aw,ak,cw,l,o,j,aa⟩,_,_⟩:=(show (w34u' W) O.m (u 44)/\True/\True from S)
  simp only[undFr,cw]
  exact⟨_,e' z,D,x,I,J,F,B,aw,ak,z,l,o,j,aa⟩
 refine bm' (φ:=w34' W.1) (fun _=>z) (fun v G1 G2 d h=>?_) (fun u O d S=>?_) ?_
 .obtain⟨p5,cO,p6,cN,p7,cH,p8,cG,rfl,bA,bI,bK,bh⟩:=h
  exact⟨_,_,_,_,_,_,_,_,z,bA.mono d,bI.mono d,bK.mono d,bh.mono d⟩
 .obtain⟨⟨p1,aQ,p2,aX,p3,aU,p4,aS,ai,aI,aL,aJ,aM⟩,_,_,_⟩:=(show (w34u' W) O.m (u 41)/\True/\True/\True from S)
  simp only[undFr,ai]
  exact⟨_,y' z z,p1,aQ,p2,aX,p3,aU,p4,aS,z,aI,aL,aJ,aM⟩
 refine bv' (c:=i' W.2.1) (fun _=>z) (fun u O d S=>?_) ?_
 .obtain⟨_,⟨p1,aQ,p2,aX,p3,aU,p4,aS,ai,aI,aL,aJ,aM⟩,_,_,_⟩:=(show True/\(w34u' W) O.m (u 41)/\True/\True/\True from S)
  simp only[undFr,ai]
  exact y' z z
 refine bv' (c:=i' W.2.2) (fun _=>z) (fun u O d S=>?_) ?_
 .obtain⟨_,⟨p1,aQ,p2,aX,p3,aU,p4,aS,ai,aI,aL,aJ,aM⟩,_,_,_⟩:=(show True/\(w34u' W) O.m (u 41)/\True/\True/\True from S)
  simp only[undFr,ai]
  exact y' z z
 refine bE' (fun _=>z) z34<|ei' (fun d2 dN d1 dL dI X1 dO bG bv bm bx bi=>?_)
 obtain⟨b2,rfl,c0⟩:=bG
 obtain⟨p5,cO,p6,cN,p7,cH,p8,cG,rfl,bA,bI,bK,bh⟩:=bv
 obtain⟨p1,aQ,p2,aX,p3,aU,p4,aS,rfl,aI,aL,aJ,aM⟩:=bm
 obtain⟨D,x,I,J,F,B,aw,ak,rfl,l,o,j,aa⟩:=bx
 obtain⟨bO,bM,rfl,aO⟩:=bi
 refine cu' c0 (cf' (show WL _ _ _ _ _ _ (St w0 G0 X1.m _) from ?_))
 refine s' 3 z bH' z z z z z (List.all_eq_true.1 z)<|sg z z<|sg z z<|u'<|aq'<|g'<|aM' (fun (L:Mem)=>match L with|aT=>[(3,pt0 b2)]) (fun (L:Mem)=>match L with|aT=>Mem.le X1.m aT/\(Ze5 W).Ret r) (fun (L:Mem)=>match L with|aT=>St w0 G0 aT [(3,bk0 b2 (v34' W.1 p5 cO p6 cN p7 cH p8 cG) 34)]) ?_ ?_
 .refine sr<|mv z z<|ad' hr z (aw' z z) z (fun cY hr=>?_) (fun cY hr=>?_)
  .refine mv z z<|sn2 z<|yy (h' z z) z<|mv z z<|sn4 z<|yy (h' z z) z<|nx<|U' z<|sr<|sx0 z z<|j'<|a' (k0' hr z z)
  refine mv z z<|gy z z (e' z) z<|ad' hr (v' z z) (aw' z z) z (fun c3 hr=>?_) (fun c3 hr=>?_)
  .refine yy (l' z z) z<|mv z z<|sn4 z<|yy (h' z z) z<|nx<|U' z<|sr<|sx0 z z<|j'<|a' (k0' hr z z)
  refine yy (l' z z) z<|mv z z<|gy z z (aj' z) z<|gy z z (f' 3 bc' z z z) z<|gy z z (M' D' bh z) z<|gy z z (aw' z z) z<|yy (l' z z) z<|nx<|L' hr z (fun di hr=>?_) (fun di hr=>?_)
  .refine sr<|sx0 z z<|j'<|a' (k0' hr z z)
  refine q'<|ar' X1.m ⟨mr,hr⟩ (f1 z) (w1 z)
 rintro aT ⟨aB,hr⟩
 refine n'<|ah' [ff,ff,ff,ff,ff,tt,tt,ff] mix (by kernel_rfl) fun hb=>cn (fun _ d=>o' 3 aG' z z z) ?_
 obtain⟨cI,c8,hr⟩:=hr
 refine aX' (post:=wl' ab' cI) (fun _=>z) (fun _ _=>t' E33 z) (fG' c8) z (fun O d=>trivial) (fun v G1 G2 d h=>?_) ?_
 .obtain⟨bC,bR,rfl,aN⟩:=h
  exact⟨_,_,z,aN.mono d⟩
 obtain⟨V,c4,hr⟩:=hr
 refine cD' (f:=20) (φ:=w34u' V) (fun _=>z) (fun v G1 G2 d h=>?_) (fun u O d S=>?_) ?_
 .obtain⟨E,A,H,K,t,C,ar,ao,rfl,k,n,i,ab⟩:=h
  exact⟨_,_,_,_,_,_,_,_,z,k.mono d,n.mono d,i.mono d,ab.mono d⟩
 .obtain⟨⟨bC,bR,co,aN⟩,_⟩:=(show (wl' ab' cI) O.m (u 62)/\True from S)
  exact⟨_,_,_,fun _=>t' E20 z,ce' c4,(by simp only[co] <;> rfl),⟨((bA.mono aB).mono d),((bI.mono aB).mono d),((bK.mono aB).mono d),((bh.mono aB).mono d),aN⟩⟩
 refine bm' (φ:=w34u' V) (fun _=>z) (fun v G1 G2 d h=>?_) (fun u O d S=>?_) ?_
 .obtain⟨p9,aW,aY,aF,aP,aE,a0,aD,rfl,aK,ap,an,ay⟩:=h
  exact⟨_,_,_,_,_,_,_,_,z,aK.mono d,ap.mono d,an.mono d,ay.mono d⟩
 .obtain⟨⟨E,A,H,K,t,C,ar,ao,ci,k,n,i,ab⟩,_,_⟩:=(show (w34u' V) O.m (u 63)/\True/\True from S)
  simp only[undFr,ci]
  exact⟨_,e' z,E,A,H,K,t,C,ar,ao,z,k,n,i,ab⟩
 refine bm' (φ:=w34' V.1) (fun _=>z) (fun v G1 G2 d h=>?_) (fun u O d S=>?_) ?_
 .obtain⟨cF,bH,cP,bQ,cM,bN,cQ,bL,rfl,X,Z,Y,R⟩:=h
  exact⟨_,_,_,_,_,_,_,_,z,X.mono d,Z.mono d,Y.mono d,R.mono d⟩
 .obtain⟨⟨p9,aW,aY,aF,aP,aE,a0,aD,ad,aK,ap,an,ay⟩,_,_,_⟩:=(show (w34u' V) O.m (u 60)/\True/\True/\True from S)
  simp only[undFr,ad]
  exact⟨_,y' z z,p9,aW,aY,aF,aP,aE,a0,aD,z,aK,ap,an,ay⟩
 refine bv' (c:=i' V.2.1) (fun _=>z) (fun u O d S=>?_) ?_
 .obtain⟨_,⟨p9,aW,aY,aF,aP,aE,a0,aD,ad,aK,ap,an,ay⟩,_,_,_⟩:=(show True/\(w34u' V) O.m (u 60)/\True/\True/\True from S)
  simp only[undFr,ad]
  exact y' z z
 refine bv' (c:=i' V.2.2) (fun _=>z) (fun u O d S=>?_) ?_
 .obtain⟨_,⟨p9,aW,aY,aF,aP,aE,a0,aD,ad,aK,ap,an,ay⟩,_,_,_⟩:=(show True/\(w34u' V) O.m (u 60)/\True/\True/\True from S)
  simp only[undFr,ad]
  exact y' z z
 refine bE' (fun _=>z) z34<|ei' (fun d7 dU dM dR dV X2 d0 bB br bk bw bt=>?_)
 obtain⟨b3,rfl,c9⟩:=bB
 obtain⟨cF,bH,cP,bQ,cM,bN,cQ,bL,rfl,X,Z,Y,R⟩:=br
 obtain⟨p9,aW,aY,aF,aP,aE,a0,aD,rfl,aK,ap,an,ay⟩:=bk
 obtain⟨E,A,H,K,t,C,ar,ao,rfl,k,n,i,ab⟩:=bw
 obtain⟨bC,bR,rfl,aN⟩:=bt
 refine cu' c9 (cf' (show WL _ _ _ _ _ _ (St w0 G0 X2.m _) from ?_))
 refine s' 6 z bH' z z z z z (List.all_eq_true.1 z)<|sg z z<|sg z z<|u'<|aq'<|g'<|aM' (fun (L:Mem)=>match L with|aV=>[(6,pt0 b3)]) (fun (L:Mem)=>match L with|aV=>Mem.le X2.m aV/\(Ze4 V).Ret r) (fun (L:Mem)=>match L with|aV=>St w0 G0 aV [(6,bk0 b3 (v34' V.1 cF bH cP bQ cM bN cQ bL) 34)]) ?_ ?_
 .refine sr<|mv z z<|ad' hr z (aw' z z) z (fun cV hr=>?_) (fun cV hr=>?_)
  .refine mv z z<|sn2 z<|yy (h' z z) z<|mv z z<|sn4 z<|yy (h' z z) z<|mv z z<|sn3 z<|yy (h' z z) z<|nx<|U' z<|sr<|sx0 z z<|j'<|a' (k0' hr z z)
  refine mv z z<|gy z z (e' z) z<|ad' hr (v' z z) (aw' z z) z (fun cS hr=>?_) (fun cS hr=>?_)
  .refine yy (l' z z) z<|mv z z<|sn4 z<|yy (h' z z) z<|mv z z<|sn3 z<|yy (h' z z) z<|nx<|U' z<|sr<|sx0 z z<|j'<|a' (k0' hr z z)
  refine yy (l' z z) z<|mv z z<|gy z z (aj' z) z<|gy z z (f' 6 bc' z z z) z<|gy z z (M' D' R z) z<|ad' hr (v' z z) (aw' z z) z (fun c5 hr=>?_) (fun c5 hr=>?_)
  .refine yy (l' z z) z<|mv z z<|sn3 z<|yy (h' z z) z<|nx<|U' z<|sr<|sx0 z z<|j'<|a' (k0' hr z z)
  refine yy (l' z z) z<|mv z z<|gy z z (o' 6 aG' z z z) z ?_
  obtain⟨dQ,cv,hr⟩:=hr
  refine F' (v' z z) z (t' E18 z) (cX' cv) z (⟨X,Z,Y,R⟩)<|gy z z (al' z) z<|yy (l' z z) z<|nx<|aL' hr z (fun dr hr=>?_) (fun dr hr=>?_)
  .refine sr<|sx0 z z<|j'<|a' (k0' hr z z)
  refine q'<|ar' X2.m ⟨mr,hr⟩ (f1 z) (w1 z)
 rintro aV ⟨g,hr⟩
 refine sr<|yy (o' 6 aG' z z z) z ?_
 obtain⟨dG,cq,hr⟩:=hr
 refine F' z z (t' E13 z) (Zjx _ _ _ _ _ _ _ _ _ _ _ _ cq) z (⟨(X.mono g),(Z.mono g),(Y.mono g),(R.mono g)⟩)<|mv z z<|yy (y' z z) z<|yy (y' z z) z<|sg z z<|sg z z<|nr<|yy (o' 6 aG' z z z) z ?_
 obtain⟨bJ,cj,hr⟩:=hr
 refine P' z z (t' E22 z) (cP' cj) z (⟨(X.mono g),(Z.mono g),(Y.mono g),(R.mono g)⟩) (fun dA d6 p a9=>?_)
 obtain⟨ae,ac,al,av,ah,ag,a2,a4,rfl,s,y,q,T⟩:=a9
 refine mv z z<|yy (y' z z) z<|yy (y' z z) z<|yy (y' z z) z<|V' 11 z z34 z fun b4=>s' 11 z bH' z z z z z (List.all_eq_true.1 z)<|sg z z<|sg z z<|nr<|yy (o' 6 aG' z z z) z ?_
 obtain⟨dY,cz,hr⟩:=hr
 refine P' z z (t' E22 z) (cP' cz) z (⟨(X.mono (mt g p)),(Z.mono (mt g p)),(Y.mono (mt g p)),(R.mono (mt g p))⟩) (fun dE cJ e a1=>?_)
 obtain⟨bc,bf,bn,bp,bg,be,dd,c1,rfl,ba,bs,bd,cT⟩:=a1
 refine mv z z<|yy (y' z z) z<|yy (y' z z) z<|yy (y' z z) z<|V' 14 z z34 z fun b5=>s' 14 z bH' z z z z z (List.all_eq_true.1 z)<|sg z z<|sx0 z z<|aM' (fun (L:Mem)=>match L with|aR=>[(11,pt0 b4)]) (fun (L:Mem)=>match L with|aR=>Mem.le cJ aR/\(Ze3 bJ).Ret r) (fun (L:Mem)=>match L with|aR=>St w0 G0 aR [(11,bk0 b4 (v34' bJ.1 ae ac al av ah ag a2 a4) 34)]) ?_ ?_
 .refine sr<|mv z z<|ad' hr z (aw' z z) z (fun dy hr=>?_) (fun dy hr=>?_)
  .refine mv z z<|sn2 z<|yy (h' z z) z<|mv z z<|sn2 z<|yy (h' z z) z<|mv z z<|sn2 z<|yy (h' z z) z<|mv z z<|sn4 z<|yy (h' z z) z<|mv z z<|sn2 z<|yy (h' z z) z<|mv z z<|sn2 z<|yy (h' z z) z<|mv z z<|sn3 z<|yy (h' z z) z<|nx<|U' z<|sr<|sx0 z z<|j'<|a' (k0' hr z z)
  refine mv z z<|gy z z (e' z) z<|ad' hr (v' z z) (aw' z z) z (fun df hr=>?_) (fun df hr=>?_)
  .refine yy (l' z z) z<|mv z z<|sn2 z<|yy (h' z z) z<|mv z z<|sn2 z<|yy (h' z z) z<|mv z z<|sn4 z<|yy (h' z z) z<|mv z z<|sn2 z<|yy (h' z z) z<|mv z z<|sn2 z<|yy (h' z z) z<|mv z z<|sn3 z<|yy (h' z z) z<|nx<|U' z<|sr<|sx0 z z<|j'<|a' (k0' hr z z)
  refine yy (l' z z) z<|mv z z<|gy z z (e' z) z<|ad' hr (v' z z) (aw' z z) z (fun dg hr=>?_) (fun dg hr=>?_)
  .refine yy (l' z z) z<|mv z z<|sn2 z<|yy (h' z z) z<|mv z z<|sn4 z<|yy (h' z z) z<|mv z z<|sn2 z<|yy (h' z z) z<|mv z z<|sn2 z<|yy (h' z z) z<|mv z z<|sn3 z<|yy (h' z z) z<|nx<|U' z<|sr<|sx0 z z<|j'<|a' (k0' hr z z)
  refine yy (l' z z) z<|mv z z<|gy z z (e' z) z<|ad' hr (v' z z) (aw' z z) z (fun dl hr=>?_) (fun dl hr=>?_)
  .refine yy (l' z z) z<|mv z z<|sn4 z<|yy (h' z z) z<|mv z z<|sn2 z<|yy (h' z z) z<|mv z z<|sn2 z<|yy (h' z z) z<|mv z z<|sn3 z<|yy (h' z z) z<|nx<|U' z<|sr<|sx0 z z<|j'<|a' (k0' hr z z)
  refine yy (l' z z) z<|mv z z<|gy z z (aj' z) z<|gy z z (f' 11 bc' z z z) z<|gy z z (M' D' (T.mono e) z) z<|ad' hr (v' z z) (aw' z z) z (fun cX hr=>?_) (fun cX hr=>?_)
  .refine yy (l' z z) z<|mv z z<|sn2 z<|yy (h' z z) z<|mv z z<|sn2 z<|yy (h' z z) z<|mv z z<|sn3 z<|yy (h' z z) z<|nx<|U' z<|sr<|sx0 z z<|j'<|a' (k0' hr z z)
  refine yy (l' z z) z<|mv z z<|gy z z (e' z) z<|ad' hr (v' z z) (aw' z z) z (fun db hr=>?_) (fun db hr=>?_)
  .refine yy (l' z z) z<|mv z z<|sn2 z<|yy (h' z z) z<|mv z z<|sn3 z<|yy (h' z z) z<|nx<|U' z<|sr<|sx0 z z<|j'<|a' (k0' hr z z)
  refine yy (l' z z) z<|mv z z<|gy z z (o' 6 aG' z z z) z ?_
  obtain⟨cW,cy,hr⟩:=hr
  have N1:=mt (mt g p) e
  refine F' (v' z z) z (t' E16 z) (Zby _ _ _ _ _ _ _ _ _ _ _ _ cy) z (⟨(X.mono N1),(Z.mono N1),(Y.mono N1),(R.mono N1)⟩) ?_
  cases cW
  .refine yy (l' z z) z<|mv z z<|gy z z (o' 6 aG' z z z) z ?_
   obtain⟨dH,cs,hr⟩:=hr
   refine F' (v' z z) z (t' E16 z) (Zby _ _ _ _ _ _ _ _ _ _ _ _ cs) z (⟨(X.mono N1),(Z.mono N1),(Y.mono N1),(R.mono N1)⟩)<|gy z z (al' z) z<|yy (l' z z) z<|nx<|aL' hr z (fun du hr=>?_) (fun du hr=>?_)
   .refine sr<|sx0 z z<|j'<|a' (k0' hr z z)
   refine q'<|ar' cJ ⟨mr,hr⟩ (f1 z) (w1 z)
  refine yy (l' z z) z<|mv z z<|sn3 z<|yy (h' z z) z<|nx<|U' z<|sr<|sx0 z z<|j'<|a' (k0' hr z z)
 rintro aR ⟨m,hr⟩
 refine sr<|yy (o' 11 aG' z z z) z ?_
 obtain⟨dT,cC,hr⟩:=hr
 refine P' z z (t' E11 z) (bJ' cC) z (⟨(s.mono (mt e m)),(y.mono (mt e m)),(q.mono (mt e m)),(T.mono (mt e m))⟩) (fun dB d3 M a6=>?_)
 obtain⟨cb,b0,ck,cr,ce,cc,rfl,aH,cp,cf⟩:=a6
 refine mv z z<|yy (y' z z) z<|yy (y' z z) z<|V' 17 z z31 z fun b6=>s' 17 z aV' z z z z z (List.all_eq_true.1 z)<|sg z z<|nr<|yy (o' 11 aG' z z z) z ?_
 obtain⟨dJ,cl,hr⟩:=hr
 have N2:=mt (mt e m) M
 refine P' z z (t' E11 z) (bJ' cl) z (⟨(s.mono N2),(y.mono N2),(q.mono N2),(T.mono N2)⟩) (fun dF d4 af a8=>?_)
 obtain⟨cd,bX,cx,cE,bY,bT,rfl,aG,ct,bU⟩:=a8
 refine mv z z<|yy (y' z z) z<|yy (y' z z) z<|V' 19 z z31 z fun b7=>s' 19 z aV' z z z z z (List.all_eq_true.1 z)<|sg z z<|nr<|yy (o' 11 aG' z z z) z ?_
 obtain⟨dW,ch,hr⟩:=hr
 have N3:=mt N2 af
 refine P' z z (t' E11 z) (bJ' ch) z (⟨(s.mono N3),(y.mono N3),(q.mono N3),(T.mono N3)⟩) (fun dD d8 bb a3=>?_)
 obtain⟨bS,ca,cm,cD,bZ,bW,rfl,b9,cg,bV⟩:=a3
 refine mv z z<|yy (y' z z) z<|yy (y' z z) z<|V' 21 z z31 z fun b8=>s' 21 z aV' z z z z z (List.all_eq_true.1 z)<|sg z z<|nr<|mv z z<|ad' hr z (au' z z) z (fun dj hr=>?_) (fun dj hr=>?_)
 .refine mv z z<|gy z z (e' z) z<|ad' hr (v' z z) (au' z z) z (fun dx hr=>?_) (fun dx hr=>?_)
  .refine yy (h' z z) z<|mv z z<|gy z z (e' z) z<|ad' hr (v' z z) (au' z z) z (fun dt hr=>?_) (fun dt hr=>?_)
   .refine yy (h' z z) z<|mv z z<|gy z z (aH' z) z<|gy z z (f' 17 bC' z z z) z<|gy z z (M' H' (aH.mono (mt af bb)) z) z<|ad' hr (v' z z) (au' z z) z (fun dq hr=>?_) (fun dq hr=>?_)
    .refine yy (h' z z) z<|mv z z<|gy z z (aH' z) z<|gy z z (f' 19 bC' z z z) z<|gy z z (M' H' (aG.mono bb) z) z<|ad' hr (v' z z) (au' z z) z (fun de hr=>?_) (fun de hr=>?_)
     .refine yy (h' z z) z<|mv z z<|gy z z (av' (vs:=#[(3,i' 1)]) (v:=.agg ([.slice none 0 0,.slice none 0 0,.slice none 0 0,i' 1]).toArray) z z (fun _=>by kernel_rfl)) z<|gy z z (av' (vs:=#[(0,.agg ([.slice none 0 0,.slice none 0 0,.slice none 0 0,i' 1]).toArray)]) (v:=.agg ([.slice none 0 0,.slice none 0 0,.slice none 0 0,i' 1,.slice none 0 0]).toArray) z z (fun _=>by kernel_rfl)) z ?_
      obtain⟨dS,cB,hr⟩:=hr
      refine F' (v' z z) z (t' E18 z) (cX' cB) z (⟨(W' Rp.str _),(W' b' _),(W' b' _),(W' Q' _)⟩)<|gy z z (al' z) z<|yy (h' z z) z<|sx0 z z<|j' (k0' hr z z)
     refine yy (h' z z) z<|mv z z<|sn4 z<|yy (l' z z) z<|sx0 z z<|j' (k0' hr z z)
    refine yy (h' z z) z<|mv z z<|sn4 z<|yy (l' z z) z<|mv z z<|sn4 z<|yy (l' z z) z<|sx0 z z<|j' (k0' hr z z)
   refine yy (h' z z) z<|mv z z<|sn4 z<|yy (l' z z) z<|mv z z<|sn4 z<|yy (l' z z) z<|mv z z<|sn4 z<|yy (l' z z) z<|sx0 z z<|j' (k0' hr z z)
  refine yy (h' z z) z<|mv z z<|sn2 z<|yy (l' z z) z<|mv z z<|sn4 z<|yy (l' z z) z<|mv z z<|sn4 z<|yy (l' z z) z<|mv z z<|sn4 z<|yy (l' z z) z<|sx0 z z<|j' (k0' hr z z)
 refine mv z z<|sn2 z<|yy (l' z z) z<|mv z z<|sn2 z<|yy (l' z z) z<|mv z z<|sn4 z<|yy (l' z z) z<|mv z z<|sn4 z<|yy (l' z z) z<|mv z z<|sn4 z<|yy (l' z z) z<|sx0 z z<|j' (k0' hr z z)
theorem gK'{r}(hr:(Zj2).Ret r):Ctr prog 45 #[] (fun G=>True) (wl' Rp.str r):=by
 refine E' (args:=[]) (N:=2) func45 z z z fun j k d g=>sr<|sg z z<|nr<|bd' (e:=9) (r:=Rp.str) (vs:=#[(0,.string ZG),(1,.string ZJ),(2,.string Zar),(3,.string Zah),(4,.string Z6),(5,.string Z0)]) (cs:=[.string ZG]++([.string ZJ]++([.string Zar]++([.string Zah]++([.string Z6]++([.string Z0]++([]))))))) ([ZG,ZJ,Zar,Zah,Z6,Z0]:List ByteArray) z z z z z (by decide) (fun _=>by kernel_rfl) ⟨[.string ZG],[.string ZJ]++([.string Zar]++([.string Zah]++([.string Z6]++([.string Z0]++([]))))),z,z,⟨[.string ZJ],[.string Zar]++([.string Zah]++([.string Z6]++([.string Z0]++([])))),z,z,⟨[.string Zar],[.string Zah]++([.string Z6]++([.string Z0]++([]))),z,z,⟨[.string Zah],[.string Z6]++([.string Z0]++([])),z,z,⟨[.string Z6],[.string Z0]++([]),z,z,⟨[.string Z0],[],z,z,z⟩⟩⟩⟩⟩⟩ (key:=999) z (by rw[d]; rfl) fun i h f c=>sx0 z z<|j' ?_
 obtain rfl:_=r:=hr
 exact k' z z ⟨_,_,z,c⟩
theorem gZ'{d r}(hr:(ZhE d).Ret r):Ctr prog 61 #[.int .i8 d] (fun G=>True) (fun G v=>v=i' r):=by
 refine E' (args:=[_]) (N:=10) func61 z z z fun g h f e=>sr<|sx0 z z<|n'<|sr<|mv z z<|yy (ai' z z) z<|nx<|L' hr z (fun c hr=>?_) (fun c hr=>?_)
 .refine sr<|mv z z<|yy (aN' ex' aB' z) z<|yy (Y0.neg z) z<|sx0 z z<|j'<|a' (k0' hr z z)
 refine q'<|g'<|sr<|mv z z<|yy (aN' ex' aB' z) z<|sx0 z z<|j' (k0' hr z z)
theorem dT'{f j k r}(hr:(Zcb f).Ret r):Ctr prog 166 #[.slice j f.length k] (fun G=>sl (Rp.int .u32) G j k f) (wl' (Rp.int .u32) r):=by
 refine E' (args:=[_]) (N:=21) func166 z z z (fun s m D p=>?_)
 have i:=p
 refine sr<|sg z z<|nr<|mv z z<|yy (M' C' i z) z<|sx0 z z<|n'<|am' (fun (⟨h,g⟩:Int×Mem)=>[(0,.slice j f.length k),(3,i' h)]) (fun ⟨h,g⟩=>Mem.le m g/\(Zfh f h).Ret r) (fun ⟨h,g⟩=>St s m g []) ?_ ?_
 .refine B' ?_
  let l:Int->Prop:=fun A=>((fun y=>match y with|h=>Zfh f h:Int->Cq (List Int)) A).wp (fun a=>a=r)
  replace hr:(Cq.loop _ _).wp l:=hr
  refine an' (Φ:=l) (fun (⟨e,d⟩:Int×Mem)=>(e:Int)) (fun ⟨e,d⟩=>[(0,.slice j f.length k),(3,i' e)]) (fun ⟨e,d⟩=>Mem.le m d) (fun ⟨e,d⟩=>St s m d []) ⟨(f.length:Int),m⟩ hr (f2 z z) mr (wk ln) ?_
  .intro C x B hr
   obtain⟨e,d⟩:=x
   have c:=B
   refine n'<|sr<|mv z z<|ad' hr z (bh' z z) z (fun t hr=>?_) (fun t hr=>?_)
   .refine mv z z<|gy z z (e' z) z<|gy z z (e' z) z<|gy z z (bj' z z) z ?_
    obtain⟨H,o,hr⟩:=hr
    refine gy z z (T' C' bt' (i.mono c) z z o) z<|gy z z (Z' bV' z (aF' (I' (ae' i o) c))) z<|gy z z (au' z z) z<|yy (h' z z) z<|nx<|L' hr z (fun u hr=>?_) (fun u hr=>?_)
    .refine q'<|g'<|B'<|A'<|mv z z<|yy (bj' z z) z<|sg z z<|u'<|J'<|Y' ⟨i64.wrap (e-1),d⟩ hr c (f2 z z) (wk ln)
    refine ao'<|r'<|r'<|O'<|ap' ⟨e,d⟩ ⟨c,hr⟩ (f2 z z) (wk ln)
   refine mv z z<|sn6 z<|yy (l' z z) z<|nx<|bb' z<|ao'<|r'<|r'<|O'<|ap' ⟨e,d⟩ ⟨c,hr⟩ (f2 z z) (wk ln)
 rintro⟨h,g⟩ ⟨n,hr⟩
 refine g'<|sr<|mv z z<|mv z z ?_
 obtain⟨v,hr⟩:=hr
 refine WL.sliceRH (r:=(Rp.int .u32)) z z C' bt' z (i.mono n) z z v fun F E q=>sx0 z z<|j' ?_
 obtain rfl:_=r:=hr
 exact k' z z ⟨_,_,z,q⟩
theorem eq'{c r}(hr:(ZdB c).Ret r):Ctr prog 119 #[.int .u64 c] (fun G=>True) (wl' (Rp.int .u32) r):=by
 refine E' (args:=[_]) (N:=11) func119 z z z fun t v i n=>sr<|sg z z<|nr<|mv z z<|yy (bA' z z (by decide)) z<|yy (aN' az' aD' z) z<|mv z z<|yy (dX' z z (by decide)) z<|yy (aN' az' aD' z) z<|bd' (e:=202) (r:=(Rp.int .u32)) (vs:=#[(0,.int .u32 (u32.wrap (Int.tmod c 4294967296))),(1,.int .u32 (u32.wrap (u64.wrap (Int.tdiv c 4294967296))))]) (cs:=[.int .u32 (u32.wrap (Int.tmod c 4294967296))]++([.int .u32 (u32.wrap (u64.wrap (Int.tdiv c 4294967296)))]++([]))) ([u32.wrap (Int.tmod c 4294967296),u32.wrap (u64.wrap (Int.tdiv c 4294967296))]:List Int) z z z z z (by decide) (fun _=>by kernel_rfl) ⟨[.int .u32 (u32.wrap (Int.tmod c 4294967296))],[.int .u32 (u32.wrap (u64.wrap (Int.tdiv c 4294967296)))]++([]),z,z,⟨[.int .u32 (u32.wrap (u64.wrap (Int.tdiv c 4294967296)))],[],z,z,z⟩⟩ (key:=999) z (by rw[i]; rfl) (fun u s k h=>?_)
 obtain⟨p,g,hr⟩:=hr
 refine P' z z (t' E166 z) (dT' g) z (h) (fun m q j d=>?_)
 obtain⟨l,o,rfl,f⟩:=d
 refine sx0 z z<|j' ?_
 obtain rfl:_=r:=hr
 exact k' z z ⟨_,_,z,f⟩
theorem cS'{h m j k r}(hr:(ZaU h m).Ret r):Ctr prog 118 #[.bool h,.slice j m.length k] (fun G=>sl (Rp.int .u32) G j k m) (w128' r):=by
 refine E' (args:=[_,_]) (N:=16) func118 z z z (fun y A u l=>?_)
 have o:=l
 refine sr<|V' 4 z z128 z fun x=>nr<|mv z z ?_
 obtain⟨c,n,hr⟩:=hr
 refine P' z z (t' E166 z) (dT' n) z (o) (fun s t q g=>?_)
 obtain⟨d,e,rfl,f⟩:=g
 refine sg z z<|nr<|ad' hr z (dc' (e' z) (congrArg Value.bool (bdec _))) z (fun p hr=>?_) (fun p hr=>?_)
 .refine mv z z<|gy z z (e' z) z<|gy z z (M' C' f z) z<|gy z z (bh' z z) z<|yy (h' z z) z<|mv z z<|yy (av' (vs:=#[(0,.bool (decide (0<(c.length:Int)))),(1,.slice d c.length e)]) (v:=.agg ([.bool (decide (0<(c.length:Int))),.slice d c.length e]).toArray) z z (fun _=>by kernel_rfl)) z<|s' 4 z dl' z z z z z (List.all_eq_true.1 z)<|nx<|j' ?_
  obtain rfl:_=r:=hr
  exact k' z (aa' (i:=4) bu' z z z) ⟨_,_,z,f⟩
 refine mv z z<|sn3 z<|yy (l' z z) z<|mv z z<|yy (av' (vs:=#[(0,.bool false),(1,.slice d c.length e)]) (v:=.agg ([.bool false,.slice d c.length e]).toArray) z z (fun _=>by kernel_rfl)) z<|s' 4 z dl' z z z z z (List.all_eq_true.1 z)<|nx<|j' ?_
 obtain rfl:_=r:=hr
 exact k' z (aa' (i:=4) bu' z z z) ⟨_,_,z,f⟩
theorem fV'{u r}(hr:(ZiS u).Ret r):Ctr prog 84 #[i' u] (fun G=>True) (w128' r):=by
 refine E' (args:=[_]) (N:=16) func84 z z z fun X Y S I=>sr<|V' 2 z z128 z fun W=>nx<|n'<|sr<|mv z z<|yy (ai' z z) z<|nx<|L' hr z (fun v hr=>?_) (fun v hr=>?_)
 .refine sr<|mv z z<|yy (X' z z) z<|yy (Y0.neg z) z<|yy (aN' underlying2 az' z) z<|yy (X' z z) z ?_
  obtain⟨M,m,hr⟩:=hr
  refine P' z z (t' E119 z) (eq' m) z (trivial) (fun D Q y d=>?_)
  obtain⟨C,K,rfl,k⟩:=d
  obtain⟨V,n,hr⟩:=hr
  refine P' z z (t' E118 z) (cS' n) z (k) (fun E P x c=>?_)
  obtain⟨p,q,rfl,g⟩:=c
  refine s' 2 z dl' z z z z z (List.all_eq_true.1 z)<|nx<|j'<|a' ?_
  obtain rfl:_=r:=hr
  exact k' z (aa' (i:=2) bu' z z z) ⟨_,_,z,g⟩
 refine q'<|g'<|sr<|mv z z<|yy (aN' underlying2 az' z) z ?_
 obtain⟨O,l,hr⟩:=hr
 refine P' z z (t' E119 z) (eq' l) z (trivial) (fun L T B h=>?_)
 obtain⟨H,F,rfl,o⟩:=h
 obtain⟨U,j,hr⟩:=hr
 refine P' z z (t' E118 z) (cS' j) z (o) (fun J R A f=>?_)
 obtain⟨t,s,rfl,e⟩:=f
 refine s' 2 z dl' z z z z z (List.all_eq_true.1 z)<|nx<|j' ?_
 obtain rfl:_=r:=hr
 exact k' z (aa' (i:=2) bu' z z z) ⟨_,_,z,e⟩
theorem fH'{q r}(hr:(ZdC q).Ret r):Ctr prog 64 #[i' q] (fun G=>True) (w130' r):=by
 refine E' (args:=[_]) (N:=7) func64 z z z fun D E B x=>sr<|V' 2 z z130 z fun C=>nr<|mv z z ?_
 obtain⟨l,o,hr⟩:=hr
 refine P' z z (t' E84 z) (fV' o) z (trivial) (fun t A s j=>?_)
 obtain⟨d,e,rfl,h⟩:=j
 obtain⟨m,p,hr⟩:=hr
 refine P' z z (t' E84 z) (fV' p) z (trivial) (fun u y n g=>?_)
 obtain⟨c,f,rfl,k⟩:=g
 refine yy (av' (vs:=#[(0,.agg ((v128' l d e)).toArray),(1,.agg ((v128' m c f)).toArray)]) (v:=.agg ([.bool l.neg,.slice d l.mag.length e,.bool m.neg,.slice c m.mag.length f]).toArray) z z (fun _=>by kernel_rfl)) z<|s' 2 z sz130 z z z z z (List.all_eq_true.1 z)<|nx<|j' ?_
 obtain rfl:_=r:=hr
 exact k' z (aa' (i:=2) cR' z z z) ⟨_,_,_,_,z,(h.mono n),k⟩
theorem eW'{g d c r}(hr:(Zf4 g).Ret r):Ctr prog 115 #[.agg ((v128' g d c)).toArray] (fun G=>sl (Rp.int .u32) G d c g.mag) (fun G v=>v=i' r):=by
 refine E' (args:=[_]) (N:=9) func115 z z z (fun k l i f=>?_)
 have e:=f
 refine sr<|af' 1 z z z fun j=>sx0 z z<|n'<|sr<|yy (bs' z) z<|yy (f' 1 sc4 z z z) z<|nx<|aL' hr z (fun h hr=>?_) (fun h hr=>?_)
 .refine sr<|sx0 z z<|j'<|a' (k0' hr z z)
 refine q'<|g'<|sr<|yy (aZ' z) z<|yy (f' 1 bL' z z z) z<|yy (M' C' e z) z<|yy (Y0.min2 z z) z<|sx0 z z<|j' (k0' hr z z)
theorem eX'{h d c e f r}(hr:(Zcc h).Ret r):Ctr prog 82 #[.agg ((v130' h d c e f)).toArray] (fun G=>sl (Rp.int .u32) G d c h.num.mag/\sl (Rp.int .u32) G e f h.den.mag) (fun G v=>v=i' r):=by
 refine E' (args:=[_]) (N:=6) func82 z z z (fun o p m k=>?_)
 obtain⟨g,i⟩:=k
 refine sr<|af' 1 z z z fun n=>sg z z<|nr<|yy (cE' z) z<|yy (aI' ((v128' h.num d c)).toArray 1 bu' z z z (aU' ([]) ((v128' h.num d c)) ((v128' h.den e f)))) z ?_
 obtain⟨l,j,hr⟩:=hr
 refine F' z z (t' E115 z) (eW' j) z (g)<|sx0 z z<|j' (k0' hr z z)
theorem fI'{l r}(hr:(ZeV l).Ret r):Ctr prog 148 #[.agg (vecG (Value.int .i64) 8 l).toArray] (fun G=>True) (fun G v=>v = .bool r):=by
 refine E' (args:=[_]) (N:=18) func148 z z z fun o i B u=>sr<|af' 1 z z z fun n=>sx0 z z<|n'<|sr<|sx0 z z<|am' (fun (e:Mem)=>match e with|d=>[]) (fun (e:Mem)=>match e with|d=>Mem.le i d/\(Zem).Ret r) (fun (e:Mem)=>match e with|d=>St o i d []) ?_ ?_
 .refine B' ?_
  let h:(Bool⊕Unit)->Prop:=fun x=>((fun t=>match t with | .inl rv1=>Cq.ret rv1 | .inr ()=>Zem:(Bool⊕Unit)->Cq Bool) x).wp (fun a=>a=r)
  replace hr:(Cq.loop _ _).wp h:=hr
  refine an' (Φ:=h) (fun (⟨f,c⟩:Int×Mem)=>(f:Int)) (fun ⟨f,c⟩=>[(1,pt0 n),(3,i' f)]) (fun ⟨f,c⟩=>Mem.le i c) (fun ⟨f,c⟩=>St o i c [(1,bk0 n (vecG (Value.int .i64) 8 l) 120)]) ⟨0,i⟩ hr (f2 z z) mr (w1 z) ?_
  .intro A e y hr
   obtain⟨f,c⟩:=e
   have g:=y
   refine n'<|sr<|mv z z<|yy (ai' z z) z<|nx<|L' hr z (fun q hr=>?_) (fun q hr=>?_)
   .refine q'<|g'<|n'<|B'<|sr<|mv z z ?_
    obtain⟨j,hr⟩:=hr
    refine yy (bi' aO' sz3 z z j) z<|yy (f' 1 sc3 z z (bk' _ _ _ j)) z<|ad' hr z (ai' z z) z (fun p hr=>?_) (fun p hr=>?_)
    .refine mv z z<|sn4 z<|yy (h' z z) z<|nx<|U' z<|sr<|sx0 z z<|j'<|m'<|a'<|a'<|m'<|ag'<|a' (k0' hr z z)
    refine mv z z<|gy z z (e' z) z ?_
    obtain⟨k,hr⟩:=hr
    refine gy z z (bi' aO' sz3 z z k) z<|gy z z (f' 1 sc3 z z (bk' _ _ _ k)) z<|gy z z (bh' z z) z<|yy (l' z z) z<|nx<|L' hr z (fun m hr=>?_) (fun m hr=>?_)
    .exact (show False from hr).elim
    refine q'<|J'<|g'<|A'<|mv z z<|yy (X' z z) z<|sg z z<|u'<|Y' ⟨i64.wrap (f+1),c⟩ hr g (f2 z z) (w1 z)
   refine ao'<|r'<|r'<|O'<|ap' c ⟨g,hr⟩ fn (wk ln)
 rintro d ⟨s,hr⟩
 refine g'<|sr<|sx0 z z<|j' (k0' hr z z)
theorem ha'{s k r}(hr:(ZjD s k).Ret r):Ctr prog 116 #[.agg (vecG (Value.int .i64) 8 s).toArray,.agg (vecG (Value.int .i64) 8 k).toArray] (fun G=>True) (fun G v=>v = .tuple #[.agg (vecG (Value.int .i64) 8 r.1).toArray,i' r.2]):=by
 refine E' (args:=[_,_]) (N:=24) func116 z z z fun A m Q K=>sr<|af' 2 z z z fun n=>af' 3 z z z fun C=>V' 4 z z120 z fun o=>sx0 z z<|n'<|sr<|sx0 z z<|am' (fun (⟨d,g⟩:(Fin 8->Int)×Mem)=>[(2,pt0 n),(4,pt0 o)]) (fun ⟨d,g⟩=>Mem.le m g/\(Zga d).Ret r) (fun ⟨d,g⟩=>St A m g [(2,bk0 n (vecG (Value.int .i64) 8 d) 120),(4,bk0 o (vecG (Value.int .i64) 8 (fun _=>0)) 120)]) ?_ ?_
 .refine B' ?_
  let l:(Fin 8->Int)->Prop:=fun L=>((fun J=>match J with|d=>Zga d:(Fin 8->Int)->Cq ((Fin 8->Int)×Int)) L).wp (fun a=>a=r)
  replace hr:(Cq.loop _ _).wp l:=hr
  refine an' (Φ:=l) (fun (⟨e,c,f⟩:Int×(Fin 8->Int)×Mem)=>((e,c):Int×(Fin 8->Int))) (fun ⟨e,c,f⟩=>[(2,pt0 n),(3,pt0 C),(4,pt0 o),(6,i' e)]) (fun ⟨e,c,f⟩=>Mem.le m f) (fun ⟨e,c,f⟩=>St A m f [(2,bk0 n (vecG (Value.int .i64) 8 c) 120),(3,bk0 C (vecG (Value.int .i64) 8 k) 120),(4,bk0 o (vecG (Value.int .i64) 8 (fun _=>0)) 120)]) ⟨0,s,m⟩ hr (f4 z z z z) mr (w3 z z z) ?_
  .intro P H M hr
   obtain⟨e,c,f⟩:=H
   have j:=M
   refine n'<|sr<|mv z z<|yy (ai' z z) z<|nx<|L' hr z (fun y hr=>?_) (fun y hr=>?_)
   .refine q'<|g'<|n'<|B'<|ah' [ff,ff,ff,ff,ff,ff] mix (by kernel_rfl) fun I=>cn (fun _ h=>e' z) ?_
    obtain⟨p,hr⟩:=hr
    refine cn (fun _ h=>bi' aO' sz3 z z p)<|cn (fun _ h=>f' 2 sc3 z z (bk' _ _ _ p))<|cn (fun _ h=>e' z) ?_
    obtain⟨q,hr⟩:=hr
    refine cn (fun _ h=>bi' aO' sz3 z z q)<|cn (fun _ h=>f' 3 sc3 z z (bk' _ _ _ q))<|R' I<|yy (X' z z) z ?_
    obtain⟨B,hr⟩:=hr
    refine yy (bi' aO' sz3 z z B) z<|aC' 2 (vecG (Value.int .i64) 8 (setF c e.toNat (i64.wrap ((getF c e)+(getF k e))))).toArray z sz3 z z z (by first|(rw[ac']; omega)|(show _<(vecG _ _ _).toArray.size; rw[ac']; omega)) z (ci' _ _ _ _ _)<|u'<|aq'<|J'<|g'<|A'<|mv z z<|yy (X' z z) z<|sg z z<|u'<|Y' ⟨i64.wrap (e+1),setF c e.toNat (i64.wrap ((getF c e)+(getF k e))),f⟩ hr j (f4 z z z z) (w3 z z z)
   refine ao'<|r'<|r'<|O'<|ap' ⟨c,f⟩ ⟨j,hr⟩ (f2 z z) (w2 z z)
 rintro⟨d,g⟩ ⟨F,hr⟩
 refine g'<|n'<|sr<|yy (o' 2 bS' z z (ac' _ _ _)) z ?_
 obtain⟨O,t,hr⟩:=hr
 refine F' z z (t' E148 z) (fI' t) z (trivial)<|yy (al' z) z<|nx<|aL' hr z (fun D hr=>?_) (fun D hr=>?_)
 .exact (show False from hr).elim
 refine q'<|g'<|sr<|yy (o' 2 bS' z z (ac' _ _ _)) z<|s' 4 z sz120 z z z (ac' _ _ _) (ac' _ _ _) (fun u E=>Rp.one (dw' .i64 8) (G:=g) (x:=d) (cs:=vecG (Value.int .i64) 8 d) z u (by first|simpa using E|simpa [Value.cells] using E))<|sx0 z z<|j' ?_
 obtain rfl:_=r:=hr
 exact aE' z (aa' (i:=4) bS' z z (ac' _ _ _)) z z
theorem gL'{d c B C F H r}(hr:(Zj0 d c).Ret r):Ctr prog 165 #[.slice B d.length C,.slice F c.length H] (fun G=>sl (Rp.int .u32) G B C d/\sl (Rp.int .u32) G F H c) (wl' (Rp.int .u32) r):=by
 refine E' (args:=[_,_]) (N:=69) func165 z z z (fun Y O aw ag=>?_)
 obtain⟨I,E⟩:=ag
 refine sr<|sg z z<|nr<|mv z z<|yy (M' C' I z) z<|mv z z<|yy (M' C' E z) z<|yy (X' z z) z ?_
 obtain⟨au,hr⟩:=hr
 refine dS' (r:=(Rp.int .u32)) (e:=202) (n:=i64.wrap ((d.length:Int)+(c.length:Int))) (zx:=0) 4015 z z C' el202 z (by decide) (by decide) z z z au fun M ap aq=>sx0 z z<|n'<|sr<|sx0 z z<|am' (fun (⟨A,v,K⟩:(List Int)×Option Ow×Mem)=>[(5,.slice M (i64.wrap ((d.length:Int)+(c.length:Int))).toNat ((i64.wrap ((d.length:Int)+(c.length:Int))).toNat))]) (fun ⟨A,v,K⟩=>Mem.le O K/\RowR (Rp.int .u32) 202 K (.slice M (i64.wrap ((d.length:Int)+(c.length:Int))).toNat ((i64.wrap ((d.length:Int)+(c.length:Int))).toNat)) A v/\(Zek A).Ret r) (fun ⟨A,v,K⟩=>St Y O K [(4015,v)]) ?_ ?_
 .refine B' ?_
  let L:(List Int)->Prop:=fun oo=>((fun ov=>match ov with|A=>Zek A:(List Int)->Cq (List Int)) oo).wp (fun a=>a=r)
  replace hr:(Cq.loop _ _).wp L:=hr
  refine an' (Φ:=L) (fun (⟨s,h,g,x⟩:(List Int)×Option Ow×Int×Mem)=>((s,g):(List Int)×Int)) (fun ⟨s,h,g,x⟩=>[(0,.slice B d.length C),(1,.slice F c.length H),(5,.slice M (i64.wrap ((d.length:Int)+(c.length:Int))).toNat ((i64.wrap ((d.length:Int)+(c.length:Int))).toNat)),(6,i' g)]) (fun ⟨s,h,g,x⟩=>Mem.le O x/\RowR (Rp.int .u32) 202 x (.slice M (i64.wrap ((d.length:Int)+(c.length:Int))).toNat ((i64.wrap ((d.length:Int)+(c.length:Int))).toNat)) s h) (fun ⟨s,h,g,x⟩=>St Y O x [(4015,h)]) ⟨(List.replicate (i64.wrap ((d.length:Int)+(c.length:Int))).toNat 0),ap,0,O⟩ hr (f4 z z z z) ⟨mr,aq⟩ (w1 z) ?_
  .intro ae gx hx hr
   obtain⟨s,h,g,x⟩:=gx
   obtain⟨j,R⟩:=hx
   refine n'<|sr<|mv z z<|mv z z<|yy (M' C' (I.mono j) z) z<|yy (ai' z z) z<|nx<|L' hr z (fun ax hr=>?_) (fun ax hr=>?_)
   .refine q'<|g'<|n'<|B'<|sr<|sx0 z z<|n'<|sr<|sx0 z z<|am' (fun (⟨t,q,m,J⟩:(List Int)×Option Ow×Int×Mem)=>[(0,.slice B d.length C),(1,.slice F c.length H),(5,.slice M (i64.wrap ((d.length:Int)+(c.length:Int))).toNat ((i64.wrap ((d.length:Int)+(c.length:Int))).toNat)),(6,i' g),(7,.int .u64 m)]) (fun ⟨t,q,m,J⟩=>Mem.le x J/\RowR (Rp.int .u32) 202 J (.slice M (i64.wrap ((d.length:Int)+(c.length:Int))).toNat ((i64.wrap ((d.length:Int)+(c.length:Int))).toNat)) t q/\(Zel c g t m).wp (Out ae L)) (fun ⟨t,q,m,J⟩=>St Y O J [(4015,q)]) ?_ ?_
    .refine B' ?_
     let U:(((List Int)×Int))->Prop:=fun oo=>((fun ov=>match ov with|(t,m)=>Zel c g t m:(((List Int)×Int))->Cq (((List Int)×Int)⊕(List Int))) oo).wp (Out ae L)
     replace hr:(Cq.loop _ _).wp U:=hr
     refine an' (Φ:=U) (fun (⟨u,k,l,o,D⟩:(List Int)×Option Ow×Int×Int×Mem)=>((u,l,o):(List Int)×Int×Int)) (fun ⟨u,k,l,o,D⟩=>[(0,.slice B d.length C),(1,.slice F c.length H),(5,.slice M (i64.wrap ((d.length:Int)+(c.length:Int))).toNat ((i64.wrap ((d.length:Int)+(c.length:Int))).toNat)),(6,i' g),(7,.int .u64 l),(8,i' o)]) (fun ⟨u,k,l,o,D⟩=>Mem.le x D/\RowR (Rp.int .u32) 202 D (.slice M (i64.wrap ((d.length:Int)+(c.length:Int))).toNat ((i64.wrap ((d.length:Int)+(c.length:Int))).toNat)) u k) (fun ⟨u,k,l,o,D⟩=>St Y O D [(4015,k)]) ⟨s,h,0,0,x⟩ hr (f6 z z z z z z) ⟨mr,R⟩ (w1 z) ?_
     .intro aL gx hx hr
      obtain⟨u,k,l,o,D⟩:=gx
      obtain⟨p,y⟩:=hx
      refine n'<|sr<|mv z z<|mv z z<|yy (M' C' (E.mono (mt j p)) z) z<|yy (ai' z z) z<|nx<|L' hr z (fun av hr=>?_) (fun av hr=>?_)
      .refine q'<|g'<|n'<|B'<|n'<|ah' [ff,ff,ff,ff,ff,ff,ff,ff,ff,ff,ff,ff,ff,ff,ff,ff,ff,ff,ff,ff] mix (by kernel_rfl) fun hb=>cn (fun _ f=>e' z)<|cn (fun _ f=>e' z) ?_
       obtain⟨V,ad,hr⟩:=hr
       refine cn (fun _ f=>T' C' bt' ((I.mono (mt j p)).mono f) z z ad)<|cn (fun _ f=>Z' bV' z (aF' (I' (I' (ae' I ad) (mt j p)) f)))<|cn (fun _ f=>aN' aD' az' z)<|cn (fun _ f=>e' z)<|cn (fun _ f=>e' z) ?_
       obtain⟨Z,ac,hr⟩:=hr
       refine cn (fun _ f=>T' C' bt' ((E.mono (mt j p)).mono f) z z ac)<|cn (fun _ f=>Z' bV' z (aF' (I' (I' (ae' E ac) (mt j p)) f)))<|cn (fun _ f=>aN' aD' az' z)<|cn (fun _ f=>Y0.mul z z)<|cn (fun _ f=>e' z)<|cn (fun _ f=>e' z)<|cn (fun _ f=>e' z)<|cn (fun _ f=>X' z z) ?_
       obtain⟨X,ab,hr⟩:=hr
       refine cn (fun _ f=>aP' C' bt' (y.mono f) z z ab)<|cn (fun _ f=>dj' bV' (y.mono f) (key:=4015) z z (aF' (cz' y ab)))<|cn (fun _ f=>aN' aD' az' z)<|cn (fun _ f=>X' z z)<|cn (fun _ f=>e' z)<|R' hb<|yy (X' z z) z<|sg z z<|u'<|aq'<|g'<|sr<|mv z z<|mv z z<|mv z z<|yy (X' z z) z<|mv z z<|yy (bA' z z (by decide)) z<|yy (aN' az' aD' z) z ?_
       obtain⟨x5,aa,hr⟩:=hr
       refine yy (aP' C' bt' y z z aa) z<|bx' (r:=(Rp.int .u32)) (e:=202) (cs':=[.int .u32 (u32.wrap (Int.tmod (u64.wrap ((u64.wrap ((u64.wrap ((u64.wrap V)*(u64.wrap Z)))+(u64.wrap X)))+l)) 4294967296))]) (i:=i64.wrap (g+o)) (z':=u32.wrap (Int.tmod (u64.wrap ((u64.wrap ((u64.wrap ((u64.wrap V)*(u64.wrap Z)))+(u64.wrap X)))+l)) 4294967296)) 4015 z bt' z y z z z z z aa fun ay an=>nx<|A'<|mv z z<|yy (dX' z z (by decide)) z<|sg z z<|u'<|J'<|g'<|A'<|mv z z<|yy (X' z z) z<|sg z z<|u'<|Y' ⟨(u.set (i64.wrap (g+o)).toNat (u32.wrap (Int.tmod (u64.wrap ((u64.wrap ((u64.wrap ((u64.wrap V)*(u64.wrap Z)))+(u64.wrap X)))+l)) 4294967296))),ay,u64.wrap (Int.tdiv (u64.wrap ((u64.wrap ((u64.wrap ((u64.wrap V)*(u64.wrap Z)))+(u64.wrap X)))+l)) 4294967296),i64.wrap (o+1),D⟩ hr ⟨p,an⟩ (f6 z z z z z z) (w1 z)
      refine ao'<|r'<|r'<|O'<|ap' ⟨u,k,l,D⟩ ⟨p,y,hr⟩ (f5 z z z z z) (w1 z)
    rintro⟨t,q,m,J⟩ ⟨P,Q,hr⟩
    refine g'<|A'<|mv z z<|mv z z<|mv z z<|yy (M' C' (E.mono (mt j P)) z) z<|yy (X' z z) z<|mv z z<|yy (aN' az' aD' z) z ?_
    obtain⟨x1,af,hr⟩:=hr
    refine yy (aP' C' bt' Q z z af) z<|bx' (r:=(Rp.int .u32)) (e:=202) (cs':=[.int .u32 (u32.wrap m)]) (i:=i64.wrap (g+(c.length:Int))) (z':=u32.wrap m) 4015 z bt' z Q z z z z z af fun ar ah=>u'<|J'<|g'<|A'<|mv z z<|yy (X' z z) z<|sg z z<|u'<|Y' ⟨(t.set (i64.wrap (g+(c.length:Int))).toNat (u32.wrap m)),ar,i64.wrap (g+1),J⟩ hr ⟨(mt j P),ah⟩ (f4 z z z z) (w1 z)
   refine ao'<|r'<|r'<|O'<|ap' ⟨s,h,x⟩ ⟨j,R,hr⟩ (f1 z) (w1 z)
 rintro⟨A,v,K⟩ ⟨aC,W,hr⟩
 refine g'<|sr<|mv z z<|bn' (r:=(Rp.int .u32)) (e:=202) 4015 W z (by rw[aw]; rfl) (fun aJ aK aB T az=>?_)
 obtain⟨aH,ak,hr⟩:=hr
 refine P' z z (t' E166 z) (dT' ak) (by rw[cH' T]) ((cw' T)) (fun aE aI aA S=>?_)
 obtain⟨aD,aF,rfl,ai⟩:=S
 refine sx0 z z<|j' ?_
 obtain rfl:_=r:=hr
 exact k' z z ⟨_,_,z,ai⟩
theorem ey'{y t f e j g r}(hr:(Zef y t).Ret r):Ctr prog 114 #[.agg ((v128' y f e)).toArray,.agg ((v128' t j g)).toArray] (fun G=>sl (Rp.int .u32) G f e y.mag/\sl (Rp.int .u32) G j g t.mag) (w128' r):=by
 refine E' (args:=[_,_]) (N:=16) func114 z z z (fun Q V L u=>?_)
 obtain⟨o,p⟩:=u
 refine sr<|af' 2 z z z fun S=>af' 3 z z z fun R=>V' 4 z z128 z fun T=>nx<|n'<|ah' [ff,ff,ff,ff,ff,ff,ff,ff,ff,ff] mix (by kernel_rfl) fun P=>cn (fun _ c=>bs' z)<|cn (fun _ c=>f' 2 sc4 z z z)<|cn (fun _ c=>bs' z)<|cn (fun _ c=>f' 3 sc4 z z z)<|cn (fun _ c=>Y0.neqB cv' z z)<|cn (fun _ c=>aZ' z)<|cn (fun _ c=>f' 2 bL' z z z)<|cn (fun _ c=>aZ' z)<|cn (fun _ c=>f' 3 bL' z z z) ?_
 obtain⟨q,A,hr⟩:=hr
 refine aX' (post:=wl' (Rp.int .u32) q) (fun _=>z) (fun _ _=>t' E165 z) (gL' A) z (fun O c=>⟨(o.mono c),(p.mono c)⟩) (fun v W U c h=>?_) ?_
 .obtain⟨s,x,rfl,k⟩:=h
  exact⟨_,_,z,k.mono c⟩
 refine cU' (d:=14) (post:=wl' (Rp.int .u32) q) (fun H K F m=>?_)
 obtain⟨s,x,rfl,k⟩:=m
 obtain⟨M,B,hr⟩:=hr
 refine P' z z (t' E118 z) (cS' B) z (k) (fun I J E l=>?_)
 obtain⟨C,D,rfl,n⟩:=l
 refine s' 4 z dl' z z z z z (List.all_eq_true.1 z)<|u'<|aq'<|g'<|j' ?_
 obtain rfl:_=r:=hr
 exact k' z (aa' (i:=4) bu' z z z) ⟨_,_,z,n⟩
theorem dF'{h j d e r}(hr:(Zc6 h j).Ret r):Ctr prog 194 #[.slice d h.length e,i' j] (fun G=>sl (Rp.int .u32) G d e h) (fun G v=>v = .int .u64 r):=by
 refine E' (args:=[_,_]) (N:=14) func194 z z z (fun m n k g=>?_)
 have c:=g
 refine sr<|sx0 z z<|n'<|sr<|mv z z<|mv z z<|yy (M' C' c z) z<|yy (ai' z z) z<|nx<|L' hr z (fun i hr=>?_) (fun i hr=>?_)
 .refine sr<|mv z z<|mv z z ?_
  obtain⟨l,f,hr⟩:=hr
  refine yy (T' C' bt' c z z f) z<|yy (Z' bV' z (aF' (ae' c f))) z<|yy (aN' aD' az' z) z<|sx0 z z<|j'<|a' (k0' hr z z)
 refine q'<|g'<|sr<|sx0 z z<|j' (k0' hr z z)
theorem fr'{i c d r}(hr:(Zf5 i).Ret r):Ctr prog 208 #[.slice c i.length d] (fun G=>sl (Rp.int .u32) G c d i) (fun G v=>v = .int .u64 r):=by
 refine E' (args:=[_]) (N:=9) func208 z z z (fun m n l g=>?_)
 have e:=g
 refine sr<|sg z z<|nr<|mv z z ?_
 obtain⟨k,h,hr⟩:=hr
 refine F' z z (t' E194 z) (dF' h) z (e)<|yy (Y0.mul z z) z<|mv z z ?_
 obtain⟨j,f,hr⟩:=hr
 refine F' z z (t' E194 z) (dF' f) z (e)<|yy (X' z z) z<|sx0 z z<|j' (k0' hr z z)
theorem gD'{l k r}(hr:(ZiV l k).Ret r):Ctr prog 207 #[.int .u64 l,.int .u64 k] (fun G=>True) (fun G v=>v = .int .u64 r):=by
 refine E' (args:=[_,_]) (N:=14) func207 z z z fun m j A t=>sr<|sx0 z z<|n'<|am' (fun (⟨g,f⟩:Int×Mem)=>[(0,.int .u64 g)]) (fun ⟨g,f⟩=>Mem.le j f/\(ZdQ g).Ret r) (fun ⟨g,f⟩=>St m j f []) ?_ ?_
 .refine B' ?_
  let i:Int->Prop:=fun u=>((fun s=>match s with|g=>ZdQ g:Int->Cq Int) u).wp (fun a=>a=r)
  replace hr:(Cq.loop _ _).wp i:=hr
  refine an' (Φ:=i) (fun (⟨d,e,c⟩:Int×Int×Mem)=>((d,e):Int×Int)) (fun ⟨d,e,c⟩=>[(0,.int .u64 d),(1,.int .u64 e)]) (fun ⟨d,e,c⟩=>Mem.le j c) (fun ⟨d,e,c⟩=>St m j c []) ⟨l,k,j⟩ hr (f2 z z) mr (wk ln) ?_
  .intro y q x hr
   obtain⟨d,e,c⟩:=q
   have h:=x
   refine n'<|sr<|mv z z<|yy (bh' z z) z<|nx<|L' hr z (fun n hr=>?_) (fun n hr=>?_)
   .refine q'<|g'<|B'<|sr<|mv z z<|mv z z ?_
    obtain⟨o,hr⟩:=hr
    refine yy (bA' z z o) z<|sg z z<|nr<|mv z z<|sx0 z z<|A'<|mv z z<|sg z z<|u'<|J'<|Y' ⟨e,Int.tmod d e,c⟩ hr h (f2 z z) (wk ln)
   refine ao'<|r'<|r'<|O'<|ap' ⟨d,c⟩ ⟨h,hr⟩ (f1 z) (wk ln)
 rintro⟨g,f⟩ ⟨p,hr⟩
 refine g'<|sr<|mv z z<|sx0 z z<|j' (k0' hr z z)
theorem dg'{l s m q n p r}(hr:(Zaz l s).Ret r):Ctr prog 163 #[.slice m l.length q,.slice n s.length p] (fun G=>sl (Rp.int .u32) G m q l/\sl (Rp.int .u32) G n p s) (fun G v=>v=i' r):=by
 refine E' (args:=[_,_]) (N:=41) func163 z z z (fun F o P B=>?_)
 obtain⟨f,g⟩:=B
 refine sr<|sx0 z z<|n'<|sr<|mv z z<|yy (M' C' f z) z<|mv z z<|yy (M' C' g z) z<|yy (ai' z z) z<|nx<|L' hr z (fun I hr=>?_) (fun I hr=>?_)
 .refine sr<|sx0 z z<|j'<|a' (k0' hr z z)
 refine q'<|g'<|n'<|sr<|mv z z<|yy (M' C' f z) z<|mv z z<|yy (M' C' g z) z<|yy (bh' z z) z<|nx<|L' hr z (fun C hr=>?_) (fun C hr=>?_)
 .refine sr<|sx0 z z<|j'<|a' (k0' hr z z)
 refine q'<|g'<|n'<|sr<|mv z z<|yy (M' C' f z) z<|yy (bj' z z) z<|sx0 z z<|am' (fun (i:Mem)=>match i with|h=>[]) (fun (i:Mem)=>match i with|h=>Mem.le o h/\(Zcx).Ret r) (fun (i:Mem)=>match i with|h=>St F o h []) ?_ ?_
 .refine B' ?_
  let k:(Int⊕Unit)->Prop:=fun L=>((fun K=>match K with | .inl rv1=>Cq.ret rv1 | .inr ()=>Zcx:(Int⊕Unit)->Cq Int) L).wp (fun a=>a=r)
  replace hr:(Cq.loop _ _).wp k:=hr
  refine an' (Φ:=k) (fun (⟨j,e⟩:Int×Mem)=>(j:Int)) (fun ⟨j,e⟩=>[(0,.slice m l.length q),(1,.slice n s.length p),(5,i' j)]) (fun ⟨j,e⟩=>Mem.le o e) (fun ⟨j,e⟩=>St F o e []) ⟨i64.wrap ((l.length:Int)-1),o⟩ hr (f3 z z z) mr (wk ln) ?_
  .intro O i M hr
   obtain⟨j,e⟩:=i
   have d:=M
   refine n'<|sr<|mv z z<|yy (bf' z z) z<|nx<|L' hr z (fun E hr=>?_) (fun E hr=>?_)
   .refine q'<|g'<|n'<|B'<|n'<|n'<|ah' [ff,ff,ff,ff,ff,ff,ff,ff] mix (by kernel_rfl) fun A=>cn (fun _ c=>e' z)<|cn (fun _ c=>e' z) ?_
    obtain⟨T,t,hr⟩:=hr
    refine cn (fun _ c=>T' C' bt' ((f.mono d).mono c) z z t)<|cn (fun _ c=>Z' bV' z (aF' (I' (I' (ae' f t) d) c)))<|cn (fun _ c=>e' z)<|cn (fun _ c=>e' z) ?_
    obtain⟨R,x,hr⟩:=hr
    refine cn (fun _ c=>T' C' bt' ((g.mono d).mono c) z z x)<|cn (fun _ c=>Z' bV' z (aF' (I' (I' (ae' g x) d) c)))<|R' A<|yy (ai' z z) z<|u'<|aq'<|g'<|L' hr z (fun H hr=>?_) (fun H hr=>?_)
    .refine sr<|sx0 z z<|j'<|a'<|m'<|a'<|a'<|m'<|ag'<|a' (k0' hr z z)
    refine q'<|g'<|n'<|ah' [ff,ff,ff,ff,ff,ff,ff,ff] mix (by kernel_rfl) fun A=>cn (fun _ c=>e' z)<|cn (fun _ c=>e' z) ?_
    obtain⟨S,u,hr⟩:=hr
    refine cn (fun _ c=>T' C' bt' ((f.mono d).mono c) z z u)<|cn (fun _ c=>Z' bV' z (aF' (I' (I' (ae' f u) d) c)))<|cn (fun _ c=>e' z)<|cn (fun _ c=>e' z) ?_
    obtain⟨Q,y,hr⟩:=hr
    refine cn (fun _ c=>T' C' bt' ((g.mono d).mono c) z z y)<|cn (fun _ c=>Z' bV' z (aF' (I' (I' (ae' g y) d) c)))<|R' A<|yy (bh' z z) z<|u'<|aq'<|g'<|L' hr z (fun D hr=>?_) (fun D hr=>?_)
    .refine sr<|sx0 z z<|j'<|m'<|a'<|a'<|m'<|ag'<|a' (k0' hr z z)
    refine q'<|J'<|g'<|A'<|mv z z<|yy (bj' z z) z<|sg z z<|u'<|Y' ⟨i64.wrap (j-1),e⟩ hr d (f3 z z z) (wk ln)
   refine ao'<|r'<|r'<|O'<|ap' e ⟨d,hr⟩ fn (wk ln)
 rintro h ⟨J,hr⟩
 refine g'<|sr<|sx0 z z<|j' (k0' hr z z)
theorem gy'{j s B D r}(hr:(ZhT j s).Ret r):Ctr prog 215 #[.slice B j.length D,.int .u64 s] (fun G=>sl (Rp.int .u32) G B D j) (fun G v=>∃ E A,v = .tuple #[.slice E r.1.length A,.int .u64 r.2]/\sl (Rp.int .u32) G E A r.1):=by
 refine E' (args:=[_,_]) (N:=41) func215 z z z (fun S C U M=>?_)
 have t:=M
 refine sr<|sg z z<|sg z z<|nr<|mv z z<|yy (M' C' t z) z ?_
 obtain⟨T,hr⟩:=hr
 refine dS' (r:=(Rp.int .u32)) (e:=202) (n:=(j.length:Int)) (zx:=0) 4012 z z C' el202 z (by decide) (by decide) z z z T fun F O R=>sg z z<|nr<|sx0 z z<|n'<|sr<|mv z z<|yy (M' C' t z) z<|yy (bj' z z) z<|sx0 z z<|am' (fun (⟨h,g,m,o⟩:(List Int)×Option Ow×Int×Mem)=>[(6,.slice F (j.length:Int).toNat ((j.length:Int).toNat)),(7,.int .u64 m)]) (fun ⟨h,g,m,o⟩=>Mem.le C o/\RowR (Rp.int .u32) 202 o (.slice F (j.length:Int).toNat ((j.length:Int).toNat)) h g/\(Zc5 h m).Ret r) (fun ⟨h,g,m,o⟩=>St S C o [(4012,g)]) ?_ ?_
 .refine B' ?_
  let y:(((List Int)×Int))->Prop:=fun oo=>((fun ov=>match ov with|(h,m)=>Zc5 h m:(((List Int)×Int))->Cq ((List Int)×Int)) oo).wp (fun a=>a=r)
  replace hr:(Cq.loop _ _).wp y:=hr
  refine an' (Φ:=y) (fun (⟨d,c,f,q,k⟩:(List Int)×Option Ow×Int×Int×Mem)=>((d,f,q):(List Int)×Int×Int)) (fun ⟨d,c,f,q,k⟩=>[(0,.slice B j.length D),(1,.int .u64 s),(6,.slice F (j.length:Int).toNat ((j.length:Int).toNat)),(7,.int .u64 f),(8,i' q)]) (fun ⟨d,c,f,q,k⟩=>Mem.le C k/\RowR (Rp.int .u32) 202 k (.slice F (j.length:Int).toNat ((j.length:Int).toNat)) d c) (fun ⟨d,c,f,q,k⟩=>St S C k [(4012,c)]) ⟨(List.replicate (j.length:Int).toNat 0),O,0,i64.wrap ((j.length:Int)-1),C⟩ hr (f5 z z z z z) ⟨mr,R⟩ (w1 z) ?_
  .intro ao gx hx hr
   obtain⟨d,c,f,q,k⟩:=gx
   obtain⟨l,p⟩:=hx
   refine n'<|sr<|mv z z<|yy (bf' z z) z<|nx<|L' hr z (fun V hr=>?_) (fun V hr=>?_)
   .refine q'<|g'<|n'<|B'<|sr<|mv z z<|yy (Y0.mul z z) z<|mv z z<|mv z z ?_
    obtain⟨I,J,hr⟩:=hr
    refine yy (T' C' bt' (t.mono l) z z J) z<|yy (Z' bV' z (aF' (I' (ae' t J) l))) z<|yy (aN' aD' az' z) z<|yy (X' z z) z<|sg z z<|nr<|mv z z<|mv z z<|mv z z<|mv z z ?_
    obtain⟨Y,hr⟩:=hr
    refine yy (dX' z z Y) z<|yy (aN' az' aD' z) z ?_
    obtain⟨x2,K,hr⟩:=hr
    refine yy (aP' C' bt' p z z K) z<|bx' (r:=(Rp.int .u32)) (e:=202) (cs':=[.int .u32 (u32.wrap (u64.wrap (Int.tdiv (u64.wrap ((u64.wrap (f*4294967296))+(u64.wrap I))) s)))]) (i:=q) (z':=u32.wrap (u64.wrap (Int.tdiv (u64.wrap ((u64.wrap (f*4294967296))+(u64.wrap I))) s))) 4012 z bt' z p z z z z z K fun W Q=>nx<|A'<|mv z z<|mv z z ?_
    obtain⟨X,hr⟩:=hr
    refine yy (bA' z z X) z<|sg z z<|u'<|J'<|g'<|A'<|mv z z<|yy (bj' z z) z<|sg z z<|u'<|Y' ⟨(d.set q.toNat (u32.wrap (u64.wrap (Int.tdiv (u64.wrap ((u64.wrap (f*4294967296))+(u64.wrap I))) s)))),W,Int.tmod (u64.wrap ((u64.wrap (f*4294967296))+(u64.wrap I))) s,i64.wrap (q-1),k⟩ hr ⟨l,Q⟩ (f5 z z z z z) (w1 z)
   refine ao'<|r'<|r'<|O'<|ap' ⟨d,c,f,k⟩ ⟨l,p,hr⟩ (f2 z z) (w1 z)
 rintro⟨h,g,m,o⟩ ⟨ab,H,hr⟩
 refine g'<|sr<|mv z z<|bn' (r:=(Rp.int .u32)) (e:=202) 4012 H z (by rw[U]; rfl) (fun an am aa x ac=>?_)
 obtain⟨ak,P,hr⟩:=hr
 refine P' z z (t' E166 z) (dT' P) (by rw[cH' x]) ((cw' x)) (fun af al Z u=>?_)
 obtain⟨ad,ah,rfl,L⟩:=u
 refine mv z z<|sg z z<|sx0 z z<|j' ?_
 obtain rfl:_=r:=hr
 exact aE' z z z ⟨_,_,z,L⟩
theorem ff'{e f j i g h r}(hr:(Zfg e f).Ret r):Ctr prog 209 #[.slice j e.length i,.slice g f.length h] (fun G=>sl (Rp.int .u32) G j i e/\sl (Rp.int .u32) G g h f) (fun G v=>∃ q o p m,v = .tuple #[.slice q r.1.length o,.slice p r.2.length m]/\sl (Rp.int .u32) G q o r.1/\sl (Rp.int .u32) G p m r.2):=by
 refine E' (args:=[_,_]) (N:=110) func209 z z z (fun T U Q x=>?_)
 obtain⟨d,c⟩:=x
 refine sr<|sg z z<|sx0 z z<|n'<|sr<|mv z z<|mv z z ?_
 obtain⟨M,y,hr⟩:=hr
 refine F' z z (t' E163 z) (dg' y) z (⟨d,c⟩)<|yy (ai' z z) z<|nx<|L' hr z (fun D hr=>?_) (fun D hr=>?_)
 .refine sr<|mv z z<|sg z z<|sx0 z z<|j'<|a' ?_
  obtain rfl:_=r:=hr
  exact aE' z z z ⟨_,_,_,_,z,(W' (Rp.int .u32) _),d⟩
 refine q'<|g'<|n'<|sr<|mv z z<|yy (M' C' c z) z<|yy (au' z z) z<|nx<|L' hr z (fun C hr=>?_) (fun C hr=>?_)
 .refine sr<|mv z z<|mv z z ?_
  obtain⟨V,t,hr⟩:=hr
  refine yy (T' C' bt' c z z t) z<|yy (Z' bV' z (aF' (ae' c t))) z<|yy (aN' aD' az' z) z ?_
  obtain⟨S,A,hr⟩:=hr
  refine P' z z (t' E215 z) (gy' A) z (d) (fun I P H k=>?_)
  obtain⟨E,F,rfl,n⟩:=k
  refine mv z z<|yy (y' z z) z<|yy (y' z z) z<|sg z z<|sg z z<|nr<|mv z z<|mv z z ?_
  obtain⟨O,u,hr⟩:=hr
  refine P' z z (t' E119 z) (eq' u) z (trivial) (fun L R s l=>?_)
  obtain⟨K,J,rfl,B⟩:=l
  refine sg z z<|sx0 z z<|j'<|a' ?_
  obtain rfl:_=r:=hr
  exact aE' z z z ⟨_,_,_,_,z,(n.mono s),B⟩
 exact (show False from hr).elim
theorem gE'{K J D H E F r}(hr:(ZiT K J).Ret r):Ctr prog 192 #[.slice D K.length H,.slice E J.length F] (fun G=>sl (Rp.int .u32) G D H K/\sl (Rp.int .u32) G E F J) (wl' (Rp.int .u32) r):=by
 refine E' (args:=[_,_]) (N:=33) func192 z z z (fun O A av P=>?_)
 obtain⟨V,X⟩:=P
 refine sr<|sx0 z z<|n'<|am' (fun (⟨m,p,o,l⟩:(List Int)×Option Addr×Nat×Mem)=>[(0,.slice p m.length o)]) (fun ⟨m,p,o,l⟩=>Mem.le A l/\sl (Rp.int .u32) l p o m/\(ZdO m).Ret r) (fun ⟨m,p,o,l⟩=>St O A l []) ?_ ?_
 .refine B' ?_
  let s:((List Int)⊕(List Int))->Prop:=fun oo=>((fun ov=>match ov with | .inl rv1=>Cq.ret rv1 | .inr m=>ZdO m:((List Int)⊕(List Int))->Cq (List Int)) oo).wp (fun a=>a=r)
  replace hr:(Cq.loop _ _).wp s:=hr
  refine an' (Φ:=s) (fun (⟨k,i,h,j,f,g,c⟩:(List Int)×Option Addr×Nat×(List Int)×Option Addr×Nat×Mem)=>((k,j):(List Int)×(List Int))) (fun ⟨k,i,h,j,f,g,c⟩=>[(0,.slice i k.length h),(1,.slice f j.length g)]) (fun ⟨k,i,h,j,f,g,c⟩=>Mem.le A c/\sl (Rp.int .u32) c i h k/\sl (Rp.int .u32) c f g j) (fun ⟨k,i,h,j,f,g,c⟩=>St O A c []) ⟨K,D,H,J,E,F,A⟩ hr (f2 z z) ⟨mr,V,X⟩ (wk ln) ?_
  .intro Y gx hx hr
   obtain⟨k,i,h,j,f,g,c⟩:=gx
   obtain⟨v,u,q⟩:=hx
   refine n'<|sr<|mv z z<|yy (M' C' q z) z<|yy (bh' z z) z<|nx<|L' hr z (fun ab hr=>?_) (fun ab hr=>?_)
   .refine q'<|g'<|B'<|n'<|aM' (fun (⟨e,n⟩:Bool×Mem)=>[(0,.slice i k.length h),(1,.slice f j.length g),(17,.bool e)]) (fun ⟨e,n⟩=>Mem.le c n/\(ZdP k j e).wp (Out Y s)) (fun ⟨e,n⟩=>St O A n []) ?_ ?_
    .refine A'<|mv z z<|yy (M' C' u z) z<|ad' hr z (bN' z z) z (fun Z hr=>?_) (fun Z hr=>?_)
     .refine mv z z<|gy z z (e' z) z<|gy z z (M' C' q z) z<|gy z z (bN' z z) z<|yy (h' z z) z<|u'<|ar' ⟨decide ((j.length:Int)<=2),c⟩ ⟨mr,hr⟩ (f3 z z z) (wk ln)
     refine mv z z<|sn3 z<|yy (l' z z) z<|u'<|ar' ⟨false,c⟩ ⟨mr,hr⟩ (f3 z z z) (wk ln)
    rintro⟨e,n⟩ ⟨d,hr⟩
    refine aL' hr z (fun U hr=>?_) (fun U hr=>?_)
    .refine sr<|mv z z ?_
     obtain⟨aq,R,hr⟩:=hr
     refine F' z z (t' E208 z) (fr' R) z ((u.mono d))<|mv z z ?_
     obtain⟨ax,S,hr⟩:=hr
     refine F' z z (t' E208 z) (fr' S) z ((q.mono d)) ?_
     obtain⟨ar,M,hr⟩:=hr
     refine F' z z (t' E207 z) (gD' M) z (trivial) ?_
     obtain⟨aw,L,hr⟩:=hr
     refine P' z z (t' E119 z) (eq' L) z (trivial) (fun al au ag y=>?_)
     obtain⟨aj,ap,rfl,T⟩:=y
     refine sx0 z z<|j'<|a'<|m'<|a'<|m'<|ag'<|a' ?_
     obtain rfl:_=r:=hr
     exact k' z z ⟨_,_,z,T⟩
    refine q'<|g'<|sr<|mv z z<|mv z z ?_
    obtain⟨ad,Q,hr⟩:=hr
    refine P' z z (t' E209 z) (ff' Q) z (⟨(u.mono d),(q.mono d)⟩) (fun an ac t x=>?_)
    obtain⟨ae,W,B,C,rfl,af,I⟩:=x
    refine mv z z<|yy (y' z z) z<|yy (y' z z) z<|sg z z<|sg z z<|nr<|mv z z<|sx0 z z<|A'<|mv z z<|sg z z<|u'<|J'<|Y' ⟨j,f,g,ad.2,B,C,ac⟩ hr ⟨(mt (mt v d) t),(q.mono (mt d t)),I⟩ (f2 z z) (wk ln)
   refine ao'<|r'<|r'<|O'<|ap' ⟨k,i,h,c⟩ ⟨v,u,hr⟩ (f1 z) (wk ln)
 rintro⟨m,p,o,l⟩ ⟨ah,aa,hr⟩
 refine g'<|sr<|mv z z<|sx0 z z<|j' ?_
 obtain rfl:_=r:=hr
 exact k' z z ⟨_,_,z,aa⟩
theorem go'{p m d c f e r}(hr:(Zjy p m).Ret r):Ctr prog 159 #[.agg ((v128' p d c)).toArray,.agg ((v128' m f e)).toArray] (fun G=>sl (Rp.int .u32) G d c p.mag/\sl (Rp.int .u32) G f e m.mag) (w128' r):=by
 refine E' (args:=[_,_]) (N:=11) func159 z z z (fun J O H o=>?_)
 obtain⟨k,l⟩:=o
 refine sr<|af' 2 z z z fun L=>af' 3 z z z fun K=>V' 4 z z128 z fun M=>nr<|yy (aZ' z) z<|yy (f' 2 bL' z z z) z<|yy (aZ' z) z<|yy (f' 3 bL' z z z) z ?_
 obtain⟨D,q,hr⟩:=hr
 refine P' z z (t' E192 z) (gE' q) z (⟨k,l⟩) (fun A F x h=>?_)
 obtain⟨y,C,rfl,n⟩:=h
 obtain⟨I,s,hr⟩:=hr
 refine P' z z (t' E118 z) (cS' s) z (n) (fun B E v g=>?_)
 obtain⟨t,u,rfl,j⟩:=g
 refine s' 4 z dl' z z z z z (List.all_eq_true.1 z)<|nx<|j' ?_
 obtain rfl:_=r:=hr
 exact k' z (aa' (i:=4) bu' z z z) ⟨_,_,z,j⟩
theorem gM'{f d y D A C r}(hr:(ZjZ f d).Ret r):Ctr prog 162 #[.slice y f.length D,.slice A d.length C] (fun G=>sl (Rp.int .u32) G y D f/\sl (Rp.int .u32) G A C d) (wl' (Rp.int .u32) r):=by
 refine E' (args:=[_,_]) (N:=42) func162 z z z (fun T B V M=>?_)
 obtain⟨I,J⟩:=M
 refine sr<|sg z z<|nr<|mv z z<|yy (M' C' I z) z<|mv z z<|yy (M' C' J z) z<|yy (en' z z) z<|yy (X' z z) z<|sg z z<|nr<|mv z z ?_
 obtain⟨U,hr⟩:=hr
 refine dS' (r:=(Rp.int .u32)) (e:=202) (n:=i64.wrap ((if (f.length:Int)<(d.length:Int) then (d.length:Int) else (f.length:Int))+1)) (zx:=0) 4017 z z C' el202 z (by decide) (by decide) z z z U fun E O S=>sg z z<|nr<|sx0 z z<|n'<|sr<|sx0 z z<|am' (fun (⟨k,j,o⟩:(List Int)×Option Ow×Mem)=>[(6,.slice E (i64.wrap ((if (f.length:Int)<(d.length:Int) then (d.length:Int) else (f.length:Int))+1)).toNat ((i64.wrap ((if (f.length:Int)<(d.length:Int) then (d.length:Int) else (f.length:Int))+1)).toNat))]) (fun ⟨k,j,o⟩=>Mem.le B o/\RowR (Rp.int .u32) 202 o (.slice E (i64.wrap ((if (f.length:Int)<(d.length:Int) then (d.length:Int) else (f.length:Int))+1)).toNat ((i64.wrap ((if (f.length:Int)<(d.length:Int) then (d.length:Int) else (f.length:Int))+1)).toNat)) k j/\(Zei k).Ret r) (fun ⟨k,j,o⟩=>St T B o [(4017,j)]) ?_ ?_
 .refine B' ?_
  let x:(List Int)->Prop:=fun oo=>((fun ov=>match ov with|k=>Zei k:(List Int)->Cq (List Int)) oo).wp (fun a=>a=r)
  replace hr:(Cq.loop _ _).wp x:=hr
  refine an' (Φ:=x) (fun (⟨h,g,c,q,l⟩:(List Int)×Option Ow×Int×Int×Mem)=>((h,c,q):(List Int)×Int×Int)) (fun ⟨h,g,c,q,l⟩=>[(0,.slice y f.length D),(1,.slice A d.length C),(5,i' (i64.wrap ((if (f.length:Int)<(d.length:Int) then (d.length:Int) else (f.length:Int))+1))),(6,.slice E (i64.wrap ((if (f.length:Int)<(d.length:Int) then (d.length:Int) else (f.length:Int))+1)).toNat ((i64.wrap ((if (f.length:Int)<(d.length:Int) then (d.length:Int) else (f.length:Int))+1)).toNat)),(7,.int .u64 c),(8,i' q)]) (fun ⟨h,g,c,q,l⟩=>Mem.le B l/\RowR (Rp.int .u32) 202 l (.slice E (i64.wrap ((if (f.length:Int)<(d.length:Int) then (d.length:Int) else (f.length:Int))+1)).toNat ((i64.wrap ((if (f.length:Int)<(d.length:Int) then (d.length:Int) else (f.length:Int))+1)).toNat)) h g) (fun ⟨h,g,c,q,l⟩=>St T B l [(4017,g)]) ⟨(List.replicate (i64.wrap ((if (f.length:Int)<(d.length:Int) then (d.length:Int) else (f.length:Int))+1)).toNat 0),O,0,0,B⟩ hr (f6 z z z z z z) ⟨mr,S⟩ (w1 z) ?_
  .intro an gx hx hr
   obtain⟨h,g,c,q,l⟩:=gx
   obtain⟨m,p⟩:=hx
   refine n'<|sr<|mv z z<|mv z z<|yy (ai' z z) z<|nx<|L' hr z (fun W hr=>?_) (fun W hr=>?_)
   .refine q'<|g'<|n'<|B'<|sr<|mv z z<|mv z z ?_
    obtain⟨t,Q,hr⟩:=hr
    refine F' z z (t' E194 z) (dF' Q) z ((I.mono m))<|mv z z<|mv z z ?_
    obtain⟨s,L,hr⟩:=hr
    refine F' z z (t' E194 z) (dF' L) z ((J.mono m))<|yy (X' z z) z<|mv z z<|yy (X' z z) z<|sg z z<|nr<|mv z z<|mv z z<|mv z z<|yy (bA' z z (by decide)) z<|yy (aN' az' aD' z) z ?_
    obtain⟨x1,H,hr⟩:=hr
    refine yy (aP' C' bt' p z z H) z<|bx' (r:=(Rp.int .u32)) (e:=202) (cs':=[.int .u32 (u32.wrap (Int.tmod (u64.wrap ((u64.wrap (t+s))+c)) 4294967296))]) (i:=q) (z':=u32.wrap (Int.tmod (u64.wrap ((u64.wrap (t+s))+c)) 4294967296)) 4017 z bt' z p z z z z z H fun X R=>nx<|A'<|mv z z<|yy (dX' z z (by decide)) z<|sg z z<|u'<|J'<|g'<|A'<|mv z z<|yy (X' z z) z<|sg z z<|u'<|Y' ⟨(h.set q.toNat (u32.wrap (Int.tmod (u64.wrap ((u64.wrap (t+s))+c)) 4294967296))),X,u64.wrap (Int.tdiv (u64.wrap ((u64.wrap (t+s))+c)) 4294967296),i64.wrap (q+1),l⟩ hr ⟨m,R⟩ (f6 z z z z z z) (w1 z)
   refine ao'<|r'<|r'<|O'<|ap' ⟨h,g,l⟩ ⟨m,p,hr⟩ (f1 z) (w1 z)
 rintro⟨k,j,o⟩ ⟨aa,F,hr⟩
 refine g'<|sr<|mv z z<|bn' (r:=(Rp.int .u32)) (e:=202) 4017 F z (by rw[V]; rfl) (fun am al Z v ab=>?_)
 obtain⟨aj,P,hr⟩:=hr
 refine P' z z (t' E166 z) (dT' P) (by rw[cH' v]) ((cw' v)) (fun ae ak Y u=>?_)
 obtain⟨ac,ag,rfl,K⟩:=u
 refine sx0 z z<|j' ?_
 obtain rfl:_=r:=hr
 exact k' z z ⟨_,_,z,K⟩
theorem fJ'{l E y D A C r}(hr:(ZgO l E).Ret r):Ctr prog 164 #[.slice y l.length D,.slice A E.length C] (fun G=>sl (Rp.int .u32) G y D l/\sl (Rp.int .u32) G A C E) (wl' (Rp.int .u32) r):=by
 refine E' (args:=[_,_]) (N:=41) func164 z z z (fun T B W M=>?_)
 obtain⟨s,U⟩:=M
 refine sr<|sg z z<|nr<|mv z z<|yy (M' C' s z) z ?_
 obtain⟨V,hr⟩:=hr
 refine dS' (r:=(Rp.int .u32)) (e:=202) (n:=(l.length:Int)) (zx:=0) 4011 z z C' el202 z (by decide) (by decide) z z z V fun F O S=>sg z z<|nr<|sx0 z z<|n'<|sr<|sx0 z z<|am' (fun (⟨k,h,o⟩:(List Int)×Option Ow×Mem)=>[(5,.slice F (l.length:Int).toNat ((l.length:Int).toNat))]) (fun ⟨k,h,o⟩=>Mem.le B o/\RowR (Rp.int .u32) 202 o (.slice F (l.length:Int).toNat ((l.length:Int).toNat)) k h/\(Zej k).Ret r) (fun ⟨k,h,o⟩=>St T B o [(4011,h)]) ?_ ?_
 .refine B' ?_
  let x:(List Int)->Prop:=fun oo=>((fun ov=>match ov with|k=>Zej k:(List Int)->Cq (List Int)) oo).wp (fun a=>a=r)
  replace hr:(Cq.loop _ _).wp x:=hr
  refine an' (Φ:=x) (fun (⟨g,d,c,q,m⟩:(List Int)×Option Ow×Int×Int×Mem)=>((g,c,q):(List Int)×Int×Int)) (fun ⟨g,d,c,q,m⟩=>[(0,.slice y l.length D),(1,.slice A E.length C),(5,.slice F (l.length:Int).toNat ((l.length:Int).toNat)),(6,.int .u64 c),(7,i' q)]) (fun ⟨g,d,c,q,m⟩=>Mem.le B m/\RowR (Rp.int .u32) 202 m (.slice F (l.length:Int).toNat ((l.length:Int).toNat)) g d) (fun ⟨g,d,c,q,m⟩=>St T B m [(4011,d)]) ⟨(List.replicate (l.length:Int).toNat 0),O,0,0,B⟩ hr (f5 z z z z z) ⟨mr,S⟩ (w1 z) ?_
  .intro ap gx hx hr
   obtain⟨g,d,c,q,m⟩:=gx
   obtain⟨j,p⟩:=hx
   refine n'<|sr<|mv z z<|mv z z<|yy (M' C' (s.mono j) z) z<|yy (ai' z z) z<|nx<|L' hr z (fun X hr=>?_) (fun X hr=>?_)
   .refine q'<|g'<|n'<|B'<|n'<|ah' [ff,ff,ff,ff,ff,ff,ff,ff,ff,ff,ff] mix (by kernel_rfl) fun hb=>cn (fun _ f=>e' z)<|cn (fun _ f=>e' z) ?_
    obtain⟨I,J,hr⟩:=hr
    refine cn (fun _ f=>T' C' bt' ((s.mono j).mono f) z z J)<|cn (fun _ f=>Z' bV' z (aF' (I' (I' (ae' s J) j) f)))<|cn (fun _ f=>aN' aD' az' z)<|cn (fun _ f=>X' z z)<|cn (fun _ f=>e' z)<|cn (fun _ f=>e' z) ?_
    obtain⟨t,Q,hr⟩:=hr
    refine bD' z (fun _=>t' E194 z) (dF' Q) z (fun G' f=>((U.mono j).mono f))<|cn (fun _ f=>bj' z z)<|cn (fun _ f=>e' z)<|R' hb<|yy (bj' z z) z<|sg z z<|u'<|aq'<|g'<|sr<|mv z z<|mv z z<|mv z z<|yy (bA' z z (by decide)) z<|yy (aN' az' aD' z) z ?_
    obtain⟨x2,K,hr⟩:=hr
    refine yy (aP' C' bt' p z z K) z<|bx' (r:=(Rp.int .u32)) (e:=202) (cs':=[.int .u32 (u32.wrap (Int.tmod (u64.wrap ((u64.wrap ((u64.wrap (4294967296+(u64.wrap I)))-t))-c)) 4294967296))]) (i:=q) (z':=u32.wrap (Int.tmod (u64.wrap ((u64.wrap ((u64.wrap (4294967296+(u64.wrap I)))-t))-c)) 4294967296)) 4011 z bt' z p z z z z z K fun Y R=>nx<|A'<|mv z z<|yy (dX' z z (by decide)) z<|yy (bj' z z) z<|sg z z<|u'<|J'<|g'<|A'<|mv z z<|yy (X' z z) z<|sg z z<|u'<|Y' ⟨(g.set q.toNat (u32.wrap (Int.tmod (u64.wrap ((u64.wrap ((u64.wrap (4294967296+(u64.wrap I)))-t))-c)) 4294967296))),Y,u64.wrap (1-(u64.wrap (Int.tdiv (u64.wrap ((u64.wrap ((u64.wrap (4294967296+(u64.wrap I)))-t))-c)) 4294967296))),i64.wrap (q+1),m⟩ hr ⟨j,R⟩ (f5 z z z z z) (w1 z)
   refine ao'<|r'<|r'<|O'<|ap' ⟨g,d,m⟩ ⟨j,p,hr⟩ (f1 z) (w1 z)
 rintro⟨k,h,o⟩ ⟨ab,H,hr⟩
 refine g'<|sr<|mv z z<|bn' (r:=(Rp.int .u32)) (e:=202) 4011 H z (by rw[W]; rfl) (fun ao an aa v ac=>?_)
 obtain⟨al,P,hr⟩:=hr
 refine P' z z (t' E166 z) (dT' P) (by rw[cH' v]) ((cw' v)) (fun af am Z u=>?_)
 obtain⟨ad,ai,rfl,L⟩:=u
 refine sx0 z z<|j' ?_
 obtain rfl:_=r:=hr
 exact k' z z ⟨_,_,z,L⟩
theorem gF'{H F d c f e r}(hr:(ZiR H F).Ret r):Ctr prog 193 #[.agg ((v128' H d c)).toArray,.agg ((v128' F f e)).toArray] (fun G=>sl (Rp.int .u32) G d c H.mag/\sl (Rp.int .u32) G f e F.mag) (fun G v=>∃ s n p m,v = .tuple #[.agg ((v128' r.1 s n)).toArray,.agg ((v128' r.2.1 p m)).toArray,i' r.2.2]/\sl (Rp.int .u32) G s n r.1.mag/\sl (Rp.int .u32) G p m r.2.1.mag):=by
 refine E' (args:=[_,_]) (N:=46) func193 z z z (fun w0 G0 aw Z=>?_)
 obtain⟨R,D⟩:=Z
 refine sr<|af' 2 z z z fun V=>af' 3 z z z fun U=>V' 4 z z128 z fun W=>V' 5 z z128 z fun T=>sx0 z z<|n'<|sr<|yy (aZ' z) z<|yy (f' 3 bL' z z z) z<|yy (M' C' D z) z<|yy (au' z z) z<|nx<|L' hr z (fun al hr=>?_) (fun al hr=>?_)
 .exact (show False from hr).elim
 refine q'<|g'<|sr<|yy (aZ' z) z<|yy (f' 2 bL' z z z) z<|yy (aZ' z) z<|yy (f' 3 bL' z z z) z ?_
 obtain⟨l,aa,hr⟩:=hr
 refine P' z z (t' E209 z) (ff' aa) z (⟨R,D⟩) (fun ap I an M=>?_)
 obtain⟨C,u,E,B,rfl,Q,A⟩:=M
 refine mv z z<|yy (y' z z) z<|yy (y' z z) z<|sg z z<|sx0 z z<|aM' (fun (⟨K,y,x,o,j,h,k⟩:(List Int)×Option Addr×Nat×(List Int)×Option Addr×Nat×Mem)=>[(2,pt0 V),(3,pt0 U),(4,pt0 W),(5,pt0 T),(7,.slice y K.length x),(8,.slice j o.length h)]) (fun ⟨K,y,x,o,j,h,k⟩=>Mem.le I k/\sl (Rp.int .u32) k y x K/\sl (Rp.int .u32) k j h o/\(Zgy H F K o).Ret r) (fun ⟨K,y,x,o,j,h,k⟩=>St w0 G0 k [(2,bk0 V (v128' H d c) 128),(3,bk0 U (v128' F f e) 128),(4,bk0 W ([.bool false,.slice none 0 0]) 128),(5,bk0 T ([.bool false,.slice none 0 0]) 128)]) ?_ ?_
 .refine aM' (fun (⟨g,q⟩:Bool×Mem)=>[(2,pt0 V),(3,pt0 U),(4,pt0 W),(5,pt0 T),(7,.slice C l.1.length u),(8,.slice E l.2.length B),(29,.bool g)]) (fun ⟨g,q⟩=>Mem.le I q/\(ZdN H F l g).Ret r) (fun ⟨g,q⟩=>St w0 G0 q [(2,bk0 V (v128' H d c) 128),(3,bk0 U (v128' F f e) 128),(4,bk0 W ([.bool false,.slice none 0 0]) 128),(5,bk0 T ([.bool false,.slice none 0 0]) 128)]) ?_ ?_
  .refine A'<|yy (bs' z) z<|ad' hr z (dc' (f' 2 sc4 z z z) (congrArg Value.bool (bdec _))) z (fun aj hr=>?_) (fun aj hr=>?_)
   .refine mv z z<|gy z z (e' z) z<|gy z z (M' C' A z) z<|gy z z (bh' z z) z<|yy (h' z z) z<|u'<|ar' ⟨decide (0<(l.2.length:Int)),I⟩ ⟨mr,hr⟩ (f7 z z z z z z z) (w4 z z z z)
   refine mv z z<|sn3 z<|yy (l' z z) z<|u'<|ar' ⟨false,I⟩ ⟨mr,hr⟩ (f7 z z z z z z z) (w4 z z z z)
  rintro⟨g,q⟩ ⟨t,hr⟩
  refine aL' hr z (fun ah hr=>?_) (fun ah hr=>?_)
  .exact (show False from hr).elim
  refine q'<|ar' ⟨l.1,C,u,l.2,E,B,q⟩ ⟨t,(Q.mono t),(A.mono t),hr⟩ (f6 z z z z z z) (w4 z z z z)
 rintro⟨K,y,x,o,j,h,k⟩ ⟨ao,ak,ac,hr⟩
 refine sr<|yy (bs' z) z<|yy (f' 2 sc4 z z z) z<|yy (bs' z) z<|yy (f' 3 sc4 z z z) z<|yy (Y0.neqB cv' z z) z<|mv z z ?_
 obtain⟨ay,ab,hr⟩:=hr
 refine P' z z (t' E118 z) (cS' ab) z (ak) (fun aq av S J=>?_)
 obtain⟨ad,af,rfl,O⟩:=J
 refine mv z z ?_
 obtain⟨au,Y,hr⟩:=hr
 refine P' z z (t' E118 z) (cS' Y) z ((ac.mono S)) (fun ar ax X P=>?_)
 obtain⟨ae,ag,rfl,L⟩:=P
 refine s' 4 z dl' z z z z z (List.all_eq_true.1 z)<|s' 5 z dl' z z z z z (List.all_eq_true.1 z)<|sx0 z z<|j' ?_
 obtain rfl:_=r:=hr
 exact cW' z (aa' (i:=4) bu' z z z) (aa' (i:=5) bu' z z z) z ⟨_,_,_,_,z,(O.mono X),L⟩
theorem fK'{q u e f c d r}(hr:(ZgQ q u).Ret r):Ctr prog 161 #[.agg ((v128' q e f)).toArray,.agg ((v128' u c d)).toArray] (fun G=>sl (Rp.int .u32) G e f q.mag/\sl (Rp.int .u32) G c d u.mag) (w128' r):=by
 refine E' (args:=[_,_]) (N:=16) func161 z z z (fun D J B s=>?_)
 obtain⟨j,k⟩:=s
 refine sr<|af' 2 z z z fun C=>af' 3 z z z fun H=>V' 4 z z128 z fun F=>nr<|yy (o' 2 bu' z z z) z<|yy (o' 3 bu' z z z) z ?_
 obtain⟨y,t,hr⟩:=hr
 refine P' z z (t' E193 z) (gF' t) z (⟨j,k⟩) (fun x A v h=>?_)
 obtain⟨n,m,l,o,rfl,g,p⟩:=h
 refine mv z z<|yy (y' z z) z<|yy (y' z z) z<|yy (y' z z) z<|V' 5 z z128 z fun I=>V' 6 z z128 z fun E=>s' 5 z dl' z z z z z (List.all_eq_true.1 z)<|s' 6 z dl' z z z z z (List.all_eq_true.1 z)<|sg z z<|nr<|yy (o' 5 bu' z z z) z<|s' 4 z dl' z z z z z (List.all_eq_true.1 z)<|nx<|j' ?_
 obtain rfl:_=r:=hr
 exact k' z (aa' (i:=4) bu' z z z) ⟨_,_,z,g⟩
theorem fs'{P O m o p n r}(hr:(Zf6 P O).Ret r):Ctr prog 112 #[.agg ((v128' P m o)).toArray,.agg ((v128' O p n)).toArray] (fun G=>sl (Rp.int .u32) G m o P.mag/\sl (Rp.int .u32) G p n O.mag) (w130' r):=by
 refine E' (args:=[_,_]) (N:=21) func112 z z z (fun w0 G0 aj U=>?_)
 obtain⟨A,l⟩:=U
 refine sr<|af' 2 z z z fun Y=>af' 3 z z z fun b2=>V' 4 z z130 z fun Z=>nr<|yy (o' 2 bu' z z z) z<|yy (o' 3 bu' z z z) z ?_
 obtain⟨X,V,hr⟩:=hr
 refine P' z z (t' E159 z) (go' V) z (⟨A,l⟩) (fun ad R y K=>?_)
 obtain⟨F,I,rfl,J⟩:=K
 refine V' 5 z z128 z fun b4=>s' 5 z dl' z z z z z (List.all_eq_true.1 z)<|nx<|aM' (fun (⟨q,e,c,x⟩:Zj×Option Addr×Nat×Mem)=>[(2,pt0 Y),(3,pt0 b2),(4,pt0 Z),(5,pt0 b4)]) (fun ⟨q,e,c,x⟩=>Mem.le R x/\sl (Rp.int .u32) x e c q.mag/\(Zgz P O q).Ret r) (fun ⟨q,e,c,x⟩=>St w0 G0 x [(2,bk0 Y (v128' P m o) 128),(3,bk0 b2 (v128' O p n) 128),(4,bk0 Z ([.bool false,.slice none 0 0,.bool false,.slice none 0 0]) 130),(5,bk0 b4 (v128' q e c) 128)]) ?_ ?_
 .refine sr<|yy (o' 3 bu' z z z) z ?_
  obtain⟨al,S,hr⟩:=hr
  refine F' z z (t' E115 z) (eW' S) z ((l.mono y))<|yy (ai' z z) z<|nx<|L' hr z (fun aa hr=>?_) (fun aa hr=>?_)
  .exact (show False from hr).elim
  refine q'<|ar' ⟨X,F,I,R⟩ ⟨mr,J,hr⟩ (f4 z z z z) (w4 z z z z)
 rintro⟨q,e,c,x⟩ ⟨D,u,hr⟩
 refine n'<|ah' [ff,ff,ff,ff,ff] mix (by kernel_rfl) fun hb=>cn (fun _ k=>o' 2 bu' z z z)<|cn (fun _ k=>o' 5 bu' z z z) ?_
 obtain⟨B,W,hr⟩:=hr
 refine aX' (post:=w128' B) (fun _=>z) (fun _ _=>t' E161 z) (fK' W) z (fun G' k=>⟨((A.mono (mt y D)).mono k),(u.mono k)⟩) (fun v G1 G2 k h=>?_) ?_
 .obtain⟨f,g,rfl,j⟩:=h
  exact⟨_,_,z,j.mono k⟩
 refine cu (fun _ _ k=>o' 3 bu' z z z)<|cu (fun _ _ k=>o' 5 bu' z z z)<|cU' (d:=16) (post:=w128' B) (fun ae ai C E=>?_)
 obtain⟨f,g,rfl,j⟩:=E
 obtain⟨M,T,hr⟩:=hr
 refine P' z z (t' E161 z) (fK' T) z (⟨(l.mono (mt (mt y D) C)),(u.mono C)⟩) (fun ag ak Q L=>?_)
 obtain⟨s,t,rfl,H⟩:=L
 refine yy (av' (vs:=#[(0,.agg ((v128' B f g)).toArray),(1,.agg ((v128' M s t)).toArray)]) (v:=.agg ([.bool B.neg,.slice f B.mag.length g,.bool M.neg,.slice s M.mag.length t]).toArray) z z (fun _=>by kernel_rfl)) z<|s' 4 z sz130 z z z z z (List.all_eq_true.1 z)<|u'<|aq'<|g'<|j' ?_
 obtain rfl:_=r:=hr
 exact k' z (aa' (i:=4) cR' z z z) ⟨_,_,_,_,z,(j.mono Q),H⟩
theorem hb'{q p m e c k l j g f r}(hr:(ZjA q p).Ret r):Ctr prog 117 #[.agg ((v130' q m e c k)).toArray,.agg ((v130' p l j g f)).toArray] (fun G=>sl (Rp.int .u32) G m e q.num.mag/\sl (Rp.int .u32) G c k q.den.mag/\sl (Rp.int .u32) G l j p.num.mag/\sl (Rp.int .u32) G g f p.den.mag) (w130' r):=by
 refine E' (args:=[_,_]) (N:=16) func117 z z z (fun w0 G0 ad R=>?_)
 obtain⟨A,y,x,u⟩:=R
 refine sr<|af' 2 z z z fun b2=>af' 3 z z z fun b3=>V' 4 z z130 z fun b4=>nx<|n'<|ah' [ff,ff,ff,ff,ff,ff,ff,ff,ff] mix (by kernel_rfl) fun hb=>cn (fun _ n=>cE' z)<|cn (fun _ n=>aI' ((v128' q.num m e)).toArray 2 bu' z z z (aU' ([]) ((v128' q.num m e)) ((v128' q.den c k))))<|cn (fun _ n=>cE' z)<|cn (fun _ n=>aI' ((v128' p.num l j)).toArray 3 bu' z z z (aU' ([]) ((v128' p.num l j)) ((v128' p.den g f)))) ?_
 obtain⟨P,S,hr⟩:=hr
 refine aX' (post:=w128' P) (fun _=>z) (fun _ _=>t' E114 z) (ey' S) z (fun G' n=>⟨(A.mono n),(x.mono n)⟩) (fun v G1 G2 n h=>?_) ?_
 .obtain⟨D,E,rfl,o⟩:=h
  exact⟨_,_,z,o.mono n⟩
 refine cu (fun _ _ n=>cj' z)<|cu (fun _ _ n=>aI' ((v128' q.den c k)).toArray 2 bu' z z z (aU' ((v128' q.num m e)) ((v128' q.den c k)) ([])))<|cu (fun _ _ n=>cj' z)<|cu (fun _ _ n=>aI' ((v128' p.den g f)).toArray 3 bu' z z z (aU' ((v128' p.num l j)) ((v128' p.den g f)) ([])))<|cU' (d:=9) (post:=w128' P) (fun X ac B F=>?_)
 obtain⟨D,E,rfl,o⟩:=F
 obtain⟨af,T,hr⟩:=hr
 refine P' z z (t' E114 z) (ey' T) z (⟨(y.mono B),(u.mono B)⟩) (fun Y ab K C=>?_)
 obtain⟨U,V,rfl,H⟩:=C
 obtain⟨aa,Q,hr⟩:=hr
 refine P' z z (t' E112 z) (fs' Q) z (⟨(o.mono K),H⟩) (fun Z ae W I=>?_)
 obtain⟨M,O,J,L,rfl,s,t⟩:=I
 refine s' 4 z sz130 z z z z z (List.all_eq_true.1 z)<|u'<|aq'<|g'<|j' ?_
 obtain rfl:_=r:=hr
 exact k' z (aa' (i:=4) cR' z z z) ⟨_,_,_,_,z,s,t⟩
theorem gN'{c1 m1 p1 C B F D ab Z r}(hr:(Zj1 c1 m1 p1).Ret r):Ctr prog 83 #[.agg ((v130' c1 C B F D)).toArray,.agg (vecG (Value.int .i64) 8 m1).toArray,.slice ab p1.length Z] (fun G=>sl (Rp.int .u32) G C B c1.num.mag/\sl (Rp.int .u32) G F D c1.den.mag/\sl K' G ab Z p1) (wlt' K' r):=by
 refine E' (args:=[_,_,_]) (N:=47) func83 z z z (fun w0 G0 ac ao=>?_)
 obtain⟨L,M,P⟩:=ao
 refine sr<|af' 3 z z z fun b1=>af' 4 z z z fun b2=>sg z z<|sg z z<|nr<|bd' (e:=133) (r:=K') (vs:=#[]) (cs:=[]) ([]:List Ze) z z z z z (by decide) (fun _=>by kernel_rfl) (z) (key:=999) z (by rw[ac]; rfl) fun p2 ad n aL=>sx0 z z<|n'<|sr<|yy (o' 3 cR' z z z) z ?_
 obtain⟨aY,aq,hr⟩:=hr
 refine F' z z (t' E82 z) (eX' aq) z (⟨(L.mono n),(M.mono n)⟩)<|yy (au' z z) z<|nx<|L' hr z (fun aE hr=>?_) (fun aE hr=>?_)
 .refine sr<|sg z z<|sx0 z z<|j'<|a' ?_
  obtain rfl:_=r:=hr
  exact aE' z z z ⟨_,_,z,(W' K' _)⟩
 refine q'<|g'<|n'<|sr<|sx0 z z<|am' (fun (⟨t,I,H,E,O⟩:(List Ze)×Option Addr×Nat×Option Ow×Mem)=>[(8,.slice I t.length H)]) (fun ⟨t,I,H,E,O⟩=>Mem.le ad O/\sl K' O I H t/\Tok 12 133 (.slice I t.length H) t.length E/\(Zen t).Ret r) (fun ⟨t,I,H,E,O⟩=>St w0 G0 O [(1008,E)]) ?_ ?_
 .refine B' ?_
  let Y:(((List Ze)×Int)⊕(List Ze))->Prop:=fun oo=>((fun ov=>match ov with | .inl rv1=>Cq.ret rv1 | .inr t=>Zen t:(((List Ze)×Int)⊕(List Ze))->Cq ((List Ze)×Int)) oo).wp (fun a=>a=r)
  replace hr:(Cq.loop _ _).wp Y:=hr
  refine an' (Φ:=Y) (fun (⟨p,s,q,o,T,K⟩:(List Ze)×Option Addr×Nat×Option Ow×Int×Mem)=>((p,T):(List Ze)×Int)) (fun ⟨p,s,q,o,T,K⟩=>[(2,.slice ab p1.length Z),(3,pt0 b1),(4,pt0 b2),(8,.slice s p.length q),(9,i' T)]) (fun ⟨p,s,q,o,T,K⟩=>Mem.le ad K/\sl K' K s q p/\Tok 12 133 (.slice s p.length q) p.length o) (fun ⟨p,s,q,o,T,K⟩=>St w0 G0 K [(3,bk0 b1 (v130' c1 C B F D) 130),(4,bk0 b2 (vecG (Value.int .i64) 8 m1) 120),(1008,o)]) ⟨[],p2,0,none,0,ad⟩ hr (f5 z z z z z) ⟨mr,aL,dh'⟩ (wk (lc z (lc z (lw ln)))) ?_
  .intro aZ gx hx hr
   obtain⟨p,s,q,o,T,K⟩:=gx
   obtain⟨m,V,S⟩:=hx
   refine n'<|sr<|mv z z<|mv z z<|yy (M' ak' (P.mono (mt n m)) z) z<|yy (ai' z z) z<|nx<|L' hr z (fun aB hr=>?_) (fun aB hr=>?_)
   .refine q'<|g'<|n'<|B'<|n'<|ah' [ff,ff,ff,ff,ff,ff,ff,ff,ff,tt,ff] mix (by kernel_rfl) fun hb=>cn (fun _ k=>o' 4 bS' z z (ac' _ _ _))<|cn (fun _ k=>e' z)<|cn (fun _ k=>e' z) ?_
    obtain⟨x1,al,hr⟩:=hr
    refine cn (fun _ k=>T' ak' cg' ((P.mono (mt n m)).mono k) z z al)<|cn (fun _ k=>bB' z)<|cn (fun _ k=>aA' _ bS' z (ac' _ _ _) (dv' (I' (I' (ax' (ay' (ae' P al))) (mt n m)) k))) ?_
    obtain⟨J,ar,hr⟩:=hr
    refine bD' z (fun _=>t' E116 z) (ha' ar) z (fun G' k=>trivial)<|cn (fun _ k=>e' z)<|cn (fun _ k=>y' z z)<|cq' z (y' z z)<|bE' (fun _=>z) z120<|Chain.tail1 hb fun b3=>s' 10 z sz120 z z z (ac' _ _ _) (ac' _ _ _) (fun u hu=>Rp.one (dw' .i64 8) (G:=K) (x:=J.1) (cs:=vecG (Value.int .i64) 8 J.1) z u (by first|simpa using hu|simpa [Value.cells] using hu))<|sg z z<|u'<|aq'<|g'<|n'<|sr<|mv z z<|yy (aw' z z) z<|nx<|L' hr z (fun ax hr=>?_) (fun ax hr=>?_)
    .exact (show False from hr).elim
    refine q'<|g'<|ah' [tt,ff,ff,ff,ff,ff,ff,ff,ff] mix (by kernel_rfl) fun hb=>cq' z (e' z)<|cn (fun _ k=>o' 3 cR' z z z)<|cn (fun _ k=>e' z)<|cn (fun _ k=>e' z) ?_
    obtain⟨x2,ah,hr⟩:=hr
    refine cn (fun _ k=>T' ak' cg' ((P.mono (mt n m)).mono k) z z ah)<|cn (fun _ k=>cQ' z) ?_
    obtain⟨am,ai,ak,aj,ay,R,Q⟩:=ej' (I' (aW' (ay' (ae' P ah))) (mt n m))
    refine cn (fun _ k=>aA' _ cR' z z (fun j v hv=>k _ _ _ (ay j v hv))) ?_
    obtain⟨l,av,hr⟩:=hr
    refine aX' (post:=w130' l) (fun _=>z) (fun _ _=>t' E117 z) (hb' av) z (fun G' k=>⟨((L.mono (mt n m)).mono k),((M.mono (mt n m)).mono k),(R.mono k),(Q.mono k)⟩) (fun v G1 G2 k h=>?_) ?_
    .obtain⟨f,g,c,i,rfl,y,A⟩:=h
     exact⟨_,_,_,_,z,y.mono k,A.mono k⟩
    refine cu (fun _ _ k=>o' 10 bS' z z (ac' _ _ _))<|cU' (d:=41) (post:=w130' l) (fun aO a0 U X=>?_)
    obtain⟨f,g,c,i,rfl,y,A⟩:=X
    refine yy (av' (vs:=#[(0,.agg ((v130' l f g c i)).toArray),(1,.agg (vecG (Value.int .i64) 8 J.1).toArray)]) (v:=.agg (((v130' l f g c i):List Value)++(vecG (Value.int .i64) 8 J.1)).toArray) z z (fun _=>by kernel_rfl)) z<|bd' (e:=133) (r:=K') (vs:=#[(0,.agg (((v130' l f g c i):List Value)++(vecG (Value.int .i64) 8 J.1)).toArray)]) (cs:=(((v130' l f g c i):List Value)++(vecG (Value.int .i64) 8 J.1))++([])) ([(Ze.mk l J.1)]:List Ze) z z z z z (by decide) (fun _=>by kernel_rfl) ⟨((v130' l f g c i):List Value)++(vecG (Value.int .i64) 8 J.1),[],z,⟨(v130' l f g c i),vecG (Value.int .i64) 8 J.1,z,⟨(v128' l.num f g),(v128' l.den c i),z,⟨[.bool l.num.neg],[.slice f l.num.mag.length g],z,z,⟨_,z,y⟩⟩,⟨[.bool l.den.neg],[.slice c l.den.mag.length i],z,z,⟨_,z,A⟩⟩⟩,z⟩,z⟩ (key:=999) z (by rw[ac]; rfl) (fun p3 aX W aF=>?_)
    obtain⟨ap,hr⟩:=hr
    refine bW' (r:=K') 1008 z z ak' el133 z (by decide) z z (V.mono (mt U W)) z (by rw[ac]; rfl) S aF ap fun p4 aD aw az ae aM au=>sg z z<|u'<|aq'<|J'<|g'<|A'<|mv z z<|yy (X' z z) z<|sg z z<|u'<|Y' ⟨(p++[(Ze.mk l J.1)]),p4,aD,aw,i64.wrap (T+1),az⟩ hr ⟨(mt (mt (mt m U) W) ae),aM,au⟩ (f5 z z z z z) (w3 z z z)
   refine ao'<|r'<|r'<|O'<|ap' ⟨p,s,q,o,K⟩ ⟨m,V,S,hr⟩ (f1 z) (w1 z)
 rintro⟨t,I,H,E,O⟩ ⟨aN,ag,aJ,hr⟩
 refine g'<|sr<|mv z z<|sg z z<|sx0 z z<|j' ?_
 obtain rfl:_=r:=hr
 exact aE' z z z ⟨_,_,z,ag⟩
theorem gO'{k n d e f c m l r}(hr:(ZgR k n).Ret r):Ctr prog 63 #[.agg ((v130' k d e f c)).toArray,.slice m n.length l] (fun G=>sl (Rp.int .u32) G d e k.num.mag/\sl (Rp.int .u32) G f c k.den.mag/\sl K' G m l n) (wl' K' r):=by
 refine E' (args:=[_,_]) (N:=15) func63 z z z (fun D E B o=>?_)
 obtain⟨g,h,q⟩:=o
 refine sr<|af' 2 z z z fun C=>sg z z<|nr<|yy (o' 2 cR' z z z) z<|yy (av' (vs:=#[]) (v:=.agg (vecG (Value.int .i64) 8 (fun _=>0)).toArray) z z (fun _=>by kernel_rfl)) z<|mv z z ?_
 obtain⟨y,p,hr⟩:=hr
 refine P' z z (t' E83 z) (gN' p) z (⟨g,h,q⟩) (fun x A u i=>?_)
 obtain⟨s,t,rfl,j⟩:=i
 refine mv z z<|yy (y' z z) z<|yy (y' z z) z<|sg z z<|sg z z<|nr<|mv z z<|sx0 z z<|j' ?_
 obtain rfl:_=r:=hr
 exact k' z z ⟨_,_,z,j⟩
theorem ft'{q o r}(hr:(ZfP q o).Ret r):Ctr prog 80 #[.agg (vecG (Value.int .i64) 8 q).toArray,.agg (vecG (Value.int .i64) 8 o).toArray] (fun G=>True) (fun G v=>v=i' r):=by
 refine E' (args:=[_,_]) (N:=24) func80 z z z fun u j I D=>sr<|af' 2 z z z fun A=>af' 3 z z z fun x=>sx0 z z<|n'<|sr<|sx0 z z<|am' (fun (f:Mem)=>match f with|e=>[]) (fun (f:Mem)=>match f with|e=>Mem.le j e/\(Zf8).Ret r) (fun (f:Mem)=>match f with|e=>St u j e []) ?_ ?_
 .refine B' ?_
  let i:(Int⊕Unit)->Prop:=fun E=>((fun C=>match C with | .inl rv1=>Cq.ret rv1 | .inr ()=>Zf8:(Int⊕Unit)->Cq Int) E).wp (fun a=>a=r)
  replace hr:(Cq.loop _ _).wp i:=hr
  refine an' (Φ:=i) (fun (⟨g,d⟩:Int×Mem)=>(g:Int)) (fun ⟨g,d⟩=>[(2,pt0 A),(3,pt0 x),(5,i' g)]) (fun ⟨g,d⟩=>Mem.le j d) (fun ⟨g,d⟩=>St u j d [(2,bk0 A (vecG (Value.int .i64) 8 q) 120),(3,bk0 x (vecG (Value.int .i64) 8 o) 120)]) ⟨0,j⟩ hr (f3 z z z) mr (w2 z z) ?_
  .intro H f F hr
   obtain⟨g,d⟩:=f
   have h:=F
   refine n'<|sr<|mv z z<|yy (ai' z z) z<|nx<|L' hr z (fun y hr=>?_) (fun y hr=>?_)
   .refine q'<|g'<|n'<|B'<|n'<|n'<|ah' [ff,ff,ff,ff,ff,ff] mix (by kernel_rfl) fun p=>cn (fun _ c=>e' z) ?_
    obtain⟨l,hr⟩:=hr
    refine cn (fun _ c=>bi' aO' sz3 z z l)<|cn (fun _ c=>f' 2 sc3 z z (bk' _ _ _ l))<|cn (fun _ c=>e' z) ?_
    obtain⟨n,hr⟩:=hr
    refine cn (fun _ c=>bi' aO' sz3 z z n)<|cn (fun _ c=>f' 3 sc3 z z (bk' _ _ _ n))<|R' p<|yy (ai' z z) z<|u'<|aq'<|g'<|L' hr z (fun s hr=>?_) (fun s hr=>?_)
    .refine sr<|sx0 z z<|j'<|a'<|m'<|a'<|a'<|m'<|ag'<|a' (k0' hr z z)
    refine q'<|g'<|n'<|ah' [ff,ff,ff,ff,ff,ff] mix (by kernel_rfl) fun p=>cn (fun _ c=>e' z) ?_
    obtain⟨m,hr⟩:=hr
    refine cn (fun _ c=>bi' aO' sz3 z z m)<|cn (fun _ c=>f' 2 sc3 z z (bk' _ _ _ m))<|cn (fun _ c=>e' z) ?_
    obtain⟨k,hr⟩:=hr
    refine cn (fun _ c=>bi' aO' sz3 z z k)<|cn (fun _ c=>f' 3 sc3 z z (bk' _ _ _ k))<|R' p<|yy (bh' z z) z<|u'<|aq'<|g'<|L' hr z (fun t hr=>?_) (fun t hr=>?_)
    .refine sr<|sx0 z z<|j'<|m'<|a'<|a'<|m'<|ag'<|a' (k0' hr z z)
    refine q'<|J'<|g'<|A'<|mv z z<|yy (X' z z) z<|sg z z<|u'<|Y' ⟨i64.wrap (g+1),d⟩ hr h (f3 z z z) (w2 z z)
   refine ao'<|r'<|r'<|O'<|ap' d ⟨h,hr⟩ fn (wk ln)
 rintro e ⟨B,hr⟩
 refine g'<|sr<|sx0 z z<|j' (k0' hr z z)
theorem hc'{U R k j g l r}(hr:(Zl9 U R).Ret r):Ctr prog 113 #[.agg ((v128' U k j)).toArray,.agg ((v128' R g l)).toArray] (fun G=>sl (Rp.int .u32) G k j U.mag/\sl (Rp.int .u32) G g l R.mag) (w128' r):=by
 refine E' (args:=[_,_]) (N:=40) func113 z z z (fun w0 G0 aE H=>?_)
 obtain⟨e,f⟩:=H
 refine sr<|af' 2 z z z fun b2=>af' 3 z z z fun b3=>V' 4 z z128 z fun b4=>nx<|n'<|sr<|yy (bs' z) z<|yy (f' 2 sc4 z z z) z<|yy (bs' z) z<|yy (f' 3 sc4 z z z) z<|yy (Y0.eqlB cv' z z) z<|nx<|L' hr z (fun af hr=>?_) (fun af hr=>?_)
 .refine n'<|ah' [ff,ff,ff,ff,ff,ff,ff] mix (by kernel_rfl) fun hb=>cn (fun _ c=>bs' z)<|cn (fun _ c=>f' 2 sc4 z z z)<|cn (fun _ c=>aZ' z)<|cn (fun _ c=>f' 2 bL' z z z)<|cn (fun _ c=>aZ' z)<|cn (fun _ c=>f' 3 bL' z z z) ?_
  obtain⟨D,K,hr⟩:=hr
  refine aX' (post:=wl' (Rp.int .u32) D) (fun _=>z) (fun _ _=>t' E162 z) (gM' K) z (fun G' c=>⟨(e.mono c),(f.mono c)⟩) (fun v G1 G2 c h=>?_) ?_
  .obtain⟨J,O,rfl,m⟩:=h
   exact⟨_,_,z,m.mono c⟩
  refine cU' (d:=16) (post:=wl' (Rp.int .u32) D) (fun ar aF an y=>?_)
  obtain⟨J,O,rfl,m⟩:=y
  obtain⟨aB,Q,hr⟩:=hr
  refine P' z z (t' E118 z) (cS' Q) z (m) (fun ap aD am p=>?_)
  obtain⟨X,Z,rfl,t⟩:=p
  refine s' 4 z dl' z z z z z (List.all_eq_true.1 z)<|u'<|aq'<|g'<|j'<|a' ?_
  obtain rfl:_=r:=hr
  exact k' z (aa' (i:=4) bu' z z z) ⟨_,_,z,t⟩
 refine q'<|g'<|n'<|sr<|yy (aZ' z) z<|yy (f' 2 bL' z z z) z<|yy (aZ' z) z<|yy (f' 3 bL' z z z) z ?_
 obtain⟨aC,S,hr⟩:=hr
 refine F' z z (t' E163 z) (dg' S) z (⟨e,f⟩)<|yy (ai' z z) z<|nx<|L' hr z (fun ae hr=>?_) (fun ae hr=>?_)
 .refine n'<|ah' [ff,ff,ff,ff,ff,ff,ff] mix (by kernel_rfl) fun hb=>cn (fun _ c=>bs' z)<|cn (fun _ c=>f' 3 sc4 z z z)<|cn (fun _ c=>aZ' z)<|cn (fun _ c=>f' 3 bL' z z z)<|cn (fun _ c=>aZ' z)<|cn (fun _ c=>f' 2 bL' z z z) ?_
  obtain⟨E,F,hr⟩:=hr
  refine aX' (post:=wl' (Rp.int .u32) E) (fun _=>z) (fun _ _=>t' E164 z) (fJ' F) z (fun G' c=>⟨(f.mono c),(e.mono c)⟩) (fun v G1 G2 c h=>?_) ?_
  .obtain⟨L,W,rfl,o⟩:=h
   exact⟨_,_,z,o.mono c⟩
  refine cU' (d:=30) (post:=wl' (Rp.int .u32) E) (fun aw ay ao s=>?_)
  obtain⟨L,W,rfl,o⟩:=s
  obtain⟨aH,P,hr⟩:=hr
  refine P' z z (t' E118 z) (cS' P) z (o) (fun aq az aj A=>?_)
  obtain⟨ab,ac,rfl,q⟩:=A
  refine s' 4 z dl' z z z z z (List.all_eq_true.1 z)<|u'<|aq'<|g'<|j'<|a' ?_
  obtain rfl:_=r:=hr
  exact k' z (aa' (i:=4) bu' z z z) ⟨_,_,z,q⟩
 refine q'<|g'<|n'<|ah' [ff,ff,ff,ff,ff,ff,ff] mix (by kernel_rfl) fun hb=>cn (fun _ c=>bs' z)<|cn (fun _ c=>f' 2 sc4 z z z)<|cn (fun _ c=>aZ' z)<|cn (fun _ c=>f' 2 bL' z z z)<|cn (fun _ c=>aZ' z)<|cn (fun _ c=>f' 3 bL' z z z) ?_
 obtain⟨C,T,hr⟩:=hr
 refine aX' (post:=wl' (Rp.int .u32) C) (fun _=>z) (fun _ _=>t' E164 z) (fJ' T) z (fun G' c=>⟨(e.mono c),(f.mono c)⟩) (fun v G1 G2 c h=>?_) ?_
 .obtain⟨I,V,rfl,n⟩:=h
  exact⟨_,_,z,n.mono c⟩
 refine cU' (d:=38) (post:=wl' (Rp.int .u32) C) (fun av aA al x=>?_)
 obtain⟨I,V,rfl,n⟩:=x
 obtain⟨ax,M,hr⟩:=hr
 refine P' z z (t' E118 z) (cS' M) z (n) (fun au aG ak B=>?_)
 obtain⟨Y,aa,rfl,u⟩:=B
 refine s' 4 z dl' z z z z z (List.all_eq_true.1 z)<|u'<|aq'<|g'<|j' ?_
 obtain rfl:_=r:=hr
 exact k' z (aa' (i:=4) bu' z z z) ⟨_,_,z,u⟩
theorem hd'{x t l m j k n o g e r}(hr:(ZhD x t).Ret r):Ctr prog 81 #[.agg ((v130' x l m j k)).toArray,.agg ((v130' t n o g e)).toArray] (fun G=>sl (Rp.int .u32) G l m x.num.mag/\sl (Rp.int .u32) G j k x.den.mag/\sl (Rp.int .u32) G n o t.num.mag/\sl (Rp.int .u32) G g e t.den.mag) (w130' r):=by
 refine E' (args:=[_,_]) (N:=22) func81 z z z (fun w0 G0 az ag=>?_)
 obtain⟨I,y,J,A⟩:=ag
 refine sr<|af' 2 z z z fun b2=>af' 3 z z z fun b3=>V' 4 z z130 z fun b4=>nx<|n'<|ah' [ff,ff,ff,ff,ff,ff,ff,ff,ff,ff,ff,ff,ff,ff,ff] mix (by kernel_rfl) fun hb=>cn (fun _ c=>cE' z)<|cn (fun _ c=>aI' ((v128' x.num l m)).toArray 2 bu' z z z (aU' ([]) ((v128' x.num l m)) ((v128' x.den j k))))<|cn (fun _ c=>cj' z)<|cn (fun _ c=>aI' ((v128' t.den g e)).toArray 3 bu' z z z (aU' ((v128' t.num n o)) ((v128' t.den g e)) ([]))) ?_
 obtain⟨V,ah,hr⟩:=hr
 refine aX' (post:=w128' V) (fun _=>z) (fun _ _=>t' E114 z) (ey' ah) z (fun G' c=>⟨(I.mono c),(A.mono c)⟩) (fun v G1 G2 c h=>?_) ?_
 .obtain⟨D,E,rfl,q⟩:=h
  exact⟨_,_,z,q.mono c⟩
 refine cu (fun _ _ c=>cE' z)<|cu (fun _ _ c=>aI' ((v128' t.num n o)).toArray 3 bu' z z z (aU' ([]) ((v128' t.num n o)) ((v128' t.den g e))))<|cu (fun _ _ c=>cj' z)<|cu (fun _ _ c=>aI' ((v128' x.den j k)).toArray 2 bu' z z z (aU' ((v128' x.num l m)) ((v128' x.den j k)) ([]))) ?_
 obtain⟨U,aj,hr⟩:=hr
 refine aX' (post:=w128' U) (fun _=>z) (fun _ _=>t' E114 z) (ey' aj) z (fun G' c=>⟨(J.mono c),(y.mono c)⟩) (fun v G1 G2 c h=>?_) ?_
 .obtain⟨B,C,rfl,p⟩:=h
  exact⟨_,_,z,p.mono c⟩
 obtain⟨ae,ak,hr⟩:=hr
 refine cD' (f:=113) (φ:=w128' ae) (fun _=>z) (fun v G1 G2 c h=>?_) (fun u G' c hu=>?_) ?_
 .obtain⟨M,O,rfl,s⟩:=h
  exact⟨_,_,z,s.mono c⟩
 .obtain⟨⟨B,C,ad,p⟩,⟨D,E,W,q⟩,_⟩:=(show (w128' U) G'.m (u 14)/\(w128' V) G'.m (u 9)/\True from hu)
  exact⟨_,_,_,fun _=>t' E113 z,hc' ak,(by simp only[ad,W] <;> rfl),⟨q,p⟩⟩
 refine cu (fun _ _ c=>cj' z)<|cu (fun _ _ c=>aI' ((v128' x.den j k)).toArray 2 bu' z z z (aU' ((v128' x.num l m)) ((v128' x.den j k)) ([])))<|cu (fun _ _ c=>cj' z)<|cu (fun _ _ c=>aI' ((v128' t.den g e)).toArray 3 bu' z z z (aU' ((v128' t.num n o)) ((v128' t.den g e)) ([])))<|Chain.tailU3 (d:=15) (post:=w128' ae) (d':=14) (post':=w128' U) (d'':=9) (post'':=w128' V) (fun ar aq av aB K T L R=>?_)
 obtain⟨M,O,rfl,s⟩:=T
 obtain⟨B,C,rfl,p⟩:=L
 obtain⟨D,E,rfl,q⟩:=R
 obtain⟨aC,af,hr⟩:=hr
 refine P' z z (t' E114 z) (ey' af) z (⟨(y.mono K),(A.mono K)⟩) (fun ax ay ab P=>?_)
 obtain⟨al,am,rfl,Q⟩:=P
 obtain⟨aD,ai,hr⟩:=hr
 refine P' z z (t' E112 z) (fs' ai) z (⟨(s.mono ab),Q⟩) (fun au aA ap S=>?_)
 obtain⟨Y,aa,Z,X,rfl,F,H⟩:=S
 refine s' 4 z sz130 z z z z z (List.all_eq_true.1 z)<|u'<|aq'<|g'<|j' ?_
 obtain rfl:_=r:=hr
 exact k' z (aa' (i:=4) cR' z z z) ⟨_,_,_,_,z,F,H⟩
theorem gp'{E F S T U V r}(hr:(ZfQ E F).Ret r):Ctr prog 62 #[.slice S E.length T,.slice U F.length V] (fun G=>sl K' G S T E/\sl K' G U V F) (wl' K' r):=by
 refine E' (args:=[_,_]) (N:=109) func62 z z z (fun w0 G0 av bn=>?_)
 obtain⟨y,J⟩:=bn
 refine sr<|sg z z<|nr<|bd' (e:=133) (r:=K') (vs:=#[]) (cs:=[]) ([]:List Ze) z z z z z (by decide) (fun _=>by kernel_rfl) (z) (key:=999) z (by rw[av]; rfl) fun p1 aZ g bC=>sg z z<|nr<|sg z z<|sx0 z z<|n'<|am' (fun (⟨aa,ag,ah,ae,aA⟩:(List Ze)×Option Addr×Nat×Option Ow×Mem)=>[(5,.slice ag aa.length ah)]) (fun ⟨aa,ag,ah,ae,aA⟩=>Mem.le aZ aA/\sl K' aA ag ah aa/\Tok 12 133 (.slice ag aa.length ah) aa.length ae/\(Zgb aa).Ret r) (fun ⟨aa,ag,ah,ae,aA⟩=>St w0 G0 aA [(1005,ae)]) ?_ ?_
 .refine B' ?_
  let ao:(List Ze)->Prop:=fun oo=>((fun ov=>match ov with|aa=>Zgb aa:(List Ze)->Cq (List Ze)) oo).wp (fun a=>a=r)
  replace hr:(Cq.loop _ _).wp ao:=hr
  refine an' (Φ:=ao) (fun (⟨C,I,H,D,M,o,af⟩:(List Ze)×Option Addr×Nat×Option Ow×Int×Int×Mem)=>((C,M,o):(List Ze)×Int×Int)) (fun ⟨C,I,H,D,M,o,af⟩=>[(0,.slice S E.length T),(1,.slice U F.length V),(5,.slice I C.length H),(6,i' M),(7,i' o)]) (fun ⟨C,I,H,D,M,o,af⟩=>Mem.le aZ af/\sl K' af I H C/\Tok 12 133 (.slice I C.length H) C.length D) (fun ⟨C,I,H,D,M,o,af⟩=>St w0 G0 af [(1005,D)]) ⟨[],p1,0,none,0,0,aZ⟩ hr (f5 z z z z z) ⟨mr,bC,dh'⟩ (wk (lw ln)) ?_
  .intro aM gx hx hr
   obtain⟨C,I,H,D,M,o,af⟩:=gx
   obtain⟨d,aG,aw⟩:=hx
   refine aM' (fun (gx:Mem)=>match gx with|an=>[(0,.slice S E.length T),(1,.slice U F.length V),(5,.slice I C.length H),(6,i' M),(7,i' o)]) (fun (gx:Mem)=>match gx with|an=>Mem.le af an/\(Zbd E F C M o).wp (Out aM ao)) (fun (gx:Mem)=>match gx with|an=>St w0 G0 an [(1005,D)]) ?_ ?_
   .refine sr<|mv z z<|mv z z<|yy (M' ak' (y.mono (mt g d)) z) z<|ad' hr z (ai' z z) z (fun bM hr=>?_) (fun bM hr=>?_)
    .refine mv z z<|sn4 z<|yy (h' z z) z<|nx<|U' z<|q'<|ar' af ⟨mr,hr⟩ (f5 z z z z z) (w1 z)
    refine mv z z<|gy z z (e' z) z<|gy z z (e' z) z<|gy z z (M' ak' (J.mono (mt g d)) z) z<|gy z z (ai' z z) z<|yy (l' z z) z<|nx<|L' hr z (fun bJ hr=>?_) (fun bJ hr=>?_)
    .refine q'<|ar' af ⟨mr,hr⟩ (f5 z z z z z) (w1 z)
    refine ao'<|r'<|r'<|O'<|ap' ⟨C,I,H,D,af⟩ ⟨d,aG,aw,hr⟩ (f1 z) (w1 z)
   rintro an ⟨f,hr⟩
   refine B'<|aM' (fun (⟨K,X,Y,Q,L,am⟩:(List Ze)×Option Addr×Nat×Option Ow×Int×Mem)=>[(0,.slice S E.length T),(1,.slice U F.length V),(5,.slice X K.length Y),(6,i' L),(7,i' o)]) (fun ⟨K,X,Y,Q,L,am⟩=>Mem.le an am/\sl K' am X Y K/\Tok 12 133 (.slice X K.length Y) K.length Q/\(Zcz E F o K L).wp (Out aM ao)) (fun ⟨K,X,Y,Q,L,am⟩=>St w0 G0 am [(1005,Q)]) ?_ ?_
   .refine aM' (fun (⟨ar,az⟩:Bool×Mem)=>[(0,.slice S E.length T),(1,.slice U F.length V),(5,.slice I C.length H),(6,i' M),(7,i' o),(43,.bool ar)]) (fun ⟨ar,az⟩=>Mem.le an az/\(ZaO E F C M o ar).wp (Out aM ao)) (fun ⟨ar,az⟩=>St w0 G0 az [(1005,D)]) ?_ ?_
    .refine ah' [ff,ff,ff,ff,ff,ff,ff,ff,ff,ff,ff,ff,ff,ff,ff,ff,ff,ff,ff,ff] mix (by kernel_rfl) fun hb=>cn (fun _ c=>e' z)<|cn (fun _ c=>e' z)<|cn (fun _ c=>M' ak' ((J.mono (mt (mt g d) f)).mono c) z)<|bz' hr z (fun _ c=>au' z z) (fun bZ hr=>?_) (fun bZ hr=>?_)
     .refine cn (fun _ c=>e' z)<|cf z z<|cf z z<|cf z z<|cf z z<|cf z z<|cs z z<|cs z z<|cs z z<|cs z z<|cs z z<|cs z z<|cs z z<|cs z z<|cs z z<|cs z z<|R' hb<|N' (x' z z) z<|N' (x' z z) z<|sf z z z<|yy (h' z z) z<|u'<|aq'<|ar' ⟨true,an⟩ ⟨mr,hr⟩ (f6 z z z z z z) (w1 z)
     refine cn (fun _ c=>e' z)<|cy z z (fun _ c=>e' z)<|cy z z (fun _ c=>e' z)<|cy z z (fun _ c=>M' ak' ((y.mono (mt (mt g d) f)).mono c) z)<|bz' hr (v' z z) (fun _ c=>ai' z z) (fun bR hr=>?_) (fun bR hr=>?_)
     .refine cy z z (fun _ c=>e' z)<|cy z z (fun _ c=>e' z)<|cy z z (fun _ c=>e' z) ?_
      obtain⟨x8,a6,hr⟩:=hr
      refine cy z z (fun _ c=>T' ak' cg' ((y.mono (mt (mt g d) f)).mono c) z z a6)<|cy z z (fun _ c=>bB' z)<|cy z z (fun _ c=>aA' _ bS' z (ac' _ _ _) (dv' (I' (I' (ax' (ay' (ae' y a6))) (mt (mt g d) f)) c)))<|cy z z (fun _ c=>e' z)<|cy z z (fun _ c=>e' z) ?_
      obtain⟨x9,be,hr⟩:=hr
      refine cy z z (fun _ c=>T' ak' cg' ((J.mono (mt (mt g d) f)).mono c) z z be)<|cy z z (fun _ c=>bB' z)<|cy z z (fun _ c=>aA' _ bS' z (ac' _ _ _) (dv' (I' (I' (ax' (ay' (ae' J be))) (mt (mt g d) f)) c)))<|R' hb ?_
      obtain⟨b2,bl,hr⟩:=hr
      refine F' (v' z z) z (t' E80 z) (ft' bl) z (trivial)<|gy z z (bh' z z) z<|gy z z (h' z z) z<|yy (l' z z) z<|u'<|aq'<|ar' ⟨decide (0<b2),an⟩ ⟨mr,hr⟩ (f6 z z z z z z) (w1 z)
     refine cy z z (fun _ c=>e' z)<|ct z z<|ct z z<|ct z z<|ct z z<|ct z z<|ct z z<|ct z z<|ct z z<|ct z z<|ct z z<|R' hb<|sn2 z<|gy z z (l' z z) z<|yy (l' z z) z<|u'<|aq'<|ar' ⟨false,an⟩ ⟨mr,hr⟩ (f6 z z z z z z) (w1 z)
    rintro⟨ar,az⟩ ⟨ai,hr⟩
    refine aL' hr z (fun bD hr=>?_) (fun bD hr=>?_)
    .refine sr<|mv z z<|mv z z<|mv z z ?_
     obtain⟨x7,ba,hr⟩:=hr
     refine yy (T' ak' cg' (y.mono (mt (mt (mt g d) f) ai)) z z ba) z ?_
     obtain⟨u,A,B,x,bQ,aD,aC⟩:=do' (I' (ae' y ba) (mt (mt (mt g d) f) ai))
     refine yy (aA' _ ag133 z z bQ) z<|bd' (e:=133) (r:=K') (vs:=#[(0,.agg (((v130' x7.c u A B x):List Value)++(vecG (Value.int .i64) 8 x7.m)).toArray)]) (cs:=(((v130' x7.c u A B x):List Value)++(vecG (Value.int .i64) 8 x7.m))++([])) ([x7]:List Ze) z z z z z (by decide) (fun _=>by kernel_rfl) ⟨((v130' x7.c u A B x):List Value)++(vecG (Value.int .i64) 8 x7.m),[],z,⟨(v130' x7.c u A B x),vecG (Value.int .i64) 8 x7.m,z,⟨(v128' x7.c.num u A),(v128' x7.c.den B x),z,⟨[.bool x7.c.num.neg],[.slice u x7.c.num.mag.length A],z,z,⟨_,z,aD⟩⟩,⟨[.bool x7.c.den.neg],[.slice B x7.c.den.mag.length x],z,z,⟨_,z,aC⟩⟩⟩,z⟩,z⟩ (key:=999) z (by rw[av]; rfl) (fun p6 cg aU bN=>?_)
     obtain⟨bw,hr⟩:=hr
     refine bW' (r:=K') 1005 z z ak' el133 z (by decide) z z (aG.mono (mt (mt f ai) aU)) z (by rw[av]; rfl) aw bN bw fun p7 bG bo bU a2 bT bu=>sg z z<|nr<|mv z z<|yy (X' z z) z<|sx0 z z<|ao'<|r'<|O'<|Y' ⟨(C++[x7]),p7,bG,bo,i64.wrap (M+1),o,bU⟩ hr ⟨(mt (mt (mt (mt d f) ai) aU) a2),bT,bu⟩ (f5 z z z z z) (w1 z)
    refine q'<|ar' ⟨C,I,H,D,M,az⟩ ⟨ai,(aG.mono (mt f ai)),aw,hr⟩ (f5 z z z z z) (w1 z)
   rintro⟨K,X,Y,Q,L,am⟩ ⟨n,aW,aP,hr⟩
   refine aM' (fun (⟨Z,ad,ac,ab,ap,ay⟩:(List Ze)×Option Addr×Nat×Option Ow×Int×Mem)=>[(0,.slice S E.length T),(1,.slice U F.length V),(5,.slice ad Z.length ac),(6,i' L),(7,i' ap)]) (fun ⟨Z,ad,ac,ab,ap,ay⟩=>Mem.le am ay/\sl K' ay ad ac Z/\Tok 12 133 (.slice ad Z.length ac) Z.length ab/\(Zgc E F L Z ap).wp (Out aM ao)) (fun ⟨Z,ad,ac,ab,ap,ay⟩=>St w0 G0 ay [(1005,ab)]) ?_ ?_
   .refine aM' (fun (⟨aq,ax⟩:Bool×Mem)=>[(0,.slice S E.length T),(1,.slice U F.length V),(5,.slice X K.length Y),(6,i' L),(7,i' o),(70,.bool aq)]) (fun ⟨aq,ax⟩=>Mem.le am ax/\(Zcy E F o K L aq).wp (Out aM ao)) (fun ⟨aq,ax⟩=>St w0 G0 ax [(1005,Q)]) ?_ ?_
    .refine ah' [ff,ff,ff,ff,ff,ff,ff,ff,ff,ff,ff,ff,ff,ff,ff] mix (by kernel_rfl) fun hb=>cn (fun _ c=>e' z)<|cn (fun _ c=>e' z)<|cn (fun _ c=>M' ak' ((y.mono (mt (mt (mt g d) f) n)).mono c) z)<|bz' hr z (fun _ c=>au' z z) (fun bF hr=>?_) (fun bF hr=>?_)
     .refine cn (fun _ c=>e' z)<|cf z z<|cf z z<|cf z z<|cf z z<|cf z z<|cf z z<|cf z z<|cf z z<|cf z z<|cf z z<|R' hb<|sn2 z<|yy (h' z z) z<|u'<|aq'<|ar' ⟨true,am⟩ ⟨mr,hr⟩ (f6 z z z z z z) (w1 z)
     refine cn (fun _ c=>e' z)<|cy z z (fun _ c=>e' z)<|cy z z (fun _ c=>e' z) ?_
     obtain⟨x5,a5,hr⟩:=hr
     refine cy z z (fun _ c=>T' ak' cg' ((y.mono (mt (mt (mt g d) f) n)).mono c) z z a5)<|cy z z (fun _ c=>bB' z)<|cy z z (fun _ c=>aA' _ bS' z (ac' _ _ _) (dv' (I' (I' (ax' (ay' (ae' y a5))) (mt (mt (mt g d) f) n)) c)))<|cy z z (fun _ c=>e' z)<|cy z z (fun _ c=>e' z) ?_
     obtain⟨x6,bf,hr⟩:=hr
     refine cy z z (fun _ c=>T' ak' cg' ((J.mono (mt (mt (mt g d) f) n)).mono c) z z bf)<|cy z z (fun _ c=>bB' z)<|cy z z (fun _ c=>aA' _ bS' z (ac' _ _ _) (dv' (I' (I' (ax' (ay' (ae' J bf))) (mt (mt (mt g d) f) n)) c)))<|R' hb ?_
     obtain⟨bP,bB,hr⟩:=hr
     refine F' (v' z z) z (t' E80 z) (ft' bB) z (trivial)<|gy z z (ai' z z) z<|yy (l' z z) z<|u'<|aq'<|ar' ⟨decide (bP<0),am⟩ ⟨mr,hr⟩ (f6 z z z z z z) (w1 z)
    rintro⟨aq,ax⟩ ⟨aj,hr⟩
    refine aL' hr z (fun bO hr=>?_) (fun bO hr=>?_)
    .refine sr<|mv z z<|mv z z<|mv z z ?_
     obtain⟨x4,a7,hr⟩:=hr
     refine yy (T' ak' cg' (J.mono (mt (mt (mt (mt g d) f) n) aj)) z z a7) z ?_
     obtain⟨t,p,q,s,bS,aB,aE⟩:=do' (I' (ae' J a7) (mt (mt (mt (mt g d) f) n) aj))
     refine yy (aA' _ ag133 z z bS) z<|bd' (e:=133) (r:=K') (vs:=#[(0,.agg (((v130' x4.c t p q s):List Value)++(vecG (Value.int .i64) 8 x4.m)).toArray)]) (cs:=(((v130' x4.c t p q s):List Value)++(vecG (Value.int .i64) 8 x4.m))++([])) ([x4]:List Ze) z z z z z (by decide) (fun _=>by kernel_rfl) ⟨((v130' x4.c t p q s):List Value)++(vecG (Value.int .i64) 8 x4.m),[],z,⟨(v130' x4.c t p q s),vecG (Value.int .i64) 8 x4.m,z,⟨(v128' x4.c.num t p),(v128' x4.c.den q s),z,⟨[.bool x4.c.num.neg],[.slice t x4.c.num.mag.length p],z,z,⟨_,z,aB⟩⟩,⟨[.bool x4.c.den.neg],[.slice q x4.c.den.mag.length s],z,z,⟨_,z,aE⟩⟩⟩,z⟩,z⟩ (key:=999) z (by rw[av]; rfl) (fun p4 ci aS b4=>?_)
     obtain⟨br,hr⟩:=hr
     refine bW' (r:=K') 1005 z z ak' el133 z (by decide) z z (aW.mono (mt aj aS)) z (by rw[av]; rfl) aP b4 br fun p5 bW bm bL a1 bE bz=>sg z z<|nr<|mv z z<|yy (X' z z) z<|sx0 z z<|ao'<|r'<|O'<|Y' ⟨(K++[x4]),p5,bW,bm,L,i64.wrap (o+1),bL⟩ hr ⟨(mt (mt (mt (mt (mt d f) n) aj) aS) a1),bE,bz⟩ (f5 z z z z z) (w1 z)
    refine q'<|ar' ⟨K,X,Y,Q,o,ax⟩ ⟨aj,(aW.mono aj),aP,hr⟩ (f5 z z z z z) (w1 z)
   rintro⟨Z,ad,ac,ab,ap,ay⟩ ⟨W,aT,aO,hr⟩
   refine n'<|ah' [ff,ff,ff,ff,ff,ff,ff,ff,ff,ff,ff,ff] mix (by kernel_rfl) fun hb=>cn (fun _ c=>e' z)<|cn (fun _ c=>e' z) ?_
   obtain⟨x1,bi,hr⟩:=hr
   refine cn (fun _ c=>T' ak' cg' ((y.mono (mt (mt (mt (mt g d) f) n) W)).mono c) z z bi)<|cn (fun _ c=>cQ' z) ?_
   obtain⟨bk,bd,bh,bg,bI,aJ,aI⟩:=ej' (I' (aW' (ay' (ae' y bi))) (mt (mt (mt (mt g d) f) n) W))
   refine cn (fun _ c=>aA' _ cR' z z (fun j v hv=>c _ _ _ (bI j v hv)))<|cn (fun _ c=>e' z)<|cn (fun _ c=>e' z) ?_
   obtain⟨x2,bc,hr⟩:=hr
   refine cn (fun _ c=>T' ak' cg' ((J.mono (mt (mt (mt (mt g d) f) n) W)).mono c) z z bc)<|cn (fun _ c=>cQ' z) ?_
   obtain⟨a8,a4,bj,a9,b0,aK,aH⟩:=ej' (I' (aW' (ay' (ae' J bc))) (mt (mt (mt (mt g d) f) n) W))
   refine cn (fun _ c=>aA' _ cR' z z (fun j v hv=>c _ _ _ (b0 j v hv))) ?_
   obtain⟨R,bt,hr⟩:=hr
   refine aX' (post:=w130' R) (fun _=>z) (fun _ _=>t' E81 z) (hd' bt) z (fun G' c=>⟨(aJ.mono c),(aI.mono c),(aK.mono c),(aH.mono c)⟩) (fun v G1 G2 c h=>?_) ?_
   .obtain⟨l,m,k,i,rfl,P,O⟩:=h
    exact⟨_,_,_,_,z,P.mono c,O.mono c⟩
   refine bE' (fun _=>z) z130<|eg' (fun ch b9 X1 au aY aX=>?_)
   obtain⟨b1,rfl,bs⟩:=aY
   obtain⟨l,m,k,i,rfl,P,O⟩:=aX
   refine cu' bs (cf' (show WL _ _ _ _ _ _ (St w0 G0 X1.m _) from ?_))
   refine s' 8 z sz130 z z z z z (List.all_eq_true.1 z)<|u'<|aq'<|g'<|n'<|sr<|yy (o' 8 cR' z z z) z ?_
   obtain⟨cj,bA,hr⟩:=hr
   refine F' z z (t' E82 z) (eX' bA) z (⟨P,O⟩)<|yy (aw' z z) z<|nx<|L' hr z (fun bV hr=>?_) (fun bV hr=>?_)
   .refine ah' [tt,ff,ff,ff,ff,ff,ff] mix (by kernel_rfl) fun hb=>cq' z (e' z)<|cn (fun _ c=>o' 8 cR' z z z)<|cn (fun _ c=>e' z)<|cn (fun _ c=>e' z) ?_
    obtain⟨x3,bb,hr⟩:=hr
    have N1:=mt (mt (mt (mt (mt g d) f) n) W) au
    refine cn (fun _ c=>T' ak' cg' ((y.mono N1).mono c) z z bb)<|cn (fun _ c=>bB' z)<|cn (fun _ c=>aA' _ bS' z (ac' _ _ _) (dv' (I' (I' (ax' (ay' (ae' y bb))) N1) c)))<|R' hb<|yy (av' (vs:=#[(0,.agg ((v130' R l m k i)).toArray),(1,.agg (vecG (Value.int .i64) 8 x3.m).toArray)]) (v:=.agg (((v130' R l m k i):List Value)++(vecG (Value.int .i64) 8 x3.m)).toArray) z z (fun _=>by kernel_rfl)) z<|bd' (e:=133) (r:=K') (vs:=#[(0,.agg (((v130' R l m k i):List Value)++(vecG (Value.int .i64) 8 x3.m)).toArray)]) (cs:=(((v130' R l m k i):List Value)++(vecG (Value.int .i64) 8 x3.m))++([])) ([(Ze.mk R x3.m)]:List Ze) z z z z z (by decide) (fun _=>by kernel_rfl) ⟨((v130' R l m k i):List Value)++(vecG (Value.int .i64) 8 x3.m),[],z,⟨(v130' R l m k i),vecG (Value.int .i64) 8 x3.m,z,⟨(v128' R.num l m),(v128' R.den k i),z,⟨[.bool R.num.neg],[.slice l R.num.mag.length m],z,z,⟨_,z,P⟩⟩,⟨[.bool R.den.neg],[.slice k R.den.mag.length i],z,z,⟨_,z,O⟩⟩⟩,z⟩,z⟩ (key:=999) z (by rw[av]; rfl) (fun p2 ck aV b5=>?_)
    obtain⟨bp,hr⟩:=hr
    refine bW' (r:=K') 1005 z z ak' el133 z (by decide) z z (aT.mono (mt au aV)) z (by rw[av]; rfl) aO b5 bp fun p3 bY bv bK a3 bX bq=>sg z z<|u'<|aq'<|g'<|sr<|mv z z<|yy (X' z z) z<|sx0 z z<|A'<|mv z z<|yy (X' z z) z<|sg z z<|u'<|J'<|Y' ⟨(Z++[(Ze.mk R x3.m)]),p3,bY,bv,i64.wrap (L+1),i64.wrap (ap+1),bK⟩ hr ⟨(mt (mt (mt (mt (mt (mt d f) n) W) au) aV) a3),bX,bq⟩ (f5 z z z z z) (w1 z)
   refine q'<|g'<|sr<|mv z z<|yy (X' z z) z<|sx0 z z<|A'<|mv z z<|yy (X' z z) z<|sg z z<|u'<|J'<|Y' ⟨Z,ad,ac,ab,i64.wrap (L+1),i64.wrap (ap+1),X1.m⟩ hr ⟨(mt (mt (mt (mt d f) n) W) au),(aT.mono au),aO⟩ (f5 z z z z z) (w1 z)
 rintro⟨aa,ag,ah,ae,aA⟩ ⟨b6,a0,b3,hr⟩
 refine g'<|sr<|mv z z<|sx0 z z<|j' ?_
 obtain rfl:_=r:=hr
 exact k' z z ⟨_,_,z,a0⟩
theorem gT'{y O K V B A r}(hr:(Zil y O K V).Ret r):Ctr prog 46 #[.agg ([.slice B y.t.length A]).toArray,i' O,i' K,i' V] (fun G=>sl (dw' .i8 5) G B A y.t) (wl' K' r):=by
 refine E' (args:=[_,_,_,_]) (N:=74) func46 z z z (fun w0 G0 aB aG=>?_)
 have J:=aG
 refine sr<|af' 4 z z z fun b1=>sg z z<|nr<|bd' (e:=133) (r:=K') (vs:=#[]) (cs:=[]) ([]:List Ze) z z z z z (by decide) (fun _=>by kernel_rfl) (z) (key:=999) z (by rw[aB]; rfl) fun p1 ar R aS=>sx0 z z<|n'<|sr<|sx0 z z<|am' (fun (⟨H,Q,S,Z⟩:(List Ze)×Option Addr×Nat×Mem)=>[(9,.slice Q H.length S)]) (fun ⟨H,Q,S,Z⟩=>Mem.le ar Z/\sl K' Z Q S H/\(Zfl H).Ret r) (fun ⟨H,Q,S,Z⟩=>St w0 G0 Z []) ?_ ?_
 .refine B' ?_
  let Y:(List Ze)->Prop:=fun oo=>((fun ov=>match ov with|H=>Zfl H:(List Ze)->Cq (List Ze)) oo).wp (fun a=>a=r)
  replace hr:(Cq.loop _ _).wp Y:=hr
  refine an' (Φ:=Y) (fun (⟨k,n,l,j,L⟩:(List Ze)×Option Addr×Nat×Int×Mem)=>((k,j):(List Ze)×Int)) (fun ⟨k,n,l,j,L⟩=>[(1,i' O),(2,i' K),(3,i' V),(4,pt0 b1),(9,.slice n k.length l),(10,i' j)]) (fun ⟨k,n,l,j,L⟩=>Mem.le ar L/\sl K' L n l k) (fun ⟨k,n,l,j,L⟩=>St w0 G0 L [(4,bk0 b1 ([.slice B y.t.length A]) 52)]) ⟨[],p1,0,0,ar⟩ hr (f6 z z z z z z) ⟨mr,aS⟩ (w1 z) ?_
  .intro ap gx hx hr
   obtain⟨k,n,l,j,L⟩:=gx
   obtain⟨s,ad⟩:=hx
   refine aM' (fun (gx:Mem)=>match gx with|U=>[(1,i' O),(2,i' K),(3,i' V),(4,pt0 b1),(9,.slice n k.length l),(10,i' j)]) (fun (gx:Mem)=>match gx with|U=>Mem.le L U/\(ZhW y O K k j).wp (Out ap Y)) (fun (gx:Mem)=>match gx with|U=>St w0 G0 U [(4,bk0 b1 ([.slice B y.t.length A]) 52)]) ?_ ?_
   .refine sr<|mv z z<|yy (Y0.Zk4 z) z<|yy (f' 4 sc50 z z z) z<|yy (M' eC' (J.mono (mt R s)) z) z<|ad' hr z (ai' z z) z (fun a0 hr=>?_) (fun a0 hr=>?_)
    .refine mv z z<|gy z z (e' z) z<|gy z z (e' z) z<|gy z z (ai' z z) z<|yy (h' z z) z<|nx<|L' hr z (fun aY hr=>?_) (fun aY hr=>?_)
     .refine q'<|ar' L ⟨mr,hr⟩ (f6 z z z z z z) (w1 z)
     refine ao'<|r'<|r'<|O'<|ap' ⟨k,n,l,L⟩ ⟨s,ad,hr⟩ (f1 z) (wk ln)
    refine mv z z<|sn3 z<|yy (l' z z) z<|nx<|bb' z<|ao'<|r'<|r'<|O'<|ap' ⟨k,n,l,L⟩ ⟨s,ad,hr⟩ (f1 z) (wk ln)
   rintro U ⟨M,hr⟩
   refine n'<|B'<|sr<|yy (av' (vs:=#[]) (v:=.agg (vecG (Value.int .i64) 8 (fun _=>0)).toArray) z z (fun _=>by kernel_rfl)) z<|V' 11 z z120 z fun b2=>s' 11 z sz120 z z z (ac' _ _ _) (ac' _ _ _) (fun u hu=>Rp.one (dw' .i64 8) (G:=U) (x:=(fun _=>0)) (cs:=vecG (Value.int .i64) 8 (fun _=>0)) z u (by first|simpa using hu|simpa [Value.cells] using hu))<|nr<|mv z z<|sx0 z z<|n'<|sr<|sx0 z z<|am' (fun (⟨t,ag⟩:(Fin 8->Int)×Mem)=>[(1,i' O),(2,i' K),(3,i' V),(4,pt0 b1),(9,.slice n k.length l),(10,i' j),(11,pt0 b2)]) (fun ⟨t,ag⟩=>Mem.le U ag/\(Zfm y k j t).wp (Out ap Y)) (fun ⟨t,ag⟩=>St w0 G0 ag [(4,bk0 b1 ([.slice B y.t.length A]) 52),(11,bk0 b2 (vecG (Value.int .i64) 8 t) 120)]) ?_ ?_
   .refine B' ?_
    let au:(Fin 8->Int)->Prop:=fun oo=>((fun ov=>match ov with|t=>Zfm y k j t:(Fin 8->Int)->Cq (((List Ze)×Int)⊕(List Ze))) oo).wp (Out ap Y)
    replace hr:(Cq.loop _ _).wp au:=hr
    refine an' (Φ:=au) (fun (⟨p,m,I,P⟩:Int×Int×(Fin 8->Int)×Mem)=>((p,m,I):Int×Int×(Fin 8->Int))) (fun ⟨p,m,I,P⟩=>[(1,i' O),(2,i' K),(3,i' V),(4,pt0 b1),(9,.slice n k.length l),(10,i' j),(11,pt0 b2),(12,i' p),(13,i' m)]) (fun ⟨p,m,I,P⟩=>Mem.le U P) (fun ⟨p,m,I,P⟩=>St w0 G0 P [(4,bk0 b1 ([.slice B y.t.length A]) 52),(11,bk0 b2 (vecG (Value.int .i64) 8 I) 120)]) ⟨K,0,(fun _=>0),U⟩ hr (f9 z z z z z z z z z) mr (w2 z z) ?_
    .intro bi gx hx hr
     obtain⟨p,m,I,P⟩:=gx
     have T:=hx
     refine n'<|sr<|mv z z<|mv z z<|ad' hr z (ai' z z) z (fun aT hr=>?_) (fun aT hr=>?_)
     .refine mv z z<|gy z z (e' z) z<|gy z z (ai' z z) z<|yy (h' z z) z<|nx<|L' hr z (fun aZ hr=>?_) (fun aZ hr=>?_)
      .refine q'<|g'<|n'<|B'<|sr<|mv z z<|yy (Y0.Zk4 z) z<|yy (f' 4 sc50 z z z) z<|mv z z<|mv z z<|yy (X' z z) z ?_
       obtain⟨x2,aA,hr⟩:=hr
       refine yy (T' eC' sz123 (J.mono (mt (mt (mt R s) M) T)) z z aA) z ?_
       obtain⟨aC,hr⟩:=hr
       refine yy (Y0.idxA underlying123 sz122 z z aC) z<|yy (Z' sc122 z (AtK.vecAt (I' (ae' J aA) (mt (mt (mt R s) M) T)) aC)) z ?_
       obtain⟨av,aL,hr⟩:=hr
       refine F' z z (t' E61 z) (gZ' aL) z (trivial)<|mv z z<|yy (X' z z) z ?_
       obtain⟨aX,hr⟩:=hr
       refine yy (bA' z z aX) z ?_
       obtain⟨aU,hr⟩:=hr
       refine yy (bi' aO' sz3 z z aU) z<|aC' 11 (vecG (Value.int .i64) 8 (setF I m.toNat (Int.tmod av (i64.wrap (p+1))))).toArray z sz3 z z z (by first|(rw[ac']; omega)|(show _<(vecG _ _ _).toArray.size; rw[ac']; omega)) z (ci' _ _ _ _ _)<|nx<|A'<|mv z z<|mv z z ?_
       obtain⟨aE,hr⟩:=hr
       refine yy (bi' aO' sz3 z z aE) z<|yy (f' 11 sc3 z z (bk' _ _ _ aE)) z<|yy (bj' z z) z<|sg z z<|u'<|J'<|g'<|A'<|mv z z<|yy (X' z z) z<|sg z z<|u'<|Y' ⟨i64.wrap (p-(getF (setF I m.toNat (Int.tmod av (i64.wrap (p+1)))) m)),i64.wrap (m+1),setF I m.toNat (Int.tmod av (i64.wrap (p+1))),P⟩ hr T (f9 z z z z z z z z z) (w2 z z)
      refine ao'<|r'<|r'<|O'<|ap' ⟨I,P⟩ ⟨T,hr⟩ (f7 z z z z z z z) (w2 z z)
     refine mv z z<|sn2 z<|yy (l' z z) z<|nx<|bb' z<|ao'<|r'<|r'<|O'<|ap' ⟨I,P⟩ ⟨T,hr⟩ (f7 z z z z z z z) (w2 z z)
   rintro⟨t,ag⟩ ⟨W,hr⟩
   refine g'<|ah' [tt,ff,ff,ff,ff,ff,ff,ff,ff,ff,ff,ff] mix (by kernel_rfl) fun hb=>cq' z (e' z)<|cn (fun _ o=>Y0.Zk4 z)<|cn (fun _ o=>f' 4 sc50 z z z)<|cn (fun _ o=>e' z) ?_
   obtain⟨x1,aD,hr⟩:=hr
   have N1:=mt (mt (mt R s) M) W
   refine cn (fun _ o=>T' eC' sz123 ((J.mono N1).mono o) z z aD)<|cn (fun _ o=>Y0.idxA underlying123 sz122 z z (by decide))<|cn (fun _ o=>Z' sc122 z (AtK.vecAt (I' (I' (ae' J aD) N1) o) (by decide)))<|cn (fun _ o=>bA' z z (by decide))<|cn (fun _ o=>aN' ex' underlying2 z) ?_
   obtain⟨az,aJ,hr⟩:=hr
   refine aX' (post:=w130' az) (fun _=>z) (fun _ _=>t' E64 z) (fH' aJ) z (fun G' o=>trivial) (fun v G1 G2 o h=>?_) ?_
   .obtain⟨ac,af,ab,aa,rfl,F,D⟩:=h
    exact⟨_,_,_,_,z,F.mono o,D.mono o⟩
   obtain⟨q,aM,hr⟩:=hr
   refine aX' (post:=w130' q) (fun _=>z) (fun _ _=>t' E64 z) (fH' aM) z (fun G' o=>trivial) (fun v G1 G2 o h=>?_) ?_
   .obtain⟨g,c,i,f,rfl,C,E⟩:=h
    exact⟨_,_,_,_,z,C.mono o,E.mono o⟩
   refine cu (fun _ _ o=>o' 11 bS' z z (ac' _ _ _))<|du' (d:=67) (post:=w130' q) (d':=66) (post':=w130' az) (fun a4 a7 bg ai ak am=>?_)
   obtain⟨g,c,i,f,rfl,C,E⟩:=ak
   obtain⟨ac,af,ab,aa,rfl,F,D⟩:=am
   refine yy (av' (vs:=#[(0,.agg ((v130' q g c i f)).toArray),(1,.agg (vecG (Value.int .i64) 8 t).toArray)]) (v:=.agg (((v130' q g c i f):List Value)++(vecG (Value.int .i64) 8 t)).toArray) z z (fun _=>by kernel_rfl)) z<|bd' (e:=133) (r:=K') (vs:=#[(0,.agg (((v130' q g c i f):List Value)++(vecG (Value.int .i64) 8 t)).toArray)]) (cs:=(((v130' q g c i f):List Value)++(vecG (Value.int .i64) 8 t))++([])) ([(Ze.mk q t)]:List Ze) z z z z z (by decide) (fun _=>by kernel_rfl) ⟨((v130' q g c i f):List Value)++(vecG (Value.int .i64) 8 t),[],z,⟨(v130' q g c i f),vecG (Value.int .i64) 8 t,z,⟨(v128' q.num g c),(v128' q.den i f),z,⟨[.bool q.num.neg],[.slice g q.num.mag.length c],z,z,⟨_,z,C⟩⟩,⟨[.bool q.den.neg],[.slice i q.den.mag.length f],z,z,⟨_,z,E⟩⟩⟩,z⟩,z⟩ (key:=999) z (by rw[aB]; rfl) (fun p2 bh X a2=>?_)
   obtain⟨bf,aO,hr⟩:=hr
   refine P' z z (t' E63 z) (gO' aO) z (⟨(F.mono X),(D.mono X),a2⟩) (fun a6 be aj an=>?_)
   obtain⟨a5,ba,rfl,aH⟩:=an
   obtain⟨a1,aF,hr⟩:=hr
   refine P' z z (t' E62 z) (gp' aF) z (⟨(ad.mono (mt (mt (mt (mt M W) ai) X) aj)),aH⟩) (fun bd aV aw al=>?_)
   obtain⟨aK,aQ,rfl,aR⟩:=al
   have N2:=mt (mt (mt (mt (mt (mt s M) W) ai) X) aj) aw
   refine sg z z<|u'<|aq'<|J'<|g'<|A'<|mv z z<|yy (X' z z) z<|sg z z<|u'<|Y' ⟨a1,aK,aQ,i64.wrap (j+1),aV⟩ hr ⟨N2,aR⟩ (f6 z z z z z z) (w1 z)
 rintro⟨H,Q,S,Z⟩ ⟨a3,ax,hr⟩
 refine g'<|sr<|mv z z<|sx0 z z<|j' ?_
 obtain rfl:_=r:=hr
 exact k' z z ⟨_,_,z,ax⟩
theorem eY'{e d y s C B x t l m r}(hr:(Zet e d).Ret r):Ctr prog 19 #[.agg ((v31' e y s C B x t)).toArray,.agg ((v54' d l m)).toArray] (fun G=>sl Rp.str G y s e.vars/\sl b' G C B e.eqs/\sl b' G x t e.neqs/\sl (dw' .i8 5) G l m d.p.t) (w48' r):=by
 refine E' (args:=[_,_]) (N:=77) func19 z z z (fun w0 G0 aJ af=>?_)
 obtain⟨J,aq,ad,Q⟩:=af
 refine sr<|af' 2 z z z fun b1=>af' 3 z z z fun b2=>V' 4 z z48 z fun Y=>nr<|yy (aH' z) z<|yy (f' 2 bC' z z z) z<|yy (M' H' J z) z<|sx0 z z<|n'<|ah' [ff,ff,ff,ff,ff,ff,ff,ff,ff,ff,ff,ff,ff,ff,ff,ff,ff,ff,ff,ff,ff,ff,ff,ff,ff,ff,ff,ff,ff,ff,ff,ff,ff,ff,ff,ff] mix (by kernel_rfl) fun hb=>cn (fun _ f=>Y0.ZnB z)<|cn (fun _ f=>f' 3 sc5 z z z)<|cn (fun _ f=>bA' z z (by decide))<|cn (fun _ f=>aN' aQ' aB' z)<|cn (fun _ f=>X' z z)<|cn (fun _ f=>Y0.Zk5 z)<|cn (fun _ f=>f' 3 sc5 z z z)<|cn (fun _ f=>aN' aQ' aB' z)<|cn (fun _ f=>e' z)<|cn (fun _ f=>X' z z) ?_
 obtain⟨aw,hr⟩:=hr
 refine cn (fun _ f=>bA' z z aw)<|cn (fun _ f=>Y0.ZnC z)<|cn (fun _ f=>f' 3 sc5 z z z)<|cn (fun _ f=>aN' aQ' aB' z)<|cn (fun _ f=>e' z)<|cn (fun _ f=>X' z z) ?_
 obtain⟨aA,hr⟩:=hr
 refine cn (fun _ f=>bA' z z aA)<|cn (fun _ f=>Y0.Zk6 z)<|cn (fun _ f=>f' 3 sc5 z z z)<|cn (fun _ f=>aN' aQ' aB' z)<|cn (fun _ f=>bw' z)<|cn (fun _ f=>f' 2 sc3 z z z)<|cn (fun _ f=>X' z z) ?_
 obtain⟨av,hr⟩:=hr
 refine cn (fun _ f=>bA' z z av)<|cn (fun _ f=>Y0.ZnC z)<|cn (fun _ f=>f' 3 sc5 z z z)<|cn (fun _ f=>bA' z z (by decide))<|cn (fun _ f=>au' z z) ?_
 obtain⟨O,ak,hr⟩:=hr
 refine aX' (post:=wl' Rp.str O) (fun _=>z) (fun _ _=>t' E45 z) (gK' ak) z (fun Z f=>trivial) (fun v G1 G2 f h=>?_) ?_
 .obtain⟨K,L,rfl,A⟩:=h
  exact⟨_,_,z,A.mono f⟩
 refine cu (fun _ _ f=>Y0.Zk6 z)<|cu (fun _ _ f=>f' 3 sc5 z z z)<|cu (fun _ _ f=>bA' z z (by decide)) ?_
 obtain⟨I,ae,hr⟩:=hr
 refine bm' (φ:=fun G v=>∃ D E,v = .pointer (some ⟨pb D,po D+(Int.tmod d.n 6).toNat*1,none⟩)/\sl Rp.str G D E O) (fun _=>z) (fun v G1 G2 f h=>?_) (fun u Z f hu=>?_) ?_
 .obtain⟨D,E,rfl,M⟩:=h
  exact⟨_,_,z,M.mono f⟩
 .obtain⟨⟨K,L,V,A⟩,_⟩:=(show (wl' Rp.str O) Z.m (u 38)/\True from hu)
  simp only[undFr,V]
  exact⟨_,T' H' sz9 A z z ae,K,L,z,A⟩
 refine Chain.y0UD (c:=.string I) (fun _=>z) (fun u Z f hu=>?_) ?_
 .obtain⟨⟨D,E,aa,M⟩,_,_⟩:=(show (fun G v=>∃ D E,v = .pointer (some ⟨pb D,po D+(Int.tmod d.n 6).toNat*1,none⟩)/\sl Rp.str G D E O) Z.m (u 42)/\True/\True from hu)
  simp only[undFr,aa]
  exact Z' sc9 z (cb' (ae' M ae))
 refine cu (fun _ _ f=>av' (vs:=#[(0,i' (i64.wrap (1+(i64.wrap (Int.tmod d.kind 16))))),(2,i' (Int.tmod (i64.wrap d.a) (i64.wrap ((e.vars.length:Int)+1)))),(3,i' (Int.tmod (i64.wrap d.b) (i64.wrap ((e.vars.length:Int)+1)))),(4,i' (Int.tmod (i64.wrap d.n) (i64.wrap (e.next+1)))),(6,.bool (decide ((Int.tmod d.b 4)=3))),(1,.string I)]) (v:=.agg ([i' (i64.wrap (1+(i64.wrap (Int.tmod d.kind 16)))),.string I,i' (Int.tmod (i64.wrap d.a) (i64.wrap ((e.vars.length:Int)+1))),i' (Int.tmod (i64.wrap d.b) (i64.wrap ((e.vars.length:Int)+1))),i' (Int.tmod (i64.wrap d.n) (i64.wrap (e.next+1))),.slice none 0 0,.bool (decide ((Int.tmod d.b 4)=3))]).toArray) z z (fun _=>by kernel_rfl))<|bE' (fun _=>z) z48<|Chain.tailX3 (fun aI aD aF T ai U P R=>?_)
 obtain⟨W,rfl,aj⟩:=U
 obtain⟨D,E,rfl,M⟩:=P
 obtain⟨K,L,rfl,A⟩:=R
 refine cu' aj (cf' (show WL _ _ _ _ _ _ (St w0 G0 T.m _) from ?_))
 refine s' 6 z cd' z z z z z (List.all_eq_true.1 z)<|u'<|aq'<|g'<|aM' (fun (⟨g,j,k,o⟩:Zc×Option Addr×Nat×Mem)=>[(3,pt0 b2),(4,pt0 Y),(5,i' (e.vars.length:Int)),(6,pt0 W)]) (fun ⟨g,j,k,o⟩=>Mem.le T.m o/\sl K' o j k g.p/\(ZaV e d g).Ret r) (fun ⟨g,j,k,o⟩=>St w0 G0 o [(3,bk0 b2 (v54' d l m) 54),(4,bk0 Y ([i' 0,.string ByteArray.empty,i' 0,i' 0,i' 0,.slice none 0 0,.bool false]) 48),(6,bk0 W (v48' g j k) 48)]) ?_ ?_
 .refine sr<|yy (Y0.ZnB z) z<|yy (f' 3 sc5 z z z) z<|yy (bA' z z (by decide)) z<|yy (bf' z z) z<|nx<|L' hr z (fun ax hr=>?_) (fun ax hr=>?_)
  .refine sr<|yy (Y0.Zk5 z) z<|yy (f' 3 sc5 z z z) z<|yy (bA' z z (by decide)) z<|yy (aN' aQ' aB' z) z<|yy (X' z z) z<|yy (cA' z) z<|aC' 6 ([i' (i64.wrap (5+(i64.wrap (Int.tmod d.a 4)))),.string I,i' (Int.tmod (i64.wrap d.a) (i64.wrap ((e.vars.length:Int)+1))),i' (Int.tmod (i64.wrap d.b) (i64.wrap ((e.vars.length:Int)+1))),i' (Int.tmod (i64.wrap d.n) (i64.wrap (e.next+1))),.slice none 0 0,.bool (decide ((Int.tmod d.b 4)=3))]).toArray z sz3 z z z (show 0<7 by decide) z z<|nr<|yy (Y0.Zk5 z) z<|yy (f' 3 sc5 z z z) z<|yy (bA' z z (by decide)) z<|yy (ai' z z) z<|nx<|L' hr z (fun ar hr=>?_) (fun ar hr=>?_)
   .refine A'<|yy (cA' z) z<|aC' 6 ([i' 5,.string I,i' (Int.tmod (i64.wrap d.a) (i64.wrap ((e.vars.length:Int)+1))),i' (Int.tmod (i64.wrap d.b) (i64.wrap ((e.vars.length:Int)+1))),i' (Int.tmod (i64.wrap d.n) (i64.wrap (e.next+1))),.slice none 0 0,.bool (decide ((Int.tmod d.b 4)=3))]).toArray z sz3 z z z (show 0<7 by decide) z z<|u'<|ar' ⟨(Zc.mk 5 I (Int.tmod (i64.wrap d.a) (i64.wrap ((e.vars.length:Int)+1))) (Int.tmod (i64.wrap d.b) (i64.wrap ((e.vars.length:Int)+1))) (Int.tmod (i64.wrap d.n) (i64.wrap (e.next+1))) [] (decide ((Int.tmod d.b 4)=3))),none,0,T.m⟩ ⟨mr,(W' _ _),hr⟩ (f4 z z z z) (w3 z z z)
   refine q'<|ar' ⟨(Zc.mk (i64.wrap (5+(i64.wrap (Int.tmod d.a 4)))) I (Int.tmod (i64.wrap d.a) (i64.wrap ((e.vars.length:Int)+1))) (Int.tmod (i64.wrap d.b) (i64.wrap ((e.vars.length:Int)+1))) (Int.tmod (i64.wrap d.n) (i64.wrap (e.next+1))) [] (decide ((Int.tmod d.b 4)=3))),none,0,T.m⟩ ⟨mr,(W' _ _),hr⟩ (f4 z z z z) (w3 z z z)
  refine q'<|ar' ⟨(Zc.mk (i64.wrap (1+(i64.wrap (Int.tmod d.kind 16)))) I (Int.tmod (i64.wrap d.a) (i64.wrap ((e.vars.length:Int)+1))) (Int.tmod (i64.wrap d.b) (i64.wrap ((e.vars.length:Int)+1))) (Int.tmod (i64.wrap d.n) (i64.wrap (e.next+1))) [] (decide ((Int.tmod d.b 4)=3))),none,0,T.m⟩ ⟨mr,(W' _ _),hr⟩ (f4 z z z z) (w3 z z z)
 rintro⟨g,j,k,o⟩ ⟨ac,H,hr⟩
 refine aM' (fun (⟨n,q,p,F⟩:Zc×Option Addr×Nat×Mem)=>[(3,pt0 b2),(4,pt0 Y),(5,i' (e.vars.length:Int)),(6,pt0 W)]) (fun ⟨n,q,p,F⟩=>Mem.le o F/\sl K' F q p n.p/\(Zb2 e d n).Ret r) (fun ⟨n,q,p,F⟩=>St w0 G0 F [(3,bk0 b2 (v54' d l m) 54),(4,bk0 Y ([i' 0,.string ByteArray.empty,i' 0,i' 0,i' 0,.slice none 0 0,.bool false]) 48),(6,bk0 W (v48' n q p) 48)]) ?_ ?_
 .refine sr<|yy (cA' z) z<|yy (f' 6 sc3 z z z) z<|ad' hr z (au' z z) z (fun au hr=>?_) (fun au hr=>?_)
  .refine mv z z<|gy z z (Y0.Zk6 z) z<|gy z z (f' 3 sc5 z z z) z<|gy z z (bA' z z (by decide)) z<|gy z z (bh' z z) z<|yy (h' z z) z<|nx<|L' hr z (fun az hr=>?_) (fun az hr=>?_)
   .refine A'<|yy (aS' z) z<|aC' 6 ([i' g.kind,.string g.name,i' g.at',i' g.to',i' 0,.slice j g.p.length k,.bool g.neq]).toArray z sz3 z z z (show 4<7 by decide) z z<|u'<|ar' ⟨(Zc.mk g.kind g.name g.at' g.to' 0 g.p g.neq),j,k,o⟩ ⟨mr,H,hr⟩ (f4 z z z z) (w3 z z z)
   refine q'<|ar' ⟨g,j,k,o⟩ ⟨mr,H,hr⟩ (f4 z z z z) (w3 z z z)
  refine mv z z<|sn4 z<|yy (l' z z) z<|nx<|bb' z<|q'<|ar' ⟨g,j,k,o⟩ ⟨mr,H,hr⟩ (f4 z z z z) (w3 z z z)
 rintro⟨n,q,p,F⟩ ⟨X,aB,hr⟩
 refine sr<|yy (Y0.ZpO z) z<|yy (aI' ([.slice l d.p.t.length m]).toArray 3 ag52 z z z (aU' ([.int .u8 d.kind,.int .u8 d.a,.int .u8 d.b,.int .u8 d.n]) ([.slice l d.p.t.length m]) ([]))) z<|mv z z<|yy (Y0.min2 z z) z ?_
 obtain⟨ay,ap,hr⟩:=hr
 refine P' z z (t' E46 z) (gT' ap) z ((Q.mono (mt (mt ai ac) X))) (fun aE aK aC S=>?_)
 obtain⟨ag,an,rfl,ah⟩:=S
 refine yy (dm' z) z<|aC' 6 ([i' n.kind,.string n.name,i' n.at',i' n.to',i' n.id,.slice ag ay.length an,.bool n.neq]).toArray z sz46 z z z (show 5<7 by decide) z z<|nr<|yy (o' 6 bO' z z z) z<|s' 4 z cd' z z z z z (List.all_eq_true.1 z)<|nx<|j' ?_
 obtain rfl:_=r:=hr
 exact k' z (aa' (i:=4) bO' z z z) ⟨_,_,z,ah⟩
theorem fu'{c r}(hr:(ZcG c).Ret r):Ctr prog 70 #[.int .u8 c] (fun G=>True) (fun G v=>v = .bool r):=by
 refine E' (args:=[_]) (N:=17) func70 z z z fun k j i h=>sr<|sg z z<|nr<|mv z z<|ad' hr z (bf' z z) z (fun d hr=>?_) (fun d hr=>?_)
 .refine mv z z<|gy z z (e' z) z<|ad' hr (v' z z) (bN' z z) z (fun e hr=>?_) (fun e hr=>?_)
  .refine yy (h' z z) z<|mv z z<|sn3 z<|N' (x' z z) z<|N' (x' z z) z<|sf z z z<|yy (h' z z) z<|sx0 z z<|j' (k0' hr z z)
  refine yy (h' z z) z<|mv z z<|gy z z (e' z) z<|ad' hr (v' z z) (bf' z z) z (fun g hr=>?_) (fun g hr=>?_)
  .refine gy z z (e' z) z<|gy z z (e' z) z<|gy z z (bN' z z) z<|gy z z (h' z z) z<|yy (l' z z) z<|sx0 z z<|j' (k0' hr z z)
  refine gy z z (e' z) z<|sn2 z<|gy z z (l' z z) z<|yy (l' z z) z<|sx0 z z<|j' (k0' hr z z)
 refine mv z z<|sn2 z<|yy (l' z z) z<|mv z z<|gy z z (e' z) z<|ad' hr (v' z z) (bf' z z) z (fun f hr=>?_) (fun f hr=>?_)
 .refine gy z z (e' z) z<|gy z z (e' z) z<|gy z z (bN' z z) z<|gy z z (h' z z) z<|yy (l' z z) z<|sx0 z z<|j' (k0' hr z z)
 refine gy z z (e' z) z<|sn2 z<|gy z z (l' z z) z<|yy (l' z z) z<|sx0 z z<|j' (k0' hr z z)
theorem eZ'{g r}(hr:(Zdb g).Ret r):Ctr prog 54 #[.string g] (fun G=>True) (fun G v=>v = .bool r):=by
 refine E' (args:=[_]) (N:=48) func54 z z z fun l k R M=>sr<|sx0 z z<|aM' (fun (e:Mem)=>match e with|f=>[(0,.string g)]) (fun (e:Mem)=>match e with|f=>Mem.le k f/\(ZhX g).Ret r) (fun (e:Mem)=>match e with|f=>St l k f []) ?_ ?_
 .refine sr<|mv z z<|yy (Y0.lenS bl' z) z<|ad' hr z (ai' z z) z (fun x hr=>?_) (fun x hr=>?_)
  .refine mv z z<|sn3 z<|yy (h' z z) z<|mv z z<|sn4 z<|yy (h' z z) z<|nx<|U' z<|sr<|sx0 z z<|j'<|a' (k0' hr z z)
  refine mv z z<|gy z z (e' z) z<|gy z z (Y0.lenS bl' z) z<|ad' hr (v' z z) (bh' z z) z (fun F hr=>?_) (fun F hr=>?_)
  .refine yy (l' z z) z<|mv z z<|sn4 z<|yy (h' z z) z<|nx<|U' z<|sr<|sx0 z z<|j'<|a' (k0' hr z z)
  refine yy (l' z z) z<|mv z z<|gy z z (e' z) z ?_
  obtain⟨D,hr⟩:=hr
  refine gy z z (dP' (s:=g) bl' z z D) z ?_
  obtain⟨S,n,hr⟩:=hr
  refine F' (v' z z) z (t' E70 z) (fu' n) z (trivial)<|gy z z (al' z) z<|yy (l' z z) z<|nx<|aL' hr z (fun A hr=>?_) (fun A hr=>?_)
  .refine sr<|sx0 z z<|j'<|a' (k0' hr z z)
  refine q'<|ar' k ⟨mr,hr⟩ (f1 z) (wk ln)
 rintro f ⟨J,hr⟩
 refine n'<|sr<|sx0 z z<|am' (fun (e:Mem)=>match e with|i=>[]) (fun (e:Mem)=>match e with|i=>Mem.le f i/\(Zfq).Ret r) (fun (e:Mem)=>match e with|i=>St l k i []) ?_ ?_
 .refine B' ?_
  let j:(Bool⊕Unit)->Prop:=fun O=>((fun L=>match L with | .inl rv1=>Cq.ret rv1 | .inr ()=>Zfq:(Bool⊕Unit)->Cq Bool) O).wp (fun a=>a=r)
  replace hr:(Cq.loop _ _).wp j:=hr
  refine an' (Φ:=j) (fun (⟨h,c⟩:Int×Mem)=>(h:Int)) (fun ⟨h,c⟩=>[(0,.string g),(3,i' h)]) (fun ⟨h,c⟩=>Mem.le f c) (fun ⟨h,c⟩=>St l k c []) ⟨1,f⟩ hr (f2 z z) mr (wk ln) ?_
  .intro Q e P hr
   obtain⟨h,c⟩:=e
   have d:=P
   refine n'<|sr<|mv z z<|mv z z<|yy (Y0.lenS bl' z) z<|yy (ai' z z) z<|nx<|L' hr z (fun E hr=>?_) (fun E hr=>?_)
   .refine q'<|g'<|n'<|B'<|sr<|mv z z<|mv z z ?_
    obtain⟨y,hr⟩:=hr
    refine yy (dP' (s:=g) bl' z z y) z ?_
    obtain⟨p,m,hr⟩:=hr
    refine F' z z (t' E70 z) (fu' m) z (trivial) ?_
    cases p
    .refine yy (al' z) z<|mv z z<|gy z z (e' z) z<|gy z z (e' z) z ?_
     obtain⟨I,hr⟩:=hr
     refine gy z z (dP' (s:=g) bl' z z I) z<|ad' hr (v' z z) (bf' z z) z (fun C hr=>?_) (fun C hr=>?_)
     .refine gy z z (e' z) z<|gy z z (e' z) z<|gy z z (e' z) z ?_
      obtain⟨B,hr⟩:=hr
      refine gy z z (dP' (s:=g) bl' z z B) z<|ad' hr (v' z z) (bN' z z) z (fun t hr=>?_) (fun t hr=>?_)
      .refine gy z z (h' z z) z<|gy z z (al' z) z<|yy (h' z z) z<|mv z z<|sn4 z<|yy (l' z z) z<|nx<|bb' z<|q'<|J'<|g'<|A'<|mv z z<|yy (X' z z) z<|sg z z<|u'<|Y' ⟨i64.wrap (h+1),c⟩ hr d (f2 z z) (wk ln)
      refine gy z z (h' z z) z<|gy z z (al' z) z<|yy (h' z z) z<|mv z z<|gy z z (e' z) z<|gy z z (e' z) z ?_
      obtain⟨u,hr⟩:=hr
      refine gy z z (dP' (s:=g) bl' z z u) z<|gy z z (aw' z z) z<|yy (h' z z) z<|nx<|L' hr z (fun o hr=>?_) (fun o hr=>?_)
      .refine sr<|sx0 z z<|j'<|m'<|a'<|a'<|m'<|ag'<|a' (k0' hr z z)
      refine q'<|J'<|g'<|A'<|mv z z<|yy (X' z z) z<|sg z z<|u'<|Y' ⟨i64.wrap (h+1),c⟩ hr d (f2 z z) (wk ln)
     refine gy z z (e' z) z<|sn4 z<|gy z z (l' z z) z<|gy z z (al' z) z<|yy (h' z z) z<|mv z z<|gy z z (e' z) z<|gy z z (e' z) z ?_
     obtain⟨H,hr⟩:=hr
     refine gy z z (dP' (s:=g) bl' z z H) z<|gy z z (aw' z z) z<|yy (h' z z) z<|nx<|L' hr z (fun q hr=>?_) (fun q hr=>?_)
     .refine sr<|sx0 z z<|j'<|m'<|a'<|a'<|m'<|ag'<|a' (k0' hr z z)
     refine q'<|J'<|g'<|A'<|mv z z<|yy (X' z z) z<|sg z z<|u'<|Y' ⟨i64.wrap (h+1),c⟩ hr d (f2 z z) (wk ln)
    refine yy (al' z) z<|mv z z<|sn5 z<|N' (x' z z) z<|N' (x' z z) z<|N' (x' z z) z<|N' (x' z z) z<|sn2 z<|yy (l' z z) z<|mv z z<|sn4 z<|yy (l' z z) z<|nx<|bb' z<|q'<|J'<|g'<|A'<|mv z z<|yy (X' z z) z<|sg z z<|u'<|Y' ⟨i64.wrap (h+1),c⟩ hr d (f2 z z) (wk ln)
   refine ao'<|r'<|r'<|O'<|ap' c ⟨d,hr⟩ fn (wk ln)
 rintro i ⟨K,hr⟩
 refine g'<|sr<|sx0 z z<|j' (k0' hr z z)
theorem fL'{p l f e j k g h r}(hr:(ZeY p l).Ret r):Ctr prog 97 #[.agg ((v31' p f e j k g h)).toArray,.string l] (fun G=>y31' G f e j k g h p) (fun G v=>v=i' r):=by
 refine E' (args:=[_,_]) (N:=21) func97 z z z (fun B s K u=>?_)
 obtain⟨d,C,x⟩:=u
 refine sr<|af' 2 z z z fun A=>sx0 z z<|n'<|sr<|sx0 z z<|am' (fun (n:Mem)=>match n with|m=>[]) (fun (n:Mem)=>match n with|m=>Mem.le s m/\(Zev).Ret r) (fun (n:Mem)=>match n with|m=>St B s m []) ?_ ?_
 .refine B' ?_
  let q:(Int⊕Unit)->Prop:=fun H=>((fun F=>match F with | .inl rv1=>Cq.ret rv1 | .inr ()=>Zev:(Int⊕Unit)->Cq Int) H).wp (fun a=>a=r)
  replace hr:(Cq.loop _ _).wp q:=hr
  refine an' (Φ:=q) (fun (⟨o,i⟩:Int×Mem)=>(o:Int)) (fun ⟨o,i⟩=>[(1,.string l),(2,pt0 A),(5,i' o)]) (fun ⟨o,i⟩=>Mem.le s i) (fun ⟨o,i⟩=>St B s i [(2,bk0 A (v31' p f e j k g h) 31)]) ⟨0,s⟩ hr (f3 z z z) mr (w1 z) ?_
  .intro J n I hr
   obtain⟨o,i⟩:=n
   have c:=I
   refine n'<|sr<|mv z z<|yy (aH' z) z<|yy (f' 2 bC' z z z) z<|yy (M' H' (d.mono c) z) z<|yy (ai' z z) z<|nx<|L' hr z (fun D hr=>?_) (fun D hr=>?_)
   .refine q'<|g'<|n'<|B'<|sr<|yy (aH' z) z<|yy (f' 2 bC' z z z) z<|mv z z ?_
    obtain⟨L,t,hr⟩:=hr
    refine yy (T' H' sz9 (d.mono c) z z t) z<|yy (Z' sc9 z (cb' (I' (ae' d t) c))) z<|mv z z<|yy (Y0.eqlS bl' z z) z<|nx<|L' hr z (fun y hr=>?_) (fun y hr=>?_)
    .refine sr<|mv z z<|sx0 z z<|j'<|m'<|a'<|a'<|m'<|ag'<|a' (k0' hr z z)
    refine q'<|J'<|g'<|A'<|mv z z<|yy (X' z z) z<|sg z z<|u'<|Y' ⟨i64.wrap (o+1),i⟩ hr c (f3 z z z) (w1 z)
   refine ao'<|r'<|r'<|O'<|ap' i ⟨c,hr⟩ fn (wk ln)
 rintro m ⟨E,hr⟩
 refine g'<|sr<|sx0 z z<|j' (k0' hr z z)
theorem fa'{j k d c g h e f r}(hr:(Zew j k).Ret r):Ctr prog 98 #[.agg ((v31' j d c g h e f)).toArray,i' k] (fun G=>y31' G d c g h e f j) (fun G v=>v = .bool r):=by
 refine E' (args:=[_,_]) (N:=14) func98 z z z (fun s t p l=>?_)
 obtain⟨i,n,m⟩:=l
 refine sr<|af' 2 z z z fun q=>sg z z<|nr<|mv z z<|ad' hr z (bf' z z) z (fun o hr=>?_) (fun o hr=>?_)
 .refine mv z z<|gy z z (e' z) z<|gy z z (aH' z) z<|gy z z (f' 2 bC' z z z) z<|gy z z (M' H' i z) z<|gy z z (ai' z z) z<|yy (h' z z) z<|sx0 z z<|j' (k0' hr z z)
 refine mv z z<|sn5 z<|yy (l' z z) z<|sx0 z z<|j' (k0' hr z z)
theorem he'{k r}(hr:(ZjB k).Ret r):Ctr prog 185 #[i' k] (fun G=>True) (fun G v=>v = .int .u8 r):=by
 refine E' (args:=[_]) (N:=14) func185 z z z fun l j x q=>sr<|sg z z<|nr<|sx0 z z<|n'<|sr<|sx0 z z<|am' (fun (⟨f,d⟩:Int×Mem)=>[(3,i' f)]) (fun ⟨f,d⟩=>Mem.le j d/\(Zf7 f).Ret r) (fun ⟨f,d⟩=>St l j d []) ?_ ?_
 .refine B' ?_
  let i:Int->Prop:=fun s=>((fun p=>match p with|f=>Zf7 f:Int->Cq Int) s).wp (fun a=>a=r)
  replace hr:(Cq.loop _ _).wp i:=hr
  refine an' (Φ:=i) (fun (⟨e,g,c⟩:Int×Int×Mem)=>((e,g):Int×Int)) (fun ⟨e,g,c⟩=>[(0,i' k),(3,i' e),(4,i' g)]) (fun ⟨e,g,c⟩=>Mem.le j c) (fun ⟨e,g,c⟩=>St l j c []) ⟨1,0,j⟩ hr (f3 z z z) mr (wk ln) ?_
  .intro u o t hr
   obtain⟨e,g,c⟩:=o
   have h:=t
   refine n'<|sr<|mv z z<|mv z z<|yy (ai' z z) z<|nx<|L' hr z (fun m hr=>?_) (fun m hr=>?_)
   .refine q'<|g'<|n'<|B'<|A'<|mv z z<|yy (Y0.mul z z) z<|sg z z<|u'<|J'<|g'<|A'<|mv z z<|yy (X' z z) z<|sg z z<|u'<|Y' ⟨i64.wrap (2*e),i64.wrap (g+1),c⟩ hr h (f3 z z z) (wk ln)
   refine ao'<|r'<|r'<|O'<|ap' ⟨e,c⟩ ⟨h,hr⟩ (f1 z) (wk ln)
 rintro⟨f,d⟩ ⟨n,hr⟩
 refine g'<|sr<|mv z z<|yy (aN' aB' aQ' z) z<|sx0 z z<|j' (k0' hr z z)
theorem gz'{l r}(hr:(Zfk l).Ret r):Ctr prog 150 #[.agg (vecG (Value.int .i64) 8 l).toArray] (fun G=>True) (fun G v=>v = .int .u8 r):=by
 refine E' (args:=[_]) (N:=18) func150 z z z fun q j D y=>sr<|af' 1 z z z fun p=>sg z z<|nr<|sx0 z z<|n'<|sr<|sx0 z z<|am' (fun (⟨h,g⟩:Int×Mem)=>[(3,.int .u8 h)]) (fun ⟨h,g⟩=>Mem.le j g/\(Zc7 h).Ret r) (fun ⟨h,g⟩=>St q j g []) ?_ ?_
 .refine B' ?_
  let i:Int->Prop:=fun A=>((fun x=>match x with|h=>Zc7 h:Int->Cq Int) A).wp (fun a=>a=r)
  replace hr:(Cq.loop _ _).wp i:=hr
  refine an' (Φ:=i) (fun (⟨e,f,c⟩:Int×Int×Mem)=>((e,f):Int×Int)) (fun ⟨e,f,c⟩=>[(1,pt0 p),(3,.int .u8 e),(4,i' f)]) (fun ⟨e,f,c⟩=>Mem.le j c) (fun ⟨e,f,c⟩=>St q j c [(1,bk0 p (vecG (Value.int .i64) 8 l) 120)]) ⟨0,0,j⟩ hr (f3 z z z) mr (w1 z) ?_
  .intro C u B hr
   obtain⟨e,f,c⟩:=u
   have d:=B
   refine n'<|sr<|mv z z<|yy (ai' z z) z<|nx<|L' hr z (fun s hr=>?_) (fun s hr=>?_)
   .refine q'<|g'<|n'<|B'<|sr<|mv z z ?_
    obtain⟨k,hr⟩:=hr
    refine yy (bi' aO' sz3 z z k) z<|yy (f' 1 sc3 z z (bk' _ _ _ k)) z<|yy (bh' z z) z<|nx<|L' hr z (fun n hr=>?_) (fun n hr=>?_)
    .refine A'<|mv z z<|mv z z ?_
     obtain⟨o,m,hr⟩:=hr
     refine F' z z (t' E185 z) (he' m) z (trivial)<|yy (X' z z) z<|sg z z<|u'<|J'<|g'<|A'<|mv z z<|yy (X' z z) z<|sg z z<|u'<|Y' ⟨u8.wrap (e+o),i64.wrap (f+1),c⟩ hr d (f3 z z z) (w1 z)
    refine q'<|J'<|g'<|A'<|mv z z<|yy (X' z z) z<|sg z z<|u'<|Y' ⟨e,i64.wrap (f+1),c⟩ hr d (f3 z z z) (w1 z)
   refine ao'<|r'<|r'<|O'<|ap' ⟨e,c⟩ ⟨d,hr⟩ (f1 z) (wk ln)
 rintro⟨h,g⟩ ⟨t,hr⟩
 refine g'<|sr<|mv z z<|sx0 z z<|j' (k0' hr z z)
theorem eF'{n m l r}(hr:(Zda n).Ret r):Ctr prog 96 #[.slice m n.length l] (fun G=>sl K' G m l n) (fun G v=>v = .int .u8 r):=by
 refine E' (args:=[_]) (N:=20) func96 z z z (fun t k E p=>?_)
 have i:=p
 refine sr<|sg z z<|nr<|sx0 z z<|n'<|sr<|sx0 z z<|am' (fun (⟨d,g⟩:Int×Mem)=>[(3,.int .u8 d)]) (fun ⟨d,g⟩=>Mem.le k g/\(Zfp d).Ret r) (fun ⟨d,g⟩=>St t k g []) ?_ ?_
 .refine B' ?_
  let j:Int->Prop:=fun B=>((fun A=>match A with|d=>Zfp d:Int->Cq Int) B).wp (fun a=>a=r)
  replace hr:(Cq.loop _ _).wp j:=hr
  refine an' (Φ:=j) (fun (⟨c,h,f⟩:Int×Int×Mem)=>((c,h):Int×Int)) (fun ⟨c,h,f⟩=>[(0,.slice m n.length l),(3,.int .u8 c),(4,i' h)]) (fun ⟨c,h,f⟩=>Mem.le k f) (fun ⟨c,h,f⟩=>St t k f []) ⟨0,0,k⟩ hr (f3 z z z) mr (wk ln) ?_
  .intro D y C hr
   obtain⟨c,h,f⟩:=y
   have e:=C
   refine n'<|sr<|mv z z<|mv z z<|yy (M' ak' (i.mono e) z) z<|yy (ai' z z) z<|nx<|L' hr z (fun u hr=>?_) (fun u hr=>?_)
   .refine q'<|g'<|n'<|B'<|A'<|mv z z<|mv z z<|mv z z ?_
    obtain⟨F,o,hr⟩:=hr
    refine yy (T' ak' cg' (i.mono e) z z o) z<|yy (bB' z) z<|yy (aA' _ bS' z (ac' _ _ _) (dv' (I' (ax' (ay' (ae' i o))) e))) z ?_
    obtain⟨s,q,hr⟩:=hr
    refine F' z z (t' E150 z) (gz' q) z (trivial)<|yy (Y0.or z z) z<|sg z z<|u'<|J'<|g'<|A'<|mv z z<|yy (X' z z) z<|sg z z<|u'<|Y' ⟨u8.wrap (BitVec.ofInt u8.bits c ||| BitVec.ofInt u8.bits s).toNat,i64.wrap (h+1),f⟩ hr e (f3 z z z) (wk ln)
   refine ao'<|r'<|r'<|O'<|ap' ⟨c,f⟩ ⟨e,hr⟩ (f1 z) (wk ln)
 rintro⟨d,g⟩ ⟨x,hr⟩
 refine g'<|sr<|mv z z<|sx0 z z<|j' (k0' hr z z)
theorem gU'{s j d c g h e f r}(hr:(Zin s j).Ret r):Ctr prog 99 #[.agg ((v31' s d c g h e f)).toArray,i' j] (fun G=>y31' G d c g h e f s) (fun G v=>v = .bool r):=by
 refine E' (args:=[_,_]) (N:=45) func99 z z z (fun E A ae J=>?_)
 obtain⟨P,q,m⟩:=J
 refine sr<|af' 2 z z z fun B=>sx0 z z<|n'<|sr<|sx0 z z<|am' (fun (i:Mem)=>match i with|p=>[(1,i' j),(2,pt0 B)]) (fun (i:Mem)=>match i with|p=>Mem.le A p/\(Zdr s j).Ret r) (fun (i:Mem)=>match i with|p=>St E A p [(2,bk0 B (v31' s d c g h e f) 31)]) ?_ ?_
 .refine B' ?_
  let D:(Bool⊕Unit)->Prop:=fun K=>((fun I=>match I with | .inl rv2=>Cq.ret rv2 | .inr ()=>Zdr s j:(Bool⊕Unit)->Cq Bool) K).wp (fun a=>a=r)
  replace hr:(Cq.loop _ _).wp D:=hr
  refine an' (Φ:=D) (fun (⟨x,n⟩:Int×Mem)=>(x:Int)) (fun ⟨x,n⟩=>[(1,i' j),(2,pt0 B),(5,i' x)]) (fun ⟨x,n⟩=>Mem.le A n) (fun ⟨x,n⟩=>St E A n [(2,bk0 B (v31' s d c g h e f) 31)]) ⟨0,A⟩ hr (f3 z z z) mr (w1 z) ?_
  .intro ag i O hr
   obtain⟨x,n⟩:=i
   have l:=O
   refine n'<|sr<|mv z z<|yy (aY' z) z<|yy (f' 2 br' z z z) z<|yy (M' w' (q.mono l) z) z<|yy (ai' z z) z<|nx<|L' hr z (fun S hr=>?_) (fun S hr=>?_)
   .refine q'<|g'<|n'<|B'<|sr<|yy (aY' z) z<|yy (f' 2 br' z z z) z<|mv z z ?_
    obtain⟨x2,H,hr⟩:=hr
    refine yy (T' w' aT' (q.mono l) z z H) z<|yy (bX' z) z ?_
    obtain⟨p2,ad,Z,Y⟩:=bF' (I' (ax' (ay' (ae' q H))) l)
    refine yy (Z' cF' z (Z)) z ?_
    obtain⟨ah,M,hr⟩:=hr
    refine F' z z (t' E96 z) (eF' M) z (Y)<|yy (aN' aQ' aB' z) z<|mv z z ?_
    obtain⟨X,hr⟩:=hr
    refine yy (Y0.shr z z X) z<|yy (bA' z z (by decide)) z<|yy (au' z z) z<|nx<|L' hr z (fun T hr=>?_) (fun T hr=>?_)
    .refine sr<|sx0 z z<|j'<|m'<|a'<|a'<|m'<|ag'<|a' (k0' hr z z)
    refine q'<|J'<|g'<|A'<|mv z z<|yy (X' z z) z<|sg z z<|u'<|Y' ⟨i64.wrap (x+1),n⟩ hr l (f3 z z z) (w1 z)
   refine ao'<|r'<|r'<|O'<|ap' n ⟨l,hr⟩ (f2 z z) (w1 z)
 rintro p ⟨t,hr⟩
 refine g'<|n'<|sr<|sx0 z z<|am' (fun (i:Mem)=>match i with|u=>[]) (fun (i:Mem)=>match i with|u=>Mem.le p u/\(Zfw).Ret r) (fun (i:Mem)=>match i with|u=>St E A u []) ?_ ?_
 .refine B' ?_
  let C:(Bool⊕Unit)->Prop:=fun K=>((fun I=>match I with | .inl rv1=>Cq.ret rv1 | .inr ()=>Zfw:(Bool⊕Unit)->Cq Bool) K).wp (fun a=>a=r)
  replace hr:(Cq.loop _ _).wp C:=hr
  refine an' (Φ:=C) (fun (⟨y,o⟩:Int×Mem)=>(y:Int)) (fun ⟨y,o⟩=>[(1,i' j),(2,pt0 B),(6,i' y)]) (fun ⟨y,o⟩=>Mem.le p o) (fun ⟨y,o⟩=>St E A o [(2,bk0 B (v31' s d c g h e f) 31)]) ⟨0,p⟩ hr (f3 z z z) mr (w1 z) ?_
  .intro ac i O hr
   obtain⟨y,o⟩:=i
   have k:=O
   refine n'<|sr<|mv z z<|yy (ba' z) z<|yy (f' 2 br' z z z) z<|yy (M' w' (m.mono (mt t k)) z) z<|yy (ai' z z) z<|nx<|L' hr z (fun W hr=>?_) (fun W hr=>?_)
   .refine q'<|g'<|n'<|B'<|sr<|yy (ba' z) z<|yy (f' 2 br' z z z) z<|mv z z ?_
    obtain⟨x1,F,hr⟩:=hr
    refine yy (T' w' aT' (m.mono (mt t k)) z z F) z<|yy (bX' z) z ?_
    obtain⟨p1,af,U,Q⟩:=bF' (I' (ax' (ay' (ae' m F))) (mt t k))
    refine yy (Z' cF' z (U)) z ?_
    obtain⟨ab,L,hr⟩:=hr
    refine F' z z (t' E96 z) (eF' L) z (Q)<|yy (aN' aQ' aB' z) z<|mv z z ?_
    obtain⟨V,hr⟩:=hr
    refine yy (Y0.shr z z V) z<|yy (bA' z z (by decide)) z<|yy (au' z z) z<|nx<|L' hr z (fun R hr=>?_) (fun R hr=>?_)
    .refine sr<|sx0 z z<|j'<|m'<|a'<|a'<|m'<|ag'<|a' (k0' hr z z)
    refine q'<|J'<|g'<|A'<|mv z z<|yy (X' z z) z<|sg z z<|u'<|Y' ⟨i64.wrap (y+1),o⟩ hr k (f3 z z z) (w1 z)
   refine ao'<|r'<|r'<|O'<|ap' o ⟨k,hr⟩ fn (wk ln)
 rintro u ⟨aa,hr⟩
 refine g'<|sr<|sx0 z z<|j' (k0' hr z z)
theorem dG'{n k j m r}(hr:(Zcd n k).Ret r):Ctr prog 93 #[.slice j n.length m,i' k] (fun G=>sl b' G j m n) (fun G v=>v=i' r):=by
 refine E' (args:=[_,_]) (N:=20) func93 z z z (fun s l C p=>?_)
 have i:=p
 refine sr<|sx0 z z<|n'<|sr<|sx0 z z<|am' (fun (f:Mem)=>match f with|e=>[]) (fun (f:Mem)=>match f with|e=>Mem.le l e/\(Zfv).Ret r) (fun (f:Mem)=>match f with|e=>St s l e []) ?_ ?_
 .refine B' ?_
  let h:(Int⊕Unit)->Prop:=fun y=>((fun x=>match x with | .inl rv1=>Cq.ret rv1 | .inr ()=>Zfv:(Int⊕Unit)->Cq Int) y).wp (fun a=>a=r)
  replace hr:(Cq.loop _ _).wp h:=hr
  refine an' (Φ:=h) (fun (⟨g,d⟩:Int×Mem)=>(g:Int)) (fun ⟨g,d⟩=>[(0,.slice j n.length m),(1,i' k),(5,i' g)]) (fun ⟨g,d⟩=>Mem.le l d) (fun ⟨g,d⟩=>St s l d []) ⟨0,l⟩ hr (f3 z z z) mr (wk ln) ?_
  .intro B f A hr
   obtain⟨g,d⟩:=f
   have c:=A
   refine n'<|sr<|mv z z<|mv z z<|yy (M' w' (i.mono c) z) z<|yy (ai' z z) z<|nx<|L' hr z (fun t hr=>?_) (fun t hr=>?_)
   .refine q'<|g'<|n'<|B'<|sr<|mv z z<|mv z z ?_
    obtain⟨D,o,hr⟩:=hr
    refine yy (T' w' aT' (i.mono c) z z o) z<|yy (bo' z) z<|yy (Z' sc3 z (aF' (I' (aW' (ay' (ae' i o))) c))) z<|mv z z<|yy (au' z z) z<|nx<|L' hr z (fun q hr=>?_) (fun q hr=>?_)
    .refine sr<|mv z z<|sx0 z z<|j'<|m'<|a'<|a'<|m'<|ag'<|a' (k0' hr z z)
    refine q'<|J'<|g'<|A'<|mv z z<|yy (X' z z) z<|sg z z<|u'<|Y' ⟨i64.wrap (g+1),d⟩ hr c (f3 z z z) (wk ln)
   refine ao'<|r'<|r'<|O'<|ap' d ⟨c,hr⟩ fn (wk ln)
 rintro e ⟨u,hr⟩
 refine g'<|sr<|sx0 z z<|j' (k0' hr z z)
theorem gq'{k l d c g h e f r}(hr:(ZhF k l).Ret r):Ctr prog 151 #[.agg ((v31' k d c g h e f)).toArray,i' l] (fun G=>y31' G d c g h e f k) (fun G v=>v = .bool r):=by
 refine E' (args:=[_,_]) (N:=17) func151 z z z (fun y A t m=>?_)
 obtain⟨p,j,i⟩:=m
 refine sr<|af' 2 z z z fun x=>sg z z<|nr<|yy (aY' z) z<|yy (f' 2 br' z z z) z<|mv z z ?_
 obtain⟨s,n,hr⟩:=hr
 refine F' z z (t' E93 z) (dG' n) z (j)<|ad' hr z (bf' z z) z (fun q hr=>?_) (fun q hr=>?_)
 .refine mv z z<|sn5 z<|yy (h' z z) z<|sx0 z z<|j' (k0' hr z z)
 refine mv z z<|gy z z (ba' z) z<|gy z z (f' 2 br' z z z) z<|gy z z (e' z) z ?_
 obtain⟨u,o,hr⟩:=hr
 refine F' (v' z z) z (t' E93 z) (dG' o) z (i)<|gy z z (bf' z z) z<|yy (l' z z) z<|sx0 z z<|j' (k0' hr z z)
theorem fM'{h e d r}(hr:(ZgN h).Ret r):Ctr prog 183 #[.agg ((v128' h e d)).toArray] (fun G=>sl (Rp.int .u32) G e d h.mag) (fun G v=>v = .bool r):=by
 refine E' (args:=[_]) (N:=19) func183 z z z (fun m n j g=>?_)
 have c:=g
 refine sr<|af' 1 z z z fun k=>sg z z<|nr<|yy (aZ' z) z<|yy (f' 1 bL' z z z) z<|yy (M' C' c z) z<|sx0 z z<|n'<|sr<|mv z z<|yy (au' z z) z<|nx<|L' hr z (fun i hr=>?_) (fun i hr=>?_)
 .exact (show False from hr).elim
 refine q'<|g'<|sr<|yy (aZ' z) z<|yy (f' 1 bL' z z z) z<|mv z z<|yy (bj' z z) z ?_
 obtain⟨l,f,hr⟩:=hr
 refine yy (T' C' bt' c z z f) z<|yy (Z' bV' z (aF' (ae' c f))) z<|yy (aw' z z) z<|sx0 z z<|j' (k0' hr z z)
theorem hf'{m i f e h g r}(hr:(Zma m i).Ret r):Ctr prog 184 #[.agg ((v128' m f e)).toArray,.agg ((v128' i h g)).toArray] (fun G=>sl (Rp.int .u32) G f e m.mag/\sl (Rp.int .u32) G h g i.mag) (fun G v=>v=i' r):=by
 refine E' (args:=[_,_]) (N:=31) func184 z z z (fun J M F l=>?_)
 obtain⟨c,d⟩:=l
 refine sr<|af' 2 z z z fun L=>af' 3 z z z fun K=>sx0 z z<|n'<|sr<|yy (bs' z) z<|ad' hr z (dc' (f' 2 sc4 z z z) (congrArg Value.bool (bdec _))) z (fun x hr=>?_) (fun x hr=>?_)
 .refine mv z z<|gy z z (bs' z) z<|gy z z (f' 3 sc4 z z z) z<|gy z z (al' z) z<|yy (h' z z) z<|nx<|aL' hr z (fun A hr=>?_) (fun A hr=>?_)
  .exact (show False from hr).elim
  refine q'<|g'<|n'<|sr<|yy (bs' z) z<|ad' hr z (dc' (f' 2 sc4 z z z) (congrArg Value.bool (bdec _))) z (fun t hr=>?_) (fun t hr=>?_)
  .refine yy (al' z) z<|mv z z<|sn2 z<|yy (l' z z) z<|nx<|bb' z<|q'<|g'<|n'<|sr<|yy (bs' z) z<|yy (f' 2 sc4 z z z) z<|nx<|aL' hr z (fun p hr=>?_) (fun p hr=>?_)
   .exact (show False from hr).elim
   refine q'<|g'<|sr<|yy (aZ' z) z<|yy (f' 2 bL' z z z) z<|yy (aZ' z) z<|yy (f' 3 bL' z z z) z ?_
   obtain⟨D,n,hr⟩:=hr
   refine F' z z (t' E163 z) (dg' n) z (⟨c,d⟩)<|sx0 z z<|j' (k0' hr z z)
  refine yy (al' z) z<|mv z z<|gy z z (bs' z) z<|gy z z (f' 3 sc4 z z z) z<|yy (h' z z) z<|nx<|aL' hr z (fun s hr=>?_) (fun s hr=>?_)
  .exact (show False from hr).elim
  refine q'<|g'<|n'<|sr<|yy (bs' z) z<|yy (f' 2 sc4 z z z) z<|nx<|aL' hr z (fun y hr=>?_) (fun y hr=>?_)
  .exact (show False from hr).elim
  refine q'<|g'<|sr<|yy (aZ' z) z<|yy (f' 2 bL' z z z) z<|yy (aZ' z) z<|yy (f' 3 bL' z z z) z ?_
  obtain⟨I,o,hr⟩:=hr
  refine F' z z (t' E163 z) (dg' o) z (⟨c,d⟩)<|sx0 z z<|j' (k0' hr z z)
 refine mv z z<|sn3 z<|yy (l' z z) z<|nx<|bb' z<|q'<|g'<|n'<|sr<|yy (bs' z) z<|ad' hr z (dc' (f' 2 sc4 z z z) (congrArg Value.bool (bdec _))) z (fun u hr=>?_) (fun u hr=>?_)
 .refine yy (al' z) z<|mv z z<|sn2 z<|yy (l' z z) z<|nx<|bb' z<|q'<|g'<|n'<|sr<|yy (bs' z) z<|yy (f' 2 sc4 z z z) z<|nx<|aL' hr z (fun q hr=>?_) (fun q hr=>?_)
  .exact (show False from hr).elim
  refine q'<|g'<|sr<|yy (aZ' z) z<|yy (f' 2 bL' z z z) z<|yy (aZ' z) z<|yy (f' 3 bL' z z z) z ?_
  obtain⟨E,k,hr⟩:=hr
  refine F' z z (t' E163 z) (dg' k) z (⟨c,d⟩)<|sx0 z z<|j' (k0' hr z z)
 refine yy (al' z) z<|mv z z<|gy z z (bs' z) z<|gy z z (f' 3 sc4 z z z) z<|yy (h' z z) z<|nx<|aL' hr z (fun B hr=>?_) (fun B hr=>?_)
 .exact (show False from hr).elim
 refine q'<|g'<|n'<|sr<|yy (bs' z) z<|yy (f' 2 sc4 z z z) z<|nx<|aL' hr z (fun C hr=>?_) (fun C hr=>?_)
 .exact (show False from hr).elim
 refine q'<|g'<|sr<|yy (aZ' z) z<|yy (f' 2 bL' z z z) z<|yy (aZ' z) z<|yy (f' 3 bL' z z z) z ?_
 obtain⟨H,j,hr⟩:=hr
 refine F' z z (t' E163 z) (dg' j) z (⟨c,d⟩)<|sx0 z z<|j' (k0' hr z z)
theorem gP'{g f e c d r}(hr:(ZeU g).Ret r):Ctr prog 147 #[.agg ((v130' g f e c d)).toArray] (fun G=>sl (Rp.int .u32) G f e g.num.mag/\sl (Rp.int .u32) G c d g.den.mag) (fun G v=>v = .bool r):=by
 refine E' (args:=[_]) (N:=27) func147 z z z (fun Q B W x=>?_)
 obtain⟨i,h⟩:=x
 refine sr<|af' 1 z z z fun I=>sx0 z z<|aM' (fun (p:Mem)=>match p with|j=>[(1,pt0 I)]) (fun (p:Mem)=>match p with|j=>Mem.le B j/\(ZgP g).Ret r) (fun (p:Mem)=>match p with|j=>St Q B j [(1,bk0 I (v130' g f e c d) 130)]) ?_ ?_
 .refine sr<|yy (cE' z) z<|yy (aI' ((v128' g.num f e)).toArray 1 bu' z z z (aU' ([]) ((v128' g.num f e)) ((v128' g.den c d)))) z ?_
  obtain⟨K,s,hr⟩:=hr
  refine F' z z (t' E183 z) (fM' s) z (i) ?_
  cases K
  .refine yy (al' z) z<|mv z z<|sn4 z<|yy (h' z z) z<|mv z z<|sn4 z<|yy (h' z z) z<|nx<|U' z<|sr<|sx0 z z<|j'<|a' (k0' hr z z)
  refine yy (al' z) z<|mv z z<|gy z z (cj' z) z<|gy z z (aI' ((v128' g.den c d)).toArray 1 bu' z z z (aU' ((v128' g.num f e)) ((v128' g.den c d)) ([]))) z ?_
  obtain⟨L,y,hr⟩:=hr
  refine F' (v' z z) z (t' E183 z) (fM' y) z (h) ?_
  cases L
  .refine gy z z (al' z) z<|yy (l' z z) z<|mv z z<|sn4 z<|yy (h' z z) z<|nx<|U' z<|sr<|sx0 z z<|j'<|a' (k0' hr z z)
  refine gy z z (al' z) z<|yy (l' z z) z<|mv z z<|gy z z (cj' z) z<|gy z z (aI' ((v128' g.den c d)).toArray 1 bu' z z z (aU' ((v128' g.num f e)) ((v128' g.den c d)) ([]))) z ?_
  obtain⟨V,u,hr⟩:=hr
  refine F' (v' z z) z (t' E115 z) (eW' u) z (h)<|gy z z (ai' z z) z<|yy (l' z z) z<|nx<|L' hr z (fun J hr=>?_) (fun J hr=>?_)
  .exact (show False from hr).elim
  refine q'<|ar' B ⟨mr,hr⟩ (f1 z) (w1 z)
 rintro j ⟨k,hr⟩
 refine sr<|yy (cE' z) z<|yy (aI' ((v128' g.num f e)).toArray 1 bu' z z z (aU' ([]) ((v128' g.num f e)) ((v128' g.den c d)))) z<|yy (cj' z) z<|yy (aI' ((v128' g.den c d)).toArray 1 bu' z z z (aU' ((v128' g.num f e)) ((v128' g.den c d)) ([]))) z ?_
 obtain⟨R,A,hr⟩:=hr
 refine P' z z (t' E159 z) (go' A) z (⟨(i.mono k),(h.mono k)⟩) (fun O U M n=>?_)
 obtain⟨E,F,rfl,m⟩:=n
 obtain⟨X,C,hr⟩:=hr
 refine P' z z (t' E84 z) (fV' C) z (trivial) (fun P T q l=>?_)
 obtain⟨D,H,rfl,o⟩:=l
 obtain⟨S,t,hr⟩:=hr
 refine F' z z (t' E184 z) (hf' t) z (⟨(m.mono q),o⟩)<|yy (au' z z) z<|sx0 z z<|j' (k0' hr z z)
theorem fN'{t s q r}(hr:(ZeW t).Ret r):Ctr prog 94 #[.slice s t.length q] (fun G=>sl K' G s q t) (fun G v=>v = .bool r):=by
 refine E' (args:=[_]) (N:=52) func94 z z z (fun P u aj Q=>?_)
 have e:=Q
 refine sr<|sx0 z z<|n'<|sr<|sx0 z z<|am' (fun (h:Mem)=>match h with|o=>[]) (fun (h:Mem)=>match h with|o=>Mem.le u o/\(Zeo).Ret r) (fun (h:Mem)=>match h with|o=>St P u o []) ?_ ?_
 .refine B' ?_
  let p:(Bool⊕Unit)->Prop:=fun oo=>((fun ov=>match ov with | .inl rv1=>Cq.ret rv1 | .inr ()=>Zeo:(Bool⊕Unit)->Cq Bool) oo).wp (fun a=>a=r)
  replace hr:(Cq.loop _ _).wp p:=hr
  refine an' (Φ:=p) (fun (⟨j,g⟩:Int×Mem)=>(j:Int)) (fun ⟨j,g⟩=>[(0,.slice s t.length q),(3,i' j)]) (fun ⟨j,g⟩=>Mem.le u g) (fun ⟨j,g⟩=>St P u g []) ⟨0,u⟩ hr (f2 z z) mr (wk ln) ?_
  .intro Z h hx hr
   obtain⟨j,g⟩:=h
   have c:=hx
   refine n'<|sr<|mv z z<|mv z z<|yy (M' ak' (e.mono c) z) z<|yy (ai' z z) z<|nx<|L' hr z (fun ab hr=>?_) (fun ab hr=>?_)
   .refine q'<|g'<|n'<|B'<|aM' (fun (h:Mem)=>match h with|i=>[(0,.slice s t.length q),(3,i' j)]) (fun (h:Mem)=>match h with|i=>Mem.le g i/\(ZcC t j).wp (Out Z p)) (fun (h:Mem)=>match h with|i=>St P u i []) ?_ ?_
    .refine sr<|mv z z<|mv z z ?_
     obtain⟨x3,y,hr⟩:=hr
     refine yy (T' ak' cg' (e.mono c) z z y) z<|yy (cQ' z) z ?_
     obtain⟨I,F,L,K,U,n,l⟩:=ej' (I' (aW' (ay' (ae' e y))) c)
     refine yy (aA' _ cR' z z U) z ?_
     obtain⟨ac,S,hr⟩:=hr
     refine F' z z (t' E147 z) (gP' S) z (⟨n,l⟩) ?_
     cases ac
     .refine yy (al' z) z<|mv z z<|sn7 z<|yy (h' z z) z<|mv z z<|sn7 z<|yy (h' z z) z<|nx<|U' z<|sr<|sx0 z z<|j'<|a'<|m'<|a'<|a'<|m'<|ag'<|a' (k0' hr z z)
     refine yy (al' z) z<|mv z z<|gy z z (e' z) z<|gy z z (e' z) z ?_
     obtain⟨x4,D,hr⟩:=hr
     refine gy z z (T' ak' cg' (e.mono c) z z D) z<|gy z z (cQ' z) z ?_
     obtain⟨H,A,C,J,Y,m,k⟩:=ej' (I' (aW' (ay' (ae' e D))) c)
     refine gy z z (aA' _ cR' z z Y) z ?_
     obtain⟨ai,O,hr⟩:=hr
     refine F' (v' z z) z (t' E82 z) (eX' O) z (⟨m,k⟩)<|ad' hr (v' z z) (au' z z) z (fun X hr=>?_) (fun X hr=>?_)
     .refine yy (l' z z) z<|mv z z<|sn7 z<|yy (h' z z) z<|nx<|U' z<|sr<|sx0 z z<|j'<|a'<|m'<|a'<|a'<|m'<|ag'<|a' (k0' hr z z)
     refine yy (l' z z) z<|mv z z<|gy z z (e' z) z<|gy z z (e' z) z ?_
     obtain⟨x5,E,hr⟩:=hr
     refine gy z z (T' ak' cg' (e.mono c) z z E) z<|gy z z (bB' z) z<|gy z z (aA' _ bS' z (ac' _ _ _) (dv' (I' (ax' (ay' (ae' e E))) c))) z ?_
     obtain⟨ak,M,hr⟩:=hr
     refine F' (v' z z) z (t' E148 z) (fI' M) z (trivial)<|gy z z (al' z) z<|yy (l' z z) z<|nx<|aL' hr z (fun W hr=>?_) (fun W hr=>?_)
     .exact (show False from hr).elim
     refine q'<|ar' g ⟨mr,hr⟩ (f2 z z) (wk ln)
    rintro i ⟨f,hr⟩
    refine n'<|ah' [ff,ff,ff,ff,ff,ff,ff,ff,ff,ff,ff,ff,ff,ff] mix (by kernel_rfl) fun V=>cn (fun _ d=>e' z)<|bz' hr z (fun _ d=>bh' z z) (fun aa hr=>?_) (fun aa hr=>?_)
    .refine cn (fun _ d=>e' z)<|cy z z (fun _ d=>e' z)<|cy z z (fun _ d=>e' z)<|cy z z (fun _ d=>bj' z z) ?_
     obtain⟨x1,x,hr⟩:=hr
     refine cy z z (fun _ d=>T' ak' cg' ((e.mono (mt c f)).mono d) z z x)<|cy z z (fun _ d=>bB' z)<|cy z z (fun _ d=>aA' _ bS' z (ac' _ _ _) (dv' (I' (I' (ax' (ay' (ae' e x))) (mt c f)) d)))<|cy z z (fun _ d=>e' z)<|cy z z (fun _ d=>e' z) ?_
     obtain⟨x2,B,hr⟩:=hr
     refine cy z z (fun _ d=>T' ak' cg' ((e.mono (mt c f)).mono d) z z B)<|cy z z (fun _ d=>bB' z)<|cy z z (fun _ d=>aA' _ bS' z (ac' _ _ _) (dv' (I' (I' (ax' (ay' (ae' e B))) (mt c f)) d)))<|R' V ?_
     obtain⟨ah,R,hr⟩:=hr
     refine F' (v' z z) z (t' E80 z) (ft' R) z (trivial)<|gy z z (bN' z z) z<|yy (h' z z) z<|u'<|aq'<|g'<|L' hr z (fun T hr=>?_) (fun T hr=>?_)
     .exact (show False from hr).elim
     refine q'<|J'<|g'<|A'<|mv z z<|yy (X' z z) z<|sg z z<|u'<|Y' ⟨i64.wrap (j+1),i⟩ hr (mt c f) (f2 z z) (wk ln)
    refine cn (fun _ d=>e' z)<|ct z z<|ct z z<|ct z z<|ct z z<|ct z z<|ct z z<|ct z z<|ct z z<|ct z z<|ct z z<|ct z z<|R' V<|sn2 z<|yy (l' z z) z<|u'<|aq'<|g'<|bb' z<|q'<|J'<|g'<|A'<|mv z z<|yy (X' z z) z<|sg z z<|u'<|Y' ⟨i64.wrap (j+1),i⟩ hr (mt c f) (f2 z z) (wk ln)
   refine ao'<|r'<|r'<|O'<|ap' g ⟨c,hr⟩ fn (wk ln)
 rintro o ⟨ad,hr⟩
 refine g'<|sr<|sx0 z z<|j' (k0' hr z z)
theorem gG'{k r}(hr:(Zf9 k).Ret r):Ctr prog 149 #[.agg (vecG (Value.int .i64) 8 k).toArray] (fun G=>True) (fun G v=>v=i' r):=by
 refine E' (args:=[_]) (N:=15) func149 z z z fun n j A t=>sr<|af' 1 z z z fun m=>sg z z<|nr<|sx0 z z<|n'<|sr<|sx0 z z<|am' (fun (⟨g,e⟩:Int×Mem)=>[(3,i' g)]) (fun ⟨g,e⟩=>Mem.le j e/\(ZdR g).Ret r) (fun ⟨g,e⟩=>St n j e []) ?_ ?_
 .refine B' ?_
  let i:Int->Prop:=fun u=>((fun s=>match s with|g=>ZdR g:Int->Cq Int) u).wp (fun a=>a=r)
  replace hr:(Cq.loop _ _).wp i:=hr
  refine an' (Φ:=i) (fun (⟨f,d,c⟩:Int×Int×Mem)=>((f,d):Int×Int)) (fun ⟨f,d,c⟩=>[(1,pt0 m),(3,i' f),(4,i' d)]) (fun ⟨f,d,c⟩=>Mem.le j c) (fun ⟨f,d,c⟩=>St n j c [(1,bk0 m (vecG (Value.int .i64) 8 k) 120)]) ⟨0,0,j⟩ hr (f3 z z z) mr (w1 z) ?_
  .intro y q x hr
   obtain⟨f,d,c⟩:=q
   have h:=x
   refine n'<|sr<|mv z z<|yy (ai' z z) z<|nx<|L' hr z (fun o hr=>?_) (fun o hr=>?_)
   .refine q'<|g'<|n'<|B'<|A'<|mv z z<|mv z z ?_
    obtain⟨l,hr⟩:=hr
    refine yy (bi' aO' sz3 z z l) z<|yy (f' 1 sc3 z z (bk' _ _ _ l)) z<|yy (X' z z) z<|sg z z<|u'<|J'<|g'<|A'<|mv z z<|yy (X' z z) z<|sg z z<|u'<|Y' ⟨i64.wrap (f+(getF k d)),i64.wrap (d+1),c⟩ hr h (f3 z z z) (w1 z)
   refine ao'<|r'<|r'<|O'<|ap' ⟨f,c⟩ ⟨h,hr⟩ (f1 z) (wk ln)
 rintro⟨g,e⟩ ⟨p,hr⟩
 refine g'<|sr<|mv z z<|sx0 z z<|j' (k0' hr z z)
theorem fv'{n m l r}(hr:(Zd2 n).Ret r):Ctr prog 95 #[.slice m n.length l] (fun G=>sl K' G m l n) (fun G v=>v=i' r):=by
 refine E' (args:=[_]) (N:=20) func95 z z z (fun t k E q=>?_)
 have i:=q
 refine sr<|sg z z<|nr<|sx0 z z<|n'<|sr<|sx0 z z<|am' (fun (⟨g,f⟩:Int×Mem)=>[(3,i' g)]) (fun ⟨g,f⟩=>Mem.le k f/\(ZdS g).Ret r) (fun ⟨g,f⟩=>St t k f []) ?_ ?_
 .refine B' ?_
  let j:Int->Prop:=fun B=>((fun A=>match A with|g=>ZdS g:Int->Cq Int) B).wp (fun a=>a=r)
  replace hr:(Cq.loop _ _).wp j:=hr
  refine an' (Φ:=j) (fun (⟨e,h,d⟩:Int×Int×Mem)=>((e,h):Int×Int)) (fun ⟨e,h,d⟩=>[(0,.slice m n.length l),(3,i' e),(4,i' h)]) (fun ⟨e,h,d⟩=>Mem.le k d) (fun ⟨e,h,d⟩=>St t k d []) ⟨(-1),0,k⟩ hr (f3 z z z) mr (wk ln) ?_
  .intro D y C hr
   obtain⟨e,h,d⟩:=y
   have c:=C
   refine n'<|sr<|mv z z<|mv z z<|yy (M' ak' (i.mono c) z) z<|yy (ai' z z) z<|nx<|L' hr z (fun u hr=>?_) (fun u hr=>?_)
   .refine q'<|g'<|n'<|B'<|A'<|mv z z<|mv z z<|mv z z ?_
    obtain⟨F,p,hr⟩:=hr
    refine yy (T' ak' cg' (i.mono c) z z p) z<|yy (bB' z) z<|yy (aA' _ bS' z (ac' _ _ _) (dv' (I' (ax' (ay' (ae' i p))) c))) z ?_
    obtain⟨o,s,hr⟩:=hr
    refine F' z z (t' E149 z) (gG' s) z (trivial)<|yy (en' z z) z<|sg z z<|u'<|J'<|g'<|A'<|mv z z<|yy (X' z z) z<|sg z z<|u'<|Y' ⟨if e<o then o else e,i64.wrap (h+1),d⟩ hr c (f3 z z z) (wk ln)
   refine ao'<|r'<|r'<|O'<|ap' ⟨e,d⟩ ⟨c,hr⟩ (f1 z) (wk ln)
 rintro⟨g,f⟩ ⟨x,hr⟩
 refine g'<|sr<|mv z z<|sx0 z z<|j' (k0' hr z z)
theorem gd'{g l e d r}(hr:(Zgf g l).Ret r):Ctr prog 152 #[.slice e g.length d,i' l] (fun G=>sl K' G e d g) (fun G v=>v = .bool r):=by
 refine E' (args:=[_,_]) (N:=20) func152 z z z (fun s t q h=>?_)
 have c:=h
 refine sr<|sg z z<|nr<|mv z z ?_
 obtain⟨k,i,hr⟩:=hr
 refine F' z z (t' E94 z) (fN' i) z (c) ?_
 cases k
 .refine mv z z<|sn6 z<|yy (l' z z) z<|mv z z<|sn3 z<|yy (l' z z) z<|sx0 z z<|j' (k0' hr z z)
 refine mv z z<|gy z z (e' z) z ?_
 obtain⟨o,j,hr⟩:=hr
 refine F' (v' z z) z (t' E96 z) (eF' j) z (c)<|gy z z (aN' aQ' aB' z) z<|gy z z (e' z) z ?_
 obtain⟨n,hr⟩:=hr
 refine gy z z (Y0.shr z z n) z<|ad' hr (v' z z) (au' z z) z (fun m hr=>?_) (fun m hr=>?_)
 .refine yy (h' z z) z<|mv z z<|gy z z (e' z) z ?_
  obtain⟨p,f,hr⟩:=hr
  refine F' (v' z z) z (t' E95 z) (fv' f) z (c)<|gy z z (bN' z z) z<|yy (h' z z) z<|sx0 z z<|j' (k0' hr z z)
 refine yy (h' z z) z<|mv z z<|sn3 z<|yy (l' z z) z<|sx0 z z<|j' (k0' hr z z)
theorem gk'{q o e d h i f g m l r}(hr:(ZcH q o).Ret r):Ctr prog 100 #[.agg ((v31' q e d h i f g)).toArray,.agg ((v48' o m l)).toArray] (fun G=>sl Rp.str G e d q.vars/\sl b' G h i q.eqs/\sl b' G f g q.neqs/\sl K' G m l o.p) (fun G v=>v=i' r):=by
 refine E' (args:=[_,_]) (N:=60) func100 z z z (fun S x ac D=>?_)
 obtain⟨p,s,k,B⟩:=D
 refine sr<|af' 2 z z z fun y=>af' 3 z z z fun A=>sx0 z z<|aM' (fun (n:Mem)=>match n with|c=>[(2,pt0 y),(3,pt0 A)]) (fun (n:Mem)=>match n with|c=>Mem.le x c/\(ZaP q o).Ret r) (fun (n:Mem)=>match n with|c=>St S x c [(2,bk0 y (v31' q e d h i f g) 31),(3,bk0 A (v48' o m l) 48)]) ?_ ?_
 .refine sr<|yy (aS' z) z<|yy (f' 3 sc3 z z z) z<|ad' hr z (ai' z z) z (fun H hr=>?_) (fun H hr=>?_)
  .refine mv z z<|sn3 z<|yy (h' z z) z<|mv z z<|sn4 z<|N' (x' z z) z<|N' (x' z z) z<|N' (x' z z) z<|N' (x' z z) z<|sf z z z<|yy (h' z z) z<|nx<|U' z<|sr<|sx0 z z<|j'<|a' (k0' hr z z)
  refine mv z z<|gy z z (aS' z) z<|gy z z (f' 3 sc3 z z z) z<|ad' hr (v' z z) (bh' z z) z (fun J hr=>?_) (fun J hr=>?_)
  .refine yy (l' z z) z<|mv z z<|sn4 z<|N' (x' z z) z<|N' (x' z z) z<|N' (x' z z) z<|N' (x' z z) z<|sf z z z<|yy (h' z z) z<|nx<|U' z<|sr<|sx0 z z<|j'<|a' (k0' hr z z)
  refine yy (l' z z) z<|mv z z<|gy z z (aS' z) z<|gy z z (f' 3 sc3 z z z) z<|ad' hr (v' z z) (bh' z z) z (fun C hr=>?_) (fun C hr=>?_)
  .refine gy z z (e' z) z<|gy z z (o' 2 at' z z z) z<|gy z z (aS' z) z<|gy z z (f' 3 sc3 z z z) z ?_
   obtain⟨ad,I,hr⟩:=hr
   refine F' (v' z z) z (t' E151 z) (gq' I) z (⟨p,s,k⟩)<|gy z z (h' z z) z<|yy (l' z z) z<|nx<|aL' hr z (fun Y hr=>?_) (fun Y hr=>?_)
   .refine sr<|sx0 z z<|j'<|a' (k0' hr z z)
   refine q'<|ar' x ⟨mr,hr⟩ (f2 z z) (w2 z z)
  refine gy z z (e' z) z<|sn4 z<|gy z z (l' z z) z<|yy (l' z z) z<|nx<|bb' z<|q'<|ar' x ⟨mr,hr⟩ (f2 z z) (w2 z z)
 rintro c ⟨j,hr⟩
 refine aM' (fun (n:Mem)=>match n with|t=>[(2,pt0 y),(3,pt0 A)]) (fun (n:Mem)=>match n with|t=>Mem.le c t/\(ZI q o).Ret r) (fun (n:Mem)=>match n with|t=>St S x t [(2,bk0 y (v31' q e d h i f g) 31),(3,bk0 A (v48' o m l) 48)]) ?_ ?_
 .refine sr<|yy (dC' z) z<|ad' hr z (dc' (f' 3 sc4 z z z) (congrArg Value.bool (bdec _))) z (fun V hr=>?_) (fun V hr=>?_)
  .refine yy (al' z) z<|mv z z<|sn4 z<|yy (l' z z) z<|mv z z<|gy z z (dC' z) z<|ad' hr (v' z z) (dc' (f' 3 sc4 z z z) (congrArg Value.bool (bdec _))) z (fun R hr=>?_) (fun R hr=>?_)
   .refine gy z z (e' z) z<|gy z z (ba' z) z<|gy z z (f' 2 br' z z z) z<|gy z z (M' w' (k.mono j) z) z<|ad' hr (v' z z) (bf' z z) z (fun T hr=>?_) (fun T hr=>?_)
    .refine gy z z (h' z z) z<|yy (l' z z) z<|mv z z<|sn4 z<|N' (x' z z) z<|N' (x' z z) z<|N' (x' z z) z<|sf z z z<|yy (h' z z) z<|nx<|U' z<|sr<|sx0 z z<|j'<|a' (k0' hr z z)
    refine gy z z (h' z z) z<|yy (l' z z) z<|mv z z<|gy z z (aS' z) z<|gy z z (f' 3 sc3 z z z) z<|ad' hr (v' z z) (au' z z) z (fun Z hr=>?_) (fun Z hr=>?_)
    .refine gy z z (e' z) z<|gy z z (bw' z) z<|gy z z (f' 2 sc3 z z z) z<|gy z z (bf' z z) z<|gy z z (h' z z) z<|yy (l' z z) z<|nx<|L' hr z (fun K hr=>?_) (fun K hr=>?_)
     .refine sr<|sx0 z z<|j'<|a' (k0' hr z z)
     refine q'<|ar' c ⟨mr,hr⟩ (f2 z z) (w2 z z)
    refine gy z z (e' z) z<|sn3 z<|gy z z (l' z z) z<|yy (l' z z) z<|nx<|bb' z<|q'<|ar' c ⟨mr,hr⟩ (f2 z z) (w2 z z)
   refine gy z z (e' z) z<|sn4 z<|gy z z (l' z z) z<|yy (l' z z) z<|mv z z<|gy z z (aS' z) z<|gy z z (f' 3 sc3 z z z) z<|ad' hr (v' z z) (au' z z) z (fun P hr=>?_) (fun P hr=>?_)
   .refine gy z z (e' z) z<|gy z z (bw' z) z<|gy z z (f' 2 sc3 z z z) z<|gy z z (bf' z z) z<|gy z z (h' z z) z<|yy (l' z z) z<|nx<|L' hr z (fun Q hr=>?_) (fun Q hr=>?_)
    .refine sr<|sx0 z z<|j'<|a' (k0' hr z z)
    refine q'<|ar' c ⟨mr,hr⟩ (f2 z z) (w2 z z)
   refine gy z z (e' z) z<|sn3 z<|gy z z (l' z z) z<|yy (l' z z) z<|nx<|bb' z<|q'<|ar' c ⟨mr,hr⟩ (f2 z z) (w2 z z)
  refine yy (al' z) z<|mv z z<|gy z z (aY' z) z<|gy z z (f' 2 br' z z z) z<|gy z z (M' w' (s.mono j) z) z<|ad' hr (v' z z) (bf' z z) z (fun U hr=>?_) (fun U hr=>?_)
  .refine yy (h' z z) z<|mv z z<|sn3 z<|N' (x' z z) z<|N' (x' z z) z<|N' (x' z z) z<|N' (x' z z) z<|sf z z z<|yy (h' z z) z<|mv z z<|sn4 z<|N' (x' z z) z<|N' (x' z z) z<|N' (x' z z) z<|sf z z z<|yy (h' z z) z<|nx<|U' z<|sr<|sx0 z z<|j'<|a' (k0' hr z z)
  refine yy (h' z z) z<|mv z z<|gy z z (dC' z) z<|ad' hr (v' z z) (dc' (f' 3 sc4 z z z) (congrArg Value.bool (bdec _))) z (fun M hr=>?_) (fun M hr=>?_)
  .refine gy z z (e' z) z<|gy z z (ba' z) z<|gy z z (f' 2 br' z z z) z<|gy z z (M' w' (k.mono j) z) z<|ad' hr (v' z z) (bf' z z) z (fun O hr=>?_) (fun O hr=>?_)
   .refine gy z z (h' z z) z<|yy (l' z z) z<|mv z z<|sn4 z<|N' (x' z z) z<|N' (x' z z) z<|N' (x' z z) z<|sf z z z<|yy (h' z z) z<|nx<|U' z<|sr<|sx0 z z<|j'<|a' (k0' hr z z)
   refine gy z z (h' z z) z<|yy (l' z z) z<|mv z z<|gy z z (aS' z) z<|gy z z (f' 3 sc3 z z z) z<|ad' hr (v' z z) (au' z z) z (fun aa hr=>?_) (fun aa hr=>?_)
   .refine gy z z (e' z) z<|gy z z (bw' z) z<|gy z z (f' 2 sc3 z z z) z<|gy z z (bf' z z) z<|gy z z (h' z z) z<|yy (l' z z) z<|nx<|L' hr z (fun W hr=>?_) (fun W hr=>?_)
    .refine sr<|sx0 z z<|j'<|a' (k0' hr z z)
    refine q'<|ar' c ⟨mr,hr⟩ (f2 z z) (w2 z z)
   refine gy z z (e' z) z<|sn3 z<|gy z z (l' z z) z<|yy (l' z z) z<|nx<|bb' z<|q'<|ar' c ⟨mr,hr⟩ (f2 z z) (w2 z z)
  refine gy z z (e' z) z<|sn4 z<|gy z z (l' z z) z<|yy (l' z z) z<|mv z z<|gy z z (aS' z) z<|gy z z (f' 3 sc3 z z z) z<|ad' hr (v' z z) (au' z z) z (fun E hr=>?_) (fun E hr=>?_)
  .refine gy z z (e' z) z<|gy z z (bw' z) z<|gy z z (f' 2 sc3 z z z) z<|gy z z (bf' z z) z<|gy z z (h' z z) z<|yy (l' z z) z<|nx<|L' hr z (fun L hr=>?_) (fun L hr=>?_)
   .refine sr<|sx0 z z<|j'<|a' (k0' hr z z)
   refine q'<|ar' c ⟨mr,hr⟩ (f2 z z) (w2 z z)
  refine gy z z (e' z) z<|sn3 z<|gy z z (l' z z) z<|yy (l' z z) z<|nx<|bb' z<|q'<|ar' c ⟨mr,hr⟩ (f2 z z) (w2 z z)
 rintro t ⟨u,hr⟩
 refine n'<|sr<|yy (dm' z) z<|yy (f' 3 cF' z z z) z<|yy (aH' z) z<|yy (f' 2 bC' z z z) z<|yy (M' H' (p.mono (mt j u)) z) z ?_
 obtain⟨ab,F,hr⟩:=hr
 refine F' z z (t' E152 z) (gd' F) z ((B.mono (mt j u)))<|yy (al' z) z<|nx<|aL' hr z (fun X hr=>?_) (fun X hr=>?_)
 .refine sr<|sx0 z z<|j'<|a' (k0' hr z z)
 refine q'<|g'<|sr<|sx0 z z<|j' (k0' hr z z)
theorem eA'{q o e d i j f g n m r}(hr:(Zbt q o).Ret r):Ctr prog 101 #[.agg ((v31' q e d i j f g)).toArray,.agg ((v48' o n m)).toArray] (fun G=>sl Rp.str G e d q.vars/\sl b' G i j q.eqs/\sl b' G f g q.neqs/\sl K' G n m o.p) (fun G v=>v=i' r):=by
 refine E' (args:=[_,_]) (N:=51) func101 z z z (fun Q t T y=>?_)
 obtain⟨k,c,l,u⟩:=y
 refine sr<|af' 2 z z z fun D=>af' 3 z z z fun O=>sx0 z z<|n'<|sr<|yy (o' 2 at' z z z) z<|yy (aS' z) z<|yy (f' 3 sc3 z z z) z ?_
 obtain⟨R,A,hr⟩:=hr
 refine F' z z (t' E151 z) (gq' A) z (⟨k,c,l⟩)<|yy (al' z) z<|nx<|aL' hr z (fun M hr=>?_) (fun M hr=>?_)
 .refine sr<|sx0 z z<|j'<|a' (k0' hr z z)
 refine q'<|g'<|aM' (fun (s:Mem)=>match s with|p=>[(2,pt0 D),(3,pt0 O)]) (fun (s:Mem)=>match s with|p=>Mem.le t p/\(ZbM q o).Ret r) (fun (s:Mem)=>match s with|p=>St Q t p [(2,bk0 D (v31' q e d i j f g) 31),(3,bk0 O (v48' o n m) 48)]) ?_ ?_
 .refine sr<|yy (cA' z) z<|yy (f' 3 sc3 z z z) z<|ad' hr z (au' z z) z (fun J hr=>?_) (fun J hr=>?_)
  .refine mv z z<|gy z z (dm' z) z<|gy z z (f' 3 cF' z z z) z<|gy z z (aH' z) z<|gy z z (f' 2 bC' z z z) z<|gy z z (M' H' k z) z ?_
   obtain⟨S,x,hr⟩:=hr
   refine F' (v' z z) z (t' E152 z) (gd' x) z (u)<|gy z z (al' z) z<|yy (h' z z) z<|nx<|aL' hr z (fun K hr=>?_) (fun K hr=>?_)
   .refine sr<|sx0 z z<|j'<|a' (k0' hr z z)
   refine q'<|ar' t ⟨mr,hr⟩ (f2 z z) (w2 z z)
  refine mv z z<|sn7 z<|yy (l' z z) z<|nx<|bb' z<|q'<|ar' t ⟨mr,hr⟩ (f2 z z) (w2 z z)
 rintro p ⟨h,hr⟩
 refine sr<|yy (aY' z) z<|yy (f' 2 br' z z z) z<|yy (aS' z) z<|yy (f' 3 sc3 z z z) z ?_
 obtain⟨U,B,hr⟩:=hr
 refine F' z z (t' E93 z) (dG' B) z ((c.mono h))<|yy (bf' z z) z<|sx0 z z<|n'<|sr<|yy (cA' z) z<|yy (f' 3 sc3 z z z) z<|ad' hr z (au' z z) z (fun L hr=>?_) (fun L hr=>?_)
 .refine mv z z<|ad' hr (v' z z) (e' z) z (fun H hr=>?_) (fun H hr=>?_)
  .refine gy z z (e' z) z<|gy z z (ba' z) z<|gy z z (f' 2 br' z z z) z<|gy z z (M' w' (l.mono h) z) z<|ad' hr (v' z z) (bf' z z) z (fun I hr=>?_) (fun I hr=>?_)
   .refine gy z z (h' z z) z<|gy z z (e' z) z<|sn3 z<|N' (x' z z) z<|N' (x' z z) z<|N' (x' z z) z<|N' (x' z z) z<|sf z z z<|gy z z (h' z z) z<|yy (h' z z) z<|nx<|U' z<|sr<|sx0 z z<|j'<|a' (k0' hr z z)
   refine gy z z (h' z z) z<|gy z z (e' z) z<|ad' hr (v' z z) (e' z) z (fun P hr=>?_) (fun P hr=>?_)
   .refine gy z z (al' z) z<|gy z z (e' z) z<|sn4 z<|gy z z (l' z z) z<|gy z z (l' z z) z<|yy (h' z z) z<|nx<|bb' z<|q'<|g'<|sr<|sx0 z z<|j' (k0' hr z z)
   refine gy z z (al' z) z<|gy z z (e' z) z<|gy z z (aY' z) z<|gy z z (f' 2 br' z z z) z<|gy z z (M' w' (c.mono h) z) z<|gy z z (bf' z z) z<|gy z z (h' z z) z<|gy z z (l' z z) z<|yy (h' z z) z<|nx<|L' hr z (fun C hr=>?_) (fun C hr=>?_)
   .refine sr<|sx0 z z<|j'<|a' (k0' hr z z)
   refine q'<|g'<|sr<|sx0 z z<|j' (k0' hr z z)
  refine gy z z (e' z) z<|sn4 z<|gy z z (l' z z) z<|gy z z (e' z) z<|ad' hr (v' z z) (e' z) z (fun E hr=>?_) (fun E hr=>?_)
  .refine gy z z (al' z) z<|gy z z (e' z) z<|sn4 z<|gy z z (l' z z) z<|gy z z (l' z z) z<|yy (h' z z) z<|nx<|bb' z<|q'<|g'<|sr<|sx0 z z<|j' (k0' hr z z)
  refine gy z z (al' z) z<|gy z z (e' z) z<|gy z z (aY' z) z<|gy z z (f' 2 br' z z z) z<|gy z z (M' w' (c.mono h) z) z<|gy z z (bf' z z) z<|gy z z (h' z z) z<|gy z z (l' z z) z<|yy (h' z z) z<|nx<|L' hr z (fun F hr=>?_) (fun F hr=>?_)
  .refine sr<|sx0 z z<|j'<|a' (k0' hr z z)
  refine q'<|g'<|sr<|sx0 z z<|j' (k0' hr z z)
 refine mv z z<|sn2 z<|N' (x' z z) z<|N' (x' z z) z<|N' (x' z z) z<|N' (x' z z) z<|sn2 z<|N' (x' z z) z<|N' (x' z z) z<|N' (x' z z) z<|N' (x' z z) z<|N' (x' z z) z<|N' (x' z z) z<|N' (x' z z) z<|N' (x' z z) z<|sk z z z<|yy (l' z z) z<|nx<|bb' z<|q'<|g'<|sr<|sx0 z z<|j' (k0' hr z z)
theorem fO'{k p j i l m h g o n r}(hr:(ZeX k p).Ret r):Ctr prog 71 #[.agg ((v31' k j i l m h g)).toArray,.agg ((v48' p o n)).toArray] (fun G=>sl Rp.str G j i k.vars/\sl b' G l m k.eqs/\sl b' G h g k.neqs/\sl K' G o n p.p) (fun G v=>v=i' r):=by
 refine E' (args:=[_,_]) (N:=98) func71 z z z (fun w0 G0 ao F=>?_)
 obtain⟨c,e,d,f⟩:=F
 refine sr<|af' 2 z z z fun b1=>af' 3 z z z fun b2=>sg z z<|nr<|yy (aH' z) z<|yy (f' 2 bC' z z z) z<|yy (M' H' c z) z<|sx0 z z<|n'<|sr<|yy (cA' z) z<|yy (f' 3 sc3 z z z) z<|nx<|B'<|sr<|yy (au' z z) z<|sx0 z z<|L' hr z (fun ac hr=>?_) (fun ac hr=>?_)
 .refine n'<|sr<|mv z z<|yy (bf' z z) z<|nx<|L' hr z (fun T hr=>?_) (fun T hr=>?_)
  .refine sr<|sx0 z z<|j'<|a'<|m'<|a' (k0' hr z z)
  refine q'<|g'<|n'<|sr<|yy (aJ' z) z<|yy (f' 3 sc3 z z z) z<|ad' hr z (ai' z z) z (fun Z hr=>?_) (fun Z hr=>?_)
  .refine mv z z<|sn4 z<|yy (h' z z) z<|nx<|U' z<|sr<|sx0 z z<|j'<|a'<|m'<|a' (k0' hr z z)
  refine mv z z<|gy z z (aJ' z) z<|gy z z (f' 3 sc3 z z z) z<|gy z z (e' z) z<|gy z z (bh' z z) z<|yy (l' z z) z<|nx<|L' hr z (fun W hr=>?_) (fun W hr=>?_)
  .refine sr<|sx0 z z<|j'<|a'<|m'<|a' (k0' hr z z)
  refine q'<|g'<|n'<|sr<|yy (ca' z) z<|yy (f' 3 sc9 z z z) z ?_
  obtain⟨V,L,hr⟩:=hr
  refine F' z z (t' E54 z) (eZ' L) z (trivial) ?_
  cases V
  .refine yy (al' z) z<|mv z z<|sn5 z<|yy (h' z z) z<|nx<|U' z<|sr<|sx0 z z<|j'<|a'<|m'<|a' (k0' hr z z)
  refine yy (al' z) z<|mv z z<|gy z z (o' 2 at' z z z) z<|gy z z (ca' z) z<|gy z z (f' 3 sc9 z z z) z ?_
  obtain⟨ar,Q,hr⟩:=hr
  refine F' (v' z z) z (t' E97 z) (fL' Q) z (⟨c,e,d⟩)<|gy z z (bf' z z) z<|yy (l' z z) z<|nx<|L' hr z (fun aa hr=>?_) (fun aa hr=>?_)
  .refine sr<|sx0 z z<|j'<|a'<|m'<|a' (k0' hr z z)
  refine q'<|g'<|sr<|sx0 z z<|j'<|m'<|a' (k0' hr z z)
 refine sr<|yy (au' z z) z<|sx0 z z<|L' hr z (fun U hr=>?_) (fun U hr=>?_)
 .refine n'<|sr<|yy (o' 2 at' z z z) z<|yy (aJ' z) z<|yy (f' 3 sc3 z z z) z ?_
  obtain⟨al,y,hr⟩:=hr
  refine F' z z (t' E98 z) (fa' y) z (⟨c,e,d⟩)<|yy (al' z) z<|nx<|aL' hr z (fun ad hr=>?_) (fun ad hr=>?_)
  .refine sr<|sx0 z z<|j'<|a'<|m'<|a' (k0' hr z z)
  refine q'<|g'<|n'<|sr<|yy (o' 2 at' z z z) z<|yy (aJ' z) z<|yy (f' 3 sc3 z z z) z ?_
  obtain⟨ap,x,hr⟩:=hr
  refine F' z z (t' E99 z) (gU' x) z (⟨c,e,d⟩)<|nx<|aL' hr z (fun ag hr=>?_) (fun ag hr=>?_)
  .refine sr<|sx0 z z<|j'<|a'<|m'<|a' (k0' hr z z)
  refine q'<|g'<|sr<|sx0 z z<|j'<|m'<|a' (k0' hr z z)
 refine sr<|yy (au' z z) z<|sx0 z z<|L' hr z (fun ab hr=>?_) (fun ab hr=>?_)
 .refine n'<|sr<|yy (o' 2 at' z z z) z<|yy (aJ' z) z<|yy (f' 3 sc3 z z z) z ?_
  obtain⟨aq,I,hr⟩:=hr
  refine F' z z (t' E98 z) (fa' I) z (⟨c,e,d⟩)<|yy (al' z) z<|nx<|aL' hr z (fun ae hr=>?_) (fun ae hr=>?_)
  .refine sr<|sx0 z z<|j'<|a'<|m'<|a' (k0' hr z z)
  refine q'<|g'<|sr<|yy (o' 2 at' z z z) z<|yy (ca' z) z<|yy (f' 3 sc9 z z z) z ?_
  obtain⟨am,B,hr⟩:=hr
  refine F' z z (t' E97 z) (fL' B) z (⟨c,e,d⟩)<|sx0 z z<|n'<|sr<|yy (ca' z) z<|yy (f' 3 sc9 z z z) z ?_
  obtain⟨Y,C,hr⟩:=hr
  refine F' z z (t' E54 z) (eZ' C) z (trivial) ?_
  cases Y
  .refine yy (al' z) z<|mv z z<|sn3 z<|N' (x' z z) z<|N' (x' z z) z<|N' (x' z z) z<|N' (x' z z) z<|sf z z z<|yy (h' z z) z<|nx<|U' z<|sr<|sx0 z z<|j'<|a'<|m'<|a' (k0' hr z z)
  refine yy (al' z) z<|mv z z<|gy z z (e' z) z<|ad' hr (v' z z) (bf' z z) z (fun X hr=>?_) (fun X hr=>?_)
  .refine gy z z (e' z) z<|gy z z (e' z) z<|gy z z (aJ' z) z<|gy z z (f' 3 sc3 z z z) z<|gy z z (aw' z z) z<|gy z z (h' z z) z<|yy (l' z z) z<|nx<|L' hr z (fun H hr=>?_) (fun H hr=>?_)
   .refine sr<|sx0 z z<|j'<|a'<|m'<|a' (k0' hr z z)
   refine q'<|g'<|sr<|sx0 z z<|j'<|m'<|a' (k0' hr z z)
  refine gy z z (e' z) z<|sn4 z<|gy z z (l' z z) z<|yy (l' z z) z<|nx<|bb' z<|q'<|g'<|sr<|sx0 z z<|j'<|m'<|a' (k0' hr z z)
 refine sr<|yy (au' z z) z<|sx0 z z<|L' hr z (fun P hr=>?_) (fun P hr=>?_)
 .refine n'<|sr<|yy (o' 2 at' z z z) z<|yy (aJ' z) z<|yy (f' 3 sc3 z z z) z ?_
  obtain⟨af,J,hr⟩:=hr
  refine F' z z (t' E98 z) (fa' J) z (⟨c,e,d⟩) ?_
  cases af
  .refine yy (al' z) z<|mv z z<|sn5 z<|yy (h' z z) z<|nx<|U' z<|sr<|sx0 z z<|j'<|a'<|m'<|a' (k0' hr z z)
  refine yy (al' z) z<|mv z z<|gy z z (o' 2 at' z z z) z<|gy z z (cy' z) z<|gy z z (f' 3 sc3 z z z) z ?_
  obtain⟨an,E,hr⟩:=hr
  refine F' (v' z z) z (t' E98 z) (fa' E) z (⟨c,e,d⟩)<|gy z z (al' z) z<|yy (l' z z) z<|nx<|aL' hr z (fun K hr=>?_) (fun K hr=>?_)
  .refine sr<|sx0 z z<|j'<|a'<|m'<|a' (k0' hr z z)
  refine q'<|g'<|sr<|sx0 z z<|j'<|m'<|a' (k0' hr z z)
 refine sr<|yy (au' z z) z<|sx0 z z<|L' hr z (fun R hr=>?_) (fun R hr=>?_)
 .refine sr<|yy (o' 2 at' z z z) z<|yy (o' 3 bO' z z z) z ?_
  obtain⟨ah,u,hr⟩:=hr
  refine F' z z (t' E100 z) (gk' u) z (⟨c,e,d,f⟩)<|sx0 z z<|j'<|m'<|a' (k0' hr z z)
 refine n'<|sr<|yy (au' z z) z<|sx0 z z<|L' hr z (fun A hr=>?_) (fun A hr=>?_)
 .refine q'<|g'<|L' hr z (fun M hr=>?_) (fun M hr=>?_)
  .refine sr<|yy (o' 2 at' z z z) z<|yy (o' 3 bO' z z z) z ?_
   obtain⟨aj,s,hr⟩:=hr
   refine F' z z (t' E101 z) (eA' s) z (⟨c,e,d,f⟩)<|sx0 z z<|j'<|m'<|a' (k0' hr z z)
  refine q'<|J'<|g'<|sr<|sx0 z z<|j' (k0' hr z z)
 refine sr<|yy (au' z z) z<|sx0 z z<|L' hr z (fun O hr=>?_) (fun O hr=>?_)
 .refine q'<|g'<|L' hr z (fun D hr=>?_) (fun D hr=>?_)
  .refine sr<|yy (o' 2 at' z z z) z<|yy (o' 3 bO' z z z) z ?_
   obtain⟨ai,q,hr⟩:=hr
   refine F' z z (t' E101 z) (eA' q) z (⟨c,e,d,f⟩)<|sx0 z z<|j'<|m'<|a' (k0' hr z z)
  refine q'<|J'<|g'<|sr<|sx0 z z<|j' (k0' hr z z)
 refine A'<|yy (au' z z) z<|sx0 z z<|L' hr z (fun S hr=>?_) (fun S hr=>?_)
 .refine sr<|yy (o' 2 at' z z z) z<|yy (o' 3 bO' z z z) z ?_
  obtain⟨ak,t,hr⟩:=hr
  refine F' z z (t' E101 z) (eA' t) z (⟨c,e,d,f⟩)<|sx0 z z<|j'<|m'<|a' (k0' hr z z)
 refine q'<|J'<|g'<|sr<|sx0 z z<|j' (k0' hr z z)
theorem dI'{c e r}(hr:(Zax c e).Ret r):Ctr prog 73 #[i' c,i' e] (fun G=>True) (fun G v=>v = .agg (vecG (Value.int .i64) 8 r).toArray):=by
 refine E' (args:=[_,_]) (N:=43) func73 z z z fun y p S P=>sr<|V' 4 z z119 z fun q=>nr<|yy (av' (vs:=#[]) (v:=.agg (vecG (Value.int .i64) 8 (fun _=>0)).toArray) z z (fun _=>by kernel_rfl)) z<|V' 5 z z119 z fun s=>s' 5 z sz119 z z z (ac' _ _ _) (ac' _ _ _) (fun u t=>Rp.one (dw' .i64 8) (G:=p) (x:=(fun _=>0)) (cs:=vecG (Value.int .i64) 8 (fun _=>0)) z u (by first|simpa using t|simpa [Value.cells] using t))<|nx<|n'<|sr<|sx0 z z<|am' (fun (⟨h,m⟩:(Fin 8->Int)×Mem)=>[(0,i' c),(1,i' e),(4,pt0 q),(5,pt0 s)]) (fun ⟨h,m⟩=>Mem.le p m/\(Zdd c e h).Ret r) (fun ⟨h,m⟩=>St y p m [(4,bk0 q (vecG (Value.int .i64) 8 (fun _=>0)) 119),(5,bk0 s (vecG (Value.int .i64) 8 h) 119)]) ?_ ?_
 .refine B' ?_
  let o:(Fin 8->Int)->Prop:=fun Q=>((fun O=>match O with|h=>Zdd c e h:(Fin 8->Int)->Cq (Fin 8->Int)) Q).wp (fun a=>a=r)
  replace hr:(Cq.loop _ _).wp o:=hr
  refine an' (Φ:=o) (fun (⟨d,f,g⟩:Int×(Fin 8->Int)×Mem)=>((d,f):Int×(Fin 8->Int))) (fun ⟨d,f,g⟩=>[(0,i' c),(1,i' e),(4,pt0 q),(5,pt0 s),(6,i' d)]) (fun ⟨d,f,g⟩=>Mem.le p g) (fun ⟨d,f,g⟩=>St y p g [(4,bk0 q (vecG (Value.int .i64) 8 (fun _=>0)) 119),(5,bk0 s (vecG (Value.int .i64) 8 f) 119)]) ⟨0,(fun _=>0),p⟩ hr (f5 z z z z z) mr (w2 z z) ?_
  .intro F M R hr
   obtain⟨d,f,g⟩:=M
   have l:=R
   refine n'<|sr<|mv z z<|yy (ai' z z) z<|nx<|L' hr z (fun J hr=>?_) (fun J hr=>?_)
   .refine q'<|g'<|n'<|B'<|sr<|mv z z<|mv z z ?_
    obtain⟨K,hr⟩:=hr
    refine yy (bi' be' sz3 z z K) z<|aC' 5 (vecG (Value.int .i64) 8 (setF f d.toNat d)).toArray z sz3 z z z (by first|(rw[ac']; omega)|(show _<(vecG _ _ _).toArray.size; rw[ac']; omega)) z (ci' _ _ _ _ _)<|nx<|aM' (fun (⟨j,k⟩:(Fin 8->Int)×Mem)=>[(0,i' c),(1,i' e),(4,pt0 q),(5,pt0 s),(6,i' d)]) (fun ⟨j,k⟩=>Mem.le g k/\(ZbN c e d j).wp (Out F o)) (fun ⟨j,k⟩=>St y p k [(4,bk0 q (vecG (Value.int .i64) 8 (fun _=>0)) 119),(5,bk0 s (vecG (Value.int .i64) 8 j) 119)]) ?_ ?_
    .refine sr<|mv z z<|mv z z<|ad' hr z (bh' z z) z (fun C hr=>?_) (fun C hr=>?_)
     .refine mv z z<|gy z z (e' z) z<|gy z z (e' z) z<|gy z z (bN' z z) z<|yy (h' z z) z<|nx<|L' hr z (fun B hr=>?_) (fun B hr=>?_)
      .refine A'<|mv z z<|mv z z<|yy (bj' z z) z ?_
       obtain⟨D,hr⟩:=hr
       refine yy (bi' be' sz3 z z D) z<|aC' 5 (vecG (Value.int .i64) 8 (setF (setF f d.toNat d) d.toNat (i64.wrap (d-1)))).toArray z sz3 z z z (by first|(rw[ac']; omega)|(show _<(vecG _ _ _).toArray.size; rw[ac']; omega)) z (ci' _ _ _ _ _)<|u'<|ar' ⟨setF (setF f d.toNat d) d.toNat (i64.wrap (d-1)),g⟩ ⟨mr,hr⟩ (f5 z z z z z) (w2 z z)
      refine q'<|ar' ⟨setF f d.toNat d,g⟩ ⟨mr,hr⟩ (f5 z z z z z) (w2 z z)
     refine mv z z<|sn3 z<|yy (l' z z) z<|nx<|bb' z<|q'<|ar' ⟨setF f d.toNat d,g⟩ ⟨mr,hr⟩ (f5 z z z z z) (w2 z z)
    rintro⟨j,k⟩ ⟨n,hr⟩
    refine sr<|mv z z<|mv z z<|ad' hr z (ai' z z) z (fun H hr=>?_) (fun H hr=>?_)
    .refine mv z z<|gy z z (e' z) z<|gy z z (e' z) z<|gy z z (bf' z z) z<|yy (h' z z) z<|nx<|L' hr z (fun A hr=>?_) (fun A hr=>?_)
     .refine A'<|mv z z<|mv z z<|yy (X' z z) z ?_
      obtain⟨I,hr⟩:=hr
      refine yy (bi' be' sz3 z z I) z<|aC' 5 (vecG (Value.int .i64) 8 (setF j d.toNat (i64.wrap (d+1)))).toArray z sz3 z z z (by first|(rw[ac']; omega)|(show _<(vecG _ _ _).toArray.size; rw[ac']; omega)) z (ci' _ _ _ _ _)<|u'<|J'<|g'<|A'<|mv z z<|yy (X' z z) z<|sg z z<|u'<|Y' ⟨i64.wrap (d+1),setF j d.toNat (i64.wrap (d+1)),k⟩ hr (mt l n) (f5 z z z z z) (w2 z z)
     refine q'<|J'<|g'<|A'<|mv z z<|yy (X' z z) z<|sg z z<|u'<|Y' ⟨i64.wrap (d+1),j,k⟩ hr (mt l n) (f5 z z z z z) (w2 z z)
    refine mv z z<|sn3 z<|yy (l' z z) z<|nx<|bb' z<|q'<|J'<|g'<|A'<|mv z z<|yy (X' z z) z<|sg z z<|u'<|Y' ⟨i64.wrap (d+1),j,k⟩ hr (mt l n) (f5 z z z z z) (w2 z z)
   refine ao'<|r'<|r'<|O'<|ap' ⟨f,g⟩ ⟨l,hr⟩ (f4 z z z z) (w2 z z)
 rintro⟨h,m⟩ ⟨L,hr⟩
 refine g'<|sr<|mv z z<|mv z z ?_
 obtain⟨E,hr⟩:=hr
 refine yy (bi' be' sz3 z z E) z<|aC' 5 (vecG (Value.int .i64) 8 (setF h c.toNat e)).toArray z sz3 z z z (by first|(rw[ac']; omega)|(show _<(vecG _ _ _).toArray.size; rw[ac']; omega)) z (ci' _ _ _ _ _)<|nr<|yy (o' 5 ag119 z z (ac' _ _ _)) z<|s' 4 z sz119 z z z (ac' _ _ _) (ac' _ _ _) (fun u t=>Rp.one (dw' .i64 8) (G:=m) (x:=setF h c.toNat e) (cs:=vecG (Value.int .i64) 8 (setF h c.toNat e)) z u (by first|simpa using t|simpa [Value.cells] using t))<|nx<|j' ?_
 obtain rfl:_=r:=hr
 exact k' z (aa' (i:=4) ag119 z z (ac' _ _ _)) z
theorem fk'{c r}(hr:(ZbZ c).Ret r):Ctr prog 153 #[.agg (vecG (Value.int .i64) 8 c).toArray] (fun G=>True) (fun G v=>v = .bool r):=by
 refine E' (args:=[_]) (N:=31) func153 z z z fun y j M I=>sr<|af' 1 z z z fun s=>sg z z<|nr<|yy (av' (vs:=#[]) (v:=.agg (vecG Value.bool 8 (fun _=>false)).toArray) z z (fun _=>by kernel_rfl)) z<|V' 3 z z216 z fun D=>s' 3 z sz216 z z z (ac' _ _ _) (ac' _ _ _) (fun u E=>Rp.one (Rp.vecB 8) (G:=j) (x:=(fun _=>false)) (cs:=vecG Value.bool 8 (fun _=>false)) z u (by first|simpa using E|simpa [Value.cells] using E))<|nx<|n'<|sr<|sx0 z z<|am' (fun (h:Mem)=>match h with|g=>[]) (fun (h:Mem)=>match h with|g=>Mem.le j g/\(Zbe).Ret r) (fun (h:Mem)=>match h with|g=>St y j g []) ?_ ?_
 .refine B' ?_
  let k:(Bool⊕Unit)->Prop:=fun J=>((fun H=>match H with | .inl rv1=>Cq.ret rv1 | .inr ()=>Zbe:(Bool⊕Unit)->Cq Bool) J).wp (fun a=>a=r)
  replace hr:(Cq.loop _ _).wp k:=hr
  refine an' (Φ:=k) (fun (⟨f,d,e⟩:Int×(Fin 8->Bool)×Mem)=>((f,d):Int×(Fin 8->Bool))) (fun ⟨f,d,e⟩=>[(1,pt0 s),(3,pt0 D),(4,i' f)]) (fun ⟨f,d,e⟩=>Mem.le j e) (fun ⟨f,d,e⟩=>St y j e [(1,bk0 s (vecG (Value.int .i64) 8 c) 119),(3,bk0 D (vecG Value.bool 8 d) 216)]) ⟨0,(fun _=>false),j⟩ hr (f3 z z z) mr (w2 z z) ?_
  .intro L h K hr
   obtain⟨f,d,e⟩:=h
   have i:=K
   refine n'<|sr<|mv z z<|yy (ai' z z) z<|nx<|L' hr z (fun C hr=>?_) (fun C hr=>?_)
   .refine q'<|g'<|n'<|B'<|n'<|sr<|mv z z ?_
    obtain⟨m,hr⟩:=hr
    refine yy (bi' be' sz3 z z m) z<|yy (f' 1 sc3 z z (bk' _ _ _ m)) z<|ad' hr z (ai' z z) z (fun A hr=>?_) (fun A hr=>?_)
    .refine mv z z<|sn4 z<|yy (h' z z) z<|mv z z<|sn5 z<|yy (h' z z) z<|nx<|U' z<|sr<|sx0 z z<|j'<|a'<|m'<|a'<|a'<|m'<|ag'<|a' (k0' hr z z)
    refine mv z z<|gy z z (e' z) z ?_
    obtain⟨o,hr⟩:=hr
    refine gy z z (bi' be' sz3 z z o) z<|gy z z (f' 1 sc3 z z (bk' _ _ _ o)) z<|ad' hr (v' z z) (bf' z z) z (fun t hr=>?_) (fun t hr=>?_)
    .refine yy (l' z z) z<|mv z z<|sn5 z<|yy (h' z z) z<|nx<|U' z<|sr<|sx0 z z<|j'<|a'<|m'<|a'<|a'<|m'<|ag'<|a' (k0' hr z z)
    refine yy (l' z z) z<|mv z z<|gy z z (e' z) z ?_
    obtain⟨n,hr⟩:=hr
    refine gy z z (bi' be' sz3 z z n) z<|gy z z (f' 1 sc3 z z (bk' _ _ _ n)) z ?_
    obtain⟨l,hr⟩:=hr
    refine gy z z (bi' dR' sz4 z z l) z<|gy z z (f' 3 sc4 z z (bk' _ _ _ l)) z<|yy (l' z z) z<|nx<|aL' hr z (fun q hr=>?_) (fun q hr=>?_)
    .exact (show False from hr).elim
    refine q'<|g'<|A'<|mv z z ?_
    obtain⟨p,hr⟩:=hr
    refine yy (bi' be' sz3 z z p) z<|yy (f' 1 sc3 z z (bk' _ _ _ p)) z ?_
    obtain⟨B,hr⟩:=hr
    refine yy (bi' dR' sz4 z z B) z<|aC' 3 (vecG Value.bool 8 (setF d ((getF c f).toNat) true)).toArray z sz4 z z z (by first|(rw[ac']; omega)|(show _<(vecG _ _ _).toArray.size; rw[ac']; omega)) z (ci' _ _ _ _ _)<|u'<|J'<|g'<|A'<|mv z z<|yy (X' z z) z<|sg z z<|u'<|Y' ⟨i64.wrap (f+1),setF d ((getF c f).toNat) true,e⟩ hr i (f3 z z z) (w2 z z)
   refine ao'<|r'<|r'<|O'<|ap' e ⟨i,hr⟩ fn (wk ln)
 rintro g ⟨F,hr⟩
 refine g'<|sr<|sx0 z z<|j' (k0' hr z z)
theorem gA'{O o Q M r}(hr:(Zfn O o).Ret r):Ctr prog 102 #[.slice Q O.length M,.agg (vecG (Value.int .i64) 8 o).toArray] (fun G=>sl K' G Q M O) (wlt' K' r):=by
 refine E' (args:=[_,_]) (N:=47) func102 z z z (fun Z G0 ag aj=>?_)
 have K:=aj
 refine sr<|af' 3 z z z fun V=>sg z z<|sx0 z z<|n'<|sr<|yy (o' 3 ag119 z z (ac' _ _ _)) z ?_
 obtain⟨aL,al,hr⟩:=hr
 refine F' z z (t' E153 z) (fk' al) z (trivial)<|yy (al' z) z<|nx<|aL' hr z (fun aE hr=>?_) (fun aE hr=>?_)
 .exact (show False from hr).elim
 refine q'<|g'<|sr<|bd' (e:=133) (r:=K') (vs:=#[]) (cs:=[]) ([]:List Ze) z z z z z (by decide) (fun _=>by kernel_rfl) (z) (key:=999) z (by rw[ag]; rfl) fun p2 W t aG=>sx0 z z<|n'<|sr<|sx0 z z<|am' (fun (⟨q,A,y,I⟩:(List Ze)×Option Addr×Nat×Mem)=>[(6,.slice A q.length y)]) (fun ⟨q,A,y,I⟩=>Mem.le W I/\sl K' I A y q/\(Zc8 q).Ret r) (fun ⟨q,A,y,I⟩=>St Z G0 I []) ?_ ?_
 .refine B' ?_
  let J:(List Ze)->Prop:=fun oo=>((fun ov=>match ov with|q=>Zc8 q:(List Ze)->Cq ((List Ze)×Int)) oo).wp (fun a=>a=r)
  replace hr:(Cq.loop _ _).wp J:=hr
  refine an' (Φ:=J) (fun (⟨i,l,k,H,p⟩:(List Ze)×Option Addr×Nat×Int×Mem)=>((i,H):(List Ze)×Int)) (fun ⟨i,l,k,H,p⟩=>[(0,.slice Q O.length M),(3,pt0 V),(6,.slice l i.length k),(7,i' H)]) (fun ⟨i,l,k,H,p⟩=>Mem.le W p/\sl K' p l k i) (fun ⟨i,l,k,H,p⟩=>St Z G0 p [(3,bk0 V (vecG (Value.int .i64) 8 o) 119)]) ⟨[],p2,0,0,W⟩ hr (f4 z z z z) ⟨mr,aG⟩ (w1 z) ?_
  .intro af gx hx hr
   obtain⟨i,l,k,H,p⟩:=gx
   obtain⟨n,T⟩:=hx
   refine n'<|sr<|mv z z<|mv z z<|yy (M' ak' (K.mono (mt t n)) z) z<|yy (ai' z z) z<|nx<|L' hr z (fun aD hr=>?_) (fun aD hr=>?_)
   .refine q'<|g'<|n'<|B'<|sr<|yy (av' (vs:=#[]) (v:=.agg (vecG (Value.int .i64) 8 (fun _=>0)).toArray) z z (fun _=>by kernel_rfl)) z<|V' 8 z z120 z fun b2=>s' 8 z sz120 z z z (ac' _ _ _) (ac' _ _ _) (fun u hu=>Rp.one (dw' .i64 8) (G:=p) (x:=(fun _=>0)) (cs:=vecG (Value.int .i64) 8 (fun _=>0)) z u (by first|simpa using hu|simpa [Value.cells] using hu))<|nx<|n'<|sr<|sx0 z z<|am' (fun (⟨m,R⟩:(Fin 8->Int)×Mem)=>[(0,.slice Q O.length M),(3,pt0 V),(6,.slice l i.length k),(7,i' H),(8,pt0 b2)]) (fun ⟨m,R⟩=>Mem.le p R/\(Zc9 O i H m).wp (Out af J)) (fun ⟨m,R⟩=>St Z G0 R [(3,bk0 V (vecG (Value.int .i64) 8 o) 119),(8,bk0 b2 (vecG (Value.int .i64) 8 m) 120)]) ?_ ?_
    .refine B' ?_
     let X:(Fin 8->Int)->Prop:=fun oo=>((fun ov=>match ov with|m=>Zc9 O i H m:(Fin 8->Int)->Cq (((List Ze)×Int)⊕(List Ze))) oo).wp (Out af J)
     replace hr:(Cq.loop _ _).wp X:=hr
     refine an' (Φ:=X) (fun (⟨F,s,C⟩:Int×(Fin 8->Int)×Mem)=>((F,s):Int×(Fin 8->Int))) (fun ⟨F,s,C⟩=>[(0,.slice Q O.length M),(3,pt0 V),(6,.slice l i.length k),(7,i' H),(8,pt0 b2),(9,i' F)]) (fun ⟨F,s,C⟩=>Mem.le p C) (fun ⟨F,s,C⟩=>St Z G0 C [(3,bk0 V (vecG (Value.int .i64) 8 o) 119),(8,bk0 b2 (vecG (Value.int .i64) 8 s) 120)]) ⟨0,(fun _=>0),p⟩ hr (f6 z z z z z z) mr (w2 z z) ?_
     .intro aN gx hx hr
      obtain⟨F,s,C⟩:=gx
      have D:=hx
      refine n'<|sr<|mv z z<|yy (ai' z z) z<|nx<|L' hr z (fun aw hr=>?_) (fun aw hr=>?_)
      .refine q'<|g'<|n'<|B'<|ah' [ff,ff,ff,ff,ff,ff,ff,ff,ff,ff] mix (by kernel_rfl) fun hb=>cn (fun _ h=>e' z) ?_
       obtain⟨ad,hr⟩:=hr
       refine cn (fun _ h=>bi' be' sz3 z z ad)<|cn (fun _ h=>f' 3 sc3 z z (bk' _ _ _ ad))<|cn (fun _ h=>e' z)<|cn (fun _ h=>e' z)<|cn (fun _ h=>e' z) ?_
       obtain⟨x2,ae,hr⟩:=hr
       refine cn (fun _ h=>T' ak' cg' ((K.mono (mt (mt t n) D)).mono h) z z ae)<|cn (fun _ h=>bB' z) ?_
       obtain⟨ah,hr⟩:=hr
       refine cn (fun _ h=>Y0.idxA aO' sz3 z z ah)<|cn (fun _ h=>Z' sc3 z (AtK.vecAt (I' (I' (ax' (ay' (ae' K ae))) (mt (mt t n) D)) h) ah))<|R' hb ?_
       obtain⟨az,hr⟩:=hr
       refine yy (bi' aO' sz3 z z az) z<|aC' 8 (vecG (Value.int .i64) 8 (setF s ((getF o F).toNat) (getF x2.m F))).toArray z sz3 z z z (by first|(rw[ac']; omega)|(show _<(vecG _ _ _).toArray.size; rw[ac']; omega)) z (ci' _ _ _ _ _)<|u'<|aq'<|J'<|g'<|A'<|mv z z<|yy (X' z z) z<|sg z z<|u'<|Y' ⟨i64.wrap (F+1),setF s ((getF o F).toNat) (getF x2.m F),C⟩ hr D (f6 z z z z z z) (w2 z z)
      refine ao'<|r'<|r'<|O'<|ap' ⟨s,C⟩ ⟨D,hr⟩ (f5 z z z z z) (w2 z z)
    rintro⟨m,R⟩ ⟨E,hr⟩
    refine g'<|ah' [tt,ff,ff,ff,ff,ff,ff] mix (by kernel_rfl) fun hb=>cq' z (e' z)<|cn (fun _ h=>e' z)<|cn (fun _ h=>e' z) ?_
    obtain⟨B,ai,hr⟩:=hr
    refine cn (fun _ h=>T' ak' cg' ((K.mono (mt (mt t n) E)).mono h) z z ai)<|cn (fun _ h=>cQ' z) ?_
    obtain⟨g,c,f,d,ay,P,L⟩:=ej' (I' (aW' (ay' (ae' K ai))) (mt (mt t n) E))
    refine cn (fun _ h=>aA' _ cR' z z (fun j v hv=>h _ _ _ (ay j v hv)))<|cn (fun _ h=>o' 8 bS' z z (ac' _ _ _))<|R' hb<|yy (av' (vs:=#[(0,.agg ((v130' B.c g c f d)).toArray),(1,.agg (vecG (Value.int .i64) 8 m).toArray)]) (v:=.agg (((v130' B.c g c f d):List Value)++(vecG (Value.int .i64) 8 m)).toArray) z z (fun _=>by kernel_rfl)) z<|bd' (e:=133) (r:=K') (vs:=#[(0,.agg (((v130' B.c g c f d):List Value)++(vecG (Value.int .i64) 8 m)).toArray)]) (cs:=(((v130' B.c g c f d):List Value)++(vecG (Value.int .i64) 8 m))++([])) ([(Ze.mk B.c m)]:List Ze) z z z z z (by decide) (fun _=>by kernel_rfl) ⟨((v130' B.c g c f d):List Value)++(vecG (Value.int .i64) 8 m),[],z,⟨(v130' B.c g c f d),vecG (Value.int .i64) 8 m,z,⟨(v128' B.c.num g c),(v128' B.c.den f d),z,⟨[.bool B.c.num.neg],[.slice g B.c.num.mag.length c],z,z,⟨_,z,P⟩⟩,⟨[.bool B.c.den.neg],[.slice f B.c.den.mag.length d],z,z,⟨_,z,L⟩⟩⟩,z⟩,z⟩ (key:=999) z (by rw[ag]; rfl) (fun p3 aM S aF=>?_)
    obtain⟨aC,ao,hr⟩:=hr
    refine P' z z (t' E62 z) (gp' ao) z (⟨(T.mono (mt E S)),aF⟩) (fun aI aA ab U=>?_)
    obtain⟨ar,an,rfl,av⟩:=U
    refine sg z z<|u'<|aq'<|J'<|g'<|A'<|mv z z<|yy (X' z z) z<|sg z z<|u'<|Y' ⟨aC,ar,an,i64.wrap (H+1),aA⟩ hr ⟨(mt (mt (mt n E) S) ab),av⟩ (f4 z z z z) (w1 z)
   refine ao'<|r'<|r'<|O'<|ap' ⟨i,l,k,p⟩ ⟨n,T,hr⟩ (f1 z) (wk ln)
 rintro⟨q,A,y,I⟩ ⟨aH,Y,hr⟩
 refine g'<|sr<|mv z z<|sg z z<|sx0 z z<|j' ?_
 obtain rfl:_=r:=hr
 exact aE' z z z ⟨_,_,z,Y⟩
theorem dK'{l1 F W X r}(hr:(Zba l1 F).Ret r):Ctr prog 72 #[.slice W l1.length X,.agg (vecG (Value.int .i64) 8 F).toArray] (fun G=>sl b' G W X l1) (wl' b' r):=by
 refine E' (args:=[_,_]) (N:=37) func72 z z z (fun w0 G0 Z aj=>?_)
 have H:=aj
 refine sr<|af' 3 z z z fun b1=>sg z z<|nr<|bd' (e:=110) (r:=b') (vs:=#[]) (cs:=[]) ([]:List Zb) z z z z z (by decide) (fun _=>by kernel_rfl) (z) (key:=999) z (by rw[Z]; rfl) fun p1 aa s ao=>sx0 z z<|n'<|sr<|sx0 z z<|am' (fun (⟨m,q,p,o,D⟩:(List Zb)×Option Addr×Nat×Option Ow×Mem)=>[(5,.slice q m.length p)]) (fun ⟨m,q,p,o,D⟩=>Mem.le aa D/\sl b' D q p m/\Tok 2 110 (.slice q m.length p) m.length o/\(Zex m).Ret r) (fun ⟨m,q,p,o,D⟩=>St w0 G0 D [(1005,o)]) ?_ ?_
 .refine B' ?_
  let V:(List Zb)->Prop:=fun oo=>((fun ov=>match ov with|m=>Zex m:(List Zb)->Cq (List Zb)) oo).wp (fun a=>a=r)
  replace hr:(Cq.loop _ _).wp V:=hr
  refine an' (Φ:=V) (fun (⟨j,l,k,i,L,x⟩:(List Zb)×Option Addr×Nat×Option Ow×Int×Mem)=>((j,L):(List Zb)×Int)) (fun ⟨j,l,k,i,L,x⟩=>[(0,.slice W l1.length X),(3,pt0 b1),(5,.slice l j.length k),(6,i' L)]) (fun ⟨j,l,k,i,L,x⟩=>Mem.le aa x/\sl b' x l k j/\Tok 2 110 (.slice l j.length k) j.length i) (fun ⟨j,l,k,i,L,x⟩=>St w0 G0 x [(3,bk0 b1 (vecG (Value.int .i64) 8 F) 119),(1005,i)]) ⟨[],p1,0,none,0,aa⟩ hr (f4 z z z z) ⟨mr,ao,dh'⟩ (wk (lc z (lw ln))) ?_
  .intro aP gx hx hr
   obtain⟨j,l,k,i,L,x⟩:=gx
   obtain⟨n,Q,J⟩:=hx
   refine n'<|sr<|mv z z<|mv z z<|yy (M' w' (H.mono (mt s n)) z) z<|yy (ai' z z) z<|nx<|L' hr z (fun ax hr=>?_) (fun ax hr=>?_)
   .refine q'<|g'<|n'<|B'<|n'<|ah' [ff,ff,ff,ff,ff,ff,ff,ff,ff,tt] mix (by kernel_rfl) fun hb=>cn (fun _ f=>e' z)<|cn (fun _ f=>e' z) ?_
    obtain⟨x1,ai,hr⟩:=hr
    refine cn (fun _ f=>T' w' aT' ((H.mono (mt s n)).mono f) z z ai)<|cn (fun _ f=>bX' z) ?_
    obtain⟨p2,aR,aD,aC⟩:=bF' (I' (ax' (ay' (ae' H ai))) (mt s n))
    refine cn (fun _ f=>Z' cF' z (f _ _ _ aD))<|cn (fun _ f=>o' 3 ag119 z z (ac' _ _ _)) ?_
    obtain⟨g,al,hr⟩:=hr
    refine aX' (post:=wlt' K' g) (fun _=>z) (fun _ _=>t' E102 z) (gA' al) z (fun S f=>(aC.mono f)) (fun v G1 G2 f h=>?_) ?_
    .obtain⟨C,A,rfl,t⟩:=h
     exact⟨_,_,z,t.mono f⟩
    refine bm' (φ:=wlt' K' g) (fun _=>z) (fun v G1 G2 f h=>?_) (fun u S f Y=>?_) ?_
    .obtain⟨p3,P,rfl,K⟩:=h
     exact⟨_,_,z,K.mono f⟩
    .obtain⟨⟨C,A,ac,t⟩,_⟩:=(show (wlt' K' g) S.m (u 23)/\True from Y)
     simp only[undFr,ac]
     exact⟨_,e' z,C,A,z,t⟩
    refine bm' (φ:=wl' K' g.1) (fun _=>z) (fun v G1 G2 f h=>?_) (fun u S f Y=>?_) ?_
    .obtain⟨M,B,rfl,ab⟩:=h
     exact⟨_,_,z,ab.mono f⟩
    .obtain⟨⟨p3,P,E,K⟩,_,_⟩:=(show (wlt' K' g) S.m (u 16)/\True/\True from Y)
     simp only[undFr,E]
     exact⟨_,y' z z,p3,P,z,K⟩
    refine bv' (c:=i' g.2) (fun _=>z) (fun u S f Y=>?_) ?_
    .obtain⟨_,⟨p3,P,E,K⟩,_,_⟩:=(show True/\(wlt' K' g) S.m (u 16)/\True/\True from Y)
     simp only[undFr,E]
     exact y' z z
    refine Chain.tailU3 (d:=24) (post:=wl' K' g.1) (d':=16) (post':=wlt' K' g) (d'':=23) (post'':=wlt' K' g) (fun aG aF aH aO y U R T=>?_)
    obtain⟨M,B,rfl,ab⟩:=U
    obtain⟨p3,P,rfl,K⟩:=R
    obtain⟨C,A,rfl,t⟩:=T
    refine sg z z<|sg z z<|u'<|aq'<|g'<|A'<|mv z z<|mv z z<|mv z z ?_
    obtain⟨I,ah,hr⟩:=hr
    refine yy (T' w' aT' (H.mono (mt (mt s n) y)) z z ah) z<|yy (bo' z) z<|yy (Z' sc3 z (aF' (I' (aW' (ay' (ae' H ah))) (mt (mt s n) y)))) z<|mv z z<|yy (av' (vs:=#[(0,i' I.id),(1,.slice M g.1.length B)]) (v:=.agg ([i' I.id,.slice M g.1.length B]).toArray) z z (fun _=>by kernel_rfl)) z<|bd' (e:=110) (r:=b') (vs:=#[(0,.agg ([i' I.id,.slice M g.1.length B]).toArray)]) (cs:=[i' I.id,.slice M g.1.length B]++([])) ([(Zb.mk I.id g.1)]:List Zb) z z z z z (by decide) (fun _=>by kernel_rfl) ⟨[i' I.id,.slice M g.1.length B],[],z,⟨[i' I.id],[.slice M g.1.length B],z,z,⟨_,z,ab⟩⟩,z⟩ (key:=999) z (by rw[Z]; rfl) (fun p5 aQ O ap=>?_)
    obtain⟨ak,hr⟩:=hr
    refine bW' (r:=b') 1005 z z w' el110 z (by decide) z z (Q.mono (mt y O)) z (by rw[Z]; rfl) J ap ak fun p6 aw am aq ag au an=>sg z z<|u'<|J'<|g'<|A'<|mv z z<|yy (X' z z) z<|sg z z<|u'<|Y' ⟨(j++[(Zb.mk I.id g.1)]),p6,aw,am,i64.wrap (L+1),aq⟩ hr ⟨(mt (mt (mt n y) O) ag),au,an⟩ (f4 z z z z) (w2 z z)
   refine ao'<|r'<|r'<|O'<|ap' ⟨j,l,k,i,x⟩ ⟨n,Q,J,hr⟩ (f1 z) (w1 z)
 rintro⟨m,q,p,o,D⟩ ⟨aE,af,aB,hr⟩
 refine g'<|sr<|mv z z<|sx0 z z<|j' ?_
 obtain rfl:_=r:=hr
 exact k' z z ⟨_,_,z,af⟩
theorem ec'{X d S U h i r}(hr:(Zco X d).Ret r):Ctr prog 103 #[.slice S X.length U,.agg ((v110' d.id h d.p i)).toArray] (fun G=>sl b' G S U X/\sl K' G h i d.p) (wl' b' r):=by
 refine E' (args:=[_,_]) (N:=53) func103 z z z (fun w0 G0 H al=>?_)
 obtain⟨F,Z⟩:=al
 refine sr<|af' 3 z z z fun Y=>sg z z<|nr<|bd' (e:=110) (r:=b') (vs:=#[]) (cs:=[]) ([]:List Zb) z z z z z (by decide) (fun _=>by kernel_rfl) (z) (key:=999) z (by rw[H]; rfl) fun p1 aa n ax=>sg z z<|nr<|sx0 z z<|n'<|sr<|sx0 z z<|am' (fun (⟨p,C,B,y,v,L⟩:(List Zb)×Option Addr×Nat×Option Ow×Bool×Mem)=>[(3,pt0 Y),(5,.slice C p.length B),(6,.bool v)]) (fun ⟨p,C,B,y,v,L⟩=>Mem.le aa L/\sl b' L C B p/\Tok 2 110 (.slice C p.length B) p.length y/\(Zgg d p v).Ret r) (fun ⟨p,C,B,y,v,L⟩=>St w0 G0 L [(3,bk0 Y (v110' d.id h d.p i) 110),(1005,y)]) ?_ ?_
 .refine B' ?_
  let Q:(((List Zb)×Bool))->Prop:=fun oo=>((fun ov=>match ov with|(p,v)=>Zgg d p v:(((List Zb)×Bool))->Cq (List Zb)) oo).wp (fun a=>a=r)
  replace hr:(Cq.loop _ _).wp Q:=hr
  refine an' (Φ:=Q) (fun (⟨j,l,k,g,m,J,x⟩:(List Zb)×Option Addr×Nat×Option Ow×Bool×Int×Mem)=>((j,m,J):(List Zb)×Bool×Int)) (fun ⟨j,l,k,g,m,J,x⟩=>[(0,.slice S X.length U),(3,pt0 Y),(5,.slice l j.length k),(6,.bool m),(7,i' J)]) (fun ⟨j,l,k,g,m,J,x⟩=>Mem.le aa x/\sl b' x l k j/\Tok 2 110 (.slice l j.length k) j.length g) (fun ⟨j,l,k,g,m,J,x⟩=>St w0 G0 x [(3,bk0 Y (v110' d.id h d.p i) 110),(1005,g)]) ⟨[],p1,0,none,false,0,aa⟩ hr (f5 z z z z z) ⟨mr,ax,dh'⟩ (wk (lc z (lw ln))) ?_
  .intro aI gx hx hr
   obtain⟨j,l,k,g,m,J,x⟩:=gx
   obtain⟨f,E,D⟩:=hx
   refine n'<|sr<|mv z z<|mv z z<|yy (M' w' (F.mono (mt n f)) z) z<|yy (ai' z z) z<|nx<|L' hr z (fun aG hr=>?_) (fun aG hr=>?_)
   .refine q'<|g'<|n'<|B'<|aM' (fun (⟨o,t,u,q,s,I⟩:(List Zb)×Option Addr×Nat×Option Ow×Bool×Mem)=>[(0,.slice S X.length U),(3,pt0 Y),(5,.slice t o.length u),(6,.bool s),(7,i' J)]) (fun ⟨o,t,u,q,s,I⟩=>Mem.le x I/\sl b' I t u o/\Tok 2 110 (.slice t o.length u) o.length q/\(Zd4 X d J o s).wp (Out aI Q)) (fun ⟨o,t,u,q,s,I⟩=>St w0 G0 I [(3,bk0 Y (v110' d.id h d.p i) 110),(1005,q)]) ?_ ?_
    .refine n'<|ah' [ff,ff,ff,ff,ff,ff,ff,ff,ff,ff] mix (by kernel_rfl) fun hb=>bz' hr z (fun _ c=>dc' (e' z) (congrArg Value.bool (bdec _))) (fun aA hr=>?_) (fun aA hr=>?_)
     .refine cn (fun _ c=>al' z)<|cn (fun _ c=>e' z)<|ct z z<|ct z z<|ct z z<|ct z z<|ct z z<|ct z z<|ct z z<|R' hb<|sk z z z<|yy (l' z z) z<|u'<|aq'<|g'<|bb' z<|q'<|ar' ⟨j,l,k,g,m,x⟩ ⟨mr,E,D,hr⟩ (f5 z z z z z) (w2 z z)
     refine cn (fun _ c=>al' z)<|cn (fun _ c=>e' z)<|cy z z (fun _ c=>e' z)<|cy z z (fun _ c=>e' z) ?_
     obtain⟨x4,ah,hr⟩:=hr
     refine cy z z (fun _ c=>T' w' aT' ((F.mono (mt n f)).mono c) z z ah)<|cy z z (fun _ c=>bo' z)<|cy z z (fun _ c=>Z' sc3 z (aF' (I' (I' (aW' (ay' (ae' F ah))) (mt n f)) c)))<|cy z z (fun _ c=>bo' z)<|cy z z (fun _ c=>f' 3 sc3 z z z)<|R' hb<|gy z z (bf' z z) z<|yy (h' z z) z<|u'<|aq'<|g'<|L' hr z (fun aD hr=>?_) (fun aD hr=>?_)
     .refine sr<|mv z z<|yy (o' 3 bM' z z z) z<|bd' (e:=110) (r:=b') (vs:=#[(0,.agg ((v110' d.id h d.p i)).toArray)]) (cs:=(v110' d.id h d.p i)++([])) ([d]:List Zb) z z z z z (by decide) (fun _=>by kernel_rfl) ⟨(v110' d.id h d.p i),[],z,⟨[i' d.id],[.slice h d.p.length i],z,z,⟨_,z,(Z.mono (mt n f))⟩⟩,z⟩ (key:=999) z (by rw[H]; rfl) (fun p6 a0 V aF=>?_)
      obtain⟨aq,hr⟩:=hr
      refine bW' (r:=b') 1005 z z w' el110 z (by decide) z z (E.mono V) z (by rw[H]; rfl) D aF aq fun p7 aB am aM ad aH ap=>sx0 z z<|A'<|sg z z<|u'<|ar' ⟨(j++[d]),p7,aB,am,true,aM⟩ ⟨(mt V ad),aH,ap,hr⟩ (f5 z z z z z) (w2 z z)
     refine q'<|ar' ⟨j,l,k,g,m,x⟩ ⟨mr,E,D,hr⟩ (f5 z z z z z) (w2 z z)
    rintro⟨o,t,u,q,s,I⟩ ⟨A,R,P,hr⟩
    refine n'<|ah' [ff,ff,ff,ff,ff,ff,ff] mix (by kernel_rfl) fun hb=>cn (fun _ c=>e' z)<|cn (fun _ c=>e' z) ?_
    obtain⟨x2,aj,hr⟩:=hr
    refine cn (fun _ c=>T' w' aT' ((F.mono (mt (mt n f) A)).mono c) z z aj)<|cn (fun _ c=>bo' z)<|cn (fun _ c=>Z' sc3 z (aF' (I' (I' (aW' (ay' (ae' F aj))) (mt (mt n f) A)) c)))<|cn (fun _ c=>bo' z)<|cn (fun _ c=>f' 3 sc3 z z z)<|R' hb<|yy (aw' z z) z<|u'<|aq'<|g'<|L' hr z (fun ay hr=>?_) (fun ay hr=>?_)
    .refine A'<|mv z z<|mv z z<|mv z z ?_
     obtain⟨K,ai,hr⟩:=hr
     refine yy (T' w' aT' (F.mono (mt (mt n f) A)) z z ai) z ?_
     obtain⟨M,O,aC,av⟩:=bq' (I' (ae' F ai) (mt (mt n f) A))
     refine yy (aA' _ bM' z z aC) z<|bd' (e:=110) (r:=b') (vs:=#[(0,.agg ((v110' K.id M K.p O)).toArray)]) (cs:=(v110' K.id M K.p O)++([])) ([K]:List Zb) z z z z z (by decide) (fun _=>by kernel_rfl) ⟨(v110' K.id M K.p O),[],z,⟨[i' K.id],[.slice M K.p.length O],z,z,⟨_,z,av⟩⟩,z⟩ (key:=999) z (by rw[H]; rfl) (fun p4 aZ W aN=>?_)
     obtain⟨ao,hr⟩:=hr
     refine bW' (r:=b') 1005 z z w' el110 z (by decide) z z (R.mono W) z (by rw[H]; rfl) P aN ao fun p5 aK ak aE ac az au=>sg z z<|u'<|J'<|g'<|A'<|mv z z<|yy (X' z z) z<|sg z z<|u'<|Y' ⟨(o++[K]),p5,aK,ak,s,i64.wrap (J+1),aE⟩ hr ⟨(mt (mt (mt f A) W) ac),az,au⟩ (f5 z z z z z) (w2 z z)
    refine q'<|J'<|g'<|A'<|mv z z<|yy (X' z z) z<|sg z z<|u'<|Y' ⟨o,t,u,q,s,i64.wrap (J+1),I⟩ hr ⟨(mt f A),R,P⟩ (f5 z z z z z) (w2 z z)
   refine ao'<|r'<|r'<|O'<|ap' ⟨j,l,k,g,m,x⟩ ⟨f,E,D,hr⟩ (f3 z z z) (w2 z z)
 rintro⟨p,C,B,y,v,L⟩ ⟨ag,T,ab,hr⟩
 refine g'<|n'<|sr<|mv z z<|yy (al' z) z<|nx<|aL' hr z (fun aJ hr=>?_) (fun aJ hr=>?_)
 .refine A'<|mv z z<|yy (o' 3 bM' z z z) z<|bd' (e:=110) (r:=b') (vs:=#[(0,.agg ((v110' d.id h d.p i)).toArray)]) (cs:=(v110' d.id h d.p i)++([])) ([d]:List Zb) z z z z z (by decide) (fun _=>by kernel_rfl) ⟨(v110' d.id h d.p i),[],z,⟨[i' d.id],[.slice h d.p.length i],z,z,⟨_,z,(Z.mono (mt n ag))⟩⟩,z⟩ (key:=999) z (by rw[H]; rfl) (fun p2 a1 ae aO=>?_)
  obtain⟨an,hr⟩:=hr
  refine bW' (r:=b') 1005 z z w' el110 z (by decide) z z (T.mono ae) z (by rw[H]; rfl) ab aO an fun p3 a3 aU a2 aP aL aR=>sg z z<|nr<|mv z z<|sx0 z z<|j' ?_
  obtain rfl:_=r:=hr
  exact k' z z ⟨_,_,z,aL⟩
 refine q'<|g'<|sr<|mv z z<|sx0 z z<|j' ?_
 obtain rfl:_=r:=hr
 exact k' z z ⟨_,_,z,T⟩
theorem eG'{H D C F r}(hr:(Zdc H D).Ret r):Ctr prog 104 #[.slice C H.length F,i' D] (fun G=>sl b' G C F H) (wl' b' r):=by
 refine E' (args:=[_,_]) (N:=29) func104 z z z (fun V G0 E O=>?_)
 have v:=O
 refine sr<|sg z z<|nr<|bd' (e:=110) (r:=b') (vs:=#[]) (cs:=[]) ([]:List Zb) z z z z z (by decide) (fun _=>by kernel_rfl) (z) (key:=999) z (by rw[E]; rfl) fun p1 B m S=>sx0 z z<|n'<|sr<|sx0 z z<|am' (fun (⟨i,l,k,j,q⟩:(List Zb)×Option Addr×Nat×Option Ow×Mem)=>[(5,.slice l i.length k)]) (fun ⟨i,l,k,j,q⟩=>Mem.le B q/\sl b' q l k i/\Tok 2 110 (.slice l i.length k) i.length j/\(Zfu i).Ret r) (fun ⟨i,l,k,j,q⟩=>St V G0 q [(1005,j)]) ?_ ?_
 .refine B' ?_
  let A:(List Zb)->Prop:=fun oo=>((fun ov=>match ov with|i=>Zfu i:(List Zb)->Cq (List Zb)) oo).wp (fun a=>a=r)
  replace hr:(Cq.loop _ _).wp A:=hr
  refine an' (Φ:=A) (fun (⟨d,g,f,c,x,n⟩:(List Zb)×Option Addr×Nat×Option Ow×Int×Mem)=>((d,x):(List Zb)×Int)) (fun ⟨d,g,f,c,x,n⟩=>[(0,.slice C H.length F),(1,i' D),(5,.slice g d.length f),(6,i' x)]) (fun ⟨d,g,f,c,x,n⟩=>Mem.le B n/\sl b' n g f d/\Tok 2 110 (.slice g d.length f) d.length c) (fun ⟨d,g,f,c,x,n⟩=>St V G0 n [(1005,c)]) ⟨[],p1,0,none,0,B⟩ hr (f4 z z z z) ⟨mr,S,dh'⟩ (wk (lw ln)) ?_
  .intro al gx hx hr
   obtain⟨d,g,f,c,x,n⟩:=gx
   obtain⟨h,t,o⟩:=hx
   refine n'<|sr<|mv z z<|mv z z<|yy (M' w' (v.mono (mt m h)) z) z<|yy (ai' z z) z<|nx<|L' hr z (fun X hr=>?_) (fun X hr=>?_)
   .refine q'<|g'<|n'<|B'<|sr<|mv z z<|mv z z ?_
    obtain⟨x1,K,hr⟩:=hr
    refine yy (T' w' aT' (v.mono (mt m h)) z z K) z<|yy (bo' z) z<|yy (Z' sc3 z (aF' (I' (aW' (ay' (ae' v K))) (mt m h)))) z<|mv z z<|yy (aw' z z) z<|nx<|L' hr z (fun T hr=>?_) (fun T hr=>?_)
    .refine A'<|mv z z<|mv z z<|mv z z ?_
     obtain⟨p,L,hr⟩:=hr
     refine yy (T' w' aT' (v.mono (mt m h)) z z L) z ?_
     obtain⟨s,u,U,P⟩:=bq' (I' (ae' v L) (mt m h))
     refine yy (aA' _ bM' z z U) z<|bd' (e:=110) (r:=b') (vs:=#[(0,.agg ((v110' p.id s p.p u)).toArray)]) (cs:=(v110' p.id s p.p u)++([])) ([p]:List Zb) z z z z z (by decide) (fun _=>by kernel_rfl) ⟨(v110' p.id s p.p u),[],z,⟨[i' p.id],[.slice s p.p.length u],z,z,⟨_,z,P⟩⟩,z⟩ (key:=999) z (by rw[E]; rfl) (fun p2 ak y ab=>?_)
     obtain⟨R,hr⟩:=hr
     refine bW' (r:=b') 1005 z z w' el110 z (by decide) z z (t.mono y) z (by rw[E]; rfl) o ab R fun p3 ac Q W J Z M=>sg z z<|u'<|J'<|g'<|A'<|mv z z<|yy (X' z z) z<|sg z z<|u'<|Y' ⟨(d++[p]),p3,ac,Q,i64.wrap (x+1),W⟩ hr ⟨(mt (mt h y) J),Z,M⟩ (f4 z z z z) (w1 z)
    refine q'<|J'<|g'<|A'<|mv z z<|yy (X' z z) z<|sg z z<|u'<|Y' ⟨d,g,f,c,i64.wrap (x+1),n⟩ hr ⟨h,t,o⟩ (f4 z z z z) (w1 z)
   refine ao'<|r'<|r'<|O'<|ap' ⟨d,g,f,c,n⟩ ⟨h,t,o,hr⟩ (f1 z) (w1 z)
 rintro⟨i,l,k,j,q⟩ ⟨ad,I,Y,hr⟩
 refine g'<|sr<|mv z z<|sx0 z z<|j' ?_
 obtain rfl:_=r:=hr
 exact k' z z ⟨_,_,z,I⟩
theorem ge'{c p e d o n k h s q r}(hr:(ZgD c p).Ret r):Ctr prog 74 #[.agg ((v31' c e d o n k h)).toArray,.agg ((v48' p s q)).toArray] (fun G=>sl Rp.str G e d c.vars/\sl b' G o n c.eqs/\sl b' G k h c.neqs/\sl K' G s q p.p) (w31' r):=by
 refine E' (args:=[_,_]) (N:=117) func74 z z z (fun w0 G0 bO aC=>?_)
 obtain⟨m,g,f,C⟩:=aC
 refine sr<|af' 2 z z z fun b1=>af' 3 z z z fun b2=>V' 4 z z31 z fun b3=>nr<|yy (o' 2 at' z z z) z<|V' 5 z z31 z fun b4=>s' 5 z aV' z z z z z (List.all_eq_true.1 z)<|nr<|yy (aS' z) z<|yy (f' 3 sc3 z z z) z<|yy (dm' z) z<|yy (f' 3 cF' z z z) z<|yy (av' (vs:=#[(0,i' p.id),(1,.slice s p.p.length q)]) (v:=.agg ((v110' p.id s p.p q)).toArray) z z (fun _=>by kernel_rfl)) z<|V' 6 z z110 z fun b5=>s' 6 z aT' z z z z z (List.all_eq_true.1 z)<|nx<|n'<|ah' [ff,ff,ff,ff,ff,ff,ff,ff,ff] mix (by kernel_rfl) fun hb=>cn (fun _ l=>aY' z)<|cn (fun _ l=>f' 2 br' z z z)<|cn (fun _ l=>aS' z)<|cn (fun _ l=>f' 3 sc3 z z z) ?_
 obtain⟨bL,aJ,hr⟩:=hr
 refine bD' z (fun _=>t' E93 z) (dG' aJ) z (fun G' l=>(g.mono l))<|cn (fun _ l=>ba' z)<|cn (fun _ l=>f' 2 br' z z z)<|cn (fun _ l=>aS' z)<|cn (fun _ l=>f' 3 sc3 z z z)<|R' hb ?_
 obtain⟨bK,aU,hr⟩:=hr
 refine F' z z (t' E93 z) (dG' aU) z (f)<|sg z z<|sg z z<|u'<|aq'<|g'<|n'<|sr<|yy (cA' z) z<|yy (f' 3 sc3 z z z) z<|nx<|B'<|sr<|yy (au' z z) z<|sx0 z z<|L' hr z (fun bh hr=>?_) (fun bh hr=>?_)
 .refine aM' (fun (⟨x,A,B,D⟩:Zb×Option Addr×Nat×Mem)=>[(2,pt0 b1),(3,pt0 b2),(4,pt0 b3),(5,pt0 b4),(6,pt0 b5)]) (fun ⟨x,A,B,D⟩=>Mem.le G0 D/\sl K' D A B x.p/\(ZaA c p x).Ret r) (fun ⟨x,A,B,D⟩=>St w0 G0 D [(2,bk0 b1 (v31' c e d o n k h) 31),(3,bk0 b2 (v48' p s q) 48),(4,bk0 b3 ([.slice none 0 0,.slice none 0 0,.slice none 0 0,i' 0]) 31),(5,bk0 b4 (v31' c e d o n k h) 31),(6,bk0 b5 (v110' x.id A x.p B) 110)]) ?_ ?_
  .refine sr<|yy (aS' z) z<|yy (f' 3 sc3 z z z) z<|yy (au' z z) z<|nx<|L' hr z (fun a4 hr=>?_) (fun a4 hr=>?_)
   .refine A'<|yy (bw' z) z<|yy (f' 2 sc3 z z z) z<|yy (bo' z) z<|aC' 6 ([i' c.next,.slice s p.p.length q]).toArray z sz3 z z z (show 0<2 by decide) z z<|u'<|ar' ⟨(Zb.mk c.next p.p),s,q,G0⟩ ⟨mr,C,hr⟩ (f5 z z z z z) (w5 z z z z z)
   refine q'<|ar' ⟨(Zb.mk p.id p.p),s,q,G0⟩ ⟨mr,C,hr⟩ (f5 z z z z z) (w5 z z z z z)
  rintro⟨x,A,B,D⟩ ⟨y,P,hr⟩
  refine sr<|yy (bw' z) z<|yy (f' 2 sc3 z z z) z<|yy (bo' z) z<|yy (f' 6 sc3 z z z) z<|yy (X' z z) z<|yy (en' z z) z<|yy (bw' z) z<|aC' 5 ([.slice e c.vars.length d,.slice o c.eqs.length n,.slice k c.neqs.length h,i' (if c.next<(i64.wrap (x.id+1)) then (i64.wrap (x.id+1)) else c.next)]).toArray z sz3 z z z (show 3<4 by decide) z z<|nr<|yy (dC' z) z<|yy (f' 3 sc4 z z z) z<|nx<|aL' hr z (fun be hr=>?_) (fun be hr=>?_)
  .refine A'<|yy (ba' z) z<|yy (f' 2 br' z z z) z<|yy (o' 6 bM' z z z) z ?_
   obtain⟨bg,aW,hr⟩:=hr
   refine P' z z (t' E103 z) (ec' aW) z (⟨(f.mono y),P⟩) (fun bs bM S ac=>?_)
   obtain⟨aD,aQ,rfl,aF⟩:=ac
   refine yy (ba' z) z<|aC' 5 ([.slice e c.vars.length d,.slice o c.eqs.length n,.slice aD bg.length aQ,i' (if c.next<(i64.wrap (x.id+1)) then (i64.wrap (x.id+1)) else c.next)]).toArray z sz29 z z z (show 2<4 by decide) z z<|u'<|J'<|g'<|sr<|yy (o' 5 at' z z z) z<|s' 4 z aV' z z z z z (List.all_eq_true.1 z)<|nx<|j' ?_
   obtain rfl:_=r:=hr
   exact k' z (aa' (i:=4) at' z z z) ⟨_,_,_,_,_,_,z,(m.mono (mt y S)),(g.mono (mt y S)),aF⟩
  refine A'<|yy (aY' z) z<|yy (f' 2 br' z z z) z<|yy (o' 6 bM' z z z) z ?_
  obtain⟨bn,az,hr⟩:=hr
  refine P' z z (t' E103 z) (ec' az) z (⟨(g.mono y),P⟩) (fun bE bP T X=>?_)
  obtain⟨aN,a2,rfl,a3⟩:=X
  refine yy (aY' z) z<|aC' 5 ([.slice e c.vars.length d,.slice aN bn.length a2,.slice k c.neqs.length h,i' (if c.next<(i64.wrap (x.id+1)) then (i64.wrap (x.id+1)) else c.next)]).toArray z sz29 z z z (show 1<4 by decide) z z<|u'<|J'<|g'<|sr<|yy (o' 5 at' z z z) z<|s' 4 z aV' z z z z z (List.all_eq_true.1 z)<|nx<|j' ?_
  obtain rfl:_=r:=hr
  exact k' z (aa' (i:=4) at' z z z) ⟨_,_,_,_,_,_,z,(m.mono (mt y T)),a3,(f.mono (mt y T))⟩
 refine sr<|yy (au' z z) z<|sx0 z z<|L' hr z (fun ba hr=>?_) (fun ba hr=>?_)
 .refine sr<|yy (aY' z) z<|yy (f' 2 br' z z z) z<|yy (aS' z) z<|yy (f' 3 sc3 z z z) z ?_
  obtain⟨ax,aS,hr⟩:=hr
  refine P' z z (t' E104 z) (eG' aS) z (g) (fun bu bH U aa=>?_)
  obtain⟨ah,ag,rfl,aK⟩:=aa
  refine yy (aY' z) z<|aC' 5 ([.slice e c.vars.length d,.slice ah ax.length ag,.slice k c.neqs.length h,i' c.next]).toArray z sz29 z z z (show 1<4 by decide) z z<|nx<|A'<|yy (ba' z) z<|yy (f' 2 br' z z z) z<|yy (aS' z) z<|yy (f' 3 sc3 z z z) z ?_
  obtain⟨bb,aX,hr⟩:=hr
  refine P' z z (t' E104 z) (eG' aX) z ((f.mono U)) (fun bB bI M Z=>?_)
  obtain⟨aE,aZ,rfl,a0⟩:=Z
  refine yy (ba' z) z<|aC' 5 ([.slice e c.vars.length d,.slice ah ax.length ag,.slice aE bb.length aZ,i' c.next]).toArray z sz29 z z z (show 2<4 by decide) z z<|u'<|J'<|g'<|sr<|yy (o' 5 at' z z z) z<|s' 4 z aV' z z z z z (List.all_eq_true.1 z)<|nx<|j' ?_
  obtain rfl:_=r:=hr
  exact k' z (aa' (i:=4) at' z z z) ⟨_,_,_,_,_,_,z,(m.mono (mt U M)),(aK.mono M),a0⟩
 refine sr<|yy (au' z z) z<|sx0 z z<|L' hr z (fun bf hr=>?_) (fun bf hr=>?_)
 .refine sr<|mv z z<|yy (bf' z z) z<|nx<|L' hr z (fun bi hr=>?_) (fun bi hr=>?_)
  .refine A'<|yy (aY' z) z<|yy (f' 2 br' z z z) z<|yy (o' 6 bM' z z z) z ?_
   obtain⟨a5,aO,hr⟩:=hr
   refine P' z z (t' E103 z) (ec' aO) z (⟨g,C⟩) (fun bx bJ R ab=>?_)
   obtain⟨ay,a1,rfl,aM⟩:=ab
   refine yy (aY' z) z<|aC' 5 ([.slice e c.vars.length d,.slice ay a5.length a1,.slice k c.neqs.length h,i' c.next]).toArray z sz29 z z z (show 1<4 by decide) z z<|u'<|J'<|g'<|sr<|yy (o' 5 at' z z z) z<|s' 4 z aV' z z z z z (List.all_eq_true.1 z)<|nx<|j' ?_
   obtain rfl:_=r:=hr
   exact k' z (aa' (i:=4) at' z z z) ⟨_,_,_,_,_,_,z,(m.mono R),aM,(f.mono R)⟩
  refine A'<|yy (ba' z) z<|yy (f' 2 br' z z z) z<|yy (o' 6 bM' z z z) z ?_
  obtain⟨bd,aI,hr⟩:=hr
  refine P' z z (t' E103 z) (ec' aI) z (⟨f,C⟩) (fun bt bQ O W=>?_)
  obtain⟨aG,aY,rfl,aA⟩:=W
  refine yy (ba' z) z<|aC' 5 ([.slice e c.vars.length d,.slice o c.eqs.length n,.slice aG bd.length aY,i' c.next]).toArray z sz29 z z z (show 2<4 by decide) z z<|u'<|J'<|g'<|sr<|yy (o' 5 at' z z z) z<|s' 4 z aV' z z z z z (List.all_eq_true.1 z)<|nx<|j' ?_
  obtain rfl:_=r:=hr
  exact k' z (aa' (i:=4) at' z z z) ⟨_,_,_,_,_,_,z,(m.mono O),(g.mono O),aA⟩
 refine sr<|yy (au' z z) z<|sx0 z z<|L' hr z (fun a7 hr=>?_) (fun a7 hr=>?_)
 .refine sr<|yy (aY' z) z<|yy (f' 2 br' z z z) z<|yy (aS' z) z<|yy (f' 3 sc3 z z z) z ?_
  obtain⟨af,aB,hr⟩:=hr
  refine P' z z (t' E104 z) (eG' aB) z (g) (fun bA bG t Y=>?_)
  obtain⟨K,J,rfl,aL⟩:=Y
  refine yy (aY' z) z<|aC' 5 ([.slice e c.vars.length d,.slice K af.length J,.slice k c.neqs.length h,i' c.next]).toArray z sz29 z z z (show 1<4 by decide) z z<|nr<|yy (ba' z) z<|yy (f' 2 br' z z z) z<|yy (aS' z) z<|yy (f' 3 sc3 z z z) z ?_
  obtain⟨ad,an,hr⟩:=hr
  refine P' z z (t' E104 z) (eG' an) z ((f.mono t)) (fun bp bN u I=>?_)
  obtain⟨V,Q,rfl,au⟩:=I
  refine yy (ba' z) z<|aC' 5 ([.slice e c.vars.length d,.slice K af.length J,.slice V ad.length Q,i' c.next]).toArray z sz29 z z z (show 2<4 by decide) z z<|nr<|mv z z<|yy (bf' z z) z<|nx<|L' hr z (fun bl hr=>?_) (fun bl hr=>?_)
  .refine ah' [ff,ff,ff,ff,ff,ff,ff] mix (by kernel_rfl) fun hb=>cn (fun _ l=>ba' z)<|cn (fun _ l=>f' 2 br' z z z)<|cn (fun _ l=>aY' z)<|cn (fun _ l=>f' 2 br' z z z)<|cn (fun _ l=>e' z) ?_
   obtain⟨x1,aw,hr⟩:=hr
   refine cn (fun _ l=>T' w' aT' ((g.mono (mt t u)).mono l) z z aw) ?_
   obtain⟨br,bD,a8,aT⟩:=bq' (I' (ae' g aw) (mt t u))
   refine cn (fun _ l=>aA' _ bM' z z (fun j v hv=>l _ _ _ (a8 j v hv)))<|R' hb ?_
   obtain⟨aP,aj,hr⟩:=hr
   refine P' z z (t' E103 z) (ec' aj) z (⟨(f.mono (mt t u)),aT⟩) (fun bo bF F L=>?_)
   obtain⟨am,ap,rfl,ao⟩:=L
   refine yy (ba' z) z<|aC' 5 ([.slice e c.vars.length d,.slice K af.length J,.slice am aP.length ap,i' c.next]).toArray z sz29 z z z (show 2<4 by decide) z z<|u'<|aq'<|J'<|g'<|sr<|yy (o' 5 at' z z z) z<|s' 4 z aV' z z z z z (List.all_eq_true.1 z)<|nx<|j' ?_
   obtain rfl:_=r:=hr
   exact k' z (aa' (i:=4) at' z z z) ⟨_,_,_,_,_,_,z,(m.mono (mt (mt t u) F)),(aL.mono (mt u F)),ao⟩
  refine ah' [ff,ff,ff,ff,ff,ff,ff] mix (by kernel_rfl) fun hb=>cn (fun _ l=>aY' z)<|cn (fun _ l=>f' 2 br' z z z)<|cn (fun _ l=>ba' z)<|cn (fun _ l=>f' 2 br' z z z)<|cn (fun _ l=>e' z) ?_
  obtain⟨x2,av,hr⟩:=hr
  refine cn (fun _ l=>T' w' aT' ((f.mono (mt t u)).mono l) z z av) ?_
  obtain⟨bw,bz,bk,aH⟩:=bq' (I' (ae' f av) (mt t u))
  refine cn (fun _ l=>aA' _ bM' z z (fun j v hv=>l _ _ _ (bk j v hv)))<|R' hb ?_
  obtain⟨aV,ar,hr⟩:=hr
  refine P' z z (t' E103 z) (ec' ar) z (⟨(g.mono (mt t u)),aH⟩) (fun bq bv E H=>?_)
  obtain⟨ak,al,rfl,ai⟩:=H
  refine yy (aY' z) z<|aC' 5 ([.slice e c.vars.length d,.slice ak aV.length al,.slice V ad.length Q,i' c.next]).toArray z sz29 z z z (show 1<4 by decide) z z<|u'<|aq'<|J'<|g'<|sr<|yy (o' 5 at' z z z) z<|s' 4 z aV' z z z z z (List.all_eq_true.1 z)<|nx<|j' ?_
  obtain rfl:_=r:=hr
  exact k' z (aa' (i:=4) at' z z z) ⟨_,_,_,_,_,_,z,(m.mono (mt (mt t u) E)),ai,(au.mono E)⟩
 refine q'<|J'<|g'<|sr<|yy (o' 5 at' z z z) z<|s' 4 z aV' z z z z z (List.all_eq_true.1 z)<|nx<|j' ?_
 obtain rfl:_=r:=hr
 exact k' z (aa' (i:=4) at' z z z) ⟨_,_,_,_,_,_,z,m,g,f⟩
end Go.Proofs.YtnjiloaolgjedaaGreat

