/- The law EditVariables holds for every input: a part of its proof (what the code does, plain models, and what they return). No condition. -/
import Derived.Test.YtenaadodnembpaaGreatXV13f
import Derived.Test.YtenaadodnembpaaGreatXV13d
set_option linter.unusedVariables false
set_option linter.unusedSimpArgs false
namespace Go.Proofs.YtenaadodnembpaaGreat
open Go Go.EL Go.RowKit Go.Proofs
theorem gM'{a1 a1nummagp a1nummagc a1denmagp a1denmagc r}(hr:(ZeL a1).Ret r):Ctr Tryz.prog 158 #[.agg ([.bool a1.num.neg,.slice a1nummagp a1.num.mag.length a1nummagc,.bool a1.den.neg,.slice a1denmagp a1.den.mag.length a1denmagc]).toArray] (fun G=>sl (Rp.int .u32) G a1nummagp a1nummagc a1.num.mag∧sl (Rp.int .u32) G a1denmagp a1denmagc a1.den.mag) (fun G v=>v = .bool r):=by
 refine C' (args:=[_]) (N:=27) Tryz.func158 z z z (fun K o Q q=>?_)
 obtain⟨d,c⟩:=q
 refine sr<|W' 1 z z z fun D=>sg z z<|nx<|aV' (fun (k:Mem)=>match k with|e=>[(1,.pointer (some ⟨D,0,none⟩))]) (fun (k:Mem)=>match k with|e=>Mem.le o e∧(ZgC a1).Ret r) (fun (k:Mem)=>match k with|e=>St K o e [(1,some ⟨D,.cells ([.bool a1.num.neg,.slice a1nummagp a1.num.mag.length a1nummagc,.bool a1.den.neg,.slice a1denmagp a1.den.mag.length a1denmagc]).toArray 60 (0,0),0⟩)]) ?_ ?_
 ·skip
  refine sr<|yy (cp' z) z<|yy (av' ((v58' a1.num a1nummagp a1nummagc)).toArray 1 bl' z z z (aN' ([]) ((v58' a1.num a1nummagp a1nummagc)) ((v58' a1.den a1denmagp a1denmagc)))) z ?_
  obtain⟨F,m,hr⟩:=hr
  refine H' z z (t' E183 z) (fH' m) z (d) ?_
  cases F
  ·skip
   refine yy (an' z) z<|mv z z<|sf z z z<|sf z z z<|sf z z z<|sf z z z<|yy (o' z z) z<|mv z z<|sf z z z<|sf z z z<|sf z z z<|sf z z z<|yy (o' z z) z<|nx<|at' z<|sr<|sg z z<|nx<|j' ?_
   replace hr:_=r:=hr
   refine g' ?_
   subst hr
   exact k' z z z
  ·skip
   refine yy (an' z) z<|mv z z<|gy z z (ce' z) z<|gy z z (av' ((v58' a1.den a1denmagp a1denmagc)).toArray 1 bl' z z z (aN' ((v58' a1.num a1nummagp a1nummagc)) ((v58' a1.den a1denmagp a1denmagc)) ([]))) z ?_
   obtain⟨E,u,hr⟩:=hr
   refine H' (F' z z) z (t' E183 z) (fH' u) z (c) ?_
   cases E
   ·skip
    refine gy z z (an' z) z<|yy (l' z z) z<|mv z z<|sf z z z<|sf z z z<|sf z z z<|sf z z z<|yy (o' z z) z<|nx<|at' z<|sr<|sg z z<|nx<|j' ?_
    replace hr:_=r:=hr
    refine g' ?_
    subst hr
    exact k' z z z
   ·skip
    refine gy z z (an' z) z<|yy (l' z z) z<|mv z z<|gy z z (ce' z) z<|gy z z (av' ((v58' a1.den a1denmagp a1denmagc)).toArray 1 bl' z z z (aN' ((v58' a1.num a1nummagp a1nummagc)) ((v58' a1.den a1denmagp a1denmagc)) ([]))) z ?_
    obtain⟨S,p,hr⟩:=hr
    refine H' (F' z z) z (t' E138 z) (eR' p) z (c)<|gy z z (V' z z) z<|yy (l' z z) z<|nx<|I' hr z (fun C hr=>?_) (fun C hr=>?_)
    ·exact (show False from hr).elim
    ·refine n'<|ar' o ⟨mr,hr⟩ (fc z fn) (wk (lc z ln))
 ·rintro e ⟨f,hr⟩
  refine sr<|yy (cp' z) z<|yy (av' ((v58' a1.num a1nummagp a1nummagc)).toArray 1 bl' z z z (aN' ([]) ((v58' a1.num a1nummagp a1nummagc)) ((v58' a1.den a1denmagp a1denmagc)))) z<|yy (ce' z) z<|yy (av' ((v58' a1.den a1denmagp a1denmagc)).toArray 1 bl' z z z (aN' ((v58' a1.num a1nummagp a1nummagc)) ((v58' a1.den a1denmagp a1denmagc)) ([]))) z ?_
  obtain⟨L,n,hr⟩:=hr
  refine M' z z (t' E162 z) (gm' n) z (⟨(d.mono f),(c.mono f)⟩) (fun I R H h=>?_)
  obtain⟨B,A,rfl,g⟩:=h
  obtain⟨O,t,hr⟩:=hr
  refine M' z z (t' E82 z) (fL' t) z (trivial) (fun J M l j=>?_)
  obtain⟨y,x,rfl,i⟩:=j
  obtain⟨P,s,hr⟩:=hr
  refine H' z z (t' E184 z) (hc' s) z (⟨(g.mono l),i⟩)<|yy (ak' z z) z<|sg z z<|nx<|j' ?_
  obtain rfl:_=r:=hr
  exact k' z z z
theorem fI'{p1 p1p p1c r}(hr:(ZeP p1).Ret r):Ctr Tryz.prog 125 #[.slice p1p p1.length p1c] (fun G=>sl r' G p1p p1c p1) (fun G v=>v = .bool r):=by
 refine C' (args:=[_]) (N:=52) Tryz.func125 z z z (fun L q ag M=>?_)
 have e:=M
 refine sr<|sg z z<|nx<|h'<|sr<|sg z z<|nx<|ab' (fun (h:Mem)=>match h with|k=>[]) (fun (h:Mem)=>match h with|k=>Mem.le q k∧(Zek).Ret r) (fun (h:Mem)=>match h with|k=>St L q k []) ?_ ?_
 ·refine A' ?_
  let p:(Bool⊕Unit)→Prop:=fun oo=>((fun ov=>match ov with | .inl rv1=>Comp.ret rv1 | .inr ()=>Zek:(Bool⊕Unit)→Comp Bool) oo).wp (fun a=>a=r)
  replace hr:(Comp.loop _ _).wp p:=hr
  refine ac' (Φ:=p) (fun (⟨j,g⟩:Int×Mem)=>(j:Int)) (fun ⟨j,g⟩=>[(0,.slice p1p p1.length p1c),(3,i' j)]) (fun ⟨j,g⟩=>Mem.le q g) (fun ⟨j,g⟩=>St L q g []) ⟨0,q⟩ hr (fc z (fc z fn)) mr (wk ln) ?_
  ·intro W h hx hr
   obtain⟨j,g⟩:=h
   have c:=hx
   refine h'<|sr<|mv z z<|mv z z<|yy (L' R' (e.mono c) z) z<|yy (V' z z) z<|nx<|I' hr z (fun R hr=>?_) (fun R hr=>?_)
   ·refine n'<|b'<|h'<|A'<|aV' (fun (h:Mem)=>match h with|i=>[(0,.slice p1p p1.length p1c),(3,i' j)]) (fun (h:Mem)=>match h with|i=>Mem.le g i∧(Zcu p1 j).wp (Out W p)) (fun (h:Mem)=>match h with|i=>St L q i []) ?_ ?_
    ·skip
     refine sr<|mv z z<|mv z z ?_
     obtain⟨x3,C,hr⟩:=hr
     refine yy (P' R' bC' (e.mono c) z z C) z<|yy (cg' z) z ?_
     obtain⟨E,y,D,s,X,o,l⟩:=db' (E' (bb' (aA' (X' e C))) c)
     refine yy (ax' _ bS' z z X) z ?_
     obtain⟨Z,P,hr⟩:=hr
     refine H' z z (t' E158 z) (gM' P) z (⟨o,l⟩) ?_
     cases Z
     ·skip
      refine yy (an' z) z<|mv z z<|sf z z z<|sf z z z<|sf z z z<|sf z z z<|sf z z z<|sf z z z<|sf z z z<|yy (o' z z) z<|mv z z<|sf z z z<|sf z z z<|sf z z z<|sf z z z<|sf z z z<|sf z z z<|sf z z z<|yy (o' z z) z<|nx<|at' z<|sr<|sg z z<|nx<|j' ?_
      replace hr:_=r:=hr
      refine g'<|x'<|g'<|g'<|x'<|aH'<|g' ?_
      subst hr
      exact k' z z z
     ·skip
      refine yy (an' z) z<|mv z z<|gy z z (f' z) z<|gy z z (f' z) z ?_
      obtain⟨x4,t,hr⟩:=hr
      refine gy z z (P' R' bC' (e.mono c) z z t) z<|gy z z (cg' z) z ?_
      obtain⟨u,F,I,x,Y,n,m⟩:=db' (E' (bb' (aA' (X' e t))) c)
      refine gy z z (ax' _ bS' z z Y) z ?_
      obtain⟨af,O,hr⟩:=hr
      refine H' (F' z z) z (t' E91 z) (eB' O) z (⟨n,m⟩)<|aj' hr (F' z z) (ak' z z) z (fun U hr=>?_) (fun U hr=>?_)
      ·refine yy (l' z z) z<|mv z z<|sf z z z<|sf z z z<|sf z z z<|sf z z z<|sf z z z<|sf z z z<|sf z z z<|yy (o' z z) z<|nx<|at' z<|sr<|sg z z<|nx<|j' ?_
       replace hr:_=r:=hr
       refine g'<|x'<|g'<|g'<|x'<|aH'<|g' ?_
       subst hr
       exact k' z z z
      ·refine yy (l' z z) z<|mv z z<|gy z z (f' z) z<|gy z z (f' z) z ?_
       obtain⟨x5,H,hr⟩:=hr
       refine gy z z (P' R' bC' (e.mono c) z z H) z<|gy z z (bn' z) z<|gy z z (ax' _ ca' z (Q' _ _ _) (cZ' (E' (aJ' (aA' (X' e H))) c))) z ?_
       obtain⟨ah,J,hr⟩:=hr
       refine H' (F' z z) z (t' E159 z) (fA' J) z (trivial)<|gy z z (an' z) z<|yy (l' z z) z<|nx<|aM' hr z (fun T hr=>?_) (fun T hr=>?_)
       ·exact (show False from hr).elim
       ·refine n'<|ar' g ⟨mr,hr⟩ (fc z (fc z fn)) (wk ln)
    ·rintro i ⟨f,hr⟩
     refine h'<|Z' [false,false,false,false,false,false,false,false,false,false,false,false,false,false] mix (by kernel_rfl) fun Q=>cn (fun _ d=>f' z)<|bY' hr z (fun _ d=>bt' z z) (fun S hr=>?_) (fun S hr=>?_)
     ·refine cn (fun _ d=>f' z)<|cy z z (fun _ d=>f' z)<|cy z z (fun _ d=>f' z)<|cy z z (fun _ d=>bf' z z) ?_
      obtain⟨x1,A,hr⟩:=hr
      refine cy z z (fun _ d=>P' R' bC' ((e.mono (mt c f)).mono d) z z A)<|cy z z (fun _ d=>bn' z)<|cy z z (fun _ d=>ax' _ ca' z (Q' _ _ _) (cZ' (E' (E' (aJ' (aA' (X' e A))) (mt c f)) d)))<|cy z z (fun _ d=>f' z)<|cy z z (fun _ d=>f' z) ?_
      obtain⟨x2,B,hr⟩:=hr
      refine cy z z (fun _ d=>P' R' bC' ((e.mono (mt c f)).mono d) z z B)<|cy z z (fun _ d=>bn' z)<|cy z z (fun _ d=>ax' _ ca' z (Q' _ _ _) (cZ' (E' (E' (aJ' (aA' (X' e B))) (mt c f)) d)))<|Y' Q ?_
      obtain⟨ae,K,hr⟩:=hr
      refine H' (F' z z) z (t' E90 z) (fj' K) z (trivial)<|gy z z (bD' z z) z<|yy (o' z z) z<|u'<|am'<|b'<|I' hr z (fun V hr=>?_) (fun V hr=>?_)
      ·exact (show False from hr).elim
      ·refine n'<|D'<|b'<|w'<|mv z z<|yy (N' z z) z<|sg z z<|u'<|O' ⟨IntKind.i64.wrap (j+1),i⟩ hr (mt c f) (fc z (fc z fn)) (wk ln)
     ·refine cn (fun _ d=>f' z)<|ct z z<|ct z z<|ct z z<|ct z z<|ct z z<|ct z z<|ct z z<|ct z z<|ct z z<|ct z z<|ct z z<|Y' Q<|sk z z z<|sk z z z<|yy (l' z z) z<|u'<|am'<|b'<|bh' z<|n'<|D'<|b'<|w'<|mv z z<|yy (N' z z) z<|sg z z<|u'<|O' ⟨IntKind.i64.wrap (j+1),i⟩ hr (mt c f) (fc z (fc z fn)) (wk ln)
   ·refine ae'<|m'<|m'<|J'<|af' g ⟨c,hr⟩ fn (wk ln)
 ·rintro k ⟨aa,hr⟩
  refine b'<|sr<|sg z z<|nx<|j' ?_
  obtain rfl:_=r:=hr
  exact k' z z z
theorem gF'{m1 r}(hr:(ZfV m1).Ret r):Ctr Tryz.prog 160 #[.agg (vecG (Value.int .i64) 8 m1).toArray] (fun G=>True) (fun G v=>v=i' r):=by
 refine C' (args:=[_]) (N:=15) Tryz.func160 z z z fun n j y p=>sr<|W' 1 z z z fun m=>sg z z<|nr<|sg z z<|nx<|h'<|sr<|sg z z<|nx<|ab' (fun (⟨g,d⟩:Int×Mem)=>[(3,i' g)]) (fun ⟨g,d⟩=>Mem.le j d∧(ZdH g).Ret r) (fun ⟨g,d⟩=>St n j d []) ?_ ?_
 ·refine A' ?_
  let i:Int→Prop:=fun q=>((fun u=>match u with|g=>ZdH g:Int→Comp Int) q).wp (fun a=>a=r)
  replace hr:(Comp.loop _ _).wp i:=hr
  refine ac' (Φ:=i) (fun (⟨e,f,c⟩:Int×Int×Mem)=>((e,f):Int×Int)) (fun ⟨e,f,c⟩=>[(1,.pointer (some ⟨m,0,none⟩)),(3,i' e),(4,i' f)]) (fun ⟨e,f,c⟩=>Mem.le j c) (fun ⟨e,f,c⟩=>St n j c [(1,some ⟨m,.cells (vecG (Value.int .i64) 8 m1).toArray 99 (0,0),0⟩)]) ⟨0,0,j⟩ hr (fc z (fc z (fc z fn))) mr (wk (lc z ln)) ?_
  ·intro x s t hr
   obtain⟨e,f,c⟩:=s
   have h:=t
   refine h'<|sr<|mv z z<|yy (V' z z) z<|nx<|I' hr z (fun l hr=>?_) (fun l hr=>?_)
   ·refine n'<|b'<|h'<|A'<|w'<|mv z z<|mv z z ?_
    obtain⟨k,hr⟩:=hr
    refine yy (aX' aG' sz3 z z k) z<|yy (e' 1 sc3 z z (bA' _ _ _ k)) z<|yy (N' z z) z<|sg z z<|u'<|D'<|b'<|w'<|mv z z<|yy (N' z z) z<|sg z z<|u'<|O' ⟨IntKind.i64.wrap (e+(getF m1 f)),IntKind.i64.wrap (f+1),c⟩ hr h (fc z (fc z (fc z fn))) (wk (lc z ln))
   ·refine ae'<|m'<|m'<|J'<|af' ⟨e,c⟩ ⟨h,hr⟩ (fc z fn) (wk ln)
 ·rintro⟨g,d⟩ ⟨o,hr⟩
  refine b'<|sr<|mv z z<|sg z z<|nx<|j' ?_
  obtain rfl:_=r:=hr
  exact k' z z z
theorem fr'{p1 p1p p1c r}(hr:(ZdV p1).Ret r):Ctr Tryz.prog 126 #[.slice p1p p1.length p1c] (fun G=>sl r' G p1p p1c p1) (fun G v=>v=i' r):=by
 refine C' (args:=[_]) (N:=20) Tryz.func126 z z z (fun q j B o=>?_)
 have k:=o
 refine sr<|sg z z<|nr<|sg z z<|nx<|h'<|sr<|sg z z<|nx<|ab' (fun (⟨h,f⟩:Int×Mem)=>[(3,i' h)]) (fun ⟨h,f⟩=>Mem.le j f∧(ZdI h).Ret r) (fun ⟨h,f⟩=>St q j f []) ?_ ?_
 ·refine A' ?_
  let i:Int→Prop:=fun t=>((fun y=>match y with|h=>ZdI h:Int→Comp Int) t).wp (fun a=>a=r)
  replace hr:(Comp.loop _ _).wp i:=hr
  refine ac' (Φ:=i) (fun (⟨e,g,d⟩:Int×Int×Mem)=>((e,g):Int×Int)) (fun ⟨e,g,d⟩=>[(0,.slice p1p p1.length p1c),(3,i' e),(4,i' g)]) (fun ⟨e,g,d⟩=>Mem.le j d) (fun ⟨e,g,d⟩=>St q j d []) ⟨(-1),0,j⟩ hr (fc z (fc z (fc z fn))) mr (wk ln) ?_
  ·intro A u x hr
   obtain⟨e,g,d⟩:=u
   have c:=x
   refine h'<|sr<|mv z z<|mv z z<|yy (L' R' (k.mono c) z) z<|yy (V' z z) z<|nx<|I' hr z (fun p hr=>?_) (fun p hr=>?_)
   ·refine n'<|b'<|h'<|A'<|w'<|mv z z<|mv z z<|mv z z ?_
    obtain⟨C,m,hr⟩:=hr
    refine yy (P' R' bC' (k.mono c) z z m) z<|yy (bn' z) z<|yy (ax' _ ca' z (Q' _ _ _) (cZ' (E' (aJ' (aA' (X' k m))) c))) z ?_
    obtain⟨l,n,hr⟩:=hr
    refine H' z z (t' E160 z) (gF' n) z (trivial)<|yy (Y0.max2 z z) z<|sg z z<|u'<|D'<|b'<|w'<|mv z z<|yy (N' z z) z<|sg z z<|u'<|O' ⟨if e<l then l else e,IntKind.i64.wrap (g+1),d⟩ hr c (fc z (fc z (fc z fn))) (wk ln)
   ·refine ae'<|m'<|m'<|J'<|af' ⟨e,d⟩ ⟨c,hr⟩ (fc z fn) (wk ln)
 ·rintro⟨h,f⟩ ⟨s,hr⟩
  refine b'<|sr<|mv z z<|sg z z<|nx<|j' ?_
  obtain rfl:_=r:=hr
  exact k' z z z
theorem gb'{p1 n1 p1p p1c r}(hr:(Zf3 p1 n1).Ret r):Ctr Tryz.prog 123 #[.slice p1p p1.length p1c,i' n1] (fun G=>sl r' G p1p p1c p1) (fun G v=>v = .bool r):=by
 refine C' (args:=[_,_]) (N:=20) Tryz.func123 z z z (fun o n k d=>?_)
 have c:=d
 refine sr<|sg z z<|nr<|mv z z ?_
 obtain⟨h,g,hr⟩:=hr
 refine H' z z (t' E125 z) (fI' g) z (c) ?_
 cases h
 ·skip
  refine mv z z<|sk z z z<|sk z z z<|sk z z z<|sk z z z<|sk z z z<|sk z z z<|yy (l' z z) z<|mv z z<|sk z z z<|sk z z z<|sk z z z<|yy (l' z z) z<|sg z z<|nx<|j' ?_
  obtain rfl:_=r:=hr
  exact k' z z z
 ·skip
  refine mv z z<|gy z z (f' z) z ?_
  obtain⟨m,f,hr⟩:=hr
  refine H' (F' z z) z (t' E121 z) (eD' f) z (c)<|gy z z (aD' aT' au' z) z<|gy z z (f' z) z ?_
  obtain⟨j,hr⟩:=hr
  refine gy z z (Y0.shr z z j) z<|aj' hr (F' z z) (ak' z z) z (fun i hr=>?_) (fun i hr=>?_)
  ·refine yy (o' z z) z<|mv z z<|gy z z (f' z) z ?_
   obtain⟨l,e,hr⟩:=hr
   refine H' (F' z z) z (t' E126 z) (fr' e) z (c)<|gy z z (bD' z z) z<|yy (o' z z) z<|sg z z<|nx<|j' ?_
   obtain rfl:_=r:=hr
   exact k' z z z
  ·refine yy (o' z z) z<|mv z z<|sk z z z<|sk z z z<|sk z z z<|yy (l' z z) z<|sg z z<|nx<|j' ?_
   obtain rfl:_=r:=hr
   exact k' z z z
theorem gl'{s1 ev1 s1varsp s1varsc s1eqsp s1eqsc s1neqsp s1neqsc ev1pp ev1pc r}(hr:(Zcz s1 ev1).Ret r):Ctr Tryz.prog 75 #[.agg ((v33' s1 s1varsp s1varsc s1eqsp s1eqsc s1neqsp s1neqsc)).toArray,.agg ([i' ev1.kind,.string ev1.name,i' ev1.at',i' ev1.to',i' ev1.id,.slice ev1pp ev1.p.length ev1pc,.bool ev1.neq]).toArray] (fun G=>sl Rp.str G s1varsp s1varsc s1.vars∧sl a' G s1eqsp s1eqsc s1.eqs∧sl a' G s1neqsp s1neqsc s1.neqs∧sl r' G ev1pp ev1pc ev1.p) (fun G v=>v=i' r):=by
 refine C' (args:=[_,_]) (N:=60) Tryz.func75 z z z (fun K k S s=>?_)
 obtain⟨g,i,e,n⟩:=s
 refine sr<|W' 2 z z z fun m=>W' 3 z z z fun l=>sg z z<|nx<|aV' (fun (f:Mem)=>match f with|c=>[(2,.pointer (some ⟨m,0,none⟩)),(3,.pointer (some ⟨l,0,none⟩))]) (fun (f:Mem)=>match f with|c=>Mem.le k c∧(ZaP s1 ev1).Ret r) (fun (f:Mem)=>match f with|c=>St K k c [(2,some ⟨m,.cells ((v33' s1 s1varsp s1varsc s1eqsp s1eqsc s1neqsp s1neqsc)).toArray 33 (0,0),0⟩),(3,some ⟨l,.cells ([i' ev1.kind,.string ev1.name,i' ev1.at',i' ev1.to',i' ev1.id,.slice ev1pp ev1.p.length ev1pc,.bool ev1.neq]).toArray 40 (0,0),0⟩)]) ?_ ?_
 ·skip
  refine sr<|yy (aL' z) z<|yy (e' 3 sc3 z z z) z<|aj' hr z (V' z z) z (fun x hr=>?_) (fun x hr=>?_)
  ·refine mv z z<|sf z z z<|sf z z z<|sf z z z<|yy (o' z z) z<|mv z z<|sf z z z<|sf z z z<|sf z z z<|sf z z z<|aF' (ai' z z) z<|aF' (ai' z z) z<|aF' (ai' z z) z<|aF' (ai' z z) z<|sf z z z<|yy (o' z z) z<|nx<|at' z<|sr<|sg z z<|nx<|j' ?_
   replace hr:_=r:=hr
   refine g' ?_
   subst hr
   exact k' z z z
  ·refine mv z z<|gy z z (aL' z) z<|gy z z (e' 3 sc3 z z z) z<|aj' hr (F' z z) (bt' z z) z (fun u hr=>?_) (fun u hr=>?_)
   ·refine yy (l' z z) z<|mv z z<|sf z z z<|sf z z z<|sf z z z<|sf z z z<|aF' (ai' z z) z<|aF' (ai' z z) z<|aF' (ai' z z) z<|aF' (ai' z z) z<|sf z z z<|yy (o' z z) z<|nx<|at' z<|sr<|sg z z<|nx<|j' ?_
    replace hr:_=r:=hr
    refine g' ?_
    subst hr
    exact k' z z z
   ·refine yy (l' z z) z<|mv z z<|gy z z (aL' z) z<|gy z z (e' 3 sc3 z z z) z<|aj' hr (F' z z) (bt' z z) z (fun q hr=>?_) (fun q hr=>?_)
    ·refine gy z z (f' z) z<|gy z z (s' 2 ag' z z z) z<|gy z z (aL' z) z<|gy z z (e' 3 sc3 z z z) z ?_
     obtain⟨T,t,hr⟩:=hr
     refine H' (F' z z) z (t' E122 z) (go' t) z (⟨g,i,e⟩)<|gy z z (o' z z) z<|yy (l' z z) z<|nx<|aM' hr z (fun P hr=>?_) (fun P hr=>?_)
     ·refine sr<|sg z z<|nx<|j' ?_
      replace hr:_=r:=hr
      refine g' ?_
      subst hr
      exact k' z z z
     ·refine n'<|ar' k ⟨mr,hr⟩ (fc z (fc z fn)) (wk (lc z (lc z ln)))
    ·refine gy z z (f' z) z<|sk z z z<|sk z z z<|sk z z z<|sk z z z<|gy z z (l' z z) z<|yy (l' z z) z<|nx<|bh' z<|n'<|ar' k ⟨mr,hr⟩ (fc z (fc z fn)) (wk (lc z (lc z ln)))
 ·rintro c ⟨d,hr⟩
  refine aV' (fun (f:Mem)=>match f with|h=>[(2,.pointer (some ⟨m,0,none⟩)),(3,.pointer (some ⟨l,0,none⟩))]) (fun (f:Mem)=>match f with|h=>Mem.le c h∧(ZJ s1 ev1).Ret r) (fun (f:Mem)=>match f with|h=>St K k h [(2,some ⟨m,.cells ((v33' s1 s1varsp s1varsc s1eqsp s1eqsc s1neqsp s1neqsc)).toArray 33 (0,0),0⟩),(3,some ⟨l,.cells ([i' ev1.kind,.string ev1.name,i' ev1.at',i' ev1.to',i' ev1.id,.slice ev1pp ev1.p.length ev1pc,.bool ev1.neq]).toArray 40 (0,0),0⟩)]) ?_ ?_
  ·skip
   refine sr<|yy (dc' z) z<|aj' hr z (cN' (e' 3 sc4 z z z) (congrArg Value.bool (bdec _))) z (fun D hr=>?_) (fun D hr=>?_)
   ·refine yy (an' z) z<|mv z z<|sk z z z<|sk z z z<|sk z z z<|sk z z z<|yy (l' z z) z<|mv z z<|gy z z (dc' z) z<|aj' hr (F' z z) (cN' (e' 3 sc4 z z z) (congrArg Value.bool (bdec _))) z (fun J hr=>?_) (fun J hr=>?_)
    ·refine gy z z (f' z) z<|gy z z (aK' z) z<|gy z z (e' 2 aS' z z z) z<|gy z z (L' q' (e.mono d) z) z<|aj' hr (F' z z) (be' z z) z (fun Q hr=>?_) (fun Q hr=>?_)
     ·refine gy z z (o' z z) z<|yy (l' z z) z<|mv z z<|sf z z z<|sf z z z<|sf z z z<|sf z z z<|aF' (ai' z z) z<|aF' (ai' z z) z<|aF' (ai' z z) z<|sf z z z<|yy (o' z z) z<|nx<|at' z<|sr<|sg z z<|nx<|j' ?_
      replace hr:_=r:=hr
      refine g' ?_
      subst hr
      exact k' z z z
     ·refine gy z z (o' z z) z<|yy (l' z z) z<|mv z z<|gy z z (aL' z) z<|gy z z (e' 3 sc3 z z z) z<|aj' hr (F' z z) (ak' z z) z (fun O hr=>?_) (fun O hr=>?_)
      ·refine gy z z (f' z) z<|gy z z (bg' z) z<|gy z z (e' 2 sc3 z z z) z<|gy z z (be' z z) z<|gy z z (o' z z) z<|yy (l' z z) z<|nx<|I' hr z (fun L hr=>?_) (fun L hr=>?_)
       ·refine sr<|sg z z<|nx<|j' ?_
        replace hr:_=r:=hr
        refine g' ?_
        subst hr
        exact k' z z z
       ·refine n'<|ar' c ⟨mr,hr⟩ (fc z (fc z fn)) (wk (lc z (lc z ln)))
      ·refine gy z z (f' z) z<|sk z z z<|sk z z z<|sk z z z<|gy z z (l' z z) z<|yy (l' z z) z<|nx<|bh' z<|n'<|ar' c ⟨mr,hr⟩ (fc z (fc z fn)) (wk (lc z (lc z ln)))
    ·refine gy z z (f' z) z<|sk z z z<|sk z z z<|sk z z z<|sk z z z<|gy z z (l' z z) z<|yy (l' z z) z<|mv z z<|gy z z (aL' z) z<|gy z z (e' 3 sc3 z z z) z<|aj' hr (F' z z) (ak' z z) z (fun I hr=>?_) (fun I hr=>?_)
     ·refine gy z z (f' z) z<|gy z z (bg' z) z<|gy z z (e' 2 sc3 z z z) z<|gy z z (be' z z) z<|gy z z (o' z z) z<|yy (l' z z) z<|nx<|I' hr z (fun F hr=>?_) (fun F hr=>?_)
      ·refine sr<|sg z z<|nx<|j' ?_
       replace hr:_=r:=hr
       refine g' ?_
       subst hr
       exact k' z z z
      ·refine n'<|ar' c ⟨mr,hr⟩ (fc z (fc z fn)) (wk (lc z (lc z ln)))
     ·refine gy z z (f' z) z<|sk z z z<|sk z z z<|sk z z z<|gy z z (l' z z) z<|yy (l' z z) z<|nx<|bh' z<|n'<|ar' c ⟨mr,hr⟩ (fc z (fc z fn)) (wk (lc z (lc z ln)))
   ·refine yy (an' z) z<|mv z z<|gy z z (az' z) z<|gy z z (e' 2 aS' z z z) z<|gy z z (L' q' (i.mono d) z) z<|aj' hr (F' z z) (be' z z) z (fun E hr=>?_) (fun E hr=>?_)
    ·refine yy (o' z z) z<|mv z z<|sf z z z<|sf z z z<|sf z z z<|aF' (ai' z z) z<|aF' (ai' z z) z<|aF' (ai' z z) z<|aF' (ai' z z) z<|sf z z z<|yy (o' z z) z<|mv z z<|sf z z z<|sf z z z<|sf z z z<|sf z z z<|aF' (ai' z z) z<|aF' (ai' z z) z<|aF' (ai' z z) z<|sf z z z<|yy (o' z z) z<|nx<|at' z<|sr<|sg z z<|nx<|j' ?_
     replace hr:_=r:=hr
     refine g' ?_
     subst hr
     exact k' z z z
    ·refine yy (o' z z) z<|mv z z<|gy z z (dc' z) z<|aj' hr (F' z z) (cN' (e' 3 sc4 z z z) (congrArg Value.bool (bdec _))) z (fun y hr=>?_) (fun y hr=>?_)
     ·refine gy z z (f' z) z<|gy z z (aK' z) z<|gy z z (e' 2 aS' z z z) z<|gy z z (L' q' (e.mono d) z) z<|aj' hr (F' z z) (be' z z) z (fun H hr=>?_) (fun H hr=>?_)
      ·refine gy z z (o' z z) z<|yy (l' z z) z<|mv z z<|sf z z z<|sf z z z<|sf z z z<|sf z z z<|aF' (ai' z z) z<|aF' (ai' z z) z<|aF' (ai' z z) z<|sf z z z<|yy (o' z z) z<|nx<|at' z<|sr<|sg z z<|nx<|j' ?_
       replace hr:_=r:=hr
       refine g' ?_
       subst hr
       exact k' z z z
      ·refine gy z z (o' z z) z<|yy (l' z z) z<|mv z z<|gy z z (aL' z) z<|gy z z (e' 3 sc3 z z z) z<|aj' hr (F' z z) (ak' z z) z (fun B hr=>?_) (fun B hr=>?_)
       ·refine gy z z (f' z) z<|gy z z (bg' z) z<|gy z z (e' 2 sc3 z z z) z<|gy z z (be' z z) z<|gy z z (o' z z) z<|yy (l' z z) z<|nx<|I' hr z (fun A hr=>?_) (fun A hr=>?_)
        ·refine sr<|sg z z<|nx<|j' ?_
         replace hr:_=r:=hr
         refine g' ?_
         subst hr
         exact k' z z z
        ·refine n'<|ar' c ⟨mr,hr⟩ (fc z (fc z fn)) (wk (lc z (lc z ln)))
       ·refine gy z z (f' z) z<|sk z z z<|sk z z z<|sk z z z<|gy z z (l' z z) z<|yy (l' z z) z<|nx<|bh' z<|n'<|ar' c ⟨mr,hr⟩ (fc z (fc z fn)) (wk (lc z (lc z ln)))
     ·refine gy z z (f' z) z<|sk z z z<|sk z z z<|sk z z z<|sk z z z<|gy z z (l' z z) z<|yy (l' z z) z<|mv z z<|gy z z (aL' z) z<|gy z z (e' 3 sc3 z z z) z<|aj' hr (F' z z) (ak' z z) z (fun o hr=>?_) (fun o hr=>?_)
      ·refine gy z z (f' z) z<|gy z z (bg' z) z<|gy z z (e' 2 sc3 z z z) z<|gy z z (be' z z) z<|gy z z (o' z z) z<|yy (l' z z) z<|nx<|I' hr z (fun M hr=>?_) (fun M hr=>?_)
       ·refine sr<|sg z z<|nx<|j' ?_
        replace hr:_=r:=hr
        refine g' ?_
        subst hr
        exact k' z z z
       ·refine n'<|ar' c ⟨mr,hr⟩ (fc z (fc z fn)) (wk (lc z (lc z ln)))
      ·refine gy z z (f' z) z<|sk z z z<|sk z z z<|sk z z z<|gy z z (l' z z) z<|yy (l' z z) z<|nx<|bh' z<|n'<|ar' c ⟨mr,hr⟩ (fc z (fc z fn)) (wk (lc z (lc z ln)))
  ·rintro h ⟨j,hr⟩
   refine h'<|sr<|yy (cI' z) z<|yy (e' 3 bP' z z z) z<|yy (as' z) z<|yy (e' 2 bo' z z z) z<|yy (L' y' (g.mono (mt d j)) z) z ?_
   obtain⟨R,p,hr⟩:=hr
   refine H' z z (t' E123 z) (gb' p) z ((n.mono (mt d j)))<|yy (an' z) z<|nx<|aM' hr z (fun C hr=>?_) (fun C hr=>?_)
   ·refine sr<|sg z z<|nx<|j' ?_
    replace hr:_=r:=hr
    refine g' ?_
    subst hr
    exact k' z z z
   ·refine n'<|b'<|sr<|sg z z<|nx<|j' ?_
    obtain rfl:_=r:=hr
    exact k' z z z
theorem ew'{s1 ev1 s1varsp s1varsc s1eqsp s1eqsc s1neqsp s1neqsc ev1pp ev1pc r}(hr:(Zbs s1 ev1).Ret r):Ctr Tryz.prog 76 #[.agg ((v33' s1 s1varsp s1varsc s1eqsp s1eqsc s1neqsp s1neqsc)).toArray,.agg ([i' ev1.kind,.string ev1.name,i' ev1.at',i' ev1.to',i' ev1.id,.slice ev1pp ev1.p.length ev1pc,.bool ev1.neq]).toArray] (fun G=>sl Rp.str G s1varsp s1varsc s1.vars∧sl a' G s1eqsp s1eqsc s1.eqs∧sl a' G s1neqsp s1neqsc s1.neqs∧sl r' G ev1pp ev1pc ev1.p) (fun G v=>v=i' r):=by
 refine C' (args:=[_,_]) (N:=51) Tryz.func76 z z z (fun E i I l=>?_)
 obtain⟨e,c,f,j⟩:=l
 refine sr<|W' 2 z z z fun x=>W' 3 z z z fun o=>sg z z<|nx<|h'<|sr<|yy (s' 2 ag' z z z) z<|yy (aL' z) z<|yy (e' 3 sc3 z z z) z ?_
 obtain⟨F,k,hr⟩:=hr
 refine H' z z (t' E122 z) (go' k) z (⟨e,c,f⟩)<|yy (an' z) z<|nx<|aM' hr z (fun q hr=>?_) (fun q hr=>?_)
 ·refine sr<|sg z z<|nx<|j' ?_
  replace hr:_=r:=hr
  refine g' ?_
  subst hr
  exact k' z z z
 ·refine n'<|b'<|aV' (fun (h:Mem)=>match h with|g=>[(2,.pointer (some ⟨x,0,none⟩)),(3,.pointer (some ⟨o,0,none⟩))]) (fun (h:Mem)=>match h with|g=>Mem.le i g∧(ZbP s1 ev1).Ret r) (fun (h:Mem)=>match h with|g=>St E i g [(2,some ⟨x,.cells ((v33' s1 s1varsp s1varsc s1eqsp s1eqsc s1neqsp s1neqsc)).toArray 33 (0,0),0⟩),(3,some ⟨o,.cells ([i' ev1.kind,.string ev1.name,i' ev1.at',i' ev1.to',i' ev1.id,.slice ev1pp ev1.p.length ev1pc,.bool ev1.neq]).toArray 40 (0,0),0⟩)]) ?_ ?_
  ·skip
   refine sr<|yy (bM' z) z<|yy (e' 3 sc3 z z z) z<|aj' hr z (ak' z z) z (fun t hr=>?_) (fun t hr=>?_)
   ·refine mv z z<|gy z z (cI' z) z<|gy z z (e' 3 bP' z z z) z<|gy z z (as' z) z<|gy z z (e' 2 bo' z z z) z<|gy z z (L' y' e z) z ?_
    obtain⟨H,m,hr⟩:=hr
    refine H' (F' z z) z (t' E123 z) (gb' m) z (j)<|gy z z (an' z) z<|yy (o' z z) z<|nx<|aM' hr z (fun p hr=>?_) (fun p hr=>?_)
    ·refine sr<|sg z z<|nx<|j' ?_
     replace hr:_=r:=hr
     refine g' ?_
     subst hr
     exact k' z z z
    ·refine n'<|ar' i ⟨mr,hr⟩ (fc z (fc z fn)) (wk (lc z (lc z ln)))
   ·refine mv z z<|sk z z z<|sk z z z<|sk z z z<|sk z z z<|sk z z z<|sk z z z<|sk z z z<|yy (l' z z) z<|nx<|bh' z<|n'<|ar' i ⟨mr,hr⟩ (fc z (fc z fn)) (wk (lc z (lc z ln)))
  ·rintro g ⟨d,hr⟩
   refine sr<|yy (az' z) z<|yy (e' 2 aS' z z z) z<|yy (aL' z) z<|yy (e' 3 sc3 z z z) z ?_
   obtain⟨J,n,hr⟩:=hr
   refine H' z z (t' E43 z) (dp' n) z ((c.mono d))<|yy (be' z z) z<|sg z z<|nx<|h'<|sr<|yy (bM' z) z<|yy (e' 3 sc3 z z z) z<|aj' hr z (ak' z z) z (fun s hr=>?_) (fun s hr=>?_)
   ·refine mv z z<|aj' hr (F' z z) (f' z) z (fun A hr=>?_) (fun A hr=>?_)
    ·refine gy z z (f' z) z<|gy z z (aK' z) z<|gy z z (e' 2 aS' z z z) z<|gy z z (L' q' (f.mono d) z) z<|aj' hr (F' z z) (be' z z) z (fun D hr=>?_) (fun D hr=>?_)
     ·refine gy z z (o' z z) z<|gy z z (f' z) z<|sf z z z<|sf z z z<|sf z z z<|aF' (ai' z z) z<|aF' (ai' z z) z<|aF' (ai' z z) z<|aF' (ai' z z) z<|sf z z z<|gy z z (o' z z) z<|yy (o' z z) z<|nx<|at' z<|sr<|sg z z<|nx<|j' ?_
      replace hr:_=r:=hr
      refine g' ?_
      subst hr
      exact k' z z z
     ·refine gy z z (o' z z) z<|gy z z (f' z) z<|aj' hr (F' z z) (f' z) z (fun C hr=>?_) (fun C hr=>?_)
      ·refine gy z z (an' z) z<|gy z z (f' z) z<|sk z z z<|sk z z z<|sk z z z<|sk z z z<|gy z z (l' z z) z<|gy z z (l' z z) z<|yy (o' z z) z<|nx<|bh' z<|n'<|b'<|sr<|sg z z<|nx<|j' ?_
       obtain rfl:_=r:=hr
       exact k' z z z
      ·refine gy z z (an' z) z<|gy z z (f' z) z<|gy z z (az' z) z<|gy z z (e' 2 aS' z z z) z<|gy z z (L' q' (c.mono d) z) z<|gy z z (be' z z) z<|gy z z (o' z z) z<|gy z z (l' z z) z<|yy (o' z z) z<|nx<|I' hr z (fun B hr=>?_) (fun B hr=>?_)
       ·refine sr<|sg z z<|nx<|j' ?_
        replace hr:_=r:=hr
        refine g' ?_
        subst hr
        exact k' z z z
       ·refine n'<|b'<|sr<|sg z z<|nx<|j' ?_
        obtain rfl:_=r:=hr
        exact k' z z z
    ·refine gy z z (f' z) z<|sk z z z<|sk z z z<|sk z z z<|sk z z z<|gy z z (l' z z) z<|gy z z (f' z) z<|aj' hr (F' z z) (f' z) z (fun y hr=>?_) (fun y hr=>?_)
     ·refine gy z z (an' z) z<|gy z z (f' z) z<|sk z z z<|sk z z z<|sk z z z<|sk z z z<|gy z z (l' z z) z<|gy z z (l' z z) z<|yy (o' z z) z<|nx<|bh' z<|n'<|b'<|sr<|sg z z<|nx<|j' ?_
      obtain rfl:_=r:=hr
      exact k' z z z
     ·refine gy z z (an' z) z<|gy z z (f' z) z<|gy z z (az' z) z<|gy z z (e' 2 aS' z z z) z<|gy z z (L' q' (c.mono d) z) z<|gy z z (be' z z) z<|gy z z (o' z z) z<|gy z z (l' z z) z<|yy (o' z z) z<|nx<|I' hr z (fun u hr=>?_) (fun u hr=>?_)
      ·refine sr<|sg z z<|nx<|j' ?_
       replace hr:_=r:=hr
       refine g' ?_
       subst hr
       exact k' z z z
      ·refine n'<|b'<|sr<|sg z z<|nx<|j' ?_
       obtain rfl:_=r:=hr
       exact k' z z z
   ·refine mv z z<|sk z z z<|sk z z z<|aF' (ai' z z) z<|aF' (ai' z z) z<|aF' (ai' z z) z<|aF' (ai' z z) z<|sk z z z<|sk z z z<|aF' (ai' z z) z<|aF' (ai' z z) z<|aF' (ai' z z) z<|aF' (ai' z z) z<|aF' (ai' z z) z<|aF' (ai' z z) z<|aF' (ai' z z) z<|aF' (ai' z z) z<|sk z z z<|yy (l' z z) z<|nx<|bh' z<|n'<|b'<|sr<|sg z z<|nx<|j' ?_
    obtain rfl:_=r:=hr
    exact k' z z z
theorem fJ'{a0_1 a1_1 a0_1varsp a0_1varsc a0_1eqsp a0_1eqsc a0_1neqsp a0_1neqsc a1_1pp a1_1pc r}(hr:(ZeR a0_1 a1_1).Ret r):Ctr Tryz.prog 37 #[.agg ((v33' a0_1 a0_1varsp a0_1varsc a0_1eqsp a0_1eqsc a0_1neqsp a0_1neqsc)).toArray,.agg ([i' a1_1.kind,.string a1_1.name,i' a1_1.at',i' a1_1.to',i' a1_1.id,.slice a1_1pp a1_1.p.length a1_1pc,.bool a1_1.neq]).toArray] (fun G=>sl Rp.str G a0_1varsp a0_1varsc a0_1.vars∧sl a' G a0_1eqsp a0_1eqsc a0_1.eqs∧sl a' G a0_1neqsp a0_1neqsc a0_1.neqs∧sl r' G a1_1pp a1_1pc a1_1.p) (fun G v=>v=i' r):=by
 refine C' (args:=[_,_]) (N:=98) Tryz.func37 z z z (fun w0 G0 ae x=>?_)
 obtain⟨c,e,d,f⟩:=x
 refine sr<|W' 2 z z z fun b1=>W' 3 z z z fun b2=>sg z z<|nr<|yy (as' z) z<|yy (e' 2 bo' z z z) z<|yy (L' y' c z) z<|sg z z<|nx<|h'<|sr<|yy (bM' z) z<|yy (e' 3 sc3 z z z) z<|nx<|A'<|sr<|yy (ak' z z) z<|sg z z<|nx<|I' hr z (fun M hr=>?_) (fun M hr=>?_)
 ·refine h'<|sr<|mv z z<|yy (be' z z) z<|nx<|I' hr z (fun S hr=>?_) (fun S hr=>?_)
  ·refine sr<|sg z z<|nx<|j' ?_
   replace hr:_=r:=hr
   refine g'<|x'<|g' ?_
   subst hr
   exact k' z z z
  ·refine n'<|b'<|h'<|sr<|yy (aB' z) z<|yy (e' 3 sc3 z z z) z<|aj' hr z (V' z z) z (fun O hr=>?_) (fun O hr=>?_)
   ·refine mv z z<|sf z z z<|sf z z z<|sf z z z<|sf z z z<|yy (o' z z) z<|nx<|at' z<|sr<|sg z z<|nx<|j' ?_
    replace hr:_=r:=hr
    refine g'<|x'<|g' ?_
    subst hr
    exact k' z z z
   ·refine mv z z<|gy z z (aB' z) z<|gy z z (e' 3 sc3 z z z) z<|gy z z (f' z) z<|gy z z (bt' z z) z<|yy (l' z z) z<|nx<|I' hr z (fun P hr=>?_) (fun P hr=>?_)
    ·refine sr<|sg z z<|nx<|j' ?_
     replace hr:_=r:=hr
     refine g'<|x'<|g' ?_
     subst hr
     exact k' z z z
    ·refine n'<|b'<|h'<|sr<|yy (bV' z) z<|yy (e' 3 sc9 z z z) z ?_
     obtain⟨I,n,hr⟩:=hr
     refine H' z z (t' E47 z) (eU' n) z (trivial) ?_
     cases I
     ·skip
      refine yy (an' z) z<|mv z z<|sf z z z<|sf z z z<|sf z z z<|sf z z z<|sf z z z<|yy (o' z z) z<|nx<|at' z<|sr<|sg z z<|nx<|j' ?_
      replace hr:_=r:=hr
      refine g'<|x'<|g' ?_
      subst hr
      exact k' z z z
     ·skip
      refine yy (an' z) z<|mv z z<|gy z z (s' 2 ag' z z z) z<|gy z z (bV' z) z<|gy z z (e' 3 sc9 z z z) z ?_
      obtain⟨af,A,hr⟩:=hr
      refine H' (F' z z) z (t' E72 z) (fG' A) z (⟨c,e,d⟩)<|gy z z (be' z z) z<|yy (l' z z) z<|nx<|I' hr z (fun K hr=>?_) (fun K hr=>?_)
      ·refine sr<|sg z z<|nx<|j' ?_
       replace hr:_=r:=hr
       refine g'<|x'<|g' ?_
       subst hr
       exact k' z z z
      ·refine n'<|b'<|sr<|sg z z<|nx<|j' ?_
       replace hr:_=r:=hr
       refine x'<|g' ?_
       subst hr
       exact k' z z z
 ·refine sr<|yy (ak' z z) z<|sg z z<|nx<|I' hr z (fun T hr=>?_) (fun T hr=>?_)
  ·refine h'<|sr<|yy (s' 2 ag' z z z) z<|yy (aB' z) z<|yy (e' 3 sc3 z z z) z ?_
   obtain⟨ab,y,hr⟩:=hr
   refine H' z z (t' E73 z) (eV' y) z (⟨c,e,d⟩)<|yy (an' z) z<|nx<|aM' hr z (fun V hr=>?_) (fun V hr=>?_)
   ·refine sr<|sg z z<|nx<|j' ?_
    replace hr:_=r:=hr
    refine g'<|x'<|g' ?_
    subst hr
    exact k' z z z
   ·refine n'<|b'<|h'<|sr<|yy (s' 2 ag' z z z) z<|yy (aB' z) z<|yy (e' 3 sc3 z z z) z ?_
    obtain⟨ad,k,hr⟩:=hr
    refine H' z z (t' E74 z) (gT' k) z (⟨c,e,d⟩)<|nx<|aM' hr z (fun J hr=>?_) (fun J hr=>?_)
    ·refine sr<|sg z z<|nx<|j' ?_
     replace hr:_=r:=hr
     refine g'<|x'<|g' ?_
     subst hr
     exact k' z z z
    ·refine n'<|b'<|sr<|sg z z<|nx<|j' ?_
     replace hr:_=r:=hr
     refine x'<|g' ?_
     subst hr
     exact k' z z z
  ·refine sr<|yy (ak' z z) z<|sg z z<|nx<|I' hr z (fun W hr=>?_) (fun W hr=>?_)
   ·refine h'<|sr<|yy (s' 2 ag' z z z) z<|yy (aB' z) z<|yy (e' 3 sc3 z z z) z ?_
    obtain⟨ac,H,hr⟩:=hr
    refine H' z z (t' E73 z) (eV' H) z (⟨c,e,d⟩)<|yy (an' z) z<|nx<|aM' hr z (fun U hr=>?_) (fun U hr=>?_)
    ·refine sr<|sg z z<|nx<|j' ?_
     replace hr:_=r:=hr
     refine g'<|x'<|g' ?_
     subst hr
     exact k' z z z
    ·refine n'<|b'<|sr<|yy (s' 2 ag' z z z) z<|yy (bV' z) z<|yy (e' 3 sc9 z z z) z ?_
     obtain⟨ag,t,hr⟩:=hr
     refine H' z z (t' E72 z) (fG' t) z (⟨c,e,d⟩)<|sg z z<|nx<|h'<|sr<|yy (bV' z) z<|yy (e' 3 sc9 z z z) z ?_
     obtain⟨Q,F,hr⟩:=hr
     refine H' z z (t' E47 z) (eU' F) z (trivial) ?_
     cases Q
     ·skip
      refine yy (an' z) z<|mv z z<|sf z z z<|sf z z z<|sf z z z<|aF' (ai' z z) z<|aF' (ai' z z) z<|aF' (ai' z z) z<|aF' (ai' z z) z<|sf z z z<|yy (o' z z) z<|nx<|at' z<|sr<|sg z z<|nx<|j' ?_
      replace hr:_=r:=hr
      refine g'<|x'<|g' ?_
      subst hr
      exact k' z z z
     ·skip
      refine yy (an' z) z<|mv z z<|gy z z (f' z) z<|aj' hr (F' z z) (be' z z) z (fun R hr=>?_) (fun R hr=>?_)
      ·refine gy z z (f' z) z<|gy z z (f' z) z<|gy z z (aB' z) z<|gy z z (e' 3 sc3 z z z) z<|gy z z (aQ' z z) z<|gy z z (o' z z) z<|yy (l' z z) z<|nx<|I' hr z (fun u hr=>?_) (fun u hr=>?_)
       ·refine sr<|sg z z<|nx<|j' ?_
        replace hr:_=r:=hr
        refine g'<|x'<|g' ?_
        subst hr
        exact k' z z z
       ·refine n'<|b'<|sr<|sg z z<|nx<|j' ?_
        replace hr:_=r:=hr
        refine x'<|g' ?_
        subst hr
        exact k' z z z
      ·refine gy z z (f' z) z<|sk z z z<|sk z z z<|sk z z z<|sk z z z<|gy z z (l' z z) z<|yy (l' z z) z<|nx<|bh' z<|n'<|b'<|sr<|sg z z<|nx<|j' ?_
       replace hr:_=r:=hr
       refine x'<|g' ?_
       subst hr
       exact k' z z z
   ·refine sr<|yy (ak' z z) z<|sg z z<|nx<|I' hr z (fun D hr=>?_) (fun D hr=>?_)
    ·refine h'<|sr<|yy (s' 2 ag' z z z) z<|yy (aB' z) z<|yy (e' 3 sc3 z z z) z ?_
     obtain⟨L,l,hr⟩:=hr
     refine H' z z (t' E73 z) (eV' l) z (⟨c,e,d⟩) ?_
     cases L
     ·skip
      refine yy (an' z) z<|mv z z<|sf z z z<|sf z z z<|sf z z z<|sf z z z<|sf z z z<|yy (o' z z) z<|nx<|at' z<|sr<|sg z z<|nx<|j' ?_
      replace hr:_=r:=hr
      refine g'<|x'<|g' ?_
      subst hr
      exact k' z z z
     ·skip
      refine yy (an' z) z<|mv z z<|gy z z (s' 2 ag' z z z) z<|gy z z (cr' z) z<|gy z z (e' 3 sc3 z z z) z ?_
      obtain⟨ah,m,hr⟩:=hr
      refine H' (F' z z) z (t' E73 z) (eV' m) z (⟨c,e,d⟩)<|gy z z (an' z) z<|yy (l' z z) z<|nx<|aM' hr z (fun p hr=>?_) (fun p hr=>?_)
      ·refine sr<|sg z z<|nx<|j' ?_
       replace hr:_=r:=hr
       refine g'<|x'<|g' ?_
       subst hr
       exact k' z z z
      ·refine n'<|b'<|sr<|sg z z<|nx<|j' ?_
       replace hr:_=r:=hr
       refine x'<|g' ?_
       subst hr
       exact k' z z z
    ·refine sr<|yy (ak' z z) z<|sg z z<|nx<|I' hr z (fun E hr=>?_) (fun E hr=>?_)
     ·refine sr<|yy (s' 2 ag' z z z) z<|yy (s' 3 bw' z z z) z ?_
      obtain⟨Z,j,hr⟩:=hr
      refine H' z z (t' E75 z) (gl' j) z (⟨c,e,d,f⟩)<|sg z z<|nx<|j' ?_
      replace hr:_=r:=hr
      refine x'<|g' ?_
      subst hr
      exact k' z z z
     ·refine h'<|sr<|yy (ak' z z) z<|sg z z<|nx<|I' hr z (fun s hr=>?_) (fun s hr=>?_)
      ·refine n'<|b'<|I' hr z (fun o hr=>?_) (fun o hr=>?_)
       ·refine sr<|yy (s' 2 ag' z z z) z<|yy (s' 3 bw' z z z) z ?_
        obtain⟨aa,i,hr⟩:=hr
        refine H' z z (t' E76 z) (ew' i) z (⟨c,e,d,f⟩)<|sg z z<|nx<|j' ?_
        replace hr:_=r:=hr
        refine x'<|g' ?_
        subst hr
        exact k' z z z
       ·refine n'<|D'<|b'<|sr<|sg z z<|nx<|j' ?_
        obtain rfl:_=r:=hr
        exact k' z z z
      ·refine sr<|yy (ak' z z) z<|sg z z<|nx<|I' hr z (fun q hr=>?_) (fun q hr=>?_)
       ·refine n'<|b'<|I' hr z (fun C hr=>?_) (fun C hr=>?_)
        ·refine sr<|yy (s' 2 ag' z z z) z<|yy (s' 3 bw' z z z) z ?_
         obtain⟨X,g,hr⟩:=hr
         refine H' z z (t' E76 z) (ew' g) z (⟨c,e,d,f⟩)<|sg z z<|nx<|j' ?_
         replace hr:_=r:=hr
         refine x'<|g' ?_
         subst hr
         exact k' z z z
        ·refine n'<|D'<|b'<|sr<|sg z z<|nx<|j' ?_
         obtain rfl:_=r:=hr
         exact k' z z z
       ·refine w'<|yy (ak' z z) z<|sg z z<|nx<|I' hr z (fun B hr=>?_) (fun B hr=>?_)
        ·refine sr<|yy (s' 2 ag' z z z) z<|yy (s' 3 bw' z z z) z ?_
         obtain⟨Y,h,hr⟩:=hr
         refine H' z z (t' E76 z) (ew' h) z (⟨c,e,d,f⟩)<|sg z z<|nx<|j' ?_
         replace hr:_=r:=hr
         refine x'<|g' ?_
         subst hr
         exact k' z z z
        ·refine n'<|D'<|b'<|sr<|sg z z<|nx<|j' ?_
         obtain rfl:_=r:=hr
         exact k' z z z
theorem dr'{fromv1 tov1 r}(hr:(ZaA fromv1 tov1).Ret r):Ctr Tryz.prog 39 #[i' fromv1,i' tov1] (fun G=>True) (fun G v=>v = .agg (vecG (Value.int .i64) 8 r).toArray):=by
 refine C' (args:=[_,_]) (N:=43) Tryz.func39 z z z fun s n Q K=>sr<|U' 4 z z83 z fun p=>nr<|yy (aq' (vs:=#[]) (v:=.agg (vecG (Value.int .i64) 8 (fun _=>0)).toArray) z z (fun _=>by kernel_rfl)) z<|U' 5 z z83 z fun o=>v' 5 z sz83 z z z (Q' _ _ _) (Q' _ _ _) (fun u q=>Rp.one (cx' .i64 8) (G:=n) (x:=(fun _=>0)) (cs:=vecG (Value.int .i64) 8 (fun _=>0)) z u (by first|simpa using q|simpa [Value.cells] using q))<|nx<|h'<|sr<|sg z z<|nx<|ab' (fun (⟨f,k⟩:(Fin 8→Int)×Mem)=>[(0,i' fromv1),(1,i' tov1),(4,.pointer (some ⟨p,0,none⟩)),(5,.pointer (some ⟨o,0,none⟩))]) (fun ⟨f,k⟩=>Mem.le n k∧(Zc3 fromv1 tov1 f).Ret r) (fun ⟨f,k⟩=>St s n k [(4,some ⟨p,.cells (vecG (Value.int .i64) 8 (fun _=>0)).toArray 83 (0,0),0⟩),(5,some ⟨o,.cells (vecG (Value.int .i64) 8 f).toArray 83 (0,0),0⟩)]) ?_ ?_
 ·refine A' ?_
  let m:(Fin 8→Int)→Prop:=fun L=>((fun P=>match P with|f=>Zc3 fromv1 tov1 f:(Fin 8→Int)→Comp (Fin 8→Int)) L).wp (fun a=>a=r)
  replace hr:(Comp.loop _ _).wp m:=hr
  refine ac' (Φ:=m) (fun (⟨c,d,e⟩:Int×(Fin 8→Int)×Mem)=>((c,d):Int×(Fin 8→Int))) (fun ⟨c,d,e⟩=>[(0,i' fromv1),(1,i' tov1),(4,.pointer (some ⟨p,0,none⟩)),(5,.pointer (some ⟨o,0,none⟩)),(6,i' c)]) (fun ⟨c,d,e⟩=>Mem.le n e) (fun ⟨c,d,e⟩=>St s n e [(4,some ⟨p,.cells (vecG (Value.int .i64) 8 (fun _=>0)).toArray 83 (0,0),0⟩),(5,some ⟨o,.cells (vecG (Value.int .i64) 8 d).toArray 83 (0,0),0⟩)]) ⟨0,(fun _=>0),n⟩ hr (fc z (fc z (fc z (fc z (fc z fn))))) mr (wk (lc z (lc z ln))) ?_
  ·intro F M O hr
   obtain⟨c,d,e⟩:=M
   have j:=O
   refine h'<|sr<|mv z z<|yy (V' z z) z<|nx<|I' hr z (fun y hr=>?_) (fun y hr=>?_)
   ·refine n'<|b'<|h'<|A'<|sr<|mv z z<|mv z z ?_
    obtain⟨H,hr⟩:=hr
    refine yy (aX' ba' sz3 z z H) z<|aw' 5 (vecG (Value.int .i64) 8 (setF d c.toNat c)).toArray z sz3 z z z (by first|(rw[Q']; omega)|(show _<(vecG _ _ _).toArray.size; rw[Q']; omega)) z (bX' _ _ _ _ _)<|nx<|aV' (fun (⟨g,h⟩:(Fin 8→Int)×Mem)=>[(0,i' fromv1),(1,i' tov1),(4,.pointer (some ⟨p,0,none⟩)),(5,.pointer (some ⟨o,0,none⟩)),(6,i' c)]) (fun ⟨g,h⟩=>Mem.le e h∧(ZbQ fromv1 tov1 c g).wp (Out F m)) (fun ⟨g,h⟩=>St s n h [(4,some ⟨p,.cells (vecG (Value.int .i64) 8 (fun _=>0)).toArray 83 (0,0),0⟩),(5,some ⟨o,.cells (vecG (Value.int .i64) 8 g).toArray 83 (0,0),0⟩)]) ?_ ?_
    ·skip
     refine sr<|mv z z<|mv z z<|aj' hr z (bt' z z) z (fun D hr=>?_) (fun D hr=>?_)
     ·refine mv z z<|gy z z (f' z) z<|gy z z (f' z) z<|gy z z (bD' z z) z<|yy (o' z z) z<|nx<|I' hr z (fun C hr=>?_) (fun C hr=>?_)
      ·refine w'<|mv z z<|mv z z<|yy (bf' z z) z ?_
       obtain⟨I,hr⟩:=hr
       refine yy (aX' ba' sz3 z z I) z<|aw' 5 (vecG (Value.int .i64) 8 (setF (setF d c.toNat c) c.toNat (IntKind.i64.wrap (c-1)))).toArray z sz3 z z z (by first|(rw[Q']; omega)|(show _<(vecG _ _ _).toArray.size; rw[Q']; omega)) z (bX' _ _ _ _ _)<|u'<|ar' ⟨setF (setF d c.toNat c) c.toNat (IntKind.i64.wrap (c-1)),e⟩ ⟨mr,hr⟩ (fc z (fc z (fc z (fc z (fc z fn))))) (wk (lc z (lc z ln)))
      ·refine n'<|ar' ⟨setF d c.toNat c,e⟩ ⟨mr,hr⟩ (fc z (fc z (fc z (fc z (fc z fn))))) (wk (lc z (lc z ln)))
     ·refine mv z z<|sk z z z<|sk z z z<|sk z z z<|yy (l' z z) z<|nx<|bh' z<|n'<|ar' ⟨setF d c.toNat c,e⟩ ⟨mr,hr⟩ (fc z (fc z (fc z (fc z (fc z fn))))) (wk (lc z (lc z ln)))
    ·rintro⟨g,h⟩ ⟨l,hr⟩
     refine sr<|mv z z<|mv z z<|aj' hr z (V' z z) z (fun A hr=>?_) (fun A hr=>?_)
     ·refine mv z z<|gy z z (f' z) z<|gy z z (f' z) z<|gy z z (be' z z) z<|yy (o' z z) z<|nx<|I' hr z (fun E hr=>?_) (fun E hr=>?_)
      ·refine w'<|mv z z<|mv z z<|yy (N' z z) z ?_
       obtain⟨B,hr⟩:=hr
       refine yy (aX' ba' sz3 z z B) z<|aw' 5 (vecG (Value.int .i64) 8 (setF g c.toNat (IntKind.i64.wrap (c+1)))).toArray z sz3 z z z (by first|(rw[Q']; omega)|(show _<(vecG _ _ _).toArray.size; rw[Q']; omega)) z (bX' _ _ _ _ _)<|u'<|D'<|b'<|w'<|mv z z<|yy (N' z z) z<|sg z z<|u'<|O' ⟨IntKind.i64.wrap (c+1),setF g c.toNat (IntKind.i64.wrap (c+1)),h⟩ hr (mt j l) (fc z (fc z (fc z (fc z (fc z fn))))) (wk (lc z (lc z ln)))
      ·refine n'<|D'<|b'<|w'<|mv z z<|yy (N' z z) z<|sg z z<|u'<|O' ⟨IntKind.i64.wrap (c+1),g,h⟩ hr (mt j l) (fc z (fc z (fc z (fc z (fc z fn))))) (wk (lc z (lc z ln)))
     ·refine mv z z<|sk z z z<|sk z z z<|sk z z z<|yy (l' z z) z<|nx<|bh' z<|n'<|D'<|b'<|w'<|mv z z<|yy (N' z z) z<|sg z z<|u'<|O' ⟨IntKind.i64.wrap (c+1),g,h⟩ hr (mt j l) (fc z (fc z (fc z (fc z (fc z fn))))) (wk (lc z (lc z ln)))
   ·refine ae'<|m'<|m'<|J'<|af' ⟨d,e⟩ ⟨j,hr⟩ (fc z (fc z (fc z (fc z fn)))) (wk (lc z (lc z ln)))
 ·rintro⟨f,k⟩ ⟨J,hr⟩
  refine b'<|sr<|mv z z<|mv z z ?_
  obtain⟨t,hr⟩:=hr
  refine yy (aX' ba' sz3 z z t) z<|aw' 5 (vecG (Value.int .i64) 8 (setF f fromv1.toNat tov1)).toArray z sz3 z z z (by first|(rw[Q']; omega)|(show _<(vecG _ _ _).toArray.size; rw[Q']; omega)) z (bX' _ _ _ _ _)<|nr<|yy (s' 5 ag83 z z (Q' _ _ _)) z<|v' 4 z sz83 z z z (Q' _ _ _) (Q' _ _ _) (fun u q=>Rp.one (cx' .i64 8) (G:=k) (x:=setF f fromv1.toNat tov1) (cs:=vecG (Value.int .i64) 8 (setF f fromv1.toNat tov1)) z u (by first|simpa using q|simpa [Value.cells] using q))<|nx<|j' ?_
  obtain rfl:_=r:=hr
  exact k' z (ad' (i:=4) ag83 z z (Q' _ _ _)) z
theorem ff'{perm1 r}(hr:(ZbW perm1).Ret r):Ctr Tryz.prog 124 #[.agg (vecG (Value.int .i64) 8 perm1).toArray] (fun G=>True) (fun G v=>v = .bool r):=by
 refine C' (args:=[_]) (N:=31) Tryz.func124 z z z fun C i L F=>sr<|W' 1 z z z fun y=>sg z z<|nr<|yy (aq' (vs:=#[]) (v:=.agg (vecG Value.bool 8 (fun _=>false)).toArray) z z (fun _=>by kernel_rfl)) z<|U' 3 z z176 z fun p=>v' 3 z sz176 z z z (Q' _ _ _) (Q' _ _ _) (fun u t=>Rp.one (Rp.vecB 8) (G:=i) (x:=(fun _=>false)) (cs:=vecG Value.bool 8 (fun _=>false)) z u (by first|simpa using t|simpa [Value.cells] using t))<|nx<|h'<|sr<|sg z z<|nx<|ab' (fun (g:Mem)=>match g with|f=>[]) (fun (g:Mem)=>match g with|f=>Mem.le i f∧(Zbg).Ret r) (fun (g:Mem)=>match g with|f=>St C i f []) ?_ ?_
 ·refine A' ?_
  let j:(Bool⊕Unit)→Prop:=fun H=>((fun J=>match J with | .inl rv1=>Comp.ret rv1 | .inr ()=>Zbg:(Bool⊕Unit)→Comp Bool) H).wp (fun a=>a=r)
  replace hr:(Comp.loop _ _).wp j:=hr
  refine ac' (Φ:=j) (fun (⟨e,c,d⟩:Int×(Fin 8→Bool)×Mem)=>((e,c):Int×(Fin 8→Bool))) (fun ⟨e,c,d⟩=>[(1,.pointer (some ⟨y,0,none⟩)),(3,.pointer (some ⟨p,0,none⟩)),(4,i' e)]) (fun ⟨e,c,d⟩=>Mem.le i d) (fun ⟨e,c,d⟩=>St C i d [(1,some ⟨y,.cells (vecG (Value.int .i64) 8 perm1).toArray 83 (0,0),0⟩),(3,some ⟨p,.cells (vecG Value.bool 8 c).toArray 176 (0,0),0⟩)]) ⟨0,(fun _=>false),i⟩ hr (fc z (fc z (fc z fn))) mr (wk (lc z (lc z ln))) ?_
  ·intro K g I hr
   obtain⟨e,c,d⟩:=g
   have h:=I
   refine h'<|sr<|mv z z<|yy (V' z z) z<|nx<|I' hr z (fun q hr=>?_) (fun q hr=>?_)
   ·refine n'<|b'<|h'<|A'<|h'<|sr<|mv z z ?_
    obtain⟨k,hr⟩:=hr
    refine yy (aX' ba' sz3 z z k) z<|yy (e' 1 sc3 z z (bA' _ _ _ k)) z<|aj' hr z (V' z z) z (fun s hr=>?_) (fun s hr=>?_)
    ·refine mv z z<|sf z z z<|sf z z z<|sf z z z<|sf z z z<|yy (o' z z) z<|mv z z<|sf z z z<|sf z z z<|sf z z z<|sf z z z<|sf z z z<|yy (o' z z) z<|nx<|at' z<|sr<|sg z z<|nx<|j' ?_
     replace hr:_=r:=hr
     refine g'<|x'<|g'<|g'<|x'<|aH'<|g' ?_
     subst hr
     exact k' z z z
    ·refine mv z z<|gy z z (f' z) z ?_
     obtain⟨n,hr⟩:=hr
     refine gy z z (aX' ba' sz3 z z n) z<|gy z z (e' 1 sc3 z z (bA' _ _ _ n)) z<|aj' hr (F' z z) (be' z z) z (fun A hr=>?_) (fun A hr=>?_)
     ·refine yy (l' z z) z<|mv z z<|sf z z z<|sf z z z<|sf z z z<|sf z z z<|sf z z z<|yy (o' z z) z<|nx<|at' z<|sr<|sg z z<|nx<|j' ?_
      replace hr:_=r:=hr
      refine g'<|x'<|g'<|g'<|x'<|aH'<|g' ?_
      subst hr
      exact k' z z z
     ·refine yy (l' z z) z<|mv z z<|gy z z (f' z) z ?_
      obtain⟨m,hr⟩:=hr
      refine gy z z (aX' ba' sz3 z z m) z<|gy z z (e' 1 sc3 z z (bA' _ _ _ m)) z ?_
      obtain⟨o,hr⟩:=hr
      refine gy z z (aX' dA' sz4 z z o) z<|gy z z (e' 3 sc4 z z (bA' _ _ _ o)) z<|yy (l' z z) z<|nx<|aM' hr z (fun B hr=>?_) (fun B hr=>?_)
      ·exact (show False from hr).elim
      ·refine n'<|b'<|w'<|mv z z ?_
       obtain⟨l,hr⟩:=hr
       refine yy (aX' ba' sz3 z z l) z<|yy (e' 1 sc3 z z (bA' _ _ _ l)) z ?_
       obtain⟨D,hr⟩:=hr
       refine yy (aX' dA' sz4 z z D) z<|aw' 3 (vecG Value.bool 8 (setF c ((getF perm1 e).toNat) true)).toArray z sz4 z z z (by first|(rw[Q']; omega)|(show _<(vecG _ _ _).toArray.size; rw[Q']; omega)) z (bX' _ _ _ _ _)<|u'<|D'<|b'<|w'<|mv z z<|yy (N' z z) z<|sg z z<|u'<|O' ⟨IntKind.i64.wrap (e+1),setF c ((getF perm1 e).toNat) true,d⟩ hr h (fc z (fc z (fc z fn))) (wk (lc z (lc z ln)))
   ·refine ae'<|m'<|m'<|J'<|af' d ⟨h,hr⟩ fn (wk ln)
 ·rintro f ⟨E,hr⟩
  refine b'<|sr<|sg z z<|nx<|j' ?_
  obtain rfl:_=r:=hr
  exact k' z z z
theorem gy'{p1 perm1 p1p p1c r}(hr:(Zfh p1 perm1).Ret r):Ctr Tryz.prog 77 #[.slice p1p p1.length p1c,.agg (vecG (Value.int .i64) 8 perm1).toArray] (fun G=>sl r' G p1p p1c p1) (fun G v=>∃ T V,v = .tuple #[.slice T r.1.length V,i' r.2]∧sl r' G T V r.1):=by
 refine C' (args:=[_,_]) (N:=47) Tryz.func77 z z z (fun Z X ag aq=>?_)
 have M:=aq
 refine sr<|W' 3 z z z fun Q=>sg z z<|sg z z<|nx<|h'<|sr<|yy (s' 3 ag83 z z (Q' _ _ _)) z ?_
 obtain⟨aK,ah,hr⟩:=hr
 refine H' z z (t' E124 z) (ff' ah) z (trivial)<|yy (an' z) z<|nx<|aM' hr z (fun aA hr=>?_) (fun aA hr=>?_)
 ·exact (show False from hr).elim
 ·refine n'<|b'<|sr<|aU' (e:=101) (r:=r') (vs:=#[]) (cs:=[]) ([]:List Zc) z z z z z (by decide) (fun _=>by kernel_rfl) (z) (key:=999) z (by rw[ag]; rfl) fun p2 S A ay=>sg z z<|nx<|h'<|sr<|sg z z<|nx<|ab' (fun (⟨q,t,y,H⟩:(List Zc)×Option Addr×Nat×Mem)=>[(6,.slice t q.length y)]) (fun ⟨q,t,y,H⟩=>Mem.le S H∧sl r' H t y q∧(ZcY q).Ret r) (fun ⟨q,t,y,H⟩=>St Z X H []) ?_ ?_
  ·refine A' ?_
   let I:(List Zc)→Prop:=fun oo=>((fun ov=>match ov with|q=>ZcY q:(List Zc)→Comp ((List Zc)×Int)) oo).wp (fun a=>a=r)
   replace hr:(Comp.loop _ _).wp I:=hr
   refine ac' (Φ:=I) (fun (⟨k,l,m,F,p⟩:(List Zc)×Option Addr×Nat×Int×Mem)=>((k,F):(List Zc)×Int)) (fun ⟨k,l,m,F,p⟩=>[(0,.slice p1p p1.length p1c),(3,.pointer (some ⟨Q,0,none⟩)),(6,.slice l k.length m),(7,i' F)]) (fun ⟨k,l,m,F,p⟩=>Mem.le S p∧sl r' p l m k) (fun ⟨k,l,m,F,p⟩=>St Z X p [(3,some ⟨Q,.cells (vecG (Value.int .i64) 8 perm1).toArray 83 (0,0),0⟩)]) ⟨[],p2,0,0,S⟩ hr (fc z (fc z (fc z (fc z fn)))) ⟨mr,ay⟩ (wk (lc z ln)) ?_
   ·intro af gx hx hr
    obtain⟨k,l,m,F,p⟩:=gx
    obtain⟨o,O⟩:=hx
    refine h'<|sr<|mv z z<|mv z z<|yy (L' R' (M.mono (mt A o)) z) z<|yy (V' z z) z<|nx<|I' hr z (fun aC hr=>?_) (fun aC hr=>?_)
    ·refine n'<|b'<|h'<|A'<|sr<|yy (aq' (vs:=#[]) (v:=.agg (vecG (Value.int .i64) 8 (fun _=>0)).toArray) z z (fun _=>by kernel_rfl)) z<|U' 8 z z99 z fun W=>v' 8 z sz99 z z z (Q' _ _ _) (Q' _ _ _) (fun u hu=>Rp.one (cx' .i64 8) (G:=p) (x:=(fun _=>0)) (cs:=vecG (Value.int .i64) 8 (fun _=>0)) z u (by first|simpa using hu|simpa [Value.cells] using hu))<|nx<|h'<|sr<|sg z z<|nx<|ab' (fun (⟨n,K⟩:(Fin 8→Int)×Mem)=>[(0,.slice p1p p1.length p1c),(3,.pointer (some ⟨Q,0,none⟩)),(6,.slice l k.length m),(7,i' F),(8,.pointer (some ⟨W,0,none⟩))]) (fun ⟨n,K⟩=>Mem.le p K∧(ZcZ p1 k F n).wp (Out af I)) (fun ⟨n,K⟩=>St Z X K [(3,some ⟨Q,.cells (vecG (Value.int .i64) 8 perm1).toArray 83 (0,0),0⟩),(8,some ⟨W,.cells (vecG (Value.int .i64) 8 n).toArray 99 (0,0),0⟩)]) ?_ ?_
     ·refine A' ?_
      let U:(Fin 8→Int)→Prop:=fun oo=>((fun ov=>match ov with|n=>ZcZ p1 k F n:(Fin 8→Int)→Comp (((List Zc)×Int)⊕(List Zc))) oo).wp (Out af I)
      replace hr:(Comp.loop _ _).wp U:=hr
      refine ac' (Φ:=U) (fun (⟨E,s,B⟩:Int×(Fin 8→Int)×Mem)=>((E,s):Int×(Fin 8→Int))) (fun ⟨E,s,B⟩=>[(0,.slice p1p p1.length p1c),(3,.pointer (some ⟨Q,0,none⟩)),(6,.slice l k.length m),(7,i' F),(8,.pointer (some ⟨W,0,none⟩)),(9,i' E)]) (fun ⟨E,s,B⟩=>Mem.le p B) (fun ⟨E,s,B⟩=>St Z X B [(3,some ⟨Q,.cells (vecG (Value.int .i64) 8 perm1).toArray 83 (0,0),0⟩),(8,some ⟨W,.cells (vecG (Value.int .i64) 8 s).toArray 99 (0,0),0⟩)]) ⟨0,(fun _=>0),p⟩ hr (fc z (fc z (fc z (fc z (fc z (fc z fn)))))) mr (wk (lc z (lc z ln))) ?_
      ·intro aL gx hx hr
       obtain⟨E,s,B⟩:=gx
       have C:=hx
       refine h'<|sr<|mv z z<|yy (V' z z) z<|nx<|I' hr z (fun aD hr=>?_) (fun aD hr=>?_)
       ·refine n'<|b'<|h'<|A'<|Z' [false,false,false,false,false,false,false,false,false,false] mix (by kernel_rfl) fun hb=>cn (fun _ i=>f' z) ?_
        obtain⟨ab,hr⟩:=hr
        refine cn (fun _ i=>aX' ba' sz3 z z ab)<|cn (fun _ i=>e' 3 sc3 z z (bA' _ _ _ ab))<|cn (fun _ i=>f' z)<|cn (fun _ i=>f' z)<|cn (fun _ i=>f' z) ?_
        obtain⟨x2,ae,hr⟩:=hr
        refine cn (fun _ i=>P' R' bC' ((M.mono (mt (mt A o) C)).mono i) z z ae)<|cn (fun _ i=>bn' z) ?_
        obtain⟨ac,hr⟩:=hr
        refine cn (fun _ i=>Y0.idxA aG' sz3 z z ac)<|cn (fun _ i=>T' sc3 z (AtK.vecAt (E' (E' (aJ' (aA' (X' M ae))) (mt (mt A o) C)) i) ac))<|Y' hb ?_
        obtain⟨ax,hr⟩:=hr
        refine yy (aX' aG' sz3 z z ax) z<|aw' 8 (vecG (Value.int .i64) 8 (setF s ((getF perm1 E).toNat) (getF x2.m E))).toArray z sz3 z z z (by first|(rw[Q']; omega)|(show _<(vecG _ _ _).toArray.size; rw[Q']; omega)) z (bX' _ _ _ _ _)<|u'<|am'<|D'<|b'<|w'<|mv z z<|yy (N' z z) z<|sg z z<|u'<|O' ⟨IntKind.i64.wrap (E+1),setF s ((getF perm1 E).toNat) (getF x2.m E),B⟩ hr C (fc z (fc z (fc z (fc z (fc z (fc z fn)))))) (wk (lc z (lc z ln)))
       ·refine ae'<|m'<|m'<|J'<|af' ⟨s,B⟩ ⟨C,hr⟩ (fc z (fc z (fc z (fc z (fc z fn))))) (wk (lc z (lc z ln)))
     ·rintro⟨n,K⟩ ⟨D,hr⟩
      refine b'<|Z' [true,false,false,false,false,false,false] mix (by kernel_rfl) fun hb=>cO' z (f' z)<|cn (fun _ i=>f' z)<|cn (fun _ i=>f' z) ?_
      obtain⟨h,ad,hr⟩:=hr
      refine cn (fun _ i=>P' R' bC' ((M.mono (mt (mt A o) D)).mono i) z z ad)<|cn (fun _ i=>cg' z) ?_
      obtain⟨f,d,c,g,aw,L,J⟩:=db' (E' (bb' (aA' (X' M ad))) (mt (mt A o) D))
      refine cn (fun _ i=>ax' _ bS' z z (fun j v hv=>i _ _ _ (aw j v hv)))<|cn (fun _ i=>s' 8 ca' z z (Q' _ _ _))<|Y' hb<|yy (aq' (vs:=#[(0,.agg ([.bool h.c.num.neg,.slice f h.c.num.mag.length d,.bool h.c.den.neg,.slice c h.c.den.mag.length g]).toArray),(1,.agg (vecG (Value.int .i64) 8 n).toArray)]) (v:=.agg (([.bool h.c.num.neg,.slice f h.c.num.mag.length d,.bool h.c.den.neg,.slice c h.c.den.mag.length g]:List Value)++(vecG (Value.int .i64) 8 n)).toArray) z z (fun _=>by kernel_rfl)) z<|aU' (e:=101) (r:=r') (vs:=#[(0,.agg (([.bool h.c.num.neg,.slice f h.c.num.mag.length d,.bool h.c.den.neg,.slice c h.c.den.mag.length g]:List Value)++(vecG (Value.int .i64) 8 n)).toArray)]) (cs:=(([.bool h.c.num.neg,.slice f h.c.num.mag.length d,.bool h.c.den.neg,.slice c h.c.den.mag.length g]:List Value)++(vecG (Value.int .i64) 8 n))++([])) ([(Zc.mk h.c n)]:List Zc) z z z z z (by decide) (fun _=>by kernel_rfl) ⟨([.bool h.c.num.neg,.slice f h.c.num.mag.length d,.bool h.c.den.neg,.slice c h.c.den.mag.length g]:List Value)++(vecG (Value.int .i64) 8 n),[],z,⟨[.bool h.c.num.neg,.slice f h.c.num.mag.length d,.bool h.c.den.neg,.slice c h.c.den.mag.length g],vecG (Value.int .i64) 8 n,z,⟨(v58' h.c.num f d),(v58' h.c.den c g),z,⟨[.bool h.c.num.neg],[.slice f h.c.num.mag.length d],z,z,⟨_,z,L⟩⟩,⟨[.bool h.c.den.neg],[.slice c h.c.den.mag.length g],z,z,⟨_,z,J⟩⟩⟩,z⟩,z⟩ (key:=999) z (by rw[ag]; rfl) (fun p3 aJ P au=>?_)
      obtain⟨aE,ak,hr⟩:=hr
      refine M' z z (t' E57 z) (eG' ak) z (⟨(O.mono (mt D P)),au⟩) (fun aG aB aa R=>?_)
      obtain⟨aj,ao,rfl,an⟩:=R
      refine sg z z<|u'<|am'<|D'<|b'<|w'<|mv z z<|yy (N' z z) z<|sg z z<|u'<|O' ⟨aE,aj,ao,IntKind.i64.wrap (F+1),aB⟩ hr ⟨(mt (mt (mt o D) P) aa),an⟩ (fc z (fc z (fc z (fc z fn)))) (wk (lc z ln))
    ·refine ae'<|m'<|m'<|J'<|af' ⟨k,l,m,p⟩ ⟨o,O,hr⟩ (fc z fn) (wk ln)
  ·rintro⟨q,t,y,H⟩ ⟨aF,Y,hr⟩
   refine b'<|sr<|mv z z<|sg z z<|sg z z<|nx<|j' ?_
   obtain rfl:_=r:=hr
   exact aI' z z z ⟨_,_,z,Y⟩
theorem ds'{l1 perm1 l1p l1c r}(hr:(Zbb l1 perm1).Ret r):Ctr Tryz.prog 38 #[.slice l1p l1.length l1c,.agg (vecG (Value.int .i64) 8 perm1).toArray] (fun G=>sl a' G l1p l1c l1) (fun G v=>∃ zp zc,v = .slice zp r.length zc∧sl a' G zp zc r):=by
 refine C' (args:=[_,_]) (N:=37) Tryz.func38 z z z (fun w0 G0 Z aj=>?_)
 have M:=aj
 refine sr<|W' 3 z z z fun b1=>sg z z<|nr<|aU' (e:=68) (r:=a') (vs:=#[]) (cs:=[]) ([]:List Za) z z z z z (by decide) (fun _=>by kernel_rfl) (z) (key:=999) z (by rw[Z]; rfl) fun p1 X C ax=>sg z z<|nx<|h'<|sr<|sg z z<|nx<|ab' (fun (⟨p,x,y,t,H⟩:(List Za)×Option Addr×Nat×Option Ow×Mem)=>[(5,.slice x p.length y)]) (fun ⟨p,x,y,t,H⟩=>Mem.le X H∧sl a' H x y p∧Tok 2 68 (.slice x p.length y) p.length t∧(Zer p).Ret r) (fun ⟨p,x,y,t,H⟩=>St w0 G0 H [(1005,t)]) ?_ ?_
 ·refine A' ?_
  let Y:(List Za)→Prop:=fun oo=>((fun ov=>match ov with|p=>Zer p:(List Za)→Comp (List Za)) oo).wp (fun a=>a=r)
  replace hr:(Comp.loop _ _).wp Y:=hr
  refine ac' (Φ:=Y) (fun (⟨l,n,o,m,O,E⟩:(List Za)×Option Addr×Nat×Option Ow×Int×Mem)=>((l,O):(List Za)×Int)) (fun ⟨l,n,o,m,O,E⟩=>[(0,.slice l1p l1.length l1c),(3,.pointer (some ⟨b1,0,none⟩)),(5,.slice n l.length o),(6,i' O)]) (fun ⟨l,n,o,m,O,E⟩=>Mem.le X E∧sl a' E n o l∧Tok 2 68 (.slice n l.length o) l.length m) (fun ⟨l,n,o,m,O,E⟩=>St w0 G0 E [(3,some ⟨b1,.cells (vecG (Value.int .i64) 8 perm1).toArray 83 (0,0),0⟩),(1005,m)]) ⟨[],p1,0,none,0,X⟩ hr (fc z (fc z (fc z (fc z fn)))) ⟨mr,ax,ef'⟩ (wk (lc z (lw ln))) ?_
  ·intro aP gx hx hr
   obtain⟨l,n,o,m,O,E⟩:=gx
   obtain⟨s,P,L⟩:=hx
   refine h'<|sr<|mv z z<|mv z z<|yy (L' q' (M.mono (mt C s)) z) z<|yy (V' z z) z<|nx<|I' hr z (fun aq hr=>?_) (fun aq hr=>?_)
   ·refine n'<|b'<|h'<|A'<|h'<|Z' [false,false,false,false,false,false,false,false,false,true] mix (by kernel_rfl) fun hb=>cn (fun _ j=>f' z)<|cn (fun _ j=>f' z) ?_
    obtain⟨x1,ad,hr⟩:=hr
    refine cn (fun _ j=>P' q' aO' ((M.mono (mt C s)).mono j) z z ad)<|cn (fun _ j=>bq' z) ?_
    obtain⟨p2,aM,av,ao⟩:=bU' (E' (aJ' (aA' (X' M ad))) (mt C s))
    refine cn (fun _ j=>T' bP' z (j _ _ _ av))<|cn (fun _ j=>s' 3 ag83 z z (Q' _ _ _)) ?_
    obtain⟨f,af,hr⟩:=hr
    refine ay' (post:=fun G v=>∃ i g,v = .tuple #[.slice i f.1.length g,i' f.2]∧sl r' G i g f.1) (fun _=>z) (fun _ _=>t' E77 z) (gy' af) z (fun S j=>(ao.mono j)) (fun v G1 G2 j h=>?_) ?_
    ·obtain⟨i,g,rfl,B⟩:=h
     exact⟨_,_,z,B.mono j⟩
    refine bj' (φ:=fun G v=>∃ A k,v = .tuple #[.slice A f.1.length k,i' f.2]∧sl r' G A k f.1) (fun _=>z) (fun v G1 G2 j h=>?_) (fun u S j V=>?_) ?_
    ·obtain⟨A,k,rfl,J⟩:=h
     exact⟨_,_,z,J.mono j⟩
    ·obtain⟨⟨i,g,ab,B⟩,_⟩:=(show (fun G v=>∃ i g,v = .tuple #[.slice i f.1.length g,i' f.2]∧sl r' G i g f.1) S.m (u 23)∧True from V)
     simp only[undFr,ab]
     exact⟨_,f' z,i,g,z,B⟩
    refine bj' (φ:=fun G v=>∃ D q,v = .slice D f.1.length q∧sl r' G D q f.1) (fun _=>z) (fun v G1 G2 j h=>?_) (fun u S j V=>?_) ?_
    ·obtain⟨D,q,rfl,W⟩:=h
     exact⟨_,_,z,W.mono j⟩
    ·obtain⟨⟨A,k,I,J⟩,_,_⟩:=(show (fun G v=>∃ A k,v = .tuple #[.slice A f.1.length k,i' f.2]∧sl r' G A k f.1) S.m (u 16)∧True∧True from V)
     simp only[undFr,I]
     exact⟨_,K' z z,A,k,z,J⟩
    refine bN' (c:=i' f.2) (fun _=>z) (fun u S j V=>?_) ?_
    ·obtain⟨_,⟨A,k,I,J⟩,_,_⟩:=(show True∧(fun G v=>∃ A k,v = .tuple #[.slice A f.1.length k,i' f.2]∧sl r' G A k f.1) S.m (u 16)∧True∧True from V)
     simp only[undFr,I]
     exact K' z z
    refine Chain.tailU3 (d:=24) (post:=fun G v=>∃ D q,v = .slice D f.1.length q∧sl r' G D q f.1) (d':=16) (post':=fun G v=>∃ A k,v = .tuple #[.slice A f.1.length k,i' f.2]∧sl r' G A k f.1) (d'':=23) (post'':=fun G v=>∃ i g,v = .tuple #[.slice i f.1.length g,i' f.2]∧sl r' G i g f.1) (fun aK aF aI aN F T U R=>?_)
    obtain⟨D,q,rfl,W⟩:=T
    obtain⟨A,k,rfl,J⟩:=U
    obtain⟨i,g,rfl,B⟩:=R
    refine sg z z<|sg z z<|u'<|am'<|b'<|w'<|mv z z<|mv z z<|mv z z ?_
    obtain⟨K,ae,hr⟩:=hr
    refine yy (P' q' aO' (M.mono (mt (mt C s) F)) z z ae) z<|yy (bc' z) z<|yy (T' sc3 z (aC' (E' (bb' (aA' (X' M ae))) (mt (mt C s) F)))) z<|mv z z<|yy (aq' (vs:=#[(0,i' K.id),(1,.slice D f.1.length q)]) (v:=.agg ([i' K.id,.slice D f.1.length q]).toArray) z z (fun _=>by kernel_rfl)) z<|aU' (e:=68) (r:=a') (vs:=#[(0,.agg ([i' K.id,.slice D f.1.length q]).toArray)]) (cs:=[i' K.id,.slice D f.1.length q]++([])) ([(Za.mk K.id f.1)]:List Za) z z z z z (by decide) (fun _=>by kernel_rfl) ⟨[i' K.id,.slice D f.1.length q],[],z,⟨[i' K.id],[.slice D f.1.length q],z,z,⟨_,z,W⟩⟩,z⟩ (key:=999) z (by rw[Z]; rfl) (fun p5 aO Q aA=>?_)
    obtain⟨ah,hr⟩:=hr
    refine cE' (r:=a') 1005 z z q' el68 z (by decide) z z (P.mono (mt F Q)) z (by rw[Z]; rfl) L aA ah fun p6 ap ag ar ac aw ai=>sg z z<|u'<|D'<|b'<|w'<|mv z z<|yy (N' z z) z<|sg z z<|u'<|O' ⟨(l++[(Za.mk K.id f.1)]),p6,ap,ag,IntKind.i64.wrap (O+1),ar⟩ hr ⟨(mt (mt (mt s F) Q) ac),aw,ai⟩ (fc z (fc z (fc z (fc z fn)))) (wk (lc z (lc z ln)))
   ·refine ae'<|m'<|m'<|J'<|af' ⟨l,n,o,m,E⟩ ⟨s,P,L,hr⟩ (fc z fn) (wk (lc z ln))
 ·rintro⟨p,x,y,t,H⟩ ⟨aC,aa,al,hr⟩
  refine b'<|sr<|mv z z<|sg z z<|nx<|j' ?_
  obtain rfl:_=r:=hr
  exact k' z z ⟨_,_,z,aa⟩
theorem dV'{l1 x1 l1p l1c x1pp x1pc r}(hr:(Zch l1 x1).Ret r):Ctr Tryz.prog 78 #[.slice l1p l1.length l1c,.agg ((v68' x1.id x1pp x1.p x1pc)).toArray] (fun G=>sl a' G l1p l1c l1∧sl r' G x1pp x1pc x1.p) (fun G v=>∃ zp zc,v = .slice zp r.length zc∧sl a' G zp zc r):=by
 refine C' (args:=[_,_]) (N:=53) Tryz.func78 z z z (fun w0 G0 F ao=>?_)
 obtain⟨E,V⟩:=ao
 refine sr<|W' 3 z z z fun T=>sg z z<|nr<|aU' (e:=68) (r:=a') (vs:=#[]) (cs:=[]) ([]:List Za) z z z z z (by decide) (fun _=>by kernel_rfl) (z) (key:=999) z (by rw[F]; rfl) fun p1 W k aE=>sg z z<|nr<|sg z z<|nx<|h'<|sr<|sg z z<|nx<|ab' (fun (⟨m,x,y,u,s,J⟩:(List Za)×Option Addr×Nat×Option Ow×Bool×Mem)=>[(3,.pointer (some ⟨T,0,none⟩)),(5,.slice x m.length y),(6,.bool s)]) (fun ⟨m,x,y,u,s,J⟩=>Mem.le W J∧sl a' J x y m∧Tok 2 68 (.slice x m.length y) m.length u∧(Zf4 x1 m s).Ret r) (fun ⟨m,x,y,u,s,J⟩=>St w0 G0 J [(3,some ⟨T,.cells ((v68' x1.id x1pp x1.p x1pc)).toArray 68 (0,0),0⟩),(1005,u)]) ?_ ?_
 ·refine A' ?_
  let O:(((List Za)×Bool))→Prop:=fun oo=>((fun ov=>match ov with|(m,s)=>Zf4 x1 m s:(((List Za)×Bool))→Comp (List Za)) oo).wp (fun a=>a=r)
  replace hr:(Comp.loop _ _).wp O:=hr
  refine ac' (Φ:=O) (fun (⟨g,h,i,f,j,I,t⟩:(List Za)×Option Addr×Nat×Option Ow×Bool×Int×Mem)=>((g,j,I):(List Za)×Bool×Int)) (fun ⟨g,h,i,f,j,I,t⟩=>[(0,.slice l1p l1.length l1c),(3,.pointer (some ⟨T,0,none⟩)),(5,.slice h g.length i),(6,.bool j),(7,i' I)]) (fun ⟨g,h,i,f,j,I,t⟩=>Mem.le W t∧sl a' t h i g∧Tok 2 68 (.slice h g.length i) g.length f) (fun ⟨g,h,i,f,j,I,t⟩=>St w0 G0 t [(3,some ⟨T,.cells ((v68' x1.id x1pp x1.p x1pc)).toArray 68 (0,0),0⟩),(1005,f)]) ⟨[],p1,0,none,false,0,W⟩ hr (fc z (fc z (fc z (fc z (fc z fn))))) ⟨mr,aE,ef'⟩ (wk (lc z (lw ln))) ?_
  ·intro aI gx hx hr
   obtain⟨g,h,i,f,j,I,t⟩:=gx
   obtain⟨d,C,B⟩:=hx
   refine h'<|sr<|mv z z<|mv z z<|yy (L' q' (E.mono (mt k d)) z) z<|yy (V' z z) z<|nx<|I' hr z (fun aB hr=>?_) (fun aB hr=>?_)
   ·refine n'<|b'<|h'<|A'<|aV' (fun (⟨l,o,q,n,p,D⟩:(List Za)×Option Addr×Nat×Option Ow×Bool×Mem)=>[(0,.slice l1p l1.length l1c),(3,.pointer (some ⟨T,0,none⟩)),(5,.slice o l.length q),(6,.bool p),(7,i' I)]) (fun ⟨l,o,q,n,p,D⟩=>Mem.le t D∧sl a' D o q l∧Tok 2 68 (.slice o l.length q) l.length n∧(ZdX l1 x1 I l p).wp (Out aI O)) (fun ⟨l,o,q,n,p,D⟩=>St w0 G0 D [(3,some ⟨T,.cells ((v68' x1.id x1pp x1.p x1pc)).toArray 68 (0,0),0⟩),(1005,n)]) ?_ ?_
    ·skip
     refine h'<|Z' [false,false,false,false,false,false,false,false,false,false] mix (by kernel_rfl) fun X=>bY' hr z (fun _ c=>cN' (f' z) (congrArg Value.bool (bdec _))) (fun av hr=>?_) (fun av hr=>?_)
     ·refine cn (fun _ c=>an' z)<|cn (fun _ c=>f' z)<|ct z z<|ct z z<|ct z z<|ct z z<|ct z z<|ct z z<|ct z z<|Y' X<|sk z z z<|yy (l' z z) z<|u'<|am'<|b'<|bh' z<|n'<|ar' ⟨g,h,i,f,j,t⟩ ⟨mr,C,B,hr⟩ (fc z (fc z (fc z (fc z (fc z fn))))) (wk (lc z (lc z ln)))
     ·refine cn (fun _ c=>an' z)<|cn (fun _ c=>f' z)<|cy z z (fun _ c=>f' z)<|cy z z (fun _ c=>f' z) ?_
      obtain⟨x4,ac,hr⟩:=hr
      refine cy z z (fun _ c=>P' q' aO' ((E.mono (mt k d)).mono c) z z ac)<|cy z z (fun _ c=>bc' z)<|cy z z (fun _ c=>T' sc3 z (aC' (E' (E' (bb' (aA' (X' E ac))) (mt k d)) c)))<|cy z z (fun _ c=>bc' z)<|cy z z (fun _ c=>e' 3 sc3 z z z)<|Y' X<|gy z z (be' z z) z<|yy (o' z z) z<|u'<|am'<|b'<|I' hr z (fun ay hr=>?_) (fun ay hr=>?_)
      ·refine sr<|mv z z<|yy (s' 3 bL' z z z) z<|aU' (e:=68) (r:=a') (vs:=#[(0,.agg ((v68' x1.id x1pp x1.p x1pc)).toArray)]) (cs:=(v68' x1.id x1pp x1.p x1pc)++([])) ([x1]:List Za) z z z z z (by decide) (fun _=>by kernel_rfl) ⟨(v68' x1.id x1pp x1.p x1pc),[],z,⟨[i' x1.id],[.slice x1pp x1.p.length x1pc],z,z,⟨_,z,(V.mono (mt k d))⟩⟩,z⟩ (key:=999) z (by rw[F]; rfl) (fun p6 aY R aD=>?_)
       obtain⟨af,hr⟩:=hr
       refine cE' (r:=a') 1005 z z q' el68 z (by decide) z z (C.mono R) z (by rw[F]; rfl) B aD af fun p7 az al aL aa aw ak=>sg z z<|nx<|w'<|sg z z<|u'<|ar' ⟨(g++[x1]),p7,az,al,true,aL⟩ ⟨(mt R aa),aw,ak,hr⟩ (fc z (fc z (fc z (fc z (fc z fn))))) (wk (lc z (lc z ln)))
      ·refine n'<|ar' ⟨g,h,i,f,j,t⟩ ⟨mr,C,B,hr⟩ (fc z (fc z (fc z (fc z (fc z fn))))) (wk (lc z (lc z ln)))
    ·rintro⟨l,o,q,n,p,D⟩ ⟨A,P,M,hr⟩
     refine h'<|Z' [false,false,false,false,false,false,false] mix (by kernel_rfl) fun X=>cn (fun _ c=>f' z)<|cn (fun _ c=>f' z) ?_
     obtain⟨x2,ad,hr⟩:=hr
     refine cn (fun _ c=>P' q' aO' ((E.mono (mt (mt k d) A)).mono c) z z ad)<|cn (fun _ c=>bc' z)<|cn (fun _ c=>T' sc3 z (aC' (E' (E' (bb' (aA' (X' E ad))) (mt (mt k d) A)) c)))<|cn (fun _ c=>bc' z)<|cn (fun _ c=>e' 3 sc3 z z z)<|Y' X<|yy (aQ' z z) z<|u'<|am'<|b'<|I' hr z (fun aG hr=>?_) (fun aG hr=>?_)
     ·refine w'<|mv z z<|mv z z<|mv z z ?_
      obtain⟨H,ae,hr⟩:=hr
      refine yy (P' q' aO' (E.mono (mt (mt k d) A)) z z ae) z ?_
      obtain⟨L,K,au,ap⟩:=bd' (E' (X' E ae) (mt (mt k d) A))
      refine yy (ax' _ bL' z z au) z<|aU' (e:=68) (r:=a') (vs:=#[(0,.agg ((v68' H.id L H.p K)).toArray)]) (cs:=(v68' H.id L H.p K)++([])) ([H]:List Za) z z z z z (by decide) (fun _=>by kernel_rfl) ⟨(v68' H.id L H.p K),[],z,⟨[i' H.id],[.slice L H.p.length K],z,z,⟨_,z,ap⟩⟩,z⟩ (key:=999) z (by rw[F]; rfl) (fun p4 aZ S ar=>?_)
      obtain⟨ag,hr⟩:=hr
      refine cE' (r:=a') 1005 z z q' el68 z (by decide) z z (P.mono S) z (by rw[F]; rfl) M ar ag fun p5 aC am aH ab aJ ah=>sg z z<|u'<|D'<|b'<|w'<|mv z z<|yy (N' z z) z<|sg z z<|u'<|O' ⟨(l++[H]),p5,aC,am,p,IntKind.i64.wrap (I+1),aH⟩ hr ⟨(mt (mt (mt d A) S) ab),aJ,ah⟩ (fc z (fc z (fc z (fc z (fc z fn))))) (wk (lc z (lc z ln)))
     ·refine n'<|D'<|b'<|w'<|mv z z<|yy (N' z z) z<|sg z z<|u'<|O' ⟨l,o,q,n,p,IntKind.i64.wrap (I+1),D⟩ hr ⟨(mt d A),P,M⟩ (fc z (fc z (fc z (fc z (fc z fn))))) (wk (lc z (lc z ln)))
   ·refine ae'<|m'<|m'<|J'<|af' ⟨g,h,i,f,j,t⟩ ⟨d,C,B,hr⟩ (fc z (fc z (fc z fn))) (wk (lc z (lc z ln)))
 ·rintro⟨m,x,y,u,s,J⟩ ⟨Z,Q,U,hr⟩
  refine b'<|h'<|sr<|mv z z<|yy (an' z) z<|nx<|aM' hr z (fun aA hr=>?_) (fun aA hr=>?_)
  ·refine w'<|mv z z<|yy (s' 3 bL' z z z) z<|aU' (e:=68) (r:=a') (vs:=#[(0,.agg ((v68' x1.id x1pp x1.p x1pc)).toArray)]) (cs:=(v68' x1.id x1pp x1.p x1pc)++([])) ([x1]:List Za) z z z z z (by decide) (fun _=>by kernel_rfl) ⟨(v68' x1.id x1pp x1.p x1pc),[],z,⟨[i' x1.id],[.slice x1pp x1.p.length x1pc],z,z,⟨_,z,(V.mono (mt k Z))⟩⟩,z⟩ (key:=999) z (by rw[F]; rfl) (fun p2 aX Y ax=>?_)
   obtain⟨ai,hr⟩:=hr
   refine cE' (r:=a') 1005 z z q' el68 z (by decide) z z (Q.mono Y) z (by rw[F]; rfl) U ax ai fun p3 aW aS a0 aM aq aP=>sg z z<|nr<|mv z z<|sg z z<|nx<|j' ?_
   obtain rfl:_=r:=hr
   exact k' z z ⟨_,_,z,aq⟩
  ·refine n'<|b'<|sr<|mv z z<|sg z z<|nx<|j' ?_
   obtain rfl:_=r:=hr
   exact k' z z ⟨_,_,z,Q⟩
theorem eE'{l1 id1 l1p l1c r}(hr:(Zc2 l1 id1).Ret r):Ctr Tryz.prog 79 #[.slice l1p l1.length l1c,i' id1] (fun G=>sl a' G l1p l1c l1) (fun G v=>∃ Z S,v = .slice Z r.length S∧sl a' G Z S r):=by
 refine C' (args:=[_,_]) (N:=29) Tryz.func79 z z z (fun U T C J=>?_)
 have y:=J
 refine sr<|sg z z<|nr<|aU' (e:=68) (r:=a') (vs:=#[]) (cs:=[]) ([]:List Za) z z z z z (by decide) (fun _=>by kernel_rfl) (z) (key:=999) z (by rw[C]; rfl) fun p1 D m ab=>sg z z<|nx<|h'<|sr<|sg z z<|nx<|ab' (fun (⟨i,l,k,j,q⟩:(List Za)×Option Addr×Nat×Option Ow×Mem)=>[(5,.slice l i.length k)]) (fun ⟨i,l,k,j,q⟩=>Mem.le D q∧sl a' q l k i∧Tok 2 68 (.slice l i.length k) i.length j∧(Zfn i).Ret r) (fun ⟨i,l,k,j,q⟩=>St U T q [(1005,j)]) ?_ ?_
 ·refine A' ?_
  let B:(List Za)→Prop:=fun oo=>((fun ov=>match ov with|i=>Zfn i:(List Za)→Comp (List Za)) oo).wp (fun a=>a=r)
  replace hr:(Comp.loop _ _).wp B:=hr
  refine ac' (Φ:=B) (fun (⟨d,f,g,c,x,n⟩:(List Za)×Option Addr×Nat×Option Ow×Int×Mem)=>((d,x):(List Za)×Int)) (fun ⟨d,f,g,c,x,n⟩=>[(0,.slice l1p l1.length l1c),(1,i' id1),(5,.slice f d.length g),(6,i' x)]) (fun ⟨d,f,g,c,x,n⟩=>Mem.le D n∧sl a' n f g d∧Tok 2 68 (.slice f d.length g) d.length c) (fun ⟨d,f,g,c,x,n⟩=>St U T n [(1005,c)]) ⟨[],p1,0,none,0,D⟩ hr (fc z (fc z (fc z (fc z fn)))) ⟨mr,ab,ef'⟩ (wk (lw ln)) ?_
  ·intro ak gx hx hr
   obtain⟨d,f,g,c,x,n⟩:=gx
   obtain⟨h,u,o⟩:=hx
   refine h'<|sr<|mv z z<|mv z z<|yy (L' q' (y.mono (mt m h)) z) z<|yy (V' z z) z<|nx<|I' hr z (fun R hr=>?_) (fun R hr=>?_)
   ·refine n'<|b'<|h'<|A'<|sr<|mv z z<|mv z z ?_
    obtain⟨x1,H,hr⟩:=hr
    refine yy (P' q' aO' (y.mono (mt m h)) z z H) z<|yy (bc' z) z<|yy (T' sc3 z (aC' (E' (bb' (aA' (X' y H))) (mt m h)))) z<|mv z z<|yy (aQ' z z) z<|nx<|I' hr z (fun V hr=>?_) (fun V hr=>?_)
    ·refine w'<|mv z z<|mv z z<|mv z z ?_
     obtain⟨p,I,hr⟩:=hr
     refine yy (P' q' aO' (y.mono (mt m h)) z z I) z ?_
     obtain⟨s,t,X,L⟩:=bd' (E' (X' y I) (mt m h))
     refine yy (ax' _ bL' z z X) z<|aU' (e:=68) (r:=a') (vs:=#[(0,.agg ((v68' p.id s p.p t)).toArray)]) (cs:=(v68' p.id s p.p t)++([])) ([p]:List Za) z z z z z (by decide) (fun _=>by kernel_rfl) ⟨(v68' p.id s p.p t),[],z,⟨[i' p.id],[.slice s p.p.length t],z,z,⟨_,z,L⟩⟩,z⟩ (key:=999) z (by rw[C]; rfl) (fun p2 aj A P=>?_)
     obtain⟨M,hr⟩:=hr
     refine cE' (r:=a') 1005 z z q' el68 z (by decide) z z (u.mono A) z (by rw[C]; rfl) o P M fun p3 Y K W F Q O=>sg z z<|u'<|D'<|b'<|w'<|mv z z<|yy (N' z z) z<|sg z z<|u'<|O' ⟨(d++[p]),p3,Y,K,IntKind.i64.wrap (x+1),W⟩ hr ⟨(mt (mt h A) F),Q,O⟩ (fc z (fc z (fc z (fc z fn)))) (wk (lc z ln))
    ·refine n'<|D'<|b'<|w'<|mv z z<|yy (N' z z) z<|sg z z<|u'<|O' ⟨d,f,g,c,IntKind.i64.wrap (x+1),n⟩ hr ⟨h,u,o⟩ (fc z (fc z (fc z (fc z fn)))) (wk (lc z ln))
   ·refine ae'<|m'<|m'<|J'<|af' ⟨d,f,g,c,n⟩ ⟨h,u,o,hr⟩ (fc z fn) (wk (lc z ln))
 ·rintro⟨i,l,k,j,q⟩ ⟨ac,E,aa,hr⟩
  refine b'<|sr<|mv z z<|sg z z<|nx<|j' ?_
  obtain rfl:_=r:=hr
  exact k' z z ⟨_,_,z,E⟩
theorem gc'{a0_1 a1_1 a0_1varsp a0_1varsc a0_1eqsp a0_1eqsc a0_1neqsp a0_1neqsc a1_1pp a1_1pc r}(hr:(Zgq a0_1 a1_1).Ret r):Ctr Tryz.prog 40 #[.agg ((v33' a0_1 a0_1varsp a0_1varsc a0_1eqsp a0_1eqsc a0_1neqsp a0_1neqsc)).toArray,.agg ([i' a1_1.kind,.string a1_1.name,i' a1_1.at',i' a1_1.to',i' a1_1.id,.slice a1_1pp a1_1.p.length a1_1pc,.bool a1_1.neq]).toArray] (fun G=>sl Rp.str G a0_1varsp a0_1varsc a0_1.vars∧sl a' G a0_1eqsp a0_1eqsc a0_1.eqs∧sl a' G a0_1neqsp a0_1neqsc a0_1.neqs∧sl r' G a1_1pp a1_1pc a1_1.p) (fun G v=>∃ x t F J u y,v = .agg ((v33' r x t F J u y)).toArray∧sl Rp.str G x t r.vars∧sl a' G F J r.eqs∧sl a' G u y r.neqs):=by
 refine C' (args:=[_,_]) (N:=117) Tryz.func40 z z z (fun w0 G0 bK aX=>?_)
 obtain⟨f,d,c,m⟩:=aX
 refine sr<|W' 2 z z z fun b1=>W' 3 z z z fun b2=>U' 4 z z33 z fun b3=>nr<|yy (s' 2 ag' z z z) z<|U' 5 z z33 z fun b4=>v' 5 z aY' z z z z z (List.all_eq_true.1 z)<|nr<|yy (aL' z) z<|yy (e' 3 sc3 z z z) z<|yy (cI' z) z<|yy (e' 3 bP' z z z) z<|yy (aq' (vs:=#[(0,i' a1_1.id),(1,.slice a1_1pp a1_1.p.length a1_1pc)]) (v:=.agg ((v68' a1_1.id a1_1pp a1_1.p a1_1pc)).toArray) z z (fun _=>by kernel_rfl)) z<|U' 6 z z68 z fun b5=>v' 6 z aO' z z z z z (List.all_eq_true.1 z)<|nx<|h'<|Z' [false,false,false,false,false,false,false,false,false] mix (by kernel_rfl) fun hb=>cn (fun _ e=>az' z)<|cn (fun _ e=>e' 2 aS' z z z)<|cn (fun _ e=>aL' z)<|cn (fun _ e=>e' 3 sc3 z z z) ?_
 obtain⟨bH,au,hr⟩:=hr
 refine bG' z (fun _=>t' E43 z) (dp' au) z (fun G' e=>(d.mono e))<|cn (fun _ e=>aK' z)<|cn (fun _ e=>e' 2 aS' z z z)<|cn (fun _ e=>aL' z)<|cn (fun _ e=>e' 3 sc3 z z z)<|Y' hb ?_
 obtain⟨bM,aF,hr⟩:=hr
 refine H' z z (t' E43 z) (dp' aF) z (c)<|sg z z<|sg z z<|u'<|am'<|b'<|h'<|sr<|yy (bM' z) z<|yy (e' 3 sc3 z z z) z<|nx<|A'<|sr<|yy (ak' z z) z<|sg z z<|nx<|I' hr z (fun bb hr=>?_) (fun bb hr=>?_)
 ·refine aV' (fun (⟨k,n,o,p⟩:Za×Option Addr×Nat×Mem)=>[(2,.pointer (some ⟨b1,0,none⟩)),(3,.pointer (some ⟨b2,0,none⟩)),(4,.pointer (some ⟨b3,0,none⟩)),(5,.pointer (some ⟨b4,0,none⟩)),(6,.pointer (some ⟨b5,0,none⟩))]) (fun ⟨k,n,o,p⟩=>Mem.le G0 p∧sl r' p n o k.p∧(ZaF a0_1 a1_1 k).Ret r) (fun ⟨k,n,o,p⟩=>St w0 G0 p [(2,some ⟨b1,.cells ((v33' a0_1 a0_1varsp a0_1varsc a0_1eqsp a0_1eqsc a0_1neqsp a0_1neqsc)).toArray 33 (0,0),0⟩),(3,some ⟨b2,.cells ([i' a1_1.kind,.string a1_1.name,i' a1_1.at',i' a1_1.to',i' a1_1.id,.slice a1_1pp a1_1.p.length a1_1pc,.bool a1_1.neq]).toArray 40 (0,0),0⟩),(4,some ⟨b3,.cells ([.slice none 0 0,.slice none 0 0,.slice none 0 0,i' 0]).toArray 33 (0,0),0⟩),(5,some ⟨b4,.cells ((v33' a0_1 a0_1varsp a0_1varsc a0_1eqsp a0_1eqsc a0_1neqsp a0_1neqsc)).toArray 33 (0,0),0⟩),(6,some ⟨b5,.cells ((v68' k.id n k.p o)).toArray 68 (0,0),0⟩)]) ?_ ?_
  ·skip
   refine sr<|yy (aL' z) z<|yy (e' 3 sc3 z z z) z<|yy (ak' z z) z<|nx<|I' hr z (fun bh hr=>?_) (fun bh hr=>?_)
   ·refine w'<|yy (bg' z) z<|yy (e' 2 sc3 z z z) z<|yy (bc' z) z<|aw' 6 ([i' a0_1.next,.slice a1_1pp a1_1.p.length a1_1pc]).toArray z sz3 z z z (show 0<2 by decide) z z<|u'<|ar' ⟨(Za.mk a0_1.next a1_1.p),a1_1pp,a1_1pc,G0⟩ ⟨mr,m,hr⟩ (fc z (fc z (fc z (fc z (fc z fn))))) (wk (lc z (lc z (lc z (lc z (lc z ln))))))
   ·refine n'<|ar' ⟨(Za.mk a1_1.id a1_1.p),a1_1pp,a1_1pc,G0⟩ ⟨mr,m,hr⟩ (fc z (fc z (fc z (fc z (fc z fn))))) (wk (lc z (lc z (lc z (lc z (lc z ln))))))
  ·rintro⟨k,n,o,p⟩ ⟨l,H,hr⟩
   refine sr<|yy (bg' z) z<|yy (e' 2 sc3 z z z) z<|yy (bc' z) z<|yy (e' 6 sc3 z z z) z<|yy (N' z z) z<|yy (Y0.max2 z z) z<|yy (bg' z) z<|aw' 5 ([.slice a0_1varsp a0_1.vars.length a0_1varsc,.slice a0_1eqsp a0_1.eqs.length a0_1eqsc,.slice a0_1neqsp a0_1.neqs.length a0_1neqsc,i' (if a0_1.next<(IntKind.i64.wrap (k.id+1)) then (IntKind.i64.wrap (k.id+1)) else a0_1.next)]).toArray z sz3 z z z (show 3<4 by decide) z z<|nr<|yy (dc' z) z<|yy (e' 3 sc4 z z z) z<|nx<|aM' hr z (fun bd hr=>?_) (fun bd hr=>?_)
   ·refine w'<|yy (aK' z) z<|yy (e' 2 aS' z z z) z<|yy (s' 6 bL' z z z) z ?_
    obtain⟨bi,aE,hr⟩:=hr
    refine M' z z (t' E78 z) (dV' aE) z (⟨(c.mono l),H⟩) (fun bB bD L X=>?_)
    obtain⟨aL,av,rfl,aU⟩:=X
    refine yy (aK' z) z<|aw' 5 ([.slice a0_1varsp a0_1.vars.length a0_1varsc,.slice a0_1eqsp a0_1.eqs.length a0_1eqsc,.slice aL bi.length av,i' (if a0_1.next<(IntKind.i64.wrap (k.id+1)) then (IntKind.i64.wrap (k.id+1)) else a0_1.next)]).toArray z cu' z z z (show 2<4 by decide) z z<|u'<|D'<|b'<|sr<|yy (s' 5 ag' z z z) z<|v' 4 z aY' z z z z z (List.all_eq_true.1 z)<|nx<|j' ?_
    obtain rfl:_=r:=hr
    exact k' z (ad' (i:=4) ag' z z z) ⟨_,_,_,_,_,_,z,(f.mono (mt l L)),(d.mono (mt l L)),aU⟩
   ·refine w'<|yy (az' z) z<|yy (e' 2 aS' z z z) z<|yy (s' 6 bL' z z z) z ?_
    obtain⟨a9,az,hr⟩:=hr
    refine M' z z (t' E78 z) (dV' az) z (⟨(d.mono l),H⟩) (fun br bG O T=>?_)
    obtain⟨aG,aN,rfl,aI⟩:=T
    refine yy (az' z) z<|aw' 5 ([.slice a0_1varsp a0_1.vars.length a0_1varsc,.slice aG a9.length aN,.slice a0_1neqsp a0_1.neqs.length a0_1neqsc,i' (if a0_1.next<(IntKind.i64.wrap (k.id+1)) then (IntKind.i64.wrap (k.id+1)) else a0_1.next)]).toArray z cu' z z z (show 1<4 by decide) z z<|u'<|D'<|b'<|sr<|yy (s' 5 ag' z z z) z<|v' 4 z aY' z z z z z (List.all_eq_true.1 z)<|nx<|j' ?_
    obtain rfl:_=r:=hr
    exact k' z (ad' (i:=4) ag' z z z) ⟨_,_,_,_,_,_,z,(f.mono (mt l O)),aI,(c.mono (mt l O))⟩
 ·refine sr<|yy (ak' z z) z<|sg z z<|nx<|I' hr z (fun ba hr=>?_) (fun ba hr=>?_)
  ·refine sr<|yy (az' z) z<|yy (e' 2 aS' z z z) z<|yy (aL' z) z<|yy (e' 3 sc3 z z z) z ?_
   obtain⟨ap,ay,hr⟩:=hr
   refine M' z z (t' E79 z) (eE' ay) z (d) (fun bv bF R U=>?_)
   obtain⟨ad,aa,rfl,aQ⟩:=U
   refine yy (az' z) z<|aw' 5 ([.slice a0_1varsp a0_1.vars.length a0_1varsc,.slice ad ap.length aa,.slice a0_1neqsp a0_1.neqs.length a0_1neqsc,i' a0_1.next]).toArray z cu' z z z (show 1<4 by decide) z z<|nx<|w'<|yy (aK' z) z<|yy (e' 2 aS' z z z) z<|yy (aL' z) z<|yy (e' 3 sc3 z z z) z ?_
   obtain⟨a5,aW,hr⟩:=hr
   refine M' z z (t' E79 z) (eE' aW) z ((c.mono R)) (fun bp bI Q V=>?_)
   obtain⟨aA,aJ,rfl,aB⟩:=V
   refine yy (aK' z) z<|aw' 5 ([.slice a0_1varsp a0_1.vars.length a0_1varsc,.slice ad ap.length aa,.slice aA a5.length aJ,i' a0_1.next]).toArray z cu' z z z (show 2<4 by decide) z z<|u'<|D'<|b'<|sr<|yy (s' 5 ag' z z z) z<|v' 4 z aY' z z z z z (List.all_eq_true.1 z)<|nx<|j' ?_
   obtain rfl:_=r:=hr
   exact k' z (ad' (i:=4) ag' z z z) ⟨_,_,_,_,_,_,z,(f.mono (mt R Q)),(aQ.mono Q),aB⟩
  ·refine sr<|yy (ak' z z) z<|sg z z<|nx<|I' hr z (fun a7 hr=>?_) (fun a7 hr=>?_)
   ·refine sr<|mv z z<|yy (be' z z) z<|nx<|I' hr z (fun a8 hr=>?_) (fun a8 hr=>?_)
    ·refine w'<|yy (az' z) z<|yy (e' 2 aS' z z z) z<|yy (s' 6 bL' z z z) z ?_
     obtain⟨bc,aO,hr⟩:=hr
     refine M' z z (t' E78 z) (dV' aO) z (⟨d,m⟩) (fun bw bE K S=>?_)
     obtain⟨ax,aY,rfl,aK⟩:=S
     refine yy (az' z) z<|aw' 5 ([.slice a0_1varsp a0_1.vars.length a0_1varsc,.slice ax bc.length aY,.slice a0_1neqsp a0_1.neqs.length a0_1neqsc,i' a0_1.next]).toArray z cu' z z z (show 1<4 by decide) z z<|u'<|D'<|b'<|sr<|yy (s' 5 ag' z z z) z<|v' 4 z aY' z z z z z (List.all_eq_true.1 z)<|nx<|j' ?_
     obtain rfl:_=r:=hr
     exact k' z (ad' (i:=4) ag' z z z) ⟨_,_,_,_,_,_,z,(f.mono K),aK,(c.mono K)⟩
    ·refine w'<|yy (aK' z) z<|yy (e' 2 aS' z z z) z<|yy (s' 6 bL' z z z) z ?_
     obtain⟨a2,aR,hr⟩:=hr
     refine M' z z (t' E78 z) (dV' aR) z (⟨c,m⟩) (fun bs bL P W=>?_)
     obtain⟨aH,aM,rfl,aC⟩:=W
     refine yy (aK' z) z<|aw' 5 ([.slice a0_1varsp a0_1.vars.length a0_1varsc,.slice a0_1eqsp a0_1.eqs.length a0_1eqsc,.slice aH a2.length aM,i' a0_1.next]).toArray z cu' z z z (show 2<4 by decide) z z<|u'<|D'<|b'<|sr<|yy (s' 5 ag' z z z) z<|v' 4 z aY' z z z z z (List.all_eq_true.1 z)<|nx<|j' ?_
     obtain rfl:_=r:=hr
     exact k' z (ad' (i:=4) ag' z z z) ⟨_,_,_,_,_,_,z,(f.mono P),(d.mono P),aC⟩
   ·refine sr<|yy (ak' z z) z<|sg z z<|nx<|I' hr z (fun bg hr=>?_) (fun bg hr=>?_)
    ·refine sr<|yy (az' z) z<|yy (e' 2 aS' z z z) z<|yy (aL' z) z<|yy (e' 3 sc3 z z z) z ?_
     obtain⟨Z,aS,hr⟩:=hr
     refine M' z z (t' E79 z) (eE' aS) z (d) (fun bu bJ g Y=>?_)
     obtain⟨C,A,rfl,aP⟩:=Y
     refine yy (az' z) z<|aw' 5 ([.slice a0_1varsp a0_1.vars.length a0_1varsc,.slice C Z.length A,.slice a0_1neqsp a0_1.neqs.length a0_1neqsc,i' a0_1.next]).toArray z cu' z z z (show 1<4 by decide) z z<|nr<|yy (aK' z) z<|yy (e' 2 aS' z z z) z<|yy (aL' z) z<|yy (e' 3 sc3 z z z) z ?_
     obtain⟨ac,am,hr⟩:=hr
     refine M' z z (t' E79 z) (eE' am) z ((c.mono g)) (fun bk bC h E=>?_)
     obtain⟨I,M,rfl,aj⟩:=E
     refine yy (aK' z) z<|aw' 5 ([.slice a0_1varsp a0_1.vars.length a0_1varsc,.slice C Z.length A,.slice I ac.length M,i' a0_1.next]).toArray z cu' z z z (show 2<4 by decide) z z<|nr<|mv z z<|yy (be' z z) z<|nx<|I' hr z (fun bf hr=>?_) (fun bf hr=>?_)
     ·refine Z' [false,false,false,false,false,false,false] mix (by kernel_rfl) fun hb=>cn (fun _ e=>aK' z)<|cn (fun _ e=>e' 2 aS' z z z)<|cn (fun _ e=>az' z)<|cn (fun _ e=>e' 2 aS' z z z)<|cn (fun _ e=>f' z) ?_
      obtain⟨x1,aq,hr⟩:=hr
      refine cn (fun _ e=>P' q' aO' ((d.mono (mt g h)).mono e) z z aq) ?_
      obtain⟨bt,bn,a4,aZ⟩:=bd' (E' (X' d aq) (mt g h))
      refine cn (fun _ e=>ax' _ bL' z z (fun j v hv=>e _ _ _ (a4 j v hv)))<|Y' hb ?_
      obtain⟨aw,al,hr⟩:=hr
      refine M' z z (t' E78 z) (dV' al) z (⟨(c.mono (mt g h)),aZ⟩) (fun bm bo s B=>?_)
      obtain⟨ak,ae,rfl,ao⟩:=B
      refine yy (aK' z) z<|aw' 5 ([.slice a0_1varsp a0_1.vars.length a0_1varsc,.slice C Z.length A,.slice ak aw.length ae,i' a0_1.next]).toArray z cu' z z z (show 2<4 by decide) z z<|u'<|am'<|D'<|b'<|sr<|yy (s' 5 ag' z z z) z<|v' 4 z aY' z z z z z (List.all_eq_true.1 z)<|nx<|j' ?_
      obtain rfl:_=r:=hr
      exact k' z (ad' (i:=4) ag' z z z) ⟨_,_,_,_,_,_,z,(f.mono (mt (mt g h) s)),(aP.mono (mt h s)),ao⟩
     ·refine Z' [false,false,false,false,false,false,false] mix (by kernel_rfl) fun hb=>cn (fun _ e=>az' z)<|cn (fun _ e=>e' 2 aS' z z z)<|cn (fun _ e=>aK' z)<|cn (fun _ e=>e' 2 aS' z z z)<|cn (fun _ e=>f' z) ?_
      obtain⟨x2,ar,hr⟩:=hr
      refine cn (fun _ e=>P' q' aO' ((c.mono (mt g h)).mono e) z z ar) ?_
      obtain⟨bA,bq,bj,aD⟩:=bd' (E' (X' c ar) (mt g h))
      refine cn (fun _ e=>ax' _ bL' z z (fun j v hv=>e _ _ _ (bj j v hv)))<|Y' hb ?_
      obtain⟨aT,af,hr⟩:=hr
      refine M' z z (t' E78 z) (dV' af) z (⟨(d.mono (mt g h)),aD⟩) (fun bl bx q D=>?_)
      obtain⟨ai,ah,rfl,an⟩:=D
      refine yy (az' z) z<|aw' 5 ([.slice a0_1varsp a0_1.vars.length a0_1varsc,.slice ai aT.length ah,.slice I ac.length M,i' a0_1.next]).toArray z cu' z z z (show 1<4 by decide) z z<|u'<|am'<|D'<|b'<|sr<|yy (s' 5 ag' z z z) z<|v' 4 z aY' z z z z z (List.all_eq_true.1 z)<|nx<|j' ?_
      obtain rfl:_=r:=hr
      exact k' z (ad' (i:=4) ag' z z z) ⟨_,_,_,_,_,_,z,(f.mono (mt (mt g h) q)),an,(aj.mono q)⟩
    ·refine n'<|D'<|b'<|sr<|yy (s' 5 ag' z z z) z<|v' 4 z aY' z z z z z (List.all_eq_true.1 z)<|nx<|j' ?_
     obtain rfl:_=r:=hr
     exact k' z (ad' (i:=4) ag' z z z) ⟨_,_,_,_,_,_,z,f,d,c⟩
theorem ek'{a0_1 a1_1 a0_1varsp a0_1varsc a0_1eqsp a0_1eqsc a0_1neqsp a0_1neqsc a1_1pp a1_1pc r}(hr:(Zae a0_1 a1_1).Ret r):Ctr Tryz.prog 15 #[.agg ((v33' a0_1 a0_1varsp a0_1varsc a0_1eqsp a0_1eqsc a0_1neqsp a0_1neqsc)).toArray,.agg ([i' a1_1.kind,.string a1_1.name,i' a1_1.at',i' a1_1.to',i' a1_1.id,.slice a1_1pp a1_1.p.length a1_1pc,.bool a1_1.neq]).toArray] (fun G=>sl Rp.str G a0_1varsp a0_1varsc a0_1.vars∧sl a' G a0_1eqsp a0_1eqsc a0_1.eqs∧sl a' G a0_1neqsp a0_1neqsc a0_1.neqs∧sl r' G a1_1pp a1_1pc a1_1.p) (fun G v=>∃ l m p q o n,v = .tuple #[.agg ((v33' r.1 l m p q o n)).toArray,i' r.2]∧sl Rp.str G l m r.1.vars∧sl a' G p q r.1.eqs∧sl a' G o n r.1.neqs):=by
 refine C' (args:=[_,_]) (N:=157) Tryz.func15 z z z (fun w0 G0 ab bu=>?_)
 obtain⟨d,g,f,A⟩:=bu
 refine sr<|W' 2 z z z fun b1=>W' 3 z z z fun b2=>U' 4 z z33 z fun b3=>sg z z<|nr<|yy (s' 2 ag' z z z) z<|yy (s' 3 bw' z z z) z ?_
 obtain⟨c2,a1,hr⟩:=hr
 refine H' z z (t' E37 z) (fJ' a1) z (⟨d,g,f,A⟩)<|sg z z<|nx<|h'<|sr<|mv z z<|yy (aQ' z z) z<|nx<|I' hr z (fun bR hr=>?_) (fun bR hr=>?_)
 ·refine sr<|yy (aq' (vs:=#[]) (v:=.agg ([.slice none 0 0,.slice none 0 0,.slice none 0 0,i' 0]).toArray) z z (fun _=>by kernel_rfl)) z<|mv z z<|v' 4 z aY' z z z z z (List.all_eq_true.1 z)<|sg z z<|nx<|j' ?_
  replace hr:_=r:=hr
  refine g' ?_
  subst hr
  exact aI' z (ad' (i:=4) ag' z z z) z ⟨_,_,_,_,_,_,z,(aa' Rp.str _),(aa' a' _),(aa' a' _)⟩
 ·refine n'<|b'<|sr<|yy (as' z) z<|yy (e' 2 bo' z z z) z<|yy (L' y' d z) z<|sg z z<|nr<|yy (s' 2 ag' z z z) z<|U' 8 z z33 z fun b4=>v' 8 z aY' z z z z z (List.all_eq_true.1 z)<|nr<|WL.litT (e:=9) (r:=Rp.str) (vs:=#[]) (cs:=[]) ([]:List ByteArray) 4021 z z z z z (by decide) (fun _=>by kernel_rfl) (z) fun p1 cM bV=>yy (as' z) z<|yy (e' 2 bo' z z z) z ?_
  obtain⟨a9,hr⟩:=hr
  refine bW' (r:=Rp.str) (e:=9) 4021 z z y' el9 z (by decide) z z bV z d a9 fun p2 ah cq R=>yy (as' z) z<|aw' 8 ([.slice p2 ([]++a0_1.vars).length ah,.slice a0_1eqsp a0_1.eqs.length a0_1eqsc,.slice a0_1neqsp a0_1.neqs.length a0_1neqsc,i' a0_1.next]).toArray z sz30 z z z (show 0<4 by decide) z z<|nx<|h'<|sr<|yy (bM' z) z<|yy (e' 3 sc3 z z z) z<|nx<|A'<|sr<|yy (ak' z z) z<|sg z z<|nx<|I' hr z (fun bT hr=>?_) (fun bT hr=>?_)
  ·refine h'<|Z' [false,false,false,false,false,false,false,false,false,false,false,false,false,false,false,false] mix (by kernel_rfl) fun j=>Chain.litOwn (r:=Rp.str) (e:=9) ([]:List ByteArray) (fun _=>z) z (by decide) (fun u h c k=>?_) ?_
   ·exact⟨#[],[],z,z,fun _=>by kernel_rfl,z⟩
   refine cu (fun _ _ c=>as' z)<|cu (fun _ _ c=>e' 2 bo' z z z)<|cu (fun _ _ c=>aB' z)<|cu (fun _ _ c=>e' 3 sc3 z z z) ?_
   obtain⟨bE,hr⟩:=hr
   obtain⟨p3,bB,bA,bS⟩:=SlR.cut (r:=Rp.str) none (some (i' a1_1.at')) sz9 z y' d (.inl ⟨z,z⟩) (.inr ⟨_,z⟩) bE
   refine cu (fun _ _ c=>Y0.cutH y' bS z z) ?_
   obtain⟨a5,hr⟩:=hr
   refine dv' (r:=Rp.str) (e:=9) (kk:=33) (xs:=([]:List ByteArray)) ((a0_1.vars.take a1_1.at'.toNat).drop (0:Int).toNat) (fun _=>z) z (by kernel_rfl) (by kernel_rfl) y' el9 z (by decide) a5 (fun u h c k=>?_) ?_
   ·obtain⟨aw,_⟩:=(show (RowX Rp.str 9 33 ([]:List ByteArray)) (u 33) h∧True from k)
    exact⟨u 33,.slice p3 ((a0_1.vars.take a1_1.at'.toNat).drop (0:Int).toNat).length bB,aw,z,z,(bA.mono c)⟩
   refine cu (fun _ _ c=>bV' z)<|cu (fun _ _ c=>e' 3 sc9 z z z)<|eC' (r:=Rp.str) (e:=9) ([a1_1.name]:List ByteArray) (fun _=>z) z (by decide) (fun u h c k=>?_) ?_
   ·exact⟨#[(0,.string a1_1.name)],[.string a1_1.name]++([]),z,z,fun _=>by kernel_rfl,⟨[.string a1_1.name],[],z,z,z⟩⟩
   obtain⟨a3,hr⟩:=hr
   refine dv' (r:=Rp.str) (e:=9) (kk:=39) (xs:=(([]:List ByteArray)++((a0_1.vars.take a1_1.at'.toNat).drop (0:Int).toNat))) [a1_1.name] (fun _=>z) z (by kernel_rfl) (by kernel_rfl) y' el9 z (by decide) a3 (fun u h c k=>?_) ?_
   ·obtain⟨⟨p4,ag,aI,aS⟩,aG,_,_⟩:=(show (fun G v=>∃ p4 ag,v = .slice p4 1 1∧SlRd Rp.str G (.slice p4 1 1) ag [a1_1.name]) h.m (u 42)∧(RowX Rp.str 9 39 (([]:List ByteArray)++((a0_1.vars.take a1_1.at'.toNat).drop (0:Int).toNat))) (u 39) h∧True∧True from k)
    exact⟨u 39,.slice p4 1 1,aG,z,(by simp only[undFr,eatO,List.map_cons,List.map_nil,aI] <;> rfl),aS⟩
   refine cu (fun _ _ c=>as' z)<|cu (fun _ _ c=>e' 2 bo' z z z)<|cu (fun _ _ c=>aB' z)<|cu (fun _ _ c=>e' 3 sc3 z z z) ?_
   obtain⟨bK,hr⟩:=hr
   obtain⟨p5,c1,b0,b6⟩:=SlR.cut (r:=Rp.str) (some (i' a1_1.at')) none sz9 z y' d (.inr ⟨_,z⟩) (.inl ⟨z,z⟩) bK
   refine cu (fun _ _ c=>Y0.cutL y' b6 z z)<|cc' (fun cC cz cN cw X1 M ae ad bw bx=>?_)
   obtain⟨p4,ag,rfl,aS⟩:=ad
   refine WL.adoptR ae (fun cL cx ch bv bo cy=>?_)
   subst bv
   refine bT' (show WL _ _ _ _ _ _ (St w0 G0 X1.m _) from ?_)
   obtain⟨bb,hr⟩:=hr
   refine bW' (r:=Rp.str) (e:=9) 43 z z y' el9 z (by decide) z z bo z (b0.mono M) bb fun p6 ap co bU=>yy (as' z) z<|aw' 8 ([.slice p6 (((([]:List ByteArray)++((a0_1.vars.take a1_1.at'.toNat).drop (0:Int).toNat))++[a1_1.name])++((a0_1.vars.take (a0_1.vars.length:Int).toNat).drop a1_1.at'.toNat)).length ap,.slice a0_1eqsp a0_1.eqs.length a0_1eqsc,.slice a0_1neqsp a0_1.neqs.length a0_1neqsc,i' a0_1.next]).toArray z sz30 z z z (show 0<4 by decide) z z<|u'<|am'<|b'<|h'<|Z' [false,false,false,false,false,false] mix (by kernel_rfl) fun j=>cn (fun _ c=>az' z)<|cn (fun _ c=>e' 2 aS' z z z)<|cn (fun _ c=>f' z)<|cn (fun _ c=>aB' z)<|cn (fun _ c=>e' 3 sc3 z z z) ?_
   obtain⟨cT,bt,hr⟩:=hr
   refine bG' z (fun _=>t' E39 z) (dr' bt) z (fun h c=>trivial)<|Y' j ?_
   obtain⟨aW,bm,hr⟩:=hr
   refine M' z z (t' E38 z) (ds' bm) z ((g.mono M)) (fun cD cV V ac=>?_)
   obtain⟨aj,au,rfl,bg⟩:=ac
   refine yy (az' z) z<|aw' 8 ([.slice p6 (((([]:List ByteArray)++((a0_1.vars.take a1_1.at'.toNat).drop (0:Int).toNat))++[a1_1.name])++((a0_1.vars.take (a0_1.vars.length:Int).toNat).drop a1_1.at'.toNat)).length ap,.slice aj aW.length au,.slice a0_1neqsp a0_1.neqs.length a0_1neqsc,i' a0_1.next]).toArray z cu' z z z (show 1<4 by decide) z z<|u'<|am'<|b'<|Z' [false,false,false,false,false,false] mix (by kernel_rfl) fun j=>cn (fun _ c=>aK' z)<|cn (fun _ c=>e' 2 aS' z z z)<|cn (fun _ c=>f' z)<|cn (fun _ c=>aB' z)<|cn (fun _ c=>e' 3 sc3 z z z) ?_
   obtain⟨cO,bp,hr⟩:=hr
   refine bG' z (fun _=>t' E39 z) (dr' bp) z (fun h c=>trivial)<|Y' j ?_
   obtain⟨bD,bq,hr⟩:=hr
   refine M' z z (t' E38 z) (ds' bq) z ((f.mono (mt M V))) (fun cA c0 X af=>?_)
   obtain⟨a8,a2,rfl,bn⟩:=af
   refine yy (aK' z) z<|aw' 8 ([.slice p6 (((([]:List ByteArray)++((a0_1.vars.take a1_1.at'.toNat).drop (0:Int).toNat))++[a1_1.name])++((a0_1.vars.take (a0_1.vars.length:Int).toNat).drop a1_1.at'.toNat)).length ap,.slice aj aW.length au,.slice a8 bD.length a2,i' a0_1.next]).toArray z cu' z z z (show 2<4 by decide) z z<|u'<|am'<|D'<|b'<|sr<|bv' (r:=Rp.str) (e:=9) 43 (bU.mono (mt V X)) z (by rw[ab]; rfl) fun cS cZ aa ba cb=>yy (s' 8 ag' z z z) z<|v' 4 z aY' z z z z z (List.all_eq_true.1 z)<|sg z z<|nx<|j' ?_
   obtain rfl:_=r:=hr
   exact aI' z (ad' (i:=4) ag' z z z) z ⟨_,_,_,_,_,_,z,ba,(bg.mono (mt X aa)),(bn.mono aa)⟩
  ·refine sr<|yy (ak' z z) z<|sg z z<|nx<|I' hr z (fun bY hr=>?_) (fun bY hr=>?_)
   ·refine h'<|Z' [false,false,false,false,false,false,false,false,false,false,false,false,false] mix (by kernel_rfl) fun j=>Chain.litOwn (r:=Rp.str) (e:=9) ([]:List ByteArray) (fun _=>z) z (by decide) (fun u h c k=>?_) ?_
    ·exact⟨#[],[],z,z,fun _=>by kernel_rfl,z⟩
    refine cu (fun _ _ c=>as' z)<|cu (fun _ _ c=>e' 2 bo' z z z)<|cu (fun _ _ c=>aB' z)<|cu (fun _ _ c=>e' 3 sc3 z z z) ?_
    obtain⟨bC,hr⟩:=hr
    obtain⟨p7,bQ,bF,bX⟩:=SlR.cut (r:=Rp.str) none (some (i' a1_1.at')) sz9 z y' d (.inl ⟨z,z⟩) (.inr ⟨_,z⟩) bC
    refine cu (fun _ _ c=>Y0.cutH y' bX z z) ?_
    obtain⟨br,hr⟩:=hr
    refine dv' (r:=Rp.str) (e:=9) (kk:=69) (xs:=([]:List ByteArray)) ((a0_1.vars.take a1_1.at'.toNat).drop (0:Int).toNat) (fun _=>z) z (by kernel_rfl) (by kernel_rfl) y' el9 z (by decide) br (fun u h c k=>?_) ?_
    ·obtain⟨an,_⟩:=(show (RowX Rp.str 9 69 ([]:List ByteArray)) (u 69) h∧True from k)
     exact⟨u 69,.slice p7 ((a0_1.vars.take a1_1.at'.toNat).drop (0:Int).toNat).length bQ,an,z,z,(bF.mono c)⟩
    refine cu (fun _ _ c=>as' z)<|cu (fun _ _ c=>e' 2 bo' z z z)<|cu (fun _ _ c=>aB' z)<|cu (fun _ _ c=>e' 3 sc3 z z z)<|cu (fun _ _ c=>N' z z) ?_
    obtain⟨bJ,hr⟩:=hr
    obtain⟨p8,cY,bG,b7⟩:=SlR.cut (r:=Rp.str) (some (i' (IntKind.i64.wrap (a1_1.at'+1)))) none sz9 z y' d (.inr ⟨_,z⟩) (.inl ⟨z,z⟩) bJ
    refine cu (fun _ _ c=>Y0.cutL y' b7 z z)<|dx' fun cd cc X2 I F bk=>WL.adoptR F (fun ce b8 bW aL aO cj=>?_)
    subst aL
    refine bT' (show WL _ _ _ _ _ _ (St w0 G0 X2.m _) from ?_)
    obtain⟨bi,hr⟩:=hr
    refine bW' (r:=Rp.str) (e:=9) 75 z z y' el9 z (by decide) z z aO z (bG.mono I) bi fun p9 ao cF bH=>yy (as' z) z<|aw' 8 ([.slice p9 ((([]:List ByteArray)++((a0_1.vars.take a1_1.at'.toNat).drop (0:Int).toNat))++((a0_1.vars.take (a0_1.vars.length:Int).toNat).drop (IntKind.i64.wrap (a1_1.at'+1)).toNat)).length ao,.slice a0_1eqsp a0_1.eqs.length a0_1eqsc,.slice a0_1neqsp a0_1.neqs.length a0_1neqsc,i' a0_1.next]).toArray z sz30 z z z (show 0<4 by decide) z z<|u'<|am'<|b'<|h'<|Z' [false,false,false,false,false,false,false] mix (by kernel_rfl) fun j=>cn (fun _ c=>az' z)<|cn (fun _ c=>e' 2 aS' z z z)<|cn (fun _ c=>aB' z)<|cn (fun _ c=>e' 3 sc3 z z z)<|cn (fun _ c=>f' z)<|cn (fun _ c=>bf' z z) ?_
    obtain⟨cG,az,hr⟩:=hr
    refine bG' z (fun _=>t' E39 z) (dr' az) z (fun h c=>trivial)<|Y' j ?_
    obtain⟨al,aK,hr⟩:=hr
    refine M' z z (t' E38 z) (ds' aK) z ((g.mono I)) (fun cm c4 Z L=>?_)
    obtain⟨S,Q,rfl,aC⟩:=L
    refine yy (az' z) z<|aw' 8 ([.slice p9 ((([]:List ByteArray)++((a0_1.vars.take a1_1.at'.toNat).drop (0:Int).toNat))++((a0_1.vars.take (a0_1.vars.length:Int).toNat).drop (IntKind.i64.wrap (a1_1.at'+1)).toNat)).length ao,.slice S al.length Q,.slice a0_1neqsp a0_1.neqs.length a0_1neqsc,i' a0_1.next]).toArray z cu' z z z (show 1<4 by decide) z z<|u'<|am'<|b'<|Z' [false,false,false,false,false,false,false] mix (by kernel_rfl) fun j=>cn (fun _ c=>aK' z)<|cn (fun _ c=>e' 2 aS' z z z)<|cn (fun _ c=>aB' z)<|cn (fun _ c=>e' 3 sc3 z z z)<|cn (fun _ c=>f' z)<|cn (fun _ c=>bf' z z) ?_
    obtain⟨cI,aE,hr⟩:=hr
    refine bG' z (fun _=>t' E39 z) (dr' aE) z (fun h c=>trivial)<|Y' j ?_
    obtain⟨a6,aF,hr⟩:=hr
    refine M' z z (t' E38 z) (ds' aF) z ((f.mono (mt I Z))) (fun ci cX U O=>?_)
    obtain⟨aA,aN,rfl,aH⟩:=O
    refine yy (aK' z) z<|aw' 8 ([.slice p9 ((([]:List ByteArray)++((a0_1.vars.take a1_1.at'.toNat).drop (0:Int).toNat))++((a0_1.vars.take (a0_1.vars.length:Int).toNat).drop (IntKind.i64.wrap (a1_1.at'+1)).toNat)).length ao,.slice S al.length Q,.slice aA a6.length aN,i' a0_1.next]).toArray z cu' z z z (show 2<4 by decide) z z<|u'<|am'<|D'<|b'<|sr<|bv' (r:=Rp.str) (e:=9) 75 (bH.mono (mt Z U)) z (by rw[ab]; rfl) fun cQ c6 Y a7 ca=>yy (s' 8 ag' z z z) z<|v' 4 z aY' z z z z z (List.all_eq_true.1 z)<|sg z z<|nx<|j' ?_
    obtain rfl:_=r:=hr
    exact aI' z (ad' (i:=4) ag' z z z) z ⟨_,_,_,_,_,_,z,a7,(aC.mono (mt U Y)),(aH.mono Y)⟩
   ·refine sr<|yy (ak' z z) z<|sg z z<|nx<|I' hr z (fun bO hr=>?_) (fun bO hr=>?_)
    ·refine w'<|yy (as' z) z<|yy (e' 8 bo' z z z) z<|yy (aB' z) z<|yy (e' 3 sc3 z z z) z<|yy (bV' z) z<|yy (e' 3 sc9 z z z) z ?_
     obtain⟨x1,aV,hr⟩:=hr
     refine yy (aZ' y' sz9 R z z aV) z<|by' (r:=Rp.str) (e:=9) (cs':=[.string a1_1.name]) (i:=a1_1.at') (z':=a1_1.name) 4021 z sz9 z R z z z z z aV fun c3 bd=>u'<|D'<|b'<|sr<|bv' (r:=Rp.str) (e:=9) 4021 bd z (by rw[ab]; rfl) fun cP c5 P ai ck=>yy (s' 8 ag' z z z) z<|v' 4 z aY' z z z z z (List.all_eq_true.1 z)<|sg z z<|nx<|j' ?_
     obtain rfl:_=r:=hr
     exact aI' z (ad' (i:=4) ag' z z z) z ⟨_,_,_,_,_,_,(by rw[cY' ai]),(cR' ai),(g.mono P),(f.mono P)⟩
    ·refine sr<|yy (ak' z z) z<|sg z z<|nx<|I' hr z (fun bI hr=>?_) (fun bI hr=>?_)
     ·refine sr ?_
      obtain⟨s,aP,hr⟩:=hr
      refine H' z z (t' E39 z) (dr' aP) z (trivial)<|U' 9 z z83 z fun b5=>v' 9 z sz83 z z z (Q' _ _ _) (Q' _ _ _) (fun u k=>Rp.one (cx' .i64 8) (G:=G0) (x:=s) (cs:=vecG (Value.int .i64) 8 s) z u (by first|simpa using k|simpa [Value.cells] using k))<|nr<|yy (aB' z) z<|yy (e' 3 sc3 z z z) z<|yy (cr' z) z<|yy (e' 3 sc3 z z z) z ?_
      obtain⟨bz,hr⟩:=hr
      refine yy (aX' ba' sz3 z z bz) z<|aw' 9 (vecG (Value.int .i64) 8 (setF s a1_1.at'.toNat a1_1.to')).toArray z sz3 z z z (by first|(rw[Q']; omega)|(show _<(vecG _ _ _).toArray.size; rw[Q']; omega)) z (bX' _ _ _ _ _)<|nr<|yy (cr' z) z<|yy (e' 3 sc3 z z z) z<|yy (aB' z) z<|yy (e' 3 sc3 z z z) z ?_
      obtain⟨bL,hr⟩:=hr
      refine yy (aX' ba' sz3 z z bL) z<|aw' 9 (vecG (Value.int .i64) 8 (setF (setF s a1_1.at'.toNat a1_1.to') a1_1.to'.toNat a1_1.at')).toArray z sz3 z z z (by first|(rw[Q']; omega)|(show _<(vecG _ _ _).toArray.size; rw[Q']; omega)) z (bX' _ _ _ _ _)<|nx<|h'<|Z' [false,false,false,false,false,false,false,false,false,false] mix (by kernel_rfl) fun j=>cn (fun _ c=>as' z)<|cn (fun _ c=>e' 8 bo' z z z)<|cn (fun _ c=>aB' z)<|cn (fun _ c=>e' 3 sc3 z z z)<|cn (fun _ c=>as' z)<|cn (fun _ c=>e' 2 bo' z z z)<|cn (fun _ c=>cr' z)<|cn (fun _ c=>e' 3 sc3 z z z) ?_
      obtain⟨x2,aY,hr⟩:=hr
      refine cn (fun _ c=>P' y' sz9 (d.mono c) z z aY)<|cn (fun _ c=>T' sc9 z (bB' (E' (X' d aY) c)))<|Y' j ?_
      obtain⟨x3,aZ,hr⟩:=hr
      refine yy (aZ' y' sz9 R z z aZ) z<|by' (r:=Rp.str) (e:=9) (cs':=[.string x2]) (i:=a1_1.at') (z':=x2) 4021 z sz9 z R z z z z z aZ fun cU ak=>u'<|am'<|b'<|h'<|Z' [false,false,false,false,false,false,false,false,false,false] mix (by kernel_rfl) fun j=>cn (fun _ c=>as' z)<|cn (fun _ c=>e' 8 bo' z z z)<|cn (fun _ c=>cr' z)<|cn (fun _ c=>e' 3 sc3 z z z)<|cn (fun _ c=>as' z)<|cn (fun _ c=>e' 2 bo' z z z)<|cn (fun _ c=>aB' z)<|cn (fun _ c=>e' 3 sc3 z z z) ?_
      obtain⟨x4,aU,hr⟩:=hr
      refine cn (fun _ c=>P' y' sz9 (d.mono c) z z aU)<|cn (fun _ c=>T' sc9 z (bB' (E' (X' d aU) c)))<|Y' j ?_
      obtain⟨x5,a0,hr⟩:=hr
      refine yy (aZ' y' sz9 ak z z a0) z<|by' (r:=Rp.str) (e:=9) (cs':=[.string x4]) (i:=a1_1.to') (z':=x4) 4021 z sz9 z ak z z z z z a0 fun cR bj=>u'<|am'<|b'<|sr<|yy (az' z) z<|yy (e' 2 aS' z z z) z<|yy (s' 9 ag83 z z (Q' _ _ _)) z ?_
      obtain⟨am,ay,hr⟩:=hr
      refine M' z z (t' E38 z) (ds' ay) z (g) (fun cg cr y K=>?_)
      obtain⟨T,W,rfl,aJ⟩:=K
      refine yy (az' z) z<|aw' 8 ([.slice p2 ([]++a0_1.vars).length ah,.slice T am.length W,.slice a0_1neqsp a0_1.neqs.length a0_1neqsc,i' a0_1.next]).toArray z cu' z z z (show 1<4 by decide) z z<|nx<|w'<|yy (aK' z) z<|yy (e' 2 aS' z z z) z<|yy (s' 9 ag83 z z (Q' _ _ _)) z ?_
      obtain⟨bh,ax,hr⟩:=hr
      refine M' z z (t' E38 z) (ds' ax) z ((f.mono y)) (fun b9 cH t H=>?_)
      obtain⟨av,aB,rfl,aD⟩:=H
      refine yy (aK' z) z<|aw' 8 ([.slice p2 ([]++a0_1.vars).length ah,.slice T am.length W,.slice av bh.length aB,i' a0_1.next]).toArray z cu' z z z (show 2<4 by decide) z z<|u'<|D'<|b'<|sr<|bv' (r:=Rp.str) (e:=9) 4021 (bj.mono (mt y t)) z (by rw[ab]; rfl) fun cW cK D aq cl=>yy (s' 8 ag' z z z) z<|v' 4 z aY' z z z z z (List.all_eq_true.1 z)<|sg z z<|nx<|j' ?_
      obtain rfl:_=r:=hr
      exact aI' z (ad' (i:=4) ag' z z z) z ⟨_,_,_,_,_,_,(by rw[cY' aq]),(cR' aq),(aJ.mono (mt t D)),(aD.mono D)⟩
     ·refine sr<|yy (s' 2 ag' z z z) z<|yy (s' 3 bw' z z z) z ?_
      obtain⟨cv,aM,hr⟩:=hr
      refine M' z z (t' E40 z) (gc' aM) z (⟨d,g,f,A⟩) (fun cf cE bM E=>?_)
      obtain⟨aR,aX,bf,bl,aT,aQ,rfl,B,J,C⟩:=E
      refine v' 4 z aY' z z z z z (List.all_eq_true.1 z)<|sg z z<|nx<|j' ?_
      replace hr:_=r:=hr
      refine x'<|g' ?_
      subst hr
      exact aI' z (ad' (i:=4) ag' z z z) z ⟨_,_,_,_,_,_,z,B,J,C⟩
theorem dd'{l1 most1 l1p l1c r}(hr:(Zh0 l1 most1).Ret r):Ctr Tryz.prog 11 #[.slice l1p l1.length l1c,i' most1] (fun G=>sl bQ' G l1p l1c l1) (fun G v=>∃ ap al aw ax an aq,v = .agg ((v33' r ap al aw ax an aq)).toArray∧sl Rp.str G ap al r.vars∧sl a' G aw ax r.eqs∧sl a' G an aq r.neqs):=by
 refine C' (args:=[_,_]) (N:=36) Tryz.func11 z z z (fun w0 G0 bj a0=>?_)
 have aM:=a0
 refine sr<|U' 4 z z33 z fun b1=>nr<|yy (aq' (vs:=#[(3,i' 1)]) (v:=.agg ([.slice none 0 0,.slice none 0 0,.slice none 0 0,i' 1]).toArray) z z (fun _=>by kernel_rfl)) z<|U' 5 z z33 z fun b2=>v' 5 z aY' z z z z z (List.all_eq_true.1 z)<|nx<|h'<|sr<|sg z z<|nx<|ab' (fun (⟨X,F,D,R,P,H,I,ab⟩:Zb×Option Addr×Nat×Option Addr×Nat×Option Addr×Nat×Mem)=>[(4,.pointer (some ⟨b1,0,none⟩)),(5,.pointer (some ⟨b2,0,none⟩))]) (fun ⟨X,F,D,R,P,H,I,ab⟩=>Mem.le G0 ab∧sl Rp.str ab F D X.vars∧sl a' ab R P X.eqs∧sl a' ab H I X.neqs∧(Zfm X).Ret r) (fun ⟨X,F,D,R,P,H,I,ab⟩=>St w0 G0 ab [(4,some ⟨b1,.cells ([.slice none 0 0,.slice none 0 0,.slice none 0 0,i' 0]).toArray 33 (0,0),0⟩),(5,some ⟨b2,.cells ((v33' X F D R P H I)).toArray 33 (0,0),0⟩)]) ?_ ?_
 ·refine A' ?_
  let aH:Zb→Prop:=fun oo=>((fun ov=>match ov with|X=>Zfm X:Zb→Comp Zb) oo).wp (fun a=>a=r)
  replace hr:(Comp.loop _ _).wp aH:=hr
  refine ac' (Φ:=aH) (fun (⟨i1,V,p,q,y,x,s,t,W⟩:Int×Zb×Option Addr×Nat×Option Addr×Nat×Option Addr×Nat×Mem)=>((i1,V):Int×Zb)) (fun ⟨i1,V,p,q,y,x,s,t,W⟩=>[(0,.slice l1p l1.length l1c),(1,i' most1),(4,.pointer (some ⟨b1,0,none⟩)),(5,.pointer (some ⟨b2,0,none⟩)),(6,i' i1)]) (fun ⟨i1,V,p,q,y,x,s,t,W⟩=>Mem.le G0 W∧sl Rp.str W p q V.vars∧sl a' W y x V.eqs∧sl a' W s t V.neqs) (fun ⟨i1,V,p,q,y,x,s,t,W⟩=>St w0 G0 W [(4,some ⟨b1,.cells ([.slice none 0 0,.slice none 0 0,.slice none 0 0,i' 0]).toArray 33 (0,0),0⟩),(5,some ⟨b2,.cells ((v33' V p q y x s t)).toArray 33 (0,0),0⟩)]) ⟨0,(Zb.mk [] [] [] 1),none,0,none,0,none,0,G0⟩ hr (fc z (fc z (fc z (fc z (fc z fn))))) ⟨mr,(aa' _ _),(aa' _ _),(aa' _ _)⟩ (wk (lc z (lc z ln))) ?_
  ·intro bi gx hx hr
   obtain⟨i1,V,p,q,y,x,s,t,W⟩:=gx
   obtain⟨U,E,T,J⟩:=hx
   refine h'<|sr<|mv z z<|mv z z<|yy (L' dG' (aM.mono U) z) z<|aj' hr z (V' z z) z (fun a2 hr=>?_) (fun a2 hr=>?_)
   ·refine mv z z<|gy z z (f' z) z<|gy z z (f' z) z<|gy z z (V' z z) z<|yy (o' z z) z<|nx<|I' hr z (fun a3 hr=>?_) (fun a3 hr=>?_)
    ·refine n'<|b'<|h'<|A'<|h'<|Z' [false,false,false,false,false,false,false,false,false,false,true,false] mix (by kernel_rfl) fun hb=>cn (fun _ d=>s' 5 ag' z z z)<|cn (fun _ d=>s' 5 ag' z z z)<|cn (fun _ d=>f' z)<|cn (fun _ d=>f' z) ?_
     obtain⟨x1,aS,hr⟩:=hr
     refine cn (fun _ d=>P' dG' sz76 ((aM.mono U).mono d) z z aS) ?_
     obtain⟨a6,a5,a1,aQ⟩:=Zkq (E' (X' aM aS) U)
     refine cn (fun _ d=>ax' _ ag76 z z (fun j v hv=>d _ _ _ (a1 j v hv))) ?_
     obtain⟨A,aT,hr⟩:=hr
     refine ay' (post:=fun G v=>∃ L K,v = .agg ([i' A.kind,.string A.name,i' A.at',i' A.to',i' A.id,.slice L A.p.length K,.bool A.neq]).toArray∧sl r' G L K A.p) (fun _=>z) (fun _ _=>t' E34 z) (ga' aT) z (fun G' d=>⟨(E.mono d),(T.mono d),(J.mono d),(aQ.mono d)⟩) (fun v G1 G2 d h=>?_) ?_
     ·obtain⟨L,K,rfl,ac⟩:=h
      exact⟨_,_,z,ac.mono d⟩
     obtain⟨m,aV,hr⟩:=hr
     refine cU' (f:=15) (φ:=fun G v=>∃ k e o n g l,v = .tuple #[.agg ((v33' m.1 k e o n g l)).toArray,i' m.2]∧sl Rp.str G k e m.1.vars∧sl a' G o n m.1.eqs∧sl a' G g l m.1.neqs) (fun _=>z) (fun v G1 G2 d h=>?_) (fun u G' d hu=>?_) ?_
     ·obtain⟨k,e,o,n,g,l,rfl,C,M,B⟩:=h
      exact⟨_,_,_,_,_,_,z,C.mono d,M.mono d,B.mono d⟩
     ·obtain⟨⟨L,K,aR,ac⟩,_⟩:=(show (fun G v=>∃ L K,v = .agg ([i' A.kind,.string A.name,i' A.at',i' A.to',i' A.id,.slice L A.p.length K,.bool A.neq]).toArray∧sl r' G L K A.p) G'.m (u 28)∧True from hu)
      exact⟨_,_,_,fun _=>t' E15 z,ek' aV,(by simp only[aR] <;> rfl),⟨(E.mono d),(T.mono d),(J.mono d),ac⟩⟩
     refine bj' (φ:=fun G v=>∃ p1 S Z O Y Q,v = .tuple #[.agg ((v33' m.1 p1 S Z O Y Q)).toArray,i' m.2]∧sl Rp.str G p1 S m.1.vars∧sl a' G Z O m.1.eqs∧sl a' G Y Q m.1.neqs) (fun _=>z) (fun v G1 G2 d h=>?_) (fun u G' d hu=>?_) ?_
     ·obtain⟨p1,S,Z,O,Y,Q,rfl,ao,aj,ag⟩:=h
      exact⟨_,_,_,_,_,_,z,ao.mono d,aj.mono d,ag.mono d⟩
     ·obtain⟨⟨k,e,o,n,g,l,aO,C,M,B⟩,_,_⟩:=(show (fun G v=>∃ k e o n g l,v = .tuple #[.agg ((v33' m.1 k e o n g l)).toArray,i' m.2]∧sl Rp.str G k e m.1.vars∧sl a' G o n m.1.eqs∧sl a' G g l m.1.neqs) G'.m (u 29)∧True∧True from hu)
      simp only[undFr,aO]
      exact⟨_,f' z,k,e,o,n,g,l,z,C,M,B⟩
     refine bj' (φ:=fun G v=>∃ p4 af p5 am p6 ak,v = .agg ((v33' m.1 p4 af p5 am p6 ak)).toArray∧sl Rp.str G p4 af m.1.vars∧sl a' G p5 am m.1.eqs∧sl a' G p6 ak m.1.neqs) (fun _=>z) (fun v G1 G2 d h=>?_) (fun u G' d hu=>?_) ?_
     ·obtain⟨p4,af,p5,am,p6,ak,rfl,aF,aK,aJ⟩:=h
      exact⟨_,_,_,_,_,_,z,aF.mono d,aK.mono d,aJ.mono d⟩
     ·obtain⟨⟨p1,S,Z,O,Y,Q,ae,ao,aj,ag⟩,_,_,_⟩:=(show (fun G v=>∃ p1 S Z O Y Q,v = .tuple #[.agg ((v33' m.1 p1 S Z O Y Q)).toArray,i' m.2]∧sl Rp.str G p1 S m.1.vars∧sl a' G Z O m.1.eqs∧sl a' G Y Q m.1.neqs) G'.m (u 21)∧True∧True∧True from hu)
      simp only[undFr,ae]
      exact⟨_,K' z z,p1,S,Z,O,Y,Q,z,ao,aj,ag⟩
     refine bN' (c:=i' m.2) (fun _=>z) (fun u G' d hu=>?_) ?_
     ·obtain⟨_,⟨p1,S,Z,O,Y,Q,ae,ao,aj,ag⟩,_,_,_⟩:=(show True∧(fun G v=>∃ p1 S Z O Y Q,v = .tuple #[.agg ((v33' m.1 p1 S Z O Y Q)).toArray,i' m.2]∧sl Rp.str G p1 S m.1.vars∧sl a' G Z O m.1.eqs∧sl a' G Y Q m.1.neqs) G'.m (u 21)∧True∧True∧True from hu)
      simp only[undFr,ae]
      exact K' z z
     refine bm' (fun _=>z) z33<|Chain.tailX5 (fun bh ba bf a9 bc X1 ad aI az aC aD ay=>?_)
     obtain⟨b3,rfl,aY⟩:=aI
     obtain⟨p4,af,p5,am,p6,ak,rfl,aF,aK,aJ⟩:=az
     obtain⟨p1,S,Z,O,Y,Q,rfl,ao,aj,ag⟩:=aC
     obtain⟨k,e,o,n,g,l,rfl,C,M,B⟩:=aD
     obtain⟨L,K,rfl,ac⟩:=ay
     refine ci' aY (bT' (show WL _ _ _ _ _ _ (St w0 G0 X1.m _) from ?_))
     refine v' 7 z aY' z z z z z (List.all_eq_true.1 z)<|sg z z<|u'<|am'<|b'<|sr<|mv z z<|yy (ak' z z) z<|nx<|I' hr z (fun a4 hr=>?_) (fun a4 hr=>?_)
     ·refine w'<|yy (s' 7 ag' z z z) z<|v' 5 z aY' z z z z z (List.all_eq_true.1 z)<|u'<|D'<|b'<|w'<|mv z z<|yy (N' z z) z<|sg z z<|u'<|O' ⟨IntKind.i64.wrap (i1+1),m.1,p4,af,p5,am,p6,ak,X1.m⟩ hr ⟨(mt U ad),aF,aK,aJ⟩ (fc z (fc z (fc z (fc z (fc z fn))))) (wk (lc z (lc z ln)))
     ·refine n'<|D'<|b'<|w'<|mv z z<|yy (N' z z) z<|sg z z<|u'<|O' ⟨IntKind.i64.wrap (i1+1),V,p,q,y,x,s,t,X1.m⟩ hr ⟨(mt U ad),(E.mono ad),(T.mono ad),(J.mono ad)⟩ (fc z (fc z (fc z (fc z (fc z fn))))) (wk (lc z (lc z ln)))
    ·refine ae'<|m'<|m'<|J'<|af' ⟨V,p,q,y,x,s,t,W⟩ ⟨U,E,T,J,hr⟩ (fc z (fc z fn)) (wk (lc z (lc z ln)))
   ·refine mv z z<|sk z z z<|sk z z z<|sk z z z<|yy (l' z z) z<|nx<|bh' z<|ae'<|m'<|m'<|J'<|af' ⟨V,p,q,y,x,s,t,W⟩ ⟨U,E,T,J,hr⟩ (fc z (fc z fn)) (wk (lc z (lc z ln)))
 ·rintro⟨X,F,D,R,P,H,I,ab⟩ ⟨a7,au,aA,av,hr⟩
  refine b'<|sr<|yy (s' 5 ag' z z z) z<|v' 4 z aY' z z z z z (List.all_eq_true.1 z)<|nx<|j' ?_
  obtain rfl:_=r:=hr
  exact k' z (ad' (i:=4) ag' z z z) ⟨_,_,_,_,_,_,z,au,aA,av⟩
theorem hl'{s1 l1 s1varsp s1varsc s1eqsp s1eqsc s1neqsp s1neqsc l1p l1c r}(hr:(Zol s1 l1).Ret r):Ctr Tryz.prog 21 #[.agg ((v33' s1 s1varsp s1varsc s1eqsp s1eqsc s1neqsp s1neqsc)).toArray,.slice l1p l1.length l1c] (fun G=>sl Rp.str G s1varsp s1varsc s1.vars∧sl a' G s1eqsp s1eqsc s1.eqs∧sl a' G s1neqsp s1neqsc s1.neqs∧sl ah' G l1p l1c l1) (fun G v=>∃ ao au aB aA ar aq,v = .agg ([.slice ao r.s.vars.length au,.slice aB r.s.eqs.length aA,.slice ar r.s.neqs.length aq,i' r.s.next,i' r.n,i' r.e]).toArray∧sl Rp.str G ao au r.s.vars∧sl a' G aB aA r.s.eqs∧sl a' G ar aq r.s.neqs):=by
 refine C' (args:=[_,_]) (N:=33) Tryz.func21 z z z (fun w0 G0 bw bc=>?_)
 obtain⟨aK,a0,aL,aI⟩:=bc
 refine sr<|W' 2 z z z fun b1=>U' 4 z z50 z fun b2=>nx<|h'<|sr<|sg z z<|nx<|ab' (fun (⟨V,C,B,K,J,D,E,Z,O,M,U,W,P,Q,ad⟩:Zb×Option Addr×Nat×Option Addr×Nat×Option Addr×Nat×Zt×Option Addr×Nat×Option Addr×Nat×Option Addr×Nat×Mem)=>[(1,.slice l1p l1.length l1c),(2,.pointer (some ⟨b1,0,none⟩)),(4,.pointer (some ⟨b2,0,none⟩))]) (fun ⟨V,C,B,K,J,D,E,Z,O,M,U,W,P,Q,ad⟩=>Mem.le G0 ad∧sl Rp.str ad C B V.vars∧sl a' ad K J V.eqs∧sl a' ad D E V.neqs∧sl Rp.str ad O M Z.s.vars∧sl a' ad U W Z.s.eqs∧sl a' ad P Q Z.s.neqs∧(ZgH l1 V).Ret r) (fun ⟨V,C,B,K,J,D,E,Z,O,M,U,W,P,Q,ad⟩=>St w0 G0 ad [(2,some ⟨b1,.cells ((v33' V C B K J D E)).toArray 33 (0,0),0⟩),(4,some ⟨b2,.cells ([.slice O Z.s.vars.length M,.slice U Z.s.eqs.length W,.slice P Z.s.neqs.length Q,i' Z.s.next,i' Z.n,i' Z.e]).toArray 50 (0,0),0⟩)]) ?_ ?_
 ·refine A' ?_
  let aV:(Zt⊕(Zb×Zt))→Prop:=fun oo=>((fun ov=>match ov with | .inl rv1=>Comp.ret rv1 | .inr (V,Z)=>ZgH l1 V:(Zt⊕(Zb×Zt))→Comp Zt) oo).wp (fun a=>a=r)
  replace hr:(Comp.loop _ _).wp aV:=hr
  refine ac' (Φ:=aV) (fun (⟨i1,ae,H,y,L,I,F,A,R,o,s,t,x,p,q,ab⟩:Int×Zb×Option Addr×Nat×Option Addr×Nat×Option Addr×Nat×Zt×Option Addr×Nat×Option Addr×Nat×Option Addr×Nat×Mem)=>((i1,ae,R):Int×Zb×Zt)) (fun ⟨i1,ae,H,y,L,I,F,A,R,o,s,t,x,p,q,ab⟩=>[(1,.slice l1p l1.length l1c),(2,.pointer (some ⟨b1,0,none⟩)),(4,.pointer (some ⟨b2,0,none⟩)),(5,i' i1)]) (fun ⟨i1,ae,H,y,L,I,F,A,R,o,s,t,x,p,q,ab⟩=>Mem.le G0 ab∧sl Rp.str ab H y ae.vars∧sl a' ab L I ae.eqs∧sl a' ab F A ae.neqs∧sl Rp.str ab o s R.s.vars∧sl a' ab t x R.s.eqs∧sl a' ab p q R.s.neqs) (fun ⟨i1,ae,H,y,L,I,F,A,R,o,s,t,x,p,q,ab⟩=>St w0 G0 ab [(2,some ⟨b1,.cells ((v33' ae H y L I F A)).toArray 33 (0,0),0⟩),(4,some ⟨b2,.cells ([.slice o R.s.vars.length s,.slice t R.s.eqs.length x,.slice p R.s.neqs.length q,i' R.s.next,i' R.n,i' R.e]).toArray 50 (0,0),0⟩)]) ⟨0,s1,s1varsp,s1varsc,s1eqsp,s1eqsc,s1neqsp,s1neqsc,(Zt.mk (Zb.mk [] [] [] 0) 0 0),none,0,none,0,none,0,G0⟩ hr (fc z (fc z (fc z (fc z fn)))) ⟨mr,aK,a0,aL,(aa' _ _),(aa' _ _),(aa' _ _)⟩ (wk (lc z (lc z ln))) ?_
  ·intro bv gx hx hr
   obtain⟨i1,ae,H,y,L,I,F,A,R,o,s,t,x,p,q,ab⟩:=gx
   obtain⟨af,al,ap,an,aj,am,ak⟩:=hx
   refine h'<|sr<|mv z z<|mv z z<|yy (L' ao' (aI.mono af) z) z<|yy (V' z z) z<|nx<|I' hr z (fun bg hr=>?_) (fun bg hr=>?_)
   ·refine n'<|b'<|h'<|A'<|h'<|Z' [false,false,false,false,false,false,false,false,true,false] mix (by kernel_rfl) fun hb=>cn (fun _ n=>s' 2 ag' z z z)<|cn (fun _ n=>f' z)<|cn (fun _ n=>f' z) ?_
    obtain⟨x1,a7,hr⟩:=hr
    refine cn (fun _ n=>P' ao' bF' ((aI.mono af).mono n) z z a7) ?_
    obtain⟨bo,bk,be,bd⟩:=cG' (E' (X' aI a7) af)
    refine cn (fun _ n=>ax' _ bw' z z (fun j v hv=>n _ _ _ (be j v hv))) ?_
    obtain⟨d,a8,hr⟩:=hr
    refine ay' (post:=fun G v=>∃ f k l m e g,v = .tuple #[.agg ((v33' d.1 f k l m e g)).toArray,i' d.2]∧sl Rp.str G f k d.1.vars∧sl a' G l m d.1.eqs∧sl a' G e g d.1.neqs) (fun _=>z) (fun _ _=>t' E15 z) (ek' a8) z (fun G' n=>⟨(al.mono n),(ap.mono n),(an.mono n),(bd.mono n)⟩) (fun v G1 G2 n h=>?_) ?_
    ·obtain⟨f,k,l,m,e,g,rfl,T,X,S⟩:=h
     exact⟨_,_,_,_,_,_,z,T.mono n,X.mono n,S.mono n⟩
    refine bj' (φ:=fun G v=>∃ p1 ac p2 Y p3 aa,v = .tuple #[.agg ((v33' d.1 p1 ac p2 Y p3 aa)).toArray,i' d.2]∧sl Rp.str G p1 ac d.1.vars∧sl a' G p2 Y d.1.eqs∧sl a' G p3 aa d.1.neqs) (fun _=>z) (fun v G1 G2 n h=>?_) (fun u G' n hu=>?_) ?_
    ·obtain⟨p1,ac,p2,Y,p3,aa,rfl,aF,aC,az⟩:=h
     exact⟨_,_,_,_,_,_,z,aF.mono n,aC.mono n,az.mono n⟩
    ·obtain⟨⟨f,k,l,m,e,g,a3,T,X,S⟩,_⟩:=(show (fun G v=>∃ f k l m e g,v = .tuple #[.agg ((v33' d.1 f k l m e g)).toArray,i' d.2]∧sl Rp.str G f k d.1.vars∧sl a' G l m d.1.eqs∧sl a' G e g d.1.neqs) G'.m (u 20)∧True from hu)
     simp only[undFr,a3]
     exact⟨_,f' z,f,k,l,m,e,g,z,T,X,S⟩
    refine bj' (φ:=fun G v=>∃ p4 ay p5 aE p6 aD,v = .agg ((v33' d.1 p4 ay p5 aE p6 aD)).toArray∧sl Rp.str G p4 ay d.1.vars∧sl a' G p5 aE d.1.eqs∧sl a' G p6 aD d.1.neqs) (fun _=>z) (fun v G1 G2 n h=>?_) (fun u G' n hu=>?_) ?_
    ·obtain⟨p4,ay,p5,aE,p6,aD,rfl,aT,aY,aX⟩:=h
     exact⟨_,_,_,_,_,_,z,aT.mono n,aY.mono n,aX.mono n⟩
    ·obtain⟨⟨p1,ac,p2,Y,p3,aa,av,aF,aC,az⟩,_,_⟩:=(show (fun G v=>∃ p1 ac p2 Y p3 aa,v = .tuple #[.agg ((v33' d.1 p1 ac p2 Y p3 aa)).toArray,i' d.2]∧sl Rp.str G p1 ac d.1.vars∧sl a' G p2 Y d.1.eqs∧sl a' G p3 aa d.1.neqs) G'.m (u 14)∧True∧True from hu)
     simp only[undFr,av]
     exact⟨_,K' z z,p1,ac,p2,Y,p3,aa,z,aF,aC,az⟩
    refine bN' (c:=i' d.2) (fun _=>z) (fun u G' n hu=>?_) ?_
    ·obtain⟨_,⟨p1,ac,p2,Y,p3,aa,av,aF,aC,az⟩,_,_⟩:=(show True∧(fun G v=>∃ p1 ac p2 Y p3 aa,v = .tuple #[.agg ((v33' d.1 p1 ac p2 Y p3 aa)).toArray,i' d.2]∧sl Rp.str G p1 ac d.1.vars∧sl a' G p2 Y d.1.eqs∧sl a' G p3 aa d.1.neqs) G'.m (u 14)∧True∧True from hu)
     simp only[undFr,av]
     exact K' z z
    refine bm' (fun _=>z) z33<|cc' (fun bu bs bm bp X1 ax aW aP aQ aJ=>?_)
    obtain⟨b3,rfl,ba⟩:=aW
    obtain⟨p4,ay,p5,aE,p6,aD,rfl,aT,aY,aX⟩:=aP
    obtain⟨p1,ac,p2,Y,p3,aa,rfl,aF,aC,az⟩:=aQ
    obtain⟨f,k,l,m,e,g,rfl,T,X,S⟩:=aJ
    refine ci' ba (bT' (show WL _ _ _ _ _ _ (St w0 G0 X1.m _) from ?_))
    refine v' 6 z aY' z z z z z (List.all_eq_true.1 z)<|sg z z<|u'<|am'<|b'<|h'<|sr<|mv z z<|yy (aQ' z z) z<|nx<|I' hr z (fun bj hr=>?_) (fun bj hr=>?_)
    ·refine sr<|mv z z<|mv z z<|yy (aq' (vs:=#[(1,i' i1),(2,i' d.2)]) (v:=.agg ([.slice none 0 0,.slice none 0 0,.slice none 0 0,i' 0,i' i1,i' d.2]).toArray) z z (fun _=>by kernel_rfl)) z<|v' 4 z sz50 z z z z z (List.all_eq_true.1 z)<|nx<|j' ?_
     replace hr:_=r:=hr
     refine g'<|x'<|g'<|g'<|x'<|aH'<|g' ?_
     subst hr
     exact k' z (ad' (i:=4) ag50 z z z) ⟨_,_,_,_,_,_,z,(aa' Rp.str _),(aa' a' _),(aa' a' _)⟩
    ·refine n'<|b'<|w'<|yy (s' 6 ag' z z z) z<|v' 2 z aY' z z z z z (List.all_eq_true.1 z)<|u'<|D'<|b'<|w'<|mv z z<|yy (N' z z) z<|sg z z<|u'<|O' ⟨IntKind.i64.wrap (i1+1),d.1,p4,ay,p5,aE,p6,aD,R,o,s,t,x,p,q,X1.m⟩ hr ⟨(mt af ax),aT,aY,aX,(aj.mono ax),(am.mono ax),(ak.mono ax)⟩ (fc z (fc z (fc z (fc z fn)))) (wk (lc z (lc z ln)))
   ·refine ae'<|m'<|m'<|J'<|af' ⟨ae,H,y,L,I,F,A,R,o,s,t,x,p,q,ab⟩ ⟨af,al,ap,an,aj,am,ak,hr⟩ (fc z (fc z (fc z fn))) (wk (lc z (lc z ln)))
 ·rintro⟨V,C,B,K,J,D,E,Z,O,M,U,W,P,Q,ad⟩ ⟨a4,aG,aN,aH,a5,a9,a6,hr⟩
  refine b'<|sr<|yy (s' 2 ag' z z z) z<|mv z z<|yy (L' ao' (aI.mono a4) z) z<|yy (aq' (vs:=#[(0,.agg ((v33' V C B K J D E)).toArray),(1,i' (l1.length:Int))]) (v:=.agg ([.slice C V.vars.length B,.slice K V.eqs.length J,.slice D V.neqs.length E,i' V.next,i' (l1.length:Int),i' 0]).toArray) z z (fun _=>by kernel_rfl)) z<|v' 4 z sz50 z z z z z (List.all_eq_true.1 z)<|nx<|j' ?_
  obtain rfl:_=r:=hr
  exact k' z (ad' (i:=4) ag50 z z z) ⟨_,_,_,_,_,_,z,aG,aN,aH⟩
theorem fs'{p1 n1 p1p p1c r}(hr:(ZdW p1 n1).Ret r):Ctr Tryz.prog 80 #[.slice p1p p1.length p1c,i' n1] (fun G=>sl r' G p1p p1c p1) (fun G v=>v = .bool r):=by
 refine C' (args:=[_,_]) (N:=21) Tryz.func80 z z z (fun o n k d=>?_)
 have c:=d
 refine sr<|sg z z<|nr<|mv z z ?_
 obtain⟨h,g,hr⟩:=hr
 refine H' z z (t' E125 z) (fI' g) z (c) ?_
 cases h
 ·skip
  refine mv z z<|sk z z z<|sk z z z<|sk z z z<|yy (l' z z) z<|mv z z<|sk z z z<|sk z z z<|sk z z z<|sk z z z<|sk z z z<|sk z z z<|sk z z z<|yy (l' z z) z<|sg z z<|nx<|j' ?_
  obtain rfl:_=r:=hr
  exact k' z z z
 ·skip
  refine mv z z<|gy z z (f' z) z ?_
  obtain⟨m,f,hr⟩:=hr
  refine H' (F' z z) z (t' E126 z) (fr' f) z (c)<|aj' hr (F' z z) (bD' z z) z (fun i hr=>?_) (fun i hr=>?_)
  ·refine yy (o' z z) z<|mv z z<|gy z z (f' z) z ?_
   obtain⟨l,e,hr⟩:=hr
   refine H' (F' z z) z (t' E121 z) (eD' e) z (c)<|gy z z (aD' aT' au' z) z<|gy z z (f' z) z<|gy z z (aD' au' dz' z) z ?_
   obtain⟨j,hr⟩:=hr
   refine gy z z (Y0.shl z z j) z<|gy z z (V' z z) z<|yy (o' z z) z<|sg z z<|nx<|j' ?_
   obtain rfl:_=r:=hr
   exact k' z z z
  ·refine yy (o' z z) z<|mv z z<|sk z z z<|sk z z z<|sk z z z<|sk z z z<|sk z z z<|sk z z z<|sk z z z<|yy (l' z z) z<|sg z z<|nx<|j' ?_
   obtain rfl:_=r:=hr
   exact k' z z z
theorem gd'{l1 n1 next1 l1p l1c r}(hr:(Zeo l1 n1 next1).Ret r):Ctr Tryz.prog 46 #[.slice l1p l1.length l1c,i' n1,i' next1] (fun G=>sl a' G l1p l1c l1) (fun G v=>v = .bool r):=by
 refine C' (args:=[_,_,_]) (N:=60) Tryz.func46 z z z (fun F l W u=>?_)
 have e:=u
 refine sr<|sg z z<|nx<|h'<|sr<|mv z z<|yy (L' q' e z) z<|yy (bt' z z) z<|nx<|I' hr z (fun B hr=>?_) (fun B hr=>?_)
 ·exact (show False from hr).elim
 ·refine n'<|b'<|h'<|sr<|sg z z<|nx<|ab' (fun (i:Mem)=>match i with|g=>[]) (fun (i:Mem)=>match i with|g=>Mem.le l g∧(Zfl).Ret r) (fun (i:Mem)=>match i with|g=>St F l g []) ?_ ?_
  ·refine A' ?_
   let k:(Bool⊕Unit)→Prop:=fun P=>((fun R=>match R with | .inl rv1=>Comp.ret rv1 | .inr ()=>Zfl:(Bool⊕Unit)→Comp Bool) P).wp (fun a=>a=r)
   replace hr:(Comp.loop _ _).wp k:=hr
   refine ac' (Φ:=k) (fun (⟨h,f⟩:Int×Mem)=>(h:Int)) (fun ⟨h,f⟩=>[(0,.slice l1p l1.length l1c),(1,i' n1),(2,i' next1),(7,i' h)]) (fun ⟨h,f⟩=>Mem.le l f) (fun ⟨h,f⟩=>St F l f []) ⟨0,l⟩ hr (fc z (fc z (fc z (fc z fn)))) mr (wk ln) ?_
   ·intro V i Q hr
    obtain⟨h,f⟩:=i
    have d:=Q
    refine h'<|sr<|mv z z<|mv z z<|yy (L' q' (e.mono d) z) z<|yy (V' z z) z<|nx<|I' hr z (fun H hr=>?_) (fun H hr=>?_)
    ·refine n'<|b'<|h'<|A'<|h'<|Z' [false,false,false,false,false,false,false,false,false,false,false,false,false,false,false,false,false,false,false,false,false,false,false,false,false,false,false,false,false,false,false,false,false,false,false,false,false,false,false,false] mix (by kernel_rfl) fun j=>cn (fun _ c=>f' z)<|cn (fun _ c=>f' z) ?_
     obtain⟨x1,o,hr⟩:=hr
     refine cn (fun _ c=>P' q' aO' ((e.mono d).mono c) z z o)<|cn (fun _ c=>bc' z)<|cn (fun _ c=>T' sc3 z (aC' (E' (E' (bb' (aA' (X' e o))) d) c)))<|bY' hr z (fun _ c=>V' z z) (fun C hr=>?_) (fun C hr=>?_)
     ·refine cn (fun _ c=>f' z)<|cf z z<|cf z z<|cf z z<|cf z z<|cf z z<|cf z z<|cf z z<|cn (fun _ c=>o' z z)<|cn (fun _ c=>f' z)<|cf z z<|cf z z<|cf z z<|cs z z<|cs z z<|cs z z<|cs z z<|cs z z<|cs z z<|cs z z<|cs z z<|cs z z<|cs z z<|cs z z<|cs z z<|cf z z<|cn (fun _ c=>o' z z)<|cn (fun _ c=>f' z)<|cf z z<|cf z z<|cf z z<|cf z z<|cf z z<|cf z z<|Y' j<|sf z z z<|sf z z z<|yy (o' z z) z<|u'<|am'<|b'<|at' z<|sr<|sg z z<|nx<|j' ?_
      replace hr:_=r:=hr
      refine x'<|g'<|g'<|x'<|aH'<|g' ?_
      subst hr
      exact k' z z z
     ·refine cn (fun _ c=>f' z)<|cy z z (fun _ c=>f' z)<|cy z z (fun _ c=>f' z) ?_
      obtain⟨x2,p,hr⟩:=hr
      refine cy z z (fun _ c=>P' q' aO' ((e.mono d).mono c) z z p)<|cy z z (fun _ c=>bc' z)<|cy z z (fun _ c=>T' sc3 z (aC' (E' (E' (bb' (aA' (X' e p))) d) c)))<|cy z z (fun _ c=>f' z)<|bY' hr (F' z z) (fun _ c=>be' z z) (fun E hr=>?_) (fun E hr=>?_)
      ·refine cn (fun _ c=>l' z z)<|cn (fun _ c=>f' z)<|cf z z<|cf z z<|cf z z<|cs z z<|cs z z<|cs z z<|cs z z<|cs z z<|cs z z<|cs z z<|cs z z<|cs z z<|cs z z<|cs z z<|cs z z<|cf z z<|cn (fun _ c=>o' z z)<|cn (fun _ c=>f' z)<|cf z z<|cf z z<|cf z z<|cf z z<|cf z z<|cf z z<|Y' j<|sf z z z<|sf z z z<|yy (o' z z) z<|u'<|am'<|b'<|at' z<|sr<|sg z z<|nx<|j' ?_
       replace hr:_=r:=hr
       refine x'<|g'<|g'<|x'<|aH'<|g' ?_
       subst hr
       exact k' z z z
      ·refine cn (fun _ c=>l' z z)<|cn (fun _ c=>f' z)<|cy z z (fun _ c=>f' z)<|bY' hr (F' z z) (fun _ c=>bt' z z) (fun K hr=>?_) (fun K hr=>?_)
       ·refine cy z z (fun _ c=>f' z)<|cy z z (fun _ c=>f' z)<|cy z z (fun _ c=>f' z)<|cy z z (fun _ c=>bf' z z) ?_
        obtain⟨Y,q,hr⟩:=hr
        refine cy z z (fun _ c=>P' q' aO' ((e.mono d).mono c) z z q)<|cy z z (fun _ c=>bc' z)<|cy z z (fun _ c=>T' sc3 z (aC' (E' (E' (bb' (aA' (X' e q))) d) c)))<|cy z z (fun _ c=>f' z)<|cy z z (fun _ c=>f' z) ?_
        obtain⟨Z,m,hr⟩:=hr
        refine cy z z (fun _ c=>P' q' aO' ((e.mono d).mono c) z z m)<|cy z z (fun _ c=>bc' z)<|cy z z (fun _ c=>T' sc3 z (aC' (E' (E' (bb' (aA' (X' e m))) d) c)))<|bY' hr (F' z z) (fun _ c=>be' z z) (fun I hr=>?_) (fun I hr=>?_)
        ·refine cy z z (fun _ c=>o' z z)<|cn (fun _ c=>l' z z)<|cn (fun _ c=>f' z)<|cf z z<|cf z z<|cf z z<|cf z z<|cf z z<|cf z z<|Y' j<|sf z z z<|sf z z z<|yy (o' z z) z<|u'<|am'<|b'<|at' z<|sr<|sg z z<|nx<|j' ?_
         replace hr:_=r:=hr
         refine x'<|g'<|g'<|x'<|aH'<|g' ?_
         subst hr
         exact k' z z z
        ·refine cy z z (fun _ c=>o' z z)<|cn (fun _ c=>l' z z)<|cn (fun _ c=>f' z)<|cy z z (fun _ c=>f' z)<|cy z z (fun _ c=>f' z) ?_
         obtain⟨x5,s,hr⟩:=hr
         refine cy z z (fun _ c=>P' q' aO' ((e.mono d).mono c) z z s)<|cy z z (fun _ c=>bq' z) ?_
         obtain⟨p1,U,J,M⟩:=bU' (E' (aJ' (aA' (X' e s))) d)
         refine cy z z (fun _ c=>T' bP' z (c _ _ _ J))<|cy z z (fun _ c=>f' z)<|Y' j ?_
         obtain⟨S,t,hr⟩:=hr
         refine H' (F' z z) z (t' E80 z) (fs' t) z (M)<|gy z z (an' z) z<|yy (l' z z) z<|u'<|am'<|b'<|aM' hr z (fun D hr=>?_) (fun D hr=>?_)
         ·exact (show False from hr).elim
         ·refine n'<|D'<|b'<|w'<|mv z z<|yy (N' z z) z<|sg z z<|u'<|O' ⟨IntKind.i64.wrap (h+1),f⟩ hr d (fc z (fc z (fc z (fc z fn)))) (wk ln)
       ·refine cy z z (fun _ c=>f' z)<|ct z z<|ct z z<|ct z z<|ct z z<|ct z z<|ct z z<|ct z z<|ct z z<|ct z z<|ct z z<|ct z z<|ct z z<|cy z z (fun _ c=>l' z z)<|cn (fun _ c=>l' z z)<|cn (fun _ c=>f' z)<|cy z z (fun _ c=>f' z)<|cy z z (fun _ c=>f' z) ?_
        obtain⟨x6,n,hr⟩:=hr
        refine cy z z (fun _ c=>P' q' aO' ((e.mono d).mono c) z z n)<|cy z z (fun _ c=>bq' z) ?_
        obtain⟨p2,T,L,y⟩:=bU' (E' (aJ' (aA' (X' e n))) d)
        refine cy z z (fun _ c=>T' bP' z (c _ _ _ L))<|cy z z (fun _ c=>f' z)<|Y' j ?_
        obtain⟨X,x,hr⟩:=hr
        refine H' (F' z z) z (t' E80 z) (fs' x) z (y)<|gy z z (an' z) z<|yy (l' z z) z<|u'<|am'<|b'<|aM' hr z (fun A hr=>?_) (fun A hr=>?_)
        ·exact (show False from hr).elim
        ·refine n'<|D'<|b'<|w'<|mv z z<|yy (N' z z) z<|sg z z<|u'<|O' ⟨IntKind.i64.wrap (h+1),f⟩ hr d (fc z (fc z (fc z (fc z fn)))) (wk ln)
    ·refine ae'<|m'<|m'<|J'<|af' f ⟨d,hr⟩ fn (wk ln)
  ·rintro g ⟨O,hr⟩
   refine b'<|sr<|sg z z<|nx<|j' ?_
   obtain rfl:_=r:=hr
   exact k' z z z
theorem fK'{a0_1 a0_1varsp a0_1varsc a0_1eqsp a0_1eqsc a0_1neqsp a0_1neqsc r}(hr:(ZeQ a0_1).Ret r):Ctr Tryz.prog 22 #[.agg ((v33' a0_1 a0_1varsp a0_1varsc a0_1eqsp a0_1eqsc a0_1neqsp a0_1neqsc)).toArray] (fun G=>sl Rp.str G a0_1varsp a0_1varsc a0_1.vars∧sl a' G a0_1eqsp a0_1eqsc a0_1.eqs∧sl a' G a0_1neqsp a0_1neqsc a0_1.neqs) (fun G v=>v = .bool r):=by
 refine C' (args:=[_]) (N:=96) Tryz.func22 z z z (fun H C ax ab=>?_)
 obtain⟨e,l,i⟩:=ab
 refine sr<|W' 1 z z z fun p=>sg z z<|nr<|yy (as' z) z<|yy (e' 1 bo' z z z) z<|yy (L' y' e z) z<|sg z z<|nx<|aV' (fun (d:Mem)=>match d with|x=>[(1,.pointer (some ⟨p,0,none⟩)),(3,i' (a0_1.vars.length:Int))]) (fun (d:Mem)=>match d with|x=>Mem.le C x∧(ZgG a0_1).Ret r) (fun (d:Mem)=>match d with|x=>St H C x [(1,some ⟨p,.cells ((v33' a0_1 a0_1varsp a0_1varsc a0_1eqsp a0_1eqsc a0_1neqsp a0_1neqsc)).toArray 33 (0,0),0⟩)]) ?_ ?_
 ·skip
  refine sr<|mv z z<|aj' hr z (bt' z z) z (fun ah hr=>?_) (fun ah hr=>?_)
  ·refine mv z z<|sf z z z<|sf z z z<|sf z z z<|yy (o' z z) z<|mv z z<|sf z z z<|sf z z z<|sf z z z<|yy (o' z z) z<|mv z z<|sf z z z<|sf z z z<|sf z z z<|sf z z z<|sf z z z<|sf z z z<|sf z z z<|yy (o' z z) z<|mv z z<|sf z z z<|sf z z z<|sf z z z<|sf z z z<|sf z z z<|sf z z z<|sf z z z<|yy (o' z z) z<|nx<|at' z<|sr<|sg z z<|nx<|j' ?_
   replace hr:_=r:=hr
   refine g' ?_
   subst hr
   exact k' z z z
  ·refine mv z z<|gy z z (bg' z) z<|gy z z (e' 1 sc3 z z z) z<|aj' hr (F' z z) (V' z z) z (fun aj hr=>?_) (fun aj hr=>?_)
   ·refine yy (l' z z) z<|mv z z<|sf z z z<|sf z z z<|sf z z z<|yy (o' z z) z<|mv z z<|sf z z z<|sf z z z<|sf z z z<|sf z z z<|sf z z z<|sf z z z<|sf z z z<|yy (o' z z) z<|mv z z<|sf z z z<|sf z z z<|sf z z z<|sf z z z<|sf z z z<|sf z z z<|sf z z z<|yy (o' z z) z<|nx<|at' z<|sr<|sg z z<|nx<|j' ?_
    replace hr:_=r:=hr
    refine g' ?_
    subst hr
    exact k' z z z
   ·refine yy (l' z z) z<|mv z z<|gy z z (bg' z) z<|gy z z (e' 1 sc3 z z z) z<|aj' hr (F' z z) (bt' z z) z (fun ao hr=>?_) (fun ao hr=>?_)
    ·refine yy (l' z z) z<|mv z z<|sf z z z<|sf z z z<|sf z z z<|sf z z z<|sf z z z<|sf z z z<|sf z z z<|yy (o' z z) z<|mv z z<|sf z z z<|sf z z z<|sf z z z<|sf z z z<|sf z z z<|sf z z z<|sf z z z<|yy (o' z z) z<|nx<|at' z<|sr<|sg z z<|nx<|j' ?_
     replace hr:_=r:=hr
     refine g' ?_
     subst hr
     exact k' z z z
    ·refine yy (l' z z) z<|mv z z<|gy z z (az' z) z<|gy z z (e' 1 aS' z z z) z<|gy z z (f' z) z<|gy z z (bg' z) z<|gy z z (e' 1 sc3 z z z) z ?_
     obtain⟨ap,ad,hr⟩:=hr
     refine H' (F' z z) z (t' E46 z) (gd' ad) z (l) ?_
     cases ap
     ·skip
      refine gy z z (an' z) z<|yy (l' z z) z<|mv z z<|sf z z z<|sf z z z<|sf z z z<|sf z z z<|sf z z z<|sf z z z<|sf z z z<|yy (o' z z) z<|nx<|at' z<|sr<|sg z z<|nx<|j' ?_
      replace hr:_=r:=hr
      refine g' ?_
      subst hr
      exact k' z z z
     ·skip
      refine gy z z (an' z) z<|yy (l' z z) z<|mv z z<|gy z z (aK' z) z<|gy z z (e' 1 aS' z z z) z<|gy z z (f' z) z<|gy z z (bg' z) z<|gy z z (e' 1 sc3 z z z) z ?_
      obtain⟨aw,ac,hr⟩:=hr
      refine H' (F' z z) z (t' E46 z) (gd' ac) z (i)<|gy z z (an' z) z<|yy (l' z z) z<|nx<|aM' hr z (fun an hr=>?_) (fun an hr=>?_)
      ·exact (show False from hr).elim
      ·refine n'<|ar' C ⟨mr,hr⟩ (fc z (fc z fn)) (wk (lc z ln))
 ·rintro x ⟨f,hr⟩
  refine h'<|sr<|sg z z<|nx<|ab' (fun (d:Mem)=>match d with|A=>[(1,.pointer (some ⟨p,0,none⟩))]) (fun (d:Mem)=>match d with|A=>Mem.le x A∧(Zcv a0_1).Ret r) (fun (d:Mem)=>match d with|A=>St H C A [(1,some ⟨p,.cells ((v33' a0_1 a0_1varsp a0_1varsc a0_1eqsp a0_1eqsc a0_1neqsp a0_1neqsc)).toArray 33 (0,0),0⟩)]) ?_ ?_
  ·refine A' ?_
   let J:(Bool⊕Unit)→Prop:=fun L=>((fun O=>match O with | .inl rv3=>Comp.ret rv3 | .inr ()=>Zcv a0_1:(Bool⊕Unit)→Comp Bool) L).wp (fun a=>a=r)
   replace hr:(Comp.loop _ _).wp J:=hr
   refine ac' (Φ:=J) (fun (⟨g,q⟩:Int×Mem)=>(g:Int)) (fun ⟨g,q⟩=>[(1,.pointer (some ⟨p,0,none⟩)),(3,i' (a0_1.vars.length:Int)),(4,i' g)]) (fun ⟨g,q⟩=>Mem.le x q) (fun ⟨g,q⟩=>St H C q [(1,some ⟨p,.cells ((v33' a0_1 a0_1varsp a0_1varsc a0_1eqsp a0_1eqsc a0_1neqsp a0_1neqsc)).toArray 33 (0,0),0⟩)]) ⟨0,x⟩ hr (fc z (fc z (fc z fn))) mr (wk (lc z ln)) ?_
   ·intro T d M hr
    obtain⟨g,q⟩:=d
    have j:=M
    refine h'<|sr<|mv z z<|mv z z<|yy (V' z z) z<|nx<|I' hr z (fun af hr=>?_) (fun af hr=>?_)
    ·refine n'<|b'<|h'<|A'<|h'<|sr<|sg z z<|nx<|ab' (fun (d:Mem)=>match d with|E=>[(1,.pointer (some ⟨p,0,none⟩)),(3,i' (a0_1.vars.length:Int)),(4,i' g)]) (fun (d:Mem)=>match d with|E=>Mem.le q E∧(Zcw a0_1 g).wp (Out T J)) (fun (d:Mem)=>match d with|E=>St H C E [(1,some ⟨p,.cells ((v33' a0_1 a0_1varsp a0_1varsc a0_1eqsp a0_1eqsc a0_1neqsp a0_1neqsc)).toArray 33 (0,0),0⟩)]) ?_ ?_
     ·refine A' ?_
      let Q:(Bool⊕Unit)→Prop:=fun L=>((fun O=>match O with | .inl rv4=>Comp.ret (.inr (.inl rv4)) | .inr ()=>Zcw a0_1 g:(Bool⊕Unit)→Comp (Int⊕(Bool⊕Unit))) L).wp (Out T J)
      replace hr:(Comp.loop _ _).wp Q:=hr
      refine ac' (Φ:=Q) (fun (⟨t,y⟩:Int×Mem)=>(t:Int)) (fun ⟨t,y⟩=>[(1,.pointer (some ⟨p,0,none⟩)),(3,i' (a0_1.vars.length:Int)),(4,i' g),(5,i' t)]) (fun ⟨t,y⟩=>Mem.le q y) (fun ⟨t,y⟩=>St H C y [(1,some ⟨p,.cells ((v33' a0_1 a0_1varsp a0_1varsc a0_1eqsp a0_1eqsc a0_1neqsp a0_1neqsc)).toArray 33 (0,0),0⟩)]) ⟨0,q⟩ hr (fc z (fc z (fc z (fc z fn)))) mr (wk (lc z ln)) ?_
      ·intro av d M hr
       obtain⟨t,y⟩:=d
       have n:=M
       refine h'<|sr<|mv z z<|mv z z<|yy (V' z z) z<|nx<|I' hr z (fun am hr=>?_) (fun am hr=>?_)
       ·refine n'<|b'<|h'<|A'<|h'<|Z' [false,false,false,false,false,false,false,false,false,false] mix (by kernel_rfl) fun Z=>cn (fun _ c=>as' z)<|cn (fun _ c=>e' 1 bo' z z z)<|cn (fun _ c=>f' z) ?_
        obtain⟨x4,S,hr⟩:=hr
        refine cn (fun _ c=>P' y' sz9 ((e.mono (mt (mt f j) n)).mono c) z z S)<|cn (fun _ c=>T' sc9 z (bB' (E' (E' (X' e S) (mt (mt f j) n)) c)))<|cn (fun _ c=>as' z)<|cn (fun _ c=>e' 1 bo' z z z)<|cn (fun _ c=>f' z) ?_
        obtain⟨x5,Y,hr⟩:=hr
        refine cn (fun _ c=>P' y' sz9 ((e.mono (mt (mt f j) n)).mono c) z z Y)<|cn (fun _ c=>T' sc9 z (bB' (E' (E' (X' e Y) (mt (mt f j) n)) c)))<|Y' Z<|yy (Y0.eqlS aR' z z) z<|u'<|am'<|b'<|I' hr z (fun ae hr=>?_) (fun ae hr=>?_)
        ·exact (show False from hr).elim
        ·refine n'<|D'<|b'<|w'<|mv z z<|yy (N' z z) z<|sg z z<|u'<|O' ⟨IntKind.i64.wrap (t+1),y⟩ hr n (fc z (fc z (fc z (fc z fn)))) (wk (lc z ln))
       ·refine ae'<|m'<|m'<|J'<|af' y ⟨n,hr⟩ (fc z (fc z (fc z fn))) (wk (lc z ln))
     ·rintro E ⟨I,hr⟩
      refine b'<|sr<|yy (as' z) z<|yy (e' 1 bo' z z z) z<|mv z z ?_
      obtain⟨x3,W,hr⟩:=hr
      refine yy (P' y' sz9 (e.mono (mt (mt f j) I)) z z W) z<|yy (T' sc9 z (bB' (E' (X' e W) (mt (mt f j) I)))) z ?_
      obtain⟨ar,aa,hr⟩:=hr
      refine H' z z (t' E47 z) (eU' aa) z (trivial)<|yy (an' z) z<|nx<|aM' hr z (fun al hr=>?_) (fun al hr=>?_)
      ·exact (show False from hr).elim
      ·refine n'<|D'<|b'<|w'<|mv z z<|yy (N' z z) z<|sg z z<|u'<|O' ⟨IntKind.i64.wrap (g+1),E⟩ hr (mt j I) (fc z (fc z (fc z fn))) (wk (lc z ln))
    ·refine ae'<|m'<|m'<|J'<|af' q ⟨j,hr⟩ (fc z fn) (wk (lc z ln))
  ·rintro A ⟨o,hr⟩
   refine b'<|h'<|sr<|sg z z<|nx<|ab' (fun (d:Mem)=>match d with|K=>[]) (fun (d:Mem)=>match d with|K=>Mem.le A K∧(Zem).Ret r) (fun (d:Mem)=>match d with|K=>St H C K []) ?_ ?_
   ·refine A' ?_
    let F:(Bool⊕Unit)→Prop:=fun L=>((fun O=>match O with | .inl rv1=>Comp.ret rv1 | .inr ()=>Zem:(Bool⊕Unit)→Comp Bool) L).wp (fun a=>a=r)
    replace hr:(Comp.loop _ _).wp F:=hr
    refine ac' (Φ:=F) (fun (⟨h,s⟩:Int×Mem)=>(h:Int)) (fun ⟨h,s⟩=>[(1,.pointer (some ⟨p,0,none⟩)),(6,i' h)]) (fun ⟨h,s⟩=>Mem.le A s) (fun ⟨h,s⟩=>St H C s [(1,some ⟨p,.cells ((v33' a0_1 a0_1varsp a0_1varsc a0_1eqsp a0_1eqsc a0_1neqsp a0_1neqsc)).toArray 33 (0,0),0⟩)]) ⟨0,A⟩ hr (fc z (fc z fn)) mr (wk (lc z ln)) ?_
    ·intro X d M hr
     obtain⟨h,s⟩:=d
     have k:=M
     refine h'<|sr<|mv z z<|yy (az' z) z<|yy (e' 1 aS' z z z) z<|yy (L' q' (l.mono (mt (mt f o) k)) z) z<|yy (V' z z) z<|nx<|I' hr z (fun ag hr=>?_) (fun ag hr=>?_)
     ·refine n'<|b'<|h'<|A'<|sr<|sg z z<|nx<|ab' (fun (d:Mem)=>match d with|D=>[(1,.pointer (some ⟨p,0,none⟩)),(6,i' h)]) (fun (d:Mem)=>match d with|D=>Mem.le s D∧(Zen h).wp (Out X F)) (fun (d:Mem)=>match d with|D=>St H C D [(1,some ⟨p,.cells ((v33' a0_1 a0_1varsp a0_1varsc a0_1eqsp a0_1eqsc a0_1neqsp a0_1neqsc)).toArray 33 (0,0),0⟩)]) ?_ ?_
      ·refine A' ?_
       let P:(Bool⊕Unit)→Prop:=fun L=>((fun O=>match O with | .inl rv2=>Comp.ret (.inr (.inl rv2)) | .inr ()=>Zen h:(Bool⊕Unit)→Comp (Int⊕(Bool⊕Unit))) L).wp (Out X F)
       replace hr:(Comp.loop _ _).wp P:=hr
       refine ac' (Φ:=P) (fun (⟨u,B⟩:Int×Mem)=>(u:Int)) (fun ⟨u,B⟩=>[(1,.pointer (some ⟨p,0,none⟩)),(6,i' h),(7,i' u)]) (fun ⟨u,B⟩=>Mem.le s B) (fun ⟨u,B⟩=>St H C B [(1,some ⟨p,.cells ((v33' a0_1 a0_1varsp a0_1varsc a0_1eqsp a0_1eqsc a0_1neqsp a0_1neqsc)).toArray 33 (0,0),0⟩)]) ⟨0,s⟩ hr (fc z (fc z (fc z fn))) mr (wk (lc z ln)) ?_
       ·intro au d M hr
        obtain⟨u,B⟩:=d
        have m:=M
        refine h'<|sr<|mv z z<|yy (aK' z) z<|yy (e' 1 aS' z z z) z<|yy (L' q' (i.mono (mt (mt (mt f o) k) m)) z) z<|yy (V' z z) z<|nx<|I' hr z (fun ak hr=>?_) (fun ak hr=>?_)
        ·refine n'<|b'<|h'<|A'<|h'<|Z' [false,false,false,false,false,false,false,false,false,false,false,false] mix (by kernel_rfl) fun Z=>cn (fun _ c=>az' z)<|cn (fun _ c=>e' 1 aS' z z z)<|cn (fun _ c=>f' z) ?_
         obtain⟨x1,U,hr⟩:=hr
         refine cn (fun _ c=>P' q' aO' ((l.mono (mt (mt (mt f o) k) m)).mono c) z z U)<|cn (fun _ c=>bc' z)<|cn (fun _ c=>T' sc3 z (aC' (E' (E' (bb' (aA' (X' l U))) (mt (mt (mt f o) k) m)) c)))<|cn (fun _ c=>aK' z)<|cn (fun _ c=>e' 1 aS' z z z)<|cn (fun _ c=>f' z) ?_
         obtain⟨x2,V,hr⟩:=hr
         refine cn (fun _ c=>P' q' aO' ((i.mono (mt (mt (mt f o) k) m)).mono c) z z V)<|cn (fun _ c=>bc' z)<|cn (fun _ c=>T' sc3 z (aC' (E' (E' (bb' (aA' (X' i V))) (mt (mt (mt f o) k) m)) c)))<|Y' Z<|yy (ak' z z) z<|u'<|am'<|b'<|I' hr z (fun ai hr=>?_) (fun ai hr=>?_)
         ·exact (show False from hr).elim
         ·refine n'<|D'<|b'<|w'<|mv z z<|yy (N' z z) z<|sg z z<|u'<|O' ⟨IntKind.i64.wrap (u+1),B⟩ hr m (fc z (fc z (fc z fn))) (wk (lc z ln))
        ·refine ae'<|m'<|m'<|J'<|af' B ⟨m,hr⟩ (fc z (fc z fn)) (wk (lc z ln))
      ·rintro D ⟨R,hr⟩
       refine D'<|b'<|w'<|mv z z<|yy (N' z z) z<|sg z z<|u'<|O' ⟨IntKind.i64.wrap (h+1),D⟩ hr (mt k R) (fc z (fc z fn)) (wk (lc z ln))
     ·refine ae'<|m'<|m'<|J'<|af' s ⟨k,hr⟩ fn (wk ln)
   ·rintro K ⟨aq,hr⟩
    refine b'<|sr<|sg z z<|nx<|j' ?_
    obtain rfl:_=r:=hr
    exact k' z z z
theorem eZ'{name1 r}(hr:(Zb2 name1).Ret r):Ctr Tryz.prog 25 #[.string name1] (fun G=>True) (fun G v=>∃ d g f e,v = .agg ([.bool r.num.neg,.slice d r.num.mag.length g,.bool r.den.neg,.slice f r.den.mag.length e]).toArray∧sl (Rp.int .u32) G d g r.num.mag∧sl (Rp.int .u32) G f e r.den.mag):=by
 refine C' (args:=[_]) (N:=23) Tryz.func25 z z z fun F t S K=>sr<|U' 2 z z60 z fun A=>nr<|sg z z<|nx<|h'<|sr<|sg z z<|nx<|ab' (fun (⟨n,k⟩:Int×Mem)=>[(2,.pointer (some ⟨A,0,none⟩)),(3,i' n)]) (fun ⟨n,k⟩=>Mem.le t k∧(Zdc n).Ret r) (fun ⟨n,k⟩=>St F t k [(2,some ⟨A,.cells ([.bool false,.slice none 0 0,.bool false,.slice none 0 0]).toArray 60 (0,0),0⟩)]) ?_ ?_
 ·refine A' ?_
  let q:Int→Prop:=fun L=>((fun P=>match P with|n=>Zdc n:Int→Comp Zf) L).wp (fun a=>a=r)
  replace hr:(Comp.loop _ _).wp q:=hr
  refine ac' (Φ:=q) (fun (⟨l,m,c⟩:Int×Int×Mem)=>((l,m):Int×Int)) (fun ⟨l,m,c⟩=>[(0,.string name1),(2,.pointer (some ⟨A,0,none⟩)),(3,i' l),(4,i' m)]) (fun ⟨l,m,c⟩=>Mem.le t c) (fun ⟨l,m,c⟩=>St F t c [(2,some ⟨A,.cells ([.bool false,.slice none 0 0,.bool false,.slice none 0 0]).toArray 60 (0,0),0⟩)]) ⟨0,0,t⟩ hr (fc z (fc z (fc z (fc z fn)))) mr (wk (lc z ln)) ?_
  ·intro R M O hr
   obtain⟨l,m,c⟩:=M
   have o:=O
   refine h'<|sr<|mv z z<|mv z z<|yy (Y0.lenS aR' z) z<|yy (V' z z) z<|nx<|I' hr z (fun E hr=>?_) (fun E hr=>?_)
   ·refine n'<|b'<|h'<|A'<|w'<|mv z z<|yy (dJ' z z) z<|mv z z<|mv z z ?_
    obtain⟨D,hr⟩:=hr
    refine yy (dk' (s:=name1) aR' z z D) z<|yy (aD' aT' au' z) z<|yy (bz' z z (by decide)) z<|yy (N' z z) z<|sg z z<|u'<|D'<|b'<|w'<|mv z z<|yy (N' z z) z<|sg z z<|u'<|O' ⟨IntKind.i64.wrap ((IntKind.i64.wrap (l*7))+(Int.tmod (IntKind.i64.wrap (byteAt name1 m)) 13)),IntKind.i64.wrap (m+1),c⟩ hr o (fc z (fc z (fc z (fc z fn)))) (wk (lc z ln))
   ·refine ae'<|m'<|m'<|J'<|af' ⟨l,c⟩ ⟨o,hr⟩ (fc z (fc z fn)) (wk (lc z ln))
 ·rintro⟨n,k⟩ ⟨H,hr⟩
  refine b'<|sr<|mv z z<|yy (bz' z z (by decide)) z<|yy (bf' z z) z ?_
  obtain⟨Q,C,hr⟩:=hr
  refine M' z z (t' E48 z) (cD' C) z (trivial) (fun J T I p=>?_)
  obtain⟨B,x,y,u,rfl,h,j⟩:=p
  refine v' 2 z sz60 z z z z z (List.all_eq_true.1 z)<|nx<|j' ?_
  obtain rfl:_=r:=hr
  exact k' z (ad' (i:=2) bS' z z z) ⟨_,_,_,_,z,h,j⟩
theorem fa'{s1 s1varsp s1varsc s1eqsp s1eqsc s1neqsp s1neqsc r}(hr:(Zdr s1).Ret r):Ctr Tryz.prog 24 #[.agg ((v33' s1 s1varsp s1varsc s1eqsp s1eqsc s1neqsp s1neqsc)).toArray] (fun G=>sl Rp.str G s1varsp s1varsc s1.vars∧sl a' G s1eqsp s1eqsc s1.eqs∧sl a' G s1neqsp s1neqsc s1.neqs) (fun G v=>∃ zk zu,v = .agg (zk).toArray∧ArRd bk' 8 G zk zu r):=by
 refine C' (args:=[_]) (N:=27) Tryz.func24 z z z (fun w0 x ax Y=>?_)
 obtain⟨u,ai,aa⟩:=Y
 refine sr<|W' 1 z z z fun b1=>U' 2 z z61 z fun S=>nr<|yy (aq' (vs:=#[]) (v:=.agg (([.bool false,.slice none 0 0,.bool false,.slice none 0 0,.bool false,.slice none 0 0,.bool false,.slice none 0 0,.bool false,.slice none 0 0,.bool false,.slice none 0 0,.bool false,.slice none 0 0,.bool false,.slice none 0 0,.bool false,.slice none 0 0,.bool false,.slice none 0 0,.bool false,.slice none 0 0,.bool false,.slice none 0 0,.bool false,.slice none 0 0,.bool false,.slice none 0 0,.bool false,.slice none 0 0,.bool false,.slice none 0 0]:List Value)).toArray) z z (fun _=>by kernel_rfl)) z<|U' 3 z z61 z fun T=>v' 3 z sz61 z z z (ck' (show ArRd bk' 8 x ([.bool false,.slice none 0 0,.bool false,.slice none 0 0,.bool false,.slice none 0 0,.bool false,.slice none 0 0,.bool false,.slice none 0 0,.bool false,.slice none 0 0,.bool false,.slice none 0 0,.bool false,.slice none 0 0,.bool false,.slice none 0 0,.bool false,.slice none 0 0,.bool false,.slice none 0 0,.bool false,.slice none 0 0,.bool false,.slice none 0 0,.bool false,.slice none 0 0,.bool false,.slice none 0 0,.bool false,.slice none 0 0]:List Value) () _ from dW' (G:=x) (r:=bk') (n:=8) (zc:=[.bool false,.slice none 0 0,.bool false,.slice none 0 0]) (z:=(Zf.mk (Zg.mk false []) (Zg.mk false []))) ⟨[.bool false,.slice none 0 0],[.bool false,.slice none 0 0],z,⟨[.bool false],[.slice none 0 0],z,z,⟨_,z,(aa' _ _)⟩⟩,⟨[.bool false],[.slice none 0 0],z,z,⟨_,z,(aa' _ _)⟩⟩⟩)) (ck' (show ArRd bk' 8 x ([.bool false,.slice none 0 0,.bool false,.slice none 0 0,.bool false,.slice none 0 0,.bool false,.slice none 0 0,.bool false,.slice none 0 0,.bool false,.slice none 0 0,.bool false,.slice none 0 0,.bool false,.slice none 0 0,.bool false,.slice none 0 0,.bool false,.slice none 0 0,.bool false,.slice none 0 0,.bool false,.slice none 0 0,.bool false,.slice none 0 0,.bool false,.slice none 0 0,.bool false,.slice none 0 0,.bool false,.slice none 0 0]:List Value) () _ from dW' (G:=x) (r:=bk') (n:=8) (zc:=[.bool false,.slice none 0 0,.bool false,.slice none 0 0]) (z:=(Zf.mk (Zg.mk false []) (Zg.mk false []))) ⟨[.bool false,.slice none 0 0],[.bool false,.slice none 0 0],z,⟨[.bool false],[.slice none 0 0],z,z,⟨_,z,(aa' _ _)⟩⟩,⟨[.bool false],[.slice none 0 0],z,z,⟨_,z,(aa' _ _)⟩⟩⟩)) (ArRd.one (show ArRd bk' 8 x ([.bool false,.slice none 0 0,.bool false,.slice none 0 0,.bool false,.slice none 0 0,.bool false,.slice none 0 0,.bool false,.slice none 0 0,.bool false,.slice none 0 0,.bool false,.slice none 0 0,.bool false,.slice none 0 0,.bool false,.slice none 0 0,.bool false,.slice none 0 0,.bool false,.slice none 0 0,.bool false,.slice none 0 0,.bool false,.slice none 0 0,.bool false,.slice none 0 0,.bool false,.slice none 0 0,.bool false,.slice none 0 0]:List Value) () _ from dW' (G:=x) (r:=bk') (n:=8) (zc:=[.bool false,.slice none 0 0,.bool false,.slice none 0 0]) (z:=(Zf.mk (Zg.mk false []) (Zg.mk false []))) ⟨[.bool false,.slice none 0 0],[.bool false,.slice none 0 0],z,⟨[.bool false],[.slice none 0 0],z,z,⟨_,z,(aa' _ _)⟩⟩,⟨[.bool false],[.slice none 0 0],z,z,⟨_,z,(aa' _ _)⟩⟩⟩)) ?_
 refine nx<|h'<|sr<|sg z z<|nx<|ab' (fun (⟨C,E,H,y⟩:(List Zf)×List Value×Unit×Mem)=>[(2,.pointer (some ⟨S,0,none⟩)),(3,.pointer (some ⟨T,0,none⟩))]) (fun ⟨C,E,H,y⟩=>Mem.le x y∧ArRd bk' 8 y E H C∧(Zdb C).Ret r) (fun ⟨C,E,H,y⟩=>St w0 x y [(2,some ⟨S,.cells (([.bool false,.slice none 0 0,.bool false,.slice none 0 0,.bool false,.slice none 0 0,.bool false,.slice none 0 0,.bool false,.slice none 0 0,.bool false,.slice none 0 0,.bool false,.slice none 0 0,.bool false,.slice none 0 0,.bool false,.slice none 0 0,.bool false,.slice none 0 0,.bool false,.slice none 0 0,.bool false,.slice none 0 0,.bool false,.slice none 0 0,.bool false,.slice none 0 0,.bool false,.slice none 0 0,.bool false,.slice none 0 0]:List Value)).toArray 61 (0,0),0⟩),(3,some ⟨T,.cells (E).toArray 61 (0,0),0⟩)]) ?_ ?_
 ·refine A' ?_
  let R:(List Zf)→Prop:=fun oo=>((fun ov=>match ov with|C=>Zdb C:(List Zf)→Comp (List Zf)) oo).wp (fun a=>a=r)
  replace hr:(Comp.loop _ _).wp R:=hr
  refine ac' (Φ:=R) (fun (⟨D,t,s,p,A⟩:Int×(List Zf)×List Value×Unit×Mem)=>((D,t):Int×(List Zf))) (fun ⟨D,t,s,p,A⟩=>[(1,.pointer (some ⟨b1,0,none⟩)),(2,.pointer (some ⟨S,0,none⟩)),(3,.pointer (some ⟨T,0,none⟩)),(4,i' D)]) (fun ⟨D,t,s,p,A⟩=>Mem.le x A∧ArRd bk' 8 A s p t) (fun ⟨D,t,s,p,A⟩=>St w0 x A [(1,some ⟨b1,.cells ((v33' s1 s1varsp s1varsc s1eqsp s1eqsc s1neqsp s1neqsc)).toArray 33 (0,0),0⟩),(2,some ⟨S,.cells (([.bool false,.slice none 0 0,.bool false,.slice none 0 0,.bool false,.slice none 0 0,.bool false,.slice none 0 0,.bool false,.slice none 0 0,.bool false,.slice none 0 0,.bool false,.slice none 0 0,.bool false,.slice none 0 0,.bool false,.slice none 0 0,.bool false,.slice none 0 0,.bool false,.slice none 0 0,.bool false,.slice none 0 0,.bool false,.slice none 0 0,.bool false,.slice none 0 0,.bool false,.slice none 0 0,.bool false,.slice none 0 0]:List Value)).toArray 61 (0,0),0⟩),(3,some ⟨T,.cells (s).toArray 61 (0,0),0⟩)]) ⟨0,(List.replicate 8 (Zf.mk (Zg.mk false []) (Zg.mk false []))),([.bool false,.slice none 0 0,.bool false,.slice none 0 0,.bool false,.slice none 0 0,.bool false,.slice none 0 0,.bool false,.slice none 0 0,.bool false,.slice none 0 0,.bool false,.slice none 0 0,.bool false,.slice none 0 0,.bool false,.slice none 0 0,.bool false,.slice none 0 0,.bool false,.slice none 0 0,.bool false,.slice none 0 0,.bool false,.slice none 0 0,.bool false,.slice none 0 0,.bool false,.slice none 0 0,.bool false,.slice none 0 0]:List Value),(),x⟩ hr (fc z (fc z (fc z (fc z fn)))) ⟨mr,(show ArRd bk' 8 x ([.bool false,.slice none 0 0,.bool false,.slice none 0 0,.bool false,.slice none 0 0,.bool false,.slice none 0 0,.bool false,.slice none 0 0,.bool false,.slice none 0 0,.bool false,.slice none 0 0,.bool false,.slice none 0 0,.bool false,.slice none 0 0,.bool false,.slice none 0 0,.bool false,.slice none 0 0,.bool false,.slice none 0 0,.bool false,.slice none 0 0,.bool false,.slice none 0 0,.bool false,.slice none 0 0,.bool false,.slice none 0 0]:List Value) () _ from dW' (G:=x) (r:=bk') (n:=8) (zc:=[.bool false,.slice none 0 0,.bool false,.slice none 0 0]) (z:=(Zf.mk (Zg.mk false []) (Zg.mk false []))) ⟨[.bool false,.slice none 0 0],[.bool false,.slice none 0 0],z,⟨[.bool false],[.slice none 0 0],z,z,⟨_,z,(aa' _ _)⟩⟩,⟨[.bool false],[.slice none 0 0],z,z,⟨_,z,(aa' _ _)⟩⟩⟩)⟩ (wk (lc z (lc z (lc z ln)))) ?_
  ·intro aw gx hx hr
   obtain⟨D,t,s,p,A⟩:=gx
   obtain⟨q,M⟩:=hx
   refine h'<|sr<|mv z z<|yy (V' z z) z<|nx<|I' hr z (fun ab hr=>?_) (fun ab hr=>?_)
   ·refine n'<|b'<|h'<|A'<|sr<|mv z z ?_
    obtain⟨c,X,hr⟩:=hr
    refine M' z z (t' E48 z) (cD' X) z (trivial) (fun am ag h O=>?_)
    obtain⟨k,e,f,d,rfl,I,J⟩:=O
    obtain⟨x1,U,hr⟩:=hr
    refine yy (Y0.idxAy dH' sz60 z z (ArRd.lt (M.mono h) U)) z<|WL.storeAy (cs':=[.bool c.num.neg,.slice k c.num.mag.length e,.bool c.den.neg,.slice f c.den.mag.length d]) (z':=c) 3 z sz60 z (by decide) (M.mono h) z z z z ⟨(v58' c.num k e),(v58' c.den f d),z,⟨[.bool c.num.neg],[.slice k c.num.mag.length e],z,z,⟨_,z,I⟩⟩,⟨[.bool c.den.neg],[.slice f c.den.mag.length d],z,z,⟨_,z,J⟩⟩⟩ U fun d1 Q=>nr<|mv z z<|yy (as' z) z<|yy (e' 1 bo' z z z) z<|yy (L' y' (u.mono (mt q h)) z) z<|yy (V' z z) z<|nx<|I' hr z (fun af hr=>?_) (fun af hr=>?_)
    ·refine w'<|mv z z<|yy (as' z) z<|yy (e' 1 bo' z z z) z<|mv z z ?_
     obtain⟨x2,V,hr⟩:=hr
     refine yy (P' y' sz9 (u.mono (mt q h)) z z V) z<|yy (T' sc9 z (bB' (E' (X' u V) (mt q h)))) z ?_
     obtain⟨o,Z,hr⟩:=hr
     refine M' z z (t' E25 z) (eZ' Z) z (trivial) (fun an ad L P=>?_)
     obtain⟨j,m,l,g,rfl,K,F⟩:=P
     obtain⟨x3,W,hr⟩:=hr
     refine yy (Y0.idxAy dH' sz60 z z (ArRd.lt (Q.mono L) W)) z<|WL.storeAy (cs':=[.bool o.num.neg,.slice j o.num.mag.length m,.bool o.den.neg,.slice l o.den.mag.length g]) (z':=o) 3 z sz60 z (by decide) (Q.mono L) z z z z ⟨(v58' o.num j m),(v58' o.den l g),z,⟨[.bool o.num.neg],[.slice j o.num.mag.length m],z,z,⟨_,z,K⟩⟩,⟨[.bool o.den.neg],[.slice l o.den.mag.length g],z,z,⟨_,z,F⟩⟩⟩ W fun d2 ah=>u'<|D'<|b'<|w'<|mv z z<|yy (N' z z) z<|sg z z<|u'<|O' ⟨IntKind.i64.wrap (D+1),(t.set D.toNat c).set D.toNat o,d2,p,ad⟩ hr ⟨(mt (mt q h) L),ah⟩ (fc z (fc z (fc z (fc z fn)))) (wk (lc z (lc z (lc z ln))))
    ·refine n'<|D'<|b'<|w'<|mv z z<|yy (N' z z) z<|sg z z<|u'<|O' ⟨IntKind.i64.wrap (D+1),t.set D.toNat c,d1,p,ag⟩ hr ⟨(mt q h),Q⟩ (fc z (fc z (fc z (fc z fn)))) (wk (lc z (lc z (lc z ln))))
   ·refine ae'<|m'<|m'<|J'<|af' ⟨t,s,p,A⟩ ⟨q,M,hr⟩ (fc z (fc z fn)) (wk (lc z (lc z ln)))
 ·rintro⟨C,E,H,y⟩ ⟨ak,B,hr⟩
  refine b'<|sr<|yy (s' 3 ag61 z z (ck' B)) z<|v' 2 z sz61 z z z (ck' (show ArRd bk' 8 y ([.bool false,.slice none 0 0,.bool false,.slice none 0 0,.bool false,.slice none 0 0,.bool false,.slice none 0 0,.bool false,.slice none 0 0,.bool false,.slice none 0 0,.bool false,.slice none 0 0,.bool false,.slice none 0 0,.bool false,.slice none 0 0,.bool false,.slice none 0 0,.bool false,.slice none 0 0,.bool false,.slice none 0 0,.bool false,.slice none 0 0,.bool false,.slice none 0 0,.bool false,.slice none 0 0,.bool false,.slice none 0 0]:List Value) () _ from dW' (G:=y) (r:=bk') (n:=8) (zc:=[.bool false,.slice none 0 0,.bool false,.slice none 0 0]) (z:=(Zf.mk (Zg.mk false []) (Zg.mk false []))) ⟨[.bool false,.slice none 0 0],[.bool false,.slice none 0 0],z,⟨[.bool false],[.slice none 0 0],z,z,⟨_,z,(aa' _ _)⟩⟩,⟨[.bool false],[.slice none 0 0],z,z,⟨_,z,(aa' _ _)⟩⟩⟩)) (ck' B) (ArRd.one B)<|nx<|j' ?_
  obtain rfl:_=r:=hr
  exact k' z (ad' (i:=2) ag61 z z (ck' B)) ⟨_,_,z,B⟩
theorem gN'{x1 n1 x1nummagp x1nummagc x1denmagp x1denmagc r}(hr:(ZgF x1 n1).Ret r):Ctr Tryz.prog 85 #[.agg ([.bool x1.num.neg,.slice x1nummagp x1.num.mag.length x1nummagc,.bool x1.den.neg,.slice x1denmagp x1.den.mag.length x1denmagc]).toArray,i' n1] (fun G=>sl (Rp.int .u32) G x1nummagp x1nummagc x1.num.mag∧sl (Rp.int .u32) G x1denmagp x1denmagc x1.den.mag) (fun G v=>∃ t y x u,v = .agg ([.bool r.num.neg,.slice t r.num.mag.length y,.bool r.den.neg,.slice x r.den.mag.length u]).toArray∧sl (Rp.int .u32) G t y r.num.mag∧sl (Rp.int .u32) G x u r.den.mag):=by
 refine C' (args:=[_,_]) (N:=17) Tryz.func85 z z z (fun w0 G0 av ac=>?_)
 obtain⟨Q,R⟩:=ac
 refine sr<|W' 2 z z z fun b1=>U' 4 z z60 z fun Y=>nr ?_
 obtain⟨ae,ab,hr⟩:=hr
 refine M' z z (t' E48 z) (cD' ab) z (trivial) (fun am X T U=>?_)
 obtain⟨K,C,D,B,rfl,F,H⟩:=U
 refine U' 5 z z60 z fun Z=>v' 5 z sz60 z z z z z (List.all_eq_true.1 z)<|nx<|h'<|sr<|sg z z<|nx<|ab' (fun (⟨l,h,g,j,k,s⟩:Zf×Option Addr×Nat×Option Addr×Nat×Mem)=>[(4,.pointer (some ⟨Y,0,none⟩)),(5,.pointer (some ⟨Z,0,none⟩))]) (fun ⟨l,h,g,j,k,s⟩=>Mem.le X s∧sl (Rp.int .u32) s h g l.num.mag∧sl (Rp.int .u32) s j k l.den.mag∧(Zel l).Ret r) (fun ⟨l,h,g,j,k,s⟩=>St w0 G0 s [(4,some ⟨Y,.cells ([.bool false,.slice none 0 0,.bool false,.slice none 0 0]).toArray 60 (0,0),0⟩),(5,some ⟨Z,.cells ([.bool l.num.neg,.slice h l.num.mag.length g,.bool l.den.neg,.slice j l.den.mag.length k]).toArray 60 (0,0),0⟩)]) ?_ ?_
 ·refine A' ?_
  let W:Zf→Prop:=fun oo=>((fun ov=>match ov with|l=>Zel l:Zf→Comp Zf) oo).wp (fun a=>a=r)
  replace hr:(Comp.loop _ _).wp W:=hr
  refine ac' (Φ:=W) (fun (⟨S,m,e,d,f,c,p⟩:Int×Zf×Option Addr×Nat×Option Addr×Nat×Mem)=>((S,m):Int×Zf)) (fun ⟨S,m,e,d,f,c,p⟩=>[(1,i' n1),(2,.pointer (some ⟨b1,0,none⟩)),(4,.pointer (some ⟨Y,0,none⟩)),(5,.pointer (some ⟨Z,0,none⟩)),(6,i' S)]) (fun ⟨S,m,e,d,f,c,p⟩=>Mem.le X p∧sl (Rp.int .u32) p e d m.num.mag∧sl (Rp.int .u32) p f c m.den.mag) (fun ⟨S,m,e,d,f,c,p⟩=>St w0 G0 p [(2,some ⟨b1,.cells ([.bool x1.num.neg,.slice x1nummagp x1.num.mag.length x1nummagc,.bool x1.den.neg,.slice x1denmagp x1.den.mag.length x1denmagc]).toArray 60 (0,0),0⟩),(4,some ⟨Y,.cells ([.bool false,.slice none 0 0,.bool false,.slice none 0 0]).toArray 60 (0,0),0⟩),(5,some ⟨Z,.cells ([.bool m.num.neg,.slice e m.num.mag.length d,.bool m.den.neg,.slice f m.den.mag.length c]).toArray 60 (0,0),0⟩)]) ⟨0,ae,K,C,D,B,X⟩ hr (fc z (fc z (fc z (fc z (fc z fn))))) ⟨mr,F,H⟩ (wk (lc z (lc z (lc z ln)))) ?_
  ·intro au gx hx hr
   obtain⟨S,m,e,d,f,c,p⟩:=gx
   obtain⟨q,n,o⟩:=hx
   refine h'<|sr<|mv z z<|mv z z<|yy (V' z z) z<|nx<|I' hr z (fun af hr=>?_) (fun af hr=>?_)
   ·refine n'<|b'<|h'<|A'<|w'<|yy (s' 5 bS' z z z) z<|yy (s' 2 bS' z z z) z ?_
    obtain⟨ak,ad,hr⟩:=hr
    refine M' z z (t' E84 z) (fi' ad) z (⟨n,o,(Q.mono (mt T q)),(R.mono (mt T q))⟩) (fun an ah aa V=>?_)
    obtain⟨I,P,M,E,rfl,J,A⟩:=V
    refine v' 5 z sz60 z z z z z (List.all_eq_true.1 z)<|u'<|D'<|b'<|w'<|mv z z<|yy (N' z z) z<|sg z z<|u'<|O' ⟨IntKind.i64.wrap (S+1),ak,I,P,M,E,ah⟩ hr ⟨(mt q aa),J,A⟩ (fc z (fc z (fc z (fc z (fc z fn))))) (wk (lc z (lc z (lc z ln))))
   ·refine ae'<|m'<|m'<|J'<|af' ⟨m,e,d,f,c,p⟩ ⟨q,n,o,hr⟩ (fc z (fc z fn)) (wk (lc z (lc z ln)))
 ·rintro⟨l,h,g,j,k,s⟩ ⟨al,O,L,hr⟩
  refine b'<|sr<|yy (s' 5 bS' z z z) z<|v' 4 z sz60 z z z z z (List.all_eq_true.1 z)<|nx<|j' ?_
  obtain rfl:_=r:=hr
  exact k' z (ad' (i:=4) bS' z z z) ⟨_,_,_,_,z,O,L⟩
theorem ge'{p1 x1 p1p p1c x1k x1u r}(hr:(ZfZ p1 x1).Ret r):Ctr Tryz.prog 50 #[.slice p1p p1.length p1c,.agg (x1k).toArray] (fun G=>sl r' G p1p p1c p1∧ArRd bk' 8 G x1k x1u x1) (fun G v=>∃ ac aa W Y,v = .agg ([.bool r.num.neg,.slice ac r.num.mag.length aa,.bool r.den.neg,.slice W r.den.mag.length Y]).toArray∧sl (Rp.int .u32) G ac aa r.num.mag∧sl (Rp.int .u32) G W Y r.den.mag):=by
 refine C' (args:=[_,_]) (N:=42) Tryz.func50 z z z (fun w0 G0 bD bj=>?_)
 obtain⟨aM,bb⟩:=bj
 refine sr<|W' 3 z z z fun b1=>U' 4 z z60 z fun b2=>nr ?_
 obtain⟨br,bc,hr⟩:=hr
 refine M' z z (t' E48 z) (cD' bc) z (trivial) (fun bz aV J aQ=>?_)
 obtain⟨ak,al,aq,aw,rfl,ag,ar⟩:=aQ
 refine U' 5 z z60 z fun b3=>v' 5 z sz60 z z z z z (List.all_eq_true.1 z)<|nx<|h'<|sr<|sg z z<|nx<|ab' (fun (⟨O,A,t,x,y,ab⟩:Zf×Option Addr×Nat×Option Addr×Nat×Mem)=>[(4,.pointer (some ⟨b2,0,none⟩)),(5,.pointer (some ⟨b3,0,none⟩))]) (fun ⟨O,A,t,x,y,ab⟩=>Mem.le aV ab∧sl (Rp.int .u32) ab A t O.num.mag∧sl (Rp.int .u32) ab x y O.den.mag∧(Zfd O).Ret r) (fun ⟨O,A,t,x,y,ab⟩=>St w0 G0 ab [(4,some ⟨b2,.cells ([.bool false,.slice none 0 0,.bool false,.slice none 0 0]).toArray 60 (0,0),0⟩),(5,some ⟨b3,.cells ([.bool O.num.neg,.slice A O.num.mag.length t,.bool O.den.neg,.slice x O.den.mag.length y]).toArray 60 (0,0),0⟩)]) ?_ ?_
 ·refine A' ?_
  let au:Zf→Prop:=fun oo=>((fun ov=>match ov with|O=>Zfd O:Zf→Comp Zf) oo).wp (fun a=>a=r)
  replace hr:(Comp.loop _ _).wp au:=hr
  refine ac' (Φ:=au) (fun (⟨X,s,f,e,g,c,M⟩:Int×Zf×Option Addr×Nat×Option Addr×Nat×Mem)=>((X,s):Int×Zf)) (fun ⟨X,s,f,e,g,c,M⟩=>[(0,.slice p1p p1.length p1c),(3,.pointer (some ⟨b1,0,none⟩)),(4,.pointer (some ⟨b2,0,none⟩)),(5,.pointer (some ⟨b3,0,none⟩)),(6,i' X)]) (fun ⟨X,s,f,e,g,c,M⟩=>Mem.le aV M∧sl (Rp.int .u32) M f e s.num.mag∧sl (Rp.int .u32) M g c s.den.mag) (fun ⟨X,s,f,e,g,c,M⟩=>St w0 G0 M [(3,some ⟨b1,.cells (x1k).toArray 61 (0,0),0⟩),(4,some ⟨b2,.cells ([.bool false,.slice none 0 0,.bool false,.slice none 0 0]).toArray 60 (0,0),0⟩),(5,some ⟨b3,.cells ([.bool s.num.neg,.slice f s.num.mag.length e,.bool s.den.neg,.slice g s.den.mag.length c]).toArray 60 (0,0),0⟩)]) ⟨0,br,ak,al,aq,aw,aV⟩ hr (fc z (fc z (fc z (fc z (fc z fn))))) ⟨mr,ag,ar⟩ (wk (lc z (lc z (lc z ln)))) ?_
  ·intro ba gx hx hr
   obtain⟨X,s,f,e,g,c,M⟩:=gx
   obtain⟨F,R,T⟩:=hx
   refine h'<|sr<|mv z z<|mv z z<|yy (L' R' (aM.mono (mt J F)) z) z<|yy (V' z z) z<|nx<|I' hr z (fun bo hr=>?_) (fun bo hr=>?_)
   ·refine n'<|b'<|h'<|A'<|sr<|mv z z<|mv z z ?_
    obtain⟨x2,a8,hr⟩:=hr
    refine yy (P' R' bC' (aM.mono (mt J F)) z z a8) z<|yy (cg' z) z ?_
    obtain⟨aI,aH,aG,aN,bl,aL,aJ⟩:=db' (E' (bb' (aA' (X' aM a8))) (mt J F))
    refine yy (ax' _ bS' z z bl) z<|U' 7 z z60 z fun b4=>v' 7 z sz60 z z z z z (List.all_eq_true.1 z)<|nx<|h'<|sr<|sg z z<|nx<|ab' (fun (⟨L,B,D,C,u,Z⟩:Zf×Option Addr×Nat×Option Addr×Nat×Mem)=>[(0,.slice p1p p1.length p1c),(3,.pointer (some ⟨b1,0,none⟩)),(4,.pointer (some ⟨b2,0,none⟩)),(5,.pointer (some ⟨b3,0,none⟩)),(6,i' X),(7,.pointer (some ⟨b4,0,none⟩))]) (fun ⟨L,B,D,C,u,Z⟩=>Mem.le M Z∧sl (Rp.int .u32) Z B D L.num.mag∧sl (Rp.int .u32) Z C u L.den.mag∧(Zfe X s L).wp (Out ba au)) (fun ⟨L,B,D,C,u,Z⟩=>St w0 G0 Z [(3,some ⟨b1,.cells (x1k).toArray 61 (0,0),0⟩),(4,some ⟨b2,.cells ([.bool false,.slice none 0 0,.bool false,.slice none 0 0]).toArray 60 (0,0),0⟩),(5,some ⟨b3,.cells ([.bool s.num.neg,.slice f s.num.mag.length e,.bool s.den.neg,.slice g s.den.mag.length c]).toArray 60 (0,0),0⟩),(7,some ⟨b4,.cells ([.bool L.num.neg,.slice B L.num.mag.length D,.bool L.den.neg,.slice C L.den.mag.length u]).toArray 60 (0,0),0⟩)]) ?_ ?_
    ·refine A' ?_
     let aW:Zf→Prop:=fun oo=>((fun ov=>match ov with|L=>Zfe X s L:Zf→Comp ((Int×Zf)⊕Zf)) oo).wp (Out ba au)
     replace hr:(Comp.loop _ _).wp aW:=hr
     refine ac' (Φ:=aW) (fun (⟨i1,K,q,m,k,j,S⟩:Int×Zf×Option Addr×Nat×Option Addr×Nat×Mem)=>((i1,K):Int×Zf)) (fun ⟨i1,K,q,m,k,j,S⟩=>[(0,.slice p1p p1.length p1c),(3,.pointer (some ⟨b1,0,none⟩)),(4,.pointer (some ⟨b2,0,none⟩)),(5,.pointer (some ⟨b3,0,none⟩)),(6,i' X),(7,.pointer (some ⟨b4,0,none⟩)),(8,i' i1)]) (fun ⟨i1,K,q,m,k,j,S⟩=>Mem.le M S∧sl (Rp.int .u32) S q m K.num.mag∧sl (Rp.int .u32) S k j K.den.mag) (fun ⟨i1,K,q,m,k,j,S⟩=>St w0 G0 S [(3,some ⟨b1,.cells (x1k).toArray 61 (0,0),0⟩),(4,some ⟨b2,.cells ([.bool false,.slice none 0 0,.bool false,.slice none 0 0]).toArray 60 (0,0),0⟩),(5,some ⟨b3,.cells ([.bool s.num.neg,.slice f s.num.mag.length e,.bool s.den.neg,.slice g s.den.mag.length c]).toArray 60 (0,0),0⟩),(7,some ⟨b4,.cells ([.bool K.num.neg,.slice q K.num.mag.length m,.bool K.den.neg,.slice k K.den.mag.length j]).toArray 60 (0,0),0⟩)]) ⟨0,x2.c,aI,aH,aG,aN,M⟩ hr (fc z (fc z (fc z (fc z (fc z (fc z (fc z fn))))))) ⟨mr,aL,aJ⟩ (wk (lc z (lc z (lc z (lc z ln))))) ?_
     ·intro bC gx hx hr
      obtain⟨i1,K,q,m,k,j,S⟩:=gx
      obtain⟨Q,U,V⟩:=hx
      refine h'<|sr<|mv z z<|yy (V' z z) z<|nx<|I' hr z (fun bq hr=>?_) (fun bq hr=>?_)
      ·refine n'<|b'<|h'<|A'<|Z' [false,false,false,false,false,false,false,false,false,false,false,false] mix (by kernel_rfl) fun hb=>cn (fun _ E=>s' 7 bS' z z z)<|cn (fun _ E=>f' z) ?_
       obtain⟨x3,a9,hr⟩:=hr
       refine cn (fun _ E=>Y0.idxAy dH' sz60 z z (ArRd.lt (bb.mono (mt (mt J F) Q)) a9)) ?_
       obtain⟨a7,a5,a4,a3,bs,aK,aO⟩:=db' (ArRd.at (bb.mono (mt (mt J F) Q)) a9)
       refine cn (fun _ E=>av' _ 3 bS' z z z bs)<|cn (fun _ E=>f' z)<|cn (fun _ E=>f' z)<|cn (fun _ E=>f' z) ?_
       obtain⟨x4,a6,hr⟩:=hr
       refine cn (fun _ E=>P' R' bC' ((aM.mono (mt (mt J F) Q)).mono E) z z a6)<|cn (fun _ E=>bn' z) ?_
       obtain⟨a2,hr⟩:=hr
       refine cn (fun _ E=>Y0.idxA aG' sz3 z z a2)<|cn (fun _ E=>T' sc3 z (AtK.vecAt (E' (E' (aJ' (aA' (X' aM a6))) (mt (mt J F) Q)) E) a2)) ?_
       obtain⟨P,bf,hr⟩:=hr
       refine ay' (post:=fun G v=>∃ l p o n,v = .agg ([.bool P.num.neg,.slice l P.num.mag.length p,.bool P.den.neg,.slice o P.den.mag.length n]).toArray∧sl (Rp.int .u32) G l p P.num.mag∧sl (Rp.int .u32) G o n P.den.mag) (fun _=>z) (fun _ _=>t' E85 z) (gN' bf) z (fun G' E=>⟨(aK.mono E),(aO.mono E)⟩) (fun v G1 G2 E h=>?_) ?_
       ·obtain⟨l,p,o,n,rfl,I,H⟩:=h
        exact⟨_,_,_,_,z,I.mono E,H.mono E⟩
       refine bO' (d:=36) (post:=fun G v=>∃ l p o n,v = .agg ([.bool P.num.neg,.slice l P.num.mag.length p,.bool P.den.neg,.slice o P.den.mag.length n]).toArray∧sl (Rp.int .u32) G l p P.num.mag∧sl (Rp.int .u32) G o n P.den.mag) (fun bA bB ay aT=>?_)
       obtain⟨l,p,o,n,rfl,I,H⟩:=aT
       obtain⟨bn,be,hr⟩:=hr
       refine M' z z (t' E84 z) (fi' be) z (⟨(U.mono ay),(V.mono ay),I,H⟩) (fun bw bp a1 aS=>?_)
       obtain⟨aB,af,aC,am,rfl,ah,ai⟩:=aS
       refine v' 7 z sz60 z z z z z (List.all_eq_true.1 z)<|u'<|am'<|D'<|b'<|w'<|mv z z<|yy (N' z z) z<|sg z z<|u'<|O' ⟨IntKind.i64.wrap (i1+1),bn,aB,af,aC,am,bp⟩ hr ⟨(mt (mt Q ay) a1),ah,ai⟩ (fc z (fc z (fc z (fc z (fc z (fc z (fc z fn))))))) (wk (lc z (lc z (lc z (lc z ln)))))
      ·refine ae'<|m'<|m'<|J'<|af' ⟨K,q,m,k,j,S⟩ ⟨Q,U,V,hr⟩ (fc z (fc z (fc z (fc z (fc z (fc z fn)))))) (wk (lc z (lc z (lc z (lc z ln)))))
    ·rintro⟨L,B,D,C,u,Z⟩ ⟨ax,ae,aj,hr⟩
     refine b'<|w'<|yy (s' 5 bS' z z z) z<|yy (s' 7 bS' z z z) z ?_
     obtain⟨bt,bg,hr⟩:=hr
     refine M' z z (t' E86 z) (gn' bg) z (⟨(R.mono ax),(T.mono ax),ae,aj⟩) (fun bv bm aZ aU=>?_)
     obtain⟨az,ao,av,ad,rfl,aA,ap⟩:=aU
     refine v' 5 z sz60 z z z z z (List.all_eq_true.1 z)<|u'<|D'<|b'<|w'<|mv z z<|yy (N' z z) z<|sg z z<|u'<|O' ⟨IntKind.i64.wrap (X+1),bt,az,ao,av,ad,bm⟩ hr ⟨(mt (mt F ax) aZ),aA,ap⟩ (fc z (fc z (fc z (fc z (fc z fn))))) (wk (lc z (lc z (lc z ln))))
   ·refine ae'<|m'<|m'<|J'<|af' ⟨s,f,e,g,c,M⟩ ⟨F,R,T,hr⟩ (fc z (fc z fn)) (wk (lc z (lc z ln)))
 ·rintro⟨O,A,t,x,y,ab⟩ ⟨bu,aD,an,hr⟩
  refine b'<|sr<|yy (s' 5 bS' z z z) z<|v' 4 z sz60 z z z z z (List.all_eq_true.1 z)<|nx<|j' ?_
  obtain rfl:_=r:=hr
  exact k' z (ad' (i:=4) bS' z z z) ⟨_,_,_,_,z,aD,an⟩
theorem fb'{a1 b1 x1 yv1 a1p a1c b1p b1c x1k x1u yv1k yv1u r}(hr:(ZaB a1 b1 x1 yv1).Ret r):Ctr Tryz.prog 26 #[.slice a1p a1.length a1c,.slice b1p b1.length b1c,.agg (x1k).toArray,.agg (yv1k).toArray] (fun G=>sl a' G a1p a1c a1∧sl a' G b1p b1c b1∧ArRd bk' 8 G x1k x1u x1∧ArRd bk' 8 G yv1k yv1u yv1) (fun G v=>v = .bool r):=by
 refine C' (args:=[_,_,_,_]) (N:=50) Tryz.func26 z z z (fun w0 F av S=>?_)
 obtain⟨o,x,Q,D⟩:=S
 refine sr<|W' 6 z z z fun W=>W' 7 z z z fun X=>sg z z<|nx<|h'<|sr<|mv z z<|yy (L' q' o z) z<|mv z z<|yy (L' q' x z) z<|yy (aQ' z z) z<|nx<|I' hr z (fun Y hr=>?_) (fun Y hr=>?_)
 ·exact (show False from hr).elim
 ·refine n'<|b'<|h'<|sr<|sg z z<|nx<|ab' (fun (A:Mem)=>match A with|u=>[]) (fun (A:Mem)=>match A with|u=>Mem.le F u∧(Zda).Ret r) (fun (A:Mem)=>match A with|u=>St w0 F u []) ?_ ?_
  ·refine A' ?_
   let E:(Bool⊕Unit)→Prop:=fun oo=>((fun ov=>match ov with | .inl rv1=>Comp.ret rv1 | .inr ()=>Zda:(Bool⊕Unit)→Comp Bool) oo).wp (fun a=>a=r)
   replace hr:(Comp.loop _ _).wp E:=hr
   refine ac' (Φ:=E) (fun (⟨y,n⟩:Int×Mem)=>(y:Int)) (fun ⟨y,n⟩=>[(0,.slice a1p a1.length a1c),(1,.slice b1p b1.length b1c),(6,.pointer (some ⟨W,0,none⟩)),(7,.pointer (some ⟨X,0,none⟩)),(9,i' y)]) (fun ⟨y,n⟩=>Mem.le F n) (fun ⟨y,n⟩=>St w0 F n [(6,some ⟨W,.cells (x1k).toArray 61 (0,0),0⟩),(7,some ⟨X,.cells (yv1k).toArray 61 (0,0),0⟩)]) ⟨0,F⟩ hr (fc z (fc z (fc z (fc z (fc z fn))))) mr (wk (lc z (lc z ln))) ?_
   ·intro ar A hx hr
    obtain⟨y,n⟩:=A
    have g:=hx
    refine h'<|sr<|mv z z<|mv z z<|yy (L' q' (o.mono g) z) z<|yy (V' z z) z<|nx<|I' hr z (fun ac hr=>?_) (fun ac hr=>?_)
    ·refine n'<|b'<|h'<|A'<|h'<|Z' [false,false,false,false,false,false,false,false,false,false,false,false,false,false,false,false,false,false,false,false,false,false,false,false,false] mix (by kernel_rfl) fun hb=>cn (fun _ c=>f' z)<|cn (fun _ c=>f' z) ?_
     obtain⟨x2,M,hr⟩:=hr
     refine cn (fun _ c=>P' q' aO' ((o.mono g).mono c) z z M)<|cn (fun _ c=>bc' z)<|cn (fun _ c=>T' sc3 z (aC' (E' (E' (bb' (aA' (X' o M))) g) c)))<|cn (fun _ c=>f' z)<|cn (fun _ c=>f' z) ?_
     obtain⟨x3,O,hr⟩:=hr
     refine cn (fun _ c=>P' q' aO' ((x.mono g).mono c) z z O)<|cn (fun _ c=>bc' z)<|cn (fun _ c=>T' sc3 z (aC' (E' (E' (bb' (aA' (X' x O))) g) c)))<|bY' hr z (fun _ c=>aQ' z z) (fun Z hr=>?_) (fun Z hr=>?_)
     ·refine cn (fun _ c=>f' z)<|cf z z<|cf z z<|cf z z<|cf z z<|cf z z<|cf z z<|cf z z<|cf z z<|cf z z<|cf z z<|cf z z<|cf z z<|cf z z<|Y' hb<|sf z z z<|sf z z z<|sf z z z<|yy (o' z z) z<|u'<|am'<|b'<|at' z<|sr<|sg z z<|nx<|j' ?_
      replace hr:_=r:=hr
      refine x'<|g'<|g'<|x'<|aH'<|g' ?_
      subst hr
      exact k' z z z
     ·refine cn (fun _ c=>f' z)<|cy z z (fun _ c=>f' z)<|cy z z (fun _ c=>f' z) ?_
      obtain⟨x4,L,hr⟩:=hr
      refine cy z z (fun _ c=>P' q' aO' ((o.mono g).mono c) z z L)<|cy z z (fun _ c=>bq' z) ?_
      obtain⟨p1,ap,ae,af⟩:=bU' (E' (aJ' (aA' (X' o L))) g)
      refine cy z z (fun _ c=>T' bP' z (c _ _ _ ae))<|cy z z (fun _ c=>s' 6 ag61 z z (ck' (Q.mono g))) ?_
      obtain⟨m,U,hr⟩:=hr
      refine ay' (post:=fun G v=>∃ f j i e,v = .agg ([.bool m.num.neg,.slice f m.num.mag.length j,.bool m.den.neg,.slice i m.den.mag.length e]).toArray∧sl (Rp.int .u32) G f j m.num.mag∧sl (Rp.int .u32) G i e m.den.mag) (fun _=>(F' z z)) (fun _ _=>t' E50 z) (ge' U) z (fun G' c=>⟨(af.mono c),((Q.mono g).mono c)⟩) (fun v G1 G2 c h=>?_) ?_
      ·obtain⟨f,j,i,e,rfl,l,k⟩:=h
       exact⟨_,_,_,_,z,l.mono c,k.mono c⟩
      refine et' (fun _=>(F' z z)) (fun _ _ c=>f' z)<|et' (fun _=>(F' z z)) (fun _ _ c=>f' z) ?_
      obtain⟨x5,P,hr⟩:=hr
      refine et' (fun _=>(F' z z)) (fun _ _ c=>P' q' aO' ((x.mono g).mono c) z z P)<|et' (fun _=>(F' z z)) (fun _ _ c=>bq' z) ?_
      obtain⟨p2,ao,ag,V⟩:=bU' (E' (aJ' (aA' (X' x P))) g)
      refine et' (fun _=>(F' z z)) (fun _ _ c=>T' bP' z (c _ _ _ ag))<|et' (fun _=>(F' z z)) (fun _ _ c=>s' 7 ag61 z z (ck' (D.mono g)))<|bO' (d:=39) (post:=fun G v=>∃ f j i e,v = .agg ([.bool m.num.neg,.slice f m.num.mag.length j,.bool m.den.neg,.slice i m.den.mag.length e]).toArray∧sl (Rp.int .u32) G f j m.num.mag∧sl (Rp.int .u32) G i e m.den.mag) (fun aj aq p C=>?_)
      obtain⟨f,j,i,e,rfl,l,k⟩:=C
      obtain⟨au,T,hr⟩:=hr
      refine M' (F' z z) z (t' E50 z) (ge' T) z (⟨(V.mono p),(D.mono (mt g p))⟩) (fun am ab t B=>?_)
      obtain⟨H,K,J,I,rfl,s,q⟩:=B
      obtain⟨aw,R,hr⟩:=hr
      refine H' (F' z z) z (t' E49 z) (fY' R) z (⟨(l.mono t),(k.mono t),s,q⟩)<|gy z z (an' z) z<|yy (l' z z) z<|u'<|am'<|b'<|aM' hr z (fun aa hr=>?_) (fun aa hr=>?_)
      ·exact (show False from hr).elim
      ·refine n'<|D'<|b'<|w'<|mv z z<|yy (N' z z) z<|sg z z<|u'<|O' ⟨IntKind.i64.wrap (y+1),ab⟩ hr (mt (mt g p) t) (fc z (fc z (fc z (fc z (fc z fn))))) (wk (lc z (lc z ln)))
    ·refine ae'<|m'<|m'<|J'<|af' n ⟨g,hr⟩ fn (wk ln)
  ·rintro u ⟨ah,hr⟩
   refine b'<|sr<|sg z z<|nx<|j' ?_
   obtain rfl:_=r:=hr
   exact k' z z z
end Go.Proofs.YtenaadodnembpaaGreat

namespace Go.Proofs.YtenaadodnembpaaGreat
open Go Go.EL Go.RowKit Go.Proofs
theorem ZfC(aO:(List Zx))(g:Int)(E:Int)(aR:Option Addr)(aP:Nat)(r:Bool)(hr:(ZcT aO g E).Ret r):Ctr Tryz.prog 6 #[.slice aR aO.length aP,.int .u8 g,.int .u8 E] (fun G=>sl bQ' G aR aP aO) (fun G v=>v = .bool r):=by
 refine C' (args:=[_,_,_]) (N:=121) Tryz.func6 z z z (fun w0 G0 bn bw=>?_)
 have bb:=bw
 refine sr<|sg z z<|nr ?_
 obtain⟨aF,bo,hr⟩:=hr
 refine H' z z (t' E10 z) (cB' bo) z (trivial)<|sg z z<|nx<|h'<|sr<|mv z z<|yy (an' z) z<|nx<|aM' hr z (fun bN hr=>?_) (fun bN hr=>?_)
 ·exact (show False from hr).elim
 ·refine n'<|b'<|sr<|mv z z ?_
  obtain⟨i,bq,hr⟩:=hr
  refine M' z z (t' E11 z) (dd' bq) z (bb) (fun b7 cj bY aX=>?_)
  obtain⟨ag,ad,aq,ap,an,am,rfl,W,ab,Y⟩:=aX
  refine U' 8 z z33 z fun b1=>v' 8 z aY' z z z z z (List.all_eq_true.1 z)<|nr<|yy (as' z) z<|yy (e' 8 bo' z z z) z<|yy (L' y' W z) z<|sg z z<|nr<|aU' (e:=9) (r:=Rp.str) (vs:=#[(0,.string Zn),(1,.string ZH),(2,.string ZA),(3,.string Zu),(4,.string ZU)]) (cs:=[.string Zn]++([.string ZH]++([.string ZA]++([.string Zu]++([.string ZU]++([])))))) ([Zn,ZH,ZA,Zu,ZU]:List ByteArray) z z z z z (by decide) (fun _=>by kernel_rfl) ⟨[.string Zn],[.string ZH]++([.string ZA]++([.string Zu]++([.string ZU]++([])))),z,z,⟨[.string ZH],[.string ZA]++([.string Zu]++([.string ZU]++([]))),z,z,⟨[.string ZA],[.string Zu]++([.string ZU]++([])),z,z,⟨[.string Zu],[.string ZU]++([]),z,z,⟨[.string ZU],[],z,z,z⟩⟩⟩⟩⟩ (key:=999) z (by rw[bn]; rfl) fun p1 cl M bm=>mv z z<|yy (bz' z z (by decide)) z ?_
  obtain⟨R,bh,hr⟩:=hr
  refine yy (P' y' sz9 bm z z bh) z<|yy (T' sc9 z (bB' (X' bm bh))) z<|sg z z<|nx<|h'<|Z' [false,false,false,false,false,false,false,false,false,false,false,false,false,false,false,false,false,false,false,false,false,false,false,false,false,false,false,false,false,false,false] mix (by kernel_rfl) fun hb=>cn (fun _ f=>f' z)<|cn (fun _ f=>aD' aT' au' z)<|cn (fun _ f=>f' z)<|cn (fun _ f=>N' z z) ?_
  obtain⟨bG,hr⟩:=hr
  refine cn (fun _ f=>bz' z z bG)<|cn (fun _ f=>f' z)<|cn (fun _ f=>aq' (vs:=#[(0,i' 1),(2,i' (Int.tmod (IntKind.i64.wrap g) (IntKind.i64.wrap ((i.vars.length:Int)+1)))),(1,.string R)]) (v:=.agg ([i' 1,.string R,i' (Int.tmod (IntKind.i64.wrap g) (IntKind.i64.wrap ((i.vars.length:Int)+1))),i' 0,i' 0,.slice none 0 0,.bool false]).toArray) z z (fun _=>by kernel_rfl))<|cn (fun _ f=>f' z)<|cn (fun _ f=>aD' aT' au' z)<|cn (fun _ f=>f' z)<|cn (fun _ f=>N' z z) ?_
  obtain⟨bH,hr⟩:=hr
  refine cn (fun _ f=>bz' z z bH)<|cn (fun _ f=>aq' (vs:=#[(0,i' 2),(2,i' (Int.tmod (IntKind.i64.wrap g) (IntKind.i64.wrap ((i.vars.length:Int)+1))))]) (v:=.agg ([i' 2,.string ByteArray.empty,i' (Int.tmod (IntKind.i64.wrap g) (IntKind.i64.wrap ((i.vars.length:Int)+1))),i' 0,i' 0,.slice none 0 0,.bool false]).toArray) z z (fun _=>by kernel_rfl))<|cn (fun _ f=>f' z)<|cn (fun _ f=>aD' aT' au' z)<|cn (fun _ f=>f' z)<|cn (fun _ f=>N' z z) ?_
  obtain⟨bL,hr⟩:=hr
  refine cn (fun _ f=>bz' z z bL)<|cn (fun _ f=>f' z)<|cn (fun _ f=>aD' aT' au' z)<|cn (fun _ f=>f' z)<|cn (fun _ f=>N' z z) ?_
  obtain⟨bO,hr⟩:=hr
  refine cn (fun _ f=>bz' z z bO)<|cn (fun _ f=>aq' (vs:=#[(0,i' 4),(2,i' (Int.tmod (IntKind.i64.wrap g) (IntKind.i64.wrap ((i.vars.length:Int)+1)))),(3,i' (Int.tmod (IntKind.i64.wrap E) (IntKind.i64.wrap ((i.vars.length:Int)+1))))]) (v:=.agg ([i' 4,.string ByteArray.empty,i' (Int.tmod (IntKind.i64.wrap g) (IntKind.i64.wrap ((i.vars.length:Int)+1))),i' (Int.tmod (IntKind.i64.wrap E) (IntKind.i64.wrap ((i.vars.length:Int)+1))),i' 0,.slice none 0 0,.bool false]).toArray) z z (fun _=>by kernel_rfl))<|cn (fun _ f=>f' z)<|cn (fun _ f=>aD' aT' au' z)<|cn (fun _ f=>f' z)<|cn (fun _ f=>N' z z) ?_
  obtain⟨bE,hr⟩:=hr
  refine cn (fun _ f=>bz' z z bE)<|cn (fun _ f=>f' z)<|cn (fun _ f=>aq' (vs:=#[(0,i' 3),(2,i' (Int.tmod (IntKind.i64.wrap g) (IntKind.i64.wrap ((i.vars.length:Int)+1)))),(1,.string R)]) (v:=.agg ([i' 3,.string R,i' (Int.tmod (IntKind.i64.wrap g) (IntKind.i64.wrap ((i.vars.length:Int)+1))),i' 0,i' 0,.slice none 0 0,.bool false]).toArray) z z (fun _=>by kernel_rfl))<|Y' hb<|aU' (e:=40) (r:=ah') (vs:=#[(0,.agg ([i' 1,.string R,i' (Int.tmod (IntKind.i64.wrap g) (IntKind.i64.wrap ((i.vars.length:Int)+1))),i' 0,i' 0,.slice none 0 0,.bool false]).toArray),(1,.agg ([i' 2,.string ByteArray.empty,i' (Int.tmod (IntKind.i64.wrap g) (IntKind.i64.wrap ((i.vars.length:Int)+1))),i' 0,i' 0,.slice none 0 0,.bool false]).toArray),(2,.agg ([i' 4,.string ByteArray.empty,i' (Int.tmod (IntKind.i64.wrap g) (IntKind.i64.wrap ((i.vars.length:Int)+1))),i' (Int.tmod (IntKind.i64.wrap E) (IntKind.i64.wrap ((i.vars.length:Int)+1))),i' 0,.slice none 0 0,.bool false]).toArray),(3,.agg ([i' 3,.string R,i' (Int.tmod (IntKind.i64.wrap g) (IntKind.i64.wrap ((i.vars.length:Int)+1))),i' 0,i' 0,.slice none 0 0,.bool false]).toArray)]) (cs:=[i' 1,.string R,i' (Int.tmod (IntKind.i64.wrap g) (IntKind.i64.wrap ((i.vars.length:Int)+1))),i' 0,i' 0,.slice none 0 0,.bool false]++([i' 2,.string ByteArray.empty,i' (Int.tmod (IntKind.i64.wrap g) (IntKind.i64.wrap ((i.vars.length:Int)+1))),i' 0,i' 0,.slice none 0 0,.bool false]++([i' 4,.string ByteArray.empty,i' (Int.tmod (IntKind.i64.wrap g) (IntKind.i64.wrap ((i.vars.length:Int)+1))),i' (Int.tmod (IntKind.i64.wrap E) (IntKind.i64.wrap ((i.vars.length:Int)+1))),i' 0,.slice none 0 0,.bool false]++([i' 3,.string R,i' (Int.tmod (IntKind.i64.wrap g) (IntKind.i64.wrap ((i.vars.length:Int)+1))),i' 0,i' 0,.slice none 0 0,.bool false]++([]))))) ([(Zd.mk 1 R (Int.tmod (IntKind.i64.wrap g) (IntKind.i64.wrap ((i.vars.length:Int)+1))) 0 0 [] false),(Zd.mk 2 ByteArray.empty (Int.tmod (IntKind.i64.wrap g) (IntKind.i64.wrap ((i.vars.length:Int)+1))) 0 0 [] false),(Zd.mk 4 ByteArray.empty (Int.tmod (IntKind.i64.wrap g) (IntKind.i64.wrap ((i.vars.length:Int)+1))) (Int.tmod (IntKind.i64.wrap E) (IntKind.i64.wrap ((i.vars.length:Int)+1))) 0 [] false),(Zd.mk 3 R (Int.tmod (IntKind.i64.wrap g) (IntKind.i64.wrap ((i.vars.length:Int)+1))) 0 0 [] false)]:List Zd) z z z z z (by decide) (fun _=>by kernel_rfl) ⟨[i' 1,.string R,i' (Int.tmod (IntKind.i64.wrap g) (IntKind.i64.wrap ((i.vars.length:Int)+1))),i' 0,i' 0,.slice none 0 0,.bool false],[i' 2,.string ByteArray.empty,i' (Int.tmod (IntKind.i64.wrap g) (IntKind.i64.wrap ((i.vars.length:Int)+1))),i' 0,i' 0,.slice none 0 0,.bool false]++([i' 4,.string ByteArray.empty,i' (Int.tmod (IntKind.i64.wrap g) (IntKind.i64.wrap ((i.vars.length:Int)+1))),i' (Int.tmod (IntKind.i64.wrap E) (IntKind.i64.wrap ((i.vars.length:Int)+1))),i' 0,.slice none 0 0,.bool false]++([i' 3,.string R,i' (Int.tmod (IntKind.i64.wrap g) (IntKind.i64.wrap ((i.vars.length:Int)+1))),i' 0,i' 0,.slice none 0 0,.bool false]++([]))),z,⟨[i' 1],[.string R,i' (Int.tmod (IntKind.i64.wrap g) (IntKind.i64.wrap ((i.vars.length:Int)+1))),i' 0,i' 0,.slice none 0 0,.bool false],z,z,⟨[.string R],[i' (Int.tmod (IntKind.i64.wrap g) (IntKind.i64.wrap ((i.vars.length:Int)+1))),i' 0,i' 0,.slice none 0 0,.bool false],z,z,⟨[i' (Int.tmod (IntKind.i64.wrap g) (IntKind.i64.wrap ((i.vars.length:Int)+1)))],[i' 0,i' 0,.slice none 0 0,.bool false],z,z,⟨[i' 0],[i' 0,.slice none 0 0,.bool false],z,z,⟨[i' 0],[.slice none 0 0,.bool false],z,z,⟨[.slice none 0 0],[.bool false],z,⟨_,z,(aa' _ _)⟩,z⟩⟩⟩⟩⟩⟩,⟨[i' 2,.string ByteArray.empty,i' (Int.tmod (IntKind.i64.wrap g) (IntKind.i64.wrap ((i.vars.length:Int)+1))),i' 0,i' 0,.slice none 0 0,.bool false],[i' 4,.string ByteArray.empty,i' (Int.tmod (IntKind.i64.wrap g) (IntKind.i64.wrap ((i.vars.length:Int)+1))),i' (Int.tmod (IntKind.i64.wrap E) (IntKind.i64.wrap ((i.vars.length:Int)+1))),i' 0,.slice none 0 0,.bool false]++([i' 3,.string R,i' (Int.tmod (IntKind.i64.wrap g) (IntKind.i64.wrap ((i.vars.length:Int)+1))),i' 0,i' 0,.slice none 0 0,.bool false]++([])),z,⟨[i' 2],[.string ByteArray.empty,i' (Int.tmod (IntKind.i64.wrap g) (IntKind.i64.wrap ((i.vars.length:Int)+1))),i' 0,i' 0,.slice none 0 0,.bool false],z,z,⟨[.string ByteArray.empty],[i' (Int.tmod (IntKind.i64.wrap g) (IntKind.i64.wrap ((i.vars.length:Int)+1))),i' 0,i' 0,.slice none 0 0,.bool false],z,z,⟨[i' (Int.tmod (IntKind.i64.wrap g) (IntKind.i64.wrap ((i.vars.length:Int)+1)))],[i' 0,i' 0,.slice none 0 0,.bool false],z,z,⟨[i' 0],[i' 0,.slice none 0 0,.bool false],z,z,⟨[i' 0],[.slice none 0 0,.bool false],z,z,⟨[.slice none 0 0],[.bool false],z,⟨_,z,(aa' _ _)⟩,z⟩⟩⟩⟩⟩⟩,⟨[i' 4,.string ByteArray.empty,i' (Int.tmod (IntKind.i64.wrap g) (IntKind.i64.wrap ((i.vars.length:Int)+1))),i' (Int.tmod (IntKind.i64.wrap E) (IntKind.i64.wrap ((i.vars.length:Int)+1))),i' 0,.slice none 0 0,.bool false],[i' 3,.string R,i' (Int.tmod (IntKind.i64.wrap g) (IntKind.i64.wrap ((i.vars.length:Int)+1))),i' 0,i' 0,.slice none 0 0,.bool false]++([]),z,⟨[i' 4],[.string ByteArray.empty,i' (Int.tmod (IntKind.i64.wrap g) (IntKind.i64.wrap ((i.vars.length:Int)+1))),i' (Int.tmod (IntKind.i64.wrap E) (IntKind.i64.wrap ((i.vars.length:Int)+1))),i' 0,.slice none 0 0,.bool false],z,z,⟨[.string ByteArray.empty],[i' (Int.tmod (IntKind.i64.wrap g) (IntKind.i64.wrap ((i.vars.length:Int)+1))),i' (Int.tmod (IntKind.i64.wrap E) (IntKind.i64.wrap ((i.vars.length:Int)+1))),i' 0,.slice none 0 0,.bool false],z,z,⟨[i' (Int.tmod (IntKind.i64.wrap g) (IntKind.i64.wrap ((i.vars.length:Int)+1)))],[i' (Int.tmod (IntKind.i64.wrap E) (IntKind.i64.wrap ((i.vars.length:Int)+1))),i' 0,.slice none 0 0,.bool false],z,z,⟨[i' (Int.tmod (IntKind.i64.wrap E) (IntKind.i64.wrap ((i.vars.length:Int)+1)))],[i' 0,.slice none 0 0,.bool false],z,z,⟨[i' 0],[.slice none 0 0,.bool false],z,z,⟨[.slice none 0 0],[.bool false],z,⟨_,z,(aa' _ _)⟩,z⟩⟩⟩⟩⟩⟩,⟨[i' 3,.string R,i' (Int.tmod (IntKind.i64.wrap g) (IntKind.i64.wrap ((i.vars.length:Int)+1))),i' 0,i' 0,.slice none 0 0,.bool false],[],z,⟨[i' 3],[.string R,i' (Int.tmod (IntKind.i64.wrap g) (IntKind.i64.wrap ((i.vars.length:Int)+1))),i' 0,i' 0,.slice none 0 0,.bool false],z,z,⟨[.string R],[i' (Int.tmod (IntKind.i64.wrap g) (IntKind.i64.wrap ((i.vars.length:Int)+1))),i' 0,i' 0,.slice none 0 0,.bool false],z,z,⟨[i' (Int.tmod (IntKind.i64.wrap g) (IntKind.i64.wrap ((i.vars.length:Int)+1)))],[i' 0,i' 0,.slice none 0 0,.bool false],z,z,⟨[i' 0],[i' 0,.slice none 0 0,.bool false],z,z,⟨[i' 0],[.slice none 0 0,.bool false],z,z,⟨[.slice none 0 0],[.bool false],z,⟨_,z,(aa' _ _)⟩,z⟩⟩⟩⟩⟩⟩,z⟩⟩⟩⟩ (key:=999) z (by rw[bn]; rfl) (fun p2 a4 O aj=>?_)
  refine sg z z<|u'<|am'<|b'<|h'<|sr<|sg z z<|nx<|ab' (fun (gx:Mem)=>match gx with|aG=>[(7,.bool aF)]) (fun (gx:Mem)=>match gx with|aG=>Mem.le a4 aG∧(ZaX aF).Ret r) (fun (gx:Mem)=>match gx with|aG=>St w0 G0 aG []) ?_ ?_
  ·refine A' ?_
   let aM:(Bool⊕Unit)→Prop:=fun oo=>((fun ov=>match ov with | .inl rv1=>Comp.ret rv1 | .inr ()=>ZaX aF:(Bool⊕Unit)→Comp Bool) oo).wp (fun a=>a=r)
   replace hr:(Comp.loop _ _).wp aM:=hr
   refine ac' (Φ:=aM) (fun (⟨F,ah⟩:Int×Mem)=>(F:Int)) (fun ⟨F,ah⟩=>[(7,.bool aF),(8,.pointer (some ⟨b1,0,none⟩)),(10,.string R),(11,.slice p2 4 4),(12,i' F)]) (fun ⟨F,ah⟩=>Mem.le a4 ah) (fun ⟨F,ah⟩=>St w0 G0 ah [(8,some ⟨b1,.cells ((v33' i ag ad aq ap an am)).toArray 33 (0,0),0⟩)]) ⟨0,a4⟩ hr (fc z (fc z (fc z (fc z (fc z fn))))) mr (wk (lc z ln)) ?_
   ·intro bW gx hx hr
    obtain⟨F,ah⟩:=gx
    have A:=hx
    refine h'<|sr<|mv z z<|mv z z<|yy (L' ao' (aj.mono A) z) z<|yy (V' z z) z<|nx<|I' hr z (fun bQ hr=>?_) (fun bQ hr=>?_)
    ·refine n'<|b'<|h'<|A'<|h'<|Z' [false,false,false,false,false,false,false,false,true,false] mix (by kernel_rfl) fun hb=>cn (fun _ f=>s' 8 ag' z z z)<|cn (fun _ f=>f' z)<|cn (fun _ f=>f' z) ?_
     obtain⟨x2,bj,hr⟩:=hr
     refine cn (fun _ f=>P' ao' bF' ((aj.mono A).mono f) z z bj) ?_
     obtain⟨ca,b0,bC,bx⟩:=cG' (E' (X' aj bj) A)
     refine cn (fun _ f=>ax' _ bw' z z (fun j v hv=>f _ _ _ (bC j v hv))) ?_
     obtain⟨y,bp,hr⟩:=hr
     refine ay' (post:=fun G v=>∃ s t C B p x,v = .tuple #[.agg ((v33' y.1 s t C B p x)).toArray,i' y.2]∧sl Rp.str G s t y.1.vars∧sl a' G C B y.1.eqs∧sl a' G p x y.1.neqs) (fun _=>z) (fun _ _=>t' E14 z) (cb' bp) z (fun G' f=>⟨((W.mono (mt (mt M O) A)).mono f),((ab.mono (mt (mt M O) A)).mono f),((Y.mono (mt (mt M O) A)).mono f),(bx.mono f)⟩) (fun v G1 G2 f h=>?_) ?_
     ·obtain⟨s,t,C,B,p,x,rfl,I,L,J⟩:=h
      exact⟨_,_,_,_,_,_,z,I.mono f,L.mono f,J.mono f⟩
     refine bj' (φ:=fun G v=>∃ Z T p4 S p5 U,v = .tuple #[.agg ((v33' y.1 Z T p4 S p5 U)).toArray,i' y.2]∧sl Rp.str G Z T y.1.vars∧sl a' G p4 S y.1.eqs∧sl a' G p5 U y.1.neqs) (fun _=>z) (fun v G1 G2 f h=>?_) (fun u G' f hu=>?_) ?_
     ·obtain⟨Z,T,p4,S,p5,U,rfl,ay,az,aI⟩:=h
      exact⟨_,_,_,_,_,_,z,ay.mono f,az.mono f,aI.mono f⟩
     ·obtain⟨⟨s,t,C,B,p,x,bd,I,L,J⟩,_⟩:=(show (fun G v=>∃ s t C B p x,v = .tuple #[.agg ((v33' y.1 s t C B p x)).toArray,i' y.2]∧sl Rp.str G s t y.1.vars∧sl a' G C B y.1.eqs∧sl a' G p x y.1.neqs) G'.m (u 74)∧True from hu)
      simp only[undFr,bd]
      exact⟨_,f' z,s,t,C,B,p,x,z,I,L,J⟩
     refine bj' (φ:=fun G v=>∃ p6 aC p7 aD p8 aE,v = .agg ((v33' y.1 p6 aC p7 aD p8 aE)).toArray∧sl Rp.str G p6 aC y.1.vars∧sl a' G p7 aD y.1.eqs∧sl a' G p8 aE y.1.neqs) (fun _=>z) (fun v G1 G2 f h=>?_) (fun u G' f hu=>?_) ?_
     ·obtain⟨p6,aC,p7,aD,p8,aE,rfl,aQ,aA,aB⟩:=h
      exact⟨_,_,_,_,_,_,z,aQ.mono f,aA.mono f,aB.mono f⟩
     ·obtain⟨⟨Z,T,p4,S,p5,U,ax,ay,az,aI⟩,_,_⟩:=(show (fun G v=>∃ Z T p4 S p5 U,v = .tuple #[.agg ((v33' y.1 Z T p4 S p5 U)).toArray,i' y.2]∧sl Rp.str G Z T y.1.vars∧sl a' G p4 S y.1.eqs∧sl a' G p5 U y.1.neqs) G'.m (u 68)∧True∧True from hu)
      simp only[undFr,ax]
      exact⟨_,K' z z,Z,T,p4,S,p5,U,z,ay,az,aI⟩
     refine bN' (c:=i' y.2) (fun _=>z) (fun u G' f hu=>?_) ?_
     ·obtain⟨_,⟨Z,T,p4,S,p5,U,ax,ay,az,aI⟩,_,_⟩:=(show True∧(fun G v=>∃ Z T p4 S p5 U,v = .tuple #[.agg ((v33' y.1 Z T p4 S p5 U)).toArray,i' y.2]∧sl Rp.str G Z T y.1.vars∧sl a' G p4 S y.1.eqs∧sl a' G p5 U y.1.neqs) G'.m (u 68)∧True∧True from hu)
      simp only[undFr,ax]
      exact K' z z
     refine bm' (fun _=>z) z33<|cc' (fun cm cc b8 ch X1 K a6 aU aT aW=>?_)
     obtain⟨b2,rfl,br⟩:=a6
     obtain⟨p6,aC,p7,aD,p8,aE,rfl,aQ,aA,aB⟩:=aU
     obtain⟨Z,T,p4,S,p5,U,rfl,ay,az,aI⟩:=aT
     obtain⟨s,t,C,B,p,x,rfl,I,L,J⟩:=aW
     refine ci' br (bT' (show WL _ _ _ _ _ _ (St w0 G0 X1.m _) from ?_))
     refine v' 13 z aY' z z z z z (List.all_eq_true.1 z)<|sg z z<|u'<|am'<|b'<|h'<|sr<|mv z z<|yy (aQ' z z) z<|nx<|I' hr z (fun bT hr=>?_) (fun bT hr=>?_)
     ·refine ae'<|m'<|J'<|b'<|w'<|mv z z<|yy (N' z z) z<|sg z z<|u'<|O' ⟨IntKind.i64.wrap (F+1),X1.m⟩ hr (mt A K) (fc z (fc z (fc z (fc z (fc z fn))))) (wk (lc z ln))
     ·refine n'<|b'<|h'<|Z' [false,false,false,false,false,false] mix (by kernel_rfl) fun hb=>cn (fun _ f=>s' 8 ag' z z z) ?_
      obtain⟨a1,bv,hr⟩:=hr
      refine ay' (post:=fun G v=>∃ ak ae,v = .agg (ak).toArray∧ArRd bk' 8 G ak ae a1) (fun _=>z) (fun _ _=>t' E24 z) (fa' bv) z (fun G' f=>⟨((W.mono (mt (mt (mt M O) A) K)).mono f),((ab.mono (mt (mt (mt M O) A) K)).mono f),((Y.mono (mt (mt (mt M O) A) K)).mono f)⟩) (fun v G1 G2 f h=>?_) ?_
      ·obtain⟨ak,ae,rfl,X⟩:=h
       exact⟨_,_,z,X.mono f⟩
      refine cu (fun _ _ f=>s' 13 ag' z z z) ?_
      obtain⟨bi,bs,hr⟩:=hr
      refine ay' (post:=fun G v=>∃ ao aL,v = .agg (ao).toArray∧ArRd bk' 8 G ao aL bi) (fun _=>z) (fun _ _=>t' E24 z) (fa' bs) z (fun G' f=>⟨(aQ.mono f),(aA.mono f),(aB.mono f)⟩) (fun v G1 G2 f h=>?_) ?_
      ·obtain⟨ao,aL,rfl,V⟩:=h
       exact⟨_,_,z,V.mono f⟩
      refine bm' (fun _=>z) z61<|bm' (fun _=>z) z61<|cc' (fun ck cp cd b6 X2 H a7 af aS aV=>?_)
      obtain⟨ao,aL,rfl,V⟩:=aS
      obtain⟨ak,ae,rfl,X⟩:=aV
      refine WL.adoptL a7 (fun b4 bS bU=>?_)
      subst bS
      replace af:=Laid.drop af (by decide) bU
      refine WL.adoptL af (fun b3 bJ co=>?_)
      subst bJ
      refine bT' (show WL _ _ _ _ _ _ (St w0 G0 X2.m _) from ?_)
      refine v' 15 z sz61 z z z (ck' (show ArRd bk' 8 X2.m ([.bool false,.slice none 0 0,.bool false,.slice none 0 0,.bool false,.slice none 0 0,.bool false,.slice none 0 0,.bool false,.slice none 0 0,.bool false,.slice none 0 0,.bool false,.slice none 0 0,.bool false,.slice none 0 0,.bool false,.slice none 0 0,.bool false,.slice none 0 0,.bool false,.slice none 0 0,.bool false,.slice none 0 0,.bool false,.slice none 0 0,.bool false,.slice none 0 0,.bool false,.slice none 0 0,.bool false,.slice none 0 0]:List Value) () _ from dW' (G:=X2.m) (r:=bk') (n:=8) (zc:=[.bool false,.slice none 0 0,.bool false,.slice none 0 0]) (z:=(Zf.mk (Zg.mk false []) (Zg.mk false []))) ⟨[.bool false,.slice none 0 0],[.bool false,.slice none 0 0],z,⟨[.bool false],[.slice none 0 0],z,z,⟨_,z,(aa' _ _)⟩⟩,⟨[.bool false],[.slice none 0 0],z,z,⟨_,z,(aa' _ _)⟩⟩⟩)) (ck' X) (ArRd.one X)<|v' 16 z sz61 z z z (ck' (show ArRd bk' 8 X2.m ([.bool false,.slice none 0 0,.bool false,.slice none 0 0,.bool false,.slice none 0 0,.bool false,.slice none 0 0,.bool false,.slice none 0 0,.bool false,.slice none 0 0,.bool false,.slice none 0 0,.bool false,.slice none 0 0,.bool false,.slice none 0 0,.bool false,.slice none 0 0,.bool false,.slice none 0 0,.bool false,.slice none 0 0,.bool false,.slice none 0 0,.bool false,.slice none 0 0,.bool false,.slice none 0 0,.bool false,.slice none 0 0]:List Value) () _ from dW' (G:=X2.m) (r:=bk') (n:=8) (zc:=[.bool false,.slice none 0 0,.bool false,.slice none 0 0]) (z:=(Zf.mk (Zg.mk false []) (Zg.mk false []))) ⟨[.bool false,.slice none 0 0],[.bool false,.slice none 0 0],z,⟨[.bool false],[.slice none 0 0],z,z,⟨_,z,(aa' _ _)⟩⟩,⟨[.bool false],[.slice none 0 0],z,z,⟨_,z,(aa' _ _)⟩⟩⟩)) (ck' V) (ArRd.one V)<|u'<|am'<|b'<|aV' (fun (⟨aH,ai,aw,al⟩:(List Zf)×List Value×Unit×Mem)=>[(7,.bool aF),(8,.pointer (some ⟨b1,0,none⟩)),(10,.string R),(11,.slice p2 4 4),(12,i' F),(13,.pointer (some ⟨b2,0,none⟩)),(15,.pointer (some ⟨b3,0,none⟩)),(16,.pointer (some ⟨b4,0,none⟩))]) (fun ⟨aH,ai,aw,al⟩=>Mem.le X2.m al∧ArRd bk' 8 al ai aw aH∧(Zao i F y bi aH).wp (Out bW aM)) (fun ⟨aH,ai,aw,al⟩=>St w0 G0 al [(8,some ⟨b1,.cells ((v33' i ag ad aq ap an am)).toArray 33 (0,0),0⟩),(13,some ⟨b2,.cells ((v33' y.1 p6 aC p7 aD p8 aE)).toArray 33 (0,0),0⟩),(15,some ⟨b3,.cells (ai).toArray 61 (0,0),0⟩),(16,some ⟨b4,.cells (ao).toArray 61 (0,0),0⟩)]) ?_ ?_
      ·skip
       refine sr<|mv z z<|mv z z ?_
       obtain⟨x3,bk,hr⟩:=hr
       refine yy (P' ao' bF' (aj.mono (mt (mt A K) H)) z z bk) z<|yy (bM' z) z<|yy (T' sc3 z (aC' (E' (bb' (aA' (X' aj bk))) (mt (mt A K) H)))) z<|yy (ak' z z) z<|nx<|I' hr z (fun bF hr=>?_) (fun bF hr=>?_)
       ·refine Z' [false,false,false,false,false,false,false] mix (by kernel_rfl) fun hb=>cn (fun _ f=>f' z)<|cn (fun _ f=>f' z) ?_
        obtain⟨x4,bg,hr⟩:=hr
        refine cn (fun _ f=>P' ao' bF' ((aj.mono (mt (mt A K) H)).mono f) z z bg)<|cn (fun _ f=>aB' z)<|cn (fun _ f=>T' sc3 z (aC' (E' (E' (bb' (aJ' (aJ' (aA' (X' aj bg))))) (mt (mt A K) H)) f)))<|cn (fun _ f=>f' z) ?_
        obtain⟨q,be,hr⟩:=hr
        refine ay' (post:=fun G v=>∃ o k m l,v = .agg ([.bool q.num.neg,.slice o q.num.mag.length k,.bool q.den.neg,.slice m q.den.mag.length l]).toArray∧sl (Rp.int .u32) G o k q.num.mag∧sl (Rp.int .u32) G m l q.den.mag) (fun _=>z) (fun _ _=>t' E25 z) (eZ' be) z (fun G' f=>trivial) (fun v G1 G2 f h=>?_) ?_
        ·obtain⟨o,k,m,l,rfl,P,Q⟩:=h
         exact⟨_,_,_,_,z,P.mono f,Q.mono f⟩
        refine bO' (d:=95) (post:=fun G v=>∃ o k m l,v = .agg ([.bool q.num.neg,.slice o q.num.mag.length k,.bool q.den.neg,.slice m q.den.mag.length l]).toArray∧sl (Rp.int .u32) G o k q.num.mag∧sl (Rp.int .u32) G m l q.den.mag) (fun bX bV av aJ=>?_)
        obtain⟨o,k,m,l,rfl,P,Q⟩:=aJ
        obtain⟨x5,bl,hr⟩:=hr
        refine yy (Y0.idxAy dH' sz60 z z (ArRd.lt (X.mono av) bl)) z<|WL.storeAy (cs':=[.bool q.num.neg,.slice o q.num.mag.length k,.bool q.den.neg,.slice m q.den.mag.length l]) (z':=q) 15 z sz60 z (by decide) (X.mono av) z z z z ⟨(v58' q.num o k),(v58' q.den m l),z,⟨[.bool q.num.neg],[.slice o q.num.mag.length k],z,z,⟨_,z,P⟩⟩,⟨[.bool q.den.neg],[.slice m q.den.mag.length l],z,z,⟨_,z,Q⟩⟩⟩ bl fun d1 bM=>u'<|am'<|ar' ⟨a1.set x4.at'.toNat q,d1,ae,bV⟩ ⟨av,bM,hr⟩ (fc z (fc z (fc z (fc z (fc z (fc z (fc z (fc z fn)))))))) (wk (lc z (lc z (lc z (lc z ln)))))
       ·refine n'<|ar' ⟨a1,ak,ae,X2.m⟩ ⟨mr,X,hr⟩ (fc z (fc z (fc z (fc z (fc z (fc z (fc z (fc z fn)))))))) (wk (lc z (lc z (lc z (lc z ln)))))
      ·rintro⟨aH,ai,aw,al⟩ ⟨D,au,hr⟩
       refine sr<|yy (s' 13 ag' z z z) z ?_
       obtain⟨bB,bt,hr⟩:=hr
       refine H' z z (t' E22 z) (fK' bt) z (⟨(aQ.mono (mt H D)),(aA.mono (mt H D)),(aB.mono (mt H D))⟩) ?_
       cases bB
       ·skip
        refine yy (an' z) z<|mv z z<|sf z z z<|sf z z z<|sf z z z<|sf z z z<|sf z z z<|sf z z z<|sf z z z<|sf z z z<|yy (o' z z) z<|mv z z<|sf z z z<|sf z z z<|sf z z z<|sf z z z<|sf z z z<|sf z z z<|sf z z z<|sf z z z<|yy (o' z z) z<|nx<|at' z<|sr<|sg z z<|nx<|j' ?_
        replace hr:_=r:=hr
        refine x'<|g'<|g'<|x'<|aH'<|g' ?_
        subst hr
        exact k' z z z
       ·skip
        refine yy (an' z) z<|mv z z<|gy z z (az' z) z<|gy z z (e' 8 aS' z z z) z<|gy z z (az' z) z<|gy z z (e' 13 aS' z z z) z<|gy z z (s' 15 ag61 z z (ck' au)) z<|gy z z (s' 16 ag61 z z (ck' (V.mono D))) z ?_
        obtain⟨bD,bu,hr⟩:=hr
        refine H' (F' z z) z (t' E26 z) (fb' bu) z (⟨(ab.mono (mt (mt (mt (mt (mt M O) A) K) H) D)),(aA.mono (mt H D)),au,(V.mono D)⟩) ?_
        cases bD
        ·skip
         refine gy z z (an' z) z<|yy (l' z z) z<|mv z z<|sf z z z<|sf z z z<|sf z z z<|sf z z z<|sf z z z<|sf z z z<|sf z z z<|sf z z z<|yy (o' z z) z<|nx<|at' z<|sr<|sg z z<|nx<|j' ?_
         replace hr:_=r:=hr
         refine x'<|g'<|g'<|x'<|aH'<|g' ?_
         subst hr
         exact k' z z z
        ·skip
         refine gy z z (an' z) z<|yy (l' z z) z<|mv z z<|gy z z (aK' z) z<|gy z z (e' 8 aS' z z z) z<|gy z z (aK' z) z<|gy z z (e' 13 aS' z z z) z<|gy z z (s' 15 ag61 z z (ck' au)) z<|gy z z (s' 16 ag61 z z (ck' (V.mono D))) z ?_
         obtain⟨cg,bf,hr⟩:=hr
         refine H' (F' z z) z (t' E26 z) (fb' bf) z (⟨(Y.mono (mt (mt (mt (mt (mt M O) A) K) H) D)),(aB.mono (mt H D)),au,(V.mono D)⟩)<|gy z z (an' z) z<|yy (l' z z) z<|nx<|aM' hr z (fun bK hr=>?_) (fun bK hr=>?_)
         ·exact (show False from hr).elim
         ·refine n'<|D'<|b'<|w'<|mv z z<|yy (N' z z) z<|sg z z<|u'<|O' ⟨IntKind.i64.wrap (F+1),al⟩ hr (mt (mt (mt A K) H) D) (fc z (fc z (fc z (fc z (fc z fn))))) (wk (lc z ln))
    ·refine ae'<|m'<|m'<|J'<|af' ah ⟨A,hr⟩ (fc z fn) (wk ln)
  ·rintro aG ⟨bZ,hr⟩
   refine b'<|sr<|mv z z<|sg z z<|nx<|j' ?_
   obtain rfl:_=r:=hr
   exact k' z z z
end Go.Proofs.YtenaadodnembpaaGreat

namespace Go.EL
open Go Go.RowKit
end Go.EL

namespace Go.EL
open Go Go.RowKit
def RunsTo:Zb→List Zd→Zb→Prop
 | s,[],t=>s=t
 | s,e::l,t=>checkF s e=0∧RunsTo (doF s e) l t
theorem RunsTo.append{t u:Zb}:∀ {l m:List Zd}{s:Zb},RunsTo s l t→RunsTo t m u→RunsTo s (l++m) u
 | [],_,_,h,h2=>by cases h; exact h2
 | _::_,_,_,⟨h0,h1⟩,h2=>⟨h0,RunsTo.append h1 h2⟩
theorem RunsTo.all{t:Zb}:∀ {l:List Zd}{s:Zb}(k:Nat),RunsTo s l t→allF s l k=⟨t,((k+l.length:Nat):Int),0⟩
 | [],_,_,h=>by cases h; rfl
 | e::l,s,k,⟨h0,h1⟩=>by
  have e1:allF s (e::l) k=allF (doF s e) l (k+1):=if_pos h0
  rw[e1,RunsTo.all (k+1) h1,show k+1+l.length=k+(e::l).length by simp only[List.length_cons]; omega]
end Go.EL

namespace Go.EL
open Go Go.RowKit
theorem Z9{x:Int}(h:0≤x∧x<18446744073709551616):IntKind.u64.wrap x=x:=by
 simp only[IntKind.wrap,IntKind.bits,IntKind.signed,Bool.false_and,Bool.false_eq_true,if_false]
 omega
theorem ZiW{x:Int}(h:0≤x∧x<4294967296):IntKind.u32.wrap x=x:=by
 simp only[IntKind.wrap,IntKind.bits,IntKind.signed,Bool.false_and,Bool.false_eq_true,if_false]
 omega
def magI(x:Int):List Int:=if x=0 then [] else [x]
theorem mag0:magI 0=[]:=rfl
theorem mag1{x:Int}(h:x≠0):magI x=[x]:=if_neg h
theorem ZkR:(Zat []).Ret []:=Comp.Ret.ZcL 5 rfl
theorem le00:(0:Int)≤0:=Int.le_refl 0
theorem lt01:(0:Int)<1:=by decide
theorem le01:(0:Int)≤1:=by decide
theorem le02:(0:Int)≤2:=by decide
theorem nlt00:¬ (0:Int)<0:=by decide
theorem nlt11:¬ (1:Int)<1:=by decide
theorem ZeH(x:Int):(Zat [x]).Ret (magI x):=by
 show (Comp.next _ _).wp _
 refine Comp.Zm (Comp.wp.yes lt01 ⟨x,⟨le00,rfl⟩,?_⟩)
 by_cases h:x=0
 ·refine Comp.wp.yes h (Comp.Zm (Comp.wp.no nlt00 ?_))
  rw[h]
  exact⟨⟨le00,le00,le01⟩,rfl⟩
 ·refine Comp.wp.no h ?_
  rw[mag1 h]
  exact⟨⟨le00,le01,Int.le_refl 1⟩,rfl⟩
theorem Zim(x:Int):(Zat [x,0]).Ret (magI x):=by
 show (Comp.next _ _).wp _
 refine Comp.Zm (Comp.wp.yes (by decide:(0:Int)<2) ⟨0,⟨le01,rfl⟩,Comp.wp.yes rfl (Comp.Zm (Comp.wp.yes lt01 ⟨x,⟨le00,rfl⟩,?_⟩))⟩)
 by_cases h:x=0
 ·refine Comp.wp.yes h (Comp.Zm (Comp.wp.no nlt00 ?_))
  rw[h]
  exact⟨⟨le00,le00,le02⟩,rfl⟩
 ·refine Comp.wp.no h ?_
  rw[mag1 h]
  exact⟨⟨le00,le01,(by decide:(1:Int)≤2)⟩,rfl⟩
theorem Zdk(x:Int):(Zat (magI x)).Ret (magI x):=by
 by_cases h:x=0
 ·subst h; exact ZkR
 ·rw[mag1 h]
  have:=ZeH x
  rwa [mag1 h] at this
def intI(n:Int):Zg:=⟨decide (n<0),magI (n.natAbs:Int)⟩
theorem Zdh(n:Int):ratI n=⟨intI n,⟨false,[1]⟩⟩:=by
 unfold ratI intI magI
 by_cases h:n=0
 ·subst h; rfl
 ·rw[if_neg h,if_neg (by omega)]
theorem Zb8(neg:Bool){x:Int}(h:0≤x){l:List Int}(hl:(Zat l).Ret (magI x)):(Zas neg l).Ret (intI (if neg=true then -x else x)):=by
 refine⟨_,hl,?_⟩
 rw[Comp.Ze]
 cases neg with
 | true=>
  rw[if_pos rfl,if_pos rfl]
  show _=_
  unfold intI
  by_cases hx:x=0
  ·subst hx; rfl
  ·rw[mag1 hx,mag1 (by omega:((-x).natAbs:Int)≠0),show ((-x).natAbs:Int)=x by omega,decide_eq_true (show -x<0 by omega)]
   rfl
 | false=>
  rw[if_neg (by decide),if_neg (by decide)]
  show _=_
  unfold intI
  rw[show ((x.natAbs:Nat):Int)=x by omega,decide_eq_false (show ¬ x<0 by omega)]
theorem Zez(n:Int):(intI n).neg=decide (n<0):=rfl
theorem Zif(n:Int):(intI n).mag=magI (n.natAbs:Int):=rfl
theorem Zm9{a b:Int}(ha:1≤a∧a<4294967296)(hb:1≤b∧b<4294967296)(hab:0≤a*b∧a*b<4294967296):(Zcf [a] [b]).Ret (magI (a*b)):=by
 have w1:IntKind.u64.wrap (IntKind.u64.wrap (IntKind.u64.wrap (IntKind.u64.wrap a*IntKind.u64.wrap b)+IntKind.u64.wrap 0)+0)=a*b:=by
  rw[Z9 (x:=a) (by omega),Z9 (x:=b) (by omega),Z9 (x:=0) (by omega)]
  simp only[Int.add_zero]
  rw[Z9 (x:=a*b) (by omega),Z9 (x:=a*b) (by omega),Z9 (x:=a*b) (by omega)]
 have w2:IntKind.u32.wrap (Int.tmod (a*b) 4294967296)=a*b:=by
  rw[Int.tmod_eq_emod_of_nonneg hab.1,Int.emod_eq_of_lt hab.1 hab.2,ZiW (by omega)]
 have w3:IntKind.u64.wrap (Int.tdiv (a*b) 4294967296)=0:=by
  rw[Int.tdiv_eq_ediv_of_nonneg hab.1,Int.ediv_eq_zero_of_lt hab.1 hab.2]; rfl
 refine⟨⟨le02,(by decide:(2:Int)≤1000000)⟩,?_⟩
 show (Comp.next _ _).wp _
 refine Comp.Zm (Comp.wp.yes lt01 ?_)
 show (Comp.next _ _).wp _
 refine Comp.Zm (Comp.wp.yes lt01 ⟨a,⟨le00,rfl⟩,b,⟨le00,rfl⟩,0,⟨le00,rfl⟩,0,⟨le00,rfl⟩,?_⟩)
 show (Comp.loop _ _).wp _
 rw[w1,w2,w3]
 exact Comp.Zm (Comp.wp.no nlt11 ⟨0,⟨le01,rfl⟩,Comp.Zm (Comp.wp.no nlt11 ⟨_,Zim (a*b),rfl⟩)⟩)
theorem Zm8(b:Int):(Zcf [] (magI b)).Ret []:=by
 by_cases h:b=0
 ·subst h; exact Comp.Ret.ZcL 5 rfl
 ·rw[mag1 h]
  refine⟨⟨le01,(by decide:(1:Int)≤1000000)⟩,?_⟩
  show (Comp.next _ _).wp _
  exact Comp.Zm (Comp.wp.no nlt00 ⟨_,ZeH 0,rfl⟩)
theorem Zmr{a:Int}:(Zcf [a] []).Ret []:=by
 refine⟨⟨le01,(by decide:(1:Int)≤1000000)⟩,?_⟩
 show (Comp.next _ _).wp _
 refine Comp.Zm (Comp.wp.yes lt01 ?_)
 show (Comp.next _ _).wp _
 exact Comp.Zm (Comp.wp.no nlt00 ⟨0,⟨le00,rfl⟩,Comp.Zm (Comp.wp.no nlt11 ⟨_,ZeH 0,rfl⟩)⟩)
theorem Zna{a b:Int}(ha:0≤a∧a<4294967296)(hb:0≤b∧b<4294967296)(hab:a*b<4294967296):(Zcf (magI a) (magI b)).Ret (magI (a*b)):=by
 by_cases h1:a=0
 ·subst h1; rw[Int.zero_mul]; exact Zm8 b
 ·by_cases h2:b=0
  ·subst h2; rw[Int.mul_zero,mag1 h1]; exact Zmr
  ·rw[mag1 h1,mag1 h2]
   exact Zm9 (by omega) (by omega) ⟨Int.mul_nonneg ha.1 hb.1,hab⟩
theorem ZfD{a b:Int}(ha:a.natAbs<4294967296)(hb:b.natAbs<4294967296)(hab:(a*b).natAbs<4294967296):(ZcU (intI a) (intI b)).Ret (intI (a*b)):=by
 rw[Int.natAbs_mul] at hab
 have h1:((a.natAbs:Int)*(b.natAbs:Int))<4294967296:=by
  rw[← Int.natCast_mul]; omega
 refine⟨_,Zna (a:=(a.natAbs:Int)) (b:=(b.natAbs:Int)) (by omega) (by omega) h1,?_⟩
 refine⟨_,Zb8 _ (Int.mul_nonneg (by omega) (by omega)) (Zdk _),?_⟩
 show _=_
 congr 1
 rw[Zez,Zez]
 by_cases h2:a<0
 ·by_cases h3:b<0
  ·rw[decide_eq_true h2,decide_eq_true h3,if_neg (by decide),show (a.natAbs:Int) = -a by omega,show (b.natAbs:Int) = -b by omega,Int.neg_mul_neg]
  ·rw[decide_eq_true h2,decide_eq_false h3,if_pos (by decide),show (a.natAbs:Int) = -a by omega,show (b.natAbs:Int)=b by omega,Int.neg_mul,Int.neg_neg]
 ·by_cases h3:b<0
  ·rw[decide_eq_false h2,decide_eq_true h3,if_pos (by decide),show (a.natAbs:Int)=a by omega,show (b.natAbs:Int) = -b by omega,Int.mul_neg,Int.neg_neg]
  ·rw[decide_eq_false h2,decide_eq_false h3,if_neg (by decide),show (a.natAbs:Int)=a by omega,show (b.natAbs:Int)=b by omega]
theorem word0{a:Int}(h:0≤a∧a<4294967296):(ZaU (magI a) 0).Ret a:=by
 unfold ZaU
 by_cases h1:a=0
 ·subst h1; exact Comp.wp.no nlt00 rfl
 ·rw[mag1 h1]
  exact Comp.wp.yes lt01 ⟨a,⟨le00,rfl⟩,Z9 (by omega)⟩
theorem word1(a:Int):(ZaU (magI a) 1).Ret 0:=by
 unfold ZaU
 by_cases h1:a=0
 ·subst h1; exact Comp.wp.no (by decide:¬ (1:Int)<0) rfl
 ·rw[mag1 h1]
  exact Comp.wp.no nlt11 rfl
theorem ZnZ{a b:Int}(h:¬ (a=0∧b=0)):IntKind.i64.wrap ((if ((magI a).length:Int)<((magI b).length:Int) then ((magI b).length:Int) else ((magI a).length:Int))+1)=2:=by
 by_cases h1:a=0
 ·rw[h1,mag0,mag1 (by omega:b≠0)]; rfl
 ·by_cases h2:b=0
  ·rw[h2,mag0,mag1 h1]; rfl
  ·rw[mag1 h1,mag1 h2]; rfl
theorem ZmA{a b:Int}(ha:0≤a)(hb:0≤b)(hab:a+b<4294967296):(ZeK (magI a) (magI b)).Ret (magI (a+b)):=by
 by_cases h:a=0∧b=0
 ·obtain⟨rfl,rfl⟩:=h
  exact Comp.Ret.ZcL 8 rfl
 ·have w1:IntKind.u64.wrap (IntKind.u64.wrap (a+b)+0)=a+b:=by rw[Z9 (x:=a+b) (by omega),Int.add_zero,Z9 (by omega)]
  have w2:IntKind.u32.wrap (Int.tmod (a+b) 4294967296)=a+b:=by
   rw[Int.tmod_eq_emod_of_nonneg (by omega),Int.emod_eq_of_lt (by omega) hab,ZiW (by omega)]
  have w3:IntKind.u64.wrap (Int.tdiv (a+b) 4294967296)=0:=by
   rw[Int.tdiv_eq_ediv_of_nonneg (by omega),Int.ediv_eq_zero_of_lt (by omega) hab]; rfl
  unfold ZeK ZgA
  rw[ZnZ h]
  refine⟨⟨le02,(by decide:(2:Int)≤1000000)⟩,?_⟩
  refine Comp.Zm (Comp.wp.yes (by decide:(0:Int)<2) ⟨_,word0 ⟨ha,by omega⟩,_,word0 ⟨hb,by omega⟩,0,⟨le00,rfl⟩,?_⟩)
  show (Comp.loop _ _).wp _
  rw[w1,w2,w3]
  refine Comp.Zm (Comp.wp.yes (by decide:(1:Int)<2) ⟨_,word1 a,_,word1 b,0,⟨le01,rfl⟩,?_⟩)
  exact Comp.Zm (Comp.wp.no (by decide:¬ (2:Int)<2) ⟨_,Zim (a+b),rfl⟩)
theorem ZgN{a b:Int}(ha:0≤a)(hb:0≤b):(Zad (magI a) (magI b)).Ret (if a<b then -1 else if b<a then 1 else 0):=by
 unfold Zad
 by_cases h1:a=0
 ·rw[h1,mag0]
  by_cases h2:b=0
  ·rw[h2,mag0]
   exact Comp.Ret.ZcL 8 rfl
  ·rw[mag1 h2,if_pos (show 0<b by omega)]
   exact Comp.wp.yes lt01 rfl
 ·by_cases h2:b=0
  ·rw[h2,mag0,mag1 h1,if_neg (show ¬ a<0 by omega),if_pos (show 0<a by omega)]
   exact Comp.wp.no (by decide:¬ (1:Int)<0) (Comp.wp.yes lt01 rfl)
  ·rw[mag1 h1,mag1 h2]
   refine Comp.wp.no nlt11 (Comp.wp.no nlt11 ?_)
   show (Comp.next _ _).wp _
   refine Comp.Zm (Comp.wp.yes le00 ⟨a,⟨le00,rfl⟩,b,⟨le00,rfl⟩,?_⟩)
   by_cases h3:a<b
   ·rw[if_pos h3]
    exact Comp.wp.yes h3 rfl
   ·rw[if_neg h3]
    refine Comp.wp.no h3 ⟨a,⟨le00,rfl⟩,b,⟨le00,rfl⟩,?_⟩
    by_cases h4:b<a
    ·rw[if_pos h4]
     exact Comp.wp.yes h4 rfl
    ·rw[if_neg h4]
     exact Comp.wp.no h4 (Comp.Zm (Comp.wp.no (by decide:¬ (0:Int)≤-1) rfl))
theorem ZjK{a b:Int}(hb:0≤b)(hab:b≤a)(ha:a<4294967296):(Zdu (magI a) (magI b)).Ret (magI (a-b)):=by
 by_cases h1:a=0
 ·obtain rfl:b=0:=by omega
  subst h1
  exact Comp.Ret.ZcL 8 rfl
 ·have w1:IntKind.u64.wrap (IntKind.u64.wrap (IntKind.u64.wrap (4294967296+IntKind.u64.wrap a)-b)-0)=4294967296+(a-b):=by
   rw[Z9 (x:=a) (by omega),Z9 (x:=4294967296+a) (by omega),Z9 (x:=4294967296+a-b) (by omega),Int.sub_zero,Z9 (by omega)]
   omega
  have w2:IntKind.u32.wrap (Int.tmod (4294967296+(a-b)) 4294967296)=a-b:=by
   rw[Int.tmod_eq_emod_of_nonneg (by omega),show (4294967296+(a-b)) % 4294967296=a-b by omega,ZiW (by omega)]
  have w3:IntKind.u64.wrap (1-IntKind.u64.wrap (Int.tdiv (4294967296+(a-b)) 4294967296))=0:=by
   rw[Int.tdiv_eq_ediv_of_nonneg (by omega),show (4294967296+(a-b)) / 4294967296=1 by omega]; rfl
  unfold Zdu ZgB
  rw[mag1 h1]
  refine⟨⟨le01,(by decide:(1:Int)≤1000000)⟩,?_⟩
  refine Comp.Zm (Comp.wp.yes lt01 ⟨a,⟨le00,rfl⟩,_,word0 ⟨hb,by omega⟩,0,⟨le00,rfl⟩,?_⟩)
  show (Comp.loop _ _).wp _
  rw[w1,w2,w3]
  exact Comp.Zm (Comp.wp.no nlt11 ⟨_,ZeH (a-b),rfl⟩)
theorem ZnS{a b:Int}(ha:a.natAbs<2147483648)(hb:b.natAbs<2147483648):(Zho (intI a) (intI b)).Ret (intI (a+b)):=by
 unfold Zho
 rw[Zez,Zez,Zif,Zif]
 by_cases h:decide (a<0)=decide (b<0)
 ·refine Comp.wp.yes h ⟨_,ZmA (by omega) (by omega) (by omega),_,Zb8 _ (by omega) (Zdk _),?_⟩
  show _=_
  congr 1
  have h':=decide_eq_decide.1 h
  by_cases h2:a<0
  ·rw[decide_eq_true h2,if_pos rfl]; have:=h'.1 h2; omega
  ·rw[decide_eq_false h2,if_neg (by decide)]; have:¬ b<0:=fun k=>h2 (h'.2 k); omega
 ·refine Comp.wp.no h ⟨_,ZgN (by omega) (by omega),?_⟩
  have h':¬ (a<0↔b<0):=fun k=>h (decide_eq_decide.2 k)
  by_cases h3:(a.natAbs:Int)<(b.natAbs:Int)
  ·rw[if_pos h3]
   refine Comp.wp.yes (by decide:(-1:Int)<0) ⟨_,ZjK (by omega) (by omega) (by omega),_,Zb8 _ (by omega) (Zdk _),?_⟩
   show _=_
   congr 1
   by_cases h2:b<0
   ·rw[decide_eq_true h2,if_pos rfl]; have:¬ a<0:=fun k=>h' ⟨fun _=>h2,fun _=>k⟩; omega
   ·rw[decide_eq_false h2,if_neg (by decide)]; have:a<0:=by
     by_cases k:a<0
     ·exact k
     ·exact absurd (show (a<0↔b<0) from ⟨fun q=>absurd q k,fun q=>absurd q h2⟩) h'
    omega
  ·have hz:¬ (if (a.natAbs:Int)<(b.natAbs:Int) then (-1:Int) else if (b.natAbs:Int)<(a.natAbs:Int) then 1 else 0)<0:=by
    rw[if_neg h3]; split <;> omega
   refine Comp.wp.no hz ⟨_,ZjK (by omega) (by omega) (by omega),_,Zb8 _ (by omega) (Zdk _),?_⟩
   show _=_
   congr 1
   by_cases h2:a<0
   ·rw[decide_eq_true h2,if_pos rfl]; have:¬ b<0:=fun k=>h' ⟨fun _=>k,fun _=>h2⟩; omega
   ·rw[decide_eq_false h2,if_neg (by decide)]; have:b<0:=by
     by_cases k:b<0
     ·exact k
     ·exact absurd (show (a<0↔b<0) from ⟨fun q=>absurd q h2,fun q=>absurd q k⟩) h'
    omega
theorem tmod_one(a:Int):Int.tmod a 1=0:=by simp
theorem gcd_one{a:Int}(ha:a.natAbs<4294967296):(Zhp (intI a) (intI 1)).Ret (intI 1):=by
 have w:IntKind.u64.wrap (IntKind.u64.wrap (0*4294967296)+(a.natAbs:Int))=(a.natAbs:Int):=by
  rw[Int.zero_mul,Z9 (x:=0) (by omega),Int.zero_add,Z9 (by omega)]
 have hlen:((magI (a.natAbs:Int)).length:Int)≤2:=by
  unfold magI
  split
  ·exact le02
  ·exact (by decide:(1:Int)≤2)
 have hnum:(ZdT (magI (a.natAbs:Int))).Ret (a.natAbs:Int):=⟨_,word1 _,_,word0 ⟨by omega,by omega⟩,w⟩
 have he:(ZfS (a.natAbs:Int) 1).Ret 1:=by
  show (Comp.next _ _).wp _
  refine Comp.Zm (Comp.wp.yes lt01 ⟨by decide,?_⟩)
  show (Comp.loop _ _).wp _
  rw[tmod_one]
  exact Comp.Zm (Comp.wp.no nlt00 rfl)
 have hw:(Zcg 1).Ret [1]:=Comp.Ret.ZcL 8 rfl
 have hc:(ZfR (magI (a.natAbs:Int)) [1]).Ret [1]:=by
  show (Comp.next _ _).wp _
  refine Comp.Zm (Comp.wp.yes lt01 (Comp.wp.yes hlen ?_))
  refine Comp.wp.yes rfl ⟨_,hnum,1,Comp.Ret.ZcL 8 rfl,_,he,_,hw,?_⟩
  rfl
 exact⟨_,hc,_,Zb8 false (x:=1) (by decide) (Zdk 1),rfl⟩
theorem Zjv{a:Int}(ha:a.natAbs<4294967296):(ZeM (intI a) (intI 1)).Ret (intI a):=by
 have hd:(Zdm (magI (a.natAbs:Int)) [1]).Ret (magI (a.natAbs:Int),[]):=by
  have hc:=ZgN (a:=(a.natAbs:Int)) (b:=1) (by omega) (by omega)
  refine⟨_,hc,?_⟩
  by_cases h0:a=0
  ·subst h0
   exact Comp.wp.yes (by decide:(-1:Int)<0) rfl
  ·have h1:¬ ((a.natAbs:Int)<1):=by omega
   rw[if_neg h1]
   refine Comp.wp.no (by split <;> omega) (Comp.wp.yes rfl ⟨1,⟨le00,rfl⟩,(magI (a.natAbs:Int),0),?_,[],?_,rfl⟩)
   ·rw[mag1 (by omega:(a.natAbs:Int)≠0)]
    refine⟨⟨le01,(by decide:(1:Int)≤1000000)⟩,?_⟩
    show (Comp.next _ _).wp _
    refine Comp.Zm (Comp.wp.yes le00 ⟨_,⟨le00,rfl⟩,by decide,0,⟨le00,rfl⟩,by decide,?_⟩)
    have w:IntKind.u64.wrap (IntKind.u64.wrap (0*4294967296)+IntKind.u64.wrap (a.natAbs:Int))=(a.natAbs:Int):=by
     rw[Int.zero_mul,Z9 (x:=0) (by omega),Int.zero_add,Z9 (x:=(a.natAbs:Int)) (by omega),Z9 (by omega)]
    have w2:IntKind.u32.wrap (IntKind.u64.wrap (Int.tdiv (a.natAbs:Int) (IntKind.u64.wrap 1)))=(a.natAbs:Int):=by
     rw[Z9 (x:=1) (by omega),Int.tdiv_one,Z9 (by omega),ZiW (by omega)]
    have w3:Int.tmod (a.natAbs:Int) (IntKind.u64.wrap 1)=0:=tmod_one _
    show (Comp.loop _ _).wp _
    rw[w,w2,w3]
    refine Comp.Zm (Comp.wp.no (by decide:¬ (0:Int)≤-1) ⟨_,ZeH _,?_⟩)
    rw[mag1 (by omega:(a.natAbs:Int)≠0)]
    rfl
   ·exact⟨_,Zim 0,rfl⟩
 refine⟨(intI a,intI 0,0),?_,rfl⟩
 refine Comp.wp.no (by decide) ⟨_,hd,?_⟩
 have hm:(Zas (decide (¬ (intI a).neg=(intI 1).neg)) (magI (a.natAbs:Int))).Ret (intI a):=by
  have:=Zb8 (decide (¬ (intI a).neg=(intI 1).neg)) (x:=(a.natAbs:Int)) (by omega) (Zdk _)
  rw[Zez] at this ⊢
  by_cases h2:a<0
  ·rw[decide_eq_true h2] at this ⊢
   rw[if_pos (by decide),show -(a.natAbs:Int)=a by omega] at this
   exact this
  ·rw[decide_eq_false h2] at this ⊢
   rw[if_neg (by decide),show (a.natAbs:Int)=a by omega] at this
   rw[show (a.natAbs:Int)=a by omega]
   exact this
 have hk:(ZdC (intI a) (intI 1) (magI (a.natAbs:Int)) []).wp fun r=>r=(intI a,intI 0,0):=⟨_,hm,_,Zb8 false (x:=0) (by decide) ZkR,rfl⟩
 rw[Comp.Ze]
 split
 ·exact Comp.wp.no (by decide:¬ decide ((0:Int)<0)=true) hk
 ·exact Comp.wp.no (by decide) hk
theorem ZiJ{a:Int}(ha:a.natAbs<4294967296):(ZdU (intI a) (intI 1)).Ret (ratI a):=by
 refine⟨_,gcd_one ha,1,Comp.Ret.ZcL 5 rfl,Comp.wp.no (by decide) ⟨_,Zjv ha,_,Zjv (a:=1) (by decide),?_⟩⟩
 show _=_
 rw[Zdh]
 rfl
theorem ZiO{a b:Int}(ha:a.natAbs<65536)(hb:b.natAbs<65536):(Zd6 (ratI a) (ratI b)).Ret (ratI (a*b)):=by
 have hab:(a*b).natAbs<4294967296:=by
  rw[Int.natAbs_mul]
  exact Nat.lt_of_lt_of_le (Nat.mul_lt_mul'' ha hb) (by decide)
 rw[Zdh a,Zdh b]
 exact⟨_,ZfD (by omega) (by omega) hab,_,ZfD (a:=1) (b:=1) (by decide) (by decide) (by decide),_,ZiJ hab,rfl⟩
theorem Zmg{a b:Int}(ha:a.natAbs<2147483648)(hb:b.natAbs<2147483648):(Zd5 (ratI a) (ratI b)).Ret (ratI (a+b)):=by
 rw[Zdh a,Zdh b]
 have h1:=ZfD (a:=a) (b:=1) (by omega) (by decide) (by rw[Int.mul_one]; omega)
 have h2:=ZfD (a:=b) (b:=1) (by omega) (by decide) (by rw[Int.mul_one]; omega)
 rw[Int.mul_one] at h1 h2
 exact⟨_,h1,_,h2,_,ZnS ha hb,_,ZfD (a:=1) (b:=1) (by decide) (by decide) (by decide),_,ZiJ (by omega),rfl⟩
theorem Zlk{a:Int}:(Zef (ratI a) (ratI a)).Ret true:=by
 have h:∀ n:Int,(Zeg (intI n) (intI n)).Ret true:=fun n=>by
  unfold Zeg
  refine Comp.wp.no (fun k=>k rfl) (Comp.wp.no (fun k=>k rfl) ?_)
  unfold ZhA
  rw[Zif]
  show (Comp.next _ _).wp _
  unfold magI
  split
  ·exact Comp.Zm (Comp.wp.no nlt00 rfl)
  ·exact Comp.Zm (Comp.wp.yes lt01 ⟨_,⟨le00,rfl⟩,_,⟨le00,rfl⟩,Comp.wp.no (fun k=>k rfl) (Comp.Zm (Comp.wp.no nlt11 rfl))⟩)
 rw[Zdh]
 exact⟨true,h a,true,h 1,rfl⟩
end Go.EL

namespace Go.EL
open Go Go.RowKit
def ptL(X:Nat→Int):List Zf:=(List.range 8).map fun j=>ratI (X j)
theorem ZmT(X:Nat→Int){i:Nat}(h:i<8):(0:Int)≤(i:Int)∧(ptL X)[(i:Int).toNat]? = some (ratI (X i)):=by
 refine⟨by omega,?_⟩
 rw[Int.toNat_natCast]
 unfold ptL
 rw[List.getElem?_map,List.getElem?_range h]
 rfl
theorem Zoh(X:Nat→Int){i:Nat}(v:Int):(ptL X).set i (ratI v)=ptL fun j=>if j=i then v else X j:=by
 refine List.ext_getElem (by simp[ptL]) fun j h1 h2=>?_
 rw[List.getElem_set]
 simp only[ptL,List.getElem_map,List.getElem_range]
 by_cases e:i=j
 ·rw[if_pos e,if_pos e.symm]
 ·rw[if_neg e,if_neg fun k=>e k.symm]
def prodE(X:Nat→Int)(m:M):Nat→Int
 | 0=>1
 | k+1=>prodE X m k*(if h:k<8 then X k ^ (m ⟨k,h⟩).toNat else 1)
def evalT(X:Nat→Int)(t:Zc):Int:=valR t.c*prodE X t.m 8
def sumI:List Int→Int
 | []=>0
 | x::l=>x+sumI l
theorem ZhV:∀ (a b:List Int),sumI (a++b)=sumI a+sumI b
 | [],b=>by simp[sumI]
 | x::a,b=>by simp only[List.cons_append,sumI,ZhV a b]; omega
theorem Zm4{a b:List Int}(h:a.Perm b):sumI a=sumI b:=by
 induction h with
 | nil=>rfl
 | cons x _ ih=>simp only[sumI,ih]
 | swap x y l=>simp only[sumI]; omega
 | trans _ _ h1 h2=>exact h1.trans h2
def evalP(X:Nat→Int)(p:List Zc):Int:=sumI (p.map (evalT X))
def SmallX(X:Nat→Int):Prop:=∀ i,(X i).natAbs≤5
theorem ZkE{x:Int}(h:x.natAbs≤5)(n:Nat):(x ^ n).natAbs≤5 ^ n:=by
 rw[Int.natAbs_pow]
 exact Nat.pow_le_pow_left h n
theorem ZlB{X:Nat→Int}(hX:SmallX X){m:M}(hm:Ok m):∀ k,(prodE X m k).natAbs≤5 ^ (degTo m k).toNat
 | 0=>by simp[prodE,degTo]
 | k+1=>by
  have ih:=ZlB hX hm k
  have hd:=Zf5 hm k
  simp only[prodE,degTo]
  by_cases h:k<8
  ·have hk:=hm ⟨k,h⟩
   rw[dif_pos h,dif_pos h,Int.natAbs_mul,Int.toNat_add hd.1 hk.1,Nat.pow_add]
   exact Nat.mul_le_mul ih (ZkE (hX k) _)
  ·rw[dif_neg h,dif_neg h,Int.mul_one,Int.add_zero]; exact ih
theorem Ziy{m:M}(hm:Ok m):∀ {k j:Nat},k≤j→degTo m k≤degTo m j
 | k,0,h=>by
  obtain rfl:k=0:=(by omega)
  exact Int.le_refl _
 | k,j+1,h=>by
  by_cases e:k=j+1
  ·rw[e]; exact Int.le_refl _
  ·have ih:=Ziy hm (k:=k) (j:=j) (by omega)
   simp only[degTo]
   split
   ·rename_i hj; have:=hm ⟨j,hj⟩; omega
   ·omega
theorem ZiM{X:Nat→Int}(hX:SmallX X){m:M}(hm:Ok m)(hd:degM m≤2){k:Nat}(hk:k≤8):(prodE X m k).natAbs≤25:=by
 have h1:=ZlB hX hm k
 have h2:=Ziy hm hk
 have h3:(degTo m k).toNat≤2:=by unfold degM at hd; omega
 exact Nat.le_trans h1 (Nat.pow_le_pow_right (by decide) h3)
theorem Zmd{m:M}(hm:Ok m)(hd:degM m≤2)(i:Fin 8):0≤m i∧m i≤2:=by
 have:=(Zf6 (fun i=>(hm i).1) 8 (by decide)).2 i i.isLt
 have h2:=hm i
 unfold degM at hd
 omega
theorem ZmR{x:Int}(hx:x.natAbs≤5){n:Int}(hn:0≤n∧n≤2):(ZgF (ratI x) n).Ret (ratI (x ^ n.toNat)):=by
 obtain⟨d,rfl⟩:=Int.eq_ofNat_of_zero_le hn.1
 refine⟨_,Zco (n:=1) (by decide) (by decide),?_⟩
 show (Comp.next _ _).wp _
 refine Comp.Zh d (fun k s=>s=((k:Int),ratI (x ^ k))) (fun k s hk hs=>?_) (fun s hs=>?_) (by rw[Int.pow_zero]; rfl)
 ·subst hs
  have hb:=ZkE hx k
  have h5:5 ^ k≤5 ^ 2:=Nat.pow_le_pow_right (by decide) (by omega)
  refine Comp.wp.yes (by show (k:Int)<(d:Int); omega) ⟨_,ZiO (a:=x ^ k) (b:=x) (by omega) (by omega),?_⟩
  show _=_
  rw[wrapN (by omega),Int.pow_succ]
 ·subst hs
  refine Comp.wp.no (by show ¬ (d:Int)<(d:Int); omega) ?_
  show _=_
  rw[Int.toNat_natCast]
theorem ZkN{p:List Zc}(hp:PolOk p)(hs:SmallP p){X:Nat→Int}(hX:SmallX X):∀ t ∈ p,(evalT X t).natAbs≤225:=fun t ht=>by
 obtain⟨⟨c,e,h1,h2⟩,hd⟩:=hs.2 t ht
 have hb:=ZiM hX (hp.trm t ht).m hd (k:=8) (by omega)
 unfold evalT
 rw[e,ZbO,Int.natAbs_mul]
 exact Nat.le_trans (Nat.mul_le_mul (show c.natAbs≤9 by omega) hb) (by decide)
theorem Zm5:∀ {l:List Int},(∀ x ∈ l,x.natAbs≤225)→(sumI l).natAbs≤225*l.length
 | [],_=>by simp[sumI]
 | x::l,h=>by
  have h1:=h x List.mem_cons_self
  have ih:=Zm5 (fun y hy=>h y (List.mem_cons_of_mem _ hy))
  simp only[sumI,List.length_cons]
  omega
theorem Zj7{p:List Zc}(hp:PolOk p)(hs:SmallP p){X:Nat→Int}(hX:SmallX X):(ZfZ p (ptL X)).Ret (ratI (evalP X p)):=by
 have hl:=hs.1
 have h0:(Z5 0).Ret (ratI 0):=Zco (by decide) (by decide)
 refine⟨_,h0,?_⟩
 show (Comp.next _ _).wp _
 refine Comp.Zh p.length (fun k s=>s=((k:Int),ratI (evalP X (p.take k)))) (fun k s hk hst=>?_) (fun s hst=>?_) (by simp[evalP,sumI])
 ·subst hst
  have ht:=List.getElem_mem hk
  obtain⟨⟨c,e,c1,c2⟩,hd⟩:=hs.2 p[k] ht
  have hm:=(hp.trm p[k] ht).m
  have hin:(ZhC p (ptL X) (k:Int) (0,p[k].c)).Ret (ratI (evalT X p[k])):=by
   refine Comp.Zh 8 (fun j s=>s=((j:Int),ratI (c*prodE X p[k].m j))) (fun j s hj hsj=>?_) (fun s hsj=>?_) (by rw[e]; show _=_; rw[show c*prodE X p[k].m 0=c by simp[prodE]]; rfl)
   ·subst hsj
    have hmj:=Zmd hm hd ⟨j,hj⟩
    have hb:=ZiM hX hm hd (k:=j) (by omega)
    have hpw:=ZkE (hX j) (p[k].m ⟨j,hj⟩).toNat
    have h25:5 ^ (p[k].m ⟨j,hj⟩).toNat≤5 ^ 2:=Nat.pow_le_pow_right (by decide) (by omega)
    have hcb:(c*prodE X p[k].m j).natAbs≤225:=by
     rw[Int.natAbs_mul]
     exact Nat.le_trans (Nat.mul_le_mul (show c.natAbs≤9 by omega) hb) (by decide)
    refine Comp.wp.yes (by show (j:Int)<8; omega) ⟨_,ZmT X hj,p[k],idxN hk,⟨by omega,by omega⟩,_,by rw[getFN hj]; exact ZmR (hX j) hmj,_,ZiO (by omega) (by omega),?_⟩
    show _=_
    rw[wrapN (by omega),Int.mul_assoc]
    simp only[prodE,dif_pos hj]
   ·subst hsj
    refine Comp.wp.no (by show ¬ ((8:Nat):Int)<8; omega) ?_
    show _=_
    unfold evalT
    rw[e,ZbO]
  have hsum:(evalP X (p.take k)).natAbs≤225*100:=by
   have:=Zm5 (l:=(p.take k).map (evalT X)) (fun x hx=>by
    obtain⟨t,h1,rfl⟩:=List.mem_map.1 hx
    exact ZkN hp hs hX t (List.mem_of_mem_take h1))
   rw[List.length_map,List.length_take] at this
   unfold evalP
   omega
  have hte:=ZkN hp hs hX p[k] ht
  refine Comp.wp.yes (by show (k:Int)<(p.length:Int); omega) ⟨p[k],idxN hk,hin.then ⟨_,Zmg (by omega) (by omega),?_⟩⟩
  show _=_
  rw[wrapN (by omega)]
  unfold evalP
  rw[← List.take_append_getElem hk,List.map_append,ZhV]
  simp[sumI]
 ·subst hst
  refine Comp.wp.no (by show ¬ (p.length:Int)<(p.length:Int); omega) ?_
  show _=_
  rw[List.take_length]
theorem ZjF(Y:Nat→Int)(f:M)(x:Int)(q:Nat)(hq:∀ h:q<8,f ⟨q,h⟩=0):∀ k,k≤8→prodE Y (setF f q x) k=prodE Y f k*(if q<k then Y q ^ x.toNat else 1)
 | 0,_=>by simp[prodE]
 | k+1,hk=>by
  have ih:=ZjF Y f x q hq k (by omega)
  have h8:k<8:=by omega
  simp only[prodE,dif_pos h8]
  rw[ih]
  by_cases e:k=q
  ·subst e
   rw[if_neg (by omega),if_pos (by omega)]
   have e1:setF f k x ⟨k,h8⟩=x:=by unfold setF; rw[if_pos rfl]
   rw[e1,hq h8]
   simp
  ·have e1:setF f q x ⟨k,h8⟩=f ⟨k,h8⟩:=by unfold setF; rw[if_neg e]
   rw[e1]
   by_cases h:q<k
   ·rw[if_pos h,if_pos (by omega),Int.mul_assoc,Int.mul_assoc,Int.mul_comm (Y q ^ x.toNat)]
   ·rw[if_neg h,if_neg (by omega),Int.mul_one,Int.mul_one]
theorem ZjG(Y:Nat→Int):∀ k,prodE Y (fun _=>0) k=1
 | 0=>rfl
 | k+1=>by
  simp only[prodE,ZjG Y k]
  split <;> simp
theorem ZmS{π:M}(h:IsPerm π){X Y:Nat→Int}{m:M}(hxy:∀ i:Fin 8,Y (π i).toNat=X i.val∨m i=0):prodE Y (permM π m) 8=prodE X m 8:=by
 have key:∀ k,k≤8→prodE Y (permTo π m k) 8=prodE X m k:=by
  intro k
  induction k with
  | zero=>intro _; exact ZjG Y 8
  | succ k ih=>
   intro hk
   have h8:k<8:=by omega
   have r:=h.rng ⟨k,h8⟩
   have e0:prodE X m (k+1)=prodE X m k*X k ^ (m ⟨k,h8⟩).toNat:=by simp only[prodE,dif_pos h8]
   have e1:permTo π m (k+1)=setF (permTo π m k) (π ⟨k,h8⟩).toNat (m ⟨k,h8⟩):=by simp only[permTo,dif_pos h8]
   rw[e0,e1,ZjF Y _ _ _ (fun hq=>Zfx h m k (by omega) _ (fun i hi e=>by
    have e2:π i=π ⟨k,h8⟩:=by rw[e]; show (((π ⟨k,h8⟩).toNat:Nat):Int)=_; omega
    have:=h.inj _ _ e2
    subst this
    simp at hi)) 8 (by omega),ih (by omega),if_pos (by omega)]
   rcases hxy ⟨k,h8⟩ with e|e
   ·rw[e]
   ·rw[e]; simp
 exact key 8 (by omega)
theorem ZmE{π:M}(h:IsPerm π){p:List Zc}(hp:PolOk p){X Y:Nat→Int}(hxy:∀ t ∈ p,∀ i:Fin 8,Y (π i).toNat=X i.val∨t.m i=0):evalP Y (permP π p)=evalP X p:=by
 unfold evalP
 rw[Zm4 ((ZbU h hp.ord).1.map (evalT Y)),List.map_map]
 congr 1
 refine List.map_congr_left fun t ht=>?_
 show valR t.c*prodE Y (permM π t.m) 8=valR t.c*prodE X t.m 8
 rw[ZmS h (hxy t ht)]
theorem ZiQ{π:M}(h:IsPerm π){p:List Zc}(hp:PolOk p)(hs:SmallP p):SmallP (permP π p):=by
 have hpm:=(ZbU h hp.ord).1
 refine⟨by rw[hpm.length_eq,List.length_map]; exact hs.1,fun t ht=>?_⟩
 obtain⟨y,hy,rfl⟩:=List.mem_map.1 (hpm.mem_iff.1 ht)
 obtain⟨h1,h2⟩:=hs.2 y hy
 exact⟨h1,by show degM (permM π y.m)≤2; rw[Zjs h]; exact h2⟩
end Go.EL

namespace Go.EL
open Go Go.RowKit
def SmallS(s:Zb):Prop:=(∀ q ∈ s.eqs,SmallP q.p)∧∀ q ∈ s.neqs,SmallP q.p
theorem Zbu{π:M}(h:IsPerm π){l:List Za}(hp:∀ q ∈ l,PolOk q.p)(hs:∀ q ∈ l,SmallP q.p):∀ q ∈ movedL π l,SmallP q.p:=fun q hq=>by
 obtain⟨y,hy,rfl⟩:=List.mem_map.1 hq
 exact ZiQ h (hp y hy) (hs y hy)
theorem Ze3{l:List Za}{x:Za}(hs:∀ q ∈ l,SmallP q.p)(hx:SmallP x.p):∀ q ∈ putL l x,SmallP q.p:=fun q hq=>by
 rcases Zca hq with rfl|⟨hq,_⟩
 ·exact hx
 ·exact hs q hq
theorem Zmm{s:Zb}(h:Good s)(hs:SmallS s){e:Zd}(he:SmallP e.p)(hc:checkF s e=0):SmallS (doF s e):=by
 have hv:=h.vars
 rcases kinds0 hc with k|k|k|k|k|k|k|k
 ·obtain⟨h1,h2,h3,_,_⟩:=check1 k hc
  have hπ:=ZaY (a:=s.vars.length) (b:=e.at'.toNat) (by omega) (by omega)
  rw[doF1 k]
  exact⟨Zbu hπ h.eqs.pols hs.1,Zbu hπ h.neqs.pols hs.2⟩
 ·have h1':=of_decide_eq_true (check2 k hc).1
  have hπ:=ZaY (a:=e.at'.toNat) (b:=s.vars.length-1) (by omega) (by omega)
  rw[doF2 k]
  exact⟨Zbu hπ h.eqs.pols hs.1,Zbu hπ h.neqs.pols hs.2⟩
 ·rw[doF3 k]; exact hs
 ·obtain⟨h1,h2⟩:=check4 k hc
  have h1':=of_decide_eq_true h1
  have h2':=of_decide_eq_true h2
  have hπ:=swap_perm (a:=e.at'.toNat) (b:=e.to'.toNat) (by omega) (by omega)
  rw[doF4 k]
  exact⟨Zbu hπ h.eqs.pols hs.1,Zbu hπ h.neqs.pols hs.2⟩
 ·rw[doF5 k]
  unfold addE
  cases e.neq with
  | true=>exact⟨hs.1,Ze3 hs.2 he⟩
  | false=>exact⟨Ze3 hs.1 he,hs.2⟩
 ·rw[doF6 k]
  exact⟨fun q hq=>hs.1 q (Ze0.1 hq).1,fun q hq=>hs.2 q (Ze0.1 hq).1⟩
 ·rw[doF7 k]
  refine⟨fun q hq=>?_,fun q hq=>?_⟩
  ·obtain⟨y,hy,_,e1|e1⟩:=Zd9 hq
   ·rw[e1]; exact hs.1 y hy
   ·rw[e1]; exact he
  ·obtain⟨y,hy,_,e1|e1⟩:=Zd9 hq
   ·rw[e1]; exact hs.2 y hy
   ·rw[e1]; exact he
 ·rw[doF8 k]
  rcases ZiA h (check78 (.inr (.inr k)) hc) with ⟨_,q,hq,_,_,_,e3⟩|⟨_,q,hq,_,_,_,e3⟩
  ·rw[e3]
   exact⟨fun z hz=>hs.1 z (Ze0.1 hz).1,Ze3 hs.2 (hs.1 q hq)⟩
  ·rw[e3]
   exact⟨Ze3 hs.1 (hs.2 q hq),fun z hz=>hs.2 z (Ze0.1 hz).1⟩
theorem ZfP{l:List Zx}(hx:∀ x ∈ l,DescOk x):∀ (d k:Nat) (s:Zb),k+d=min l.length 12→Good s→SmallS s→∃ r,(ZhG l 12 ((k:Int),s)).Ret r∧Good r∧SmallS r
 | 0,k,s,hk,hg,hs=>by
  refine⟨s,Comp.Zm ?_,hg,hs⟩
  show (if (k:Int)<(l.length:Int) then _ else _:Comp _).wp _
  rw[Comp.Ze]
  by_cases c:(k:Int)<(l.length:Int)
  ·rw[if_pos c,Comp.Ze,if_neg (by omega)]; rfl
  ·rw[if_neg c]; rfl
 | d+1,k,s,hk,hg,hs=>by
  have hkl:k<l.length:=by omega
  obtain⟨e,h1,h2⟩:=ZnU hg (hx l[k] (List.getElem_mem hkl))
  by_cases hc:checkF s e=0
  ·obtain⟨r,h3,h4⟩:=ZfP hx d (k+1) (doF s e) (by omega) (hg.edit h2.p hc) (Zmm hg hs h2.small hc)
   refine⟨r,Comp.Zm ?_,h4⟩
   show (if (k:Int)<(l.length:Int) then _ else _:Comp _).wp _
   rw[Comp.Ze,if_pos (by omega),Comp.Ze,if_pos (by omega)]
   refine⟨l[k],idxN hkl,e,h1,_,Zgp hg h2.p,?_⟩
   unfold applyF
   rw[Comp.Ze,if_pos hc,if_pos rfl]
   show (Comp.loop _ _).wp _
   rw[wrapN (by omega)]
   exact h3
  ·obtain⟨r,h3,h4⟩:=ZfP hx d (k+1) s (by omega) hg hs
   refine⟨r,Comp.Zm ?_,h4⟩
   show (if (k:Int)<(l.length:Int) then _ else _:Comp _).wp _
   rw[Comp.Ze,if_pos (by omega),Comp.Ze,if_pos (by omega)]
   refine⟨l[k],idxN hkl,e,h1,_,Zgp hg h2.p,?_⟩
   unfold applyF
   rw[Comp.Ze,if_neg hc,if_neg hc]
   show (Comp.loop _ _).wp _
   rw[wrapN (by omega)]
   exact h3
theorem ZkV{l:List Zx}(hx:∀ x ∈ l,DescOk x):∃ r,(Zh0 l 12).Ret r∧Good r∧SmallS r:=by
 obtain⟨r,h1,h2⟩:=ZfP hx (min l.length 12) 0 oneS (by omega) Zdg ⟨fun q hq=>absurd hq List.not_mem_nil,fun q hq=>absurd hq List.not_mem_nil⟩
 refine⟨r,?_,h2⟩
 show (Comp.next _ _).wp _
 exact h1
def hashTo(v:ByteArray):Nat→Int
 | 0=>0
 | k+1=>hashTo v k*7+Int.tmod (byteAt v (k:Int)) 13
def valI(v:ByteArray):Int:=Int.tmod (hashTo v v.size) 11-5
theorem Zlt(v:ByteArray)(i:Nat):0≤byteAt v (i:Int)∧byteAt v (i:Int)≤255:=by
 have h:=Zic v i
 have h2:=(v.get! i).toNat_lt
 omega
def p7:Nat→Int
 | 0=>1
 | k+1=>7*p7 k
theorem Zky(v:ByteArray):∀ k,0≤hashTo v k∧hashTo v k≤2*p7 k-2
 | 0=>by simp[hashTo,p7]
 | k+1=>by
  have ih:=Zky v k
  have hb:=Zlt v k
  have ht:=ZaE (a:=byteAt v (k:Int)) (b:=13) hb.1 (by omega)
  simp only[hashTo,p7]
  omega
theorem Zjb(v:ByteArray)(k:Nat):0≤hashTo v k∧hashTo v k≤2*p7 k:=by have:=Zky v k; omega
theorem ZoR:∀ {k:Nat},k≤12→p7 k≤13841287201:=by
 have h:∀ k:Fin 13,p7 k.val≤13841287201:=by decide +kernel
 exact fun {k} hk=>h ⟨k,by omega⟩
theorem Znd(v:ByteArray):(valI v).natAbs≤5:=by
 have h:=ZaE (a:=hashTo v v.size) (b:=11) (Zjb v _).1 (by omega)
 unfold valI
 omega
theorem ZjP{v:ByteArray}(hv:v.size≤12):(Zb2 v).Ret (ratI (valI v)):=by
 have hv2:=Znd v
 show (Comp.next _ _).wp _
 refine Comp.Zh v.size (fun k s=>s=(hashTo v k,(k:Int))) (fun k s hk hs=>?_) (fun s hs=>?_) rfl
 ·subst hs
  have hb:=Zjb v k
  have h7:=ZoR (k:=k) (by omega)
  have hby:=Zlt v k
  have ht:=ZaE (a:=byteAt v (k:Int)) (b:=13) hby.1 (by omega)
  refine Comp.wp.yes (by show (k:Int)<(v.size:Int); omega) ⟨⟨by omega,by omega⟩,?_⟩
  show _=_
  rw[wrapN (by omega),wrap64 (x:=byteAt v (k:Int)) (by omega),wrap64 (x:=hashTo v k*7) (by omega),wrap64 (by omega)]
  rfl
 ·subst hs
  refine Comp.wp.no (by show ¬ (v.size:Int)<(v.size:Int); omega) ?_
  have h:=ZaE (a:=hashTo v v.size) (b:=11) (Zjb v _).1 (by omega)
  have hw:IntKind.i64.wrap (Int.tmod (hashTo v v.size) 11-5)=valI v:=wrap64 (by omega)
  refine⟨_,by rw[hw]; exact Zco (by omega) (by omega),rfl⟩
def ptN(s:Zb):Nat→Int:=fun i=>match s.vars[i]? with|some v=>valI v|none=>0
theorem Zbc(s:Zb):SmallX (ptN s):=fun i=>by
 unfold ptN
 split
 ·exact Znd _
 ·decide
theorem Zhh{α:Type}(f:Nat→α)(n k:Nat)(y:α):((List.range n).map f).set k y=(List.range n).map fun j=>if j=k then y else f j:=by
 refine List.ext_getElem (by simp) fun j h1 h2=>?_
 rw[List.getElem_set]
 simp only[List.getElem_map,List.getElem_range]
 by_cases e:k=j
 ·rw[if_pos e,if_pos e.symm]
 ·rw[if_neg e,if_neg fun k=>e k.symm]
def z0:Zf:=Zf.mk (Zg.mk false []) (Zg.mk false [])
def ptTo(s:Zb)(k:Nat):List Zf:=(List.range 8).map fun j=>if j<k then ratI (ptN s j) else z0
theorem ZlC{k:Nat}(h:k<8)(f:Nat→Zf):∃ z,(0:Int)≤(k:Int)∧((List.range 8).map f)[(k:Int).toNat]? = some z:=by
 refine⟨f k,by omega,?_⟩
 rw[Int.toNat_natCast,List.getElem?_map,List.getElem?_range h]
 rfl
theorem ZjE{s:Zb}(h:Good s):(Zdr s).Ret (ptL (ptN s)):=by
 have hv:=h.vars
 have h0:(Z5 0).Ret (ratI 0):=Zco (by decide) (by decide)
 show (Comp.next _ _).wp _
 refine Comp.Zh 8 (fun k st=>st=((k:Int),ptTo s k)) (fun k st hk hs=>?_) (fun st hs=>?_) rfl
 ·subst hs
  obtain⟨z,hz⟩:=ZlC hk (fun j=>if j<k then ratI (ptN s j) else z0)
  have hset:∀ y,ptN s k=y→(List.range 8).map (fun j=>if j=k then ratI y else if j<k then ratI (ptN s j) else z0)=ptTo s (k+1):=fun y hy=>by
   unfold ptTo
   refine List.map_congr_left fun j _=>?_
   by_cases e1:j=k
   ·rw[if_pos e1,if_pos (by omega),e1,hy]
   ·rw[if_neg e1]
    by_cases e2:j<k
    ·rw[if_pos e2,if_pos (by omega)]
    ·rw[if_neg e2,if_neg (by omega)]
  refine Comp.wp.yes (by show (k:Int)<8; omega) ⟨_,h0,z,hz,?_⟩
  rw[Comp.Ze]
  by_cases hk2:k<s.vars.length
  ·rw[if_pos (by omega)]
   have hsz:=ZjB (h.name s.vars[k] (List.getElem_mem hk2))
   refine⟨s.vars[k],idxN hk2,_,ZjP hsz,?_⟩
   have e1:(ptTo s k).set (k:Int).toNat (ratI 0)=(List.range 8).map fun j=>if j=k then ratI 0 else if j<k then ratI (ptN s j) else z0:=by rw[Int.toNat_natCast]; exact Zhh _ _ _ _
   rw[e1]
   obtain⟨z2,hz2⟩:=ZlC hk (fun j=>if j=k then ratI 0 else if j<k then ratI (ptN s j) else z0)
   refine⟨z2,hz2,?_⟩
   show _=_
   rw[wrapN (by omega),Int.toNat_natCast,Zhh]
   have hpt:ptN s k=valI s.vars[k]:=by unfold ptN; rw[List.getElem?_eq_getElem hk2]
   rw[← hset _ hpt]
   congr 1
   refine List.map_congr_left fun j _=>?_
   by_cases e1:j=k
   ·rw[if_pos e1,if_pos e1]
   ·rw[if_neg e1,if_neg e1,if_neg e1]
  ·rw[if_neg (by omega)]
   show _=_
   have e1:(ptTo s k).set (k:Int).toNat (ratI 0)=(List.range 8).map fun j=>if j=k then ratI 0 else if j<k then ratI (ptN s j) else z0:=by rw[Int.toNat_natCast]; exact Zhh _ _ _ _
   have hpt:ptN s k=0:=by unfold ptN; rw[List.getElem?_eq_none (by omega)]
   rw[wrapN (by omega),e1,hset 0 hpt]
 ·subst hs
  refine Comp.wp.no (by show ¬ ((8:Nat):Int)<8; omega) ?_
  show _=_
  unfold ptTo ptL
  refine List.map_congr_left fun j hj=>?_
  rw[if_pos (List.mem_range.1 hj)]
theorem Zg5{l l':List Za}(hl:l.length≤100)(hlen:l'.length=l.length){X Y:Nat→Int}(hX:SmallX X)(hY:SmallX Y)(hp:∀ q ∈ l,PolOk q.p∧SmallP q.p)(hp':∀ q ∈ l',PolOk q.p∧SmallP q.p)
  (h:∀ k (h1:k<l.length) (h2:k<l'.length),l[k].id=l'[k].id∧evalP X l[k].p=evalP Y l'[k].p):(ZaB l l' (ptL X) (ptL Y)).Ret true:=by
 unfold ZaB
 rw[if_neg (by rw[hlen]; exact fun k=>k rfl)]
 refine Comp.Zh l.length (fun k s=>s=(k:Int)) (fun k s hk hs=>?_) (fun s hs=>?_) rfl
 ·subst hs
  have hk2:k<l'.length:=by omega
  obtain⟨e1,e2⟩:=h k hk hk2
  have p1:=hp l[k] (List.getElem_mem hk)
  have p2:=hp' l'[k] (List.getElem_mem hk2)
  refine Comp.wp.yes (by omega) ⟨l[k],idxN hk,l'[k],idxN hk2,Comp.wp.no (fun k=>k e1) ⟨l[k],idxN hk,_,Zj7 p1.1 p1.2 hX,l'[k],idxN hk2,_,Zj7 p2.1 p2.2 hY,true,?_,?_⟩⟩
  ·rw[e2]; exact Zlk
  ·exact Comp.wp.no (by decide) (wrapN (by omega))
 ·subst hs
  exact Comp.wp.no (by omega) rfl
theorem ZhQ{π:M}(h:IsPerm π){l:List Za}(hl:l.length≤100)(hp:∀ q ∈ l,PolOk q.p∧SmallP q.p){X Y:Nat→Int}(hX:SmallX X)(hY:SmallX Y)(hxy:∀ q ∈ l,∀ t ∈ q.p,∀ i:Fin 8,Y (π i).toNat=X i.val∨t.m i=0):(ZaB l (movedL π l) (ptL X) (ptL Y)).Ret true:=by
 refine Zg5 hl (by simp[movedL]) hX hY hp (fun q hq=>?_) (fun k h1 h2=>?_)
 ·obtain⟨y,hy,rfl⟩:=List.mem_map.1 hq
  exact⟨Zih h (hp y hy).1,ZiQ h (hp y hy).1 (hp y hy).2⟩
 ·have e:(movedL π l)[k]=⟨l[k].id,permP π l[k].p⟩:=by simp[movedL]
  rw[e]
  exact⟨rfl,(ZmE h (hp _ (List.getElem_mem h1)).1 (hxy _ (List.getElem_mem h1))).symm⟩
theorem ZkS{n:Nat}{next:Int}{l:List Za}(hl:EqsOk n next l)(hn:n≤8){q:Za}(hq:q ∈ l){t:Zc}(ht:t ∈ q.p){i:Fin 8}(hi:n≤i.val):t.m i=0:=by
 obtain⟨h1,h2⟩:=hl.pol q hq
 have:=((Zgb hn).1 h2).1 t ht i hi
 have h3:=(h1.trm t ht).m i
 omega
def KeepsS(s t:Zb)(X:Nat→Int):Prop:=(ZaB s.eqs t.eqs (ptL X) (ptL (ptN t))).Ret true∧(ZaB s.neqs t.neqs (ptL X) (ptL (ptN t))).Ret true
theorem Zgc{s t:Zb}(h:Good s)(hs:SmallS s){π:M}(hπ:IsPerm π)(he:t.eqs=movedL π s.eqs)(hn:t.neqs=movedL π s.neqs)(hxy:∀ i:Fin 8,i.val<s.vars.length→ptN t (π i).toNat=ptN s i.val∨((∀ q ∈ s.eqs,∀ u ∈ q.p,u.m i=0)∧∀ q ∈ s.neqs,∀ u ∈ q.p,u.m i=0)):KeepsS s t (ptN s):=by
 have hv:=h.vars
 have l1:=h.eqs.len
 have l2:=h.neqs.len
 unfold KeepsS
 rw[he,hn]
 refine⟨ZhQ hπ (by omega) (fun q hq=>⟨(h.eqs.pol q hq).1,hs.1 q hq⟩) (Zbc _) (Zbc _) fun q hq u hu i=>?_,ZhQ hπ (by omega) (fun q hq=>⟨(h.neqs.pol q hq).1,hs.2 q hq⟩) (Zbc _) (Zbc _) fun q hq u hu i=>?_⟩
 ·by_cases hi:i.val<s.vars.length
  ·rcases hxy i hi with k|⟨k,_⟩
   ·exact .inl k
   ·exact .inr (k q hq u hu)
  ·exact .inr (ZkS h.eqs (by omega) hq hu (by omega))
 ·by_cases hi:i.val<s.vars.length
  ·rcases hxy i hi with k|⟨_,k⟩
   ·exact .inl k
   ·exact .inr (k q hq u hu)
  ·exact .inr (ZkS h.neqs (by omega) hq hu (by omega))
theorem Zmf{s t:Zb}{i j:Nat}(h:t.vars[j]? = s.vars[i]?):ptN t j=ptN s i:=by unfold ptN; rw[h]
theorem Zn8{l:List ByteArray}{a i:Nat}(v:ByteArray)(h:i<a)(ha:a≤l.length):(l.take a++[v]++l.drop a)[i]? = l[i]?:=by
 rw[List.append_assoc,List.getElem?_append_left (by simp; omega),List.getElem?_take,if_pos h]
theorem Znx{l:List ByteArray}{a i:Nat}(v:ByteArray)(h:a≤i)(ha:a≤l.length):(l.take a++[v]++l.drop a)[i+1]? = l[i]?:=by
 have hlen:(l.take a++[v]).length=a+1:=by simp; omega
 rw[List.getElem?_append_right (by omega),hlen,List.getElem?_drop]
 congr 1; omega
theorem Zn2{l:List ByteArray}{a i:Nat}(h:i<a)(ha:a<l.length):(l.take a++l.drop (a+1))[i]? = l[i]?:=by
 rw[List.getElem?_append_left (by simp; omega),List.getElem?_take,if_pos h]
theorem Znp{l:List ByteArray}{a i:Nat}(h:a≤i)(ha:a<l.length):(l.take a++l.drop (a+1))[i]? = l[i+1]?:=by
 have hlen:(l.take a).length=a:=by simp; omega
 rw[List.getElem?_append_right (by omega),hlen,List.getElem?_drop]
 congr 1; omega
theorem keeps1{s:Zb}(h:Good s)(hs:SmallS s){e:Zd}(hk:e.kind=1)(hc:checkF s e=0):KeepsS s (doF s e) (ptN s):=by
 obtain⟨h1,h2,h3,_,_⟩:=check1 hk hc
 obtain⟨a,ha⟩:=Int.eq_ofNat_of_zero_le h2
 have ha2:a≤s.vars.length:=by omega
 have hπ:=ZaY (a:=s.vars.length) (b:=a) (by omega) (by omega)
 have et:doF s e=⟨s.vars.take a++[e.name]++s.vars.drop a,movedL (rotF s.vars.length a) s.eqs,movedL (rotF s.vars.length a) s.neqs,s.next⟩:=by rw[doF1 hk]; unfold addV; rw[ha,Int.toNat_natCast]
 rw[et]
 refine Zgc h hs hπ rfl rfl fun i hi=>.inl (Zmf ?_)
 show (s.vars.take a++[e.name]++s.vars.drop a)[(rotF s.vars.length a i).toNat]? = s.vars[i.val]?
 unfold rotF
 rw[if_neg (by omega),if_neg (by omega)]
 by_cases hia:a≤i.val
 ·rw[if_pos ⟨hi,by omega⟩,show ((i.val:Int)+1).toNat=i.val+1 by omega]
  exact Znx _ hia ha2
 ·rw[if_neg (by omega),Int.toNat_natCast]
  exact Zn8 _ (by omega) ha2
theorem keeps2{s:Zb}(h:Good s)(hs:SmallS s){e:Zd}(hk:e.kind=2)(hc:checkF s e=0):KeepsS s (doF s e) (ptN s):=by
 obtain⟨h1,h2⟩:=check2 hk hc
 have hv:=h.vars
 obtain⟨j,hj,hu⟩:=Ze7 h.vars h1
 have h1':=of_decide_eq_true h1
 rw[hu] at h2
 have hj2:j.val<s.vars.length:=by omega
 have hπ:=ZaY (a:=j.val) (b:=s.vars.length-1) (by omega) (by omega)
 have hno:usedL j s.eqs=false∧usedL j s.neqs=false:=by
  unfold usedS at h2
  exact Bool.or_eq_false_iff.1 h2
 have hz:∀ l,EqsOk s.vars.length s.next l→usedL j l=false→∀ q ∈ l,∀ u ∈ q.p,u.m j=0:=fun l hl hul q hq u hu=>by
  have h3:=ZjL hul q hq
  unfold Occurs at h3
  have h4:=List.any_eq_false.1 h3 u hu
  simp only[decide_eq_true_eq] at h4
  have h5:=((hl.pol q hq).1.trm u hu).m j
  omega
 have et:doF s e=⟨s.vars.take j.val++s.vars.drop (j.val+1),movedL (rotF j.val (s.vars.length-1)) s.eqs,movedL (rotF j.val (s.vars.length-1)) s.neqs,s.next⟩:=by rw[doF2 hk]; unfold dropV; rw[hj,Int.toNat_natCast]
 rw[et]
 refine Zgc h hs hπ rfl rfl fun i hi=>?_
 by_cases hij:i=j
 ·subst hij
  exact .inr ⟨hz _ h.eqs hno.1,hz _ h.neqs hno.2⟩
 ·have hne:i.val≠j.val:=fun k=>hij (Fin.ext k)
  refine .inl (Zmf ?_)
  show (s.vars.take j.val++s.vars.drop (j.val+1))[(rotF j.val (s.vars.length-1) i).toNat]? = s.vars[i.val]?
  unfold rotF
  rw[if_neg hne]
  by_cases hia:j.val<i.val
  ·rw[if_pos ⟨hia,by omega⟩,show ((i.val:Int)-1).toNat=i.val-1 by omega,Znp (by omega) hj2]
   congr 1; omega
  ·rw[if_neg (by omega),if_neg (by omega),Int.toNat_natCast]
   exact Zn2 (by omega) hj2
theorem keeps4{s:Zb}(h:Good s)(hs:SmallS s){e:Zd}(hk:e.kind=4)(hc:checkF s e=0):KeepsS s (doF s e) (ptN s):=by
 obtain⟨h1,h2⟩:=check4 hk hc
 have hv:=h.vars
 have h1':=of_decide_eq_true h1
 have h2':=of_decide_eq_true h2
 obtain⟨a,ha⟩:=Int.eq_ofNat_of_zero_le h1'.1
 obtain⟨b,hb⟩:=Int.eq_ofNat_of_zero_le h2'.1
 have ha2:a<s.vars.length:=by omega
 have hb2:b<s.vars.length:=by omega
 have hπ:=swap_perm (a:=a) (b:=b) (by omega) (by omega)
 have et:doF s e=⟨swapL s.vars a b,movedL (swapF a b) s.eqs,movedL (swapF a b) s.neqs,s.next⟩:=by
  rw[doF4 hk]
  unfold swpV
  rw[ha,hb,Int.toNat_natCast,Int.toNat_natCast]
  rfl
 rw[et]
 refine Zgc h hs hπ rfl rfl fun i hi=>.inl (Zmf ?_)
 have key:∀ j:Nat,(hj:j<s.vars.length)→(swapL s.vars a b)[j]? = some (if b=j then s.vars[a] else if a=j then s.vars[b] else s.vars[j]):=fun j hj=>by
  have hj':j<(swapL s.vars a b).length:=by rw[Zcn]; exact hj
  rw[List.getElem?_eq_getElem hj',Ze4 ha2 hb2 hj']
 show (swapL s.vars a b)[(swapF a b i).toNat]? = s.vars[i.val]?
 rw[List.getElem?_eq_getElem hi]
 by_cases e1:i.val=b
 ·have ew:swapF a b i=(a:Int):=by unfold swapF setF; rw[if_pos e1]
  rw[ew,Int.toNat_natCast,key a ha2]
  by_cases e2:b=a
  ·rw[if_pos e2]; simp only[e1,e2]
  ·rw[if_neg e2,if_pos rfl]; simp only[e1]
 ·by_cases e2:i.val=a
  ·have ew:swapF a b i=(b:Int):=by unfold swapF setF; rw[if_neg e1,if_pos e2]
   rw[ew,Int.toNat_natCast,key b hb2,if_pos rfl]; simp only[e2]
  ·have ew:=ZjJ (a:=a) (b:=b) (i:=i) (fun k=>e2 k.symm) (fun k=>e1 k.symm)
   rw[ew,Int.toNat_natCast,key i.val hi,if_neg (fun k=>e1 k.symm),if_neg (fun k=>e2 k.symm)]
theorem keeps3{s:Zb}(h:Good s)(hs:SmallS s){e:Zd}(hk:e.kind=3)(hc:checkF s e=0):KeepsS s (doF s e) fun j=>if j=e.at'.toNat then valI e.name else ptN s j:=by
 obtain⟨h1,_,_⟩:=check3 hk hc
 have h1':=of_decide_eq_true h1
 have l1:=h.eqs.len
 have l2:=h.neqs.len
 have et:doF s e=renV s e:=doF3 hk
 have e1:(fun j=>if j=e.at'.toNat then valI e.name else ptN s j)=ptN (doF s e):=by
  funext j
  rw[et]
  unfold ptN renV
  rw[List.getElem?_set]
  by_cases hj:j=e.at'.toNat
  ·rw[if_pos hj,if_pos hj.symm,if_pos (by omega)]
  ·rw[if_neg hj,if_neg (fun k=>hj k.symm)]
 unfold KeepsS
 rw[e1]
 have e2:(doF s e).eqs=s.eqs:=by rw[et]; rfl
 have e3:(doF s e).neqs=s.neqs:=by rw[et]; rfl
 rw[e2,e3]
 exact⟨Zg5 (by omega) rfl (Zbc _) (Zbc _) (fun q hq=>⟨(h.eqs.pol q hq).1,hs.1 q hq⟩) (fun q hq=>⟨(h.eqs.pol q hq).1,hs.1 q hq⟩) (fun _ _ _=>⟨rfl,rfl⟩),
  Zg5 (by omega) rfl (Zbc _) (Zbc _) (fun q hq=>⟨(h.neqs.pol q hq).1,hs.2 q hq⟩) (fun q hq=>⟨(h.neqs.pol q hq).1,hs.2 q hq⟩) (fun _ _ _=>⟨rfl,rfl⟩)⟩
theorem ZlJ{s t:Zb}{X:Nat→Int}(ht:Good t)(hk:KeepsS s t X){k:Nat}(hk4:k<4):(Zao s (k:Int) (t,0) (ptL (ptN t)) (ptL X)).wp fun o=>o = .inl (((k+1:Nat):Int)):=by
 refine⟨true,ZjV ht,true,hk.1,true,hk.2,Comp.wp.no (by decide) ?_⟩
 show _=_
 rw[wrapN (by omega)]
structure VarEd (e:Zd) (x:ByteArray):Prop where
 kind:e.kind=1∨e.kind=2∨e.kind=4∨e.kind=3
 p:e.p=[]
 name:e.kind=3→e.name=x
theorem Znf{s:Zb}(h:Good s)(hs:SmallS s){e:Zd}{x:ByteArray}(hx:x.size≤12)(he:VarEd e x)(hc:checkF s e=0):
  (e.kind=3→(0≤e.at'∧e.at'<8)∧(Zb2 x).Ret (ratI (valI e.name))∧KeepsS s (doF s e) fun j=>if j=e.at'.toNat then valI e.name else ptN s j)∧(¬ e.kind=3→KeepsS s (doF s e) (ptN s)):=by
 have hv:=h.vars
 refine⟨fun k=>?_,fun k=>?_⟩
 ·have h1':=of_decide_eq_true (check3 k hc).1
  refine⟨by omega,by rw[he.name k]; exact ZjP hx,keeps3 h hs k hc⟩
 ·rcases he.kind with k1|k1|k1|k1
  ·exact keeps1 h hs k1 hc
  ·exact keeps2 h hs k1 hc
  ·exact keeps4 h hs k1 hc
  ·exact absurd k1 k
theorem Zhv{l:List Zx}{a b:Int}(hl:DescsOk l)(ha:0≤a∧a≤255)(hb:0≤b∧b≤255):(ZcT l a b).Ret true:=by
 obtain⟨s,h1,hg,hs⟩:=ZkV hl.ok
 have hv:=hg.vars
 have w1:IntKind.i64.wrap ((s.vars.length:Int)+1)=(s.vars.length:Int)+1:=wrap64 (by omega)
 have t5:=ZaE (a:=b) (b:=5) (by omega) (by omega)
 have hnames:∀ v ∈ ([Zn,ZH,ZA,Zu,ZU]:List ByteArray),v.size≤12:=by decide +kernel
 have hidx:(Int.tmod b 5).toNat<([Zn,ZH,ZA,Zu,ZU]:List ByteArray).length:=by show _<5; omega
 obtain⟨x,hxe⟩:∃ x,x=([Zn,ZH,ZA,Zu,ZU]:List ByteArray)[(Int.tmod b 5).toNat]'hidx:=⟨_,rfl⟩
 have hx:x.size≤12:=by rw[hxe]; exact hnames _ (List.getElem_mem hidx)
 refine⟨true,Zml,?_⟩
 rw[Comp.Ze,if_neg (by decide)]
 refine⟨s,h1,x,⟨t5.1,by rw[hxe]; exact List.getElem?_eq_getElem hidx⟩,by rw[w1]; omega,by rw[w1]; omega,by rw[w1]; omega,by rw[w1]; omega,by rw[w1]; omega,?_⟩
 unfold Zb1
 generalize Int.tmod (IntKind.i64.wrap a) (IntKind.i64.wrap ((s.vars.length:Int)+1))=A
 generalize Int.tmod (IntKind.i64.wrap b) (IntKind.i64.wrap ((s.vars.length:Int)+1))=B
 have hall:∀ e ∈ [Zd.mk 1 x A 0 0 [] false,Zd.mk 2 ByteArray.empty A 0 0 [] false,Zd.mk 4 ByteArray.empty A B 0 [] false,Zd.mk 3 x A 0 0 [] false],VarEd e x:=fun e he=>by
  rcases List.mem_cons.1 he with rfl|he
  ·exact⟨.inl rfl,rfl,fun _=>rfl⟩
  rcases List.mem_cons.1 he with rfl|he
  ·exact⟨.inr (.inl rfl),rfl,fun k=>absurd k (by show ¬ (2:Int)=3; decide)⟩
  rcases List.mem_cons.1 he with rfl|he
  ·exact⟨.inr (.inr (.inl rfl)),rfl,fun k=>absurd k (by show ¬ (4:Int)=3; decide)⟩
  rcases List.mem_cons.1 he with rfl|he
  ·exact⟨.inr (.inr (.inr rfl)),rfl,fun _=>rfl⟩
  ·exact absurd he List.not_mem_nil
 have hlen:[Zd.mk 1 x A 0 0 [] false,Zd.mk 2 ByteArray.empty A 0 0 [] false,Zd.mk 4 ByteArray.empty A B 0 [] false,Zd.mk 3 x A 0 0 [] false].length=4:=rfl
 generalize [Zd.mk 1 x A 0 0 [] false,Zd.mk 2 ByteArray.empty A 0 0 [] false,Zd.mk 4 ByteArray.empty A B 0 [] false,Zd.mk 3 x A 0 0 [] false]=E at hall hlen
 show (Comp.next _ _).wp _
 refine Comp.Zh 4 (fun k st=>st=(k:Int)) (fun k st hk hst=>?_) (fun st hst=>?_) rfl
 ·subst hst
  have hkE:k<E.length:=by omega
  have he:=hall E[k] (List.getElem_mem hkE)
  have hp:PolOk E[k].p:=by rw[he.p]; exact Zdz
  have hko:KindOk E[k]:=by rcases he.kind with q|q|q|q <;> exact⟨by omega,by omega⟩
  refine Comp.wp.yes (by omega) ⟨E[k],idxN hkE,_,Zdt hg hp hko,?_⟩
  unfold applyF
  by_cases hc:checkF s E[k]=0
  ·have ht:=hg.edit hp hc
   obtain⟨q1,q2⟩:=Znf hg hs hx he hc
   rw[if_pos hc]
   refine Comp.wp.no (fun k=>k rfl) ⟨_,ZjE hg,_,ZjE ht,E[k],idxN hkE,?_⟩
   by_cases h3:E[k].kind=3
   ·obtain⟨r1,r2,r3⟩:=q1 h3
    obtain⟨i,hi⟩:=Int.eq_ofNat_of_zero_le r1.1
    refine Comp.wp.yes h3 ⟨E[k],idxN hkE,_,r2,_,by rw[hi]; exact ZmT (ptN s) (by omega),?_⟩
    rw[Zoh]
    exact Comp.mono _ (fun o ho=>by rw[ho]; rfl) (ZlJ ht r3 hk)
   ·exact Comp.wp.no h3 (Comp.mono _ (fun o ho=>by rw[ho]; rfl) (ZlJ ht (q2 h3) hk))
  ·rw[if_neg hc]
   refine Comp.wp.yes hc ?_
   show _=_
   exact wrapN (by omega)
 ·subst hst
  exact Comp.wp.no (by rw[hlen]; decide) rfl
end Go.EL

