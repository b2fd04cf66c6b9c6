/- The law EditDiffs holds for every input: a part of its proof (what the code does, plain models, and what they return). No condition. -/
import Derived.Test.YtenaadodnembpaaGreatXD9f
import Derived.Test.YtenaadodnembpaaGreatXD9d
set_option linter.unusedVariables false
set_option linter.unusedSimpArgs false
namespace Go.Proofs.YtenaadodnembpaaGreat
open Go Go.EL Go.RowKit Go.Proofs
theorem gB'{a1 a1nummagp a1nummagc a1denmagp a1denmagc r}(hr:(Zef a1).Ret r):Ctr Tryz.prog 158 #[.agg ([.bool a1.num.neg,.slice a1nummagp a1.num.mag.length a1nummagc,.bool a1.den.neg,.slice a1denmagp a1.den.mag.length a1denmagc]).toArray] (fun G=>sl (Rp.int .u32) G a1nummagp a1nummagc a1.num.mag∧sl (Rp.int .u32) G a1denmagp a1denmagc a1.den.mag) (fun G v=>v = .bool r):=by
 refine C' (args:=[_]) (N:=27) Tryz.func158 z z z (fun J s R p=>?_)
 obtain⟨d,c⟩:=p
 refine sr<|W' 1 z z z fun D=>sg z z<|nx<|aV' (fun (k:Mem)=>match k with|e=>[(1,.pointer (some ⟨D,0,none⟩))]) (fun (k:Mem)=>match k with|e=>Mem.le s e∧(ZfS a1).Ret r) (fun (k:Mem)=>match k with|e=>St J s e [(1,some ⟨D,.cells ([.bool a1.num.neg,.slice a1nummagp a1.num.mag.length a1nummagc,.bool a1.den.neg,.slice a1denmagp a1.den.mag.length a1denmagc]).toArray 60 (0,0),0⟩)]) ?_ ?_
 ·skip
  refine sr<|yy (cn' z) z<|yy (av' ((v58' a1.num a1nummagp a1nummagc)).toArray 1 bk' z z z (aM' ([]) ((v58' a1.num a1nummagp a1nummagc)) ((v58' a1.den a1denmagp a1denmagc)))) z ?_
  obtain⟨C,n,hr⟩:=hr
  refine F' z z (s' E183 z) (fz' n) z (d) ?_
  cases C
  ·skip
   refine yy (ao' z) z<|mv z z<|sf z z z<|sf z z z<|sf z z z<|sf z z z<|yy (m' z z) z<|mv z z<|sf z z z<|sf z z z<|sf z z z<|sf z z z<|yy (m' z z) z<|nx<|at' z<|sr<|sg z z<|nx<|j' ?_
   replace hr:_=r:=hr
   refine g' ?_
   subst hr
   exact k' z z z
  ·skip
   refine yy (ao' z) z<|mv z z<|gy z z (bW' z) z<|gy z z (av' ((v58' a1.den a1denmagp a1denmagc)).toArray 1 bk' z z z (aM' ((v58' a1.num a1nummagp a1nummagc)) ((v58' a1.den a1denmagp a1denmagc)) ([]))) z ?_
   obtain⟨F,o,hr⟩:=hr
   refine F' (H' z z) z (s' E183 z) (fz' o) z (c) ?_
   cases F
   ·skip
    refine gy z z (ao' z) z<|yy (l' z z) z<|mv z z<|sf z z z<|sf z z z<|sf z z z<|sf z z z<|yy (m' z z) z<|nx<|at' z<|sr<|sg z z<|nx<|j' ?_
    replace hr:_=r:=hr
    refine g' ?_
    subst hr
    exact k' z z z
   ·skip
    refine gy z z (ao' z) z<|yy (l' z z) z<|mv z z<|gy z z (bW' z) z<|gy z z (av' ((v58' a1.den a1denmagp a1denmagc)).toArray 1 bk' z z z (aM' ((v58' a1.num a1nummagp a1nummagc)) ((v58' a1.den a1denmagp a1denmagc)) ([]))) z ?_
    obtain⟨M,m,hr⟩:=hr
    refine F' (H' z z) z (s' E138 z) (eN' m) z (c)<|gy z z (V' z z) z<|yy (l' z z) z<|nx<|I' hr z (fun E hr=>?_) (fun E hr=>?_)
    ·exact (show False from hr).elim
    ·refine o'<|ap' s ⟨mr,hr⟩ (fc z fn) (wk (lc z ln))
 ·rintro e ⟨f,hr⟩
  refine sr<|yy (cn' z) z<|yy (av' ((v58' a1.num a1nummagp a1nummagc)).toArray 1 bk' z z z (aM' ([]) ((v58' a1.num a1nummagp a1nummagc)) ((v58' a1.den a1denmagp a1denmagc)))) z<|yy (bW' z) z<|yy (av' ((v58' a1.den a1denmagp a1denmagc)).toArray 1 bk' z z z (aM' ((v58' a1.num a1nummagp a1nummagc)) ((v58' a1.den a1denmagp a1denmagc)) ([]))) z ?_
  obtain⟨L,u,hr⟩:=hr
  refine M' z z (s' E162 z) (gb' u) z (⟨(d.mono f),(c.mono f)⟩) (fun K O H i=>?_)
  obtain⟨A,B,rfl,g⟩:=i
  obtain⟨Q,t,hr⟩:=hr
  refine M' z z (s' E82 z) (fC' t) z (trivial) (fun I P l h=>?_)
  obtain⟨y,x,rfl,j⟩:=h
  obtain⟨S,q,hr⟩:=hr
  refine F' z z (s' E184 z) (gT' q) z (⟨(g.mono l),j⟩)<|yy (ak' z z) z<|sg z z<|nx<|j' ?_
  obtain rfl:_=r:=hr
  exact k' z z z
theorem fA'{p1 p1p p1c r}(hr:(ZfW p1).Ret r):Ctr Tryz.prog 125 #[.slice p1p p1.length p1c] (fun G=>sl r' G p1p p1c p1) (fun G v=>v = .bool r):=by
 refine C' (args:=[_]) (N:=52) Tryz.func125 z z z (fun K q ag L=>?_)
 have e:=L
 refine sr<|sg z z<|nx<|h'<|sr<|sg z z<|nx<|aa' (fun (h:Mem)=>match h with|l=>[]) (fun (h:Mem)=>match h with|l=>Mem.le q l∧(ZdT).Ret r) (fun (h:Mem)=>match h with|l=>St K q l []) ?_ ?_
 ·refine B' ?_
  let p:(Bool⊕Unit)→Prop:=fun oo=>((fun ov=>match ov with | .inl rv1=>Comp.ret rv1 | .inr ()=>ZdT:(Bool⊕Unit)→Comp Bool) oo).wp (fun a=>a=r)
  replace hr:(Comp.loop _ _).wp p:=hr
  refine ab' (Φ:=p) (fun (⟨j,g⟩:Int×Mem)=>(j:Int)) (fun ⟨j,g⟩=>[(0,.slice p1p p1.length p1c),(3,i' j)]) (fun ⟨j,g⟩=>Mem.le q g) (fun ⟨j,g⟩=>St K q g []) ⟨0,q⟩ hr (fc z (fc z fn)) mr (wk ln) ?_
  ·intro X h hx hr
   obtain⟨j,g⟩:=h
   have c:=hx
   refine h'<|sr<|mv z z<|mv z z<|yy (L' R' (e.mono c) z) z<|yy (V' z z) z<|nx<|I' hr z (fun V hr=>?_) (fun V hr=>?_)
   ·refine o'<|e'<|h'<|B'<|aV' (fun (h:Mem)=>match h with|i=>[(0,.slice p1p p1.length p1c),(3,i' j)]) (fun (h:Mem)=>match h with|i=>Mem.le g i∧(Zcj p1 j).wp (Out X p)) (fun (h:Mem)=>match h with|i=>St K q i []) ?_ ?_
    ·skip
     refine sr<|mv z z<|mv z z ?_
     obtain⟨x3,B,hr⟩:=hr
     refine yy (Q' R' bD' (e.mono c) z z B) z<|yy (ce' z) z ?_
     obtain⟨F,t,I,D,T,k,n⟩:=dz' (E' (be' (aF' (Z' e B))) c)
     refine yy (aw' _ ci' z z T) z ?_
     obtain⟨U,O,hr⟩:=hr
     refine F' z z (s' E158 z) (gB' O) z (⟨k,n⟩) ?_
     cases U
     ·skip
      refine yy (ao' z) z<|mv z z<|sf z z z<|sf z z z<|sf z z z<|sf z z z<|sf z z z<|sf z z z<|sf z z z<|yy (m' z z) z<|mv z z<|sf z z z<|sf z z z<|sf z z z<|sf z z z<|sf z z z<|sf z z z<|sf z z z<|yy (m' z z) z<|nx<|at' z<|sr<|sg z z<|nx<|j' ?_
      replace hr:_=r:=hr
      refine g'<|x'<|g'<|g'<|x'<|aI'<|g' ?_
      subst hr
      exact k' z z z
     ·skip
      refine yy (ao' z) z<|mv z z<|gy z z (f' z) z<|gy z z (f' z) z ?_
      obtain⟨x4,s,hr⟩:=hr
      refine gy z z (Q' R' bD' (e.mono c) z z s) z<|gy z z (ce' z) z ?_
      obtain⟨u,y,A,E,Z,m,o⟩:=dz' (E' (be' (aF' (Z' e s))) c)
      refine gy z z (aw' _ ci' z z Z) z ?_
      obtain⟨ah,M,hr⟩:=hr
      refine F' (H' z z) z (s' E91 z) (ex' M) z (⟨m,o⟩)<|aj' hr (H' z z) (ak' z z) z (fun W hr=>?_) (fun W hr=>?_)
      ·refine yy (l' z z) z<|mv z z<|sf z z z<|sf z z z<|sf z z z<|sf z z z<|sf z z z<|sf z z z<|sf z z z<|yy (m' z z) z<|nx<|at' z<|sr<|sg z z<|nx<|j' ?_
       replace hr:_=r:=hr
       refine g'<|x'<|g'<|g'<|x'<|aI'<|g' ?_
       subst hr
       exact k' z z z
      ·refine yy (l' z z) z<|mv z z<|gy z z (f' z) z<|gy z z (f' z) z ?_
       obtain⟨x5,x,hr⟩:=hr
       refine gy z z (Q' R' bD' (e.mono c) z z x) z<|gy z z (bm' z) z<|gy z z (aw' _ bS' z (O' _ _ _) (cW' (E' (aK' (aF' (Z' e x))) c))) z ?_
       obtain⟨af,J,hr⟩:=hr
       refine F' (H' z z) z (s' E159 z) (fs' J) z (trivial)<|gy z z (ao' z) z<|yy (l' z z) z<|nx<|aN' hr z (fun Q hr=>?_) (fun Q hr=>?_)
       ·exact (show False from hr).elim
       ·refine o'<|ap' g ⟨mr,hr⟩ (fc z (fc z fn)) (wk ln)
    ·rintro i ⟨f,hr⟩
     refine h'<|Y' [false,false,false,false,false,false,false,false,false,false,false,false,false,false] mix (by kernel_rfl) fun S=>cn (fun _ d=>f' z)<|bY' hr z (fun _ d=>br' z z) (fun Y hr=>?_) (fun Y hr=>?_)
     ·refine cn (fun _ d=>f' z)<|cy z z (fun _ d=>f' z)<|cy z z (fun _ d=>f' z)<|cy z z (fun _ d=>bd' z z) ?_
      obtain⟨x1,H,hr⟩:=hr
      refine cy z z (fun _ d=>Q' R' bD' ((e.mono (mt c f)).mono d) z z H)<|cy z z (fun _ d=>bm' z)<|cy z z (fun _ d=>aw' _ bS' z (O' _ _ _) (cW' (E' (E' (aK' (aF' (Z' e H))) (mt c f)) d)))<|cy z z (fun _ d=>f' z)<|cy z z (fun _ d=>f' z) ?_
      obtain⟨x2,C,hr⟩:=hr
      refine cy z z (fun _ d=>Q' R' bD' ((e.mono (mt c f)).mono d) z z C)<|cy z z (fun _ d=>bm' z)<|cy z z (fun _ d=>aw' _ bS' z (O' _ _ _) (cW' (E' (E' (aK' (aF' (Z' e C))) (mt c f)) d)))<|X' S ?_
      obtain⟨ae,P,hr⟩:=hr
      refine F' (H' z z) z (s' E90 z) (fb' P) z (trivial)<|gy z z (bz' z z) z<|yy (m' z z) z<|u'<|am'<|e'<|I' hr z (fun R hr=>?_) (fun R hr=>?_)
      ·exact (show False from hr).elim
      ·refine o'<|D'<|e'<|w'<|mv z z<|yy (N' z z) z<|sg z z<|u'<|P' ⟨IntKind.i64.wrap (j+1),i⟩ hr (mt c f) (fc z (fc z fn)) (wk ln)
     ·refine cn (fun _ d=>f' z)<|ct z z<|ct z z<|ct z z<|ct z z<|ct z z<|ct z z<|ct z z<|ct z z<|ct z z<|ct z z<|ct z z<|X' S<|sk z z z<|sk z z z<|yy (l' z z) z<|u'<|am'<|e'<|bg' z<|o'<|D'<|e'<|w'<|mv z z<|yy (N' z z) z<|sg z z<|u'<|P' ⟨IntKind.i64.wrap (j+1),i⟩ hr (mt c f) (fc z (fc z fn)) (wk ln)
   ·refine ad'<|n'<|n'<|J'<|ae' g ⟨c,hr⟩ fn (wk ln)
 ·rintro l ⟨aa,hr⟩
  refine e'<|sr<|sg z z<|nx<|j' ?_
  obtain rfl:_=r:=hr
  exact k' z z z
theorem gu'{m1 r}(hr:(Zfc m1).Ret r):Ctr Tryz.prog 160 #[.agg (vecG (Value.int .i64) 8 m1).toArray] (fun G=>True) (fun G v=>v=i' r):=by
 refine C' (args:=[_]) (N:=15) Tryz.func160 z z z fun m j x t=>sr<|W' 1 z z z fun l=>sg z z<|nr<|sg z z<|nx<|h'<|sr<|sg z z<|nx<|aa' (fun (⟨g,d⟩:Int×Mem)=>[(3,i' g)]) (fun ⟨g,d⟩=>Mem.le j d∧(Zdm g).Ret r) (fun ⟨g,d⟩=>St m j d []) ?_ ?_
 ·refine B' ?_
  let i:Int→Prop:=fun q=>((fun u=>match u with|g=>Zdm g:Int→Comp Int) q).wp (fun a=>a=r)
  replace hr:(Comp.loop _ _).wp i:=hr
  refine ab' (Φ:=i) (fun (⟨f,e,c⟩:Int×Int×Mem)=>((f,e):Int×Int)) (fun ⟨f,e,c⟩=>[(1,.pointer (some ⟨l,0,none⟩)),(3,i' f),(4,i' e)]) (fun ⟨f,e,c⟩=>Mem.le j c) (fun ⟨f,e,c⟩=>St m j c [(1,some ⟨l,.cells (vecG (Value.int .i64) 8 m1).toArray 99 (0,0),0⟩)]) ⟨0,0,j⟩ hr (fc z (fc z (fc z fn))) mr (wk (lc z ln)) ?_
  ·intro y p s hr
   obtain⟨f,e,c⟩:=p
   have h:=s
   refine h'<|sr<|mv z z<|yy (V' z z) z<|nx<|I' hr z (fun n hr=>?_) (fun n hr=>?_)
   ·refine o'<|e'<|h'<|B'<|w'<|mv z z<|mv z z ?_
    obtain⟨k,hr⟩:=hr
    refine yy (aW' aG' sz3 z z k) z<|yy (b' 1 sc3 z z (by' _ _ _ k)) z<|yy (N' z z) z<|sg z z<|u'<|D'<|e'<|w'<|mv z z<|yy (N' z z) z<|sg z z<|u'<|P' ⟨IntKind.i64.wrap (f+(getF m1 e)),IntKind.i64.wrap (e+1),c⟩ hr h (fc z (fc z (fc z fn))) (wk (lc z ln))
   ·refine ad'<|n'<|n'<|J'<|ae' ⟨f,c⟩ ⟨h,hr⟩ (fc z fn) (wk ln)
 ·rintro⟨g,d⟩ ⟨o,hr⟩
  refine e'<|sr<|mv z z<|sg z z<|nx<|j' ?_
  obtain rfl:_=r:=hr
  exact k' z z z
theorem fj'{p1 p1p p1c r}(hr:(Zfg p1).Ret r):Ctr Tryz.prog 126 #[.slice p1p p1.length p1c] (fun G=>sl r' G p1p p1c p1) (fun G v=>v=i' r):=by
 refine C' (args:=[_]) (N:=20) Tryz.func126 z z z (fun p j A n=>?_)
 have k:=n
 refine sr<|sg z z<|nr<|sg z z<|nx<|h'<|sr<|sg z z<|nx<|aa' (fun (⟨g,f⟩:Int×Mem)=>[(3,i' g)]) (fun ⟨g,f⟩=>Mem.le j f∧(Zdn g).Ret r) (fun ⟨g,f⟩=>St p j f []) ?_ ?_
 ·refine B' ?_
  let i:Int→Prop:=fun u=>((fun y=>match y with|g=>Zdn g:Int→Comp Int) u).wp (fun a=>a=r)
  replace hr:(Comp.loop _ _).wp i:=hr
  refine ab' (Φ:=i) (fun (⟨e,h,d⟩:Int×Int×Mem)=>((e,h):Int×Int)) (fun ⟨e,h,d⟩=>[(0,.slice p1p p1.length p1c),(3,i' e),(4,i' h)]) (fun ⟨e,h,d⟩=>Mem.le j d) (fun ⟨e,h,d⟩=>St p j d []) ⟨(-1),0,j⟩ hr (fc z (fc z (fc z fn))) mr (wk ln) ?_
  ·intro B t x hr
   obtain⟨e,h,d⟩:=t
   have c:=x
   refine h'<|sr<|mv z z<|mv z z<|yy (L' R' (k.mono c) z) z<|yy (V' z z) z<|nx<|I' hr z (fun q hr=>?_) (fun q hr=>?_)
   ·refine o'<|e'<|h'<|B'<|w'<|mv z z<|mv z z<|mv z z ?_
    obtain⟨C,m,hr⟩:=hr
    refine yy (Q' R' bD' (k.mono c) z z m) z<|yy (bm' z) z<|yy (aw' _ bS' z (O' _ _ _) (cW' (E' (aK' (aF' (Z' k m))) c))) z ?_
    obtain⟨l,o,hr⟩:=hr
    refine F' z z (s' E160 z) (gu' o) z (trivial)<|yy (Y0.max2 z z) z<|sg z z<|u'<|D'<|e'<|w'<|mv z z<|yy (N' z z) z<|sg z z<|u'<|P' ⟨if e<l then l else e,IntKind.i64.wrap (h+1),d⟩ hr c (fc z (fc z (fc z fn))) (wk ln)
   ·refine ad'<|n'<|n'<|J'<|ae' ⟨e,d⟩ ⟨c,hr⟩ (fc z fn) (wk ln)
 ·rintro⟨g,f⟩ ⟨s,hr⟩
  refine e'<|sr<|mv z z<|sg z z<|nx<|j' ?_
  obtain rfl:_=r:=hr
  exact k' z z z
theorem fR'{p1 n1 p1p p1c r}(hr:(Zfm p1 n1).Ret r):Ctr Tryz.prog 123 #[.slice p1p p1.length p1c,i' n1] (fun G=>sl r' G p1p p1c p1) (fun G v=>v = .bool r):=by
 refine C' (args:=[_,_]) (N:=20) Tryz.func123 z z z (fun n o m d=>?_)
 have c:=d
 refine sr<|sg z z<|nr<|mv z z ?_
 obtain⟨h,g,hr⟩:=hr
 refine F' z z (s' E125 z) (fA' g) z (c) ?_
 cases h
 ·skip
  refine mv z z<|sk z z z<|sk z z z<|sk z z z<|sk z z z<|sk z z z<|sk z z z<|yy (l' z z) z<|mv z z<|sk z z z<|sk z z z<|sk z z z<|yy (l' z z) z<|sg z z<|nx<|j' ?_
  obtain rfl:_=r:=hr
  exact k' z z z
 ·skip
  refine mv z z<|gy z z (f' z) z ?_
  obtain⟨l,f,hr⟩:=hr
  refine F' (H' z z) z (s' E121 z) (ez' f) z (c)<|gy z z (aH' bi' az' z) z<|gy z z (f' z) z ?_
  obtain⟨j,hr⟩:=hr
  refine gy z z (Y0.shr z z j) z<|aj' hr (H' z z) (ak' z z) z (fun i hr=>?_) (fun i hr=>?_)
  ·refine yy (m' z z) z<|mv z z<|gy z z (f' z) z ?_
   obtain⟨k,e,hr⟩:=hr
   refine F' (H' z z) z (s' E126 z) (fj' e) z (c)<|gy z z (bz' z z) z<|yy (m' z z) z<|sg z z<|nx<|j' ?_
   obtain rfl:_=r:=hr
   exact k' z z z
  ·refine yy (m' z z) z<|mv z z<|sk z z z<|sk z z z<|sk z z z<|yy (l' z z) z<|sg z z<|nx<|j' ?_
   obtain rfl:_=r:=hr
   exact k' z z z
theorem ga'{s1 ev1 s1varsp s1varsc s1eqsp s1eqsc s1neqsp s1neqsc ev1pp ev1pc r}(hr:(Zcn s1 ev1).Ret r):Ctr Tryz.prog 75 #[.agg ((v33' s1 s1varsp s1varsc s1eqsp s1eqsc s1neqsp s1neqsc)).toArray,.agg ([i' ev1.kind,.string ev1.name,i' ev1.at',i' ev1.to',i' ev1.id,.slice ev1pp ev1.p.length ev1pc,.bool ev1.neq]).toArray] (fun G=>sl Rp.str G s1varsp s1varsc s1.vars∧sl a' G s1eqsp s1eqsc s1.eqs∧sl a' G s1neqsp s1neqsc s1.neqs∧sl r' G ev1pp ev1pc ev1.p) (fun G v=>v=i' r):=by
 refine C' (args:=[_,_]) (N:=60) Tryz.func75 z z z (fun F k T q=>?_)
 obtain⟨g,h,e,n⟩:=q
 refine sr<|W' 2 z z z fun l=>W' 3 z z z fun m=>sg z z<|nx<|aV' (fun (f:Mem)=>match f with|c=>[(2,.pointer (some ⟨l,0,none⟩)),(3,.pointer (some ⟨m,0,none⟩))]) (fun (f:Mem)=>match f with|c=>Mem.le k c∧(ZaK s1 ev1).Ret r) (fun (f:Mem)=>match f with|c=>St F k c [(2,some ⟨l,.cells ((v33' s1 s1varsp s1varsc s1eqsp s1eqsc s1neqsp s1neqsc)).toArray 33 (0,0),0⟩),(3,some ⟨m,.cells ([i' ev1.kind,.string ev1.name,i' ev1.at',i' ev1.to',i' ev1.id,.slice ev1pp ev1.p.length ev1pc,.bool ev1.neq]).toArray 40 (0,0),0⟩)]) ?_ ?_
 ·skip
  refine sr<|yy (aJ' z) z<|yy (b' 3 sc3 z z z) z<|aj' hr z (V' z z) z (fun p hr=>?_) (fun p hr=>?_)
  ·refine mv z z<|sf z z z<|sf z z z<|sf z z z<|yy (m' z z) z<|mv z z<|sf z z z<|sf z z z<|sf z z z<|sf z z z<|aB' (af' z z) z<|aB' (af' z z) z<|aB' (af' z z) z<|aB' (af' z z) z<|sf z z z<|yy (m' z z) z<|nx<|at' z<|sr<|sg z z<|nx<|j' ?_
   replace hr:_=r:=hr
   refine g' ?_
   subst hr
   exact k' z z z
  ·refine mv z z<|gy z z (aJ' z) z<|gy z z (b' 3 sc3 z z z) z<|aj' hr (H' z z) (br' z z) z (fun o hr=>?_) (fun o hr=>?_)
   ·refine yy (l' z z) z<|mv z z<|sf z z z<|sf z z z<|sf z z z<|sf z z z<|aB' (af' z z) z<|aB' (af' z z) z<|aB' (af' z z) z<|aB' (af' z z) z<|sf z z z<|yy (m' z z) z<|nx<|at' z<|sr<|sg z z<|nx<|j' ?_
    replace hr:_=r:=hr
    refine g' ?_
    subst hr
    exact k' z z z
   ·refine yy (l' z z) z<|mv z z<|gy z z (aJ' z) z<|gy z z (b' 3 sc3 z z z) z<|aj' hr (H' z z) (br' z z) z (fun t hr=>?_) (fun t hr=>?_)
    ·refine gy z z (f' z) z<|gy z z (t' 2 ai' z z z) z<|gy z z (aJ' z) z<|gy z z (b' 3 sc3 z z z) z ?_
     obtain⟨S,u,hr⟩:=hr
     refine F' (H' z z) z (s' E122 z) (gd' u) z (⟨g,h,e⟩)<|gy z z (m' z z) z<|yy (l' z z) z<|nx<|aN' hr z (fun E hr=>?_) (fun E hr=>?_)
     ·refine sr<|sg z z<|nx<|j' ?_
      replace hr:_=r:=hr
      refine g' ?_
      subst hr
      exact k' z z z
     ·refine o'<|ap' k ⟨mr,hr⟩ (fc z (fc z fn)) (wk (lc z (lc z ln)))
    ·refine gy z z (f' z) z<|sk z z z<|sk z z z<|sk z z z<|sk z z z<|gy z z (l' z z) z<|yy (l' z z) z<|nx<|bg' z<|o'<|ap' k ⟨mr,hr⟩ (fc z (fc z fn)) (wk (lc z (lc z ln)))
 ·rintro c ⟨d,hr⟩
  refine aV' (fun (f:Mem)=>match f with|i=>[(2,.pointer (some ⟨l,0,none⟩)),(3,.pointer (some ⟨m,0,none⟩))]) (fun (f:Mem)=>match f with|i=>Mem.le c i∧(ZF s1 ev1).Ret r) (fun (f:Mem)=>match f with|i=>St F k i [(2,some ⟨l,.cells ((v33' s1 s1varsp s1varsc s1eqsp s1eqsc s1neqsp s1neqsc)).toArray 33 (0,0),0⟩),(3,some ⟨m,.cells ([i' ev1.kind,.string ev1.name,i' ev1.at',i' ev1.to',i' ev1.id,.slice ev1pp ev1.p.length ev1pc,.bool ev1.neq]).toArray 40 (0,0),0⟩)]) ?_ ?_
  ·skip
   refine sr<|yy (cY' z) z<|aj' hr z (cI' (b' 3 sc4 z z z) (congrArg Value.bool (bdec _))) z (fun P hr=>?_) (fun P hr=>?_)
   ·refine yy (ao' z) z<|mv z z<|sk z z z<|sk z z z<|sk z z z<|sk z z z<|yy (l' z z) z<|mv z z<|gy z z (cY' z) z<|aj' hr (H' z z) (cI' (b' 3 sc4 z z z) (congrArg Value.bool (bdec _))) z (fun K hr=>?_) (fun K hr=>?_)
    ·refine gy z z (f' z) z<|gy z z (aL' z) z<|gy z z (b' 2 aS' z z z) z<|gy z z (L' q' (e.mono d) z) z<|aj' hr (H' z z) (bc' z z) z (fun O hr=>?_) (fun O hr=>?_)
     ·refine gy z z (m' z z) z<|yy (l' z z) z<|mv z z<|sf z z z<|sf z z z<|sf z z z<|sf z z z<|aB' (af' z z) z<|aB' (af' z z) z<|aB' (af' z z) z<|sf z z z<|yy (m' z z) z<|nx<|at' z<|sr<|sg z z<|nx<|j' ?_
      replace hr:_=r:=hr
      refine g' ?_
      subst hr
      exact k' z z z
     ·refine gy z z (m' z z) z<|yy (l' z z) z<|mv z z<|gy z z (aJ' z) z<|gy z z (b' 3 sc3 z z z) z<|aj' hr (H' z z) (ak' z z) z (fun J hr=>?_) (fun J hr=>?_)
      ·refine gy z z (f' z) z<|gy z z (bf' z) z<|gy z z (b' 2 sc3 z z z) z<|gy z z (bc' z z) z<|gy z z (m' z z) z<|yy (l' z z) z<|nx<|I' hr z (fun C hr=>?_) (fun C hr=>?_)
       ·refine sr<|sg z z<|nx<|j' ?_
        replace hr:_=r:=hr
        refine g' ?_
        subst hr
        exact k' z z z
       ·refine o'<|ap' c ⟨mr,hr⟩ (fc z (fc z fn)) (wk (lc z (lc z ln)))
      ·refine gy z z (f' z) z<|sk z z z<|sk z z z<|sk z z z<|gy z z (l' z z) z<|yy (l' z z) z<|nx<|bg' z<|o'<|ap' c ⟨mr,hr⟩ (fc z (fc z fn)) (wk (lc z (lc z ln)))
    ·refine gy z z (f' z) z<|sk z z z<|sk z z z<|sk z z z<|sk z z z<|gy z z (l' z z) z<|yy (l' z z) z<|mv z z<|gy z z (aJ' z) z<|gy z z (b' 3 sc3 z z z) z<|aj' hr (H' z z) (ak' z z) z (fun D hr=>?_) (fun D hr=>?_)
     ·refine gy z z (f' z) z<|gy z z (bf' z) z<|gy z z (b' 2 sc3 z z z) z<|gy z z (bc' z z) z<|gy z z (m' z z) z<|yy (l' z z) z<|nx<|I' hr z (fun A hr=>?_) (fun A hr=>?_)
      ·refine sr<|sg z z<|nx<|j' ?_
       replace hr:_=r:=hr
       refine g' ?_
       subst hr
       exact k' z z z
      ·refine o'<|ap' c ⟨mr,hr⟩ (fc z (fc z fn)) (wk (lc z (lc z ln)))
     ·refine gy z z (f' z) z<|sk z z z<|sk z z z<|sk z z z<|gy z z (l' z z) z<|yy (l' z z) z<|nx<|bg' z<|o'<|ap' c ⟨mr,hr⟩ (fc z (fc z fn)) (wk (lc z (lc z ln)))
   ·refine yy (ao' z) z<|mv z z<|gy z z (ax' z) z<|gy z z (b' 2 aS' z z z) z<|gy z z (L' q' (h.mono d) z) z<|aj' hr (H' z z) (bc' z z) z (fun B hr=>?_) (fun B hr=>?_)
    ·refine yy (m' z z) z<|mv z z<|sf z z z<|sf z z z<|sf z z z<|aB' (af' z z) z<|aB' (af' z z) z<|aB' (af' z z) z<|aB' (af' z z) z<|sf z z z<|yy (m' z z) z<|mv z z<|sf z z z<|sf z z z<|sf z z z<|sf z z z<|aB' (af' z z) z<|aB' (af' z z) z<|aB' (af' z z) z<|sf z z z<|yy (m' z z) z<|nx<|at' z<|sr<|sg z z<|nx<|j' ?_
     replace hr:_=r:=hr
     refine g' ?_
     subst hr
     exact k' z z z
    ·refine yy (m' z z) z<|mv z z<|gy z z (cY' z) z<|aj' hr (H' z z) (cI' (b' 3 sc4 z z z) (congrArg Value.bool (bdec _))) z (fun y hr=>?_) (fun y hr=>?_)
     ·refine gy z z (f' z) z<|gy z z (aL' z) z<|gy z z (b' 2 aS' z z z) z<|gy z z (L' q' (e.mono d) z) z<|aj' hr (H' z z) (bc' z z) z (fun Q hr=>?_) (fun Q hr=>?_)
      ·refine gy z z (m' z z) z<|yy (l' z z) z<|mv z z<|sf z z z<|sf z z z<|sf z z z<|sf z z z<|aB' (af' z z) z<|aB' (af' z z) z<|aB' (af' z z) z<|sf z z z<|yy (m' z z) z<|nx<|at' z<|sr<|sg z z<|nx<|j' ?_
       replace hr:_=r:=hr
       refine g' ?_
       subst hr
       exact k' z z z
      ·refine gy z z (m' z z) z<|yy (l' z z) z<|mv z z<|gy z z (aJ' z) z<|gy z z (b' 3 sc3 z z z) z<|aj' hr (H' z z) (ak' z z) z (fun L hr=>?_) (fun L hr=>?_)
       ·refine gy z z (f' z) z<|gy z z (bf' z) z<|gy z z (b' 2 sc3 z z z) z<|gy z z (bc' z z) z<|gy z z (m' z z) z<|yy (l' z z) z<|nx<|I' hr z (fun H hr=>?_) (fun H hr=>?_)
        ·refine sr<|sg z z<|nx<|j' ?_
         replace hr:_=r:=hr
         refine g' ?_
         subst hr
         exact k' z z z
        ·refine o'<|ap' c ⟨mr,hr⟩ (fc z (fc z fn)) (wk (lc z (lc z ln)))
       ·refine gy z z (f' z) z<|sk z z z<|sk z z z<|sk z z z<|gy z z (l' z z) z<|yy (l' z z) z<|nx<|bg' z<|o'<|ap' c ⟨mr,hr⟩ (fc z (fc z fn)) (wk (lc z (lc z ln)))
     ·refine gy z z (f' z) z<|sk z z z<|sk z z z<|sk z z z<|sk z z z<|gy z z (l' z z) z<|yy (l' z z) z<|mv z z<|gy z z (aJ' z) z<|gy z z (b' 3 sc3 z z z) z<|aj' hr (H' z z) (ak' z z) z (fun s hr=>?_) (fun s hr=>?_)
      ·refine gy z z (f' z) z<|gy z z (bf' z) z<|gy z z (b' 2 sc3 z z z) z<|gy z z (bc' z z) z<|gy z z (m' z z) z<|yy (l' z z) z<|nx<|I' hr z (fun M hr=>?_) (fun M hr=>?_)
       ·refine sr<|sg z z<|nx<|j' ?_
        replace hr:_=r:=hr
        refine g' ?_
        subst hr
        exact k' z z z
       ·refine o'<|ap' c ⟨mr,hr⟩ (fc z (fc z fn)) (wk (lc z (lc z ln)))
      ·refine gy z z (f' z) z<|sk z z z<|sk z z z<|sk z z z<|gy z z (l' z z) z<|yy (l' z z) z<|nx<|bg' z<|o'<|ap' c ⟨mr,hr⟩ (fc z (fc z fn)) (wk (lc z (lc z ln)))
  ·rintro i ⟨j,hr⟩
   refine h'<|sr<|yy (cD' z) z<|yy (b' 3 bQ' z z z) z<|yy (ar' z) z<|yy (b' 2 bn' z z z) z<|yy (L' A' (g.mono (mt d j)) z) z ?_
   obtain⟨R,x,hr⟩:=hr
   refine F' z z (s' E123 z) (fR' x) z ((n.mono (mt d j)))<|yy (ao' z) z<|nx<|aN' hr z (fun I hr=>?_) (fun I hr=>?_)
   ·refine sr<|sg z z<|nx<|j' ?_
    replace hr:_=r:=hr
    refine g' ?_
    subst hr
    exact k' z z z
   ·refine o'<|e'<|sr<|sg z z<|nx<|j' ?_
    obtain rfl:_=r:=hr
    exact k' z z z
theorem es'{s1 ev1 s1varsp s1varsc s1eqsp s1eqsc s1neqsp s1neqsc ev1pp ev1pc r}(hr:(Zbk s1 ev1).Ret r):Ctr Tryz.prog 76 #[.agg ((v33' s1 s1varsp s1varsc s1eqsp s1eqsc s1neqsp s1neqsc)).toArray,.agg ([i' ev1.kind,.string ev1.name,i' ev1.at',i' ev1.to',i' ev1.id,.slice ev1pp ev1.p.length ev1pc,.bool ev1.neq]).toArray] (fun G=>sl Rp.str G s1varsp s1varsc s1.vars∧sl a' G s1eqsp s1eqsc s1.eqs∧sl a' G s1neqsp s1neqsc s1.neqs∧sl r' G ev1pp ev1pc ev1.p) (fun G v=>v=i' r):=by
 refine C' (args:=[_,_]) (N:=51) Tryz.func76 z z z (fun E i I k=>?_)
 obtain⟨f,c,e,j⟩:=k
 refine sr<|W' 2 z z z fun t=>W' 3 z z z fun C=>sg z z<|nx<|h'<|sr<|yy (t' 2 ai' z z z) z<|yy (aJ' z) z<|yy (b' 3 sc3 z z z) z ?_
 obtain⟨F,n,hr⟩:=hr
 refine F' z z (s' E122 z) (gd' n) z (⟨f,c,e⟩)<|yy (ao' z) z<|nx<|aN' hr z (fun x hr=>?_) (fun x hr=>?_)
 ·refine sr<|sg z z<|nx<|j' ?_
  replace hr:_=r:=hr
  refine g' ?_
  subst hr
  exact k' z z z
 ·refine o'<|e'<|aV' (fun (h:Mem)=>match h with|g=>[(2,.pointer (some ⟨t,0,none⟩)),(3,.pointer (some ⟨C,0,none⟩))]) (fun (h:Mem)=>match h with|g=>Mem.le i g∧(ZbF s1 ev1).Ret r) (fun (h:Mem)=>match h with|g=>St E i g [(2,some ⟨t,.cells ((v33' s1 s1varsp s1varsc s1eqsp s1eqsc s1neqsp s1neqsc)).toArray 33 (0,0),0⟩),(3,some ⟨C,.cells ([i' ev1.kind,.string ev1.name,i' ev1.at',i' ev1.to',i' ev1.id,.slice ev1pp ev1.p.length ev1pc,.bool ev1.neq]).toArray 40 (0,0),0⟩)]) ?_ ?_
  ·skip
   refine sr<|yy (bN' z) z<|yy (b' 3 sc3 z z z) z<|aj' hr z (ak' z z) z (fun p hr=>?_) (fun p hr=>?_)
   ·refine mv z z<|gy z z (cD' z) z<|gy z z (b' 3 bQ' z z z) z<|gy z z (ar' z) z<|gy z z (b' 2 bn' z z z) z<|gy z z (L' A' f z) z ?_
    obtain⟨J,l,hr⟩:=hr
    refine F' (H' z z) z (s' E123 z) (fR' l) z (j)<|gy z z (ao' z) z<|yy (m' z z) z<|nx<|aN' hr z (fun u hr=>?_) (fun u hr=>?_)
    ·refine sr<|sg z z<|nx<|j' ?_
     replace hr:_=r:=hr
     refine g' ?_
     subst hr
     exact k' z z z
    ·refine o'<|ap' i ⟨mr,hr⟩ (fc z (fc z fn)) (wk (lc z (lc z ln)))
   ·refine mv z z<|sk z z z<|sk z z z<|sk z z z<|sk z z z<|sk z z z<|sk z z z<|sk z z z<|yy (l' z z) z<|nx<|bg' z<|o'<|ap' i ⟨mr,hr⟩ (fc z (fc z fn)) (wk (lc z (lc z ln)))
  ·rintro g ⟨d,hr⟩
   refine sr<|yy (ax' z) z<|yy (b' 2 aS' z z z) z<|yy (aJ' z) z<|yy (b' 3 sc3 z z z) z ?_
   obtain⟨H,m,hr⟩:=hr
   refine F' z z (s' E43 z) (dl' m) z ((c.mono d))<|yy (bc' z z) z<|sg z z<|nx<|h'<|sr<|yy (bN' z) z<|yy (b' 3 sc3 z z z) z<|aj' hr z (ak' z z) z (fun D hr=>?_) (fun D hr=>?_)
   ·refine mv z z<|aj' hr (H' z z) (f' z) z (fun A hr=>?_) (fun A hr=>?_)
    ·refine gy z z (f' z) z<|gy z z (aL' z) z<|gy z z (b' 2 aS' z z z) z<|gy z z (L' q' (e.mono d) z) z<|aj' hr (H' z z) (bc' z z) z (fun B hr=>?_) (fun B hr=>?_)
     ·refine gy z z (m' z z) z<|gy z z (f' z) z<|sf z z z<|sf z z z<|sf z z z<|aB' (af' z z) z<|aB' (af' z z) z<|aB' (af' z z) z<|aB' (af' z z) z<|sf z z z<|gy z z (m' z z) z<|yy (m' z z) z<|nx<|at' z<|sr<|sg z z<|nx<|j' ?_
      replace hr:_=r:=hr
      refine g' ?_
      subst hr
      exact k' z z z
     ·refine gy z z (m' z z) z<|gy z z (f' z) z<|aj' hr (H' z z) (f' z) z (fun y hr=>?_) (fun y hr=>?_)
      ·refine gy z z (ao' z) z<|gy z z (f' z) z<|sk z z z<|sk z z z<|sk z z z<|sk z z z<|gy z z (l' z z) z<|gy z z (l' z z) z<|yy (m' z z) z<|nx<|bg' z<|o'<|e'<|sr<|sg z z<|nx<|j' ?_
       obtain rfl:_=r:=hr
       exact k' z z z
      ·refine gy z z (ao' z) z<|gy z z (f' z) z<|gy z z (ax' z) z<|gy z z (b' 2 aS' z z z) z<|gy z z (L' q' (c.mono d) z) z<|gy z z (bc' z z) z<|gy z z (m' z z) z<|gy z z (l' z z) z<|yy (m' z z) z<|nx<|I' hr z (fun q hr=>?_) (fun q hr=>?_)
       ·refine sr<|sg z z<|nx<|j' ?_
        replace hr:_=r:=hr
        refine g' ?_
        subst hr
        exact k' z z z
       ·refine o'<|e'<|sr<|sg z z<|nx<|j' ?_
        obtain rfl:_=r:=hr
        exact k' z z z
    ·refine gy z z (f' z) z<|sk z z z<|sk z z z<|sk z z z<|sk z z z<|gy z z (l' z z) z<|gy z z (f' z) z<|aj' hr (H' z z) (f' z) z (fun s hr=>?_) (fun s hr=>?_)
     ·refine gy z z (ao' z) z<|gy z z (f' z) z<|sk z z z<|sk z z z<|sk z z z<|sk z z z<|gy z z (l' z z) z<|gy z z (l' z z) z<|yy (m' z z) z<|nx<|bg' z<|o'<|e'<|sr<|sg z z<|nx<|j' ?_
      obtain rfl:_=r:=hr
      exact k' z z z
     ·refine gy z z (ao' z) z<|gy z z (f' z) z<|gy z z (ax' z) z<|gy z z (b' 2 aS' z z z) z<|gy z z (L' q' (c.mono d) z) z<|gy z z (bc' z z) z<|gy z z (m' z z) z<|gy z z (l' z z) z<|yy (m' z z) z<|nx<|I' hr z (fun o hr=>?_) (fun o hr=>?_)
      ·refine sr<|sg z z<|nx<|j' ?_
       replace hr:_=r:=hr
       refine g' ?_
       subst hr
       exact k' z z z
      ·refine o'<|e'<|sr<|sg z z<|nx<|j' ?_
       obtain rfl:_=r:=hr
       exact k' z z z
   ·refine mv z z<|sk z z z<|sk z z z<|aB' (af' z z) z<|aB' (af' z z) z<|aB' (af' z z) z<|aB' (af' z z) z<|sk z z z<|sk z z z<|aB' (af' z z) z<|aB' (af' z z) z<|aB' (af' z z) z<|aB' (af' z z) z<|aB' (af' z z) z<|aB' (af' z z) z<|aB' (af' z z) z<|aB' (af' z z) z<|sk z z z<|yy (l' z z) z<|nx<|bg' z<|o'<|e'<|sr<|sg z z<|nx<|j' ?_
    obtain rfl:_=r:=hr
    exact k' z z z
theorem fB'{a0_1 a1_1 a0_1varsp a0_1varsc a0_1eqsp a0_1eqsc a0_1neqsp a0_1neqsc a1_1pp a1_1pc r}(hr:(Zei a0_1 a1_1).Ret r):Ctr Tryz.prog 37 #[.agg ((v33' a0_1 a0_1varsp a0_1varsc a0_1eqsp a0_1eqsc a0_1neqsp a0_1neqsc)).toArray,.agg ([i' a1_1.kind,.string a1_1.name,i' a1_1.at',i' a1_1.to',i' a1_1.id,.slice a1_1pp a1_1.p.length a1_1pc,.bool a1_1.neq]).toArray] (fun G=>sl Rp.str G a0_1varsp a0_1varsc a0_1.vars∧sl a' G a0_1eqsp a0_1eqsc a0_1.eqs∧sl a' G a0_1neqsp a0_1neqsc a0_1.neqs∧sl r' G a1_1pp a1_1pc a1_1.p) (fun G v=>v=i' r):=by
 refine C' (args:=[_,_]) (N:=98) Tryz.func37 z z z (fun w0 G0 ae y=>?_)
 obtain⟨c,e,d,f⟩:=y
 refine sr<|W' 2 z z z fun b1=>W' 3 z z z fun b2=>sg z z<|nr<|yy (ar' z) z<|yy (b' 2 bn' z z z) z<|yy (L' A' c z) z<|sg z z<|nx<|h'<|sr<|yy (bN' z) z<|yy (b' 3 sc3 z z z) z<|nx<|B'<|sr<|yy (ak' z z) z<|sg z z<|nx<|I' hr z (fun S hr=>?_) (fun S hr=>?_)
 ·refine h'<|sr<|mv z z<|yy (bc' z z) z<|nx<|I' hr z (fun M hr=>?_) (fun M hr=>?_)
  ·refine sr<|sg z z<|nx<|j' ?_
   replace hr:_=r:=hr
   refine g'<|x'<|g' ?_
   subst hr
   exact k' z z z
  ·refine o'<|e'<|h'<|sr<|yy (ay' z) z<|yy (b' 3 sc3 z z z) z<|aj' hr z (V' z z) z (fun V hr=>?_) (fun V hr=>?_)
   ·refine mv z z<|sf z z z<|sf z z z<|sf z z z<|sf z z z<|yy (m' z z) z<|nx<|at' z<|sr<|sg z z<|nx<|j' ?_
    replace hr:_=r:=hr
    refine g'<|x'<|g' ?_
    subst hr
    exact k' z z z
   ·refine mv z z<|gy z z (ay' z) z<|gy z z (b' 3 sc3 z z z) z<|gy z z (f' z) z<|gy z z (br' z z) z<|yy (l' z z) z<|nx<|I' hr z (fun K hr=>?_) (fun K hr=>?_)
    ·refine sr<|sg z z<|nx<|j' ?_
     replace hr:_=r:=hr
     refine g'<|x'<|g' ?_
     subst hr
     exact k' z z z
    ·refine o'<|e'<|h'<|sr<|yy (bM' z) z<|yy (b' 3 sc9 z z z) z ?_
     obtain⟨J,H,hr⟩:=hr
     refine F' z z (s' E47 z) (eQ' H) z (trivial) ?_
     cases J
     ·skip
      refine yy (ao' z) z<|mv z z<|sf z z z<|sf z z z<|sf z z z<|sf z z z<|sf z z z<|yy (m' z z) z<|nx<|at' z<|sr<|sg z z<|nx<|j' ?_
      replace hr:_=r:=hr
      refine g'<|x'<|g' ?_
      subst hr
      exact k' z z z
     ·skip
      refine yy (ao' z) z<|mv z z<|gy z z (t' 2 ai' z z z) z<|gy z z (bM' z) z<|gy z z (b' 3 sc9 z z z) z ?_
      obtain⟨ad,F,hr⟩:=hr
      refine F' (H' z z) z (s' E72 z) (fy' F) z (⟨c,e,d⟩)<|gy z z (bc' z z) z<|yy (l' z z) z<|nx<|I' hr z (fun R hr=>?_) (fun R hr=>?_)
      ·refine sr<|sg z z<|nx<|j' ?_
       replace hr:_=r:=hr
       refine g'<|x'<|g' ?_
       subst hr
       exact k' z z z
      ·refine o'<|e'<|sr<|sg z z<|nx<|j' ?_
       replace hr:_=r:=hr
       refine x'<|g' ?_
       subst hr
       exact k' z z z
 ·refine sr<|yy (ak' z z) z<|sg z z<|nx<|I' hr z (fun U hr=>?_) (fun U hr=>?_)
  ·refine h'<|sr<|yy (t' 2 ai' z z z) z<|yy (ay' z) z<|yy (b' 3 sc3 z z z) z ?_
   obtain⟨ag,A,hr⟩:=hr
   refine F' z z (s' E73 z) (eR' A) z (⟨c,e,d⟩)<|yy (ao' z) z<|nx<|aN' hr z (fun P hr=>?_) (fun P hr=>?_)
   ·refine sr<|sg z z<|nx<|j' ?_
    replace hr:_=r:=hr
    refine g'<|x'<|g' ?_
    subst hr
    exact k' z z z
   ·refine o'<|e'<|h'<|sr<|yy (t' 2 ai' z z z) z<|yy (ay' z) z<|yy (b' 3 sc3 z z z) z ?_
    obtain⟨ac,q,hr⟩:=hr
    refine F' z z (s' E74 z) (gJ' q) z (⟨c,e,d⟩)<|nx<|aN' hr z (fun W hr=>?_) (fun W hr=>?_)
    ·refine sr<|sg z z<|nx<|j' ?_
     replace hr:_=r:=hr
     refine g'<|x'<|g' ?_
     subst hr
     exact k' z z z
    ·refine o'<|e'<|sr<|sg z z<|nx<|j' ?_
     replace hr:_=r:=hr
     refine x'<|g' ?_
     subst hr
     exact k' z z z
  ·refine sr<|yy (ak' z z) z<|sg z z<|nx<|I' hr z (fun O hr=>?_) (fun O hr=>?_)
   ·refine h'<|sr<|yy (t' 2 ai' z z z) z<|yy (ay' z) z<|yy (b' 3 sc3 z z z) z ?_
    obtain⟨ah,x,hr⟩:=hr
    refine F' z z (s' E73 z) (eR' x) z (⟨c,e,d⟩)<|yy (ao' z) z<|nx<|aN' hr z (fun I hr=>?_) (fun I hr=>?_)
    ·refine sr<|sg z z<|nx<|j' ?_
     replace hr:_=r:=hr
     refine g'<|x'<|g' ?_
     subst hr
     exact k' z z z
    ·refine o'<|e'<|sr<|yy (t' 2 ai' z z z) z<|yy (bM' z) z<|yy (b' 3 sc9 z z z) z ?_
     obtain⟨ab,p,hr⟩:=hr
     refine F' z z (s' E72 z) (fy' p) z (⟨c,e,d⟩)<|sg z z<|nx<|h'<|sr<|yy (bM' z) z<|yy (b' 3 sc9 z z z) z ?_
     obtain⟨L,C,hr⟩:=hr
     refine F' z z (s' E47 z) (eQ' C) z (trivial) ?_
     cases L
     ·skip
      refine yy (ao' z) z<|mv z z<|sf z z z<|sf z z z<|sf z z z<|aB' (af' z z) z<|aB' (af' z z) z<|aB' (af' z z) z<|aB' (af' z z) z<|sf z z z<|yy (m' z z) z<|nx<|at' z<|sr<|sg z z<|nx<|j' ?_
      replace hr:_=r:=hr
      refine g'<|x'<|g' ?_
      subst hr
      exact k' z z z
     ·skip
      refine yy (ao' z) z<|mv z z<|gy z z (f' z) z<|aj' hr (H' z z) (bc' z z) z (fun T hr=>?_) (fun T hr=>?_)
      ·refine gy z z (f' z) z<|gy z z (f' z) z<|gy z z (ay' z) z<|gy z z (b' 3 sc3 z z z) z<|gy z z (aR' z z) z<|gy z z (m' z z) z<|yy (l' z z) z<|nx<|I' hr z (fun E hr=>?_) (fun E hr=>?_)
       ·refine sr<|sg z z<|nx<|j' ?_
        replace hr:_=r:=hr
        refine g'<|x'<|g' ?_
        subst hr
        exact k' z z z
       ·refine o'<|e'<|sr<|sg z z<|nx<|j' ?_
        replace hr:_=r:=hr
        refine x'<|g' ?_
        subst hr
        exact k' z z z
      ·refine gy z z (f' z) z<|sk z z z<|sk z z z<|sk z z z<|sk z z z<|gy z z (l' z z) z<|yy (l' z z) z<|nx<|bg' z<|o'<|e'<|sr<|sg z z<|nx<|j' ?_
       replace hr:_=r:=hr
       refine x'<|g' ?_
       subst hr
       exact k' z z z
   ·refine sr<|yy (ak' z z) z<|sg z z<|nx<|I' hr z (fun k hr=>?_) (fun k hr=>?_)
    ·refine h'<|sr<|yy (t' 2 ai' z z z) z<|yy (ay' z) z<|yy (b' 3 sc3 z z z) z ?_
     obtain⟨Q,t,hr⟩:=hr
     refine F' z z (s' E73 z) (eR' t) z (⟨c,e,d⟩) ?_
     cases Q
     ·skip
      refine yy (ao' z) z<|mv z z<|sf z z z<|sf z z z<|sf z z z<|sf z z z<|sf z z z<|yy (m' z z) z<|nx<|at' z<|sr<|sg z z<|nx<|j' ?_
      replace hr:_=r:=hr
      refine g'<|x'<|g' ?_
      subst hr
      exact k' z z z
     ·skip
      refine yy (ao' z) z<|mv z z<|gy z z (t' 2 ai' z z z) z<|gy z z (cp' z) z<|gy z z (b' 3 sc3 z z z) z ?_
      obtain⟨af,s,hr⟩:=hr
      refine F' (H' z z) z (s' E73 z) (eR' s) z (⟨c,e,d⟩)<|gy z z (ao' z) z<|yy (l' z z) z<|nx<|aN' hr z (fun B hr=>?_) (fun B hr=>?_)
      ·refine sr<|sg z z<|nx<|j' ?_
       replace hr:_=r:=hr
       refine g'<|x'<|g' ?_
       subst hr
       exact k' z z z
      ·refine o'<|e'<|sr<|sg z z<|nx<|j' ?_
       replace hr:_=r:=hr
       refine x'<|g' ?_
       subst hr
       exact k' z z z
    ·refine sr<|yy (ak' z z) z<|sg z z<|nx<|I' hr z (fun o hr=>?_) (fun o hr=>?_)
     ·refine sr<|yy (t' 2 ai' z z z) z<|yy (t' 3 bw' z z z) z ?_
      obtain⟨Z,i,hr⟩:=hr
      refine F' z z (s' E75 z) (ga' i) z (⟨c,e,d,f⟩)<|sg z z<|nx<|j' ?_
      replace hr:_=r:=hr
      refine x'<|g' ?_
      subst hr
      exact k' z z z
     ·refine h'<|sr<|yy (ak' z z) z<|sg z z<|nx<|I' hr z (fun m hr=>?_) (fun m hr=>?_)
      ·refine o'<|e'<|I' hr z (fun l hr=>?_) (fun l hr=>?_)
       ·refine sr<|yy (t' 2 ai' z z z) z<|yy (t' 3 bw' z z z) z ?_
        obtain⟨X,j,hr⟩:=hr
        refine F' z z (s' E76 z) (es' j) z (⟨c,e,d,f⟩)<|sg z z<|nx<|j' ?_
        replace hr:_=r:=hr
        refine x'<|g' ?_
        subst hr
        exact k' z z z
       ·refine o'<|D'<|e'<|sr<|sg z z<|nx<|j' ?_
        obtain rfl:_=r:=hr
        exact k' z z z
      ·refine sr<|yy (ak' z z) z<|sg z z<|nx<|I' hr z (fun u hr=>?_) (fun u hr=>?_)
       ·refine o'<|e'<|I' hr z (fun n hr=>?_) (fun n hr=>?_)
        ·refine sr<|yy (t' 2 ai' z z z) z<|yy (t' 3 bw' z z z) z ?_
         obtain⟨aa,h,hr⟩:=hr
         refine F' z z (s' E76 z) (es' h) z (⟨c,e,d,f⟩)<|sg z z<|nx<|j' ?_
         replace hr:_=r:=hr
         refine x'<|g' ?_
         subst hr
         exact k' z z z
        ·refine o'<|D'<|e'<|sr<|sg z z<|nx<|j' ?_
         obtain rfl:_=r:=hr
         exact k' z z z
       ·refine w'<|yy (ak' z z) z<|sg z z<|nx<|I' hr z (fun D hr=>?_) (fun D hr=>?_)
        ·refine sr<|yy (t' 2 ai' z z z) z<|yy (t' 3 bw' z z z) z ?_
         obtain⟨Y,g,hr⟩:=hr
         refine F' z z (s' E76 z) (es' g) z (⟨c,e,d,f⟩)<|sg z z<|nx<|j' ?_
         replace hr:_=r:=hr
         refine x'<|g' ?_
         subst hr
         exact k' z z z
        ·refine o'<|D'<|e'<|sr<|sg z z<|nx<|j' ?_
         obtain rfl:_=r:=hr
         exact k' z z z
theorem do'{fromv1 tov1 r}(hr:(Zau fromv1 tov1).Ret r):Ctr Tryz.prog 39 #[i' fromv1,i' tov1] (fun G=>True) (fun G v=>v = .agg (vecG (Value.int .i64) 8 r).toArray):=by
 refine C' (args:=[_,_]) (N:=43) Tryz.func39 z z z fun s n Q O=>sr<|T' 4 z z83 z fun o=>nr<|yy (aq' (vs:=#[]) (v:=.agg (vecG (Value.int .i64) 8 (fun _=>0)).toArray) z z (fun _=>by kernel_rfl)) z<|T' 5 z z83 z fun p=>v' 5 z sz83 z z z (O' _ _ _) (O' _ _ _) (fun u q=>Rp.one (cv' .i64 8) (G:=n) (x:=(fun _=>0)) (cs:=vecG (Value.int .i64) 8 (fun _=>0)) z u (by first|simpa using q|simpa [Value.cells] using q))<|nx<|h'<|sr<|sg z z<|nx<|aa' (fun (⟨f,k⟩:(Fin 8→Int)×Mem)=>[(0,i' fromv1),(1,i' tov1),(4,.pointer (some ⟨o,0,none⟩)),(5,.pointer (some ⟨p,0,none⟩))]) (fun ⟨f,k⟩=>Mem.le n k∧(ZcO fromv1 tov1 f).Ret r) (fun ⟨f,k⟩=>St s n k [(4,some ⟨o,.cells (vecG (Value.int .i64) 8 (fun _=>0)).toArray 83 (0,0),0⟩),(5,some ⟨p,.cells (vecG (Value.int .i64) 8 f).toArray 83 (0,0),0⟩)]) ?_ ?_
 ·refine B' ?_
  let m:(Fin 8→Int)→Prop:=fun L=>((fun P=>match P with|f=>ZcO fromv1 tov1 f:(Fin 8→Int)→Comp (Fin 8→Int)) L).wp (fun a=>a=r)
  replace hr:(Comp.loop _ _).wp m:=hr
  refine ab' (Φ:=m) (fun (⟨c,d,e⟩:Int×(Fin 8→Int)×Mem)=>((c,d):Int×(Fin 8→Int))) (fun ⟨c,d,e⟩=>[(0,i' fromv1),(1,i' tov1),(4,.pointer (some ⟨o,0,none⟩)),(5,.pointer (some ⟨p,0,none⟩)),(6,i' c)]) (fun ⟨c,d,e⟩=>Mem.le n e) (fun ⟨c,d,e⟩=>St s n e [(4,some ⟨o,.cells (vecG (Value.int .i64) 8 (fun _=>0)).toArray 83 (0,0),0⟩),(5,some ⟨p,.cells (vecG (Value.int .i64) 8 d).toArray 83 (0,0),0⟩)]) ⟨0,(fun _=>0),n⟩ hr (fc z (fc z (fc z (fc z (fc z fn))))) mr (wk (lc z (lc z ln))) ?_
  ·intro E K M hr
   obtain⟨c,d,e⟩:=K
   have j:=M
   refine h'<|sr<|mv z z<|yy (V' z z) z<|nx<|I' hr z (fun B hr=>?_) (fun B hr=>?_)
   ·refine o'<|e'<|h'<|B'<|sr<|mv z z<|mv z z ?_
    obtain⟨D,hr⟩:=hr
    refine yy (aW' aY' sz3 z z D) z<|au' 5 (vecG (Value.int .i64) 8 (setF d c.toNat c)).toArray z sz3 z z z (by first|(rw[O']; omega)|(show _<(vecG _ _ _).toArray.size; rw[O']; omega)) z (bP' _ _ _ _ _)<|nx<|aV' (fun (⟨g,h⟩:(Fin 8→Int)×Mem)=>[(0,i' fromv1),(1,i' tov1),(4,.pointer (some ⟨o,0,none⟩)),(5,.pointer (some ⟨p,0,none⟩)),(6,i' c)]) (fun ⟨g,h⟩=>Mem.le e h∧(ZbG fromv1 tov1 c g).wp (Out E m)) (fun ⟨g,h⟩=>St s n h [(4,some ⟨o,.cells (vecG (Value.int .i64) 8 (fun _=>0)).toArray 83 (0,0),0⟩),(5,some ⟨p,.cells (vecG (Value.int .i64) 8 g).toArray 83 (0,0),0⟩)]) ?_ ?_
    ·skip
     refine sr<|mv z z<|mv z z<|aj' hr z (br' z z) z (fun C hr=>?_) (fun C hr=>?_)
     ·refine mv z z<|gy z z (f' z) z<|gy z z (f' z) z<|gy z z (bz' z z) z<|yy (m' z z) z<|nx<|I' hr z (fun y hr=>?_) (fun y hr=>?_)
      ·refine w'<|mv z z<|mv z z<|yy (bd' z z) z ?_
       obtain⟨t,hr⟩:=hr
       refine yy (aW' aY' sz3 z z t) z<|au' 5 (vecG (Value.int .i64) 8 (setF (setF d c.toNat c) c.toNat (IntKind.i64.wrap (c-1)))).toArray z sz3 z z z (by first|(rw[O']; omega)|(show _<(vecG _ _ _).toArray.size; rw[O']; omega)) z (bP' _ _ _ _ _)<|u'<|ap' ⟨setF (setF d c.toNat c) c.toNat (IntKind.i64.wrap (c-1)),e⟩ ⟨mr,hr⟩ (fc z (fc z (fc z (fc z (fc z fn))))) (wk (lc z (lc z ln)))
      ·refine o'<|ap' ⟨setF d c.toNat c,e⟩ ⟨mr,hr⟩ (fc z (fc z (fc z (fc z (fc z fn))))) (wk (lc z (lc z ln)))
     ·refine mv z z<|sk z z z<|sk z z z<|sk z z z<|yy (l' z z) z<|nx<|bg' z<|o'<|ap' ⟨setF d c.toNat c,e⟩ ⟨mr,hr⟩ (fc z (fc z (fc z (fc z (fc z fn))))) (wk (lc z (lc z ln)))
    ·rintro⟨g,h⟩ ⟨l,hr⟩
     refine sr<|mv z z<|mv z z<|aj' hr z (V' z z) z (fun F hr=>?_) (fun F hr=>?_)
     ·refine mv z z<|gy z z (f' z) z<|gy z z (f' z) z<|gy z z (bc' z z) z<|yy (m' z z) z<|nx<|I' hr z (fun A hr=>?_) (fun A hr=>?_)
      ·refine w'<|mv z z<|mv z z<|yy (N' z z) z ?_
       obtain⟨H,hr⟩:=hr
       refine yy (aW' aY' sz3 z z H) z<|au' 5 (vecG (Value.int .i64) 8 (setF g c.toNat (IntKind.i64.wrap (c+1)))).toArray z sz3 z z z (by first|(rw[O']; omega)|(show _<(vecG _ _ _).toArray.size; rw[O']; omega)) z (bP' _ _ _ _ _)<|u'<|D'<|e'<|w'<|mv z z<|yy (N' z z) z<|sg z z<|u'<|P' ⟨IntKind.i64.wrap (c+1),setF g c.toNat (IntKind.i64.wrap (c+1)),h⟩ hr (mt j l) (fc z (fc z (fc z (fc z (fc z fn))))) (wk (lc z (lc z ln)))
      ·refine o'<|D'<|e'<|w'<|mv z z<|yy (N' z z) z<|sg z z<|u'<|P' ⟨IntKind.i64.wrap (c+1),g,h⟩ hr (mt j l) (fc z (fc z (fc z (fc z (fc z fn))))) (wk (lc z (lc z ln)))
     ·refine mv z z<|sk z z z<|sk z z z<|sk z z z<|yy (l' z z) z<|nx<|bg' z<|o'<|D'<|e'<|w'<|mv z z<|yy (N' z z) z<|sg z z<|u'<|P' ⟨IntKind.i64.wrap (c+1),g,h⟩ hr (mt j l) (fc z (fc z (fc z (fc z (fc z fn))))) (wk (lc z (lc z ln)))
   ·refine ad'<|n'<|n'<|J'<|ae' ⟨d,e⟩ ⟨j,hr⟩ (fc z (fc z (fc z (fc z fn)))) (wk (lc z (lc z ln)))
 ·rintro⟨f,k⟩ ⟨J,hr⟩
  refine e'<|sr<|mv z z<|mv z z ?_
  obtain⟨I,hr⟩:=hr
  refine yy (aW' aY' sz3 z z I) z<|au' 5 (vecG (Value.int .i64) 8 (setF f fromv1.toNat tov1)).toArray z sz3 z z z (by first|(rw[O']; omega)|(show _<(vecG _ _ _).toArray.size; rw[O']; omega)) z (bP' _ _ _ _ _)<|nr<|yy (t' 5 ag83 z z (O' _ _ _)) z<|v' 4 z sz83 z z z (O' _ _ _) (O' _ _ _) (fun u q=>Rp.one (cv' .i64 8) (G:=k) (x:=setF f fromv1.toNat tov1) (cs:=vecG (Value.int .i64) 8 (setF f fromv1.toNat tov1)) z u (by first|simpa using q|simpa [Value.cells] using q))<|nx<|j' ?_
  obtain rfl:_=r:=hr
  exact k' z (ac' (i:=4) ag83 z z (O' _ _ _)) z
theorem eY'{perm1 r}(hr:(ZbO perm1).Ret r):Ctr Tryz.prog 124 #[.agg (vecG (Value.int .i64) 8 perm1).toArray] (fun G=>True) (fun G v=>v = .bool r):=by
 refine C' (args:=[_]) (N:=31) Tryz.func124 z z z fun s i K I=>sr<|W' 1 z z z fun q=>sg z z<|nr<|yy (aq' (vs:=#[]) (v:=.agg (vecG Value.bool 8 (fun _=>false)).toArray) z z (fun _=>by kernel_rfl)) z<|T' 3 z z176 z fun B=>v' 3 z sz176 z z z (O' _ _ _) (O' _ _ _) (fun u C=>Rp.one (Rp.vecB 8) (G:=i) (x:=(fun _=>false)) (cs:=vecG Value.bool 8 (fun _=>false)) z u (by first|simpa using C|simpa [Value.cells] using C))<|nx<|h'<|sr<|sg z z<|nx<|aa' (fun (g:Mem)=>match g with|f=>[]) (fun (g:Mem)=>match g with|f=>Mem.le i f∧(Za9).Ret r) (fun (g:Mem)=>match g with|f=>St s i f []) ?_ ?_
 ·refine B' ?_
  let j:(Bool⊕Unit)→Prop:=fun F=>((fun J=>match J with | .inl rv1=>Comp.ret rv1 | .inr ()=>Za9:(Bool⊕Unit)→Comp Bool) F).wp (fun a=>a=r)
  replace hr:(Comp.loop _ _).wp j:=hr
  refine ab' (Φ:=j) (fun (⟨e,c,d⟩:Int×(Fin 8→Bool)×Mem)=>((e,c):Int×(Fin 8→Bool))) (fun ⟨e,c,d⟩=>[(1,.pointer (some ⟨q,0,none⟩)),(3,.pointer (some ⟨B,0,none⟩)),(4,i' e)]) (fun ⟨e,c,d⟩=>Mem.le i d) (fun ⟨e,c,d⟩=>St s i d [(1,some ⟨q,.cells (vecG (Value.int .i64) 8 perm1).toArray 83 (0,0),0⟩),(3,some ⟨B,.cells (vecG Value.bool 8 c).toArray 176 (0,0),0⟩)]) ⟨0,(fun _=>false),i⟩ hr (fc z (fc z (fc z fn))) mr (wk (lc z (lc z ln))) ?_
  ·intro L g H hr
   obtain⟨e,c,d⟩:=g
   have h:=H
   refine h'<|sr<|mv z z<|yy (V' z z) z<|nx<|I' hr z (fun t hr=>?_) (fun t hr=>?_)
   ·refine o'<|e'<|h'<|B'<|h'<|sr<|mv z z ?_
    obtain⟨o,hr⟩:=hr
    refine yy (aW' aY' sz3 z z o) z<|yy (b' 1 sc3 z z (by' _ _ _ o)) z<|aj' hr z (V' z z) z (fun D hr=>?_) (fun D hr=>?_)
    ·refine mv z z<|sf z z z<|sf z z z<|sf z z z<|sf z z z<|yy (m' z z) z<|mv z z<|sf z z z<|sf z z z<|sf z z z<|sf z z z<|sf z z z<|yy (m' z z) z<|nx<|at' z<|sr<|sg z z<|nx<|j' ?_
     replace hr:_=r:=hr
     refine g'<|x'<|g'<|g'<|x'<|aI'<|g' ?_
     subst hr
     exact k' z z z
    ·refine mv z z<|gy z z (f' z) z ?_
     obtain⟨l,hr⟩:=hr
     refine gy z z (aW' aY' sz3 z z l) z<|gy z z (b' 1 sc3 z z (by' _ _ _ l)) z<|aj' hr (H' z z) (bc' z z) z (fun y hr=>?_) (fun y hr=>?_)
     ·refine yy (l' z z) z<|mv z z<|sf z z z<|sf z z z<|sf z z z<|sf z z z<|sf z z z<|yy (m' z z) z<|nx<|at' z<|sr<|sg z z<|nx<|j' ?_
      replace hr:_=r:=hr
      refine g'<|x'<|g'<|g'<|x'<|aI'<|g' ?_
      subst hr
      exact k' z z z
     ·refine yy (l' z z) z<|mv z z<|gy z z (f' z) z ?_
      obtain⟨n,hr⟩:=hr
      refine gy z z (aW' aY' sz3 z z n) z<|gy z z (b' 1 sc3 z z (by' _ _ _ n)) z ?_
      obtain⟨k,hr⟩:=hr
      refine gy z z (aW' dx' sz4 z z k) z<|gy z z (b' 3 sc4 z z (by' _ _ _ k)) z<|yy (l' z z) z<|nx<|aN' hr z (fun p hr=>?_) (fun p hr=>?_)
      ·exact (show False from hr).elim
      ·refine o'<|e'<|w'<|mv z z ?_
       obtain⟨m,hr⟩:=hr
       refine yy (aW' aY' sz3 z z m) z<|yy (b' 1 sc3 z z (by' _ _ _ m)) z ?_
       obtain⟨A,hr⟩:=hr
       refine yy (aW' dx' sz4 z z A) z<|au' 3 (vecG Value.bool 8 (setF c ((getF perm1 e).toNat) true)).toArray z sz4 z z z (by first|(rw[O']; omega)|(show _<(vecG _ _ _).toArray.size; rw[O']; omega)) z (bP' _ _ _ _ _)<|u'<|D'<|e'<|w'<|mv z z<|yy (N' z z) z<|sg z z<|u'<|P' ⟨IntKind.i64.wrap (e+1),setF c ((getF perm1 e).toNat) true,d⟩ hr h (fc z (fc z (fc z fn))) (wk (lc z (lc z ln)))
   ·refine ad'<|n'<|n'<|J'<|ae' d ⟨h,hr⟩ fn (wk ln)
 ·rintro f ⟨E,hr⟩
  refine e'<|sr<|sg z z<|nx<|j' ?_
  obtain rfl:_=r:=hr
  exact k' z z z
theorem gn'{p1 perm1 p1p p1c r}(hr:(ZeF p1 perm1).Ret r):Ctr Tryz.prog 77 #[.slice p1p p1.length p1c,.agg (vecG (Value.int .i64) 8 perm1).toArray] (fun G=>sl r' G p1p p1c p1) (fun G v=>∃ T U,v = .tuple #[.slice T r.1.length U,i' r.2]∧sl r' G T U r.1):=by
 refine C' (args:=[_,_]) (N:=47) Tryz.func77 z z z (fun Y Z ac am=>?_)
 have M:=am
 refine sr<|W' 3 z z z fun Q=>sg z z<|sg z z<|nx<|h'<|sr<|yy (t' 3 ag83 z z (O' _ _ _)) z ?_
 obtain⟨aJ,ar,hr⟩:=hr
 refine F' z z (s' E124 z) (eY' ar) z (trivial)<|yy (ao' z) z<|nx<|aN' hr z (fun aE hr=>?_) (fun aE hr=>?_)
 ·exact (show False from hr).elim
 ·refine o'<|e'<|sr<|aU' (e:=101) (r:=r') (vs:=#[]) (cs:=[]) ([]:List Zc) z z z z z (by decide) (fun _=>by kernel_rfl) (z) (key:=999) z (by rw[ac]; rfl) fun p2 S y az=>sg z z<|nx<|h'<|sr<|sg z z<|nx<|aa' (fun (⟨q,t,A,H⟩:(List Zc)×Option Addr×Nat×Mem)=>[(6,.slice t q.length A)]) (fun ⟨q,t,A,H⟩=>Mem.le S H∧sl r' H t A q∧(ZcK q).Ret r) (fun ⟨q,t,A,H⟩=>St Y Z H []) ?_ ?_
  ·refine B' ?_
   let I:(List Zc)→Prop:=fun oo=>((fun ov=>match ov with|q=>ZcK q:(List Zc)→Comp ((List Zc)×Int)) oo).wp (fun a=>a=r)
   replace hr:(Comp.loop _ _).wp I:=hr
   refine ab' (Φ:=I) (fun (⟨k,l,m,E,p⟩:(List Zc)×Option Addr×Nat×Int×Mem)=>((k,E):(List Zc)×Int)) (fun ⟨k,l,m,E,p⟩=>[(0,.slice p1p p1.length p1c),(3,.pointer (some ⟨Q,0,none⟩)),(6,.slice l k.length m),(7,i' E)]) (fun ⟨k,l,m,E,p⟩=>Mem.le S p∧sl r' p l m k) (fun ⟨k,l,m,E,p⟩=>St Y Z p [(3,some ⟨Q,.cells (vecG (Value.int .i64) 8 perm1).toArray 83 (0,0),0⟩)]) ⟨[],p2,0,0,S⟩ hr (fc z (fc z (fc z (fc z fn)))) ⟨mr,az⟩ (wk (lc z ln)) ?_
   ·intro af gx hx hr
    obtain⟨k,l,m,E,p⟩:=gx
    obtain⟨o,P⟩:=hx
    refine h'<|sr<|mv z z<|mv z z<|yy (L' R' (M.mono (mt y o)) z) z<|yy (V' z z) z<|nx<|I' hr z (fun ay hr=>?_) (fun ay hr=>?_)
    ·refine o'<|e'<|h'<|B'<|sr<|yy (aq' (vs:=#[]) (v:=.agg (vecG (Value.int .i64) 8 (fun _=>0)).toArray) z z (fun _=>by kernel_rfl)) z<|T' 8 z z99 z fun X=>v' 8 z sz99 z z z (O' _ _ _) (O' _ _ _) (fun u hu=>Rp.one (cv' .i64 8) (G:=p) (x:=(fun _=>0)) (cs:=vecG (Value.int .i64) 8 (fun _=>0)) z u (by first|simpa using hu|simpa [Value.cells] using hu))<|nx<|h'<|sr<|sg z z<|nx<|aa' (fun (⟨n,J⟩:(Fin 8→Int)×Mem)=>[(0,.slice p1p p1.length p1c),(3,.pointer (some ⟨Q,0,none⟩)),(6,.slice l k.length m),(7,i' E),(8,.pointer (some ⟨X,0,none⟩))]) (fun ⟨n,J⟩=>Mem.le p J∧(ZcL p1 k E n).wp (Out af I)) (fun ⟨n,J⟩=>St Y Z J [(3,some ⟨Q,.cells (vecG (Value.int .i64) 8 perm1).toArray 83 (0,0),0⟩),(8,some ⟨X,.cells (vecG (Value.int .i64) 8 n).toArray 99 (0,0),0⟩)]) ?_ ?_
     ·refine B' ?_
      let V:(Fin 8→Int)→Prop:=fun oo=>((fun ov=>match ov with|n=>ZcL p1 k E n:(Fin 8→Int)→Comp (((List Zc)×Int)⊕(List Zc))) oo).wp (Out af I)
      replace hr:(Comp.loop _ _).wp V:=hr
      refine ab' (Φ:=V) (fun (⟨F,s,B⟩:Int×(Fin 8→Int)×Mem)=>((F,s):Int×(Fin 8→Int))) (fun ⟨F,s,B⟩=>[(0,.slice p1p p1.length p1c),(3,.pointer (some ⟨Q,0,none⟩)),(6,.slice l k.length m),(7,i' E),(8,.pointer (some ⟨X,0,none⟩)),(9,i' F)]) (fun ⟨F,s,B⟩=>Mem.le p B) (fun ⟨F,s,B⟩=>St Y Z B [(3,some ⟨Q,.cells (vecG (Value.int .i64) 8 perm1).toArray 83 (0,0),0⟩),(8,some ⟨X,.cells (vecG (Value.int .i64) 8 s).toArray 99 (0,0),0⟩)]) ⟨0,(fun _=>0),p⟩ hr (fc z (fc z (fc z (fc z (fc z (fc z fn)))))) mr (wk (lc z (lc z ln))) ?_
      ·intro aL gx hx hr
       obtain⟨F,s,B⟩:=gx
       have D:=hx
       refine h'<|sr<|mv z z<|yy (V' z z) z<|nx<|I' hr z (fun aC hr=>?_) (fun aC hr=>?_)
       ·refine o'<|e'<|h'<|B'<|Y' [false,false,false,false,false,false,false,false,false,false] mix (by kernel_rfl) fun hb=>cn (fun _ i=>f' z) ?_
        obtain⟨ae,hr⟩:=hr
        refine cn (fun _ i=>aW' aY' sz3 z z ae)<|cn (fun _ i=>b' 3 sc3 z z (by' _ _ _ ae))<|cn (fun _ i=>f' z)<|cn (fun _ i=>f' z)<|cn (fun _ i=>f' z) ?_
        obtain⟨x2,ab,hr⟩:=hr
        refine cn (fun _ i=>Q' R' bD' ((M.mono (mt (mt y o) D)).mono i) z z ab)<|cn (fun _ i=>bm' z) ?_
        obtain⟨ad,hr⟩:=hr
        refine cn (fun _ i=>Y0.idxA aG' sz3 z z ad)<|cn (fun _ i=>U' sc3 z (AtK.vecAt (E' (E' (aK' (aF' (Z' M ab))) (mt (mt y o) D)) i) ad))<|X' hb ?_
        obtain⟨aB,hr⟩:=hr
        refine yy (aW' aG' sz3 z z aB) z<|au' 8 (vecG (Value.int .i64) 8 (setF s ((getF perm1 F).toNat) (getF x2.m F))).toArray z sz3 z z z (by first|(rw[O']; omega)|(show _<(vecG _ _ _).toArray.size; rw[O']; omega)) z (bP' _ _ _ _ _)<|u'<|am'<|D'<|e'<|w'<|mv z z<|yy (N' z z) z<|sg z z<|u'<|P' ⟨IntKind.i64.wrap (F+1),setF s ((getF perm1 F).toNat) (getF x2.m F),B⟩ hr D (fc z (fc z (fc z (fc z (fc z (fc z fn)))))) (wk (lc z (lc z ln)))
       ·refine ad'<|n'<|n'<|J'<|ae' ⟨s,B⟩ ⟨D,hr⟩ (fc z (fc z (fc z (fc z (fc z fn))))) (wk (lc z (lc z ln)))
     ·rintro⟨n,J⟩ ⟨C,hr⟩
      refine e'<|Y' [true,false,false,false,false,false,false] mix (by kernel_rfl) fun hb=>cJ' z (f' z)<|cn (fun _ i=>f' z)<|cn (fun _ i=>f' z) ?_
      obtain⟨h,ag,hr⟩:=hr
      refine cn (fun _ i=>Q' R' bD' ((M.mono (mt (mt y o) C)).mono i) z z ag)<|cn (fun _ i=>ce' z) ?_
      obtain⟨g,d,c,f,av,K,L⟩:=dz' (E' (be' (aF' (Z' M ag))) (mt (mt y o) C))
      refine cn (fun _ i=>aw' _ ci' z z (fun j v hv=>i _ _ _ (av j v hv)))<|cn (fun _ i=>t' 8 bS' z z (O' _ _ _))<|X' hb<|yy (aq' (vs:=#[(0,.agg ([.bool h.c.num.neg,.slice g h.c.num.mag.length d,.bool h.c.den.neg,.slice c h.c.den.mag.length f]).toArray),(1,.agg (vecG (Value.int .i64) 8 n).toArray)]) (v:=.agg (([.bool h.c.num.neg,.slice g h.c.num.mag.length d,.bool h.c.den.neg,.slice c h.c.den.mag.length f]:List Value)++(vecG (Value.int .i64) 8 n)).toArray) z z (fun _=>by kernel_rfl)) z<|aU' (e:=101) (r:=r') (vs:=#[(0,.agg (([.bool h.c.num.neg,.slice g h.c.num.mag.length d,.bool h.c.den.neg,.slice c h.c.den.mag.length f]:List Value)++(vecG (Value.int .i64) 8 n)).toArray)]) (cs:=(([.bool h.c.num.neg,.slice g h.c.num.mag.length d,.bool h.c.den.neg,.slice c h.c.den.mag.length f]:List Value)++(vecG (Value.int .i64) 8 n))++([])) ([(Zc.mk h.c n)]:List Zc) z z z z z (by decide) (fun _=>by kernel_rfl) ⟨([.bool h.c.num.neg,.slice g h.c.num.mag.length d,.bool h.c.den.neg,.slice c h.c.den.mag.length f]:List Value)++(vecG (Value.int .i64) 8 n),[],z,⟨[.bool h.c.num.neg,.slice g h.c.num.mag.length d,.bool h.c.den.neg,.slice c h.c.den.mag.length f],vecG (Value.int .i64) 8 n,z,⟨(v58' h.c.num g d),(v58' h.c.den c f),z,⟨[.bool h.c.num.neg],[.slice g h.c.num.mag.length d],z,z,⟨_,z,K⟩⟩,⟨[.bool h.c.den.neg],[.slice c h.c.den.mag.length f],z,z,⟨_,z,L⟩⟩⟩,z⟩,z⟩ (key:=999) z (by rw[ac]; rfl) (fun p3 aK O ax=>?_)
      obtain⟨aD,an,hr⟩:=hr
      refine M' z z (s' E57 z) (eC' an) z (⟨(P.mono (mt C O)),ax⟩) (fun aI aw W R=>?_)
      obtain⟨aq,ah,rfl,ak⟩:=R
      refine sg z z<|u'<|am'<|D'<|e'<|w'<|mv z z<|yy (N' z z) z<|sg z z<|u'<|P' ⟨aD,aq,ah,IntKind.i64.wrap (E+1),aw⟩ hr ⟨(mt (mt (mt o C) O) W),ak⟩ (fc z (fc z (fc z (fc z fn)))) (wk (lc z ln))
    ·refine ad'<|n'<|n'<|J'<|ae' ⟨k,l,m,p⟩ ⟨o,P,hr⟩ (fc z fn) (wk ln)
  ·rintro⟨q,t,A,H⟩ ⟨aF,aa,hr⟩
   refine e'<|sr<|mv z z<|sg z z<|sg z z<|nx<|j' ?_
   obtain rfl:_=r:=hr
   exact aE' z z z ⟨_,_,z,aa⟩
theorem dp'{l1 perm1 l1p l1c r}(hr:(Za5 l1 perm1).Ret r):Ctr Tryz.prog 38 #[.slice l1p l1.length l1c,.agg (vecG (Value.int .i64) 8 perm1).toArray] (fun G=>sl a' G l1p l1c l1) (fun G v=>∃ zp zc,v = .slice zp r.length zc∧sl a' G zp zc r):=by
 refine C' (args:=[_,_]) (N:=37) Tryz.func38 z z z (fun w0 G0 V af=>?_)
 have M:=af
 refine sr<|W' 3 z z z fun b1=>sg z z<|nr<|aU' (e:=68) (r:=a') (vs:=#[]) (cs:=[]) ([]:List Za) z z z z z (by decide) (fun _=>by kernel_rfl) (z) (key:=999) z (by rw[V]; rfl) fun p1 Z B aA=>sg z z<|nx<|h'<|sr<|sg z z<|nx<|aa' (fun (⟨p,x,y,t,H⟩:(List Za)×Option Addr×Nat×Option Ow×Mem)=>[(5,.slice x p.length y)]) (fun ⟨p,x,y,t,H⟩=>Mem.le Z H∧sl a' H x y p∧Tok 2 68 (.slice x p.length y) p.length t∧(ZdX p).Ret r) (fun ⟨p,x,y,t,H⟩=>St w0 G0 H [(1005,t)]) ?_ ?_
 ·refine B' ?_
  let X:(List Za)→Prop:=fun oo=>((fun ov=>match ov with|p=>ZdX p:(List Za)→Comp (List Za)) oo).wp (fun a=>a=r)
  replace hr:(Comp.loop _ _).wp X:=hr
  refine ab' (Φ:=X) (fun (⟨m,n,o,l,O,E⟩:(List Za)×Option Addr×Nat×Option Ow×Int×Mem)=>((m,O):(List Za)×Int)) (fun ⟨m,n,o,l,O,E⟩=>[(0,.slice l1p l1.length l1c),(3,.pointer (some ⟨b1,0,none⟩)),(5,.slice n m.length o),(6,i' O)]) (fun ⟨m,n,o,l,O,E⟩=>Mem.le Z E∧sl a' E n o m∧Tok 2 68 (.slice n m.length o) m.length l) (fun ⟨m,n,o,l,O,E⟩=>St w0 G0 E [(3,some ⟨b1,.cells (vecG (Value.int .i64) 8 perm1).toArray 83 (0,0),0⟩),(1005,l)]) ⟨[],p1,0,none,0,Z⟩ hr (fc z (fc z (fc z (fc z fn)))) ⟨mr,aA,ec'⟩ (wk (lc z (lw ln))) ?_
  ·intro aO gx hx hr
   obtain⟨m,n,o,l,O,E⟩:=gx
   obtain⟨s,Q,K⟩:=hx
   refine h'<|sr<|mv z z<|mv z z<|yy (L' q' (M.mono (mt B s)) z) z<|yy (V' z z) z<|nx<|I' hr z (fun az hr=>?_) (fun az hr=>?_)
   ·refine o'<|e'<|h'<|B'<|h'<|Y' [false,false,false,false,false,false,false,false,false,true] mix (by kernel_rfl) fun hb=>cn (fun _ j=>f' z)<|cn (fun _ j=>f' z) ?_
    obtain⟨x1,ae,hr⟩:=hr
    refine cn (fun _ j=>Q' q' aP' ((M.mono (mt B s)).mono j) z z ae)<|cn (fun _ j=>bs' z) ?_
    obtain⟨p2,aP,al,aw⟩:=ca' (E' (aK' (aF' (Z' M ae))) (mt B s))
    refine cn (fun _ j=>U' bQ' z (j _ _ _ al))<|cn (fun _ j=>t' 3 ag83 z z (O' _ _ _)) ?_
    obtain⟨f,aj,hr⟩:=hr
    refine aD' (post:=fun G v=>∃ g i,v = .tuple #[.slice g f.1.length i,i' f.2]∧sl r' G g i f.1) (fun _=>z) (fun _ _=>s' E77 z) (gn' aj) z (fun R j=>(aw.mono j)) (fun v G1 G2 j h=>?_) ?_
    ·obtain⟨g,i,rfl,C⟩:=h
     exact⟨_,_,z,C.mono j⟩
    refine bj' (φ:=fun G v=>∃ A k,v = .tuple #[.slice A f.1.length k,i' f.2]∧sl r' G A k f.1) (fun _=>z) (fun v G1 G2 j h=>?_) (fun u R j Y=>?_) ?_
    ·obtain⟨A,k,rfl,L⟩:=h
     exact⟨_,_,z,L.mono j⟩
    ·obtain⟨⟨g,i,ab,C⟩,_⟩:=(show (fun G v=>∃ g i,v = .tuple #[.slice g f.1.length i,i' f.2]∧sl r' G g i f.1) R.m (u 23)∧True from Y)
     simp only[undFr,ab]
     exact⟨_,f' z,g,i,z,C⟩
    refine bj' (φ:=fun G v=>∃ D q,v = .slice D f.1.length q∧sl r' G D q f.1) (fun _=>z) (fun v G1 G2 j h=>?_) (fun u R j Y=>?_) ?_
    ·obtain⟨D,q,rfl,W⟩:=h
     exact⟨_,_,z,W.mono j⟩
    ·obtain⟨⟨A,k,I,L⟩,_,_⟩:=(show (fun G v=>∃ A k,v = .tuple #[.slice A f.1.length k,i' f.2]∧sl r' G A k f.1) R.m (u 16)∧True∧True from Y)
     simp only[undFr,I]
     exact⟨_,K' z z,A,k,z,L⟩
    refine bT' (c:=i' f.2) (fun _=>z) (fun u R j Y=>?_) ?_
    ·obtain⟨_,⟨A,k,I,L⟩,_,_⟩:=(show True∧(fun G v=>∃ A k,v = .tuple #[.slice A f.1.length k,i' f.2]∧sl r' G A k f.1) R.m (u 16)∧True∧True from Y)
     simp only[undFr,I]
     exact K' z z
    refine Chain.tailU3 (d:=24) (post:=fun G v=>∃ D q,v = .slice D f.1.length q∧sl r' G D q f.1) (d':=16) (post':=fun G v=>∃ A k,v = .tuple #[.slice A f.1.length k,i' f.2]∧sl r' G A k f.1) (d'':=23) (post'':=fun G v=>∃ g i,v = .tuple #[.slice g f.1.length i,i' f.2]∧sl r' G g i f.1) (fun aE aI aK aM F S U T=>?_)
    obtain⟨D,q,rfl,W⟩:=S
    obtain⟨A,k,rfl,L⟩:=U
    obtain⟨g,i,rfl,C⟩:=T
    refine sg z z<|sg z z<|u'<|am'<|e'<|w'<|mv z z<|mv z z<|mv z z ?_
    obtain⟨J,ad,hr⟩:=hr
    refine yy (Q' q' aP' (M.mono (mt (mt B s) F)) z z ad) z<|yy (bb' z) z<|yy (U' sc3 z (aC' (E' (be' (aF' (Z' M ad))) (mt (mt B s) F)))) z<|mv z z<|yy (aq' (vs:=#[(0,i' J.id),(1,.slice D f.1.length q)]) (v:=.agg ([i' J.id,.slice D f.1.length q]).toArray) z z (fun _=>by kernel_rfl)) z<|aU' (e:=68) (r:=a') (vs:=#[(0,.agg ([i' J.id,.slice D f.1.length q]).toArray)]) (cs:=[i' J.id,.slice D f.1.length q]++([])) ([(Za.mk J.id f.1)]:List Za) z z z z z (by decide) (fun _=>by kernel_rfl) ⟨[i' J.id,.slice D f.1.length q],[],z,⟨[i' J.id],[.slice D f.1.length q],z,z,⟨_,z,W⟩⟩,z⟩ (key:=999) z (by rw[V]; rfl) (fun p5 aN P ak=>?_)
    obtain⟨ai,hr⟩:=hr
    refine cA' (r:=a') 1005 z z q' el68 z (by decide) z z (Q.mono (mt F P)) z (by rw[V]; rfl) K ak ai fun p6 ax ag ap aa ar ah=>sg z z<|u'<|D'<|e'<|w'<|mv z z<|yy (N' z z) z<|sg z z<|u'<|P' ⟨(m++[(Za.mk J.id f.1)]),p6,ax,ag,IntKind.i64.wrap (O+1),ap⟩ hr ⟨(mt (mt (mt s F) P) aa),ar,ah⟩ (fc z (fc z (fc z (fc z fn)))) (wk (lc z (lc z ln)))
   ·refine ad'<|n'<|n'<|J'<|ae' ⟨m,n,o,l,E⟩ ⟨s,Q,K,hr⟩ (fc z fn) (wk (lc z ln))
 ·rintro⟨p,x,y,t,H⟩ ⟨aC,ac,aB,hr⟩
  refine e'<|sr<|mv z z<|sg z z<|nx<|j' ?_
  obtain rfl:_=r:=hr
  exact k' z z ⟨_,_,z,ac⟩
theorem dS'{l1 x1 l1p l1c x1pp x1pc r}(hr:(Zb7 l1 x1).Ret r):Ctr Tryz.prog 78 #[.slice l1p l1.length l1c,.agg ((v68' x1.id x1pp x1.p x1pc)).toArray] (fun G=>sl a' G l1p l1c l1∧sl r' G x1pp x1pc x1.p) (fun G v=>∃ zp zc,v = .slice zp r.length zc∧sl a' G zp zc r):=by
 refine C' (args:=[_,_]) (N:=53) Tryz.func78 z z z (fun w0 G0 D ak=>?_)
 obtain⟨F,U⟩:=ak
 refine sr<|W' 3 z z z fun T=>sg z z<|nr<|aU' (e:=68) (r:=a') (vs:=#[]) (cs:=[]) ([]:List Za) z z z z z (by decide) (fun _=>by kernel_rfl) (z) (key:=999) z (by rw[D]; rfl) fun p1 V k aL=>sg z z<|nr<|sg z z<|nx<|h'<|sr<|sg z z<|nx<|aa' (fun (⟨l,y,A,t,o,J⟩:(List Za)×Option Addr×Nat×Option Ow×Bool×Mem)=>[(3,.pointer (some ⟨T,0,none⟩)),(5,.slice y l.length A),(6,.bool o)]) (fun ⟨l,y,A,t,o,J⟩=>Mem.le V J∧sl a' J y A l∧Tok 2 68 (.slice y l.length A) l.length t∧(Zfn x1 l o).Ret r) (fun ⟨l,y,A,t,o,J⟩=>St w0 G0 J [(3,some ⟨T,.cells ((v68' x1.id x1pp x1.p x1pc)).toArray 68 (0,0),0⟩),(1005,t)]) ?_ ?_
 ·refine B' ?_
  let O:(((List Za)×Bool))→Prop:=fun oo=>((fun ov=>match ov with|(l,o)=>Zfn x1 l o:(((List Za)×Bool))→Comp (List Za)) oo).wp (fun a=>a=r)
  replace hr:(Comp.loop _ _).wp O:=hr
  refine ab' (Φ:=O) (fun (⟨g,h,i,d,j,I,u⟩:(List Za)×Option Addr×Nat×Option Ow×Bool×Int×Mem)=>((g,j,I):(List Za)×Bool×Int)) (fun ⟨g,h,i,d,j,I,u⟩=>[(0,.slice l1p l1.length l1c),(3,.pointer (some ⟨T,0,none⟩)),(5,.slice h g.length i),(6,.bool j),(7,i' I)]) (fun ⟨g,h,i,d,j,I,u⟩=>Mem.le V u∧sl a' u h i g∧Tok 2 68 (.slice h g.length i) g.length d) (fun ⟨g,h,i,d,j,I,u⟩=>St w0 G0 u [(3,some ⟨T,.cells ((v68' x1.id x1pp x1.p x1pc)).toArray 68 (0,0),0⟩),(1005,d)]) ⟨[],p1,0,none,false,0,V⟩ hr (fc z (fc z (fc z (fc z (fc z fn))))) ⟨mr,aL,ec'⟩ (wk (lc z (lw ln))) ?_
  ·intro aG gx hx hr
   obtain⟨g,h,i,d,j,I,u⟩:=gx
   obtain⟨f,C,B⟩:=hx
   refine h'<|sr<|mv z z<|mv z z<|yy (L' q' (F.mono (mt k f)) z) z<|yy (V' z z) z<|nx<|I' hr z (fun aA hr=>?_) (fun aA hr=>?_)
   ·refine o'<|e'<|h'<|B'<|aV' (fun (⟨m,q,p,n,s,E⟩:(List Za)×Option Addr×Nat×Option Ow×Bool×Mem)=>[(0,.slice l1p l1.length l1c),(3,.pointer (some ⟨T,0,none⟩)),(5,.slice q m.length p),(6,.bool s),(7,i' I)]) (fun ⟨m,q,p,n,s,E⟩=>Mem.le u E∧sl a' E q p m∧Tok 2 68 (.slice q m.length p) m.length n∧(Zdx l1 x1 I m s).wp (Out aG O)) (fun ⟨m,q,p,n,s,E⟩=>St w0 G0 E [(3,some ⟨T,.cells ((v68' x1.id x1pp x1.p x1pc)).toArray 68 (0,0),0⟩),(1005,n)]) ?_ ?_
    ·skip
     refine h'<|Y' [false,false,false,false,false,false,false,false,false,false] mix (by kernel_rfl) fun Y=>bY' hr z (fun _ c=>cI' (f' z) (congrArg Value.bool (bdec _))) (fun aw hr=>?_) (fun aw hr=>?_)
     ·refine cn (fun _ c=>ao' z)<|cn (fun _ c=>f' z)<|ct z z<|ct z z<|ct z z<|ct z z<|ct z z<|ct z z<|ct z z<|X' Y<|sk z z z<|yy (l' z z) z<|u'<|am'<|e'<|bg' z<|o'<|ap' ⟨g,h,i,d,j,u⟩ ⟨mr,C,B,hr⟩ (fc z (fc z (fc z (fc z (fc z fn))))) (wk (lc z (lc z ln)))
     ·refine cn (fun _ c=>ao' z)<|cn (fun _ c=>f' z)<|cy z z (fun _ c=>f' z)<|cy z z (fun _ c=>f' z) ?_
      obtain⟨x4,ac,hr⟩:=hr
      refine cy z z (fun _ c=>Q' q' aP' ((F.mono (mt k f)).mono c) z z ac)<|cy z z (fun _ c=>bb' z)<|cy z z (fun _ c=>U' sc3 z (aC' (E' (E' (be' (aF' (Z' F ac))) (mt k f)) c)))<|cy z z (fun _ c=>bb' z)<|cy z z (fun _ c=>b' 3 sc3 z z z)<|X' Y<|gy z z (bc' z z) z<|yy (m' z z) z<|u'<|am'<|e'<|I' hr z (fun aJ hr=>?_) (fun aJ hr=>?_)
      ·refine sr<|mv z z<|yy (t' 3 bI' z z z) z<|aU' (e:=68) (r:=a') (vs:=#[(0,.agg ((v68' x1.id x1pp x1.p x1pc)).toArray)]) (cs:=(v68' x1.id x1pp x1.p x1pc)++([])) ([x1]:List Za) z z z z z (by decide) (fun _=>by kernel_rfl) ⟨(v68' x1.id x1pp x1.p x1pc),[],z,⟨[i' x1.id],[.slice x1pp x1.p.length x1pc],z,z,⟨_,z,(U.mono (mt k f))⟩⟩,z⟩ (key:=999) z (by rw[D]; rfl) (fun p6 a0 P ay=>?_)
       obtain⟨ai,hr⟩:=hr
       refine cA' (r:=a') 1005 z z q' el68 z (by decide) z z (C.mono P) z (by rw[D]; rfl) B ay ai fun p7 av ap aH Z ar am=>sg z z<|nx<|w'<|sg z z<|u'<|ap' ⟨(g++[x1]),p7,av,ap,true,aH⟩ ⟨(mt P Z),ar,am,hr⟩ (fc z (fc z (fc z (fc z (fc z fn))))) (wk (lc z (lc z ln)))
      ·refine o'<|ap' ⟨g,h,i,d,j,u⟩ ⟨mr,C,B,hr⟩ (fc z (fc z (fc z (fc z (fc z fn))))) (wk (lc z (lc z ln)))
    ·rintro⟨m,q,p,n,s,E⟩ ⟨x,S,M,hr⟩
     refine h'<|Y' [false,false,false,false,false,false,false] mix (by kernel_rfl) fun Y=>cn (fun _ c=>f' z)<|cn (fun _ c=>f' z) ?_
     obtain⟨x2,ad,hr⟩:=hr
     refine cn (fun _ c=>Q' q' aP' ((F.mono (mt (mt k f) x)).mono c) z z ad)<|cn (fun _ c=>bb' z)<|cn (fun _ c=>U' sc3 z (aC' (E' (E' (be' (aF' (Z' F ad))) (mt (mt k f) x)) c)))<|cn (fun _ c=>bb' z)<|cn (fun _ c=>b' 3 sc3 z z z)<|X' Y<|yy (aR' z z) z<|u'<|am'<|e'<|I' hr z (fun aI hr=>?_) (fun aI hr=>?_)
     ·refine w'<|mv z z<|mv z z<|mv z z ?_
      obtain⟨H,ae,hr⟩:=hr
      refine yy (Q' q' aP' (F.mono (mt (mt k f) x)) z z ae) z ?_
      obtain⟨K,L,au,an⟩:=ba' (E' (Z' F ae) (mt (mt k f) x))
      refine yy (aw' _ bI' z z au) z<|aU' (e:=68) (r:=a') (vs:=#[(0,.agg ((v68' H.id K H.p L)).toArray)]) (cs:=(v68' H.id K H.p L)++([])) ([H]:List Za) z z z z z (by decide) (fun _=>by kernel_rfl) ⟨(v68' H.id K H.p L),[],z,⟨[i' H.id],[.slice K H.p.length L],z,z,⟨_,z,an⟩⟩,z⟩ (key:=999) z (by rw[D]; rfl) (fun p4 aY Q aB=>?_)
      obtain⟨ag,hr⟩:=hr
      refine cA' (r:=a') 1005 z z q' el68 z (by decide) z z (S.mono Q) z (by rw[D]; rfl) M aB ag fun p5 ax af aF aa aq aj=>sg z z<|u'<|D'<|e'<|w'<|mv z z<|yy (N' z z) z<|sg z z<|u'<|P' ⟨(m++[H]),p5,ax,af,s,IntKind.i64.wrap (I+1),aF⟩ hr ⟨(mt (mt (mt f x) Q) aa),aq,aj⟩ (fc z (fc z (fc z (fc z (fc z fn))))) (wk (lc z (lc z ln)))
     ·refine o'<|D'<|e'<|w'<|mv z z<|yy (N' z z) z<|sg z z<|u'<|P' ⟨m,q,p,n,s,IntKind.i64.wrap (I+1),E⟩ hr ⟨(mt f x),S,M⟩ (fc z (fc z (fc z (fc z (fc z fn))))) (wk (lc z (lc z ln)))
   ·refine ad'<|n'<|n'<|J'<|ae' ⟨g,h,i,d,j,u⟩ ⟨f,C,B,hr⟩ (fc z (fc z (fc z fn))) (wk (lc z (lc z ln)))
 ·rintro⟨l,y,A,t,o,J⟩ ⟨X,R,W,hr⟩
  refine e'<|h'<|sr<|mv z z<|yy (ao' z) z<|nx<|aN' hr z (fun aK hr=>?_) (fun aK hr=>?_)
  ·refine w'<|mv z z<|yy (t' 3 bI' z z z) z<|aU' (e:=68) (r:=a') (vs:=#[(0,.agg ((v68' x1.id x1pp x1.p x1pc)).toArray)]) (cs:=(v68' x1.id x1pp x1.p x1pc)++([])) ([x1]:List Za) z z z z z (by decide) (fun _=>by kernel_rfl) ⟨(v68' x1.id x1pp x1.p x1pc),[],z,⟨[i' x1.id],[.slice x1pp x1.p.length x1pc],z,z,⟨_,z,(U.mono (mt k X))⟩⟩,z⟩ (key:=999) z (by rw[D]; rfl) (fun p2 aX ab aE=>?_)
   obtain⟨ao,hr⟩:=hr
   refine cA' (r:=a') 1005 z z q' el68 z (by decide) z z (R.mono ab) z (by rw[D]; rfl) W aE ao fun p3 aW aR aZ aM az aT=>sg z z<|nr<|mv z z<|sg z z<|nx<|j' ?_
   obtain rfl:_=r:=hr
   exact k' z z ⟨_,_,z,az⟩
  ·refine o'<|e'<|sr<|mv z z<|sg z z<|nx<|j' ?_
   obtain rfl:_=r:=hr
   exact k' z z ⟨_,_,z,R⟩
theorem eA'{l1 id1 l1p l1c r}(hr:(ZcN l1 id1).Ret r):Ctr Tryz.prog 79 #[.slice l1p l1.length l1c,i' id1] (fun G=>sl a' G l1p l1c l1) (fun G v=>∃ T V,v = .slice T r.length V∧sl a' G T V r):=by
 refine C' (args:=[_,_]) (N:=29) Tryz.func79 z z z (fun U Y D M=>?_)
 have y:=M
 refine sr<|sg z z<|nr<|aU' (e:=68) (r:=a') (vs:=#[]) (cs:=[]) ([]:List Za) z z z z z (by decide) (fun _=>by kernel_rfl) (z) (key:=999) z (by rw[D]; rfl) fun p1 B m aa=>sg z z<|nx<|h'<|sr<|sg z z<|nx<|aa' (fun (⟨i,l,k,j,q⟩:(List Za)×Option Addr×Nat×Option Ow×Mem)=>[(5,.slice l i.length k)]) (fun ⟨i,l,k,j,q⟩=>Mem.le B q∧sl a' q l k i∧Tok 2 68 (.slice l i.length k) i.length j∧(ZeL i).Ret r) (fun ⟨i,l,k,j,q⟩=>St U Y q [(1005,j)]) ?_ ?_
 ·refine B' ?_
  let C:(List Za)→Prop:=fun oo=>((fun ov=>match ov with|i=>ZeL i:(List Za)→Comp (List Za)) oo).wp (fun a=>a=r)
  replace hr:(Comp.loop _ _).wp C:=hr
  refine ab' (Φ:=C) (fun (⟨d,g,f,c,x,n⟩:(List Za)×Option Addr×Nat×Option Ow×Int×Mem)=>((d,x):(List Za)×Int)) (fun ⟨d,g,f,c,x,n⟩=>[(0,.slice l1p l1.length l1c),(1,i' id1),(5,.slice g d.length f),(6,i' x)]) (fun ⟨d,g,f,c,x,n⟩=>Mem.le B n∧sl a' n g f d∧Tok 2 68 (.slice g d.length f) d.length c) (fun ⟨d,g,f,c,x,n⟩=>St U Y n [(1005,c)]) ⟨[],p1,0,none,0,B⟩ hr (fc z (fc z (fc z (fc z fn)))) ⟨mr,aa,ec'⟩ (wk (lw ln)) ?_
  ·intro ak gx hx hr
   obtain⟨d,g,f,c,x,n⟩:=gx
   obtain⟨h,u,o⟩:=hx
   refine h'<|sr<|mv z z<|mv z z<|yy (L' q' (y.mono (mt m h)) z) z<|yy (V' z z) z<|nx<|I' hr z (fun W hr=>?_) (fun W hr=>?_)
   ·refine o'<|e'<|h'<|B'<|sr<|mv z z<|mv z z ?_
    obtain⟨x1,I,hr⟩:=hr
    refine yy (Q' q' aP' (y.mono (mt m h)) z z I) z<|yy (bb' z) z<|yy (U' sc3 z (aC' (E' (be' (aF' (Z' y I))) (mt m h)))) z<|mv z z<|yy (aR' z z) z<|nx<|I' hr z (fun R hr=>?_) (fun R hr=>?_)
    ·refine w'<|mv z z<|mv z z<|mv z z ?_
     obtain⟨p,H,hr⟩:=hr
     refine yy (Q' q' aP' (y.mono (mt m h)) z z H) z ?_
     obtain⟨s,t,S,J⟩:=ba' (E' (Z' y H) (mt m h))
     refine yy (aw' _ bI' z z S) z<|aU' (e:=68) (r:=a') (vs:=#[(0,.agg ((v68' p.id s p.p t)).toArray)]) (cs:=(v68' p.id s p.p t)++([])) ([p]:List Za) z z z z z (by decide) (fun _=>by kernel_rfl) ⟨(v68' p.id s p.p t),[],z,⟨[i' p.id],[.slice s p.p.length t],z,z,⟨_,z,J⟩⟩,z⟩ (key:=999) z (by rw[D]; rfl) (fun p2 aj A X=>?_)
     obtain⟨K,hr⟩:=hr
     refine cA' (r:=a') 1005 z z q' el68 z (by decide) z z (u.mono A) z (by rw[D]; rfl) o X K fun p3 P L Z E Q O=>sg z z<|u'<|D'<|e'<|w'<|mv z z<|yy (N' z z) z<|sg z z<|u'<|P' ⟨(d++[p]),p3,P,L,IntKind.i64.wrap (x+1),Z⟩ hr ⟨(mt (mt h A) E),Q,O⟩ (fc z (fc z (fc z (fc z fn)))) (wk (lc z ln))
    ·refine o'<|D'<|e'<|w'<|mv z z<|yy (N' z z) z<|sg z z<|u'<|P' ⟨d,g,f,c,IntKind.i64.wrap (x+1),n⟩ hr ⟨h,u,o⟩ (fc z (fc z (fc z (fc z fn)))) (wk (lc z ln))
   ·refine ad'<|n'<|n'<|J'<|ae' ⟨d,g,f,c,n⟩ ⟨h,u,o,hr⟩ (fc z fn) (wk (lc z ln))
 ·rintro⟨i,l,k,j,q⟩ ⟨ac,F,ab,hr⟩
  refine e'<|sr<|mv z z<|sg z z<|nx<|j' ?_
  obtain rfl:_=r:=hr
  exact k' z z ⟨_,_,z,F⟩
theorem fS'{a0_1 a1_1 a0_1varsp a0_1varsc a0_1eqsp a0_1eqsc a0_1neqsp a0_1neqsc a1_1pp a1_1pc r}(hr:(ZfG a0_1 a1_1).Ret r):Ctr Tryz.prog 40 #[.agg ((v33' a0_1 a0_1varsp a0_1varsc a0_1eqsp a0_1eqsc a0_1neqsp a0_1neqsc)).toArray,.agg ([i' a1_1.kind,.string a1_1.name,i' a1_1.at',i' a1_1.to',i' a1_1.id,.slice a1_1pp a1_1.p.length a1_1pc,.bool a1_1.neq]).toArray] (fun G=>sl Rp.str G a0_1varsp a0_1varsc a0_1.vars∧sl a' G a0_1eqsp a0_1eqsc a0_1.eqs∧sl a' G a0_1neqsp a0_1neqsc a0_1.neqs∧sl r' G a1_1pp a1_1pc a1_1.p) (fun G v=>∃ x s Q J u y,v = .agg ((v33' r x s Q J u y)).toArray∧sl Rp.str G x s r.vars∧sl a' G Q J r.eqs∧sl a' G u y r.neqs):=by
 refine C' (args:=[_,_]) (N:=117) Tryz.func40 z z z (fun w0 G0 bD aI=>?_)
 obtain⟨f,d,c,o⟩:=aI
 refine sr<|W' 2 z z z fun b1=>W' 3 z z z fun b2=>T' 4 z z33 z fun b3=>nr<|yy (t' 2 ai' z z z) z<|T' 5 z z33 z fun b4=>v' 5 z aZ' z z z z z (List.all_eq_true.1 z)<|nr<|yy (aJ' z) z<|yy (b' 3 sc3 z z z) z<|yy (cD' z) z<|yy (b' 3 bQ' z z z) z<|yy (aq' (vs:=#[(0,i' a1_1.id),(1,.slice a1_1pp a1_1.p.length a1_1pc)]) (v:=.agg ((v68' a1_1.id a1_1pp a1_1.p a1_1pc)).toArray) z z (fun _=>by kernel_rfl)) z<|T' 6 z z68 z fun b5=>v' 6 z aP' z z z z z (List.all_eq_true.1 z)<|nx<|h'<|Y' [false,false,false,false,false,false,false,false,false] mix (by kernel_rfl) fun hb=>cn (fun _ e=>ax' z)<|cn (fun _ e=>b' 2 aS' z z z)<|cn (fun _ e=>aJ' z)<|cn (fun _ e=>b' 3 sc3 z z z) ?_
 obtain⟨bF,aZ,hr⟩:=hr
 refine bB' z (fun _=>s' E43 z) (dl' aZ) z (fun G' e=>(d.mono e))<|cn (fun _ e=>aL' z)<|cn (fun _ e=>b' 2 aS' z z z)<|cn (fun _ e=>aJ' z)<|cn (fun _ e=>b' 3 sc3 z z z)<|X' hb ?_
 obtain⟨bM,aL,hr⟩:=hr
 refine F' z z (s' E43 z) (dl' aL) z (c)<|sg z z<|sg z z<|u'<|am'<|e'<|h'<|sr<|yy (bN' z) z<|yy (b' 3 sc3 z z z) z<|nx<|B'<|sr<|yy (ak' z z) z<|sg z z<|nx<|I' hr z (fun bi hr=>?_) (fun bi hr=>?_)
 ·refine aV' (fun (⟨k,m,n,p⟩:Za×Option Addr×Nat×Mem)=>[(2,.pointer (some ⟨b1,0,none⟩)),(3,.pointer (some ⟨b2,0,none⟩)),(4,.pointer (some ⟨b3,0,none⟩)),(5,.pointer (some ⟨b4,0,none⟩)),(6,.pointer (some ⟨b5,0,none⟩))]) (fun ⟨k,m,n,p⟩=>Mem.le G0 p∧sl r' p m n k.p∧(Zaz a0_1 a1_1 k).Ret r) (fun ⟨k,m,n,p⟩=>St w0 G0 p [(2,some ⟨b1,.cells ((v33' a0_1 a0_1varsp a0_1varsc a0_1eqsp a0_1eqsc a0_1neqsp a0_1neqsc)).toArray 33 (0,0),0⟩),(3,some ⟨b2,.cells ([i' a1_1.kind,.string a1_1.name,i' a1_1.at',i' a1_1.to',i' a1_1.id,.slice a1_1pp a1_1.p.length a1_1pc,.bool a1_1.neq]).toArray 40 (0,0),0⟩),(4,some ⟨b3,.cells ([.slice none 0 0,.slice none 0 0,.slice none 0 0,i' 0]).toArray 33 (0,0),0⟩),(5,some ⟨b4,.cells ((v33' a0_1 a0_1varsp a0_1varsc a0_1eqsp a0_1eqsc a0_1neqsp a0_1neqsc)).toArray 33 (0,0),0⟩),(6,some ⟨b5,.cells ((v68' k.id m k.p n)).toArray 68 (0,0),0⟩)]) ?_ ?_
  ·skip
   refine sr<|yy (aJ' z) z<|yy (b' 3 sc3 z z z) z<|yy (ak' z z) z<|nx<|I' hr z (fun bd hr=>?_) (fun bd hr=>?_)
   ·refine w'<|yy (bf' z) z<|yy (b' 2 sc3 z z z) z<|yy (bb' z) z<|au' 6 ([i' a0_1.next,.slice a1_1pp a1_1.p.length a1_1pc]).toArray z sz3 z z z (show 0<2 by decide) z z<|u'<|ap' ⟨(Za.mk a0_1.next a1_1.p),a1_1pp,a1_1pc,G0⟩ ⟨mr,o,hr⟩ (fc z (fc z (fc z (fc z (fc z fn))))) (wk (lc z (lc z (lc z (lc z (lc z ln))))))
   ·refine o'<|ap' ⟨(Za.mk a1_1.id a1_1.p),a1_1pp,a1_1pc,G0⟩ ⟨mr,o,hr⟩ (fc z (fc z (fc z (fc z (fc z fn))))) (wk (lc z (lc z (lc z (lc z (lc z ln))))))
  ·rintro⟨k,m,n,p⟩ ⟨l,O,hr⟩
   refine sr<|yy (bf' z) z<|yy (b' 2 sc3 z z z) z<|yy (bb' z) z<|yy (b' 6 sc3 z z z) z<|yy (N' z z) z<|yy (Y0.max2 z z) z<|yy (bf' z) z<|au' 5 ([.slice a0_1varsp a0_1.vars.length a0_1varsc,.slice a0_1eqsp a0_1.eqs.length a0_1eqsc,.slice a0_1neqsp a0_1.neqs.length a0_1neqsc,i' (if a0_1.next<(IntKind.i64.wrap (k.id+1)) then (IntKind.i64.wrap (k.id+1)) else a0_1.next)]).toArray z sz3 z z z (show 3<4 by decide) z z<|nr<|yy (cY' z) z<|yy (b' 3 sc4 z z z) z<|nx<|aN' hr z (fun a6 hr=>?_) (fun a6 hr=>?_)
   ·refine w'<|yy (aL' z) z<|yy (b' 2 aS' z z z) z<|yy (t' 6 bI' z z z) z ?_
    obtain⟨bb,aJ,hr⟩:=hr
    refine M' z z (s' E78 z) (dS' aJ) z (⟨(c.mono l),O⟩) (fun bq bC R T=>?_)
    obtain⟨aQ,aV,rfl,az⟩:=T
    refine yy (aL' z) z<|au' 5 ([.slice a0_1varsp a0_1.vars.length a0_1varsc,.slice a0_1eqsp a0_1.eqs.length a0_1eqsc,.slice aQ bb.length aV,i' (if a0_1.next<(IntKind.i64.wrap (k.id+1)) then (IntKind.i64.wrap (k.id+1)) else a0_1.next)]).toArray z cr' z z z (show 2<4 by decide) z z<|u'<|D'<|e'<|sr<|yy (t' 5 ai' z z z) z<|v' 4 z aZ' z z z z z (List.all_eq_true.1 z)<|nx<|j' ?_
    obtain rfl:_=r:=hr
    exact k' z (ac' (i:=4) ai' z z z) ⟨_,_,_,_,_,_,z,(f.mono (mt l R)),(d.mono (mt l R)),az⟩
   ·refine w'<|yy (ax' z) z<|yy (b' 2 aS' z z z) z<|yy (t' 6 bI' z z z) z ?_
    obtain⟨a8,av,hr⟩:=hr
    refine M' z z (s' E78 z) (dS' av) z (⟨(d.mono l),O⟩) (fun br bH I Y=>?_)
    obtain⟨aS,aU,rfl,ay⟩:=Y
    refine yy (ax' z) z<|au' 5 ([.slice a0_1varsp a0_1.vars.length a0_1varsc,.slice aS a8.length aU,.slice a0_1neqsp a0_1.neqs.length a0_1neqsc,i' (if a0_1.next<(IntKind.i64.wrap (k.id+1)) then (IntKind.i64.wrap (k.id+1)) else a0_1.next)]).toArray z cr' z z z (show 1<4 by decide) z z<|u'<|D'<|e'<|sr<|yy (t' 5 ai' z z z) z<|v' 4 z aZ' z z z z z (List.all_eq_true.1 z)<|nx<|j' ?_
    obtain rfl:_=r:=hr
    exact k' z (ac' (i:=4) ai' z z z) ⟨_,_,_,_,_,_,z,(f.mono (mt l I)),ay,(c.mono (mt l I))⟩
 ·refine sr<|yy (ak' z z) z<|sg z z<|nx<|I' hr z (fun bh hr=>?_) (fun bh hr=>?_)
  ·refine sr<|yy (ax' z) z<|yy (b' 2 aS' z z z) z<|yy (aJ' z) z<|yy (b' 3 sc3 z z z) z ?_
   obtain⟨aq,aG,hr⟩:=hr
   refine M' z z (s' E79 z) (eA' aG) z (d) (fun bx bG H S=>?_)
   obtain⟨ac,Z,rfl,aF⟩:=S
   refine yy (ax' z) z<|au' 5 ([.slice a0_1varsp a0_1.vars.length a0_1varsc,.slice ac aq.length Z,.slice a0_1neqsp a0_1.neqs.length a0_1neqsc,i' a0_1.next]).toArray z cr' z z z (show 1<4 by decide) z z<|nx<|w'<|yy (aL' z) z<|yy (b' 2 aS' z z z) z<|yy (aJ' z) z<|yy (b' 3 sc3 z z z) z ?_
   obtain⟨a5,aC,hr⟩:=hr
   refine M' z z (s' E79 z) (eA' aC) z ((c.mono H)) (fun bv bI P X=>?_)
   obtain⟨aR,aY,rfl,ax⟩:=X
   refine yy (aL' z) z<|au' 5 ([.slice a0_1varsp a0_1.vars.length a0_1varsc,.slice ac aq.length Z,.slice aR a5.length aY,i' a0_1.next]).toArray z cr' z z z (show 2<4 by decide) z z<|u'<|D'<|e'<|sr<|yy (t' 5 ai' z z z) z<|v' 4 z aZ' z z z z z (List.all_eq_true.1 z)<|nx<|j' ?_
   obtain rfl:_=r:=hr
   exact k' z (ac' (i:=4) ai' z z z) ⟨_,_,_,_,_,_,z,(f.mono (mt H P)),(aF.mono P),ax⟩
  ·refine sr<|yy (ak' z z) z<|sg z z<|nx<|I' hr z (fun ba hr=>?_) (fun ba hr=>?_)
   ·refine sr<|mv z z<|yy (bc' z z) z<|nx<|I' hr z (fun a7 hr=>?_) (fun a7 hr=>?_)
    ·refine w'<|yy (ax' z) z<|yy (b' 2 aS' z z z) z<|yy (t' 6 bI' z z z) z ?_
     obtain⟨be,aK,hr⟩:=hr
     refine M' z z (s' E78 z) (dS' aK) z (⟨d,o⟩) (fun bs bL F V=>?_)
     obtain⟨aA,au,rfl,aB⟩:=V
     refine yy (ax' z) z<|au' 5 ([.slice a0_1varsp a0_1.vars.length a0_1varsc,.slice aA be.length au,.slice a0_1neqsp a0_1.neqs.length a0_1neqsc,i' a0_1.next]).toArray z cr' z z z (show 1<4 by decide) z z<|u'<|D'<|e'<|sr<|yy (t' 5 ai' z z z) z<|v' 4 z aZ' z z z z z (List.all_eq_true.1 z)<|nx<|j' ?_
     obtain rfl:_=r:=hr
     exact k' z (ac' (i:=4) ai' z z z) ⟨_,_,_,_,_,_,z,(f.mono F),aB,(c.mono F)⟩
    ·refine w'<|yy (aL' z) z<|yy (b' 2 aS' z z z) z<|yy (t' 6 bI' z z z) z ?_
     obtain⟨a9,aE,hr⟩:=hr
     refine M' z z (s' E78 z) (dS' aE) z (⟨c,o⟩) (fun bp bK K W=>?_)
     obtain⟨aH,aX,rfl,aP⟩:=W
     refine yy (aL' z) z<|au' 5 ([.slice a0_1varsp a0_1.vars.length a0_1varsc,.slice a0_1eqsp a0_1.eqs.length a0_1eqsc,.slice aH a9.length aX,i' a0_1.next]).toArray z cr' z z z (show 2<4 by decide) z z<|u'<|D'<|e'<|sr<|yy (t' 5 ai' z z z) z<|v' 4 z aZ' z z z z z (List.all_eq_true.1 z)<|nx<|j' ?_
     obtain rfl:_=r:=hr
     exact k' z (ac' (i:=4) ai' z z z) ⟨_,_,_,_,_,_,z,(f.mono K),(d.mono K),aP⟩
   ·refine sr<|yy (ak' z z) z<|sg z z<|nx<|I' hr z (fun bc hr=>?_) (fun bc hr=>?_)
    ·refine sr<|yy (ax' z) z<|yy (b' 2 aS' z z z) z<|yy (aJ' z) z<|yy (b' 3 sc3 z z z) z ?_
     obtain⟨ab,aO,hr⟩:=hr
     refine M' z z (s' E79 z) (eA' aO) z (d) (fun bn bE g U=>?_)
     obtain⟨B,D,rfl,aw⟩:=U
     refine yy (ax' z) z<|au' 5 ([.slice a0_1varsp a0_1.vars.length a0_1varsc,.slice B ab.length D,.slice a0_1neqsp a0_1.neqs.length a0_1neqsc,i' a0_1.next]).toArray z cr' z z z (show 1<4 by decide) z z<|nr<|yy (aL' z) z<|yy (b' 2 aS' z z z) z<|yy (aJ' z) z<|yy (b' 3 sc3 z z z) z ?_
     obtain⟨ad,an,hr⟩:=hr
     refine M' z z (s' E79 z) (eA' an) z ((c.mono g)) (fun bl bJ h A=>?_)
     obtain⟨L,M,rfl,ag⟩:=A
     refine yy (aL' z) z<|au' 5 ([.slice a0_1varsp a0_1.vars.length a0_1varsc,.slice B ab.length D,.slice L ad.length M,i' a0_1.next]).toArray z cr' z z z (show 2<4 by decide) z z<|nr<|mv z z<|yy (bc' z z) z<|nx<|I' hr z (fun a3 hr=>?_) (fun a3 hr=>?_)
     ·refine Y' [false,false,false,false,false,false,false] mix (by kernel_rfl) fun hb=>cn (fun _ e=>aL' z)<|cn (fun _ e=>b' 2 aS' z z z)<|cn (fun _ e=>ax' z)<|cn (fun _ e=>b' 2 aS' z z z)<|cn (fun _ e=>f' z) ?_
      obtain⟨x1,ar,hr⟩:=hr
      refine cn (fun _ e=>Q' q' aP' ((d.mono (mt g h)).mono e) z z ar) ?_
      obtain⟨bA,bB,a4,aT⟩:=ba' (E' (Z' d ar) (mt g h))
      refine cn (fun _ e=>aw' _ bI' z z (fun j v hv=>e _ _ _ (a4 j v hv)))<|X' hb ?_
      obtain⟨aN,al,hr⟩:=hr
      refine M' z z (s' E78 z) (dS' al) z (⟨(c.mono (mt g h)),aT⟩) (fun bm bu q C=>?_)
      obtain⟨ah,af,rfl,aj⟩:=C
      refine yy (aL' z) z<|au' 5 ([.slice a0_1varsp a0_1.vars.length a0_1varsc,.slice B ab.length D,.slice ah aN.length af,i' a0_1.next]).toArray z cr' z z z (show 2<4 by decide) z z<|u'<|am'<|D'<|e'<|sr<|yy (t' 5 ai' z z z) z<|v' 4 z aZ' z z z z z (List.all_eq_true.1 z)<|nx<|j' ?_
      obtain rfl:_=r:=hr
      exact k' z (ac' (i:=4) ai' z z z) ⟨_,_,_,_,_,_,z,(f.mono (mt (mt g h) q)),(aw.mono (mt h q)),aj⟩
     ·refine Y' [false,false,false,false,false,false,false] mix (by kernel_rfl) fun hb=>cn (fun _ e=>ax' z)<|cn (fun _ e=>b' 2 aS' z z z)<|cn (fun _ e=>aL' z)<|cn (fun _ e=>b' 2 aS' z z z)<|cn (fun _ e=>f' z) ?_
      obtain⟨x2,ap,hr⟩:=hr
      refine cn (fun _ e=>Q' q' aP' ((c.mono (mt g h)).mono e) z z ap) ?_
      obtain⟨bw,bo,a2,aW⟩:=ba' (E' (Z' c ap) (mt g h))
      refine cn (fun _ e=>aw' _ bI' z z (fun j v hv=>e _ _ _ (a2 j v hv)))<|X' hb ?_
      obtain⟨aM,ae,hr⟩:=hr
      refine M' z z (s' E78 z) (dS' ae) z (⟨(d.mono (mt g h)),aW⟩) (fun bk bz t E=>?_)
      obtain⟨ak,ao,rfl,am⟩:=E
      refine yy (ax' z) z<|au' 5 ([.slice a0_1varsp a0_1.vars.length a0_1varsc,.slice ak aM.length ao,.slice L ad.length M,i' a0_1.next]).toArray z cr' z z z (show 1<4 by decide) z z<|u'<|am'<|D'<|e'<|sr<|yy (t' 5 ai' z z z) z<|v' 4 z aZ' z z z z z (List.all_eq_true.1 z)<|nx<|j' ?_
      obtain rfl:_=r:=hr
      exact k' z (ac' (i:=4) ai' z z z) ⟨_,_,_,_,_,_,z,(f.mono (mt (mt g h) t)),am,(ag.mono t)⟩
    ·refine o'<|D'<|e'<|sr<|yy (t' 5 ai' z z z) z<|v' 4 z aZ' z z z z z (List.all_eq_true.1 z)<|nx<|j' ?_
     obtain rfl:_=r:=hr
     exact k' z (ac' (i:=4) ai' z z z) ⟨_,_,_,_,_,_,z,f,d,c⟩
theorem eh'{a0_1 a1_1 a0_1varsp a0_1varsc a0_1eqsp a0_1eqsc a0_1neqsp a0_1neqsc a1_1pp a1_1pc r}(hr:(Z8 a0_1 a1_1).Ret r):Ctr Tryz.prog 15 #[.agg ((v33' a0_1 a0_1varsp a0_1varsc a0_1eqsp a0_1eqsc a0_1neqsp a0_1neqsc)).toArray,.agg ([i' a1_1.kind,.string a1_1.name,i' a1_1.at',i' a1_1.to',i' a1_1.id,.slice a1_1pp a1_1.p.length a1_1pc,.bool a1_1.neq]).toArray] (fun G=>sl Rp.str G a0_1varsp a0_1varsc a0_1.vars∧sl a' G a0_1eqsp a0_1eqsc a0_1.eqs∧sl a' G a0_1neqsp a0_1neqsc a0_1.neqs∧sl r' G a1_1pp a1_1pc a1_1.p) (fun G v=>∃ k l p q n m,v = .tuple #[.agg ((v33' r.1 k l p q n m)).toArray,i' r.2]∧sl Rp.str G k l r.1.vars∧sl a' G p q r.1.eqs∧sl a' G n m r.1.neqs):=by
 refine C' (args:=[_,_]) (N:=157) Tryz.func15 z z z (fun w0 G0 S bc=>?_)
 obtain⟨d,g,f,A⟩:=bc
 refine sr<|W' 2 z z z fun b1=>W' 3 z z z fun b2=>T' 4 z z33 z fun b3=>sg z z<|nr<|yy (t' 2 ai' z z z) z<|yy (t' 3 bw' z z z) z ?_
 obtain⟨cQ,bv,hr⟩:=hr
 refine F' z z (s' E37 z) (fB' bv) z (⟨d,g,f,A⟩)<|sg z z<|nx<|h'<|sr<|mv z z<|yy (aR' z z) z<|nx<|I' hr z (fun b6 hr=>?_) (fun b6 hr=>?_)
 ·refine sr<|yy (aq' (vs:=#[]) (v:=.agg ([.slice none 0 0,.slice none 0 0,.slice none 0 0,i' 0]).toArray) z z (fun _=>by kernel_rfl)) z<|mv z z<|v' 4 z aZ' z z z z z (List.all_eq_true.1 z)<|sg z z<|nx<|j' ?_
  replace hr:_=r:=hr
  refine g' ?_
  subst hr
  exact aE' z (ac' (i:=4) ai' z z z) z ⟨_,_,_,_,_,_,z,(ah' Rp.str _),(ah' a' _),(ah' a' _)⟩
 ·refine o'<|e'<|sr<|yy (ar' z) z<|yy (b' 2 bn' z z z) z<|yy (L' A' d z) z<|sg z z<|nr<|yy (t' 2 ai' z z z) z<|T' 8 z z33 z fun b4=>v' 8 z aZ' z z z z z (List.all_eq_true.1 z)<|nr<|WL.litT (e:=9) (r:=Rp.str) (vs:=#[]) (cs:=[]) ([]:List ByteArray) 4021 z z z z z (by decide) (fun _=>by kernel_rfl) (z) fun p1 cw b7=>yy (ar' z) z<|yy (b' 2 bn' z z z) z ?_
  obtain⟨bp,hr⟩:=hr
  refine bO' (r:=Rp.str) (e:=9) 4021 z z A' el9 z (by decide) z z b7 z d bp fun p2 ap co Y=>yy (ar' z) z<|au' 8 ([.slice p2 ([]++a0_1.vars).length ap,.slice a0_1eqsp a0_1.eqs.length a0_1eqsc,.slice a0_1neqsp a0_1.neqs.length a0_1neqsc,i' a0_1.next]).toArray z sz30 z z z (show 0<4 by decide) z z<|nx<|h'<|sr<|yy (bN' z) z<|yy (b' 3 sc3 z z z) z<|nx<|B'<|sr<|yy (ak' z z) z<|sg z z<|nx<|I' hr z (fun bS hr=>?_) (fun bS hr=>?_)
  ·refine h'<|Y' [false,false,false,false,false,false,false,false,false,false,false,false,false,false,false,false] mix (by kernel_rfl) fun j=>Chain.litOwn (r:=Rp.str) (e:=9) ([]:List ByteArray) (fun _=>z) z (by decide) (fun u h c o=>?_) ?_
   ·exact⟨#[],[],z,z,fun _=>by kernel_rfl,z⟩
   refine cu (fun _ _ c=>ar' z)<|cu (fun _ _ c=>b' 2 bn' z z z)<|cu (fun _ _ c=>ay' z)<|cu (fun _ _ c=>b' 3 sc3 z z z) ?_
   obtain⟨bQ,hr⟩:=hr
   obtain⟨p3,bD,bR,bN⟩:=SlR.cut (r:=Rp.str) none (some (i' a1_1.at')) sz9 z A' d (.inl ⟨z,z⟩) (.inr ⟨_,z⟩) bQ
   refine cu (fun _ _ c=>Y0.cutH A' bN z z) ?_
   obtain⟨a6,hr⟩:=hr
   refine ds' (r:=Rp.str) (e:=9) (kk:=33) (xs:=([]:List ByteArray)) ((a0_1.vars.take a1_1.at'.toNat).drop (0:Int).toNat) (fun _=>z) z (by kernel_rfl) (by kernel_rfl) A' el9 z (by decide) a6 (fun u h c o=>?_) ?_
   ·obtain⟨aI,_⟩:=(show (RowX Rp.str 9 33 ([]:List ByteArray)) (u 33) h∧True from o)
    exact⟨u 33,.slice p3 ((a0_1.vars.take a1_1.at'.toNat).drop (0:Int).toNat).length bD,aI,z,z,(bR.mono c)⟩
   refine cu (fun _ _ c=>bM' z)<|cu (fun _ _ c=>b' 3 sc9 z z z)<|ey' (r:=Rp.str) (e:=9) ([a1_1.name]:List ByteArray) (fun _=>z) z (by decide) (fun u h c o=>?_) ?_
   ·exact⟨#[(0,.string a1_1.name)],[.string a1_1.name]++([]),z,z,fun _=>by kernel_rfl,⟨[.string a1_1.name],[],z,z,z⟩⟩
   obtain⟨ba,hr⟩:=hr
   refine ds' (r:=Rp.str) (e:=9) (kk:=39) (xs:=(([]:List ByteArray)++((a0_1.vars.take a1_1.at'.toNat).drop (0:Int).toNat))) [a1_1.name] (fun _=>z) z (by kernel_rfl) (by kernel_rfl) A' el9 z (by decide) ba (fun u h c o=>?_) ?_
   ·obtain⟨⟨p4,au,aM,aW⟩,aF,_,_⟩:=(show (fun G v=>∃ p4 au,v = .slice p4 1 1∧SlRd Rp.str G (.slice p4 1 1) au [a1_1.name]) h.m (u 42)∧(RowX Rp.str 9 39 (([]:List ByteArray)++((a0_1.vars.take a1_1.at'.toNat).drop (0:Int).toNat))) (u 39) h∧True∧True from o)
    exact⟨u 39,.slice p4 1 1,aF,z,(by simp only[undFr,eatO,List.map_cons,List.map_nil,aM] <;> rfl),aW⟩
   refine cu (fun _ _ c=>ar' z)<|cu (fun _ _ c=>b' 2 bn' z z z)<|cu (fun _ _ c=>ay' z)<|cu (fun _ _ c=>b' 3 sc3 z z z) ?_
   obtain⟨bE,hr⟩:=hr
   obtain⟨p5,cW,bA,bT⟩:=SlR.cut (r:=Rp.str) (some (i' a1_1.at')) none sz9 z A' d (.inr ⟨_,z⟩) (.inl ⟨z,z⟩) bE
   refine cu (fun _ _ c=>Y0.cutL A' bT z z)<|cm' (fun cJ cy ct cM X1 J ac af bw bx=>?_)
   obtain⟨p4,au,rfl,aW⟩:=af
   refine WL.adoptR ac (fun cL cx cm bg bb cv=>?_)
   subst bg
   refine bZ' (show WL _ _ _ _ _ _ (St w0 G0 X1.m _) from ?_)
   obtain⟨bs,hr⟩:=hr
   refine bO' (r:=Rp.str) (e:=9) 43 z z A' el9 z (by decide) z z bb z (bA.mono J) bs fun p6 ao cI bP=>yy (ar' z) z<|au' 8 ([.slice p6 (((([]:List ByteArray)++((a0_1.vars.take a1_1.at'.toNat).drop (0:Int).toNat))++[a1_1.name])++((a0_1.vars.take (a0_1.vars.length:Int).toNat).drop a1_1.at'.toNat)).length ao,.slice a0_1eqsp a0_1.eqs.length a0_1eqsc,.slice a0_1neqsp a0_1.neqs.length a0_1neqsc,i' a0_1.next]).toArray z sz30 z z z (show 0<4 by decide) z z<|u'<|am'<|e'<|h'<|Y' [false,false,false,false,false,false] mix (by kernel_rfl) fun j=>cn (fun _ c=>ax' z)<|cn (fun _ c=>b' 2 aS' z z z)<|cn (fun _ c=>f' z)<|cn (fun _ c=>ay' z)<|cn (fun _ c=>b' 3 sc3 z z z) ?_
   obtain⟨cX,a8,hr⟩:=hr
   refine bB' z (fun _=>s' E39 z) (do' a8) z (fun h c=>trivial)<|X' j ?_
   obtain⟨aY,be,hr⟩:=hr
   refine M' z z (s' E38 z) (dp' be) z ((g.mono J)) (fun cA cO ab ae=>?_)
   obtain⟨ai,ag,rfl,a7⟩:=ae
   refine yy (ax' z) z<|au' 8 ([.slice p6 (((([]:List ByteArray)++((a0_1.vars.take a1_1.at'.toNat).drop (0:Int).toNat))++[a1_1.name])++((a0_1.vars.take (a0_1.vars.length:Int).toNat).drop a1_1.at'.toNat)).length ao,.slice ai aY.length ag,.slice a0_1neqsp a0_1.neqs.length a0_1neqsc,i' a0_1.next]).toArray z cr' z z z (show 1<4 by decide) z z<|u'<|am'<|e'<|Y' [false,false,false,false,false,false] mix (by kernel_rfl) fun j=>cn (fun _ c=>aL' z)<|cn (fun _ c=>b' 2 aS' z z z)<|cn (fun _ c=>f' z)<|cn (fun _ c=>ay' z)<|cn (fun _ c=>b' 3 sc3 z z z) ?_
   obtain⟨cY,a9,hr⟩:=hr
   refine bB' z (fun _=>s' E39 z) (do' a9) z (fun h c=>trivial)<|X' j ?_
   obtain⟨bX,bk,hr⟩:=hr
   refine M' z z (s' E38 z) (dp' bk) z ((f.mono (mt J ab))) (fun cp cU T ad=>?_)
   obtain⟨a5,bq,rfl,a2⟩:=ad
   refine yy (aL' z) z<|au' 8 ([.slice p6 (((([]:List ByteArray)++((a0_1.vars.take a1_1.at'.toNat).drop (0:Int).toNat))++[a1_1.name])++((a0_1.vars.take (a0_1.vars.length:Int).toNat).drop a1_1.at'.toNat)).length ao,.slice ai aY.length ag,.slice a5 bX.length bq,i' a0_1.next]).toArray z cr' z z z (show 2<4 by decide) z z<|u'<|am'<|D'<|e'<|sr<|bu' (r:=Rp.str) (e:=9) 43 (bP.mono (mt ab T)) z (by rw[S]; rfl) fun cZ cT Q bl ci=>yy (t' 8 ai' z z z) z<|v' 4 z aZ' z z z z z (List.all_eq_true.1 z)<|sg z z<|nx<|j' ?_
   obtain rfl:_=r:=hr
   exact aE' z (ac' (i:=4) ai' z z z) z ⟨_,_,_,_,_,_,z,bl,(a7.mono (mt T Q)),(a2.mono Q)⟩
  ·refine sr<|yy (ak' z z) z<|sg z z<|nx<|I' hr z (fun bY hr=>?_) (fun bY hr=>?_)
   ·refine h'<|Y' [false,false,false,false,false,false,false,false,false,false,false,false,false] mix (by kernel_rfl) fun j=>Chain.litOwn (r:=Rp.str) (e:=9) ([]:List ByteArray) (fun _=>z) z (by decide) (fun u h c o=>?_) ?_
    ·exact⟨#[],[],z,z,fun _=>by kernel_rfl,z⟩
    refine cu (fun _ _ c=>ar' z)<|cu (fun _ _ c=>b' 2 bn' z z z)<|cu (fun _ _ c=>ay' z)<|cu (fun _ _ c=>b' 3 sc3 z z z) ?_
    obtain⟨bB,hr⟩:=hr
    obtain⟨p7,bM,bK,bG⟩:=SlR.cut (r:=Rp.str) none (some (i' a1_1.at')) sz9 z A' d (.inl ⟨z,z⟩) (.inr ⟨_,z⟩) bB
    refine cu (fun _ _ c=>Y0.cutH A' bG z z) ?_
    obtain⟨br,hr⟩:=hr
    refine ds' (r:=Rp.str) (e:=9) (kk:=69) (xs:=([]:List ByteArray)) ((a0_1.vars.take a1_1.at'.toNat).drop (0:Int).toNat) (fun _=>z) z (by kernel_rfl) (by kernel_rfl) A' el9 z (by decide) br (fun u h c o=>?_) ?_
    ·obtain⟨an,_⟩:=(show (RowX Rp.str 9 69 ([]:List ByteArray)) (u 69) h∧True from o)
     exact⟨u 69,.slice p7 ((a0_1.vars.take a1_1.at'.toNat).drop (0:Int).toNat).length bM,an,z,z,(bK.mono c)⟩
    refine cu (fun _ _ c=>ar' z)<|cu (fun _ _ c=>b' 2 bn' z z z)<|cu (fun _ _ c=>ay' z)<|cu (fun _ _ c=>b' 3 sc3 z z z)<|cu (fun _ _ c=>N' z z) ?_
    obtain⟨bH,hr⟩:=hr
    obtain⟨p8,cS,bI,bO⟩:=SlR.cut (r:=Rp.str) (some (i' (IntKind.i64.wrap (a1_1.at'+1)))) none sz9 z A' d (.inr ⟨_,z⟩) (.inl ⟨z,z⟩) bH
    refine cu (fun _ _ c=>Y0.cutL A' bO z z)<|du' fun ch cb X2 O L a4=>WL.adoptR L (fun ca b9 bC aH aC cf=>?_)
    subst aH
    refine bZ' (show WL _ _ _ _ _ _ (St w0 G0 X2.m _) from ?_)
    obtain⟨bj,hr⟩:=hr
    refine bO' (r:=Rp.str) (e:=9) 75 z z A' el9 z (by decide) z z aC z (bI.mono O) bj fun p9 aq cF bZ=>yy (ar' z) z<|au' 8 ([.slice p9 ((([]:List ByteArray)++((a0_1.vars.take a1_1.at'.toNat).drop (0:Int).toNat))++((a0_1.vars.take (a0_1.vars.length:Int).toNat).drop (IntKind.i64.wrap (a1_1.at'+1)).toNat)).length aq,.slice a0_1eqsp a0_1.eqs.length a0_1eqsc,.slice a0_1neqsp a0_1.neqs.length a0_1neqsc,i' a0_1.next]).toArray z sz30 z z z (show 0<4 by decide) z z<|u'<|am'<|e'<|h'<|Y' [false,false,false,false,false,false,false] mix (by kernel_rfl) fun j=>cn (fun _ c=>ax' z)<|cn (fun _ c=>b' 2 aS' z z z)<|cn (fun _ c=>ay' z)<|cn (fun _ c=>b' 3 sc3 z z z)<|cn (fun _ c=>f' z)<|cn (fun _ c=>bd' z z) ?_
    obtain⟨cE,aw,hr⟩:=hr
    refine bB' z (fun _=>s' E39 z) (do' aw) z (fun h c=>trivial)<|X' j ?_
    obtain⟨aj,av,hr⟩:=hr
    refine M' z z (s' E38 z) (dp' av) z ((g.mono O)) (fun ce c0 Z I=>?_)
    obtain⟨X,aa,rfl,aJ⟩:=I
    refine yy (ax' z) z<|au' 8 ([.slice p9 ((([]:List ByteArray)++((a0_1.vars.take a1_1.at'.toNat).drop (0:Int).toNat))++((a0_1.vars.take (a0_1.vars.length:Int).toNat).drop (IntKind.i64.wrap (a1_1.at'+1)).toNat)).length aq,.slice X aj.length aa,.slice a0_1neqsp a0_1.neqs.length a0_1neqsc,i' a0_1.next]).toArray z cr' z z z (show 1<4 by decide) z z<|u'<|am'<|e'<|Y' [false,false,false,false,false,false,false] mix (by kernel_rfl) fun j=>cn (fun _ c=>aL' z)<|cn (fun _ c=>b' 2 aS' z z z)<|cn (fun _ c=>ay' z)<|cn (fun _ c=>b' 3 sc3 z z z)<|cn (fun _ c=>f' z)<|cn (fun _ c=>bd' z z) ?_
    obtain⟨cD,aK,hr⟩:=hr
    refine bB' z (fun _=>s' E39 z) (do' aK) z (fun h c=>trivial)<|X' j ?_
    obtain⟨bo,aL,hr⟩:=hr
    refine M' z z (s' E38 z) (dp' aL) z ((f.mono (mt O Z))) (fun b8 c5 P K=>?_)
    obtain⟨aP,aG,rfl,ay⟩:=K
    refine yy (aL' z) z<|au' 8 ([.slice p9 ((([]:List ByteArray)++((a0_1.vars.take a1_1.at'.toNat).drop (0:Int).toNat))++((a0_1.vars.take (a0_1.vars.length:Int).toNat).drop (IntKind.i64.wrap (a1_1.at'+1)).toNat)).length aq,.slice X aj.length aa,.slice aP bo.length aG,i' a0_1.next]).toArray z cr' z z z (show 2<4 by decide) z z<|u'<|am'<|D'<|e'<|sr<|bu' (r:=Rp.str) (e:=9) 75 (bZ.mono (mt Z P)) z (by rw[S]; rfl) fun c6 c2 U a1 ck=>yy (t' 8 ai' z z z) z<|v' 4 z aZ' z z z z z (List.all_eq_true.1 z)<|sg z z<|nx<|j' ?_
    obtain rfl:_=r:=hr
    exact aE' z (ac' (i:=4) ai' z z z) z ⟨_,_,_,_,_,_,z,a1,(aJ.mono (mt P U)),(ay.mono U)⟩
   ·refine sr<|yy (ak' z z) z<|sg z z<|nx<|I' hr z (fun b0 hr=>?_) (fun b0 hr=>?_)
    ·refine w'<|yy (ar' z) z<|yy (b' 8 bn' z z z) z<|yy (ay' z) z<|yy (b' 3 sc3 z z z) z<|yy (bM' z) z<|yy (b' 3 sc9 z z z) z ?_
     obtain⟨x1,a0,hr⟩:=hr
     refine yy (aX' A' sz9 Y z z a0) z<|bx' (r:=Rp.str) (e:=9) (cs':=[.string a1_1.name]) (i:=a1_1.at') (z':=a1_1.name) 4021 z sz9 z Y z z z z z a0 fun c4 bm=>u'<|D'<|e'<|sr<|bu' (r:=Rp.str) (e:=9) 4021 bm z (by rw[S]; rfl) fun c1 cP W ak cd=>yy (t' 8 ai' z z z) z<|v' 4 z aZ' z z z z z (List.all_eq_true.1 z)<|sg z z<|nx<|j' ?_
     obtain rfl:_=r:=hr
     exact aE' z (ac' (i:=4) ai' z z z) z ⟨_,_,_,_,_,_,(by rw[cV' ak]),(cN' ak),(g.mono W),(f.mono W)⟩
    ·refine sr<|yy (ak' z z) z<|sg z z<|nx<|I' hr z (fun bU hr=>?_) (fun bU hr=>?_)
     ·refine sr ?_
      obtain⟨s,aB,hr⟩:=hr
      refine F' z z (s' E39 z) (do' aB) z (trivial)<|T' 9 z z83 z fun b5=>v' 9 z sz83 z z z (O' _ _ _) (O' _ _ _) (fun u o=>Rp.one (cv' .i64 8) (G:=G0) (x:=s) (cs:=vecG (Value.int .i64) 8 s) z u (by first|simpa using o|simpa [Value.cells] using o))<|nr<|yy (ay' z) z<|yy (b' 3 sc3 z z z) z<|yy (cp' z) z<|yy (b' 3 sc3 z z z) z ?_
      obtain⟨bJ,hr⟩:=hr
      refine yy (aW' aY' sz3 z z bJ) z<|au' 9 (vecG (Value.int .i64) 8 (setF s a1_1.at'.toNat a1_1.to')).toArray z sz3 z z z (by first|(rw[O']; omega)|(show _<(vecG _ _ _).toArray.size; rw[O']; omega)) z (bP' _ _ _ _ _)<|nr<|yy (cp' z) z<|yy (b' 3 sc3 z z z) z<|yy (ay' z) z<|yy (b' 3 sc3 z z z) z ?_
      obtain⟨bF,hr⟩:=hr
      refine yy (aW' aY' sz3 z z bF) z<|au' 9 (vecG (Value.int .i64) 8 (setF (setF s a1_1.at'.toNat a1_1.to') a1_1.to'.toNat a1_1.at')).toArray z sz3 z z z (by first|(rw[O']; omega)|(show _<(vecG _ _ _).toArray.size; rw[O']; omega)) z (bP' _ _ _ _ _)<|nx<|h'<|Y' [false,false,false,false,false,false,false,false,false,false] mix (by kernel_rfl) fun j=>cn (fun _ c=>ar' z)<|cn (fun _ c=>b' 8 bn' z z z)<|cn (fun _ c=>ay' z)<|cn (fun _ c=>b' 3 sc3 z z z)<|cn (fun _ c=>ar' z)<|cn (fun _ c=>b' 2 bn' z z z)<|cn (fun _ c=>cp' z)<|cn (fun _ c=>b' 3 sc3 z z z) ?_
      obtain⟨x2,aS,hr⟩:=hr
      refine cn (fun _ c=>Q' A' sz9 (d.mono c) z z aS)<|cn (fun _ c=>U' sc9 z (bF' (E' (Z' d aS) c)))<|X' j ?_
      obtain⟨x3,aX,hr⟩:=hr
      refine yy (aX' A' sz9 Y z z aX) z<|bx' (r:=Rp.str) (e:=9) (cs':=[.string x2]) (i:=a1_1.at') (z':=x2) 4021 z sz9 z Y z z z z z aX fun cR ar=>u'<|am'<|e'<|h'<|Y' [false,false,false,false,false,false,false,false,false,false] mix (by kernel_rfl) fun j=>cn (fun _ c=>ar' z)<|cn (fun _ c=>b' 8 bn' z z z)<|cn (fun _ c=>cp' z)<|cn (fun _ c=>b' 3 sc3 z z z)<|cn (fun _ c=>ar' z)<|cn (fun _ c=>b' 2 bn' z z z)<|cn (fun _ c=>ay' z)<|cn (fun _ c=>b' 3 sc3 z z z) ?_
      obtain⟨x4,aR,hr⟩:=hr
      refine cn (fun _ c=>Q' A' sz9 (d.mono c) z z aR)<|cn (fun _ c=>U' sc9 z (bF' (E' (Z' d aR) c)))<|X' j ?_
      obtain⟨x5,aU,hr⟩:=hr
      refine yy (aX' A' sz9 ar z z aU) z<|bx' (r:=Rp.str) (e:=9) (cs':=[.string x4]) (i:=a1_1.to') (z':=x4) 4021 z sz9 z ar z z z z z aU fun c3 bt=>u'<|am'<|e'<|sr<|yy (ax' z) z<|yy (b' 2 aS' z z z) z<|yy (t' 9 ag83 z z (O' _ _ _)) z ?_
      obtain⟨ah,aN,hr⟩:=hr
      refine M' z z (s' E38 z) (dp' aN) z (g) (fun cg cC t F=>?_)
      obtain⟨V,R,rfl,aD⟩:=F
      refine yy (ax' z) z<|au' 8 ([.slice p2 ([]++a0_1.vars).length ap,.slice V ah.length R,.slice a0_1neqsp a0_1.neqs.length a0_1neqsc,i' a0_1.next]).toArray z cr' z z z (show 1<4 by decide) z z<|nx<|w'<|yy (aL' z) z<|yy (b' 2 aS' z z z) z<|yy (t' 9 ag83 z z (O' _ _ _)) z ?_
      obtain⟨a3,aE,hr⟩:=hr
      refine M' z z (s' E38 z) (dp' aE) z ((f.mono t)) (fun cc cK y M=>?_)
      obtain⟨aA,ax,rfl,az⟩:=M
      refine yy (aL' z) z<|au' 8 ([.slice p2 ([]++a0_1.vars).length ap,.slice V ah.length R,.slice aA a3.length ax,i' a0_1.next]).toArray z cr' z z z (show 2<4 by decide) z z<|u'<|D'<|e'<|sr<|bu' (r:=Rp.str) (e:=9) 4021 (bt.mono (mt t y)) z (by rw[S]; rfl) fun cV cG C am cl=>yy (t' 8 ai' z z z) z<|v' 4 z aZ' z z z z z (List.all_eq_true.1 z)<|sg z z<|nx<|j' ?_
      obtain rfl:_=r:=hr
      exact aE' z (ac' (i:=4) ai' z z z) z ⟨_,_,_,_,_,_,(by rw[cV' am]),(cN' am),(aD.mono (mt y C)),(az.mono C)⟩
     ·refine sr<|yy (t' 2 ai' z z z) z<|yy (t' 3 bw' z z z) z ?_
      obtain⟨cB,aO,hr⟩:=hr
      refine M' z z (s' E40 z) (fS' aO) z (⟨d,g,f,A⟩) (fun cj cN bW E=>?_)
      obtain⟨aT,aQ,bu,bn,aZ,aV,rfl,D,H,B⟩:=E
      refine v' 4 z aZ' z z z z z (List.all_eq_true.1 z)<|sg z z<|nx<|j' ?_
      replace hr:_=r:=hr
      refine x'<|g' ?_
      subst hr
      exact aE' z (ac' (i:=4) ai' z z z) z ⟨_,_,_,_,_,_,z,D,H,B⟩
theorem dm'{l1 most1 l1p l1c r}(hr:(Zfl l1 most1).Ret r):Ctr Tryz.prog 11 #[.slice l1p l1.length l1c,i' most1] (fun G=>sl bU' G l1p l1c l1) (fun G v=>∃ ai ag ax aw ah aj,v = .agg ((v33' r ai ag ax aw ah aj)).toArray∧sl Rp.str G ai ag r.vars∧sl a' G ax aw r.eqs∧sl a' G ah aj r.neqs):=by
 refine C' (args:=[_,_]) (N:=36) Tryz.func11 z z z (fun w0 G0 bi aX=>?_)
 have aL:=aX
 refine sr<|T' 4 z z33 z fun b1=>nr<|yy (aq' (vs:=#[(3,i' 1)]) (v:=.agg ([.slice none 0 0,.slice none 0 0,.slice none 0 0,i' 1]).toArray) z z (fun _=>by kernel_rfl)) z<|T' 5 z z33 z fun b2=>v' 5 z aZ' z z z z z (List.all_eq_true.1 z)<|nx<|h'<|sr<|sg z z<|nx<|aa' (fun (⟨X,F,I,Q,R,H,E,ab⟩:Zb×Option Addr×Nat×Option Addr×Nat×Option Addr×Nat×Mem)=>[(4,.pointer (some ⟨b1,0,none⟩)),(5,.pointer (some ⟨b2,0,none⟩))]) (fun ⟨X,F,I,Q,R,H,E,ab⟩=>Mem.le G0 ab∧sl Rp.str ab F I X.vars∧sl a' ab Q R X.eqs∧sl a' ab H E X.neqs∧(ZeK X).Ret r) (fun ⟨X,F,I,Q,R,H,E,ab⟩=>St w0 G0 ab [(4,some ⟨b1,.cells ([.slice none 0 0,.slice none 0 0,.slice none 0 0,i' 0]).toArray 33 (0,0),0⟩),(5,some ⟨b2,.cells ((v33' X F I Q R H E)).toArray 33 (0,0),0⟩)]) ?_ ?_
 ·refine B' ?_
  let aM:Zb→Prop:=fun oo=>((fun ov=>match ov with|X=>ZeK X:Zb→Comp Zb) oo).wp (fun a=>a=r)
  replace hr:(Comp.loop _ _).wp aM:=hr
  refine ab' (Φ:=aM) (fun (⟨i1,V,s,t,y,x,p,q,W⟩:Int×Zb×Option Addr×Nat×Option Addr×Nat×Option Addr×Nat×Mem)=>((i1,V):Int×Zb)) (fun ⟨i1,V,s,t,y,x,p,q,W⟩=>[(0,.slice l1p l1.length l1c),(1,i' most1),(4,.pointer (some ⟨b1,0,none⟩)),(5,.pointer (some ⟨b2,0,none⟩)),(6,i' i1)]) (fun ⟨i1,V,s,t,y,x,p,q,W⟩=>Mem.le G0 W∧sl Rp.str W s t V.vars∧sl a' W y x V.eqs∧sl a' W p q V.neqs) (fun ⟨i1,V,s,t,y,x,p,q,W⟩=>St w0 G0 W [(4,some ⟨b1,.cells ([.slice none 0 0,.slice none 0 0,.slice none 0 0,i' 0]).toArray 33 (0,0),0⟩),(5,some ⟨b2,.cells ((v33' V s t y x p q)).toArray 33 (0,0),0⟩)]) ⟨0,(Zb.mk [] [] [] 1),none,0,none,0,none,0,G0⟩ hr (fc z (fc z (fc z (fc z (fc z fn))))) ⟨mr,(ah' _ _),(ah' _ _),(ah' _ _)⟩ (wk (lc z (lc z ln))) ?_
  ·intro bj gx hx hr
   obtain⟨i1,V,s,t,y,x,p,q,W⟩:=gx
   obtain⟨U,D,P,J⟩:=hx
   refine h'<|sr<|mv z z<|mv z z<|yy (L' dE' (aL.mono U) z) z<|aj' hr z (V' z z) z (fun a2 hr=>?_) (fun a2 hr=>?_)
   ·refine mv z z<|gy z z (f' z) z<|gy z z (f' z) z<|gy z z (V' z z) z<|yy (m' z z) z<|nx<|I' hr z (fun a4 hr=>?_) (fun a4 hr=>?_)
    ·refine o'<|e'<|h'<|B'<|h'<|Y' [false,false,false,false,false,false,false,false,false,false,true,false] mix (by kernel_rfl) fun hb=>cn (fun _ d=>t' 5 ai' z z z)<|cn (fun _ d=>t' 5 ai' z z z)<|cn (fun _ d=>f' z)<|cn (fun _ d=>f' z) ?_
     obtain⟨x1,aS,hr⟩:=hr
     refine cn (fun _ d=>Q' dE' sz76 ((aL.mono U).mono d) z z aS) ?_
     obtain⟨a6,a7,a1,aP⟩:=Zjz (E' (Z' aL aS) U)
     refine cn (fun _ d=>aw' _ ag76 z z (fun j v hv=>d _ _ _ (a1 j v hv))) ?_
     obtain⟨A,a0,hr⟩:=hr
     refine aD' (post:=fun G v=>∃ M K,v = .agg ([i' A.kind,.string A.name,i' A.at',i' A.to',i' A.id,.slice M A.p.length K,.bool A.neq]).toArray∧sl r' G M K A.p) (fun _=>z) (fun _ _=>s' E34 z) (fQ' a0) z (fun G' d=>⟨(D.mono d),(P.mono d),(J.mono d),(aP.mono d)⟩) (fun v G1 G2 d h=>?_) ?_
     ·obtain⟨M,K,rfl,ac⟩:=h
      exact⟨_,_,z,ac.mono d⟩
     obtain⟨m,aY,hr⟩:=hr
     refine cR' (f:=15) (φ:=fun G v=>∃ e l o n k g,v = .tuple #[.agg ((v33' m.1 e l o n k g)).toArray,i' m.2]∧sl Rp.str G e l m.1.vars∧sl a' G o n m.1.eqs∧sl a' G k g m.1.neqs) (fun _=>z) (fun v G1 G2 d h=>?_) (fun u G' d hu=>?_) ?_
     ·obtain⟨e,l,o,n,k,g,rfl,B,L,C⟩:=h
      exact⟨_,_,_,_,_,_,z,B.mono d,L.mono d,C.mono d⟩
     ·obtain⟨⟨M,K,aO,ac⟩,_⟩:=(show (fun G v=>∃ M K,v = .agg ([i' A.kind,.string A.name,i' A.at',i' A.to',i' A.id,.slice M A.p.length K,.bool A.neq]).toArray∧sl r' G M K A.p) G'.m (u 28)∧True from hu)
      exact⟨_,_,_,fun _=>s' E15 z,eh' aY,(by simp only[aO] <;> rfl),⟨(D.mono d),(P.mono d),(J.mono d),ac⟩⟩
     refine bj' (φ:=fun G v=>∃ Y S p2 T Z O,v = .tuple #[.agg ((v33' m.1 Y S p2 T Z O)).toArray,i' m.2]∧sl Rp.str G Y S m.1.vars∧sl a' G p2 T m.1.eqs∧sl a' G Z O m.1.neqs) (fun _=>z) (fun v G1 G2 d h=>?_) (fun u G' d hu=>?_) ?_
     ·obtain⟨Y,S,p2,T,Z,O,rfl,ap,an,al⟩:=h
      exact⟨_,_,_,_,_,_,z,ap.mono d,an.mono d,al.mono d⟩
     ·obtain⟨⟨e,l,o,n,k,g,aQ,B,L,C⟩,_,_⟩:=(show (fun G v=>∃ e l o n k g,v = .tuple #[.agg ((v33' m.1 e l o n k g)).toArray,i' m.2]∧sl Rp.str G e l m.1.vars∧sl a' G o n m.1.eqs∧sl a' G k g m.1.neqs) G'.m (u 29)∧True∧True from hu)
      simp only[undFr,aQ]
      exact⟨_,f' z,e,l,o,n,k,g,z,B,L,C⟩
     refine bj' (φ:=fun G v=>∃ p4 aq p5 ak p6 ao,v = .agg ((v33' m.1 p4 aq p5 ak p6 ao)).toArray∧sl Rp.str G p4 aq m.1.vars∧sl a' G p5 ak m.1.eqs∧sl a' G p6 ao m.1.neqs) (fun _=>z) (fun v G1 G2 d h=>?_) (fun u G' d hu=>?_) ?_
     ·obtain⟨p4,aq,p5,ak,p6,ao,rfl,aK,aE,aH⟩:=h
      exact⟨_,_,_,_,_,_,z,aK.mono d,aE.mono d,aH.mono d⟩
     ·obtain⟨⟨Y,S,p2,T,Z,O,ae,ap,an,al⟩,_,_,_⟩:=(show (fun G v=>∃ Y S p2 T Z O,v = .tuple #[.agg ((v33' m.1 Y S p2 T Z O)).toArray,i' m.2]∧sl Rp.str G Y S m.1.vars∧sl a' G p2 T m.1.eqs∧sl a' G Z O m.1.neqs) G'.m (u 21)∧True∧True∧True from hu)
      simp only[undFr,ae]
      exact⟨_,K' z z,Y,S,p2,T,Z,O,z,ap,an,al⟩
     refine bT' (c:=i' m.2) (fun _=>z) (fun u G' d hu=>?_) ?_
     ·obtain⟨_,⟨Y,S,p2,T,Z,O,ae,ap,an,al⟩,_,_,_⟩:=(show True∧(fun G v=>∃ Y S p2 T Z O,v = .tuple #[.agg ((v33' m.1 Y S p2 T Z O)).toArray,i' m.2]∧sl Rp.str G Y S m.1.vars∧sl a' G p2 T m.1.eqs∧sl a' G Z O m.1.neqs) G'.m (u 21)∧True∧True∧True from hu)
      simp only[undFr,ae]
      exact K' z z
     refine bq' (fun _=>z) z33<|Chain.tailX5 (fun bh ba a8 bd bf X1 ad aF aD ay aC aA=>?_)
     obtain⟨b3,rfl,aZ⟩:=aF
     obtain⟨p4,aq,p5,ak,p6,ao,rfl,aK,aE,aH⟩:=aD
     obtain⟨Y,S,p2,T,Z,O,rfl,ap,an,al⟩:=ay
     obtain⟨e,l,o,n,k,g,rfl,B,L,C⟩:=aC
     obtain⟨M,K,rfl,ac⟩:=aA
     refine cj' aZ (bZ' (show WL _ _ _ _ _ _ (St w0 G0 X1.m _) from ?_))
     refine v' 7 z aZ' z z z z z (List.all_eq_true.1 z)<|sg z z<|u'<|am'<|e'<|sr<|mv z z<|yy (ak' z z) z<|nx<|I' hr z (fun a3 hr=>?_) (fun a3 hr=>?_)
     ·refine w'<|yy (t' 7 ai' z z z) z<|v' 5 z aZ' z z z z z (List.all_eq_true.1 z)<|u'<|D'<|e'<|w'<|mv z z<|yy (N' z z) z<|sg z z<|u'<|P' ⟨IntKind.i64.wrap (i1+1),m.1,p4,aq,p5,ak,p6,ao,X1.m⟩ hr ⟨(mt U ad),aK,aE,aH⟩ (fc z (fc z (fc z (fc z (fc z fn))))) (wk (lc z (lc z ln)))
     ·refine o'<|D'<|e'<|w'<|mv z z<|yy (N' z z) z<|sg z z<|u'<|P' ⟨IntKind.i64.wrap (i1+1),V,s,t,y,x,p,q,X1.m⟩ hr ⟨(mt U ad),(D.mono ad),(P.mono ad),(J.mono ad)⟩ (fc z (fc z (fc z (fc z (fc z fn))))) (wk (lc z (lc z ln)))
    ·refine ad'<|n'<|n'<|J'<|ae' ⟨V,s,t,y,x,p,q,W⟩ ⟨U,D,P,J,hr⟩ (fc z (fc z fn)) (wk (lc z (lc z ln)))
   ·refine mv z z<|sk z z z<|sk z z z<|sk z z z<|yy (l' z z) z<|nx<|bg' z<|ad'<|n'<|n'<|J'<|ae' ⟨V,s,t,y,x,p,q,W⟩ ⟨U,D,P,J,hr⟩ (fc z (fc z fn)) (wk (lc z (lc z ln)))
 ·rintro⟨X,F,I,Q,R,H,E,ab⟩ ⟨a5,ar,az,av,hr⟩
  refine e'<|sr<|yy (t' 5 ai' z z z) z<|v' 4 z aZ' z z z z z (List.all_eq_true.1 z)<|nx<|j' ?_
  obtain rfl:_=r:=hr
  exact k' z (ac' (i:=4) ai' z z z) ⟨_,_,_,_,_,_,z,ar,az,av⟩
theorem eM'{a1 b1 a1p a1c b1p b1c r}(hr:(Zbt a1 b1).Ret r):Ctr Tryz.prog 44 #[.slice a1p a1.length a1c,.slice b1p b1.length b1c] (fun G=>sl a' G a1p a1c a1∧sl a' G b1p b1c b1) (fun G v=>v = .bool r):=by
 refine C' (args:=[_,_]) (N:=42) Tryz.func44 z z z (fun y l P q=>?_)
 obtain⟨f,g⟩:=q
 refine sr<|sg z z<|nx<|h'<|sr<|mv z z<|yy (L' q' f z) z<|mv z z<|yy (L' q' g z) z<|yy (aR' z z) z<|nx<|I' hr z (fun A hr=>?_) (fun A hr=>?_)
 ·exact (show False from hr).elim
 ·refine o'<|e'<|h'<|sr<|sg z z<|nx<|aa' (fun (j:Mem)=>match j with|h=>[]) (fun (j:Mem)=>match j with|h=>Mem.le l h∧(Zck).Ret r) (fun (j:Mem)=>match j with|h=>St y l h []) ?_ ?_
  ·refine B' ?_
   let k:(Bool⊕Unit)→Prop:=fun I=>((fun K=>match K with | .inl rv1=>Comp.ret rv1 | .inr ()=>Zck:(Bool⊕Unit)→Comp Bool) I).wp (fun a=>a=r)
   replace hr:(Comp.loop _ _).wp k:=hr
   refine ab' (Φ:=k) (fun (⟨i,e⟩:Int×Mem)=>(i:Int)) (fun ⟨i,e⟩=>[(0,.slice a1p a1.length a1c),(1,.slice b1p b1.length b1c),(5,i' i)]) (fun ⟨i,e⟩=>Mem.le l e) (fun ⟨i,e⟩=>St y l e []) ⟨0,l⟩ hr (fc z (fc z (fc z fn))) mr (wk ln) ?_
   ·intro Q j J hr
    obtain⟨i,e⟩:=j
    have d:=J
    refine h'<|sr<|mv z z<|mv z z<|yy (L' q' (f.mono d) z) z<|yy (V' z z) z<|nx<|I' hr z (fun u hr=>?_) (fun u hr=>?_)
    ·refine o'<|e'<|h'<|B'<|h'<|Y' [false,false,false,false,false,false,false,false,false,false,false,false,false,false,false,false,false,false,false,false,false,false] mix (by kernel_rfl) fun x=>cn (fun _ c=>f' z)<|cn (fun _ c=>f' z) ?_
     obtain⟨U,p,hr⟩:=hr
     refine cn (fun _ c=>Q' q' aP' ((f.mono d).mono c) z z p)<|cn (fun _ c=>bb' z)<|cn (fun _ c=>U' sc3 z (aC' (E' (E' (be' (aF' (Z' f p))) d) c)))<|cn (fun _ c=>f' z)<|cn (fun _ c=>f' z) ?_
     obtain⟨R,o,hr⟩:=hr
     refine cn (fun _ c=>Q' q' aP' ((g.mono d).mono c) z z o)<|cn (fun _ c=>bb' z)<|cn (fun _ c=>U' sc3 z (aC' (E' (E' (be' (aF' (Z' g o))) d) c)))<|bY' hr z (fun _ c=>aR' z z) (fun F hr=>?_) (fun F hr=>?_)
     ·refine cn (fun _ c=>f' z)<|cf z z<|cf z z<|cf z z<|cf z z<|cf z z<|cf z z<|cf z z<|cf z z<|cf z z<|cf z z<|X' x<|sf z z z<|sf z z z<|yy (m' z z) z<|u'<|am'<|e'<|at' z<|sr<|sg z z<|nx<|j' ?_
      replace hr:_=r:=hr
      refine x'<|g'<|g'<|x'<|aI'<|g' ?_
      subst hr
      exact k' z z z
     ·refine cn (fun _ c=>f' z)<|cy z z (fun _ c=>f' z)<|cy z z (fun _ c=>f' z) ?_
      obtain⟨V,n,hr⟩:=hr
      refine cy z z (fun _ c=>Q' q' aP' ((f.mono d).mono c) z z n)<|cy z z (fun _ c=>bs' z) ?_
      obtain⟨T,O,E,C⟩:=ca' (E' (aK' (aF' (Z' f n))) d)
      refine cy z z (fun _ c=>U' bQ' z (c _ _ _ E))<|cy z z (fun _ c=>f' z)<|cy z z (fun _ c=>f' z) ?_
      obtain⟨W,m,hr⟩:=hr
      refine cy z z (fun _ c=>Q' q' aP' ((g.mono d).mono c) z z m)<|cy z z (fun _ c=>bs' z) ?_
      obtain⟨S,M,D,B⟩:=ca' (E' (aK' (aF' (Z' g m))) d)
      refine cy z z (fun _ c=>U' bQ' z (c _ _ _ D))<|X' x ?_
      obtain⟨L,s,hr⟩:=hr
      refine F' (H' z z) z (s' E28 z) (dW' s) z (⟨C,B⟩)<|gy z z (ao' z) z<|yy (l' z z) z<|u'<|am'<|e'<|aN' hr z (fun t hr=>?_) (fun t hr=>?_)
      ·exact (show False from hr).elim
      ·refine o'<|D'<|e'<|w'<|mv z z<|yy (N' z z) z<|sg z z<|u'<|P' ⟨IntKind.i64.wrap (i+1),e⟩ hr d (fc z (fc z (fc z fn))) (wk ln)
    ·refine ad'<|n'<|n'<|J'<|ae' e ⟨d,hr⟩ fn (wk ln)
  ·rintro h ⟨H,hr⟩
   refine e'<|sr<|sg z z<|nx<|j' ?_
   obtain rfl:_=r:=hr
   exact k' z z z
theorem dn'{a1 b1 a1varsp a1varsc a1eqsp a1eqsc a1neqsp a1neqsc b1varsp b1varsc b1eqsp b1eqsc b1neqsp b1neqsc r}(hr:(Zfj a1 b1).Ret r):Ctr Tryz.prog 18 #[.agg ((v33' a1 a1varsp a1varsc a1eqsp a1eqsc a1neqsp a1neqsc)).toArray,.agg ((v33' b1 b1varsp b1varsc b1eqsp b1eqsc b1neqsp b1neqsc)).toArray] (fun G=>sl Rp.str G a1varsp a1varsc a1.vars∧sl a' G a1eqsp a1eqsc a1.eqs∧sl a' G a1neqsp a1neqsc a1.neqs∧sl Rp.str G b1varsp b1varsc b1.vars∧sl a' G b1eqsp b1eqsc b1.eqs∧sl a' G b1neqsp b1neqsc b1.neqs) (fun G v=>v = .bool r):=by
 refine C' (args:=[_,_]) (N:=54) Tryz.func18 z z z (fun A s S B=>?_)
 obtain⟨e,o,m,g,q,n⟩:=B
 refine sr<|W' 2 z z z fun u=>W' 3 z z z fun t=>sg z z<|nx<|aV' (fun (h:Mem)=>match h with|i=>[(2,.pointer (some ⟨u,0,none⟩)),(3,.pointer (some ⟨t,0,none⟩))]) (fun (h:Mem)=>match h with|i=>Mem.le s i∧(ZgV a1 b1).Ret r) (fun (h:Mem)=>match h with|i=>St A s i [(2,some ⟨u,.cells ((v33' a1 a1varsp a1varsc a1eqsp a1eqsc a1neqsp a1neqsc)).toArray 33 (0,0),0⟩),(3,some ⟨t,.cells ((v33' b1 b1varsp b1varsc b1eqsp b1eqsc b1neqsp b1neqsc)).toArray 33 (0,0),0⟩)]) ?_ ?_
 ·skip
  refine sr<|yy (ar' z) z<|yy (b' 2 bn' z z z) z<|yy (L' A' e z) z<|yy (ar' z) z<|yy (b' 3 bn' z z z) z<|yy (L' A' g z) z<|aj' hr z (aR' z z) z (fun K hr=>?_) (fun K hr=>?_)
  ·refine mv z z<|sf z z z<|sf z z z<|sf z z z<|sf z z z<|sf z z z<|yy (m' z z) z<|mv z z<|sf z z z<|sf z z z<|sf z z z<|sf z z z<|sf z z z<|sf z z z<|yy (m' z z) z<|mv z z<|sf z z z<|sf z z z<|sf z z z<|sf z z z<|sf z z z<|sf z z z<|yy (m' z z) z<|nx<|at' z<|sr<|sg z z<|nx<|j' ?_
   replace hr:_=r:=hr
   refine g' ?_
   subst hr
   exact k' z z z
  ·refine mv z z<|gy z z (bf' z) z<|gy z z (b' 2 sc3 z z z) z<|gy z z (bf' z) z<|gy z z (b' 3 sc3 z z z) z<|aj' hr (H' z z) (aR' z z) z (fun J hr=>?_) (fun J hr=>?_)
   ·refine yy (l' z z) z<|mv z z<|sf z z z<|sf z z z<|sf z z z<|sf z z z<|sf z z z<|sf z z z<|yy (m' z z) z<|mv z z<|sf z z z<|sf z z z<|sf z z z<|sf z z z<|sf z z z<|sf z z z<|yy (m' z z) z<|nx<|at' z<|sr<|sg z z<|nx<|j' ?_
    replace hr:_=r:=hr
    refine g' ?_
    subst hr
    exact k' z z z
   ·refine yy (l' z z) z<|mv z z<|gy z z (ax' z) z<|gy z z (b' 2 aS' z z z) z<|gy z z (ax' z) z<|gy z z (b' 3 aS' z z z) z ?_
    obtain⟨E,D,hr⟩:=hr
    refine F' (H' z z) z (s' E44 z) (eM' D) z (⟨o,q⟩) ?_
    cases E
    ·skip
     refine gy z z (ao' z) z<|yy (l' z z) z<|mv z z<|sf z z z<|sf z z z<|sf z z z<|sf z z z<|sf z z z<|sf z z z<|yy (m' z z) z<|nx<|at' z<|sr<|sg z z<|nx<|j' ?_
     replace hr:_=r:=hr
     refine g' ?_
     subst hr
     exact k' z z z
    ·skip
     refine gy z z (ao' z) z<|yy (l' z z) z<|mv z z<|gy z z (aL' z) z<|gy z z (b' 2 aS' z z z) z<|gy z z (aL' z) z<|gy z z (b' 3 aS' z z z) z ?_
     obtain⟨R,C,hr⟩:=hr
     refine F' (H' z z) z (s' E44 z) (eM' C) z (⟨m,n⟩)<|gy z z (ao' z) z<|yy (l' z z) z<|nx<|aN' hr z (fun F hr=>?_) (fun F hr=>?_)
     ·exact (show False from hr).elim
     ·refine o'<|ap' s ⟨mr,hr⟩ (fc z (fc z fn)) (wk (lc z (lc z ln)))
 ·rintro i ⟨f,hr⟩
  refine h'<|sr<|sg z z<|nx<|aa' (fun (h:Mem)=>match h with|k=>[]) (fun (h:Mem)=>match h with|k=>Mem.le i k∧(ZeJ).Ret r) (fun (h:Mem)=>match h with|k=>St A s k []) ?_ ?_
  ·refine B' ?_
   let p:(Bool⊕Unit)→Prop:=fun O=>((fun Q=>match Q with | .inl rv1=>Comp.ret rv1 | .inr ()=>ZeJ:(Bool⊕Unit)→Comp Bool) O).wp (fun a=>a=r)
   replace hr:(Comp.loop _ _).wp p:=hr
   refine ab' (Φ:=p) (fun (⟨l,j⟩:Int×Mem)=>(l:Int)) (fun ⟨l,j⟩=>[(2,.pointer (some ⟨u,0,none⟩)),(3,.pointer (some ⟨t,0,none⟩)),(5,i' l)]) (fun ⟨l,j⟩=>Mem.le i j) (fun ⟨l,j⟩=>St A s j [(2,some ⟨u,.cells ((v33' a1 a1varsp a1varsc a1eqsp a1eqsc a1neqsp a1neqsc)).toArray 33 (0,0),0⟩),(3,some ⟨t,.cells ((v33' b1 b1varsp b1varsc b1eqsp b1eqsc b1neqsp b1neqsc)).toArray 33 (0,0),0⟩)]) ⟨0,i⟩ hr (fc z (fc z (fc z fn))) mr (wk (lc z (lc z ln))) ?_
   ·intro T h P hr
    obtain⟨l,j⟩:=h
    have d:=P
    refine h'<|sr<|mv z z<|yy (ar' z) z<|yy (b' 2 bn' z z z) z<|yy (L' A' (e.mono (mt f d)) z) z<|yy (V' z z) z<|nx<|I' hr z (fun I hr=>?_) (fun I hr=>?_)
    ·refine o'<|e'<|h'<|B'<|h'<|Y' [false,false,false,false,false,false,false,false,false,false] mix (by kernel_rfl) fun M=>cn (fun _ c=>ar' z)<|cn (fun _ c=>b' 2 bn' z z z)<|cn (fun _ c=>f' z) ?_
     obtain⟨V,y,hr⟩:=hr
     refine cn (fun _ c=>Q' A' sz9 ((e.mono (mt f d)).mono c) z z y)<|cn (fun _ c=>U' sc9 z (bF' (E' (E' (Z' e y) (mt f d)) c)))<|cn (fun _ c=>ar' z)<|cn (fun _ c=>b' 3 bn' z z z)<|cn (fun _ c=>f' z) ?_
     obtain⟨U,x,hr⟩:=hr
     refine cn (fun _ c=>Q' A' sz9 ((g.mono (mt f d)).mono c) z z x)<|cn (fun _ c=>U' sc9 z (bF' (E' (E' (Z' g x) (mt f d)) c)))<|X' M<|yy (Y0.neqS aQ' z z) z<|u'<|am'<|e'<|I' hr z (fun H hr=>?_) (fun H hr=>?_)
     ·exact (show False from hr).elim
     ·refine o'<|D'<|e'<|w'<|mv z z<|yy (N' z z) z<|sg z z<|u'<|P' ⟨IntKind.i64.wrap (l+1),j⟩ hr d (fc z (fc z (fc z fn))) (wk (lc z (lc z ln)))
    ·refine ad'<|n'<|n'<|J'<|ae' j ⟨d,hr⟩ fn (wk ln)
  ·rintro k ⟨L,hr⟩
   refine e'<|sr<|sg z z<|nx<|j' ?_
   obtain rfl:_=r:=hr
   exact k' z z z
theorem hc'{s1 l1 s1varsp s1varsc s1eqsp s1eqsc s1neqsp s1neqsc l1p l1c r}(hr:(Znm s1 l1).Ret r):Ctr Tryz.prog 21 #[.agg ((v33' s1 s1varsp s1varsc s1eqsp s1eqsc s1neqsp s1neqsc)).toArray,.slice l1p l1.length l1c] (fun G=>sl Rp.str G s1varsp s1varsc s1.vars∧sl a' G s1eqsp s1eqsc s1.eqs∧sl a' G s1neqsp s1neqsc s1.neqs∧sl ag' G l1p l1c l1) (fun G v=>∃ au ap aD aC ao aq,v = .agg ([.slice au r.s.vars.length ap,.slice aD r.s.eqs.length aC,.slice ao r.s.neqs.length aq,i' r.s.next,i' r.n,i' r.e]).toArray∧sl Rp.str G au ap r.s.vars∧sl a' G aD aC r.s.eqs∧sl a' G ao aq r.s.neqs):=by
 refine C' (args:=[_,_]) (N:=33) Tryz.func21 z z z (fun w0 G0 bv a9=>?_)
 obtain⟨aQ,aT,aM,aI⟩:=a9
 refine sr<|W' 2 z z z fun b1=>T' 4 z z50 z fun b2=>nx<|h'<|sr<|sg z z<|nx<|aa' (fun (⟨U,C,E,I,J,D,A,Z,O,M,V,W,Q,P,ad⟩:Zb×Option Addr×Nat×Option Addr×Nat×Option Addr×Nat×Zr×Option Addr×Nat×Option Addr×Nat×Option Addr×Nat×Mem)=>[(1,.slice l1p l1.length l1c),(2,.pointer (some ⟨b1,0,none⟩)),(4,.pointer (some ⟨b2,0,none⟩))]) (fun ⟨U,C,E,I,J,D,A,Z,O,M,V,W,Q,P,ad⟩=>Mem.le G0 ad∧sl Rp.str ad C E U.vars∧sl a' ad I J U.eqs∧sl a' ad D A U.neqs∧sl Rp.str ad O M Z.s.vars∧sl a' ad V W Z.s.eqs∧sl a' ad Q P Z.s.neqs∧(ZfY l1 U).Ret r) (fun ⟨U,C,E,I,J,D,A,Z,O,M,V,W,Q,P,ad⟩=>St w0 G0 ad [(2,some ⟨b1,.cells ((v33' U C E I J D A)).toArray 33 (0,0),0⟩),(4,some ⟨b2,.cells ([.slice O Z.s.vars.length M,.slice V Z.s.eqs.length W,.slice Q Z.s.neqs.length P,i' Z.s.next,i' Z.n,i' Z.e]).toArray 50 (0,0),0⟩)]) ?_ ?_
 ·refine B' ?_
  let aZ:(Zr⊕(Zb×Zr))→Prop:=fun oo=>((fun ov=>match ov with | .inl rv1=>Comp.ret rv1 | .inr (U,Z)=>ZfY l1 U:(Zr⊕(Zb×Zr))→Comp Zr) oo).wp (fun a=>a=r)
  replace hr:(Comp.loop _ _).wp aZ:=hr
  refine ab' (Φ:=aZ) (fun (⟨i1,ae,y,B,L,K,F,H,R,q,p,t,x,o,n,ac⟩:Int×Zb×Option Addr×Nat×Option Addr×Nat×Option Addr×Nat×Zr×Option Addr×Nat×Option Addr×Nat×Option Addr×Nat×Mem)=>((i1,ae,R):Int×Zb×Zr)) (fun ⟨i1,ae,y,B,L,K,F,H,R,q,p,t,x,o,n,ac⟩=>[(1,.slice l1p l1.length l1c),(2,.pointer (some ⟨b1,0,none⟩)),(4,.pointer (some ⟨b2,0,none⟩)),(5,i' i1)]) (fun ⟨i1,ae,y,B,L,K,F,H,R,q,p,t,x,o,n,ac⟩=>Mem.le G0 ac∧sl Rp.str ac y B ae.vars∧sl a' ac L K ae.eqs∧sl a' ac F H ae.neqs∧sl Rp.str ac q p R.s.vars∧sl a' ac t x R.s.eqs∧sl a' ac o n R.s.neqs) (fun ⟨i1,ae,y,B,L,K,F,H,R,q,p,t,x,o,n,ac⟩=>St w0 G0 ac [(2,some ⟨b1,.cells ((v33' ae y B L K F H)).toArray 33 (0,0),0⟩),(4,some ⟨b2,.cells ([.slice q R.s.vars.length p,.slice t R.s.eqs.length x,.slice o R.s.neqs.length n,i' R.s.next,i' R.n,i' R.e]).toArray 50 (0,0),0⟩)]) ⟨0,s1,s1varsp,s1varsc,s1eqsp,s1eqsc,s1neqsp,s1neqsc,(Zr.mk (Zb.mk [] [] [] 0) 0 0),none,0,none,0,none,0,G0⟩ hr (fc z (fc z (fc z (fc z fn)))) ⟨mr,aQ,aT,aM,(ah' _ _),(ah' _ _),(ah' _ _)⟩ (wk (lc z (lc z ln))) ?_
  ·intro bw gx hx hr
   obtain⟨i1,ae,y,B,L,K,F,H,R,q,p,t,x,o,n,ac⟩:=gx
   obtain⟨af,am,ar,an,aj,al,ak⟩:=hx
   refine h'<|sr<|mv z z<|mv z z<|yy (L' as' (aI.mono af) z) z<|yy (V' z z) z<|nx<|I' hr z (fun bj hr=>?_) (fun bj hr=>?_)
   ·refine o'<|e'<|h'<|B'<|h'<|Y' [false,false,false,false,false,false,false,false,true,false] mix (by kernel_rfl) fun hb=>cn (fun _ s=>t' 2 ai' z z z)<|cn (fun _ s=>f' z)<|cn (fun _ s=>f' z) ?_
    obtain⟨x1,a7,hr⟩:=hr
    refine cn (fun _ s=>Q' as' bJ' ((aI.mono af).mono s) z z a7) ?_
    obtain⟨bo,bp,bg,bb⟩:=cL' (E' (Z' aI a7) af)
    refine cn (fun _ s=>aw' _ bw' z z (fun j v hv=>s _ _ _ (bg j v hv))) ?_
    obtain⟨d,bd,hr⟩:=hr
    refine aD' (post:=fun G v=>∃ k e l m g f,v = .tuple #[.agg ((v33' d.1 k e l m g f)).toArray,i' d.2]∧sl Rp.str G k e d.1.vars∧sl a' G l m d.1.eqs∧sl a' G g f d.1.neqs) (fun _=>z) (fun _ _=>s' E15 z) (eh' bd) z (fun G' s=>⟨(am.mono s),(ar.mono s),(an.mono s),(bb.mono s)⟩) (fun v G1 G2 s h=>?_) ?_
    ·obtain⟨k,e,l,m,g,f,rfl,T,X,S⟩:=h
     exact⟨_,_,_,_,_,_,z,T.mono s,X.mono s,S.mono s⟩
    refine bj' (φ:=fun G v=>∃ p1 aa p2 ab p3 Y,v = .tuple #[.agg ((v33' d.1 p1 aa p2 ab p3 Y)).toArray,i' d.2]∧sl Rp.str G p1 aa d.1.vars∧sl a' G p2 ab d.1.eqs∧sl a' G p3 Y d.1.neqs) (fun _=>z) (fun v G1 G2 s h=>?_) (fun u G' s hu=>?_) ?_
    ·obtain⟨p1,aa,p2,ab,p3,Y,rfl,aE,aA,az⟩:=h
     exact⟨_,_,_,_,_,_,z,aE.mono s,aA.mono s,az.mono s⟩
    ·obtain⟨⟨k,e,l,m,g,f,a3,T,X,S⟩,_⟩:=(show (fun G v=>∃ k e l m g f,v = .tuple #[.agg ((v33' d.1 k e l m g f)).toArray,i' d.2]∧sl Rp.str G k e d.1.vars∧sl a' G l m d.1.eqs∧sl a' G g f d.1.neqs) G'.m (u 20)∧True from hu)
     simp only[undFr,a3]
     exact⟨_,f' z,k,e,l,m,g,f,z,T,X,S⟩
    refine bj' (φ:=fun G v=>∃ p4 aF p5 ay p6 aB,v = .agg ((v33' d.1 p4 aF p5 ay p6 aB)).toArray∧sl Rp.str G p4 aF d.1.vars∧sl a' G p5 ay d.1.eqs∧sl a' G p6 aB d.1.neqs) (fun _=>z) (fun v G1 G2 s h=>?_) (fun u G' s hu=>?_) ?_
    ·obtain⟨p4,aF,p5,ay,p6,aB,rfl,aY,aR,aV⟩:=h
     exact⟨_,_,_,_,_,_,z,aY.mono s,aR.mono s,aV.mono s⟩
    ·obtain⟨⟨p1,aa,p2,ab,p3,Y,aw,aE,aA,az⟩,_,_⟩:=(show (fun G v=>∃ p1 aa p2 ab p3 Y,v = .tuple #[.agg ((v33' d.1 p1 aa p2 ab p3 Y)).toArray,i' d.2]∧sl Rp.str G p1 aa d.1.vars∧sl a' G p2 ab d.1.eqs∧sl a' G p3 Y d.1.neqs) G'.m (u 14)∧True∧True from hu)
     simp only[undFr,aw]
     exact⟨_,K' z z,p1,aa,p2,ab,p3,Y,z,aE,aA,az⟩
    refine bT' (c:=i' d.2) (fun _=>z) (fun u G' s hu=>?_) ?_
    ·obtain⟨_,⟨p1,aa,p2,ab,p3,Y,aw,aE,aA,az⟩,_,_⟩:=(show True∧(fun G v=>∃ p1 aa p2 ab p3 Y,v = .tuple #[.agg ((v33' d.1 p1 aa p2 ab p3 Y)).toArray,i' d.2]∧sl Rp.str G p1 aa d.1.vars∧sl a' G p2 ab d.1.eqs∧sl a' G p3 Y d.1.neqs) G'.m (u 14)∧True∧True from hu)
     simp only[undFr,aw]
     exact K' z z
    refine bq' (fun _=>z) z33<|cm' (fun bu bk bq bs X1 ax aS aK aP aN=>?_)
    obtain⟨b3,rfl,bc⟩:=aS
    obtain⟨p4,aF,p5,ay,p6,aB,rfl,aY,aR,aV⟩:=aK
    obtain⟨p1,aa,p2,ab,p3,Y,rfl,aE,aA,az⟩:=aP
    obtain⟨k,e,l,m,g,f,rfl,T,X,S⟩:=aN
    refine cj' bc (bZ' (show WL _ _ _ _ _ _ (St w0 G0 X1.m _) from ?_))
    refine v' 6 z aZ' z z z z z (List.all_eq_true.1 z)<|sg z z<|u'<|am'<|e'<|h'<|sr<|mv z z<|yy (aR' z z) z<|nx<|I' hr z (fun bi hr=>?_) (fun bi hr=>?_)
    ·refine sr<|mv z z<|mv z z<|yy (aq' (vs:=#[(1,i' i1),(2,i' d.2)]) (v:=.agg ([.slice none 0 0,.slice none 0 0,.slice none 0 0,i' 0,i' i1,i' d.2]).toArray) z z (fun _=>by kernel_rfl)) z<|v' 4 z sz50 z z z z z (List.all_eq_true.1 z)<|nx<|j' ?_
     replace hr:_=r:=hr
     refine g'<|x'<|g'<|g'<|x'<|aI'<|g' ?_
     subst hr
     exact k' z (ac' (i:=4) ag50 z z z) ⟨_,_,_,_,_,_,z,(ah' Rp.str _),(ah' a' _),(ah' a' _)⟩
    ·refine o'<|e'<|w'<|yy (t' 6 ai' z z z) z<|v' 2 z aZ' z z z z z (List.all_eq_true.1 z)<|u'<|D'<|e'<|w'<|mv z z<|yy (N' z z) z<|sg z z<|u'<|P' ⟨IntKind.i64.wrap (i1+1),d.1,p4,aF,p5,ay,p6,aB,R,q,p,t,x,o,n,X1.m⟩ hr ⟨(mt af ax),aY,aR,aV,(aj.mono ax),(al.mono ax),(ak.mono ax)⟩ (fc z (fc z (fc z (fc z fn)))) (wk (lc z (lc z ln)))
   ·refine ad'<|n'<|n'<|J'<|ae' ⟨ae,y,B,L,K,F,H,R,q,p,t,x,o,n,ac⟩ ⟨af,am,ar,an,aj,al,ak,hr⟩ (fc z (fc z (fc z fn))) (wk (lc z (lc z ln)))
 ·rintro⟨U,C,E,I,J,D,A,Z,O,M,V,W,Q,P,ad⟩ ⟨a2,aG,aL,aH,a6,ba,a5,hr⟩
  refine e'<|sr<|yy (t' 2 ai' z z z) z<|mv z z<|yy (L' as' (aI.mono a2) z) z<|yy (aq' (vs:=#[(0,.agg ((v33' U C E I J D A)).toArray),(1,i' (l1.length:Int))]) (v:=.agg ([.slice C U.vars.length E,.slice I U.eqs.length J,.slice D U.neqs.length A,i' U.next,i' (l1.length:Int),i' 0]).toArray) z z (fun _=>by kernel_rfl)) z<|v' 4 z sz50 z z z z z (List.all_eq_true.1 z)<|nx<|j' ?_
  obtain rfl:_=r:=hr
  exact k' z (ac' (i:=4) ag50 z z z) ⟨_,_,_,_,_,_,z,aG,aL,aH⟩
theorem eH'{a1 b1 a1varsp a1varsc a1eqsp a1eqsc a1neqsp a1neqsc b1varsp b1varsc b1eqsp b1eqsc b1neqsp b1neqsc r}(hr:(ZfX a1 b1).Ret r):Ctr Tryz.prog 23 #[.agg ((v33' a1 a1varsp a1varsc a1eqsp a1eqsc a1neqsp a1neqsc)).toArray,.agg ((v33' b1 b1varsp b1varsc b1eqsp b1eqsc b1neqsp b1neqsc)).toArray] (fun G=>sl Rp.str G a1varsp a1varsc a1.vars∧sl a' G a1eqsp a1eqsc a1.eqs∧sl a' G a1neqsp a1neqsc a1.neqs∧sl Rp.str G b1varsp b1varsc b1.vars∧sl a' G b1eqsp b1eqsc b1.eqs∧sl a' G b1neqsp b1neqsc b1.neqs) (fun G v=>v = .bool r):=by
 refine C' (args:=[_,_]) (N:=11) Tryz.func23 z z z (fun n o l i=>?_)
 obtain⟨c,g,d,f,h,e⟩:=i
 refine sr<|W' 2 z z z fun p=>W' 3 z z z fun m=>sg z z<|nr<|yy (bf' z) z<|yy (b' 3 sc3 z z z) z<|yy (bf' z) z<|au' 2 ([.slice a1varsp a1.vars.length a1varsc,.slice a1eqsp a1.eqs.length a1eqsc,.slice a1neqsp a1.neqs.length a1neqsc,i' b1.next]).toArray z sz3 z z z (show 3<4 by decide) z z<|nr<|yy (t' 2 ai' z z z) z<|yy (t' 3 ai' z z z) z ?_
 obtain⟨k,j,hr⟩:=hr
 refine F' z z (s' E18 z) (dn' j) z (⟨c,g,d,f,h,e⟩)<|sg z z<|nx<|j' ?_
 obtain rfl:_=r:=hr
 exact k' z z z
theorem ZgN(E:(List Zs))(H:(List Zs))(J:Option Addr)(K:Nat)(M:Option Addr)(O:Nat)(r:Bool)(hr:(Zep E H).Ret r):Ctr Tryz.prog 9 #[.slice J E.length K,.slice M H.length O] (fun G=>sl bU' G J K E∧sl bU' G M O H) (fun G v=>v = .bool r):=by
 refine C' (args:=[_,_]) (N:=88) Tryz.func9 z z z (fun w0 G0 aV aj=>?_)
 obtain⟨aa,ac⟩:=aj
 refine sr<|sg z z<|nr ?_
 obtain⟨aX,aq,hr⟩:=hr
 refine F' z z (s' E10 z) (cQ' aq) z (trivial)<|sg z z<|nx<|h'<|sr<|mv z z<|yy (ao' z) z<|nx<|aN' hr z (fun aL hr=>?_) (fun aL hr=>?_)
 ·exact (show False from hr).elim
 ·refine o'<|e'<|sr<|mv z z ?_
  obtain⟨L,am,hr⟩:=hr
  refine M' z z (s' E11 z) (dm' am) z (aa) (fun aT aU ab W=>?_)
  obtain⟨A,D,V,Q,C,F,rfl,i,j,h⟩:=W
  refine mv z z ?_
  obtain⟨a4,ak,hr⟩:=hr
  refine M' z z (s' E11 z) (dm' ak) z ((ac.mono ab)) (fun aO aZ d R=>?_)
  obtain⟨ad,ap,au,ar,ae,ao,rfl,m,n,l⟩:=R
  refine T' 6 z z33 z fun b1=>T' 7 z z33 z fun b2=>v' 6 z aZ' z z z z z (List.all_eq_true.1 z)<|v' 7 z aZ' z z z z z (List.all_eq_true.1 z)<|nr<|yy (t' 6 ai' z z z) z<|yy (t' 7 ai' z z z) z ?_
  obtain⟨a1,af,hr⟩:=hr
  refine M' z z (s' E29 z) (dI' af) z (⟨(i.mono d),(j.mono d),(h.mono d),m,n,l⟩) (fun aP aY c X=>?_)
  obtain⟨aM,aE,rfl,Z⟩:=X
  refine mv z z<|yy (K' z z) z<|yy (K' z z) z<|sg z z<|sg z z<|nx<|h'<|sr<|mv z z<|yy (aR' z z) z<|nx<|I' hr z (fun aF hr=>?_) (fun aF hr=>?_)
  ·exact (show False from hr).elim
  ·refine o'<|e'<|sr<|yy (t' 6 ai' z z z) z<|mv z z ?_
   obtain⟨I,ai,hr⟩:=hr
   refine M' z z (s' E20 z) (cT' ai) z (⟨(i.mono (mt d c)),(j.mono (mt d c)),(h.mono (mt d c)),Z⟩) (fun aS a3 e P=>?_)
   obtain⟨q,o,t,u,p,s,rfl,x,B,y⟩:=P
   refine T' 10 z z50 z fun b3=>v' 10 z sz50 z z z z z (List.all_eq_true.1 z)<|nr<|yy (t' 6 ai' z z z) z<|T' 11 z z33 z fun b4=>v' 11 z aZ' z z z z z (List.all_eq_true.1 z)<|nr<|yy (bf' z) z<|yy (b' 6 sc3 z z z) z<|yy (N' z z) z<|yy (bf' z) z<|au' 11 ([.slice A L.vars.length D,.slice V L.eqs.length Q,.slice C L.neqs.length F,i' (IntKind.i64.wrap (L.next+7))]).toArray z sz3 z z z (show 3<4 by decide) z z<|nr<|yy (t' 6 ai' z z z) z<|yy (t' 11 ai' z z z) z ?_
   obtain⟨a0,ag,hr⟩:=hr
   refine M' z z (s' E29 z) (dI' ag) z (⟨(i.mono (mt (mt d c) e)),(j.mono (mt (mt d c) e)),(h.mono (mt (mt d c) e)),(i.mono (mt (mt d c) e)),(j.mono (mt (mt d c) e)),(h.mono (mt (mt d c) e))⟩) (fun aR a7 f U=>?_)
   obtain⟨aJ,aK,rfl,Y⟩:=U
   refine mv z z<|yy (K' z z) z<|yy (K' z z) z<|sg z z<|sg z z<|nr<|yy (t' 6 ai' z z z) z<|yy (aq' (vs:=#[]) (v:=.agg ([.slice none 0 0,.slice none 0 0,.slice none 0 0,i' 0]).toArray) z z (fun _=>by kernel_rfl)) z ?_
   obtain⟨a6,al,hr⟩:=hr
   refine M' z z (s' E29 z) (dI' al) z (⟨(i.mono (mt (mt (mt d c) e) f)),(j.mono (mt (mt (mt d c) e) f)),(h.mono (mt (mt (mt d c) e) f)),(ah' Rp.str _),(ah' a' _),(ah' a' _)⟩) (fun aQ a5 g S=>?_)
   obtain⟨ay,aC,rfl,aA⟩:=S
   refine mv z z<|yy (K' z z) z<|yy (K' z z) z<|sg z z<|sg z z<|nr<|yy (aq' (vs:=#[]) (v:=.agg ([.slice none 0 0,.slice none 0 0,.slice none 0 0,i' 0]).toArray) z z (fun _=>by kernel_rfl)) z<|yy (t' 7 ai' z z z) z ?_
   obtain⟨a2,ah,hr⟩:=hr
   refine M' z z (s' E29 z) (dI' ah) z (⟨(ah' Rp.str _),(ah' a' _),(ah' a' _),(m.mono (mt (mt (mt c e) f) g)),(n.mono (mt (mt (mt c e) f) g)),(l.mono (mt (mt (mt c e) f) g))⟩) (fun aN aW k T=>?_)
   obtain⟨aI,az,rfl,ax⟩:=T
   refine mv z z<|yy (K' z z) z<|yy (K' z z) z<|sg z z<|sg z z<|nr<|yy (dh' z) z<|yy (b' 10 sc42 z z z) z<|aj' hr z (ak' z z) z (fun aD hr=>?_) (fun aD hr=>?_)
   ·refine mv z z<|gy z z (ck' z) z<|gy z z (av' ((v33' I.s q o t u p s)).toArray 10 ai' z z z (aM' ([]) ((v33' I.s q o t u p s)) ([i' I.n,i' I.e]))) z<|gy z z (t' 7 ai' z z z) z ?_
    obtain⟨aH,an,hr⟩:=hr
    refine F' (H' z z) z (s' E23 z) (eH' an) z (⟨(x.mono (mt (mt f g) k)),(B.mono (mt (mt f g) k)),(y.mono (mt (mt f g) k)),(m.mono (mt (mt (mt (mt c e) f) g) k)),(n.mono (mt (mt (mt (mt c e) f) g) k)),(l.mono (mt (mt (mt (mt c e) f) g) k))⟩) ?_
    cases aH
    ·skip
     refine yy (m' z z) z<|mv z z<|sk z z z<|sk z z z<|yy (l' z z) z<|mv z z<|sk z z z<|sk z z z<|sk z z z<|yy (l' z z) z<|mv z z<|sk z z z<|sk z z z<|yy (l' z z) z<|mv z z<|sk z z z<|sk z z z<|yy (l' z z) z<|mv z z<|sk z z z<|yy (l' z z) z<|sg z z<|nx<|j' ?_
     obtain rfl:_=r:=hr
     exact k' z z z
    ·skip
     refine yy (m' z z) z<|mv z z<|gy z z (f' z) z<|aj' hr (H' z z) (ak' z z) z (fun aw hr=>?_) (fun aw hr=>?_)
     ·refine yy (m' z z) z<|mv z z<|gy z z (f' z) z<|gy z z (L' as' (Y.mono (mt g k)) z) z<|aj' hr (H' z z) (ak' z z) z (fun aB hr=>?_) (fun aB hr=>?_)
      ·refine yy (m' z z) z<|mv z z<|gy z z (f' z) z<|aj' hr (H' z z) (ak' z z) z (fun aG hr=>?_) (fun aG hr=>?_)
       ·refine yy (m' z z) z<|mv z z<|gy z z (f' z) z<|aj' hr (H' z z) (ak' z z) z (fun av hr=>?_) (fun av hr=>?_)
        ·refine yy (m' z z) z<|mv z z<|gy z z (f' z) z<|yy (m' z z) z<|sg z z<|nx<|j' ?_
         obtain rfl:_=r:=hr
         exact k' z z z
        ·refine yy (m' z z) z<|mv z z<|sk z z z<|yy (l' z z) z<|sg z z<|nx<|j' ?_
         obtain rfl:_=r:=hr
         exact k' z z z
       ·refine yy (m' z z) z<|mv z z<|sk z z z<|sk z z z<|yy (l' z z) z<|mv z z<|sk z z z<|yy (l' z z) z<|sg z z<|nx<|j' ?_
        obtain rfl:_=r:=hr
        exact k' z z z
      ·refine yy (m' z z) z<|mv z z<|sk z z z<|sk z z z<|yy (l' z z) z<|mv z z<|sk z z z<|sk z z z<|yy (l' z z) z<|mv z z<|sk z z z<|yy (l' z z) z<|sg z z<|nx<|j' ?_
       obtain rfl:_=r:=hr
       exact k' z z z
     ·refine yy (m' z z) z<|mv z z<|sk z z z<|sk z z z<|sk z z z<|yy (l' z z) z<|mv z z<|sk z z z<|sk z z z<|yy (l' z z) z<|mv z z<|sk z z z<|sk z z z<|yy (l' z z) z<|mv z z<|sk z z z<|yy (l' z z) z<|sg z z<|nx<|j' ?_
      obtain rfl:_=r:=hr
      exact k' z z z
   ·refine mv z z<|sk z z z<|sk z z z<|sk z z z<|sk z z z<|yy (l' z z) z<|mv z z<|sk z z z<|sk z z z<|yy (l' z z) z<|mv z z<|sk z z z<|sk z z z<|sk z z z<|yy (l' z z) z<|mv z z<|sk z z z<|sk z z z<|yy (l' z z) z<|mv z z<|sk z z z<|sk z z z<|yy (l' z z) z<|mv z z<|sk z z z<|yy (l' z z) z<|sg z z<|nx<|j' ?_
    obtain rfl:_=r:=hr
    exact k' z z z
end Go.Proofs.YtenaadodnembpaaGreat

namespace Go.EL
open Go Go.RowKit
end Go.EL

namespace Go.EL
open Go Go.RowKit
def RunsTo:Zb→List Zd→Zb→Prop
 | s,[],t=>s=t
 | s,e::l,t=>checkF s e=0∧RunsTo (doF s e) l t
theorem RunsTo.append{t u:Zb}:∀ {l m:List Zd}{s:Zb},RunsTo s l t→RunsTo t m u→RunsTo s (l++m) u
 | [],_,_,h,h2=>by cases h; exact h2
 | _::_,_,_,⟨h0,h1⟩,h2=>⟨h0,RunsTo.append h1 h2⟩
theorem RunsTo.all{t:Zb}:∀ {l:List Zd}{s:Zb}(k:Nat),RunsTo s l t→allF s l k=⟨t,((k+l.length:Nat):Int),0⟩
 | [],_,_,h=>by cases h; rfl
 | e::l,s,k,⟨h0,h1⟩=>by
  have e1:allF s (e::l) k=allF (doF s e) l (k+1):=if_pos h0
  rw[e1,RunsTo.all (k+1) h1,show k+1+l.length=k+(e::l).length by simp only[List.length_cons]; omega]
theorem ZmB{s:Zb}{id:Int}{i:Int}(h:hasB s id=true)(hne:id≠i):hasB (dropE s i) id=true:=by
 rcases (ZaY s id).1 h with ⟨q,h1,h2⟩|⟨q,h1,h2⟩
 ·exact (ZaY _ _).2 (.inl ⟨q,Zes.2 ⟨h1,by omega⟩,h2⟩)
 ·exact (ZaY _ _).2 (.inr ⟨q,Zes.2 ⟨h1,by omega⟩,h2⟩)
theorem ZiL:∀ (L:List Za) (s:Zb),Good s→(L.Pairwise fun x y=>x.id≠y.id)→(∀ x ∈ L,hasB s x.id=true)→
  ∃ t,RunsTo s (L.map mk6) t∧Good t∧t.vars=s.vars∧(∀ q,q ∈ t.eqs↔q ∈ s.eqs∧∀ x ∈ L,x.id≠q.id)∧∀ q,q ∈ t.neqs↔q ∈ s.neqs∧∀ x ∈ L,x.id≠q.id
 | [],s,h,_,_=>⟨s,rfl,h,rfl,fun q=>⟨fun k=>⟨k,fun x hx=>absurd hx List.not_mem_nil⟩,fun k=>k.1⟩,fun q=>⟨fun k=>⟨k,fun x hx=>absurd hx List.not_mem_nil⟩,fun k=>k.1⟩⟩
 | x::L,s,h,hp,hb=>by
  obtain⟨p1,p2⟩:=List.pairwise_cons.1 hp
  obtain⟨t,h1,h2,h3,h4,h5⟩:=ZiL L (dropE s x.id) (h.drop6 x.id) p2 (fun y hy=>ZmB (hb y (List.mem_cons_of_mem _ hy)) (fun e=>p1 y hy e.symm))
  refine⟨t,⟨ZlJ rfl (hb x List.mem_cons_self),h1⟩,h2,h3,fun q=>?_,fun q=>?_⟩
  ·rw[h4 q]
   show q ∈ dropL s.eqs x.id∧_↔_
   rw[Zes,List.forall_mem_cons]
   exact⟨fun ⟨⟨k1,k2⟩,k3⟩=>⟨k1,fun e=>k2 e.symm,k3⟩,fun ⟨k1,k2,k3⟩=>⟨⟨k1,fun e=>k2 e.symm⟩,k3⟩⟩
  ·rw[h5 q]
   show q ∈ dropL s.neqs x.id∧_↔_
   rw[Zes,List.forall_mem_cons]
   exact⟨fun ⟨⟨k1,k2⟩,k3⟩=>⟨k1,fun e=>k2 e.symm,k3⟩,fun ⟨k1,k2,k3⟩=>⟨⟨k1,fun e=>k2 e.symm⟩,k3⟩⟩
theorem ZhS{a:Zb}(ha:Good a)(P Q:Za→Bool):
  ∃ t,RunsTo a ((a.eqs.filter P).map mk6++(a.neqs.filter Q).map mk6) t∧Good t∧t.vars=a.vars∧(∀ q,q ∈ t.eqs↔q ∈ a.eqs∧P q=false)∧∀ q,q ∈ t.neqs↔q ∈ a.neqs∧Q q=false:=by
 have hp:(a.eqs.filter P++a.neqs.filter Q).Pairwise fun x y=>x.id≠y.id:=by
  refine List.pairwise_append.2 ⟨(ha.eqs.inc.filter P).imp fun h=>by omega,(ha.neqs.inc.filter Q).imp fun h=>by omega,fun x hx y hy=>?_⟩
  exact ha.apart x (List.mem_filter.1 hx).1 y (List.mem_filter.1 hy).1
 obtain⟨t,h1,h2,h3,h4,h5⟩:=ZiL (a.eqs.filter P++a.neqs.filter Q) a ha hp (fun x hx=>by
  rcases List.mem_append.1 hx with hx|hx
  ·exact ZlS (List.mem_filter.1 hx).1
  ·exact ZkH (List.mem_filter.1 hx).1)
 rw[List.map_append] at h1
 refine⟨t,h1,h2,h3,fun q=>?_,fun q=>?_⟩
 ·rw[h4 q]
  constructor
  ·rintro⟨k1,k2⟩
   refine⟨k1,?_⟩
   cases hP:P q with
   | false=>rfl
   | true=>exact absurd rfl (k2 q (List.mem_append_left _ (List.mem_filter.2 ⟨k1,hP⟩)))
  ·rintro⟨k1,k2⟩
   refine⟨k1,fun x hx e=>?_⟩
   rcases List.mem_append.1 hx with hx|hx
   ·obtain⟨x1,x2⟩:=List.mem_filter.1 hx
    rw[ZcS ha.eqs.inc x1 k1 e,k2] at x2
    cases x2
   ·exact ha.apart q k1 x (List.mem_filter.1 hx).1 e.symm
 ·rw[h5 q]
  constructor
  ·rintro⟨k1,k2⟩
   refine⟨k1,?_⟩
   cases hQ:Q q with
   | false=>rfl
   | true=>exact absurd rfl (k2 q (List.mem_append_right _ (List.mem_filter.2 ⟨k1,hQ⟩)))
  ·rintro⟨k1,k2⟩
   refine⟨k1,fun x hx e=>?_⟩
   rcases List.mem_append.1 hx with hx|hx
   ·exact ha.apart x (List.mem_filter.1 hx).1 q k1 e
   ·obtain⟨x1,x2⟩:=List.mem_filter.1 hx
    rw[ZcS ha.neqs.inc x1 k1 e,k2] at x2
    cases x2
theorem Zhj(neq:Bool):∀ (L:List Za) (s:Zb),Good s→(L.Pairwise fun x y=>x.id≠y.id)→
  (∀ x ∈ L,(1≤x.id∧x.id≤999999)∧hasB s x.id=false∧PolOk x.p∧fitB x.p (s.vars.length:Int)=true)→(if neq=true then s.neqs else s.eqs).length+L.length≤12→
  ∃ t,RunsTo s (L.map (mk5 neq)) t∧Good t∧t.vars=s.vars∧(∀ q,q ∈ t.eqs↔q ∈ s.eqs∨(neq=false∧q ∈ L))∧∀ q,q ∈ t.neqs↔q ∈ s.neqs∨(neq=true∧q ∈ L)
 | [],s,h,_,_,_=>⟨s,rfl,h,rfl,fun q=>⟨.inl,fun k=>k.elim id fun k=>absurd k.2 List.not_mem_nil⟩,fun q=>⟨.inl,fun k=>k.elim id fun k=>absurd k.2 List.not_mem_nil⟩⟩
 | x::L,s,h,hp,hx,hl=>by
  obtain⟨p1,p2⟩:=List.pairwise_cons.1 hp
  obtain⟨b1,b2,b3,b4⟩:=hx x List.mem_cons_self
  simp only[List.length_cons] at hl
  have hc:checkF s (mk5 neq x)=0:=ZlI rfl (by show 0≤x.id∧x.id≤999999; omega) (fun _=>b2) (by show (if neq=true then s.neqs else s.eqs).length<12; omega) (fun k=>by have k':x.id=0:=k; omega) b4
  have hg:=h.edit (e:=mk5 neq x) b3 hc
  have hn:numE s (mk5 neq x)=x.id:=if_neg (by show ¬ x.id=0; omega)
  have ed:doF s (mk5 neq x)=addE s (mk5 neq x):=doF5 rfl
  have e1:(doF s (mk5 neq x)).eqs=if neq=true then s.eqs else putL s.eqs x:=by rw[ed]; unfold addE; rw[hn]; rfl
  have e2:(doF s (mk5 neq x)).neqs=if neq=true then putL s.neqs x else s.neqs:=by rw[ed]; unfold addE; rw[hn]; rfl
  have ev:(doF s (mk5 neq x)).vars=s.vars:=by rw[ed]; rfl
  have hmem:∀ q,q ∈ putL s.eqs x↔q ∈ s.eqs∨q=x:=fun q=>by
   rw[ZjL]
   exact⟨fun k=>k.elim .inr fun k=>.inl k.1,fun k=>k.elim (fun k=>.inr ⟨k,(ZdI b2).1 q k⟩) .inl⟩
  have hmem2:∀ q,q ∈ putL s.neqs x↔q ∈ s.neqs∨q=x:=fun q=>by
   rw[ZjL]
   exact⟨fun k=>k.elim .inr fun k=>.inl k.1,fun k=>k.elim (fun k=>.inr ⟨k,(ZdI b2).2 q k⟩) .inl⟩
  have m1:∀ q,q ∈ (doF s (mk5 neq x)).eqs↔q ∈ s.eqs∨(neq=false∧q=x):=fun q=>by
   rw[e1]
   cases neq with
   | true=>rw[if_pos rfl]; exact⟨.inl,fun k=>k.elim id fun k=>absurd k.1 (by decide)⟩
   | false=>rw[if_neg (by decide),hmem]; exact⟨fun k=>k.imp id fun k=>⟨rfl,k⟩,fun k=>k.imp id fun k=>k.2⟩
  have m2:∀ q,q ∈ (doF s (mk5 neq x)).neqs↔q ∈ s.neqs∨(neq=true∧q=x):=fun q=>by
   rw[e2]
   cases neq with
   | false=>rw[if_neg (by decide)]; exact⟨.inl,fun k=>k.elim id fun k=>absurd k.1 (by decide)⟩
   | true=>rw[if_pos rfl,hmem2]; exact⟨fun k=>k.imp id fun k=>⟨rfl,k⟩,fun k=>k.imp id fun k=>k.2⟩
  have hlen:(if neq=true then (doF s (mk5 neq x)).neqs else (doF s (mk5 neq x)).eqs).length≤(if neq=true then s.neqs else s.eqs).length+1:=by
   rw[e1,e2]
   cases neq with
   | true=>exact Zhx _ _
   | false=>exact Zhx _ _
  obtain⟨t,h1,h2,h3,h4,h5⟩:=Zhj neq L (doF s (mk5 neq x)) hg p2 (fun y hy=>by
   obtain⟨c1,c2,c3,c4⟩:=hx y (List.mem_cons_of_mem _ hy)
   refine⟨c1,ZjK (fun q hq e=>?_) (fun q hq e=>?_),c3,by rw[ev]; exact c4⟩
   ·rcases (m1 q).1 hq with k|⟨_,k⟩
    ·exact (ZdI c2).1 q k e
    ·exact p1 y hy (by rw[← k]; exact e)
   ·rcases (m2 q).1 hq with k|⟨_,k⟩
    ·exact (ZdI c2).2 q k e
    ·exact p1 y hy (by rw[← k]; exact e)) (by omega)
  refine⟨t,⟨hc,h1⟩,h2,h3.trans ev,fun q=>?_,fun q=>?_⟩
  ·rw[h4 q,m1 q,List.mem_cons]
   exact⟨fun k=>by
    rcases k with (k|⟨k1,k2⟩)|⟨k1,k2⟩
    ·exact .inl k
    ·exact .inr ⟨k1,.inl k2⟩
    ·exact .inr ⟨k1,.inr k2⟩,fun k=>by
    rcases k with k|⟨k1,k2|k2⟩
    ·exact .inl (.inl k)
    ·exact .inl (.inr ⟨k1,k2⟩)
    ·exact .inr ⟨k1,k2⟩⟩
  ·rw[h5 q,m2 q,List.mem_cons]
   exact⟨fun k=>by
    rcases k with (k|⟨k1,k2⟩)|⟨k1,k2⟩
    ·exact .inl k
    ·exact .inr ⟨k1,.inl k2⟩
    ·exact .inr ⟨k1,.inr k2⟩,fun k=>by
    rcases k with k|⟨k1,k2|k2⟩
    ·exact .inl (.inl k)
    ·exact .inl (.inr ⟨k1,k2⟩)
    ·exact .inr ⟨k1,k2⟩⟩
theorem ZhT(P:Za→Bool):∀ b:List Za,(b.filter P).length+(b.filter fun q=>!P q).length=b.length
 | []=>rfl
 | x::b=>by
  have ih:=ZhT P b
  cases h:P x with
  | true=>
   rw[List.filter_cons_of_pos h,List.filter_cons_of_neg (by simp[h])]
   simp only[List.length_cons]; omega
  | false=>
   rw[List.filter_cons_of_neg (by simp[h]),List.filter_cons_of_pos (by simp[h])]
   simp only[List.length_cons]; omega
theorem ZjU{l b:List Za}(hl:l.Pairwise fun x y=>x.id<y.id)(hb:b.Pairwise fun x y=>x.id<y.id){P:Za→Bool}(h1:∀ q ∈ l,q ∈ b)(h2:∀ q ∈ b,P q=true↔q ∉ l):l.length+(b.filter P).length=b.length:=by
 have e:l=b.filter fun q=>!P q:=ZdH hl (hb.filter _) fun q=>by
  rw[List.mem_filter]
  constructor
  ·intro hq
   refine⟨h1 q hq,?_⟩
   cases hP:P q with
   | false=>rfl
   | true=>exact absurd hq ((h2 q (h1 q hq)).1 hP)
  ·rintro⟨k1,k2⟩
   refine Classical.not_not.1 fun k=>?_
   rw[(h2 q k1).2 k] at k2
   cases k2
 have:=ZhT P b
 rw[e]
 omega
theorem ZhO{b u:Zb}(hb:Good b)(hu:Good u)(hv:u.vars=b.vars)(h1:∀ q ∈ u.eqs,q ∈ b.eqs)(h2:∀ q ∈ u.neqs,q ∈ b.neqs){P Q:Za→Bool}(hP:∀ q ∈ b.eqs,P q=true↔q ∉ u.eqs)(hQ:∀ q ∈ b.neqs,Q q=true↔q ∉ u.neqs):
  ∃ t,RunsTo u ((b.eqs.filter P).map (mk5 false)++(b.neqs.filter Q).map (mk5 true)) t∧Good t∧AlikeS t b:=by
 have hbn:=hb.next
 have l1:=ZjU hu.eqs.inc hb.eqs.inc h1 hP
 have l2:=ZjU hu.neqs.inc hb.neqs.inc h2 hQ
 have b1:=hb.eqs.len
 have b2:=hb.neqs.len
 obtain⟨t,r1,g1,v1,e1,n1⟩:=Zhj false (b.eqs.filter P) u hu ((hb.eqs.inc.filter P).imp fun h=>by omega) (fun x hx=>by
  obtain⟨x1,x2⟩:=List.mem_filter.1 hx
  have hi:=hb.eqs.ids x x1
  refine⟨by omega,ZjK (fun q hq e=>?_) (fun q hq e=>?_),(hb.eqs.pol x x1).1,by rw[hv]; exact (hb.eqs.pol x x1).2⟩
  ·exact (hP x x1).1 x2 (by rw[← ZcS hb.eqs.inc (h1 q hq) x1 e]; exact hq)
  ·exact hb.apart x x1 q (h2 q hq) e.symm) (by rw[if_neg (by decide)]; omega)
 have te:t.eqs=b.eqs:=ZdH g1.eqs.inc hb.eqs.inc fun q=>by
  rw[e1 q,List.mem_filter]
  constructor
  ·rintro (k|⟨_,k,_⟩)
   ·exact h1 q k
   ·exact k
  ·intro k
   by_cases hq:q ∈ u.eqs
   ·exact .inl hq
   ·exact .inr ⟨rfl,k,(hP q k).2 hq⟩
 have tn:t.neqs=u.neqs:=ZdH g1.neqs.inc hu.neqs.inc fun q=>by
  rw[n1 q]
  exact⟨fun k=>k.elim id fun k=>absurd k.1 (by decide),.inl⟩
 obtain⟨t2,r2,g2,v2,e2,n2⟩:=Zhj true (b.neqs.filter Q) t g1 ((hb.neqs.inc.filter Q).imp fun h=>by omega) (fun x hx=>by
  obtain⟨x1,x2⟩:=List.mem_filter.1 hx
  have hi:=hb.neqs.ids x x1
  refine⟨by omega,ZjK (fun q hq e=>?_) (fun q hq e=>?_),(hb.neqs.pol x x1).1,by rw[v1,hv]; exact (hb.neqs.pol x x1).2⟩
  ·rw[te] at hq; exact hb.apart q hq x x1 e
  ·rw[tn] at hq; exact (hQ x x1).1 x2 (by rw[← ZcS hb.neqs.inc (h2 q hq) x1 e]; exact hq)) (by rw[if_pos rfl,tn]; omega)
 refine⟨t2,r1.append r2,g2,by rw[v2,v1,hv],?_,?_⟩
 ·refine ZdH g2.eqs.inc hb.eqs.inc fun q=>?_
  rw[e2 q,te]
  exact⟨fun k=>k.elim id fun k=>absurd k.1 (by decide),.inl⟩
 ·refine ZdH g2.neqs.inc hb.neqs.inc fun q=>?_
  rw[n2 q,tn,List.mem_filter]
  constructor
  ·rintro (k|⟨_,k,_⟩)
   ·exact h2 q k
   ·exact k
  ·intro k
   by_cases hq:q ∈ u.neqs
   ·exact .inl hq
   ·exact .inr ⟨rfl,k,(hQ q k).2 hq⟩
def varS(V:List ByteArray)(nx:Int):Zb:=⟨V,[],[],nx⟩
theorem Zie(nx:Int):∀ (n:Nat) (V:List ByteArray),V.length=n→n≤4→RunsTo (varS V nx) (dropsF n n) (varS [] nx)
 | 0,V,hV,_=>by rw[List.eq_nil_of_length_eq_zero hV]; rfl
 | n+1,V,hV,hn=>by
  have e1:dropsF (n+1) (n+1)=mk2 (n:Int)::dropsF n n:=by
   unfold dropsF
   rw[List.range_succ_eq_map,List.map_cons,List.map_map]
   refine congr (congrArg List.cons (by show mk2 (((n+1:Nat):Int)-1-((0:Nat):Int))=_; congr 1; omega)) (List.map_congr_left fun j _=>?_)
   show mk2 (((n+1:Nat):Int)-1-((j+1:Nat):Int))=mk2 ((n:Int)-1-(j:Int))
   congr 1; omega
  rw[e1]
  have hd:doF (varS V nx) (mk2 (n:Int))=varS (V.take n) nx:=by
   rw[doF2 rfl]
   show Zb.mk (V.take (n:Int).toNat++V.drop ((n:Int).toNat+1)) _ _ _=_
   rw[Int.toNat_natCast,List.drop_eq_nil_of_le (by omega),List.append_nil]
   rfl
  refine⟨ZlH rfl (ZnL (by show n<V.length; omega)) rfl,?_⟩
  rw[hd]
  exact Zie nx n (V.take n) (by simp; omega) (by omega)
theorem ZiY(nx:Int){W:List ByteArray}(hl:W.length≤4)(hn:∀ v ∈ W,nameB v=true)(hd:W.Pairwise fun a b=>a≠b):∀ k,k≤W.length→RunsTo (varS [] nx) (addsF W k) (varS (W.take k) nx)
 | 0,_=>rfl
 | k+1,hk=>by
  have hk':k<W.length:=by omega
  have ih:=ZiY nx hl hn hd k (by omega)
  have e1:addsF W (k+1)=addsF W k++[mk1 W[k] (k:Int)]:=by
   unfold addsF
   rw[List.range_succ,List.map_append]
   show _++[mk1 (W.getD k ByteArray.empty) (k:Int)]=_
   rw[getD_eq hk']
  rw[e1]
  refine ih.append ⟨ZlG rfl (by show (W.take k).length<4; simp; omega) (by show 0≤(k:Int)∧(k:Int)≤((W.take k).length:Int); simp; omega) (hn _ (List.getElem_mem hk')) (Zm9 ?_),?_⟩
  ·show W[k] ∉ W.take k
   intro hm
   obtain⟨j,hj,e⟩:=List.mem_iff_getElem.1 hm
   have hj':j<k:=by simp at hj; omega
   rw[List.getElem_take] at e
   exact Zb8 hd (by omega) hk' (by omega) e
  ·show doF (varS (W.take k) nx) (mk1 W[k] (k:Int))=varS (W.take (k+1)) nx
   rw[doF1 rfl]
   show Zb.mk ((W.take k).take (k:Int).toNat++[W[k]]++(W.take k).drop (k:Int).toNat) _ _ _=_
   have hlen:(W.take k).length=k:=by simp; omega
   rw[Int.toNat_natCast,List.take_of_length_le (by omega),List.drop_eq_nil_of_le (by omega),List.append_nil,List.take_append_getElem]
   rfl
theorem Zml{V:List ByteArray}{nx:Int}(h1:V.length≤4)(h2:∀ v ∈ V,nameB v=true)(h3:V.Pairwise fun a b=>a≠b)(h4:1≤nx∧nx≤1000000):Good (varS V nx):=
 ⟨h1,h2,h3,h4,⟨Nat.zero_le 12,fun _ hq=>absurd hq List.not_mem_nil,List.Pairwise.nil,fun _ hq=>absurd hq List.not_mem_nil⟩,⟨Nat.zero_le 12,fun _ hq=>absurd hq List.not_mem_nil,List.Pairwise.nil,fun _ hq=>absurd hq List.not_mem_nil⟩,fun _ ha=>absurd ha List.not_mem_nil⟩
theorem ZgI{b:Zb}(hb:Good b)(q:Za):missB b false false q=true↔q ∉ b.eqs:=by
 unfold missB
 by_cases hh:hasB b q.id=true
 ·rcases Zfs hb hh with ⟨_,r,hr,e1,e2,hn,_⟩|⟨_,r,hr,e1,e2,hn,_⟩
  ·rw[e2]
   simp only[Bool.false_or,Bool.not_true,decide_true]
   constructor
   ·intro h hq
    rw[ZcS hb.eqs.inc hr hq (by omega)] at h
    simp at h
   ·intro h
    have:¬ r.p=q.p:=fun e=>h (by
     have:r=q:=by cases r; cases q; simp only at e e1; subst e e1; rfl
     rw[← this]; exact hr)
    simp[this]
  ·rw[e2]
   refine⟨fun _ hq=>hn q hq rfl,fun _=>by simp⟩
 ·have hh':hasB b q.id=false:=by simpa using hh
  rw[Zda,hh']
  exact⟨fun _ hq=>(ZdI hh').1 q hq rfl,fun _=>by simp⟩
theorem Zfw{b:Zb}(hb:Good b)(q:Za):missB b false true q=true↔q ∉ b.neqs:=by
 unfold missB
 by_cases hh:hasB b q.id=true
 ·rcases Zfs hb hh with ⟨_,r,hr,e1,e2,hn,_⟩|⟨_,r,hr,e1,e2,hn,_⟩
  ·rw[e2]
   refine⟨fun _ hq=>hn q hq rfl,fun _=>by simp⟩
  ·rw[e2]
   simp only[Bool.false_or,Bool.not_true,decide_true]
   constructor
   ·intro h hq
    rw[ZcS hb.neqs.inc hr hq (by omega)] at h
    simp at h
   ·intro h
    have:¬ r.p=q.p:=fun e=>h (by
     have:r=q:=by cases r; cases q; simp only at e e1; subst e e1; rfl
     rw[← this]; exact hr)
    simp[this]
 ·have hh':hasB b q.id=false:=by simpa using hh
  rw[Zda,hh']
  exact⟨fun _ hq=>(ZdI hh').2 q hq rfl,fun _=>by simp⟩
theorem false_iff{b:Bool}{p:Prop}(h:b=true↔¬ p):b=false↔p:=by
 cases b with
 | true=>exact⟨fun k=>(by cases k),fun k=>absurd k (h.1 rfl)⟩
 | false=>exact⟨fun _=>Classical.not_not.1 fun k=>(by have:=h.2 k; cases this),fun _=>rfl⟩
theorem ZlN{a b:Zb}(ha:Good a)(hb:Good b):∃ t,RunsTo a (diffF a b) t∧Good t∧AlikeS t b:=by
 unfold diffF
 by_cases e:a.vars=b.vars
 ·rw[if_pos e,decide_eq_false (fun k=>k e),List.append_nil]
  obtain⟨u,r1,g1,v1,e1,n1⟩:=ZhS ha (missB b false false) (missB b false true)
  obtain⟨t,r2,g2,al⟩:=ZhO hb g1 (v1.trans e) (fun q hq=>(false_iff (ZgI hb q)).1 ((e1 q).1 hq).2) (fun q hq=>(false_iff (Zfw hb q)).1 ((n1 q).1 hq).2) (P:=missB a false false) (Q:=missB a false true)
   (fun q hq=>(ZgI ha q).trans ⟨fun k k2=>k ((e1 q).1 k2).1,fun k k2=>k ((e1 q).2 ⟨k2,(false_iff (ZgI hb q)).2 hq⟩)⟩)
   (fun q hq=>(Zfw ha q).trans ⟨fun k k2=>k ((n1 q).1 k2).1,fun k k2=>k ((n1 q).2 ⟨k2,(false_iff (Zfw hb q)).2 hq⟩)⟩)
  exact⟨t,r1.append r2,g2,al⟩
 ·rw[if_neg e,decide_eq_true e]
  obtain⟨u,r1,g1,v1,e1,n1⟩:=ZhS ha (missB b true false) (missB b true true)
  have z1:u.eqs=[]:=List.eq_nil_iff_forall_not_mem.2 fun q hq=>absurd ((e1 q).1 hq).2 (by unfold missB; simp)
  have z2:u.neqs=[]:=List.eq_nil_iff_forall_not_mem.2 fun q hq=>absurd ((n1 q).1 hq).2 (by unfold missB; simp)
  have hu:u=varS a.vars u.next:=by
   cases u
   simp only at z1 z2 v1
   subst z1 z2 v1
   rfl
  have hn:=g1.next
  have r2:=Zie u.next a.vars.length a.vars rfl ha.vars
  have r3:=ZiY u.next hb.vars hb.name hb.diff b.vars.length (Nat.le_refl _)
  rw[List.take_length] at r3
  rw[hu] at r1
  obtain⟨t,r4,g4,al⟩:=ZhO hb (Zml hb.vars hb.name hb.diff hn) rfl (fun q hq=>absurd hq List.not_mem_nil) (fun q hq=>absurd hq List.not_mem_nil) (P:=missB a true false) (Q:=missB a true true)
   (fun q _=>⟨fun _=>List.not_mem_nil,fun _=>by unfold missB; rfl⟩) (fun q _=>⟨fun _=>List.not_mem_nil,fun _=>by unfold missB; rfl⟩)
  exact⟨t,(r1.append (r2.append r3)).append r4,g4,al⟩
theorem ZlM{a:Zb}(ha:Good a){nx:Int}(hg:Good ⟨a.vars,a.eqs,a.neqs,nx⟩):diffF a ⟨a.vars,a.eqs,a.neqs,nx⟩=[]:=by
 have f1:∀ (c:Zb),Good c→c.eqs=a.eqs→a.eqs.filter (missB c false false)=[]:=fun c hc e=>List.filter_eq_nil_iff.2 fun q hq=>by
  rw[(false_iff (ZgI hc q)).2 (by rw[e]; exact hq)]; decide
 have f2:∀ (c:Zb),Good c→c.neqs=a.neqs→a.neqs.filter (missB c false true)=[]:=fun c hc e=>List.filter_eq_nil_iff.2 fun q hq=>by
  rw[(false_iff (Zfw hc q)).2 (by rw[e]; exact hq)]; decide
 unfold diffF
 rw[if_pos rfl,decide_eq_false (fun k=>k rfl),f1 _ hg rfl,f2 _ hg rfl]
 show []++[]++[]++((a.eqs.filter (missB a false false)).map (mk5 false)++(a.neqs.filter (missB a false true)).map (mk5 true))=[]
 rw[f1 a ha rfl,f2 a ha rfl]
 rfl
theorem Zif:(Zak zeroS).Ret false:=by
 unfold Zak
 rw[if_neg (by decide),if_pos (by decide)]
 rfl
theorem Zmw{a b:Zb}(hb:Good b):∀ e ∈ diffF a b,PolOk e.p∧KindOk e:=fun e he=>by
 have h6:∀ q:Za,PolOk (mk6 q).p∧KindOk (mk6 q):=fun q=>⟨ZbT,ZbL (by show -1000≤(6:Int)∧(6:Int)≤1000; decide)⟩
 have h2:∀ i:Int,PolOk (mk2 i).p∧KindOk (mk2 i):=fun i=>⟨ZbT,ZbL (by show -1000≤(2:Int)∧(2:Int)≤1000; decide)⟩
 have h1:∀ v i,PolOk (mk1 v i).p∧KindOk (mk1 v i):=fun v i=>⟨ZbT,ZbL (by show -1000≤(1:Int)∧(1:Int)≤1000; decide)⟩
 have h5:∀ n (q:Za),PolOk q.p→PolOk (mk5 n q).p∧KindOk (mk5 n q):=fun n q hq=>⟨hq,ZbL (by show -1000≤(5:Int)∧(5:Int)≤1000; decide)⟩
 unfold diffF at he
 rcases List.mem_append.1 he with he|he
 ·rcases List.mem_append.1 he with he|he
  ·rcases List.mem_append.1 he with he|he
   ·obtain⟨q,_,rfl⟩:=List.mem_map.1 he; exact h6 q
   ·obtain⟨q,_,rfl⟩:=List.mem_map.1 he; exact h6 q
  ·by_cases e1:a.vars=b.vars
   ·rw[if_pos e1] at he; exact absurd he List.not_mem_nil
   ·rw[if_neg e1] at he
    rcases List.mem_append.1 he with he|he
    ·obtain⟨q,_,rfl⟩:=List.mem_map.1 he; exact h2 _
    ·obtain⟨q,_,rfl⟩:=List.mem_map.1 he; exact h1 _ _
 ·rcases List.mem_append.1 he with he|he
  ·obtain⟨q,hq,rfl⟩:=List.mem_map.1 he; exact h5 _ q (hb.eqs.pol q (List.mem_filter.1 hq).1).1
  ·obtain⟨q,hq,rfl⟩:=List.mem_map.1 he; exact h5 _ q (hb.neqs.pol q (List.mem_filter.1 hq).1).1
theorem Zmv{a b:Zb}(ha:Good a)(hb:Good b):(diffF a b).length≤1000:=by
 have v1:=ha.vars
 have v2:=hb.vars
 have a1:=ha.eqs.len
 have a2:=ha.neqs.len
 have b1:=hb.eqs.len
 have b2:=hb.neqs.len
 have l1:=Zap b (decide (¬ a.vars=b.vars)) false a.eqs mk6
 have l2:=Zap b (decide (¬ a.vars=b.vars)) true a.neqs mk6
 have l3:=Zap a (decide (¬ a.vars=b.vars)) false b.eqs (mk5 false)
 have l4:=Zap a (decide (¬ a.vars=b.vars)) true b.neqs (mk5 true)
 have l5:(if a.vars=b.vars then [] else dropsF a.vars.length a.vars.length++addsF b.vars b.vars.length).length≤8:=by
  split
  ·simp
  ·simp[dropsF,addsF]; omega
 unfold diffF
 simp only[List.length_append]
 omega
theorem Zi0{l m:List Zs}(hl:DescsOk l)(hm:DescsOk m):(Zep l m).Ret true:=by
 obtain⟨a,h1,ha,hna⟩:=Zji hl.ok
 obtain⟨b,h2,hb,_⟩:=Zji hm.ok
 obtain⟨t,hr,_,al⟩:=ZlN ha hb
 have hna1:=ha.next
 have hw:IntKind.i64.wrap (a.next+7)=a.next+7:=wrap64 (by omega)
 have hlate:Good ⟨a.vars,a.eqs,a.neqs,a.next+7⟩:=⟨ha.vars,ha.name,ha.diff,⟨by show 1≤a.next+7; omega,by show a.next+7≤1000000; omega⟩,ha.eqs.up (by show a.next≤a.next+7; omega),ha.neqs.up (by show a.next≤a.next+7; omega),ha.apart⟩
 have hd:(ZbM a (diffF a b)).Ret ⟨t,((0+(diffF a b).length:Nat):Int),0⟩:=by
  rw[← hr.all 0]
  exact ZjB (Zmv ha hb) (Zmw hb) ha
 have hdl:(Zav a ⟨a.vars,a.eqs,a.neqs,IntKind.i64.wrap (a.next+7)⟩).Ret ([],0):=by
  rw[hw]
  have:=Zhd ha hlate
  rw[ZlM ha hlate] at this
  exact this
 have hz1:(Zav a zeroS).Ret ([],320):=by
  refine⟨true,ZbU ha,false,Zif,?_⟩
  rw[Comp.Ze,if_pos (by decide)]
  rfl
 have hz2:(Zav zeroS b).Ret ([],320):=⟨false,Zif,rfl⟩
 refine⟨true,Zlq,?_⟩
 rw[Comp.Ze,if_neg (by decide)]
 refine⟨a,h1,b,h2,_,Zhd ha hb,?_⟩
 rw[Comp.Ze,if_neg (fun k=>k rfl)]
 refine⟨_,hd,_,hdl,_,hz1,_,hz2,?_⟩
 rw[Comp.Ze,if_pos rfl]
 refine⟨true,Zlx hb.sys al,?_⟩
 exact Comp.wp.yes rfl (Comp.wp.yes rfl (Comp.wp.yes rfl (Comp.wp.yes rfl rfl)))
end Go.EL

