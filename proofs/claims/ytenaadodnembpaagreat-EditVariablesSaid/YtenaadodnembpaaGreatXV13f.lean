/- The law EditVariables holds for every input: a part of its proof (what the code does, plain models, and what they return). No condition. -/
import Derived.Test.YtenaadodnembpaaGreatXV13e
set_option linter.unusedVariables false
set_option linter.unusedSimpArgs false
namespace Go.Proofs.YtenaadodnembpaaGreat
open Go Go.EL Go.RowKit Go.Proofs
theorem ct'{slices1 slices1p slices1c r}(hr:(ZS slices1).Ret r):Ctr Tryz.prog 105 #[.slice slices1p slices1.length slices1c] (fun G=>sl (Rp.sl a') G slices1p slices1c slices1) (fun G v=>∃ zp zc,v = .slice zp r.length zc∧sl a' G zp zc r):=by
 refine C' (args:=[_]) (N:=36) Tryz.func105 z z z (fun Q I J ad=>?_)
 have n:=ad
 have hz:Q.L.zero:=by rw[J]; intro p hp; simp at hp
 refine sr<|sg z z<|nr<|sg z z<|nx<|h'<|sr<|mv z z<|yy (L' bx' n z) z<|mv z z<|nx<|ab' (fun (⟨s,H⟩:Int×Mem)=>[(0,.slice slices1p slices1.length slices1c),(3,i' s)]) (fun ⟨s,H⟩=>Mem.le I H∧(ZE slices1 s).Ret r) (fun ⟨s,H⟩=>St Q I H []) ?_ ?_
 ·refine A' ?_
  let O:Int→Prop:=fun V=>((fun ov=>match ov with|s=>ZE slices1 s:Int→Comp (List Za)) V).wp (fun a=>a=r)
  replace hr:(Comp.loop _ _).wp O:=hr
  refine ac' (Φ:=O) (fun (⟨o,t,y⟩:Int×Int×Mem)=>((o,t):Int×Int)) (fun ⟨o,t,y⟩=>[(0,.slice slices1p slices1.length slices1c),(3,i' o),(9,.slice slices1p slices1.length slices1c),(10,i' (slices1.length:Int)),(11,i' t)]) (fun ⟨o,t,y⟩=>Mem.le I y) (fun ⟨o,t,y⟩=>St Q I y []) ⟨0,0,I⟩ hr (fc z (fc z (fc z (fc z (fc z fn))))) mr (wk ln) ?_
  ·intro aH gx hx hr
   obtain⟨o,t,y⟩:=gx
   have A:=hx
   refine sr<|yy (V' z z) z<|nx<|h'<|I' hr z (fun am hr=>?_) (fun am hr=>?_)
   ·refine n'<|b'<|h'<|A'<|sr ?_
    obtain⟨x2,T,hr⟩:=hr
    refine yy (P' bx' cu' (n.mono A) z z T) z ?_
    obtain⟨p3,aD,al,ah⟩:=bU' (E' (X' n T) A)
    refine yy (T' aS' z (al)) z<|sg z z<|nr<|mv z z<|mv z z<|yy (L' q' ah z) z<|yy (N' z z) z<|sg z z<|nr<|mv z z<|yy (V' z z) z<|nx<|I' hr z (fun aq hr=>?_) (fun aq hr=>?_)
    ·exact (show False from hr).elim
    ·refine n'<|D'<|b'<|w'<|yy (N' z z) z<|mv z z<|u'<|O' ⟨IntKind.i64.wrap (o+(x2.length:Int)),IntKind.i64.wrap (t+1),y⟩ hr A (fc z (fc z (fc z (fc z (fc z fn))))) (wk ln)
   ·refine ae'<|m'<|m'<|J'<|af' ⟨o,y⟩ ⟨A,hr⟩ (fc z (fc z fn)) (wk ln)
 ·rintro⟨s,H⟩ ⟨E,hr⟩
  refine b'<|sr<|mv z z ?_
  obtain⟨ao,U,hr⟩:=hr
  refine cj' z z (t' E145 z) (de' U) z trivial ln hz (fun aB L aC F K=>?_)
  obtain⟨ae,ac,R,rfl,rfl,Z⟩:=K
  refine bu' (fun w P=>P.rekey (i:=7000) (j:=4024) z (by rw[J]; rfl))<|sg z z<|nx<|h'<|sr<|mv z z<|yy (L' bx' (n.mono (mt E F)) z) z<|mv z z<|nx<|ab' (fun (⟨d,l,m,k,C⟩:(List Za)×Option Addr×Nat×Option Ow×Mem)=>[(6,.slice l d.length m)]) (fun ⟨d,l,m,k,C⟩=>Mem.le L C∧RowR a' 68 C (.slice l d.length m) d k∧(ZP d).Ret r) (fun ⟨d,l,m,k,C⟩=>St Q I C [(4006,k)]) ?_ ?_
  ·refine A' ?_
   let M:(List Za)→Prop:=fun V=>((fun ov=>match ov with|d=>ZP d:(List Za)→Comp (List Za)) V).wp (fun a=>a=r)
   replace hr:(Comp.loop _ _).wp M:=hr
   refine ac' (Φ:=M) (fun (⟨c,h,g,f,q,x⟩:(List Za)×Option Addr×Nat×Option Ow×Int×Mem)=>((c,q):(List Za)×Int)) (fun ⟨c,h,g,f,q,x⟩=>[(6,.slice h c.length g),(25,.slice slices1p slices1.length slices1c),(26,i' (slices1.length:Int)),(27,i' q)]) (fun ⟨c,h,g,f,q,x⟩=>Mem.le L x∧RowR a' 68 x (.slice h c.length g) c f) (fun ⟨c,h,g,f,q,x⟩=>St Q I x [(4006,f)]) ⟨ao,ae,ac,R,0,L⟩ hr (fc z (fc z (fc z (fc z fn)))) ⟨mr,Z⟩ ?_ ?_
   ·intro w P
    have P:=P.rekey (i:=4024) (j:=4006) z (by rw[J]; rfl)
    exact P.weaken (lc z ln)
   ·intro aI gx hx hr
    obtain⟨c,h,g,f,q,x⟩:=gx
    obtain⟨B,u⟩:=hx
    refine sr<|yy (V' z z) z<|nx<|h'<|I' hr z (fun ak hr=>?_) (fun ak hr=>?_)
    ·refine n'<|b'<|h'<|A'<|sr ?_
     obtain⟨x1,S,hr⟩:=hr
     refine yy (P' bx' cu' (n.mono (mt (mt E F) B)) z z S) z ?_
     obtain⟨p1,aG,ai,an⟩:=bU' (E' (X' n S) (mt (mt E F) B))
     refine yy (T' aS' z (ai)) z<|sg z z<|nx<|w'<|mv z z<|mv z z ?_
     obtain⟨X,hr⟩:=hr
     refine bW' (r:=a') (e:=68) 4006 z z q' el68 z (by decide) z z u z an X fun p2 ag W aj=>sg z z<|u'<|D'<|b'<|w'<|yy (N' z z) z<|mv z z<|u'<|O' ⟨(c++x1),p2,ag,W,IntKind.i64.wrap (q+1),x⟩ hr ⟨B,aj⟩ (fc z (fc z (fc z (fc z fn)))) (wk (lc z ln))
    ·refine ae'<|m'<|m'<|J'<|af' ⟨c,h,g,f,x⟩ ⟨B,u,hr⟩ (fc z fn) (wk (lc z ln))
  ·rintro⟨d,l,m,k,C⟩ ⟨av,D,hr⟩
   refine b'<|sr<|mv z z<|sg z z<|nx<|j' ?_
   obtain rfl:_=r:=hr
   refine dD' (r:=a') (e:=68) 4006 D z (by rw[J]; rfl) fun aE aF aw Y au=>k' z z ⟨_,_,z,Y⟩
theorem fx'(d:Int)(e:Zb)(j:Nat)(i:Nat)(r:Bool)(hr:(ZX d e).Ret r):Ctr Tryz.prog 147 #[.pointer (some ⟨j,0,none⟩),.pointer (some ⟨i,0,none⟩)] (fun G=>At (Rp.int .i64) G j 0 d∧At bs' G i 0 e) (fun G v=>v = .bool r):=by
 refine C' (args:=[_,_]) (N:=12) Tryz.func147 z z z (fun o q n g=>?_)
 obtain⟨c,f⟩:=g
 refine sr<|sg z z<|nr<|yy (T' sc3 z (aC' c)) z<|aj' hr z (bD' z z) z (fun h hr=>?_) (fun h hr=>?_)
 ·refine mv z z<|gy z z (T' sc3 z (aC' c)) z<|gy z z (as' z) z ?_
  obtain⟨p,m,k,l⟩:=bU' (bb' (aA' f))
  refine gy z z (T' bo' z (k)) z<|gy z z (L' y' l z) z<|gy z z (V' z z) z<|yy (o' z z) z<|sg z z<|nx<|j' ?_
  obtain rfl:_=r:=hr
  exact k' z z z
 ·refine mv z z<|sk z z z<|sk z z z<|sk z z z<|sk z z z<|sk z z z<|yy (l' z z) z<|sg z z<|nx<|j' ?_
  obtain rfl:_=r:=hr
  exact k' z z z
theorem dY'{s1 i1 s1varsp s1varsc s1eqsp s1eqsc s1neqsp s1neqsc r}(hr:(ZcC s1 i1).Ret r):Ctr Tryz.prog 107 #[.agg ((v33' s1 s1varsp s1varsc s1eqsp s1eqsc s1neqsp s1neqsc)).toArray,i' i1] (fun G=>sl Rp.str G s1varsp s1varsc s1.vars∧sl a' G s1eqsp s1eqsc s1.eqs∧sl a' G s1neqsp s1neqsc s1.neqs) (fun G v=>∃ m p,v=m∧FnRd Tryz.prog fa0 foB G m p r):=by
 refine C' (args:=[_,_]) (N:=6) Tryz.func107 z z z (fun B A i k=>?_)
 obtain⟨e,g,f⟩:=k
 refine sr<|W' 121402 z z z fun q=>W' 121403 z z z fun o=>sg z z<|nx<|h'<|bE' 121403 z (by rw[i]; rfl) fun y d j s=>bE' 121402 z (by rw[i]; rfl) fun n c l t=>w'<|yy (bR' z z) z<|sg z z<|nx<|j' ?_
 obtain rfl:_=r:=hr
 exact k' z z ⟨_,_,z,(show FnRd Tryz.prog fa0 foB n (.func (.func 147) #[] #[.pointer (some ⟨o,0,none⟩),.pointer (some ⟨q,0,none⟩)]) () (fun _=>ZX i1 s1) from (dg' E147 (fun x u=>dh' (fx' _ _ _ _ x u) (fun C h=>⟨(E' (cn' (r:=(Rp.int .i64)) (cs:=[i' i1]) j z z) (mt c h)),(E' (cn' (r:=bs') (cs:=(v33' s1 s1varsp s1varsc s1eqsp s1eqsc s1neqsp s1neqsc)) l z ⟨[.slice s1varsp s1.vars.length s1varsc],[.slice s1eqsp s1.eqs.length s1eqsc,.slice s1neqsp s1.neqs.length s1neqsc,i' s1.next],z,⟨_,z,(e.mono (mt d c))⟩,⟨[.slice s1eqsp s1.eqs.length s1eqsc],[.slice s1neqsp s1.neqs.length s1neqsc,i' s1.next],z,⟨_,z,(g.mono (mt d c))⟩,⟨[.slice s1neqsp s1.neqs.length s1neqsc],[i' s1.next],z,⟨_,z,(f.mono (mt d c))⟩,z⟩⟩⟩) h)⟩))))⟩
theorem fd'(c:Zb)(o:Zd)(P:Nat)(C:Nat)(r:Bool)(hr:(Zax c o).Ret r):Ctr Tryz.prog 104 #[.pointer (some ⟨P,0,none⟩),.pointer (some ⟨C,0,none⟩)] (fun G=>At bs' G P 0 c∧At ah' G C 0 o) (fun G v=>v = .bool r):=by
 refine C' (args:=[_,_]) (N:=25) Tryz.func104 z z z (fun R Q X H=>?_)
 obtain⟨l,t⟩:=H
 refine sr<|sg z z<|nx<|h'<|sr<|yy (az' z) z ?_
 obtain⟨E,p,U,Y⟩:=bU' (bb' (aJ' (aA' l)))
 refine yy (T' aS' z (U)) z<|yy (aK' z) z ?_
 obtain⟨x,m,W,L⟩:=bU' (bb' (aJ' (aJ' (aA' l))))
 refine yy (T' aS' z (W)) z<|aU' (e:=31) (r:=(Rp.sl a')) (vs:=#[(0,.slice E c.eqs.length p),(1,.slice x c.neqs.length m)]) (cs:=[.slice E c.eqs.length p]++([.slice x c.neqs.length m]++([]))) ([c.eqs,c.neqs]:List (List Za)) z z z z z (by decide) (fun _=>by kernel_rfl) ⟨[.slice E c.eqs.length p],[.slice x c.neqs.length m]++([]),z,⟨_,z,Y⟩,⟨[.slice x c.neqs.length m],[],z,⟨_,z,L⟩,z⟩⟩ (key:=999) z (by rw[X]; rfl) (fun p3 ah u M=>?_)
 obtain⟨A,D,hr⟩:=hr
 refine M' z z (t' E105 z) (ct' D) z (M) (fun ad q y n=>?_)
 obtain⟨J,F,rfl,j⟩:=n
 refine yy (L' q' j z) z<|mv z z<|nx<|ab' (fun (k:Mem)=>match k with|i=>[]) (fun (k:Mem)=>match k with|i=>Mem.le q i∧(Zbj).Ret r) (fun (k:Mem)=>match k with|i=>St R Q i []) ?_ ?_
 ·refine A' ?_
  let s:(Bool⊕Unit)→Prop:=fun oo=>((fun ov=>match ov with | .inl rv1=>Comp.ret rv1 | .inr ()=>Zbj:(Bool⊕Unit)→Comp Bool) oo).wp (fun a=>a=r)
  replace hr:(Comp.loop _ _).wp s:=hr
  refine ac' (Φ:=s) (fun (⟨d,g⟩:Int×Mem)=>(d:Int)) (fun ⟨d,g⟩=>[(1,.pointer (some ⟨C,0,none⟩)),(10,.slice J A.length F),(11,i' (A.length:Int)),(12,i' d)]) (fun ⟨d,g⟩=>Mem.le q g) (fun ⟨d,g⟩=>St R Q g []) ⟨0,q⟩ hr (fc z (fc z (fc z (fc z fn)))) mr (wk ln) ?_
  ·intro ai k hx hr
   obtain⟨d,g⟩:=k
   have f:=hx
   refine sr<|yy (V' z z) z<|nx<|h'<|I' hr z (fun O hr=>?_) (fun O hr=>?_)
   ·refine n'<|b'<|h'<|A'<|sr ?_
    obtain⟨x1,B,hr⟩:=hr
    refine yy (P' q' aO' (j.mono f) z z B) z ?_
    obtain⟨aa,ac,V,K⟩:=bd' (E' (X' j B) f)
    refine yy (ax' _ bL' z z V) z<|U' 4 z z68 z fun b3=>v' 4 z aO' z z z z z (List.all_eq_true.1 z)<|nx<|h'<|Z' [false,false,false,false,false,false] mix (by kernel_rfl) fun hb=>cn (fun _ h=>bq' z)<|cn (fun _ h=>e' 4 bP' z z z) ?_
    obtain⟨aj,I,hr⟩:=hr
    refine bG' z (fun _=>t' E106 z) (cL' I) z (fun G' h=>(K.mono h))<|cn (fun _ h=>aB' z)<|cn (fun _ h=>T' sc3 z (aC' (E' (E' (bb' (aJ' (aJ' (aA' t)))) (mt (mt u y) f)) h))) ?_
    obtain⟨T,hr⟩:=hr
    refine cn (fun _ h=>Y0.shl z z T)<|Y' hb<|yy (Y0.and z z) z<|yy (aQ' z z) z<|u'<|am'<|b'<|I' hr z (fun S hr=>?_) (fun S hr=>?_)
    ·refine sr<|sg z z<|nx<|j' ?_
     replace hr:_=r:=hr
     refine x'<|g'<|g'<|x'<|aH'<|g' ?_
     subst hr
     exact k' z z z
    ·refine n'<|D'<|b'<|w'<|yy (N' z z) z<|mv z z<|u'<|O' ⟨IntKind.i64.wrap (d+1),g⟩ hr f (fc z (fc z (fc z (fc z fn)))) (wk ln)
   ·refine ae'<|m'<|m'<|J'<|af' g ⟨f,hr⟩ fn (wk ln)
 ·rintro i ⟨Z,hr⟩
  refine b'<|sr<|sg z z<|nx<|j' ?_
  obtain rfl:_=r:=hr
  exact k' z z z
theorem gg'{s1 ev1 s1varsp s1varsc s1eqsp s1eqsc s1neqsp s1neqsc ev1pp ev1pc r}(hr:(Zew s1 ev1).Ret r):Ctr Tryz.prog 65 #[.agg ((v33' s1 s1varsp s1varsc s1eqsp s1eqsc s1neqsp s1neqsc)).toArray,.agg ([i' ev1.kind,.string ev1.name,i' ev1.at',i' ev1.to',i' ev1.id,.slice ev1pp ev1.p.length ev1pc,.bool ev1.neq]).toArray] (fun G=>sl Rp.str G s1varsp s1varsc s1.vars∧sl a' G s1eqsp s1eqsc s1.eqs∧sl a' G s1neqsp s1neqsc s1.neqs∧sl r' G ev1pp ev1pc ev1.p) (fun G v=>∃ o q C D t s,v = .tuple #[.agg ((v33' r.1 o q C D t s)).toArray,i' r.2]∧sl Rp.str G o q r.1.vars∧sl a' G C D r.1.eqs∧sl a' G t s r.1.neqs):=by
 refine C' (args:=[_,_]) (N:=60) Tryz.func65 z z z (fun w0 M A aT=>?_)
 obtain⟨g,B,l,au⟩:=aT
 have hz:w0.L.zero:=by rw[A]; intro p hp; simp at hp
 refine sr<|W' 113002 z z z fun b1=>W' 113003 z z z fun b2=>U' 4 z z33 z fun b3=>sg z z<|nr<|yy (as' z) z<|yy (e' 113002 bo' z z z) z<|yy (L' y' g z) z<|sg z z<|nx<|h'<|bE' 113002 z (by rw[A]; rfl) fun bB c ax aM=>bE' 113003 z (by rw[A]; rfl) fun aW h aI aR=>w'<|yy (bR' z z) z<|sg z z<|nr<|yy (s' 113002 ag' z z z) z<|yy (aB' z) z<|yy (e' 113003 sc3 z z z) z ?_
 obtain⟨bE,av,hr⟩:=hr
 refine M' z z (t' E107 z) (dY' av) z (⟨(g.mono (mt c h)),(B.mono (mt c h)),(l.mono (mt c h))⟩) (fun bn bD T X=>?_)
 obtain⟨bb,bk,rfl,aB⟩:=X
 obtain⟨a3,aF,hr⟩:=hr
 refine M' z z (t' E94 z) (br' aF) z (aB) (fun bi bC W af=>?_)
 obtain⟨bc,a8,rfl,aj⟩:=af
 refine mv z z ?_
 obtain⟨a2,aE,hr⟩:=hr
 refine M' z z (t' E94 z) (br' aE) z (((show FnRd Tryz.prog fa0 foB aW (.func (.func 104) #[] #[.pointer (some ⟨b1,0,none⟩),.pointer (some ⟨b2,0,none⟩)]) () (fun _=>Zax s1 ev1) from (dg' E104 (fun x hx=>dh' (fd' _ _ _ _ x hx) (fun G' d=>⟨(E' (cn' (r:=bs') (cs:=(v33' s1 s1varsp s1varsc s1eqsp s1eqsc s1neqsp s1neqsc)) ax z ⟨[.slice s1varsp s1.vars.length s1varsc],[.slice s1eqsp s1.eqs.length s1eqsc,.slice s1neqsp s1.neqs.length s1neqsc,i' s1.next],z,⟨_,z,(g.mono c)⟩,⟨[.slice s1eqsp s1.eqs.length s1eqsc],[.slice s1neqsp s1.neqs.length s1neqsc,i' s1.next],z,⟨_,z,(B.mono c)⟩,⟨[.slice s1neqsp s1.neqs.length s1neqsc],[i' s1.next],z,⟨_,z,(l.mono c)⟩,z⟩⟩⟩) (mt h d)),(E' (cn' (r:=ah') (cs:=[i' ev1.kind,.string ev1.name,i' ev1.at',i' ev1.to',i' ev1.id,.slice ev1pp ev1.p.length ev1pc,.bool ev1.neq]) aI z ⟨[i' ev1.kind],[.string ev1.name,i' ev1.at',i' ev1.to',i' ev1.id,.slice ev1pp ev1.p.length ev1pc,.bool ev1.neq],z,z,⟨[.string ev1.name],[i' ev1.at',i' ev1.to',i' ev1.id,.slice ev1pp ev1.p.length ev1pc,.bool ev1.neq],z,z,⟨[i' ev1.at'],[i' ev1.to',i' ev1.id,.slice ev1pp ev1.p.length ev1pc,.bool ev1.neq],z,z,⟨[i' ev1.to'],[i' ev1.id,.slice ev1pp ev1.p.length ev1pc,.bool ev1.neq],z,z,⟨[i' ev1.id],[.slice ev1pp ev1.p.length ev1pc,.bool ev1.neq],z,z,⟨[.slice ev1pp ev1.p.length ev1pc],[.bool ev1.neq],z,⟨_,z,(au.mono (mt c h))⟩,z⟩⟩⟩⟩⟩⟩) d)⟩)))).mono (mt T W))) (fun bu bF V ae=>?_)
 obtain⟨br,bs,rfl,am⟩:=ae
 obtain⟨al,K,rfl⟩:=cf' aj
 obtain⟨U,E,rfl⟩:=cf' am
 refine aU' (e:=131) (r:=(Rp.fn Tryz.prog fa0 foI)) (vs:=#[(0,(.func (.func al) #[] K)),(1,(.func (.func U) #[] E))]) (cs:=[(.func (.func al) #[] K)]++([(.func (.func U) #[] E)]++([]))) ([a3,a2]:List (Unit→Comp Int)) z z z z z (by decide) (fun _=>by kernel_rfl) ⟨[(.func (.func al) #[] K)],[(.func (.func U) #[] E)]++([]),z,⟨_,z,(aj.mono V)⟩,⟨[(.func (.func U) #[] E)],[],z,⟨_,z,am⟩,z⟩⟩ (key:=999) z (by rw[A]; rfl) (fun p1 bz aq a1=>?_)
 obtain⟨bA,aA,hr⟩:=hr
 refine H' z z (t' E93 z) (cH' aA) z (a1)<|sg z z<|cP' 113003 z aR c (mt (mt (mt (mt h T) W) V) aq)<|cP' 113002 z aM mr c<|nx<|h'<|sr<|mv z z<|yy (aQ' z z) z<|nx<|I' hr z (fun aY hr=>?_) (fun aY hr=>?_)
 ·refine sr<|yy (aq' (vs:=#[]) (v:=.agg ([.slice none 0 0,.slice none 0 0,.slice none 0 0,i' 0]).toArray) z z (fun _=>by kernel_rfl)) z<|mv z z<|v' 4 z aY' z z z z z (List.all_eq_true.1 z)<|sg z z<|nx<|j' ?_
  replace hr:_=r:=hr
  refine g' ?_
  subst hr
  exact aI' z (ad' (i:=4) ag' z z z) z ⟨_,_,_,_,_,_,z,(aa' Rp.str _),(aa' a' _),(aa' a' _)⟩
 ·refine n'<|b'<|sr ?_
  obtain⟨S,ay,hr⟩:=hr
  refine H' z z (t' E100 z) (dX' ay) z (trivial)<|U' 9 z z83 z fun b4=>v' 9 z sz83 z z z (Q' _ _ _) (Q' _ _ _) (fun u hu=>Rp.one (cx' .i64 8) (G:=M) (x:=S) (cs:=vecG (Value.int .i64) 8 S) z u (by first|simpa using hu|simpa [Value.cells] using hu))<|nr<|yy (aB' z) z<|yy (e' 113003 sc3 z z z) z<|mv z z<|yy (bf' z z) z ?_
  obtain⟨aU,hr⟩:=hr
  refine yy (aX' ba' sz3 z z aU) z<|aw' 9 (vecG (Value.int .i64) 8 (setF S ev1.at'.toNat (IntKind.i64.wrap ((s1.vars.length:Int)-1)))).toArray z sz3 z z z (by first|(rw[Q']; omega)|(show _<(vecG _ _ _).toArray.size; rw[Q']; omega)) z (bX' _ _ _ _ _)<|nx<|h'<|sr<|yy (aB' z) z<|yy (e' 113003 sc3 z z z) z<|yy (N' z z) z<|sg z z<|nx<|ab' (fun (⟨y,J⟩:(Fin 8→Int)×Mem)=>[(2,.pointer (some ⟨b1,0,none⟩)),(3,.pointer (some ⟨b2,0,none⟩)),(4,.pointer (some ⟨b3,0,none⟩)),(9,.pointer (some ⟨b4,0,none⟩))]) (fun ⟨y,J⟩=>Mem.le M J∧(ZcB s1 ev1 y).Ret r) (fun ⟨y,J⟩=>St w0 M J [(113002,some ⟨b1,.cells ((v33' s1 s1varsp s1varsc s1eqsp s1eqsc s1neqsp s1neqsc)).toArray 33 (0,0),0⟩),(113003,some ⟨b2,.cells ([i' ev1.kind,.string ev1.name,i' ev1.at',i' ev1.to',i' ev1.id,.slice ev1pp ev1.p.length ev1pc,.bool ev1.neq]).toArray 40 (0,0),0⟩),(4,some ⟨b3,.cells ([.slice none 0 0,.slice none 0 0,.slice none 0 0,i' 0]).toArray 33 (0,0),0⟩),(9,some ⟨b4,.cells (vecG (Value.int .i64) 8 y).toArray 83 (0,0),0⟩)]) ?_ ?_
  ·refine A' ?_
   let ak:(Fin 8→Int)→Prop:=fun oo=>((fun ov=>match ov with|y=>ZcB s1 ev1 y:(Fin 8→Int)→Comp (Zb×Int)) oo).wp (fun a=>a=r)
   replace hr:(Comp.loop _ _).wp ak:=hr
   refine ac' (Φ:=ak) (fun (⟨n,k,m⟩:Int×(Fin 8→Int)×Mem)=>((n,k):Int×(Fin 8→Int))) (fun ⟨n,k,m⟩=>[(2,.pointer (some ⟨b1,0,none⟩)),(3,.pointer (some ⟨b2,0,none⟩)),(4,.pointer (some ⟨b3,0,none⟩)),(6,i' (s1.vars.length:Int)),(9,.pointer (some ⟨b4,0,none⟩)),(10,i' n)]) (fun ⟨n,k,m⟩=>Mem.le M m) (fun ⟨n,k,m⟩=>St w0 M m [(113002,some ⟨b1,.cells ((v33' s1 s1varsp s1varsc s1eqsp s1eqsc s1neqsp s1neqsc)).toArray 33 (0,0),0⟩),(113003,some ⟨b2,.cells ([i' ev1.kind,.string ev1.name,i' ev1.at',i' ev1.to',i' ev1.id,.slice ev1pp ev1.p.length ev1pc,.bool ev1.neq]).toArray 40 (0,0),0⟩),(4,some ⟨b3,.cells ([.slice none 0 0,.slice none 0 0,.slice none 0 0,i' 0]).toArray 33 (0,0),0⟩),(9,some ⟨b4,.cells (vecG (Value.int .i64) 8 k).toArray 83 (0,0),0⟩)]) ⟨IntKind.i64.wrap (ev1.at'+1),setF S ev1.at'.toNat (IntKind.i64.wrap ((s1.vars.length:Int)-1)),M⟩ hr (fc z (fc z (fc z (fc z (fc z (fc z fn)))))) mr (wk (lc z (lc z (lc z (lc z ln))))) ?_
   ·intro bG gx hx hr
    obtain⟨n,k,m⟩:=gx
    have R:=hx
    refine h'<|sr<|mv z z<|mv z z<|yy (V' z z) z<|nx<|I' hr z (fun a0 hr=>?_) (fun a0 hr=>?_)
    ·refine n'<|b'<|h'<|A'<|w'<|mv z z<|mv z z<|yy (bf' z z) z ?_
     obtain⟨aX,hr⟩:=hr
     refine yy (aX' ba' sz3 z z aX) z<|aw' 9 (vecG (Value.int .i64) 8 (setF k n.toNat (IntKind.i64.wrap (n-1)))).toArray z sz3 z z z (by first|(rw[Q']; omega)|(show _<(vecG _ _ _).toArray.size; rw[Q']; omega)) z (bX' _ _ _ _ _)<|u'<|D'<|b'<|w'<|mv z z<|yy (N' z z) z<|sg z z<|u'<|O' ⟨IntKind.i64.wrap (n+1),setF k n.toNat (IntKind.i64.wrap (n-1)),m⟩ hr R (fc z (fc z (fc z (fc z (fc z (fc z fn)))))) (wk (lc z (lc z (lc z (lc z ln)))))
    ·refine ae'<|m'<|m'<|J'<|af' ⟨k,m⟩ ⟨R,hr⟩ (fc z (fc z (fc z (fc z fn)))) (wk (lc z (lc z (lc z (lc z ln)))))
  ·rintro⟨y,J⟩ ⟨F,hr⟩
   refine b'<|sr<|yy (s' 113002 ag' z z z) z<|yy (s' 9 ag83 z z (Q' _ _ _)) z ?_
   obtain⟨ai,aS,hr⟩:=hr
   refine M' z z (t' E101 z) (eh' aS) z (⟨(g.mono F),(B.mono F),(l.mono F)⟩) (fun bf bw a7 aa=>?_)
   obtain⟨aN,aJ,Z,ab,Q,O,rfl,L,ac,P⟩:=aa
   refine v' 113002 z aY' z z z z z (List.all_eq_true.1 z)<|nx<|h'<|Z' [false,false,false,false,false,false,false,false] mix (by kernel_rfl) fun hb=>cn (fun _ d=>as' z)<|cn (fun _ d=>e' 113002 bo' z z z) ?_
   obtain⟨aZ,aO,hr⟩:=hr
   refine Chain.callOwn (f:=103) (r:=Rp.str) (e:=9) (xs:=aZ) (fun _=>z) (fun u G' d hu=>?_) ?_
   ·skip
    exact⟨_,_,_,fun _=>t' E103 z,cl' aO,z,(L.mono d)⟩
   refine cu (fun _ _ d=>aB' z)<|cu (fun _ _ d=>e' 113003 sc3 z z z)<|cu (fun _ _ d=>aB' z)<|cu (fun _ _ d=>e' 113003 sc3 z z z)<|cu (fun _ _ d=>N' z z)<|Chain.tailX1 fun bo X1 an Y=>WL.adoptR Y (fun bg bt a4 aC aK bh=>?_)
   subst aC
   refine bT' (show WL _ _ _ _ _ _ (St w0 M X1.m _) from ?_)
   obtain⟨aV,aP,hr⟩:=hr
   refine bu' (fun w hs=>hs.rekey (i:=51) (j:=5000) z (by rw[A]; rfl))<|cj' z z (t' E108 z) (ec' aP) z (aK) (lc z ln) hz (fun bl be a9 I ad=>?_)
   obtain⟨aG,aL,a6,rfl,rfl,aD⟩:=ad
   refine bu' (fun w hs=>hs.rekey (i:=5000) (j:=4057) z (by rw[A]; rfl))<|bv' (r:=Rp.str) (e:=9) 4057 aD z (by rw[A]; rfl) fun bx bq H az a5=>yy (as' z) z<|aw' 113002 ([.slice aG aV.length aL,.slice Z ai.eqs.length ab,.slice Q ai.neqs.length O,i' ai.next]).toArray z sz30 z z z (show 0<4 by decide) z z<|u'<|am'<|b'<|sr<|yy (s' 113002 ag' z z z) z<|v' 4 z aY' z z z z z (List.all_eq_true.1 z)<|sg z z<|nx<|j' ?_
   obtain rfl:_=r:=hr
   exact aI' z (ad' (i:=4) ag' z z z) z ⟨_,_,_,_,_,_,z,az,(ac.mono (mt (mt an I) H)),(P.mono (mt (mt an I) H))⟩
theorem fp'(d:Zb)(e:Zd)(l:Nat)(j:Nat)(r:Bool)(hr:(ZaI d e).Ret r):Ctr Tryz.prog 109 #[.pointer (some ⟨l,0,none⟩),.pointer (some ⟨j,0,none⟩)] (fun G=>At bs' G l 0 d∧At ah' G j 0 e) (fun G v=>v = .bool r):=by
 refine C' (args:=[_,_]) (N:=22) Tryz.func109 z z z (fun x u s h=>?_)
 obtain⟨f,c⟩:=h
 refine sr<|sg z z<|nr<|yy (as' z) z ?_
 obtain⟨t,q,m,o⟩:=bU' (bb' (aA' f))
 refine yy (T' bo' z (m)) z<|yy (bV' z) z<|yy (T' sc9 z (bB' (bb' (aJ' (aA' c))))) z ?_
 obtain⟨p,g,hr⟩:=hr
 refine H' z z (t' E110 z) (cz' g) z (o)<|sg z z<|nr<|yy (bV' z) z<|yy (T' sc9 z (bB' (bb' (aJ' (aA' c))))) z ?_
 obtain⟨n,i,hr⟩:=hr
 refine H' z z (t' E98 z) (dM' i) z (trivial) ?_
 cases n
 ·skip
  refine mv z z<|sk z z z<|sk z z z<|sk z z z<|aF' (ai' z z) z<|aF' (ai' z z) z<|aF' (ai' z z) z<|aF' (ai' z z) z<|sk z z z<|yy (l' z z) z<|sg z z<|nx<|j' ?_
  obtain rfl:_=r:=hr
  exact k' z z z
 ·skip
  refine mv z z<|gy z z (f' z) z<|aj' hr (F' z z) (V' z z) z (fun k hr=>?_) (fun k hr=>?_)
  ·refine gy z z (f' z) z<|sf z z z<|sf z z z<|sf z z z<|sf z z z<|gy z z (o' z z) z<|yy (o' z z) z<|sg z z<|nx<|j' ?_
   obtain rfl:_=r:=hr
   exact k' z z z
  ·refine gy z z (f' z) z<|gy z z (f' z) z<|gy z z (aB' z) z<|gy z z (T' sc3 z (aC' (bb' (aJ' (aJ' (aA' c)))))) z<|gy z z (ak' z z) z<|gy z z (l' z z) z<|yy (o' z z) z<|sg z z<|nx<|j' ?_
   obtain rfl:_=r:=hr
   exact k' z z z
theorem gu'{s1 ev1 s1varsp s1varsc s1eqsp s1eqsc s1neqsp s1neqsc ev1pp ev1pc r}(hr:(Zft s1 ev1).Ret r):Ctr Tryz.prog 66 #[.agg ((v33' s1 s1varsp s1varsc s1eqsp s1eqsc s1neqsp s1neqsc)).toArray,.agg ([i' ev1.kind,.string ev1.name,i' ev1.at',i' ev1.to',i' ev1.id,.slice ev1pp ev1.p.length ev1pc,.bool ev1.neq]).toArray] (fun G=>sl Rp.str G s1varsp s1varsc s1.vars∧sl a' G s1eqsp s1eqsc s1.eqs∧sl a' G s1neqsp s1neqsc s1.neqs∧sl r' G ev1pp ev1pc ev1.p) (fun G v=>∃ h k o s m l,v = .tuple #[.agg ((v33' r.1 h k o s m l)).toArray,i' r.2]∧sl Rp.str G h k r.1.vars∧sl a' G o s r.1.eqs∧sl a' G m l r.1.neqs):=by
 refine C' (args:=[_,_]) (N:=34) Tryz.func66 z z z (fun w0 G0 q ag=>?_)
 obtain⟨f,n,g,R⟩:=ag
 have hz:w0.L.zero:=by rw[q]; intro p hp; simp at hp
 refine sr<|W' 113202 z z z fun b1=>W' 113203 z z z fun b2=>U' 4 z z33 z fun b3=>sg z z<|nx<|h'<|bE' 113202 z (by rw[q]; rfl) fun aO c V ae=>bE' 113203 z (by rw[q]; rfl) fun ai d ad af=>w'<|yy (bR' z z) z<|sg z z<|nr<|yy (s' 113202 ag' z z z) z<|yy (aB' z) z<|yy (e' 113203 sc3 z z z) z ?_
 obtain⟨aR,U,hr⟩:=hr
 refine M' z z (t' E107 z) (dY' U) z (⟨(f.mono (mt c d)),(n.mono (mt c d)),(g.mono (mt c d))⟩) (fun aC aQ A F=>?_)
 obtain⟨av,aA,rfl,Z⟩:=F
 obtain⟨an,ac,hr⟩:=hr
 refine M' z z (t' E94 z) (br' ac) z (Z) (fun ay aP D J=>?_)
 obtain⟨aw,ar,rfl,L⟩:=J
 refine mv z z ?_
 obtain⟨am,ab,hr⟩:=hr
 refine M' z z (t' E94 z) (br' ab) z (((show FnRd Tryz.prog fa0 foB ai (.func (.func 109) #[] #[.pointer (some ⟨b1,0,none⟩),.pointer (some ⟨b2,0,none⟩)]) () (fun _=>ZaI s1 ev1) from (dg' E109 (fun x hx=>dh' (fp' _ _ _ _ x hx) (fun G' S=>⟨(E' (cn' (r:=bs') (cs:=(v33' s1 s1varsp s1varsc s1eqsp s1eqsc s1neqsp s1neqsc)) V z ⟨[.slice s1varsp s1.vars.length s1varsc],[.slice s1eqsp s1.eqs.length s1eqsc,.slice s1neqsp s1.neqs.length s1neqsc,i' s1.next],z,⟨_,z,(f.mono c)⟩,⟨[.slice s1eqsp s1.eqs.length s1eqsc],[.slice s1neqsp s1.neqs.length s1neqsc,i' s1.next],z,⟨_,z,(n.mono c)⟩,⟨[.slice s1neqsp s1.neqs.length s1neqsc],[i' s1.next],z,⟨_,z,(g.mono c)⟩,z⟩⟩⟩) (mt d S)),(E' (cn' (r:=ah') (cs:=[i' ev1.kind,.string ev1.name,i' ev1.at',i' ev1.to',i' ev1.id,.slice ev1pp ev1.p.length ev1pc,.bool ev1.neq]) ad z ⟨[i' ev1.kind],[.string ev1.name,i' ev1.at',i' ev1.to',i' ev1.id,.slice ev1pp ev1.p.length ev1pc,.bool ev1.neq],z,z,⟨[.string ev1.name],[i' ev1.at',i' ev1.to',i' ev1.id,.slice ev1pp ev1.p.length ev1pc,.bool ev1.neq],z,z,⟨[i' ev1.at'],[i' ev1.to',i' ev1.id,.slice ev1pp ev1.p.length ev1pc,.bool ev1.neq],z,z,⟨[i' ev1.to'],[i' ev1.id,.slice ev1pp ev1.p.length ev1pc,.bool ev1.neq],z,z,⟨[i' ev1.id],[.slice ev1pp ev1.p.length ev1pc,.bool ev1.neq],z,z,⟨[.slice ev1pp ev1.p.length ev1pc],[.bool ev1.neq],z,⟨_,z,(R.mono (mt c d))⟩,z⟩⟩⟩⟩⟩⟩) S)⟩)))).mono (mt A D))) (fun aI aS C I=>?_)
 obtain⟨aF,aG,rfl,P⟩:=I
 obtain⟨M,u,rfl⟩:=cf' L
 obtain⟨B,t,rfl⟩:=cf' P
 refine aU' (e:=131) (r:=(Rp.fn Tryz.prog fa0 foI)) (vs:=#[(0,(.func (.func M) #[] u)),(1,(.func (.func B) #[] t))]) (cs:=[(.func (.func M) #[] u)]++([(.func (.func B) #[] t)]++([]))) ([an,am]:List (Unit→Comp Int)) z z z z z (by decide) (fun _=>by kernel_rfl) ⟨[(.func (.func M) #[] u)],[(.func (.func B) #[] t)]++([]),z,⟨_,z,(L.mono C)⟩,⟨[(.func (.func B) #[] t)],[],z,⟨_,z,P⟩,z⟩⟩ (key:=999) z (by rw[q]; rfl) (fun p1 aM Q al=>?_)
 obtain⟨aN,Y,hr⟩:=hr
 refine H' z z (t' E93 z) (cH' Y) z (al)<|sg z z<|cP' 113203 z af c (mt (mt (mt (mt d A) D) C) Q)<|cP' 113202 z ae mr c<|nx<|h'<|sr<|mv z z<|yy (aQ' z z) z<|nx<|I' hr z (fun ak hr=>?_) (fun ak hr=>?_)
 ·refine sr<|yy (aq' (vs:=#[]) (v:=.agg ([.slice none 0 0,.slice none 0 0,.slice none 0 0,i' 0]).toArray) z z (fun _=>by kernel_rfl)) z<|mv z z<|v' 4 z aY' z z z z z (List.all_eq_true.1 z)<|sg z z<|nx<|j' ?_
  replace hr:_=r:=hr
  refine g' ?_
  subst hr
  exact aI' z (ad' (i:=4) ag' z z z) z ⟨_,_,_,_,_,_,z,(aa' Rp.str _),(aa' a' _),(aa' a' _)⟩
 ·refine n'<|b'<|sr<|yy (as' z) z<|yy (e' 113202 bo' z z z) z ?_
  obtain⟨aj,W,hr⟩:=hr
  refine cj' z z (t' E103 z) (cl' W) z (f) ln hz (fun aD aT ax y H=>?_)
  obtain⟨ah,aa,ap,rfl,rfl,O⟩:=H
  refine bu' (fun w hs=>hs.rekey (i:=7000) (j:=4024) z (by rw[q]; rfl))<|yy (as' z) z<|aw' 113202 ([.slice ah aj.length aa,.slice s1eqsp s1.eqs.length s1eqsc,.slice s1neqsp s1.neqs.length s1neqsc,i' s1.next]).toArray z sz30 z z z (show 0<4 by decide) z z<|nr<|yy (as' z) z<|yy (e' 113202 bo' z z z) z<|yy (aB' z) z<|yy (e' 113203 sc3 z z z) z<|yy (bV' z) z<|yy (e' 113203 sc9 z z z) z ?_
  obtain⟨x1,T,hr⟩:=hr
  refine yy (aZ' y' sz9 O z z T) z<|by' (r:=Rp.str) (e:=9) (cs':=[.string ev1.name]) (i:=ev1.at') (z':=ev1.name) 4024 z sz9 z O z z z z z T fun aL X=>nr<|bv' (r:=Rp.str) (e:=9) 4024 X z (by rw[q]; rfl) fun aJ aK E K ao=>yy (s' 113202 ag' z z z) z<|v' 4 z aY' z z z z z (List.all_eq_true.1 z)<|sg z z<|nx<|j' ?_
  obtain rfl:_=r:=hr
  exact aI' z (ad' (i:=4) ag' z z z) z ⟨_,_,_,_,_,_,(by rw[cY' K]),(cR' K),(n.mono (mt y E)),(g.mono (mt y E))⟩
theorem gI'{a0_1 a1_1 a0_1varsp a0_1varsc a0_1eqsp a0_1eqsc a0_1neqsp a0_1neqsc a1_1pp a1_1pc r}(hr:(Zg0 a0_1 a1_1).Ret r):Ctr Tryz.prog 67 #[.agg ((v33' a0_1 a0_1varsp a0_1varsc a0_1eqsp a0_1eqsc a0_1neqsp a0_1neqsc)).toArray,.agg ([i' a1_1.kind,.string a1_1.name,i' a1_1.at',i' a1_1.to',i' a1_1.id,.slice a1_1pp a1_1.p.length a1_1pc,.bool a1_1.neq]).toArray] (fun G=>sl Rp.str G a0_1varsp a0_1varsc a0_1.vars∧sl a' G a0_1eqsp a0_1eqsc a0_1.eqs∧sl a' G a0_1neqsp a0_1neqsc a0_1.neqs∧sl r' G a1_1pp a1_1pc a1_1.p) (fun G v=>∃ C E J M H F,v = .tuple #[.agg ((v33' r.1 C E J M H F)).toArray,i' r.2]∧sl Rp.str G C E r.1.vars∧sl a' G J M r.1.eqs∧sl a' G H F r.1.neqs):=by
 refine C' (args:=[_,_]) (N:=65) Tryz.func67 z z z (fun w0 G0 Z aM=>?_)
 obtain⟨n,t,m,aR⟩:=aM
 have hz:w0.L.zero:=by rw[Z]; intro p hp; simp at hp
 refine sr<|W' 2 z z z fun b1=>W' 3 z z z fun b2=>U' 4 z z33 z fun b3=>sg z z<|nx<|h'<|Z' [false,false,false,false,false,false,false,false] mix (by kernel_rfl) fun hb=>cn (fun _ c=>s' 2 ag' z z z)<|cn (fun _ c=>aB' z)<|cn (fun _ c=>e' 3 sc3 z z z) ?_
 obtain⟨ao,aB,hr⟩:=hr
 refine ay' (post:=fun G v=>∃ g l,v=g∧FnRd Tryz.prog fa0 foB G g l ao) (fun _=>z) (fun _ _=>t' E107 z) (dY' aB) z (fun G' c=>⟨(n.mono c),(t.mono c),(m.mono c)⟩) (fun v G1 G2 c h=>?_) ?_
 ·obtain⟨g,l,rfl,P⟩:=h
  exact⟨_,_,z,P.mono c⟩
 obtain⟨ap,aG,hr⟩:=hr
 refine cU' (f:=94) (φ:=fun G v=>∃ s B,v=s∧FnRd Tryz.prog fa0 foI G s B ap) (fun _=>z) (fun v G1 G2 c h=>?_) (fun u G' c hu=>?_) ?_
 ·obtain⟨s,B,rfl,Q⟩:=h
  exact⟨_,_,z,Q.mono c⟩
 ·obtain⟨⟨g,l,au,P⟩,_⟩:=(show (fun G v=>∃ g l,v=g∧FnRd Tryz.prog fa0 foB G g l ao) G'.m (u 11)∧True from hu)
  exact⟨_,_,_,fun _=>t' E94 z,br' aG,(by simp only[au] <;> rfl),P⟩
 refine cu (fun _ _ c=>s' 2 ag' z z z)<|cu (fun _ _ c=>cr' z)<|cu (fun _ _ c=>e' 3 sc3 z z z)<|df' (d:=12) (post:=fun G v=>∃ s B,v=s∧FnRd Tryz.prog fa0 foI G s B ap) (d':=11) (post':=fun G v=>∃ g l,v=g∧FnRd Tryz.prog fa0 foB G g l ao) (fun a5 a9 bm q ah ac=>?_)
 obtain⟨s,B,rfl,Q⟩:=ah
 obtain⟨g,l,rfl,P⟩:=ac
 obtain⟨bq,aF,hr⟩:=hr
 refine M' z z (t' E107 z) (dY' aF) z (⟨(n.mono q),(t.mono q),(m.mono q)⟩) (fun bg bk y ag=>?_)
 obtain⟨bc,bd,rfl,aK⟩:=ag
 obtain⟨aS,aE,hr⟩:=hr
 refine M' z z (t' E94 z) (br' aE) z (aK) (fun a7 bn A ae=>?_)
 obtain⟨a1,bf,rfl,al⟩:=ae
 obtain⟨an,T,rfl⟩:=cf' Q
 obtain⟨Y,R,rfl⟩:=cf' al
 refine aU' (e:=131) (r:=(Rp.fn Tryz.prog fa0 foI)) (vs:=#[(0,(.func (.func an) #[] T)),(1,(.func (.func Y) #[] R))]) (cs:=[(.func (.func an) #[] T)]++([(.func (.func Y) #[] R)]++([]))) ([ap,aS]:List (Unit→Comp Int)) z z z z z (by decide) (fun _=>by kernel_rfl) ⟨[(.func (.func an) #[] T)],[(.func (.func Y) #[] R)]++([]),z,⟨_,z,(Q.mono (mt y A))⟩,⟨[(.func (.func Y) #[] R)],[],z,⟨_,z,al⟩,z⟩⟩ (key:=999) z (by rw[Z]; rfl) (fun p1 aW S aX=>?_)
 obtain⟨bl,aD,hr⟩:=hr
 refine H' z z (t' E93 z) (cH' aD) z (aX)<|sg z z<|u'<|am'<|b'<|h'<|sr<|mv z z<|yy (aQ' z z) z<|nx<|I' hr z (fun aV hr=>?_) (fun aV hr=>?_)
 ·refine sr<|yy (aq' (vs:=#[]) (v:=.agg ([.slice none 0 0,.slice none 0 0,.slice none 0 0,i' 0]).toArray) z z (fun _=>by kernel_rfl)) z<|mv z z<|v' 4 z aY' z z z z z (List.all_eq_true.1 z)<|sg z z<|nx<|j' ?_
  replace hr:_=r:=hr
  refine g' ?_
  subst hr
  exact aI' z (ad' (i:=4) ag' z z z) z ⟨_,_,_,_,_,_,z,(aa' Rp.str _),(aa' a' _),(aa' a' _)⟩
 ·refine n'<|b'<|sr ?_
  obtain⟨W,aL,hr⟩:=hr
  refine H' z z (t' E100 z) (dX' aL) z (trivial)<|U' 7 z z83 z fun b4=>v' 7 z sz83 z z z (Q' _ _ _) (Q' _ _ _) (fun u hu=>Rp.one (cx' .i64 8) (G:=aW) (x:=W) (cs:=vecG (Value.int .i64) 8 W) z u (by first|simpa using hu|simpa [Value.cells] using hu))<|nx<|h'<|WC.drawnB [(3,some ⟨b2,.cells ([i' a1_1.kind,.string a1_1.name,i' a1_1.at',i' a1_1.to',i' a1_1.id,.slice a1_1pp a1_1.p.length a1_1pc,.bool a1_1.neq]).toArray 40 (0,0),0⟩)] (lc z ln) [false,false,true,true,false,false,true,true,false] mix (by kernel_rfl) fun hb=>cn (fun _ c=>aB' z)<|cn (fun _ c=>e' 3 sc3 z z z)<|cV' z (cr' z)<|cV' z (e' 3 sc3 z z z)<|cn (fun _ c=>cr' z)<|cn (fun _ c=>e' 3 sc3 z z z)<|cV' z (aB' z)<|cV' z (e' 3 sc3 z z z) ?_
  obtain⟨aN,hr⟩:=hr
  refine cn (fun _ c=>aX' ba' sz3 z z aN)<|Chain.tailB hb<|WLT.storeL (fun w o=>o.weaken (lc z ln)) 7 (vecG (Value.int .i64) 8 (setF W a1_1.at'.toNat a1_1.to')).toArray z sz3 z z z (by first|(rw[Q']; omega)|(show _<(vecG _ _ _).toArray.size; rw[Q']; omega)) z (bX' _ _ _ _ _) ?_
  obtain⟨aT,hr⟩:=hr
  refine WLT.y0 (fun w o=>o.weaken (lc z ln)) z (aX' ba' sz3 z z aT) z<|WLT.storeL (fun w o=>o.weaken (lc z ln)) 7 (vecG (Value.int .i64) 8 (setF (setF W a1_1.at'.toNat a1_1.to') a1_1.to'.toNat a1_1.at')).toArray z sz3 z z z (by first|(rw[Q']; omega)|(show _<(vecG _ _ _).toArray.size; rw[Q']; omega)) z (bX' _ _ _ _ _)<|WLT.nil (fun w o=>o.weaken (lc z ln))<|am'<|b'<|sr<|yy (s' 2 ag' z z z) z<|yy (s' 7 ag83 z z (Q' _ _ _)) z ?_
  obtain⟨K,aI,hr⟩:=hr
  refine M' z z (t' E101 z) (eh' aI) z (⟨(n.mono (mt (mt (mt q y) A) S)),(t.mono (mt (mt (mt q y) A) S)),(m.mono (mt (mt (mt q y) A) S))⟩) (fun bb br a0 ad=>?_)
  obtain⟨aA,aH,L,O,I,D,rfl,U,ab,V⟩:=ad
  refine v' 2 z aY' z z z z z (List.all_eq_true.1 z)<|nr<|yy (as' z) z<|yy (e' 2 bo' z z z) z ?_
  obtain⟨av,aJ,hr⟩:=hr
  refine cj' z z (t' E103 z) (cl' aJ) z (U) ln hz (fun a8 bp a2 X af=>?_)
  obtain⟨ak,am,aZ,rfl,rfl,k⟩:=af
  refine bu' (fun w o=>o.rekey (i:=7000) (j:=4040) z (by rw[Z]; rfl))<|yy (as' z) z<|aw' 2 ([.slice ak av.length am,.slice L K.eqs.length O,.slice I K.neqs.length D,i' K.next]).toArray z sz30 z z z (show 0<4 by decide) z z<|nx<|h'<|WC.drawnB [(2,some ⟨b1,.cells ([.slice ak av.length am,.slice L K.eqs.length O,.slice I K.neqs.length D,i' K.next]).toArray 33 (0,0),0⟩),(3,some ⟨b2,.cells ([i' a1_1.kind,.string a1_1.name,i' a1_1.at',i' a1_1.to',i' a1_1.id,.slice a1_1pp a1_1.p.length a1_1pc,.bool a1_1.neq]).toArray 40 (0,0),0⟩)] (lc z (lc z ln)) [false,false,false,false,true,true,true,true,false,false,false,false,false,false,false,false,false,false,false,false,false] mix (by kernel_rfl) fun hb=>cn (fun _ c=>as' z)<|cn (fun _ c=>e' 2 bo' z z z)<|cn (fun _ c=>aB' z)<|cn (fun _ c=>e' 3 sc3 z z z)<|cV' z (as' z)<|cV' z (e' 2 bo' z z z)<|cV' z (cr' z)<|cV' z (e' 3 sc3 z z z)<|cn (fun _ c=>as' z)<|cn (fun _ c=>e' 2 bo' z z z)<|cn (fun _ c=>cr' z)<|cn (fun _ c=>e' 3 sc3 z z z) ?_
  obtain⟨x1,ax,hr⟩:=hr
  refine cn (fun _ c=>aZ' y' sz9 (k.mono c) z z ax)<|cn (fun _ c=>dQ' sc9 (k.mono c) (key:=4040) z z (bB' (cK' k ax)))<|cn (fun _ c=>as' z)<|cn (fun _ c=>e' 2 bo' z z z)<|cn (fun _ c=>aB' z)<|cn (fun _ c=>e' 3 sc3 z z z) ?_
  obtain⟨x2,ay,hr⟩:=hr
  refine cn (fun _ c=>aZ' y' sz9 (k.mono c) z z ay)<|cn (fun _ c=>dQ' sc9 (k.mono c) (key:=4040) z z (bB' (cK' k ay))) ?_
  obtain⟨x3,az,hr⟩:=hr
  refine cn (fun _ c=>aZ' y' sz9 (k.mono c) z z az)<|Chain.tailB hb<|WLT.one (fun w o=>o.weaken (lc z (lc z ln)))<|by' (r:=Rp.str) (e:=9) (cs':=[.string x1]) (i:=a1_1.at') (z':=x1) 4040 z sz9 z k z z z z z az fun bj ai=>WLT.back ?_
  obtain⟨x4,aw,hr⟩:=hr
  refine WLT.y0 (fun w o=>o.weaken (lc z (lc z ln))) z (aZ' y' sz9 ai z z aw) z<|WLT.one (fun w o=>o.weaken (lc z (lc z ln)))<|by' (r:=Rp.str) (e:=9) (cs':=[.string x2]) (i:=a1_1.to') (z':=x2) 4040 z sz9 z ai z z z z z aw fun bh aC=>WLT.back<|WLT.nil (fun w o=>o.weaken (lc z (lc z ln)))<|am'<|b'<|sr<|bv' (r:=Rp.str) (e:=9) 4040 aC z (by rw[Z]; rfl) fun bo bi aa aj aY=>yy (s' 2 ag' z z z) z<|v' 4 z aY' z z z z z (List.all_eq_true.1 z)<|sg z z<|nx<|j' ?_
  obtain rfl:_=r:=hr
  exact aI' z (ad' (i:=4) ag' z z z) z ⟨_,_,_,_,_,_,(by rw[cY' aj]),(cR' aj),(ab.mono (mt X aa)),(V.mono (mt X aa))⟩
theorem da'{s1 id1 s1varsp s1varsc s1eqsp s1eqsc s1neqsp s1neqsc r}(hr:(Za0 s1 id1).Ret r):Ctr Tryz.prog 42 #[.agg ((v33' s1 s1varsp s1varsc s1eqsp s1eqsc s1neqsp s1neqsc)).toArray,i' id1] (fun G=>sl Rp.str G s1varsp s1varsc s1.vars∧sl a' G s1eqsp s1eqsc s1.eqs∧sl a' G s1neqsp s1neqsc s1.neqs) (fun G v=>∃ F E,v = .tuple #[.agg ((v68' r.1.id F r.1.p E)).toArray,.bool r.2.1,.bool r.2.2]∧sl r' G F E r.1.p):=by
 refine C' (args:=[_,_]) (N:=38) Tryz.func42 z z z (fun T R am Y=>?_)
 obtain⟨ae,M,J⟩:=Y
 refine sr<|W' 2 z z z fun b1=>U' 4 z z68 z fun D=>sg z z<|sg z z<|nx<|h'<|sr<|yy (az' z) z<|yy (e' 2 aS' z z z) z<|yy (aK' z) z<|yy (e' 2 aS' z z z) z<|aU' (e:=31) (r:=(Rp.sl a')) (vs:=#[(0,.slice s1eqsp s1.eqs.length s1eqsc),(1,.slice s1neqsp s1.neqs.length s1neqsc)]) (cs:=[.slice s1eqsp s1.eqs.length s1eqsc]++([.slice s1neqsp s1.neqs.length s1neqsc]++([]))) ([s1.eqs,s1.neqs]:List (List Za)) z z z z z (by decide) (fun _=>by kernel_rfl) ⟨[.slice s1eqsp s1.eqs.length s1eqsc],[.slice s1neqsp s1.neqs.length s1neqsc]++([]),z,⟨_,z,M⟩,⟨[.slice s1neqsp s1.neqs.length s1neqsc],[],z,⟨_,z,J⟩,z⟩⟩ (key:=999) z (by rw[am]; rfl) fun X O ao P=>yy (L' bx' P z) z<|mv z z<|nx<|ab' (fun (⟨y,t,q,B⟩:Za×Option Addr×Nat×Mem)=>[(4,.pointer (some ⟨D,0,none⟩))]) (fun ⟨y,t,q,B⟩=>Mem.le O B∧sl r' B t q y.p∧(Zdi).Ret r) (fun ⟨y,t,q,B⟩=>St T R B [(4,some ⟨D,.cells ((v68' y.id t y.p q)).toArray 68 (0,0),0⟩)]) ?_ ?_
 ·refine A' ?_
  let C:((Za×Bool×Bool)⊕Za)→Prop:=fun Z=>((fun ov=>match ov with | .inl rv1=>Comp.ret rv1 | .inr y=>Zdi:((Za×Bool×Bool)⊕Za)→Comp (Za×Bool×Bool)) Z).wp (fun a=>a=r)
  replace hr:(Comp.loop _ _).wp C:=hr
  refine ac' (Φ:=C) (fun (⟨c,o,f,d,k⟩:Int×Za×Option Addr×Nat×Mem)=>((c,o):Int×Za)) (fun ⟨c,o,f,d,k⟩=>[(1,i' id1),(4,.pointer (some ⟨D,0,none⟩)),(15,.slice X 2 2),(16,i' ([s1.eqs,s1.neqs].length:Int)),(17,i' c)]) (fun ⟨c,o,f,d,k⟩=>Mem.le O k∧sl r' k f d o.p) (fun ⟨c,o,f,d,k⟩=>St T R k [(4,some ⟨D,.cells ((v68' o.id f o.p d)).toArray 68 (0,0),0⟩)]) ⟨0,(Za.mk 0 []),none,0,O⟩ hr (fc z (fc z (fc z (fc z (fc z fn))))) ⟨mr,(aa' _ _)⟩ (wk (lc z ln)) ?_
  ·intro W gx hx hr
   obtain⟨c,o,f,d,k⟩:=gx
   obtain⟨u,H⟩:=hx
   refine sr<|yy (V' z z) z<|nx<|h'<|I' hr z (fun ag hr=>?_) (fun ag hr=>?_)
   ·refine n'<|b'<|h'<|A'<|sr<|mv z z ?_
    obtain⟨x1,U,hr⟩:=hr
    refine yy (P' bx' cu' (P.mono u) z z U) z ?_
    obtain⟨p2,af,al,K⟩:=bU' (E' (X' P U) u)
    refine yy (T' aS' z (al)) z<|sg z z<|sg z z<|nr<|mv z z<|yy (L' q' K z) z<|mv z z<|nx<|ab' (fun (⟨n,l,m,A⟩:Za×Option Addr×Nat×Mem)=>[(1,i' id1),(4,.pointer (some ⟨D,0,none⟩)),(15,.slice X 2 2),(16,i' ([s1.eqs,s1.neqs].length:Int)),(17,i' c)]) (fun ⟨n,l,m,A⟩=>Mem.le k A∧sl r' A l m n.p∧(Zdj c n).wp (Out W C)) (fun ⟨n,l,m,A⟩=>St T R A [(4,some ⟨D,.cells ((v68' n.id l n.p m)).toArray 68 (0,0),0⟩)]) ?_ ?_
    ·refine A' ?_
     let L:((Za×Bool×Bool)⊕Za)→Prop:=fun Z=>((fun ov=>match ov with | .inl rv2=>Comp.ret (.inr (.inl rv2)) | .inr n=>Zdj c n:((Za×Bool×Bool)⊕Za)→Comp ((Int×Za)⊕((Za×Bool×Bool)⊕Za))) Z).wp (Out W C)
     replace hr:(Comp.loop _ _).wp L:=hr
     refine ac' (Φ:=L) (fun (⟨j,p,g,h,s⟩:Int×Za×Option Addr×Nat×Mem)=>((j,p):Int×Za)) (fun ⟨j,p,g,h,s⟩=>[(1,i' id1),(4,.pointer (some ⟨D,0,none⟩)),(7,i' c),(15,.slice X 2 2),(16,i' ([s1.eqs,s1.neqs].length:Int)),(17,i' c),(22,.slice p2 x1.length af),(23,i' (x1.length:Int)),(24,i' j)]) (fun ⟨j,p,g,h,s⟩=>Mem.le k s∧sl r' s g h p.p) (fun ⟨j,p,g,h,s⟩=>St T R s [(4,some ⟨D,.cells ((v68' p.id g p.p h)).toArray 68 (0,0),0⟩)]) ⟨0,o,f,d,k⟩ hr (fc z (fc z (fc z (fc z (fc z (fc z (fc z (fc z (fc z fn))))))))) ⟨mr,H⟩ (wk (lc z ln)) ?_
     ·intro av gx hx hr
      obtain⟨j,p,g,h,s⟩:=gx
      obtain⟨x,I⟩:=hx
      refine sr<|yy (V' z z) z<|nx<|h'<|I' hr z (fun aj hr=>?_) (fun aj hr=>?_)
      ·refine n'<|b'<|h'<|A'<|sr ?_
       obtain⟨x2,V,hr⟩:=hr
       refine yy (P' q' aO' (K.mono x) z z V) z ?_
       obtain⟨aq,ar,ak,ac⟩:=bd' (E' (X' K V) x)
       refine yy (ax' _ bL' z z ak) z<|U' 10 z z68 z fun b3=>v' 10 z aO' z z z z z (List.all_eq_true.1 z)<|nr<|yy (bc' z) z<|yy (e' 10 sc3 z z z) z<|mv z z<|yy (ak' z z) z<|nx<|I' hr z (fun ah hr=>?_) (fun ah hr=>?_)
       ·refine sr<|yy (s' 10 bL' z z z) z<|mv z z<|yy (ak' z z) z<|v' 4 z aO' z z z z z (List.all_eq_true.1 z)<|sg z z<|sg z z<|nx<|j' ?_
        replace hr:_=r:=hr
        refine x'<|g'<|g'<|x'<|aH'<|x'<|g'<|g'<|x'<|aH'<|g' ?_
        subst hr
        exact WE.ret3 z (ad' (i:=4) bL' z z z) z z ⟨_,_,z,ac⟩
       ·refine n'<|D'<|b'<|w'<|yy (N' z z) z<|mv z z<|u'<|O' ⟨IntKind.i64.wrap (j+1),p,g,h,s⟩ hr ⟨x,I⟩ (fc z (fc z (fc z (fc z (fc z (fc z (fc z (fc z (fc z fn))))))))) (wk (lc z ln))
      ·refine ae'<|m'<|m'<|J'<|af' ⟨p,g,h,s⟩ ⟨x,I,hr⟩ (fc z (fc z (fc z (fc z (fc z fn))))) (wk (lc z ln))
    ·rintro⟨n,l,m,A⟩ ⟨Q,S,hr⟩
     refine D'<|b'<|w'<|yy (N' z z) z<|mv z z<|u'<|O' ⟨IntKind.i64.wrap (c+1),n,l,m,A⟩ hr ⟨(mt u Q),S⟩ (fc z (fc z (fc z (fc z (fc z fn))))) (wk (lc z ln))
   ·refine ae'<|m'<|m'<|J'<|af' ⟨o,f,d,k⟩ ⟨u,H,hr⟩ (fc z fn) (wk (lc z ln))
 ·rintro⟨y,t,q,B⟩ ⟨an,ap,hr⟩
  refine b'<|sr<|yy (aq' (vs:=#[]) (v:=.agg ([i' 0,.slice none 0 0]).toArray) z z (fun _=>by kernel_rfl)) z<|v' 4 z aO' z z z z z (List.all_eq_true.1 z)<|sg z z<|sg z z<|nx<|j' ?_
  obtain rfl:_=r:=hr
  exact WE.ret3 z (ad' (i:=4) bL' z z z) z z ⟨_,_,z,(aa' r' _)⟩
theorem fe'(f:Zb)(g:Int)(y:Nat)(x:Nat)(r:Bool)(hr:(ZV f g).Ret r):Ctr Tryz.prog 148 #[.pointer (some ⟨y,0,none⟩),.pointer (some ⟨x,0,none⟩)] (fun G=>At bs' G y 0 f∧At (Rp.int .i64) G x 0 g) (fun G v=>v = .bool r):=by
 refine C' (args:=[_,_]) (N:=14) Tryz.func148 z z z (fun K J F l=>?_)
 obtain⟨j,i⟩:=l
 refine sr<|sg z z<|nr ?_
 obtain⟨q,p,A,u,m,o,B,d,h,e⟩:=ev' j
 refine yy (ax' _ ag' z z B) z<|yy (T' sc3 z (aC' i)) z ?_
 obtain⟨E,k,hr⟩:=hr
 refine M' z z (t' E42 z) (da' k) z (⟨d,h,e⟩) (fun D H C c=>?_)
 obtain⟨t,n,rfl,s⟩:=c
 refine mv z z<|yy (K' z z) z<|yy (K' z z) z<|yy (K' z z) z<|U' 3 z z68 z fun I=>v' 3 z aO' z z z z z (List.all_eq_true.1 z)<|sg z z<|sg z z<|nr<|mv z z<|sg z z<|nx<|j' ?_
 obtain rfl:_=r:=hr
 exact k' z z z
theorem di'{s1 id1 s1varsp s1varsc s1eqsp s1eqsc s1neqsp s1neqsc r}(hr:(ZbD s1 id1).Ret r):Ctr Tryz.prog 112 #[.agg ((v33' s1 s1varsp s1varsc s1eqsp s1eqsc s1neqsp s1neqsc)).toArray,i' id1] (fun G=>sl Rp.str G s1varsp s1varsc s1.vars∧sl a' G s1eqsp s1eqsc s1.eqs∧sl a' G s1neqsp s1neqsc s1.neqs) (fun G v=>∃ m p,v=m∧FnRd Tryz.prog fa0 foB G m p r):=by
 refine C' (args:=[_,_]) (N:=6) Tryz.func112 z z z (fun B A i k=>?_)
 obtain⟨d,f,e⟩:=k
 refine sr<|W' 122402 z z z fun q=>W' 122403 z z z fun o=>sg z z<|nx<|h'<|bE' 122402 z (by rw[i]; rfl) fun y c j s=>bE' 122403 z (by rw[i]; rfl) fun n g l t=>w'<|yy (bR' z z) z<|sg z z<|nx<|j' ?_
 obtain rfl:_=r:=hr
 exact k' z z ⟨_,_,z,(show FnRd Tryz.prog fa0 foB n (.func (.func 148) #[] #[.pointer (some ⟨q,0,none⟩),.pointer (some ⟨o,0,none⟩)]) () (fun _=>ZV s1 id1) from (dg' E148 (fun x u=>dh' (fe' _ _ _ _ x u) (fun C h=>⟨(E' (cn' (r:=bs') (cs:=(v33' s1 s1varsp s1varsc s1eqsp s1eqsc s1neqsp s1neqsc)) j z ⟨[.slice s1varsp s1.vars.length s1varsc],[.slice s1eqsp s1.eqs.length s1eqsc,.slice s1neqsp s1.neqs.length s1neqsc,i' s1.next],z,⟨_,z,(d.mono c)⟩,⟨[.slice s1eqsp s1.eqs.length s1eqsc],[.slice s1neqsp s1.neqs.length s1neqsc,i' s1.next],z,⟨_,z,(f.mono c)⟩,⟨[.slice s1neqsp s1.neqs.length s1neqsc],[i' s1.next],z,⟨_,z,(e.mono c)⟩,z⟩⟩⟩) (mt g h)),(E' (cn' (r:=(Rp.int .i64)) (cs:=[i' id1]) l z z) h)⟩))))⟩
theorem dK'{s1 neq1 s1varsp s1varsc s1eqsp s1eqsc s1neqsp s1neqsc r}(hr:(Zci s1 neq1).Ret r):Ctr Tryz.prog 114 #[.agg ((v33' s1 s1varsp s1varsc s1eqsp s1eqsc s1neqsp s1neqsc)).toArray,.bool neq1] (fun G=>sl Rp.str G s1varsp s1varsc s1.vars∧sl a' G s1eqsp s1eqsc s1.eqs∧sl a' G s1neqsp s1neqsc s1.neqs) (fun G v=>∃ i h,v = .slice i r.length h∧sl a' G i h r):=by
 refine C' (args:=[_,_]) (N:=10) Tryz.func114 z z z (fun k m j e=>?_)
 obtain⟨f,d,c⟩:=e
 refine sr<|W' 2 z z z fun l=>sg z z<|nx<|h'<|sr<|mv z z<|nx<|aM' hr z (fun g hr=>?_) (fun g hr=>?_)
 ·refine sr<|yy (aK' z) z<|yy (e' 2 aS' z z z) z<|sg z z<|nx<|j' ?_
  replace hr:_=r:=hr
  refine g' ?_
  subst hr
  exact k' z z ⟨_,_,z,c⟩
 ·refine n'<|b'<|sr<|yy (az' z) z<|yy (e' 2 aS' z z z) z<|sg z z<|nx<|j' ?_
  obtain rfl:_=r:=hr
  exact k' z z ⟨_,_,z,d⟩
theorem fO'(e:(List Zc))(f:Zb)(t:Nat)(o:Nat)(r:Bool)(hr:(Zaj e f).Ret r):Ctr Tryz.prog 149 #[.pointer (some ⟨t,0,none⟩),.pointer (some ⟨o,0,none⟩)] (fun G=>At (Rp.sl r') G t 0 e∧At bs' G o 0 f) (fun G v=>v = .bool r):=by
 refine C' (args:=[_,_]) (N:=20) Tryz.func149 z z z (fun P O K i=>?_)
 obtain⟨d,g⟩:=i
 refine sr<|sg z z<|nx<|h'<|Z' [false,false,false,false,false,false,false,false,false] mix (by kernel_rfl) (fun n=>?_)
 obtain⟨M,H,A,C⟩:=bU' d
 refine cn (fun _ c=>T' bP' z (c _ _ _ A)) ?_
 obtain⟨l,h,hr⟩:=hr
 refine bG' z (fun _=>t' E133 z) (dy' h) z (fun D c=>(C.mono c)) ?_
 cases l
 ·skip
  refine cn (fun _ c=>f' z)<|ct z z<|ct z z<|ct z z<|ct z z<|ct z z<|ct z z<|Y' n<|sk z z z<|sk z z z<|yy (l' z z) z<|mv z z<|sk z z z<|sk z z z<|sk z z z<|yy (l' z z) z<|sg z z<|u'<|am'<|b'<|j' ?_
  obtain rfl:_=r:=hr
  exact k' z z z
 ·skip
  refine cn (fun _ c=>f' z) ?_
  obtain⟨S,F,B,m⟩:=bU' d
  refine cy z z (fun _ c=>T' bP' z (c _ _ _ B)) ?_
  obtain⟨L,k,hr⟩:=hr
  refine bG' (F' z z) (fun _=>t' E106 z) (cL' k) z (fun D c=>(m.mono c))<|cy z z (fun _ c=>aD' aT' au' z)<|cy z z (fun _ c=>as' z) ?_
  obtain⟨Q,J,u,p⟩:=bU' (bb' (aA' g))
  refine cy z z (fun _ c=>T' bo' z (c _ _ _ u))<|cy z z (fun _ c=>L' y' (p.mono c) z)<|Y' n ?_
  obtain⟨x,hr⟩:=hr
  refine gy z z (Y0.shr z z x) z<|aj' hr (F' z z) (ak' z z) z (fun q hr=>?_) (fun q hr=>?_)
  ·refine yy (o' z z) z<|mv z z ?_
   obtain⟨R,E,s,y⟩:=bU' d
   refine gy z z (T' bP' z (s)) z ?_
   obtain⟨I,j,hr⟩:=hr
   refine H' (F' z z) z (t' E134 z) (dt' j) z (y)<|gy z z (bD' z z) z<|yy (o' z z) z<|sg z z<|u'<|am'<|b'<|j' ?_
   obtain rfl:_=r:=hr
   exact k' z z z
  ·refine yy (o' z z) z<|mv z z<|sk z z z<|sk z z z<|sk z z z<|yy (l' z z) z<|sg z z<|u'<|am'<|b'<|j' ?_
   obtain rfl:_=r:=hr
   exact k' z z z
theorem fF'{s1 p1 s1varsp s1varsc s1eqsp s1eqsc s1neqsp s1neqsc p1p p1c r}(hr:(ZgY s1 p1).Ret r):Ctr Tryz.prog 115 #[.agg ((v33' s1 s1varsp s1varsc s1eqsp s1eqsc s1neqsp s1neqsc)).toArray,.slice p1p p1.length p1c] (fun G=>sl Rp.str G s1varsp s1varsc s1.vars∧sl a' G s1eqsp s1eqsc s1.eqs∧sl a' G s1neqsp s1neqsc s1.neqs∧sl r' G p1p p1c p1) (fun G v=>∃ m q,v=m∧FnRd Tryz.prog fa0 foB G m q r):=by
 refine C' (args:=[_,_]) (N:=6) Tryz.func115 z z z (fun C B i k=>?_)
 obtain⟨e,g,f,o⟩:=k
 refine sr<|W' 123002 z z z fun s=>W' 123003 z z z fun p=>sg z z<|nx<|h'<|bE' 123003 z (by rw[i]; rfl) fun A c j t=>bE' 123002 z (by rw[i]; rfl) fun n d l u=>w'<|yy (bR' z z) z<|sg z z<|nx<|j' ?_
 obtain rfl:_=r:=hr
 exact k' z z ⟨_,_,z,(show FnRd Tryz.prog fa0 foB n (.func (.func 149) #[] #[.pointer (some ⟨p,0,none⟩),.pointer (some ⟨s,0,none⟩)]) () (fun _=>Zaj p1 s1) from (dg' E149 (fun x y=>dh' (fO' _ _ _ _ x y) (fun D h=>⟨(E' (cn' (r:=(Rp.sl r')) (cs:=[.slice p1p p1.length p1c]) j z ⟨_,z,(o.mono c)⟩) (mt d h)),(E' (cn' (r:=bs') (cs:=(v33' s1 s1varsp s1varsc s1eqsp s1eqsc s1neqsp s1neqsc)) l z ⟨[.slice s1varsp s1.vars.length s1varsc],[.slice s1eqsp s1.eqs.length s1eqsc,.slice s1neqsp s1.neqs.length s1neqsc,i' s1.next],z,⟨_,z,(e.mono (mt c d))⟩,⟨[.slice s1eqsp s1.eqs.length s1eqsc],[.slice s1neqsp s1.neqs.length s1neqsc,i' s1.next],z,⟨_,z,(g.mono (mt c d))⟩,⟨[.slice s1neqsp s1.neqs.length s1neqsc],[i' s1.next],z,⟨_,z,(f.mono (mt c d))⟩,z⟩⟩⟩) h)⟩))))⟩
theorem eX'{s1 ev1 s1varsp s1varsc s1eqsp s1eqsc s1neqsp s1neqsc ev1pp ev1pc r}(hr:(Zb0 s1 ev1).Ret r):Ctr Tryz.prog 41 #[.agg ((v33' s1 s1varsp s1varsc s1eqsp s1eqsc s1neqsp s1neqsc)).toArray,.agg ([i' ev1.kind,.string ev1.name,i' ev1.at',i' ev1.to',i' ev1.id,.slice ev1pp ev1.p.length ev1pc,.bool ev1.neq]).toArray] (fun G=>sl Rp.str G s1varsp s1varsc s1.vars∧sl a' G s1eqsp s1eqsc s1.eqs∧sl a' G s1neqsp s1neqsc s1.neqs∧sl r' G ev1pp ev1pc ev1.p) (fun G v=>v=i' r):=by
 refine C' (args:=[_,_]) (N:=12) Tryz.func41 z z z (fun j m i c=>?_)
 obtain⟨d,g,e,h⟩:=c
 refine sr<|W' 2 z z z fun l=>W' 3 z z z fun k=>sg z z<|nx<|h'<|sr<|yy (aL' z) z<|yy (e' 3 sc3 z z z) z<|yy (ak' z z) z<|nx<|I' hr z (fun f hr=>?_) (fun f hr=>?_)
 ·refine sr<|yy (bg' z) z<|yy (e' 2 sc3 z z z) z<|sg z z<|nx<|j' ?_
  replace hr:_=r:=hr
  refine g' ?_
  subst hr
  exact k' z z z
 ·refine n'<|b'<|sr<|yy (aL' z) z<|yy (e' 3 sc3 z z z) z<|sg z z<|nx<|j' ?_
  obtain rfl:_=r:=hr
  exact k' z z z
theorem bZ'{s1 s1p s1c r}(hr:(Zz s1).Ret r):CtrL Tryz.prog 150 #[.slice s1p s1.length s1c] [] (fun G=>sl a' G s1p s1c s1) (fun G L v=>∃ t o g,L=[(7000,g)]∧v = .slice t r.length o∧RowR a' 68 G (.slice t r.length o) r g):=by
 refine aW' (args:=[_]) (N:=8) Tryz.func150 z z z (fun q c s k=>?_)
 have f:=k
 refine sr<|sg z z<|nx<|h'<|sr<|mv z z<|yy (Y0.eqlNil q' z z) z<|nx<|dN' (p:=s1p=none) z (fun d=>?_) (fun d=>?_)
 ·replace hr:=hr.1 (SlR.ZmO f d)
  refine sr<|sg z z<|nx<|j' ?_
  replace hr:_=r:=hr
  refine g' ?_
  subst hr
  refine aE' (S':=St q c c [(7000,none)]) (wk (lw ln))<|k' z z ⟨_,_,_,z,z,(ed' (r:=a') (e:=68))⟩
 ·replace hr:=hr.2
  refine n'<|b'<|sr<|WL.litT (e:=68) (r:=a') (vs:=#[]) (cs:=[]) ([]:List Za) 4005 z z z z z (by decide) (fun _=>by kernel_rfl) (z) fun A x u=>mv z z ?_
  obtain⟨m,hr⟩:=hr
  refine bW' (r:=a') (e:=68) 4005 z z q' el68 z (by decide) z z u z f m fun B y l n=>sg z z<|nx<|j' ?_
  obtain rfl:_=r:=hr
  refine aE' (S':=St q c c [(7000,l)]) ?_ ?_
  ·intro w h
   have h:=h.rekey (i:=4005) (j:=7000) z (by rw[s]; rfl)
   exact h.weaken (lc z ln)
  exact k' z z ⟨_,_,_,z,z,n⟩
theorem eJ'{x1 r}(hr:(ZdL x1).Ret r):Ctr Tryz.prog 178 #[i' x1] (fun G=>True) (fun G v=>v = .bool r):=by
 refine C' (args:=[_]) (N:=6) Tryz.func178 z z z fun e f d c=>sr<|sg z z<|nr<|mv z z<|mv z z<|yy (aQ' z z) z<|sg z z<|nx<|j' ?_
 obtain rfl:_=r:=hr
 exact k' z z z
theorem fy'{x1 yv1 r}(hr:(ZcA x1 yv1).Ret r):Ctr Tryz.prog 153 #[i' x1,i' yv1] (fun G=>True) (fun G v=>v=i' r):=by
 refine C' (args:=[_,_]) (N:=20) Tryz.func153 z z z fun n m j i=>sr<|sg z z<|nr<|mv z z ?_
 obtain⟨l,d,hr⟩:=hr
 refine H' z z (t' E178 z) (eJ' d) z (trivial)<|sg z z<|nr<|mv z z ?_
 obtain⟨k,c,hr⟩:=hr
 refine H' z z (t' E178 z) (eJ' c) z (trivial)<|sg z z<|nx<|h'<|sr<|mv z z<|nx<|aM' hr z (fun e hr=>?_) (fun e hr=>?_)
 ·exact (show False from hr).elim
 ·refine n'<|b'<|h'<|sr<|mv z z<|nx<|aM' hr z (fun f hr=>?_) (fun f hr=>?_)
  ·exact (show False from hr).elim
  ·refine n'<|b'<|h'<|sr<|mv z z<|mv z z<|yy (V' z z) z<|nx<|I' hr z (fun g hr=>?_) (fun g hr=>?_)
   ·refine sr<|sg z z<|nx<|j' ?_
    replace hr:_=r:=hr
    refine g' ?_
    subst hr
    exact k' z z z
   ·refine n'<|b'<|h'<|sr<|mv z z<|mv z z<|yy (bt' z z) z<|nx<|I' hr z (fun h hr=>?_) (fun h hr=>?_)
    ·refine sr<|sg z z<|nx<|j' ?_
     replace hr:_=r:=hr
     refine g' ?_
     subst hr
     exact k' z z z
    ·refine n'<|b'<|sr<|sg z z<|nx<|j' ?_
     obtain rfl:_=r:=hr
     exact k' z z z
theorem eF'{p1 id1 p1pp p1pc r}(hr:(ZbS p1 id1).Ret r):Ctr Tryz.prog 152 #[.agg ((v68' p1.id p1pp p1.p p1pc)).toArray,i' id1] (fun G=>sl r' G p1pp p1pc p1.p) (fun G v=>v=i' r):=by
 refine C' (args:=[_,_]) (N:=9) Tryz.func152 z z z (fun h j g c=>?_)
 have e:=c
 refine sr<|W' 2 z z z fun i=>sg z z<|nr<|yy (bc' z) z<|yy (e' 2 sc3 z z z) z<|mv z z ?_
 obtain⟨f,d,hr⟩:=hr
 refine H' z z (t' E153 z) (fy' d) z (trivial)<|sg z z<|nx<|j' ?_
 obtain rfl:_=r:=hr
 exact k' z z z
theorem cm'{x1 target1 x1p x1c r}(hr:(Zi x1 target1).Ret r):Ctr Tryz.prog 151 #[.slice x1p x1.length x1c,i' target1,.func (.func 152) #[] #[]] (fun G=>sl a' G x1p x1c x1) (fun G v=>v = .tuple #[i' r.1,.bool r.2]):=by
 refine C' (args:=[_,_,_]) (N:=49) Tryz.func151 z z z (fun y l P q=>?_)
 have h:=q
 refine sr<|sg z z<|sg z z<|nr<|mv z z<|yy (L' q' h z) z<|sg z z<|nr<|mv z z<|sg z z<|sg z z<|nx<|h'<|ab' (fun (⟨i,g⟩:Int×Mem)=>[(0,.slice x1p x1.length x1c),(1,i' target1),(2,.func (.func 152) #[] #[]),(8,i' (x1.length:Int)),(9,i' i)]) (fun ⟨i,g⟩=>Mem.le l g∧(Zl x1 target1 i).Ret r) (fun ⟨i,g⟩=>St y l g []) ?_ ?_
 ·refine A' ?_
  let k:Int→Prop:=fun H=>((fun L=>match L with|i=>Zl x1 target1 i:Int→Comp (Int×Bool)) H).wp (fun a=>a=r)
  replace hr:(Comp.loop _ _).wp k:=hr
  refine ac' (Φ:=k) (fun (⟨e,f,c⟩:Int×Int×Mem)=>((e,f):Int×Int)) (fun ⟨e,f,c⟩=>[(0,.slice x1p x1.length x1c),(1,i' target1),(2,.func (.func 152) #[] #[]),(8,i' (x1.length:Int)),(9,i' e),(10,i' f)]) (fun ⟨e,f,c⟩=>Mem.le l c) (fun ⟨e,f,c⟩=>St y l c []) ⟨0,(x1.length:Int),l⟩ hr (fc z (fc z (fc z (fc z (fc z (fc z fn)))))) mr (wk ln) ?_
  ·intro O J K hr
   obtain⟨e,f,c⟩:=J
   have d:=K
   refine h'<|sr<|mv z z<|mv z z<|yy (V' z z) z<|nx<|I' hr z (fun u hr=>?_) (fun u hr=>?_)
   ·refine n'<|b'<|A'<|sr<|mv z z<|mv z z<|yy (N' z z) z<|yy (aD' au' dz' z) z<|yy (Y0.shr z z (by decide)) z<|yy (aD' dz' au' z) z<|sg z z<|nr<|mv z z<|mv z z<|mv z z ?_
    obtain⟨R,m,hr⟩:=hr
    refine yy (P' q' aO' (h.mono d) z z m) z ?_
    obtain⟨F,I,C,p⟩:=bd' (E' (X' h m) d)
    refine yy (ax' _ bL' z z C) z<|mv z z ?_
    obtain⟨Q,s,hr⟩:=hr
    refine H' z z (cM' E152 z z) (eF' s) z (p)<|yy (V' z z) z<|nx<|I' hr z (fun A hr=>?_) (fun A hr=>?_)
    ·refine w'<|mv z z<|yy (N' z z) z<|sg z z<|u'<|D'<|O' ⟨IntKind.i64.wrap ((IntKind.i64.wrap (Int.fdiv (IntKind.u64.wrap (IntKind.i64.wrap (e+f))) (2 ^ (min (1:Int).toNat IntKind.u64.bits))))+1),f,c⟩ hr d (fc z (fc z (fc z (fc z (fc z (fc z fn)))))) (wk ln)
    ·refine w'<|mv z z<|sg z z<|u'<|D'<|O' ⟨e,IntKind.i64.wrap (Int.fdiv (IntKind.u64.wrap (IntKind.i64.wrap (e+f))) (2 ^ (min (1:Int).toNat IntKind.u64.bits))),c⟩ hr d (fc z (fc z (fc z (fc z (fc z (fc z fn)))))) (wk ln)
   ·refine ae'<|m'<|m'<|J'<|af' ⟨e,c⟩ ⟨d,hr⟩ (fc z (fc z (fc z (fc z (fc z fn))))) (wk ln)
 ·rintro⟨i,g⟩ ⟨j,hr⟩
  refine b'<|sr<|mv z z<|mv z z<|mv z z<|aj' hr z (V' z z) z (fun x hr=>?_) (fun x hr=>?_)
  ·refine mv z z<|gy z z (f' z) z<|gy z z (f' z) z<|gy z z (f' z) z ?_
   obtain⟨S,n,hr⟩:=hr
   refine gy z z (P' q' aO' (h.mono j) z z n) z ?_
   obtain⟨D,E,B,t⟩:=bd' (E' (X' h n) j)
   refine gy z z (ax' _ bL' z z B) z<|gy z z (f' z) z ?_
   obtain⟨M,o,hr⟩:=hr
   refine H' (F' z z) z (cM' E152 z z) (eF' o) z (t)<|gy z z (ak' z z) z<|yy (o' z z) z<|sg z z<|sg z z<|nx<|j' ?_
   obtain rfl:_=r:=hr
   exact aI' z z z z
  ·refine mv z z<|sk z z z<|sk z z z<|sk z z z<|sk z z z<|sk z z z<|sk z z z<|sk z z z<|sk z z z<|yy (l' z z) z<|sg z z<|sg z z<|nx<|j' ?_
   obtain rfl:_=r:=hr
   exact aI' z z z z
theorem eY'{s1 q1 neq1 s1varsp s1varsc s1eqsp s1eqsc s1neqsp s1neqsc q1pp q1pc r}(hr:(Zdo s1 q1 neq1).Ret r):Ctr Tryz.prog 116 #[.agg ((v33' s1 s1varsp s1varsc s1eqsp s1eqsc s1neqsp s1neqsc)).toArray,.agg ((v68' q1.id q1pp q1.p q1pc)).toArray,.bool neq1] (fun G=>sl Rp.str G s1varsp s1varsc s1.vars∧sl a' G s1eqsp s1eqsc s1.eqs∧sl a' G s1neqsp s1neqsc s1.neqs∧sl r' G q1pp q1pc q1.p) (fun G v=>∃ m n x t s o,v = .agg ((v33' r m n x t s o)).toArray∧sl Rp.str G m n r.vars∧sl a' G x t r.eqs∧sl a' G s o r.neqs):=by
 refine C' (args:=[_,_,_]) (N:=32) Tryz.func116 z z z (fun w0 G0 k O=>?_)
 obtain⟨g,q,l,T⟩:=O
 have hz:w0.L.zero:=by rw[k]; intro p hp; simp at hp
 refine sr<|W' 3 z z z fun b1=>W' 4 z z z fun b2=>U' 6 z z33 z fun b3=>nr<|yy (s' 3 ag' z z z) z<|mv z z ?_
 obtain⟨an,M,hr⟩:=hr
 refine M' z z (t' E114 z) (dK' M) z (⟨g,q,l⟩) (fun ad aA c A=>?_)
 obtain⟨am,ac,rfl,L⟩:=A
 obtain⟨ar,Q,hr⟩:=hr
 refine cj' z z (t' E150 z) (bZ' Q) z (L) ln hz (fun ae ao ai f B=>?_)
 obtain⟨af,ab,X,rfl,rfl,D⟩:=B
 refine bu' (fun w E=>E.rekey (i:=7000) (j:=4013) z (by rw[k]; rfl))<|sg z z<|nr<|mv z z<|yy (bc' z) z<|yy (e' 4 sc3 z z z) z ?_
 obtain⟨aw,P,hr⟩:=hr
 refine WL.peekROZ (L1:=[]) (r:=a') (e:=68) 4013 D z hz z z (fun _=>t' E151 z) (Ctr.ro (cm' P)) z (fun G' ax W=>W) ln (fun i hi=>by simp at hi) hz<|mv z z<|yy (K' z z) z<|yy (K' z z) z<|sg z z<|sg z z<|nr<|mv z z<|mv z z<|yy (s' 4 bL' z z z) z<|aU' (e:=68) (r:=a') (vs:=#[(0,.agg ((v68' q1.id q1pp q1.p q1pc)).toArray)]) (cs:=(v68' q1.id q1pp q1.p q1pc)++([])) ([q1]:List Za) z z z z z (by decide) (fun _=>by kernel_rfl) ⟨(v68' q1.id q1pp q1.p q1pc),[],z,⟨[i' q1.id],[.slice q1pp q1.p.length q1pc],z,z,⟨_,z,(T.mono (mt c f))⟩⟩,z⟩ (key:=999) z (by rw[k]; rfl) (fun p1 av d U=>?_)
 obtain⟨J,K,hr⟩:=hr
 refine bu' (fun w E=>E.rekey (i:=4013) (j:=5000) z (by rw[k]; rfl))<|cj' z z (t' E154 z) (dj' K) z (⟨(D.mono d),U⟩) (lc z ln) hz (fun aj ap al h C=>?_)
 obtain⟨F,I,Y,rfl,rfl,H⟩:=C
 refine bu' (fun w E=>E.rekey (i:=5000) (j:=4025) z (by rw[k]; rfl))<|sg z z<|nx<|h'<|sr<|mv z z<|nx<|aM' hr z (fun V hr=>?_) (fun V hr=>?_)
 ·refine w'<|mv z z<|yy (aK' z) z<|aw' 3 ([.slice s1varsp s1.vars.length s1varsc,.slice s1eqsp s1.eqs.length s1eqsc,.slice F J.length I,i' s1.next]).toArray z cu' z z z (show 2<4 by decide) z z<|nr<|bv' (r:=a') (e:=68) 4025 H z (by rw[k]; rfl) fun ay au y R aa=>yy (s' 3 ag' z z z) z<|v' 6 z aY' z z z z z (List.all_eq_true.1 z)<|nx<|j' ?_
  obtain rfl:_=r:=hr
  exact k' z (ad' (i:=6) ag' z z z) ⟨_,_,_,_,_,_,z,(g.mono (mt (mt (mt (mt c f) d) h) y)),(q.mono (mt (mt (mt (mt c f) d) h) y)),R⟩
 ·refine w'<|mv z z<|yy (az' z) z<|aw' 3 ([.slice s1varsp s1.vars.length s1varsc,.slice F J.length I,.slice s1neqsp s1.neqs.length s1neqsc,i' s1.next]).toArray z cu' z z z (show 1<4 by decide) z z<|nr<|bv' (r:=a') (e:=68) 4025 H z (by rw[k]; rfl) fun aq az u S Z=>yy (s' 3 ag' z z z) z<|v' 6 z aY' z z z z z (List.all_eq_true.1 z)<|nx<|j' ?_
  obtain rfl:_=r:=hr
  exact k' z (ad' (i:=6) ag' z z z) ⟨_,_,_,_,_,_,z,(g.mono (mt (mt (mt (mt c f) d) h) u)),S,(l.mono (mt (mt (mt (mt c f) d) h) u))⟩
theorem fV'(h:Zd)(j:Zb)(A:Nat)(u:Nat)(r:Bool)(hr:(Zav h j).Ret r):Ctr Tryz.prog 111 #[.pointer (some ⟨A,0,none⟩),.pointer (some ⟨u,0,none⟩)] (fun G=>At ah' G A 0 h∧At bs' G u 0 j) (fun G v=>v = .bool r):=by
 refine C' (args:=[_,_]) (N:=19) Tryz.func111 z z z (fun S R P n=>?_)
 obtain⟨c,k⟩:=n
 refine sr<|sg z z<|nr<|yy (aL' z) z<|yy (T' sc3 z (aC' (bb' (aJ' (aJ' (aJ' (aJ' (aA' c)))))))) z<|aj' hr z (bD' z z) z (fun y hr=>?_) (fun y hr=>?_)
 ·refine mv z z<|gy z z (aL' z) z<|gy z z (T' sc3 z (aC' (bb' (aJ' (aJ' (aJ' (aJ' (aA' c)))))))) z<|aj' hr (F' z z) (V' z z) z (fun B hr=>?_) (fun B hr=>?_)
  ·refine yy (o' z z) z<|mv z z ?_
   obtain⟨t,s,C,x,p,q,D,e,i,f⟩:=ev' k
   refine gy z z (ax' _ ag' z z D) z<|gy z z (aL' z) z<|gy z z (T' sc3 z (aC' (bb' (aJ' (aJ' (aJ' (aJ' (aA' c)))))))) z ?_
   obtain⟨L,m,hr⟩:=hr
   refine M' (F' z z) z (t' E112 z) (di' m) z (⟨e,i,f⟩) (fun H Q E d=>?_)
   obtain⟨J,K,rfl,l⟩:=d
   obtain⟨M,o,hr⟩:=hr
   refine WL.callFn (vs:=[]) (a:=()) (F' z z) z l z z z o (fun I O F g=>?_)
   subst g
   refine gy z z (an' z) z<|yy (o' z z) z<|sg z z<|nx<|j' ?_
   obtain rfl:_=r:=hr
   exact k' z z z
  ·refine yy (o' z z) z<|mv z z<|sk z z z<|sk z z z<|sk z z z<|sk z z z<|sk z z z<|sk z z z<|yy (l' z z) z<|sg z z<|nx<|j' ?_
   obtain rfl:_=r:=hr
   exact k' z z z
 ·refine mv z z<|sk z z z<|sk z z z<|sk z z z<|yy (l' z z) z<|mv z z<|sk z z z<|sk z z z<|sk z z z<|sk z z z<|sk z z z<|sk z z z<|yy (l' z z) z<|sg z z<|nx<|j' ?_
  obtain rfl:_=r:=hr
  exact k' z z z
theorem fW'(i:Zb)(k:Zd)(y:Nat)(u:Nat)(r:Bool)(hr:(ZaM i k).Ret r):Ctr Tryz.prog 113 #[.pointer (some ⟨y,0,none⟩),.pointer (some ⟨u,0,none⟩)] (fun G=>At bs' G y 0 i∧At ah' G u 0 k) (fun G v=>v = .bool r):=by
 refine C' (args:=[_,_]) (N:=20) Tryz.func113 z z z (fun L K I n=>?_)
 obtain⟨d,c⟩:=n
 refine sr<|sg z z<|nr ?_
 obtain⟨s,q,B,t,o,p,C,g,j,h⟩:=ev' d
 refine yy (ax' _ ag' z z C) z<|yy (dc' z) z<|yy (T' sc4 z (AtK.bool (aJ' (aJ' (aJ' (aJ' (aJ' (aJ' (aA' c))))))))) z ?_
 obtain⟨H,m,hr⟩:=hr
 refine M' z z (t' E114 z) (dK' m) z (⟨g,j,h⟩) (fun E J e f=>?_)
 obtain⟨F,D,rfl,l⟩:=f
 refine yy (L' q' l z) z<|aj' hr z (V' z z) z (fun x hr=>?_) (fun x hr=>?_)
 ·refine mv z z<|gy z z (aL' z) z<|gy z z (T' sc3 z (aC' (E' (bb' (aJ' (aJ' (aJ' (aJ' (aA' c)))))) e))) z<|aj' hr (F' z z) (ak' z z) z (fun A hr=>?_) (fun A hr=>?_)
  ·refine gy z z (f' z) z<|gy z z (bg' z) z<|gy z z (T' sc3 z (aC' (E' (aJ' (aJ' (aJ' (aA' d)))) e))) z<|gy z z (be' z z) z<|gy z z (o' z z) z<|gy z z (Y0.notD z) z<|yy (o' z z) z<|sg z z<|nx<|j' ?_
   obtain rfl:_=r:=hr
   exact k' z z z
  ·refine gy z z (f' z) z<|sk z z z<|sk z z z<|sk z z z<|gy z z (l' z z) z<|gy z z (an' z) z<|yy (o' z z) z<|sg z z<|nx<|j' ?_
   obtain rfl:_=r:=hr
   exact k' z z z
 ·refine mv z z<|sk z z z<|sk z z z<|sk z z z<|sk z z z<|aF' (ai' z z) z<|aF' (ai' z z) z<|aF' (ai' z z) z<|sk z z z<|sk z z z<|yy (l' z z) z<|sg z z<|nx<|j' ?_
  obtain rfl:_=r:=hr
  exact k' z z z
theorem gQ'{s1 ev1 s1varsp s1varsc s1eqsp s1eqsc s1neqsp s1neqsc ev1pp ev1pc r}(hr:(Zh5 s1 ev1).Ret r):Ctr Tryz.prog 68 #[.agg ((v33' s1 s1varsp s1varsc s1eqsp s1eqsc s1neqsp s1neqsc)).toArray,.agg ([i' ev1.kind,.string ev1.name,i' ev1.at',i' ev1.to',i' ev1.id,.slice ev1pp ev1.p.length ev1pc,.bool ev1.neq]).toArray] (fun G=>sl Rp.str G s1varsp s1varsc s1.vars∧sl a' G s1eqsp s1eqsc s1.eqs∧sl a' G s1neqsp s1neqsc s1.neqs∧sl r' G ev1pp ev1pc ev1.p) (fun G v=>∃ t y C D B A,v = .tuple #[.agg ((v33' r.1 t y C D B A)).toArray,i' r.2]∧sl Rp.str G t y r.1.vars∧sl a' G C D r.1.eqs∧sl a' G B A r.1.neqs):=by
 refine C' (args:=[_,_]) (N:=41) Tryz.func68 z z z (fun w0 G0 aj aB=>?_)
 obtain⟨j,l,k,p⟩:=aB
 refine sr<|W' 113602 z z z fun b1=>W' 113603 z z z fun b2=>U' 4 z z33 z fun b3=>sg z z<|nx<|h'<|bE' 113603 z (by rw[aj]; rfl) fun aW c ae aw=>bE' 113602 z (by rw[aj]; rfl) fun am f ag az=>Z' [false,false,false,false,false,false,false] mix (by kernel_rfl) fun hb=>cn (fun _ g=>bR' z z) ?_
 obtain⟨ai,an,hr⟩:=hr
 refine ay' (post:=fun G v=>∃ m u,v=m∧FnRd Tryz.prog fa0 foI G m u ai) (fun _=>z) (fun _ _=>t' E94 z) (br' an) z (fun G' g=>((show FnRd Tryz.prog fa0 foB am (.func (.func 111) #[] #[.pointer (some ⟨b2,0,none⟩),.pointer (some ⟨b1,0,none⟩)]) () (fun _=>Zav ev1 s1) from (dg' E111 (fun x hx=>dh' (fV' _ _ _ _ x hx) (fun G' g=>⟨(E' (cn' (r:=ah') (cs:=[i' ev1.kind,.string ev1.name,i' ev1.at',i' ev1.to',i' ev1.id,.slice ev1pp ev1.p.length ev1pc,.bool ev1.neq]) ae z ⟨[i' ev1.kind],[.string ev1.name,i' ev1.at',i' ev1.to',i' ev1.id,.slice ev1pp ev1.p.length ev1pc,.bool ev1.neq],z,z,⟨[.string ev1.name],[i' ev1.at',i' ev1.to',i' ev1.id,.slice ev1pp ev1.p.length ev1pc,.bool ev1.neq],z,z,⟨[i' ev1.at'],[i' ev1.to',i' ev1.id,.slice ev1pp ev1.p.length ev1pc,.bool ev1.neq],z,z,⟨[i' ev1.to'],[i' ev1.id,.slice ev1pp ev1.p.length ev1pc,.bool ev1.neq],z,z,⟨[i' ev1.id],[.slice ev1pp ev1.p.length ev1pc,.bool ev1.neq],z,z,⟨[.slice ev1pp ev1.p.length ev1pc],[.bool ev1.neq],z,⟨_,z,(p.mono c)⟩,z⟩⟩⟩⟩⟩⟩) (mt f g)),(E' (cn' (r:=bs') (cs:=(v33' s1 s1varsp s1varsc s1eqsp s1eqsc s1neqsp s1neqsc)) ag z ⟨[.slice s1varsp s1.vars.length s1varsc],[.slice s1eqsp s1.eqs.length s1eqsc,.slice s1neqsp s1.neqs.length s1neqsc,i' s1.next],z,⟨_,z,(j.mono (mt c f))⟩,⟨[.slice s1eqsp s1.eqs.length s1eqsc],[.slice s1neqsp s1.neqs.length s1neqsc,i' s1.next],z,⟨_,z,(l.mono (mt c f))⟩,⟨[.slice s1neqsp s1.neqs.length s1neqsc],[i' s1.next],z,⟨_,z,(k.mono (mt c f))⟩,z⟩⟩⟩) g)⟩)))).mono g)) (fun v G1 G2 g h=>?_) ?_
 ·obtain⟨m,u,rfl,E⟩:=h
  exact⟨_,_,z,E.mono g⟩
 refine cu (fun _ _ g=>bR' z z) ?_
 obtain⟨ak,au,hr⟩:=hr
 refine ay' (post:=fun G v=>∃ n q,v=n∧FnRd Tryz.prog fa0 foI G n q ak) (fun _=>z) (fun _ _=>t' E94 z) (br' au) z (fun G' g=>((show FnRd Tryz.prog fa0 foB am (.func (.func 113) #[] #[.pointer (some ⟨b1,0,none⟩),.pointer (some ⟨b2,0,none⟩)]) () (fun _=>ZaM s1 ev1) from (dg' E113 (fun x hx=>dh' (fW' _ _ _ _ x hx) (fun G' g=>⟨(E' (cn' (r:=bs') (cs:=(v33' s1 s1varsp s1varsc s1eqsp s1eqsc s1neqsp s1neqsc)) ag z ⟨[.slice s1varsp s1.vars.length s1varsc],[.slice s1eqsp s1.eqs.length s1eqsc,.slice s1neqsp s1.neqs.length s1neqsc,i' s1.next],z,⟨_,z,(j.mono (mt c f))⟩,⟨[.slice s1eqsp s1.eqs.length s1eqsc],[.slice s1neqsp s1.neqs.length s1neqsc,i' s1.next],z,⟨_,z,(l.mono (mt c f))⟩,⟨[.slice s1neqsp s1.neqs.length s1neqsc],[i' s1.next],z,⟨_,z,(k.mono (mt c f))⟩,z⟩⟩⟩) g),(E' (cn' (r:=ah') (cs:=[i' ev1.kind,.string ev1.name,i' ev1.at',i' ev1.to',i' ev1.id,.slice ev1pp ev1.p.length ev1pc,.bool ev1.neq]) ae z ⟨[i' ev1.kind],[.string ev1.name,i' ev1.at',i' ev1.to',i' ev1.id,.slice ev1pp ev1.p.length ev1pc,.bool ev1.neq],z,z,⟨[.string ev1.name],[i' ev1.at',i' ev1.to',i' ev1.id,.slice ev1pp ev1.p.length ev1pc,.bool ev1.neq],z,z,⟨[i' ev1.at'],[i' ev1.to',i' ev1.id,.slice ev1pp ev1.p.length ev1pc,.bool ev1.neq],z,z,⟨[i' ev1.to'],[i' ev1.id,.slice ev1pp ev1.p.length ev1pc,.bool ev1.neq],z,z,⟨[i' ev1.id],[.slice ev1pp ev1.p.length ev1pc,.bool ev1.neq],z,z,⟨[.slice ev1pp ev1.p.length ev1pc],[.bool ev1.neq],z,⟨_,z,(p.mono c)⟩,z⟩⟩⟩⟩⟩⟩) (mt f g))⟩)))).mono g)) (fun v G1 G2 g h=>?_) ?_
 ·obtain⟨n,q,rfl,F⟩:=h
  exact⟨_,_,z,F.mono g⟩
 refine cu (fun _ _ g=>s' 113602 ag' z z z)<|cu (fun _ _ g=>cI' z)<|cu (fun _ _ g=>e' 113603 bP' z z z)<|df' (d:=11) (post:=fun G v=>∃ n q,v=n∧FnRd Tryz.prog fa0 foI G n q ak) (d':=9) (post':=fun G v=>∃ m u,v=m∧FnRd Tryz.prog fa0 foI G m u ai) (fun aK aM aY o ac X=>?_)
 obtain⟨n,q,rfl,F⟩:=ac
 obtain⟨m,u,rfl,E⟩:=X
 obtain⟨a0,ar,hr⟩:=hr
 refine M' z z (t' E115 z) (fF' ar) z (⟨(j.mono (mt (mt c f) o)),(l.mono (mt (mt c f) o)),(k.mono (mt (mt c f) o)),(p.mono (mt (mt c f) o))⟩) (fun aS aX J aa=>?_)
 obtain⟨aP,aQ,rfl,ay⟩:=aa
 obtain⟨aE,aq,hr⟩:=hr
 refine M' z z (t' E94 z) (br' aq) z (ay) (fun aL aZ I Z=>?_)
 obtain⟨aI,aR,rfl,af⟩:=Z
 obtain⟨ah,O,rfl⟩:=cf' E
 obtain⟨V,H,rfl⟩:=cf' F
 obtain⟨L,s,rfl⟩:=cf' af
 refine aU' (e:=131) (r:=(Rp.fn Tryz.prog fa0 foI)) (vs:=#[(0,(.func (.func ah) #[] O)),(1,(.func (.func V) #[] H)),(2,(.func (.func L) #[] s))]) (cs:=[(.func (.func ah) #[] O)]++([(.func (.func V) #[] H)]++([(.func (.func L) #[] s)]++([])))) ([ai,ak,aE]:List (Unit→Comp Int)) z z z z z (by decide) (fun _=>by kernel_rfl) ⟨[(.func (.func ah) #[] O)],[(.func (.func V) #[] H)]++([(.func (.func L) #[] s)]++([])),z,⟨_,z,(E.mono (mt J I))⟩,⟨[(.func (.func V) #[] H)],[(.func (.func L) #[] s)]++([]),z,⟨_,z,(F.mono (mt J I))⟩,⟨[(.func (.func L) #[] s)],[],z,⟨_,z,af⟩,z⟩⟩⟩ (key:=999) z (by rw[aj]; rfl) (fun p1 aV al aG=>?_)
 obtain⟨aU,ap,hr⟩:=hr
 refine H' z z (t' E93 z) (cH' ap) z (aG)<|sg z z<|cP' 113602 z az c (mt (mt (mt (mt f o) J) I) al)<|cP' 113603 z aw mr c<|u'<|am'<|b'<|h'<|sr<|mv z z<|yy (aQ' z z) z<|nx<|I' hr z (fun aF hr=>?_) (fun aF hr=>?_)
 ·refine sr<|yy (aq' (vs:=#[]) (v:=.agg ([.slice none 0 0,.slice none 0 0,.slice none 0 0,i' 0]).toArray) z z (fun _=>by kernel_rfl)) z<|mv z z<|v' 4 z aY' z z z z z (List.all_eq_true.1 z)<|sg z z<|nx<|j' ?_
  replace hr:_=r:=hr
  refine g' ?_
  subst hr
  exact aI' z (ad' (i:=4) ag' z z z) z ⟨_,_,_,_,_,_,z,(aa' Rp.str _),(aa' a' _),(aa' a' _)⟩
 ·refine n'<|b'<|sr<|yy (s' 113602 ag' z z z) z<|yy (s' 113603 bw' z z z) z ?_
  obtain⟨U,aA,hr⟩:=hr
  refine H' z z (t' E41 z) (eX' aA) z (⟨j,l,k,p⟩)<|sg z z<|nr<|yy (s' 113602 ag' z z z) z<|mv z z<|yy (cI' z) z<|yy (e' 113603 bP' z z z) z<|yy (aq' (vs:=#[(0,i' U),(1,.slice ev1pp ev1.p.length ev1pc)]) (v:=.agg ([i' U,.slice ev1pp ev1.p.length ev1pc]).toArray) z z (fun _=>by kernel_rfl)) z<|yy (dc' z) z<|yy (e' 113603 sc4 z z z) z ?_
  obtain⟨K,ax,hr⟩:=hr
  refine M' z z (t' E116 z) (eY' ax) z (⟨j,l,k,p⟩) (fun aO aT aH Y=>?_)
  obtain⟨M,Q,ab,ad,T,R,rfl,P,W,S⟩:=Y
  refine v' 113602 z aY' z z z z z (List.all_eq_true.1 z)<|nr<|yy (bg' z) z<|yy (e' 113602 sc3 z z z) z<|mv z z<|yy (N' z z) z<|yy (Y0.max2 z z) z<|yy (bg' z) z<|aw' 113602 ([.slice M K.vars.length Q,.slice ab K.eqs.length ad,.slice T K.neqs.length R,i' (if K.next<(IntKind.i64.wrap (U+1)) then (IntKind.i64.wrap (U+1)) else K.next)]).toArray z sz3 z z z (show 3<4 by decide) z z<|nr<|yy (s' 113602 ag' z z z) z<|v' 4 z aY' z z z z z (List.all_eq_true.1 z)<|sg z z<|nx<|j' ?_
  obtain rfl:_=r:=hr
  exact aI' z (ad' (i:=4) ag' z z z) z ⟨_,_,_,_,_,_,z,P,W,S⟩
theorem ey'{q1 cap1 q1pp q1pc b1 r}(hr:(ZcE q1 cap1).Ret r):CtrL Tryz.prog 155 #[.agg ((v68' q1.id q1pp q1.p q1pc)).toArray,.pointer (some ⟨b1,0,none⟩)] [(123403,some ⟨b1,.cells ([i' cap1]).toArray 3 (0,0),0⟩)] (fun G=>sl r' G q1pp q1pc q1.p) (fun G L v=>L=[(123403,some ⟨b1,.cells ([i' cap1]).toArray 3 (0,0),0⟩)]∧v = .bool r):=by
 refine aW' (args:=[_,_]) (N:=8) Tryz.func155 z z z (fun e d g c=>?_)
 have f:=c
 refine sr<|W' 2 z z z fun h=>sg z z<|nr<|yy (bc' z) z<|yy (e' 2 sc3 z z z) z<|yy (e' 123403 sc3 z z z) z<|yy (ak' z z) z<|sg z z<|nx<|j' ?_
 obtain rfl:_=r:=hr
 refine aE' (S':=St e d d [(123403,some ⟨b1,.cells ([i' cap1]).toArray 3 (0,0),0⟩)]) (wk (lc z ln))<|k' z z ⟨z,z⟩
theorem cv'{s1 cap1 s1p s1c b1 r}(hr:(Zw s1 cap1).Ret r):CtrL Tryz.prog 181 #[.slice s1p s1.length s1c,.func (.func 155) #[] #[.pointer (some ⟨b1,0,none⟩)]] [(123403,some ⟨b1,.cells ([i' cap1]).toArray 3 (0,0),0⟩)] (fun G=>sl a' G s1p s1c s1) (fun G L v=>L=[(123403,some ⟨b1,.cells ([i' cap1]).toArray 3 (0,0),0⟩)]∧v=i' r):=by
 refine aW' (args:=[_,_]) (N:=19) Tryz.func181 z z z (fun l g F t=>?_)
 have m:=t
 have hz:l.L.zero:=by
  rw[F]; intro p B x u
  simp only[List.mem_cons,List.not_mem_nil,or_false] at B
  subst B; cases u; rfl
 refine sr<|sg z z<|nx<|h'<|sr<|mv z z<|yy (L' q' m z) z<|mv z z<|nx<|ab' (fun (h:Mem)=>match h with|f=>[]) (fun (h:Mem)=>match h with|f=>Mem.le g f∧(Zv).Ret r) (fun (h:Mem)=>match h with|f=>St l g f [(123403,some ⟨b1,.cells ([i' cap1]).toArray 3 (0,0),0⟩)]) ?_ ?_
 ·refine A' ?_
  let k:(Int⊕Unit)→Prop:=fun M=>((fun O=>match O with | .inl rv1=>Comp.ret rv1 | .inr ()=>Zv:(Int⊕Unit)→Comp Int) M).wp (fun a=>a=r)
  replace hr:(Comp.loop _ _).wp k:=hr
  refine ac' (Φ:=k) (fun (⟨c,e⟩:Int×Mem)=>(c:Int)) (fun ⟨c,e⟩=>[(0,.slice s1p s1.length s1c),(1,.func (.func 155) #[] #[.pointer (some ⟨b1,0,none⟩)]),(7,i' (s1.length:Int)),(8,i' c)]) (fun ⟨c,e⟩=>Mem.le g e) (fun ⟨c,e⟩=>St l g e [(123403,some ⟨b1,.cells ([i' cap1]).toArray 3 (0,0),0⟩)]) ⟨0,g⟩ hr (fc z (fc z (fc z (fc z fn)))) mr (wk (lc z ln)) ?_
  ·intro Q h u hr
   obtain⟨c,e⟩:=h
   have d:=u
   refine sr<|yy (V' z z) z<|nx<|h'<|I' hr z (fun A hr=>?_) (fun A hr=>?_)
   ·refine n'<|b'<|h'<|A'<|sr<|mv z z<|sg z z<|nr<|mv z z<|mv z z<|mv z z ?_
    obtain⟨R,o,hr⟩:=hr
    refine yy (P' q' aO' (m.mono d) z z o) z ?_
    obtain⟨I,J,D,y⟩:=bd' (E' (X' m o) d)
    refine yy (ax' _ bL' z z D) z ?_
    obtain⟨P,s,hr⟩:=hr
    refine WL.callRO z z (cM' E155 z z) (ey' s) z (y) (lc z ln) (fun i E=>by simp only[List.map_cons,List.map_nil,List.mem_cons,List.not_mem_nil,or_false] at E; subst E; exact z) hz (fun K q n j=>?_)
    subst j
    refine nx<|aM' hr z (fun C hr=>?_) (fun C hr=>?_)
    ·refine sr<|mv z z<|sg z z<|nx<|j' ?_
     replace hr:_=r:=hr
     refine x'<|g'<|g'<|x'<|aH'<|g' ?_
     subst hr
     refine aE' (S':=St l g q [(123403,some ⟨b1,.cells ([i' cap1]).toArray 3 (0,0),0⟩)]) (wk (lc z ln))<|k' z z ⟨z,z⟩
    ·refine n'<|D'<|b'<|w'<|yy (N' z z) z<|mv z z<|u'<|O' ⟨IntKind.i64.wrap (c+1),q⟩ hr (mt d n) (fc z (fc z (fc z (fc z fn)))) (wk (lc z ln))
   ·refine ae'<|m'<|m'<|J'<|af' e ⟨d,hr⟩ fn (wk (lc z ln))
 ·rintro f ⟨H,hr⟩
  refine b'<|sr<|sg z z<|nx<|j' ?_
  obtain rfl:_=r:=hr
  refine aE' (S':=St l g f [(123403,some ⟨b1,.cells ([i' cap1]).toArray 3 (0,0),0⟩)]) (wk (lc z ln))<|k' z z ⟨z,z⟩
theorem bI'{s1 cap1 s1p s1c s1n s1tk b1 r}(hr:(Zr s1 cap1).Ret r):CtrL Tryz.prog 156 #[.slice s1p s1n s1c,.func (.func 155) #[] #[.pointer (some ⟨b1,0,none⟩)]] [(5000,s1tk),(123403,some ⟨b1,.cells ([i' cap1]).toArray 3 (0,0),0⟩)] (fun G=>RowR a' 68 G (.slice s1p s1n s1c) s1 s1tk) (fun G L v=>∃ zp W O,L=[(5000,O),(123403,some ⟨b1,.cells ([i' cap1]).toArray 3 (0,0),0⟩)]∧v = .slice zp r.length W∧RowR a' 68 G (.slice zp r.length W) r O):=by
 refine aW' (args:=[_,_]) (N:=42) Tryz.func156 z z z (fun D q ad Q=>?_)
 have l:=Q
 have hz:D.L.zero:=by
  rw[ad]; intro p Z x F
  simp only[List.mem_cons,List.not_mem_nil,or_false] at Z
  rcases Z with rfl|rfl
  ·exact RowR.zero l F
  ·cases F; rfl
 refine sr<|sg z z<|nr<|mv z z<|mv z z ?_
 obtain⟨H,P,hr⟩:=hr
 refine WL.peekROZ (r:=a') (e:=68) 5000 l z hz z z (fun _=>t' E181 z) (cv' P) (by rw[RowR.eqv l]) (fun G' ap ae=>(cR' ae)) (lc z ln) (fun i hi=>by simp only[List.map_cons,List.map_nil,List.mem_cons,List.not_mem_nil,or_false] at hi; subst hi; exact⟨z,by decide⟩) hz<|sg z z<|nx<|h'<|sr<|mv z z<|yy (ak' z z) z<|nx<|I' hr z (fun U hr=>?_) (fun U hr=>?_)
 ·refine sr<|mv z z<|sg z z<|nx<|j' ?_
  replace hr:_=r:=hr
  refine g' ?_
  subst hr
  refine aE' (S':=St D q q [(5000,s1tk),(123403,some ⟨b1,.cells ([i' cap1]).toArray 3 (0,0),0⟩)]) (wk (lc z (lc z ln)))<|k' z z ⟨_,_,_,z,(RowR.eqv l),(RowR.std l)⟩
 ·refine n'<|b'<|h'<|sr<|mv z z<|yy (N' z z) z<|sg z z<|nx<|ab' (fun (⟨t,k,m,h⟩:(List Za)×Option Ow×Int×Mem)=>[(0,.slice s1p s1n s1c),(5,i' m)]) (fun ⟨t,k,m,h⟩=>Mem.le q h∧RowR a' 68 h (.slice s1p s1n s1c) t k∧(Zo t m).Ret r) (fun ⟨t,k,m,h⟩=>St D q h [(123403,some ⟨b1,.cells ([i' cap1]).toArray 3 (0,0),0⟩),(5000,k)]) ?_ ?_
  ·refine A' ?_
   let C:(((List Za)×Int))→Prop:=fun oo=>((fun ov=>match ov with|(t,m)=>Zo t m:(((List Za)×Int))→Comp (List Za)) oo).wp (fun a=>a=r)
   replace hr:(Comp.loop _ _).wp C:=hr
   refine ac' (Φ:=C) (fun (⟨o,c,j,s,f⟩:(List Za)×Option Ow×Int×Int×Mem)=>((o,j,s):(List Za)×Int×Int)) (fun ⟨o,c,j,s,f⟩=>[(0,.slice s1p s1n s1c),(1,.func (.func 155) #[] #[.pointer (some ⟨b1,0,none⟩)]),(5,i' j),(6,i' s)]) (fun ⟨o,c,j,s,f⟩=>Mem.le q f∧RowR a' 68 f (.slice s1p s1n s1c) o c) (fun ⟨o,c,j,s,f⟩=>St D q f [(123403,some ⟨b1,.cells ([i' cap1]).toArray 3 (0,0),0⟩),(5000,c)]) ⟨s1,s1tk,H,IntKind.i64.wrap (H+1),q⟩ hr (fc z (fc z (fc z (fc z fn)))) ⟨mr,l⟩ (wk (lc z (lc z ln))) ?_
   ·intro ao gx F hr
    obtain⟨o,c,j,s,f⟩:=gx
    obtain⟨n,g⟩:=F
    refine h'<|sr<|mv z z<|mv z z<|yy (dT' q' g z) z<|yy (V' z z) z<|nx<|I' hr z (fun aa hr=>?_) (fun aa hr=>?_)
    ·refine n'<|b'<|h'<|A'<|sr<|mv z z<|mv z z ?_
     obtain⟨u,J,hr⟩:=hr
     refine yy (aZ' q' aO' g z z J) z ?_
     obtain⟨A,B,ab,E⟩:=bd' (cK' g J)
     refine yy (dU' _ bL' g (key:=5000) z z z (by decide) ab) z<|U' 7 z z68 z fun b2=>v' 7 z aO' z z z z z (List.all_eq_true.1 z)<|nr<|mv z z<|yy (s' 7 bL' z z z) z ?_
     obtain⟨aq,R,hr⟩:=hr
     refine WL.callRO z z (cM' E155 z z) (ey' R) z (E) (lc z ln) (fun i hi=>by simp only[List.map_cons,List.map_nil,List.mem_cons,List.not_mem_nil,or_false] at hi; subst hi; exact z) hz (fun aj K d y=>?_)
     subst y
     refine yy (an' z) z<|nx<|aM' hr z (fun X hr=>?_) (fun X hr=>?_)
     ·refine sr<|mv z z<|mv z z<|yy (s' 7 bL' z z z) z ?_
      obtain⟨x2,M,hr⟩:=hr
      refine yy (aZ' q' aO' (g.mono d) z z M) z<|by' (r:=a') (e:=68) (cs':=(v68' u.id A u.p B)) (i:=j) (z':=u) 5000 z aO' z (g.mono d) z z z z ⟨[i' u.id],[.slice A u.p.length B],z,z,⟨_,z,(E.mono d)⟩⟩ M fun Y T=>nx<|w'<|mv z z<|yy (N' z z) z<|sg z z<|u'<|D'<|b'<|w'<|mv z z<|yy (N' z z) z<|sg z z<|u'<|O' ⟨(o.set j.toNat u),Y,IntKind.i64.wrap (j+1),IntKind.i64.wrap (s+1),K⟩ hr ⟨(mt n d),T⟩ (fc z (fc z (fc z (fc z fn)))) (wk (lc z (lc z ln)))
     ·refine n'<|D'<|b'<|w'<|mv z z<|yy (N' z z) z<|sg z z<|u'<|O' ⟨o,c,j,IntKind.i64.wrap (s+1),K⟩ hr ⟨(mt n d),(g.mono d)⟩ (fc z (fc z (fc z (fc z fn)))) (wk (lc z (lc z ln)))
    ·refine ae'<|m'<|m'<|J'<|af' ⟨o,c,j,f⟩ ⟨n,g,hr⟩ (fc z (fc z fn)) (wk (lc z (lc z ln)))
  ·rintro⟨t,k,m,h⟩ ⟨ai,ah,hr⟩
   refine b'<|sr<|mv z z<|mv z z ?_
   obtain⟨V,hr⟩:=hr
   refine WL.clearTail (r:=a') (e:=68) (lo:=m) (zx:=(Za.mk 0 [])) 5000 z q' el68 z z (List.all_eq_true.1 z) (by decide) ⟨[i' 0],[.slice none 0 0],z,z,⟨_,z,(aa' _ _)⟩⟩ ah z z z V fun am ac S=>nr<|mv z z<|mv z z ?_
   obtain⟨af,hr⟩:=hr
   refine WL.takeRow (r:=a') (e:=68) (hi:=m) z z q' aO' z S z z af fun I=>sg z z<|nx<|j' ?_
   obtain rfl:_=r:=hr
   refine aE' (S':=St D q h [(5000,ac),(123403,some ⟨b1,.cells ([i' cap1]).toArray 3 (0,0),0⟩)]) (wk (lc z (lc z ln)))<|k' z z ⟨_,_,_,z,(RowR.eqv I),(RowR.std I)⟩
theorem eO'{s1 id1 s1varsp s1varsc s1eqsp s1eqsc s1neqsp s1neqsc r}(hr:(ZcD s1 id1).Ret r):Ctr Tryz.prog 117 #[.agg ((v33' s1 s1varsp s1varsc s1eqsp s1eqsc s1neqsp s1neqsc)).toArray,i' id1] (fun G=>sl Rp.str G s1varsp s1varsc s1.vars∧sl a' G s1eqsp s1eqsc s1.eqs∧sl a' G s1neqsp s1neqsc s1.neqs) (fun G v=>∃ f g q n h k,v = .agg ((v33' r f g q n h k)).toArray∧sl Rp.str G f g r.vars∧sl a' G q n r.eqs∧sl a' G h k r.neqs):=by
 refine C' (args:=[_,_]) (N:=20) Tryz.func117 z z z (fun w0 G0 c P=>?_)
 obtain⟨y,H,B⟩:=P
 have hz:w0.L.zero:=by rw[c]; intro p hp; simp at hp
 refine sr<|W' 2 z z z fun b1=>W' 123403 z z z fun b2=>U' 4 z z33 z fun b3=>nr<|yy (bR' z z) z<|sg z z<|nr<|yy (az' z) z<|yy (e' 2 aS' z z z) z ?_
 obtain⟨au,M,hr⟩:=hr
 refine cj' z z (t' E150 z) (bZ' M) z (H) ln hz (fun ah aD ak l x=>?_)
 obtain⟨aq,ag,ab,rfl,rfl,K⟩:=x
 refine bu' (fun w d=>d.rekey (i:=7000) (j:=4009) z (by rw[c]; rfl))<|mv z z ?_
 obtain⟨I,R,hr⟩:=hr
 refine bu' (fun w d=>d.rekey (i:=4009) (j:=5000) z (by rw[c]; rfl))<|cj' z z (t' E156 z) (bI' R) z (K) (lc z (lc z ln)) hz (fun ai av an u D=>?_)
 obtain⟨F,E,Y,rfl,rfl,L⟩:=D
 refine bu' (fun w d=>d.rekey (i:=5000) (j:=4011) z (by rw[c]; rfl))<|bv' (r:=a') (e:=68) 4011 L z (by rw[c]; rfl) fun aB ay m W ac=>yy (az' z) z<|aw' 2 ([.slice s1varsp s1.vars.length s1varsc,.slice F I.length E,.slice s1neqsp s1.neqs.length s1neqsc,i' s1.next]).toArray z cu' z z z (show 1<4 by decide) z z<|nr<|yy (aK' z) z<|yy (e' 2 aS' z z z) z ?_
 obtain⟨aA,Q,hr⟩:=hr
 refine cj' z z (t' E150 z) (bZ' Q) z ((B.mono (mt (mt l u) m))) ln hz (fun ar aw af t A=>?_)
 obtain⟨ae,aj,ad,rfl,rfl,O⟩:=A
 refine bu' (fun w d=>d.rekey (i:=7000) (j:=4015) z (by rw[c]; rfl))<|mv z z ?_
 obtain⟨X,J,hr⟩:=hr
 refine bu' (fun w d=>d.rekey (i:=4015) (j:=5000) z (by rw[c]; rfl))<|cj' z z (t' E156 z) (bI' J) z (O) (lc z (lc z ln)) hz (fun ao az ap s C=>?_)
 obtain⟨S,V,Z,rfl,rfl,U⟩:=C
 refine bu' (fun w d=>d.rekey (i:=5000) (j:=4017) z (by rw[c]; rfl))<|bv' (r:=a') (e:=68) 4017 U z (by rw[c]; rfl) fun ax aC o T aa=>yy (aK' z) z<|aw' 2 ([.slice s1varsp s1.vars.length s1varsc,.slice F I.length E,.slice S X.length V,i' s1.next]).toArray z cu' z z z (show 2<4 by decide) z z<|nr<|yy (s' 2 ag' z z z) z<|v' 4 z aY' z z z z z (List.all_eq_true.1 z)<|nx<|j' ?_
 obtain rfl:_=r:=hr
 exact k' z (ad' (i:=4) ag' z z z) ⟨_,_,_,_,_,_,z,(y.mono (mt (mt (mt (mt (mt l u) m) t) s) o)),(W.mono (mt (mt t s) o)),T⟩
theorem gJ'{s1 ev1 s1varsp s1varsc s1eqsp s1eqsc s1neqsp s1neqsc ev1pp ev1pc r}(hr:(ZgX s1 ev1).Ret r):Ctr Tryz.prog 69 #[.agg ((v33' s1 s1varsp s1varsc s1eqsp s1eqsc s1neqsp s1neqsc)).toArray,.agg ([i' ev1.kind,.string ev1.name,i' ev1.at',i' ev1.to',i' ev1.id,.slice ev1pp ev1.p.length ev1pc,.bool ev1.neq]).toArray] (fun G=>sl Rp.str G s1varsp s1varsc s1.vars∧sl a' G s1eqsp s1eqsc s1.eqs∧sl a' G s1neqsp s1neqsc s1.neqs∧sl r' G ev1pp ev1pc ev1.p) (fun G v=>∃ g d j l c f,v = .tuple #[.agg ((v33' r.1 g d j l c f)).toArray,i' r.2]∧sl Rp.str G g d r.1.vars∧sl a' G j l r.1.eqs∧sl a' G c f r.1.neqs):=by
 refine C' (args:=[_,_]) (N:=22) Tryz.func69 z z z (fun w0 G0 S J=>?_)
 obtain⟨h,p,k,W⟩:=J
 refine sr<|W' 2 z z z fun b1=>W' 3 z z z fun b2=>U' 4 z z33 z fun b3=>sg z z<|nx<|h'<|sr<|yy (s' 2 ag' z z z) z<|yy (aL' z) z<|yy (e' 3 sc3 z z z) z ?_
 obtain⟨ae,H,hr⟩:=hr
 refine M' z z (t' E112 z) (di' H) z (⟨h,p,k⟩) (fun Y ag n u=>?_)
 obtain⟨aa,ad,rfl,E⟩:=u
 obtain⟨T,L,hr⟩:=hr
 refine M' z z (t' E94 z) (br' L) z (E) (fun Z af m y=>?_)
 obtain⟨ab,X,rfl,B⟩:=y
 obtain⟨C,q,rfl⟩:=cf' B
 refine aU' (e:=131) (r:=(Rp.fn Tryz.prog fa0 foI)) (vs:=#[(0,(.func (.func C) #[] q))]) (cs:=[(.func (.func C) #[] q)]++([])) ([T]:List (Unit→Comp Int)) z z z z z (by decide) (fun _=>by kernel_rfl) ⟨[(.func (.func C) #[] q)],[],z,⟨_,z,B⟩,z⟩ (key:=999) z (by rw[S]; rfl) (fun p1 ai o U=>?_)
 obtain⟨aj,K,hr⟩:=hr
 refine H' z z (t' E93 z) (cH' K) z (U)<|sg z z<|nr<|mv z z<|yy (aQ' z z) z<|nx<|I' hr z (fun R hr=>?_) (fun R hr=>?_)
 ·refine sr<|yy (aq' (vs:=#[]) (v:=.agg ([.slice none 0 0,.slice none 0 0,.slice none 0 0,i' 0]).toArray) z z (fun _=>by kernel_rfl)) z<|mv z z<|v' 4 z aY' z z z z z (List.all_eq_true.1 z)<|sg z z<|nx<|j' ?_
  replace hr:_=r:=hr
  refine g' ?_
  subst hr
  exact aI' z (ad' (i:=4) ag' z z z) z ⟨_,_,_,_,_,_,z,(aa' Rp.str _),(aa' a' _),(aa' a' _)⟩
 ·refine n'<|b'<|sr<|yy (s' 2 ag' z z z) z<|yy (aL' z) z<|yy (e' 3 sc3 z z z) z ?_
  obtain⟨ak,D,hr⟩:=hr
  refine M' z z (t' E117 z) (eO' D) z (⟨(h.mono (mt (mt n m) o)),(p.mono (mt (mt n m) o)),(k.mono (mt (mt n m) o))⟩) (fun ac ah V A=>?_)
  obtain⟨F,M,Q,P,I,O,rfl,s,x,t⟩:=A
  refine v' 4 z aY' z z z z z (List.all_eq_true.1 z)<|sg z z<|nx<|j' ?_
  obtain rfl:_=r:=hr
  exact aI' z (ad' (i:=4) ag' z z z) z ⟨_,_,_,_,_,_,z,s,x,t⟩
theorem gv'{q1 cap1 q1pp q1pc cap1pp cap1pc b1 r}(hr:(Zfu q1 cap1).Ret r):CtrL Tryz.prog 118 #[.agg ((v68' q1.id q1pp q1.p q1pc)).toArray,.pointer (some ⟨b1,0,none⟩)] [(114003,some ⟨b1,.cells ([i' cap1.kind,.string cap1.name,i' cap1.at',i' cap1.to',i' cap1.id,.slice cap1pp cap1.p.length cap1pc,.bool cap1.neq]).toArray 40 (0,0),0⟩)] (fun G=>sl r' G q1pp q1pc q1.p∧sl r' G cap1pp cap1pc cap1.p) (fun G L v=>L=[(114003,some ⟨b1,.cells ([i' cap1.kind,.string cap1.name,i' cap1.at',i' cap1.to',i' cap1.id,.slice cap1pp cap1.p.length cap1pc,.bool cap1.neq]).toArray 40 (0,0),0⟩)]∧(∃ e d,v = .agg ((v68' r.id e r.p d)).toArray∧sl r' G e d r.p)):=by
 refine aW' (args:=[_,_]) (N:=13) Tryz.func118 z z z (fun k n j f=>?_)
 obtain⟨g,c⟩:=f
 refine sr<|W' 2 z z z fun l=>U' 3 z z68 z fun m=>nx<|h'<|sr<|yy (bc' z) z<|yy (e' 2 sc3 z z z) z<|yy (aL' z) z<|yy (e' 114003 sc3 z z z) z<|yy (ak' z z) z<|nx<|I' hr z (fun h hr=>?_) (fun h hr=>?_)
 ·refine w'<|yy (cI' z) z<|yy (e' 114003 bP' z z z) z<|yy (bq' z) z<|aw' 2 ([i' q1.id,.slice cap1pp cap1.p.length cap1pc]).toArray z sz38 z z z (show 1<2 by decide) z z<|nr<|yy (s' 2 bL' z z z) z<|v' 3 z aO' z z z z z (List.all_eq_true.1 z)<|nx<|j' ?_
  obtain rfl:_=r:=hr
  exact WE.retW1 z (ad' (i:=3) bL' z z z) (lc z ln) ⟨z,⟨_,_,z,c⟩⟩
 ·refine n'<|b'<|sr<|yy (s' 2 bL' z z z) z<|v' 3 z aO' z z z z z (List.all_eq_true.1 z)<|nx<|j' ?_
  obtain rfl:_=r:=hr
  exact WE.retW1 z (ad' (i:=3) bL' z z z) (lc z ln) ⟨z,⟨_,_,z,g⟩⟩
theorem cy'{l1 cap1 l1p l1c cap1pp cap1pc b1 r}(hr:(ZL l1 cap1).Ret r):CtrL Tryz.prog 119 #[.slice l1p l1.length l1c,.func (.func 118) #[] #[.pointer (some ⟨b1,0,none⟩)]] [(114003,some ⟨b1,.cells ([i' cap1.kind,.string cap1.name,i' cap1.at',i' cap1.to',i' cap1.id,.slice cap1pp cap1.p.length cap1pc,.bool cap1.neq]).toArray 40 (0,0),0⟩)] (fun G=>sl a' G l1p l1c l1∧sl r' G cap1pp cap1pc cap1.p) (fun G L v=>L=[(114003,some ⟨b1,.cells ([i' cap1.kind,.string cap1.name,i' cap1.at',i' cap1.to',i' cap1.id,.slice cap1pp cap1.p.length cap1pc,.bool cap1.neq]).toArray 40 (0,0),0⟩)]∧(∃ zp V,v = .slice zp r.length V∧sl a' G zp V r)):=by
 refine aW' (args:=[_,_]) (N:=26) Tryz.func119 z z z (fun F A K O=>?_)
 obtain⟨t,D⟩:=O
 have hz:F.L.zero:=by
  rw[K]; intro p Z x R
  simp only[List.mem_cons,List.not_mem_nil,or_false] at Z
  subst Z; cases R; rfl
 refine sr<|sg z z<|nr<|mv z z<|yy (L' q' t z) z ?_
 obtain⟨W,hr⟩:=hr
 refine dP' (r:=a') (e:=68) (n:=(l1.length:Int)) (zx:=(Za.mk 0 [])) 4010 z z q' el68 z (by decide) (by decide) ⟨[i' 0],[.slice none 0 0],z,z,⟨_,z,(aa' _ _)⟩⟩ z z W fun E P ae=>sg z z<|nx<|h'<|sr<|mv z z<|yy (L' q' t z) z<|mv z z<|nx<|ab' (fun (⟨k,g,m⟩:(List Za)×Option Ow×Mem)=>[(5,.slice E (l1.length:Int).toNat ((l1.length:Int).toNat))]) (fun ⟨k,g,m⟩=>Mem.le A m∧RowR a' 68 m (.slice E (l1.length:Int).toNat ((l1.length:Int).toNat)) k g∧(ZR k).Ret r) (fun ⟨k,g,m⟩=>St F A m [(114003,some ⟨b1,.cells ([i' cap1.kind,.string cap1.name,i' cap1.at',i' cap1.to',i' cap1.id,.slice cap1pp cap1.p.length cap1pc,.bool cap1.neq]).toArray 40 (0,0),0⟩),(4010,g)]) ?_ ?_
 ·refine A' ?_
  let B:(List Za)→Prop:=fun oo=>((fun ov=>match ov with|k=>ZR k:(List Za)→Comp (List Za)) oo).wp (fun a=>a=r)
  replace hr:(Comp.loop _ _).wp B:=hr
  refine ac' (Φ:=B) (fun (⟨j,d,c,h⟩:(List Za)×Option Ow×Int×Mem)=>((j,c):(List Za)×Int)) (fun ⟨j,d,c,h⟩=>[(1,.func (.func 118) #[] #[.pointer (some ⟨b1,0,none⟩)]),(5,.slice E (l1.length:Int).toNat ((l1.length:Int).toNat)),(11,.slice l1p l1.length l1c),(12,i' (l1.length:Int)),(13,i' c)]) (fun ⟨j,d,c,h⟩=>Mem.le A h∧RowR a' 68 h (.slice E (l1.length:Int).toNat ((l1.length:Int).toNat)) j d) (fun ⟨j,d,c,h⟩=>St F A h [(114003,some ⟨b1,.cells ([i' cap1.kind,.string cap1.name,i' cap1.at',i' cap1.to',i' cap1.id,.slice cap1pp cap1.p.length cap1pc,.bool cap1.neq]).toArray 40 (0,0),0⟩),(4010,d)]) ⟨(List.replicate (l1.length:Int).toNat (Za.mk 0 [])),P,0,A⟩ hr (fc z (fc z (fc z (fc z (fc z fn))))) ⟨mr,ae⟩ (wk (lc z (lc z ln))) ?_
  ·intro ao gx R hr
   obtain⟨j,d,c,h⟩:=gx
   obtain⟨f,q⟩:=R
   refine sr<|yy (V' z z) z<|nx<|h'<|I' hr z (fun U hr=>?_) (fun U hr=>?_)
   ·refine n'<|b'<|h'<|A'<|sr<|mv z z ?_
    obtain⟨x1,I,hr⟩:=hr
    refine yy (P' q' aO' (t.mono f) z z I) z ?_
    obtain⟨ai,aj,aa,S⟩:=bd' (E' (X' t I) f)
    refine yy (ax' _ bL' z z aa) z<|U' 7 z z68 z fun b2=>sg z z<|v' 7 z aO' z z z z z (List.all_eq_true.1 z)<|nx<|w'<|mv z z<|mv z z<|mv z z<|yy (s' 7 bL' z z z) z ?_
    obtain⟨l,M,hr⟩:=hr
    refine WL.callRO z z (cM' E118 z z) (gv' M) z (⟨S,(D.mono f)⟩) (lc z ln) (fun i hi=>by simp only[List.map_cons,List.map_nil,List.mem_cons,List.not_mem_nil,or_false] at hi; subst hi; exact z) hz (fun ak X o y=>?_)
    obtain⟨u,s,rfl,H⟩:=y
    obtain⟨x2,J,hr⟩:=hr
    refine yy (aZ' q' aO' (q.mono o) z z J) z<|by' (r:=a') (e:=68) (cs':=(v68' l.id u l.p s)) (i:=c) (z':=l) 4010 z aO' z (q.mono o) z z z z ⟨[i' l.id],[.slice u l.p.length s],z,z,⟨_,z,H⟩⟩ J fun Y Q=>u'<|D'<|b'<|w'<|yy (N' z z) z<|mv z z<|u'<|O' ⟨(j.set c.toNat l),Y,IntKind.i64.wrap (c+1),X⟩ hr ⟨(mt f o),Q⟩ (fc z (fc z (fc z (fc z (fc z fn))))) (wk (lc z (lc z ln)))
   ·refine ae'<|m'<|m'<|J'<|af' ⟨j,d,h⟩ ⟨f,q,hr⟩ (fc z fn) (wk (lc z (lc z ln)))
 ·rintro⟨k,g,m⟩ ⟨af,T,hr⟩
  refine b'<|sr<|mv z z<|sg z z<|nx<|j' ?_
  obtain rfl:_=r:=hr
  refine dD' (r:=a') (e:=68) 4010 T z (by rw[K]; rfl) fun ap ad ag C ah=>aE' (S':=St F A ad [(114003,some ⟨b1,.cells ([i' cap1.kind,.string cap1.name,i' cap1.at',i' cap1.to',i' cap1.id,.slice cap1pp cap1.p.length cap1pc,.bool cap1.neq]).toArray 40 (0,0),0⟩)]) (wk (lc z ln))<|k' z z ⟨z,⟨_,_,(cY' C),(cR' C)⟩⟩
theorem gR'{s1 ev1 s1varsp s1varsc s1eqsp s1eqsc s1neqsp s1neqsc ev1pp ev1pc r}(hr:(Zh7 s1 ev1).Ret r):Ctr Tryz.prog 70 #[.agg ((v33' s1 s1varsp s1varsc s1eqsp s1eqsc s1neqsp s1neqsc)).toArray,.agg ([i' ev1.kind,.string ev1.name,i' ev1.at',i' ev1.to',i' ev1.id,.slice ev1pp ev1.p.length ev1pc,.bool ev1.neq]).toArray] (fun G=>sl Rp.str G s1varsp s1varsc s1.vars∧sl a' G s1eqsp s1eqsc s1.eqs∧sl a' G s1neqsp s1neqsc s1.neqs∧sl r' G ev1pp ev1pc ev1.p) (fun G v=>∃ C D I K F E,v = .tuple #[.agg ((v33' r.1 C D I K F E)).toArray,i' r.2]∧sl Rp.str G C D r.1.vars∧sl a' G I K r.1.eqs∧sl a' G F E r.1.neqs):=by
 refine C' (args:=[_,_]) (N:=36) Tryz.func70 z z z (fun w0 G0 ak ax=>?_)
 obtain⟨y,H,A,P⟩:=ax
 have hz:w0.L.zero:=by rw[ak]; intro p hp; simp at hp
 refine sr<|W' 2 z z z fun b1=>W' 114003 z z z fun b2=>U' 4 z z33 z fun b3=>sg z z<|nx<|h'<|Z' [false,false,false,false,false,false,false,false] mix (by kernel_rfl) fun hb=>cn (fun _ c=>s' 2 ag' z z z)<|cn (fun _ c=>aL' z)<|cn (fun _ c=>e' 114003 sc3 z z z) ?_
 obtain⟨af,al,hr⟩:=hr
 refine ay' (post:=fun G v=>∃ j n,v=j∧FnRd Tryz.prog fa0 foB G j n af) (fun _=>z) (fun _ _=>t' E112 z) (di' al) z (fun G' c=>⟨(y.mono c),(H.mono c),(A.mono c)⟩) (fun v G1 G2 c h=>?_) ?_
 ·obtain⟨j,n,rfl,L⟩:=h
  exact⟨_,_,z,L.mono c⟩
 obtain⟨ab,aq,hr⟩:=hr
 refine cU' (f:=94) (φ:=fun G v=>∃ t B,v=t∧FnRd Tryz.prog fa0 foI G t B ab) (fun _=>z) (fun v G1 G2 c h=>?_) (fun u G' c hu=>?_) ?_
 ·obtain⟨t,B,rfl,M⟩:=h
  exact⟨_,_,z,M.mono c⟩
 ·obtain⟨⟨j,n,aj,L⟩,_⟩:=(show (fun G v=>∃ j n,v=j∧FnRd Tryz.prog fa0 foB G j n af) G'.m (u 11)∧True from hu)
  exact⟨_,_,_,fun _=>t' E94 z,br' aq,(by simp only[aj] <;> rfl),L⟩
 refine cu (fun _ _ c=>s' 2 ag' z z z)<|cu (fun _ _ c=>cI' z)<|cu (fun _ _ c=>e' 114003 bP' z z z)<|df' (d:=12) (post:=fun G v=>∃ t B,v=t∧FnRd Tryz.prog fa0 foI G t B ab) (d':=11) (post':=fun G v=>∃ j n,v=j∧FnRd Tryz.prog fa0 foB G j n af) (fun aD aH aS g aa V=>?_)
 obtain⟨t,B,rfl,M⟩:=aa
 obtain⟨j,n,rfl,L⟩:=V
 obtain⟨aV,ap,hr⟩:=hr
 refine M' z z (t' E115 z) (fF' ap) z (⟨(y.mono g),(H.mono g),(A.mono g),(P.mono g)⟩) (fun aO aP q Z=>?_)
 obtain⟨aJ,aK,rfl,av⟩:=Z
 obtain⟨az,ao,hr⟩:=hr
 refine M' z z (t' E94 z) (br' ao) z (av) (fun aF aU s X=>?_)
 obtain⟨aN,aM,rfl,ac⟩:=X
 obtain⟨ae,R,rfl⟩:=cf' M
 obtain⟨U,O,rfl⟩:=cf' ac
 refine aU' (e:=131) (r:=(Rp.fn Tryz.prog fa0 foI)) (vs:=#[(0,(.func (.func ae) #[] R)),(1,(.func (.func U) #[] O))]) (cs:=[(.func (.func ae) #[] R)]++([(.func (.func U) #[] O)]++([]))) ([ab,az]:List (Unit→Comp Int)) z z z z z (by decide) (fun _=>by kernel_rfl) ⟨[(.func (.func ae) #[] R)],[(.func (.func U) #[] O)]++([]),z,⟨_,z,(M.mono (mt q s))⟩,⟨[(.func (.func U) #[] O)],[],z,⟨_,z,ac⟩,z⟩⟩ (key:=999) z (by rw[ak]; rfl) (fun p1 aT x aB=>?_)
 obtain⟨aQ,am,hr⟩:=hr
 refine H' z z (t' E93 z) (cH' am) z (aB)<|sg z z<|u'<|am'<|b'<|h'<|sr<|mv z z<|yy (aQ' z z) z<|nx<|I' hr z (fun aA hr=>?_) (fun aA hr=>?_)
 ·refine sr<|yy (aq' (vs:=#[]) (v:=.agg ([.slice none 0 0,.slice none 0 0,.slice none 0 0,i' 0]).toArray) z z (fun _=>by kernel_rfl)) z<|mv z z<|v' 4 z aY' z z z z z (List.all_eq_true.1 z)<|sg z z<|nx<|j' ?_
  replace hr:_=r:=hr
  refine g' ?_
  subst hr
  exact aI' z (ad' (i:=4) ag' z z z) z ⟨_,_,_,_,_,_,z,(aa' Rp.str _),(aa' a' _),(aa' a' _)⟩
 ·refine n'<|b'<|sr<|yy (bR' z z) z<|sg z z<|nx<|h'<|Z' [false,false,false,false,false,false,false,false,false] mix (by kernel_rfl) fun hb=>cn (fun _ c=>az' z)<|cn (fun _ c=>e' 2 aS' z z z)<|cn (fun _ c=>f' z) ?_
  obtain⟨J,aw,hr⟩:=hr
  refine eu' (f:=119) (φ:=fun G v=>∃ k l,v = .slice k J.length l∧sl a' G k l J) (L1:=[(114003,some ⟨b2,.cells ([i' ev1.kind,.string ev1.name,i' ev1.at',i' ev1.to',i' ev1.id,.slice ev1pp ev1.p.length ev1pc,.bool ev1.neq]).toArray 40 (0,0),0⟩)]) (fun _=>z) (fun v G1 G2 c h=>?_) (lc z ln) (fun i hi=>by simp only[List.map_cons,List.map_nil,List.mem_cons,List.not_mem_nil,or_false] at hi; subst hi; exact z) hz (fun u G' c hu=>?_) ?_
  ·obtain⟨k,l,rfl,S⟩:=h
   exact⟨_,_,z,S.mono c⟩
  ·skip
   exact⟨_,_,_,fun _=>t' E119 z,cy' aw,z,⟨((H.mono (mt (mt (mt g q) s) x)).mono c),((P.mono (mt (mt (mt g q) s) x)).mono c)⟩⟩
  refine cu (fun _ _ c=>aK' z)<|cu (fun _ _ c=>e' 2 aS' z z z)<|cu (fun _ _ c=>f' z) ?_
  obtain⟨Q,au,hr⟩:=hr
  refine eu' (f:=119) (φ:=fun G v=>∃ m o,v = .slice m Q.length o∧sl a' G m o Q) (L1:=[(114003,some ⟨b2,.cells ([i' ev1.kind,.string ev1.name,i' ev1.at',i' ev1.to',i' ev1.id,.slice ev1pp ev1.p.length ev1pc,.bool ev1.neq]).toArray 40 (0,0),0⟩)]) (fun _=>z) (fun v G1 G2 c h=>?_) (lc z ln) (fun i hi=>by simp only[List.map_cons,List.map_nil,List.mem_cons,List.not_mem_nil,or_false] at hi; subst hi; exact z) hz (fun u G' c hu=>?_) ?_
  ·obtain⟨m,o,rfl,T⟩:=h
   exact⟨_,_,z,T.mono c⟩
  ·obtain⟨_,_⟩:=(show True∧True from hu)
   exact⟨_,_,_,fun _=>t' E119 z,cy' au,z,⟨((A.mono (mt (mt (mt g q) s) x)).mono c),((P.mono (mt (mt (mt g q) s) x)).mono c)⟩⟩
  refine cu (fun _ _ c=>az' z)<|df' (d:=32) (post:=fun G v=>∃ m o,v = .slice m Q.length o∧sl a' G m o Q) (d':=28) (post':=fun G v=>∃ k l,v = .slice k J.length l∧sl a' G k l J) (fun aI aC aR ai W Y=>?_)
  obtain⟨m,o,rfl,T⟩:=W
  obtain⟨k,l,rfl,S⟩:=Y
  refine aw' 2 ([.slice s1varsp s1.vars.length s1varsc,.slice k J.length l,.slice s1neqsp s1.neqs.length s1neqsc,i' s1.next]).toArray z cu' z z z (show 1<4 by decide) z z<|yy (aK' z) z<|aw' 2 ([.slice s1varsp s1.vars.length s1varsc,.slice k J.length l,.slice m Q.length o,i' s1.next]).toArray z cu' z z z (show 2<4 by decide) z z<|u'<|am'<|b'<|sr<|yy (s' 2 ag' z z z) z<|v' 4 z aY' z z z z z (List.all_eq_true.1 z)<|sg z z<|nx<|j' ?_
  obtain rfl:_=r:=hr
  exact aI' z (ad' (i:=4) ag' z z z) z ⟨_,_,_,_,_,_,z,(y.mono (mt (mt (mt (mt g q) s) x) ai)),S,T⟩
theorem fP'(f:Zb)(h:Bool)(u:Nat)(t:Nat)(r:Bool)(hr:(ZaC f h).Ret r):Ctr Tryz.prog 120 #[.pointer (some ⟨u,0,none⟩),.pointer (some ⟨t,0,none⟩)] (fun G=>At bs' G u 0 f∧At Rp.bool G t 0 h) (fun G v=>v = .bool r):=by
 refine C' (args:=[_,_]) (N:=9) Tryz.func120 z z z (fun J I F m=>?_)
 obtain⟨j,i⟩:=m
 refine sr<|sg z z<|nr ?_
 obtain⟨q,p,x,s,n,o,y,d,g,e⟩:=ev' j
 refine yy (ax' _ ag' z z y) z<|yy (T' sc4 z (AtK.bool i)) z<|yy (an' z) z ?_
 obtain⟨E,l,hr⟩:=hr
 refine M' z z (t' E114 z) (dK' l) z (⟨d,g,e⟩) (fun C H A c=>?_)
 obtain⟨D,B,rfl,k⟩:=c
 refine yy (L' q' k z) z<|yy (V' z z) z<|sg z z<|nx<|j' ?_
 obtain rfl:_=r:=hr
 exact k' z z z
theorem gK'{s1 ev1 s1varsp s1varsc s1eqsp s1eqsc s1neqsp s1neqsc ev1pp ev1pc r}(hr:(ZgZ s1 ev1).Ret r):Ctr Tryz.prog 71 #[.agg ((v33' s1 s1varsp s1varsc s1eqsp s1eqsc s1neqsp s1neqsc)).toArray,.agg ([i' ev1.kind,.string ev1.name,i' ev1.at',i' ev1.to',i' ev1.id,.slice ev1pp ev1.p.length ev1pc,.bool ev1.neq]).toArray] (fun G=>sl Rp.str G s1varsp s1varsc s1.vars∧sl a' G s1eqsp s1eqsc s1.eqs∧sl a' G s1neqsp s1neqsc s1.neqs∧sl r' G ev1pp ev1pc ev1.p) (fun G v=>∃ C D H I F E,v = .tuple #[.agg ((v33' r.1 C D H I F E)).toArray,i' r.2]∧sl Rp.str G C D r.1.vars∧sl a' G H I r.1.eqs∧sl a' G F E r.1.neqs):=by
 refine C' (args:=[_,_]) (N:=39) Tryz.func71 z z z (fun w0 G0 ae ay=>?_)
 obtain⟨p,y,q,aK⟩:=ay
 refine sr<|W' 114202 z z z fun b1=>W' 3 z z z fun b2=>U' 4 z z33 z fun b3=>sg z z<|nr<|yy (s' 114202 ag' z z z) z<|yy (aL' z) z<|yy (e' 3 sc3 z z z) z ?_
 obtain⟨ac,ai,hr⟩:=hr
 refine M' z z (t' E42 z) (da' ai) z (⟨p,y,q⟩) (fun aW a6 k T=>?_)
 obtain⟨aA,aB,rfl,V⟩:=T
 refine mv z z<|yy (K' z z) z<|yy (K' z z) z<|yy (K' z z) z<|U' 6 z z68 z fun b4=>U' 114207 z z4 z fun b5=>v' 6 z aO' z z z z z (List.all_eq_true.1 z)<|aw' 114207 ([.bool ac.2.1]).toArray z sz4 z z z (by first|decide|simp) z z<|sg z z<|nx<|h'<|bE' 114202 z (by rw[ae]; rfl) fun a3 o ap av=>bE' 114207 z (by rw[ae]; rfl) fun a9 u aj ax=>w'<|yy (s' 114202 ag' z z z) z<|yy (aL' z) z<|yy (e' 3 sc3 z z z) z ?_
 obtain⟨bb,an,hr⟩:=hr
 refine M' z z (t' E112 z) (di' an) z (⟨(p.mono (mt (mt k o) u)),(y.mono (mt (mt k o) u)),(q.mono (mt (mt k o) u))⟩) (fun aS a7 L Z=>?_)
 obtain⟨aP,aM,rfl,ar⟩:=Z
 obtain⟨aJ,am,hr⟩:=hr
 refine M' z z (t' E94 z) (br' am) z (ar) (fun a1 aI K Y=>?_)
 obtain⟨aY,aZ,rfl,ad⟩:=Y
 refine yy (bR' z z) z ?_
 obtain⟨aF,al,hr⟩:=hr
 refine M' z z (t' E94 z) (br' al) z ((show FnRd Tryz.prog fa0 foB aI (.func (.func 120) #[] #[.pointer (some ⟨b1,0,none⟩),.pointer (some ⟨b5,0,none⟩)]) () (fun _=>ZaC s1 ac.2.1) from (dg' E120 (fun x hx=>dh' (fP' _ _ _ _ x hx) (fun G' n=>⟨(E' (cn' (r:=bs') (cs:=(v33' s1 s1varsp s1varsc s1eqsp s1eqsc s1neqsp s1neqsc)) ap z ⟨[.slice s1varsp s1.vars.length s1varsc],[.slice s1eqsp s1.eqs.length s1eqsc,.slice s1neqsp s1.neqs.length s1neqsc,i' s1.next],z,⟨_,z,(p.mono (mt k o))⟩,⟨[.slice s1eqsp s1.eqs.length s1eqsc],[.slice s1neqsp s1.neqs.length s1neqsc,i' s1.next],z,⟨_,z,(y.mono (mt k o))⟩,⟨[.slice s1neqsp s1.neqs.length s1neqsc],[i' s1.next],z,⟨_,z,(q.mono (mt k o))⟩,z⟩⟩⟩) (mt (mt (mt u L) K) n)),(E' (cn' (r:=Rp.bool) (cs:=[.bool ac.2.1]) aj z z) (mt (mt L K) n))⟩))))) (fun aU a5 Q W=>?_)
 obtain⟨aL,a0,rfl,aa⟩:=W
 obtain⟨ab,M,rfl⟩:=cf' ad
 obtain⟨R,J,rfl⟩:=cf' aa
 refine aU' (e:=131) (r:=(Rp.fn Tryz.prog fa0 foI)) (vs:=#[(0,(.func (.func ab) #[] M)),(1,(.func (.func R) #[] J))]) (cs:=[(.func (.func ab) #[] M)]++([(.func (.func R) #[] J)]++([]))) ([aJ,aF]:List (Unit→Comp Int)) z z z z z (by decide) (fun _=>by kernel_rfl) ⟨[(.func (.func ab) #[] M)],[(.func (.func R) #[] J)]++([]),z,⟨_,z,(ad.mono Q)⟩,⟨[(.func (.func R) #[] J)],[],z,⟨_,z,aa⟩,z⟩⟩ (key:=999) z (by rw[ae]; rfl) (fun p1 ba af aH=>?_)
 obtain⟨a4,ak,hr⟩:=hr
 refine H' z z (t' E93 z) (cH' ak) z (aH)<|sg z z<|cP' 114207 z ax (mt k o) (mt (mt (mt (mt u L) K) Q) af)<|cP' 114202 z av k o<|nx<|h'<|sr<|mv z z<|yy (aQ' z z) z<|nx<|I' hr z (fun aG hr=>?_) (fun aG hr=>?_)
 ·refine sr<|yy (aq' (vs:=#[]) (v:=.agg ([.slice none 0 0,.slice none 0 0,.slice none 0 0,i' 0]).toArray) z z (fun _=>by kernel_rfl)) z<|mv z z<|v' 4 z aY' z z z z z (List.all_eq_true.1 z)<|sg z z<|nx<|j' ?_
  replace hr:_=r:=hr
  refine g' ?_
  subst hr
  exact aI' z (ad' (i:=4) ag' z z z) z ⟨_,_,_,_,_,_,z,(aa' Rp.str _),(aa' a' _),(aa' a' _)⟩
 ·refine n'<|b'<|h'<|Z' [false,false,false,false,false,false,false] mix (by kernel_rfl) fun hb=>cn (fun _ n=>s' 114202 ag' z z z)<|cn (fun _ n=>aL' z)<|cn (fun _ n=>e' 3 sc3 z z z) ?_
  obtain⟨B,aw,hr⟩:=hr
  refine ay' (post:=fun G v=>∃ f c l m j g,v = .agg ((v33' B f c l m j g)).toArray∧sl Rp.str G f c B.vars∧sl a' G l m B.eqs∧sl a' G j g B.neqs) (fun _=>z) (fun _ _=>t' E117 z) (eO' aw) z (fun G' n=>⟨((p.mono k).mono n),((y.mono k).mono n),((q.mono k).mono n)⟩) (fun v G1 G2 n h=>?_) ?_
  ·obtain⟨f,c,l,m,j,g,rfl,s,A,t⟩:=h
   exact⟨_,_,_,_,_,_,z,s.mono n,A.mono n,t.mono n⟩
  refine cu (fun _ _ n=>s' 6 bL' z z z)<|cu (fun _ _ n=>e' 114207 sc4 z z z)<|cu (fun _ _ n=>an' z)<|bO' (d:=34) (post:=fun G v=>∃ f c l m j g,v = .agg ((v33' B f c l m j g)).toArray∧sl Rp.str G f c B.vars∧sl a' G l m B.eqs∧sl a' G j g B.neqs) (fun aR a2 ag X=>?_)
  obtain⟨f,c,l,m,j,g,rfl,s,A,t⟩:=X
  obtain⟨a8,au,hr⟩:=hr
  refine M' z z (t' E116 z) (eY' au) z (⟨s,A,t,(V.mono ag)⟩) (fun aX aQ aE U=>?_)
  obtain⟨ah,ao,aC,aD,az,aq,rfl,O,S,P⟩:=U
  refine v' 4 z aY' z z z z z (List.all_eq_true.1 z)<|sg z z<|u'<|am'<|b'<|j' ?_
  obtain rfl:_=r:=hr
  exact aI' z (ad' (i:=4) ag' z z z) z ⟨_,_,_,_,_,_,z,O,S,P⟩
theorem cb'{s1 ev1 s1varsp s1varsc s1eqsp s1eqsc s1neqsp s1neqsc ev1pp ev1pc r}(hr:(Zbi s1 ev1).Ret r):Ctr Tryz.prog 14 #[.agg ((v33' s1 s1varsp s1varsc s1eqsp s1eqsc s1neqsp s1neqsc)).toArray,.agg ([i' ev1.kind,.string ev1.name,i' ev1.at',i' ev1.to',i' ev1.id,.slice ev1pp ev1.p.length ev1pc,.bool ev1.neq]).toArray] (fun G=>sl Rp.str G s1varsp s1varsc s1.vars∧sl a' G s1eqsp s1eqsc s1.eqs∧sl a' G s1neqsp s1neqsc s1.neqs∧sl r' G ev1pp ev1pc ev1.p) (fun G v=>∃ k l o p n m,v = .tuple #[.agg ((v33' r.1 k l o p n m)).toArray,i' r.2]∧sl Rp.str G k l r.1.vars∧sl a' G o p r.1.eqs∧sl a' G n m r.1.neqs):=by
 refine C' (args:=[_,_]) (N:=24) Tryz.func14 z z z (fun w0 G0 bX bh=>?_)
 obtain⟨d,g,e,j⟩:=bh
 refine sr<|W' 2 z z z fun b1=>W' 3 z z z fun b2=>U' 4 z z33 z fun b3=>sg z z<|nx<|h'<|Z' [false,false,false,false,false,false,true] mix (by kernel_rfl) fun hb=>Chain.callMap (f:=36) (ky:=ky3) (Rv:=RvF) Zp (fun _=>z) (fun u G' O hu=>⟨_,_,_,fun _=>t' E36 z,gA',z,trivial⟩)<|cu (fun _ _ O=>bM' z)<|cu (fun _ _ O=>e' 3 sc3 z z z) ?_
 obtain⟨bn,hr⟩:=hr
 refine Chain.lookF (ky:=ky3) (dm:=9) Zp ev1.kind (fun _=>z) cd' zv44 bn (fun u G' O hu=>?_) ?_
 ·obtain⟨h,_⟩:=(show MapX ky3 RvF 9 Zp (u 9) G'∧True from hu)
  exact⟨u 9,h,z,z⟩
 refine cu (fun _ _ O=>f' z)<|cu (fun _ _ O=>K' z z)<|Chain.floatU (fun _=>z) (fun _=>K' z z)<|Chain.tailX1 fun bE X1 c bj=>bT' (show WL _ _ _ _ _ _ (St w0 G0 X1.m _) from ?_)
 refine sg z z<|sg z z<|u'<|am'<|b'<|h'<|sr<|mv z z<|yy (an' z) z<|nx<|aM' hr z (fun bm hr=>?_) (fun bm hr=>?_)
 ·refine sr<|yy (aq' (vs:=#[]) (v:=.agg ([.slice none 0 0,.slice none 0 0,.slice none 0 0,i' 0]).toArray) z z (fun _=>by kernel_rfl)) z<|v' 4 z aY' z z z z z (List.all_eq_true.1 z)<|sg z z<|nx<|j' ?_
  replace hr:_=r:=hr
  refine g' ?_
  subst hr
  exact aI' z (ad' (i:=4) ag' z z z) z ⟨_,_,_,_,_,_,z,(aa' Rp.str _),(aa' a' _),(aa' a' _)⟩
 ·refine n'<|b'<|sr<|mv z z<|yy (s' 2 ag' z z z) z<|yy (s' 3 bw' z z z) z ?_
  by_cases hf1:(1:Int)=ev1.kind
  ·replace hr:=hr.pos hf1
   have bg:selV Value.nilFunc (mget Zp ev1.kind) = .func (.func 64) #[] #[]:=by simp only[Zp,mget,selV,if_pos hf1]
   rw[bg]
   obtain⟨bZ,a8,hr⟩:=hr
   refine M' z z (cM' E64 z z) (gt' a8) z (⟨(d.mono c),(g.mono c),(e.mono c),(j.mono c)⟩) (fun bx bQ br ad=>?_)
   obtain⟨ao,ak,aY,aM,am,aK,rfl,L,U,B⟩:=ad
   refine yy (K' z z) z<|yy (K' z z) z<|v' 4 z aY' z z z z z (List.all_eq_true.1 z)<|sg z z<|nx<|j' ?_
   obtain rfl:_=r:=hr
   exact aI' z (ad' (i:=4) ag' z z z) z ⟨_,_,_,_,_,_,z,L,U,B⟩
  ·replace hr:=hr.neg hf1
   by_cases hf2:(2:Int)=ev1.kind
   ·replace hr:=hr.pos hf2
    have bb:selV Value.nilFunc (mget Zp ev1.kind) = .func (.func 65) #[] #[]:=by simp only[Zp,mget,selV,if_pos hf2,if_neg hf1]
    rw[bb]
    obtain⟨bW,a7,hr⟩:=hr
    refine M' z z (cM' E65 z z) (gg' a7) z (⟨(d.mono c),(g.mono c),(e.mono c),(j.mono c)⟩) (fun bI bM bq ab=>?_)
    obtain⟨ar,aA,a0,aZ,ag,aC,rfl,F,S,H⟩:=ab
    refine yy (K' z z) z<|yy (K' z z) z<|v' 4 z aY' z z z z z (List.all_eq_true.1 z)<|sg z z<|nx<|j' ?_
    obtain rfl:_=r:=hr
    exact aI' z (ad' (i:=4) ag' z z z) z ⟨_,_,_,_,_,_,z,F,S,H⟩
   ·replace hr:=hr.neg hf2
    by_cases hf3:(3:Int)=ev1.kind
    ·replace hr:=hr.pos hf3
     have a9:selV Value.nilFunc (mget Zp ev1.kind) = .func (.func 66) #[] #[]:=by simp only[Zp,mget,selV,if_pos hf3,if_neg hf1,if_neg hf2]
     rw[a9]
     obtain⟨bP,a5,hr⟩:=hr
     refine M' z z (cM' E66 z z) (gu' a5) z (⟨(d.mono c),(g.mono c),(e.mono c),(j.mono c)⟩) (fun bA bT bs X=>?_)
     obtain⟨au,aI,aU,aT,al,ae,rfl,E,P,J⟩:=X
     refine yy (K' z z) z<|yy (K' z z) z<|v' 4 z aY' z z z z z (List.all_eq_true.1 z)<|sg z z<|nx<|j' ?_
     obtain rfl:_=r:=hr
     exact aI' z (ad' (i:=4) ag' z z z) z ⟨_,_,_,_,_,_,z,E,P,J⟩
    ·replace hr:=hr.neg hf3
     by_cases hf4:(4:Int)=ev1.kind
     ·replace hr:=hr.pos hf4
      have bi:selV Value.nilFunc (mget Zp ev1.kind) = .func (.func 67) #[] #[]:=by simp only[Zp,mget,selV,if_pos hf4,if_neg hf1,if_neg hf2,if_neg hf3]
      rw[bi]
      obtain⟨bN,a4,hr⟩:=hr
      refine M' z z (cM' E67 z z) (gI' a4) z (⟨(d.mono c),(g.mono c),(e.mono c),(j.mono c)⟩) (fun bF bR bv Y=>?_)
      obtain⟨aH,av,aS,aN,aB,aE,rfl,x,M,A⟩:=Y
      refine yy (K' z z) z<|yy (K' z z) z<|v' 4 z aY' z z z z z (List.all_eq_true.1 z)<|sg z z<|nx<|j' ?_
      obtain rfl:_=r:=hr
      exact aI' z (ad' (i:=4) ag' z z z) z ⟨_,_,_,_,_,_,z,x,M,A⟩
     ·replace hr:=hr.neg hf4
      by_cases hf5:(5:Int)=ev1.kind
      ·replace hr:=hr.pos hf5
       have be:selV Value.nilFunc (mget Zp ev1.kind) = .func (.func 68) #[] #[]:=by simp only[Zp,mget,selV,if_pos hf5,if_neg hf1,if_neg hf2,if_neg hf3,if_neg hf4]
       rw[be]
       obtain⟨bK,bf,hr⟩:=hr
       refine M' z z (cM' E68 z z) (gQ' bf) z (⟨(d.mono c),(g.mono c),(e.mono c),(j.mono c)⟩) (fun bw bU bu Z=>?_)
       obtain⟨aD,af,aO,aX,ax,ay,rfl,y,V,C⟩:=Z
       refine yy (K' z z) z<|yy (K' z z) z<|v' 4 z aY' z z z z z (List.all_eq_true.1 z)<|sg z z<|nx<|j' ?_
       obtain rfl:_=r:=hr
       exact aI' z (ad' (i:=4) ag' z z z) z ⟨_,_,_,_,_,_,z,y,V,C⟩
      ·replace hr:=hr.neg hf5
       by_cases hf6:(6:Int)=ev1.kind
       ·replace hr:=hr.pos hf6
        have a2:selV Value.nilFunc (mget Zp ev1.kind) = .func (.func 69) #[] #[]:=by simp only[Zp,mget,selV,if_pos hf6,if_neg hf1,if_neg hf2,if_neg hf3,if_neg hf4,if_neg hf5]
        rw[a2]
        obtain⟨bS,ba,hr⟩:=hr
        refine M' z z (cM' E69 z z) (gJ' ba) z (⟨(d.mono c),(g.mono c),(e.mono c),(j.mono c)⟩) (fun bG bO bp W=>?_)
        obtain⟨az,aq,aP,aW,aG,ah,rfl,D,Q,s⟩:=W
        refine yy (K' z z) z<|yy (K' z z) z<|v' 4 z aY' z z z z z (List.all_eq_true.1 z)<|sg z z<|nx<|j' ?_
        obtain rfl:_=r:=hr
        exact aI' z (ad' (i:=4) ag' z z z) z ⟨_,_,_,_,_,_,z,D,Q,s⟩
       ·replace hr:=hr.neg hf6
        by_cases hf7:(7:Int)=ev1.kind
        ·replace hr:=hr.pos hf7
         have a3:selV Value.nilFunc (mget Zp ev1.kind) = .func (.func 70) #[] #[]:=by simp only[Zp,mget,selV,if_pos hf7,if_neg hf1,if_neg hf2,if_neg hf3,if_neg hf4,if_neg hf5,if_neg hf6]
         rw[a3]
         obtain⟨bJ,bc,hr⟩:=hr
         refine M' z z (cM' E70 z z) (gR' bc) z (⟨(d.mono c),(g.mono c),(e.mono c),(j.mono c)⟩) (fun bB bY bt aa=>?_)
         obtain⟨aL,aJ,aQ,aV,aj,aw,rfl,I,R,t⟩:=aa
         refine yy (K' z z) z<|yy (K' z z) z<|v' 4 z aY' z z z z z (List.all_eq_true.1 z)<|sg z z<|nx<|j' ?_
         obtain rfl:_=r:=hr
         exact aI' z (ad' (i:=4) ag' z z z) z ⟨_,_,_,_,_,_,z,I,R,t⟩
        ·replace hr:=hr.neg hf7
         by_cases hf8:(8:Int)=ev1.kind
         ·replace hr:=hr.pos hf8
          have a6:selV Value.nilFunc (mget Zp ev1.kind) = .func (.func 71) #[] #[]:=by simp only[Zp,mget,selV,if_pos hf8,if_neg hf1,if_neg hf2,if_neg hf3,if_neg hf4,if_neg hf5,if_neg hf6,if_neg hf7]
          rw[a6]
          obtain⟨bL,bd,hr⟩:=hr
          refine M' z z (cM' E71 z z) (gK' bd) z (⟨(d.mono c),(g.mono c),(e.mono c),(j.mono c)⟩) (fun bC bV bo ac=>?_)
          obtain⟨aF,ai,a1,aR,ap,an,rfl,q,T,K⟩:=ac
          refine yy (K' z z) z<|yy (K' z z) z<|v' 4 z aY' z z z z z (List.all_eq_true.1 z)<|sg z z<|nx<|j' ?_
          obtain rfl:_=r:=hr
          exact aI' z (ad' (i:=4) ag' z z z) z ⟨_,_,_,_,_,_,z,q,T,K⟩
         ·replace hr:=hr.neg hf8
          exact (show False from hr).elim
theorem gS'{s1 l1 s1varsp s1varsc s1eqsp s1eqsc s1neqsp s1neqsc l1p l1c r}(hr:(Zh4 s1 l1).Ret r):Ctr Tryz.prog 45 #[.agg ((v33' s1 s1varsp s1varsc s1eqsp s1eqsc s1neqsp s1neqsc)).toArray,.slice l1p l1.length l1c] (fun G=>sl Rp.str G s1varsp s1varsc s1.vars∧sl a' G s1eqsp s1eqsc s1.eqs∧sl a' G s1neqsp s1neqsc s1.neqs∧sl ah' G l1p l1c l1) (fun G v=>∃ R T Y aa V U,v = .tuple #[.agg ((v33' r.1 R T Y aa V U)).toArray,i' r.2.1,i' r.2.2]∧sl Rp.str G R T r.1.vars∧sl a' G Y aa r.1.eqs∧sl a' G V U r.1.neqs):=by
 refine C' (args:=[_,_]) (N:=34) Tryz.func45 z z z (fun w0 G0 aV aE=>?_)
 obtain⟨ap,aw,aq,an⟩:=aE
 refine sr<|W' 2 z z z fun b1=>U' 4 z z33 z fun b2=>sg z z<|sg z z<|nx<|h'<|sr<|mv z z<|yy (L' ao' an z) z<|mv z z<|nx<|ab' (fun (⟨L,s,p,D,C,u,x,M,q,t,F,B,y,A,J⟩:Zb×Option Addr×Nat×Option Addr×Nat×Option Addr×Nat×Zb×Option Addr×Nat×Option Addr×Nat×Option Addr×Nat×Mem)=>[(1,.slice l1p l1.length l1c),(2,.pointer (some ⟨b1,0,none⟩)),(4,.pointer (some ⟨b2,0,none⟩))]) (fun ⟨L,s,p,D,C,u,x,M,q,t,F,B,y,A,J⟩=>Mem.le G0 J∧sl Rp.str J s p L.vars∧sl a' J D C L.eqs∧sl a' J u x L.neqs∧sl Rp.str J q t M.vars∧sl a' J F B M.eqs∧sl a' J y A M.neqs∧(Zfr l1 L).Ret r) (fun ⟨L,s,p,D,C,u,x,M,q,t,F,B,y,A,J⟩=>St w0 G0 J [(2,some ⟨b1,.cells ((v33' L s p D C u x)).toArray 33 (0,0),0⟩),(4,some ⟨b2,.cells ((v33' M q t F B y A)).toArray 33 (0,0),0⟩)]) ?_ ?_
 ·refine A' ?_
  let av:((Zb×Int×Int)⊕(Zb×Zb))→Prop:=fun oo=>((fun ov=>match ov with | .inl rv1=>Comp.ret rv1 | .inr (L,M)=>Zfr l1 L:((Zb×Int×Int)⊕(Zb×Zb))→Comp (Zb×Int×Int)) oo).wp (fun a=>a=r)
  replace hr:(Comp.loop _ _).wp av:=hr
  refine ac' (Φ:=av) (fun (⟨H,K,k,g,o,n,j,h,I,f,e,m,l,d,c,E⟩:Int×Zb×Option Addr×Nat×Option Addr×Nat×Option Addr×Nat×Zb×Option Addr×Nat×Option Addr×Nat×Option Addr×Nat×Mem)=>((H,K,I):Int×Zb×Zb)) (fun ⟨H,K,k,g,o,n,j,h,I,f,e,m,l,d,c,E⟩=>[(1,.slice l1p l1.length l1c),(2,.pointer (some ⟨b1,0,none⟩)),(4,.pointer (some ⟨b2,0,none⟩)),(11,.slice l1p l1.length l1c),(12,i' (l1.length:Int)),(13,i' H)]) (fun ⟨H,K,k,g,o,n,j,h,I,f,e,m,l,d,c,E⟩=>Mem.le G0 E∧sl Rp.str E k g K.vars∧sl a' E o n K.eqs∧sl a' E j h K.neqs∧sl Rp.str E f e I.vars∧sl a' E m l I.eqs∧sl a' E d c I.neqs) (fun ⟨H,K,k,g,o,n,j,h,I,f,e,m,l,d,c,E⟩=>St w0 G0 E [(2,some ⟨b1,.cells ((v33' K k g o n j h)).toArray 33 (0,0),0⟩),(4,some ⟨b2,.cells ((v33' I f e m l d c)).toArray 33 (0,0),0⟩)]) ⟨0,s1,s1varsp,s1varsc,s1eqsp,s1eqsc,s1neqsp,s1neqsc,(Zb.mk [] [] [] 0),none,0,none,0,none,0,G0⟩ hr (fc z (fc z (fc z (fc z (fc z (fc z fn)))))) ⟨mr,ap,aw,aq,(aa' _ _),(aa' _ _),(aa' _ _)⟩ (wk (lc z (lc z ln))) ?_
  ·intro aU gx hx hr
   obtain⟨H,K,k,g,o,n,j,h,I,f,e,m,l,d,c,E⟩:=gx
   obtain⟨O,Q,Z,S,W,ab,X⟩:=hx
   refine sr<|yy (V' z z) z<|nx<|h'<|I' hr z (fun aJ hr=>?_) (fun aJ hr=>?_)
   ·refine n'<|b'<|h'<|A'<|sr<|mv z z ?_
    obtain⟨x1,aA,hr⟩:=hr
    refine yy (P' ao' bF' (an.mono O) z z aA) z ?_
    obtain⟨aQ,aN,aH,aF⟩:=cG' (E' (X' an aA) O)
    refine yy (ax' _ bw' z z aH) z<|U' 8 z z40 z fun b3=>sg z z<|v' 8 z bF' z z z z z (List.all_eq_true.1 z)<|nr<|yy (s' 2 ag' z z z) z<|yy (s' 8 bw' z z z) z ?_
    obtain⟨aL,aB,hr⟩:=hr
    refine M' z z (t' E14 z) (cb' aB) z (⟨Q,Z,S,aF⟩) (fun aS aI P ao=>?_)
    obtain⟨ad,ag,ai,aj,ac,ae,rfl,ah,ak,af⟩:=ao
    refine mv z z<|yy (K' z z) z<|yy (K' z z) z<|U' 9 z z33 z fun b4=>v' 9 z aY' z z z z z (List.all_eq_true.1 z)<|sg z z<|nx<|h'<|sr<|mv z z<|yy (aQ' z z) z<|nx<|I' hr z (fun aK hr=>?_) (fun aK hr=>?_)
    ·refine sr<|yy (aq' (vs:=#[]) (v:=.agg ([.slice none 0 0,.slice none 0 0,.slice none 0 0,i' 0]).toArray) z z (fun _=>by kernel_rfl)) z<|mv z z<|mv z z<|v' 4 z aY' z z z z z (List.all_eq_true.1 z)<|sg z z<|sg z z<|nx<|j' ?_
     replace hr:_=r:=hr
     refine g'<|x'<|g'<|g'<|x'<|aH'<|g' ?_
     subst hr
     exact WE.ret3 z (ad' (i:=4) ag' z z z) z z ⟨_,_,_,_,_,_,z,(aa' Rp.str _),(aa' a' _),(aa' a' _)⟩
    ·refine n'<|b'<|w'<|yy (s' 9 ag' z z z) z<|v' 2 z aY' z z z z z (List.all_eq_true.1 z)<|u'<|D'<|b'<|w'<|yy (N' z z) z<|mv z z<|u'<|O' ⟨IntKind.i64.wrap (H+1),aL.1,ad,ag,ai,aj,ac,ae,I,f,e,m,l,d,c,aI⟩ hr ⟨(mt O P),ah,ak,af,(W.mono P),(ab.mono P),(X.mono P)⟩ (fc z (fc z (fc z (fc z (fc z (fc z fn)))))) (wk (lc z (lc z ln)))
   ·refine ae'<|m'<|m'<|J'<|af' ⟨K,k,g,o,n,j,h,I,f,e,m,l,d,c,E⟩ ⟨O,Q,Z,S,W,ab,X,hr⟩ (fc z (fc z (fc z fn))) (wk (lc z (lc z ln)))
 ·rintro⟨L,s,p,D,C,u,x,M,q,t,F,B,y,A,J⟩ ⟨az,al,ar,am,aC,aG,aD,hr⟩
  refine b'<|sr<|yy (s' 2 ag' z z z) z<|mv z z<|yy (L' ao' (an.mono az) z) z<|v' 4 z aY' z z z z z (List.all_eq_true.1 z)<|sg z z<|sg z z<|nx<|j' ?_
  obtain rfl:_=r:=hr
  exact WE.ret3 z (ad' (i:=4) ag' z z z) z z ⟨_,_,_,_,_,_,z,al,ar,am⟩
theorem cW'{s1 l1 s1varsp s1varsc s1eqsp s1eqsc s1neqsp s1neqsc l1p l1c r}(hr:(Zd1 s1 l1).Ret r):Ctr Tryz.prog 20 #[.agg ((v33' s1 s1varsp s1varsc s1eqsp s1eqsc s1neqsp s1neqsc)).toArray,.slice l1p l1.length l1c] (fun G=>sl Rp.str G s1varsp s1varsc s1.vars∧sl a' G s1eqsp s1eqsc s1.eqs∧sl a' G s1neqsp s1neqsc s1.neqs∧sl ah' G l1p l1c l1) (fun G v=>∃ m l s q k n,v = .agg ([.slice m r.s.vars.length l,.slice s r.s.eqs.length q,.slice k r.s.neqs.length n,i' r.s.next,i' r.n,i' r.e]).toArray∧sl Rp.str G m l r.s.vars∧sl a' G s q r.s.eqs∧sl a' G k n r.s.neqs):=by
 refine C' (args:=[_,_]) (N:=19) Tryz.func20 z z z (fun O M H C=>?_)
 obtain⟨x,A,y,D⟩:=C
 refine sr<|W' 2 z z z fun L=>U' 4 z z50 z fun J=>nr<|yy (s' 2 ag' z z z) z<|mv z z ?_
 obtain⟨c,B,hr⟩:=hr
 refine M' z z (t' E45 z) (gS' B) z (⟨x,A,y,D⟩) (fun F I E u=>?_)
 obtain⟨d,e,h,j,g,f,rfl,p,t,o⟩:=u
 refine mv z z<|yy (K' z z) z<|yy (K' z z) z<|yy (K' z z) z<|U' 5 z z33 z fun K=>v' 5 z aY' z z z z z (List.all_eq_true.1 z)<|sg z z<|sg z z<|nr<|yy (s' 5 ag' z z z) z<|mv z z<|mv z z<|yy (aq' (vs:=#[(0,.agg ((v33' c.1 d e h j g f)).toArray),(1,i' c.2.1),(2,i' c.2.2)]) (v:=.agg ([.slice d c.1.vars.length e,.slice h c.1.eqs.length j,.slice g c.1.neqs.length f,i' c.1.next,i' c.2.1,i' c.2.2]).toArray) z z (fun _=>by kernel_rfl)) z<|v' 4 z sz50 z z z z z (List.all_eq_true.1 z)<|nx<|j' ?_
 obtain rfl:_=r:=hr
 exact k' z (ad' (i:=4) ag50 z z z) ⟨_,_,_,_,_,_,z,p,t,o⟩
theorem fX'{a1 b1 a1magp a1magc b1magp b1magc r}(hr:(Zeg a1 b1).Ret r):Ctr Tryz.prog 83 #[.agg ((v58' a1 a1magp a1magc)).toArray,.agg ((v58' b1 b1magp b1magc)).toArray] (fun G=>sl (Rp.int .u32) G a1magp a1magc a1.mag∧sl (Rp.int .u32) G b1magp b1magc b1.mag) (fun G v=>v = .bool r):=by
 refine C' (args:=[_,_]) (N:=38) Tryz.func83 z z z (fun y l H o=>?_)
 obtain⟨e,g⟩:=o
 refine sr<|W' 2 z z z fun p=>W' 3 z z z fun q=>sg z z<|nx<|h'<|sr<|yy (bp' z) z<|yy (e' 2 sc4 z z z) z<|yy (bp' z) z<|yy (e' 3 sc4 z z z) z<|aj' hr z (ee' bK' z z) z (fun t hr=>?_) (fun t hr=>?_)
 ·refine mv z z<|sf z z z<|sf z z z<|sf z z z<|sf z z z<|sf z z z<|sf z z z<|sf z z z<|yy (o' z z) z<|nx<|at' z<|sr<|sg z z<|nx<|j' ?_
  replace hr:_=r:=hr
  refine g' ?_
  subst hr
  exact k' z z z
 ·refine mv z z<|gy z z (aP' z) z<|gy z z (e' 2 bJ' z z z) z<|gy z z (L' B' e z) z<|gy z z (aP' z) z<|gy z z (e' 3 bJ' z z z) z<|gy z z (L' B' g z) z<|gy z z (aQ' z z) z<|yy (l' z z) z<|nx<|I' hr z (fun s hr=>?_) (fun s hr=>?_)
  ·exact (show False from hr).elim
  ·refine n'<|b'<|h'<|sr<|sg z z<|nx<|ab' (fun (j:Mem)=>match j with|h=>[]) (fun (j:Mem)=>match j with|h=>Mem.le l h∧(Zfa).Ret r) (fun (j:Mem)=>match j with|h=>St y l h []) ?_ ?_
   ·refine A' ?_
    let k:(Bool⊕Unit)→Prop:=fun C=>((fun E=>match E with | .inl rv1=>Comp.ret rv1 | .inr ()=>Zfa:(Bool⊕Unit)→Comp Bool) C).wp (fun a=>a=r)
    replace hr:(Comp.loop _ _).wp k:=hr
    refine ac' (Φ:=k) (fun (⟨i,f⟩:Int×Mem)=>(i:Int)) (fun ⟨i,f⟩=>[(2,.pointer (some ⟨p,0,none⟩)),(3,.pointer (some ⟨q,0,none⟩)),(5,i' i)]) (fun ⟨i,f⟩=>Mem.le l f) (fun ⟨i,f⟩=>St y l f [(2,some ⟨p,.cells ((v58' a1 a1magp a1magc)).toArray 58 (0,0),0⟩),(3,some ⟨q,.cells ((v58' b1 b1magp b1magc)).toArray 58 (0,0),0⟩)]) ⟨0,l⟩ hr (fc z (fc z (fc z fn))) mr (wk (lc z (lc z ln))) ?_
    ·intro F j D hr
     obtain⟨i,f⟩:=j
     have d:=D
     refine h'<|sr<|mv z z<|yy (aP' z) z<|yy (e' 2 bJ' z z z) z<|yy (L' B' (e.mono d) z) z<|yy (V' z z) z<|nx<|I' hr z (fun x hr=>?_) (fun x hr=>?_)
     ·refine n'<|b'<|h'<|A'<|h'<|Z' [false,false,false,false,false,false,false,false,false,false] mix (by kernel_rfl) fun B=>cn (fun _ c=>aP' z)<|cn (fun _ c=>e' 2 bJ' z z z)<|cn (fun _ c=>f' z) ?_
      obtain⟨J,m,hr⟩:=hr
      refine cn (fun _ c=>P' B' bi' ((e.mono d).mono c) z z m)<|cn (fun _ c=>T' bH' z (aC' (E' (E' (X' e m) d) c)))<|cn (fun _ c=>aP' z)<|cn (fun _ c=>e' 3 bJ' z z z)<|cn (fun _ c=>f' z) ?_
      obtain⟨I,n,hr⟩:=hr
      refine cn (fun _ c=>P' B' bi' ((g.mono d).mono c) z z n)<|cn (fun _ c=>T' bH' z (aC' (E' (E' (X' g n) d) c)))<|Y' B<|yy (aQ' z z) z<|u'<|am'<|b'<|I' hr z (fun u hr=>?_) (fun u hr=>?_)
      ·exact (show False from hr).elim
      ·refine n'<|D'<|b'<|w'<|mv z z<|yy (N' z z) z<|sg z z<|u'<|O' ⟨IntKind.i64.wrap (i+1),f⟩ hr d (fc z (fc z (fc z fn))) (wk (lc z (lc z ln)))
     ·refine ae'<|m'<|m'<|J'<|af' f ⟨d,hr⟩ fn (wk ln)
   ·rintro h ⟨A,hr⟩
    refine b'<|sr<|sg z z<|nx<|j' ?_
    obtain rfl:_=r:=hr
    exact k' z z z
theorem fY'{a1 b1 a1nummagp a1nummagc a1denmagp a1denmagc b1nummagp b1nummagc b1denmagp b1denmagc r}(hr:(Zef a1 b1).Ret r):Ctr Tryz.prog 49 #[.agg ([.bool a1.num.neg,.slice a1nummagp a1.num.mag.length a1nummagc,.bool a1.den.neg,.slice a1denmagp a1.den.mag.length a1denmagc]).toArray,.agg ([.bool b1.num.neg,.slice b1nummagp b1.num.mag.length b1nummagc,.bool b1.den.neg,.slice b1denmagp b1.den.mag.length b1denmagc]).toArray] (fun G=>sl (Rp.int .u32) G a1nummagp a1nummagc a1.num.mag∧sl (Rp.int .u32) G a1denmagp a1denmagc a1.den.mag∧sl (Rp.int .u32) G b1nummagp b1nummagc b1.num.mag∧sl (Rp.int .u32) G b1denmagp b1denmagc b1.den.mag) (fun G v=>v = .bool r):=by
 refine C' (args:=[_,_]) (N:=17) Tryz.func49 z z z (fun n m l g=>?_)
 obtain⟨c,e,d,f⟩:=g
 refine sr<|W' 2 z z z fun o=>W' 3 z z z fun p=>sg z z<|nr<|yy (cp' z) z<|yy (av' ((v58' a1.num a1nummagp a1nummagc)).toArray 2 bl' z z z (aN' ([]) ((v58' a1.num a1nummagp a1nummagc)) ((v58' a1.den a1denmagp a1denmagc)))) z<|yy (cp' z) z<|yy (av' ((v58' b1.num b1nummagp b1nummagc)).toArray 3 bl' z z z (aN' ([]) ((v58' b1.num b1nummagp b1nummagc)) ((v58' b1.den b1denmagp b1denmagc)))) z ?_
 obtain⟨j,i,hr⟩:=hr
 refine H' z z (t' E83 z) (fX' i) z (⟨c,d⟩) ?_
 cases j
 ·skip
  refine mv z z<|sk z z z<|sk z z z<|sk z z z<|sk z z z<|sk z z z<|yy (l' z z) z<|sg z z<|nx<|j' ?_
  obtain rfl:_=r:=hr
  exact k' z z z
 ·skip
  refine mv z z<|gy z z (ce' z) z<|gy z z (av' ((v58' a1.den a1denmagp a1denmagc)).toArray 2 bl' z z z (aN' ((v58' a1.num a1nummagp a1nummagc)) ((v58' a1.den a1denmagp a1denmagc)) ([]))) z<|gy z z (ce' z) z<|gy z z (av' ((v58' b1.den b1denmagp b1denmagc)).toArray 3 bl' z z z (aN' ((v58' b1.num b1nummagp b1nummagc)) ((v58' b1.den b1denmagp b1denmagc)) ([]))) z ?_
  obtain⟨k,h,hr⟩:=hr
  refine H' (F' z z) z (t' E83 z) (fX' h) z (⟨e,f⟩)<|yy (o' z z) z<|sg z z<|nx<|j' ?_
  obtain rfl:_=r:=hr
  exact k' z z z
theorem gh'{a1 b1 a1cnummagp a1cnummagc a1cdenmagp a1cdenmagc b1cnummagp b1cnummagc b1cdenmagp b1cdenmagc r}(hr:(Zcs a1 b1).Ret r):Ctr Tryz.prog 51 #[.agg (([.bool a1.c.num.neg,.slice a1cnummagp a1.c.num.mag.length a1cnummagc,.bool a1.c.den.neg,.slice a1cdenmagp a1.c.den.mag.length a1cdenmagc]:List Value)++(vecG (Value.int .i64) 8 a1.m)).toArray,.agg (([.bool b1.c.num.neg,.slice b1cnummagp b1.c.num.mag.length b1cnummagc,.bool b1.c.den.neg,.slice b1cdenmagp b1.c.den.mag.length b1cdenmagc]:List Value)++(vecG (Value.int .i64) 8 b1.m)).toArray] (fun G=>sl (Rp.int .u32) G a1cnummagp a1cnummagc a1.c.num.mag∧sl (Rp.int .u32) G a1cdenmagp a1cdenmagc a1.c.den.mag∧sl (Rp.int .u32) G b1cnummagp b1cnummagc b1.c.num.mag∧sl (Rp.int .u32) G b1cdenmagp b1cdenmagc b1.c.den.mag) (fun G v=>v = .bool r):=by
 refine C' (args:=[_,_]) (N:=17) Tryz.func51 z z z (fun l o k g=>?_)
 obtain⟨f,d,c,e⟩:=g
 refine sr<|W' 2 z z z fun m=>W' 3 z z z fun n=>sg z z<|nr<|yy (bn' z) z<|yy (av' (vecG (Value.int .i64) 8 a1.m).toArray 2 ca' z z (Q' _ _ _) (aN' ([.bool a1.c.num.neg,.slice a1cnummagp a1.c.num.mag.length a1cnummagc,.bool a1.c.den.neg,.slice a1cdenmagp a1.c.den.mag.length a1cdenmagc]) (vecG (Value.int .i64) 8 a1.m) ([]))) z<|yy (bn' z) z<|yy (av' (vecG (Value.int .i64) 8 b1.m).toArray 3 ca' z z (Q' _ _ _) (aN' ([.bool b1.c.num.neg,.slice b1cnummagp b1.c.num.mag.length b1cnummagc,.bool b1.c.den.neg,.slice b1cdenmagp b1.c.den.mag.length b1cdenmagc]) (vecG (Value.int .i64) 8 b1.m) ([]))) z<|aj' hr z (Y0.eqlV aG' au' sc3 sz3 eg99 z z) z (fun i hr=>?_) (fun i hr=>?_)
 ·refine mv z z<|gy z z (cg' z) z<|gy z z (av' ([.bool a1.c.num.neg,.slice a1cnummagp a1.c.num.mag.length a1cnummagc,.bool a1.c.den.neg,.slice a1cdenmagp a1.c.den.mag.length a1cdenmagc]).toArray 2 bS' z z z (aN' ([]) ([.bool a1.c.num.neg,.slice a1cnummagp a1.c.num.mag.length a1cnummagc,.bool a1.c.den.neg,.slice a1cdenmagp a1.c.den.mag.length a1cdenmagc]) ((vecG (Value.int .i64) 8 a1.m)))) z<|gy z z (cg' z) z<|gy z z (av' ([.bool b1.c.num.neg,.slice b1cnummagp b1.c.num.mag.length b1cnummagc,.bool b1.c.den.neg,.slice b1cdenmagp b1.c.den.mag.length b1cdenmagc]).toArray 3 bS' z z z (aN' ([]) ([.bool b1.c.num.neg,.slice b1cnummagp b1.c.num.mag.length b1cnummagc,.bool b1.c.den.neg,.slice b1cdenmagp b1.c.den.mag.length b1cdenmagc]) ((vecG (Value.int .i64) 8 b1.m)))) z ?_
  obtain⟨j,h,hr⟩:=hr
  refine H' (F' z z) z (t' E49 z) (fY' h) z (⟨f,d,c,e⟩)<|yy (o' z z) z<|sg z z<|nx<|j' ?_
  obtain rfl:_=r:=hr
  exact k' z z z
 ·refine mv z z<|sk z z z<|sk z z z<|sk z z z<|sk z z z<|sk z z z<|yy (l' z z) z<|sg z z<|nx<|j' ?_
  obtain rfl:_=r:=hr
  exact k' z z z
theorem dZ'{p1 q1 p1p p1c q1p q1c r}(hr:(Zei p1 q1).Ret r):Ctr Tryz.prog 28 #[.slice p1p p1.length p1c,.slice q1p q1.length q1c] (fun G=>sl r' G p1p p1c p1∧sl r' G q1p q1c q1) (fun G v=>v = .bool r):=by
 refine C' (args:=[_,_]) (N:=27) Tryz.func28 z z z (fun M p X I=>?_)
 obtain⟨n,q⟩:=I
 refine sr<|sg z z<|nx<|h'<|sr<|mv z z<|yy (L' R' n z) z<|mv z z<|yy (L' R' q z) z<|yy (aQ' z z) z<|nx<|I' hr z (fun J hr=>?_) (fun J hr=>?_)
 ·exact (show False from hr).elim
 ·refine n'<|b'<|h'<|sr<|sg z z<|nx<|ab' (fun (m:Mem)=>match m with|k=>[]) (fun (m:Mem)=>match m with|k=>Mem.le p k∧(Zfi).Ret r) (fun (m:Mem)=>match m with|k=>St M p k []) ?_ ?_
  ·refine A' ?_
   let o:(Bool⊕Unit)→Prop:=fun S=>((fun U=>match U with | .inl rv1=>Comp.ret rv1 | .inr ()=>Zfi:(Bool⊕Unit)→Comp Bool) S).wp (fun a=>a=r)
   replace hr:(Comp.loop _ _).wp o:=hr
   refine ac' (Φ:=o) (fun (⟨l,e⟩:Int×Mem)=>(l:Int)) (fun ⟨l,e⟩=>[(0,.slice p1p p1.length p1c),(1,.slice q1p q1.length q1c),(5,i' l)]) (fun ⟨l,e⟩=>Mem.le p e) (fun ⟨l,e⟩=>St M p e []) ⟨0,p⟩ hr (fc z (fc z (fc z fn))) mr (wk ln) ?_
   ·intro W m T hr
    obtain⟨l,e⟩:=m
    have c:=T
    refine h'<|sr<|mv z z<|mv z z<|yy (L' R' (n.mono c) z) z<|yy (V' z z) z<|nx<|I' hr z (fun O hr=>?_) (fun O hr=>?_)
    ·refine n'<|b'<|h'<|A'<|h'<|Z' [false,false,false,false,false,false,false,false] mix (by kernel_rfl) fun R=>cn (fun _ d=>f' z)<|cn (fun _ d=>f' z) ?_
     obtain⟨Z,D,hr⟩:=hr
     refine cn (fun _ d=>P' R' bC' ((n.mono c).mono d) z z D) ?_
     obtain⟨B,C,y,x,P,h,g⟩:=cF' (E' (X' n D) c)
     refine cn (fun _ d=>ax' _ ag101 z z (fun j v H=>d _ _ _ (P j v H)))<|cn (fun _ d=>f' z)<|cn (fun _ d=>f' z) ?_
     obtain⟨Y,E,hr⟩:=hr
     refine cn (fun _ d=>P' R' bC' ((q.mono c).mono d) z z E) ?_
     obtain⟨A,t,s,u,L,i,f⟩:=cF' (E' (X' q E) c)
     refine cn (fun _ d=>ax' _ ag101 z z (fun j v H=>d _ _ _ (L j v H)))<|Y' R ?_
     obtain⟨V,F,hr⟩:=hr
     refine H' z z (t' E51 z) (gh' F) z (⟨h,g,i,f⟩)<|yy (an' z) z<|u'<|am'<|b'<|aM' hr z (fun K hr=>?_) (fun K hr=>?_)
     ·exact (show False from hr).elim
     ·refine n'<|D'<|b'<|w'<|mv z z<|yy (N' z z) z<|sg z z<|u'<|O' ⟨IntKind.i64.wrap (l+1),e⟩ hr c (fc z (fc z (fc z fn))) (wk ln)
    ·refine ae'<|m'<|m'<|J'<|af' e ⟨c,hr⟩ fn (wk ln)
  ·rintro k ⟨Q,hr⟩
   refine b'<|sr<|sg z z<|nx<|j' ?_
   obtain rfl:_=r:=hr
   exact k' z z z
theorem dE'{a0_1 a1_1 a0_1varsp a0_1varsc a0_1eqsp a0_1eqsc a0_1neqsp a0_1neqsc a1_1pp a1_1pc r}(hr:(Zev a0_1 a1_1).Ret r):Ctr Tryz.prog 16 #[.agg ((v33' a0_1 a0_1varsp a0_1varsc a0_1eqsp a0_1eqsc a0_1neqsp a0_1neqsc)).toArray,.agg ([i' a1_1.kind,.string a1_1.name,i' a1_1.at',i' a1_1.to',i' a1_1.id,.slice a1_1pp a1_1.p.length a1_1pc,.bool a1_1.neq]).toArray] (fun G=>sl Rp.str G a0_1varsp a0_1varsc a0_1.vars∧sl a' G a0_1eqsp a0_1eqsc a0_1.eqs∧sl a' G a0_1neqsp a0_1neqsc a0_1.neqs∧sl r' G a1_1pp a1_1pc a1_1.p) (fun G v=>∃ o n,v = .tuple #[.agg ([i' r.1.kind,.string r.1.name,i' r.1.at',i' r.1.to',i' r.1.id,.slice o r.1.p.length n,.bool r.1.neq]).toArray,i' r.2]∧sl r' G o n r.1.p):=by
 refine C' (args:=[_,_]) (N:=90) Tryz.func16 z z z (fun w0 G0 ae L=>?_)
 obtain⟨c,j,f,m⟩:=L
 refine sr<|W' 2 z z z fun b1=>W' 3 z z z fun b2=>U' 4 z z40 z fun b3=>sg z z<|nx<|h'<|sr<|yy (s' 2 ag' z z z) z<|yy (s' 3 bw' z z z) z ?_
 obtain⟨ab,J,hr⟩:=hr
 refine M' z z (t' E14 z) (cb' J) z (⟨c,j,f,m⟩) (fun Z ac d p=>?_)
 obtain⟨s,t,B,E,A,u,rfl,y,F,x⟩:=p
 refine mv z z<|yy (K' z z) z<|yy (K' z z) z<|U' 6 z z33 z fun b4=>v' 6 z aY' z z z z z (List.all_eq_true.1 z)<|sg z z<|nr<|mv z z<|yy (aQ' z z) z<|nx<|I' hr z (fun R hr=>?_) (fun R hr=>?_)
 ·refine sr<|yy (aq' (vs:=#[]) (v:=.agg ([i' 0,.string ByteArray.empty,i' 0,i' 0,i' 0,.slice none 0 0,.bool false]).toArray) z z (fun _=>by kernel_rfl)) z<|mv z z<|v' 4 z bF' z z z z z (List.all_eq_true.1 z)<|sg z z<|nx<|j' ?_
  replace hr:_=r:=hr
  refine g' ?_
  subst hr
  exact aI' z (ad' (i:=4) bw' z z z) z ⟨_,_,z,(aa' r' _)⟩
 ·refine n'<|b'<|h'<|sr<|yy (bM' z) z<|yy (e' 3 sc3 z z z) z<|nx<|A'<|sr<|yy (ak' z z) z<|sg z z<|nx<|I' hr z (fun U hr=>?_) (fun U hr=>?_)
  ·refine sr<|yy (aB' z) z<|yy (e' 3 sc3 z z z) z<|yy (aq' (vs:=#[(0,i' 2),(2,i' a1_1.at')]) (v:=.agg ([i' 2,.string ByteArray.empty,i' a1_1.at',i' 0,i' 0,.slice none 0 0,.bool false]).toArray) z z (fun _=>by kernel_rfl)) z<|v' 4 z bF' z z z z z (List.all_eq_true.1 z)<|sg z z<|nx<|j' ?_
   replace hr:_=r:=hr
   refine x'<|g' ?_
   subst hr
   exact aI' z (ad' (i:=4) bw' z z z) z ⟨_,_,z,(aa' r' _)⟩
  ·refine sr<|yy (ak' z z) z<|sg z z<|nx<|I' hr z (fun S hr=>?_) (fun S hr=>?_)
   ·refine h'<|Z' [false,false,false,false,false,false,false,false] mix (by kernel_rfl) fun I=>cn (fun _ e=>aB' z)<|cn (fun _ e=>e' 3 sc3 z z z)<|cn (fun _ e=>as' z)<|cn (fun _ e=>e' 2 bo' z z z)<|cn (fun _ e=>aB' z)<|cn (fun _ e=>e' 3 sc3 z z z) ?_
    obtain⟨T,C,hr⟩:=hr
    refine cn (fun _ e=>P' y' sz9 ((c.mono d).mono e) z z C)<|cn (fun _ e=>T' sc9 z (bB' (E' (E' (X' c C) d) e)))<|Y' I<|yy (aq' (vs:=#[(0,i' 1),(2,i' a1_1.at'),(1,.string T)]) (v:=.agg ([i' 1,.string T,i' a1_1.at',i' 0,i' 0,.slice none 0 0,.bool false]).toArray) z z (fun _=>by kernel_rfl)) z<|v' 4 z bF' z z z z z (List.all_eq_true.1 z)<|sg z z<|u'<|am'<|b'<|j' ?_
    replace hr:_=r:=hr
    refine x'<|g' ?_
    subst hr
    exact aI' z (ad' (i:=4) bw' z z z) z ⟨_,_,z,(aa' r' _)⟩
   ·refine sr<|yy (ak' z z) z<|sg z z<|nx<|I' hr z (fun P hr=>?_) (fun P hr=>?_)
    ·refine h'<|Z' [false,false,false,false,false,false,false,false] mix (by kernel_rfl) fun I=>cn (fun _ e=>aB' z)<|cn (fun _ e=>e' 3 sc3 z z z)<|cn (fun _ e=>as' z)<|cn (fun _ e=>e' 2 bo' z z z)<|cn (fun _ e=>aB' z)<|cn (fun _ e=>e' 3 sc3 z z z) ?_
     obtain⟨Q,D,hr⟩:=hr
     refine cn (fun _ e=>P' y' sz9 ((c.mono d).mono e) z z D)<|cn (fun _ e=>T' sc9 z (bB' (E' (E' (X' c D) d) e)))<|Y' I<|yy (aq' (vs:=#[(0,i' 3),(2,i' a1_1.at'),(1,.string Q)]) (v:=.agg ([i' 3,.string Q,i' a1_1.at',i' 0,i' 0,.slice none 0 0,.bool false]).toArray) z z (fun _=>by kernel_rfl)) z<|v' 4 z bF' z z z z z (List.all_eq_true.1 z)<|sg z z<|u'<|am'<|b'<|j' ?_
     replace hr:_=r:=hr
     refine x'<|g' ?_
     subst hr
     exact aI' z (ad' (i:=4) bw' z z z) z ⟨_,_,z,(aa' r' _)⟩
    ·refine sr<|yy (ak' z z) z<|sg z z<|nx<|I' hr z (fun V hr=>?_) (fun V hr=>?_)
     ·refine sr<|yy (aB' z) z<|yy (e' 3 sc3 z z z) z<|yy (cr' z) z<|yy (e' 3 sc3 z z z) z<|yy (aq' (vs:=#[(0,i' 4),(2,i' a1_1.at'),(3,i' a1_1.to')]) (v:=.agg ([i' 4,.string ByteArray.empty,i' a1_1.at',i' a1_1.to',i' 0,.slice none 0 0,.bool false]).toArray) z z (fun _=>by kernel_rfl)) z<|v' 4 z bF' z z z z z (List.all_eq_true.1 z)<|sg z z<|nx<|j' ?_
      replace hr:_=r:=hr
      refine x'<|g' ?_
      subst hr
      exact aI' z (ad' (i:=4) bw' z z z) z ⟨_,_,z,(aa' r' _)⟩
     ·refine sr<|yy (ak' z z) z<|sg z z<|nx<|I' hr z (fun W hr=>?_) (fun W hr=>?_)
      ·refine sr<|yy (s' 2 ag' z z z) z<|yy (s' 3 bw' z z z) z ?_
       obtain⟨H,M,hr⟩:=hr
       refine H' z z (t' E41 z) (eX' M) z (⟨(c.mono d),(j.mono d),(f.mono d),(m.mono d)⟩)<|yy (aq' (vs:=#[(0,i' 6),(4,i' H)]) (v:=.agg ([i' 6,.string ByteArray.empty,i' 0,i' 0,i' H,.slice none 0 0,.bool false]).toArray) z z (fun _=>by kernel_rfl)) z<|v' 4 z bF' z z z z z (List.all_eq_true.1 z)<|sg z z<|nx<|j' ?_
       replace hr:_=r:=hr
       refine x'<|g' ?_
       subst hr
       exact aI' z (ad' (i:=4) bw' z z z) z ⟨_,_,z,(aa' r' _)⟩
      ·refine sr<|yy (ak' z z) z<|sg z z<|nx<|I' hr z (fun O hr=>?_) (fun O hr=>?_)
       ·refine sr<|yy (aL' z) z<|yy (e' 3 sc3 z z z) z<|yy (aq' (vs:=#[(0,i' 8),(4,i' a1_1.id)]) (v:=.agg ([i' 8,.string ByteArray.empty,i' 0,i' 0,i' a1_1.id,.slice none 0 0,.bool false]).toArray) z z (fun _=>by kernel_rfl)) z<|v' 4 z bF' z z z z z (List.all_eq_true.1 z)<|sg z z<|nx<|j' ?_
        replace hr:_=r:=hr
        refine x'<|g' ?_
        subst hr
        exact aI' z (ad' (i:=4) bw' z z z) z ⟨_,_,z,(aa' r' _)⟩
       ·refine n'<|D'<|b'<|sr<|yy (s' 2 ag' z z z) z<|yy (aL' z) z<|yy (e' 3 sc3 z z z) z ?_
        obtain⟨k,K,hr⟩:=hr
        refine M' z z (t' E42 z) (da' K) z (⟨(c.mono d),(j.mono d),(f.mono d)⟩) (fun aa ad Y q=>?_)
        obtain⟨h,g,rfl,l⟩:=q
        refine mv z z<|yy (K' z z) z<|yy (K' z z) z<|yy (K' z z) z<|U' 8 z z68 z fun b5=>v' 8 z aO' z z z z z (List.all_eq_true.1 z)<|sg z z<|sg z z<|nx<|h'<|sr<|yy (bM' z) z<|yy (e' 3 sc3 z z z) z<|yy (ak' z z) z<|nx<|I' hr z (fun X hr=>?_) (fun X hr=>?_)
        ·refine sr<|yy (aL' z) z<|yy (e' 3 sc3 z z z) z<|yy (bq' z) z<|yy (e' 8 bP' z z z) z<|mv z z<|yy (aq' (vs:=#[(0,i' 5),(4,i' a1_1.id),(5,.slice h k.1.p.length g),(6,.bool k.2.1)]) (v:=.agg ([i' 5,.string ByteArray.empty,i' 0,i' 0,i' a1_1.id,.slice h k.1.p.length g,.bool k.2.1]).toArray) z z (fun _=>by kernel_rfl)) z<|v' 4 z bF' z z z z z (List.all_eq_true.1 z)<|sg z z<|nx<|j' ?_
         replace hr:_=r:=hr
         refine g' ?_
         subst hr
         exact aI' z (ad' (i:=4) bw' z z z) z ⟨_,_,z,l⟩
        ·refine n'<|b'<|sr<|yy (aL' z) z<|yy (e' 3 sc3 z z z) z<|yy (bq' z) z<|yy (e' 8 bP' z z z) z<|yy (aq' (vs:=#[(0,i' 7),(4,i' a1_1.id),(5,.slice h k.1.p.length g)]) (v:=.agg ([i' 7,.string ByteArray.empty,i' 0,i' 0,i' a1_1.id,.slice h k.1.p.length g,.bool false]).toArray) z z (fun _=>by kernel_rfl)) z<|v' 4 z bF' z z z z z (List.all_eq_true.1 z)<|sg z z<|nx<|j' ?_
         obtain rfl:_=r:=hr
         exact aI' z (ad' (i:=4) bw' z z z) z ⟨_,_,z,l⟩
theorem ei'{s1_1 s2_1 s1_1p s1_1c s2_1p s2_1c r}(hr:(Z7 s1_1 s2_1).Ret r):Ctr Tryz.prog 53 #[.slice s1_1p s1_1.length s1_1c,.slice s2_1p s2_1.length s2_1c] (fun G=>sl Rp.str G s1_1p s1_1c s1_1∧sl Rp.str G s2_1p s2_1c s2_1) (fun G v=>v = .bool r):=by
 refine C' (args:=[_,_]) (N:=26) Tryz.func53 z z z (fun t l D o=>?_)
 obtain⟨g,h⟩:=o
 refine sr<|sg z z<|nx<|h'<|sr<|mv z z<|yy (L' y' g z) z<|mv z z<|yy (L' y' h z) z<|yy (aQ' z z) z<|nx<|I' hr z (fun p hr=>?_) (fun p hr=>?_)
 ·refine sr<|sg z z<|nx<|j' ?_
  replace hr:_=r:=hr
  refine g' ?_
  subst hr
  exact k' z z z
 ·refine n'<|b'<|h'<|sr<|mv z z<|yy (L' y' g z) z<|mv z z<|nx<|ab' (fun (j:Mem)=>match j with|i=>[]) (fun (j:Mem)=>match j with|i=>Mem.le l i∧(Zag).Ret r) (fun (j:Mem)=>match j with|i=>St t l i []) ?_ ?_
  ·refine A' ?_
   let k:(Bool⊕Unit)→Prop:=fun y=>((fun B=>match B with | .inl rv1=>Comp.ret rv1 | .inr ()=>Zag:(Bool⊕Unit)→Comp Bool) y).wp (fun a=>a=r)
   replace hr:(Comp.loop _ _).wp k:=hr
   refine ac' (Φ:=k) (fun (⟨c,f⟩:Int×Mem)=>(c:Int)) (fun ⟨c,f⟩=>[(0,.slice s1_1p s1_1.length s1_1c),(1,.slice s2_1p s2_1.length s2_1c),(12,i' (s1_1.length:Int)),(13,i' c)]) (fun ⟨c,f⟩=>Mem.le l f) (fun ⟨c,f⟩=>St t l f []) ⟨0,l⟩ hr (fc z (fc z (fc z (fc z fn)))) mr (wk ln) ?_
   ·intro C j A hr
    obtain⟨c,f⟩:=j
    have e:=A
    refine sr<|yy (V' z z) z<|nx<|h'<|I' hr z (fun s hr=>?_) (fun s hr=>?_)
    ·refine n'<|b'<|h'<|A'<|sr<|mv z z<|sg z z<|nx<|h'<|Z' [false,false,false,false,false,false,false,false] mix (by kernel_rfl) fun x=>cn (fun _ d=>f' z)<|cn (fun _ d=>f' z) ?_
     obtain⟨F,m,hr⟩:=hr
     refine cn (fun _ d=>P' y' sz9 ((g.mono e).mono d) z z m)<|cn (fun _ d=>T' sc9 z (bB' (E' (E' (X' g m) e) d)))<|cn (fun _ d=>f' z)<|cn (fun _ d=>f' z) ?_
     obtain⟨E,n,hr⟩:=hr
     refine cn (fun _ d=>P' y' sz9 ((h.mono e).mono d) z z n)<|cn (fun _ d=>T' sc9 z (bB' (E' (E' (X' h n) e) d)))<|Y' x<|yy (Y0.neqS aR' z z) z<|u'<|am'<|b'<|I' hr z (fun q hr=>?_) (fun q hr=>?_)
     ·refine sr<|sg z z<|nx<|j' ?_
      replace hr:_=r:=hr
      refine x'<|g'<|g'<|x'<|aH'<|g' ?_
      subst hr
      exact k' z z z
     ·refine n'<|D'<|b'<|w'<|yy (N' z z) z<|mv z z<|u'<|O' ⟨IntKind.i64.wrap (c+1),f⟩ hr e (fc z (fc z (fc z (fc z fn)))) (wk ln)
    ·refine ae'<|m'<|m'<|J'<|af' f ⟨e,hr⟩ fn (wk ln)
  ·rintro i ⟨u,hr⟩
   refine b'<|sr<|sg z z<|nx<|j' ?_
   obtain rfl:_=r:=hr
   exact k' z z z
theorem gE'{n1 r}(hr:(ZiD n1).Ret r):Ctr Tryz.prog 193 #[i' n1] (fun G=>True) (fun G v=>∃ c d,v = .agg ((v58' r c d)).toArray∧sl (Rp.int .u32) G c d r.mag):=by
 refine C' (args:=[_]) (N:=15) Tryz.func193 z z z fun H F C u=>sr<|U' 2 z z58 z fun E=>nr<|mv z z<|yy (aD' dO' al' z) z<|sg z z<|nx<|h'<|sr<|mv z z<|yy (V' z z) z<|nx<|I' hr z (fun n hr=>?_) (fun n hr=>?_)
 ·exact (show False from hr).elim
 ·refine n'<|b'<|sr<|mv z z<|yy (V' z z) z<|mv z z ?_
  obtain⟨y,j,hr⟩:=hr
  refine M' z z (t' E206 z) (fS' j) z (trivial) (fun s B o e=>?_)
  obtain⟨x,q,rfl,h⟩:=e
  obtain⟨D,k,hr⟩:=hr
  refine M' z z (t' E205 z) (dR' k) z (h) (fun t A p g=>?_)
  obtain⟨m,l,rfl,f⟩:=g
  refine v' 2 z sz58 z z z z z (List.all_eq_true.1 z)<|nx<|j' ?_
  obtain rfl:_=r:=hr
  exact k' z (ad' (i:=2) bl' z z z) ⟨_,_,z,f⟩
theorem ep'{l1 l1p l1c r}(hr:(Zcb l1).Ret r):Ctr Tryz.prog 175 #[.slice l1p l1.length l1c] (fun G=>sl ea' G l1p l1c l1) (fun G v=>∃ q s,v = .agg ((v58' r q s)).toArray∧sl (Rp.int .u32) G q s r.mag):=by
 refine C' (args:=[_]) (N:=25) Tryz.func175 z z z (fun T S af L=>?_)
 have F:=L
 refine sr<|U' 2 z z58 z fun I=>nr ?_
 obtain⟨P,K,hr⟩:=hr
 refine M' z z (t' E193 z) (gE' K) z (trivial) (fun X D o u=>?_)
 obtain⟨A,y,rfl,t⟩:=u
 refine U' 3 z z58 z fun H=>v' 3 z sz58 z z z z z (List.all_eq_true.1 z)<|nx<|h'<|sr<|mv z z<|yy (L' Tryz.underlying196 (F.mono o) z) z<|mv z z<|nx<|ab' (fun (⟨m,e,f,n⟩:Zg×Option Addr×Nat×Mem)=>[(2,.pointer (some ⟨I,0,none⟩)),(3,.pointer (some ⟨H,0,none⟩))]) (fun ⟨m,e,f,n⟩=>Mem.le D n∧sl (Rp.int .u32) n e f m.mag∧(Zbx m).Ret r) (fun ⟨m,e,f,n⟩=>St T S n [(2,some ⟨I,.cells ([.bool false,.slice none 0 0]).toArray 58 (0,0),0⟩),(3,some ⟨H,.cells ((v58' m e f)).toArray 58 (0,0),0⟩)]) ?_ ?_
 ·refine A' ?_
  let C:Zg→Prop:=fun Z=>((fun ov=>match ov with|m=>Zbx m:Zg→Comp Zg) Z).wp (fun a=>a=r)
  replace hr:(Comp.loop _ _).wp C:=hr
  refine ac' (Φ:=C) (fun (⟨g,j,d,c,h⟩:Int×Zg×Option Addr×Nat×Mem)=>((g,j):Int×Zg)) (fun ⟨g,j,d,c,h⟩=>[(2,.pointer (some ⟨I,0,none⟩)),(3,.pointer (some ⟨H,0,none⟩)),(7,.slice l1p l1.length l1c),(8,i' (l1.length:Int)),(9,i' g)]) (fun ⟨g,j,d,c,h⟩=>Mem.le D h∧sl (Rp.int .u32) h d c j.mag) (fun ⟨g,j,d,c,h⟩=>St T S h [(2,some ⟨I,.cells ([.bool false,.slice none 0 0]).toArray 58 (0,0),0⟩),(3,some ⟨H,.cells ((v58' j d c)).toArray 58 (0,0),0⟩)]) ⟨0,P,A,y,D⟩ hr (fc z (fc z (fc z (fc z (fc z fn))))) ⟨mr,t⟩ (wk (lc z (lc z ln))) ?_
  ·intro ad gx hx hr
   obtain⟨g,j,d,c,h⟩:=gx
   obtain⟨k,l⟩:=hx
   refine sr<|yy (V' z z) z<|nx<|h'<|I' hr z (fun Q hr=>?_) (fun Q hr=>?_)
   ·refine n'<|b'<|h'<|A'<|sr ?_
    obtain⟨Y,J,hr⟩:=hr
    refine yy (P' Tryz.underlying196 sz58 (F.mono (mt o k)) z z J) z ?_
    obtain⟨E,B,V,p⟩:=Zl4 (E' (X' F J) (mt o k))
    refine yy (ax' _ bl' z z V) z<|U' 5 z z58 z fun b3=>v' 5 z sz58 z z z z z (List.all_eq_true.1 z)<|nx<|A'<|sr<|yy (s' 5 bl' z z z) z ?_
    obtain⟨ag,O,hr⟩:=hr
    refine H' z z (t' E190 z) (do' O) z (p)<|sg z z<|nx<|aM' hr z (fun U hr=>?_) (fun U hr=>?_)
    ·refine n'<|D'<|D'<|b'<|w'<|yy (N' z z) z<|mv z z<|u'<|O' ⟨IntKind.i64.wrap (g+1),j,d,c,h⟩ hr ⟨k,l⟩ (fc z (fc z (fc z (fc z (fc z fn))))) (wk (lc z (lc z ln)))
    ·refine sr<|yy (s' 3 bl' z z z) z ?_
     obtain⟨ae,M,hr⟩:=hr
     refine H' z z (t' E190 z) (do' M) z (l)<|sg z z<|nx<|aM' hr z (fun R hr=>?_) (fun R hr=>?_)
     ·refine w'<|yy (s' 5 bl' z z z) z<|v' 3 z sz58 z z z z z (List.all_eq_true.1 z)<|u'<|D'<|D'<|b'<|w'<|yy (N' z z) z<|mv z z<|u'<|O' ⟨IntKind.i64.wrap (g+1),Y,E,B,h⟩ hr ⟨k,p⟩ (fc z (fc z (fc z (fc z (fc z fn))))) (wk (lc z (lc z ln)))
     ·exact (show False from hr).elim
   ·refine ae'<|m'<|m'<|J'<|af' ⟨j,d,c,h⟩ ⟨k,l,hr⟩ (fc z (fc z fn)) (wk (lc z (lc z ln)))
 ·rintro⟨m,e,f,n⟩ ⟨W,x,hr⟩
  refine b'<|sr<|yy (s' 3 bl' z z z) z<|v' 2 z sz58 z z z z z (List.all_eq_true.1 z)<|nx<|j' ?_
  obtain rfl:_=r:=hr
  exact k' z (ad' (i:=2) bl' z z z) ⟨_,_,z,x⟩
theorem gw'{a1 b1 a1magp a1magc b1magp b1magc r}(hr:(ZhO a1 b1).Ret r):Ctr Tryz.prog 174 #[.agg ((v58' a1 a1magp a1magc)).toArray,.agg ((v58' b1 b1magp b1magc)).toArray] (fun G=>sl (Rp.int .u32) G a1magp a1magc a1.mag∧sl (Rp.int .u32) G b1magp b1magc b1.mag) (fun G v=>v=i' r):=by
 refine C' (args:=[_,_]) (N:=29) Tryz.func174 z z z (fun y x p h=>?_)
 obtain⟨c,d⟩:=h
 refine sr<|W' 2 z z z fun t=>W' 3 z z z fun u=>sg z z<|nx<|h'<|Z' [false,false,false] mix (by kernel_rfl) fun m=>cn (fun _ e=>s' 2 bl' z z z) ?_
 obtain⟨n,g,hr⟩:=hr
 refine bG' z (fun _=>t' E189 z) (dC' g) z (fun A e=>(c.mono e))<|cn (fun _ e=>s' 3 bl' z z z)<|Y' m ?_
 obtain⟨s,j,hr⟩:=hr
 refine H' z z (t' E189 z) (dC' j) z (d)<|sg z z<|sg z z<|u'<|am'<|b'<|h'<|sr<|mv z z<|mv z z<|yy (aQ' z z) z<|nx<|I' hr z (fun k hr=>?_) (fun k hr=>?_)
 ·exact (show False from hr).elim
 ·refine n'<|b'<|h'<|sr<|mv z z<|yy (V' z z) z<|nx<|I' hr z (fun l hr=>?_) (fun l hr=>?_)
  ·refine sr<|yy (aP' z) z<|yy (e' 3 bJ' z z z) z<|yy (aP' z) z<|yy (e' 2 bJ' z z z) z ?_
   obtain⟨o,i,hr⟩:=hr
   refine H' z z (t' E192 z) (ex' i) z (⟨d,c⟩)<|sg z z<|nx<|j' ?_
   replace hr:_=r:=hr
   refine g' ?_
   subst hr
   exact k' z z z
  ·refine n'<|b'<|sr<|yy (aP' z) z<|yy (e' 2 bJ' z z z) z<|yy (aP' z) z<|yy (e' 3 bJ' z z z) z ?_
   obtain⟨q,f,hr⟩:=hr
   refine H' z z (t' E192 z) (ex' f) z (⟨c,d⟩)<|sg z z<|nx<|j' ?_
   obtain rfl:_=r:=hr
   exact k' z z z
theorem gi'{a1 b1 a1nummagp a1nummagc a1denmagp a1denmagc b1nummagp b1nummagc b1denmagp b1denmagc r}(hr:(ZbN a1 b1).Ret r):Ctr Tryz.prog 137 #[.agg ([.bool a1.num.neg,.slice a1nummagp a1.num.mag.length a1nummagc,.bool a1.den.neg,.slice a1denmagp a1.den.mag.length a1denmagc]).toArray,.agg ([.bool b1.num.neg,.slice b1nummagp b1.num.mag.length b1nummagc,.bool b1.den.neg,.slice b1denmagp b1.den.mag.length b1denmagc]).toArray] (fun G=>sl (Rp.int .u32) G a1nummagp a1nummagc a1.num.mag∧sl (Rp.int .u32) G a1denmagp a1denmagc a1.den.mag∧sl (Rp.int .u32) G b1nummagp b1nummagc b1.num.mag∧sl (Rp.int .u32) G b1denmagp b1denmagc b1.den.mag) (fun G v=>v=i' r):=by
 refine C' (args:=[_,_]) (N:=30) Tryz.func137 z z z (fun w0 G0 af L=>?_)
 obtain⟨l,m,n,k⟩:=L
 refine sr<|W' 2 z z z fun b2=>W' 3 z z z fun b3=>sg z z<|nx<|h'<|h'<|Z' [false,false,false] mix (by kernel_rfl) fun T=>cn (fun _ c=>s' 2 bS' z z z) ?_
 obtain⟨ab,I,hr⟩:=hr
 refine bG' z (fun _=>t' E170 z) (du' I) z (fun D c=>⟨(l.mono c),(m.mono c)⟩)<|cn (fun _ c=>s' 3 bS' z z z)<|Y' T ?_
 obtain⟨ag,M,hr⟩:=hr
 refine H' z z (t' E170 z) (du' M) z (⟨n,k⟩)<|sg z z<|sg z z<|u'<|am'<|b'<|sr<|mv z z<|mv z z<|yy (aQ' z z) z<|nx<|I' hr z (fun U hr=>?_) (fun U hr=>?_)
 ·refine h'<|sr<|mv z z<|mv z z<|yy (V' z z) z<|nx<|I' hr z (fun V hr=>?_) (fun V hr=>?_)
  ·refine sr<|sg z z<|nx<|j' ?_
   replace hr:_=r:=hr
   refine g'<|g' ?_
   subst hr
   exact k' z z z
  ·refine n'<|b'<|sr<|sg z z<|nx<|j' ?_
   replace hr:_=r:=hr
   refine g' ?_
   subst hr
   exact k' z z z
 ·refine n'<|b'<|h'<|Z' [false,false,false,false,false,false,false,false,false,false,false] mix (by kernel_rfl) fun T=>cn (fun _ c=>cp' z)<|cn (fun _ c=>av' ((v58' a1.num a1nummagp a1nummagc)).toArray 2 bl' z z z (aN' ([]) ((v58' a1.num a1nummagp a1nummagc)) ((v58' a1.den a1denmagp a1denmagc))))<|cn (fun _ c=>ce' z)<|cn (fun _ c=>av' ((v58' b1.den b1denmagp b1denmagc)).toArray 3 bl' z z z (aN' ((v58' b1.num b1nummagp b1nummagc)) ((v58' b1.den b1denmagp b1denmagc)) ([])))<|eC' (r:=ea') (e:=58) ([a1.num,b1.den]:List Zg) (fun _=>z) z (by decide) (fun u D c J=>?_) ?_
  ·exact⟨#[(0,.agg ((v58' a1.num a1nummagp a1nummagc)).toArray),(1,.agg ((v58' b1.den b1denmagp b1denmagc)).toArray)],(v58' a1.num a1nummagp a1nummagc)++((v58' b1.den b1denmagp b1denmagc)++([])),z,z,fun _=>by kernel_rfl,⟨(v58' a1.num a1nummagp a1nummagc),(v58' b1.den b1denmagp b1denmagc)++([]),z,⟨[.bool a1.num.neg],[.slice a1nummagp a1.num.mag.length a1nummagc],z,z,⟨_,z,(l.mono c)⟩⟩,⟨(v58' b1.den b1denmagp b1denmagc),[],z,⟨[.bool b1.den.neg],[.slice b1denmagp b1.den.mag.length b1denmagc],z,z,⟨_,z,(k.mono c)⟩⟩,z⟩⟩⟩
  obtain⟨q,H,hr⟩:=hr
  refine cU' (f:=175) (φ:=fun G v=>∃ i g,v = .agg ((v58' q i g)).toArray∧sl (Rp.int .u32) G i g q.mag) (fun _=>z) (fun v G1 G2 c h=>?_) (fun u D c J=>?_) ?_
  ·obtain⟨i,g,rfl,j⟩:=h
   exact⟨_,_,z,j.mono c⟩
  ·obtain⟨⟨p,o,B,F⟩,_⟩:=(show (fun G v=>∃ p o,v = .slice p 2 2∧SlRd ea' G (.slice p 2 2) o [a1.num,b1.den]) D.m (u 21)∧True from J)
   exact⟨_,_,_,fun _=>t' E175 z,ep' H,(by simp only[B] <;> rfl),F⟩
  refine cu (fun _ _ c=>cp' z)<|cu (fun _ _ c=>av' ((v58' b1.num b1nummagp b1nummagc)).toArray 3 bl' z z z (aN' ([]) ((v58' b1.num b1nummagp b1nummagc)) ((v58' b1.den b1denmagp b1denmagc))))<|cu (fun _ _ c=>ce' z)<|cu (fun _ _ c=>av' ((v58' a1.den a1denmagp a1denmagc)).toArray 2 bl' z z z (aN' ((v58' a1.num a1nummagp a1nummagc)) ((v58' a1.den a1denmagp a1denmagc)) ([])))<|eC' (r:=ea') (e:=58) ([b1.num,a1.den]:List Zg) (fun _=>z) z (by decide) (fun u D c J=>?_) ?_
  ·exact⟨#[(0,.agg ((v58' b1.num b1nummagp b1nummagc)).toArray),(1,.agg ((v58' a1.den a1denmagp a1denmagc)).toArray)],(v58' b1.num b1nummagp b1nummagc)++((v58' a1.den a1denmagp a1denmagc)++([])),z,z,fun _=>by kernel_rfl,⟨(v58' b1.num b1nummagp b1nummagc),(v58' a1.den a1denmagp a1denmagc)++([]),z,⟨[.bool b1.num.neg],[.slice b1nummagp b1.num.mag.length b1nummagc],z,z,⟨_,z,(n.mono c)⟩⟩,⟨(v58' a1.den a1denmagp a1denmagc),[],z,⟨[.bool a1.den.neg],[.slice a1denmagp a1.den.mag.length a1denmagc],z,z,⟨_,z,(m.mono c)⟩⟩,z⟩⟩⟩
  refine Chain.tailU3 (d:=27) (post:=fun G v=>∃ O E,v = .slice O 2 2∧SlRd ea' G (.slice O 2 2) E [b1.num,a1.den]) (d':=22) (post':=fun G v=>∃ i g,v = .agg ((v58' q i g)).toArray∧sl (Rp.int .u32) G i g q.mag) (d'':=21) (post'':=fun G v=>∃ p o,v = .slice p 2 2∧SlRd ea' G (.slice p 2 2) o [a1.num,b1.den]) (fun Y Z X ac W t A x=>?_)
  obtain⟨O,E,rfl,S⟩:=t
  obtain⟨i,g,rfl,j⟩:=A
  obtain⟨p,o,rfl,F⟩:=x
  obtain⟨ah,K,hr⟩:=hr
  refine M' z z (t' E175 z) (ep' K) z (S) (fun aa ae C s=>?_)
  obtain⟨R,Q,rfl,y⟩:=s
  obtain⟨ad,P,hr⟩:=hr
  refine H' z z (t' E174 z) (gw' P) z (⟨(j.mono C),y⟩)<|sg z z<|u'<|am'<|b'<|j' ?_
  obtain rfl:_=r:=hr
  exact k' z z z
theorem eT'{s1 t1 s1cnummagp s1cnummagc s1cdenmagp s1cdenmagc t1cnummagp t1cnummagc t1cdenmagp t1cdenmagc r}(hr:(ZaS s1 t1).Ret r):Ctr Tryz.prog 136 #[.agg (([.bool s1.c.num.neg,.slice s1cnummagp s1.c.num.mag.length s1cnummagc,.bool s1.c.den.neg,.slice s1cdenmagp s1.c.den.mag.length s1cdenmagc]:List Value)++(vecG (Value.int .i64) 8 s1.m)).toArray,.agg (([.bool t1.c.num.neg,.slice t1cnummagp t1.c.num.mag.length t1cnummagc,.bool t1.c.den.neg,.slice t1cdenmagp t1.c.den.mag.length t1cdenmagc]:List Value)++(vecG (Value.int .i64) 8 t1.m)).toArray] (fun G=>sl (Rp.int .u32) G s1cnummagp s1cnummagc s1.c.num.mag∧sl (Rp.int .u32) G s1cdenmagp s1cdenmagc s1.c.den.mag∧sl (Rp.int .u32) G t1cnummagp t1cnummagc t1.c.num.mag∧sl (Rp.int .u32) G t1cdenmagp t1cdenmagc t1.c.den.mag) (fun G v=>v = .bool r):=by
 refine C' (args:=[_,_]) (N:=18) Tryz.func136 z z z (fun l o k g=>?_)
 obtain⟨e,c,f,d⟩:=g
 refine sr<|W' 2 z z z fun n=>W' 3 z z z fun m=>sg z z<|nr<|yy (bn' z) z<|yy (av' (vecG (Value.int .i64) 8 s1.m).toArray 2 ca' z z (Q' _ _ _) (aN' ([.bool s1.c.num.neg,.slice s1cnummagp s1.c.num.mag.length s1cnummagc,.bool s1.c.den.neg,.slice s1cdenmagp s1.c.den.mag.length s1cdenmagc]) (vecG (Value.int .i64) 8 s1.m) ([]))) z<|yy (bn' z) z<|yy (av' (vecG (Value.int .i64) 8 t1.m).toArray 3 ca' z z (Q' _ _ _) (aN' ([.bool t1.c.num.neg,.slice t1cnummagp t1.c.num.mag.length t1cnummagc,.bool t1.c.den.neg,.slice t1cdenmagp t1.c.den.mag.length t1cdenmagc]) (vecG (Value.int .i64) 8 t1.m) ([]))) z<|aj' hr z (Y0.eqlV aG' au' sc3 sz3 eg99 z z) z (fun i hr=>?_) (fun i hr=>?_)
 ·refine mv z z<|gy z z (cg' z) z<|gy z z (av' ([.bool s1.c.num.neg,.slice s1cnummagp s1.c.num.mag.length s1cnummagc,.bool s1.c.den.neg,.slice s1cdenmagp s1.c.den.mag.length s1cdenmagc]).toArray 2 bS' z z z (aN' ([]) ([.bool s1.c.num.neg,.slice s1cnummagp s1.c.num.mag.length s1cnummagc,.bool s1.c.den.neg,.slice s1cdenmagp s1.c.den.mag.length s1cdenmagc]) ((vecG (Value.int .i64) 8 s1.m)))) z<|gy z z (cg' z) z<|gy z z (av' ([.bool t1.c.num.neg,.slice t1cnummagp t1.c.num.mag.length t1cnummagc,.bool t1.c.den.neg,.slice t1cdenmagp t1.c.den.mag.length t1cdenmagc]).toArray 3 bS' z z z (aN' ([]) ([.bool t1.c.num.neg,.slice t1cnummagp t1.c.num.mag.length t1cnummagc,.bool t1.c.den.neg,.slice t1cdenmagp t1.c.den.mag.length t1cdenmagc]) ((vecG (Value.int .i64) 8 t1.m)))) z ?_
  obtain⟨j,h,hr⟩:=hr
  refine H' (F' z z) z (t' E137 z) (gi' h) z (⟨e,c,f,d⟩)<|gy z z (ak' z z) z<|yy (o' z z) z<|sg z z<|nx<|j' ?_
  obtain rfl:_=r:=hr
  exact k' z z z
 ·refine mv z z<|sk z z z<|sk z z z<|sk z z z<|sk z z z<|sk z z z<|sk z z z<|yy (l' z z) z<|sg z z<|nx<|j' ?_
  obtain rfl:_=r:=hr
  exact k' z z z
theorem ch'{s1_1 s2_1 s1_1p s1_1c s2_1p s2_1c r}(hr:(Zs s1_1 s2_1).Ret r):Ctr Tryz.prog 135 #[.slice s1_1p s1_1.length s1_1c,.slice s2_1p s2_1.length s2_1c,.func (.func 136) #[] #[]] (fun G=>sl r' G s1_1p s1_1c s1_1∧sl r' G s2_1p s2_1c s2_1) (fun G v=>v = .bool r):=by
 refine C' (args:=[_,_,_]) (N:=32) Tryz.func135 z z z (fun O F Y K=>?_)
 obtain⟨y,A⟩:=K
 refine sr<|sg z z<|nx<|h'<|sr<|mv z z<|yy (L' R' y z) z<|mv z z<|yy (L' R' A z) z<|yy (aQ' z z) z<|nx<|I' hr z (fun L hr=>?_) (fun L hr=>?_)
 ·refine sr<|sg z z<|nx<|j' ?_
  replace hr:_=r:=hr
  refine g' ?_
  subst hr
  exact k' z z z
 ·refine n'<|b'<|h'<|sr<|mv z z<|yy (L' R' y z) z<|mv z z<|nx<|ab' (fun (C:Mem)=>match C with|B=>[]) (fun (C:Mem)=>match C with|B=>Mem.le F B∧(Zq).Ret r) (fun (C:Mem)=>match C with|B=>St O F B []) ?_ ?_
  ·refine A' ?_
   let E:(Bool⊕Unit)→Prop:=fun T=>((fun V=>match V with | .inl rv1=>Comp.ret rv1 | .inr ()=>Zq:(Bool⊕Unit)→Comp Bool) T).wp (fun a=>a=r)
   replace hr:(Comp.loop _ _).wp E:=hr
   refine ac' (Φ:=E) (fun (⟨k,o⟩:Int×Mem)=>(k:Int)) (fun ⟨k,o⟩=>[(1,.slice s2_1p s2_1.length s2_1c),(2,.func (.func 136) #[] #[]),(15,.slice s1_1p s1_1.length s1_1c),(16,i' (s1_1.length:Int)),(17,i' k)]) (fun ⟨k,o⟩=>Mem.le F o) (fun ⟨k,o⟩=>St O F o []) ⟨0,F⟩ hr (fc z (fc z (fc z (fc z (fc z fn))))) mr (wk ln) ?_
   ·intro X C U hr
    obtain⟨k,o⟩:=C
    have n:=U
    refine sr<|yy (V' z z) z<|nx<|h'<|I' hr z (fun P hr=>?_) (fun P hr=>?_)
    ·refine n'<|b'<|h'<|A'<|sr<|mv z z ?_
     obtain⟨m,H,hr⟩:=hr
     refine yy (P' R' bC' (y.mono n) z z H) z ?_
     obtain⟨d,c,e,h,Q,p,s⟩:=cF' (E' (X' y H) n)
     refine yy (ax' _ ag101 z z Q) z<|U' 8 z z101 z fun b1=>sg z z<|v' 8 z bC' z z z z z (fun u D=>Rp.one r' (G:=o) (x:=m) (cs:=([.bool m.c.num.neg,.slice d m.c.num.mag.length c,.bool m.c.den.neg,.slice e m.c.den.mag.length h]:List Value)++(vecG (Value.int .i64) 8 m.m)) ⟨[.bool m.c.num.neg,.slice d m.c.num.mag.length c,.bool m.c.den.neg,.slice e m.c.den.mag.length h],vecG (Value.int .i64) 8 m.m,z,⟨(v58' m.c.num d c),(v58' m.c.den e h),z,⟨[.bool m.c.num.neg],[.slice d m.c.num.mag.length c],z,z,⟨_,z,p⟩⟩,⟨[.bool m.c.den.neg],[.slice e m.c.den.mag.length h],z,z,⟨_,z,s⟩⟩⟩,z⟩ u (by first|simpa using D|simpa [Value.cells] using D))<|nr<|mv z z<|mv z z ?_
     obtain⟨l,I,hr⟩:=hr
     refine yy (P' R' bC' (A.mono n) z z I) z ?_
     obtain⟨i,j,g,f,R,t,q⟩:=cF' (E' (X' A I) n)
     refine yy (ax' _ ag101 z z R) z<|U' 9 z z101 z fun Z=>v' 9 z bC' z z z z z (fun u D=>Rp.one r' (G:=o) (x:=l) (cs:=([.bool l.c.num.neg,.slice i l.c.num.mag.length j,.bool l.c.den.neg,.slice g l.c.den.mag.length f]:List Value)++(vecG (Value.int .i64) 8 l.m)) ⟨[.bool l.c.num.neg,.slice i l.c.num.mag.length j,.bool l.c.den.neg,.slice g l.c.den.mag.length f],vecG (Value.int .i64) 8 l.m,z,⟨(v58' l.c.num i j),(v58' l.c.den g f),z,⟨[.bool l.c.num.neg],[.slice i l.c.num.mag.length j],z,z,⟨_,z,t⟩⟩,⟨[.bool l.c.den.neg],[.slice g l.c.den.mag.length f],z,z,⟨_,z,q⟩⟩⟩,z⟩ u (by first|simpa using D|simpa [Value.cells] using D))<|nr<|mv z z<|yy (s' 8 ag101 z z z) z<|yy (s' 9 ag101 z z z) z ?_
     obtain⟨W,J,hr⟩:=hr
     refine H' z z (cM' E136 z z) (eT' J) z (⟨p,s,t,q⟩)<|yy (an' z) z<|nx<|aM' hr z (fun M hr=>?_) (fun M hr=>?_)
     ·refine sr<|sg z z<|nx<|j' ?_
      replace hr:_=r:=hr
      refine x'<|g'<|g'<|x'<|aH'<|g' ?_
      subst hr
      exact k' z z z
     ·refine n'<|D'<|b'<|w'<|yy (N' z z) z<|mv z z<|u'<|O' ⟨IntKind.i64.wrap (k+1),o⟩ hr n (fc z (fc z (fc z (fc z (fc z fn))))) (wk ln)
    ·refine ae'<|m'<|m'<|J'<|af' o ⟨n,hr⟩ fn (wk ln)
  ·rintro B ⟨S,hr⟩
   refine b'<|sr<|sg z z<|nx<|j' ?_
   obtain rfl:_=r:=hr
   exact k' z z z
theorem ez'{p1 q1 p1p p1c q1p q1c r}(hr:(Zby p1 q1).Ret r):Ctr Tryz.prog 89 #[.slice p1p p1.length p1c,.slice q1p q1.length q1c] (fun G=>sl r' G p1p p1c p1∧sl r' G q1p q1c q1) (fun G v=>v = .bool r):=by
 refine C' (args:=[_,_]) (N:=8) Tryz.func89 z z z (fun i j h c=>?_)
 obtain⟨f,e⟩:=c
 refine sr<|sg z z<|nr<|mv z z<|mv z z ?_
 obtain⟨g,d,hr⟩:=hr
 refine H' z z (t' E135 z) (ch' d) z (⟨f,e⟩)<|sg z z<|nx<|j' ?_
 obtain rfl:_=r:=hr
 exact k' z z z
theorem gj'{q1 v1 q1pp q1pc r}(hr:(ZgU q1 v1).Ret r):Ctr Tryz.prog 55 #[.agg ((v68' q1.id q1pp q1.p q1pc)).toArray,.bool v1] (fun G=>sl r' G q1pp q1pc q1.p) (fun G v=>∃ d c,v = .agg ([i' r.kind,.string r.name,i' r.at',i' r.to',i' r.id,.slice d r.p.length c,.bool r.neq]).toArray∧sl r' G d c r.p):=by
 refine C' (args:=[_,_]) (N:=8) Tryz.func55 z z z (fun h l g e=>?_)
 have f:=e
 refine sr<|W' 2 z z z fun k=>U' 4 z z40 z fun j=>nr<|yy (bc' z) z<|yy (e' 2 sc3 z z z) z<|yy (aq' (vs:=#[(0,i' 6),(4,i' q1.id)]) (v:=.agg ([i' 6,.string ByteArray.empty,i' 0,i' 0,i' q1.id,.slice none 0 0,.bool false]).toArray) z z (fun _=>by kernel_rfl)) z<|v' 4 z bF' z z z z z (List.all_eq_true.1 z)<|nx<|j' ?_
 obtain rfl:_=r:=hr
 exact k' z (ad' (i:=4) bw' z z z) ⟨_,_,z,(aa' r' _)⟩
theorem gk'{q1 neq1 q1pp q1pc r}(hr:(ZgV q1 neq1).Ret r):Ctr Tryz.prog 56 #[.agg ((v68' q1.id q1pp q1.p q1pc)).toArray,.bool neq1] (fun G=>sl r' G q1pp q1pc q1.p) (fun G v=>∃ d c,v = .agg ([i' r.kind,.string r.name,i' r.at',i' r.to',i' r.id,.slice d r.p.length c,.bool r.neq]).toArray∧sl r' G d c r.p):=by
 refine C' (args:=[_,_]) (N:=11) Tryz.func56 z z z (fun h l g e=>?_)
 have f:=e
 refine sr<|W' 2 z z z fun k=>U' 4 z z40 z fun j=>nr<|yy (bc' z) z<|yy (e' 2 sc3 z z z) z<|yy (bq' z) z<|yy (e' 2 bP' z z z) z<|mv z z<|yy (aq' (vs:=#[(0,i' 5),(4,i' q1.id),(5,.slice q1pp q1.p.length q1pc),(6,.bool neq1)]) (v:=.agg ([i' 5,.string ByteArray.empty,i' 0,i' 0,i' q1.id,.slice q1pp q1.p.length q1pc,.bool neq1]).toArray) z z (fun _=>by kernel_rfl)) z<|v' 4 z bF' z z z z z (List.all_eq_true.1 z)<|nx<|j' ?_
 obtain rfl:_=r:=hr
 exact k' z (ad' (i:=4) bw' z z z) ⟨_,_,z,f⟩
theorem eq'{a0_1 a1_1 a2_1 a0_1varsp a0_1varsc a0_1eqsp a0_1eqsc a0_1neqsp a0_1neqsc a1_1varsp a1_1varsc a1_1eqsp a1_1eqsc a1_1neqsp a1_1neqsc r}(hr:(Zay a0_1 a1_1 a2_1).Ret r):CtrL Tryz.prog 54 #[.agg ((v33' a0_1 a0_1varsp a0_1varsc a0_1eqsp a0_1eqsc a0_1neqsp a0_1neqsc)).toArray,.agg ((v33' a1_1 a1_1varsp a1_1varsc a1_1eqsp a1_1eqsc a1_1neqsp a1_1neqsc)).toArray,.bool a2_1,.func (.func 55) #[] #[]] [] (fun G=>sl Rp.str G a0_1varsp a0_1varsc a0_1.vars∧sl a' G a0_1eqsp a0_1eqsc a0_1.eqs∧sl a' G a0_1neqsp a0_1neqsc a0_1.neqs∧sl Rp.str G a1_1varsp a1_1varsc a1_1.vars∧sl a' G a1_1eqsp a1_1eqsc a1_1.eqs∧sl a' G a1_1neqsp a1_1neqsc a1_1.neqs) (fun G L v=>∃ zp zc aC,L=[(7000,aC)]∧v = .slice zp r.length zc∧RowR ah' 40 G (.slice zp r.length zc) r aC):=by
 refine aW' (args:=[_,_,_,_]) (N:=72) Tryz.func54 z z z (fun w0 G0 an aP=>?_)
 obtain⟨aA,ab,W,Y,Z,X⟩:=aP
 refine sr<|W' 4 z z z fun b1=>W' 5 z z z fun U=>sg z z<|nr<|sg z z<|nx<|h'<|sr<|yy (az' z) z<|yy (e' 4 aS' z z z) z<|yy (aK' z) z<|yy (e' 4 aS' z z z) z<|aU' (e:=31) (r:=(Rp.sl a')) (vs:=#[(0,.slice a0_1eqsp a0_1.eqs.length a0_1eqsc),(1,.slice a0_1neqsp a0_1.neqs.length a0_1neqsc)]) (cs:=[.slice a0_1eqsp a0_1.eqs.length a0_1eqsc]++([.slice a0_1neqsp a0_1.neqs.length a0_1neqsc]++([]))) ([a0_1.eqs,a0_1.neqs]:List (List Za)) z z z z z (by decide) (fun _=>by kernel_rfl) ⟨[.slice a0_1eqsp a0_1.eqs.length a0_1eqsc],[.slice a0_1neqsp a0_1.neqs.length a0_1neqsc]++([]),z,⟨_,z,ab⟩,⟨[.slice a0_1neqsp a0_1.neqs.length a0_1neqsc],[],z,⟨_,z,W⟩,z⟩⟩ (key:=999) z (by rw[an]; rfl) fun p1 ak T am=>yy (L' bx' am z) z<|mv z z<|nx<|ab' (fun (⟨B,K,H,y,P⟩:(List Zd)×Option Addr×Nat×Option Ow×Mem)=>[(9,.slice K B.length H)]) (fun ⟨B,K,H,y,P⟩=>Mem.le ak P∧RowR ah' 40 P (.slice K B.length H) B y∧(Zak B).Ret r) (fun ⟨B,K,H,y,P⟩=>St w0 G0 P [(4009,y)]) ?_ ?_
 ·refine A' ?_
  let S:(List Zd)→Prop:=fun oo=>((fun ov=>match ov with|B=>Zak B:(List Zd)→Comp (List Zd)) oo).wp (fun a=>a=r)
  replace hr:(Comp.loop _ _).wp S:=hr
  refine ac' (Φ:=S) (fun (⟨t,s,p,k,d,C⟩:(List Zd)×Option Addr×Nat×Option Ow×Int×Mem)=>((t,d):(List Zd)×Int)) (fun ⟨t,s,p,k,d,C⟩=>[(2,.bool a2_1),(3,.func (.func 55) #[] #[]),(5,.pointer (some ⟨U,0,none⟩)),(9,.slice s t.length p),(21,.slice p1 2 2),(22,i' ([a0_1.eqs,a0_1.neqs].length:Int)),(23,i' d)]) (fun ⟨t,s,p,k,d,C⟩=>Mem.le ak C∧RowR ah' 40 C (.slice s t.length p) t k) (fun ⟨t,s,p,k,d,C⟩=>St w0 G0 C [(5,some ⟨U,.cells ((v33' a1_1 a1_1varsp a1_1varsc a1_1eqsp a1_1eqsc a1_1neqsp a1_1neqsc)).toArray 33 (0,0),0⟩),(4009,k)]) ⟨[],none,0,none,0,ak⟩ hr (fc z (fc z (fc z (fc z (fc z (fc z (fc z fn))))))) ⟨mr,ed'⟩ (wk (lc z (lw ln))) ?_
  ·intro aB gx hx hr
   obtain⟨t,s,p,k,d,C⟩:=gx
   obtain⟨A,ac⟩:=hx
   refine sr<|yy (V' z z) z<|nx<|h'<|I' hr z (fun a1 hr=>?_) (fun a1 hr=>?_)
   ·refine n'<|b'<|h'<|A'<|sr<|mv z z ?_
    obtain⟨x1,ay,hr⟩:=hr
    refine yy (P' bx' cu' (am.mono A) z z ay) z ?_
    obtain⟨p2,ax,a5,al⟩:=bU' (E' (X' am ay) A)
    refine yy (T' aS' z (a5)) z<|sg z z<|sg z z<|nr<|mv z z<|yy (L' q' al z) z<|mv z z<|nx<|ab' (fun (⟨u,D,F,x,O⟩:(List Zd)×Option Addr×Nat×Option Ow×Mem)=>[(2,.bool a2_1),(3,.func (.func 55) #[] #[]),(5,.pointer (some ⟨U,0,none⟩)),(9,.slice D u.length F),(21,.slice p1 2 2),(22,i' ([a0_1.eqs,a0_1.neqs].length:Int)),(23,i' d)]) (fun ⟨u,D,F,x,O⟩=>Mem.le C O∧RowR ah' 40 O (.slice D u.length F) u x∧(Zal d u).wp (Out aB S)) (fun ⟨u,D,F,x,O⟩=>St w0 G0 O [(5,some ⟨U,.cells ((v33' a1_1 a1_1varsp a1_1varsc a1_1eqsp a1_1eqsc a1_1neqsp a1_1neqsc)).toArray 33 (0,0),0⟩),(4009,x)]) ?_ ?_
    ·refine A' ?_
     let aa:(List Zd)→Prop:=fun oo=>((fun ov=>match ov with|u=>Zal d u:(List Zd)→Comp (((List Zd)×Int)⊕(List Zd))) oo).wp (Out aB S)
     replace hr:(Comp.loop _ _).wp aa:=hr
     refine ac' (Φ:=aa) (fun (⟨g,n,o,f,h,M⟩:(List Zd)×Option Addr×Nat×Option Ow×Int×Mem)=>((g,h):(List Zd)×Int)) (fun ⟨g,n,o,f,h,M⟩=>[(2,.bool a2_1),(3,.func (.func 55) #[] #[]),(5,.pointer (some ⟨U,0,none⟩)),(9,.slice n g.length o),(10,i' d),(21,.slice p1 2 2),(22,i' ([a0_1.eqs,a0_1.neqs].length:Int)),(23,i' d),(28,.slice p2 x1.length ax),(29,i' (x1.length:Int)),(30,i' h)]) (fun ⟨g,n,o,f,h,M⟩=>Mem.le C M∧RowR ah' 40 M (.slice n g.length o) g f) (fun ⟨g,n,o,f,h,M⟩=>St w0 G0 M [(5,some ⟨U,.cells ((v33' a1_1 a1_1varsp a1_1varsc a1_1eqsp a1_1eqsc a1_1neqsp a1_1neqsc)).toArray 33 (0,0),0⟩),(4009,f)]) ⟨t,s,p,k,0,C⟩ hr (fc z (fc z (fc z (fc z (fc z (fc z (fc z (fc z (fc z (fc z (fc z fn))))))))))) ⟨mr,ac⟩ (wk (lc z (lc z ln))) ?_
     ·intro a6 gx hx hr
      obtain⟨g,n,o,f,h,M⟩:=gx
      obtain⟨q,R⟩:=hx
      refine sr<|yy (V' z z) z<|nx<|h'<|I' hr z (fun a3 hr=>?_) (fun a3 hr=>?_)
      ·refine n'<|b'<|h'<|A'<|sr ?_
       obtain⟨x2,az,hr⟩:=hr
       refine yy (P' q' aO' (al.mono q) z z az) z ?_
       obtain⟨aK,aE,aY,ao⟩:=bd' (E' (X' al az) q)
       refine yy (ax' _ bL' z z aY) z<|U' 13 z z68 z fun b3=>v' 13 z aO' z z z z z (List.all_eq_true.1 z)<|nr<|yy (s' 5 ag' z z z) z<|yy (bc' z) z<|yy (e' 13 sc3 z z z) z ?_
       obtain⟨bg,aD,hr⟩:=hr
       refine M' z z (t' E42 z) (da' aD) z (⟨(Y.mono (mt (mt T A) q)),(Z.mono (mt (mt T A) q)),(X.mono (mt (mt T A) q))⟩) (fun bd V E af=>?_)
       obtain⟨aR,aS,rfl,ag⟩:=af
       refine mv z z<|yy (K' z z) z<|yy (K' z z) z<|yy (K' z z) z<|U' 14 z z68 z fun b4=>v' 14 z aO' z z z z z (List.all_eq_true.1 z)<|sg z z<|sg z z<|nx<|aV' (fun (⟨I,Q⟩:Bool×Mem)=>[(2,.bool a2_1),(3,.func (.func 55) #[] #[]),(5,.pointer (some ⟨U,0,none⟩)),(9,.slice n g.length o),(10,i' d),(13,.pointer (some ⟨b3,0,none⟩)),(21,.slice p1 2 2),(22,i' ([a0_1.eqs,a0_1.neqs].length:Int)),(23,i' d),(28,.slice p2 x1.length ax),(29,i' (x1.length:Int)),(30,i' h),(60,.bool I)]) (fun ⟨I,Q⟩=>Mem.le V Q∧(ZB d g h x2 I).wp (Out a6 aa)) (fun ⟨I,Q⟩=>St w0 G0 Q [(5,some ⟨U,.cells ((v33' a1_1 a1_1varsp a1_1varsc a1_1eqsp a1_1eqsc a1_1neqsp a1_1neqsc)).toArray 33 (0,0),0⟩),(13,some ⟨b3,.cells ((v68' x2.id aK x2.p aE)).toArray 68 (0,0),0⟩),(4009,f)]) ?_ ?_
       ·skip
        refine w'<|aj' hr z (cN' (f' z) (congrArg Value.bool (bdec _))) z (fun aZ hr=>?_) (fun aZ hr=>?_)
        ·refine mv z z<|sf z z z<|sf z z z<|yy (o' z z) z<|mv z z<|sf z z z<|sf z z z<|sf z z z<|sf z z z<|yy (o' z z) z<|mv z z<|sf z z z<|sf z z z<|sf z z z<|sf z z z<|sf z z z<|sf z z z<|yy (o' z z) z<|u'<|ar' ⟨true,V⟩ ⟨mr,hr⟩ (fc z (fc z (fc z (fc z (fc z (fc z (fc z (fc z (fc z (fc z (fc z (fc z (fc z fn))))))))))))) (wk (lc z (lc z (lc z ln))))
        ·refine mv z z<|aj' hr (F' z z) (cN' (f' z) (congrArg Value.bool (bdec _))) z (fun aW hr=>?_) (fun aW hr=>?_)
         ·refine gy z z (an' z) z<|yy (l' z z) z<|mv z z<|gy z z (f' z) z<|gy z z (f' z) z<|gy z z (ak' z z) z<|aj' hr (F' z z) (ee' bK' z z) z (fun a4 hr=>?_) (fun a4 hr=>?_)
          ·refine yy (l' z z) z<|mv z z<|sf z z z<|sf z z z<|sf z z z<|sf z z z<|sf z z z<|sf z z z<|yy (o' z z) z<|u'<|ar' ⟨true,V⟩ ⟨mr,hr⟩ (fc z (fc z (fc z (fc z (fc z (fc z (fc z (fc z (fc z (fc z (fc z (fc z (fc z fn))))))))))))) (wk (lc z (lc z (lc z ln))))
          ·refine yy (l' z z) z<|mv z z<|gy z z (bq' z) z<|gy z z (e' 14 bP' z z z) z<|gy z z (bq' z) z<|gy z z (e' 13 bP' z z z) z ?_
           obtain⟨a9,aH,hr⟩:=hr
           refine H' (F' z z) z (t' E89 z) (ez' aH) z (⟨ag,(ao.mono E)⟩)<|gy z z (an' z) z<|yy (l' z z) z<|u'<|ar' ⟨!a9,V⟩ ⟨mr,hr⟩ (fc z (fc z (fc z (fc z (fc z (fc z (fc z (fc z (fc z (fc z (fc z (fc z (fc z fn))))))))))))) (wk (lc z (lc z (lc z ln))))
         ·refine gy z z (an' z) z<|yy (l' z z) z<|mv z z<|sf z z z<|sf z z z<|sf z z z<|sf z z z<|yy (o' z z) z<|mv z z<|sf z z z<|sf z z z<|sf z z z<|sf z z z<|sf z z z<|sf z z z<|yy (o' z z) z<|u'<|ar' ⟨true,V⟩ ⟨mr,hr⟩ (fc z (fc z (fc z (fc z (fc z (fc z (fc z (fc z (fc z (fc z (fc z (fc z (fc z fn))))))))))))) (wk (lc z (lc z (lc z ln))))
       ·rintro⟨I,Q⟩ ⟨J,hr⟩
        refine aM' hr z (fun a8 hr=>?_) (fun a8 hr=>?_)
        ·refine w'<|mv z z<|mv z z<|yy (s' 13 bL' z z z) z<|mv z z<|yy (ak' z z) z ?_
         obtain⟨c,aI,hr⟩:=hr
         refine M' z z (cM' E55 z z) (gj' aI) z ((ao.mono (mt E J))) (fun bc bf ad aj=>?_)
         obtain⟨m,l,rfl,ar⟩:=aj
         refine aU' (e:=40) (r:=ah') (vs:=#[(0,.agg ([i' c.kind,.string c.name,i' c.at',i' c.to',i' c.id,.slice m c.p.length l,.bool c.neq]).toArray)]) (cs:=[i' c.kind,.string c.name,i' c.at',i' c.to',i' c.id,.slice m c.p.length l,.bool c.neq]++([])) ([c]:List Zd) z z z z z (by decide) (fun _=>by kernel_rfl) ⟨[i' c.kind,.string c.name,i' c.at',i' c.to',i' c.id,.slice m c.p.length l,.bool c.neq],[],z,⟨[i' c.kind],[.string c.name,i' c.at',i' c.to',i' c.id,.slice m c.p.length l,.bool c.neq],z,z,⟨[.string c.name],[i' c.at',i' c.to',i' c.id,.slice m c.p.length l,.bool c.neq],z,z,⟨[i' c.at'],[i' c.to',i' c.id,.slice m c.p.length l,.bool c.neq],z,z,⟨[i' c.to'],[i' c.id,.slice m c.p.length l,.bool c.neq],z,z,⟨[i' c.id],[.slice m c.p.length l,.bool c.neq],z,z,⟨[.slice m c.p.length l],[.bool c.neq],z,⟨_,z,ar⟩,z⟩⟩⟩⟩⟩⟩,z⟩ (key:=999) z (by rw[an]; rfl) (fun p3 a2 ae aV=>?_)
         obtain⟨aG,hr⟩:=hr
         refine bW' (r:=ah') (e:=40) 4009 z z ao' el40 z (by decide) z z (R.mono (mt (mt (mt E J) ad) ae)) z aV aG fun p4 aT aO aX=>sg z z<|u'<|D'<|b'<|w'<|yy (N' z z) z<|mv z z<|u'<|O' ⟨(g++[c]),p4,aT,aO,IntKind.i64.wrap (h+1),a2⟩ hr ⟨(mt (mt (mt (mt q E) J) ad) ae),aX⟩ (fc z (fc z (fc z (fc z (fc z (fc z (fc z (fc z (fc z (fc z (fc z fn))))))))))) (wk (lc z (lc z ln)))
        ·refine n'<|D'<|b'<|w'<|yy (N' z z) z<|mv z z<|u'<|O' ⟨g,n,o,f,IntKind.i64.wrap (h+1),Q⟩ hr ⟨(mt (mt q E) J),(R.mono (mt E J))⟩ (fc z (fc z (fc z (fc z (fc z (fc z (fc z (fc z (fc z (fc z (fc z fn))))))))))) (wk (lc z (lc z ln)))
      ·refine ae'<|m'<|m'<|J'<|af' ⟨g,n,o,f,M⟩ ⟨q,R,hr⟩ (fc z (fc z (fc z (fc z (fc z (fc z (fc z fn))))))) (wk (lc z (lc z ln)))
    ·rintro⟨u,D,F,x,O⟩ ⟨aw,ap,hr⟩
     refine D'<|b'<|w'<|yy (N' z z) z<|mv z z<|u'<|O' ⟨u,D,F,x,IntKind.i64.wrap (d+1),O⟩ hr ⟨(mt A aw),ap⟩ (fc z (fc z (fc z (fc z (fc z (fc z (fc z fn))))))) (wk (lc z (lc z ln)))
   ·refine ae'<|m'<|m'<|J'<|af' ⟨t,s,p,k,C⟩ ⟨A,ac,hr⟩ (fc z fn) (wk (lc z ln))
 ·rintro⟨B,K,H,y,P⟩ ⟨bb,av,hr⟩
  refine b'<|sr<|mv z z<|sg z z<|nx<|j' ?_
  obtain rfl:_=r:=hr
  refine aE' (S':=St w0 G0 P [(7000,y)]) ?_ ?_
  ·intro w hs
   have hs:=hs.rekey (i:=4009) (j:=7000) z (by rw[an]; rfl)
   exact hs.weaken (lc z ln)
  exact k' z z ⟨_,_,_,z,z,av⟩
theorem er'{a0_1 a1_1 a2_1 a0_1varsp a0_1varsc a0_1eqsp a0_1eqsc a0_1neqsp a0_1neqsc a1_1varsp a1_1varsc a1_1eqsp a1_1eqsc a1_1neqsp a1_1neqsc r}(hr:(Zaz a0_1 a1_1 a2_1).Ret r):CtrL Tryz.prog 54 #[.agg ((v33' a0_1 a0_1varsp a0_1varsc a0_1eqsp a0_1eqsc a0_1neqsp a0_1neqsc)).toArray,.agg ((v33' a1_1 a1_1varsp a1_1varsc a1_1eqsp a1_1eqsc a1_1neqsp a1_1neqsc)).toArray,.bool a2_1,.func (.func 56) #[] #[]] [] (fun G=>sl Rp.str G a0_1varsp a0_1varsc a0_1.vars∧sl a' G a0_1eqsp a0_1eqsc a0_1.eqs∧sl a' G a0_1neqsp a0_1neqsc a0_1.neqs∧sl Rp.str G a1_1varsp a1_1varsc a1_1.vars∧sl a' G a1_1eqsp a1_1eqsc a1_1.eqs∧sl a' G a1_1neqsp a1_1neqsc a1_1.neqs) (fun G L v=>∃ zp zc aC,L=[(7000,aC)]∧v = .slice zp r.length zc∧RowR ah' 40 G (.slice zp r.length zc) r aC):=by
 refine aW' (args:=[_,_,_,_]) (N:=72) Tryz.func54 z z z (fun w0 G0 an aP=>?_)
 obtain⟨aA,ab,W,Y,Z,X⟩:=aP
 refine sr<|W' 4 z z z fun b1=>W' 5 z z z fun U=>sg z z<|nr<|sg z z<|nx<|h'<|sr<|yy (az' z) z<|yy (e' 4 aS' z z z) z<|yy (aK' z) z<|yy (e' 4 aS' z z z) z<|aU' (e:=31) (r:=(Rp.sl a')) (vs:=#[(0,.slice a0_1eqsp a0_1.eqs.length a0_1eqsc),(1,.slice a0_1neqsp a0_1.neqs.length a0_1neqsc)]) (cs:=[.slice a0_1eqsp a0_1.eqs.length a0_1eqsc]++([.slice a0_1neqsp a0_1.neqs.length a0_1neqsc]++([]))) ([a0_1.eqs,a0_1.neqs]:List (List Za)) z z z z z (by decide) (fun _=>by kernel_rfl) ⟨[.slice a0_1eqsp a0_1.eqs.length a0_1eqsc],[.slice a0_1neqsp a0_1.neqs.length a0_1neqsc]++([]),z,⟨_,z,ab⟩,⟨[.slice a0_1neqsp a0_1.neqs.length a0_1neqsc],[],z,⟨_,z,W⟩,z⟩⟩ (key:=999) z (by rw[an]; rfl) fun p1 ak T am=>yy (L' bx' am z) z<|mv z z<|nx<|ab' (fun (⟨B,K,H,y,P⟩:(List Zd)×Option Addr×Nat×Option Ow×Mem)=>[(9,.slice K B.length H)]) (fun ⟨B,K,H,y,P⟩=>Mem.le ak P∧RowR ah' 40 P (.slice K B.length H) B y∧(Zam B).Ret r) (fun ⟨B,K,H,y,P⟩=>St w0 G0 P [(4009,y)]) ?_ ?_
 ·refine A' ?_
  let S:(List Zd)→Prop:=fun oo=>((fun ov=>match ov with|B=>Zam B:(List Zd)→Comp (List Zd)) oo).wp (fun a=>a=r)
  replace hr:(Comp.loop _ _).wp S:=hr
  refine ac' (Φ:=S) (fun (⟨t,s,p,k,d,C⟩:(List Zd)×Option Addr×Nat×Option Ow×Int×Mem)=>((t,d):(List Zd)×Int)) (fun ⟨t,s,p,k,d,C⟩=>[(2,.bool a2_1),(3,.func (.func 56) #[] #[]),(5,.pointer (some ⟨U,0,none⟩)),(9,.slice s t.length p),(21,.slice p1 2 2),(22,i' ([a0_1.eqs,a0_1.neqs].length:Int)),(23,i' d)]) (fun ⟨t,s,p,k,d,C⟩=>Mem.le ak C∧RowR ah' 40 C (.slice s t.length p) t k) (fun ⟨t,s,p,k,d,C⟩=>St w0 G0 C [(5,some ⟨U,.cells ((v33' a1_1 a1_1varsp a1_1varsc a1_1eqsp a1_1eqsc a1_1neqsp a1_1neqsc)).toArray 33 (0,0),0⟩),(4009,k)]) ⟨[],none,0,none,0,ak⟩ hr (fc z (fc z (fc z (fc z (fc z (fc z (fc z fn))))))) ⟨mr,ed'⟩ (wk (lc z (lw ln))) ?_
  ·intro aB gx hx hr
   obtain⟨t,s,p,k,d,C⟩:=gx
   obtain⟨A,ac⟩:=hx
   refine sr<|yy (V' z z) z<|nx<|h'<|I' hr z (fun a1 hr=>?_) (fun a1 hr=>?_)
   ·refine n'<|b'<|h'<|A'<|sr<|mv z z ?_
    obtain⟨x1,ay,hr⟩:=hr
    refine yy (P' bx' cu' (am.mono A) z z ay) z ?_
    obtain⟨p2,ax,a5,al⟩:=bU' (E' (X' am ay) A)
    refine yy (T' aS' z (a5)) z<|sg z z<|sg z z<|nr<|mv z z<|yy (L' q' al z) z<|mv z z<|nx<|ab' (fun (⟨u,D,F,x,O⟩:(List Zd)×Option Addr×Nat×Option Ow×Mem)=>[(2,.bool a2_1),(3,.func (.func 56) #[] #[]),(5,.pointer (some ⟨U,0,none⟩)),(9,.slice D u.length F),(21,.slice p1 2 2),(22,i' ([a0_1.eqs,a0_1.neqs].length:Int)),(23,i' d)]) (fun ⟨u,D,F,x,O⟩=>Mem.le C O∧RowR ah' 40 O (.slice D u.length F) u x∧(Zan d u).wp (Out aB S)) (fun ⟨u,D,F,x,O⟩=>St w0 G0 O [(5,some ⟨U,.cells ((v33' a1_1 a1_1varsp a1_1varsc a1_1eqsp a1_1eqsc a1_1neqsp a1_1neqsc)).toArray 33 (0,0),0⟩),(4009,x)]) ?_ ?_
    ·refine A' ?_
     let aa:(List Zd)→Prop:=fun oo=>((fun ov=>match ov with|u=>Zan d u:(List Zd)→Comp (((List Zd)×Int)⊕(List Zd))) oo).wp (Out aB S)
     replace hr:(Comp.loop _ _).wp aa:=hr
     refine ac' (Φ:=aa) (fun (⟨g,n,o,f,h,M⟩:(List Zd)×Option Addr×Nat×Option Ow×Int×Mem)=>((g,h):(List Zd)×Int)) (fun ⟨g,n,o,f,h,M⟩=>[(2,.bool a2_1),(3,.func (.func 56) #[] #[]),(5,.pointer (some ⟨U,0,none⟩)),(9,.slice n g.length o),(10,i' d),(21,.slice p1 2 2),(22,i' ([a0_1.eqs,a0_1.neqs].length:Int)),(23,i' d),(28,.slice p2 x1.length ax),(29,i' (x1.length:Int)),(30,i' h)]) (fun ⟨g,n,o,f,h,M⟩=>Mem.le C M∧RowR ah' 40 M (.slice n g.length o) g f) (fun ⟨g,n,o,f,h,M⟩=>St w0 G0 M [(5,some ⟨U,.cells ((v33' a1_1 a1_1varsp a1_1varsc a1_1eqsp a1_1eqsc a1_1neqsp a1_1neqsc)).toArray 33 (0,0),0⟩),(4009,f)]) ⟨t,s,p,k,0,C⟩ hr (fc z (fc z (fc z (fc z (fc z (fc z (fc z (fc z (fc z (fc z (fc z fn))))))))))) ⟨mr,ac⟩ (wk (lc z (lc z ln))) ?_
     ·intro a6 gx hx hr
      obtain⟨g,n,o,f,h,M⟩:=gx
      obtain⟨q,R⟩:=hx
      refine sr<|yy (V' z z) z<|nx<|h'<|I' hr z (fun a3 hr=>?_) (fun a3 hr=>?_)
      ·refine n'<|b'<|h'<|A'<|sr ?_
       obtain⟨x2,az,hr⟩:=hr
       refine yy (P' q' aO' (al.mono q) z z az) z ?_
       obtain⟨aK,aE,aY,ao⟩:=bd' (E' (X' al az) q)
       refine yy (ax' _ bL' z z aY) z<|U' 13 z z68 z fun b3=>v' 13 z aO' z z z z z (List.all_eq_true.1 z)<|nr<|yy (s' 5 ag' z z z) z<|yy (bc' z) z<|yy (e' 13 sc3 z z z) z ?_
       obtain⟨bg,aD,hr⟩:=hr
       refine M' z z (t' E42 z) (da' aD) z (⟨(Y.mono (mt (mt T A) q)),(Z.mono (mt (mt T A) q)),(X.mono (mt (mt T A) q))⟩) (fun bd V E af=>?_)
       obtain⟨aR,aS,rfl,ag⟩:=af
       refine mv z z<|yy (K' z z) z<|yy (K' z z) z<|yy (K' z z) z<|U' 14 z z68 z fun b4=>v' 14 z aO' z z z z z (List.all_eq_true.1 z)<|sg z z<|sg z z<|nx<|aV' (fun (⟨I,Q⟩:Bool×Mem)=>[(2,.bool a2_1),(3,.func (.func 56) #[] #[]),(5,.pointer (some ⟨U,0,none⟩)),(9,.slice n g.length o),(10,i' d),(13,.pointer (some ⟨b3,0,none⟩)),(21,.slice p1 2 2),(22,i' ([a0_1.eqs,a0_1.neqs].length:Int)),(23,i' d),(28,.slice p2 x1.length ax),(29,i' (x1.length:Int)),(30,i' h),(60,.bool I)]) (fun ⟨I,Q⟩=>Mem.le V Q∧(ZC d g h x2 I).wp (Out a6 aa)) (fun ⟨I,Q⟩=>St w0 G0 Q [(5,some ⟨U,.cells ((v33' a1_1 a1_1varsp a1_1varsc a1_1eqsp a1_1eqsc a1_1neqsp a1_1neqsc)).toArray 33 (0,0),0⟩),(13,some ⟨b3,.cells ((v68' x2.id aK x2.p aE)).toArray 68 (0,0),0⟩),(4009,f)]) ?_ ?_
       ·skip
        refine w'<|aj' hr z (cN' (f' z) (congrArg Value.bool (bdec _))) z (fun aZ hr=>?_) (fun aZ hr=>?_)
        ·refine mv z z<|sf z z z<|sf z z z<|yy (o' z z) z<|mv z z<|sf z z z<|sf z z z<|sf z z z<|sf z z z<|yy (o' z z) z<|mv z z<|sf z z z<|sf z z z<|sf z z z<|sf z z z<|sf z z z<|sf z z z<|yy (o' z z) z<|u'<|ar' ⟨true,V⟩ ⟨mr,hr⟩ (fc z (fc z (fc z (fc z (fc z (fc z (fc z (fc z (fc z (fc z (fc z (fc z (fc z fn))))))))))))) (wk (lc z (lc z (lc z ln))))
        ·refine mv z z<|aj' hr (F' z z) (cN' (f' z) (congrArg Value.bool (bdec _))) z (fun aW hr=>?_) (fun aW hr=>?_)
         ·refine gy z z (an' z) z<|yy (l' z z) z<|mv z z<|gy z z (f' z) z<|gy z z (f' z) z<|gy z z (ak' z z) z<|aj' hr (F' z z) (ee' bK' z z) z (fun a4 hr=>?_) (fun a4 hr=>?_)
          ·refine yy (l' z z) z<|mv z z<|sf z z z<|sf z z z<|sf z z z<|sf z z z<|sf z z z<|sf z z z<|yy (o' z z) z<|u'<|ar' ⟨true,V⟩ ⟨mr,hr⟩ (fc z (fc z (fc z (fc z (fc z (fc z (fc z (fc z (fc z (fc z (fc z (fc z (fc z fn))))))))))))) (wk (lc z (lc z (lc z ln))))
          ·refine yy (l' z z) z<|mv z z<|gy z z (bq' z) z<|gy z z (e' 14 bP' z z z) z<|gy z z (bq' z) z<|gy z z (e' 13 bP' z z z) z ?_
           obtain⟨a9,aH,hr⟩:=hr
           refine H' (F' z z) z (t' E89 z) (ez' aH) z (⟨ag,(ao.mono E)⟩)<|gy z z (an' z) z<|yy (l' z z) z<|u'<|ar' ⟨!a9,V⟩ ⟨mr,hr⟩ (fc z (fc z (fc z (fc z (fc z (fc z (fc z (fc z (fc z (fc z (fc z (fc z (fc z fn))))))))))))) (wk (lc z (lc z (lc z ln))))
         ·refine gy z z (an' z) z<|yy (l' z z) z<|mv z z<|sf z z z<|sf z z z<|sf z z z<|sf z z z<|yy (o' z z) z<|mv z z<|sf z z z<|sf z z z<|sf z z z<|sf z z z<|sf z z z<|sf z z z<|yy (o' z z) z<|u'<|ar' ⟨true,V⟩ ⟨mr,hr⟩ (fc z (fc z (fc z (fc z (fc z (fc z (fc z (fc z (fc z (fc z (fc z (fc z (fc z fn))))))))))))) (wk (lc z (lc z (lc z ln))))
       ·rintro⟨I,Q⟩ ⟨J,hr⟩
        refine aM' hr z (fun a8 hr=>?_) (fun a8 hr=>?_)
        ·refine w'<|mv z z<|mv z z<|yy (s' 13 bL' z z z) z<|mv z z<|yy (ak' z z) z ?_
         obtain⟨c,aI,hr⟩:=hr
         refine M' z z (cM' E56 z z) (gk' aI) z ((ao.mono (mt E J))) (fun bc bf ad aj=>?_)
         obtain⟨m,l,rfl,ar⟩:=aj
         refine aU' (e:=40) (r:=ah') (vs:=#[(0,.agg ([i' c.kind,.string c.name,i' c.at',i' c.to',i' c.id,.slice m c.p.length l,.bool c.neq]).toArray)]) (cs:=[i' c.kind,.string c.name,i' c.at',i' c.to',i' c.id,.slice m c.p.length l,.bool c.neq]++([])) ([c]:List Zd) z z z z z (by decide) (fun _=>by kernel_rfl) ⟨[i' c.kind,.string c.name,i' c.at',i' c.to',i' c.id,.slice m c.p.length l,.bool c.neq],[],z,⟨[i' c.kind],[.string c.name,i' c.at',i' c.to',i' c.id,.slice m c.p.length l,.bool c.neq],z,z,⟨[.string c.name],[i' c.at',i' c.to',i' c.id,.slice m c.p.length l,.bool c.neq],z,z,⟨[i' c.at'],[i' c.to',i' c.id,.slice m c.p.length l,.bool c.neq],z,z,⟨[i' c.to'],[i' c.id,.slice m c.p.length l,.bool c.neq],z,z,⟨[i' c.id],[.slice m c.p.length l,.bool c.neq],z,z,⟨[.slice m c.p.length l],[.bool c.neq],z,⟨_,z,ar⟩,z⟩⟩⟩⟩⟩⟩,z⟩ (key:=999) z (by rw[an]; rfl) (fun p3 a2 ae aV=>?_)
         obtain⟨aG,hr⟩:=hr
         refine bW' (r:=ah') (e:=40) 4009 z z ao' el40 z (by decide) z z (R.mono (mt (mt (mt E J) ad) ae)) z aV aG fun p4 aT aO aX=>sg z z<|u'<|D'<|b'<|w'<|yy (N' z z) z<|mv z z<|u'<|O' ⟨(g++[c]),p4,aT,aO,IntKind.i64.wrap (h+1),a2⟩ hr ⟨(mt (mt (mt (mt q E) J) ad) ae),aX⟩ (fc z (fc z (fc z (fc z (fc z (fc z (fc z (fc z (fc z (fc z (fc z fn))))))))))) (wk (lc z (lc z ln)))
        ·refine n'<|D'<|b'<|w'<|yy (N' z z) z<|mv z z<|u'<|O' ⟨g,n,o,f,IntKind.i64.wrap (h+1),Q⟩ hr ⟨(mt (mt q E) J),(R.mono (mt E J))⟩ (fc z (fc z (fc z (fc z (fc z (fc z (fc z (fc z (fc z (fc z (fc z fn))))))))))) (wk (lc z (lc z ln)))
      ·refine ae'<|m'<|m'<|J'<|af' ⟨g,n,o,f,M⟩ ⟨q,R,hr⟩ (fc z (fc z (fc z (fc z (fc z (fc z (fc z fn))))))) (wk (lc z (lc z ln)))
    ·rintro⟨u,D,F,x,O⟩ ⟨aw,ap,hr⟩
     refine D'<|b'<|w'<|yy (N' z z) z<|mv z z<|u'<|O' ⟨u,D,F,x,IntKind.i64.wrap (d+1),O⟩ hr ⟨(mt A aw),ap⟩ (fc z (fc z (fc z (fc z (fc z (fc z (fc z fn))))))) (wk (lc z (lc z ln)))
   ·refine ae'<|m'<|m'<|J'<|af' ⟨t,s,p,k,C⟩ ⟨A,ac,hr⟩ (fc z fn) (wk (lc z ln))
 ·rintro⟨B,K,H,y,P⟩ ⟨bb,av,hr⟩
  refine b'<|sr<|mv z z<|sg z z<|nx<|j' ?_
  obtain rfl:_=r:=hr
  refine aE' (S':=St w0 G0 P [(7000,y)]) ?_ ?_
  ·intro w hs
   have hs:=hs.rekey (i:=4009) (j:=7000) z (by rw[an]; rfl)
   exact hs.weaken (lc z ln)
  exact k' z z ⟨_,_,_,z,z,av⟩
theorem dL'{a1 b1 a1varsp a1varsc a1eqsp a1eqsc a1neqsp a1neqsc b1varsp b1varsc b1eqsp b1eqsc b1neqsp b1neqsc r}(hr:(ZgR a1 b1).Ret r):Ctr Tryz.prog 29 #[.agg ((v33' a1 a1varsp a1varsc a1eqsp a1eqsc a1neqsp a1neqsc)).toArray,.agg ((v33' b1 b1varsp b1varsc b1eqsp b1eqsc b1neqsp b1neqsc)).toArray] (fun G=>sl Rp.str G a1varsp a1varsc a1.vars∧sl a' G a1eqsp a1eqsc a1.eqs∧sl a' G a1neqsp a1neqsc a1.neqs∧sl Rp.str G b1varsp b1varsc b1.vars∧sl a' G b1eqsp b1eqsc b1.eqs∧sl a' G b1neqsp b1neqsc b1.neqs) (fun G v=>∃ aq ax,v = .tuple #[.slice aq r.1.length ax,i' r.2]∧sl ah' G aq ax r.1):=by
 refine C' (args:=[_,_]) (N:=64) Tryz.func29 z z z (fun w0 G0 l aW=>?_)
 obtain⟨h,M,t,f,J,u⟩:=aW
 have hz:w0.L.zero:=by rw[l]; intro p hp; simp at hp
 refine sr<|W' 2 z z z fun C=>W' 3 z z z fun D=>sg z z<|sg z z<|nx<|aV' (fun (gx:Mem)=>match gx with|ag=>[(2,.pointer (some ⟨C,0,none⟩)),(3,.pointer (some ⟨D,0,none⟩))]) (fun (gx:Mem)=>match gx with|ag=>Mem.le G0 ag∧(ZgW a1 b1).Ret r) (fun (gx:Mem)=>match gx with|ag=>St w0 G0 ag [(2,some ⟨C,.cells ((v33' a1 a1varsp a1varsc a1eqsp a1eqsc a1neqsp a1neqsc)).toArray 33 (0,0),0⟩),(3,some ⟨D,.cells ((v33' b1 b1varsp b1varsc b1eqsp b1eqsc b1neqsp b1neqsc)).toArray 33 (0,0),0⟩)]) ?_ ?_
 ·skip
  refine sr<|yy (s' 2 ag' z z z) z ?_
  obtain⟨a6,aO,hr⟩:=hr
  refine H' z z (t' E52 z) (eg' aO) z (⟨h,M,t⟩) ?_
  cases a6
  ·skip
   refine yy (an' z) z<|mv z z<|sf z z z<|sf z z z<|sf z z z<|yy (o' z z) z<|nx<|at' z<|sr<|sg z z<|sg z z<|nx<|j' ?_
   replace hr:_=r:=hr
   refine g' ?_
   subst hr
   refine dD' (r:=ah') (e:=40) 4004 (ed' (r:=ah') (e:=40)) z (by rw[l]; rfl) fun bJ bC bn aR bj=>aI' z z z ⟨_,_,z,aR⟩
  ·skip
   refine yy (an' z) z<|mv z z<|gy z z (s' 3 ag' z z z) z ?_
   obtain⟨bE,aL,hr⟩:=hr
   refine H' (F' z z) z (t' E52 z) (eg' aL) z (⟨f,J,u⟩)<|gy z z (an' z) z<|yy (l' z z) z<|nx<|aM' hr z (fun a8 hr=>?_) (fun a8 hr=>?_)
   ·refine sr<|sg z z<|sg z z<|nx<|j' ?_
    replace hr:_=r:=hr
    refine g' ?_
    subst hr
    refine dD' (r:=ah') (e:=40) 4004 (ed' (r:=ah') (e:=40)) z (by rw[l]; rfl) fun bA bv aY aJ bl=>aI' z z z ⟨_,_,z,aJ⟩
   ·refine n'<|ar' G0 ⟨mr,hr⟩ (fc z (fc z fn)) (wk (lc z (lc z ln)))
 ·rintro ag ⟨c,hr⟩
  refine sr<|yy (as' z) z<|yy (e' 2 bo' z z z) z<|yy (as' z) z<|yy (e' 3 bo' z z z) z ?_
  obtain⟨n,aF,hr⟩:=hr
  refine H' z z (t' E53 z) (ei' aF) z (⟨(h.mono c),(f.mono c)⟩)<|yy (an' z) z<|sg z z<|nr<|yy (s' 2 ag' z z z) z<|yy (s' 3 ag' z z z) z<|mv z z ?_
  obtain⟨aE,aQ,hr⟩:=hr
  refine cj' z z (t' E54 z) (eq' aQ) z (⟨(h.mono c),(M.mono c),(t.mono c),(f.mono c),(J.mono c),(u.mono c)⟩) ln hz (fun bq ae bw g ao=>?_)
  obtain⟨ap,au,ak,rfl,rfl,ar⟩:=ao
  refine bu' (fun w P=>P.rekey (i:=7000) (j:=4028) z (by rw[l]; rfl))<|sg z z<|nx<|aV' (fun (⟨l1,ac,ad,O,W⟩:(List Zd)×Option Addr×Nat×Option Ow×Mem)=>[(2,.pointer (some ⟨C,0,none⟩)),(3,.pointer (some ⟨D,0,none⟩)),(6,.bool (!n)),(7,.slice ac l1.length ad)]) (fun ⟨l1,ac,ad,O,W⟩=>Mem.le ae W∧RowR ah' 40 W (.slice ac l1.length ad) l1 O∧(Zes a1 b1 n l1).Ret r) (fun ⟨l1,ac,ad,O,W⟩=>St w0 G0 W [(2,some ⟨C,.cells ((v33' a1 a1varsp a1varsc a1eqsp a1eqsc a1neqsp a1neqsc)).toArray 33 (0,0),0⟩),(3,some ⟨D,.cells ((v33' b1 b1varsp b1varsc b1eqsp b1eqsc b1neqsp b1neqsc)).toArray 33 (0,0),0⟩),(4007,O)]) ?_ ?_
  ·skip
   refine sr<|mv z z<|nx<|aM' hr z (fun a9 hr=>?_) (fun a9 hr=>?_)
   ·refine h'<|sr<|yy (as' z) z<|yy (e' 2 bo' z z z) z<|yy (L' y' (h.mono (mt c g)) z) z<|yy (bf' z z) z<|sg z z<|nx<|ab' (fun (⟨R,Y,V,y,s⟩:(List Zd)×Option Addr×Nat×Option Ow×Mem)=>[(2,.pointer (some ⟨C,0,none⟩)),(3,.pointer (some ⟨D,0,none⟩)),(6,.bool (!n)),(7,.slice Y R.length V)]) (fun ⟨R,Y,V,y,s⟩=>Mem.le ae s∧RowR ah' 40 s (.slice Y R.length V) R y∧(Zeu a1 b1 n R).Ret r) (fun ⟨R,Y,V,y,s⟩=>St w0 G0 s [(2,some ⟨C,.cells ((v33' a1 a1varsp a1varsc a1eqsp a1eqsc a1neqsp a1neqsc)).toArray 33 (0,0),0⟩),(3,some ⟨D,.cells ((v33' b1 b1varsp b1varsc b1eqsp b1eqsc b1neqsp b1neqsc)).toArray 33 (0,0),0⟩),(4007,y)]) ?_ ?_
    ·refine A' ?_
     let aw:(List Zd)→Prop:=fun oo=>((fun ov=>match ov with|R=>Zeu a1 b1 n R:(List Zd)→Comp ((List Zd)×Int)) oo).wp (fun a=>a=r)
     replace hr:(Comp.loop _ _).wp aw:=hr
     refine ac' (Φ:=aw) (fun (⟨T,K,H,q,k,A⟩:(List Zd)×Option Addr×Nat×Option Ow×Int×Mem)=>((T,k):(List Zd)×Int)) (fun ⟨T,K,H,q,k,A⟩=>[(2,.pointer (some ⟨C,0,none⟩)),(3,.pointer (some ⟨D,0,none⟩)),(6,.bool (!n)),(7,.slice K T.length H),(8,i' k)]) (fun ⟨T,K,H,q,k,A⟩=>Mem.le ae A∧RowR ah' 40 A (.slice K T.length H) T q) (fun ⟨T,K,H,q,k,A⟩=>St w0 G0 A [(2,some ⟨C,.cells ((v33' a1 a1varsp a1varsc a1eqsp a1eqsc a1neqsp a1neqsc)).toArray 33 (0,0),0⟩),(3,some ⟨D,.cells ((v33' b1 b1varsp b1varsc b1eqsp b1eqsc b1neqsp b1neqsc)).toArray 33 (0,0),0⟩),(4007,q)]) ⟨aE,ap,au,ak,IntKind.i64.wrap ((a1.vars.length:Int)-1),ae⟩ hr (fc z (fc z (fc z (fc z (fc z fn))))) ⟨mr,ar⟩ ?_ ?_
     ·intro w P
      have P:=P.rekey (i:=4028) (j:=4007) z (by rw[l]; rfl)
      exact P.weaken (lc z (lc z (lc z ln)))
     ·intro bI gx hx hr
      obtain⟨T,K,H,q,k,A⟩:=gx
      obtain⟨aj,aB⟩:=hx
      refine h'<|sr<|mv z z<|yy (be' z z) z<|nx<|I' hr z (fun bd hr=>?_) (fun bd hr=>?_)
      ·refine n'<|b'<|h'<|A'<|w'<|mv z z<|mv z z<|yy (aq' (vs:=#[(0,i' 2),(2,i' k)]) (v:=.agg ([i' 2,.string ByteArray.empty,i' k,i' 0,i' 0,.slice none 0 0,.bool false]).toArray) z z (fun _=>by kernel_rfl)) z<|aU' (e:=40) (r:=ah') (vs:=#[(0,.agg ([i' 2,.string ByteArray.empty,i' k,i' 0,i' 0,.slice none 0 0,.bool false]).toArray)]) (cs:=[i' 2,.string ByteArray.empty,i' k,i' 0,i' 0,.slice none 0 0,.bool false]++([])) ([(Zd.mk 2 ByteArray.empty k 0 0 [] false)]:List Zd) z z z z z (by decide) (fun _=>by kernel_rfl) ⟨[i' 2,.string ByteArray.empty,i' k,i' 0,i' 0,.slice none 0 0,.bool false],[],z,⟨[i' 2],[.string ByteArray.empty,i' k,i' 0,i' 0,.slice none 0 0,.bool false],z,z,⟨[.string ByteArray.empty],[i' k,i' 0,i' 0,.slice none 0 0,.bool false],z,z,⟨[i' k],[i' 0,i' 0,.slice none 0 0,.bool false],z,z,⟨[i' 0],[i' 0,.slice none 0 0,.bool false],z,z,⟨[i' 0],[.slice none 0 0,.bool false],z,z,⟨[.slice none 0 0],[.bool false],z,⟨_,z,(aa' _ _)⟩,z⟩⟩⟩⟩⟩⟩,z⟩ (key:=999) z (by rw[l]; rfl) (fun p4 bg am a0=>?_)
       obtain⟨aG,hr⟩:=hr
       refine bW' (r:=ah') (e:=40) 4007 z z ao' el40 z (by decide) z z (aB.mono am) z a0 aG fun p5 bb aV be=>sg z z<|u'<|D'<|b'<|w'<|mv z z<|yy (bf' z z) z<|sg z z<|u'<|O' ⟨(T++[(Zd.mk 2 ByteArray.empty k 0 0 [] false)]),p5,bb,aV,IntKind.i64.wrap (k-1),bg⟩ hr ⟨(mt aj am),be⟩ (fc z (fc z (fc z (fc z (fc z fn))))) (wk (lc z (lc z (lc z ln))))
      ·refine ae'<|m'<|m'<|J'<|af' ⟨T,K,H,q,A⟩ ⟨aj,aB,hr⟩ (fc z (fc z (fc z (fc z fn)))) (wk (lc z (lc z (lc z ln))))
    ·rintro⟨R,Y,V,y,s⟩ ⟨E,a5,hr⟩
     refine b'<|sr<|yy (as' z) z<|yy (e' 3 bo' z z z) z<|yy (L' y' (f.mono (mt (mt c g) E)) z) z<|mv z z<|nx<|ab' (fun (⟨S,X,Z,x,I⟩:(List Zd)×Option Addr×Nat×Option Ow×Mem)=>[(2,.pointer (some ⟨C,0,none⟩)),(3,.pointer (some ⟨D,0,none⟩)),(6,.bool (!n)),(7,.slice X S.length Z)]) (fun ⟨S,X,Z,x,I⟩=>Mem.le s I∧RowR ah' 40 I (.slice X S.length Z) S x∧(Zet a1 b1 n S).Ret r) (fun ⟨S,X,Z,x,I⟩=>St w0 G0 I [(2,some ⟨C,.cells ((v33' a1 a1varsp a1varsc a1eqsp a1eqsc a1neqsp a1neqsc)).toArray 33 (0,0),0⟩),(3,some ⟨D,.cells ((v33' b1 b1varsp b1varsc b1eqsp b1eqsc b1neqsp b1neqsc)).toArray 33 (0,0),0⟩),(4007,x)]) ?_ ?_
     ·refine A' ?_
      let av:(List Zd)→Prop:=fun oo=>((fun ov=>match ov with|S=>Zet a1 b1 n S:(List Zd)→Comp ((List Zd)×Int)) oo).wp (fun a=>a=r)
      replace hr:(Comp.loop _ _).wp av:=hr
      refine ac' (Φ:=av) (fun (⟨U,Q,L,o,d,B⟩:(List Zd)×Option Addr×Nat×Option Ow×Int×Mem)=>((U,d):(List Zd)×Int)) (fun ⟨U,Q,L,o,d,B⟩=>[(2,.pointer (some ⟨C,0,none⟩)),(3,.pointer (some ⟨D,0,none⟩)),(6,.bool (!n)),(7,.slice Q U.length L),(44,.slice b1varsp b1.vars.length b1varsc),(45,i' (b1.vars.length:Int)),(46,i' d)]) (fun ⟨U,Q,L,o,d,B⟩=>Mem.le s B∧RowR ah' 40 B (.slice Q U.length L) U o) (fun ⟨U,Q,L,o,d,B⟩=>St w0 G0 B [(2,some ⟨C,.cells ((v33' a1 a1varsp a1varsc a1eqsp a1eqsc a1neqsp a1neqsc)).toArray 33 (0,0),0⟩),(3,some ⟨D,.cells ((v33' b1 b1varsp b1varsc b1eqsp b1eqsc b1neqsp b1neqsc)).toArray 33 (0,0),0⟩),(4007,o)]) ⟨R,Y,V,y,0,s⟩ hr (fc z (fc z (fc z (fc z (fc z (fc z (fc z fn))))))) ⟨mr,a5⟩ (wk (lc z (lc z (lc z ln)))) ?_
      ·intro bL gx hx hr
       obtain⟨U,Q,L,o,d,B⟩:=gx
       obtain⟨F,aC⟩:=hx
       refine sr<|yy (V' z z) z<|nx<|h'<|I' hr z (fun ba hr=>?_) (fun ba hr=>?_)
       ·refine n'<|b'<|h'<|A'<|sr<|mv z z ?_
        obtain⟨x1,aD,hr⟩:=hr
        refine yy (P' y' sz9 (f.mono (mt (mt (mt c g) E) F)) z z aD) z<|yy (T' sc9 z (bB' (E' (X' f aD) (mt (mt (mt c g) E) F)))) z<|sg z z<|sg z z<|nx<|w'<|mv z z<|mv z z<|mv z z<|yy (aq' (vs:=#[(0,i' 1),(2,i' d),(1,.string x1)]) (v:=.agg ([i' 1,.string x1,i' d,i' 0,i' 0,.slice none 0 0,.bool false]).toArray) z z (fun _=>by kernel_rfl)) z<|aU' (e:=40) (r:=ah') (vs:=#[(0,.agg ([i' 1,.string x1,i' d,i' 0,i' 0,.slice none 0 0,.bool false]).toArray)]) (cs:=[i' 1,.string x1,i' d,i' 0,i' 0,.slice none 0 0,.bool false]++([])) ([(Zd.mk 1 x1 d 0 0 [] false)]:List Zd) z z z z z (by decide) (fun _=>by kernel_rfl) ⟨[i' 1,.string x1,i' d,i' 0,i' 0,.slice none 0 0,.bool false],[],z,⟨[i' 1],[.string x1,i' d,i' 0,i' 0,.slice none 0 0,.bool false],z,z,⟨[.string x1],[i' d,i' 0,i' 0,.slice none 0 0,.bool false],z,z,⟨[i' d],[i' 0,i' 0,.slice none 0 0,.bool false],z,z,⟨[i' 0],[i' 0,.slice none 0 0,.bool false],z,z,⟨[i' 0],[.slice none 0 0,.bool false],z,z,⟨[.slice none 0 0],[.bool false],z,⟨_,z,(aa' _ _)⟩,z⟩⟩⟩⟩⟩⟩,z⟩ (key:=999) z (by rw[l]; rfl) (fun p2 a4 al a7=>?_)
        obtain⟨aH,hr⟩:=hr
        refine bW' (r:=ah') (e:=40) 4007 z z ao' el40 z (by decide) z z (aC.mono al) z a7 aH fun p3 a2 aT aZ=>sg z z<|u'<|D'<|b'<|w'<|yy (N' z z) z<|mv z z<|u'<|O' ⟨(U++[(Zd.mk 1 x1 d 0 0 [] false)]),p3,a2,aT,IntKind.i64.wrap (d+1),a4⟩ hr ⟨(mt F al),aZ⟩ (fc z (fc z (fc z (fc z (fc z (fc z (fc z fn))))))) (wk (lc z (lc z (lc z ln))))
       ·refine ae'<|m'<|m'<|J'<|af' ⟨U,Q,L,o,B⟩ ⟨F,aC,hr⟩ (fc z (fc z (fc z (fc z fn)))) (wk (lc z (lc z (lc z ln))))
     ·rintro⟨S,X,Z,x,I⟩ ⟨ay,a3,hr⟩
      exact ar' ⟨S,X,Z,x,I⟩ ⟨(mt E ay),a3,hr⟩ (fc z (fc z (fc z (fc z fn)))) (wk (lc z (lc z (lc z ln))))
   ·refine n'<|ar' ⟨aE,ap,au,ak,ae⟩ ⟨mr,ar,hr⟩ (fc z (fc z (fc z (fc z fn)))) ?_
    ·intro w P
     have P:=P.rekey (i:=4028) (j:=4007) z (by rw[l]; rfl)
     exact P.weaken (lc z (lc z (lc z ln)))
  ·rintro⟨l1,ac,ad,O,W⟩ ⟨m,bf,hr⟩
   refine sr<|mv z z<|yy (s' 3 ag' z z z) z<|yy (s' 2 ag' z z z) z<|mv z z ?_
   obtain⟨bM,aP,hr⟩:=hr
   refine cj' z z (t' E54 z) (er' aP) z (⟨(f.mono (mt (mt c g) m)),(J.mono (mt (mt c g) m)),(u.mono (mt (mt c g) m)),(h.mono (mt (mt c g) m)),(M.mono (mt (mt c g) m)),(t.mono (mt (mt c g) m))⟩) ln hz (fun bz bH bt az an=>?_)
   obtain⟨bs,bo,bk,rfl,rfl,aU⟩:=an
   refine bu' (fun w P=>P.rekey (i:=7000) (j:=4062) z (by rw[l]; rfl))<|bv' (r:=ah') (e:=40) 4062 aU z (by rw[l]; rfl) (fun bD bG aA aN bi=>?_)
   obtain⟨aM,hr⟩:=hr
   refine bW' (r:=ah') (e:=40) 4007 z z ao' el40 z (by decide) z z (bf.mono (mt az aA)) z aN aM fun p1 bF bx bc=>sg z z<|sg z z<|nx<|j' ?_
   obtain rfl:_=r:=hr
   refine dD' (r:=ah') (e:=40) 4007 bc z (by rw[l]; rfl) fun bB bK bm aK bh=>aI' z z z ⟨_,_,z,aK⟩
theorem eP'{a1 b1 a1pp a1pc b1pp b1pc r}(hr:(Zcy a1 b1).Ret r):Ctr Tryz.prog 19 #[.agg ([i' a1.kind,.string a1.name,i' a1.at',i' a1.to',i' a1.id,.slice a1pp a1.p.length a1pc,.bool a1.neq]).toArray,.agg ([i' b1.kind,.string b1.name,i' b1.at',i' b1.to',i' b1.id,.slice b1pp b1.p.length b1pc,.bool b1.neq]).toArray] (fun G=>sl r' G a1pp a1pc a1.p∧sl r' G b1pp b1pc b1.p) (fun G v=>v = .bool r):=by
 refine C' (args:=[_,_]) (N:=52) Tryz.func19 z z z (fun o s n c=>?_)
 obtain⟨e,f⟩:=c
 refine sr<|W' 2 z z z fun p=>W' 3 z z z fun q=>sg z z<|nr<|yy (bM' z) z<|yy (e' 2 sc3 z z z) z<|yy (bM' z) z<|yy (e' 3 sc3 z z z) z<|aj' hr z (ak' z z) z (fun h hr=>?_) (fun h hr=>?_)
 ·refine mv z z<|gy z z (bV' z) z<|gy z z (e' 2 sc9 z z z) z<|gy z z (bV' z) z<|gy z z (e' 3 sc9 z z z) z<|aj' hr (F' z z) (Y0.eqlS aR' z z) z (fun g hr=>?_) (fun g hr=>?_)
  ·refine yy (o' z z) z<|mv z z<|gy z z (aB' z) z<|gy z z (e' 2 sc3 z z z) z<|gy z z (aB' z) z<|gy z z (e' 3 sc3 z z z) z<|aj' hr (F' z z) (ak' z z) z (fun k hr=>?_) (fun k hr=>?_)
   ·refine yy (o' z z) z<|mv z z<|gy z z (cr' z) z<|gy z z (e' 2 sc3 z z z) z<|gy z z (cr' z) z<|gy z z (e' 3 sc3 z z z) z<|aj' hr (F' z z) (ak' z z) z (fun j hr=>?_) (fun j hr=>?_)
    ·refine yy (o' z z) z<|mv z z<|gy z z (aL' z) z<|gy z z (e' 2 sc3 z z z) z<|gy z z (aL' z) z<|gy z z (e' 3 sc3 z z z) z<|aj' hr (F' z z) (ak' z z) z (fun l hr=>?_) (fun l hr=>?_)
     ·refine yy (o' z z) z<|mv z z<|gy z z (dc' z) z<|gy z z (e' 2 sc4 z z z) z<|gy z z (dc' z) z<|gy z z (e' 3 sc4 z z z) z<|aj' hr (F' z z) (Y0.eqlB bK' z z) z (fun i hr=>?_) (fun i hr=>?_)
      ·refine yy (o' z z) z<|mv z z<|gy z z (cI' z) z<|gy z z (e' 2 bP' z z z) z<|gy z z (cI' z) z<|gy z z (e' 3 bP' z z z) z ?_
       obtain⟨m,d,hr⟩:=hr
       refine H' (F' z z) z (t' E28 z) (dZ' d) z (⟨e,f⟩)<|yy (o' z z) z<|sg z z<|nx<|j' ?_
       obtain rfl:_=r:=hr
       exact k' z z z
      ·refine yy (o' z z) z<|mv z z<|sk z z z<|sk z z z<|sk z z z<|sk z z z<|sk z z z<|yy (l' z z) z<|sg z z<|nx<|j' ?_
       obtain rfl:_=r:=hr
       exact k' z z z
     ·refine yy (o' z z) z<|mv z z<|sk z z z<|sk z z z<|sk z z z<|sk z z z<|sk z z z<|yy (l' z z) z<|mv z z<|sk z z z<|sk z z z<|sk z z z<|sk z z z<|sk z z z<|yy (l' z z) z<|sg z z<|nx<|j' ?_
      obtain rfl:_=r:=hr
      exact k' z z z
    ·refine yy (o' z z) z<|mv z z<|sk z z z<|sk z z z<|sk z z z<|sk z z z<|sk z z z<|yy (l' z z) z<|mv z z<|sk z z z<|sk z z z<|sk z z z<|sk z z z<|sk z z z<|yy (l' z z) z<|mv z z<|sk z z z<|sk z z z<|sk z z z<|sk z z z<|sk z z z<|yy (l' z z) z<|sg z z<|nx<|j' ?_
     obtain rfl:_=r:=hr
     exact k' z z z
   ·refine yy (o' z z) z<|mv z z<|sk z z z<|sk z z z<|sk z z z<|sk z z z<|sk z z z<|yy (l' z z) z<|mv z z<|sk z z z<|sk z z z<|sk z z z<|sk z z z<|sk z z z<|yy (l' z z) z<|mv z z<|sk z z z<|sk z z z<|sk z z z<|sk z z z<|sk z z z<|yy (l' z z) z<|mv z z<|sk z z z<|sk z z z<|sk z z z<|sk z z z<|sk z z z<|yy (l' z z) z<|sg z z<|nx<|j' ?_
    obtain rfl:_=r:=hr
    exact k' z z z
  ·refine yy (o' z z) z<|mv z z<|sk z z z<|sk z z z<|sk z z z<|sk z z z<|sk z z z<|yy (l' z z) z<|mv z z<|sk z z z<|sk z z z<|sk z z z<|sk z z z<|sk z z z<|yy (l' z z) z<|mv z z<|sk z z z<|sk z z z<|sk z z z<|sk z z z<|sk z z z<|yy (l' z z) z<|mv z z<|sk z z z<|sk z z z<|sk z z z<|sk z z z<|sk z z z<|yy (l' z z) z<|mv z z<|sk z z z<|sk z z z<|sk z z z<|sk z z z<|sk z z z<|yy (l' z z) z<|sg z z<|nx<|j' ?_
   obtain rfl:_=r:=hr
   exact k' z z z
 ·refine mv z z<|sk z z z<|sk z z z<|sk z z z<|sk z z z<|sk z z z<|yy (l' z z) z<|mv z z<|sk z z z<|sk z z z<|sk z z z<|sk z z z<|sk z z z<|yy (l' z z) z<|mv z z<|sk z z z<|sk z z z<|sk z z z<|sk z z z<|sk z z z<|yy (l' z z) z<|mv z z<|sk z z z<|sk z z z<|sk z z z<|sk z z z<|sk z z z<|yy (l' z z) z<|mv z z<|sk z z z<|sk z z z<|sk z z z<|sk z z z<|sk z z z<|yy (l' z z) z<|mv z z<|sk z z z<|sk z z z<|sk z z z<|sk z z z<|sk z z z<|yy (l' z z) z<|sg z z<|nx<|j' ?_
  obtain rfl:_=r:=hr
  exact k' z z z
theorem cB'{r}(hr:(ZeA).Ret r):Ctr Tryz.prog 10 #[] (fun G=>True) (fun G v=>v = .bool r):=by
 refine C' (args:=[]) (N:=124) Tryz.func10 z z z fun w0 G0 a1 bs=>sr<|sg z z<|nr<|yy (aq' (vs:=#[(3,i' 1)]) (v:=.agg ([.slice none 0 0,.slice none 0 0,.slice none 0 0,i' 1]).toArray) z z (fun _=>by kernel_rfl)) z<|U' 1 z z33 z fun b1=>v' 1 z aY' z z z z z (List.all_eq_true.1 z)<|nr ?_
 obtain⟨bH,au,hr⟩:=hr
 refine M' z z (t' E32 z) (gO' au) z (trivial) (fun bj bD a3 x=>?_)
 obtain⟨bt,bp,rfl,ay⟩:=x
 obtain⟨bL,aA,hr⟩:=hr
 refine M' z z (t' E32 z) (gO' aA) z (trivial) (fun ba bA ac J=>?_)
 obtain⟨bc,bi,rfl,aC⟩:=J
 obtain⟨bK,az,hr⟩:=hr
 refine M' z z (t' E31 z) (hf' az) z (⟨(ay.mono ac),aC⟩) (fun bu bG a4 F=>?_)
 obtain⟨bg,a7,rfl,aG⟩:=F
 obtain⟨bC,ax,hr⟩:=hr
 refine M' z z (t' E33 z) (gY' ax) z (trivial) (fun be bE ag A=>?_)
 obtain⟨bd,bm,rfl,aB⟩:=A
 obtain⟨n,aw,hr⟩:=hr
 refine M' z z (t' E30 z) (gZ' aw) z (⟨(aG.mono ag),aB⟩) (fun bk bI a5 B=>?_)
 obtain⟨j,i,rfl,O⟩:=B
 refine sg z z<|nr<|yy (aq' (vs:=#[(0,i' 1),(1,.string Zn)]) (v:=.agg ([i' 1,.string Zn,i' 0,i' 0,i' 0,.slice none 0 0,.bool false]).toArray) z z (fun _=>by kernel_rfl)) z<|mv z z<|yy (aq' (vs:=#[(0,i' 5),(5,.slice j n.length i)]) (v:=.agg ([i' 5,.string ByteArray.empty,i' 0,i' 0,i' 0,.slice j n.length i,.bool false]).toArray) z z (fun _=>by kernel_rfl)) z<|aU' (e:=40) (r:=ah') (vs:=#[(0,.agg ([i' 1,.string Zn,i' 0,i' 0,i' 0,.slice none 0 0,.bool false]).toArray),(1,.agg ([i' 5,.string ByteArray.empty,i' 0,i' 0,i' 0,.slice j n.length i,.bool false]).toArray)]) (cs:=[i' 1,.string Zn,i' 0,i' 0,i' 0,.slice none 0 0,.bool false]++([i' 5,.string ByteArray.empty,i' 0,i' 0,i' 0,.slice j n.length i,.bool false]++([]))) ([(Zd.mk 1 Zn 0 0 0 [] false),(Zd.mk 5 ByteArray.empty 0 0 0 n false)]:List Zd) z z z z z (by decide) (fun _=>by kernel_rfl) ⟨[i' 1,.string Zn,i' 0,i' 0,i' 0,.slice none 0 0,.bool false],[i' 5,.string ByteArray.empty,i' 0,i' 0,i' 0,.slice j n.length i,.bool false]++([]),z,⟨[i' 1],[.string Zn,i' 0,i' 0,i' 0,.slice none 0 0,.bool false],z,z,⟨[.string Zn],[i' 0,i' 0,i' 0,.slice none 0 0,.bool false],z,z,⟨[i' 0],[i' 0,i' 0,.slice none 0 0,.bool false],z,z,⟨[i' 0],[i' 0,.slice none 0 0,.bool false],z,z,⟨[i' 0],[.slice none 0 0,.bool false],z,z,⟨[.slice none 0 0],[.bool false],z,⟨_,z,(aa' _ _)⟩,z⟩⟩⟩⟩⟩⟩,⟨[i' 5,.string ByteArray.empty,i' 0,i' 0,i' 0,.slice j n.length i,.bool false],[],z,⟨[i' 5],[.string ByteArray.empty,i' 0,i' 0,i' 0,.slice j n.length i,.bool false],z,z,⟨[.string ByteArray.empty],[i' 0,i' 0,i' 0,.slice j n.length i,.bool false],z,z,⟨[i' 0],[i' 0,i' 0,.slice j n.length i,.bool false],z,z,⟨[i' 0],[i' 0,.slice j n.length i,.bool false],z,z,⟨[i' 0],[.slice j n.length i,.bool false],z,z,⟨[.slice j n.length i],[.bool false],z,⟨_,z,O⟩,z⟩⟩⟩⟩⟩⟩,z⟩⟩ (key:=999) z (by rw[a1]; rfl) fun p1 bB Z aY=>sg z z<|nr<|yy (s' 1 ag' z z z) z<|mv z z ?_
 obtain⟨k,aH,hr⟩:=hr
 refine M' z z (t' E20 z) (cW' aH) z (⟨(aa' Rp.str _),(aa' a' _),(aa' a' _),aY⟩) (fun a9 aq af D=>?_)
 obtain⟨f,h,l,m,d,g,rfl,o,c,q⟩:=D
 refine U' 4 z z50 z fun b2=>v' 4 z sz50 z z z z z (List.all_eq_true.1 z)<|nx<|aV' (fun (M:Mem)=>match M with|t=>[(1,.pointer (some ⟨b1,0,none⟩)),(4,.pointer (some ⟨b2,0,none⟩))]) (fun (M:Mem)=>match M with|t=>Mem.le aq t∧(ZeY k).Ret r) (fun (M:Mem)=>match M with|t=>St w0 G0 t [(1,some ⟨b1,.cells ([.slice none 0 0,.slice none 0 0,.slice none 0 0,i' 1]).toArray 33 (0,0),0⟩),(4,some ⟨b2,.cells ([.slice f k.s.vars.length h,.slice l k.s.eqs.length m,.slice d k.s.neqs.length g,i' k.s.next,i' k.n,i' k.e]).toArray 50 (0,0),0⟩)]) ?_ ?_
 ·skip
  refine sr<|yy (dl' z) z<|yy (e' 4 sc42 z z z) z<|aj' hr z (aQ' z z) z (fun aO hr=>?_) (fun aO hr=>?_)
  ·refine mv z z<|sf z z z<|sf z z z<|sf z z z<|yy (o' z z) z<|mv z z<|sf z z z<|sf z z z<|sf z z z<|sf z z z<|sf z z z<|yy (o' z z) z<|mv z z<|sf z z z<|sf z z z<|sf z z z<|sf z z z<|sf z z z<|yy (o' z z) z<|mv z z<|sf z z z<|sf z z z<|sf z z z<|sf z z z<|sf z z z<|sf z z z<|sf z z z<|yy (o' z z) z<|mv z z<|sf z z z<|sf z z z<|sf z z z<|sf z z z<|yy (o' z z) z<|mv z z<|sf z z z<|sf z z z<|sf z z z<|sf z z z<|sf z z z<|sf z z z<|sf z z z<|sf z z z<|sf z z z<|yy (o' z z) z<|nx<|at' z<|sr<|sg z z<|nx<|j' ?_
   replace hr:_=r:=hr
   refine g' ?_
   subst hr
   exact k' z z z
  ·refine mv z z<|gy z z (es' z) z<|gy z z (e' 4 sc3 z z z) z<|aj' hr (F' z z) (aQ' z z) z (fun aV hr=>?_) (fun aV hr=>?_)
   ·refine yy (l' z z) z<|mv z z<|sf z z z<|sf z z z<|sf z z z<|sf z z z<|sf z z z<|yy (o' z z) z<|mv z z<|sf z z z<|sf z z z<|sf z z z<|sf z z z<|sf z z z<|yy (o' z z) z<|mv z z<|sf z z z<|sf z z z<|sf z z z<|sf z z z<|sf z z z<|sf z z z<|sf z z z<|yy (o' z z) z<|mv z z<|sf z z z<|sf z z z<|sf z z z<|sf z z z<|yy (o' z z) z<|mv z z<|sf z z z<|sf z z z<|sf z z z<|sf z z z<|sf z z z<|sf z z z<|sf z z z<|sf z z z<|sf z z z<|yy (o' z z) z<|nx<|at' z<|sr<|sg z z<|nx<|j' ?_
    replace hr:_=r:=hr
    refine g' ?_
    subst hr
    exact k' z z z
   ·refine yy (l' z z) z<|mv z z<|gy z z (co' z) z<|gy z z (as' z) z<|gy z z (e' 4 bo' z z z) z<|gy z z (L' y' o z) z<|aj' hr (F' z z) (aQ' z z) z (fun aQ hr=>?_) (fun aQ hr=>?_)
    ·refine yy (l' z z) z<|mv z z<|sf z z z<|sf z z z<|sf z z z<|sf z z z<|sf z z z<|yy (o' z z) z<|mv z z<|sf z z z<|sf z z z<|sf z z z<|sf z z z<|sf z z z<|sf z z z<|sf z z z<|yy (o' z z) z<|mv z z<|sf z z z<|sf z z z<|sf z z z<|sf z z z<|yy (o' z z) z<|mv z z<|sf z z z<|sf z z z<|sf z z z<|sf z z z<|sf z z z<|sf z z z<|sf z z z<|sf z z z<|sf z z z<|yy (o' z z) z<|nx<|at' z<|sr<|sg z z<|nx<|j' ?_
     replace hr:_=r:=hr
     refine g' ?_
     subst hr
     exact k' z z z
    ·refine yy (l' z z) z<|mv z z<|gy z z (co' z) z<|gy z z (az' z) z<|gy z z (e' 4 aS' z z z) z<|gy z z (L' q' c z) z<|aj' hr (F' z z) (aQ' z z) z (fun a0 hr=>?_) (fun a0 hr=>?_)
     ·refine yy (l' z z) z<|mv z z<|sf z z z<|sf z z z<|sf z z z<|sf z z z<|sf z z z<|sf z z z<|sf z z z<|yy (o' z z) z<|mv z z<|sf z z z<|sf z z z<|sf z z z<|sf z z z<|yy (o' z z) z<|mv z z<|sf z z z<|sf z z z<|sf z z z<|sf z z z<|sf z z z<|sf z z z<|sf z z z<|sf z z z<|sf z z z<|yy (o' z z) z<|nx<|at' z<|sr<|sg z z<|nx<|j' ?_
      replace hr:_=r:=hr
      refine g' ?_
      subst hr
      exact k' z z z
     ·refine yy (l' z z) z<|mv z z<|gy z z (co' z) z<|gy z z (az' z) z<|gy z z (e' 4 aS' z z z) z ?_
      obtain⟨x1,al,hr⟩:=hr
      refine gy z z (P' q' aO' c z z al) z<|gy z z (bc' z) z<|gy z z (T' sc3 z (aC' (bb' (aA' (X' c al))))) z<|aj' hr (F' z z) (aQ' z z) z (fun aZ hr=>?_) (fun aZ hr=>?_)
      ·refine yy (l' z z) z<|mv z z<|sf z z z<|sf z z z<|sf z z z<|sf z z z<|yy (o' z z) z<|mv z z<|sf z z z<|sf z z z<|sf z z z<|sf z z z<|sf z z z<|sf z z z<|sf z z z<|sf z z z<|sf z z z<|yy (o' z z) z<|nx<|at' z<|sr<|sg z z<|nx<|j' ?_
       replace hr:_=r:=hr
       refine g' ?_
       subst hr
       exact k' z z z
      ·refine yy (l' z z) z<|mv z z<|gy z z (co' z) z<|gy z z (bg' z) z<|gy z z (e' 4 sc3 z z z) z<|aj' hr (F' z z) (aQ' z z) z (fun ar hr=>?_) (fun ar hr=>?_)
       ·refine yy (l' z z) z<|mv z z<|sf z z z<|sf z z z<|sf z z z<|sf z z z<|sf z z z<|sf z z z<|sf z z z<|sf z z z<|sf z z z<|yy (o' z z) z<|nx<|at' z<|sr<|sg z z<|nx<|j' ?_
        replace hr:_=r:=hr
        refine g' ?_
        subst hr
        exact k' z z z
       ·refine yy (l' z z) z<|mv z z<|gy z z (co' z) z<|gy z z (az' z) z<|gy z z (e' 4 aS' z z z) z ?_
        obtain⟨x2,an,hr⟩:=hr
        refine gy z z (P' q' aO' c z z an) z<|gy z z (bq' z) z ?_
        obtain⟨p2,bv,aX,aT⟩:=bU' (aJ' (aA' (X' c an)))
        refine gy z z (T' bP' z (aX)) z<|gy z z (f' z) z ?_
        obtain⟨bn,T,hr⟩:=hr
        refine H' (F' z z) z (t' E28 z) (dZ' T) z (⟨aT,(O.mono (mt Z af))⟩)<|gy z z (an' z) z<|yy (l' z z) z<|nx<|aM' hr z (fun aU hr=>?_) (fun aU hr=>?_)
        ·exact (show False from hr).elim
        ·refine n'<|ar' aq ⟨mr,hr⟩ (fc z (fc z fn)) (wk (lc z (lc z ln)))
 ·rintro t ⟨p,hr⟩
  refine sr<|yy (co' z) z<|yy (av' ((v33' k.s f h l m d g)).toArray 4 ag' z z z (aN' ([]) ((v33' k.s f h l m d g)) ([i' k.n,i' k.e]))) z<|yy (aq' (vs:=#[(0,i' 2)]) (v:=.agg ([i' 2,.string ByteArray.empty,i' 0,i' 0,i' 0,.slice none 0 0,.bool false]).toArray) z z (fun _=>by kernel_rfl)) z ?_
  obtain⟨bF,aD,hr⟩:=hr
  refine M' z z (t' E14 z) (cb' aD) z (⟨(o.mono p),(c.mono p),(q.mono p),(aa' r' _)⟩) (fun bl bJ s y=>?_)
  obtain⟨aa,W,ai,am,ae,Q,rfl,ab,ak,S⟩:=y
  refine mv z z<|yy (K' z z) z<|yy (K' z z) z<|U' 5 z z33 z fun b3=>v' 5 z aY' z z z z z (List.all_eq_true.1 z)<|sg z z<|nr<|yy (co' z) z<|yy (av' ((v33' k.s f h l m d g)).toArray 4 ag' z z z (aN' ([]) ((v33' k.s f h l m d g)) ([i' k.n,i' k.e]))) z<|yy (aq' (vs:=#[(0,i' 5)]) (v:=.agg ([i' 5,.string ByteArray.empty,i' 0,i' 0,i' 0,.slice none 0 0,.bool false]).toArray) z z (fun _=>by kernel_rfl)) z ?_
  obtain⟨bw,aE,hr⟩:=hr
  refine M' z z (t' E16 z) (dE' aE) z (⟨(o.mono (mt p s)),(c.mono (mt p s)),(q.mono (mt p s)),(aa' r' _)⟩) (fun bf bx a6 E=>?_)
  obtain⟨aI,aL,rfl,I⟩:=E
  refine mv z z<|yy (K' z z) z<|yy (K' z z) z<|U' 7 z z40 z fun b4=>v' 7 z bF' z z z z z (List.all_eq_true.1 z)<|sg z z<|nr<|yy (s' 1 ag' z z z) z<|yy (aq' (vs:=#[]) (v:=.agg ([i' 0,.string ByteArray.empty,i' 0,i' 0,i' 0,.slice none 0 0,.bool false]).toArray) z z (fun _=>by kernel_rfl)) z ?_
  obtain⟨bz,aF,hr⟩:=hr
  refine M' z z (t' E14 z) (cb' aF) z (⟨(aa' Rp.str _),(aa' a' _),(aa' a' _),(aa' r' _)⟩) (fun bh a8 L H=>?_)
  obtain⟨ad,R,ao,aj,V,U,rfl,P,ap,ah⟩:=H
  refine mv z z<|yy (K' z z) z<|yy (K' z z) z<|U' 9 z z33 z fun b5=>v' 9 z aY' z z z z z (List.all_eq_true.1 z)<|sg z z<|nr<|yy (s' 1 ag' z z z) z<|yy (s' 1 ag' z z z) z ?_
  obtain⟨br,Y,hr⟩:=hr
  refine M' z z (t' E29 z) (dL' Y) z (⟨(aa' Rp.str _),(aa' a' _),(aa' a' _),(aa' Rp.str _),(aa' a' _),(aa' a' _)⟩) (fun a2 bo K u=>?_)
  obtain⟨aJ,aK,rfl,C⟩:=u
  refine mv z z<|yy (K' z z) z<|yy (K' z z) z<|sg z z<|sg z z<|nr<|mv z z<|aj' hr z (ak' z z) z (fun aR hr=>?_) (fun aR hr=>?_)
  ·refine mv z z<|gy z z (f' z) z<|aj' hr (F' z z) (ak' z z) z (fun aP hr=>?_) (fun aP hr=>?_)
   ·refine yy (o' z z) z<|mv z z<|gy z z (s' 7 bw' z z z) z<|gy z z (aq' (vs:=#[(0,i' 6),(4,i' 2)]) (v:=.agg ([i' 6,.string ByteArray.empty,i' 0,i' 0,i' 2,.slice none 0 0,.bool false]).toArray) z z (fun _=>by kernel_rfl)) z ?_
    obtain⟨av,X,hr⟩:=hr
    refine H' (F' z z) z (t' E19 z) (eP' X) z (⟨(I.mono (mt L K)),(aa' r' _)⟩) ?_
    cases av
    ·skip
     refine yy (o' z z) z<|mv z z<|sk z z z<|sk z z z<|yy (l' z z) z<|mv z z<|sk z z z<|sk z z z<|yy (l' z z) z<|mv z z<|sk z z z<|sk z z z<|sk z z z<|yy (l' z z) z<|sg z z<|nx<|j' ?_
     obtain rfl:_=r:=hr
     exact k' z z z
    ·skip
     refine yy (o' z z) z<|mv z z<|gy z z (f' z) z<|aj' hr (F' z z) (ak' z z) z (fun aW hr=>?_) (fun aW hr=>?_)
     ·refine yy (o' z z) z<|mv z z<|gy z z (f' z) z<|aj' hr (F' z z) (ak' z z) z (fun aS hr=>?_) (fun aS hr=>?_)
      ·refine yy (o' z z) z<|mv z z<|gy z z (f' z) z<|gy z z (L' ao' C z) z<|gy z z (ak' z z) z<|yy (o' z z) z<|sg z z<|nx<|j' ?_
       obtain rfl:_=r:=hr
       exact k' z z z
      ·refine yy (o' z z) z<|mv z z<|sk z z z<|sk z z z<|sk z z z<|yy (l' z z) z<|sg z z<|nx<|j' ?_
       obtain rfl:_=r:=hr
       exact k' z z z
     ·refine yy (o' z z) z<|mv z z<|sk z z z<|sk z z z<|yy (l' z z) z<|mv z z<|sk z z z<|sk z z z<|sk z z z<|yy (l' z z) z<|sg z z<|nx<|j' ?_
      obtain rfl:_=r:=hr
      exact k' z z z
   ·refine yy (o' z z) z<|mv z z<|sk z z z<|sk z z z<|sk z z z<|yy (l' z z) z<|mv z z<|sk z z z<|sk z z z<|yy (l' z z) z<|mv z z<|sk z z z<|sk z z z<|yy (l' z z) z<|mv z z<|sk z z z<|sk z z z<|sk z z z<|yy (l' z z) z<|sg z z<|nx<|j' ?_
    obtain rfl:_=r:=hr
    exact k' z z z
  ·refine mv z z<|sk z z z<|sk z z z<|yy (l' z z) z<|mv z z<|sk z z z<|sk z z z<|sk z z z<|yy (l' z z) z<|mv z z<|sk z z z<|sk z z z<|yy (l' z z) z<|mv z z<|sk z z z<|sk z z z<|yy (l' z z) z<|mv z z<|sk z z z<|sk z z z<|sk z z z<|yy (l' z z) z<|sg z z<|nx<|j' ?_
   obtain rfl:_=r:=hr
   exact k' z z z
theorem gL'{r}(hr:(Zjn).Ret r):Ctr Tryz.prog 62 #[] (fun G=>True) (fun G v=>∃ f c,v = .slice f r.length c∧sl Rp.str G f c r):=by
 refine C' (args:=[]) (N:=2) Tryz.func62 z z z fun k m d i=>sr<|sg z z<|nr<|aU' (e:=9) (r:=Rp.str) (vs:=#[(0,.string Zn),(1,.string ZH),(2,.string ZA),(3,.string Zu),(4,.string Z6),(5,.string Z1)]) (cs:=[.string Zn]++([.string ZH]++([.string ZA]++([.string Zu]++([.string Z6]++([.string Z1]++([]))))))) ([Zn,ZH,ZA,Zu,Z6,Z1]:List ByteArray) z z z z z (by decide) (fun _=>by kernel_rfl) ⟨[.string Zn],[.string ZH]++([.string ZA]++([.string Zu]++([.string Z6]++([.string Z1]++([]))))),z,z,⟨[.string ZH],[.string ZA]++([.string Zu]++([.string Z6]++([.string Z1]++([])))),z,z,⟨[.string ZA],[.string Zu]++([.string Z6]++([.string Z1]++([]))),z,z,⟨[.string Zu],[.string Z6]++([.string Z1]++([])),z,z,⟨[.string Z6],[.string Z1]++([]),z,z,⟨[.string Z1],[],z,z,z⟩⟩⟩⟩⟩⟩ (key:=999) z (by rw[d]; rfl) fun l j h g=>sg z z<|nx<|j' ?_
 obtain rfl:_=r:=hr
 exact k' z z ⟨_,_,z,g⟩
theorem ha'{n1 r}(hr:(Zhq n1).Ret r):Ctr Tryz.prog 63 #[.int .i8 n1] (fun G=>True) (fun G v=>v=i' r):=by
 refine C' (args:=[_]) (N:=10) Tryz.func63 z z z fun f g e d=>sr<|sg z z<|nx<|h'<|sr<|mv z z<|yy (V' z z) z<|nx<|I' hr z (fun c hr=>?_) (fun c hr=>?_)
 ·refine sr<|mv z z<|yy (aD' cw' au' z) z<|yy (Y0.neg z) z<|sg z z<|nx<|j' ?_
  replace hr:_=r:=hr
  refine g' ?_
  subst hr
  exact k' z z z
 ·refine n'<|b'<|sr<|mv z z<|yy (aD' cw' au' z) z<|sg z z<|nx<|j' ?_
  obtain rfl:_=r:=hr
  exact k' z z z
theorem fZ'{a0_1 a1_1 a2_1 a3_1 a0_1tp a0_1tc r}(hr:(ZhZ a0_1 a1_1 a2_1 a3_1).Ret r):Ctr Tryz.prog 35 #[.agg ([.slice a0_1tp a0_1.t.length a0_1tc]).toArray,i' a1_1,i' a2_1,i' a3_1] (fun G=>sl (cx' .i8 5) G a0_1tp a0_1tc a0_1.t) (fun G v=>∃ zp zc,v = .slice zp r.length zc∧sl r' G zp zc r):=by
 refine C' (args:=[_,_,_,_]) (N:=74) Tryz.func35 z z z (fun w0 G0 ay aK=>?_)
 have M:=aK
 refine sr<|W' 4 z z z fun b1=>sg z z<|nr<|aU' (e:=101) (r:=r') (vs:=#[]) (cs:=[]) ([]:List Zc) z z z z z (by decide) (fun _=>by kernel_rfl) (z) (key:=999) z (by rw[ay]; rfl) fun p1 al S aV=>sg z z<|nx<|h'<|sr<|sg z z<|nx<|ab' (fun (⟨L,U,P,Y⟩:(List Zc)×Option Addr×Nat×Mem)=>[(9,.slice U L.length P)]) (fun ⟨L,U,P,Y⟩=>Mem.le al Y∧sl r' Y U P L∧(Zff L).Ret r) (fun ⟨L,U,P,Y⟩=>St w0 G0 Y []) ?_ ?_
 ·refine A' ?_
  let X:(List Zc)→Prop:=fun oo=>((fun ov=>match ov with|L=>Zff L:(List Zc)→Comp (List Zc)) oo).wp (fun a=>a=r)
  replace hr:(Comp.loop _ _).wp X:=hr
  refine ac' (Φ:=X) (fun (⟨p,t,q,o,K⟩:(List Zc)×Option Addr×Nat×Int×Mem)=>((p,o):(List Zc)×Int)) (fun ⟨p,t,q,o,K⟩=>[(1,i' a1_1),(2,i' a2_1),(3,i' a3_1),(4,.pointer (some ⟨b1,0,none⟩)),(9,.slice t p.length q),(10,i' o)]) (fun ⟨p,t,q,o,K⟩=>Mem.le al K∧sl r' K t q p) (fun ⟨p,t,q,o,K⟩=>St w0 G0 K [(4,some ⟨b1,.cells ([.slice a0_1tp a0_1.t.length a0_1tc]).toArray 26 (0,0),0⟩)]) ⟨[],p1,0,0,al⟩ hr (fc z (fc z (fc z (fc z (fc z (fc z fn)))))) ⟨mr,aV⟩ (wk (lc z ln)) ?_
  ·intro ao gx hx hr
   obtain⟨p,t,q,o,K⟩:=gx
   obtain⟨B,Z⟩:=hx
   refine aV' (fun (gx:Mem)=>match gx with|R=>[(1,i' a1_1),(2,i' a2_1),(3,i' a3_1),(4,.pointer (some ⟨b1,0,none⟩)),(9,.slice t p.length q),(10,i' o)]) (fun (gx:Mem)=>match gx with|R=>Mem.le K R∧(ZhE a0_1 a1_1 a2_1 p o).wp (Out ao X)) (fun (gx:Mem)=>match gx with|R=>St w0 G0 R [(4,some ⟨b1,.cells ([.slice a0_1tp a0_1.t.length a0_1tc]).toArray 26 (0,0),0⟩)]) ?_ ?_
   ·skip
    refine sr<|mv z z<|yy (Y0.Zkt z) z<|yy (e' 4 sc24 z z z) z<|yy (L' eA' (M.mono (mt S B)) z) z<|aj' hr z (V' z z) z (fun aN hr=>?_) (fun aN hr=>?_)
    ·refine mv z z<|gy z z (f' z) z<|gy z z (f' z) z<|gy z z (V' z z) z<|yy (o' z z) z<|nx<|I' hr z (fun aU hr=>?_) (fun aU hr=>?_)
     ·refine n'<|ar' K ⟨mr,hr⟩ (fc z (fc z (fc z (fc z (fc z (fc z fn)))))) (wk (lc z ln))
     ·refine ae'<|m'<|m'<|J'<|af' ⟨p,t,q,K⟩ ⟨B,Z,hr⟩ (fc z fn) (wk ln)
    ·refine mv z z<|sk z z z<|sk z z z<|sk z z z<|yy (l' z z) z<|nx<|bh' z<|ae'<|m'<|m'<|J'<|af' ⟨p,t,q,K⟩ ⟨B,Z,hr⟩ (fc z fn) (wk ln)
   ·rintro R ⟨O,hr⟩
    refine h'<|A'<|sr<|yy (aq' (vs:=#[]) (v:=.agg (vecG (Value.int .i64) 8 (fun _=>0)).toArray) z z (fun _=>by kernel_rfl)) z<|U' 11 z z99 z fun b2=>v' 11 z sz99 z z z (Q' _ _ _) (Q' _ _ _) (fun u hu=>Rp.one (cx' .i64 8) (G:=R) (x:=(fun _=>0)) (cs:=vecG (Value.int .i64) 8 (fun _=>0)) z u (by first|simpa using hu|simpa [Value.cells] using hu))<|nr<|mv z z<|sg z z<|nx<|h'<|sr<|sg z z<|nx<|ab' (fun (⟨C,ac⟩:(Fin 8→Int)×Mem)=>[(1,i' a1_1),(2,i' a2_1),(3,i' a3_1),(4,.pointer (some ⟨b1,0,none⟩)),(9,.slice t p.length q),(10,i' o),(11,.pointer (some ⟨b2,0,none⟩))]) (fun ⟨C,ac⟩=>Mem.le R ac∧(Zfg a0_1 p o C).wp (Out ao X)) (fun ⟨C,ac⟩=>St w0 G0 ac [(4,some ⟨b1,.cells ([.slice a0_1tp a0_1.t.length a0_1tc]).toArray 26 (0,0),0⟩),(11,some ⟨b2,.cells (vecG (Value.int .i64) 8 C).toArray 99 (0,0),0⟩)]) ?_ ?_
    ·refine A' ?_
     let am:(Fin 8→Int)→Prop:=fun oo=>((fun ov=>match ov with|C=>Zfg a0_1 p o C:(Fin 8→Int)→Comp (((List Zc)×Int)⊕(List Zc))) oo).wp (Out ao X)
     replace hr:(Comp.loop _ _).wp am:=hr
     refine ac' (Φ:=am) (fun (⟨A,s,J,Q⟩:Int×Int×(Fin 8→Int)×Mem)=>((A,s,J):Int×Int×(Fin 8→Int))) (fun ⟨A,s,J,Q⟩=>[(1,i' a1_1),(2,i' a2_1),(3,i' a3_1),(4,.pointer (some ⟨b1,0,none⟩)),(9,.slice t p.length q),(10,i' o),(11,.pointer (some ⟨b2,0,none⟩)),(12,i' A),(13,i' s)]) (fun ⟨A,s,J,Q⟩=>Mem.le R Q) (fun ⟨A,s,J,Q⟩=>St w0 G0 Q [(4,some ⟨b1,.cells ([.slice a0_1tp a0_1.t.length a0_1tc]).toArray 26 (0,0),0⟩),(11,some ⟨b2,.cells (vecG (Value.int .i64) 8 J).toArray 99 (0,0),0⟩)]) ⟨a2_1,0,(fun _=>0),R⟩ hr (fc z (fc z (fc z (fc z (fc z (fc z (fc z (fc z (fc z fn))))))))) mr (wk (lc z (lc z ln))) ?_
     ·intro bd gx hx hr
      obtain⟨A,s,J,Q⟩:=gx
      have T:=hx
      refine h'<|sr<|mv z z<|mv z z<|aj' hr z (V' z z) z (fun aO hr=>?_) (fun aO hr=>?_)
      ·refine mv z z<|gy z z (f' z) z<|gy z z (V' z z) z<|yy (o' z z) z<|nx<|I' hr z (fun aT hr=>?_) (fun aT hr=>?_)
       ·refine n'<|b'<|h'<|A'<|sr<|mv z z<|yy (Y0.Zkt z) z<|yy (e' 4 sc24 z z z) z<|mv z z<|mv z z<|yy (N' z z) z ?_
        obtain⟨x2,ax,hr⟩:=hr
        refine yy (P' eA' sz112 (M.mono (mt (mt (mt S B) O) T)) z z ax) z ?_
        obtain⟨av,hr⟩:=hr
        refine yy (Y0.idxA Tryz.underlying112 sz23 z z av) z<|yy (T' sc23 z (AtK.vecAt (E' (X' M ax) (mt (mt (mt S B) O) T)) av)) z ?_
        obtain⟨ak,aB,hr⟩:=hr
        refine H' z z (t' E63 z) (ha' aB) z (trivial)<|mv z z<|yy (N' z z) z ?_
        obtain⟨aQ,hr⟩:=hr
        refine yy (bz' z z aQ) z ?_
        obtain⟨aP,hr⟩:=hr
        refine yy (aX' aG' sz3 z z aP) z<|aw' 11 (vecG (Value.int .i64) 8 (setF J s.toNat (Int.tmod ak (IntKind.i64.wrap (A+1))))).toArray z sz3 z z z (by first|(rw[Q']; omega)|(show _<(vecG _ _ _).toArray.size; rw[Q']; omega)) z (bX' _ _ _ _ _)<|nx<|w'<|mv z z<|mv z z ?_
        obtain⟨au,hr⟩:=hr
        refine yy (aX' aG' sz3 z z au) z<|yy (e' 11 sc3 z z (bA' _ _ _ au)) z<|yy (bf' z z) z<|sg z z<|u'<|D'<|b'<|w'<|mv z z<|yy (N' z z) z<|sg z z<|u'<|O' ⟨IntKind.i64.wrap (A-(getF (setF J s.toNat (Int.tmod ak (IntKind.i64.wrap (A+1)))) s)),IntKind.i64.wrap (s+1),setF J s.toNat (Int.tmod ak (IntKind.i64.wrap (A+1))),Q⟩ hr T (fc z (fc z (fc z (fc z (fc z (fc z (fc z (fc z (fc z fn))))))))) (wk (lc z (lc z ln)))
       ·refine ae'<|m'<|m'<|J'<|af' ⟨J,Q⟩ ⟨T,hr⟩ (fc z (fc z (fc z (fc z (fc z (fc z (fc z fn))))))) (wk (lc z (lc z ln)))
      ·refine mv z z<|sk z z z<|sk z z z<|yy (l' z z) z<|nx<|bh' z<|ae'<|m'<|m'<|J'<|af' ⟨J,Q⟩ ⟨T,hr⟩ (fc z (fc z (fc z (fc z (fc z (fc z (fc z fn))))))) (wk (lc z (lc z ln)))
    ·rintro⟨C,ac⟩ ⟨V,hr⟩
     refine b'<|Z' [true,false,false,false,false,false,false,false,false,false,false,false] mix (by kernel_rfl) fun hb=>cO' z (f' z)<|cn (fun _ y=>Y0.Zkt z)<|cn (fun _ y=>e' 4 sc24 z z z)<|cn (fun _ y=>f' z) ?_
     obtain⟨x1,aw,hr⟩:=hr
     refine cn (fun _ y=>P' eA' sz112 ((M.mono (mt (mt (mt S B) O) V)).mono y) z z aw)<|cn (fun _ y=>Y0.idxA Tryz.underlying112 sz23 z z (by decide))<|cn (fun _ y=>T' sc23 z (AtK.vecAt (E' (E' (X' M aw) (mt (mt (mt S B) O) V)) y) (by decide)))<|cn (fun _ y=>bz' z z (by decide))<|cn (fun _ y=>aD' cw' dO' z) ?_
     obtain⟨I,az,hr⟩:=hr
     refine ay' (post:=fun G v=>∃ k l m n,v = .agg ([.bool I.num.neg,.slice k I.num.mag.length l,.bool I.den.neg,.slice m I.den.mag.length n]).toArray∧sl (Rp.int .u32) G k l I.num.mag∧sl (Rp.int .u32) G m n I.den.mag) (fun _=>z) (fun _ _=>t' E48 z) (cD' az) z (fun G' y=>trivial) (fun v G1 G2 y h=>?_) ?_
     ·obtain⟨k,l,m,n,rfl,D,F⟩:=h
      exact⟨_,_,_,_,z,D.mono y,F.mono y⟩
     obtain⟨j,aE,hr⟩:=hr
     refine ay' (post:=fun G v=>∃ i f g c,v = .agg ([.bool j.num.neg,.slice i j.num.mag.length f,.bool j.den.neg,.slice g j.den.mag.length c]).toArray∧sl (Rp.int .u32) G i f j.num.mag∧sl (Rp.int .u32) G g c j.den.mag) (fun _=>z) (fun _ _=>t' E48 z) (cD' aE) z (fun G' y=>trivial) (fun v G1 G2 y h=>?_) ?_
     ·obtain⟨i,f,g,c,rfl,H,E⟩:=h
      exact⟨_,_,_,_,z,H.mono y,E.mono y⟩
     refine cu (fun _ _ y=>s' 11 ca' z z (Q' _ _ _))<|df' (d:=67) (post:=fun G v=>∃ i f g c,v = .agg ([.bool j.num.neg,.slice i j.num.mag.length f,.bool j.den.neg,.slice g j.den.mag.length c]).toArray∧sl (Rp.int .u32) G i f j.num.mag∧sl (Rp.int .u32) G g c j.den.mag) (d':=66) (post':=fun G v=>∃ k l m n,v = .agg ([.bool I.num.neg,.slice k I.num.mag.length l,.bool I.den.neg,.slice m I.den.mag.length n]).toArray∧sl (Rp.int .u32) G k l I.num.mag∧sl (Rp.int .u32) G m n I.den.mag) (fun a3 a7 ba ad ai af=>?_)
     obtain⟨i,f,g,c,rfl,H,E⟩:=ai
     obtain⟨k,l,m,n,rfl,D,F⟩:=af
     refine yy (aq' (vs:=#[(0,.agg ([.bool j.num.neg,.slice i j.num.mag.length f,.bool j.den.neg,.slice g j.den.mag.length c]).toArray),(1,.agg (vecG (Value.int .i64) 8 C).toArray)]) (v:=.agg (([.bool j.num.neg,.slice i j.num.mag.length f,.bool j.den.neg,.slice g j.den.mag.length c]:List Value)++(vecG (Value.int .i64) 8 C)).toArray) z z (fun _=>by kernel_rfl)) z<|aU' (e:=101) (r:=r') (vs:=#[(0,.agg (([.bool j.num.neg,.slice i j.num.mag.length f,.bool j.den.neg,.slice g j.den.mag.length c]:List Value)++(vecG (Value.int .i64) 8 C)).toArray)]) (cs:=(([.bool j.num.neg,.slice i j.num.mag.length f,.bool j.den.neg,.slice g j.den.mag.length c]:List Value)++(vecG (Value.int .i64) 8 C))++([])) ([(Zc.mk j C)]:List Zc) z z z z z (by decide) (fun _=>by kernel_rfl) ⟨([.bool j.num.neg,.slice i j.num.mag.length f,.bool j.den.neg,.slice g j.den.mag.length c]:List Value)++(vecG (Value.int .i64) 8 C),[],z,⟨[.bool j.num.neg,.slice i j.num.mag.length f,.bool j.den.neg,.slice g j.den.mag.length c],vecG (Value.int .i64) 8 C,z,⟨(v58' j.num i f),(v58' j.den g c),z,⟨[.bool j.num.neg],[.slice i j.num.mag.length f],z,z,⟨_,z,H⟩⟩,⟨[.bool j.den.neg],[.slice g j.den.mag.length c],z,z,⟨_,z,E⟩⟩⟩,z⟩,z⟩ (key:=999) z (by rw[ay]; rfl) (fun p2 bc W aS=>?_)
     obtain⟨be,aD,hr⟩:=hr
     refine M' z z (t' E58 z) (fE' aD) z (⟨(D.mono W),(F.mono W),aS⟩) (fun a9 bb ae ah=>?_)
     obtain⟨a5,a0,rfl,aJ⟩:=ah
     obtain⟨aR,aC,hr⟩:=hr
     refine M' z z (t' E57 z) (eG' aC) z (⟨(Z.mono (mt (mt (mt (mt O V) ad) W) ae)),aJ⟩) (fun a4 aX ar ag=>?_)
     obtain⟨aF,aI,rfl,aG⟩:=ag
     refine sg z z<|u'<|am'<|D'<|b'<|w'<|mv z z<|yy (N' z z) z<|sg z z<|u'<|O' ⟨aR,aF,aI,IntKind.i64.wrap (o+1),aX⟩ hr ⟨(mt (mt (mt (mt (mt (mt B O) V) ad) W) ae) ar),aG⟩ (fc z (fc z (fc z (fc z (fc z (fc z fn)))))) (wk (lc z ln))
 ·rintro⟨L,U,P,Y⟩ ⟨aZ,aq,hr⟩
  refine b'<|sr<|mv z z<|sg z z<|nx<|j' ?_
  obtain rfl:_=r:=hr
  exact k' z z ⟨_,_,z,aq⟩
theorem ga'{a0_1 a1_1 a0_1varsp a0_1varsc a0_1eqsp a0_1eqsc a0_1neqsp a0_1neqsc a1_1ptp a1_1ptc r}(hr:(Zf2 a0_1 a1_1).Ret r):Ctr Tryz.prog 34 #[.agg ((v33' a0_1 a0_1varsp a0_1varsc a0_1eqsp a0_1eqsc a0_1neqsp a0_1neqsc)).toArray,.agg ([.int .u8 a1_1.kind,.int .u8 a1_1.a,.int .u8 a1_1.b,.int .u8 a1_1.n,.slice a1_1ptp a1_1.p.t.length a1_1ptc]).toArray] (fun G=>sl Rp.str G a0_1varsp a0_1varsc a0_1.vars∧sl a' G a0_1eqsp a0_1eqsc a0_1.eqs∧sl a' G a0_1neqsp a0_1neqsc a0_1.neqs∧sl (cx' .i8 5) G a1_1ptp a1_1ptc a1_1.p.t) (fun G v=>∃ V T,v = .agg ([i' r.kind,.string r.name,i' r.at',i' r.to',i' r.id,.slice V r.p.length T,.bool r.neq]).toArray∧sl r' G V T r.p):=by
 refine C' (args:=[_,_]) (N:=77) Tryz.func34 z z z (fun w0 G0 aB af=>?_)
 obtain⟨B,Y,U,D⟩:=af
 refine sr<|W' 2 z z z fun b1=>W' 3 z z z fun K=>U' 4 z z40 z fun M=>nr<|yy (as' z) z<|yy (e' 2 bo' z z z) z<|yy (L' y' B z) z<|sg z z<|nx<|h'<|Z' [false,false,false,false,false,false,false,false,false,false,false,false,false,false,false,false,false,false,false,false,false,false,false,false,false,false,false,false,false,false,false,false,false,false,false,false] mix (by kernel_rfl) fun hb=>cn (fun _ d=>Y0.ZmF z)<|cn (fun _ d=>e' 3 sc5 z z z)<|cn (fun _ d=>bz' z z (by decide))<|cn (fun _ d=>aD' aT' au' z)<|cn (fun _ d=>N' z z)<|cn (fun _ d=>Y0.Zku z)<|cn (fun _ d=>e' 3 sc5 z z z)<|cn (fun _ d=>aD' aT' au' z)<|cn (fun _ d=>f' z)<|cn (fun _ d=>N' z z) ?_
 obtain⟨ao,hr⟩:=hr
 refine cn (fun _ d=>bz' z z ao)<|cn (fun _ d=>Y0.ZmG z)<|cn (fun _ d=>e' 3 sc5 z z z)<|cn (fun _ d=>aD' aT' au' z)<|cn (fun _ d=>f' z)<|cn (fun _ d=>N' z z) ?_
 obtain⟨ap,hr⟩:=hr
 refine cn (fun _ d=>bz' z z ap)<|cn (fun _ d=>Y0.Zkv z)<|cn (fun _ d=>e' 3 sc5 z z z)<|cn (fun _ d=>aD' aT' au' z)<|cn (fun _ d=>bg' z)<|cn (fun _ d=>e' 2 sc3 z z z)<|cn (fun _ d=>N' z z) ?_
 obtain⟨aj,hr⟩:=hr
 refine cn (fun _ d=>bz' z z aj)<|cn (fun _ d=>Y0.ZmG z)<|cn (fun _ d=>e' 3 sc5 z z z)<|cn (fun _ d=>bz' z z (by decide))<|cn (fun _ d=>ak' z z) ?_
 obtain⟨s,Z,hr⟩:=hr
 refine ay' (post:=fun G v=>∃ l k,v = .slice l s.length k∧sl Rp.str G l k s) (fun _=>z) (fun _ _=>t' E62 z) (gL' Z) z (fun Q d=>trivial) (fun v G1 G2 d h=>?_) ?_
 ·obtain⟨l,k,rfl,p⟩:=h
  exact⟨_,_,z,p.mono d⟩
 refine cu (fun _ _ d=>Y0.Zkv z)<|cu (fun _ _ d=>e' 3 sc5 z z z)<|cu (fun _ _ d=>bz' z z (by decide)) ?_
 obtain⟨A,W,hr⟩:=hr
 refine bj' (φ:=fun G v=>∃ q t,v = .pointer (some ⟨pb q,po q+(Int.tmod a1_1.n 6).toNat*1,none⟩)∧sl Rp.str G q t s) (fun _=>z) (fun v G1 G2 d h=>?_) (fun u Q d hu=>?_) ?_
 ·obtain⟨q,t,rfl,C⟩:=h
  exact⟨_,_,z,C.mono d⟩
 ·obtain⟨⟨l,k,S,p⟩,_⟩:=(show (fun G v=>∃ l k,v = .slice l s.length k∧sl Rp.str G l k s) Q.m (u 38)∧True from hu)
  simp only[undFr,S]
  exact⟨_,P' y' sz9 p z z W,l,k,z,p⟩
 refine Chain.y0UD (c:=.string A) (fun _=>z) (fun u Q d hu=>?_) ?_
 ·obtain⟨⟨q,t,O,C⟩,_,_⟩:=(show (fun G v=>∃ q t,v = .pointer (some ⟨pb q,po q+(Int.tmod a1_1.n 6).toNat*1,none⟩)∧sl Rp.str G q t s) Q.m (u 42)∧True∧True from hu)
  simp only[undFr,O]
  exact T' sc9 z (bB' (X' C W))
 refine cu (fun _ _ d=>aq' (vs:=#[(0,i' (IntKind.i64.wrap (1+(IntKind.i64.wrap (Int.tmod a1_1.kind 16))))),(2,i' (Int.tmod (IntKind.i64.wrap a1_1.a) (IntKind.i64.wrap ((a0_1.vars.length:Int)+1)))),(3,i' (Int.tmod (IntKind.i64.wrap a1_1.b) (IntKind.i64.wrap ((a0_1.vars.length:Int)+1)))),(4,i' (Int.tmod (IntKind.i64.wrap a1_1.n) (IntKind.i64.wrap (a0_1.next+1)))),(6,.bool (decide ((Int.tmod a1_1.b 4)=3))),(1,.string A)]) (v:=.agg ([i' (IntKind.i64.wrap (1+(IntKind.i64.wrap (Int.tmod a1_1.kind 16)))),.string A,i' (Int.tmod (IntKind.i64.wrap a1_1.a) (IntKind.i64.wrap ((a0_1.vars.length:Int)+1))),i' (Int.tmod (IntKind.i64.wrap a1_1.b) (IntKind.i64.wrap ((a0_1.vars.length:Int)+1))),i' (Int.tmod (IntKind.i64.wrap a1_1.n) (IntKind.i64.wrap (a0_1.next+1))),.slice none 0 0,.bool (decide ((Int.tmod a1_1.b 4)=3))]).toArray) z z (fun _=>by kernel_rfl))<|bm' (fun _=>z) z40<|Chain.tailX3 (fun aA ax aw I ai J H E=>?_)
 obtain⟨R,rfl,ag⟩:=J
 obtain⟨q,t,rfl,C⟩:=H
 obtain⟨l,k,rfl,p⟩:=E
 refine ci' ag (bT' (show WL _ _ _ _ _ _ (St w0 G0 I.m _) from ?_))
 refine v' 6 z bF' z z z z z (List.all_eq_true.1 z)<|u'<|am'<|b'<|aV' (fun (⟨e,j,g,m⟩:Zd×Option Addr×Nat×Mem)=>[(3,.pointer (some ⟨K,0,none⟩)),(4,.pointer (some ⟨M,0,none⟩)),(5,i' (a0_1.vars.length:Int)),(6,.pointer (some ⟨R,0,none⟩))]) (fun ⟨e,j,g,m⟩=>Mem.le I.m m∧sl r' m j g e.p∧(ZaV a0_1 a1_1 e).Ret r) (fun ⟨e,j,g,m⟩=>St w0 G0 m [(3,some ⟨K,.cells ([.int .u8 a1_1.kind,.int .u8 a1_1.a,.int .u8 a1_1.b,.int .u8 a1_1.n,.slice a1_1ptp a1_1.p.t.length a1_1ptc]).toArray 76 (0,0),0⟩),(4,some ⟨M,.cells ([i' 0,.string ByteArray.empty,i' 0,i' 0,i' 0,.slice none 0 0,.bool false]).toArray 40 (0,0),0⟩),(6,some ⟨R,.cells ([i' e.kind,.string e.name,i' e.at',i' e.to',i' e.id,.slice j e.p.length g,.bool e.neq]).toArray 40 (0,0),0⟩)]) ?_ ?_
 ·skip
  refine sr<|yy (Y0.ZmF z) z<|yy (e' 3 sc5 z z z) z<|yy (bz' z z (by decide)) z<|yy (be' z z) z<|nx<|I' hr z (fun an hr=>?_) (fun an hr=>?_)
  ·refine sr<|yy (Y0.Zku z) z<|yy (e' 3 sc5 z z z) z<|yy (bz' z z (by decide)) z<|yy (aD' aT' au' z) z<|yy (N' z z) z<|yy (bM' z) z<|aw' 6 ([i' (IntKind.i64.wrap (5+(IntKind.i64.wrap (Int.tmod a1_1.a 4)))),.string A,i' (Int.tmod (IntKind.i64.wrap a1_1.a) (IntKind.i64.wrap ((a0_1.vars.length:Int)+1))),i' (Int.tmod (IntKind.i64.wrap a1_1.b) (IntKind.i64.wrap ((a0_1.vars.length:Int)+1))),i' (Int.tmod (IntKind.i64.wrap a1_1.n) (IntKind.i64.wrap (a0_1.next+1))),.slice none 0 0,.bool (decide ((Int.tmod a1_1.b 4)=3))]).toArray z sz3 z z z (show 0<7 by decide) z z<|nr<|yy (Y0.Zku z) z<|yy (e' 3 sc5 z z z) z<|yy (bz' z z (by decide)) z<|yy (V' z z) z<|nx<|I' hr z (fun am hr=>?_) (fun am hr=>?_)
   ·refine w'<|yy (bM' z) z<|aw' 6 ([i' 5,.string A,i' (Int.tmod (IntKind.i64.wrap a1_1.a) (IntKind.i64.wrap ((a0_1.vars.length:Int)+1))),i' (Int.tmod (IntKind.i64.wrap a1_1.b) (IntKind.i64.wrap ((a0_1.vars.length:Int)+1))),i' (Int.tmod (IntKind.i64.wrap a1_1.n) (IntKind.i64.wrap (a0_1.next+1))),.slice none 0 0,.bool (decide ((Int.tmod a1_1.b 4)=3))]).toArray z sz3 z z z (show 0<7 by decide) z z<|u'<|ar' ⟨(Zd.mk 5 A (Int.tmod (IntKind.i64.wrap a1_1.a) (IntKind.i64.wrap ((a0_1.vars.length:Int)+1))) (Int.tmod (IntKind.i64.wrap a1_1.b) (IntKind.i64.wrap ((a0_1.vars.length:Int)+1))) (Int.tmod (IntKind.i64.wrap a1_1.n) (IntKind.i64.wrap (a0_1.next+1))) [] (decide ((Int.tmod a1_1.b 4)=3))),none,0,I.m⟩ ⟨mr,(aa' _ _),hr⟩ (fc z (fc z (fc z (fc z fn)))) (wk (lc z (lc z (lc z ln))))
   ·refine n'<|ar' ⟨(Zd.mk (IntKind.i64.wrap (5+(IntKind.i64.wrap (Int.tmod a1_1.a 4)))) A (Int.tmod (IntKind.i64.wrap a1_1.a) (IntKind.i64.wrap ((a0_1.vars.length:Int)+1))) (Int.tmod (IntKind.i64.wrap a1_1.b) (IntKind.i64.wrap ((a0_1.vars.length:Int)+1))) (Int.tmod (IntKind.i64.wrap a1_1.n) (IntKind.i64.wrap (a0_1.next+1))) [] (decide ((Int.tmod a1_1.b 4)=3))),none,0,I.m⟩ ⟨mr,(aa' _ _),hr⟩ (fc z (fc z (fc z (fc z fn)))) (wk (lc z (lc z (lc z ln))))
  ·refine n'<|ar' ⟨(Zd.mk (IntKind.i64.wrap (1+(IntKind.i64.wrap (Int.tmod a1_1.kind 16)))) A (Int.tmod (IntKind.i64.wrap a1_1.a) (IntKind.i64.wrap ((a0_1.vars.length:Int)+1))) (Int.tmod (IntKind.i64.wrap a1_1.b) (IntKind.i64.wrap ((a0_1.vars.length:Int)+1))) (Int.tmod (IntKind.i64.wrap a1_1.n) (IntKind.i64.wrap (a0_1.next+1))) [] (decide ((Int.tmod a1_1.b 4)=3))),none,0,I.m⟩ ⟨mr,(aa' _ _),hr⟩ (fc z (fc z (fc z (fc z fn)))) (wk (lc z (lc z (lc z ln))))
 ·rintro⟨e,j,g,m⟩ ⟨L,y,hr⟩
  refine aV' (fun (⟨f,o,n,x⟩:Zd×Option Addr×Nat×Mem)=>[(3,.pointer (some ⟨K,0,none⟩)),(4,.pointer (some ⟨M,0,none⟩)),(5,i' (a0_1.vars.length:Int)),(6,.pointer (some ⟨R,0,none⟩))]) (fun ⟨f,o,n,x⟩=>Mem.le m x∧sl r' x o n f.p∧(ZbZ a0_1 a1_1 f).Ret r) (fun ⟨f,o,n,x⟩=>St w0 G0 x [(3,some ⟨K,.cells ([.int .u8 a1_1.kind,.int .u8 a1_1.a,.int .u8 a1_1.b,.int .u8 a1_1.n,.slice a1_1ptp a1_1.p.t.length a1_1ptc]).toArray 76 (0,0),0⟩),(4,some ⟨M,.cells ([i' 0,.string ByteArray.empty,i' 0,i' 0,i' 0,.slice none 0 0,.bool false]).toArray 40 (0,0),0⟩),(6,some ⟨R,.cells ([i' f.kind,.string f.name,i' f.at',i' f.to',i' f.id,.slice o f.p.length n,.bool f.neq]).toArray 40 (0,0),0⟩)]) ?_ ?_
  ·skip
   refine sr<|yy (bM' z) z<|yy (e' 6 sc3 z z z) z<|aj' hr z (ak' z z) z (fun al hr=>?_) (fun al hr=>?_)
   ·refine mv z z<|gy z z (Y0.Zkv z) z<|gy z z (e' 3 sc5 z z z) z<|gy z z (bz' z z (by decide)) z<|gy z z (bt' z z) z<|yy (o' z z) z<|nx<|I' hr z (fun ak hr=>?_) (fun ak hr=>?_)
    ·refine w'<|yy (aL' z) z<|aw' 6 ([i' e.kind,.string e.name,i' e.at',i' e.to',i' 0,.slice j e.p.length g,.bool e.neq]).toArray z sz3 z z z (show 4<7 by decide) z z<|u'<|ar' ⟨(Zd.mk e.kind e.name e.at' e.to' 0 e.p e.neq),j,g,m⟩ ⟨mr,y,hr⟩ (fc z (fc z (fc z (fc z fn)))) (wk (lc z (lc z (lc z ln))))
    ·refine n'<|ar' ⟨e,j,g,m⟩ ⟨mr,y,hr⟩ (fc z (fc z (fc z (fc z fn)))) (wk (lc z (lc z (lc z ln))))
   ·refine mv z z<|sk z z z<|sk z z z<|sk z z z<|sk z z z<|yy (l' z z) z<|nx<|bh' z<|n'<|ar' ⟨e,j,g,m⟩ ⟨mr,y,hr⟩ (fc z (fc z (fc z (fc z fn)))) (wk (lc z (lc z (lc z ln))))
  ·rintro⟨f,o,n,x⟩ ⟨P,au,hr⟩
   refine sr<|yy (Y0.ZoI z) z<|yy (av' ([.slice a1_1ptp a1_1.p.t.length a1_1ptc]).toArray 3 ag26 z z z (aN' ([.int .u8 a1_1.kind,.int .u8 a1_1.a,.int .u8 a1_1.b,.int .u8 a1_1.n]) ([.slice a1_1ptp a1_1.p.t.length a1_1ptc]) ([]))) z<|mv z z<|yy (Y0.min2 z z) z ?_
   obtain⟨aq,ah,hr⟩:=hr
   refine M' z z (t' E35 z) (fZ' ah) z ((D.mono (mt (mt ai L) P))) (fun az aC ar F=>?_)
   obtain⟨X,ad,rfl,aa⟩:=F
   refine yy (cI' z) z<|aw' 6 ([i' f.kind,.string f.name,i' f.at',i' f.to',i' f.id,.slice X aq.length ad,.bool f.neq]).toArray z sz38 z z z (show 5<7 by decide) z z<|nr<|yy (s' 6 bw' z z z) z<|v' 4 z bF' z z z z z (List.all_eq_true.1 z)<|nx<|j' ?_
   obtain rfl:_=r:=hr
   exact k' z (ad' (i:=4) bw' z z z) ⟨_,_,z,aa⟩
theorem fq'{b1 r}(hr:(Zcx b1).Ret r):Ctr Tryz.prog 81 #[.int .u8 b1] (fun G=>True) (fun G v=>v = .bool r):=by
 refine C' (args:=[_]) (N:=17) Tryz.func81 z z z fun i j h g=>sr<|sg z z<|nr<|mv z z<|aj' hr z (be' z z) z (fun d hr=>?_) (fun d hr=>?_)
 ·refine mv z z<|gy z z (f' z) z<|aj' hr (F' z z) (bD' z z) z (fun c hr=>?_) (fun c hr=>?_)
  ·refine yy (o' z z) z<|mv z z<|sf z z z<|sf z z z<|sf z z z<|aF' (ai' z z) z<|aF' (ai' z z) z<|sf z z z<|yy (o' z z) z<|sg z z<|nx<|j' ?_
   obtain rfl:_=r:=hr
   exact k' z z z
  ·refine yy (o' z z) z<|mv z z<|gy z z (f' z) z<|aj' hr (F' z z) (be' z z) z (fun f hr=>?_) (fun f hr=>?_)
   ·refine gy z z (f' z) z<|gy z z (f' z) z<|gy z z (bD' z z) z<|gy z z (o' z z) z<|yy (l' z z) z<|sg z z<|nx<|j' ?_
    obtain rfl:_=r:=hr
    exact k' z z z
   ·refine gy z z (f' z) z<|sk z z z<|sk z z z<|gy z z (l' z z) z<|yy (l' z z) z<|sg z z<|nx<|j' ?_
    obtain rfl:_=r:=hr
    exact k' z z z
 ·refine mv z z<|sk z z z<|sk z z z<|yy (l' z z) z<|mv z z<|gy z z (f' z) z<|aj' hr (F' z z) (be' z z) z (fun e hr=>?_) (fun e hr=>?_)
  ·refine gy z z (f' z) z<|gy z z (f' z) z<|gy z z (bD' z z) z<|gy z z (o' z z) z<|yy (l' z z) z<|sg z z<|nx<|j' ?_
   obtain rfl:_=r:=hr
   exact k' z z z
  ·refine gy z z (f' z) z<|sk z z z<|sk z z z<|gy z z (l' z z) z<|yy (l' z z) z<|sg z z<|nx<|j' ?_
   obtain rfl:_=r:=hr
   exact k' z z z
theorem eU'{s1 r}(hr:(Zc1 s1).Ret r):Ctr Tryz.prog 47 #[.string s1] (fun G=>True) (fun G v=>v = .bool r):=by
 refine C' (args:=[_]) (N:=48) Tryz.func47 z z z fun l j Q K=>sr<|sg z z<|nx<|aV' (fun (e:Mem)=>match e with|f=>[(0,.string s1)]) (fun (e:Mem)=>match e with|f=>Mem.le j f∧(ZhF s1).Ret r) (fun (e:Mem)=>match e with|f=>St l j f []) ?_ ?_
 ·skip
  refine sr<|mv z z<|yy (Y0.lenS aR' z) z<|aj' hr z (V' z z) z (fun E hr=>?_) (fun E hr=>?_)
  ·refine mv z z<|sf z z z<|sf z z z<|sf z z z<|yy (o' z z) z<|mv z z<|sf z z z<|sf z z z<|sf z z z<|sf z z z<|yy (o' z z) z<|nx<|at' z<|sr<|sg z z<|nx<|j' ?_
   replace hr:_=r:=hr
   refine g' ?_
   subst hr
   exact k' z z z
  ·refine mv z z<|gy z z (f' z) z<|gy z z (Y0.lenS aR' z) z<|aj' hr (F' z z) (bt' z z) z (fun D hr=>?_) (fun D hr=>?_)
   ·refine yy (l' z z) z<|mv z z<|sf z z z<|sf z z z<|sf z z z<|sf z z z<|yy (o' z z) z<|nx<|at' z<|sr<|sg z z<|nx<|j' ?_
    replace hr:_=r:=hr
    refine g' ?_
    subst hr
    exact k' z z z
   ·refine yy (l' z z) z<|mv z z<|gy z z (f' z) z ?_
    obtain⟨C,hr⟩:=hr
    refine gy z z (dk' (s:=s1) aR' z z C) z ?_
    obtain⟨R,m,hr⟩:=hr
    refine H' (F' z z) z (t' E81 z) (fq' m) z (trivial)<|gy z z (an' z) z<|yy (l' z z) z<|nx<|aM' hr z (fun p hr=>?_) (fun p hr=>?_)
    ·refine sr<|sg z z<|nx<|j' ?_
     replace hr:_=r:=hr
     refine g' ?_
     subst hr
     exact k' z z z
    ·refine n'<|ar' j ⟨mr,hr⟩ (fc z fn) (wk ln)
 ·rintro f ⟨I,hr⟩
  refine h'<|sr<|sg z z<|nx<|ab' (fun (e:Mem)=>match e with|h=>[]) (fun (e:Mem)=>match e with|h=>Mem.le f h∧(Zfk).Ret r) (fun (e:Mem)=>match e with|h=>St l j h []) ?_ ?_
  ·refine A' ?_
   let i:(Bool⊕Unit)→Prop:=fun L=>((fun O=>match O with | .inl rv1=>Comp.ret rv1 | .inr ()=>Zfk:(Bool⊕Unit)→Comp Bool) L).wp (fun a=>a=r)
   replace hr:(Comp.loop _ _).wp i:=hr
   refine ac' (Φ:=i) (fun (⟨g,c⟩:Int×Mem)=>(g:Int)) (fun ⟨g,c⟩=>[(0,.string s1),(3,i' g)]) (fun ⟨g,c⟩=>Mem.le f c) (fun ⟨g,c⟩=>St l j c []) ⟨1,f⟩ hr (fc z (fc z fn)) mr (wk ln) ?_
   ·intro P e M hr
    obtain⟨g,c⟩:=e
    have d:=M
    refine h'<|sr<|mv z z<|mv z z<|yy (Y0.lenS aR' z) z<|yy (V' z z) z<|nx<|I' hr z (fun t hr=>?_) (fun t hr=>?_)
    ·refine n'<|b'<|h'<|A'<|sr<|mv z z<|mv z z ?_
     obtain⟨o,hr⟩:=hr
     refine yy (dk' (s:=s1) aR' z z o) z ?_
     obtain⟨n,k,hr⟩:=hr
     refine H' z z (t' E81 z) (fq' k) z (trivial) ?_
     cases n
     ·skip
      refine yy (an' z) z<|mv z z<|gy z z (f' z) z<|gy z z (f' z) z ?_
      obtain⟨F,hr⟩:=hr
      refine gy z z (dk' (s:=s1) aR' z z F) z<|aj' hr (F' z z) (be' z z) z (fun u hr=>?_) (fun u hr=>?_)
      ·refine gy z z (f' z) z<|gy z z (f' z) z<|gy z z (f' z) z ?_
       obtain⟨x,hr⟩:=hr
       refine gy z z (dk' (s:=s1) aR' z z x) z<|aj' hr (F' z z) (bD' z z) z (fun A hr=>?_) (fun A hr=>?_)
       ·refine gy z z (o' z z) z<|gy z z (an' z) z<|yy (o' z z) z<|mv z z<|sk z z z<|sk z z z<|sk z z z<|sk z z z<|yy (l' z z) z<|nx<|bh' z<|n'<|D'<|b'<|w'<|mv z z<|yy (N' z z) z<|sg z z<|u'<|O' ⟨IntKind.i64.wrap (g+1),c⟩ hr d (fc z (fc z fn)) (wk ln)
       ·refine gy z z (o' z z) z<|gy z z (an' z) z<|yy (o' z z) z<|mv z z<|gy z z (f' z) z<|gy z z (f' z) z ?_
        obtain⟨H,hr⟩:=hr
        refine gy z z (dk' (s:=s1) aR' z z H) z<|gy z z (aQ' z z) z<|yy (o' z z) z<|nx<|I' hr z (fun B hr=>?_) (fun B hr=>?_)
        ·refine sr<|sg z z<|nx<|j' ?_
         replace hr:_=r:=hr
         refine x'<|g'<|g'<|x'<|aH'<|g' ?_
         subst hr
         exact k' z z z
        ·refine n'<|D'<|b'<|w'<|mv z z<|yy (N' z z) z<|sg z z<|u'<|O' ⟨IntKind.i64.wrap (g+1),c⟩ hr d (fc z (fc z fn)) (wk ln)
      ·refine gy z z (f' z) z<|sk z z z<|sk z z z<|sk z z z<|sk z z z<|gy z z (l' z z) z<|gy z z (an' z) z<|yy (o' z z) z<|mv z z<|gy z z (f' z) z<|gy z z (f' z) z ?_
       obtain⟨q,hr⟩:=hr
       refine gy z z (dk' (s:=s1) aR' z z q) z<|gy z z (aQ' z z) z<|yy (o' z z) z<|nx<|I' hr z (fun y hr=>?_) (fun y hr=>?_)
       ·refine sr<|sg z z<|nx<|j' ?_
        replace hr:_=r:=hr
        refine x'<|g'<|g'<|x'<|aH'<|g' ?_
        subst hr
        exact k' z z z
       ·refine n'<|D'<|b'<|w'<|mv z z<|yy (N' z z) z<|sg z z<|u'<|O' ⟨IntKind.i64.wrap (g+1),c⟩ hr d (fc z (fc z fn)) (wk ln)
     ·skip
      refine yy (an' z) z<|mv z z<|sk z z z<|sk z z z<|sk z z z<|sk z z z<|sk z z z<|aF' (ai' z z) z<|aF' (ai' z z) z<|aF' (ai' z z) z<|aF' (ai' z z) z<|sk z z z<|sk z z z<|yy (l' z z) z<|mv z z<|sk z z z<|sk z z z<|sk z z z<|sk z z z<|yy (l' z z) z<|nx<|bh' z<|n'<|D'<|b'<|w'<|mv z z<|yy (N' z z) z<|sg z z<|u'<|O' ⟨IntKind.i64.wrap (g+1),c⟩ hr d (fc z (fc z fn)) (wk ln)
    ·refine ae'<|m'<|m'<|J'<|af' c ⟨d,hr⟩ fn (wk ln)
  ·rintro h ⟨J,hr⟩
   refine b'<|sr<|sg z z<|nx<|j' ?_
   obtain rfl:_=r:=hr
   exact k' z z z
theorem fG'{s1 name1 s1varsp s1varsc s1eqsp s1eqsc s1neqsp s1neqsc r}(hr:(ZeS s1 name1).Ret r):Ctr Tryz.prog 72 #[.agg ((v33' s1 s1varsp s1varsc s1eqsp s1eqsc s1neqsp s1neqsc)).toArray,.string name1] (fun G=>sl Rp.str G s1varsp s1varsc s1.vars∧sl a' G s1eqsp s1eqsc s1.eqs∧sl a' G s1neqsp s1neqsc s1.neqs) (fun G v=>v=i' r):=by
 refine C' (args:=[_,_]) (N:=21) Tryz.func72 z z z (fun q j B l=>?_)
 obtain⟨d,s,m⟩:=l
 refine sr<|W' 2 z z z fun o=>sg z z<|nx<|h'<|sr<|sg z z<|nx<|ab' (fun (h:Mem)=>match h with|f=>[]) (fun (h:Mem)=>match h with|f=>Mem.le j f∧(Zep).Ret r) (fun (h:Mem)=>match h with|f=>St q j f []) ?_ ?_
 ·refine A' ?_
  let i:(Int⊕Unit)→Prop:=fun u=>((fun y=>match y with | .inl rv1=>Comp.ret rv1 | .inr ()=>Zep:(Int⊕Unit)→Comp Int) u).wp (fun a=>a=r)
  replace hr:(Comp.loop _ _).wp i:=hr
  refine ac' (Φ:=i) (fun (⟨g,e⟩:Int×Mem)=>(g:Int)) (fun ⟨g,e⟩=>[(1,.string name1),(2,.pointer (some ⟨o,0,none⟩)),(5,i' g)]) (fun ⟨g,e⟩=>Mem.le j e) (fun ⟨g,e⟩=>St q j e [(2,some ⟨o,.cells ((v33' s1 s1varsp s1varsc s1eqsp s1eqsc s1neqsp s1neqsc)).toArray 33 (0,0),0⟩)]) ⟨0,j⟩ hr (fc z (fc z (fc z fn))) mr (wk (lc z ln)) ?_
  ·intro A h x hr
   obtain⟨g,e⟩:=h
   have c:=x
   refine h'<|sr<|mv z z<|yy (as' z) z<|yy (e' 2 bo' z z z) z<|yy (L' y' (d.mono c) z) z<|yy (V' z z) z<|nx<|I' hr z (fun n hr=>?_) (fun n hr=>?_)
   ·refine n'<|b'<|h'<|A'<|sr<|yy (as' z) z<|yy (e' 2 bo' z z z) z<|mv z z ?_
    obtain⟨C,k,hr⟩:=hr
    refine yy (P' y' sz9 (d.mono c) z z k) z<|yy (T' sc9 z (bB' (E' (X' d k) c))) z<|mv z z<|yy (Y0.eqlS aR' z z) z<|nx<|I' hr z (fun p hr=>?_) (fun p hr=>?_)
    ·refine sr<|mv z z<|sg z z<|nx<|j' ?_
     replace hr:_=r:=hr
     refine x'<|g'<|g'<|x'<|aH'<|g' ?_
     subst hr
     exact k' z z z
    ·refine n'<|D'<|b'<|w'<|mv z z<|yy (N' z z) z<|sg z z<|u'<|O' ⟨IntKind.i64.wrap (g+1),e⟩ hr c (fc z (fc z (fc z fn))) (wk (lc z ln))
   ·refine ae'<|m'<|m'<|J'<|af' e ⟨c,hr⟩ fn (wk ln)
 ·rintro f ⟨t,hr⟩
  refine b'<|sr<|sg z z<|nx<|j' ?_
  obtain rfl:_=r:=hr
  exact k' z z z
theorem eV'{s1 atv1 s1varsp s1varsc s1eqsp s1eqsc s1neqsp s1neqsc r}(hr:(Zeq s1 atv1).Ret r):Ctr Tryz.prog 73 #[.agg ((v33' s1 s1varsp s1varsc s1eqsp s1eqsc s1neqsp s1neqsc)).toArray,i' atv1] (fun G=>sl Rp.str G s1varsp s1varsc s1.vars∧sl a' G s1eqsp s1eqsc s1.eqs∧sl a' G s1neqsp s1neqsc s1.neqs) (fun G v=>v = .bool r):=by
 refine C' (args:=[_,_]) (N:=14) Tryz.func73 z z z (fun i k h d=>?_)
 obtain⟨c,g,e⟩:=d
 refine sr<|W' 2 z z z fun j=>sg z z<|nr<|mv z z<|aj' hr z (be' z z) z (fun f hr=>?_) (fun f hr=>?_)
 ·refine mv z z<|gy z z (f' z) z<|gy z z (as' z) z<|gy z z (e' 2 bo' z z z) z<|gy z z (L' y' c z) z<|gy z z (V' z z) z<|yy (o' z z) z<|sg z z<|nx<|j' ?_
  obtain rfl:_=r:=hr
  exact k' z z z
 ·refine mv z z<|sk z z z<|sk z z z<|sk z z z<|sk z z z<|sk z z z<|yy (l' z z) z<|sg z z<|nx<|j' ?_
  obtain rfl:_=r:=hr
  exact k' z z z
theorem hb'{i1 r}(hr:(Zi2 i1).Ret r):Ctr Tryz.prog 182 #[i' i1] (fun G=>True) (fun G v=>v = .int .u8 r):=by
 refine C' (args:=[_]) (N:=14) Tryz.func182 z z z fun l j u n=>sr<|sg z z<|nr<|sg z z<|nx<|h'<|sr<|sg z z<|nx<|ab' (fun (⟨g,d⟩:Int×Mem)=>[(3,i' g)]) (fun ⟨g,d⟩=>Mem.le j d∧(ZfT g).Ret r) (fun ⟨g,d⟩=>St l j d []) ?_ ?_
 ·refine A' ?_
  let i:Int→Prop:=fun o=>((fun s=>match s with|g=>ZfT g:Int→Comp Int) o).wp (fun a=>a=r)
  replace hr:(Comp.loop _ _).wp i:=hr
  refine ac' (Φ:=i) (fun (⟨e,f,c⟩:Int×Int×Mem)=>((e,f):Int×Int)) (fun ⟨e,f,c⟩=>[(0,i' i1),(3,i' e),(4,i' f)]) (fun ⟨e,f,c⟩=>Mem.le j c) (fun ⟨e,f,c⟩=>St l j c []) ⟨1,0,j⟩ hr (fc z (fc z (fc z fn))) mr (wk ln) ?_
  ·intro t p q hr
   obtain⟨e,f,c⟩:=p
   have h:=q
   refine h'<|sr<|mv z z<|mv z z<|yy (V' z z) z<|nx<|I' hr z (fun k hr=>?_) (fun k hr=>?_)
   ·refine n'<|b'<|h'<|A'<|w'<|mv z z<|yy (dJ' z z) z<|sg z z<|u'<|D'<|b'<|w'<|mv z z<|yy (N' z z) z<|sg z z<|u'<|O' ⟨IntKind.i64.wrap (2*e),IntKind.i64.wrap (f+1),c⟩ hr h (fc z (fc z (fc z fn))) (wk ln)
   ·refine ae'<|m'<|m'<|J'<|af' ⟨e,c⟩ ⟨h,hr⟩ (fc z fn) (wk ln)
 ·rintro⟨g,d⟩ ⟨m,hr⟩
  refine b'<|sr<|mv z z<|yy (aD' au' aT' z) z<|sg z z<|nx<|j' ?_
  obtain rfl:_=r:=hr
  exact k' z z z
theorem gx'{m1 r}(hr:(Zfc m1).Ret r):Ctr Tryz.prog 157 #[.agg (vecG (Value.int .i64) 8 m1).toArray] (fun G=>True) (fun G v=>v = .int .u8 r):=by
 refine C' (args:=[_]) (N:=18) Tryz.func157 z z z fun q j C t=>sr<|W' 1 z z z fun o=>sg z z<|nr<|sg z z<|nx<|h'<|sr<|sg z z<|nx<|ab' (fun (⟨h,f⟩:Int×Mem)=>[(3,.int .u8 h)]) (fun ⟨h,f⟩=>Mem.le j f∧(ZcW h).Ret r) (fun ⟨h,f⟩=>St q j f []) ?_ ?_
 ·refine A' ?_
  let i:Int→Prop:=fun u=>((fun A=>match A with|h=>ZcW h:Int→Comp Int) u).wp (fun a=>a=r)
  replace hr:(Comp.loop _ _).wp i:=hr
  refine ac' (Φ:=i) (fun (⟨d,g,c⟩:Int×Int×Mem)=>((d,g):Int×Int)) (fun ⟨d,g,c⟩=>[(1,.pointer (some ⟨o,0,none⟩)),(3,.int .u8 d),(4,i' g)]) (fun ⟨d,g,c⟩=>Mem.le j c) (fun ⟨d,g,c⟩=>St q j c [(1,some ⟨o,.cells (vecG (Value.int .i64) 8 m1).toArray 99 (0,0),0⟩)]) ⟨0,0,j⟩ hr (fc z (fc z (fc z fn))) mr (wk (lc z ln)) ?_
  ·intro B x y hr
   obtain⟨d,g,c⟩:=x
   have e:=y
   refine h'<|sr<|mv z z<|yy (V' z z) z<|nx<|I' hr z (fun n hr=>?_) (fun n hr=>?_)
   ·refine n'<|b'<|h'<|A'<|sr<|mv z z ?_
    obtain⟨k,hr⟩:=hr
    refine yy (aX' aG' sz3 z z k) z<|yy (e' 1 sc3 z z (bA' _ _ _ k)) z<|yy (bt' z z) z<|nx<|I' hr z (fun p hr=>?_) (fun p hr=>?_)
    ·refine w'<|mv z z<|mv z z ?_
     obtain⟨m,l,hr⟩:=hr
     refine H' z z (t' E182 z) (hb' l) z (trivial)<|yy (N' z z) z<|sg z z<|u'<|D'<|b'<|w'<|mv z z<|yy (N' z z) z<|sg z z<|u'<|O' ⟨IntKind.u8.wrap (d+m),IntKind.i64.wrap (g+1),c⟩ hr e (fc z (fc z (fc z fn))) (wk (lc z ln))
    ·refine n'<|D'<|b'<|w'<|mv z z<|yy (N' z z) z<|sg z z<|u'<|O' ⟨d,IntKind.i64.wrap (g+1),c⟩ hr e (fc z (fc z (fc z fn))) (wk (lc z ln))
   ·refine ae'<|m'<|m'<|J'<|af' ⟨d,c⟩ ⟨e,hr⟩ (fc z fn) (wk ln)
 ·rintro⟨h,f⟩ ⟨s,hr⟩
  refine b'<|sr<|mv z z<|sg z z<|nx<|j' ?_
  obtain rfl:_=r:=hr
  exact k' z z z
theorem eD'{p1 p1p p1c r}(hr:(Zc0 p1).Ret r):Ctr Tryz.prog 121 #[.slice p1p p1.length p1c] (fun G=>sl r' G p1p p1c p1) (fun G v=>v = .int .u8 r):=by
 refine C' (args:=[_]) (N:=20) Tryz.func121 z z z (fun q j B n=>?_)
 have k:=n
 refine sr<|sg z z<|nr<|sg z z<|nx<|h'<|sr<|sg z z<|nx<|ab' (fun (⟨d,g⟩:Int×Mem)=>[(3,.int .u8 d)]) (fun ⟨d,g⟩=>Mem.le j g∧(Zfj d).Ret r) (fun ⟨d,g⟩=>St q j g []) ?_ ?_
 ·refine A' ?_
  let i:Int→Prop:=fun t=>((fun y=>match y with|d=>Zfj d:Int→Comp Int) t).wp (fun a=>a=r)
  replace hr:(Comp.loop _ _).wp i:=hr
  refine ac' (Φ:=i) (fun (⟨c,h,f⟩:Int×Int×Mem)=>((c,h):Int×Int)) (fun ⟨c,h,f⟩=>[(0,.slice p1p p1.length p1c),(3,.int .u8 c),(4,i' h)]) (fun ⟨c,h,f⟩=>Mem.le j f) (fun ⟨c,h,f⟩=>St q j f []) ⟨0,0,j⟩ hr (fc z (fc z (fc z fn))) mr (wk ln) ?_
  ·intro A u x hr
   obtain⟨c,h,f⟩:=u
   have e:=x
   refine h'<|sr<|mv z z<|mv z z<|yy (L' R' (k.mono e) z) z<|yy (V' z z) z<|nx<|I' hr z (fun p hr=>?_) (fun p hr=>?_)
   ·refine n'<|b'<|h'<|A'<|w'<|mv z z<|mv z z<|mv z z ?_
    obtain⟨C,l,hr⟩:=hr
    refine yy (P' R' bC' (k.mono e) z z l) z<|yy (bn' z) z<|yy (ax' _ ca' z (Q' _ _ _) (cZ' (E' (aJ' (aA' (X' k l))) e))) z ?_
    obtain⟨o,m,hr⟩:=hr
    refine H' z z (t' E157 z) (gx' m) z (trivial)<|yy (Y0.or z z) z<|sg z z<|u'<|D'<|b'<|w'<|mv z z<|yy (N' z z) z<|sg z z<|u'<|O' ⟨IntKind.u8.wrap (BitVec.ofInt IntKind.u8.bits c ||| BitVec.ofInt IntKind.u8.bits o).toNat,IntKind.i64.wrap (h+1),f⟩ hr e (fc z (fc z (fc z fn))) (wk ln)
   ·refine ae'<|m'<|m'<|J'<|af' ⟨c,f⟩ ⟨e,hr⟩ (fc z fn) (wk ln)
 ·rintro⟨d,g⟩ ⟨s,hr⟩
  refine b'<|sr<|mv z z<|sg z z<|nx<|j' ?_
  obtain rfl:_=r:=hr
  exact k' z z z
theorem gT'{s1 atv1 s1varsp s1varsc s1eqsp s1eqsc s1neqsp s1neqsc r}(hr:(Zh1 s1 atv1).Ret r):Ctr Tryz.prog 74 #[.agg ((v33' s1 s1varsp s1varsc s1eqsp s1eqsc s1neqsp s1neqsc)).toArray,i' atv1] (fun G=>sl Rp.str G s1varsp s1varsc s1.vars∧sl a' G s1eqsp s1eqsc s1.eqs∧sl a' G s1neqsp s1neqsc s1.neqs) (fun G v=>v = .bool r):=by
 refine C' (args:=[_,_]) (N:=45) Tryz.func74 z z z (fun t n Y A=>?_)
 obtain⟨F,j,f⟩:=A
 refine sr<|W' 2 z z z fun p=>sg z z<|nx<|h'<|sr<|sg z z<|nx<|ab' (fun (c:Mem)=>match c with|g=>[(1,i' atv1),(2,.pointer (some ⟨p,0,none⟩))]) (fun (c:Mem)=>match c with|g=>Mem.le n g∧(Zdn s1 atv1).Ret r) (fun (c:Mem)=>match c with|g=>St t n g [(2,some ⟨p,.cells ((v33' s1 s1varsp s1varsc s1eqsp s1eqsc s1neqsp s1neqsc)).toArray 33 (0,0),0⟩)]) ?_ ?_
 ·refine A' ?_
  let q:(Bool⊕Unit)→Prop:=fun C=>((fun E=>match E with | .inl rv2=>Comp.ret rv2 | .inr ()=>Zdn s1 atv1:(Bool⊕Unit)→Comp Bool) C).wp (fun a=>a=r)
  replace hr:(Comp.loop _ _).wp q:=hr
  refine ac' (Φ:=q) (fun (⟨o,h⟩:Int×Mem)=>(o:Int)) (fun ⟨o,h⟩=>[(1,i' atv1),(2,.pointer (some ⟨p,0,none⟩)),(5,i' o)]) (fun ⟨o,h⟩=>Mem.le n h) (fun ⟨o,h⟩=>St t n h [(2,some ⟨p,.cells ((v33' s1 s1varsp s1varsc s1eqsp s1eqsc s1neqsp s1neqsc)).toArray 33 (0,0),0⟩)]) ⟨0,n⟩ hr (fc z (fc z (fc z fn))) mr (wk (lc z ln)) ?_
  ·intro V c D hr
   obtain⟨o,h⟩:=c
   have e:=D
   refine h'<|sr<|mv z z<|yy (az' z) z<|yy (e' 2 aS' z z z) z<|yy (L' q' (j.mono e) z) z<|yy (V' z z) z<|nx<|I' hr z (fun K hr=>?_) (fun K hr=>?_)
   ·refine n'<|b'<|h'<|A'<|sr<|yy (az' z) z<|yy (e' 2 aS' z z z) z<|mv z z ?_
    obtain⟨x2,x,hr⟩:=hr
    refine yy (P' q' aO' (j.mono e) z z x) z<|yy (bq' z) z ?_
    obtain⟨p2,U,Q,H⟩:=bU' (E' (aJ' (aA' (X' j x))) e)
    refine yy (T' bP' z (Q)) z ?_
    obtain⟨Z,B,hr⟩:=hr
    refine H' z z (t' E121 z) (eD' B) z (H)<|yy (aD' aT' au' z) z<|mv z z ?_
    obtain⟨M,hr⟩:=hr
    refine yy (Y0.shr z z M) z<|yy (bz' z z (by decide)) z<|yy (ak' z z) z<|nx<|I' hr z (fun I hr=>?_) (fun I hr=>?_)
    ·refine sr<|sg z z<|nx<|j' ?_
     replace hr:_=r:=hr
     refine x'<|g'<|g'<|x'<|aH'<|g' ?_
     subst hr
     exact k' z z z
    ·refine n'<|D'<|b'<|w'<|mv z z<|yy (N' z z) z<|sg z z<|u'<|O' ⟨IntKind.i64.wrap (o+1),h⟩ hr e (fc z (fc z (fc z fn))) (wk (lc z ln))
   ·refine ae'<|m'<|m'<|J'<|af' h ⟨e,hr⟩ (fc z (fc z fn)) (wk (lc z ln))
 ·rintro g ⟨k,hr⟩
  refine b'<|h'<|sr<|sg z z<|nx<|ab' (fun (c:Mem)=>match c with|l=>[]) (fun (c:Mem)=>match c with|l=>Mem.le g l∧(Zfp).Ret r) (fun (c:Mem)=>match c with|l=>St t n l []) ?_ ?_
  ·refine A' ?_
   let s:(Bool⊕Unit)→Prop:=fun C=>((fun E=>match E with | .inl rv1=>Comp.ret rv1 | .inr ()=>Zfp:(Bool⊕Unit)→Comp Bool) C).wp (fun a=>a=r)
   replace hr:(Comp.loop _ _).wp s:=hr
   refine ac' (Φ:=s) (fun (⟨m,i⟩:Int×Mem)=>(m:Int)) (fun ⟨m,i⟩=>[(1,i' atv1),(2,.pointer (some ⟨p,0,none⟩)),(6,i' m)]) (fun ⟨m,i⟩=>Mem.le g i) (fun ⟨m,i⟩=>St t n i [(2,some ⟨p,.cells ((v33' s1 s1varsp s1varsc s1eqsp s1eqsc s1neqsp s1neqsc)).toArray 33 (0,0),0⟩)]) ⟨0,g⟩ hr (fc z (fc z (fc z fn))) mr (wk (lc z ln)) ?_
   ·intro X c D hr
    obtain⟨m,i⟩:=c
    have d:=D
    refine h'<|sr<|mv z z<|yy (aK' z) z<|yy (e' 2 aS' z z z) z<|yy (L' q' (f.mono (mt k d)) z) z<|yy (V' z z) z<|nx<|I' hr z (fun J hr=>?_) (fun J hr=>?_)
    ·refine n'<|b'<|h'<|A'<|sr<|yy (aK' z) z<|yy (e' 2 aS' z z z) z<|mv z z ?_
     obtain⟨x1,u,hr⟩:=hr
     refine yy (P' q' aO' (f.mono (mt k d)) z z u) z<|yy (bq' z) z ?_
     obtain⟨p1,W,P,R⟩:=bU' (E' (aJ' (aA' (X' f u))) (mt k d))
     refine yy (T' bP' z (P)) z ?_
     obtain⟨T,y,hr⟩:=hr
     refine H' z z (t' E121 z) (eD' y) z (R)<|yy (aD' aT' au' z) z<|mv z z ?_
     obtain⟨O,hr⟩:=hr
     refine yy (Y0.shr z z O) z<|yy (bz' z z (by decide)) z<|yy (ak' z z) z<|nx<|I' hr z (fun L hr=>?_) (fun L hr=>?_)
     ·refine sr<|sg z z<|nx<|j' ?_
      replace hr:_=r:=hr
      refine x'<|g'<|g'<|x'<|aH'<|g' ?_
      subst hr
      exact k' z z z
     ·refine n'<|D'<|b'<|w'<|mv z z<|yy (N' z z) z<|sg z z<|u'<|O' ⟨IntKind.i64.wrap (m+1),i⟩ hr d (fc z (fc z (fc z fn))) (wk (lc z ln))
    ·refine ae'<|m'<|m'<|J'<|af' i ⟨d,hr⟩ fn (wk ln)
  ·rintro l ⟨S,hr⟩
   refine b'<|sr<|sg z z<|nx<|j' ?_
   obtain rfl:_=r:=hr
   exact k' z z z
theorem dp'{l1 id1 l1p l1c r}(hr:(Zb6 l1 id1).Ret r):Ctr Tryz.prog 43 #[.slice l1p l1.length l1c,i' id1] (fun G=>sl a' G l1p l1c l1) (fun G v=>v=i' r):=by
 refine C' (args:=[_,_]) (N:=20) Tryz.func43 z z z (fun o i x l=>?_)
 have j:=l
 refine sr<|sg z z<|nx<|h'<|sr<|sg z z<|nx<|ab' (fun (g:Mem)=>match g with|e=>[]) (fun (g:Mem)=>match g with|e=>Mem.le i e∧(Zfo).Ret r) (fun (g:Mem)=>match g with|e=>St o i e []) ?_ ?_
 ·refine A' ?_
  let h:(Int⊕Unit)→Prop:=fun q=>((fun t=>match t with | .inl rv1=>Comp.ret rv1 | .inr ()=>Zfo:(Int⊕Unit)→Comp Int) q).wp (fun a=>a=r)
  replace hr:(Comp.loop _ _).wp h:=hr
  refine ac' (Φ:=h) (fun (⟨f,d⟩:Int×Mem)=>(f:Int)) (fun ⟨f,d⟩=>[(0,.slice l1p l1.length l1c),(1,i' id1),(5,i' f)]) (fun ⟨f,d⟩=>Mem.le i d) (fun ⟨f,d⟩=>St o i d []) ⟨0,i⟩ hr (fc z (fc z (fc z fn))) mr (wk ln) ?_
  ·intro u g s hr
   obtain⟨f,d⟩:=g
   have c:=s
   refine h'<|sr<|mv z z<|mv z z<|yy (L' q' (j.mono c) z) z<|yy (V' z z) z<|nx<|I' hr z (fun m hr=>?_) (fun m hr=>?_)
   ·refine n'<|b'<|h'<|A'<|sr<|mv z z<|mv z z ?_
    obtain⟨y,k,hr⟩:=hr
    refine yy (P' q' aO' (j.mono c) z z k) z<|yy (bc' z) z<|yy (T' sc3 z (aC' (E' (bb' (aA' (X' j k))) c))) z<|mv z z<|yy (ak' z z) z<|nx<|I' hr z (fun n hr=>?_) (fun n hr=>?_)
    ·refine sr<|mv z z<|sg z z<|nx<|j' ?_
     replace hr:_=r:=hr
     refine x'<|g'<|g'<|x'<|aH'<|g' ?_
     subst hr
     exact k' z z z
    ·refine n'<|D'<|b'<|w'<|mv z z<|yy (N' z z) z<|sg z z<|u'<|O' ⟨IntKind.i64.wrap (f+1),d⟩ hr c (fc z (fc z (fc z fn))) (wk ln)
   ·refine ae'<|m'<|m'<|J'<|af' d ⟨c,hr⟩ fn (wk ln)
 ·rintro e ⟨p,hr⟩
  refine b'<|sr<|sg z z<|nx<|j' ?_
  obtain rfl:_=r:=hr
  exact k' z z z
theorem go'{s1 id1 s1varsp s1varsc s1eqsp s1eqsc s1neqsp s1neqsc r}(hr:(Zhr s1 id1).Ret r):Ctr Tryz.prog 122 #[.agg ((v33' s1 s1varsp s1varsc s1eqsp s1eqsc s1neqsp s1neqsc)).toArray,i' id1] (fun G=>sl Rp.str G s1varsp s1varsc s1.vars∧sl a' G s1eqsp s1eqsc s1.eqs∧sl a' G s1neqsp s1neqsc s1.neqs) (fun G v=>v = .bool r):=by
 refine C' (args:=[_,_]) (N:=17) Tryz.func122 z z z (fun m o k e=>?_)
 obtain⟨h,d,c⟩:=e
 refine sr<|W' 2 z z z fun n=>sg z z<|nr<|yy (az' z) z<|yy (e' 2 aS' z z z) z<|mv z z ?_
 obtain⟨j,g,hr⟩:=hr
 refine H' z z (t' E43 z) (dp' g) z (d)<|aj' hr z (be' z z) z (fun i hr=>?_) (fun i hr=>?_)
 ·refine mv z z<|sf z z z<|sf z z z<|sf z z z<|sf z z z<|sf z z z<|yy (o' z z) z<|sg z z<|nx<|j' ?_
  obtain rfl:_=r:=hr
  exact k' z z z
 ·refine mv z z<|gy z z (aK' z) z<|gy z z (e' 2 aS' z z z) z<|gy z z (f' z) z ?_
  obtain⟨l,f,hr⟩:=hr
  refine H' (F' z z) z (t' E43 z) (dp' f) z (c)<|gy z z (be' z z) z<|yy (l' z z) z<|sg z z<|nx<|j' ?_
  obtain rfl:_=r:=hr
  exact k' z z z
theorem fH'{a1 a1magp a1magc r}(hr:(Zgz a1).Ret r):Ctr Tryz.prog 183 #[.agg ((v58' a1 a1magp a1magc)).toArray] (fun G=>sl (Rp.int .u32) G a1magp a1magc a1.mag) (fun G v=>v = .bool r):=by
 refine C' (args:=[_]) (N:=19) Tryz.func183 z z z (fun h k g e=>?_)
 have c:=e
 refine sr<|W' 1 z z z fun i=>sg z z<|nr<|yy (aP' z) z<|yy (e' 1 bJ' z z z) z<|yy (L' B' c z) z<|sg z z<|nx<|h'<|sr<|mv z z<|yy (ak' z z) z<|nx<|I' hr z (fun f hr=>?_) (fun f hr=>?_)
 ·exact (show False from hr).elim
 ·refine n'<|b'<|sr<|yy (aP' z) z<|yy (e' 1 bJ' z z z) z<|mv z z<|yy (bf' z z) z ?_
  obtain⟨j,d,hr⟩:=hr
  refine yy (P' B' bi' c z z d) z<|yy (T' bH' z (aC' (X' c d))) z<|yy (aQ' z z) z<|sg z z<|nx<|j' ?_
  obtain rfl:_=r:=hr
  exact k' z z z
theorem hc'{a1 b1 a1magp a1magc b1magp b1magc r}(hr:(Zlo a1 b1).Ret r):Ctr Tryz.prog 184 #[.agg ((v58' a1 a1magp a1magc)).toArray,.agg ((v58' b1 b1magp b1magc)).toArray] (fun G=>sl (Rp.int .u32) G a1magp a1magc a1.mag∧sl (Rp.int .u32) G b1magp b1magc b1.mag) (fun G v=>v=i' r):=by
 refine C' (args:=[_,_]) (N:=31) Tryz.func184 z z z (fun F E y g=>?_)
 obtain⟨c,d⟩:=g
 refine sr<|W' 2 z z z fun C=>W' 3 z z z fun D=>sg z z<|nx<|h'<|sr<|yy (bp' z) z<|aj' hr z (cN' (e' 2 sc4 z z z) (congrArg Value.bool (bdec _))) z (fun m hr=>?_) (fun m hr=>?_)
 ·refine mv z z<|gy z z (bp' z) z<|gy z z (e' 3 sc4 z z z) z<|gy z z (an' z) z<|yy (o' z z) z<|nx<|aM' hr z (fun l hr=>?_) (fun l hr=>?_)
  ·exact (show False from hr).elim
  ·refine n'<|b'<|h'<|sr<|yy (bp' z) z<|aj' hr z (cN' (e' 2 sc4 z z z) (congrArg Value.bool (bdec _))) z (fun o hr=>?_) (fun o hr=>?_)
   ·refine yy (an' z) z<|mv z z<|sk z z z<|sk z z z<|yy (l' z z) z<|nx<|bh' z<|n'<|b'<|h'<|sr<|yy (bp' z) z<|yy (e' 2 sc4 z z z) z<|nx<|aM' hr z (fun p hr=>?_) (fun p hr=>?_)
    ·exact (show False from hr).elim
    ·refine n'<|b'<|sr<|yy (aP' z) z<|yy (e' 2 bJ' z z z) z<|yy (aP' z) z<|yy (e' 3 bJ' z z z) z ?_
     obtain⟨u,f,hr⟩:=hr
     refine H' z z (t' E167 z) (cS' f) z (⟨c,d⟩)<|sg z z<|nx<|j' ?_
     obtain rfl:_=r:=hr
     exact k' z z z
   ·refine yy (an' z) z<|mv z z<|gy z z (bp' z) z<|gy z z (e' 3 sc4 z z z) z<|yy (o' z z) z<|nx<|aM' hr z (fun n hr=>?_) (fun n hr=>?_)
    ·exact (show False from hr).elim
    ·refine n'<|b'<|h'<|sr<|yy (bp' z) z<|yy (e' 2 sc4 z z z) z<|nx<|aM' hr z (fun k hr=>?_) (fun k hr=>?_)
     ·exact (show False from hr).elim
     ·refine n'<|b'<|sr<|yy (aP' z) z<|yy (e' 2 bJ' z z z) z<|yy (aP' z) z<|yy (e' 3 bJ' z z z) z ?_
      obtain⟨B,i,hr⟩:=hr
      refine H' z z (t' E167 z) (cS' i) z (⟨c,d⟩)<|sg z z<|nx<|j' ?_
      obtain rfl:_=r:=hr
      exact k' z z z
 ·refine mv z z<|sk z z z<|sk z z z<|sk z z z<|yy (l' z z) z<|nx<|bh' z<|n'<|b'<|h'<|sr<|yy (bp' z) z<|aj' hr z (cN' (e' 2 sc4 z z z) (congrArg Value.bool (bdec _))) z (fun t hr=>?_) (fun t hr=>?_)
  ·refine yy (an' z) z<|mv z z<|sk z z z<|sk z z z<|yy (l' z z) z<|nx<|bh' z<|n'<|b'<|h'<|sr<|yy (bp' z) z<|yy (e' 2 sc4 z z z) z<|nx<|aM' hr z (fun q hr=>?_) (fun q hr=>?_)
   ·exact (show False from hr).elim
   ·refine n'<|b'<|sr<|yy (aP' z) z<|yy (e' 2 bJ' z z z) z<|yy (aP' z) z<|yy (e' 3 bJ' z z z) z ?_
    obtain⟨x,h,hr⟩:=hr
    refine H' z z (t' E167 z) (cS' h) z (⟨c,d⟩)<|sg z z<|nx<|j' ?_
    obtain rfl:_=r:=hr
    exact k' z z z
  ·refine yy (an' z) z<|mv z z<|gy z z (bp' z) z<|gy z z (e' 3 sc4 z z z) z<|yy (o' z z) z<|nx<|aM' hr z (fun s hr=>?_) (fun s hr=>?_)
   ·exact (show False from hr).elim
   ·refine n'<|b'<|h'<|sr<|yy (bp' z) z<|yy (e' 2 sc4 z z z) z<|nx<|aM' hr z (fun j hr=>?_) (fun j hr=>?_)
    ·exact (show False from hr).elim
    ·refine n'<|b'<|sr<|yy (aP' z) z<|yy (e' 2 bJ' z z z) z<|yy (aP' z) z<|yy (e' 3 bJ' z z z) z ?_
     obtain⟨A,e,hr⟩:=hr
     refine H' z z (t' E167 z) (cS' e) z (⟨c,d⟩)<|sg z z<|nx<|j' ?_
     obtain rfl:_=r:=hr
     exact k' z z z
end Go.Proofs.YtenaadodnembpaaGreat

