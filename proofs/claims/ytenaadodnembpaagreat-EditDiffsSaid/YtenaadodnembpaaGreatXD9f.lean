/- The law EditDiffs holds for every input: a part of its proof (what the code does, plain models, and what they return). No condition. -/
import Derived.Test.YtenaadodnembpaaGreatXD9e
set_option linter.unusedVariables false
set_option linter.unusedSimpArgs false
namespace Go.Proofs.YtenaadodnembpaaGreat
open Go Go.EL Go.RowKit Go.Proofs
theorem cq'{slices1 slices1p slices1c r}(hr:(ZO slices1).Ret r):Ctr Tryz.prog 105 #[.slice slices1p slices1.length slices1c] (fun G=>sl (Rp.sl a') G slices1p slices1c slices1) (fun G v=>∃ zp zc,v = .slice zp r.length zc∧sl a' G zp zc r):=by
 refine C' (args:=[_]) (N:=36) Tryz.func105 z z z (fun M I J Y=>?_)
 have n:=Y
 have hz:M.L.zero:=by rw[J]; intro p hp; simp at hp
 refine sr<|sg z z<|nr<|sg z z<|nx<|h'<|sr<|mv z z<|yy (L' bv' n z) z<|mv z z<|nx<|aa' (fun (⟨q,H⟩:Int×Mem)=>[(0,.slice slices1p slices1.length slices1c),(3,i' q)]) (fun ⟨q,H⟩=>Mem.le I H∧(ZB slices1 q).Ret r) (fun ⟨q,H⟩=>St M I H []) ?_ ?_
 ·refine B' ?_
  let Q:Int→Prop:=fun oo=>((fun W=>match W with|q=>ZB slices1 q:Int→Comp (List Za)) oo).wp (fun a=>a=r)
  replace hr:(Comp.loop _ _).wp Q:=hr
  refine ab' (Φ:=Q) (fun (⟨o,t,y⟩:Int×Int×Mem)=>((o,t):Int×Int)) (fun ⟨o,t,y⟩=>[(0,.slice slices1p slices1.length slices1c),(3,i' o),(9,.slice slices1p slices1.length slices1c),(10,i' (slices1.length:Int)),(11,i' t)]) (fun ⟨o,t,y⟩=>Mem.le I y) (fun ⟨o,t,y⟩=>St M I y []) ⟨0,0,I⟩ hr (fc z (fc z (fc z (fc z (fc z fn))))) mr (wk ln) ?_
  ·intro aG gx X hr
   obtain⟨o,t,y⟩:=gx
   have B:=X
   refine sr<|yy (V' z z) z<|nx<|h'<|I' hr z (fun aj hr=>?_) (fun aj hr=>?_)
   ·refine o'<|e'<|h'<|B'<|sr ?_
    obtain⟨x2,S,hr⟩:=hr
    refine yy (Q' bv' cr' (n.mono B) z z S) z ?_
    obtain⟨p3,aD,ag,ai⟩:=ca' (E' (Z' n S) B)
    refine yy (U' aS' z (ag)) z<|sg z z<|nr<|mv z z<|mv z z<|yy (L' q' ai z) z<|yy (N' z z) z<|sg z z<|nr<|mv z z<|yy (V' z z) z<|nx<|I' hr z (fun an hr=>?_) (fun an hr=>?_)
    ·exact (show False from hr).elim
    ·refine o'<|D'<|e'<|w'<|yy (N' z z) z<|mv z z<|u'<|P' ⟨IntKind.i64.wrap (o+(x2.length:Int)),IntKind.i64.wrap (t+1),y⟩ hr B (fc z (fc z (fc z (fc z (fc z fn))))) (wk ln)
   ·refine ad'<|n'<|n'<|J'<|ae' ⟨o,y⟩ ⟨B,hr⟩ (fc z (fc z fn)) (wk ln)
 ·rintro⟨q,H⟩ ⟨D,hr⟩
  refine e'<|sr<|mv z z ?_
  obtain⟨ah,ae,hr⟩:=hr
  refine cc' z z (s' E145 z) (da' ae) z trivial ln hz (fun aA P ay F K=>?_)
  obtain⟨V,af,R,rfl,rfl,ad⟩:=K
  refine bt' (fun w L=>L.rekey (i:=7000) (j:=4024) z (by rw[J]; rfl))<|sg z z<|nx<|h'<|sr<|mv z z<|yy (L' bv' (n.mono (mt D F)) z) z<|mv z z<|nx<|aa' (fun (⟨d,m,l,k,C⟩:(List Za)×Option Addr×Nat×Option Ow×Mem)=>[(6,.slice m d.length l)]) (fun ⟨d,m,l,k,C⟩=>Mem.le P C∧RowR a' 68 C (.slice m d.length l) d k∧(ZL d).Ret r) (fun ⟨d,m,l,k,C⟩=>St M I C [(4006,k)]) ?_ ?_
  ·refine B' ?_
   let O:(List Za)→Prop:=fun oo=>((fun W=>match W with|d=>ZL d:(List Za)→Comp (List Za)) oo).wp (fun a=>a=r)
   replace hr:(Comp.loop _ _).wp O:=hr
   refine ab' (Φ:=O) (fun (⟨c,h,g,f,s,x⟩:(List Za)×Option Addr×Nat×Option Ow×Int×Mem)=>((c,s):(List Za)×Int)) (fun ⟨c,h,g,f,s,x⟩=>[(6,.slice h c.length g),(25,.slice slices1p slices1.length slices1c),(26,i' (slices1.length:Int)),(27,i' s)]) (fun ⟨c,h,g,f,s,x⟩=>Mem.le P x∧RowR a' 68 x (.slice h c.length g) c f) (fun ⟨c,h,g,f,s,x⟩=>St M I x [(4006,f)]) ⟨ah,V,af,R,0,P⟩ hr (fc z (fc z (fc z (fc z fn)))) ⟨mr,ad⟩ ?_ ?_
   ·intro w L
    have L:=L.rekey (i:=4024) (j:=4006) z (by rw[J]; rfl)
    exact L.weaken (lc z ln)
   ·intro aI gx X hr
    obtain⟨c,h,g,f,s,x⟩:=gx
    obtain⟨A,u⟩:=X
    refine sr<|yy (V' z z) z<|nx<|h'<|I' hr z (fun ap hr=>?_) (fun ap hr=>?_)
    ·refine o'<|e'<|h'<|B'<|sr ?_
     obtain⟨x1,T,hr⟩:=hr
     refine yy (Q' bv' cr' (n.mono (mt (mt D F) A)) z z T) z ?_
     obtain⟨p1,aH,ar,aq⟩:=ca' (E' (Z' n T) (mt (mt D F) A))
     refine yy (U' aS' z (ar)) z<|sg z z<|nx<|w'<|mv z z<|mv z z ?_
     obtain⟨aa,hr⟩:=hr
     refine bO' (r:=a') (e:=68) 4006 z z q' el68 z (by decide) z z u z aq aa fun p2 ao U am=>sg z z<|u'<|D'<|e'<|w'<|yy (N' z z) z<|mv z z<|u'<|P' ⟨(c++x1),p2,ao,U,IntKind.i64.wrap (s+1),x⟩ hr ⟨A,am⟩ (fc z (fc z (fc z (fc z fn)))) (wk (lc z ln))
    ·refine ad'<|n'<|n'<|J'<|ae' ⟨c,h,g,f,x⟩ ⟨A,u,hr⟩ (fc z fn) (wk (lc z ln))
  ·rintro⟨d,m,l,k,C⟩ ⟨au,E,hr⟩
   refine e'<|sr<|mv z z<|sg z z<|nx<|j' ?_
   obtain rfl:_=r:=hr
   refine dB' (r:=a') (e:=68) 4006 E z (by rw[J]; rfl) fun aF aE av Z aw=>k' z z ⟨_,_,z,Z⟩
theorem fp'(e:Int)(d:Zb)(h:Nat)(l:Nat)(r:Bool)(hr:(ZS e d).Ret r):Ctr Tryz.prog 147 #[.pointer (some ⟨h,0,none⟩),.pointer (some ⟨l,0,none⟩)] (fun G=>At (Rp.int .i64) G h 0 e∧At bp' G l 0 d) (fun G v=>v = .bool r):=by
 refine C' (args:=[_,_]) (N:=12) Tryz.func147 z z z (fun o p n g=>?_)
 obtain⟨c,f⟩:=g
 refine sr<|sg z z<|nr<|yy (U' sc3 z (aC' c)) z<|aj' hr z (bz' z z) z (fun j hr=>?_) (fun j hr=>?_)
 ·refine mv z z<|gy z z (U' sc3 z (aC' c)) z<|gy z z (ar' z) z ?_
  obtain⟨q,m,i,k⟩:=ca' (be' (aF' f))
  refine gy z z (U' bn' z (i)) z<|gy z z (L' A' k z) z<|gy z z (V' z z) z<|yy (m' z z) z<|sg z z<|nx<|j' ?_
  obtain rfl:_=r:=hr
  exact k' z z z
 ·refine mv z z<|sk z z z<|sk z z z<|sk z z z<|sk z z z<|sk z z z<|yy (l' z z) z<|sg z z<|nx<|j' ?_
  obtain rfl:_=r:=hr
  exact k' z z z
theorem dV'{s1 i1 s1varsp s1varsc s1eqsp s1eqsc s1neqsp s1neqsc r}(hr:(Zcq s1 i1).Ret r):Ctr Tryz.prog 107 #[.agg ((v33' s1 s1varsp s1varsc s1eqsp s1eqsc s1neqsp s1neqsc)).toArray,i' i1] (fun G=>sl Rp.str G s1varsp s1varsc s1.vars∧sl a' G s1eqsp s1eqsc s1.eqs∧sl a' G s1neqsp s1neqsc s1.neqs) (fun G v=>∃ n s,v=n∧FnRd Tryz.prog fa0 foB G n s r):=by
 refine C' (args:=[_,_]) (N:=6) Tryz.func107 z z z (fun B C i k=>?_)
 obtain⟨f,g,e⟩:=k
 refine sr<|W' 121402 z z z fun o=>W' 121403 z z z fun t=>sg z z<|nx<|h'<|bA' 121403 z (by rw[i]; rfl) fun y d j u=>bA' 121402 z (by rw[i]; rfl) fun m c l p=>w'<|yy (bK' z z) z<|sg z z<|nx<|j' ?_
 obtain rfl:_=r:=hr
 exact k' z z ⟨_,_,z,(show FnRd Tryz.prog fa0 foB m (.func (.func 147) #[] #[.pointer (some ⟨t,0,none⟩),.pointer (some ⟨o,0,none⟩)]) () (fun _=>ZS i1 s1) from (dc' E147 (fun x q=>dd' (fp' _ _ _ _ x q) (fun A h=>⟨(E' (ch' (r:=(Rp.int .i64)) (cs:=[i' i1]) j z z) (mt c h)),(E' (ch' (r:=bp') (cs:=(v33' s1 s1varsp s1varsc s1eqsp s1eqsc s1neqsp s1neqsc)) l z ⟨[.slice s1varsp s1.vars.length s1varsc],[.slice s1eqsp s1.eqs.length s1eqsc,.slice s1neqsp s1.neqs.length s1neqsc,i' s1.next],z,⟨_,z,(f.mono (mt d c))⟩,⟨[.slice s1eqsp s1.eqs.length s1eqsc],[.slice s1neqsp s1.neqs.length s1neqsc,i' s1.next],z,⟨_,z,(g.mono (mt d c))⟩,⟨[.slice s1neqsp s1.neqs.length s1neqsc],[i' s1.next],z,⟨_,z,(e.mono (mt d c))⟩,z⟩⟩⟩) h)⟩))))⟩
theorem eW'(c:Zb)(o:Zd)(O:Nat)(H:Nat)(r:Bool)(hr:(Zar c o).Ret r):Ctr Tryz.prog 104 #[.pointer (some ⟨O,0,none⟩),.pointer (some ⟨H,0,none⟩)] (fun G=>At bp' G O 0 c∧At ag' G H 0 o) (fun G v=>v = .bool r):=by
 refine C' (args:=[_,_]) (N:=25) Tryz.func104 z z z (fun Q U T F=>?_)
 obtain⟨m,y⟩:=F
 refine sr<|sg z z<|nx<|h'<|sr<|yy (ax' z) z ?_
 obtain⟨D,s,X,V⟩:=ca' (be' (aK' (aF' m)))
 refine yy (U' aS' z (X)) z<|yy (aL' z) z ?_
 obtain⟨t,l,W,R⟩:=ca' (be' (aK' (aK' (aF' m))))
 refine yy (U' aS' z (W)) z<|aU' (e:=31) (r:=(Rp.sl a')) (vs:=#[(0,.slice D c.eqs.length s),(1,.slice t c.neqs.length l)]) (cs:=[.slice D c.eqs.length s]++([.slice t c.neqs.length l]++([]))) ([c.eqs,c.neqs]:List (List Za)) z z z z z (by decide) (fun _=>by kernel_rfl) ⟨[.slice D c.eqs.length s],[.slice t c.neqs.length l]++([]),z,⟨_,z,V⟩,⟨[.slice t c.neqs.length l],[],z,⟨_,z,R⟩,z⟩⟩ (key:=999) z (by rw[T]; rfl) (fun p3 ah x L=>?_)
 obtain⟨A,J,hr⟩:=hr
 refine M' z z (s' E105 z) (cq' J) z (L) (fun ad p u n=>?_)
 obtain⟨E,K,rfl,k⟩:=n
 refine yy (L' q' k z) z<|mv z z<|nx<|aa' (fun (j:Mem)=>match j with|i=>[]) (fun (j:Mem)=>match j with|i=>Mem.le p i∧(Zbb).Ret r) (fun (j:Mem)=>match j with|i=>St Q U i []) ?_ ?_
 ·refine B' ?_
  let q:(Bool⊕Unit)→Prop:=fun oo=>((fun ov=>match ov with | .inl rv1=>Comp.ret rv1 | .inr ()=>Zbb:(Bool⊕Unit)→Comp Bool) oo).wp (fun a=>a=r)
  replace hr:(Comp.loop _ _).wp q:=hr
  refine ab' (Φ:=q) (fun (⟨d,g⟩:Int×Mem)=>(d:Int)) (fun ⟨d,g⟩=>[(1,.pointer (some ⟨H,0,none⟩)),(10,.slice E A.length K),(11,i' (A.length:Int)),(12,i' d)]) (fun ⟨d,g⟩=>Mem.le p g) (fun ⟨d,g⟩=>St Q U g []) ⟨0,p⟩ hr (fc z (fc z (fc z (fc z fn)))) mr (wk ln) ?_
  ·intro aj j hx hr
   obtain⟨d,g⟩:=j
   have f:=hx
   refine sr<|yy (V' z z) z<|nx<|h'<|I' hr z (fun S hr=>?_) (fun S hr=>?_)
   ·refine o'<|e'<|h'<|B'<|sr ?_
    obtain⟨x1,B,hr⟩:=hr
    refine yy (Q' q' aP' (k.mono f) z z B) z ?_
    obtain⟨aa,ab,P,C⟩:=ba' (E' (Z' k B) f)
    refine yy (aw' _ bI' z z P) z<|T' 4 z z68 z fun b3=>v' 4 z aP' z z z z z (List.all_eq_true.1 z)<|nx<|h'<|Y' [false,false,false,false,false,false] mix (by kernel_rfl) fun hb=>cn (fun _ h=>bs' z)<|cn (fun _ h=>b' 4 bQ' z z z) ?_
    obtain⟨ai,I,hr⟩:=hr
    refine bB' z (fun _=>s' E106 z) (cG' I) z (fun G' h=>(C.mono h))<|cn (fun _ h=>ay' z)<|cn (fun _ h=>U' sc3 z (aC' (E' (E' (be' (aK' (aK' (aF' y)))) (mt (mt x u) f)) h))) ?_
    obtain⟨Y,hr⟩:=hr
    refine cn (fun _ h=>Y0.shl z z Y)<|X' hb<|yy (Y0.and z z) z<|yy (aR' z z) z<|u'<|am'<|e'<|I' hr z (fun M hr=>?_) (fun M hr=>?_)
    ·refine sr<|sg z z<|nx<|j' ?_
     replace hr:_=r:=hr
     refine x'<|g'<|g'<|x'<|aI'<|g' ?_
     subst hr
     exact k' z z z
    ·refine o'<|D'<|e'<|w'<|yy (N' z z) z<|mv z z<|u'<|P' ⟨IntKind.i64.wrap (d+1),g⟩ hr f (fc z (fc z (fc z (fc z fn)))) (wk ln)
   ·refine ad'<|n'<|n'<|J'<|ae' g ⟨f,hr⟩ fn (wk ln)
 ·rintro i ⟨Z,hr⟩
  refine e'<|sr<|sg z z<|nx<|j' ?_
  obtain rfl:_=r:=hr
  exact k' z z z
theorem fV'{s1 ev1 s1varsp s1varsc s1eqsp s1eqsc s1neqsp s1neqsc ev1pp ev1pc r}(hr:(Zd2 s1 ev1).Ret r):Ctr Tryz.prog 65 #[.agg ((v33' s1 s1varsp s1varsc s1eqsp s1eqsc s1neqsp s1neqsc)).toArray,.agg ([i' ev1.kind,.string ev1.name,i' ev1.at',i' ev1.to',i' ev1.id,.slice ev1pp ev1.p.length ev1pc,.bool ev1.neq]).toArray] (fun G=>sl Rp.str G s1varsp s1varsc s1.vars∧sl a' G s1eqsp s1eqsc s1.eqs∧sl a' G s1neqsp s1neqsc s1.neqs∧sl r' G ev1pp ev1pc ev1.p) (fun G v=>∃ o t C D A y,v = .tuple #[.agg ((v33' r.1 o t C D A y)).toArray,i' r.2]∧sl Rp.str G o t r.1.vars∧sl a' G C D r.1.eqs∧sl a' G A y r.1.neqs):=by
 refine C' (args:=[_,_]) (N:=60) Tryz.func65 z z z (fun w0 L q aI=>?_)
 obtain⟨h,n,l,aq⟩:=aI
 have hz:w0.L.zero:=by rw[q]; intro p hp; simp at hp
 refine sr<|W' 113002 z z z fun b1=>W' 113003 z z z fun b2=>T' 4 z z33 z fun b3=>sg z z<|nr<|yy (ar' z) z<|yy (b' 113002 bn' z z z) z<|yy (L' A' h z) z<|sg z z<|nx<|h'<|bA' 113002 z (by rw[q]; rfl) fun bG c aA ay=>bA' 113003 z (by rw[q]; rfl) fun aU g az ax=>w'<|yy (bK' z z) z<|sg z z<|nr<|yy (t' 113002 ai' z z z) z<|yy (ay' z) z<|yy (b' 113003 sc3 z z z) z ?_
 obtain⟨bw,aT,hr⟩:=hr
 refine M' z z (s' E107 z) (dV' aT) z (⟨(h.mono (mt c g)),(n.mono (mt c g)),(l.mono (mt c g))⟩) (fun bs bz T aa=>?_)
 obtain⟨bn,bv,rfl,aS⟩:=aa
 obtain⟨a1,aL,hr⟩:=hr
 refine M' z z (s' E94 z) (bo' aL) z (aS) (fun bq bx R af=>?_)
 obtain⟨bm,a8,rfl,aj⟩:=af
 refine mv z z ?_
 obtain⟨aZ,aJ,hr⟩:=hr
 refine M' z z (s' E94 z) (bo' aJ) z (((show FnRd Tryz.prog fa0 foB aU (.func (.func 104) #[] #[.pointer (some ⟨b1,0,none⟩),.pointer (some ⟨b2,0,none⟩)]) () (fun _=>Zar s1 ev1) from (dc' E104 (fun x hx=>dd' (eW' _ _ _ _ x hx) (fun G' d=>⟨(E' (ch' (r:=bp') (cs:=(v33' s1 s1varsp s1varsc s1eqsp s1eqsc s1neqsp s1neqsc)) aA z ⟨[.slice s1varsp s1.vars.length s1varsc],[.slice s1eqsp s1.eqs.length s1eqsc,.slice s1neqsp s1.neqs.length s1neqsc,i' s1.next],z,⟨_,z,(h.mono c)⟩,⟨[.slice s1eqsp s1.eqs.length s1eqsc],[.slice s1neqsp s1.neqs.length s1neqsc,i' s1.next],z,⟨_,z,(n.mono c)⟩,⟨[.slice s1neqsp s1.neqs.length s1neqsc],[i' s1.next],z,⟨_,z,(l.mono c)⟩,z⟩⟩⟩) (mt g d)),(E' (ch' (r:=ag') (cs:=[i' ev1.kind,.string ev1.name,i' ev1.at',i' ev1.to',i' ev1.id,.slice ev1pp ev1.p.length ev1pc,.bool ev1.neq]) az z ⟨[i' ev1.kind],[.string ev1.name,i' ev1.at',i' ev1.to',i' ev1.id,.slice ev1pp ev1.p.length ev1pc,.bool ev1.neq],z,z,⟨[.string ev1.name],[i' ev1.at',i' ev1.to',i' ev1.id,.slice ev1pp ev1.p.length ev1pc,.bool ev1.neq],z,z,⟨[i' ev1.at'],[i' ev1.to',i' ev1.id,.slice ev1pp ev1.p.length ev1pc,.bool ev1.neq],z,z,⟨[i' ev1.to'],[i' ev1.id,.slice ev1pp ev1.p.length ev1pc,.bool ev1.neq],z,z,⟨[i' ev1.id],[.slice ev1pp ev1.p.length ev1pc,.bool ev1.neq],z,z,⟨[.slice ev1pp ev1.p.length ev1pc],[.bool ev1.neq],z,⟨_,z,(aq.mono (mt c g))⟩,z⟩⟩⟩⟩⟩⟩) d)⟩)))).mono (mt T R))) (fun bd bC W X=>?_)
 obtain⟨bj,bf,rfl,ah⟩:=X
 obtain⟨ai,K,rfl⟩:=bX' aj
 obtain⟨U,F,rfl⟩:=bX' ah
 refine aU' (e:=131) (r:=(Rp.fn Tryz.prog fa0 foI)) (vs:=#[(0,(.func (.func ai) #[] K)),(1,(.func (.func U) #[] F))]) (cs:=[(.func (.func ai) #[] K)]++([(.func (.func U) #[] F)]++([]))) ([a1,aZ]:List (Unit→Comp Int)) z z z z z (by decide) (fun _=>by kernel_rfl) ⟨[(.func (.func ai) #[] K)],[(.func (.func U) #[] F)]++([]),z,⟨_,z,(aj.mono W)⟩,⟨[(.func (.func U) #[] F)],[],z,⟨_,z,ah⟩,z⟩⟩ (key:=999) z (by rw[q]; rfl) (fun p1 bF ao a3=>?_)
 obtain⟨bA,av,hr⟩:=hr
 refine F' z z (s' E93 z) (cC' av) z (a3)<|sg z z<|cK' 113003 z ax c (mt (mt (mt (mt g T) R) W) ao)<|cK' 113002 z ay mr c<|nx<|h'<|sr<|mv z z<|yy (aR' z z) z<|nx<|I' hr z (fun a2 hr=>?_) (fun a2 hr=>?_)
 ·refine sr<|yy (aq' (vs:=#[]) (v:=.agg ([.slice none 0 0,.slice none 0 0,.slice none 0 0,i' 0]).toArray) z z (fun _=>by kernel_rfl)) z<|mv z z<|v' 4 z aZ' z z z z z (List.all_eq_true.1 z)<|sg z z<|nx<|j' ?_
  replace hr:_=r:=hr
  refine g' ?_
  subst hr
  exact aE' z (ac' (i:=4) ai' z z z) z ⟨_,_,_,_,_,_,z,(ah' Rp.str _),(ah' a' _),(ah' a' _)⟩
 ·refine o'<|e'<|sr ?_
  obtain⟨S,aE,hr⟩:=hr
  refine F' z z (s' E100 z) (dT' aE) z (trivial)<|T' 9 z z83 z fun b4=>v' 9 z sz83 z z z (O' _ _ _) (O' _ _ _) (fun u hu=>Rp.one (cv' .i64 8) (G:=L) (x:=S) (cs:=vecG (Value.int .i64) 8 S) z u (by first|simpa using hu|simpa [Value.cells] using hu))<|nr<|yy (ay' z) z<|yy (b' 113003 sc3 z z z) z<|mv z z<|yy (bd' z z) z ?_
  obtain⟨aW,hr⟩:=hr
  refine yy (aW' aY' sz3 z z aW) z<|au' 9 (vecG (Value.int .i64) 8 (setF S ev1.at'.toNat (IntKind.i64.wrap ((s1.vars.length:Int)-1)))).toArray z sz3 z z z (by first|(rw[O']; omega)|(show _<(vecG _ _ _).toArray.size; rw[O']; omega)) z (bP' _ _ _ _ _)<|nx<|h'<|sr<|yy (ay' z) z<|yy (b' 113003 sc3 z z z) z<|yy (N' z z) z<|sg z z<|nx<|aa' (fun (⟨s,J⟩:(Fin 8→Int)×Mem)=>[(2,.pointer (some ⟨b1,0,none⟩)),(3,.pointer (some ⟨b2,0,none⟩)),(4,.pointer (some ⟨b3,0,none⟩)),(9,.pointer (some ⟨b4,0,none⟩))]) (fun ⟨s,J⟩=>Mem.le L J∧(Zcp s1 ev1 s).Ret r) (fun ⟨s,J⟩=>St w0 L J [(113002,some ⟨b1,.cells ((v33' s1 s1varsp s1varsc s1eqsp s1eqsc s1neqsp s1neqsc)).toArray 33 (0,0),0⟩),(113003,some ⟨b2,.cells ([i' ev1.kind,.string ev1.name,i' ev1.at',i' ev1.to',i' ev1.id,.slice ev1pp ev1.p.length ev1pc,.bool ev1.neq]).toArray 40 (0,0),0⟩),(4,some ⟨b3,.cells ([.slice none 0 0,.slice none 0 0,.slice none 0 0,i' 0]).toArray 33 (0,0),0⟩),(9,some ⟨b4,.cells (vecG (Value.int .i64) 8 s).toArray 83 (0,0),0⟩)]) ?_ ?_
  ·refine B' ?_
   let al:(Fin 8→Int)→Prop:=fun oo=>((fun ov=>match ov with|s=>Zcp s1 ev1 s:(Fin 8→Int)→Comp (Zb×Int)) oo).wp (fun a=>a=r)
   replace hr:(Comp.loop _ _).wp al:=hr
   refine ab' (Φ:=al) (fun (⟨B,k,m⟩:Int×(Fin 8→Int)×Mem)=>((B,k):Int×(Fin 8→Int))) (fun ⟨B,k,m⟩=>[(2,.pointer (some ⟨b1,0,none⟩)),(3,.pointer (some ⟨b2,0,none⟩)),(4,.pointer (some ⟨b3,0,none⟩)),(6,i' (s1.vars.length:Int)),(9,.pointer (some ⟨b4,0,none⟩)),(10,i' B)]) (fun ⟨B,k,m⟩=>Mem.le L m) (fun ⟨B,k,m⟩=>St w0 L m [(113002,some ⟨b1,.cells ((v33' s1 s1varsp s1varsc s1eqsp s1eqsc s1neqsp s1neqsc)).toArray 33 (0,0),0⟩),(113003,some ⟨b2,.cells ([i' ev1.kind,.string ev1.name,i' ev1.at',i' ev1.to',i' ev1.id,.slice ev1pp ev1.p.length ev1pc,.bool ev1.neq]).toArray 40 (0,0),0⟩),(4,some ⟨b3,.cells ([.slice none 0 0,.slice none 0 0,.slice none 0 0,i' 0]).toArray 33 (0,0),0⟩),(9,some ⟨b4,.cells (vecG (Value.int .i64) 8 k).toArray 83 (0,0),0⟩)]) ⟨IntKind.i64.wrap (ev1.at'+1),setF S ev1.at'.toNat (IntKind.i64.wrap ((s1.vars.length:Int)-1)),L⟩ hr (fc z (fc z (fc z (fc z (fc z (fc z fn)))))) mr (wk (lc z (lc z (lc z (lc z ln))))) ?_
   ·intro bE gx hx hr
    obtain⟨B,k,m⟩:=gx
    have V:=hx
    refine h'<|sr<|mv z z<|mv z z<|yy (V' z z) z<|nx<|I' hr z (fun aX hr=>?_) (fun aX hr=>?_)
    ·refine o'<|e'<|h'<|B'<|w'<|mv z z<|mv z z<|yy (bd' z z) z ?_
     obtain⟨aV,hr⟩:=hr
     refine yy (aW' aY' sz3 z z aV) z<|au' 9 (vecG (Value.int .i64) 8 (setF k B.toNat (IntKind.i64.wrap (B-1)))).toArray z sz3 z z z (by first|(rw[O']; omega)|(show _<(vecG _ _ _).toArray.size; rw[O']; omega)) z (bP' _ _ _ _ _)<|u'<|D'<|e'<|w'<|mv z z<|yy (N' z z) z<|sg z z<|u'<|P' ⟨IntKind.i64.wrap (B+1),setF k B.toNat (IntKind.i64.wrap (B-1)),m⟩ hr V (fc z (fc z (fc z (fc z (fc z (fc z fn)))))) (wk (lc z (lc z (lc z (lc z ln)))))
    ·refine ad'<|n'<|n'<|J'<|ae' ⟨k,m⟩ ⟨V,hr⟩ (fc z (fc z (fc z (fc z fn)))) (wk (lc z (lc z (lc z (lc z ln)))))
  ·rintro⟨s,J⟩ ⟨E,hr⟩
   refine e'<|sr<|yy (t' 113002 ai' z z z) z<|yy (t' 9 ag83 z z (O' _ _ _)) z ?_
   obtain⟨ak,aC,hr⟩:=hr
   refine M' z z (s' E101 z) (ee' aC) z (⟨(h.mono E),(n.mono E),(l.mono E)⟩) (fun bl bD a6 ad=>?_)
   obtain⟨aM,aG,Y,ac,O,P,rfl,Q,ae,M⟩:=ad
   refine v' 113002 z aZ' z z z z z (List.all_eq_true.1 z)<|nx<|h'<|Y' [false,false,false,false,false,false,false,false] mix (by kernel_rfl) fun hb=>cn (fun _ d=>ar' z)<|cn (fun _ d=>b' 113002 bn' z z z) ?_
   obtain⟨a0,aK,hr⟩:=hr
   refine Chain.callOwn (f:=103) (r:=Rp.str) (e:=9) (xs:=a0) (fun _=>z) (fun u G' d hu=>?_) ?_
   ·skip
    exact⟨_,_,_,fun _=>s' E103 z,cf' aK,z,(Q.mono d)⟩
   refine cu (fun _ _ d=>ay' z)<|cu (fun _ _ d=>b' 113003 sc3 z z z)<|cu (fun _ _ d=>ay' z)<|cu (fun _ _ d=>b' 113003 sc3 z z z)<|cu (fun _ _ d=>N' z z)<|Chain.tailX1 fun bi X1 am Z=>WL.adoptR Z (fun bh a9 a5 aQ aB bg=>?_)
   subst aQ
   refine bZ' (show WL _ _ _ _ _ _ (St w0 L X1.m _) from ?_)
   obtain⟨aY,aD,hr⟩:=hr
   refine bt' (fun w hs=>hs.rekey (i:=51) (j:=5000) z (by rw[q]; rfl))<|cc' z z (s' E108 z) (dZ' aD) z (aB) (lc z ln) hz (fun bb bk bp H ab=>?_)
   obtain⟨aF,aR,a4,rfl,rfl,aN⟩:=ab
   refine bt' (fun w hs=>hs.rekey (i:=5000) (j:=4057) z (by rw[q]; rfl))<|bu' (r:=Rp.str) (e:=9) 4057 aN z (by rw[q]; rfl) fun bB bo I aO a7=>yy (ar' z) z<|au' 113002 ([.slice aF aY.length aR,.slice Y ak.eqs.length ac,.slice O ak.neqs.length P,i' ak.next]).toArray z sz30 z z z (show 0<4 by decide) z z<|u'<|am'<|e'<|sr<|yy (t' 113002 ai' z z z) z<|v' 4 z aZ' z z z z z (List.all_eq_true.1 z)<|sg z z<|nx<|j' ?_
   obtain rfl:_=r:=hr
   exact aE' z (ac' (i:=4) ai' z z z) z ⟨_,_,_,_,_,_,z,aO,(ae.mono (mt (mt am H) I)),(M.mono (mt (mt am H) I))⟩
theorem fh'(e:Zb)(d:Zd)(j:Nat)(m:Nat)(r:Bool)(hr:(ZaC e d).Ret r):Ctr Tryz.prog 109 #[.pointer (some ⟨j,0,none⟩),.pointer (some ⟨m,0,none⟩)] (fun G=>At bp' G j 0 e∧At ag' G m 0 d) (fun G v=>v = .bool r):=by
 refine C' (args:=[_,_]) (N:=22) Tryz.func109 z z z (fun u x s g=>?_)
 obtain⟨f,c⟩:=g
 refine sr<|sg z z<|nr<|yy (ar' z) z ?_
 obtain⟨t,q,n,l⟩:=ca' (be' (aF' f))
 refine yy (U' bn' z (n)) z<|yy (bM' z) z<|yy (U' sc9 z (bF' (be' (aK' (aF' c))))) z ?_
 obtain⟨p,i,hr⟩:=hr
 refine F' z z (s' E110 z) (cx' i) z (l)<|sg z z<|nr<|yy (bM' z) z<|yy (U' sc9 z (bF' (be' (aK' (aF' c))))) z ?_
 obtain⟨k,h,hr⟩:=hr
 refine F' z z (s' E98 z) (dJ' h) z (trivial) ?_
 cases k
 ·skip
  refine mv z z<|sk z z z<|sk z z z<|sk z z z<|aB' (af' z z) z<|aB' (af' z z) z<|aB' (af' z z) z<|aB' (af' z z) z<|sk z z z<|yy (l' z z) z<|sg z z<|nx<|j' ?_
  obtain rfl:_=r:=hr
  exact k' z z z
 ·skip
  refine mv z z<|gy z z (f' z) z<|aj' hr (H' z z) (V' z z) z (fun o hr=>?_) (fun o hr=>?_)
  ·refine gy z z (f' z) z<|sf z z z<|sf z z z<|sf z z z<|sf z z z<|gy z z (m' z z) z<|yy (m' z z) z<|sg z z<|nx<|j' ?_
   obtain rfl:_=r:=hr
   exact k' z z z
  ·refine gy z z (f' z) z<|gy z z (f' z) z<|gy z z (ay' z) z<|gy z z (U' sc3 z (aC' (be' (aK' (aK' (aF' c)))))) z<|gy z z (ak' z z) z<|gy z z (l' z z) z<|yy (m' z z) z<|sg z z<|nx<|j' ?_
   obtain rfl:_=r:=hr
   exact k' z z z
theorem gj'{s1 ev1 s1varsp s1varsc s1eqsp s1eqsc s1neqsp s1neqsc ev1pp ev1pc r}(hr:(ZeR s1 ev1).Ret r):Ctr Tryz.prog 66 #[.agg ((v33' s1 s1varsp s1varsc s1eqsp s1eqsc s1neqsp s1neqsc)).toArray,.agg ([i' ev1.kind,.string ev1.name,i' ev1.at',i' ev1.to',i' ev1.id,.slice ev1pp ev1.p.length ev1pc,.bool ev1.neq]).toArray] (fun G=>sl Rp.str G s1varsp s1varsc s1.vars∧sl a' G s1eqsp s1eqsc s1.eqs∧sl a' G s1neqsp s1neqsc s1.neqs∧sl r' G ev1pp ev1pc ev1.p) (fun G v=>∃ k l o s n m,v = .tuple #[.agg ((v33' r.1 k l o s n m)).toArray,i' r.2]∧sl Rp.str G k l r.1.vars∧sl a' G o s r.1.eqs∧sl a' G n m r.1.neqs):=by
 refine C' (args:=[_,_]) (N:=34) Tryz.func66 z z z (fun w0 G0 q ab=>?_)
 obtain⟨g,h,f,R⟩:=ab
 have hz:w0.L.zero:=by rw[q]; intro p hp; simp at hp
 refine sr<|W' 113202 z z z fun b1=>W' 113203 z z z fun b2=>T' 4 z z33 z fun b3=>sg z z<|nx<|h'<|bA' 113202 z (by rw[q]; rfl) fun aS c Z X=>bA' 113203 z (by rw[q]; rfl) fun ai d Y V=>w'<|yy (bK' z z) z<|sg z z<|nr<|yy (t' 113202 ai' z z z) z<|yy (ay' z) z<|yy (b' 113203 sc3 z z z) z ?_
 obtain⟨aK,ah,hr⟩:=hr
 refine M' z z (s' E107 z) (dV' ah) z (⟨(g.mono (mt c d)),(h.mono (mt c d)),(f.mono (mt c d))⟩) (fun aG aM A I=>?_)
 obtain⟨aC,aI,rfl,ag⟩:=I
 obtain⟨al,ad,hr⟩:=hr
 refine M' z z (s' E94 z) (bo' ad) z (ag) (fun aF aL y J=>?_)
 obtain⟨aA,aq,rfl,O⟩:=J
 refine mv z z ?_
 obtain⟨ak,ac,hr⟩:=hr
 refine M' z z (s' E94 z) (bo' ac) z (((show FnRd Tryz.prog fa0 foB ai (.func (.func 109) #[] #[.pointer (some ⟨b1,0,none⟩),.pointer (some ⟨b2,0,none⟩)]) () (fun _=>ZaC s1 ev1) from (dc' E109 (fun x hx=>dd' (fh' _ _ _ _ x hx) (fun G' S=>⟨(E' (ch' (r:=bp') (cs:=(v33' s1 s1varsp s1varsc s1eqsp s1eqsc s1neqsp s1neqsc)) Z z ⟨[.slice s1varsp s1.vars.length s1varsc],[.slice s1eqsp s1.eqs.length s1eqsc,.slice s1neqsp s1.neqs.length s1neqsc,i' s1.next],z,⟨_,z,(g.mono c)⟩,⟨[.slice s1eqsp s1.eqs.length s1eqsc],[.slice s1neqsp s1.neqs.length s1neqsc,i' s1.next],z,⟨_,z,(h.mono c)⟩,⟨[.slice s1neqsp s1.neqs.length s1neqsc],[i' s1.next],z,⟨_,z,(f.mono c)⟩,z⟩⟩⟩) (mt d S)),(E' (ch' (r:=ag') (cs:=[i' ev1.kind,.string ev1.name,i' ev1.at',i' ev1.to',i' ev1.id,.slice ev1pp ev1.p.length ev1pc,.bool ev1.neq]) Y z ⟨[i' ev1.kind],[.string ev1.name,i' ev1.at',i' ev1.to',i' ev1.id,.slice ev1pp ev1.p.length ev1pc,.bool ev1.neq],z,z,⟨[.string ev1.name],[i' ev1.at',i' ev1.to',i' ev1.id,.slice ev1pp ev1.p.length ev1pc,.bool ev1.neq],z,z,⟨[i' ev1.at'],[i' ev1.to',i' ev1.id,.slice ev1pp ev1.p.length ev1pc,.bool ev1.neq],z,z,⟨[i' ev1.to'],[i' ev1.id,.slice ev1pp ev1.p.length ev1pc,.bool ev1.neq],z,z,⟨[i' ev1.id],[.slice ev1pp ev1.p.length ev1pc,.bool ev1.neq],z,z,⟨[.slice ev1pp ev1.p.length ev1pc],[.bool ev1.neq],z,⟨_,z,(R.mono (mt c d))⟩,z⟩⟩⟩⟩⟩⟩) S)⟩)))).mono (mt A y))) (fun au aP D H=>?_)
 obtain⟨ax,aw,rfl,L⟩:=H
 obtain⟨M,u,rfl⟩:=bX' O
 obtain⟨B,t,rfl⟩:=bX' L
 refine aU' (e:=131) (r:=(Rp.fn Tryz.prog fa0 foI)) (vs:=#[(0,(.func (.func M) #[] u)),(1,(.func (.func B) #[] t))]) (cs:=[(.func (.func M) #[] u)]++([(.func (.func B) #[] t)]++([]))) ([al,ak]:List (Unit→Comp Int)) z z z z z (by decide) (fun _=>by kernel_rfl) ⟨[(.func (.func M) #[] u)],[(.func (.func B) #[] t)]++([]),z,⟨_,z,(O.mono D)⟩,⟨[(.func (.func B) #[] t)],[],z,⟨_,z,L⟩,z⟩⟩ (key:=999) z (by rw[q]; rfl) (fun p1 aR Q an=>?_)
 obtain⟨aN,U,hr⟩:=hr
 refine F' z z (s' E93 z) (cC' U) z (an)<|sg z z<|cK' 113203 z V c (mt (mt (mt (mt d A) y) D) Q)<|cK' 113202 z X mr c<|nx<|h'<|sr<|mv z z<|yy (aR' z z) z<|nx<|I' hr z (fun am hr=>?_) (fun am hr=>?_)
 ·refine sr<|yy (aq' (vs:=#[]) (v:=.agg ([.slice none 0 0,.slice none 0 0,.slice none 0 0,i' 0]).toArray) z z (fun _=>by kernel_rfl)) z<|mv z z<|v' 4 z aZ' z z z z z (List.all_eq_true.1 z)<|sg z z<|nx<|j' ?_
  replace hr:_=r:=hr
  refine g' ?_
  subst hr
  exact aE' z (ac' (i:=4) ai' z z z) z ⟨_,_,_,_,_,_,z,(ah' Rp.str _),(ah' a' _),(ah' a' _)⟩
 ·refine o'<|e'<|sr<|yy (ar' z) z<|yy (b' 113202 bn' z z z) z ?_
  obtain⟨aj,aa,hr⟩:=hr
  refine cc' z z (s' E103 z) (cf' aa) z (g) ln hz (fun aB aJ aE C F=>?_)
  obtain⟨af,W,ap,rfl,rfl,P⟩:=F
  refine bt' (fun w hs=>hs.rekey (i:=7000) (j:=4024) z (by rw[q]; rfl))<|yy (ar' z) z<|au' 113202 ([.slice af aj.length W,.slice s1eqsp s1.eqs.length s1eqsc,.slice s1neqsp s1.neqs.length s1neqsc,i' s1.next]).toArray z sz30 z z z (show 0<4 by decide) z z<|nr<|yy (ar' z) z<|yy (b' 113202 bn' z z z) z<|yy (ay' z) z<|yy (b' 113203 sc3 z z z) z<|yy (bM' z) z<|yy (b' 113203 sc9 z z z) z ?_
  obtain⟨x1,T,hr⟩:=hr
  refine yy (aX' A' sz9 P z z T) z<|bx' (r:=Rp.str) (e:=9) (cs':=[.string ev1.name]) (i:=ev1.at') (z':=ev1.name) 4024 z sz9 z P z z z z z T fun aO ae=>nr<|bu' (r:=Rp.str) (e:=9) 4024 ae z (by rw[q]; rfl) fun aT aQ E K ao=>yy (t' 113202 ai' z z z) z<|v' 4 z aZ' z z z z z (List.all_eq_true.1 z)<|sg z z<|nx<|j' ?_
  obtain rfl:_=r:=hr
  exact aE' z (ac' (i:=4) ai' z z z) z ⟨_,_,_,_,_,_,(by rw[cV' K]),(cN' K),(h.mono (mt C E)),(f.mono (mt C E))⟩
theorem gx'{a0_1 a1_1 a0_1varsp a0_1varsc a0_1eqsp a0_1eqsc a0_1neqsp a0_1neqsc a1_1pp a1_1pc r}(hr:(Zgh a0_1 a1_1).Ret r):Ctr Tryz.prog 67 #[.agg ((v33' a0_1 a0_1varsp a0_1varsc a0_1eqsp a0_1eqsc a0_1neqsp a0_1neqsc)).toArray,.agg ([i' a1_1.kind,.string a1_1.name,i' a1_1.at',i' a1_1.to',i' a1_1.id,.slice a1_1pp a1_1.p.length a1_1pc,.bool a1_1.neq]).toArray] (fun G=>sl Rp.str G a0_1varsp a0_1varsc a0_1.vars∧sl a' G a0_1eqsp a0_1eqsc a0_1.eqs∧sl a' G a0_1neqsp a0_1neqsc a0_1.neqs∧sl r' G a1_1pp a1_1pc a1_1.p) (fun G v=>∃ D F J L I H,v = .tuple #[.agg ((v33' r.1 D F J L I H)).toArray,i' r.2]∧sl Rp.str G D F r.1.vars∧sl a' G J L r.1.eqs∧sl a' G I H r.1.neqs):=by
 refine C' (args:=[_,_]) (N:=65) Tryz.func67 z z z (fun w0 G0 W aH=>?_)
 obtain⟨n,t,l,aU⟩:=aH
 have hz:w0.L.zero:=by rw[W]; intro p hp; simp at hp
 refine sr<|W' 2 z z z fun b1=>W' 3 z z z fun b2=>T' 4 z z33 z fun b3=>sg z z<|nx<|h'<|Y' [false,false,false,false,false,false,false,false] mix (by kernel_rfl) fun hb=>cn (fun _ c=>t' 2 ai' z z z)<|cn (fun _ c=>ay' z)<|cn (fun _ c=>b' 3 sc3 z z z) ?_
 obtain⟨aj,aM,hr⟩:=hr
 refine aD' (post:=fun G v=>∃ g o,v=g∧FnRd Tryz.prog fa0 foB G g o aj) (fun _=>z) (fun _ _=>s' E107 z) (dV' aM) z (fun G' c=>⟨(n.mono c),(t.mono c),(l.mono c)⟩) (fun v G1 G2 c h=>?_) ?_
 ·obtain⟨g,o,rfl,S⟩:=h
  exact⟨_,_,z,S.mono c⟩
 obtain⟨ao,aK,hr⟩:=hr
 refine cR' (f:=94) (φ:=fun G v=>∃ s B,v=s∧FnRd Tryz.prog fa0 foI G s B ao) (fun _=>z) (fun v G1 G2 c h=>?_) (fun u G' c hu=>?_) ?_
 ·obtain⟨s,B,rfl,R⟩:=h
  exact⟨_,_,z,R.mono c⟩
 ·obtain⟨⟨g,o,aq,S⟩,_⟩:=(show (fun G v=>∃ g o,v=g∧FnRd Tryz.prog fa0 foB G g o aj) G'.m (u 11)∧True from hu)
  exact⟨_,_,_,fun _=>s' E94 z,bo' aK,(by simp only[aq] <;> rfl),S⟩
 refine cu (fun _ _ c=>t' 2 ai' z z z)<|cu (fun _ _ c=>cp' z)<|cu (fun _ _ c=>b' 3 sc3 z z z)<|db' (d:=12) (post:=fun G v=>∃ s B,v=s∧FnRd Tryz.prog fa0 foI G s B ao) (d':=11) (post':=fun G v=>∃ g o,v=g∧FnRd Tryz.prog fa0 foB G g o aj) (fun bc be bq q ag ad=>?_)
 obtain⟨s,B,rfl,R⟩:=ag
 obtain⟨g,o,rfl,S⟩:=ad
 obtain⟨bn,aI,hr⟩:=hr
 refine M' z z (s' E107 z) (dV' aI) z (⟨(n.mono q),(t.mono q),(l.mono q)⟩) (fun a2 bh A ab=>?_)
 obtain⟨a7,a4,rfl,aC⟩:=ab
 obtain⟨aT,aB,hr⟩:=hr
 refine M' z z (s' E94 z) (bo' aB) z (aC) (fun a3 bk y ah=>?_)
 obtain⟨bg,bd,rfl,ai⟩:=ah
 obtain⟨ak,U,rfl⟩:=bX' R
 obtain⟨X,Q,rfl⟩:=bX' ai
 refine aU' (e:=131) (r:=(Rp.fn Tryz.prog fa0 foI)) (vs:=#[(0,(.func (.func ak) #[] U)),(1,(.func (.func X) #[] Q))]) (cs:=[(.func (.func ak) #[] U)]++([(.func (.func X) #[] Q)]++([]))) ([ao,aT]:List (Unit→Comp Int)) z z z z z (by decide) (fun _=>by kernel_rfl) ⟨[(.func (.func ak) #[] U)],[(.func (.func X) #[] Q)]++([]),z,⟨_,z,(R.mono (mt A y))⟩,⟨[(.func (.func X) #[] Q)],[],z,⟨_,z,ai⟩,z⟩⟩ (key:=999) z (by rw[W]; rfl) (fun p1 aS P aX=>?_)
 obtain⟨bi,aG,hr⟩:=hr
 refine F' z z (s' E93 z) (cC' aG) z (aX)<|sg z z<|u'<|am'<|e'<|h'<|sr<|mv z z<|yy (aR' z z) z<|nx<|I' hr z (fun aV hr=>?_) (fun aV hr=>?_)
 ·refine sr<|yy (aq' (vs:=#[]) (v:=.agg ([.slice none 0 0,.slice none 0 0,.slice none 0 0,i' 0]).toArray) z z (fun _=>by kernel_rfl)) z<|mv z z<|v' 4 z aZ' z z z z z (List.all_eq_true.1 z)<|sg z z<|nx<|j' ?_
  replace hr:_=r:=hr
  refine g' ?_
  subst hr
  exact aE' z (ac' (i:=4) ai' z z z) z ⟨_,_,_,_,_,_,z,(ah' Rp.str _),(ah' a' _),(ah' a' _)⟩
 ·refine o'<|e'<|sr ?_
  obtain⟨Z,aD,hr⟩:=hr
  refine F' z z (s' E100 z) (dT' aD) z (trivial)<|T' 7 z z83 z fun b4=>v' 7 z sz83 z z z (O' _ _ _) (O' _ _ _) (fun u hu=>Rp.one (cv' .i64 8) (G:=aS) (x:=Z) (cs:=vecG (Value.int .i64) 8 Z) z u (by first|simpa using hu|simpa [Value.cells] using hu))<|nx<|h'<|WC.drawnB [(3,some ⟨b2,.cells ([i' a1_1.kind,.string a1_1.name,i' a1_1.at',i' a1_1.to',i' a1_1.id,.slice a1_1pp a1_1.p.length a1_1pc,.bool a1_1.neq]).toArray 40 (0,0),0⟩)] (lc z ln) [false,false,true,true,false,false,true,true,false] mix (by kernel_rfl) fun hb=>cn (fun _ c=>ay' z)<|cn (fun _ c=>b' 3 sc3 z z z)<|cS' z (cp' z)<|cS' z (b' 3 sc3 z z z)<|cn (fun _ c=>cp' z)<|cn (fun _ c=>b' 3 sc3 z z z)<|cS' z (ay' z)<|cS' z (b' 3 sc3 z z z) ?_
  obtain⟨aR,hr⟩:=hr
  refine cn (fun _ c=>aW' aY' sz3 z z aR)<|Chain.tailB hb<|WLT.storeL (fun w k=>k.weaken (lc z ln)) 7 (vecG (Value.int .i64) 8 (setF Z a1_1.at'.toNat a1_1.to')).toArray z sz3 z z z (by first|(rw[O']; omega)|(show _<(vecG _ _ _).toArray.size; rw[O']; omega)) z (bP' _ _ _ _ _) ?_
  obtain⟨aP,hr⟩:=hr
  refine WLT.y0 (fun w k=>k.weaken (lc z ln)) z (aW' aY' sz3 z z aP) z<|WLT.storeL (fun w k=>k.weaken (lc z ln)) 7 (vecG (Value.int .i64) 8 (setF (setF Z a1_1.at'.toNat a1_1.to') a1_1.to'.toNat a1_1.at')).toArray z sz3 z z z (by first|(rw[O']; omega)|(show _<(vecG _ _ _).toArray.size; rw[O']; omega)) z (bP' _ _ _ _ _)<|WLT.nil (fun w k=>k.weaken (lc z ln))<|am'<|e'<|sr<|yy (t' 2 ai' z z z) z<|yy (t' 7 ag83 z z (O' _ _ _)) z ?_
  obtain⟨M,aJ,hr⟩:=hr
  refine M' z z (s' E101 z) (ee' aJ) z (⟨(n.mono (mt (mt (mt q A) y) P)),(t.mono (mt (mt (mt q A) y) P)),(l.mono (mt (mt (mt q A) y) P))⟩) (fun a6 bo aY ac=>?_)
  obtain⟨aE,aL,K,O,E,C,rfl,T,af,V⟩:=ac
  refine v' 2 z aZ' z z z z z (List.all_eq_true.1 z)<|nr<|yy (ar' z) z<|yy (b' 2 bn' z z z) z ?_
  obtain⟨ax,aF,hr⟩:=hr
  refine cc' z z (s' E103 z) (cf' aF) z (T) ln hz (fun a1 bj bb Y ae=>?_)
  obtain⟨al,ap,aZ,rfl,rfl,m⟩:=ae
  refine bt' (fun w k=>k.rekey (i:=7000) (j:=4040) z (by rw[W]; rfl))<|yy (ar' z) z<|au' 2 ([.slice al ax.length ap,.slice K M.eqs.length O,.slice E M.neqs.length C,i' M.next]).toArray z sz30 z z z (show 0<4 by decide) z z<|nx<|h'<|WC.drawnB [(2,some ⟨b1,.cells ([.slice al ax.length ap,.slice K M.eqs.length O,.slice E M.neqs.length C,i' M.next]).toArray 33 (0,0),0⟩),(3,some ⟨b2,.cells ([i' a1_1.kind,.string a1_1.name,i' a1_1.at',i' a1_1.to',i' a1_1.id,.slice a1_1pp a1_1.p.length a1_1pc,.bool a1_1.neq]).toArray 40 (0,0),0⟩)] (lc z (lc z ln)) [false,false,false,false,true,true,true,true,false,false,false,false,false,false,false,false,false,false,false,false,false] mix (by kernel_rfl) fun hb=>cn (fun _ c=>ar' z)<|cn (fun _ c=>b' 2 bn' z z z)<|cn (fun _ c=>ay' z)<|cn (fun _ c=>b' 3 sc3 z z z)<|cS' z (ar' z)<|cS' z (b' 2 bn' z z z)<|cS' z (cp' z)<|cS' z (b' 3 sc3 z z z)<|cn (fun _ c=>ar' z)<|cn (fun _ c=>b' 2 bn' z z z)<|cn (fun _ c=>cp' z)<|cn (fun _ c=>b' 3 sc3 z z z) ?_
  obtain⟨x1,az,hr⟩:=hr
  refine cn (fun _ c=>aX' A' sz9 (m.mono c) z z az)<|cn (fun _ c=>dN' sc9 (m.mono c) (key:=4040) z z (bF' (cF' m az)))<|cn (fun _ c=>ar' z)<|cn (fun _ c=>b' 2 bn' z z z)<|cn (fun _ c=>ay' z)<|cn (fun _ c=>b' 3 sc3 z z z) ?_
  obtain⟨x2,aw,hr⟩:=hr
  refine cn (fun _ c=>aX' A' sz9 (m.mono c) z z aw)<|cn (fun _ c=>dN' sc9 (m.mono c) (key:=4040) z z (bF' (cF' m aw))) ?_
  obtain⟨x3,ay,hr⟩:=hr
  refine cn (fun _ c=>aX' A' sz9 (m.mono c) z z ay)<|Chain.tailB hb<|WLT.one (fun w k=>k.weaken (lc z (lc z ln)))<|bx' (r:=Rp.str) (e:=9) (cs':=[.string x1]) (i:=a1_1.at') (z':=x1) 4040 z sz9 z m z z z z z ay fun bl am=>WLT.back ?_
  obtain⟨x4,av,hr⟩:=hr
  refine WLT.y0 (fun w k=>k.weaken (lc z (lc z ln))) z (aX' A' sz9 am z z av) z<|WLT.one (fun w k=>k.weaken (lc z (lc z ln)))<|bx' (r:=Rp.str) (e:=9) (cs':=[.string x2]) (i:=a1_1.to') (z':=x2) 4040 z sz9 z am z z z z z av fun br aA=>WLT.back<|WLT.nil (fun w k=>k.weaken (lc z (lc z ln)))<|am'<|e'<|sr<|bu' (r:=Rp.str) (e:=9) 4040 aA z (by rw[W]; rfl) fun bp bm aa an a0=>yy (t' 2 ai' z z z) z<|v' 4 z aZ' z z z z z (List.all_eq_true.1 z)<|sg z z<|nx<|j' ?_
  obtain rfl:_=r:=hr
  exact aE' z (ac' (i:=4) ai' z z z) z ⟨_,_,_,_,_,_,(by rw[cV' an]),(cN' an),(af.mono (mt Y aa)),(V.mono (mt Y aa))⟩
theorem cX'{s1 id1 s1varsp s1varsc s1eqsp s1eqsc s1neqsp s1neqsc r}(hr:(ZaT s1 id1).Ret r):Ctr Tryz.prog 42 #[.agg ((v33' s1 s1varsp s1varsc s1eqsp s1eqsc s1neqsp s1neqsc)).toArray,i' id1] (fun G=>sl Rp.str G s1varsp s1varsc s1.vars∧sl a' G s1eqsp s1eqsc s1.eqs∧sl a' G s1neqsp s1neqsc s1.neqs) (fun G v=>∃ E I,v = .tuple #[.agg ((v68' r.1.id E r.1.p I)).toArray,.bool r.2.1,.bool r.2.2]∧sl r' G E I r.1.p):=by
 refine C' (args:=[_,_]) (N:=38) Tryz.func42 z z z (fun R S al ac=>?_)
 obtain⟨ae,K,J⟩:=ac
 refine sr<|W' 2 z z z fun b1=>T' 4 z z68 z fun D=>sg z z<|sg z z<|nx<|h'<|sr<|yy (ax' z) z<|yy (b' 2 aS' z z z) z<|yy (aL' z) z<|yy (b' 2 aS' z z z) z<|aU' (e:=31) (r:=(Rp.sl a')) (vs:=#[(0,.slice s1eqsp s1.eqs.length s1eqsc),(1,.slice s1neqsp s1.neqs.length s1neqsc)]) (cs:=[.slice s1eqsp s1.eqs.length s1eqsc]++([.slice s1neqsp s1.neqs.length s1neqsc]++([]))) ([s1.eqs,s1.neqs]:List (List Za)) z z z z z (by decide) (fun _=>by kernel_rfl) ⟨[.slice s1eqsp s1.eqs.length s1eqsc],[.slice s1neqsp s1.neqs.length s1neqsc]++([]),z,⟨_,z,K⟩,⟨[.slice s1neqsp s1.neqs.length s1neqsc],[],z,⟨_,z,J⟩,z⟩⟩ (key:=999) z (by rw[al]; rfl) fun Y L an O=>yy (L' bv' O z) z<|mv z z<|nx<|aa' (fun (⟨A,q,t,B⟩:Za×Option Addr×Nat×Mem)=>[(4,.pointer (some ⟨D,0,none⟩))]) (fun ⟨A,q,t,B⟩=>Mem.le L B∧sl r' B q t A.p∧(Zc0).Ret r) (fun ⟨A,q,t,B⟩=>St R S B [(4,some ⟨D,.cells ((v68' A.id q A.p t)).toArray 68 (0,0),0⟩)]) ?_ ?_
 ·refine B' ?_
  let C:((Za×Bool×Bool)⊕Za)→Prop:=fun oo=>((fun ov=>match ov with | .inl rv1=>Comp.ret rv1 | .inr A=>Zc0:((Za×Bool×Bool)⊕Za)→Comp (Za×Bool×Bool)) oo).wp (fun a=>a=r)
  replace hr:(Comp.loop _ _).wp C:=hr
  refine ab' (Φ:=C) (fun (⟨c,p,f,g,k⟩:Int×Za×Option Addr×Nat×Mem)=>((c,p):Int×Za)) (fun ⟨c,p,f,g,k⟩=>[(1,i' id1),(4,.pointer (some ⟨D,0,none⟩)),(15,.slice Y 2 2),(16,i' ([s1.eqs,s1.neqs].length:Int)),(17,i' c)]) (fun ⟨c,p,f,g,k⟩=>Mem.le L k∧sl r' k f g p.p) (fun ⟨c,p,f,g,k⟩=>St R S k [(4,some ⟨D,.cells ((v68' p.id f p.p g)).toArray 68 (0,0),0⟩)]) ⟨0,(Za.mk 0 []),none,0,L⟩ hr (fc z (fc z (fc z (fc z (fc z fn))))) ⟨mr,(ah' _ _)⟩ (wk (lc z ln)) ?_
  ·intro V Z hx hr
   obtain⟨c,p,f,g,k⟩:=Z
   obtain⟨u,F⟩:=hx
   refine sr<|yy (V' z z) z<|nx<|h'<|I' hr z (fun aj hr=>?_) (fun aj hr=>?_)
   ·refine o'<|e'<|h'<|B'<|sr<|mv z z ?_
    obtain⟨x1,W,hr⟩:=hr
    refine yy (Q' bv' cr' (O.mono u) z z W) z ?_
    obtain⟨p2,ah,am,M⟩:=ca' (E' (Z' O W) u)
    refine yy (U' aS' z (am)) z<|sg z z<|sg z z<|nr<|mv z z<|yy (L' q' M z) z<|mv z z<|nx<|aa' (fun (⟨n,l,m,y⟩:Za×Option Addr×Nat×Mem)=>[(1,i' id1),(4,.pointer (some ⟨D,0,none⟩)),(15,.slice Y 2 2),(16,i' ([s1.eqs,s1.neqs].length:Int)),(17,i' c)]) (fun ⟨n,l,m,y⟩=>Mem.le k y∧sl r' y l m n.p∧(Zc1 c n).wp (Out V C)) (fun ⟨n,l,m,y⟩=>St R S y [(4,some ⟨D,.cells ((v68' n.id l n.p m)).toArray 68 (0,0),0⟩)]) ?_ ?_
    ·refine B' ?_
     let P:((Za×Bool×Bool)⊕Za)→Prop:=fun oo=>((fun ov=>match ov with | .inl rv2=>Comp.ret (.inr (.inl rv2)) | .inr n=>Zc1 c n:((Za×Bool×Bool)⊕Za)→Comp ((Int×Za)⊕((Za×Bool×Bool)⊕Za))) oo).wp (Out V C)
     replace hr:(Comp.loop _ _).wp P:=hr
     refine ab' (Φ:=P) (fun (⟨j,o,h,d,s⟩:Int×Za×Option Addr×Nat×Mem)=>((j,o):Int×Za)) (fun ⟨j,o,h,d,s⟩=>[(1,i' id1),(4,.pointer (some ⟨D,0,none⟩)),(7,i' c),(15,.slice Y 2 2),(16,i' ([s1.eqs,s1.neqs].length:Int)),(17,i' c),(22,.slice p2 x1.length ah),(23,i' (x1.length:Int)),(24,i' j)]) (fun ⟨j,o,h,d,s⟩=>Mem.le k s∧sl r' s h d o.p) (fun ⟨j,o,h,d,s⟩=>St R S s [(4,some ⟨D,.cells ((v68' o.id h o.p d)).toArray 68 (0,0),0⟩)]) ⟨0,p,f,g,k⟩ hr (fc z (fc z (fc z (fc z (fc z (fc z (fc z (fc z (fc z fn))))))))) ⟨mr,F⟩ (wk (lc z ln)) ?_
     ·intro av Z hx hr
      obtain⟨j,o,h,d,s⟩:=Z
      obtain⟨x,H⟩:=hx
      refine sr<|yy (V' z z) z<|nx<|h'<|I' hr z (fun ag hr=>?_) (fun ag hr=>?_)
      ·refine o'<|e'<|h'<|B'<|sr ?_
       obtain⟨x2,U,hr⟩:=hr
       refine yy (Q' q' aP' (M.mono x) z z U) z ?_
       obtain⟨aq,ar,ai,X⟩:=ba' (E' (Z' M U) x)
       refine yy (aw' _ bI' z z ai) z<|T' 10 z z68 z fun b3=>v' 10 z aP' z z z z z (List.all_eq_true.1 z)<|nr<|yy (bb' z) z<|yy (b' 10 sc3 z z z) z<|mv z z<|yy (ak' z z) z<|nx<|I' hr z (fun af hr=>?_) (fun af hr=>?_)
       ·refine sr<|yy (t' 10 bI' z z z) z<|mv z z<|yy (ak' z z) z<|v' 4 z aP' z z z z z (List.all_eq_true.1 z)<|sg z z<|sg z z<|nx<|j' ?_
        replace hr:_=r:=hr
        refine x'<|g'<|g'<|x'<|aI'<|x'<|g'<|g'<|x'<|aI'<|g' ?_
        subst hr
        exact WE.ret3 z (ac' (i:=4) bI' z z z) z z ⟨_,_,z,X⟩
       ·refine o'<|D'<|e'<|w'<|yy (N' z z) z<|mv z z<|u'<|P' ⟨IntKind.i64.wrap (j+1),o,h,d,s⟩ hr ⟨x,H⟩ (fc z (fc z (fc z (fc z (fc z (fc z (fc z (fc z (fc z fn))))))))) (wk (lc z ln))
      ·refine ad'<|n'<|n'<|J'<|ae' ⟨o,h,d,s⟩ ⟨x,H,hr⟩ (fc z (fc z (fc z (fc z (fc z fn))))) (wk (lc z ln))
    ·rintro⟨n,l,m,y⟩ ⟨Q,T,hr⟩
     refine D'<|e'<|w'<|yy (N' z z) z<|mv z z<|u'<|P' ⟨IntKind.i64.wrap (c+1),n,l,m,y⟩ hr ⟨(mt u Q),T⟩ (fc z (fc z (fc z (fc z (fc z fn))))) (wk (lc z ln))
   ·refine ad'<|n'<|n'<|J'<|ae' ⟨p,f,g,k⟩ ⟨u,F,hr⟩ (fc z fn) (wk (lc z ln))
 ·rintro⟨A,q,t,B⟩ ⟨ap,ao,hr⟩
  refine e'<|sr<|yy (aq' (vs:=#[]) (v:=.agg ([i' 0,.slice none 0 0]).toArray) z z (fun _=>by kernel_rfl)) z<|v' 4 z aP' z z z z z (List.all_eq_true.1 z)<|sg z z<|sg z z<|nx<|j' ?_
  obtain rfl:_=r:=hr
  exact WE.ret3 z (ac' (i:=4) bI' z z z) z z ⟨_,_,z,(ah' r' _)⟩
theorem eX'(h:Zb)(f:Int)(u:Nat)(A:Nat)(r:Bool)(hr:(ZQ h f).Ret r):Ctr Tryz.prog 148 #[.pointer (some ⟨u,0,none⟩),.pointer (some ⟨A,0,none⟩)] (fun G=>At bp' G u 0 h∧At (Rp.int .i64) G A 0 f) (fun G v=>v = .bool r):=by
 refine C' (args:=[_,_]) (N:=14) Tryz.func148 z z z (fun J K H k=>?_)
 obtain⟨j,i⟩:=k
 refine sr<|sg z z<|nr ?_
 obtain⟨s,m,B,y,o,q,x,e,g,d⟩:=er' j
 refine yy (aw' _ ai' z z x) z<|yy (U' sc3 z (aC' i)) z ?_
 obtain⟨E,l,hr⟩:=hr
 refine M' z z (s' E42 z) (cX' l) z (⟨e,g,d⟩) (fun D F C c=>?_)
 obtain⟨p,t,rfl,n⟩:=c
 refine mv z z<|yy (K' z z) z<|yy (K' z z) z<|yy (K' z z) z<|T' 3 z z68 z fun I=>v' 3 z aP' z z z z z (List.all_eq_true.1 z)<|sg z z<|sg z z<|nr<|mv z z<|sg z z<|nx<|j' ?_
 obtain rfl:_=r:=hr
 exact k' z z z
theorem de'{s1 id1 s1varsp s1varsc s1eqsp s1eqsc s1neqsp s1neqsc r}(hr:(Zbv s1 id1).Ret r):Ctr Tryz.prog 112 #[.agg ((v33' s1 s1varsp s1varsc s1eqsp s1eqsc s1neqsp s1neqsc)).toArray,i' id1] (fun G=>sl Rp.str G s1varsp s1varsc s1.vars∧sl a' G s1eqsp s1eqsc s1.eqs∧sl a' G s1neqsp s1neqsc s1.neqs) (fun G v=>∃ n s,v=n∧FnRd Tryz.prog fa0 foB G n s r):=by
 refine C' (args:=[_,_]) (N:=6) Tryz.func112 z z z (fun B C i k=>?_)
 obtain⟨e,f,d⟩:=k
 refine sr<|W' 122402 z z z fun o=>W' 122403 z z z fun t=>sg z z<|nx<|h'<|bA' 122402 z (by rw[i]; rfl) fun y c j u=>bA' 122403 z (by rw[i]; rfl) fun m g l p=>w'<|yy (bK' z z) z<|sg z z<|nx<|j' ?_
 obtain rfl:_=r:=hr
 exact k' z z ⟨_,_,z,(show FnRd Tryz.prog fa0 foB m (.func (.func 148) #[] #[.pointer (some ⟨o,0,none⟩),.pointer (some ⟨t,0,none⟩)]) () (fun _=>ZQ s1 id1) from (dc' E148 (fun x q=>dd' (eX' _ _ _ _ x q) (fun A h=>⟨(E' (ch' (r:=bp') (cs:=(v33' s1 s1varsp s1varsc s1eqsp s1eqsc s1neqsp s1neqsc)) j z ⟨[.slice s1varsp s1.vars.length s1varsc],[.slice s1eqsp s1.eqs.length s1eqsc,.slice s1neqsp s1.neqs.length s1neqsc,i' s1.next],z,⟨_,z,(e.mono c)⟩,⟨[.slice s1eqsp s1.eqs.length s1eqsc],[.slice s1neqsp s1.neqs.length s1neqsc,i' s1.next],z,⟨_,z,(f.mono c)⟩,⟨[.slice s1neqsp s1.neqs.length s1neqsc],[i' s1.next],z,⟨_,z,(d.mono c)⟩,z⟩⟩⟩) (mt g h)),(E' (ch' (r:=(Rp.int .i64)) (cs:=[i' id1]) l z z) h)⟩))))⟩
theorem dH'{s1 neq1 s1varsp s1varsc s1eqsp s1eqsc s1neqsp s1neqsc r}(hr:(Zb9 s1 neq1).Ret r):Ctr Tryz.prog 114 #[.agg ((v33' s1 s1varsp s1varsc s1eqsp s1eqsc s1neqsp s1neqsc)).toArray,.bool neq1] (fun G=>sl Rp.str G s1varsp s1varsc s1.vars∧sl a' G s1eqsp s1eqsc s1.eqs∧sl a' G s1neqsp s1neqsc s1.neqs) (fun G v=>∃ g h,v = .slice g r.length h∧sl a' G g h r):=by
 refine C' (args:=[_,_]) (N:=10) Tryz.func114 z z z (fun l m j e=>?_)
 obtain⟨f,d,c⟩:=e
 refine sr<|W' 2 z z z fun k=>sg z z<|nx<|h'<|sr<|mv z z<|nx<|aN' hr z (fun i hr=>?_) (fun i hr=>?_)
 ·refine sr<|yy (aL' z) z<|yy (b' 2 aS' z z z) z<|sg z z<|nx<|j' ?_
  replace hr:_=r:=hr
  refine g' ?_
  subst hr
  exact k' z z ⟨_,_,z,c⟩
 ·refine o'<|e'<|sr<|yy (ax' z) z<|yy (b' 2 aS' z z z) z<|sg z z<|nx<|j' ?_
  obtain rfl:_=r:=hr
  exact k' z z ⟨_,_,z,d⟩
theorem fF'(f:(List Zc))(e:Zb)(o:Nat)(u:Nat)(r:Bool)(hr:(Zad f e).Ret r):Ctr Tryz.prog 149 #[.pointer (some ⟨o,0,none⟩),.pointer (some ⟨u,0,none⟩)] (fun G=>At (Rp.sl r') G o 0 f∧At bp' G u 0 e) (fun G v=>v = .bool r):=by
 refine C' (args:=[_,_]) (N:=20) Tryz.func149 z z z (fun Q S J h=>?_)
 obtain⟨d,g⟩:=h
 refine sr<|sg z z<|nx<|h'<|Y' [false,false,false,false,false,false,false,false,false] mix (by kernel_rfl) (fun p=>?_)
 obtain⟨P,I,y,t⟩:=ca' d
 refine cn (fun _ c=>U' bQ' z (c _ _ _ y)) ?_
 obtain⟨l,k,hr⟩:=hr
 refine bB' z (fun _=>s' E133 z) (dv' k) z (fun D c=>(t.mono c)) ?_
 cases l
 ·skip
  refine cn (fun _ c=>f' z)<|ct z z<|ct z z<|ct z z<|ct z z<|ct z z<|ct z z<|X' p<|sk z z z<|sk z z z<|yy (l' z z) z<|mv z z<|sk z z z<|sk z z z<|sk z z z<|yy (l' z z) z<|sg z z<|u'<|am'<|e'<|j' ?_
  obtain rfl:_=r:=hr
  exact k' z z z
 ·skip
  refine cn (fun _ c=>f' z) ?_
  obtain⟨O,F,x,s⟩:=ca' d
  refine cy z z (fun _ c=>U' bQ' z (c _ _ _ x)) ?_
  obtain⟨H,j,hr⟩:=hr
  refine bB' (H' z z) (fun _=>s' E106 z) (cG' j) z (fun D c=>(s.mono c))<|cy z z (fun _ c=>aH' bi' az' z)<|cy z z (fun _ c=>ar' z) ?_
  obtain⟨R,E,m,n⟩:=ca' (be' (aF' g))
  refine cy z z (fun _ c=>U' bn' z (c _ _ _ m))<|cy z z (fun _ c=>L' A' (n.mono c) z)<|X' p ?_
  obtain⟨B,hr⟩:=hr
  refine gy z z (Y0.shr z z B) z<|aj' hr (H' z z) (ak' z z) z (fun A hr=>?_) (fun A hr=>?_)
  ·refine yy (m' z z) z<|mv z z ?_
   obtain⟨M,L,C,q⟩:=ca' d
   refine gy z z (U' bQ' z (C)) z ?_
   obtain⟨K,i,hr⟩:=hr
   refine F' (H' z z) z (s' E134 z) (dq' i) z (q)<|gy z z (bz' z z) z<|yy (m' z z) z<|sg z z<|u'<|am'<|e'<|j' ?_
   obtain rfl:_=r:=hr
   exact k' z z z
  ·refine yy (m' z z) z<|mv z z<|sk z z z<|sk z z z<|sk z z z<|yy (l' z z) z<|sg z z<|u'<|am'<|e'<|j' ?_
   obtain rfl:_=r:=hr
   exact k' z z z
theorem fx'{s1 p1 s1varsp s1varsc s1eqsp s1eqsc s1neqsp s1neqsc p1p p1c r}(hr:(Zgf s1 p1).Ret r):Ctr Tryz.prog 115 #[.agg ((v33' s1 s1varsp s1varsc s1eqsp s1eqsc s1neqsp s1neqsc)).toArray,.slice p1p p1.length p1c] (fun G=>sl Rp.str G s1varsp s1varsc s1.vars∧sl a' G s1eqsp s1eqsc s1.eqs∧sl a' G s1neqsp s1neqsc s1.neqs∧sl r' G p1p p1c p1) (fun G v=>∃ n t,v=n∧FnRd Tryz.prog fa0 foB G n t r):=by
 refine C' (args:=[_,_]) (N:=6) Tryz.func115 z z z (fun C D i k=>?_)
 obtain⟨f,g,e,o⟩:=k
 refine sr<|W' 123002 z z z fun p=>W' 123003 z z z fun u=>sg z z<|nx<|h'<|bA' 123003 z (by rw[i]; rfl) fun A d j y=>bA' 123002 z (by rw[i]; rfl) fun m c l q=>w'<|yy (bK' z z) z<|sg z z<|nx<|j' ?_
 obtain rfl:_=r:=hr
 exact k' z z ⟨_,_,z,(show FnRd Tryz.prog fa0 foB m (.func (.func 149) #[] #[.pointer (some ⟨u,0,none⟩),.pointer (some ⟨p,0,none⟩)]) () (fun _=>Zad p1 s1) from (dc' E149 (fun x s=>dd' (fF' _ _ _ _ x s) (fun B h=>⟨(E' (ch' (r:=(Rp.sl r')) (cs:=[.slice p1p p1.length p1c]) j z ⟨_,z,(o.mono d)⟩) (mt c h)),(E' (ch' (r:=bp') (cs:=(v33' s1 s1varsp s1varsc s1eqsp s1eqsc s1neqsp s1neqsc)) l z ⟨[.slice s1varsp s1.vars.length s1varsc],[.slice s1eqsp s1.eqs.length s1eqsc,.slice s1neqsp s1.neqs.length s1neqsc,i' s1.next],z,⟨_,z,(f.mono (mt d c))⟩,⟨[.slice s1eqsp s1.eqs.length s1eqsc],[.slice s1neqsp s1.neqs.length s1neqsc,i' s1.next],z,⟨_,z,(g.mono (mt d c))⟩,⟨[.slice s1neqsp s1.neqs.length s1neqsc],[i' s1.next],z,⟨_,z,(e.mono (mt d c))⟩,z⟩⟩⟩) h)⟩))))⟩
theorem eT'{s1 ev1 s1varsp s1varsc s1eqsp s1eqsc s1neqsp s1neqsc ev1pp ev1pc r}(hr:(ZbS s1 ev1).Ret r):Ctr Tryz.prog 41 #[.agg ((v33' s1 s1varsp s1varsc s1eqsp s1eqsc s1neqsp s1neqsc)).toArray,.agg ([i' ev1.kind,.string ev1.name,i' ev1.at',i' ev1.to',i' ev1.id,.slice ev1pp ev1.p.length ev1pc,.bool ev1.neq]).toArray] (fun G=>sl Rp.str G s1varsp s1varsc s1.vars∧sl a' G s1eqsp s1eqsc s1.eqs∧sl a' G s1neqsp s1neqsc s1.neqs∧sl r' G ev1pp ev1pc ev1.p) (fun G v=>v=i' r):=by
 refine C' (args:=[_,_]) (N:=12) Tryz.func41 z z z (fun k l i c=>?_)
 obtain⟨e,g,d,h⟩:=c
 refine sr<|W' 2 z z z fun j=>W' 3 z z z fun m=>sg z z<|nx<|h'<|sr<|yy (aJ' z) z<|yy (b' 3 sc3 z z z) z<|yy (ak' z z) z<|nx<|I' hr z (fun f hr=>?_) (fun f hr=>?_)
 ·refine sr<|yy (bf' z) z<|yy (b' 2 sc3 z z z) z<|sg z z<|nx<|j' ?_
  replace hr:_=r:=hr
  refine g' ?_
  subst hr
  exact k' z z z
 ·refine o'<|e'<|sr<|yy (aJ' z) z<|yy (b' 3 sc3 z z z) z<|sg z z<|nx<|j' ?_
  obtain rfl:_=r:=hr
  exact k' z z z
theorem bR'{s1 s1p s1c r}(hr:(Zx s1).Ret r):CtrL Tryz.prog 150 #[.slice s1p s1.length s1c] [] (fun G=>sl a' G s1p s1c s1) (fun G L v=>∃ n q g,L=[(7000,g)]∧v = .slice n r.length q∧RowR a' 68 G (.slice n r.length q) r g):=by
 refine aT' (args:=[_]) (N:=8) Tryz.func150 z z z (fun o c t m=>?_)
 have d:=m
 refine sr<|sg z z<|nx<|h'<|sr<|mv z z<|yy (Y0.eqlNil q' z z) z<|nx<|dK' (p:=s1p=none) z (fun f=>?_) (fun f=>?_)
 ·replace hr:=hr.1 (SlR.Zl1 d f)
  refine sr<|sg z z<|nx<|j' ?_
  replace hr:_=r:=hr
  refine g' ?_
  subst hr
  refine aA' (S':=St o c c [(7000,none)]) (wk (lw ln))<|k' z z ⟨_,_,_,z,z,(ea' (r:=a') (e:=68))⟩
 ·replace hr:=hr.2
  refine o'<|e'<|sr<|WL.litT (e:=68) (r:=a') (vs:=#[]) (cs:=[]) ([]:List Za) 4005 z z z z z (by decide) (fun _=>by kernel_rfl) (z) fun B x u=>mv z z ?_
  obtain⟨k,hr⟩:=hr
  refine bO' (r:=a') (e:=68) 4005 z z q' el68 z (by decide) z z u z d k fun A y h s=>sg z z<|nx<|j' ?_
  obtain rfl:_=r:=hr
  refine aA' (S':=St o c c [(7000,h)]) ?_ ?_
  ·intro w l
   have l:=l.rekey (i:=4005) (j:=7000) z (by rw[t]; rfl)
   exact l.weaken (lc z ln)
  exact k' z z ⟨_,_,_,z,z,s⟩
theorem eF'{x1 r}(hr:(Zdp x1).Ret r):Ctr Tryz.prog 178 #[i' x1] (fun G=>True) (fun G v=>v = .bool r):=by
 refine C' (args:=[_]) (N:=6) Tryz.func178 z z z fun e f d c=>sr<|sg z z<|nr<|mv z z<|mv z z<|yy (aR' z z) z<|sg z z<|nx<|j' ?_
 obtain rfl:_=r:=hr
 exact k' z z z
theorem fq'{x1 yv1 r}(hr:(Zco x1 yv1).Ret r):Ctr Tryz.prog 153 #[i' x1,i' yv1] (fun G=>True) (fun G v=>v=i' r):=by
 refine C' (args:=[_,_]) (N:=20) Tryz.func153 z z z fun m n k i=>sr<|sg z z<|nr<|mv z z ?_
 obtain⟨l,d,hr⟩:=hr
 refine F' z z (s' E178 z) (eF' d) z (trivial)<|sg z z<|nr<|mv z z ?_
 obtain⟨j,c,hr⟩:=hr
 refine F' z z (s' E178 z) (eF' c) z (trivial)<|sg z z<|nx<|h'<|sr<|mv z z<|nx<|aN' hr z (fun h hr=>?_) (fun h hr=>?_)
 ·exact (show False from hr).elim
 ·refine o'<|e'<|h'<|sr<|mv z z<|nx<|aN' hr z (fun g hr=>?_) (fun g hr=>?_)
  ·exact (show False from hr).elim
  ·refine o'<|e'<|h'<|sr<|mv z z<|mv z z<|yy (V' z z) z<|nx<|I' hr z (fun e hr=>?_) (fun e hr=>?_)
   ·refine sr<|sg z z<|nx<|j' ?_
    replace hr:_=r:=hr
    refine g' ?_
    subst hr
    exact k' z z z
   ·refine o'<|e'<|h'<|sr<|mv z z<|mv z z<|yy (br' z z) z<|nx<|I' hr z (fun f hr=>?_) (fun f hr=>?_)
    ·refine sr<|sg z z<|nx<|j' ?_
     replace hr:_=r:=hr
     refine g' ?_
     subst hr
     exact k' z z z
    ·refine o'<|e'<|sr<|sg z z<|nx<|j' ?_
     obtain rfl:_=r:=hr
     exact k' z z z
theorem eB'{p1 id1 p1pp p1pc r}(hr:(ZbJ p1 id1).Ret r):Ctr Tryz.prog 152 #[.agg ((v68' p1.id p1pp p1.p p1pc)).toArray,i' id1] (fun G=>sl r' G p1pp p1pc p1.p) (fun G v=>v=i' r):=by
 refine C' (args:=[_,_]) (N:=9) Tryz.func152 z z z (fun i j g c=>?_)
 have e:=c
 refine sr<|W' 2 z z z fun h=>sg z z<|nr<|yy (bb' z) z<|yy (b' 2 sc3 z z z) z<|mv z z ?_
 obtain⟨f,d,hr⟩:=hr
 refine F' z z (s' E153 z) (fq' d) z (trivial)<|sg z z<|nx<|j' ?_
 obtain rfl:_=r:=hr
 exact k' z z z
theorem cg'{x1 target1 x1p x1c r}(hr:(Zi x1 target1).Ret r):Ctr Tryz.prog 151 #[.slice x1p x1.length x1c,i' target1,.func (.func 152) #[] #[]] (fun G=>sl a' G x1p x1c x1) (fun G v=>v = .tuple #[i' r.1,.bool r.2]):=by
 refine C' (args:=[_,_,_]) (N:=49) Tryz.func151 z z z (fun y l P q=>?_)
 have h:=q
 refine sr<|sg z z<|sg z z<|nr<|mv z z<|yy (L' q' h z) z<|sg z z<|nr<|mv z z<|sg z z<|sg z z<|nx<|h'<|aa' (fun (⟨i,g⟩:Int×Mem)=>[(0,.slice x1p x1.length x1c),(1,i' target1),(2,.func (.func 152) #[] #[]),(8,i' (x1.length:Int)),(9,i' i)]) (fun ⟨i,g⟩=>Mem.le l g∧(Zl x1 target1 i).Ret r) (fun ⟨i,g⟩=>St y l g []) ?_ ?_
 ·refine B' ?_
  let k:Int→Prop:=fun I=>((fun K=>match K with|i=>Zl x1 target1 i:Int→Comp (Int×Bool)) I).wp (fun a=>a=r)
  replace hr:(Comp.loop _ _).wp k:=hr
  refine ab' (Φ:=k) (fun (⟨e,f,c⟩:Int×Int×Mem)=>((e,f):Int×Int)) (fun ⟨e,f,c⟩=>[(0,.slice x1p x1.length x1c),(1,i' target1),(2,.func (.func 152) #[] #[]),(8,i' (x1.length:Int)),(9,i' e),(10,i' f)]) (fun ⟨e,f,c⟩=>Mem.le l c) (fun ⟨e,f,c⟩=>St y l c []) ⟨0,(x1.length:Int),l⟩ hr (fc z (fc z (fc z (fc z (fc z (fc z fn)))))) mr (wk ln) ?_
  ·intro Q H J hr
   obtain⟨e,f,c⟩:=H
   have d:=J
   refine h'<|sr<|mv z z<|mv z z<|yy (V' z z) z<|nx<|I' hr z (fun A hr=>?_) (fun A hr=>?_)
   ·refine o'<|e'<|B'<|sr<|mv z z<|mv z z<|yy (N' z z) z<|yy (aH' az' dw' z) z<|yy (Y0.shr z z (by decide)) z<|yy (aH' dw' az' z) z<|sg z z<|nr<|mv z z<|mv z z<|mv z z ?_
    obtain⟨S,m,hr⟩:=hr
    refine yy (Q' q' aP' (h.mono d) z z m) z ?_
    obtain⟨L,E,C,p⟩:=ba' (E' (Z' h m) d)
    refine yy (aw' _ bI' z z C) z<|mv z z ?_
    obtain⟨O,s,hr⟩:=hr
    refine F' z z (cH' E152 z z) (eB' s) z (p)<|yy (V' z z) z<|nx<|I' hr z (fun u hr=>?_) (fun u hr=>?_)
    ·refine w'<|mv z z<|yy (N' z z) z<|sg z z<|u'<|D'<|P' ⟨IntKind.i64.wrap ((IntKind.i64.wrap (Int.fdiv (IntKind.u64.wrap (IntKind.i64.wrap (e+f))) (2 ^ (min (1:Int).toNat IntKind.u64.bits))))+1),f,c⟩ hr d (fc z (fc z (fc z (fc z (fc z (fc z fn)))))) (wk ln)
    ·refine w'<|mv z z<|sg z z<|u'<|D'<|P' ⟨e,IntKind.i64.wrap (Int.fdiv (IntKind.u64.wrap (IntKind.i64.wrap (e+f))) (2 ^ (min (1:Int).toNat IntKind.u64.bits))),c⟩ hr d (fc z (fc z (fc z (fc z (fc z (fc z fn)))))) (wk ln)
   ·refine ad'<|n'<|n'<|J'<|ae' ⟨e,c⟩ ⟨d,hr⟩ (fc z (fc z (fc z (fc z (fc z fn))))) (wk ln)
 ·rintro⟨i,g⟩ ⟨j,hr⟩
  refine e'<|sr<|mv z z<|mv z z<|mv z z<|aj' hr z (V' z z) z (fun B hr=>?_) (fun B hr=>?_)
  ·refine mv z z<|gy z z (f' z) z<|gy z z (f' z) z<|gy z z (f' z) z ?_
   obtain⟨R,n,hr⟩:=hr
   refine gy z z (Q' q' aP' (h.mono j) z z n) z ?_
   obtain⟨D,F,x,o⟩:=ba' (E' (Z' h n) j)
   refine gy z z (aw' _ bI' z z x) z<|gy z z (f' z) z ?_
   obtain⟨M,t,hr⟩:=hr
   refine F' (H' z z) z (cH' E152 z z) (eB' t) z (o)<|gy z z (ak' z z) z<|yy (m' z z) z<|sg z z<|sg z z<|nx<|j' ?_
   obtain rfl:_=r:=hr
   exact aE' z z z z
  ·refine mv z z<|sk z z z<|sk z z z<|sk z z z<|sk z z z<|sk z z z<|sk z z z<|sk z z z<|sk z z z<|yy (l' z z) z<|sg z z<|sg z z<|nx<|j' ?_
   obtain rfl:_=r:=hr
   exact aE' z z z z
theorem eU'{s1 q1 neq1 s1varsp s1varsc s1eqsp s1eqsc s1neqsp s1neqsc q1pp q1pc r}(hr:(Zc4 s1 q1 neq1).Ret r):Ctr Tryz.prog 116 #[.agg ((v33' s1 s1varsp s1varsc s1eqsp s1eqsc s1neqsp s1neqsc)).toArray,.agg ((v68' q1.id q1pp q1.p q1pc)).toArray,.bool neq1] (fun G=>sl Rp.str G s1varsp s1varsc s1.vars∧sl a' G s1eqsp s1eqsc s1.eqs∧sl a' G s1neqsp s1neqsc s1.neqs∧sl r' G q1pp q1pc q1.p) (fun G v=>∃ o s t u n q,v = .agg ((v33' r o s t u n q)).toArray∧sl Rp.str G o s r.vars∧sl a' G t u r.eqs∧sl a' G n q r.neqs):=by
 refine C' (args:=[_,_,_]) (N:=32) Tryz.func116 z z z (fun w0 G0 k P=>?_)
 obtain⟨g,m,l,K⟩:=P
 have hz:w0.L.zero:=by rw[k]; intro p hp; simp at hp
 refine sr<|W' 3 z z z fun b1=>W' 4 z z z fun b2=>T' 6 z z33 z fun b3=>nr<|yy (t' 3 ai' z z z) z<|mv z z ?_
 obtain⟨an,T,hr⟩:=hr
 refine M' z z (s' E114 z) (dH' T) z (⟨g,m,l⟩) (fun ae aq f B=>?_)
 obtain⟨af,am,rfl,R⟩:=B
 obtain⟨au,S,hr⟩:=hr
 refine cc' z z (s' E150 z) (bR' S) z (R) ln hz (fun ab ar ai d A=>?_)
 obtain⟨aj,ad,aa,rfl,rfl,F⟩:=A
 refine bt' (fun w E=>E.rekey (i:=7000) (j:=4013) z (by rw[k]; rfl))<|sg z z<|nr<|mv z z<|yy (bb' z) z<|yy (b' 4 sc3 z z z) z ?_
 obtain⟨az,Q,hr⟩:=hr
 refine WL.peekROZ (L1:=[]) (r:=a') (e:=68) 4013 F z hz z z (fun _=>s' E151 z) (Ctr.ro (cg' Q)) z (fun G' ao W=>W) ln (fun i hi=>by simp at hi) hz<|mv z z<|yy (K' z z) z<|yy (K' z z) z<|sg z z<|sg z z<|nr<|mv z z<|mv z z<|yy (t' 4 bI' z z z) z<|aU' (e:=68) (r:=a') (vs:=#[(0,.agg ((v68' q1.id q1pp q1.p q1pc)).toArray)]) (cs:=(v68' q1.id q1pp q1.p q1pc)++([])) ([q1]:List Za) z z z z z (by decide) (fun _=>by kernel_rfl) ⟨(v68' q1.id q1pp q1.p q1pc),[],z,⟨[i' q1.id],[.slice q1pp q1.p.length q1pc],z,z,⟨_,z,(K.mono (mt f d))⟩⟩,z⟩ (key:=999) z (by rw[k]; rfl) (fun p1 ay c V=>?_)
 obtain⟨J,M,hr⟩:=hr
 refine bt' (fun w E=>E.rekey (i:=4013) (j:=5000) z (by rw[k]; rfl))<|cc' z z (s' E154 z) (df' M) z (⟨(F.mono c),V⟩) (lc z ln) hz (fun al av ak h C=>?_)
 obtain⟨D,H,X,rfl,rfl,I⟩:=C
 refine bt' (fun w E=>E.rekey (i:=5000) (j:=4025) z (by rw[k]; rfl))<|sg z z<|nx<|h'<|sr<|mv z z<|nx<|aN' hr z (fun U hr=>?_) (fun U hr=>?_)
 ·refine w'<|mv z z<|yy (aL' z) z<|au' 3 ([.slice s1varsp s1.vars.length s1varsc,.slice s1eqsp s1.eqs.length s1eqsc,.slice D J.length H,i' s1.next]).toArray z cr' z z z (show 2<4 by decide) z z<|nr<|bu' (r:=a') (e:=68) 4025 I z (by rw[k]; rfl) fun aw ax y O Y=>yy (t' 3 ai' z z z) z<|v' 6 z aZ' z z z z z (List.all_eq_true.1 z)<|nx<|j' ?_
  obtain rfl:_=r:=hr
  exact k' z (ac' (i:=6) ai' z z z) ⟨_,_,_,_,_,_,z,(g.mono (mt (mt (mt (mt f d) c) h) y)),(m.mono (mt (mt (mt (mt f d) c) h) y)),O⟩
 ·refine w'<|mv z z<|yy (ax' z) z<|au' 3 ([.slice s1varsp s1.vars.length s1varsc,.slice D J.length H,.slice s1neqsp s1.neqs.length s1neqsc,i' s1.next]).toArray z cr' z z z (show 1<4 by decide) z z<|nr<|bu' (r:=a') (e:=68) 4025 I z (by rw[k]; rfl) fun aA ap x L Z=>yy (t' 3 ai' z z z) z<|v' 6 z aZ' z z z z z (List.all_eq_true.1 z)<|nx<|j' ?_
  obtain rfl:_=r:=hr
  exact k' z (ac' (i:=6) ai' z z z) ⟨_,_,_,_,_,_,z,(g.mono (mt (mt (mt (mt f d) c) h) x)),L,(l.mono (mt (mt (mt (mt f d) c) h) x))⟩
theorem fM'(j:Zd)(h:Zb)(u:Nat)(B:Nat)(r:Bool)(hr:(Zao j h).Ret r):Ctr Tryz.prog 111 #[.pointer (some ⟨u,0,none⟩),.pointer (some ⟨B,0,none⟩)] (fun G=>At ag' G u 0 j∧At bp' G B 0 h) (fun G v=>v = .bool r):=by
 refine C' (args:=[_,_]) (N:=19) Tryz.func111 z z z (fun R S Q l=>?_)
 obtain⟨c,k⟩:=l
 refine sr<|sg z z<|nr<|yy (aJ' z) z<|yy (U' sc3 z (aC' (be' (aK' (aK' (aK' (aK' (aF' c)))))))) z<|aj' hr z (bz' z z) z (fun C hr=>?_) (fun C hr=>?_)
 ·refine mv z z<|gy z z (aJ' z) z<|gy z z (U' sc3 z (aC' (be' (aK' (aK' (aK' (aK' (aF' c)))))))) z<|aj' hr (H' z z) (V' z z) z (fun A hr=>?_) (fun A hr=>?_)
  ·refine yy (m' z z) z<|mv z z ?_
   obtain⟨t,p,D,y,q,s,x,g,i,f⟩:=er' k
   refine gy z z (aw' _ ai' z z x) z<|gy z z (aJ' z) z<|gy z z (U' sc3 z (aC' (be' (aK' (aK' (aK' (aK' (aF' c)))))))) z ?_
   obtain⟨L,o,hr⟩:=hr
   refine M' (H' z z) z (s' E112 z) (de' o) z (⟨g,i,f⟩) (fun I M F e=>?_)
   obtain⟨J,K,rfl,m⟩:=e
   obtain⟨P,n,hr⟩:=hr
   refine WL.callFn (vs:=[]) (a:=()) (H' z z) z m z z z n (fun H O E d=>?_)
   subst d
   refine gy z z (ao' z) z<|yy (m' z z) z<|sg z z<|nx<|j' ?_
   obtain rfl:_=r:=hr
   exact k' z z z
  ·refine yy (m' z z) z<|mv z z<|sk z z z<|sk z z z<|sk z z z<|sk z z z<|sk z z z<|sk z z z<|yy (l' z z) z<|sg z z<|nx<|j' ?_
   obtain rfl:_=r:=hr
   exact k' z z z
 ·refine mv z z<|sk z z z<|sk z z z<|sk z z z<|yy (l' z z) z<|mv z z<|sk z z z<|sk z z z<|sk z z z<|sk z z z<|sk z z z<|sk z z z<|yy (l' z z) z<|sg z z<|nx<|j' ?_
  obtain rfl:_=r:=hr
  exact k' z z z
theorem fN'(k:Zb)(i:Zd)(t:Nat)(A:Nat)(r:Bool)(hr:(ZaH k i).Ret r):Ctr Tryz.prog 113 #[.pointer (some ⟨t,0,none⟩),.pointer (some ⟨A,0,none⟩)] (fun G=>At bp' G t 0 k∧At ag' G A 0 i) (fun G v=>v = .bool r):=by
 refine C' (args:=[_,_]) (N:=20) Tryz.func113 z z z (fun K L J l=>?_)
 obtain⟨e,d⟩:=l
 refine sr<|sg z z<|nr ?_
 obtain⟨s,o,C,x,p,q,u,h,j,g⟩:=er' e
 refine yy (aw' _ ai' z z u) z<|yy (cY' z) z<|yy (U' sc4 z (AtK.bool (aK' (aK' (aK' (aK' (aK' (aK' (aF' d))))))))) z ?_
 obtain⟨H,n,hr⟩:=hr
 refine M' z z (s' E114 z) (dH' n) z (⟨h,j,g⟩) (fun D I c f=>?_)
 obtain⟨E,F,rfl,m⟩:=f
 refine yy (L' q' m z) z<|aj' hr z (V' z z) z (fun B hr=>?_) (fun B hr=>?_)
 ·refine mv z z<|gy z z (aJ' z) z<|gy z z (U' sc3 z (aC' (E' (be' (aK' (aK' (aK' (aK' (aF' d)))))) c))) z<|aj' hr (H' z z) (ak' z z) z (fun y hr=>?_) (fun y hr=>?_)
  ·refine gy z z (f' z) z<|gy z z (bf' z) z<|gy z z (U' sc3 z (aC' (E' (aK' (aK' (aK' (aF' e)))) c))) z<|gy z z (bc' z z) z<|gy z z (m' z z) z<|gy z z (Y0.notD z) z<|yy (m' z z) z<|sg z z<|nx<|j' ?_
   obtain rfl:_=r:=hr
   exact k' z z z
  ·refine gy z z (f' z) z<|sk z z z<|sk z z z<|sk z z z<|gy z z (l' z z) z<|gy z z (ao' z) z<|yy (m' z z) z<|sg z z<|nx<|j' ?_
   obtain rfl:_=r:=hr
   exact k' z z z
 ·refine mv z z<|sk z z z<|sk z z z<|sk z z z<|sk z z z<|aB' (af' z z) z<|aB' (af' z z) z<|aB' (af' z z) z<|sk z z z<|sk z z z<|yy (l' z z) z<|sg z z<|nx<|j' ?_
  obtain rfl:_=r:=hr
  exact k' z z z
theorem gF'{s1 ev1 s1varsp s1varsc s1eqsp s1eqsc s1neqsp s1neqsc ev1pp ev1pc r}(hr:(Zho s1 ev1).Ret r):Ctr Tryz.prog 68 #[.agg ((v33' s1 s1varsp s1varsc s1eqsp s1eqsc s1neqsp s1neqsc)).toArray,.agg ([i' ev1.kind,.string ev1.name,i' ev1.at',i' ev1.to',i' ev1.id,.slice ev1pp ev1.p.length ev1pc,.bool ev1.neq]).toArray] (fun G=>sl Rp.str G s1varsp s1varsc s1.vars∧sl a' G s1eqsp s1eqsc s1.eqs∧sl a' G s1neqsp s1neqsc s1.neqs∧sl r' G ev1pp ev1pc ev1.p) (fun G v=>∃ s t C D A y,v = .tuple #[.agg ((v33' r.1 s t C D A y)).toArray,i' r.2]∧sl Rp.str G s t r.1.vars∧sl a' G C D r.1.eqs∧sl a' G A y r.1.neqs):=by
 refine C' (args:=[_,_]) (N:=41) Tryz.func68 z z z (fun w0 G0 ae ax=>?_)
 obtain⟨k,l,j,p⟩:=ax
 refine sr<|W' 113602 z z z fun b1=>W' 113603 z z z fun b2=>T' 4 z z33 z fun b3=>sg z z<|nx<|h'<|bA' 113603 z (by rw[ae]; rfl) fun a0 c ai aq=>bA' 113602 z (by rw[ae]; rfl) fun am f ag ap=>Y' [false,false,false,false,false,false,false] mix (by kernel_rfl) fun hb=>cn (fun _ g=>bK' z z) ?_
 obtain⟨ah,aB,hr⟩:=hr
 refine aD' (post:=fun G v=>∃ n B,v=n∧FnRd Tryz.prog fa0 foI G n B ah) (fun _=>z) (fun _ _=>s' E94 z) (bo' aB) z (fun G' g=>((show FnRd Tryz.prog fa0 foB am (.func (.func 111) #[] #[.pointer (some ⟨b2,0,none⟩),.pointer (some ⟨b1,0,none⟩)]) () (fun _=>Zao ev1 s1) from (dc' E111 (fun x hx=>dd' (fM' _ _ _ _ x hx) (fun G' g=>⟨(E' (ch' (r:=ag') (cs:=[i' ev1.kind,.string ev1.name,i' ev1.at',i' ev1.to',i' ev1.id,.slice ev1pp ev1.p.length ev1pc,.bool ev1.neq]) ai z ⟨[i' ev1.kind],[.string ev1.name,i' ev1.at',i' ev1.to',i' ev1.id,.slice ev1pp ev1.p.length ev1pc,.bool ev1.neq],z,z,⟨[.string ev1.name],[i' ev1.at',i' ev1.to',i' ev1.id,.slice ev1pp ev1.p.length ev1pc,.bool ev1.neq],z,z,⟨[i' ev1.at'],[i' ev1.to',i' ev1.id,.slice ev1pp ev1.p.length ev1pc,.bool ev1.neq],z,z,⟨[i' ev1.to'],[i' ev1.id,.slice ev1pp ev1.p.length ev1pc,.bool ev1.neq],z,z,⟨[i' ev1.id],[.slice ev1pp ev1.p.length ev1pc,.bool ev1.neq],z,z,⟨[.slice ev1pp ev1.p.length ev1pc],[.bool ev1.neq],z,⟨_,z,(p.mono c)⟩,z⟩⟩⟩⟩⟩⟩) (mt f g)),(E' (ch' (r:=bp') (cs:=(v33' s1 s1varsp s1varsc s1eqsp s1eqsc s1neqsp s1neqsc)) ag z ⟨[.slice s1varsp s1.vars.length s1varsc],[.slice s1eqsp s1.eqs.length s1eqsc,.slice s1neqsp s1.neqs.length s1neqsc,i' s1.next],z,⟨_,z,(k.mono (mt c f))⟩,⟨[.slice s1eqsp s1.eqs.length s1eqsc],[.slice s1neqsp s1.neqs.length s1neqsc,i' s1.next],z,⟨_,z,(l.mono (mt c f))⟩,⟨[.slice s1neqsp s1.neqs.length s1neqsc],[i' s1.next],z,⟨_,z,(j.mono (mt c f))⟩,z⟩⟩⟩) g)⟩)))).mono g)) (fun v G1 G2 g h=>?_) ?_
 ·obtain⟨n,B,rfl,J⟩:=h
  exact⟨_,_,z,J.mono g⟩
 refine cu (fun _ _ g=>bK' z z) ?_
 obtain⟨ak,aA,hr⟩:=hr
 refine aD' (post:=fun G v=>∃ m q,v=m∧FnRd Tryz.prog fa0 foI G m q ak) (fun _=>z) (fun _ _=>s' E94 z) (bo' aA) z (fun G' g=>((show FnRd Tryz.prog fa0 foB am (.func (.func 113) #[] #[.pointer (some ⟨b1,0,none⟩),.pointer (some ⟨b2,0,none⟩)]) () (fun _=>ZaH s1 ev1) from (dc' E113 (fun x hx=>dd' (fN' _ _ _ _ x hx) (fun G' g=>⟨(E' (ch' (r:=bp') (cs:=(v33' s1 s1varsp s1varsc s1eqsp s1eqsc s1neqsp s1neqsc)) ag z ⟨[.slice s1varsp s1.vars.length s1varsc],[.slice s1eqsp s1.eqs.length s1eqsc,.slice s1neqsp s1.neqs.length s1neqsc,i' s1.next],z,⟨_,z,(k.mono (mt c f))⟩,⟨[.slice s1eqsp s1.eqs.length s1eqsc],[.slice s1neqsp s1.neqs.length s1neqsc,i' s1.next],z,⟨_,z,(l.mono (mt c f))⟩,⟨[.slice s1neqsp s1.neqs.length s1neqsc],[i' s1.next],z,⟨_,z,(j.mono (mt c f))⟩,z⟩⟩⟩) g),(E' (ch' (r:=ag') (cs:=[i' ev1.kind,.string ev1.name,i' ev1.at',i' ev1.to',i' ev1.id,.slice ev1pp ev1.p.length ev1pc,.bool ev1.neq]) ai z ⟨[i' ev1.kind],[.string ev1.name,i' ev1.at',i' ev1.to',i' ev1.id,.slice ev1pp ev1.p.length ev1pc,.bool ev1.neq],z,z,⟨[.string ev1.name],[i' ev1.at',i' ev1.to',i' ev1.id,.slice ev1pp ev1.p.length ev1pc,.bool ev1.neq],z,z,⟨[i' ev1.at'],[i' ev1.to',i' ev1.id,.slice ev1pp ev1.p.length ev1pc,.bool ev1.neq],z,z,⟨[i' ev1.to'],[i' ev1.id,.slice ev1pp ev1.p.length ev1pc,.bool ev1.neq],z,z,⟨[i' ev1.id],[.slice ev1pp ev1.p.length ev1pc,.bool ev1.neq],z,z,⟨[.slice ev1pp ev1.p.length ev1pc],[.bool ev1.neq],z,⟨_,z,(p.mono c)⟩,z⟩⟩⟩⟩⟩⟩) (mt f g))⟩)))).mono g)) (fun v G1 G2 g h=>?_) ?_
 ·obtain⟨m,q,rfl,H⟩:=h
  exact⟨_,_,z,H.mono g⟩
 refine cu (fun _ _ g=>t' 113602 ai' z z z)<|cu (fun _ _ g=>cD' z)<|cu (fun _ _ g=>b' 113603 bQ' z z z)<|db' (d:=11) (post:=fun G v=>∃ m q,v=m∧FnRd Tryz.prog fa0 foI G m q ak) (d':=9) (post':=fun G v=>∃ n B,v=n∧FnRd Tryz.prog fa0 foI G n B ah) (fun aP aR aV o ab Z=>?_)
 obtain⟨m,q,rfl,H⟩:=ab
 obtain⟨n,B,rfl,J⟩:=Z
 obtain⟨aY,ay,hr⟩:=hr
 refine M' z z (s' E115 z) (fx' ay) z (⟨(k.mono (mt (mt c f) o)),(l.mono (mt (mt c f) o)),(j.mono (mt (mt c f) o)),(p.mono (mt (mt c f) o))⟩) (fun aI aU E W=>?_)
 obtain⟨aN,aK,rfl,ar⟩:=W
 obtain⟨aD,ao,hr⟩:=hr
 refine M' z z (s' E94 z) (bo' ao) z (ar) (fun aJ aW I ad=>?_)
 obtain⟨aS,aQ,rfl,af⟩:=ad
 obtain⟨aj,Q,rfl⟩:=bX' J
 obtain⟨U,F,rfl⟩:=bX' H
 obtain⟨L,u,rfl⟩:=bX' af
 refine aU' (e:=131) (r:=(Rp.fn Tryz.prog fa0 foI)) (vs:=#[(0,(.func (.func aj) #[] Q)),(1,(.func (.func U) #[] F)),(2,(.func (.func L) #[] u))]) (cs:=[(.func (.func aj) #[] Q)]++([(.func (.func U) #[] F)]++([(.func (.func L) #[] u)]++([])))) ([ah,ak,aD]:List (Unit→Comp Int)) z z z z z (by decide) (fun _=>by kernel_rfl) ⟨[(.func (.func aj) #[] Q)],[(.func (.func U) #[] F)]++([(.func (.func L) #[] u)]++([])),z,⟨_,z,(J.mono (mt E I))⟩,⟨[(.func (.func U) #[] F)],[(.func (.func L) #[] u)]++([]),z,⟨_,z,(H.mono (mt E I))⟩,⟨[(.func (.func L) #[] u)],[],z,⟨_,z,af⟩,z⟩⟩⟩ (key:=999) z (by rw[ae]; rfl) (fun p1 aZ al aG=>?_)
 obtain⟨aT,av,hr⟩:=hr
 refine F' z z (s' E93 z) (cC' av) z (aG)<|sg z z<|cK' 113602 z ap c (mt (mt (mt (mt f o) E) I) al)<|cK' 113603 z aq mr c<|u'<|am'<|e'<|h'<|sr<|mv z z<|yy (aR' z z) z<|nx<|I' hr z (fun aF hr=>?_) (fun aF hr=>?_)
 ·refine sr<|yy (aq' (vs:=#[]) (v:=.agg ([.slice none 0 0,.slice none 0 0,.slice none 0 0,i' 0]).toArray) z z (fun _=>by kernel_rfl)) z<|mv z z<|v' 4 z aZ' z z z z z (List.all_eq_true.1 z)<|sg z z<|nx<|j' ?_
  replace hr:_=r:=hr
  refine g' ?_
  subst hr
  exact aE' z (ac' (i:=4) ai' z z z) z ⟨_,_,_,_,_,_,z,(ah' Rp.str _),(ah' a' _),(ah' a' _)⟩
 ·refine o'<|e'<|sr<|yy (t' 113602 ai' z z z) z<|yy (t' 113603 bw' z z z) z ?_
  obtain⟨V,au,hr⟩:=hr
  refine F' z z (s' E41 z) (eT' au) z (⟨k,l,j,p⟩)<|sg z z<|nr<|yy (t' 113602 ai' z z z) z<|mv z z<|yy (cD' z) z<|yy (b' 113603 bQ' z z z) z<|yy (aq' (vs:=#[(0,i' V),(1,.slice ev1pp ev1.p.length ev1pc)]) (v:=.agg ([i' V,.slice ev1pp ev1.p.length ev1pc]).toArray) z z (fun _=>by kernel_rfl)) z<|yy (cY' z) z<|yy (b' 113603 sc4 z z z) z ?_
  obtain⟨K,az,hr⟩:=hr
  refine M' z z (s' E116 z) (eU' az) z (⟨k,l,j,p⟩) (fun aM aX aH X=>?_)
  obtain⟨R,T,Y,ac,P,M,rfl,O,aa,S⟩:=X
  refine v' 113602 z aZ' z z z z z (List.all_eq_true.1 z)<|nr<|yy (bf' z) z<|yy (b' 113602 sc3 z z z) z<|mv z z<|yy (N' z z) z<|yy (Y0.max2 z z) z<|yy (bf' z) z<|au' 113602 ([.slice R K.vars.length T,.slice Y K.eqs.length ac,.slice P K.neqs.length M,i' (if K.next<(IntKind.i64.wrap (V+1)) then (IntKind.i64.wrap (V+1)) else K.next)]).toArray z sz3 z z z (show 3<4 by decide) z z<|nr<|yy (t' 113602 ai' z z z) z<|v' 4 z aZ' z z z z z (List.all_eq_true.1 z)<|sg z z<|nx<|j' ?_
  obtain rfl:_=r:=hr
  exact aE' z (ac' (i:=4) ai' z z z) z ⟨_,_,_,_,_,_,z,O,aa,S⟩
theorem eu'{q1 cap1 q1pp q1pc b1 r}(hr:(Zcs q1 cap1).Ret r):CtrL Tryz.prog 155 #[.agg ((v68' q1.id q1pp q1.p q1pc)).toArray,.pointer (some ⟨b1,0,none⟩)] [(123403,some ⟨b1,.cells ([i' cap1]).toArray 3 (0,0),0⟩)] (fun G=>sl r' G q1pp q1pc q1.p) (fun G L v=>L=[(123403,some ⟨b1,.cells ([i' cap1]).toArray 3 (0,0),0⟩)]∧v = .bool r):=by
 refine aT' (args:=[_,_]) (N:=8) Tryz.func155 z z z (fun f d g c=>?_)
 have e:=c
 refine sr<|W' 2 z z z fun h=>sg z z<|nr<|yy (bb' z) z<|yy (b' 2 sc3 z z z) z<|yy (b' 123403 sc3 z z z) z<|yy (ak' z z) z<|sg z z<|nx<|j' ?_
 obtain rfl:_=r:=hr
 refine aA' (S':=St f d d [(123403,some ⟨b1,.cells ([i' cap1]).toArray 3 (0,0),0⟩)]) (wk (lc z ln))<|k' z z ⟨z,z⟩
theorem ct'{s1 cap1 s1p s1c b1 r}(hr:(Zv s1 cap1).Ret r):CtrL Tryz.prog 181 #[.slice s1p s1.length s1c,.func (.func 155) #[] #[.pointer (some ⟨b1,0,none⟩)]] [(123403,some ⟨b1,.cells ([i' cap1]).toArray 3 (0,0),0⟩)] (fun G=>sl a' G s1p s1c s1) (fun G L v=>L=[(123403,some ⟨b1,.cells ([i' cap1]).toArray 3 (0,0),0⟩)]∧v=i' r):=by
 refine aT' (args:=[_,_]) (N:=19) Tryz.func181 z z z (fun k h D u=>?_)
 have l:=u
 have hz:k.L.zero:=by
  rw[D]; intro p E x t
  simp only[List.mem_cons,List.not_mem_nil,or_false] at E
  subst E; cases t; rfl
 refine sr<|sg z z<|nx<|h'<|sr<|mv z z<|yy (L' q' l z) z<|mv z z<|nx<|aa' (fun (g:Mem)=>match g with|f=>[]) (fun (g:Mem)=>match g with|f=>Mem.le h f∧(Zu).Ret r) (fun (g:Mem)=>match g with|f=>St k h f [(123403,some ⟨b1,.cells ([i' cap1]).toArray 3 (0,0),0⟩)]) ?_ ?_
 ·refine B' ?_
  let m:(Int⊕Unit)→Prop:=fun M=>((fun O=>match O with | .inl rv1=>Comp.ret rv1 | .inr ()=>Zu:(Int⊕Unit)→Comp Int) M).wp (fun a=>a=r)
  replace hr:(Comp.loop _ _).wp m:=hr
  refine ab' (Φ:=m) (fun (⟨c,e⟩:Int×Mem)=>(c:Int)) (fun ⟨c,e⟩=>[(0,.slice s1p s1.length s1c),(1,.func (.func 155) #[] #[.pointer (some ⟨b1,0,none⟩)]),(7,i' (s1.length:Int)),(8,i' c)]) (fun ⟨c,e⟩=>Mem.le h e) (fun ⟨c,e⟩=>St k h e [(123403,some ⟨b1,.cells ([i' cap1]).toArray 3 (0,0),0⟩)]) ⟨0,h⟩ hr (fc z (fc z (fc z (fc z fn)))) mr (wk (lc z ln)) ?_
  ·intro Q g t hr
   obtain⟨c,e⟩:=g
   have d:=t
   refine sr<|yy (V' z z) z<|nx<|h'<|I' hr z (fun C hr=>?_) (fun C hr=>?_)
   ·refine o'<|e'<|h'<|B'<|sr<|mv z z<|sg z z<|nr<|mv z z<|mv z z<|mv z z ?_
    obtain⟨R,q,hr⟩:=hr
    refine yy (Q' q' aP' (l.mono d) z z q) z ?_
    obtain⟨I,J,B,s⟩:=ba' (E' (Z' l q) d)
    refine yy (aw' _ bI' z z B) z ?_
    obtain⟨P,y,hr⟩:=hr
    refine WL.callRO z z (cH' E155 z z) (eu' y) z (s) (lc z ln) (fun i F=>by simp only[List.map_cons,List.map_nil,List.mem_cons,List.not_mem_nil,or_false] at F; subst F; exact z) hz (fun K o n j=>?_)
    subst j
    refine nx<|aN' hr z (fun A hr=>?_) (fun A hr=>?_)
    ·refine sr<|mv z z<|sg z z<|nx<|j' ?_
     replace hr:_=r:=hr
     refine x'<|g'<|g'<|x'<|aI'<|g' ?_
     subst hr
     refine aA' (S':=St k h o [(123403,some ⟨b1,.cells ([i' cap1]).toArray 3 (0,0),0⟩)]) (wk (lc z ln))<|k' z z ⟨z,z⟩
    ·refine o'<|D'<|e'<|w'<|yy (N' z z) z<|mv z z<|u'<|P' ⟨IntKind.i64.wrap (c+1),o⟩ hr (mt d n) (fc z (fc z (fc z (fc z fn)))) (wk (lc z ln))
   ·refine ad'<|n'<|n'<|J'<|ae' e ⟨d,hr⟩ fn (wk (lc z ln))
 ·rintro f ⟨H,hr⟩
  refine e'<|sr<|sg z z<|nx<|j' ?_
  obtain rfl:_=r:=hr
  refine aA' (S':=St k h f [(123403,some ⟨b1,.cells ([i' cap1]).toArray 3 (0,0),0⟩)]) (wk (lc z ln))<|k' z z ⟨z,z⟩
theorem bE'{s1 cap1 s1p s1c s1n s1tk b1 r}(hr:(Zp s1 cap1).Ret r):CtrL Tryz.prog 156 #[.slice s1p s1n s1c,.func (.func 155) #[] #[.pointer (some ⟨b1,0,none⟩)]] [(5000,s1tk),(123403,some ⟨b1,.cells ([i' cap1]).toArray 3 (0,0),0⟩)] (fun G=>RowR a' 68 G (.slice s1p s1n s1c) s1 s1tk) (fun G L v=>∃ Y zc M,L=[(5000,M),(123403,some ⟨b1,.cells ([i' cap1]).toArray 3 (0,0),0⟩)]∧v = .slice Y r.length zc∧RowR a' 68 G (.slice Y r.length zc) r M):=by
 refine aT' (args:=[_,_]) (N:=42) Tryz.func156 z z z (fun D s ae R=>?_)
 have l:=R
 have hz:D.L.zero:=by
  rw[ae]; intro p hp x F
  simp only[List.mem_cons,List.not_mem_nil,or_false] at hp
  rcases hp with rfl|rfl
  ·exact RowR.zero l F
  ·cases F; rfl
 refine sr<|sg z z<|nr<|mv z z<|mv z z ?_
 obtain⟨H,T,hr⟩:=hr
 refine WL.peekROZ (r:=a') (e:=68) 5000 l z hz z z (fun _=>s' E181 z) (ct' T) (by rw[RowR.eqv l]) (fun G' ao ag=>(cN' ag)) (lc z ln) (fun i hi=>by simp only[List.map_cons,List.map_nil,List.mem_cons,List.not_mem_nil,or_false] at hi; subst hi; exact⟨z,by decide⟩) hz<|sg z z<|nx<|h'<|sr<|mv z z<|yy (ak' z z) z<|nx<|I' hr z (fun ac hr=>?_) (fun ac hr=>?_)
 ·refine sr<|mv z z<|sg z z<|nx<|j' ?_
  replace hr:_=r:=hr
  refine g' ?_
  subst hr
  refine aA' (S':=St D s s [(5000,s1tk),(123403,some ⟨b1,.cells ([i' cap1]).toArray 3 (0,0),0⟩)]) (wk (lc z (lc z ln)))<|k' z z ⟨_,_,_,z,(RowR.eqv l),(RowR.std l)⟩
 ·refine o'<|e'<|h'<|sr<|mv z z<|yy (N' z z) z<|sg z z<|nx<|aa' (fun (⟨t,j,m,h⟩:(List Za)×Option Ow×Int×Mem)=>[(0,.slice s1p s1n s1c),(5,i' m)]) (fun ⟨t,j,m,h⟩=>Mem.le s h∧RowR a' 68 h (.slice s1p s1n s1c) t j∧(Zm t m).Ret r) (fun ⟨t,j,m,h⟩=>St D s h [(123403,some ⟨b1,.cells ([i' cap1]).toArray 3 (0,0),0⟩),(5000,j)]) ?_ ?_
  ·refine B' ?_
   let E:(((List Za)×Int))→Prop:=fun oo=>((fun ov=>match ov with|(t,m)=>Zm t m:(((List Za)×Int))→Comp (List Za)) oo).wp (fun a=>a=r)
   replace hr:(Comp.loop _ _).wp E:=hr
   refine ab' (Φ:=E) (fun (⟨n,c,k,q,g⟩:(List Za)×Option Ow×Int×Int×Mem)=>((n,k,q):(List Za)×Int×Int)) (fun ⟨n,c,k,q,g⟩=>[(0,.slice s1p s1n s1c),(1,.func (.func 155) #[] #[.pointer (some ⟨b1,0,none⟩)]),(5,i' k),(6,i' q)]) (fun ⟨n,c,k,q,g⟩=>Mem.le s g∧RowR a' 68 g (.slice s1p s1n s1c) n c) (fun ⟨n,c,k,q,g⟩=>St D s g [(123403,some ⟨b1,.cells ([i' cap1]).toArray 3 (0,0),0⟩),(5000,c)]) ⟨s1,s1tk,H,IntKind.i64.wrap (H+1),s⟩ hr (fc z (fc z (fc z (fc z fn)))) ⟨mr,l⟩ (wk (lc z (lc z ln))) ?_
   ·intro aq gx F hr
    obtain⟨n,c,k,q,g⟩:=gx
    obtain⟨o,f⟩:=F
    refine h'<|sr<|mv z z<|mv z z<|yy (dQ' q' f z) z<|yy (V' z z) z<|nx<|I' hr z (fun W hr=>?_) (fun W hr=>?_)
    ·refine o'<|e'<|h'<|B'<|sr<|mv z z<|mv z z ?_
     obtain⟨y,O,hr⟩:=hr
     refine yy (aX' q' aP' f z z O) z ?_
     obtain⟨A,B,X,C⟩:=ba' (cF' f O)
     refine yy (dR' _ bI' f (key:=5000) z z z (by decide) X) z<|T' 7 z z68 z fun b2=>v' 7 z aP' z z z z z (List.all_eq_true.1 z)<|nr<|mv z z<|yy (t' 7 bI' z z z) z ?_
     obtain⟨ap,S,hr⟩:=hr
     refine WL.callRO z z (cH' E155 z z) (eu' S) z (C) (lc z ln) (fun i hi=>by simp only[List.map_cons,List.map_nil,List.mem_cons,List.not_mem_nil,or_false] at hi; subst hi; exact z) hz (fun aj I d u=>?_)
     subst u
     refine yy (ao' z) z<|nx<|aN' hr z (fun V hr=>?_) (fun V hr=>?_)
     ·refine sr<|mv z z<|mv z z<|yy (t' 7 bI' z z z) z ?_
      obtain⟨x2,J,hr⟩:=hr
      refine yy (aX' q' aP' (f.mono d) z z J) z<|bx' (r:=a') (e:=68) (cs':=(v68' y.id A y.p B)) (i:=k) (z':=y) 5000 z aP' z (f.mono d) z z z z ⟨[i' y.id],[.slice A y.p.length B],z,z,⟨_,z,(C.mono d)⟩⟩ J fun ah P=>nx<|w'<|mv z z<|yy (N' z z) z<|sg z z<|u'<|D'<|e'<|w'<|mv z z<|yy (N' z z) z<|sg z z<|u'<|P' ⟨(n.set k.toNat y),ah,IntKind.i64.wrap (k+1),IntKind.i64.wrap (q+1),I⟩ hr ⟨(mt o d),P⟩ (fc z (fc z (fc z (fc z fn)))) (wk (lc z (lc z ln)))
     ·refine o'<|D'<|e'<|w'<|mv z z<|yy (N' z z) z<|sg z z<|u'<|P' ⟨n,c,k,IntKind.i64.wrap (q+1),I⟩ hr ⟨(mt o d),(f.mono d)⟩ (fc z (fc z (fc z (fc z fn)))) (wk (lc z (lc z ln)))
    ·refine ad'<|n'<|n'<|J'<|ae' ⟨n,c,k,g⟩ ⟨o,f,hr⟩ (fc z (fc z fn)) (wk (lc z (lc z ln)))
  ·rintro⟨t,j,m,h⟩ ⟨ai,Z,hr⟩
   refine e'<|sr<|mv z z<|mv z z ?_
   obtain⟨U,hr⟩:=hr
   refine WL.clearTail (r:=a') (e:=68) (lo:=m) (zx:=(Za.mk 0 [])) 5000 z q' el68 z z (List.all_eq_true.1 z) (by decide) ⟨[i' 0],[.slice none 0 0],z,z,⟨_,z,(ah' _ _)⟩⟩ Z z z z U fun am ad Q=>nr<|mv z z<|mv z z ?_
   obtain⟨ab,hr⟩:=hr
   refine WL.takeRow (r:=a') (e:=68) (hi:=m) z z q' aP' z Q z z ab fun K=>sg z z<|nx<|j' ?_
   obtain rfl:_=r:=hr
   refine aA' (S':=St D s h [(5000,ad),(123403,some ⟨b1,.cells ([i' cap1]).toArray 3 (0,0),0⟩)]) (wk (lc z (lc z ln)))<|k' z z ⟨_,_,_,z,(RowR.eqv K),(RowR.std K)⟩
theorem eK'{s1 id1 s1varsp s1varsc s1eqsp s1eqsc s1neqsp s1neqsc r}(hr:(Zcr s1 id1).Ret r):Ctr Tryz.prog 117 #[.agg ((v33' s1 s1varsp s1varsc s1eqsp s1eqsc s1neqsp s1neqsc)).toArray,i' id1] (fun G=>sl Rp.str G s1varsp s1varsc s1.vars∧sl a' G s1eqsp s1eqsc s1.eqs∧sl a' G s1neqsp s1neqsc s1.neqs) (fun G v=>∃ g k m n f h,v = .agg ((v33' r g k m n f h)).toArray∧sl Rp.str G g k r.vars∧sl a' G m n r.eqs∧sl a' G f h r.neqs):=by
 refine C' (args:=[_,_]) (N:=20) Tryz.func117 z z z (fun w0 G0 c S=>?_)
 obtain⟨A,E,y⟩:=S
 have hz:w0.L.zero:=by rw[c]; intro p hp; simp at hp
 refine sr<|W' 2 z z z fun b1=>W' 123403 z z z fun b2=>T' 4 z z33 z fun b3=>nr<|yy (bK' z z) z<|sg z z<|nr<|yy (ax' z) z<|yy (b' 2 aS' z z z) z ?_
 obtain⟨au,W,hr⟩:=hr
 refine cc' z z (s' E150 z) (bR' W) z (E) ln hz (fun aj aw af t B=>?_)
 obtain⟨am,ar,ac,rfl,rfl,U⟩:=B
 refine bt' (fun w d=>d.rekey (i:=7000) (j:=4009) z (by rw[c]; rfl))<|mv z z ?_
 obtain⟨I,V,hr⟩:=hr
 refine bt' (fun w d=>d.rekey (i:=4009) (j:=5000) z (by rw[c]; rfl))<|cc' z z (s' E156 z) (bE' V) z (U) (lc z (lc z ln)) hz (fun ag ax ao o x=>?_)
 obtain⟨H,F,ad,rfl,rfl,O⟩:=x
 refine bt' (fun w d=>d.rekey (i:=5000) (j:=4011) z (by rw[c]; rfl))<|bu' (r:=a') (e:=68) 4011 O z (by rw[c]; rfl) fun az aB l P Z=>yy (ax' z) z<|au' 2 ([.slice s1varsp s1.vars.length s1varsc,.slice H I.length F,.slice s1neqsp s1.neqs.length s1neqsc,i' s1.next]).toArray z cr' z z z (show 1<4 by decide) z z<|nr<|yy (aL' z) z<|yy (b' 2 aS' z z z) z ?_
 obtain⟨aC,R,hr⟩:=hr
 refine cc' z z (s' E150 z) (bR' R) z ((y.mono (mt (mt t o) l))) ln hz (fun ai ay ae s C=>?_)
 obtain⟨ak,al,aa,rfl,rfl,J⟩:=C
 refine bt' (fun w d=>d.rekey (i:=7000) (j:=4015) z (by rw[c]; rfl))<|mv z z ?_
 obtain⟨X,M,hr⟩:=hr
 refine bt' (fun w d=>d.rekey (i:=4015) (j:=5000) z (by rw[c]; rfl))<|cc' z z (s' E156 z) (bE' M) z (J) (lc z (lc z ln)) hz (fun aq aA ap u D=>?_)
 obtain⟨K,Q,Y,rfl,rfl,T⟩:=D
 refine bt' (fun w d=>d.rekey (i:=5000) (j:=4017) z (by rw[c]; rfl))<|bu' (r:=a') (e:=68) 4017 T z (by rw[c]; rfl) fun aD av q L ab=>yy (aL' z) z<|au' 2 ([.slice s1varsp s1.vars.length s1varsc,.slice H I.length F,.slice K X.length Q,i' s1.next]).toArray z cr' z z z (show 2<4 by decide) z z<|nr<|yy (t' 2 ai' z z z) z<|v' 4 z aZ' z z z z z (List.all_eq_true.1 z)<|nx<|j' ?_
 obtain rfl:_=r:=hr
 exact k' z (ac' (i:=4) ai' z z z) ⟨_,_,_,_,_,_,z,(A.mono (mt (mt (mt (mt (mt t o) l) s) u) q)),(P.mono (mt (mt s u) q)),L⟩
theorem gy'{s1 ev1 s1varsp s1varsc s1eqsp s1eqsc s1neqsp s1neqsc ev1pp ev1pc r}(hr:(Zge s1 ev1).Ret r):Ctr Tryz.prog 69 #[.agg ((v33' s1 s1varsp s1varsc s1eqsp s1eqsc s1neqsp s1neqsc)).toArray,.agg ([i' ev1.kind,.string ev1.name,i' ev1.at',i' ev1.to',i' ev1.id,.slice ev1pp ev1.p.length ev1pc,.bool ev1.neq]).toArray] (fun G=>sl Rp.str G s1varsp s1varsc s1.vars∧sl a' G s1eqsp s1eqsc s1.eqs∧sl a' G s1neqsp s1neqsc s1.neqs∧sl r' G ev1pp ev1pc ev1.p) (fun G v=>∃ f c h l d g,v = .tuple #[.agg ((v33' r.1 f c h l d g)).toArray,i' r.2]∧sl Rp.str G f c r.1.vars∧sl a' G h l r.1.eqs∧sl a' G d g r.1.neqs):=by
 refine C' (args:=[_,_]) (N:=22) Tryz.func69 z z z (fun w0 G0 T I=>?_)
 obtain⟨k,p,j,W⟩:=I
 refine sr<|W' 2 z z z fun b1=>W' 3 z z z fun b2=>T' 4 z z33 z fun b3=>sg z z<|nx<|h'<|sr<|yy (t' 2 ai' z z z) z<|yy (aJ' z) z<|yy (b' 3 sc3 z z z) z ?_
 obtain⟨ae,O,hr⟩:=hr
 refine M' z z (s' E112 z) (de' O) z (⟨k,p,j⟩) (fun aa ag o x=>?_)
 obtain⟨ac,ad,rfl,L⟩:=x
 obtain⟨R,M,hr⟩:=hr
 refine M' z z (s' E94 z) (bo' M) z (L) (fun Z ah n u=>?_)
 obtain⟨Y,X,rfl,C⟩:=u
 obtain⟨B,q,rfl⟩:=bX' C
 refine aU' (e:=131) (r:=(Rp.fn Tryz.prog fa0 foI)) (vs:=#[(0,(.func (.func B) #[] q))]) (cs:=[(.func (.func B) #[] q)]++([])) ([R]:List (Unit→Comp Int)) z z z z z (by decide) (fun _=>by kernel_rfl) ⟨[(.func (.func B) #[] q)],[],z,⟨_,z,C⟩,z⟩ (key:=999) z (by rw[T]; rfl) (fun p1 aj m U=>?_)
 obtain⟨ak,J,hr⟩:=hr
 refine F' z z (s' E93 z) (cC' J) z (U)<|sg z z<|nr<|mv z z<|yy (aR' z z) z<|nx<|I' hr z (fun S hr=>?_) (fun S hr=>?_)
 ·refine sr<|yy (aq' (vs:=#[]) (v:=.agg ([.slice none 0 0,.slice none 0 0,.slice none 0 0,i' 0]).toArray) z z (fun _=>by kernel_rfl)) z<|mv z z<|v' 4 z aZ' z z z z z (List.all_eq_true.1 z)<|sg z z<|nx<|j' ?_
  replace hr:_=r:=hr
  refine g' ?_
  subst hr
  exact aE' z (ac' (i:=4) ai' z z z) z ⟨_,_,_,_,_,_,z,(ah' Rp.str _),(ah' a' _),(ah' a' _)⟩
 ·refine o'<|e'<|sr<|yy (t' 2 ai' z z z) z<|yy (aJ' z) z<|yy (b' 3 sc3 z z z) z ?_
  obtain⟨af,H,hr⟩:=hr
  refine M' z z (s' E117 z) (eK' H) z (⟨(k.mono (mt (mt o n) m)),(p.mono (mt (mt o n) m)),(j.mono (mt (mt o n) m))⟩) (fun ab ai V y=>?_)
  obtain⟨K,F,Q,P,D,E,rfl,s,A,t⟩:=y
  refine v' 4 z aZ' z z z z z (List.all_eq_true.1 z)<|sg z z<|nx<|j' ?_
  obtain rfl:_=r:=hr
  exact aE' z (ac' (i:=4) ai' z z z) z ⟨_,_,_,_,_,_,z,s,A,t⟩
theorem gk'{q1 cap1 q1pp q1pc cap1pp cap1pc b1 r}(hr:(ZeS q1 cap1).Ret r):CtrL Tryz.prog 118 #[.agg ((v68' q1.id q1pp q1.p q1pc)).toArray,.pointer (some ⟨b1,0,none⟩)] [(114003,some ⟨b1,.cells ([i' cap1.kind,.string cap1.name,i' cap1.at',i' cap1.to',i' cap1.id,.slice cap1pp cap1.p.length cap1pc,.bool cap1.neq]).toArray 40 (0,0),0⟩)] (fun G=>sl r' G q1pp q1pc q1.p∧sl r' G cap1pp cap1pc cap1.p) (fun G L v=>L=[(114003,some ⟨b1,.cells ([i' cap1.kind,.string cap1.name,i' cap1.at',i' cap1.to',i' cap1.id,.slice cap1pp cap1.p.length cap1pc,.bool cap1.neq]).toArray 40 (0,0),0⟩)]∧(∃ e d,v = .agg ((v68' r.id e r.p d)).toArray∧sl r' G e d r.p)):=by
 refine aT' (args:=[_,_]) (N:=13) Tryz.func118 z z z (fun m n j g=>?_)
 obtain⟨f,c⟩:=g
 refine sr<|W' 2 z z z fun k=>T' 3 z z68 z fun l=>nx<|h'<|sr<|yy (bb' z) z<|yy (b' 2 sc3 z z z) z<|yy (aJ' z) z<|yy (b' 114003 sc3 z z z) z<|yy (ak' z z) z<|nx<|I' hr z (fun h hr=>?_) (fun h hr=>?_)
 ·refine w'<|yy (cD' z) z<|yy (b' 114003 bQ' z z z) z<|yy (bs' z) z<|au' 2 ([i' q1.id,.slice cap1pp cap1.p.length cap1pc]).toArray z sz38 z z z (show 1<2 by decide) z z<|nr<|yy (t' 2 bI' z z z) z<|v' 3 z aP' z z z z z (List.all_eq_true.1 z)<|nx<|j' ?_
  obtain rfl:_=r:=hr
  exact WE.retW1 z (ac' (i:=3) bI' z z z) (lc z ln) ⟨z,⟨_,_,z,c⟩⟩
 ·refine o'<|e'<|sr<|yy (t' 2 bI' z z z) z<|v' 3 z aP' z z z z z (List.all_eq_true.1 z)<|nx<|j' ?_
  obtain rfl:_=r:=hr
  exact WE.retW1 z (ac' (i:=3) bI' z z z) (lc z ln) ⟨z,⟨_,_,z,f⟩⟩
theorem cw'{l1 cap1 l1p l1c cap1pp cap1pc b1 r}(hr:(ZH l1 cap1).Ret r):CtrL Tryz.prog 119 #[.slice l1p l1.length l1c,.func (.func 118) #[] #[.pointer (some ⟨b1,0,none⟩)]] [(114003,some ⟨b1,.cells ([i' cap1.kind,.string cap1.name,i' cap1.at',i' cap1.to',i' cap1.id,.slice cap1pp cap1.p.length cap1pc,.bool cap1.neq]).toArray 40 (0,0),0⟩)] (fun G=>sl a' G l1p l1c l1∧sl r' G cap1pp cap1pc cap1.p) (fun G L v=>L=[(114003,some ⟨b1,.cells ([i' cap1.kind,.string cap1.name,i' cap1.at',i' cap1.to',i' cap1.id,.slice cap1pp cap1.p.length cap1pc,.bool cap1.neq]).toArray 40 (0,0),0⟩)]∧(∃ V Y,v = .slice V r.length Y∧sl a' G V Y r)):=by
 refine aT' (args:=[_,_]) (N:=26) Tryz.func119 z z z (fun H A J Q=>?_)
 obtain⟨t,C⟩:=Q
 have hz:H.L.zero:=by
  rw[J]; intro p hp x P
  simp only[List.mem_cons,List.not_mem_nil,or_false] at hp
  subst hp; cases P; rfl
 refine sr<|sg z z<|nr<|mv z z<|yy (L' q' t z) z ?_
 obtain⟨aa,hr⟩:=hr
 refine dM' (r:=a') (e:=68) (n:=(l1.length:Int)) (zx:=(Za.mk 0 [])) 4010 z z q' el68 z (by decide) (by decide) ⟨[i' 0],[.slice none 0 0],z,z,⟨_,z,(ah' _ _)⟩⟩ z z aa fun F R ad=>sg z z<|nx<|h'<|sr<|mv z z<|yy (L' q' t z) z<|mv z z<|nx<|aa' (fun (⟨k,f,m⟩:(List Za)×Option Ow×Mem)=>[(5,.slice F (l1.length:Int).toNat ((l1.length:Int).toNat))]) (fun ⟨k,f,m⟩=>Mem.le A m∧RowR a' 68 m (.slice F (l1.length:Int).toNat ((l1.length:Int).toNat)) k f∧(ZN k).Ret r) (fun ⟨k,f,m⟩=>St H A m [(114003,some ⟨b1,.cells ([i' cap1.kind,.string cap1.name,i' cap1.at',i' cap1.to',i' cap1.id,.slice cap1pp cap1.p.length cap1pc,.bool cap1.neq]).toArray 40 (0,0),0⟩),(4010,f)]) ?_ ?_
 ·refine B' ?_
  let B:(List Za)→Prop:=fun oo=>((fun ov=>match ov with|k=>ZN k:(List Za)→Comp (List Za)) oo).wp (fun a=>a=r)
  replace hr:(Comp.loop _ _).wp B:=hr
  refine ab' (Φ:=B) (fun (⟨h,d,c,j⟩:(List Za)×Option Ow×Int×Mem)=>((h,c):(List Za)×Int)) (fun ⟨h,d,c,j⟩=>[(1,.func (.func 118) #[] #[.pointer (some ⟨b1,0,none⟩)]),(5,.slice F (l1.length:Int).toNat ((l1.length:Int).toNat)),(11,.slice l1p l1.length l1c),(12,i' (l1.length:Int)),(13,i' c)]) (fun ⟨h,d,c,j⟩=>Mem.le A j∧RowR a' 68 j (.slice F (l1.length:Int).toNat ((l1.length:Int).toNat)) h d) (fun ⟨h,d,c,j⟩=>St H A j [(114003,some ⟨b1,.cells ([i' cap1.kind,.string cap1.name,i' cap1.at',i' cap1.to',i' cap1.id,.slice cap1pp cap1.p.length cap1pc,.bool cap1.neq]).toArray 40 (0,0),0⟩),(4010,d)]) ⟨(List.replicate (l1.length:Int).toNat (Za.mk 0 [])),R,0,A⟩ hr (fc z (fc z (fc z (fc z (fc z fn))))) ⟨mr,ad⟩ (wk (lc z (lc z ln))) ?_
  ·intro ap gx P hr
   obtain⟨h,d,c,j⟩:=gx
   obtain⟨g,q⟩:=P
   refine sr<|yy (V' z z) z<|nx<|h'<|I' hr z (fun Z hr=>?_) (fun Z hr=>?_)
   ·refine o'<|e'<|h'<|B'<|sr<|mv z z ?_
    obtain⟨x1,K,hr⟩:=hr
    refine yy (Q' q' aP' (t.mono g) z z K) z ?_
    obtain⟨ai,aj,W,M⟩:=ba' (E' (Z' t K) g)
    refine yy (aw' _ bI' z z W) z<|T' 7 z z68 z fun b2=>sg z z<|v' 7 z aP' z z z z z (List.all_eq_true.1 z)<|nx<|w'<|mv z z<|mv z z<|mv z z<|yy (t' 7 bI' z z z) z ?_
    obtain⟨l,T,hr⟩:=hr
    refine WL.callRO z z (cH' E118 z z) (gk' T) z (⟨M,(C.mono g)⟩) (lc z ln) (fun i hi=>by simp only[List.map_cons,List.map_nil,List.mem_cons,List.not_mem_nil,or_false] at hi; subst hi; exact z) hz (fun al X o y=>?_)
    obtain⟨u,s,rfl,E⟩:=y
    obtain⟨x2,I,hr⟩:=hr
    refine yy (aX' q' aP' (q.mono o) z z I) z<|bx' (r:=a') (e:=68) (cs':=(v68' l.id u l.p s)) (i:=c) (z':=l) 4010 z aP' z (q.mono o) z z z z ⟨[i' l.id],[.slice u l.p.length s],z,z,⟨_,z,E⟩⟩ I fun ae O=>u'<|D'<|e'<|w'<|yy (N' z z) z<|mv z z<|u'<|P' ⟨(h.set c.toNat l),ae,IntKind.i64.wrap (c+1),X⟩ hr ⟨(mt g o),O⟩ (fc z (fc z (fc z (fc z (fc z fn))))) (wk (lc z (lc z ln)))
   ·refine ad'<|n'<|n'<|J'<|ae' ⟨h,d,j⟩ ⟨g,q,hr⟩ (fc z fn) (wk (lc z (lc z ln)))
 ·rintro⟨k,f,m⟩ ⟨ah,S,hr⟩
  refine e'<|sr<|mv z z<|sg z z<|nx<|j' ?_
  obtain rfl:_=r:=hr
  refine dB' (r:=a') (e:=68) 4010 S z (by rw[J]; rfl) fun ao U ag D af=>aA' (S':=St H A U [(114003,some ⟨b1,.cells ([i' cap1.kind,.string cap1.name,i' cap1.at',i' cap1.to',i' cap1.id,.slice cap1pp cap1.p.length cap1pc,.bool cap1.neq]).toArray 40 (0,0),0⟩)]) (wk (lc z ln))<|k' z z ⟨z,⟨_,_,(cV' D),(cN' D)⟩⟩
theorem gG'{s1 ev1 s1varsp s1varsc s1eqsp s1eqsc s1neqsp s1neqsc ev1pp ev1pc r}(hr:(Zhq s1 ev1).Ret r):Ctr Tryz.prog 70 #[.agg ((v33' s1 s1varsp s1varsc s1eqsp s1eqsc s1neqsp s1neqsc)).toArray,.agg ([i' ev1.kind,.string ev1.name,i' ev1.at',i' ev1.to',i' ev1.id,.slice ev1pp ev1.p.length ev1pc,.bool ev1.neq]).toArray] (fun G=>sl Rp.str G s1varsp s1varsc s1.vars∧sl a' G s1eqsp s1eqsc s1.eqs∧sl a' G s1neqsp s1neqsc s1.neqs∧sl r' G ev1pp ev1pc ev1.p) (fun G v=>∃ D E I K H F,v = .tuple #[.agg ((v33' r.1 D E I K H F)).toArray,i' r.2]∧sl Rp.str G D E r.1.vars∧sl a' G I K r.1.eqs∧sl a' G H F r.1.neqs):=by
 refine C' (args:=[_,_]) (N:=36) Tryz.func70 z z z (fun w0 G0 ak ar=>?_)
 obtain⟨A,C,y,O⟩:=ar
 have hz:w0.L.zero:=by rw[ak]; intro p hp; simp at hp
 refine sr<|W' 2 z z z fun b1=>W' 114003 z z z fun b2=>T' 4 z z33 z fun b3=>sg z z<|nx<|h'<|Y' [false,false,false,false,false,false,false,false] mix (by kernel_rfl) fun hb=>cn (fun _ c=>t' 2 ai' z z z)<|cn (fun _ c=>aJ' z)<|cn (fun _ c=>b' 114003 sc3 z z z) ?_
 obtain⟨ac,ax,hr⟩:=hr
 refine aD' (post:=fun G v=>∃ j o,v=j∧FnRd Tryz.prog fa0 foB G j o ac) (fun _=>z) (fun _ _=>s' E112 z) (de' ax) z (fun G' c=>⟨(A.mono c),(C.mono c),(y.mono c)⟩) (fun v G1 G2 c h=>?_) ?_
 ·obtain⟨j,o,rfl,P⟩:=h
  exact⟨_,_,z,P.mono c⟩
 obtain⟨af,aw,hr⟩:=hr
 refine cR' (f:=94) (φ:=fun G v=>∃ t B,v=t∧FnRd Tryz.prog fa0 foI G t B af) (fun _=>z) (fun v G1 G2 c h=>?_) (fun u G' c hu=>?_) ?_
 ·obtain⟨t,B,rfl,M⟩:=h
  exact⟨_,_,z,M.mono c⟩
 ·obtain⟨⟨j,o,ai,P⟩,_⟩:=(show (fun G v=>∃ j o,v=j∧FnRd Tryz.prog fa0 foB G j o ac) G'.m (u 11)∧True from hu)
  exact⟨_,_,_,fun _=>s' E94 z,bo' aw,(by simp only[ai] <;> rfl),P⟩
 refine cu (fun _ _ c=>t' 2 ai' z z z)<|cu (fun _ _ c=>cD' z)<|cu (fun _ _ c=>b' 114003 bQ' z z z)<|db' (d:=12) (post:=fun G v=>∃ t B,v=t∧FnRd Tryz.prog fa0 foI G t B af) (d':=11) (post':=fun G v=>∃ j o,v=j∧FnRd Tryz.prog fa0 foB G j o ac) (fun aK aM aV g Z X=>?_)
 obtain⟨t,B,rfl,M⟩:=Z
 obtain⟨j,o,rfl,P⟩:=X
 obtain⟨aT,au,hr⟩:=hr
 refine M' z z (s' E115 z) (fx' au) z (⟨(A.mono g),(C.mono g),(y.mono g),(O.mono g)⟩) (fun aC aP s V=>?_)
 obtain⟨aH,aE,rfl,am⟩:=V
 obtain⟨az,al,hr⟩:=hr
 refine M' z z (s' E94 z) (bo' al) z (am) (fun aD aS q aa=>?_)
 obtain⟨aO,aL,rfl,ab⟩:=aa
 obtain⟨ad,S,rfl⟩:=bX' M
 obtain⟨U,L,rfl⟩:=bX' ab
 refine aU' (e:=131) (r:=(Rp.fn Tryz.prog fa0 foI)) (vs:=#[(0,(.func (.func ad) #[] S)),(1,(.func (.func U) #[] L))]) (cs:=[(.func (.func ad) #[] S)]++([(.func (.func U) #[] L)]++([]))) ([af,az]:List (Unit→Comp Int)) z z z z z (by decide) (fun _=>by kernel_rfl) ⟨[(.func (.func ad) #[] S)],[(.func (.func U) #[] L)]++([]),z,⟨_,z,(M.mono (mt s q))⟩,⟨[(.func (.func U) #[] L)],[],z,⟨_,z,ab⟩,z⟩⟩ (key:=999) z (by rw[ak]; rfl) (fun p1 aR x aB=>?_)
 obtain⟨aQ,aq,hr⟩:=hr
 refine F' z z (s' E93 z) (cC' aq) z (aB)<|sg z z<|u'<|am'<|e'<|h'<|sr<|mv z z<|yy (aR' z z) z<|nx<|I' hr z (fun aA hr=>?_) (fun aA hr=>?_)
 ·refine sr<|yy (aq' (vs:=#[]) (v:=.agg ([.slice none 0 0,.slice none 0 0,.slice none 0 0,i' 0]).toArray) z z (fun _=>by kernel_rfl)) z<|mv z z<|v' 4 z aZ' z z z z z (List.all_eq_true.1 z)<|sg z z<|nx<|j' ?_
  replace hr:_=r:=hr
  refine g' ?_
  subst hr
  exact aE' z (ac' (i:=4) ai' z z z) z ⟨_,_,_,_,_,_,z,(ah' Rp.str _),(ah' a' _),(ah' a' _)⟩
 ·refine o'<|e'<|sr<|yy (bK' z z) z<|sg z z<|nx<|h'<|Y' [false,false,false,false,false,false,false,false,false] mix (by kernel_rfl) fun hb=>cn (fun _ c=>ax' z)<|cn (fun _ c=>b' 2 aS' z z z)<|cn (fun _ c=>f' z) ?_
  obtain⟨J,ao,hr⟩:=hr
  refine eq' (f:=119) (φ:=fun G v=>∃ k l,v = .slice k J.length l∧sl a' G k l J) (L1:=[(114003,some ⟨b2,.cells ([i' ev1.kind,.string ev1.name,i' ev1.at',i' ev1.to',i' ev1.id,.slice ev1pp ev1.p.length ev1pc,.bool ev1.neq]).toArray 40 (0,0),0⟩)]) (fun _=>z) (fun v G1 G2 c h=>?_) (lc z ln) (fun i hi=>by simp only[List.map_cons,List.map_nil,List.mem_cons,List.not_mem_nil,or_false] at hi; subst hi; exact z) hz (fun u G' c hu=>?_) ?_
  ·obtain⟨k,l,rfl,R⟩:=h
   exact⟨_,_,z,R.mono c⟩
  ·skip
   exact⟨_,_,_,fun _=>s' E119 z,cw' ao,z,⟨((C.mono (mt (mt (mt g s) q) x)).mono c),((O.mono (mt (mt (mt g s) q) x)).mono c)⟩⟩
  refine cu (fun _ _ c=>aL' z)<|cu (fun _ _ c=>b' 2 aS' z z z)<|cu (fun _ _ c=>f' z) ?_
  obtain⟨Q,av,hr⟩:=hr
  refine eq' (f:=119) (φ:=fun G v=>∃ n m,v = .slice n Q.length m∧sl a' G n m Q) (L1:=[(114003,some ⟨b2,.cells ([i' ev1.kind,.string ev1.name,i' ev1.at',i' ev1.to',i' ev1.id,.slice ev1pp ev1.p.length ev1pc,.bool ev1.neq]).toArray 40 (0,0),0⟩)]) (fun _=>z) (fun v G1 G2 c h=>?_) (lc z ln) (fun i hi=>by simp only[List.map_cons,List.map_nil,List.mem_cons,List.not_mem_nil,or_false] at hi; subst hi; exact z) hz (fun u G' c hu=>?_) ?_
  ·obtain⟨n,m,rfl,T⟩:=h
   exact⟨_,_,z,T.mono c⟩
  ·obtain⟨_,_⟩:=(show True∧True from hu)
   exact⟨_,_,_,fun _=>s' E119 z,cw' av,z,⟨((y.mono (mt (mt (mt g s) q) x)).mono c),((O.mono (mt (mt (mt g s) q) x)).mono c)⟩⟩
  refine cu (fun _ _ c=>ax' z)<|db' (d:=32) (post:=fun G v=>∃ n m,v = .slice n Q.length m∧sl a' G n m Q) (d':=28) (post':=fun G v=>∃ k l,v = .slice k J.length l∧sl a' G k l J) (fun aF aJ aU ah W Y=>?_)
  obtain⟨n,m,rfl,T⟩:=W
  obtain⟨k,l,rfl,R⟩:=Y
  refine au' 2 ([.slice s1varsp s1.vars.length s1varsc,.slice k J.length l,.slice s1neqsp s1.neqs.length s1neqsc,i' s1.next]).toArray z cr' z z z (show 1<4 by decide) z z<|yy (aL' z) z<|au' 2 ([.slice s1varsp s1.vars.length s1varsc,.slice k J.length l,.slice n Q.length m,i' s1.next]).toArray z cr' z z z (show 2<4 by decide) z z<|u'<|am'<|e'<|sr<|yy (t' 2 ai' z z z) z<|v' 4 z aZ' z z z z z (List.all_eq_true.1 z)<|sg z z<|nx<|j' ?_
  obtain rfl:_=r:=hr
  exact aE' z (ac' (i:=4) ai' z z z) z ⟨_,_,_,_,_,_,z,(A.mono (mt (mt (mt (mt g s) q) x) ah)),R,T⟩
theorem fG'(h:Zb)(f:Bool)(s:Nat)(x:Nat)(r:Bool)(hr:(Zaw h f).Ret r):Ctr Tryz.prog 120 #[.pointer (some ⟨s,0,none⟩),.pointer (some ⟨x,0,none⟩)] (fun G=>At bp' G s 0 h∧At Rp.bool G x 0 f) (fun G v=>v = .bool r):=by
 refine C' (args:=[_,_]) (N:=9) Tryz.func120 z z z (fun I J H k=>?_)
 obtain⟨j,i⟩:=k
 refine sr<|sg z z<|nr ?_
 obtain⟨q,n,y,u,o,p,t,e,g,d⟩:=er' j
 refine yy (aw' _ ai' z z t) z<|yy (U' sc4 z (AtK.bool i)) z<|yy (ao' z) z ?_
 obtain⟨E,m,hr⟩:=hr
 refine M' z z (s' E114 z) (dH' m) z (⟨e,g,d⟩) (fun B F A c=>?_)
 obtain⟨C,D,rfl,l⟩:=c
 refine yy (L' q' l z) z<|yy (V' z z) z<|sg z z<|nx<|j' ?_
 obtain rfl:_=r:=hr
 exact k' z z z
theorem gz'{s1 ev1 s1varsp s1varsc s1eqsp s1eqsc s1neqsp s1neqsc ev1pp ev1pc r}(hr:(Zgg s1 ev1).Ret r):Ctr Tryz.prog 71 #[.agg ((v33' s1 s1varsp s1varsc s1eqsp s1eqsc s1neqsp s1neqsc)).toArray,.agg ([i' ev1.kind,.string ev1.name,i' ev1.at',i' ev1.to',i' ev1.id,.slice ev1pp ev1.p.length ev1pc,.bool ev1.neq]).toArray] (fun G=>sl Rp.str G s1varsp s1varsc s1.vars∧sl a' G s1eqsp s1eqsc s1.eqs∧sl a' G s1neqsp s1neqsc s1.neqs∧sl r' G ev1pp ev1pc ev1.p) (fun G v=>∃ C D H I F E,v = .tuple #[.agg ((v33' r.1 C D H I F E)).toArray,i' r.2]∧sl Rp.str G C D r.1.vars∧sl a' G H I r.1.eqs∧sl a' G F E r.1.neqs):=by
 refine C' (args:=[_,_]) (N:=39) Tryz.func71 z z z (fun w0 G0 aa au=>?_)
 obtain⟨q,u,p,aK⟩:=au
 refine sr<|W' 114202 z z z fun b1=>W' 3 z z z fun b2=>T' 4 z z33 z fun b3=>sg z z<|nr<|yy (t' 114202 ai' z z z) z<|yy (aJ' z) z<|yy (b' 3 sc3 z z z) z ?_
 obtain⟨ad,az,hr⟩:=hr
 refine M' z z (s' E42 z) (cX' az) z (⟨q,u,p⟩) (fun a0 ba k U=>?_)
 obtain⟨aA,aB,rfl,X⟩:=U
 refine mv z z<|yy (K' z z) z<|yy (K' z z) z<|yy (K' z z) z<|T' 6 z z68 z fun b4=>T' 114207 z z4 z fun b5=>v' 6 z aP' z z z z z (List.all_eq_true.1 z)<|au' 114207 ([.bool ad.2.1]).toArray z sz4 z z z (by first|decide|simp) z z<|sg z z<|nx<|h'<|bA' 114202 z (by rw[aa]; rfl) fun a2 o am ak=>bA' 114207 z (by rw[aa]; rfl) fun a5 y al an=>w'<|yy (t' 114202 ai' z z z) z<|yy (aJ' z) z<|yy (b' 3 sc3 z z z) z ?_
 obtain⟨bb,ax,hr⟩:=hr
 refine M' z z (s' E112 z) (de' ax) z (⟨(q.mono (mt (mt k o) y)),(u.mono (mt (mt k o) y)),(p.mono (mt (mt k o) y))⟩) (fun aY a4 J Y=>?_)
 obtain⟨aW,aM,rfl,aq⟩:=Y
 obtain⟨aH,av,hr⟩:=hr
 refine M' z z (s' E94 z) (bo' av) z (aq) (fun aO aG L S=>?_)
 obtain⟨aS,aQ,rfl,ac⟩:=S
 refine yy (bK' z z) z ?_
 obtain⟨aF,ai,hr⟩:=hr
 refine M' z z (s' E94 z) (bo' ai) z ((show FnRd Tryz.prog fa0 foB aG (.func (.func 120) #[] #[.pointer (some ⟨b1,0,none⟩),.pointer (some ⟨b5,0,none⟩)]) () (fun _=>Zaw s1 ad.2.1) from (dc' E120 (fun x hx=>dd' (fG' _ _ _ _ x hx) (fun G' n=>⟨(E' (ch' (r:=bp') (cs:=(v33' s1 s1varsp s1varsc s1eqsp s1eqsc s1neqsp s1neqsc)) am z ⟨[.slice s1varsp s1.vars.length s1varsc],[.slice s1eqsp s1.eqs.length s1eqsc,.slice s1neqsp s1.neqs.length s1neqsc,i' s1.next],z,⟨_,z,(q.mono (mt k o))⟩,⟨[.slice s1eqsp s1.eqs.length s1eqsc],[.slice s1neqsp s1.neqs.length s1neqsc,i' s1.next],z,⟨_,z,(u.mono (mt k o))⟩,⟨[.slice s1neqsp s1.neqs.length s1neqsc],[i' s1.next],z,⟨_,z,(p.mono (mt k o))⟩,z⟩⟩⟩) (mt (mt (mt y J) L) n)),(E' (ch' (r:=Rp.bool) (cs:=[.bool ad.2.1]) al z z) (mt (mt J L) n))⟩))))) (fun aP a9 Q Z=>?_)
 obtain⟨a1,aZ,rfl,ab⟩:=Z
 obtain⟨ae,O,rfl⟩:=bX' ac
 obtain⟨R,K,rfl⟩:=bX' ab
 refine aU' (e:=131) (r:=(Rp.fn Tryz.prog fa0 foI)) (vs:=#[(0,(.func (.func ae) #[] O)),(1,(.func (.func R) #[] K))]) (cs:=[(.func (.func ae) #[] O)]++([(.func (.func R) #[] K)]++([]))) ([aH,aF]:List (Unit→Comp Int)) z z z z z (by decide) (fun _=>by kernel_rfl) ⟨[(.func (.func ae) #[] O)],[(.func (.func R) #[] K)]++([]),z,⟨_,z,(ac.mono Q)⟩,⟨[(.func (.func R) #[] K)],[],z,⟨_,z,ab⟩,z⟩⟩ (key:=999) z (by rw[aa]; rfl) (fun p1 a7 af aJ=>?_)
 obtain⟨a3,ar,hr⟩:=hr
 refine F' z z (s' E93 z) (cC' ar) z (aJ)<|sg z z<|cK' 114207 z an (mt k o) (mt (mt (mt (mt y J) L) Q) af)<|cK' 114202 z ak k o<|nx<|h'<|sr<|mv z z<|yy (aR' z z) z<|nx<|I' hr z (fun aI hr=>?_) (fun aI hr=>?_)
 ·refine sr<|yy (aq' (vs:=#[]) (v:=.agg ([.slice none 0 0,.slice none 0 0,.slice none 0 0,i' 0]).toArray) z z (fun _=>by kernel_rfl)) z<|mv z z<|v' 4 z aZ' z z z z z (List.all_eq_true.1 z)<|sg z z<|nx<|j' ?_
  replace hr:_=r:=hr
  refine g' ?_
  subst hr
  exact aE' z (ac' (i:=4) ai' z z z) z ⟨_,_,_,_,_,_,z,(ah' Rp.str _),(ah' a' _),(ah' a' _)⟩
 ·refine o'<|e'<|h'<|Y' [false,false,false,false,false,false,false] mix (by kernel_rfl) fun hb=>cn (fun _ n=>t' 114202 ai' z z z)<|cn (fun _ n=>aJ' z)<|cn (fun _ n=>b' 3 sc3 z z z) ?_
  obtain⟨B,ao,hr⟩:=hr
  refine aD' (post:=fun G v=>∃ g c l m f j,v = .agg ((v33' B g c l m f j)).toArray∧sl Rp.str G g c B.vars∧sl a' G l m B.eqs∧sl a' G f j B.neqs) (fun _=>z) (fun _ _=>s' E117 z) (eK' ao) z (fun G' n=>⟨((q.mono k).mono n),((u.mono k).mono n),((p.mono k).mono n)⟩) (fun v G1 G2 n h=>?_) ?_
  ·obtain⟨g,c,l,m,f,j,rfl,t,A,s⟩:=h
   exact⟨_,_,_,_,_,_,z,t.mono n,A.mono n,s.mono n⟩
  refine cu (fun _ _ n=>t' 6 bI' z z z)<|cu (fun _ _ n=>b' 114207 sc4 z z z)<|cu (fun _ _ n=>ao' z)<|cl' (d:=34) (post:=fun G v=>∃ g c l m f j,v = .agg ((v33' B g c l m f j)).toArray∧sl Rp.str G g c B.vars∧sl a' G l m B.eqs∧sl a' G f j B.neqs) (fun aV a6 ag W=>?_)
  obtain⟨g,c,l,m,f,j,rfl,t,A,s⟩:=W
  obtain⟨a8,aw,hr⟩:=hr
  refine M' z z (s' E116 z) (eU' aw) z (⟨t,A,s,(X.mono ag)⟩) (fun aR aU aE T=>?_)
  obtain⟨ap,ay,aC,aD,aj,ah,rfl,M,V,P⟩:=T
  refine v' 4 z aZ' z z z z z (List.all_eq_true.1 z)<|sg z z<|u'<|am'<|e'<|j' ?_
  obtain rfl:_=r:=hr
  exact aE' z (ac' (i:=4) ai' z z z) z ⟨_,_,_,_,_,_,z,M,V,P⟩
theorem cd'{s1 ev1 s1varsp s1varsc s1eqsp s1eqsc s1neqsp s1neqsc ev1pp ev1pc r}(hr:(ZbI s1 ev1).Ret r):Ctr Tryz.prog 14 #[.agg ((v33' s1 s1varsp s1varsc s1eqsp s1eqsc s1neqsp s1neqsc)).toArray,.agg ([i' ev1.kind,.string ev1.name,i' ev1.at',i' ev1.to',i' ev1.id,.slice ev1pp ev1.p.length ev1pc,.bool ev1.neq]).toArray] (fun G=>sl Rp.str G s1varsp s1varsc s1.vars∧sl a' G s1eqsp s1eqsc s1.eqs∧sl a' G s1neqsp s1neqsc s1.neqs∧sl r' G ev1pp ev1pc ev1.p) (fun G v=>∃ k l o p n m,v = .tuple #[.agg ((v33' r.1 k l o p n m)).toArray,i' r.2]∧sl Rp.str G k l r.1.vars∧sl a' G o p r.1.eqs∧sl a' G n m r.1.neqs):=by
 refine C' (args:=[_,_]) (N:=24) Tryz.func14 z z z (fun w0 G0 bK bc=>?_)
 obtain⟨e,g,d,j⟩:=bc
 refine sr<|W' 2 z z z fun b1=>W' 3 z z z fun b2=>T' 4 z z33 z fun b3=>sg z z<|nx<|h'<|Y' [false,false,false,false,false,false,true] mix (by kernel_rfl) fun hb=>Chain.callMap (f:=36) (ky:=ky3) (Rv:=RvF) Zn (fun _=>z) (fun u G' U hu=>⟨_,_,_,fun _=>s' E36 z,gp',z,trivial⟩)<|cu (fun _ _ U=>bN' z)<|cu (fun _ _ U=>b' 3 sc3 z z z) ?_
 obtain⟨bl,hr⟩:=hr
 refine Chain.lookF (ky:=ky3) (dm:=9) Zn ev1.kind (fun _=>z) bV' zv44 bl (fun u G' U hu=>?_) ?_
 ·obtain⟨h,_⟩:=(show MapX ky3 RvF 9 Zn (u 9) G'∧True from hu)
  exact⟨u 9,h,z,z⟩
 refine cu (fun _ _ U=>f' z)<|cu (fun _ _ U=>K' z z)<|Chain.floatU (fun _=>z) (fun _=>K' z z)<|Chain.tailX1 fun bI X1 c bj=>bZ' (show WL _ _ _ _ _ _ (St w0 G0 X1.m _) from ?_)
 refine sg z z<|sg z z<|u'<|am'<|e'<|h'<|sr<|mv z z<|yy (ao' z) z<|nx<|aN' hr z (fun bn hr=>?_) (fun bn hr=>?_)
 ·refine sr<|yy (aq' (vs:=#[]) (v:=.agg ([.slice none 0 0,.slice none 0 0,.slice none 0 0,i' 0]).toArray) z z (fun _=>by kernel_rfl)) z<|v' 4 z aZ' z z z z z (List.all_eq_true.1 z)<|sg z z<|nx<|j' ?_
  replace hr:_=r:=hr
  refine g' ?_
  subst hr
  exact aE' z (ac' (i:=4) ai' z z z) z ⟨_,_,_,_,_,_,z,(ah' Rp.str _),(ah' a' _),(ah' a' _)⟩
 ·refine o'<|e'<|sr<|mv z z<|yy (t' 2 ai' z z z) z<|yy (t' 3 bw' z z z) z ?_
  by_cases hf1:(1:Int)=ev1.kind
  ·replace hr:=hr.pos hf1
   have bg:selV Value.nilFunc (mget Zn ev1.kind) = .func (.func 64) #[] #[]:=by simp only[Zn,mget,selV,if_pos hf1]
   rw[bg]
   obtain⟨bZ,bf,hr⟩:=hr
   refine M' z z (cH' E64 z z) (gi' bf) z (⟨(e.mono c),(g.mono c),(d.mono c),(j.mono c)⟩) (fun bH bY bt ac=>?_)
   obtain⟨af,aE,aS,aO,aB,ao,rfl,t,O,B⟩:=ac
   refine yy (K' z z) z<|yy (K' z z) z<|v' 4 z aZ' z z z z z (List.all_eq_true.1 z)<|sg z z<|nx<|j' ?_
   obtain rfl:_=r:=hr
   exact aE' z (ac' (i:=4) ai' z z z) z ⟨_,_,_,_,_,_,z,t,O,B⟩
  ·replace hr:=hr.neg hf1
   by_cases hf2:(2:Int)=ev1.kind
   ·replace hr:=hr.pos hf2
    have a5:selV Value.nilFunc (mget Zn ev1.kind) = .func (.func 65) #[] #[]:=by simp only[Zn,mget,selV,if_pos hf2,if_neg hf1]
    rw[a5]
    obtain⟨bU,bd,hr⟩:=hr
    refine M' z z (cH' E65 z z) (fV' bd) z (⟨(e.mono c),(g.mono c),(d.mono c),(j.mono c)⟩) (fun bA bJ bv X=>?_)
    obtain⟨ai,av,aP,aV,aG,aJ,rfl,s,Q,q⟩:=X
    refine yy (K' z z) z<|yy (K' z z) z<|v' 4 z aZ' z z z z z (List.all_eq_true.1 z)<|sg z z<|nx<|j' ?_
    obtain rfl:_=r:=hr
    exact aE' z (ac' (i:=4) ai' z z z) z ⟨_,_,_,_,_,_,z,s,Q,q⟩
   ·replace hr:=hr.neg hf2
    by_cases hf3:(3:Int)=ev1.kind
    ·replace hr:=hr.pos hf3
     have a7:selV Value.nilFunc (mget Zn ev1.kind) = .func (.func 66) #[] #[]:=by simp only[Zn,mget,selV,if_pos hf3,if_neg hf1,if_neg hf2]
     rw[a7]
     obtain⟨bQ,a3,hr⟩:=hr
     refine M' z z (cH' E66 z z) (gj' a3) z (⟨(e.mono c),(g.mono c),(d.mono c),(j.mono c)⟩) (fun bB bO bq ad=>?_)
     obtain⟨an,ax,aR,aX,aK,aw,rfl,H,M,F⟩:=ad
     refine yy (K' z z) z<|yy (K' z z) z<|v' 4 z aZ' z z z z z (List.all_eq_true.1 z)<|sg z z<|nx<|j' ?_
     obtain rfl:_=r:=hr
     exact aE' z (ac' (i:=4) ai' z z z) z ⟨_,_,_,_,_,_,z,H,M,F⟩
    ·replace hr:=hr.neg hf3
     by_cases hf4:(4:Int)=ev1.kind
     ·replace hr:=hr.pos hf4
      have a6:selV Value.nilFunc (mget Zn ev1.kind) = .func (.func 67) #[] #[]:=by simp only[Zn,mget,selV,if_pos hf4,if_neg hf1,if_neg hf2,if_neg hf3]
      rw[a6]
      obtain⟨bL,bb,hr⟩:=hr
      refine M' z z (cH' E67 z z) (gx' bb) z (⟨(e.mono c),(g.mono c),(d.mono c),(j.mono c)⟩) (fun bG bN bp W=>?_)
      obtain⟨al,aF,aY,aU,au,aA,rfl,I,P,A⟩:=W
      refine yy (K' z z) z<|yy (K' z z) z<|v' 4 z aZ' z z z z z (List.all_eq_true.1 z)<|sg z z<|nx<|j' ?_
      obtain rfl:_=r:=hr
      exact aE' z (ac' (i:=4) ai' z z z) z ⟨_,_,_,_,_,_,z,I,P,A⟩
     ·replace hr:=hr.neg hf4
      by_cases hf5:(5:Int)=ev1.kind
      ·replace hr:=hr.pos hf5
       have a9:selV Value.nilFunc (mget Zn ev1.kind) = .func (.func 68) #[] #[]:=by simp only[Zn,mget,selV,if_pos hf5,if_neg hf1,if_neg hf2,if_neg hf3,if_neg hf4]
       rw[a9]
       obtain⟨bP,a8,hr⟩:=hr
       refine M' z z (cH' E68 z z) (gF' a8) z (⟨(e.mono c),(g.mono c),(d.mono c),(j.mono c)⟩) (fun bF bS bu ab=>?_)
       obtain⟨ag,aL,aT,aW,ah,ae,rfl,J,R,L⟩:=ab
       refine yy (K' z z) z<|yy (K' z z) z<|v' 4 z aZ' z z z z z (List.all_eq_true.1 z)<|sg z z<|nx<|j' ?_
       obtain rfl:_=r:=hr
       exact aE' z (ac' (i:=4) ai' z z z) z ⟨_,_,_,_,_,_,z,J,R,L⟩
      ·replace hr:=hr.neg hf5
       by_cases hf6:(6:Int)=ev1.kind
       ·replace hr:=hr.pos hf6
        have a2:selV Value.nilFunc (mget Zn ev1.kind) = .func (.func 69) #[] #[]:=by simp only[Zn,mget,selV,if_pos hf6,if_neg hf1,if_neg hf2,if_neg hf3,if_neg hf4,if_neg hf5]
        rw[a2]
        obtain⟨bW,be,hr⟩:=hr
        refine M' z z (cH' E69 z z) (gy' be) z (⟨(e.mono c),(g.mono c),(d.mono c),(j.mono c)⟩) (fun bC bX bo Z=>?_)
        obtain⟨ar,ak,aM,aQ,az,aI,rfl,y,V,E⟩:=Z
        refine yy (K' z z) z<|yy (K' z z) z<|v' 4 z aZ' z z z z z (List.all_eq_true.1 z)<|sg z z<|nx<|j' ?_
        obtain rfl:_=r:=hr
        exact aE' z (ac' (i:=4) ai' z z z) z ⟨_,_,_,_,_,_,z,y,V,E⟩
       ·replace hr:=hr.neg hf6
        by_cases hf7:(7:Int)=ev1.kind
        ·replace hr:=hr.pos hf7
         have a4:selV Value.nilFunc (mget Zn ev1.kind) = .func (.func 70) #[] #[]:=by simp only[Zn,mget,selV,if_pos hf7,if_neg hf1,if_neg hf2,if_neg hf3,if_neg hf4,if_neg hf5,if_neg hf6]
         rw[a4]
         obtain⟨bR,ba,hr⟩:=hr
         refine M' z z (cH' E70 z z) (gG' ba) z (⟨(e.mono c),(g.mono c),(d.mono c),(j.mono c)⟩) (fun bz bV br aa=>?_)
         obtain⟨aD,am,a1,a0,ay,aj,rfl,K,T,C⟩:=aa
         refine yy (K' z z) z<|yy (K' z z) z<|v' 4 z aZ' z z z z z (List.all_eq_true.1 z)<|sg z z<|nx<|j' ?_
         obtain rfl:_=r:=hr
         exact aE' z (ac' (i:=4) ai' z z z) z ⟨_,_,_,_,_,_,z,K,T,C⟩
        ·replace hr:=hr.neg hf7
         by_cases hf8:(8:Int)=ev1.kind
         ·replace hr:=hr.pos hf8
          have bi:selV Value.nilFunc (mget Zn ev1.kind) = .func (.func 71) #[] #[]:=by simp only[Zn,mget,selV,if_pos hf8,if_neg hf1,if_neg hf2,if_neg hf3,if_neg hf4,if_neg hf5,if_neg hf6,if_neg hf7]
          rw[bi]
          obtain⟨bT,bh,hr⟩:=hr
          refine M' z z (cH' E71 z z) (gz' bh) z (⟨(e.mono c),(g.mono c),(d.mono c),(j.mono c)⟩) (fun bw bM bs Y=>?_)
          obtain⟨aq,aH,aN,aZ,ap,aC,rfl,x,S,D⟩:=Y
          refine yy (K' z z) z<|yy (K' z z) z<|v' 4 z aZ' z z z z z (List.all_eq_true.1 z)<|sg z z<|nx<|j' ?_
          obtain rfl:_=r:=hr
          exact aE' z (ac' (i:=4) ai' z z z) z ⟨_,_,_,_,_,_,z,x,S,D⟩
         ·replace hr:=hr.neg hf8
          exact (show False from hr).elim
theorem gH'{s1 l1 s1varsp s1varsc s1eqsp s1eqsc s1neqsp s1neqsc l1p l1c r}(hr:(Zhn s1 l1).Ret r):Ctr Tryz.prog 45 #[.agg ((v33' s1 s1varsp s1varsc s1eqsp s1eqsc s1neqsp s1neqsc)).toArray,.slice l1p l1.length l1c] (fun G=>sl Rp.str G s1varsp s1varsc s1.vars∧sl a' G s1eqsp s1eqsc s1.eqs∧sl a' G s1neqsp s1neqsc s1.neqs∧sl ag' G l1p l1c l1) (fun G v=>∃ Q S Y aa V T,v = .tuple #[.agg ((v33' r.1 Q S Y aa V T)).toArray,i' r.2.1,i' r.2.2]∧sl Rp.str G Q S r.1.vars∧sl a' G Y aa r.1.eqs∧sl a' G V T r.1.neqs):=by
 refine C' (args:=[_,_]) (N:=34) Tryz.func45 z z z (fun w0 G0 aU aC=>?_)
 obtain⟨ar,au,ap,an⟩:=aC
 refine sr<|W' 2 z z z fun b1=>T' 4 z z33 z fun b2=>sg z z<|sg z z<|nx<|h'<|sr<|mv z z<|yy (L' as' an z) z<|mv z z<|nx<|aa' (fun (⟨K,u,A,B,C,y,q,M,t,x,E,D,p,s,J⟩:Zb×Option Addr×Nat×Option Addr×Nat×Option Addr×Nat×Zb×Option Addr×Nat×Option Addr×Nat×Option Addr×Nat×Mem)=>[(1,.slice l1p l1.length l1c),(2,.pointer (some ⟨b1,0,none⟩)),(4,.pointer (some ⟨b2,0,none⟩))]) (fun ⟨K,u,A,B,C,y,q,M,t,x,E,D,p,s,J⟩=>Mem.le G0 J∧sl Rp.str J u A K.vars∧sl a' J B C K.eqs∧sl a' J y q K.neqs∧sl Rp.str J t x M.vars∧sl a' J E D M.eqs∧sl a' J p s M.neqs∧(ZeP l1 K).Ret r) (fun ⟨K,u,A,B,C,y,q,M,t,x,E,D,p,s,J⟩=>St w0 G0 J [(2,some ⟨b1,.cells ((v33' K u A B C y q)).toArray 33 (0,0),0⟩),(4,some ⟨b2,.cells ((v33' M t x E D p s)).toArray 33 (0,0),0⟩)]) ?_ ?_
 ·refine B' ?_
  let aw:((Zb×Int×Int)⊕(Zb×Zb))→Prop:=fun oo=>((fun ov=>match ov with | .inl rv1=>Comp.ret rv1 | .inr (K,M)=>ZeP l1 K:((Zb×Int×Int)⊕(Zb×Zb))→Comp (Zb×Int×Int)) oo).wp (fun a=>a=r)
  replace hr:(Comp.loop _ _).wp aw:=hr
  refine ab' (Φ:=aw) (fun (⟨H,L,g,h,o,n,j,k,I,c,d,m,l,f,e,F⟩:Int×Zb×Option Addr×Nat×Option Addr×Nat×Option Addr×Nat×Zb×Option Addr×Nat×Option Addr×Nat×Option Addr×Nat×Mem)=>((H,L,I):Int×Zb×Zb)) (fun ⟨H,L,g,h,o,n,j,k,I,c,d,m,l,f,e,F⟩=>[(1,.slice l1p l1.length l1c),(2,.pointer (some ⟨b1,0,none⟩)),(4,.pointer (some ⟨b2,0,none⟩)),(11,.slice l1p l1.length l1c),(12,i' (l1.length:Int)),(13,i' H)]) (fun ⟨H,L,g,h,o,n,j,k,I,c,d,m,l,f,e,F⟩=>Mem.le G0 F∧sl Rp.str F g h L.vars∧sl a' F o n L.eqs∧sl a' F j k L.neqs∧sl Rp.str F c d I.vars∧sl a' F m l I.eqs∧sl a' F f e I.neqs) (fun ⟨H,L,g,h,o,n,j,k,I,c,d,m,l,f,e,F⟩=>St w0 G0 F [(2,some ⟨b1,.cells ((v33' L g h o n j k)).toArray 33 (0,0),0⟩),(4,some ⟨b2,.cells ((v33' I c d m l f e)).toArray 33 (0,0),0⟩)]) ⟨0,s1,s1varsp,s1varsc,s1eqsp,s1eqsc,s1neqsp,s1neqsc,(Zb.mk [] [] [] 0),none,0,none,0,none,0,G0⟩ hr (fc z (fc z (fc z (fc z (fc z (fc z fn)))))) ⟨mr,ar,au,ap,(ah' _ _),(ah' _ _),(ah' _ _)⟩ (wk (lc z (lc z ln))) ?_
  ·intro aV gx hx hr
   obtain⟨H,L,g,h,o,n,j,k,I,c,d,m,l,f,e,F⟩:=gx
   obtain⟨O,W,ab,X,R,Z,U⟩:=hx
   refine sr<|yy (V' z z) z<|nx<|h'<|I' hr z (fun aM hr=>?_) (fun aM hr=>?_)
   ·refine o'<|e'<|h'<|B'<|sr<|mv z z ?_
    obtain⟨x1,aA,hr⟩:=hr
    refine yy (Q' as' bJ' (an.mono O) z z aA) z ?_
    obtain⟨aP,aQ,aI,aD⟩:=cL' (E' (Z' an aA) O)
    refine yy (aw' _ bw' z z aI) z<|T' 8 z z40 z fun b3=>sg z z<|v' 8 z bJ' z z z z z (List.all_eq_true.1 z)<|nr<|yy (t' 2 ai' z z z) z<|yy (t' 8 bw' z z z) z ?_
    obtain⟨aH,aF,hr⟩:=hr
    refine M' z z (s' E14 z) (cd' aF) z (⟨W,ab,X,aD⟩) (fun aS aL P aq=>?_)
    obtain⟨ah,ac,ai,ak,ag,af,rfl,ae,aj,ad⟩:=aq
    refine mv z z<|yy (K' z z) z<|yy (K' z z) z<|T' 9 z z33 z fun b4=>v' 9 z aZ' z z z z z (List.all_eq_true.1 z)<|sg z z<|nx<|h'<|sr<|mv z z<|yy (aR' z z) z<|nx<|I' hr z (fun aK hr=>?_) (fun aK hr=>?_)
    ·refine sr<|yy (aq' (vs:=#[]) (v:=.agg ([.slice none 0 0,.slice none 0 0,.slice none 0 0,i' 0]).toArray) z z (fun _=>by kernel_rfl)) z<|mv z z<|mv z z<|v' 4 z aZ' z z z z z (List.all_eq_true.1 z)<|sg z z<|sg z z<|nx<|j' ?_
     replace hr:_=r:=hr
     refine g'<|x'<|g'<|g'<|x'<|aI'<|g' ?_
     subst hr
     exact WE.ret3 z (ac' (i:=4) ai' z z z) z z ⟨_,_,_,_,_,_,z,(ah' Rp.str _),(ah' a' _),(ah' a' _)⟩
    ·refine o'<|e'<|w'<|yy (t' 9 ai' z z z) z<|v' 2 z aZ' z z z z z (List.all_eq_true.1 z)<|u'<|D'<|e'<|w'<|yy (N' z z) z<|mv z z<|u'<|P' ⟨IntKind.i64.wrap (H+1),aH.1,ah,ac,ai,ak,ag,af,I,c,d,m,l,f,e,aL⟩ hr ⟨(mt O P),ae,aj,ad,(R.mono P),(Z.mono P),(U.mono P)⟩ (fc z (fc z (fc z (fc z (fc z (fc z fn)))))) (wk (lc z (lc z ln)))
   ·refine ad'<|n'<|n'<|J'<|ae' ⟨L,g,h,o,n,j,k,I,c,d,m,l,f,e,F⟩ ⟨O,W,ab,X,R,Z,U,hr⟩ (fc z (fc z (fc z fn))) (wk (lc z (lc z ln)))
 ·rintro⟨K,u,A,B,C,y,q,M,t,x,E,D,p,s,J⟩ ⟨ay,al,ao,am,aB,aG,aE,hr⟩
  refine e'<|sr<|yy (t' 2 ai' z z z) z<|mv z z<|yy (L' as' (an.mono ay) z) z<|v' 4 z aZ' z z z z z (List.all_eq_true.1 z)<|sg z z<|sg z z<|nx<|j' ?_
  obtain rfl:_=r:=hr
  exact WE.ret3 z (ac' (i:=4) ai' z z z) z z ⟨_,_,_,_,_,_,z,al,ao,am⟩
theorem cT'{s1 l1 s1varsp s1varsc s1eqsp s1eqsc s1neqsp s1neqsc l1p l1c r}(hr:(ZbM s1 l1).Ret r):Ctr Tryz.prog 20 #[.agg ((v33' s1 s1varsp s1varsc s1eqsp s1eqsc s1neqsp s1neqsc)).toArray,.slice l1p l1.length l1c] (fun G=>sl Rp.str G s1varsp s1varsc s1.vars∧sl a' G s1eqsp s1eqsc s1.eqs∧sl a' G s1neqsp s1neqsc s1.neqs∧sl ag' G l1p l1c l1) (fun G v=>∃ k m t q l n,v = .agg ([.slice k r.s.vars.length m,.slice t r.s.eqs.length q,.slice l r.s.neqs.length n,i' r.s.next,i' r.n,i' r.e]).toArray∧sl Rp.str G k m r.s.vars∧sl a' G t q r.s.eqs∧sl a' G l n r.s.neqs):=by
 refine C' (args:=[_,_]) (N:=19) Tryz.func20 z z z (fun L M I B=>?_)
 obtain⟨x,A,u,D⟩:=B
 refine sr<|W' 2 z z z fun J=>T' 4 z z50 z fun O=>nr<|yy (t' 2 ai' z z z) z<|mv z z ?_
 obtain⟨c,C,hr⟩:=hr
 refine M' z z (s' E45 z) (gH' C) z (⟨x,A,u,D⟩) (fun F H E y=>?_)
 obtain⟨e,f,h,j,d,g,rfl,p,s,o⟩:=y
 refine mv z z<|yy (K' z z) z<|yy (K' z z) z<|yy (K' z z) z<|T' 5 z z33 z fun K=>v' 5 z aZ' z z z z z (List.all_eq_true.1 z)<|sg z z<|sg z z<|nr<|yy (t' 5 ai' z z z) z<|mv z z<|mv z z<|yy (aq' (vs:=#[(0,.agg ((v33' c.1 e f h j d g)).toArray),(1,i' c.2.1),(2,i' c.2.2)]) (v:=.agg ([.slice e c.1.vars.length f,.slice h c.1.eqs.length j,.slice d c.1.neqs.length g,i' c.1.next,i' c.2.1,i' c.2.2]).toArray) z z (fun _=>by kernel_rfl)) z<|v' 4 z sz50 z z z z z (List.all_eq_true.1 z)<|nx<|j' ?_
 obtain rfl:_=r:=hr
 exact k' z (ac' (i:=4) ag50 z z z) ⟨_,_,_,_,_,_,z,p,s,o⟩
theorem fO'{a1 b1 a1magp a1magc b1magp b1magc r}(hr:(Zhf a1 b1).Ret r):Ctr Tryz.prog 83 #[.agg ((v58' a1 a1magp a1magc)).toArray,.agg ((v58' b1 b1magp b1magc)).toArray] (fun G=>sl (Rp.int .u32) G a1magp a1magc a1.mag∧sl (Rp.int .u32) G b1magp b1magc b1.mag) (fun G v=>v = .bool r):=by
 refine C' (args:=[_,_]) (N:=38) Tryz.func83 z z z (fun t l F o=>?_)
 obtain⟨e,g⟩:=o
 refine sr<|W' 2 z z z fun x=>W' 3 z z z fun s=>sg z z<|nx<|h'<|sr<|yy (bl' z) z<|yy (b' 2 sc4 z z z) z<|yy (bl' z) z<|yy (b' 3 sc4 z z z) z<|aj' hr z (eb' bH' z z) z (fun y hr=>?_) (fun y hr=>?_)
 ·refine mv z z<|sf z z z<|sf z z z<|sf z z z<|sf z z z<|sf z z z<|sf z z z<|sf z z z<|yy (m' z z) z<|nx<|at' z<|sr<|sg z z<|nx<|j' ?_
  replace hr:_=r:=hr
  refine g' ?_
  subst hr
  exact k' z z z
 ·refine mv z z<|gy z z (aO' z) z<|gy z z (b' 2 bG' z z z) z<|gy z z (L' y' e z) z<|gy z z (aO' z) z<|gy z z (b' 3 bG' z z z) z<|gy z z (L' y' g z) z<|gy z z (aR' z z) z<|yy (l' z z) z<|nx<|I' hr z (fun u hr=>?_) (fun u hr=>?_)
  ·exact (show False from hr).elim
  ·refine o'<|e'<|h'<|sr<|sg z z<|nx<|aa' (fun (j:Mem)=>match j with|h=>[]) (fun (j:Mem)=>match j with|h=>Mem.le l h∧(ZeA).Ret r) (fun (j:Mem)=>match j with|h=>St t l h []) ?_ ?_
   ·refine B' ?_
    let k:(Bool⊕Unit)→Prop:=fun C=>((fun E=>match E with | .inl rv1=>Comp.ret rv1 | .inr ()=>ZeA:(Bool⊕Unit)→Comp Bool) C).wp (fun a=>a=r)
    replace hr:(Comp.loop _ _).wp k:=hr
    refine ab' (Φ:=k) (fun (⟨i,f⟩:Int×Mem)=>(i:Int)) (fun ⟨i,f⟩=>[(2,.pointer (some ⟨x,0,none⟩)),(3,.pointer (some ⟨s,0,none⟩)),(5,i' i)]) (fun ⟨i,f⟩=>Mem.le l f) (fun ⟨i,f⟩=>St t l f [(2,some ⟨x,.cells ((v58' a1 a1magp a1magc)).toArray 58 (0,0),0⟩),(3,some ⟨s,.cells ((v58' b1 b1magp b1magc)).toArray 58 (0,0),0⟩)]) ⟨0,l⟩ hr (fc z (fc z (fc z fn))) mr (wk (lc z (lc z ln))) ?_
    ·intro H j D hr
     obtain⟨i,f⟩:=j
     have d:=D
     refine h'<|sr<|mv z z<|yy (aO' z) z<|yy (b' 2 bG' z z z) z<|yy (L' y' (e.mono d) z) z<|yy (V' z z) z<|nx<|I' hr z (fun q hr=>?_) (fun q hr=>?_)
     ·refine o'<|e'<|h'<|B'<|h'<|Y' [false,false,false,false,false,false,false,false,false,false] mix (by kernel_rfl) fun B=>cn (fun _ c=>aO' z)<|cn (fun _ c=>b' 2 bG' z z z)<|cn (fun _ c=>f' z) ?_
      obtain⟨J,n,hr⟩:=hr
      refine cn (fun _ c=>Q' y' bh' ((e.mono d).mono c) z z n)<|cn (fun _ c=>U' bC' z (aC' (E' (E' (Z' e n) d) c)))<|cn (fun _ c=>aO' z)<|cn (fun _ c=>b' 3 bG' z z z)<|cn (fun _ c=>f' z) ?_
      obtain⟨I,m,hr⟩:=hr
      refine cn (fun _ c=>Q' y' bh' ((g.mono d).mono c) z z m)<|cn (fun _ c=>U' bC' z (aC' (E' (E' (Z' g m) d) c)))<|X' B<|yy (aR' z z) z<|u'<|am'<|e'<|I' hr z (fun p hr=>?_) (fun p hr=>?_)
      ·exact (show False from hr).elim
      ·refine o'<|D'<|e'<|w'<|mv z z<|yy (N' z z) z<|sg z z<|u'<|P' ⟨IntKind.i64.wrap (i+1),f⟩ hr d (fc z (fc z (fc z fn))) (wk (lc z (lc z ln)))
     ·refine ad'<|n'<|n'<|J'<|ae' f ⟨d,hr⟩ fn (wk ln)
   ·rintro h ⟨A,hr⟩
    refine e'<|sr<|sg z z<|nx<|j' ?_
    obtain rfl:_=r:=hr
    exact k' z z z
theorem gI'{a1 b1 a1nummagp a1nummagc a1denmagp a1denmagc b1nummagp b1nummagc b1denmagp b1denmagc r}(hr:(Zhe a1 b1).Ret r):Ctr Tryz.prog 49 #[.agg ([.bool a1.num.neg,.slice a1nummagp a1.num.mag.length a1nummagc,.bool a1.den.neg,.slice a1denmagp a1.den.mag.length a1denmagc]).toArray,.agg ([.bool b1.num.neg,.slice b1nummagp b1.num.mag.length b1nummagc,.bool b1.den.neg,.slice b1denmagp b1.den.mag.length b1denmagc]).toArray] (fun G=>sl (Rp.int .u32) G a1nummagp a1nummagc a1.num.mag∧sl (Rp.int .u32) G a1denmagp a1denmagc a1.den.mag∧sl (Rp.int .u32) G b1nummagp b1nummagc b1.num.mag∧sl (Rp.int .u32) G b1denmagp b1denmagc b1.den.mag) (fun G v=>v = .bool r):=by
 refine C' (args:=[_,_]) (N:=17) Tryz.func49 z z z (fun m o l g=>?_)
 obtain⟨e,d,c,f⟩:=g
 refine sr<|W' 2 z z z fun p=>W' 3 z z z fun n=>sg z z<|nr<|yy (cn' z) z<|yy (av' ((v58' a1.num a1nummagp a1nummagc)).toArray 2 bk' z z z (aM' ([]) ((v58' a1.num a1nummagp a1nummagc)) ((v58' a1.den a1denmagp a1denmagc)))) z<|yy (cn' z) z<|yy (av' ((v58' b1.num b1nummagp b1nummagc)).toArray 3 bk' z z z (aM' ([]) ((v58' b1.num b1nummagp b1nummagc)) ((v58' b1.den b1denmagp b1denmagc)))) z ?_
 obtain⟨j,i,hr⟩:=hr
 refine F' z z (s' E83 z) (fO' i) z (⟨e,c⟩) ?_
 cases j
 ·skip
  refine mv z z<|sk z z z<|sk z z z<|sk z z z<|sk z z z<|sk z z z<|yy (l' z z) z<|sg z z<|nx<|j' ?_
  obtain rfl:_=r:=hr
  exact k' z z z
 ·skip
  refine mv z z<|gy z z (bW' z) z<|gy z z (av' ((v58' a1.den a1denmagp a1denmagc)).toArray 2 bk' z z z (aM' ((v58' a1.num a1nummagp a1nummagc)) ((v58' a1.den a1denmagp a1denmagc)) ([]))) z<|gy z z (bW' z) z<|gy z z (av' ((v58' b1.den b1denmagp b1denmagc)).toArray 3 bk' z z z (aM' ((v58' b1.num b1nummagp b1nummagc)) ((v58' b1.den b1denmagp b1denmagc)) ([]))) z ?_
  obtain⟨k,h,hr⟩:=hr
  refine F' (H' z z) z (s' E83 z) (fO' h) z (⟨d,f⟩)<|yy (m' z z) z<|sg z z<|nx<|j' ?_
  obtain rfl:_=r:=hr
  exact k' z z z
theorem fW'{a1 b1 a1cnummagp a1cnummagc a1cdenmagp a1cdenmagc b1cnummagp b1cnummagc b1cdenmagp b1cdenmagc r}(hr:(Zci a1 b1).Ret r):Ctr Tryz.prog 51 #[.agg (([.bool a1.c.num.neg,.slice a1cnummagp a1.c.num.mag.length a1cnummagc,.bool a1.c.den.neg,.slice a1cdenmagp a1.c.den.mag.length a1cdenmagc]:List Value)++(vecG (Value.int .i64) 8 a1.m)).toArray,.agg (([.bool b1.c.num.neg,.slice b1cnummagp b1.c.num.mag.length b1cnummagc,.bool b1.c.den.neg,.slice b1cdenmagp b1.c.den.mag.length b1cdenmagc]:List Value)++(vecG (Value.int .i64) 8 b1.m)).toArray] (fun G=>sl (Rp.int .u32) G a1cnummagp a1cnummagc a1.c.num.mag∧sl (Rp.int .u32) G a1cdenmagp a1cdenmagc a1.c.den.mag∧sl (Rp.int .u32) G b1cnummagp b1cnummagc b1.c.num.mag∧sl (Rp.int .u32) G b1cdenmagp b1cdenmagc b1.c.den.mag) (fun G v=>v = .bool r):=by
 refine C' (args:=[_,_]) (N:=17) Tryz.func51 z z z (fun n o k g=>?_)
 obtain⟨f,e,c,d⟩:=g
 refine sr<|W' 2 z z z fun l=>W' 3 z z z fun m=>sg z z<|nr<|yy (bm' z) z<|yy (av' (vecG (Value.int .i64) 8 a1.m).toArray 2 bS' z z (O' _ _ _) (aM' ([.bool a1.c.num.neg,.slice a1cnummagp a1.c.num.mag.length a1cnummagc,.bool a1.c.den.neg,.slice a1cdenmagp a1.c.den.mag.length a1cdenmagc]) (vecG (Value.int .i64) 8 a1.m) ([]))) z<|yy (bm' z) z<|yy (av' (vecG (Value.int .i64) 8 b1.m).toArray 3 bS' z z (O' _ _ _) (aM' ([.bool b1.c.num.neg,.slice b1cnummagp b1.c.num.mag.length b1cnummagc,.bool b1.c.den.neg,.slice b1cdenmagp b1.c.den.mag.length b1cdenmagc]) (vecG (Value.int .i64) 8 b1.m) ([]))) z<|aj' hr z (Y0.eqlV aG' az' sc3 sz3 eg99 z z) z (fun i hr=>?_) (fun i hr=>?_)
 ·refine mv z z<|gy z z (ce' z) z<|gy z z (av' ([.bool a1.c.num.neg,.slice a1cnummagp a1.c.num.mag.length a1cnummagc,.bool a1.c.den.neg,.slice a1cdenmagp a1.c.den.mag.length a1cdenmagc]).toArray 2 ci' z z z (aM' ([]) ([.bool a1.c.num.neg,.slice a1cnummagp a1.c.num.mag.length a1cnummagc,.bool a1.c.den.neg,.slice a1cdenmagp a1.c.den.mag.length a1cdenmagc]) ((vecG (Value.int .i64) 8 a1.m)))) z<|gy z z (ce' z) z<|gy z z (av' ([.bool b1.c.num.neg,.slice b1cnummagp b1.c.num.mag.length b1cnummagc,.bool b1.c.den.neg,.slice b1cdenmagp b1.c.den.mag.length b1cdenmagc]).toArray 3 ci' z z z (aM' ([]) ([.bool b1.c.num.neg,.slice b1cnummagp b1.c.num.mag.length b1cnummagc,.bool b1.c.den.neg,.slice b1cdenmagp b1.c.den.mag.length b1cdenmagc]) ((vecG (Value.int .i64) 8 b1.m)))) z ?_
  obtain⟨j,h,hr⟩:=hr
  refine F' (H' z z) z (s' E49 z) (gI' h) z (⟨f,e,c,d⟩)<|yy (m' z z) z<|sg z z<|nx<|j' ?_
  obtain rfl:_=r:=hr
  exact k' z z z
 ·refine mv z z<|sk z z z<|sk z z z<|sk z z z<|sk z z z<|sk z z z<|yy (l' z z) z<|sg z z<|nx<|j' ?_
  obtain rfl:_=r:=hr
  exact k' z z z
theorem dW'{p1 q1 p1p p1c q1p q1c r}(hr:(ZcM p1 q1).Ret r):Ctr Tryz.prog 28 #[.slice p1p p1.length p1c,.slice q1p q1.length q1c] (fun G=>sl r' G p1p p1c p1∧sl r' G q1p q1c q1) (fun G v=>v = .bool r):=by
 refine C' (args:=[_,_]) (N:=27) Tryz.func28 z z z (fun M q W H=>?_)
 obtain⟨n,o⟩:=H
 refine sr<|sg z z<|nx<|h'<|sr<|mv z z<|yy (L' R' n z) z<|mv z z<|yy (L' R' o z) z<|yy (aR' z z) z<|nx<|I' hr z (fun O hr=>?_) (fun O hr=>?_)
 ·exact (show False from hr).elim
 ·refine o'<|e'<|h'<|sr<|sg z z<|nx<|aa' (fun (m:Mem)=>match m with|k=>[]) (fun (m:Mem)=>match m with|k=>Mem.le q k∧(ZeG).Ret r) (fun (m:Mem)=>match m with|k=>St M q k []) ?_ ?_
  ·refine B' ?_
   let p:(Bool⊕Unit)→Prop:=fun S=>((fun U=>match U with | .inl rv1=>Comp.ret rv1 | .inr ()=>ZeG:(Bool⊕Unit)→Comp Bool) S).wp (fun a=>a=r)
   replace hr:(Comp.loop _ _).wp p:=hr
   refine ab' (Φ:=p) (fun (⟨l,e⟩:Int×Mem)=>(l:Int)) (fun ⟨l,e⟩=>[(0,.slice p1p p1.length p1c),(1,.slice q1p q1.length q1c),(5,i' l)]) (fun ⟨l,e⟩=>Mem.le q e) (fun ⟨l,e⟩=>St M q e []) ⟨0,q⟩ hr (fc z (fc z (fc z fn))) mr (wk ln) ?_
   ·intro X m T hr
    obtain⟨l,e⟩:=m
    have c:=T
    refine h'<|sr<|mv z z<|mv z z<|yy (L' R' (n.mono c) z) z<|yy (V' z z) z<|nx<|I' hr z (fun K hr=>?_) (fun K hr=>?_)
    ·refine o'<|e'<|h'<|B'<|h'<|Y' [false,false,false,false,false,false,false,false] mix (by kernel_rfl) fun R=>cn (fun _ d=>f' z)<|cn (fun _ d=>f' z) ?_
     obtain⟨Z,E,hr⟩:=hr
     refine cn (fun _ d=>Q' R' bD' ((n.mono c).mono d) z z E) ?_
     obtain⟨y,s,A,t,P,i,h⟩:=cB' (E' (Z' n E) c)
     refine cn (fun _ d=>aw' _ ag101 z z (fun j v F=>d _ _ _ (P j v F)))<|cn (fun _ d=>f' z)<|cn (fun _ d=>f' z) ?_
     obtain⟨Y,D,hr⟩:=hr
     refine cn (fun _ d=>Q' R' bD' ((o.mono c).mono d) z z D) ?_
     obtain⟨u,x,C,B,L,f,g⟩:=cB' (E' (Z' o D) c)
     refine cn (fun _ d=>aw' _ ag101 z z (fun j v F=>d _ _ _ (L j v F)))<|X' R ?_
     obtain⟨V,I,hr⟩:=hr
     refine F' z z (s' E51 z) (fW' I) z (⟨i,h,f,g⟩)<|yy (ao' z) z<|u'<|am'<|e'<|aN' hr z (fun J hr=>?_) (fun J hr=>?_)
     ·exact (show False from hr).elim
     ·refine o'<|D'<|e'<|w'<|mv z z<|yy (N' z z) z<|sg z z<|u'<|P' ⟨IntKind.i64.wrap (l+1),e⟩ hr c (fc z (fc z (fc z fn))) (wk ln)
    ·refine ad'<|n'<|n'<|J'<|ae' e ⟨c,hr⟩ fn (wk ln)
  ·rintro k ⟨Q,hr⟩
   refine e'<|sr<|sg z z<|nx<|j' ?_
   obtain rfl:_=r:=hr
   exact k' z z z
theorem dC'{a0_1 a1_1 a0_1varsp a0_1varsc a0_1eqsp a0_1eqsc a0_1neqsp a0_1neqsc a1_1pp a1_1pc r}(hr:(Zd1 a0_1 a1_1).Ret r):Ctr Tryz.prog 16 #[.agg ((v33' a0_1 a0_1varsp a0_1varsc a0_1eqsp a0_1eqsc a0_1neqsp a0_1neqsc)).toArray,.agg ([i' a1_1.kind,.string a1_1.name,i' a1_1.at',i' a1_1.to',i' a1_1.id,.slice a1_1pp a1_1.p.length a1_1pc,.bool a1_1.neq]).toArray] (fun G=>sl Rp.str G a0_1varsp a0_1varsc a0_1.vars∧sl a' G a0_1eqsp a0_1eqsc a0_1.eqs∧sl a' G a0_1neqsp a0_1neqsc a0_1.neqs∧sl r' G a1_1pp a1_1pc a1_1.p) (fun G v=>∃ n o,v = .tuple #[.agg ([i' r.1.kind,.string r.1.name,i' r.1.at',i' r.1.to',i' r.1.id,.slice n r.1.p.length o,.bool r.1.neq]).toArray,i' r.2]∧sl r' G n o r.1.p):=by
 refine C' (args:=[_,_]) (N:=90) Tryz.func16 z z z (fun w0 G0 ad J=>?_)
 obtain⟨c,j,f,m⟩:=J
 refine sr<|W' 2 z z z fun b1=>W' 3 z z z fun b2=>T' 4 z z40 z fun b3=>sg z z<|nx<|h'<|sr<|yy (t' 2 ai' z z z) z<|yy (t' 3 bw' z z z) z ?_
 obtain⟨ab,M,hr⟩:=hr
 refine M' z z (s' E14 z) (cd' M) z (⟨c,j,f,m⟩) (fun Z ac e p=>?_)
 obtain⟨u,y,B,F,s,A,rfl,x,E,t⟩:=p
 refine mv z z<|yy (K' z z) z<|yy (K' z z) z<|T' 6 z z33 z fun b4=>v' 6 z aZ' z z z z z (List.all_eq_true.1 z)<|sg z z<|nr<|mv z z<|yy (aR' z z) z<|nx<|I' hr z (fun U hr=>?_) (fun U hr=>?_)
 ·refine sr<|yy (aq' (vs:=#[]) (v:=.agg ([i' 0,.string ByteArray.empty,i' 0,i' 0,i' 0,.slice none 0 0,.bool false]).toArray) z z (fun _=>by kernel_rfl)) z<|mv z z<|v' 4 z bJ' z z z z z (List.all_eq_true.1 z)<|sg z z<|nx<|j' ?_
  replace hr:_=r:=hr
  refine g' ?_
  subst hr
  exact aE' z (ac' (i:=4) bw' z z z) z ⟨_,_,z,(ah' r' _)⟩
 ·refine o'<|e'<|h'<|sr<|yy (bN' z) z<|yy (b' 3 sc3 z z z) z<|nx<|B'<|sr<|yy (ak' z z) z<|sg z z<|nx<|I' hr z (fun Q hr=>?_) (fun Q hr=>?_)
  ·refine sr<|yy (ay' z) z<|yy (b' 3 sc3 z z z) z<|yy (aq' (vs:=#[(0,i' 2),(2,i' a1_1.at')]) (v:=.agg ([i' 2,.string ByteArray.empty,i' a1_1.at',i' 0,i' 0,.slice none 0 0,.bool false]).toArray) z z (fun _=>by kernel_rfl)) z<|v' 4 z bJ' z z z z z (List.all_eq_true.1 z)<|sg z z<|nx<|j' ?_
   replace hr:_=r:=hr
   refine x'<|g' ?_
   subst hr
   exact aE' z (ac' (i:=4) bw' z z z) z ⟨_,_,z,(ah' r' _)⟩
  ·refine sr<|yy (ak' z z) z<|sg z z<|nx<|I' hr z (fun P hr=>?_) (fun P hr=>?_)
   ·refine h'<|Y' [false,false,false,false,false,false,false,false] mix (by kernel_rfl) fun I=>cn (fun _ d=>ay' z)<|cn (fun _ d=>b' 3 sc3 z z z)<|cn (fun _ d=>ar' z)<|cn (fun _ d=>b' 2 bn' z z z)<|cn (fun _ d=>ay' z)<|cn (fun _ d=>b' 3 sc3 z z z) ?_
    obtain⟨V,H,hr⟩:=hr
    refine cn (fun _ d=>Q' A' sz9 ((c.mono e).mono d) z z H)<|cn (fun _ d=>U' sc9 z (bF' (E' (E' (Z' c H) e) d)))<|X' I<|yy (aq' (vs:=#[(0,i' 1),(2,i' a1_1.at'),(1,.string V)]) (v:=.agg ([i' 1,.string V,i' a1_1.at',i' 0,i' 0,.slice none 0 0,.bool false]).toArray) z z (fun _=>by kernel_rfl)) z<|v' 4 z bJ' z z z z z (List.all_eq_true.1 z)<|sg z z<|u'<|am'<|e'<|j' ?_
    replace hr:_=r:=hr
    refine x'<|g' ?_
    subst hr
    exact aE' z (ac' (i:=4) bw' z z z) z ⟨_,_,z,(ah' r' _)⟩
   ·refine sr<|yy (ak' z z) z<|sg z z<|nx<|I' hr z (fun T hr=>?_) (fun T hr=>?_)
    ·refine h'<|Y' [false,false,false,false,false,false,false,false] mix (by kernel_rfl) fun I=>cn (fun _ d=>ay' z)<|cn (fun _ d=>b' 3 sc3 z z z)<|cn (fun _ d=>ar' z)<|cn (fun _ d=>b' 2 bn' z z z)<|cn (fun _ d=>ay' z)<|cn (fun _ d=>b' 3 sc3 z z z) ?_
     obtain⟨O,D,hr⟩:=hr
     refine cn (fun _ d=>Q' A' sz9 ((c.mono e).mono d) z z D)<|cn (fun _ d=>U' sc9 z (bF' (E' (E' (Z' c D) e) d)))<|X' I<|yy (aq' (vs:=#[(0,i' 3),(2,i' a1_1.at'),(1,.string O)]) (v:=.agg ([i' 3,.string O,i' a1_1.at',i' 0,i' 0,.slice none 0 0,.bool false]).toArray) z z (fun _=>by kernel_rfl)) z<|v' 4 z bJ' z z z z z (List.all_eq_true.1 z)<|sg z z<|u'<|am'<|e'<|j' ?_
     replace hr:_=r:=hr
     refine x'<|g' ?_
     subst hr
     exact aE' z (ac' (i:=4) bw' z z z) z ⟨_,_,z,(ah' r' _)⟩
    ·refine sr<|yy (ak' z z) z<|sg z z<|nx<|I' hr z (fun W hr=>?_) (fun W hr=>?_)
     ·refine sr<|yy (ay' z) z<|yy (b' 3 sc3 z z z) z<|yy (cp' z) z<|yy (b' 3 sc3 z z z) z<|yy (aq' (vs:=#[(0,i' 4),(2,i' a1_1.at'),(3,i' a1_1.to')]) (v:=.agg ([i' 4,.string ByteArray.empty,i' a1_1.at',i' a1_1.to',i' 0,.slice none 0 0,.bool false]).toArray) z z (fun _=>by kernel_rfl)) z<|v' 4 z bJ' z z z z z (List.all_eq_true.1 z)<|sg z z<|nx<|j' ?_
      replace hr:_=r:=hr
      refine x'<|g' ?_
      subst hr
      exact aE' z (ac' (i:=4) bw' z z z) z ⟨_,_,z,(ah' r' _)⟩
     ·refine sr<|yy (ak' z z) z<|sg z z<|nx<|I' hr z (fun S hr=>?_) (fun S hr=>?_)
      ·refine sr<|yy (t' 2 ai' z z z) z<|yy (t' 3 bw' z z z) z ?_
       obtain⟨C,L,hr⟩:=hr
       refine F' z z (s' E41 z) (eT' L) z (⟨(c.mono e),(j.mono e),(f.mono e),(m.mono e)⟩)<|yy (aq' (vs:=#[(0,i' 6),(4,i' C)]) (v:=.agg ([i' 6,.string ByteArray.empty,i' 0,i' 0,i' C,.slice none 0 0,.bool false]).toArray) z z (fun _=>by kernel_rfl)) z<|v' 4 z bJ' z z z z z (List.all_eq_true.1 z)<|sg z z<|nx<|j' ?_
       replace hr:_=r:=hr
       refine x'<|g' ?_
       subst hr
       exact aE' z (ac' (i:=4) bw' z z z) z ⟨_,_,z,(ah' r' _)⟩
      ·refine sr<|yy (ak' z z) z<|sg z z<|nx<|I' hr z (fun X hr=>?_) (fun X hr=>?_)
       ·refine sr<|yy (aJ' z) z<|yy (b' 3 sc3 z z z) z<|yy (aq' (vs:=#[(0,i' 8),(4,i' a1_1.id)]) (v:=.agg ([i' 8,.string ByteArray.empty,i' 0,i' 0,i' a1_1.id,.slice none 0 0,.bool false]).toArray) z z (fun _=>by kernel_rfl)) z<|v' 4 z bJ' z z z z z (List.all_eq_true.1 z)<|sg z z<|nx<|j' ?_
        replace hr:_=r:=hr
        refine x'<|g' ?_
        subst hr
        exact aE' z (ac' (i:=4) bw' z z z) z ⟨_,_,z,(ah' r' _)⟩
       ·refine o'<|D'<|e'<|sr<|yy (t' 2 ai' z z z) z<|yy (aJ' z) z<|yy (b' 3 sc3 z z z) z ?_
        obtain⟨k,K,hr⟩:=hr
        refine M' z z (s' E42 z) (cX' K) z (⟨(c.mono e),(j.mono e),(f.mono e)⟩) (fun aa ae Y q=>?_)
        obtain⟨g,h,rfl,l⟩:=q
        refine mv z z<|yy (K' z z) z<|yy (K' z z) z<|yy (K' z z) z<|T' 8 z z68 z fun b5=>v' 8 z aP' z z z z z (List.all_eq_true.1 z)<|sg z z<|sg z z<|nx<|h'<|sr<|yy (bN' z) z<|yy (b' 3 sc3 z z z) z<|yy (ak' z z) z<|nx<|I' hr z (fun R hr=>?_) (fun R hr=>?_)
        ·refine sr<|yy (aJ' z) z<|yy (b' 3 sc3 z z z) z<|yy (bs' z) z<|yy (b' 8 bQ' z z z) z<|mv z z<|yy (aq' (vs:=#[(0,i' 5),(4,i' a1_1.id),(5,.slice g k.1.p.length h),(6,.bool k.2.1)]) (v:=.agg ([i' 5,.string ByteArray.empty,i' 0,i' 0,i' a1_1.id,.slice g k.1.p.length h,.bool k.2.1]).toArray) z z (fun _=>by kernel_rfl)) z<|v' 4 z bJ' z z z z z (List.all_eq_true.1 z)<|sg z z<|nx<|j' ?_
         replace hr:_=r:=hr
         refine g' ?_
         subst hr
         exact aE' z (ac' (i:=4) bw' z z z) z ⟨_,_,z,l⟩
        ·refine o'<|e'<|sr<|yy (aJ' z) z<|yy (b' 3 sc3 z z z) z<|yy (bs' z) z<|yy (b' 8 bQ' z z z) z<|yy (aq' (vs:=#[(0,i' 7),(4,i' a1_1.id),(5,.slice g k.1.p.length h)]) (v:=.agg ([i' 7,.string ByteArray.empty,i' 0,i' 0,i' a1_1.id,.slice g k.1.p.length h,.bool false]).toArray) z z (fun _=>by kernel_rfl)) z<|v' 4 z bJ' z z z z z (List.all_eq_true.1 z)<|sg z z<|nx<|j' ?_
         obtain rfl:_=r:=hr
         exact aE' z (ac' (i:=4) bw' z z z) z ⟨_,_,z,l⟩
theorem ef'{s1_1 s2_1 s1_1p s1_1c s2_1p s2_1c r}(hr:(Z1 s1_1 s2_1).Ret r):Ctr Tryz.prog 53 #[.slice s1_1p s1_1.length s1_1c,.slice s2_1p s2_1.length s2_1c] (fun G=>sl Rp.str G s1_1p s1_1c s1_1∧sl Rp.str G s2_1p s2_1c s2_1) (fun G v=>v = .bool r):=by
 refine C' (args:=[_,_]) (N:=26) Tryz.func53 z z z (fun s l C o=>?_)
 obtain⟨g,h⟩:=o
 refine sr<|sg z z<|nx<|h'<|sr<|mv z z<|yy (L' A' g z) z<|mv z z<|yy (L' A' h z) z<|yy (aR' z z) z<|nx<|I' hr z (fun t hr=>?_) (fun t hr=>?_)
 ·refine sr<|sg z z<|nx<|j' ?_
  replace hr:_=r:=hr
  refine g' ?_
  subst hr
  exact k' z z z
 ·refine o'<|e'<|h'<|sr<|mv z z<|yy (L' A' g z) z<|mv z z<|nx<|aa' (fun (j:Mem)=>match j with|i=>[]) (fun (j:Mem)=>match j with|i=>Mem.le l i∧(Zaa).Ret r) (fun (j:Mem)=>match j with|i=>St s l i []) ?_ ?_
  ·refine B' ?_
   let k:(Bool⊕Unit)→Prop:=fun y=>((fun B=>match B with | .inl rv1=>Comp.ret rv1 | .inr ()=>Zaa:(Bool⊕Unit)→Comp Bool) y).wp (fun a=>a=r)
   replace hr:(Comp.loop _ _).wp k:=hr
   refine ab' (Φ:=k) (fun (⟨c,f⟩:Int×Mem)=>(c:Int)) (fun ⟨c,f⟩=>[(0,.slice s1_1p s1_1.length s1_1c),(1,.slice s2_1p s2_1.length s2_1c),(12,i' (s1_1.length:Int)),(13,i' c)]) (fun ⟨c,f⟩=>Mem.le l f) (fun ⟨c,f⟩=>St s l f []) ⟨0,l⟩ hr (fc z (fc z (fc z (fc z fn)))) mr (wk ln) ?_
   ·intro D j A hr
    obtain⟨c,f⟩:=j
    have e:=A
    refine sr<|yy (V' z z) z<|nx<|h'<|I' hr z (fun q hr=>?_) (fun q hr=>?_)
    ·refine o'<|e'<|h'<|B'<|sr<|mv z z<|sg z z<|nx<|h'<|Y' [false,false,false,false,false,false,false,false] mix (by kernel_rfl) fun x=>cn (fun _ d=>f' z)<|cn (fun _ d=>f' z) ?_
     obtain⟨F,n,hr⟩:=hr
     refine cn (fun _ d=>Q' A' sz9 ((g.mono e).mono d) z z n)<|cn (fun _ d=>U' sc9 z (bF' (E' (E' (Z' g n) e) d)))<|cn (fun _ d=>f' z)<|cn (fun _ d=>f' z) ?_
     obtain⟨E,m,hr⟩:=hr
     refine cn (fun _ d=>Q' A' sz9 ((h.mono e).mono d) z z m)<|cn (fun _ d=>U' sc9 z (bF' (E' (E' (Z' h m) e) d)))<|X' x<|yy (Y0.neqS aQ' z z) z<|u'<|am'<|e'<|I' hr z (fun p hr=>?_) (fun p hr=>?_)
     ·refine sr<|sg z z<|nx<|j' ?_
      replace hr:_=r:=hr
      refine x'<|g'<|g'<|x'<|aI'<|g' ?_
      subst hr
      exact k' z z z
     ·refine o'<|D'<|e'<|w'<|yy (N' z z) z<|mv z z<|u'<|P' ⟨IntKind.i64.wrap (c+1),f⟩ hr e (fc z (fc z (fc z (fc z fn)))) (wk ln)
    ·refine ad'<|n'<|n'<|J'<|ae' f ⟨e,hr⟩ fn (wk ln)
  ·rintro i ⟨u,hr⟩
   refine e'<|sr<|sg z z<|nx<|j' ?_
   obtain rfl:_=r:=hr
   exact k' z z z
theorem gt'{n1 r}(hr:(ZhW n1).Ret r):Ctr Tryz.prog 193 #[i' n1] (fun G=>True) (fun G v=>∃ d c,v = .agg ((v58' r d c)).toArray∧sl (Rp.int .u32) G d c r.mag):=by
 refine C' (args:=[_]) (N:=15) Tryz.func193 z z z fun F H D u=>sr<|T' 2 z z58 z fun E=>nr<|mv z z<|yy (aH' dL' al' z) z<|sg z z<|nx<|h'<|sr<|mv z z<|yy (V' z z) z<|nx<|I' hr z (fun n hr=>?_) (fun n hr=>?_)
 ·exact (show False from hr).elim
 ·refine o'<|e'<|sr<|mv z z<|yy (V' z z) z<|mv z z ?_
  obtain⟨y,k,hr⟩:=hr
  refine M' z z (s' E206 z) (fJ' k) z (trivial) (fun s A p f=>?_)
  obtain⟨t,x,rfl,h⟩:=f
  obtain⟨C,j,hr⟩:=hr
  refine M' z z (s' E205 z) (dO' j) z (h) (fun q B o e=>?_)
  obtain⟨m,l,rfl,g⟩:=e
  refine v' 2 z sz58 z z z z z (List.all_eq_true.1 z)<|nx<|j' ?_
  obtain rfl:_=r:=hr
  exact k' z (ac' (i:=2) bk' z z z) ⟨_,_,z,g⟩
theorem em'{l1 l1p l1c r}(hr:(Zb3 l1).Ret r):Ctr Tryz.prog 175 #[.slice l1p l1.length l1c] (fun G=>sl dX' G l1p l1c l1) (fun G v=>∃ s q,v = .agg ((v58' r s q)).toArray∧sl (Rp.int .u32) G s q r.mag):=by
 refine C' (args:=[_]) (N:=25) Tryz.func175 z z z (fun T V ae K=>?_)
 have D:=K
 refine sr<|T' 2 z z58 z fun H=>nr ?_
 obtain⟨P,O,hr⟩:=hr
 refine M' z z (s' E193 z) (gt' O) z (trivial) (fun Y C o x=>?_)
 obtain⟨u,y,rfl,t⟩:=x
 refine T' 3 z z58 z fun I=>v' 3 z sz58 z z z z z (List.all_eq_true.1 z)<|nx<|h'<|sr<|mv z z<|yy (L' Tryz.underlying196 (D.mono o) z) z<|mv z z<|nx<|aa' (fun (⟨m,e,f,n⟩:Zf×Option Addr×Nat×Mem)=>[(2,.pointer (some ⟨H,0,none⟩)),(3,.pointer (some ⟨I,0,none⟩))]) (fun ⟨m,e,f,n⟩=>Mem.le C n∧sl (Rp.int .u32) n e f m.mag∧(Zbo m).Ret r) (fun ⟨m,e,f,n⟩=>St T V n [(2,some ⟨H,.cells ([.bool false,.slice none 0 0]).toArray 58 (0,0),0⟩),(3,some ⟨I,.cells ((v58' m e f)).toArray 58 (0,0),0⟩)]) ?_ ?_
 ·refine B' ?_
  let E:Zf→Prop:=fun oo=>((fun ov=>match ov with|m=>Zbo m:Zf→Comp Zf) oo).wp (fun a=>a=r)
  replace hr:(Comp.loop _ _).wp E:=hr
  refine ab' (Φ:=E) (fun (⟨g,j,d,c,h⟩:Int×Zf×Option Addr×Nat×Mem)=>((g,j):Int×Zf)) (fun ⟨g,j,d,c,h⟩=>[(2,.pointer (some ⟨H,0,none⟩)),(3,.pointer (some ⟨I,0,none⟩)),(7,.slice l1p l1.length l1c),(8,i' (l1.length:Int)),(9,i' g)]) (fun ⟨g,j,d,c,h⟩=>Mem.le C h∧sl (Rp.int .u32) h d c j.mag) (fun ⟨g,j,d,c,h⟩=>St T V h [(2,some ⟨H,.cells ([.bool false,.slice none 0 0]).toArray 58 (0,0),0⟩),(3,some ⟨I,.cells ((v58' j d c)).toArray 58 (0,0),0⟩)]) ⟨0,P,u,y,C⟩ hr (fc z (fc z (fc z (fc z (fc z fn))))) ⟨mr,t⟩ (wk (lc z (lc z ln))) ?_
  ·intro af X hx hr
   obtain⟨g,j,d,c,h⟩:=X
   obtain⟨k,l⟩:=hx
   refine sr<|yy (V' z z) z<|nx<|h'<|I' hr z (fun U hr=>?_) (fun U hr=>?_)
   ·refine o'<|e'<|h'<|B'<|sr ?_
    obtain⟨Z,J,hr⟩:=hr
    refine yy (Q' Tryz.underlying196 sz58 (D.mono (mt o k)) z z J) z ?_
    obtain⟨B,F,S,p⟩:=Zla (E' (Z' D J) (mt o k))
    refine yy (aw' _ bk' z z S) z<|T' 5 z z58 z fun b3=>v' 5 z sz58 z z z z z (List.all_eq_true.1 z)<|nx<|B'<|sr<|yy (t' 5 bk' z z z) z ?_
    obtain⟨ad,M,hr⟩:=hr
    refine F' z z (s' E190 z) (dk' M) z (p)<|sg z z<|nx<|aN' hr z (fun R hr=>?_) (fun R hr=>?_)
    ·refine o'<|D'<|D'<|e'<|w'<|yy (N' z z) z<|mv z z<|u'<|P' ⟨IntKind.i64.wrap (g+1),j,d,c,h⟩ hr ⟨k,l⟩ (fc z (fc z (fc z (fc z (fc z fn))))) (wk (lc z (lc z ln)))
    ·refine sr<|yy (t' 3 bk' z z z) z ?_
     obtain⟨ag,L,hr⟩:=hr
     refine F' z z (s' E190 z) (dk' L) z (l)<|sg z z<|nx<|aN' hr z (fun Q hr=>?_) (fun Q hr=>?_)
     ·refine w'<|yy (t' 5 bk' z z z) z<|v' 3 z sz58 z z z z z (List.all_eq_true.1 z)<|u'<|D'<|D'<|e'<|w'<|yy (N' z z) z<|mv z z<|u'<|P' ⟨IntKind.i64.wrap (g+1),Z,B,F,h⟩ hr ⟨k,p⟩ (fc z (fc z (fc z (fc z (fc z fn))))) (wk (lc z (lc z ln)))
     ·exact (show False from hr).elim
   ·refine ad'<|n'<|n'<|J'<|ae' ⟨j,d,c,h⟩ ⟨k,l,hr⟩ (fc z (fc z fn)) (wk (lc z (lc z ln)))
 ·rintro⟨m,e,f,n⟩ ⟨W,A,hr⟩
  refine e'<|sr<|yy (t' 3 bk' z z z) z<|v' 2 z sz58 z z z z z (List.all_eq_true.1 z)<|nx<|j' ?_
  obtain rfl:_=r:=hr
  exact k' z (ac' (i:=2) bk' z z z) ⟨_,_,z,A⟩
theorem gl'{a1 b1 a1magp a1magc b1magp b1magc r}(hr:(Zg4 a1 b1).Ret r):Ctr Tryz.prog 174 #[.agg ((v58' a1 a1magp a1magc)).toArray,.agg ((v58' b1 b1magp b1magc)).toArray] (fun G=>sl (Rp.int .u32) G a1magp a1magc a1.mag∧sl (Rp.int .u32) G b1magp b1magc b1.mag) (fun G v=>v=i' r):=by
 refine C' (args:=[_,_]) (N:=29) Tryz.func174 z z z (fun u y q g=>?_)
 obtain⟨d,c⟩:=g
 refine sr<|W' 2 z z z fun A=>W' 3 z z z fun x=>sg z z<|nx<|h'<|Y' [false,false,false] mix (by kernel_rfl) fun m=>cn (fun _ e=>t' 2 bk' z z z) ?_
 obtain⟨n,j,hr⟩:=hr
 refine bB' z (fun _=>s' E189 z) (dA' j) z (fun t e=>(d.mono e))<|cn (fun _ e=>t' 3 bk' z z z)<|X' m ?_
 obtain⟨p,i,hr⟩:=hr
 refine F' z z (s' E189 z) (dA' i) z (c)<|sg z z<|sg z z<|u'<|am'<|e'<|h'<|sr<|mv z z<|mv z z<|yy (aR' z z) z<|nx<|I' hr z (fun l hr=>?_) (fun l hr=>?_)
 ·exact (show False from hr).elim
 ·refine o'<|e'<|h'<|sr<|mv z z<|yy (V' z z) z<|nx<|I' hr z (fun k hr=>?_) (fun k hr=>?_)
  ·refine sr<|yy (aO' z) z<|yy (b' 3 bG' z z z) z<|yy (aO' z) z<|yy (b' 2 bG' z z z) z ?_
   obtain⟨s,h,hr⟩:=hr
   refine F' z z (s' E192 z) (et' h) z (⟨c,d⟩)<|sg z z<|nx<|j' ?_
   replace hr:_=r:=hr
   refine g' ?_
   subst hr
   exact k' z z z
  ·refine o'<|e'<|sr<|yy (aO' z) z<|yy (b' 2 bG' z z z) z<|yy (aO' z) z<|yy (b' 3 bG' z z z) z ?_
   obtain⟨o,f,hr⟩:=hr
   refine F' z z (s' E192 z) (et' f) z (⟨d,c⟩)<|sg z z<|nx<|j' ?_
   obtain rfl:_=r:=hr
   exact k' z z z
theorem fX'{a1 b1 a1nummagp a1nummagc a1denmagp a1denmagc b1nummagp b1nummagc b1denmagp b1denmagc r}(hr:(ZbE a1 b1).Ret r):Ctr Tryz.prog 137 #[.agg ([.bool a1.num.neg,.slice a1nummagp a1.num.mag.length a1nummagc,.bool a1.den.neg,.slice a1denmagp a1.den.mag.length a1denmagc]).toArray,.agg ([.bool b1.num.neg,.slice b1nummagp b1.num.mag.length b1nummagc,.bool b1.den.neg,.slice b1denmagp b1.den.mag.length b1denmagc]).toArray] (fun G=>sl (Rp.int .u32) G a1nummagp a1nummagc a1.num.mag∧sl (Rp.int .u32) G a1denmagp a1denmagc a1.den.mag∧sl (Rp.int .u32) G b1nummagp b1nummagc b1.num.mag∧sl (Rp.int .u32) G b1denmagp b1denmagc b1.den.mag) (fun G v=>v=i' r):=by
 refine C' (args:=[_,_]) (N:=30) Tryz.func137 z z z (fun w0 G0 ag K=>?_)
 obtain⟨l,k,n,m⟩:=K
 refine sr<|W' 2 z z z fun b2=>W' 3 z z z fun b3=>sg z z<|nx<|h'<|h'<|Y' [false,false,false] mix (by kernel_rfl) fun T=>cn (fun _ c=>t' 2 ci' z z z) ?_
 obtain⟨ab,P,hr⟩:=hr
 refine bB' z (fun _=>s' E170 z) (dr' P) z (fun D c=>⟨(l.mono c),(k.mono c)⟩)<|cn (fun _ c=>t' 3 ci' z z z)<|X' T ?_
 obtain⟨af,O,hr⟩:=hr
 refine F' z z (s' E170 z) (dr' O) z (⟨n,m⟩)<|sg z z<|sg z z<|u'<|am'<|e'<|sr<|mv z z<|mv z z<|yy (aR' z z) z<|nx<|I' hr z (fun V hr=>?_) (fun V hr=>?_)
 ·refine h'<|sr<|mv z z<|mv z z<|yy (V' z z) z<|nx<|I' hr z (fun S hr=>?_) (fun S hr=>?_)
  ·refine sr<|sg z z<|nx<|j' ?_
   replace hr:_=r:=hr
   refine g'<|g' ?_
   subst hr
   exact k' z z z
  ·refine o'<|e'<|sr<|sg z z<|nx<|j' ?_
   replace hr:_=r:=hr
   refine g' ?_
   subst hr
   exact k' z z z
 ·refine o'<|e'<|h'<|Y' [false,false,false,false,false,false,false,false,false,false,false] mix (by kernel_rfl) fun T=>cn (fun _ c=>cn' z)<|cn (fun _ c=>av' ((v58' a1.num a1nummagp a1nummagc)).toArray 2 bk' z z z (aM' ([]) ((v58' a1.num a1nummagp a1nummagc)) ((v58' a1.den a1denmagp a1denmagc))))<|cn (fun _ c=>bW' z)<|cn (fun _ c=>av' ((v58' b1.den b1denmagp b1denmagc)).toArray 3 bk' z z z (aM' ((v58' b1.num b1nummagp b1nummagc)) ((v58' b1.den b1denmagp b1denmagc)) ([])))<|ey' (r:=dX') (e:=58) ([a1.num,b1.den]:List Zf) (fun _=>z) z (by decide) (fun u D c M=>?_) ?_
  ·exact⟨#[(0,.agg ((v58' a1.num a1nummagp a1nummagc)).toArray),(1,.agg ((v58' b1.den b1denmagp b1denmagc)).toArray)],(v58' a1.num a1nummagp a1nummagc)++((v58' b1.den b1denmagp b1denmagc)++([])),z,z,fun _=>by kernel_rfl,⟨(v58' a1.num a1nummagp a1nummagc),(v58' b1.den b1denmagp b1denmagc)++([]),z,⟨[.bool a1.num.neg],[.slice a1nummagp a1.num.mag.length a1nummagc],z,z,⟨_,z,(l.mono c)⟩⟩,⟨(v58' b1.den b1denmagp b1denmagc),[],z,⟨[.bool b1.den.neg],[.slice b1denmagp b1.den.mag.length b1denmagc],z,z,⟨_,z,(m.mono c)⟩⟩,z⟩⟩⟩
  obtain⟨q,J,hr⟩:=hr
  refine cR' (f:=175) (φ:=fun G v=>∃ g i,v = .agg ((v58' q g i)).toArray∧sl (Rp.int .u32) G g i q.mag) (fun _=>z) (fun v G1 G2 c h=>?_) (fun u D c M=>?_) ?_
  ·obtain⟨g,i,rfl,j⟩:=h
   exact⟨_,_,z,j.mono c⟩
  ·obtain⟨⟨p,o,C,F⟩,_⟩:=(show (fun G v=>∃ p o,v = .slice p 2 2∧SlRd dX' G (.slice p 2 2) o [a1.num,b1.den]) D.m (u 21)∧True from M)
   exact⟨_,_,_,fun _=>s' E175 z,em' J,(by simp only[C] <;> rfl),F⟩
  refine cu (fun _ _ c=>cn' z)<|cu (fun _ _ c=>av' ((v58' b1.num b1nummagp b1nummagc)).toArray 3 bk' z z z (aM' ([]) ((v58' b1.num b1nummagp b1nummagc)) ((v58' b1.den b1denmagp b1denmagc))))<|cu (fun _ _ c=>bW' z)<|cu (fun _ _ c=>av' ((v58' a1.den a1denmagp a1denmagc)).toArray 2 bk' z z z (aM' ((v58' a1.num a1nummagp a1nummagc)) ((v58' a1.den a1denmagp a1denmagc)) ([])))<|ey' (r:=dX') (e:=58) ([b1.num,a1.den]:List Zf) (fun _=>z) z (by decide) (fun u D c M=>?_) ?_
  ·exact⟨#[(0,.agg ((v58' b1.num b1nummagp b1nummagc)).toArray),(1,.agg ((v58' a1.den a1denmagp a1denmagc)).toArray)],(v58' b1.num b1nummagp b1nummagc)++((v58' a1.den a1denmagp a1denmagc)++([])),z,z,fun _=>by kernel_rfl,⟨(v58' b1.num b1nummagp b1nummagc),(v58' a1.den a1denmagp a1denmagc)++([]),z,⟨[.bool b1.num.neg],[.slice b1nummagp b1.num.mag.length b1nummagc],z,z,⟨_,z,(n.mono c)⟩⟩,⟨(v58' a1.den a1denmagp a1denmagc),[],z,⟨[.bool a1.den.neg],[.slice a1denmagp a1.den.mag.length a1denmagc],z,z,⟨_,z,(k.mono c)⟩⟩,z⟩⟩⟩
  refine Chain.tailU3 (d:=27) (post:=fun G v=>∃ H E,v = .slice H 2 2∧SlRd dX' G (.slice H 2 2) E [b1.num,a1.den]) (d':=22) (post':=fun G v=>∃ g i,v = .agg ((v58' q g i)).toArray∧sl (Rp.int .u32) G g i q.mag) (d'':=21) (post'':=fun G v=>∃ p o,v = .slice p 2 2∧SlRd dX' G (.slice p 2 2) o [a1.num,b1.den]) (fun Y Z X ae W s y t=>?_)
  obtain⟨H,E,rfl,U⟩:=s
  obtain⟨g,i,rfl,j⟩:=y
  obtain⟨p,o,rfl,F⟩:=t
  obtain⟨ac,I,hr⟩:=hr
  refine M' z z (s' E175 z) (em' I) z (U) (fun aa ah B A=>?_)
  obtain⟨Q,R,rfl,x⟩:=A
  obtain⟨ad,L,hr⟩:=hr
  refine F' z z (s' E174 z) (gl' L) z (⟨(j.mono B),x⟩)<|sg z z<|u'<|am'<|e'<|j' ?_
  obtain rfl:_=r:=hr
  exact k' z z z
theorem eP'{s1 t1 s1cnummagp s1cnummagc s1cdenmagp s1cdenmagc t1cnummagp t1cnummagc t1cdenmagp t1cdenmagc r}(hr:(ZaN s1 t1).Ret r):Ctr Tryz.prog 136 #[.agg (([.bool s1.c.num.neg,.slice s1cnummagp s1.c.num.mag.length s1cnummagc,.bool s1.c.den.neg,.slice s1cdenmagp s1.c.den.mag.length s1cdenmagc]:List Value)++(vecG (Value.int .i64) 8 s1.m)).toArray,.agg (([.bool t1.c.num.neg,.slice t1cnummagp t1.c.num.mag.length t1cnummagc,.bool t1.c.den.neg,.slice t1cdenmagp t1.c.den.mag.length t1cdenmagc]:List Value)++(vecG (Value.int .i64) 8 t1.m)).toArray] (fun G=>sl (Rp.int .u32) G s1cnummagp s1cnummagc s1.c.num.mag∧sl (Rp.int .u32) G s1cdenmagp s1cdenmagc s1.c.den.mag∧sl (Rp.int .u32) G t1cnummagp t1cnummagc t1.c.num.mag∧sl (Rp.int .u32) G t1cdenmagp t1cdenmagc t1.c.den.mag) (fun G v=>v = .bool r):=by
 refine C' (args:=[_,_]) (N:=18) Tryz.func136 z z z (fun m n k g=>?_)
 obtain⟨f,d,e,c⟩:=g
 refine sr<|W' 2 z z z fun l=>W' 3 z z z fun o=>sg z z<|nr<|yy (bm' z) z<|yy (av' (vecG (Value.int .i64) 8 s1.m).toArray 2 bS' z z (O' _ _ _) (aM' ([.bool s1.c.num.neg,.slice s1cnummagp s1.c.num.mag.length s1cnummagc,.bool s1.c.den.neg,.slice s1cdenmagp s1.c.den.mag.length s1cdenmagc]) (vecG (Value.int .i64) 8 s1.m) ([]))) z<|yy (bm' z) z<|yy (av' (vecG (Value.int .i64) 8 t1.m).toArray 3 bS' z z (O' _ _ _) (aM' ([.bool t1.c.num.neg,.slice t1cnummagp t1.c.num.mag.length t1cnummagc,.bool t1.c.den.neg,.slice t1cdenmagp t1.c.den.mag.length t1cdenmagc]) (vecG (Value.int .i64) 8 t1.m) ([]))) z<|aj' hr z (Y0.eqlV aG' az' sc3 sz3 eg99 z z) z (fun i hr=>?_) (fun i hr=>?_)
 ·refine mv z z<|gy z z (ce' z) z<|gy z z (av' ([.bool s1.c.num.neg,.slice s1cnummagp s1.c.num.mag.length s1cnummagc,.bool s1.c.den.neg,.slice s1cdenmagp s1.c.den.mag.length s1cdenmagc]).toArray 2 ci' z z z (aM' ([]) ([.bool s1.c.num.neg,.slice s1cnummagp s1.c.num.mag.length s1cnummagc,.bool s1.c.den.neg,.slice s1cdenmagp s1.c.den.mag.length s1cdenmagc]) ((vecG (Value.int .i64) 8 s1.m)))) z<|gy z z (ce' z) z<|gy z z (av' ([.bool t1.c.num.neg,.slice t1cnummagp t1.c.num.mag.length t1cnummagc,.bool t1.c.den.neg,.slice t1cdenmagp t1.c.den.mag.length t1cdenmagc]).toArray 3 ci' z z z (aM' ([]) ([.bool t1.c.num.neg,.slice t1cnummagp t1.c.num.mag.length t1cnummagc,.bool t1.c.den.neg,.slice t1cdenmagp t1.c.den.mag.length t1cdenmagc]) ((vecG (Value.int .i64) 8 t1.m)))) z ?_
  obtain⟨j,h,hr⟩:=hr
  refine F' (H' z z) z (s' E137 z) (fX' h) z (⟨f,d,e,c⟩)<|gy z z (ak' z z) z<|yy (m' z z) z<|sg z z<|nx<|j' ?_
  obtain rfl:_=r:=hr
  exact k' z z z
 ·refine mv z z<|sk z z z<|sk z z z<|sk z z z<|sk z z z<|sk z z z<|sk z z z<|yy (l' z z) z<|sg z z<|nx<|j' ?_
  obtain rfl:_=r:=hr
  exact k' z z z
theorem cb'{s1_1 s2_1 s1_1p s1_1c s2_1p s2_1c r}(hr:(Zq s1_1 s2_1).Ret r):Ctr Tryz.prog 135 #[.slice s1_1p s1_1.length s1_1c,.slice s2_1p s2_1.length s2_1c,.func (.func 136) #[] #[]] (fun G=>sl r' G s1_1p s1_1c s1_1∧sl r' G s2_1p s2_1c s2_1) (fun G v=>v = .bool r):=by
 refine C' (args:=[_,_,_]) (N:=32) Tryz.func135 z z z (fun P E X J=>?_)
 obtain⟨y,A⟩:=J
 refine sr<|sg z z<|nx<|h'<|sr<|mv z z<|yy (L' R' y z) z<|mv z z<|yy (L' R' A z) z<|yy (aR' z z) z<|nx<|I' hr z (fun Q hr=>?_) (fun Q hr=>?_)
 ·refine sr<|sg z z<|nx<|j' ?_
  replace hr:_=r:=hr
  refine g' ?_
  subst hr
  exact k' z z z
 ·refine o'<|e'<|h'<|sr<|mv z z<|yy (L' R' y z) z<|mv z z<|nx<|aa' (fun (C:Mem)=>match C with|B=>[]) (fun (C:Mem)=>match C with|B=>Mem.le E B∧(Zo).Ret r) (fun (C:Mem)=>match C with|B=>St P E B []) ?_ ?_
  ·refine B' ?_
   let D:(Bool⊕Unit)→Prop:=fun T=>((fun V=>match V with | .inl rv1=>Comp.ret rv1 | .inr ()=>Zo:(Bool⊕Unit)→Comp Bool) T).wp (fun a=>a=r)
   replace hr:(Comp.loop _ _).wp D:=hr
   refine ab' (Φ:=D) (fun (⟨k,o⟩:Int×Mem)=>(k:Int)) (fun ⟨k,o⟩=>[(1,.slice s2_1p s2_1.length s2_1c),(2,.func (.func 136) #[] #[]),(15,.slice s1_1p s1_1.length s1_1c),(16,i' (s1_1.length:Int)),(17,i' k)]) (fun ⟨k,o⟩=>Mem.le E o) (fun ⟨k,o⟩=>St P E o []) ⟨0,E⟩ hr (fc z (fc z (fc z (fc z (fc z fn))))) mr (wk ln) ?_
   ·intro Y C U hr
    obtain⟨k,o⟩:=C
    have n:=U
    refine sr<|yy (V' z z) z<|nx<|h'<|I' hr z (fun M hr=>?_) (fun M hr=>?_)
    ·refine o'<|e'<|h'<|B'<|sr<|mv z z ?_
     obtain⟨m,I,hr⟩:=hr
     refine yy (Q' R' bD' (y.mono n) z z I) z ?_
     obtain⟨c,f,j,i,O,p,t⟩:=cB' (E' (Z' y I) n)
     refine yy (aw' _ ag101 z z O) z<|T' 8 z z101 z fun Z=>sg z z<|v' 8 z bD' z z z z z (fun u F=>Rp.one r' (G:=o) (x:=m) (cs:=([.bool m.c.num.neg,.slice c m.c.num.mag.length f,.bool m.c.den.neg,.slice j m.c.den.mag.length i]:List Value)++(vecG (Value.int .i64) 8 m.m)) ⟨[.bool m.c.num.neg,.slice c m.c.num.mag.length f,.bool m.c.den.neg,.slice j m.c.den.mag.length i],vecG (Value.int .i64) 8 m.m,z,⟨(v58' m.c.num c f),(v58' m.c.den j i),z,⟨[.bool m.c.num.neg],[.slice c m.c.num.mag.length f],z,z,⟨_,z,p⟩⟩,⟨[.bool m.c.den.neg],[.slice j m.c.den.mag.length i],z,z,⟨_,z,t⟩⟩⟩,z⟩ u (by first|simpa using F|simpa [Value.cells] using F))<|nr<|mv z z<|mv z z ?_
     obtain⟨l,H,hr⟩:=hr
     refine yy (Q' R' bD' (A.mono n) z z H) z ?_
     obtain⟨g,d,h,e,R,s,q⟩:=cB' (E' (Z' A H) n)
     refine yy (aw' _ ag101 z z R) z<|T' 9 z z101 z fun b2=>v' 9 z bD' z z z z z (fun u F=>Rp.one r' (G:=o) (x:=l) (cs:=([.bool l.c.num.neg,.slice g l.c.num.mag.length d,.bool l.c.den.neg,.slice h l.c.den.mag.length e]:List Value)++(vecG (Value.int .i64) 8 l.m)) ⟨[.bool l.c.num.neg,.slice g l.c.num.mag.length d,.bool l.c.den.neg,.slice h l.c.den.mag.length e],vecG (Value.int .i64) 8 l.m,z,⟨(v58' l.c.num g d),(v58' l.c.den h e),z,⟨[.bool l.c.num.neg],[.slice g l.c.num.mag.length d],z,z,⟨_,z,s⟩⟩,⟨[.bool l.c.den.neg],[.slice h l.c.den.mag.length e],z,z,⟨_,z,q⟩⟩⟩,z⟩ u (by first|simpa using F|simpa [Value.cells] using F))<|nr<|mv z z<|yy (t' 8 ag101 z z z) z<|yy (t' 9 ag101 z z z) z ?_
     obtain⟨W,K,hr⟩:=hr
     refine F' z z (cH' E136 z z) (eP' K) z (⟨p,t,s,q⟩)<|yy (ao' z) z<|nx<|aN' hr z (fun L hr=>?_) (fun L hr=>?_)
     ·refine sr<|sg z z<|nx<|j' ?_
      replace hr:_=r:=hr
      refine x'<|g'<|g'<|x'<|aI'<|g' ?_
      subst hr
      exact k' z z z
     ·refine o'<|D'<|e'<|w'<|yy (N' z z) z<|mv z z<|u'<|P' ⟨IntKind.i64.wrap (k+1),o⟩ hr n (fc z (fc z (fc z (fc z (fc z fn))))) (wk ln)
    ·refine ad'<|n'<|n'<|J'<|ae' o ⟨n,hr⟩ fn (wk ln)
  ·rintro B ⟨S,hr⟩
   refine e'<|sr<|sg z z<|nx<|j' ?_
   obtain rfl:_=r:=hr
   exact k' z z z
theorem ev'{p1 q1 p1p p1c q1p q1c r}(hr:(Zbp p1 q1).Ret r):Ctr Tryz.prog 89 #[.slice p1p p1.length p1c,.slice q1p q1.length q1c] (fun G=>sl r' G p1p p1c p1∧sl r' G q1p q1c q1) (fun G v=>v = .bool r):=by
 refine C' (args:=[_,_]) (N:=8) Tryz.func89 z z z (fun i j h c=>?_)
 obtain⟨f,e⟩:=c
 refine sr<|sg z z<|nr<|mv z z<|mv z z ?_
 obtain⟨g,d,hr⟩:=hr
 refine F' z z (s' E135 z) (cb' d) z (⟨f,e⟩)<|sg z z<|nx<|j' ?_
 obtain rfl:_=r:=hr
 exact k' z z z
theorem fY'{q1 v1 q1pp q1pc r}(hr:(Zgb q1 v1).Ret r):Ctr Tryz.prog 55 #[.agg ((v68' q1.id q1pp q1.p q1pc)).toArray,.bool v1] (fun G=>sl r' G q1pp q1pc q1.p) (fun G v=>∃ d c,v = .agg ([i' r.kind,.string r.name,i' r.at',i' r.to',i' r.id,.slice d r.p.length c,.bool r.neq]).toArray∧sl r' G d c r.p):=by
 refine C' (args:=[_,_]) (N:=8) Tryz.func55 z z z (fun j k g e=>?_)
 have f:=e
 refine sr<|W' 2 z z z fun h=>T' 4 z z40 z fun l=>nr<|yy (bb' z) z<|yy (b' 2 sc3 z z z) z<|yy (aq' (vs:=#[(0,i' 6),(4,i' q1.id)]) (v:=.agg ([i' 6,.string ByteArray.empty,i' 0,i' 0,i' q1.id,.slice none 0 0,.bool false]).toArray) z z (fun _=>by kernel_rfl)) z<|v' 4 z bJ' z z z z z (List.all_eq_true.1 z)<|nx<|j' ?_
 obtain rfl:_=r:=hr
 exact k' z (ac' (i:=4) bw' z z z) ⟨_,_,z,(ah' r' _)⟩
theorem fZ'{q1 neq1 q1pp q1pc r}(hr:(Zgc q1 neq1).Ret r):Ctr Tryz.prog 56 #[.agg ((v68' q1.id q1pp q1.p q1pc)).toArray,.bool neq1] (fun G=>sl r' G q1pp q1pc q1.p) (fun G v=>∃ d c,v = .agg ([i' r.kind,.string r.name,i' r.at',i' r.to',i' r.id,.slice d r.p.length c,.bool r.neq]).toArray∧sl r' G d c r.p):=by
 refine C' (args:=[_,_]) (N:=11) Tryz.func56 z z z (fun j k g f=>?_)
 have e:=f
 refine sr<|W' 2 z z z fun h=>T' 4 z z40 z fun l=>nr<|yy (bb' z) z<|yy (b' 2 sc3 z z z) z<|yy (bs' z) z<|yy (b' 2 bQ' z z z) z<|mv z z<|yy (aq' (vs:=#[(0,i' 5),(4,i' q1.id),(5,.slice q1pp q1.p.length q1pc),(6,.bool neq1)]) (v:=.agg ([i' 5,.string ByteArray.empty,i' 0,i' 0,i' q1.id,.slice q1pp q1.p.length q1pc,.bool neq1]).toArray) z z (fun _=>by kernel_rfl)) z<|v' 4 z bJ' z z z z z (List.all_eq_true.1 z)<|nx<|j' ?_
 obtain rfl:_=r:=hr
 exact k' z (ac' (i:=4) bw' z z z) ⟨_,_,z,e⟩
theorem en'{a0_1 a1_1 a2_1 a0_1varsp a0_1varsc a0_1eqsp a0_1eqsc a0_1neqsp a0_1neqsc a1_1varsp a1_1varsc a1_1eqsp a1_1eqsc a1_1neqsp a1_1neqsc r}(hr:(Zas a0_1 a1_1 a2_1).Ret r):CtrL Tryz.prog 54 #[.agg ((v33' a0_1 a0_1varsp a0_1varsc a0_1eqsp a0_1eqsc a0_1neqsp a0_1neqsc)).toArray,.agg ((v33' a1_1 a1_1varsp a1_1varsc a1_1eqsp a1_1eqsc a1_1neqsp a1_1neqsc)).toArray,.bool a2_1,.func (.func 55) #[] #[]] [] (fun G=>sl Rp.str G a0_1varsp a0_1varsc a0_1.vars∧sl a' G a0_1eqsp a0_1eqsc a0_1.eqs∧sl a' G a0_1neqsp a0_1neqsc a0_1.neqs∧sl Rp.str G a1_1varsp a1_1varsc a1_1.vars∧sl a' G a1_1eqsp a1_1eqsc a1_1.eqs∧sl a' G a1_1neqsp a1_1neqsc a1_1.neqs) (fun G L v=>∃ zp zc az,L=[(7000,az)]∧v = .slice zp r.length zc∧RowR ag' 40 G (.slice zp r.length zc) r az):=by
 refine aT' (args:=[_,_,_,_]) (N:=72) Tryz.func54 z z z (fun w0 G0 ak aH=>?_)
 obtain⟨aB,Z,X,V,aa,Y⟩:=aH
 refine sr<|W' 4 z z z fun b1=>W' 5 z z z fun W=>sg z z<|nr<|sg z z<|nx<|h'<|sr<|yy (ax' z) z<|yy (b' 4 aS' z z z) z<|yy (aL' z) z<|yy (b' 4 aS' z z z) z<|aU' (e:=31) (r:=(Rp.sl a')) (vs:=#[(0,.slice a0_1eqsp a0_1.eqs.length a0_1eqsc),(1,.slice a0_1neqsp a0_1.neqs.length a0_1neqsc)]) (cs:=[.slice a0_1eqsp a0_1.eqs.length a0_1eqsc]++([.slice a0_1neqsp a0_1.neqs.length a0_1neqsc]++([]))) ([a0_1.eqs,a0_1.neqs]:List (List Za)) z z z z z (by decide) (fun _=>by kernel_rfl) ⟨[.slice a0_1eqsp a0_1.eqs.length a0_1eqsc],[.slice a0_1neqsp a0_1.neqs.length a0_1neqsc]++([]),z,⟨_,z,Z⟩,⟨[.slice a0_1neqsp a0_1.neqs.length a0_1neqsc],[],z,⟨_,z,X⟩,z⟩⟩ (key:=999) z (by rw[ak]; rfl) fun p1 an S ao=>yy (L' bv' ao z) z<|mv z z<|nx<|aa' (fun (⟨A,H,I,x,O⟩:(List Zd)×Option Addr×Nat×Option Ow×Mem)=>[(9,.slice H A.length I)]) (fun ⟨A,H,I,x,O⟩=>Mem.le an O∧RowR ag' 40 O (.slice H A.length I) A x∧(Zae A).Ret r) (fun ⟨A,H,I,x,O⟩=>St w0 G0 O [(4009,x)]) ?_ ?_
 ·refine B' ?_
  let T:(List Zd)→Prop:=fun oo=>((fun ov=>match ov with|A=>Zae A:(List Zd)→Comp (List Zd)) oo).wp (fun a=>a=r)
  replace hr:(Comp.loop _ _).wp T:=hr
  refine ab' (Φ:=T) (fun (⟨u,s,p,k,d,C⟩:(List Zd)×Option Addr×Nat×Option Ow×Int×Mem)=>((u,d):(List Zd)×Int)) (fun ⟨u,s,p,k,d,C⟩=>[(2,.bool a2_1),(3,.func (.func 55) #[] #[]),(5,.pointer (some ⟨W,0,none⟩)),(9,.slice s u.length p),(21,.slice p1 2 2),(22,i' ([a0_1.eqs,a0_1.neqs].length:Int)),(23,i' d)]) (fun ⟨u,s,p,k,d,C⟩=>Mem.le an C∧RowR ag' 40 C (.slice s u.length p) u k) (fun ⟨u,s,p,k,d,C⟩=>St w0 G0 C [(5,some ⟨W,.cells ((v33' a1_1 a1_1varsp a1_1varsc a1_1eqsp a1_1eqsc a1_1neqsp a1_1neqsc)).toArray 33 (0,0),0⟩),(4009,k)]) ⟨[],none,0,none,0,an⟩ hr (fc z (fc z (fc z (fc z (fc z (fc z (fc z fn))))))) ⟨mr,ea'⟩ (wk (lc z (lw ln))) ?_
  ·intro ay gx hx hr
   obtain⟨u,s,p,k,d,C⟩:=gx
   obtain⟨B,ae⟩:=hx
   refine sr<|yy (V' z z) z<|nx<|h'<|I' hr z (fun a9 hr=>?_) (fun a9 hr=>?_)
   ·refine o'<|e'<|h'<|B'<|sr<|mv z z ?_
    obtain⟨x1,aC,hr⟩:=hr
    refine yy (Q' bv' cr' (ao.mono B) z z aC) z ?_
    obtain⟨p2,aA,aU,al⟩:=ca' (E' (Z' ao aC) B)
    refine yy (U' aS' z (aU)) z<|sg z z<|sg z z<|nr<|mv z z<|yy (L' q' al z) z<|mv z z<|nx<|aa' (fun (⟨t,D,E,y,P⟩:(List Zd)×Option Addr×Nat×Option Ow×Mem)=>[(2,.bool a2_1),(3,.func (.func 55) #[] #[]),(5,.pointer (some ⟨W,0,none⟩)),(9,.slice D t.length E),(21,.slice p1 2 2),(22,i' ([a0_1.eqs,a0_1.neqs].length:Int)),(23,i' d)]) (fun ⟨t,D,E,y,P⟩=>Mem.le C P∧RowR ag' 40 P (.slice D t.length E) t y∧(Zaf d t).wp (Out ay T)) (fun ⟨t,D,E,y,P⟩=>St w0 G0 P [(5,some ⟨W,.cells ((v33' a1_1 a1_1varsp a1_1varsc a1_1eqsp a1_1eqsc a1_1neqsp a1_1neqsc)).toArray 33 (0,0),0⟩),(4009,y)]) ?_ ?_
    ·refine B' ?_
     let ab:(List Zd)→Prop:=fun oo=>((fun ov=>match ov with|t=>Zaf d t:(List Zd)→Comp (((List Zd)×Int)⊕(List Zd))) oo).wp (Out ay T)
     replace hr:(Comp.loop _ _).wp ab:=hr
     refine ab' (Φ:=ab) (fun (⟨g,n,l,f,h,M⟩:(List Zd)×Option Addr×Nat×Option Ow×Int×Mem)=>((g,h):(List Zd)×Int)) (fun ⟨g,n,l,f,h,M⟩=>[(2,.bool a2_1),(3,.func (.func 55) #[] #[]),(5,.pointer (some ⟨W,0,none⟩)),(9,.slice n g.length l),(10,i' d),(21,.slice p1 2 2),(22,i' ([a0_1.eqs,a0_1.neqs].length:Int)),(23,i' d),(28,.slice p2 x1.length aA),(29,i' (x1.length:Int)),(30,i' h)]) (fun ⟨g,n,l,f,h,M⟩=>Mem.le C M∧RowR ag' 40 M (.slice n g.length l) g f) (fun ⟨g,n,l,f,h,M⟩=>St w0 G0 M [(5,some ⟨W,.cells ((v33' a1_1 a1_1varsp a1_1varsc a1_1eqsp a1_1eqsc a1_1neqsp a1_1neqsc)).toArray 33 (0,0),0⟩),(4009,f)]) ⟨u,s,p,k,0,C⟩ hr (fc z (fc z (fc z (fc z (fc z (fc z (fc z (fc z (fc z (fc z (fc z fn))))))))))) ⟨mr,ae⟩ (wk (lc z (lc z ln))) ?_
     ·intro a5 gx hx hr
      obtain⟨g,n,l,f,h,M⟩:=gx
      obtain⟨q,R⟩:=hx
      refine sr<|yy (V' z z) z<|nx<|h'<|I' hr z (fun a0 hr=>?_) (fun a0 hr=>?_)
      ·refine o'<|e'<|h'<|B'<|sr ?_
       obtain⟨x2,ax,hr⟩:=hr
       refine yy (Q' q' aP' (al.mono q) z z ax) z ?_
       obtain⟨aL,aM,aV,am⟩:=ba' (E' (Z' al ax) q)
       refine yy (aw' _ bI' z z aV) z<|T' 13 z z68 z fun b3=>v' 13 z aP' z z z z z (List.all_eq_true.1 z)<|nr<|yy (t' 5 ai' z z z) z<|yy (bb' z) z<|yy (b' 13 sc3 z z z) z ?_
       obtain⟨bf,aQ,hr⟩:=hr
       refine M' z z (s' E42 z) (cX' aQ) z (⟨(V.mono (mt (mt S B) q)),(aa.mono (mt (mt S B) q)),(Y.mono (mt (mt S B) q))⟩) (fun be U F ag=>?_)
       obtain⟨aR,aS,rfl,ai⟩:=ag
       refine mv z z<|yy (K' z z) z<|yy (K' z z) z<|yy (K' z z) z<|T' 14 z z68 z fun b4=>v' 14 z aP' z z z z z (List.all_eq_true.1 z)<|sg z z<|sg z z<|nx<|aV' (fun (⟨J,Q⟩:Bool×Mem)=>[(2,.bool a2_1),(3,.func (.func 55) #[] #[]),(5,.pointer (some ⟨W,0,none⟩)),(9,.slice n g.length l),(10,i' d),(13,.pointer (some ⟨b3,0,none⟩)),(21,.slice p1 2 2),(22,i' ([a0_1.eqs,a0_1.neqs].length:Int)),(23,i' d),(28,.slice p2 x1.length aA),(29,i' (x1.length:Int)),(30,i' h),(60,.bool J)]) (fun ⟨J,Q⟩=>Mem.le U Q∧(Zy d g h x2 J).wp (Out a5 ab)) (fun ⟨J,Q⟩=>St w0 G0 Q [(5,some ⟨W,.cells ((v33' a1_1 a1_1varsp a1_1varsc a1_1eqsp a1_1eqsc a1_1neqsp a1_1neqsc)).toArray 33 (0,0),0⟩),(13,some ⟨b3,.cells ((v68' x2.id aL x2.p aM)).toArray 68 (0,0),0⟩),(4009,f)]) ?_ ?_
       ·skip
        refine w'<|aj' hr z (cI' (f' z) (congrArg Value.bool (bdec _))) z (fun aY hr=>?_) (fun aY hr=>?_)
        ·refine mv z z<|sf z z z<|sf z z z<|yy (m' z z) z<|mv z z<|sf z z z<|sf z z z<|sf z z z<|sf z z z<|yy (m' z z) z<|mv z z<|sf z z z<|sf z z z<|sf z z z<|sf z z z<|sf z z z<|sf z z z<|yy (m' z z) z<|u'<|ap' ⟨true,U⟩ ⟨mr,hr⟩ (fc z (fc z (fc z (fc z (fc z (fc z (fc z (fc z (fc z (fc z (fc z (fc z (fc z fn))))))))))))) (wk (lc z (lc z (lc z ln))))
        ·refine mv z z<|aj' hr (H' z z) (cI' (f' z) (congrArg Value.bool (bdec _))) z (fun aT hr=>?_) (fun aT hr=>?_)
         ·refine gy z z (ao' z) z<|yy (l' z z) z<|mv z z<|gy z z (f' z) z<|gy z z (f' z) z<|gy z z (ak' z z) z<|aj' hr (H' z z) (eb' bH' z z) z (fun aX hr=>?_) (fun aX hr=>?_)
          ·refine yy (l' z z) z<|mv z z<|sf z z z<|sf z z z<|sf z z z<|sf z z z<|sf z z z<|sf z z z<|yy (m' z z) z<|u'<|ap' ⟨true,U⟩ ⟨mr,hr⟩ (fc z (fc z (fc z (fc z (fc z (fc z (fc z (fc z (fc z (fc z (fc z (fc z (fc z fn))))))))))))) (wk (lc z (lc z (lc z ln))))
          ·refine yy (l' z z) z<|mv z z<|gy z z (bs' z) z<|gy z z (b' 14 bQ' z z z) z<|gy z z (bs' z) z<|gy z z (b' 13 bQ' z z z) z ?_
           obtain⟨a6,aI,hr⟩:=hr
           refine F' (H' z z) z (s' E89 z) (ev' aI) z (⟨ai,(am.mono F)⟩)<|gy z z (ao' z) z<|yy (l' z z) z<|u'<|ap' ⟨!a6,U⟩ ⟨mr,hr⟩ (fc z (fc z (fc z (fc z (fc z (fc z (fc z (fc z (fc z (fc z (fc z (fc z (fc z fn))))))))))))) (wk (lc z (lc z (lc z ln))))
         ·refine gy z z (ao' z) z<|yy (l' z z) z<|mv z z<|sf z z z<|sf z z z<|sf z z z<|sf z z z<|yy (m' z z) z<|mv z z<|sf z z z<|sf z z z<|sf z z z<|sf z z z<|sf z z z<|sf z z z<|yy (m' z z) z<|u'<|ap' ⟨true,U⟩ ⟨mr,hr⟩ (fc z (fc z (fc z (fc z (fc z (fc z (fc z (fc z (fc z (fc z (fc z (fc z (fc z fn))))))))))))) (wk (lc z (lc z (lc z ln))))
       ·rintro⟨J,Q⟩ ⟨K,hr⟩
        refine aN' hr z (fun a7 hr=>?_) (fun a7 hr=>?_)
        ·refine w'<|mv z z<|mv z z<|yy (t' 13 bI' z z z) z<|mv z z<|yy (ak' z z) z ?_
         obtain⟨c,aJ,hr⟩:=hr
         refine M' z z (cH' E55 z z) (fY' aJ) z ((am.mono (mt F K))) (fun bd bg ad aj=>?_)
         obtain⟨m,o,rfl,au⟩:=aj
         refine aU' (e:=40) (r:=ag') (vs:=#[(0,.agg ([i' c.kind,.string c.name,i' c.at',i' c.to',i' c.id,.slice m c.p.length o,.bool c.neq]).toArray)]) (cs:=[i' c.kind,.string c.name,i' c.at',i' c.to',i' c.id,.slice m c.p.length o,.bool c.neq]++([])) ([c]:List Zd) z z z z z (by decide) (fun _=>by kernel_rfl) ⟨[i' c.kind,.string c.name,i' c.at',i' c.to',i' c.id,.slice m c.p.length o,.bool c.neq],[],z,⟨[i' c.kind],[.string c.name,i' c.at',i' c.to',i' c.id,.slice m c.p.length o,.bool c.neq],z,z,⟨[.string c.name],[i' c.at',i' c.to',i' c.id,.slice m c.p.length o,.bool c.neq],z,z,⟨[i' c.at'],[i' c.to',i' c.id,.slice m c.p.length o,.bool c.neq],z,z,⟨[i' c.to'],[i' c.id,.slice m c.p.length o,.bool c.neq],z,z,⟨[i' c.id],[.slice m c.p.length o,.bool c.neq],z,z,⟨[.slice m c.p.length o],[.bool c.neq],z,⟨_,z,au⟩,z⟩⟩⟩⟩⟩⟩,z⟩ (key:=999) z (by rw[ak]; rfl) (fun p3 aW ac aZ=>?_)
         obtain⟨aN,hr⟩:=hr
         refine bO' (r:=ag') (e:=40) 4009 z z as' el40 z (by decide) z z (R.mono (mt (mt (mt F K) ad) ac)) z aZ aN fun p4 ba aK a2=>sg z z<|u'<|D'<|e'<|w'<|yy (N' z z) z<|mv z z<|u'<|P' ⟨(g++[c]),p4,ba,aK,IntKind.i64.wrap (h+1),aW⟩ hr ⟨(mt (mt (mt (mt q F) K) ad) ac),a2⟩ (fc z (fc z (fc z (fc z (fc z (fc z (fc z (fc z (fc z (fc z (fc z fn))))))))))) (wk (lc z (lc z ln)))
        ·refine o'<|D'<|e'<|w'<|yy (N' z z) z<|mv z z<|u'<|P' ⟨g,n,l,f,IntKind.i64.wrap (h+1),Q⟩ hr ⟨(mt (mt q F) K),(R.mono (mt F K))⟩ (fc z (fc z (fc z (fc z (fc z (fc z (fc z (fc z (fc z (fc z (fc z fn))))))))))) (wk (lc z (lc z ln)))
      ·refine ad'<|n'<|n'<|J'<|ae' ⟨g,n,l,f,M⟩ ⟨q,R,hr⟩ (fc z (fc z (fc z (fc z (fc z (fc z (fc z fn))))))) (wk (lc z (lc z ln)))
    ·rintro⟨t,D,E,y,P⟩ ⟨aq,aw,hr⟩
     refine D'<|e'<|w'<|yy (N' z z) z<|mv z z<|u'<|P' ⟨t,D,E,y,IntKind.i64.wrap (d+1),P⟩ hr ⟨(mt B aq),aw⟩ (fc z (fc z (fc z (fc z (fc z (fc z (fc z fn))))))) (wk (lc z (lc z ln)))
   ·refine ad'<|n'<|n'<|J'<|ae' ⟨u,s,p,k,C⟩ ⟨B,ae,hr⟩ (fc z fn) (wk (lc z ln))
 ·rintro⟨A,H,I,x,O⟩ ⟨bb,ar,hr⟩
  refine e'<|sr<|mv z z<|sg z z<|nx<|j' ?_
  obtain rfl:_=r:=hr
  refine aA' (S':=St w0 G0 O [(7000,x)]) ?_ ?_
  ·intro w hs
   have hs:=hs.rekey (i:=4009) (j:=7000) z (by rw[ak]; rfl)
   exact hs.weaken (lc z ln)
  exact k' z z ⟨_,_,_,z,z,ar⟩
theorem eo'{a0_1 a1_1 a2_1 a0_1varsp a0_1varsc a0_1eqsp a0_1eqsc a0_1neqsp a0_1neqsc a1_1varsp a1_1varsc a1_1eqsp a1_1eqsc a1_1neqsp a1_1neqsc r}(hr:(Zat a0_1 a1_1 a2_1).Ret r):CtrL Tryz.prog 54 #[.agg ((v33' a0_1 a0_1varsp a0_1varsc a0_1eqsp a0_1eqsc a0_1neqsp a0_1neqsc)).toArray,.agg ((v33' a1_1 a1_1varsp a1_1varsc a1_1eqsp a1_1eqsc a1_1neqsp a1_1neqsc)).toArray,.bool a2_1,.func (.func 56) #[] #[]] [] (fun G=>sl Rp.str G a0_1varsp a0_1varsc a0_1.vars∧sl a' G a0_1eqsp a0_1eqsc a0_1.eqs∧sl a' G a0_1neqsp a0_1neqsc a0_1.neqs∧sl Rp.str G a1_1varsp a1_1varsc a1_1.vars∧sl a' G a1_1eqsp a1_1eqsc a1_1.eqs∧sl a' G a1_1neqsp a1_1neqsc a1_1.neqs) (fun G L v=>∃ zp zc az,L=[(7000,az)]∧v = .slice zp r.length zc∧RowR ag' 40 G (.slice zp r.length zc) r az):=by
 refine aT' (args:=[_,_,_,_]) (N:=72) Tryz.func54 z z z (fun w0 G0 ak aH=>?_)
 obtain⟨aB,Z,X,V,aa,Y⟩:=aH
 refine sr<|W' 4 z z z fun b1=>W' 5 z z z fun W=>sg z z<|nr<|sg z z<|nx<|h'<|sr<|yy (ax' z) z<|yy (b' 4 aS' z z z) z<|yy (aL' z) z<|yy (b' 4 aS' z z z) z<|aU' (e:=31) (r:=(Rp.sl a')) (vs:=#[(0,.slice a0_1eqsp a0_1.eqs.length a0_1eqsc),(1,.slice a0_1neqsp a0_1.neqs.length a0_1neqsc)]) (cs:=[.slice a0_1eqsp a0_1.eqs.length a0_1eqsc]++([.slice a0_1neqsp a0_1.neqs.length a0_1neqsc]++([]))) ([a0_1.eqs,a0_1.neqs]:List (List Za)) z z z z z (by decide) (fun _=>by kernel_rfl) ⟨[.slice a0_1eqsp a0_1.eqs.length a0_1eqsc],[.slice a0_1neqsp a0_1.neqs.length a0_1neqsc]++([]),z,⟨_,z,Z⟩,⟨[.slice a0_1neqsp a0_1.neqs.length a0_1neqsc],[],z,⟨_,z,X⟩,z⟩⟩ (key:=999) z (by rw[ak]; rfl) fun p1 an S ao=>yy (L' bv' ao z) z<|mv z z<|nx<|aa' (fun (⟨A,H,I,x,O⟩:(List Zd)×Option Addr×Nat×Option Ow×Mem)=>[(9,.slice H A.length I)]) (fun ⟨A,H,I,x,O⟩=>Mem.le an O∧RowR ag' 40 O (.slice H A.length I) A x∧(Zag A).Ret r) (fun ⟨A,H,I,x,O⟩=>St w0 G0 O [(4009,x)]) ?_ ?_
 ·refine B' ?_
  let T:(List Zd)→Prop:=fun oo=>((fun ov=>match ov with|A=>Zag A:(List Zd)→Comp (List Zd)) oo).wp (fun a=>a=r)
  replace hr:(Comp.loop _ _).wp T:=hr
  refine ab' (Φ:=T) (fun (⟨u,s,p,k,d,C⟩:(List Zd)×Option Addr×Nat×Option Ow×Int×Mem)=>((u,d):(List Zd)×Int)) (fun ⟨u,s,p,k,d,C⟩=>[(2,.bool a2_1),(3,.func (.func 56) #[] #[]),(5,.pointer (some ⟨W,0,none⟩)),(9,.slice s u.length p),(21,.slice p1 2 2),(22,i' ([a0_1.eqs,a0_1.neqs].length:Int)),(23,i' d)]) (fun ⟨u,s,p,k,d,C⟩=>Mem.le an C∧RowR ag' 40 C (.slice s u.length p) u k) (fun ⟨u,s,p,k,d,C⟩=>St w0 G0 C [(5,some ⟨W,.cells ((v33' a1_1 a1_1varsp a1_1varsc a1_1eqsp a1_1eqsc a1_1neqsp a1_1neqsc)).toArray 33 (0,0),0⟩),(4009,k)]) ⟨[],none,0,none,0,an⟩ hr (fc z (fc z (fc z (fc z (fc z (fc z (fc z fn))))))) ⟨mr,ea'⟩ (wk (lc z (lw ln))) ?_
  ·intro ay gx hx hr
   obtain⟨u,s,p,k,d,C⟩:=gx
   obtain⟨B,ae⟩:=hx
   refine sr<|yy (V' z z) z<|nx<|h'<|I' hr z (fun a9 hr=>?_) (fun a9 hr=>?_)
   ·refine o'<|e'<|h'<|B'<|sr<|mv z z ?_
    obtain⟨x1,aC,hr⟩:=hr
    refine yy (Q' bv' cr' (ao.mono B) z z aC) z ?_
    obtain⟨p2,aA,aU,al⟩:=ca' (E' (Z' ao aC) B)
    refine yy (U' aS' z (aU)) z<|sg z z<|sg z z<|nr<|mv z z<|yy (L' q' al z) z<|mv z z<|nx<|aa' (fun (⟨t,D,E,y,P⟩:(List Zd)×Option Addr×Nat×Option Ow×Mem)=>[(2,.bool a2_1),(3,.func (.func 56) #[] #[]),(5,.pointer (some ⟨W,0,none⟩)),(9,.slice D t.length E),(21,.slice p1 2 2),(22,i' ([a0_1.eqs,a0_1.neqs].length:Int)),(23,i' d)]) (fun ⟨t,D,E,y,P⟩=>Mem.le C P∧RowR ag' 40 P (.slice D t.length E) t y∧(Zah d t).wp (Out ay T)) (fun ⟨t,D,E,y,P⟩=>St w0 G0 P [(5,some ⟨W,.cells ((v33' a1_1 a1_1varsp a1_1varsc a1_1eqsp a1_1eqsc a1_1neqsp a1_1neqsc)).toArray 33 (0,0),0⟩),(4009,y)]) ?_ ?_
    ·refine B' ?_
     let ab:(List Zd)→Prop:=fun oo=>((fun ov=>match ov with|t=>Zah d t:(List Zd)→Comp (((List Zd)×Int)⊕(List Zd))) oo).wp (Out ay T)
     replace hr:(Comp.loop _ _).wp ab:=hr
     refine ab' (Φ:=ab) (fun (⟨g,n,l,f,h,M⟩:(List Zd)×Option Addr×Nat×Option Ow×Int×Mem)=>((g,h):(List Zd)×Int)) (fun ⟨g,n,l,f,h,M⟩=>[(2,.bool a2_1),(3,.func (.func 56) #[] #[]),(5,.pointer (some ⟨W,0,none⟩)),(9,.slice n g.length l),(10,i' d),(21,.slice p1 2 2),(22,i' ([a0_1.eqs,a0_1.neqs].length:Int)),(23,i' d),(28,.slice p2 x1.length aA),(29,i' (x1.length:Int)),(30,i' h)]) (fun ⟨g,n,l,f,h,M⟩=>Mem.le C M∧RowR ag' 40 M (.slice n g.length l) g f) (fun ⟨g,n,l,f,h,M⟩=>St w0 G0 M [(5,some ⟨W,.cells ((v33' a1_1 a1_1varsp a1_1varsc a1_1eqsp a1_1eqsc a1_1neqsp a1_1neqsc)).toArray 33 (0,0),0⟩),(4009,f)]) ⟨u,s,p,k,0,C⟩ hr (fc z (fc z (fc z (fc z (fc z (fc z (fc z (fc z (fc z (fc z (fc z fn))))))))))) ⟨mr,ae⟩ (wk (lc z (lc z ln))) ?_
     ·intro a5 gx hx hr
      obtain⟨g,n,l,f,h,M⟩:=gx
      obtain⟨q,R⟩:=hx
      refine sr<|yy (V' z z) z<|nx<|h'<|I' hr z (fun a0 hr=>?_) (fun a0 hr=>?_)
      ·refine o'<|e'<|h'<|B'<|sr ?_
       obtain⟨x2,ax,hr⟩:=hr
       refine yy (Q' q' aP' (al.mono q) z z ax) z ?_
       obtain⟨aL,aM,aV,am⟩:=ba' (E' (Z' al ax) q)
       refine yy (aw' _ bI' z z aV) z<|T' 13 z z68 z fun b3=>v' 13 z aP' z z z z z (List.all_eq_true.1 z)<|nr<|yy (t' 5 ai' z z z) z<|yy (bb' z) z<|yy (b' 13 sc3 z z z) z ?_
       obtain⟨bf,aQ,hr⟩:=hr
       refine M' z z (s' E42 z) (cX' aQ) z (⟨(V.mono (mt (mt S B) q)),(aa.mono (mt (mt S B) q)),(Y.mono (mt (mt S B) q))⟩) (fun be U F ag=>?_)
       obtain⟨aR,aS,rfl,ai⟩:=ag
       refine mv z z<|yy (K' z z) z<|yy (K' z z) z<|yy (K' z z) z<|T' 14 z z68 z fun b4=>v' 14 z aP' z z z z z (List.all_eq_true.1 z)<|sg z z<|sg z z<|nx<|aV' (fun (⟨J,Q⟩:Bool×Mem)=>[(2,.bool a2_1),(3,.func (.func 56) #[] #[]),(5,.pointer (some ⟨W,0,none⟩)),(9,.slice n g.length l),(10,i' d),(13,.pointer (some ⟨b3,0,none⟩)),(21,.slice p1 2 2),(22,i' ([a0_1.eqs,a0_1.neqs].length:Int)),(23,i' d),(28,.slice p2 x1.length aA),(29,i' (x1.length:Int)),(30,i' h),(60,.bool J)]) (fun ⟨J,Q⟩=>Mem.le U Q∧(Zz d g h x2 J).wp (Out a5 ab)) (fun ⟨J,Q⟩=>St w0 G0 Q [(5,some ⟨W,.cells ((v33' a1_1 a1_1varsp a1_1varsc a1_1eqsp a1_1eqsc a1_1neqsp a1_1neqsc)).toArray 33 (0,0),0⟩),(13,some ⟨b3,.cells ((v68' x2.id aL x2.p aM)).toArray 68 (0,0),0⟩),(4009,f)]) ?_ ?_
       ·skip
        refine w'<|aj' hr z (cI' (f' z) (congrArg Value.bool (bdec _))) z (fun aY hr=>?_) (fun aY hr=>?_)
        ·refine mv z z<|sf z z z<|sf z z z<|yy (m' z z) z<|mv z z<|sf z z z<|sf z z z<|sf z z z<|sf z z z<|yy (m' z z) z<|mv z z<|sf z z z<|sf z z z<|sf z z z<|sf z z z<|sf z z z<|sf z z z<|yy (m' z z) z<|u'<|ap' ⟨true,U⟩ ⟨mr,hr⟩ (fc z (fc z (fc z (fc z (fc z (fc z (fc z (fc z (fc z (fc z (fc z (fc z (fc z fn))))))))))))) (wk (lc z (lc z (lc z ln))))
        ·refine mv z z<|aj' hr (H' z z) (cI' (f' z) (congrArg Value.bool (bdec _))) z (fun aT hr=>?_) (fun aT hr=>?_)
         ·refine gy z z (ao' z) z<|yy (l' z z) z<|mv z z<|gy z z (f' z) z<|gy z z (f' z) z<|gy z z (ak' z z) z<|aj' hr (H' z z) (eb' bH' z z) z (fun aX hr=>?_) (fun aX hr=>?_)
          ·refine yy (l' z z) z<|mv z z<|sf z z z<|sf z z z<|sf z z z<|sf z z z<|sf z z z<|sf z z z<|yy (m' z z) z<|u'<|ap' ⟨true,U⟩ ⟨mr,hr⟩ (fc z (fc z (fc z (fc z (fc z (fc z (fc z (fc z (fc z (fc z (fc z (fc z (fc z fn))))))))))))) (wk (lc z (lc z (lc z ln))))
          ·refine yy (l' z z) z<|mv z z<|gy z z (bs' z) z<|gy z z (b' 14 bQ' z z z) z<|gy z z (bs' z) z<|gy z z (b' 13 bQ' z z z) z ?_
           obtain⟨a6,aI,hr⟩:=hr
           refine F' (H' z z) z (s' E89 z) (ev' aI) z (⟨ai,(am.mono F)⟩)<|gy z z (ao' z) z<|yy (l' z z) z<|u'<|ap' ⟨!a6,U⟩ ⟨mr,hr⟩ (fc z (fc z (fc z (fc z (fc z (fc z (fc z (fc z (fc z (fc z (fc z (fc z (fc z fn))))))))))))) (wk (lc z (lc z (lc z ln))))
         ·refine gy z z (ao' z) z<|yy (l' z z) z<|mv z z<|sf z z z<|sf z z z<|sf z z z<|sf z z z<|yy (m' z z) z<|mv z z<|sf z z z<|sf z z z<|sf z z z<|sf z z z<|sf z z z<|sf z z z<|yy (m' z z) z<|u'<|ap' ⟨true,U⟩ ⟨mr,hr⟩ (fc z (fc z (fc z (fc z (fc z (fc z (fc z (fc z (fc z (fc z (fc z (fc z (fc z fn))))))))))))) (wk (lc z (lc z (lc z ln))))
       ·rintro⟨J,Q⟩ ⟨K,hr⟩
        refine aN' hr z (fun a7 hr=>?_) (fun a7 hr=>?_)
        ·refine w'<|mv z z<|mv z z<|yy (t' 13 bI' z z z) z<|mv z z<|yy (ak' z z) z ?_
         obtain⟨c,aJ,hr⟩:=hr
         refine M' z z (cH' E56 z z) (fZ' aJ) z ((am.mono (mt F K))) (fun bd bg ad aj=>?_)
         obtain⟨m,o,rfl,au⟩:=aj
         refine aU' (e:=40) (r:=ag') (vs:=#[(0,.agg ([i' c.kind,.string c.name,i' c.at',i' c.to',i' c.id,.slice m c.p.length o,.bool c.neq]).toArray)]) (cs:=[i' c.kind,.string c.name,i' c.at',i' c.to',i' c.id,.slice m c.p.length o,.bool c.neq]++([])) ([c]:List Zd) z z z z z (by decide) (fun _=>by kernel_rfl) ⟨[i' c.kind,.string c.name,i' c.at',i' c.to',i' c.id,.slice m c.p.length o,.bool c.neq],[],z,⟨[i' c.kind],[.string c.name,i' c.at',i' c.to',i' c.id,.slice m c.p.length o,.bool c.neq],z,z,⟨[.string c.name],[i' c.at',i' c.to',i' c.id,.slice m c.p.length o,.bool c.neq],z,z,⟨[i' c.at'],[i' c.to',i' c.id,.slice m c.p.length o,.bool c.neq],z,z,⟨[i' c.to'],[i' c.id,.slice m c.p.length o,.bool c.neq],z,z,⟨[i' c.id],[.slice m c.p.length o,.bool c.neq],z,z,⟨[.slice m c.p.length o],[.bool c.neq],z,⟨_,z,au⟩,z⟩⟩⟩⟩⟩⟩,z⟩ (key:=999) z (by rw[ak]; rfl) (fun p3 aW ac aZ=>?_)
         obtain⟨aN,hr⟩:=hr
         refine bO' (r:=ag') (e:=40) 4009 z z as' el40 z (by decide) z z (R.mono (mt (mt (mt F K) ad) ac)) z aZ aN fun p4 ba aK a2=>sg z z<|u'<|D'<|e'<|w'<|yy (N' z z) z<|mv z z<|u'<|P' ⟨(g++[c]),p4,ba,aK,IntKind.i64.wrap (h+1),aW⟩ hr ⟨(mt (mt (mt (mt q F) K) ad) ac),a2⟩ (fc z (fc z (fc z (fc z (fc z (fc z (fc z (fc z (fc z (fc z (fc z fn))))))))))) (wk (lc z (lc z ln)))
        ·refine o'<|D'<|e'<|w'<|yy (N' z z) z<|mv z z<|u'<|P' ⟨g,n,l,f,IntKind.i64.wrap (h+1),Q⟩ hr ⟨(mt (mt q F) K),(R.mono (mt F K))⟩ (fc z (fc z (fc z (fc z (fc z (fc z (fc z (fc z (fc z (fc z (fc z fn))))))))))) (wk (lc z (lc z ln)))
      ·refine ad'<|n'<|n'<|J'<|ae' ⟨g,n,l,f,M⟩ ⟨q,R,hr⟩ (fc z (fc z (fc z (fc z (fc z (fc z (fc z fn))))))) (wk (lc z (lc z ln)))
    ·rintro⟨t,D,E,y,P⟩ ⟨aq,aw,hr⟩
     refine D'<|e'<|w'<|yy (N' z z) z<|mv z z<|u'<|P' ⟨t,D,E,y,IntKind.i64.wrap (d+1),P⟩ hr ⟨(mt B aq),aw⟩ (fc z (fc z (fc z (fc z (fc z (fc z (fc z fn))))))) (wk (lc z (lc z ln)))
   ·refine ad'<|n'<|n'<|J'<|ae' ⟨u,s,p,k,C⟩ ⟨B,ae,hr⟩ (fc z fn) (wk (lc z ln))
 ·rintro⟨A,H,I,x,O⟩ ⟨bb,ar,hr⟩
  refine e'<|sr<|mv z z<|sg z z<|nx<|j' ?_
  obtain rfl:_=r:=hr
  refine aA' (S':=St w0 G0 O [(7000,x)]) ?_ ?_
  ·intro w hs
   have hs:=hs.rekey (i:=4009) (j:=7000) z (by rw[ak]; rfl)
   exact hs.weaken (lc z ln)
  exact k' z z ⟨_,_,_,z,z,ar⟩
theorem dI'{a1 b1 a1varsp a1varsc a1eqsp a1eqsc a1neqsp a1neqsc b1varsp b1varsc b1eqsp b1eqsc b1neqsp b1neqsc r}(hr:(Zav a1 b1).Ret r):Ctr Tryz.prog 29 #[.agg ((v33' a1 a1varsp a1varsc a1eqsp a1eqsc a1neqsp a1neqsc)).toArray,.agg ((v33' b1 b1varsp b1varsc b1eqsp b1eqsc b1neqsp b1neqsc)).toArray] (fun G=>sl Rp.str G a1varsp a1varsc a1.vars∧sl a' G a1eqsp a1eqsc a1.eqs∧sl a' G a1neqsp a1neqsc a1.neqs∧sl Rp.str G b1varsp b1varsc b1.vars∧sl a' G b1eqsp b1eqsc b1.eqs∧sl a' G b1neqsp b1neqsc b1.neqs) (fun G v=>∃ au av,v = .tuple #[.slice au r.1.length av,i' r.2]∧sl ag' G au av r.1):=by
 refine C' (args:=[_,_]) (N:=64) Tryz.func29 z z z (fun w0 G0 k aP=>?_)
 obtain⟨h,M,t,f,I,u⟩:=aP
 have hz:w0.L.zero:=by rw[k]; intro p hp; simp at hp
 refine sr<|W' 2 z z z fun C=>W' 3 z z z fun D=>sg z z<|sg z z<|nx<|aV' (fun (gx:Mem)=>match gx with|af=>[(2,.pointer (some ⟨C,0,none⟩)),(3,.pointer (some ⟨D,0,none⟩))]) (fun (gx:Mem)=>match gx with|af=>Mem.le G0 af∧(Zgd a1 b1).Ret r) (fun (gx:Mem)=>match gx with|af=>St w0 G0 af [(2,some ⟨C,.cells ((v33' a1 a1varsp a1varsc a1eqsp a1eqsc a1neqsp a1neqsc)).toArray 33 (0,0),0⟩),(3,some ⟨D,.cells ((v33' b1 b1varsp b1varsc b1eqsp b1eqsc b1neqsp b1neqsc)).toArray 33 (0,0),0⟩)]) ?_ ?_
 ·skip
  refine sr<|yy (t' 2 ai' z z z) z ?_
  obtain⟨a6,aG,hr⟩:=hr
  refine F' z z (s' E52 z) (ed' aG) z (⟨h,M,t⟩) ?_
  cases a6
  ·skip
   refine yy (ao' z) z<|mv z z<|sf z z z<|sf z z z<|sf z z z<|yy (m' z z) z<|nx<|at' z<|sr<|sg z z<|sg z z<|nx<|j' ?_
   replace hr:_=r:=hr
   refine g' ?_
   subst hr
   refine dB' (r:=ag') (e:=40) 4004 (ea' (r:=ag') (e:=40)) z (by rw[k]; rfl) fun bL bH bl aU bi=>aE' z z z ⟨_,_,z,aU⟩
  ·skip
   refine yy (ao' z) z<|mv z z<|gy z z (t' 3 ai' z z z) z ?_
   obtain⟨bA,aN,hr⟩:=hr
   refine F' (H' z z) z (s' E52 z) (ed' aN) z (⟨f,I,u⟩)<|gy z z (ao' z) z<|yy (l' z z) z<|nx<|aN' hr z (fun be hr=>?_) (fun be hr=>?_)
   ·refine sr<|sg z z<|sg z z<|nx<|j' ?_
    replace hr:_=r:=hr
    refine g' ?_
    subst hr
    refine dB' (r:=ag') (e:=40) 4004 (ea' (r:=ag') (e:=40)) z (by rw[k]; rfl) fun bI bt a0 aR bj=>aE' z z z ⟨_,_,z,aR⟩
   ·refine o'<|ap' G0 ⟨mr,hr⟩ (fc z (fc z fn)) (wk (lc z (lc z ln)))
 ·rintro af ⟨c,hr⟩
  refine sr<|yy (ar' z) z<|yy (b' 2 bn' z z z) z<|yy (ar' z) z<|yy (b' 3 bn' z z z) z ?_
  obtain⟨n,aX,hr⟩:=hr
  refine F' z z (s' E53 z) (ef' aX) z (⟨(h.mono c),(f.mono c)⟩)<|yy (ao' z) z<|sg z z<|nr<|yy (t' 2 ai' z z z) z<|yy (t' 3 ai' z z z) z<|mv z z ?_
  obtain⟨aD,aS,hr⟩:=hr
  refine cc' z z (s' E54 z) (en' aS) z (⟨(h.mono c),(M.mono c),(t.mono c),(f.mono c),(I.mono c),(u.mono c)⟩) ln hz (fun bv ad bz g ao=>?_)
  obtain⟨aw,ap,al,rfl,rfl,aq⟩:=ao
  refine bt' (fun w H=>H.rekey (i:=7000) (j:=4028) z (by rw[k]; rfl))<|sg z z<|nx<|aV' (fun (⟨l1,ae,ac,J,Z⟩:(List Zd)×Option Addr×Nat×Option Ow×Mem)=>[(2,.pointer (some ⟨C,0,none⟩)),(3,.pointer (some ⟨D,0,none⟩)),(6,.bool (!n)),(7,.slice ae l1.length ac)]) (fun ⟨l1,ae,ac,J,Z⟩=>Mem.le ad Z∧RowR ag' 40 Z (.slice ae l1.length ac) l1 J∧(ZdY a1 b1 n l1).Ret r) (fun ⟨l1,ae,ac,J,Z⟩=>St w0 G0 Z [(2,some ⟨C,.cells ((v33' a1 a1varsp a1varsc a1eqsp a1eqsc a1neqsp a1neqsc)).toArray 33 (0,0),0⟩),(3,some ⟨D,.cells ((v33' b1 b1varsp b1varsc b1eqsp b1eqsc b1neqsp b1neqsc)).toArray 33 (0,0),0⟩),(4007,J)]) ?_ ?_
  ·skip
   refine sr<|mv z z<|nx<|aN' hr z (fun bf hr=>?_) (fun bf hr=>?_)
   ·refine h'<|sr<|yy (ar' z) z<|yy (b' 2 bn' z z z) z<|yy (L' A' (h.mono (mt c g)) z) z<|yy (bd' z z) z<|sg z z<|nx<|aa' (fun (⟨U,X,Y,y,s⟩:(List Zd)×Option Addr×Nat×Option Ow×Mem)=>[(2,.pointer (some ⟨C,0,none⟩)),(3,.pointer (some ⟨D,0,none⟩)),(6,.bool (!n)),(7,.slice X U.length Y)]) (fun ⟨U,X,Y,y,s⟩=>Mem.le ad s∧RowR ag' 40 s (.slice X U.length Y) U y∧(Zd0 a1 b1 n U).Ret r) (fun ⟨U,X,Y,y,s⟩=>St w0 G0 s [(2,some ⟨C,.cells ((v33' a1 a1varsp a1varsc a1eqsp a1eqsc a1neqsp a1neqsc)).toArray 33 (0,0),0⟩),(3,some ⟨D,.cells ((v33' b1 b1varsp b1varsc b1eqsp b1eqsc b1neqsp b1neqsc)).toArray 33 (0,0),0⟩),(4007,y)]) ?_ ?_
    ·refine B' ?_
     let ax:(List Zd)→Prop:=fun oo=>((fun ov=>match ov with|U=>Zd0 a1 b1 n U:(List Zd)→Comp ((List Zd)×Int)) oo).wp (fun a=>a=r)
     replace hr:(Comp.loop _ _).wp ax:=hr
     refine ab' (Φ:=ax) (fun (⟨R,O,P,q,l,B⟩:(List Zd)×Option Addr×Nat×Option Ow×Int×Mem)=>((R,l):(List Zd)×Int)) (fun ⟨R,O,P,q,l,B⟩=>[(2,.pointer (some ⟨C,0,none⟩)),(3,.pointer (some ⟨D,0,none⟩)),(6,.bool (!n)),(7,.slice O R.length P),(8,i' l)]) (fun ⟨R,O,P,q,l,B⟩=>Mem.le ad B∧RowR ag' 40 B (.slice O R.length P) R q) (fun ⟨R,O,P,q,l,B⟩=>St w0 G0 B [(2,some ⟨C,.cells ((v33' a1 a1varsp a1varsc a1eqsp a1eqsc a1neqsp a1neqsc)).toArray 33 (0,0),0⟩),(3,some ⟨D,.cells ((v33' b1 b1varsp b1varsc b1eqsp b1eqsc b1neqsp b1neqsc)).toArray 33 (0,0),0⟩),(4007,q)]) ⟨aD,aw,ap,al,IntKind.i64.wrap ((a1.vars.length:Int)-1),ad⟩ hr (fc z (fc z (fc z (fc z (fc z fn))))) ⟨mr,aq⟩ ?_ ?_
     ·intro w H
      have H:=H.rekey (i:=4028) (j:=4007) z (by rw[k]; rfl)
      exact H.weaken (lc z (lc z (lc z ln)))
     ·intro bE gx hx hr
      obtain⟨R,O,P,q,l,B⟩:=gx
      obtain⟨am,aB⟩:=hx
      refine h'<|sr<|mv z z<|yy (bc' z z) z<|nx<|I' hr z (fun bc hr=>?_) (fun bc hr=>?_)
      ·refine o'<|e'<|h'<|B'<|w'<|mv z z<|mv z z<|yy (aq' (vs:=#[(0,i' 2),(2,i' l)]) (v:=.agg ([i' 2,.string ByteArray.empty,i' l,i' 0,i' 0,.slice none 0 0,.bool false]).toArray) z z (fun _=>by kernel_rfl)) z<|aU' (e:=40) (r:=ag') (vs:=#[(0,.agg ([i' 2,.string ByteArray.empty,i' l,i' 0,i' 0,.slice none 0 0,.bool false]).toArray)]) (cs:=[i' 2,.string ByteArray.empty,i' l,i' 0,i' 0,.slice none 0 0,.bool false]++([])) ([(Zd.mk 2 ByteArray.empty l 0 0 [] false)]:List Zd) z z z z z (by decide) (fun _=>by kernel_rfl) ⟨[i' 2,.string ByteArray.empty,i' l,i' 0,i' 0,.slice none 0 0,.bool false],[],z,⟨[i' 2],[.string ByteArray.empty,i' l,i' 0,i' 0,.slice none 0 0,.bool false],z,z,⟨[.string ByteArray.empty],[i' l,i' 0,i' 0,.slice none 0 0,.bool false],z,z,⟨[i' l],[i' 0,i' 0,.slice none 0 0,.bool false],z,z,⟨[i' 0],[i' 0,.slice none 0 0,.bool false],z,z,⟨[i' 0],[.slice none 0 0,.bool false],z,z,⟨[.slice none 0 0],[.bool false],z,⟨_,z,(ah' _ _)⟩,z⟩⟩⟩⟩⟩⟩,z⟩ (key:=999) z (by rw[k]; rfl) (fun p4 bb ak a7=>?_)
       obtain⟨aM,hr⟩:=hr
       refine bO' (r:=ag') (e:=40) 4007 z z as' el40 z (by decide) z z (aB.mono ak) z a7 aM fun p5 a2 aH aY=>sg z z<|u'<|D'<|e'<|w'<|mv z z<|yy (bd' z z) z<|sg z z<|u'<|P' ⟨(R++[(Zd.mk 2 ByteArray.empty l 0 0 [] false)]),p5,a2,aH,IntKind.i64.wrap (l-1),bb⟩ hr ⟨(mt am ak),aY⟩ (fc z (fc z (fc z (fc z (fc z fn))))) (wk (lc z (lc z (lc z ln))))
      ·refine ad'<|n'<|n'<|J'<|ae' ⟨R,O,P,q,B⟩ ⟨am,aB,hr⟩ (fc z (fc z (fc z (fc z fn)))) (wk (lc z (lc z (lc z ln))))
    ·rintro⟨U,X,Y,y,s⟩ ⟨E,a3,hr⟩
     refine e'<|sr<|yy (ar' z) z<|yy (b' 3 bn' z z z) z<|yy (L' A' (f.mono (mt (mt c g) E)) z) z<|mv z z<|nx<|aa' (fun (⟨S,W,V,x,Q⟩:(List Zd)×Option Addr×Nat×Option Ow×Mem)=>[(2,.pointer (some ⟨C,0,none⟩)),(3,.pointer (some ⟨D,0,none⟩)),(6,.bool (!n)),(7,.slice W S.length V)]) (fun ⟨S,W,V,x,Q⟩=>Mem.le s Q∧RowR ag' 40 Q (.slice W S.length V) S x∧(ZdZ a1 b1 n S).Ret r) (fun ⟨S,W,V,x,Q⟩=>St w0 G0 Q [(2,some ⟨C,.cells ((v33' a1 a1varsp a1varsc a1eqsp a1eqsc a1neqsp a1neqsc)).toArray 33 (0,0),0⟩),(3,some ⟨D,.cells ((v33' b1 b1varsp b1varsc b1eqsp b1eqsc b1neqsp b1neqsc)).toArray 33 (0,0),0⟩),(4007,x)]) ?_ ?_
     ·refine B' ?_
      let ar:(List Zd)→Prop:=fun oo=>((fun ov=>match ov with|S=>ZdZ a1 b1 n S:(List Zd)→Comp ((List Zd)×Int)) oo).wp (fun a=>a=r)
      replace hr:(Comp.loop _ _).wp ar:=hr
      refine ab' (Φ:=ar) (fun (⟨T,L,K,o,d,A⟩:(List Zd)×Option Addr×Nat×Option Ow×Int×Mem)=>((T,d):(List Zd)×Int)) (fun ⟨T,L,K,o,d,A⟩=>[(2,.pointer (some ⟨C,0,none⟩)),(3,.pointer (some ⟨D,0,none⟩)),(6,.bool (!n)),(7,.slice L T.length K),(44,.slice b1varsp b1.vars.length b1varsc),(45,i' (b1.vars.length:Int)),(46,i' d)]) (fun ⟨T,L,K,o,d,A⟩=>Mem.le s A∧RowR ag' 40 A (.slice L T.length K) T o) (fun ⟨T,L,K,o,d,A⟩=>St w0 G0 A [(2,some ⟨C,.cells ((v33' a1 a1varsp a1varsc a1eqsp a1eqsc a1neqsp a1neqsc)).toArray 33 (0,0),0⟩),(3,some ⟨D,.cells ((v33' b1 b1varsp b1varsc b1eqsp b1eqsc b1neqsp b1neqsc)).toArray 33 (0,0),0⟩),(4007,o)]) ⟨U,X,Y,y,0,s⟩ hr (fc z (fc z (fc z (fc z (fc z (fc z (fc z fn))))))) ⟨mr,a3⟩ (wk (lc z (lc z (lc z ln)))) ?_
      ·intro bJ gx hx hr
       obtain⟨T,L,K,o,d,A⟩:=gx
       obtain⟨F,aC⟩:=hx
       refine sr<|yy (V' z z) z<|nx<|h'<|I' hr z (fun a5 hr=>?_) (fun a5 hr=>?_)
       ·refine o'<|e'<|h'<|B'<|sr<|mv z z ?_
        obtain⟨x1,aE,hr⟩:=hr
        refine yy (Q' A' sz9 (f.mono (mt (mt (mt c g) E) F)) z z aE) z<|yy (U' sc9 z (bF' (E' (Z' f aE) (mt (mt (mt c g) E) F)))) z<|sg z z<|sg z z<|nx<|w'<|mv z z<|mv z z<|mv z z<|yy (aq' (vs:=#[(0,i' 1),(2,i' d),(1,.string x1)]) (v:=.agg ([i' 1,.string x1,i' d,i' 0,i' 0,.slice none 0 0,.bool false]).toArray) z z (fun _=>by kernel_rfl)) z<|aU' (e:=40) (r:=ag') (vs:=#[(0,.agg ([i' 1,.string x1,i' d,i' 0,i' 0,.slice none 0 0,.bool false]).toArray)]) (cs:=[i' 1,.string x1,i' d,i' 0,i' 0,.slice none 0 0,.bool false]++([])) ([(Zd.mk 1 x1 d 0 0 [] false)]:List Zd) z z z z z (by decide) (fun _=>by kernel_rfl) ⟨[i' 1,.string x1,i' d,i' 0,i' 0,.slice none 0 0,.bool false],[],z,⟨[i' 1],[.string x1,i' d,i' 0,i' 0,.slice none 0 0,.bool false],z,z,⟨[.string x1],[i' d,i' 0,i' 0,.slice none 0 0,.bool false],z,z,⟨[i' d],[i' 0,i' 0,.slice none 0 0,.bool false],z,z,⟨[i' 0],[i' 0,.slice none 0 0,.bool false],z,z,⟨[i' 0],[.slice none 0 0,.bool false],z,z,⟨[.slice none 0 0],[.bool false],z,⟨_,z,(ah' _ _)⟩,z⟩⟩⟩⟩⟩⟩,z⟩ (key:=999) z (by rw[k]; rfl) (fun p2 bd aj ba=>?_)
        obtain⟨aK,hr⟩:=hr
        refine bO' (r:=ag') (e:=40) 4007 z z as' el40 z (by decide) z z (aC.mono aj) z ba aK fun p3 aZ aL a4=>sg z z<|u'<|D'<|e'<|w'<|yy (N' z z) z<|mv z z<|u'<|P' ⟨(T++[(Zd.mk 1 x1 d 0 0 [] false)]),p3,aZ,aL,IntKind.i64.wrap (d+1),bd⟩ hr ⟨(mt F aj),a4⟩ (fc z (fc z (fc z (fc z (fc z (fc z (fc z fn))))))) (wk (lc z (lc z (lc z ln))))
       ·refine ad'<|n'<|n'<|J'<|ae' ⟨T,L,K,o,A⟩ ⟨F,aC,hr⟩ (fc z (fc z (fc z (fc z fn)))) (wk (lc z (lc z (lc z ln))))
     ·rintro⟨S,W,V,x,Q⟩ ⟨aA,a8,hr⟩
      exact ap' ⟨S,W,V,x,Q⟩ ⟨(mt E aA),a8,hr⟩ (fc z (fc z (fc z (fc z fn)))) (wk (lc z (lc z (lc z ln))))
   ·refine o'<|ap' ⟨aD,aw,ap,al,ad⟩ ⟨mr,aq,hr⟩ (fc z (fc z (fc z (fc z fn)))) ?_
    ·intro w H
     have H:=H.rekey (i:=4028) (j:=4007) z (by rw[k]; rfl)
     exact H.weaken (lc z (lc z (lc z ln)))
  ·rintro⟨l1,ae,ac,J,Z⟩ ⟨m,a9,hr⟩
   refine sr<|mv z z<|yy (t' 3 ai' z z z) z<|yy (t' 2 ai' z z z) z<|mv z z ?_
   obtain⟨bK,aQ,hr⟩:=hr
   refine cc' z z (s' E54 z) (eo' aQ) z (⟨(f.mono (mt (mt c g) m)),(I.mono (mt (mt c g) m)),(u.mono (mt (mt c g) m)),(h.mono (mt (mt c g) m)),(M.mono (mt (mt c g) m)),(t.mono (mt (mt c g) m))⟩) ln hz (fun bp bC bu az an=>?_)
   obtain⟨bs,bw,bh,rfl,rfl,aJ⟩:=an
   refine bt' (fun w H=>H.rekey (i:=7000) (j:=4062) z (by rw[k]; rfl))<|bu' (r:=ag') (e:=40) 4062 aJ z (by rw[k]; rfl) (fun bD bB ay aT bm=>?_)
   obtain⟨aV,hr⟩:=hr
   refine bO' (r:=ag') (e:=40) 4007 z z as' el40 z (by decide) z z (a9.mono (mt az ay)) z aT aV fun p1 bF bq bg=>sg z z<|sg z z<|nx<|j' ?_
   obtain rfl:_=r:=hr
   refine dB' (r:=ag') (e:=40) 4007 bg z (by rw[k]; rfl) fun bM bG bk aF bn=>aE' z z z ⟨_,_,z,aF⟩
theorem eL'{a1 b1 a1pp a1pc b1pp b1pc r}(hr:(Zcm a1 b1).Ret r):Ctr Tryz.prog 19 #[.agg ([i' a1.kind,.string a1.name,i' a1.at',i' a1.to',i' a1.id,.slice a1pp a1.p.length a1pc,.bool a1.neq]).toArray,.agg ([i' b1.kind,.string b1.name,i' b1.at',i' b1.to',i' b1.id,.slice b1pp b1.p.length b1pc,.bool b1.neq]).toArray] (fun G=>sl r' G a1pp a1pc a1.p∧sl r' G b1pp b1pc b1.p) (fun G v=>v = .bool r):=by
 refine C' (args:=[_,_]) (N:=52) Tryz.func19 z z z (fun p q n c=>?_)
 obtain⟨e,d⟩:=c
 refine sr<|W' 2 z z z fun s=>W' 3 z z z fun o=>sg z z<|nr<|yy (bN' z) z<|yy (b' 2 sc3 z z z) z<|yy (bN' z) z<|yy (b' 3 sc3 z z z) z<|aj' hr z (ak' z z) z (fun i hr=>?_) (fun i hr=>?_)
 ·refine mv z z<|gy z z (bM' z) z<|gy z z (b' 2 sc9 z z z) z<|gy z z (bM' z) z<|gy z z (b' 3 sc9 z z z) z<|aj' hr (H' z z) (Y0.eqlS aQ' z z) z (fun h hr=>?_) (fun h hr=>?_)
  ·refine yy (m' z z) z<|mv z z<|gy z z (ay' z) z<|gy z z (b' 2 sc3 z z z) z<|gy z z (ay' z) z<|gy z z (b' 3 sc3 z z z) z<|aj' hr (H' z z) (ak' z z) z (fun j hr=>?_) (fun j hr=>?_)
   ·refine yy (m' z z) z<|mv z z<|gy z z (cp' z) z<|gy z z (b' 2 sc3 z z z) z<|gy z z (cp' z) z<|gy z z (b' 3 sc3 z z z) z<|aj' hr (H' z z) (ak' z z) z (fun g hr=>?_) (fun g hr=>?_)
    ·refine yy (m' z z) z<|mv z z<|gy z z (aJ' z) z<|gy z z (b' 2 sc3 z z z) z<|gy z z (aJ' z) z<|gy z z (b' 3 sc3 z z z) z<|aj' hr (H' z z) (ak' z z) z (fun l hr=>?_) (fun l hr=>?_)
     ·refine yy (m' z z) z<|mv z z<|gy z z (cY' z) z<|gy z z (b' 2 sc4 z z z) z<|gy z z (cY' z) z<|gy z z (b' 3 sc4 z z z) z<|aj' hr (H' z z) (Y0.eqlB bH' z z) z (fun k hr=>?_) (fun k hr=>?_)
      ·refine yy (m' z z) z<|mv z z<|gy z z (cD' z) z<|gy z z (b' 2 bQ' z z z) z<|gy z z (cD' z) z<|gy z z (b' 3 bQ' z z z) z ?_
       obtain⟨m,f,hr⟩:=hr
       refine F' (H' z z) z (s' E28 z) (dW' f) z (⟨e,d⟩)<|yy (m' z z) z<|sg z z<|nx<|j' ?_
       obtain rfl:_=r:=hr
       exact k' z z z
      ·refine yy (m' z z) z<|mv z z<|sk z z z<|sk z z z<|sk z z z<|sk z z z<|sk z z z<|yy (l' z z) z<|sg z z<|nx<|j' ?_
       obtain rfl:_=r:=hr
       exact k' z z z
     ·refine yy (m' z z) z<|mv z z<|sk z z z<|sk z z z<|sk z z z<|sk z z z<|sk z z z<|yy (l' z z) z<|mv z z<|sk z z z<|sk z z z<|sk z z z<|sk z z z<|sk z z z<|yy (l' z z) z<|sg z z<|nx<|j' ?_
      obtain rfl:_=r:=hr
      exact k' z z z
    ·refine yy (m' z z) z<|mv z z<|sk z z z<|sk z z z<|sk z z z<|sk z z z<|sk z z z<|yy (l' z z) z<|mv z z<|sk z z z<|sk z z z<|sk z z z<|sk z z z<|sk z z z<|yy (l' z z) z<|mv z z<|sk z z z<|sk z z z<|sk z z z<|sk z z z<|sk z z z<|yy (l' z z) z<|sg z z<|nx<|j' ?_
     obtain rfl:_=r:=hr
     exact k' z z z
   ·refine yy (m' z z) z<|mv z z<|sk z z z<|sk z z z<|sk z z z<|sk z z z<|sk z z z<|yy (l' z z) z<|mv z z<|sk z z z<|sk z z z<|sk z z z<|sk z z z<|sk z z z<|yy (l' z z) z<|mv z z<|sk z z z<|sk z z z<|sk z z z<|sk z z z<|sk z z z<|yy (l' z z) z<|mv z z<|sk z z z<|sk z z z<|sk z z z<|sk z z z<|sk z z z<|yy (l' z z) z<|sg z z<|nx<|j' ?_
    obtain rfl:_=r:=hr
    exact k' z z z
  ·refine yy (m' z z) z<|mv z z<|sk z z z<|sk z z z<|sk z z z<|sk z z z<|sk z z z<|yy (l' z z) z<|mv z z<|sk z z z<|sk z z z<|sk z z z<|sk z z z<|sk z z z<|yy (l' z z) z<|mv z z<|sk z z z<|sk z z z<|sk z z z<|sk z z z<|sk z z z<|yy (l' z z) z<|mv z z<|sk z z z<|sk z z z<|sk z z z<|sk z z z<|sk z z z<|yy (l' z z) z<|mv z z<|sk z z z<|sk z z z<|sk z z z<|sk z z z<|sk z z z<|yy (l' z z) z<|sg z z<|nx<|j' ?_
   obtain rfl:_=r:=hr
   exact k' z z z
 ·refine mv z z<|sk z z z<|sk z z z<|sk z z z<|sk z z z<|sk z z z<|yy (l' z z) z<|mv z z<|sk z z z<|sk z z z<|sk z z z<|sk z z z<|sk z z z<|yy (l' z z) z<|mv z z<|sk z z z<|sk z z z<|sk z z z<|sk z z z<|sk z z z<|yy (l' z z) z<|mv z z<|sk z z z<|sk z z z<|sk z z z<|sk z z z<|sk z z z<|yy (l' z z) z<|mv z z<|sk z z z<|sk z z z<|sk z z z<|sk z z z<|sk z z z<|yy (l' z z) z<|mv z z<|sk z z z<|sk z z z<|sk z z z<|sk z z z<|sk z z z<|yy (l' z z) z<|sg z z<|nx<|j' ?_
  obtain rfl:_=r:=hr
  exact k' z z z
theorem cQ'{r}(hr:(Zd5).Ret r):Ctr Tryz.prog 10 #[] (fun G=>True) (fun G v=>v = .bool r):=by
 refine C' (args:=[]) (N:=124) Tryz.func10 z z z fun w0 G0 aP bf=>sr<|sg z z<|nr<|yy (aq' (vs:=#[(3,i' 1)]) (v:=.agg ([.slice none 0 0,.slice none 0 0,.slice none 0 0,i' 1]).toArray) z z (fun _=>by kernel_rfl)) z<|T' 1 z z33 z fun b1=>v' 1 z aZ' z z z z z (List.all_eq_true.1 z)<|nr ?_
 obtain⟨bx,aH,hr⟩:=hr
 refine M' z z (s' E32 z) (gD' aH) z (trivial) (fun bp bK a4 D=>?_)
 obtain⟨bb,bu,rfl,aG⟩:=D
 obtain⟨bL,aC,hr⟩:=hr
 refine M' z z (s' E32 z) (gD' aC) z (trivial) (fun bo bv ag I=>?_)
 obtain⟨bt,a9,rfl,ay⟩:=I
 obtain⟨bG,aA,hr⟩:=hr
 refine M' z z (s' E31 z) (gW' aA) z (⟨(aG.mono ag),ay⟩) (fun ba bA a2 A=>?_)
 obtain⟨bk,br,rfl,av⟩:=A
 obtain⟨bB,ar,hr⟩:=hr
 refine M' z z (s' E33 z) (gP' ar) z (trivial) (fun bc bz Q J=>?_)
 obtain⟨bn,bq,rfl,au⟩:=J
 obtain⟨n,az,hr⟩:=hr
 refine M' z z (s' E30 z) (gQ' az) z (⟨(av.mono Q),au⟩) (fun bl bD a5 x=>?_)
 obtain⟨j,i,rfl,M⟩:=x
 refine sg z z<|nr<|yy (aq' (vs:=#[(0,i' 1),(1,.string Zt)]) (v:=.agg ([i' 1,.string Zt,i' 0,i' 0,i' 0,.slice none 0 0,.bool false]).toArray) z z (fun _=>by kernel_rfl)) z<|mv z z<|yy (aq' (vs:=#[(0,i' 5),(5,.slice j n.length i)]) (v:=.agg ([i' 5,.string ByteArray.empty,i' 0,i' 0,i' 0,.slice j n.length i,.bool false]).toArray) z z (fun _=>by kernel_rfl)) z<|aU' (e:=40) (r:=ag') (vs:=#[(0,.agg ([i' 1,.string Zt,i' 0,i' 0,i' 0,.slice none 0 0,.bool false]).toArray),(1,.agg ([i' 5,.string ByteArray.empty,i' 0,i' 0,i' 0,.slice j n.length i,.bool false]).toArray)]) (cs:=[i' 1,.string Zt,i' 0,i' 0,i' 0,.slice none 0 0,.bool false]++([i' 5,.string ByteArray.empty,i' 0,i' 0,i' 0,.slice j n.length i,.bool false]++([]))) ([(Zd.mk 1 Zt 0 0 0 [] false),(Zd.mk 5 ByteArray.empty 0 0 0 n false)]:List Zd) z z z z z (by decide) (fun _=>by kernel_rfl) ⟨[i' 1,.string Zt,i' 0,i' 0,i' 0,.slice none 0 0,.bool false],[i' 5,.string ByteArray.empty,i' 0,i' 0,i' 0,.slice j n.length i,.bool false]++([]),z,⟨[i' 1],[.string Zt,i' 0,i' 0,i' 0,.slice none 0 0,.bool false],z,z,⟨[.string Zt],[i' 0,i' 0,i' 0,.slice none 0 0,.bool false],z,z,⟨[i' 0],[i' 0,i' 0,.slice none 0 0,.bool false],z,z,⟨[i' 0],[i' 0,.slice none 0 0,.bool false],z,z,⟨[i' 0],[.slice none 0 0,.bool false],z,z,⟨[.slice none 0 0],[.bool false],z,⟨_,z,(ah' _ _)⟩,z⟩⟩⟩⟩⟩⟩,⟨[i' 5,.string ByteArray.empty,i' 0,i' 0,i' 0,.slice j n.length i,.bool false],[],z,⟨[i' 5],[.string ByteArray.empty,i' 0,i' 0,i' 0,.slice j n.length i,.bool false],z,z,⟨[.string ByteArray.empty],[i' 0,i' 0,i' 0,.slice j n.length i,.bool false],z,z,⟨[i' 0],[i' 0,i' 0,.slice j n.length i,.bool false],z,z,⟨[i' 0],[i' 0,.slice j n.length i,.bool false],z,z,⟨[i' 0],[.slice j n.length i,.bool false],z,z,⟨[.slice j n.length i],[.bool false],z,⟨_,z,M⟩,z⟩⟩⟩⟩⟩⟩,z⟩⟩ (key:=999) z (by rw[aP]; rfl) fun p1 bI P a0=>sg z z<|nr<|yy (t' 1 ai' z z z) z<|mv z z ?_
 obtain⟨k,aw,hr⟩:=hr
 refine M' z z (s' E20 z) (cT' aw) z (⟨(ah' Rp.str _),(ah' a' _),(ah' a' _),a0⟩) (fun bi an V H=>?_)
 obtain⟨f,g,l,m,h,d,rfl,o,c,q⟩:=H
 refine T' 4 z z50 z fun b2=>v' 4 z sz50 z z z z z (List.all_eq_true.1 z)<|nx<|aV' (fun (O:Mem)=>match O with|t=>[(1,.pointer (some ⟨b1,0,none⟩)),(4,.pointer (some ⟨b2,0,none⟩))]) (fun (O:Mem)=>match O with|t=>Mem.le an t∧(Zeq k).Ret r) (fun (O:Mem)=>match O with|t=>St w0 G0 t [(1,some ⟨b1,.cells ([.slice none 0 0,.slice none 0 0,.slice none 0 0,i' 1]).toArray 33 (0,0),0⟩),(4,some ⟨b2,.cells ([.slice f k.s.vars.length g,.slice l k.s.eqs.length m,.slice h k.s.neqs.length d,i' k.s.next,i' k.n,i' k.e]).toArray 50 (0,0),0⟩)]) ?_ ?_
 ·skip
  refine sr<|yy (dh' z) z<|yy (b' 4 sc42 z z z) z<|aj' hr z (aR' z z) z (fun aN hr=>?_) (fun aN hr=>?_)
  ·refine mv z z<|sf z z z<|sf z z z<|sf z z z<|yy (m' z z) z<|mv z z<|sf z z z<|sf z z z<|sf z z z<|sf z z z<|sf z z z<|yy (m' z z) z<|mv z z<|sf z z z<|sf z z z<|sf z z z<|sf z z z<|sf z z z<|yy (m' z z) z<|mv z z<|sf z z z<|sf z z z<|sf z z z<|sf z z z<|sf z z z<|sf z z z<|sf z z z<|yy (m' z z) z<|mv z z<|sf z z z<|sf z z z<|sf z z z<|sf z z z<|yy (m' z z) z<|mv z z<|sf z z z<|sf z z z<|sf z z z<|sf z z z<|sf z z z<|sf z z z<|sf z z z<|sf z z z<|sf z z z<|yy (m' z z) z<|nx<|at' z<|sr<|sg z z<|nx<|j' ?_
   replace hr:_=r:=hr
   refine g' ?_
   subst hr
   exact k' z z z
  ·refine mv z z<|gy z z (ep' z) z<|gy z z (b' 4 sc3 z z z) z<|aj' hr (H' z z) (aR' z z) z (fun aV hr=>?_) (fun aV hr=>?_)
   ·refine yy (l' z z) z<|mv z z<|sf z z z<|sf z z z<|sf z z z<|sf z z z<|sf z z z<|yy (m' z z) z<|mv z z<|sf z z z<|sf z z z<|sf z z z<|sf z z z<|sf z z z<|yy (m' z z) z<|mv z z<|sf z z z<|sf z z z<|sf z z z<|sf z z z<|sf z z z<|sf z z z<|sf z z z<|yy (m' z z) z<|mv z z<|sf z z z<|sf z z z<|sf z z z<|sf z z z<|yy (m' z z) z<|mv z z<|sf z z z<|sf z z z<|sf z z z<|sf z z z<|sf z z z<|sf z z z<|sf z z z<|sf z z z<|sf z z z<|yy (m' z z) z<|nx<|at' z<|sr<|sg z z<|nx<|j' ?_
    replace hr:_=r:=hr
    refine g' ?_
    subst hr
    exact k' z z z
   ·refine yy (l' z z) z<|mv z z<|gy z z (ck' z) z<|gy z z (ar' z) z<|gy z z (b' 4 bn' z z z) z<|gy z z (L' A' o z) z<|aj' hr (H' z z) (aR' z z) z (fun aM hr=>?_) (fun aM hr=>?_)
    ·refine yy (l' z z) z<|mv z z<|sf z z z<|sf z z z<|sf z z z<|sf z z z<|sf z z z<|yy (m' z z) z<|mv z z<|sf z z z<|sf z z z<|sf z z z<|sf z z z<|sf z z z<|sf z z z<|sf z z z<|yy (m' z z) z<|mv z z<|sf z z z<|sf z z z<|sf z z z<|sf z z z<|yy (m' z z) z<|mv z z<|sf z z z<|sf z z z<|sf z z z<|sf z z z<|sf z z z<|sf z z z<|sf z z z<|sf z z z<|sf z z z<|yy (m' z z) z<|nx<|at' z<|sr<|sg z z<|nx<|j' ?_
     replace hr:_=r:=hr
     refine g' ?_
     subst hr
     exact k' z z z
    ·refine yy (l' z z) z<|mv z z<|gy z z (ck' z) z<|gy z z (ax' z) z<|gy z z (b' 4 aS' z z z) z<|gy z z (L' q' c z) z<|aj' hr (H' z z) (aR' z z) z (fun a1 hr=>?_) (fun a1 hr=>?_)
     ·refine yy (l' z z) z<|mv z z<|sf z z z<|sf z z z<|sf z z z<|sf z z z<|sf z z z<|sf z z z<|sf z z z<|yy (m' z z) z<|mv z z<|sf z z z<|sf z z z<|sf z z z<|sf z z z<|yy (m' z z) z<|mv z z<|sf z z z<|sf z z z<|sf z z z<|sf z z z<|sf z z z<|sf z z z<|sf z z z<|sf z z z<|sf z z z<|yy (m' z z) z<|nx<|at' z<|sr<|sg z z<|nx<|j' ?_
      replace hr:_=r:=hr
      refine g' ?_
      subst hr
      exact k' z z z
     ·refine yy (l' z z) z<|mv z z<|gy z z (ck' z) z<|gy z z (ax' z) z<|gy z z (b' 4 aS' z z z) z ?_
      obtain⟨x1,aq,hr⟩:=hr
      refine gy z z (Q' q' aP' c z z aq) z<|gy z z (bb' z) z<|gy z z (U' sc3 z (aC' (be' (aF' (Z' c aq))))) z<|aj' hr (H' z z) (aR' z z) z (fun aS hr=>?_) (fun aS hr=>?_)
      ·refine yy (l' z z) z<|mv z z<|sf z z z<|sf z z z<|sf z z z<|sf z z z<|yy (m' z z) z<|mv z z<|sf z z z<|sf z z z<|sf z z z<|sf z z z<|sf z z z<|sf z z z<|sf z z z<|sf z z z<|sf z z z<|yy (m' z z) z<|nx<|at' z<|sr<|sg z z<|nx<|j' ?_
       replace hr:_=r:=hr
       refine g' ?_
       subst hr
       exact k' z z z
      ·refine yy (l' z z) z<|mv z z<|gy z z (ck' z) z<|gy z z (bf' z) z<|gy z z (b' 4 sc3 z z z) z<|aj' hr (H' z z) (aR' z z) z (fun aF hr=>?_) (fun aF hr=>?_)
       ·refine yy (l' z z) z<|mv z z<|sf z z z<|sf z z z<|sf z z z<|sf z z z<|sf z z z<|sf z z z<|sf z z z<|sf z z z<|sf z z z<|yy (m' z z) z<|nx<|at' z<|sr<|sg z z<|nx<|j' ?_
        replace hr:_=r:=hr
        refine g' ?_
        subst hr
        exact k' z z z
       ·refine yy (l' z z) z<|mv z z<|gy z z (ck' z) z<|gy z z (ax' z) z<|gy z z (b' 4 aS' z z z) z ?_
        obtain⟨x2,aj,hr⟩:=hr
        refine gy z z (Q' q' aP' c z z aj) z<|gy z z (bs' z) z ?_
        obtain⟨p2,bJ,aR,aW⟩:=ca' (aK' (aF' (Z' c aj)))
        refine gy z z (U' bQ' z (aR)) z<|gy z z (f' z) z ?_
        obtain⟨bj,R,hr⟩:=hr
        refine F' (H' z z) z (s' E28 z) (dW' R) z (⟨aW,(M.mono (mt P V))⟩)<|gy z z (ao' z) z<|yy (l' z z) z<|nx<|aN' hr z (fun aZ hr=>?_) (fun aZ hr=>?_)
        ·exact (show False from hr).elim
        ·refine o'<|ap' an ⟨mr,hr⟩ (fc z (fc z fn)) (wk (lc z (lc z ln)))
 ·rintro t ⟨p,hr⟩
  refine sr<|yy (ck' z) z<|yy (av' ((v33' k.s f g l m h d)).toArray 4 ai' z z z (aM' ([]) ((v33' k.s f g l m h d)) ([i' k.n,i' k.e]))) z<|yy (aq' (vs:=#[(0,i' 2)]) (v:=.agg ([i' 2,.string ByteArray.empty,i' 0,i' 0,i' 0,.slice none 0 0,.bool false]).toArray) z z (fun _=>by kernel_rfl)) z ?_
  obtain⟨bH,aB,hr⟩:=hr
  refine M' z z (s' E14 z) (cd' aB) z (⟨(o.mono p),(c.mono p),(q.mono p),(ah' r' _)⟩) (fun bd bw s C=>?_)
  obtain⟨Y,U,ai,al,ab,af,rfl,T,ao,aa⟩:=C
  refine mv z z<|yy (K' z z) z<|yy (K' z z) z<|T' 5 z z33 z fun b3=>v' 5 z aZ' z z z z z (List.all_eq_true.1 z)<|sg z z<|nr<|yy (ck' z) z<|yy (av' ((v33' k.s f g l m h d)).toArray 4 ai' z z z (aM' ([]) ((v33' k.s f g l m h d)) ([i' k.n,i' k.e]))) z<|yy (aq' (vs:=#[(0,i' 5)]) (v:=.agg ([i' 5,.string ByteArray.empty,i' 0,i' 0,i' 0,.slice none 0 0,.bool false]).toArray) z z (fun _=>by kernel_rfl)) z ?_
  obtain⟨bC,ax,hr⟩:=hr
  refine M' z z (s' E16 z) (dC' ax) z (⟨(o.mono (mt p s)),(c.mono (mt p s)),(q.mono (mt p s)),(ah' r' _)⟩) (fun a8 bE a6 F=>?_)
  obtain⟨aI,aJ,rfl,y⟩:=F
  refine mv z z<|yy (K' z z) z<|yy (K' z z) z<|T' 7 z z40 z fun b4=>v' 7 z bJ' z z z z z (List.all_eq_true.1 z)<|sg z z<|nr<|yy (t' 1 ai' z z z) z<|yy (aq' (vs:=#[]) (v:=.agg ([i' 0,.string ByteArray.empty,i' 0,i' 0,i' 0,.slice none 0 0,.bool false]).toArray) z z (fun _=>by kernel_rfl)) z ?_
  obtain⟨bF,aE,hr⟩:=hr
  refine M' z z (s' E14 z) (cd' aE) z (⟨(ah' Rp.str _),(ah' a' _),(ah' a' _),(ah' r' _)⟩) (fun a7 bh K B=>?_)
  obtain⟨X,ae,ak,ap,W,ad,rfl,S,am,Z⟩:=B
  refine mv z z<|yy (K' z z) z<|yy (K' z z) z<|T' 9 z z33 z fun b5=>v' 9 z aZ' z z z z z (List.all_eq_true.1 z)<|sg z z<|nr<|yy (t' 1 ai' z z z) z<|yy (t' 1 ai' z z z) z ?_
  obtain⟨bs,ah,hr⟩:=hr
  refine M' z z (s' E29 z) (dI' ah) z (⟨(ah' Rp.str _),(ah' a' _),(ah' a' _),(ah' Rp.str _),(ah' a' _),(ah' a' _)⟩) (fun a3 bm L u=>?_)
  obtain⟨aK,aL,rfl,E⟩:=u
  refine mv z z<|yy (K' z z) z<|yy (K' z z) z<|sg z z<|sg z z<|nr<|mv z z<|aj' hr z (ak' z z) z (fun aU hr=>?_) (fun aU hr=>?_)
  ·refine mv z z<|gy z z (f' z) z<|aj' hr (H' z z) (ak' z z) z (fun aO hr=>?_) (fun aO hr=>?_)
   ·refine yy (m' z z) z<|mv z z<|gy z z (t' 7 bw' z z z) z<|gy z z (aq' (vs:=#[(0,i' 6),(4,i' 2)]) (v:=.agg ([i' 6,.string ByteArray.empty,i' 0,i' 0,i' 2,.slice none 0 0,.bool false]).toArray) z z (fun _=>by kernel_rfl)) z ?_
    obtain⟨aD,ac,hr⟩:=hr
    refine F' (H' z z) z (s' E19 z) (eL' ac) z (⟨(y.mono (mt K L)),(ah' r' _)⟩) ?_
    cases aD
    ·skip
     refine yy (m' z z) z<|mv z z<|sk z z z<|sk z z z<|yy (l' z z) z<|mv z z<|sk z z z<|sk z z z<|yy (l' z z) z<|mv z z<|sk z z z<|sk z z z<|sk z z z<|yy (l' z z) z<|sg z z<|nx<|j' ?_
     obtain rfl:_=r:=hr
     exact k' z z z
    ·skip
     refine yy (m' z z) z<|mv z z<|gy z z (f' z) z<|aj' hr (H' z z) (ak' z z) z (fun aT hr=>?_) (fun aT hr=>?_)
     ·refine yy (m' z z) z<|mv z z<|gy z z (f' z) z<|aj' hr (H' z z) (ak' z z) z (fun aX hr=>?_) (fun aX hr=>?_)
      ·refine yy (m' z z) z<|mv z z<|gy z z (f' z) z<|gy z z (L' as' E z) z<|gy z z (ak' z z) z<|yy (m' z z) z<|sg z z<|nx<|j' ?_
       obtain rfl:_=r:=hr
       exact k' z z z
      ·refine yy (m' z z) z<|mv z z<|sk z z z<|sk z z z<|sk z z z<|yy (l' z z) z<|sg z z<|nx<|j' ?_
       obtain rfl:_=r:=hr
       exact k' z z z
     ·refine yy (m' z z) z<|mv z z<|sk z z z<|sk z z z<|yy (l' z z) z<|mv z z<|sk z z z<|sk z z z<|sk z z z<|yy (l' z z) z<|sg z z<|nx<|j' ?_
      obtain rfl:_=r:=hr
      exact k' z z z
   ·refine yy (m' z z) z<|mv z z<|sk z z z<|sk z z z<|sk z z z<|yy (l' z z) z<|mv z z<|sk z z z<|sk z z z<|yy (l' z z) z<|mv z z<|sk z z z<|sk z z z<|yy (l' z z) z<|mv z z<|sk z z z<|sk z z z<|sk z z z<|yy (l' z z) z<|sg z z<|nx<|j' ?_
    obtain rfl:_=r:=hr
    exact k' z z z
  ·refine mv z z<|sk z z z<|sk z z z<|yy (l' z z) z<|mv z z<|sk z z z<|sk z z z<|sk z z z<|yy (l' z z) z<|mv z z<|sk z z z<|sk z z z<|yy (l' z z) z<|mv z z<|sk z z z<|sk z z z<|yy (l' z z) z<|mv z z<|sk z z z<|sk z z z<|sk z z z<|yy (l' z z) z<|sg z z<|nx<|j' ?_
   obtain rfl:_=r:=hr
   exact k' z z z
theorem gA'{r}(hr:(ZiF).Ret r):Ctr Tryz.prog 62 #[] (fun G=>True) (fun G v=>∃ c f,v = .slice c r.length f∧sl Rp.str G c f r):=by
 refine C' (args:=[]) (N:=2) Tryz.func62 z z z fun k l d i=>sr<|sg z z<|nr<|aU' (e:=9) (r:=Rp.str) (vs:=#[(0,.string Zt),(1,.string ZaE),(2,.string Zaj),(3,.string Z7),(4,.string Z0),(5,.string ZW)]) (cs:=[.string Zt]++([.string ZaE]++([.string Zaj]++([.string Z7]++([.string Z0]++([.string ZW]++([]))))))) ([Zt,ZaE,Zaj,Z7,Z0,ZW]:List ByteArray) z z z z z (by decide) (fun _=>by kernel_rfl) ⟨[.string Zt],[.string ZaE]++([.string Zaj]++([.string Z7]++([.string Z0]++([.string ZW]++([]))))),z,z,⟨[.string ZaE],[.string Zaj]++([.string Z7]++([.string Z0]++([.string ZW]++([])))),z,z,⟨[.string Zaj],[.string Z7]++([.string Z0]++([.string ZW]++([]))),z,z,⟨[.string Z7],[.string Z0]++([.string ZW]++([])),z,z,⟨[.string Z0],[.string ZW]++([]),z,z,⟨[.string ZW],[],z,z,z⟩⟩⟩⟩⟩⟩ (key:=999) z (by rw[d]; rfl) fun m j h g=>sg z z<|nx<|j' ?_
 obtain rfl:_=r:=hr
 exact k' z z ⟨_,_,z,g⟩
theorem gR'{n1 r}(hr:(ZgF n1).Ret r):Ctr Tryz.prog 63 #[.int .i8 n1] (fun G=>True) (fun G v=>v=i' r):=by
 refine C' (args:=[_]) (N:=10) Tryz.func63 z z z fun f g e d=>sr<|sg z z<|nx<|h'<|sr<|mv z z<|yy (V' z z) z<|nx<|I' hr z (fun c hr=>?_) (fun c hr=>?_)
 ·refine sr<|mv z z<|yy (aH' cu' az' z) z<|yy (Y0.neg z) z<|sg z z<|nx<|j' ?_
  replace hr:_=r:=hr
  refine g' ?_
  subst hr
  exact k' z z z
 ·refine o'<|e'<|sr<|mv z z<|yy (aH' cu' az' z) z<|sg z z<|nx<|j' ?_
  obtain rfl:_=r:=hr
  exact k' z z z
theorem fP'{a0_1 a1_1 a2_1 a3_1 a0_1tp a0_1tc r}(hr:(Zhg a0_1 a1_1 a2_1 a3_1).Ret r):Ctr Tryz.prog 35 #[.agg ([.slice a0_1tp a0_1.t.length a0_1tc]).toArray,i' a1_1,i' a2_1,i' a3_1] (fun G=>sl (cv' .i8 5) G a0_1tp a0_1tc a0_1.t) (fun G v=>∃ zp zc,v = .slice zp r.length zc∧sl r' G zp zc r):=by
 refine C' (args:=[_,_,_,_]) (N:=74) Tryz.func35 z z z (fun w0 G0 av aF=>?_)
 have L:=aF
 refine sr<|W' 4 z z z fun b1=>sg z z<|nr<|aU' (e:=101) (r:=r') (vs:=#[]) (cs:=[]) ([]:List Zc) z z z z z (by decide) (fun _=>by kernel_rfl) (z) (key:=999) z (by rw[av]; rfl) fun p1 an T aY=>sg z z<|nx<|h'<|sr<|sg z z<|nx<|aa' (fun (⟨J,P,Q,Y⟩:(List Zc)×Option Addr×Nat×Mem)=>[(9,.slice P J.length Q)]) (fun ⟨J,P,Q,Y⟩=>Mem.le an Y∧sl r' Y P Q J∧(ZeD J).Ret r) (fun ⟨J,P,Q,Y⟩=>St w0 G0 Y []) ?_ ?_
 ·refine B' ?_
  let X:(List Zc)→Prop:=fun oo=>((fun ov=>match ov with|J=>ZeD J:(List Zc)→Comp (List Zc)) oo).wp (fun a=>a=r)
  replace hr:(Comp.loop _ _).wp X:=hr
  refine ab' (Φ:=X) (fun (⟨p,s,q,o,M⟩:(List Zc)×Option Addr×Nat×Int×Mem)=>((p,o):(List Zc)×Int)) (fun ⟨p,s,q,o,M⟩=>[(1,i' a1_1),(2,i' a2_1),(3,i' a3_1),(4,.pointer (some ⟨b1,0,none⟩)),(9,.slice s p.length q),(10,i' o)]) (fun ⟨p,s,q,o,M⟩=>Mem.le an M∧sl r' M s q p) (fun ⟨p,s,q,o,M⟩=>St w0 G0 M [(4,some ⟨b1,.cells ([.slice a0_1tp a0_1.t.length a0_1tc]).toArray 26 (0,0),0⟩)]) ⟨[],p1,0,0,an⟩ hr (fc z (fc z (fc z (fc z (fc z (fc z fn)))))) ⟨mr,aY⟩ (wk (lc z ln)) ?_
  ·intro am gx hx hr
   obtain⟨p,s,q,o,M⟩:=gx
   obtain⟨C,Z⟩:=hx
   refine aV' (fun (gx:Mem)=>match gx with|S=>[(1,i' a1_1),(2,i' a2_1),(3,i' a3_1),(4,.pointer (some ⟨b1,0,none⟩)),(9,.slice s p.length q),(10,i' o)]) (fun (gx:Mem)=>match gx with|S=>Mem.le M S∧(ZgT a0_1 a1_1 a2_1 p o).wp (Out am X)) (fun (gx:Mem)=>match gx with|S=>St w0 G0 S [(4,some ⟨b1,.cells ([.slice a0_1tp a0_1.t.length a0_1tc]).toArray 26 (0,0),0⟩)]) ?_ ?_
   ·skip
    refine sr<|mv z z<|yy (Y0.ZjD z) z<|yy (b' 4 sc24 z z z) z<|yy (L' ew' (L.mono (mt T C)) z) z<|aj' hr z (V' z z) z (fun aM hr=>?_) (fun aM hr=>?_)
    ·refine mv z z<|gy z z (f' z) z<|gy z z (f' z) z<|gy z z (V' z z) z<|yy (m' z z) z<|nx<|I' hr z (fun aP hr=>?_) (fun aP hr=>?_)
     ·refine o'<|ap' M ⟨mr,hr⟩ (fc z (fc z (fc z (fc z (fc z (fc z fn)))))) (wk (lc z ln))
     ·refine ad'<|n'<|n'<|J'<|ae' ⟨p,s,q,M⟩ ⟨C,Z,hr⟩ (fc z fn) (wk ln)
    ·refine mv z z<|sk z z z<|sk z z z<|sk z z z<|yy (l' z z) z<|nx<|bg' z<|ad'<|n'<|n'<|J'<|ae' ⟨p,s,q,M⟩ ⟨C,Z,hr⟩ (fc z fn) (wk ln)
   ·rintro S ⟨O,hr⟩
    refine h'<|B'<|sr<|yy (aq' (vs:=#[]) (v:=.agg (vecG (Value.int .i64) 8 (fun _=>0)).toArray) z z (fun _=>by kernel_rfl)) z<|T' 11 z z99 z fun b2=>v' 11 z sz99 z z z (O' _ _ _) (O' _ _ _) (fun u hu=>Rp.one (cv' .i64 8) (G:=S) (x:=(fun _=>0)) (cs:=vecG (Value.int .i64) 8 (fun _=>0)) z u (by first|simpa using hu|simpa [Value.cells] using hu))<|nr<|mv z z<|sg z z<|nx<|h'<|sr<|sg z z<|nx<|aa' (fun (⟨B,ac⟩:(Fin 8→Int)×Mem)=>[(1,i' a1_1),(2,i' a2_1),(3,i' a3_1),(4,.pointer (some ⟨b1,0,none⟩)),(9,.slice s p.length q),(10,i' o),(11,.pointer (some ⟨b2,0,none⟩))]) (fun ⟨B,ac⟩=>Mem.le S ac∧(ZeE a0_1 p o B).wp (Out am X)) (fun ⟨B,ac⟩=>St w0 G0 ac [(4,some ⟨b1,.cells ([.slice a0_1tp a0_1.t.length a0_1tc]).toArray 26 (0,0),0⟩),(11,some ⟨b2,.cells (vecG (Value.int .i64) 8 B).toArray 99 (0,0),0⟩)]) ?_ ?_
    ·refine B' ?_
     let ao:(Fin 8→Int)→Prop:=fun oo=>((fun ov=>match ov with|B=>ZeE a0_1 p o B:(Fin 8→Int)→Comp (((List Zc)×Int)⊕(List Zc))) oo).wp (Out am X)
     replace hr:(Comp.loop _ _).wp ao:=hr
     refine ab' (Φ:=ao) (fun (⟨A,t,K,R⟩:Int×Int×(Fin 8→Int)×Mem)=>((A,t,K):Int×Int×(Fin 8→Int))) (fun ⟨A,t,K,R⟩=>[(1,i' a1_1),(2,i' a2_1),(3,i' a3_1),(4,.pointer (some ⟨b1,0,none⟩)),(9,.slice s p.length q),(10,i' o),(11,.pointer (some ⟨b2,0,none⟩)),(12,i' A),(13,i' t)]) (fun ⟨A,t,K,R⟩=>Mem.le S R) (fun ⟨A,t,K,R⟩=>St w0 G0 R [(4,some ⟨b1,.cells ([.slice a0_1tp a0_1.t.length a0_1tc]).toArray 26 (0,0),0⟩),(11,some ⟨b2,.cells (vecG (Value.int .i64) 8 K).toArray 99 (0,0),0⟩)]) ⟨a2_1,0,(fun _=>0),S⟩ hr (fc z (fc z (fc z (fc z (fc z (fc z (fc z (fc z (fc z fn))))))))) mr (wk (lc z (lc z ln))) ?_
     ·intro bd gx hx hr
      obtain⟨A,t,K,R⟩:=gx
      have U:=hx
      refine h'<|sr<|mv z z<|mv z z<|aj' hr z (V' z z) z (fun aO hr=>?_) (fun aO hr=>?_)
      ·refine mv z z<|gy z z (f' z) z<|gy z z (V' z z) z<|yy (m' z z) z<|nx<|I' hr z (fun aX hr=>?_) (fun aX hr=>?_)
       ·refine o'<|e'<|h'<|B'<|sr<|mv z z<|yy (Y0.ZjD z) z<|yy (b' 4 sc24 z z z) z<|mv z z<|mv z z<|yy (N' z z) z ?_
        obtain⟨x2,au,hr⟩:=hr
        refine yy (Q' ew' sz112 (L.mono (mt (mt (mt T C) O) U)) z z au) z ?_
        obtain⟨aw,hr⟩:=hr
        refine yy (Y0.idxA Tryz.underlying112 sz23 z z aw) z<|yy (U' sc23 z (AtK.vecAt (E' (Z' L au) (mt (mt (mt T C) O) U)) aw)) z ?_
        obtain⟨aj,aD,hr⟩:=hr
        refine F' z z (s' E63 z) (gR' aD) z (trivial)<|mv z z<|yy (N' z z) z ?_
        obtain⟨aN,hr⟩:=hr
        refine yy (bL' z z aN) z ?_
        obtain⟨aW,hr⟩:=hr
        refine yy (aW' aG' sz3 z z aW) z<|au' 11 (vecG (Value.int .i64) 8 (setF K t.toNat (Int.tmod aj (IntKind.i64.wrap (A+1))))).toArray z sz3 z z z (by first|(rw[O']; omega)|(show _<(vecG _ _ _).toArray.size; rw[O']; omega)) z (bP' _ _ _ _ _)<|nx<|w'<|mv z z<|mv z z ?_
        obtain⟨ax,hr⟩:=hr
        refine yy (aW' aG' sz3 z z ax) z<|yy (b' 11 sc3 z z (by' _ _ _ ax)) z<|yy (bd' z z) z<|sg z z<|u'<|D'<|e'<|w'<|mv z z<|yy (N' z z) z<|sg z z<|u'<|P' ⟨IntKind.i64.wrap (A-(getF (setF K t.toNat (Int.tmod aj (IntKind.i64.wrap (A+1)))) t)),IntKind.i64.wrap (t+1),setF K t.toNat (Int.tmod aj (IntKind.i64.wrap (A+1))),R⟩ hr U (fc z (fc z (fc z (fc z (fc z (fc z (fc z (fc z (fc z fn))))))))) (wk (lc z (lc z ln)))
       ·refine ad'<|n'<|n'<|J'<|ae' ⟨K,R⟩ ⟨U,hr⟩ (fc z (fc z (fc z (fc z (fc z (fc z (fc z fn))))))) (wk (lc z (lc z ln)))
      ·refine mv z z<|sk z z z<|sk z z z<|yy (l' z z) z<|nx<|bg' z<|ad'<|n'<|n'<|J'<|ae' ⟨K,R⟩ ⟨U,hr⟩ (fc z (fc z (fc z (fc z (fc z (fc z (fc z fn))))))) (wk (lc z (lc z ln)))
    ·rintro⟨B,ac⟩ ⟨W,hr⟩
     refine e'<|Y' [true,false,false,false,false,false,false,false,false,false,false,false] mix (by kernel_rfl) fun hb=>cJ' z (f' z)<|cn (fun _ y=>Y0.ZjD z)<|cn (fun _ y=>b' 4 sc24 z z z)<|cn (fun _ y=>f' z) ?_
     obtain⟨x1,ay,hr⟩:=hr
     refine cn (fun _ y=>Q' ew' sz112 ((L.mono (mt (mt (mt T C) O) W)).mono y) z z ay)<|cn (fun _ y=>Y0.idxA Tryz.underlying112 sz23 z z (by decide))<|cn (fun _ y=>U' sc23 z (AtK.vecAt (E' (E' (Z' L ay) (mt (mt (mt T C) O) W)) y) (by decide)))<|cn (fun _ y=>bL' z z (by decide))<|cn (fun _ y=>aH' cu' dL' z) ?_
     obtain⟨I,aL,hr⟩:=hr
     refine aD' (post:=fun G v=>∃ m n l k,v = .agg ([.bool I.num.neg,.slice m I.num.mag.length n,.bool I.den.neg,.slice l I.den.mag.length k]).toArray∧sl (Rp.int .u32) G m n I.num.mag∧sl (Rp.int .u32) G l k I.den.mag) (fun _=>z) (fun _ _=>s' E48 z) (cZ' aL) z (fun G' y=>trivial) (fun v G1 G2 y h=>?_) ?_
     ·obtain⟨m,n,l,k,rfl,F,D⟩:=h
      exact⟨_,_,_,_,z,F.mono y,D.mono y⟩
     obtain⟨j,aH,hr⟩:=hr
     refine aD' (post:=fun G v=>∃ g i f c,v = .agg ([.bool j.num.neg,.slice g j.num.mag.length i,.bool j.den.neg,.slice f j.den.mag.length c]).toArray∧sl (Rp.int .u32) G g i j.num.mag∧sl (Rp.int .u32) G f c j.den.mag) (fun _=>z) (fun _ _=>s' E48 z) (cZ' aH) z (fun G' y=>trivial) (fun v G1 G2 y h=>?_) ?_
     ·obtain⟨g,i,f,c,rfl,E,H⟩:=h
      exact⟨_,_,_,_,z,E.mono y,H.mono y⟩
     refine cu (fun _ _ y=>t' 11 bS' z z (O' _ _ _))<|db' (d:=67) (post:=fun G v=>∃ g i f c,v = .agg ([.bool j.num.neg,.slice g j.num.mag.length i,.bool j.den.neg,.slice f j.den.mag.length c]).toArray∧sl (Rp.int .u32) G g i j.num.mag∧sl (Rp.int .u32) G f c j.den.mag) (d':=66) (post':=fun G v=>∃ m n l k,v = .agg ([.bool I.num.neg,.slice m I.num.mag.length n,.bool I.den.neg,.slice l I.den.mag.length k]).toArray∧sl (Rp.int .u32) G m n I.num.mag∧sl (Rp.int .u32) G l k I.den.mag) (fun a7 a8 ba ae ah ag=>?_)
     obtain⟨g,i,f,c,rfl,E,H⟩:=ah
     obtain⟨m,n,l,k,rfl,F,D⟩:=ag
     refine yy (aq' (vs:=#[(0,.agg ([.bool j.num.neg,.slice g j.num.mag.length i,.bool j.den.neg,.slice f j.den.mag.length c]).toArray),(1,.agg (vecG (Value.int .i64) 8 B).toArray)]) (v:=.agg (([.bool j.num.neg,.slice g j.num.mag.length i,.bool j.den.neg,.slice f j.den.mag.length c]:List Value)++(vecG (Value.int .i64) 8 B)).toArray) z z (fun _=>by kernel_rfl)) z<|aU' (e:=101) (r:=r') (vs:=#[(0,.agg (([.bool j.num.neg,.slice g j.num.mag.length i,.bool j.den.neg,.slice f j.den.mag.length c]:List Value)++(vecG (Value.int .i64) 8 B)).toArray)]) (cs:=(([.bool j.num.neg,.slice g j.num.mag.length i,.bool j.den.neg,.slice f j.den.mag.length c]:List Value)++(vecG (Value.int .i64) 8 B))++([])) ([(Zc.mk j B)]:List Zc) z z z z z (by decide) (fun _=>by kernel_rfl) ⟨([.bool j.num.neg,.slice g j.num.mag.length i,.bool j.den.neg,.slice f j.den.mag.length c]:List Value)++(vecG (Value.int .i64) 8 B),[],z,⟨[.bool j.num.neg,.slice g j.num.mag.length i,.bool j.den.neg,.slice f j.den.mag.length c],vecG (Value.int .i64) 8 B,z,⟨(v58' j.num g i),(v58' j.den f c),z,⟨[.bool j.num.neg],[.slice g j.num.mag.length i],z,z,⟨_,z,E⟩⟩,⟨[.bool j.den.neg],[.slice f j.den.mag.length c],z,z,⟨_,z,H⟩⟩⟩,z⟩,z⟩ (key:=999) z (by rw[av]; rfl) (fun p2 bc V aT=>?_)
     obtain⟨be,aG,hr⟩:=hr
     refine M' z z (s' E58 z) (fw' aG) z (⟨(F.mono V),(D.mono V),aT⟩) (fun a2 bb ad af=>?_)
     obtain⟨a6,a9,rfl,aC⟩:=af
     obtain⟨aQ,az,hr⟩:=hr
     refine M' z z (s' E57 z) (eC' az) z (⟨(Z.mono (mt (mt (mt (mt O W) ae) V) ad)),aC⟩) (fun a3 aU ar ai=>?_)
     obtain⟨aI,aJ,rfl,aB⟩:=ai
     refine sg z z<|u'<|am'<|D'<|e'<|w'<|mv z z<|yy (N' z z) z<|sg z z<|u'<|P' ⟨aQ,aI,aJ,IntKind.i64.wrap (o+1),aU⟩ hr ⟨(mt (mt (mt (mt (mt (mt C O) W) ae) V) ad) ar),aB⟩ (fc z (fc z (fc z (fc z (fc z (fc z fn)))))) (wk (lc z ln))
 ·rintro⟨J,P,Q,Y⟩ ⟨aZ,aq,hr⟩
  refine e'<|sr<|mv z z<|sg z z<|nx<|j' ?_
  obtain rfl:_=r:=hr
  exact k' z z ⟨_,_,z,aq⟩
theorem fQ'{a0_1 a1_1 a0_1varsp a0_1varsc a0_1eqsp a0_1eqsc a0_1neqsp a0_1neqsc a1_1ptp a1_1ptc r}(hr:(Zfk a0_1 a1_1).Ret r):Ctr Tryz.prog 34 #[.agg ((v33' a0_1 a0_1varsp a0_1varsc a0_1eqsp a0_1eqsc a0_1neqsp a0_1neqsc)).toArray,.agg ([.int .u8 a1_1.kind,.int .u8 a1_1.a,.int .u8 a1_1.b,.int .u8 a1_1.n,.slice a1_1ptp a1_1.p.t.length a1_1ptc]).toArray] (fun G=>sl Rp.str G a0_1varsp a0_1varsc a0_1.vars∧sl a' G a0_1eqsp a0_1eqsc a0_1.eqs∧sl a' G a0_1neqsp a0_1neqsc a0_1.neqs∧sl (cv' .i8 5) G a1_1ptp a1_1ptc a1_1.p.t) (fun G v=>∃ W T,v = .agg ([i' r.kind,.string r.name,i' r.at',i' r.to',i' r.id,.slice W r.p.length T,.bool r.neq]).toArray∧sl r' G W T r.p):=by
 refine C' (args:=[_,_]) (N:=77) Tryz.func34 z z z (fun w0 G0 aC ae=>?_)
 obtain⟨B,aa,U,D⟩:=ae
 refine sr<|W' 2 z z z fun b1=>W' 3 z z z fun O=>T' 4 z z40 z fun L=>nr<|yy (ar' z) z<|yy (b' 2 bn' z z z) z<|yy (L' A' B z) z<|sg z z<|nx<|h'<|Y' [false,false,false,false,false,false,false,false,false,false,false,false,false,false,false,false,false,false,false,false,false,false,false,false,false,false,false,false,false,false,false,false,false,false,false,false] mix (by kernel_rfl) fun hb=>cn (fun _ d=>Y0.ZlO z)<|cn (fun _ d=>b' 3 sc5 z z z)<|cn (fun _ d=>bL' z z (by decide))<|cn (fun _ d=>aH' bi' az' z)<|cn (fun _ d=>N' z z)<|cn (fun _ d=>Y0.ZjE z)<|cn (fun _ d=>b' 3 sc5 z z z)<|cn (fun _ d=>aH' bi' az' z)<|cn (fun _ d=>f' z)<|cn (fun _ d=>N' z z) ?_
 obtain⟨aj,hr⟩:=hr
 refine cn (fun _ d=>bL' z z aj)<|cn (fun _ d=>Y0.ZlP z)<|cn (fun _ d=>b' 3 sc5 z z z)<|cn (fun _ d=>aH' bi' az' z)<|cn (fun _ d=>f' z)<|cn (fun _ d=>N' z z) ?_
 obtain⟨aq,hr⟩:=hr
 refine cn (fun _ d=>bL' z z aq)<|cn (fun _ d=>Y0.ZjF z)<|cn (fun _ d=>b' 3 sc5 z z z)<|cn (fun _ d=>aH' bi' az' z)<|cn (fun _ d=>bf' z)<|cn (fun _ d=>b' 2 sc3 z z z)<|cn (fun _ d=>N' z z) ?_
 obtain⟨am,hr⟩:=hr
 refine cn (fun _ d=>bL' z z am)<|cn (fun _ d=>Y0.ZlP z)<|cn (fun _ d=>b' 3 sc5 z z z)<|cn (fun _ d=>bL' z z (by decide))<|cn (fun _ d=>ak' z z) ?_
 obtain⟨s,ai,hr⟩:=hr
 refine aD' (post:=fun G v=>∃ k l,v = .slice k s.length l∧sl Rp.str G k l s) (fun _=>z) (fun _ _=>s' E62 z) (gA' ai) z (fun K d=>trivial) (fun v G1 G2 d h=>?_) ?_
 ·obtain⟨k,l,rfl,p⟩:=h
  exact⟨_,_,z,p.mono d⟩
 refine cu (fun _ _ d=>Y0.ZjF z)<|cu (fun _ _ d=>b' 3 sc5 z z z)<|cu (fun _ _ d=>bL' z z (by decide)) ?_
 obtain⟨A,V,hr⟩:=hr
 refine bj' (φ:=fun G v=>∃ q t,v = .pointer (some ⟨pb q,po q+(Int.tmod a1_1.n 6).toNat*1,none⟩)∧sl Rp.str G q t s) (fun _=>z) (fun v G1 G2 d h=>?_) (fun u K d hu=>?_) ?_
 ·obtain⟨q,t,rfl,C⟩:=h
  exact⟨_,_,z,C.mono d⟩
 ·obtain⟨⟨k,l,Q,p⟩,_⟩:=(show (fun G v=>∃ k l,v = .slice k s.length l∧sl Rp.str G k l s) K.m (u 38)∧True from hu)
  simp only[undFr,Q]
  exact⟨_,Q' A' sz9 p z z V,k,l,z,p⟩
 refine Chain.y0UD (c:=.string A) (fun _=>z) (fun u K d hu=>?_) ?_
 ·obtain⟨⟨q,t,P,C⟩,_,_⟩:=(show (fun G v=>∃ q t,v = .pointer (some ⟨pb q,po q+(Int.tmod a1_1.n 6).toNat*1,none⟩)∧sl Rp.str G q t s) K.m (u 42)∧True∧True from hu)
  simp only[undFr,P]
  exact U' sc9 z (bF' (Z' C V))
 refine cu (fun _ _ d=>aq' (vs:=#[(0,i' (IntKind.i64.wrap (1+(IntKind.i64.wrap (Int.tmod a1_1.kind 16))))),(2,i' (Int.tmod (IntKind.i64.wrap a1_1.a) (IntKind.i64.wrap ((a0_1.vars.length:Int)+1)))),(3,i' (Int.tmod (IntKind.i64.wrap a1_1.b) (IntKind.i64.wrap ((a0_1.vars.length:Int)+1)))),(4,i' (Int.tmod (IntKind.i64.wrap a1_1.n) (IntKind.i64.wrap (a0_1.next+1)))),(6,.bool (decide ((Int.tmod a1_1.b 4)=3))),(1,.string A)]) (v:=.agg ([i' (IntKind.i64.wrap (1+(IntKind.i64.wrap (Int.tmod a1_1.kind 16)))),.string A,i' (Int.tmod (IntKind.i64.wrap a1_1.a) (IntKind.i64.wrap ((a0_1.vars.length:Int)+1))),i' (Int.tmod (IntKind.i64.wrap a1_1.b) (IntKind.i64.wrap ((a0_1.vars.length:Int)+1))),i' (Int.tmod (IntKind.i64.wrap a1_1.n) (IntKind.i64.wrap (a0_1.next+1))),.slice none 0 0,.bool (decide ((Int.tmod a1_1.b 4)=3))]).toArray) z z (fun _=>by kernel_rfl))<|bq' (fun _=>z) z40<|Chain.tailX3 (fun aB aw az J Y I E F=>?_)
 obtain⟨M,rfl,Z⟩:=I
 obtain⟨q,t,rfl,C⟩:=E
 obtain⟨k,l,rfl,p⟩:=F
 refine cj' Z (bZ' (show WL _ _ _ _ _ _ (St w0 G0 J.m _) from ?_))
 refine v' 6 z bJ' z z z z z (List.all_eq_true.1 z)<|u'<|am'<|e'<|aV' (fun (⟨e,g,j,m⟩:Zd×Option Addr×Nat×Mem)=>[(3,.pointer (some ⟨O,0,none⟩)),(4,.pointer (some ⟨L,0,none⟩)),(5,i' (a0_1.vars.length:Int)),(6,.pointer (some ⟨M,0,none⟩))]) (fun ⟨e,g,j,m⟩=>Mem.le J.m m∧sl r' m g j e.p∧(ZaQ a0_1 a1_1 e).Ret r) (fun ⟨e,g,j,m⟩=>St w0 G0 m [(3,some ⟨O,.cells ([.int .u8 a1_1.kind,.int .u8 a1_1.a,.int .u8 a1_1.b,.int .u8 a1_1.n,.slice a1_1ptp a1_1.p.t.length a1_1ptc]).toArray 76 (0,0),0⟩),(4,some ⟨L,.cells ([i' 0,.string ByteArray.empty,i' 0,i' 0,i' 0,.slice none 0 0,.bool false]).toArray 40 (0,0),0⟩),(6,some ⟨M,.cells ([i' e.kind,.string e.name,i' e.at',i' e.to',i' e.id,.slice g e.p.length j,.bool e.neq]).toArray 40 (0,0),0⟩)]) ?_ ?_
 ·skip
  refine sr<|yy (Y0.ZlO z) z<|yy (b' 3 sc5 z z z) z<|yy (bL' z z (by decide)) z<|yy (bc' z z) z<|nx<|I' hr z (fun al hr=>?_) (fun al hr=>?_)
  ·refine sr<|yy (Y0.ZjE z) z<|yy (b' 3 sc5 z z z) z<|yy (bL' z z (by decide)) z<|yy (aH' bi' az' z) z<|yy (N' z z) z<|yy (bN' z) z<|au' 6 ([i' (IntKind.i64.wrap (5+(IntKind.i64.wrap (Int.tmod a1_1.a 4)))),.string A,i' (Int.tmod (IntKind.i64.wrap a1_1.a) (IntKind.i64.wrap ((a0_1.vars.length:Int)+1))),i' (Int.tmod (IntKind.i64.wrap a1_1.b) (IntKind.i64.wrap ((a0_1.vars.length:Int)+1))),i' (Int.tmod (IntKind.i64.wrap a1_1.n) (IntKind.i64.wrap (a0_1.next+1))),.slice none 0 0,.bool (decide ((Int.tmod a1_1.b 4)=3))]).toArray z sz3 z z z (show 0<7 by decide) z z<|nr<|yy (Y0.ZjE z) z<|yy (b' 3 sc5 z z z) z<|yy (bL' z z (by decide)) z<|yy (V' z z) z<|nx<|I' hr z (fun ak hr=>?_) (fun ak hr=>?_)
   ·refine w'<|yy (bN' z) z<|au' 6 ([i' 5,.string A,i' (Int.tmod (IntKind.i64.wrap a1_1.a) (IntKind.i64.wrap ((a0_1.vars.length:Int)+1))),i' (Int.tmod (IntKind.i64.wrap a1_1.b) (IntKind.i64.wrap ((a0_1.vars.length:Int)+1))),i' (Int.tmod (IntKind.i64.wrap a1_1.n) (IntKind.i64.wrap (a0_1.next+1))),.slice none 0 0,.bool (decide ((Int.tmod a1_1.b 4)=3))]).toArray z sz3 z z z (show 0<7 by decide) z z<|u'<|ap' ⟨(Zd.mk 5 A (Int.tmod (IntKind.i64.wrap a1_1.a) (IntKind.i64.wrap ((a0_1.vars.length:Int)+1))) (Int.tmod (IntKind.i64.wrap a1_1.b) (IntKind.i64.wrap ((a0_1.vars.length:Int)+1))) (Int.tmod (IntKind.i64.wrap a1_1.n) (IntKind.i64.wrap (a0_1.next+1))) [] (decide ((Int.tmod a1_1.b 4)=3))),none,0,J.m⟩ ⟨mr,(ah' _ _),hr⟩ (fc z (fc z (fc z (fc z fn)))) (wk (lc z (lc z (lc z ln))))
   ·refine o'<|ap' ⟨(Zd.mk (IntKind.i64.wrap (5+(IntKind.i64.wrap (Int.tmod a1_1.a 4)))) A (Int.tmod (IntKind.i64.wrap a1_1.a) (IntKind.i64.wrap ((a0_1.vars.length:Int)+1))) (Int.tmod (IntKind.i64.wrap a1_1.b) (IntKind.i64.wrap ((a0_1.vars.length:Int)+1))) (Int.tmod (IntKind.i64.wrap a1_1.n) (IntKind.i64.wrap (a0_1.next+1))) [] (decide ((Int.tmod a1_1.b 4)=3))),none,0,J.m⟩ ⟨mr,(ah' _ _),hr⟩ (fc z (fc z (fc z (fc z fn)))) (wk (lc z (lc z (lc z ln))))
  ·refine o'<|ap' ⟨(Zd.mk (IntKind.i64.wrap (1+(IntKind.i64.wrap (Int.tmod a1_1.kind 16)))) A (Int.tmod (IntKind.i64.wrap a1_1.a) (IntKind.i64.wrap ((a0_1.vars.length:Int)+1))) (Int.tmod (IntKind.i64.wrap a1_1.b) (IntKind.i64.wrap ((a0_1.vars.length:Int)+1))) (Int.tmod (IntKind.i64.wrap a1_1.n) (IntKind.i64.wrap (a0_1.next+1))) [] (decide ((Int.tmod a1_1.b 4)=3))),none,0,J.m⟩ ⟨mr,(ah' _ _),hr⟩ (fc z (fc z (fc z (fc z fn)))) (wk (lc z (lc z (lc z ln))))
 ·rintro⟨e,g,j,m⟩ ⟨R,y,hr⟩
  refine aV' (fun (⟨f,n,o,x⟩:Zd×Option Addr×Nat×Mem)=>[(3,.pointer (some ⟨O,0,none⟩)),(4,.pointer (some ⟨L,0,none⟩)),(5,i' (a0_1.vars.length:Int)),(6,.pointer (some ⟨M,0,none⟩))]) (fun ⟨f,n,o,x⟩=>Mem.le m x∧sl r' x n o f.p∧(ZbR a0_1 a1_1 f).Ret r) (fun ⟨f,n,o,x⟩=>St w0 G0 x [(3,some ⟨O,.cells ([.int .u8 a1_1.kind,.int .u8 a1_1.a,.int .u8 a1_1.b,.int .u8 a1_1.n,.slice a1_1ptp a1_1.p.t.length a1_1ptc]).toArray 76 (0,0),0⟩),(4,some ⟨L,.cells ([i' 0,.string ByteArray.empty,i' 0,i' 0,i' 0,.slice none 0 0,.bool false]).toArray 40 (0,0),0⟩),(6,some ⟨M,.cells ([i' f.kind,.string f.name,i' f.at',i' f.to',i' f.id,.slice n f.p.length o,.bool f.neq]).toArray 40 (0,0),0⟩)]) ?_ ?_
  ·skip
   refine sr<|yy (bN' z) z<|yy (b' 6 sc3 z z z) z<|aj' hr z (ak' z z) z (fun ap hr=>?_) (fun ap hr=>?_)
   ·refine mv z z<|gy z z (Y0.ZjF z) z<|gy z z (b' 3 sc5 z z z) z<|gy z z (bL' z z (by decide)) z<|gy z z (br' z z) z<|yy (m' z z) z<|nx<|I' hr z (fun an hr=>?_) (fun an hr=>?_)
    ·refine w'<|yy (aJ' z) z<|au' 6 ([i' e.kind,.string e.name,i' e.at',i' e.to',i' 0,.slice g e.p.length j,.bool e.neq]).toArray z sz3 z z z (show 4<7 by decide) z z<|u'<|ap' ⟨(Zd.mk e.kind e.name e.at' e.to' 0 e.p e.neq),g,j,m⟩ ⟨mr,y,hr⟩ (fc z (fc z (fc z (fc z fn)))) (wk (lc z (lc z (lc z ln))))
    ·refine o'<|ap' ⟨e,g,j,m⟩ ⟨mr,y,hr⟩ (fc z (fc z (fc z (fc z fn)))) (wk (lc z (lc z (lc z ln))))
   ·refine mv z z<|sk z z z<|sk z z z<|sk z z z<|sk z z z<|yy (l' z z) z<|nx<|bg' z<|o'<|ap' ⟨e,g,j,m⟩ ⟨mr,y,hr⟩ (fc z (fc z (fc z (fc z fn)))) (wk (lc z (lc z (lc z ln))))
  ·rintro⟨f,n,o,x⟩ ⟨S,ar,hr⟩
   refine sr<|yy (Y0.ZnJ z) z<|yy (av' ([.slice a1_1ptp a1_1.p.t.length a1_1ptc]).toArray 3 ag26 z z z (aM' ([.int .u8 a1_1.kind,.int .u8 a1_1.a,.int .u8 a1_1.b,.int .u8 a1_1.n]) ([.slice a1_1ptp a1_1.p.t.length a1_1ptc]) ([]))) z<|mv z z<|yy (Y0.min2 z z) z ?_
   obtain⟨ao,af,hr⟩:=hr
   refine M' z z (s' E35 z) (fP' af) z ((D.mono (mt (mt Y R) S))) (fun ay aA au H=>?_)
   obtain⟨ac,ad,rfl,X⟩:=H
   refine yy (cD' z) z<|au' 6 ([i' f.kind,.string f.name,i' f.at',i' f.to',i' f.id,.slice ac ao.length ad,.bool f.neq]).toArray z sz38 z z z (show 5<7 by decide) z z<|nr<|yy (t' 6 bw' z z z) z<|v' 4 z bJ' z z z z z (List.all_eq_true.1 z)<|nx<|j' ?_
   obtain rfl:_=r:=hr
   exact k' z (ac' (i:=4) bw' z z z) ⟨_,_,z,X⟩
theorem fi'{b1 r}(hr:(Zcl b1).Ret r):Ctr Tryz.prog 81 #[.int .u8 b1] (fun G=>True) (fun G v=>v = .bool r):=by
 refine C' (args:=[_]) (N:=17) Tryz.func81 z z z fun i j h g=>sr<|sg z z<|nr<|mv z z<|aj' hr z (bc' z z) z (fun e hr=>?_) (fun e hr=>?_)
 ·refine mv z z<|gy z z (f' z) z<|aj' hr (H' z z) (bz' z z) z (fun d hr=>?_) (fun d hr=>?_)
  ·refine yy (m' z z) z<|mv z z<|sf z z z<|sf z z z<|sf z z z<|aB' (af' z z) z<|aB' (af' z z) z<|sf z z z<|yy (m' z z) z<|sg z z<|nx<|j' ?_
   obtain rfl:_=r:=hr
   exact k' z z z
  ·refine yy (m' z z) z<|mv z z<|gy z z (f' z) z<|aj' hr (H' z z) (bc' z z) z (fun f hr=>?_) (fun f hr=>?_)
   ·refine gy z z (f' z) z<|gy z z (f' z) z<|gy z z (bz' z z) z<|gy z z (m' z z) z<|yy (l' z z) z<|sg z z<|nx<|j' ?_
    obtain rfl:_=r:=hr
    exact k' z z z
   ·refine gy z z (f' z) z<|sk z z z<|sk z z z<|gy z z (l' z z) z<|yy (l' z z) z<|sg z z<|nx<|j' ?_
    obtain rfl:_=r:=hr
    exact k' z z z
 ·refine mv z z<|sk z z z<|sk z z z<|yy (l' z z) z<|mv z z<|gy z z (f' z) z<|aj' hr (H' z z) (bc' z z) z (fun c hr=>?_) (fun c hr=>?_)
  ·refine gy z z (f' z) z<|gy z z (f' z) z<|gy z z (bz' z z) z<|gy z z (m' z z) z<|yy (l' z z) z<|sg z z<|nx<|j' ?_
   obtain rfl:_=r:=hr
   exact k' z z z
  ·refine gy z z (f' z) z<|sk z z z<|sk z z z<|gy z z (l' z z) z<|yy (l' z z) z<|sg z z<|nx<|j' ?_
   obtain rfl:_=r:=hr
   exact k' z z z
theorem eQ'{s1 r}(hr:(ZdU s1).Ret r):Ctr Tryz.prog 47 #[.string s1] (fun G=>True) (fun G v=>v = .bool r):=by
 refine C' (args:=[_]) (N:=48) Tryz.func47 z z z fun k j Q M=>sr<|sg z z<|nx<|aV' (fun (e:Mem)=>match e with|f=>[(0,.string s1)]) (fun (e:Mem)=>match e with|f=>Mem.le j f∧(ZgU s1).Ret r) (fun (e:Mem)=>match e with|f=>St k j f []) ?_ ?_
 ·skip
  refine sr<|mv z z<|yy (Y0.lenS aQ' z) z<|aj' hr z (V' z z) z (fun A hr=>?_) (fun A hr=>?_)
  ·refine mv z z<|sf z z z<|sf z z z<|sf z z z<|yy (m' z z) z<|mv z z<|sf z z z<|sf z z z<|sf z z z<|sf z z z<|yy (m' z z) z<|nx<|at' z<|sr<|sg z z<|nx<|j' ?_
   replace hr:_=r:=hr
   refine g' ?_
   subst hr
   exact k' z z z
  ·refine mv z z<|gy z z (f' z) z<|gy z z (Y0.lenS aQ' z) z<|aj' hr (H' z z) (br' z z) z (fun x hr=>?_) (fun x hr=>?_)
   ·refine yy (l' z z) z<|mv z z<|sf z z z<|sf z z z<|sf z z z<|sf z z z<|yy (m' z z) z<|nx<|at' z<|sr<|sg z z<|nx<|j' ?_
    replace hr:_=r:=hr
    refine g' ?_
    subst hr
    exact k' z z z
   ·refine yy (l' z z) z<|mv z z<|gy z z (f' z) z ?_
    obtain⟨C,hr⟩:=hr
    refine gy z z (dg' (s:=s1) aQ' z z C) z ?_
    obtain⟨P,l,hr⟩:=hr
    refine F' (H' z z) z (s' E81 z) (fi' l) z (trivial)<|gy z z (ao' z) z<|yy (l' z z) z<|nx<|aN' hr z (fun t hr=>?_) (fun t hr=>?_)
    ·refine sr<|sg z z<|nx<|j' ?_
     replace hr:_=r:=hr
     refine g' ?_
     subst hr
     exact k' z z z
    ·refine o'<|ap' j ⟨mr,hr⟩ (fc z fn) (wk ln)
 ·rintro f ⟨I,hr⟩
  refine h'<|sr<|sg z z<|nx<|aa' (fun (e:Mem)=>match e with|h=>[]) (fun (e:Mem)=>match e with|h=>Mem.le f h∧(ZeI).Ret r) (fun (e:Mem)=>match e with|h=>St k j h []) ?_ ?_
  ·refine B' ?_
   let i:(Bool⊕Unit)→Prop:=fun K=>((fun O=>match O with | .inl rv1=>Comp.ret rv1 | .inr ()=>ZeI:(Bool⊕Unit)→Comp Bool) K).wp (fun a=>a=r)
   replace hr:(Comp.loop _ _).wp i:=hr
   refine ab' (Φ:=i) (fun (⟨g,c⟩:Int×Mem)=>(g:Int)) (fun ⟨g,c⟩=>[(0,.string s1),(3,i' g)]) (fun ⟨g,c⟩=>Mem.le f c) (fun ⟨g,c⟩=>St k j c []) ⟨1,f⟩ hr (fc z (fc z fn)) mr (wk ln) ?_
   ·intro R e L hr
    obtain⟨g,c⟩:=e
    have d:=L
    refine h'<|sr<|mv z z<|mv z z<|yy (Y0.lenS aQ' z) z<|yy (V' z z) z<|nx<|I' hr z (fun u hr=>?_) (fun u hr=>?_)
    ·refine o'<|e'<|h'<|B'<|sr<|mv z z<|mv z z ?_
     obtain⟨F,hr⟩:=hr
     refine yy (dg' (s:=s1) aQ' z z F) z ?_
     obtain⟨o,m,hr⟩:=hr
     refine F' z z (s' E81 z) (fi' m) z (trivial) ?_
     cases o
     ·skip
      refine yy (ao' z) z<|mv z z<|gy z z (f' z) z<|gy z z (f' z) z ?_
      obtain⟨B,hr⟩:=hr
      refine gy z z (dg' (s:=s1) aQ' z z B) z<|aj' hr (H' z z) (bc' z z) z (fun E hr=>?_) (fun E hr=>?_)
      ·refine gy z z (f' z) z<|gy z z (f' z) z<|gy z z (f' z) z ?_
       obtain⟨H,hr⟩:=hr
       refine gy z z (dg' (s:=s1) aQ' z z H) z<|aj' hr (H' z z) (bz' z z) z (fun y hr=>?_) (fun y hr=>?_)
       ·refine gy z z (m' z z) z<|gy z z (ao' z) z<|yy (m' z z) z<|mv z z<|sk z z z<|sk z z z<|sk z z z<|sk z z z<|yy (l' z z) z<|nx<|bg' z<|o'<|D'<|e'<|w'<|mv z z<|yy (N' z z) z<|sg z z<|u'<|P' ⟨IntKind.i64.wrap (g+1),c⟩ hr d (fc z (fc z fn)) (wk ln)
       ·refine gy z z (m' z z) z<|gy z z (ao' z) z<|yy (m' z z) z<|mv z z<|gy z z (f' z) z<|gy z z (f' z) z ?_
        obtain⟨n,hr⟩:=hr
        refine gy z z (dg' (s:=s1) aQ' z z n) z<|gy z z (aR' z z) z<|yy (m' z z) z<|nx<|I' hr z (fun q hr=>?_) (fun q hr=>?_)
        ·refine sr<|sg z z<|nx<|j' ?_
         replace hr:_=r:=hr
         refine x'<|g'<|g'<|x'<|aI'<|g' ?_
         subst hr
         exact k' z z z
        ·refine o'<|D'<|e'<|w'<|mv z z<|yy (N' z z) z<|sg z z<|u'<|P' ⟨IntKind.i64.wrap (g+1),c⟩ hr d (fc z (fc z fn)) (wk ln)
      ·refine gy z z (f' z) z<|sk z z z<|sk z z z<|sk z z z<|sk z z z<|gy z z (l' z z) z<|gy z z (ao' z) z<|yy (m' z z) z<|mv z z<|gy z z (f' z) z<|gy z z (f' z) z ?_
       obtain⟨D,hr⟩:=hr
       refine gy z z (dg' (s:=s1) aQ' z z D) z<|gy z z (aR' z z) z<|yy (m' z z) z<|nx<|I' hr z (fun p hr=>?_) (fun p hr=>?_)
       ·refine sr<|sg z z<|nx<|j' ?_
        replace hr:_=r:=hr
        refine x'<|g'<|g'<|x'<|aI'<|g' ?_
        subst hr
        exact k' z z z
       ·refine o'<|D'<|e'<|w'<|mv z z<|yy (N' z z) z<|sg z z<|u'<|P' ⟨IntKind.i64.wrap (g+1),c⟩ hr d (fc z (fc z fn)) (wk ln)
     ·skip
      refine yy (ao' z) z<|mv z z<|sk z z z<|sk z z z<|sk z z z<|sk z z z<|sk z z z<|aB' (af' z z) z<|aB' (af' z z) z<|aB' (af' z z) z<|aB' (af' z z) z<|sk z z z<|sk z z z<|yy (l' z z) z<|mv z z<|sk z z z<|sk z z z<|sk z z z<|sk z z z<|yy (l' z z) z<|nx<|bg' z<|o'<|D'<|e'<|w'<|mv z z<|yy (N' z z) z<|sg z z<|u'<|P' ⟨IntKind.i64.wrap (g+1),c⟩ hr d (fc z (fc z fn)) (wk ln)
    ·refine ad'<|n'<|n'<|J'<|ae' c ⟨d,hr⟩ fn (wk ln)
  ·rintro h ⟨J,hr⟩
   refine e'<|sr<|sg z z<|nx<|j' ?_
   obtain rfl:_=r:=hr
   exact k' z z z
theorem fy'{s1 name1 s1varsp s1varsc s1eqsp s1eqsc s1neqsp s1neqsc r}(hr:(Zej s1 name1).Ret r):Ctr Tryz.prog 72 #[.agg ((v33' s1 s1varsp s1varsc s1eqsp s1eqsc s1neqsp s1neqsc)).toArray,.string name1] (fun G=>sl Rp.str G s1varsp s1varsc s1.vars∧sl a' G s1eqsp s1eqsc s1.eqs∧sl a' G s1neqsp s1neqsc s1.neqs) (fun G v=>v=i' r):=by
 refine C' (args:=[_,_]) (N:=21) Tryz.func72 z z z (fun q j A l=>?_)
 obtain⟨d,n,m⟩:=l
 refine sr<|W' 2 z z z fun p=>sg z z<|nx<|h'<|sr<|sg z z<|nx<|aa' (fun (h:Mem)=>match h with|f=>[]) (fun (h:Mem)=>match h with|f=>Mem.le j f∧(ZdV).Ret r) (fun (h:Mem)=>match h with|f=>St q j f []) ?_ ?_
 ·refine B' ?_
  let i:(Int⊕Unit)→Prop:=fun u=>((fun y=>match y with | .inl rv1=>Comp.ret rv1 | .inr ()=>ZdV:(Int⊕Unit)→Comp Int) u).wp (fun a=>a=r)
  replace hr:(Comp.loop _ _).wp i:=hr
  refine ab' (Φ:=i) (fun (⟨g,e⟩:Int×Mem)=>(g:Int)) (fun ⟨g,e⟩=>[(1,.string name1),(2,.pointer (some ⟨p,0,none⟩)),(5,i' g)]) (fun ⟨g,e⟩=>Mem.le j e) (fun ⟨g,e⟩=>St q j e [(2,some ⟨p,.cells ((v33' s1 s1varsp s1varsc s1eqsp s1eqsc s1neqsp s1neqsc)).toArray 33 (0,0),0⟩)]) ⟨0,j⟩ hr (fc z (fc z (fc z fn))) mr (wk (lc z ln)) ?_
  ·intro B h x hr
   obtain⟨g,e⟩:=h
   have c:=x
   refine h'<|sr<|mv z z<|yy (ar' z) z<|yy (b' 2 bn' z z z) z<|yy (L' A' (d.mono c) z) z<|yy (V' z z) z<|nx<|I' hr z (fun s hr=>?_) (fun s hr=>?_)
   ·refine o'<|e'<|h'<|B'<|sr<|yy (ar' z) z<|yy (b' 2 bn' z z z) z<|mv z z ?_
    obtain⟨C,k,hr⟩:=hr
    refine yy (Q' A' sz9 (d.mono c) z z k) z<|yy (U' sc9 z (bF' (E' (Z' d k) c))) z<|mv z z<|yy (Y0.eqlS aQ' z z) z<|nx<|I' hr z (fun o hr=>?_) (fun o hr=>?_)
    ·refine sr<|mv z z<|sg z z<|nx<|j' ?_
     replace hr:_=r:=hr
     refine x'<|g'<|g'<|x'<|aI'<|g' ?_
     subst hr
     exact k' z z z
    ·refine o'<|D'<|e'<|w'<|mv z z<|yy (N' z z) z<|sg z z<|u'<|P' ⟨IntKind.i64.wrap (g+1),e⟩ hr c (fc z (fc z (fc z fn))) (wk (lc z ln))
   ·refine ad'<|n'<|n'<|J'<|ae' e ⟨c,hr⟩ fn (wk ln)
 ·rintro f ⟨t,hr⟩
  refine e'<|sr<|sg z z<|nx<|j' ?_
  obtain rfl:_=r:=hr
  exact k' z z z
theorem eR'{s1 atv1 s1varsp s1varsc s1eqsp s1eqsc s1neqsp s1neqsc r}(hr:(ZdW s1 atv1).Ret r):Ctr Tryz.prog 73 #[.agg ((v33' s1 s1varsp s1varsc s1eqsp s1eqsc s1neqsp s1neqsc)).toArray,i' atv1] (fun G=>sl Rp.str G s1varsp s1varsc s1.vars∧sl a' G s1eqsp s1eqsc s1.eqs∧sl a' G s1neqsp s1neqsc s1.neqs) (fun G v=>v = .bool r):=by
 refine C' (args:=[_,_]) (N:=14) Tryz.func73 z z z (fun j k h d=>?_)
 obtain⟨c,g,e⟩:=d
 refine sr<|W' 2 z z z fun i=>sg z z<|nr<|mv z z<|aj' hr z (bc' z z) z (fun f hr=>?_) (fun f hr=>?_)
 ·refine mv z z<|gy z z (f' z) z<|gy z z (ar' z) z<|gy z z (b' 2 bn' z z z) z<|gy z z (L' A' c z) z<|gy z z (V' z z) z<|yy (m' z z) z<|sg z z<|nx<|j' ?_
  obtain rfl:_=r:=hr
  exact k' z z z
 ·refine mv z z<|sk z z z<|sk z z z<|sk z z z<|sk z z z<|sk z z z<|yy (l' z z) z<|sg z z<|nx<|j' ?_
  obtain rfl:_=r:=hr
  exact k' z z z
theorem gS'{i1 r}(hr:(Zik i1).Ret r):Ctr Tryz.prog 182 #[i' i1] (fun G=>True) (fun G v=>v = .int .u8 r):=by
 refine C' (args:=[_]) (N:=14) Tryz.func182 z z z fun k j t q=>sr<|sg z z<|nr<|sg z z<|nx<|h'<|sr<|sg z z<|nx<|aa' (fun (⟨g,d⟩:Int×Mem)=>[(3,i' g)]) (fun ⟨g,d⟩=>Mem.le j d∧(Zfa g).Ret r) (fun ⟨g,d⟩=>St k j d []) ?_ ?_
 ·refine B' ?_
  let i:Int→Prop:=fun o=>((fun s=>match s with|g=>Zfa g:Int→Comp Int) o).wp (fun a=>a=r)
  replace hr:(Comp.loop _ _).wp i:=hr
  refine ab' (Φ:=i) (fun (⟨e,f,c⟩:Int×Int×Mem)=>((e,f):Int×Int)) (fun ⟨e,f,c⟩=>[(0,i' i1),(3,i' e),(4,i' f)]) (fun ⟨e,f,c⟩=>Mem.le j c) (fun ⟨e,f,c⟩=>St k j c []) ⟨1,0,j⟩ hr (fc z (fc z (fc z fn))) mr (wk ln) ?_
  ·intro u n p hr
   obtain⟨e,f,c⟩:=n
   have h:=p
   refine h'<|sr<|mv z z<|mv z z<|yy (V' z z) z<|nx<|I' hr z (fun l hr=>?_) (fun l hr=>?_)
   ·refine o'<|e'<|h'<|B'<|w'<|mv z z<|yy (dG' z z) z<|sg z z<|u'<|D'<|e'<|w'<|mv z z<|yy (N' z z) z<|sg z z<|u'<|P' ⟨IntKind.i64.wrap (2*e),IntKind.i64.wrap (f+1),c⟩ hr h (fc z (fc z (fc z fn))) (wk ln)
   ·refine ad'<|n'<|n'<|J'<|ae' ⟨e,c⟩ ⟨h,hr⟩ (fc z fn) (wk ln)
 ·rintro⟨g,d⟩ ⟨m,hr⟩
  refine e'<|sr<|mv z z<|yy (aH' az' bi' z) z<|sg z z<|nx<|j' ?_
  obtain rfl:_=r:=hr
  exact k' z z z
theorem gm'{m1 r}(hr:(ZeC m1).Ret r):Ctr Tryz.prog 157 #[.agg (vecG (Value.int .i64) 8 m1).toArray] (fun G=>True) (fun G v=>v = .int .u8 r):=by
 refine C' (args:=[_]) (N:=18) Tryz.func157 z z z fun p j B y=>sr<|W' 1 z z z fun o=>sg z z<|nr<|sg z z<|nx<|h'<|sr<|sg z z<|nx<|aa' (fun (⟨h,f⟩:Int×Mem)=>[(3,.int .u8 h)]) (fun ⟨h,f⟩=>Mem.le j f∧(ZcI h).Ret r) (fun ⟨h,f⟩=>St p j f []) ?_ ?_
 ·refine B' ?_
  let i:Int→Prop:=fun u=>((fun A=>match A with|h=>ZcI h:Int→Comp Int) u).wp (fun a=>a=r)
  replace hr:(Comp.loop _ _).wp i:=hr
  refine ab' (Φ:=i) (fun (⟨d,g,c⟩:Int×Int×Mem)=>((d,g):Int×Int)) (fun ⟨d,g,c⟩=>[(1,.pointer (some ⟨o,0,none⟩)),(3,.int .u8 d),(4,i' g)]) (fun ⟨d,g,c⟩=>Mem.le j c) (fun ⟨d,g,c⟩=>St p j c [(1,some ⟨o,.cells (vecG (Value.int .i64) 8 m1).toArray 99 (0,0),0⟩)]) ⟨0,0,j⟩ hr (fc z (fc z (fc z fn))) mr (wk (lc z ln)) ?_
  ·intro C t x hr
   obtain⟨d,g,c⟩:=t
   have e:=x
   refine h'<|sr<|mv z z<|yy (V' z z) z<|nx<|I' hr z (fun q hr=>?_) (fun q hr=>?_)
   ·refine o'<|e'<|h'<|B'<|sr<|mv z z ?_
    obtain⟨k,hr⟩:=hr
    refine yy (aW' aG' sz3 z z k) z<|yy (b' 1 sc3 z z (by' _ _ _ k)) z<|yy (br' z z) z<|nx<|I' hr z (fun n hr=>?_) (fun n hr=>?_)
    ·refine w'<|mv z z<|mv z z ?_
     obtain⟨m,l,hr⟩:=hr
     refine F' z z (s' E182 z) (gS' l) z (trivial)<|yy (N' z z) z<|sg z z<|u'<|D'<|e'<|w'<|mv z z<|yy (N' z z) z<|sg z z<|u'<|P' ⟨IntKind.u8.wrap (d+m),IntKind.i64.wrap (g+1),c⟩ hr e (fc z (fc z (fc z fn))) (wk (lc z ln))
    ·refine o'<|D'<|e'<|w'<|mv z z<|yy (N' z z) z<|sg z z<|u'<|P' ⟨d,IntKind.i64.wrap (g+1),c⟩ hr e (fc z (fc z (fc z fn))) (wk (lc z ln))
   ·refine ad'<|n'<|n'<|J'<|ae' ⟨d,c⟩ ⟨e,hr⟩ (fc z fn) (wk ln)
 ·rintro⟨h,f⟩ ⟨s,hr⟩
  refine e'<|sr<|mv z z<|sg z z<|nx<|j' ?_
  obtain rfl:_=r:=hr
  exact k' z z z
theorem ez'{p1 p1p p1c r}(hr:(ZdR p1).Ret r):Ctr Tryz.prog 121 #[.slice p1p p1.length p1c] (fun G=>sl r' G p1p p1c p1) (fun G v=>v = .int .u8 r):=by
 refine C' (args:=[_]) (N:=20) Tryz.func121 z z z (fun p j A m=>?_)
 have k:=m
 refine sr<|sg z z<|nr<|sg z z<|nx<|h'<|sr<|sg z z<|nx<|aa' (fun (⟨d,g⟩:Int×Mem)=>[(3,.int .u8 d)]) (fun ⟨d,g⟩=>Mem.le j g∧(ZeH d).Ret r) (fun ⟨d,g⟩=>St p j g []) ?_ ?_
 ·refine B' ?_
  let i:Int→Prop:=fun u=>((fun y=>match y with|d=>ZeH d:Int→Comp Int) u).wp (fun a=>a=r)
  replace hr:(Comp.loop _ _).wp i:=hr
  refine ab' (Φ:=i) (fun (⟨c,h,f⟩:Int×Int×Mem)=>((c,h):Int×Int)) (fun ⟨c,h,f⟩=>[(0,.slice p1p p1.length p1c),(3,.int .u8 c),(4,i' h)]) (fun ⟨c,h,f⟩=>Mem.le j f) (fun ⟨c,h,f⟩=>St p j f []) ⟨0,0,j⟩ hr (fc z (fc z (fc z fn))) mr (wk ln) ?_
  ·intro B t x hr
   obtain⟨c,h,f⟩:=t
   have e:=x
   refine h'<|sr<|mv z z<|mv z z<|yy (L' R' (k.mono e) z) z<|yy (V' z z) z<|nx<|I' hr z (fun q hr=>?_) (fun q hr=>?_)
   ·refine o'<|e'<|h'<|B'<|w'<|mv z z<|mv z z<|mv z z ?_
    obtain⟨C,l,hr⟩:=hr
    refine yy (Q' R' bD' (k.mono e) z z l) z<|yy (bm' z) z<|yy (aw' _ bS' z (O' _ _ _) (cW' (E' (aK' (aF' (Z' k l))) e))) z ?_
    obtain⟨o,n,hr⟩:=hr
    refine F' z z (s' E157 z) (gm' n) z (trivial)<|yy (Y0.or z z) z<|sg z z<|u'<|D'<|e'<|w'<|mv z z<|yy (N' z z) z<|sg z z<|u'<|P' ⟨IntKind.u8.wrap (BitVec.ofInt IntKind.u8.bits c ||| BitVec.ofInt IntKind.u8.bits o).toNat,IntKind.i64.wrap (h+1),f⟩ hr e (fc z (fc z (fc z fn))) (wk ln)
   ·refine ad'<|n'<|n'<|J'<|ae' ⟨c,f⟩ ⟨e,hr⟩ (fc z fn) (wk ln)
 ·rintro⟨d,g⟩ ⟨s,hr⟩
  refine e'<|sr<|mv z z<|sg z z<|nx<|j' ?_
  obtain rfl:_=r:=hr
  exact k' z z z
theorem gJ'{s1 atv1 s1varsp s1varsc s1eqsp s1eqsc s1neqsp s1neqsc r}(hr:(Zhh s1 atv1).Ret r):Ctr Tryz.prog 74 #[.agg ((v33' s1 s1varsp s1varsc s1eqsp s1eqsc s1neqsp s1neqsc)).toArray,i' atv1] (fun G=>sl Rp.str G s1varsp s1varsc s1.vars∧sl a' G s1eqsp s1eqsc s1.eqs∧sl a' G s1neqsp s1neqsc s1.neqs) (fun G v=>v = .bool r):=by
 refine C' (args:=[_,_]) (N:=45) Tryz.func74 z z z (fun t n Y B=>?_)
 obtain⟨F,j,f⟩:=B
 refine sr<|W' 2 z z z fun p=>sg z z<|nx<|h'<|sr<|sg z z<|nx<|aa' (fun (c:Mem)=>match c with|g=>[(1,i' atv1),(2,.pointer (some ⟨p,0,none⟩))]) (fun (c:Mem)=>match c with|g=>Mem.le n g∧(Zc3 s1 atv1).Ret r) (fun (c:Mem)=>match c with|g=>St t n g [(2,some ⟨p,.cells ((v33' s1 s1varsp s1varsc s1eqsp s1eqsc s1neqsp s1neqsc)).toArray 33 (0,0),0⟩)]) ?_ ?_
 ·refine B' ?_
  let s:(Bool⊕Unit)→Prop:=fun y=>((fun C=>match C with | .inl rv2=>Comp.ret rv2 | .inr ()=>Zc3 s1 atv1:(Bool⊕Unit)→Comp Bool) y).wp (fun a=>a=r)
  replace hr:(Comp.loop _ _).wp s:=hr
  refine ab' (Φ:=s) (fun (⟨o,i⟩:Int×Mem)=>(o:Int)) (fun ⟨o,i⟩=>[(1,i' atv1),(2,.pointer (some ⟨p,0,none⟩)),(5,i' o)]) (fun ⟨o,i⟩=>Mem.le n i) (fun ⟨o,i⟩=>St t n i [(2,some ⟨p,.cells ((v33' s1 s1varsp s1varsc s1eqsp s1eqsc s1neqsp s1neqsc)).toArray 33 (0,0),0⟩)]) ⟨0,n⟩ hr (fc z (fc z (fc z fn))) mr (wk (lc z ln)) ?_
  ·intro W c A hr
   obtain⟨o,i⟩:=c
   have e:=A
   refine h'<|sr<|mv z z<|yy (ax' z) z<|yy (b' 2 aS' z z z) z<|yy (L' q' (j.mono e) z) z<|yy (V' z z) z<|nx<|I' hr z (fun I hr=>?_) (fun I hr=>?_)
   ·refine o'<|e'<|h'<|B'<|sr<|yy (ax' z) z<|yy (b' 2 aS' z z z) z<|mv z z ?_
    obtain⟨x2,u,hr⟩:=hr
    refine yy (Q' q' aP' (j.mono e) z z u) z<|yy (bs' z) z ?_
    obtain⟨p2,U,P,L⟩:=ca' (E' (aK' (aF' (Z' j u))) e)
    refine yy (U' bQ' z (P)) z ?_
    obtain⟨V,D,hr⟩:=hr
    refine F' z z (s' E121 z) (ez' D) z (L)<|yy (aH' bi' az' z) z<|mv z z ?_
    obtain⟨R,hr⟩:=hr
    refine yy (Y0.shr z z R) z<|yy (bL' z z (by decide)) z<|yy (ak' z z) z<|nx<|I' hr z (fun K hr=>?_) (fun K hr=>?_)
    ·refine sr<|sg z z<|nx<|j' ?_
     replace hr:_=r:=hr
     refine x'<|g'<|g'<|x'<|aI'<|g' ?_
     subst hr
     exact k' z z z
    ·refine o'<|D'<|e'<|w'<|mv z z<|yy (N' z z) z<|sg z z<|u'<|P' ⟨IntKind.i64.wrap (o+1),i⟩ hr e (fc z (fc z (fc z fn))) (wk (lc z ln))
   ·refine ad'<|n'<|n'<|J'<|ae' i ⟨e,hr⟩ (fc z (fc z fn)) (wk (lc z ln))
 ·rintro g ⟨k,hr⟩
  refine e'<|h'<|sr<|sg z z<|nx<|aa' (fun (c:Mem)=>match c with|l=>[]) (fun (c:Mem)=>match c with|l=>Mem.le g l∧(ZeN).Ret r) (fun (c:Mem)=>match c with|l=>St t n l []) ?_ ?_
  ·refine B' ?_
   let q:(Bool⊕Unit)→Prop:=fun y=>((fun C=>match C with | .inl rv1=>Comp.ret rv1 | .inr ()=>ZeN:(Bool⊕Unit)→Comp Bool) y).wp (fun a=>a=r)
   replace hr:(Comp.loop _ _).wp q:=hr
   refine ab' (Φ:=q) (fun (⟨m,h⟩:Int×Mem)=>(m:Int)) (fun ⟨m,h⟩=>[(1,i' atv1),(2,.pointer (some ⟨p,0,none⟩)),(6,i' m)]) (fun ⟨m,h⟩=>Mem.le g h) (fun ⟨m,h⟩=>St t n h [(2,some ⟨p,.cells ((v33' s1 s1varsp s1varsc s1eqsp s1eqsc s1neqsp s1neqsc)).toArray 33 (0,0),0⟩)]) ⟨0,g⟩ hr (fc z (fc z (fc z fn))) mr (wk (lc z ln)) ?_
   ·intro Z c A hr
    obtain⟨m,h⟩:=c
    have d:=A
    refine h'<|sr<|mv z z<|yy (aL' z) z<|yy (b' 2 aS' z z z) z<|yy (L' q' (f.mono (mt k d)) z) z<|yy (V' z z) z<|nx<|I' hr z (fun M hr=>?_) (fun M hr=>?_)
    ·refine o'<|e'<|h'<|B'<|sr<|yy (aL' z) z<|yy (b' 2 aS' z z z) z<|mv z z ?_
     obtain⟨x1,x,hr⟩:=hr
     refine yy (Q' q' aP' (f.mono (mt k d)) z z x) z<|yy (bs' z) z ?_
     obtain⟨p1,X,Q,O⟩:=ca' (E' (aK' (aF' (Z' f x))) (mt k d))
     refine yy (U' bQ' z (Q)) z ?_
     obtain⟨T,E,hr⟩:=hr
     refine F' z z (s' E121 z) (ez' E) z (O)<|yy (aH' bi' az' z) z<|mv z z ?_
     obtain⟨H,hr⟩:=hr
     refine yy (Y0.shr z z H) z<|yy (bL' z z (by decide)) z<|yy (ak' z z) z<|nx<|I' hr z (fun J hr=>?_) (fun J hr=>?_)
     ·refine sr<|sg z z<|nx<|j' ?_
      replace hr:_=r:=hr
      refine x'<|g'<|g'<|x'<|aI'<|g' ?_
      subst hr
      exact k' z z z
     ·refine o'<|D'<|e'<|w'<|mv z z<|yy (N' z z) z<|sg z z<|u'<|P' ⟨IntKind.i64.wrap (m+1),h⟩ hr d (fc z (fc z (fc z fn))) (wk (lc z ln))
    ·refine ad'<|n'<|n'<|J'<|ae' h ⟨d,hr⟩ fn (wk ln)
  ·rintro l ⟨S,hr⟩
   refine e'<|sr<|sg z z<|nx<|j' ?_
   obtain rfl:_=r:=hr
   exact k' z z z
theorem dl'{l1 id1 l1p l1c r}(hr:(ZbZ l1 id1).Ret r):Ctr Tryz.prog 43 #[.slice l1p l1.length l1c,i' id1] (fun G=>sl a' G l1p l1c l1) (fun G v=>v=i' r):=by
 refine C' (args:=[_,_]) (N:=20) Tryz.func43 z z z (fun n j u l=>?_)
 have h:=l
 refine sr<|sg z z<|nx<|h'<|sr<|sg z z<|nx<|aa' (fun (g:Mem)=>match g with|e=>[]) (fun (g:Mem)=>match g with|e=>Mem.le j e∧(ZeM).Ret r) (fun (g:Mem)=>match g with|e=>St n j e []) ?_ ?_
 ·refine B' ?_
  let i:(Int⊕Unit)→Prop:=fun q=>((fun t=>match t with | .inl rv1=>Comp.ret rv1 | .inr ()=>ZeM:(Int⊕Unit)→Comp Int) q).wp (fun a=>a=r)
  replace hr:(Comp.loop _ _).wp i:=hr
  refine ab' (Φ:=i) (fun (⟨f,d⟩:Int×Mem)=>(f:Int)) (fun ⟨f,d⟩=>[(0,.slice l1p l1.length l1c),(1,i' id1),(5,i' f)]) (fun ⟨f,d⟩=>Mem.le j d) (fun ⟨f,d⟩=>St n j d []) ⟨0,j⟩ hr (fc z (fc z (fc z fn))) mr (wk ln) ?_
  ·intro x g s hr
   obtain⟨f,d⟩:=g
   have c:=s
   refine h'<|sr<|mv z z<|mv z z<|yy (L' q' (h.mono c) z) z<|yy (V' z z) z<|nx<|I' hr z (fun o hr=>?_) (fun o hr=>?_)
   ·refine o'<|e'<|h'<|B'<|sr<|mv z z<|mv z z ?_
    obtain⟨y,k,hr⟩:=hr
    refine yy (Q' q' aP' (h.mono c) z z k) z<|yy (bb' z) z<|yy (U' sc3 z (aC' (E' (be' (aF' (Z' h k))) c))) z<|mv z z<|yy (ak' z z) z<|nx<|I' hr z (fun m hr=>?_) (fun m hr=>?_)
    ·refine sr<|mv z z<|sg z z<|nx<|j' ?_
     replace hr:_=r:=hr
     refine x'<|g'<|g'<|x'<|aI'<|g' ?_
     subst hr
     exact k' z z z
    ·refine o'<|D'<|e'<|w'<|mv z z<|yy (N' z z) z<|sg z z<|u'<|P' ⟨IntKind.i64.wrap (f+1),d⟩ hr c (fc z (fc z (fc z fn))) (wk ln)
   ·refine ad'<|n'<|n'<|J'<|ae' d ⟨c,hr⟩ fn (wk ln)
 ·rintro e ⟨p,hr⟩
  refine e'<|sr<|sg z z<|nx<|j' ?_
  obtain rfl:_=r:=hr
  exact k' z z z
theorem gd'{s1 id1 s1varsp s1varsc s1eqsp s1eqsc s1neqsp s1neqsc r}(hr:(ZgG s1 id1).Ret r):Ctr Tryz.prog 122 #[.agg ((v33' s1 s1varsp s1varsc s1eqsp s1eqsc s1neqsp s1neqsc)).toArray,i' id1] (fun G=>sl Rp.str G s1varsp s1varsc s1.vars∧sl a' G s1eqsp s1eqsc s1.eqs∧sl a' G s1neqsp s1neqsc s1.neqs) (fun G v=>v = .bool r):=by
 refine C' (args:=[_,_]) (N:=17) Tryz.func122 z z z (fun n o k e=>?_)
 obtain⟨h,d,c⟩:=e
 refine sr<|W' 2 z z z fun m=>sg z z<|nr<|yy (ax' z) z<|yy (b' 2 aS' z z z) z<|mv z z ?_
 obtain⟨j,g,hr⟩:=hr
 refine F' z z (s' E43 z) (dl' g) z (d)<|aj' hr z (bc' z z) z (fun i hr=>?_) (fun i hr=>?_)
 ·refine mv z z<|sf z z z<|sf z z z<|sf z z z<|sf z z z<|sf z z z<|yy (m' z z) z<|sg z z<|nx<|j' ?_
  obtain rfl:_=r:=hr
  exact k' z z z
 ·refine mv z z<|gy z z (aL' z) z<|gy z z (b' 2 aS' z z z) z<|gy z z (f' z) z ?_
  obtain⟨l,f,hr⟩:=hr
  refine F' (H' z z) z (s' E43 z) (dl' f) z (c)<|gy z z (bc' z z) z<|yy (l' z z) z<|sg z z<|nx<|j' ?_
  obtain rfl:_=r:=hr
  exact k' z z z
theorem fz'{a1 a1magp a1magc r}(hr:(ZfQ a1).Ret r):Ctr Tryz.prog 183 #[.agg ((v58' a1 a1magp a1magc)).toArray] (fun G=>sl (Rp.int .u32) G a1magp a1magc a1.mag) (fun G v=>v = .bool r):=by
 refine C' (args:=[_]) (N:=19) Tryz.func183 z z z (fun j k g e=>?_)
 have c:=e
 refine sr<|W' 1 z z z fun h=>sg z z<|nr<|yy (aO' z) z<|yy (b' 1 bG' z z z) z<|yy (L' y' c z) z<|sg z z<|nx<|h'<|sr<|mv z z<|yy (ak' z z) z<|nx<|I' hr z (fun f hr=>?_) (fun f hr=>?_)
 ·exact (show False from hr).elim
 ·refine o'<|e'<|sr<|yy (aO' z) z<|yy (b' 1 bG' z z z) z<|mv z z<|yy (bd' z z) z ?_
  obtain⟨i,d,hr⟩:=hr
  refine yy (Q' y' bh' c z z d) z<|yy (U' bC' z (aC' (Z' c d))) z<|yy (aR' z z) z<|sg z z<|nx<|j' ?_
  obtain rfl:_=r:=hr
  exact k' z z z
theorem gT'{a1 b1 a1magp a1magc b1magp b1magc r}(hr:(Zky a1 b1).Ret r):Ctr Tryz.prog 184 #[.agg ((v58' a1 a1magp a1magc)).toArray,.agg ((v58' b1 b1magp b1magc)).toArray] (fun G=>sl (Rp.int .u32) G a1magp a1magc a1.mag∧sl (Rp.int .u32) G b1magp b1magc b1.mag) (fun G v=>v=i' r):=by
 refine C' (args:=[_,_]) (N:=31) Tryz.func184 z z z (fun C E A f=>?_)
 obtain⟨d,c⟩:=f
 refine sr<|W' 2 z z z fun F=>W' 3 z z z fun D=>sg z z<|nx<|h'<|sr<|yy (bl' z) z<|aj' hr z (cI' (b' 2 sc4 z z z) (congrArg Value.bool (bdec _))) z (fun s hr=>?_) (fun s hr=>?_)
 ·refine mv z z<|gy z z (bl' z) z<|gy z z (b' 3 sc4 z z z) z<|gy z z (ao' z) z<|yy (m' z z) z<|nx<|aN' hr z (fun n hr=>?_) (fun n hr=>?_)
  ·exact (show False from hr).elim
  ·refine o'<|e'<|h'<|sr<|yy (bl' z) z<|aj' hr z (cI' (b' 2 sc4 z z z) (congrArg Value.bool (bdec _))) z (fun o hr=>?_) (fun o hr=>?_)
   ·refine yy (ao' z) z<|mv z z<|sk z z z<|sk z z z<|yy (l' z z) z<|nx<|bg' z<|o'<|e'<|h'<|sr<|yy (bl' z) z<|yy (b' 2 sc4 z z z) z<|nx<|aN' hr z (fun k hr=>?_) (fun k hr=>?_)
    ·exact (show False from hr).elim
    ·refine o'<|e'<|sr<|yy (aO' z) z<|yy (b' 2 bG' z z z) z<|yy (aO' z) z<|yy (b' 3 bG' z z z) z ?_
     obtain⟨u,i,hr⟩:=hr
     refine F' z z (s' E167 z) (cO' i) z (⟨d,c⟩)<|sg z z<|nx<|j' ?_
     obtain rfl:_=r:=hr
     exact k' z z z
   ·refine yy (ao' z) z<|mv z z<|gy z z (bl' z) z<|gy z z (b' 3 sc4 z z z) z<|yy (m' z z) z<|nx<|aN' hr z (fun j hr=>?_) (fun j hr=>?_)
    ·exact (show False from hr).elim
    ·refine o'<|e'<|h'<|sr<|yy (bl' z) z<|yy (b' 2 sc4 z z z) z<|nx<|aN' hr z (fun m hr=>?_) (fun m hr=>?_)
     ·exact (show False from hr).elim
     ·refine o'<|e'<|sr<|yy (aO' z) z<|yy (b' 2 bG' z z z) z<|yy (aO' z) z<|yy (b' 3 bG' z z z) z ?_
      obtain⟨y,h,hr⟩:=hr
      refine F' z z (s' E167 z) (cO' h) z (⟨d,c⟩)<|sg z z<|nx<|j' ?_
      obtain rfl:_=r:=hr
      exact k' z z z
 ·refine mv z z<|sk z z z<|sk z z z<|sk z z z<|yy (l' z z) z<|nx<|bg' z<|o'<|e'<|h'<|sr<|yy (bl' z) z<|aj' hr z (cI' (b' 2 sc4 z z z) (congrArg Value.bool (bdec _))) z (fun q hr=>?_) (fun q hr=>?_)
  ·refine yy (ao' z) z<|mv z z<|sk z z z<|sk z z z<|yy (l' z z) z<|nx<|bg' z<|o'<|e'<|h'<|sr<|yy (bl' z) z<|yy (b' 2 sc4 z z z) z<|nx<|aN' hr z (fun p hr=>?_) (fun p hr=>?_)
   ·exact (show False from hr).elim
   ·refine o'<|e'<|sr<|yy (aO' z) z<|yy (b' 2 bG' z z z) z<|yy (aO' z) z<|yy (b' 3 bG' z z z) z ?_
    obtain⟨B,g,hr⟩:=hr
    refine F' z z (s' E167 z) (cO' g) z (⟨d,c⟩)<|sg z z<|nx<|j' ?_
    obtain rfl:_=r:=hr
    exact k' z z z
  ·refine yy (ao' z) z<|mv z z<|gy z z (bl' z) z<|gy z z (b' 3 sc4 z z z) z<|yy (m' z z) z<|nx<|aN' hr z (fun l hr=>?_) (fun l hr=>?_)
   ·exact (show False from hr).elim
   ·refine o'<|e'<|h'<|sr<|yy (bl' z) z<|yy (b' 2 sc4 z z z) z<|nx<|aN' hr z (fun t hr=>?_) (fun t hr=>?_)
    ·exact (show False from hr).elim
    ·refine o'<|e'<|sr<|yy (aO' z) z<|yy (b' 2 bG' z z z) z<|yy (aO' z) z<|yy (b' 3 bG' z z z) z ?_
     obtain⟨x,e,hr⟩:=hr
     refine F' z z (s' E167 z) (cO' e) z (⟨d,c⟩)<|sg z z<|nx<|j' ?_
     obtain rfl:_=r:=hr
     exact k' z z z
end Go.Proofs.YtenaadodnembpaaGreat

