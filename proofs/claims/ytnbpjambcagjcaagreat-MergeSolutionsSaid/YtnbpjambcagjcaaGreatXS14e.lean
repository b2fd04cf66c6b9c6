/- The law MergeSolutions holds for every input: a part of its proof (what the code does, plain models, and what they return). No condition. -/
import Derived.Test.YtnbpjambcagjcaaGreatXS14d
import Derived.Test.YtnbpjambcagjcaaGreatXS14c
import Derived.Test.YtnbpjambcagjcaaGreatXS14b
set_option linter.unusedVariables false
set_option linter.unusedSimpArgs false
namespace Go.Proofs.YtnbpjambcagjcaaGreat
open Go.IntKind (i8 i16 i32 i64 u8 u16 u32 u64)
open Go.Proofs.Tryz
open Go Go.EL Go.RowKit Go.Proofs
theorem Zdu(l:List ByteArray)(p:Option Addr)(c n:Nat)(e:Option Ow)(r:List ByteArray)(hr:(Z4 l).Ret r):CtrL prog 65 #[.slice p n c] [(5000,e)] (fun G=>RowR Rp.str 9 G (.slice p n c) l e) (fun G L v=>∃ d,L=[(5000,d)]/\v = .tuple #[]/\RowR Rp.str 9 G (.slice p n c) r d):=by
 obtain⟨f,hr⟩:=hr
 obtain rfl:_=r:=hr
 by_cases hn:n=l.length
 .subst hn
  exact sortS Tryz.sortS z 9 p c l e (by omega)
 exact CtrL.absurd fun G h=>hn (Value.slice.inj h.eqv).2.1
theorem Zfp(l:List Int)(p:Option Addr)(c n:Nat)(e:Option Ow)(r:List Int)(hr:(ZV l).Ret r):CtrL prog 96 #[.slice p n c] [(5000,e)] (fun G=>RowR (Rp.int .i64) 3 G (.slice p n c) l e) (fun G L v=>∃ d,L=[(5000,d)]/\v = .tuple #[]/\RowR (Rp.int .i64) 3 G (.slice p n c) r d):=by
 obtain⟨f,hr⟩:=hr
 obtain rfl:_=r:=hr
 by_cases hn:n=l.length
 .subst hn
  exact sortI Tryz.sortI z 3 p c l e (by omega)
 exact CtrL.absurd fun G h=>hn (Value.slice.inj h.eqv).2.1
theorem eA'{j i r}(hr:(ZbL j i).Ret r):Ctr prog 89 #[.agg (vecG (Value.int .i64) 8 j).toArray,.agg (vecG (Value.int .i64) 8 i).toArray] (fun G=>True) (fun G v=>v=i' r):=by
 refine A' (args:=[_,_]) (N:=25) func89 z z z fun x k J D=>sr<|Y' 2 z z z fun n=>Y' 3 z z z fun m=>sx0 z z<|c'<|sr<|yy (m' 2 aT' z z (M' _ _ _)) z<|yy (m' 3 aT' z z (M' _ _ _)) z<|yy (Y0.eqlV ag' aO' sc3 sz3 eg110 z z) z<|nx<|E' hr z (fun A hr=>?_) (fun A hr=>?_)
 .refine sr<|sx0 z z<|k'<|b' (k0' hr z z)
 refine l'<|a'<|sr<|sx0 z z<|c'<|R' (fun (⟨g,f⟩:Int×Mem)=>[(2,pt0 n),(3,pt0 m),(5,i' g)]) (fun ⟨g,f⟩=>Mem.le k f/\(ZcV j i g).Ret r) (fun ⟨g,f⟩=>St x k f [(2,bk0 n (vecG (Value.int .i64) 8 j) 110),(3,bk0 m (vecG (Value.int .i64) 8 i) 110)]) ?_ ?_
 .refine s' ?_
  let l:Int->Prop:=fun F=>((fun C=>match C with|g=>ZcV j i g:Int->Cq Int) F).wp (fun a=>a=r)
  replace hr:(Cq.loop _ _).wp l:=hr
  refine T' (Φ:=l) (fun (⟨e,d⟩:Int×Mem)=>(e:Int)) (fun ⟨e,d⟩=>[(2,pt0 n),(3,pt0 m),(5,i' e)]) (fun ⟨e,d⟩=>Mem.le k d) (fun ⟨e,d⟩=>St x k d [(2,bk0 n (vecG (Value.int .i64) 8 j) 110),(3,bk0 m (vecG (Value.int .i64) 8 i) 110)]) ⟨0,k⟩ hr (f3 z z z) mr (w2 z z) ?_
  .intro I E H hr
   obtain⟨e,d⟩:=E
   have h:=H
   refine c'<|c'<|ad' [ff,ff,ff,ff,ff,ff] mix (by kernel_rfl) fun t=>cn (fun _ c=>f' z) ?_
   obtain⟨s,hr⟩:=hr
   refine cn (fun _ c=>aQ' ag' sz3 z z s)<|cn (fun _ c=>g' 2 sc3 z z (bo' _ _ _ s))<|cn (fun _ c=>f' z) ?_
   obtain⟨q,hr⟩:=hr
   refine cn (fun _ c=>aQ' ag' sz3 z z q)<|cn (fun _ c=>g' 3 sc3 z z (bo' _ _ _ q))<|af' t<|yy (au' z z) z<|o'<|am'<|a'<|E' hr z (fun y hr=>?_) (fun y hr=>?_)
   .refine l'<|a'<|s'<|n'<|mv z z<|yy (I' z z) z<|sg z z<|o'<|v'<|C' ⟨i64.wrap (e+1),d⟩ hr h (f3 z z z) (w2 z z)
   refine U'<|h'<|h'<|y'<|W' ⟨e,d⟩ ⟨h,hr⟩ (f3 z z z) (w2 z z)
 rintro⟨g,f⟩ ⟨B,hr⟩
 refine a'<|c'<|c'<|ad' [ff,ff,ff,ff,ff,ff] mix (by kernel_rfl) fun t=>cn (fun _ c=>f' z) ?_
 obtain⟨o,hr⟩:=hr
 refine cn (fun _ c=>aQ' ag' sz3 z z o)<|cn (fun _ c=>g' 2 sc3 z z (bo' _ _ _ o))<|cn (fun _ c=>f' z) ?_
 obtain⟨p,hr⟩:=hr
 refine cn (fun _ c=>aQ' ag' sz3 z z p)<|cn (fun _ c=>g' 3 sc3 z z (bo' _ _ _ p))<|af' t<|yy (V' z z) z<|o'<|am'<|a'<|E' hr z (fun u hr=>?_) (fun u hr=>?_)
 .refine sr<|sx0 z z<|k'<|b' (k0' hr z z)
 refine l'<|a'<|sr<|sx0 z z<|k' (k0' hr z z)
theorem ex'{l k j h g f i d c e r}(hr:(Zc0 l k).Ret r):Ctr prog 148 #[.agg (((v101' l.c j h g f):List Value)++(vecG (Value.int .i64) 8 l.m)).toArray,.agg (((v101' k.c i d c e):List Value)++(vecG (Value.int .i64) 8 k.m)).toArray] (fun G=>sl (Rp.int .u32) G j h l.c.num.mag/\sl (Rp.int .u32) G g f l.c.den.mag/\sl (Rp.int .u32) G i d k.c.num.mag/\sl (Rp.int .u32) G c e k.c.den.mag) (fun G v=>v=i' r):=by
 refine A' (args:=[_,_]) (N:=10) func148 z z z (fun A y u q=>?_)
 obtain⟨m,n,p,o⟩:=q
 refine sr<|Y' 2 z z z fun B=>Y' 3 z z z fun x=>sg z z<|nr<|yy (aL' z) z<|yy (aj' (vecG (Value.int .i64) 8 k.m).toArray 3 aT' z z (M' _ _ _) (aq' ((v101' k.c i d c e)) (vecG (Value.int .i64) 8 k.m) ([]))) z<|yy (aL' z) z<|yy (aj' (vecG (Value.int .i64) 8 l.m).toArray 2 aT' z z (M' _ _ _) (aq' ((v101' l.c j h g f)) (vecG (Value.int .i64) 8 l.m) ([]))) z ?_
 obtain⟨t,s,hr⟩:=hr
 refine B' z z (u' E89 z) (eA' s) z (trivial)<|sx0 z z<|k' (k0' hr z z)
theorem gM':Go.Sort.SWO (Go.Proofs.ltOf (fun a b:Zb=>cmpM b.m a.m)):=⟨fun x=>swoR.irrefl x.m,fun x y z=>swoR.trans x.m y.m z.m,fun x y z=>swoR.ntrans x.m y.m z.m⟩
theorem cB'{l a b i p c n C r}(hr:(ZP l a b i).Ret r):CtrL prog 194 #[.slice p n c,i' a,i' b,i' i,.func (.func 148) #[] #[]] [(5000,C)] (fun G=>RowR r' 152 G (.slice p n c) l C) (fun G L v=>∃ s,L=[(5000,s)]/\v = .tuple #[]/\RowR r' 152 G (.slice p n c) r s):=by
 obtain⟨⟨rfl,rfl,⟨R,U⟩,Q⟩,hr⟩:=hr
 obtain⟨k,rfl⟩:∃ k:Nat,i=k:=⟨i.toNat,by omega⟩
 refine (pdqR (r:=r') (sz:=12) z (by decide) gM' Tryz.sortL z (fun _=>by kernel_rfl) (fun _=>by kernel_rfl) (fun x y T S w G O K=>?_) E148 152 p n c l C k (by omega) (by omega)).mono (fun _ h=>h) (fun G L v ⟨E,D,H,P,I,N,J⟩=>?_)
 .obtain⟨M,F⟩:=K
  obtain⟨u,B,o,j,rfl,g,d⟩:=Zh0 M
  obtain⟨A,m,t,q,rfl,f,e⟩:=Zh0 F
  exact ex' (show (Zc0 x y).Ret (cmpM y.m x.m) from ⟨_,Zeo y.m x.m,z⟩) w G O ⟨g,d,f,e⟩
 have:E=r:=hr E ⟨N,J.imp (fun h=>by simpa [Go.Proofs.ltOf] using h)⟩
 subst this
 exact⟨D,H,P,I⟩
theorem eX'{n r}(hr:(ZeI n).Ret r):Ctr prog 159 #[.int .u64 n] (fun G=>True) (fun G v=>v=i' r):=by
 refine A' (args:=[_]) (N:=25) func159 z z z fun m l B A=>sr<|sx0 z z<|aP' (fun (⟨h,i,d⟩:Int×Int×Mem)=>[(0,.int .u64 h),(2,i' i)]) (fun ⟨h,i,d⟩=>Mem.le l d/\(ZdB h i).Ret r) (fun ⟨h,i,d⟩=>St m l d []) ?_ ?_
 .refine sr<|mv z z<|yy (aV' z z) z<|nx<|E' hr z (fun q hr=>?_) (fun q hr=>?_)
  .exact (show False from hr).elim
  refine l'<|al' ⟨n,0,l⟩ ⟨mr,hr⟩ (f2 z z) (wk ln)
 rintro⟨h,i,d⟩ ⟨u,hr⟩
 refine aP' (fun (⟨f,g,c⟩:Int×Int×Mem)=>[(0,.int .u64 f),(2,i' g)]) (fun ⟨f,g,c⟩=>Mem.le d c/\(ZdA f g).Ret r) (fun ⟨f,g,c⟩=>St m l c []) ?_ ?_
 .refine sr<|mv z z<|yy (aV' z z) z<|nx<|E' hr z (fun p hr=>?_) (fun p hr=>?_)
  .exact (show False from hr).elim
  refine l'<|al' ⟨h,i,d⟩ ⟨mr,hr⟩ (f2 z z) (wk ln)
 rintro⟨f,g,c⟩ ⟨y,hr⟩
 refine aP' (fun (⟨j,k,e⟩:Int×Int×Mem)=>[(0,.int .u64 j),(2,i' k)]) (fun ⟨j,k,e⟩=>Mem.le c e/\(Zdz j k).Ret r) (fun ⟨j,k,e⟩=>St m l e []) ?_ ?_
 .refine sr<|mv z z<|yy (aV' z z) z<|nx<|E' hr z (fun t hr=>?_) (fun t hr=>?_)
  .exact (show False from hr).elim
  refine l'<|al' ⟨f,g,c⟩ ⟨mr,hr⟩ (f2 z z) (wk ln)
 rintro⟨j,k,e⟩ ⟨x,hr⟩
 refine sr<|mv z z<|mv z z<|yy (az' Z' bm' z) z ?_
 obtain⟨o,hr⟩:=hr
 refine yy (cT' (s:=Zes) aI' z z o) z<|yy (az' bm' aO' z) z<|yy (I' z z) z<|sx0 z z<|k' (k0' hr z z)
theorem fq'{d r}(hr:(Zcf d).Ret r):Ctr prog 108 #[.int .u64 d] (fun G=>True) (fun G v=>v=i' r):=by
 refine A' (args:=[_]) (N:=8) func108 z z z fun h i g e=>sr<|sx0 z z<|c'<|aK' z<|l'<|a'<|sr<|mv z z ?_
 obtain⟨f,c,hr⟩:=hr
 refine B' z z (u' E159 z) (eX' c) z (trivial)<|sx0 z z<|k' (k0' hr z z)
theorem ct'{t f e j h r}(hr:(ZC t).Ret r):CtrL prog 147 #[.slice f j e,.func (.func 148) #[] #[]] [(5000,h)] (fun G=>RowR r' 152 G (.slice f j e) t h) (fun G L v=>∃ k,L=[(5000,k)]/\v = .tuple #[]/\RowR r' 152 G (.slice f j e) r k):=by
 refine ca' (args:=[_,_]) (N:=14) func147 z z z (fun q A u m=>?_)
 have d:=m
 have hz:q.L.zero:=by
  rw[u]; intro p o x B
  simp only[List.mem_cons,List.not_mem_nil,or_false] at o
  subst o; exact RowR.zero d B
 refine sr<|mv z z<|yy (Y0.lenRow F' d z) z<|sx0 z z<|n'<|mv z z<|mv z z<|mv z z<|yy (az' aO' underlying149 z) z ?_
 obtain⟨F,n,hr⟩:=hr
 refine B' z z (u' E108 z) (fq' n) z (trivial)<|mv z z ?_
 obtain⟨E,l,hr⟩:=hr
 refine ci' z z (u' E194 z) (cB' l) z (d) (lc z ln) hz (fun D s C y c=>?_)
 obtain⟨i,rfl,rfl,g⟩:=c
 refine o'<|dU' ?_
 obtain rfl:_=r:=hr
 refine bM' (S':=St q A s [(5000,i)]) (w1 z)<|dn' z  ⟨_,z,z,g⟩
theorem do'{f d c r}(hr:(ZbE f).Ret r):Ctr prog 138 #[.agg ((v99' f d c)).toArray] (fun G=>sl (Rp.int .u32) G d c f.mag) (fun G v=>v=i' r):=by
 refine A' (args:=[_]) (N:=9) func138 z z z (fun l m j g=>?_)
 have e:=g
 refine sr<|Y' 1 z z z fun k=>sx0 z z<|c'<|sr<|yy (ax' z) z<|yy (g' 1 bs' z z z) z<|yy (K' q' e z) z<|yy (au' z z) z<|nx<|E' hr z (fun i hr=>?_) (fun i hr=>?_)
 .exact (show False from hr).elim
 refine l'<|a'<|c'<|sr<|yy (aX' z) z<|yy (g' 1 sc4 z z z) z<|nx<|ay' hr z (fun h hr=>?_) (fun h hr=>?_)
 .refine sr<|sx0 z z<|k'<|b' (k0' hr z z)
 refine l'<|a'<|sr<|sx0 z z<|k' (k0' hr z z)
theorem cL'{h d c f e r}(hr:(Z7 h).Ret r):Ctr prog 87 #[.agg ((v101' h d c f e)).toArray] (fun G=>sl (Rp.int .u32) G d c h.num.mag/\sl (Rp.int .u32) G f e h.den.mag) (fun G v=>v=i' r):=by
 refine A' (args:=[_]) (N:=6) func87 z z z (fun o p m j=>?_)
 obtain⟨g,i⟩:=j
 refine sr<|Y' 1 z z z fun n=>sg z z<|nr<|yy (bw' z) z<|yy (aj' ((v99' h.num d c)).toArray 1 aJ' z z z (aq' ([]) ((v99' h.num d c)) ((v99' h.den f e)))) z ?_
 obtain⟨l,k,hr⟩:=hr
 refine B' z z (u' E138 z) (do' k) z (g)<|sx0 z z<|k' (k0' hr z z)
theorem dR'{A t h r}(hr:(ZaS A).Ret r):CtrL prog 105 #[.map (some t)] [(5500,h)] (fun G=>MapR ky110 (RvA bd' G) (.map (some t)) A h) (fun G L v=>L=[(5500,h)]/\(∃ zp zc,v = .slice zp r.length zc/\sl r' G zp zc r)):=by
 refine ca' (args:=[_]) (N:=28) func105 z z z (fun w0 U J al=>?_)
 have C:=al
 have hz:w0.L.zero:=by
  rw[J]; intro p hp x hx
  simp only[List.mem_cons,List.not_mem_nil,or_false] at hp
  subst hp; exact MapR.zero C hx
 refine sr<|sg z z<|nr<|mv z z<|yy (Y0.lenM 5500 df' C z z) z ?_
 obtain⟨am,hr⟩:=hr
 refine WL.makeC (r:=r') (e:=152) (n:=(A.length:Int)) 4008 z z F' el152 z (by decide) z z am fun p1 aC ae aw=>sx0 z z<|c'<|sr<|mv z z<|WL.rangeM 5500 4010 z z df' C z z fun ac aa ah=>nx<|R' (fun (⟨B,I,H,y,K⟩:(List Zb)×Option Addr×Nat×Option Ow×Mem)=>[(3,.slice I B.length H),(0,.map (some t))]) (fun ⟨B,I,H,y,K⟩=>Mem.le U K/\RowR r' 152 K (.slice I B.length H) B y/\(Za3 B).Ret r) (fun ⟨B,I,H,y,K⟩=>St w0 U K [(4003,y),(5500,h)]) ?_ ?_
 .refine s' ?_
  let X:(List Zb)->Prop:=fun oo=>((fun ov=>match ov with|B=>Za3 B:(List Zb)->Cq (List Zb)) oo).wp (fun a=>a=r)
  replace hr:(Cq.loop _ _).wp X:=hr
  refine T' (Φ:=X) (fun (⟨m,q,o,l,S,D,s⟩:(List Zb)×Option Addr×Nat×Option Ow×List ((Fin 8->Int)×Ze)×Option Ow×Mem)=>((m,S):(List Zb)×List ((Fin 8->Int)×Ze))) (fun ⟨m,q,o,l,S,D,s⟩=>[(3,.slice q m.length o),(0,.map (some t)),(10,ac)]) (fun ⟨m,q,o,l,S,D,s⟩=>Mem.le U s/\RowR r' 152 s (.slice q m.length o) m l/\IterR ky110 (RvA bd' s) h ac S none D) (fun ⟨m,q,o,l,S,D,s⟩=>St w0 U s [(4003,l),(5500,h),(4010,D)]) ⟨([]:List Zb),p1,aC,ae,A,aa,U⟩ hr (f3 z z z) ⟨mr,aw,(dK' ah)⟩ ?_ ?_
  .intro w Q
   have Q:=Q.rekey (i:=4008) (j:=4003) z (by rw[J]; rfl)
   exact Q.weaken (lc z (lc z (lc z ln)))
  intro aW gx hx hr
  obtain⟨m,q,o,l,S,D,s⟩:=gx
  obtain⟨M,P,an⟩:=hx
  refine sr<|WL.nextM 5500 4010 z z an z z z (fun Ra k Rb V Z R aP aR=>?_) (fun Z=>?_)
  .replace hr:=hr.2 _ _ _ Z
   generalize Ra++Rb=R2 at hr R
   refine yy (L' z z) z<|nx<|c'<|av' z<|l'<|a'<|s'<|sr<|WL.entryM 5500 4010 z z R z z z (fun u1 aA aV=>?_)
   obtain⟨a0,rfl,aD⟩:=aA
   obtain⟨c,g,f,d,rfl,F,E⟩:=Zi9 aD
   refine yy (L' z z) z<|yy (L' z z) z<|O' 4 z z110 z fun b1=>O' 5 z z101 z fun b2=>x' 4 z sz110 z z z (M' _ _ _) (M' _ _ _) (fun u hu=>Rp.one (cy' .i64 8) (G:=s) (x:=k.1) (cs:=vecG (Value.int .i64) 8 k.1) z u (by first|simpa using hu|simpa [Value.cells] using hu))<|x' 5 z ce' z z z z z (List.all_eq_true.1 z)<|nr<|yy (m' 5 bg' z z z) z ?_
   obtain⟨aX,aj,hr⟩:=hr
   refine B' z z (u' E87 z) (cL' aj) z (⟨F,E⟩)<|yy (bj' z z) z<|nx<|E' hr z (fun aE hr=>?_) (fun aE hr=>?_)
   .refine n'<|mv z z<|yy (m' 5 bg' z z z) z<|yy (m' 4 aT' z z (M' _ _ _)) z<|yy (at' (vs:=#[(0,.agg ((v101' k.2 c g f d)).toArray),(1,.agg (vecG (Value.int .i64) 8 k.1).toArray)]) (v:=.agg (((v101' k.2 c g f d):List Value)++(vecG (Value.int .i64) 8 k.1)).toArray) z z (fun _=>by kernel_rfl)) z<|aD' (e:=152) (r:=r') (vs:=#[(0,.agg (((v101' k.2 c g f d):List Value)++(vecG (Value.int .i64) 8 k.1)).toArray)]) (cs:=(((v101' k.2 c g f d):List Value)++(vecG (Value.int .i64) 8 k.1))++([])) ([(Zb.mk k.2 k.1)]:List Zb) z z z z z (by decide) (fun _=>by kernel_rfl) ⟨((v101' k.2 c g f d):List Value)++(vecG (Value.int .i64) 8 k.1),[],z,⟨(v101' k.2 c g f d),vecG (Value.int .i64) 8 k.1,z,⟨(v99' k.2.num c g),(v99' k.2.den f d),z,⟨[.bool k.2.num.neg],[.slice c k.2.num.mag.length g],z,z,⟨_,z,F⟩⟩,⟨[.bool k.2.den.neg],[.slice f k.2.den.mag.length d],z,z,⟨_,z,E⟩⟩⟩,z⟩,z⟩ (key:=999) z (by rw[J]; rfl) (fun p2 ao O ay=>?_)
    obtain⟨ag,hr⟩:=hr
    refine WL.appendT (r:=r') (e:=152) 4003 z z F' el152 z (by decide) z z (P.mono O) z ay ag fun p3 au ad ax=>sg z z<|o'<|v'<|C' ⟨(m++[(Zb.mk k.2 k.1)]),p3,au,ad,R2,V,ao⟩ hr ⟨(mx M O),ax,(dK' (IterR.monoA R O))⟩ (f3 z z z) (w3 z z z)
   refine l'<|v'<|C' ⟨m,q,o,l,R2,V,s⟩ hr ⟨M,P,(dK' R)⟩ (f3 z z z) (w3 z z z)
  replace hr:=hr.1 Z
  refine yy (L' z z) z<|nx<|c'<|aK' z<|U'<|h'<|h'<|y'<|W' ⟨m,q,o,l,s⟩ ⟨M,P,hr⟩ (f2 z z) (w2 z z)
 rintro⟨B,I,H,y,K⟩ ⟨aG,ak,hr⟩
 refine a'<|sr<|mv z z ?_
 obtain⟨aZ,ai,hr⟩:=hr
 refine aC' (fun w Q=>Q.rekey (i:=4003) (j:=5000) z (by rw[J]; rfl))<|ci' z z (u' E147 z) (ct' ai) z (ak) (lc z ln) hz (fun aQ aY aM aI T=>?_)
 obtain⟨av,rfl,rfl,W⟩:=T
 refine aC' (fun w Q=>Q.rekey (i:=5000) (j:=4003) z (by rw[J]; rfl))<|nr<|mv z z<|sx0 z z<|k' ?_
 obtain rfl:_=r:=hr
 refine WE.freezeT (r:=r') (e:=152) 4003 W z (by rw[J]; rfl) fun aU ap aF Y aH=>bM' (S':=St w0 U ap [(5500,h)]) (w1 z)<|j' z z ⟨z,⟨_,_,(dc' Y),(dd' Y)⟩⟩
theorem er'{k r}(hr:(Zb0 k).Ret r):Ctr prog 88 #[.agg (vecG (Value.int .i64) 8 k).toArray] (fun G=>True) (fun G v=>v = .bool r):=by
 refine A' (args:=[_]) (N:=16) func88 z z z fun m h y q=>sr<|Y' 1 z z z fun A=>sx0 z z<|c'<|sr<|yy (m' 1 aT' z z (M' _ _ _)) z<|mv z z<|nx<|R' (fun (f:Mem)=>match f with|e=>[]) (fun (f:Mem)=>match f with|e=>Mem.le h e/\(Zb6).Ret r) (fun (f:Mem)=>match f with|e=>St m h e []) ?_ ?_
 .refine s' ?_
  let i:(Bool⊕Unit)->Prop:=fun t=>((fun s=>match s with | .inl rv1=>Cq.ret rv1 | .inr ()=>Zb6:(Bool⊕Unit)->Cq Bool) t).wp (fun a=>a=r)
  replace hr:(Cq.loop _ _).wp i:=hr
  refine T' (Φ:=i) (fun (⟨c,d⟩:Int×Mem)=>(c:Int)) (fun ⟨c,d⟩=>[(5,.agg (vecG (Value.int .i64) 8 k).toArray),(6,i' c)]) (fun ⟨c,d⟩=>Mem.le h d) (fun ⟨c,d⟩=>St m h d []) ⟨0,h⟩ hr (f2 z z) mr (wk ln) ?_
  .intro x f u hr
   obtain⟨c,d⟩:=f
   have g:=u
   refine sr<|yy (V' z z) z<|nx<|c'<|E' hr z (fun o hr=>?_) (fun o hr=>?_)
   .refine l'<|a'<|c'<|s'<|sr ?_
    obtain⟨j,hr⟩:=hr
    refine yy (dV' ag' sc3 sz3 z z j (bo' _ _ _ j)) z<|sg z z<|nr<|mv z z<|ao' hr z (V' z z) z (fun n hr=>?_) (fun n hr=>?_)
    .refine mv z z<|sn2 z<|yy (t' z z) z<|nx<|av' z<|sr<|sx0 z z<|k'<|w'<|b'<|b'<|w'<|ap'<|b' (k0' hr z z)
    refine mv z z<|gy z z (f' z) z<|gy z z (aZ' z z) z<|yy (p' z z) z<|nx<|E' hr z (fun l hr=>?_) (fun l hr=>?_)
    .exact (show False from hr).elim
    refine l'<|v'<|a'<|n'<|yy (I' z z) z<|mv z z<|o'<|C' ⟨i64.wrap (c+1),d⟩ hr g (f2 z z) (wk ln)
   refine U'<|h'<|h'<|y'<|W' d ⟨g,hr⟩ fn (wk ln)
 rintro e ⟨p,hr⟩
 refine a'<|sr<|sx0 z z<|k' (k0' hr z z)
theorem fB'{s k r}(hr:(Zep s k).Ret r):Ctr prog 146 #[.agg (vecG (Value.int .i64) 8 s).toArray,.agg (vecG (Value.int .i64) 8 k).toArray] (fun G=>True) (fun G v=>v = .tuple #[.agg (vecG (Value.int .i64) 8 r.1).toArray,i' r.2]):=by
 refine A' (args:=[_,_]) (N:=24) func146 z z z fun B l Q I=>sr<|Y' 2 z z z fun n=>Y' 3 z z z fun y=>O' 4 z z110 z fun o=>sx0 z z<|c'<|sr<|mv z z<|nx<|R' (fun (⟨e,g⟩:(Fin 8->Int)×Mem)=>[(2,pt0 n),(4,pt0 o)]) (fun ⟨e,g⟩=>Mem.le l g/\(ZcY e).Ret r) (fun ⟨e,g⟩=>St B l g [(2,bk0 n (vecG (Value.int .i64) 8 e) 110),(4,bk0 o (vecG (Value.int .i64) 8 (fun _=>0)) 110)]) ?_ ?_
 .refine s' ?_
  let m:(Fin 8->Int)->Prop:=fun L=>((fun J=>match J with|e=>ZcY e:(Fin 8->Int)->Cq ((Fin 8->Int)×Int)) L).wp (fun a=>a=r)
  replace hr:(Cq.loop _ _).wp m:=hr
  refine T' (Φ:=m) (fun (⟨c,d,f⟩:Int×(Fin 8->Int)×Mem)=>((c,d):Int×(Fin 8->Int))) (fun ⟨c,d,f⟩=>[(2,pt0 n),(3,pt0 y),(4,pt0 o),(7,i' c)]) (fun ⟨c,d,f⟩=>Mem.le l f) (fun ⟨c,d,f⟩=>St B l f [(2,bk0 n (vecG (Value.int .i64) 8 d) 110),(3,bk0 y (vecG (Value.int .i64) 8 k) 110),(4,bk0 o (vecG (Value.int .i64) 8 (fun _=>0)) 110)]) ⟨0,s,l⟩ hr (f4 z z z z) mr (w3 z z z) ?_
  .intro P K M hr
   obtain⟨c,d,f⟩:=K
   have j:=M
   refine sr<|yy (V' z z) z<|nx<|c'<|E' hr z (fun A hr=>?_) (fun A hr=>?_)
   .refine l'<|a'<|c'<|s'<|sr<|mv z z<|sx0 z z<|ad' [ff,ff,ff,ff,ff,ff] mix (by kernel_rfl) fun H=>cn (fun _ h=>f' z) ?_
    obtain⟨p,hr⟩:=hr
    refine cn (fun _ h=>aQ' ag' sz3 z z p)<|cn (fun _ h=>g' 2 sc3 z z (bo' _ _ _ p))<|cn (fun _ h=>f' z) ?_
    obtain⟨q,hr⟩:=hr
    refine cn (fun _ h=>aQ' ag' sz3 z z q)<|cn (fun _ h=>g' 3 sc3 z z (bo' _ _ _ q))<|af' H<|yy (I' z z) z ?_
    obtain⟨D,hr⟩:=hr
    refine yy (aQ' ag' sz3 z z D) z<|aB' 2 (vecG (Value.int .i64) 8 (setF d c.toNat (i64.wrap ((getF d c)+(getF k c))))).toArray z sz3 z z z (by first|(rw[M']; omega)|(show _<(vecG _ _ _).toArray.size; rw[M']; omega)) z (co' _ _ _ _ _)<|o'<|am'<|v'<|a'<|n'<|yy (I' z z) z<|mv z z<|o'<|C' ⟨i64.wrap (c+1),setF d c.toNat (i64.wrap ((getF d c)+(getF k c))),f⟩ hr j (f4 z z z z) (w3 z z z)
   refine U'<|h'<|h'<|y'<|W' ⟨d,f⟩ ⟨j,hr⟩ (f2 z z) (w2 z z)
 rintro⟨e,g⟩ ⟨F,hr⟩
 refine a'<|c'<|sr<|yy (m' 2 aT' z z (M' _ _ _)) z ?_
 obtain⟨O,t,hr⟩:=hr
 refine B' z z (u' E88 z) (er' t) z (trivial)<|yy (an' z) z<|nx<|ay' hr z (fun E hr=>?_) (fun E hr=>?_)
 .exact (show False from hr).elim
 refine l'<|a'<|sr<|yy (m' 2 aT' z z (M' _ _ _)) z<|x' 4 z sz110 z z z (M' _ _ _) (M' _ _ _) (fun u C=>Rp.one (cy' .i64 8) (G:=g) (x:=e) (cs:=vecG (Value.int .i64) 8 e) z u (by first|simpa using C|simpa [Value.cells] using C))<|sx0 z z<|k' ?_
 obtain rfl:_=r:=hr
 exact bE' z (ak' (i:=4) aT' z z (M' _ _ _)) z z
theorem cI'{g e d r}(hr:(Zan g).Ret r):Ctr prog 139 #[.agg ((v99' g e d)).toArray] (fun G=>sl (Rp.int .u32) G e d g.mag) (fun G v=>v = .bool r):=by
 refine A' (args:=[_]) (N:=19) func139 z z z (fun m o k h=>?_)
 have c:=h
 refine sr<|Y' 1 z z z fun l=>sg z z<|nr<|yy (aX' z) z<|ao' hr z (cp' (g' 1 sc4 z z z) (congrArg Value.bool (bdec _))) z (fun i hr=>?_) (fun i hr=>?_)
 .refine yy (an' z) z<|mv z z<|sn4 z<|yy (p' z z) z<|mv z z<|sn5 z<|yy (p' z z) z<|sx0 z z<|k' (k0' hr z z)
 refine yy (an' z) z<|mv z z<|gy z z (ax' z) z<|gy z z (g' 1 bs' z z z) z<|gy z z (K' q' c z) z<|ao' hr (D' z z) (au' z z) z (fun j hr=>?_) (fun j hr=>?_)
 .refine yy (t' z z) z<|mv z z<|gy z z (ax' z) z<|gy z z (g' 1 bs' z z z) z ?_
  obtain⟨n,f,hr⟩:=hr
  refine gy z z (P' q' aM' c z z f) z<|gy z z (ae' bu' z (aA' (X' c f))) z<|gy z z (au' z z) z<|yy (t' z z) z<|sx0 z z<|k' (k0' hr z z)
 refine yy (t' z z) z<|mv z z<|sn5 z<|yy (p' z z) z<|sx0 z z<|k' (k0' hr z z)
theorem cj'{g j k r}(hr:(ZW g).Ret r):Ctr prog 182 #[.slice j g.length k] (fun G=>sl (Rp.int .u32) G j k g) (wl' (Rp.int .u32) r):=by
 refine A' (args:=[_]) (N:=21) func182 z z z (fun s l E p=>?_)
 have i:=p
 refine sr<|sg z z<|nr<|mv z z<|yy (K' q' i z) z<|sx0 z z<|c'<|R' (fun (⟨h,f⟩:Int×Mem)=>[(0,.slice j g.length k),(3,i' h)]) (fun ⟨h,f⟩=>Mem.le l f/\(ZcO g h).Ret r) (fun ⟨h,f⟩=>St s l f []) ?_ ?_
 .refine s' ?_
  let m:Int->Prop:=fun A=>((fun x=>match x with|h=>ZcO g h:Int->Cq (List Int)) A).wp (fun a=>a=r)
  replace hr:(Cq.loop _ _).wp m:=hr
  refine T' (Φ:=m) (fun (⟨e,c⟩:Int×Mem)=>(e:Int)) (fun ⟨e,c⟩=>[(0,.slice j g.length k),(3,i' e)]) (fun ⟨e,c⟩=>Mem.le l c) (fun ⟨e,c⟩=>St s l c []) ⟨(g.length:Int),l⟩ hr (f2 z z) mr (wk ln) ?_
  .intro C y B hr
   obtain⟨e,c⟩:=y
   have d:=B
   refine c'<|sr<|mv z z<|ao' hr z (aZ' z z) z (fun u hr=>?_) (fun u hr=>?_)
   .refine mv z z<|gy z z (f' z) z<|gy z z (f' z) z<|gy z z (be' z z) z ?_
    obtain⟨H,o,hr⟩:=hr
    refine gy z z (P' q' aM' (i.mono d) z z o) z<|gy z z (ae' bu' z (aA' (H' (X' i o) d))) z<|gy z z (au' z z) z<|yy (t' z z) z<|nx<|E' hr z (fun v hr=>?_) (fun v hr=>?_)
    .refine l'<|a'<|s'<|n'<|mv z z<|yy (be' z z) z<|sg z z<|o'<|v'<|C' ⟨i64.wrap (e-1),c⟩ hr d (f2 z z) (wk ln)
    refine U'<|h'<|h'<|y'<|W' ⟨e,c⟩ ⟨d,hr⟩ (f2 z z) (wk ln)
   refine mv z z<|sn6 z<|yy (p' z z) z<|nx<|aK' z<|U'<|h'<|h'<|y'<|W' ⟨e,c⟩ ⟨d,hr⟩ (f2 z z) (wk ln)
 rintro⟨h,f⟩ ⟨n,hr⟩
 refine a'<|sr<|mv z z<|mv z z ?_
 obtain⟨q,hr⟩:=hr
 refine WL.sliceRH (r:=(Rp.int .u32)) z z q' aM' z (i.mono n) z z q fun F D t=>sx0 z z<|k' ?_
 obtain rfl:_=r:=hr
 exact j' z z ⟨_,_,z,t⟩
theorem et'{e c d r}(hr:(ZdQ e).Ret r):Ctr prog 181 #[.slice c e.length d] (fun G=>sl (Rp.int .u32) G c d e) (wl' (Rp.int .u32) r):=by
 refine A' (args:=[_]) (N:=5) func181 z z z (fun q s i g=>?_)
 have h:=g
 refine sr<|sg z z<|nr<|mv z z ?_
 obtain⟨f,hr⟩:=hr
 refine aW' (r:=(Rp.int .u32)) 2004 z z q' el225 z (by decide) z z (ah' (Rp.int .u32) _) z (by rw[i]; rfl) cc' h f fun p n l o k j m=>sx0 z z<|k' ?_
 obtain rfl:_=r:=hr
 exact j' z z ⟨_,_,z,j⟩
theorem cu'{c d f e r}(hr:(ZN c d).Ret r):Ctr prog 166 #[.bool c,.slice f d.length e] (fun G=>sl (Rp.int .u32) G f e d) (w99' r):=by
 refine A' (args:=[_,_]) (N:=14) func166 z z z (fun A y u n=>?_)
 have l:=n
 refine sr<|O' 4 z z99 z fun x=>nr<|mv z z ?_
 obtain⟨m,o,hr⟩:=hr
 refine Q' z z (u' E182 z) (cj' o) z (l) (fun s t q g=>?_)
 obtain⟨k,j,rfl,h⟩:=g
 refine sx0 z z<|c'<|sr<|mv z z<|yy (K' q' h z) z<|yy (au' z z) z<|nx<|E' hr z (fun p hr=>?_) (fun p hr=>?_)
 .refine sr<|yy (at' (vs:=#[]) (v:=.agg ([.bool false,.slice none 0 0]).toArray) z z (fun _=>by kernel_rfl)) z<|x' 4 z cl' z z z z z (List.all_eq_true.1 z)<|nx<|k'<|b' ?_
  obtain rfl:_=r:=hr
  exact j' z (ak' (i:=4) aJ' z z z) ⟨_,_,z,(ah' (Rp.int .u32) _)⟩
 refine l'<|a'<|sr<|mv z z<|mv z z<|yy (at' (vs:=#[(0,.bool c),(1,.slice k m.length j)]) (v:=.agg ([.bool c,.slice k m.length j]).toArray) z z (fun _=>by kernel_rfl)) z<|x' 4 z cl' z z z z z (List.all_eq_true.1 z)<|nx<|k' ?_
 obtain rfl:_=r:=hr
 exact j' z (ak' (i:=4) aJ' z z z) ⟨_,_,z,h⟩
theorem fO'{a1 b1 C A I D r}(hr:(Zh4 a1 b1).Ret r):Ctr prog 140 #[.agg ((v99' a1 C A)).toArray,.agg ((v99' b1 I D)).toArray] (fun G=>sl (Rp.int .u32) G C A a1.mag/\sl (Rp.int .u32) G I D b1.mag) (w99' r):=by
 refine A' (args:=[_,_]) (N:=53) func140 z z z (fun w0 G0 a0 aw=>?_)
 obtain⟨aa,Z⟩:=aw
 refine sr<|Y' 2 z z z fun b2=>Y' 3 z z z fun b3=>O' 4 z z99 z fun b4=>nx<|c'<|ad' [ff,ff,ff,ff,ff,ff] mix (by kernel_rfl) fun hb=>cn (fun _ k=>ax' z)<|cn (fun _ k=>g' 2 bs' z z z) ?_
 obtain⟨Y,am,hr⟩:=hr
 refine aw' (post:=wl' (Rp.int .u32) Y) (fun _=>z) (fun _ _=>u' E182 z) (cj' am) z (fun G' k=>(aa.mono k)) (fun v G1 G2 k h=>?_) ?_
 .obtain⟨ab,T,rfl,y⟩:=h
  exact⟨_,_,z,y.mono k⟩
 obtain⟨U,an,hr⟩:=hr
 refine bz' (f:=181) (φ:=wl' (Rp.int .u32) U) (fun _=>z) (fun v G1 G2 k h=>?_) (fun u G' k hu=>?_) ?_
 .obtain⟨X,S,rfl,J⟩:=h
  exact⟨_,_,z,J.mono k⟩
 .obtain⟨⟨ab,T,ae,y⟩,_⟩:=(show (wl' (Rp.int .u32) Y) G'.m (u 13)/\True from hu)
  exact⟨_,_,_,fun _=>u' E181 z,et' an,(by simp only[ae] <;> rfl),y⟩
 refine cu (fun _ _ k=>ax' z)<|cu (fun _ _ k=>g' 3 bs' z z z)<|dL' (d:=14) (post:=wl' (Rp.int .u32) U) (d':=13) (post':=wl' (Rp.int .u32) Y) (fun aR aS a3 ah R K=>?_)
 obtain⟨X,S,rfl,J⟩:=R
 obtain⟨ab,T,rfl,y⟩:=K
 obtain⟨a2,au,hr⟩:=hr
 refine Q' z z (u' E182 z) (cj' au) z ((Z.mono ah)) (fun aL aZ ad Q=>?_)
 obtain⟨aJ,aU,rfl,ak⟩:=Q
 obtain⟨aB,ai,hr⟩:=hr
 refine Q' z z (u' E181 z) (et' ai) z (ak) (fun aP W af L=>?_)
 obtain⟨aq,ap,rfl,ao⟩:=L
 refine sg z z<|sg z z<|o'<|am'<|a'<|c'<|R' (fun (⟨F,E,H,x,g,j,t⟩:(List Int)×Option Addr×Nat×Zj×Option Addr×Nat×Mem)=>[(4,pt0 b4),(5,.slice E F.length H)]) (fun ⟨F,E,H,x,g,j,t⟩=>Mem.le W t/\sl (Rp.int .u32) t E H F/\sl (Rp.int .u32) t g j x.mag/\(Zdh F).Ret r) (fun ⟨F,E,H,x,g,j,t⟩=>St w0 G0 t [(4,bk0 b4 (v99' x g j) 99)]) ?_ ?_
 .refine s' ?_
  let V:(Zj⊕((List Int)×Zj))->Prop:=fun oo=>((fun ov=>match ov with | .inl rv1=>Cq.ret rv1 | .inr (F,x)=>Zdh F:(Zj⊕((List Int)×Zj))->Cq Zj) oo).wp (fun a=>a=r)
  replace hr:(Cq.loop _ _).wp V:=hr
  refine T' (Φ:=V) (fun (⟨B,s,p,q,n,m,o,e,c,l⟩:(List Int)×Option Addr×Nat×(List Int)×Option Addr×Nat×Zj×Option Addr×Nat×Mem)=>((B,q,o):(List Int)×(List Int)×Zj)) (fun ⟨B,s,p,q,n,m,o,e,c,l⟩=>[(4,pt0 b4),(5,.slice s B.length p),(6,.slice n q.length m)]) (fun ⟨B,s,p,q,n,m,o,e,c,l⟩=>Mem.le W l/\sl (Rp.int .u32) l s p B/\sl (Rp.int .u32) l n m q/\sl (Rp.int .u32) l e c o.mag) (fun ⟨B,s,p,q,n,m,o,e,c,l⟩=>St w0 G0 l [(4,bk0 b4 (v99' o e c) 99)]) ⟨U,X,S,aB,aq,ap,(Zj.mk false []),none,0,W⟩ hr (f3 z z z) ⟨mr,(J.mono (mx ad af)),ao,(ah' _ _)⟩ (w1 z) ?_
  .intro aX gx hx hr
   obtain⟨B,s,p,q,n,m,o,e,c,l⟩:=gx
   obtain⟨ac,aC,av,P⟩:=hx
   refine c'<|sr<|mv z z<|yy (K' q' av z) z<|yy (aZ' z z) z<|nx<|E' hr z (fun aG hr=>?_) (fun aG hr=>?_)
   .exact (show False from hr).elim
   refine U'<|h'<|h'<|y'<|W' ⟨B,s,p,o,e,c,l⟩ ⟨ac,aC,P,hr⟩ (f2 z z) (w1 z)
 rintro⟨F,E,H,x,g,j,t⟩ ⟨aH,aE,ax,hr⟩
 refine a'<|sr<|mv z z ?_
 obtain⟨a4,ar,hr⟩:=hr
 refine Q' z z (u' E166 z) (cu' ar) z (aE) (fun aK aY aI M=>?_)
 obtain⟨az,ay,rfl,O⟩:=M
 refine x' 4 z cl' z z z z z (List.all_eq_true.1 z)<|nx<|k' ?_
 obtain rfl:_=r:=hr
 exact j' z (ak' (i:=4) aJ' z z z) ⟨_,_,z,O⟩
theorem dt'{j h e c f d r}(hr:(ZaK j h).Ret r):Ctr prog 119 #[.agg ((v99' j e c)).toArray,.agg ((v99' h f d)).toArray] (fun G=>sl (Rp.int .u32) G e c j.mag/\sl (Rp.int .u32) G f d h.mag) (w101' r):=by
 refine A' (args:=[_,_]) (N:=36) func119 z z z (fun u t p l=>?_)
 obtain⟨k,g⟩:=l
 refine sr<|Y' 2 z z z fun q=>Y' 3 z z z fun x=>O' 4 z z101 z fun s=>nx<|c'<|sr<|yy (m' 3 aJ' z z z) z ?_
 obtain⟨o,m,hr⟩:=hr
 refine B' z z (u' E139 z) (cI' m) z (g)<|nx<|ay' hr z (fun n hr=>?_) (fun n hr=>?_)
 .refine sr<|yy (m' 2 aJ' z z z) z<|yy (m' 3 aJ' z z z) z<|yy (at' (vs:=#[(0,.agg ((v99' j e c)).toArray),(1,.agg ((v99' h f d)).toArray)]) (v:=.agg ([.bool j.neg,.slice e j.mag.length c,.bool h.neg,.slice f h.mag.length d]).toArray) z z (fun _=>by kernel_rfl)) z<|x' 4 z ce' z z z z z (List.all_eq_true.1 z)<|nx<|k'<|b' ?_
  obtain rfl:_=r:=hr
  exact j' z (ak' (i:=4) bg' z z z) ⟨_,_,_,_,z,k,g⟩
 exact (show False from hr).elim
theorem fr'{c r}(hr:(Zgp c).Ret r):Ctr prog 167 #[.int .u64 c] (fun G=>True) (wl' (Rp.int .u32) r):=by
 refine A' (args:=[_]) (N:=10) func167 z z z fun v t i o=>sr<|sg z z<|nr<|mv z z<|yy (az' Z' ac' z) z<|mv z z<|yy (Y0.shr z z (by decide)) z<|yy (az' Z' ac' z) z<|aD' (e:=225) (r:=(Rp.int .u32)) (vs:=#[(0,.int .u32 (u32.wrap c)),(1,.int .u32 (u32.wrap (Int.fdiv c (2 ^ (min (32:Int).toNat u64.bits)))))]) (cs:=[.int .u32 (u32.wrap c)]++([.int .u32 (u32.wrap (Int.fdiv c (2 ^ (min (32:Int).toNat u64.bits))))]++([]))) ([u32.wrap c,u32.wrap (Int.fdiv c (2 ^ (min (32:Int).toNat u64.bits)))]:List Int) z z z z z (by decide) (fun _=>by kernel_rfl) ⟨[.int .u32 (u32.wrap c)],[.int .u32 (u32.wrap (Int.fdiv c (2 ^ (min (32:Int).toNat u64.bits))))]++([]),z,z,⟨[.int .u32 (u32.wrap (Int.fdiv c (2 ^ (min (32:Int).toNat u64.bits))))],[],z,z,z⟩⟩ (key:=999) z (by rw[i]; rfl) (fun u p k h=>?_)
 obtain⟨q,g,hr⟩:=hr
 refine Q' z z (u' E182 z) (cj' g) z (h) (fun l s j d=>?_)
 obtain⟨n,m,rfl,f⟩:=d
 refine sx0 z z<|k' ?_
 obtain rfl:_=r:=hr
 exact j' z z ⟨_,_,z,f⟩
theorem es'{l r}(hr:(ZdV l).Ret r):Ctr prog 118 #[i' l] (fun G=>True) (w99' r):=by
 refine A' (args:=[_]) (N:=15) func118 z z z fun E D B t=>sr<|O' 2 z z99 z fun C=>nr<|mv z z<|yy (az' cV' Z' z) z<|sx0 z z<|c'<|sr<|mv z z<|yy (V' z z) z<|nx<|E' hr z (fun m hr=>?_) (fun m hr=>?_)
 .exact (show False from hr).elim
 refine l'<|a'<|sr<|mv z z<|yy (V' z z) z<|mv z z ?_
 obtain⟨y,h,hr⟩:=hr
 refine Q' z z (u' E167 z) (fr' h) z (trivial) (fun p v o c=>?_)
 obtain⟨s,q,rfl,g⟩:=c
 obtain⟨x,f,hr⟩:=hr
 refine Q' z z (u' E166 z) (cu' f) z (g) (fun u A n e=>?_)
 obtain⟨k,j,rfl,d⟩:=e
 refine x' 2 z cl' z z z z z (List.all_eq_true.1 z)<|nx<|k' ?_
 obtain rfl:_=r:=hr
 exact j' z (ak' (i:=2) aJ' z z z) ⟨_,_,z,d⟩
theorem eY'{d c A F D E r}(hr:(ZeG d c).Ret r):Ctr prog 202 #[.slice A d.length F,.slice D c.length E] (fun G=>sl (Rp.int .u32) G A F d/\sl (Rp.int .u32) G D E c) (wl' (Rp.int .u32) r):=by
 refine A' (args:=[_,_]) (N:=70) func202 z z z (fun Z O ar ao=>?_)
 obtain⟨H,B⟩:=ao
 refine sr<|sg z z<|nr<|mv z z<|yy (K' q' H z) z<|mv z z<|yy (K' q' B z) z<|yy (I' z z) z ?_
 obtain⟨aq,hr⟩:=hr
 refine dC' (r:=(Rp.int .u32)) (e:=225) (n:=i64.wrap ((d.length:Int)+(c.length:Int))) (zx:=0) 4016 z z q' el225 z (by decide) (by decide) z z z aq fun M ag av=>sx0 z z<|c'<|sr<|mv z z<|yy (K' q' H z) z<|mv z z<|nx<|R' (fun (⟨y,p,K⟩:(List Int)×Option Ow×Mem)=>[(5,.slice M (i64.wrap ((d.length:Int)+(c.length:Int))).toNat ((i64.wrap ((d.length:Int)+(c.length:Int))).toNat))]) (fun ⟨y,p,K⟩=>Mem.le O K/\RowR (Rp.int .u32) 225 K (.slice M (i64.wrap ((d.length:Int)+(c.length:Int))).toNat ((i64.wrap ((d.length:Int)+(c.length:Int))).toNat)) y p/\(ZbG y).Ret r) (fun ⟨y,p,K⟩=>St Z O K [(4016,p)]) ?_ ?_
 .refine s' ?_
  let L:(List Int)->Prop:=fun oo=>((fun ov=>match ov with|y=>ZbG y:(List Int)->Cq (List Int)) oo).wp (fun a=>a=r)
  replace hr:(Cq.loop _ _).wp L:=hr
  refine T' (Φ:=L) (fun (⟨q,h,f,v⟩:(List Int)×Option Ow×Int×Mem)=>((q,f):(List Int)×Int)) (fun ⟨q,h,f,v⟩=>[(0,.slice A d.length F),(1,.slice D c.length E),(5,.slice M (i64.wrap ((d.length:Int)+(c.length:Int))).toNat ((i64.wrap ((d.length:Int)+(c.length:Int))).toNat)),(18,i' (d.length:Int)),(19,i' f)]) (fun ⟨q,h,f,v⟩=>Mem.le O v/\RowR (Rp.int .u32) 225 v (.slice M (i64.wrap ((d.length:Int)+(c.length:Int))).toNat ((i64.wrap ((d.length:Int)+(c.length:Int))).toNat)) q h) (fun ⟨q,h,f,v⟩=>St Z O v [(4016,h)]) ⟨(List.replicate (i64.wrap ((d.length:Int)+(c.length:Int))).toNat 0),ag,0,O⟩ hr (f5 z z z z z) ⟨mr,av⟩ (w1 z) ?_
  .intro ad gx hx hr
   obtain⟨q,h,f,v⟩:=gx
   obtain⟨m,R⟩:=hx
   refine sr<|yy (V' z z) z<|nx<|c'<|E' hr z (fun ay hr=>?_) (fun ay hr=>?_)
   .refine l'<|a'<|c'<|s'<|sr<|mv z z<|sg z z<|nr<|sg z z<|nr<|mv z z<|mv z z ?_
    obtain⟨U,af,hr⟩:=hr
    refine yy (P' q' aM' (H.mono m) z z af) z<|yy (ae' bu' z (aA' (H' (X' H af) m))) z<|yy (az' ac' Z' z) z<|sx0 z z<|c'<|sr<|mv z z<|yy (K' q' (B.mono m) z) z<|mv z z<|nx<|R' (fun (⟨u,t,o,J⟩:(List Int)×Option Ow×Int×Mem)=>[(0,.slice A d.length F),(1,.slice D c.length E),(5,.slice M (i64.wrap ((d.length:Int)+(c.length:Int))).toNat ((i64.wrap ((d.length:Int)+(c.length:Int))).toNat)),(6,i' f),(7,.int .u64 o),(18,i' (d.length:Int)),(19,i' f)]) (fun ⟨u,t,o,J⟩=>Mem.le v J/\RowR (Rp.int .u32) 225 J (.slice M (i64.wrap ((d.length:Int)+(c.length:Int))).toNat ((i64.wrap ((d.length:Int)+(c.length:Int))).toNat)) u t/\(ZbH c f u o).wp (Out ad L)) (fun ⟨u,t,o,J⟩=>St Z O J [(4016,t)]) ?_ ?_
    .refine s' ?_
     let T:(((List Int)×Int))->Prop:=fun oo=>((fun ov=>match ov with|(u,o)=>ZbH c f u o:(((List Int)×Int))->Cq (((List Int)×Int)⊕(List Int))) oo).wp (Out ad L)
     replace hr:(Cq.loop _ _).wp T:=hr
     refine T' (Φ:=T) (fun (⟨s,k,l,j,C⟩:(List Int)×Option Ow×Int×Int×Mem)=>((s,l,j):(List Int)×Int×Int)) (fun ⟨s,k,l,j,C⟩=>[(0,.slice A d.length F),(1,.slice D c.length E),(5,.slice M (i64.wrap ((d.length:Int)+(c.length:Int))).toNat ((i64.wrap ((d.length:Int)+(c.length:Int))).toNat)),(6,i' f),(7,.int .u64 l),(8,.int .u64 (u64.wrap U)),(18,i' (d.length:Int)),(19,i' f),(28,i' (c.length:Int)),(29,i' j)]) (fun ⟨s,k,l,j,C⟩=>Mem.le v C/\RowR (Rp.int .u32) 225 C (.slice M (i64.wrap ((d.length:Int)+(c.length:Int))).toNat ((i64.wrap ((d.length:Int)+(c.length:Int))).toNat)) s k) (fun ⟨s,k,l,j,C⟩=>St Z O C [(4016,k)]) ⟨q,h,0,0,v⟩ hr (f10 z z z z z z z z z z) ⟨mr,R⟩ (w1 z) ?_
     .intro aI gx hx hr
      obtain⟨s,k,l,j,C⟩:=gx
      obtain⟨I,x⟩:=hx
      refine sr<|yy (V' z z) z<|nx<|c'<|E' hr z (fun au hr=>?_) (fun au hr=>?_)
      .refine l'<|a'<|c'<|s'<|sr<|mv z z<|sx0 z z<|c'<|ad' [ff,ff,ff,ff,ff,ff,ff,ff,ff,ff,ff,ff,ff,ff,ff,ff] mix (by kernel_rfl) fun hb=>cn (fun _ g=>f' z)<|cn (fun _ g=>f' z)<|cn (fun _ g=>f' z) ?_
       obtain⟨X,ae,hr⟩:=hr
       refine cn (fun _ g=>P' q' aM' ((B.mono (mx m I)).mono g) z z ae)<|cn (fun _ g=>ae' bu' z (aA' (H' (H' (X' B ae) (mx m I)) g)))<|cn (fun _ g=>az' ac' Z' z)<|cn (fun _ g=>dy' z z)<|cn (fun _ g=>f' z)<|cn (fun _ g=>f' z)<|cn (fun _ g=>f' z)<|cn (fun _ g=>I' z z) ?_
       obtain⟨W,ab,hr⟩:=hr
       refine cn (fun _ g=>aY' q' aM' (x.mono g) z z ab)<|cn (fun _ g=>dD' bu' (x.mono g) (key:=4016) z z (aA' (cE' x ab)))<|cn (fun _ g=>az' ac' Z' z)<|cn (fun _ g=>I' z z)<|cn (fun _ g=>f' z)<|af' hb<|yy (I' z z) z<|sg z z<|o'<|am'<|a'<|sr<|mv z z<|mv z z<|mv z z<|yy (I' z z) z<|mv z z<|yy (az' Z' ac' z) z ?_
       obtain⟨x5,ac,hr⟩:=hr
       refine yy (aY' q' aM' x z z ac) z<|bO' (r:=(Rp.int .u32)) (e:=225) (cs':=[.int .u32 (u32.wrap (u64.wrap ((u64.wrap ((u64.wrap ((u64.wrap U)*(u64.wrap X)))+(u64.wrap W)))+l)))]) (i:=i64.wrap (f+j)) (z':=u32.wrap (u64.wrap ((u64.wrap ((u64.wrap ((u64.wrap U)*(u64.wrap X)))+(u64.wrap W)))+l))) 4016 z aM' z x z z z z z ac fun aw an=>nx<|n'<|mv z z<|yy (Y0.shr z z (by decide)) z<|sg z z<|o'<|v'<|a'<|n'<|yy (I' z z) z<|mv z z<|o'<|C' ⟨(s.set (i64.wrap (f+j)).toNat (u32.wrap (u64.wrap ((u64.wrap ((u64.wrap ((u64.wrap U)*(u64.wrap X)))+(u64.wrap W)))+l)))),aw,Int.fdiv (u64.wrap ((u64.wrap ((u64.wrap ((u64.wrap U)*(u64.wrap X)))+(u64.wrap W)))+l)) (2 ^ (min (32:Int).toNat u64.bits)),i64.wrap (j+1),C⟩ hr ⟨I,an⟩ (f10 z z z z z z z z z z) (w1 z)
      refine U'<|h'<|h'<|y'<|W' ⟨s,k,l,C⟩ ⟨I,x,hr⟩ (f7 z z z z z z z) (w1 z)
    rintro⟨u,t,o,J⟩ ⟨P,Q,hr⟩
    refine a'<|n'<|mv z z<|mv z z<|mv z z<|yy (K' q' (B.mono (mx m P)) z) z<|yy (I' z z) z<|mv z z<|yy (az' Z' ac' z) z ?_
    obtain⟨x2,aa,hr⟩:=hr
    refine yy (aY' q' aM' Q z z aa) z<|bO' (r:=(Rp.int .u32)) (e:=225) (cs':=[.int .u32 (u32.wrap o)]) (i:=i64.wrap (f+(c.length:Int))) (z':=u32.wrap o) 4016 z aM' z Q z z z z z aa fun ax al=>o'<|v'<|a'<|n'<|yy (I' z z) z<|mv z z<|o'<|C' ⟨(u.set (i64.wrap (f+(c.length:Int))).toNat (u32.wrap o)),ax,i64.wrap (f+1),J⟩ hr ⟨(mx m P),al⟩ (f5 z z z z z) (w1 z)
   refine U'<|h'<|h'<|y'<|W' ⟨q,h,v⟩ ⟨m,R,hr⟩ (f1 z) (w1 z)
 rintro⟨y,p,K⟩ ⟨aA,Y,hr⟩
 refine a'<|sr<|mv z z<|bQ' (r:=(Rp.int .u32)) (e:=225) 4016 Y z (by rw[ar]; rfl) (fun aH aK aC V aB=>?_)
 obtain⟨aL,ak,hr⟩:=hr
 refine Q' z z (u' E182 z) (cj' ak) (by rw[dc' V]) ((dd' V)) (fun aF aJ az S=>?_)
 obtain⟨aG,aE,rfl,am⟩:=S
 refine sx0 z z<|k' ?_
 obtain rfl:_=r:=hr
 exact j' z z ⟨_,_,z,am⟩
theorem fP'{A t j f g e r}(hr:(Zh5 A t).Ret r):Ctr prog 169 #[.agg ((v99' A j f)).toArray,.agg ((v99' t g e)).toArray] (fun G=>sl (Rp.int .u32) G j f A.mag/\sl (Rp.int .u32) G g e t.mag) (w99' r):=by
 refine A' (args:=[_,_]) (N:=16) func169 z z z (fun T R M y=>?_)
 obtain⟨o,p⟩:=y
 refine sr<|Y' 2 z z z fun U=>Y' 3 z z z fun Q=>O' 4 z z99 z fun V=>nx<|c'<|ad' [ff,ff,ff,ff,ff,ff,ff,ff,ff,ff] mix (by kernel_rfl) fun P=>cn (fun _ c=>aX' z)<|cn (fun _ c=>g' 2 sc4 z z z)<|cn (fun _ c=>aX' z)<|cn (fun _ c=>g' 3 sc4 z z z)<|cn (fun _ c=>Y0.neqB bA' z z)<|cn (fun _ c=>ax' z)<|cn (fun _ c=>g' 2 bs' z z z)<|cn (fun _ c=>ax' z)<|cn (fun _ c=>g' 3 bs' z z z) ?_
 obtain⟨q,B,hr⟩:=hr
 refine aw' (post:=wl' (Rp.int .u32) q) (fun _=>z) (fun _ _=>u' E202 z) (eY' B) z (fun O c=>⟨(o.mono c),(p.mono c)⟩) (fun v W S c h=>?_) ?_
 .obtain⟨x,u,rfl,k⟩:=h
  exact⟨_,_,z,k.mono c⟩
 refine bn' (d:=14) (post:=wl' (Rp.int .u32) q) (fun H J F l=>?_)
 obtain⟨x,u,rfl,k⟩:=l
 obtain⟨K,s,hr⟩:=hr
 refine Q' z z (u' E166 z) (cu' s) z (k) (fun I L E n=>?_)
 obtain⟨D,C,rfl,m⟩:=n
 refine x' 4 z cl' z z z z z (List.all_eq_true.1 z)<|o'<|am'<|a'<|k' ?_
 obtain rfl:_=r:=hr
 exact j' z (ak' (i:=4) aJ' z z z) ⟨_,_,z,m⟩
theorem bW'{I H F r}(hr:(ZH I).Ret r):Ctr prog 120 #[.slice H I.length F] (fun G=>sl bH' G H F I) (w99' r):=by
 refine A' (args:=[_]) (N:=25) func120 z z z (fun w0 X ap T=>?_)
 have C:=T
 refine sr<|O' 2 z z99 z fun L=>nr ?_
 obtain⟨W,U,hr⟩:=hr
 refine Q' z z (u' E118 z) (es' U) z (trivial) (fun af D p u=>?_)
 obtain⟨s,t,rfl,y⟩:=u
 refine O' 3 z z99 z fun O=>x' 3 z cl' z z z z z (List.all_eq_true.1 z)<|nx<|c'<|sr<|mv z z<|yy (K' underlying232 (C.mono p) z) z<|mv z z<|nx<|R' (fun (⟨m,e,f,o⟩:Zj×Option Addr×Nat×Mem)=>[(2,pt0 L),(3,pt0 O)]) (fun ⟨m,e,f,o⟩=>Mem.le D o/\sl (Rp.int .u32) o e f m.mag/\(Zbr m).Ret r) (fun ⟨m,e,f,o⟩=>St w0 X o [(2,bk0 L ([.bool false,.slice none 0 0]) 99),(3,bk0 O (v99' m e f) 99)]) ?_ ?_
 .refine s' ?_
  let E:Zj->Prop:=fun oo=>((fun ov=>match ov with|m=>Zbr m:Zj->Cq Zj) oo).wp (fun a=>a=r)
  replace hr:(Cq.loop _ _).wp E:=hr
  refine T' (Φ:=E) (fun (⟨g,l,d,c,k⟩:Int×Zj×Option Addr×Nat×Mem)=>((g,l):Int×Zj)) (fun ⟨g,l,d,c,k⟩=>[(2,pt0 L),(3,pt0 O),(7,.slice H I.length F),(8,i' (I.length:Int)),(9,i' g)]) (fun ⟨g,l,d,c,k⟩=>Mem.le D k/\sl (Rp.int .u32) k d c l.mag) (fun ⟨g,l,d,c,k⟩=>St w0 X k [(2,bk0 L ([.bool false,.slice none 0 0]) 99),(3,bk0 O (v99' l d c) 99)]) ⟨0,W,s,t,D⟩ hr (f5 z z z z z) ⟨mr,y⟩ (w2 z z) ?_
  .intro an gx hx hr
   obtain⟨g,l,d,c,k⟩:=gx
   obtain⟨j,h⟩:=hx
   refine sr<|yy (V' z z) z<|nx<|c'<|E' hr z (fun ad hr=>?_) (fun ad hr=>?_)
   .refine l'<|a'<|c'<|s'<|sr ?_
    obtain⟨x1,P,hr⟩:=hr
    refine yy (P' underlying232 cl' (C.mono (mx p j)) z z P) z ?_
    obtain⟨J,K,ab,n⟩:=ZnC (H' (X' C P) (mx p j))
    refine yy (as' _ aJ' z z ab) z<|O' 5 z z99 z fun b3=>x' 5 z cl' z z z z z (List.all_eq_true.1 z)<|nx<|s'<|sr<|yy (m' 5 aJ' z z z) z ?_
    obtain⟨am,Q,hr⟩:=hr
    refine B' z z (u' E139 z) (cI' Q) z (n)<|sx0 z z<|ay' hr z (fun Z hr=>?_) (fun Z hr=>?_)
    .refine l'<|v'<|v'<|a'<|n'<|yy (I' z z) z<|mv z z<|o'<|C' ⟨i64.wrap (g+1),l,d,c,k⟩ hr ⟨j,h⟩ (f5 z z z z z) (w2 z z)
    refine sr<|yy (m' 3 aJ' z z z) z ?_
    obtain⟨ao,S,hr⟩:=hr
    refine B' z z (u' E139 z) (cI' S) z (h)<|sx0 z z<|ay' hr z (fun ac hr=>?_) (fun ac hr=>?_)
    .refine n'<|yy (m' 5 aJ' z z z) z<|x' 3 z cl' z z z z z (List.all_eq_true.1 z)<|o'<|v'<|v'<|a'<|n'<|yy (I' z z) z<|mv z z<|o'<|C' ⟨i64.wrap (g+1),x1,J,K,k⟩ hr ⟨j,n⟩ (f5 z z z z z) (w2 z z)
    refine n'<|yy (m' 3 aJ' z z z) z<|yy (m' 5 aJ' z z z) z ?_
    obtain⟨V,R,hr⟩:=hr
    refine Q' z z (u' E169 z) (fP' R) z (⟨h,n⟩) (fun ag Y M x=>?_)
    obtain⟨q,A,rfl,B⟩:=x
    refine x' 3 z cl' z z z z z (List.all_eq_true.1 z)<|o'<|v'<|v'<|a'<|n'<|yy (I' z z) z<|mv z z<|o'<|C' ⟨i64.wrap (g+1),V,q,A,Y⟩ hr ⟨(mx j M),B⟩ (f5 z z z z z) (w2 z z)
   refine U'<|h'<|h'<|y'<|W' ⟨l,d,c,k⟩ ⟨j,h,hr⟩ (f2 z z) (w2 z z)
 rintro⟨m,e,f,o⟩ ⟨ae,v,hr⟩
 refine a'<|sr<|yy (m' 3 aJ' z z z) z<|x' 2 z cl' z z z z z (List.all_eq_true.1 z)<|nx<|k' ?_
 obtain rfl:_=r:=hr
 exact j' z (ak' (i:=2) aJ' z z z) ⟨_,_,z,v⟩
theorem dp'{K J t C x D s A y B r}(hr:(Zae K J).Ret r):Ctr prog 75 #[.agg ((v101' K t C x D)).toArray,.agg ((v101' J s A y B)).toArray] (fun G=>sl (Rp.int .u32) G t C K.num.mag/\sl (Rp.int .u32) G x D K.den.mag/\sl (Rp.int .u32) G s A J.num.mag/\sl (Rp.int .u32) G y B J.den.mag) (w101' r):=by
 refine A' (args:=[_,_]) (N:=30) func75 z z z (fun w0 G0 aH aw=>?_)
 obtain⟨T,W,U,V⟩:=aw
 refine sr<|Y' 2 z z z fun b2=>Y' 3 z z z fun b3=>O' 4 z z101 z fun b4=>nr<|yy (bw' z) z<|yy (aj' ((v99' K.num t C)).toArray 2 aJ' z z z (aq' ([]) ((v99' K.num t C)) ((v99' K.den x D)))) z<|yy (bk' z) z<|yy (aj' ((v99' J.den y B)).toArray 3 aJ' z z z (aq' ((v99' J.num s A)) ((v99' J.den y B)) ([]))) z ?_
 obtain⟨q,ar,hr⟩:=hr
 refine Q' z z (u' E119 z) (dt' ar) z (⟨T,V⟩) (fun aE aJ aa ac=>?_)
 obtain⟨o,n,l,m,rfl,P,O⟩:=ac
 refine O' 5 z z101 z fun b5=>x' 5 z ce' z z z z z (List.all_eq_true.1 z)<|nr<|yy (bw' z) z<|yy (aj' ((v99' J.num s A)).toArray 3 aJ' z z z (aq' ([]) ((v99' J.num s A)) ((v99' J.den y B)))) z<|yy (bk' z) z<|yy (aj' ((v99' K.den x D)).toArray 2 aJ' z z z (aq' ((v99' K.num t C)) ((v99' K.den x D)) ([]))) z ?_
 obtain⟨p,au,hr⟩:=hr
 refine Q' z z (u' E119 z) (dt' au) z (⟨(U.mono aa),(W.mono aa)⟩) (fun aD aG Z ah=>?_)
 obtain⟨c,j,g,k,rfl,R,Q⟩:=ah
 refine O' 6 z z101 z fun b6=>x' 6 z ce' z z z z z (List.all_eq_true.1 z)<|nx<|c'<|ad' [ff,ff,ff,ff,ff,ff,ff,ff,ff,ff,ff] mix (by kernel_rfl) fun hb=>cn (fun _ E=>bw' z)<|cn (fun _ E=>aj' ((v99' q.num o n)).toArray 5 aJ' z z z (aq' ([]) ((v99' q.num o n)) ((v99' q.den l m))))<|cn (fun _ E=>bw' z)<|cn (fun _ E=>aj' ((v99' p.num c j)).toArray 6 aJ' z z z (aq' ([]) ((v99' p.num c j)) ((v99' p.den g k))))<|ch' (r:=bH') (e:=99) ([q.num,p.num]:List Zj) (fun _=>z) z (by decide) (fun u G' E hu=>?_) ?_
 .exact⟨#[(0,.agg ((v99' q.num o n)).toArray),(1,.agg ((v99' p.num c j)).toArray)],(v99' q.num o n)++((v99' p.num c j)++([])),z,z,fun _=>by kernel_rfl,⟨(v99' q.num o n),(v99' p.num c j)++([]),z,⟨[.bool q.num.neg],[.slice o q.num.mag.length n],z,z,⟨_,z,((P.mono Z).mono E)⟩⟩,⟨(v99' p.num c j),[],z,⟨[.bool p.num.neg],[.slice c p.num.mag.length j],z,z,⟨_,z,(R.mono E)⟩⟩,z⟩⟩⟩
 obtain⟨S,ap,hr⟩:=hr
 refine bz' (f:=120) (φ:=w99' S) (fun _=>z) (fun v G1 G2 E h=>?_) (fun u G' E hu=>?_) ?_
 .obtain⟨H,I,rfl,F⟩:=h
  exact⟨_,_,z,F.mono E⟩
 .obtain⟨⟨Y,X,aj,al⟩,_⟩:=(show (fun G v=>∃ Y X,v = .slice Y 2 2/\SlRd bH' G (.slice Y 2 2) X [q.num,p.num]) G'.m (u 21)/\True from hu)
  exact⟨_,_,_,fun _=>u' E120 z,bW' ap,(by simp only[aj] <;> rfl),al⟩
 refine cu (fun _ _ E=>bk' z)<|cu (fun _ _ E=>aj' ((v99' q.den l m)).toArray 5 aJ' z z z (aq' ((v99' q.num o n)) ((v99' q.den l m)) ([])))<|cu (fun _ _ E=>bk' z)<|cu (fun _ _ E=>aj' ((v99' p.den g k)).toArray 6 aJ' z z z (aq' ((v99' p.num c j)) ((v99' p.den g k)) ([])))<|ch' (r:=bH') (e:=99) ([q.den,p.den]:List Zj) (fun _=>z) z (by decide) (fun u G' E hu=>?_) ?_
 .exact⟨#[(0,.agg ((v99' q.den l m)).toArray),(1,.agg ((v99' p.den g k)).toArray)],(v99' q.den l m)++((v99' p.den g k)++([])),z,z,fun _=>by kernel_rfl,⟨(v99' q.den l m),(v99' p.den g k)++([]),z,⟨[.bool q.den.neg],[.slice l q.den.mag.length m],z,z,⟨_,z,((O.mono Z).mono E)⟩⟩,⟨(v99' p.den g k),[],z,⟨[.bool p.den.neg],[.slice g p.den.mag.length k],z,z,⟨_,z,(Q.mono E)⟩⟩,z⟩⟩⟩
 refine dM' (d:=27) (post:=fun G v=>∃ p2 am,v = .slice p2 2 2/\SlRd bH' G (.slice p2 2 2) am [q.den,p.den]) (d':=22) (post':=w99' S) (d'':=21) (post'':=fun G v=>∃ Y X,v = .slice Y 2 2/\SlRd bH' G (.slice Y 2 2) X [q.num,p.num]) (fun aA aC aB aI ay ae ad ag=>?_)
 obtain⟨p2,am,rfl,ax⟩:=ae
 obtain⟨H,I,rfl,F⟩:=ad
 obtain⟨Y,X,rfl,al⟩:=ag
 obtain⟨ai,aq,hr⟩:=hr
 refine Q' z z (u' E120 z) (bW' aq) z (ax) (fun az aF ak ab=>?_)
 obtain⟨L,M,rfl,af⟩:=ab
 refine yy (at' (vs:=#[(0,.agg ((v99' S H I)).toArray),(1,.agg ((v99' ai L M)).toArray)]) (v:=.agg ([.bool S.neg,.slice H S.mag.length I,.bool ai.neg,.slice L ai.mag.length M]).toArray) z z (fun _=>by kernel_rfl)) z<|x' 4 z ce' z z z z z (List.all_eq_true.1 z)<|o'<|am'<|a'<|k' ?_
 obtain rfl:_=r:=hr
 exact j' z (ak' (i:=4) bg' z z z) ⟨_,_,_,_,z,(F.mono ak),af⟩
theorem dN'{m i q g j f c d e r}(hr:(ZaI m i q).Ret r):CtrL prog 104 #[.map (some g),.agg ((v101' i f c d e)).toArray,.agg (vecG (Value.int .i64) 8 q).toArray] [(5500,j)] (fun G=>MapR ky110 (RvA bd' G) (.map (some g)) m j/\sl (Rp.int .u32) G f c i.num.mag/\sl (Rp.int .u32) G d e i.den.mag) (fun G L v=>∃ x,L=[(5500,x)]/\v = .tuple #[]/\MapR ky110 (RvA bd' G) (.map (some g)) r x):=by
 refine ca' (args:=[_,_,_]) (N:=21) func104 z z z (fun P D Q E=>?_)
 obtain⟨l,o,n⟩:=E
 refine sr<|Y' 4 z z z fun S=>Y' 5 z z z fun U=>nx<|c'<|sr<|mv z z<|yy (m' 5 aT' z z (M' _ _ _)) z ?_
 obtain⟨J,hr⟩:=hr
 obtain⟨O,p,hr⟩:=hr
 replace p:_=O:=p
 refine WL.mapGetB (r:=bd') (k:=q) (zc:=[.bool false,.slice none 0 0,.bool false,.slice none 0 0]) (z:=(Ze.mk (Zj.mk false []) (Zj.mk false []))) 5500 z z df' zv101 ⟨[.bool false,.slice none 0 0],[.bool false,.slice none 0 0],z,⟨[.bool false],[.slice none 0 0],z,z,⟨_,z,(ah' _ _)⟩⟩,⟨[.bool false],[.slice none 0 0],z,z,⟨_,z,(ah' _ _)⟩⟩⟩ l z z z J (fun R B=>?_)
 rw[p] at B
 obtain⟨C,A,t,s,rfl,u,y⟩:=Zi9 B
 refine mv z z<|yy (L' z z) z<|yy (L' z z) z<|O' 6 z z101 z fun T=>x' 6 z ce' z z z z z (List.all_eq_true.1 z)<|sg z z<|nr<|mv z z<|nx<|ay' hr z (fun M hr=>?_) (fun M hr=>?_)
 .exact (show False from hr).elim
 refine l'<|a'<|n'<|mv z z<|yy (m' 5 aT' z z (M' _ _ _)) z<|yy (m' 4 bg' z z z) z ?_
 obtain⟨⟨I,F⟩,hr⟩:=hr
 refine dF' (Rv':=RvA bd' D) (k:=q) (z:=i) 5500 z df' l z z z z I ⟨(v101' i f c d e),z,⟨(v99' i.num f c),(v99' i.den d e),z,⟨[.bool i.num.neg],[.slice f i.num.mag.length c],z,z,⟨_,z,o⟩⟩,⟨[.bool i.den.neg],[.slice d i.den.mag.length e],z,z,⟨_,z,n⟩⟩⟩⟩ (fun _ _ _ _ h=>h) F fun K H=>o'<|dU' ?_
 obtain rfl:_=r:=hr
 refine bM' (S':=St P D D [(5500,K)]) (w1 z)<|dn' z  ⟨_,z,z,H⟩
theorem Zd3(p1:(List Zb))(q1:(List Zb))(ah:Option Addr)(al:Nat)(X:Option Addr)(Y:Nat)(r:(List Zb)×Int)(hr:(Zab p1 q1).Ret r):Ctr prog 103 #[.slice ah p1.length al,.slice X q1.length Y] (fun G=>sl r' G ah al p1/\sl r' G X Y q1) (wlt' r' r):=by
 refine A' (args:=[_,_]) (N:=49) func103 z z z (fun w0 G0 ag aT=>?_)
 obtain⟨av,ay⟩:=aT
 have hz:w0.L.zero:=by rw[ag]; intro p hp; simp at hp
 refine sr<|sg z z<|sg z z<|nr<|dq' (ky:=ky110) (Rv:=RvA bd' G0) 4013 z z fun T aD aK=>sx0 z z<|c'<|sr<|mv z z<|yy (K' F' av z) z<|mv z z<|nx<|R' (fun (o:(List ((Fin 8->Int)×Ze))×Option Ow×Mem)=>match o with|⟨W,Q,Z⟩=>[(6,.map (some T))]) (fun (o:(List ((Fin 8->Int)×Ze))×Option Ow×Mem)=>match o with|⟨W,Q,Z⟩=>Mem.le G0 Z/\MapR ky110 (RvA bd' Z) (.map (some T)) W Q/\(Zb7 W).Ret r) (fun (o:(List ((Fin 8->Int)×Ze))×Option Ow×Mem)=>match o with|⟨W,Q,Z⟩=>St w0 G0 Z [(4013,Q)]) ?_ ?_
 .refine s' ?_
  let ab:(((List Zb)×Int)⊕((List ((Fin 8->Int)×Ze))))->Prop:=fun oo=>((fun ov=>match ov with | .inl rv1=>Cq.ret rv1 | .inr W=>Zb7 W:(((List Zb)×Int)⊕((List ((Fin 8->Int)×Ze))))->Cq ((List Zb)×Int)) oo).wp (fun a=>a=r)
  replace hr:(Cq.loop _ _).wp ab:=hr
  refine T' (Φ:=ab) (fun (o:Int×(List ((Fin 8->Int)×Ze))×Option Ow×Mem)=>match o with|⟨q,S,s,F⟩=>((q,S):Int×(List ((Fin 8->Int)×Ze)))) (fun (o:Int×(List ((Fin 8->Int)×Ze))×Option Ow×Mem)=>match o with|⟨q,S,s,F⟩=>[(1,.slice X q1.length Y),(14,.slice ah p1.length al),(15,i' (p1.length:Int)),(16,i' q),(6,.map (some T))]) (fun (o:Int×(List ((Fin 8->Int)×Ze))×Option Ow×Mem)=>match o with|⟨q,S,s,F⟩=>Mem.le G0 F/\MapR ky110 (RvA bd' F) (.map (some T)) S s) (fun (o:Int×(List ((Fin 8->Int)×Ze))×Option Ow×Mem)=>match o with|⟨q,S,s,F⟩=>St w0 G0 F [(4013,s)]) ⟨0,[],aD,G0⟩ hr (f5 z z z z z) ⟨mr,aK⟩ (w1 z) ?_
  .intro aF o hx hr
   obtain⟨q,S,s,F⟩:=o
   obtain⟨A,ar⟩:=hx
   refine sr<|yy (V' z z) z<|nx<|c'<|E' hr z (fun a3 hr=>?_) (fun a3 hr=>?_)
   .refine l'<|a'<|c'<|s'<|sr ?_
    obtain⟨D,aI,hr⟩:=hr
    refine yy (P' F' bh' (av.mono A) z z aI) z ?_
    obtain⟨c,e,f,g,aV,P,O⟩:=bI' (H' (X' av aI) A)
    refine yy (as' _ cM' z z aV) z<|O' 8 z z152 z fun b1=>x' 8 z bh' z z z z z (fun u hu=>Rp.one r' (G:=F) (x:=D) (cs:=((v101' D.c c e f g):List Value)++(vecG (Value.int .i64) 8 D.m)) ⟨(v101' D.c c e f g),vecG (Value.int .i64) 8 D.m,z,⟨(v99' D.c.num c e),(v99' D.c.den f g),z,⟨[.bool D.c.num.neg],[.slice c D.c.num.mag.length e],z,z,⟨_,z,P⟩⟩,⟨[.bool D.c.den.neg],[.slice f D.c.den.mag.length g],z,z,⟨_,z,O⟩⟩⟩,z⟩ u (by first|simpa using hu|simpa [Value.cells] using hu))<|nr<|mv z z<|yy (K' F' (ay.mono A) z) z<|mv z z<|nx<|R' (fun (o:(List ((Fin 8->Int)×Ze))×Option Ow×Mem)=>match o with|⟨R,J,V⟩=>[(1,.slice X q1.length Y),(14,.slice ah p1.length al),(15,i' (p1.length:Int)),(16,i' q),(6,.map (some T))]) (fun (o:(List ((Fin 8->Int)×Ze))×Option Ow×Mem)=>match o with|⟨R,J,V⟩=>Mem.le F V/\MapR ky110 (RvA bd' V) (.map (some T)) R J/\(Zb8 q R).wp (Out aF ab)) (fun (o:(List ((Fin 8->Int)×Ze))×Option Ow×Mem)=>match o with|⟨R,J,V⟩=>St w0 G0 V [(4013,J)]) ?_ ?_
    .refine s' ?_
     let aw:(((List Zb)×Int)⊕((List ((Fin 8->Int)×Ze))))->Prop:=fun oo=>((fun ov=>match ov with | .inl rv2=>Cq.ret (.inr (.inl rv2)) | .inr R=>Zb8 q R:(((List Zb)×Int)⊕((List ((Fin 8->Int)×Ze))))->Cq ((Int×(List ((Fin 8->Int)×Ze)))⊕(((List Zb)×Int)⊕((List ((Fin 8->Int)×Ze)))))) oo).wp (Out aF ab)
     replace hr:(Cq.loop _ _).wp aw:=hr
     refine T' (Φ:=aw) (fun (o:Int×(List ((Fin 8->Int)×Ze))×Option Ow×Mem)=>match o with|⟨B,U,y,K⟩=>((B,U):Int×(List ((Fin 8->Int)×Ze)))) (fun (o:Int×(List ((Fin 8->Int)×Ze))×Option Ow×Mem)=>match o with|⟨B,U,y,K⟩=>[(1,.slice X q1.length Y),(8,pt0 b1),(14,.slice ah p1.length al),(15,i' (p1.length:Int)),(16,i' q),(20,.slice X q1.length Y),(21,i' (q1.length:Int)),(22,i' B),(6,.map (some T))]) (fun (o:Int×(List ((Fin 8->Int)×Ze))×Option Ow×Mem)=>match o with|⟨B,U,y,K⟩=>Mem.le F K/\MapR ky110 (RvA bd' K) (.map (some T)) U y) (fun (o:Int×(List ((Fin 8->Int)×Ze))×Option Ow×Mem)=>match o with|⟨B,U,y,K⟩=>St w0 G0 K [(8,bk0 b1 (((v101' D.c c e f g):List Value)++(vecG (Value.int .i64) 8 D.m)) 152),(4013,y)]) ⟨0,S,s,F⟩ hr (f9 z z z z z z z z z) ⟨mr,ar⟩ (w2 z z) ?_
     .intro bd o hx hr
      obtain⟨B,U,y,K⟩:=o
      obtain⟨I,ax⟩:=hx
      refine sr<|yy (V' z z) z<|nx<|c'<|E' hr z (fun a0 hr=>?_) (fun a0 hr=>?_)
      .refine l'<|a'<|c'<|s'<|sr ?_
       obtain⟨H,aE,hr⟩:=hr
       refine yy (P' F' bh' (ay.mono (mx A I)) z z aE) z ?_
       obtain⟨l,k,m,n,aZ,L,M⟩:=bI' (H' (X' ay aE) (mx A I))
       refine yy (as' _ cM' z z aZ) z<|O' 10 z z152 z fun b2=>x' 10 z bh' z z z z z (fun u hu=>Rp.one r' (G:=K) (x:=H) (cs:=((v101' H.c l k m n):List Value)++(vecG (Value.int .i64) 8 H.m)) ⟨(v101' H.c l k m n),vecG (Value.int .i64) 8 H.m,z,⟨(v99' H.c.num l k),(v99' H.c.den m n),z,⟨[.bool H.c.num.neg],[.slice l H.c.num.mag.length k],z,z,⟨_,z,L⟩⟩,⟨[.bool H.c.den.neg],[.slice m H.c.den.mag.length n],z,z,⟨_,z,M⟩⟩⟩,z⟩ u (by first|simpa using hu|simpa [Value.cells] using hu))<|nr<|yy (aL' z) z<|yy (aj' (vecG (Value.int .i64) 8 D.m).toArray 8 aT' z z (M' _ _ _) (aq' ((v101' D.c c e f g)) (vecG (Value.int .i64) 8 D.m) ([]))) z<|yy (aL' z) z<|yy (aj' (vecG (Value.int .i64) 8 H.m).toArray 10 aT' z z (M' _ _ _) (aq' ((v101' H.c l k m n)) (vecG (Value.int .i64) 8 H.m) ([]))) z ?_
       obtain⟨aG,aP,hr⟩:=hr
       refine B' z z (u' E146 z) (fB' aP) z (trivial)<|mv z z<|yy (L' z z) z<|yy (L' z z) z<|O' 11 z z110 z fun b3=>x' 11 z sz110 z z z (M' _ _ _) (M' _ _ _) (fun u hu=>Rp.one (cy' .i64 8) (G:=K) (x:=aG.1) (cs:=vecG (Value.int .i64) 8 aG.1) z u (by first|simpa using hu|simpa [Value.cells] using hu))<|sx0 z z<|c'<|sr<|mv z z<|yy (bj' z z) z<|nx<|E' hr z (fun a1 hr=>?_) (fun a1 hr=>?_)
       .exact (show False from hr).elim
       refine l'<|a'<|ad' [ff,ff,ff,ff,ff,ff,ff] mix (by kernel_rfl) fun hb=>cn (fun _ t=>f' z)<|cn (fun _ t=>bB' z)<|cn (fun _ t=>aj' ((v101' D.c c e f g)).toArray 8 bg' z z z (aq' ([]) ((v101' D.c c e f g)) ((vecG (Value.int .i64) 8 D.m))))<|cn (fun _ t=>bB' z)<|cn (fun _ t=>aj' ((v101' H.c l k m n)).toArray 10 bg' z z z (aq' ([]) ((v101' H.c l k m n)) ((vecG (Value.int .i64) 8 H.m)))) ?_
       obtain⟨aH,aS,hr⟩:=hr
       refine aw' (post:=w101' aH) (fun _=>z) (fun _ _=>u' E75 z) (dp' aS) z (fun G' t=>⟨((P.mono I).mono t),((O.mono I).mono t),(L.mono t),(M.mono t)⟩) (fun v G1 G2 t h=>?_) ?_
       .obtain⟨af,aa,ac,ad,rfl,C,E⟩:=h
        exact⟨_,_,_,_,z,C.mono t,E.mono t⟩
       refine cu (fun _ _ t=>m' 11 aT' z z (M' _ _ _))<|bn' (d:=42) (post:=w101' aH) (fun a7 be an aq=>?_)
       obtain⟨af,aa,ac,ad,rfl,C,E⟩:=aq
       obtain⟨aW,aJ,hr⟩:=hr
       refine aC' (fun w hs=>hs.rekey (i:=4013) (j:=5500) z (by rw[ag]; rfl))<|ci' z z (u' E104 z) (dN' aJ) z (⟨(bx' ax an),C,E⟩) (lc z ln) hz (fun a8 aX bc aB ap=>?_)
       obtain⟨aC,rfl,rfl,au⟩:=ap
       refine aC' (fun w hs=>hs.rekey (i:=5500) (j:=4013) z (by rw[ag]; rfl))<|o'<|am'<|v'<|a'<|n'<|yy (I' z z) z<|mv z z<|o'<|C' ⟨i64.wrap (B+1),aW,aC,aX⟩ hr ⟨(mx (mx I an) aB),au⟩ (f9 z z z z z z z z z) (w2 z z)
      refine U'<|h'<|h'<|y'<|W' ⟨U,y,K⟩ ⟨I,ax,hr⟩ (f5 z z z z z) (w1 z)
    rintro⟨R,J,V⟩ ⟨aA,aM,hr⟩
    refine v'<|a'<|n'<|yy (I' z z) z<|mv z z<|o'<|C' ⟨i64.wrap (q+1),R,J,V⟩ hr ⟨(mx A aA),aM⟩ (f5 z z z z z) (w1 z)
   refine U'<|h'<|h'<|y'<|W' ⟨S,s,F⟩ ⟨A,ar,hr⟩ (f1 z) (w1 z)
 rintro⟨W,Q,Z⟩ ⟨a4,aQ,hr⟩
 refine a'<|sr<|mv z z ?_
 obtain⟨bg,aO,hr⟩:=hr
 refine aC' (fun w hs=>hs.rekey (i:=4013) (j:=5500) z (by rw[ag]; rfl))<|WL.callRO z z (u' E105 z) (dR' aO) z (aQ) (lc z ln) (fun i hi=>by simp only[List.map_cons,List.map_nil,List.mem_cons,List.not_mem_nil,or_false] at hi; subst hi; exact z) hz (fun a9 bf a5 ao=>?_)
 obtain⟨bb,a6,rfl,aR⟩:=ao
 refine aC' (fun w hs=>hs.rekey (i:=5500) (j:=4013) z (by rw[ag]; rfl))<|sg z z<|sx0 z z<|k' ?_
 obtain rfl:_=r:=hr
 exact bE' z z z ⟨_,_,z,aR⟩
theorem eJ'(W:Nat->Nat->List Zb)(q:List (List Zb))(e:List Value)(f:Unit):CtrL prog 101 #[.agg e.toArray] [] (fun G=>ArRd (Rp.sl r') 8 G e f q) (fun G L v=>∃ c d,v = .func (.func 145) #[] #[pt0 c,pt0 d]/\PwR (Rp.sl r') 44 211 144 W q G L c d):=by
 refine ca' (args:=[_]) (N:=5) func101 z z z fun i j h g=>sr<|Y' 8000103 z z z fun d=>sg z z<|nr<|O' 8000101 z z211 z fun c=>nr<|yy (Y0.makeFunc z z) z<|sx0 z z<|k'<|j' z z ⟨_,_,z,_,PwN.start g⟩
theorem ZeX(W:Nat->Nat->List Zb)(q:List (List Zb))(kb qb:Nat)(T:Lo)(i e:Int)(hW:PowOk Zab q W)(F:0<=i/\i<8)(he:1<=e/\e<=64):CtrL prog 145 #[i' i,i' e,pt0 kb,pt0 qb] T (fun G=>PwR (Rp.sl r') 44 211 144 W q G T kb qb) (fun G L v=>(∃ p c,v = .slice p (W i.toNat e.toNat).length c/\SlR r' G (.slice p (W i.toNat e.toNat).length c) (W i.toNat e.toNat))/\PwR (Rp.sl r') 44 211 144 W q G L kb qb):=by
 obtain⟨j,rfl⟩:∃ j:Nat,i=j:=⟨i.toNat,by omega⟩
 obtain⟨m,rfl⟩:∃ m:Nat,e=m:=⟨e.toNat,by omega⟩
 have s:j<8:=by omega
 refine ca' (args:=[_,_,_,_]) (N:=58) func145 z z z (fun w0 E aD A=>?_)
 obtain⟨y,A⟩:=A
 have ao:∀ k,k<8000000->w0.L.get k=none:=fun k R=>by rw[aD]; exact A.low R
 obtain⟨cs,R,aM,aN⟩:=A.known
 obtain⟨p0,c0,aH,a4⟩:=aN j s
 obtain⟨qs,qu,aI,hq⟩:=A.box
 have a7:((j:Int)).toNat=j:=z
 refine sr<|sg z z<|nx ?_
 have aP:8000000<=kcode (j:Int):=ZiA _
 refine aP' (X:=Mem×Lo) (fun _=>[(0,i' (j:Int)),(1,i' (m:Int)),(2,pt0 kb),(3,pt0 qb)]) (fun x=>Mem.le E x.1/\∃ y,1<=y j/\PwN (Rp.sl r') 44 211 144 W q y x.1 x.2 kb qb) (fun x=>St w0 E x.1 x.2) ?_ ?_
 .refine sr<|mv z z<|yy (aQ' underlying211 sz210 z z F) z<|yy (g' 8000101 sc210 z R (by rw[List.getElem?_toArray]; exact aH)) z<|yy (Y0.lenC underlying210 z) z<|yy (au' z z) z<|nx ?_
  refine WC.condD (p:=((y j:Nat):Int)=0) z (fun hn=>?_) (fun hn=>?_)
  .obtain⟨qp,qc,qe,qh⟩:=dg' (ArRd.at hq (i:=(j:Int)) ⟨by omega,hW.1 j s⟩)
   refine n'<|mv z z<|mv z z<|yy (dh' cz' sz44 z z (dI' hq (i:=(j:Int)) ⟨by omega,hW.1 j s⟩)) z<|yy (g' 8000103 sc44 z aI qe) z<|WL.litT (e:=44) (r:=(Rp.sl r')) (vs:=#[(0,.slice qp (W j 1).length qc)]) (cs:=[.slice qp (W j 1).length qc]++([])) ([W j 1]:List (List Zb)) (kcode (j:Int)) Zn z z z z (by decide) (fun _=>by kernel_rfl) ⟨[.slice qp (W j 1).length qc],[],z,⟨_,z,qh⟩,z⟩ fun p tk h=>yy (aQ' underlying211 sz210 z z F) z<|aB' 8000101 (cs.set j (.slice p 1 1)).toArray Zn sz210 z z (by rw[Lo.Zl,if_neg (by rw[ZaD]; omega)]; exact R) (by rw[List.size_toArray,aM]; exact s) z (List.setIfInBounds_toArray ..)<|o'<|al' (X:=Mem×Lo) (E,_) ⟨Mem.le_refl _,_,?_,PwN.put A R (n:=1) s h⟩ (fc z (fc z (fc z (fc z (Fr.Zs _))))) (fun w D=>D)
   simp
  refine l' ?_
  exact al' (X:=Mem×Lo) (E,T) ⟨Mem.le_refl _,y,by omega,A⟩ (fc z (fc z (fc z (fc z (Fr.Zs _))))) (fun w D=>D)
 rintro⟨G1,T1⟩ ⟨am,ak,aC,S⟩
 dsimp only at am S ⊢
 refine aP' (X:=Mem×Lo) (fun _=>[(0,i' (j:Int)),(1,i' (m:Int)),(2,pt0 kb),(3,pt0 qb)]) (fun x=>Mem.le E x.1/\∃ y,m<=y j/\PwN (Rp.sl r') 44 211 144 W q y x.1 x.2 kb qb) (fun x=>St w0 E x.1 x.2) ?_ ?_
 .refine s'<|WC.loopH (X:=Mem×Lo×Nat) (fun _=>[(0,i' (j:Int)),(1,i' (m:Int)),(2,pt0 kb),(3,pt0 qb)]) (fun x=>Mem.le E x.1/\∃ y,y j=x.2.2/\1<=y j/\PwN (Rp.sl r') 44 211 144 W q y x.1 x.2.1 kb qb) (fun x=>St w0 E x.1 x.2.1) (fun x=>64-x.2.2) (G1,T1,ak j) (fc z (fc z (fc z (fc z (Fr.Zs _))))) ⟨am,ak,z,aC,S⟩ (fun w D=>D) ?_
  rintro⟨G2,T2,n⟩ ⟨V,d,an,aj,o⟩
  dsimp only at V an o ⊢
  subst an
  have ag:=o.low (i:=999) (by omega)
  obtain⟨aL,C,aq,aw⟩:=o.known
  obtain⟨p2,c2,M,J⟩:=aw j s
  obtain⟨aZ,a5,av,al⟩:=o.box
  refine c'<|sr<|mv z z<|yy (aQ' underlying211 sz210 z z F) z<|yy (g' 8000101 sc210 z C (by rw[List.getElem?_toArray]; exact M)) z<|yy (Y0.lenC underlying210 z) z<|mv z z<|yy (V' z z) z<|nx ?_
  refine WC.condD (p:=((d j:Nat):Int)<(m:Int)) z (fun hn=>?_) (fun hn=>?_)
  .have ab:(wrow W j (d j))[d j-1]? = some (W j (d j)):=by
    have:=Znn W j (n:=d j) (k:=d j-1) (by omega)
    rwa [show d j-1+1=d j by omega] at this
   have B:(0:Int)<=((d j-1:Nat):Int)/\(wrow W j (d j))[(((d j-1:Nat):Int)).toNat]? = some (W j (d j)):=⟨by omega,ab⟩
   have Q:i64.wrap (((d j:Nat):Int)-1)=((d j-1:Nat):Int):=by rw[IntKind.wrap_i64]; omega
   obtain⟨xp,xc,xe,xh⟩:=dg' (cE' J B)
   obtain⟨qp,qc,qe,qh⟩:=dg' (ArRd.at al (i:=(j:Int)) ⟨by omega,hW.1 j s⟩)
   obtain⟨P,az⟩:=hW.2 j s (d j) aj (by omega)
   refine l'<|a'<|s'<|c'<|ad' [ff,ff,ff,ff,ff,ff,ff,ff,ff,ff,ff,ff,ff,ff,ff,ff,tt] mix (by kernel_rfl) fun hb=>cn (fun _ f=>f' z)<|cn (fun _ f=>aQ' underlying211 sz210 z z F)<|cn (fun _ f=>g' 8000101 sc210 z C (by rw[List.getElem?_toArray]; exact M)) ?_
   refine cn (fun _ f=>f' z)<|cn (fun _ f=>aQ' underlying211 sz210 z z F)<|cn (fun _ f=>g' 8000101 sc210 z C (by rw[List.getElem?_toArray]; exact M))<|cn (fun _ f=>Y0.lenC underlying210 z)<|cn (fun _ f=>cp' (be' z z) (congrArg (Value.int .i64) Q)) ?_
   refine cn (fun _ f=>aY' underlying210 sz44 (J.mono f) z z B)<|cn (fun _ f=>dD' sc44 (J.mono f) (key:=kcode (j:Int)) z z xe)<|cn (fun _ f=>f' z)<|cn (fun _ f=>dh' cz' sz44 z z (dI' al (i:=(j:Int)) ⟨by omega,hW.1 j s⟩))<|cn (fun _ f=>g' 8000103 sc44 z av qe)<|aw' (post:=fun G v=>∃ g l,v = .tuple #[.slice g (W j (d j+1)).length l,i' P]/\SlR r' G (.slice g (W j (d j+1)).length l) (W j (d j+1))) (fun _=>Zn) (fun _ _=>u' E103 z) (Zd3 _ _ _ _ _ _ _ az) z (fun O f=>⟨xh.mono f,qh.mono f⟩) (fun v G1 G2 f h=>?_) ?_
   .obtain⟨g,l,rfl,t⟩:=h
    exact⟨_,_,z,t.mono f⟩
   refine bC' (φ:=fun G v=>∃ g l,v = .tuple #[.slice g (W j (d j+1)).length l,i' P]/\SlR r' G (.slice g (W j (d j+1)).length l) (W j (d j+1))) (fun _=>Zn) (fun v G1 G2 f h=>?_) (fun u O f Y=>?_) ?_
   .obtain⟨g,l,rfl,t⟩:=h
    exact⟨_,_,z,t.mono f⟩
   .obtain⟨⟨g,l,zu,t⟩,_⟩:=(show (fun G v=>∃ g l,v = .tuple #[.slice g (W j (d j+1)).length l,i' P]/\SlR r' G (.slice g (W j (d j+1)).length l) (W j (d j+1))) O.m (u 40)/\True from Y)
    simp only[undFr,zu]
    exact⟨_,f' z,g,l,z,t⟩
   refine bC' (φ:=fun G v=>∃ g l,v = .slice g (W j (d j+1)).length l/\SlR r' G (.slice g (W j (d j+1)).length l) (W j (d j+1))) (fun _=>Zn) (fun v G1 G2 f h=>?_) (fun u O f Y=>?_) ?_
   .obtain⟨g,l,rfl,t⟩:=h
    exact⟨_,_,z,t.mono f⟩
   .obtain⟨⟨g,l,zu,t⟩,_,_⟩:=(show (fun G v=>∃ g l,v = .tuple #[.slice g (W j (d j+1)).length l,i' P]/\SlR r' G (.slice g (W j (d j+1)).length l) (W j (d j+1))) O.m (u 26)/\True/\True from Y)
    simp only[undFr,zu]
    exact⟨_,L' z z,g,l,z,t⟩
   refine bZ' (c:=i' P) (fun _=>Zn) (fun u O f Y=>?_) ?_
   .obtain⟨_,⟨g,l,zu,t⟩,_,_⟩:=(show True/\(fun G v=>∃ g l,v = .tuple #[.slice g (W j (d j+1)).length l,i' P]/\SlR r' G (.slice g (W j (d j+1)).length l) (W j (d j+1))) O.m (u 26)/\True/\True from Y)
    simp only[undFr,zu]
    exact L' z z
   refine Chain.tailX3 (fun a1 a6 a0 X Z aE a2 a8=>?_)
   obtain⟨g,l,rfl,t⟩:=aE
   refine cJ' (show WL _ _ _ _ _ _ (St w0 E X.m _) from ?_)
   refine sg z z<|sg z z<|o'<|am'<|a'<|n'<|mv z z<|mv z z<|yy (aQ' underlying211 sz210 z z F) z<|yy (g' 8000101 sc210 z C (by rw[List.getElem?_toArray]; exact M)) z<|mv z z ?_
   refine aD' (e:=44) (r:=(Rp.sl r')) (vs:=#[(0,.slice g (W j (d j+1)).length l)]) (cs:=[.slice g (W j (d j+1)).length l]++([])) ([W j (d j+1)]:List (List Zb)) Zn z z z z (by decide) (fun _=>by kernel_rfl) ⟨[.slice g (W j (d j+1)).length l],[],z,⟨_,z,t⟩,z⟩ (key:=999) ag (ao 999 (by omega)) (fun lp G4 I lh=>?_)
   have hl:(wrow W j (d j)++[W j (d j+1)]).length=d j+1:=by simp[ZpZ]
   refine WL.appendT (r:=(Rp.sl r')) (e:=44) (kcode (j:Int)) Zn z underlying210 el44 z (by decide) z z (J.mono (mx Z I)) z lh (by rw[hl]; simp only[small]; omega) (fun np nc a3 nh=>?_)
   rw[hl] at nh ⊢
   rw[ZoY] at nh
   refine yy (aQ' underlying211 sz210 z z F) z<|aB' 8000101 (aL.set j (.slice np (d j+1) nc)).toArray Zn sz210 z z (by rw[Lo.Zl,if_neg (by rw[ZaD]; omega)]; exact C) (by rw[List.size_toArray,aq]; exact s) z (List.setIfInBounds_toArray ..)<|o'<|v'<|WE.backH (X:=Mem×Lo×Nat) (G4,_,d j+1) ⟨mx V (mx Z I),_,?_,?_,PwN.put (o.mono (mx Z I)) C (n:=d j+1) s nh⟩ (fc z (fc z (fc z (fc z (Fr.Zs _))))) (fun w D=>D) ?_
   .simp
   .simp
   show 64-(d j+1)<64-d j
   omega
  refine U'<|h'<|h'<|y' ?_
  exact al' (X:=Mem×Lo) (G2,T2) ⟨V,d,by omega,o⟩ (fc z (fc z (fc z (fc z (Fr.Zs _))))) (fun w D=>D)
 rintro⟨G3,T3⟩ ⟨aG,K,aj,H⟩
 dsimp only at aG H ⊢
 obtain⟨a9,aK,aV,ar⟩:=H.known
 obtain⟨p3,c3,aF,U⟩:=ar j s
 have ab:(wrow W j (K j))[m-1]? = some (W j m):=by
  have:=Znn W j (n:=K j) (k:=m-1) (by omega)
  rwa [show m-1+1=m by omega] at this
 have B:(0:Int)<=((m-1:Nat):Int)/\(wrow W j (K j))[(((m-1:Nat):Int)).toNat]? = some (W j m):=⟨by omega,ab⟩
 have Q:i64.wrap ((m:Int)-1)=((m-1:Nat):Int):=by rw[IntKind.wrap_i64]; omega
 obtain⟨xp,xc,xe,xh⟩:=dg' (cE' U B)
 refine sr<|mv z z<|yy (aQ' underlying211 sz210 z z F) z<|yy (g' 8000101 sc210 z aK (by rw[List.getElem?_toArray]; exact aF)) z<|mv z z<|yy (cp' (be' z z) (congrArg (Value.int .i64) Q)) z<|yy (aY' underlying210 sz44 U z z B) z<|yy (dD' sc44 U (key:=kcode (j:Int)) z z xe) z<|sx0 z z<|k' ?_
 exact j' z z ⟨⟨_,_,z,xh⟩,K,H⟩
theorem dr'{g k j r}(hr:(Zci g).Ret r):Ctr prog 165 #[.slice k g.length j] (fun G=>sl (Rp.int .u32) G k j g) (wl' (Rp.int .u32) r):=by
 refine A' (args:=[_]) (N:=21) func165 z z z (fun s l E p=>?_)
 have i:=p
 refine sr<|sg z z<|nr<|mv z z<|yy (K' q' i z) z<|sx0 z z<|c'<|R' (fun (⟨h,f⟩:Int×Mem)=>[(0,.slice k g.length j),(3,i' h)]) (fun ⟨h,f⟩=>Mem.le l f/\(ZeZ g h).Ret r) (fun ⟨h,f⟩=>St s l f []) ?_ ?_
 .refine s' ?_
  let m:Int->Prop:=fun A=>((fun x=>match x with|h=>ZeZ g h:Int->Cq (List Int)) A).wp (fun a=>a=r)
  replace hr:(Cq.loop _ _).wp m:=hr
  refine T' (Φ:=m) (fun (⟨e,c⟩:Int×Mem)=>(e:Int)) (fun ⟨e,c⟩=>[(0,.slice k g.length j),(3,i' e)]) (fun ⟨e,c⟩=>Mem.le l c) (fun ⟨e,c⟩=>St s l c []) ⟨(g.length:Int),l⟩ hr (f2 z z) mr (wk ln) ?_
  .intro C y B hr
   obtain⟨e,c⟩:=y
   have d:=B
   refine c'<|sr<|mv z z<|ao' hr z (aZ' z z) z (fun u hr=>?_) (fun u hr=>?_)
   .refine mv z z<|gy z z (f' z) z<|gy z z (f' z) z<|gy z z (be' z z) z ?_
    obtain⟨H,o,hr⟩:=hr
    refine gy z z (P' q' aM' (i.mono d) z z o) z<|gy z z (ae' bu' z (aA' (H' (X' i o) d))) z<|gy z z (au' z z) z<|yy (t' z z) z<|nx<|E' hr z (fun v hr=>?_) (fun v hr=>?_)
    .refine l'<|a'<|s'<|n'<|mv z z<|yy (be' z z) z<|sg z z<|o'<|v'<|C' ⟨i64.wrap (e-1),c⟩ hr d (f2 z z) (wk ln)
    refine U'<|h'<|h'<|y'<|W' ⟨e,c⟩ ⟨d,hr⟩ (f2 z z) (wk ln)
   refine mv z z<|sn6 z<|yy (p' z z) z<|nx<|aK' z<|U'<|h'<|h'<|y'<|W' ⟨e,c⟩ ⟨d,hr⟩ (f2 z z) (wk ln)
 rintro⟨h,f⟩ ⟨n,hr⟩
 refine a'<|sr<|mv z z<|mv z z ?_
 obtain⟨q,hr⟩:=hr
 refine WL.sliceRH (r:=(Rp.int .u32)) z z q' aM' z (i.mono n) z z q fun F D t=>sx0 z z<|k' ?_
 obtain rfl:_=r:=hr
 exact j' z z ⟨_,_,z,t⟩
theorem dY'{c r}(hr:(Zdw c).Ret r):Ctr prog 116 #[.int .u64 c] (fun G=>True) (wl' (Rp.int .u32) r):=by
 refine A' (args:=[_]) (N:=11) func116 z z z fun v t i o=>sr<|sg z z<|nr<|mv z z<|yy (bL' z z (by decide)) z<|yy (az' Z' ac' z) z<|mv z z<|yy (dz' z z (by decide)) z<|yy (az' Z' ac' z) z<|aD' (e:=225) (r:=(Rp.int .u32)) (vs:=#[(0,.int .u32 (u32.wrap (Int.tmod c 4294967296))),(1,.int .u32 (u32.wrap (u64.wrap (Int.tdiv c 4294967296))))]) (cs:=[.int .u32 (u32.wrap (Int.tmod c 4294967296))]++([.int .u32 (u32.wrap (u64.wrap (Int.tdiv c 4294967296)))]++([]))) ([u32.wrap (Int.tmod c 4294967296),u32.wrap (u64.wrap (Int.tdiv c 4294967296))]:List Int) z z z z z (by decide) (fun _=>by kernel_rfl) ⟨[.int .u32 (u32.wrap (Int.tmod c 4294967296))],[.int .u32 (u32.wrap (u64.wrap (Int.tdiv c 4294967296)))]++([]),z,z,⟨[.int .u32 (u32.wrap (u64.wrap (Int.tdiv c 4294967296)))],[],z,z,z⟩⟩ (key:=999) z (by rw[i]; rfl) (fun u p k h=>?_)
 obtain⟨q,g,hr⟩:=hr
 refine Q' z z (u' E165 z) (dr' g) z (h) (fun l s j d=>?_)
 obtain⟨n,m,rfl,f⟩:=d
 refine sx0 z z<|k' ?_
 obtain rfl:_=r:=hr
 exact j' z z ⟨_,_,z,f⟩
theorem cw'{h m k j r}(hr:(ZaL h m).Ret r):Ctr prog 115 #[.bool h,.slice k m.length j] (fun G=>sl (Rp.int .u32) G k j m) (w99' r):=by
 refine A' (args:=[_,_]) (N:=16) func115 z z z (fun A y u l=>?_)
 have o:=l
 refine sr<|O' 4 z z99 z fun x=>nr<|mv z z ?_
 obtain⟨c,n,hr⟩:=hr
 refine Q' z z (u' E165 z) (dr' n) z (o) (fun s t q g=>?_)
 obtain⟨e,d,rfl,f⟩:=g
 refine sg z z<|nr<|ao' hr z (cp' (f' z) (congrArg Value.bool (bdec _))) z (fun p hr=>?_) (fun p hr=>?_)
 .refine mv z z<|gy z z (f' z) z<|gy z z (K' q' f z) z<|gy z z (aZ' z z) z<|yy (t' z z) z<|mv z z<|yy (at' (vs:=#[(0,.bool (decide (0<(c.length:Int)))),(1,.slice e c.length d)]) (v:=.agg ([.bool (decide (0<(c.length:Int))),.slice e c.length d]).toArray) z z (fun _=>by kernel_rfl)) z<|x' 4 z cl' z z z z z (List.all_eq_true.1 z)<|nx<|k' ?_
  obtain rfl:_=r:=hr
  exact j' z (ak' (i:=4) aJ' z z z) ⟨_,_,z,f⟩
 refine mv z z<|sn3 z<|yy (p' z z) z<|mv z z<|yy (at' (vs:=#[(0,.bool false),(1,.slice e c.length d)]) (v:=.agg ([.bool false,.slice e c.length d]).toArray) z z (fun _=>by kernel_rfl)) z<|x' 4 z cl' z z z z z (List.all_eq_true.1 z)<|nx<|k' ?_
 obtain rfl:_=r:=hr
 exact j' z (ak' (i:=4) aJ' z z z) ⟨_,_,z,f⟩
theorem fj'{u r}(hr:(ZiZ u).Ret r):Ctr prog 72 #[i' u] (fun G=>True) (w99' r):=by
 refine A' (args:=[_]) (N:=16) func72 z z z fun Y X V K=>sr<|O' 2 z z99 z fun W=>nx<|c'<|sr<|mv z z<|yy (V' z z) z<|nx<|E' hr z (fun v hr=>?_) (fun v hr=>?_)
 .refine sr<|mv z z<|yy (I' z z) z<|yy (Y0.neg z) z<|yy (az' cV' Z' z) z<|yy (I' z z) z ?_
  obtain⟨Q,o,hr⟩:=hr
  refine Q' z z (u' E116 z) (dY' o) z (trivial) (fun C M B d=>?_)
  obtain⟨I,F,rfl,n⟩:=d
  obtain⟨O,j,hr⟩:=hr
  refine Q' z z (u' E115 z) (cw' j) z (n) (fun L T A g=>?_)
  obtain⟨s,q,rfl,e⟩:=g
  refine x' 2 z cl' z z z z z (List.all_eq_true.1 z)<|nx<|k'<|b' ?_
  obtain rfl:_=r:=hr
  exact j' z (ak' (i:=2) aJ' z z z) ⟨_,_,z,e⟩
 refine l'<|a'<|sr<|mv z z<|yy (az' cV' Z' z) z ?_
 obtain⟨S,m,hr⟩:=hr
 refine Q' z z (u' E116 z) (dY' m) z (trivial) (fun J U y c=>?_)
 obtain⟨D,H,rfl,l⟩:=c
 obtain⟨P,k,hr⟩:=hr
 refine Q' z z (u' E115 z) (cw' k) z (l) (fun E R x f=>?_)
 obtain⟨p,t,rfl,h⟩:=f
 refine x' 2 z cl' z z z z z (List.all_eq_true.1 z)<|nx<|k' ?_
 obtain rfl:_=r:=hr
 exact j' z (ak' (i:=2) aJ' z z z) ⟨_,_,z,h⟩
theorem cP'{q r}(hr:(Zak q).Ret r):Ctr prog 38 #[i' q] (fun G=>True) (w101' r):=by
 refine A' (args:=[_]) (N:=7) func38 z z z fun E D B u=>sr<|O' 2 z z101 z fun C=>nr<|mv z z ?_
 obtain⟨m,p,hr⟩:=hr
 refine Q' z z (u' E72 z) (fj' p) z (trivial) (fun t y s g=>?_)
 obtain⟨c,d,rfl,j⟩:=g
 obtain⟨l,o,hr⟩:=hr
 refine Q' z z (u' E72 z) (fj' o) z (trivial) (fun x A n k=>?_)
 obtain⟨f,e,rfl,h⟩:=k
 refine yy (at' (vs:=#[(0,.agg ((v99' m c d)).toArray),(1,.agg ((v99' l f e)).toArray)]) (v:=.agg ([.bool m.neg,.slice c m.mag.length d,.bool l.neg,.slice f l.mag.length e]).toArray) z z (fun _=>by kernel_rfl)) z<|x' 2 z ce' z z z z z (List.all_eq_true.1 z)<|nx<|k' ?_
 obtain rfl:_=r:=hr
 exact j' z (ak' (i:=2) bg' z z z) ⟨_,_,_,_,z,(j.mono n),h⟩
theorem ge'{c d r}(hr:(Zkm c d).Ret r):Ctr prog 42 #[i' c,i' d] (fun G=>True) (fun G v=>v = .agg (vecG (Value.int .i64) 8 r).toArray):=by
 refine A' (args:=[_,_]) (N:=11) func42 z z z fun l g j h=>sr<|O' 4 z z110 z fun k=>nr<|yy (at' (vs:=#[]) (v:=.agg (vecG (Value.int .i64) 8 (fun _=>0)).toArray) z z (fun _=>by kernel_rfl)) z<|O' 5 z z110 z fun m=>x' 5 z sz110 z z z (M' _ _ _) (M' _ _ _) (fun u e=>Rp.one (cy' .i64 8) (G:=g) (x:=(fun _=>0)) (cs:=vecG (Value.int .i64) 8 (fun _=>0)) z u (by first|simpa using e|simpa [Value.cells] using e))<|nr<|mv z z<|mv z z ?_
 obtain⟨f,hr⟩:=hr
 refine yy (aQ' ag' sz3 z z f) z<|aB' 5 (vecG (Value.int .i64) 8 (setF (fun _=>0) c.toNat d)).toArray z sz3 z z z (by first|(rw[M']; omega)|(show _<(vecG _ _ _).toArray.size; rw[M']; omega)) z (co' _ _ _ _ _)<|nr<|yy (m' 5 aT' z z (M' _ _ _)) z<|x' 4 z sz110 z z z (M' _ _ _) (M' _ _ _) (fun u e=>Rp.one (cy' .i64 8) (G:=g) (x:=setF (fun _=>0) c.toNat d) (cs:=vecG (Value.int .i64) 8 (setF (fun _=>0) c.toNat d)) z u (by first|simpa using e|simpa [Value.cells] using e))<|nx<|k' ?_
 obtain rfl:_=r:=hr
 exact j' z (ak' (i:=4) aT' z z (M' _ _ _)) z
theorem eE'{f d c r}(hr:(ZfF f).Ret r):Ctr prog 73 #[.agg ((v99' f d c)).toArray] (fun G=>sl (Rp.int .u32) G d c f.mag) (fun G v=>v=i' r):=by
 refine A' (args:=[_]) (N:=9) func73 z z z (fun k l i g=>?_)
 have e:=g
 refine sr<|Y' 1 z z z fun j=>sx0 z z<|c'<|sr<|yy (aX' z) z<|yy (g' 1 sc4 z z z) z<|nx<|ay' hr z (fun h hr=>?_) (fun h hr=>?_)
 .refine sr<|sx0 z z<|k'<|b' (k0' hr z z)
 refine l'<|a'<|sr<|yy (ax' z) z<|yy (g' 1 bs' z z z) z<|yy (K' q' e z) z<|yy (Y0.min2 z z) z<|sx0 z z<|k' (k0' hr z z)
theorem ds'{h d c f e r}(hr:(Zah h).Ret r):Ctr prog 39 #[.agg ((v101' h d c f e)).toArray] (fun G=>sl (Rp.int .u32) G d c h.num.mag/\sl (Rp.int .u32) G f e h.den.mag) (fun G v=>v=i' r):=by
 refine A' (args:=[_]) (N:=6) func39 z z z (fun o p m j=>?_)
 obtain⟨g,i⟩:=j
 refine sr<|Y' 1 z z z fun n=>sg z z<|nr<|yy (bw' z) z<|yy (aj' ((v99' h.num d c)).toArray 1 aJ' z z z (aq' ([]) ((v99' h.num d c)) ((v99' h.den f e)))) z ?_
 obtain⟨l,k,hr⟩:=hr
 refine B' z z (u' E73 z) (eE' k) z (g)<|sx0 z z<|k' (k0' hr z z)
theorem eB'{h g c d f r}(hr:(ZgJ h).Ret r):Ctr prog 43 #[.agg ((v101' h g c d f)).toArray] (fun G=>sl (Rp.int .u32) G g c h.num.mag/\sl (Rp.int .u32) G d f h.den.mag) (wl' r' r):=by
 refine A' (args:=[_]) (N:=9) func43 z z z (fun y u n k=>?_)
 obtain⟨j,i⟩:=k
 refine sr<|Y' 1 z z z fun t=>sx0 z z<|c'<|sr<|yy (m' 1 bg' z z z) z ?_
 obtain⟨q,l,hr⟩:=hr
 refine B' z z (u' E39 z) (ds' l) z (⟨j,i⟩)<|yy (au' z z) z<|nx<|E' hr z (fun o hr=>?_) (fun o hr=>?_)
 .exact (show False from hr).elim
 refine l'<|a'<|sr<|yy (m' 1 bg' z z z) z<|yy (at' (vs:=#[(0,.agg ((v101' h g c d f)).toArray)]) (v:=.agg (((v101' h g c d f):List Value)++(vecG (Value.int .i64) 8 (fun _=>0))).toArray) z z (fun _=>by kernel_rfl)) z<|aD' (e:=152) (r:=r') (vs:=#[(0,.agg (((v101' h g c d f):List Value)++(vecG (Value.int .i64) 8 (fun _=>0))).toArray)]) (cs:=(((v101' h g c d f):List Value)++(vecG (Value.int .i64) 8 (fun _=>0)))++([])) ([(Zb.mk h (fun _=>0))]:List Zb) z z z z z (by decide) (fun _=>by kernel_rfl) ⟨((v101' h g c d f):List Value)++(vecG (Value.int .i64) 8 (fun _=>0)),[],z,⟨(v101' h g c d f),vecG (Value.int .i64) 8 (fun _=>0),z,⟨(v99' h.num g c),(v99' h.den d f),z,⟨[.bool h.num.neg],[.slice g h.num.mag.length c],z,z,⟨_,z,j⟩⟩,⟨[.bool h.den.neg],[.slice d h.den.mag.length f],z,z,⟨_,z,i⟩⟩⟩,z⟩,z⟩ (key:=999) z (by rw[n]; rfl) fun x s p m=>sx0 z z<|k' ?_
 obtain rfl:_=r:=hr
 exact j' z z ⟨_,_,z,m⟩
theorem fc'{l r}(hr:(Zex l).Ret r):Ctr prog 122 #[.agg (vecG (Value.int .i64) 8 l).toArray] (fun G=>True) (fun G v=>v = .bool r):=by
 refine A' (args:=[_]) (N:=18) func122 z z z fun o h B t=>sr<|Y' 1 z z z fun m=>sx0 z z<|c'<|sr<|sx0 z z<|R' (fun (e:Mem)=>match e with|d=>[]) (fun (e:Mem)=>match e with|d=>Mem.le h d/\(Zd8).Ret r) (fun (e:Mem)=>match e with|d=>St o h d []) ?_ ?_
 .refine s' ?_
  let i:(Bool⊕Unit)->Prop:=fun x=>((fun u=>match u with | .inl rv1=>Cq.ret rv1 | .inr ()=>Zd8:(Bool⊕Unit)->Cq Bool) x).wp (fun a=>a=r)
  replace hr:(Cq.loop _ _).wp i:=hr
  refine T' (Φ:=i) (fun (⟨f,c⟩:Int×Mem)=>(f:Int)) (fun ⟨f,c⟩=>[(1,pt0 m),(3,i' f)]) (fun ⟨f,c⟩=>Mem.le h c) (fun ⟨f,c⟩=>St o h c [(1,bk0 m (vecG (Value.int .i64) 8 l) 110)]) ⟨0,h⟩ hr (f2 z z) mr (w1 z) ?_
  .intro A e y hr
   obtain⟨f,c⟩:=e
   have g:=y
   refine c'<|sr<|mv z z<|yy (V' z z) z<|nx<|E' hr z (fun q hr=>?_) (fun q hr=>?_)
   .refine l'<|a'<|c'<|s'<|sr<|mv z z ?_
    obtain⟨j,hr⟩:=hr
    refine yy (aQ' ag' sz3 z z j) z<|yy (g' 1 sc3 z z (bo' _ _ _ j)) z<|ao' hr z (V' z z) z (fun p hr=>?_) (fun p hr=>?_)
    .refine mv z z<|sn4 z<|yy (t' z z) z<|nx<|av' z<|sr<|sx0 z z<|k'<|w'<|b'<|b'<|w'<|ap'<|b' (k0' hr z z)
    refine mv z z<|gy z z (f' z) z ?_
    obtain⟨k,hr⟩:=hr
    refine gy z z (aQ' ag' sz3 z z k) z<|gy z z (g' 1 sc3 z z (bo' _ _ _ k)) z<|gy z z (aZ' z z) z<|yy (p' z z) z<|nx<|E' hr z (fun n hr=>?_) (fun n hr=>?_)
    .exact (show False from hr).elim
    refine l'<|v'<|a'<|n'<|mv z z<|yy (I' z z) z<|sg z z<|o'<|C' ⟨i64.wrap (f+1),c⟩ hr g (f2 z z) (w1 z)
   refine U'<|h'<|h'<|y'<|W' c ⟨g,hr⟩ fn (wk ln)
 rintro d ⟨s,hr⟩
 refine a'<|sr<|sx0 z z<|k' (k0' hr z z)
theorem gt'{s k r}(hr:(ZjP s k).Ret r):Ctr prog 78 #[.agg (vecG (Value.int .i64) 8 s).toArray,.agg (vecG (Value.int .i64) 8 k).toArray] (fun G=>True) (fun G v=>v = .tuple #[.agg (vecG (Value.int .i64) 8 r.1).toArray,i' r.2]):=by
 refine A' (args:=[_,_]) (N:=24) func78 z z z fun B l Q I=>sr<|Y' 2 z z z fun n=>Y' 3 z z z fun y=>O' 4 z z110 z fun o=>sx0 z z<|c'<|sr<|sx0 z z<|R' (fun (⟨d,g⟩:(Fin 8->Int)×Mem)=>[(2,pt0 n),(4,pt0 o)]) (fun ⟨d,g⟩=>Mem.le l g/\(ZfL d).Ret r) (fun ⟨d,g⟩=>St B l g [(2,bk0 n (vecG (Value.int .i64) 8 d) 110),(4,bk0 o (vecG (Value.int .i64) 8 (fun _=>0)) 110)]) ?_ ?_
 .refine s' ?_
  let m:(Fin 8->Int)->Prop:=fun L=>((fun J=>match J with|d=>ZfL d:(Fin 8->Int)->Cq ((Fin 8->Int)×Int)) L).wp (fun a=>a=r)
  replace hr:(Cq.loop _ _).wp m:=hr
  refine T' (Φ:=m) (fun (⟨e,c,f⟩:Int×(Fin 8->Int)×Mem)=>((e,c):Int×(Fin 8->Int))) (fun ⟨e,c,f⟩=>[(2,pt0 n),(3,pt0 y),(4,pt0 o),(6,i' e)]) (fun ⟨e,c,f⟩=>Mem.le l f) (fun ⟨e,c,f⟩=>St B l f [(2,bk0 n (vecG (Value.int .i64) 8 c) 110),(3,bk0 y (vecG (Value.int .i64) 8 k) 110),(4,bk0 o (vecG (Value.int .i64) 8 (fun _=>0)) 110)]) ⟨0,s,l⟩ hr (f4 z z z z) mr (w3 z z z) ?_
  .intro P K M hr
   obtain⟨e,c,f⟩:=K
   have j:=M
   refine c'<|sr<|mv z z<|yy (V' z z) z<|nx<|E' hr z (fun A hr=>?_) (fun A hr=>?_)
   .refine l'<|a'<|c'<|s'<|ad' [ff,ff,ff,ff,ff,ff] mix (by kernel_rfl) fun H=>cn (fun _ h=>f' z) ?_
    obtain⟨p,hr⟩:=hr
    refine cn (fun _ h=>aQ' ag' sz3 z z p)<|cn (fun _ h=>g' 2 sc3 z z (bo' _ _ _ p))<|cn (fun _ h=>f' z) ?_
    obtain⟨q,hr⟩:=hr
    refine cn (fun _ h=>aQ' ag' sz3 z z q)<|cn (fun _ h=>g' 3 sc3 z z (bo' _ _ _ q))<|af' H<|yy (I' z z) z ?_
    obtain⟨D,hr⟩:=hr
    refine yy (aQ' ag' sz3 z z D) z<|aB' 2 (vecG (Value.int .i64) 8 (setF c e.toNat (i64.wrap ((getF c e)+(getF k e))))).toArray z sz3 z z z (by first|(rw[M']; omega)|(show _<(vecG _ _ _).toArray.size; rw[M']; omega)) z (co' _ _ _ _ _)<|o'<|am'<|v'<|a'<|n'<|mv z z<|yy (I' z z) z<|sg z z<|o'<|C' ⟨i64.wrap (e+1),setF c e.toNat (i64.wrap ((getF c e)+(getF k e))),f⟩ hr j (f4 z z z z) (w3 z z z)
   refine U'<|h'<|h'<|y'<|W' ⟨c,f⟩ ⟨j,hr⟩ (f2 z z) (w2 z z)
 rintro⟨d,g⟩ ⟨F,hr⟩
 refine a'<|c'<|sr<|yy (m' 2 aT' z z (M' _ _ _)) z ?_
 obtain⟨O,t,hr⟩:=hr
 refine B' z z (u' E122 z) (fc' t) z (trivial)<|yy (an' z) z<|nx<|ay' hr z (fun E hr=>?_) (fun E hr=>?_)
 .exact (show False from hr).elim
 refine l'<|a'<|sr<|yy (m' 2 aT' z z (M' _ _ _)) z<|x' 4 z sz110 z z z (M' _ _ _) (M' _ _ _) (fun u C=>Rp.one (cy' .i64 8) (G:=g) (x:=d) (cs:=vecG (Value.int .i64) 8 d) z u (by first|simpa using C|simpa [Value.cells] using C))<|sx0 z z<|k' ?_
 obtain rfl:_=r:=hr
 exact bE' z (ak' (i:=4) aT' z z (M' _ _ _)) z z
theorem gf'{d c B H E F r}(hr:(Zkl d c).Ret r):Ctr prog 176 #[.slice B d.length H,.slice E c.length F] (fun G=>sl (Rp.int .u32) G B H d/\sl (Rp.int .u32) G E F c) (wl' (Rp.int .u32) r):=by
 refine A' (args:=[_,_]) (N:=69) func176 z z z (fun Z O ar ao=>?_)
 obtain⟨I,C⟩:=ao
 refine sr<|sg z z<|nr<|mv z z<|yy (K' q' I z) z<|mv z z<|yy (K' q' C z) z<|yy (I' z z) z ?_
 obtain⟨aq,hr⟩:=hr
 refine dC' (r:=(Rp.int .u32)) (e:=225) (n:=i64.wrap ((d.length:Int)+(c.length:Int))) (zx:=0) 4015 z z q' el225 z (by decide) (by decide) z z z aq fun M ag av=>sx0 z z<|c'<|sr<|sx0 z z<|R' (fun (⟨A,q,K⟩:(List Int)×Option Ow×Mem)=>[(5,.slice M (i64.wrap ((d.length:Int)+(c.length:Int))).toNat ((i64.wrap ((d.length:Int)+(c.length:Int))).toNat))]) (fun ⟨A,q,K⟩=>Mem.le O K/\RowR (Rp.int .u32) 225 K (.slice M (i64.wrap ((d.length:Int)+(c.length:Int))).toNat ((i64.wrap ((d.length:Int)+(c.length:Int))).toNat)) A q/\(Zd6 A).Ret r) (fun ⟨A,q,K⟩=>St Z O K [(4015,q)]) ?_ ?_
 .refine s' ?_
  let L:(List Int)->Prop:=fun oo=>((fun ov=>match ov with|A=>Zd6 A:(List Int)->Cq (List Int)) oo).wp (fun a=>a=r)
  replace hr:(Cq.loop _ _).wp L:=hr
  refine T' (Φ:=L) (fun (⟨s,h,g,x⟩:(List Int)×Option Ow×Int×Mem)=>((s,g):(List Int)×Int)) (fun ⟨s,h,g,x⟩=>[(0,.slice B d.length H),(1,.slice E c.length F),(5,.slice M (i64.wrap ((d.length:Int)+(c.length:Int))).toNat ((i64.wrap ((d.length:Int)+(c.length:Int))).toNat)),(6,i' g)]) (fun ⟨s,h,g,x⟩=>Mem.le O x/\RowR (Rp.int .u32) 225 x (.slice M (i64.wrap ((d.length:Int)+(c.length:Int))).toNat ((i64.wrap ((d.length:Int)+(c.length:Int))).toNat)) s h) (fun ⟨s,h,g,x⟩=>St Z O x [(4015,h)]) ⟨(List.replicate (i64.wrap ((d.length:Int)+(c.length:Int))).toNat 0),ag,0,O⟩ hr (f4 z z z z) ⟨mr,av⟩ (w1 z) ?_
  .intro ad gx hx hr
   obtain⟨s,h,g,x⟩:=gx
   obtain⟨j,R⟩:=hx
   refine c'<|sr<|mv z z<|mv z z<|yy (K' q' (I.mono j) z) z<|yy (V' z z) z<|nx<|E' hr z (fun ay hr=>?_) (fun ay hr=>?_)
   .refine l'<|a'<|c'<|s'<|sr<|sx0 z z<|c'<|sr<|sx0 z z<|R' (fun (⟨v,u,m,J⟩:(List Int)×Option Ow×Int×Mem)=>[(0,.slice B d.length H),(1,.slice E c.length F),(5,.slice M (i64.wrap ((d.length:Int)+(c.length:Int))).toNat ((i64.wrap ((d.length:Int)+(c.length:Int))).toNat)),(6,i' g),(7,.int .u64 m)]) (fun ⟨v,u,m,J⟩=>Mem.le x J/\RowR (Rp.int .u32) 225 J (.slice M (i64.wrap ((d.length:Int)+(c.length:Int))).toNat ((i64.wrap ((d.length:Int)+(c.length:Int))).toNat)) v u/\(Zd7 c g v m).wp (Out ad L)) (fun ⟨v,u,m,J⟩=>St Z O J [(4015,u)]) ?_ ?_
    .refine s' ?_
     let T:(((List Int)×Int))->Prop:=fun oo=>((fun ov=>match ov with|(v,m)=>Zd7 c g v m:(((List Int)×Int))->Cq (((List Int)×Int)⊕(List Int))) oo).wp (Out ad L)
     replace hr:(Cq.loop _ _).wp T:=hr
     refine T' (Φ:=T) (fun (⟨t,k,l,p,D⟩:(List Int)×Option Ow×Int×Int×Mem)=>((t,l,p):(List Int)×Int×Int)) (fun ⟨t,k,l,p,D⟩=>[(0,.slice B d.length H),(1,.slice E c.length F),(5,.slice M (i64.wrap ((d.length:Int)+(c.length:Int))).toNat ((i64.wrap ((d.length:Int)+(c.length:Int))).toNat)),(6,i' g),(7,.int .u64 l),(8,i' p)]) (fun ⟨t,k,l,p,D⟩=>Mem.le x D/\RowR (Rp.int .u32) 225 D (.slice M (i64.wrap ((d.length:Int)+(c.length:Int))).toNat ((i64.wrap ((d.length:Int)+(c.length:Int))).toNat)) t k) (fun ⟨t,k,l,p,D⟩=>St Z O D [(4015,k)]) ⟨s,h,0,0,x⟩ hr (f6 z z z z z z) ⟨mr,R⟩ (w1 z) ?_
     .intro aI gx hx hr
      obtain⟨t,k,l,p,D⟩:=gx
      obtain⟨o,y⟩:=hx
      refine c'<|sr<|mv z z<|mv z z<|yy (K' q' (C.mono (mx j o)) z) z<|yy (V' z z) z<|nx<|E' hr z (fun au hr=>?_) (fun au hr=>?_)
      .refine l'<|a'<|c'<|s'<|c'<|ad' [ff,ff,ff,ff,ff,ff,ff,ff,ff,ff,ff,ff,ff,ff,ff,ff,ff,ff,ff,ff] mix (by kernel_rfl) fun hb=>cn (fun _ f=>f' z)<|cn (fun _ f=>f' z) ?_
       obtain⟨V,aa,hr⟩:=hr
       refine cn (fun _ f=>P' q' aM' ((I.mono (mx j o)).mono f) z z aa)<|cn (fun _ f=>ae' bu' z (aA' (H' (H' (X' I aa) (mx j o)) f)))<|cn (fun _ f=>az' ac' Z' z)<|cn (fun _ f=>f' z)<|cn (fun _ f=>f' z) ?_
       obtain⟨X,ae,hr⟩:=hr
       refine cn (fun _ f=>P' q' aM' ((C.mono (mx j o)).mono f) z z ae)<|cn (fun _ f=>ae' bu' z (aA' (H' (H' (X' C ae) (mx j o)) f)))<|cn (fun _ f=>az' ac' Z' z)<|cn (fun _ f=>dy' z z)<|cn (fun _ f=>f' z)<|cn (fun _ f=>f' z)<|cn (fun _ f=>f' z)<|cn (fun _ f=>I' z z) ?_
       obtain⟨W,ab,hr⟩:=hr
       refine cn (fun _ f=>aY' q' aM' (y.mono f) z z ab)<|cn (fun _ f=>dD' bu' (y.mono f) (key:=4015) z z (aA' (cE' y ab)))<|cn (fun _ f=>az' ac' Z' z)<|cn (fun _ f=>I' z z)<|cn (fun _ f=>f' z)<|af' hb<|yy (I' z z) z<|sg z z<|o'<|am'<|a'<|sr<|mv z z<|mv z z<|mv z z<|yy (I' z z) z<|mv z z<|yy (bL' z z (by decide)) z<|yy (az' Z' ac' z) z ?_
       obtain⟨x5,ac,hr⟩:=hr
       refine yy (aY' q' aM' y z z ac) z<|bO' (r:=(Rp.int .u32)) (e:=225) (cs':=[.int .u32 (u32.wrap (Int.tmod (u64.wrap ((u64.wrap ((u64.wrap ((u64.wrap V)*(u64.wrap X)))+(u64.wrap W)))+l)) 4294967296))]) (i:=i64.wrap (g+p)) (z':=u32.wrap (Int.tmod (u64.wrap ((u64.wrap ((u64.wrap ((u64.wrap V)*(u64.wrap X)))+(u64.wrap W)))+l)) 4294967296)) 4015 z aM' z y z z z z z ac fun aw an=>nx<|n'<|mv z z<|yy (dz' z z (by decide)) z<|sg z z<|o'<|v'<|a'<|n'<|mv z z<|yy (I' z z) z<|sg z z<|o'<|C' ⟨(t.set (i64.wrap (g+p)).toNat (u32.wrap (Int.tmod (u64.wrap ((u64.wrap ((u64.wrap ((u64.wrap V)*(u64.wrap X)))+(u64.wrap W)))+l)) 4294967296))),aw,u64.wrap (Int.tdiv (u64.wrap ((u64.wrap ((u64.wrap ((u64.wrap V)*(u64.wrap X)))+(u64.wrap W)))+l)) 4294967296),i64.wrap (p+1),D⟩ hr ⟨o,an⟩ (f6 z z z z z z) (w1 z)
      refine U'<|h'<|h'<|y'<|W' ⟨t,k,l,D⟩ ⟨o,y,hr⟩ (f5 z z z z z) (w1 z)
    rintro⟨v,u,m,J⟩ ⟨P,Q,hr⟩
    refine a'<|n'<|mv z z<|mv z z<|mv z z<|yy (K' q' (C.mono (mx j P)) z) z<|yy (I' z z) z<|mv z z<|yy (az' Z' ac' z) z ?_
    obtain⟨x1,af,hr⟩:=hr
    refine yy (aY' q' aM' Q z z af) z<|bO' (r:=(Rp.int .u32)) (e:=225) (cs':=[.int .u32 (u32.wrap m)]) (i:=i64.wrap (g+(c.length:Int))) (z':=u32.wrap m) 4015 z aM' z Q z z z z z af fun ax al=>o'<|v'<|a'<|n'<|mv z z<|yy (I' z z) z<|sg z z<|o'<|C' ⟨(v.set (i64.wrap (g+(c.length:Int))).toNat (u32.wrap m)),ax,i64.wrap (g+1),J⟩ hr ⟨(mx j P),al⟩ (f4 z z z z) (w1 z)
   refine U'<|h'<|h'<|y'<|W' ⟨s,h,x⟩ ⟨j,R,hr⟩ (f1 z) (w1 z)
 rintro⟨A,q,K⟩ ⟨aA,Y,hr⟩
 refine a'<|sr<|mv z z<|bQ' (r:=(Rp.int .u32)) (e:=225) 4015 Y z (by rw[ar]; rfl) (fun aH aK aC U aB=>?_)
 obtain⟨aL,ak,hr⟩:=hr
 refine Q' z z (u' E165 z) (dr' ak) (by rw[dc' U]) ((dd' U)) (fun aF aJ az S=>?_)
 obtain⟨aG,aE,rfl,am⟩:=S
 refine sx0 z z<|k' ?_
 obtain rfl:_=r:=hr
 exact j' z z ⟨_,_,z,am⟩
theorem dZ'{A t j f g e r}(hr:(ZdZ A t).Ret r):Ctr prog 124 #[.agg ((v99' A j f)).toArray,.agg ((v99' t g e)).toArray] (fun G=>sl (Rp.int .u32) G j f A.mag/\sl (Rp.int .u32) G g e t.mag) (w99' r):=by
 refine A' (args:=[_,_]) (N:=16) func124 z z z (fun T R M y=>?_)
 obtain⟨o,p⟩:=y
 refine sr<|Y' 2 z z z fun U=>Y' 3 z z z fun Q=>O' 4 z z99 z fun V=>nx<|c'<|ad' [ff,ff,ff,ff,ff,ff,ff,ff,ff,ff] mix (by kernel_rfl) fun P=>cn (fun _ c=>aX' z)<|cn (fun _ c=>g' 2 sc4 z z z)<|cn (fun _ c=>aX' z)<|cn (fun _ c=>g' 3 sc4 z z z)<|cn (fun _ c=>Y0.neqB bA' z z)<|cn (fun _ c=>ax' z)<|cn (fun _ c=>g' 2 bs' z z z)<|cn (fun _ c=>ax' z)<|cn (fun _ c=>g' 3 bs' z z z) ?_
 obtain⟨q,B,hr⟩:=hr
 refine aw' (post:=wl' (Rp.int .u32) q) (fun _=>z) (fun _ _=>u' E176 z) (gf' B) z (fun O c=>⟨(o.mono c),(p.mono c)⟩) (fun v W S c h=>?_) ?_
 .obtain⟨x,u,rfl,k⟩:=h
  exact⟨_,_,z,k.mono c⟩
 refine bn' (d:=14) (post:=wl' (Rp.int .u32) q) (fun H J F l=>?_)
 obtain⟨x,u,rfl,k⟩:=l
 obtain⟨K,s,hr⟩:=hr
 refine Q' z z (u' E115 z) (cw' s) z (k) (fun I L E n=>?_)
 obtain⟨D,C,rfl,m⟩:=n
 refine x' 4 z cl' z z z z z (List.all_eq_true.1 z)<|o'<|am'<|a'<|k' ?_
 obtain rfl:_=r:=hr
 exact j' z (ak' (i:=4) aJ' z z z) ⟨_,_,z,m⟩
theorem cW'{g i e d r}(hr:(Zc7 g i).Ret r):Ctr prog 235 #[.slice e g.length d,i' i] (fun G=>sl (Rp.int .u32) G e d g) (fun G v=>v = .int .u64 r):=by
 refine A' (args:=[_,_]) (N:=14) func235 z z z (fun l n k h=>?_)
 have c:=h
 refine sr<|sx0 z z<|c'<|sr<|mv z z<|mv z z<|yy (K' q' c z) z<|yy (V' z z) z<|nx<|E' hr z (fun j hr=>?_) (fun j hr=>?_)
 .refine sr<|mv z z<|mv z z ?_
  obtain⟨m,f,hr⟩:=hr
  refine yy (P' q' aM' c z z f) z<|yy (ae' bu' z (aA' (X' c f))) z<|yy (az' ac' Z' z) z<|sx0 z z<|k'<|b' (k0' hr z z)
 refine l'<|a'<|sr<|sx0 z z<|k' (k0' hr z z)
theorem eM'{g e d r}(hr:(ZfG g).Ret r):Ctr prog 228 #[.slice e g.length d] (fun G=>sl (Rp.int .u32) G e d g) (fun G v=>v = .int .u64 r):=by
 refine A' (args:=[_]) (N:=9) func228 z z z (fun m n l h=>?_)
 have c:=h
 refine sr<|sg z z<|nr<|mv z z ?_
 obtain⟨j,i,hr⟩:=hr
 refine B' z z (u' E235 z) (cW' i) z (c)<|yy (dy' z z) z<|mv z z ?_
 obtain⟨k,f,hr⟩:=hr
 refine B' z z (u' E235 z) (cW' f) z (c)<|yy (I' z z) z<|sx0 z z<|k' (k0' hr z z)
theorem ga'{l k r}(hr:(Zi2 l k).Ret r):Ctr prog 227 #[.int .u64 l,.int .u64 k] (fun G=>True) (fun G v=>v = .int .u64 r):=by
 refine A' (args:=[_,_]) (N:=14) func227 z z z fun n i A q=>sr<|sx0 z z<|c'<|R' (fun (⟨g,f⟩:Int×Mem)=>[(0,.int .u64 g)]) (fun ⟨g,f⟩=>Mem.le i f/\(ZdL g).Ret r) (fun ⟨g,f⟩=>St n i f []) ?_ ?_
 .refine s' ?_
  let j:Int->Prop:=fun u=>((fun s=>match s with|g=>ZdL g:Int->Cq Int) u).wp (fun a=>a=r)
  replace hr:(Cq.loop _ _).wp j:=hr
  refine T' (Φ:=j) (fun (⟨d,e,c⟩:Int×Int×Mem)=>((d,e):Int×Int)) (fun ⟨d,e,c⟩=>[(0,.int .u64 d),(1,.int .u64 e)]) (fun ⟨d,e,c⟩=>Mem.le i c) (fun ⟨d,e,c⟩=>St n i c []) ⟨l,k,i⟩ hr (f2 z z) mr (wk ln) ?_
  .intro y t x hr
   obtain⟨d,e,c⟩:=t
   have h:=x
   refine c'<|sr<|mv z z<|yy (aZ' z z) z<|nx<|E' hr z (fun o hr=>?_) (fun o hr=>?_)
   .refine l'<|a'<|s'<|sr<|mv z z<|mv z z ?_
    obtain⟨m,hr⟩:=hr
    refine yy (bL' z z m) z<|sg z z<|nr<|mv z z<|sx0 z z<|n'<|mv z z<|sg z z<|o'<|v'<|C' ⟨e,Int.tmod d e,c⟩ hr h (f2 z z) (wk ln)
   refine U'<|h'<|h'<|y'<|W' ⟨d,c⟩ ⟨h,hr⟩ (f1 z) (wk ln)
 rintro⟨g,f⟩ ⟨p,hr⟩
 refine a'<|sr<|mv z z<|sx0 z z<|k' (k0' hr z z)
theorem cF'{p s m q k o r}(hr:(Zao p s).Ret r):Ctr prog 225 #[.slice m p.length q,.slice k s.length o] (fun G=>sl (Rp.int .u32) G m q p/\sl (Rp.int .u32) G k o s) (fun G v=>v=i' r):=by
 refine A' (args:=[_,_]) (N:=41) func225 z z z (fun F l P B=>?_)
 obtain⟨f,g⟩:=B
 refine sr<|sx0 z z<|c'<|sr<|mv z z<|yy (K' q' f z) z<|mv z z<|yy (K' q' g z) z<|yy (V' z z) z<|nx<|E' hr z (fun I hr=>?_) (fun I hr=>?_)
 .refine sr<|sx0 z z<|k'<|b' (k0' hr z z)
 refine l'<|a'<|c'<|sr<|mv z z<|yy (K' q' f z) z<|mv z z<|yy (K' q' g z) z<|yy (aZ' z z) z<|nx<|E' hr z (fun E hr=>?_) (fun E hr=>?_)
 .refine sr<|sx0 z z<|k'<|b' (k0' hr z z)
 refine l'<|a'<|c'<|sr<|mv z z<|yy (K' q' f z) z<|yy (be' z z) z<|sx0 z z<|R' (fun (i:Mem)=>match i with|h=>[]) (fun (i:Mem)=>match i with|h=>Mem.le l h/\(ZcD).Ret r) (fun (i:Mem)=>match i with|h=>St F l h []) ?_ ?_
 .refine s' ?_
  let n:(Int⊕Unit)->Prop:=fun M=>((fun K=>match K with | .inl rv1=>Cq.ret rv1 | .inr ()=>ZcD:(Int⊕Unit)->Cq Int) M).wp (fun a=>a=r)
  replace hr:(Cq.loop _ _).wp n:=hr
  refine T' (Φ:=n) (fun (⟨j,e⟩:Int×Mem)=>(j:Int)) (fun ⟨j,e⟩=>[(0,.slice m p.length q),(1,.slice k s.length o),(5,i' j)]) (fun ⟨j,e⟩=>Mem.le l e) (fun ⟨j,e⟩=>St F l e []) ⟨i64.wrap ((p.length:Int)-1),l⟩ hr (f3 z z z) mr (wk ln) ?_
  .intro O i L hr
   obtain⟨j,e⟩:=i
   have d:=L
   refine c'<|sr<|mv z z<|yy (aV' z z) z<|nx<|E' hr z (fun H hr=>?_) (fun H hr=>?_)
   .refine l'<|a'<|c'<|s'<|c'<|c'<|ad' [ff,ff,ff,ff,ff,ff,ff,ff] mix (by kernel_rfl) fun A=>cn (fun _ c=>f' z)<|cn (fun _ c=>f' z) ?_
    obtain⟨T,y,hr⟩:=hr
    refine cn (fun _ c=>P' q' aM' ((f.mono d).mono c) z z y)<|cn (fun _ c=>ae' bu' z (aA' (H' (H' (X' f y) d) c)))<|cn (fun _ c=>f' z)<|cn (fun _ c=>f' z) ?_
    obtain⟨S,u,hr⟩:=hr
    refine cn (fun _ c=>P' q' aM' ((g.mono d).mono c) z z u)<|cn (fun _ c=>ae' bu' z (aA' (H' (H' (X' g u) d) c)))<|af' A<|yy (V' z z) z<|o'<|am'<|a'<|E' hr z (fun D hr=>?_) (fun D hr=>?_)
    .refine sr<|sx0 z z<|k'<|b'<|w'<|b'<|b'<|w'<|ap'<|b' (k0' hr z z)
    refine l'<|a'<|c'<|ad' [ff,ff,ff,ff,ff,ff,ff,ff] mix (by kernel_rfl) fun A=>cn (fun _ c=>f' z)<|cn (fun _ c=>f' z) ?_
    obtain⟨R,t,hr⟩:=hr
    refine cn (fun _ c=>P' q' aM' ((f.mono d).mono c) z z t)<|cn (fun _ c=>ae' bu' z (aA' (H' (H' (X' f t) d) c)))<|cn (fun _ c=>f' z)<|cn (fun _ c=>f' z) ?_
    obtain⟨Q,x,hr⟩:=hr
    refine cn (fun _ c=>P' q' aM' ((g.mono d).mono c) z z x)<|cn (fun _ c=>ae' bu' z (aA' (H' (H' (X' g x) d) c)))<|af' A<|yy (aZ' z z) z<|o'<|am'<|a'<|E' hr z (fun C hr=>?_) (fun C hr=>?_)
    .refine sr<|sx0 z z<|k'<|w'<|b'<|b'<|w'<|ap'<|b' (k0' hr z z)
    refine l'<|v'<|a'<|n'<|mv z z<|yy (be' z z) z<|sg z z<|o'<|C' ⟨i64.wrap (j-1),e⟩ hr d (f3 z z z) (wk ln)
   refine U'<|h'<|h'<|y'<|W' e ⟨d,hr⟩ fn (wk ln)
 rintro h ⟨J,hr⟩
 refine a'<|sr<|sx0 z z<|k' (k0' hr z z)
theorem fQ'{j s B D r}(hr:(ZhP j s).Ret r):Ctr prog 236 #[.slice B j.length D,.int .u64 s] (fun G=>sl (Rp.int .u32) G B D j) (fun G v=>∃ A y,v = .tuple #[.slice A r.1.length y,.int .u64 r.2]/\sl (Rp.int .u32) G A y r.1):=by
 refine A' (args:=[_,_]) (N:=41) func236 z z z (fun W x U O=>?_)
 have t:=O
 refine sr<|sg z z<|sg z z<|nr<|mv z z<|yy (K' q' t z) z ?_
 obtain⟨S,hr⟩:=hr
 refine dC' (r:=(Rp.int .u32)) (e:=225) (n:=(j.length:Int)) (zx:=0) 4012 z z q' el225 z (by decide) (by decide) z z z S fun F M X=>sg z z<|nr<|sx0 z z<|c'<|sr<|mv z z<|yy (K' q' t z) z<|yy (be' z z) z<|sx0 z z<|R' (fun (⟨h,g,m,o⟩:(List Int)×Option Ow×Int×Mem)=>[(6,.slice F (j.length:Int).toNat ((j.length:Int).toNat)),(7,.int .u64 m)]) (fun ⟨h,g,m,o⟩=>Mem.le x o/\RowR (Rp.int .u32) 225 o (.slice F (j.length:Int).toNat ((j.length:Int).toNat)) h g/\(Zc6 h m).Ret r) (fun ⟨h,g,m,o⟩=>St W x o [(4012,g)]) ?_ ?_
 .refine s' ?_
  let C:(((List Int)×Int))->Prop:=fun oo=>((fun ov=>match ov with|(h,m)=>Zc6 h m:(((List Int)×Int))->Cq ((List Int)×Int)) oo).wp (fun a=>a=r)
  replace hr:(Cq.loop _ _).wp C:=hr
  refine T' (Φ:=C) (fun (⟨d,c,f,p,k⟩:(List Int)×Option Ow×Int×Int×Mem)=>((d,f,p):(List Int)×Int×Int)) (fun ⟨d,c,f,p,k⟩=>[(0,.slice B j.length D),(1,.int .u64 s),(6,.slice F (j.length:Int).toNat ((j.length:Int).toNat)),(7,.int .u64 f),(8,i' p)]) (fun ⟨d,c,f,p,k⟩=>Mem.le x k/\RowR (Rp.int .u32) 225 k (.slice F (j.length:Int).toNat ((j.length:Int).toNat)) d c) (fun ⟨d,c,f,p,k⟩=>St W x k [(4012,c)]) ⟨(List.replicate (j.length:Int).toNat 0),M,0,i64.wrap ((j.length:Int)-1),x⟩ hr (f5 z z z z z) ⟨mr,X⟩ (w1 z) ?_
  .intro an gx hx hr
   obtain⟨d,c,f,p,k⟩:=gx
   obtain⟨l,q⟩:=hx
   refine c'<|sr<|mv z z<|yy (aV' z z) z<|nx<|E' hr z (fun Y hr=>?_) (fun Y hr=>?_)
   .refine l'<|a'<|c'<|s'<|sr<|mv z z<|yy (dy' z z) z<|mv z z<|mv z z ?_
    obtain⟨I,K,hr⟩:=hr
    refine yy (P' q' aM' (t.mono l) z z K) z<|yy (ae' bu' z (aA' (H' (X' t K) l))) z<|yy (az' ac' Z' z) z<|yy (I' z z) z<|sg z z<|nr<|mv z z<|mv z z<|mv z z<|mv z z ?_
    obtain⟨V,hr⟩:=hr
    refine yy (dz' z z V) z<|yy (az' Z' ac' z) z ?_
    obtain⟨x2,J,hr⟩:=hr
    refine yy (aY' q' aM' q z z J) z<|bO' (r:=(Rp.int .u32)) (e:=225) (cs':=[.int .u32 (u32.wrap (u64.wrap (Int.tdiv (u64.wrap ((u64.wrap (f*4294967296))+(u64.wrap I))) s)))]) (i:=p) (z':=u32.wrap (u64.wrap (Int.tdiv (u64.wrap ((u64.wrap (f*4294967296))+(u64.wrap I))) s))) 4012 z aM' z q z z z z z J fun T Q=>nx<|n'<|mv z z<|mv z z ?_
    obtain⟨R,hr⟩:=hr
    refine yy (bL' z z R) z<|sg z z<|o'<|v'<|a'<|n'<|mv z z<|yy (be' z z) z<|sg z z<|o'<|C' ⟨(d.set p.toNat (u32.wrap (u64.wrap (Int.tdiv (u64.wrap ((u64.wrap (f*4294967296))+(u64.wrap I))) s)))),T,Int.tmod (u64.wrap ((u64.wrap (f*4294967296))+(u64.wrap I))) s,i64.wrap (p-1),k⟩ hr ⟨l,Q⟩ (f5 z z z z z) (w1 z)
   refine U'<|h'<|h'<|y'<|W' ⟨d,c,f,k⟩ ⟨l,q,hr⟩ (f2 z z) (w1 z)
 rintro⟨h,g,m,o⟩ ⟨Z,H,hr⟩
 refine a'<|sr<|mv z z<|bQ' (r:=(Rp.int .u32)) (e:=225) 4012 H z (by rw[U]; rfl) (fun al ak ac E aa=>?_)
 obtain⟨am,P,hr⟩:=hr
 refine Q' z z (u' E165 z) (dr' P) (by rw[dc' E]) ((dd' E)) (fun ad ao ab u=>?_)
 obtain⟨af,ae,rfl,L⟩:=u
 refine mv z z<|sg z z<|sx0 z z<|k' ?_
 obtain rfl:_=r:=hr
 exact bE' z z z ⟨_,_,z,L⟩
theorem eI'{e f i g h j r}(hr:(ZeY e f).Ret r):Ctr prog 229 #[.slice i e.length g,.slice h f.length j] (fun G=>sl (Rp.int .u32) G i g e/\sl (Rp.int .u32) G h j f) (fun G v=>∃ o n m q,v = .tuple #[.slice o r.1.length n,.slice m r.2.length q]/\sl (Rp.int .u32) G o n r.1/\sl (Rp.int .u32) G m q r.2):=by
 refine A' (args:=[_,_]) (N:=110) func229 z z z (fun U T S A=>?_)
 obtain⟨d,c⟩:=A
 refine sr<|sg z z<|sx0 z z<|c'<|sr<|mv z z<|mv z z ?_
 obtain⟨O,B,hr⟩:=hr
 refine B' z z (u' E225 z) (cF' B) z (⟨d,c⟩)<|yy (V' z z) z<|nx<|E' hr z (fun F hr=>?_) (fun F hr=>?_)
 .refine sr<|mv z z<|sg z z<|sx0 z z<|k'<|b' ?_
  obtain rfl:_=r:=hr
  exact bE' z z z ⟨_,_,_,_,z,(ah' (Rp.int .u32) _),d⟩
 refine l'<|a'<|c'<|sr<|mv z z<|yy (K' q' c z) z<|yy (au' z z) z<|nx<|E' hr z (fun E hr=>?_) (fun E hr=>?_)
 .refine sr<|mv z z<|mv z z ?_
  obtain⟨V,t,hr⟩:=hr
  refine yy (P' q' aM' c z z t) z<|yy (ae' bu' z (aA' (X' c t))) z<|yy (az' ac' Z' z) z ?_
  obtain⟨M,u,hr⟩:=hr
  refine Q' z z (u' E236 z) (fQ' u) z (d) (fun L Q H l=>?_)
  obtain⟨D,C,rfl,p⟩:=l
  refine mv z z<|yy (L' z z) z<|yy (L' z z) z<|sg z z<|sg z z<|nr<|mv z z<|mv z z ?_
  obtain⟨P,y,hr⟩:=hr
  refine Q' z z (u' E116 z) (dY' y) z (trivial) (fun K R s k=>?_)
  obtain⟨I,J,rfl,x⟩:=k
  refine sg z z<|sx0 z z<|k'<|b' ?_
  obtain rfl:_=r:=hr
  exact bE' z z z ⟨_,_,_,_,z,(p.mono s),x⟩
 exact (show False from hr).elim
theorem gb'{K J E I B H r}(hr:(Zi0 K J).Ret r):Ctr prog 203 #[.slice E K.length I,.slice B J.length H] (fun G=>sl (Rp.int .u32) G E I K/\sl (Rp.int .u32) G B H J) (wl' (Rp.int .u32) r):=by
 refine A' (args:=[_,_]) (N:=33) func203 z z z (fun R y aw S=>?_)
 obtain⟨U,af⟩:=S
 refine sr<|sx0 z z<|c'<|R' (fun (⟨q,p,m,l⟩:(List Int)×Option Addr×Nat×Mem)=>[(0,.slice p q.length m)]) (fun ⟨q,p,m,l⟩=>Mem.le y l/\sl (Rp.int .u32) l p m q/\(ZdJ q).Ret r) (fun ⟨q,p,m,l⟩=>St R y l []) ?_ ?_
 .refine s' ?_
  let s:((List Int)⊕(List Int))->Prop:=fun oo=>((fun ov=>match ov with | .inl rv1=>Cq.ret rv1 | .inr q=>ZdJ q:((List Int)⊕(List Int))->Cq (List Int)) oo).wp (fun a=>a=r)
  replace hr:(Cq.loop _ _).wp s:=hr
  refine T' (Φ:=s) (fun (⟨k,g,h,j,i,f,c⟩:(List Int)×Option Addr×Nat×(List Int)×Option Addr×Nat×Mem)=>((k,j):(List Int)×(List Int))) (fun ⟨k,g,h,j,i,f,c⟩=>[(0,.slice g k.length h),(1,.slice i j.length f)]) (fun ⟨k,g,h,j,i,f,c⟩=>Mem.le y c/\sl (Rp.int .u32) c g h k/\sl (Rp.int .u32) c i f j) (fun ⟨k,g,h,j,i,f,c⟩=>St R y c []) ⟨K,E,I,J,B,H,y⟩ hr (f2 z z) ⟨mr,U,af⟩ (wk ln) ?_
  .intro Z gx hx hr
   obtain⟨k,g,h,j,i,f,c⟩:=gx
   obtain⟨v,t,o⟩:=hx
   refine c'<|sr<|mv z z<|yy (K' q' o z) z<|yy (aZ' z z) z<|nx<|E' hr z (fun Y hr=>?_) (fun Y hr=>?_)
   .refine l'<|a'<|s'<|c'<|aP' (fun (⟨e,n⟩:Bool×Mem)=>[(0,.slice g k.length h),(1,.slice i j.length f),(17,.bool e)]) (fun ⟨e,n⟩=>Mem.le c n/\(ZdK k j e).wp (Out Z s)) (fun ⟨e,n⟩=>St R y n []) ?_ ?_
    .refine n'<|mv z z<|yy (K' q' t z) z<|ao' hr z (cb' z z) z (fun ae hr=>?_) (fun ae hr=>?_)
     .refine mv z z<|gy z z (f' z) z<|gy z z (K' q' o z) z<|gy z z (cb' z z) z<|yy (t' z z) z<|o'<|al' ⟨decide ((j.length:Int)<=2),c⟩ ⟨mr,hr⟩ (f3 z z z) (wk ln)
     refine mv z z<|sn3 z<|yy (p' z z) z<|o'<|al' ⟨false,c⟩ ⟨mr,hr⟩ (f3 z z z) (wk ln)
    rintro⟨e,n⟩ ⟨d,hr⟩
    refine ay' hr z (fun ab hr=>?_) (fun ab hr=>?_)
    .refine sr<|mv z z ?_
     obtain⟨au,T,hr⟩:=hr
     refine B' z z (u' E228 z) (eM' T) z ((t.mono d))<|mv z z ?_
     obtain⟨aq,L,hr⟩:=hr
     refine B' z z (u' E228 z) (eM' L) z ((o.mono d)) ?_
     obtain⟨ax,P,hr⟩:=hr
     refine B' z z (u' E227 z) (ga' P) z (trivial) ?_
     obtain⟨ar,O,hr⟩:=hr
     refine Q' z z (u' E116 z) (dY' O) z (trivial) (fun ai av ah A=>?_)
     obtain⟨ap,al,rfl,Q⟩:=A
     refine sx0 z z<|k'<|b'<|w'<|b'<|w'<|ap'<|b' ?_
     obtain rfl:_=r:=hr
     exact j' z z ⟨_,_,z,Q⟩
    refine l'<|a'<|sr<|mv z z<|mv z z ?_
    obtain⟨X,M,hr⟩:=hr
    refine Q' z z (u' E229 z) (eI' M) z (⟨(t.mono d),(o.mono d)⟩) (fun aj ad u x=>?_)
    obtain⟨W,ac,C,D,rfl,V,F⟩:=x
    refine mv z z<|yy (L' z z) z<|yy (L' z z) z<|sg z z<|sg z z<|nr<|mv z z<|sx0 z z<|n'<|mv z z<|sg z z<|o'<|v'<|C' ⟨j,i,f,X.2,C,D,ad⟩ hr ⟨(mx (mx v d) u),(o.mono (mx d u)),F⟩ (f2 z z) (wk ln)
   refine U'<|h'<|h'<|y'<|W' ⟨k,g,h,c⟩ ⟨v,t,hr⟩ (f1 z) (wk ln)
 rintro⟨q,p,m,l⟩ ⟨ag,aa,hr⟩
 refine a'<|sr<|mv z z<|sx0 z z<|k' ?_
 obtain rfl:_=r:=hr
 exact j' z z ⟨_,_,z,aa⟩
theorem fJ'{q n f d e c r}(hr:(ZjK q n).Ret r):Ctr prog 173 #[.agg ((v99' q f d)).toArray,.agg ((v99' n e c)).toArray] (fun G=>sl (Rp.int .u32) G f d q.mag/\sl (Rp.int .u32) G e c n.mag) (w99' r):=by
 refine A' (args:=[_,_]) (N:=11) func173 z z z (fun L K I p=>?_)
 obtain⟨k,l⟩:=p
 refine sr<|Y' 2 z z z fun M=>Y' 3 z z z fun J=>O' 4 z z99 z fun O=>nr<|yy (ax' z) z<|yy (g' 2 bs' z z z) z<|yy (ax' z) z<|yy (g' 3 bs' z z z) z ?_
 obtain⟨F,s,hr⟩:=hr
 refine Q' z z (u' E203 z) (gb' s) z (⟨k,l⟩) (fun y D x g=>?_)
 obtain⟨B,A,rfl,o⟩:=g
 obtain⟨E,m,hr⟩:=hr
 refine Q' z z (u' E115 z) (cw' m) z (o) (fun C H v j=>?_)
 obtain⟨u,t,rfl,h⟩:=j
 refine x' 4 z cl' z z z z z (List.all_eq_true.1 z)<|nx<|k' ?_
 obtain rfl:_=r:=hr
 exact j' z (ak' (i:=4) aJ' z z z) ⟨_,_,z,h⟩
theorem gg'{f d y C v B r}(hr:(Zkk f d).Ret r):Ctr prog 224 #[.slice y f.length C,.slice v d.length B] (fun G=>sl (Rp.int .u32) G y C f/\sl (Rp.int .u32) G v B d) (wl' (Rp.int .u32) r):=by
 refine A' (args:=[_,_]) (N:=42) func224 z z z (fun V x U P=>?_)
 obtain⟨H,J⟩:=P
 refine sr<|sg z z<|nr<|mv z z<|yy (K' q' H z) z<|mv z z<|yy (K' q' J z) z<|yy (Y0.max2 z z) z<|yy (I' z z) z<|sg z z<|nr<|mv z z ?_
 obtain⟨S,hr⟩:=hr
 refine dC' (r:=(Rp.int .u32)) (e:=225) (n:=i64.wrap ((if (f.length:Int)<(d.length:Int) then (d.length:Int) else (f.length:Int))+1)) (zx:=0) 4017 z z q' el225 z (by decide) (by decide) z z z S fun E O W=>sg z z<|nr<|sx0 z z<|c'<|sr<|sx0 z z<|R' (fun (⟨k,j,o⟩:(List Int)×Option Ow×Mem)=>[(6,.slice E (i64.wrap ((if (f.length:Int)<(d.length:Int) then (d.length:Int) else (f.length:Int))+1)).toNat ((i64.wrap ((if (f.length:Int)<(d.length:Int) then (d.length:Int) else (f.length:Int))+1)).toNat))]) (fun ⟨k,j,o⟩=>Mem.le x o/\RowR (Rp.int .u32) 225 o (.slice E (i64.wrap ((if (f.length:Int)<(d.length:Int) then (d.length:Int) else (f.length:Int))+1)).toNat ((i64.wrap ((if (f.length:Int)<(d.length:Int) then (d.length:Int) else (f.length:Int))+1)).toNat)) k j/\(Zd4 k).Ret r) (fun ⟨k,j,o⟩=>St V x o [(4017,j)]) ?_ ?_
 .refine s' ?_
  let A:(List Int)->Prop:=fun oo=>((fun ov=>match ov with|k=>Zd4 k:(List Int)->Cq (List Int)) oo).wp (fun a=>a=r)
  replace hr:(Cq.loop _ _).wp A:=hr
  refine T' (Φ:=A) (fun (⟨h,g,c,p,l⟩:(List Int)×Option Ow×Int×Int×Mem)=>((h,c,p):(List Int)×Int×Int)) (fun ⟨h,g,c,p,l⟩=>[(0,.slice y f.length C),(1,.slice v d.length B),(5,i' (i64.wrap ((if (f.length:Int)<(d.length:Int) then (d.length:Int) else (f.length:Int))+1))),(6,.slice E (i64.wrap ((if (f.length:Int)<(d.length:Int) then (d.length:Int) else (f.length:Int))+1)).toNat ((i64.wrap ((if (f.length:Int)<(d.length:Int) then (d.length:Int) else (f.length:Int))+1)).toNat)),(7,.int .u64 c),(8,i' p)]) (fun ⟨h,g,c,p,l⟩=>Mem.le x l/\RowR (Rp.int .u32) 225 l (.slice E (i64.wrap ((if (f.length:Int)<(d.length:Int) then (d.length:Int) else (f.length:Int))+1)).toNat ((i64.wrap ((if (f.length:Int)<(d.length:Int) then (d.length:Int) else (f.length:Int))+1)).toNat)) h g) (fun ⟨h,g,c,p,l⟩=>St V x l [(4017,g)]) ⟨(List.replicate (i64.wrap ((if (f.length:Int)<(d.length:Int) then (d.length:Int) else (f.length:Int))+1)).toNat 0),O,0,0,x⟩ hr (f6 z z z z z z) ⟨mr,W⟩ (w1 z) ?_
  .intro am gx hx hr
   obtain⟨h,g,c,p,l⟩:=gx
   obtain⟨m,q⟩:=hx
   refine c'<|sr<|mv z z<|mv z z<|yy (V' z z) z<|nx<|E' hr z (fun X hr=>?_) (fun X hr=>?_)
   .refine l'<|a'<|c'<|s'<|sr<|mv z z<|mv z z ?_
    obtain⟨s,K,hr⟩:=hr
    refine B' z z (u' E235 z) (cW' K) z ((H.mono m))<|mv z z<|mv z z ?_
    obtain⟨t,L,hr⟩:=hr
    refine B' z z (u' E235 z) (cW' L) z ((J.mono m))<|yy (I' z z) z<|mv z z<|yy (I' z z) z<|sg z z<|nr<|mv z z<|mv z z<|mv z z<|yy (bL' z z (by decide)) z<|yy (az' Z' ac' z) z ?_
    obtain⟨x1,I,hr⟩:=hr
    refine yy (aY' q' aM' q z z I) z<|bO' (r:=(Rp.int .u32)) (e:=225) (cs':=[.int .u32 (u32.wrap (Int.tmod (u64.wrap ((u64.wrap (s+t))+c)) 4294967296))]) (i:=p) (z':=u32.wrap (Int.tmod (u64.wrap ((u64.wrap (s+t))+c)) 4294967296)) 4017 z aM' z q z z z z z I fun T R=>nx<|n'<|mv z z<|yy (dz' z z (by decide)) z<|sg z z<|o'<|v'<|a'<|n'<|mv z z<|yy (I' z z) z<|sg z z<|o'<|C' ⟨(h.set p.toNat (u32.wrap (Int.tmod (u64.wrap ((u64.wrap (s+t))+c)) 4294967296))),T,u64.wrap (Int.tdiv (u64.wrap ((u64.wrap (s+t))+c)) 4294967296),i64.wrap (p+1),l⟩ hr ⟨m,R⟩ (f6 z z z z z z) (w1 z)
   refine U'<|h'<|h'<|y'<|W' ⟨h,g,l⟩ ⟨m,q,hr⟩ (f1 z) (w1 z)
 rintro⟨k,j,o⟩ ⟨Y,F,hr⟩
 refine a'<|sr<|mv z z<|bQ' (r:=(Rp.int .u32)) (e:=225) 4017 F z (by rw[U]; rfl) (fun ak aj ab D Z=>?_)
 obtain⟨al,Q,hr⟩:=hr
 refine Q' z z (u' E165 z) (dr' Q) (by rw[dc' D]) ((dd' D)) (fun ac an aa u=>?_)
 obtain⟨ae,ad,rfl,M⟩:=u
 refine sx0 z z<|k' ?_
 obtain rfl:_=r:=hr
 exact j' z z ⟨_,_,z,M⟩
theorem fd'{m E y C v B r}(hr:(ZgG m E).Ret r):Ctr prog 226 #[.slice y m.length C,.slice v E.length B] (fun G=>sl (Rp.int .u32) G y C m/\sl (Rp.int .u32) G v B E) (wl' (Rp.int .u32) r):=by
 refine A' (args:=[_,_]) (N:=41) func226 z z z (fun V x U P=>?_)
 obtain⟨s,X⟩:=P
 refine sr<|sg z z<|nr<|mv z z<|yy (K' q' s z) z ?_
 obtain⟨S,hr⟩:=hr
 refine dC' (r:=(Rp.int .u32)) (e:=225) (n:=(m.length:Int)) (zx:=0) 4011 z z q' el225 z (by decide) (by decide) z z z S fun F O W=>sg z z<|nr<|sx0 z z<|c'<|sr<|sx0 z z<|R' (fun (⟨k,h,o⟩:(List Int)×Option Ow×Mem)=>[(5,.slice F (m.length:Int).toNat ((m.length:Int).toNat))]) (fun ⟨k,h,o⟩=>Mem.le x o/\RowR (Rp.int .u32) 225 o (.slice F (m.length:Int).toNat ((m.length:Int).toNat)) k h/\(Zd5 k).Ret r) (fun ⟨k,h,o⟩=>St V x o [(4011,h)]) ?_ ?_
 .refine s' ?_
  let A:(List Int)->Prop:=fun oo=>((fun ov=>match ov with|k=>Zd5 k:(List Int)->Cq (List Int)) oo).wp (fun a=>a=r)
  replace hr:(Cq.loop _ _).wp A:=hr
  refine T' (Φ:=A) (fun (⟨g,d,c,p,l⟩:(List Int)×Option Ow×Int×Int×Mem)=>((g,c,p):(List Int)×Int×Int)) (fun ⟨g,d,c,p,l⟩=>[(0,.slice y m.length C),(1,.slice v E.length B),(5,.slice F (m.length:Int).toNat ((m.length:Int).toNat)),(6,.int .u64 c),(7,i' p)]) (fun ⟨g,d,c,p,l⟩=>Mem.le x l/\RowR (Rp.int .u32) 225 l (.slice F (m.length:Int).toNat ((m.length:Int).toNat)) g d) (fun ⟨g,d,c,p,l⟩=>St V x l [(4011,d)]) ⟨(List.replicate (m.length:Int).toNat 0),O,0,0,x⟩ hr (f5 z z z z z) ⟨mr,W⟩ (w1 z) ?_
  .intro ao gx hx hr
   obtain⟨g,d,c,p,l⟩:=gx
   obtain⟨j,q⟩:=hx
   refine c'<|sr<|mv z z<|mv z z<|yy (K' q' (s.mono j) z) z<|yy (V' z z) z<|nx<|E' hr z (fun Y hr=>?_) (fun Y hr=>?_)
   .refine l'<|a'<|c'<|s'<|c'<|ad' [ff,ff,ff,ff,ff,ff,ff,ff,ff,ff,ff] mix (by kernel_rfl) fun hb=>cn (fun _ f=>f' z)<|cn (fun _ f=>f' z) ?_
    obtain⟨I,K,hr⟩:=hr
    refine cn (fun _ f=>P' q' aM' ((s.mono j).mono f) z z K)<|cn (fun _ f=>ae' bu' z (aA' (H' (H' (X' s K) j) f)))<|cn (fun _ f=>az' ac' Z' z)<|cn (fun _ f=>I' z z)<|cn (fun _ f=>f' z)<|cn (fun _ f=>f' z) ?_
    obtain⟨t,L,hr⟩:=hr
    refine cm' z (fun _=>u' E235 z) (cW' L) z (fun G' f=>((X.mono j).mono f))<|cn (fun _ f=>be' z z)<|cn (fun _ f=>f' z)<|af' hb<|yy (be' z z) z<|sg z z<|o'<|am'<|a'<|sr<|mv z z<|mv z z<|mv z z<|yy (bL' z z (by decide)) z<|yy (az' Z' ac' z) z ?_
    obtain⟨x2,J,hr⟩:=hr
    refine yy (aY' q' aM' q z z J) z<|bO' (r:=(Rp.int .u32)) (e:=225) (cs':=[.int .u32 (u32.wrap (Int.tmod (u64.wrap ((u64.wrap ((u64.wrap (4294967296+(u64.wrap I)))-t))-c)) 4294967296))]) (i:=p) (z':=u32.wrap (Int.tmod (u64.wrap ((u64.wrap ((u64.wrap (4294967296+(u64.wrap I)))-t))-c)) 4294967296)) 4011 z aM' z q z z z z z J fun T R=>nx<|n'<|mv z z<|yy (dz' z z (by decide)) z<|yy (be' z z) z<|sg z z<|o'<|v'<|a'<|n'<|mv z z<|yy (I' z z) z<|sg z z<|o'<|C' ⟨(g.set p.toNat (u32.wrap (Int.tmod (u64.wrap ((u64.wrap ((u64.wrap (4294967296+(u64.wrap I)))-t))-c)) 4294967296))),T,u64.wrap (1-(u64.wrap (Int.tdiv (u64.wrap ((u64.wrap ((u64.wrap (4294967296+(u64.wrap I)))-t))-c)) 4294967296))),i64.wrap (p+1),l⟩ hr ⟨j,R⟩ (f5 z z z z z) (w1 z)
   refine U'<|h'<|h'<|y'<|W' ⟨g,d,l⟩ ⟨j,q,hr⟩ (f1 z) (w1 z)
 rintro⟨k,h,o⟩ ⟨Z,H,hr⟩
 refine a'<|sr<|mv z z<|bQ' (r:=(Rp.int .u32)) (e:=225) 4011 H z (by rw[U]; rfl) (fun am al ac D aa=>?_)
 obtain⟨an,Q,hr⟩:=hr
 refine Q' z z (u' E165 z) (dr' Q) (by rw[dc' D]) ((dd' D)) (fun ae ap ab u=>?_)
 obtain⟨ag,af,rfl,M⟩:=u
 refine sx0 z z<|k' ?_
 obtain rfl:_=r:=hr
 exact j' z z ⟨_,_,z,M⟩
theorem gc'{H F f d e g r}(hr:(ZiY H F).Ret r):Ctr prog 204 #[.agg ((v99' H f d)).toArray,.agg ((v99' F e g)).toArray] (fun G=>sl (Rp.int .u32) G f d H.mag/\sl (Rp.int .u32) G e g F.mag) (fun G v=>∃ n q l s,v = .tuple #[.agg ((v99' r.1 n q)).toArray,.agg ((v99' r.2.1 l s)).toArray,i' r.2.2]/\sl (Rp.int .u32) G n q r.1.mag/\sl (Rp.int .u32) G l s r.2.1.mag):=by
 refine A' (args:=[_,_]) (N:=46) func204 z z z (fun w0 G0 aw ab=>?_)
 obtain⟨Q,D⟩:=ab
 refine sr<|Y' 2 z z z fun V=>Y' 3 z z z fun T=>O' 4 z z99 z fun W=>O' 5 z z99 z fun S=>sx0 z z<|c'<|sr<|yy (ax' z) z<|yy (g' 3 bs' z z z) z<|yy (K' q' D z) z<|yy (au' z z) z<|nx<|E' hr z (fun ai hr=>?_) (fun ai hr=>?_)
 .exact (show False from hr).elim
 refine l'<|a'<|sr<|yy (ax' z) z<|yy (g' 2 bs' z z z) z<|yy (ax' z) z<|yy (g' 3 bs' z z z) z ?_
 obtain⟨m,ac,hr⟩:=hr
 refine Q' z z (u' E229 z) (eI' ac) z (⟨Q,D⟩) (fun ap I ao L=>?_)
 obtain⟨y,u,x,C,rfl,R,A⟩:=L
 refine mv z z<|yy (L' z z) z<|yy (L' z z) z<|sg z z<|sx0 z z<|aP' (fun (⟨J,E,B,o,k,h,j⟩:(List Int)×Option Addr×Nat×(List Int)×Option Addr×Nat×Mem)=>[(2,pt0 V),(3,pt0 T),(4,pt0 W),(5,pt0 S),(7,.slice E J.length B),(8,.slice k o.length h)]) (fun ⟨J,E,B,o,k,h,j⟩=>Mem.le I j/\sl (Rp.int .u32) j E B J/\sl (Rp.int .u32) j k h o/\(Zgj H F J o).Ret r) (fun ⟨J,E,B,o,k,h,j⟩=>St w0 G0 j [(2,bk0 V (v99' H f d) 99),(3,bk0 T (v99' F e g) 99),(4,bk0 W ([.bool false,.slice none 0 0]) 99),(5,bk0 S ([.bool false,.slice none 0 0]) 99)]) ?_ ?_
 .refine aP' (fun (⟨c,p⟩:Bool×Mem)=>[(2,pt0 V),(3,pt0 T),(4,pt0 W),(5,pt0 S),(7,.slice y m.1.length u),(8,.slice x m.2.length C),(29,.bool c)]) (fun ⟨c,p⟩=>Mem.le I p/\(ZdI H F m c).Ret r) (fun ⟨c,p⟩=>St w0 G0 p [(2,bk0 V (v99' H f d) 99),(3,bk0 T (v99' F e g) 99),(4,bk0 W ([.bool false,.slice none 0 0]) 99),(5,bk0 S ([.bool false,.slice none 0 0]) 99)]) ?_ ?_
  .refine n'<|yy (aX' z) z<|ao' hr z (cp' (g' 2 sc4 z z z) (congrArg Value.bool (bdec _))) z (fun am hr=>?_) (fun am hr=>?_)
   .refine mv z z<|gy z z (f' z) z<|gy z z (K' q' A z) z<|gy z z (aZ' z z) z<|yy (t' z z) z<|o'<|al' ⟨decide (0<(m.2.length:Int)),I⟩ ⟨mr,hr⟩ (f7 z z z z z z z) (w4 z z z z)
   refine mv z z<|sn3 z<|yy (p' z z) z<|o'<|al' ⟨false,I⟩ ⟨mr,hr⟩ (f7 z z z z z z z) (w4 z z z z)
  rintro⟨c,p⟩ ⟨t,hr⟩
  refine ay' hr z (fun ak hr=>?_) (fun ak hr=>?_)
  .exact (show False from hr).elim
  refine l'<|al' ⟨m.1,y,u,m.2,x,C,p⟩ ⟨t,(R.mono t),(A.mono t),hr⟩ (f6 z z z z z z) (w4 z z z z)
 rintro⟨J,E,B,o,k,h,j⟩ ⟨an,aj,aa,hr⟩
 refine sr<|yy (aX' z) z<|yy (g' 2 sc4 z z z) z<|yy (aX' z) z<|yy (g' 3 sc4 z z z) z<|yy (Y0.neqB bA' z z) z<|mv z z ?_
 obtain⟨au,Y,hr⟩:=hr
 refine Q' z z (u' E115 z) (cw' Y) z (aj) (fun ar ax X P=>?_)
 obtain⟨ae,ad,rfl,M⟩:=P
 refine mv z z ?_
 obtain⟨av,Z,hr⟩:=hr
 refine Q' z z (u' E115 z) (cw' Z) z ((aa.mono X)) (fun aq ay U K=>?_)
 obtain⟨ag,af,rfl,O⟩:=K
 refine x' 4 z cl' z z z z z (List.all_eq_true.1 z)<|x' 5 z cl' z z z z z (List.all_eq_true.1 z)<|sx0 z z<|k' ?_
 obtain rfl:_=r:=hr
 exact cv' z (ak' (i:=4) aJ' z z z) (ak' (i:=5) aJ' z z z) z ⟨_,_,_,_,z,(M.mono U),O⟩
theorem fe'{t q d c g f r}(hr:(ZgI t q).Ret r):Ctr prog 175 #[.agg ((v99' t d c)).toArray,.agg ((v99' q g f)).toArray] (fun G=>sl (Rp.int .u32) G d c t.mag/\sl (Rp.int .u32) G g f q.mag) (w99' r):=by
 refine A' (args:=[_,_]) (N:=16) func175 z z z (fun H F B s=>?_)
 obtain⟨k,j⟩:=s
 refine sr<|Y' 2 z z z fun C=>Y' 3 z z z fun I=>O' 4 z z99 z fun E=>nr<|yy (m' 2 aJ' z z z) z<|yy (m' 3 aJ' z z z) z ?_
 obtain⟨A,u,hr⟩:=hr
 refine Q' z z (u' E204 z) (gc' u) z (⟨k,j⟩) (fun x y v h=>?_)
 obtain⟨p,o,l,m,rfl,e,n⟩:=h
 refine mv z z<|yy (L' z z) z<|yy (L' z z) z<|yy (L' z z) z<|O' 5 z z99 z fun J=>O' 6 z z99 z fun D=>x' 5 z cl' z z z z z (List.all_eq_true.1 z)<|x' 6 z cl' z z z z z (List.all_eq_true.1 z)<|sg z z<|nr<|yy (m' 5 aJ' z z z) z<|x' 4 z cl' z z z z z (List.all_eq_true.1 z)<|nx<|k' ?_
 obtain rfl:_=r:=hr
 exact j' z (ak' (i:=4) aJ' z z z) ⟨_,_,z,e⟩
theorem eN'{P M o l p m r}(hr:(ZfH P M).Ret r):Ctr prog 123 #[.agg ((v99' P o l)).toArray,.agg ((v99' M p m)).toArray] (fun G=>sl (Rp.int .u32) G o l P.mag/\sl (Rp.int .u32) G p m M.mag) (w101' r):=by
 refine A' (args:=[_,_]) (N:=21) func123 z z z (fun w0 G0 al V=>?_)
 obtain⟨B,n⟩:=V
 refine sr<|Y' 2 z z z fun X=>Y' 3 z z z fun b2=>O' 4 z z101 z fun Y=>nr<|yy (m' 2 aJ' z z z) z<|yy (m' 3 aJ' z z z) z ?_
 obtain⟨Z,W,hr⟩:=hr
 refine Q' z z (u' E173 z) (fJ' W) z (⟨B,n⟩) (fun ad R y I=>?_)
 obtain⟨E,F,rfl,K⟩:=I
 refine O' 5 z z99 z fun b4=>x' 5 z cl' z z z z z (List.all_eq_true.1 z)<|nx<|aP' (fun (⟨q,c,e,u⟩:Zj×Option Addr×Nat×Mem)=>[(2,pt0 X),(3,pt0 b2),(4,pt0 Y),(5,pt0 b4)]) (fun ⟨q,c,e,u⟩=>Mem.le R u/\sl (Rp.int .u32) u c e q.mag/\(Zgk P M q).Ret r) (fun ⟨q,c,e,u⟩=>St w0 G0 u [(2,bk0 X (v99' P o l) 99),(3,bk0 b2 (v99' M p m) 99),(4,bk0 Y ([.bool false,.slice none 0 0,.bool false,.slice none 0 0]) 101),(5,bk0 b4 (v99' q c e) 99)]) ?_ ?_
 .refine sr<|yy (m' 3 aJ' z z z) z ?_
  obtain⟨ai,T,hr⟩:=hr
  refine B' z z (u' E73 z) (eE' T) z ((n.mono y))<|yy (V' z z) z<|nx<|E' hr z (fun ac hr=>?_) (fun ac hr=>?_)
  .exact (show False from hr).elim
  refine l'<|al' ⟨Z,E,F,R⟩ ⟨mr,K,hr⟩ (f4 z z z z) (w4 z z z z)
 rintro⟨q,c,e,u⟩ ⟨C,s,hr⟩
 refine c'<|ad' [ff,ff,ff,ff,ff] mix (by kernel_rfl) fun hb=>cn (fun _ k=>m' 2 aJ' z z z)<|cn (fun _ k=>m' 5 aJ' z z z) ?_
 obtain⟨A,S,hr⟩:=hr
 refine aw' (post:=w99' A) (fun _=>z) (fun _ _=>u' E175 z) (fe' S) z (fun G' k=>⟨((B.mono (mx y C)).mono k),(s.mono k)⟩) (fun v G1 G2 k h=>?_) ?_
 .obtain⟨j,f,rfl,g⟩:=h
  exact⟨_,_,z,g.mono k⟩
 refine cu (fun _ _ k=>m' 3 aJ' z z z)<|cu (fun _ _ k=>m' 5 aJ' z z z)<|bn' (d:=16) (post:=w99' A) (fun ah aj D L=>?_)
 obtain⟨j,f,rfl,g⟩:=L
 obtain⟨O,U,hr⟩:=hr
 refine Q' z z (u' E175 z) (fe' U) z (⟨(n.mono (mx (mx y C) D)),(s.mono D)⟩) (fun ag ak Q H=>?_)
 obtain⟨x,t,rfl,J⟩:=H
 refine yy (at' (vs:=#[(0,.agg ((v99' A j f)).toArray),(1,.agg ((v99' O x t)).toArray)]) (v:=.agg ([.bool A.neg,.slice j A.mag.length f,.bool O.neg,.slice x O.mag.length t]).toArray) z z (fun _=>by kernel_rfl)) z<|x' 4 z ce' z z z z z (List.all_eq_true.1 z)<|o'<|am'<|a'<|k' ?_
 obtain rfl:_=r:=hr
 exact j' z (ak' (i:=4) bg' z z z) ⟨_,_,_,_,z,(g.mono Q),J⟩
theorem gu'{q p m g k j l e c f r}(hr:(ZjM q p).Ret r):Ctr prog 79 #[.agg ((v101' q m g k j)).toArray,.agg ((v101' p l e c f)).toArray] (fun G=>sl (Rp.int .u32) G m g q.num.mag/\sl (Rp.int .u32) G k j q.den.mag/\sl (Rp.int .u32) G l e p.num.mag/\sl (Rp.int .u32) G c f p.den.mag) (w101' r):=by
 refine A' (args:=[_,_]) (N:=16) func79 z z z (fun w0 G0 af S=>?_)
 obtain⟨A,u,x,y⟩:=S
 refine sr<|Y' 2 z z z fun b2=>Y' 3 z z z fun b3=>O' 4 z z101 z fun b4=>nx<|c'<|ad' [ff,ff,ff,ff,ff,ff,ff,ff,ff] mix (by kernel_rfl) fun hb=>cn (fun _ n=>bw' z)<|cn (fun _ n=>aj' ((v99' q.num m g)).toArray 2 aJ' z z z (aq' ([]) ((v99' q.num m g)) ((v99' q.den k j))))<|cn (fun _ n=>bw' z)<|cn (fun _ n=>aj' ((v99' p.num l e)).toArray 3 aJ' z z z (aq' ([]) ((v99' p.num l e)) ((v99' p.den c f)))) ?_
 obtain⟨P,T,hr⟩:=hr
 refine aw' (post:=w99' P) (fun _=>z) (fun _ _=>u' E124 z) (dZ' T) z (fun G' n=>⟨(A.mono n),(x.mono n)⟩) (fun v G1 G2 n h=>?_) ?_
 .obtain⟨C,D,rfl,o⟩:=h
  exact⟨_,_,z,o.mono n⟩
 refine cu (fun _ _ n=>bk' z)<|cu (fun _ _ n=>aj' ((v99' q.den k j)).toArray 2 aJ' z z z (aq' ((v99' q.num m g)) ((v99' q.den k j)) ([])))<|cu (fun _ _ n=>bk' z)<|cu (fun _ _ n=>aj' ((v99' p.den c f)).toArray 3 aJ' z z z (aq' ((v99' p.num l e)) ((v99' p.den c f)) ([])))<|bn' (d:=9) (post:=w99' P) (fun X aa B F=>?_)
 obtain⟨C,D,rfl,o⟩:=F
 obtain⟨ab,Q,hr⟩:=hr
 refine Q' z z (u' E124 z) (dZ' Q) z (⟨(u.mono B),(y.mono B)⟩) (fun Z ad L I=>?_)
 obtain⟨V,U,rfl,H⟩:=I
 obtain⟨ac,R,hr⟩:=hr
 refine Q' z z (u' E123 z) (eN' R) z (⟨(o.mono L),H⟩) (fun Y ae W E=>?_)
 obtain⟨O,K,M,J,rfl,t,s⟩:=E
 refine x' 4 z ce' z z z z z (List.all_eq_true.1 z)<|o'<|am'<|a'<|k' ?_
 obtain rfl:_=r:=hr
 exact j' z (ak' (i:=4) bg' z z z) ⟨_,_,_,_,z,t,s⟩
theorem ey'{Z m1 p1 D E C F aa ad r}(hr:(ZgL Z m1 p1).Ret r):Ctr prog 41 #[.agg ((v101' Z D E C F)).toArray,.agg (vecG (Value.int .i64) 8 m1).toArray,.slice aa p1.length ad] (fun G=>sl (Rp.int .u32) G D E Z.num.mag/\sl (Rp.int .u32) G C F Z.den.mag/\sl r' G aa ad p1) (wlt' r' r):=by
 refine A' (args:=[_,_,_]) (N:=47) func41 z z z (fun w0 G0 Y av=>?_)
 obtain⟨M,L,Q⟩:=av
 refine sr<|Y' 3 z z z fun b1=>Y' 4 z z z fun b2=>sg z z<|sg z z<|nr<|aD' (e:=152) (r:=r') (vs:=#[]) (cs:=[]) ([]:List Zb) z z z z z (by decide) (fun _=>by kernel_rfl) (z) (key:=999) z (by rw[Y]; rfl) fun p2 ac n aF=>sx0 z z<|c'<|sr<|yy (m' 3 bg' z z z) z ?_
 obtain⟨a0,ap,hr⟩:=hr
 refine B' z z (u' E39 z) (ds' ap) z (⟨(M.mono n),(L.mono n)⟩)<|yy (au' z z) z<|nx<|E' hr z (fun aM hr=>?_) (fun aM hr=>?_)
 .refine sr<|sg z z<|sx0 z z<|k'<|b' ?_
  obtain rfl:_=r:=hr
  exact bE' z z z ⟨_,_,z,(ah' r' _)⟩
 refine l'<|a'<|c'<|sr<|sx0 z z<|R' (fun (⟨t,I,H,B,O⟩:(List Zb)×Option Addr×Nat×Option Ow×Mem)=>[(8,.slice I t.length H)]) (fun ⟨t,I,H,B,O⟩=>Mem.le ac O/\sl r' O I H t/\Tok 12 152 (.slice I t.length H) t.length B/\(Zd9 t).Ret r) (fun ⟨t,I,H,B,O⟩=>St w0 G0 O [(1008,B)]) ?_ ?_
 .refine s' ?_
  let ab:(((List Zb)×Int)⊕(List Zb))->Prop:=fun oo=>((fun ov=>match ov with | .inl rv1=>Cq.ret rv1 | .inr t=>Zd9 t:(((List Zb)×Int)⊕(List Zb))->Cq ((List Zb)×Int)) oo).wp (fun a=>a=r)
  replace hr:(Cq.loop _ _).wp ab:=hr
  refine T' (Φ:=ab) (fun (⟨o,s,q,p,T,K⟩:(List Zb)×Option Addr×Nat×Option Ow×Int×Mem)=>((o,T):(List Zb)×Int)) (fun ⟨o,s,q,p,T,K⟩=>[(2,.slice aa p1.length ad),(3,pt0 b1),(4,pt0 b2),(8,.slice s o.length q),(9,i' T)]) (fun ⟨o,s,q,p,T,K⟩=>Mem.le ac K/\sl r' K s q o/\Tok 12 152 (.slice s o.length q) o.length p) (fun ⟨o,s,q,p,T,K⟩=>St w0 G0 K [(3,bk0 b1 (v101' Z D E C F) 101),(4,bk0 b2 (vecG (Value.int .i64) 8 m1) 110),(1008,p)]) ⟨[],p2,0,none,0,ac⟩ hr (f5 z z z z z) ⟨mr,aF,cc'⟩ (wk (lc z (lc z (lw ln)))) ?_
  .intro aX gx hx hr
   obtain⟨o,s,q,p,T,K⟩:=gx
   obtain⟨m,U,P⟩:=hx
   refine c'<|sr<|mv z z<|mv z z<|yy (K' F' (Q.mono (mx n m)) z) z<|yy (V' z z) z<|nx<|E' hr z (fun aC hr=>?_) (fun aC hr=>?_)
   .refine l'<|a'<|c'<|s'<|c'<|ad' [ff,ff,ff,ff,ff,ff,ff,ff,ff,tt,ff] mix (by kernel_rfl) fun hb=>cn (fun _ k=>m' 4 aT' z z (M' _ _ _))<|cn (fun _ k=>f' z)<|cn (fun _ k=>f' z) ?_
    obtain⟨x1,am,hr⟩:=hr
    refine cn (fun _ k=>P' F' bh' ((Q.mono (mx n m)).mono k) z z am)<|cn (fun _ k=>aL' z)<|cn (fun _ k=>as' _ aT' z (M' _ _ _) (cG' (H' (H' (bP' (aS' (X' Q am))) (mx n m)) k))) ?_
    obtain⟨J,aq,hr⟩:=hr
    refine cm' z (fun _=>u' E78 z) (gt' aq) z (fun G' k=>trivial)<|cn (fun _ k=>f' z)<|cn (fun _ k=>L' z z)<|dA' z (L' z z)<|bJ' (fun _=>z) z110<|Chain.tail1 hb fun b3=>x' 10 z sz110 z z z (M' _ _ _) (M' _ _ _) (fun u hu=>Rp.one (cy' .i64 8) (G:=K) (x:=J.1) (cs:=vecG (Value.int .i64) 8 J.1) z u (by first|simpa using hu|simpa [Value.cells] using hu))<|sg z z<|o'<|am'<|a'<|c'<|sr<|mv z z<|yy (bj' z z) z<|nx<|E' hr z (fun aG hr=>?_) (fun aG hr=>?_)
    .exact (show False from hr).elim
    refine l'<|a'<|ad' [tt,ff,ff,ff,ff,ff,ff,ff,ff] mix (by kernel_rfl) fun hb=>dA' z (f' z)<|cn (fun _ k=>m' 3 bg' z z z)<|cn (fun _ k=>f' z)<|cn (fun _ k=>f' z) ?_
    obtain⟨x2,ah,hr⟩:=hr
    refine cn (fun _ k=>P' F' bh' ((Q.mono (mx n m)).mono k) z z ah)<|cn (fun _ k=>bB' z) ?_
    obtain⟨aj,ak,al,ai,ay,S,R⟩:=cN' (H' (bS' (aS' (X' Q ah))) (mx n m))
    refine cn (fun _ k=>as' _ bg' z z (fun j v hv=>k _ _ _ (ay j v hv))) ?_
    obtain⟨l,au,hr⟩:=hr
    refine aw' (post:=w101' l) (fun _=>z) (fun _ _=>u' E79 z) (gu' au) z (fun G' k=>⟨((M.mono (mx n m)).mono k),((L.mono (mx n m)).mono k),(S.mono k),(R.mono k)⟩) (fun v G1 G2 k h=>?_) ?_
    .obtain⟨i,c,f,g,rfl,y,A⟩:=h
     exact⟨_,_,_,_,z,y.mono k,A.mono k⟩
    refine cu (fun _ _ k=>m' 10 aT' z z (M' _ _ _))<|bn' (d:=41) (post:=w101' l) (fun aQ aZ W X=>?_)
    obtain⟨i,c,f,g,rfl,y,A⟩:=X
    refine yy (at' (vs:=#[(0,.agg ((v101' l i c f g)).toArray),(1,.agg (vecG (Value.int .i64) 8 J.1).toArray)]) (v:=.agg (((v101' l i c f g):List Value)++(vecG (Value.int .i64) 8 J.1)).toArray) z z (fun _=>by kernel_rfl)) z<|aD' (e:=152) (r:=r') (vs:=#[(0,.agg (((v101' l i c f g):List Value)++(vecG (Value.int .i64) 8 J.1)).toArray)]) (cs:=(((v101' l i c f g):List Value)++(vecG (Value.int .i64) 8 J.1))++([])) ([(Zb.mk l J.1)]:List Zb) z z z z z (by decide) (fun _=>by kernel_rfl) ⟨((v101' l i c f g):List Value)++(vecG (Value.int .i64) 8 J.1),[],z,⟨(v101' l i c f g),vecG (Value.int .i64) 8 J.1,z,⟨(v99' l.num i c),(v99' l.den f g),z,⟨[.bool l.num.neg],[.slice i l.num.mag.length c],z,z,⟨_,z,y⟩⟩,⟨[.bool l.den.neg],[.slice f l.den.mag.length g],z,z,⟨_,z,A⟩⟩⟩,z⟩,z⟩ (key:=999) z (by rw[Y]; rfl) (fun p3 aY V aE=>?_)
    obtain⟨ao,hr⟩:=hr
    refine aW' (r:=r') 1008 z z F' el152 z (by decide) z z (U.mono (mx W V)) z (by rw[Y]; rfl) P aE ao fun p4 aB aw aJ ae az an=>sg z z<|o'<|am'<|v'<|a'<|n'<|mv z z<|yy (I' z z) z<|sg z z<|o'<|C' ⟨(o++[(Zb.mk l J.1)]),p4,aB,aw,i64.wrap (T+1),aJ⟩ hr ⟨(mx (mx (mx m W) V) ae),az,an⟩ (f5 z z z z z) (w3 z z z)
   refine U'<|h'<|h'<|y'<|W' ⟨o,s,q,p,K⟩ ⟨m,U,P,hr⟩ (f1 z) (w1 z)
 rintro⟨t,I,H,B,O⟩ ⟨aN,ag,aD,hr⟩
 refine a'<|sr<|mv z z<|sg z z<|sx0 z z<|k' ?_
 obtain rfl:_=r:=hr
 exact bE' z z z ⟨_,_,z,ag⟩
theorem bY'{l O r}(hr:(ZO l O).Ret r):Ctr prog 18 #[i' l,i' O] (fun G=>True) (fun G v=>∃ D F,v = .agg ((v57' r.id D r.p F)).toArray/\sl r' G D F r.p):=by
 refine A' (args:=[_,_]) (N:=19) func18 z z z fun w0 G0 ae V=>sr<|O' 4 z z57 z fun b1=>nr ?_
 obtain⟨ab,M,hr⟩:=hr
 refine Q' z z (u' E38 z) (cP' M) z (trivial) (fun R Y Q o=>?_)
 obtain⟨x,B,t,A,rfl,c,d⟩:=o
 refine mv z z ?_
 obtain⟨Z,H,hr⟩:=hr
 refine B' z z (u' E42 z) (ge' H) z (trivial) ?_
 obtain⟨ad,K,hr⟩:=hr
 refine Q' z z (u' E38 z) (cP' K) z (trivial) (fun U af k n=>?_)
 obtain⟨C,u,y,s,rfl,f,e⟩:=n
 obtain⟨aa,J,hr⟩:=hr
 refine Q' z z (u' E43 z) (eB' J) z (⟨f,e⟩) (fun S ac j p=>?_)
 obtain⟨X,W,rfl,L⟩:=p
 obtain⟨E,I,hr⟩:=hr
 refine Q' z z (u' E41 z) (ey' I) z (⟨(c.mono (mx k j)),(d.mono (mx k j)),L⟩) (fun T ag P m=>?_)
 obtain⟨g,h,rfl,q⟩:=m
 refine mv z z<|yy (L' z z) z<|yy (L' z z) z<|sg z z<|sg z z<|nr<|mv z z<|mv z z<|yy (at' (vs:=#[(0,i' l),(1,.slice g E.1.length h)]) (v:=.agg ([i' l,.slice g E.1.length h]).toArray) z z (fun _=>by kernel_rfl)) z<|x' 4 z bK' z z z z z (List.all_eq_true.1 z)<|nx<|k' ?_
 obtain rfl:_=r:=hr
 exact j' z (ak' (i:=4) ag57 z z z) ⟨_,_,z,q⟩
theorem cX'{c h d g f r}(hr:(ZbI c h d).Ret r):Ctr prog 17 #[.string c,.slice g h.length f,i' d] (fun G=>sl e' G g f h) (w31' r):=by
 refine A' (args:=[_,_,_]) (N:=12) func17 z z z (fun s t n k=>?_)
 have l:=k
 refine sr<|O' 6 z z31 z fun q=>nr<|mv z z<|aD' (e:=9) (r:=Rp.str) (vs:=#[(0,.string c)]) (cs:=[.string c]++([])) ([c]:List ByteArray) z z z z z (by decide) (fun _=>by kernel_rfl) ⟨[.string c],[],z,z,z⟩ (key:=999) z (by rw[n]; rfl) fun m p j o=>mv z z<|mv z z<|yy (at' (vs:=#[(0,.slice m 1 1),(1,.slice g h.length f),(3,i' d)]) (v:=.agg ([.slice m 1 1,.slice g h.length f,.slice none 0 0,i' d]).toArray) z z (fun _=>by kernel_rfl)) z<|x' 6 z aR' z z z z z (List.all_eq_true.1 z)<|nx<|k' ?_
 obtain rfl:_=r:=hr
 exact j' z (ak' (i:=6) ai' z z z) ⟨_,_,_,_,_,_,z,o,(l.mono j),(ah' e' _)⟩
theorem fs'{e r}(hr:(Zch e).Ret r):Ctr prog 47 #[.int .i32 e] (fun G=>True) (fun G v=>v = .bool r):=by
 refine A' (args:=[_]) (N:=13) func47 z z z fun h i g f=>sr<|sg z z<|nr<|mv z z<|ao' hr z (cb' z z) z (fun c hr=>?_) (fun c hr=>?_)
 .refine mv z z<|gy z z (f' z) z<|ao' hr (D' z z) (cb' z z) z (fun d hr=>?_) (fun d hr=>?_)
  .refine yy (t' z z) z<|mv z z<|sn2 z<|yy (t' z z) z<|sx0 z z<|k' (k0' hr z z)
  refine yy (t' z z) z<|mv z z<|gy z z (f' z) z<|gy z z (au' z z) z<|yy (p' z z) z<|sx0 z z<|k' (k0' hr z z)
 refine mv z z<|sn2 z<|yy (p' z z) z<|mv z z<|gy z z (f' z) z<|gy z z (au' z z) z<|yy (p' z z) z<|sx0 z z<|k' (k0' hr z z)
theorem ft'{f r}(hr:(Zcg f).Ret r):Ctr prog 23 #[.string f] (fun G=>True) (fun G v=>v = .bool r):=by
 refine A' (args:=[_]) (N:=45) func23 z z z fun q o P J=>sr<|sx0 z z<|aP' (fun (g:Mem)=>match g with|h=>[(0,.string f)]) (fun (g:Mem)=>match g with|h=>Mem.le o h/\(Zet f).Ret r) (fun (g:Mem)=>match g with|h=>St q o h []) ?_ ?_
 .refine sr<|mv z z<|yy (Y0.lenS aI' z) z<|ao' hr z (V' z z) z (fun B hr=>?_) (fun B hr=>?_)
  .refine mv z z<|sn3 z<|yy (t' z z) z<|nx<|av' z<|sr<|sx0 z z<|k'<|b' (k0' hr z z)
  refine mv z z<|gy z z (f' z) z<|gy z z (Y0.lenS aI' z) z<|gy z z (aZ' z z) z<|yy (p' z z) z<|nx<|E' hr z (fun y hr=>?_) (fun y hr=>?_)
  .refine sr<|sx0 z z<|k'<|b' (k0' hr z z)
  refine l'<|al' o ⟨mr,hr⟩ (f1 z) (wk ln)
 rintro h ⟨H,hr⟩
 refine c'<|sr<|mv z z<|WL.rangeS 4015 z z aI' z fun m=>nx<|R' (fun (g:Mem)=>match g with|k=>[]) (fun (g:Mem)=>match g with|k=>Mem.le h k/\(Zat).Ret r) (fun (g:Mem)=>match g with|k=>St q o k []) ?_ ?_
 .refine s' ?_
  let l:(Bool⊕Unit)->Prop:=fun L=>((fun K=>match K with | .inl rv1=>Cq.ret rv1 | .inr ()=>Zat:(Bool⊕Unit)->Cq Bool) L).wp (fun a=>a=r)
  replace hr:(Cq.loop _ _).wp l:=hr
  refine T' (Φ:=l) (fun (⟨c,d⟩:Nat×Mem)=>(c:Nat)) (fun ⟨c,d⟩=>[(15,pt0 m)]) (fun ⟨c,d⟩=>Mem.le h d) (fun ⟨c,d⟩=>St q o d [(4015,(some ⟨m,.stringIter f c,0⟩))]) ⟨0,h⟩ hr (f1 z) mr (w1 z) ?_
  .intro x g M hr
   obtain⟨c,d⟩:=g
   have j:=M
   refine sr<|WL.nextS 4015 z z z z (fun p=>?_) (fun p=>?_)
   .replace hr:=hr.pos p
    refine yy (L' z z) z<|nx<|c'<|av' z<|l'<|a'<|s'<|sr<|yy (L' z z) z<|yy (L' z z) z<|sg z z<|sx0 z z<|aP' (fun (⟨e,i⟩:Bool×Mem)=>[(3,i' (c:Int)),(4,.int .i32 ((Utf8.decode f c).1:Int)),(5,.bool e),(15,pt0 m)]) (fun ⟨e,i⟩=>Mem.le d i/\(ZK f c e).wp (Out x l)) (fun ⟨e,i⟩=>St q o i [(4015,(some ⟨m,.stringIter f (c+(Utf8.decode f c).2),0⟩))]) ?_ ?_
    .refine n'<|mv z z<|ao' hr z (cb' z z) z (fun E hr=>?_) (fun E hr=>?_)
     .refine mv z z<|gy z z (f' z) z<|ao' hr (D' z z) (cb' z z) z (fun C hr=>?_) (fun C hr=>?_)
      .refine yy (t' z z) z<|mv z z<|sn3 z<|ar' (aa' z z) z<|ar' (aa' z z) z<|sf z z z<|yy (t' z z) z<|sg z z<|o'<|al' ⟨true,d⟩ ⟨mr,hr⟩ (f4 z z z z) (w1 z)
      refine yy (t' z z) z<|mv z z<|gy z z (f' z) z<|ao' hr (D' z z) (cb' z z) z (fun u hr=>?_) (fun u hr=>?_)
      .refine gy z z (f' z) z<|gy z z (f' z) z<|gy z z (cb' z z) z<|gy z z (t' z z) z<|yy (p' z z) z<|sg z z<|o'<|al' ⟨decide (((Utf8.decode f c).1:Int)<=122),d⟩ ⟨mr,hr⟩ (f4 z z z z) (w1 z)
      refine gy z z (f' z) z<|sn2 z<|gy z z (p' z z) z<|yy (p' z z) z<|sg z z<|o'<|al' ⟨false,d⟩ ⟨mr,hr⟩ (f4 z z z z) (w1 z)
     refine mv z z<|sn2 z<|yy (p' z z) z<|mv z z<|gy z z (f' z) z<|ao' hr (D' z z) (cb' z z) z (fun t hr=>?_) (fun t hr=>?_)
     .refine gy z z (f' z) z<|gy z z (f' z) z<|gy z z (cb' z z) z<|gy z z (t' z z) z<|yy (p' z z) z<|sg z z<|o'<|al' ⟨decide (((Utf8.decode f c).1:Int)<=122),d⟩ ⟨mr,hr⟩ (f4 z z z z) (w1 z)
     refine gy z z (f' z) z<|sn2 z<|gy z z (p' z z) z<|yy (p' z z) z<|sg z z<|o'<|al' ⟨false,d⟩ ⟨mr,hr⟩ (f4 z z z z) (w1 z)
    rintro⟨e,i⟩ ⟨n,hr⟩
    refine sr<|ao' hr z (cp' (f' z) (congrArg Value.bool (bdec _))) z (fun D hr=>?_) (fun D hr=>?_)
    .refine yy (an' z) z<|mv z z<|sn3 z<|ar' (aa' z z) z<|ar' (aa' z z) z<|ar' (aa' z z) z<|sk z z z<|yy (p' z z) z<|nx<|aK' z<|l'<|v'<|C' ⟨(c+(Utf8.decode f c).2),i⟩ hr (mx j n) (f1 z) (w1 z)
    refine yy (an' z) z<|mv z z<|gy z z (f' z) z<|ao' hr (D' z z) (au' z z) z (fun A hr=>?_) (fun A hr=>?_)
    .refine gy z z (f' z) z<|sn3 z<|gy z z (t' z z) z<|yy (t' z z) z<|nx<|av' z<|sr<|sx0 z z<|k'<|w'<|b'<|w'<|ap'<|b' (k0' hr z z)
    refine gy z z (f' z) z<|gy z z (f' z) z ?_
    obtain⟨O,s,hr⟩:=hr
    refine B' (D' z z) z (u' E47 z) (fs' s) z (trivial)<|gy z z (an' z) z<|gy z z (p' z z) z<|yy (t' z z) z<|nx<|ay' hr z (fun F hr=>?_) (fun F hr=>?_)
    .refine sr<|sx0 z z<|k'<|w'<|b'<|w'<|ap'<|b' (k0' hr z z)
    refine l'<|v'<|C' ⟨(c+(Utf8.decode f c).2),i⟩ hr (mx j n) (f1 z) (w1 z)
   replace hr:=hr.neg p
   refine yy (L' z z) z<|nx<|c'<|aK' z<|U'<|h'<|h'<|y'<|W' d ⟨j,hr⟩ fn (wk ln)
 rintro k ⟨I,hr⟩
 refine a'<|sr<|sx0 z z<|k' (k0' hr z z)
theorem eu'{g e d r}(hr:(ZdP g).Ret r):Ctr prog 137 #[.agg ((v99' g e d)).toArray] (fun G=>sl (Rp.int .u32) G e d g.mag) (fun G v=>v = .bool r):=by
 refine A' (args:=[_]) (N:=19) func137 z z z (fun l n j h=>?_)
 have c:=h
 refine sr<|Y' 1 z z z fun k=>sg z z<|nr<|yy (ax' z) z<|yy (g' 1 bs' z z z) z<|yy (K' q' c z) z<|sx0 z z<|c'<|sr<|mv z z<|yy (au' z z) z<|nx<|E' hr z (fun i hr=>?_) (fun i hr=>?_)
 .exact (show False from hr).elim
 refine l'<|a'<|sr<|yy (ax' z) z<|yy (g' 1 bs' z z z) z<|mv z z<|yy (be' z z) z ?_
 obtain⟨m,f,hr⟩:=hr
 refine yy (P' q' aM' c z z f) z<|yy (ae' bu' z (aA' (X' c f))) z<|yy (bj' z z) z<|sx0 z z<|k' (k0' hr z z)
theorem du'{p s m q k o r}(hr:(ZaB p s).Ret r):Ctr prog 171 #[.slice m p.length q,.slice k s.length o] (fun G=>sl (Rp.int .u32) G m q p/\sl (Rp.int .u32) G k o s) (fun G v=>v=i' r):=by
 refine A' (args:=[_,_]) (N:=41) func171 z z z (fun F l P B=>?_)
 obtain⟨f,g⟩:=B
 refine sr<|sx0 z z<|c'<|sr<|mv z z<|yy (K' q' f z) z<|mv z z<|yy (K' q' g z) z<|yy (bj' z z) z<|nx<|E' hr z (fun I hr=>?_) (fun I hr=>?_)
 .refine c'<|sr<|mv z z<|yy (K' q' f z) z<|mv z z<|yy (K' q' g z) z<|yy (V' z z) z<|nx<|E' hr z (fun E hr=>?_) (fun E hr=>?_)
  .refine sr<|sx0 z z<|k'<|b'<|b' (k0' hr z z)
  refine l'<|a'<|sr<|sx0 z z<|k'<|b' (k0' hr z z)
 refine l'<|a'<|c'<|sr<|mv z z<|yy (K' q' f z) z<|yy (be' z z) z<|sx0 z z<|R' (fun (i:Mem)=>match i with|h=>[]) (fun (i:Mem)=>match i with|h=>Mem.le l h/\(ZbF).Ret r) (fun (i:Mem)=>match i with|h=>St F l h []) ?_ ?_
 .refine s' ?_
  let n:(Int⊕Unit)->Prop:=fun M=>((fun K=>match K with | .inl rv1=>Cq.ret rv1 | .inr ()=>ZbF:(Int⊕Unit)->Cq Int) M).wp (fun a=>a=r)
  replace hr:(Cq.loop _ _).wp n:=hr
  refine T' (Φ:=n) (fun (⟨j,e⟩:Int×Mem)=>(j:Int)) (fun ⟨j,e⟩=>[(0,.slice m p.length q),(1,.slice k s.length o),(5,i' j)]) (fun ⟨j,e⟩=>Mem.le l e) (fun ⟨j,e⟩=>St F l e []) ⟨i64.wrap ((p.length:Int)-1),l⟩ hr (f3 z z z) mr (wk ln) ?_
  .intro O i L hr
   obtain⟨j,e⟩:=i
   have d:=L
   refine c'<|sr<|mv z z<|yy (aV' z z) z<|nx<|E' hr z (fun H hr=>?_) (fun H hr=>?_)
   .refine l'<|a'<|c'<|s'<|c'<|ad' [ff,ff,ff,ff,ff,ff,ff,ff] mix (by kernel_rfl) fun A=>cn (fun _ c=>f' z)<|cn (fun _ c=>f' z) ?_
    obtain⟨T,y,hr⟩:=hr
    refine cn (fun _ c=>P' q' aM' ((f.mono d).mono c) z z y)<|cn (fun _ c=>ae' bu' z (aA' (H' (H' (X' f y) d) c)))<|cn (fun _ c=>f' z)<|cn (fun _ c=>f' z) ?_
    obtain⟨S,u,hr⟩:=hr
    refine cn (fun _ c=>P' q' aM' ((g.mono d).mono c) z z u)<|cn (fun _ c=>ae' bu' z (aA' (H' (H' (X' g u) d) c)))<|af' A<|yy (bj' z z) z<|o'<|am'<|a'<|E' hr z (fun D hr=>?_) (fun D hr=>?_)
    .refine c'<|c'<|ad' [ff,ff,ff,ff,ff,ff,ff,ff] mix (by kernel_rfl) fun A=>cn (fun _ c=>f' z)<|cn (fun _ c=>f' z) ?_
     obtain⟨R,t,hr⟩:=hr
     refine cn (fun _ c=>P' q' aM' ((f.mono d).mono c) z z t)<|cn (fun _ c=>ae' bu' z (aA' (H' (H' (X' f t) d) c)))<|cn (fun _ c=>f' z)<|cn (fun _ c=>f' z) ?_
     obtain⟨Q,x,hr⟩:=hr
     refine cn (fun _ c=>P' q' aM' ((g.mono d).mono c) z z x)<|cn (fun _ c=>ae' bu' z (aA' (H' (H' (X' g x) d) c)))<|af' A<|yy (V' z z) z<|o'<|am'<|a'<|E' hr z (fun C hr=>?_) (fun C hr=>?_)
     .refine sr<|sx0 z z<|k'<|b'<|w'<|b'<|b'<|w'<|ap'<|b' (k0' hr z z)
     refine l'<|a'<|sr<|sx0 z z<|k'<|w'<|b'<|b'<|w'<|ap'<|b' (k0' hr z z)
    refine l'<|v'<|a'<|n'<|mv z z<|yy (be' z z) z<|sg z z<|o'<|C' ⟨i64.wrap (j-1),e⟩ hr d (f3 z z z) (wk ln)
   refine U'<|h'<|h'<|y'<|W' e ⟨d,hr⟩ fn (wk ln)
 rintro h ⟨J,hr⟩
 refine a'<|sr<|sx0 z z<|k' (k0' hr z z)
theorem fk'{g f e d c r}(hr:(Zb2 g).Ret r):Ctr prog 86 #[.agg ((v101' g f e d c)).toArray] (fun G=>sl (Rp.int .u32) G f e g.num.mag/\sl (Rp.int .u32) G d c g.den.mag) (fun G v=>v = .bool r):=by
 refine A' (args:=[_]) (N:=30) func86 z z z (fun J u Q x=>?_)
 obtain⟨i,h⟩:=x
 refine sr<|Y' 1 z z z fun C=>sx0 z z<|aP' (fun (n:Mem)=>match n with|k=>[(1,pt0 C)]) (fun (n:Mem)=>match n with|k=>Mem.le u k/\(ZdS g).Ret r) (fun (n:Mem)=>match n with|k=>St J u k [(1,bk0 C (v101' g f e d c) 101)]) ?_ ?_
 .refine sr<|yy (bw' z) z<|yy (aj' ((v99' g.num f e)).toArray 1 aJ' z z z (aq' ([]) ((v99' g.num f e)) ((v99' g.den d c)))) z ?_
  obtain⟨D,q,hr⟩:=hr
  refine B' z z (u' E137 z) (eu' q) z (i) ?_
  cases D
  .refine yy (an' z) z<|mv z z<|sn4 z<|yy (t' z z) z<|mv z z<|sn4 z<|yy (t' z z) z<|nx<|av' z<|sr<|sx0 z z<|k'<|b' (k0' hr z z)
  refine yy (an' z) z<|mv z z<|gy z z (bk' z) z<|gy z z (aj' ((v99' g.den d c)).toArray 1 aJ' z z z (aq' ((v99' g.num f e)) ((v99' g.den d c)) ([]))) z ?_
  obtain⟨F,p,hr⟩:=hr
  refine B' (D' z z) z (u' E137 z) (eu' p) z (h) ?_
  cases F
  .refine gy z z (an' z) z<|yy (p' z z) z<|mv z z<|sn4 z<|yy (t' z z) z<|nx<|av' z<|sr<|sx0 z z<|k'<|b' (k0' hr z z)
  refine gy z z (an' z) z<|yy (p' z z) z<|mv z z<|gy z z (bk' z) z<|gy z z (aj' ((v99' g.den d c)).toArray 1 aJ' z z z (aq' ((v99' g.num f e)) ((v99' g.den d c)) ([]))) z ?_
  obtain⟨M,s,hr⟩:=hr
  refine B' (D' z z) z (u' E138 z) (do' s) z (h)<|gy z z (cb' z z) z<|yy (p' z z) z<|nx<|E' hr z (fun H hr=>?_) (fun H hr=>?_)
  .exact (show False from hr).elim
  refine l'<|al' u ⟨mr,hr⟩ (f1 z) (w1 z)
 rintro k ⟨j,hr⟩
 refine sr<|yy (bk' z) z<|yy (aj' ((v99' g.den d c)).toArray 1 aJ' z z z (aq' ((v99' g.num f e)) ((v99' g.den d c)) ([]))) z ?_
 obtain⟨E,y,hr⟩:=hr
 refine B' z z (u' E139 z) (cI' y) z ((h.mono j)) ?_
 cases E
 .refine mv z z<|gy z z (bw' z) z<|gy z z (aj' ((v99' g.num f e)).toArray 1 aJ' z z z (aq' ([]) ((v99' g.num f e)) ((v99' g.den d c)))) z<|gy z z (bk' z) z<|gy z z (aj' ((v99' g.den d c)).toArray 1 aJ' z z z (aq' ((v99' g.num f e)) ((v99' g.den d c)) ([]))) z ?_
  obtain⟨L,o,hr⟩:=hr
  refine Q' (D' z z) z (u' E140 z) (fO' o) z (⟨(i.mono j),(h.mono j)⟩) (fun K P I m=>?_)
  obtain⟨B,A,rfl,l⟩:=m
  obtain⟨O,t,hr⟩:=hr
  refine B' (D' z z) z (u' E139 z) (cI' t) z (l)<|yy (p' z z) z<|sx0 z z<|k' (k0' hr z z)
 refine mv z z<|sn6 z<|yy (t' z z) z<|sx0 z z<|k' (k0' hr z z)
theorem eO'{q t s r}(hr:(Zcr q).Ret r):Ctr prog 48 #[.slice t q.length s] (fun G=>sl r' G t s q) (fun G v=>v = .bool r):=by
 refine A' (args:=[_]) (N:=43) func48 z z z (fun J C af K=>?_)
 have A:=K
 refine sr<|sx0 z z<|c'<|sr<|mv z z<|yy (K' F' A z) z<|mv z z<|nx<|R' (fun (n:Mem)=>match n with|y=>[]) (fun (n:Mem)=>match n with|y=>Mem.le C y/\(Zbp).Ret r) (fun (n:Mem)=>match n with|y=>St J C y []) ?_ ?_
 .refine s' ?_
  let B:(Bool⊕Unit)->Prop:=fun oo=>((fun ov=>match ov with | .inl rv1=>Cq.ret rv1 | .inr ()=>Zbp:(Bool⊕Unit)->Cq Bool) oo).wp (fun a=>a=r)
  replace hr:(Cq.loop _ _).wp B:=hr
  refine T' (Φ:=B) (fun (⟨h,m⟩:Int×Mem)=>(h:Int)) (fun ⟨h,m⟩=>[(0,.slice t q.length s),(5,.slice t q.length s),(6,i' (q.length:Int)),(7,i' h)]) (fun ⟨h,m⟩=>Mem.le C m) (fun ⟨h,m⟩=>St J C m []) ⟨0,C⟩ hr (f4 z z z z) mr (wk ln) ?_
  .intro Q n Z hr
   obtain⟨h,m⟩:=n
   have l:=Z
   refine sr<|yy (V' z z) z<|nx<|c'<|E' hr z (fun X hr=>?_) (fun X hr=>?_)
   .refine l'<|a'<|c'<|s'<|sr<|mv z z ?_
    obtain⟨g,E,hr⟩:=hr
    refine yy (P' F' bh' (A.mono l) z z E) z ?_
    obtain⟨d,f,e,c,T,j,k⟩:=bI' (H' (X' A E) l)
    refine yy (as' _ cM' z z T) z<|O' 4 z z152 z fun M=>sg z z<|x' 4 z bh' z z z z z (fun u S=>Rp.one r' (G:=m) (x:=g) (cs:=((v101' g.c d f e c):List Value)++(vecG (Value.int .i64) 8 g.m)) ⟨(v101' g.c d f e c),vecG (Value.int .i64) 8 g.m,z,⟨(v99' g.c.num d f),(v99' g.c.den e c),z,⟨[.bool g.c.num.neg],[.slice d g.c.num.mag.length f],z,z,⟨_,z,j⟩⟩,⟨[.bool g.c.den.neg],[.slice e g.c.den.mag.length c],z,z,⟨_,z,k⟩⟩⟩,z⟩ u (by first|simpa using S|simpa [Value.cells] using S))<|nx<|aP' (fun (n:Mem)=>match n with|p=>[(0,.slice t q.length s),(3,i' h),(4,pt0 M),(5,.slice t q.length s),(6,i' (q.length:Int)),(7,i' h)]) (fun (n:Mem)=>match n with|p=>Mem.le m p/\(Zaw q h g).wp (Out Q B)) (fun (n:Mem)=>match n with|p=>St J C p [(4,bk0 M (((v101' g.c d f e c):List Value)++(vecG (Value.int .i64) 8 g.m)) 152)]) ?_ ?_
    .refine sr<|yy (bB' z) z<|yy (aj' ((v101' g.c d f e c)).toArray 4 bg' z z z (aq' ([]) ((v101' g.c d f e c)) ((vecG (Value.int .i64) 8 g.m)))) z ?_
     obtain⟨O,F,hr⟩:=hr
     refine B' z z (u' E86 z) (fk' F) z (⟨j,k⟩) ?_
     cases O
     .refine yy (an' z) z<|mv z z<|sn4 z<|yy (t' z z) z<|mv z z<|sn4 z<|yy (t' z z) z<|nx<|av' z<|sr<|sx0 z z<|k'<|b'<|w'<|b'<|b'<|w'<|ap'<|b' (k0' hr z z)
     refine yy (an' z) z<|mv z z<|gy z z (bB' z) z<|gy z z (aj' ((v101' g.c d f e c)).toArray 4 bg' z z z (aq' ([]) ((v101' g.c d f e c)) ((vecG (Value.int .i64) 8 g.m)))) z ?_
     obtain⟨ae,I,hr⟩:=hr
     refine B' (D' z z) z (u' E87 z) (cL' I) z (⟨j,k⟩)<|ao' hr (D' z z) (au' z z) z (fun U hr=>?_) (fun U hr=>?_)
     .refine yy (p' z z) z<|mv z z<|sn4 z<|yy (t' z z) z<|nx<|av' z<|sr<|sx0 z z<|k'<|b'<|w'<|b'<|b'<|w'<|ap'<|b' (k0' hr z z)
     refine yy (p' z z) z<|mv z z<|gy z z (aL' z) z<|gy z z (aj' (vecG (Value.int .i64) 8 g.m).toArray 4 aT' z z (M' _ _ _) (aq' ((v101' g.c d f e c)) (vecG (Value.int .i64) 8 g.m) ([]))) z ?_
     obtain⟨ac,H,hr⟩:=hr
     refine B' (D' z z) z (u' E88 z) (er' H) z (trivial)<|gy z z (an' z) z<|yy (p' z z) z<|nx<|ay' hr z (fun W hr=>?_) (fun W hr=>?_)
     .exact (show False from hr).elim
     refine l'<|al' m ⟨mr,hr⟩ (f6 z z z z z z) (w1 z)
    rintro p ⟨o,hr⟩
    refine c'<|ad' [ff,ff,ff,ff,ff,ff,ff,ff,ff,ff,ff] mix (by kernel_rfl) fun P=>cn (fun _ i=>f' z)<|bX' hr z (fun _ i=>aZ' z z) (fun V hr=>?_) (fun V hr=>?_)
    .refine cn (fun _ i=>f' z)<|cy z z (fun _ i=>f' z)<|cy z z (fun _ i=>f' z)<|cy z z (fun _ i=>be' z z) ?_
     obtain⟨x2,D,hr⟩:=hr
     refine cy z z (fun _ i=>P' F' bh' ((A.mono (mx l o)).mono i) z z D)<|cy z z (fun _ i=>aL' z)<|cy z z (fun _ i=>as' _ aT' z (M' _ _ _) (cG' (H' (H' (bP' (aS' (X' A D))) (mx l o)) i)))<|cy z z (fun _ i=>aL' z)<|cy z z (fun _ i=>aj' (vecG (Value.int .i64) 8 g.m).toArray 4 aT' z z (M' _ _ _) (aq' ((v101' g.c d f e c)) (vecG (Value.int .i64) 8 g.m) ([])))<|af' P ?_
     obtain⟨ad,L,hr⟩:=hr
     refine B' (D' z z) z (u' E89 z) (eA' L) z (trivial)<|gy z z (cb' z z) z<|yy (t' z z) z<|o'<|am'<|a'<|E' hr z (fun R hr=>?_) (fun R hr=>?_)
     .exact (show False from hr).elim
     refine l'<|v'<|a'<|n'<|yy (I' z z) z<|mv z z<|o'<|C' ⟨i64.wrap (h+1),p⟩ hr (mx l o) (f4 z z z z) (wk ln)
    refine cn (fun _ i=>f' z)<|ct z z<|ct z z<|ct z z<|ct z z<|ct z z<|ct z z<|ct z z<|ct z z<|af' P<|sn2 z<|yy (p' z z) z<|o'<|am'<|a'<|aK' z<|l'<|v'<|a'<|n'<|yy (I' z z) z<|mv z z<|o'<|C' ⟨i64.wrap (h+1),p⟩ hr (mx l o) (f4 z z z z) (wk ln)
   refine U'<|h'<|h'<|y'<|W' m ⟨l,hr⟩ fn (wk ln)
 rintro y ⟨Y,hr⟩
 refine a'<|sr<|sx0 z z<|k' (k0' hr z z)
theorem eP'{l r}(hr:(Zcp l).Ret r):Ctr prog 90 #[.agg (vecG (Value.int .i64) 8 l).toArray] (fun G=>True) (fun G v=>v = .int .u8 r):=by
 refine A' (args:=[_]) (N:=19) func90 z z z fun o i B t=>sr<|Y' 1 z z z fun C=>sg z z<|nr<|sx0 z z<|c'<|sr<|yy (m' 1 aT' z z (M' _ _ _)) z<|mv z z<|nx<|R' (fun (⟨h,g⟩:Int×Mem)=>[(3,.int .u8 h)]) (fun ⟨h,g⟩=>Mem.le i g/\(Zbi h).Ret r) (fun ⟨h,g⟩=>St o i g []) ?_ ?_
 .refine s' ?_
  let j:Int->Prop:=fun x=>((fun s=>match s with|h=>Zbi h:Int->Cq Int) x).wp (fun a=>a=r)
  replace hr:(Cq.loop _ _).wp j:=hr
  refine T' (Φ:=j) (fun (⟨e,c,d⟩:Int×Int×Mem)=>((e,c):Int×Int)) (fun ⟨e,c,d⟩=>[(3,.int .u8 e),(6,.agg (vecG (Value.int .i64) 8 l).toArray),(7,i' c)]) (fun ⟨e,c,d⟩=>Mem.le i d) (fun ⟨e,c,d⟩=>St o i d []) ⟨0,0,i⟩ hr (f3 z z z) mr (wk ln) ?_
  .intro A u y hr
   obtain⟨e,c,d⟩:=u
   have f:=y
   refine sr<|yy (V' z z) z<|nx<|c'<|E' hr z (fun p hr=>?_) (fun p hr=>?_)
   .refine l'<|a'<|c'<|s'<|sr<|mv z z ?_
    obtain⟨k,hr⟩:=hr
    refine yy (dV' ag' sc3 sz3 z z k (bo' _ _ _ k)) z<|sg z z<|sg z z<|nr<|mv z z<|yy (aZ' z z) z<|nx<|E' hr z (fun n hr=>?_) (fun n hr=>?_)
    .refine n'<|mv z z<|mv z z ?_
     obtain⟨m,hr⟩:=hr
     refine yy (Y0.shl z z m) z<|yy (Y0.or z z) z<|sg z z<|o'<|v'<|a'<|n'<|yy (I' z z) z<|mv z z<|o'<|C' ⟨u8.wrap (BitVec.ofInt u8.bits e ||| BitVec.ofInt u8.bits (u8.wrap (1*2 ^ (min (c).toNat u8.bits)))).toNat,i64.wrap (c+1),d⟩ hr f (f3 z z z) (wk ln)
    refine l'<|v'<|a'<|n'<|yy (I' z z) z<|mv z z<|o'<|C' ⟨e,i64.wrap (c+1),d⟩ hr f (f3 z z z) (wk ln)
   refine U'<|h'<|h'<|y'<|W' ⟨e,d⟩ ⟨f,hr⟩ (f1 z) (wk ln)
 rintro⟨h,g⟩ ⟨q,hr⟩
 refine a'<|sr<|mv z z<|sx0 z z<|k' (k0' hr z z)
theorem ei'{q t s r}(hr:(Zbv q).Ret r):Ctr prog 49 #[.slice t q.length s] (fun G=>sl r' G t s q) (fun G v=>v = .int .u8 r):=by
 refine A' (args:=[_]) (N:=19) func49 z z z (fun F p R C=>?_)
 have y:=C
 refine sr<|sg z z<|nr<|sx0 z z<|c'<|sr<|mv z z<|yy (K' F' y z) z<|mv z z<|nx<|R' (fun (⟨o,n⟩:Int×Mem)=>[(3,.int .u8 o)]) (fun ⟨o,n⟩=>Mem.le p n/\(ZbP o).Ret r) (fun ⟨o,n⟩=>St F p n []) ?_ ?_
 .refine s' ?_
  let A:Int->Prop:=fun P=>((fun M=>match M with|o=>ZbP o:Int->Cq Int) P).wp (fun a=>a=r)
  replace hr:(Cq.loop _ _).wp A:=hr
  refine T' (Φ:=A) (fun (⟨m,g,h⟩:Int×Int×Mem)=>((m,g):Int×Int)) (fun ⟨m,g,h⟩=>[(3,.int .u8 m),(6,.slice t q.length s),(7,i' (q.length:Int)),(8,i' g)]) (fun ⟨m,g,h⟩=>Mem.le p h) (fun ⟨m,g,h⟩=>St F p h []) ⟨0,0,p⟩ hr (f4 z z z z) mr (wk ln) ?_
  .intro Q L O hr
   obtain⟨m,g,h⟩:=L
   have j:=O
   refine sr<|yy (V' z z) z<|nx<|c'<|E' hr z (fun J hr=>?_) (fun J hr=>?_)
   .refine l'<|a'<|c'<|s'<|sr ?_
    obtain⟨i,B,hr⟩:=hr
    refine yy (P' F' bh' (y.mono j) z z B) z ?_
    obtain⟨d,f,e,c,I,k,l⟩:=bI' (H' (X' y B) j)
    refine yy (as' _ cM' z z I) z<|O' 5 z z152 z fun S=>x' 5 z bh' z z z z z (fun u H=>Rp.one r' (G:=h) (x:=i) (cs:=((v101' i.c d f e c):List Value)++(vecG (Value.int .i64) 8 i.m)) ⟨(v101' i.c d f e c),vecG (Value.int .i64) 8 i.m,z,⟨(v99' i.c.num d f),(v99' i.c.den e c),z,⟨[.bool i.c.num.neg],[.slice d i.c.num.mag.length f],z,z,⟨_,z,k⟩⟩,⟨[.bool i.c.den.neg],[.slice e i.c.den.mag.length c],z,z,⟨_,z,l⟩⟩⟩,z⟩ u (by first|simpa using H|simpa [Value.cells] using H))<|nx<|n'<|mv z z<|yy (aL' z) z<|yy (aj' (vecG (Value.int .i64) 8 i.m).toArray 5 aT' z z (M' _ _ _) (aq' ((v101' i.c d f e c)) (vecG (Value.int .i64) 8 i.m) ([]))) z ?_
    obtain⟨E,D,hr⟩:=hr
    refine B' z z (u' E90 z) (eP' D) z (trivial)<|yy (Y0.or z z) z<|sg z z<|o'<|v'<|a'<|n'<|yy (I' z z) z<|mv z z<|o'<|C' ⟨u8.wrap (BitVec.ofInt u8.bits m ||| BitVec.ofInt u8.bits E).toNat,i64.wrap (g+1),h⟩ hr j (f4 z z z z) (wk ln)
   refine U'<|h'<|h'<|y'<|W' ⟨m,h⟩ ⟨j,hr⟩ (f1 z) (wk ln)
 rintro⟨o,n⟩ ⟨K,hr⟩
 refine a'<|sr<|mv z z<|sx0 z z<|k' (k0' hr z z)
theorem fa'{k r}(hr:(ZcW k).Ret r):Ctr prog 91 #[.agg (vecG (Value.int .i64) 8 k).toArray] (fun G=>True) (fun G v=>v=i' r):=by
 refine A' (args:=[_]) (N:=15) func91 z z z fun m i y p=>sr<|Y' 1 z z z fun A=>sg z z<|nr<|sx0 z z<|c'<|sr<|yy (m' 1 aT' z z (M' _ _ _)) z<|mv z z<|nx<|R' (fun (⟨g,f⟩:Int×Mem)=>[(3,i' g)]) (fun ⟨g,f⟩=>Mem.le i f/\(ZbM g).Ret r) (fun ⟨g,f⟩=>St m i f []) ?_ ?_
 .refine s' ?_
  let j:Int->Prop:=fun t=>((fun q=>match q with|g=>ZbM g:Int->Cq Int) t).wp (fun a=>a=r)
  replace hr:(Cq.loop _ _).wp j:=hr
  refine T' (Φ:=j) (fun (⟨e,c,d⟩:Int×Int×Mem)=>((e,c):Int×Int)) (fun ⟨e,c,d⟩=>[(3,i' e),(6,.agg (vecG (Value.int .i64) 8 k).toArray),(7,i' c)]) (fun ⟨e,c,d⟩=>Mem.le i d) (fun ⟨e,c,d⟩=>St m i d []) ⟨0,0,i⟩ hr (f3 z z z) mr (wk ln) ?_
  .intro x s u hr
   obtain⟨e,c,d⟩:=s
   have h:=u
   refine sr<|yy (V' z z) z<|nx<|c'<|E' hr z (fun n hr=>?_) (fun n hr=>?_)
   .refine l'<|a'<|c'<|s'<|sr ?_
    obtain⟨l,hr⟩:=hr
    refine yy (dV' ag' sc3 sz3 z z l (bo' _ _ _ l)) z<|sx0 z z<|n'<|mv z z<|mv z z<|yy (I' z z) z<|sg z z<|o'<|v'<|a'<|n'<|yy (I' z z) z<|mv z z<|o'<|C' ⟨i64.wrap (e+(getF k c)),i64.wrap (c+1),d⟩ hr h (f3 z z z) (wk ln)
   refine U'<|h'<|h'<|y'<|W' ⟨e,d⟩ ⟨h,hr⟩ (f1 z) (wk ln)
 rintro⟨g,f⟩ ⟨o,hr⟩
 refine a'<|sr<|mv z z<|sx0 z z<|k' (k0' hr z z)
theorem dS'{q t s r}(hr:(ZaR q).Ret r):Ctr prog 50 #[.slice t q.length s] (fun G=>sl r' G t s q) (fun G v=>v=i' r):=by
 refine A' (args:=[_]) (N:=19) func50 z z z (fun F p R D=>?_)
 have y:=D
 refine sr<|sg z z<|nr<|sx0 z z<|c'<|sr<|mv z z<|yy (K' F' y z) z<|mv z z<|nx<|R' (fun (⟨o,n⟩:Int×Mem)=>[(3,i' o)]) (fun ⟨o,n⟩=>Mem.le p n/\(Za2 o).Ret r) (fun ⟨o,n⟩=>St F p n []) ?_ ?_
 .refine s' ?_
  let A:Int->Prop:=fun P=>((fun M=>match M with|o=>Za2 o:Int->Cq Int) P).wp (fun a=>a=r)
  replace hr:(Cq.loop _ _).wp A:=hr
  refine T' (Φ:=A) (fun (⟨k,g,h⟩:Int×Int×Mem)=>((k,g):Int×Int)) (fun ⟨k,g,h⟩=>[(3,i' k),(6,.slice t q.length s),(7,i' (q.length:Int)),(8,i' g)]) (fun ⟨k,g,h⟩=>Mem.le p h) (fun ⟨k,g,h⟩=>St F p h []) ⟨(-1),0,p⟩ hr (f4 z z z z) mr (wk ln) ?_
  .intro Q L O hr
   obtain⟨k,g,h⟩:=L
   have j:=O
   refine sr<|yy (V' z z) z<|nx<|c'<|E' hr z (fun J hr=>?_) (fun J hr=>?_)
   .refine l'<|a'<|c'<|s'<|sr ?_
    obtain⟨i,C,hr⟩:=hr
    refine yy (P' F' bh' (y.mono j) z z C) z ?_
    obtain⟨d,f,e,c,I,l,m⟩:=bI' (H' (X' y C) j)
    refine yy (as' _ cM' z z I) z<|O' 5 z z152 z fun S=>x' 5 z bh' z z z z z (fun u H=>Rp.one r' (G:=h) (x:=i) (cs:=((v101' i.c d f e c):List Value)++(vecG (Value.int .i64) 8 i.m)) ⟨(v101' i.c d f e c),vecG (Value.int .i64) 8 i.m,z,⟨(v99' i.c.num d f),(v99' i.c.den e c),z,⟨[.bool i.c.num.neg],[.slice d i.c.num.mag.length f],z,z,⟨_,z,l⟩⟩,⟨[.bool i.c.den.neg],[.slice e i.c.den.mag.length c],z,z,⟨_,z,m⟩⟩⟩,z⟩ u (by first|simpa using H|simpa [Value.cells] using H))<|nx<|n'<|mv z z<|yy (aL' z) z<|yy (aj' (vecG (Value.int .i64) 8 i.m).toArray 5 aT' z z (M' _ _ _) (aq' ((v101' i.c d f e c)) (vecG (Value.int .i64) 8 i.m) ([]))) z ?_
    obtain⟨B,E,hr⟩:=hr
    refine B' z z (u' E91 z) (fa' E) z (trivial)<|yy (Y0.max2 z z) z<|sg z z<|o'<|v'<|a'<|n'<|yy (I' z z) z<|mv z z<|o'<|C' ⟨if k<B then B else k,i64.wrap (g+1),h⟩ hr j (f4 z z z z) (wk ln)
   refine U'<|h'<|h'<|y'<|W' ⟨k,h⟩ ⟨j,hr⟩ (f1 z) (wk ln)
 rintro⟨o,n⟩ ⟨K,hr⟩
 refine a'<|sr<|mv z z<|sx0 z z<|k' (k0' hr z z)
theorem fS'{h m e d r}(hr:(Zfn h m).Ret r):Ctr prog 24 #[.slice e h.length d,i' m] (fun G=>sl r' G e d h) (fun G v=>v = .bool r):=by
 refine A' (args:=[_,_]) (N:=20) func24 z z z (fun t s q i=>?_)
 have c:=i
 refine sr<|sg z z<|nr<|mv z z ?_
 obtain⟨k,j,hr⟩:=hr
 refine B' z z (u' E48 z) (eO' j) z (c) ?_
 cases k
 .refine mv z z<|sn6 z<|yy (p' z z) z<|mv z z<|sn3 z<|yy (p' z z) z<|sx0 z z<|k' (k0' hr z z)
 refine mv z z<|gy z z (f' z) z ?_
 obtain⟨o,f,hr⟩:=hr
 refine B' (D' z z) z (u' E49 z) (ei' f) z (c)<|gy z z (az' bm' aO' z) z<|gy z z (f' z) z ?_
 obtain⟨l,hr⟩:=hr
 refine gy z z (Y0.shr z z l) z<|ao' hr (D' z z) (au' z z) z (fun n hr=>?_) (fun n hr=>?_)
 .refine yy (t' z z) z<|mv z z<|gy z z (f' z) z ?_
  obtain⟨p,g,hr⟩:=hr
  refine B' (D' z z) z (u' E50 z) (dS' g) z (c)<|gy z z (cb' z z) z<|yy (t' z z) z<|sx0 z z<|k' (k0' hr z z)
 refine yy (t' z z) z<|mv z z<|sn3 z<|yy (p' z z) z<|sx0 z z<|k' (k0' hr z z)
theorem cH'{c m l i j g f r}(hr:(Zas c).Ret r):Ctr prog 9 #[.agg ((v31' c m l i j g f)).toArray] (fun G=>y31' G m l i j g f c) (fun G v=>v = .bool r):=by
 refine A' (args:=[_]) (N:=108) func9 z z z (fun w0 T aW aO=>?_)
 obtain⟨p,ab,Y⟩:=aO
 refine sr<|Y' 1 z z z fun H=>sx0 z z<|aP' (fun (o:Mem)=>match o with|I=>[(1,pt0 H)]) (fun (o:Mem)=>match o with|I=>Mem.le T I/\(ZeS c).Ret r) (fun (o:Mem)=>match o with|I=>St w0 T I [(1,bk0 H (v31' c m l i j g f) 31)]) ?_ ?_
 .refine sr<|yy (aH' z) z<|yy (g' 1 bF' z z z) z<|yy (K' J' p z) z<|ao' hr z (aZ' z z) z (fun bc hr=>?_) (fun bc hr=>?_)
  .refine mv z z<|sn3 z<|yy (t' z z) z<|mv z z<|sn3 z<|yy (t' z z) z<|nx<|av' z<|sr<|sx0 z z<|k'<|b' (k0' hr z z)
  refine mv z z<|gy z z (bt' z) z<|gy z z (g' 1 sc3 z z z) z<|ao' hr (D' z z) (V' z z) z (fun a6 hr=>?_) (fun a6 hr=>?_)
  .refine yy (p' z z) z<|mv z z<|sn3 z<|yy (t' z z) z<|nx<|av' z<|sr<|sx0 z z<|k'<|b' (k0' hr z z)
  refine yy (p' z z) z<|mv z z<|gy z z (bt' z) z<|gy z z (g' 1 sc3 z z z) z<|gy z z (aZ' z z) z<|yy (p' z z) z<|nx<|E' hr z (fun a1 hr=>?_) (fun a1 hr=>?_)
  .refine sr<|sx0 z z<|k'<|b' (k0' hr z z)
  refine l'<|al' T ⟨mr,hr⟩ (f1 z) (w1 z)
 rintro I ⟨C,hr⟩
 refine sr<|dq' (ky:=ky9) (Rv:=RvS Rp.bool I) 4025 z z fun aB av aE=>sx0 z z<|c'<|sr<|yy (aH' z) z<|yy (g' 1 bF' z z z) z<|yy (K' J' (p.mono C) z) z<|mv z z<|nx<|R' (fun (o:Mem)=>match o with|V=>[(1,pt0 H)]) (fun (o:Mem)=>match o with|V=>Mem.le I V/\(Zbx c).Ret r) (fun (o:Mem)=>match o with|V=>St w0 T V [(1,bk0 H (v31' c m l i j g f) 31)]) ?_ ?_
 .refine s' ?_
  let ao:(Bool⊕Unit)->Prop:=fun oo=>((fun ov=>match ov with | .inl rv3=>Cq.ret rv3 | .inr ()=>Zbx c:(Bool⊕Unit)->Cq Bool) oo).wp (fun a=>a=r)
  replace hr:(Cq.loop _ _).wp ao:=hr
  refine T' (Φ:=ao) (fun (⟨t,P,B,E⟩:Int×(List (ByteArray×Bool))×Option Ow×Mem)=>((t,P):Int×(List (ByteArray×Bool)))) (fun ⟨t,P,B,E⟩=>[(1,pt0 H),(27,.slice m c.vars.length l),(28,i' (c.vars.length:Int)),(29,i' t),(3,.map (some aB))]) (fun ⟨t,P,B,E⟩=>Mem.le I E/\MapR ky9 (RvS Rp.bool E) (.map (some aB)) P B) (fun ⟨t,P,B,E⟩=>St w0 T E [(1,bk0 H (v31' c m l i j g f) 31),(4025,B)]) ⟨0,[],av,I⟩ hr (f5 z z z z z) ⟨mr,aE⟩ (w2 z z) ?_
  .intro bj o hx hr
   obtain⟨t,P,B,E⟩:=o
   obtain⟨L,an⟩:=hx
   refine sr<|yy (V' z z) z<|nx<|c'<|E' hr z (fun a3 hr=>?_) (fun a3 hr=>?_)
   .refine l'<|a'<|c'<|s'<|sr ?_
    obtain⟨x4,ay,hr⟩:=hr
    refine yy (P' J' sz9 (p.mono (mx C L)) z z ay) z<|yy (ae' sc9 z (bT' (H' (X' p ay) (mx C L)))) z<|sx0 z z<|c'<|sr<|mv z z ?_
    obtain⟨aY,aJ,hr⟩:=hr
    refine B' z z (u' E23 z) (ft' aJ) z (trivial) ?_
    cases aY
    .refine yy (an' z) z<|mv z z<|sn3 z<|yy (t' z z) z<|nx<|av' z<|sr<|sx0 z z<|k'<|b'<|w'<|b'<|b'<|w'<|ap'<|b' (k0' hr z z)
    refine yy (an' z) z<|mv z z<|gy z z (f' z) z<|gy z z (f' z) z ?_
    obtain⟨a8,hr⟩:=hr
    refine gy z z (Y0.mapGet1 (mk:=Value.bool) (k:=x4) 4025 false (fun h=>Zl5 h) dv' zv4 an z z z a8) z<|yy (p' z z) z<|nx<|ay' hr z (fun aU hr=>?_) (fun aU hr=>?_)
    .refine sr<|sx0 z z<|k'<|b'<|w'<|b'<|b'<|w'<|ap'<|b' (k0' hr z z)
    refine l'<|a'<|n'<|mv z z<|mv z z ?_
    obtain⟨⟨bd,aG⟩,hr⟩:=hr
    refine dF' (Rv':=RvS Rp.bool E) (k:=x4) (z:=true) 4025 z dv' an z z z z bd z (fun _ _ _ _ h=>h) aG fun bb aI=>o'<|v'<|a'<|n'<|yy (I' z z) z<|mv z z<|o'<|C' ⟨i64.wrap (t+1),(mput P x4 true),bb,E⟩ hr ⟨L,aI⟩ (f5 z z z z z) (w2 z z)
   refine U'<|h'<|h'<|y'<|W' E ⟨L,hr⟩ (f1 z) (w1 z)
 rintro V ⟨W,hr⟩
 refine a'<|sr<|dq' (ky:=ky3) (Rv:=RvS Rp.bool V) 4044 z z fun O aw aQ=>sx0 z z<|c'<|sr<|yy (aF' z) z<|yy (g' 1 bc' z z z) z<|yy (aG' z) z<|yy (g' 1 bc' z z z) z<|aD' (e:=29) (r:=(Rp.sl e')) (vs:=#[(0,.slice i c.eqs.length j),(1,.slice g c.neqs.length f)]) (cs:=[.slice i c.eqs.length j]++([.slice g c.neqs.length f]++([]))) ([c.eqs,c.neqs]:List (List Zc)) z z z z z (by decide) (fun _=>by kernel_rfl) ⟨[.slice i c.eqs.length j],[.slice g c.neqs.length f]++([]),z,⟨_,z,(ab.mono (mx C W))⟩,⟨[.slice g c.neqs.length f],[],z,⟨_,z,(Y.mono (mx C W))⟩,z⟩⟩ (key:=999) z (by rw[aW]; rfl) fun p1 am af ak=>yy (K' underlying70 ak z) z<|mv z z<|nx<|R' (fun (o:Mem)=>match o with|Z=>[]) (fun (o:Mem)=>match o with|Z=>Mem.le am Z/\(Zc1).Ret r) (fun (o:Mem)=>match o with|Z=>St w0 T Z []) ?_ ?_
 .refine s' ?_
  let X:(Bool⊕Unit)->Prop:=fun oo=>((fun ov=>match ov with | .inl rv1=>Cq.ret rv1 | .inr ()=>Zc1:(Bool⊕Unit)->Cq Bool) oo).wp (fun a=>a=r)
  replace hr:(Cq.loop _ _).wp X:=hr
  refine T' (Φ:=X) (fun (⟨n,S,u,y⟩:Int×(List (Int×Bool))×Option Ow×Mem)=>((n,S):Int×(List (Int×Bool)))) (fun ⟨n,S,u,y⟩=>[(1,pt0 H),(49,.slice p1 2 2),(50,i' ([c.eqs,c.neqs].length:Int)),(51,i' n),(6,.map (some O))]) (fun ⟨n,S,u,y⟩=>Mem.le am y/\MapR ky3 (RvS Rp.bool y) (.map (some O)) S u) (fun ⟨n,S,u,y⟩=>St w0 T y [(1,bk0 H (v31' c m l i j g f) 31),(4044,u)]) ⟨0,[],aw,am⟩ hr (f5 z z z z z) ⟨mr,(dG' aQ af)⟩ (w2 z z) ?_
  .intro az o hx hr
   obtain⟨n,S,u,y⟩:=o
   obtain⟨J,aL⟩:=hx
   refine sr<|yy (V' z z) z<|nx<|c'<|E' hr z (fun bh hr=>?_) (fun bh hr=>?_)
   .refine l'<|a'<|c'<|s'<|sr ?_
    obtain⟨x1,aC,hr⟩:=hr
    refine yy (P' underlying70 sz29 (ak.mono J) z z aC) z ?_
    obtain⟨p2,ae,a7,U⟩:=dg' (H' (X' ak aC) J)
    refine yy (ae' bc' z (a7)) z<|sx0 z z<|c'<|sr<|mv z z<|yy (K' N' U z) z<|yy (aZ' z z) z<|nx<|E' hr z (fun a0 hr=>?_) (fun a0 hr=>?_)
    .refine sr<|sx0 z z<|k'<|b'<|w'<|b'<|b'<|w'<|ap'<|b' (k0' hr z z)
    refine l'<|a'<|sr<|mv z z<|yy (K' N' U z) z<|mv z z<|nx<|R' (fun (⟨K,D,Q⟩:(List (Int×Bool))×Option Ow×Mem)=>[(1,pt0 H),(49,.slice p1 2 2),(50,i' ([c.eqs,c.neqs].length:Int)),(51,i' n),(6,.map (some O))]) (fun ⟨K,D,Q⟩=>Mem.le y Q/\MapR ky3 (RvS Rp.bool Q) (.map (some O)) K D/\(Zc2 n K).wp (Out az X)) (fun ⟨K,D,Q⟩=>St w0 T Q [(1,bk0 H (v31' c m l i j g f) 31),(4044,D)]) ?_ ?_
    .refine s' ?_
     let ad:(Bool⊕((List (Int×Bool))))->Prop:=fun oo=>((fun ov=>match ov with | .inl rv2=>Cq.ret (.inr (.inl rv2)) | .inr K=>Zc2 n K:(Bool⊕((List (Int×Bool))))->Cq ((Int×(List (Int×Bool)))⊕(Bool⊕Unit))) oo).wp (Out az X)
     replace hr:(Cq.loop _ _).wp ad:=hr
     refine T' (Φ:=ad) (fun (⟨q,F,s,A⟩:Int×(List (Int×Bool))×Option Ow×Mem)=>((q,F):Int×(List (Int×Bool)))) (fun ⟨q,F,s,A⟩=>[(1,pt0 H),(8,.slice p2 x1.length ae),(49,.slice p1 2 2),(50,i' ([c.eqs,c.neqs].length:Int)),(51,i' n),(58,.slice p2 x1.length ae),(59,i' (x1.length:Int)),(60,i' q),(6,.map (some O))]) (fun ⟨q,F,s,A⟩=>Mem.le y A/\MapR ky3 (RvS Rp.bool A) (.map (some O)) F s) (fun ⟨q,F,s,A⟩=>St w0 T A [(1,bk0 H (v31' c m l i j g f) 31),(4044,s)]) ⟨0,S,u,y⟩ hr (f9 z z z z z z z z z) ⟨mr,aL⟩ (w2 z z) ?_
     .intro aT o hx hr
      obtain⟨q,F,s,A⟩:=o
      obtain⟨x,ac⟩:=hx
      refine sr<|yy (V' z z) z<|nx<|c'<|E' hr z (fun a5 hr=>?_) (fun a5 hr=>?_)
      .refine l'<|a'<|c'<|s'<|sr<|mv z z ?_
       obtain⟨x2,ax,hr⟩:=hr
       refine yy (P' N' bK' (U.mono x) z z ax) z ?_
       obtain⟨aK,aM,aV,aP⟩:=bN' (H' (X' U ax) x)
       refine yy (as' _ ag57 z z aV) z<|O' 10 z z57 z fun b2=>sg z z<|x' 10 z bK' z z z z z (List.all_eq_true.1 z)<|nx<|aP' (fun (o:Mem)=>match o with|R=>[(1,pt0 H),(8,.slice p2 x1.length ae),(10,pt0 b2),(49,.slice p1 2 2),(50,i' ([c.eqs,c.neqs].length:Int)),(51,i' n),(58,.slice p2 x1.length ae),(59,i' (x1.length:Int)),(60,i' q),(6,.map (some O))]) (fun (o:Mem)=>match o with|R=>Mem.le A R/\(Zbw c q F x2).wp (Out aT ad)) (fun (o:Mem)=>match o with|R=>St w0 T R [(1,bk0 H (v31' c m l i j g f) 31),(10,bk0 b2 (v57' x2.id aK x2.p aM) 57),(4044,s)]) ?_ ?_
       .refine c'<|ad' [ff,ff,ff,ff,ff,ff,ff,ff,ff,ff,ff,ff,ff,ff,ff,ff,ff,ff,ff,ff,ff,ff,ff,ff,ff,ff,ff,ff] mix (by kernel_rfl) fun hb=>cn (fun _ d=>bl' z)<|cn (fun _ d=>g' 10 sc3 z z z)<|bX' hr z (fun _ d=>V' z z) (fun bg hr=>?_) (fun bg hr=>?_)
        .refine cn (fun _ d=>f' z)<|cf z z<|cf z z<|cf z z<|cf z z<|cf z z<|cn (fun _ d=>t' z z)<|cn (fun _ d=>f' z)<|cf z z<|cf z z<|cf z z<|cf z z<|cn (fun _ d=>t' z z)<|cn (fun _ d=>f' z)<|cf z z<|cf z z<|cf z z<|cs z z<|cs z z<|cs z z<|cs z z<|cs z z<|cs z z<|cs z z<|cs z z<|af' hb<|ar' (aa' z z) z<|sf z z z<|yy (t' z z) z<|o'<|am'<|a'<|av' z<|sr<|sx0 z z<|k'<|b'<|w'<|b'<|b'<|w'<|ap'<|w'<|b'<|b'<|w'<|ap'<|b' (k0' hr z z)
        refine cn (fun _ d=>f' z)<|cy z z (fun _ d=>bl' z)<|cy z z (fun _ d=>g' 10 sc3 z z z)<|cy z z (fun _ d=>bt' z)<|cy z z (fun _ d=>g' 1 sc3 z z z)<|bX' hr (D' z z) (fun _ d=>aV' z z) (fun a2 hr=>?_) (fun a2 hr=>?_)
        .refine cn (fun _ d=>p' z z)<|cn (fun _ d=>f' z)<|cf z z<|cf z z<|cf z z<|cf z z<|cn (fun _ d=>t' z z)<|cn (fun _ d=>f' z)<|cf z z<|cf z z<|cf z z<|cs z z<|cs z z<|cs z z<|cs z z<|cs z z<|cs z z<|cs z z<|cs z z<|af' hb<|ar' (aa' z z) z<|sf z z z<|yy (t' z z) z<|o'<|am'<|a'<|av' z<|sr<|sx0 z z<|k'<|b'<|w'<|b'<|b'<|w'<|ap'<|w'<|b'<|b'<|w'<|ap'<|b' (k0' hr z z)
        refine cn (fun _ d=>p' z z)<|cn (fun _ d=>f' z)<|cy z z (fun _ d=>f' z)<|cy z z (fun _ d=>bl' z)<|cy z z (fun _ d=>g' 10 sc3 z z z) ?_
        obtain⟨aX,hr⟩:=hr
        refine bX' hr (D' z z) (fun _ d=>cp' (Y0.mapGet1 (mk:=Value.bool) (k:=x2.id) 4044 false (fun h=>Zl5 h) underlying69 zv4 (dG' ac d) z z z aX) (congrArg Value.bool (bdec _))) (fun a4 hr=>?_) (fun a4 hr=>?_)
        .refine cn (fun _ d=>p' z z)<|cn (fun _ d=>f' z)<|cf z z<|cf z z<|cf z z<|cs z z<|cs z z<|cs z z<|cs z z<|cs z z<|cs z z<|cs z z<|cs z z<|af' hb<|ar' (aa' z z) z<|sf z z z<|yy (t' z z) z<|o'<|am'<|a'<|av' z<|sr<|sx0 z z<|k'<|b'<|w'<|b'<|b'<|w'<|ap'<|w'<|b'<|b'<|w'<|ap'<|b' (k0' hr z z)
        refine cn (fun _ d=>p' z z)<|cn (fun _ d=>f' z)<|cy z z (fun _ d=>f' z)<|bX' hr (D' z z) (fun _ d=>aZ' z z) (fun bf hr=>?_) (fun bf hr=>?_)
        .refine cy z z (fun _ d=>f' z)<|cy z z (fun _ d=>bl' z)<|cy z z (fun _ d=>g' 10 sc3 z z z)<|cy z z (fun _ d=>f' z)<|cy z z (fun _ d=>f' z)<|cy z z (fun _ d=>be' z z) ?_
         obtain⟨x3,aA,hr⟩:=hr
         refine cy z z (fun _ d=>P' N' bK' ((U.mono x).mono d) z z aA)<|cy z z (fun _ d=>bl' z)<|cy z z (fun _ d=>ae' sc3 z (aA' (H' (H' (bS' (aS' (X' U aA))) x) d)))<|af' hb<|gy z z (cb' z z) z<|gy z z (t' z z) z<|yy (p' z z) z<|o'<|am'<|a'<|E' hr z (fun ba hr=>?_) (fun ba hr=>?_)
         .refine sr<|sx0 z z<|k'<|b'<|w'<|b'<|b'<|w'<|ap'<|w'<|b'<|b'<|w'<|ap'<|b' (k0' hr z z)
         refine l'<|al' A ⟨mr,hr⟩ (f10 z z z z z z z z z z) (w3 z z z)
        refine cy z z (fun _ d=>f' z)<|ct z z<|ct z z<|ct z z<|ct z z<|ct z z<|ct z z<|ct z z<|ct z z<|af' hb<|sk z z z<|gy z z (p' z z) z<|yy (p' z z) z<|o'<|am'<|a'<|aK' z<|l'<|al' A ⟨mr,hr⟩ (f10 z z z z z z z z z z) (w3 z z z)
       rintro R ⟨M,hr⟩
       refine sr<|mv z z<|yy (bl' z) z<|yy (g' 10 sc3 z z z) z ?_
       obtain⟨⟨a9,aR⟩,hr⟩:=hr
       refine dF' (Rv':=RvS Rp.bool R) (k:=x2.id) (z:=true) 4044 z underlying69 (dG' ac M) z z z z a9 z (fun _ _ _ _ h=>h) aR fun aS aN=>nr<|yy (ck' z) z<|yy (g' 10 sc44 z z z) z<|yy (aH' z) z<|yy (g' 1 bF' z z z) z<|yy (K' J' (p.mono (mx (mx (mx (mx (mx C W) af) J) x) M)) z) z ?_
       obtain⟨bk,aH,hr⟩:=hr
       refine B' z z (u' E24 z) (fS' aH) z ((aP.mono M))<|yy (an' z) z<|nx<|ay' hr z (fun aZ hr=>?_) (fun aZ hr=>?_)
       .refine sr<|sx0 z z<|k'<|w'<|b'<|b'<|w'<|ap'<|w'<|b'<|b'<|w'<|ap'<|b' (k0' hr z z)
       refine l'<|v'<|a'<|n'<|yy (I' z z) z<|mv z z<|o'<|C' ⟨i64.wrap (q+1),(mput F x2.id true),aS,R⟩ hr ⟨(mx x M),aN⟩ (f9 z z z z z z z z z) (w2 z z)
      refine U'<|h'<|h'<|y'<|W' ⟨F,s,A⟩ ⟨x,ac,hr⟩ (f5 z z z z z) (w2 z z)
    rintro⟨K,D,Q⟩ ⟨ar,aD,hr⟩
    refine v'<|a'<|n'<|yy (I' z z) z<|mv z z<|o'<|C' ⟨i64.wrap (n+1),K,D,Q⟩ hr ⟨(mx J ar),aD⟩ (f5 z z z z z) (w2 z z)
   refine U'<|h'<|h'<|y'<|W' y ⟨J,hr⟩ fn (wk ln)
 rintro Z ⟨bi,hr⟩
 refine a'<|sr<|sx0 z z<|k' (k0' hr z z)
theorem fT'{o k h f g e r}(hr:(Zh3 o k).Ret r):Ctr prog 141 #[.agg ((v99' o h f)).toArray,.agg ((v99' k g e)).toArray] (fun G=>sl (Rp.int .u32) G h f o.mag/\sl (Rp.int .u32) G g e k.mag) (fun G v=>v=i' r):=by
 refine A' (args:=[_,_]) (N:=29) func141 z z z (fun F E B n=>?_)
 obtain⟨c,d⟩:=n
 refine sr<|Y' 2 z z z fun H=>Y' 3 z z z fun D=>sx0 z z<|c'<|ad' [ff,ff,ff] mix (by kernel_rfl) fun t=>cn (fun _ i=>m' 2 aJ' z z z) ?_
 obtain⟨y,p,hr⟩:=hr
 refine cm' z (fun _=>u' E138 z) (do' p) z (fun C i=>(c.mono i))<|cn (fun _ i=>m' 3 aJ' z z z)<|af' t ?_
 obtain⟨u,j,hr⟩:=hr
 refine B' z z (u' E138 z) (do' j) z (d)<|sg z z<|sg z z<|o'<|am'<|a'<|c'<|sr<|mv z z<|mv z z<|yy (bj' z z) z<|nx<|E' hr z (fun s hr=>?_) (fun s hr=>?_)
 .exact (show False from hr).elim
 refine l'<|a'<|c'<|sr<|mv z z<|yy (V' z z) z<|nx<|E' hr z (fun q hr=>?_) (fun q hr=>?_)
 .refine sr<|yy (ax' z) z<|yy (g' 3 bs' z z z) z<|yy (ax' z) z<|yy (g' 2 bs' z z z) z ?_
  obtain⟨A,m,hr⟩:=hr
  refine B' z z (u' E171 z) (du' m) z (⟨d,c⟩)<|sx0 z z<|k'<|b' (k0' hr z z)
 refine l'<|a'<|sr<|yy (ax' z) z<|yy (g' 2 bs' z z z) z<|yy (ax' z) z<|yy (g' 3 bs' z z z) z ?_
 obtain⟨x,l,hr⟩:=hr
 refine B' z z (u' E171 z) (du' l) z (⟨c,d⟩)<|sx0 z z<|k' (k0' hr z z)
theorem fC'{q p m l j i n k c g r}(hr:(ZbQ q p).Ret r):Ctr prog 94 #[.agg ((v101' q m l j i)).toArray,.agg ((v101' p n k c g)).toArray] (fun G=>sl (Rp.int .u32) G m l q.num.mag/\sl (Rp.int .u32) G j i q.den.mag/\sl (Rp.int .u32) G n k p.num.mag/\sl (Rp.int .u32) G c g p.den.mag) (fun G v=>v=i' r):=by
 refine A' (args:=[_,_]) (N:=30) func94 z z z (fun w0 G0 aq Y=>?_)
 obtain⟨A,t,x,y⟩:=Y
 refine sr<|Y' 2 z z z fun b2=>Y' 3 z z z fun b3=>sx0 z z<|c'<|c'<|ad' [ff,ff,ff] mix (by kernel_rfl) fun hb=>cn (fun _ o=>m' 2 bg' z z z) ?_
 obtain⟨am,Z,hr⟩:=hr
 refine cm' z (fun _=>u' E87 z) (cL' Z) z (fun L o=>⟨(A.mono o),(t.mono o)⟩)<|cn (fun _ o=>m' 3 bg' z z z)<|af' hb ?_
 obtain⟨al,S,hr⟩:=hr
 refine B' z z (u' E87 z) (cL' S) z (⟨x,y⟩)<|sg z z<|sg z z<|o'<|am'<|a'<|sr<|mv z z<|mv z z<|yy (bj' z z) z<|nx<|E' hr z (fun ad hr=>?_) (fun ad hr=>?_)
 .refine c'<|sr<|mv z z<|mv z z<|yy (V' z z) z<|nx<|E' hr z (fun ae hr=>?_) (fun ae hr=>?_)
  .refine sr<|sx0 z z<|k'<|b'<|b' (k0' hr z z)
  refine l'<|a'<|sr<|sx0 z z<|k'<|b' (k0' hr z z)
 refine l'<|a'<|c'<|ad' [ff,ff,ff,ff,ff,ff,ff,ff,ff,ff,ff] mix (by kernel_rfl) fun hb=>cn (fun _ o=>bw' z)<|cn (fun _ o=>aj' ((v99' q.num m l)).toArray 2 aJ' z z z (aq' ([]) ((v99' q.num m l)) ((v99' q.den j i))))<|cn (fun _ o=>bk' z)<|cn (fun _ o=>aj' ((v99' p.den c g)).toArray 3 aJ' z z z (aq' ((v99' p.num n k)) ((v99' p.den c g)) ([])))<|ch' (r:=bH') (e:=99) ([q.num,p.den]:List Zj) (fun _=>z) z (by decide) (fun u L o X=>?_) ?_
 .exact⟨#[(0,.agg ((v99' q.num m l)).toArray),(1,.agg ((v99' p.den c g)).toArray)],(v99' q.num m l)++((v99' p.den c g)++([])),z,z,fun _=>by kernel_rfl,⟨(v99' q.num m l),(v99' p.den c g)++([]),z,⟨[.bool q.num.neg],[.slice m q.num.mag.length l],z,z,⟨_,z,(A.mono o)⟩⟩,⟨(v99' p.den c g),[],z,⟨[.bool p.den.neg],[.slice c p.den.mag.length g],z,z,⟨_,z,(y.mono o)⟩⟩,z⟩⟩⟩
 obtain⟨P,U,hr⟩:=hr
 refine bz' (f:=120) (φ:=w99' P) (fun _=>z) (fun v G1 G2 o h=>?_) (fun u L o X=>?_) ?_
 .obtain⟨E,K,rfl,s⟩:=h
  exact⟨_,_,z,s.mono o⟩
 .obtain⟨⟨C,B,O,R⟩,_⟩:=(show (fun G v=>∃ C B,v = .slice C 2 2/\SlRd bH' G (.slice C 2 2) B [q.num,p.den]) L.m (u 21)/\True from X)
  exact⟨_,_,_,fun _=>u' E120 z,bW' U,(by simp only[O] <;> rfl),R⟩
 refine cu (fun _ _ o=>bw' z)<|cu (fun _ _ o=>aj' ((v99' p.num n k)).toArray 3 aJ' z z z (aq' ([]) ((v99' p.num n k)) ((v99' p.den c g))))<|cu (fun _ _ o=>bk' z)<|cu (fun _ _ o=>aj' ((v99' q.den j i)).toArray 2 aJ' z z z (aq' ((v99' q.num m l)) ((v99' q.den j i)) ([])))<|ch' (r:=bH') (e:=99) ([p.num,q.den]:List Zj) (fun _=>z) z (by decide) (fun u L o X=>?_) ?_
 .exact⟨#[(0,.agg ((v99' p.num n k)).toArray),(1,.agg ((v99' q.den j i)).toArray)],(v99' p.num n k)++((v99' q.den j i)++([])),z,z,fun _=>by kernel_rfl,⟨(v99' p.num n k),(v99' q.den j i)++([]),z,⟨[.bool p.num.neg],[.slice n p.num.mag.length k],z,z,⟨_,z,(x.mono o)⟩⟩,⟨(v99' q.den j i),[],z,⟨[.bool q.den.neg],[.slice j q.den.mag.length i],z,z,⟨_,z,(t.mono o)⟩⟩,z⟩⟩⟩
 refine dM' (d:=27) (post:=fun G v=>∃ T Q,v = .slice T 2 2/\SlRd bH' G (.slice T 2 2) Q [p.num,q.den]) (d':=22) (post':=w99' P) (d'':=21) (post'':=fun G v=>∃ C B,v = .slice C 2 2/\SlRd bH' G (.slice C 2 2) B [q.num,p.den]) (fun aj ai ak ao ag D I H=>?_)
 obtain⟨T,Q,rfl,af⟩:=D
 obtain⟨E,K,rfl,s⟩:=I
 obtain⟨C,B,rfl,R⟩:=H
 obtain⟨an,V,hr⟩:=hr
 refine Q' z z (u' E120 z) (bW' V) z (af) (fun ah ap M J=>?_)
 obtain⟨aa,ab,rfl,F⟩:=J
 obtain⟨ar,W,hr⟩:=hr
 refine B' z z (u' E141 z) (fT' W) z (⟨(s.mono M),F⟩)<|sg z z<|o'<|am'<|a'<|k' (k0' hr z z)
theorem eF'{l k e i c d g j h f r}(hr:(ZaH l k).Ret r):Ctr prog 93 #[.agg (((v101' l.c e i c d):List Value)++(vecG (Value.int .i64) 8 l.m)).toArray,.agg (((v101' k.c g j h f):List Value)++(vecG (Value.int .i64) 8 k.m)).toArray] (fun G=>sl (Rp.int .u32) G e i l.c.num.mag/\sl (Rp.int .u32) G c d l.c.den.mag/\sl (Rp.int .u32) G g j k.c.num.mag/\sl (Rp.int .u32) G h f k.c.den.mag) (fun G v=>v = .bool r):=by
 refine A' (args:=[_,_]) (N:=18) func93 z z z (fun B A x q=>?_)
 obtain⟨p,o,m,n⟩:=q
 refine sr<|Y' 2 z z z fun y=>Y' 3 z z z fun C=>sg z z<|nr<|yy (aL' z) z<|yy (aj' (vecG (Value.int .i64) 8 l.m).toArray 2 aT' z z (M' _ _ _) (aq' ((v101' l.c e i c d)) (vecG (Value.int .i64) 8 l.m) ([]))) z<|yy (aL' z) z<|yy (aj' (vecG (Value.int .i64) 8 k.m).toArray 3 aT' z z (M' _ _ _) (aq' ((v101' k.c g j h f)) (vecG (Value.int .i64) 8 k.m) ([]))) z<|ao' hr z (Y0.eqlV ag' aO' sc3 sz3 eg110 z z) z (fun t hr=>?_) (fun t hr=>?_)
 .refine mv z z<|gy z z (bB' z) z<|gy z z (aj' ((v101' l.c e i c d)).toArray 2 bg' z z z (aq' ([]) ((v101' l.c e i c d)) ((vecG (Value.int .i64) 8 l.m)))) z<|gy z z (bB' z) z<|gy z z (aj' ((v101' k.c g j h f)).toArray 3 bg' z z z (aq' ([]) ((v101' k.c g j h f)) ((vecG (Value.int .i64) 8 k.m)))) z ?_
  obtain⟨u,s,hr⟩:=hr
  refine B' (D' z z) z (u' E94 z) (fC' s) z (⟨p,o,m,n⟩)<|gy z z (au' z z) z<|yy (t' z z) z<|sx0 z z<|k' (k0' hr z z)
 refine mv z z<|sn6 z<|yy (p' z z) z<|sx0 z z<|k' (k0' hr z z)
theorem bV'{t H B C D E r}(hr:(Zw t H).Ret r):Ctr prog 92 #[.slice B t.length C,.slice D H.length E,.func (.func 93) #[] #[]] (fun G=>sl r' G B C t/\sl r' G D E H) (fun G v=>v = .bool r):=by
 refine A' (args:=[_,_,_]) (N:=32) func92 z z z (fun U K ae Q=>?_)
 obtain⟨s,F⟩:=Q
 refine sr<|sx0 z z<|c'<|sr<|mv z z<|yy (K' F' s z) z<|mv z z<|yy (K' F' F z) z<|yy (bj' z z) z<|nx<|E' hr z (fun X hr=>?_) (fun X hr=>?_)
 .refine sr<|sx0 z z<|k'<|b' (k0' hr z z)
 refine l'<|a'<|c'<|sr<|mv z z<|yy (K' F' s z) z<|mv z z<|nx<|R' (fun (J:Mem)=>match J with|I=>[]) (fun (J:Mem)=>match J with|I=>Mem.le K I/\(Zu).Ret r) (fun (J:Mem)=>match J with|I=>St U K I []) ?_ ?_
 .refine s' ?_
  let M:(Bool⊕Unit)->Prop:=fun oo=>((fun ov=>match ov with | .inl rv1=>Cq.ret rv1 | .inr ()=>Zu:(Bool⊕Unit)->Cq Bool) oo).wp (fun a=>a=r)
  replace hr:(Cq.loop _ _).wp M:=hr
  refine T' (Φ:=M) (fun (⟨k,m⟩:Int×Mem)=>(k:Int)) (fun ⟨k,m⟩=>[(1,.slice D H.length E),(2,.func (.func 93) #[] #[]),(15,.slice B t.length C),(16,i' (t.length:Int)),(17,i' k)]) (fun ⟨k,m⟩=>Mem.le K m) (fun ⟨k,m⟩=>St U K m []) ⟨0,K⟩ hr (f5 z z z z z) mr (wk ln) ?_
  .intro ad J Z hr
   obtain⟨k,m⟩:=J
   have l:=Z
   refine sr<|yy (V' z z) z<|nx<|c'<|E' hr z (fun T hr=>?_) (fun T hr=>?_)
   .refine l'<|a'<|c'<|s'<|sr<|mv z z ?_
    obtain⟨A,P,hr⟩:=hr
    refine yy (P' F' bh' (s.mono l) z z P) z ?_
    obtain⟨g,j,i,e,V,o,p⟩:=bI' (H' (X' s P) l)
    refine yy (as' _ cM' z z V) z<|O' 8 z z152 z fun b1=>sg z z<|x' 8 z bh' z z z z z (fun u L=>Rp.one r' (G:=m) (x:=A) (cs:=((v101' A.c g j i e):List Value)++(vecG (Value.int .i64) 8 A.m)) ⟨(v101' A.c g j i e),vecG (Value.int .i64) 8 A.m,z,⟨(v99' A.c.num g j),(v99' A.c.den i e),z,⟨[.bool A.c.num.neg],[.slice g A.c.num.mag.length j],z,z,⟨_,z,o⟩⟩,⟨[.bool A.c.den.neg],[.slice i A.c.den.mag.length e],z,z,⟨_,z,p⟩⟩⟩,z⟩ u (by first|simpa using L|simpa [Value.cells] using L))<|nr<|mv z z<|mv z z ?_
    obtain⟨y,O,hr⟩:=hr
    refine yy (P' F' bh' (F.mono l) z z O) z ?_
    obtain⟨f,c,h,d,S,q,n⟩:=bI' (H' (X' F O) l)
    refine yy (as' _ cM' z z S) z<|O' 9 z z152 z fun b2=>x' 9 z bh' z z z z z (fun u L=>Rp.one r' (G:=m) (x:=y) (cs:=((v101' y.c f c h d):List Value)++(vecG (Value.int .i64) 8 y.m)) ⟨(v101' y.c f c h d),vecG (Value.int .i64) 8 y.m,z,⟨(v99' y.c.num f c),(v99' y.c.den h d),z,⟨[.bool y.c.num.neg],[.slice f y.c.num.mag.length c],z,z,⟨_,z,q⟩⟩,⟨[.bool y.c.den.neg],[.slice h y.c.den.mag.length d],z,z,⟨_,z,n⟩⟩⟩,z⟩ u (by first|simpa using L|simpa [Value.cells] using L))<|nr<|mv z z<|yy (m' 8 cM' z z z) z<|yy (m' 9 cM' z z z) z ?_
    obtain⟨ac,R,hr⟩:=hr
    refine B' z z (YC.ofV E93 z z) (eF' R) z (⟨o,p,q,n⟩)<|yy (an' z) z<|nx<|ay' hr z (fun W hr=>?_) (fun W hr=>?_)
    .refine sr<|sx0 z z<|k'<|w'<|b'<|b'<|w'<|ap'<|b' (k0' hr z z)
    refine l'<|v'<|a'<|n'<|yy (I' z z) z<|mv z z<|o'<|C' ⟨i64.wrap (k+1),m⟩ hr l (f5 z z z z z) (wk ln)
   refine U'<|h'<|h'<|y'<|W' m ⟨l,hr⟩ fn (wk ln)
 rintro I ⟨Y,hr⟩
 refine a'<|sr<|sx0 z z<|k' (k0' hr z z)
theorem ej'{g i e d c f r}(hr:(ZaG g i).Ret r):Ctr prog 52 #[.slice e g.length d,.slice c i.length f] (fun G=>sl r' G e d g/\sl r' G c f i) (fun G v=>v = .bool r):=by
 refine A' (args:=[_,_]) (N:=8) func52 z z z (fun o p n j=>?_)
 obtain⟨l,k⟩:=j
 refine sr<|sg z z<|nr<|mv z z<|mv z z ?_
 obtain⟨m,h,hr⟩:=hr
 refine B' z z (u' E92 z) (bV' h) z (⟨l,k⟩)<|sx0 z z<|k' (k0' hr z z)
theorem fl'{h g e d c f r}(hr:(Zb3 h g).Ret r):Ctr prog 51 #[.agg ((v57' h.id e h.p d)).toArray,.agg ((v57' g.id c g.p f)).toArray] (fun G=>sl r' G e d h.p/\sl r' G c f g.p) (fun G v=>v = .bool r):=by
 refine A' (args:=[_,_]) (N:=17) func51 z z z (fun s q o j=>?_)
 obtain⟨i,k⟩:=j
 refine sr<|Y' 2 z z z fun p=>Y' 3 z z z fun t=>sg z z<|nr<|yy (bl' z) z<|yy (g' 2 sc3 z z z) z<|yy (bl' z) z<|yy (g' 3 sc3 z z z) z<|ao' hr z (au' z z) z (fun m hr=>?_) (fun m hr=>?_)
 .refine mv z z<|gy z z (ck' z) z<|gy z z (g' 2 sc44 z z z) z<|gy z z (ck' z) z<|gy z z (g' 3 sc44 z z z) z ?_
  obtain⟨n,l,hr⟩:=hr
  refine B' (D' z z) z (u' E52 z) (ej' l) z (⟨i,k⟩)<|yy (t' z z) z<|sx0 z z<|k' (k0' hr z z)
 refine mv z z<|sn5 z<|yy (p' z z) z<|sx0 z z<|k' (k0' hr z z)
theorem cQ'{h n i j k l r}(hr:(ZM h n).Ret r):Ctr prog 53 #[.slice i h.length j,.slice k n.length l] (fun G=>sl Rp.str G i j h/\sl Rp.str G k l n) (fun G v=>v = .bool r):=by
 refine A' (args:=[_,_]) (N:=26) func53 z z z (fun A q K x=>?_)
 obtain⟨g,m⟩:=x
 refine sr<|sx0 z z<|c'<|sr<|mv z z<|yy (K' J' g z) z<|mv z z<|yy (K' J' m z) z<|yy (bj' z z) z<|nx<|E' hr z (fun C hr=>?_) (fun C hr=>?_)
 .refine sr<|sx0 z z<|k'<|b' (k0' hr z z)
 refine l'<|a'<|c'<|sr<|mv z z<|yy (K' J' g z) z<|mv z z<|nx<|R' (fun (p:Mem)=>match p with|o=>[]) (fun (p:Mem)=>match p with|o=>Mem.le q o/\(Z8).Ret r) (fun (p:Mem)=>match p with|o=>St A q o []) ?_ ?_
 .refine s' ?_
  let s:(Bool⊕Unit)->Prop:=fun H=>((fun F=>match F with | .inl rv1=>Cq.ret rv1 | .inr ()=>Z8:(Bool⊕Unit)->Cq Bool) H).wp (fun a=>a=r)
  replace hr:(Cq.loop _ _).wp s:=hr
  refine T' (Φ:=s) (fun (⟨c,f⟩:Int×Mem)=>(c:Int)) (fun ⟨c,f⟩=>[(0,.slice i h.length j),(1,.slice k n.length l),(12,i' (h.length:Int)),(13,i' c)]) (fun ⟨c,f⟩=>Mem.le q f) (fun ⟨c,f⟩=>St A q f []) ⟨0,q⟩ hr (f4 z z z z) mr (wk ln) ?_
  .intro J p I hr
   obtain⟨c,f⟩:=p
   have e:=I
   refine sr<|yy (V' z z) z<|nx<|c'<|E' hr z (fun y hr=>?_) (fun y hr=>?_)
   .refine l'<|a'<|c'<|s'<|sr<|mv z z<|sx0 z z<|c'<|ad' [ff,ff,ff,ff,ff,ff,ff,ff] mix (by kernel_rfl) fun E=>cn (fun _ d=>f' z)<|cn (fun _ d=>f' z) ?_
    obtain⟨M,u,hr⟩:=hr
    refine cn (fun _ d=>P' J' sz9 ((g.mono e).mono d) z z u)<|cn (fun _ d=>ae' sc9 z (bT' (H' (H' (X' g u) e) d)))<|cn (fun _ d=>f' z)<|cn (fun _ d=>f' z) ?_
    obtain⟨L,t,hr⟩:=hr
    refine cn (fun _ d=>P' J' sz9 ((m.mono e).mono d) z z t)<|cn (fun _ d=>ae' sc9 z (bT' (H' (H' (X' m t) e) d)))<|af' E<|yy (Y0.neqS aI' z z) z<|o'<|am'<|a'<|E' hr z (fun B hr=>?_) (fun B hr=>?_)
    .refine sr<|sx0 z z<|k'<|w'<|b'<|b'<|w'<|ap'<|b' (k0' hr z z)
    refine l'<|v'<|a'<|n'<|yy (I' z z) z<|mv z z<|o'<|C' ⟨i64.wrap (c+1),f⟩ hr e (f4 z z z z) (wk ln)
   refine U'<|h'<|h'<|y'<|W' f ⟨e,hr⟩ fn (wk ln)
 rintro o ⟨D,hr⟩
 refine a'<|sr<|sx0 z z<|k' (k0' hr z z)
theorem bi'{g m h i j k r}(hr:(Zo g m).Ret r):Ctr prog 54 #[.slice h g.length i,.slice j m.length k,.func (.func 51) #[] #[]] (fun G=>sl e' G h i g/\sl e' G j k m) (fun G v=>v = .bool r):=by
 refine A' (args:=[_,_,_]) (N:=32) func54 z z z (fun E p T x=>?_)
 obtain⟨f,l⟩:=x
 refine sr<|sx0 z z<|c'<|sr<|mv z z<|yy (K' N' f z) z<|mv z z<|yy (K' N' l z) z<|yy (bj' z z) z<|nx<|E' hr z (fun C hr=>?_) (fun C hr=>?_)
 .refine sr<|sx0 z z<|k'<|b' (k0' hr z z)
 refine l'<|a'<|c'<|sr<|mv z z<|yy (K' N' f z) z<|mv z z<|nx<|R' (fun (o:Mem)=>match o with|n=>[]) (fun (o:Mem)=>match o with|n=>Mem.le p n/\(Zt).Ret r) (fun (o:Mem)=>match o with|n=>St E p n []) ?_ ?_
 .refine s' ?_
  let q:(Bool⊕Unit)->Prop:=fun P=>((fun M=>match M with | .inl rv1=>Cq.ret rv1 | .inr ()=>Zt:(Bool⊕Unit)->Cq Bool) P).wp (fun a=>a=r)
  replace hr:(Cq.loop _ _).wp q:=hr
  refine T' (Φ:=q) (fun (⟨c,e⟩:Int×Mem)=>(c:Int)) (fun ⟨c,e⟩=>[(1,.slice j m.length k),(2,.func (.func 51) #[] #[]),(15,.slice h g.length i),(16,i' (g.length:Int)),(17,i' c)]) (fun ⟨c,e⟩=>Mem.le p e) (fun ⟨c,e⟩=>St E p e []) ⟨0,p⟩ hr (f5 z z z z z) mr (wk ln) ?_
  .intro S o O hr
   obtain⟨c,e⟩:=o
   have d:=O
   refine sr<|yy (V' z z) z<|nx<|c'<|E' hr z (fun D hr=>?_) (fun D hr=>?_)
   .refine l'<|a'<|c'<|s'<|sr<|mv z z ?_
    obtain⟨X,t,hr⟩:=hr
    refine yy (P' N' bK' (f.mono d) z z t) z ?_
    obtain⟨K,L,F,y⟩:=bN' (H' (X' f t) d)
    refine yy (as' _ ag57 z z F) z<|O' 8 z z57 z fun U=>sg z z<|x' 8 z bK' z z z z z (List.all_eq_true.1 z)<|nr<|mv z z<|mv z z ?_
    obtain⟨W,s,hr⟩:=hr
    refine yy (P' N' bK' (l.mono d) z z s) z ?_
    obtain⟨Q,J,B,u⟩:=bN' (H' (X' l s) d)
    refine yy (as' _ ag57 z z B) z<|O' 9 z z57 z fun V=>x' 9 z bK' z z z z z (List.all_eq_true.1 z)<|nr<|mv z z<|yy (m' 8 ag57 z z z) z<|yy (m' 9 ag57 z z z) z ?_
    obtain⟨R,A,hr⟩:=hr
    refine B' z z (YC.ofV E51 z z) (fl' A) z (⟨y,u⟩)<|yy (an' z) z<|nx<|ay' hr z (fun H hr=>?_) (fun H hr=>?_)
    .refine sr<|sx0 z z<|k'<|w'<|b'<|b'<|w'<|ap'<|b' (k0' hr z z)
    refine l'<|v'<|a'<|n'<|yy (I' z z) z<|mv z z<|o'<|C' ⟨i64.wrap (c+1),e⟩ hr d (f5 z z z z z) (wk ln)
   refine U'<|h'<|h'<|y'<|W' e ⟨d,hr⟩ fn (wk ln)
 rintro n ⟨I,hr⟩
 refine a'<|sr<|sx0 z z<|k' (k0' hr z z)
theorem eg'{x t h g m k i e c j l n f d r}(hr:(Zbe x t).Ret r):Ctr prog 25 #[.agg ((v31' x h g m k i e)).toArray,.agg ((v31' t c j l n f d)).toArray] (fun G=>sl Rp.str G h g x.vars/\sl e' G m k x.eqs/\sl e' G i e x.neqs/\y31' G c j l n f d t) (fun G v=>v = .bool r):=by
 refine A' (args:=[_,_]) (N:=34) func25 z z z (fun M L J C=>?_)
 obtain⟨o,u,q,p,y,s⟩:=C
 refine sr<|Y' 2 z z z fun O=>Y' 3 z z z fun K=>sg z z<|nr<|sg z z<|nr<|yy (bt' z) z<|yy (g' 2 sc3 z z z) z<|yy (bt' z) z<|yy (g' 3 sc3 z z z) z<|ao' hr z (au' z z) z (fun H hr=>?_) (fun H hr=>?_)
 .refine mv z z<|gy z z (aH' z) z<|gy z z (g' 2 bF' z z z) z<|gy z z (aH' z) z<|gy z z (g' 3 bF' z z z) z ?_
  obtain⟨F,D,hr⟩:=hr
  refine B' (D' z z) z (u' E53 z) (cQ' D) z (⟨o,p⟩) ?_
  cases F
  .refine yy (t' z z) z<|mv z z<|sn6 z<|yy (p' z z) z<|mv z z<|sn6 z<|yy (p' z z) z<|sx0 z z<|k' (k0' hr z z)
  refine yy (t' z z) z<|mv z z<|gy z z (aF' z) z<|gy z z (g' 2 bc' z z z) z<|gy z z (aF' z) z<|gy z z (g' 3 bc' z z z) z<|gy z z (f' z) z ?_
  obtain⟨E,A,hr⟩:=hr
  refine B' (D' z z) z (u' E54 z) (bi' A) z (⟨u,y⟩) ?_
  cases E
  .refine yy (t' z z) z<|mv z z<|sn6 z<|yy (p' z z) z<|sx0 z z<|k' (k0' hr z z)
  refine yy (t' z z) z<|mv z z<|gy z z (aG' z) z<|gy z z (g' 2 bc' z z z) z<|gy z z (aG' z) z<|gy z z (g' 3 bc' z z z) z<|gy z z (f' z) z ?_
  obtain⟨I,B,hr⟩:=hr
  refine B' (D' z z) z (u' E54 z) (bi' B) z (⟨q,s⟩)<|yy (t' z z) z<|sx0 z z<|k' (k0' hr z z)
 refine mv z z<|sn5 z<|yy (p' z z) z<|mv z z<|sn6 z<|yy (p' z z) z<|mv z z<|sn6 z<|yy (p' z z) z<|sx0 z z<|k' (k0' hr z z)
theorem cR'{j o h m r}(hr:(Z0 j o).Ret r):Ctr prog 61 #[.slice h j.length m,.string o] (fun G=>sl Rp.str G h m j) (fun G v=>v=i' r):=by
 refine A' (args:=[_,_]) (N:=19) func61 z z z (fun s i C p=>?_)
 have k:=p
 refine sr<|sx0 z z<|c'<|sr<|mv z z<|yy (K' J' k z) z<|mv z z<|nx<|R' (fun (g:Mem)=>match g with|f=>[]) (fun (g:Mem)=>match g with|f=>Mem.le i f/\(Z9).Ret r) (fun (g:Mem)=>match g with|f=>St s i f []) ?_ ?_
 .refine s' ?_
  let l:(Int⊕Unit)->Prop:=fun y=>((fun x=>match x with | .inl rv1=>Cq.ret rv1 | .inr ()=>Z9:(Int⊕Unit)->Cq Int) y).wp (fun a=>a=r)
  replace hr:(Cq.loop _ _).wp l:=hr
  refine T' (Φ:=l) (fun (⟨c,d⟩:Int×Mem)=>(c:Int)) (fun ⟨c,d⟩=>[(0,.slice h j.length m),(1,.string o),(7,i' (j.length:Int)),(8,i' c)]) (fun ⟨c,d⟩=>Mem.le i d) (fun ⟨c,d⟩=>St s i d []) ⟨0,i⟩ hr (f4 z z z z) mr (wk ln) ?_
  .intro B g A hr
   obtain⟨c,d⟩:=g
   have e:=A
   refine sr<|yy (V' z z) z<|nx<|c'<|E' hr z (fun t hr=>?_) (fun t hr=>?_)
   .refine l'<|a'<|c'<|s'<|sr<|mv z z<|sg z z<|nr<|mv z z<|mv z z<|mv z z ?_
    obtain⟨D,n,hr⟩:=hr
    refine yy (P' J' sz9 (k.mono e) z z n) z<|yy (ae' sc9 z (bT' (H' (X' k n) e))) z<|yy (Y0.eqlS aI' z z) z<|nx<|E' hr z (fun q hr=>?_) (fun q hr=>?_)
    .refine sr<|mv z z<|sx0 z z<|k'<|w'<|b'<|b'<|w'<|ap'<|b' (k0' hr z z)
    refine l'<|v'<|a'<|n'<|yy (I' z z) z<|mv z z<|o'<|C' ⟨i64.wrap (c+1),d⟩ hr e (f4 z z z z) (wk ln)
   refine U'<|h'<|h'<|y'<|W' d ⟨e,hr⟩ fn (wk ln)
 rintro f ⟨u,hr⟩
 refine a'<|sr<|sx0 z z<|k' (k0' hr z z)
theorem bG'{e h c d r}(hr:(ZB e h).Ret r):Ctr prog 55 #[.slice c e.length d,.string h] (fun G=>sl Rp.str G c d e) (fun G v=>v = .bool r):=by
 refine A' (args:=[_,_]) (N:=9) func55 z z z (fun l m k f=>?_)
 have i:=f
 refine sr<|sg z z<|nr<|mv z z<|mv z z ?_
 obtain⟨j,g,hr⟩:=hr
 refine B' z z (u' E61 z) (cR' g) z (i)<|yy (aV' z z) z<|sx0 z z<|k' (k0' hr z z)
theorem fb'{f H R j k O L U X r}(hr:(ZcU f H R).Ret r):Ctr prog 26 #[.slice j f.length k,.slice O H.length L,.slice U R.length X] (fun G=>sl Rp.str G j k f/\sl Rp.str G O L H/\sl Rp.str G U X R) (wl' Rp.str r):=by
 refine A' (args:=[_,_,_]) (N:=58) func26 z z z (fun w0 Y J aG=>?_)
 obtain⟨A,T,W⟩:=aG
 refine sr<|sx0 z z<|c'<|sr<|mv z z<|mv z z ?_
 obtain⟨bf,ax,hr⟩:=hr
 refine B' z z (u' E53 z) (cQ' ax) z (⟨T,A⟩)<|nx<|ay' hr z (fun a3 hr=>?_) (fun a3 hr=>?_)
 .refine sr<|mv z z<|sx0 z z<|k'<|b' ?_
  obtain rfl:_=r:=hr
  exact j' z z ⟨_,_,z,W⟩
 refine l'<|a'<|sr<|sx0 z z<|c'<|sr<|mv z z<|yy (K' J' T z) z<|mv z z<|nx<|R' (fun (⟨E,B,C,y,u⟩:(List ByteArray)×Option Addr×Nat×Option Ow×Mem)=>[(0,.slice j f.length k),(1,.slice O H.length L),(2,.slice U R.length X),(7,.slice B E.length C)]) (fun ⟨E,B,C,y,u⟩=>Mem.le Y u/\sl Rp.str u B C E/\Tok 1 9 (.slice B E.length C) E.length y/\(ZaF f H R E).Ret r) (fun ⟨E,B,C,y,u⟩=>St w0 Y u [(1007,y)]) ?_ ?_
 .refine s' ?_
  let ae:(List ByteArray)->Prop:=fun oo=>((fun ov=>match ov with|E=>ZaF f H R E:(List ByteArray)->Cq (List ByteArray)) oo).wp (fun a=>a=r)
  replace hr:(Cq.loop _ _).wp ae:=hr
  refine T' (Φ:=ae) (fun (⟨x,q,t,l,c,p⟩:(List ByteArray)×Option Addr×Nat×Option Ow×Int×Mem)=>((x,c):(List ByteArray)×Int)) (fun ⟨x,q,t,l,c,p⟩=>[(0,.slice j f.length k),(1,.slice O H.length L),(2,.slice U R.length X),(7,.slice q x.length t),(16,.slice O H.length L),(17,i' (H.length:Int)),(18,i' c)]) (fun ⟨x,q,t,l,c,p⟩=>Mem.le Y p/\sl Rp.str p q t x/\Tok 1 9 (.slice q x.length t) x.length l) (fun ⟨x,q,t,l,c,p⟩=>St w0 Y p [(1007,l)]) ⟨[],none,0,none,0,Y⟩ hr (f7 z z z z z z z) ⟨mr,(ah' _ _),cc'⟩ (wk (lw ln)) ?_
  .intro ba gx hx hr
   obtain⟨x,q,t,l,c,p⟩:=gx
   obtain⟨h,Z,Q⟩:=hx
   refine sr<|yy (V' z z) z<|nx<|c'<|E' hr z (fun aR hr=>?_) (fun aR hr=>?_)
   .refine l'<|a'<|c'<|s'<|sr ?_
    obtain⟨F,ak,hr⟩:=hr
    refine yy (P' J' sz9 (T.mono h) z z ak) z<|yy (ae' sc9 z (bT' (H' (X' T ak) h))) z<|sg z z<|nr<|mv z z<|mv z z ?_
    obtain⟨aK,am,hr⟩:=hr
    refine B' z z (u' E55 z) (bG' am) z ((A.mono h)) ?_
    cases aK
    .refine yy (an' z) z<|mv z z<|sn3 z<|yy (t' z z) z<|nx<|av' z<|n'<|mv z z<|mv z z<|aD' (e:=9) (r:=Rp.str) (vs:=#[(0,.string F)]) (cs:=[.string F]++([])) ([F]:List ByteArray) z z z z z (by decide) (fun _=>by kernel_rfl) ⟨[.string F],[],z,z,z⟩ (key:=999) z (by rw[J]; rfl) (fun p3 bd ac aU=>?_)
     obtain⟨aA,hr⟩:=hr
     refine aW' (r:=Rp.str) 1007 z z J' el9 z (by decide) z z (Z.mono ac) z (by rw[J]; rfl) Q aU aA fun p4 aO aI aQ ah aM an=>sg z z<|o'<|v'<|a'<|n'<|yy (I' z z) z<|mv z z<|o'<|C' ⟨(x++[F]),p4,aO,aI,i64.wrap (c+1),aQ⟩ hr ⟨(mx (mx h ac) ah),aM,an⟩ (f7 z z z z z z z) (w1 z)
    refine yy (an' z) z<|mv z z<|gy z z (f' z) z<|gy z z (f' z) z ?_
    obtain⟨bg,aC,hr⟩:=hr
    refine B' (D' z z) z (u' E55 z) (bG' aC) z ((W.mono h))<|yy (p' z z) z<|nx<|ay' hr z (fun a2 hr=>?_) (fun a2 hr=>?_)
    .refine n'<|mv z z<|mv z z<|aD' (e:=9) (r:=Rp.str) (vs:=#[(0,.string F)]) (cs:=[.string F]++([])) ([F]:List ByteArray) z z z z z (by decide) (fun _=>by kernel_rfl) ⟨[.string F],[],z,z,z⟩ (key:=999) z (by rw[J]; rfl) (fun p5 a6 V aZ=>?_)
     obtain⟨av,hr⟩:=hr
     refine aW' (r:=Rp.str) 1007 z z J' el9 z (by decide) z z (Z.mono V) z (by rw[J]; rfl) Q aZ av fun p6 aL au aB ag aJ aq=>sg z z<|o'<|v'<|a'<|n'<|yy (I' z z) z<|mv z z<|o'<|C' ⟨(x++[F]),p6,aL,au,i64.wrap (c+1),aB⟩ hr ⟨(mx (mx h V) ag),aJ,aq⟩ (f7 z z z z z z z) (w1 z)
    refine l'<|v'<|a'<|n'<|yy (I' z z) z<|mv z z<|o'<|C' ⟨x,q,t,l,i64.wrap (c+1),p⟩ hr ⟨h,Z,Q⟩ (f7 z z z z z z z) (w1 z)
   refine U'<|h'<|h'<|y'<|W' ⟨x,q,t,l,p⟩ ⟨h,Z,Q,hr⟩ (f4 z z z z) (w1 z)
 rintro⟨E,B,C,y,u⟩ ⟨s,aN,aD,hr⟩
 refine a'<|c'<|sr<|mv z z<|yy (K' J' (W.mono s) z) z<|mv z z<|nx<|R' (fun (⟨I,K,M,D,P⟩:(List ByteArray)×Option Addr×Nat×Option Ow×Mem)=>[(7,.slice K I.length M)]) (fun ⟨I,K,M,D,P⟩=>Mem.le u P/\sl Rp.str P K M I/\Tok 1 9 (.slice K I.length M) I.length D/\(ZbK I).Ret r) (fun ⟨I,K,M,D,P⟩=>St w0 Y P [(1007,D)]) ?_ ?_
 .refine s' ?_
  let ad:(List ByteArray)->Prop:=fun oo=>((fun ov=>match ov with|I=>ZbK I:(List ByteArray)->Cq (List ByteArray)) oo).wp (fun a=>a=r)
  replace hr:(Cq.loop _ _).wp ad:=hr
  refine T' (Φ:=ad) (fun (⟨v,o,m,i,d,n⟩:(List ByteArray)×Option Addr×Nat×Option Ow×Int×Mem)=>((v,d):(List ByteArray)×Int)) (fun ⟨v,o,m,i,d,n⟩=>[(0,.slice j f.length k),(1,.slice O H.length L),(7,.slice o v.length m),(36,.slice U R.length X),(37,i' (R.length:Int)),(38,i' d)]) (fun ⟨v,o,m,i,d,n⟩=>Mem.le u n/\sl Rp.str n o m v/\Tok 1 9 (.slice o v.length m) v.length i) (fun ⟨v,o,m,i,d,n⟩=>St w0 Y n [(1007,i)]) ⟨E,B,C,y,0,u⟩ hr (f6 z z z z z z) ⟨mr,aN,aD⟩ (w1 z) ?_
  .intro bb gx hx hr
   obtain⟨v,o,m,i,d,n⟩:=gx
   obtain⟨g,aa,S⟩:=hx
   refine sr<|yy (V' z z) z<|nx<|c'<|E' hr z (fun aS hr=>?_) (fun aS hr=>?_)
   .refine l'<|a'<|c'<|s'<|sr ?_
    obtain⟨x1,al,hr⟩:=hr
    refine yy (P' J' sz9 (W.mono (mx s g)) z z al) z<|yy (ae' sc9 z (bT' (H' (X' W al) (mx s g)))) z<|sg z z<|nr<|mv z z<|mv z z ?_
    obtain⟨aP,ay,hr⟩:=hr
    refine B' z z (u' E55 z) (bG' ay) z ((T.mono (mx s g))) ?_
    cases aP
    .refine yy (an' z) z<|mv z z<|gy z z (f' z) z<|gy z z (f' z) z ?_
     obtain⟨be,aE,hr⟩:=hr
     refine B' (D' z z) z (u' E55 z) (bG' aE) z ((A.mono (mx s g)))<|gy z z (an' z) z<|yy (t' z z) z<|nx<|ay' hr z (fun aW hr=>?_) (fun aW hr=>?_)
     .refine n'<|mv z z<|mv z z<|aD' (e:=9) (r:=Rp.str) (vs:=#[(0,.string x1)]) (cs:=[.string x1]++([])) ([x1]:List ByteArray) z z z z z (by decide) (fun _=>by kernel_rfl) ⟨[.string x1],[],z,z,z⟩ (key:=999) z (by rw[J]; rfl) (fun p1 bc ab aT=>?_)
      obtain⟨ar,hr⟩:=hr
      refine aW' (r:=Rp.str) 1007 z z J' el9 z (by decide) z z (aa.mono ab) z (by rw[J]; rfl) S aT ar fun p2 aX aF aY ai aV az=>sg z z<|o'<|v'<|a'<|n'<|yy (I' z z) z<|mv z z<|o'<|C' ⟨(v++[x1]),p2,aX,aF,i64.wrap (d+1),aY⟩ hr ⟨(mx (mx g ab) ai),aV,az⟩ (f6 z z z z z z) (w1 z)
     refine l'<|v'<|a'<|n'<|yy (I' z z) z<|mv z z<|o'<|C' ⟨v,o,m,i,i64.wrap (d+1),n⟩ hr ⟨g,aa,S⟩ (f6 z z z z z z) (w1 z)
    refine yy (an' z) z<|mv z z<|sn4 z<|yy (p' z z) z<|nx<|aK' z<|l'<|v'<|a'<|n'<|yy (I' z z) z<|mv z z<|o'<|C' ⟨v,o,m,i,i64.wrap (d+1),n⟩ hr ⟨g,aa,S⟩ (f6 z z z z z z) (w1 z)
   refine U'<|h'<|h'<|y'<|W' ⟨v,o,m,i,n⟩ ⟨g,aa,S,hr⟩ (f1 z) (w1 z)
 rintro⟨I,K,M,D,P⟩ ⟨a4,a0,a7,hr⟩
 refine a'<|sr<|mv z z<|sx0 z z<|k' ?_
 obtain rfl:_=r:=hr
 exact j' z z ⟨_,_,z,a0⟩
theorem cO'{A o p n m d c r}(hr:(Zai A).Ret r):CtrL prog 56 #[.agg ((v31' A o p n m d c)).toArray] [] (fun G=>y31' G o p n m d c A) (fun G L v=>∃ zb ad,L=[(7000,ad)]/\v = .map (some zb)/\MapR ky3 (RvA aE' G) (.map (some zb)) r ad):=by
 refine ca' (args:=[_]) (N:=38) func56 z z z (fun Z R aA ap=>?_)
 obtain⟨aw,I,y⟩:=ap
 refine sr<|Y' 1 z z z fun b1=>sg z z<|nr<|dq' (ky:=ky3) (Rv:=RvA aE' R) 4008 z z fun D ab ag=>sx0 z z<|c'<|sr<|yy (aF' z) z<|yy (g' 1 bc' z z z) z<|yy (K' N' I z) z<|mv z z<|nx<|R' (fun (⟨E,q,x⟩:(List (Int×Zi))×Option Ow×Mem)=>[(1,pt0 b1),(3,.map (some D))]) (fun ⟨E,q,x⟩=>Mem.le R x/\MapR ky3 (RvA aE' x) (.map (some D)) E q/\(Za1 A E).Ret r) (fun ⟨E,q,x⟩=>St Z R x [(1,bk0 b1 (v31' A o p n m d c) 31),(4008,q)]) ?_ ?_
 .refine s' ?_
  let X:(((List (Int×Zi))))->Prop:=fun oo=>((fun ov=>match ov with|E=>Za1 A E:(((List (Int×Zi))))->Cq ((List (Int×Zi)))) oo).wp (fun a=>a=r)
  replace hr:(Cq.loop _ _).wp X:=hr
  refine T' (Φ:=X) (fun (⟨e,B,f,u⟩:Int×(List (Int×Zi))×Option Ow×Mem)=>((e,B):Int×(List (Int×Zi)))) (fun ⟨e,B,f,u⟩=>[(1,pt0 b1),(10,.slice n A.eqs.length m),(11,i' (A.eqs.length:Int)),(12,i' e),(3,.map (some D))]) (fun ⟨e,B,f,u⟩=>Mem.le R u/\MapR ky3 (RvA aE' u) (.map (some D)) B f) (fun ⟨e,B,f,u⟩=>St Z R u [(1,bk0 b1 (v31' A o p n m d c) 31),(4008,f)]) ⟨0,[],ab,R⟩ hr (f5 z z z z z) ⟨mr,ag⟩ (w2 z z) ?_
  .intro aI gx hx hr
   obtain⟨e,B,f,u⟩:=gx
   obtain⟨H,Y⟩:=hx
   refine sr<|yy (V' z z) z<|nx<|c'<|E' hr z (fun aC hr=>?_) (fun aC hr=>?_)
   .refine l'<|a'<|c'<|s'<|sr ?_
    obtain⟨T,ac,hr⟩:=hr
    refine yy (P' N' bK' (I.mono H) z z ac) z ?_
    obtain⟨O,M,ax,aj⟩:=bN' (H' (X' I ac) H)
    refine yy (as' _ ag57 z z ax) z<|O' 5 z z57 z fun b3=>x' 5 z bK' z z z z z (List.all_eq_true.1 z)<|nx<|n'<|mv z z<|yy (bl' z) z<|yy (g' 5 sc3 z z z) z<|yy (ck' z) z<|yy (g' 5 sc44 z z z) z<|yy (at' (vs:=#[(0,.slice O T.p.length M),(1,.bool false)]) (v:=.agg ([.slice O T.p.length M,.bool false]).toArray) z z (fun _=>by kernel_rfl)) z ?_
    obtain⟨⟨aB,au⟩,hr⟩:=hr
    refine dF' (Rv':=RvA aE' u) (k:=T.id) (z:=(Zi.mk T.p false)) 4008 z bq' Y z z z z aB ⟨[.slice O T.p.length M,.bool false],z,⟨[.slice O T.p.length M],[.bool false],z,⟨_,z,aj⟩,z⟩⟩ (fun _ _ _ _ h=>h) au fun aF am=>o'<|v'<|a'<|n'<|yy (I' z z) z<|mv z z<|o'<|C' ⟨i64.wrap (e+1),(mput B T.id (Zi.mk T.p false)),aF,u⟩ hr ⟨H,am⟩ (f5 z z z z z) (w2 z z)
   refine U'<|h'<|h'<|y'<|W' ⟨B,f,u⟩ ⟨H,Y,hr⟩ (f2 z z) (w2 z z)
 rintro⟨E,q,x⟩ ⟨Q,an,hr⟩
 refine a'<|c'<|sr<|yy (aG' z) z<|yy (g' 1 bc' z z z) z<|yy (K' N' (y.mono Q) z) z<|mv z z<|nx<|R' (fun (⟨J,s,K⟩:(List (Int×Zi))×Option Ow×Mem)=>[(3,.map (some D))]) (fun ⟨J,s,K⟩=>Mem.le x K/\MapR ky3 (RvA aE' K) (.map (some D)) J s/\(Zcm J).Ret r) (fun ⟨J,s,K⟩=>St Z R K [(4008,s)]) ?_ ?_
 .refine s' ?_
  let W:(((List (Int×Zi))))->Prop:=fun oo=>((fun ov=>match ov with|J=>Zcm J:(((List (Int×Zi))))->Cq ((List (Int×Zi)))) oo).wp (fun a=>a=r)
  replace hr:(Cq.loop _ _).wp W:=hr
  refine T' (Φ:=W) (fun (⟨g,C,l,t⟩:Int×(List (Int×Zi))×Option Ow×Mem)=>((g,C):Int×(List (Int×Zi)))) (fun ⟨g,C,l,t⟩=>[(24,.slice d A.neqs.length c),(25,i' (A.neqs.length:Int)),(26,i' g),(3,.map (some D))]) (fun ⟨g,C,l,t⟩=>Mem.le x t/\MapR ky3 (RvA aE' t) (.map (some D)) C l) (fun ⟨g,C,l,t⟩=>St Z R t [(4008,l)]) ⟨0,E,q,x⟩ hr (f4 z z z z) ⟨mr,an⟩ (w1 z) ?_
  .intro aJ gx hx hr
   obtain⟨g,C,l,t⟩:=gx
   obtain⟨F,V⟩:=hx
   refine sr<|yy (V' z z) z<|nx<|c'<|E' hr z (fun aG hr=>?_) (fun aG hr=>?_)
   .refine l'<|a'<|c'<|s'<|sr ?_
    obtain⟨U,ae,hr⟩:=hr
    refine yy (P' N' bK' (y.mono (mx Q F)) z z ae) z ?_
    obtain⟨P,S,az,ar⟩:=bN' (H' (X' y ae) (mx Q F))
    refine yy (as' _ ag57 z z az) z<|O' 7 z z57 z fun b2=>x' 7 z bK' z z z z z (List.all_eq_true.1 z)<|nx<|n'<|mv z z<|yy (bl' z) z<|yy (g' 7 sc3 z z z) z<|yy (ck' z) z<|yy (g' 7 sc44 z z z) z<|yy (at' (vs:=#[(0,.slice P U.p.length S),(1,.bool true)]) (v:=.agg ([.slice P U.p.length S,.bool true]).toArray) z z (fun _=>by kernel_rfl)) z ?_
    obtain⟨⟨aE,av⟩,hr⟩:=hr
    refine dF' (Rv':=RvA aE' t) (k:=U.id) (z:=(Zi.mk U.p true)) 4008 z bq' V z z z z aE ⟨[.slice P U.p.length S,.bool true],z,⟨[.slice P U.p.length S],[.bool true],z,⟨_,z,ar⟩,z⟩⟩ (fun _ _ _ _ h=>h) av fun ay ao=>o'<|v'<|a'<|n'<|yy (I' z z) z<|mv z z<|o'<|C' ⟨i64.wrap (g+1),(mput C U.id (Zi.mk U.p true)),ay,t⟩ hr ⟨F,ao⟩ (f4 z z z z) (w1 z)
   refine U'<|h'<|h'<|y'<|W' ⟨C,l,t⟩ ⟨F,V,hr⟩ (f1 z) (w1 z)
 rintro⟨J,s,K⟩ ⟨aH,af,hr⟩
 refine a'<|sr<|mv z z<|sx0 z z<|k' ?_
 obtain rfl:_=r:=hr
 refine bM' (S':=St Z R K [(7000,s)]) ?_ ?_
 .intro w hs
  have hs:=hs.rekey (i:=4008) (j:=7000) z (by rw[aA]; rfl)
  exact hs.weaken (lc z ln)
 exact j' z z ⟨_,_,z,z,af⟩
theorem bf'{s q d n m c Φ}(hr:(Zq s q).wp Φ):CtrL prog 57 #[.map (some d),.map (some m)] [(5500,n),(5501,c)] (fun G=>MapR ky3 (RvA aE' G) (.map (some d)) s n/\MapR ky3 (RvA aE' G) (.map (some m)) q c) (fun G L v=>∃ r K,L=[(5500,K),(5501,c)]/\v = .tuple #[]/\Φ r/\MapR ky3 (RvA aE' G) (.map (some d)) r K):=by
 refine ca' (args:=[_,_]) (N:=16) func57 z z z (fun Q u al R=>?_)
 obtain⟨F,I⟩:=R
 refine sr<|mv z z<|WL.rangeM 5501 4007 z z bq' I z z fun J H P=>nx<|R' (fun (⟨l,g,o⟩:(List (Int×Zi))×Option Ow×Mem)=>[(0,.map (some d)),(1,.map (some m))]) (fun ⟨l,g,o⟩=>Mem.le u o/\MapR ky3 (RvA aE' o) (.map (some d)) l g/\(Zx l).wp Φ) (fun ⟨l,g,o⟩=>St Q u o [(5500,g),(5501,c)]) ?_ ?_
 .refine s' ?_
  let C:(((List (Int×Zi))))->Prop:=fun oo=>((fun ov=>match ov with|l=>Zx l:(((List (Int×Zi))))->Cq ((List (Int×Zi)))) oo).wp Φ
  replace hr:(Cq.loop _ _).wp C:=hr
  refine T' (Φ:=C) (fun (⟨j,e,x,i,f⟩:(List (Int×Zi))×Option Ow×List (Int×Zi)×Option Ow×Mem)=>((j,x):(List (Int×Zi))×List (Int×Zi))) (fun ⟨j,e,x,i,f⟩=>[(0,.map (some d)),(1,.map (some m)),(7,J)]) (fun ⟨j,e,x,i,f⟩=>Mem.le u f/\MapR ky3 (RvA aE' f) (.map (some d)) j e/\IterR ky3 (RvA aE' f) c J x none i) (fun ⟨j,e,x,i,f⟩=>St Q u f [(5500,e),(5501,c),(4007,i)]) ⟨s,n,q,H,u⟩ hr (f3 z z z) ⟨mr,F,(dK' P)⟩ (w3 z z z) ?_
  .intro ak gx hx hr
   obtain⟨j,e,x,i,f⟩:=gx
   obtain⟨t,A,Y⟩:=hx
   refine sr<|WL.nextM 5501 4007 z z Y z z z (fun Ra p Rb O y B ai ad=>?_) (fun y=>?_)
   .replace hr:=hr.2 _ _ _ y
    generalize Ra++Rb=R2 at hr B
    refine yy (L' z z) z<|nx<|c'<|av' z<|l'<|a'<|s'<|sr<|WL.entryM 5501 4007 z z B z z z (fun u1 X aj=>?_)
    obtain⟨am,rfl,Z⟩:=X
    obtain⟨D,E,rfl,S⟩:=Z2 Z
    refine yy (L' z z) z<|yy (L' z z) z<|O' 5 z z79 z fun b1=>sg z z<|x' 5 z sz79 z z z z z (List.all_eq_true.1 z)<|nx<|n'<|mv z z<|mv z z<|yy (m' 5 ag79 z z z) z ?_
    obtain⟨⟨V,T⟩,hr⟩:=hr
    refine dF' (Rv':=RvA aE' f) (k:=p.1) (z:=p.2) 5500 z bq' A z z z z V ⟨[.slice D p.2.p.length E,.bool p.2.neq],z,⟨[.slice D p.2.p.length E],[.bool p.2.neq],z,⟨_,z,S⟩,z⟩⟩ (fun _ _ _ _ h=>h) T fun W U=>o'<|v'<|C' ⟨(mput j p.1 p.2),W,R2,O,f⟩ hr ⟨t,U,(dK' B)⟩ (f3 z z z) (w3 z z z)
   replace hr:=hr.1 y
   refine yy (L' z z) z<|nx<|c'<|aK' z<|U'<|h'<|h'<|y'<|W' ⟨j,e,f⟩ ⟨t,A,hr⟩ (f2 z z) (w2 z z)
 rintro⟨l,g,o⟩ ⟨aa,M,hr⟩
 refine dU' ?_
 replace hr:Φ l:=hr
 refine bM' (S':=St Q u o [(5500,g),(5501,c)]) (w2 z z)<|dn' z  ⟨_,_,z,z,hr,M⟩
theorem cr'{y K h i v u E D r}(hr:(_eliminant_merge_translation_missing y K).Ret r):Ctr prog 29 #[.agg ((v83' y h i v u)).toArray,.slice E K.length D] (fun G=>sl Rp.str G h i y.from'/\sl Rp.str G v u y.to'/\sl r' G E D K) (wl' Rp.str r):=by
 refine A' (args:=[_,_]) (N:=35) func29 z z z (fun w0 C M R=>?_)
 obtain⟨m,J,ab⟩:=R
 refine sr<|Y' 2 z z z fun V=>sg z z<|nr<|sx0 z z<|c'<|sr<|yy (Y0.Zoc z) z<|yy (g' 2 bF' z z z) z<|yy (K' J' m z) z<|mv z z<|nx<|R' (fun (⟨p,t,s,o,q⟩:(List ByteArray)×Option Addr×Nat×Option Ow×Mem)=>[(5,.slice t p.length s)]) (fun ⟨p,t,s,o,q⟩=>Mem.le C q/\sl Rp.str q t s p/\Tok 1 9 (.slice t p.length s) p.length o/\(_eliminant_merge_translation_missing_k1 p).Ret r) (fun ⟨p,t,s,o,q⟩=>St w0 C q [(1005,o)]) ?_ ?_
 .refine s' ?_
  let F:(List ByteArray)->Prop:=fun oo=>((fun ov=>match ov with|p=>_eliminant_merge_translation_missing_k1 p:(List ByteArray)->Cq (List ByteArray)) oo).wp (fun a=>a=r)
  replace hr:(Cq.loop _ _).wp F:=hr
  refine T' (Φ:=F) (fun (⟨n,k,j,f,c,l⟩:(List ByteArray)×Option Addr×Nat×Option Ow×Int×Mem)=>((n,c):(List ByteArray)×Int)) (fun ⟨n,k,j,f,c,l⟩=>[(1,.slice E K.length D),(2,pt0 V),(5,.slice k n.length j),(9,.slice h y.from'.length i),(10,i' (y.from'.length:Int)),(11,i' c)]) (fun ⟨n,k,j,f,c,l⟩=>Mem.le C l/\sl Rp.str l k j n/\Tok 1 9 (.slice k n.length j) n.length f) (fun ⟨n,k,j,f,c,l⟩=>St w0 C l [(2,bk0 V (v83' y h i v u) 83),(1005,f)]) ⟨[],none,0,none,0,C⟩ hr (f6 z z z z z z) ⟨mr,(ah' _ _),cc'⟩ (wk (lc z (lw ln))) ?_
  .intro aq gx hx hr
   obtain⟨n,k,j,f,c,l⟩:=gx
   obtain⟨d,B,x⟩:=hx
   refine sr<|yy (V' z z) z<|nx<|c'<|E' hr z (fun ag hr=>?_) (fun ag hr=>?_)
   .refine l'<|a'<|c'<|s'<|sr<|mv z z ?_
    obtain⟨H,L,hr⟩:=hr
    refine yy (P' J' sz9 (m.mono d) z z L) z<|yy (ae' sc9 z (bT' (H' (X' m L) d))) z<|sg z z<|sx0 z z<|c'<|ad' [ff,ff,ff,ff,ff,ff,ff,ff,ff,ff] mix (by kernel_rfl) fun X=>cn (fun _ g=>f' z) ?_
    obtain⟨ap,T,hr⟩:=hr
    refine cm' z (fun _=>u' E49 z) (ei' T) z (fun G' g=>((ab.mono d).mono g))<|cn (fun _ g=>f' z) ?_
    obtain⟨Y,hr⟩:=hr
    refine cn (fun _ g=>Y0.shl z z Y)<|cn (fun _ g=>Y0.and z z)<|bX' hr z (fun _ g=>bj' z z) (fun ad hr=>?_) (fun ad hr=>?_)
    .refine cn (fun _ g=>f' z)<|cy z z (fun _ g=>Y0.Zod z)<|cy z z (fun _ g=>g' 2 bF' z z z)<|cy z z (fun _ g=>f' z)<|af' X ?_
     obtain⟨ao,O,hr⟩:=hr
     refine B' (D' z z) z (u' E55 z) (bG' O) z ((J.mono d))<|gy z z (an' z) z<|yy (t' z z) z<|o'<|am'<|a'<|ay' hr z (fun Z hr=>?_) (fun Z hr=>?_)
     .refine n'<|mv z z<|mv z z<|aD' (e:=9) (r:=Rp.str) (vs:=#[(0,.string H)]) (cs:=[.string H]++([])) ([H]:List ByteArray) z z z z z (by decide) (fun _=>by kernel_rfl) ⟨[.string H],[],z,z,z⟩ (key:=999) z (by rw[M]; rfl) (fun p2 ar A af=>?_)
      obtain⟨S,hr⟩:=hr
      refine aW' (r:=Rp.str) 1005 z z J' el9 z (by decide) z z (B.mono A) z (by rw[M]; rfl) x af S fun p3 W Q ac I ae P=>sg z z<|o'<|v'<|a'<|n'<|yy (I' z z) z<|mv z z<|o'<|C' ⟨(n++[H]),p3,W,Q,i64.wrap (c+1),ac⟩ hr ⟨(mx (mx d A) I),ae,P⟩ (f6 z z z z z z) (w2 z z)
     refine l'<|v'<|a'<|n'<|yy (I' z z) z<|mv z z<|o'<|C' ⟨n,k,j,f,i64.wrap (c+1),l⟩ hr ⟨d,B,x⟩ (f6 z z z z z z) (w2 z z)
    refine cn (fun _ g=>f' z)<|ct z z<|ct z z<|ct z z<|af' X<|sn2 z<|yy (p' z z) z<|o'<|am'<|a'<|aK' z<|l'<|v'<|a'<|n'<|yy (I' z z) z<|mv z z<|o'<|C' ⟨n,k,j,f,i64.wrap (c+1),l⟩ hr ⟨d,B,x⟩ (f6 z z z z z z) (w2 z z)
   refine U'<|h'<|h'<|y'<|W' ⟨n,k,j,f,l⟩ ⟨d,B,x,hr⟩ (f1 z) (w1 z)
 rintro⟨p,t,s,o,q⟩ ⟨ah,U,aj,hr⟩
 refine a'<|sr<|mv z z<|sx0 z z<|k' ?_
 obtain rfl:_=r:=hr
 exact j' z z ⟨_,_,z,U⟩
theorem fm'{m e c r}(hr:(Zfx m).Ret r):Ctr prog 117 #[.agg ((v99' m e c)).toArray] (fun G=>sl (Rp.int .u32) G e c m.mag) (w101' r):=by
 refine A' (args:=[_]) (N:=6) func117 z z z (fun E C x q=>?_)
 have n:=q
 refine sr<|Y' 1 z z z fun y=>O' 2 z z101 z fun F=>nx<|c'<|ad' [ff,ff] mix (by kernel_rfl) fun B=>cn (fun _ o=>m' 1 aJ' z z z) ?_
 obtain⟨k,s,hr⟩:=hr
 refine aw' (post:=w99' k) (fun _=>z) (fun _ _=>u' E118 z) (es' s) z (fun A o=>trivial) (fun v H D o h=>?_) ?_
 .obtain⟨f,g,rfl,j⟩:=h
  exact⟨_,_,z,j.mono o⟩
 refine bn' (d:=4) (post:=w99' k) (fun t u p l=>?_)
 obtain⟨f,g,rfl,j⟩:=l
 refine yy (at' (vs:=#[(0,.agg ((v99' m e c)).toArray),(1,.agg ((v99' k f g)).toArray)]) (v:=.agg ([.bool m.neg,.slice e m.mag.length c,.bool k.neg,.slice f k.mag.length g]).toArray) z z (fun _=>by kernel_rfl)) z<|x' 2 z ce' z z z z z (List.all_eq_true.1 z)<|o'<|am'<|a'<|k' ?_
 obtain rfl:_=r:=hr
 exact j' z (ak' (i:=2) bg' z z z) ⟨_,_,_,_,z,(n.mono p),j⟩
theorem dE'{q r}(hr:(ZaV q).Ret r):Ctr prog 74 #[i' q] (fun G=>True) (w101' r):=by
 refine A' (args:=[_]) (N:=6) func74 z z z fun H F D v=>sr<|O' 2 z z101 z fun E=>nr<|mv z z ?_
 obtain⟨B,n,hr⟩:=hr
 refine Q' z z (u' E118 z) (es' n) z (trivial) (fun u y t e=>?_)
 obtain⟨o,p,rfl,f⟩:=e
 obtain⟨A,m,hr⟩:=hr
 refine Q' z z (u' E117 z) (fm' m) z (f) (fun x C s g=>?_)
 obtain⟨k,j,h,l,rfl,d,c⟩:=g
 refine x' 2 z ce' z z z z z (List.all_eq_true.1 z)<|nx<|k' ?_
 obtain rfl:_=r:=hr
 exact j' z (ak' (i:=2) bg' z z z) ⟨_,_,_,_,z,d,c⟩
theorem fn'{m r}(hr:(Zb1 m).Ret r):Ctr prog 62 #[i' m] (fun G=>True) (wlt' r' r):=by
 refine A' (args:=[_]) (N:=17) func62 z z z fun M J u C=>sr<|sg z z<|sx0 z z<|c'<|sr<|mv z z<|ao' hr z (V' z z) z (fun t hr=>?_) (fun t hr=>?_)
 .refine mv z z<|sn2 z<|yy (t' z z) z<|nx<|av' z<|sr<|sg z z<|sx0 z z<|k'<|b' ?_
  obtain rfl:_=r:=hr
  exact bE' z z z ⟨_,_,z,(ah' r' _)⟩
 refine mv z z<|gy z z (f' z) z<|gy z z (aV' z z) z<|yy (p' z z) z<|nx<|E' hr z (fun x hr=>?_) (fun x hr=>?_)
 .exact (show False from hr).elim
 refine l'<|a'<|sr<|O' 4 z z110 z fun F=>nr<|mv z z ?_
 obtain⟨q,hr⟩:=hr
 refine yy (aQ' ag' sz3 z z q) z<|aB' 4 (vecG (Value.int .i64) 8 (setF (fun _=>0) m.toNat 1)).toArray z sz3 z z z (by first|(rw[M']; omega)|(show _<(vecG _ _ _).toArray.size; rw[M']; omega)) z (co' _ _ _ _ _)<|nx<|c'<|ad' [ff,ff] mix (by kernel_rfl) (fun I=>?_)
 obtain⟨j,p,hr⟩:=hr
 refine aw' (post:=w101' j) (fun _=>z) (fun _ _=>u' E74 z) (dE' p) z (fun H n=>trivial) (fun v O L n h=>?_) ?_
 .obtain⟨f,i,c,g,rfl,k,l⟩:=h
  exact⟨_,_,_,_,z,k.mono n,l.mono n⟩
 refine cu (fun _ _ n=>m' 4 aT' z z (M' _ _ _))<|bn' (d:=13) (post:=w101' j) (fun B D A o=>?_)
 obtain⟨f,i,c,g,rfl,k,l⟩:=o
 refine yy (at' (vs:=#[(0,.agg ((v101' j f i c g)).toArray),(1,.agg (vecG (Value.int .i64) 8 (setF (fun _=>0) m.toNat 1)).toArray)]) (v:=.agg (((v101' j f i c g):List Value)++(vecG (Value.int .i64) 8 (setF (fun _=>0) m.toNat 1))).toArray) z z (fun _=>by kernel_rfl)) z<|aD' (e:=152) (r:=r') (vs:=#[(0,.agg (((v101' j f i c g):List Value)++(vecG (Value.int .i64) 8 (setF (fun _=>0) m.toNat 1))).toArray)]) (cs:=(((v101' j f i c g):List Value)++(vecG (Value.int .i64) 8 (setF (fun _=>0) m.toNat 1)))++([])) ([(Zb.mk j (setF (fun _=>0) m.toNat 1))]:List Zb) z z z z z (by decide) (fun _=>by kernel_rfl) ⟨((v101' j f i c g):List Value)++(vecG (Value.int .i64) 8 (setF (fun _=>0) m.toNat 1)),[],z,⟨(v101' j f i c g),vecG (Value.int .i64) 8 (setF (fun _=>0) m.toNat 1),z,⟨(v99' j.num f i),(v99' j.den c g),z,⟨[.bool j.num.neg],[.slice f j.num.mag.length i],z,z,⟨_,z,k⟩⟩,⟨[.bool j.den.neg],[.slice c j.den.mag.length g],z,z,⟨_,z,l⟩⟩⟩,z⟩,z⟩ (key:=999) z (by rw[u]; rfl) fun K E y s=>sg z z<|sg z z<|o'<|am'<|a'<|k' ?_
 obtain rfl:_=r:=hr
 exact bE' z z z ⟨_,_,z,s⟩
theorem fE'{s j r}(hr:(Zhe s j).Ret r):Ctr prog 144 #[.agg (vecG (Value.int .i64) 8 s).toArray,.agg (vecG (Value.int .i64) 8 j).toArray] (fun G=>True) (fun G v=>v = .agg (vecG (Value.int .i64) 8 r).toArray):=by
 refine A' (args:=[_,_]) (N:=20) func144 z z z fun y l M H=>sr<|Y' 2 z z z fun n=>Y' 3 z z z fun t=>O' 4 z z110 z fun o=>nx<|c'<|sr<|mv z z<|nx<|R' (fun (⟨e,g⟩:(Fin 8->Int)×Mem)=>[(2,pt0 n),(4,pt0 o)]) (fun ⟨e,g⟩=>Mem.le l g/\(ZcX e).Ret r) (fun ⟨e,g⟩=>St y l g [(2,bk0 n (vecG (Value.int .i64) 8 e) 110),(4,bk0 o (vecG (Value.int .i64) 8 (fun _=>0)) 110)]) ?_ ?_
 .refine s' ?_
  let m:(Fin 8->Int)->Prop:=fun J=>((fun F=>match F with|e=>ZcX e:(Fin 8->Int)->Cq (Fin 8->Int)) J).wp (fun a=>a=r)
  replace hr:(Cq.loop _ _).wp m:=hr
  refine T' (Φ:=m) (fun (⟨c,d,f⟩:Int×(Fin 8->Int)×Mem)=>((c,d):Int×(Fin 8->Int))) (fun ⟨c,d,f⟩=>[(2,pt0 n),(3,pt0 t),(4,pt0 o),(6,i' c)]) (fun ⟨c,d,f⟩=>Mem.le l f) (fun ⟨c,d,f⟩=>St y l f [(2,bk0 n (vecG (Value.int .i64) 8 d) 110),(3,bk0 t (vecG (Value.int .i64) 8 j) 110),(4,bk0 o (vecG (Value.int .i64) 8 (fun _=>0)) 110)]) ⟨0,s,l⟩ hr (f4 z z z z) mr (w3 z z z) ?_
  .intro L I K hr
   obtain⟨c,d,f⟩:=I
   have k:=K
   refine sr<|yy (V' z z) z<|nx<|c'<|E' hr z (fun C hr=>?_) (fun C hr=>?_)
   .refine l'<|a'<|c'<|s'<|sr<|mv z z<|sx0 z z<|ad' [tt,ff,ff,ff,ff,ff,ff] mix (by kernel_rfl) fun E=>dA' z (f' z)<|cn (fun _ h=>f' z) ?_
    obtain⟨p,hr⟩:=hr
    refine cn (fun _ h=>aQ' ag' sz3 z z p)<|cn (fun _ h=>g' 2 sc3 z z (bo' _ _ _ p))<|cn (fun _ h=>f' z) ?_
    obtain⟨q,hr⟩:=hr
    refine cn (fun _ h=>aQ' ag' sz3 z z q)<|cn (fun _ h=>g' 3 sc3 z z (bo' _ _ _ q))<|af' E<|yy (Y0.max2 z z) z ?_
    obtain⟨B,hr⟩:=hr
    refine yy (aQ' ag' sz3 z z B) z<|aB' 2 (vecG (Value.int .i64) 8 (setF d c.toNat (if (getF d c)<(getF j c) then (getF j c) else (getF d c)))).toArray z sz3 z z z (by first|(rw[M']; omega)|(show _<(vecG _ _ _).toArray.size; rw[M']; omega)) z (co' _ _ _ _ _)<|o'<|am'<|v'<|a'<|n'<|yy (I' z z) z<|mv z z<|o'<|C' ⟨i64.wrap (c+1),setF d c.toNat (if (getF d c)<(getF j c) then (getF j c) else (getF d c)),f⟩ hr k (f4 z z z z) (w3 z z z)
   refine U'<|h'<|h'<|y'<|W' ⟨d,f⟩ ⟨k,hr⟩ (f2 z z) (w2 z z)
 rintro⟨e,g⟩ ⟨D,hr⟩
 refine a'<|sr<|yy (m' 2 aT' z z (M' _ _ _)) z<|x' 4 z sz110 z z z (M' _ _ _) (M' _ _ _) (fun u A=>Rp.one (cy' .i64 8) (G:=g) (x:=e) (cs:=vecG (Value.int .i64) 8 e) z u (by first|simpa using A|simpa [Value.cells] using A))<|nx<|k' ?_
 obtain rfl:_=r:=hr
 exact j' z (ak' (i:=4) aT' z z (M' _ _ _)) z
theorem eG'{y B A r}(hr:(ZaJ y).Ret r):Ctr prog 98 #[.slice B y.length A] (fun G=>sl r' G B A y) (fun G v=>v = .agg (vecG (Value.int .i64) 8 r).toArray):=by
 refine A' (args:=[_]) (N:=18) func98 z z z (fun K t U I=>?_)
 have D:=I
 refine sr<|O' 2 z z109 z fun E=>nr<|O' 3 z z110 z fun F=>nx<|c'<|sr<|mv z z<|yy (K' F' D z) z<|mv z z<|nx<|R' (fun (⟨j,n⟩:(Fin 8->Int)×Mem)=>[(2,pt0 E),(3,pt0 F)]) (fun ⟨j,n⟩=>Mem.le t n/\(ZaU j).Ret r) (fun ⟨j,n⟩=>St K t n [(2,bk0 E (vecG (Value.int .i64) 8 (fun _=>0)) 109),(3,bk0 F (vecG (Value.int .i64) 8 j) 110)]) ?_ ?_
 .refine s' ?_
  let C:(Fin 8->Int)->Prop:=fun Q=>((fun S=>match S with|j=>ZaU j:(Fin 8->Int)->Cq (Fin 8->Int)) Q).wp (fun a=>a=r)
  replace hr:(Cq.loop _ _).wp C:=hr
  refine T' (Φ:=C) (fun (⟨h,m,g⟩:Int×(Fin 8->Int)×Mem)=>((h,m):Int×(Fin 8->Int))) (fun ⟨h,m,g⟩=>[(2,pt0 E),(3,pt0 F),(6,.slice B y.length A),(7,i' (y.length:Int)),(8,i' h)]) (fun ⟨h,m,g⟩=>Mem.le t g) (fun ⟨h,m,g⟩=>St K t g [(2,bk0 E (vecG (Value.int .i64) 8 (fun _=>0)) 109),(3,bk0 F (vecG (Value.int .i64) 8 m) 110)]) ⟨0,(fun _=>0),t⟩ hr (f5 z z z z z) mr (w2 z z) ?_
  .intro T P R hr
   obtain⟨h,m,g⟩:=P
   have l:=R
   refine sr<|yy (V' z z) z<|nx<|c'<|E' hr z (fun M hr=>?_) (fun M hr=>?_)
   .refine l'<|a'<|c'<|s'<|sr ?_
    obtain⟨k,H,hr⟩:=hr
    refine yy (P' F' bh' (D.mono l) z z H) z ?_
    obtain⟨d,f,e,c,L,o,p⟩:=bI' (H' (X' D H) l)
    refine yy (as' _ cM' z z L) z<|O' 5 z z152 z fun V=>x' 5 z bh' z z z z z (fun u q=>Rp.one r' (G:=g) (x:=k) (cs:=((v101' k.c d f e c):List Value)++(vecG (Value.int .i64) 8 k.m)) ⟨(v101' k.c d f e c),vecG (Value.int .i64) 8 k.m,z,⟨(v99' k.c.num d f),(v99' k.c.den e c),z,⟨[.bool k.c.num.neg],[.slice d k.c.num.mag.length f],z,z,⟨_,z,o⟩⟩,⟨[.bool k.c.den.neg],[.slice e k.c.den.mag.length c],z,z,⟨_,z,p⟩⟩⟩,z⟩ u (by first|simpa using q|simpa [Value.cells] using q))<|nx<|n'<|yy (m' 3 aT' z z (M' _ _ _)) z<|yy (aL' z) z<|yy (aj' (vecG (Value.int .i64) 8 k.m).toArray 5 aT' z z (M' _ _ _) (aq' ((v101' k.c d f e c)) (vecG (Value.int .i64) 8 k.m) ([]))) z ?_
    obtain⟨s,J,hr⟩:=hr
    refine B' z z (u' E144 z) (fE' J) z (trivial)<|x' 3 z sz110 z z z (M' _ _ _) (M' _ _ _) (fun u q=>Rp.one (cy' .i64 8) (G:=g) (x:=s) (cs:=vecG (Value.int .i64) 8 s) z u (by first|simpa using q|simpa [Value.cells] using q))<|o'<|v'<|a'<|n'<|yy (I' z z) z<|mv z z<|o'<|C' ⟨i64.wrap (h+1),s,g⟩ hr l (f5 z z z z z) (w2 z z)
   refine U'<|h'<|h'<|y'<|W' ⟨m,g⟩ ⟨l,hr⟩ (f2 z z) (w2 z z)
 rintro⟨j,n⟩ ⟨O,hr⟩
 refine a'<|sr<|yy (m' 3 aT' z z (M' _ _ _)) z<|x' 2 z sz109 z z z (M' _ _ _) (M' _ _ _) (fun u q=>Rp.one (cy' .i64 8) (G:=n) (x:=j) (cs:=vecG (Value.int .i64) 8 j) z u (by first|simpa using q|simpa [Value.cells] using q))<|nx<|k' ?_
 obtain rfl:_=r:=hr
 exact j' z (ak' (i:=2) ag109 z z (M' _ _ _)) z
theorem dH'{n p h t r}(hr:(Zax n p).Ret r):Ctr prog 99 #[.agg (vecG (Value.int .i64) 8 n).toArray,.agg (h).toArray] (fun G=>ArRd (Rp.sl r') 8 G h t p) (fun G v=>v = .bool r):=by
 refine A' (args:=[_,_]) (N:=22) func99 z z z (fun u i J o=>?_)
 have m:=o
 refine sr<|Y' 2 z z z fun K=>Y' 3 z z z fun x=>sx0 z z<|c'<|sr<|yy (m' 2 aT' z z (M' _ _ _)) z<|mv z z<|nx<|R' (fun (g:Mem)=>match g with|f=>[]) (fun (g:Mem)=>match g with|f=>Mem.le i f/\(ZaQ).Ret r) (fun (g:Mem)=>match g with|f=>St u i f []) ?_ ?_
 .refine s' ?_
  let j:(Bool⊕Unit)->Prop:=fun E=>((fun D=>match D with | .inl rv1=>Cq.ret rv1 | .inr ()=>ZaQ:(Bool⊕Unit)->Cq Bool) E).wp (fun a=>a=r)
  replace hr:(Cq.loop _ _).wp j:=hr
  refine T' (Φ:=j) (fun (⟨c,d⟩:Int×Mem)=>(c:Int)) (fun ⟨c,d⟩=>[(3,pt0 x),(7,.agg (vecG (Value.int .i64) 8 n).toArray),(8,i' c)]) (fun ⟨c,d⟩=>Mem.le i d) (fun ⟨c,d⟩=>St u i d [(3,bk0 x (h) 144)]) ⟨0,i⟩ hr (f3 z z z) mr (w1 z) ?_
  .intro H g F hr
   obtain⟨c,d⟩:=g
   have e:=F
   refine sr<|yy (V' z z) z<|nx<|c'<|E' hr z (fun B hr=>?_) (fun B hr=>?_)
   .refine l'<|a'<|c'<|s'<|sr<|mv z z ?_
    obtain⟨k,hr⟩:=hr
    refine yy (dV' ag' sc3 sz3 z z k (bo' _ _ _ k)) z<|sg z z<|sg z z<|nr<|mv z z<|ao' hr z (aZ' z z) z (fun A hr=>?_) (fun A hr=>?_)
    .refine mv z z<|gy z z (f' z) z ?_
     obtain⟨M,l,hr⟩:=hr
     refine gy z z (dh' cz' sz44 z z (dI' (m.mono e) l)) z ?_
     obtain⟨L,I,q,y⟩:=dg' (ArRd.at (m.mono e) l)
     refine gy z z (g' 3 sc44 z z q) z<|gy z z (K' F' y z) z<|gy z z (au' z z) z<|yy (t' z z) z<|nx<|E' hr z (fun s hr=>?_) (fun s hr=>?_)
     .exact (show False from hr).elim
     refine l'<|v'<|a'<|n'<|yy (I' z z) z<|mv z z<|o'<|C' ⟨i64.wrap (c+1),d⟩ hr e (f3 z z z) (w1 z)
    refine mv z z<|sn5 z<|yy (p' z z) z<|nx<|aK' z<|l'<|v'<|a'<|n'<|yy (I' z z) z<|mv z z<|o'<|C' ⟨i64.wrap (c+1),d⟩ hr e (f3 z z z) (w1 z)
   refine U'<|h'<|h'<|y'<|W' d ⟨e,hr⟩ fn (wk ln)
 rintro f ⟨C,hr⟩
 refine a'<|sr<|sx0 z z<|k' (k0' hr z z)
theorem eK'{o e r}(hr:(Zb9 o e).Ret r):Ctr prog 100 #[.agg (vecG (Value.int .i64) 8 o).toArray,.agg (vecG (Value.int .i64) 64 e).toArray] (fun G=>True) (fun G v=>v = .bool r):=by
 refine A' (args:=[_,_]) (N:=30) func100 z z z fun x n P M=>sr<|Y' 2 z z z fun s=>Y' 3 z z z fun t=>sx0 z z<|c'<|sr<|mv z z<|nx<|R' (fun (k:Mem)=>match k with|m=>[]) (fun (k:Mem)=>match k with|m=>Mem.le n m/\(Za4).Ret r) (fun (k:Mem)=>match k with|m=>St x n m []) ?_ ?_
 .refine s' ?_
  let l:(Bool⊕Unit)->Prop:=fun F=>((fun E=>match E with | .inl rv1=>Cq.ret rv1 | .inr ()=>Za4:(Bool⊕Unit)->Cq Bool) F).wp (fun a=>a=r)
  replace hr:(Cq.loop _ _).wp l:=hr
  refine T' (Φ:=l) (fun (⟨c,g⟩:Int×Mem)=>(c:Int)) (fun ⟨c,g⟩=>[(2,pt0 s),(3,pt0 t),(9,i' c)]) (fun ⟨c,g⟩=>Mem.le n g) (fun ⟨c,g⟩=>St x n g [(2,bk0 s (vecG (Value.int .i64) 8 o) 110),(3,bk0 t (vecG (Value.int .i64) 64 e) 174)]) ⟨0,n⟩ hr (f3 z z z) mr (w2 z z) ?_
  .intro C k H hr
   obtain⟨c,g⟩:=k
   have q:=H
   refine sr<|yy (V' z z) z<|nx<|c'<|E' hr z (fun K hr=>?_) (fun K hr=>?_)
   .refine l'<|a'<|c'<|s'<|sr<|mv z z<|sg z z<|nr<|sx0 z z<|c'<|sr<|yy (m' 2 aT' z z (M' _ _ _)) z<|mv z z<|nx<|R' (fun (⟨h,j⟩:Int×Mem)=>[(2,pt0 s),(3,pt0 t),(6,i' h),(9,i' c)]) (fun ⟨h,j⟩=>Mem.le g j/\(Za5 c h).wp (Out C l)) (fun ⟨h,j⟩=>St x n j [(2,bk0 s (vecG (Value.int .i64) 8 o) 110),(3,bk0 t (vecG (Value.int .i64) 64 e) 174)]) ?_ ?_
    .refine s' ?_
     let u:Int->Prop:=fun F=>((fun E=>match E with|h=>Za5 c h:Int->Cq (Int⊕(Bool⊕Unit))) F).wp (Out C l)
     replace hr:(Cq.loop _ _).wp u:=hr
     refine T' (Φ:=u) (fun (⟨f,d,i⟩:Int×Int×Mem)=>((f,d):Int×Int)) (fun ⟨f,d,i⟩=>[(2,pt0 s),(3,pt0 t),(5,i' c),(6,i' f),(9,i' c),(12,.agg (vecG (Value.int .i64) 8 o).toArray),(13,i' d)]) (fun ⟨f,d,i⟩=>Mem.le g i) (fun ⟨f,d,i⟩=>St x n i [(2,bk0 s (vecG (Value.int .i64) 8 o) 110),(3,bk0 t (vecG (Value.int .i64) 64 e) 174)]) ⟨0,0,g⟩ hr (f7 z z z z z z z) mr (w2 z z) ?_
     .intro O k H hr
      obtain⟨f,d,i⟩:=k
      have p:=H
      refine sr<|yy (V' z z) z<|nx<|c'<|E' hr z (fun J hr=>?_) (fun J hr=>?_)
      .refine l'<|a'<|c'<|s'<|sr<|mv z z ?_
       obtain⟨A,hr⟩:=hr
       refine yy (dV' ag' sc3 sz3 z z A (bo' _ _ _ A)) z<|sg z z<|sx0 z z<|n'<|mv z z<|mv z z<|mv z z<|mv z z ?_
       obtain⟨B,hr⟩:=hr
       refine yy (Y0.idxArr0 underlying174 sz109 z z B) z ?_
       obtain⟨D,hr⟩:=hr
       refine yy (Y0.idxArr1' br' sz3 z z D) z<|yy (g' 3 sc3 z z (ZpU (a:=8) (b:=8) _ _ B D)) z<|yy (dy' z z) z<|yy (I' z z) z<|sg z z<|o'<|v'<|a'<|n'<|yy (I' z z) z<|mv z z<|o'<|C' ⟨i64.wrap (f+(i64.wrap ((getF o d)*(getF e (d*8+c))))),i64.wrap (d+1),i⟩ hr p (f7 z z z z z z z) (w2 z z)
      refine U'<|h'<|h'<|y'<|W' ⟨f,i⟩ ⟨p,hr⟩ (f4 z z z z) (w2 z z)
    rintro⟨h,j⟩ ⟨y,hr⟩
    refine a'<|sr<|mv z z<|yy (aZ' z z) z<|nx<|E' hr z (fun I hr=>?_) (fun I hr=>?_)
    .exact (show False from hr).elim
    refine l'<|v'<|a'<|n'<|yy (I' z z) z<|mv z z<|o'<|C' ⟨i64.wrap (c+1),j⟩ hr (mx q y) (f3 z z z) (w2 z z)
   refine U'<|h'<|h'<|y'<|W' g ⟨q,hr⟩ fn (wk ln)
 rintro m ⟨L,hr⟩
 refine a'<|sr<|sx0 z z<|k' (k0' hr z z)
theorem fU'{Q P K J H I r}(hr:(Zfh Q P).Ret r):Ctr prog 170 #[.slice K Q.length J,.slice H P.length I] (fun G=>sl (Rp.int .u32) G K J Q/\sl (Rp.int .u32) G H I P) (wl' (Rp.int .u32) r):=by
 refine A' (args:=[_,_]) (N:=59) func170 z z z (fun W F ak ag=>?_)
 obtain⟨M,O⟩:=ag
 refine sr<|sx0 z z<|aP' (fun (⟨g,q,p,C,t,u,l⟩:(List Int)×Option Addr×Nat×(List Int)×Option Addr×Nat×Mem)=>[(0,.slice q g.length p),(1,.slice t C.length u)]) (fun ⟨g,q,p,C,t,u,l⟩=>Mem.le F l/\sl (Rp.int .u32) l q p g/\sl (Rp.int .u32) l t u C/\(Zdj g C).Ret r) (fun ⟨g,q,p,C,t,u,l⟩=>St W F l []) ?_ ?_
 .refine sr<|mv z z<|yy (K' q' M z) z<|mv z z<|yy (K' q' O z) z<|yy (V' z z) z<|nx<|E' hr z (fun an hr=>?_) (fun an hr=>?_)
  .refine n'<|mv z z<|mv z z<|sg z z<|sg z z<|o'<|al' ⟨P,H,I,Q,K,J,F⟩ ⟨mr,O,M,hr⟩ (f2 z z) (wk ln)
  refine l'<|al' ⟨Q,K,J,P,H,I,F⟩ ⟨mr,M,O,hr⟩ (f2 z z) (wk ln)
 rintro⟨g,q,p,C,t,u,l⟩ ⟨ar,B,S,hr⟩
 refine sr<|mv z z<|yy (K' q' B z) z<|yy (I' z z) z ?_
 obtain⟨ah,hr⟩:=hr
 refine dC' (r:=(Rp.int .u32)) (e:=225) (n:=i64.wrap ((g.length:Int)+1)) (zx:=0) 4019 z z q' el225 z (by decide) (by decide) z z z ah fun U ab am=>sg z z<|nr<|sx0 z z<|c'<|sr<|mv z z<|yy (K' q' B z) z<|mv z z<|nx<|R' (fun (⟨s,m,d,x⟩:(List Int)×Option Ow×Int×Mem)=>[(0,.slice q g.length p),(5,.slice U (i64.wrap ((g.length:Int)+1)).toNat ((i64.wrap ((g.length:Int)+1)).toNat)),(6,.int .u64 d)]) (fun ⟨s,m,d,x⟩=>Mem.le l x/\RowR (Rp.int .u32) 225 x (.slice U (i64.wrap ((g.length:Int)+1)).toNat ((i64.wrap ((g.length:Int)+1)).toNat)) s m/\(Zdi g s d).Ret r) (fun ⟨s,m,d,x⟩=>St W F x [(4019,m)]) ?_ ?_
 .refine s' ?_
  let E:(((List Int)×Int))->Prop:=fun oo=>((fun ov=>match ov with|(s,d)=>Zdi g s d:(((List Int)×Int))->Cq (List Int)) oo).wp (fun a=>a=r)
  replace hr:(Cq.loop _ _).wp E:=hr
  refine T' (Φ:=E) (fun (⟨o,h,f,c,k⟩:(List Int)×Option Ow×Int×Int×Mem)=>((o,f,c):(List Int)×Int×Int)) (fun ⟨o,h,f,c,k⟩=>[(0,.slice q g.length p),(1,.slice t C.length u),(5,.slice U (i64.wrap ((g.length:Int)+1)).toNat ((i64.wrap ((g.length:Int)+1)).toNat)),(6,.int .u64 f),(21,i' (g.length:Int)),(22,i' c)]) (fun ⟨o,h,f,c,k⟩=>Mem.le l k/\RowR (Rp.int .u32) 225 k (.slice U (i64.wrap ((g.length:Int)+1)).toNat ((i64.wrap ((g.length:Int)+1)).toNat)) o h) (fun ⟨o,h,f,c,k⟩=>St W F k [(4019,h)]) ⟨(List.replicate (i64.wrap ((g.length:Int)+1)).toNat 0),ab,0,0,l⟩ hr (f6 z z z z z z) ⟨mr,am⟩ (w1 z) ?_
  .intro ai gx hx hr
   obtain⟨o,h,f,c,k⟩:=gx
   obtain⟨j,D⟩:=hx
   refine sr<|yy (V' z z) z<|nx<|c'<|E' hr z (fun ap hr=>?_) (fun ap hr=>?_)
   .refine l'<|a'<|c'<|s'<|sr<|mv z z<|sg z z<|nr<|mv z z<|mv z z ?_
    obtain⟨x2,X,hr⟩:=hr
    refine yy (P' q' aM' (B.mono j) z z X) z<|yy (ae' bu' z (aA' (H' (X' B X) j))) z<|yy (az' ac' Z' z) z<|mv z z<|yy (I' z z) z<|sx0 z z<|aP' (fun (⟨y,v⟩:Int×Mem)=>[(0,.slice q g.length p),(1,.slice t C.length u),(5,.slice U (i64.wrap ((g.length:Int)+1)).toNat ((i64.wrap ((g.length:Int)+1)).toNat)),(7,i' c),(8,.int .u64 y),(21,i' (g.length:Int)),(22,i' c)]) (fun ⟨y,v⟩=>Mem.le k v/\(ZbX o c y).wp (Out ai E)) (fun ⟨y,v⟩=>St W F v [(4019,h)]) ?_ ?_
    .refine sr<|mv z z<|mv z z<|yy (K' q' (S.mono j) z) z<|yy (V' z z) z<|nx<|E' hr z (fun al hr=>?_) (fun al hr=>?_)
     .refine n'<|mv z z<|mv z z<|mv z z ?_
      obtain⟨x4,Y,hr⟩:=hr
      refine yy (P' q' aM' (S.mono j) z z Y) z<|yy (ae' bu' z (aA' (H' (X' S Y) j))) z<|yy (az' ac' Z' z) z<|yy (I' z z) z<|sg z z<|o'<|al' ⟨u64.wrap ((u64.wrap ((u64.wrap x2)+f))+(u64.wrap x4)),k⟩ ⟨mr,hr⟩ (f7 z z z z z z z) (w1 z)
     refine l'<|al' ⟨u64.wrap ((u64.wrap x2)+f),k⟩ ⟨mr,hr⟩ (f7 z z z z z z z) (w1 z)
    rintro⟨y,v⟩ ⟨A,hr⟩
    refine sr<|mv z z<|mv z z<|mv z z<|yy (az' Z' ac' z) z ?_
    obtain⟨x3,Z,hr⟩:=hr
    refine yy (aY' q' aM' (D.mono A) z z Z) z<|bO' (r:=(Rp.int .u32)) (e:=225) (cs':=[.int .u32 (u32.wrap y)]) (i:=c) (z':=u32.wrap y) 4019 z aM' z (D.mono A) z z z z z Z fun ao af=>nx<|n'<|mv z z<|yy (Y0.shr z z (by decide)) z<|sg z z<|o'<|v'<|a'<|n'<|yy (I' z z) z<|mv z z<|o'<|C' ⟨(o.set c.toNat (u32.wrap y)),ao,Int.fdiv y (2 ^ (min (32:Int).toNat u64.bits)),i64.wrap (c+1),v⟩ hr ⟨(mx j A),af⟩ (f6 z z z z z z) (w1 z)
   refine U'<|h'<|h'<|y'<|W' ⟨o,h,f,k⟩ ⟨j,D,hr⟩ (f3 z z z) (w1 z)
 rintro⟨s,m,d,x⟩ ⟨V,T,hr⟩
 refine a'<|sr<|mv z z<|mv z z<|yy (K' q' (B.mono V) z) z<|mv z z<|yy (az' Z' ac' z) z ?_
 obtain⟨x1,aa,hr⟩:=hr
 refine yy (aY' q' aM' T z z aa) z<|bO' (r:=(Rp.int .u32)) (e:=225) (cs':=[.int .u32 (u32.wrap d)]) (i:=(g.length:Int)) (z':=u32.wrap d) 4019 z aM' z T z z z z z aa fun aE ae=>nr<|mv z z<|bQ' (r:=(Rp.int .u32)) (e:=225) 4019 ae z (by rw[ak]; rfl) (fun aI aG av R au=>?_)
 obtain⟨aH,ac,hr⟩:=hr
 refine Q' z z (u' E182 z) (cj' ac) (by rw[dc' R]) ((dd' R)) (fun aB aF aq L=>?_)
 obtain⟨aC,aw,rfl,ad⟩:=L
 refine sx0 z z<|k' ?_
 obtain rfl:_=r:=hr
 exact j' z z ⟨_,_,z,ad⟩
theorem dO'{h E y B x A r}(hr:(ZaC h E).Ret r):Ctr prog 172 #[.slice y h.length B,.slice x E.length A] (fun G=>sl (Rp.int .u32) G y B h/\sl (Rp.int .u32) G x A E) (wl' (Rp.int .u32) r):=by
 refine A' (args:=[_,_]) (N:=45) func172 z z z (fun Q D Z R=>?_)
 obtain⟨v,H⟩:=R
 refine sr<|sg z z<|nr<|mv z z<|yy (K' q' v z) z ?_
 obtain⟨U,hr⟩:=hr
 refine dC' (r:=(Rp.int .u32)) (e:=225) (n:=(h.length:Int)) (zx:=0) 4011 z z q' el225 z (by decide) (by decide) z z z U fun F P Y=>sg z z<|nr<|sx0 z z<|c'<|sr<|mv z z<|yy (K' q' v z) z<|mv z z<|nx<|R' (fun (⟨m,k,p⟩:(List Int)×Option Ow×Mem)=>[(5,.slice F (h.length:Int).toNat ((h.length:Int).toNat))]) (fun ⟨m,k,p⟩=>Mem.le D p/\RowR (Rp.int .u32) 225 p (.slice F (h.length:Int).toNat ((h.length:Int).toNat)) m k/\(ZaT m).Ret r) (fun ⟨m,k,p⟩=>St Q D p [(4011,k)]) ?_ ?_
 .refine s' ?_
  let u:(List Int)->Prop:=fun oo=>((fun ov=>match ov with|m=>ZaT m:(List Int)->Cq (List Int)) oo).wp (fun a=>a=r)
  replace hr:(Cq.loop _ _).wp u:=hr
  refine T' (Φ:=u) (fun (⟨l,f,d,c,j⟩:(List Int)×Option Ow×Int×Int×Mem)=>((l,d,c):(List Int)×Int×Int)) (fun ⟨l,f,d,c,j⟩=>[(0,.slice y h.length B),(1,.slice x E.length A),(5,.slice F (h.length:Int).toNat ((h.length:Int).toNat)),(6,.int .u64 d),(13,i' (h.length:Int)),(14,i' c)]) (fun ⟨l,f,d,c,j⟩=>Mem.le D j/\RowR (Rp.int .u32) 225 j (.slice F (h.length:Int).toNat ((h.length:Int).toNat)) l f) (fun ⟨l,f,d,c,j⟩=>St Q D j [(4011,f)]) ⟨(List.replicate (h.length:Int).toNat 0),P,0,0,D⟩ hr (f6 z z z z z z) ⟨mr,Y⟩ (w1 z) ?_
  .intro W gx hx hr
   obtain⟨l,f,d,c,j⟩:=gx
   obtain⟨g,t⟩:=hx
   refine sr<|yy (V' z z) z<|nx<|c'<|E' hr z (fun ab hr=>?_) (fun ab hr=>?_)
   .refine l'<|a'<|c'<|s'<|sr<|mv z z<|sg z z<|nr<|mv z z<|mv z z ?_
    obtain⟨x1,L,hr⟩:=hr
    refine yy (P' q' aM' (v.mono g) z z L) z<|yy (ae' bu' z (aA' (H' (X' v L) g))) z<|yy (az' ac' Z' z) z<|mv z z<|yy (be' z z) z<|sx0 z z<|aP' (fun (⟨q,o⟩:Int×Mem)=>[(0,.slice y h.length B),(1,.slice x E.length A),(5,.slice F (h.length:Int).toNat ((h.length:Int).toNat)),(7,i' c),(8,.int .u64 q),(13,i' (h.length:Int)),(14,i' c)]) (fun ⟨q,o⟩=>Mem.le j o/\(Zag l c q).wp (Out W u)) (fun ⟨q,o⟩=>St Q D o [(4011,f)]) ?_ ?_
    .refine sr<|mv z z<|mv z z<|yy (K' q' (H.mono g) z) z<|yy (V' z z) z<|nx<|E' hr z (fun X hr=>?_) (fun X hr=>?_)
     .refine n'<|mv z z<|mv z z<|mv z z ?_
      obtain⟨x3,J,hr⟩:=hr
      refine yy (P' q' aM' (H.mono g) z z J) z<|yy (ae' bu' z (aA' (H' (X' H J) g))) z<|yy (az' ac' Z' z) z<|yy (be' z z) z<|sg z z<|o'<|al' ⟨u64.wrap ((u64.wrap ((u64.wrap x1)-d))-(u64.wrap x3)),j⟩ ⟨mr,hr⟩ (f7 z z z z z z z) (w1 z)
     refine l'<|al' ⟨u64.wrap ((u64.wrap x1)-d),j⟩ ⟨mr,hr⟩ (f7 z z z z z z z) (w1 z)
    rintro⟨q,o⟩ ⟨s,hr⟩
    refine sr<|mv z z<|mv z z<|mv z z<|yy (az' Z' ac' z) z ?_
    obtain⟨x2,K,hr⟩:=hr
    refine yy (aY' q' aM' (t.mono s) z z K) z<|bO' (r:=(Rp.int .u32)) (e:=225) (cs':=[.int .u32 (u32.wrap q)]) (i:=c) (z':=u32.wrap q) 4011 z aM' z (t.mono s) z z z z z K fun V T=>nx<|n'<|mv z z<|yy (Y0.shr z z (by decide)) z<|sg z z<|o'<|v'<|a'<|n'<|yy (I' z z) z<|mv z z<|o'<|C' ⟨(l.set c.toNat (u32.wrap q)),V,Int.fdiv q (2 ^ (min (63:Int).toNat u64.bits)),i64.wrap (c+1),o⟩ hr ⟨(mx g s),T⟩ (f6 z z z z z z) (w1 z)
   refine U'<|h'<|h'<|y'<|W' ⟨l,f,j⟩ ⟨g,t,hr⟩ (f1 z) (w1 z)
 rintro⟨m,k,p⟩ ⟨ac,O,hr⟩
 refine a'<|sr<|mv z z<|bQ' (r:=(Rp.int .u32)) (e:=225) 4011 O z (by rw[Z]; rfl) (fun ap ao af I ad=>?_)
 obtain⟨aq,S,hr⟩:=hr
 refine Q' z z (u' E182 z) (cj' S) (by rw[dc' I]) ((dd' I)) (fun ah ar ae C=>?_)
 obtain⟨aj,ai,rfl,M⟩:=C
 refine sx0 z z<|k' ?_
 obtain rfl:_=r:=hr
 exact j' z z ⟨_,_,z,M⟩
theorem fV'{L K j g l k r}(hr:(Zbc L K).Ret r):Ctr prog 121 #[.agg ((v99' L j g)).toArray,.agg ((v99' K l k)).toArray] (fun G=>sl (Rp.int .u32) G j g L.mag/\sl (Rp.int .u32) G l k K.mag) (w99' r):=by
 refine A' (args:=[_,_]) (N:=40) func121 z z z (fun w0 G0 aA W=>?_)
 obtain⟨f,e⟩:=W
 refine sr<|Y' 2 z z z fun b2=>Y' 3 z z z fun b3=>O' 4 z z99 z fun b4=>nx<|c'<|sr<|yy (aX' z) z<|yy (g' 2 sc4 z z z) z<|yy (aX' z) z<|yy (g' 3 sc4 z z z) z<|yy (dW' bA' z z) z<|nx<|E' hr z (fun ai hr=>?_) (fun ai hr=>?_)
 .refine c'<|ad' [ff,ff,ff,ff,ff,ff,ff] mix (by kernel_rfl) fun hb=>cn (fun _ c=>aX' z)<|cn (fun _ c=>g' 2 sc4 z z z)<|cn (fun _ c=>ax' z)<|cn (fun _ c=>g' 2 bs' z z z)<|cn (fun _ c=>ax' z)<|cn (fun _ c=>g' 3 bs' z z z) ?_
  obtain⟨E,M,hr⟩:=hr
  refine aw' (post:=wl' (Rp.int .u32) E) (fun _=>z) (fun _ _=>u' E170 z) (fU' M) z (fun G' c=>⟨(f.mono c),(e.mono c)⟩) (fun v G1 G2 c h=>?_) ?_
  .obtain⟨U,I,rfl,m⟩:=h
   exact⟨_,_,z,m.mono c⟩
  refine bn' (d:=16) (post:=wl' (Rp.int .u32) E) (fun aw aD an s=>?_)
  obtain⟨U,I,rfl,m⟩:=s
  obtain⟨aB,O,hr⟩:=hr
  refine Q' z z (u' E166 z) (cu' O) z (m) (fun av az al B=>?_)
  obtain⟨Y,ac,rfl,x⟩:=B
  refine x' 4 z cl' z z z z z (List.all_eq_true.1 z)<|o'<|am'<|a'<|k'<|b' ?_
  obtain rfl:_=r:=hr
  exact j' z (ak' (i:=4) aJ' z z z) ⟨_,_,z,x⟩
 refine l'<|a'<|c'<|sr<|yy (ax' z) z<|yy (g' 2 bs' z z z) z<|yy (ax' z) z<|yy (g' 3 bs' z z z) z ?_
 obtain⟨aC,T,hr⟩:=hr
 refine B' z z (u' E171 z) (du' T) z (⟨f,e⟩)<|yy (aV' z z) z<|nx<|E' hr z (fun ag hr=>?_) (fun ag hr=>?_)
 .refine c'<|ad' [ff,ff,ff,ff,ff,ff,ff] mix (by kernel_rfl) fun hb=>cn (fun _ c=>aX' z)<|cn (fun _ c=>g' 2 sc4 z z z)<|cn (fun _ c=>ax' z)<|cn (fun _ c=>g' 2 bs' z z z)<|cn (fun _ c=>ax' z)<|cn (fun _ c=>g' 3 bs' z z z) ?_
  obtain⟨C,F,hr⟩:=hr
  refine aw' (post:=wl' (Rp.int .u32) C) (fun _=>z) (fun _ _=>u' E172 z) (dO' F) z (fun G' c=>⟨(f.mono c),(e.mono c)⟩) (fun v G1 G2 c h=>?_) ?_
  .obtain⟨R,P,rfl,n⟩:=h
   exact⟨_,_,z,n.mono c⟩
  refine bn' (d:=30) (post:=wl' (Rp.int .u32) C) (fun au ax am t=>?_)
  obtain⟨R,P,rfl,n⟩:=t
  obtain⟨aG,S,hr⟩:=hr
  refine Q' z z (u' E166 z) (cu' S) z (n) (fun aq aE ak u=>?_)
  obtain⟨ab,aa,rfl,y⟩:=u
  refine x' 4 z cl' z z z z z (List.all_eq_true.1 z)<|o'<|am'<|a'<|k'<|b' ?_
  obtain rfl:_=r:=hr
  exact j' z (ak' (i:=4) aJ' z z z) ⟨_,_,z,y⟩
 refine l'<|a'<|c'<|ad' [ff,ff,ff,ff,ff,ff,ff] mix (by kernel_rfl) fun hb=>cn (fun _ c=>aX' z)<|cn (fun _ c=>g' 3 sc4 z z z)<|cn (fun _ c=>ax' z)<|cn (fun _ c=>g' 3 bs' z z z)<|cn (fun _ c=>ax' z)<|cn (fun _ c=>g' 2 bs' z z z) ?_
 obtain⟨D,H,hr⟩:=hr
 refine aw' (post:=wl' (Rp.int .u32) D) (fun _=>z) (fun _ _=>u' E172 z) (dO' H) z (fun G' c=>⟨(e.mono c),(f.mono c)⟩) (fun v G1 G2 c h=>?_) ?_
 .obtain⟨Q,J,rfl,o⟩:=h
  exact⟨_,_,z,o.mono c⟩
 refine bn' (d:=38) (post:=wl' (Rp.int .u32) D) (fun ap aH aj p=>?_)
 obtain⟨Q,J,rfl,o⟩:=p
 obtain⟨aF,V,hr⟩:=hr
 refine Q' z z (u' E166 z) (cu' V) z (o) (fun ar ay ao A=>?_)
 obtain⟨Z,X,rfl,q⟩:=A
 refine x' 4 z cl' z z z z z (List.all_eq_true.1 z)<|o'<|am'<|a'<|k' ?_
 obtain rfl:_=r:=hr
 exact j' z (ak' (i:=4) aJ' z z z) ⟨_,_,z,q⟩
theorem fF'{s q n p j k m o c g r}(hr:(Zer s q).Ret r):Ctr prog 77 #[.agg ((v101' s n p j k)).toArray,.agg ((v101' q m o c g)).toArray] (fun G=>sl (Rp.int .u32) G n p s.num.mag/\sl (Rp.int .u32) G j k s.den.mag/\sl (Rp.int .u32) G m o q.num.mag/\sl (Rp.int .u32) G c g q.den.mag) (w101' r):=by
 refine A' (args:=[_,_]) (N:=27) func77 z z z (fun w0 G0 a0 aI=>?_)
 obtain⟨O,C,P,B⟩:=aI
 refine sr<|Y' 2 z z z fun b2=>Y' 3 z z z fun b3=>O' 4 z z101 z fun b4=>nx<|c'<|ad' [ff,ff,ff,ff,ff,ff,ff,ff,ff,ff,ff,ff,ff,ff] mix (by kernel_rfl) fun hb=>cn (fun _ l=>bw' z)<|cn (fun _ l=>aj' ((v99' s.num n p)).toArray 2 aJ' z z z (aq' ([]) ((v99' s.num n p)) ((v99' s.den j k))))<|cn (fun _ l=>bk' z)<|cn (fun _ l=>aj' ((v99' q.den c g)).toArray 3 aJ' z z z (aq' ((v99' q.num m o)) ((v99' q.den c g)) ([])))<|ch' (r:=bH') (e:=99) ([s.num,q.den]:List Zj) (fun _=>z) z (by decide) (fun u D l E=>?_) ?_
 .exact⟨#[(0,.agg ((v99' s.num n p)).toArray),(1,.agg ((v99' q.den c g)).toArray)],(v99' s.num n p)++((v99' q.den c g)++([])),z,z,fun _=>by kernel_rfl,⟨(v99' s.num n p),(v99' q.den c g)++([]),z,⟨[.bool s.num.neg],[.slice n s.num.mag.length p],z,z,⟨_,z,(O.mono l)⟩⟩,⟨(v99' q.den c g),[],z,⟨[.bool q.den.neg],[.slice c q.den.mag.length g],z,z,⟨_,z,(B.mono l)⟩⟩,z⟩⟩⟩
 obtain⟨aw,aE,hr⟩:=hr
 refine bz' (f:=120) (φ:=w99' aw) (fun _=>z) (fun v G1 G2 l h=>?_) (fun u D l E=>?_) ?_
 .obtain⟨F,I,rfl,x⟩:=h
  exact⟨_,_,z,x.mono l⟩
 .obtain⟨⟨p1,ag,al,ax⟩,_⟩:=(show (fun G v=>∃ p1 ag,v = .slice p1 2 2/\SlRd bH' G (.slice p1 2 2) ag [s.num,q.den]) D.m (u 10)/\True from E)
  exact⟨_,_,_,fun _=>u' E120 z,bW' aE,(by simp only[al] <;> rfl),ax⟩
 refine cu (fun _ _ l=>bw' z)<|cu (fun _ _ l=>aj' ((v99' q.num m o)).toArray 3 aJ' z z z (aq' ([]) ((v99' q.num m o)) ((v99' q.den c g))))<|cu (fun _ _ l=>bk' z)<|cu (fun _ _ l=>aj' ((v99' s.den j k)).toArray 2 aJ' z z z (aq' ((v99' s.num n p)) ((v99' s.den j k)) ([])))<|ch' (r:=bH') (e:=99) ([q.num,s.den]:List Zj) (fun _=>z) z (by decide) (fun u D l E=>?_) ?_
 .exact⟨#[(0,.agg ((v99' q.num m o)).toArray),(1,.agg ((v99' s.den j k)).toArray)],(v99' q.num m o)++((v99' s.den j k)++([])),z,z,fun _=>by kernel_rfl,⟨(v99' q.num m o),(v99' s.den j k)++([]),z,⟨[.bool q.num.neg],[.slice m q.num.mag.length o],z,z,⟨_,z,(P.mono l)⟩⟩,⟨(v99' s.den j k),[],z,⟨[.bool s.den.neg],[.slice j s.den.mag.length k],z,z,⟨_,z,(C.mono l)⟩⟩,z⟩⟩⟩
 obtain⟨av,aB,hr⟩:=hr
 refine bz' (f:=120) (φ:=w99' av) (fun _=>z) (fun v G1 G2 l h=>?_) (fun u D l E=>?_) ?_
 .obtain⟨H,J,rfl,t⟩:=h
  exact⟨_,_,z,t.mono l⟩
 .obtain⟨⟨p2,ad,ak,az⟩,_,_,_⟩:=(show (fun G v=>∃ p2 ad,v = .slice p2 2 2/\SlRd bH' G (.slice p2 2 2) ad [q.num,s.den]) D.m (u 16)/\True/\True/\True from E)
  exact⟨_,_,_,fun _=>u' E120 z,bW' aB,(by simp only[ak] <;> rfl),az⟩
 obtain⟨aK,aF,hr⟩:=hr
 refine bz' (f:=121) (φ:=w99' aK) (fun _=>z) (fun v G1 G2 l h=>?_) (fun u D l E=>?_) ?_
 .obtain⟨aa,Y,rfl,A⟩:=h
  exact⟨_,_,z,A.mono l⟩
 .obtain⟨⟨H,J,ai,t⟩,_,⟨F,I,aj,x⟩,_,_⟩:=(show (w99' av) D.m (u 17)/\True/\(w99' aw) D.m (u 11)/\True/\True from E)
  exact⟨_,_,_,fun _=>u' E121 z,fV' aF,(by simp only[ai,aj] <;> rfl),⟨x,t⟩⟩
 refine bJ' (fun _=>z) z99<|Chain.tailX6 (fun a3 aP aT aQ aU aV X1 ae af W U Z ab T=>?_)
 obtain⟨b5,rfl,aD⟩:=af
 obtain⟨aa,Y,rfl,A⟩:=W
 obtain⟨H,J,rfl,t⟩:=U
 obtain⟨p2,ad,rfl,az⟩:=Z
 obtain⟨F,I,rfl,x⟩:=ab
 obtain⟨p1,ag,rfl,ax⟩:=T
 refine di' aD (cJ' (show WL _ _ _ _ _ _ (St w0 G0 X1.m _) from ?_))
 refine x' 5 z cl' z z z z z (List.all_eq_true.1 z)<|o'<|am'<|a'<|c'<|ad' [ff,ff,ff,ff,ff,ff,ff] mix (by kernel_rfl) fun hb=>cn (fun _ l=>m' 5 aJ' z z z)<|cn (fun _ l=>bk' z)<|cn (fun _ l=>aj' ((v99' s.den j k)).toArray 2 aJ' z z z (aq' ((v99' s.num n p)) ((v99' s.den j k)) ([])))<|cn (fun _ l=>bk' z)<|cn (fun _ l=>aj' ((v99' q.den c g)).toArray 3 aJ' z z z (aq' ((v99' q.num m o)) ((v99' q.den c g)) ([])))<|ch' (r:=bH') (e:=99) ([s.den,q.den]:List Zj) (fun _=>z) z (by decide) (fun u D l E=>?_) ?_
 .exact⟨#[(0,.agg ((v99' s.den j k)).toArray),(1,.agg ((v99' q.den c g)).toArray)],(v99' s.den j k)++((v99' q.den c g)++([])),z,z,fun _=>by kernel_rfl,⟨(v99' s.den j k),(v99' q.den c g)++([]),z,⟨[.bool s.den.neg],[.slice j s.den.mag.length k],z,z,⟨_,z,((C.mono ae).mono l)⟩⟩,⟨(v99' q.den c g),[],z,⟨[.bool q.den.neg],[.slice c q.den.mag.length g],z,z,⟨_,z,((B.mono ae).mono l)⟩⟩,z⟩⟩⟩
 obtain⟨aA,aG,hr⟩:=hr
 refine bz' (f:=120) (φ:=w99' aA) (fun _=>z) (fun v G1 G2 l h=>?_) (fun u D l E=>?_) ?_
 .obtain⟨X,S,rfl,y⟩:=h
  exact⟨_,_,z,y.mono l⟩
 .obtain⟨⟨Q,M,an,ay⟩,_⟩:=(show (fun G v=>∃ Q M,v = .slice Q 2 2/\SlRd bH' G (.slice Q 2 2) M [s.den,q.den]) D.m (u 24)/\True from E)
  exact⟨_,_,_,fun _=>u' E120 z,bW' aG,(by simp only[an] <;> rfl),ay⟩
 refine dL' (d:=25) (post:=w99' aA) (d':=24) (post':=fun G v=>∃ Q M,v = .slice Q 2 2/\SlRd bH' G (.slice Q 2 2) M [s.den,q.den]) (fun aS aO a2 au ac R=>?_)
 obtain⟨X,S,rfl,y⟩:=ac
 obtain⟨Q,M,rfl,ay⟩:=R
 obtain⟨aY,aJ,hr⟩:=hr
 refine Q' z z (u' E119 z) (dt' aJ) z (⟨(A.mono au),y⟩) (fun aN aZ aL V=>?_)
 obtain⟨aq,ao,ar,am,rfl,L,K⟩:=V
 refine x' 4 z ce' z z z z z (List.all_eq_true.1 z)<|o'<|am'<|a'<|k' ?_
 obtain rfl:_=r:=hr
 exact j' z (ak' (i:=4) bg' z z z) ⟨_,_,_,_,z,L,K⟩
theorem eC'{h g c d f r}(hr:(Zbj h).Ret r):Ctr prog 102 #[.agg ((v101' h g c d f)).toArray] (fun G=>sl (Rp.int .u32) G g c h.num.mag/\sl (Rp.int .u32) G d f h.den.mag) (wl' r' r):=by
 refine A' (args:=[_]) (N:=9) func102 z z z (fun y u n k=>?_)
 obtain⟨j,i⟩:=k
 refine sr<|Y' 1 z z z fun t=>sx0 z z<|c'<|sr<|yy (m' 1 bg' z z z) z ?_
 obtain⟨q,l,hr⟩:=hr
 refine B' z z (u' E87 z) (cL' l) z (⟨j,i⟩)<|yy (au' z z) z<|nx<|E' hr z (fun o hr=>?_) (fun o hr=>?_)
 .exact (show False from hr).elim
 refine l'<|a'<|sr<|yy (m' 1 bg' z z z) z<|yy (at' (vs:=#[(0,.agg ((v101' h g c d f)).toArray)]) (v:=.agg (((v101' h g c d f):List Value)++(vecG (Value.int .i64) 8 (fun _=>0))).toArray) z z (fun _=>by kernel_rfl)) z<|aD' (e:=152) (r:=r') (vs:=#[(0,.agg (((v101' h g c d f):List Value)++(vecG (Value.int .i64) 8 (fun _=>0))).toArray)]) (cs:=(((v101' h g c d f):List Value)++(vecG (Value.int .i64) 8 (fun _=>0)))++([])) ([(Zb.mk h (fun _=>0))]:List Zb) z z z z z (by decide) (fun _=>by kernel_rfl) ⟨((v101' h g c d f):List Value)++(vecG (Value.int .i64) 8 (fun _=>0)),[],z,⟨(v101' h g c d f),vecG (Value.int .i64) 8 (fun _=>0),z,⟨(v99' h.num g c),(v99' h.den d f),z,⟨[.bool h.num.neg],[.slice g h.num.mag.length c],z,z,⟨_,z,j⟩⟩,⟨[.bool h.den.neg],[.slice d h.den.mag.length f],z,z,⟨_,z,i⟩⟩⟩,z⟩,z⟩ (key:=999) z (by rw[n]; rfl) fun x s p m=>sx0 z z<|k' ?_
 obtain rfl:_=r:=hr
 exact j' z z ⟨_,_,z,m⟩
end Go.Proofs.YtnbpjambcagjcaaGreat

