/- The law VersionKeeps holds for every input: a part of its proof (what the code does, plain models, and what they return). No condition. -/
import Derived.Test.YtnjiloaolgjedaaGreatXK12f
import Derived.Test.YtnjiloaolgjedaaGreatXK12d
set_option linter.unusedVariables false
set_option linter.unusedSimpArgs false
namespace Go.Proofs.YtnjiloaolgjedaaGreat
open Go.IntKind (i8 i16 i32 i64 u8 u16 u32 u64)
open Go.Proofs.Tryz
open Go Go.EL Go.RowKit Go.Proofs
theorem fj'{c r}(hr:(Zb0 c).Ret r):Ctr prog 153 #[.agg (vecG (Value.int .i64) 8 c).toArray] (fun G=>True) (fun G v=>v = .bool r):=by
 refine E' (args:=[_]) (N:=31) func153 z z z fun q j M H=>sr<|ad' 1 z z z fun A=>sg z z<|nr<|yy (aw' (vs:=#[]) (v:=.agg (vecG Value.bool 8 (fun _=>false)).toArray) z z (fun _=>by kernel_rfl)) z<|T' 3 z z216 z fun s=>s' 3 z sz216 z z z (Z' _ _ _) (Z' _ _ _) (fun u t=>Rp.one (Rp.vecB 8) (G:=j) (x:=(fun _=>false)) (cs:=vecG Value.bool 8 (fun _=>false)) z u (by first|simpa using t|simpa [Value.cells] using t))<|nx<|n'<|sr<|sg z z<|nx<|ak' (fun (h:Mem)=>match h with|g=>[]) (fun (h:Mem)=>match h with|g=>Mem.le j g/\(Zbh).Ret r) (fun (h:Mem)=>match h with|g=>St q j g []) ?_ ?_
 .refine C' ?_
  let k:(Bool⊕Unit)->Prop:=fun I=>((fun J=>match J with | .inl rv1=>Cq.ret rv1 | .inr ()=>Zbh:(Bool⊕Unit)->Cq Bool) I).wp (fun a=>a=r)
  replace hr:(Cq.loop _ _).wp k:=hr
  refine al' (Φ:=k) (fun (⟨f,d,e⟩:Int×(Fin 8->Bool)×Mem)=>((f,d):Int×(Fin 8->Bool))) (fun ⟨f,d,e⟩=>[(1,.pointer (some ⟨A,0,none⟩)),(3,.pointer (some ⟨s,0,none⟩)),(4,i' f)]) (fun ⟨f,d,e⟩=>Mem.le j e) (fun ⟨f,d,e⟩=>St q j e [(1,some ⟨A,.cells (vecG (Value.int .i64) 8 c).toArray 119 (0,0),0⟩),(3,some ⟨s,.cells (vecG Value.bool 8 d).toArray 216 (0,0),0⟩)]) ⟨0,(fun _=>false),j⟩ hr (f3 z z z) mr (w2 z z) ?_
  .intro L h K hr
   obtain⟨f,d,e⟩:=h
   have i:=K
   refine n'<|sr<|mv z z<|yy (ag' z z) z<|nx<|L' hr z (fun D hr=>?_) (fun D hr=>?_)
   .refine q'<|g'<|n'<|C'<|n'<|sr<|mv z z ?_
    obtain⟨o,hr⟩:=hr
    refine yy (bg' bc' sz3 z z o) z<|yy (f' 1 sc3 z z (bj' _ _ _ o)) z<|aa' hr z (ag' z z) z (fun y hr=>?_) (fun y hr=>?_)
    .refine mv z z<|sn4 z<|yy (h' z z) z<|mv z z<|sn5 z<|yy (h' z z) z<|nx<|R' z<|sr<|sg z z<|nx<|j'<|a'<|m'<|a'<|a'<|m'<|ae'<|a' ?_
     obtain rfl:_=r:=hr
     exact k' z z z
    refine mv z z<|gy z z (e' z) z ?_
    obtain⟨n,hr⟩:=hr
    refine gy z z (bg' bc' sz3 z z n) z<|gy z z (f' 1 sc3 z z (bj' _ _ _ n)) z<|aa' hr (v' z z) (be' z z) z (fun E hr=>?_) (fun E hr=>?_)
    .refine yy (l' z z) z<|mv z z<|sn5 z<|yy (h' z z) z<|nx<|R' z<|sr<|sg z z<|nx<|j'<|a'<|m'<|a'<|a'<|m'<|ae'<|a' ?_
     obtain rfl:_=r:=hr
     exact k' z z z
    refine yy (l' z z) z<|mv z z<|gy z z (e' z) z ?_
    obtain⟨l,hr⟩:=hr
    refine gy z z (bg' bc' sz3 z z l) z<|gy z z (f' 1 sc3 z z (bj' _ _ _ l)) z ?_
    obtain⟨p,hr⟩:=hr
    refine gy z z (bg' dO' sz4 z z p) z<|gy z z (f' 3 sc4 z z (bj' _ _ _ p)) z<|yy (l' z z) z<|nx<|aL' hr z (fun C hr=>?_) (fun C hr=>?_)
    .exact (show False from hr).elim
    refine q'<|g'<|A'<|mv z z ?_
    obtain⟨m,hr⟩:=hr
    refine yy (bg' bc' sz3 z z m) z<|yy (f' 1 sc3 z z (bj' _ _ _ m)) z ?_
    obtain⟨B,hr⟩:=hr
    refine yy (bg' dO' sz4 z z B) z<|aG' 3 (vecG Value.bool 8 (setF d ((getF c f).toNat) true)).toArray z sz4 z z z (by first|(rw[Z']; omega)|(show _<(vecG _ _ _).toArray.size; rw[Z']; omega)) z (cf' _ _ _ _ _)<|u'<|J'<|g'<|A'<|mv z z<|yy (W' z z) z<|sg z z<|u'<|X' ⟨i64.wrap (f+1),setF d ((getF c f).toNat) true,e⟩ hr i (f3 z z z) (w2 z z)
   refine am'<|r'<|r'<|O'<|ao' e ⟨i,hr⟩ fn (wk ln)
 rintro g ⟨F,hr⟩
 refine g'<|sr<|sg z z<|nx<|j' ?_
 obtain rfl:_=r:=hr
 exact k' z z z
theorem gz'{L n P R r}(hr:(Zfq L n).Ret r):Ctr prog 102 #[.slice P L.length R,.agg (vecG (Value.int .i64) 8 n).toArray] (fun G=>sl I' G P R L) (wlt' I' r):=by
 refine E' (args:=[_,_]) (N:=47) func102 z z z (fun w0 Z ag al=>?_)
 have K:=al
 refine sr<|ad' 3 z z z fun U=>sg z z<|sg z z<|nx<|n'<|sr<|yy (o' 3 ag119 z z (Z' _ _ _)) z ?_
 obtain⟨aM,ao,hr⟩:=hr
 refine D' z z (t' E153 z) (fj' ao) z (trivial)<|yy (aj' z) z<|nx<|aL' hr z (fun aG hr=>?_) (fun aG hr=>?_)
 .exact (show False from hr).elim
 refine q'<|g'<|sr<|bd' (e:=133) (r:=I') (vs:=#[]) (cs:=[]) ([]:List Ze) z z z z z (by decide) (fun _=>by kernel_rfl) (z) (key:=999) z (by rw[ag]; rfl) fun p2 W y aB=>sg z z<|nx<|n'<|sr<|sg z z<|nx<|ak' (fun (⟨q,t,s,I⟩:(List Ze)×Option Addr×Nat×Mem)=>[(6,.slice t q.length s)]) (fun ⟨q,t,s,I⟩=>Mem.le W I/\sl I' I t s q/\(Zda q).Ret r) (fun ⟨q,t,s,I⟩=>St w0 Z I []) ?_ ?_
 .refine C' ?_
  let J:(List Ze)->Prop:=fun oo=>((fun ov=>match ov with|q=>Zda q:(List Ze)->Cq ((List Ze)×Int)) oo).wp (fun a=>a=r)
  replace hr:(Cq.loop _ _).wp J:=hr
  refine al' (Φ:=J) (fun (⟨i,k,l,F,p⟩:(List Ze)×Option Addr×Nat×Int×Mem)=>((i,F):(List Ze)×Int)) (fun ⟨i,k,l,F,p⟩=>[(0,.slice P L.length R),(3,.pointer (some ⟨U,0,none⟩)),(6,.slice k i.length l),(7,i' F)]) (fun ⟨i,k,l,F,p⟩=>Mem.le W p/\sl I' p k l i) (fun ⟨i,k,l,F,p⟩=>St w0 Z p [(3,some ⟨U,.cells (vecG (Value.int .i64) 8 n).toArray 119 (0,0),0⟩)]) ⟨[],p2,0,0,W⟩ hr (f4 z z z z) ⟨mr,aB⟩ (w1 z) ?_
  .intro ah gx hx hr
   obtain⟨i,k,l,F,p⟩:=gx
   obtain⟨o,S⟩:=hx
   refine n'<|sr<|mv z z<|mv z z<|yy (M' ai' (K.mono (mt y o)) z) z<|yy (ag' z z) z<|nx<|L' hr z (fun aF hr=>?_) (fun aF hr=>?_)
   .refine q'<|g'<|n'<|C'<|sr<|yy (aw' (vs:=#[]) (v:=.agg (vecG (Value.int .i64) 8 (fun _=>0)).toArray) z z (fun _=>by kernel_rfl)) z<|T' 8 z z120 z fun b2=>s' 8 z sz120 z z z (Z' _ _ _) (Z' _ _ _) (fun u hu=>Rp.one (dv' .i64 8) (G:=p) (x:=(fun _=>0)) (cs:=vecG (Value.int .i64) 8 (fun _=>0)) z u (by first|simpa using hu|simpa [Value.cells] using hu))<|nx<|n'<|sr<|sg z z<|nx<|ak' (fun (⟨m,Q⟩:(Fin 8->Int)×Mem)=>[(0,.slice P L.length R),(3,.pointer (some ⟨U,0,none⟩)),(6,.slice k i.length l),(7,i' F),(8,.pointer (some ⟨b2,0,none⟩))]) (fun ⟨m,Q⟩=>Mem.le p Q/\(Zdb L i F m).wp (Out ah J)) (fun ⟨m,Q⟩=>St w0 Z Q [(3,some ⟨U,.cells (vecG (Value.int .i64) 8 n).toArray 119 (0,0),0⟩),(8,some ⟨b2,.cells (vecG (Value.int .i64) 8 m).toArray 120 (0,0),0⟩)]) ?_ ?_
    .refine C' ?_
     let X:(Fin 8->Int)->Prop:=fun oo=>((fun ov=>match ov with|m=>Zdb L i F m:(Fin 8->Int)->Cq (((List Ze)×Int)⊕(List Ze))) oo).wp (Out ah J)
     replace hr:(Cq.loop _ _).wp X:=hr
     refine al' (Φ:=X) (fun (⟨H,A,C⟩:Int×(Fin 8->Int)×Mem)=>((H,A):Int×(Fin 8->Int))) (fun ⟨H,A,C⟩=>[(0,.slice P L.length R),(3,.pointer (some ⟨U,0,none⟩)),(6,.slice k i.length l),(7,i' F),(8,.pointer (some ⟨b2,0,none⟩)),(9,i' H)]) (fun ⟨H,A,C⟩=>Mem.le p C) (fun ⟨H,A,C⟩=>St w0 Z C [(3,some ⟨U,.cells (vecG (Value.int .i64) 8 n).toArray 119 (0,0),0⟩),(8,some ⟨b2,.cells (vecG (Value.int .i64) 8 A).toArray 120 (0,0),0⟩)]) ⟨0,(fun _=>0),p⟩ hr (f6 z z z z z z) mr (w2 z z) ?_
     .intro aL gx hx hr
      obtain⟨H,A,C⟩:=gx
      have E:=hx
      refine n'<|sr<|mv z z<|yy (ag' z z) z<|nx<|L' hr z (fun aC hr=>?_) (fun aC hr=>?_)
      .refine q'<|g'<|n'<|C'<|ah' [ff,ff,ff,ff,ff,ff,ff,ff,ff,ff] mix (by kernel_rfl) fun hb=>cn (fun _ h=>e' z) ?_
       obtain⟨ai,hr⟩:=hr
       refine cn (fun _ h=>bg' bc' sz3 z z ai)<|cn (fun _ h=>f' 3 sc3 z z (bj' _ _ _ ai))<|cn (fun _ h=>e' z)<|cn (fun _ h=>e' z)<|cn (fun _ h=>e' z) ?_
       obtain⟨x2,ae,hr⟩:=hr
       refine cn (fun _ h=>Q' ai' cd' ((K.mono (mt (mt y o) E)).mono h) z z ae)<|cn (fun _ h=>bz' z) ?_
       obtain⟨af,hr⟩:=hr
       refine cn (fun _ h=>Y0.idxA aN' sz3 z z af)<|cn (fun _ h=>Y' sc3 z (AtK.vecAt (H' (H' (ay' (ax' (ab' K ae))) (mt (mt y o) E)) h) af))<|U' hb ?_
       obtain⟨aw,hr⟩:=hr
       refine yy (bg' aN' sz3 z z aw) z<|aG' 8 (vecG (Value.int .i64) 8 (setF A ((getF n H).toNat) (getF x2.m H))).toArray z sz3 z z z (by first|(rw[Z']; omega)|(show _<(vecG _ _ _).toArray.size; rw[Z']; omega)) z (cf' _ _ _ _ _)<|u'<|aq'<|J'<|g'<|A'<|mv z z<|yy (W' z z) z<|sg z z<|u'<|X' ⟨i64.wrap (H+1),setF A ((getF n H).toNat) (getF x2.m H),C⟩ hr E (f6 z z z z z z) (w2 z z)
      refine am'<|r'<|r'<|O'<|ao' ⟨A,C⟩ ⟨E,hr⟩ (f5 z z z z z) (w2 z z)
    rintro⟨m,Q⟩ ⟨D,hr⟩
    refine g'<|ah' [tt,ff,ff,ff,ff,ff,ff] mix (by kernel_rfl) fun hb=>co' z (e' z)<|cn (fun _ h=>e' z)<|cn (fun _ h=>e' z) ?_
    obtain⟨B,ad,hr⟩:=hr
    refine cn (fun _ h=>Q' ai' cd' ((K.mono (mt (mt y o) D)).mono h) z z ad)<|cn (fun _ h=>cM' z) ?_
    obtain⟨g,f,c,d,az,O,M⟩:=ei' (H' (aV' (ax' (ab' K ad))) (mt (mt y o) D))
    refine cn (fun _ h=>aA' _ cN' z z (fun j v hv=>h _ _ _ (az j v hv)))<|cn (fun _ h=>o' 8 bP' z z (Z' _ _ _))<|U' hb<|yy (aw' (vs:=#[(0,.agg ((v130' B.c g f c d)).toArray),(1,.agg (vecG (Value.int .i64) 8 m).toArray)]) (v:=.agg (((v130' B.c g f c d):List Value)++(vecG (Value.int .i64) 8 m)).toArray) z z (fun _=>by kernel_rfl)) z<|bd' (e:=133) (r:=I') (vs:=#[(0,.agg (((v130' B.c g f c d):List Value)++(vecG (Value.int .i64) 8 m)).toArray)]) (cs:=(((v130' B.c g f c d):List Value)++(vecG (Value.int .i64) 8 m))++([])) ([(Ze.mk B.c m)]:List Ze) z z z z z (by decide) (fun _=>by kernel_rfl) ⟨((v130' B.c g f c d):List Value)++(vecG (Value.int .i64) 8 m),[],z,⟨(v130' B.c g f c d),vecG (Value.int .i64) 8 m,z,⟨(v128' B.c.num g f),(v128' B.c.den c d),z,⟨[.bool B.c.num.neg],[.slice g B.c.num.mag.length f],z,z,⟨_,z,O⟩⟩,⟨[.bool B.c.den.neg],[.slice c B.c.den.mag.length d],z,z,⟨_,z,M⟩⟩⟩,z⟩,z⟩ (key:=999) z (by rw[ag]; rfl) (fun p3 aN T ax=>?_)
    obtain⟨aA,aj,hr⟩:=hr
    refine P' z z (t' E62 z) (go' aj) z (⟨(S.mono (mt D T)),ax⟩) (fun aK aD ab V=>?_)
    obtain⟨an,av,rfl,aq⟩:=V
    refine sg z z<|u'<|aq'<|J'<|g'<|A'<|mv z z<|yy (W' z z) z<|sg z z<|u'<|X' ⟨aA,an,av,i64.wrap (F+1),aD⟩ hr ⟨(mt (mt (mt o D) T) ab),aq⟩ (f4 z z z z) (w1 z)
   refine am'<|r'<|r'<|O'<|ao' ⟨i,k,l,p⟩ ⟨o,S,hr⟩ (f1 z) (wk ln)
 rintro⟨q,t,s,I⟩ ⟨aH,Y,hr⟩
 refine g'<|sr<|mv z z<|sg z z<|sg z z<|nx<|j' ?_
 obtain rfl:_=r:=hr
 exact aC' z z z ⟨_,_,z,Y⟩
theorem dH'{l1 E Z X r}(hr:(Zbd l1 E).Ret r):Ctr prog 72 #[.slice Z l1.length X,.agg (vecG (Value.int .i64) 8 E).toArray] (fun G=>sl b' G Z X l1) (wl' b' r):=by
 refine E' (args:=[_,_]) (N:=37) func72 z z z (fun w0 G0 V aj=>?_)
 have H:=aj
 refine sr<|ad' 3 z z z fun b1=>sg z z<|nr<|bd' (e:=110) (r:=b') (vs:=#[]) (cs:=[]) ([]:List Zb) z z z z z (by decide) (fun _=>by kernel_rfl) (z) (key:=999) z (by rw[V]; rfl) fun p1 ab t ar=>sg z z<|nx<|n'<|sr<|sg z z<|nx<|ak' (fun (⟨m,q,p,o,D⟩:(List Zb)×Option Addr×Nat×Option Ow×Mem)=>[(5,.slice q m.length p)]) (fun ⟨m,q,p,o,D⟩=>Mem.le ab D/\sl b' D q p m/\Tok 2 110 (.slice q m.length p) m.length o/\(ZeB m).Ret r) (fun ⟨m,q,p,o,D⟩=>St w0 G0 D [(1005,o)]) ?_ ?_
 .refine C' ?_
  let Y:(List Zb)->Prop:=fun oo=>((fun ov=>match ov with|m=>ZeB m:(List Zb)->Cq (List Zb)) oo).wp (fun a=>a=r)
  replace hr:(Cq.loop _ _).wp Y:=hr
  refine al' (Φ:=Y) (fun (⟨j,k,l,i,M,x⟩:(List Zb)×Option Addr×Nat×Option Ow×Int×Mem)=>((j,M):(List Zb)×Int)) (fun ⟨j,k,l,i,M,x⟩=>[(0,.slice Z l1.length X),(3,.pointer (some ⟨b1,0,none⟩)),(5,.slice k j.length l),(6,i' M)]) (fun ⟨j,k,l,i,M,x⟩=>Mem.le ab x/\sl b' x k l j/\Tok 2 110 (.slice k j.length l) j.length i) (fun ⟨j,k,l,i,M,x⟩=>St w0 G0 x [(3,some ⟨b1,.cells (vecG (Value.int .i64) 8 E).toArray 119 (0,0),0⟩),(1005,i)]) ⟨[],p1,0,none,0,ab⟩ hr (f4 z z z z) ⟨mr,ar,dg'⟩ (wk (lc z (lw ln))) ?_
  .intro aP gx hx hr
   obtain⟨j,k,l,i,M,x⟩:=gx
   obtain⟨n,O,K⟩:=hx
   refine n'<|sr<|mv z z<|mv z z<|yy (M' w' (H.mono (mt t n)) z) z<|yy (ag' z z) z<|nx<|L' hr z (fun aB hr=>?_) (fun aB hr=>?_)
   .refine q'<|g'<|n'<|C'<|n'<|ah' [ff,ff,ff,ff,ff,ff,ff,ff,ff,tt] mix (by kernel_rfl) fun hb=>cn (fun _ f=>e' z)<|cn (fun _ f=>e' z) ?_
    obtain⟨x1,ah,hr⟩:=hr
    refine cn (fun _ f=>Q' w' aR' ((H.mono (mt t n)).mono f) z z ah)<|cn (fun _ f=>bT' z) ?_
    obtain⟨p2,aO,av,ax⟩:=bG' (H' (ay' (ax' (ab' H ah))) (mt t n))
    refine cn (fun _ f=>Y' cA' z (f _ _ _ av))<|cn (fun _ f=>o' 3 ag119 z z (Z' _ _ _)) ?_
    obtain⟨g,ak,hr⟩:=hr
    refine aW' (post:=wlt' I' g) (fun _=>z) (fun _ _=>t' E102 z) (gz' ak) z (fun T f=>(ax.mono f)) (fun v G1 G2 f h=>?_) ?_
    .obtain⟨B,C,rfl,s⟩:=h
     exact⟨_,_,z,s.mono f⟩
    refine bm' (φ:=wlt' I' g) (fun _=>z) (fun v G1 G2 f h=>?_) (fun u T f hu=>?_) ?_
    .obtain⟨p3,P,rfl,I⟩:=h
     exact⟨_,_,z,I.mono f⟩
    .obtain⟨⟨B,C,ag,s⟩,_⟩:=(show (wlt' I' g) T.m (u 23)/\True from hu)
     simp only[undFr,ag]
     exact⟨_,e' z,B,C,z,s⟩
    refine bm' (φ:=wl' I' g.1) (fun _=>z) (fun v G1 G2 f h=>?_) (fun u T f hu=>?_) ?_
    .obtain⟨L,A,rfl,W⟩:=h
     exact⟨_,_,z,W.mono f⟩
    .obtain⟨⟨p3,P,F,I⟩,_,_⟩:=(show (wlt' I' g) T.m (u 16)/\True/\True from hu)
     simp only[undFr,F]
     exact⟨_,y' z z,p3,P,z,I⟩
    refine bu' (c:=i' g.2) (fun _=>z) (fun u T f hu=>?_) ?_
    .obtain⟨_,⟨p3,P,F,I⟩,_,_⟩:=(show True/\(wlt' I' g) T.m (u 16)/\True/\True from hu)
     simp only[undFr,F]
     exact y' z z
    refine Chain.tailU3 (d:=24) (post:=wl' I' g.1) (d':=16) (post':=wlt' I' g) (d'':=23) (post'':=wlt' I' g) (fun aF aL aN aQ y U R S=>?_)
    obtain⟨L,A,rfl,W⟩:=U
    obtain⟨p3,P,rfl,I⟩:=R
    obtain⟨B,C,rfl,s⟩:=S
    refine sg z z<|sg z z<|u'<|aq'<|g'<|A'<|mv z z<|mv z z<|mv z z ?_
    obtain⟨J,ai,hr⟩:=hr
    refine yy (Q' w' aR' (H.mono (mt (mt t n) y)) z z ai) z<|yy (bn' z) z<|yy (Y' sc3 z (aD' (H' (aV' (ax' (ab' H ai))) (mt (mt t n) y)))) z<|mv z z<|yy (aw' (vs:=#[(0,i' J.id),(1,.slice L g.1.length A)]) (v:=.agg ([i' J.id,.slice L g.1.length A]).toArray) z z (fun _=>by kernel_rfl)) z<|bd' (e:=110) (r:=b') (vs:=#[(0,.agg ([i' J.id,.slice L g.1.length A]).toArray)]) (cs:=[i' J.id,.slice L g.1.length A]++([])) ([(Zb.mk J.id g.1)]:List Zb) z z z z z (by decide) (fun _=>by kernel_rfl) ⟨[i' J.id,.slice L g.1.length A],[],z,⟨[i' J.id],[.slice L g.1.length A],z,z,⟨_,z,W⟩⟩,z⟩ (key:=999) z (by rw[V]; rfl) (fun p5 aR Q ao=>?_)
    obtain⟨am,hr⟩:=hr
    refine bS' (r:=b') 1005 z z w' el110 z (by decide) z z (O.mono (mt y Q)) z (by rw[V]; rfl) K ao am fun p6 aD an az ae aA al=>sg z z<|u'<|J'<|g'<|A'<|mv z z<|yy (W' z z) z<|sg z z<|u'<|X' ⟨(j++[(Zb.mk J.id g.1)]),p6,aD,an,i64.wrap (M+1),az⟩ hr ⟨(mt (mt (mt n y) Q) ae),aA,al⟩ (f4 z z z z) (w2 z z)
   refine am'<|r'<|r'<|O'<|ao' ⟨j,k,l,i,x⟩ ⟨n,O,K,hr⟩ (f1 z) (w1 z)
 rintro⟨m,q,p,o,D⟩ ⟨aE,ac,aq,hr⟩
 refine g'<|sr<|mv z z<|sg z z<|nx<|j' ?_
 obtain rfl:_=r:=hr
 exact k' z z ⟨_,_,z,ac⟩
theorem eb'{X d V U i j r}(hr:(Zcp X d).Ret r):Ctr prog 103 #[.slice V X.length U,.agg ((v110' d.id i d.p j)).toArray] (fun G=>sl b' G V U X/\sl I' G i j d.p) (wl' b' r):=by
 refine E' (args:=[_,_]) (N:=53) func103 z z z (fun w0 G0 H aq=>?_)
 obtain⟨F,aa⟩:=aq
 refine sr<|ad' 3 z z z fun Y=>sg z z<|nr<|bd' (e:=110) (r:=b') (vs:=#[]) (cs:=[]) ([]:List Zb) z z z z z (by decide) (fun _=>by kernel_rfl) (z) (key:=999) z (by rw[H]; rfl) fun p1 ab n aA=>sg z z<|nr<|sg z z<|nx<|n'<|sr<|sg z z<|nx<|ak' (fun (⟨p,C,A,y,s,L⟩:(List Zb)×Option Addr×Nat×Option Ow×Bool×Mem)=>[(3,.pointer (some ⟨Y,0,none⟩)),(5,.slice C p.length A),(6,.bool s)]) (fun ⟨p,C,A,y,s,L⟩=>Mem.le ab L/\sl b' L C A p/\Tok 2 110 (.slice C p.length A) p.length y/\(Zgj d p s).Ret r) (fun ⟨p,C,A,y,s,L⟩=>St w0 G0 L [(3,some ⟨Y,.cells ((v110' d.id i d.p j)).toArray 110 (0,0),0⟩),(1005,y)]) ?_ ?_
 .refine C' ?_
  let Q:(((List Zb)×Bool))->Prop:=fun oo=>((fun ov=>match ov with|(p,s)=>Zgj d p s:(((List Zb)×Bool))->Cq (List Zb)) oo).wp (fun a=>a=r)
  replace hr:(Cq.loop _ _).wp Q:=hr
  refine al' (Φ:=Q) (fun (⟨h,k,l,f,m,K,x⟩:(List Zb)×Option Addr×Nat×Option Ow×Bool×Int×Mem)=>((h,m,K):(List Zb)×Bool×Int)) (fun ⟨h,k,l,f,m,K,x⟩=>[(0,.slice V X.length U),(3,.pointer (some ⟨Y,0,none⟩)),(5,.slice k h.length l),(6,.bool m),(7,i' K)]) (fun ⟨h,k,l,f,m,K,x⟩=>Mem.le ab x/\sl b' x k l h/\Tok 2 110 (.slice k h.length l) h.length f) (fun ⟨h,k,l,f,m,K,x⟩=>St w0 G0 x [(3,some ⟨Y,.cells ((v110' d.id i d.p j)).toArray 110 (0,0),0⟩),(1005,f)]) ⟨[],p1,0,none,false,0,ab⟩ hr (f5 z z z z z) ⟨mr,aA,dg'⟩ (wk (lc z (lw ln))) ?_
  .intro aF gx hx hr
   obtain⟨h,k,l,f,m,K,x⟩:=gx
   obtain⟨g,E,D⟩:=hx
   refine n'<|sr<|mv z z<|mv z z<|yy (M' w' (F.mono (mt n g)) z) z<|yy (ag' z z) z<|nx<|L' hr z (fun aM hr=>?_) (fun aM hr=>?_)
   .refine q'<|g'<|n'<|C'<|aM' (fun (⟨o,v,t,q,u,I⟩:(List Zb)×Option Addr×Nat×Option Ow×Bool×Mem)=>[(0,.slice V X.length U),(3,.pointer (some ⟨Y,0,none⟩)),(5,.slice v o.length t),(6,.bool u),(7,i' K)]) (fun ⟨o,v,t,q,u,I⟩=>Mem.le x I/\sl b' I v t o/\Tok 2 110 (.slice v o.length t) o.length q/\(Zd9 X d K o u).wp (Out aF Q)) (fun ⟨o,v,t,q,u,I⟩=>St w0 G0 I [(3,some ⟨Y,.cells ((v110' d.id i d.p j)).toArray 110 (0,0),0⟩),(1005,q)]) ?_ ?_
    .refine n'<|ah' [ff,ff,ff,ff,ff,ff,ff,ff,ff,ff] mix (by kernel_rfl) fun hb=>by' hr z (fun _ c=>cZ' (e' z) (congrArg Value.bool (bdec _))) (fun az hr=>?_) (fun az hr=>?_)
     .refine cn (fun _ c=>aj' z)<|cn (fun _ c=>e' z)<|ct z z<|ct z z<|ct z z<|ct z z<|ct z z<|ct z z<|ct z z<|U' hb<|sk z z z<|yy (l' z z) z<|u'<|aq'<|g'<|bb' z<|q'<|ap' ⟨h,k,l,f,m,x⟩ ⟨mr,E,D,hr⟩ (f5 z z z z z) (w2 z z)
     refine cn (fun _ c=>aj' z)<|cn (fun _ c=>e' z)<|cy z z (fun _ c=>e' z)<|cy z z (fun _ c=>e' z) ?_
     obtain⟨x4,ai,hr⟩:=hr
     refine cy z z (fun _ c=>Q' w' aR' ((F.mono (mt n g)).mono c) z z ai)<|cy z z (fun _ c=>bn' z)<|cy z z (fun _ c=>Y' sc3 z (aD' (H' (H' (aV' (ax' (ab' F ai))) (mt n g)) c)))<|cy z z (fun _ c=>bn' z)<|cy z z (fun _ c=>f' 3 sc3 z z z)<|U' hb<|gy z z (be' z z) z<|yy (h' z z) z<|u'<|aq'<|g'<|L' hr z (fun aI hr=>?_) (fun aI hr=>?_)
     .refine sr<|mv z z<|yy (o' 3 bJ' z z z) z<|bd' (e:=110) (r:=b') (vs:=#[(0,.agg ((v110' d.id i d.p j)).toArray)]) (cs:=(v110' d.id i d.p j)++([])) ([d]:List Zb) z z z z z (by decide) (fun _=>by kernel_rfl) ⟨(v110' d.id i d.p j),[],z,⟨[i' d.id],[.slice i d.p.length j],z,z,⟨_,z,(aa.mono (mt n g))⟩⟩,z⟩ (key:=999) z (by rw[H]; rfl) (fun p6 a0 W aN=>?_)
      obtain⟨am,hr⟩:=hr
      refine bS' (r:=b') 1005 z z w' el110 z (by decide) z z (E.mono W) z (by rw[H]; rfl) D aN am fun p7 aH ar aB ag aE al=>sg z z<|nx<|A'<|sg z z<|u'<|ap' ⟨(h++[d]),p7,aH,ar,true,aB⟩ ⟨(mt W ag),aE,al,hr⟩ (f5 z z z z z) (w2 z z)
     refine q'<|ap' ⟨h,k,l,f,m,x⟩ ⟨mr,E,D,hr⟩ (f5 z z z z z) (w2 z z)
    rintro⟨o,v,t,q,u,I⟩ ⟨B,T,P,hr⟩
    refine n'<|ah' [ff,ff,ff,ff,ff,ff,ff] mix (by kernel_rfl) fun hb=>cn (fun _ c=>e' z)<|cn (fun _ c=>e' z) ?_
    obtain⟨x2,ah,hr⟩:=hr
    refine cn (fun _ c=>Q' w' aR' ((F.mono (mt (mt n g) B)).mono c) z z ah)<|cn (fun _ c=>bn' z)<|cn (fun _ c=>Y' sc3 z (aD' (H' (H' (aV' (ax' (ab' F ah))) (mt (mt n g) B)) c)))<|cn (fun _ c=>bn' z)<|cn (fun _ c=>f' 3 sc3 z z z)<|U' hb<|yy (av' z z) z<|u'<|aq'<|g'<|L' hr z (fun aK hr=>?_) (fun aK hr=>?_)
    .refine A'<|mv z z<|mv z z<|mv z z ?_
     obtain⟨J,aj,hr⟩:=hr
     refine yy (Q' w' aR' (F.mono (mt (mt n g) B)) z z aj) z ?_
     obtain⟨O,M,aC,an⟩:=bp' (H' (ab' F aj) (mt (mt n g) B))
     refine yy (aA' _ bJ' z z aC) z<|bd' (e:=110) (r:=b') (vs:=#[(0,.agg ((v110' J.id O J.p M)).toArray)]) (cs:=(v110' J.id O J.p M)++([])) ([J]:List Zb) z z z z z (by decide) (fun _=>by kernel_rfl) ⟨(v110' J.id O J.p M),[],z,⟨[i' J.id],[.slice O J.p.length M],z,z,⟨_,z,an⟩⟩,z⟩ (key:=999) z (by rw[H]; rfl) (fun p4 a2 S aD=>?_)
     obtain⟨aw,hr⟩:=hr
     refine bS' (r:=b') 1005 z z w' el110 z (by decide) z z (T.mono S) z (by rw[H]; rfl) P aD aw fun p5 aG av aL af ax ao=>sg z z<|u'<|J'<|g'<|A'<|mv z z<|yy (W' z z) z<|sg z z<|u'<|X' ⟨(o++[J]),p5,aG,av,u,i64.wrap (K+1),aL⟩ hr ⟨(mt (mt (mt g B) S) af),ax,ao⟩ (f5 z z z z z) (w2 z z)
    refine q'<|J'<|g'<|A'<|mv z z<|yy (W' z z) z<|sg z z<|u'<|X' ⟨o,v,t,q,u,i64.wrap (K+1),I⟩ hr ⟨(mt g B),T,P⟩ (f5 z z z z z) (w2 z z)
   refine am'<|r'<|r'<|O'<|ao' ⟨h,k,l,f,m,x⟩ ⟨g,E,D,hr⟩ (f3 z z z) (w2 z z)
 rintro⟨p,C,A,y,s,L⟩ ⟨ae,R,Z,hr⟩
 refine g'<|n'<|sr<|mv z z<|yy (aj' z) z<|nx<|aL' hr z (fun aO hr=>?_) (fun aO hr=>?_)
 .refine A'<|mv z z<|yy (o' 3 bJ' z z z) z<|bd' (e:=110) (r:=b') (vs:=#[(0,.agg ((v110' d.id i d.p j)).toArray)]) (cs:=(v110' d.id i d.p j)++([])) ([d]:List Zb) z z z z z (by decide) (fun _=>by kernel_rfl) ⟨(v110' d.id i d.p j),[],z,⟨[i' d.id],[.slice i d.p.length j],z,z,⟨_,z,(aa.mono (mt n ae))⟩⟩,z⟩ (key:=999) z (by rw[H]; rfl) (fun p2 a1 ad aJ=>?_)
  obtain⟨au,hr⟩:=hr
  refine bS' (r:=b') 1005 z z w' el110 z (by decide) z z (R.mono ad) z (by rw[H]; rfl) Z aJ au fun p3 aZ aW a3 aP ay aV=>sg z z<|nr<|mv z z<|sg z z<|nx<|j' ?_
  obtain rfl:_=r:=hr
  exact k' z z ⟨_,_,z,ay⟩
 refine q'<|g'<|sr<|mv z z<|sg z z<|nx<|j' ?_
 obtain rfl:_=r:=hr
 exact k' z z ⟨_,_,z,R⟩
theorem eF'{I C B A r}(hr:(Zde I C).Ret r):Ctr prog 104 #[.slice B I.length A,i' C] (fun G=>sl b' G B A I) (wl' b' r):=by
 refine E' (args:=[_,_]) (N:=29) func104 z z z (fun S T F M=>?_)
 have v:=M
 refine sr<|sg z z<|nr<|bd' (e:=110) (r:=b') (vs:=#[]) (cs:=[]) ([]:List Zb) z z z z z (by decide) (fun _=>by kernel_rfl) (z) (key:=999) z (by rw[F]; rfl) fun p1 D m aa=>sg z z<|nx<|n'<|sr<|sg z z<|nx<|ak' (fun (⟨i,k,l,j,q⟩:(List Zb)×Option Addr×Nat×Option Ow×Mem)=>[(5,.slice k i.length l)]) (fun ⟨i,k,l,j,q⟩=>Mem.le D q/\sl b' q k l i/\Tok 2 110 (.slice k i.length l) i.length j/\(Zfx i).Ret r) (fun ⟨i,k,l,j,q⟩=>St S T q [(1005,j)]) ?_ ?_
 .refine C' ?_
  let E:(List Zb)->Prop:=fun oo=>((fun ov=>match ov with|i=>Zfx i:(List Zb)->Cq (List Zb)) oo).wp (fun a=>a=r)
  replace hr:(Cq.loop _ _).wp E:=hr
  refine al' (Φ:=E) (fun (⟨d,g,f,c,x,n⟩:(List Zb)×Option Addr×Nat×Option Ow×Int×Mem)=>((d,x):(List Zb)×Int)) (fun ⟨d,g,f,c,x,n⟩=>[(0,.slice B I.length A),(1,i' C),(5,.slice g d.length f),(6,i' x)]) (fun ⟨d,g,f,c,x,n⟩=>Mem.le D n/\sl b' n g f d/\Tok 2 110 (.slice g d.length f) d.length c) (fun ⟨d,g,f,c,x,n⟩=>St S T n [(1005,c)]) ⟨[],p1,0,none,0,D⟩ hr (f4 z z z z) ⟨mr,aa,dg'⟩ (wk (lw ln)) ?_
  .intro al gx hx hr
   obtain⟨d,g,f,c,x,n⟩:=gx
   obtain⟨h,s,o⟩:=hx
   refine n'<|sr<|mv z z<|mv z z<|yy (M' w' (v.mono (mt m h)) z) z<|yy (ag' z z) z<|nx<|L' hr z (fun ab hr=>?_) (fun ab hr=>?_)
   .refine q'<|g'<|n'<|C'<|sr<|mv z z<|mv z z ?_
    obtain⟨x1,K,hr⟩:=hr
    refine yy (Q' w' aR' (v.mono (mt m h)) z z K) z<|yy (bn' z) z<|yy (Y' sc3 z (aD' (H' (aV' (ax' (ab' v K))) (mt m h)))) z<|mv z z<|yy (av' z z) z<|nx<|L' hr z (fun Z hr=>?_) (fun Z hr=>?_)
    .refine A'<|mv z z<|mv z z<|mv z z ?_
     obtain⟨p,L,hr⟩:=hr
     refine yy (Q' w' aR' (v.mono (mt m h)) z z L) z ?_
     obtain⟨t,u,X,Q⟩:=bp' (H' (ab' v L) (mt m h))
     refine yy (aA' _ bJ' z z X) z<|bd' (e:=110) (r:=b') (vs:=#[(0,.agg ((v110' p.id t p.p u)).toArray)]) (cs:=(v110' p.id t p.p u)++([])) ([p]:List Zb) z z z z z (by decide) (fun _=>by kernel_rfl) ⟨(v110' p.id t p.p u),[],z,⟨[i' p.id],[.slice t p.p.length u],z,z,⟨_,z,Q⟩⟩,z⟩ (key:=999) z (by rw[F]; rfl) (fun p2 ak y W=>?_)
     obtain⟨O,hr⟩:=hr
     refine bS' (r:=b') 1005 z z w' el110 z (by decide) z z (s.mono y) z (by rw[F]; rfl) o W O fun p3 U R ac J V P=>sg z z<|u'<|J'<|g'<|A'<|mv z z<|yy (W' z z) z<|sg z z<|u'<|X' ⟨(d++[p]),p3,U,R,i64.wrap (x+1),ac⟩ hr ⟨(mt (mt h y) J),V,P⟩ (f4 z z z z) (w1 z)
    refine q'<|J'<|g'<|A'<|mv z z<|yy (W' z z) z<|sg z z<|u'<|X' ⟨d,g,f,c,i64.wrap (x+1),n⟩ hr ⟨h,s,o⟩ (f4 z z z z) (w1 z)
   refine am'<|r'<|r'<|O'<|ao' ⟨d,g,f,c,n⟩ ⟨h,s,o,hr⟩ (f1 z) (w1 z)
 rintro⟨i,k,l,j,q⟩ ⟨ad,H,Y,hr⟩
 refine g'<|sr<|mv z z<|sg z z<|nx<|j' ?_
 obtain rfl:_=r:=hr
 exact k' z z ⟨_,_,z,H⟩
theorem gd'{c p d e n o k h s q r}(hr:(ZgJ c p).Ret r):Ctr prog 74 #[.agg ((v31' c d e n o k h)).toArray,.agg ((v48' p s q)).toArray] (fun G=>sl Rp.str G d e c.vars/\sl b' G n o c.eqs/\sl b' G k h c.neqs/\sl I' G s q p.p) (w31' r):=by
 refine E' (args:=[_,_]) (N:=117) func74 z z z (fun w0 G0 bH aB=>?_)
 obtain⟨m,g,f,B⟩:=aB
 refine sr<|ad' 2 z z z fun b1=>ad' 3 z z z fun b2=>T' 4 z z31 z fun b3=>nr<|yy (o' 2 ar' z z z) z<|T' 5 z z31 z fun b4=>s' 5 z aU' z z z z z (List.all_eq_true.1 z)<|nr<|yy (aQ' z) z<|yy (f' 3 sc3 z z z) z<|yy (dl' z) z<|yy (f' 3 cA' z z z) z<|yy (aw' (vs:=#[(0,i' p.id),(1,.slice s p.p.length q)]) (v:=.agg ((v110' p.id s p.p q)).toArray) z z (fun _=>by kernel_rfl)) z<|T' 6 z z110 z fun b5=>s' 6 z aR' z z z z z (List.all_eq_true.1 z)<|nx<|n'<|ah' [ff,ff,ff,ff,ff,ff,ff,ff,ff] mix (by kernel_rfl) fun hb=>cn (fun _ l=>aX' z)<|cn (fun _ l=>f' 2 bq' z z z)<|cn (fun _ l=>aQ' z)<|cn (fun _ l=>f' 3 sc3 z z z) ?_
 obtain⟨bM,aF,hr⟩:=hr
 refine bB' z (fun _=>t' E93 z) (dD' aF) z (fun G' l=>(g.mono l))<|cn (fun _ l=>aZ' z)<|cn (fun _ l=>f' 2 bq' z z z)<|cn (fun _ l=>aQ' z)<|cn (fun _ l=>f' 3 sc3 z z z)<|U' hb ?_
 obtain⟨bI,ay,hr⟩:=hr
 refine D' z z (t' E93 z) (dD' ay) z (f)<|sg z z<|sg z z<|u'<|aq'<|g'<|n'<|sr<|yy (cv' z) z<|yy (f' 3 sc3 z z z) z<|nx<|C'<|sr<|yy (at' z z) z<|sg z z<|nx<|L' hr z (fun bn hr=>?_) (fun bn hr=>?_)
 .refine aM' (fun (⟨x,C,A,D⟩:Zb×Option Addr×Nat×Mem)=>[(2,.pointer (some ⟨b1,0,none⟩)),(3,.pointer (some ⟨b2,0,none⟩)),(4,.pointer (some ⟨b3,0,none⟩)),(5,.pointer (some ⟨b4,0,none⟩)),(6,.pointer (some ⟨b5,0,none⟩))]) (fun ⟨x,C,A,D⟩=>Mem.le G0 D/\sl I' D C A x.p/\(ZaG c p x).Ret r) (fun ⟨x,C,A,D⟩=>St w0 G0 D [(2,some ⟨b1,.cells ((v31' c d e n o k h)).toArray 31 (0,0),0⟩),(3,some ⟨b2,.cells ((v48' p s q)).toArray 48 (0,0),0⟩),(4,some ⟨b3,.cells ([.slice none 0 0,.slice none 0 0,.slice none 0 0,i' 0]).toArray 31 (0,0),0⟩),(5,some ⟨b4,.cells ((v31' c d e n o k h)).toArray 31 (0,0),0⟩),(6,some ⟨b5,.cells ((v110' x.id C x.p A)).toArray 110 (0,0),0⟩)]) ?_ ?_
  .refine sr<|yy (aQ' z) z<|yy (f' 3 sc3 z z z) z<|yy (at' z z) z<|nx<|L' hr z (fun bd hr=>?_) (fun bd hr=>?_)
   .refine A'<|yy (bw' z) z<|yy (f' 2 sc3 z z z) z<|yy (bn' z) z<|aG' 6 ([i' c.next,.slice s p.p.length q]).toArray z sz3 z z z (show 0<2 by decide) z z<|u'<|ap' ⟨(Zb.mk c.next p.p),s,q,G0⟩ ⟨mr,B,hr⟩ (f5 z z z z z) (w5 z z z z z)
   refine q'<|ap' ⟨(Zb.mk p.id p.p),s,q,G0⟩ ⟨mr,B,hr⟩ (f5 z z z z z) (w5 z z z z z)
  rintro⟨x,C,A,D⟩ ⟨y,P,hr⟩
  refine sr<|yy (bw' z) z<|yy (f' 2 sc3 z z z) z<|yy (bn' z) z<|yy (f' 6 sc3 z z z) z<|yy (W' z z) z<|yy (en' z z) z<|yy (bw' z) z<|aG' 5 ([.slice d c.vars.length e,.slice n c.eqs.length o,.slice k c.neqs.length h,i' (if c.next<(i64.wrap (x.id+1)) then (i64.wrap (x.id+1)) else c.next)]).toArray z sz3 z z z (show 3<4 by decide) z z<|nr<|yy (dz' z) z<|yy (f' 3 sc4 z z z) z<|nx<|aL' hr z (fun bm hr=>?_) (fun bm hr=>?_)
  .refine A'<|yy (aZ' z) z<|yy (f' 2 bq' z z z) z<|yy (o' 6 bJ' z z z) z ?_
   obtain⟨bg,a2,hr⟩:=hr
   refine P' z z (t' E103 z) (eb' a2) z (⟨(f.mono y),P⟩) (fun bs bL O Z=>?_)
   obtain⟨aS,aL,rfl,aG⟩:=Z
   refine yy (aZ' z) z<|aG' 5 ([.slice d c.vars.length e,.slice n c.eqs.length o,.slice aS bg.length aL,i' (if c.next<(i64.wrap (x.id+1)) then (i64.wrap (x.id+1)) else c.next)]).toArray z sz29 z z z (show 2<4 by decide) z z<|u'<|J'<|g'<|sr<|yy (o' 5 ar' z z z) z<|s' 4 z aU' z z z z z (List.all_eq_true.1 z)<|nx<|j' ?_
   obtain rfl:_=r:=hr
   exact k' z (ac' (i:=4) ar' z z z) ⟨_,_,_,_,_,_,z,(m.mono (mt y O)),(g.mono (mt y O)),aG⟩
  refine A'<|yy (aX' z) z<|yy (f' 2 bq' z z z) z<|yy (o' 6 bJ' z z z) z ?_
  obtain⟨bl,aH,hr⟩:=hr
  refine P' z z (t' E103 z) (eb' aH) z (⟨(g.mono y),P⟩) (fun bD bP T X=>?_)
  obtain⟨aC,a0,rfl,aA⟩:=X
  refine yy (aX' z) z<|aG' 5 ([.slice d c.vars.length e,.slice aC bl.length a0,.slice k c.neqs.length h,i' (if c.next<(i64.wrap (x.id+1)) then (i64.wrap (x.id+1)) else c.next)]).toArray z sz29 z z z (show 1<4 by decide) z z<|u'<|J'<|g'<|sr<|yy (o' 5 ar' z z z) z<|s' 4 z aU' z z z z z (List.all_eq_true.1 z)<|nx<|j' ?_
  obtain rfl:_=r:=hr
  exact k' z (ac' (i:=4) ar' z z z) ⟨_,_,_,_,_,_,z,(m.mono (mt y T)),aA,(f.mono (mt y T))⟩
 refine sr<|yy (at' z z) z<|sg z z<|nx<|L' hr z (fun bb hr=>?_) (fun bb hr=>?_)
 .refine sr<|yy (aX' z) z<|yy (f' 2 bq' z z z) z<|yy (aQ' z) z<|yy (f' 3 sc3 z z z) z ?_
  obtain⟨ax,aR,hr⟩:=hr
  refine P' z z (t' E104 z) (eF' aR) z (g) (fun bu bO M aa=>?_)
  obtain⟨ah,ae,rfl,aV⟩:=aa
  refine yy (aX' z) z<|aG' 5 ([.slice d c.vars.length e,.slice ah ax.length ae,.slice k c.neqs.length h,i' c.next]).toArray z sz29 z z z (show 1<4 by decide) z z<|nx<|A'<|yy (aZ' z) z<|yy (f' 2 bq' z z z) z<|yy (aQ' z) z<|yy (f' 3 sc3 z z z) z ?_
  obtain⟨bh,aK,hr⟩:=hr
  refine P' z z (t' E104 z) (eF' aK) z ((f.mono M)) (fun br bQ Q Y=>?_)
  obtain⟨aY,aZ,rfl,aQ⟩:=Y
  refine yy (aZ' z) z<|aG' 5 ([.slice d c.vars.length e,.slice ah ax.length ae,.slice aY bh.length aZ,i' c.next]).toArray z sz29 z z z (show 2<4 by decide) z z<|u'<|J'<|g'<|sr<|yy (o' 5 ar' z z z) z<|s' 4 z aU' z z z z z (List.all_eq_true.1 z)<|nx<|j' ?_
  obtain rfl:_=r:=hr
  exact k' z (ac' (i:=4) ar' z z z) ⟨_,_,_,_,_,_,z,(m.mono (mt M Q)),(aV.mono Q),aQ⟩
 refine sr<|yy (at' z z) z<|sg z z<|nx<|L' hr z (fun a9 hr=>?_) (fun a9 hr=>?_)
 .refine sr<|mv z z<|yy (be' z z) z<|nx<|L' hr z (fun bc hr=>?_) (fun bc hr=>?_)
  .refine A'<|yy (aX' z) z<|yy (f' 2 bq' z z z) z<|yy (o' 6 bJ' z z z) z ?_
   obtain⟨ba,aP,hr⟩:=hr
   refine P' z z (t' E103 z) (eb' aP) z (⟨g,B⟩) (fun bB bK U ab=>?_)
   obtain⟨a3,a1,rfl,aW⟩:=ab
   refine yy (aX' z) z<|aG' 5 ([.slice d c.vars.length e,.slice a3 ba.length a1,.slice k c.neqs.length h,i' c.next]).toArray z sz29 z z z (show 1<4 by decide) z z<|u'<|J'<|g'<|sr<|yy (o' 5 ar' z z z) z<|s' 4 z aU' z z z z z (List.all_eq_true.1 z)<|nx<|j' ?_
   obtain rfl:_=r:=hr
   exact k' z (ac' (i:=4) ar' z z z) ⟨_,_,_,_,_,_,z,(m.mono U),aW,(f.mono U)⟩
  refine A'<|yy (aZ' z) z<|yy (f' 2 bq' z z z) z<|yy (o' 6 bJ' z z z) z ?_
  obtain⟨a8,aU,hr⟩:=hr
  refine P' z z (t' E103 z) (eb' aU) z (⟨f,B⟩) (fun bz bG V ac=>?_)
  obtain⟨aD,aI,rfl,aJ⟩:=ac
  refine yy (aZ' z) z<|aG' 5 ([.slice d c.vars.length e,.slice n c.eqs.length o,.slice aD a8.length aI,i' c.next]).toArray z sz29 z z z (show 2<4 by decide) z z<|u'<|J'<|g'<|sr<|yy (o' 5 ar' z z z) z<|s' 4 z aU' z z z z z (List.all_eq_true.1 z)<|nx<|j' ?_
  obtain rfl:_=r:=hr
  exact k' z (ac' (i:=4) ar' z z z) ⟨_,_,_,_,_,_,z,(m.mono V),(g.mono V),aJ⟩
 refine sr<|yy (at' z z) z<|sg z z<|nx<|L' hr z (fun bi hr=>?_) (fun bi hr=>?_)
 .refine sr<|yy (aX' z) z<|yy (f' 2 bq' z z z) z<|yy (aQ' z) z<|yy (f' 3 sc3 z z z) z ?_
  obtain⟨af,aE,hr⟩:=hr
  refine P' z z (t' E104 z) (eF' aE) z (g) (fun bC bJ u W=>?_)
  obtain⟨L,K,rfl,aX⟩:=W
  refine yy (aX' z) z<|aG' 5 ([.slice d c.vars.length e,.slice L af.length K,.slice k c.neqs.length h,i' c.next]).toArray z sz29 z z z (show 1<4 by decide) z z<|nr<|yy (aZ' z) z<|yy (f' 2 bq' z z z) z<|yy (aQ' z) z<|yy (f' 3 sc3 z z z) z ?_
  obtain⟨ad,au,hr⟩:=hr
  refine P' z z (t' E104 z) (eF' au) z ((f.mono u)) (fun bo bN t H=>?_)
  obtain⟨R,S,rfl,am⟩:=H
  refine yy (aZ' z) z<|aG' 5 ([.slice d c.vars.length e,.slice L af.length K,.slice R ad.length S,i' c.next]).toArray z sz29 z z z (show 2<4 by decide) z z<|nr<|mv z z<|yy (be' z z) z<|nx<|L' hr z (fun a4 hr=>?_) (fun a4 hr=>?_)
  .refine ah' [ff,ff,ff,ff,ff,ff,ff] mix (by kernel_rfl) fun hb=>cn (fun _ l=>aZ' z)<|cn (fun _ l=>f' 2 bq' z z z)<|cn (fun _ l=>aX' z)<|cn (fun _ l=>f' 2 bq' z z z)<|cn (fun _ l=>e' z) ?_
   obtain⟨x1,av,hr⟩:=hr
   refine cn (fun _ l=>Q' w' aR' ((g.mono (mt u t)).mono l) z z av) ?_
   obtain⟨bA,bx,a6,az⟩:=bp' (H' (ab' g av) (mt u t))
   refine cn (fun _ l=>aA' _ bJ' z z (fun j v hv=>l _ _ _ (a6 j v hv)))<|U' hb ?_
   obtain⟨aN,ap,hr⟩:=hr
   refine P' z z (t' E103 z) (eb' ap) z (⟨(f.mono (mt u t)),az⟩) (fun bp bw F I=>?_)
   obtain⟨an,aq,rfl,aj⟩:=I
   refine yy (aZ' z) z<|aG' 5 ([.slice d c.vars.length e,.slice L af.length K,.slice an aN.length aq,i' c.next]).toArray z sz29 z z z (show 2<4 by decide) z z<|u'<|aq'<|J'<|g'<|sr<|yy (o' 5 ar' z z z) z<|s' 4 z aU' z z z z z (List.all_eq_true.1 z)<|nx<|j' ?_
   obtain rfl:_=r:=hr
   exact k' z (ac' (i:=4) ar' z z z) ⟨_,_,_,_,_,_,z,(m.mono (mt (mt u t) F)),(aX.mono (mt t F)),aj⟩
  refine ah' [ff,ff,ff,ff,ff,ff,ff] mix (by kernel_rfl) fun hb=>cn (fun _ l=>aX' z)<|cn (fun _ l=>f' 2 bq' z z z)<|cn (fun _ l=>aZ' z)<|cn (fun _ l=>f' 2 bq' z z z)<|cn (fun _ l=>e' z) ?_
  obtain⟨x2,aw,hr⟩:=hr
  refine cn (fun _ l=>Q' w' aR' ((f.mono (mt u t)).mono l) z z aw) ?_
  obtain⟨bE,bv,a5,aM⟩:=bp' (H' (ab' f aw) (mt u t))
  refine cn (fun _ l=>aA' _ bJ' z z (fun j v hv=>l _ _ _ (a5 j v hv)))<|U' hb ?_
  obtain⟨aO,ao,hr⟩:=hr
  refine P' z z (t' E103 z) (eb' ao) z (⟨(g.mono (mt u t)),aM⟩) (fun bq bF E J=>?_)
  obtain⟨ar,al,rfl,ak⟩:=J
  refine yy (aX' z) z<|aG' 5 ([.slice d c.vars.length e,.slice ar aO.length al,.slice R ad.length S,i' c.next]).toArray z sz29 z z z (show 1<4 by decide) z z<|u'<|aq'<|J'<|g'<|sr<|yy (o' 5 ar' z z z) z<|s' 4 z aU' z z z z z (List.all_eq_true.1 z)<|nx<|j' ?_
  obtain rfl:_=r:=hr
  exact k' z (ac' (i:=4) ar' z z z) ⟨_,_,_,_,_,_,z,(m.mono (mt (mt u t) E)),ak,(am.mono E)⟩
 refine q'<|J'<|g'<|sr<|yy (o' 5 ar' z z z) z<|s' 4 z aU' z z z z z (List.all_eq_true.1 z)<|nx<|j' ?_
 obtain rfl:_=r:=hr
 exact k' z (ac' (i:=4) ar' z z z) ⟨_,_,_,_,_,_,z,m,g,f⟩
theorem er'{d f q s m n j h H F r}(hr:(Z9 d f).Ret r):Ctr prog 55 #[.agg ((v31' d q s m n j h)).toArray,.agg ((v48' f H F)).toArray] (fun G=>sl Rp.str G q s d.vars/\sl b' G m n d.eqs/\sl b' G j h d.neqs/\sl I' G H F f.p) (w31t' r):=by
 refine E' (args:=[_,_]) (N:=157) func55 z z z (fun w0 G0 U a9=>?_)
 obtain⟨g,l,k,C⟩:=a9
 refine sr<|ad' 2 z z z fun b1=>ad' 3 z z z fun b2=>T' 4 z z31 z fun b3=>sg z z<|nr<|yy (o' 2 ar' z z z) z<|yy (o' 3 bL' z z z) z ?_
 obtain⟨c0,bb,hr⟩:=hr
 refine D' z z (t' E71 z) (fN' bb) z (⟨g,l,k,C⟩)<|sg z z<|nx<|n'<|sr<|mv z z<|yy (av' z z) z<|nx<|L' hr z (fun ca hr=>?_) (fun ca hr=>?_)
 .refine sr<|yy (aw' (vs:=#[]) (v:=.agg ([.slice none 0 0,.slice none 0 0,.slice none 0 0,i' 0]).toArray) z z (fun _=>by kernel_rfl)) z<|mv z z<|s' 4 z aU' z z z z z (List.all_eq_true.1 z)<|sg z z<|nx<|j'<|a' ?_
  obtain rfl:_=r:=hr
  exact aC' z (ac' (i:=4) ar' z z z) z ⟨_,_,_,_,_,_,z,(V' Rp.str _),(V' b' _),(V' b' _)⟩
 refine q'<|g'<|sr<|yy (aF' z) z<|yy (f' 2 bA' z z z) z<|yy (M' F' g z) z<|sg z z<|nr<|yy (o' 2 ar' z z z) z<|T' 8 z z31 z fun b4=>s' 8 z aU' z z z z z (List.all_eq_true.1 z)<|nr<|WL.litT (e:=9) (r:=Rp.str) (vs:=#[]) (cs:=[]) ([]:List ByteArray) 4021 z z z z z (by decide) (fun _=>by kernel_rfl) (z) fun p1 cF bI=>yy (aF' z) z<|yy (f' 2 bA' z z z) z ?_
 obtain⟨bi,hr⟩:=hr
 refine cx' (r:=Rp.str) (e:=9) 4021 z z F' el9 z (by decide) z z bI z g bi fun p2 am cv Z=>yy (aF' z) z<|aG' 8 ([.slice p2 ([]++d.vars).length am,.slice m d.eqs.length n,.slice j d.neqs.length h,i' d.next]).toArray z sz28 z z z (show 0<4 by decide) z z<|nx<|n'<|sr<|yy (cv' z) z<|yy (f' 3 sc3 z z z) z<|nx<|C'<|sr<|yy (at' z z) z<|sg z z<|nx<|L' hr z (fun b8 hr=>?_) (fun b8 hr=>?_)
 .refine n'<|ah' [ff,ff,ff,ff,ff,ff,ff,ff,ff,ff,ff,ff,ff,ff,ff,ff] mix (by kernel_rfl) fun o=>ej' (r:=Rp.str) (e:=9) ([]:List ByteArray) (fun _=>z) z (by decide) (fun u p c t=>?_) ?_
  .exact⟨#[],[],z,z,fun _=>by kernel_rfl,z⟩
  refine cu (fun _ _ c=>aF' z)<|cu (fun _ _ c=>f' 2 bA' z z z)<|cu (fun _ _ c=>aI' z)<|cu (fun _ _ c=>f' 3 sc3 z z z) ?_
  obtain⟨b6,hr⟩:=hr
  obtain⟨p3,bN,bF,bP⟩:=SlR.cut (r:=Rp.str) none (some (i' f.at')) sz9 z F' g (.inl ⟨z,z⟩) (.inr ⟨_,z⟩) b6
  refine cu (fun _ _ c=>Y0.cutH F' bP z z) ?_
  obtain⟨bA,hr⟩:=hr
  refine cD' (r:=Rp.str) (e:=9) (kk:=33) (xs:=([]:List ByteArray)) ((d.vars.take f.at'.toNat).drop (0:Int).toNat) (fun _=>z) z (by kernel_rfl) (by kernel_rfl) F' el9 z (by decide) bA (fun u p c t=>?_) ?_
  .obtain⟨aP,_⟩:=(show (RowX Rp.str 9 33 ([]:List ByteArray)) (u 33) p/\True from t)
   exact⟨u 33,.slice p3 ((d.vars.take f.at'.toNat).drop (0:Int).toNat).length bN,aP,z,z,(bF.mono c)⟩
  refine cu (fun _ _ c=>bW' z)<|cu (fun _ _ c=>f' 3 sc9 z z z)<|Chain.litU (r:=Rp.str) (e:=9) ([f.name]:List ByteArray) (fun _=>z) z (by decide) (fun u p c t=>?_) ?_
  .exact⟨#[(0,.string f.name)],[.string f.name]++([]),z,z,fun _=>by kernel_rfl,⟨[.string f.name],[],z,z,z⟩⟩
  obtain⟨a8,hr⟩:=hr
  refine cD' (r:=Rp.str) (e:=9) (kk:=39) (xs:=(([]:List ByteArray)++((d.vars.take f.at'.toNat).drop (0:Int).toNat))) [f.name] (fun _=>z) z (by kernel_rfl) (by kernel_rfl) F' el9 z (by decide) a8 (fun u p c t=>?_) ?_
  .obtain⟨⟨p4,al,aI,aX⟩,aA,_,_⟩:=(show (fun G v=>∃ p4 al,v = .slice p4 1 1/\SlRd Rp.str G (.slice p4 1 1) al [f.name]) p.m (u 42)/\(RowX Rp.str 9 39 (([]:List ByteArray)++((d.vars.take f.at'.toNat).drop (0:Int).toNat))) (u 39) p/\True/\True from t)
   exact⟨u 39,.slice p4 1 1,aA,z,(by simp only[undFr,eatO,List.map_cons,List.map_nil,aI] <;> rfl),aX⟩
  refine cu (fun _ _ c=>aF' z)<|cu (fun _ _ c=>f' 2 bA' z z z)<|cu (fun _ _ c=>aI' z)<|cu (fun _ _ c=>f' 3 sc3 z z z) ?_
  obtain⟨bG,hr⟩:=hr
  obtain⟨p5,cZ,bD,b7⟩:=SlR.cut (r:=Rp.str) (some (i' f.at')) none sz9 z F' g (.inr ⟨_,z⟩) (.inl ⟨z,z⟩) bG
  refine cu (fun _ _ c=>Y0.cutL F' b7 z z)<|cC' (fun cE cK cx cR X1 P ai ah bC bB=>?_)
  obtain⟨p4,al,rfl,aX⟩:=ah
  refine WL.adoptR ai (fun cP cC cf bm bt cL=>?_)
  subst bm
  refine cj' (show WL _ _ _ _ _ _ (St w0 G0 X1.m _) from ?_)
  obtain⟨bp,hr⟩:=hr
  refine cx' (r:=Rp.str) (e:=9) 43 z z F' el9 z (by decide) z z bt z (bD.mono P) bp fun p6 aw cN b9=>yy (aF' z) z<|aG' 8 ([.slice p6 (((([]:List ByteArray)++((d.vars.take f.at'.toNat).drop (0:Int).toNat))++[f.name])++((d.vars.take (d.vars.length:Int).toNat).drop f.at'.toNat)).length aw,.slice m d.eqs.length n,.slice j d.neqs.length h,i' d.next]).toArray z sz28 z z z (show 0<4 by decide) z z<|u'<|aq'<|g'<|n'<|ah' [ff,ff,ff,ff,ff,ff] mix (by kernel_rfl) fun o=>cn (fun _ c=>aX' z)<|cn (fun _ c=>f' 2 bq' z z z)<|cn (fun _ c=>e' z)<|cn (fun _ c=>aI' z)<|cn (fun _ c=>f' 3 sc3 z z z) ?_
  obtain⟨c6,bg,hr⟩:=hr
  refine bB' z (fun _=>t' E73 z) (dF' bg) z (fun p c=>trivial)<|U' o ?_
  obtain⟨a1,bj,hr⟩:=hr
  refine P' z z (t' E72 z) (dH' bj) z ((l.mono P)) (fun cI cY X aj=>?_)
  obtain⟨ay,ax,rfl,bw⟩:=aj
  refine yy (aX' z) z<|aG' 8 ([.slice p6 (((([]:List ByteArray)++((d.vars.take f.at'.toNat).drop (0:Int).toNat))++[f.name])++((d.vars.take (d.vars.length:Int).toNat).drop f.at'.toNat)).length aw,.slice ay a1.length ax,.slice j d.neqs.length h,i' d.next]).toArray z sz29 z z z (show 1<4 by decide) z z<|u'<|aq'<|g'<|ah' [ff,ff,ff,ff,ff,ff] mix (by kernel_rfl) fun o=>cn (fun _ c=>aZ' z)<|cn (fun _ c=>f' 2 bq' z z z)<|cn (fun _ c=>e' z)<|cn (fun _ c=>aI' z)<|cn (fun _ c=>f' 3 sc3 z z z) ?_
  obtain⟨cX,bq,hr⟩:=hr
  refine bB' z (fun _=>t' E73 z) (dF' bq) z (fun p c=>trivial)<|U' o ?_
  obtain⟨bK,ba,hr⟩:=hr
  refine P' z z (t' E72 z) (dH' ba) z ((k.mono (mt P X))) (fun cJ c5 ad ag=>?_)
  obtain⟨bh,bf,rfl,bx⟩:=ag
  refine yy (aZ' z) z<|aG' 8 ([.slice p6 (((([]:List ByteArray)++((d.vars.take f.at'.toNat).drop (0:Int).toNat))++[f.name])++((d.vars.take (d.vars.length:Int).toNat).drop f.at'.toNat)).length aw,.slice ay a1.length ax,.slice bh bK.length bf,i' d.next]).toArray z sz29 z z z (show 2<4 by decide) z z<|u'<|aq'<|J'<|g'<|sr<|bM' (r:=Rp.str) (e:=9) 43 (b9.mono (mt X ad)) z (by rw[U]; rfl) fun cU c4 V br ce=>yy (o' 8 ar' z z z) z<|s' 4 z aU' z z z z z (List.all_eq_true.1 z)<|sg z z<|nx<|j' ?_
  obtain rfl:_=r:=hr
  exact aC' z (ac' (i:=4) ar' z z z) z ⟨_,_,_,_,_,_,z,br,(bw.mono (mt ad V)),(bx.mono V)⟩
 refine sr<|yy (at' z z) z<|sg z z<|nx<|L' hr z (fun bZ hr=>?_) (fun bZ hr=>?_)
 .refine n'<|ah' [ff,ff,ff,ff,ff,ff,ff,ff,ff,ff,ff,ff,ff] mix (by kernel_rfl) fun o=>ej' (r:=Rp.str) (e:=9) ([]:List ByteArray) (fun _=>z) z (by decide) (fun u p c t=>?_) ?_
  .exact⟨#[],[],z,z,fun _=>by kernel_rfl,z⟩
  refine cu (fun _ _ c=>aF' z)<|cu (fun _ _ c=>f' 2 bA' z z z)<|cu (fun _ _ c=>aI' z)<|cu (fun _ _ c=>f' 3 sc3 z z z) ?_
  obtain⟨bR,hr⟩:=hr
  obtain⟨p7,bV,bQ,bU⟩:=SlR.cut (r:=Rp.str) none (some (i' f.at')) sz9 z F' g (.inl ⟨z,z⟩) (.inr ⟨_,z⟩) bR
  refine cu (fun _ _ c=>Y0.cutH F' bU z z) ?_
  obtain⟨bk,hr⟩:=hr
  refine cD' (r:=Rp.str) (e:=9) (kk:=69) (xs:=([]:List ByteArray)) ((d.vars.take f.at'.toNat).drop (0:Int).toNat) (fun _=>z) z (by kernel_rfl) (by kernel_rfl) F' el9 z (by decide) bk (fun u p c t=>?_) ?_
  .obtain⟨ao,_⟩:=(show (RowX Rp.str 9 69 ([]:List ByteArray)) (u 69) p/\True from t)
   exact⟨u 69,.slice p7 ((d.vars.take f.at'.toNat).drop (0:Int).toNat).length bV,ao,z,z,(bQ.mono c)⟩
  refine cu (fun _ _ c=>aF' z)<|cu (fun _ _ c=>f' 2 bA' z z z)<|cu (fun _ _ c=>aI' z)<|cu (fun _ _ c=>f' 3 sc3 z z z)<|cu (fun _ _ c=>W' z z) ?_
  obtain⟨bY,hr⟩:=hr
  obtain⟨p8,c8,bJ,cb⟩:=SlR.cut (r:=Rp.str) (some (i' (i64.wrap (f.at'+1)))) none sz9 z F' g (.inr ⟨_,z⟩) (.inl ⟨z,z⟩) bY
  refine cu (fun _ _ c=>Y0.cutL F' cb z z)<|ef' fun cp cd X2 S M a7=>WL.adoptR M (fun cg cq bS aD aB cr=>?_)
  subst aD
  refine cj' (show WL _ _ _ _ _ _ (St w0 G0 X2.m _) from ?_)
  obtain⟨bl,hr⟩:=hr
  refine cx' (r:=Rp.str) (e:=9) 75 z z F' el9 z (by decide) z z aB z (bJ.mono S) bl fun p9 av cw bE=>yy (aF' z) z<|aG' 8 ([.slice p9 ((([]:List ByteArray)++((d.vars.take f.at'.toNat).drop (0:Int).toNat))++((d.vars.take (d.vars.length:Int).toNat).drop (i64.wrap (f.at'+1)).toNat)).length av,.slice m d.eqs.length n,.slice j d.neqs.length h,i' d.next]).toArray z sz28 z z z (show 0<4 by decide) z z<|u'<|aq'<|g'<|n'<|ah' [ff,ff,ff,ff,ff,ff,ff] mix (by kernel_rfl) fun o=>cn (fun _ c=>aX' z)<|cn (fun _ c=>f' 2 bq' z z z)<|cn (fun _ c=>aI' z)<|cn (fun _ c=>f' 3 sc3 z z z)<|cn (fun _ c=>e' z)<|cn (fun _ c=>bi' z z) ?_
  obtain⟨cH,aK,hr⟩:=hr
  refine bB' z (fun _=>t' E73 z) (dF' aK) z (fun p c=>trivial)<|U' o ?_
  obtain⟨ar,aT,hr⟩:=hr
  refine P' z z (t' E72 z) (dH' aT) z ((l.mono S)) (fun ck c7 ac J=>?_)
  obtain⟨Y,T,rfl,aJ⟩:=J
  refine yy (aX' z) z<|aG' 8 ([.slice p9 ((([]:List ByteArray)++((d.vars.take f.at'.toNat).drop (0:Int).toNat))++((d.vars.take (d.vars.length:Int).toNat).drop (i64.wrap (f.at'+1)).toNat)).length av,.slice Y ar.length T,.slice j d.neqs.length h,i' d.next]).toArray z sz29 z z z (show 1<4 by decide) z z<|u'<|aq'<|g'<|ah' [ff,ff,ff,ff,ff,ff,ff] mix (by kernel_rfl) fun o=>cn (fun _ c=>aZ' z)<|cn (fun _ c=>f' 2 bq' z z z)<|cn (fun _ c=>aI' z)<|cn (fun _ c=>f' 3 sc3 z z z)<|cn (fun _ c=>e' z)<|cn (fun _ c=>bi' z z) ?_
  obtain⟨cB,aF,hr⟩:=hr
  refine bB' z (fun _=>t' E73 z) (dF' aF) z (fun p c=>trivial)<|U' o ?_
  obtain⟨bc,aC,hr⟩:=hr
  refine P' z z (t' E72 z) (dH' aC) z ((k.mono (mt S ac))) (fun co cV ae L=>?_)
  obtain⟨aQ,aR,rfl,aN⟩:=L
  refine yy (aZ' z) z<|aG' 8 ([.slice p9 ((([]:List ByteArray)++((d.vars.take f.at'.toNat).drop (0:Int).toNat))++((d.vars.take (d.vars.length:Int).toNat).drop (i64.wrap (f.at'+1)).toNat)).length av,.slice Y ar.length T,.slice aQ bc.length aR,i' d.next]).toArray z sz29 z z z (show 2<4 by decide) z z<|u'<|aq'<|J'<|g'<|sr<|bM' (r:=Rp.str) (e:=9) 75 (bE.mono (mt ac ae)) z (by rw[U]; rfl) fun da cS af bo cm=>yy (o' 8 ar' z z z) z<|s' 4 z aU' z z z z z (List.all_eq_true.1 z)<|sg z z<|nx<|j' ?_
  obtain rfl:_=r:=hr
  exact aC' z (ac' (i:=4) ar' z z z) z ⟨_,_,_,_,_,_,z,bo,(aJ.mono (mt ae af)),(aN.mono af)⟩
 refine sr<|yy (at' z z) z<|sg z z<|nx<|L' hr z (fun bW hr=>?_) (fun bW hr=>?_)
 .refine A'<|yy (aF' z) z<|yy (f' 8 bA' z z z) z<|yy (aI' z) z<|yy (f' 3 sc3 z z z) z<|yy (bW' z) z<|yy (f' 3 sc9 z z z) z ?_
  obtain⟨x1,aU,hr⟩:=hr
  refine yy (ba' F' sz9 Z z z aU) z<|bv' (r:=Rp.str) (e:=9) (cs':=[.string f.name]) (i:=f.at') (z':=f.name) 4021 z sz9 z Z z z z z z aU fun c9 bs=>u'<|J'<|g'<|sr<|bM' (r:=Rp.str) (e:=9) 4021 bs z (by rw[U]; rfl) fun c1 cT ab ak cj=>yy (o' 8 ar' z z z) z<|s' 4 z aU' z z z z z (List.all_eq_true.1 z)<|sg z z<|nx<|j' ?_
  obtain rfl:_=r:=hr
  exact aC' z (ac' (i:=4) ar' z z z) z ⟨_,_,_,_,_,_,(by rw[dj' ak]),(de' ak),(l.mono ab),(k.mono ab)⟩
 refine sr<|yy (at' z z) z<|sg z z<|nx<|L' hr z (fun bT hr=>?_) (fun bT hr=>?_)
 .refine sr ?_
  obtain⟨y,aO,hr⟩:=hr
  refine D' z z (t' E73 z) (dF' aO) z (trivial)<|T' 9 z z119 z fun b5=>s' 9 z sz119 z z z (Z' _ _ _) (Z' _ _ _) (fun u t=>Rp.one (dv' .i64 8) (G:=G0) (x:=y) (cs:=vecG (Value.int .i64) 8 y) z u (by first|simpa using t|simpa [Value.cells] using t))<|nr<|yy (aI' z) z<|yy (f' 3 sc3 z z z) z<|yy (cu' z) z<|yy (f' 3 sc3 z z z) z ?_
  obtain⟨b0,hr⟩:=hr
  refine yy (bg' bc' sz3 z z b0) z<|aG' 9 (vecG (Value.int .i64) 8 (setF y f.at'.toNat f.to')).toArray z sz3 z z z (by first|(rw[Z']; omega)|(show _<(vecG _ _ _).toArray.size; rw[Z']; omega)) z (cf' _ _ _ _ _)<|nr<|yy (cu' z) z<|yy (f' 3 sc3 z z z) z<|yy (aI' z) z<|yy (f' 3 sc3 z z z) z ?_
  obtain⟨bH,hr⟩:=hr
  refine yy (bg' bc' sz3 z z bH) z<|aG' 9 (vecG (Value.int .i64) 8 (setF (setF y f.at'.toNat f.to') f.to'.toNat f.at')).toArray z sz3 z z z (by first|(rw[Z']; omega)|(show _<(vecG _ _ _).toArray.size; rw[Z']; omega)) z (cf' _ _ _ _ _)<|nx<|n'<|ah' [ff,ff,ff,ff,ff,ff,ff,ff,ff,ff] mix (by kernel_rfl) fun o=>cn (fun _ c=>aF' z)<|cn (fun _ c=>f' 8 bA' z z z)<|cn (fun _ c=>aI' z)<|cn (fun _ c=>f' 3 sc3 z z z)<|cn (fun _ c=>aF' z)<|cn (fun _ c=>f' 2 bA' z z z)<|cn (fun _ c=>cu' z)<|cn (fun _ c=>f' 3 sc3 z z z) ?_
  obtain⟨x2,aV,hr⟩:=hr
  refine cn (fun _ c=>Q' F' sz9 (g.mono c) z z aV)<|cn (fun _ c=>Y' sc9 z (bZ' (H' (ab' g aV) c)))<|U' o ?_
  obtain⟨x3,aZ,hr⟩:=hr
  refine yy (ba' F' sz9 Z z z aZ) z<|bv' (r:=Rp.str) (e:=9) (cs':=[.string x2]) (i:=f.at') (z':=x2) 4021 z sz9 z Z z z z z z aZ fun c2 ap=>u'<|aq'<|g'<|n'<|ah' [ff,ff,ff,ff,ff,ff,ff,ff,ff,ff] mix (by kernel_rfl) fun o=>cn (fun _ c=>aF' z)<|cn (fun _ c=>f' 8 bA' z z z)<|cn (fun _ c=>cu' z)<|cn (fun _ c=>f' 3 sc3 z z z)<|cn (fun _ c=>aF' z)<|cn (fun _ c=>f' 2 bA' z z z)<|cn (fun _ c=>aI' z)<|cn (fun _ c=>f' 3 sc3 z z z) ?_
  obtain⟨x4,aW,hr⟩:=hr
  refine cn (fun _ c=>Q' F' sz9 (g.mono c) z z aW)<|cn (fun _ c=>Y' sc9 z (bZ' (H' (ab' g aW) c)))<|U' o ?_
  obtain⟨x5,aY,hr⟩:=hr
  refine yy (ba' F' sz9 ap z z aY) z<|bv' (r:=Rp.str) (e:=9) (cs':=[.string x4]) (i:=f.to') (z':=x4) 4021 z sz9 z ap z z z z z aY fun cW bn=>u'<|aq'<|g'<|sr<|yy (aX' z) z<|yy (f' 2 bq' z z z) z<|yy (o' 9 ag119 z z (Z' _ _ _)) z ?_
  obtain⟨au,az,hr⟩:=hr
  refine P' z z (t' E72 z) (dH' az) z (l) (fun cc cG D R=>?_)
  obtain⟨aa,W,rfl,aL⟩:=R
  refine yy (aX' z) z<|aG' 8 ([.slice p2 ([]++d.vars).length am,.slice aa au.length W,.slice j d.neqs.length h,i' d.next]).toArray z sz29 z z z (show 1<4 by decide) z z<|nx<|A'<|yy (aZ' z) z<|yy (f' 2 bq' z z z) z<|yy (o' 9 ag119 z z (Z' _ _ _)) z ?_
  obtain⟨bv,aM,hr⟩:=hr
  refine P' z z (t' E72 z) (dH' aM) z ((k.mono D)) (fun ch cQ B K=>?_)
  obtain⟨aE,aG,rfl,aS⟩:=K
  refine yy (aZ' z) z<|aG' 8 ([.slice p2 ([]++d.vars).length am,.slice aa au.length W,.slice aE bv.length aG,i' d.next]).toArray z sz29 z z z (show 2<4 by decide) z z<|u'<|J'<|g'<|sr<|bM' (r:=Rp.str) (e:=9) 4021 (bn.mono (mt D B)) z (by rw[U]; rfl) fun c3 ct A aq cl=>yy (o' 8 ar' z z z) z<|s' 4 z aU' z z z z z (List.all_eq_true.1 z)<|sg z z<|nx<|j' ?_
  obtain rfl:_=r:=hr
  exact aC' z (ac' (i:=4) ar' z z z) z ⟨_,_,_,_,_,_,(by rw[dj' aq]),(de' aq),(aL.mono (mt B A)),(aS.mono A)⟩
 refine sr<|yy (o' 2 ar' z z z) z<|yy (o' 3 bL' z z z) z ?_
 obtain⟨cD,aH,hr⟩:=hr
 refine P' z z (t' E74 z) (gd' aH) z (⟨g,l,k,C⟩) (fun ci cO bX O=>?_)
 obtain⟨a2,a4,a6,bd,a3,a0,rfl,E,Q,I⟩:=O
 refine s' 4 z aU' z z z z z (List.all_eq_true.1 z)<|sg z z<|nx<|j'<|m'<|a' ?_
 obtain rfl:_=r:=hr
 exact aC' z (ac' (i:=4) ar' z z z) z ⟨_,_,_,_,_,_,z,E,Q,I⟩
theorem gU'{l1 W ax av r}(hr:(Zir l1 W).Ret r):Ctr prog 35 #[.slice ax l1.length av,i' W] (fun G=>sl cp' G ax av l1) (w31' r):=by
 refine E' (args:=[_,_]) (N:=36) func35 z z z (fun w0 G0 bf aS=>?_)
 have ar:=aS
 refine sr<|T' 4 z z31 z fun b1=>nr<|yy (aw' (vs:=#[(3,i' 1)]) (v:=.agg ([.slice none 0 0,.slice none 0 0,.slice none 0 0,i' 1]).toArray) z z (fun _=>by kernel_rfl)) z<|T' 5 z z31 z fun b2=>s' 5 z aU' z z z z z (List.all_eq_true.1 z)<|nx<|n'<|sr<|sg z z<|nx<|ak' (fun (⟨Q,x,t,E,D,q,A,S⟩:Za×Option Addr×Nat×Option Addr×Nat×Option Addr×Nat×Mem)=>[(4,.pointer (some ⟨b1,0,none⟩)),(5,.pointer (some ⟨b2,0,none⟩))]) (fun ⟨Q,x,t,E,D,q,A,S⟩=>Mem.le G0 S/\sl Rp.str S x t Q.vars/\sl b' S E D Q.eqs/\sl b' S q A Q.neqs/\(Zfw Q).Ret r) (fun ⟨Q,x,t,E,D,q,A,S⟩=>St w0 G0 S [(4,some ⟨b1,.cells ([.slice none 0 0,.slice none 0 0,.slice none 0 0,i' 0]).toArray 31 (0,0),0⟩),(5,some ⟨b2,.cells ((v31' Q x t E D q A)).toArray 31 (0,0),0⟩)]) ?_ ?_
 .refine C' ?_
  let aw:Za->Prop:=fun oo=>((fun ov=>match ov with|Q=>Zfw Q:Za->Cq Za) oo).wp (fun a=>a=r)
  replace hr:(Cq.loop _ _).wp aw:=hr
  refine al' (Φ:=aw) (fun (⟨i1,L,k,e,n,m,g,l,M⟩:Int×Za×Option Addr×Nat×Option Addr×Nat×Option Addr×Nat×Mem)=>((i1,L):Int×Za)) (fun ⟨i1,L,k,e,n,m,g,l,M⟩=>[(0,.slice ax l1.length av),(1,i' W),(4,.pointer (some ⟨b1,0,none⟩)),(5,.pointer (some ⟨b2,0,none⟩)),(6,i' i1)]) (fun ⟨i1,L,k,e,n,m,g,l,M⟩=>Mem.le G0 M/\sl Rp.str M k e L.vars/\sl b' M n m L.eqs/\sl b' M g l L.neqs) (fun ⟨i1,L,k,e,n,m,g,l,M⟩=>St w0 G0 M [(4,some ⟨b1,.cells ([.slice none 0 0,.slice none 0 0,.slice none 0 0,i' 0]).toArray 31 (0,0),0⟩),(5,some ⟨b2,.cells ((v31' L k e n m g l)).toArray 31 (0,0),0⟩)]) ⟨0,(Za.mk [] [] [] 1),none,0,none,0,none,0,G0⟩ hr (f5 z z z z z) ⟨mr,(V' _ _),(V' _ _),(V' _ _)⟩ (w2 z z) ?_
  .intro bg gx hx hr
   obtain⟨i1,L,k,e,n,m,g,l,M⟩:=gx
   obtain⟨I,y,C,s⟩:=hx
   refine n'<|sr<|mv z z<|mv z z<|yy (M' cX' (ar.mono I) z) z<|aa' hr z (ag' z z) z (fun aW hr=>?_) (fun aW hr=>?_)
   .refine mv z z<|gy z z (e' z) z<|gy z z (e' z) z<|gy z z (ag' z z) z<|yy (h' z z) z<|nx<|L' hr z (fun a2 hr=>?_) (fun a2 hr=>?_)
    .refine q'<|g'<|n'<|C'<|n'<|ah' [ff,ff,ff,ff,ff,ff,ff,ff,ff,ff,tt,ff] mix (by kernel_rfl) fun hb=>cn (fun _ d=>o' 5 ar' z z z)<|cn (fun _ d=>o' 5 ar' z z z)<|cn (fun _ d=>e' z)<|cn (fun _ d=>e' z) ?_
     obtain⟨x1,aJ,hr⟩:=hr
     refine cn (fun _ d=>Q' cX' sz54 ((ar.mono I).mono d) z z aJ) ?_
     obtain⟨a5,a4,aY,aE⟩:=Zg8 (H' (ab' ar aJ) I)
     refine cn (fun _ d=>aA' _ ag54 z z (fun j v hv=>d _ _ _ (aY j v hv))) ?_
     obtain⟨aM,aT,hr⟩:=hr
     refine aW' (post:=w48' aM) (fun _=>z) (fun _ _=>t' E19 z) (eX' aT) z (fun G' d=>⟨(y.mono d),(C.mono d),(s.mono d),(aE.mono d)⟩) (fun v G1 G2 d h=>?_) ?_
     .obtain⟨ag,af,rfl,T⟩:=h
      exact⟨_,_,z,T.mono d⟩
     obtain⟨R,aO,hr⟩:=hr
     refine cy' (f:=55) (φ:=w31t' R) (fun _=>z) (fun v G1 G2 d h=>?_) (fun u G' d hu=>?_) ?_
     .obtain⟨J,K,O,P,F,H,rfl,p,B,o⟩:=h
      exact⟨_,_,_,_,_,_,z,p.mono d,B.mono d,o.mono d⟩
     .obtain⟨⟨ag,af,aI,T⟩,_⟩:=(show (w48' aM) G'.m (u 28)/\True from hu)
      exact⟨_,_,_,fun _=>t' E55 z,er' aO,(by simp only[aI] <;> rfl),⟨(y.mono d),(C.mono d),(s.mono d),T⟩⟩
     refine bm' (φ:=w31t' R) (fun _=>z) (fun v G1 G2 d h=>?_) (fun u G' d hu=>?_) ?_
     .obtain⟨p1,aj,p2,ah,p3,ai,rfl,Y,Z,X⟩:=h
      exact⟨_,_,_,_,_,_,z,Y.mono d,Z.mono d,X.mono d⟩
     .obtain⟨⟨J,K,O,P,F,H,aH,p,B,o⟩,_,_⟩:=(show (w31t' R) G'.m (u 29)/\True/\True from hu)
      simp only[undFr,aH]
      exact⟨_,e' z,J,K,O,P,F,H,z,p,B,o⟩
     refine bm' (φ:=w31' R.1) (fun _=>z) (fun v G1 G2 d h=>?_) (fun u G' d hu=>?_) ?_
     .obtain⟨p4,aK,p5,aL,p6,aN,rfl,au,aq,ay⟩:=h
      exact⟨_,_,_,_,_,_,z,au.mono d,aq.mono d,ay.mono d⟩
     .obtain⟨⟨p1,aj,p2,ah,p3,ai,V,Y,Z,X⟩,_,_,_⟩:=(show (w31t' R) G'.m (u 21)/\True/\True/\True from hu)
      simp only[undFr,V]
      exact⟨_,y' z z,p1,aj,p2,ah,p3,ai,z,Y,Z,X⟩
     refine bu' (c:=i' R.2) (fun _=>z) (fun u G' d hu=>?_) ?_
     .obtain⟨_,⟨p1,aj,p2,ah,p3,ai,V,Y,Z,X⟩,_,_,_⟩:=(show True/\(w31t' R) G'.m (u 21)/\True/\True/\True from hu)
      simp only[undFr,V]
      exact y' z z
     refine bD' (fun _=>z) z31<|eh' (fun bh ba a6 be bd X1 U az al ap an ao=>?_)
     obtain⟨b3,rfl,aQ⟩:=az
     obtain⟨p4,aK,p5,aL,p6,aN,rfl,au,aq,ay⟩:=al
     obtain⟨p1,aj,p2,ah,p3,ai,rfl,Y,Z,X⟩:=ap
     obtain⟨J,K,O,P,F,H,rfl,p,B,o⟩:=an
     obtain⟨ag,af,rfl,T⟩:=ao
     refine cq' aQ (cj' (show WL _ _ _ _ _ _ (St w0 G0 X1.m _) from ?_))
     refine s' 7 z aU' z z z z z (List.all_eq_true.1 z)<|sg z z<|u'<|aq'<|g'<|sr<|mv z z<|yy (at' z z) z<|nx<|L' hr z (fun a1 hr=>?_) (fun a1 hr=>?_)
     .refine A'<|yy (o' 7 ar' z z z) z<|s' 5 z aU' z z z z z (List.all_eq_true.1 z)<|u'<|J'<|g'<|A'<|mv z z<|yy (W' z z) z<|sg z z<|u'<|X' ⟨i64.wrap (i1+1),R.1,p4,aK,p5,aL,p6,aN,X1.m⟩ hr ⟨(mt I U),au,aq,ay⟩ (f5 z z z z z) (w2 z z)
     refine q'<|J'<|g'<|A'<|mv z z<|yy (W' z z) z<|sg z z<|u'<|X' ⟨i64.wrap (i1+1),L,k,e,n,m,g,l,X1.m⟩ hr ⟨(mt I U),(y.mono U),(C.mono U),(s.mono U)⟩ (f5 z z z z z) (w2 z z)
    refine am'<|r'<|r'<|O'<|ao' ⟨L,k,e,n,m,g,l,M⟩ ⟨I,y,C,s,hr⟩ (f2 z z) (w2 z z)
   refine mv z z<|sn3 z<|yy (l' z z) z<|nx<|bb' z<|am'<|r'<|r'<|O'<|ao' ⟨L,k,e,n,m,g,l,M⟩ ⟨I,y,C,s,hr⟩ (f2 z z) (w2 z z)
 rintro⟨Q,x,t,E,D,q,A,S⟩ ⟨a3,ac,am,ae,hr⟩
 refine g'<|sr<|yy (o' 5 ar' z z z) z<|s' 4 z aU' z z z z z (List.all_eq_true.1 z)<|nx<|j' ?_
 obtain rfl:_=r:=hr
 exact k' z (ac' (i:=4) ar' z z z) ⟨_,_,_,_,_,_,z,ac,am,ae⟩
theorem fv'{i m d e r}(hr:(Zd8 i m).Ret r):Ctr prog 69 #[.slice d i.length e,i' m] (fun G=>sl I' G d e i) (fun G v=>v = .bool r):=by
 refine E' (args:=[_,_]) (N:=21) func69 z z z (fun s t q f=>?_)
 have c:=f
 refine sr<|sg z z<|nr<|mv z z ?_
 obtain⟨k,h,hr⟩:=hr
 refine D' z z (t' E94 z) (fM' h) z (c) ?_
 cases k
 .refine mv z z<|sn3 z<|yy (l' z z) z<|mv z z<|sn7 z<|yy (l' z z) z<|sg z z<|nx<|j' ?_
  obtain rfl:_=r:=hr
  exact k' z z z
 refine mv z z<|gy z z (e' z) z ?_
 obtain⟨p,g,hr⟩:=hr
 refine D' (v' z z) z (t' E95 z) (fu' g) z (c)<|aa' hr (v' z z) (bK' z z) z (fun l hr=>?_) (fun l hr=>?_)
 .refine yy (h' z z) z<|mv z z<|gy z z (e' z) z ?_
  obtain⟨o,j,hr⟩:=hr
  refine D' (v' z z) z (t' E96 z) (eE' j) z (c)<|gy z z (aO' aS' aE' z) z<|gy z z (e' z) z<|gy z z (aO' aE' dN' z) z ?_
  obtain⟨n,hr⟩:=hr
  refine gy z z (Y0.shl z z n) z<|gy z z (ag' z z) z<|yy (h' z z) z<|sg z z<|nx<|j' ?_
  obtain rfl:_=r:=hr
  exact k' z z z
 refine yy (h' z z) z<|mv z z<|sn7 z<|yy (l' z z) z<|sg z z<|nx<|j' ?_
 obtain rfl:_=r:=hr
 exact k' z z z
theorem ge'{p D g l k r}(hr:(Zew p D g).Ret r):Ctr prog 53 #[.slice l p.length k,i' D,i' g] (fun G=>sl b' G l k p) (fun G v=>v = .bool r):=by
 refine E' (args:=[_,_,_]) (N:=60) func53 z z z (fun E m ac A=>?_)
 have e:=A
 refine sr<|sg z z<|nx<|n'<|sr<|mv z z<|yy (M' w' e z) z<|yy (bh' z z) z<|nx<|L' hr z (fun Q hr=>?_) (fun Q hr=>?_)
 .exact (show False from hr).elim
 refine q'<|g'<|n'<|sr<|sg z z<|nx<|ak' (fun (j:Mem)=>match j with|h=>[]) (fun (j:Mem)=>match j with|h=>Mem.le m h/\(Zfv).Ret r) (fun (j:Mem)=>match j with|h=>St E m h []) ?_ ?_
 .refine C' ?_
  let o:(Bool⊕Unit)->Prop:=fun U=>((fun V=>match V with | .inl rv1=>Cq.ret rv1 | .inr ()=>Zfv:(Bool⊕Unit)->Cq Bool) U).wp (fun a=>a=r)
  replace hr:(Cq.loop _ _).wp o:=hr
  refine al' (Φ:=o) (fun (⟨i,f⟩:Int×Mem)=>(i:Int)) (fun ⟨i,f⟩=>[(0,.slice l p.length k),(1,i' D),(2,i' g),(7,i' i)]) (fun ⟨i,f⟩=>Mem.le m f) (fun ⟨i,f⟩=>St E m f []) ⟨0,m⟩ hr (f4 z z z z) mr (wk ln) ?_
  .intro Y j W hr
   obtain⟨i,f⟩:=j
   have d:=W
   refine n'<|sr<|mv z z<|mv z z<|yy (M' w' (e.mono d) z) z<|yy (ag' z z) z<|nx<|L' hr z (fun L hr=>?_) (fun L hr=>?_)
   .refine q'<|g'<|n'<|C'<|n'<|ah' [ff,ff,ff,ff,ff,ff,ff,ff,ff,ff,ff,ff,ff,ff,ff,ff,ff,ff,ff,ff,ff,ff,ff,ff,ff,ff,ff,ff,ff,ff,ff,ff,ff,ff,ff,ff,ff,ff,ff,ff] mix (by kernel_rfl) fun n=>cn (fun _ c=>e' z)<|cn (fun _ c=>e' z) ?_
    obtain⟨x1,s,hr⟩:=hr
    refine cn (fun _ c=>Q' w' aR' ((e.mono d).mono c) z z s)<|cn (fun _ c=>bn' z)<|cn (fun _ c=>Y' sc3 z (aD' (H' (H' (aV' (ax' (ab' e s))) d) c)))<|by' hr z (fun _ c=>ag' z z) (fun I hr=>?_) (fun I hr=>?_)
    .refine cn (fun _ c=>e' z)<|cf z z<|cf z z<|cf z z<|cf z z<|cf z z<|cf z z<|cf z z<|cn (fun _ c=>h' z z)<|cn (fun _ c=>e' z)<|cf z z<|cf z z<|cf z z<|cs z z<|cs z z<|cs z z<|cs z z<|cs z z<|cs z z<|cs z z<|cs z z<|cs z z<|cs z z<|cs z z<|cs z z<|cf z z<|cn (fun _ c=>h' z z)<|cn (fun _ c=>e' z)<|cf z z<|cf z z<|cf z z<|cf z z<|cf z z<|cf z z<|U' n<|sn2 z<|yy (h' z z) z<|u'<|aq'<|g'<|R' z<|sr<|sg z z<|nx<|j'<|m'<|a'<|a'<|m'<|ae'<|a' ?_
     obtain rfl:_=r:=hr
     exact k' z z z
    refine cn (fun _ c=>e' z)<|cy z z (fun _ c=>e' z)<|cy z z (fun _ c=>e' z) ?_
    obtain⟨x2,u,hr⟩:=hr
    refine cy z z (fun _ c=>Q' w' aR' ((e.mono d).mono c) z z u)<|cy z z (fun _ c=>bn' z)<|cy z z (fun _ c=>Y' sc3 z (aD' (H' (H' (aV' (ax' (ab' e u))) d) c)))<|cy z z (fun _ c=>e' z)<|by' hr (v' z z) (fun _ c=>be' z z) (fun R hr=>?_) (fun R hr=>?_)
    .refine cn (fun _ c=>l' z z)<|cn (fun _ c=>e' z)<|cf z z<|cf z z<|cf z z<|cs z z<|cs z z<|cs z z<|cs z z<|cs z z<|cs z z<|cs z z<|cs z z<|cs z z<|cs z z<|cs z z<|cs z z<|cf z z<|cn (fun _ c=>h' z z)<|cn (fun _ c=>e' z)<|cf z z<|cf z z<|cf z z<|cf z z<|cf z z<|cf z z<|U' n<|sn2 z<|yy (h' z z) z<|u'<|aq'<|g'<|R' z<|sr<|sg z z<|nx<|j'<|m'<|a'<|a'<|m'<|ae'<|a' ?_
     obtain rfl:_=r:=hr
     exact k' z z z
    refine cn (fun _ c=>l' z z)<|cn (fun _ c=>e' z)<|cy z z (fun _ c=>e' z)<|by' hr (v' z z) (fun _ c=>bh' z z) (fun S hr=>?_) (fun S hr=>?_)
    .refine cy z z (fun _ c=>e' z)<|cy z z (fun _ c=>e' z)<|cy z z (fun _ c=>e' z)<|cy z z (fun _ c=>bi' z z) ?_
     obtain⟨x3,q,hr⟩:=hr
     refine cy z z (fun _ c=>Q' w' aR' ((e.mono d).mono c) z z q)<|cy z z (fun _ c=>bn' z)<|cy z z (fun _ c=>Y' sc3 z (aD' (H' (H' (aV' (ax' (ab' e q))) d) c)))<|cy z z (fun _ c=>e' z)<|cy z z (fun _ c=>e' z) ?_
     obtain⟨x4,y,hr⟩:=hr
     refine cy z z (fun _ c=>Q' w' aR' ((e.mono d).mono c) z z y)<|cy z z (fun _ c=>bn' z)<|cy z z (fun _ c=>Y' sc3 z (aD' (H' (H' (aV' (ax' (ab' e y))) d) c)))<|by' hr (v' z z) (fun _ c=>be' z z) (fun F hr=>?_) (fun F hr=>?_)
     .refine cy z z (fun _ c=>h' z z)<|cn (fun _ c=>l' z z)<|cn (fun _ c=>e' z)<|cf z z<|cf z z<|cf z z<|cf z z<|cf z z<|cf z z<|U' n<|sn2 z<|yy (h' z z) z<|u'<|aq'<|g'<|R' z<|sr<|sg z z<|nx<|j'<|m'<|a'<|a'<|m'<|ae'<|a' ?_
      obtain rfl:_=r:=hr
      exact k' z z z
     refine cy z z (fun _ c=>h' z z)<|cn (fun _ c=>l' z z)<|cn (fun _ c=>e' z)<|cy z z (fun _ c=>e' z)<|cy z z (fun _ c=>e' z) ?_
     obtain⟨x5,t,hr⟩:=hr
     refine cy z z (fun _ c=>Q' w' aR' ((e.mono d).mono c) z z t)<|cy z z (fun _ c=>bT' z) ?_
     obtain⟨p1,ab,O,M⟩:=bG' (H' (ay' (ax' (ab' e t))) d)
     refine cy z z (fun _ c=>Y' cA' z (c _ _ _ O))<|cy z z (fun _ c=>e' z)<|U' n ?_
     obtain⟨Z,C,hr⟩:=hr
     refine D' (v' z z) z (t' E69 z) (fv' C) z (M)<|gy z z (aj' z) z<|yy (l' z z) z<|u'<|aq'<|g'<|aL' hr z (fun P hr=>?_) (fun P hr=>?_)
     .exact (show False from hr).elim
     refine q'<|J'<|g'<|A'<|mv z z<|yy (W' z z) z<|sg z z<|u'<|X' ⟨i64.wrap (i+1),f⟩ hr d (f4 z z z z) (wk ln)
    refine cy z z (fun _ c=>e' z)<|ct z z<|ct z z<|ct z z<|ct z z<|ct z z<|ct z z<|ct z z<|ct z z<|ct z z<|ct z z<|ct z z<|ct z z<|cy z z (fun _ c=>l' z z)<|cn (fun _ c=>l' z z)<|cn (fun _ c=>e' z)<|cy z z (fun _ c=>e' z)<|cy z z (fun _ c=>e' z) ?_
    obtain⟨x6,x,hr⟩:=hr
    refine cy z z (fun _ c=>Q' w' aR' ((e.mono d).mono c) z z x)<|cy z z (fun _ c=>bT' z) ?_
    obtain⟨p2,X,H,K⟩:=bG' (H' (ay' (ax' (ab' e x))) d)
    refine cy z z (fun _ c=>Y' cA' z (c _ _ _ H))<|cy z z (fun _ c=>e' z)<|U' n ?_
    obtain⟨aa,B,hr⟩:=hr
    refine D' (v' z z) z (t' E69 z) (fv' B) z (K)<|gy z z (aj' z) z<|yy (l' z z) z<|u'<|aq'<|g'<|aL' hr z (fun J hr=>?_) (fun J hr=>?_)
    .exact (show False from hr).elim
    refine q'<|J'<|g'<|A'<|mv z z<|yy (W' z z) z<|sg z z<|u'<|X' ⟨i64.wrap (i+1),f⟩ hr d (f4 z z z z) (wk ln)
   refine am'<|r'<|r'<|O'<|ao' f ⟨d,hr⟩ fn (wk ln)
 rintro h ⟨T,hr⟩
 refine g'<|sr<|sg z z<|nx<|j' ?_
 obtain rfl:_=r:=hr
 exact k' z z z
theorem es'{g d f i j e c r}(hr:(ZdG g).Ret r):Ctr prog 27 #[.agg ((v31' g d f i j e c)).toArray] (fun G=>sl Rp.str G d f g.vars/\sl b' G i j g.eqs/\sl b' G e c g.neqs) (fun G v=>v = .bool r):=by
 refine E' (args:=[_]) (N:=96) func27 z z z (fun P K aA ah=>?_)
 obtain⟨l,u,p⟩:=ah
 refine sr<|ad' 1 z z z fun A=>sg z z<|nr<|yy (aF' z) z<|yy (f' 1 bA' z z z) z<|yy (M' F' l z) z<|sg z z<|nx<|aM' (fun (k:Mem)=>match k with|I=>[(1,.pointer (some ⟨A,0,none⟩)),(3,i' (g.vars.length:Int))]) (fun (k:Mem)=>match k with|I=>Mem.le K I/\(ZgY g).Ret r) (fun (k:Mem)=>match k with|I=>St P K I [(1,some ⟨A,.cells ((v31' g d f i j e c)).toArray 31 (0,0),0⟩)]) ?_ ?_
 .refine sr<|mv z z<|aa' hr z (bh' z z) z (fun al hr=>?_) (fun al hr=>?_)
  .refine mv z z<|sn3 z<|yy (h' z z) z<|mv z z<|sn3 z<|yy (h' z z) z<|mv z z<|sn7 z<|yy (h' z z) z<|mv z z<|sn7 z<|yy (h' z z) z<|nx<|R' z<|sr<|sg z z<|nx<|j'<|a' ?_
   obtain rfl:_=r:=hr
   exact k' z z z
  refine mv z z<|gy z z (bw' z) z<|gy z z (f' 1 sc3 z z z) z<|aa' hr (v' z z) (ag' z z) z (fun ax hr=>?_) (fun ax hr=>?_)
  .refine yy (l' z z) z<|mv z z<|sn3 z<|yy (h' z z) z<|mv z z<|sn7 z<|yy (h' z z) z<|mv z z<|sn7 z<|yy (h' z z) z<|nx<|R' z<|sr<|sg z z<|nx<|j'<|a' ?_
   obtain rfl:_=r:=hr
   exact k' z z z
  refine yy (l' z z) z<|mv z z<|gy z z (bw' z) z<|gy z z (f' 1 sc3 z z z) z<|aa' hr (v' z z) (bh' z z) z (fun ay hr=>?_) (fun ay hr=>?_)
  .refine yy (l' z z) z<|mv z z<|sn7 z<|yy (h' z z) z<|mv z z<|sn7 z<|yy (h' z z) z<|nx<|R' z<|sr<|sg z z<|nx<|j'<|a' ?_
   obtain rfl:_=r:=hr
   exact k' z z z
  refine yy (l' z z) z<|mv z z<|gy z z (aX' z) z<|gy z z (f' 1 bq' z z z) z<|gy z z (e' z) z<|gy z z (bw' z) z<|gy z z (f' 1 sc3 z z z) z ?_
  obtain⟨an,ag,hr⟩:=hr
  refine D' (v' z z) z (t' E53 z) (ge' ag) z (u) ?_
  cases an
  .refine gy z z (aj' z) z<|yy (l' z z) z<|mv z z<|sn7 z<|yy (h' z z) z<|nx<|R' z<|sr<|sg z z<|nx<|j'<|a' ?_
   obtain rfl:_=r:=hr
   exact k' z z z
  refine gy z z (aj' z) z<|yy (l' z z) z<|mv z z<|gy z z (aZ' z) z<|gy z z (f' 1 bq' z z z) z<|gy z z (e' z) z<|gy z z (bw' z) z<|gy z z (f' 1 sc3 z z z) z ?_
  obtain⟨aE,ak,hr⟩:=hr
  refine D' (v' z z) z (t' E53 z) (ge' ak) z (p)<|gy z z (aj' z) z<|yy (l' z z) z<|nx<|aL' hr z (fun am hr=>?_) (fun am hr=>?_)
  .exact (show False from hr).elim
  refine q'<|ap' K ⟨mr,hr⟩ (f2 z z) (w1 z)
 rintro I ⟨m,hr⟩
 refine n'<|sr<|sg z z<|nx<|ak' (fun (k:Mem)=>match k with|H=>[(1,.pointer (some ⟨A,0,none⟩))]) (fun (k:Mem)=>match k with|H=>Mem.le I H/\(ZcI g).Ret r) (fun (k:Mem)=>match k with|H=>St P K H [(1,some ⟨A,.cells ((v31' g d f i j e c)).toArray 31 (0,0),0⟩)]) ?_ ?_
 .refine C' ?_
  let R:(Bool⊕Unit)->Prop:=fun V=>((fun U=>match U with | .inl rv3=>Cq.ret rv3 | .inr ()=>ZcI g:(Bool⊕Unit)->Cq Bool) V).wp (fun a=>a=r)
  replace hr:(Cq.loop _ _).wp R:=hr
  refine al' (Φ:=R) (fun (⟨n,B⟩:Int×Mem)=>(n:Int)) (fun ⟨n,B⟩=>[(1,.pointer (some ⟨A,0,none⟩)),(3,i' (g.vars.length:Int)),(4,i' n)]) (fun ⟨n,B⟩=>Mem.le I B) (fun ⟨n,B⟩=>St P K B [(1,some ⟨A,.cells ((v31' g d f i j e c)).toArray 31 (0,0),0⟩)]) ⟨0,I⟩ hr (f3 z z z) mr (w1 z) ?_
  .intro ac k T hr
   obtain⟨n,B⟩:=k
   have s:=T
   refine n'<|sr<|mv z z<|mv z z<|yy (ag' z z) z<|nx<|L' hr z (fun ap hr=>?_) (fun ap hr=>?_)
   .refine q'<|g'<|n'<|C'<|n'<|sr<|sg z z<|nx<|ak' (fun (k:Mem)=>match k with|M=>[(1,.pointer (some ⟨A,0,none⟩)),(3,i' (g.vars.length:Int)),(4,i' n)]) (fun (k:Mem)=>match k with|M=>Mem.le B M/\(ZcJ g n).wp (Out ac R)) (fun (k:Mem)=>match k with|M=>St P K M [(1,some ⟨A,.cells ((v31' g d f i j e c)).toArray 31 (0,0),0⟩)]) ?_ ?_
    .refine C' ?_
     let W:(Bool⊕Unit)->Prop:=fun V=>((fun U=>match U with | .inl rv4=>Cq.ret (.inr (.inl rv4)) | .inr ()=>ZcJ g n:(Bool⊕Unit)->Cq (Int⊕(Bool⊕Unit))) V).wp (Out ac R)
     replace hr:(Cq.loop _ _).wp W:=hr
     refine al' (Φ:=W) (fun (⟨E,F⟩:Int×Mem)=>(E:Int)) (fun ⟨E,F⟩=>[(1,.pointer (some ⟨A,0,none⟩)),(3,i' (g.vars.length:Int)),(4,i' n),(5,i' E)]) (fun ⟨E,F⟩=>Mem.le B F) (fun ⟨E,F⟩=>St P K F [(1,some ⟨A,.cells ((v31' g d f i j e c)).toArray 31 (0,0),0⟩)]) ⟨0,B⟩ hr (f4 z z z z) mr (w1 z) ?_
     .intro aB k T hr
      obtain⟨E,F⟩:=k
      have x:=T
      refine n'<|sr<|mv z z<|mv z z<|yy (ag' z z) z<|nx<|L' hr z (fun aq hr=>?_) (fun aq hr=>?_)
      .refine q'<|g'<|n'<|C'<|n'<|ah' [ff,ff,ff,ff,ff,ff,ff,ff,ff,ff] mix (by kernel_rfl) fun hb=>cn (fun _ h=>aF' z)<|cn (fun _ h=>f' 1 bA' z z z)<|cn (fun _ h=>e' z) ?_
       obtain⟨x4,ab,hr⟩:=hr
       refine cn (fun _ h=>Q' F' sz9 ((l.mono (mt (mt m s) x)).mono h) z z ab)<|cn (fun _ h=>Y' sc9 z (bZ' (H' (H' (ab' l ab) (mt (mt m s) x)) h)))<|cn (fun _ h=>aF' z)<|cn (fun _ h=>f' 1 bA' z z z)<|cn (fun _ h=>e' z) ?_
       obtain⟨x5,ad,hr⟩:=hr
       refine cn (fun _ h=>Q' F' sz9 ((l.mono (mt (mt m s) x)).mono h) z z ad)<|cn (fun _ h=>Y' sc9 z (bZ' (H' (H' (ab' l ad) (mt (mt m s) x)) h)))<|U' hb<|yy (Y0.eqlS bl' z z) z<|u'<|aq'<|g'<|L' hr z (fun au hr=>?_) (fun au hr=>?_)
       .exact (show False from hr).elim
       refine q'<|J'<|g'<|A'<|mv z z<|yy (W' z z) z<|sg z z<|u'<|X' ⟨i64.wrap (E+1),F⟩ hr x (f4 z z z z) (w1 z)
      refine am'<|r'<|r'<|O'<|ao' F ⟨x,hr⟩ (f3 z z z) (w1 z)
    rintro M ⟨O,hr⟩
    refine g'<|sr<|yy (aF' z) z<|yy (f' 1 bA' z z z) z<|mv z z ?_
    obtain⟨x3,ae,hr⟩:=hr
    refine yy (Q' F' sz9 (l.mono (mt (mt m s) O)) z z ae) z<|yy (Y' sc9 z (bZ' (H' (ab' l ae) (mt (mt m s) O)))) z ?_
    obtain⟨aD,ai,hr⟩:=hr
    refine D' z z (t' E54 z) (eY' ai) z (trivial)<|yy (aj' z) z<|nx<|aL' hr z (fun ao hr=>?_) (fun ao hr=>?_)
    .exact (show False from hr).elim
    refine q'<|J'<|g'<|A'<|mv z z<|yy (W' z z) z<|sg z z<|u'<|X' ⟨i64.wrap (n+1),M⟩ hr (mt s O) (f3 z z z) (w1 z)
   refine am'<|r'<|r'<|O'<|ao' B ⟨s,hr⟩ (f1 z) (w1 z)
 rintro H ⟨y,hr⟩
 refine g'<|n'<|sr<|sg z z<|nx<|ak' (fun (k:Mem)=>match k with|S=>[]) (fun (k:Mem)=>match k with|S=>Mem.le H S/\(Zeu).Ret r) (fun (k:Mem)=>match k with|S=>St P K S []) ?_ ?_
 .refine C' ?_
  let Q:(Bool⊕Unit)->Prop:=fun V=>((fun U=>match U with | .inl rv1=>Cq.ret rv1 | .inr ()=>Zeu:(Bool⊕Unit)->Cq Bool) V).wp (fun a=>a=r)
  replace hr:(Cq.loop _ _).wp Q:=hr
  refine al' (Φ:=Q) (fun (⟨o,C⟩:Int×Mem)=>(o:Int)) (fun ⟨o,C⟩=>[(1,.pointer (some ⟨A,0,none⟩)),(6,i' o)]) (fun ⟨o,C⟩=>Mem.le H C) (fun ⟨o,C⟩=>St P K C [(1,some ⟨A,.cells ((v31' g d f i j e c)).toArray 31 (0,0),0⟩)]) ⟨0,H⟩ hr (f2 z z) mr (w1 z) ?_
  .intro af k T hr
   obtain⟨o,C⟩:=k
   have q:=T
   refine n'<|sr<|mv z z<|yy (aX' z) z<|yy (f' 1 bq' z z z) z<|yy (M' w' (u.mono (mt (mt m y) q)) z) z<|yy (ag' z z) z<|nx<|L' hr z (fun aw hr=>?_) (fun aw hr=>?_)
   .refine q'<|g'<|n'<|C'<|sr<|sg z z<|nx<|ak' (fun (k:Mem)=>match k with|L=>[(1,.pointer (some ⟨A,0,none⟩)),(6,i' o)]) (fun (k:Mem)=>match k with|L=>Mem.le C L/\(Zev o).wp (Out af Q)) (fun (k:Mem)=>match k with|L=>St P K L [(1,some ⟨A,.cells ((v31' g d f i j e c)).toArray 31 (0,0),0⟩)]) ?_ ?_
    .refine C' ?_
     let X:(Bool⊕Unit)->Prop:=fun V=>((fun U=>match U with | .inl rv2=>Cq.ret (.inr (.inl rv2)) | .inr ()=>Zev o:(Bool⊕Unit)->Cq (Int⊕(Bool⊕Unit))) V).wp (Out af Q)
     replace hr:(Cq.loop _ _).wp X:=hr
     refine al' (Φ:=X) (fun (⟨D,J⟩:Int×Mem)=>(D:Int)) (fun ⟨D,J⟩=>[(1,.pointer (some ⟨A,0,none⟩)),(6,i' o),(7,i' D)]) (fun ⟨D,J⟩=>Mem.le C J) (fun ⟨D,J⟩=>St P K J [(1,some ⟨A,.cells ((v31' g d f i j e c)).toArray 31 (0,0),0⟩)]) ⟨0,C⟩ hr (f3 z z z) mr (w1 z) ?_
     .intro aC k T hr
      obtain⟨D,J⟩:=k
      have t:=T
      refine n'<|sr<|mv z z<|yy (aZ' z) z<|yy (f' 1 bq' z z z) z<|yy (M' w' (p.mono (mt (mt (mt m y) q) t)) z) z<|yy (ag' z z) z<|nx<|L' hr z (fun av hr=>?_) (fun av hr=>?_)
      .refine q'<|g'<|n'<|C'<|n'<|ah' [ff,ff,ff,ff,ff,ff,ff,ff,ff,ff,ff,ff] mix (by kernel_rfl) fun hb=>cn (fun _ h=>aX' z)<|cn (fun _ h=>f' 1 bq' z z z)<|cn (fun _ h=>e' z) ?_
       obtain⟨x1,Z,hr⟩:=hr
       refine cn (fun _ h=>Q' w' aR' ((u.mono (mt (mt (mt m y) q) t)).mono h) z z Z)<|cn (fun _ h=>bn' z)<|cn (fun _ h=>Y' sc3 z (aD' (H' (H' (aV' (ax' (ab' u Z))) (mt (mt (mt m y) q) t)) h)))<|cn (fun _ h=>aZ' z)<|cn (fun _ h=>f' 1 bq' z z z)<|cn (fun _ h=>e' z) ?_
       obtain⟨x2,aa,hr⟩:=hr
       refine cn (fun _ h=>Q' w' aR' ((p.mono (mt (mt (mt m y) q) t)).mono h) z z aa)<|cn (fun _ h=>bn' z)<|cn (fun _ h=>Y' sc3 z (aD' (H' (H' (aV' (ax' (ab' p aa))) (mt (mt (mt m y) q) t)) h)))<|U' hb<|yy (at' z z) z<|u'<|aq'<|g'<|L' hr z (fun ar hr=>?_) (fun ar hr=>?_)
       .exact (show False from hr).elim
       refine q'<|J'<|g'<|A'<|mv z z<|yy (W' z z) z<|sg z z<|u'<|X' ⟨i64.wrap (D+1),J⟩ hr t (f3 z z z) (w1 z)
      refine am'<|r'<|r'<|O'<|ao' J ⟨t,hr⟩ (f2 z z) (w1 z)
    rintro L ⟨Y,hr⟩
    refine J'<|g'<|A'<|mv z z<|yy (W' z z) z<|sg z z<|u'<|X' ⟨i64.wrap (o+1),L⟩ hr (mt q Y) (f2 z z) (w1 z)
   refine am'<|r'<|r'<|O'<|ao' C ⟨q,hr⟩ fn (wk ln)
 rintro S ⟨az,hr⟩
 refine g'<|sr<|sg z z<|nx<|j' ?_
 obtain rfl:_=r:=hr
 exact k' z z z
theorem hf'{k d f j h c g r}(hr:(ZjL k).Ret r):Ctr prog 34 #[.agg ((v31' k d f j h c g)).toArray] (fun G=>sl Rp.str G d f k.vars/\sl b' G j h k.eqs/\sl b' G c g k.neqs) (w34t' r):=by
 refine E' (args:=[_]) (N:=12) func34 z z z (fun B D x p=>?_)
 obtain⟨m,o,l⟩:=p
 refine sr<|ad' 1 z z z fun E=>T' 2 z z34 z fun C=>sg z z<|nx<|n'<|sr<|yy (o' 1 ar' z z z) z ?_
 obtain⟨A,q,hr⟩:=hr
 refine D' z z (t' E27 z) (es' q) z (⟨m,o,l⟩)<|yy (aj' z) z<|nx<|aL' hr z (fun u hr=>?_) (fun u hr=>?_)
 .refine sr<|yy (aw' (vs:=#[]) (v:=.agg ([.slice none 0 0,.slice none 0 0,.slice none 0 0,i' 0,.slice none 0 0]).toArray) z z (fun _=>by kernel_rfl)) z<|s' 2 z bU' z z z z z (List.all_eq_true.1 z)<|sg z z<|nx<|j'<|a' ?_
  obtain rfl:_=r:=hr
  exact aC' z (ac' (i:=2) aK' z z z) z ⟨_,_,_,_,_,_,_,_,z,(V' Rp.str _),(V' b' _),(V' b' _),(V' an' _)⟩
 refine q'<|g'<|sr<|yy (o' 1 ar' z z z) z<|yy (aw' (vs:=#[(0,i' (-1)),(1,i' (-1))]) (v:=.agg ([i' (-1),i' (-1),.slice none 0 0]).toArray) z z (fun _=>by kernel_rfl)) z<|bd' (e:=63) (r:=an') (vs:=#[(0,.agg ([i' (-1),i' (-1),.slice none 0 0]).toArray)]) (cs:=[i' (-1),i' (-1),.slice none 0 0]++([])) ([(Zh.mk (-1) (-1) [])]:List Zh) z z z z z (by decide) (fun _=>by kernel_rfl) ⟨[i' (-1),i' (-1),.slice none 0 0],[],z,⟨[i' (-1)],[i' (-1),.slice none 0 0],z,z,⟨[i' (-1)],[.slice none 0 0],z,z,⟨_,z,(V' _ _)⟩⟩⟩,z⟩ (key:=999) z (by rw[x]; rfl) fun s y n t=>yy (aw' (vs:=#[(0,.agg ((v31' k d f j h c g)).toArray),(1,.slice s 1 1)]) (v:=.agg ([.slice d k.vars.length f,.slice j k.eqs.length h,.slice c k.neqs.length g,i' k.next,.slice s 1 1]).toArray) z z (fun _=>by kernel_rfl)) z<|s' 2 z bU' z z z z z (List.all_eq_true.1 z)<|sg z z<|nx<|j' ?_
 obtain rfl:_=r:=hr
 exact aC' z (ac' (i:=2) aK' z z z) z ⟨_,_,_,_,_,_,_,_,z,(m.mono n),(o.mono n),(l.mono n),t⟩
theorem ec'{i q f d h g e c j k r}(hr:(ZhM i q).Ret r):Ctr prog 40 #[.agg ((v34' i f d h g e c j k)).toArray,i' q] (fun G=>sl Rp.str G f d i.root.vars/\sl b' G h g i.root.eqs/\sl b' G e c i.root.neqs/\sl an' G j k i.v) (fun G v=>v = .bool r):=by
 refine E' (args:=[_,_]) (N:=14) func40 z z z (fun u x t p=>?_)
 obtain⟨m,n,l,o⟩:=p
 refine sr<|ad' 2 z z z fun y=>sg z z<|nr<|mv z z<|aa' hr z (be' z z) z (fun s hr=>?_) (fun s hr=>?_)
 .refine mv z z<|gy z z (e' z) z<|gy z z (as' z) z<|gy z z (f' 2 bk' z z z) z<|gy z z (M' K' o z) z<|gy z z (ag' z z) z<|yy (h' z z) z<|sg z z<|nx<|j' ?_
  obtain rfl:_=r:=hr
  exact k' z z z
 refine mv z z<|sn5 z<|yy (l' z z) z<|sg z z<|nx<|j' ?_
 obtain rfl:_=r:=hr
 exact k' z z z
theorem fa'{s1 l1 ac af al ak ae ad aE aD r}(hr:(Zi1 s1 l1).Ret r):Ctr prog 30 #[.agg ((v31' s1 ac af al ak ae ad)).toArray,.slice aE l1.length aD] (fun G=>sl Rp.str G ac af s1.vars/\sl b' G al ak s1.eqs/\sl b' G ae ad s1.neqs/\sl af' G aE aD l1) (w72' r):=by
 refine E' (args:=[_,_]) (N:=33) func30 z z z (fun w0 G0 bz bc=>?_)
 obtain⟨aH,aR,aL,aA⟩:=bc
 refine sr<|ad' 2 z z z fun b1=>T' 4 z z72 z fun b2=>nx<|n'<|sr<|sg z z<|nx<|ak' (fun (⟨L,s,q,D,B,o,y,ai,I,H,M,O,E,F,Y⟩:Za×Option Addr×Nat×Option Addr×Nat×Option Addr×Nat×Zx×Option Addr×Nat×Option Addr×Nat×Option Addr×Nat×Mem)=>[(1,.slice aE l1.length aD),(2,.pointer (some ⟨b1,0,none⟩)),(4,.pointer (some ⟨b2,0,none⟩))]) (fun ⟨L,s,q,D,B,o,y,ai,I,H,M,O,E,F,Y⟩=>Mem.le G0 Y/\sl Rp.str Y s q L.vars/\sl b' Y D B L.eqs/\sl b' Y o y L.neqs/\sl Rp.str Y I H ai.s.vars/\sl b' Y M O ai.s.eqs/\sl b' Y E F ai.s.neqs/\(ZgZ l1 L).Ret r) (fun ⟨L,s,q,D,B,o,y,ai,I,H,M,O,E,F,Y⟩=>St w0 G0 Y [(2,some ⟨b1,.cells ((v31' L s q D B o y)).toArray 31 (0,0),0⟩),(4,some ⟨b2,.cells ((v72' ai I H M O E F)).toArray 72 (0,0),0⟩)]) ?_ ?_
 .refine C' ?_
  let aS:(Zx⊕(Za×Zx))->Prop:=fun oo=>((fun ov=>match ov with | .inl rv1=>Cq.ret rv1 | .inr (L,ai)=>ZgZ l1 L:(Zx⊕(Za×Zx))->Cq Zx) oo).wp (fun a=>a=r)
  replace hr:(Cq.loop _ _).wp aS:=hr
  refine al' (Φ:=aS) (fun (⟨i1,Z,x,n,A,C,p,t,V,g,d,m,l,k,f,Q⟩:Int×Za×Option Addr×Nat×Option Addr×Nat×Option Addr×Nat×Zx×Option Addr×Nat×Option Addr×Nat×Option Addr×Nat×Mem)=>((i1,Z,V):Int×Za×Zx)) (fun ⟨i1,Z,x,n,A,C,p,t,V,g,d,m,l,k,f,Q⟩=>[(1,.slice aE l1.length aD),(2,.pointer (some ⟨b1,0,none⟩)),(4,.pointer (some ⟨b2,0,none⟩)),(5,i' i1)]) (fun ⟨i1,Z,x,n,A,C,p,t,V,g,d,m,l,k,f,Q⟩=>Mem.le G0 Q/\sl Rp.str Q x n Z.vars/\sl b' Q A C Z.eqs/\sl b' Q p t Z.neqs/\sl Rp.str Q g d V.s.vars/\sl b' Q m l V.s.eqs/\sl b' Q k f V.s.neqs) (fun ⟨i1,Z,x,n,A,C,p,t,V,g,d,m,l,k,f,Q⟩=>St w0 G0 Q [(2,some ⟨b1,.cells ((v31' Z x n A C p t)).toArray 31 (0,0),0⟩),(4,some ⟨b2,.cells ((v72' V g d m l k f)).toArray 72 (0,0),0⟩)]) ⟨0,s1,ac,af,al,ak,ae,ad,(Zx.mk (Za.mk [] [] [] 0) 0 0),none,0,none,0,none,0,G0⟩ hr (f4 z z z z) ⟨mr,aH,aR,aL,(V' _ _),(V' _ _),(V' _ _)⟩ (w2 z z) ?_
  .intro bA gx hx hr
   obtain⟨i1,Z,x,n,A,C,p,t,V,g,d,m,l,k,f,Q⟩:=gx
   obtain⟨ab,an,ao,aj,ah,am,ag⟩:=hx
   refine n'<|sr<|mv z z<|mv z z<|yy (M' au' (aA.mono ab) z) z<|yy (ag' z z) z<|nx<|L' hr z (fun bm hr=>?_) (fun bm hr=>?_)
   .refine q'<|g'<|n'<|C'<|n'<|ah' [ff,ff,ff,ff,ff,ff,ff,ff,tt,ff] mix (by kernel_rfl) fun hb=>cn (fun _ e=>o' 2 ar' z z z)<|cn (fun _ e=>e' z)<|cn (fun _ e=>e' z) ?_
    obtain⟨x1,a3,hr⟩:=hr
    refine cn (fun _ e=>Q' au' cc' ((aA.mono ab).mono e) z z a3) ?_
    obtain⟨bt,br,bh,a9⟩:=db' (H' (ab' aA a3) ab)
    refine cn (fun _ e=>aA' _ bL' z z (fun j v hv=>e _ _ _ (bh j v hv))) ?_
    obtain⟨aa,bd,hr⟩:=hr
    refine aW' (post:=w31t' aa) (fun _=>z) (fun _ _=>t' E55 z) (er' bd) z (fun G' e=>⟨(an.mono e),(ao.mono e),(aj.mono e),(a9.mono e)⟩) (fun v G1 G2 e h=>?_) ?_
    .obtain⟨R,T,X,W,S,U,rfl,K,P,J⟩:=h
     exact⟨_,_,_,_,_,_,z,K.mono e,P.mono e,J.mono e⟩
    refine bm' (φ:=w31t' aa) (fun _=>z) (fun v G1 G2 e h=>?_) (fun u G' e hu=>?_) ?_
    .obtain⟨p1,aF,p2,aB,p3,aC,rfl,aw,ax,av⟩:=h
     exact⟨_,_,_,_,_,_,z,aw.mono e,ax.mono e,av.mono e⟩
    .obtain⟨⟨R,T,X,W,S,U,a2,K,P,J⟩,_⟩:=(show (w31t' aa) G'.m (u 20)/\True from hu)
     simp only[undFr,a2]
     exact⟨_,e' z,R,T,X,W,S,U,z,K,P,J⟩
    refine bm' (φ:=w31' aa.1) (fun _=>z) (fun v G1 G2 e h=>?_) (fun u G' e hu=>?_) ?_
    .obtain⟨p4,a5,p5,a6,p6,a8,rfl,aQ,aP,aU⟩:=h
     exact⟨_,_,_,_,_,_,z,aQ.mono e,aP.mono e,aU.mono e⟩
    .obtain⟨⟨p1,aF,p2,aB,p3,aC,ar,aw,ax,av⟩,_,_⟩:=(show (w31t' aa) G'.m (u 14)/\True/\True from hu)
     simp only[undFr,ar]
     exact⟨_,y' z z,p1,aF,p2,aB,p3,aC,z,aw,ax,av⟩
    refine bu' (c:=i' aa.2) (fun _=>z) (fun u G' e hu=>?_) ?_
    .obtain⟨_,⟨p1,aF,p2,aB,p3,aC,ar,aw,ax,av⟩,_,_⟩:=(show True/\(w31t' aa) G'.m (u 14)/\True/\True from hu)
     simp only[undFr,ar]
     exact y' z z
    refine bD' (fun _=>z) z31<|cC' (fun bB bo bx bw X1 aq aV aO aJ aM=>?_)
    obtain⟨b3,rfl,ba⟩:=aV
    obtain⟨p4,a5,p5,a6,p6,a8,rfl,aQ,aP,aU⟩:=aO
    obtain⟨p1,aF,p2,aB,p3,aC,rfl,aw,ax,av⟩:=aJ
    obtain⟨R,T,X,W,S,U,rfl,K,P,J⟩:=aM
    refine cq' ba (cj' (show WL _ _ _ _ _ _ (St w0 G0 X1.m _) from ?_))
    refine s' 6 z aU' z z z z z (List.all_eq_true.1 z)<|sg z z<|u'<|aq'<|g'<|n'<|sr<|mv z z<|yy (av' z z) z<|nx<|L' hr z (fun bl hr=>?_) (fun bl hr=>?_)
    .refine sr<|mv z z<|mv z z<|yy (aw' (vs:=#[(1,i' i1),(2,i' aa.2)]) (v:=.agg ([.slice none 0 0,.slice none 0 0,.slice none 0 0,i' 0,i' i1,i' aa.2]).toArray) z z (fun _=>by kernel_rfl)) z<|s' 4 z sz72 z z z z z (List.all_eq_true.1 z)<|nx<|j'<|a'<|m'<|a'<|a'<|m'<|ae'<|a' ?_
     obtain rfl:_=r:=hr
     exact k' z (ac' (i:=4) ag72 z z z) ⟨_,_,_,_,_,_,z,(V' Rp.str _),(V' b' _),(V' b' _)⟩
    refine q'<|g'<|A'<|yy (o' 6 ar' z z z) z<|s' 2 z aU' z z z z z (List.all_eq_true.1 z)<|u'<|J'<|g'<|A'<|mv z z<|yy (W' z z) z<|sg z z<|u'<|X' ⟨i64.wrap (i1+1),aa.1,p4,a5,p5,a6,p6,a8,V,g,d,m,l,k,f,X1.m⟩ hr ⟨(mt ab aq),aQ,aP,aU,(ah.mono aq),(am.mono aq),(ag.mono aq)⟩ (f4 z z z z) (w2 z z)
   refine am'<|r'<|r'<|O'<|ao' ⟨Z,x,n,A,C,p,t,V,g,d,m,l,k,f,Q⟩ ⟨ab,an,ao,aj,ah,am,ag,hr⟩ (f3 z z z) (w2 z z)
 rintro⟨L,s,q,D,B,o,y,ai,I,H,M,O,E,F,Y⟩ ⟨aZ,ay,aI,az,a7,be,a4,hr⟩
 refine g'<|sr<|yy (o' 2 ar' z z z) z<|mv z z<|yy (M' au' (aA.mono aZ) z) z<|yy (aw' (vs:=#[(0,.agg ((v31' L s q D B o y)).toArray),(1,i' (l1.length:Int))]) (v:=.agg ([.slice s L.vars.length q,.slice D L.eqs.length B,.slice o L.neqs.length y,i' L.next,i' (l1.length:Int),i' 0]).toArray) z z (fun _=>by kernel_rfl)) z<|s' 4 z sz72 z z z z z (List.all_eq_true.1 z)<|nx<|j' ?_
 obtain rfl:_=r:=hr
 exact k' z (ac' (i:=4) ag72 z z z) ⟨_,_,_,_,_,_,z,ay,aI,az⟩
theorem ff'{l k i g f c d J E r}(hr:(ZfB l).Ret r):Ctr prog 41 #[.agg ((v34' l k i g f c d J E)).toArray] (fun G=>sl Rp.str G k i l.root.vars/\sl b' G g f l.root.eqs/\sl b' G c d l.root.neqs/\sl an' G J E l.v) (fun G v=>∃ ag am,v = .tuple #[.slice ag r.1.length am,.bool r.2]/\sl aP' G ag am r.1):=by
 refine E' (args:=[_]) (N:=66) func41 z z z (fun w0 G0 ai aA=>?_)
 obtain⟨R,U,S,V⟩:=aA
 refine sr<|ad' 1 z z z fun b1=>sg z z<|sg z z<|nr<|yy (dc' z) z<|yy (aH' ((v31' l.root k i g f c d)).toArray 1 ar' z z z (aT' ([]) ((v31' l.root k i g f c d)) ([.slice J l.v.length E]))) z<|bd' (e:=31) (r:=aP') (vs:=#[(0,.agg ((v31' l.root k i g f c d)).toArray)]) (cs:=(v31' l.root k i g f c d)++([])) ([l.root]:List Za) z z z z z (by decide) (fun _=>by kernel_rfl) ⟨(v31' l.root k i g f c d),[],z,⟨[.slice k l.root.vars.length i],[.slice g l.root.eqs.length f,.slice c l.root.neqs.length d,i' l.root.next],z,⟨_,z,R⟩,⟨[.slice g l.root.eqs.length f],[.slice c l.root.neqs.length d,i' l.root.next],z,⟨_,z,U⟩,⟨[.slice c l.root.neqs.length d],[i' l.root.next],z,⟨_,z,S⟩,z⟩⟩⟩,z⟩ (key:=999) z (by rw[ai]; rfl) fun p1 al X aL=>sg z z<|nx<|n'<|sr<|sg z z<|nx<|ak' (fun (⟨C,K,L,I,W⟩:(List Za)×Option Addr×Nat×Option Ow×Mem)=>[(4,.slice K C.length L)]) (fun ⟨C,K,L,I,W⟩=>Mem.le al W/\sl aP' W K L C/\Tok 4 31 (.slice K C.length L) C.length I/\(Zdg C).Ret r) (fun ⟨C,K,L,I,W⟩=>St w0 G0 W [(1004,I)]) ?_ ?_
 .refine C' ?_
  let ab:(((List Za)×Bool)⊕(List Za))->Prop:=fun oo=>((fun ov=>match ov with | .inl rv1=>Cq.ret rv1 | .inr C=>Zdg C:(((List Za)×Bool)⊕(List Za))->Cq ((List Za)×Bool)) oo).wp (fun a=>a=r)
  replace hr:(Cq.loop _ _).wp ab:=hr
  refine al' (Φ:=ab) (fun (⟨u,A,B,y,D,M⟩:(List Za)×Option Addr×Nat×Option Ow×Int×Mem)=>((u,D):(List Za)×Int)) (fun ⟨u,A,B,y,D,M⟩=>[(1,.pointer (some ⟨b1,0,none⟩)),(4,.slice A u.length B),(5,i' D)]) (fun ⟨u,A,B,y,D,M⟩=>Mem.le al M/\sl aP' M A B u/\Tok 4 31 (.slice A u.length B) u.length y) (fun ⟨u,A,B,y,D,M⟩=>St w0 G0 M [(1,some ⟨b1,.cells ((v34' l k i g f c d J E)).toArray 34 (0,0),0⟩),(1004,y)]) ⟨[l.root],p1,1,none,1,al⟩ hr (f3 z z z) ⟨mr,aL,dg'⟩ (wk (lc z (lw ln))) ?_
  .intro aR gx hx hr
   obtain⟨u,A,B,y,D,M⟩:=gx
   obtain⟨Q,T,Y⟩:=hx
   refine n'<|sr<|mv z z<|yy (as' z) z<|yy (f' 1 bk' z z z) z<|yy (M' K' (V.mono (mt X Q)) z) z<|yy (ag' z z) z<|nx<|L' hr z (fun a0 hr=>?_) (fun a0 hr=>?_)
   .refine q'<|g'<|n'<|C'<|sr<|yy (as' z) z<|yy (f' 1 bk' z z z) z<|mv z z ?_
    obtain⟨x1,av,hr⟩:=hr
    refine yy (Q' K' cn' (V.mono (mt X Q)) z z av) z ?_
    obtain⟨ax,ay,aQ,ah⟩:=cK' (H' (ab' V av) (mt X Q))
    refine yy (aA' _ ag63 z z aQ) z<|T' 6 z z63 z fun b2=>s' 6 z cn' z z z z z (List.all_eq_true.1 z)<|nx<|aM' (fun (gx:Mem)=>match gx with|Z=>[(1,.pointer (some ⟨b1,0,none⟩)),(4,.slice A u.length B),(5,i' D),(6,.pointer (some ⟨b2,0,none⟩))]) (fun (gx:Mem)=>match gx with|Z=>Mem.le M Z/\(ZfW u D x1).wp (Out aR ab)) (fun (gx:Mem)=>match gx with|Z=>St w0 G0 Z [(1,some ⟨b1,.cells ((v34' l k i g f c d J E)).toArray 34 (0,0),0⟩),(6,some ⟨b2,.cells ((v63' x1 ax ay)).toArray 63 (0,0),0⟩),(1004,y)]) ?_ ?_
    .refine sr<|yy (bX' z) z<|yy (f' 6 sc3 z z z) z<|aa' hr z (ag' z z) z (fun aK hr=>?_) (fun aK hr=>?_)
     .refine mv z z<|sn4 z<|yy (h' z z) z<|mv z z<|sn3 z<|yy (h' z z) z<|mv z z<|sn4 z<|yy (h' z z) z<|mv z z<|sn4 z<|yy (h' z z) z<|nx<|R' z<|sr<|sg z z<|sg z z<|nx<|j'<|a'<|m'<|a'<|a'<|m'<|ae'<|a' ?_
      obtain rfl:_=r:=hr
      exact aC' z z z ⟨_,_,z,(V' aP' _)⟩
     refine mv z z<|gy z z (bX' z) z<|gy z z (f' 6 sc3 z z z) z<|gy z z (e' z) z<|aa' hr (v' z z) (be' z z) z (fun a1 hr=>?_) (fun a1 hr=>?_)
     .refine yy (l' z z) z<|mv z z<|sn3 z<|yy (h' z z) z<|mv z z<|sn4 z<|yy (h' z z) z<|mv z z<|sn4 z<|yy (h' z z) z<|nx<|R' z<|sr<|sg z z<|sg z z<|nx<|j'<|a'<|m'<|a'<|a'<|m'<|ae'<|a' ?_
      obtain rfl:_=r:=hr
      exact aC' z z z ⟨_,_,z,(V' aP' _)⟩
     refine yy (l' z z) z<|mv z z<|gy z z (cF' z) z<|gy z z (f' 6 sc3 z z z) z<|aa' hr (v' z z) (ag' z z) z (fun a2 hr=>?_) (fun a2 hr=>?_)
     .refine yy (l' z z) z<|mv z z<|sn4 z<|yy (h' z z) z<|mv z z<|sn4 z<|yy (h' z z) z<|nx<|R' z<|sr<|sg z z<|sg z z<|nx<|j'<|a'<|m'<|a'<|a'<|m'<|ae'<|a' ?_
      obtain rfl:_=r:=hr
      exact aC' z z z ⟨_,_,z,(V' aP' _)⟩
     refine yy (l' z z) z<|mv z z<|gy z z (cF' z) z<|gy z z (f' 6 sc3 z z z) z<|gy z z (e' z) z<|aa' hr (v' z z) (be' z z) z (fun aP hr=>?_) (fun aP hr=>?_)
     .refine yy (l' z z) z<|mv z z<|sn4 z<|yy (h' z z) z<|nx<|R' z<|sr<|sg z z<|sg z z<|nx<|j'<|a'<|m'<|a'<|a'<|m'<|ae'<|a' ?_
      obtain rfl:_=r:=hr
      exact aC' z z z ⟨_,_,z,(V' aP' _)⟩
     refine yy (l' z z) z<|mv z z<|gy z z (bY' z) z<|gy z z (f' 6 sc44 z z z) z<|gy z z (M' au' ah z) z<|gy z z (bh' z z) z<|yy (l' z z) z<|nx<|L' hr z (fun aU hr=>?_) (fun aU hr=>?_)
     .refine sr<|sg z z<|sg z z<|nx<|j'<|a'<|m'<|a'<|a'<|m'<|ae'<|a' ?_
      obtain rfl:_=r:=hr
      exact aC' z z z ⟨_,_,z,(V' aP' _)⟩
     refine q'<|ap' M ⟨mr,hr⟩ (f4 z z z z) (w3 z z z)
    rintro Z ⟨P,hr⟩
    refine n'<|ah' [ff,ff,ff,ff,ff,ff,ff,ff,ff] mix (by kernel_rfl) fun hb=>cn (fun _ x=>e' z)<|cn (fun _ x=>bX' z)<|cn (fun _ x=>f' 6 sc3 z z z) ?_
    obtain⟨x2,aw,hr⟩:=hr
    refine cn (fun _ x=>Q' cE' aU' ((T.mono P).mono x) z z aw) ?_
    obtain⟨aH,aI,aZ,aT,aG,aF,aN,ae,ak,ad⟩:=cV' (H' (ab' T aw) P)
    refine cn (fun _ x=>aA' _ ar' z z (fun j v hv=>x _ _ _ (aN j v hv)))<|cn (fun _ x=>bY' z)<|cn (fun _ x=>f' 6 sc44 z z z) ?_
    obtain⟨t,aB,hr⟩:=hr
    refine aW' (post:=w72' t) (fun _=>z) (fun _ _=>t' E30 z) (fa' aB) z (fun G' x=>⟨(ae.mono x),(ak.mono x),(ad.mono x),((ah.mono P).mono x)⟩) (fun v G1 G2 x h=>?_) ?_
    .obtain⟨q,o,s,p,n,m,rfl,F,O,H⟩:=h
     exact⟨_,_,_,_,_,_,z,F.mono x,O.mono x,H.mono x⟩
    refine bD' (fun _=>z) z72<|ef' (fun bd bb X1 aj an af=>?_)
    obtain⟨b3,rfl,az⟩:=an
    obtain⟨q,o,s,p,n,m,rfl,F,O,H⟩:=af
    refine cq' az (cj' (show WL _ _ _ _ _ _ (St w0 G0 X1.m _) from ?_))
    refine s' 7 z sz72 z z z z z (List.all_eq_true.1 z)<|u'<|aq'<|g'<|n'<|sr<|yy (Y0.Zle z) z<|yy (f' 7 sc36 z z z) z<|yy (av' z z) z<|nx<|L' hr z (fun aY hr=>?_) (fun aY hr=>?_)
    .refine sr<|sg z z<|sg z z<|nx<|j'<|a'<|m'<|a'<|a'<|m'<|ae'<|a' ?_
     obtain rfl:_=r:=hr
     exact aC' z z z ⟨_,_,z,(V' aP' _)⟩
    refine q'<|g'<|A'<|mv z z<|yy (Y0.Zp4 z) z<|yy (aH' ((v31' t.s q o s p n m)).toArray 7 ar' z z z (aT' ([]) ((v31' t.s q o s p n m)) ([i' t.n,i' t.e]))) z<|bd' (e:=31) (r:=aP') (vs:=#[(0,.agg ((v31' t.s q o s p n m)).toArray)]) (cs:=(v31' t.s q o s p n m)++([])) ([t.s]:List Za) z z z z z (by decide) (fun _=>by kernel_rfl) ⟨(v31' t.s q o s p n m),[],z,⟨[.slice q t.s.vars.length o],[.slice s t.s.eqs.length p,.slice n t.s.neqs.length m,i' t.s.next],z,⟨_,z,F⟩,⟨[.slice s t.s.eqs.length p],[.slice n t.s.neqs.length m,i' t.s.next],z,⟨_,z,O⟩,⟨[.slice n t.s.neqs.length m],[i' t.s.next],z,⟨_,z,H⟩,z⟩⟩⟩,z⟩ (key:=999) z (by rw[ai]; rfl) (fun p2 bc ac aS=>?_)
    obtain⟨aC,hr⟩:=hr
    refine bS' (r:=aP') 1004 z z cE' el31 z (by decide) z z (T.mono (mt (mt P aj) ac)) z (by rw[ai]; rfl) Y aS aC fun p3 aO aE aV au aJ aD=>sg z z<|u'<|J'<|g'<|A'<|mv z z<|yy (W' z z) z<|sg z z<|u'<|X' ⟨(u++[t.s]),p3,aO,aE,i64.wrap (D+1),aV⟩ hr ⟨(mt (mt (mt (mt Q P) aj) ac) au),aJ,aD⟩ (f3 z z z) (w2 z z)
   refine am'<|r'<|r'<|O'<|ao' ⟨u,A,B,y,M⟩ ⟨Q,T,Y,hr⟩ (f1 z) (w1 z)
 rintro⟨C,K,L,I,W⟩ ⟨a3,ar,aM,hr⟩
 refine g'<|sr<|mv z z<|sg z z<|sg z z<|nx<|j' ?_
 obtain rfl:_=r:=hr
 exact aC' z z z ⟨_,_,z,ar⟩
theorem fb'{m K h f l j g c o q r}(hr:(Zi2 m K).Ret r):Ctr prog 12 #[.agg ((v34' m h f l j g c o q)).toArray,i' K] (fun G=>sl Rp.str G h f m.root.vars/\sl b' G l j m.root.eqs/\sl b' G g c m.root.neqs/\sl an' G o q m.v) (w31t' r):=by
 refine E' (args:=[_,_]) (N:=22) func12 z z z (fun W Y V A=>?_)
 obtain⟨e,k,d,p⟩:=A
 refine sr<|ad' 2 z z z fun b1=>T' 4 z z31 z fun X=>sg z z<|nx<|n'<|sr<|yy (o' 2 aK' z z z) z<|mv z z ?_
 obtain⟨T,C,hr⟩:=hr
 refine D' z z (t' E40 z) (ec' C) z (⟨e,k,d,p⟩)<|yy (aj' z) z<|nx<|aL' hr z (fun O hr=>?_) (fun O hr=>?_)
 .refine sr<|yy (aw' (vs:=#[]) (v:=.agg ([.slice none 0 0,.slice none 0 0,.slice none 0 0,i' 0]).toArray) z z (fun _=>by kernel_rfl)) z<|s' 4 z aU' z z z z z (List.all_eq_true.1 z)<|sg z z<|nx<|j'<|a' ?_
  obtain rfl:_=r:=hr
  exact aC' z (ac' (i:=4) ar' z z z) z ⟨_,_,_,_,_,_,z,(V' Rp.str _),(V' b' _),(V' b' _)⟩
 refine q'<|g'<|sr<|yy (o' 2 aK' z z z) z ?_
 obtain⟨U,B,hr⟩:=hr
 refine P' z z (t' E41 z) (ff' B) z (⟨e,k,d,p⟩) (fun R S Q t=>?_)
 obtain⟨I,M,rfl,n⟩:=t
 refine mv z z<|yy (y' z z) z<|yy (y' z z) z<|sg z z<|sg z z<|nr<|mv z z<|mv z z ?_
 obtain⟨Z,y,hr⟩:=hr
 refine yy (Q' cE' aU' n z z y) z ?_
 obtain⟨H,D,P,J,E,F,L,u,x,s⟩:=cV' (ab' n y)
 refine yy (aA' _ ar' z z L) z<|s' 4 z aU' z z z z z (List.all_eq_true.1 z)<|sg z z<|nx<|j' ?_
 obtain rfl:_=r:=hr
 exact aC' z (ac' (i:=4) ar' z z z) z ⟨_,_,_,_,_,_,z,u,x,s⟩
theorem et'{s1 l1 W O S Y X R P ao an r}(hr:(Ze2 s1 l1 W).Ret r):Ctr prog 28 #[.agg ((v31' s1 O S Y X R P)).toArray,.slice ao l1.length an,i' W] (fun G=>sl Rp.str G O S s1.vars/\sl b' G Y X s1.eqs/\sl b' G R P s1.neqs/\sl cp' G ao an l1) (wl' af' r):=by
 refine E' (args:=[_,_,_]) (N:=44) func28 z z z (fun w0 G0 ay aK=>?_)
 obtain⟨ap,az,av,ax⟩:=aK
 refine sr<|ad' 3 z z z fun b1=>sg z z<|nr<|bd' (e:=48) (r:=af') (vs:=#[]) (cs:=[]) ([]:List Zc) z z z z z (by decide) (fun _=>by kernel_rfl) (z) (key:=999) z (by rw[ay]; rfl) fun p1 aA I aS=>sg z z<|nx<|n'<|sr<|sg z z<|nx<|ak' (fun (⟨y,H,F,E,aa⟩:(List Zc)×Option Addr×Nat×Option Ow×Mem)=>[(7,.slice H y.length F)]) (fun ⟨y,H,F,E,aa⟩=>Mem.le aA aa/\sl af' aa H F y/\Tok 7 48 (.slice H y.length F) y.length E/\(Zey y).Ret r) (fun ⟨y,H,F,E,aa⟩=>St w0 G0 aa [(1007,E)]) ?_ ?_
 .refine C' ?_
  let am:(List Zc)->Prop:=fun oo=>((fun ov=>match ov with|y=>Zey y:(List Zc)->Cq (List Zc)) oo).wp (fun a=>a=r)
  replace hr:(Cq.loop _ _).wp am:=hr
  refine al' (Φ:=am) (fun (⟨m,p,q,l,Z,D,i,g,o,n,f,k,u⟩:(List Zc)×Option Addr×Nat×Option Ow×Int×Za×Option Addr×Nat×Option Addr×Nat×Option Addr×Nat×Mem)=>((m,Z,D):(List Zc)×Int×Za)) (fun ⟨m,p,q,l,Z,D,i,g,o,n,f,k,u⟩=>[(1,.slice ao l1.length an),(2,i' W),(3,.pointer (some ⟨b1,0,none⟩)),(7,.slice p m.length q),(8,i' Z)]) (fun ⟨m,p,q,l,Z,D,i,g,o,n,f,k,u⟩=>Mem.le aA u/\sl af' u p q m/\Tok 7 48 (.slice p m.length q) m.length l/\sl Rp.str u i g D.vars/\sl b' u o n D.eqs/\sl b' u f k D.neqs) (fun ⟨m,p,q,l,Z,D,i,g,o,n,f,k,u⟩=>St w0 G0 u [(3,some ⟨b1,.cells ((v31' D i g o n f k)).toArray 31 (0,0),0⟩),(1007,l)]) ⟨[],p1,0,none,0,s1,O,S,Y,X,R,P,aA⟩ hr (f5 z z z z z) ⟨mr,aS,dg',(ap.mono I),(az.mono I),(av.mono I)⟩ (wk (lc z (lw ln))) ?_
  .intro aW gx hx hr
   obtain⟨m,p,q,l,Z,D,i,g,o,n,f,k,u⟩:=gx
   obtain⟨C,T,L,J,Q,K⟩:=hx
   refine aM' (fun (gx:Mem)=>match gx with|ak=>[(1,.slice ao l1.length an),(2,i' W),(3,.pointer (some ⟨b1,0,none⟩)),(7,.slice p m.length q),(8,i' Z)]) (fun (gx:Mem)=>match gx with|ak=>Mem.le u ak/\(Zg1 l1 m Z D).wp (Out aW am)) (fun (gx:Mem)=>match gx with|ak=>St w0 G0 ak [(3,some ⟨b1,.cells ((v31' D i g o n f k)).toArray 31 (0,0),0⟩),(1007,l)]) ?_ ?_
   .refine sr<|mv z z<|mv z z<|yy (M' cX' (ax.mono (mt I C)) z) z<|aa' hr z (ag' z z) z (fun aQ hr=>?_) (fun aQ hr=>?_)
    .refine mv z z<|gy z z (e' z) z<|gy z z (e' z) z<|gy z z (ag' z z) z<|yy (h' z z) z<|nx<|L' hr z (fun a0 hr=>?_) (fun a0 hr=>?_)
     .refine q'<|ap' u ⟨mr,hr⟩ (f5 z z z z z) (w2 z z)
     refine am'<|r'<|r'<|O'<|ao' ⟨m,p,q,l,u⟩ ⟨C,T,L,hr⟩ (f1 z) (w1 z)
    refine mv z z<|sn3 z<|yy (l' z z) z<|nx<|bb' z<|am'<|r'<|r'<|O'<|ao' ⟨m,p,q,l,u⟩ ⟨C,T,L,hr⟩ (f1 z) (w1 z)
   rintro ak ⟨d,hr⟩
   refine n'<|C'<|n'<|ah' [ff,ff,ff,ff,ff,ff,ff] mix (by kernel_rfl) fun hb=>cn (fun _ B=>o' 3 ar' z z z)<|cn (fun _ B=>e' z)<|cn (fun _ B=>e' z) ?_
   obtain⟨x1,aH,hr⟩:=hr
   refine cn (fun _ B=>Q' cX' sz54 ((ax.mono (mt (mt I C) d)).mono B) z z aH) ?_
   obtain⟨a4,a3,aU,aG⟩:=Zg8 (H' (ab' ax aH) (mt (mt I C) d))
   refine cn (fun _ B=>aA' _ ag54 z z (fun j v hv=>B _ _ _ (aU j v hv))) ?_
   obtain⟨c,aL,hr⟩:=hr
   refine aW' (post:=w48' c) (fun _=>z) (fun _ _=>t' E19 z) (eX' aL) z (fun G' B=>⟨((J.mono d).mono B),((Q.mono d).mono B),((K.mono d).mono B),(aG.mono B)⟩) (fun v G1 G2 B h=>?_) ?_
   .obtain⟨t,s,rfl,V⟩:=h
    exact⟨_,_,z,V.mono B⟩
   refine bD' (fun _=>z) z48<|ef' (fun bf bc X1 A aB aw=>?_)
   obtain⟨b2,rfl,aJ⟩:=aB
   obtain⟨t,s,rfl,V⟩:=aw
   refine cq' aJ (cj' (show WL _ _ _ _ _ _ (St w0 G0 X1.m _) from ?_))
   refine s' 9 z cc' z z z z z (List.all_eq_true.1 z)<|u'<|aq'<|g'<|sr<|yy (o' 3 ar' z z z) z<|yy (o' 9 bL' z z z) z ?_
   obtain⟨aV,aI,hr⟩:=hr
   refine P' z z (t' E55 z) (er' aI) z (⟨(J.mono (mt d A)),(Q.mono (mt d A)),(K.mono (mt d A)),V⟩) (fun bd aX x ar=>?_)
   obtain⟨af,ag,ah,aj,ab,ac,rfl,ae,ai,ad⟩:=ar
   refine mv z z<|yy (y' z z) z<|yy (y' z z) z<|T' 10 z z31 z fun b3=>s' 10 z aU' z z z z z (List.all_eq_true.1 z)<|sg z z<|nr<|mv z z<|yy (at' z z) z<|nx<|L' hr z (fun a1 hr=>?_) (fun a1 hr=>?_)
   .refine sr<|mv z z<|yy (o' 9 bL' z z z) z<|bd' (e:=48) (r:=af') (vs:=#[(0,.agg ((v48' c t s)).toArray)]) (cs:=(v48' c t s)++([])) ([c]:List Zc) z z z z z (by decide) (fun _=>by kernel_rfl) ⟨(v48' c t s),[],z,⟨[i' c.kind],[.string c.name,i' c.at',i' c.to',i' c.id,.slice t c.p.length s,.bool c.neq],z,z,⟨[.string c.name],[i' c.at',i' c.to',i' c.id,.slice t c.p.length s,.bool c.neq],z,z,⟨[i' c.at'],[i' c.to',i' c.id,.slice t c.p.length s,.bool c.neq],z,z,⟨[i' c.to'],[i' c.id,.slice t c.p.length s,.bool c.neq],z,z,⟨[i' c.id],[.slice t c.p.length s,.bool c.neq],z,z,⟨[.slice t c.p.length s],[.bool c.neq],z,⟨_,z,(V.mono x)⟩,z⟩⟩⟩⟩⟩⟩,z⟩ (key:=999) z (by rw[ay]; rfl) (fun p2 be M aY=>?_)
    obtain⟨aM,hr⟩:=hr
    refine bS' (r:=af') 1007 z z au' el48 z (by decide) z z (T.mono (mt (mt (mt d A) x) M)) z (by rw[ay]; rfl) L aY aM fun p3 aT aO aZ U aP aN=>sg z z<|nx<|A'<|yy (o' 10 ar' z z z) z<|s' 3 z aU' z z z z z (List.all_eq_true.1 z)<|u'<|J'<|g'<|A'<|mv z z<|yy (W' z z) z<|sg z z<|u'<|X' ⟨(m++[c]),p3,aT,aO,i64.wrap (Z+1),aV.1,af,ag,ah,aj,ab,ac,aZ⟩ hr ⟨(mt (mt (mt (mt (mt C d) A) x) M) U),aP,aN,(ae.mono (mt M U)),(ai.mono (mt M U)),(ad.mono (mt M U))⟩ (f5 z z z z z) (w2 z z)
   have N1:=mt (mt d A) x
   refine q'<|J'<|g'<|A'<|mv z z<|yy (W' z z) z<|sg z z<|u'<|X' ⟨m,p,q,l,i64.wrap (Z+1),D,i,g,o,n,f,k,aX⟩ hr ⟨(mt (mt (mt C d) A) x),(T.mono N1),L,(J.mono N1),(Q.mono N1),(K.mono N1)⟩ (f5 z z z z z) (w2 z z)
 rintro⟨y,H,F,E,aa⟩ ⟨a2,aC,aR,hr⟩
 refine g'<|sr<|mv z z<|sg z z<|nx<|j' ?_
 obtain rfl:_=r:=hr
 exact k' z z ⟨_,_,z,aC⟩
theorem fw'{c y x m g d l k f j M J T V r}(hr:(Zgk c y x m).Ret r):Ctr prog 36 #[.agg ((v34' c g d l k f j M J)).toArray,i' y,i' x,.slice T m.length V] (fun G=>sl Rp.str G g d c.root.vars/\sl b' G l k c.root.eqs/\sl b' G f j c.root.neqs/\sl an' G M J c.v/\sl af' G T V m) (w84' r):=by
 refine E' (args:=[_,_,_,_]) (N:=66) func36 z z z (fun w0 G0 ba aR=>?_)
 obtain⟨C,E,D,L,aa⟩:=aR
 refine sr<|ad' 4 z z z fun b1=>T' 8 z z84 z fun b2=>nx<|n'<|sr<|yy (o' 4 aK' z z z) z<|mv z z ?_
 obtain⟨bF,aT,hr⟩:=hr
 refine D' z z (t' E40 z) (ec' aT) z (⟨C,E,D,L⟩)<|yy (aj' z) z<|nx<|aL' hr z (fun bj hr=>?_) (fun bj hr=>?_)
 .refine sr<|yy (aw' (vs:=#[(2,i' 340)]) (v:=.agg ([.slice none 0 0,.slice none 0 0,.slice none 0 0,i' 0,.slice none 0 0,i' 0,i' 340]).toArray) z z (fun _=>by kernel_rfl)) z<|s' 8 z sz84 z z z z z (List.all_eq_true.1 z)<|nx<|j'<|a' ?_
  obtain rfl:_=r:=hr
  exact k' z (ac' (i:=8) ag84 z z z) ⟨_,_,_,_,_,_,_,_,z,(V' Rp.str _),(V' b' _),(V' b' _),(V' an' _)⟩
 refine q'<|g'<|aM' (fun (⟨S,n,p,t,s,q,o,I,K,P⟩:ZR×Option Addr×Nat×Option Addr×Nat×Option Addr×Nat×Option Addr×Nat×Mem)=>[(1,i' y),(2,i' x),(3,.slice T m.length V),(4,.pointer (some ⟨b1,0,none⟩)),(8,.pointer (some ⟨b2,0,none⟩))]) (fun ⟨S,n,p,t,s,q,o,I,K,P⟩=>Mem.le G0 P/\sl Rp.str P n p S.h.root.vars/\sl b' P t s S.h.root.eqs/\sl b' P q o S.h.root.neqs/\sl an' P I K S.h.v/\(ZgK c y x m).Ret r) (fun ⟨S,n,p,t,s,q,o,I,K,P⟩=>St w0 G0 P [(4,some ⟨b1,.cells ((v34' c g d l k f j M J)).toArray 34 (0,0),0⟩),(8,some ⟨b2,.cells ((v84' S n p t s q o I K)).toArray 84 (0,0),0⟩)]) ?_ ?_
 .refine sr<|yy (as' z) z<|yy (f' 4 bk' z z z) z<|yy (M' K' L z) z<|aa' hr z (be' z z) z (fun a9 hr=>?_) (fun a9 hr=>?_)
  .refine mv z z<|sn3 z<|yy (h' z z) z<|nx<|R' z<|sr<|yy (aw' (vs:=#[(2,i' 2)]) (v:=.agg ([.slice none 0 0,.slice none 0 0,.slice none 0 0,i' 0,.slice none 0 0,i' 0,i' 2]).toArray) z z (fun _=>by kernel_rfl)) z<|s' 8 z sz84 z z z z z (List.all_eq_true.1 z)<|nx<|j'<|a' ?_
   obtain rfl:_=r:=hr
   exact k' z (ac' (i:=8) ag84 z z z) ⟨_,_,_,_,_,_,_,_,z,(V' Rp.str _),(V' b' _),(V' b' _),(V' an' _)⟩
  refine mv z z<|gy z z (e' z) z<|gy z z (M' au' aa z) z<|gy z z (bh' z z) z<|yy (l' z z) z<|nx<|L' hr z (fun be hr=>?_) (fun be hr=>?_)
  .refine sr<|yy (aw' (vs:=#[(2,i' 2)]) (v:=.agg ([.slice none 0 0,.slice none 0 0,.slice none 0 0,i' 0,.slice none 0 0,i' 0,i' 2]).toArray) z z (fun _=>by kernel_rfl)) z<|s' 8 z sz84 z z z z z (List.all_eq_true.1 z)<|nx<|j'<|a' ?_
   obtain rfl:_=r:=hr
   exact k' z (ac' (i:=8) ag84 z z z) ⟨_,_,_,_,_,_,_,_,z,(V' Rp.str _),(V' b' _),(V' b' _),(V' an' _)⟩
  refine q'<|ap' ⟨(ZR.mk (Zf.mk (Za.mk [] [] [] 0) []) 0 0),none,0,none,0,none,0,none,0,G0⟩ ⟨mr,(V' _ _),(V' _ _),(V' _ _),(V' _ _),hr⟩ (f5 z z z z z) (w2 z z)
 rintro⟨S,n,p,t,s,q,o,I,K,P⟩ ⟨B,ak,an,aj,bg,hr⟩
 refine sr<|yy (o' 4 aK' z z z) z<|mv z z ?_
 obtain⟨bC,aO,hr⟩:=hr
 refine P' z z (t' E12 z) (fb' aO) z (⟨(C.mono B),(E.mono B),(D.mono B),(L.mono B)⟩) (fun bA bE H ah=>?_)
 obtain⟨aC,aD,aI,aK,au,av,rfl,ac,ad,ab⟩:=ah
 refine mv z z<|yy (y' z z) z<|yy (y' z z) z<|T' 9 z z31 z fun b3=>s' 9 z aU' z z z z z (List.all_eq_true.1 z)<|sg z z<|nr<|yy (o' 9 ar' z z z) z<|mv z z ?_
 obtain⟨aM,a1,hr⟩:=hr
 refine P' z z (t' E30 z) (fa' a1) z (⟨ac,ad,ab,(aa.mono (mt B H))⟩) (fun bo bH O ai=>?_)
 obtain⟨aL,aH,aY,aV,aG,aJ,rfl,aN,aU,aF⟩:=ai
 refine T' 11 z z72 z fun b4=>s' 11 z sz72 z z z z z (List.all_eq_true.1 z)<|nx<|n'<|sr<|yy (Y0.Zle z) z<|yy (f' 11 sc36 z z z) z<|yy (av' z z) z<|nx<|L' hr z (fun bi hr=>?_) (fun bi hr=>?_)
 .refine sr<|yy (Y0.Zle z) z<|yy (f' 11 sc36 z z z) z<|yy (aw' (vs:=#[(2,i' aM.e)]) (v:=.agg ([.slice none 0 0,.slice none 0 0,.slice none 0 0,i' 0,.slice none 0 0,i' 0,i' aM.e]).toArray) z z (fun _=>by kernel_rfl)) z<|s' 8 z sz84 z z z z z (List.all_eq_true.1 z)<|nx<|j'<|a' ?_
  obtain rfl:_=r:=hr
  exact k' z (ac' (i:=8) ag84 z z z) ⟨_,_,_,_,_,_,_,_,z,(V' Rp.str _),(V' b' _),(V' b' _),(V' an' _)⟩
 refine q'<|g'<|n'<|ah' [ff,ff,ff,ff,ff,ff,ff,ff] mix (by kernel_rfl) fun hb=>cn (fun _ A=>dc' z)<|cn (fun _ A=>aH' ((v31' c.root g d l k f j)).toArray 4 ar' z z z (aT' ([]) ((v31' c.root g d l k f j)) ([.slice M c.v.length J])))<|ej' (r:=an') (e:=63) ([]:List Zh) (fun _=>z) z (by decide) (fun u X A Y=>?_) ?_
 .exact⟨#[],[],z,z,fun _=>by kernel_rfl,z⟩
 refine cu (fun _ _ A=>as' z)<|cu (fun _ _ A=>f' 4 bk' z z z) ?_
 obtain⟨aW,hr⟩:=hr
 refine cD' (r:=an') (e:=63) (kk:=45) (xs:=([]:List Zh)) c.v (fun _=>z) z (by kernel_rfl) (by kernel_rfl) K' el63 z (by decide) aW (fun u X A Y=>?_) ?_
 .obtain⟨ax,_⟩:=(show (RowX an' 63 45 ([]:List Zh)) (u 45) X/\True from Y)
  exact⟨u 45,.slice M c.v.length J,ax,z,z,((L.mono (mt (mt B H) O)).mono A)⟩
 refine Chain.buildRow (r:=an') (e:=63) (kk:=48) (xs:=(([]:List Zh)++c.v)) (fun ap aq=>.agg ([.slice g c.root.vars.length d,.slice l c.root.eqs.length k,.slice f c.root.neqs.length j,i' c.root.next,.slice ap (([]:List Zh)++c.v).length aq]).toArray) (fun _=>z) z (by kernel_rfl) (by kernel_rfl) (fun u X A Y=>?_) ?_
 .obtain⟨aB,_,_⟩:=(show (RowX an' 63 48 (([]:List Zh)++c.v)) (u 48) X/\True/\True from Y)
  exact⟨u 48,aB,fun cp cc ao _=>aw' (vs:=#[(0,.agg ((v31' c.root g d l k f j)).toArray),(1,.slice cp (([]:List Zh)++c.v).length cc)]) (by simp only[undFr,eatO,List.map_cons,List.map_nil,ao] <;> rfl) z (fun _=>by kernel_rfl)⟩
 refine bD' (fun _=>z) z34<|cC' fun bI bn bs bx X1 W ar R a4 a3=>WL.adoptL ar (fun b5 bh bc=>?_)
 subst bh
 replace R:=RowM.drop R (by decide) bc
 refine WL.adoptM R (fun ap aq bm aS aX bq=>?_)
 subst aS
 refine cj' (show WL _ _ _ _ _ _ (St w0 G0 X1.m _) from ?_)
 refine s' 12 z bU' z z z z z (List.all_eq_true.1 z)<|u'<|aq'<|g'<|n'<|ah' [ff,ff,ff,ff,ff,ff,ff,ff,ff] mix (by kernel_rfl) fun hb=>cn (fun _ A=>as' z)<|cn (fun _ A=>f' 12 bk' z z z)<|cn (fun _ A=>e' z)<|cn (fun _ A=>e' z)<|ej' (r:=af') (e:=48) ([]:List Zc) (fun _=>z) z (by decide) (fun u X A Y=>?_) ?_
 .exact⟨#[],[],z,z,fun _=>by kernel_rfl,z⟩
 refine cu (fun _ _ A=>e' z) ?_
 obtain⟨a2,hr⟩:=hr
 refine cD' (r:=af') (e:=48) (kk:=54) (xs:=([]:List Zc)) m (fun _=>z) z (by kernel_rfl) (by kernel_rfl) au' el48 z (by decide) a2 (fun u X A Y=>?_) ?_
 .obtain⟨aw,_⟩:=(show (RowX af' 48 54 ([]:List Zc)) (u 54) X/\True from Y)
  exact⟨u 54,.slice T m.length V,aw,z,z,((aa.mono (mt (mt (mt B H) O) W)).mono A)⟩
 refine Chain.buildEat (r:=af') (e:=48) (kk:=56) (xs:=(([]:List Zc)++m)) (φ:=fun G v=>∃ Q F,v = .agg ([i' y,i' x,.slice Q (([]:List Zc)++m).length F]).toArray/\SlR af' G (.slice Q (([]:List Zc)++m).length F) (([]:List Zc)++m)) (fun _=>z) z (by kernel_rfl) (by kernel_rfl) (fun v G1 G2 A h=>?_) (fun u X A Y=>?_) ?_
 .obtain⟨Q,F,rfl,af⟩:=h
  exact⟨_,_,z,af.mono A⟩
 .obtain⟨az,_,_⟩:=(show (RowX af' 48 56 (([]:List Zc)++m)) (u 56) X/\True/\True from Y)
  exact⟨u 56,az,fun cp cc Gf ao a7=>⟨_,fun _=>aw' (vs:=#[(0,i' y),(1,i' x),(2,.slice cp (([]:List Zc)++m).length cc)]) (by simp only[undFr,eatO,List.map_cons,List.map_nil,ao] <;> rfl) z (fun _=>by kernel_rfl),cp,cc,z,a7⟩⟩
 refine Chain.litU (r:=an') (e:=63) ([(Zh.mk y x (([]:List Zc)++m))]:List Zh) (fun _=>z) z (by decide) (fun u X A Y=>?_) ?_
 .obtain⟨⟨Q,F,ay,af⟩,_,_,_⟩:=(show (fun G v=>∃ Q F,v = .agg ([i' y,i' x,.slice Q (([]:List Zc)++m).length F]).toArray/\SlR af' G (.slice Q (([]:List Zc)++m).length F) (([]:List Zc)++m)) X.m (u 57)/\True/\True/\True from Y)
  simp only[undFr,ay]
  exact⟨#[(0,.agg ([i' y,i' x,.slice Q (([]:List Zc)++m).length F]).toArray)],[i' y,i' x,.slice Q (([]:List Zc)++m).length F]++([]),z,z,fun _=>by kernel_rfl,⟨[i' y,i' x,.slice Q (([]:List Zc)++m).length F],[],z,⟨[i' y],[i' x,.slice Q (([]:List Zc)++m).length F],z,z,⟨[i' x],[.slice Q (([]:List Zc)++m).length F],z,z,⟨_,z,af⟩⟩⟩,z⟩⟩
 refine cC' (fun bk bw bu bv X2 Z ae ag a6 a5=>?_)
 obtain⟨p2,bB,rfl,bd⟩:=ae
 obtain⟨Q,F,rfl,af⟩:=ag
 refine cj' (show WL _ _ _ _ _ _ (St w0 G0 X2.m _) from ?_)
 obtain⟨aP,hr⟩:=hr
 refine cx' (r:=an') (e:=63) 49 z z K' el63 z (by decide) z z (aX.mono Z) z bd aP fun p3 am bz a8=>yy (as' z) z<|bM' (r:=an') (e:=63) 49 a8 z (by rw[ba]; rfl) fun bD bG U aZ bl=>aG' 12 ([.slice g c.root.vars.length d,.slice l c.root.eqs.length k,.slice f c.root.neqs.length j,i' c.root.next,.slice p3 ((([]:List Zh)++c.v)++[(Zh.mk y x (([]:List Zc)++m))]).length am]).toArray z sz32 z z z (show 4<5 by decide) z z<|u'<|aq'<|g'<|sr<|yy (o' 12 aK' z z z) z<|yy (as' z) z<|yy (f' 4 bk' z z z) z<|yy (M' K' (L.mono (mt (mt (mt (mt (mt B H) O) W) Z) U)) z) z<|yy (aw' (vs:=#[(0,.agg ([.slice g c.root.vars.length d,.slice l c.root.eqs.length k,.slice f c.root.neqs.length j,i' c.root.next,.slice p3 ((([]:List Zh)++c.v)++[(Zh.mk y x (([]:List Zc)++m))]).length am]).toArray),(1,i' (c.v.length:Int))]) (v:=.agg ([.slice g c.root.vars.length d,.slice l c.root.eqs.length k,.slice f c.root.neqs.length j,i' c.root.next,.slice p3 ((([]:List Zh)++c.v)++[(Zh.mk y x (([]:List Zc)++m))]).length am,i' (c.v.length:Int),i' 0]).toArray) z z (fun _=>by kernel_rfl)) z<|s' 8 z sz84 z z z z z (List.all_eq_true.1 z)<|nx<|j' ?_
 obtain rfl:_=r:=hr
 have N1:=mt (mt (mt (mt (mt B H) O) W) Z) U
 exact k' z (ac' (i:=8) ag84 z z z) ⟨_,_,_,_,_,_,_,_,z,(C.mono N1),(E.mono N1),(D.mono N1),aZ⟩
theorem ek'{L ao R Q S P r}(hr:(Zit L ao).Ret r):Ctr prog 10 #[.agg ((v25' L R Q S P)).toArray,i' ao] (fun G=>sl cp' G R Q L.s/\sl dG' G S P L.v) (w34' r):=by
 refine E' (args:=[_,_]) (N:=82) func10 z z z (fun w0 G0 bP bi=>?_)
 obtain⟨aX,y⟩:=bi
 refine sr<|ad' 2 z z z fun b1=>T' 4 z z34 z fun b2=>nr<|yy (Y0.ZpM z) z<|yy (f' 2 sc22 z z z) z ?_
 obtain⟨bQ,bk,hr⟩:=hr
 refine P' z z (t' E35 z) (gU' bk) z (aX) (fun bO bU I aO=>?_)
 obtain⟨bl,bf,bs,br,bh,bo,rfl,aF,aP,aI⟩:=aO
 obtain⟨bA,bg,hr⟩:=hr
 refine P' z z (t' E34 z) (hf' bg) z (⟨aF,aP,aI⟩) (fun bN aV H aN=>?_)
 obtain⟨Z,ad,ag,aj,ac,aa,aL,aQ,rfl,Y,ak,ab,aJ⟩:=aN
 refine mv z z<|yy (y' z z) z<|yy (y' z z) z<|T' 5 z z34 z fun b3=>s' 5 z bU' z z z z z (List.all_eq_true.1 z)<|sg z z<|nx<|n'<|sr<|sg z z<|nx<|ak' (fun (⟨O,q,o,t,s,p,n,U,V,X⟩:Zf×Option Addr×Nat×Option Addr×Nat×Option Addr×Nat×Option Addr×Nat×Mem)=>[(4,.pointer (some ⟨b2,0,none⟩)),(5,.pointer (some ⟨b3,0,none⟩))]) (fun ⟨O,q,o,t,s,p,n,U,V,X⟩=>Mem.le aV X/\sl Rp.str X q o O.root.vars/\sl b' X t s O.root.eqs/\sl b' X p n O.root.neqs/\sl an' X U V O.v/\(ZfA O).Ret r) (fun ⟨O,q,o,t,s,p,n,U,V,X⟩=>St w0 G0 X [(4,some ⟨b2,.cells ([.slice none 0 0,.slice none 0 0,.slice none 0 0,i' 0,.slice none 0 0]).toArray 34 (0,0),0⟩),(5,some ⟨b3,.cells ((v34' O q o t s p n U V)).toArray 34 (0,0),0⟩)]) ?_ ?_
 .refine C' ?_
  let az:Zf->Prop:=fun oo=>((fun ov=>match ov with|O=>ZfA O:Zf->Cq Zf) oo).wp (fun a=>a=r)
  replace hr:(Cq.loop _ _).wp az:=hr
  refine al' (Φ:=az) (fun (⟨J,C,j,e,l,k,f,g,F,D,K⟩:Int×Zf×Option Addr×Nat×Option Addr×Nat×Option Addr×Nat×Option Addr×Nat×Mem)=>((J,C):Int×Zf)) (fun ⟨J,C,j,e,l,k,f,g,F,D,K⟩=>[(1,i' ao),(2,.pointer (some ⟨b1,0,none⟩)),(4,.pointer (some ⟨b2,0,none⟩)),(5,.pointer (some ⟨b3,0,none⟩)),(7,i' J)]) (fun ⟨J,C,j,e,l,k,f,g,F,D,K⟩=>Mem.le aV K/\sl Rp.str K j e C.root.vars/\sl b' K l k C.root.eqs/\sl b' K f g C.root.neqs/\sl an' K F D C.v) (fun ⟨J,C,j,e,l,k,f,g,F,D,K⟩=>St w0 G0 K [(2,some ⟨b1,.cells ((v25' L R Q S P)).toArray 25 (0,0),0⟩),(4,some ⟨b2,.cells ([.slice none 0 0,.slice none 0 0,.slice none 0 0,i' 0,.slice none 0 0]).toArray 34 (0,0),0⟩),(5,some ⟨b3,.cells ((v34' C j e l k f g F D)).toArray 34 (0,0),0⟩)]) ⟨0,bA.1,Z,ad,ag,aj,ac,aa,aL,aQ,aV⟩ hr (f5 z z z z z) ⟨mr,Y,ak,ab,aJ⟩ (w3 z z z) ?_
  .intro bd gx hx hr
   obtain⟨J,C,j,e,l,k,f,g,F,D,K⟩:=gx
   obtain⟨u,B,E,A,T⟩:=hx
   refine aM' (fun (gx:Mem)=>match gx with|ae=>[(1,i' ao),(2,.pointer (some ⟨b1,0,none⟩)),(4,.pointer (some ⟨b2,0,none⟩)),(5,.pointer (some ⟨b3,0,none⟩)),(7,i' J)]) (fun (gx:Mem)=>match gx with|ae=>Mem.le K ae/\(Zh6 L J C).wp (Out bd az)) (fun (gx:Mem)=>match gx with|ae=>St w0 G0 ae [(2,some ⟨b1,.cells ((v25' L R Q S P)).toArray 25 (0,0),0⟩),(4,some ⟨b2,.cells ([.slice none 0 0,.slice none 0 0,.slice none 0 0,i' 0,.slice none 0 0]).toArray 34 (0,0),0⟩),(5,some ⟨b3,.cells ((v34' C j e l k f g F D)).toArray 34 (0,0),0⟩)]) ?_ ?_
   .refine sr<|mv z z<|yy (Y0.Zhh z) z<|yy (f' 2 sc23 z z z) z<|yy (M' dp' (y.mono (mt (mt I H) u)) z) z<|aa' hr z (ag' z z) z (fun bt hr=>?_) (fun bt hr=>?_)
    .refine mv z z<|gy z z (e' z) z<|gy z z (e' z) z<|gy z z (ag' z z) z<|yy (h' z z) z<|nx<|L' hr z (fun bD hr=>?_) (fun bD hr=>?_)
     .refine q'<|ap' K ⟨mr,hr⟩ (f5 z z z z z) (w3 z z z)
     refine am'<|r'<|r'<|O'<|ao' ⟨C,j,e,l,k,f,g,F,D,K⟩ ⟨u,B,E,A,T,hr⟩ (f2 z z) (w2 z z)
    refine mv z z<|sn3 z<|yy (l' z z) z<|nx<|bb' z<|am'<|r'<|r'<|O'<|ao' ⟨C,j,e,l,k,f,g,F,D,K⟩ ⟨u,B,E,A,T,hr⟩ (f2 z z) (w2 z z)
   rintro ae ⟨m,hr⟩
   refine n'<|C'<|n'<|ah' [ff,ff,ff,ff,ff,ff,ff,ff,ff,ff] mix (by kernel_rfl) fun hb=>cn (fun _ c=>Y0.Zhh z)<|cn (fun _ c=>f' 2 sc23 z z z)<|cn (fun _ c=>e' z) ?_
   obtain⟨x1,a7,hr⟩:=hr
   have N1:=mt (mt (mt I H) u) m
   refine cn (fun _ c=>Q' dp' sz82 ((y.mono N1).mono c) z z a7)<|cn (fun _ c=>Y0.Zp5 z)<|cn (fun _ c=>Y' sc5 z (aD' (H' (H' (aV' (ax' (ab' y a7))) N1) c)))<|cn (fun _ c=>aO' aS' aE' z)<|cn (fun _ c=>as' z)<|cn (fun _ c=>f' 5 bk' z z z)<|cn (fun _ c=>M' K' ((T.mono m).mono c) z)<|U' hb ?_
   obtain⟨bx,hr⟩:=hr
   refine yy (bE' z z bx) z<|sg z z<|u'<|aq'<|g'<|sr<|sg z z<|nx<|aM' (fun (⟨aw,aC⟩:Int×Mem)=>[(1,i' ao),(2,.pointer (some ⟨b1,0,none⟩)),(4,.pointer (some ⟨b2,0,none⟩)),(5,.pointer (some ⟨b3,0,none⟩)),(7,i' J),(8,i' (Int.tmod (i64.wrap x1.at') (C.v.length:Int))),(9,i' aw)]) (fun ⟨aw,aC⟩=>Mem.le ae aC/\(Zbx L J C x1 aw).wp (Out bd az)) (fun ⟨aw,aC⟩=>St w0 G0 aC [(2,some ⟨b1,.cells ((v25' L R Q S P)).toArray 25 (0,0),0⟩),(4,some ⟨b2,.cells ([.slice none 0 0,.slice none 0 0,.slice none 0 0,i' 0,.slice none 0 0]).toArray 34 (0,0),0⟩),(5,some ⟨b3,.cells ((v34' C j e l k f g F D)).toArray 34 (0,0),0⟩)]) ?_ ?_
   .refine sr<|yy (Y0.Zhh z) z<|yy (f' 2 sc23 z z z) z<|mv z z ?_
    obtain⟨x3,bc,hr⟩:=hr
    refine yy (Q' dp' sz82 (y.mono N1) z z bc) z<|yy (Y0.ZnP z) z<|yy (Y' sc5 z (aD' (H' (aV' (ay' (ax' (ab' y bc)))) N1))) z<|yy (bE' z z (by decide)) z<|yy (at' z z) z<|nx<|L' hr z (fun bE hr=>?_) (fun bE hr=>?_)
    .refine ah' [ff,ff,ff,ff,ff,ff,ff,ff,ff,ff,ff] mix (by kernel_rfl) fun hb=>cn (fun _ c=>Y0.Zhh z)<|cn (fun _ c=>f' 2 sc23 z z z)<|cn (fun _ c=>e' z) ?_
     obtain⟨x4,a9,hr⟩:=hr
     refine cn (fun _ c=>Q' dp' sz82 ((y.mono N1).mono c) z z a9)<|cn (fun _ c=>Y0.ZnP z)<|cn (fun _ c=>Y' sc5 z (aD' (H' (H' (aV' (ay' (ax' (ab' y a9)))) N1) c)))<|cn (fun _ c=>dV' z z (by decide))<|cn (fun _ c=>aO' aS' aE' z)<|cn (fun _ c=>as' z)<|cn (fun _ c=>f' 5 bk' z z z)<|cn (fun _ c=>M' K' ((T.mono m).mono c) z)<|U' hb ?_
     obtain⟨bv,hr⟩:=hr
     refine yy (bE' z z bv) z<|sg z z<|u'<|aq'<|ap' ⟨Int.tmod (i64.wrap (u8.wrap (Int.tdiv x4.other 4))) (C.v.length:Int),ae⟩ ⟨mr,hr⟩ (f7 z z z z z z z) (w3 z z z)
    refine q'<|ap' ⟨(-1),ae⟩ ⟨mr,hr⟩ (f7 z z z z z z z) (w3 z z z)
   rintro⟨aw,aC⟩ ⟨x,hr⟩
   refine sr<|yy (o' 5 aK' z z z) z<|mv z z ?_
   obtain⟨bT,bq,hr⟩:=hr
   refine P' z z (t' E12 z) (fb' bq) z (⟨(B.mono (mt m x)),(E.mono (mt m x)),(A.mono (mt m x)),(T.mono (mt m x))⟩) (fun bG bS M aR=>?_)
   obtain⟨a4,a1,ba,bb,aZ,a5,rfl,ay,aB,aA⟩:=aR
   refine mv z z<|yy (y' z z) z<|yy (y' z z) z<|T' 10 z z31 z fun b4=>s' 10 z aU' z z z z z (List.all_eq_true.1 z)<|sg z z<|nx<|ah' [ff,ff,ff,ff,ff,ff,ff,ff,ff,ff,ff] mix (by kernel_rfl) fun hb=>cn (fun _ c=>o' 5 aK' z z z)<|cn (fun _ c=>e' z)<|cn (fun _ c=>e' z)<|cn (fun _ c=>o' 10 ar' z z z)<|cn (fun _ c=>Y0.Zhh z)<|cn (fun _ c=>f' 2 sc23 z z z)<|cn (fun _ c=>e' z) ?_
   obtain⟨x2,a8,hr⟩:=hr
   refine cn (fun _ c=>Q' dp' sz82 ((y.mono (mt (mt N1 x) M)).mono c) z z a8)<|cn (fun _ c=>Y0.Zp6 z) ?_
   obtain⟨p1,bV,bz,bu⟩:=bG' (H' (ay' (ay' (ax' (ab' y a8)))) (mt (mt N1 x) M))
   refine cn (fun _ c=>Y' sc22 z (c _ _ _ bz)) ?_
   obtain⟨be,bm,hr⟩:=hr
   refine aW' (post:=wl' af' be) (fun _=>z) (fun _ _=>t' E28 z) (et' bm) z (fun G' c=>⟨(ay.mono c),(aB.mono c),(aA.mono c),(bu.mono c)⟩) (fun v G1 G2 c h=>?_) ?_
   .obtain⟨bj,bp,rfl,aG⟩:=h
    exact⟨_,_,z,aG.mono c⟩
   refine cQ' (d:=78) (post:=wl' af' be) (fun bL bR W aK=>?_)
   obtain⟨bj,bp,rfl,aG⟩:=aK
   obtain⟨bw,bn,hr⟩:=hr
   have N2:=mt (mt (mt m x) M) W
   refine P' z z (t' E36 z) (fw' bn) z (⟨(B.mono N2),(E.mono N2),(A.mono N2),(T.mono N2),aG⟩) (fun bI bC a6 aS=>?_)
   obtain⟨ai,am,au,ar,al,an,aT,aU,rfl,af,ap,ah,aW⟩:=aS
   refine yy (Y0.fieldA underlying84 z aK' z z) z<|s' 5 z bU' z z z z z (List.all_eq_true.1 z)<|u'<|aq'<|J'<|g'<|A'<|mv z z<|yy (W' z z) z<|sg z z<|u'<|X' ⟨i64.wrap (J+1),bw.h,ai,am,au,ar,al,an,aT,aU,bC⟩ hr ⟨(mt (mt (mt (mt (mt u m) x) M) W) a6),af,ap,ah,aW⟩ (f5 z z z z z) (w3 z z z)
 rintro⟨O,q,o,t,s,p,n,U,V,X⟩ ⟨bF,aq,ax,av,a3,hr⟩
 refine g'<|sr<|yy (o' 5 aK' z z z) z<|s' 4 z bU' z z z z z (List.all_eq_true.1 z)<|nx<|j' ?_
 obtain rfl:_=r:=hr
 exact k' z (ac' (i:=4) aK' z z z) ⟨_,_,_,_,_,_,_,_,z,aq,ax,av,a3⟩
theorem gf'{q s j g i h r}(hr:(Zio q s).Ret r):Ctr prog 154 #[.agg ((v128' q j g)).toArray,.agg ((v128' s i h)).toArray] (fun G=>sl (Rp.int .u32) G j g q.mag/\sl (Rp.int .u32) G i h s.mag) (fun G v=>v = .bool r):=by
 refine E' (args:=[_,_]) (N:=38) func154 z z z (fun y o O x=>?_)
 obtain⟨e,k⟩:=x
 refine sr<|ad' 2 z z z fun A=>ad' 3 z z z fun C=>sg z z<|nx<|n'<|sr<|yy (br' z) z<|yy (f' 2 sc4 z z z) z<|yy (br' z) z<|yy (f' 3 sc4 z z z) z<|aa' hr z (Y0.neqB cr' z z) z (fun B hr=>?_) (fun B hr=>?_)
 .refine mv z z<|sn7 z<|yy (h' z z) z<|nx<|R' z<|sr<|sg z z<|nx<|j'<|a' ?_
  obtain rfl:_=r:=hr
  exact k' z z z
 refine mv z z<|gy z z (aY' z) z<|gy z z (f' 2 bI' z z z) z<|gy z z (M' B' e z) z<|gy z z (aY' z) z<|gy z z (f' 3 bI' z z z) z<|gy z z (M' B' k z) z<|gy z z (av' z z) z<|yy (l' z z) z<|nx<|L' hr z (fun F hr=>?_) (fun F hr=>?_)
 .exact (show False from hr).elim
 refine q'<|g'<|n'<|sr<|sg z z<|nx<|ak' (fun (m:Mem)=>match m with|l=>[]) (fun (m:Mem)=>match m with|l=>Mem.le o l/\(Zfl).Ret r) (fun (m:Mem)=>match m with|l=>St y o l []) ?_ ?_
 .refine C' ?_
  let p:(Bool⊕Unit)->Prop:=fun I=>((fun J=>match J with | .inl rv1=>Cq.ret rv1 | .inr ()=>Zfl:(Bool⊕Unit)->Cq Bool) I).wp (fun a=>a=r)
  replace hr:(Cq.loop _ _).wp p:=hr
  refine al' (Φ:=p) (fun (⟨n,f⟩:Int×Mem)=>(n:Int)) (fun ⟨n,f⟩=>[(2,.pointer (some ⟨A,0,none⟩)),(3,.pointer (some ⟨C,0,none⟩)),(5,i' n)]) (fun ⟨n,f⟩=>Mem.le o f) (fun ⟨n,f⟩=>St y o f [(2,some ⟨A,.cells ((v128' q j g)).toArray 128 (0,0),0⟩),(3,some ⟨C,.cells ((v128' s i h)).toArray 128 (0,0),0⟩)]) ⟨0,o⟩ hr (f3 z z z) mr (w2 z z) ?_
  .intro M m L hr
   obtain⟨n,f⟩:=m
   have d:=L
   refine n'<|sr<|mv z z<|yy (aY' z) z<|yy (f' 2 bI' z z z) z<|yy (M' B' (e.mono d) z) z<|yy (ag' z z) z<|nx<|L' hr z (fun D hr=>?_) (fun D hr=>?_)
   .refine q'<|g'<|n'<|C'<|n'<|ah' [ff,ff,ff,ff,ff,ff,ff,ff,ff,ff] mix (by kernel_rfl) fun K=>cn (fun _ c=>aY' z)<|cn (fun _ c=>f' 2 bI' z z z)<|cn (fun _ c=>e' z) ?_
    obtain⟨P,t,hr⟩:=hr
    refine cn (fun _ c=>Q' B' bs' ((e.mono d).mono c) z z t)<|cn (fun _ c=>Y' bR' z (aD' (H' (H' (ab' e t) d) c)))<|cn (fun _ c=>aY' z)<|cn (fun _ c=>f' 3 bI' z z z)<|cn (fun _ c=>e' z) ?_
    obtain⟨Q,u,hr⟩:=hr
    refine cn (fun _ c=>Q' B' bs' ((k.mono d).mono c) z z u)<|cn (fun _ c=>Y' bR' z (aD' (H' (H' (ab' k u) d) c)))<|U' K<|yy (av' z z) z<|u'<|aq'<|g'<|L' hr z (fun E hr=>?_) (fun E hr=>?_)
    .exact (show False from hr).elim
    refine q'<|J'<|g'<|A'<|mv z z<|yy (W' z z) z<|sg z z<|u'<|X' ⟨i64.wrap (n+1),f⟩ hr d (f3 z z z) (w2 z z)
   refine am'<|r'<|r'<|O'<|ao' f ⟨d,hr⟩ fn (wk ln)
 rintro l ⟨H,hr⟩
 refine g'<|sr<|sg z z<|nx<|j' ?_
 obtain rfl:_=r:=hr
 exact k' z z z
theorem gW'{k l e d g c i j h f r}(hr:(Zin k l).Ret r):Ctr prog 105 #[.agg ((v130' k e d g c)).toArray,.agg ((v130' l i j h f)).toArray] (fun G=>sl (Rp.int .u32) G e d k.num.mag/\sl (Rp.int .u32) G g c k.den.mag/\sl (Rp.int .u32) G i j l.num.mag/\sl (Rp.int .u32) G h f l.den.mag) (fun G v=>v = .bool r):=by
 refine E' (args:=[_,_]) (N:=17) func105 z z z (fun A C y q=>?_)
 obtain⟨m,p,o,n⟩:=q
 refine sr<|ad' 2 z z z fun B=>ad' 3 z z z fun D=>sg z z<|nr<|yy (cz' z) z<|yy (aH' ((v128' k.num e d)).toArray 2 bt' z z z (aT' ([]) ((v128' k.num e d)) ((v128' k.den g c)))) z<|yy (cz' z) z<|yy (aH' ((v128' l.num i j)).toArray 3 bt' z z z (aT' ([]) ((v128' l.num i j)) ((v128' l.den h f)))) z ?_
 obtain⟨u,t,hr⟩:=hr
 refine D' z z (t' E154 z) (gf' t) z (⟨m,o⟩) ?_
 cases u
 .refine mv z z<|sn5 z<|yy (l' z z) z<|sg z z<|nx<|j' ?_
  obtain rfl:_=r:=hr
  exact k' z z z
 refine mv z z<|gy z z (cg' z) z<|gy z z (aH' ((v128' k.den g c)).toArray 2 bt' z z z (aT' ((v128' k.num e d)) ((v128' k.den g c)) ([]))) z<|gy z z (cg' z) z<|gy z z (aH' ((v128' l.den h f)).toArray 3 bt' z z z (aT' ((v128' l.num i j)) ((v128' l.den h f)) ([]))) z ?_
 obtain⟨x,s,hr⟩:=hr
 refine D' (v' z z) z (t' E154 z) (gf' s) z (⟨p,n⟩)<|yy (h' z z) z<|sg z z<|nx<|j' ?_
 obtain rfl:_=r:=hr
 exact k' z z z
theorem gk'{k l h d c g f j e i r}(hr:(ZcE k l).Ret r):Ctr prog 75 #[.agg (((v130' k.c h d c g):List Value)++(vecG (Value.int .i64) 8 k.m)).toArray,.agg (((v130' l.c f j e i):List Value)++(vecG (Value.int .i64) 8 l.m)).toArray] (fun G=>sl (Rp.int .u32) G h d k.c.num.mag/\sl (Rp.int .u32) G c g k.c.den.mag/\sl (Rp.int .u32) G f j l.c.num.mag/\sl (Rp.int .u32) G e i l.c.den.mag) (fun G v=>v = .bool r):=by
 refine E' (args:=[_,_]) (N:=17) func75 z z z (fun y B x q=>?_)
 obtain⟨m,o,n,p⟩:=q
 refine sr<|ad' 2 z z z fun A=>ad' 3 z z z fun C=>sg z z<|nr<|yy (bz' z) z<|yy (aH' (vecG (Value.int .i64) 8 k.m).toArray 2 bP' z z (Z' _ _ _) (aT' ((v130' k.c h d c g)) (vecG (Value.int .i64) 8 k.m) ([]))) z<|yy (bz' z) z<|yy (aH' (vecG (Value.int .i64) 8 l.m).toArray 3 bP' z z (Z' _ _ _) (aT' ((v130' l.c f j e i)) (vecG (Value.int .i64) 8 l.m) ([]))) z<|aa' hr z (Y0.eqlV aN' aE' sc3 sz3 eg120 z z) z (fun t hr=>?_) (fun t hr=>?_)
 .refine mv z z<|gy z z (cM' z) z<|gy z z (aH' ((v130' k.c h d c g)).toArray 2 cN' z z z (aT' ([]) ((v130' k.c h d c g)) ((vecG (Value.int .i64) 8 k.m)))) z<|gy z z (cM' z) z<|gy z z (aH' ((v130' l.c f j e i)).toArray 3 cN' z z z (aT' ([]) ((v130' l.c f j e i)) ((vecG (Value.int .i64) 8 l.m)))) z ?_
  obtain⟨u,s,hr⟩:=hr
  refine D' (v' z z) z (t' E105 z) (gW' s) z (⟨m,o,n,p⟩)<|yy (h' z z) z<|sg z z<|nx<|j' ?_
  obtain rfl:_=r:=hr
  exact k' z z z
 refine mv z z<|sn5 z<|yy (l' z z) z<|sg z z<|nx<|j' ?_
 obtain rfl:_=r:=hr
 exact k' z z z
theorem gg'{D C t u q s r}(hr:(Zeq D C).Ret r):Ctr prog 58 #[.slice t D.length u,.slice q C.length s] (fun G=>sl I' G t u D/\sl I' G q s C) (fun G v=>v = .bool r):=by
 refine E' (args:=[_,_]) (N:=27) func58 z z z (fun Q p ad O=>?_)
 obtain⟨n,o⟩:=O
 refine sr<|sg z z<|nx<|n'<|sr<|mv z z<|yy (M' ai' n z) z<|mv z z<|yy (M' ai' o z) z<|yy (av' z z) z<|nx<|L' hr z (fun V hr=>?_) (fun V hr=>?_)
 .exact (show False from hr).elim
 refine q'<|g'<|n'<|sr<|sg z z<|nx<|ak' (fun (l:Mem)=>match l with|k=>[]) (fun (l:Mem)=>match l with|k=>Mem.le p k/\(Zfr).Ret r) (fun (l:Mem)=>match l with|k=>St Q p k []) ?_ ?_
 .refine C' ?_
  let x:(Bool⊕Unit)->Prop:=fun X=>((fun Y=>match Y with | .inl rv1=>Cq.ret rv1 | .inr ()=>Zfr:(Bool⊕Unit)->Cq Bool) X).wp (fun a=>a=r)
  replace hr:(Cq.loop _ _).wp x:=hr
  refine al' (Φ:=x) (fun (⟨m,e⟩:Int×Mem)=>(m:Int)) (fun ⟨m,e⟩=>[(0,.slice t D.length u),(1,.slice q C.length s),(5,i' m)]) (fun ⟨m,e⟩=>Mem.le p e) (fun ⟨m,e⟩=>St Q p e []) ⟨0,p⟩ hr (f3 z z z) mr (wk ln) ?_
  .intro ab l hx hr
   obtain⟨m,e⟩:=l
   have c:=hx
   refine n'<|sr<|mv z z<|mv z z<|yy (M' ai' (n.mono c) z) z<|yy (ag' z z) z<|nx<|L' hr z (fun S hr=>?_) (fun S hr=>?_)
   .refine q'<|g'<|n'<|C'<|n'<|ah' [ff,ff,ff,ff,ff,ff,ff,ff] mix (by kernel_rfl) fun Z=>cn (fun _ d=>e' z)<|cn (fun _ d=>e' z) ?_
    obtain⟨x1,K,hr⟩:=hr
    refine cn (fun _ d=>Q' ai' cd' ((n.mono c).mono d) z z K) ?_
    obtain⟨H,y,I,B,R,h,i⟩:=dn' (H' (ab' n K) c)
    refine cn (fun _ d=>aA' _ ag133 z z (fun j v M=>d _ _ _ (R j v M)))<|cn (fun _ d=>e' z)<|cn (fun _ d=>e' z) ?_
    obtain⟨x2,L,hr⟩:=hr
    refine cn (fun _ d=>Q' ai' cd' ((o.mono c).mono d) z z L) ?_
    obtain⟨E,A,J,F,T,g,f⟩:=dn' (H' (ab' o L) c)
    refine cn (fun _ d=>aA' _ ag133 z z (fun j v M=>d _ _ _ (T j v M)))<|U' Z ?_
    obtain⟨ac,P,hr⟩:=hr
    refine D' z z (t' E75 z) (gk' P) z (⟨h,i,g,f⟩)<|yy (aj' z) z<|u'<|aq'<|g'<|aL' hr z (fun U hr=>?_) (fun U hr=>?_)
    .exact (show False from hr).elim
    refine q'<|J'<|g'<|A'<|mv z z<|yy (W' z z) z<|sg z z<|u'<|X' ⟨i64.wrap (m+1),e⟩ hr c (f3 z z z) (wk ln)
   refine am'<|r'<|r'<|O'<|ao' e ⟨c,hr⟩ fn (wk ln)
 rintro k ⟨W,hr⟩
 refine g'<|sr<|sg z z<|nx<|j' ?_
 obtain rfl:_=r:=hr
 exact k' z z z
theorem eS'{q s l o n m r}(hr:(ZbF q s).Ret r):Ctr prog 43 #[.slice l q.length o,.slice n s.length m] (fun G=>sl b' G l o q/\sl b' G n m s) (fun G v=>v = .bool r):=by
 refine E' (args:=[_,_]) (N:=42) func43 z z z (fun C k W A=>?_)
 obtain⟨f,g⟩:=A
 refine sr<|sg z z<|nx<|n'<|sr<|mv z z<|yy (M' w' f z) z<|mv z z<|yy (M' w' g z) z<|yy (av' z z) z<|nx<|L' hr z (fun M hr=>?_) (fun M hr=>?_)
 .exact (show False from hr).elim
 refine q'<|g'<|n'<|sr<|sg z z<|nx<|ak' (fun (i:Mem)=>match i with|h=>[]) (fun (i:Mem)=>match i with|h=>Mem.le k h/\(ZcH).Ret r) (fun (i:Mem)=>match i with|h=>St C k h []) ?_ ?_
 .refine C' ?_
  let p:(Bool⊕Unit)->Prop:=fun P=>((fun Q=>match Q with | .inl rv1=>Cq.ret rv1 | .inr ()=>ZcH:(Bool⊕Unit)->Cq Bool) P).wp (fun a=>a=r)
  replace hr:(Cq.loop _ _).wp p:=hr
  refine al' (Φ:=p) (fun (⟨j,e⟩:Int×Mem)=>(j:Int)) (fun ⟨j,e⟩=>[(0,.slice l q.length o),(1,.slice n s.length m),(5,i' j)]) (fun ⟨j,e⟩=>Mem.le k e) (fun ⟨j,e⟩=>St C k e []) ⟨0,k⟩ hr (f3 z z z) mr (wk ln) ?_
  .intro T i R hr
   obtain⟨j,e⟩:=i
   have d:=R
   refine n'<|sr<|mv z z<|mv z z<|yy (M' w' (f.mono d) z) z<|yy (ag' z z) z<|nx<|L' hr z (fun I hr=>?_) (fun I hr=>?_)
   .refine q'<|g'<|n'<|C'<|n'<|ah' [ff,ff,ff,ff,ff,ff,ff,ff,ff,ff,ff,ff,ff,ff,ff,ff,ff,ff,ff,ff,ff,ff] mix (by kernel_rfl) fun H=>cn (fun _ c=>e' z)<|cn (fun _ c=>e' z) ?_
    obtain⟨X,x,hr⟩:=hr
    refine cn (fun _ c=>Q' w' aR' ((f.mono d).mono c) z z x)<|cn (fun _ c=>bn' z)<|cn (fun _ c=>Y' sc3 z (aD' (H' (H' (aV' (ax' (ab' f x))) d) c)))<|cn (fun _ c=>e' z)<|cn (fun _ c=>e' z) ?_
    obtain⟨x2,y,hr⟩:=hr
    refine cn (fun _ c=>Q' w' aR' ((g.mono d).mono c) z z y)<|cn (fun _ c=>bn' z)<|cn (fun _ c=>Y' sc3 z (aD' (H' (H' (aV' (ax' (ab' g y))) d) c)))<|by' hr z (fun _ c=>av' z z) (fun E hr=>?_) (fun E hr=>?_)
    .refine cn (fun _ c=>e' z)<|cf z z<|cf z z<|cf z z<|cf z z<|cf z z<|cf z z<|cf z z<|cf z z<|cf z z<|cf z z<|U' H<|sn2 z<|yy (h' z z) z<|u'<|aq'<|g'<|R' z<|sr<|sg z z<|nx<|j'<|m'<|a'<|a'<|m'<|ae'<|a' ?_
     obtain rfl:_=r:=hr
     exact k' z z z
    refine cn (fun _ c=>e' z)<|cy z z (fun _ c=>e' z)<|cy z z (fun _ c=>e' z) ?_
    obtain⟨x3,t,hr⟩:=hr
    refine cy z z (fun _ c=>Q' w' aR' ((f.mono d).mono c) z z t)<|cy z z (fun _ c=>bT' z) ?_
    obtain⟨Z,V,K,J⟩:=bG' (H' (ay' (ax' (ab' f t))) d)
    refine cy z z (fun _ c=>Y' cA' z (c _ _ _ K))<|cy z z (fun _ c=>e' z)<|cy z z (fun _ c=>e' z) ?_
    obtain⟨Y,u,hr⟩:=hr
    refine cy z z (fun _ c=>Q' w' aR' ((g.mono d).mono c) z z u)<|cy z z (fun _ c=>bT' z) ?_
    obtain⟨p2,S,D,F⟩:=bG' (H' (ay' (ax' (ab' g u))) d)
    refine cy z z (fun _ c=>Y' cA' z (c _ _ _ D))<|U' H ?_
    obtain⟨U,B,hr⟩:=hr
    refine D' (v' z z) z (t' E58 z) (gg' B) z (⟨J,F⟩)<|gy z z (aj' z) z<|yy (l' z z) z<|u'<|aq'<|g'<|aL' hr z (fun L hr=>?_) (fun L hr=>?_)
    .exact (show False from hr).elim
    refine q'<|J'<|g'<|A'<|mv z z<|yy (W' z z) z<|sg z z<|u'<|X' ⟨i64.wrap (j+1),e⟩ hr d (f3 z z z) (wk ln)
   refine am'<|r'<|r'<|O'<|ao' e ⟨d,hr⟩ fn (wk ln)
 rintro h ⟨O,hr⟩
 refine g'<|sr<|sg z z<|nx<|j' ?_
 obtain rfl:_=r:=hr
 exact k' z z z
theorem dE'{A B l f o q j i e k s p g h r}(hr:(Zet A B).Ret r):Ctr prog 15 #[.agg ((v31' A l f o q j i)).toArray,.agg ((v31' B e k s p g h)).toArray] (fun G=>sl Rp.str G l f A.vars/\sl b' G o q A.eqs/\sl b' G j i A.neqs/\sl Rp.str G e k B.vars/\sl b' G s p B.eqs/\sl b' G g h B.neqs) (fun G v=>v = .bool r):=by
 refine E' (args:=[_,_]) (N:=54) func15 z z z (fun Q H ah R=>?_)
 obtain⟨m,I,E,u,J,F⟩:=R
 refine sr<|ad' 2 z z z fun L=>ad' 3 z z z fun M=>sg z z<|nx<|aM' (fun (t:Mem)=>match t with|y=>[(2,.pointer (some ⟨L,0,none⟩)),(3,.pointer (some ⟨M,0,none⟩))]) (fun (t:Mem)=>match t with|y=>Mem.le H y/\(Zh4 A B).Ret r) (fun (t:Mem)=>match t with|y=>St Q H y [(2,some ⟨L,.cells ((v31' A l f o q j i)).toArray 31 (0,0),0⟩),(3,some ⟨M,.cells ((v31' B e k s p g h)).toArray 31 (0,0),0⟩)]) ?_ ?_
 .refine sr<|yy (aF' z) z<|yy (f' 2 bA' z z z) z<|yy (M' F' m z) z<|yy (aF' z) z<|yy (f' 3 bA' z z z) z<|yy (M' F' u z) z<|aa' hr z (av' z z) z (fun V hr=>?_) (fun V hr=>?_)
  .refine mv z z<|sn5 z<|yy (h' z z) z<|mv z z<|sn6 z<|yy (h' z z) z<|mv z z<|sn6 z<|yy (h' z z) z<|nx<|R' z<|sr<|sg z z<|nx<|j'<|a' ?_
   obtain rfl:_=r:=hr
   exact k' z z z
  refine mv z z<|gy z z (bw' z) z<|gy z z (f' 2 sc3 z z z) z<|gy z z (bw' z) z<|gy z z (f' 3 sc3 z z z) z<|aa' hr (v' z z) (av' z z) z (fun W hr=>?_) (fun W hr=>?_)
  .refine yy (l' z z) z<|mv z z<|sn6 z<|yy (h' z z) z<|mv z z<|sn6 z<|yy (h' z z) z<|nx<|R' z<|sr<|sg z z<|nx<|j'<|a' ?_
   obtain rfl:_=r:=hr
   exact k' z z z
  refine yy (l' z z) z<|mv z z<|gy z z (aX' z) z<|gy z z (f' 2 bq' z z z) z<|gy z z (aX' z) z<|gy z z (f' 3 bq' z z z) z ?_
  obtain⟨U,T,hr⟩:=hr
  refine D' (v' z z) z (t' E43 z) (eS' T) z (⟨I,J⟩) ?_
  cases U
  .refine gy z z (aj' z) z<|yy (l' z z) z<|mv z z<|sn6 z<|yy (h' z z) z<|nx<|R' z<|sr<|sg z z<|nx<|j'<|a' ?_
   obtain rfl:_=r:=hr
   exact k' z z z
  refine gy z z (aj' z) z<|yy (l' z z) z<|mv z z<|gy z z (aZ' z) z<|gy z z (f' 2 bq' z z z) z<|gy z z (aZ' z) z<|gy z z (f' 3 bq' z z z) z ?_
  obtain⟨ag,S,hr⟩:=hr
  refine D' (v' z z) z (t' E43 z) (eS' S) z (⟨E,F⟩)<|gy z z (aj' z) z<|yy (l' z z) z<|nx<|aL' hr z (fun Y hr=>?_) (fun Y hr=>?_)
  .exact (show False from hr).elim
  refine q'<|ap' H ⟨mr,hr⟩ (f2 z z) (w2 z z)
 rintro y ⟨n,hr⟩
 refine n'<|sr<|sg z z<|nx<|ak' (fun (t:Mem)=>match t with|C=>[]) (fun (t:Mem)=>match t with|C=>Mem.le y C/\(Zfu).Ret r) (fun (t:Mem)=>match t with|C=>St Q H C []) ?_ ?_
 .refine C' ?_
  let K:(Bool⊕Unit)->Prop:=fun oo=>((fun ov=>match ov with | .inl rv1=>Cq.ret rv1 | .inr ()=>Zfu:(Bool⊕Unit)->Cq Bool) oo).wp (fun a=>a=r)
  replace hr:(Cq.loop _ _).wp K:=hr
  refine al' (Φ:=K) (fun (⟨D,x⟩:Int×Mem)=>(D:Int)) (fun ⟨D,x⟩=>[(2,.pointer (some ⟨L,0,none⟩)),(3,.pointer (some ⟨M,0,none⟩)),(5,i' D)]) (fun ⟨D,x⟩=>Mem.le y x) (fun ⟨D,x⟩=>St Q H x [(2,some ⟨L,.cells ((v31' A l f o q j i)).toArray 31 (0,0),0⟩),(3,some ⟨M,.cells ((v31' B e k s p g h)).toArray 31 (0,0),0⟩)]) ⟨0,y⟩ hr (f3 z z z) mr (w2 z z) ?_
  .intro af t hx hr
   obtain⟨D,x⟩:=t
   have d:=hx
   refine n'<|sr<|mv z z<|yy (aF' z) z<|yy (f' 2 bA' z z z) z<|yy (M' F' (m.mono (mt n d)) z) z<|yy (ag' z z) z<|nx<|L' hr z (fun Z hr=>?_) (fun Z hr=>?_)
   .refine q'<|g'<|n'<|C'<|n'<|ah' [ff,ff,ff,ff,ff,ff,ff,ff,ff,ff] mix (by kernel_rfl) fun hb=>cn (fun _ c=>aF' z)<|cn (fun _ c=>f' 2 bA' z z z)<|cn (fun _ c=>e' z) ?_
    obtain⟨x1,O,hr⟩:=hr
    refine cn (fun _ c=>Q' F' sz9 ((m.mono (mt n d)).mono c) z z O)<|cn (fun _ c=>Y' sc9 z (bZ' (H' (H' (ab' m O) (mt n d)) c)))<|cn (fun _ c=>aF' z)<|cn (fun _ c=>f' 3 bA' z z z)<|cn (fun _ c=>e' z) ?_
    obtain⟨x2,P,hr⟩:=hr
    refine cn (fun _ c=>Q' F' sz9 ((u.mono (mt n d)).mono c) z z P)<|cn (fun _ c=>Y' sc9 z (bZ' (H' (H' (ab' u P) (mt n d)) c)))<|U' hb<|yy (Y0.neqS bl' z z) z<|u'<|aq'<|g'<|L' hr z (fun X hr=>?_) (fun X hr=>?_)
    .exact (show False from hr).elim
    refine q'<|J'<|g'<|A'<|mv z z<|yy (W' z z) z<|sg z z<|u'<|X' ⟨i64.wrap (D+1),x⟩ hr d (f3 z z z) (w2 z z)
   refine am'<|r'<|r'<|O'<|ao' x ⟨d,hr⟩ fn (wk ln)
 rintro C ⟨aa,hr⟩
 refine g'<|sr<|sg z z<|nx<|j' ?_
 obtain rfl:_=r:=hr
 exact k' z z z
end Go.Proofs.YtnjiloaolgjedaaGreat

namespace Go.Proofs.YtnjiloaolgjedaaGreat
open Go.IntKind (i8 i16 i32 i64 u8 u16 u32 u64)
open Go.Proofs.Tryz
open Go Go.EL Go.RowKit Go.Proofs
theorem gm'{i k c d f e r}(hr:(ZcL i k).Ret r):Ctr prog 56 #[.agg ((v48' i c d)).toArray,.agg ((v48' k f e)).toArray] (fun G=>sl I' G c d i.p/\sl I' G f e k.p) (fun G v=>v = .bool r):=by
 refine E' (args:=[_,_]) (N:=52) func56 z z z (fun x A u g=>?_)
 obtain⟨h,l⟩:=g
 refine sr<|ad' 2 z z z fun y=>ad' 3 z z z fun B=>sg z z<|nr<|yy (cv' z) z<|yy (f' 2 sc3 z z z) z<|yy (cv' z) z<|yy (f' 3 sc3 z z z) z<|aa' hr z (at' z z) z (fun p hr=>?_) (fun p hr=>?_)
 .refine mv z z<|gy z z (bW' z) z<|gy z z (f' 2 sc9 z z z) z<|gy z z (bW' z) z<|gy z z (f' 3 sc9 z z z) z<|aa' hr (v' z z) (Y0.eqlS bl' z z) z (fun q hr=>?_) (fun q hr=>?_)
  .refine yy (h' z z) z<|mv z z<|gy z z (aI' z) z<|gy z z (f' 2 sc3 z z z) z<|gy z z (aI' z) z<|gy z z (f' 3 sc3 z z z) z<|aa' hr (v' z z) (at' z z) z (fun s hr=>?_) (fun s hr=>?_)
   .refine yy (h' z z) z<|mv z z<|gy z z (cu' z) z<|gy z z (f' 2 sc3 z z z) z<|gy z z (cu' z) z<|gy z z (f' 3 sc3 z z z) z<|aa' hr (v' z z) (at' z z) z (fun n hr=>?_) (fun n hr=>?_)
    .refine yy (h' z z) z<|mv z z<|gy z z (aQ' z) z<|gy z z (f' 2 sc3 z z z) z<|gy z z (aQ' z) z<|gy z z (f' 3 sc3 z z z) z<|aa' hr (v' z z) (at' z z) z (fun m hr=>?_) (fun m hr=>?_)
     .refine yy (h' z z) z<|mv z z<|gy z z (dz' z) z<|gy z z (f' 2 sc4 z z z) z<|gy z z (dz' z) z<|gy z z (f' 3 sc4 z z z) z<|aa' hr (v' z z) (Y0.eqlB cr' z z) z (fun o hr=>?_) (fun o hr=>?_)
      .refine yy (h' z z) z<|mv z z<|gy z z (dl' z) z<|gy z z (f' 2 cA' z z z) z<|gy z z (dl' z) z<|gy z z (f' 3 cA' z z z) z ?_
       obtain⟨t,j,hr⟩:=hr
       refine D' (v' z z) z (t' E58 z) (gg' j) z (⟨h,l⟩)<|yy (h' z z) z<|sg z z<|nx<|j' ?_
       obtain rfl:_=r:=hr
       exact k' z z z
      refine yy (h' z z) z<|mv z z<|sn5 z<|yy (l' z z) z<|sg z z<|nx<|j' ?_
      obtain rfl:_=r:=hr
      exact k' z z z
     refine yy (h' z z) z<|mv z z<|sn5 z<|yy (l' z z) z<|mv z z<|sn5 z<|yy (l' z z) z<|sg z z<|nx<|j' ?_
     obtain rfl:_=r:=hr
     exact k' z z z
    refine yy (h' z z) z<|mv z z<|sn5 z<|yy (l' z z) z<|mv z z<|sn5 z<|yy (l' z z) z<|mv z z<|sn5 z<|yy (l' z z) z<|sg z z<|nx<|j' ?_
    obtain rfl:_=r:=hr
    exact k' z z z
   refine yy (h' z z) z<|mv z z<|sn5 z<|yy (l' z z) z<|mv z z<|sn5 z<|yy (l' z z) z<|mv z z<|sn5 z<|yy (l' z z) z<|mv z z<|sn5 z<|yy (l' z z) z<|sg z z<|nx<|j' ?_
   obtain rfl:_=r:=hr
   exact k' z z z
  refine yy (h' z z) z<|mv z z<|sn5 z<|yy (l' z z) z<|mv z z<|sn5 z<|yy (l' z z) z<|mv z z<|sn5 z<|yy (l' z z) z<|mv z z<|sn5 z<|yy (l' z z) z<|mv z z<|sn5 z<|yy (l' z z) z<|sg z z<|nx<|j' ?_
  obtain rfl:_=r:=hr
  exact k' z z z
 refine mv z z<|sn5 z<|yy (l' z z) z<|mv z z<|sn5 z<|yy (l' z z) z<|mv z z<|sn5 z<|yy (l' z z) z<|mv z z<|sn5 z<|yy (l' z z) z<|mv z z<|sn5 z<|yy (l' z z) z<|mv z z<|sn5 z<|yy (l' z z) z<|sg z z<|nx<|j' ?_
 obtain rfl:_=r:=hr
 exact k' z z z
theorem dT'{s t m i k l r}(hr:(Zaw s t).Ret r):Ctr prog 29 #[.agg ((v63' s m i)).toArray,.agg ((v63' t k l)).toArray] (fun G=>sl af' G m i s.e/\sl af' G k l t.e) (fun G v=>v = .bool r):=by
 refine E' (args:=[_,_]) (N:=46) func29 z z z (fun D u ad F=>?_)
 obtain⟨n,p⟩:=F
 refine sr<|ad' 2 z z z fun y=>ad' 3 z z z fun A=>sg z z<|nx<|aM' (fun (f:Mem)=>match f with|h=>[(2,.pointer (some ⟨y,0,none⟩)),(3,.pointer (some ⟨A,0,none⟩))]) (fun (f:Mem)=>match f with|h=>Mem.le u h/\(ZdH s t).Ret r) (fun (f:Mem)=>match f with|h=>St D u h [(2,some ⟨y,.cells ((v63' s m i)).toArray 63 (0,0),0⟩),(3,some ⟨A,.cells ((v63' t k l)).toArray 63 (0,0),0⟩)]) ?_ ?_
 .refine sr<|yy (bX' z) z<|yy (f' 2 sc3 z z z) z<|yy (bX' z) z<|yy (f' 3 sc3 z z z) z<|aa' hr z (av' z z) z (fun L hr=>?_) (fun L hr=>?_)
  .refine mv z z<|sn5 z<|yy (h' z z) z<|mv z z<|sn7 z<|yy (h' z z) z<|nx<|R' z<|sr<|sg z z<|nx<|j'<|a' ?_
   obtain rfl:_=r:=hr
   exact k' z z z
  refine mv z z<|gy z z (cF' z) z<|gy z z (f' 2 sc3 z z z) z<|gy z z (cF' z) z<|gy z z (f' 3 sc3 z z z) z<|aa' hr (v' z z) (av' z z) z (fun O hr=>?_) (fun O hr=>?_)
  .refine yy (l' z z) z<|mv z z<|sn7 z<|yy (h' z z) z<|nx<|R' z<|sr<|sg z z<|nx<|j'<|a' ?_
   obtain rfl:_=r:=hr
   exact k' z z z
  refine yy (l' z z) z<|mv z z<|gy z z (bY' z) z<|gy z z (f' 2 sc44 z z z) z<|gy z z (M' au' n z) z<|gy z z (bY' z) z<|gy z z (f' 3 sc44 z z z) z<|gy z z (M' au' p z) z<|gy z z (av' z z) z<|yy (l' z z) z<|nx<|L' hr z (fun Q hr=>?_) (fun Q hr=>?_)
  .refine sr<|sg z z<|nx<|j'<|a' ?_
   obtain rfl:_=r:=hr
   exact k' z z z
  refine q'<|ap' u ⟨mr,hr⟩ (f2 z z) (w2 z z)
 rintro h ⟨e,hr⟩
 refine n'<|sr<|sg z z<|nx<|ak' (fun (f:Mem)=>match f with|o=>[]) (fun (f:Mem)=>match f with|o=>Mem.le h o/\(ZbG).Ret r) (fun (f:Mem)=>match f with|o=>St D u o []) ?_ ?_
 .refine C' ?_
  let x:(Bool⊕Unit)->Prop:=fun T=>((fun U=>match U with | .inl rv1=>Cq.ret rv1 | .inr ()=>ZbG:(Bool⊕Unit)->Cq Bool) T).wp (fun a=>a=r)
  replace hr:(Cq.loop _ _).wp x:=hr
  refine al' (Φ:=x) (fun (⟨q,g⟩:Int×Mem)=>(q:Int)) (fun ⟨q,g⟩=>[(2,.pointer (some ⟨y,0,none⟩)),(3,.pointer (some ⟨A,0,none⟩)),(5,i' q)]) (fun ⟨q,g⟩=>Mem.le h g) (fun ⟨q,g⟩=>St D u g [(2,some ⟨y,.cells ((v63' s m i)).toArray 63 (0,0),0⟩),(3,some ⟨A,.cells ((v63' t k l)).toArray 63 (0,0),0⟩)]) ⟨0,h⟩ hr (f3 z z z) mr (w2 z z) ?_
  .intro ab f Z hr
   obtain⟨q,g⟩:=f
   have d:=Z
   refine n'<|sr<|mv z z<|yy (bY' z) z<|yy (f' 2 sc44 z z z) z<|yy (M' au' (n.mono (mt e d)) z) z<|yy (ag' z z) z<|nx<|L' hr z (fun R hr=>?_) (fun R hr=>?_)
   .refine q'<|g'<|n'<|C'<|n'<|ah' [ff,ff,ff,ff,ff,ff,ff,ff,ff,ff] mix (by kernel_rfl) fun Y=>cn (fun _ c=>bY' z)<|cn (fun _ c=>f' 2 sc44 z z z)<|cn (fun _ c=>e' z) ?_
    obtain⟨x1,B,hr⟩:=hr
    refine cn (fun _ c=>Q' au' cc' ((n.mono (mt e d)).mono c) z z B) ?_
    obtain⟨X,aa,M,J⟩:=db' (H' (ab' n B) (mt e d))
    refine cn (fun _ c=>aA' _ bL' z z (fun j v E=>c _ _ _ (M j v E)))<|cn (fun _ c=>bY' z)<|cn (fun _ c=>f' 3 sc44 z z z)<|cn (fun _ c=>e' z) ?_
    obtain⟨x2,C,hr⟩:=hr
    refine cn (fun _ c=>Q' au' cc' ((p.mono (mt e d)).mono c) z z C) ?_
    obtain⟨W,V,K,H⟩:=db' (H' (ab' p C) (mt e d))
    refine cn (fun _ c=>aA' _ bL' z z (fun j v E=>c _ _ _ (K j v E)))<|U' Y ?_
    obtain⟨ac,I,hr⟩:=hr
    refine D' z z (t' E56 z) (gm' I) z (⟨J,H⟩)<|yy (aj' z) z<|u'<|aq'<|g'<|aL' hr z (fun P hr=>?_) (fun P hr=>?_)
    .refine sr<|sg z z<|nx<|j'<|m'<|a'<|a'<|m'<|ae'<|a' ?_
     obtain rfl:_=r:=hr
     exact k' z z z
    refine q'<|J'<|g'<|A'<|mv z z<|yy (W' z z) z<|sg z z<|u'<|X' ⟨i64.wrap (q+1),g⟩ hr d (f3 z z z) (w2 z z)
   refine am'<|r'<|r'<|O'<|ao' g ⟨d,hr⟩ fn (wk ln)
 rintro o ⟨S,hr⟩
 refine g'<|sr<|sg z z<|nx<|j' ?_
 obtain rfl:_=r:=hr
 exact k' z z z
set_option maxHeartbeats 2000000 in
theorem Zf7(a8:ZF)(ar:(Fin 3->Int))(aJ:(List Zt))(bh:Option Addr)(bd:Nat)(bn:Option Addr)(bb:Nat)(aZ:Option Addr)(aY:Nat)(r:Bool)(hr:(ZdL a8 ar aJ).Ret r):Ctr prog 5 #[.agg ((v25' a8 bh bd bn bb)).toArray,.agg (vecG (Value.int .u8) 3 ar).toArray,.slice aZ aJ.length aY] (fun G=>sl cp' G bh bd a8.s/\sl dG' G bn bb a8.v/\sl cp' G aZ aY aJ) (fun G v=>v = .bool r):=by
 refine E' (args:=[_,_,_]) (N:=195) func5 z z z (fun w0 G0 dO cI=>?_)
 obtain⟨bT,bP,cg⟩:=cI
 refine sr<|ad' 3 z z z fun b1=>ad' 4 z z z fun b2=>sg z z<|nr ?_
 obtain⟨aq,cK,hr⟩:=hr
 refine D' z z (t' E9 z) (dx' cK) z (trivial)<|sg z z<|nx<|n'<|sr<|mv z z<|yy (aj' z) z<|nx<|aL' hr z (fun dj hr=>?_) (fun dj hr=>?_)
 .refine sr<|sg z z<|nx<|j'<|a' ?_
  obtain rfl:_=r:=hr
  exact k' z z z
 refine q'<|g'<|sr<|yy (o' 3 ag25 z z z) z ?_
 obtain⟨ab,cE,hr⟩:=hr
 refine P' z z (t' E10 z) (ek' cE) z (⟨bT,bP⟩) (fun dK dR ci bC=>?_)
 obtain⟨t,x,B,C,q,s,am,ao,rfl,L,S,K,X⟩:=bC
 refine T' 8 z z34 z fun b3=>s' 8 z bU' z z z z z (List.all_eq_true.1 z)<|nr<|yy (bQ' eD' sz5 z z (by decide)) z<|yy (f' 4 sc5 z z (bj' _ _ _ (i:=(0:Int)) (by decide))) z<|yy (aO' aS' aE' z) z<|yy (as' z) z<|yy (f' 8 bk' z z z) z<|yy (M' K' X z) z ?_
 obtain⟨c4,hr⟩:=hr
 refine yy (bE' z z c4) z<|sg z z<|nr<|yy (o' 8 aK' z z z) z<|mv z z ?_
 obtain⟨cC,cT,hr⟩:=hr
 refine P' z z (t' E11 z) (bF' cT) z (⟨L,S,K,X⟩) (fun ds cB A bE=>?_)
 obtain⟨a4,a2,bi,bk,a0,a5,rfl,av,aF,ax⟩:=bE
 refine mv z z<|yy (y' z z) z<|yy (y' z z) z<|T' 10 z z31 z fun b4=>s' 10 z aU' z z z z z (List.all_eq_true.1 z)<|sg z z<|nx<|aM' (fun (gx:Mem)=>match gx with|bq=>[(2,.slice aZ aJ.length aY),(4,.pointer (some ⟨b2,0,none⟩)),(7,.bool aq),(8,.pointer (some ⟨b3,0,none⟩)),(9,i' (Int.tmod (i64.wrap (getF ar 0)) (ab.v.length:Int))),(10,.pointer (some ⟨b4,0,none⟩))]) (fun (gx:Mem)=>match gx with|bq=>Mem.le cB bq/\(Zcw ar aJ aq ab cC).Ret r) (fun (gx:Mem)=>match gx with|bq=>St w0 G0 bq [(4,some ⟨b2,.cells (vecG (Value.int .u8) 3 ar).toArray 65 (0,0),0⟩),(8,some ⟨b3,.cells ((v34' ab t x B C q s am ao)).toArray 34 (0,0),0⟩),(10,some ⟨b4,.cells ((v31' cC.1 a4 a2 bi bk a0 a5)).toArray 31 (0,0),0⟩)]) ?_ ?_
 .refine sr<|mv z z<|aa' hr z (av' z z) z (fun c2 hr=>?_) (fun c2 hr=>?_)
  .refine mv z z<|sn3 z<|yy (h' z z) z<|nx<|R' z<|sr<|sg z z<|nx<|j'<|a' ?_
   obtain rfl:_=r:=hr
   exact k' z z z
  refine mv z z<|gy z z (o' 10 ar' z z z) z ?_
  obtain⟨dJ,cc,hr⟩:=hr
  refine D' (v' z z) z (t' E27 z) (es' cc) z (⟨av,aF,ax⟩)<|gy z z (aj' z) z<|yy (l' z z) z<|nx<|aL' hr z (fun dd hr=>?_) (fun dd hr=>?_)
  .refine sr<|sg z z<|nx<|j'<|a' ?_
   obtain rfl:_=r:=hr
   exact k' z z z
  refine q'<|ap' cB ⟨mr,hr⟩ (f6 z z z z z z) (w3 z z z)
 rintro bq ⟨p,hr⟩
 refine n'<|ah' [ff,ff,ff,ff,ff,ff,ff,ff,tt,tt,ff] mix (by kernel_rfl) fun hb=>cn (fun _ d=>o' 8 aK' z z z)<|cn (fun _ d=>e' z)<|cn (fun _ d=>o' 10 ar' z z z)<|cn (fun _ d=>e' z) ?_
 obtain⟨cD,cM,hr⟩:=hr
 refine aW' (post:=wl' af' cD) (fun _=>z) (fun _ _=>t' E28 z) (et' cM) z (fun G' d=>⟨((av.mono p).mono d),((aF.mono p).mono d),((ax.mono p).mono d),((cg.mono (mt (mt ci A) p)).mono d)⟩) (fun v G1 G2 d h=>?_) ?_
 .obtain⟨bL,bU,rfl,a1⟩:=h
  exact⟨_,_,z,a1.mono d⟩
 obtain⟨H,cP,hr⟩:=hr
 refine cy' (f:=20) (φ:=w34u' H) (fun _=>z) (fun v G1 G2 d h=>?_) (fun u G' d hu=>?_) ?_
 .obtain⟨O,P,V,U,Q,M,aE,aC,rfl,E,J,F,an⟩:=h
  exact⟨_,_,_,_,_,_,_,_,z,E.mono d,J.mono d,F.mono d,an.mono d⟩
 .obtain⟨⟨bL,bU,ck,a1⟩,_⟩:=(show (wl' af' cD) G'.m (u 55)/\True from hu)
  exact⟨_,_,_,fun _=>t' E20 z,cb' cP,(by simp only[ck] <;> rfl),⟨((L.mono (mt A p)).mono d),((S.mono (mt A p)).mono d),((K.mono (mt A p)).mono d),((X.mono (mt A p)).mono d),a1⟩⟩
 refine bm' (φ:=w34u' H) (fun _=>z) (fun v G1 G2 d h=>?_) (fun u G' d hu=>?_) ?_
 .obtain⟨p1,bp,p2,bf,p3,bg,p4,be,rfl,aR,aV,aQ,aS⟩:=h
  exact⟨_,_,_,_,_,_,_,_,z,aR.mono d,aV.mono d,aQ.mono d,aS.mono d⟩
 .obtain⟨⟨O,P,V,U,Q,M,aE,aC,cp,E,J,F,an⟩,_,_⟩:=(show (w34u' H) G'.m (u 56)/\True/\True from hu)
  simp only[undFr,cp]
  exact⟨_,e' z,O,P,V,U,Q,M,aE,aC,z,E,J,F,an⟩
 refine bm' (φ:=w34' H.1) (fun _=>z) (fun v G1 G2 d h=>?_) (fun u G' d hu=>?_) ?_
 .obtain⟨p5,aT,p6,aX,p7,aU,p8,aW,rfl,ba,bo,bj,ah⟩:=h
  exact⟨_,_,_,_,_,_,_,_,z,ba.mono d,bo.mono d,bj.mono d,ah.mono d⟩
 .obtain⟨⟨p1,bp,p2,bf,p3,bg,p4,be,au,aR,aV,aQ,aS⟩,_,_,_⟩:=(show (w34u' H) G'.m (u 50)/\True/\True/\True from hu)
  simp only[undFr,au]
  exact⟨_,y' z z,p1,bp,p2,bf,p3,bg,p4,be,z,aR,aV,aQ,aS⟩
 refine bu' (c:=i' H.2.1) (fun _=>z) (fun u G' d hu=>?_) ?_
 .obtain⟨_,⟨p1,bp,p2,bf,p3,bg,p4,be,au,aR,aV,aQ,aS⟩,_,_,_⟩:=(show True/\(w34u' H) G'.m (u 50)/\True/\True/\True from hu)
  simp only[undFr,au]
  exact y' z z
 refine bu' (c:=i' H.2.2) (fun _=>z) (fun u G' d hu=>?_) ?_
 .obtain⟨_,⟨p1,bp,p2,bf,p3,bg,p4,be,au,aR,aV,aQ,aS⟩,_,_,_⟩:=(show True/\(w34u' H) G'.m (u 50)/\True/\True/\True from hu)
  simp only[undFr,au]
  exact y' z z
 refine bD' (fun _=>z) z34<|eh' (fun dS dG dp dz dH X1 T bV bH bD bG bz=>?_)
 obtain⟨b5,rfl,cH⟩:=bV
 obtain⟨p5,aT,p6,aX,p7,aU,p8,aW,rfl,ba,bo,bj,ah⟩:=bH
 obtain⟨p1,bp,p2,bf,p3,bg,p4,be,rfl,aR,aV,aQ,aS⟩:=bD
 obtain⟨O,P,V,U,Q,M,aE,aC,rfl,E,J,F,an⟩:=bG
 obtain⟨bL,bU,rfl,a1⟩:=bz
 refine cq' cH (cj' (show WL _ _ _ _ _ _ (St w0 G0 X1.m _) from ?_))
 refine s' 12 z bU' z z z z z (List.all_eq_true.1 z)<|sg z z<|sg z z<|u'<|aq'<|g'<|aM' (fun (gx:Mem)=>match gx with|bc=>[(4,.pointer (some ⟨b2,0,none⟩)),(7,.bool aq),(8,.pointer (some ⟨b3,0,none⟩)),(12,.pointer (some ⟨b5,0,none⟩)),(13,i' H.2.1)]) (fun (gx:Mem)=>match gx with|bc=>Mem.le X1.m bc/\(Zcv ar aq ab H).Ret r) (fun (gx:Mem)=>match gx with|bc=>St w0 G0 bc [(4,some ⟨b2,.cells (vecG (Value.int .u8) 3 ar).toArray 65 (0,0),0⟩),(8,some ⟨b3,.cells ((v34' ab t x B C q s am ao)).toArray 34 (0,0),0⟩),(12,some ⟨b5,.cells ((v34' H.1 p5 aT p6 aX p7 aU p8 aW)).toArray 34 (0,0),0⟩)]) ?_ ?_
 .refine sr<|mv z z<|aa' hr z (av' z z) z (fun de hr=>?_) (fun de hr=>?_)
  .refine mv z z<|sn5 z<|yy (h' z z) z<|mv z z<|sn8 z<|yy (h' z z) z<|mv z z<|sn3 z<|yy (h' z z) z<|nx<|R' z<|sr<|sg z z<|nx<|j'<|a' ?_
   obtain rfl:_=r:=hr
   exact k' z z z
  refine mv z z<|gy z z (e' z) z<|gy z z (as' z) z<|gy z z (f' 8 bk' z z z) z<|gy z z (M' K' (X.mono (mt (mt A p) T)) z) z<|aa' hr (v' z z) (av' z z) z (fun cX hr=>?_) (fun cX hr=>?_)
  .refine yy (l' z z) z<|mv z z<|sn8 z<|yy (h' z z) z<|mv z z<|sn3 z<|yy (h' z z) z<|nx<|R' z<|sr<|sg z z<|nx<|j'<|a' ?_
   obtain rfl:_=r:=hr
   exact k' z z z
  refine yy (l' z z) z<|mv z z<|gy z z (as' z) z<|gy z z (f' 12 bk' z z z) z<|gy z z (M' K' ah z) z<|gy z z (as' z) z<|gy z z (f' 8 bk' z z z) z<|gy z z (M' K' (X.mono (mt (mt A p) T)) z) z<|gy z z (W' z z) z<|aa' hr (v' z z) (av' z z) z (fun c9 hr=>?_) (fun c9 hr=>?_)
  .refine yy (l' z z) z<|mv z z<|sn3 z<|yy (h' z z) z<|nx<|R' z<|sr<|sg z z<|nx<|j'<|a' ?_
   obtain rfl:_=r:=hr
   exact k' z z z
  refine yy (l' z z) z<|mv z z<|gy z z (o' 12 aK' z z z) z ?_
  obtain⟨dL,cq,hr⟩:=hr
  refine D' (v' z z) z (t' E18 z) (cU' cq) z (⟨ba,bo,bj,ah⟩)<|gy z z (aj' z) z<|yy (l' z z) z<|nx<|aL' hr z (fun da hr=>?_) (fun da hr=>?_)
  .refine sr<|sg z z<|nx<|j'<|a' ?_
   obtain rfl:_=r:=hr
   exact k' z z z
  refine q'<|ap' X1.m ⟨mr,hr⟩ (f5 z z z z z) (w3 z z z)
 rintro bc ⟨e,hr⟩
 refine sr<|yy (bQ' eD' sz5 z z (by decide)) z<|yy (f' 4 sc5 z z (bj' _ _ _ (i:=(1:Int)) (by decide))) z<|yy (aO' aS' aE' z) z<|yy (as' z) z<|yy (f' 12 bk' z z z) z<|yy (M' K' (ah.mono e) z) z ?_
 obtain⟨c3,hr⟩:=hr
 refine yy (bE' z z c3) z<|sg z z<|nr<|yy (bQ' eD' sz5 z z (by decide)) z<|yy (f' 4 sc5 z z (bj' _ _ _ (i:=(2:Int)) (by decide))) z<|yy (aO' aS' aE' z) z<|yy (as' z) z<|yy (f' 12 bk' z z z) z<|yy (M' K' (ah.mono e) z) z ?_
 obtain⟨c6,hr⟩:=hr
 refine yy (bE' z z c6) z<|sg z z<|nr<|yy (o' 12 aK' z z z) z<|mv z z<|mv z z ?_
 obtain⟨c5,cR,hr⟩:=hr
 refine P' z z (t' E22 z) (cL' cR) z (⟨(ba.mono e),(bo.mono e),(bj.mono e),(ah.mono e)⟩) (fun dF bR y bJ=>?_)
 obtain⟨aB,aA,aI,aG,az,aD,bx,bv,rfl,ad,ai,ae,ay⟩:=bJ
 refine mv z z<|yy (y' z z) z<|yy (y' z z) z<|yy (y' z z) z<|T' 17 z z34 z fun b6=>s' 17 z bU' z z z z z (List.all_eq_true.1 z)<|sg z z<|sg z z<|nx<|aM' (fun (⟨W,m,k,o,n,l,g,Z,aa,aj⟩:Zf×Option Addr×Nat×Option Addr×Nat×Option Addr×Nat×Option Addr×Nat×Mem)=>[(7,.bool aq),(8,.pointer (some ⟨b3,0,none⟩)),(12,.pointer (some ⟨b5,0,none⟩)),(13,i' H.2.1),(17,.pointer (some ⟨b6,0,none⟩))]) (fun ⟨W,m,k,o,n,l,g,Z,aa,aj⟩=>Mem.le bR aj/\sl Rp.str aj m k W.root.vars/\sl b' aj o n W.root.eqs/\sl b' aj l g W.root.neqs/\sl an' aj Z aa W.v/\(Zax aq ab H W).Ret r) (fun ⟨W,m,k,o,n,l,g,Z,aa,aj⟩=>St w0 G0 aj [(8,some ⟨b3,.cells ((v34' ab t x B C q s am ao)).toArray 34 (0,0),0⟩),(12,some ⟨b5,.cells ((v34' H.1 p5 aT p6 aX p7 aU p8 aW)).toArray 34 (0,0),0⟩),(17,some ⟨b6,.cells ((v34' W m k o n l g Z aa)).toArray 34 (0,0),0⟩)]) ?_ ?_
 .refine sr<|mv z z<|yy (av' z z) z<|nx<|L' hr z (fun c8 hr=>?_) (fun c8 hr=>?_)
  .refine A'<|yy (o' 12 aK' z z z) z<|s' 17 z bU' z z z z z (List.all_eq_true.1 z)<|u'<|ap' ⟨H.1,p5,aT,p6,aX,p7,aU,p8,aW,bR⟩ ⟨mr,(ba.mono (mt e y)),(bo.mono (mt e y)),(bj.mono (mt e y)),(ah.mono (mt e y)),hr⟩ (f5 z z z z z) (w3 z z z)
  refine sr<|mv z z<|yy (as' z) z<|yy (f' 12 bk' z z z) z<|yy (M' K' (ah.mono (mt e y)) z) z<|aa' hr z (av' z z) z (fun c0 hr=>?_) (fun c0 hr=>?_)
  .refine mv z z<|sn8 z<|yy (h' z z) z<|mv z z<|sn3 z<|yy (h' z z) z<|nx<|R' z<|sr<|sg z z<|nx<|j'<|a' ?_
   obtain rfl:_=r:=hr
   exact k' z z z
  refine mv z z<|gy z z (as' z) z<|gy z z (f' 17 bk' z z z) z<|gy z z (M' K' ay z) z<|gy z z (as' z) z<|gy z z (f' 12 bk' z z z) z<|gy z z (M' K' (ah.mono (mt e y)) z) z<|gy z z (W' z z) z<|aa' hr (v' z z) (av' z z) z (fun dc hr=>?_) (fun dc hr=>?_)
  .refine yy (l' z z) z<|mv z z<|sn3 z<|yy (h' z z) z<|nx<|R' z<|sr<|sg z z<|nx<|j'<|a' ?_
   obtain rfl:_=r:=hr
   exact k' z z z
  refine yy (l' z z) z<|mv z z<|gy z z (o' 17 aK' z z z) z ?_
  obtain⟨dA,cd,hr⟩:=hr
  refine D' (v' z z) z (t' E18 z) (cU' cd) z (⟨ad,ai,ae,ay⟩)<|gy z z (aj' z) z<|yy (l' z z) z<|nx<|aL' hr z (fun c7 hr=>?_) (fun c7 hr=>?_)
  .refine sr<|sg z z<|nx<|j'<|a' ?_
   obtain rfl:_=r:=hr
   exact k' z z z
  refine q'<|ap' ⟨c5.1,aB,aA,aI,aG,az,aD,bx,bv,bR⟩ ⟨mr,ad,ai,ae,ay,hr⟩ (f5 z z z z z) (w3 z z z)
 rintro⟨W,m,k,o,n,l,g,Z,aa,aj⟩ ⟨I,ak,ap,al,aw,hr⟩
 refine n'<|sr<|sg z z<|nx<|ak' (fun (gx:Mem)=>match gx with|bl=>[(7,.bool aq),(8,.pointer (some ⟨b3,0,none⟩)),(12,.pointer (some ⟨b5,0,none⟩)),(13,i' H.2.1),(17,.pointer (some ⟨b6,0,none⟩))]) (fun (gx:Mem)=>match gx with|bl=>Mem.le aj bl/\(Zab aq ab H W).Ret r) (fun (gx:Mem)=>match gx with|bl=>St w0 G0 bl [(8,some ⟨b3,.cells ((v34' ab t x B C q s am ao)).toArray 34 (0,0),0⟩),(12,some ⟨b5,.cells ((v34' H.1 p5 aT p6 aX p7 aU p8 aW)).toArray 34 (0,0),0⟩),(17,some ⟨b6,.cells ((v34' W m k o n l g Z aa)).toArray 34 (0,0),0⟩)]) ?_ ?_
 .refine C' ?_
  let bQ:(Bool⊕Unit)->Prop:=fun oo=>((fun ov=>match ov with | .inl rv1=>Cq.ret rv1 | .inr ()=>Zab aq ab H W:(Bool⊕Unit)->Cq Bool) oo).wp (fun a=>a=r)
  replace hr:(Cq.loop _ _).wp bQ:=hr
  refine al' (Φ:=bQ) (fun (⟨ag,aK⟩:Int×Mem)=>(ag:Int)) (fun ⟨ag,aK⟩=>[(7,.bool aq),(8,.pointer (some ⟨b3,0,none⟩)),(12,.pointer (some ⟨b5,0,none⟩)),(13,i' H.2.1),(17,.pointer (some ⟨b6,0,none⟩)),(20,i' ag)]) (fun ⟨ag,aK⟩=>Mem.le aj aK) (fun ⟨ag,aK⟩=>St w0 G0 aK [(8,some ⟨b3,.cells ((v34' ab t x B C q s am ao)).toArray 34 (0,0),0⟩),(12,some ⟨b5,.cells ((v34' H.1 p5 aT p6 aX p7 aU p8 aW)).toArray 34 (0,0),0⟩),(17,some ⟨b6,.cells ((v34' W m k o n l g Z aa)).toArray 34 (0,0),0⟩)]) ⟨0,aj⟩ hr (f6 z z z z z z) mr (w3 z z z) ?_
  .intro dQ gx hx hr
   obtain⟨ag,aK⟩:=gx
   have D:=hx
   refine n'<|sr<|mv z z<|yy (as' z) z<|yy (f' 8 bk' z z z) z<|yy (M' K' (X.mono (mt (mt (mt (mt (mt (mt A p) T) e) y) I) D)) z) z<|yy (ag' z z) z<|nx<|L' hr z (fun dh hr=>?_) (fun dh hr=>?_)
   .refine q'<|g'<|n'<|C'<|sr<|yy (o' 8 aK' z z z) z<|mv z z ?_
    obtain⟨dD,cr,hr⟩:=hr
    have N1:=mt (mt (mt (mt (mt (mt A p) T) e) y) I) D
    refine P' z z (t' E11 z) (bF' cr) z (⟨(L.mono N1),(S.mono N1),(K.mono N1),(X.mono N1)⟩) (fun dm dP Y br=>?_)
    obtain⟨b0,b9,cs,ce,bZ,bW,rfl,aL,a9,aM⟩:=br
    refine mv z z<|yy (y' z z) z<|yy (y' z z) z<|T' 21 z z31 z fun b7=>s' 21 z aU' z z z z z (List.all_eq_true.1 z)<|sg z z<|nr<|yy (o' 17 aK' z z z) z<|mv z z ?_
    obtain⟨dE,cl,hr⟩:=hr
    refine P' z z (t' E11 z) (bF' cl) z (⟨(ak.mono (mt D Y)),(ap.mono (mt D Y)),(al.mono (mt D Y)),(aw.mono (mt D Y))⟩) (fun dn cW ac bs=>?_)
    obtain⟨cb,bX,cj,co,ca,bY,rfl,aN,a6,aO⟩:=bs
    refine mv z z<|yy (y' z z) z<|yy (y' z z) z<|T' 23 z z31 z fun b8=>s' 23 z aU' z z z z z (List.all_eq_true.1 z)<|sg z z<|nx<|n'<|ah' [ff,ff,ff,ff,ff,ff,ff,ff,ff,ff,ff,ff,ff,ff,ff,ff,ff,ff,ff,ff,ff,ff,ff] mix (by kernel_rfl) fun hb=>cn (fun _ d=>e' z)<|by' hr z (fun _ d=>av' z z) (fun dk hr=>?_) (fun dk hr=>?_)
    .refine cn (fun _ d=>e' z)<|cf z z<|cf z z<|cn (fun _ d=>h' z z)<|cn (fun _ d=>e' z)<|cf z z<|cf z z<|cf z z<|cf z z<|cn (fun _ d=>h' z z)<|cn (fun _ d=>e' z)<|cf z z<|cf z z<|cf z z<|cf z z<|cf z z<|cf z z<|cf z z<|cf z z<|cf z z<|cf z z<|U' hb<|sn2 z<|yy (h' z z) z<|u'<|aq'<|g'<|R' z<|sr<|sg z z<|nx<|j'<|m'<|a'<|a'<|m'<|ae'<|a' ?_
     obtain rfl:_=r:=hr
     exact k' z z z
    refine cn (fun _ d=>e' z)<|cy z z (fun _ d=>e' z)<|by' hr (v' z z) (fun _ d=>av' z z) (fun dl hr=>?_) (fun dl hr=>?_)
    .refine cn (fun _ d=>l' z z)<|cn (fun _ d=>e' z)<|cf z z<|cf z z<|cf z z<|cf z z<|cn (fun _ d=>h' z z)<|cn (fun _ d=>e' z)<|cf z z<|cf z z<|cf z z<|cf z z<|cf z z<|cf z z<|cf z z<|cf z z<|cf z z<|cf z z<|U' hb<|sn2 z<|yy (h' z z) z<|u'<|aq'<|g'<|R' z<|sr<|sg z z<|nx<|j'<|m'<|a'<|a'<|m'<|ae'<|a' ?_
     obtain rfl:_=r:=hr
     exact k' z z z
    refine cn (fun _ d=>l' z z)<|cn (fun _ d=>e' z)<|cy z z (fun _ d=>o' 21 ar' z z z)<|cy z z (fun _ d=>o' 23 ar' z z z) ?_
    obtain⟨cO,cu,hr⟩:=hr
    refine bB' (v' z z) (fun _=>t' E15 z) (dE' cu) z (fun G' d=>⟨((aL.mono ac).mono d),((a9.mono ac).mono d),((aM.mono ac).mono d),(aN.mono d),(a6.mono d),(aO.mono d)⟩) ?_
    cases cO
    .refine cy z z (fun _ d=>aj' z)<|cn (fun _ d=>l' z z)<|cn (fun _ d=>e' z)<|cf z z<|cf z z<|cf z z<|cf z z<|cf z z<|cf z z<|cf z z<|cf z z<|cf z z<|cf z z<|U' hb<|sn2 z<|yy (h' z z) z<|u'<|aq'<|g'<|R' z<|sr<|sg z z<|nx<|j'<|m'<|a'<|a'<|m'<|ae'<|a' ?_
     obtain rfl:_=r:=hr
     exact k' z z z
    refine cy z z (fun _ d=>aj' z)<|cn (fun _ d=>l' z z)<|cn (fun _ d=>e' z)<|cy z z (fun _ d=>as' z)<|cy z z (fun _ d=>f' 8 bk' z z z)<|cy z z (fun _ d=>e' z) ?_
    obtain⟨x3,cA,hr⟩:=hr
    refine cy z z (fun _ d=>Q' K' cn' ((X.mono (mt (mt N1 Y) ac)).mono d) z z cA) ?_
    obtain⟨dM,du,di,cN⟩:=cK' (H' (ab' X cA) (mt (mt N1 Y) ac))
    refine cy z z (fun _ d=>aA' _ ag63 z z (fun j v hv=>d _ _ _ (di j v hv)))<|cy z z (fun _ d=>as' z)<|cy z z (fun _ d=>f' 17 bk' z z z)<|cy z z (fun _ d=>e' z) ?_
    obtain⟨x4,cz,hr⟩:=hr
    refine cy z z (fun _ d=>Q' K' cn' ((aw.mono (mt (mt D Y) ac)).mono d) z z cz) ?_
    obtain⟨dq,dN,dg,cL⟩:=cK' (H' (ab' aw cz) (mt (mt D Y) ac))
    refine cy z z (fun _ d=>aA' _ ag63 z z (fun j v hv=>d _ _ _ (dg j v hv)))<|U' hb ?_
    obtain⟨dw,ch,hr⟩:=hr
    refine D' (v' z z) z (t' E29 z) (dT' ch) z (⟨cN,cL⟩)<|gy z z (aj' z) z<|yy (l' z z) z<|u'<|aq'<|g'<|aL' hr z (fun db hr=>?_) (fun db hr=>?_)
    .refine sr<|sg z z<|nx<|j'<|m'<|a'<|a'<|m'<|ae'<|a' ?_
     obtain rfl:_=r:=hr
     exact k' z z z
    refine q'<|J'<|g'<|A'<|mv z z<|yy (W' z z) z<|sg z z<|u'<|X' ⟨i64.wrap (ag+1),cW⟩ hr (mt (mt D Y) ac) (f6 z z z z z z) (w3 z z z)
   refine am'<|r'<|r'<|O'<|ao' aK ⟨D,hr⟩ (f5 z z z z z) (w3 z z z)
 rintro bl ⟨R,hr⟩
 refine g'<|n'<|ah' [ff,ff,ff,ff,ff,ff,ff,ff,ff,ff,ff,ff,ff,ff,ff,ff,ff,ff,ff] mix (by kernel_rfl) fun hb=>by' hr z (fun _ d=>cZ' (e' z) (congrArg Value.bool (bdec _))) (fun cV hr=>?_) (fun cV hr=>?_)
 .refine cn (fun _ d=>e' z)<|cy z z (fun _ d=>dc' z)<|cy z z (fun _ d=>aH' ((v31' ab.root t x B C q s)).toArray 8 ar' z z z (aT' ([]) ((v31' ab.root t x B C q s)) ([.slice am ab.v.length ao])))<|cy z z (fun _ d=>dc' z)<|cy z z (fun _ d=>aH' ((v31' W.root m k o n l g)).toArray 17 ar' z z z (aT' ([]) ((v31' W.root m k o n l g)) ([.slice Z W.v.length aa]))) ?_
  obtain⟨cY,cJ,hr⟩:=hr
  have N2:=mt (mt (mt (mt (mt (mt A p) T) e) y) I) R
  refine bB' (v' z z) (fun _=>t' E15 z) (dE' cJ) z (fun G' d=>⟨((L.mono N2).mono d),((S.mono N2).mono d),((K.mono N2).mono d),((ak.mono R).mono d),((ap.mono R).mono d),((al.mono R).mono d)⟩) ?_
  cases cY
  .refine cn (fun _ d=>h' z z)<|cn (fun _ d=>e' z)<|ct z z<|ct z z<|ct z z<|ct z z<|ct z z<|ct z z<|ct z z<|ct z z<|ct z z<|ct z z<|U' hb<|sk z z z<|yy (l' z z) z<|sg z z<|u'<|aq'<|g'<|j' ?_
   obtain rfl:_=r:=hr
   exact k' z z z
  refine cn (fun _ d=>h' z z)<|cn (fun _ d=>e' z)<|cy z z (fun _ d=>as' z)<|cy z z (fun _ d=>f' 12 bk' z z z)<|cy z z (fun _ d=>e' z) ?_
  obtain⟨x1,cw,hr⟩:=hr
  refine cy z z (fun _ d=>Q' K' cn' ((ah.mono (mt (mt (mt e y) I) R)).mono d) z z cw) ?_
  obtain⟨dr,dt,c1,cG⟩:=cK' (H' (ab' ah cw) (mt (mt (mt e y) I) R))
  refine cy z z (fun _ d=>aA' _ ag63 z z (fun j v hv=>d _ _ _ (c1 j v hv)))<|cy z z (fun _ d=>as' z)<|cy z z (fun _ d=>f' 17 bk' z z z)<|cy z z (fun _ d=>e' z) ?_
  obtain⟨x2,cx,hr⟩:=hr
  refine cy z z (fun _ d=>Q' K' cn' ((aw.mono R).mono d) z z cx) ?_
  obtain⟨dB,dy,cZ,cS⟩:=cK' (H' (ab' aw cx) R)
  refine cy z z (fun _ d=>aA' _ ag63 z z (fun j v hv=>d _ _ _ (cZ j v hv)))<|U' hb ?_
  obtain⟨dv,cv,hr⟩:=hr
  refine D' (v' z z) z (t' E29 z) (dT' cv) z (⟨cG,cS⟩)<|yy (h' z z) z<|sg z z<|u'<|aq'<|g'<|j' ?_
  obtain rfl:_=r:=hr
  exact k' z z z
 refine cn (fun _ d=>e' z)<|ct z z<|ct z z<|ct z z<|ct z z<|ct z z<|cn (fun _ d=>l' z z)<|cn (fun _ d=>e' z)<|ct z z<|ct z z<|ct z z<|ct z z<|ct z z<|ct z z<|ct z z<|ct z z<|ct z z<|ct z z<|U' hb<|sk z z z<|yy (l' z z) z<|sg z z<|u'<|aq'<|g'<|j' ?_
 obtain rfl:_=r:=hr
 exact k' z z z
end Go.Proofs.YtnjiloaolgjedaaGreat

namespace Go.Proofs.YtnjiloaolgjedaaGreat
open Go.IntKind (i8 i16 i32 i64 u8 u16 u32 u64)
open Go.Proofs.Tryz
open Go Go.EL Go.RowKit Go.Proofs
end Go.Proofs.YtnjiloaolgjedaaGreat

namespace Go.EL
open Go.IntKind (i8 i16 i32 i64 u8 u16 u32 u64)
open Go Go.RowKit
def sanE(v:ByteArray):Zc:=⟨1,v,0,0,0,[],false⟩
def sanX(v:ByteArray):Za:=⟨[v],[],[],1⟩
def vA:Zh:=⟨-1,-1,[]⟩
def vB(v:ByteArray):Zh:=⟨0,-1,[sanE v]⟩
theorem ZlC:checkF oneS (sanE ZH)=0:=by decide +kernel
theorem ZlD:checkF oneS (sanE ZK)=0:=by decide +kernel
theorem Zdp(v:ByteArray)(hc:checkF oneS (sanE v)=0):allF oneS [sanE v] 0=⟨sanX v,1,0⟩:=by
 have h:Runs oneS [sanE v]:=⟨hc,trivial⟩
 rw[Zdh h]; rfl
theorem Zjm(v:ByteArray):∀ e ∈ [sanE v],PolOk e.p/\KindOk e:=fun e he=>by
 rw[List.mem_singleton] at he
 subst he
 exact⟨ZdP,show (-1000:Int)<=1 by decide,show (1:Int)<=1000 by decide⟩
def sanH:Zf:=⟨oneS,[vA]⟩
def sanI:Zf:=⟨oneS,[vA,vB ZH]⟩
def sanJ:Zf:=⟨oneS,[vA,vB ZH,vB ZK]⟩
theorem ZhR:HistOk sanH [oneS]:=Zlq Zgt
theorem ZjX:HistOk sanI [oneS,sanX ZH]:=by
 have h0:(allF oneS [sanE ZH] 0).e=0:=by rw[Zdp _ ZlC]
 have h:=ZhR.add (v:=0) (o:=-1) (s:=oneS) rfl (by decide) (by decide) (by decide) (Zjm _) h0
 rw[Zdp _ ZlC] at h
 exact h
theorem ZbY:HistOk sanJ [oneS,sanX ZH,sanX ZK]:=by
 have h0:(allF oneS [sanE ZK] 0).e=0:=by rw[Zdp _ ZlD]
 have h:=ZjX.add (v:=0) (o:=-1) (s:=oneS) rfl (by decide) (by decide) (by decide) (Zjm _) h0
 rw[Zdp _ ZlD] at h
 exact h
theorem Zqe:addF sanH [oneS] 0 (-1) [sanE ZH]=(sanI,1,0):=ZfX (v:=0) ZhR rfl (-1) (by decide) (by decide) (by rw[Zdp _ ZlC])
theorem Zqf:addF sanI [oneS,sanX ZH] 0 (-1) [sanE ZK]=(sanJ,2,0):=ZfX (v:=0) ZjX rfl (-1) (by decide) (by decide) (by rw[Zdp _ ZlD])
theorem ZlE:upB (parV sanJ) (othV sanJ) 2 1=false:=rfl
theorem ZoX:upB (parV sanJ) (othV sanJ) 1 2=false:=rfl
theorem ZoW:(Zc2 sanJ 1 2).Ret (0,0):=by
 obtain⟨r,h1,h2⟩:=Zov ZbY 1 2
 rcases h2 with ⟨_,_,v,⟨k1,k2,_⟩,rfl⟩|⟨k,_⟩
 .have hv:=ZhF ZbY.down (b:=(1:Int).toNat) (by decide) k1
  have hv':v=0\/v=1:=by have:(1:Int).toNat=1:=rfl; omega
  rcases hv' with rfl|rfl
  .exact h1
  rw[show (2:Int).toNat=2 from rfl,ZlE] at k2; cases k2
 exact absurd ⟨rfl,rfl⟩ k
theorem Zon{h:Zf}{a b:Nat}(ha:a<h.v.length)(hb:b<h.v.length)(hu:upB (parV h) (othV h) b a=false):upH h (a:Int) (b:Int)=false:=by rw[ZlN ha hb,hu]
theorem Zqg:undoF sanJ [oneS,sanX ZH,sanX ZK] 1 2=(zeroH,0,340):=by
 unfold undoF
 have h:upH sanJ ((2:Nat):Int) ((1:Nat):Int)=false:=Zon (by decide) (by decide) ZoX
 rw[show upH sanJ 2 1=false from h]; rfl
theorem Znb:(Zaj ⟨oneS,[]⟩).Ret false:=by
 refine⟨true,Zb6 Zgt,?_⟩
 show (if (((0:Nat):Int))<1 then _ else _:Cq _).wp _
 exact Cq.wp.yes (by decide) rfl
theorem ZlF:ZeK.Ret true:=by
 refine⟨_,Zpc Zgt,?_⟩
 show (if ¬ (0:Int)=0 then _ else _:Cq _).wp _
 refine Cq.wp.no (fun h=>h rfl) (Cq.wp.no (fun h=>h rfl) ⟨true,Zdv ZhR,Cq.wp.no (by decide) ?_⟩)
 refine⟨_,rfl,_,ZcA ZhR 0 (by decide) (Zjm _),?_⟩
 have e1:=Zqe
 unfold sanE at e1
 rw[e1]
 refine Cq.wp.no (fun h=>h rfl) (Cq.wp.no (fun h=>h rfl) (Cq.wp.no (fun h=>h rfl) ?_))
 refine⟨_,rfl,_,ZcA ZjX 0 (by decide) (Zjm _),?_⟩
 have e2:=Zqf
 unfold sanE at e2
 rw[e2]
 refine Cq.wp.no (fun h=>h rfl) (Cq.wp.no (fun h=>h rfl) (Cq.wp.no (fun h=>h rfl) ⟨true,Zdv ZbY,Cq.wp.no (by decide) ?_⟩))
 obtain⟨t,u1,u2,u3,_⟩:=ZbY.Zok (v:=1) (by decide) (by decide)
 refine⟨_,ZoW,_,Ziu ZbY ((1:Nat):Int) ((1:Nat):Int),_,Ziu ZbY 1 2,?_⟩
 rw[u1,Zqg]
 refine Cq.wp.no (fun h=>h rfl) (Cq.wp.no (fun h=>h rfl) (Cq.wp.no (fun h=>h rfl) (Cq.wp.no (fun h=>h rfl) (Cq.wp.no (fun h=>h rfl) (Cq.wp.no (fun h=>h rfl) ?_)))))
 refine⟨_,ZgQ ZbY 1 2,?_⟩
 have h12:upH sanJ ((1:Nat):Int) ((2:Nat):Int)=false:=Zon (by decide) (by decide) ZlE
 rw[show upH sanJ 1 2=false from h12]
 refine⟨_,ZgQ ZbY 0 2,?_⟩
 have h02:upH sanJ ((0:Nat):Int) ((2:Nat):Int)=true:=(ZlN (by decide) (by decide)).trans (Zj0 ZbY (by decide))
 rw[show upH sanJ 0 2=true from h02]
 refine Cq.wp.no (by decide) ?_
 refine⟨_,ZdD u2 ((3:Nat):Int),_,ZdD u2 ((2:Nat):Int),_,ZdD u2 4,?_⟩
 rw[ZdI (v:=3) (s:=t) rfl,ZdI (v:=2) (s:=sanX ZK) rfl]
 refine Cq.wp.yes rfl (Cq.wp.yes rfl (Cq.wp.yes rfl ?_))
 have hv:t.vars=[]:=u3.1
 refine Cq.wp.yes (by rw[hv]; rfl) (Cq.wp.yes rfl ⟨false,Znb,rfl⟩)
end Go.EL

namespace Go.EL
open Go.IntKind (i8 i16 i32 i64 u8 u16 u32 u64)
open Go Go.RowKit
section
variable {h i j:Zf}{ss si sj:List Za}
theorem Zp9(hh:HistOk h ss){z:Int}(hz:0<=z/\z<=255):∃ k:Nat,Int.tmod (i64.wrap z) (h.v.length:Int)=(k:Int)/\k<h.v.length:=by
 have hb:=hh.bd
 rw[wrap64 (by omega)]
 have ht:=Zbc (a:=z) (b:=(h.v.length:Int)) (by omega) (by omega)
 exact⟨(Int.tmod z (h.v.length:Int)).toNat,by omega,by omega⟩
theorem Zll(h:Zf)(x:Zh)(hn:h.v.length<=200):(((⟨h.root,h.v++[x]⟩:Zf).v.length:Nat):Int)=i64.wrap ((h.v.length:Int)+1):=by
 rw[wrapN (by omega)]
 show (((h.v++[x]).length:Nat):Int)=_
 rw[List.length_append]; rfl
theorem ZhP{α:Type}(l:List α)(x:α):(l++[x])[l.length]? = some x:=by rw[List.getElem?_append_right (Nat.le_refl _),Nat.sub_self]; rfl
theorem ZoZ(hh:HistOk h ss){a v:Int}(h0:(undoF h ss a v).2.2=0):∃ y t,undoF h ss a v=(⟨h.root,h.v++[y]⟩,(h.v.length:Int),0)/\HistOk ⟨h.root,h.v++[y]⟩ (ss++[t]):=by
 unfold undoF at h0 ⊢
 cases hu:upH h v a with
 | false=>rw[hu] at h0; exact absurd h0 (show ¬ (340:Int)=0 by decide)
 | true=>
  rw[hu,if_pos rfl] at h0
  rw[if_pos rfl]
  obtain⟨m,n,rfl,rfl,hm,hn,_⟩:=Zoo hu
  rw[Int.toNat_natCast] at h0 ⊢
  obtain⟨n',s,_,hs,hl,hl2,h1,e⟩:=Zpf hh h0
  have hn':n'=n:=by omega
  subst hn'
  exact⟨_,_,e,hh.add hs hl ⟨by omega,by omega⟩ hl2 (ZhE hh hm) h1⟩
theorem Zlk(hh:HistOk h ss)(hi:HistOk i si)(hj:HistOk j sj)(p1:∀ (a:Nat) s,ss[a]? = some s->sj[a]? = some s)(p2:∀ (a:Nat) x,h.v[a]? = some x->j.v[a]? = some x)(p3:j.root=h.root){k:Nat}{x:Zh}(k1:i.v[k]? = some x)(k2:j.v[k]? = some x):
  (Zax true h (i,(k:Int),0) j).Ret true:=by
 have hb:=hh.bd
 show (Cq.next _ _).wp _
 refine Cq.Zl h.v.length (fun k (st:Int)=>st=(k:Int)) (fun a st ha hs=>?_) (fun st hs=>?_) rfl
 .subst hs
  obtain⟨s,y,hsa,hya,hg⟩:=hh.at ha
  refine Cq.wp.yes (p:=(a:Int)<(h.v.length:Int)) (by omega) ?_
  refine⟨_,ZdD hh a,_,ZdD hj a,?_⟩
  rw[ZdI hsa,ZdI (p1 a s hsa)]
  refine Cq.wp.no (fun h=>h rfl) (Cq.wp.no (fun h=>h rfl) ⟨true,Zk4 hg.sys,y,idxS hya,y,idxS (p2 a y hya),true,hh.sameV hya,?_⟩)
  exact Cq.wp.no (by decide) (wrapN (by omega))
 subst hs
 refine Cq.wp.no (p:=(h.v.length:Int)<(h.v.length:Int)) (by omega) ?_
 show (Zab true h (i,(k:Int),0) j).wp _
 unfold Zab
 refine Cq.wp.yes rfl ⟨true,?_,x,idxS k1,x,idxS k2,true,hi.sameV k1,rfl⟩
 rw[p3]
 exact Zk4 hh.rootG.sys
theorem getF3(n:Fin 3->Int)(hn:∀ i,0<=n i/\n i<=255):(0<=getF n 0/\getF n 0<=255)/\(0<=getF n 1/\getF n 1<=255)/\(0<=getF n 2/\getF n 2<=255):=⟨hn 0,hn 1,hn 2⟩
end
theorem Ziw{x:ZF}{n:Fin 3->Int}{l:List Zt}(hx:HRawOk x)(hn:∀ i,0<=n i/\n i<=255)(hl:∀ y ∈ l,DescOk y):(ZdL x n l).Ret true:=by
 obtain⟨h,ss,hm,hh,hlen⟩:=Znv hx (m:=6) (by decide)
 obtain⟨n0,n1,n2⟩:=getF3 n hn
 obtain⟨v,hv,hvl⟩:=Zp9 hh n0
 obtain⟨s,_,hs,_,hg⟩:=hh.at hvl
 obtain⟨ed,e1,e2,e3⟩:=ZkO hl (m:=3) (by decide) hg
 have hp:=ZjW e3
 have h0:(allF s ed 0).e=0:=by rw[Zdh (Zgy e3)]
 have hb:=hh.bd
 have hi:=hh.add (o:=-1) hs (by omega) ⟨by omega,by omega⟩ (by omega) hp h0
 have hbi:=hi.bd
 refine⟨true,ZlF,Cq.wp.no (by decide) ⟨h,hm,by omega,_,ZdD hh _,?_⟩⟩
 rw[hv,ZdI hs]
 refine Cq.wp.no (fun h=>h rfl) ⟨true,ZgI hg,Cq.wp.no (by decide) ⟨ed,e1,_,ZcA hh _ (by omega) hp,?_⟩⟩
 rw[hv,ZfX hh hs (-1) (by omega) (by omega) h0]
 refine Cq.wp.no (fun h=>h rfl) (Cq.wp.no (fun h=>h rfl) (Cq.wp.no (fun k=>k (Zll h _ (by omega))) ⟨true,Zdv hi,Cq.wp.no (by decide) ⟨?_,?_,_,Ziu hi _ _,?_⟩⟩))
 .show ¬ (((h.v++_).length:Nat):Int)=0; rw[List.length_append]; show ¬ ((h.v.length+1:Nat):Int)=0; omega
 .show ¬ (((h.v++_).length:Nat):Int)=0; rw[List.length_append]; show ¬ ((h.v.length+1:Nat):Int)=0; omega
 rw[Cq.Zd]
 by_cases c:(undoF ⟨h.root,h.v++[⟨(v:Int),-1,ed⟩]⟩ (ss++[(allF s ed 0).s]) (Int.tmod (i64.wrap (getF n 1)) (((h.v++([⟨(v:Int),-1,ed⟩]:List Zh)).length:Nat):Int)) (Int.tmod (i64.wrap (getF n 2)) (((h.v++([⟨(v:Int),-1,ed⟩]:List Zh)).length:Nat):Int))).2.2=0
 .rw[if_neg (fun k=>k c)]
  obtain⟨y,t,q1,q2⟩:=ZoZ hi c
  rw[q1]
  refine Cq.wp.no (fun h=>h rfl) (Cq.wp.no (fun k=>k (Zll (⟨h.root,h.v++[⟨(v:Int),-1,ed⟩]⟩:Zf) y hbi.2)) ⟨true,Zdv q2,Cq.wp.no (by decide) ?_⟩)
  exact Zlk hh hi q2 (fun a s h=>Zag (Zag h)) (fun a s h=>Zag (Zag h)) rfl (ZhP h.v _) (Zag (ZhP h.v _))
 rw[if_pos c]
 exact Zlk hh hi hi (fun a s h=>Zag h) (fun a s h=>Zag h) rfl (ZhP h.v _) (ZhP h.v _)
theorem AlikeS.symm{a b:Za}(h:AlikeS a b):AlikeS b a:=⟨h.1.symm,h.2.1.symm,h.2.2.symm⟩
end Go.EL

