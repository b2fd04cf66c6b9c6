/- The law VersionKeeps holds for every input: a part of its proof (what the code does, plain models, and what they return). No condition. -/
import Derived.Test.YtnjiloaolgjedaaGreatXK12e
set_option linter.unusedVariables false
set_option linter.unusedSimpArgs false
namespace Go.Proofs.YtnjiloaolgjedaaGreat
open Go.IntKind (i8 i16 i32 i64 u8 u16 u32 u64)
open Go.Proofs.Tryz
open Go Go.EL Go.RowKit Go.Proofs
theorem Zjx{P:Program}{N l:Nat}{c c2:Code}{Q:Post}{fr:Fr}{S:Asrt}(e:c=c2)(h:WCI P N l c2 Q fr S):WCI P N l c Q fr S:=by rw[e]; exact h
def mark1(A:List Bool)(c:Int):List Bool:=if 0<=c then A.set c.toNat true else A
theorem Zhp(A:List Bool)(c:Int):(mark1 A c).length=A.length:=by unfold mark1; split <;> simp
theorem ZnR{stop:Int->Bool}{x:Int}{l:List Int}:(x::l).find? stop=if stop x=true then some x else l.find? stop:=by
 rw[List.find?_cons]
 cases stop x <;> rfl
def DownV(h:Zf)(v:Nat):Prop:=v+1<=1000000/\∀ k,k<=v->∃ x,h.v[k]? = some x/\x.parent<=(v:Int)/\x.other<=(v:Int)
theorem anc1(h:Zf)(v bv bh l:Nat)(Lc:Lo)(d:Int->Bool)(Lx:Int->Lo)(Q:Mem->Prop)(hm:∀ G o,Mem.le G o->Q G->Q o)(hc:∀ i,9000<=i->Lc.get i=none)(hx:∀ x i,9000<=i->(Lx x).get i=none)(aF:DownV h v)
  (hY:∀ k:Nat,k<=v->YCtr prog l (i' (k:Int)) Lc Q (fun _ L b=>(b=true/\d k=false/\L=Lc)\/(b=false/\d k=true/\L=Lx k))) :
  CtrL prog 57 #[.func (.yield l) #[] #[],.pointer (some ⟨bv,0,none⟩),.pointer (some ⟨bh,0,none⟩)] Lc (fun G=>G bv 0=some (i' (v:Int))/\At Za8 G bh 0 h/\Q G)
   (fun _ L u=>L=(match (ancU (parV h) (othV h) v).find? d with|none=>Lc|some x=>Lx x)/\u = .tuple #[]):=by
 obtain⟨hv,ak⟩:=aF
 refine bf' (args:=[_,_,_]) (N:=52) func57 z z z (fun w0 J an K=>?_)
 obtain⟨af,aC,K⟩:=K
 obtain⟨q,qc,qe,qh⟩:=bG' (ay' (ax' aC))
 have am:∀ B,Lo.sub Lc ((9000,B)::Lc):=fun B i z hz=>by
  rw[Lo.Zi,if_neg (fun e=>by rw[<- e,hc 9000 (Nat.le_refl _)] at hz; cases hz)]; exact hz
 have U:∀ (a:Option Ow) (R:Lo),Lo.sub ((9000,a)::Lc) ((9000,a)::((9000,R.get 9000)::Lc)):=fun a R i z hz=>by
  rw[Lo.Zi] at hz ⊢
  split at hz
  .rename_i e; rw[if_pos e]; exact hz
  rename_i e; rw[if_neg e,Lo.Zi,if_neg e]; exact hz
 have aE:i64.wrap ((v:Int)+1)=((v+1:Nat):Int):=by rw[IntKind.wrap_i64]; omega
 refine n'<|A'<|yy (Y' sc3 z af) z<|yy (W' z z) z ?_
 rw[aE]
 refine dP' (r:=Rp.bool) (e:=4) (n:=((v+1:Nat):Int)) (zx:=false) 9000 Zm z cY' el4 z (by decide) (by decide) z z z (by omega) (fun p1 aU h0=>?_)
 rw[Int.toNat_natCast] at h0
 rw[Int.toNat_natCast]
 refine yy (Y0.assign z) z<|u'<|g'<|n'<|A'<|mv z z<|yy (Y' sc3 z af) z ?_
 have av:0<=(v:Int)/\(List.replicate (v+1) false)[(v:Int).toNat]? = some false:=⟨by omega,by rw[Int.toNat_natCast,List.getElem?_replicate,if_pos (by omega)]⟩
 refine yy (ba' cY' sz4 h0 z z av) z<|bv' (r:=Rp.bool) (e:=4) (cs':=[.bool true]) (i:=(v:Int)) (z':=true) 9000 Zm sz4 z h0 z z z z z av (fun ap h1=>?_)
 rw[Int.toNat_natCast] at h1
 refine u'<|g'<|n'<|A'<|yy (Y' sc3 z af) z<|yy (Y0.assign z) z<|u'<|g'<|C'<|WC.loopH (X:=Nat×Int×List Bool×Option Ow×Mem) (fun s=>match s with|⟨_,a,_,_,_⟩=>[(0,.func (.yield l) #[] #[]),(1,.pointer (some ⟨bv,0,none⟩)),(2,.pointer (some ⟨bh,0,none⟩)),(4,.slice p1 (v+1) (v+1)),(5,i' a)])
  (fun s=>match s with|⟨k,a,A,B,G⟩=>a=(k:Int)-1/\Mem.le J G/\RowR Rp.bool 4 G (.slice p1 (v+1) (v+1)) A B/\k<=v+1/\A.length=v+1/\(ancL (parV h) (othV h) k A).find? d=(ancU (parV h) (othV h) v).find? d)
  (fun s=>match s with|⟨_,_,_,B,G⟩=>St w0 J G ((9000,B)::Lc)) (fun s=>s.1) ⟨v+1,(v:Int),(List.replicate (v+1) false).set v true,ap,J⟩ (fc z (fc z (fc z (fc z (fc z (Fr.Zs _)))))) ⟨by omega,Mem.le_refl _,h1,Nat.le_refl _,by simp,z⟩ ?_ ?_
 .intro w t
  exact t.weaken (an ▸ U ap [(9000,aU)])
 rintro⟨k,a,A,B,G⟩ ⟨a4,W,hA,hk,ae,F⟩
 refine n'<|n'<|A'<|mv z z<|yy (be' z z) z<|u'<|g'<|dA' (p:=0<=a) z (fun aT=>?_) (fun aT=>?_)
 .obtain⟨k,rfl⟩:∃ j,k=j+1:=⟨k-1,by omega⟩
  have ek:a=(k:Int):=by omega
  subst ek
  have ao:i64.wrap ((k:Int)-1)=(k:Int)-1:=by rw[IntKind.wrap_i64]; omega
  obtain⟨x,ab,aN,aS⟩:=ak k (by omega)
  have aR:parV h k=x.parent:=by unfold parV; rw[ab]; rfl
  have aH:othV h k=x.other:=by unfold othV; rw[ab]; rfl
  refine q'<|g'<|n'<|C'<|n'<|n'<|A'<|mv z z<|mv z z ?_
  have ar:0<=(k:Int)/\A[(k:Int).toNat]? = some (A.getD k false):=⟨by omega,by rw[Int.toNat_natCast,List.getD_eq_getElem?_getD,List.getElem?_eq_getElem (by omega)]; rfl⟩
  refine yy (ba' cY' sz4 hA z z ar) z<|yy (dQ' sc4 hA (key:=9000) z z (AtK.bool (cS' hA ar))) z<|yy (aj' z) z<|u'<|g'<|WC.cond (b:=!(A.getD k false)) z (fun I=>?_) (fun I=>?_)
  .-- not above
   have ha:¬ A.getD k false=true:=by cases hq:A.getD k false with|true=>rw[hq] at I; cases I|false=>simp
   refine am'<|r'<|O'<|g'<|A'<|mv z z<|yy (bi' z z) z ?_
   rw[ao]
   refine yy (Y0.assign z) z<|u'<|WE.backH (x:=(k+1,(k:Int),A,B,G)) (k,(k:Int)-1,A,B,G) ⟨z,W,hA,by omega,ae,?_⟩ (fc z (fc z (fc z (fc z (fc z (Fr.Zs _)))))) (fun w t=>t) (Nat.lt_succ_self k)
   rw[<- F]
   show _=(if A.getD k false=true then _ else _:List Int).find? d
   rw[if_neg ha]
  have ha:A.getD k false=true:=by cases hq:A.getD k false with|true=>rfl|false=>rw[hq] at I; cases I
  have S:(if d (k:Int)=true then some (k:Int) else (ancL (parV h) (othV h) k (markL (parV h) (othV h) A k)).find? d)=(ancU (parV h) (othV h) v).find? d:=by
   rw[<- F,<- ZnR]
   show _=(if A.getD k false=true then _ else _:List Int).find? d
   rw[if_pos ha]
  refine q'<|g'<|n'<|n'<|WC.regionI<|WLI.y0 Zm (e' z) (fun c h=>by cases h) z<|WLI.y0 Zm (e' z) (fun c h=>by cases h) z<|WLI.callY (R:=[(9000,B)]) (Lc:=Lc) Zm z z z (hY k (by omega)) (hm _ _ W K) an (fun i hi=>by simp only[List.map_cons,List.map_nil,List.mem_singleton] at hi; subst hi; exact hc _ (Nat.le_refl _)) fun b G1 L1 ad H=>WLI.y0 Zm (aj' z) (fun c h=>by cases h) z<|WLI.nil<|g' ?_
  rcases H with ⟨rfl,hst,rfl⟩|⟨rfl,hst,rfl⟩
  .rw[if_neg (by rw[hst]; simp)] at S
   have m:Mem.le J G1:=mt W ad
   have E:0<=(k:Int)/\h.v[(k:Int).toNat]? = some x:=⟨by omega,by rw[Int.toNat_natCast]; exact ab⟩
   refine bb' z<|q'<|g'<|n'<|ah' [ff,ff,ff,ff,ff,ff,ff,ff,ff,ff,ff,ff,ff,ff,ff] mix (by kernel_rfl) fun hb=>Chain.y0 Zm (fun _ f=>as' z)<|Chain.y0 Zm (fun _ f=>Y' bk' z (f _ _ _ (m _ _ _ qe)))<|Chain.y0 Zm (fun _ f=>e' z)<|Chain.y0 Zm (fun _ f=>Q' K' cn' (qh.mono (mt m f)) z z E)<|Chain.y0 Zm (fun _ f=>bX' z)<|Chain.y0 Zm (fun _ f=>Y' sc3 z (aD' (H' (aV' (ax' (ab' qh E))) (mt m f))))<|Chain.y0 Zm (fun _ f=>as' z)<|Chain.y0 Zm (fun _ f=>Y' bk' z (f _ _ _ (m _ _ _ qe)))<|Chain.y0 Zm (fun _ f=>e' z)<|Chain.y0 Zm (fun _ f=>Q' K' cn' (qh.mono (mt m f)) z z E)<|Chain.y0 Zm (fun _ f=>cF' z)<|Chain.y0 Zm (fun _ f=>Y' sc3 z (aD' (H' (aV' (ay' (ax' (ab' qh E)))) (mt m f))))<|Chain.litU (r:=Rp.int .i64) (e:=3) ([x.parent,x.other]:List Int) (fun _=>Zm) z (by decide) (fun u o f hu=>⟨#[(0,i' x.parent),(1,i' x.other)],[i' x.parent,i' x.other],z,z,fun _=>by kernel_rfl,⟨[_],[_],z,z,⟨[_],[],z,z,z⟩⟩⟩)<|Chain.y0UD (c:=i' 2) (fun _=>Zm) (fun u o f hu=>?_) ?_
   .obtain⟨⟨pl,a2,aI,_⟩,_⟩:=(show (fun (v:Value) (g:Gx)=>∃ p uu,v = .slice p 2 2/\SlRd (Rp.int .i64) g.m (.slice p 2 2) uu [x.parent,x.other]) (u 40) o/\True from hu)
    simp only[undFr,aI]
    exact dZ' underlying113 z
   refine Chain.y0U (fun _=>Zm) (fun _ _ f=>e' z)<|cQ' (post:=fun G v=>∃ p uu,v = .slice p 2 2/\SlRd (Rp.int .i64) G (.slice p 2 2) uu [x.parent,x.other]) (fun v2 G2 Y H=>?_)
   obtain⟨pl,_,rfl,M⟩:=H
   replace M:SlR (Rp.int .i64) G2 (.slice pl 2 2) [x.parent,x.other]:=M
   refine u'<|aq'<|g'<|C'<|WC.loopH (X:=Nat×List Bool×Option Ow×Mem) (fun s=>match s with|⟨j,_,_,_⟩=>[(0,.func (.yield l) #[] #[]),(1,.pointer (some ⟨bv,0,none⟩)),(2,.pointer (some ⟨bh,0,none⟩)),(4,.slice p1 (v+1) (v+1)),(5,i' (k:Int)),(40,.slice pl 2 2),(41,i' 2),(42,i' (j:Int))])
    (fun s=>match s with|⟨j,C,y,o⟩=>j<=2/\Mem.le G2 o/\RowR Rp.bool 4 o (.slice p1 (v+1) (v+1)) C y/\C=([x.parent,x.other].take j).foldl mark1 A)
    (fun s=>match s with|⟨_,_,y,o⟩=>St w0 J o ((9000,y)::L1)) (fun s=>2-s.1) ⟨0,A,B,G2⟩ (fc z (fc z (fc z (fc z (fc z (fc z (fc z (fc z (Fr.Zs _))))))))) ⟨by omega,Mem.le_refl _,hA.mono (mt ad Y),z⟩ (fun w t=>t) ?_
   rintro⟨j,C,y,o⟩ ⟨hj,D,V,O⟩
   have ag:C.length=v+1:=by
    rw[O,<- ae]
    match j,hj with
    | 0,_=>rfl
    | 1,_=>exact Zhp _ _
    | 2,_=>exact (Zhp _ _).trans (Zhp _ _)
   refine n'<|A'<|yy (ag' z z) z<|u'<|g'<|n'<|dA' (p:=(j:Int)<2) z (fun aK=>?_) (fun aK=>?_)
   .obtain⟨c,aL,a3,T⟩:∃ c,([x.parent,x.other]:List Int)[j]? = some c/\c<=(v:Int)/\([x.parent,x.other].take (j+1)).foldl mark1 A=mark1 (([x.parent,x.other].take j).foldl mark1 A) c:=by
     rcases (show j=0\/j=1 by omega) with rfl|rfl
     .exact⟨x.parent,z,aN,z⟩
     exact⟨x.other,z,aS,z⟩
    have Z:0<=(j:Int)/\([x.parent,x.other]:List Int)[(j:Int).toNat]? = some c:=⟨by omega,by rw[Int.toNat_natCast]; exact aL⟩
    have au:i64.wrap ((j:Int)+1)=((j+1:Nat):Int):=by rw[IntKind.wrap_i64]; omega
    refine q'<|g'<|n'<|C'<|n'<|A'<|yy (Q' underlying113 sz3 (M.mono D) z z Z) z<|yy (Y' sc3 z (aD' (H' (ab' M Z) D))) z<|yy (Y0.assign z) z<|u'<|g'<|n'<|A'<|mv z z<|yy (be' z z) z<|u'<|g'<|dA' (p:=0<=c) z (fun P=>?_) (fun P=>?_)
    .have aq:0<=c/\C[c.toNat]? = some (C.getD c.toNat false):=⟨P,by rw[List.getD_eq_getElem?_getD,List.getElem?_eq_getElem (by omega)]; rfl⟩
     refine A'<|mv z z<|mv z z<|yy (ba' cY' sz4 V z z aq) z<|bv' (r:=Rp.bool) (e:=4) (cs':=[.bool true]) (i:=c) (z':=true) 9000 Zm sz4 z V z z z z z aq fun aw h3=>u'<|J'<|g'<|A'<|yy (W' z z) z ?_
     rw[au]
     refine mv z z<|u'<|WE.backH (x:=(j,C,y,o)) (j+1,C.set c.toNat true,aw,o) ⟨by omega,D,h3,?_⟩ (fc z (fc z (fc z (fc z (fc z (fc z (fc z (fc z (Fr.Zs _))))))))) (fun w t=>t.weaken (U aw [(9000,y)])) (by show 2-(j+1)<2-j; omega)
     rw[T,<- O,mark1,if_pos P]
    refine q'<|J'<|g'<|A'<|yy (W' z z) z ?_
    rw[au]
    refine mv z z<|u'<|WE.backH (x:=(j,C,y,o)) (j+1,C,y,o) ⟨by omega,D,V,?_⟩ (fc z (fc z (fc z (fc z (fc z (fc z (fc z (fc z (Fr.Zs _))))))))) (fun w t=>t) (by show 2-(j+1)<2-j; omega)
    rw[T,<- O,mark1,if_neg P]
   have aQ:j=2:=by omega
   subst aQ
   refine am'<|r'<|r'<|O'<|J'<|g'<|A'<|mv z z<|yy (bi' z z) z ?_
   rw[ao]
   refine yy (Y0.assign z) z<|u'<|WE.backH (x:=(k+1,(k:Int),A,B,G)) (k,(k:Int)-1,C,y,o) ⟨z,mt m (mt Y D),V,by omega,ag,?_⟩ (fc z (fc z (fc z (fc z (fc z (Fr.Zs _)))))) (fun w t=>t) (Nat.lt_succ_self k)
   rw[<- S,O]
   have:markL (parV h) (othV h) A k=mark1 (mark1 A x.parent) x.other:=by unfold markL mark1; rw[aR,aH]
   rw[this]
   rfl
  rw[if_pos hst] at S
  refine R' z<|j'<|a'<|m'<|a'<|a'<|m'<|aJ' (S':=St w0 J G1 (Lx (k:Int))) (fun w t=>t.weaken (fun i z hz=>?_)) (WE.ret0 z ⟨?_,z⟩)
  .rw[Lo.Zkg (fun hi=>by simp only[List.map_cons,List.map_nil,List.mem_singleton] at hi; rw[hi,hx _ _ (Nat.le_refl _)] at hz; cases hz)]; exact hz
  rw[<- S]
 have aP:k=0:=by omega
 subst aP
 refine am'<|r'<|r'<|O'<|WE.retN<|aJ' (S':=St w0 J G Lc) (fun w t=>t.weaken (am B)) (WE.ret0 z ⟨?_,z⟩)
 rw[<- F]
 rfl
theorem Zc6(h:Zf)(v:Int)(j:Option Addr)(i:Nat)(g:Option Addr)(f:Nat)(d:Option Addr)(e:Nat)(k:Option Addr)(m:Nat):
  Ctr prog 42 #[.agg ((v34' h j i g f d e k m)).toArray,i' v] (fun G=>sl Rp.str G j i h.root.vars/\sl b' G g f h.root.eqs/\sl b' G d e h.root.neqs/\sl an' G k m h.v)
   (fun G u=>∃ l n,u = .func (.func 57) #[] #[.pointer (some ⟨l,0,none⟩),.pointer (some ⟨n,0,none⟩)]/\G l 0=some (i' v)/\At Za8 G n 0 h):=by
 refine E' (args:=[_,_]) (N:=6) func42 z z z (fun E F o p=>?_)
 obtain⟨A,y,B,x⟩:=p
 refine n'<|A'<|ad' 2 Zm z z (fun n=>ad' 3 Zm z z (fun l=>?_))
 refine yy (Y0.assign z) z<|u'<|g'<|n'<|bC' 2 z (by rw[o]; rfl) fun H c s C=>bC' 3 z (by rw[o]; rfl) fun I q t D=>A'<|yy (bO' z z) z<|yy (Y0.assign z) z<|u'<|g'<|j'<|k' z z ⟨l,n,z,t 0 _ z,H' (ch' (r:=Za8) (cs:=(v34' h j i g f d e k m)) s z ⟨(v31' h.root j i g f d e),[.slice k h.v.length m],z,⟨[.slice j h.root.vars.length i],[.slice g h.root.eqs.length f,.slice d h.root.neqs.length e,i' h.root.next],z,⟨_,z,A.mono c⟩,⟨[.slice g h.root.eqs.length f],[.slice d h.root.neqs.length e,i' h.root.next],z,⟨_,z,y.mono c⟩,⟨[.slice d h.root.neqs.length e],[i' h.root.next],z,⟨_,z,B.mono c⟩,z⟩⟩⟩,⟨_,z,x.mono c⟩⟩) q⟩
theorem Zmv{h:Zf}{v:Nat}(c:downB h v=true):DownV h v:=by
 unfold downB at c
 rw[Bool.and_eq_true,decide_eq_true_eq,List.all_eq_true] at c
 refine⟨c.1,fun k d=>?_⟩
 have:=c.2 k (List.mem_range.2 (by omega))
 cases hx:h.v[k]? with
 | none=>rw[hx] at this; cases this
 | some x=>
  rw[hx,Bool.and_eq_true,decide_eq_true_eq,decide_eq_true_eq] at this
  exact⟨x,z,this.1,this.2⟩
theorem ZbC(h:Zf)(a b:Int)(L:Option Addr)(C:Nat)(O:Option Addr)(H:Nat)(P:Option Addr)(R:Nat)(J:Option Addr)(D:Nat)(r:Bool)(hr:(ZaQ h a b).Ret r):
  Ctr prog 16 #[.agg ((v34' h L C O H P R J D)).toArray,i' a,i' b] (fun G=>sl Rp.str G L C h.root.vars/\sl b' G O H h.root.eqs/\sl b' G P R h.root.neqs/\sl an' G J D h.v)
   (fun _ u=>u = .bool r):=by
 refine Ctr.enterM (args:=[_,_,_]) (N:=25) func16 z z z (fun w0 G0 Y F=>?_)
 obtain⟨Q,K,E,I⟩:=F
 refine n'<|A'<|ad' 3 Zm z z (fun b3=>ad' 4 Zm z z (fun b4=>T' 6 Zm z4 z (fun b6=>?_)))
 refine u'<|g'<|n'<|n'<|A'<|yy (o' 3 aK' z z z) z<|yy (f' 4 sc3 z z z) z ?_
 obtain⟨y1,ah,hr⟩:=hr
 refine D' Zm z (t' E37 z) (Zbq _ _ _ _ _ _ _ _ _ _ _ ah) z ⟨Q,K,E,I⟩ ?_
 cases y1
 .refine yy (aj' z) z<|mv z z<|sn4 z<|yy (h' z z) z<|u'<|g'<|R' z<|n'<|A'<|aG' 6 #[.bool false] Zm sz4 z z z (by decide) z z<|u'<|g'<|j'<|a'<|WE.early ?_
  obtain rfl:_=r:=hr
  exact k' z (RV.cellS (i:=6) sc4 z z z) z
 obtain⟨y2,af,hr⟩:=hr
 refine yy (aj' z) z<|mv z z<|WL.y0' (v' z z) (o' 3 aK' z z z) z<|WL.y0' (v' z z) (e' z) z<|D' (v' z z) z (t' E37 z) (Zbq _ _ _ _ _ _ _ _ _ _ _ af) z ⟨Q,K,E,I⟩<|WL.y0' (v' z z) (aj' z) z<|yy (l' z z) z<|u'<|g'<|WC.cond (b:=!y2) z (fun j=>?_) (fun j=>?_)
 .replace hr:=hr.pos j
  refine n'<|A'<|aG' 6 #[.bool false] Zm sz4 z z z (by decide) z z<|u'<|g'<|j'<|a'<|WE.early ?_
  obtain rfl:_=r:=hr
  exact k' z (RV.cellS (i:=6) sc4 z z z) z
 replace hr:=hr.neg (Bool.eq_false_iff.1 j)
 obtain⟨⟨aB,y⟩,hr⟩:=hr
 obtain rfl:_=r:=hr
 obtain⟨v,rfl⟩:∃ v:Nat,b=v:=⟨b.toNat,by omega⟩
 rw[Int.toNat_natCast] at y ⊢
 refine q'<|g'<|n'<|n'<|A'<|yy (o' 3 aK' z z z) z<|mv z z<|P' Zm z (t' E42 z) (Zc6 h v L C O H P R J D) z ⟨Q,K,E,I⟩ (fun u G1 ax c=>?_)
 obtain⟨bv,bh,rfl,ae,U⟩:=c
 refine u'<|g'<|WC.rangeEnd (t:=21) (f:=57) z E57 (fun ac d M l ha B A X am V aa=>?_)
 let o:Lo:=[(8001,some ⟨M,.loop l,0⟩),(8002,some ⟨d,.deferred (some []),0⟩),(4,some ⟨b4,.cells #[i' a] 3 (0,0),0⟩),(6,some ⟨b6,.cells #[.bool false] 4 (0,0),0⟩)]
 let s:Int->Lo:=fun _=>[(8001,some ⟨M,.loop { l with state:=.done,pending:=some .ret },0⟩),(8002,some ⟨d,.deferred (some []),0⟩),(4,some ⟨b4,.cells #[i' a] 3 (0,0),0⟩),(6,some ⟨b6,.cells #[.bool true] 4 (0,0),0⟩)]
 have W:∀ i,9000<=i->o.get i=none:=fun i hi=>by simp only[o]; rw[Lo.Zi,if_neg (by omega),Lo.Zi,if_neg (by omega),Lo.Zi,if_neg (by omega),Lo.Zi,if_neg (by omega)]; rfl
 have ai:∀ x i,9000<=i->(s x).get i=none:=fun x i hi=>by simp only[s]; rw[Lo.Zi,if_neg (by omega),Lo.Zi,if_neg (by omega),Lo.Zi,if_neg (by omega),Lo.Zi,if_neg (by omega)]; rfl
 refine⟨_,o,_,lc z (lc z (lc z (lc z (Lo.Zs _)))),fun i _=>by rw[Y]; rfl,anc1 h v bv bh M o (fun x=>decide (x=a)) s (fun _=>True) (fun _ _ _ _=>trivial) W ai (Zmv y) (fun k hk=>?_),⟨ae,U,trivial⟩,fun G2 L2 u ar c=>?_⟩
 .refine YCtr.Zlp (N:=25) z B A am (by rw[X]; exact ha.round (by decide)) (fun aD G' aC _=>?_)
  refine Zjx V<|WCI.region Zih z (yy (Y0.assign z) z<|u' (fun a1 v1 Z aj=>⟨_,_,_,Z,aj,z,?_⟩))
  refine Zjx aa<|WCI.block<|WCI.seq<|WCI.region (Zef (Zdz ZdA)) z<|mv z z<|yy (f' 4 sc3 z z z) z<|yy (at' z z) z<|u'<|WCI.then<|WCI.condD (p:=(k:Int)=a) z (fun j=>?_) (fun j=>?_)
  .refine WCI.seq<|WCI.region (Zef (Zdz ZdA)) z<|aG' 6 #[.bool true] Zm sz4 z z z (by decide) z z<|u'<|WCI.then<|WCI.ret ?_
   exact fun S w2 _ e=>⟨_,_,s k,e,z,lc z (lc z (lc z (lc z (Lo.Zs _)))),.inr ⟨z,decide_eq_true j,z⟩⟩
  refine WCI.skip ?_
  exact fun S w2 _ e=>⟨_,_,o,e,z,lc z (lc z (lc z (lc z (Lo.Zs _)))),.inl ⟨z,decide_eq_false j,z⟩⟩
 obtain⟨n,_⟩:=c
 cases hf:(ancU (parV h) (othV h) v).find? (fun x=>decide (x=a)) with
 | none=>
  rw[hf] at n
  subst n
  have m:decide (a ∈ ancU (parV h) (othV h) v)=false:=decide_eq_false (fun hm=>by have:=List.find?_eq_none.1 hf a hm; simp at this)
  refine⟨l,z,by rw[B]; simp,.inl ⟨A,?_⟩⟩
  refine WLD.ys (YS.storeL 6 #[.bool false] sz4 z z z (by decide) z z) (WLD.nil (fun S w2 T e=>⟨z,z,RetD.of (a:=S) (rvs:=[.cell 6 4]) [.bool false] z z e T z (fun i rv v g q=>?_) ?_⟩))
  .match i with
   | 0=>simp at g q; subst g q; exact RV.cellS (i:=6) sc4 z z z
   | i+1=>simp at g
  show Value.bool false = .bool (decide _)
  rw[m]
 | some x=>
  rw[hf] at n
  subst n
  have h5:=List.mem_of_find?_eq_some hf
  have h6:x=a:=by simpa using List.find?_some hf
  rw[h6] at h5
  have m:decide (a ∈ ancU (parV h) (othV h) v)=true:=decide_eq_true h5
  refine⟨_,z,by simp,.inr ⟨z,fun w hs=>RetD.of (a:=ac) (rvs:=[.cell 6 4]) [.bool true] z z hs ha z (fun i rv v g q=>?_) ?_⟩⟩
  .match i with
   | 0=>simp at g q; subst g q; exact RV.cellS (i:=6) sc4 z z z
   | i+1=>simp at g
  show Value.bool true = .bool (decide _)
  rw[m]
theorem ZjB(h:Zf)(a b:Int)(E:Option Addr)(A:Nat)(F:Option Addr)(C:Nat)(H:Option Addr)(I:Nat)(D:Option Addr)(B:Nat)(r:Int×Int)(hr:(Zc2 h a b).Ret r):
  Ctr prog 13 #[.agg ((v34' h E A F C H I D B)).toArray,i' a,i' b] (fun G=>sl Rp.str G E A h.root.vars/\sl b' G F C h.root.eqs/\sl b' G H I h.root.neqs/\sl an' G D B h.v)
   (fun _ u=>u = .tuple #[i' r.1,i' r.2]):=by
 refine Ctr.enterM (args:=[_,_,_]) (N:=28) func13 z z z (fun w0 G0 ah V=>?_)
 obtain⟨Q,O,L,M⟩:=V
 refine n'<|A'<|ad' 3 Zm z z (fun b3=>ad' 5 Zm z z (fun b5=>T' 6 Zm z3 z (fun b6=>T' 7 Zm z36 z (fun b7=>?_))))
 refine u'<|g'<|n'<|n'<|A'<|yy (o' 3 aK' z z z) z<|mv z z ?_
 obtain⟨y1,U,hr⟩:=hr
 refine D' Zm z (t' E37 z) (Zbq _ _ _ _ _ _ _ _ _ _ _ U) z ⟨Q,O,L,M⟩ ?_
 cases y1
 .refine yy (aj' z) z<|mv z z<|sn4 z<|yy (h' z z) z<|u'<|g'<|R' z<|n'<|A'<|aG' 6 #[i' 0] Zm sz3 z z z (by decide) z z<|aG' 7 #[i' 340] Zm sz36 z z z (by decide) z z<|u'<|g'<|j'<|a'<|WE.early ?_
  obtain rfl:_=r:=hr
  exact aC' z (RV.cellS (i:=6) sc3 z z z) (RV.cellS (i:=7) sc36 z z z) z
 obtain⟨y2,K,hr⟩:=hr
 refine yy (aj' z) z<|mv z z<|WL.y0' (v' z z) (o' 3 aK' z z z) z<|WL.y0' (v' z z) (f' 5 sc3 z z z) z<|D' (v' z z) z (t' E37 z) (Zbq _ _ _ _ _ _ _ _ _ _ _ K) z ⟨Q,O,L,M⟩<|WL.y0' (v' z z) (aj' z) z<|yy (l' z z) z<|u'<|g'<|WC.cond (b:=!y2) z (fun n=>?_) (fun n=>?_)
 .replace hr:=hr.pos n
  refine n'<|A'<|aG' 6 #[i' 0] Zm sz3 z z z (by decide) z z<|aG' 7 #[i' 340] Zm sz36 z z z (by decide) z z<|u'<|g'<|j'<|a'<|WE.early ?_
  obtain rfl:_=r:=hr
  exact aC' z (RV.cellS (i:=6) sc3 z z z) (RV.cellS (i:=7) sc36 z z z) z
 replace hr:=hr.neg (Bool.eq_false_iff.1 n)
 obtain⟨⟨⟨aR,R⟩,aa,Y⟩,hr⟩:=hr
 obtain rfl:_=r:=hr
 obtain⟨v,rfl⟩:∃ v:Nat,a=v:=⟨a.toNat,by omega⟩
 rw[Int.toNat_natCast] at R ⊢
 refine q'<|g'<|n'<|n'<|A'<|yy (o' 3 aK' z z z) z<|mv z z<|P' Zm z (t' E42 z) (Zc6 h v E A F C H I D B) z ⟨Q,O,L,M⟩ (fun u G1 l j=>?_)
 obtain⟨bv,bh,rfl,am,ab⟩:=j
 refine u'<|g'<|WC.rangeEnd (t:=22) (f:=57) z E57 (fun ac d W o ha T S ag ax ad ak=>?_)
 let J:Lo:=[(8001,some ⟨W,.loop o,0⟩),(8002,some ⟨d,.deferred (some []),0⟩),(3,some ⟨b3,.cells ((v34' h E A F C H I D B)).toArray 34 (0,0),0⟩),(5,some ⟨b5,.cells #[i' b] 3 (0,0),0⟩),(6,some ⟨b6,.cells #[i' 0] 3 (0,0),0⟩),(7,some ⟨b7,.cells #[i' 0] 36 (0,0),0⟩)]
 let P:Int->Lo:=fun x=>[(8001,some ⟨W,.loop { o with state:=.done,pending:=some .ret },0⟩),(8002,some ⟨d,.deferred (some []),0⟩),(3,some ⟨b3,.cells ((v34' h E A F C H I D B)).toArray 34 (0,0),0⟩),(5,some ⟨b5,.cells #[i' b] 3 (0,0),0⟩),(6,some ⟨b6,.cells #[i' x] 3 (0,0),0⟩),(7,some ⟨b7,.cells #[i' 0] 36 (0,0),0⟩)]
 have af:∀ i,9000<=i->J.get i=none:=fun i hi=>by simp only[J]; rw[Lo.Zi,if_neg (by omega),Lo.Zi,if_neg (by omega),Lo.Zi,if_neg (by omega),Lo.Zi,if_neg (by omega),Lo.Zi,if_neg (by omega),Lo.Zi,if_neg (by omega)]; rfl
 have ao:∀ x i,9000<=i->(P x).get i=none:=fun x i hi=>by simp only[P]; rw[Lo.Zi,if_neg (by omega),Lo.Zi,if_neg (by omega),Lo.Zi,if_neg (by omega),Lo.Zi,if_neg (by omega),Lo.Zi,if_neg (by omega),Lo.Zi,if_neg (by omega)]; rfl
 refine⟨_,J,_,lc z (lc z (lc z (lc z (lc z (lc z (Lo.Zs _)))))),fun i _=>by rw[ah]; rfl,anc1 h v bv bh W J (fun x=>decide (x ∈ ancU (parV h) (othV h) b.toNat)) P (fun G=>sl Rp.str G E A h.root.vars/\sl b' G F C h.root.eqs/\sl b' G H I h.root.neqs/\sl an' G D B h.v) (fun _ _ s ⟨q1,q2,q3,q4⟩=>⟨q1.mono s,q2.mono s,q3.mono s,q4.mono s⟩) af ao (Zmv R) (fun k hk=>?_),⟨am,ab,Q.mono l,O.mono l,L.mono l,M.mono l⟩,fun G2 L2 u aE j=>?_⟩
 .have ar:(ZaQ h (k:Int) b).Ret (decide ((k:Int) ∈ ancU (parV h) (othV h) b.toNat)):=by
   obtain⟨q,ay⟩:=(⟨U,K⟩:(Zaf h v).Ret true/\_)
   refine⟨true,?_,y2,K,?_⟩
   .unfold Zaf at q ⊢
    rw[if_pos (by omega)] at q ⊢
    have e:decide ((v:Int)<(h.v.length:Int))=true:=q
    have g:=of_decide_eq_true e
    show decide _=true
    exact decide_eq_true (by omega)
   exact Cq.wp.no (Bool.eq_false_iff.1 n) ⟨⟨aa,Y⟩,z⟩
  refine YCtr.Zlp (N:=28) z T S ax (by rw[ag]; exact ha.round (by decide)) (fun aQ G' aP aj=>?_)
  obtain⟨g1,g2,g3,g4⟩:=aj
  refine Zjx ad<|WCI.region Zih z (yy (Y0.assign z) z<|u' (fun a1 v1 ai au=>⟨_,_,_,ai,au,z,?_⟩))
  refine Zjx ak<|WCI.block<|WCI.seq<|WCI.region (Zef (Zdz ZdA)) z<|yy (o' 3 aK' z z z) z<|mv z z<|yy (f' 5 sc3 z z z) z<|D' Zm z (t' E16 z) (ZbC _ _ _ _ _ _ _ _ _ _ _ _ ar) z ⟨g1,g2,g3,g4⟩<|u'<|WCI.then<|WCI.condD (p:=(k:Int) ∈ ancU (parV h) (othV h) b.toNat) z (fun n=>?_) (fun n=>?_)
  .refine WCI.seq<|WCI.region (Zef (Zdz ZdA)) z<|mv z z<|aG' 6 #[i' (k:Int)] Zm sz3 z z z (by decide) z z<|aG' 7 #[i' 0] Zm sz36 z z z (by decide) z z<|u'<|WCI.then<|WCI.ret ?_
   exact fun X w2 _ m=>⟨_,_,P k,m,z,lc z (lc z (lc z (lc z (lc z (lc z (Lo.Zs _)))))),.inr ⟨z,decide_eq_true n,z⟩⟩
  refine WCI.skip ?_
  exact fun X w2 _ m=>⟨_,_,J,m,z,lc z (lc z (lc z (lc z (lc z (lc z (Lo.Zs _)))))),.inl ⟨z,decide_eq_false n,z⟩⟩
 obtain⟨y,_⟩:=j
 cases hf:(ancU (parV h) (othV h) v).find? (fun x=>decide (x ∈ ancU (parV h) (othV h) b.toNat)) with
 | none=>
  rw[hf] at y
  subst y
  refine⟨o,z,by rw[T]; simp,.inl ⟨S,?_⟩⟩
  refine WLD.ys (YS.storeL 6 #[i' 0] sz3 z z z (by decide) z z) (WLD.ys (YS.storeL 7 #[i' 0] sz36 z z z (by decide) z z) (WLD.nil (fun X w2 Z m=>⟨z,z,RetD.of (a:=X) (rvs:=[.cell 6 3,.cell 7 36]) [i' 0,i' 0] z z m Z z (fun i rv v c g=>?_) z⟩)))
  match i with
  | 0=>simp at c g; subst c g; exact RV.cellS (i:=6) sc3 z z z
  | 1=>simp at c g; subst c g; exact RV.cellS (i:=7) sc36 z z z
  | i+2=>simp at c
 | some x=>
  rw[hf] at y
  subst y
  refine⟨_,z,by simp,.inr ⟨z,fun w hs=>RetD.of (a:=ac) (rvs:=[.cell 6 3,.cell 7 36]) [i' x,i' 0] z z hs ha z (fun i rv v c g=>?_) z⟩⟩
  match i with
  | 0=>simp at c g; subst c g; exact RV.cellS (i:=6) sc3 z z z
  | 1=>simp at c g; subst c g; exact RV.cellS (i:=7) sc36 z z z
  | i+2=>simp at c
theorem gw'{k d f j h c g r}(hr:(ZfP k).Ret r):Ctr prog 32 #[.agg ((v31' k d f j h c g)).toArray] (fun G=>sl Rp.str G d f k.vars/\sl b' G j h k.eqs/\sl b' G c g k.neqs) (w34t' r):=by
 refine E' (args:=[_]) (N:=12) func32 z z z (fun B D x p=>?_)
 obtain⟨m,o,l⟩:=p
 refine sr<|ad' 1 z z z fun E=>T' 2 z z34 z fun C=>sg z z<|nx<|n'<|sr<|yy (o' 1 ar' z z z) z ?_
 obtain⟨A,q,hr⟩:=hr
 refine D' z z (t' E44 z) (eo' q) z (⟨m,o,l⟩)<|yy (aj' z) z<|nx<|aL' hr z (fun u hr=>?_) (fun u hr=>?_)
 .refine sr<|yy (aw' (vs:=#[]) (v:=.agg ([.slice none 0 0,.slice none 0 0,.slice none 0 0,i' 0,.slice none 0 0]).toArray) z z (fun _=>by kernel_rfl)) z<|s' 2 z bU' z z z z z (List.all_eq_true.1 z)<|sg z z<|nx<|j'<|a' ?_
  obtain rfl:_=r:=hr
  exact aC' z (ac' (i:=2) aK' z z z) z ⟨_,_,_,_,_,_,_,_,z,(V' Rp.str _),(V' b' _),(V' b' _),(V' an' _)⟩
 refine q'<|g'<|sr<|yy (o' 1 ar' z z z) z<|yy (aw' (vs:=#[(0,i' (-1)),(1,i' (-1))]) (v:=.agg ([i' (-1),i' (-1),.slice none 0 0]).toArray) z z (fun _=>by kernel_rfl)) z<|bd' (e:=63) (r:=an') (vs:=#[(0,.agg ([i' (-1),i' (-1),.slice none 0 0]).toArray)]) (cs:=[i' (-1),i' (-1),.slice none 0 0]++([])) ([(Zh.mk (-1) (-1) [])]:List Zh) z z z z z (by decide) (fun _=>by kernel_rfl) ⟨[i' (-1),i' (-1),.slice none 0 0],[],z,⟨[i' (-1)],[i' (-1),.slice none 0 0],z,z,⟨[i' (-1)],[.slice none 0 0],z,z,⟨_,z,(V' _ _)⟩⟩⟩,z⟩ (key:=999) z (by rw[x]; rfl) fun s y n t=>yy (aw' (vs:=#[(0,.agg ((v31' k d f j h c g)).toArray),(1,.slice s 1 1)]) (v:=.agg ([.slice d k.vars.length f,.slice j k.eqs.length h,.slice c k.neqs.length g,i' k.next,.slice s 1 1]).toArray) z z (fun _=>by kernel_rfl)) z<|s' 2 z bU' z z z z z (List.all_eq_true.1 z)<|sg z z<|nx<|j' ?_
 obtain rfl:_=r:=hr
 exact aC' z (ac' (i:=2) aK' z z z) z ⟨_,_,_,_,_,_,_,_,z,(m.mono n),(o.mono n),(l.mono n),t⟩
theorem cU'{g k j m l d f t s r}(hr:(Zaj g).Ret r):Ctr prog 18 #[.agg ((v34' g k j m l d f t s)).toArray] (fun G=>sl Rp.str G k j g.root.vars/\sl b' G m l g.root.eqs/\sl b' G d f g.root.neqs/\sl an' G t s g.v) (fun G v=>v = .bool r):=by
 refine E' (args:=[_]) (N:=102) func18 z z z (fun w0 G0 bB aP=>?_)
 obtain⟨P,S,Q,D⟩:=aP
 refine sr<|ad' 1 z z z fun b1=>sg z z<|nx<|aM' (fun (F:Mem)=>match F with|W=>[(1,.pointer (some ⟨b1,0,none⟩))]) (fun (F:Mem)=>match F with|W=>Mem.le G0 W/\(ZeV g).Ret r) (fun (F:Mem)=>match F with|W=>St w0 G0 W [(1,some ⟨b1,.cells ((v34' g k j m l d f t s)).toArray 34 (0,0),0⟩)]) ?_ ?_
 .refine sr<|yy (dc' z) z<|yy (aH' ((v31' g.root k j m l d f)).toArray 1 ar' z z z (aT' ([]) ((v31' g.root k j m l d f)) ([.slice t g.v.length s]))) z ?_
  obtain⟨bl,aT,hr⟩:=hr
  refine D' z z (t' E44 z) (eo' aT) z (⟨P,S,Q⟩) ?_
  cases bl
  .refine yy (aj' z) z<|mv z z<|sn4 z<|yy (h' z z) z<|mv z z<|sn4 z<|yy (h' z z) z<|nx<|R' z<|sr<|sg z z<|nx<|j'<|a' ?_
   obtain rfl:_=r:=hr
   exact k' z z z
  refine yy (aj' z) z<|mv z z<|gy z z (as' z) z<|gy z z (f' 1 bk' z z z) z<|gy z z (M' K' D z) z<|aa' hr (v' z z) (ag' z z) z (fun a4 hr=>?_) (fun a4 hr=>?_)
  .refine yy (l' z z) z<|mv z z<|sn4 z<|yy (h' z z) z<|nx<|R' z<|sr<|sg z z<|nx<|j'<|a' ?_
   obtain rfl:_=r:=hr
   exact k' z z z
  refine yy (l' z z) z<|mv z z<|gy z z (as' z) z<|gy z z (f' 1 bk' z z z) z<|gy z z (M' K' D z) z<|gy z z (bh' z z) z<|yy (l' z z) z<|nx<|L' hr z (fun bd hr=>?_) (fun bd hr=>?_)
  .refine sr<|sg z z<|nx<|j'<|a' ?_
   obtain rfl:_=r:=hr
   exact k' z z z
  refine q'<|ap' G0 ⟨mr,hr⟩ (f1 z) (w1 z)
 rintro W ⟨K,hr⟩
 refine sr<|yy (as' z) z<|yy (f' 1 bk' z z z) z<|yy (M' K' (D.mono K) z) z ?_
 obtain⟨be,hr⟩:=hr
 refine dP' (r:=aP') (e:=31) (n:=(g.v.length:Int)) (zx:=(Za.mk [] [] [] 0)) 4028 z z cE' el31 z (by decide) (by decide) ⟨[.slice none 0 0],[.slice none 0 0,.slice none 0 0,i' 0],z,⟨_,z,(V' _ _)⟩,⟨[.slice none 0 0],[.slice none 0 0,i' 0],z,⟨_,z,(V' _ _)⟩,⟨[.slice none 0 0],[i' 0],z,⟨_,z,(V' _ _)⟩,z⟩⟩⟩ z z be fun p1 aS a3=>sg z z<|nx<|n'<|sr<|yy (as' z) z<|yy (f' 1 bk' z z z) z<|yy (M' K' (D.mono K) z) z<|mv z z<|nx<|ak' (fun (F:Mem)=>match F with|aa=>[]) (fun (F:Mem)=>match F with|aa=>Mem.le W aa/\(Zco).Ret r) (fun (F:Mem)=>match F with|aa=>St w0 G0 aa []) ?_ ?_
 .refine C' ?_
  let ak:(Bool⊕Unit)->Prop:=fun oo=>((fun ov=>match ov with | .inl rv1=>Cq.ret rv1 | .inr ()=>Zco:(Bool⊕Unit)->Cq Bool) oo).wp (fun a=>a=r)
  replace hr:(Cq.loop _ _).wp ak:=hr
  refine al' (Φ:=ak) (fun (⟨J,A,p,U⟩:(List Za)×Option Ow×Int×Mem)=>((J,p):(List Za)×Int)) (fun ⟨J,A,p,U⟩=>[(1,.pointer (some ⟨b1,0,none⟩)),(3,.slice p1 (g.v.length:Int).toNat ((g.v.length:Int).toNat)),(30,.slice t g.v.length s),(31,i' (g.v.length:Int)),(32,i' p)]) (fun ⟨J,A,p,U⟩=>Mem.le W U/\RowR aP' 31 U (.slice p1 (g.v.length:Int).toNat ((g.v.length:Int).toNat)) J A) (fun ⟨J,A,p,U⟩=>St w0 G0 U [(1,some ⟨b1,.cells ((v34' g k j m l d f t s)).toArray 34 (0,0),0⟩),(4028,A)]) ⟨(List.replicate (g.v.length:Int).toNat (Za.mk [] [] [] 0)),aS,0,W⟩ hr (f5 z z z z z) ⟨mr,a3⟩ (w2 z z) ?_
  .intro a9 F hx hr
   obtain⟨J,A,p,U⟩:=F
   obtain⟨B,I⟩:=hx
   refine sr<|yy (ag' z z) z<|nx<|n'<|L' hr z (fun bo hr=>?_) (fun bo hr=>?_)
   .refine q'<|g'<|n'<|C'<|sr<|mv z z ?_
    obtain⟨x1,aI,hr⟩:=hr
    refine yy (Q' K' cn' (D.mono (mt K B)) z z aI) z ?_
    obtain⟨aM,aN,a7,ai⟩:=cK' (H' (ab' D aI) (mt K B))
    refine yy (aA' _ ag63 z z a7) z<|T' 5 z z63 z fun b2=>sg z z<|s' 5 z cn' z z z z z (List.all_eq_true.1 z)<|nx<|n'<|sr<|mv z z<|yy (at' z z) z<|nx<|L' hr z (fun bm hr=>?_) (fun bm hr=>?_)
    .refine n'<|sr<|yy (bX' z) z<|yy (f' 5 sc3 z z z) z<|aa' hr z (av' z z) z (fun a1 hr=>?_) (fun a1 hr=>?_)
     .refine mv z z<|sn3 z<|yy (h' z z) z<|mv z z<|sn4 z<|yy (h' z z) z<|nx<|R' z<|sr<|sg z z<|nx<|j'<|a'<|a'<|m'<|a'<|a'<|m'<|ae'<|a' ?_
      obtain rfl:_=r:=hr
      exact k' z z z
     refine mv z z<|gy z z (cF' z) z<|gy z z (f' 5 sc3 z z z) z<|aa' hr (v' z z) (av' z z) z (fun br hr=>?_) (fun br hr=>?_)
     .refine yy (l' z z) z<|mv z z<|sn4 z<|yy (h' z z) z<|nx<|R' z<|sr<|sg z z<|nx<|j'<|a'<|a'<|m'<|a'<|a'<|m'<|ae'<|a' ?_
      obtain rfl:_=r:=hr
      exact k' z z z
     refine yy (l' z z) z<|mv z z<|gy z z (bY' z) z<|gy z z (f' 5 sc44 z z z) z<|gy z z (M' au' ai z) z<|gy z z (bh' z z) z<|yy (l' z z) z<|nx<|L' hr z (fun bf hr=>?_) (fun bf hr=>?_)
     .refine sr<|sg z z<|nx<|j'<|a'<|a'<|m'<|a'<|a'<|m'<|ae'<|a' ?_
      obtain rfl:_=r:=hr
      exact k' z z z
     refine q'<|g'<|sr<|mv z z<|yy (dc' z) z<|yy (aH' ((v31' g.root k j m l d f)).toArray 1 ar' z z z (aT' ([]) ((v31' g.root k j m l d f)) ([.slice t g.v.length s]))) z ?_
     obtain⟨x2,aJ,hr⟩:=hr
     refine yy (ba' cE' aU' I z z aJ) z<|bv' (r:=aP') (e:=31) (cs':=(v31' g.root k j m l d f)) (i:=0) (z':=g.root) 4028 z aU' z I z z z z ⟨[.slice k g.root.vars.length j],[.slice m g.root.eqs.length l,.slice d g.root.neqs.length f,i' g.root.next],z,⟨_,z,(P.mono (mt K B))⟩,⟨[.slice m g.root.eqs.length l],[.slice d g.root.neqs.length f,i' g.root.next],z,⟨_,z,(S.mono (mt K B))⟩,⟨[.slice d g.root.neqs.length f],[i' g.root.next],z,⟨_,z,(Q.mono (mt K B))⟩,z⟩⟩⟩ aJ fun a8 aW=>nx<|am'<|r'<|O'<|g'<|A'<|yy (W' z z) z<|mv z z<|u'<|X' ⟨(J.set (0:Int).toNat g.root),a8,i64.wrap (p+1),U⟩ hr ⟨B,aW⟩ (f5 z z z z z) (w2 z z)
    refine q'<|g'<|aM' (fun (F:Mem)=>match F with|af=>[(1,.pointer (some ⟨b1,0,none⟩)),(3,.slice p1 (g.v.length:Int).toNat ((g.v.length:Int).toNat)),(4,i' p),(5,.pointer (some ⟨b2,0,none⟩)),(30,.slice t g.v.length s),(31,i' (g.v.length:Int)),(32,i' p)]) (fun (F:Mem)=>match F with|af=>Mem.le U af/\(ZeU J p x1).wp (Out a9 ak)) (fun (F:Mem)=>match F with|af=>St w0 G0 af [(1,some ⟨b1,.cells ((v34' g k j m l d f t s)).toArray 34 (0,0),0⟩),(5,some ⟨b2,.cells ((v63' x1 aM aN)).toArray 63 (0,0),0⟩),(4028,A)]) ?_ ?_
    .refine sr<|yy (bX' z) z<|yy (f' 5 sc3 z z z) z<|aa' hr z (ag' z z) z (fun bs hr=>?_) (fun bs hr=>?_)
     .refine mv z z<|sn4 z<|yy (h' z z) z<|mv z z<|sn3 z<|yy (h' z z) z<|mv z z<|sn4 z<|yy (h' z z) z<|mv z z<|sn4 z<|yy (h' z z) z<|nx<|R' z<|sr<|sg z z<|nx<|j'<|a'<|m'<|a'<|a'<|m'<|ae'<|a' ?_
      obtain rfl:_=r:=hr
      exact k' z z z
     refine mv z z<|gy z z (bX' z) z<|gy z z (f' 5 sc3 z z z) z<|gy z z (e' z) z<|aa' hr (v' z z) (be' z z) z (fun a6 hr=>?_) (fun a6 hr=>?_)
     .refine yy (l' z z) z<|mv z z<|sn3 z<|yy (h' z z) z<|mv z z<|sn4 z<|yy (h' z z) z<|mv z z<|sn4 z<|yy (h' z z) z<|nx<|R' z<|sr<|sg z z<|nx<|j'<|a'<|m'<|a'<|a'<|m'<|ae'<|a' ?_
      obtain rfl:_=r:=hr
      exact k' z z z
     refine yy (l' z z) z<|mv z z<|gy z z (cF' z) z<|gy z z (f' 5 sc3 z z z) z<|aa' hr (v' z z) (ag' z z) z (fun bi hr=>?_) (fun bi hr=>?_)
     .refine yy (l' z z) z<|mv z z<|sn4 z<|yy (h' z z) z<|mv z z<|sn4 z<|yy (h' z z) z<|nx<|R' z<|sr<|sg z z<|nx<|j'<|a'<|m'<|a'<|a'<|m'<|ae'<|a' ?_
      obtain rfl:_=r:=hr
      exact k' z z z
     refine yy (l' z z) z<|mv z z<|gy z z (cF' z) z<|gy z z (f' 5 sc3 z z z) z<|gy z z (e' z) z<|aa' hr (v' z z) (be' z z) z (fun bj hr=>?_) (fun bj hr=>?_)
     .refine yy (l' z z) z<|mv z z<|sn4 z<|yy (h' z z) z<|nx<|R' z<|sr<|sg z z<|nx<|j'<|a'<|m'<|a'<|a'<|m'<|ae'<|a' ?_
      obtain rfl:_=r:=hr
      exact k' z z z
     refine yy (l' z z) z<|mv z z<|gy z z (bY' z) z<|gy z z (f' 5 sc44 z z z) z<|gy z z (M' au' ai z) z<|gy z z (bh' z z) z<|yy (l' z z) z<|nx<|L' hr z (fun ba hr=>?_) (fun ba hr=>?_)
     .refine sr<|sg z z<|nx<|j'<|a'<|m'<|a'<|a'<|m'<|ae'<|a' ?_
      obtain rfl:_=r:=hr
      exact k' z z z
     refine q'<|ap' U ⟨mr,hr⟩ (f7 z z z z z z z) (w3 z z z)
    rintro af ⟨E,hr⟩
    refine n'<|ah' [ff,ff,ff,ff,ff,ff,ff,ff,ff,ff,tt,tt,ff] mix (by kernel_rfl) fun hb=>cn (fun _ o=>e' z)<|cn (fun _ o=>bX' z)<|cn (fun _ o=>f' 5 sc3 z z z) ?_
    obtain⟨x3,aL,hr⟩:=hr
    refine cn (fun _ o=>ba' cE' aU' ((I.mono E).mono o) z z aL) ?_
    obtain⟨aZ,a0,bn,bc,aY,aX,a5,ao,aB,an⟩:=cV' (AtK.mono (cS' I aL) E)
    refine cn (fun _ o=>ew' _ ar' ((I.mono E).mono o) (key:=4028) z z z (by decide) a5)<|cn (fun _ o=>bY' z)<|cn (fun _ o=>f' 5 sc44 z z z) ?_
    obtain⟨q,aQ,hr⟩:=hr
    refine aW' (post:=w31u' q) (fun _=>z) (fun _ _=>t' E39 z) (eU' aQ) z (fun G' o=>⟨(ao.mono o),(aB.mono o),(an.mono o),((ai.mono E).mono o)⟩) (fun v G1 G2 o h=>?_) ?_
    .obtain⟨H,M,T,R,L,O,rfl,y,C,x⟩:=h
     exact⟨_,_,_,_,_,_,z,y.mono o,C.mono o,x.mono o⟩
    refine bm' (φ:=w31u' q) (fun _=>z) (fun v G1 G2 o h=>?_) (fun u G' o hu=>?_) ?_
    .obtain⟨p2,ac,p3,ad,p4,ab,rfl,Z,X,Y⟩:=h
     exact⟨_,_,_,_,_,_,z,Z.mono o,X.mono o,Y.mono o⟩
    .obtain⟨⟨H,M,T,R,L,O,aH,y,C,x⟩,_⟩:=(show (w31u' q) G'.m (u 91)/\True from hu)
     simp only[undFr,aH]
     exact⟨_,e' z,H,M,T,R,L,O,z,y,C,x⟩
    refine bm' (φ:=w31' q.1) (fun _=>z) (fun v G1 G2 o h=>?_) (fun u G' o hu=>?_) ?_
    .obtain⟨p5,aC,p6,am,p7,ae,rfl,av,aE,az⟩:=h
     exact⟨_,_,_,_,_,_,z,av.mono o,aE.mono o,az.mono o⟩
    .obtain⟨⟨p2,ac,p3,ad,p4,ab,V,Z,X,Y⟩,_,_⟩:=(show (w31u' q) G'.m (u 83)/\True/\True from hu)
     simp only[undFr,V]
     exact⟨_,y' z z,p2,ac,p3,ad,p4,ab,z,Z,X,Y⟩
    refine bu' (c:=i' q.2.1) (fun _=>z) (fun u G' o hu=>?_) ?_
    .obtain⟨_,⟨p2,ac,p3,ad,p4,ab,V,Z,X,Y⟩,_,_⟩:=(show True/\(w31u' q) G'.m (u 83)/\True/\True from hu)
     simp only[undFr,V]
     exact y' z z
    refine bu' (c:=i' q.2.2) (fun _=>z) (fun u G' o hu=>?_) ?_
    .obtain⟨_,⟨p2,ac,p3,ad,p4,ab,V,Z,X,Y⟩,_,_⟩:=(show True/\(w31u' q) G'.m (u 83)/\True/\True from hu)
     simp only[undFr,V]
     exact y' z z
    refine bD' (fun _=>z) z31<|cC' (fun bC bu bA bz X1 aj aF au aq ar=>?_)
    obtain⟨b3,rfl,aO⟩:=aF
    obtain⟨p5,aC,p6,am,p7,ae,rfl,av,aE,az⟩:=au
    obtain⟨p2,ac,p3,ad,p4,ab,rfl,Z,X,Y⟩:=aq
    obtain⟨H,M,T,R,L,O,rfl,y,C,x⟩:=ar
    refine cq' aO (cj' (show WL _ _ _ _ _ _ (St w0 G0 X1.m _) from ?_))
    refine s' 6 z aU' z z z z z (List.all_eq_true.1 z)<|sg z z<|sg z z<|u'<|aq'<|g'<|n'<|sr<|mv z z<|yy (av' z z) z<|nx<|L' hr z (fun bb hr=>?_) (fun bb hr=>?_)
    .refine sr<|sg z z<|nx<|j'<|a'<|m'<|a'<|a'<|m'<|ae'<|a' ?_
     obtain rfl:_=r:=hr
     exact k' z z z
    refine q'<|g'<|A'<|mv z z<|mv z z<|yy (o' 6 ar' z z z) z ?_
    obtain⟨x4,aK,hr⟩:=hr
    refine yy (ba' cE' aU' (I.mono (mt E aj)) z z aK) z<|bv' (r:=aP') (e:=31) (cs':=(v31' q.1 p5 aC p6 am p7 ae)) (i:=p) (z':=q.1) 4028 z aU' z (I.mono (mt E aj)) z z z z ⟨[.slice p5 q.1.vars.length aC],[.slice p6 q.1.eqs.length am,.slice p7 q.1.neqs.length ae,i' q.1.next],z,⟨_,z,av⟩,⟨[.slice p6 q.1.eqs.length am],[.slice p7 q.1.neqs.length ae,i' q.1.next],z,⟨_,z,aE⟩,⟨[.slice p7 q.1.neqs.length ae],[i' q.1.next],z,⟨_,z,az⟩,z⟩⟩⟩ aK fun bp aU=>u'<|J'<|g'<|A'<|yy (W' z z) z<|mv z z<|u'<|X' ⟨(J.set p.toNat q.1),bp,i64.wrap (p+1),X1.m⟩ hr ⟨(mt (mt B E) aj),aU⟩ (f5 z z z z z) (w2 z z)
   refine am'<|r'<|r'<|O'<|ao' U ⟨B,hr⟩ fn (wk ln)
 rintro aa ⟨bt,hr⟩
 refine g'<|sr<|sg z z<|nx<|j' ?_
 obtain rfl:_=r:=hr
 exact k' z z z
theorem fF'{c r}(hr:(Zhl c).Ret r):Ctr prog 33 #[.string c] (fun G=>True) (wl' af' r):=by
 refine E' (args:=[_]) (N:=6) func33 z z z fun j k d h=>sr<|sg z z<|nr<|mv z z<|yy (aw' (vs:=#[(0,i' 1),(1,.string c)]) (v:=.agg ([i' 1,.string c,i' 0,i' 0,i' 0,.slice none 0 0,.bool false]).toArray) z z (fun _=>by kernel_rfl)) z<|bd' (e:=48) (r:=af') (vs:=#[(0,.agg ([i' 1,.string c,i' 0,i' 0,i' 0,.slice none 0 0,.bool false]).toArray)]) (cs:=[i' 1,.string c,i' 0,i' 0,i' 0,.slice none 0 0,.bool false]++([])) ([(Zc.mk 1 c 0 0 0 [] false)]:List Zc) z z z z z (by decide) (fun _=>by kernel_rfl) ⟨[i' 1,.string c,i' 0,i' 0,i' 0,.slice none 0 0,.bool false],[],z,⟨[i' 1],[.string c,i' 0,i' 0,i' 0,.slice none 0 0,.bool false],z,z,⟨[.string c],[i' 0,i' 0,i' 0,.slice none 0 0,.bool false],z,z,⟨[i' 0],[i' 0,i' 0,.slice none 0 0,.bool false],z,z,⟨[i' 0],[i' 0,.slice none 0 0,.bool false],z,z,⟨[i' 0],[.slice none 0 0,.bool false],z,z,⟨[.slice none 0 0],[.bool false],z,⟨_,z,(V' _ _)⟩,z⟩⟩⟩⟩⟩⟩,z⟩ (key:=999) z (by rw[d]; rfl) fun l i g f=>sg z z<|nx<|j' ?_
 obtain rfl:_=r:=hr
 exact k' z z ⟨_,_,z,f⟩
theorem bF'{j O h g f e d c o p r}(hr:(Zas j O).Ret r):Ctr prog 11 #[.agg ((v34' j h g f e d c o p)).toArray,i' O] (fun G=>sl Rp.str G h g j.root.vars/\sl b' G f e j.root.eqs/\sl b' G d c j.root.neqs/\sl an' G o p j.v) (w31t' r):=by
 refine E' (args:=[_,_]) (N:=16) func11 z z z (fun w0 G0 A B=>?_)
 obtain⟨l,m,k,t⟩:=B
 refine sr<|ad' 102202 z z z fun S=>T' 4 z z31 z fun b2=>sg z z<|nx<|n'<|sr<|yy (o' 102202 aK' z z z) z<|mv z z ?_
 obtain⟨X,D,hr⟩:=hr
 refine D' z z (t' E37 z) (Zbq _ _ _ _ _ _ _ _ _ _ _ D) z (⟨l,m,k,t⟩)<|yy (aj' z) z<|nx<|aL' hr z (fun P hr=>?_) (fun P hr=>?_)
 .refine sr<|yy (aw' (vs:=#[]) (v:=.agg ([.slice none 0 0,.slice none 0 0,.slice none 0 0,i' 0]).toArray) z z (fun _=>by kernel_rfl)) z<|s' 4 z aU' z z z z z (List.all_eq_true.1 z)<|sg z z<|nx<|j'<|a' ?_
  obtain rfl:_=r:=hr
  exact aC' z (ac' (i:=4) ar' z z z) z ⟨_,_,_,_,_,_,z,(V' Rp.str _),(V' b' _),(V' b' _)⟩
 refine q'<|g'<|sr<|T' 102206 z z87 z fun T=>nr<|yy (bO' z z) z<|aG' 102206 ([.func (.func 38) #[] #[.pointer (some ⟨S,0,none⟩),.pointer (some ⟨T,0,none⟩)]]).toArray z sz87 z z z (by first|decide|simp) z z<|nx<|n'<|bC' 102202 z (by rw[A]; rfl) fun W n I U=>bC' 102206 z (by rw[A]; rfl) fun aa y J R=>A'<|yy (f' 102206 sc87 z z z) z<|mv z z ?_
 obtain⟨Y,C,hr⟩:=hr
 refine P' z z (dh' E38 z z) (ga' j _ _ _ _ _ C) z ⟨(H' (ch' (r:=Za8) (cs:=(v34' j h g f e d c o p)) I z ⟨(v31' j.root h g f e d c),[.slice o j.v.length p],z,⟨[.slice h j.root.vars.length g],[.slice f j.root.eqs.length e,.slice d j.root.neqs.length c,i' j.root.next],z,⟨_,z,(l.mono n)⟩,⟨[.slice f j.root.eqs.length e],[.slice d j.root.neqs.length c,i' j.root.next],z,⟨_,z,(m.mono n)⟩,⟨[.slice d j.root.neqs.length c],[i' j.root.next],z,⟨_,z,(k.mono n)⟩,z⟩⟩⟩,⟨_,z,(t.mono n)⟩⟩) y),(J 0 _ z)⟩ (fun V Z Q u=>?_)
 obtain⟨K,E,M,L,F,H,rfl,s,x,q⟩:=u
 refine s' 4 z aU' z z z z z (List.all_eq_true.1 z)<|sg z z<|nx<|j' ?_
 obtain rfl:_=r:=hr
 exact aC' z (ac' (i:=4) ar' z z z) z ⟨_,_,_,_,_,_,z,s,x,q⟩
theorem dY'{l c f r}(hr:(Zah l).Ret r):Ctr prog 47 #[.slice c l.length f] (fun G=>sl af' G c f l) (wl' af' r):=by
 refine E' (args:=[_]) (N:=8) func47 z z z (fun x y h j=>?_)
 have i:=j
 refine sr<|sg z z<|nx<|n'<|sr<|mv z z<|yy (Y0.eqlNil au' z z) z<|nx<|dA' (p:=c=none) z (fun g=>?_) (fun g=>?_)
 .replace hr:=hr.1 (SlR.Zji i g)
  refine sr<|sg z z<|nx<|j'<|a' ?_
  obtain rfl:_=r:=hr
  exact k' z z ⟨_,_,z,(V' af' _)⟩
 replace hr:=hr.2
 refine q'<|g'<|sr<|bd' (e:=48) (r:=af') (vs:=#[]) (cs:=[]) ([]:List Zc) z z z z z (by decide) (fun _=>by kernel_rfl) (z) (key:=999) z (by rw[h]; rfl) fun A v d n=>mv z z ?_
 obtain⟨k,hr⟩:=hr
 refine bS' (r:=af') 2007 z z au' el48 z (by decide) z z n z (by rw[h]; rfl) dg' (i.mono d) k fun B t q u o m s=>sg z z<|nx<|j' ?_
 obtain rfl:_=r:=hr
 exact k' z z ⟨_,_,z,m⟩
theorem dJ'{o c f r}(hr:(Z0 o).Ret r):CtrL prog 48 #[.slice c o.length f] [] (fun G=>sl an' G c f o) (fun G L v=>∃ t y g,L=[(7000,g)]/\v = .slice t r.length y/\RowR an' 63 G (.slice t r.length y) r g):=by
 refine bf' (args:=[_]) (N:=8) func48 z z z (fun s d A l=>?_)
 have k:=l
 refine sr<|sg z z<|nx<|n'<|sr<|mv z z<|yy (Y0.eqlNil K' z z) z<|nx<|dA' (p:=c=none) z (fun h=>?_) (fun h=>?_)
 .replace hr:=hr.1 (SlR.Zji k h)
  refine sr<|sg z z<|nx<|j'<|a' ?_
  obtain rfl:_=r:=hr
  refine aJ' (S':=St s d d [(7000,none)]) (wk (lw ln))<|k' z z ⟨_,_,_,z,z,(RowR.nil (r:=an') (e:=63))⟩
 replace hr:=hr.2
 refine q'<|g'<|sr<|WL.litT (e:=63) (r:=an') (vs:=#[]) (cs:=[]) ([]:List Zh) 4005 z z z z z (by decide) (fun _=>by kernel_rfl) (z) fun D B x=>mv z z ?_
 obtain⟨n,hr⟩:=hr
 refine cx' (r:=an') (e:=63) 4005 z z K' el63 z (by decide) z z x z k n fun E C m u=>sg z z<|nx<|j' ?_
 obtain rfl:_=r:=hr
 refine aJ' (S':=St s d d [(7000,m)]) ?_ ?_
 .intro w q
  have q:=q.rekey (i:=4005) (j:=7000) z (by rw[A]; rfl)
  exact q.weaken (lc z ln)
 exact k' z z ⟨_,_,_,z,z,u⟩
theorem cb'{x B l1 d g l k j c O P av aq r}(hr:(ZaE x B l1).Ret r):Ctr prog 20 #[.agg ((v34' x d g l k j c O P)).toArray,i' B,.slice av l1.length aq] (fun G=>sl Rp.str G d g x.root.vars/\sl b' G l k x.root.eqs/\sl b' G j c x.root.neqs/\sl an' G O P x.v/\sl af' G av aq l1) (w34u' r):=by
 refine E' (args:=[_,_,_]) (N:=62) func20 z z z (fun w0 G0 bk aR=>?_)
 obtain⟨D,H,E,U,am⟩:=aR
 refine sr<|ad' 3 z z z fun b1=>T' 6 z z34 z fun b2=>sg z z<|sg z z<|nr<|yy (o' 3 aK' z z z) z<|mv z z ?_
 obtain⟨aM,aS,hr⟩:=hr
 refine P' z z (t' E11 z) (bF' aS) z (⟨D,H,E,U⟩) (fun bi aP A ah=>?_)
 obtain⟨X,Z,ad,ac,Y,aa,rfl,W,ab,V⟩:=ah
 refine mv z z<|yy (y' z z) z<|yy (y' z z) z<|T' 9 z z31 z fun b3=>s' 9 z aU' z z z z z (List.all_eq_true.1 z)<|sg z z<|nx<|n'<|sr<|mv z z<|yy (av' z z) z<|nx<|L' hr z (fun a8 hr=>?_) (fun a8 hr=>?_)
 .refine sr<|yy (aw' (vs:=#[]) (v:=.agg ([.slice none 0 0,.slice none 0 0,.slice none 0 0,i' 0,.slice none 0 0]).toArray) z z (fun _=>by kernel_rfl)) z<|mv z z<|s' 6 z bU' z z z z z (List.all_eq_true.1 z)<|sg z z<|sg z z<|nx<|j'<|a' ?_
  obtain rfl:_=r:=hr
  exact cT' z (ac' (i:=6) aK' z z z) z z ⟨_,_,_,_,_,_,_,_,z,(V' Rp.str _),(V' b' _),(V' b' _),(V' an' _)⟩
 refine q'<|g'<|aM' (fun (⟨T,p,n,s,q,o,m,L,M,S⟩:Zf×Option Addr×Nat×Option Addr×Nat×Option Addr×Nat×Option Addr×Nat×Mem)=>[(1,i' B),(2,.slice av l1.length aq),(3,.pointer (some ⟨b1,0,none⟩)),(6,.pointer (some ⟨b2,0,none⟩)),(9,.pointer (some ⟨b3,0,none⟩))]) (fun ⟨T,p,n,s,q,o,m,L,M,S⟩=>Mem.le aP S/\sl Rp.str S p n T.root.vars/\sl b' S s q T.root.eqs/\sl b' S o m T.root.neqs/\sl an' S L M T.v/\(Zd5 x B l1 aM).Ret r) (fun ⟨T,p,n,s,q,o,m,L,M,S⟩=>St w0 G0 S [(3,some ⟨b1,.cells ((v34' x d g l k j c O P)).toArray 34 (0,0),0⟩),(6,some ⟨b2,.cells ((v34' T p n s q o m L M)).toArray 34 (0,0),0⟩),(9,some ⟨b3,.cells ((v31' aM.1 X Z ad ac Y aa)).toArray 31 (0,0),0⟩)]) ?_ ?_
 .refine sr<|yy (as' z) z<|yy (f' 3 bk' z z z) z<|yy (M' K' (U.mono A) z) z<|aa' hr z (be' z z) z (fun a1 hr=>?_) (fun a1 hr=>?_)
  .refine mv z z<|sn3 z<|yy (h' z z) z<|nx<|R' z<|sr<|yy (aw' (vs:=#[]) (v:=.agg ([.slice none 0 0,.slice none 0 0,.slice none 0 0,i' 0,.slice none 0 0]).toArray) z z (fun _=>by kernel_rfl)) z<|s' 6 z bU' z z z z z (List.all_eq_true.1 z)<|sg z z<|sg z z<|nx<|j'<|a' ?_
   obtain rfl:_=r:=hr
   exact cT' z (ac' (i:=6) aK' z z z) z z ⟨_,_,_,_,_,_,_,_,z,(V' Rp.str _),(V' b' _),(V' b' _),(V' an' _)⟩
  refine mv z z<|gy z z (e' z) z<|gy z z (M' au' (am.mono A) z) z<|gy z z (bh' z z) z<|yy (l' z z) z<|nx<|L' hr z (fun a3 hr=>?_) (fun a3 hr=>?_)
  .refine sr<|yy (aw' (vs:=#[]) (v:=.agg ([.slice none 0 0,.slice none 0 0,.slice none 0 0,i' 0,.slice none 0 0]).toArray) z z (fun _=>by kernel_rfl)) z<|s' 6 z bU' z z z z z (List.all_eq_true.1 z)<|sg z z<|sg z z<|nx<|j'<|a' ?_
   obtain rfl:_=r:=hr
   exact cT' z (ac' (i:=6) aK' z z z) z z ⟨_,_,_,_,_,_,_,_,z,(V' Rp.str _),(V' b' _),(V' b' _),(V' an' _)⟩
  refine q'<|ap' ⟨(Zf.mk (Za.mk [] [] [] 0) []),none,0,none,0,none,0,none,0,aP⟩ ⟨mr,(V' _ _),(V' _ _),(V' _ _),(V' _ _),hr⟩ (f5 z z z z z) (w3 z z z)
 rintro⟨T,p,n,s,q,o,m,L,M,S⟩ ⟨t,au,az,ax,ba,hr⟩
 refine n'<|sr<|yy (o' 9 ar' z z z) z<|mv z z ?_
 obtain⟨bl,aQ,hr⟩:=hr
 refine P' z z (t' E39 z) (eU' aQ) z (⟨(W.mono t),(ab.mono t),(V.mono t),(am.mono (mt A t))⟩) (fun bj bm F ag=>?_)
 obtain⟨aI,aJ,aL,aO,aA,aC,rfl,aF,aN,aD⟩:=ag
 refine mv z z<|yy (y' z z) z<|yy (y' z z) z<|yy (y' z z) z<|T' 11 z z31 z fun b4=>s' 11 z aU' z z z z z (List.all_eq_true.1 z)<|sg z z<|sg z z<|nr<|mv z z<|yy (av' z z) z<|nx<|L' hr z (fun a7 hr=>?_) (fun a7 hr=>?_)
 .refine sr<|yy (aw' (vs:=#[]) (v:=.agg ([.slice none 0 0,.slice none 0 0,.slice none 0 0,i' 0,.slice none 0 0]).toArray) z z (fun _=>by kernel_rfl)) z<|mv z z<|s' 6 z bU' z z z z z (List.all_eq_true.1 z)<|sg z z<|sg z z<|nx<|j'<|a' ?_
  obtain rfl:_=r:=hr
  exact cT' z (ac' (i:=6) aK' z z z) z z ⟨_,_,_,_,_,_,_,_,z,(V' Rp.str _),(V' b' _),(V' b' _),(V' an' _)⟩
 refine q'<|g'<|sr<|mv z z<|mv z z ?_
 obtain⟨y,aX,hr⟩:=hr
 refine P' z z (t' E47 z) (dY' aX) z ((am.mono (mt (mt A t) F))) (fun bd bn R aj=>?_)
 obtain⟨K,J,rfl,aU⟩:=aj
 refine yy (aw' (vs:=#[(0,i' B),(1,i' (-1)),(2,.slice K y.length J)]) (v:=.agg ([i' B,i' (-1),.slice K y.length J]).toArray) z z (fun _=>by kernel_rfl)) z<|T' 14 z z63 z fun b5=>s' 14 z cn' z z z z z (List.all_eq_true.1 z)<|nx<|n'<|WC.drawnB [(3,some ⟨b1,.cells ((v34' x d g l k j c O P)).toArray 34 (0,0),0⟩)] (lc z ln) [ff,ff,ff,ff,ff,ff,ff,ff,ff,tt,tt,tt] mix (by kernel_rfl) fun hb=>cn (fun _ C=>dc' z)<|cn (fun _ C=>aH' ((v31' x.root d g l k j c)).toArray 3 ar' z z z (aT' ([]) ((v31' x.root d g l k j c)) ([.slice O x.v.length P])))<|cn (fun _ C=>as' z)<|cn (fun _ C=>f' 3 bk' z z z) ?_
 obtain⟨Q,aV,hr⟩:=hr
 refine Chain.callOwn (f:=48) (r:=an') (e:=63) (xs:=Q) (fun _=>z) (fun u G' C hu=>?_) ?_
 .exact⟨_,_,_,fun _=>t' E48 z,dJ' aV,z,((U.mono (mt (mt (mt A t) F) R)).mono C)⟩
 refine cu (fun _ _ C=>o' 14 ag63 z z z)<|Chain.litU (r:=an') (e:=63) ([(Zh.mk B (-1) y)]:List Zh) (fun _=>z) z (by decide) (fun u G' C hu=>?_) ?_
 .exact⟨#[(0,.agg ([i' B,i' (-1),.slice K y.length J]).toArray)],[i' B,i' (-1),.slice K y.length J]++([]),z,z,fun _=>by kernel_rfl,⟨[i' B,i' (-1),.slice K y.length J],[],z,⟨[i' B],[i' (-1),.slice K y.length J],z,z,⟨[i' (-1)],[.slice K y.length J],z,z,⟨_,z,(aU.mono C)⟩⟩⟩,z⟩⟩
 obtain⟨aW,hr⟩:=hr
 refine cD' (r:=an') (e:=63) (kk:=54) (xs:=Q) [(Zh.mk B (-1) y)] (fun _=>z) z (by kernel_rfl) (by kernel_rfl) K' el63 z (by decide) aW (fun u G' C hu=>?_) ?_
 .obtain⟨⟨p1,ay,aH,aK⟩,aG,_⟩:=(show (fun G v=>∃ p1 ay,v = .slice p1 1 1/\SlRd an' G (.slice p1 1 1) ay [(Zh.mk B (-1) y)]) G'.m (u 56)/\(RowX an' 63 54 Q) (u 54) G'/\True from hu)
  exact⟨u 54,.slice p1 1 1,aG,z,(by simp only[undFr,eatO,List.map_cons,List.map_nil,aH] <;> rfl),aK⟩
 refine Chain.buildEat (r:=an') (e:=63) (kk:=57) (xs:=(Q++[(Zh.mk B (-1) y)])) (φ:=fun G v=>∃ p2 af,v = .agg ([.slice d x.root.vars.length g,.slice l x.root.eqs.length k,.slice j x.root.neqs.length c,i' x.root.next,.slice p2 (Q++[(Zh.mk B (-1) y)]).length af]).toArray/\SlR an' G (.slice p2 (Q++[(Zh.mk B (-1) y)]).length af) (Q++[(Zh.mk B (-1) y)])) (fun _=>z) z (by kernel_rfl) (by kernel_rfl) (fun v G1 G2 C h=>?_) (fun u G' C hu=>?_) ?_
 .obtain⟨p2,af,rfl,ar⟩:=h
  exact⟨_,_,z,ar.mono C⟩
 .obtain⟨aB,_,_,_⟩:=(show (RowX an' 63 57 (Q++[(Zh.mk B (-1) y)])) (u 57) G'/\True/\True/\True from hu)
  exact⟨u 57,aB,fun cp cc Gf a2 a0=>⟨_,fun _=>aw' (vs:=#[(0,.agg ((v31' x.root d g l k j c)).toArray),(1,.slice cp (Q++[(Zh.mk B (-1) y)]).length cc)]) (by simp only[undFr,eatO,List.map_cons,List.map_nil,a2] <;> rfl) z (fun _=>by kernel_rfl),cp,cc,z,a0⟩⟩
 refine Chain.floatBU (fun _=>z) (fun _=>as' z)<|Chain.floatBU (fun _=>z) (fun _=>f' 3 bk' z z z)<|Chain.floatBU (fun _=>z) (fun _=>M' K' (U.mono (mt (mt (mt A t) F) R)) z)<|Chain.tailBX4 hb (fun bg bc bf bh X1 I al aZ ak aY=>?_)
 obtain⟨p2,af,rfl,ar⟩:=al
 obtain⟨p1,ay,rfl,aK⟩:=ak
 refine WLT.one (fun w hs=>(hs.memLe hb I).weaken (lc z ln))<|s' 6 z bU' z z z z z (List.all_eq_true.1 z)<|WLT.back<|WLT.y0 (fun w hs=>(hs.memLe hb I).weaken (lc z ln)) z (Y0.assign z) z<|WLT.y0 (fun w hs=>(hs.memLe hb I).weaken (lc z ln)) z (Y0.assign z) z<|WLT.nil (fun w hs=>(hs.memLe hb I).weaken (lc z ln))<|aq'<|g'<|j' ?_
 obtain rfl:_=r:=hr
 have N1:=mt (mt (mt (mt A t) F) R) I
 exact cT' z (ac' (i:=6) aK' z z z) z z ⟨_,_,_,_,_,_,_,_,z,(D.mono N1),(H.mono N1),(E.mono N1),ar⟩
theorem gi'{p c n o s q m l A y r}(hr:(ZeD p c).Ret r):Ctr prog 49 #[.agg ((v31' p n o s q m l)).toArray,.agg ((v48' c A y)).toArray] (fun G=>sl Rp.str G n o p.vars/\sl b' G s q p.eqs/\sl b' G m l p.neqs/\sl I' G A y c.p) (w48t' r):=by
 refine E' (args:=[_,_]) (N:=90) func49 z z z (fun w0 G0 al R=>?_)
 obtain⟨d,k,g,x⟩:=R
 refine sr<|ad' 2 z z z fun b1=>ad' 3 z z z fun b2=>T' 4 z z48 z fun b3=>sg z z<|nx<|n'<|sr<|yy (o' 2 ar' z z z) z<|yy (o' 3 bL' z z z) z ?_
 obtain⟨aj,T,hr⟩:=hr
 refine P' z z (t' E50 z) (eI' T) z (⟨d,k,g,x⟩) (fun ai ak e C=>?_)
 obtain⟨H,F,Q,L,E,I,rfl,J,O,D⟩:=C
 refine mv z z<|yy (y' z z) z<|yy (y' z z) z<|T' 6 z z31 z fun b4=>s' 6 z aU' z z z z z (List.all_eq_true.1 z)<|sg z z<|nr<|mv z z<|yy (av' z z) z<|nx<|L' hr z (fun ae hr=>?_) (fun ae hr=>?_)
 .refine sr<|yy (aw' (vs:=#[]) (v:=.agg ([i' 0,.string ByteArray.empty,i' 0,i' 0,i' 0,.slice none 0 0,.bool false]).toArray) z z (fun _=>by kernel_rfl)) z<|mv z z<|s' 4 z cc' z z z z z (List.all_eq_true.1 z)<|sg z z<|nx<|j'<|a' ?_
  obtain rfl:_=r:=hr
  exact aC' z (ac' (i:=4) bL' z z z) z ⟨_,_,z,(V' I' _)⟩
 refine q'<|g'<|n'<|sr<|yy (cv' z) z<|yy (f' 3 sc3 z z z) z<|nx<|C'<|sr<|yy (at' z z) z<|sg z z<|nx<|L' hr z (fun aa hr=>?_) (fun aa hr=>?_)
 .refine sr<|yy (aI' z) z<|yy (f' 3 sc3 z z z) z<|yy (aw' (vs:=#[(0,i' 2),(2,i' c.at')]) (v:=.agg ([i' 2,.string ByteArray.empty,i' c.at',i' 0,i' 0,.slice none 0 0,.bool false]).toArray) z z (fun _=>by kernel_rfl)) z<|s' 4 z cc' z z z z z (List.all_eq_true.1 z)<|sg z z<|nx<|j'<|m'<|a' ?_
  obtain rfl:_=r:=hr
  exact aC' z (ac' (i:=4) bL' z z z) z ⟨_,_,z,(V' I' _)⟩
 refine sr<|yy (at' z z) z<|sg z z<|nx<|L' hr z (fun ad hr=>?_) (fun ad hr=>?_)
 .refine n'<|ah' [ff,ff,ff,ff,ff,ff,ff,ff] mix (by kernel_rfl) fun U=>cn (fun _ f=>aI' z)<|cn (fun _ f=>f' 3 sc3 z z z)<|cn (fun _ f=>aF' z)<|cn (fun _ f=>f' 2 bA' z z z)<|cn (fun _ f=>aI' z)<|cn (fun _ f=>f' 3 sc3 z z z) ?_
  obtain⟨Y,K,hr⟩:=hr
  refine cn (fun _ f=>Q' F' sz9 ((d.mono e).mono f) z z K)<|cn (fun _ f=>Y' sc9 z (bZ' (H' (H' (ab' d K) e) f)))<|U' U<|yy (aw' (vs:=#[(0,i' 1),(2,i' c.at'),(1,.string Y)]) (v:=.agg ([i' 1,.string Y,i' c.at',i' 0,i' 0,.slice none 0 0,.bool false]).toArray) z z (fun _=>by kernel_rfl)) z<|s' 4 z cc' z z z z z (List.all_eq_true.1 z)<|sg z z<|u'<|aq'<|g'<|j'<|m'<|a' ?_
  obtain rfl:_=r:=hr
  exact aC' z (ac' (i:=4) bL' z z z) z ⟨_,_,z,(V' I' _)⟩
 refine sr<|yy (at' z z) z<|sg z z<|nx<|L' hr z (fun Z hr=>?_) (fun Z hr=>?_)
 .refine n'<|ah' [ff,ff,ff,ff,ff,ff,ff,ff] mix (by kernel_rfl) fun U=>cn (fun _ f=>aI' z)<|cn (fun _ f=>f' 3 sc3 z z z)<|cn (fun _ f=>aF' z)<|cn (fun _ f=>f' 2 bA' z z z)<|cn (fun _ f=>aI' z)<|cn (fun _ f=>f' 3 sc3 z z z) ?_
  obtain⟨x2,M,hr⟩:=hr
  refine cn (fun _ f=>Q' F' sz9 ((d.mono e).mono f) z z M)<|cn (fun _ f=>Y' sc9 z (bZ' (H' (H' (ab' d M) e) f)))<|U' U<|yy (aw' (vs:=#[(0,i' 3),(2,i' c.at'),(1,.string x2)]) (v:=.agg ([i' 3,.string x2,i' c.at',i' 0,i' 0,.slice none 0 0,.bool false]).toArray) z z (fun _=>by kernel_rfl)) z<|s' 4 z cc' z z z z z (List.all_eq_true.1 z)<|sg z z<|u'<|aq'<|g'<|j'<|m'<|a' ?_
  obtain rfl:_=r:=hr
  exact aC' z (ac' (i:=4) bL' z z z) z ⟨_,_,z,(V' I' _)⟩
 refine sr<|yy (at' z z) z<|sg z z<|nx<|L' hr z (fun X hr=>?_) (fun X hr=>?_)
 .refine sr<|yy (aI' z) z<|yy (f' 3 sc3 z z z) z<|yy (cu' z) z<|yy (f' 3 sc3 z z z) z<|yy (aw' (vs:=#[(0,i' 4),(2,i' c.at'),(3,i' c.to')]) (v:=.agg ([i' 4,.string ByteArray.empty,i' c.at',i' c.to',i' 0,.slice none 0 0,.bool false]).toArray) z z (fun _=>by kernel_rfl)) z<|s' 4 z cc' z z z z z (List.all_eq_true.1 z)<|sg z z<|nx<|j'<|m'<|a' ?_
  obtain rfl:_=r:=hr
  exact aC' z (ac' (i:=4) bL' z z z) z ⟨_,_,z,(V' I' _)⟩
 refine sr<|yy (at' z z) z<|sg z z<|nx<|L' hr z (fun ac hr=>?_) (fun ac hr=>?_)
 .refine sr<|yy (o' 2 ar' z z z) z<|yy (o' 3 bL' z z z) z ?_
  obtain⟨P,S,hr⟩:=hr
  refine D' z z (t' E65 z) (fc' S) z (⟨(d.mono e),(k.mono e),(g.mono e),(x.mono e)⟩)<|yy (aw' (vs:=#[(0,i' 6),(4,i' P)]) (v:=.agg ([i' 6,.string ByteArray.empty,i' 0,i' 0,i' P,.slice none 0 0,.bool false]).toArray) z z (fun _=>by kernel_rfl)) z<|s' 4 z cc' z z z z z (List.all_eq_true.1 z)<|sg z z<|nx<|j'<|m'<|a' ?_
  obtain rfl:_=r:=hr
  exact aC' z (ac' (i:=4) bL' z z z) z ⟨_,_,z,(V' I' _)⟩
 refine sr<|yy (at' z z) z<|sg z z<|nx<|L' hr z (fun W hr=>?_) (fun W hr=>?_)
 .refine sr<|yy (aQ' z) z<|yy (f' 3 sc3 z z z) z<|yy (aw' (vs:=#[(0,i' 8),(4,i' c.id)]) (v:=.agg ([i' 8,.string ByteArray.empty,i' 0,i' 0,i' c.id,.slice none 0 0,.bool false]).toArray) z z (fun _=>by kernel_rfl)) z<|s' 4 z cc' z z z z z (List.all_eq_true.1 z)<|sg z z<|nx<|j'<|m'<|a' ?_
  obtain rfl:_=r:=hr
  exact aC' z (ac' (i:=4) bL' z z z) z ⟨_,_,z,(V' I' _)⟩
 refine q'<|J'<|g'<|sr<|yy (o' 2 ar' z z z) z<|yy (aQ' z) z<|yy (f' 3 sc3 z z z) z ?_
 obtain⟨u,V,hr⟩:=hr
 refine P' z z (t' E66 z) (dX' V) z (⟨(d.mono e),(k.mono e),(g.mono e)⟩) (fun ah am ag B=>?_)
 obtain⟨j,h,rfl,t⟩:=B
 refine mv z z<|yy (y' z z) z<|yy (y' z z) z<|yy (y' z z) z<|T' 8 z z110 z fun b5=>s' 8 z aR' z z z z z (List.all_eq_true.1 z)<|sg z z<|sg z z<|nx<|n'<|sr<|yy (cv' z) z<|yy (f' 3 sc3 z z z) z<|yy (at' z z) z<|nx<|L' hr z (fun ab hr=>?_) (fun ab hr=>?_)
 .refine sr<|yy (aQ' z) z<|yy (f' 3 sc3 z z z) z<|yy (bT' z) z<|yy (f' 8 cA' z z z) z<|mv z z<|yy (aw' (vs:=#[(0,i' 5),(4,i' c.id),(5,.slice j u.1.p.length h),(6,.bool u.2.1)]) (v:=.agg ([i' 5,.string ByteArray.empty,i' 0,i' 0,i' c.id,.slice j u.1.p.length h,.bool u.2.1]).toArray) z z (fun _=>by kernel_rfl)) z<|s' 4 z cc' z z z z z (List.all_eq_true.1 z)<|sg z z<|nx<|j'<|a' ?_
  obtain rfl:_=r:=hr
  exact aC' z (ac' (i:=4) bL' z z z) z ⟨_,_,z,t⟩
 refine q'<|g'<|sr<|yy (aQ' z) z<|yy (f' 3 sc3 z z z) z<|yy (bT' z) z<|yy (f' 8 cA' z z z) z<|yy (aw' (vs:=#[(0,i' 7),(4,i' c.id),(5,.slice j u.1.p.length h)]) (v:=.agg ([i' 7,.string ByteArray.empty,i' 0,i' 0,i' c.id,.slice j u.1.p.length h,.bool false]).toArray) z z (fun _=>by kernel_rfl)) z<|s' 4 z cc' z z z z z (List.all_eq_true.1 z)<|sg z z<|nx<|j' ?_
 obtain rfl:_=r:=hr
 exact aC' z (ac' (i:=4) bL' z z z) z ⟨_,_,z,t⟩
theorem dS'{H q p s A r}(hr:(Z8 H).Ret r):CtrL prog 51 #[.slice q s p] [(5000,A)] (fun G=>RowR af' 48 G (.slice q s p) H A) (fun G L v=>∃ O,L=[(5000,O)]/\v = .tuple #[]/\RowR af' 48 G (.slice q s p) r O):=by
 refine bf' (args:=[_]) (N:=28) func51 z z z (fun Q D ai R=>?_)
 have P:=R
 refine sr<|mv z z<|yy (ea' au' P z) z<|yy (bi' z z) z<|sg z z<|sg z z<|nx<|ak' (fun (⟨B,o,t⟩:(List Zc)×Option Ow×Mem)=>[(0,.slice q s p)]) (fun ⟨B,o,t⟩=>Mem.le D t/\RowR af' 48 t (.slice q s p) B o/\(Z4 B).Ret r) (fun ⟨B,o,t⟩=>St Q D t [(5000,o)]) ?_ ?_
 .refine C' ?_
  let F:(List Zc)->Prop:=fun oo=>((fun ov=>match ov with|B=>Z4 B:(List Zc)->Cq (List Zc)) oo).wp (fun a=>a=r)
  replace hr:(Cq.loop _ _).wp F:=hr
  refine al' (Φ:=F) (fun (⟨y,g,x,u,n⟩:(List Zc)×Option Ow×Int×Int×Mem)=>((y,x,u):(List Zc)×Int×Int)) (fun ⟨y,g,x,u,n⟩=>[(0,.slice q s p),(2,i' x),(3,i' u)]) (fun ⟨y,g,x,u,n⟩=>Mem.le D n/\RowR af' 48 n (.slice q s p) y g) (fun ⟨y,g,x,u,n⟩=>St Q D n [(5000,g)]) ⟨H,A,0,i64.wrap ((H.length:Int)-1),D⟩ hr (f3 z z z) ⟨mr,P⟩ (w1 z) ?_
  .intro ag gx hx hr
   obtain⟨y,g,x,u,n⟩:=gx
   obtain⟨C,m⟩:=hx
   refine n'<|sr<|mv z z<|mv z z<|yy (ag' z z) z<|nx<|L' hr z (fun X hr=>?_) (fun X hr=>?_)
   .refine q'<|g'<|n'<|C'<|ah' [ff,ff,tt,tt,ff,ff,ff,ff,ff,ff,ff,ff] mix (by kernel_rfl) fun hb=>cn (fun _ f=>e' z)<|cn (fun _ f=>e' z)<|co' z (e' z)<|co' z (e' z)<|cn (fun _ f=>e' z)<|cn (fun _ f=>e' z) ?_
    obtain⟨c,K,hr⟩:=hr
    refine cn (fun _ f=>ba' au' cc' (m.mono f) z z K) ?_
    obtain⟨k,l,W,T⟩:=db' (cS' m K)
    refine cn (fun _ f=>ew' _ bL' (m.mono f) (key:=5000) z z z (by decide) W)<|cn (fun _ f=>e' z)<|cn (fun _ f=>e' z) ?_
    obtain⟨d,M,hr⟩:=hr
    refine cn (fun _ f=>ba' au' cc' (m.mono f) z z M) ?_
    obtain⟨j,h,V,S⟩:=db' (cS' m M)
    refine cn (fun _ f=>ew' _ bL' (m.mono f) (key:=5000) z z z (by decide) V)<|U' hb ?_
    obtain⟨x3,I,hr⟩:=hr
    refine yy (ba' au' cc' m z z I) z<|bv' (r:=af') (e:=48) (cs':=(v48' c k l)) (i:=x) (z':=c) 5000 z cc' z m z z z z ⟨[i' c.kind],[.string c.name,i' c.at',i' c.to',i' c.id,.slice k c.p.length l,.bool c.neq],z,z,⟨[.string c.name],[i' c.at',i' c.to',i' c.id,.slice k c.p.length l,.bool c.neq],z,z,⟨[i' c.at'],[i' c.to',i' c.id,.slice k c.p.length l,.bool c.neq],z,z,⟨[i' c.to'],[i' c.id,.slice k c.p.length l,.bool c.neq],z,z,⟨[i' c.id],[.slice k c.p.length l,.bool c.neq],z,z,⟨[.slice k c.p.length l],[.bool c.neq],z,⟨_,z,T⟩,z⟩⟩⟩⟩⟩⟩ I (fun ah E=>?_)
    obtain⟨x4,J,hr⟩:=hr
    refine yy (ba' au' cc' E z z J) z<|bv' (r:=af') (e:=48) (cs':=(v48' d j h)) (i:=u) (z':=d) 5000 z cc' z E z z z z ⟨[i' d.kind],[.string d.name,i' d.at',i' d.to',i' d.id,.slice j d.p.length h,.bool d.neq],z,z,⟨[.string d.name],[i' d.at',i' d.to',i' d.id,.slice j d.p.length h,.bool d.neq],z,z,⟨[i' d.at'],[i' d.to',i' d.id,.slice j d.p.length h,.bool d.neq],z,z,⟨[i' d.to'],[i' d.id,.slice j d.p.length h,.bool d.neq],z,z,⟨[i' d.id],[.slice j d.p.length h,.bool d.neq],z,z,⟨[.slice j d.p.length h],[.bool d.neq],z,⟨_,z,S⟩,z⟩⟩⟩⟩⟩⟩ J fun Z U=>u'<|aq'<|J'<|g'<|A'<|mv z z<|yy (W' z z) z<|mv z z<|yy (bi' z z) z<|sg z z<|sg z z<|u'<|X' ⟨((y.set x.toNat c).set u.toNat d),Z,i64.wrap (x+1),i64.wrap (u-1),n⟩ hr ⟨C,U⟩ (f3 z z z) (w1 z)
   refine am'<|r'<|r'<|O'<|ao' ⟨y,g,n⟩ ⟨C,m,hr⟩ (f1 z) (w1 z)
 rintro⟨B,o,t⟩ ⟨aa,Y,hr⟩
 refine WE.retN ?_
 obtain rfl:_=r:=hr
 refine aJ' (S':=St Q D t [(5000,o)]) (w1 z)<|WE.ret0 z  ⟨_,z,z,Y⟩
theorem cL'{D Y bl l g o n k m ac Z r}(hr:(ZbQ D Y bl).Ret r):Ctr prog 22 #[.agg ((v34' D l g o n k m ac Z)).toArray,i' Y,i' bl] (fun G=>sl Rp.str G l g D.root.vars/\sl b' G o n D.root.eqs/\sl b' G k m D.root.neqs/\sl an' G ac Z D.v) (w34u' r):=by
 refine E' (args:=[_,_,_]) (N:=72) func22 z z z (fun w0 G0 aM bJ=>?_)
 obtain⟨B,J,C,K⟩:=bJ
 have hz:w0.L.zero:=by rw[aM]; intro p hp; simp at hp
 refine sr<|ad' 3 z z z fun b1=>T' 6 z z34 z fun b2=>sg z z<|sg z z<|nx<|n'<|sr<|yy (o' 3 aK' z z z) z<|mv z z<|mv z z ?_
 obtain⟨cH,bK,hr⟩:=hr
 refine D' z z (t' E16 z) (ZbC _ _ _ _ _ _ _ _ _ _ _ _ bK) z (⟨B,J,C,K⟩)<|yy (aj' z) z<|nx<|aL' hr z (fun cf hr=>?_) (fun cf hr=>?_)
 .refine sr<|yy (aw' (vs:=#[]) (v:=.agg ([.slice none 0 0,.slice none 0 0,.slice none 0 0,i' 0,.slice none 0 0]).toArray) z z (fun _=>by kernel_rfl)) z<|s' 6 z bU' z z z z z (List.all_eq_true.1 z)<|sg z z<|sg z z<|nx<|j'<|a' ?_
  obtain rfl:_=r:=hr
  exact cT' z (ac' (i:=6) aK' z z z) z z ⟨_,_,_,_,_,_,_,_,z,(V' Rp.str _),(V' b' _),(V' b' _),(V' an' _)⟩
 refine q'<|g'<|sr<|sg z z<|nx<|aM' (fun (⟨aj,al,am,ad,aB⟩:(List Zc)×Option Addr×Nat×Option Ow×Mem)=>[(1,i' Y),(3,.pointer (some ⟨b1,0,none⟩)),(6,.pointer (some ⟨b2,0,none⟩)),(9,.slice al aj.length am)]) (fun ⟨aj,al,am,ad,aB⟩=>Mem.le G0 aB/\RowR af' 48 aB (.slice al aj.length am) aj ad/\(Zc3 D Y aj).Ret r) (fun ⟨aj,al,am,ad,aB⟩=>St w0 G0 aB [(3,some ⟨b1,.cells ((v34' D l g o n k m ac Z)).toArray 34 (0,0),0⟩),(6,some ⟨b2,.cells ([.slice none 0 0,.slice none 0 0,.slice none 0 0,i' 0,.slice none 0 0]).toArray 34 (0,0),0⟩),(4009,ad)]) ?_ ?_
 .refine sr<|mv z z<|yy (bh' z z) z<|nx<|L' hr z (fun ce hr=>?_) (fun ce hr=>?_)
  .refine n'<|ah' [ff,ff,ff,ff,ff,ff,ff,ff,ff,ff,tt,ff] mix (by kernel_rfl) fun hb=>cn (fun _ f=>o' 3 aK' z z z)<|cn (fun _ f=>as' z)<|cn (fun _ f=>f' 3 bk' z z z)<|cn (fun _ f=>e' z) ?_
   obtain⟨x1,bA,hr⟩:=hr
   refine cn (fun _ f=>Q' K' cn' (K.mono f) z z bA)<|cn (fun _ f=>bX' z)<|cn (fun _ f=>Y' sc3 z (aD' (H' (aV' (ax' (ab' K bA))) f))) ?_
   obtain⟨ap,bL,hr⟩:=hr
   refine aW' (post:=w31t' ap) (fun _=>z) (fun _ _=>t' E11 z) (bF' bL) z (fun G' f=>⟨(B.mono f),(J.mono f),(C.mono f),(K.mono f)⟩) (fun v G1 G2 f h=>?_) ?_
   .obtain⟨T,U,ab,aa,X,W,rfl,F,M,E⟩:=h
    exact⟨_,_,_,_,_,_,z,F.mono f,M.mono f,E.mono f⟩
   refine bm' (φ:=w31t' ap) (fun _=>z) (fun v G1 G2 f h=>?_) (fun u G' f hu=>?_) ?_
   .obtain⟨p1,aU,p2,aR,p3,aT,rfl,aL,aO,aK⟩:=h
    exact⟨_,_,_,_,_,_,z,aL.mono f,aO.mono f,aK.mono f⟩
   .obtain⟨⟨T,U,ab,aa,X,W,bx,F,M,E⟩,_⟩:=(show (w31t' ap) G'.m (u 32)/\True from hu)
    simp only[undFr,bx]
    exact⟨_,e' z,T,U,ab,aa,X,W,z,F,M,E⟩
   refine bm' (φ:=w31' ap.1) (fun _=>z) (fun v G1 G2 f h=>?_) (fun u G' f hu=>?_) ?_
   .obtain⟨p4,bC,p5,bE,p6,bF,rfl,bj,bf,bp⟩:=h
    exact⟨_,_,_,_,_,_,z,bj.mono f,bf.mono f,bp.mono f⟩
   .obtain⟨⟨p1,aU,p2,aR,p3,aT,aH,aL,aO,aK⟩,_,_⟩:=(show (w31t' ap) G'.m (u 24)/\True/\True from hu)
    simp only[undFr,aH]
    exact⟨_,y' z z,p1,aU,p2,aR,p3,aT,z,aL,aO,aK⟩
   refine bu' (c:=i' ap.2) (fun _=>z) (fun u G' f hu=>?_) ?_
   .obtain⟨_,⟨p1,aU,p2,aR,p3,aT,aH,aL,aO,aK⟩,_,_⟩:=(show True/\(w31t' ap) G'.m (u 24)/\True/\True from hu)
    simp only[undFr,aH]
    exact y' z z
   refine bD' (fun _=>z) z31<|cC' (fun cK cj cp cw X1 aQ bq a4 a8 aY=>?_)
   obtain⟨b3,rfl,bI⟩:=bq
   obtain⟨p4,bC,p5,bE,p6,bF,rfl,bj,bf,bp⟩:=a4
   obtain⟨p1,aU,p2,aR,p3,aT,rfl,aL,aO,aK⟩:=a8
   obtain⟨T,U,ab,aa,X,W,rfl,F,M,E⟩:=aY
   refine cq' bI (cj' (show WL _ _ _ _ _ _ (St w0 G0 X1.m _) from ?_))
   refine s' 10 z aU' z z z z z (List.all_eq_true.1 z)<|sg z z<|u'<|aq'<|g'<|sr<|yy (as' z) z<|yy (f' 3 bk' z z z) z<|mv z z ?_
   obtain⟨x2,bB,hr⟩:=hr
   refine yy (Q' K' cn' (K.mono aQ) z z bB) z<|yy (bY' z) z ?_
   obtain⟨p7,b7,bY,bk⟩:=bG' (H' (ay' (ay' (ax' (ab' K bB)))) aQ)
   refine yy (Y' sc44 z (bY)) z<|yy (M' au' bk z) z<|mv z z<|nx<|ak' (fun (⟨P,ah,af,Q,ay⟩:(List Zc)×Option Addr×Nat×Option Ow×Mem)=>[(1,i' Y),(3,.pointer (some ⟨b1,0,none⟩)),(6,.pointer (some ⟨b2,0,none⟩)),(9,.slice ah P.length af)]) (fun ⟨P,ah,af,Q,ay⟩=>Mem.le X1.m ay/\RowR af' 48 ay (.slice ah P.length af) P Q/\(Zc4 D Y P).Ret r) (fun ⟨P,ah,af,Q,ay⟩=>St w0 G0 ay [(3,some ⟨b1,.cells ((v34' D l g o n k m ac Z)).toArray 34 (0,0),0⟩),(6,some ⟨b2,.cells ([.slice none 0 0,.slice none 0 0,.slice none 0 0,i' 0,.slice none 0 0]).toArray 34 (0,0),0⟩),(4009,Q)]) ?_ ?_
   .refine C' ?_
    let bm:(List Zc)->Prop:=fun oo=>((fun ov=>match ov with|P=>Zc4 D Y P:(List Zc)->Cq (Zf×Int×Int)) oo).wp (fun a=>a=r)
    replace hr:(Cq.loop _ _).wp bm:=hr
    refine al' (Φ:=bm) (fun (⟨O,S,R,L,V,ak,y,x,I,H,t,A,ae⟩:(List Zc)×Option Addr×Nat×Option Ow×Int×Za×Option Addr×Nat×Option Addr×Nat×Option Addr×Nat×Mem)=>((O,V,ak):(List Zc)×Int×Za)) (fun ⟨O,S,R,L,V,ak,y,x,I,H,t,A,ae⟩=>[(1,i' Y),(3,.pointer (some ⟨b1,0,none⟩)),(6,.pointer (some ⟨b2,0,none⟩)),(9,.slice S O.length R),(10,.pointer (some ⟨b3,0,none⟩)),(40,.slice p7 x2.e.length b7),(41,i' (x2.e.length:Int)),(42,i' V)]) (fun ⟨O,S,R,L,V,ak,y,x,I,H,t,A,ae⟩=>Mem.le X1.m ae/\RowR af' 48 ae (.slice S O.length R) O L/\sl Rp.str ae y x ak.vars/\sl b' ae I H ak.eqs/\sl b' ae t A ak.neqs) (fun ⟨O,S,R,L,V,ak,y,x,I,H,t,A,ae⟩=>St w0 G0 ae [(3,some ⟨b1,.cells ((v34' D l g o n k m ac Z)).toArray 34 (0,0),0⟩),(6,some ⟨b2,.cells ([.slice none 0 0,.slice none 0 0,.slice none 0 0,i' 0,.slice none 0 0]).toArray 34 (0,0),0⟩),(10,some ⟨b3,.cells ((v31' ak y x I H t A)).toArray 31 (0,0),0⟩),(4009,L)]) ⟨[],none,0,none,0,ap.1,p4,bC,p5,bE,p6,bF,X1.m⟩ hr (f8 z z z z z z z z) ⟨mr,RowR.nil,bj,bf,bp⟩ (wk (lc z (lc z (lc z (lw ln))))) ?_
    .intro cF gx hx hr
     obtain⟨O,S,R,L,V,ak,y,x,I,H,t,A,ae⟩:=gx
     obtain⟨ar,aS,ax,aA,az⟩:=hx
     refine sr<|yy (ag' z z) z<|nx<|n'<|L' hr z (fun b9 hr=>?_) (fun b9 hr=>?_)
     .refine q'<|g'<|n'<|C'<|sr ?_
      obtain⟨x3,bD,hr⟩:=hr
      refine yy (Q' au' cc' (bk.mono ar) z z bD) z ?_
      obtain⟨cu,cq,b0,bg⟩:=db' (H' (ab' bk bD) ar)
      refine yy (aA' _ bL' z z b0) z<|T' 13 z z48 z fun b4=>s' 13 z cc' z z z z z (List.all_eq_true.1 z)<|nr<|yy (o' 10 ar' z z z) z<|yy (o' 13 bL' z z z) z ?_
      obtain⟨d,bN,hr⟩:=hr
      refine P' z z (t' E49 z) (gi' bN) z (⟨ax,aA,az,bg⟩) (fun cv cM ag ba=>?_)
      obtain⟨s,q,rfl,bb⟩:=ba
      refine mv z z<|yy (y' z z) z<|yy (y' z z) z<|T' 14 z z48 z fun b5=>s' 14 z cc' z z z z z (List.all_eq_true.1 z)<|sg z z<|nr<|mv z z<|yy (o' 14 bL' z z z) z<|bd' (e:=48) (r:=af') (vs:=#[(0,.agg ((v48' d.1 s q)).toArray)]) (cs:=(v48' d.1 s q)++([])) ([d.1]:List Zc) z z z z z (by decide) (fun _=>by kernel_rfl) ⟨(v48' d.1 s q),[],z,⟨[i' d.1.kind],[.string d.1.name,i' d.1.at',i' d.1.to',i' d.1.id,.slice s d.1.p.length q,.bool d.1.neq],z,z,⟨[.string d.1.name],[i' d.1.at',i' d.1.to',i' d.1.id,.slice s d.1.p.length q,.bool d.1.neq],z,z,⟨[i' d.1.at'],[i' d.1.to',i' d.1.id,.slice s d.1.p.length q,.bool d.1.neq],z,z,⟨[i' d.1.to'],[i' d.1.id,.slice s d.1.p.length q,.bool d.1.neq],z,z,⟨[i' d.1.id],[.slice s d.1.p.length q,.bool d.1.neq],z,z,⟨[.slice s d.1.p.length q],[.bool d.1.neq],z,⟨_,z,bb⟩,z⟩⟩⟩⟩⟩⟩,z⟩ (key:=999) z (by rw[aM]; rfl) (fun p8 cE ai bW=>?_)
      obtain⟨bM,hr⟩:=hr
      refine cx' (r:=af') (e:=48) 4009 z z au' el48 z (by decide) z z (aS.mono (mt ag ai)) z bW bM fun p9 cc bG bT=>sg z z<|nx<|A'<|yy (o' 10 ar' z z z) z<|yy (o' 13 bL' z z z) z ?_
      obtain⟨b6,bP,hr⟩:=hr
      have N1:=mt ag ai
      refine P' z z (t' E50 z) (eI' bP) z (⟨(ax.mono N1),(aA.mono N1),(az.mono N1),(bg.mono N1)⟩) (fun ct bV aV bc=>?_)
      obtain⟨aG,aI,aP,aJ,aC,aE,rfl,aF,aN,aD⟩:=bc
      refine mv z z<|yy (y' z z) z<|yy (y' z z) z<|s' 10 z aU' z z z z z (List.all_eq_true.1 z)<|u'<|J'<|g'<|A'<|yy (W' z z) z<|mv z z<|u'<|X' ⟨(O++[d.1]),p9,cc,bG,i64.wrap (V+1),b6.1,aG,aI,aP,aJ,aC,aE,bV⟩ hr ⟨(mt (mt (mt ar ag) ai) aV),(bT.mono aV),aF,aN,aD⟩ (f8 z z z z z z z z) (w4 z z z z)
     refine am'<|r'<|r'<|O'<|ao' ⟨O,S,R,L,ae⟩ ⟨ar,aS,hr⟩ (f4 z z z z) (w3 z z z)
   rintro⟨P,ah,af,Q,ay⟩ ⟨bv,br,hr⟩
   exact ap' ⟨P,ah,af,Q,ay⟩ ⟨(mt aQ bv),br,hr⟩ (f4 z z z z) (w3 z z z)
  refine q'<|ap' ⟨[],none,0,none,G0⟩ ⟨mr,RowR.nil,hr⟩ (f4 z z z z) (wk (lc z (lc z (lw ln))))
 rintro⟨aj,al,am,ad,aB⟩ ⟨av,bw,hr⟩
 refine sr<|mv z z ?_
 obtain⟨cC,bH,hr⟩:=hr
 refine bH' (fun w hs=>hs.rekey (i:=4009) (j:=5000) z (by rw[aM]; rfl))<|cJ' z z (t' E51 z) (dS' bH) z (bw) (lc z ln) hz (fun cB cG cz au a0=>?_)
 obtain⟨bU,rfl,rfl,bi⟩:=a0
 refine bH' (fun w hs=>hs.rekey (i:=5000) (j:=4009) z (by rw[aM]; rfl))<|nr<|yy (o' 3 aK' z z z) z<|mv z z<|mv z z<|bM' (r:=af') (e:=48) 4009 bi z (by rw[aM]; rfl) (fun cD cJ aw bo ch=>?_)
 obtain⟨cL,bQ,hr⟩:=hr
 have N2:=mt (mt av au) aw
 refine P' z z (t' E20 z) (cb' bQ) (by rw[dj' bo]) (⟨(B.mono N2),(J.mono N2),(C.mono N2),(K.mono N2),(de' bo)⟩) (fun ck cI ci a6=>?_)
 obtain⟨a7,aX,bd,be,a2,a9,bS,bR,rfl,ao,aq,an,a1⟩:=a6
 refine yy (y' z z) z<|yy (y' z z) z<|yy (y' z z) z<|s' 6 z bU' z z z z z (List.all_eq_true.1 z)<|sg z z<|sg z z<|nx<|j' ?_
 obtain rfl:_=r:=hr
 exact cT' z (ac' (i:=6) aK' z z z) z z ⟨_,_,_,_,_,_,_,_,z,ao,aq,an,a1⟩
theorem dx'{r}(hr:(ZeK).Ret r):Ctr prog 9 #[] (fun G=>True) (fun G v=>v = .bool r):=by
 refine E' (args:=[]) (N:=177) func9 z z z fun w0 G0 d4 dL=>sr<|sg z z<|nr<|yy (aw' (vs:=#[(3,i' 1)]) (v:=.agg ([.slice none 0 0,.slice none 0 0,.slice none 0 0,i' 1]).toArray) z z (fun _=>by kernel_rfl)) z ?_
 obtain⟨cJ,c0,hr⟩:=hr
 refine P' z z (t' E32 z) (gw' c0) z (⟨(V' Rp.str _),(V' b' _),(V' b' _)⟩) (fun d0 cO dC bp=>?_)
 obtain⟨ar,aj,aA,az,ap,ao,bv,bm,rfl,P,U,Q,am⟩:=bp
 refine mv z z<|yy (y' z z) z<|yy (y' z z) z<|T' 1 z z34 z fun b1=>s' 1 z bU' z z z z z (List.all_eq_true.1 z)<|sg z z<|nx<|aM' (fun (L:Mem)=>match L with|a0=>[(1,.pointer (some ⟨b1,0,none⟩))]) (fun (L:Mem)=>match L with|a0=>Mem.le cO a0/\(Zfb cJ).Ret r) (fun (L:Mem)=>match L with|a0=>St w0 G0 a0 [(1,some ⟨b1,.cells ((v34' cJ.1 ar aj aA az ap ao bv bm)).toArray 34 (0,0),0⟩)]) ?_ ?_
 .refine sr<|mv z z<|aa' hr z (av' z z) z (fun c5 hr=>?_) (fun c5 hr=>?_)
  .refine mv z z<|sn4 z<|yy (h' z z) z<|mv z z<|sn3 z<|yy (h' z z) z<|nx<|R' z<|sr<|sg z z<|nx<|j'<|a' ?_
   obtain rfl:_=r:=hr
   exact k' z z z
  refine mv z z<|gy z z (as' z) z<|gy z z (f' 1 bk' z z z) z<|gy z z (M' K' am z) z<|aa' hr (v' z z) (av' z z) z (fun c8 hr=>?_) (fun c8 hr=>?_)
  .refine yy (l' z z) z<|mv z z<|sn3 z<|yy (h' z z) z<|nx<|R' z<|sr<|sg z z<|nx<|j'<|a' ?_
   obtain rfl:_=r:=hr
   exact k' z z z
  refine yy (l' z z) z<|mv z z<|gy z z (o' 1 aK' z z z) z ?_
  obtain⟨dN,cu,hr⟩:=hr
  refine D' (v' z z) z (t' E18 z) (cU' cu) z (⟨P,U,Q,am⟩)<|gy z z (aj' z) z<|yy (l' z z) z<|nx<|aL' hr z (fun dl hr=>?_) (fun dl hr=>?_)
  .refine sr<|sg z z<|nx<|j'<|a' ?_
   obtain rfl:_=r:=hr
   exact k' z z z
  refine q'<|ap' cO ⟨mr,hr⟩ (f1 z) (w1 z)
 rintro a0 ⟨aB,hr⟩
 refine n'<|ah' [ff,ff,ff,ff,ff,tt,tt,ff] mix (by kernel_rfl) fun hb=>cn (fun _ d=>o' 1 aK' z z z) ?_
 obtain⟨cG,cT,hr⟩:=hr
 refine aW' (post:=wl' af' cG) (fun _=>z) (fun _ _=>t' E33 z) (fF' cT) z (fun O d=>trivial) (fun v G1 G2 d h=>?_) ?_
 .obtain⟨bA,bQ,rfl,aN⟩:=h
  exact⟨_,_,z,aN.mono d⟩
 obtain⟨Z,dc,hr⟩:=hr
 refine cy' (f:=20) (φ:=w34u' Z) (fun _=>z) (fun v G1 G2 d h=>?_) (fun u O d S=>?_) ?_
 .obtain⟨D,x,H,I,B,F,au,al,rfl,j,n,i,ab⟩:=h
  exact⟨_,_,_,_,_,_,_,_,z,j.mono d,n.mono d,i.mono d,ab.mono d⟩
 .obtain⟨⟨bA,bQ,cB,aN⟩,_⟩:=(show (wl' af' cG) O.m (u 43)/\True from S)
  exact⟨_,_,_,fun _=>t' E20 z,cb' dc,(by simp only[cB] <;> rfl),⟨((P.mono aB).mono d),((U.mono aB).mono d),((Q.mono aB).mono d),((am.mono aB).mono d),aN⟩⟩
 refine bm' (φ:=w34u' Z) (fun _=>z) (fun v G1 G2 d h=>?_) (fun u O d S=>?_) ?_
 .obtain⟨p1,aZ,p2,aR,p3,aT,p4,aQ,rfl,aK,aM,aJ,aL⟩:=h
  exact⟨_,_,_,_,_,_,_,_,z,aK.mono d,aM.mono d,aJ.mono d,aL.mono d⟩
 .obtain⟨⟨D,x,H,I,B,F,au,al,cj,j,n,i,ab⟩,_,_⟩:=(show (w34u' Z) O.m (u 44)/\True/\True from S)
  simp only[undFr,cj]
  exact⟨_,e' z,D,x,H,I,B,F,au,al,z,j,n,i,ab⟩
 refine bm' (φ:=w34' Z.1) (fun _=>z) (fun v G1 G2 d h=>?_) (fun u O d S=>?_) ?_
 .obtain⟨p5,cI,p6,cR,p7,cK,p8,cP,rfl,bz,bN,bD,bc⟩:=h
  exact⟨_,_,_,_,_,_,_,_,z,bz.mono d,bN.mono d,bD.mono d,bc.mono d⟩
 .obtain⟨⟨p1,aZ,p2,aR,p3,aT,p4,aQ,af,aK,aM,aJ,aL⟩,_,_,_⟩:=(show (w34u' Z) O.m (u 41)/\True/\True/\True from S)
  simp only[undFr,af]
  exact⟨_,y' z z,p1,aZ,p2,aR,p3,aT,p4,aQ,z,aK,aM,aJ,aL⟩
 refine bu' (c:=i' Z.2.1) (fun _=>z) (fun u O d S=>?_) ?_
 .obtain⟨_,⟨p1,aZ,p2,aR,p3,aT,p4,aQ,af,aK,aM,aJ,aL⟩,_,_,_⟩:=(show True/\(w34u' Z) O.m (u 41)/\True/\True/\True from S)
  simp only[undFr,af]
  exact y' z z
 refine bu' (c:=i' Z.2.2) (fun _=>z) (fun u O d S=>?_) ?_
 .obtain⟨_,⟨p1,aZ,p2,aR,p3,aT,p4,aQ,af,aK,aM,aJ,aL⟩,_,_,_⟩:=(show True/\(w34u' Z) O.m (u 41)/\True/\True/\True from S)
  simp only[undFr,af]
  exact y' z z
 refine bD' (fun _=>z) z34<|eh' (fun d7 dM dW dH dX X1 dQ bR bt bl br bo=>?_)
 obtain⟨b2,rfl,cX⟩:=bR
 obtain⟨p5,cI,p6,cR,p7,cK,p8,cP,rfl,bz,bN,bD,bc⟩:=bt
 obtain⟨p1,aZ,p2,aR,p3,aT,p4,aQ,rfl,aK,aM,aJ,aL⟩:=bl
 obtain⟨D,x,H,I,B,F,au,al,rfl,j,n,i,ab⟩:=br
 obtain⟨bA,bQ,rfl,aN⟩:=bo
 refine cq' cX (cj' (show WL _ _ _ _ _ _ (St w0 G0 X1.m _) from ?_))
 refine s' 3 z bU' z z z z z (List.all_eq_true.1 z)<|sg z z<|sg z z<|u'<|aq'<|g'<|aM' (fun (L:Mem)=>match L with|aP=>[(3,.pointer (some ⟨b2,0,none⟩))]) (fun (L:Mem)=>match L with|aP=>Mem.le X1.m aP/\(Zfa Z).Ret r) (fun (L:Mem)=>match L with|aP=>St w0 G0 aP [(3,some ⟨b2,.cells ((v34' Z.1 p5 cI p6 cR p7 cK p8 cP)).toArray 34 (0,0),0⟩)]) ?_ ?_
 .refine sr<|mv z z<|aa' hr z (av' z z) z (fun c6 hr=>?_) (fun c6 hr=>?_)
  .refine mv z z<|sn2 z<|yy (h' z z) z<|mv z z<|sn4 z<|yy (h' z z) z<|nx<|R' z<|sr<|sg z z<|nx<|j'<|a' ?_
   obtain rfl:_=r:=hr
   exact k' z z z
  refine mv z z<|gy z z (e' z) z<|aa' hr (v' z z) (av' z z) z (fun cY hr=>?_) (fun cY hr=>?_)
  .refine yy (l' z z) z<|mv z z<|sn4 z<|yy (h' z z) z<|nx<|R' z<|sr<|sg z z<|nx<|j'<|a' ?_
   obtain rfl:_=r:=hr
   exact k' z z z
  refine yy (l' z z) z<|mv z z<|gy z z (as' z) z<|gy z z (f' 3 bk' z z z) z<|gy z z (M' K' bc z) z<|gy z z (av' z z) z<|yy (l' z z) z<|nx<|L' hr z (fun dn hr=>?_) (fun dn hr=>?_)
  .refine sr<|sg z z<|nx<|j'<|a' ?_
   obtain rfl:_=r:=hr
   exact k' z z z
  refine q'<|ap' X1.m ⟨mr,hr⟩ (f1 z) (w1 z)
 rintro aP ⟨aC,hr⟩
 refine n'<|ah' [ff,ff,ff,ff,ff,tt,tt,ff] mix (by kernel_rfl) fun hb=>cn (fun _ d=>o' 3 aK' z z z) ?_
 obtain⟨cN,c4,hr⟩:=hr
 refine aW' (post:=wl' af' cN) (fun _=>z) (fun _ _=>t' E33 z) (fF' c4) z (fun O d=>trivial) (fun v G1 G2 d h=>?_) ?_
 .obtain⟨bM,bP,rfl,aO⟩:=h
  exact⟨_,_,z,aO.mono d⟩
 obtain⟨Y,c7,hr⟩:=hr
 refine cy' (f:=20) (φ:=w34u' Y) (fun _=>z) (fun v G1 G2 d h=>?_) (fun u O d S=>?_) ?_
 .obtain⟨C,E,K,J,t,A,aw,an,rfl,k,m,l,aa⟩:=h
  exact⟨_,_,_,_,_,_,_,_,z,k.mono d,m.mono d,l.mono d,aa.mono d⟩
 .obtain⟨⟨bM,bP,cm,aO⟩,_⟩:=(show (wl' af' cN) O.m (u 62)/\True from S)
  exact⟨_,_,_,fun _=>t' E20 z,cb' c7,(by simp only[cm] <;> rfl),⟨((bz.mono aC).mono d),((bN.mono aC).mono d),((bD.mono aC).mono d),((bc.mono aC).mono d),aO⟩⟩
 refine bm' (φ:=w34u' Y) (fun _=>z) (fun v G1 G2 d h=>?_) (fun u O d S=>?_) ?_
 .obtain⟨p9,aW,aV,aF,aX,aD,aS,aE,rfl,aI,ak,ax,aq⟩:=h
  exact⟨_,_,_,_,_,_,_,_,z,aI.mono d,ak.mono d,ax.mono d,aq.mono d⟩
 .obtain⟨⟨C,E,K,J,t,A,aw,an,cq,k,m,l,aa⟩,_,_⟩:=(show (w34u' Y) O.m (u 63)/\True/\True from S)
  simp only[undFr,cq]
  exact⟨_,e' z,C,E,K,J,t,A,aw,an,z,k,m,l,aa⟩
 refine bm' (φ:=w34' Y.1) (fun _=>z) (fun v G1 G2 d h=>?_) (fun u O d S=>?_) ?_
 .obtain⟨cF,bF,cM,bJ,cQ,bH,cH,bE,rfl,W,X,V,R⟩:=h
  exact⟨_,_,_,_,_,_,_,_,z,W.mono d,X.mono d,V.mono d,R.mono d⟩
 .obtain⟨⟨p9,aW,aV,aF,aX,aD,aS,aE,ag,aI,ak,ax,aq⟩,_,_,_⟩:=(show (w34u' Y) O.m (u 60)/\True/\True/\True from S)
  simp only[undFr,ag]
  exact⟨_,y' z z,p9,aW,aV,aF,aX,aD,aS,aE,z,aI,ak,ax,aq⟩
 refine bu' (c:=i' Y.2.1) (fun _=>z) (fun u O d S=>?_) ?_
 .obtain⟨_,⟨p9,aW,aV,aF,aX,aD,aS,aE,ag,aI,ak,ax,aq⟩,_,_,_⟩:=(show True/\(w34u' Y) O.m (u 60)/\True/\True/\True from S)
  simp only[undFr,ag]
  exact y' z z
 refine bu' (c:=i' Y.2.2) (fun _=>z) (fun u O d S=>?_) ?_
 .obtain⟨_,⟨p9,aW,aV,aF,aX,aD,aS,aE,ag,aI,ak,ax,aq⟩,_,_,_⟩:=(show True/\(w34u' Y) O.m (u 60)/\True/\True/\True from S)
  simp only[undFr,ag]
  exact y' z z
 refine bD' (fun _=>z) z34<|eh' (fun d2 dV dS dU dG X2 d1 bK bj bx bu bq=>?_)
 obtain⟨b3,rfl,c1⟩:=bK
 obtain⟨cF,bF,cM,bJ,cQ,bH,cH,bE,rfl,W,X,V,R⟩:=bj
 obtain⟨p9,aW,aV,aF,aX,aD,aS,aE,rfl,aI,ak,ax,aq⟩:=bx
 obtain⟨C,E,K,J,t,A,aw,an,rfl,k,m,l,aa⟩:=bu
 obtain⟨bM,bP,rfl,aO⟩:=bq
 refine cq' c1 (cj' (show WL _ _ _ _ _ _ (St w0 G0 X2.m _) from ?_))
 refine s' 6 z bU' z z z z z (List.all_eq_true.1 z)<|sg z z<|sg z z<|u'<|aq'<|g'<|aM' (fun (L:Mem)=>match L with|aY=>[(6,.pointer (some ⟨b3,0,none⟩))]) (fun (L:Mem)=>match L with|aY=>Mem.le X2.m aY/\(Ze9 Y).Ret r) (fun (L:Mem)=>match L with|aY=>St w0 G0 aY [(6,some ⟨b3,.cells ((v34' Y.1 cF bF cM bJ cQ bH cH bE)).toArray 34 (0,0),0⟩)]) ?_ ?_
 .refine sr<|mv z z<|aa' hr z (av' z z) z (fun c2 hr=>?_) (fun c2 hr=>?_)
  .refine mv z z<|sn2 z<|yy (h' z z) z<|mv z z<|sn4 z<|yy (h' z z) z<|mv z z<|sn3 z<|yy (h' z z) z<|nx<|R' z<|sr<|sg z z<|nx<|j'<|a' ?_
   obtain rfl:_=r:=hr
   exact k' z z z
  refine mv z z<|gy z z (e' z) z<|aa' hr (v' z z) (av' z z) z (fun c9 hr=>?_) (fun c9 hr=>?_)
  .refine yy (l' z z) z<|mv z z<|sn4 z<|yy (h' z z) z<|mv z z<|sn3 z<|yy (h' z z) z<|nx<|R' z<|sr<|sg z z<|nx<|j'<|a' ?_
   obtain rfl:_=r:=hr
   exact k' z z z
  refine yy (l' z z) z<|mv z z<|gy z z (as' z) z<|gy z z (f' 6 bk' z z z) z<|gy z z (M' K' R z) z<|aa' hr (v' z z) (av' z z) z (fun cU hr=>?_) (fun cU hr=>?_)
  .refine yy (l' z z) z<|mv z z<|sn3 z<|yy (h' z z) z<|nx<|R' z<|sr<|sg z z<|nx<|j'<|a' ?_
   obtain rfl:_=r:=hr
   exact k' z z z
  refine yy (l' z z) z<|mv z z<|gy z z (o' 6 aK' z z z) z ?_
  obtain⟨dK,ct,hr⟩:=hr
  refine D' (v' z z) z (t' E18 z) (cU' ct) z (⟨W,X,V,R⟩)<|gy z z (aj' z) z<|yy (l' z z) z<|nx<|aL' hr z (fun dw hr=>?_) (fun dw hr=>?_)
  .refine sr<|sg z z<|nx<|j'<|a' ?_
   obtain rfl:_=r:=hr
   exact k' z z z
  refine q'<|ap' X2.m ⟨mr,hr⟩ (f1 z) (w1 z)
 rintro aY ⟨g,hr⟩
 refine sr<|yy (o' 6 aK' z z z) z ?_
 obtain⟨dI,cE,hr⟩:=hr
 refine D' z z (t' E13 z) (ZjB _ _ _ _ _ _ _ _ _ _ _ _ cE) z (⟨(W.mono g),(X.mono g),(V.mono g),(R.mono g)⟩)<|mv z z<|yy (y' z z) z<|yy (y' z z) z<|sg z z<|sg z z<|nr<|yy (o' 6 aK' z z z) z ?_
 obtain⟨bI,cC,hr⟩:=hr
 refine P' z z (t' E22 z) (cL' cC) z (⟨(W.mono g),(X.mono g),(V.mono g),(R.mono g)⟩) (fun dE d6 p a3=>?_)
 obtain⟨ad,ae,ay,av,ah,ac,a7,a6,rfl,s,y,q,T⟩:=a3
 refine mv z z<|yy (y' z z) z<|yy (y' z z) z<|yy (y' z z) z<|T' 11 z z34 z fun b4=>s' 11 z bU' z z z z z (List.all_eq_true.1 z)<|sg z z<|sg z z<|nr<|yy (o' 6 aK' z z z) z ?_
 obtain⟨dR,cw,hr⟩:=hr
 refine P' z z (t' E22 z) (cL' cw) z (⟨(W.mono (mt g p)),(X.mono (mt g p)),(V.mono (mt g p)),(R.mono (mt g p))⟩) (fun dF cL e a4=>?_)
 obtain⟨bg,bf,bs,bk,ba,bd,cZ,dd,rfl,be,bw,bb,da⟩:=a4
 refine mv z z<|yy (y' z z) z<|yy (y' z z) z<|yy (y' z z) z<|T' 14 z z34 z fun b5=>s' 14 z bU' z z z z z (List.all_eq_true.1 z)<|sg z z<|sg z z<|nx<|aM' (fun (L:Mem)=>match L with|aU=>[(11,.pointer (some ⟨b4,0,none⟩))]) (fun (L:Mem)=>match L with|aU=>Mem.le cL aU/\(Ze8 bI).Ret r) (fun (L:Mem)=>match L with|aU=>St w0 G0 aU [(11,some ⟨b4,.cells ((v34' bI.1 ad ae ay av ah ac a7 a6)).toArray 34 (0,0),0⟩)]) ?_ ?_
 .refine sr<|mv z z<|aa' hr z (av' z z) z (fun ds hr=>?_) (fun ds hr=>?_)
  .refine mv z z<|sn2 z<|yy (h' z z) z<|mv z z<|sn2 z<|yy (h' z z) z<|mv z z<|sn2 z<|yy (h' z z) z<|mv z z<|sn4 z<|yy (h' z z) z<|mv z z<|sn2 z<|yy (h' z z) z<|mv z z<|sn2 z<|yy (h' z z) z<|mv z z<|sn3 z<|yy (h' z z) z<|nx<|R' z<|sr<|sg z z<|nx<|j'<|a' ?_
   obtain rfl:_=r:=hr
   exact k' z z z
  refine mv z z<|gy z z (e' z) z<|aa' hr (v' z z) (av' z z) z (fun dg hr=>?_) (fun dg hr=>?_)
  .refine yy (l' z z) z<|mv z z<|sn2 z<|yy (h' z z) z<|mv z z<|sn2 z<|yy (h' z z) z<|mv z z<|sn4 z<|yy (h' z z) z<|mv z z<|sn2 z<|yy (h' z z) z<|mv z z<|sn2 z<|yy (h' z z) z<|mv z z<|sn3 z<|yy (h' z z) z<|nx<|R' z<|sr<|sg z z<|nx<|j'<|a' ?_
   obtain rfl:_=r:=hr
   exact k' z z z
  refine yy (l' z z) z<|mv z z<|gy z z (e' z) z<|aa' hr (v' z z) (av' z z) z (fun dm hr=>?_) (fun dm hr=>?_)
  .refine yy (l' z z) z<|mv z z<|sn2 z<|yy (h' z z) z<|mv z z<|sn4 z<|yy (h' z z) z<|mv z z<|sn2 z<|yy (h' z z) z<|mv z z<|sn2 z<|yy (h' z z) z<|mv z z<|sn3 z<|yy (h' z z) z<|nx<|R' z<|sr<|sg z z<|nx<|j'<|a' ?_
   obtain rfl:_=r:=hr
   exact k' z z z
  refine yy (l' z z) z<|mv z z<|gy z z (e' z) z<|aa' hr (v' z z) (av' z z) z (fun dj hr=>?_) (fun dj hr=>?_)
  .refine yy (l' z z) z<|mv z z<|sn4 z<|yy (h' z z) z<|mv z z<|sn2 z<|yy (h' z z) z<|mv z z<|sn2 z<|yy (h' z z) z<|mv z z<|sn3 z<|yy (h' z z) z<|nx<|R' z<|sr<|sg z z<|nx<|j'<|a' ?_
   obtain rfl:_=r:=hr
   exact k' z z z
  refine yy (l' z z) z<|mv z z<|gy z z (as' z) z<|gy z z (f' 11 bk' z z z) z<|gy z z (M' K' (T.mono e) z) z<|aa' hr (v' z z) (av' z z) z (fun cV hr=>?_) (fun cV hr=>?_)
  .refine yy (l' z z) z<|mv z z<|sn2 z<|yy (h' z z) z<|mv z z<|sn2 z<|yy (h' z z) z<|mv z z<|sn3 z<|yy (h' z z) z<|nx<|R' z<|sr<|sg z z<|nx<|j'<|a' ?_
   obtain rfl:_=r:=hr
   exact k' z z z
  refine yy (l' z z) z<|mv z z<|gy z z (e' z) z<|aa' hr (v' z z) (av' z z) z (fun c3 hr=>?_) (fun c3 hr=>?_)
  .refine yy (l' z z) z<|mv z z<|sn2 z<|yy (h' z z) z<|mv z z<|sn3 z<|yy (h' z z) z<|nx<|R' z<|sr<|sg z z<|nx<|j'<|a' ?_
   obtain rfl:_=r:=hr
   exact k' z z z
  refine yy (l' z z) z<|mv z z<|gy z z (o' 6 aK' z z z) z ?_
  obtain⟨db,ci,hr⟩:=hr
  have N1:=mt (mt g p) e
  refine D' (v' z z) z (t' E16 z) (ZbC _ _ _ _ _ _ _ _ _ _ _ _ ci) z (⟨(W.mono N1),(X.mono N1),(V.mono N1),(R.mono N1)⟩) ?_
  cases db
  .refine yy (l' z z) z<|mv z z<|gy z z (o' 6 aK' z z z) z ?_
   obtain⟨dY,cy,hr⟩:=hr
   refine D' (v' z z) z (t' E16 z) (ZbC _ _ _ _ _ _ _ _ _ _ _ _ cy) z (⟨(W.mono N1),(X.mono N1),(V.mono N1),(R.mono N1)⟩)<|gy z z (aj' z) z<|yy (l' z z) z<|nx<|aL' hr z (fun dx hr=>?_) (fun dx hr=>?_)
   .refine sr<|sg z z<|nx<|j'<|a' ?_
    obtain rfl:_=r:=hr
    exact k' z z z
   refine q'<|ap' cL ⟨mr,hr⟩ (f1 z) (w1 z)
  refine yy (l' z z) z<|mv z z<|sn3 z<|yy (h' z z) z<|nx<|R' z<|sr<|sg z z<|nx<|j'<|a' ?_
  obtain rfl:_=r:=hr
  exact k' z z z
 rintro aU ⟨o,hr⟩
 refine sr<|yy (o' 11 aK' z z z) z ?_
 obtain⟨dT,cD,hr⟩:=hr
 refine P' z z (t' E11 z) (bF' cD) z (⟨(s.mono (mt e o)),(y.mono (mt e o)),(q.mono (mt e o)),(T.mono (mt e o))⟩) (fun dA d8 M a1=>?_)
 obtain⟨ce,cd,cl,ch,bZ,bV,rfl,aG,ck,bX⟩:=a1
 refine mv z z<|yy (y' z z) z<|yy (y' z z) z<|T' 17 z z31 z fun b6=>s' 17 z aU' z z z z z (List.all_eq_true.1 z)<|sg z z<|nr<|yy (o' 11 aK' z z z) z ?_
 obtain⟨dJ,cr,hr⟩:=hr
 have N2:=mt (mt e o) M
 refine P' z z (t' E11 z) (bF' cr) z (⟨(s.mono N2),(y.mono N2),(q.mono N2),(T.mono N2)⟩) (fun dB d5 ai a8=>?_)
 obtain⟨bU,bY,cx,cs,bT,b0,rfl,aH,cp,cb⟩:=a8
 refine mv z z<|yy (y' z z) z<|yy (y' z z) z<|T' 19 z z31 z fun b7=>s' 19 z aU' z z z z z (List.all_eq_true.1 z)<|sg z z<|nr<|yy (o' 11 aK' z z z) z ?_
 obtain⟨dO,co,hr⟩:=hr
 have N3:=mt N2 ai
 refine P' z z (t' E11 z) (bF' co) z (⟨(s.mono N3),(y.mono N3),(q.mono N3),(T.mono N3)⟩) (fun dD d3 bh a2=>?_)
 obtain⟨cf,ca,cv,cg,cc,bW,rfl,bS,cz,b9⟩:=a2
 refine mv z z<|yy (y' z z) z<|yy (y' z z) z<|T' 21 z z31 z fun b8=>s' 21 z aU' z z z z z (List.all_eq_true.1 z)<|sg z z<|nr<|mv z z<|aa' hr z (at' z z) z (fun de hr=>?_) (fun de hr=>?_)
 .refine mv z z<|gy z z (e' z) z<|aa' hr (v' z z) (at' z z) z (fun dy hr=>?_) (fun dy hr=>?_)
  .refine yy (h' z z) z<|mv z z<|gy z z (e' z) z<|aa' hr (v' z z) (at' z z) z (fun dz hr=>?_) (fun dz hr=>?_)
   .refine yy (h' z z) z<|mv z z<|gy z z (aF' z) z<|gy z z (f' 17 bA' z z z) z<|gy z z (M' F' (aG.mono (mt ai bh)) z) z<|aa' hr (v' z z) (at' z z) z (fun dh hr=>?_) (fun dh hr=>?_)
    .refine yy (h' z z) z<|mv z z<|gy z z (aF' z) z<|gy z z (f' 19 bA' z z z) z<|gy z z (M' F' (aH.mono bh) z) z<|aa' hr (v' z z) (at' z z) z (fun dr hr=>?_) (fun dr hr=>?_)
     .refine yy (h' z z) z<|mv z z<|gy z z (aw' (vs:=#[(3,i' 1)]) (v:=.agg ([.slice none 0 0,.slice none 0 0,.slice none 0 0,i' 1]).toArray) z z (fun _=>by kernel_rfl)) z<|gy z z (aw' (vs:=#[(0,.agg ([.slice none 0 0,.slice none 0 0,.slice none 0 0,i' 1]).toArray)]) (v:=.agg ([.slice none 0 0,.slice none 0 0,.slice none 0 0,i' 1,.slice none 0 0]).toArray) z z (fun _=>by kernel_rfl)) z ?_
      obtain⟨dZ,cA,hr⟩:=hr
      refine D' (v' z z) z (t' E18 z) (cU' cA) z (⟨(V' Rp.str _),(V' b' _),(V' b' _),(V' an' _)⟩)<|gy z z (aj' z) z<|yy (h' z z) z<|sg z z<|nx<|j' ?_
      obtain rfl:_=r:=hr
      exact k' z z z
     refine yy (h' z z) z<|mv z z<|sn4 z<|yy (l' z z) z<|sg z z<|nx<|j' ?_
     obtain rfl:_=r:=hr
     exact k' z z z
    refine yy (h' z z) z<|mv z z<|sn4 z<|yy (l' z z) z<|mv z z<|sn4 z<|yy (l' z z) z<|sg z z<|nx<|j' ?_
    obtain rfl:_=r:=hr
    exact k' z z z
   refine yy (h' z z) z<|mv z z<|sn4 z<|yy (l' z z) z<|mv z z<|sn4 z<|yy (l' z z) z<|mv z z<|sn4 z<|yy (l' z z) z<|sg z z<|nx<|j' ?_
   obtain rfl:_=r:=hr
   exact k' z z z
  refine yy (h' z z) z<|mv z z<|sn2 z<|yy (l' z z) z<|mv z z<|sn4 z<|yy (l' z z) z<|mv z z<|sn4 z<|yy (l' z z) z<|mv z z<|sn4 z<|yy (l' z z) z<|sg z z<|nx<|j' ?_
  obtain rfl:_=r:=hr
  exact k' z z z
 refine mv z z<|sn2 z<|yy (l' z z) z<|mv z z<|sn2 z<|yy (l' z z) z<|mv z z<|sn4 z<|yy (l' z z) z<|mv z z<|sn4 z<|yy (l' z z) z<|mv z z<|sn4 z<|yy (l' z z) z<|sg z z<|nx<|j' ?_
 obtain rfl:_=r:=hr
 exact k' z z z
theorem gJ'{r}(hr:(Zj7).Ret r):Ctr prog 45 #[] (fun G=>True) (wl' Rp.str r):=by
 refine E' (args:=[]) (N:=2) func45 z z z fun i j c g=>sr<|sg z z<|nr<|bd' (e:=9) (r:=Rp.str) (vs:=#[(0,.string ZH),(1,.string ZK),(2,.string Zau),(3,.string Zai),(4,.string Z6),(5,.string Z1)]) (cs:=[.string ZH]++([.string ZK]++([.string Zau]++([.string Zai]++([.string Z6]++([.string Z1]++([]))))))) ([ZH,ZK,Zau,Zai,Z6,Z1]:List ByteArray) z z z z z (by decide) (fun _=>by kernel_rfl) ⟨[.string ZH],[.string ZK]++([.string Zau]++([.string Zai]++([.string Z6]++([.string Z1]++([]))))),z,z,⟨[.string ZK],[.string Zau]++([.string Zai]++([.string Z6]++([.string Z1]++([])))),z,z,⟨[.string Zau],[.string Zai]++([.string Z6]++([.string Z1]++([]))),z,z,⟨[.string Zai],[.string Z6]++([.string Z1]++([])),z,z,⟨[.string Z6],[.string Z1]++([]),z,z,⟨[.string Z1],[],z,z,z⟩⟩⟩⟩⟩⟩ (key:=999) z (by rw[c]; rfl) fun k h f d=>sg z z<|nx<|j' ?_
 obtain rfl:_=r:=hr
 exact k' z z ⟨_,_,z,d⟩
theorem gY'{d r}(hr:(ZhK d).Ret r):Ctr prog 61 #[.int .i8 d] (fun G=>True) (fun G v=>v=i' r):=by
 refine E' (args:=[_]) (N:=10) func61 z z z fun g h f e=>sr<|sg z z<|nx<|n'<|sr<|mv z z<|yy (ag' z z) z<|nx<|L' hr z (fun c hr=>?_) (fun c hr=>?_)
 .refine sr<|mv z z<|yy (aO' ex' aE' z) z<|yy (Y0.neg z) z<|sg z z<|nx<|j'<|a' ?_
  obtain rfl:_=r:=hr
  exact k' z z z
 refine q'<|g'<|sr<|mv z z<|yy (aO' ex' aE' z) z<|sg z z<|nx<|j' ?_
 obtain rfl:_=r:=hr
 exact k' z z z
theorem dR'{f i j r}(hr:(Zcc f).Ret r):Ctr prog 166 #[.slice i f.length j] (fun G=>sl (Rp.int .u32) G i j f) (wl' (Rp.int .u32) r):=by
 refine E' (args:=[_]) (N:=21) func166 z z z (fun s l E p=>?_)
 have k:=p
 refine sr<|sg z z<|nr<|mv z z<|yy (M' B' k z) z<|sg z z<|nx<|n'<|ak' (fun (⟨h,g⟩:Int×Mem)=>[(0,.slice i f.length j),(3,i' h)]) (fun ⟨h,g⟩=>Mem.le l g/\(Zfk f h).Ret r) (fun ⟨h,g⟩=>St s l g []) ?_ ?_
 .refine C' ?_
  let m:Int->Prop:=fun y=>((fun A=>match A with|h=>Zfk f h:Int->Cq (List Int)) y).wp (fun a=>a=r)
  replace hr:(Cq.loop _ _).wp m:=hr
  refine al' (Φ:=m) (fun (⟨e,d⟩:Int×Mem)=>(e:Int)) (fun ⟨e,d⟩=>[(0,.slice i f.length j),(3,i' e)]) (fun ⟨e,d⟩=>Mem.le l d) (fun ⟨e,d⟩=>St s l d []) ⟨(f.length:Int),l⟩ hr (f2 z z) mr (wk ln) ?_
  .intro C x B hr
   obtain⟨e,d⟩:=x
   have c:=B
   refine n'<|sr<|mv z z<|aa' hr z (bh' z z) z (fun t hr=>?_) (fun t hr=>?_)
   .refine mv z z<|gy z z (e' z) z<|gy z z (e' z) z<|gy z z (bi' z z) z ?_
    obtain⟨F,o,hr⟩:=hr
    refine gy z z (Q' B' bs' (k.mono c) z z o) z<|gy z z (Y' bR' z (aD' (H' (ab' k o) c))) z<|gy z z (at' z z) z<|yy (h' z z) z<|nx<|L' hr z (fun v hr=>?_) (fun v hr=>?_)
    .refine q'<|g'<|C'<|A'<|mv z z<|yy (bi' z z) z<|sg z z<|u'<|J'<|X' ⟨i64.wrap (e-1),d⟩ hr c (f2 z z) (wk ln)
    refine am'<|r'<|r'<|O'<|ao' ⟨e,d⟩ ⟨c,hr⟩ (f2 z z) (wk ln)
   refine mv z z<|sn6 z<|yy (l' z z) z<|nx<|bb' z<|am'<|r'<|r'<|O'<|ao' ⟨e,d⟩ ⟨c,hr⟩ (f2 z z) (wk ln)
 rintro⟨h,g⟩ ⟨n,hr⟩
 refine g'<|sr<|mv z z<|mv z z ?_
 obtain⟨q,hr⟩:=hr
 refine WL.sliceRH (r:=(Rp.int .u32)) z z B' bs' z (k.mono n) z z q fun H D u=>sg z z<|nx<|j' ?_
 obtain rfl:_=r:=hr
 exact k' z z ⟨_,_,z,u⟩
theorem eq'{c r}(hr:(ZdE c).Ret r):Ctr prog 119 #[.int .u64 c] (fun G=>True) (wl' (Rp.int .u32) r):=by
 refine E' (args:=[_]) (N:=11) func119 z z z fun t u i m=>sr<|sg z z<|nr<|mv z z<|yy (bE' z z (by decide)) z<|yy (aO' az' aB' z) z<|mv z z<|yy (dV' z z (by decide)) z<|yy (aO' az' aB' z) z<|bd' (e:=202) (r:=(Rp.int .u32)) (vs:=#[(0,.int .u32 (u32.wrap (Int.tmod c 4294967296))),(1,.int .u32 (u32.wrap (u64.wrap (Int.tdiv c 4294967296))))]) (cs:=[.int .u32 (u32.wrap (Int.tmod c 4294967296))]++([.int .u32 (u32.wrap (u64.wrap (Int.tdiv c 4294967296)))]++([]))) ([u32.wrap (Int.tmod c 4294967296),u32.wrap (u64.wrap (Int.tdiv c 4294967296))]:List Int) z z z z z (by decide) (fun _=>by kernel_rfl) ⟨[.int .u32 (u32.wrap (Int.tmod c 4294967296))],[.int .u32 (u32.wrap (u64.wrap (Int.tdiv c 4294967296)))]++([]),z,z,⟨[.int .u32 (u32.wrap (u64.wrap (Int.tdiv c 4294967296)))],[],z,z,z⟩⟩ (key:=999) z (by rw[i]; rfl) (fun v s k h=>?_)
 obtain⟨q,g,hr⟩:=hr
 refine P' z z (t' E166 z) (dR' g) z (h) (fun n p j d=>?_)
 obtain⟨o,l,rfl,f⟩:=d
 refine sg z z<|nx<|j' ?_
 obtain rfl:_=r:=hr
 exact k' z z ⟨_,_,z,f⟩
theorem cO'{h m j k r}(hr:(ZaY h m).Ret r):Ctr prog 118 #[.bool h,.slice j m.length k] (fun G=>sl (Rp.int .u32) G j k m) (w128' r):=by
 refine E' (args:=[_,_]) (N:=16) func118 z z z (fun x y u l=>?_)
 have o:=l
 refine sr<|T' 4 z z128 z fun A=>nr<|mv z z ?_
 obtain⟨c,n,hr⟩:=hr
 refine P' z z (t' E166 z) (dR' n) z (o) (fun s t q g=>?_)
 obtain⟨e,d,rfl,f⟩:=g
 refine sg z z<|nr<|aa' hr z (cZ' (e' z) (congrArg Value.bool (bdec _))) z (fun p hr=>?_) (fun p hr=>?_)
 .refine mv z z<|gy z z (e' z) z<|gy z z (M' B' f z) z<|gy z z (bh' z z) z<|yy (h' z z) z<|mv z z<|yy (aw' (vs:=#[(0,.bool (decide (0<(c.length:Int)))),(1,.slice e c.length d)]) (v:=.agg ([.bool (decide (0<(c.length:Int))),.slice e c.length d]).toArray) z z (fun _=>by kernel_rfl)) z<|s' 4 z dk' z z z z z (List.all_eq_true.1 z)<|nx<|j' ?_
  obtain rfl:_=r:=hr
  exact k' z (ac' (i:=4) bt' z z z) ⟨_,_,z,f⟩
 refine mv z z<|sn3 z<|yy (l' z z) z<|mv z z<|yy (aw' (vs:=#[(0,.bool false),(1,.slice e c.length d)]) (v:=.agg ([.bool false,.slice e c.length d]).toArray) z z (fun _=>by kernel_rfl)) z<|s' 4 z dk' z z z z z (List.all_eq_true.1 z)<|nx<|j' ?_
 obtain rfl:_=r:=hr
 exact k' z (ac' (i:=4) bt' z z z) ⟨_,_,z,f⟩
theorem fU'{u r}(hr:(ZiU u).Ret r):Ctr prog 84 #[i' u] (fun G=>True) (w128' r):=by
 refine E' (args:=[_]) (N:=16) func84 z z z fun W X T D=>sr<|T' 2 z z128 z fun Y=>nx<|n'<|sr<|mv z z<|yy (ag' z z) z<|nx<|L' hr z (fun v hr=>?_) (fun v hr=>?_)
 .refine sr<|mv z z<|yy (W' z z) z<|yy (Y0.neg z) z<|yy (aO' underlying2 az' z) z<|yy (W' z z) z ?_
  obtain⟨P,l,hr⟩:=hr
  refine P' z z (t' E119 z) (eq' l) z (trivial) (fun F Q y g=>?_)
  obtain⟨J,C,rfl,j⟩:=g
  obtain⟨S,k,hr⟩:=hr
  refine P' z z (t' E118 z) (cO' k) z (j) (fun K O x f=>?_)
  obtain⟨q,t,rfl,e⟩:=f
  refine s' 2 z dk' z z z z z (List.all_eq_true.1 z)<|nx<|j'<|a' ?_
  obtain rfl:_=r:=hr
  exact k' z (ac' (i:=2) bt' z z z) ⟨_,_,z,e⟩
 refine q'<|g'<|sr<|mv z z<|yy (aO' underlying2 az' z) z ?_
 obtain⟨M,o,hr⟩:=hr
 refine P' z z (t' E119 z) (eq' o) z (trivial) (fun E V B c=>?_)
 obtain⟨H,L,rfl,m⟩:=c
 obtain⟨R,n,hr⟩:=hr
 refine P' z z (t' E118 z) (cO' n) z (m) (fun I U A h=>?_)
 obtain⟨s,p,rfl,d⟩:=h
 refine s' 2 z dk' z z z z z (List.all_eq_true.1 z)<|nx<|j' ?_
 obtain rfl:_=r:=hr
 exact k' z (ac' (i:=2) bt' z z z) ⟨_,_,z,d⟩
theorem fG'{q r}(hr:(ZdF q).Ret r):Ctr prog 64 #[i' q] (fun G=>True) (w130' r):=by
 refine E' (args:=[_]) (N:=7) func64 z z z fun C D B t=>sr<|T' 2 z z130 z fun E=>nr<|mv z z ?_
 obtain⟨l,p,hr⟩:=hr
 refine P' z z (t' E84 z) (fU' p) z (trivial) (fun u A s j=>?_)
 obtain⟨d,c,rfl,k⟩:=j
 obtain⟨m,o,hr⟩:=hr
 refine P' z z (t' E84 z) (fU' o) z (trivial) (fun x y n h=>?_)
 obtain⟨e,f,rfl,g⟩:=h
 refine yy (aw' (vs:=#[(0,.agg ((v128' l d c)).toArray),(1,.agg ((v128' m e f)).toArray)]) (v:=.agg ([.bool l.neg,.slice d l.mag.length c,.bool m.neg,.slice e m.mag.length f]).toArray) z z (fun _=>by kernel_rfl)) z<|s' 2 z sz130 z z z z z (List.all_eq_true.1 z)<|nx<|j' ?_
 obtain rfl:_=r:=hr
 exact k' z (ac' (i:=2) cN' z z z) ⟨_,_,_,_,z,(k.mono n),g⟩
theorem eV'{f c d r}(hr:(Zf8 f).Ret r):Ctr prog 115 #[.agg ((v128' f c d)).toArray] (fun G=>sl (Rp.int .u32) G c d f.mag) (fun G v=>v=i' r):=by
 refine E' (args:=[_]) (N:=9) func115 z z z (fun j k i g=>?_)
 have e:=g
 refine sr<|ad' 1 z z z fun l=>sg z z<|nx<|n'<|sr<|yy (br' z) z<|yy (f' 1 sc4 z z z) z<|nx<|aL' hr z (fun h hr=>?_) (fun h hr=>?_)
 .refine sr<|sg z z<|nx<|j'<|a' ?_
  obtain rfl:_=r:=hr
  exact k' z z z
 refine q'<|g'<|sr<|yy (aY' z) z<|yy (f' 1 bI' z z z) z<|yy (M' B' e z) z<|yy (Y0.min2 z z) z<|sg z z<|nx<|j' ?_
 obtain rfl:_=r:=hr
 exact k' z z z
theorem eW'{h c d e f r}(hr:(Zcd h).Ret r):Ctr prog 82 #[.agg ((v130' h c d e f)).toArray] (fun G=>sl (Rp.int .u32) G c d h.num.mag/\sl (Rp.int .u32) G e f h.den.mag) (fun G v=>v=i' r):=by
 refine E' (args:=[_]) (N:=6) func82 z z z (fun n o m j=>?_)
 obtain⟨g,i⟩:=j
 refine sr<|ad' 1 z z z fun p=>sg z z<|nr<|yy (cz' z) z<|yy (aH' ((v128' h.num c d)).toArray 1 bt' z z z (aT' ([]) ((v128' h.num c d)) ((v128' h.den e f)))) z ?_
 obtain⟨l,k,hr⟩:=hr
 refine D' z z (t' E115 z) (eV' k) z (g)<|sg z z<|nx<|j' ?_
 obtain rfl:_=r:=hr
 exact k' z z z
theorem fH'{l r}(hr:(ZeZ l).Ret r):Ctr prog 148 #[.agg (vecG (Value.int .i64) 8 l).toArray] (fun G=>True) (fun G v=>v = .bool r):=by
 refine E' (args:=[_]) (N:=18) func148 z z z fun m h B t=>sr<|ad' 1 z z z fun o=>sg z z<|nx<|n'<|sr<|sg z z<|nx<|ak' (fun (e:Mem)=>match e with|d=>[]) (fun (e:Mem)=>match e with|d=>Mem.le h d/\(Zep).Ret r) (fun (e:Mem)=>match e with|d=>St m h d []) ?_ ?_
 .refine C' ?_
  let i:(Bool⊕Unit)->Prop:=fun u=>((fun x=>match x with | .inl rv1=>Cq.ret rv1 | .inr ()=>Zep:(Bool⊕Unit)->Cq Bool) u).wp (fun a=>a=r)
  replace hr:(Cq.loop _ _).wp i:=hr
  refine al' (Φ:=i) (fun (⟨f,c⟩:Int×Mem)=>(f:Int)) (fun ⟨f,c⟩=>[(1,.pointer (some ⟨o,0,none⟩)),(3,i' f)]) (fun ⟨f,c⟩=>Mem.le h c) (fun ⟨f,c⟩=>St m h c [(1,some ⟨o,.cells (vecG (Value.int .i64) 8 l).toArray 120 (0,0),0⟩)]) ⟨0,h⟩ hr (f2 z z) mr (w1 z) ?_
  .intro A e y hr
   obtain⟨f,c⟩:=e
   have g:=y
   refine n'<|sr<|mv z z<|yy (ag' z z) z<|nx<|L' hr z (fun q hr=>?_) (fun q hr=>?_)
   .refine q'<|g'<|n'<|C'<|sr<|mv z z ?_
    obtain⟨k,hr⟩:=hr
    refine yy (bg' aN' sz3 z z k) z<|yy (f' 1 sc3 z z (bj' _ _ _ k)) z<|aa' hr z (ag' z z) z (fun n hr=>?_) (fun n hr=>?_)
    .refine mv z z<|sn4 z<|yy (h' z z) z<|nx<|R' z<|sr<|sg z z<|nx<|j'<|m'<|a'<|a'<|m'<|ae'<|a' ?_
     obtain rfl:_=r:=hr
     exact k' z z z
    refine mv z z<|gy z z (e' z) z ?_
    obtain⟨j,hr⟩:=hr
    refine gy z z (bg' aN' sz3 z z j) z<|gy z z (f' 1 sc3 z z (bj' _ _ _ j)) z<|gy z z (bh' z z) z<|yy (l' z z) z<|nx<|L' hr z (fun p hr=>?_) (fun p hr=>?_)
    .exact (show False from hr).elim
    refine q'<|J'<|g'<|A'<|mv z z<|yy (W' z z) z<|sg z z<|u'<|X' ⟨i64.wrap (f+1),c⟩ hr g (f2 z z) (w1 z)
   refine am'<|r'<|r'<|O'<|ao' c ⟨g,hr⟩ fn (wk ln)
 rintro d ⟨s,hr⟩
 refine g'<|sr<|sg z z<|nx<|j' ?_
 obtain rfl:_=r:=hr
 exact k' z z z
theorem gZ'{s l r}(hr:(ZjH s l).Ret r):Ctr prog 116 #[.agg (vecG (Value.int .i64) 8 s).toArray,.agg (vecG (Value.int .i64) 8 l).toArray] (fun G=>True) (fun G v=>v = .tuple #[.agg (vecG (Value.int .i64) 8 r.1).toArray,i' r.2]):=by
 refine E' (args:=[_,_]) (N:=24) func116 z z z fun y k Q H=>sr<|ad' 2 z z z fun n=>ad' 3 z z z fun C=>T' 4 z z120 z fun o=>sg z z<|nx<|n'<|sr<|sg z z<|nx<|ak' (fun (⟨d,g⟩:(Fin 8->Int)×Mem)=>[(2,.pointer (some ⟨n,0,none⟩)),(4,.pointer (some ⟨o,0,none⟩))]) (fun ⟨d,g⟩=>Mem.le k g/\(Zge d).Ret r) (fun ⟨d,g⟩=>St y k g [(2,some ⟨n,.cells (vecG (Value.int .i64) 8 d).toArray 120 (0,0),0⟩),(4,some ⟨o,.cells (vecG (Value.int .i64) 8 (fun _=>0)).toArray 120 (0,0),0⟩)]) ?_ ?_
 .refine C' ?_
  let m:(Fin 8->Int)->Prop:=fun J=>((fun K=>match K with|d=>Zge d:(Fin 8->Int)->Cq ((Fin 8->Int)×Int)) J).wp (fun a=>a=r)
  replace hr:(Cq.loop _ _).wp m:=hr
  refine al' (Φ:=m) (fun (⟨e,c,f⟩:Int×(Fin 8->Int)×Mem)=>((e,c):Int×(Fin 8->Int))) (fun ⟨e,c,f⟩=>[(2,.pointer (some ⟨n,0,none⟩)),(3,.pointer (some ⟨C,0,none⟩)),(4,.pointer (some ⟨o,0,none⟩)),(6,i' e)]) (fun ⟨e,c,f⟩=>Mem.le k f) (fun ⟨e,c,f⟩=>St y k f [(2,some ⟨n,.cells (vecG (Value.int .i64) 8 c).toArray 120 (0,0),0⟩),(3,some ⟨C,.cells (vecG (Value.int .i64) 8 l).toArray 120 (0,0),0⟩),(4,some ⟨o,.cells (vecG (Value.int .i64) 8 (fun _=>0)).toArray 120 (0,0),0⟩)]) ⟨0,s,k⟩ hr (f4 z z z z) mr (w3 z z z) ?_
  .intro O I M hr
   obtain⟨e,c,f⟩:=I
   have j:=M
   refine n'<|sr<|mv z z<|yy (ag' z z) z<|nx<|L' hr z (fun D hr=>?_) (fun D hr=>?_)
   .refine q'<|g'<|n'<|C'<|ah' [ff,ff,ff,ff,ff,ff] mix (by kernel_rfl) fun L=>cn (fun _ h=>e' z) ?_
    obtain⟨q,hr⟩:=hr
    refine cn (fun _ h=>bg' aN' sz3 z z q)<|cn (fun _ h=>f' 2 sc3 z z (bj' _ _ _ q))<|cn (fun _ h=>e' z) ?_
    obtain⟨p,hr⟩:=hr
    refine cn (fun _ h=>bg' aN' sz3 z z p)<|cn (fun _ h=>f' 3 sc3 z z (bj' _ _ _ p))<|U' L<|yy (W' z z) z ?_
    obtain⟨A,hr⟩:=hr
    refine yy (bg' aN' sz3 z z A) z<|aG' 2 (vecG (Value.int .i64) 8 (setF c e.toNat (i64.wrap ((getF c e)+(getF l e))))).toArray z sz3 z z z (by first|(rw[Z']; omega)|(show _<(vecG _ _ _).toArray.size; rw[Z']; omega)) z (cf' _ _ _ _ _)<|u'<|aq'<|J'<|g'<|A'<|mv z z<|yy (W' z z) z<|sg z z<|u'<|X' ⟨i64.wrap (e+1),setF c e.toNat (i64.wrap ((getF c e)+(getF l e))),f⟩ hr j (f4 z z z z) (w3 z z z)
   refine am'<|r'<|r'<|O'<|ao' ⟨c,f⟩ ⟨j,hr⟩ (f2 z z) (w2 z z)
 rintro⟨d,g⟩ ⟨F,hr⟩
 refine g'<|n'<|sr<|yy (o' 2 bP' z z (Z' _ _ _)) z ?_
 obtain⟨P,t,hr⟩:=hr
 refine D' z z (t' E148 z) (fH' t) z (trivial)<|yy (aj' z) z<|nx<|aL' hr z (fun E hr=>?_) (fun E hr=>?_)
 .exact (show False from hr).elim
 refine q'<|g'<|sr<|yy (o' 2 bP' z z (Z' _ _ _)) z<|s' 4 z sz120 z z z (Z' _ _ _) (Z' _ _ _) (fun u B=>Rp.one (dv' .i64 8) (G:=g) (x:=d) (cs:=vecG (Value.int .i64) 8 d) z u (by first|simpa using B|simpa [Value.cells] using B))<|sg z z<|nx<|j' ?_
 obtain rfl:_=r:=hr
 exact aC' z (ac' (i:=4) bP' z z (Z' _ _ _)) z z
theorem gK'{d c F C H D r}(hr:(Zj5 d c).Ret r):Ctr prog 165 #[.slice F d.length C,.slice H c.length D] (fun G=>sl (Rp.int .u32) G F C d/\sl (Rp.int .u32) G H D c) (wl' (Rp.int .u32) r):=by
 refine E' (args:=[_,_]) (N:=69) func165 z z z (fun W O ar ah=>?_)
 obtain⟨I,B⟩:=ah
 refine sr<|sg z z<|nr<|mv z z<|yy (M' B' I z) z<|mv z z<|yy (M' B' B z) z<|yy (W' z z) z ?_
 obtain⟨au,hr⟩:=hr
 refine dP' (r:=(Rp.int .u32)) (e:=202) (n:=i64.wrap ((d.length:Int)+(c.length:Int))) (zx:=0) 4015 z z B' el202 z (by decide) (by decide) z z z au fun M ak aq=>sg z z<|nx<|n'<|sr<|sg z z<|nx<|ak' (fun (⟨A,x,K⟩:(List Int)×Option Ow×Mem)=>[(5,.slice M (i64.wrap ((d.length:Int)+(c.length:Int))).toNat ((i64.wrap ((d.length:Int)+(c.length:Int))).toNat))]) (fun ⟨A,x,K⟩=>Mem.le O K/\RowR (Rp.int .u32) 202 K (.slice M (i64.wrap ((d.length:Int)+(c.length:Int))).toNat ((i64.wrap ((d.length:Int)+(c.length:Int))).toNat)) A x/\(Zen A).Ret r) (fun ⟨A,x,K⟩=>St W O K [(4015,x)]) ?_ ?_
 .refine C' ?_
  let L:(List Int)->Prop:=fun oo=>((fun ov=>match ov with|A=>Zen A:(List Int)->Cq (List Int)) oo).wp (fun a=>a=r)
  replace hr:(Cq.loop _ _).wp L:=hr
  refine al' (Φ:=L) (fun (⟨t,h,g,s⟩:(List Int)×Option Ow×Int×Mem)=>((t,g):(List Int)×Int)) (fun ⟨t,h,g,s⟩=>[(0,.slice F d.length C),(1,.slice H c.length D),(5,.slice M (i64.wrap ((d.length:Int)+(c.length:Int))).toNat ((i64.wrap ((d.length:Int)+(c.length:Int))).toNat)),(6,i' g)]) (fun ⟨t,h,g,s⟩=>Mem.le O s/\RowR (Rp.int .u32) 202 s (.slice M (i64.wrap ((d.length:Int)+(c.length:Int))).toNat ((i64.wrap ((d.length:Int)+(c.length:Int))).toNat)) t h) (fun ⟨t,h,g,s⟩=>St W O s [(4015,h)]) ⟨(List.replicate (i64.wrap ((d.length:Int)+(c.length:Int))).toNat 0),ak,0,O⟩ hr (f4 z z z z) ⟨mr,aq⟩ (w1 z) ?_
  .intro af gx hx hr
   obtain⟨t,h,g,s⟩:=gx
   obtain⟨j,Q⟩:=hx
   refine n'<|sr<|mv z z<|mv z z<|yy (M' B' (I.mono j) z) z<|yy (ag' z z) z<|nx<|L' hr z (fun aw hr=>?_) (fun aw hr=>?_)
   .refine q'<|g'<|n'<|C'<|sr<|sg z z<|nx<|n'<|sr<|sg z z<|nx<|ak' (fun (⟨q,u,m,J⟩:(List Int)×Option Ow×Int×Mem)=>[(0,.slice F d.length C),(1,.slice H c.length D),(5,.slice M (i64.wrap ((d.length:Int)+(c.length:Int))).toNat ((i64.wrap ((d.length:Int)+(c.length:Int))).toNat)),(6,i' g),(7,.int .u64 m)]) (fun ⟨q,u,m,J⟩=>Mem.le s J/\RowR (Rp.int .u32) 202 J (.slice M (i64.wrap ((d.length:Int)+(c.length:Int))).toNat ((i64.wrap ((d.length:Int)+(c.length:Int))).toNat)) q u/\(Zeo c g q m).wp (Out af L)) (fun ⟨q,u,m,J⟩=>St W O J [(4015,u)]) ?_ ?_
    .refine C' ?_
     let U:(((List Int)×Int))->Prop:=fun oo=>((fun ov=>match ov with|(q,m)=>Zeo c g q m:(((List Int)×Int))->Cq (((List Int)×Int)⊕(List Int))) oo).wp (Out af L)
     replace hr:(Cq.loop _ _).wp U:=hr
     refine al' (Φ:=U) (fun (⟨v,l,k,p,E⟩:(List Int)×Option Ow×Int×Int×Mem)=>((v,k,p):(List Int)×Int×Int)) (fun ⟨v,l,k,p,E⟩=>[(0,.slice F d.length C),(1,.slice H c.length D),(5,.slice M (i64.wrap ((d.length:Int)+(c.length:Int))).toNat ((i64.wrap ((d.length:Int)+(c.length:Int))).toNat)),(6,i' g),(7,.int .u64 k),(8,i' p)]) (fun ⟨v,l,k,p,E⟩=>Mem.le s E/\RowR (Rp.int .u32) 202 E (.slice M (i64.wrap ((d.length:Int)+(c.length:Int))).toNat ((i64.wrap ((d.length:Int)+(c.length:Int))).toNat)) v l) (fun ⟨v,l,k,p,E⟩=>St W O E [(4015,l)]) ⟨t,h,0,0,s⟩ hr (f6 z z z z z z) ⟨mr,Q⟩ (w1 z) ?_
     .intro aH gx hx hr
      obtain⟨v,l,k,p,E⟩:=gx
      obtain⟨o,y⟩:=hx
      refine n'<|sr<|mv z z<|mv z z<|yy (M' B' (B.mono (mt j o)) z) z<|yy (ag' z z) z<|nx<|L' hr z (fun av hr=>?_) (fun av hr=>?_)
      .refine q'<|g'<|n'<|C'<|n'<|ah' [ff,ff,ff,ff,ff,ff,ff,ff,ff,ff,ff,ff,ff,ff,ff,ff,ff,ff,ff,ff] mix (by kernel_rfl) fun hb=>cn (fun _ f=>e' z)<|cn (fun _ f=>e' z) ?_
       obtain⟨V,ab,hr⟩:=hr
       refine cn (fun _ f=>Q' B' bs' ((I.mono (mt j o)).mono f) z z ab)<|cn (fun _ f=>Y' bR' z (aD' (H' (H' (ab' I ab) (mt j o)) f)))<|cn (fun _ f=>aO' aB' az' z)<|cn (fun _ f=>e' z)<|cn (fun _ f=>e' z) ?_
       obtain⟨Y,ae,hr⟩:=hr
       refine cn (fun _ f=>Q' B' bs' ((B.mono (mt j o)).mono f) z z ae)<|cn (fun _ f=>Y' bR' z (aD' (H' (H' (ab' B ae) (mt j o)) f)))<|cn (fun _ f=>aO' aB' az' z)<|cn (fun _ f=>Y0.mul z z)<|cn (fun _ f=>e' z)<|cn (fun _ f=>e' z)<|cn (fun _ f=>e' z)<|cn (fun _ f=>W' z z) ?_
       obtain⟨X,ac,hr⟩:=hr
       refine cn (fun _ f=>ba' B' bs' (y.mono f) z z ac)<|cn (fun _ f=>dQ' bR' (y.mono f) (key:=4015) z z (aD' (cS' y ac)))<|cn (fun _ f=>aO' aB' az' z)<|cn (fun _ f=>W' z z)<|cn (fun _ f=>e' z)<|U' hb<|yy (W' z z) z<|sg z z<|u'<|aq'<|g'<|sr<|mv z z<|mv z z<|mv z z<|yy (W' z z) z<|mv z z<|yy (bE' z z (by decide)) z<|yy (aO' az' aB' z) z ?_
       obtain⟨x5,ad,hr⟩:=hr
       refine yy (ba' B' bs' y z z ad) z<|bv' (r:=(Rp.int .u32)) (e:=202) (cs':=[.int .u32 (u32.wrap (Int.tmod (u64.wrap ((u64.wrap ((u64.wrap ((u64.wrap V)*(u64.wrap Y)))+(u64.wrap X)))+k)) 4294967296))]) (i:=i64.wrap (g+p)) (z':=u32.wrap (Int.tmod (u64.wrap ((u64.wrap ((u64.wrap ((u64.wrap V)*(u64.wrap Y)))+(u64.wrap X)))+k)) 4294967296)) 4015 z bs' z y z z z z z ad fun ax ao=>nx<|A'<|mv z z<|yy (dV' z z (by decide)) z<|sg z z<|u'<|J'<|g'<|A'<|mv z z<|yy (W' z z) z<|sg z z<|u'<|X' ⟨(v.set (i64.wrap (g+p)).toNat (u32.wrap (Int.tmod (u64.wrap ((u64.wrap ((u64.wrap ((u64.wrap V)*(u64.wrap Y)))+(u64.wrap X)))+k)) 4294967296))),ax,u64.wrap (Int.tdiv (u64.wrap ((u64.wrap ((u64.wrap ((u64.wrap V)*(u64.wrap Y)))+(u64.wrap X)))+k)) 4294967296),i64.wrap (p+1),E⟩ hr ⟨o,ao⟩ (f6 z z z z z z) (w1 z)
      refine am'<|r'<|r'<|O'<|ao' ⟨v,l,k,E⟩ ⟨o,y,hr⟩ (f5 z z z z z) (w1 z)
    rintro⟨q,u,m,J⟩ ⟨P,R,hr⟩
    refine g'<|A'<|mv z z<|mv z z<|mv z z<|yy (M' B' (B.mono (mt j P)) z) z<|yy (W' z z) z<|mv z z<|yy (aO' az' aB' z) z ?_
    obtain⟨x1,aa,hr⟩:=hr
    refine yy (ba' B' bs' R z z aa) z<|bv' (r:=(Rp.int .u32)) (e:=202) (cs':=[.int .u32 (u32.wrap m)]) (i:=i64.wrap (g+(c.length:Int))) (z':=u32.wrap m) 4015 z bs' z R z z z z z aa fun ay am=>u'<|J'<|g'<|A'<|mv z z<|yy (W' z z) z<|sg z z<|u'<|X' ⟨(q.set (i64.wrap (g+(c.length:Int))).toNat (u32.wrap m)),ay,i64.wrap (g+1),J⟩ hr ⟨(mt j P),am⟩ (f4 z z z z) (w1 z)
   refine am'<|r'<|r'<|O'<|ao' ⟨t,h,s⟩ ⟨j,Q,hr⟩ (f1 z) (w1 z)
 rintro⟨A,x,K⟩ ⟨aB,Z,hr⟩
 refine g'<|sr<|mv z z<|bM' (r:=(Rp.int .u32)) (e:=202) 4015 Z z (by rw[ar]; rfl) (fun aI aL aC T az=>?_)
 obtain⟨aK,aj,hr⟩:=hr
 refine P' z z (t' E166 z) (dR' aj) (by rw[dj' T]) ((de' T)) (fun aG aJ aA S=>?_)
 obtain⟨aE,aF,rfl,ap⟩:=S
 refine sg z z<|nx<|j' ?_
 obtain rfl:_=r:=hr
 exact k' z z ⟨_,_,z,ap⟩
theorem ey'{u A j e g f r}(hr:(Zei u A).Ret r):Ctr prog 114 #[.agg ((v128' u j e)).toArray,.agg ((v128' A g f)).toArray] (fun G=>sl (Rp.int .u32) G j e u.mag/\sl (Rp.int .u32) G g f A.mag) (w128' r):=by
 refine E' (args:=[_,_]) (N:=16) func114 z z z (fun O Q M t=>?_)
 obtain⟨o,p⟩:=t
 refine sr<|ad' 2 z z z fun P=>ad' 3 z z z fun S=>T' 4 z z128 z fun R=>nx<|n'<|ah' [ff,ff,ff,ff,ff,ff,ff,ff,ff,ff] mix (by kernel_rfl) fun T=>cn (fun _ c=>br' z)<|cn (fun _ c=>f' 2 sc4 z z z)<|cn (fun _ c=>br' z)<|cn (fun _ c=>f' 3 sc4 z z z)<|cn (fun _ c=>Y0.neqB cr' z z)<|cn (fun _ c=>aY' z)<|cn (fun _ c=>f' 2 bI' z z z)<|cn (fun _ c=>aY' z)<|cn (fun _ c=>f' 3 bI' z z z) ?_
 obtain⟨q,y,hr⟩:=hr
 refine aW' (post:=wl' (Rp.int .u32) q) (fun _=>z) (fun _ _=>t' E165 z) (gK' y) z (fun U c=>⟨(o.mono c),(p.mono c)⟩) (fun v V W c h=>?_) ?_
 .obtain⟨B,s,rfl,k⟩:=h
  exact⟨_,_,z,k.mono c⟩
 refine cQ' (d:=14) (post:=wl' (Rp.int .u32) q) (fun H K F n=>?_)
 obtain⟨B,s,rfl,k⟩:=n
 obtain⟨L,x,hr⟩:=hr
 refine P' z z (t' E118 z) (cO' x) z (k) (fun I J E m=>?_)
 obtain⟨C,D,rfl,l⟩:=m
 refine s' 4 z dk' z z z z z (List.all_eq_true.1 z)<|u'<|aq'<|g'<|j' ?_
 obtain rfl:_=r:=hr
 exact k' z (ac' (i:=4) bt' z z z) ⟨_,_,z,l⟩
theorem dC'{g j e f r}(hr:(Zc8 g j).Ret r):Ctr prog 194 #[.slice e g.length f,i' j] (fun G=>sl (Rp.int .u32) G e f g) (fun G v=>v = .int .u64 r):=by
 refine E' (args:=[_,_]) (N:=14) func194 z z z (fun m n k h=>?_)
 have c:=h
 refine sr<|sg z z<|nx<|n'<|sr<|mv z z<|mv z z<|yy (M' B' c z) z<|yy (ag' z z) z<|nx<|L' hr z (fun i hr=>?_) (fun i hr=>?_)
 .refine sr<|mv z z<|mv z z ?_
  obtain⟨l,d,hr⟩:=hr
  refine yy (Q' B' bs' c z z d) z<|yy (Y' bR' z (aD' (ab' c d))) z<|yy (aO' aB' az' z) z<|sg z z<|nx<|j'<|a' ?_
  obtain rfl:_=r:=hr
  exact k' z z z
 refine q'<|g'<|sr<|sg z z<|nx<|j' ?_
 obtain rfl:_=r:=hr
 exact k' z z z
theorem fq'{f c d r}(hr:(Zf9 f).Ret r):Ctr prog 208 #[.slice c f.length d] (fun G=>sl (Rp.int .u32) G c d f) (fun G v=>v = .int .u64 r):=by
 refine E' (args:=[_]) (N:=9) func208 z z z (fun m n l g=>?_)
 have e:=g
 refine sr<|sg z z<|nr<|mv z z ?_
 obtain⟨k,i,hr⟩:=hr
 refine D' z z (t' E194 z) (dC' i) z (e)<|yy (Y0.mul z z) z<|mv z z ?_
 obtain⟨j,h,hr⟩:=hr
 refine D' z z (t' E194 z) (dC' h) z (e)<|yy (W' z z) z<|sg z z<|nx<|j' ?_
 obtain rfl:_=r:=hr
 exact k' z z z
theorem gC'{k l r}(hr:(ZiX k l).Ret r):Ctr prog 207 #[.int .u64 k,.int .u64 l] (fun G=>True) (fun G v=>v = .int .u64 r):=by
 refine E' (args:=[_,_]) (N:=14) func207 z z z fun m i A q=>sr<|sg z z<|nx<|n'<|ak' (fun (⟨g,f⟩:Int×Mem)=>[(0,.int .u64 g)]) (fun ⟨g,f⟩=>Mem.le i f/\(ZdV g).Ret r) (fun ⟨g,f⟩=>St m i f []) ?_ ?_
 .refine C' ?_
  let j:Int->Prop:=fun t=>((fun u=>match u with|g=>ZdV g:Int->Cq Int) t).wp (fun a=>a=r)
  replace hr:(Cq.loop _ _).wp j:=hr
  refine al' (Φ:=j) (fun (⟨e,d,c⟩:Int×Int×Mem)=>((e,d):Int×Int)) (fun ⟨e,d,c⟩=>[(0,.int .u64 e),(1,.int .u64 d)]) (fun ⟨e,d,c⟩=>Mem.le i c) (fun ⟨e,d,c⟩=>St m i c []) ⟨k,l,i⟩ hr (f2 z z) mr (wk ln) ?_
  .intro y s x hr
   obtain⟨e,d,c⟩:=s
   have h:=x
   refine n'<|sr<|mv z z<|yy (bh' z z) z<|nx<|L' hr z (fun o hr=>?_) (fun o hr=>?_)
   .refine q'<|g'<|C'<|sr<|mv z z<|mv z z ?_
    obtain⟨n,hr⟩:=hr
    refine yy (bE' z z n) z<|sg z z<|nr<|mv z z<|sg z z<|nx<|A'<|mv z z<|sg z z<|u'<|J'<|X' ⟨d,Int.tmod e d,c⟩ hr h (f2 z z) (wk ln)
   refine am'<|r'<|r'<|O'<|ao' ⟨e,c⟩ ⟨h,hr⟩ (f1 z) (wk ln)
 rintro⟨g,f⟩ ⟨p,hr⟩
 refine g'<|sr<|mv z z<|sg z z<|nx<|j' ?_
 obtain rfl:_=r:=hr
 exact k' z z z
theorem df'{m s l p o n r}(hr:(ZaF m s).Ret r):Ctr prog 163 #[.slice l m.length p,.slice o s.length n] (fun G=>sl (Rp.int .u32) G l p m/\sl (Rp.int .u32) G o n s) (fun G v=>v=i' r):=by
 refine E' (args:=[_,_]) (N:=41) func163 z z z (fun C k P A=>?_)
 obtain⟨f,g⟩:=A
 refine sr<|sg z z<|nx<|n'<|sr<|mv z z<|yy (M' B' f z) z<|mv z z<|yy (M' B' g z) z<|yy (ag' z z) z<|nx<|L' hr z (fun I hr=>?_) (fun I hr=>?_)
 .refine sr<|sg z z<|nx<|j'<|a' ?_
  obtain rfl:_=r:=hr
  exact k' z z z
 refine q'<|g'<|n'<|sr<|mv z z<|yy (M' B' f z) z<|mv z z<|yy (M' B' g z) z<|yy (bh' z z) z<|nx<|L' hr z (fun F hr=>?_) (fun F hr=>?_)
 .refine sr<|sg z z<|nx<|j'<|a' ?_
  obtain rfl:_=r:=hr
  exact k' z z z
 refine q'<|g'<|n'<|sr<|mv z z<|yy (M' B' f z) z<|yy (bi' z z) z<|sg z z<|nx<|ak' (fun (i:Mem)=>match i with|h=>[]) (fun (i:Mem)=>match i with|h=>Mem.le k h/\(ZcB).Ret r) (fun (i:Mem)=>match i with|h=>St C k h []) ?_ ?_
 .refine C' ?_
  let q:(Int⊕Unit)->Prop:=fun K=>((fun L=>match L with | .inl rv1=>Cq.ret rv1 | .inr ()=>ZcB:(Int⊕Unit)->Cq Int) K).wp (fun a=>a=r)
  replace hr:(Cq.loop _ _).wp q:=hr
  refine al' (Φ:=q) (fun (⟨j,e⟩:Int×Mem)=>(j:Int)) (fun ⟨j,e⟩=>[(0,.slice l m.length p),(1,.slice o s.length n),(5,i' j)]) (fun ⟨j,e⟩=>Mem.le k e) (fun ⟨j,e⟩=>St C k e []) ⟨i64.wrap ((m.length:Int)-1),k⟩ hr (f3 z z z) mr (wk ln) ?_
  .intro O i M hr
   obtain⟨j,e⟩:=i
   have d:=M
   refine n'<|sr<|mv z z<|yy (be' z z) z<|nx<|L' hr z (fun H hr=>?_) (fun H hr=>?_)
   .refine q'<|g'<|n'<|C'<|n'<|n'<|ah' [ff,ff,ff,ff,ff,ff,ff,ff] mix (by kernel_rfl) fun B=>cn (fun _ c=>e' z)<|cn (fun _ c=>e' z) ?_
    obtain⟨Q,u,hr⟩:=hr
    refine cn (fun _ c=>Q' B' bs' ((f.mono d).mono c) z z u)<|cn (fun _ c=>Y' bR' z (aD' (H' (H' (ab' f u) d) c)))<|cn (fun _ c=>e' z)<|cn (fun _ c=>e' z) ?_
    obtain⟨S,x,hr⟩:=hr
    refine cn (fun _ c=>Q' B' bs' ((g.mono d).mono c) z z x)<|cn (fun _ c=>Y' bR' z (aD' (H' (H' (ab' g x) d) c)))<|U' B<|yy (ag' z z) z<|u'<|aq'<|g'<|L' hr z (fun E hr=>?_) (fun E hr=>?_)
    .refine sr<|sg z z<|nx<|j'<|a'<|m'<|a'<|a'<|m'<|ae'<|a' ?_
     obtain rfl:_=r:=hr
     exact k' z z z
    refine q'<|g'<|n'<|ah' [ff,ff,ff,ff,ff,ff,ff,ff] mix (by kernel_rfl) fun B=>cn (fun _ c=>e' z)<|cn (fun _ c=>e' z) ?_
    obtain⟨T,t,hr⟩:=hr
    refine cn (fun _ c=>Q' B' bs' ((f.mono d).mono c) z z t)<|cn (fun _ c=>Y' bR' z (aD' (H' (H' (ab' f t) d) c)))<|cn (fun _ c=>e' z)<|cn (fun _ c=>e' z) ?_
    obtain⟨R,y,hr⟩:=hr
    refine cn (fun _ c=>Q' B' bs' ((g.mono d).mono c) z z y)<|cn (fun _ c=>Y' bR' z (aD' (H' (H' (ab' g y) d) c)))<|U' B<|yy (bh' z z) z<|u'<|aq'<|g'<|L' hr z (fun D hr=>?_) (fun D hr=>?_)
    .refine sr<|sg z z<|nx<|j'<|m'<|a'<|a'<|m'<|ae'<|a' ?_
     obtain rfl:_=r:=hr
     exact k' z z z
    refine q'<|J'<|g'<|A'<|mv z z<|yy (bi' z z) z<|sg z z<|u'<|X' ⟨i64.wrap (j-1),e⟩ hr d (f3 z z z) (wk ln)
   refine am'<|r'<|r'<|O'<|ao' e ⟨d,hr⟩ fn (wk ln)
 rintro h ⟨J,hr⟩
 refine g'<|sr<|sg z z<|nx<|j' ?_
 obtain rfl:_=r:=hr
 exact k' z z z
theorem gx'{j s y D r}(hr:(ZhZ j s).Ret r):Ctr prog 215 #[.slice y j.length D,.int .u64 s] (fun G=>sl (Rp.int .u32) G y D j) (fun G v=>∃ B C,v = .tuple #[.slice B r.1.length C,.int .u64 r.2]/\sl (Rp.int .u32) G B C r.1):=by
 refine E' (args:=[_,_]) (N:=41) func215 z z z (fun R x Y L=>?_)
 have t:=L
 refine sr<|sg z z<|sg z z<|nr<|mv z z<|yy (M' B' t z) z ?_
 obtain⟨T,hr⟩:=hr
 refine dP' (r:=(Rp.int .u32)) (e:=202) (n:=(j.length:Int)) (zx:=0) 4012 z z B' el202 z (by decide) (by decide) z z z T fun I P V=>sg z z<|nr<|sg z z<|nx<|n'<|sr<|mv z z<|yy (M' B' t z) z<|yy (bi' z z) z<|sg z z<|nx<|ak' (fun (⟨h,g,m,o⟩:(List Int)×Option Ow×Int×Mem)=>[(6,.slice I (j.length:Int).toNat ((j.length:Int).toNat)),(7,.int .u64 m)]) (fun ⟨h,g,m,o⟩=>Mem.le x o/\RowR (Rp.int .u32) 202 o (.slice I (j.length:Int).toNat ((j.length:Int).toNat)) h g/\(Zc7 h m).Ret r) (fun ⟨h,g,m,o⟩=>St R x o [(4012,g)]) ?_ ?_
 .refine C' ?_
  let E:(((List Int)×Int))->Prop:=fun oo=>((fun ov=>match ov with|(h,m)=>Zc7 h m:(((List Int)×Int))->Cq ((List Int)×Int)) oo).wp (fun a=>a=r)
  replace hr:(Cq.loop _ _).wp E:=hr
  refine al' (Φ:=E) (fun (⟨f,c,d,q,k⟩:(List Int)×Option Ow×Int×Int×Mem)=>((f,d,q):(List Int)×Int×Int)) (fun ⟨f,c,d,q,k⟩=>[(0,.slice y j.length D),(1,.int .u64 s),(6,.slice I (j.length:Int).toNat ((j.length:Int).toNat)),(7,.int .u64 d),(8,i' q)]) (fun ⟨f,c,d,q,k⟩=>Mem.le x k/\RowR (Rp.int .u32) 202 k (.slice I (j.length:Int).toNat ((j.length:Int).toNat)) f c) (fun ⟨f,c,d,q,k⟩=>St R x k [(4012,c)]) ⟨(List.replicate (j.length:Int).toNat 0),P,0,i64.wrap ((j.length:Int)-1),x⟩ hr (f5 z z z z z) ⟨mr,V⟩ (w1 z) ?_
  .intro al gx hx hr
   obtain⟨f,c,d,q,k⟩:=gx
   obtain⟨l,p⟩:=hx
   refine n'<|sr<|mv z z<|yy (be' z z) z<|nx<|L' hr z (fun W hr=>?_) (fun W hr=>?_)
   .refine q'<|g'<|n'<|C'<|sr<|mv z z<|yy (Y0.mul z z) z<|mv z z<|mv z z ?_
    obtain⟨H,J,hr⟩:=hr
    refine yy (Q' B' bs' (t.mono l) z z J) z<|yy (Y' bR' z (aD' (H' (ab' t J) l))) z<|yy (aO' aB' az' z) z<|yy (W' z z) z<|sg z z<|nr<|mv z z<|mv z z<|mv z z<|mv z z ?_
    obtain⟨U,hr⟩:=hr
    refine yy (dV' z z U) z<|yy (aO' az' aB' z) z ?_
    obtain⟨x2,K,hr⟩:=hr
    refine yy (ba' B' bs' p z z K) z<|bv' (r:=(Rp.int .u32)) (e:=202) (cs':=[.int .u32 (u32.wrap (u64.wrap (Int.tdiv (u64.wrap ((u64.wrap (d*4294967296))+(u64.wrap H))) s)))]) (i:=q) (z':=u32.wrap (u64.wrap (Int.tdiv (u64.wrap ((u64.wrap (d*4294967296))+(u64.wrap H))) s))) 4012 z bs' z p z z z z z K fun X Q=>nx<|A'<|mv z z<|mv z z ?_
    obtain⟨S,hr⟩:=hr
    refine yy (bE' z z S) z<|sg z z<|u'<|J'<|g'<|A'<|mv z z<|yy (bi' z z) z<|sg z z<|u'<|X' ⟨(f.set q.toNat (u32.wrap (u64.wrap (Int.tdiv (u64.wrap ((u64.wrap (d*4294967296))+(u64.wrap H))) s)))),X,Int.tmod (u64.wrap ((u64.wrap (d*4294967296))+(u64.wrap H))) s,i64.wrap (q-1),k⟩ hr ⟨l,Q⟩ (f5 z z z z z) (w1 z)
   refine am'<|r'<|r'<|O'<|ao' ⟨f,c,d,k⟩ ⟨l,p,hr⟩ (f2 z z) (w1 z)
 rintro⟨h,g,m,o⟩ ⟨aa,F,hr⟩
 refine g'<|sr<|mv z z<|bM' (r:=(Rp.int .u32)) (e:=202) 4012 F z (by rw[Y]; rfl) (fun ao an ab A ac=>?_)
 obtain⟨am,O,hr⟩:=hr
 refine P' z z (t' E166 z) (dR' O) (by rw[dj' A]) ((de' A)) (fun ah ak Z u=>?_)
 obtain⟨aj,ad,rfl,M⟩:=u
 refine mv z z<|sg z z<|sg z z<|nx<|j' ?_
 obtain rfl:_=r:=hr
 exact aC' z z z ⟨_,_,z,M⟩
theorem fe'{e f g h i j r}(hr:(Zfj e f).Ret r):Ctr prog 209 #[.slice g e.length h,.slice i f.length j] (fun G=>sl (Rp.int .u32) G g h e/\sl (Rp.int .u32) G i j f) (fun G v=>∃ m n o p,v = .tuple #[.slice m r.1.length n,.slice o r.2.length p]/\sl (Rp.int .u32) G m n r.1/\sl (Rp.int .u32) G o p r.2):=by
 refine E' (args:=[_,_]) (N:=110) func209 z z z (fun T U R u=>?_)
 obtain⟨d,c⟩:=u
 refine sr<|sg z z<|sg z z<|nx<|n'<|sr<|mv z z<|mv z z ?_
 obtain⟨P,y,hr⟩:=hr
 refine D' z z (t' E163 z) (df' y) z (⟨d,c⟩)<|yy (ag' z z) z<|nx<|L' hr z (fun F hr=>?_) (fun F hr=>?_)
 .refine sr<|mv z z<|sg z z<|sg z z<|nx<|j'<|a' ?_
  obtain rfl:_=r:=hr
  exact aC' z z z ⟨_,_,_,_,z,(V' (Rp.int .u32) _),d⟩
 refine q'<|g'<|n'<|sr<|mv z z<|yy (M' B' c z) z<|yy (at' z z) z<|nx<|L' hr z (fun E hr=>?_) (fun E hr=>?_)
 .refine sr<|mv z z<|mv z z ?_
  obtain⟨V,t,hr⟩:=hr
  refine yy (Q' B' bs' c z z t) z<|yy (Y' bR' z (aD' (ab' c t))) z<|yy (aO' aB' az' z) z ?_
  obtain⟨Q,x,hr⟩:=hr
  refine P' z z (t' E215 z) (gx' x) z (d) (fun K O H l=>?_)
  obtain⟨C,D,rfl,q⟩:=l
  refine mv z z<|yy (y' z z) z<|yy (y' z z) z<|sg z z<|sg z z<|nr<|mv z z<|mv z z ?_
  obtain⟨M,B,hr⟩:=hr
  refine P' z z (t' E119 z) (eq' B) z (trivial) (fun I S s k=>?_)
  obtain⟨J,L,rfl,A⟩:=k
  refine sg z z<|sg z z<|nx<|j'<|a' ?_
  obtain rfl:_=r:=hr
  exact aC' z z z ⟨_,_,_,_,z,(q.mono s),A⟩
 exact (show False from hr).elim
theorem gD'{J K B I H F r}(hr:(ZiV J K).Ret r):Ctr prog 192 #[.slice B J.length I,.slice H K.length F] (fun G=>sl (Rp.int .u32) G B I J/\sl (Rp.int .u32) G H F K) (wl' (Rp.int .u32) r):=by
 refine E' (args:=[_,_]) (N:=33) func192 z z z (fun L x ax M=>?_)
 obtain⟨ac,ae⟩:=M
 refine sr<|sg z z<|nx<|n'<|ak' (fun (⟨p,n,m,l⟩:(List Int)×Option Addr×Nat×Mem)=>[(0,.slice n p.length m)]) (fun ⟨p,n,m,l⟩=>Mem.le x l/\sl (Rp.int .u32) l n m p/\(ZdT p).Ret r) (fun ⟨p,n,m,l⟩=>St L x l []) ?_ ?_
 .refine C' ?_
  let s:((List Int)⊕(List Int))->Prop:=fun oo=>((fun ov=>match ov with | .inl rv1=>Cq.ret rv1 | .inr p=>ZdT p:((List Int)⊕(List Int))->Cq (List Int)) oo).wp (fun a=>a=r)
  replace hr:(Cq.loop _ _).wp s:=hr
  refine al' (Φ:=s) (fun (⟨k,h,f,j,g,i,c⟩:(List Int)×Option Addr×Nat×(List Int)×Option Addr×Nat×Mem)=>((k,j):(List Int)×(List Int))) (fun ⟨k,h,f,j,g,i,c⟩=>[(0,.slice h k.length f),(1,.slice g j.length i)]) (fun ⟨k,h,f,j,g,i,c⟩=>Mem.le x c/\sl (Rp.int .u32) c h f k/\sl (Rp.int .u32) c g i j) (fun ⟨k,h,f,j,g,i,c⟩=>St L x c []) ⟨J,B,I,K,H,F,x⟩ hr (f2 z z) ⟨mr,ac,ae⟩ (wk ln) ?_
  .intro U gx hx hr
   obtain⟨k,h,f,j,g,i,c⟩:=gx
   obtain⟨u,v,q⟩:=hx
   refine n'<|sr<|mv z z<|yy (M' B' q z) z<|yy (bh' z z) z<|nx<|L' hr z (fun ad hr=>?_) (fun ad hr=>?_)
   .refine q'<|g'<|C'<|n'<|aM' (fun (⟨e,o⟩:Bool×Mem)=>[(0,.slice h k.length f),(1,.slice g j.length i),(17,.bool e)]) (fun ⟨e,o⟩=>Mem.le c o/\(ZdU k j e).wp (Out U s)) (fun ⟨e,o⟩=>St L x o []) ?_ ?_
    .refine A'<|mv z z<|yy (M' B' v z) z<|aa' hr z (bK' z z) z (fun X hr=>?_) (fun X hr=>?_)
     .refine mv z z<|gy z z (e' z) z<|gy z z (M' B' q z) z<|gy z z (bK' z z) z<|yy (h' z z) z<|u'<|ap' ⟨decide ((j.length:Int)<=2),c⟩ ⟨mr,hr⟩ (f3 z z z) (wk ln)
     refine mv z z<|sn3 z<|yy (l' z z) z<|u'<|ap' ⟨false,c⟩ ⟨mr,hr⟩ (f3 z z z) (wk ln)
    rintro⟨e,o⟩ ⟨d,hr⟩
    refine aL' hr z (fun aa hr=>?_) (fun aa hr=>?_)
    .refine sr<|mv z z ?_
     obtain⟨au,P,hr⟩:=hr
     refine D' z z (t' E208 z) (fq' P) z ((v.mono d))<|mv z z ?_
     obtain⟨aw,O,hr⟩:=hr
     refine D' z z (t' E208 z) (fq' O) z ((q.mono d)) ?_
     obtain⟨ar,T,hr⟩:=hr
     refine D' z z (t' E207 z) (gC' T) z (trivial) ?_
     obtain⟨av,R,hr⟩:=hr
     refine P' z z (t' E119 z) (eq' R) z (trivial) (fun an aq ah A=>?_)
     obtain⟨ai,ap,rfl,S⟩:=A
     refine sg z z<|nx<|j'<|a'<|m'<|a'<|m'<|ae'<|a' ?_
     obtain rfl:_=r:=hr
     exact k' z z ⟨_,_,z,S⟩
    refine q'<|g'<|sr<|mv z z<|mv z z ?_
    obtain⟨Z,Q,hr⟩:=hr
    refine P' z z (t' E209 z) (fe' Q) z (⟨(v.mono d),(q.mono d)⟩) (fun ak V t y=>?_)
    obtain⟨W,ab,D,C,rfl,af,E⟩:=y
    refine mv z z<|yy (y' z z) z<|yy (y' z z) z<|sg z z<|sg z z<|nr<|mv z z<|sg z z<|nx<|A'<|mv z z<|sg z z<|u'<|J'<|X' ⟨j,g,i,Z.2,D,C,V⟩ hr ⟨(mt (mt u d) t),(q.mono (mt d t)),E⟩ (f2 z z) (wk ln)
   refine am'<|r'<|r'<|O'<|ao' ⟨k,h,f,c⟩ ⟨u,v,hr⟩ (f1 z) (wk ln)
 rintro⟨p,n,m,l⟩ ⟨ag,Y,hr⟩
 refine g'<|sr<|mv z z<|sg z z<|nx<|j' ?_
 obtain rfl:_=r:=hr
 exact k' z z ⟨_,_,z,Y⟩
theorem gn'{n s f c e d r}(hr:(ZjC n s).Ret r):Ctr prog 159 #[.agg ((v128' n f c)).toArray,.agg ((v128' s e d)).toArray] (fun G=>sl (Rp.int .u32) G f c n.mag/\sl (Rp.int .u32) G e d s.mag) (w128' r):=by
 refine E' (args:=[_,_]) (N:=11) func159 z z z (fun J L I m=>?_)
 obtain⟨k,l⟩:=m
 refine sr<|ad' 2 z z z fun K=>ad' 3 z z z fun O=>T' 4 z z128 z fun M=>nr<|yy (aY' z) z<|yy (f' 2 bI' z z z) z<|yy (aY' z) z<|yy (f' 3 bI' z z z) z ?_
 obtain⟨E,q,hr⟩:=hr
 refine P' z z (t' E192 z) (gD' q) z (⟨k,l⟩) (fun A F x j=>?_)
 obtain⟨B,y,rfl,o⟩:=j
 obtain⟨H,p,hr⟩:=hr
 refine P' z z (t' E118 z) (cO' p) z (o) (fun C D v h=>?_)
 obtain⟨t,u,rfl,g⟩:=h
 refine s' 4 z dk' z z z z z (List.all_eq_true.1 z)<|nx<|j' ?_
 obtain rfl:_=r:=hr
 exact k' z (ac' (i:=4) bt' z z z) ⟨_,_,z,g⟩
theorem gL'{d f x C B A r}(hr:(Zj4 d f).Ret r):Ctr prog 162 #[.slice x d.length C,.slice B f.length A] (fun G=>sl (Rp.int .u32) G x C d/\sl (Rp.int .u32) G B A f) (wl' (Rp.int .u32) r):=by
 refine E' (args:=[_,_]) (N:=42) func162 z z z (fun S v X K=>?_)
 obtain⟨I,J⟩:=K
 refine sr<|sg z z<|nr<|mv z z<|yy (M' B' I z) z<|mv z z<|yy (M' B' J z) z<|yy (en' z z) z<|yy (W' z z) z<|sg z z<|nr<|mv z z ?_
 obtain⟨T,hr⟩:=hr
 refine dP' (r:=(Rp.int .u32)) (e:=202) (n:=i64.wrap ((if (d.length:Int)<(f.length:Int) then (f.length:Int) else (d.length:Int))+1)) (zx:=0) 4017 z z B' el202 z (by decide) (by decide) z z z T fun F P U=>sg z z<|nr<|sg z z<|nx<|n'<|sr<|sg z z<|nx<|ak' (fun (⟨k,j,o⟩:(List Int)×Option Ow×Mem)=>[(6,.slice F (i64.wrap ((if (d.length:Int)<(f.length:Int) then (f.length:Int) else (d.length:Int))+1)).toNat ((i64.wrap ((if (d.length:Int)<(f.length:Int) then (f.length:Int) else (d.length:Int))+1)).toNat))]) (fun ⟨k,j,o⟩=>Mem.le v o/\RowR (Rp.int .u32) 202 o (.slice F (i64.wrap ((if (d.length:Int)<(f.length:Int) then (f.length:Int) else (d.length:Int))+1)).toNat ((i64.wrap ((if (d.length:Int)<(f.length:Int) then (f.length:Int) else (d.length:Int))+1)).toNat)) k j/\(Zel k).Ret r) (fun ⟨k,j,o⟩=>St S v o [(4017,j)]) ?_ ?_
 .refine C' ?_
  let D:(List Int)->Prop:=fun oo=>((fun ov=>match ov with|k=>Zel k:(List Int)->Cq (List Int)) oo).wp (fun a=>a=r)
  replace hr:(Cq.loop _ _).wp D:=hr
  refine al' (Φ:=D) (fun (⟨h,g,c,q,l⟩:(List Int)×Option Ow×Int×Int×Mem)=>((h,c,q):(List Int)×Int×Int)) (fun ⟨h,g,c,q,l⟩=>[(0,.slice x d.length C),(1,.slice B f.length A),(5,i' (i64.wrap ((if (d.length:Int)<(f.length:Int) then (f.length:Int) else (d.length:Int))+1))),(6,.slice F (i64.wrap ((if (d.length:Int)<(f.length:Int) then (f.length:Int) else (d.length:Int))+1)).toNat ((i64.wrap ((if (d.length:Int)<(f.length:Int) then (f.length:Int) else (d.length:Int))+1)).toNat)),(7,.int .u64 c),(8,i' q)]) (fun ⟨h,g,c,q,l⟩=>Mem.le v l/\RowR (Rp.int .u32) 202 l (.slice F (i64.wrap ((if (d.length:Int)<(f.length:Int) then (f.length:Int) else (d.length:Int))+1)).toNat ((i64.wrap ((if (d.length:Int)<(f.length:Int) then (f.length:Int) else (d.length:Int))+1)).toNat)) h g) (fun ⟨h,g,c,q,l⟩=>St S v l [(4017,g)]) ⟨(List.replicate (i64.wrap ((if (d.length:Int)<(f.length:Int) then (f.length:Int) else (d.length:Int))+1)).toNat 0),P,0,0,v⟩ hr (f6 z z z z z z) ⟨mr,U⟩ (w1 z) ?_
  .intro ak gx hx hr
   obtain⟨h,g,c,q,l⟩:=gx
   obtain⟨m,p⟩:=hx
   refine n'<|sr<|mv z z<|mv z z<|yy (ag' z z) z<|nx<|L' hr z (fun V hr=>?_) (fun V hr=>?_)
   .refine q'<|g'<|n'<|C'<|sr<|mv z z<|mv z z ?_
    obtain⟨t,M,hr⟩:=hr
    refine D' z z (t' E194 z) (dC' M) z ((I.mono m))<|mv z z<|mv z z ?_
    obtain⟨s,Q,hr⟩:=hr
    refine D' z z (t' E194 z) (dC' Q) z ((J.mono m))<|yy (W' z z) z<|mv z z<|yy (W' z z) z<|sg z z<|nr<|mv z z<|mv z z<|mv z z<|yy (bE' z z (by decide)) z<|yy (aO' az' aB' z) z ?_
    obtain⟨x1,H,hr⟩:=hr
    refine yy (ba' B' bs' p z z H) z<|bv' (r:=(Rp.int .u32)) (e:=202) (cs':=[.int .u32 (u32.wrap (Int.tmod (u64.wrap ((u64.wrap (t+s))+c)) 4294967296))]) (i:=q) (z':=u32.wrap (Int.tmod (u64.wrap ((u64.wrap (t+s))+c)) 4294967296)) 4017 z bs' z p z z z z z H fun W R=>nx<|A'<|mv z z<|yy (dV' z z (by decide)) z<|sg z z<|u'<|J'<|g'<|A'<|mv z z<|yy (W' z z) z<|sg z z<|u'<|X' ⟨(h.set q.toNat (u32.wrap (Int.tmod (u64.wrap ((u64.wrap (t+s))+c)) 4294967296))),W,u64.wrap (Int.tdiv (u64.wrap ((u64.wrap (t+s))+c)) 4294967296),i64.wrap (q+1),l⟩ hr ⟨m,R⟩ (f6 z z z z z z) (w1 z)
   refine am'<|r'<|r'<|O'<|ao' ⟨h,g,l⟩ ⟨m,p,hr⟩ (f1 z) (w1 z)
 rintro⟨k,j,o⟩ ⟨Z,E,hr⟩
 refine g'<|sr<|mv z z<|bM' (r:=(Rp.int .u32)) (e:=202) 4017 E z (by rw[X]; rfl) (fun an am aa y ab=>?_)
 obtain⟨al,O,hr⟩:=hr
 refine P' z z (t' E166 z) (dR' O) (by rw[dj' y]) ((de' y)) (fun ag aj Y u=>?_)
 obtain⟨ai,ac,rfl,L⟩:=u
 refine sg z z<|nx<|j' ?_
 obtain rfl:_=r:=hr
 exact k' z z ⟨_,_,z,L⟩
theorem fI'{l I x C B A r}(hr:(ZgU l I).Ret r):Ctr prog 164 #[.slice x l.length C,.slice B I.length A] (fun G=>sl (Rp.int .u32) G x C l/\sl (Rp.int .u32) G B A I) (wl' (Rp.int .u32) r):=by
 refine E' (args:=[_,_]) (N:=41) func164 z z z (fun S v Y L=>?_)
 obtain⟨t,W⟩:=L
 refine sr<|sg z z<|nr<|mv z z<|yy (M' B' t z) z ?_
 obtain⟨T,hr⟩:=hr
 refine dP' (r:=(Rp.int .u32)) (e:=202) (n:=(l.length:Int)) (zx:=0) 4011 z z B' el202 z (by decide) (by decide) z z z T fun H Q U=>sg z z<|nr<|sg z z<|nx<|n'<|sr<|sg z z<|nx<|ak' (fun (⟨k,h,o⟩:(List Int)×Option Ow×Mem)=>[(5,.slice H (l.length:Int).toNat ((l.length:Int).toNat))]) (fun ⟨k,h,o⟩=>Mem.le v o/\RowR (Rp.int .u32) 202 o (.slice H (l.length:Int).toNat ((l.length:Int).toNat)) k h/\(Zem k).Ret r) (fun ⟨k,h,o⟩=>St S v o [(4011,h)]) ?_ ?_
 .refine C' ?_
  let D:(List Int)->Prop:=fun oo=>((fun ov=>match ov with|k=>Zem k:(List Int)->Cq (List Int)) oo).wp (fun a=>a=r)
  replace hr:(Cq.loop _ _).wp D:=hr
  refine al' (Φ:=D) (fun (⟨g,d,c,q,m⟩:(List Int)×Option Ow×Int×Int×Mem)=>((g,c,q):(List Int)×Int×Int)) (fun ⟨g,d,c,q,m⟩=>[(0,.slice x l.length C),(1,.slice B I.length A),(5,.slice H (l.length:Int).toNat ((l.length:Int).toNat)),(6,.int .u64 c),(7,i' q)]) (fun ⟨g,d,c,q,m⟩=>Mem.le v m/\RowR (Rp.int .u32) 202 m (.slice H (l.length:Int).toNat ((l.length:Int).toNat)) g d) (fun ⟨g,d,c,q,m⟩=>St S v m [(4011,d)]) ⟨(List.replicate (l.length:Int).toNat 0),Q,0,0,v⟩ hr (f5 z z z z z) ⟨mr,U⟩ (w1 z) ?_
  .intro am gx hx hr
   obtain⟨g,d,c,q,m⟩:=gx
   obtain⟨j,p⟩:=hx
   refine n'<|sr<|mv z z<|mv z z<|yy (M' B' (t.mono j) z) z<|yy (ag' z z) z<|nx<|L' hr z (fun V hr=>?_) (fun V hr=>?_)
   .refine q'<|g'<|n'<|C'<|n'<|ah' [ff,ff,ff,ff,ff,ff,ff,ff,ff,ff,ff] mix (by kernel_rfl) fun hb=>cn (fun _ f=>e' z)<|cn (fun _ f=>e' z) ?_
    obtain⟨F,J,hr⟩:=hr
    refine cn (fun _ f=>Q' B' bs' ((t.mono j).mono f) z z J)<|cn (fun _ f=>Y' bR' z (aD' (H' (H' (ab' t J) j) f)))<|cn (fun _ f=>aO' aB' az' z)<|cn (fun _ f=>W' z z)<|cn (fun _ f=>e' z)<|cn (fun _ f=>e' z) ?_
    obtain⟨s,O,hr⟩:=hr
    refine bB' z (fun _=>t' E194 z) (dC' O) z (fun G' f=>((W.mono j).mono f))<|cn (fun _ f=>bi' z z)<|cn (fun _ f=>e' z)<|U' hb<|yy (bi' z z) z<|sg z z<|u'<|aq'<|g'<|sr<|mv z z<|mv z z<|mv z z<|yy (bE' z z (by decide)) z<|yy (aO' az' aB' z) z ?_
    obtain⟨x2,K,hr⟩:=hr
    refine yy (ba' B' bs' p z z K) z<|bv' (r:=(Rp.int .u32)) (e:=202) (cs':=[.int .u32 (u32.wrap (Int.tmod (u64.wrap ((u64.wrap ((u64.wrap (4294967296+(u64.wrap F)))-s))-c)) 4294967296))]) (i:=q) (z':=u32.wrap (Int.tmod (u64.wrap ((u64.wrap ((u64.wrap (4294967296+(u64.wrap F)))-s))-c)) 4294967296)) 4011 z bs' z p z z z z z K fun X R=>nx<|A'<|mv z z<|yy (dV' z z (by decide)) z<|yy (bi' z z) z<|sg z z<|u'<|J'<|g'<|A'<|mv z z<|yy (W' z z) z<|sg z z<|u'<|X' ⟨(g.set q.toNat (u32.wrap (Int.tmod (u64.wrap ((u64.wrap ((u64.wrap (4294967296+(u64.wrap F)))-s))-c)) 4294967296))),X,u64.wrap (1-(u64.wrap (Int.tdiv (u64.wrap ((u64.wrap ((u64.wrap (4294967296+(u64.wrap F)))-s))-c)) 4294967296))),i64.wrap (q+1),m⟩ hr ⟨j,R⟩ (f5 z z z z z) (w1 z)
   refine am'<|r'<|r'<|O'<|ao' ⟨g,d,m⟩ ⟨j,p,hr⟩ (f1 z) (w1 z)
 rintro⟨k,h,o⟩ ⟨aa,E,hr⟩
 refine g'<|sr<|mv z z<|bM' (r:=(Rp.int .u32)) (e:=202) 4011 E z (by rw[Y]; rfl) (fun ap ao ab y ac=>?_)
 obtain⟨an,P,hr⟩:=hr
 refine P' z z (t' E166 z) (dR' P) (by rw[dj' y]) ((de' y)) (fun ah al Z u=>?_)
 obtain⟨ak,ad,rfl,M⟩:=u
 refine sg z z<|nx<|j' ?_
 obtain rfl:_=r:=hr
 exact k' z z ⟨_,_,z,M⟩
theorem gE'{F H g c f d r}(hr:(ZiT F H).Ret r):Ctr prog 193 #[.agg ((v128' F g c)).toArray,.agg ((v128' H f d)).toArray] (fun G=>sl (Rp.int .u32) G g c F.mag/\sl (Rp.int .u32) G f d H.mag) (fun G v=>∃ s l p n,v = .tuple #[.agg ((v128' r.1 s l)).toArray,.agg ((v128' r.2.1 p n)).toArray,i' r.2.2]/\sl (Rp.int .u32) G s l r.1.mag/\sl (Rp.int .u32) G p n r.2.1.mag):=by
 refine E' (args:=[_,_]) (N:=46) func193 z z z (fun w0 G0 ax Y=>?_)
 obtain⟨Q,E⟩:=Y
 refine sr<|ad' 2 z z z fun T=>ad' 3 z z z fun V=>T' 4 z z128 z fun U=>T' 5 z z128 z fun X=>sg z z<|nx<|n'<|sr<|yy (aY' z) z<|yy (f' 3 bI' z z z) z<|yy (M' B' E z) z<|yy (at' z z) z<|nx<|L' hr z (fun am hr=>?_) (fun am hr=>?_)
 .exact (show False from hr).elim
 refine q'<|g'<|sr<|yy (aY' z) z<|yy (f' 2 bI' z z z) z<|yy (aY' z) z<|yy (f' 3 bI' z z z) z ?_
 obtain⟨m,aa,hr⟩:=hr
 refine P' z z (t' E209 z) (fe' aa) z (⟨Q,E⟩) (fun aq I ao O=>?_)
 obtain⟨y,D,u,A,rfl,R,C⟩:=O
 refine mv z z<|yy (y' z z) z<|yy (y' z z) z<|sg z z<|sg z z<|nx<|aM' (fun (⟨K,x,B,o,j,h,k⟩:(List Int)×Option Addr×Nat×(List Int)×Option Addr×Nat×Mem)=>[(2,.pointer (some ⟨T,0,none⟩)),(3,.pointer (some ⟨V,0,none⟩)),(4,.pointer (some ⟨U,0,none⟩)),(5,.pointer (some ⟨X,0,none⟩)),(7,.slice x K.length B),(8,.slice j o.length h)]) (fun ⟨K,x,B,o,j,h,k⟩=>Mem.le I k/\sl (Rp.int .u32) k x B K/\sl (Rp.int .u32) k j h o/\(ZgE F H K o).Ret r) (fun ⟨K,x,B,o,j,h,k⟩=>St w0 G0 k [(2,some ⟨T,.cells ((v128' F g c)).toArray 128 (0,0),0⟩),(3,some ⟨V,.cells ((v128' H f d)).toArray 128 (0,0),0⟩),(4,some ⟨U,.cells ([.bool false,.slice none 0 0]).toArray 128 (0,0),0⟩),(5,some ⟨X,.cells ([.bool false,.slice none 0 0]).toArray 128 (0,0),0⟩)]) ?_ ?_
 .refine aM' (fun (⟨e,q⟩:Bool×Mem)=>[(2,.pointer (some ⟨T,0,none⟩)),(3,.pointer (some ⟨V,0,none⟩)),(4,.pointer (some ⟨U,0,none⟩)),(5,.pointer (some ⟨X,0,none⟩)),(7,.slice y m.1.length D),(8,.slice u m.2.length A),(29,.bool e)]) (fun ⟨e,q⟩=>Mem.le I q/\(ZdS F H m e).Ret r) (fun ⟨e,q⟩=>St w0 G0 q [(2,some ⟨T,.cells ((v128' F g c)).toArray 128 (0,0),0⟩),(3,some ⟨V,.cells ((v128' H f d)).toArray 128 (0,0),0⟩),(4,some ⟨U,.cells ([.bool false,.slice none 0 0]).toArray 128 (0,0),0⟩),(5,some ⟨X,.cells ([.bool false,.slice none 0 0]).toArray 128 (0,0),0⟩)]) ?_ ?_
  .refine A'<|yy (br' z) z<|aa' hr z (cZ' (f' 2 sc4 z z z) (congrArg Value.bool (bdec _))) z (fun ak hr=>?_) (fun ak hr=>?_)
   .refine mv z z<|gy z z (e' z) z<|gy z z (M' B' C z) z<|gy z z (bh' z z) z<|yy (h' z z) z<|u'<|ap' ⟨decide (0<(m.2.length:Int)),I⟩ ⟨mr,hr⟩ (f7 z z z z z z z) (w4 z z z z)
   refine mv z z<|sn3 z<|yy (l' z z) z<|u'<|ap' ⟨false,I⟩ ⟨mr,hr⟩ (f7 z z z z z z z) (w4 z z z z)
  rintro⟨e,q⟩ ⟨t,hr⟩
  refine aL' hr z (fun al hr=>?_) (fun al hr=>?_)
  .exact (show False from hr).elim
  refine q'<|ap' ⟨m.1,y,D,m.2,u,A,q⟩ ⟨t,(R.mono t),(C.mono t),hr⟩ (f6 z z z z z z) (w4 z z z z)
 rintro⟨K,x,B,o,j,h,k⟩ ⟨an,ah,ab,hr⟩
 refine sr<|yy (br' z) z<|yy (f' 2 sc4 z z z) z<|yy (br' z) z<|yy (f' 3 sc4 z z z) z<|yy (Y0.neqB cr' z z) z<|mv z z ?_
 obtain⟨aw,Z,hr⟩:=hr
 refine P' z z (t' E118 z) (cO' Z) z (ah) (fun ar av S M=>?_)
 obtain⟨ae,ag,rfl,L⟩:=M
 refine mv z z ?_
 obtain⟨au,ac,hr⟩:=hr
 refine P' z z (t' E118 z) (cO' ac) z ((ab.mono S)) (fun ap ay W J=>?_)
 obtain⟨af,ad,rfl,P⟩:=J
 refine s' 4 z dk' z z z z z (List.all_eq_true.1 z)<|s' 5 z dk' z z z z z (List.all_eq_true.1 z)<|sg z z<|nx<|j' ?_
 obtain rfl:_=r:=hr
 exact cT' z (ac' (i:=4) bt' z z z) (ac' (i:=5) bt' z z z) z ⟨_,_,_,_,z,(L.mono W),P⟩
theorem fJ'{t u g e d c r}(hr:(ZgW t u).Ret r):Ctr prog 161 #[.agg ((v128' t g e)).toArray,.agg ((v128' u d c)).toArray] (fun G=>sl (Rp.int .u32) G g e t.mag/\sl (Rp.int .u32) G d c u.mag) (w128' r):=by
 refine E' (args:=[_,_]) (N:=16) func161 z z z (fun C E B q=>?_)
 obtain⟨k,j⟩:=q
 refine sr<|ad' 2 z z z fun H=>ad' 3 z z z fun D=>T' 4 z z128 z fun I=>nr<|yy (o' 2 bt' z z z) z<|yy (o' 3 bt' z z z) z ?_
 obtain⟨y,s,hr⟩:=hr
 refine P' z z (t' E193 z) (gE' s) z (⟨k,j⟩) (fun x A v h=>?_)
 obtain⟨p,n,o,l,rfl,f,m⟩:=h
 refine mv z z<|yy (y' z z) z<|yy (y' z z) z<|yy (y' z z) z<|T' 5 z z128 z fun F=>T' 6 z z128 z fun J=>s' 5 z dk' z z z z z (List.all_eq_true.1 z)<|s' 6 z dk' z z z z z (List.all_eq_true.1 z)<|sg z z<|nr<|yy (o' 5 bt' z z z) z<|s' 4 z dk' z z z z z (List.all_eq_true.1 z)<|nx<|j' ?_
 obtain rfl:_=r:=hr
 exact k' z (ac' (i:=4) bt' z z z) ⟨_,_,z,f⟩
theorem fr'{P M o l p n r}(hr:(Zga P M).Ret r):Ctr prog 112 #[.agg ((v128' P o l)).toArray,.agg ((v128' M p n)).toArray] (fun G=>sl (Rp.int .u32) G o l P.mag/\sl (Rp.int .u32) G p n M.mag) (w130' r):=by
 refine E' (args:=[_,_]) (N:=21) func112 z z z (fun w0 G0 ak S=>?_)
 obtain⟨A,m⟩:=S
 refine sr<|ad' 2 z z z fun b1=>ad' 3 z z z fun X=>T' 4 z z130 z fun b3=>nr<|yy (o' 2 bt' z z z) z<|yy (o' 3 bt' z z z) z ?_
 obtain⟨Y,U,hr⟩:=hr
 refine P' z z (t' E159 z) (gn' U) z (⟨A,m⟩) (fun ag R y J=>?_)
 obtain⟨H,F,rfl,L⟩:=J
 refine T' 5 z z128 z fun Z=>s' 5 z dk' z z z z z (List.all_eq_true.1 z)<|nx<|aM' (fun (⟨q,c,e,x⟩:Zj×Option Addr×Nat×Mem)=>[(2,.pointer (some ⟨b1,0,none⟩)),(3,.pointer (some ⟨X,0,none⟩)),(4,.pointer (some ⟨b3,0,none⟩)),(5,.pointer (some ⟨Z,0,none⟩))]) (fun ⟨q,c,e,x⟩=>Mem.le R x/\sl (Rp.int .u32) x c e q.mag/\(ZgF P M q).Ret r) (fun ⟨q,c,e,x⟩=>St w0 G0 x [(2,some ⟨b1,.cells ((v128' P o l)).toArray 128 (0,0),0⟩),(3,some ⟨X,.cells ((v128' M p n)).toArray 128 (0,0),0⟩),(4,some ⟨b3,.cells ([.bool false,.slice none 0 0,.bool false,.slice none 0 0]).toArray 130 (0,0),0⟩),(5,some ⟨Z,.cells ((v128' q c e)).toArray 128 (0,0),0⟩)]) ?_ ?_
 .refine sr<|yy (o' 3 bt' z z z) z ?_
  obtain⟨aj,V,hr⟩:=hr
  refine D' z z (t' E115 z) (eV' V) z ((m.mono y))<|yy (ag' z z) z<|nx<|L' hr z (fun ac hr=>?_) (fun ac hr=>?_)
  .exact (show False from hr).elim
  refine q'<|ap' ⟨Y,H,F,R⟩ ⟨mr,L,hr⟩ (f4 z z z z) (w4 z z z z)
 rintro⟨q,c,e,x⟩ ⟨D,s,hr⟩
 refine n'<|ah' [ff,ff,ff,ff,ff] mix (by kernel_rfl) fun hb=>cn (fun _ k=>o' 2 bt' z z z)<|cn (fun _ k=>o' 5 bt' z z z) ?_
 obtain⟨B,T,hr⟩:=hr
 refine aW' (post:=w128' B) (fun _=>z) (fun _ _=>t' E161 z) (fJ' T) z (fun G' k=>⟨((A.mono (mt y D)).mono k),(s.mono k)⟩) (fun v G1 G2 k h=>?_) ?_
 .obtain⟨f,j,rfl,g⟩:=h
  exact⟨_,_,z,g.mono k⟩
 refine cu (fun _ _ k=>o' 3 bt' z z z)<|cu (fun _ _ k=>o' 5 bt' z z z)<|cQ' (d:=16) (post:=w128' B) (fun ah ai C I=>?_)
 obtain⟨f,j,rfl,g⟩:=I
 obtain⟨O,W,hr⟩:=hr
 refine P' z z (t' E161 z) (fJ' W) z (⟨(m.mono (mt (mt y D) C)),(s.mono C)⟩) (fun af al Q E=>?_)
 obtain⟨u,t,rfl,K⟩:=E
 refine yy (aw' (vs:=#[(0,.agg ((v128' B f j)).toArray),(1,.agg ((v128' O u t)).toArray)]) (v:=.agg ([.bool B.neg,.slice f B.mag.length j,.bool O.neg,.slice u O.mag.length t]).toArray) z z (fun _=>by kernel_rfl)) z<|s' 4 z sz130 z z z z z (List.all_eq_true.1 z)<|u'<|aq'<|g'<|j' ?_
 obtain rfl:_=r:=hr
 exact k' z (ac' (i:=4) cN' z z z) ⟨_,_,_,_,z,(g.mono Q),K⟩
theorem ha'{p q f e j c l m k g r}(hr:(ZjE p q).Ret r):Ctr prog 117 #[.agg ((v130' p f e j c)).toArray,.agg ((v130' q l m k g)).toArray] (fun G=>sl (Rp.int .u32) G f e p.num.mag/\sl (Rp.int .u32) G j c p.den.mag/\sl (Rp.int .u32) G l m q.num.mag/\sl (Rp.int .u32) G k g q.den.mag) (w130' r):=by
 refine E' (args:=[_,_]) (N:=16) func117 z z z (fun w0 G0 ae Q=>?_)
 obtain⟨u,A,y,x⟩:=Q
 refine sr<|ad' 2 z z z fun b2=>ad' 3 z z z fun b3=>T' 4 z z130 z fun b4=>nx<|n'<|ah' [ff,ff,ff,ff,ff,ff,ff,ff,ff] mix (by kernel_rfl) fun hb=>cn (fun _ n=>cz' z)<|cn (fun _ n=>aH' ((v128' p.num f e)).toArray 2 bt' z z z (aT' ([]) ((v128' p.num f e)) ((v128' p.den j c))))<|cn (fun _ n=>cz' z)<|cn (fun _ n=>aH' ((v128' q.num l m)).toArray 3 bt' z z z (aT' ([]) ((v128' q.num l m)) ((v128' q.den k g)))) ?_
 obtain⟨P,R,hr⟩:=hr
 refine aW' (post:=w128' P) (fun _=>z) (fun _ _=>t' E114 z) (ey' R) z (fun G' n=>⟨(u.mono n),(y.mono n)⟩) (fun v G1 G2 n h=>?_) ?_
 .obtain⟨E,D,rfl,o⟩:=h
  exact⟨_,_,z,o.mono n⟩
 refine cu (fun _ _ n=>cg' z)<|cu (fun _ _ n=>aH' ((v128' p.den j c)).toArray 2 bt' z z z (aT' ((v128' p.num f e)) ((v128' p.den j c)) ([])))<|cu (fun _ _ n=>cg' z)<|cu (fun _ _ n=>aH' ((v128' q.den k g)).toArray 3 bt' z z z (aT' ((v128' q.num l m)) ((v128' q.den k g)) ([])))<|cQ' (d:=9) (post:=w128' P) (fun Y ac B I=>?_)
 obtain⟨E,D,rfl,o⟩:=I
 obtain⟨ad,S,hr⟩:=hr
 refine P' z z (t' E114 z) (ey' S) z (⟨(A.mono B),(x.mono B)⟩) (fun Z ab J H=>?_)
 obtain⟨U,V,rfl,F⟩:=H
 obtain⟨aa,T,hr⟩:=hr
 refine P' z z (t' E112 z) (fr' T) z (⟨(o.mono J),F⟩) (fun X af W C=>?_)
 obtain⟨K,L,M,O,rfl,s,t⟩:=C
 refine s' 4 z sz130 z z z z z (List.all_eq_true.1 z)<|u'<|aq'<|g'<|j' ?_
 obtain rfl:_=r:=hr
 exact k' z (ac' (i:=4) cN' z z z) ⟨_,_,_,_,z,s,t⟩
theorem gM'{Y m1 p1 F E C B ac ad r}(hr:(Zj6 Y m1 p1).Ret r):Ctr prog 83 #[.agg ((v130' Y F E C B)).toArray,.agg (vecG (Value.int .i64) 8 m1).toArray,.slice ac p1.length ad] (fun G=>sl (Rp.int .u32) G F E Y.num.mag/\sl (Rp.int .u32) G C B Y.den.mag/\sl I' G ac ad p1) (wlt' I' r):=by
 refine E' (args:=[_,_,_]) (N:=47) func83 z z z (fun w0 G0 Z ao=>?_)
 obtain⟨L,M,P⟩:=ao
 refine sr<|ad' 3 z z z fun b1=>ad' 4 z z z fun b2=>sg z z<|sg z z<|nr<|bd' (e:=133) (r:=I') (vs:=#[]) (cs:=[]) ([]:List Ze) z z z z z (by decide) (fun _=>by kernel_rfl) (z) (key:=999) z (by rw[Z]; rfl) fun p2 ab n aG=>sg z z<|nx<|n'<|sr<|yy (o' 3 cN' z z z) z ?_
 obtain⟨aY,ap,hr⟩:=hr
 refine D' z z (t' E82 z) (eW' ap) z (⟨(L.mono n),(M.mono n)⟩)<|yy (at' z z) z<|nx<|L' hr z (fun aM hr=>?_) (fun aM hr=>?_)
 .refine sr<|sg z z<|sg z z<|nx<|j'<|a' ?_
  obtain rfl:_=r:=hr
  exact aC' z z z ⟨_,_,z,(V' I' _)⟩
 refine q'<|g'<|n'<|sr<|sg z z<|nx<|ak' (fun (⟨t,I,H,D,O⟩:(List Ze)×Option Addr×Nat×Option Ow×Mem)=>[(8,.slice I t.length H)]) (fun ⟨t,I,H,D,O⟩=>Mem.le ab O/\sl I' O I H t/\Tok 12 133 (.slice I t.length H) t.length D/\(Zer t).Ret r) (fun ⟨t,I,H,D,O⟩=>St w0 G0 O [(1008,D)]) ?_ ?_
 .refine C' ?_
  let aa:(((List Ze)×Int)⊕(List Ze))->Prop:=fun oo=>((fun ov=>match ov with | .inl rv1=>Cq.ret rv1 | .inr t=>Zer t:(((List Ze)×Int)⊕(List Ze))->Cq ((List Ze)×Int)) oo).wp (fun a=>a=r)
  replace hr:(Cq.loop _ _).wp aa:=hr
  refine al' (Φ:=aa) (fun (⟨p,q,s,o,T,K⟩:(List Ze)×Option Addr×Nat×Option Ow×Int×Mem)=>((p,T):(List Ze)×Int)) (fun ⟨p,q,s,o,T,K⟩=>[(2,.slice ac p1.length ad),(3,.pointer (some ⟨b1,0,none⟩)),(4,.pointer (some ⟨b2,0,none⟩)),(8,.slice q p.length s),(9,i' T)]) (fun ⟨p,q,s,o,T,K⟩=>Mem.le ab K/\sl I' K q s p/\Tok 12 133 (.slice q p.length s) p.length o) (fun ⟨p,q,s,o,T,K⟩=>St w0 G0 K [(3,some ⟨b1,.cells ((v130' Y F E C B)).toArray 130 (0,0),0⟩),(4,some ⟨b2,.cells (vecG (Value.int .i64) 8 m1).toArray 120 (0,0),0⟩),(1008,o)]) ⟨[],p2,0,none,0,ab⟩ hr (f5 z z z z z) ⟨mr,aG,dg'⟩ (wk (lc z (lc z (lw ln)))) ?_
  .intro aX gx hx hr
   obtain⟨p,q,s,o,T,K⟩:=gx
   obtain⟨m,U,R⟩:=hx
   refine n'<|sr<|mv z z<|mv z z<|yy (M' ai' (P.mono (mt n m)) z) z<|yy (ag' z z) z<|nx<|L' hr z (fun aL hr=>?_) (fun aL hr=>?_)
   .refine q'<|g'<|n'<|C'<|n'<|ah' [ff,ff,ff,ff,ff,ff,ff,ff,ff,tt,ff] mix (by kernel_rfl) fun hb=>cn (fun _ k=>o' 4 bP' z z (Z' _ _ _))<|cn (fun _ k=>e' z)<|cn (fun _ k=>e' z) ?_
    obtain⟨x1,ah,hr⟩:=hr
    refine cn (fun _ k=>Q' ai' cd' ((P.mono (mt n m)).mono k) z z ah)<|cn (fun _ k=>bz' z)<|cn (fun _ k=>aA' _ bP' z (Z' _ _ _) (du' (H' (H' (ay' (ax' (ab' P ah))) (mt n m)) k))) ?_
    obtain⟨J,an,hr⟩:=hr
    refine bB' z (fun _=>t' E116 z) (gZ' an) z (fun G' k=>trivial)<|cn (fun _ k=>e' z)<|cn (fun _ k=>y' z z)<|co' z (y' z z)<|bD' (fun _=>z) z120<|Chain.tail1 hb fun b3=>s' 10 z sz120 z z z (Z' _ _ _) (Z' _ _ _) (fun u hu=>Rp.one (dv' .i64 8) (G:=K) (x:=J.1) (cs:=vecG (Value.int .i64) 8 J.1) z u (by first|simpa using hu|simpa [Value.cells] using hu))<|sg z z<|u'<|aq'<|g'<|n'<|sr<|mv z z<|yy (av' z z) z<|nx<|L' hr z (fun aH hr=>?_) (fun aH hr=>?_)
    .exact (show False from hr).elim
    refine q'<|g'<|ah' [tt,ff,ff,ff,ff,ff,ff,ff,ff] mix (by kernel_rfl) fun hb=>co' z (e' z)<|cn (fun _ k=>o' 3 cN' z z z)<|cn (fun _ k=>e' z)<|cn (fun _ k=>e' z) ?_
    obtain⟨x2,ai,hr⟩:=hr
    refine cn (fun _ k=>Q' ai' cd' ((P.mono (mt n m)).mono k) z z ai)<|cn (fun _ k=>cM' z) ?_
    obtain⟨am,al,aj,ak,aC,S,Q⟩:=ei' (H' (aV' (ax' (ab' P ai))) (mt n m))
    refine cn (fun _ k=>aA' _ cN' z z (fun j v hv=>k _ _ _ (aC j v hv))) ?_
    obtain⟨l,aw,hr⟩:=hr
    refine aW' (post:=w130' l) (fun _=>z) (fun _ _=>t' E117 z) (ha' aw) z (fun G' k=>⟨((L.mono (mt n m)).mono k),((M.mono (mt n m)).mono k),(S.mono k),(Q.mono k)⟩) (fun v G1 G2 k h=>?_) ?_
    .obtain⟨g,c,i,f,rfl,A,y⟩:=h
     exact⟨_,_,_,_,z,A.mono k,y.mono k⟩
    refine cu (fun _ _ k=>o' 10 bP' z z (Z' _ _ _))<|cQ' (d:=41) (post:=w130' l) (fun aO a0 W X=>?_)
    obtain⟨g,c,i,f,rfl,A,y⟩:=X
    refine yy (aw' (vs:=#[(0,.agg ((v130' l g c i f)).toArray),(1,.agg (vecG (Value.int .i64) 8 J.1).toArray)]) (v:=.agg (((v130' l g c i f):List Value)++(vecG (Value.int .i64) 8 J.1)).toArray) z z (fun _=>by kernel_rfl)) z<|bd' (e:=133) (r:=I') (vs:=#[(0,.agg (((v130' l g c i f):List Value)++(vecG (Value.int .i64) 8 J.1)).toArray)]) (cs:=(((v130' l g c i f):List Value)++(vecG (Value.int .i64) 8 J.1))++([])) ([(Ze.mk l J.1)]:List Ze) z z z z z (by decide) (fun _=>by kernel_rfl) ⟨((v130' l g c i f):List Value)++(vecG (Value.int .i64) 8 J.1),[],z,⟨(v130' l g c i f),vecG (Value.int .i64) 8 J.1,z,⟨(v128' l.num g c),(v128' l.den i f),z,⟨[.bool l.num.neg],[.slice g l.num.mag.length c],z,z,⟨_,z,A⟩⟩,⟨[.bool l.den.neg],[.slice i l.den.mag.length f],z,z,⟨_,z,y⟩⟩⟩,z⟩,z⟩ (key:=999) z (by rw[Z]; rfl) (fun p3 aZ V ay=>?_)
    obtain⟨aq,hr⟩:=hr
    refine bS' (r:=I') 1008 z z ai' el133 z (by decide) z z (U.mono (mt W V)) z (by rw[Z]; rfl) R ay aq fun p4 aA av aK ag aD ar=>sg z z<|u'<|aq'<|J'<|g'<|A'<|mv z z<|yy (W' z z) z<|sg z z<|u'<|X' ⟨(p++[(Ze.mk l J.1)]),p4,aA,av,i64.wrap (T+1),aK⟩ hr ⟨(mt (mt (mt m W) V) ag),aD,ar⟩ (f5 z z z z z) (w3 z z z)
   refine am'<|r'<|r'<|O'<|ao' ⟨p,q,s,o,K⟩ ⟨m,U,R,hr⟩ (f1 z) (w1 z)
 rintro⟨t,I,H,D,O⟩ ⟨aN,ae,az,hr⟩
 refine g'<|sr<|mv z z<|sg z z<|sg z z<|nx<|j' ?_
 obtain rfl:_=r:=hr
 exact aC' z z z ⟨_,_,z,ae⟩
theorem gN'{k p f e c d l m r}(hr:(ZgX k p).Ret r):Ctr prog 63 #[.agg ((v130' k f e c d)).toArray,.slice l p.length m] (fun G=>sl (Rp.int .u32) G f e k.num.mag/\sl (Rp.int .u32) G c d k.den.mag/\sl I' G l m p) (wl' I' r):=by
 refine E' (args:=[_,_]) (N:=15) func63 z z z (fun C D B n=>?_)
 obtain⟨h,g,s⟩:=n
 refine sr<|ad' 2 z z z fun E=>sg z z<|nr<|yy (o' 2 cN' z z z) z<|yy (aw' (vs:=#[]) (v:=.agg (vecG (Value.int .i64) 8 (fun _=>0)).toArray) z z (fun _=>by kernel_rfl)) z<|mv z z ?_
 obtain⟨y,o,hr⟩:=hr
 refine P' z z (t' E83 z) (gM' o) z (⟨h,g,s⟩) (fun x A u i=>?_)
 obtain⟨q,t,rfl,j⟩:=i
 refine mv z z<|yy (y' z z) z<|yy (y' z z) z<|sg z z<|sg z z<|nr<|mv z z<|sg z z<|nx<|j' ?_
 obtain rfl:_=r:=hr
 exact k' z z ⟨_,_,z,j⟩
theorem fs'{o p r}(hr:(ZfS o p).Ret r):Ctr prog 80 #[.agg (vecG (Value.int .i64) 8 o).toArray,.agg (vecG (Value.int .i64) 8 p).toArray] (fun G=>True) (fun G v=>v=i' r):=by
 refine E' (args:=[_,_]) (N:=24) func80 z z z fun s i I C=>sr<|ad' 2 z z z fun t=>ad' 3 z z z fun u=>sg z z<|nx<|n'<|sr<|sg z z<|nx<|ak' (fun (f:Mem)=>match f with|e=>[]) (fun (f:Mem)=>match f with|e=>Mem.le i e/\(Zgc).Ret r) (fun (f:Mem)=>match f with|e=>St s i e []) ?_ ?_
 .refine C' ?_
  let j:(Int⊕Unit)->Prop:=fun D=>((fun E=>match E with | .inl rv1=>Cq.ret rv1 | .inr ()=>Zgc:(Int⊕Unit)->Cq Int) D).wp (fun a=>a=r)
  replace hr:(Cq.loop _ _).wp j:=hr
  refine al' (Φ:=j) (fun (⟨g,d⟩:Int×Mem)=>(g:Int)) (fun ⟨g,d⟩=>[(2,.pointer (some ⟨t,0,none⟩)),(3,.pointer (some ⟨u,0,none⟩)),(5,i' g)]) (fun ⟨g,d⟩=>Mem.le i d) (fun ⟨g,d⟩=>St s i d [(2,some ⟨t,.cells (vecG (Value.int .i64) 8 o).toArray 120 (0,0),0⟩),(3,some ⟨u,.cells (vecG (Value.int .i64) 8 p).toArray 120 (0,0),0⟩)]) ⟨0,i⟩ hr (f3 z z z) mr (w2 z z) ?_
  .intro H f F hr
   obtain⟨g,d⟩:=f
   have h:=F
   refine n'<|sr<|mv z z<|yy (ag' z z) z<|nx<|L' hr z (fun A hr=>?_) (fun A hr=>?_)
   .refine q'<|g'<|n'<|C'<|n'<|n'<|ah' [ff,ff,ff,ff,ff,ff] mix (by kernel_rfl) fun q=>cn (fun _ c=>e' z) ?_
    obtain⟨m,hr⟩:=hr
    refine cn (fun _ c=>bg' aN' sz3 z z m)<|cn (fun _ c=>f' 2 sc3 z z (bj' _ _ _ m))<|cn (fun _ c=>e' z) ?_
    obtain⟨l,hr⟩:=hr
    refine cn (fun _ c=>bg' aN' sz3 z z l)<|cn (fun _ c=>f' 3 sc3 z z (bj' _ _ _ l))<|U' q<|yy (ag' z z) z<|u'<|aq'<|g'<|L' hr z (fun x hr=>?_) (fun x hr=>?_)
    .refine sr<|sg z z<|nx<|j'<|a'<|m'<|a'<|a'<|m'<|ae'<|a' ?_
     obtain rfl:_=r:=hr
     exact k' z z z
    refine q'<|g'<|n'<|ah' [ff,ff,ff,ff,ff,ff] mix (by kernel_rfl) fun q=>cn (fun _ c=>e' z) ?_
    obtain⟨k,hr⟩:=hr
    refine cn (fun _ c=>bg' aN' sz3 z z k)<|cn (fun _ c=>f' 2 sc3 z z (bj' _ _ _ k))<|cn (fun _ c=>e' z) ?_
    obtain⟨n,hr⟩:=hr
    refine cn (fun _ c=>bg' aN' sz3 z z n)<|cn (fun _ c=>f' 3 sc3 z z (bj' _ _ _ n))<|U' q<|yy (bh' z z) z<|u'<|aq'<|g'<|L' hr z (fun y hr=>?_) (fun y hr=>?_)
    .refine sr<|sg z z<|nx<|j'<|m'<|a'<|a'<|m'<|ae'<|a' ?_
     obtain rfl:_=r:=hr
     exact k' z z z
    refine q'<|J'<|g'<|A'<|mv z z<|yy (W' z z) z<|sg z z<|u'<|X' ⟨i64.wrap (g+1),d⟩ hr h (f3 z z z) (w2 z z)
   refine am'<|r'<|r'<|O'<|ao' d ⟨h,hr⟩ fn (wk ln)
 rintro e ⟨B,hr⟩
 refine g'<|sr<|sg z z<|nx<|j' ?_
 obtain rfl:_=r:=hr
 exact k' z z z
theorem hb'{P K j k g l r}(hr:(Zml P K).Ret r):Ctr prog 113 #[.agg ((v128' P j k)).toArray,.agg ((v128' K g l)).toArray] (fun G=>sl (Rp.int .u32) G j k P.mag/\sl (Rp.int .u32) G g l K.mag) (w128' r):=by
 refine E' (args:=[_,_]) (N:=40) func113 z z z (fun w0 G0 ay H=>?_)
 obtain⟨f,e⟩:=H
 refine sr<|ad' 2 z z z fun b2=>ad' 3 z z z fun b3=>T' 4 z z128 z fun b4=>nx<|n'<|sr<|yy (br' z) z<|yy (f' 2 sc4 z z z) z<|yy (br' z) z<|yy (f' 3 sc4 z z z) z<|yy (Y0.eqlB cr' z z) z<|nx<|L' hr z (fun ah hr=>?_) (fun ah hr=>?_)
 .refine n'<|ah' [ff,ff,ff,ff,ff,ff,ff] mix (by kernel_rfl) fun hb=>cn (fun _ c=>br' z)<|cn (fun _ c=>f' 2 sc4 z z z)<|cn (fun _ c=>aY' z)<|cn (fun _ c=>f' 2 bI' z z z)<|cn (fun _ c=>aY' z)<|cn (fun _ c=>f' 3 bI' z z z) ?_
  obtain⟨C,J,hr⟩:=hr
  refine aW' (post:=wl' (Rp.int .u32) C) (fun _=>z) (fun _ _=>t' E162 z) (gL' J) z (fun G' c=>⟨(f.mono c),(e.mono c)⟩) (fun v G1 G2 c h=>?_) ?_
  .obtain⟨R,S,rfl,o⟩:=h
   exact⟨_,_,z,o.mono c⟩
  refine cQ' (d:=16) (post:=wl' (Rp.int .u32) C) (fun av aH al u=>?_)
  obtain⟨R,S,rfl,o⟩:=u
  obtain⟨aA,F,hr⟩:=hr
  refine P' z z (t' E118 z) (cO' F) z (o) (fun aw aC ak s=>?_)
  obtain⟨Y,Z,rfl,B⟩:=s
  refine s' 4 z dk' z z z z z (List.all_eq_true.1 z)<|u'<|aq'<|g'<|j'<|a' ?_
  obtain rfl:_=r:=hr
  exact k' z (ac' (i:=4) bt' z z z) ⟨_,_,z,B⟩
 refine q'<|g'<|n'<|sr<|yy (aY' z) z<|yy (f' 2 bI' z z z) z<|yy (aY' z) z<|yy (f' 3 bI' z z z) z ?_
 obtain⟨aF,W,hr⟩:=hr
 refine D' z z (t' E163 z) (df' W) z (⟨f,e⟩)<|yy (ag' z z) z<|nx<|L' hr z (fun ag hr=>?_) (fun ag hr=>?_)
 .refine n'<|ah' [ff,ff,ff,ff,ff,ff,ff] mix (by kernel_rfl) fun hb=>cn (fun _ c=>br' z)<|cn (fun _ c=>f' 3 sc4 z z z)<|cn (fun _ c=>aY' z)<|cn (fun _ c=>f' 3 bI' z z z)<|cn (fun _ c=>aY' z)<|cn (fun _ c=>f' 2 bI' z z z) ?_
  obtain⟨E,L,hr⟩:=hr
  refine aW' (post:=wl' (Rp.int .u32) E) (fun _=>z) (fun _ _=>t' E164 z) (fI' L) z (fun G' c=>⟨(e.mono c),(f.mono c)⟩) (fun v G1 G2 c h=>?_) ?_
  .obtain⟨I,V,rfl,m⟩:=h
   exact⟨_,_,z,m.mono c⟩
  refine cQ' (d:=30) (post:=wl' (Rp.int .u32) E) (fun au aE aj q=>?_)
  obtain⟨I,V,rfl,m⟩:=q
  obtain⟨az,Q,hr⟩:=hr
  refine P' z z (t' E118 z) (cO' Q) z (m) (fun aq aG am y=>?_)
  obtain⟨aa,X,rfl,t⟩:=y
  refine s' 4 z dk' z z z z z (List.all_eq_true.1 z)<|u'<|aq'<|g'<|j'<|a' ?_
  obtain rfl:_=r:=hr
  exact k' z (ac' (i:=4) bt' z z z) ⟨_,_,z,t⟩
 refine q'<|g'<|n'<|ah' [ff,ff,ff,ff,ff,ff,ff] mix (by kernel_rfl) fun hb=>cn (fun _ c=>br' z)<|cn (fun _ c=>f' 2 sc4 z z z)<|cn (fun _ c=>aY' z)<|cn (fun _ c=>f' 2 bI' z z z)<|cn (fun _ c=>aY' z)<|cn (fun _ c=>f' 3 bI' z z z) ?_
 obtain⟨D,M,hr⟩:=hr
 refine aW' (post:=wl' (Rp.int .u32) D) (fun _=>z) (fun _ _=>t' E164 z) (fI' M) z (fun G' c=>⟨(f.mono c),(e.mono c)⟩) (fun v G1 G2 c h=>?_) ?_
 .obtain⟨T,U,rfl,n⟩:=h
  exact⟨_,_,z,n.mono c⟩
 refine cQ' (d:=38) (post:=wl' (Rp.int .u32) D) (fun ap aB an x=>?_)
 obtain⟨T,U,rfl,n⟩:=x
 obtain⟨aD,O,hr⟩:=hr
 refine P' z z (t' E118 z) (cO' O) z (n) (fun ar ax ao A=>?_)
 obtain⟨ab,ac,rfl,p⟩:=A
 refine s' 4 z dk' z z z z z (List.all_eq_true.1 z)<|u'<|aq'<|g'<|j' ?_
 obtain rfl:_=r:=hr
 exact k' z (ac' (i:=4) bt' z z z) ⟨_,_,z,p⟩
theorem hc'{x s l m g j o n k e r}(hr:(ZhJ x s).Ret r):Ctr prog 81 #[.agg ((v130' x l m g j)).toArray,.agg ((v130' s o n k e)).toArray] (fun G=>sl (Rp.int .u32) G l m x.num.mag/\sl (Rp.int .u32) G g j x.den.mag/\sl (Rp.int .u32) G o n s.num.mag/\sl (Rp.int .u32) G k e s.den.mag) (w130' r):=by
 refine E' (args:=[_,_]) (N:=22) func81 z z z (fun w0 G0 ay ag=>?_)
 obtain⟨J,y,I,A⟩:=ag
 refine sr<|ad' 2 z z z fun b2=>ad' 3 z z z fun b3=>T' 4 z z130 z fun b4=>nx<|n'<|ah' [ff,ff,ff,ff,ff,ff,ff,ff,ff,ff,ff,ff,ff,ff,ff] mix (by kernel_rfl) fun hb=>cn (fun _ c=>cz' z)<|cn (fun _ c=>aH' ((v128' x.num l m)).toArray 2 bt' z z z (aT' ([]) ((v128' x.num l m)) ((v128' x.den g j))))<|cn (fun _ c=>cg' z)<|cn (fun _ c=>aH' ((v128' s.den k e)).toArray 3 bt' z z z (aT' ((v128' s.num o n)) ((v128' s.den k e)) ([]))) ?_
 obtain⟨V,ah,hr⟩:=hr
 refine aW' (post:=w128' V) (fun _=>z) (fun _ _=>t' E114 z) (ey' ah) z (fun G' c=>⟨(J.mono c),(A.mono c)⟩) (fun v G1 G2 c h=>?_) ?_
 .obtain⟨B,C,rfl,p⟩:=h
  exact⟨_,_,z,p.mono c⟩
 refine cu (fun _ _ c=>cz' z)<|cu (fun _ _ c=>aH' ((v128' s.num o n)).toArray 3 bt' z z z (aT' ([]) ((v128' s.num o n)) ((v128' s.den k e))))<|cu (fun _ _ c=>cg' z)<|cu (fun _ _ c=>aH' ((v128' x.den g j)).toArray 2 bt' z z z (aT' ((v128' x.num l m)) ((v128' x.den g j)) ([]))) ?_
 obtain⟨U,af,hr⟩:=hr
 refine aW' (post:=w128' U) (fun _=>z) (fun _ _=>t' E114 z) (ey' af) z (fun G' c=>⟨(I.mono c),(y.mono c)⟩) (fun v G1 G2 c h=>?_) ?_
 .obtain⟨D,E,rfl,q⟩:=h
  exact⟨_,_,z,q.mono c⟩
 obtain⟨ae,ak,hr⟩:=hr
 refine cy' (f:=113) (φ:=w128' ae) (fun _=>z) (fun v G1 G2 c h=>?_) (fun u G' c hu=>?_) ?_
 .obtain⟨O,S,rfl,t⟩:=h
  exact⟨_,_,z,t.mono c⟩
 .obtain⟨⟨D,E,ab,q⟩,⟨B,C,ac,p⟩,_⟩:=(show (w128' U) G'.m (u 14)/\(w128' V) G'.m (u 9)/\True from hu)
  exact⟨_,_,_,fun _=>t' E113 z,hb' ak,(by simp only[ab,ac] <;> rfl),⟨p,q⟩⟩
 refine cu (fun _ _ c=>cg' z)<|cu (fun _ _ c=>aH' ((v128' x.den g j)).toArray 2 bt' z z z (aT' ((v128' x.num l m)) ((v128' x.den g j)) ([])))<|cu (fun _ _ c=>cg' z)<|cu (fun _ _ c=>aH' ((v128' s.den k e)).toArray 3 bt' z z z (aT' ((v128' s.num o n)) ((v128' s.den k e)) ([])))<|Chain.tailU3 (d:=15) (post:=w128' ae) (d':=14) (post':=w128' U) (d'':=9) (post'':=w128' V) (fun aq ax aw aC K Q M P=>?_)
 obtain⟨O,S,rfl,t⟩:=Q
 obtain⟨D,E,rfl,q⟩:=M
 obtain⟨B,C,rfl,p⟩:=P
 obtain⟨aD,ai,hr⟩:=hr
 refine P' z z (t' E114 z) (ey' ai) z (⟨(y.mono K),(A.mono K)⟩) (fun au aA Z L=>?_)
 obtain⟨al,am,rfl,T⟩:=L
 obtain⟨az,aj,hr⟩:=hr
 refine P' z z (t' E112 z) (fr' aj) z (⟨(t.mono Z),T⟩) (fun ar aB ap R=>?_)
 obtain⟨ad,Y,W,X,rfl,F,H⟩:=R
 refine s' 4 z sz130 z z z z z (List.all_eq_true.1 z)<|u'<|aq'<|g'<|j' ?_
 obtain rfl:_=r:=hr
 exact k' z (ac' (i:=4) cN' z z z) ⟨_,_,_,_,z,F,H⟩
theorem go'{H E W S Y T r}(hr:(ZfT H E).Ret r):Ctr prog 62 #[.slice W H.length S,.slice Y E.length T] (fun G=>sl I' G W S H/\sl I' G Y T E) (wl' I' r):=by
 refine E' (args:=[_,_]) (N:=109) func62 z z z (fun w0 G0 av bq=>?_)
 obtain⟨p,J⟩:=bq
 refine sr<|sg z z<|nr<|bd' (e:=133) (r:=I') (vs:=#[]) (cs:=[]) ([]:List Ze) z z z z z (by decide) (fun _=>by kernel_rfl) (z) (key:=999) z (by rw[av]; rfl) fun p1 aY g bG=>sg z z<|nr<|sg z z<|sg z z<|nx<|n'<|ak' (fun (⟨Z,aj,ag,af,az⟩:(List Ze)×Option Addr×Nat×Option Ow×Mem)=>[(5,.slice aj Z.length ag)]) (fun ⟨Z,aj,ag,af,az⟩=>Mem.le aY az/\sl I' az aj ag Z/\Tok 12 133 (.slice aj Z.length ag) Z.length af/\(Zgf Z).Ret r) (fun ⟨Z,aj,ag,af,az⟩=>St w0 G0 az [(1005,af)]) ?_ ?_
 .refine C' ?_
  let ap:(List Ze)->Prop:=fun oo=>((fun ov=>match ov with|Z=>Zgf Z:(List Ze)->Cq (List Ze)) oo).wp (fun a=>a=r)
  replace hr:(Cq.loop _ _).wp ap:=hr
  refine al' (Φ:=ap) (fun (⟨C,F,I,D,M,o,ae⟩:(List Ze)×Option Addr×Nat×Option Ow×Int×Int×Mem)=>((C,M,o):(List Ze)×Int×Int)) (fun ⟨C,F,I,D,M,o,ae⟩=>[(0,.slice W H.length S),(1,.slice Y E.length T),(5,.slice F C.length I),(6,i' M),(7,i' o)]) (fun ⟨C,F,I,D,M,o,ae⟩=>Mem.le aY ae/\sl I' ae F I C/\Tok 12 133 (.slice F C.length I) C.length D) (fun ⟨C,F,I,D,M,o,ae⟩=>St w0 G0 ae [(1005,D)]) ⟨[],p1,0,none,0,0,aY⟩ hr (f5 z z z z z) ⟨mr,bG,dg'⟩ (wk (lw ln)) ?_
  .intro aN gx hx hr
   obtain⟨C,F,I,D,M,o,ae⟩:=gx
   obtain⟨d,aE,aw⟩:=hx
   refine aM' (fun (gx:Mem)=>match gx with|an=>[(0,.slice W H.length S),(1,.slice Y E.length T),(5,.slice F C.length I),(6,i' M),(7,i' o)]) (fun (gx:Mem)=>match gx with|an=>Mem.le ae an/\(Zbg H E C M o).wp (Out aN ap)) (fun (gx:Mem)=>match gx with|an=>St w0 G0 an [(1005,D)]) ?_ ?_
   .refine sr<|mv z z<|mv z z<|yy (M' ai' (p.mono (mt g d)) z) z<|aa' hr z (ag' z z) z (fun bJ hr=>?_) (fun bJ hr=>?_)
    .refine mv z z<|sn4 z<|yy (h' z z) z<|nx<|R' z<|q'<|ap' ae ⟨mr,hr⟩ (f5 z z z z z) (w1 z)
    refine mv z z<|gy z z (e' z) z<|gy z z (e' z) z<|gy z z (M' ai' (J.mono (mt g d)) z) z<|gy z z (ag' z z) z<|yy (l' z z) z<|nx<|L' hr z (fun bQ hr=>?_) (fun bQ hr=>?_)
    .refine q'<|ap' ae ⟨mr,hr⟩ (f5 z z z z z) (w1 z)
    refine am'<|r'<|r'<|O'<|ao' ⟨C,F,I,D,ae⟩ ⟨d,aE,aw,hr⟩ (f1 z) (w1 z)
   rintro an ⟨f,hr⟩
   refine C'<|aM' (fun (⟨K,X,U,Q,L,am⟩:(List Ze)×Option Addr×Nat×Option Ow×Int×Mem)=>[(0,.slice W H.length S),(1,.slice Y E.length T),(5,.slice X K.length U),(6,i' L),(7,i' o)]) (fun ⟨K,X,U,Q,L,am⟩=>Mem.le an am/\sl I' am X U K/\Tok 12 133 (.slice X K.length U) K.length Q/\(ZcD H E o K L).wp (Out aN ap)) (fun ⟨K,X,U,Q,L,am⟩=>St w0 G0 am [(1005,Q)]) ?_ ?_
   .refine aM' (fun (⟨ar,ax⟩:Bool×Mem)=>[(0,.slice W H.length S),(1,.slice Y E.length T),(5,.slice F C.length I),(6,i' M),(7,i' o),(43,.bool ar)]) (fun ⟨ar,ax⟩=>Mem.le an ax/\(ZaS H E C M o ar).wp (Out aN ap)) (fun ⟨ar,ax⟩=>St w0 G0 ax [(1005,D)]) ?_ ?_
    .refine ah' [ff,ff,ff,ff,ff,ff,ff,ff,ff,ff,ff,ff,ff,ff,ff,ff,ff,ff,ff,ff] mix (by kernel_rfl) fun hb=>cn (fun _ c=>e' z)<|cn (fun _ c=>e' z)<|cn (fun _ c=>M' ai' ((J.mono (mt (mt g d) f)).mono c) z)<|by' hr z (fun _ c=>at' z z) (fun b4 hr=>?_) (fun b4 hr=>?_)
     .refine cn (fun _ c=>e' z)<|cf z z<|cf z z<|cf z z<|cf z z<|cf z z<|cs z z<|cs z z<|cs z z<|cs z z<|cs z z<|cs z z<|cs z z<|cs z z<|cs z z<|cs z z<|U' hb<|N' (x' z z) z<|N' (x' z z) z<|sf z z z<|yy (h' z z) z<|u'<|aq'<|ap' ⟨true,an⟩ ⟨mr,hr⟩ (f6 z z z z z z) (w1 z)
     refine cn (fun _ c=>e' z)<|cy z z (fun _ c=>e' z)<|cy z z (fun _ c=>e' z)<|cy z z (fun _ c=>M' ai' ((p.mono (mt (mt g d) f)).mono c) z)<|by' hr (v' z z) (fun _ c=>ag' z z) (fun b5 hr=>?_) (fun b5 hr=>?_)
     .refine cy z z (fun _ c=>e' z)<|cy z z (fun _ c=>e' z)<|cy z z (fun _ c=>e' z) ?_
      obtain⟨x8,bj,hr⟩:=hr
      refine cy z z (fun _ c=>Q' ai' cd' ((p.mono (mt (mt g d) f)).mono c) z z bj)<|cy z z (fun _ c=>bz' z)<|cy z z (fun _ c=>aA' _ bP' z (Z' _ _ _) (du' (H' (H' (ay' (ax' (ab' p bj))) (mt (mt g d) f)) c)))<|cy z z (fun _ c=>e' z)<|cy z z (fun _ c=>e' z) ?_
      obtain⟨x9,bh,hr⟩:=hr
      refine cy z z (fun _ c=>Q' ai' cd' ((J.mono (mt (mt g d) f)).mono c) z z bh)<|cy z z (fun _ c=>bz' z)<|cy z z (fun _ c=>aA' _ bP' z (Z' _ _ _) (du' (H' (H' (ay' (ax' (ab' J bh))) (mt (mt g d) f)) c)))<|U' hb ?_
      obtain⟨bY,bs,hr⟩:=hr
      refine D' (v' z z) z (t' E80 z) (fs' bs) z (trivial)<|gy z z (bh' z z) z<|gy z z (h' z z) z<|yy (l' z z) z<|u'<|aq'<|ap' ⟨decide (0<bY),an⟩ ⟨mr,hr⟩ (f6 z z z z z z) (w1 z)
     refine cy z z (fun _ c=>e' z)<|ct z z<|ct z z<|ct z z<|ct z z<|ct z z<|ct z z<|ct z z<|ct z z<|ct z z<|ct z z<|U' hb<|sn2 z<|gy z z (l' z z) z<|yy (l' z z) z<|u'<|aq'<|ap' ⟨false,an⟩ ⟨mr,hr⟩ (f6 z z z z z z) (w1 z)
    rintro⟨ar,ax⟩ ⟨ai,hr⟩
    refine aL' hr z (fun bU hr=>?_) (fun bU hr=>?_)
    .refine sr<|mv z z<|mv z z<|mv z z ?_
     obtain⟨x7,bi,hr⟩:=hr
     refine yy (Q' ai' cd' (p.mono (mt (mt (mt g d) f) ai)) z z bi) z ?_
     obtain⟨q,B,A,s,bX,aD,aF⟩:=dn' (H' (ab' p bi) (mt (mt (mt g d) f) ai))
     refine yy (aA' _ ag133 z z bX) z<|bd' (e:=133) (r:=I') (vs:=#[(0,.agg (((v130' x7.c q B A s):List Value)++(vecG (Value.int .i64) 8 x7.m)).toArray)]) (cs:=(((v130' x7.c q B A s):List Value)++(vecG (Value.int .i64) 8 x7.m))++([])) ([x7]:List Ze) z z z z z (by decide) (fun _=>by kernel_rfl) ⟨((v130' x7.c q B A s):List Value)++(vecG (Value.int .i64) 8 x7.m),[],z,⟨(v130' x7.c q B A s),vecG (Value.int .i64) 8 x7.m,z,⟨(v128' x7.c.num q B),(v128' x7.c.den A s),z,⟨[.bool x7.c.num.neg],[.slice q x7.c.num.mag.length B],z,z,⟨_,z,aD⟩⟩,⟨[.bool x7.c.den.neg],[.slice A x7.c.den.mag.length s],z,z,⟨_,z,aF⟩⟩⟩,z⟩,z⟩ (key:=999) z (by rw[av]; rfl) (fun p6 ch aT b2=>?_)
     obtain⟨bn,hr⟩:=hr
     refine bS' (r:=I') 1005 z z ai' el133 z (by decide) z z (aE.mono (mt (mt f ai) aT)) z (by rw[av]; rfl) aw b2 bn fun p7 bP bt bS a1 bM bm=>sg z z<|nr<|mv z z<|yy (W' z z) z<|sg z z<|nx<|am'<|r'<|O'<|X' ⟨(C++[x7]),p7,bP,bt,i64.wrap (M+1),o,bS⟩ hr ⟨(mt (mt (mt (mt d f) ai) aT) a1),bM,bm⟩ (f5 z z z z z) (w1 z)
    refine q'<|ap' ⟨C,F,I,D,M,ax⟩ ⟨ai,(aE.mono (mt f ai)),aw,hr⟩ (f5 z z z z z) (w1 z)
   rintro⟨K,X,U,Q,L,am⟩ ⟨n,aW,aI,hr⟩
   refine aM' (fun (⟨aa,ad,ac,ab,ao,ay⟩:(List Ze)×Option Addr×Nat×Option Ow×Int×Mem)=>[(0,.slice W H.length S),(1,.slice Y E.length T),(5,.slice ad aa.length ac),(6,i' L),(7,i' ao)]) (fun ⟨aa,ad,ac,ab,ao,ay⟩=>Mem.le am ay/\sl I' ay ad ac aa/\Tok 12 133 (.slice ad aa.length ac) aa.length ab/\(Zgg H E L aa ao).wp (Out aN ap)) (fun ⟨aa,ad,ac,ab,ao,ay⟩=>St w0 G0 ay [(1005,ab)]) ?_ ?_
   .refine aM' (fun (⟨aq,aA⟩:Bool×Mem)=>[(0,.slice W H.length S),(1,.slice Y E.length T),(5,.slice X K.length U),(6,i' L),(7,i' o),(70,.bool aq)]) (fun ⟨aq,aA⟩=>Mem.le am aA/\(ZcC H E o K L aq).wp (Out aN ap)) (fun ⟨aq,aA⟩=>St w0 G0 aA [(1005,Q)]) ?_ ?_
    .refine ah' [ff,ff,ff,ff,ff,ff,ff,ff,ff,ff,ff,ff,ff,ff,ff] mix (by kernel_rfl) fun hb=>cn (fun _ c=>e' z)<|cn (fun _ c=>e' z)<|cn (fun _ c=>M' ai' ((p.mono (mt (mt (mt g d) f) n)).mono c) z)<|by' hr z (fun _ c=>at' z z) (fun bE hr=>?_) (fun bE hr=>?_)
     .refine cn (fun _ c=>e' z)<|cf z z<|cf z z<|cf z z<|cf z z<|cf z z<|cf z z<|cf z z<|cf z z<|cf z z<|cf z z<|U' hb<|sn2 z<|yy (h' z z) z<|u'<|aq'<|ap' ⟨true,am⟩ ⟨mr,hr⟩ (f6 z z z z z z) (w1 z)
     refine cn (fun _ c=>e' z)<|cy z z (fun _ c=>e' z)<|cy z z (fun _ c=>e' z) ?_
     obtain⟨x5,bd,hr⟩:=hr
     refine cy z z (fun _ c=>Q' ai' cd' ((p.mono (mt (mt (mt g d) f) n)).mono c) z z bd)<|cy z z (fun _ c=>bz' z)<|cy z z (fun _ c=>aA' _ bP' z (Z' _ _ _) (du' (H' (H' (ay' (ax' (ab' p bd))) (mt (mt (mt g d) f) n)) c)))<|cy z z (fun _ c=>e' z)<|cy z z (fun _ c=>e' z) ?_
     obtain⟨x6,bg,hr⟩:=hr
     refine cy z z (fun _ c=>Q' ai' cd' ((J.mono (mt (mt (mt g d) f) n)).mono c) z z bg)<|cy z z (fun _ c=>bz' z)<|cy z z (fun _ c=>aA' _ bP' z (Z' _ _ _) (du' (H' (H' (ay' (ax' (ab' J bg))) (mt (mt (mt g d) f) n)) c)))<|U' hb ?_
     obtain⟨bW,bA,hr⟩:=hr
     refine D' (v' z z) z (t' E80 z) (fs' bA) z (trivial)<|gy z z (ag' z z) z<|yy (l' z z) z<|u'<|aq'<|ap' ⟨decide (bW<0),am⟩ ⟨mr,hr⟩ (f6 z z z z z z) (w1 z)
    rintro⟨aq,aA⟩ ⟨ah,hr⟩
    refine aL' hr z (fun bZ hr=>?_) (fun bZ hr=>?_)
    .refine sr<|mv z z<|mv z z<|mv z z ?_
     obtain⟨x4,a9,hr⟩:=hr
     refine yy (Q' ai' cd' (J.mono (mt (mt (mt (mt g d) f) n) ah)) z z a9) z ?_
     obtain⟨y,u,x,t,b0,aC,aB⟩:=dn' (H' (ab' J a9) (mt (mt (mt (mt g d) f) n) ah))
     refine yy (aA' _ ag133 z z b0) z<|bd' (e:=133) (r:=I') (vs:=#[(0,.agg (((v130' x4.c y u x t):List Value)++(vecG (Value.int .i64) 8 x4.m)).toArray)]) (cs:=(((v130' x4.c y u x t):List Value)++(vecG (Value.int .i64) 8 x4.m))++([])) ([x4]:List Ze) z z z z z (by decide) (fun _=>by kernel_rfl) ⟨((v130' x4.c y u x t):List Value)++(vecG (Value.int .i64) 8 x4.m),[],z,⟨(v130' x4.c y u x t),vecG (Value.int .i64) 8 x4.m,z,⟨(v128' x4.c.num y u),(v128' x4.c.den x t),z,⟨[.bool x4.c.num.neg],[.slice y x4.c.num.mag.length u],z,z,⟨_,z,aC⟩⟩,⟨[.bool x4.c.den.neg],[.slice x x4.c.den.mag.length t],z,z,⟨_,z,aB⟩⟩⟩,z⟩,z⟩ (key:=999) z (by rw[av]; rfl) (fun p4 ck aU bL=>?_)
     obtain⟨bB,hr⟩:=hr
     refine bS' (r:=I') 1005 z z ai' el133 z (by decide) z z (aW.mono (mt ah aU)) z (by rw[av]; rfl) aI bL bB fun p5 bO bv bN a3 bC bp=>sg z z<|nr<|mv z z<|yy (W' z z) z<|sg z z<|nx<|am'<|r'<|O'<|X' ⟨(K++[x4]),p5,bO,bv,L,i64.wrap (o+1),bN⟩ hr ⟨(mt (mt (mt (mt (mt d f) n) ah) aU) a3),bC,bp⟩ (f5 z z z z z) (w1 z)
    refine q'<|ap' ⟨K,X,U,Q,o,aA⟩ ⟨ah,(aW.mono ah),aI,hr⟩ (f5 z z z z z) (w1 z)
   rintro⟨aa,ad,ac,ab,ao,ay⟩ ⟨V,aS,aO,hr⟩
   refine n'<|ah' [ff,ff,ff,ff,ff,ff,ff,ff,ff,ff,ff,ff] mix (by kernel_rfl) fun hb=>cn (fun _ c=>e' z)<|cn (fun _ c=>e' z) ?_
   obtain⟨x1,a5,hr⟩:=hr
   refine cn (fun _ c=>Q' ai' cd' ((p.mono (mt (mt (mt (mt g d) f) n) V)).mono c) z z a5)<|cn (fun _ c=>cM' z) ?_
   obtain⟨bk,bc,a7,a8,bK,aP,aL⟩:=ei' (H' (aV' (ax' (ab' p a5))) (mt (mt (mt (mt g d) f) n) V))
   refine cn (fun _ c=>aA' _ cN' z z (fun j v hv=>c _ _ _ (bK j v hv)))<|cn (fun _ c=>e' z)<|cn (fun _ c=>e' z) ?_
   obtain⟨x2,a6,hr⟩:=hr
   refine cn (fun _ c=>Q' ai' cd' ((J.mono (mt (mt (mt (mt g d) f) n) V)).mono c) z z a6)<|cn (fun _ c=>cM' z) ?_
   obtain⟨a4,bb,bf,ba,bH,aJ,aM⟩:=ei' (H' (aV' (ax' (ab' J a6))) (mt (mt (mt (mt g d) f) n) V))
   refine cn (fun _ c=>aA' _ cN' z z (fun j v hv=>c _ _ _ (bH j v hv))) ?_
   obtain⟨R,br,hr⟩:=hr
   refine aW' (post:=w130' R) (fun _=>z) (fun _ _=>t' E81 z) (hc' br) z (fun G' c=>⟨(aP.mono c),(aL.mono c),(aJ.mono c),(aM.mono c)⟩) (fun v G1 G2 c h=>?_) ?_
   .obtain⟨m,i,k,l,rfl,P,O⟩:=h
    exact⟨_,_,_,_,z,P.mono c,O.mono c⟩
   refine bD' (fun _=>z) z130<|ef' (fun cj ce X1 au aZ aX=>?_)
   obtain⟨b1,rfl,bo⟩:=aZ
   obtain⟨m,i,k,l,rfl,P,O⟩:=aX
   refine cq' bo (cj' (show WL _ _ _ _ _ _ (St w0 G0 X1.m _) from ?_))
   refine s' 8 z sz130 z z z z z (List.all_eq_true.1 z)<|u'<|aq'<|g'<|n'<|sr<|yy (o' 8 cN' z z z) z ?_
   obtain⟨cg,bl,hr⟩:=hr
   refine D' z z (t' E82 z) (eW' bl) z (⟨P,O⟩)<|yy (av' z z) z<|nx<|L' hr z (fun b3 hr=>?_) (fun b3 hr=>?_)
   .refine ah' [tt,ff,ff,ff,ff,ff,ff] mix (by kernel_rfl) fun hb=>co' z (e' z)<|cn (fun _ c=>o' 8 cN' z z z)<|cn (fun _ c=>e' z)<|cn (fun _ c=>e' z) ?_
    obtain⟨x3,be,hr⟩:=hr
    have N1:=mt (mt (mt (mt (mt g d) f) n) V) au
    refine cn (fun _ c=>Q' ai' cd' ((p.mono N1).mono c) z z be)<|cn (fun _ c=>bz' z)<|cn (fun _ c=>aA' _ bP' z (Z' _ _ _) (du' (H' (H' (ay' (ax' (ab' p be))) N1) c)))<|U' hb<|yy (aw' (vs:=#[(0,.agg ((v130' R m i k l)).toArray),(1,.agg (vecG (Value.int .i64) 8 x3.m).toArray)]) (v:=.agg (((v130' R m i k l):List Value)++(vecG (Value.int .i64) 8 x3.m)).toArray) z z (fun _=>by kernel_rfl)) z<|bd' (e:=133) (r:=I') (vs:=#[(0,.agg (((v130' R m i k l):List Value)++(vecG (Value.int .i64) 8 x3.m)).toArray)]) (cs:=(((v130' R m i k l):List Value)++(vecG (Value.int .i64) 8 x3.m))++([])) ([(Ze.mk R x3.m)]:List Ze) z z z z z (by decide) (fun _=>by kernel_rfl) ⟨((v130' R m i k l):List Value)++(vecG (Value.int .i64) 8 x3.m),[],z,⟨(v130' R m i k l),vecG (Value.int .i64) 8 x3.m,z,⟨(v128' R.num m i),(v128' R.den k l),z,⟨[.bool R.num.neg],[.slice m R.num.mag.length i],z,z,⟨_,z,P⟩⟩,⟨[.bool R.den.neg],[.slice k R.den.mag.length l],z,z,⟨_,z,O⟩⟩⟩,z⟩,z⟩ (key:=999) z (by rw[av]; rfl) (fun p2 ci aV bR=>?_)
    obtain⟨bu,hr⟩:=hr
    refine bS' (r:=I') 1005 z z ai' el133 z (by decide) z z (aS.mono (mt au aV)) z (by rw[av]; rfl) aO bR bu fun p3 bI bx bV a0 bD bw=>sg z z<|u'<|aq'<|g'<|sr<|mv z z<|yy (W' z z) z<|sg z z<|nx<|A'<|mv z z<|yy (W' z z) z<|sg z z<|u'<|J'<|X' ⟨(aa++[(Ze.mk R x3.m)]),p3,bI,bx,i64.wrap (L+1),i64.wrap (ao+1),bV⟩ hr ⟨(mt (mt (mt (mt (mt (mt d f) n) V) au) aV) a0),bD,bw⟩ (f5 z z z z z) (w1 z)
   refine q'<|g'<|sr<|mv z z<|yy (W' z z) z<|sg z z<|nx<|A'<|mv z z<|yy (W' z z) z<|sg z z<|u'<|J'<|X' ⟨aa,ad,ac,ab,i64.wrap (L+1),i64.wrap (ao+1),X1.m⟩ hr ⟨(mt (mt (mt (mt d f) n) V) au),(aS.mono au),aO⟩ (f5 z z z z z) (w1 z)
 rintro⟨Z,aj,ag,af,az⟩ ⟨b6,a2,bT,hr⟩
 refine g'<|sr<|mv z z<|sg z z<|nx<|j' ?_
 obtain rfl:_=r:=hr
 exact k' z z ⟨_,_,z,a2⟩
theorem gS'{y O I V A B r}(hr:(Ziq y O I V).Ret r):Ctr prog 46 #[.agg ([.slice A y.t.length B]).toArray,i' O,i' I,i' V] (fun G=>sl (dv' .i8 5) G A B y.t) (wl' I' r):=by
 refine E' (args:=[_,_,_,_]) (N:=74) func46 z z z (fun w0 G0 aC aI=>?_)
 have K:=aI
 refine sr<|ad' 4 z z z fun b1=>sg z z<|nr<|bd' (e:=133) (r:=I') (vs:=#[]) (cs:=[]) ([]:List Ze) z z z z z (by decide) (fun _=>by kernel_rfl) (z) (key:=999) z (by rw[aC]; rfl) fun p1 au S aU=>sg z z<|nx<|n'<|sr<|sg z z<|nx<|ak' (fun (⟨L,Q,R,Z⟩:(List Ze)×Option Addr×Nat×Mem)=>[(9,.slice Q L.length R)]) (fun ⟨L,Q,R,Z⟩=>Mem.le au Z/\sl I' Z Q R L/\(Zfo L).Ret r) (fun ⟨L,Q,R,Z⟩=>St w0 G0 Z []) ?_ ?_
 .refine C' ?_
  let Y:(List Ze)->Prop:=fun oo=>((fun ov=>match ov with|L=>Zfo L:(List Ze)->Cq (List Ze)) oo).wp (fun a=>a=r)
  replace hr:(Cq.loop _ _).wp Y:=hr
  refine al' (Φ:=Y) (fun (⟨k,m,l,j,H⟩:(List Ze)×Option Addr×Nat×Int×Mem)=>((k,j):(List Ze)×Int)) (fun ⟨k,m,l,j,H⟩=>[(1,i' O),(2,i' I),(3,i' V),(4,.pointer (some ⟨b1,0,none⟩)),(9,.slice m k.length l),(10,i' j)]) (fun ⟨k,m,l,j,H⟩=>Mem.le au H/\sl I' H m l k) (fun ⟨k,m,l,j,H⟩=>St w0 G0 H [(4,some ⟨b1,.cells ([.slice A y.t.length B]).toArray 52 (0,0),0⟩)]) ⟨[],p1,0,0,au⟩ hr (f6 z z z z z z) ⟨mr,aU⟩ (w1 z) ?_
  .intro ar gx hx hr
   obtain⟨k,m,l,j,H⟩:=gx
   obtain⟨t,ab⟩:=hx
   refine aM' (fun (gx:Mem)=>match gx with|U=>[(1,i' O),(2,i' I),(3,i' V),(4,.pointer (some ⟨b1,0,none⟩)),(9,.slice m k.length l),(10,i' j)]) (fun (gx:Mem)=>match gx with|U=>Mem.le H U/\(Zh2 y O I k j).wp (Out ar Y)) (fun (gx:Mem)=>match gx with|U=>St w0 G0 U [(4,some ⟨b1,.cells ([.slice A y.t.length B]).toArray 52 (0,0),0⟩)]) ?_ ?_
   .refine sr<|mv z z<|yy (Y0.Zlb z) z<|yy (f' 4 sc50 z z z) z<|yy (M' eC' (K.mono (mt S t)) z) z<|aa' hr z (ag' z z) z (fun a2 hr=>?_) (fun a2 hr=>?_)
    .refine mv z z<|gy z z (e' z) z<|gy z z (e' z) z<|gy z z (ag' z z) z<|yy (h' z z) z<|nx<|L' hr z (fun a0 hr=>?_) (fun a0 hr=>?_)
     .refine q'<|ap' H ⟨mr,hr⟩ (f6 z z z z z z) (w1 z)
     refine am'<|r'<|r'<|O'<|ao' ⟨k,m,l,H⟩ ⟨t,ab,hr⟩ (f1 z) (wk ln)
    refine mv z z<|sn3 z<|yy (l' z z) z<|nx<|bb' z<|am'<|r'<|r'<|O'<|ao' ⟨k,m,l,H⟩ ⟨t,ab,hr⟩ (f1 z) (wk ln)
   rintro U ⟨M,hr⟩
   refine n'<|C'<|sr<|yy (aw' (vs:=#[]) (v:=.agg (vecG (Value.int .i64) 8 (fun _=>0)).toArray) z z (fun _=>by kernel_rfl)) z<|T' 11 z z120 z fun b2=>s' 11 z sz120 z z z (Z' _ _ _) (Z' _ _ _) (fun u hu=>Rp.one (dv' .i64 8) (G:=U) (x:=(fun _=>0)) (cs:=vecG (Value.int .i64) 8 (fun _=>0)) z u (by first|simpa using hu|simpa [Value.cells] using hu))<|nr<|mv z z<|sg z z<|nx<|n'<|sr<|sg z z<|nx<|ak' (fun (⟨s,ah⟩:(Fin 8->Int)×Mem)=>[(1,i' O),(2,i' I),(3,i' V),(4,.pointer (some ⟨b1,0,none⟩)),(9,.slice m k.length l),(10,i' j),(11,.pointer (some ⟨b2,0,none⟩))]) (fun ⟨s,ah⟩=>Mem.le U ah/\(Zfp y k j s).wp (Out ar Y)) (fun ⟨s,ah⟩=>St w0 G0 ah [(4,some ⟨b1,.cells ([.slice A y.t.length B]).toArray 52 (0,0),0⟩),(11,some ⟨b2,.cells (vecG (Value.int .i64) 8 s).toArray 120 (0,0),0⟩)]) ?_ ?_
   .refine C' ?_
    let av:(Fin 8->Int)->Prop:=fun oo=>((fun ov=>match ov with|s=>Zfp y k j s:(Fin 8->Int)->Cq (((List Ze)×Int)⊕(List Ze))) oo).wp (Out ar Y)
    replace hr:(Cq.loop _ _).wp av:=hr
    refine al' (Φ:=av) (fun (⟨p,n,J,P⟩:Int×Int×(Fin 8->Int)×Mem)=>((p,n,J):Int×Int×(Fin 8->Int))) (fun ⟨p,n,J,P⟩=>[(1,i' O),(2,i' I),(3,i' V),(4,.pointer (some ⟨b1,0,none⟩)),(9,.slice m k.length l),(10,i' j),(11,.pointer (some ⟨b2,0,none⟩)),(12,i' p),(13,i' n)]) (fun ⟨p,n,J,P⟩=>Mem.le U P) (fun ⟨p,n,J,P⟩=>St w0 G0 P [(4,some ⟨b1,.cells ([.slice A y.t.length B]).toArray 52 (0,0),0⟩),(11,some ⟨b2,.cells (vecG (Value.int .i64) 8 J).toArray 120 (0,0),0⟩)]) ⟨I,0,(fun _=>0),U⟩ hr (f9 z z z z z z z z z) mr (w2 z z) ?_
    .intro be gx hx hr
     obtain⟨p,n,J,P⟩:=gx
     have T:=hx
     refine n'<|sr<|mv z z<|mv z z<|aa' hr z (ag' z z) z (fun aT hr=>?_) (fun aT hr=>?_)
     .refine mv z z<|gy z z (e' z) z<|gy z z (ag' z z) z<|yy (h' z z) z<|nx<|L' hr z (fun a1 hr=>?_) (fun a1 hr=>?_)
      .refine q'<|g'<|n'<|C'<|sr<|mv z z<|yy (Y0.Zlb z) z<|yy (f' 4 sc50 z z z) z<|mv z z<|mv z z<|yy (W' z z) z ?_
       obtain⟨x2,aA,hr⟩:=hr
       refine yy (Q' eC' sz123 (K.mono (mt (mt (mt S t) M) T)) z z aA) z ?_
       obtain⟨aB,hr⟩:=hr
       refine yy (Y0.idxA underlying123 sz122 z z aB) z<|yy (Y' sc122 z (AtK.vecAt (H' (ab' K aA) (mt (mt (mt S t) M) T)) aB)) z ?_
       obtain⟨aq,aO,hr⟩:=hr
       refine D' z z (t' E61 z) (gY' aO) z (trivial)<|mv z z<|yy (W' z z) z ?_
       obtain⟨aV,hr⟩:=hr
       refine yy (bE' z z aV) z ?_
       obtain⟨aS,hr⟩:=hr
       refine yy (bg' aN' sz3 z z aS) z<|aG' 11 (vecG (Value.int .i64) 8 (setF J n.toNat (Int.tmod aq (i64.wrap (p+1))))).toArray z sz3 z z z (by first|(rw[Z']; omega)|(show _<(vecG _ _ _).toArray.size; rw[Z']; omega)) z (cf' _ _ _ _ _)<|nx<|A'<|mv z z<|mv z z ?_
       obtain⟨aE,hr⟩:=hr
       refine yy (bg' aN' sz3 z z aE) z<|yy (f' 11 sc3 z z (bj' _ _ _ aE)) z<|yy (bi' z z) z<|sg z z<|u'<|J'<|g'<|A'<|mv z z<|yy (W' z z) z<|sg z z<|u'<|X' ⟨i64.wrap (p-(getF (setF J n.toNat (Int.tmod aq (i64.wrap (p+1)))) n)),i64.wrap (n+1),setF J n.toNat (Int.tmod aq (i64.wrap (p+1))),P⟩ hr T (f9 z z z z z z z z z) (w2 z z)
      refine am'<|r'<|r'<|O'<|ao' ⟨J,P⟩ ⟨T,hr⟩ (f7 z z z z z z z) (w2 z z)
     refine mv z z<|sn2 z<|yy (l' z z) z<|nx<|bb' z<|am'<|r'<|r'<|O'<|ao' ⟨J,P⟩ ⟨T,hr⟩ (f7 z z z z z z z) (w2 z z)
   rintro⟨s,ah⟩ ⟨W,hr⟩
   refine g'<|ah' [tt,ff,ff,ff,ff,ff,ff,ff,ff,ff,ff,ff] mix (by kernel_rfl) fun hb=>co' z (e' z)<|cn (fun _ o=>Y0.Zlb z)<|cn (fun _ o=>f' 4 sc50 z z z)<|cn (fun _ o=>e' z) ?_
   obtain⟨x1,az,hr⟩:=hr
   have N1:=mt (mt (mt S t) M) W
   refine cn (fun _ o=>Q' eC' sz123 ((K.mono N1).mono o) z z az)<|cn (fun _ o=>Y0.idxA underlying123 sz122 z z (by decide))<|cn (fun _ o=>Y' sc122 z (AtK.vecAt (H' (H' (ab' K az) N1) o) (by decide)))<|cn (fun _ o=>bE' z z (by decide))<|cn (fun _ o=>aO' ex' underlying2 z) ?_
   obtain⟨aD,aK,hr⟩:=hr
   refine aW' (post:=w130' aD) (fun _=>z) (fun _ _=>t' E64 z) (fG' aK) z (fun G' o=>trivial) (fun v G1 G2 o h=>?_) ?_
   .obtain⟨af,aa,ac,ad,rfl,F,D⟩:=h
    exact⟨_,_,_,_,z,F.mono o,D.mono o⟩
   obtain⟨q,aF,hr⟩:=hr
   refine aW' (post:=w130' q) (fun _=>z) (fun _ _=>t' E64 z) (fG' aF) z (fun G' o=>trivial) (fun v G1 G2 o h=>?_) ?_
   .obtain⟨g,f,i,c,rfl,E,C⟩:=h
    exact⟨_,_,_,_,z,E.mono o,C.mono o⟩
   refine cu (fun _ _ o=>o' 11 bP' z z (Z' _ _ _))<|dt' (d:=67) (post:=w130' q) (d':=66) (post':=w130' aD) (fun bd bb bf aj al am=>?_)
   obtain⟨g,f,i,c,rfl,E,C⟩:=al
   obtain⟨af,aa,ac,ad,rfl,F,D⟩:=am
   refine yy (aw' (vs:=#[(0,.agg ((v130' q g f i c)).toArray),(1,.agg (vecG (Value.int .i64) 8 s).toArray)]) (v:=.agg (((v130' q g f i c):List Value)++(vecG (Value.int .i64) 8 s)).toArray) z z (fun _=>by kernel_rfl)) z<|bd' (e:=133) (r:=I') (vs:=#[(0,.agg (((v130' q g f i c):List Value)++(vecG (Value.int .i64) 8 s)).toArray)]) (cs:=(((v130' q g f i c):List Value)++(vecG (Value.int .i64) 8 s))++([])) ([(Ze.mk q s)]:List Ze) z z z z z (by decide) (fun _=>by kernel_rfl) ⟨((v130' q g f i c):List Value)++(vecG (Value.int .i64) 8 s),[],z,⟨(v130' q g f i c),vecG (Value.int .i64) 8 s,z,⟨(v128' q.num g f),(v128' q.den i c),z,⟨[.bool q.num.neg],[.slice g q.num.mag.length f],z,z,⟨_,z,E⟩⟩,⟨[.bool q.den.neg],[.slice i q.den.mag.length c],z,z,⟨_,z,C⟩⟩⟩,z⟩,z⟩ (key:=999) z (by rw[aC]; rfl) (fun p2 bh X aW=>?_)
   obtain⟨bi,aR,hr⟩:=hr
   refine P' z z (t' E63 z) (gN' aR) z (⟨(F.mono X),(D.mono X),aW⟩) (fun a4 bg ai an=>?_)
   obtain⟨a9,a6,rfl,aL⟩:=an
   obtain⟨aZ,aM,hr⟩:=hr
   refine P' z z (t' E62 z) (go' aM) z (⟨(ab.mono (mt (mt (mt (mt M W) aj) X) ai)),aL⟩) (fun ba aY ay ak=>?_)
   obtain⟨aJ,aQ,rfl,aG⟩:=ak
   have N2:=mt (mt (mt (mt (mt (mt t M) W) aj) X) ai) ay
   refine sg z z<|u'<|aq'<|J'<|g'<|A'<|mv z z<|yy (W' z z) z<|sg z z<|u'<|X' ⟨aZ,aJ,aQ,i64.wrap (j+1),aY⟩ hr ⟨N2,aG⟩ (f6 z z z z z z) (w1 z)
 rintro⟨L,Q,R,Z⟩ ⟨a3,aw,hr⟩
 refine g'<|sr<|mv z z<|sg z z<|nx<|j' ?_
 obtain rfl:_=r:=hr
 exact k' z z ⟨_,_,z,aw⟩
theorem eX'{e d t y A C x s m l r}(hr:(Zex e d).Ret r):Ctr prog 19 #[.agg ((v31' e t y A C x s)).toArray,.agg ((v54' d m l)).toArray] (fun G=>sl Rp.str G t y e.vars/\sl b' G A C e.eqs/\sl b' G x s e.neqs/\sl (dv' .i8 5) G m l d.p.t) (w48' r):=by
 refine E' (args:=[_,_]) (N:=77) func19 z z z (fun w0 G0 aI ai=>?_)
 obtain⟨J,an,ad,P⟩:=ai
 refine sr<|ad' 2 z z z fun b1=>ad' 3 z z z fun Y=>T' 4 z z48 z fun b3=>nr<|yy (aF' z) z<|yy (f' 2 bA' z z z) z<|yy (M' F' J z) z<|sg z z<|nx<|n'<|ah' [ff,ff,ff,ff,ff,ff,ff,ff,ff,ff,ff,ff,ff,ff,ff,ff,ff,ff,ff,ff,ff,ff,ff,ff,ff,ff,ff,ff,ff,ff,ff,ff,ff,ff,ff,ff] mix (by kernel_rfl) fun hb=>cn (fun _ f=>Y0.ZnN z)<|cn (fun _ f=>f' 3 sc5 z z z)<|cn (fun _ f=>bE' z z (by decide))<|cn (fun _ f=>aO' aS' aE' z)<|cn (fun _ f=>W' z z)<|cn (fun _ f=>Y0.Zlc z)<|cn (fun _ f=>f' 3 sc5 z z z)<|cn (fun _ f=>aO' aS' aE' z)<|cn (fun _ f=>e' z)<|cn (fun _ f=>W' z z) ?_
 obtain⟨av,hr⟩:=hr
 refine cn (fun _ f=>bE' z z av)<|cn (fun _ f=>Y0.ZnO z)<|cn (fun _ f=>f' 3 sc5 z z z)<|cn (fun _ f=>aO' aS' aE' z)<|cn (fun _ f=>e' z)<|cn (fun _ f=>W' z z) ?_
 obtain⟨au,hr⟩:=hr
 refine cn (fun _ f=>bE' z z au)<|cn (fun _ f=>Y0.Zld z)<|cn (fun _ f=>f' 3 sc5 z z z)<|cn (fun _ f=>aO' aS' aE' z)<|cn (fun _ f=>bw' z)<|cn (fun _ f=>f' 2 sc3 z z z)<|cn (fun _ f=>W' z z) ?_
 obtain⟨aw,hr⟩:=hr
 refine cn (fun _ f=>bE' z z aw)<|cn (fun _ f=>Y0.ZnO z)<|cn (fun _ f=>f' 3 sc5 z z z)<|cn (fun _ f=>bE' z z (by decide))<|cn (fun _ f=>at' z z) ?_
 obtain⟨O,aj,hr⟩:=hr
 refine aW' (post:=wl' Rp.str O) (fun _=>z) (fun _ _=>t' E45 z) (gJ' aj) z (fun X f=>trivial) (fun v G1 G2 f h=>?_) ?_
 .obtain⟨K,L,rfl,B⟩:=h
  exact⟨_,_,z,B.mono f⟩
 refine cu (fun _ _ f=>Y0.Zld z)<|cu (fun _ _ f=>f' 3 sc5 z z z)<|cu (fun _ _ f=>bE' z z (by decide)) ?_
 obtain⟨I,ae,hr⟩:=hr
 refine bm' (φ:=fun G v=>∃ D F,v = .pointer (some ⟨pb D,po D+(Int.tmod d.n 6).toNat*1,none⟩)/\sl Rp.str G D F O) (fun _=>z) (fun v G1 G2 f h=>?_) (fun u X f hu=>?_) ?_
 .obtain⟨D,F,rfl,M⟩:=h
  exact⟨_,_,z,M.mono f⟩
 .obtain⟨⟨K,L,ac,B⟩,_⟩:=(show (wl' Rp.str O) X.m (u 38)/\True from hu)
  simp only[undFr,ac]
  exact⟨_,Q' F' sz9 B z z ae,K,L,z,B⟩
 refine Chain.y0UD (c:=.string I) (fun _=>z) (fun u X f hu=>?_) ?_
 .obtain⟨⟨D,F,aa,M⟩,_,_⟩:=(show (fun G v=>∃ D F,v = .pointer (some ⟨pb D,po D+(Int.tmod d.n 6).toNat*1,none⟩)/\sl Rp.str G D F O) X.m (u 42)/\True/\True from hu)
  simp only[undFr,aa]
  exact Y' sc9 z (bZ' (ab' M ae))
 refine cu (fun _ _ f=>aw' (vs:=#[(0,i' (i64.wrap (1+(i64.wrap (Int.tmod d.kind 16))))),(2,i' (Int.tmod (i64.wrap d.a) (i64.wrap ((e.vars.length:Int)+1)))),(3,i' (Int.tmod (i64.wrap d.b) (i64.wrap ((e.vars.length:Int)+1)))),(4,i' (Int.tmod (i64.wrap d.n) (i64.wrap (e.next+1)))),(6,.bool (decide ((Int.tmod d.b 4)=3))),(1,.string I)]) (v:=.agg ([i' (i64.wrap (1+(i64.wrap (Int.tmod d.kind 16)))),.string I,i' (Int.tmod (i64.wrap d.a) (i64.wrap ((e.vars.length:Int)+1))),i' (Int.tmod (i64.wrap d.b) (i64.wrap ((e.vars.length:Int)+1))),i' (Int.tmod (i64.wrap d.n) (i64.wrap (e.next+1))),.slice none 0 0,.bool (decide ((Int.tmod d.b 4)=3))]).toArray) z z (fun _=>by kernel_rfl))<|bD' (fun _=>z) z48<|Chain.tailX3 (fun aJ aH aF T al U Q R=>?_)
 obtain⟨Z,rfl,ag⟩:=U
 obtain⟨D,F,rfl,M⟩:=Q
 obtain⟨K,L,rfl,B⟩:=R
 refine cq' ag (cj' (show WL _ _ _ _ _ _ (St w0 G0 T.m _) from ?_))
 refine s' 6 z cc' z z z z z (List.all_eq_true.1 z)<|u'<|aq'<|g'<|aM' (fun (⟨g,k,j,o⟩:Zc×Option Addr×Nat×Mem)=>[(3,.pointer (some ⟨Y,0,none⟩)),(4,.pointer (some ⟨b3,0,none⟩)),(5,i' (e.vars.length:Int)),(6,.pointer (some ⟨Z,0,none⟩))]) (fun ⟨g,k,j,o⟩=>Mem.le T.m o/\sl I' o k j g.p/\(ZaZ e d g).Ret r) (fun ⟨g,k,j,o⟩=>St w0 G0 o [(3,some ⟨Y,.cells ((v54' d m l)).toArray 54 (0,0),0⟩),(4,some ⟨b3,.cells ([i' 0,.string ByteArray.empty,i' 0,i' 0,i' 0,.slice none 0 0,.bool false]).toArray 48 (0,0),0⟩),(6,some ⟨Z,.cells ((v48' g k j)).toArray 48 (0,0),0⟩)]) ?_ ?_
 .refine sr<|yy (Y0.ZnN z) z<|yy (f' 3 sc5 z z z) z<|yy (bE' z z (by decide)) z<|yy (be' z z) z<|nx<|L' hr z (fun az hr=>?_) (fun az hr=>?_)
  .refine sr<|yy (Y0.Zlc z) z<|yy (f' 3 sc5 z z z) z<|yy (bE' z z (by decide)) z<|yy (aO' aS' aE' z) z<|yy (W' z z) z<|yy (cv' z) z<|aG' 6 ([i' (i64.wrap (5+(i64.wrap (Int.tmod d.a 4)))),.string I,i' (Int.tmod (i64.wrap d.a) (i64.wrap ((e.vars.length:Int)+1))),i' (Int.tmod (i64.wrap d.b) (i64.wrap ((e.vars.length:Int)+1))),i' (Int.tmod (i64.wrap d.n) (i64.wrap (e.next+1))),.slice none 0 0,.bool (decide ((Int.tmod d.b 4)=3))]).toArray z sz3 z z z (show 0<7 by decide) z z<|nr<|yy (Y0.Zlc z) z<|yy (f' 3 sc5 z z z) z<|yy (bE' z z (by decide)) z<|yy (ag' z z) z<|nx<|L' hr z (fun ax hr=>?_) (fun ax hr=>?_)
   .refine A'<|yy (cv' z) z<|aG' 6 ([i' 5,.string I,i' (Int.tmod (i64.wrap d.a) (i64.wrap ((e.vars.length:Int)+1))),i' (Int.tmod (i64.wrap d.b) (i64.wrap ((e.vars.length:Int)+1))),i' (Int.tmod (i64.wrap d.n) (i64.wrap (e.next+1))),.slice none 0 0,.bool (decide ((Int.tmod d.b 4)=3))]).toArray z sz3 z z z (show 0<7 by decide) z z<|u'<|ap' ⟨(Zc.mk 5 I (Int.tmod (i64.wrap d.a) (i64.wrap ((e.vars.length:Int)+1))) (Int.tmod (i64.wrap d.b) (i64.wrap ((e.vars.length:Int)+1))) (Int.tmod (i64.wrap d.n) (i64.wrap (e.next+1))) [] (decide ((Int.tmod d.b 4)=3))),none,0,T.m⟩ ⟨mr,(V' _ _),hr⟩ (f4 z z z z) (w3 z z z)
   refine q'<|ap' ⟨(Zc.mk (i64.wrap (5+(i64.wrap (Int.tmod d.a 4)))) I (Int.tmod (i64.wrap d.a) (i64.wrap ((e.vars.length:Int)+1))) (Int.tmod (i64.wrap d.b) (i64.wrap ((e.vars.length:Int)+1))) (Int.tmod (i64.wrap d.n) (i64.wrap (e.next+1))) [] (decide ((Int.tmod d.b 4)=3))),none,0,T.m⟩ ⟨mr,(V' _ _),hr⟩ (f4 z z z z) (w3 z z z)
  refine q'<|ap' ⟨(Zc.mk (i64.wrap (1+(i64.wrap (Int.tmod d.kind 16)))) I (Int.tmod (i64.wrap d.a) (i64.wrap ((e.vars.length:Int)+1))) (Int.tmod (i64.wrap d.b) (i64.wrap ((e.vars.length:Int)+1))) (Int.tmod (i64.wrap d.n) (i64.wrap (e.next+1))) [] (decide ((Int.tmod d.b 4)=3))),none,0,T.m⟩ ⟨mr,(V' _ _),hr⟩ (f4 z z z z) (w3 z z z)
 rintro⟨g,k,j,o⟩ ⟨V,H,hr⟩
 refine aM' (fun (⟨n,q,p,E⟩:Zc×Option Addr×Nat×Mem)=>[(3,.pointer (some ⟨Y,0,none⟩)),(4,.pointer (some ⟨b3,0,none⟩)),(5,i' (e.vars.length:Int)),(6,.pointer (some ⟨Z,0,none⟩))]) (fun ⟨n,q,p,E⟩=>Mem.le o E/\sl I' E q p n.p/\(Zb3 e d n).Ret r) (fun ⟨n,q,p,E⟩=>St w0 G0 E [(3,some ⟨Y,.cells ((v54' d m l)).toArray 54 (0,0),0⟩),(4,some ⟨b3,.cells ([i' 0,.string ByteArray.empty,i' 0,i' 0,i' 0,.slice none 0 0,.bool false]).toArray 48 (0,0),0⟩),(6,some ⟨Z,.cells ((v48' n q p)).toArray 48 (0,0),0⟩)]) ?_ ?_
 .refine sr<|yy (cv' z) z<|yy (f' 6 sc3 z z z) z<|aa' hr z (at' z z) z (fun ar hr=>?_) (fun ar hr=>?_)
  .refine mv z z<|gy z z (Y0.Zld z) z<|gy z z (f' 3 sc5 z z z) z<|gy z z (bE' z z (by decide)) z<|gy z z (bh' z z) z<|yy (h' z z) z<|nx<|L' hr z (fun aA hr=>?_) (fun aA hr=>?_)
   .refine A'<|yy (aQ' z) z<|aG' 6 ([i' g.kind,.string g.name,i' g.at',i' g.to',i' 0,.slice k g.p.length j,.bool g.neq]).toArray z sz3 z z z (show 4<7 by decide) z z<|u'<|ap' ⟨(Zc.mk g.kind g.name g.at' g.to' 0 g.p g.neq),k,j,o⟩ ⟨mr,H,hr⟩ (f4 z z z z) (w3 z z z)
   refine q'<|ap' ⟨g,k,j,o⟩ ⟨mr,H,hr⟩ (f4 z z z z) (w3 z z z)
  refine mv z z<|sn4 z<|yy (l' z z) z<|nx<|bb' z<|q'<|ap' ⟨g,k,j,o⟩ ⟨mr,H,hr⟩ (f4 z z z z) (w3 z z z)
 rintro⟨n,q,p,E⟩ ⟨W,aC,hr⟩
 refine sr<|yy (Y0.Zp0 z) z<|yy (aH' ([.slice m d.p.t.length l]).toArray 3 ag52 z z z (aT' ([.int .u8 d.kind,.int .u8 d.a,.int .u8 d.b,.int .u8 d.n]) ([.slice m d.p.t.length l]) ([]))) z<|mv z z<|yy (Y0.min2 z z) z ?_
 obtain⟨ay,aq,hr⟩:=hr
 refine P' z z (t' E46 z) (gS' aq) z ((P.mono (mt (mt al V) W))) (fun aD aK aB S=>?_)
 obtain⟨ao,am,rfl,ak⟩:=S
 refine yy (dl' z) z<|aG' 6 ([i' n.kind,.string n.name,i' n.at',i' n.to',i' n.id,.slice ao ay.length am,.bool n.neq]).toArray z sz46 z z z (show 5<7 by decide) z z<|nr<|yy (o' 6 bL' z z z) z<|s' 4 z cc' z z z z z (List.all_eq_true.1 z)<|nx<|j' ?_
 obtain rfl:_=r:=hr
 exact k' z (ac' (i:=4) bL' z z z) ⟨_,_,z,ak⟩
theorem ft'{g r}(hr:(ZcK g).Ret r):Ctr prog 70 #[.int .u8 g] (fun G=>True) (fun G v=>v = .bool r):=by
 refine E' (args:=[_]) (N:=17) func70 z z z fun j k i h=>sr<|sg z z<|nr<|mv z z<|aa' hr z (be' z z) z (fun c hr=>?_) (fun c hr=>?_)
 .refine mv z z<|gy z z (e' z) z<|aa' hr (v' z z) (bK' z z) z (fun e hr=>?_) (fun e hr=>?_)
  .refine yy (h' z z) z<|mv z z<|sn3 z<|N' (x' z z) z<|N' (x' z z) z<|sf z z z<|yy (h' z z) z<|sg z z<|nx<|j' ?_
   obtain rfl:_=r:=hr
   exact k' z z z
  refine yy (h' z z) z<|mv z z<|gy z z (e' z) z<|aa' hr (v' z z) (be' z z) z (fun f hr=>?_) (fun f hr=>?_)
  .refine gy z z (e' z) z<|gy z z (e' z) z<|gy z z (bK' z z) z<|gy z z (h' z z) z<|yy (l' z z) z<|sg z z<|nx<|j' ?_
   obtain rfl:_=r:=hr
   exact k' z z z
  refine gy z z (e' z) z<|sn2 z<|gy z z (l' z z) z<|yy (l' z z) z<|sg z z<|nx<|j' ?_
  obtain rfl:_=r:=hr
  exact k' z z z
 refine mv z z<|sn2 z<|yy (l' z z) z<|mv z z<|gy z z (e' z) z<|aa' hr (v' z z) (be' z z) z (fun d hr=>?_) (fun d hr=>?_)
 .refine gy z z (e' z) z<|gy z z (e' z) z<|gy z z (bK' z z) z<|gy z z (h' z z) z<|yy (l' z z) z<|sg z z<|nx<|j' ?_
  obtain rfl:_=r:=hr
  exact k' z z z
 refine gy z z (e' z) z<|sn2 z<|gy z z (l' z z) z<|yy (l' z z) z<|sg z z<|nx<|j' ?_
 obtain rfl:_=r:=hr
 exact k' z z z
theorem eY'{g r}(hr:(Zdd g).Ret r):Ctr prog 54 #[.string g] (fun G=>True) (fun G v=>v = .bool r):=by
 refine E' (args:=[_]) (N:=48) func54 z z z fun l j S L=>sr<|sg z z<|nx<|aM' (fun (e:Mem)=>match e with|f=>[(0,.string g)]) (fun (e:Mem)=>match e with|f=>Mem.le j f/\(Zh3 g).Ret r) (fun (e:Mem)=>match e with|f=>St l j f []) ?_ ?_
 .refine sr<|mv z z<|yy (Y0.lenS bl' z) z<|aa' hr z (ag' z z) z (fun I hr=>?_) (fun I hr=>?_)
  .refine mv z z<|sn3 z<|yy (h' z z) z<|mv z z<|sn4 z<|yy (h' z z) z<|nx<|R' z<|sr<|sg z z<|nx<|j'<|a' ?_
   obtain rfl:_=r:=hr
   exact k' z z z
  refine mv z z<|gy z z (e' z) z<|gy z z (Y0.lenS bl' z) z<|aa' hr (v' z z) (bh' z z) z (fun q hr=>?_) (fun q hr=>?_)
  .refine yy (l' z z) z<|mv z z<|sn4 z<|yy (h' z z) z<|nx<|R' z<|sr<|sg z z<|nx<|j'<|a' ?_
   obtain rfl:_=r:=hr
   exact k' z z z
  refine yy (l' z z) z<|mv z z<|gy z z (e' z) z ?_
  obtain⟨A,hr⟩:=hr
  refine gy z z (dM' (s:=g) bl' z z A) z ?_
  obtain⟨R,m,hr⟩:=hr
  refine D' (v' z z) z (t' E70 z) (ft' m) z (trivial)<|gy z z (aj' z) z<|yy (l' z z) z<|nx<|aL' hr z (fun x hr=>?_) (fun x hr=>?_)
  .refine sr<|sg z z<|nx<|j'<|a' ?_
   obtain rfl:_=r:=hr
   exact k' z z z
  refine q'<|ap' j ⟨mr,hr⟩ (f1 z) (wk ln)
 rintro f ⟨J,hr⟩
 refine n'<|sr<|sg z z<|nx<|ak' (fun (e:Mem)=>match e with|i=>[]) (fun (e:Mem)=>match e with|i=>Mem.le f i/\(Zft).Ret r) (fun (e:Mem)=>match e with|i=>St l j i []) ?_ ?_
 .refine C' ?_
  let k:(Bool⊕Unit)->Prop:=fun M=>((fun O=>match O with | .inl rv1=>Cq.ret rv1 | .inr ()=>Zft:(Bool⊕Unit)->Cq Bool) M).wp (fun a=>a=r)
  replace hr:(Cq.loop _ _).wp k:=hr
  refine al' (Φ:=k) (fun (⟨h,c⟩:Int×Mem)=>(h:Int)) (fun ⟨h,c⟩=>[(0,.string g),(3,i' h)]) (fun ⟨h,c⟩=>Mem.le f c) (fun ⟨h,c⟩=>St l j c []) ⟨1,f⟩ hr (f2 z z) mr (wk ln) ?_
  .intro Q e P hr
   obtain⟨h,c⟩:=e
   have d:=P
   refine n'<|sr<|mv z z<|mv z z<|yy (Y0.lenS bl' z) z<|yy (ag' z z) z<|nx<|L' hr z (fun E hr=>?_) (fun E hr=>?_)
   .refine q'<|g'<|n'<|C'<|sr<|mv z z<|mv z z ?_
    obtain⟨F,hr⟩:=hr
    refine yy (dM' (s:=g) bl' z z F) z ?_
    obtain⟨t,n,hr⟩:=hr
    refine D' z z (t' E70 z) (ft' n) z (trivial) ?_
    cases t
    .refine yy (aj' z) z<|mv z z<|gy z z (e' z) z<|gy z z (e' z) z ?_
     obtain⟨C,hr⟩:=hr
     refine gy z z (dM' (s:=g) bl' z z C) z<|aa' hr (v' z z) (be' z z) z (fun u hr=>?_) (fun u hr=>?_)
     .refine gy z z (e' z) z<|gy z z (e' z) z<|gy z z (e' z) z ?_
      obtain⟨o,hr⟩:=hr
      refine gy z z (dM' (s:=g) bl' z z o) z<|aa' hr (v' z z) (bK' z z) z (fun y hr=>?_) (fun y hr=>?_)
      .refine gy z z (h' z z) z<|gy z z (aj' z) z<|yy (h' z z) z<|mv z z<|sn4 z<|yy (l' z z) z<|nx<|bb' z<|q'<|J'<|g'<|A'<|mv z z<|yy (W' z z) z<|sg z z<|u'<|X' ⟨i64.wrap (h+1),c⟩ hr d (f2 z z) (wk ln)
      refine gy z z (h' z z) z<|gy z z (aj' z) z<|yy (h' z z) z<|mv z z<|gy z z (e' z) z<|gy z z (e' z) z ?_
      obtain⟨H,hr⟩:=hr
      refine gy z z (dM' (s:=g) bl' z z H) z<|gy z z (av' z z) z<|yy (h' z z) z<|nx<|L' hr z (fun B hr=>?_) (fun B hr=>?_)
      .refine sr<|sg z z<|nx<|j'<|m'<|a'<|a'<|m'<|ae'<|a' ?_
       obtain rfl:_=r:=hr
       exact k' z z z
      refine q'<|J'<|g'<|A'<|mv z z<|yy (W' z z) z<|sg z z<|u'<|X' ⟨i64.wrap (h+1),c⟩ hr d (f2 z z) (wk ln)
     refine gy z z (e' z) z<|sn4 z<|gy z z (l' z z) z<|gy z z (aj' z) z<|yy (h' z z) z<|mv z z<|gy z z (e' z) z<|gy z z (e' z) z ?_
     obtain⟨p,hr⟩:=hr
     refine gy z z (dM' (s:=g) bl' z z p) z<|gy z z (av' z z) z<|yy (h' z z) z<|nx<|L' hr z (fun D hr=>?_) (fun D hr=>?_)
     .refine sr<|sg z z<|nx<|j'<|m'<|a'<|a'<|m'<|ae'<|a' ?_
      obtain rfl:_=r:=hr
      exact k' z z z
     refine q'<|J'<|g'<|A'<|mv z z<|yy (W' z z) z<|sg z z<|u'<|X' ⟨i64.wrap (h+1),c⟩ hr d (f2 z z) (wk ln)
    refine yy (aj' z) z<|mv z z<|sn5 z<|N' (x' z z) z<|N' (x' z z) z<|N' (x' z z) z<|N' (x' z z) z<|sn2 z<|yy (l' z z) z<|mv z z<|sn4 z<|yy (l' z z) z<|nx<|bb' z<|q'<|J'<|g'<|A'<|mv z z<|yy (W' z z) z<|sg z z<|u'<|X' ⟨i64.wrap (h+1),c⟩ hr d (f2 z z) (wk ln)
   refine am'<|r'<|r'<|O'<|ao' c ⟨d,hr⟩ fn (wk ln)
 rintro i ⟨K,hr⟩
 refine g'<|sr<|sg z z<|nx<|j' ?_
 obtain rfl:_=r:=hr
 exact k' z z z
theorem fK'{p l e f k j d h r}(hr:(Ze3 p l).Ret r):Ctr prog 97 #[.agg ((v31' p e f k j d h)).toArray,.string l] (fun G=>sl Rp.str G e f p.vars/\sl b' G k j p.eqs/\sl b' G d h p.neqs) (fun G v=>v=i' r):=by
 refine E' (args:=[_,_]) (N:=21) func97 z z z (fun y q K u=>?_)
 obtain⟨g,B,x⟩:=u
 refine sr<|ad' 2 z z z fun A=>sg z z<|nx<|n'<|sr<|sg z z<|nx<|ak' (fun (n:Mem)=>match n with|m=>[]) (fun (n:Mem)=>match n with|m=>Mem.le q m/\(Zez).Ret r) (fun (n:Mem)=>match n with|m=>St y q m []) ?_ ?_
 .refine C' ?_
  let s:(Int⊕Unit)->Prop:=fun F=>((fun H=>match H with | .inl rv1=>Cq.ret rv1 | .inr ()=>Zez:(Int⊕Unit)->Cq Int) F).wp (fun a=>a=r)
  replace hr:(Cq.loop _ _).wp s:=hr
  refine al' (Φ:=s) (fun (⟨o,i⟩:Int×Mem)=>(o:Int)) (fun ⟨o,i⟩=>[(1,.string l),(2,.pointer (some ⟨A,0,none⟩)),(5,i' o)]) (fun ⟨o,i⟩=>Mem.le q i) (fun ⟨o,i⟩=>St y q i [(2,some ⟨A,.cells ((v31' p e f k j d h)).toArray 31 (0,0),0⟩)]) ⟨0,q⟩ hr (f3 z z z) mr (w1 z) ?_
  .intro J n I hr
   obtain⟨o,i⟩:=n
   have c:=I
   refine n'<|sr<|mv z z<|yy (aF' z) z<|yy (f' 2 bA' z z z) z<|yy (M' F' (g.mono c) z) z<|yy (ag' z z) z<|nx<|L' hr z (fun D hr=>?_) (fun D hr=>?_)
   .refine q'<|g'<|n'<|C'<|sr<|yy (aF' z) z<|yy (f' 2 bA' z z z) z<|mv z z ?_
    obtain⟨L,t,hr⟩:=hr
    refine yy (Q' F' sz9 (g.mono c) z z t) z<|yy (Y' sc9 z (bZ' (H' (ab' g t) c))) z<|mv z z<|yy (Y0.eqlS bl' z z) z<|nx<|L' hr z (fun C hr=>?_) (fun C hr=>?_)
    .refine sr<|mv z z<|sg z z<|nx<|j'<|m'<|a'<|a'<|m'<|ae'<|a' ?_
     obtain rfl:_=r:=hr
     exact k' z z z
    refine q'<|J'<|g'<|A'<|mv z z<|yy (W' z z) z<|sg z z<|u'<|X' ⟨i64.wrap (o+1),i⟩ hr c (f3 z z z) (w1 z)
   refine am'<|r'<|r'<|O'<|ao' i ⟨c,hr⟩ fn (wk ln)
 rintro m ⟨E,hr⟩
 refine g'<|sr<|sg z z<|nx<|j' ?_
 obtain rfl:_=r:=hr
 exact k' z z z
theorem eZ'{j k d e h g c f r}(hr:(ZeA j k).Ret r):Ctr prog 98 #[.agg ((v31' j d e h g c f)).toArray,i' k] (fun G=>sl Rp.str G d e j.vars/\sl b' G h g j.eqs/\sl b' G c f j.neqs) (fun G v=>v = .bool r):=by
 refine E' (args:=[_,_]) (N:=14) func98 z z z (fun q s p l=>?_)
 obtain⟨i,o,m⟩:=l
 refine sr<|ad' 2 z z z fun t=>sg z z<|nr<|mv z z<|aa' hr z (be' z z) z (fun n hr=>?_) (fun n hr=>?_)
 .refine mv z z<|gy z z (e' z) z<|gy z z (aF' z) z<|gy z z (f' 2 bA' z z z) z<|gy z z (M' F' i z) z<|gy z z (ag' z z) z<|yy (h' z z) z<|sg z z<|nx<|j' ?_
  obtain rfl:_=r:=hr
  exact k' z z z
 refine mv z z<|sn5 z<|yy (l' z z) z<|sg z z<|nx<|j' ?_
 obtain rfl:_=r:=hr
 exact k' z z z
theorem hd'{k r}(hr:(ZjF k).Ret r):Ctr prog 185 #[i' k] (fun G=>True) (fun G v=>v = .int .u8 r):=by
 refine E' (args:=[_]) (N:=14) func185 z z z fun l i x o=>sr<|sg z z<|nr<|sg z z<|nx<|n'<|sr<|sg z z<|nx<|ak' (fun (⟨f,e⟩:Int×Mem)=>[(3,i' f)]) (fun ⟨f,e⟩=>Mem.le i e/\(Zgb f).Ret r) (fun ⟨f,e⟩=>St l i e []) ?_ ?_
 .refine C' ?_
  let j:Int->Prop:=fun q=>((fun s=>match s with|f=>Zgb f:Int->Cq Int) q).wp (fun a=>a=r)
  replace hr:(Cq.loop _ _).wp j:=hr
  refine al' (Φ:=j) (fun (⟨d,g,c⟩:Int×Int×Mem)=>((d,g):Int×Int)) (fun ⟨d,g,c⟩=>[(0,i' k),(3,i' d),(4,i' g)]) (fun ⟨d,g,c⟩=>Mem.le i c) (fun ⟨d,g,c⟩=>St l i c []) ⟨1,0,i⟩ hr (f3 z z z) mr (wk ln) ?_
  .intro u p t hr
   obtain⟨d,g,c⟩:=p
   have h:=t
   refine n'<|sr<|mv z z<|mv z z<|yy (ag' z z) z<|nx<|L' hr z (fun m hr=>?_) (fun m hr=>?_)
   .refine q'<|g'<|n'<|C'<|A'<|mv z z<|yy (Y0.mul z z) z<|sg z z<|u'<|J'<|g'<|A'<|mv z z<|yy (W' z z) z<|sg z z<|u'<|X' ⟨i64.wrap (2*d),i64.wrap (g+1),c⟩ hr h (f3 z z z) (wk ln)
   refine am'<|r'<|r'<|O'<|ao' ⟨d,c⟩ ⟨h,hr⟩ (f1 z) (wk ln)
 rintro⟨f,e⟩ ⟨n,hr⟩
 refine g'<|sr<|mv z z<|yy (aO' aE' aS' z) z<|sg z z<|nx<|j' ?_
 obtain rfl:_=r:=hr
 exact k' z z z
theorem gy'{l r}(hr:(Zfn l).Ret r):Ctr prog 150 #[.agg (vecG (Value.int .i64) 8 l).toArray] (fun G=>True) (fun G v=>v = .int .u8 r):=by
 refine E' (args:=[_]) (N:=18) func150 z z z fun n i D u=>sr<|ad' 1 z z z fun p=>sg z z<|nr<|sg z z<|nx<|n'<|sr<|sg z z<|nx<|ak' (fun (⟨h,f⟩:Int×Mem)=>[(3,.int .u8 h)]) (fun ⟨h,f⟩=>Mem.le i f/\(Zc9 h).Ret r) (fun ⟨h,f⟩=>St n i f []) ?_ ?_
 .refine C' ?_
  let j:Int->Prop:=fun y=>((fun A=>match A with|h=>Zc9 h:Int->Cq Int) y).wp (fun a=>a=r)
  replace hr:(Cq.loop _ _).wp j:=hr
  refine al' (Φ:=j) (fun (⟨e,g,c⟩:Int×Int×Mem)=>((e,g):Int×Int)) (fun ⟨e,g,c⟩=>[(1,.pointer (some ⟨p,0,none⟩)),(3,.int .u8 e),(4,i' g)]) (fun ⟨e,g,c⟩=>Mem.le i c) (fun ⟨e,g,c⟩=>St n i c [(1,some ⟨p,.cells (vecG (Value.int .i64) 8 l).toArray 120 (0,0),0⟩)]) ⟨0,0,i⟩ hr (f3 z z z) mr (w1 z) ?_
  .intro C x B hr
   obtain⟨e,g,c⟩:=x
   have d:=B
   refine n'<|sr<|mv z z<|yy (ag' z z) z<|nx<|L' hr z (fun s hr=>?_) (fun s hr=>?_)
   .refine q'<|g'<|n'<|C'<|sr<|mv z z ?_
    obtain⟨k,hr⟩:=hr
    refine yy (bg' aN' sz3 z z k) z<|yy (f' 1 sc3 z z (bj' _ _ _ k)) z<|yy (bh' z z) z<|nx<|L' hr z (fun q hr=>?_) (fun q hr=>?_)
    .refine A'<|mv z z<|mv z z ?_
     obtain⟨o,m,hr⟩:=hr
     refine D' z z (t' E185 z) (hd' m) z (trivial)<|yy (W' z z) z<|sg z z<|u'<|J'<|g'<|A'<|mv z z<|yy (W' z z) z<|sg z z<|u'<|X' ⟨u8.wrap (e+o),i64.wrap (g+1),c⟩ hr d (f3 z z z) (w1 z)
    refine q'<|J'<|g'<|A'<|mv z z<|yy (W' z z) z<|sg z z<|u'<|X' ⟨e,i64.wrap (g+1),c⟩ hr d (f3 z z z) (w1 z)
   refine am'<|r'<|r'<|O'<|ao' ⟨e,c⟩ ⟨d,hr⟩ (f1 z) (wk ln)
 rintro⟨h,f⟩ ⟨t,hr⟩
 refine g'<|sr<|mv z z<|sg z z<|nx<|j' ?_
 obtain rfl:_=r:=hr
 exact k' z z z
theorem eE'{n j l r}(hr:(Zdc n).Ret r):Ctr prog 96 #[.slice j n.length l] (fun G=>sl I' G j l n) (fun G v=>v = .int .u8 r):=by
 refine E' (args:=[_]) (N:=20) func96 z z z (fun s i E p=>?_)
 have k:=p
 refine sr<|sg z z<|nr<|sg z z<|nx<|n'<|sr<|sg z z<|nx<|ak' (fun (⟨d,g⟩:Int×Mem)=>[(3,.int .u8 d)]) (fun ⟨d,g⟩=>Mem.le i g/\(Zfs d).Ret r) (fun ⟨d,g⟩=>St s i g []) ?_ ?_
 .refine C' ?_
  let m:Int->Prop:=fun A=>((fun B=>match B with|d=>Zfs d:Int->Cq Int) A).wp (fun a=>a=r)
  replace hr:(Cq.loop _ _).wp m:=hr
  refine al' (Φ:=m) (fun (⟨c,h,f⟩:Int×Int×Mem)=>((c,h):Int×Int)) (fun ⟨c,h,f⟩=>[(0,.slice j n.length l),(3,.int .u8 c),(4,i' h)]) (fun ⟨c,h,f⟩=>Mem.le i f) (fun ⟨c,h,f⟩=>St s i f []) ⟨0,0,i⟩ hr (f3 z z z) mr (wk ln) ?_
  .intro D y C hr
   obtain⟨c,h,f⟩:=y
   have e:=C
   refine n'<|sr<|mv z z<|mv z z<|yy (M' ai' (k.mono e) z) z<|yy (ag' z z) z<|nx<|L' hr z (fun u hr=>?_) (fun u hr=>?_)
   .refine q'<|g'<|n'<|C'<|A'<|mv z z<|mv z z<|mv z z ?_
    obtain⟨F,o,hr⟩:=hr
    refine yy (Q' ai' cd' (k.mono e) z z o) z<|yy (bz' z) z<|yy (aA' _ bP' z (Z' _ _ _) (du' (H' (ay' (ax' (ab' k o))) e))) z ?_
    obtain⟨t,q,hr⟩:=hr
    refine D' z z (t' E150 z) (gy' q) z (trivial)<|yy (Y0.or z z) z<|sg z z<|u'<|J'<|g'<|A'<|mv z z<|yy (W' z z) z<|sg z z<|u'<|X' ⟨u8.wrap (BitVec.ofInt u8.bits c ||| BitVec.ofInt u8.bits t).toNat,i64.wrap (h+1),f⟩ hr e (f3 z z z) (wk ln)
   refine am'<|r'<|r'<|O'<|ao' ⟨c,f⟩ ⟨e,hr⟩ (f1 z) (wk ln)
 rintro⟨d,g⟩ ⟨x,hr⟩
 refine g'<|sr<|mv z z<|sg z z<|nx<|j' ?_
 obtain rfl:_=r:=hr
 exact k' z z z
theorem gT'{s j d e h g c f r}(hr:(Zis s j).Ret r):Ctr prog 99 #[.agg ((v31' s d e h g c f)).toArray,i' j] (fun G=>sl Rp.str G d e s.vars/\sl b' G h g s.eqs/\sl b' G c f s.neqs) (fun G v=>v = .bool r):=by
 refine E' (args:=[_,_]) (N:=45) func99 z z z (fun E x af I=>?_)
 obtain⟨P,q,m⟩:=I
 refine sr<|ad' 2 z z z fun B=>sg z z<|nx<|n'<|sr<|sg z z<|nx<|ak' (fun (i:Mem)=>match i with|p=>[(1,i' j),(2,.pointer (some ⟨B,0,none⟩))]) (fun (i:Mem)=>match i with|p=>Mem.le x p/\(Zdt s j).Ret r) (fun (i:Mem)=>match i with|p=>St E x p [(2,some ⟨B,.cells ((v31' s d e h g c f)).toArray 31 (0,0),0⟩)]) ?_ ?_
 .refine C' ?_
  let D:(Bool⊕Unit)->Prop:=fun J=>((fun K=>match K with | .inl rv2=>Cq.ret rv2 | .inr ()=>Zdt s j:(Bool⊕Unit)->Cq Bool) J).wp (fun a=>a=r)
  replace hr:(Cq.loop _ _).wp D:=hr
  refine al' (Φ:=D) (fun (⟨y,n⟩:Int×Mem)=>(y:Int)) (fun ⟨y,n⟩=>[(1,i' j),(2,.pointer (some ⟨B,0,none⟩)),(5,i' y)]) (fun ⟨y,n⟩=>Mem.le x n) (fun ⟨y,n⟩=>St E x n [(2,some ⟨B,.cells ((v31' s d e h g c f)).toArray 31 (0,0),0⟩)]) ⟨0,x⟩ hr (f3 z z z) mr (w1 z) ?_
  .intro ac i O hr
   obtain⟨y,n⟩:=i
   have k:=O
   refine n'<|sr<|mv z z<|yy (aX' z) z<|yy (f' 2 bq' z z z) z<|yy (M' w' (q.mono k) z) z<|yy (ag' z z) z<|nx<|L' hr z (fun Y hr=>?_) (fun Y hr=>?_)
   .refine q'<|g'<|n'<|C'<|sr<|yy (aX' z) z<|yy (f' 2 bq' z z z) z<|mv z z ?_
    obtain⟨x2,H,hr⟩:=hr
    refine yy (Q' w' aR' (q.mono k) z z H) z<|yy (bT' z) z ?_
    obtain⟨p2,ab,Q,S⟩:=bG' (H' (ay' (ax' (ab' q H))) k)
    refine yy (Y' cA' z (Q)) z ?_
    obtain⟨ag,L,hr⟩:=hr
    refine D' z z (t' E96 z) (eE' L) z (S)<|yy (aO' aS' aE' z) z<|mv z z ?_
    obtain⟨T,hr⟩:=hr
    refine yy (Y0.shr z z T) z<|yy (bE' z z (by decide)) z<|yy (at' z z) z<|nx<|L' hr z (fun R hr=>?_) (fun R hr=>?_)
    .refine sr<|sg z z<|nx<|j'<|m'<|a'<|a'<|m'<|ae'<|a' ?_
     obtain rfl:_=r:=hr
     exact k' z z z
    refine q'<|J'<|g'<|A'<|mv z z<|yy (W' z z) z<|sg z z<|u'<|X' ⟨i64.wrap (y+1),n⟩ hr k (f3 z z z) (w1 z)
   refine am'<|r'<|r'<|O'<|ao' n ⟨k,hr⟩ (f2 z z) (w1 z)
 rintro p ⟨t,hr⟩
 refine g'<|n'<|sr<|sg z z<|nx<|ak' (fun (i:Mem)=>match i with|u=>[]) (fun (i:Mem)=>match i with|u=>Mem.le p u/\(Zfz).Ret r) (fun (i:Mem)=>match i with|u=>St E x u []) ?_ ?_
 .refine C' ?_
  let C:(Bool⊕Unit)->Prop:=fun J=>((fun K=>match K with | .inl rv1=>Cq.ret rv1 | .inr ()=>Zfz:(Bool⊕Unit)->Cq Bool) J).wp (fun a=>a=r)
  replace hr:(Cq.loop _ _).wp C:=hr
  refine al' (Φ:=C) (fun (⟨A,o⟩:Int×Mem)=>(A:Int)) (fun ⟨A,o⟩=>[(1,i' j),(2,.pointer (some ⟨B,0,none⟩)),(6,i' A)]) (fun ⟨A,o⟩=>Mem.le p o) (fun ⟨A,o⟩=>St E x o [(2,some ⟨B,.cells ((v31' s d e h g c f)).toArray 31 (0,0),0⟩)]) ⟨0,p⟩ hr (f3 z z z) mr (w1 z) ?_
  .intro ad i O hr
   obtain⟨A,o⟩:=i
   have l:=O
   refine n'<|sr<|mv z z<|yy (aZ' z) z<|yy (f' 2 bq' z z z) z<|yy (M' w' (m.mono (mt t l)) z) z<|yy (ag' z z) z<|nx<|L' hr z (fun Z hr=>?_) (fun Z hr=>?_)
   .refine q'<|g'<|n'<|C'<|sr<|yy (aZ' z) z<|yy (f' 2 bq' z z z) z<|mv z z ?_
    obtain⟨x1,F,hr⟩:=hr
    refine yy (Q' w' aR' (m.mono (mt t l)) z z F) z<|yy (bT' z) z ?_
    obtain⟨p1,ah,X,W⟩:=bG' (H' (ay' (ax' (ab' m F))) (mt t l))
    refine yy (Y' cA' z (X)) z ?_
    obtain⟨ae,M,hr⟩:=hr
    refine D' z z (t' E96 z) (eE' M) z (W)<|yy (aO' aS' aE' z) z<|mv z z ?_
    obtain⟨V,hr⟩:=hr
    refine yy (Y0.shr z z V) z<|yy (bE' z z (by decide)) z<|yy (at' z z) z<|nx<|L' hr z (fun U hr=>?_) (fun U hr=>?_)
    .refine sr<|sg z z<|nx<|j'<|m'<|a'<|a'<|m'<|ae'<|a' ?_
     obtain rfl:_=r:=hr
     exact k' z z z
    refine q'<|J'<|g'<|A'<|mv z z<|yy (W' z z) z<|sg z z<|u'<|X' ⟨i64.wrap (A+1),o⟩ hr l (f3 z z z) (w1 z)
   refine am'<|r'<|r'<|O'<|ao' o ⟨l,hr⟩ fn (wk ln)
 rintro u ⟨aa,hr⟩
 refine g'<|sr<|sg z z<|nx<|j' ?_
 obtain rfl:_=r:=hr
 exact k' z z z
theorem dD'{n l h i r}(hr:(Zce n l).Ret r):Ctr prog 93 #[.slice h n.length i,i' l] (fun G=>sl b' G h i n) (fun G v=>v=i' r):=by
 refine E' (args:=[_,_]) (N:=20) func93 z z z (fun q j C p=>?_)
 have k:=p
 refine sr<|sg z z<|nx<|n'<|sr<|sg z z<|nx<|ak' (fun (f:Mem)=>match f with|e=>[]) (fun (f:Mem)=>match f with|e=>Mem.le j e/\(Zfy).Ret r) (fun (f:Mem)=>match f with|e=>St q j e []) ?_ ?_
 .refine C' ?_
  let m:(Int⊕Unit)->Prop:=fun x=>((fun y=>match y with | .inl rv1=>Cq.ret rv1 | .inr ()=>Zfy:(Int⊕Unit)->Cq Int) x).wp (fun a=>a=r)
  replace hr:(Cq.loop _ _).wp m:=hr
  refine al' (Φ:=m) (fun (⟨g,d⟩:Int×Mem)=>(g:Int)) (fun ⟨g,d⟩=>[(0,.slice h n.length i),(1,i' l),(5,i' g)]) (fun ⟨g,d⟩=>Mem.le j d) (fun ⟨g,d⟩=>St q j d []) ⟨0,j⟩ hr (f3 z z z) mr (wk ln) ?_
  .intro B f A hr
   obtain⟨g,d⟩:=f
   have c:=A
   refine n'<|sr<|mv z z<|mv z z<|yy (M' w' (k.mono c) z) z<|yy (ag' z z) z<|nx<|L' hr z (fun t hr=>?_) (fun t hr=>?_)
   .refine q'<|g'<|n'<|C'<|sr<|mv z z<|mv z z ?_
    obtain⟨D,o,hr⟩:=hr
    refine yy (Q' w' aR' (k.mono c) z z o) z<|yy (bn' z) z<|yy (Y' sc3 z (aD' (H' (aV' (ax' (ab' k o))) c))) z<|mv z z<|yy (at' z z) z<|nx<|L' hr z (fun s hr=>?_) (fun s hr=>?_)
    .refine sr<|mv z z<|sg z z<|nx<|j'<|m'<|a'<|a'<|m'<|ae'<|a' ?_
     obtain rfl:_=r:=hr
     exact k' z z z
    refine q'<|J'<|g'<|A'<|mv z z<|yy (W' z z) z<|sg z z<|u'<|X' ⟨i64.wrap (g+1),d⟩ hr c (f3 z z z) (wk ln)
   refine am'<|r'<|r'<|O'<|ao' d ⟨c,hr⟩ fn (wk ln)
 rintro e ⟨u,hr⟩
 refine g'<|sr<|sg z z<|nx<|j' ?_
 obtain rfl:_=r:=hr
 exact k' z z z
theorem gp'{k l d e h g c f r}(hr:(ZhL k l).Ret r):Ctr prog 151 #[.agg ((v31' k d e h g c f)).toArray,i' l] (fun G=>sl Rp.str G d e k.vars/\sl b' G h g k.eqs/\sl b' G c f k.neqs) (fun G v=>v = .bool r):=by
 refine E' (args:=[_,_]) (N:=17) func151 z z z (fun x y u m=>?_)
 obtain⟨p,j,i⟩:=m
 refine sr<|ad' 2 z z z fun A=>sg z z<|nr<|yy (aX' z) z<|yy (f' 2 bq' z z z) z<|mv z z ?_
 obtain⟨s,o,hr⟩:=hr
 refine D' z z (t' E93 z) (dD' o) z (j)<|aa' hr z (be' z z) z (fun q hr=>?_) (fun q hr=>?_)
 .refine mv z z<|sn5 z<|yy (h' z z) z<|sg z z<|nx<|j' ?_
  obtain rfl:_=r:=hr
  exact k' z z z
 refine mv z z<|gy z z (aZ' z) z<|gy z z (f' 2 bq' z z z) z<|gy z z (e' z) z ?_
 obtain⟨t,n,hr⟩:=hr
 refine D' (v' z z) z (t' E93 z) (dD' n) z (i)<|gy z z (be' z z) z<|yy (l' z z) z<|sg z z<|nx<|j' ?_
 obtain rfl:_=r:=hr
 exact k' z z z
theorem fL'{g d e r}(hr:(ZgT g).Ret r):Ctr prog 183 #[.agg ((v128' g d e)).toArray] (fun G=>sl (Rp.int .u32) G d e g.mag) (fun G v=>v = .bool r):=by
 refine E' (args:=[_]) (N:=19) func183 z z z (fun l m j h=>?_)
 have c:=h
 refine sr<|ad' 1 z z z fun n=>sg z z<|nr<|yy (aY' z) z<|yy (f' 1 bI' z z z) z<|yy (M' B' c z) z<|sg z z<|nx<|n'<|sr<|mv z z<|yy (at' z z) z<|nx<|L' hr z (fun i hr=>?_) (fun i hr=>?_)
 .exact (show False from hr).elim
 refine q'<|g'<|sr<|yy (aY' z) z<|yy (f' 1 bI' z z z) z<|mv z z<|yy (bi' z z) z ?_
 obtain⟨k,f,hr⟩:=hr
 refine yy (Q' B' bs' c z z f) z<|yy (Y' bR' z (aD' (ab' c f))) z<|yy (av' z z) z<|sg z z<|nx<|j' ?_
 obtain rfl:_=r:=hr
 exact k' z z z
theorem he'{j m h e g f r}(hr:(Zmm j m).Ret r):Ctr prog 184 #[.agg ((v128' j h e)).toArray,.agg ((v128' m g f)).toArray] (fun G=>sl (Rp.int .u32) G h e j.mag/\sl (Rp.int .u32) G g f m.mag) (fun G v=>v=i' r):=by
 refine E' (args:=[_,_]) (N:=31) func184 z z z (fun J L I i=>?_)
 obtain⟨c,d⟩:=i
 refine sr<|ad' 2 z z z fun K=>ad' 3 z z z fun M=>sg z z<|nx<|n'<|sr<|yy (br' z) z<|aa' hr z (cZ' (f' 2 sc4 z z z) (congrArg Value.bool (bdec _))) z (fun s hr=>?_) (fun s hr=>?_)
 .refine mv z z<|gy z z (br' z) z<|gy z z (f' 3 sc4 z z z) z<|gy z z (aj' z) z<|yy (h' z z) z<|nx<|aL' hr z (fun A hr=>?_) (fun A hr=>?_)
  .exact (show False from hr).elim
  refine q'<|g'<|n'<|sr<|yy (br' z) z<|aa' hr z (cZ' (f' 2 sc4 z z z) (congrArg Value.bool (bdec _))) z (fun B hr=>?_) (fun B hr=>?_)
  .refine yy (aj' z) z<|mv z z<|sn2 z<|yy (l' z z) z<|nx<|bb' z<|q'<|g'<|n'<|sr<|yy (br' z) z<|yy (f' 2 sc4 z z z) z<|nx<|aL' hr z (fun u hr=>?_) (fun u hr=>?_)
   .exact (show False from hr).elim
   refine q'<|g'<|sr<|yy (aY' z) z<|yy (f' 2 bI' z z z) z<|yy (aY' z) z<|yy (f' 3 bI' z z z) z ?_
   obtain⟨E,l,hr⟩:=hr
   refine D' z z (t' E163 z) (df' l) z (⟨c,d⟩)<|sg z z<|nx<|j' ?_
   obtain rfl:_=r:=hr
   exact k' z z z
  refine yy (aj' z) z<|mv z z<|gy z z (br' z) z<|gy z z (f' 3 sc4 z z z) z<|yy (h' z z) z<|nx<|aL' hr z (fun y hr=>?_) (fun y hr=>?_)
  .exact (show False from hr).elim
  refine q'<|g'<|n'<|sr<|yy (br' z) z<|yy (f' 2 sc4 z z z) z<|nx<|aL' hr z (fun t hr=>?_) (fun t hr=>?_)
  .exact (show False from hr).elim
  refine q'<|g'<|sr<|yy (aY' z) z<|yy (f' 2 bI' z z z) z<|yy (aY' z) z<|yy (f' 3 bI' z z z) z ?_
  obtain⟨H,k,hr⟩:=hr
  refine D' z z (t' E163 z) (df' k) z (⟨c,d⟩)<|sg z z<|nx<|j' ?_
  obtain rfl:_=r:=hr
  exact k' z z z
 refine mv z z<|sn3 z<|yy (l' z z) z<|nx<|bb' z<|q'<|g'<|n'<|sr<|yy (br' z) z<|aa' hr z (cZ' (f' 2 sc4 z z z) (congrArg Value.bool (bdec _))) z (fun C hr=>?_) (fun C hr=>?_)
 .refine yy (aj' z) z<|mv z z<|sn2 z<|yy (l' z z) z<|nx<|bb' z<|q'<|g'<|n'<|sr<|yy (br' z) z<|yy (f' 2 sc4 z z z) z<|nx<|aL' hr z (fun q hr=>?_) (fun q hr=>?_)
  .exact (show False from hr).elim
  refine q'<|g'<|sr<|yy (aY' z) z<|yy (f' 2 bI' z z z) z<|yy (aY' z) z<|yy (f' 3 bI' z z z) z ?_
  obtain⟨D,o,hr⟩:=hr
  refine D' z z (t' E163 z) (df' o) z (⟨c,d⟩)<|sg z z<|nx<|j' ?_
  obtain rfl:_=r:=hr
  exact k' z z z
 refine yy (aj' z) z<|mv z z<|gy z z (br' z) z<|gy z z (f' 3 sc4 z z z) z<|yy (h' z z) z<|nx<|aL' hr z (fun x hr=>?_) (fun x hr=>?_)
 .exact (show False from hr).elim
 refine q'<|g'<|n'<|sr<|yy (br' z) z<|yy (f' 2 sc4 z z z) z<|nx<|aL' hr z (fun p hr=>?_) (fun p hr=>?_)
 .exact (show False from hr).elim
 refine q'<|g'<|sr<|yy (aY' z) z<|yy (f' 2 bI' z z z) z<|yy (aY' z) z<|yy (f' 3 bI' z z z) z ?_
 obtain⟨F,n,hr⟩:=hr
 refine D' z z (t' E163 z) (df' n) z (⟨c,d⟩)<|sg z z<|nx<|j' ?_
 obtain rfl:_=r:=hr
 exact k' z z z
theorem gO'{g f e d c r}(hr:(ZeY g).Ret r):Ctr prog 147 #[.agg ((v130' g f e d c)).toArray] (fun G=>sl (Rp.int .u32) G f e g.num.mag/\sl (Rp.int .u32) G d c g.den.mag) (fun G v=>v = .bool r):=by
 refine E' (args:=[_]) (N:=27) func147 z z z (fun O t X s=>?_)
 obtain⟨i,h⟩:=s
 refine sr<|ad' 1 z z z fun I=>sg z z<|nx<|aM' (fun (p:Mem)=>match p with|j=>[(1,.pointer (some ⟨I,0,none⟩))]) (fun (p:Mem)=>match p with|j=>Mem.le t j/\(ZgV g).Ret r) (fun (p:Mem)=>match p with|j=>St O t j [(1,some ⟨I,.cells ((v130' g f e d c)).toArray 130 (0,0),0⟩)]) ?_ ?_
 .refine sr<|yy (cz' z) z<|yy (aH' ((v128' g.num f e)).toArray 1 bt' z z z (aT' ([]) ((v128' g.num f e)) ((v128' g.den d c)))) z ?_
  obtain⟨K,A,hr⟩:=hr
  refine D' z z (t' E183 z) (fL' A) z (i) ?_
  cases K
  .refine yy (aj' z) z<|mv z z<|sn4 z<|yy (h' z z) z<|mv z z<|sn4 z<|yy (h' z z) z<|nx<|R' z<|sr<|sg z z<|nx<|j'<|a' ?_
   obtain rfl:_=r:=hr
   exact k' z z z
  refine yy (aj' z) z<|mv z z<|gy z z (cg' z) z<|gy z z (aH' ((v128' g.den d c)).toArray 1 bt' z z z (aT' ((v128' g.num f e)) ((v128' g.den d c)) ([]))) z ?_
  obtain⟨J,y,hr⟩:=hr
  refine D' (v' z z) z (t' E183 z) (fL' y) z (h) ?_
  cases J
  .refine gy z z (aj' z) z<|yy (l' z z) z<|mv z z<|sn4 z<|yy (h' z z) z<|nx<|R' z<|sr<|sg z z<|nx<|j'<|a' ?_
   obtain rfl:_=r:=hr
   exact k' z z z
  refine gy z z (aj' z) z<|yy (l' z z) z<|mv z z<|gy z z (cg' z) z<|gy z z (aH' ((v128' g.den d c)).toArray 1 bt' z z z (aT' ((v128' g.num f e)) ((v128' g.den d c)) ([]))) z ?_
  obtain⟨S,B,hr⟩:=hr
  refine D' (v' z z) z (t' E115 z) (eV' B) z (h)<|gy z z (ag' z z) z<|yy (l' z z) z<|nx<|L' hr z (fun L hr=>?_) (fun L hr=>?_)
  .exact (show False from hr).elim
  refine q'<|ap' t ⟨mr,hr⟩ (f1 z) (w1 z)
 rintro j ⟨k,hr⟩
 refine sr<|yy (cz' z) z<|yy (aH' ((v128' g.num f e)).toArray 1 bt' z z z (aT' ([]) ((v128' g.num f e)) ((v128' g.den d c)))) z<|yy (cg' z) z<|yy (aH' ((v128' g.den d c)).toArray 1 bt' z z z (aT' ((v128' g.num f e)) ((v128' g.den d c)) ([]))) z ?_
 obtain⟨U,x,hr⟩:=hr
 refine P' z z (t' E159 z) (gn' x) z (⟨(i.mono k),(h.mono k)⟩) (fun P V M n=>?_)
 obtain⟨E,D,rfl,o⟩:=n
 obtain⟨W,u,hr⟩:=hr
 refine P' z z (t' E84 z) (fU' u) z (trivial) (fun Q T q m=>?_)
 obtain⟨F,H,rfl,l⟩:=m
 obtain⟨R,C,hr⟩:=hr
 refine D' z z (t' E184 z) (he' C) z (⟨(o.mono q),l⟩)<|yy (at' z z) z<|sg z z<|nx<|j' ?_
 obtain rfl:_=r:=hr
 exact k' z z z
theorem fM'{u q s r}(hr:(Ze0 u).Ret r):Ctr prog 94 #[.slice q u.length s] (fun G=>sl I' G q s u) (fun G v=>v = .bool r):=by
 refine E' (args:=[_]) (N:=52) func94 z z z (fun M t ak O=>?_)
 have e:=O
 refine sr<|sg z z<|nx<|n'<|sr<|sg z z<|nx<|ak' (fun (h:Mem)=>match h with|o=>[]) (fun (h:Mem)=>match h with|o=>Mem.le t o/\(Zes).Ret r) (fun (h:Mem)=>match h with|o=>St M t o []) ?_ ?_
 .refine C' ?_
  let p:(Bool⊕Unit)->Prop:=fun oo=>((fun ov=>match ov with | .inl rv1=>Cq.ret rv1 | .inr ()=>Zes:(Bool⊕Unit)->Cq Bool) oo).wp (fun a=>a=r)
  replace hr:(Cq.loop _ _).wp p:=hr
  refine al' (Φ:=p) (fun (⟨j,g⟩:Int×Mem)=>(j:Int)) (fun ⟨j,g⟩=>[(0,.slice q u.length s),(3,i' j)]) (fun ⟨j,g⟩=>Mem.le t g) (fun ⟨j,g⟩=>St M t g []) ⟨0,t⟩ hr (f2 z z) mr (wk ln) ?_
  .intro U h hx hr
   obtain⟨j,g⟩:=h
   have c:=hx
   refine n'<|sr<|mv z z<|mv z z<|yy (M' ai' (e.mono c) z) z<|yy (ag' z z) z<|nx<|L' hr z (fun ab hr=>?_) (fun ab hr=>?_)
   .refine q'<|g'<|n'<|C'<|aM' (fun (h:Mem)=>match h with|i=>[(0,.slice q u.length s),(3,i' j)]) (fun (h:Mem)=>match h with|i=>Mem.le g i/\(ZcG u j).wp (Out U p)) (fun (h:Mem)=>match h with|i=>St M t i []) ?_ ?_
    .refine sr<|mv z z<|mv z z ?_
     obtain⟨x3,y,hr⟩:=hr
     refine yy (Q' ai' cd' (e.mono c) z z y) z<|yy (cM' z) z ?_
     obtain⟨J,I,H,K,W,l,m⟩:=ei' (H' (aV' (ax' (ab' e y))) c)
     refine yy (aA' _ cN' z z W) z ?_
     obtain⟨aa,P,hr⟩:=hr
     refine D' z z (t' E147 z) (gO' P) z (⟨l,m⟩) ?_
     cases aa
     .refine yy (aj' z) z<|mv z z<|sn7 z<|yy (h' z z) z<|mv z z<|sn7 z<|yy (h' z z) z<|nx<|R' z<|sr<|sg z z<|nx<|j'<|a'<|m'<|a'<|a'<|m'<|ae'<|a' ?_
      obtain rfl:_=r:=hr
      exact k' z z z
     refine yy (aj' z) z<|mv z z<|gy z z (e' z) z<|gy z z (e' z) z ?_
     obtain⟨x4,B,hr⟩:=hr
     refine gy z z (Q' ai' cd' (e.mono c) z z B) z<|gy z z (cM' z) z ?_
     obtain⟨A,F,E,x,T,k,n⟩:=ei' (H' (aV' (ax' (ab' e B))) c)
     refine gy z z (aA' _ cN' z z T) z ?_
     obtain⟨ah,S,hr⟩:=hr
     refine D' (v' z z) z (t' E82 z) (eW' S) z (⟨k,n⟩)<|aa' hr (v' z z) (at' z z) z (fun X hr=>?_) (fun X hr=>?_)
     .refine yy (l' z z) z<|mv z z<|sn7 z<|yy (h' z z) z<|nx<|R' z<|sr<|sg z z<|nx<|j'<|a'<|m'<|a'<|a'<|m'<|ae'<|a' ?_
      obtain rfl:_=r:=hr
      exact k' z z z
     refine yy (l' z z) z<|mv z z<|gy z z (e' z) z<|gy z z (e' z) z ?_
     obtain⟨x5,L,hr⟩:=hr
     refine gy z z (Q' ai' cd' (e.mono c) z z L) z<|gy z z (bz' z) z<|gy z z (aA' _ bP' z (Z' _ _ _) (du' (H' (ay' (ax' (ab' e L))) c))) z ?_
     obtain⟨aj,R,hr⟩:=hr
     refine D' (v' z z) z (t' E148 z) (fH' R) z (trivial)<|gy z z (aj' z) z<|yy (l' z z) z<|nx<|aL' hr z (fun ac hr=>?_) (fun ac hr=>?_)
     .exact (show False from hr).elim
     refine q'<|ap' g ⟨mr,hr⟩ (f2 z z) (wk ln)
    rintro i ⟨f,hr⟩
    refine n'<|ah' [ff,ff,ff,ff,ff,ff,ff,ff,ff,ff,ff,ff,ff,ff] mix (by kernel_rfl) fun Y=>cn (fun _ d=>e' z)<|by' hr z (fun _ d=>bh' z z) (fun V hr=>?_) (fun V hr=>?_)
    .refine cn (fun _ d=>e' z)<|cy z z (fun _ d=>e' z)<|cy z z (fun _ d=>e' z)<|cy z z (fun _ d=>bi' z z) ?_
     obtain⟨x1,C,hr⟩:=hr
     refine cy z z (fun _ d=>Q' ai' cd' ((e.mono (mt c f)).mono d) z z C)<|cy z z (fun _ d=>bz' z)<|cy z z (fun _ d=>aA' _ bP' z (Z' _ _ _) (du' (H' (H' (ay' (ax' (ab' e C))) (mt c f)) d)))<|cy z z (fun _ d=>e' z)<|cy z z (fun _ d=>e' z) ?_
     obtain⟨x2,D,hr⟩:=hr
     refine cy z z (fun _ d=>Q' ai' cd' ((e.mono (mt c f)).mono d) z z D)<|cy z z (fun _ d=>bz' z)<|cy z z (fun _ d=>aA' _ bP' z (Z' _ _ _) (du' (H' (H' (ay' (ax' (ab' e D))) (mt c f)) d)))<|U' Y ?_
     obtain⟨ai,Q,hr⟩:=hr
     refine D' (v' z z) z (t' E80 z) (fs' Q) z (trivial)<|gy z z (bK' z z) z<|yy (h' z z) z<|u'<|aq'<|g'<|L' hr z (fun Z hr=>?_) (fun Z hr=>?_)
     .exact (show False from hr).elim
     refine q'<|J'<|g'<|A'<|mv z z<|yy (W' z z) z<|sg z z<|u'<|X' ⟨i64.wrap (j+1),i⟩ hr (mt c f) (f2 z z) (wk ln)
    refine cn (fun _ d=>e' z)<|ct z z<|ct z z<|ct z z<|ct z z<|ct z z<|ct z z<|ct z z<|ct z z<|ct z z<|ct z z<|ct z z<|U' Y<|sn2 z<|yy (l' z z) z<|u'<|aq'<|g'<|bb' z<|q'<|J'<|g'<|A'<|mv z z<|yy (W' z z) z<|sg z z<|u'<|X' ⟨i64.wrap (j+1),i⟩ hr (mt c f) (f2 z z) (wk ln)
   refine am'<|r'<|r'<|O'<|ao' g ⟨c,hr⟩ fn (wk ln)
 rintro o ⟨ad,hr⟩
 refine g'<|sr<|sg z z<|nx<|j' ?_
 obtain rfl:_=r:=hr
 exact k' z z z
theorem gF'{k r}(hr:(Zgd k).Ret r):Ctr prog 149 #[.agg (vecG (Value.int .i64) 8 k).toArray] (fun G=>True) (fun G v=>v=i' r):=by
 refine E' (args:=[_]) (N:=15) func149 z z z fun m i A q=>sr<|ad' 1 z z z fun n=>sg z z<|nr<|sg z z<|nx<|n'<|sr<|sg z z<|nx<|ak' (fun (⟨g,e⟩:Int×Mem)=>[(3,i' g)]) (fun ⟨g,e⟩=>Mem.le i e/\(ZdW g).Ret r) (fun ⟨g,e⟩=>St m i e []) ?_ ?_
 .refine C' ?_
  let j:Int->Prop:=fun t=>((fun u=>match u with|g=>ZdW g:Int->Cq Int) t).wp (fun a=>a=r)
  replace hr:(Cq.loop _ _).wp j:=hr
  refine al' (Φ:=j) (fun (⟨d,f,c⟩:Int×Int×Mem)=>((d,f):Int×Int)) (fun ⟨d,f,c⟩=>[(1,.pointer (some ⟨n,0,none⟩)),(3,i' d),(4,i' f)]) (fun ⟨d,f,c⟩=>Mem.le i c) (fun ⟨d,f,c⟩=>St m i c [(1,some ⟨n,.cells (vecG (Value.int .i64) 8 k).toArray 120 (0,0),0⟩)]) ⟨0,0,i⟩ hr (f3 z z z) mr (w1 z) ?_
  .intro y s x hr
   obtain⟨d,f,c⟩:=s
   have h:=x
   refine n'<|sr<|mv z z<|yy (ag' z z) z<|nx<|L' hr z (fun o hr=>?_) (fun o hr=>?_)
   .refine q'<|g'<|n'<|C'<|A'<|mv z z<|mv z z ?_
    obtain⟨l,hr⟩:=hr
    refine yy (bg' aN' sz3 z z l) z<|yy (f' 1 sc3 z z (bj' _ _ _ l)) z<|yy (W' z z) z<|sg z z<|u'<|J'<|g'<|A'<|mv z z<|yy (W' z z) z<|sg z z<|u'<|X' ⟨i64.wrap (d+(getF k f)),i64.wrap (f+1),c⟩ hr h (f3 z z z) (w1 z)
   refine am'<|r'<|r'<|O'<|ao' ⟨d,c⟩ ⟨h,hr⟩ (f1 z) (wk ln)
 rintro⟨g,e⟩ ⟨p,hr⟩
 refine g'<|sr<|mv z z<|sg z z<|nx<|j' ?_
 obtain rfl:_=r:=hr
 exact k' z z z
theorem fu'{n j l r}(hr:(Zd7 n).Ret r):Ctr prog 95 #[.slice j n.length l] (fun G=>sl I' G j l n) (fun G v=>v=i' r):=by
 refine E' (args:=[_]) (N:=20) func95 z z z (fun t i E q=>?_)
 have k:=q
 refine sr<|sg z z<|nr<|sg z z<|nx<|n'<|sr<|sg z z<|nx<|ak' (fun (⟨g,f⟩:Int×Mem)=>[(3,i' g)]) (fun ⟨g,f⟩=>Mem.le i f/\(ZdX g).Ret r) (fun ⟨g,f⟩=>St t i f []) ?_ ?_
 .refine C' ?_
  let m:Int->Prop:=fun A=>((fun B=>match B with|g=>ZdX g:Int->Cq Int) A).wp (fun a=>a=r)
  replace hr:(Cq.loop _ _).wp m:=hr
  refine al' (Φ:=m) (fun (⟨e,h,d⟩:Int×Int×Mem)=>((e,h):Int×Int)) (fun ⟨e,h,d⟩=>[(0,.slice j n.length l),(3,i' e),(4,i' h)]) (fun ⟨e,h,d⟩=>Mem.le i d) (fun ⟨e,h,d⟩=>St t i d []) ⟨(-1),0,i⟩ hr (f3 z z z) mr (wk ln) ?_
  .intro D y C hr
   obtain⟨e,h,d⟩:=y
   have c:=C
   refine n'<|sr<|mv z z<|mv z z<|yy (M' ai' (k.mono c) z) z<|yy (ag' z z) z<|nx<|L' hr z (fun u hr=>?_) (fun u hr=>?_)
   .refine q'<|g'<|n'<|C'<|A'<|mv z z<|mv z z<|mv z z ?_
    obtain⟨F,o,hr⟩:=hr
    refine yy (Q' ai' cd' (k.mono c) z z o) z<|yy (bz' z) z<|yy (aA' _ bP' z (Z' _ _ _) (du' (H' (ay' (ax' (ab' k o))) c))) z ?_
    obtain⟨p,s,hr⟩:=hr
    refine D' z z (t' E149 z) (gF' s) z (trivial)<|yy (en' z z) z<|sg z z<|u'<|J'<|g'<|A'<|mv z z<|yy (W' z z) z<|sg z z<|u'<|X' ⟨if e<p then p else e,i64.wrap (h+1),d⟩ hr c (f3 z z z) (wk ln)
   refine am'<|r'<|r'<|O'<|ao' ⟨e,d⟩ ⟨c,hr⟩ (f1 z) (wk ln)
 rintro⟨g,f⟩ ⟨x,hr⟩
 refine g'<|sr<|mv z z<|sg z z<|nx<|j' ?_
 obtain rfl:_=r:=hr
 exact k' z z z
theorem gc'{i m d e r}(hr:(Zgi i m).Ret r):Ctr prog 152 #[.slice d i.length e,i' m] (fun G=>sl I' G d e i) (fun G v=>v = .bool r):=by
 refine E' (args:=[_,_]) (N:=20) func152 z z z (fun s t q f=>?_)
 have c:=f
 refine sr<|sg z z<|nr<|mv z z ?_
 obtain⟨k,h,hr⟩:=hr
 refine D' z z (t' E94 z) (fM' h) z (c) ?_
 cases k
 .refine mv z z<|sn6 z<|yy (l' z z) z<|mv z z<|sn3 z<|yy (l' z z) z<|sg z z<|nx<|j' ?_
  obtain rfl:_=r:=hr
  exact k' z z z
 refine mv z z<|gy z z (e' z) z ?_
 obtain⟨p,g,hr⟩:=hr
 refine D' (v' z z) z (t' E96 z) (eE' g) z (c)<|gy z z (aO' aS' aE' z) z<|gy z z (e' z) z ?_
 obtain⟨n,hr⟩:=hr
 refine gy z z (Y0.shr z z n) z<|aa' hr (v' z z) (at' z z) z (fun l hr=>?_) (fun l hr=>?_)
 .refine yy (h' z z) z<|mv z z<|gy z z (e' z) z ?_
  obtain⟨o,j,hr⟩:=hr
  refine D' (v' z z) z (t' E95 z) (fu' j) z (c)<|gy z z (bK' z z) z<|yy (h' z z) z<|sg z z<|nx<|j' ?_
  obtain rfl:_=r:=hr
  exact k' z z z
 refine yy (h' z z) z<|mv z z<|sn3 z<|yy (l' z z) z<|sg z z<|nx<|j' ?_
 obtain rfl:_=r:=hr
 exact k' z z z
theorem gj'{q n e f j i d g m l r}(hr:(ZcM q n).Ret r):Ctr prog 100 #[.agg ((v31' q e f j i d g)).toArray,.agg ((v48' n m l)).toArray] (fun G=>sl Rp.str G e f q.vars/\sl b' G j i q.eqs/\sl b' G d g q.neqs/\sl I' G m l n.p) (fun G v=>v=i' r):=by
 refine E' (args:=[_,_]) (N:=60) func100 z z z (fun K x ad C=>?_)
 obtain⟨p,s,k,A⟩:=C
 refine sr<|ad' 2 z z z fun B=>ad' 3 z z z fun y=>sg z z<|nx<|aM' (fun (o:Mem)=>match o with|c=>[(2,.pointer (some ⟨B,0,none⟩)),(3,.pointer (some ⟨y,0,none⟩))]) (fun (o:Mem)=>match o with|c=>Mem.le x c/\(ZaT q n).Ret r) (fun (o:Mem)=>match o with|c=>St K x c [(2,some ⟨B,.cells ((v31' q e f j i d g)).toArray 31 (0,0),0⟩),(3,some ⟨y,.cells ((v48' n m l)).toArray 48 (0,0),0⟩)]) ?_ ?_
 .refine sr<|yy (aQ' z) z<|yy (f' 3 sc3 z z z) z<|aa' hr z (ag' z z) z (fun I hr=>?_) (fun I hr=>?_)
  .refine mv z z<|sn3 z<|yy (h' z z) z<|mv z z<|sn4 z<|N' (x' z z) z<|N' (x' z z) z<|N' (x' z z) z<|N' (x' z z) z<|sf z z z<|yy (h' z z) z<|nx<|R' z<|sr<|sg z z<|nx<|j'<|a' ?_
   obtain rfl:_=r:=hr
   exact k' z z z
  refine mv z z<|gy z z (aQ' z) z<|gy z z (f' 3 sc3 z z z) z<|aa' hr (v' z z) (bh' z z) z (fun J hr=>?_) (fun J hr=>?_)
  .refine yy (l' z z) z<|mv z z<|sn4 z<|N' (x' z z) z<|N' (x' z z) z<|N' (x' z z) z<|N' (x' z z) z<|sf z z z<|yy (h' z z) z<|nx<|R' z<|sr<|sg z z<|nx<|j'<|a' ?_
   obtain rfl:_=r:=hr
   exact k' z z z
  refine yy (l' z z) z<|mv z z<|gy z z (aQ' z) z<|gy z z (f' 3 sc3 z z z) z<|aa' hr (v' z z) (bh' z z) z (fun H hr=>?_) (fun H hr=>?_)
  .refine gy z z (e' z) z<|gy z z (o' 2 ar' z z z) z<|gy z z (aQ' z) z<|gy z z (f' 3 sc3 z z z) z ?_
   obtain⟨ac,D,hr⟩:=hr
   refine D' (v' z z) z (t' E151 z) (gp' D) z (⟨p,s,k⟩)<|gy z z (h' z z) z<|yy (l' z z) z<|nx<|aL' hr z (fun V hr=>?_) (fun V hr=>?_)
   .refine sr<|sg z z<|nx<|j'<|a' ?_
    obtain rfl:_=r:=hr
    exact k' z z z
   refine q'<|ap' x ⟨mr,hr⟩ (f2 z z) (w2 z z)
  refine gy z z (e' z) z<|sn4 z<|gy z z (l' z z) z<|yy (l' z z) z<|nx<|bb' z<|q'<|ap' x ⟨mr,hr⟩ (f2 z z) (w2 z z)
 rintro c ⟨h,hr⟩
 refine aM' (fun (o:Mem)=>match o with|t=>[(2,.pointer (some ⟨B,0,none⟩)),(3,.pointer (some ⟨y,0,none⟩))]) (fun (o:Mem)=>match o with|t=>Mem.le c t/\(ZJ q n).Ret r) (fun (o:Mem)=>match o with|t=>St K x t [(2,some ⟨B,.cells ((v31' q e f j i d g)).toArray 31 (0,0),0⟩),(3,some ⟨y,.cells ((v48' n m l)).toArray 48 (0,0),0⟩)]) ?_ ?_
 .refine sr<|yy (dz' z) z<|aa' hr z (cZ' (f' 3 sc4 z z z) (congrArg Value.bool (bdec _))) z (fun Q hr=>?_) (fun Q hr=>?_)
  .refine yy (aj' z) z<|mv z z<|sn4 z<|yy (l' z z) z<|mv z z<|gy z z (dz' z) z<|aa' hr (v' z z) (cZ' (f' 3 sc4 z z z) (congrArg Value.bool (bdec _))) z (fun Z hr=>?_) (fun Z hr=>?_)
   .refine gy z z (e' z) z<|gy z z (aZ' z) z<|gy z z (f' 2 bq' z z z) z<|gy z z (M' w' (k.mono h) z) z<|aa' hr (v' z z) (be' z z) z (fun aa hr=>?_) (fun aa hr=>?_)
    .refine gy z z (h' z z) z<|yy (l' z z) z<|mv z z<|sn4 z<|N' (x' z z) z<|N' (x' z z) z<|N' (x' z z) z<|sf z z z<|yy (h' z z) z<|nx<|R' z<|sr<|sg z z<|nx<|j'<|a' ?_
     obtain rfl:_=r:=hr
     exact k' z z z
    refine gy z z (h' z z) z<|yy (l' z z) z<|mv z z<|gy z z (aQ' z) z<|gy z z (f' 3 sc3 z z z) z<|aa' hr (v' z z) (at' z z) z (fun M hr=>?_) (fun M hr=>?_)
    .refine gy z z (e' z) z<|gy z z (bw' z) z<|gy z z (f' 2 sc3 z z z) z<|gy z z (be' z z) z<|gy z z (h' z z) z<|yy (l' z z) z<|nx<|L' hr z (fun U hr=>?_) (fun U hr=>?_)
     .refine sr<|sg z z<|nx<|j'<|a' ?_
      obtain rfl:_=r:=hr
      exact k' z z z
     refine q'<|ap' c ⟨mr,hr⟩ (f2 z z) (w2 z z)
    refine gy z z (e' z) z<|sn3 z<|gy z z (l' z z) z<|yy (l' z z) z<|nx<|bb' z<|q'<|ap' c ⟨mr,hr⟩ (f2 z z) (w2 z z)
   refine gy z z (e' z) z<|sn4 z<|gy z z (l' z z) z<|yy (l' z z) z<|mv z z<|gy z z (aQ' z) z<|gy z z (f' 3 sc3 z z z) z<|aa' hr (v' z z) (at' z z) z (fun L hr=>?_) (fun L hr=>?_)
   .refine gy z z (e' z) z<|gy z z (bw' z) z<|gy z z (f' 2 sc3 z z z) z<|gy z z (be' z z) z<|gy z z (h' z z) z<|yy (l' z z) z<|nx<|L' hr z (fun W hr=>?_) (fun W hr=>?_)
    .refine sr<|sg z z<|nx<|j'<|a' ?_
     obtain rfl:_=r:=hr
     exact k' z z z
    refine q'<|ap' c ⟨mr,hr⟩ (f2 z z) (w2 z z)
   refine gy z z (e' z) z<|sn3 z<|gy z z (l' z z) z<|yy (l' z z) z<|nx<|bb' z<|q'<|ap' c ⟨mr,hr⟩ (f2 z z) (w2 z z)
  refine yy (aj' z) z<|mv z z<|gy z z (aX' z) z<|gy z z (f' 2 bq' z z z) z<|gy z z (M' w' (s.mono h) z) z<|aa' hr (v' z z) (be' z z) z (fun O hr=>?_) (fun O hr=>?_)
  .refine yy (h' z z) z<|mv z z<|sn3 z<|N' (x' z z) z<|N' (x' z z) z<|N' (x' z z) z<|N' (x' z z) z<|sf z z z<|yy (h' z z) z<|mv z z<|sn4 z<|N' (x' z z) z<|N' (x' z z) z<|N' (x' z z) z<|sf z z z<|yy (h' z z) z<|nx<|R' z<|sr<|sg z z<|nx<|j'<|a' ?_
   obtain rfl:_=r:=hr
   exact k' z z z
  refine yy (h' z z) z<|mv z z<|gy z z (dz' z) z<|aa' hr (v' z z) (cZ' (f' 3 sc4 z z z) (congrArg Value.bool (bdec _))) z (fun Y hr=>?_) (fun Y hr=>?_)
  .refine gy z z (e' z) z<|gy z z (aZ' z) z<|gy z z (f' 2 bq' z z z) z<|gy z z (M' w' (k.mono h) z) z<|aa' hr (v' z z) (be' z z) z (fun T hr=>?_) (fun T hr=>?_)
   .refine gy z z (h' z z) z<|yy (l' z z) z<|mv z z<|sn4 z<|N' (x' z z) z<|N' (x' z z) z<|N' (x' z z) z<|sf z z z<|yy (h' z z) z<|nx<|R' z<|sr<|sg z z<|nx<|j'<|a' ?_
    obtain rfl:_=r:=hr
    exact k' z z z
   refine gy z z (h' z z) z<|yy (l' z z) z<|mv z z<|gy z z (aQ' z) z<|gy z z (f' 3 sc3 z z z) z<|aa' hr (v' z z) (at' z z) z (fun S hr=>?_) (fun S hr=>?_)
   .refine gy z z (e' z) z<|gy z z (bw' z) z<|gy z z (f' 2 sc3 z z z) z<|gy z z (be' z z) z<|gy z z (h' z z) z<|yy (l' z z) z<|nx<|L' hr z (fun R hr=>?_) (fun R hr=>?_)
    .refine sr<|sg z z<|nx<|j'<|a' ?_
     obtain rfl:_=r:=hr
     exact k' z z z
    refine q'<|ap' c ⟨mr,hr⟩ (f2 z z) (w2 z z)
   refine gy z z (e' z) z<|sn3 z<|gy z z (l' z z) z<|yy (l' z z) z<|nx<|bb' z<|q'<|ap' c ⟨mr,hr⟩ (f2 z z) (w2 z z)
  refine gy z z (e' z) z<|sn4 z<|gy z z (l' z z) z<|yy (l' z z) z<|mv z z<|gy z z (aQ' z) z<|gy z z (f' 3 sc3 z z z) z<|aa' hr (v' z z) (at' z z) z (fun F hr=>?_) (fun F hr=>?_)
  .refine gy z z (e' z) z<|gy z z (bw' z) z<|gy z z (f' 2 sc3 z z z) z<|gy z z (be' z z) z<|gy z z (h' z z) z<|yy (l' z z) z<|nx<|L' hr z (fun P hr=>?_) (fun P hr=>?_)
   .refine sr<|sg z z<|nx<|j'<|a' ?_
    obtain rfl:_=r:=hr
    exact k' z z z
   refine q'<|ap' c ⟨mr,hr⟩ (f2 z z) (w2 z z)
  refine gy z z (e' z) z<|sn3 z<|gy z z (l' z z) z<|yy (l' z z) z<|nx<|bb' z<|q'<|ap' c ⟨mr,hr⟩ (f2 z z) (w2 z z)
 rintro t ⟨u,hr⟩
 refine n'<|sr<|yy (dl' z) z<|yy (f' 3 cA' z z z) z<|yy (aF' z) z<|yy (f' 2 bA' z z z) z<|yy (M' F' (p.mono (mt h u)) z) z ?_
 obtain⟨ab,E,hr⟩:=hr
 refine D' z z (t' E152 z) (gc' E) z ((A.mono (mt h u)))<|yy (aj' z) z<|nx<|aL' hr z (fun X hr=>?_) (fun X hr=>?_)
 .refine sr<|sg z z<|nx<|j'<|a' ?_
  obtain rfl:_=r:=hr
  exact k' z z z
 refine q'<|g'<|sr<|sg z z<|nx<|j' ?_
 obtain rfl:_=r:=hr
 exact k' z z z
theorem eA'{q o e f j i d g n m r}(hr:(Zbw q o).Ret r):Ctr prog 101 #[.agg ((v31' q e f j i d g)).toArray,.agg ((v48' o n m)).toArray] (fun G=>sl Rp.str G e f q.vars/\sl b' G j i q.eqs/\sl b' G d g q.neqs/\sl I' G n m o.p) (fun G v=>v=i' r):=by
 refine E' (args:=[_,_]) (N:=51) func101 z z z (fun Q t U x=>?_)
 obtain⟨l,c,k,u⟩:=x
 refine sr<|ad' 2 z z z fun J=>ad' 3 z z z fun C=>sg z z<|nx<|n'<|sr<|yy (o' 2 ar' z z z) z<|yy (aQ' z) z<|yy (f' 3 sc3 z z z) z ?_
 obtain⟨S,A,hr⟩:=hr
 refine D' z z (t' E151 z) (gp' A) z (⟨l,c,k⟩)<|yy (aj' z) z<|nx<|aL' hr z (fun M hr=>?_) (fun M hr=>?_)
 .refine sr<|sg z z<|nx<|j'<|a' ?_
  obtain rfl:_=r:=hr
  exact k' z z z
 refine q'<|g'<|aM' (fun (s:Mem)=>match s with|p=>[(2,.pointer (some ⟨J,0,none⟩)),(3,.pointer (some ⟨C,0,none⟩))]) (fun (s:Mem)=>match s with|p=>Mem.le t p/\(ZbR q o).Ret r) (fun (s:Mem)=>match s with|p=>St Q t p [(2,some ⟨J,.cells ((v31' q e f j i d g)).toArray 31 (0,0),0⟩),(3,some ⟨C,.cells ((v48' o n m)).toArray 48 (0,0),0⟩)]) ?_ ?_
 .refine sr<|yy (cv' z) z<|yy (f' 3 sc3 z z z) z<|aa' hr z (at' z z) z (fun E hr=>?_) (fun E hr=>?_)
  .refine mv z z<|gy z z (dl' z) z<|gy z z (f' 3 cA' z z z) z<|gy z z (aF' z) z<|gy z z (f' 2 bA' z z z) z<|gy z z (M' F' l z) z ?_
   obtain⟨R,B,hr⟩:=hr
   refine D' (v' z z) z (t' E152 z) (gc' B) z (u)<|gy z z (aj' z) z<|yy (h' z z) z<|nx<|aL' hr z (fun I hr=>?_) (fun I hr=>?_)
   .refine sr<|sg z z<|nx<|j'<|a' ?_
    obtain rfl:_=r:=hr
    exact k' z z z
   refine q'<|ap' t ⟨mr,hr⟩ (f2 z z) (w2 z z)
  refine mv z z<|sn7 z<|yy (l' z z) z<|nx<|bb' z<|q'<|ap' t ⟨mr,hr⟩ (f2 z z) (w2 z z)
 rintro p ⟨h,hr⟩
 refine sr<|yy (aX' z) z<|yy (f' 2 bq' z z z) z<|yy (aQ' z) z<|yy (f' 3 sc3 z z z) z ?_
 obtain⟨T,y,hr⟩:=hr
 refine D' z z (t' E93 z) (dD' y) z ((c.mono h))<|yy (be' z z) z<|sg z z<|nx<|n'<|sr<|yy (cv' z) z<|yy (f' 3 sc3 z z z) z<|aa' hr z (at' z z) z (fun H hr=>?_) (fun H hr=>?_)
 .refine mv z z<|aa' hr (v' z z) (e' z) z (fun O hr=>?_) (fun O hr=>?_)
  .refine gy z z (e' z) z<|gy z z (aZ' z) z<|gy z z (f' 2 bq' z z z) z<|gy z z (M' w' (k.mono h) z) z<|aa' hr (v' z z) (be' z z) z (fun P hr=>?_) (fun P hr=>?_)
   .refine gy z z (h' z z) z<|gy z z (e' z) z<|sn3 z<|N' (x' z z) z<|N' (x' z z) z<|N' (x' z z) z<|N' (x' z z) z<|sf z z z<|gy z z (h' z z) z<|yy (h' z z) z<|nx<|R' z<|sr<|sg z z<|nx<|j'<|a' ?_
    obtain rfl:_=r:=hr
    exact k' z z z
   refine gy z z (h' z z) z<|gy z z (e' z) z<|aa' hr (v' z z) (e' z) z (fun F hr=>?_) (fun F hr=>?_)
   .refine gy z z (aj' z) z<|gy z z (e' z) z<|sn4 z<|gy z z (l' z z) z<|gy z z (l' z z) z<|yy (h' z z) z<|nx<|bb' z<|q'<|g'<|sr<|sg z z<|nx<|j' ?_
    obtain rfl:_=r:=hr
    exact k' z z z
   refine gy z z (aj' z) z<|gy z z (e' z) z<|gy z z (aX' z) z<|gy z z (f' 2 bq' z z z) z<|gy z z (M' w' (c.mono h) z) z<|gy z z (be' z z) z<|gy z z (h' z z) z<|gy z z (l' z z) z<|yy (h' z z) z<|nx<|L' hr z (fun K hr=>?_) (fun K hr=>?_)
   .refine sr<|sg z z<|nx<|j'<|a' ?_
    obtain rfl:_=r:=hr
    exact k' z z z
   refine q'<|g'<|sr<|sg z z<|nx<|j' ?_
   obtain rfl:_=r:=hr
   exact k' z z z
  refine gy z z (e' z) z<|sn4 z<|gy z z (l' z z) z<|gy z z (e' z) z<|aa' hr (v' z z) (e' z) z (fun D hr=>?_) (fun D hr=>?_)
  .refine gy z z (aj' z) z<|gy z z (e' z) z<|sn4 z<|gy z z (l' z z) z<|gy z z (l' z z) z<|yy (h' z z) z<|nx<|bb' z<|q'<|g'<|sr<|sg z z<|nx<|j' ?_
   obtain rfl:_=r:=hr
   exact k' z z z
  refine gy z z (aj' z) z<|gy z z (e' z) z<|gy z z (aX' z) z<|gy z z (f' 2 bq' z z z) z<|gy z z (M' w' (c.mono h) z) z<|gy z z (be' z z) z<|gy z z (h' z z) z<|gy z z (l' z z) z<|yy (h' z z) z<|nx<|L' hr z (fun L hr=>?_) (fun L hr=>?_)
  .refine sr<|sg z z<|nx<|j'<|a' ?_
   obtain rfl:_=r:=hr
   exact k' z z z
  refine q'<|g'<|sr<|sg z z<|nx<|j' ?_
  obtain rfl:_=r:=hr
  exact k' z z z
 refine mv z z<|sn2 z<|N' (x' z z) z<|N' (x' z z) z<|N' (x' z z) z<|N' (x' z z) z<|sn2 z<|N' (x' z z) z<|N' (x' z z) z<|N' (x' z z) z<|N' (x' z z) z<|N' (x' z z) z<|N' (x' z z) z<|N' (x' z z) z<|N' (x' z z) z<|sk z z z<|yy (l' z z) z<|nx<|bb' z<|q'<|g'<|sr<|sg z z<|nx<|j' ?_
 obtain rfl:_=r:=hr
 exact k' z z z
theorem fN'{l p i j k m h g o n r}(hr:(Ze1 l p).Ret r):Ctr prog 71 #[.agg ((v31' l i j k m h g)).toArray,.agg ((v48' p o n)).toArray] (fun G=>sl Rp.str G i j l.vars/\sl b' G k m l.eqs/\sl b' G h g l.neqs/\sl I' G o n p.p) (fun G v=>v=i' r):=by
 refine E' (args:=[_,_]) (N:=98) func71 z z z (fun w0 G0 aq x=>?_)
 obtain⟨c,e,d,f⟩:=x
 refine sr<|ad' 2 z z z fun b1=>ad' 3 z z z fun b2=>sg z z<|nr<|yy (aF' z) z<|yy (f' 2 bA' z z z) z<|yy (M' F' c z) z<|sg z z<|nx<|n'<|sr<|yy (cv' z) z<|yy (f' 3 sc3 z z z) z<|nx<|C'<|sr<|yy (at' z z) z<|sg z z<|nx<|L' hr z (fun af hr=>?_) (fun af hr=>?_)
 .refine n'<|sr<|mv z z<|yy (be' z z) z<|nx<|L' hr z (fun ac hr=>?_) (fun ac hr=>?_)
  .refine sr<|sg z z<|nx<|j'<|a'<|m'<|a' ?_
   obtain rfl:_=r:=hr
   exact k' z z z
  refine q'<|g'<|n'<|sr<|yy (aI' z) z<|yy (f' 3 sc3 z z z) z<|aa' hr z (ag' z z) z (fun Y hr=>?_) (fun Y hr=>?_)
  .refine mv z z<|sn4 z<|yy (h' z z) z<|nx<|R' z<|sr<|sg z z<|nx<|j'<|a'<|m'<|a' ?_
   obtain rfl:_=r:=hr
   exact k' z z z
  refine mv z z<|gy z z (aI' z) z<|gy z z (f' 3 sc3 z z z) z<|gy z z (e' z) z<|gy z z (bh' z z) z<|yy (l' z z) z<|nx<|L' hr z (fun ae hr=>?_) (fun ae hr=>?_)
  .refine sr<|sg z z<|nx<|j'<|a'<|m'<|a' ?_
   obtain rfl:_=r:=hr
   exact k' z z z
  refine q'<|g'<|n'<|sr<|yy (bW' z) z<|yy (f' 3 sc9 z z z) z ?_
  obtain⟨X,I,hr⟩:=hr
  refine D' z z (t' E54 z) (eY' I) z (trivial) ?_
  cases X
  .refine yy (aj' z) z<|mv z z<|sn5 z<|yy (h' z z) z<|nx<|R' z<|sr<|sg z z<|nx<|j'<|a'<|m'<|a' ?_
   obtain rfl:_=r:=hr
   exact k' z z z
  refine yy (aj' z) z<|mv z z<|gy z z (o' 2 ar' z z z) z<|gy z z (bW' z) z<|gy z z (f' 3 sc9 z z z) z ?_
  obtain⟨ap,H,hr⟩:=hr
  refine D' (v' z z) z (t' E97 z) (fK' H) z (⟨c,e,d⟩)<|gy z z (be' z z) z<|yy (l' z z) z<|nx<|L' hr z (fun Z hr=>?_) (fun Z hr=>?_)
  .refine sr<|sg z z<|nx<|j'<|a'<|m'<|a' ?_
   obtain rfl:_=r:=hr
   exact k' z z z
  refine q'<|g'<|sr<|sg z z<|nx<|j'<|m'<|a' ?_
  obtain rfl:_=r:=hr
  exact k' z z z
 refine sr<|yy (at' z z) z<|sg z z<|nx<|L' hr z (fun V hr=>?_) (fun V hr=>?_)
 .refine n'<|sr<|yy (o' 2 ar' z z z) z<|yy (aI' z) z<|yy (f' 3 sc3 z z z) z ?_
  obtain⟨al,S,hr⟩:=hr
  refine D' z z (t' E98 z) (eZ' S) z (⟨c,e,d⟩)<|yy (aj' z) z<|nx<|aL' hr z (fun ab hr=>?_) (fun ab hr=>?_)
  .refine sr<|sg z z<|nx<|j'<|a'<|m'<|a' ?_
   obtain rfl:_=r:=hr
   exact k' z z z
  refine q'<|g'<|n'<|sr<|yy (o' 2 ar' z z z) z<|yy (aI' z) z<|yy (f' 3 sc3 z z z) z ?_
  obtain⟨ao,O,hr⟩:=hr
  refine D' z z (t' E99 z) (gT' O) z (⟨c,e,d⟩)<|nx<|aL' hr z (fun U hr=>?_) (fun U hr=>?_)
  .refine sr<|sg z z<|nx<|j'<|a'<|m'<|a' ?_
   obtain rfl:_=r:=hr
   exact k' z z z
  refine q'<|g'<|sr<|sg z z<|nx<|j'<|m'<|a' ?_
  obtain rfl:_=r:=hr
  exact k' z z z
 refine sr<|yy (at' z z) z<|sg z z<|nx<|L' hr z (fun aa hr=>?_) (fun aa hr=>?_)
 .refine n'<|sr<|yy (o' 2 ar' z z z) z<|yy (aI' z) z<|yy (f' 3 sc3 z z z) z ?_
  obtain⟨an,M,hr⟩:=hr
  refine D' z z (t' E98 z) (eZ' M) z (⟨c,e,d⟩)<|yy (aj' z) z<|nx<|aL' hr z (fun ad hr=>?_) (fun ad hr=>?_)
  .refine sr<|sg z z<|nx<|j'<|a'<|m'<|a' ?_
   obtain rfl:_=r:=hr
   exact k' z z z
  refine q'<|g'<|sr<|yy (o' 2 ar' z z z) z<|yy (bW' z) z<|yy (f' 3 sc9 z z z) z ?_
  obtain⟨am,R,hr⟩:=hr
  refine D' z z (t' E97 z) (fK' R) z (⟨c,e,d⟩)<|sg z z<|nx<|n'<|sr<|yy (bW' z) z<|yy (f' 3 sc9 z z z) z ?_
  obtain⟨W,B,hr⟩:=hr
  refine D' z z (t' E54 z) (eY' B) z (trivial) ?_
  cases W
  .refine yy (aj' z) z<|mv z z<|sn3 z<|N' (x' z z) z<|N' (x' z z) z<|N' (x' z z) z<|N' (x' z z) z<|sf z z z<|yy (h' z z) z<|nx<|R' z<|sr<|sg z z<|nx<|j'<|a'<|m'<|a' ?_
   obtain rfl:_=r:=hr
   exact k' z z z
  refine yy (aj' z) z<|mv z z<|gy z z (e' z) z<|aa' hr (v' z z) (be' z z) z (fun ag hr=>?_) (fun ag hr=>?_)
  .refine gy z z (e' z) z<|gy z z (e' z) z<|gy z z (aI' z) z<|gy z z (f' 3 sc3 z z z) z<|gy z z (av' z z) z<|gy z z (h' z z) z<|yy (l' z z) z<|nx<|L' hr z (fun A hr=>?_) (fun A hr=>?_)
   .refine sr<|sg z z<|nx<|j'<|a'<|m'<|a' ?_
    obtain rfl:_=r:=hr
    exact k' z z z
   refine q'<|g'<|sr<|sg z z<|nx<|j'<|m'<|a' ?_
   obtain rfl:_=r:=hr
   exact k' z z z
  refine gy z z (e' z) z<|sn4 z<|gy z z (l' z z) z<|yy (l' z z) z<|nx<|bb' z<|q'<|g'<|sr<|sg z z<|nx<|j'<|m'<|a' ?_
  obtain rfl:_=r:=hr
  exact k' z z z
 refine sr<|yy (at' z z) z<|sg z z<|nx<|L' hr z (fun Q hr=>?_) (fun Q hr=>?_)
 .refine n'<|sr<|yy (o' 2 ar' z z z) z<|yy (aI' z) z<|yy (f' 3 sc3 z z z) z ?_
  obtain⟨T,y,hr⟩:=hr
  refine D' z z (t' E98 z) (eZ' y) z (⟨c,e,d⟩) ?_
  cases T
  .refine yy (aj' z) z<|mv z z<|sn5 z<|yy (h' z z) z<|nx<|R' z<|sr<|sg z z<|nx<|j'<|a'<|m'<|a' ?_
   obtain rfl:_=r:=hr
   exact k' z z z
  refine yy (aj' z) z<|mv z z<|gy z z (o' 2 ar' z z z) z<|gy z z (cu' z) z<|gy z z (f' 3 sc3 z z z) z ?_
  obtain⟨ar,E,hr⟩:=hr
  refine D' (v' z z) z (t' E98 z) (eZ' E) z (⟨c,e,d⟩)<|gy z z (aj' z) z<|yy (l' z z) z<|nx<|aL' hr z (fun J hr=>?_) (fun J hr=>?_)
  .refine sr<|sg z z<|nx<|j'<|a'<|m'<|a' ?_
   obtain rfl:_=r:=hr
   exact k' z z z
  refine q'<|g'<|sr<|sg z z<|nx<|j'<|m'<|a' ?_
  obtain rfl:_=r:=hr
  exact k' z z z
 refine sr<|yy (at' z z) z<|sg z z<|nx<|L' hr z (fun L hr=>?_) (fun L hr=>?_)
 .refine sr<|yy (o' 2 ar' z z z) z<|yy (o' 3 bL' z z z) z ?_
  obtain⟨ak,u,hr⟩:=hr
  refine D' z z (t' E100 z) (gj' u) z (⟨c,e,d,f⟩)<|sg z z<|nx<|j'<|m'<|a' ?_
  obtain rfl:_=r:=hr
  exact k' z z z
 refine n'<|sr<|yy (at' z z) z<|sg z z<|nx<|L' hr z (fun D hr=>?_) (fun D hr=>?_)
 .refine q'<|g'<|L' hr z (fun F hr=>?_) (fun F hr=>?_)
  .refine sr<|yy (o' 2 ar' z z z) z<|yy (o' 3 bL' z z z) z ?_
   obtain⟨ah,q,hr⟩:=hr
   refine D' z z (t' E101 z) (eA' q) z (⟨c,e,d,f⟩)<|sg z z<|nx<|j'<|m'<|a' ?_
   obtain rfl:_=r:=hr
   exact k' z z z
  refine q'<|J'<|g'<|sr<|sg z z<|nx<|j' ?_
  obtain rfl:_=r:=hr
  exact k' z z z
 refine sr<|yy (at' z z) z<|sg z z<|nx<|L' hr z (fun K hr=>?_) (fun K hr=>?_)
 .refine q'<|g'<|L' hr z (fun P hr=>?_) (fun P hr=>?_)
  .refine sr<|yy (o' 2 ar' z z z) z<|yy (o' 3 bL' z z z) z ?_
   obtain⟨ai,t,hr⟩:=hr
   refine D' z z (t' E101 z) (eA' t) z (⟨c,e,d,f⟩)<|sg z z<|nx<|j'<|m'<|a' ?_
   obtain rfl:_=r:=hr
   exact k' z z z
  refine q'<|J'<|g'<|sr<|sg z z<|nx<|j' ?_
  obtain rfl:_=r:=hr
  exact k' z z z
 refine A'<|yy (at' z z) z<|sg z z<|nx<|L' hr z (fun C hr=>?_) (fun C hr=>?_)
 .refine sr<|yy (o' 2 ar' z z z) z<|yy (o' 3 bL' z z z) z ?_
  obtain⟨aj,s,hr⟩:=hr
  refine D' z z (t' E101 z) (eA' s) z (⟨c,e,d,f⟩)<|sg z z<|nx<|j'<|m'<|a' ?_
  obtain rfl:_=r:=hr
  exact k' z z z
 refine q'<|J'<|g'<|sr<|sg z z<|nx<|j' ?_
 obtain rfl:_=r:=hr
 exact k' z z z
theorem dF'{c e r}(hr:(ZaC c e).Ret r):Ctr prog 73 #[i' c,i' e] (fun G=>True) (fun G v=>v = .agg (vecG (Value.int .i64) 8 r).toArray):=by
 refine E' (args:=[_,_]) (N:=43) func73 z z z fun y o S M=>sr<|T' 4 z z119 z fun s=>nr<|yy (aw' (vs:=#[]) (v:=.agg (vecG (Value.int .i64) 8 (fun _=>0)).toArray) z z (fun _=>by kernel_rfl)) z<|T' 5 z z119 z fun q=>s' 5 z sz119 z z z (Z' _ _ _) (Z' _ _ _) (fun u t=>Rp.one (dv' .i64 8) (G:=o) (x:=(fun _=>0)) (cs:=vecG (Value.int .i64) 8 (fun _=>0)) z u (by first|simpa using t|simpa [Value.cells] using t))<|nx<|n'<|sr<|sg z z<|nx<|ak' (fun (⟨h,m⟩:(Fin 8->Int)×Mem)=>[(0,i' c),(1,i' e),(4,.pointer (some ⟨s,0,none⟩)),(5,.pointer (some ⟨q,0,none⟩))]) (fun ⟨h,m⟩=>Mem.le o m/\(Zdf c e h).Ret r) (fun ⟨h,m⟩=>St y o m [(4,some ⟨s,.cells (vecG (Value.int .i64) 8 (fun _=>0)).toArray 119 (0,0),0⟩),(5,some ⟨q,.cells (vecG (Value.int .i64) 8 h).toArray 119 (0,0),0⟩)]) ?_ ?_
 .refine C' ?_
  let p:(Fin 8->Int)->Prop:=fun P=>((fun Q=>match Q with|h=>Zdf c e h:(Fin 8->Int)->Cq (Fin 8->Int)) P).wp (fun a=>a=r)
  replace hr:(Cq.loop _ _).wp p:=hr
  refine al' (Φ:=p) (fun (⟨d,f,g⟩:Int×(Fin 8->Int)×Mem)=>((d,f):Int×(Fin 8->Int))) (fun ⟨d,f,g⟩=>[(0,i' c),(1,i' e),(4,.pointer (some ⟨s,0,none⟩)),(5,.pointer (some ⟨q,0,none⟩)),(6,i' d)]) (fun ⟨d,f,g⟩=>Mem.le o g) (fun ⟨d,f,g⟩=>St y o g [(4,some ⟨s,.cells (vecG (Value.int .i64) 8 (fun _=>0)).toArray 119 (0,0),0⟩),(5,some ⟨q,.cells (vecG (Value.int .i64) 8 f).toArray 119 (0,0),0⟩)]) ⟨0,(fun _=>0),o⟩ hr (f5 z z z z z) mr (w2 z z) ?_
  .intro B O R hr
   obtain⟨d,f,g⟩:=O
   have l:=R
   refine n'<|sr<|mv z z<|yy (ag' z z) z<|nx<|L' hr z (fun I hr=>?_) (fun I hr=>?_)
   .refine q'<|g'<|n'<|C'<|sr<|mv z z<|mv z z ?_
    obtain⟨F,hr⟩:=hr
    refine yy (bg' bc' sz3 z z F) z<|aG' 5 (vecG (Value.int .i64) 8 (setF f d.toNat d)).toArray z sz3 z z z (by first|(rw[Z']; omega)|(show _<(vecG _ _ _).toArray.size; rw[Z']; omega)) z (cf' _ _ _ _ _)<|nx<|aM' (fun (⟨j,k⟩:(Fin 8->Int)×Mem)=>[(0,i' c),(1,i' e),(4,.pointer (some ⟨s,0,none⟩)),(5,.pointer (some ⟨q,0,none⟩)),(6,i' d)]) (fun ⟨j,k⟩=>Mem.le g k/\(ZbS c e d j).wp (Out B p)) (fun ⟨j,k⟩=>St y o k [(4,some ⟨s,.cells (vecG (Value.int .i64) 8 (fun _=>0)).toArray 119 (0,0),0⟩),(5,some ⟨q,.cells (vecG (Value.int .i64) 8 j).toArray 119 (0,0),0⟩)]) ?_ ?_
    .refine sr<|mv z z<|mv z z<|aa' hr z (bh' z z) z (fun D hr=>?_) (fun D hr=>?_)
     .refine mv z z<|gy z z (e' z) z<|gy z z (e' z) z<|gy z z (bK' z z) z<|yy (h' z z) z<|nx<|L' hr z (fun H hr=>?_) (fun H hr=>?_)
      .refine A'<|mv z z<|mv z z<|yy (bi' z z) z ?_
       obtain⟨K,hr⟩:=hr
       refine yy (bg' bc' sz3 z z K) z<|aG' 5 (vecG (Value.int .i64) 8 (setF (setF f d.toNat d) d.toNat (i64.wrap (d-1)))).toArray z sz3 z z z (by first|(rw[Z']; omega)|(show _<(vecG _ _ _).toArray.size; rw[Z']; omega)) z (cf' _ _ _ _ _)<|u'<|ap' ⟨setF (setF f d.toNat d) d.toNat (i64.wrap (d-1)),g⟩ ⟨mr,hr⟩ (f5 z z z z z) (w2 z z)
      refine q'<|ap' ⟨setF f d.toNat d,g⟩ ⟨mr,hr⟩ (f5 z z z z z) (w2 z z)
     refine mv z z<|sn3 z<|yy (l' z z) z<|nx<|bb' z<|q'<|ap' ⟨setF f d.toNat d,g⟩ ⟨mr,hr⟩ (f5 z z z z z) (w2 z z)
    rintro⟨j,k⟩ ⟨n,hr⟩
    refine sr<|mv z z<|mv z z<|aa' hr z (ag' z z) z (fun C hr=>?_) (fun C hr=>?_)
    .refine mv z z<|gy z z (e' z) z<|gy z z (e' z) z<|gy z z (be' z z) z<|yy (h' z z) z<|nx<|L' hr z (fun E hr=>?_) (fun E hr=>?_)
     .refine A'<|mv z z<|mv z z<|yy (W' z z) z ?_
      obtain⟨A,hr⟩:=hr
      refine yy (bg' bc' sz3 z z A) z<|aG' 5 (vecG (Value.int .i64) 8 (setF j d.toNat (i64.wrap (d+1)))).toArray z sz3 z z z (by first|(rw[Z']; omega)|(show _<(vecG _ _ _).toArray.size; rw[Z']; omega)) z (cf' _ _ _ _ _)<|u'<|J'<|g'<|A'<|mv z z<|yy (W' z z) z<|sg z z<|u'<|X' ⟨i64.wrap (d+1),setF j d.toNat (i64.wrap (d+1)),k⟩ hr (mt l n) (f5 z z z z z) (w2 z z)
     refine q'<|J'<|g'<|A'<|mv z z<|yy (W' z z) z<|sg z z<|u'<|X' ⟨i64.wrap (d+1),j,k⟩ hr (mt l n) (f5 z z z z z) (w2 z z)
    refine mv z z<|sn3 z<|yy (l' z z) z<|nx<|bb' z<|q'<|J'<|g'<|A'<|mv z z<|yy (W' z z) z<|sg z z<|u'<|X' ⟨i64.wrap (d+1),j,k⟩ hr (mt l n) (f5 z z z z z) (w2 z z)
   refine am'<|r'<|r'<|O'<|ao' ⟨f,g⟩ ⟨l,hr⟩ (f4 z z z z) (w2 z z)
 rintro⟨h,m⟩ ⟨L,hr⟩
 refine g'<|sr<|mv z z<|mv z z ?_
 obtain⟨J,hr⟩:=hr
 refine yy (bg' bc' sz3 z z J) z<|aG' 5 (vecG (Value.int .i64) 8 (setF h c.toNat e)).toArray z sz3 z z z (by first|(rw[Z']; omega)|(show _<(vecG _ _ _).toArray.size; rw[Z']; omega)) z (cf' _ _ _ _ _)<|nr<|yy (o' 5 ag119 z z (Z' _ _ _)) z<|s' 4 z sz119 z z z (Z' _ _ _) (Z' _ _ _) (fun u t=>Rp.one (dv' .i64 8) (G:=m) (x:=setF h c.toNat e) (cs:=vecG (Value.int .i64) 8 (setF h c.toNat e)) z u (by first|simpa using t|simpa [Value.cells] using t))<|nx<|j' ?_
 obtain rfl:_=r:=hr
 exact k' z (ac' (i:=4) ag119 z z (Z' _ _ _)) z
end Go.Proofs.YtnjiloaolgjedaaGreat

