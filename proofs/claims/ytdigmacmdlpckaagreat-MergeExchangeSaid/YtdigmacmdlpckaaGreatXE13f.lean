/- The law MergeExchange holds for every input: a part of its proof (what the code does, plain models, and what they return). No condition. -/
import Derived.Test.YtdigmacmdlpckaaGreatXE13e
set_option linter.unusedVariables false
set_option linter.unusedSimpArgs false
namespace Go.Proofs.YtdigmacmdlpckaaGreat
open Go.IntKind (i8 i16 i32 i64 u8 u16 u32 u64)
open Go.Proofs.Tryz
open Go Go.EL Go.RowKit Go.Proofs
abbrev oT(f:Fin 8->Int):Array Value:=(í (Value.int .i64) 8 f).toArray
theorem wx(f:Fin 8->Int){k:Nat}(h:k<8):(oT f)[k]? = some (.int .i64 (Κ f (k:Int))):=BQ (Value.int .i64) 8 f (i:=(k:Int)) ⟨by omega,by omega⟩
theorem Yu(b lo len cap:Nat)(f:Fin 8->Int)(h:lo+len<=8):ò prog 66 #[.slice (some ⟨b,lo,none⟩) len cap] [(9003,some ⟨b,.cells (oT f) 42 (0,0),0⟩)] (λ_=>True)
  (λ_ L v=>v = .tuple #[]/\L=[(9003,some ⟨b,.cells (oT (ri f lo len (len / 2))) 42 (0,0),0⟩)]):=by
 refine ò.enter (args:=[_]) (N:=28) func66 rfl rfl rfl (λw0 G0 l _=>?_)
 have d:i64.wrap ((len:Int)-1)=(len:Int)-1-((0:Nat):Int):=by rw[Į]; omega
 refine sr<|mv rfl rfl<|yy (Y0.mU underlying129 rfl) rfl<|yy (Y0.sub rfl rfl) rfl<|sg rfl rfl<|sg rfl rfl<|nx<|WC.block ?_
 refine WC.kV (X:=Nat) (λk=>[(0,.slice (some ⟨b,lo,none⟩) len cap),(2,.int .i64 (k:Int)),(3,.int .i64 ((len:Int)-1-(k:Int)))])
  (λk=>k<=len / 2) (λk=>St w0 G0 G0 [(9003,some ⟨b,.cells (oT (ri f lo len k)) 42 (0,0),0⟩)]) (λk=>len-k) 0 (fc rfl (fc rfl (fc (by show some (Value.int .i64 (i64.wrap ((len:Int)-1)))=_; rw[d]) fn))) (ġ _) (λw c=>c) ?_
 intro k r
 refine WC.seq<|sr<|mv rfl rfl<|mv rfl rfl<|yy (Y0.lss rfl rfl) rfl<|nx ?_
 refine WC.iD (p:=(k:Int)<(len:Int)-1-(k:Int)) rfl (λn=>?_) (λn=>?_)
 .have j:(len:Int)-1-(k:Int)=((len-1-k:Nat):Int):=by omega
  have e:i64.wrap ((k:Int)+1)=((k+1:Nat):Int):=by rw[Į]; omega
  have i:i64.wrap (((len-1-k:Nat):Int)-1)=(len:Int)-1-((k+1:Nat):Int):=by rw[Į]; omega
  rw[j]
  generalize q:ri f lo len k=g
  refine WC.skip<|WE.then<|WC.seq<|WC.block ?_
  refine WC.drawn [false,false,true,true,false,false,false,false,false,false,false,false,false] gp (by kernel_rfl) (λm=>?_)
  refine cn (λ_ a=>Y0.move rfl)<|cn (λ_ a=>Y0.move rfl)<|η.float Zf (Y0.move rfl)<|η.float Zf (Y0.move rfl)<|cn (λ_ a=>Y0.move rfl)<|cn (λ_ a=>Y0.move rfl) ?_
  refine cn (λ_ a=>Y0.lR underlying129 gh rfl rfl (show len-1-k<len by omega))<|cn (λ_ a=>Y0.gN 9003 ñ rfl rfl (by rw[gd]; exact wx g (show lo+(len-1-k)<8 by omega))) ?_
  refine cn (λ_ a=>Y0.move rfl)<|cn (λ_ a=>Y0.move rfl)<|cn (λ_ a=>Y0.lR underlying129 gh rfl rfl (show k<len by omega))<|cn (λ_ a=>Y0.gN 9003 ñ rfl rfl (by rw[gd]; exact wx g (show lo+k<8 by omega))) ?_
  refine cn (λ_ a=>Y0.lR underlying129 gh rfl rfl (show k<len by omega))<|η.om m ?_
  refine WL.iE 9003 (oT (å g (lo+k) (Κ g ((lo+(len-1-k):Nat):Int)))) Zf gh rfl rfl rfl (by rw[gd,ZG]; omega) rfl (by rw[gd]; exact zw _ _ _ _ _) ?_
  refine yy (Y0.lR underlying129 gh rfl rfl (show len-1-k<len by omega)) rfl ?_
  refine WL.iE 9003 (oT (yO g (lo+k) (lo+(len-1-k)))) Zf gh rfl rfl rfl (by rw[gd,ZG]; omega) rfl (by rw[gd]; exact zw _ _ _ _ _) ?_
  refine WL.nil<|WE.nx<|WE.inBlock<|WE.then<|WC.region<|mv rfl rfl<|yy (Y0.add rfl rfl) rfl<|mv rfl rfl<|yy (Y0.sub rfl rfl) rfl ?_
  rw[e,i]
  refine sg rfl rfl<|sg rfl rfl<|WL.nil<|WE.kC (x:=k) (k+1) (by omega) (fc rfl (fc rfl (fc rfl fn))) (λw c=>c.weaken ?_) (by show len-(k+1)<len-k; omega)
  show Lo.sub [(9003,some ⟨b,.cells (oT (yO (ri f lo len k) (lo+k) (lo+(len-1-k)))) 42 (0,0),0⟩)] _
  rw[q]
  exact lc rfl ln
 have:k=len / 2:=by omega
 subst this
 exact WC.exit<|WE.ã<|WE.ã<|WE.Ö<|WE.n0<|WE.nI rfl ⟨rfl,rfl⟩
theorem Ztv(n:Int):ä prog 28 #[.int .i64 n] (λ_=>True) (λG v=>∃ b,v = .func (.func 65) #[] #[.pointer (some ⟨b,0,none⟩)]/\G b 0=some (.int .i64 n)):=by
 refine ä.enter (args:=[_]) (N:=4) func28 rfl rfl rfl (λw0 G0 a _=>?_)
 refine sr<|WL.yj 1 rfl Zf rfl rfl (λb=>?_)
 refine sg rfl rfl<|WL.nil<|WE.then ?_
 refine WC.kv 1 rfl (by rw[a]; rfl) (λe d c _=>?_)
 refine sr<|yy (Y0.makeFunc rfl rfl) rfl<|sg rfl rfl<|nx<|WC.ret ?_
 exact WE.mw rfl rfl ⟨_,rfl,c 0 _ rfl⟩
theorem YJ{n:Nat}(d:1<=n)(e:n<=4){j:Nat}{p:Fin 8->Int}(h:(Λ n)[j]? = some p):(Λ n)[j+1]? = qG n p:=by
 have key:∀ n:Fin 4,∀ j:Fin 24,(match (Λ (n.val+1))[j.val]? with|some p=>decide ((Λ (n.val+1))[j.val+1]? = qG (n.val+1) p)|none=>true)=true:=by decide +kernel
 have c:∀ n:Fin 4,(Λ (n.val+1)).length<=24:=by decide +kernel
 obtain⟨m,rfl⟩:∃ m,n=m+1:=⟨n-1,by omega⟩
 have a:j<24:=fk (Ć.1 h).1 (c ⟨m,by omega⟩)
 have:=key ⟨m,by omega⟩ ⟨j,a⟩
 dsimp only at this
 rw[h] at this
 exact Ĝ this
def EM(n:Nat)(j:Nat)(u:Value)(_:Mem):Prop:=∃ p,(Λ n)[j]? = some p/\u = .agg (oT p)
theorem Pm{p:Fin 8->Int}:∀ {k i:Nat},nT p k=some i->i<k/\Κ p (i:Int)<=Κ p ((i+1:Nat):Int)
 | 0,_,h=>by cases h
 | k+1,i,h=>by
  unfold nT at h
  split at h
  .obtain⟨c,a⟩:=Pm h
   exact⟨by omega,a⟩
  cases h
  exact⟨aal _,by omega⟩
theorem XY(b n:Nat)(h1:1<=n)(h4:n<=4):sZ prog 65 #[.pointer (some ⟨b,0,none⟩)] (Λ n).length (EM n) (λG=>G b 0=some (.int .i64 (n:Int))):=by
 intro σ Q I y ap D H hY s0 ad P
 refine ò.enter (args:=[_,_]) (N:=61) func65 rfl rfl rfl (λw0 G0 ae hp=>?_)
 obtain⟨A,ab⟩:=hp
 have ac:w0.L.zero:=by rw[ae]; exact P
 have ak:∀ (s:σ) (x:ŀ Ow),Lo.sub (y s) ((9003,x)::y s):=λs x i z h=>by
  rw[Lo.Zn,Ā (λe=>by rw[<- e,D s 9003 (by omega)] at h; cases h)]; exact h
 have L:∀ (s:σ) (x:ŀ Ow) (R:Lo),Lo.sub ((9003,x)::y s) ((9003,x)::((9003,R.get 9003)::y s)):=λs x R i z P=>by
  rw[Lo.Zn] at P ⊢
  split at P
  .rename_i e; rw[Ă e]; exact P
  rename_i e; rw[Ā e,Lo.Zn,Ā e]; exact P
 refine sr<|WL.alloc 9003 Zf uT rfl (λt=>?_)
 refine nx<|WC.seq<|sr<|mv rfl rfl<|nx<|WC.block ?_
 refine WC.kV (X:=Nat) (λk=>[(0,.func (.yield Q) #[] #[]),(1,.pointer (some ⟨b,0,none⟩)),(3,.pointer (some ⟨t,0,none⟩)),(7,.int .i64 (k:Int))])
  (λk=>k<=8) (λk=>St w0 G0 G0 ((9003,some ⟨t,.cells (oT (λi=>if i.val<k then (i.val:Int) else 0)) 42 (0,0),0⟩)::y s0)) (λk=>8-k) 0 (fc rfl (fc rfl (fc rfl (fc rfl fn)))) (by omega) (λw d=>d) ?_
 .intro k hk
  refine sr<|yy (Y0.lss rfl rfl) rfl<|nx<|WC.seq ?_
  refine WC.iD (p:=(k:Int)<8) rfl (λu=>?_) (λu=>?_)
  .have hw:i64.wrap ((k:Int)+1)=((k+1:Nat):Int):=by rw[Į]; omega
   have am:å (λi:Fin 8=>if i.val<k then (i.val:Int) else 0) k (k:Int)=λi=>if i.val<k+1 then (i.val:Int) else 0:=by
    funext i
    show (if i.val=k then (k:Int) else if i.val<k then (i.val:Int) else 0)=if i.val<k+1 then (i.val:Int) else 0
    by_cases e:i.val=k
    .rw[Ă e,Ă (by omega),e]
    rw[Ā e]
    by_cases e2:i.val<k
    .rw[Ă e2,Ă (by omega)]
    rw[Ā e2,Ā (by omega)]
   refine WC.skip<|WE.then<|WC.seq<|WC.block<|sr<|mv rfl rfl<|sg rfl rfl<|nx<|WC.region<|mv rfl rfl<|mv rfl rfl<|yy (Y0.jH underlying42 gh rfl rfl ⟨by omega,by omega⟩) rfl ?_
   refine WL.iE 9003 (oT (λi=>if i.val<k+1 then (i.val:Int) else 0)) Zf gh rfl rfl rfl (by rw[ZG]; omega) rfl (by rw[<- am]; exact zw _ _ _ _ _) ?_
   refine WL.nil<|WE.inBlock<|WE.then<|WC.region<|yy (Y0.add rfl rfl) rfl ?_
   rw[hw]
   exact mv rfl rfl<|WL.nil<|WE.kC (x:=k) (k+1) (by omega) (fc rfl (fc rfl (fc rfl (fc rfl fn)))) (λw d=>d.weaken (L s0 _ [(9003,_)])) (by show 8-(k+1)<8-k; omega)
  have:k=8:=by omega
  subst this
  refine WC.exit<|WE.ã<|WE.ã<|WE.Ö<|WE.then<|WC.block ?_
  have ah:(λi:Fin 8=>if i.val<8 then (i.val:Int) else 0)=λi=>(i.val:Int):=by funext i; rw[Ă i.isLt]
  rw[ah]
  have al:(Λ n)[0]? = some λi=>(i.val:Int):=rfl
  refine WC.kV (X:=Nat×(Fin 8->Int)×σ×Mem) (λO=>[(0,.func (.yield Q) #[] #[]),(1,.pointer (some ⟨b,0,none⟩)),(3,.pointer (some ⟨t,0,none⟩))])
   (λO=>match O with|⟨j,p,s,G⟩=>(Λ n)[j]? = some p/\I j s/\Mem.le G0 G/\ap s G) (λO=>match O with|⟨j,p,s,G⟩=>St w0 G0 G ((9003,some ⟨t,.cells (oT p) 42 (0,0),0⟩)::y s)) (λO=>(Λ n).length-O.1) ⟨0,_,s0,G0⟩ (fc rfl (fc rfl (fc rfl fn))) ⟨al,ad,Mem.le_refl _,ab⟩ (λw d=>d) ?_
  rintro⟨j,p,s,G⟩ ⟨B,hI,a,hp⟩
  dsimp only at B hI a hp ⊢
  have ai:j<(Λ n).length:=(Ć.1 B).1
  have U:=YJ h1 h4 B
  refine WC.seq<|WC.seq<|WC.qi<|nM.y0 Zf (Y0.move rfl) (λc h=>by cases h) rfl<|nM.y0 Zf (Y0.js 9003 mQ rfl rfl (ZG _ _ _)) (λc h=>by cases h) rfl ?_
  refine nM.wC (R:=[(9003,_)]) Zf rfl rfl rfl (hY j _ s ai hI) ⟨hp,p,B,rfl⟩ ac (λi hi=>by simp only[ė,ĵ,ī] at hi; subst hi; exact D s _ (by omega)) (λbb S L1 Z l=>?_)
  obtain⟨rfl,E,T,rfl,aa⟩:=l
  have g:=Mem.le_trans a Z
  refine nM.nil<|WE.then<|WC.tK rfl<|WC.skip<|WE.then<|WC.block ?_
  have an:i64.wrap ((n:Int)-2)=((n-1:Nat):Int)-1:=by rw[Į]; omega
  have ao:i64.wrap ((n:Int)-1)=((n-1:Nat):Int):=by rw[Į]; omega
  refine sr<|yy (Y0.kU ñ rfl (g _ _ _ A)) rfl<|yy (Y0.sub rfl rfl) rfl ?_
  rw[an]
  refine sg rfl rfl<|nx<|WC.sE (X:=Nat) (λk=>[(0,.func (.yield Q) #[] #[]),(1,.pointer (some ⟨b,0,none⟩)),(3,.pointer (some ⟨t,0,none⟩)),(5,.int .i64 ((k:Int)-1))])
   (λk=>k<=n-1/\((k=0/\nT p (n-1)=none)\/∃ i,k=i+1/\nT p (n-1)=some i)) (λ_=>St w0 G0 S ((9003,some ⟨t,.cells (oT p) 42 (0,0),0⟩)::y E)) ?_ ?_
  .refine WC.block<|WC.kV (X:=Nat) (λk=>[(0,.func (.yield Q) #[] #[]),(1,.pointer (some ⟨b,0,none⟩)),(3,.pointer (some ⟨t,0,none⟩)),(5,.int .i64 ((k:Int)-1))])
    (λk=>k<=n-1/\nT p k=nT p (n-1)) (λ_=>St w0 G0 S ((9003,some ⟨t,.cells (oT p) 42 (0,0),0⟩)::y E)) (λk=>k) (n-1) (fc rfl (fc rfl (fc rfl (fc rfl fn)))) ⟨č _,rfl⟩ (λw d=>d) ?_
   rintro k ⟨hk,f⟩
   refine WC.seq<|WC.seq ?_
   by_cases aj:k=0
   .subst aj
    refine WC.drawn [false,false,false,false,false,false,false,false,false,false,false] gp (by kernel_rfl) (λA=>?_)
    refine cn (λ_ a=>Y0.move rfl)<|cn (λ_ a=>Y0.eq (Y0.geq rfl rfl) (ć Value.bool (ċ (by omega))))<|cn (λ_ a=>Y0.move rfl)<|ct rfl rfl<|ct rfl rfl<|ct rfl rfl<|ct rfl rfl<|ct rfl rfl<|ct rfl rfl<|ct rfl rfl<|ct rfl rfl<|η.om A ?_
    refine yy (Y0.rR rfl rfl) rfl<|WL.nil<|WE.nx<|WE.then<|WC.qD rfl ?_
    exact WC.exit<|WE.ã<|WE.ã<|WE.Ö<|WE.pZ 0 ⟨hk,.inl ⟨rfl,f.symm⟩⟩ (fc rfl (fc rfl (fc rfl (fc rfl fn)))) (λw d=>d)
   obtain⟨i,rfl⟩:∃ i,k=i+1:=⟨k-1,by omega⟩
   have e1:((i+1:Nat):Int)-1=(i:Int):=by omega
   have e2:i64.wrap ((i:Int)+1)=((i+1:Nat):Int):=by rw[Į]; omega
   have e3:i64.wrap ((i:Int)-1)=(i:Int)-1:=by rw[Į]; omega
   rw[e1]
   refine WC.drawn [false,false,false,false,false,false,false,false,false,false,false] gp (by kernel_rfl) (λA=>?_)
   refine cn (λ_ a=>Y0.move rfl)<|cn (λ_ a=>Y0.eq (Y0.geq rfl rfl) (ć Value.bool (ē (by omega))))<|cn (λ_ a=>Y0.move rfl) ?_
   refine cy rfl rfl (λ_ a=>Y0.move rfl)<|cy rfl rfl (λ_ a=>Y0.jH underlying42 gh rfl rfl ⟨by omega,by omega⟩)<|cy rfl rfl (λ_ a=>Y0.gN 9003 ñ rfl rfl (wx p (show i<8 by omega))) ?_
   refine cy rfl rfl (λ_ a=>Y0.move rfl)<|cy rfl rfl (λ_ a=>Y0.eq (Y0.add rfl rfl) (ć (Value.int .i64) e2))<|cy rfl rfl (λ_ a=>Y0.jH underlying42 gh rfl rfl ⟨by omega,by omega⟩)<|cy rfl rfl (λ_ a=>Y0.gN 9003 ñ rfl rfl (wx p (show i+1<8 by omega)))<|cy rfl rfl (λ_ a=>Y0.gtr rfl rfl)<|η.om A ?_
   refine yy (Y0.rS rfl rfl) rfl<|WL.nil<|WE.nx<|WE.then<|WC.iD (p:=Κ p ((i+1:Nat):Int)<Κ p (i:Int)) rfl (λu=>?_) (λu=>?_)
   .have F:nT p (i+1)=nT p i:=by show (if _ then _ else _)=_; rw[Ă u]
    refine WC.skip<|WE.then<|WC.block<|WC.region<|mv rfl rfl<|yy (Y0.sub rfl rfl) rfl ?_
    rw[e3]
    exact sg rfl rfl<|WL.nil<|WE.inBlock<|WE.kC (x:=i+1) i ⟨by omega,by rw[<- F]; exact f⟩ (fc rfl (fc rfl (fc rfl (fc rfl fn)))) (λw d=>d) (aal i)
   have F:nT p (i+1)=some i:=by show (if _ then _ else _)=_; rw[Ā u]
   exact WC.exit<|WE.ã<|WE.ã<|WE.Ö<|WE.pZ (i+1) ⟨hk,.inr ⟨i,rfl,by rw[<- f]; exact F⟩⟩ (fc rfl (fc rfl (fc rfl (fc (by rw[e1]; rfl) fn)))) (λw d=>d)
  rintro k ⟨hk,Y⟩
  refine WC.seq<|sr<|mv rfl rfl<|yy (Y0.lss rfl rfl) rfl<|nx ?_
  refine WC.iD (p:=(k:Int)-1<0) rfl (λu=>?_) (λu=>?_)
  .have K:nT p (n-1)=none:=by
    rcases Y with ⟨_,h⟩|⟨i,hi,_⟩
    .exact h
    omega
   have V:(Λ n)[j+1]? = none:=by rw[U]; unfold qG; rw[K]
   have W:(Λ n).length=j+1:=by have:=aan.1 V; omega
   refine WC.ret<|WE.kY<|WE.kF<|WE.kY<|WE.kF ?_
   exact WE.Ì (S':=St w0 G0 S (y E)) (λw d=>d.weaken (ak E _)) (WE.nI rfl ⟨rfl,E,by rw[W]; exact T,rfl,aa⟩)
  obtain⟨i,rfl,f⟩:∃ i,k=i+1/\nT p (n-1)=some i:=by
   rcases Y with ⟨h,_⟩|h
   .omega
   exact h
  have e1:((i+1:Nat):Int)-1=(i:Int):=by omega
  obtain⟨au,aq⟩:=Pm f
  rw[e1]
  refine WC.skip<|WE.then<|sr<|yy (Y0.kU ñ rfl (g _ _ _ A)) rfl<|yy (Y0.sub rfl rfl) rfl ?_
  rw[ao]
  refine sg rfl rfl<|nx<|WC.sE (X:=Nat) (λm=>[(0,.func (.yield Q) #[] #[]),(1,.pointer (some ⟨b,0,none⟩)),(3,.pointer (some ⟨t,0,none⟩)),(5,.int .i64 (i:Int)),(6,.int .i64 (m:Int))])
   (λm=>m<=n-1/\wO p (Κ p (i:Int)) (n-1)=m) (λ_=>St w0 G0 S ((9003,some ⟨t,.cells (oT p) 42 (0,0),0⟩)::y E)) ?_ ?_
  .refine WC.block<|WC.kV (X:=Nat) (λm=>[(0,.func (.yield Q) #[] #[]),(1,.pointer (some ⟨b,0,none⟩)),(3,.pointer (some ⟨t,0,none⟩)),(5,.int .i64 (i:Int)),(6,.int .i64 (m:Int))])
    (λm=>i+1<=m/\m<=n-1/\wO p (Κ p (i:Int)) (n-1)=wO p (Κ p (i:Int)) m) (λ_=>St w0 G0 S ((9003,some ⟨t,.cells (oT p) 42 (0,0),0⟩)::y E)) (λm=>m) (n-1) (fc rfl (fc rfl (fc rfl (fc rfl (fc rfl fn))))) ⟨by omega,č _,rfl⟩ (λw d=>d) ?_
   rintro m ⟨ar,hm,r⟩
   obtain⟨m,rfl⟩:∃ q,m=q+1:=⟨m-1,by omega⟩
   have e3:i64.wrap (((m+1:Nat):Int)-1)=(m:Int):=by rw[Į]; omega
   refine WC.seq<|WC.seq ?_
   refine WC.drawn [false,false,false,false,false,false] gp (by kernel_rfl) (λA=>?_)
   refine cn (λ_ a=>Y0.move rfl)<|cn (λ_ a=>Y0.jH underlying42 gh rfl rfl ⟨by omega,by omega⟩)<|cn (λ_ a=>Y0.gN 9003 ñ rfl rfl (wx p (show m+1<8 by omega))) ?_
   refine cn (λ_ a=>Y0.move rfl)<|cn (λ_ a=>Y0.jH underlying42 gh rfl rfl ⟨by omega,by omega⟩)<|cn (λ_ a=>Y0.gN 9003 ñ rfl rfl (wx p (show i<8 by omega)))<|η.om A ?_
   refine yy (Y0.lss rfl rfl) rfl<|WL.nil<|WE.nx<|WE.then<|WC.iD (p:=Κ p ((m+1:Nat):Int)<Κ p (i:Int)) rfl (λu=>?_) (λu=>?_)
   .have F:wO p (Κ p (i:Int)) (m+1)=wO p (Κ p (i:Int)) m:=by show (if _ then _ else _)=_; rw[Ă u]
    have av:i+1≠m+1:=λe=>by rw[<- e] at u; omega
    refine WC.skip<|WE.then<|WC.block<|WC.region<|mv rfl rfl<|yy (Y0.sub rfl rfl) rfl ?_
    rw[e3]
    exact sg rfl rfl<|WL.nil<|WE.inBlock<|WE.kC (x:=m+1) m ⟨by omega,by omega,by rw[r,F]⟩ (fc rfl (fc rfl (fc rfl (fc rfl (fc rfl fn))))) (λw d=>d) (aal m)
   have F:wO p (Κ p (i:Int)) (m+1)=m+1:=by show (if _ then _ else _)=_; rw[Ā u]
   exact WC.exit<|WE.ã<|WE.ã<|WE.Ö<|WE.pZ (m+1) ⟨hm,by rw[r,F]⟩ (fc rfl (fc rfl (fc rfl (fc rfl (fc rfl fn))))) (λw d=>d)
  rintro m ⟨hm,r⟩
  have e4:i64.wrap ((i:Int)+1)=((i+1:Nat):Int):=by rw[Į]; omega
  have J:(Λ n)[j+1]? = some (ri (yO p i m) (i+1) (n-(i+1)) ((n-(i+1)) / 2)):=by rw[U]; unfold qG; rw[f]; dsimp only; rw[r]
  refine WC.seq<|WC.drawn [false,true,false,false,false,false,false,false,false] gp (by kernel_rfl) (λag=>?_)
  refine cn (λ_ a=>Y0.move rfl)<|η.float Zf (Y0.move rfl)<|cn (λ_ a=>Y0.move rfl)<|cn (λ_ a=>Y0.jH underlying42 gh rfl rfl ⟨by omega,by omega⟩)<|cn (λ_ a=>Y0.gN 9003 ñ rfl rfl (wx p (show m<8 by omega))) ?_
  refine cn (λ_ a=>Y0.move rfl)<|cn (λ_ a=>Y0.jH underlying42 gh rfl rfl ⟨by omega,by omega⟩)<|cn (λ_ a=>Y0.gN 9003 ñ rfl rfl (wx p (show i<8 by omega)))<|cn (λ_ a=>Y0.jH underlying42 gh rfl rfl ⟨by omega,by omega⟩)<|η.om ag ?_
  refine WL.iE 9003 (oT (å p i (Κ p (m:Int)))) Zf gh rfl rfl rfl (by rw[ZG]; omega) rfl (zw _ _ _ _ _) ?_
  refine yy (Y0.jH underlying42 gh rfl rfl ⟨by omega,by omega⟩) rfl ?_
  refine WL.iE 9003 (oT (yO p i m)) Zf gh rfl rfl rfl (by rw[ZG]; omega) rfl (zw _ _ _ _ _) ?_
  refine WL.nil<|WE.nx<|WE.then<|WC.region<|mv rfl rfl<|yy (Y0.eq (Y0.add rfl rfl) (ć (Value.int .i64) e4)) rfl<|yy (Y0.kU ñ rfl (g _ _ _ A)) rfl<|yy (Y0.CW underlying42 gh rfl rfl rfl (show i+1<8 by omega) (show i+1<=n by omega) (show n<=8 by omega)) rfl ?_
  refine WL.lW Zf rfl (YC.of S6 rfl) (Yu t (i+1) (n-(i+1)) (8-(i+1)) (yO p i m) (by omega)) rfl trivial (lc rfl ln) ac (λv G2 L2 C l=>?_)
  obtain⟨rfl,rfl⟩:=l
  refine WL.nil<|WE.inBlock<|WE.kC (x:=(j,p,s,G)) (j+1,_,E,G2) ⟨J,T,Mem.le_trans g C,H _ _ _ C aa⟩ (fc rfl (fc rfl (fc rfl fn))) (λw d=>d.weaken (λq z hq=>?_)) (by show (Λ n).length-(j+1)<(Λ n).length-j; omega)
  simp only[Lo.É,ė,ĵ,Ħ,Ņ,Lo.Zn] at hq ⊢
  split at hq
  .rename_i e; rw[Ă e]; exact hq
  rename_i e; simp only[Ā e]; exact hq
abbrev tL(c:Zm)(q:ŀ Addr×Nat×ŀ Addr×Nat):Ŀ Value:=[.int .i64 c.n,.slice q.1 c.eqs.length q.2.1,.slice q.2.2.1 c.ζ.length q.2.2.2]
abbrev xa:=Zm×(ŀ Addr×Nat×ŀ Addr×Nat)×(Fin 8->Int)×Ĳ
theorem MP(U:Zm)(Q:ŀ Addr)(P:Nat)(F:ŀ Addr)(E:Nat)(r:Zm×(Fin 8->Int))(D:(DH U).ο r):ä prog 9 #[.agg ([.int .i64 U.n,.slice Q U.eqs.length P,.slice F U.ζ.length E]).toArray] (λG=>ë RP G (.slice Q U.eqs.length P) U.eqs/\ë RP G (.slice F U.ζ.length E) U.ζ)
  (λG v=>∃ Y X T S,v = .tuple #[.agg ([.int .i64 r.1.n,.slice Y r.1.eqs.length X,.slice T r.1.ζ.length S]).toArray,.agg (í (Value.int .i64) 8 r.2).toArray]/\ë RP G (.slice Y r.1.eqs.length X) r.1.eqs/\ë RP G (.slice T r.1.ζ.length S) r.1.ζ):=by
 obtain⟨⟨bi,bj⟩,aL,aB,D⟩:=D
 replace D:_=r:=D
 subst D
 obtain⟨n,hn⟩:∃ n:Nat,U.n=n:=⟨U.n.toNat,by omega⟩
 rw[hn,ģ] at aB
 refine ò.tQ (args:=[_]) (N:=45) func9 rfl rfl rfl (λw0 G0 aW aN=>?_)
 obtain⟨ay,al⟩:=aN
 refine sr<|WL.box 1 Zf rfl rfl (λb1=>?_)
 refine WL.alloc 2 Zf z39 rfl (λb2=>WL.alloc 3 Zf uT rfl (λb3=>nr<|WL.alloc 4 Zf z39 rfl (λb4=>nr<|WL.alloc 5 Zf uT rfl (λb5=>nr<|WL.alloc 6 Zf z9 rfl (λb6=>?_)))))
 refine WL.iE 6 #[.string ByteArray.empty] Zf nJ rfl rfl rfl fw rfl rfl ?_
 refine nx<|WC.seq<|sr<|yy (Y0.ye rfl) rfl<|yy (Y0.gN 1 ñ rfl rfl rfl) rfl ?_
 refine WL.call Zf rfl (YC.of SQ rfl) (Ztv U.n) rfl trivial (λv G1 aC Z=>?_)
 obtain⟨bn,rfl,aM⟩:=Z
 rw[hn] at aM
 refine nx ?_
 refine WC.qJ (t:=14) (f:=65) rfl S5 (λac d lp rec ha ba aZ bb a9 has aY=>?_)
 let Lc:xa->Lo:=λs=>[(8001,some ⟨lp,.loop rec,0⟩),(8002,some ⟨d,.deferred (some []),0⟩),(1,some ⟨b1,.cells ([.int .i64 U.n,.slice Q U.eqs.length P,.slice F U.ζ.length E]:Ŀ Value).toArray 39 (0,0),0⟩),(2,some ⟨b2,.cells (tL ⟨0,[],[]⟩ (none,0,none,0)).toArray 39 (0,0),0⟩),(3,some ⟨b3,.cells (oT λ_=>0) 42 (0,0),0⟩),
  (4,some ⟨b4,.cells (tL s.1 s.2.1).toArray 39 (0,0),0⟩),(5,some ⟨b5,.cells (oT s.2.2.1) 42 (0,0),0⟩),(6,some ⟨b6,.cells #[.string s.2.2.2] 9 (0,0),0⟩)]
 refine⟨_,Lc (⟨0,[],[]⟩,(none,0,none,0),λ_=>0,ByteArray.empty),_,lc rfl (lc rfl (lc rfl (lc rfl (lc rfl (lc rfl (lc rfl (lc rfl ln))))))),λi _=>by rw[aW]; rfl,
  XY bn n (by omega) (by omega) lp (λj s=>(pN U ((Λ n).drop j) (s.1,s.2.2)).ο aL) Lc (λs G=>ë RP G (.slice Q U.eqs.length P) U.eqs/\ë RP G (.slice F U.ζ.length E) U.ζ/\ë RP G (.slice s.2.1.1 s.1.eqs.length s.2.1.2.1) s.1.eqs/\ë RP G (.slice s.2.1.2.2.1 s.1.ζ.length s.2.1.2.2.2) s.1.ζ)
   (λs i hi=>?_) (λG G' s y ⟨q1,q2,q3,q4⟩=>⟨q1.mono y,q2.mono y,q3.mono y,q4.mono y⟩) (λj u s hj hI=>?_) _ (by rw[List.drop_zero]; exact aB) ?_,⟨aM,ay.mono aC,al.mono aC,ë.nil _ _,ë.nil _ _⟩,λG' L' v y Z=>?_⟩
 .simp only[Lc]
  rw[Lo.Zn,Ā (by omega),Lo.Zn,Ā (by omega),Lo.Zn,Ā (by omega),Lo.Zn,Ā (by omega),Lo.Zn,Ā (by omega),Lo.Zn,Ā (by omega),Lo.Zn,Ā (by omega),Lo.Zn,Ā (by omega)]; rfl
 .refine sd.Qr (N:=45) rfl ba aZ a9 (by rw[bb]; exact ha.round (by decide)) (λbm G bh hG=>?_)
  obtain⟨⟨aj,ak,aG,aH⟩,p,hp,rfl⟩:=hG
  obtain⟨c,q,f,key⟩:=s
  dsimp only at hI aG aH ⊢
  rw[Ĵ hj,show (Λ n)[j]=p by rw[Ą hj] at hp; exact Ŵ hp] at hI
  obtain⟨az,⟨ah,aR,ai,aS,a,aT,D⟩,ax⟩:=hI
  refine Fm has ?_
  refine jy.region NJ rfl (WL.alloc 7 Zf uT rfl (λb7=>?_))
  refine WL.jw 7 Zf n4 rfl rfl rfl (ZG _ _ _) (ZG _ _ _) (λu hu=>zv _ _ _ (λ_=>rfl) u (by simpa using hu))<|WL.nil (λa1 v1 aX aQ=>⟨_,_,_,aX,aQ,rfl,?_⟩)
  refine Fm aY ?_
  refine jy.block<|jy.seq ?_
  refine jy.drawn (Bc (xO xP)) rfl [false,false,false,false,false,false,false,false,false,false,false,false,false,true,false] gp (by kernel_rfl) (λhb=>?_)
  refine cn (λ_ y=>Y0.ye rfl)<|cn (λ_ y=>Y0.gN 1 ñ rfl rfl rfl)<|cn (λ_ y=>Y0.BR rfl)<|cn (λ_ y=>Y0.gN 1 lg rfl rfl rfl)<|cn (λ_ y=>Y0.js 7 mQ rfl rfl (ZG _ _ _)) ?_
  refine η.rJ (post:=λG v=>∃ K J,v = .slice K ah.length J/\ë (Rp.sl Zo) G (.slice K ah.length J) ah) (λ_=>Zf) (λ_ _=>YC.of LU rfl) (Mn _ _ _ _ _ aR) rfl (λG' y=>(aj.mono y)) (λv G1 G2 y h=>?_) ?_
  .obtain⟨K,J,rfl,ae⟩:=h
   exact⟨_,_,rfl,ae.mono y⟩
  refine cu (λ_ _ y=>Y0.BS rfl)<|cu (λ_ _ y=>Y0.gN 1 lg rfl rfl rfl)<|cu (λ_ _ y=>Y0.js 7 mQ rfl rfl (ZG _ _ _)) ?_
  refine η.rJ (post:=λG v=>∃ O L,v = .slice O ai.length L/\ë (Rp.sl Zo) G (.slice O ai.length L) ai) (λ_=>Zf) (λ_ _=>YC.of LU rfl) (Mn _ _ _ _ _ aS) rfl (λG' y=>(ak.mono y)) (λv G1 G2 y h=>?_) ?_
  .obtain⟨O,L,rfl,ag⟩:=h
   exact⟨_,_,rfl,ag.mono y⟩
  refine η.tC (f:=26) (φ:=λG v=>∃ m l g e,v = .tuple #[.agg ([.int .i64 a.1.n,.slice m a.1.eqs.length l,.slice g a.1.ζ.length e]).toArray,.int .i64 a.2]/\ë (Rp.sl Zo) G (.slice m a.1.eqs.length l) a.1.eqs/\ë (Rp.sl Zo) G (.slice g a.1.ζ.length e) a.1.ζ) (λ_=>Zf) (λv G1 G2 y h=>?_) (λu G' y hu=>?_) ?_
  .obtain⟨m,l,g,e,rfl,B,A⟩:=h
   exact⟨_,_,_,_,rfl,B.mono y,A.mono y⟩
  .obtain⟨⟨O,L,aJ,ag⟩,⟨K,J,aI,ae⟩,_⟩:=(show (λG v=>∃ O L,v = .slice O ai.length L/\ë (Rp.sl Zo) G (.slice O ai.length L) ai) G'.m (u 25)/\(λG v=>∃ K J,v = .slice K ah.length J/\ë (Rp.sl Zo) G (.slice K ah.length J) ah) G'.m (u 21)/\True from hu)
   exact⟨_,_,_,λ_=>YC.of LR rfl,MH _ _ _ _ _ _ _ _ aT,(by simp only[aJ,aI] <;> rfl),⟨ae,ag⟩⟩
  refine η.ux (φ:=λG v=>∃ p1 H p2 I,v = .tuple #[.agg ([.int .i64 a.1.n,.slice p1 a.1.eqs.length H,.slice p2 a.1.ζ.length I]).toArray,.int .i64 a.2]/\ë (Rp.sl Zo) G (.slice p1 a.1.eqs.length H) a.1.eqs/\ë (Rp.sl Zo) G (.slice p2 a.1.ζ.length I) a.1.ζ) (λ_=>Zf) (λv G1 G2 y h=>?_) (λu G' y hu=>?_) ?_
  .obtain⟨p1,H,p2,I,rfl,am,an⟩:=h
   exact⟨_,_,_,_,rfl,am.mono y,an.mono y⟩
  .obtain⟨⟨m,l,g,e,aK,B,A⟩,_,_,_⟩:=(show (λG v=>∃ m l g e,v = .tuple #[.agg ([.int .i64 a.1.n,.slice m a.1.eqs.length l,.slice g a.1.ζ.length e]).toArray,.int .i64 a.2]/\ë (Rp.sl Zo) G (.slice m a.1.eqs.length l) a.1.eqs/\ë (Rp.sl Zo) G (.slice g a.1.ζ.length e) a.1.ζ) G'.m (u 26)/\True/\True/\True from hu)
   simp only[ψ,aK]
   exact⟨_,Y0.move rfl,m,l,g,e,rfl,B,A⟩
  refine η.ux (φ:=λG v=>∃ p3 V p4 W,v = .agg ([.int .i64 a.1.n,.slice p3 a.1.eqs.length V,.slice p4 a.1.ζ.length W]).toArray/\ë (Rp.sl Zo) G (.slice p3 a.1.eqs.length V) a.1.eqs/\ë (Rp.sl Zo) G (.slice p4 a.1.ζ.length W) a.1.ζ) (λ_=>Zf) (λv G1 G2 y h=>?_) (λu G' y hu=>?_) ?_
  .obtain⟨p3,V,p4,W,rfl,ao,ap⟩:=h
   exact⟨_,_,_,_,rfl,ao.mono y,ap.mono y⟩
  .obtain⟨⟨p1,H,p2,I,ab,am,an⟩,_,_,_,_⟩:=(show (λG v=>∃ p1 H p2 I,v = .tuple #[.agg ([.int .i64 a.1.n,.slice p1 a.1.eqs.length H,.slice p2 a.1.ζ.length I]).toArray,.int .i64 a.2]/\ë (Rp.sl Zo) G (.slice p1 a.1.eqs.length H) a.1.eqs/\ë (Rp.sl Zo) G (.slice p2 a.1.ζ.length I) a.1.ζ) G'.m (u 15)/\True/\True/\True/\True from hu)
   simp only[ψ,ab]
   exact⟨_,Y0.extract rfl rfl,p1,H,p2,I,rfl,am,an⟩
  refine η.pS (c:=.int .i64 a.2) (λ_=>Zf) (λu G' y hu=>?_) ?_
  .obtain⟨_,⟨p1,H,p2,I,ab,am,an⟩,_,_,_,_⟩:=(show True/\(λG v=>∃ p1 H p2 I,v = .tuple #[.agg ([.int .i64 a.1.n,.slice p1 a.1.eqs.length H,.slice p2 a.1.ζ.length I]).toArray,.int .i64 a.2]/\ë (Rp.sl Zo) G (.slice p1 a.1.eqs.length H) a.1.eqs/\ë (Rp.sl Zo) G (.slice p2 a.1.ζ.length I) a.1.ζ) G'.m (u 15)/\True/\True/\True/\True from hu)
   simp only[ψ,ab]
   exact Y0.extract rfl rfl
  refine η.alloc (λ_=>Zf) z39 ?_
  refine η.yV (λbo bg bf be bd bc X1 C aA aw av au ar aq=>?_)
  obtain⟨b8,rfl,aV⟩:=aA
  obtain⟨p3,V,p4,W,rfl,ao,ap⟩:=aw
  obtain⟨p1,H,p2,I,rfl,am,an⟩:=av
  obtain⟨m,l,g,e,rfl,B,A⟩:=au
  obtain⟨O,L,rfl,ag⟩:=ar
  obtain⟨K,J,rfl,ae⟩:=aq
  refine WL.ph aV (WL.FU (show WL _ _ _ _ _ _ (St _ _ X1.m _) from ?_))
  refine WL.jw 8 Zf mC rfl rfl rfl rfl rfl (Ĕ.1 rfl) ?_
  refine sg rfl rfl<|WL.nil ?_
  refine WE.nx ?_
  refine jy.then<|jy.seq<|jy.seq<|jy.region (Bc (Bc (xO xP))) rfl<|mv rfl rfl<|yy (Y0.neq rfl rfl) rfl<|WL.nil<|jy.then ?_
  refine jy.iD (p:=¬ a.2=0) rfl (λaE=>?_) (λaE=>?_)
  .replace D:=D.pos aE
   replace D:_=az:=D
   subst D
   refine jy.exit<|WE.ã<|WE.Ö ?_
   exact λa2 w2 _ aa=>⟨_,_,Lc (c,q,f,key),aa,rfl,lc rfl (lc rfl (lc rfl (lc rfl (lc rfl (lc rfl (lc rfl (lc rfl ln))))))),rfl,(c,q,f,key),ax,rfl,aj.mono C,ak.mono C,aG.mono C,aH.mono C⟩
  replace D:=D.neg aE
  obtain⟨ad,aU,D⟩:=D
  refine jy.skip<|jy.then<|jy.seq<|jy.region (Bc (xO xP)) rfl<|yy (Y0.js 8 kA rfl rfl rfl) rfl ?_
  refine WL.nf Zf rfl (YC.of SR rfl) (Xh _ _ _ _ _ _ aU) rfl (⟨ao,ap⟩) ?_
  refine sg rfl rfl<|WL.nil<|jy.then<|jy.seq<|jy.region (Bc (xO xP)) rfl<|yy (Y0.gN 6 ou rfl rfl rfl) rfl ?_
  refine WL.pO (p:=key=ByteArray.empty) Zf (Y0.vw underlying9 rfl rfl) rfl (λaD=>?_) (λaD=>?_)
  .replace D:=D.pos aD
   replace D:_=az:=D
   subst D
   refine mv rfl rfl<|sf rfl rfl rfl<|sf rfl rfl rfl<|sf rfl rfl rfl<|yy (Y0.rS rfl rfl) rfl<|WL.nil<|jy.then ?_
   refine jy.cond (b:=true) rfl (λ_=>?_) (λh=>by cases h)
   refine jy.nv (xO xP) rfl [(7,some ⟨b7,.cells (oT p) 42 (0,0),0⟩)] (lc rfl ln) [false,true,true] gp (by kernel_rfl) (λhb=>?_)
   refine cn (λ_ y=>Y0.js 8 kA rfl rfl rfl) ?_
   refine η.k8 Zf (Y0.js 7 mQ rfl rfl (ZG _ _ _))<|η.k8 Zf (Y0.move rfl) ?_
   refine η.lE hb<|jc.one (λw R=>R.weaken (lc rfl ln)) ?_
   refine WL.jw 4 Zf mC rfl rfl rfl rfl rfl (Ĕ.1 rfl)<|jc.back<|jc.one (λw R=>R.weaken (lc rfl ln)) ?_
   refine WL.jw 5 Zf n4 rfl rfl rfl (ZG _ _ _) (ZG _ _ _) (λu hu=>zv _ _ _ (λ_=>rfl) u (by simpa using hu))<|jc.back ?_
   refine jc.iE (λw R=>R.weaken (lc rfl ln)) 6 #[.string ad] Zf nJ rfl rfl rfl fw rfl rfl<|jc.nil (λw R=>R.weaken (lc rfl ln))<|WE.nx<|WE.inBlock ?_
   exact λa2 w2 _ aa=>⟨_,_,Lc (a.1,(p3,V,p4,W),p,ad),aa,rfl,lc rfl (lc rfl (lc rfl (lc rfl (lc rfl (lc rfl (lc rfl (lc rfl ln))))))),rfl,(a.1,(p3,V,p4,W),p,ad),ax,rfl,aj.mono C,ak.mono C,ao,ap⟩
  replace D:=D.neg aD
  refine mv rfl rfl<|gy rfl rfl (Y0.move rfl) rfl<|gy rfl rfl (Y0.gN 6 ou rfl rfl rfl) rfl<|gy rfl rfl (Y0.Lb rfl rfl) rfl<|yy (Y0.rR rfl rfl) rfl<|WL.nil<|jy.then ?_
  refine jy.cond (b:=Op.bytesLess ad.toList key.toList) rfl (λaF=>?_) (λaF=>?_)
  .replace D:=D.pos aF
   replace D:_=az:=D
   subst D
   refine jy.nv (xO xP) rfl [(7,some ⟨b7,.cells (oT p) 42 (0,0),0⟩)] (lc rfl ln) [false,true,true] gp (by kernel_rfl) (λhb=>?_)
   refine cn (λ_ y=>Y0.js 8 kA rfl rfl rfl) ?_
   refine η.k8 Zf (Y0.js 7 mQ rfl rfl (ZG _ _ _))<|η.k8 Zf (Y0.move rfl) ?_
   refine η.lE hb<|jc.one (λw R=>R.weaken (lc rfl ln)) ?_
   refine WL.jw 4 Zf mC rfl rfl rfl rfl rfl (Ĕ.1 rfl)<|jc.back<|jc.one (λw R=>R.weaken (lc rfl ln)) ?_
   refine WL.jw 5 Zf n4 rfl rfl rfl (ZG _ _ _) (ZG _ _ _) (λu hu=>zv _ _ _ (λ_=>rfl) u (by simpa using hu))<|jc.back ?_
   refine jc.iE (λw R=>R.weaken (lc rfl ln)) 6 #[.string ad] Zf nJ rfl rfl rfl fw rfl rfl<|jc.nil (λw R=>R.weaken (lc rfl ln))<|WE.nx<|WE.inBlock ?_
   exact λa2 w2 _ aa=>⟨_,_,Lc (a.1,(p3,V,p4,W),p,ad),aa,rfl,lc rfl (lc rfl (lc rfl (lc rfl (lc rfl (lc rfl (lc rfl (lc rfl ln))))))),rfl,(a.1,(p3,V,p4,W),p,ad),ax,rfl,aj.mono C,ak.mono C,ao,ap⟩
  replace D:=D.neg (aai.1 aF)
  replace D:_=az:=D
  subst D
  refine jy.skip<|WE.inBlock ?_
  exact λa2 w2 _ aa=>⟨_,_,Lc (c,q,f,key),aa,rfl,lc rfl (lc rfl (lc rfl (lc rfl (lc rfl (lc rfl (lc rfl (lc rfl ln))))))),rfl,(c,q,f,key),ax,rfl,aj.mono C,ak.mono C,aG.mono C,aH.mono C⟩
 .intro q hq x hx
  simp only[Lc,ą,ĝ,ŝ] at hq
  rcases hq with rfl|rfl|rfl|rfl|rfl|rfl|rfl|rfl <;> cases hx <;> rfl
 obtain⟨rfl,⟨c,q,f,key⟩,hI,rfl,bk,bl,aO,aP⟩:=Z
 dsimp only at hI aO aP
 rw[ũ] at hI
 replace hI:(c,f,key)=aL:=hI
 subst hI
 refine⟨rfl,pg.seq<|pg.nv [(5,some ⟨b5,.cells (oT f) 42 (0,0),0⟩)] (lc rfl ln) [false,true] gp (by kernel_rfl) (λhb=>?_)⟩
 refine cn (λ_ y=>Y0.js 4 kA rfl rfl rfl) ?_
 refine η.k8 Zf (Y0.js 5 mQ rfl rfl (ZG _ _ _)) ?_
 refine η.lE hb<|jc.one (λw R=>R.weaken (lc rfl ln)) ?_
 refine WL.jw 2 Zf mC rfl rfl rfl rfl rfl (Ĕ.1 rfl)<|jc.back<|jc.one (λw R=>R.weaken (lc rfl ln)) ?_
 refine WL.jw 3 Zf n4 rfl rfl rfl (ZG _ _ _) (ZG _ _ _) (λu hu=>zv _ _ _ (λ_=>rfl) u (by simpa using hu))<|jc.back<|jc.nil (λw R=>R.weaken (lc rfl ln))<|WE.nx<|pg.then<|pg.ret ?_
 refine WE.CT (rvs:=[.cell 2 39,.cell 3 42]) [] [.agg (tL c q).toArray,.agg (oT f)] rfl rfl rfl (λi rv v e1 e2=>?_) ln ⟨_,_,_,_,rfl,aO,aP⟩
 match i with
 | 0=>simp at e1 e2; subst e1 e2; exact RV.tE (i:=2) kA rfl rfl rfl
 | 1=>simp at e1 e2; subst e1 e2; exact RV.tE (i:=3) mQ rfl rfl (ZG _ _ _)
 | i+2=>simp at e1
theorem Cu{q K t y i r}(a:(xZ q K).ο r):ò prog 120 #[ε t q y,.int .u64 K] [(5000,i)] (λG=>Η (Rp.int .u8) 5 G (ε t q y) q i) (λG L v=>∃ T W B,L=[(5000,B)]/\v=ε T r W/\Η (Rp.int .u8) 5 G (ε T r W) r B):=by
 refine qz (args:=[_,_]) (N:=21) func120 z z z (λI p C J=>?_)
 have Y:=J
 refine sr<|θ z<|c'<|Z' (X:=(Ŀ Int)×ŀ Addr×Nat×ŀ Ow×Int×Mem) a (λ⟨g,k,o,d,c,f⟩=>⟨(g,c),[(0,ε k g o),(1,.int .u64 c)],Mem.le p f/\Η (Rp.int .u8) 5 f (ε k g o) g d,St I p f [(5000,d)]⟩) (λ(⟨u,x,s,h,j,l⟩:(Ŀ Int)×ŀ Addr×Nat×ŀ Ow×Int×Mem)=>⟨(u,j),[(0,ε x u s),(1,.int .u64 j)],Mem.le p l/\Η (Rp.int .u8) 5 l (ε x u s) u h,St I p l [(5000,h)]⟩) ⟨q,t,y,i,K,p⟩ z (υ z) ⟨mr,Y⟩ (w1 z) ?_ ?_
 .rintro _ ⟨g,k,o,d,c,f⟩ ⟨n,D⟩ a
  refine c'<|sr<|δ z<|γ (kr z z)<|nx<|J' a z (λZ a=>?_) (λZ a=>?_)
  .refine o'<|a'<|V'<|sr<|δ z<|δ z<|γ (oI z z (by decide))<|γ (jF Y' pJ z)<|é z<|jL (e:=5) (r:=(Rp.int .u8)) (vs:=#[(0,.int .u8 (u8.wrap ((u8.wrap (Int.tmod c 128))+128)))]) (cs:=[.int .u8 (u8.wrap ((u8.wrap (Int.tmod c 128))+128))]++([])) ([u8.wrap ((u8.wrap (Int.tmod c 128))+128)]:Ŀ Int) z z z z z (by decide) (λ_=>by kernel_rfl) ⟨[.int .u8 (u8.wrap ((u8.wrap (Int.tmod c 128))+128))],[],z,z,z⟩ (key:=999) z (by rw[C]; rfl) (λp3 R m U=>?_)
   refine oA a λF a=>wF (r:=(Rp.int .u8)) (e:=5) 5000 z z KV zZ z (by decide) z z (D.mono m) z U F λp4 P E w=>θ z<|p'<|δ z<|γ (yu z z (by decide))<|ς z<|q'<|A'<|K' ⟨(g++[u8.wrap ((u8.wrap (Int.tmod c 128))+128)]),p4,P,E,u64.wrap (Int.tdiv c 128),R⟩ a ⟨(mx n m),w⟩ (υ z) (w1 z)
  refine Æ<|g'<|g'<|H'<|Ë ⟨g,k,o,d,c,f⟩ ⟨a,n,D⟩ (υ z) (w1 z)
 rintro⟨u,x,s,h,j,l⟩ ⟨a,ab,Q⟩
 refine a'<|sr<|δ z<|δ z<|γ (jF Y' pJ z)<|jL (e:=5) (r:=(Rp.int .u8)) (vs:=#[(0,.int .u8 (u8.wrap j))]) (cs:=[.int .u8 (u8.wrap j)]++([])) ([u8.wrap j]:Ŀ Int) z z z z z (by decide) (λ_=>by kernel_rfl) ⟨[.int .u8 (u8.wrap j)],[],z,z,z⟩ (key:=999) z (by rw[C]; rfl) (λp1 O A S=>?_)
 refine oA a λM a=>wF (r:=(Rp.int .u8)) (e:=5) 5000 z z KV zZ z (by decide) z z (Q.mono A) z S M λp2 ad H V=>θ z<|m' ?_
 obtain rfl:_=r:=a
 refine oZ (S':=St I p O [(5000,H)]) (w1 z)<|k' z z ⟨_,_,_,z,z,V⟩
theorem gh'{e t g i d r}(a:(Oy e t).ο r):ò prog 71 #[ε g e i,i' t] [(5000,d)] (λG=>Η (Rp.int .u8) 5 G (ε g e i) e d) (λG L v=>∃ s u h,L=[(5000,h)]/\v=ε s r u/\Η (Rp.int .u8) 5 G (ε s r u) r h):=by
 refine qz (args:=[_,_]) (N:=20) func71 z z z (λq E y l=>?_)
 have j:=l
 have w:q.L.zero:=by
  rw[y]; intro p o x I
  simp only[ą,ĝ,ŝ] at o
  subst o; exact wK j I
 refine sr<|θ z<|c'<|sr<|δ z<|Ï z<|nx<|J' a z (λA a=>?_) (λA a=>?_)
 .exact (show False from a).elim
 refine o'<|a'<|sr<|δ z<|δ z<|γ (jF nQ Y' z)<|γ (vp z z)<|oE a λJ m a=>nO z z (x' sU z) (Cu m) z (j) (lc z ln) w (λD n C B c=>?_)
 obtain⟨H,F,f,rfl,rfl,k⟩:=c
 refine θ z<|m' ?_
 obtain rfl:_=r:=a
 refine oZ (S':=St q E n [(5000,f)]) (w1 z)<|k' z z ⟨_,_,_,z,z,k⟩
theorem Sv{A C F M s i g r}(a:(Bk A C).ο r):ò prog 231 #[ε F A M,.agg ((ι C i g)).toArray] [(5000,s)] (λG=>Η (Rp.int .u8) 5 G (ε F A M) A s/\sl (Rp.int .u32) G i g C.Α) (λG L v=>∃ zp zc R,L=[(5000,R)]/\v=ε zp r zc/\Η (Rp.int .u8) 5 G (ε zp r zc) r R):=by
 refine qz (args:=[_,_]) (N:=46) func231 z z z (λI o V ac=>?_)
 obtain⟨U,d⟩:=ac
 have hz:I.L.zero:=by
  rw[V]; intro p hp x hx
  simp only[ą,ĝ,ŝ] at hp
  subst hp; exact wK U hx
 refine sr<|ý 3 z z z λP=>ς z<|nr<|θ z<|k5 a (λ(⟨w,J⟩:Int×Mem)=>⟨[(0,ε F A M),(3,Τ P),(5,.int .u64 w)],DK A C w,Mem.le o J,St I o J [(3,Ξ P (ι C i g) 95),(5000,s)]⟩) ?_ ?_
 .refine sr<|γ (mM z)<|γ (f' 3 kX z z z)<|nx<|iC a z (λai a=>?_) (λai a=>?_)
  .refine p'<|ς z<|q'<|ia ⟨1,o⟩ ⟨a,mr⟩ (υ z) (w2 z z)
  refine o'<|ia ⟨0,o⟩ ⟨a,mr⟩ (υ z) (w2 z z)
 rintro⟨w,J⟩ ⟨a,f⟩
 refine sr<|δ z<|γ (jk z)<|γ (f' 3 jm z z z)<|γ (N' t' (d.mono f) z)<|γ (jF nQ Y' z)<|γ (vp z z)<|δ z<|é z<|oE a λaf ae a=>nO z z (x' sU z) (Cu ae) z ((U.mono f)) (lc z ln) hz (λav D au k B=>?_)
 obtain⟨Z,Y,O,rfl,rfl,W⟩:=B
 refine θ z<|c'<|sr<|θ z<|Z' (X:=(Ŀ Int)×ŀ Addr×Nat×ŀ Ow×Int×Mem) a (λ⟨q,t,u,l,Q,m⟩=>⟨(q,Q),[(0,ε t q u),(3,Τ P),(6,i' Q)],Mem.le D m/\Η (Rp.int .u8) 5 m (ε t q u) q l,St I o m [(3,Ξ P (ι C i g) 95),(5000,l)]⟩) (λ(⟨E,H,K,j,n⟩:(Ŀ Int)×ŀ Addr×Nat×ŀ Ow×Mem)=>⟨E,[(0,ε H E K)],Mem.le D n/\Η (Rp.int .u8) 5 n (ε H E K) E j,St I o n [(5000,j)]⟩) ⟨af,Z,Y,O,0,D⟩ z (υ z) ⟨mr,W⟩ (w2 z z) ?_ ?_
 .rintro _ ⟨q,t,u,l,Q,m⟩ ⟨h,T⟩ a
  refine c'<|sr<|δ z<|γ (jk z)<|γ (f' 3 jm z z z)<|γ (N' t' (d.mono (mx (mx f k) h)) z)<|Ï z<|nx<|J' a z (λap a=>?_) (λap a=>?_)
  .refine o'<|a'<|c'<|V'<|sr<|γ (jk z)<|γ (f' 3 jm z z z)<|δ z<|oE a λc S a=>γ (X' t' kz (d.mono (mx (mx f k) h)) z z S)<|γ (il nD z (lH (R' (Á d S) (mx (mx f k) h))))<|θ z<|p'<|δ z<|δ z<|γ (uR z z (by decide))<|γ (jF nq pJ z)<|δ z<|γ (uR z z (by decide))<|γ (jF nq pJ z)<|δ z<|γ (uR z z (by decide))<|γ (jF nq pJ z)<|δ z<|γ (jF nq pJ z)<|jL (e:=5) (r:=(Rp.int .u8)) (vs:=#[(0,.int .u8 (u8.wrap (Int.fdiv c (2 ^ (min (24:Int).toNat u32.bits))))),(1,.int .u8 (u8.wrap (Int.fdiv c (2 ^ (min (16:Int).toNat u32.bits))))),(2,.int .u8 (u8.wrap (Int.fdiv c (2 ^ (min (8:Int).toNat u32.bits))))),(3,.int .u8 (u8.wrap c))]) (cs:=[.int .u8 (u8.wrap (Int.fdiv c (2 ^ (min (24:Int).toNat u32.bits))))]++([.int .u8 (u8.wrap (Int.fdiv c (2 ^ (min (16:Int).toNat u32.bits))))]++([.int .u8 (u8.wrap (Int.fdiv c (2 ^ (min (8:Int).toNat u32.bits))))]++([.int .u8 (u8.wrap c)]++([]))))) ([u8.wrap (Int.fdiv c (2 ^ (min (24:Int).toNat u32.bits))),u8.wrap (Int.fdiv c (2 ^ (min (16:Int).toNat u32.bits))),u8.wrap (Int.fdiv c (2 ^ (min (8:Int).toNat u32.bits))),u8.wrap c]:Ŀ Int) z z z z z (by decide) (λ_=>by kernel_rfl) ⟨[.int .u8 (u8.wrap (Int.fdiv c (2 ^ (min (24:Int).toNat u32.bits))))],[.int .u8 (u8.wrap (Int.fdiv c (2 ^ (min (16:Int).toNat u32.bits))))]++([.int .u8 (u8.wrap (Int.fdiv c (2 ^ (min (8:Int).toNat u32.bits))))]++([.int .u8 (u8.wrap c)]++([]))),z,z,⟨[.int .u8 (u8.wrap (Int.fdiv c (2 ^ (min (16:Int).toNat u32.bits))))],[.int .u8 (u8.wrap (Int.fdiv c (2 ^ (min (8:Int).toNat u32.bits))))]++([.int .u8 (u8.wrap c)]++([])),z,z,⟨[.int .u8 (u8.wrap (Int.fdiv c (2 ^ (min (8:Int).toNat u32.bits))))],[.int .u8 (u8.wrap c)]++([]),z,z,⟨[.int .u8 (u8.wrap c)],[],z,z,z⟩⟩⟩⟩ (key:=999) z (by rw[V]; rfl) (λp1 aj y al=>?_)
   refine oA a λad a=>wF (r:=(Rp.int .u8)) (e:=5) 5000 z z KV zZ z (by decide) z z (T.mono y) z al ad λp2 ag aa ao=>ς z<|q'<|A'<|a'<|p'<|δ z<|é z<|ς z<|q'<|K' ⟨(q++[u8.wrap (Int.fdiv c (2 ^ (min (24:Int).toNat u32.bits))),u8.wrap (Int.fdiv c (2 ^ (min (16:Int).toNat u32.bits))),u8.wrap (Int.fdiv c (2 ^ (min (8:Int).toNat u32.bits))),u8.wrap c]),p2,ag,aa,i64.wrap (Q+1),aj⟩ a ⟨(mx h y),ao⟩ (υ z) (w2 z z)
  refine Æ<|g'<|g'<|H'<|Ë ⟨q,t,u,l,m⟩ ⟨a,h,T⟩ (f1 z) (w1 z)
 rintro⟨E,H,K,j,n⟩ ⟨a,aq,am⟩
 refine a'<|sr<|δ z<|θ z<|m' ?_
 obtain rfl:_=r:=a
 refine oZ (S':=St I o n [(5000,j)]) (w1 z)<|k' z z ⟨_,_,_,z,z,am⟩
theorem fP'{s h y B q f c e d r}(a:(M8 s h).ο r):ò prog 187 #[ε y s B,.agg ((χ h f c e d)).toArray] [(5000,q)] (λG=>Η (Rp.int .u8) 5 G (ε y s B) s q/\sl (Rp.int .u32) G f c h.num.Α/\sl (Rp.int .u32) G e d h.den.Α) (λG L v=>∃ P Q A,L=[(5000,A)]/\v=ε P r Q/\Η (Rp.int .u8) 5 G (ε P r Q) r A):=by
 refine qz (args:=[_,_]) (N:=12) func187 z z z (λM X R H=>?_)
 obtain⟨D,j,i⟩:=H
 have hz:M.L.zero:=by
  rw[R]; intro p K x hx
  simp only[ą,ĝ,ŝ] at K
  subst K; exact wK D hx
 refine sr<|ý 3 z z z λb2=>θ z<|c'<|WC.rL (l:=mO [0,1,2,4,5,3,6,7] _) (PT (by kernel_rfl)) [(3,Ξ b2 (χ h f c e d) 97)] (lc z ln) [ff,ff,ff,tt,tt] gp (by kernel_rfl) λt=>ù z<|cn (λ_ C=>pn z)<|cn (λ_ C=>gZ ((ι h.num f c)).toArray 3 Ò z z z (hC ([]) ((ι h.num f c)) ((ι h.den e d))))<|sP z (oy z)<|sP z (gZ ((ι h.den e d)).toArray 3 Ò z z z (hC ((ι h.num f c)) ((ι h.den e d)) ([])))<|η.lE t<|vo (λw k=>k.weaken (lc z ln))<|oE a λag J a=>nO z z (x' Av z) (Sv J) z (⟨D,j⟩) (lc z ln) hz (λU ae T g n=>?_)
 obtain⟨Z,Y,S,rfl,rfl,F⟩:=n
 refine vr<|vo (λw k=>(k.jt t g).weaken (lc z ln))<|oE a λaf E a=>nO z z (x' Av z) (Sv E) z (⟨F,(i.mono g)⟩) (lc z ln) hz (λad O ac m o=>?_)
 obtain⟨V,W,u,rfl,rfl,I⟩:=o
 refine vr<|jc.y0 (λw k=>(k.jt t (mx g m)).weaken (lc z ln)) z (Y0.assign z) z<|jc.nil (λw k=>(k.jt t (mx g m)).weaken (lc z ln))<|fh<|a'<|m' ?_
 obtain rfl:_=r:=a
 refine oZ (S':=St M X O [(5000,u)]) (w1 z)<|k' z z ⟨_,_,_,z,z,I⟩
theorem gw'{w M ah ao S n t r}(a:(Jp w M).ο r):ò prog 121 #[ε ah w ao,ε n M t] [(5000,S)] (λG=>Η (Rp.int .u8) 5 G (ε ah w ao) w S/\sl n' G n t M) (λG L v=>∃ zp zc ar,L=[(5000,ar)]/\v=ε zp r zc/\Η (Rp.int .u8) 5 G (ε zp r zc) r ar):=by
 refine qz (args:=[_,_]) (N:=40) func121 z z z (λO U aM aG=>?_)
 obtain⟨aj,f⟩:=aG
 have hz:O.L.zero:=by
  rw[aM]; intro p hp x hx
  simp only[ą,ĝ,ŝ] at hp
  subst hp; exact wK aj hx
 refine sr<|ς z<|nr<|δ z<|δ z<|γ (N' F' f z)<|γ (jF nQ Y' z)<|oE a λaR az a=>nO z z (x' sU z) (Cu az) z (aj) (lc z ln) hz (λa1 T aZ d I=>?_)
 obtain⟨aF,ax,Z,rfl,rfl,aC⟩:=I
 refine θ z<|c'<|sr<|θ z<|Z' (X:=(Ŀ Int)×ŀ Addr×Nat×ŀ Ow×Int×Mem) a (λ⟨F,B,C,j,J,s⟩=>⟨(F,J),[(0,ε B F C),(1,ε n M t),(5,i' J)],Mem.le T s/\Η (Rp.int .u8) 5 s (ε B F C) F j,St O U s [(5000,j)]⟩) (λ(⟨Y,V,W,k,u⟩:(Ŀ Int)×ŀ Addr×Nat×ŀ Ow×Mem)=>⟨Y,[(0,ε V Y W)],Mem.le T u/\Η (Rp.int .u8) 5 u (ε V Y W) Y k,St O U u [(5000,k)]⟩) ⟨aR,aF,ax,Z,0,T⟩ z (υ z) ⟨mr,aC⟩ (w1 z) ?_ ?_
 .rintro _ ⟨F,B,C,j,J,s⟩ ⟨c,ai⟩ a
  refine c'<|sr<|δ z<|δ z<|γ (N' F' (f.mono (mx d c)) z)<|Ï z<|nx<|J' a z (λaU a=>?_) (λaU a=>?_)
  .refine o'<|a'<|c'<|V'<|sr<|δ z<|δ z<|δ z<|oE a λx1 au a=>γ (X' F' jA (f.mono (mx d c)) z z au)<|γ (oq z) ?_
   obtain⟨am,ap,aq,al,aJ,q,o⟩:=wI (R' (qO (mi (Á f au))) (mx d c))
   refine γ (jC _ kf z z aJ)<|oE a λaN aA a=>nO z z (x' Gy z) (fP' aA) z (⟨ai,q,o⟩) (lc z ln) hz (λa0 R aY h Q=>?_)
   obtain⟨aB,av,ac,rfl,rfl,aH⟩:=Q
   refine ς z<|nr<|θ z<|Z' (X:=(Ŀ Int)×ŀ Addr×Nat×ŀ Ow×Int×Mem) a (λ⟨H,y,E,i,k1,m⟩=>⟨(H,k1),[(0,ε y H E),(1,ε n M t),(5,i' J),(6,i' k1)],Mem.le R m/\Η (Rp.int .u8) 5 m (ε y H E) H i,St O U m [(5000,i)]⟩) (λ(⟨P,A,D,g,l⟩:(Ŀ Int)×ŀ Addr×Nat×ŀ Ow×Mem)=>⟨P,[(0,ε A P D),(1,ε n M t),(5,i' J)],Mem.le R l/\Η (Rp.int .u8) 5 l (ε A P D) P g,St O U l [(5000,g)]⟩) ⟨aN,aB,av,ac,0,R⟩ z (υ z) ⟨mr,aH⟩ (w1 z) ?_ ?_
   .rintro _ ⟨H,y,E,i,k1,m⟩ ⟨e,an⟩ a
    refine c'<|sr<|δ z<|Ï z<|nx<|J' a z (λaO a=>?_) (λaO a=>?_)
    .refine o'<|a'<|c'<|V'<|p'<|δ z<|δ z<|δ z<|δ z<|oE a λx2 ag a=>γ (X' F' jA (f.mono (mx (mx (mx d c) h) e)) z z ag)<|γ (lV z)<|oA a λak a=>γ (Y0.vB lK gh z z ak)<|γ (il ñ z (AtK.rZ (R' (pP (mi (Á f ag))) (mx (mx (mx d c) h) e)) ak))<|γ (jF nQ Y' z)<|oE a λaP aD a=>nO z z (x' sU z) (Cu aD) z (an) (lc z ln) hz (λaW aQ a2 af K=>?_)
     obtain⟨aw,aE,ad,rfl,rfl,ay⟩:=K
     refine ς z<|q'<|A'<|a'<|p'<|δ z<|é z<|ς z<|q'<|K' ⟨aP,aw,aE,ad,i64.wrap (k1+1),aQ⟩ a ⟨(mx e af),ay⟩ (υ z) (w1 z)
    refine Æ<|g'<|g'<|H'<|Ë ⟨H,y,E,i,m⟩ ⟨a,e,an⟩ (υ z) (w1 z)
   rintro⟨P,A,D,g,l⟩ ⟨a,aa,aI⟩
   refine A'<|a'<|p'<|δ z<|é z<|ς z<|q'<|K' ⟨P,A,D,g,i64.wrap (J+1),l⟩ a ⟨(mx (mx c h) aa),aI⟩ (υ z) (w1 z)
  refine Æ<|g'<|g'<|H'<|Ë ⟨F,B,C,j,s⟩ ⟨a,c,ai⟩ (f1 z) (w1 z)
 rintro⟨Y,V,W,k,u⟩ ⟨a,aV,aS⟩
 refine a'<|sr<|δ z<|θ z<|m' ?_
 obtain rfl:_=r:=a
 refine oZ (S':=St O U u [(5000,k)]) (w1 z)<|k' z z ⟨_,_,_,z,z,aS⟩
theorem Sw{B I J O A y u r}(a:(D9 B I).ο r):ò prog 70 #[ε J B O,ε y I u] [(5000,A)] (λG=>Η (Rp.int .u8) 5 G (ε J B O) B A/\sl (Rp.sl n') G y u I) (λG L v=>∃ zp zc K,L=[(5000,K)]/\v=ε zp r zc/\Η (Rp.int .u8) 5 G (ε zp r zc) r K):=by
 refine qz (args:=[_,_]) (N:=24) func70 z z z (λE U al Z=>?_)
 obtain⟨Q,i⟩:=Z
 have w:E.L.zero:=by
  rw[al]; intro p hp x hx
  simp only[ą,ĝ,ŝ] at hp
  subst hp; exact wK Q hx
 refine sr<|ς z<|nr<|δ z<|δ z<|γ (N' Ζ i z)<|γ (jF nQ Y' z)<|oE a λad ab a=>nO z z (x' sU z) (Cu ab) z (Q) (lc z ln) w (λap o ao f m=>?_)
 obtain⟨Y,W,D,rfl,rfl,V⟩:=m
 refine θ z<|c'<|sr<|θ z<|Z' (X:=(Ŀ Int)×ŀ Addr×Nat×ŀ Ow×Int×Mem) a (λ⟨l,j,k,d,H,g⟩=>⟨(l,H),[(0,ε j l k),(1,ε y I u),(5,i' H)],Mem.le o g/\Η (Rp.int .u8) 5 g (ε j l k) l d,St E U g [(5000,d)]⟩) (λ(⟨s,t,q,e,h⟩:(Ŀ Int)×ŀ Addr×Nat×ŀ Ow×Mem)=>⟨s,[(0,ε t s q)],Mem.le o h/\Η (Rp.int .u8) 5 h (ε t s q) s e,St E U h [(5000,e)]⟩) ⟨ad,Y,W,D,0,o⟩ z (υ z) ⟨mr,V⟩ (w1 z) ?_ ?_
 .rintro _ ⟨l,j,k,d,H,g⟩ ⟨c,P⟩ a
  refine c'<|sr<|δ z<|δ z<|γ (N' Ζ (i.mono (mx f c)) z)<|Ï z<|nx<|J' a z (λam a=>?_) (λam a=>?_)
  .refine o'<|a'<|c'<|V'<|p'<|δ z<|δ z<|δ z<|oE a λx1 M a=>γ (X' Ζ iG (i.mono (mx f c)) z z M) ?_
   obtain⟨p1,av,ag,ai⟩:=qA (R' (Á i M) (mx f c))
   refine γ (il ij z (ag))<|oE a λac R a=>nO z z (x' F8 z) (gw' R) z (⟨P,ai⟩) (lc z ln) w (λau ah ar F n=>?_)
   obtain⟨S,T,C,rfl,rfl,aa⟩:=n
   refine ς z<|q'<|A'<|a'<|p'<|δ z<|é z<|ς z<|q'<|K' ⟨ac,S,T,C,i64.wrap (H+1),ah⟩ a ⟨(mx c F),aa⟩ (υ z) (w1 z)
  refine Æ<|g'<|g'<|H'<|Ë ⟨l,j,k,d,g⟩ ⟨a,c,P⟩ (f1 z) (w1 z)
 rintro⟨s,t,q,e,h⟩ ⟨a,an,ae⟩
 refine a'<|sr<|δ z<|θ z<|m' ?_
 obtain rfl:_=r:=a
 refine oZ (S':=St E U h [(5000,e)]) (w1 z)<|k' z z ⟨_,_,_,z,z,ae⟩
theorem Oq(y:(Ŀ Int))(q:Zm)(B:ŀ Addr)(D:Nat)(u:ŀ Ow)(g:ŀ Addr)(h:Nat)(d:ŀ Addr)(e:Nat)(r:(Ŀ Int))(a:(BF y q).ο r):ò prog 31 #[ε B y D,.agg ((l8 q g h d e)).toArray] [(5000,u)] (λG=>Η (Rp.int .u8) 5 G (ε B y D) y u/\sl (Rp.sl n') G g h q.eqs/\sl (Rp.sl n') G d e q.ζ) (λG L v=>∃ S U C,L=[(5000,C)]/\v=ε S r U/\Η (Rp.int .u8) 5 G (ε S r U) r C):=by
 refine qz (args:=[_,_]) (N:=15) func31 z z z (λR G0 V M=>?_)
 obtain⟨F,s,n⟩:=M
 have hz:R.L.zero:=by
  rw[V]; intro p Q x hx
  simp only[ą,ĝ,ŝ] at Q
  subst Q; exact wK F hx
 refine sr<|ý 3 z z z λb2=>θ z<|c'<|WC.rL (l:=mO [0,1,2,4,5,7,8,3,6,9,10] _) (PT (by kernel_rfl)) [(3,Ξ b2 (l8 q g h d e) 39)] (lc z ln) [ff,ff,ff,tt,tt,tt,tt] gp (by kernel_rfl) λt=>ù z<|cn (λ_ E=>Y0.ye z)<|cn (λ_ E=>f' 3 ñ z z z)<|sP z (Y0.BR z)<|sP z (f' 3 lg z z z)<|sP z (Y0.BS z)<|sP z (f' 3 lg z z z)<|η.lE t<|vo (λw i=>i.weaken (lc z ln))<|oE a λap P a=>nO z z (x' Ta z) (gh' P) z (F) (lc z ln) hz (λZ an Y c m=>?_)
 obtain⟨ah,ae,X,rfl,rfl,K⟩:=m
 refine vr<|vo (λw i=>(i.jt t c).weaken (lc z ln))<|oE a λao H a=>nO z z (x' L9 z) (Sw H) z (⟨K,(s.mono c)⟩) (lc z ln) hz (λam ar al f o=>?_)
 obtain⟨aa,ab,W,rfl,rfl,O⟩:=o
 refine vr<|vo (λw i=>(i.jt t (mx c f)).weaken (lc z ln))<|oE a λaq J a=>nO z z (x' L9 z) (Sw J) z (⟨O,(n.mono (mx c f))⟩) (lc z ln) hz (λai T af j k=>?_)
 obtain⟨ac,ag,A,rfl,rfl,I⟩:=k
 refine vr<|jc.y0 (λw i=>(i.jt t (mx (mx c f) j)).weaken (lc z ln)) z (Y0.assign z) z<|jc.nil (λw i=>(i.jt t (mx (mx c f) j)).weaken (lc z ln))<|fh<|a'<|m' ?_
 obtain rfl:_=r:=a
 refine oZ (S':=St R G0 T [(5000,A)]) (w1 z)<|k' z z ⟨_,_,_,z,z,I⟩
theorem Vn(a1 C:Zm)(l:ŀ Addr)(j:Nat)(g:ŀ Addr)(d:Nat)(n:ŀ Addr)(m:Nat)(i:ŀ Addr)(h:Nat)(r:Bool)(H:(HM a1 C).ο r):ä prog 10 #[.agg ([.int .i64 a1.n,.slice l a1.eqs.length j,.slice g a1.ζ.length d]).toArray,.agg ([.int .i64 C.n,.slice n C.eqs.length m,.slice i C.ζ.length h]).toArray] (λG=>ë (Rp.sl Zo) G (.slice l a1.eqs.length j) a1.eqs/\ë (Rp.sl Zo) G (.slice g a1.ζ.length d) a1.ζ/\ë (Rp.sl Zo) G (.slice n C.eqs.length m) C.eqs/\ë (Rp.sl Zo) G (.slice i C.ζ.length h) C.ζ) (λG v=>v = .bool r):=by
 refine ä.enter (args:=[_,_]) (N:=14) func10 rfl rfl rfl (λw0 G0 Q F=>?_)
 obtain⟨t,q,w,s⟩:=F
 refine sr ?_
 refine WL.box 2 Zf rfl rfl (λO=>?_)
 refine WL.box 3 Zf rfl rfl (λP=>?_)
 refine sg rfl rfl<|nx<|WC.seq ?_
 obtain⟨A,I,B,J,H⟩:=H
 replace H:_=r:=H
 subst H
 refine WC.drawn [false,false,false,false,false,false,false,false,false] gp (by kernel_rfl) (λU=>?_)
 refine η.pW (r:=Rp.int .u8) (e:=5) ([]:Ŀ Int) (λ_=>Zf) rfl (by decide) (λu G' a y=>?_) ?_
 .exact⟨#[],[],rfl,rfl,λ_=>by kernel_rfl,rfl⟩
 refine cu (λ_ _ a=>Y0.js 2 kA rfl rfl rfl) ?_
 refine η.qB (f:=31) (kk:=5) (r:=Rp.int .u8) (e:=5) (xs:=([]:Ŀ Int)) (r':=Rp.int .u8) (e':=5) A (λ_=>Zf) rfl (by kernel_rfl) (by kernel_rfl) (λu G' a y=>?_) ?_
 .obtain⟨K,_⟩:=(show (kZ (Rp.int .u8) 5 5 ([]:Ŀ Int)) (u 5) G'/\True from y)
  exact⟨u 5,K,λp c tk E D=>⟨_,_,_,λ_=>YC.of LV rfl,Oq _ _ p c tk _ _ _ _ _ I,by simp only[ψ,E] <;> rfl,D,t.mono a,q.mono a⟩⟩
 refine η.za (c:=.string (bytesOf A)) (λ_=>Zf) (λu G' a y=>?_) ?_
 .obtain⟨⟨p,c,E,D⟩,_⟩:=(show Di (Rp.int .u8) A G'.m (u 7)/\_ from y)
  simp only[ψ,E]
  exact Y0.q0 underlying89 underlying5 underlying9 D rfl
 refine η.pW (r:=Rp.int .u8) (e:=5) ([]:Ŀ Int) (λ_=>Zf) rfl (by decide) (λu G' a y=>?_) ?_
 .exact⟨#[],[],rfl,rfl,λ_=>by kernel_rfl,rfl⟩
 refine cu (λ_ _ a=>Y0.js 3 kA rfl rfl rfl) ?_
 refine η.qB (f:=31) (kk:=9) (r:=Rp.int .u8) (e:=5) (xs:=([]:Ŀ Int)) (r':=Rp.int .u8) (e':=5) B (λ_=>Zf) rfl (by kernel_rfl) (by kernel_rfl) (λu G' a y=>?_) ?_
 .obtain⟨K,_⟩:=(show (kZ (Rp.int .u8) 5 9 ([]:Ŀ Int)) (u 9) G'/\_ from y)
  exact⟨u 9,K,λp c tk E D=>⟨_,_,_,λ_=>YC.of LV rfl,Oq _ _ p c tk _ _ _ _ _ J,by simp only[ψ,E] <;> rfl,D,w.mono a,s.mono a⟩⟩
 refine η.za (c:=.string (bytesOf B)) (λ_=>Zf) (λu G' a y=>?_) ?_
 .obtain⟨⟨p,c,E,D⟩,_⟩:=(show Di (Rp.int .u8) B G'.m (u 11)/\_ from y)
  simp only[ψ,E]
  exact Y0.q0 underlying89 underlying5 underlying9 D rfl
 refine η.Dc (c:=.bool (decide (bytesOf A=bytesOf B))) (λ_=>Zf) (λu G' a=>Y0.vw underlying9 rfl rfl) ?_
 refine η.rq (λZ Y W V X L T S R D=>?_)
 refine WL.FU (show WL _ _ _ _ _ _ (St w0 G0 X.m _) from ?_)
 refine sg rfl rfl<|WL.nil<|WE.nx<|WE.then<|WC.ret ?_
 exact WE.mw rfl rfl rfl
theorem zX{h g f r}(a:(xT h).ο r):ä prog 192 #[ε g h f] (λG=>sl (Rp.int .u32) G g f h) (jx (Rp.int .u32) r):=by
 refine E' (args:=[_]) (N:=21) func192 z z z (λq j x n=>?_)
 have e:=n
 refine sr<|ς z<|nr<|δ z<|γ (N' t' e z)<|θ z<|c'<|Z' (X:=Int×Mem) a (λ⟨i,d⟩=>⟨i,[(0,ε g h f),(3,i' i)],Mem.le j d,St q j d []⟩) (λ(⟨o,k⟩:Int×Mem)=>⟨o,[(0,ε g h f),(3,i' o)],Mem.le j k,St q j k []⟩) ⟨(h.length:Int),j⟩ z (υ z) mr (wk ln) ?_ ?_
 .rintro _ ⟨i,d⟩ c a
  refine c'<|sr<|δ z<|eZ a z (kr z z) z (λt a=>?_) (λt a=>?_)
  .refine δ z<|Â z<|Â z<|gy z z (nU z z) z<|oE a λA m a=>gy z z (X' t' kz (e.mono c) z z m) z<|gy z z (il nD z (lH (R' (Á e m) c))) z<|gy z z (iI z z) z<|Δ z<|nx<|J' a z (λu a=>?_) (λu a=>?_)
   .refine o'<|a'<|V'<|p'<|δ z<|γ (nU z z)<|ς z<|q'<|A'<|K' ⟨i64.wrap (i-1),d⟩ a c (υ z) (wk ln)
   refine Æ<|g'<|g'<|H'<|Ë ⟨i,d⟩ ⟨a,c⟩ (υ z) (wk ln)
  refine δ z<|qK z<|Γ z<|nx<|lJ z<|Æ<|g'<|g'<|H'<|Ë ⟨i,d⟩ ⟨a,c⟩ (υ z) (wk ln)
 rintro⟨o,k⟩ ⟨a,l⟩
 refine a'<|sr<|δ z<|δ z<|oA a λp a=>WL.rV (r:=(Rp.int .u32)) z z t' kz z (e.mono l) z z p λy v s=>θ z<|m' ?_
 obtain rfl:_=r:=a
 exact k' z z ⟨_,_,z,s⟩
theorem FL{c r}(a:(Bj c).ο r):ä prog 127 #[.int .u64 c] (λG=>True) (jx (Rp.int .u32) r):=by
 refine E' (args:=[_]) (N:=11) func127 z z z λv t i o=>sr<|ς z<|nr<|δ z<|γ (oI z z (by decide))<|γ (jF Y' nq z)<|δ z<|γ (yu z z (by decide))<|γ (jF Y' nq z)<|jL (e:=250) (r:=(Rp.int .u32)) (vs:=#[(0,.int .u32 (u32.wrap (Int.tmod c 4294967296))),(1,.int .u32 (u32.wrap (u64.wrap (Int.tdiv c 4294967296))))]) (cs:=[.int .u32 (u32.wrap (Int.tmod c 4294967296))]++([.int .u32 (u32.wrap (u64.wrap (Int.tdiv c 4294967296)))]++([]))) ([u32.wrap (Int.tmod c 4294967296),u32.wrap (u64.wrap (Int.tdiv c 4294967296))]:Ŀ Int) z z z z z (by decide) (λ_=>by kernel_rfl) ⟨[.int .u32 (u32.wrap (Int.tmod c 4294967296))],[.int .u32 (u32.wrap (u64.wrap (Int.tdiv c 4294967296)))]++([]),z,z,⟨[.int .u32 (u32.wrap (u64.wrap (Int.tdiv c 4294967296)))],[],z,z,z⟩⟩ (key:=999) z (by rw[i]; rfl) (λu p k h=>?_)
 refine oE a λq g a=>U' z z (x' r8 z) (zX g) z (h) (λl s j d=>?_)
 obtain⟨n,m,rfl,f⟩:=d
 refine θ z<|m' ?_
 obtain rfl:_=r:=a
 exact k' z z ⟨_,_,z,f⟩
theorem vm{h m k j r}(a:(uA h m).ο r):ä prog 126 #[.bool h,ε k m j] (λG=>sl (Rp.int .u32) G k j m) (jb r):=by
 refine E' (args:=[_,_]) (N:=16) func126 z z z (λA y u l=>?_)
 have o:=l
 refine sr<|T' 4 z oe z λx=>nr<|δ z<|oE a λc n a=>U' z z (x' r8 z) (zX n) z (o) (λs t q g=>?_)
 obtain⟨e,d,rfl,f⟩:=g
 refine ς z<|nr<|eZ a z (oM (h' z) (ć Value.bool (nu _))) z (λp a=>?_) (λp a=>?_)
 .refine δ z<|Â z<|gy z z (N' t' f z) z<|gy z z (kr z z) z<|Δ z<|δ z<|γ (iK (vs:=#[(0,.bool (decide (0<(c.length:Int)))),(1,ε e c d)]) (v:=.agg ([.bool (decide (0<(c.length:Int))),ε e c d]).toArray) z z (λ_=>by kernel_rfl))<|ø 4 lx z<|nx<|m' ?_
  obtain rfl:_=r:=a
  exact k' z (hQ (i:=4) Ò z z z) ⟨_,_,z,f⟩
 refine δ z<|lu z<|Γ z<|δ z<|γ (iK (vs:=#[(0,.bool false),(1,ε e c d)]) (v:=.agg ([.bool false,ε e c d]).toArray) z z (λ_=>by kernel_rfl))<|ø 4 lx z<|nx<|m' ?_
 obtain rfl:_=r:=a
 exact k' z (hQ (i:=4) Ò z z z) ⟨_,_,z,f⟩
theorem K4{u r}(a:(Fi u).ο r):ä prog 75 #[i' u] (λG=>True) (jb r):=by
 refine E' (args:=[_]) (N:=16) func75 z z z λY X V K=>sr<|T' 2 z oe z λW=>nx<|c'<|sr<|δ z<|Ï z<|nx<|J' a z (λv a=>?_) (λv a=>?_)
 .refine sr<|δ z<|é z<|γ (Y0.neg z)<|γ (jF FA Y' z)<|é z<|oE a λQ o a=>U' z z (x' uW z) (FL o) z (trivial) (λC M B d=>?_)
  obtain⟨I,F,rfl,n⟩:=d
  refine oE a λO j a=>U' z z (x' pE z) (vm j) z (n) (λL T A g=>?_)
  obtain⟨s,q,rfl,e⟩:=g
  refine ø 2 lx z<|nx<|m'<|b' ?_
  obtain rfl:_=r:=a
  exact k' z (hQ (i:=2) Ò z z z) ⟨_,_,z,e⟩
 refine o'<|a'<|sr<|δ z<|γ (jF FA Y' z)<|oE a λS m a=>U' z z (x' uW z) (FL m) z (trivial) (λJ U y c=>?_)
 obtain⟨D,H,rfl,l⟩:=c
 refine oE a λP k a=>U' z z (x' pE z) (vm k) z (l) (λE R x f=>?_)
 obtain⟨p,t,rfl,h⟩:=f
 refine ø 2 lx z<|nx<|m' ?_
 obtain rfl:_=r:=a
 exact k' z (hQ (i:=2) Ò z z z) ⟨_,_,z,h⟩
theorem FM{q r}(a:(xK q).ο r):ä prog 33 #[i' q] (λG=>True) (lq r):=by
 refine E' (args:=[_]) (N:=7) func33 z z z λE D B u=>sr<|T' 2 z ru z λC=>nr<|δ z<|oE a λm p a=>U' z z (x' Hd z) (K4 p) z (trivial) (λt y s g=>?_)
 obtain⟨c,d,rfl,j⟩:=g
 refine oE a λl o a=>U' z z (x' Hd z) (K4 o) z (trivial) (λx A n k=>?_)
 obtain⟨f,e,rfl,h⟩:=k
 refine γ (iK (vs:=#[(0,.agg ((ι m c d)).toArray),(1,.agg ((ι l f e)).toArray)]) (v:=.agg ([.bool m.neg,ε c m.Α d,.bool l.neg,ε f l.Α e]).toArray) z z (λ_=>by kernel_rfl))<|ø 2 mD z<|nx<|m' ?_
 obtain rfl:_=r:=a
 exact k' z (hQ (i:=2) kf z z z) ⟨_,_,_,_,z,(j.mono n),h⟩
theorem go'{c d r}(a:(Pg c d).ο r):ä prog 34 #[i' c,i' d] (λG=>True) (λG v=>v = .agg (Ι r).toArray):=by
 refine E' (args:=[_,_]) (N:=11) func34 z z z λl g j h=>sr<|T' 4 z r5 z λk=>nr<|γ (iK (vs:=#[]) (v:=.agg (Ι (λ_=>0)).toArray) z z (λ_=>by kernel_rfl))<|T' 5 z r5 z λm=>y' 5 z ov z z z (M' _ _ _) (M' _ _ _) (λu e=>Rp.one (pt .i64 8) (G:=g) (x:=(λ_=>0)) (cs:=Ι (λ_=>0)) z u (by first|simpa using e|simpa [Value.cells] using e))<|nr<|δ z<|δ z<|oA a λf a=>γ (k0 lK gh z z f)<|kN 5 (Ι (å (λ_=>0) c.toNat d)).toArray z gh z z z (by first|(rw[M']; omega)|(show _<(í _ _ _).toArray.size; rw[M']; omega)) z (qR _ _ _ _ _)<|nr<|γ (w' 5 iL z z (M' _ _ _))<|y' 4 z ov z z z (M' _ _ _) (M' _ _ _) (λu e=>Rp.one (pt .i64 8) (G:=g) (x:=å (λ_=>0) c.toNat d) (cs:=Ι (å (λ_=>0) c.toNat d)) z u (by first|simpa using e|simpa [Value.cells] using e))<|nx<|m' ?_
 obtain rfl:_=r:=a
 exact k' z (hQ (i:=4) iL z z (M' _ _ _)) z
theorem KK{f d c r}(a:(EO f).ο r):ä prog 122 #[.agg ((ι f d c)).toArray] (λG=>sl (Rp.int .u32) G d c f.Α) (λG v=>v=i' r):=by
 refine E' (args:=[_]) (N:=9) func122 z z z (λk l i g=>?_)
 have e:=g
 refine sr<|ý 1 z z z λj=>θ z<|c'<|sr<|γ (mM z)<|γ (f' 1 kX z z z)<|nx<|iC a z (λh a=>?_) (λh a=>?_)
 .refine sr<|θ z<|m'<|b' (Μ a z z)
 refine o'<|a'<|sr<|γ (jk z)<|γ (f' 1 jm z z z)<|γ (N' t' e z)<|γ (Y0.min2 z z)<|θ z<|m' (Μ a z z)
theorem FN{h d c f e r}(a:(uB h).ο r):ä prog 72 #[.agg ((χ h d c f e)).toArray] (λG=>sl (Rp.int .u32) G d c h.num.Α/\sl (Rp.int .u32) G f e h.den.Α) (λG v=>v=i' r):=by
 refine E' (args:=[_]) (N:=6) func72 z z z (λo p m j=>?_)
 obtain⟨g,i⟩:=j
 refine sr<|ý 1 z z z λn=>ς z<|nr<|γ (pn z)<|γ (gZ ((ι h.num d c)).toArray 1 Ò z z z (hC ([]) ((ι h.num d c)) ((ι h.den f e))))<|oE a λl k a=>I' z z (x' xg z) (KK k) z (g)<|θ z<|m' (Μ a z z)
theorem fQ'{h g c d f r}(a:(M7 h).ο r):ä prog 35 #[.agg ((χ h g c d f)).toArray] (λG=>sl (Rp.int .u32) G g c h.num.Α/\sl (Rp.int .u32) G d f h.den.Α) (jx n' r):=by
 refine E' (args:=[_]) (N:=9) func35 z z z (λy u n k=>?_)
 obtain⟨j,i⟩:=k
 refine sr<|ý 1 z z z λt=>θ z<|c'<|sr<|γ (w' 1 kf z z z)<|oE a λq l a=>I' z z (x' Dh z) (FN l) z (⟨j,i⟩)<|γ (iI z z)<|nx<|J' a z (λo a=>?_) (λo a=>?_)
 .refine sr<|θ z<|m'<|b' ?_
  obtain rfl:_=r:=a
  exact k' z z ⟨_,_,z,(gi n' _)⟩
 refine o'<|a'<|sr<|γ (w' 1 kf z z z)<|γ (iK (vs:=#[(0,.agg ((χ h g c d f)).toArray)]) (v:=.agg (((χ h g c d f):Ŀ Value)++(Ι (λ_=>0))).toArray) z z (λ_=>by kernel_rfl))<|jL (e:=159) (r:=n') (vs:=#[(0,.agg (((χ h g c d f):Ŀ Value)++(Ι (λ_=>0))).toArray)]) (cs:=(((χ h g c d f):Ŀ Value)++(Ι (λ_=>0)))++([])) ([(Za.mk h (λ_=>0))]:Ŀ Za) z z z z z (by decide) (λ_=>by kernel_rfl) ⟨((χ h g c d f):Ŀ Value)++(Ι (λ_=>0)),[],z,⟨(χ h g c d f),Ι (λ_=>0),z,⟨(ι h.num g c),(ι h.den d f),z,⟨[.bool h.num.neg],[ε g h.num.Α c],z,z,⟨_,z,j⟩⟩,⟨[.bool h.den.neg],[ε d h.den.Α f],z,z,⟨_,z,i⟩⟩⟩,z⟩,z⟩ (key:=999) z (by rw[n]; rfl) λx s p m=>θ z<|m' ?_
 obtain rfl:_=r:=a
 exact k' z z ⟨_,_,z,m⟩
theorem sx{j r}(a:(D8 j).ο r):ä prog 123 #[.agg (Ι j).toArray] (λG=>True) (λG v=>v = .bool r):=by
 refine E' (args:=[_]) (N:=18) func123 z z z λm e t q=>sr<|ý 1 z z z λk=>θ z<|c'<|sr<|θ z<|Z' (X:=Int×Mem) a (λ⟨g,c⟩=>⟨g,[(1,Τ k),(3,i' g)],Mem.le e c,St m e c [(1,Ξ k (Ι j) 99)]⟩) (λ(s:Mem)=>match s with|f=>⟨(.inr ()),[],Mem.le e f,St m e f []⟩) ⟨0,e⟩ z (υ z) mr (w1 z) ?_ ?_
 .rintro _ ⟨g,c⟩ d a
  refine c'<|sr<|δ z<|Ï z<|nx<|J' a z (λo a=>?_) (λo a=>?_)
  .refine o'<|a'<|c'<|V'<|sr<|δ z<|oA a λh a=>γ (k0 lK gh z z h)<|γ (f' 1 ñ z z (mh _ _ _ h))<|eZ a z (nb z z) z (λn a=>?_) (λn a=>?_)
   .refine δ z<|ke z<|Δ z<|nx<|iS z<|sr<|θ z<|m'<|B'<|b'<|b'<|B'<|jl<|b' (Μ a z z)
   refine δ z<|Â z<|oA a λi a=>gy z z (k0 lK gh z z i) z<|gy z z (f' 1 ñ z z (mh _ _ _ i)) z<|gy z z (kr z z) z<|Γ z<|nx<|J' a z (λl a=>?_) (λl a=>?_)
   .exact (show False from a).elim
   refine o'<|A'<|a'<|p'<|δ z<|é z<|ς z<|q'<|K' ⟨i64.wrap (g+1),c⟩ a d (υ z) (w1 z)
  refine Æ<|g'<|g'<|H'<|Ë c ⟨a,d⟩ fn (wk ln)
 rintro f ⟨a,p⟩
 refine a'<|sr<|θ z<|m' (Μ a z z)
theorem gD'{q k r}(a:(JW q k).ο r):ä prog 73 #[.agg (Ι q).toArray,.agg (Ι k).toArray] (λG=>True) (λG v=>v = .tuple #[.agg (Ι r.1).toArray,i' r.2]):=by
 refine E' (args:=[_,_]) (N:=24) func73 z z z λA l J H=>sr<|ý 2 z z z λm=>ý 3 z z z λt=>T' 4 z r5 z λn=>θ z<|c'<|sr<|θ z<|Z' (X:=Int×(Fin 8->Int)×Mem) a (λ⟨d,c,f⟩=>⟨(d,c),[(2,Τ m),(3,Τ t),(4,Τ n),(6,i' d)],Mem.le l f,St A l f [(2,Ξ m (Ι c) 99),(3,Ξ t (Ι k) 99),(4,Ξ n (Ι (λ_=>0)) 99)]⟩) (λ(⟨e,h⟩:(Fin 8->Int)×Mem)=>⟨e,[(2,Τ m),(4,Τ n)],Mem.le l h,St A l h [(2,Ξ m (Ι e) 99),(4,Ξ n (Ι (λ_=>0)) 99)]⟩) ⟨0,q,l⟩ z (υ z) mr (w3 z z z) ?_ ?_
 .rintro _ ⟨d,c,f⟩ j a
  refine c'<|sr<|δ z<|Ï z<|nx<|J' a z (λy a=>?_) (λy a=>?_)
  .refine o'<|a'<|c'<|V'<|hZ [ff,ff,ff,ff,ff,ff] gp (by kernel_rfl) λF=>ù z<|oA a λo a=>cn (λ_ g=>k0 lK gh z z o)<|cn (λ_ g=>f' 2 ñ z z (mh _ _ _ o))<|ù z<|oA a λp a=>cn (λ_ g=>k0 lK gh z z p)<|cn (λ_ g=>f' 3 ñ z z (mh _ _ _ p))<|jz F<|é z<|oA a λC a=>γ (k0 lK gh z z C)<|kN 2 (Ι (å c d.toNat (i64.wrap ((Κ c d)+(Κ k d))))).toArray z gh z z z (by first|(rw[M']; omega)|(show _<(í _ _ _).toArray.size; rw[M']; omega)) z (qR _ _ _ _ _)<|q'<|fh<|A'<|a'<|p'<|δ z<|é z<|ς z<|q'<|K' ⟨i64.wrap (d+1),å c d.toNat (i64.wrap ((Κ c d)+(Κ k d))),f⟩ a j (υ z) (w3 z z z)
  refine Æ<|g'<|g'<|H'<|Ë ⟨c,f⟩ ⟨a,j⟩ (υ z) (w2 z z)
 rintro⟨e,h⟩ ⟨a,E⟩
 refine a'<|c'<|sr<|γ (w' 2 iL z z (M' _ _ _))<|oE a λI s a=>I' z z (x' Ad z) (sx s) z (trivial)<|γ (gP z)<|nx<|iC a z (λD a=>?_) (λD a=>?_)
 .exact (show False from a).elim
 refine o'<|a'<|sr<|γ (w' 2 iL z z (M' _ _ _))<|y' 4 z ov z z z (M' _ _ _) (M' _ _ _) (λu B=>Rp.one (pt .i64 8) (G:=h) (x:=e) (cs:=Ι e) z u (by first|simpa using B|simpa [Value.cells] using B))<|θ z<|m' ?_
 obtain rfl:_=r:=a
 exact l5 z (hQ (i:=4) iL z z (M' _ _ _)) z z
theorem gp'{d c t o s u r}(a:(Pf d c).ο r):ä prog 191 #[ε t d o,ε s c u] (λG=>sl (Rp.int .u32) G t o d/\sl (Rp.int .u32) G s u c) (jx (Rp.int .u32) r):=by
 refine E' (args:=[_,_]) (N:=69) func191 z z z (λW L ap ag=>?_)
 obtain⟨A,p⟩:=ag
 refine sr<|ς z<|nr<|δ z<|γ (N' t' A z)<|δ z<|γ (N' t' p z)<|é z<|oA a λak a=>wG (r:=(Rp.int .u32)) (e:=250) (n:=i64.wrap ((d.length:Int)+(c.length:Int))) (zx:=0) 4015 z z t' oP z (by decide) (by decide) z z z ak λJ af an=>θ z<|c'<|sr<|θ z<|Z' (X:=(Ŀ Int)×ŀ Ow×Int×Mem) a (λ⟨E,k,h,y⟩=>⟨(E,h),[(0,ε t d o),(1,ε s c u),(5,.slice J (i64.wrap ((d.length:Int)+(c.length:Int))).toNat ((i64.wrap ((d.length:Int)+(c.length:Int))).toNat)),(6,i' h)],Mem.le L y/\Η (Rp.int .u32) 250 y (.slice J (i64.wrap ((d.length:Int)+(c.length:Int))).toNat ((i64.wrap ((d.length:Int)+(c.length:Int))).toNat)) E k,St W L y [(4015,k)]⟩) (λ(⟨K,D,Q⟩:(Ŀ Int)×ŀ Ow×Mem)=>⟨K,[(5,.slice J (i64.wrap ((d.length:Int)+(c.length:Int))).toNat ((i64.wrap ((d.length:Int)+(c.length:Int))).toNat))],Mem.le L Q/\Η (Rp.int .u32) 250 Q (.slice J (i64.wrap ((d.length:Int)+(c.length:Int))).toNat ((i64.wrap ((d.length:Int)+(c.length:Int))).toNat)) K D,St W L Q [(4015,D)]⟩) ⟨(List.replicate (i64.wrap ((d.length:Int)+(c.length:Int))).toNat 0),af,0,L⟩ z (υ z) ⟨mr,an⟩ (w1 z) ?_ ?_
 .rintro _ ⟨E,k,h,y⟩ ⟨g,O⟩ a
  refine c'<|sr<|δ z<|δ z<|γ (N' t' (A.mono g) z)<|Ï z<|nx<|J' a z (λaq a=>?_) (λaq a=>?_)
  .refine o'<|a'<|c'<|V'<|sr<|θ z<|c'<|sr<|θ z<|Z' (X:=(Ŀ Int)×ŀ Ow×Int×Int×Mem) a (λ⟨B,q,l,x,F⟩=>⟨(B,l,x),[(0,ε t d o),(1,ε s c u),(5,.slice J (i64.wrap ((d.length:Int)+(c.length:Int))).toNat ((i64.wrap ((d.length:Int)+(c.length:Int))).toNat)),(6,i' h),(7,.int .u64 l),(8,i' x)],Mem.le y F/\Η (Rp.int .u32) 250 F (.slice J (i64.wrap ((d.length:Int)+(c.length:Int))).toNat ((i64.wrap ((d.length:Int)+(c.length:Int))).toNat)) B q,St W L F [(4015,q)]⟩) (λ(⟨H,C,v,I⟩:(Ŀ Int)×ŀ Ow×Int×Mem)=>⟨(H,v),[(0,ε t d o),(1,ε s c u),(5,.slice J (i64.wrap ((d.length:Int)+(c.length:Int))).toNat ((i64.wrap ((d.length:Int)+(c.length:Int))).toNat)),(6,i' h),(7,.int .u64 v)],Mem.le y I/\Η (Rp.int .u32) 250 I (.slice J (i64.wrap ((d.length:Int)+(c.length:Int))).toNat ((i64.wrap ((d.length:Int)+(c.length:Int))).toNat)) H C,St W L I [(4015,C)]⟩) ⟨E,k,0,0,y⟩ z (υ z) ⟨mr,O⟩ (w1 z) ?_ ?_
   .rintro _ ⟨B,q,l,x,F⟩ ⟨j,m⟩ a
    refine c'<|sr<|δ z<|δ z<|γ (N' t' (p.mono (mx g j)) z)<|Ï z<|nx<|J' a z (λam a=>?_) (λam a=>?_)
    .refine o'<|a'<|c'<|V'<|c'<|hZ [ff,ff,ff,ff,ff,ff,ff,ff,ff,ff,ff,ff,ff,ff,ff,ff,ff,ff,ff,ff] gp (by kernel_rfl) λhb=>ù z<|ù z<|oE a λY w a=>cn (λ_ f=>X' t' kz ((A.mono (mx g j)).mono f) z z w)<|cn (λ_ f=>il nD z (lH (R' (R' (Á A w) (mx g j)) f)))<|cn (λ_ f=>jF nq Y' z)<|ù z<|ù z<|oE a λU Z a=>cn (λ_ f=>X' t' kz ((p.mono (mx g j)).mono f) z z Z)<|cn (λ_ f=>il nD z (lH (R' (R' (Á p Z) (mx g j)) f)))<|cn (λ_ f=>jF nq Y' z)<|cn (λ_ f=>vp z z)<|ù z<|ù z<|ù z<|cn (λ_ f=>O' z z)<|oE a λT ab a=>cn (λ_ f=>qV t' kz (m.mono f) z z ab)<|cn (λ_ f=>RM nD (m.mono f) (key:=4015) z z (lH (RN m ab)))<|cn (λ_ f=>jF nq Y' z)<|cn (λ_ f=>O' z z)<|ù z<|jz hb<|é z<|ς z<|q'<|fh<|a'<|sr<|δ z<|δ z<|δ z<|é z<|δ z<|γ (oI z z (by decide))<|γ (jF Y' nq z)<|oE a λx5 ad a=>γ (qV t' kz m z z ad)<|sp (r:=(Rp.int .u32)) (e:=250) (cs':=[.int .u32 (u32.wrap (Int.tmod (u64.wrap ((u64.wrap ((u64.wrap ((u64.wrap Y)*(u64.wrap U)))+(u64.wrap T)))+l)) 4294967296))]) (i:=i64.wrap (h+x)) (z':=u32.wrap (Int.tmod (u64.wrap ((u64.wrap ((u64.wrap ((u64.wrap Y)*(u64.wrap U)))+(u64.wrap T)))+l)) 4294967296)) 4015 z kz z m z z z z z ad λao ah=>nx<|p'<|δ z<|γ (yu z z (by decide))<|ς z<|q'<|A'<|a'<|p'<|δ z<|é z<|ς z<|q'<|K' ⟨(B.set (i64.wrap (h+x)).toNat (u32.wrap (Int.tmod (u64.wrap ((u64.wrap ((u64.wrap ((u64.wrap Y)*(u64.wrap U)))+(u64.wrap T)))+l)) 4294967296))),ao,u64.wrap (Int.tdiv (u64.wrap ((u64.wrap ((u64.wrap ((u64.wrap Y)*(u64.wrap U)))+(u64.wrap T)))+l)) 4294967296),i64.wrap (x+1),F⟩ a ⟨j,ah⟩ (υ z) (w1 z)
    refine Æ<|g'<|g'<|H'<|Ë ⟨B,q,l,F⟩ ⟨a,j,m⟩ (υ z) (w1 z)
   rintro⟨H,C,v,I⟩ ⟨a,P,M⟩
   refine a'<|p'<|δ z<|δ z<|δ z<|γ (N' t' (p.mono (mx g P)) z)<|é z<|δ z<|γ (jF Y' nq z)<|oE a λx1 ac a=>γ (qV t' kz M z z ac)<|sp (r:=(Rp.int .u32)) (e:=250) (cs':=[.int .u32 (u32.wrap v)]) (i:=i64.wrap (h+(c.length:Int))) (z':=u32.wrap v) 4015 z kz z M z z z z z ac λal aj=>q'<|A'<|a'<|p'<|δ z<|é z<|ς z<|q'<|K' ⟨(H.set (i64.wrap (h+(c.length:Int))).toNat (u32.wrap v)),al,i64.wrap (h+1),I⟩ a ⟨(mx g P),aj⟩ (υ z) (w1 z)
  refine Æ<|g'<|g'<|H'<|Ë ⟨E,k,y⟩ ⟨a,g,O⟩ (f1 z) (w1 z)
 rintro⟨K,D,Q⟩ ⟨a,ar,V⟩
 refine a'<|sr<|δ z<|qX (r:=(Rp.int .u32)) (e:=250) 4015 V z (by rw[ap]; rfl) (λaC aB aw S au=>?_)
 refine oE a λaD ai a=>U' z z (x' r8 z) (zX ai) (by rw[tz S]) ((tA S)) (λay aE av R=>?_)
 obtain⟨aA,az,rfl,ae⟩:=R
 refine θ z<|m' ?_
 obtain rfl:_=r:=a
 exact k' z z ⟨_,_,z,ae⟩
theorem Cv{A t j f g e r}(a:(zJ A t).ο r):ä prog 125 #[.agg ((ι A j f)).toArray,.agg ((ι t g e)).toArray] (λG=>sl (Rp.int .u32) G j f A.Α/\sl (Rp.int .u32) G g e t.Α) (jb r):=by
 refine E' (args:=[_,_]) (N:=16) func125 z z z (λT R M y=>?_)
 obtain⟨o,p⟩:=y
 refine sr<|ý 2 z z z λU=>ý 3 z z z λQ=>T' 4 z oe z λV=>nx<|c'<|hZ [ff,ff,ff,ff,ff,ff,ff,ff,ff,ff] gp (by kernel_rfl) λP=>cn (λ_ c=>mM z)<|cn (λ_ c=>f' 2 kX z z z)<|cn (λ_ c=>mM z)<|cn (λ_ c=>f' 3 kX z z z)<|cn (λ_ c=>Y0.tZ vl z z)<|cn (λ_ c=>jk z)<|cn (λ_ c=>f' 2 jm z z z)<|cn (λ_ c=>jk z)<|cn (λ_ c=>f' 3 jm z z z)<|oE a λq B a=>mL (post:=jx (Rp.int .u32) q) (λ_=>z) (λ_ _=>x' Gz z) (gp' B) z (λO c=>⟨(o.mono c),(p.mono c)⟩) (λv W S c h=>?_) ?_
 .obtain⟨x,u,rfl,k⟩:=h
  exact⟨_,_,z,k.mono c⟩
 refine rG (d:=14) (post:=jx (Rp.int .u32) q) (λH J F l=>?_)
 obtain⟨x,u,rfl,k⟩:=l
 refine oE a λK s a=>U' z z (x' pE z) (vm s) z (k) (λI L E n=>?_)
 obtain⟨D,C,rfl,m⟩:=n
 refine ø 4 lx z<|q'<|fh<|a'<|m' ?_
 obtain rfl:_=r:=a
 exact k' z (hQ (i:=4) Ò z z z) ⟨_,_,z,m⟩
theorem Cg{g i e d r}(a:(zy g i).ο r):ä prog 278 #[ε e g d,i' i] (λG=>sl (Rp.int .u32) G e d g) (λG v=>v = .int .u64 r):=by
 refine E' (args:=[_,_]) (N:=14) func278 z z z (λl n k h=>?_)
 have c:=h
 refine sr<|θ z<|c'<|sr<|δ z<|δ z<|γ (N' t' c z)<|Ï z<|nx<|J' a z (λj a=>?_) (λj a=>?_)
 .refine sr<|δ z<|δ z<|oE a λm f a=>γ (X' t' kz c z z f)<|γ (il nD z (lH (Á c f)))<|γ (jF nq Y' z)<|θ z<|m'<|b' (Μ a z z)
 refine o'<|a'<|sr<|θ z<|m' (Μ a z z)
theorem Sr{g e d r}(a:(Il g).ο r):ä prog 262 #[ε e g d] (λG=>sl (Rp.int .u32) G e d g) (λG v=>v = .int .u64 r):=by
 refine E' (args:=[_]) (N:=9) func262 z z z (λm n l h=>?_)
 have c:=h
 refine sr<|ς z<|nr<|δ z<|oE a λj i a=>I' z z (x' sY z) (Cg i) z (c)<|γ (vp z z)<|δ z<|oE a λk f a=>I' z z (x' sY z) (Cg f) z (c)<|é z<|θ z<|m' (Μ a z z)
theorem gi'{j i r}(a:(Ox j i).ο r):ä prog 261 #[.int .u64 j,.int .u64 i] (λG=>True) (λG v=>v = .int .u64 r):=by
 refine E' (args:=[_,_]) (N:=14) func261 z z z λm h q p=>sr<|θ z<|c'<|Z' (X:=Int×Int×Mem) a (λ⟨g,e,c⟩=>⟨(g,e),[(0,.int .u64 g),(1,.int .u64 e)],Mem.le h c,St m h c []⟩) (λ(⟨k,f⟩:Int×Mem)=>⟨k,[(0,.int .u64 k)],Mem.le h f,St m h f []⟩) ⟨j,i,h⟩ z (υ z) mr (wk ln) ?_ ?_
 .rintro _ ⟨g,e,c⟩ d a
  refine c'<|sr<|δ z<|γ (kr z z)<|nx<|J' a z (λn a=>?_) (λn a=>?_)
  .refine o'<|a'<|V'<|sr<|δ z<|δ z<|oA a λl a=>γ (oI z z l)<|ς z<|nr<|δ z<|θ z<|p'<|δ z<|ς z<|q'<|A'<|K' ⟨e,Int.tmod g e,c⟩ a d (υ z) (wk ln)
  refine Æ<|g'<|g'<|H'<|Ë ⟨g,c⟩ ⟨a,d⟩ (f1 z) (wk ln)
 rintro⟨k,f⟩ ⟨a,o⟩
 refine a'<|sr<|δ z<|θ z<|m' (Μ a z z)
theorem uM{m o j n h l r}(a:(ZY m o).ο r):ä prog 269 #[ε j m n,ε h o l] (λG=>sl (Rp.int .u32) G j n m/\sl (Rp.int .u32) G h l o) (λG v=>v=i' r):=by
 refine E' (args:=[_,_]) (N:=41) func269 z z z (λD i J y=>?_)
 obtain⟨e,f⟩:=y
 refine sr<|θ z<|c'<|sr<|δ z<|γ (N' t' e z)<|δ z<|γ (N' t' f z)<|Ï z<|nx<|J' a z (λF a=>?_) (λF a=>?_)
 .refine sr<|θ z<|m'<|b' (Μ a z z)
 refine o'<|a'<|c'<|sr<|δ z<|γ (N' t' e z)<|δ z<|γ (N' t' f z)<|γ (kr z z)<|nx<|J' a z (λC a=>?_) (λC a=>?_)
 .refine sr<|θ z<|m'<|b' (Μ a z z)
 refine o'<|a'<|c'<|sr<|δ z<|γ (N' t' e z)<|γ (nU z z)<|θ z<|Z' (X:=Int×Mem) a (λ⟨p,g⟩=>⟨p,[(0,ε j m n),(1,ε h o l),(5,i' p)],Mem.le i g,St D i g []⟩) (λ(I:Mem)=>match I with|k=>⟨(.inr ()),[],Mem.le i k,St D i k []⟩) ⟨i64.wrap ((m.length:Int)-1),i⟩ z (υ z) mr (wk ln) ?_ ?_
 .rintro _ ⟨p,g⟩ d a
  refine c'<|sr<|δ z<|γ (kO z z)<|nx<|J' a z (λE a=>?_) (λE a=>?_)
  .refine o'<|a'<|c'<|V'<|c'<|c'<|hZ [ff,ff,ff,ff,ff,ff,ff,ff] gp (by kernel_rfl) λx=>ù z<|ù z<|oE a λO u a=>cn (λ_ c=>X' t' kz ((e.mono d).mono c) z z u)<|cn (λ_ c=>il nD z (lH (R' (R' (Á e u) d) c)))<|ù z<|ù z<|oE a λM s a=>cn (λ_ c=>X' t' kz ((f.mono d).mono c) z z s)<|cn (λ_ c=>il nD z (lH (R' (R' (Á f s) d) c)))<|jz x<|Ï z<|q'<|fh<|a'<|J' a z (λB a=>?_) (λB a=>?_)
   .refine sr<|θ z<|m'<|b'<|B'<|b'<|b'<|B'<|jl<|b' (Μ a z z)
   refine o'<|a'<|c'<|hZ [ff,ff,ff,ff,ff,ff,ff,ff] gp (by kernel_rfl) λx=>ù z<|ù z<|oE a λL q a=>cn (λ_ c=>X' t' kz ((e.mono d).mono c) z z q)<|cn (λ_ c=>il nD z (lH (R' (R' (Á e q) d) c)))<|ù z<|ù z<|oE a λK t a=>cn (λ_ c=>X' t' kz ((f.mono d).mono c) z z t)<|cn (λ_ c=>il nD z (lH (R' (R' (Á f t) d) c)))<|jz x<|γ (kr z z)<|q'<|fh<|a'<|J' a z (λA a=>?_) (λA a=>?_)
   .refine sr<|θ z<|m'<|B'<|b'<|b'<|B'<|jl<|b' (Μ a z z)
   refine o'<|A'<|a'<|p'<|δ z<|γ (nU z z)<|ς z<|q'<|K' ⟨i64.wrap (p-1),g⟩ a d (υ z) (wk ln)
  refine Æ<|g'<|g'<|H'<|Ë g ⟨a,d⟩ fn (wk ln)
 rintro k ⟨a,H⟩
 refine a'<|sr<|θ z<|m' (Μ a z z)
theorem gc'{c m B C r}(a:(NT c m).ο r):ä prog 279 #[ε B c C,.int .u64 m] (λG=>sl (Rp.int .u32) G B C c) (λG v=>∃ A x,v = .tuple #[ε A r.1 x,.int .u64 r.2]/\sl (Rp.int .u32) G A x r.1):=by
 refine E' (args:=[_,_]) (N:=41) func279 z z z (λU u V M=>?_)
 have p:=M
 refine sr<|ς z<|ς z<|nr<|δ z<|γ (N' t' p z)<|oA a λR a=>wG (r:=(Rp.int .u32)) (e:=250) (n:=(c.length:Int)) (zx:=0) 4012 z z t' oP z (by decide) (by decide) z z z R λE L W=>ς z<|nr<|θ z<|c'<|sr<|δ z<|γ (N' t' p z)<|γ (nU z z)<|θ z<|Z' (X:=(Ŀ Int)×ŀ Ow×Int×Int×Mem) a (λ⟨h,d,f,t,k⟩=>⟨(h,f,t),[(0,ε B c C),(1,.int .u64 m),(6,.slice E (c.length:Int).toNat ((c.length:Int).toNat)),(7,.int .u64 f),(8,i' t)],Mem.le u k/\Η (Rp.int .u32) 250 k (.slice E (c.length:Int).toNat ((c.length:Int).toNat)) h d,St U u k [(4012,d)]⟩) (λ(⟨o,j,y,q⟩:(Ŀ Int)×ŀ Ow×Int×Mem)=>⟨(o,y),[(6,.slice E (c.length:Int).toNat ((c.length:Int).toNat)),(7,.int .u64 y)],Mem.le u q/\Η (Rp.int .u32) 250 q (.slice E (c.length:Int).toNat ((c.length:Int).toNat)) o j,St U u q [(4012,j)]⟩) ⟨(List.replicate (c.length:Int).toNat 0),L,0,i64.wrap ((c.length:Int)-1),u⟩ z (υ z) ⟨mr,W⟩ (w1 z) ?_ ?_
 .rintro _ ⟨h,d,f,t,k⟩ ⟨g,l⟩ a
  refine c'<|sr<|δ z<|γ (kO z z)<|nx<|J' a z (λY a=>?_) (λY a=>?_)
  .refine o'<|a'<|c'<|V'<|sr<|δ z<|γ (vp z z)<|δ z<|δ z<|oE a λH J a=>γ (X' t' kz (p.mono g) z z J)<|γ (il nD z (lH (R' (Á p J) g)))<|γ (jF nq Y' z)<|é z<|ς z<|nr<|δ z<|δ z<|δ z<|δ z<|oA a λT a=>γ (yu z z T)<|γ (jF Y' nq z)<|oE a λx2 I a=>γ (qV t' kz l z z I)<|sp (r:=(Rp.int .u32)) (e:=250) (cs':=[.int .u32 (u32.wrap (u64.wrap (Int.tdiv (u64.wrap ((u64.wrap (f*4294967296))+(u64.wrap H))) m)))]) (i:=t) (z':=u32.wrap (u64.wrap (Int.tdiv (u64.wrap ((u64.wrap (f*4294967296))+(u64.wrap H))) m))) 4012 z kz z l z z z z z I λS P=>nx<|p'<|δ z<|δ z<|oA a λQ a=>γ (oI z z Q)<|ς z<|q'<|A'<|a'<|p'<|δ z<|γ (nU z z)<|ς z<|q'<|K' ⟨(h.set t.toNat (u32.wrap (u64.wrap (Int.tdiv (u64.wrap ((u64.wrap (f*4294967296))+(u64.wrap H))) m)))),S,Int.tmod (u64.wrap ((u64.wrap (f*4294967296))+(u64.wrap H))) m,i64.wrap (t-1),k⟩ a ⟨g,P⟩ (υ z) (w1 z)
  refine Æ<|g'<|g'<|H'<|Ë ⟨h,d,f,k⟩ ⟨a,g,l⟩ (υ z) (w1 z)
 rintro⟨o,j,y,q⟩ ⟨a,Z,F⟩
 refine a'<|sr<|δ z<|qX (r:=(Rp.int .u32)) (e:=250) 4012 F z (by rw[V]; rfl) (λah ag ac D w=>?_)
 refine oE a λai O a=>U' z z (x' r8 z) (zX O) (by rw[tz D]) ((tA D)) (λad aj ab s=>?_)
 obtain⟨af,ae,rfl,K⟩:=s
 refine δ z<|ς z<|θ z<|m' ?_
 obtain rfl:_=r:=a
 exact l5 z z z ⟨_,_,z,K⟩
theorem Sa{e f i g h j r}(a:(H3 e f).ο r):ä prog 263 #[ε i e g,ε h f j] (λG=>sl (Rp.int .u32) G i g e/\sl (Rp.int .u32) G h j f) (λG v=>∃ o n m q,v = .tuple #[ε o r.1 n,ε m r.2 q]/\sl (Rp.int .u32) G o n r.1/\sl (Rp.int .u32) G m q r.2):=by
 refine E' (args:=[_,_]) (N:=110) func263 z z z (λU T S A=>?_)
 obtain⟨d,c⟩:=A
 refine sr<|ς z<|θ z<|c'<|sr<|δ z<|δ z<|oE a λO B a=>I' z z (x' oW z) (uM B) z (⟨d,c⟩)<|Ï z<|nx<|J' a z (λF a=>?_) (λF a=>?_)
 .refine sr<|δ z<|ς z<|θ z<|m'<|b' ?_
  obtain rfl:_=r:=a
  exact l5 z z z ⟨_,_,_,_,z,(gi (Rp.int .u32) _),d⟩
 refine o'<|a'<|c'<|sr<|δ z<|γ (N' t' c z)<|γ (iI z z)<|nx<|J' a z (λE a=>?_) (λE a=>?_)
 .refine sr<|δ z<|δ z<|oE a λV t a=>γ (X' t' kz c z z t)<|γ (il nD z (lH (Á c t)))<|γ (jF nq Y' z)<|oE a λM u a=>U' z z (x' GZ z) (gc' u) z (d) (λL Q H l=>?_)
  obtain⟨D,C,rfl,p⟩:=l
  refine δ z<|Û z<|Û z<|ς z<|ς z<|nr<|δ z<|δ z<|oE a λP y a=>U' z z (x' uW z) (FL y) z (trivial) (λK R s k=>?_)
  obtain⟨I,J,rfl,x⟩:=k
  refine ς z<|θ z<|m'<|b' ?_
  obtain rfl:_=r:=a
  exact l5 z z z ⟨_,_,_,_,z,(p.mono s),x⟩
 exact (show False from a).elim
theorem gj'{I H C F x E r}(a:(Ov I H).ο r):ä prog 232 #[ε C I F,ε x H E] (λG=>sl (Rp.int .u32) G C F I/\sl (Rp.int .u32) G x E H) (jx (Rp.int .u32) r):=by
 refine E' (args:=[_,_]) (N:=33) func232 z z z (λQ s aq R=>?_)
 obtain⟨T,ad⟩:=R
 refine sr<|θ z<|c'<|Z' (X:=(Ŀ Int)×ŀ Addr×Nat×(Ŀ Int)×ŀ Addr×Nat×Mem) a (λ⟨l,g,i,j,k,f,d⟩=>⟨(l,j),[(0,ε g l i),(1,ε k j f)],Mem.le s d/\sl (Rp.int .u32) d g i l/\sl (Rp.int .u32) d k f j,St Q s d []⟩) (λ(⟨J,A,u,o⟩:(Ŀ Int)×ŀ Addr×Nat×Mem)=>⟨(.inr J),[(0,ε A J u)],Mem.le s o/\sl (Rp.int .u32) o A u J,St Q s o []⟩) ⟨I,C,F,H,x,E,s⟩ z (υ z) ⟨mr,T,ad⟩ (wk ln) ?_ ?_
 .rintro _ ⟨l,g,i,j,k,f,d⟩ ⟨p,m,h⟩ a
  refine c'<|sr<|δ z<|γ (N' t' h z)<|γ (kr z z)<|nx<|J' a z (λae a=>?_) (λae a=>?_)
  .refine o'<|a'<|V'<|c'<|k5 a (λ(⟨e,v⟩:Bool×Mem)=>⟨[(0,ε g l i),(1,ε k j f),(17,.bool e)],Hu l j e,Mem.le d v,St Q s v []⟩) ?_ ?_
   .refine p'<|δ z<|γ (N' t' m z)<|eZ a z (oo z z) z (λac a=>?_) (λac a=>?_)
    .refine δ z<|Â z<|gy z z (N' t' h z) z<|gy z z (oo z z) z<|Δ z<|q'<|ia ⟨decide ((j.length:Int)<=2),d⟩ ⟨a,mr⟩ (υ z) (wk ln)
    refine δ z<|lu z<|Γ z<|q'<|ia ⟨false,d⟩ ⟨a,mr⟩ (υ z) (wk ln)
   rintro⟨e,v⟩ ⟨a,c⟩
   refine iC a z (λZ a=>?_) (λZ a=>?_)
   .refine sr<|δ z<|oE a λan S a=>I' z z (x' Ax z) (Sr S) z ((m.mono c))<|δ z<|oE a λal K a=>I' z z (x' Ax z) (Sr K) z ((h.mono c))<|oE a λap O a=>I' z z (x' GS z) (gi' O) z (trivial)<|oE a λam M a=>U' z z (x' uW z) (FL M) z (trivial) (λah ao ag t=>?_)
    obtain⟨aj,ak,rfl,P⟩:=t
    refine θ z<|m'<|b'<|B'<|b'<|B'<|jl<|b' ?_
    obtain rfl:_=r:=a
    exact k' z z ⟨_,_,z,P⟩
   refine o'<|a'<|sr<|δ z<|δ z<|oE a λW L a=>U' z z (x' Ay z) (Sa L) z (⟨(m.mono c),(h.mono c)⟩) (λai w n q=>?_)
   obtain⟨V,aa,y,B,rfl,U,D⟩:=q
   refine δ z<|Û z<|Û z<|ς z<|ς z<|nr<|δ z<|θ z<|p'<|δ z<|ς z<|q'<|A'<|K' ⟨j,k,f,W.2,y,B,w⟩ a ⟨(mx (mx p c) n),(h.mono (mx c n)),D⟩ (υ z) (wk ln)
  refine Æ<|g'<|g'<|H'<|Ë ⟨l,g,i,d⟩ ⟨a,p,m⟩ (f1 z) (wk ln)
 rintro⟨J,A,u,o⟩ ⟨a,af,Y⟩
 refine a'<|sr<|δ z<|θ z<|m' ?_
 obtain rfl:_=r:=a
 exact k' z z ⟨_,_,z,Y⟩
theorem Sm{q n f d e c r}(a:(JY q n).ο r):ä prog 188 #[.agg ((ι q f d)).toArray,.agg ((ι n e c)).toArray] (λG=>sl (Rp.int .u32) G f d q.Α/\sl (Rp.int .u32) G e c n.Α) (jb r):=by
 refine E' (args:=[_,_]) (N:=11) func188 z z z (λL K I p=>?_)
 obtain⟨k,l⟩:=p
 refine sr<|ý 2 z z z λM=>ý 3 z z z λJ=>T' 4 z oe z λO=>nr<|γ (jk z)<|γ (f' 2 jm z z z)<|γ (jk z)<|γ (f' 3 jm z z z)<|oE a λF s a=>U' z z (x' GL z) (gj' s) z (⟨k,l⟩) (λy D x g=>?_)
 obtain⟨B,A,rfl,o⟩:=g
 refine oE a λE m a=>U' z z (x' pE z) (vm m) z (o) (λC H v j=>?_)
 obtain⟨u,t,rfl,h⟩:=j
 refine ø 4 lx z<|nx<|m' ?_
 obtain rfl:_=r:=a
 exact k' z (hQ (i:=4) Ò z z z) ⟨_,_,z,h⟩
theorem gq'{d c y B v A r}(a:(Pe d c).ο r):ä prog 264 #[ε y d B,ε v c A] (λG=>sl (Rp.int .u32) G y B d/\sl (Rp.int .u32) G v A c) (jx (Rp.int .u32) r):=by
 refine E' (args:=[_,_]) (N:=42) func264 z z z (λT x U O=>?_)
 obtain⟨F,I⟩:=O
 refine sr<|ς z<|nr<|δ z<|γ (N' t' F z)<|δ z<|γ (N' t' I z)<|γ (Y0.max2 z z)<|é z<|ς z<|nr<|δ z<|oA a λR a=>wG (r:=(Rp.int .u32)) (e:=250) (n:=i64.wrap ((if (d.length:Int)<(c.length:Int) then (c.length:Int) else (d.length:Int))+1)) (zx:=0) 4017 z z t' oP z (by decide) (by decide) z z z R λD M V=>ς z<|nr<|θ z<|c'<|sr<|θ z<|Z' (X:=(Ŀ Int)×ŀ Ow×Int×Int×Mem) a (λ⟨j,g,f,u,l⟩=>⟨(j,f,u),[(0,ε y d B),(1,ε v c A),(5,i' (i64.wrap ((if (d.length:Int)<(c.length:Int) then (c.length:Int) else (d.length:Int))+1))),(6,.slice D (i64.wrap ((if (d.length:Int)<(c.length:Int) then (c.length:Int) else (d.length:Int))+1)).toNat ((i64.wrap ((if (d.length:Int)<(c.length:Int) then (c.length:Int) else (d.length:Int))+1)).toNat)),(7,.int .u64 f),(8,i' u)],Mem.le x l/\Η (Rp.int .u32) 250 l (.slice D (i64.wrap ((if (d.length:Int)<(c.length:Int) then (c.length:Int) else (d.length:Int))+1)).toNat ((i64.wrap ((if (d.length:Int)<(c.length:Int) then (c.length:Int) else (d.length:Int))+1)).toNat)) j g,St T x l [(4017,g)]⟩) (λ(⟨o,k,q⟩:(Ŀ Int)×ŀ Ow×Mem)=>⟨o,[(6,.slice D (i64.wrap ((if (d.length:Int)<(c.length:Int) then (c.length:Int) else (d.length:Int))+1)).toNat ((i64.wrap ((if (d.length:Int)<(c.length:Int) then (c.length:Int) else (d.length:Int))+1)).toNat))],Mem.le x q/\Η (Rp.int .u32) 250 q (.slice D (i64.wrap ((if (d.length:Int)<(c.length:Int) then (c.length:Int) else (d.length:Int))+1)).toNat ((i64.wrap ((if (d.length:Int)<(c.length:Int) then (c.length:Int) else (d.length:Int))+1)).toNat)) o k,St T x q [(4017,k)]⟩) ⟨(List.replicate (i64.wrap ((if (d.length:Int)<(c.length:Int) then (c.length:Int) else (d.length:Int))+1)).toNat 0),M,0,0,x⟩ z (υ z) ⟨mr,V⟩ (w1 z) ?_ ?_
 .rintro _ ⟨j,g,f,u,l⟩ ⟨h,m⟩ a
  refine c'<|sr<|δ z<|δ z<|Ï z<|nx<|J' a z (λW a=>?_) (λW a=>?_)
  .refine o'<|a'<|c'<|V'<|sr<|δ z<|δ z<|oE a λp J a=>I' z z (x' sY z) (Cg J) z ((F.mono h))<|δ z<|δ z<|oE a λs K a=>I' z z (x' sY z) (Cg K) z ((I.mono h))<|é z<|δ z<|é z<|ς z<|nr<|δ z<|δ z<|δ z<|γ (oI z z (by decide))<|γ (jF Y' nq z)<|oE a λx1 H a=>γ (qV t' kz m z z H)<|sp (r:=(Rp.int .u32)) (e:=250) (cs':=[.int .u32 (u32.wrap (Int.tmod (u64.wrap ((u64.wrap (p+s))+f)) 4294967296))]) (i:=u) (z':=u32.wrap (Int.tmod (u64.wrap ((u64.wrap (p+s))+f)) 4294967296)) 4017 z kz z m z z z z z H λS Q=>nx<|p'<|δ z<|γ (yu z z (by decide))<|ς z<|q'<|A'<|a'<|p'<|δ z<|é z<|ς z<|q'<|K' ⟨(j.set u.toNat (u32.wrap (Int.tmod (u64.wrap ((u64.wrap (p+s))+f)) 4294967296))),S,u64.wrap (Int.tdiv (u64.wrap ((u64.wrap (p+s))+f)) 4294967296),i64.wrap (u+1),l⟩ a ⟨h,Q⟩ (υ z) (w1 z)
  refine Æ<|g'<|g'<|H'<|Ë ⟨j,g,l⟩ ⟨a,h,m⟩ (f1 z) (w1 z)
 rintro⟨o,k,q⟩ ⟨a,Y,E⟩
 refine a'<|sr<|δ z<|qX (r:=(Rp.int .u32)) (e:=250) 4017 E z (by rw[U]; rfl) (λag af ab C Z=>?_)
 refine oE a λah P a=>U' z z (x' r8 z) (zX P) (by rw[tz C]) ((tA C)) (λac ai w t=>?_)
 obtain⟨ae,ad,rfl,L⟩:=t
 refine θ z<|m' ?_
 obtain rfl:_=r:=a
 exact k' z z ⟨_,_,z,L⟩
theorem Sy{h D y B v A r}(a:(IA h D).ο r):ä prog 265 #[ε y h B,ε v D A] (λG=>sl (Rp.int .u32) G y B h/\sl (Rp.int .u32) G v A D) (jx (Rp.int .u32) r):=by
 refine E' (args:=[_,_]) (N:=41) func265 z z z (λT x U O=>?_)
 obtain⟨p,W⟩:=O
 refine sr<|ς z<|nr<|δ z<|γ (N' t' p z)<|oA a λR a=>wG (r:=(Rp.int .u32)) (e:=250) (n:=(h.length:Int)) (zx:=0) 4011 z z t' oP z (by decide) (by decide) z z z R λE M V=>ς z<|nr<|θ z<|c'<|sr<|θ z<|Z' (X:=(Ŀ Int)×ŀ Ow×Int×Int×Mem) a (λ⟨j,g,c,u,l⟩=>⟨(j,c,u),[(0,ε y h B),(1,ε v D A),(5,.slice E (h.length:Int).toNat ((h.length:Int).toNat)),(6,.int .u64 c),(7,i' u)],Mem.le x l/\Η (Rp.int .u32) 250 l (.slice E (h.length:Int).toNat ((h.length:Int).toNat)) j g,St T x l [(4011,g)]⟩) (λ(⟨o,k,s⟩:(Ŀ Int)×ŀ Ow×Mem)=>⟨o,[(5,.slice E (h.length:Int).toNat ((h.length:Int).toNat))],Mem.le x s/\Η (Rp.int .u32) 250 s (.slice E (h.length:Int).toNat ((h.length:Int).toNat)) o k,St T x s [(4011,k)]⟩) ⟨(List.replicate (h.length:Int).toNat 0),M,0,0,x⟩ z (υ z) ⟨mr,V⟩ (w1 z) ?_ ?_
 .rintro _ ⟨j,g,c,u,l⟩ ⟨f,m⟩ a
  refine c'<|sr<|δ z<|δ z<|γ (N' t' (p.mono f) z)<|Ï z<|nx<|J' a z (λY a=>?_) (λY a=>?_)
  .refine o'<|a'<|c'<|V'<|c'<|hZ [ff,ff,ff,ff,ff,ff,ff,ff,ff,ff,ff] gp (by kernel_rfl) λw=>ù z<|ù z<|oE a λH J a=>cn (λ_ d=>X' t' kz ((p.mono f).mono d) z z J)<|cn (λ_ d=>il nD z (lH (R' (R' (Á p J) f) d)))<|cn (λ_ d=>jF nq Y' z)<|cn (λ_ d=>O' z z)<|ù z<|ù z<|oE a λq K a=>sn z (λ_=>x' sY z) (Cg K) z (λG' d=>((W.mono f).mono d))<|cn (λ_ d=>nU z z)<|ù z<|jz w<|γ (nU z z)<|ς z<|q'<|fh<|a'<|sr<|δ z<|δ z<|δ z<|γ (oI z z (by decide))<|γ (jF Y' nq z)<|oE a λx2 I a=>γ (qV t' kz m z z I)<|sp (r:=(Rp.int .u32)) (e:=250) (cs':=[.int .u32 (u32.wrap (Int.tmod (u64.wrap ((u64.wrap ((u64.wrap (4294967296+(u64.wrap H)))-q))-c)) 4294967296))]) (i:=u) (z':=u32.wrap (Int.tmod (u64.wrap ((u64.wrap ((u64.wrap (4294967296+(u64.wrap H)))-q))-c)) 4294967296)) 4011 z kz z m z z z z z I λS Q=>nx<|p'<|δ z<|γ (yu z z (by decide))<|γ (nU z z)<|ς z<|q'<|A'<|a'<|p'<|δ z<|é z<|ς z<|q'<|K' ⟨(j.set u.toNat (u32.wrap (Int.tmod (u64.wrap ((u64.wrap ((u64.wrap (4294967296+(u64.wrap H)))-q))-c)) 4294967296))),S,u64.wrap (1-(u64.wrap (Int.tdiv (u64.wrap ((u64.wrap ((u64.wrap (4294967296+(u64.wrap H)))-q))-c)) 4294967296))),i64.wrap (u+1),l⟩ a ⟨f,Q⟩ (υ z) (w1 z)
  refine Æ<|g'<|g'<|H'<|Ë ⟨j,g,l⟩ ⟨a,f,m⟩ (f1 z) (w1 z)
 rintro⟨o,k,s⟩ ⟨a,Z,F⟩
 refine a'<|sr<|δ z<|qX (r:=(Rp.int .u32)) (e:=250) 4011 F z (by rw[U]; rfl) (λai ah ac C aa=>?_)
 refine oE a λaj P a=>U' z z (x' r8 z) (zX P) (by rw[tz C]) ((tA C)) (λae ak ab t=>?_)
 obtain⟨ag,af,rfl,L⟩:=t
 refine θ z<|m' ?_
 obtain rfl:_=r:=a
 exact k' z z ⟨_,_,z,L⟩
theorem gk'{C y e c d f r}(a:(Ou C y).ο r):ä prog 233 #[.agg ((ι C e c)).toArray,.agg ((ι y d f)).toArray] (λG=>sl (Rp.int .u32) G e c C.Α/\sl (Rp.int .u32) G d f y.Α) (λG v=>∃ j k g l,v = .tuple #[.agg ((ι r.1 j k)).toArray,.agg ((ι r.2.1 g l)).toArray,i' r.2.2]/\sl (Rp.int .u32) G j k r.1.Α/\sl (Rp.int .u32) G g l r.2.1.Α):=by
 refine E' (args:=[_,_]) (N:=46) func233 z z z (λw0 G0 aw ab=>?_)
 obtain⟨M,x⟩:=ab
 refine sr<|ý 2 z z z λV=>ý 3 z z z λS=>T' 4 z oe z λW=>T' 5 z oe z λR=>θ z<|c'<|sr<|γ (jk z)<|γ (f' 3 jm z z z)<|γ (N' t' x z)<|γ (iI z z)<|nx<|J' a z (λai a=>?_) (λai a=>?_)
 .exact (show False from a).elim
 refine o'<|a'<|sr<|γ (jk z)<|γ (f' 2 jm z z z)<|γ (jk z)<|γ (f' 3 jm z z z)<|oE a λh ac a=>U' z z (x' Ay z) (Sa ac) z (⟨M,x⟩) (λap D ao I=>?_)
 obtain⟨q,o,p,t,rfl,O,s⟩:=I
 refine δ z<|Û z<|Û z<|ς z<|θ z<|k5 a (λ(⟨T,Q,P,E,B,A,u⟩:(Ŀ Int)×ŀ Addr×Nat×(Ŀ Int)×ŀ Addr×Nat×Mem)=>⟨[(2,Τ V),(3,Τ S),(4,Τ W),(5,Τ R),(7,ε Q T P),(8,ε B E A)],Nd C y T E,Mem.le D u/\sl (Rp.int .u32) u Q P T/\sl (Rp.int .u32) u B A E,St w0 G0 u [(2,Ξ V (ι C e c) 95),(3,Ξ S (ι y d f) 95),(4,Ξ W ([.bool false,.slice none 0 0]) 95),(5,Ξ R ([.bool false,.slice none 0 0]) 95)]⟩) ?_ ?_
 .refine k5 a (λ(⟨m,F⟩:Bool×Mem)=>⟨[(2,Τ V),(3,Τ S),(4,Τ W),(5,Τ R),(7,ε q h.1 o),(8,ε p h.2 t),(29,.bool m)],HB C y h m,Mem.le D F,St w0 G0 F [(2,Ξ V (ι C e c) 95),(3,Ξ S (ι y d f) 95),(4,Ξ W ([.bool false,.slice none 0 0]) 95),(5,Ξ R ([.bool false,.slice none 0 0]) 95)]⟩) ?_ ?_
  .refine p'<|γ (mM z)<|eZ a z (oM (f' 2 kX z z z) (ć Value.bool (nu _))) z (λam a=>?_) (λam a=>?_)
   .refine δ z<|Â z<|gy z z (N' t' s z) z<|gy z z (kr z z) z<|Δ z<|q'<|ia ⟨decide (0<(h.2.length:Int)),D⟩ ⟨a,mr⟩ (υ z) (w4 z z z z)
   refine δ z<|lu z<|Γ z<|q'<|ia ⟨false,D⟩ ⟨a,mr⟩ (υ z) (w4 z z z z)
  rintro⟨m,F⟩ ⟨a,n⟩
  refine iC a z (λak a=>?_) (λak a=>?_)
  .exact (show False from a).elim
  refine o'<|ia ⟨h.1,q,o,h.2,p,t,F⟩ ⟨a,n,(O.mono n),(s.mono n)⟩ (υ z) (w4 z z z z)
 rintro⟨T,Q,P,E,B,A,u⟩ ⟨a,an,aj,w⟩
 refine sr<|γ (mM z)<|γ (f' 2 kX z z z)<|γ (mM z)<|γ (f' 3 kX z z z)<|γ (Y0.tZ vl z z)<|δ z<|oE a λau Y a=>U' z z (x' pE z) (vm Y) z (aj) (λar ax X L=>?_)
 obtain⟨ae,ad,rfl,J⟩:=L
 refine δ z<|oE a λav Z a=>U' z z (x' pE z) (vm Z) z ((w.mono X)) (λaq ay U H=>?_)
 obtain⟨ag,af,rfl,K⟩:=H
 refine ø 4 lx z<|ø 5 lx z<|θ z<|m' ?_
 obtain rfl:_=r:=a
 exact rI z (hQ (i:=4) Ò z z z) (hQ (i:=5) Ò z z z) z ⟨_,_,_,_,z,(J.mono U),K⟩
theorem Sz{t q d c g f r}(a:(IB t q).ο r):ä prog 190 #[.agg ((ι t d c)).toArray,.agg ((ι q g f)).toArray] (λG=>sl (Rp.int .u32) G d c t.Α/\sl (Rp.int .u32) G g f q.Α) (jb r):=by
 refine E' (args:=[_,_]) (N:=16) func190 z z z (λH F B s=>?_)
 obtain⟨k,j⟩:=s
 refine sr<|ý 2 z z z λC=>ý 3 z z z λI=>T' 4 z oe z λE=>nr<|γ (w' 2 Ò z z z)<|γ (w' 3 Ò z z z)<|oE a λA u a=>U' z z (x' GM z) (gk' u) z (⟨k,j⟩) (λx y v h=>?_)
 obtain⟨p,o,l,m,rfl,e,n⟩:=h
 refine δ z<|Û z<|Û z<|Û z<|T' 5 z oe z λJ=>T' 6 z oe z λD=>ø 5 lx z<|ø 6 lx z<|ς z<|nr<|γ (w' 5 Ò z z z)<|ø 4 lx z<|nx<|m' ?_
 obtain rfl:_=r:=a
 exact k' z (hQ (i:=4) Ò z z z) ⟨_,_,z,e⟩
theorem Ss{P M o l p m r}(a:(Im P M).ο r):ä prog 124 #[.agg ((ι P o l)).toArray,.agg ((ι M p m)).toArray] (λG=>sl (Rp.int .u32) G o l P.Α/\sl (Rp.int .u32) G p m M.Α) (lq r):=by
 refine E' (args:=[_,_]) (N:=21) func124 z z z (λw0 G0 al V=>?_)
 obtain⟨y,n⟩:=V
 refine sr<|ý 2 z z z λX=>ý 3 z z z λw=>T' 4 z ru z λY=>nr<|γ (w' 2 Ò z z z)<|γ (w' 3 Ò z z z)<|oE a λZ W a=>U' z z (x' Ao z) (Sm W) z (⟨y,n⟩) (λad R u I=>?_)
 obtain⟨E,F,rfl,K⟩:=I
 refine T' 5 z oe z λb4=>ø 5 lx z<|nx<|k5 a (λ(⟨B,c,e,C⟩:Zi×ŀ Addr×Nat×Mem)=>⟨[(2,Τ X),(3,Τ w),(4,Τ Y),(5,Τ b4)],Ng P M B,Mem.le R C/\sl (Rp.int .u32) C c e B.Α,St w0 G0 C [(2,Ξ X (ι P o l) 95),(3,Ξ w (ι M p m) 95),(4,Ξ Y ([.bool false,.slice none 0 0,.bool false,.slice none 0 0]) 97),(5,Ξ b4 (ι B c e) 95)]⟩) ?_ ?_
 .refine sr<|γ (w' 3 Ò z z z)<|oE a λai T a=>I' z z (x' xg z) (KK T) z ((n.mono u))<|Ï z<|nx<|J' a z (λac a=>?_) (λac a=>?_)
  .exact (show False from a).elim
  refine o'<|ia ⟨Z,E,F,R⟩ ⟨a,mr,K⟩ (υ z) (w4 z z z z)
 rintro⟨B,c,e,C⟩ ⟨a,A,q⟩
 refine c'<|hZ [ff,ff,ff,ff,ff] gp (by kernel_rfl) λhb=>cn (λ_ k=>w' 2 Ò z z z)<|cn (λ_ k=>w' 5 Ò z z z)<|oE a λx S a=>mL (post:=jb x) (λ_=>z) (λ_ _=>x' Ap z) (Sz S) z (λG' k=>⟨((y.mono (mx u A)).mono k),(q.mono k)⟩) (λv G1 G2 k h=>?_) ?_
 .obtain⟨j,f,rfl,g⟩:=h
  exact⟨_,_,z,g.mono k⟩
 refine cu (λ_ _ k=>w' 3 Ò z z z)<|cu (λ_ _ k=>w' 5 Ò z z z)<|rG (d:=16) (post:=jb x) (λah aj D L=>?_)
 obtain⟨j,f,rfl,g⟩:=L
 refine oE a λO U a=>U' z z (x' Ap z) (Sz U) z (⟨(n.mono (mx (mx u A) D)),(q.mono D)⟩) (λag ak Q H=>?_)
 obtain⟨t,s,rfl,J⟩:=H
 refine γ (iK (vs:=#[(0,.agg ((ι x j f)).toArray),(1,.agg ((ι O t s)).toArray)]) (v:=.agg ([.bool x.neg,ε j x.Α f,.bool O.neg,ε t O.Α s]).toArray) z z (λ_=>by kernel_rfl))<|ø 4 mD z<|q'<|fh<|a'<|m' ?_
 obtain rfl:_=r:=a
 exact k' z (hQ (i:=4) kf z z z) ⟨_,_,_,_,z,(g.mono Q),J⟩
theorem gE'{q p m g k j l e c f r}(a:(JZ q p).ο r):ä prog 74 #[.agg ((χ q m g k j)).toArray,.agg ((χ p l e c f)).toArray] (λG=>sl (Rp.int .u32) G m g q.num.Α/\sl (Rp.int .u32) G k j q.den.Α/\sl (Rp.int .u32) G l e p.num.Α/\sl (Rp.int .u32) G c f p.den.Α) (lq r):=by
 refine E' (args:=[_,_]) (N:=16) func74 z z z (λw0 G0 af S=>?_)
 obtain⟨A,u,x,y⟩:=S
 refine sr<|ý 2 z z z λb2=>ý 3 z z z λb3=>T' 4 z ru z λb4=>nx<|c'<|hZ [ff,ff,ff,ff,ff,ff,ff,ff,ff] gp (by kernel_rfl) λhb=>cn (λ_ n=>pn z)<|cn (λ_ n=>gZ ((ι q.num m g)).toArray 2 Ò z z z (hC ([]) ((ι q.num m g)) ((ι q.den k j))))<|cn (λ_ n=>pn z)<|cn (λ_ n=>gZ ((ι p.num l e)).toArray 3 Ò z z z (hC ([]) ((ι p.num l e)) ((ι p.den c f))))<|oE a λP T a=>mL (post:=jb P) (λ_=>z) (λ_ _=>x' sV z) (Cv T) z (λG' n=>⟨(A.mono n),(x.mono n)⟩) (λv w G2 n h=>?_) ?_
 .obtain⟨C,D,rfl,o⟩:=h
  exact⟨_,_,z,o.mono n⟩
 refine cu (λ_ _ n=>oy z)<|cu (λ_ _ n=>gZ ((ι q.den k j)).toArray 2 Ò z z z (hC ((ι q.num m g)) ((ι q.den k j)) ([])))<|cu (λ_ _ n=>oy z)<|cu (λ_ _ n=>gZ ((ι p.den c f)).toArray 3 Ò z z z (hC ((ι p.num l e)) ((ι p.den c f)) ([])))<|rG (d:=9) (post:=jb P) (λX aa B F=>?_)
 obtain⟨C,D,rfl,o⟩:=F
 refine oE a λab Q a=>U' z z (x' sV z) (Cv Q) z (⟨(u.mono B),(y.mono B)⟩) (λZ ad L I=>?_)
 obtain⟨V,U,rfl,H⟩:=I
 refine oE a λac R a=>U' z z (x' Ae z) (Ss R) z (⟨(o.mono L),H⟩) (λY ae W E=>?_)
 obtain⟨O,K,M,J,rfl,t,s⟩:=E
 refine ø 4 mD z<|q'<|fh<|a'<|m' ?_
 obtain rfl:_=r:=a
 exact k' z (hQ (i:=4) kf z z z) ⟨_,_,_,_,z,t,s⟩
theorem SA{Z m1 p1 s t q A aa ac r}(a:(ID Z m1 p1).ο r):ä prog 32 #[.agg ((χ Z s t q A)).toArray,.agg (Ι m1).toArray,ε aa p1 ac] (λG=>sl (Rp.int .u32) G s t Z.num.Α/\sl (Rp.int .u32) G q A Z.den.Α/\sl n' G aa ac p1) (ny n' r):=by
 refine E' (args:=[_,_,_]) (N:=47) func32 z z z (λw0 G0 Y av=>?_)
 obtain⟨I,H,P⟩:=av
 refine sr<|ý 3 z z z λb1=>ý 4 z z z λb2=>ς z<|ς z<|nr<|jL (e:=159) (r:=n') (vs:=#[]) (cs:=[]) ([]:Ŀ Za) z z z z z (by decide) (λ_=>by kernel_rfl) (z) (key:=999) z (by rw[Y]; rfl) λp2 ab n aF=>θ z<|c'<|sr<|γ (w' 3 kf z z z)<|oE a λaV ap a=>I' z z (x' Dh z) (FN ap) z (⟨(I.mono n),(H.mono n)⟩)<|γ (iI z z)<|nx<|J' a z (λaM a=>?_) (λaM a=>?_)
 .refine sr<|ς z<|θ z<|m'<|b' ?_
  obtain rfl:_=r:=a
  exact l5 z z z ⟨_,_,z,(gi n' _)⟩
 refine o'<|a'<|c'<|sr<|θ z<|Z' (X:=(Ŀ Za)×ŀ Addr×Nat×ŀ Ow×Int×Mem) a (λ⟨y,D,C,E,w,M⟩=>⟨(y,w),[(2,ε aa p1 ac),(3,Τ b1),(4,Τ b2),(8,ε D y C),(9,i' w)],Mem.le ab M/\sl n' M D C y/\Tok 12 159 (ε D y C) y.length E,St w0 G0 M [(3,Ξ b1 (χ Z s t q A) 97),(4,Ξ b2 (Ι m1) 99),(1008,E)]⟩) (λ(⟨F,K,J,L,V⟩:(Ŀ Za)×ŀ Addr×Nat×ŀ Ow×Mem)=>⟨(.inr F),[(8,ε K F J)],Mem.le ab V/\sl n' V K J F/\Tok 12 159 (ε K F J) F.length L,St w0 G0 V [(1008,L)]⟩) ⟨[],p2,0,none,0,ab⟩ z (υ z) ⟨mr,aF,qC⟩ (wk (lc z (lc z (lw ln)))) ?_ ?_
 .rintro _ ⟨y,D,C,E,w,M⟩ ⟨m,S,O⟩ a
  refine c'<|sr<|δ z<|δ z<|γ (N' F' (P.mono (mx n m)) z)<|Ï z<|nx<|J' a z (λaC a=>?_) (λaC a=>?_)
  .refine o'<|a'<|c'<|V'<|c'<|hZ [ff,ff,ff,ff,ff,ff,ff,ff,ff,tt,ff] gp (by kernel_rfl) λhb=>cn (λ_ k=>w' 4 iL z z (M' _ _ _))<|ù z<|ù z<|oE a λx1 am a=>cn (λ_ k=>X' F' jA ((P.mono (mx n m)).mono k) z z am)<|cn (λ_ k=>lV z)<|cn (λ_ k=>jC _ iL z (M' _ _ _) (sO (R' (R' (pP (mi (Á P am))) (mx n m)) k)))<|oE a λB aq a=>sn z (λ_=>x' Tb z) (gD' aq) z (λG' k=>trivial)<|ù z<|cn (λ_ k=>P' z z)<|yl z (P' z z)<|uQ (λ_=>z) r5<|η.C4 hb λb3=>y' 10 z ov z z z (M' _ _ _) (M' _ _ _) (λu hu=>Rp.one (pt .i64 8) (G:=M) (x:=B.1) (cs:=Ι B.1) z u (by first|simpa using hu|simpa [Value.cells] using hu))<|ς z<|q'<|fh<|a'<|c'<|sr<|δ z<|γ (ly z z)<|nx<|J' a z (λaG a=>?_) (λaG a=>?_)
   .exact (show False from a).elim
   refine o'<|a'<|hZ [tt,ff,ff,ff,ff,ff,ff,ff,ff] gp (by kernel_rfl) λhb=>yl z (h' z)<|cn (λ_ k=>w' 3 kf z z z)<|ù z<|ù z<|oE a λx2 ah a=>cn (λ_ k=>X' F' jA ((P.mono (mx n m)).mono k) z z ah)<|cn (λ_ k=>oq z) ?_
   obtain⟨aj,ak,al,ai,ay,R,Q⟩:=wI (R' (qO (mi (Á P ah))) (mx n m))
   refine cn (λ_ k=>jC _ kf z z (λj v hv=>k _ _ _ (ay j v hv)))<|oE a λl au a=>mL (post:=lq l) (λ_=>z) (λ_ _=>x' Tc z) (gE' au) z (λG' k=>⟨((I.mono (mx n m)).mono k),((H.mono (mx n m)).mono k),(R.mono k),(Q.mono k)⟩) (λv G1 G2 k h=>?_) ?_
   .obtain⟨i,c,f,g,rfl,o,p⟩:=h
    exact⟨_,_,_,_,z,o.mono k,p.mono k⟩
   refine cu (λ_ _ k=>w' 10 iL z z (M' _ _ _))<|rG (d:=41) (post:=lq l) (λaQ aU U W=>?_)
   obtain⟨i,c,f,g,rfl,o,p⟩:=W
   refine γ (iK (vs:=#[(0,.agg ((χ l i c f g)).toArray),(1,.agg (Ι B.1).toArray)]) (v:=.agg (((χ l i c f g):Ŀ Value)++(Ι B.1)).toArray) z z (λ_=>by kernel_rfl))<|jL (e:=159) (r:=n') (vs:=#[(0,.agg (((χ l i c f g):Ŀ Value)++(Ι B.1)).toArray)]) (cs:=(((χ l i c f g):Ŀ Value)++(Ι B.1))++([])) ([(Za.mk l B.1)]:Ŀ Za) z z z z z (by decide) (λ_=>by kernel_rfl) ⟨((χ l i c f g):Ŀ Value)++(Ι B.1),[],z,⟨(χ l i c f g),Ι B.1,z,⟨(ι l.num i c),(ι l.den f g),z,⟨[.bool l.num.neg],[ε i l.num.Α c],z,z,⟨_,z,o⟩⟩,⟨[.bool l.den.neg],[ε f l.den.Α g],z,z,⟨_,z,p⟩⟩⟩,z⟩,z⟩ (key:=999) z (by rw[Y]; rfl) (λp3 aT T aE=>?_)
   refine oA a λao a=>nt (r:=n') 1008 z z F' oh z (by decide) z z (S.mono (mx U T)) z (by rw[Y]; rfl) O aE ao λp4 aB aw aJ ad az an=>ς z<|q'<|fh<|A'<|a'<|p'<|δ z<|é z<|ς z<|q'<|K' ⟨(y++[(Za.mk l B.1)]),p4,aB,aw,i64.wrap (w+1),aJ⟩ a ⟨(mx (mx (mx m U) T) ad),az,an⟩ (υ z) (w3 z z z)
  refine Æ<|g'<|g'<|H'<|Ë ⟨y,D,C,E,M⟩ ⟨a,m,S,O⟩ (f1 z) (w1 z)
 rintro⟨F,K,J,L,V⟩ ⟨a,aN,ag,aD⟩
 refine a'<|sr<|δ z<|ς z<|θ z<|m' ?_
 obtain rfl:_=r:=a
 exact l5 z z z ⟨_,_,z,ag⟩
theorem uO{l O r}(a:(ZV l O).ο r):ä prog 12 #[i' l,i' O] (λG=>True) (λG v=>∃ D F,v = .agg ((þ r.id D r.p F)).toArray/\sl n' G D F r.p):=by
 refine E' (args:=[_,_]) (N:=19) func12 z z z λw0 G0 ae V=>sr<|T' 4 z z51 z λb1=>nr<|oE a λab M a=>U' z z (x' Dg z) (FM M) z (trivial) (λR Y Q o=>?_)
 obtain⟨x,B,t,A,rfl,c,d⟩:=o
 refine δ z<|oE a λZ H a=>I' z z (x' SS z) (go' H) z (trivial)<|oE a λad K a=>U' z z (x' Dg z) (FM K) z (trivial) (λU af k n=>?_)
 obtain⟨C,u,y,s,rfl,f,e⟩:=n
 refine oE a λw J a=>U' z z (x' SU z) (fQ' J) z (⟨f,e⟩) (λS ac j p=>?_)
 obtain⟨X,W,rfl,L⟩:=p
 refine oE a λE I a=>U' z z (x' LW z) (SA I) z (⟨(c.mono (mx k j)),(d.mono (mx k j)),L⟩) (λT ag P m=>?_)
 obtain⟨g,h,rfl,q⟩:=m
 refine δ z<|Û z<|Û z<|ς z<|ς z<|nr<|δ z<|δ z<|γ (iK (vs:=#[(0,i' l),(1,ε g E.1 h)]) (v:=.agg ([i' l,ε g E.1 h]).toArray) z z (λ_=>by kernel_rfl))<|ø 4 ng z<|nx<|m' ?_
 obtain rfl:_=r:=a
 exact k' z (hQ (i:=4) k6 z z z) ⟨_,_,z,q⟩
theorem yx{c h d g f r}(a:(wc c h d).ο r):ä prog 11 #[.string c,ε g h f,i' d] (λG=>sl j' G g f h) (mI r):=by
 refine E' (args:=[_,_,_]) (N:=12) func11 z z z (λs t n k=>?_)
 have l:=k
 refine sr<|T' 6 z na z λq=>nr<|δ z<|jL (e:=9) (r:=Rp.str) (vs:=#[(0,.string c)]) (cs:=[.string c]++([])) ([c]:Ŀ Ĳ) z z z z z (by decide) (λ_=>by kernel_rfl) ⟨[.string c],[],z,z,z⟩ (key:=999) z (by rw[n]; rfl) λm p j o=>δ z<|δ z<|γ (iK (vs:=#[(0,.slice m 1 1),(1,ε g h f),(3,i' d)]) (v:=.agg ([.slice m 1 1,ε g h f,.slice none 0 0,i' d]).toArray) z z (λ_=>by kernel_rfl))<|ø 6 jB z<|nx<|m' ?_
 obtain rfl:_=r:=a
 exact k' z (hQ (i:=6) ÿ z z z) ⟨_,_,_,_,_,_,z,o,(l.mono j),(gi j' _)⟩
theorem fG'{e r}(a:(DT e).ο r):ä prog 83 #[.int .i32 e] (λG=>True) (λG v=>v = .bool r):=by
 refine E' (args:=[_]) (N:=13) func83 z z z λh i g f=>sr<|ς z<|nr<|δ z<|eZ a z (oo z z) z (λc a=>?_) (λc a=>?_)
 .refine δ z<|Â z<|eZ a (W' z z) (oo z z) z (λd a=>?_) (λd a=>?_)
  .refine Δ z<|δ z<|lk z<|Δ z<|θ z<|m' (Μ a z z)
  refine Δ z<|δ z<|Â z<|gy z z (iI z z) z<|Γ z<|θ z<|m' (Μ a z z)
 refine δ z<|lk z<|Γ z<|δ z<|Â z<|gy z z (iI z z) z<|Γ z<|θ z<|m' (Μ a z z)
theorem fH'{f r}(a:(DS f).ο r):ä prog 40 #[.string f] (λG=>True) (λG v=>v = .bool r):=by
 refine E' (args:=[_]) (N:=45) func40 z z z λo l J H=>sr<|θ z<|k5 a (λ(p:Mem)=>match p with|g=>⟨[(0,.string f)],MG f,Mem.le l g,St o l g []⟩) ?_ ?_
 .refine sr<|δ z<|γ (Y0.tX qq z)<|eZ a z (nb z z) z (λy a=>?_) (λy a=>?_)
  .refine δ z<|lu z<|Δ z<|nx<|iS z<|sr<|θ z<|m'<|b' (Μ a z z)
  refine δ z<|Â z<|gy z z (Y0.tX qq z) z<|gy z z (kr z z) z<|Γ z<|nx<|J' a z (λu a=>?_) (λu a=>?_)
  .refine sr<|θ z<|m'<|b' (Μ a z z)
  refine o'<|ia l ⟨a,mr⟩ (f1 z) (wk ln)
 rintro g ⟨a,E⟩
 refine c'<|sr<|δ z<|WL.yH 4015 z z qq z λj=>nx<|Z' (X:=Nat×Mem) a (λ⟨c,d⟩=>⟨c,[(15,Τ j)],Mem.le g d,St o l d [(4015,(some ⟨j,.stringIter f c,0⟩))]⟩) (λ(p:Mem)=>match p with|n=>⟨(.inr ()),[],Mem.le g n,St o l n []⟩) ⟨0,g⟩ z (f1 z) mr (w1 z) ?_ ?_
 .rintro _ ⟨c,d⟩ h a
  refine sr<|WL.CO 4015 z z z z (λm=>?_) (λm=>?_)
  .replace a:=a.pos m
   refine Û z<|nx<|c'<|iS z<|o'<|a'<|V'<|sr<|Û z<|Û z<|ς z<|θ z<|k5 a (λ(⟨e,i⟩:Bool×Mem)=>⟨[(3,i' (c:Int)),(4,.int .i32 ((Utf8.decode f c).1:Int)),(5,.bool e),(15,Τ j)],ZS f c e,Mem.le d i,St o l i [(4015,(some ⟨j,.stringIter f (c+(Utf8.decode f c).2),0⟩))]⟩) ?_ ?_
   .refine p'<|δ z<|eZ a z (oo z z) z (λC a=>?_) (λC a=>?_)
    .refine δ z<|Â z<|eZ a (W' z z) (oo z z) z (λA a=>?_) (λA a=>?_)
     .refine Δ z<|δ z<|lu z<|jD (jE z z) z<|jD (jE z z) z<|sf z z z<|Δ z<|ς z<|q'<|ia ⟨true,d⟩ ⟨a,mr⟩ (υ z) (w1 z)
     refine Δ z<|δ z<|Â z<|eZ a (W' z z) (oo z z) z (λt a=>?_) (λt a=>?_)
     .refine Â z<|Â z<|gy z z (oo z z) z<|gy z z (C' z z) z<|Γ z<|ς z<|q'<|ia ⟨decide (((Utf8.decode f c).1:Int)<=122),d⟩ ⟨a,mr⟩ (υ z) (w1 z)
     refine Â z<|lk z<|gy z z (D' z z) z<|Γ z<|ς z<|q'<|ia ⟨false,d⟩ ⟨a,mr⟩ (υ z) (w1 z)
    refine δ z<|lk z<|Γ z<|δ z<|Â z<|eZ a (W' z z) (oo z z) z (λs a=>?_) (λs a=>?_)
    .refine Â z<|Â z<|gy z z (oo z z) z<|gy z z (C' z z) z<|Γ z<|ς z<|q'<|ia ⟨decide (((Utf8.decode f c).1:Int)<=122),d⟩ ⟨a,mr⟩ (υ z) (w1 z)
    refine Â z<|lk z<|gy z z (D' z z) z<|Γ z<|ς z<|q'<|ia ⟨false,d⟩ ⟨a,mr⟩ (υ z) (w1 z)
   rintro⟨e,i⟩ ⟨a,k⟩
   refine sr<|eZ a z (oM (h' z) (ć Value.bool (nu _))) z (λB a=>?_) (λB a=>?_)
   .refine γ (gP z)<|δ z<|lu z<|jD (jE z z) z<|jD (jE z z) z<|jD (jE z z) z<|sk z z z<|Γ z<|nx<|lJ z<|o'<|A'<|K' ⟨(c+(Utf8.decode f c).2),i⟩ a (mx h k) (f1 z) (w1 z)
   refine γ (gP z)<|δ z<|Â z<|eZ a (W' z z) (iI z z) z (λx a=>?_) (λx a=>?_)
   .refine Â z<|lu z<|gy z z (C' z z) z<|Δ z<|nx<|iS z<|sr<|θ z<|m'<|B'<|b'<|B'<|jl<|b' (Μ a z z)
   refine Â z<|Â z<|oE a λI q a=>I' (W' z z) z (x' Ti z) (fG' q) z (trivial)<|gy z z (gP z) z<|gy z z (D' z z) z<|Δ z<|nx<|iC a z (λD a=>?_) (λD a=>?_)
   .refine sr<|θ z<|m'<|B'<|b'<|B'<|jl<|b' (Μ a z z)
   refine o'<|A'<|K' ⟨(c+(Utf8.decode f c).2),i⟩ a (mx h k) (f1 z) (w1 z)
  replace a:=a.neg m
  refine Û z<|nx<|c'<|lJ z<|Æ<|g'<|g'<|H'<|Ë d ⟨a,h⟩ fn (wk ln)
 rintro n ⟨a,F⟩
 refine a'<|sr<|θ z<|m' (Μ a z z)
theorem FH{c m l i j g f r}(a:(wb c).ο r):ä prog 17 #[.agg ((Ρ c m l i j g f)).toArray] (λG=>od G m l i j g f c) (λG v=>v = .bool r):=by
 refine E' (args:=[_]) (N:=108) func17 z z z (λT K aP aI=>?_)
 obtain⟨n,U,Q⟩:=aI
 refine sr<|ý 1 z z z λt=>θ z<|k5 a (λ(V:Mem)=>match V with|J=>⟨[(1,Τ t)],MZ c,Mem.le K J,St T K J [(1,Ξ t (Ρ c m l i j g f) 29)]⟩) ?_ ?_
 .refine sr<|γ (lI z)<|γ (f' 1 lr z z z)<|γ (N' Q' n z)<|eZ a z (kr z z) z (λa5 a=>?_) (λa5 a=>?_)
  .refine δ z<|lu z<|Δ z<|δ z<|lu z<|Δ z<|nx<|iS z<|sr<|θ z<|m'<|b' (Μ a z z)
  refine δ z<|gy z z (pq z) z<|gy z z (f' 1 ñ z z z) z<|eZ a (W' z z) (nb z z) z (λaZ a=>?_) (λaZ a=>?_)
  .refine Γ z<|δ z<|lu z<|Δ z<|nx<|iS z<|sr<|θ z<|m'<|b' (Μ a z z)
  refine Γ z<|δ z<|gy z z (pq z) z<|gy z z (f' 1 ñ z z z) z<|gy z z (kr z z) z<|Γ z<|nx<|J' a z (λaU a=>?_) (λaU a=>?_)
  .refine sr<|θ z<|m'<|b' (Μ a z z)
  refine o'<|ia K ⟨a,mr⟩ (f1 z) (w1 z)
 rintro J ⟨a,s⟩
 refine sr<|wH (ky:=tV) (Rv:=qn Rp.bool J) 4025 z z λav ao ay=>θ z<|c'<|sr<|γ (lI z)<|γ (f' 1 lr z z z)<|γ (N' Q' (n.mono s) z)<|δ z<|nx<|Z' (X:=Int×(Ŀ (Ĳ×Bool))×ŀ Ow×Mem) a (λ⟨B,Y,O,I⟩=>⟨(B,Y),[(1,Τ t),(27,ε m c.vars l),(28,i' (c.vars.length:Int)),(29,i' B),(3,.map (some av))],Mem.le J I/\ü tV (qn Rp.bool I) (.map (some av)) Y O,St T K I [(1,Ξ t (Ρ c m l i j g f) 29),(4025,O)]⟩) (λ(V:Mem)=>match V with|ab=>⟨(.inr ()),[(1,Τ t)],Mem.le J ab,St T K ab [(1,Ξ t (Ρ c m l i j g f) 29)]⟩) ⟨0,[],ao,J⟩ z (υ z) ⟨mr,ay⟩ (w2 z z) ?_ ?_
 .rintro _ ⟨B,Y,O,I⟩ ⟨C,ak⟩ a
  refine sr<|Ï z<|nx<|c'<|J' a z (λaW a=>?_) (λaW a=>?_)
  .refine o'<|a'<|c'<|V'<|sr<|oE a λx4 ar a=>γ (X' Q' nJ (n.mono (mx s C)) z z ar)<|γ (il ou z (qQ (R' (Á n ar) (mx s C))))<|θ z<|c'<|sr<|δ z<|oE a λaR aD a=>I' z z (x' SX z) (fH' aD) z (trivial) ?_
   cases aR
   .refine γ (gP z)<|δ z<|lu z<|Δ z<|nx<|iS z<|sr<|θ z<|m'<|b'<|B'<|b'<|b'<|B'<|jl<|b' (Μ a z z)
   refine γ (gP z)<|δ z<|Â z<|Â z<|oA a λa1 a=>gy z z (Y0.rN (mk:=Value.bool) (k:=x4) 4025 false (λh=>QH h) Fw SI ak z z z a1) z<|Γ z<|nx<|iC a z (λaN a=>?_) (λaN a=>?_)
   .refine sr<|θ z<|m'<|b'<|B'<|b'<|b'<|B'<|jl<|b' (Μ a z z)
   refine o'<|a'<|p'<|δ z<|δ z ?_
   obtain⟨⟨a6,aA⟩,a⟩:=a
   refine wL (Rv':=qn Rp.bool I) (k:=x4) (z:=true) 4025 z Fw ak z z z z a6 z (λ_ _ _ _ h=>h) aA λa4 aC=>q'<|A'<|a'<|p'<|é z<|δ z<|q'<|K' ⟨i64.wrap (B+1),(Ñ Y x4 true),a4,I⟩ a ⟨C,aC⟩ (υ z) (w2 z z)
  refine Æ<|g'<|g'<|H'<|Ë I ⟨a,C⟩ (f1 z) (w1 z)
 rintro ab ⟨a,P⟩
 refine a'<|sr<|wH (ky:=oi) (Rv:=qn Rp.bool ab) 4044 z z λH ap aK=>θ z<|c'<|sr<|γ (mf z)<|γ (f' 1 jV z z z)<|γ (mN z)<|γ (f' 1 jV z z z)<|jL (e:=27) (r:=(Rp.sl j')) (vs:=#[(0,ε i c.eqs j),(1,ε g c.ζ f)]) (cs:=[ε i c.eqs j]++([ε g c.ζ f]++([]))) ([c.eqs,c.ζ]:Ŀ (Ŀ Zc)) z z z z z (by decide) (λ_=>by kernel_rfl) ⟨[ε i c.eqs j],[ε g c.ζ f]++([]),z,⟨_,z,(U.mono (mx s P))⟩,⟨[ε g c.ζ f],[],z,⟨_,z,(Q.mono (mx s P))⟩,z⟩⟩ (key:=999) z (by rw[aP]; rfl) λp1 aj ad ai=>γ (N' underlying118 ai z)<|δ z<|nx<|Z' (X:=Int×(Ŀ (Int×Bool))×ŀ Ow×Mem) a (λ⟨o,ac,D,y⟩=>⟨(o,ac),[(1,Τ t),(49,.slice p1 2 2),(50,i' ([c.eqs,c.ζ].length:Int)),(51,i' o),(6,.map (some H))],Mem.le aj y/\ü oi (qn Rp.bool y) (.map (some H)) ac D,St T K y [(1,Ξ t (Ρ c m l i j g f) 29),(4044,D)]⟩) (λ(V:Mem)=>match V with|ah=>⟨(.inr ()),[],Mem.le aj ah,St T K ah []⟩) ⟨0,[],ap,aj⟩ z (υ z) ⟨mr,(yw aK ad)⟩ (w2 z z) ?_ ?_
 .rintro _ ⟨o,ac,D,y⟩ ⟨u,aF⟩ a
  refine sr<|Ï z<|nx<|c'<|J' a z (λba a=>?_) (λba a=>?_)
  .refine o'<|a'<|c'<|V'<|sr<|oE a λw aw a=>γ (X' underlying118 lU (ai.mono u) z z aw) ?_
   obtain⟨p2,aa,a0,M⟩:=qA (R' (Á ai aw) u)
   refine γ (il jV z (a0))<|θ z<|c'<|sr<|δ z<|γ (N' jG M z)<|γ (kr z z)<|nx<|J' a z (λaT a=>?_) (λaT a=>?_)
   .refine sr<|θ z<|m'<|b'<|B'<|b'<|b'<|B'<|jl<|b' (Μ a z z)
   refine o'<|a'<|sr<|δ z<|γ (N' jG M z)<|δ z<|nx<|Z' (X:=Int×(Ŀ (Int×Bool))×ŀ Ow×Mem) a (λ⟨q,L,x,A⟩=>⟨(q,L),[(1,Τ t),(8,ε p2 w aa),(49,.slice p1 2 2),(50,i' ([c.eqs,c.ζ].length:Int)),(51,i' o),(58,ε p2 w aa),(59,i' (w.length:Int)),(60,i' q),(6,.map (some H))],Mem.le y A/\ü oi (qn Rp.bool A) (.map (some H)) L x,St T K A [(1,Ξ t (Ρ c m l i j g f) 29),(4044,x)]⟩) (λ(⟨Z,F,R⟩:(Ŀ (Int×Bool))×ŀ Ow×Mem)=>⟨(.inr Z),[(1,Τ t),(49,.slice p1 2 2),(50,i' ([c.eqs,c.ζ].length:Int)),(51,i' o),(6,.map (some H))],Mem.le y R/\ü oi (qn Rp.bool R) (.map (some H)) Z F,St T K R [(1,Ξ t (Ρ c m l i j g f) 29),(4044,F)]⟩) ⟨0,ac,D,y⟩ z (υ z) ⟨mr,aF⟩ (w2 z z) ?_ ?_
   .rintro _ ⟨q,L,x,A⟩ ⟨p,W⟩ a
    refine sr<|Ï z<|nx<|c'<|J' a z (λaY a=>?_) (λaY a=>?_)
    .refine o'<|a'<|c'<|V'<|sr<|δ z<|oE a λx2 aq a=>γ (X' jG ng (M.mono p) z z aq) ?_
     obtain⟨aE,aG,aO,aJ⟩:=uN (R' (Á M aq) p)
     refine γ (jC _ k6 z z aO)<|T' 10 z z51 z λb2=>ς z<|ø 10 ng z<|nx<|k5 a (λ(V:Mem)=>match V with|S=>⟨[(1,Τ t),(8,ε p2 w aa),(10,Τ b2),(49,.slice p1 2 2),(50,i' ([c.eqs,c.ζ].length:Int)),(51,i' o),(58,ε p2 w aa),(59,i' (w.length:Int)),(60,i' q),(6,.map (some H))],Dv c q L x2,Mem.le A S,St T K S [(1,Ξ t (Ρ c m l i j g f) 29),(10,Ξ b2 (þ x2.id aE x2.p aG) 51),(4044,x)]⟩) ?_ ?_
     .refine c'<|hZ [ff,ff,ff,ff,ff,ff,ff,ff,ff,ff,ff,ff,ff,ff,ff,ff,ff,ff,ff,ff,ff,ff,ff,ff,ff,ff,ff,ff] gp (by kernel_rfl) λhb=>cn (λ_ d=>oY z)<|cn (λ_ d=>f' 10 ñ z z z)<|su a z (λ_ d=>nb z z) (λa9 a=>?_) (λa9 a=>?_)
      .refine ù z<|cf z z<|cf z z<|cf z z<|cf z z<|cf z z<|cn (λ_ d=>C' z z)<|ù z<|cf z z<|cf z z<|cf z z<|cf z z<|cn (λ_ d=>C' z z)<|ù z<|cf z z<|cf z z<|cf z z<|cs z z<|cs z z<|cs z z<|cs z z<|cs z z<|cs z z<|cs z z<|cs z z<|jz hb<|jD (jE z z) z<|sf z z z<|Δ z<|q'<|fh<|a'<|iS z<|sr<|θ z<|m'<|b'<|B'<|b'<|b'<|B'<|jl<|B'<|b'<|b'<|B'<|jl<|b' (Μ a z z)
      refine ù z<|cy z z (λ_ d=>oY z)<|cy z z (λ_ d=>f' 10 ñ z z z)<|cy z z (λ_ d=>pq z)<|cy z z (λ_ d=>f' 1 ñ z z z)<|su a (W' z z) (λ_ d=>kO z z) (λaV a=>?_) (λaV a=>?_)
      .refine cn (λ_ d=>D' z z)<|ù z<|cf z z<|cf z z<|cf z z<|cf z z<|cn (λ_ d=>C' z z)<|ù z<|cf z z<|cf z z<|cf z z<|cs z z<|cs z z<|cs z z<|cs z z<|cs z z<|cs z z<|cs z z<|cs z z<|jz hb<|jD (jE z z) z<|sf z z z<|Δ z<|q'<|fh<|a'<|iS z<|sr<|θ z<|m'<|b'<|B'<|b'<|b'<|B'<|jl<|B'<|b'<|b'<|B'<|jl<|b' (Μ a z z)
      refine cn (λ_ d=>D' z z)<|ù z<|cy z z (λ_ d=>h' z)<|cy z z (λ_ d=>oY z)<|cy z z (λ_ d=>f' 10 ñ z z z)<|oA a λaQ a=>su a (W' z z) (λ_ d=>oM (Y0.rN (mk:=Value.bool) (k:=x2.id) 4044 false (λh=>QH h) underlying117 SI (yw W d) z z z aQ) (ć Value.bool (nu _))) (λaX a=>?_) (λaX a=>?_)
      .refine cn (λ_ d=>D' z z)<|ù z<|cf z z<|cf z z<|cf z z<|cs z z<|cs z z<|cs z z<|cs z z<|cs z z<|cs z z<|cs z z<|cs z z<|jz hb<|jD (jE z z) z<|sf z z z<|Δ z<|q'<|fh<|a'<|iS z<|sr<|θ z<|m'<|b'<|B'<|b'<|b'<|B'<|jl<|B'<|b'<|b'<|B'<|jl<|b' (Μ a z z)
      refine cn (λ_ d=>D' z z)<|ù z<|cy z z (λ_ d=>h' z)<|su a (W' z z) (λ_ d=>kr z z) (λa8 a=>?_) (λa8 a=>?_)
      .refine cy z z (λ_ d=>h' z)<|cy z z (λ_ d=>oY z)<|cy z z (λ_ d=>f' 10 ñ z z z)<|cy z z (λ_ d=>h' z)<|cy z z (λ_ d=>h' z)<|cy z z (λ_ d=>nU z z)<|oE a λx3 au a=>cy z z (λ_ d=>X' jG ng ((M.mono p).mono d) z z au)<|cy z z (λ_ d=>oY z)<|cy z z (λ_ d=>il ñ z (lH (R' (R' (qO (mi (Á M au))) p) d)))<|jz hb<|gy z z (oo z z) z<|gy z z (C' z z) z<|Γ z<|q'<|fh<|a'<|J' a z (λa3 a=>?_) (λa3 a=>?_)
       .refine sr<|θ z<|m'<|b'<|B'<|b'<|b'<|B'<|jl<|B'<|b'<|b'<|B'<|jl<|b' (Μ a z z)
       refine o'<|ia A ⟨a,mr⟩ (f10 z z z z z z z z z z) (w3 z z z)
      refine cy z z (λ_ d=>h' z)<|ct z z<|ct z z<|ct z z<|ct z z<|ct z z<|ct z z<|ct z z<|ct z z<|jz hb<|sk z z z<|gy z z (D' z z) z<|Γ z<|q'<|fh<|a'<|lJ z<|o'<|ia A ⟨a,mr⟩ (f10 z z z z z z z z z z) (w3 z z z)
     rintro S ⟨a,E⟩
     refine sr<|δ z<|γ (oY z)<|γ (f' 10 ñ z z z) ?_
     obtain⟨⟨a2,aL⟩,a⟩:=a
     refine wL (Rv':=qn Rp.bool S) (k:=x2.id) (z:=true) 4044 z underlying117 (yw W E) z z z z a2 z (λ_ _ _ _ h=>h) aL λaM aH=>nr<|γ (sN z)<|γ (f' 10 ij z z z)<|γ (lI z)<|γ (f' 1 lr z z z)<|γ (N' Q' (n.mono (mx (mx (mx (mx (mx s P) ad) u) p) E)) z)<|oE a λbc aB a=>I' z z (x' LZ z) (R9 aB) z ((aJ.mono E))<|γ (gP z)<|nx<|iC a z (λaS a=>?_) (λaS a=>?_)
     .refine sr<|θ z<|m'<|B'<|b'<|b'<|B'<|jl<|B'<|b'<|b'<|B'<|jl<|b' (Μ a z z)
     refine o'<|A'<|a'<|p'<|é z<|δ z<|q'<|K' ⟨i64.wrap (q+1),(Ñ L x2.id true),aM,S⟩ a ⟨(mx p E),aH⟩ (υ z) (w2 z z)
    refine Æ<|g'<|g'<|H'<|Ë ⟨L,x,A⟩ ⟨a,p,W⟩ (υ z) (w2 z z)
   rintro⟨Z,F,R⟩ ⟨a,am,ax⟩
   refine A'<|a'<|p'<|é z<|δ z<|q'<|K' ⟨i64.wrap (o+1),Z,F,R⟩ a ⟨(mx u am),ax⟩ (υ z) (w2 z z)
  refine Æ<|g'<|g'<|H'<|Ë y ⟨a,u⟩ fn (wk ln)
 rintro ah ⟨a,bb⟩
 refine a'<|sr<|θ z<|m' (Μ a z z)
theorem fC'{h g e d c f r}(a:(Dr h g).ο r):ä prog 42 #[.agg ((þ h.id e h.p d)).toArray,.agg ((þ g.id c g.p f)).toArray] (λG=>sl n' G e d h.p/\sl n' G c f g.p) (λG v=>v = .bool r):=by
 refine E' (args:=[_,_]) (N:=17) func42 z z z (λs q o j=>?_)
 obtain⟨i,k⟩:=j
 refine sr<|ý 2 z z z λp=>ý 3 z z z λt=>ς z<|nr<|γ (oY z)<|γ (f' 2 ñ z z z)<|γ (oY z)<|γ (f' 3 ñ z z z)<|eZ a z (iI z z) z (λm a=>?_) (λm a=>?_)
 .refine δ z<|gy z z (sN z) z<|gy z z (f' 2 ij z z z) z<|gy z z (sN z) z<|gy z z (f' 3 ij z z z) z<|oE a λn l a=>I' (W' z z) z (x' AD z) (AP _ _ _ _ _ _ _ l) z (⟨i,k⟩)<|Δ z<|θ z<|m' (Μ a z z)
 refine δ z<|pd z<|Γ z<|θ z<|m' (Μ a z z)
theorem RQ{g m h i j k r}(a:(ZU g m).ο r):ä prog 44 #[ε h g i,ε j m k] (λG=>sl Rp.str G h i g/\sl Rp.str G j k m) (λG v=>v = .bool r):=by
 refine E' (args:=[_,_]) (N:=26) func44 z z z (λx o E t=>?_)
 obtain⟨f,l⟩:=t
 refine sr<|θ z<|c'<|sr<|δ z<|γ (N' Q' f z)<|δ z<|γ (N' Q' l z)<|γ (ly z z)<|nx<|J' a z (λA a=>?_) (λA a=>?_)
 .refine sr<|θ z<|m'<|b' (Μ a z z)
 refine o'<|a'<|c'<|sr<|δ z<|γ (N' Q' f z)<|δ z<|nx<|Z' (X:=Int×Mem) a (λ⟨e,n⟩=>⟨e,[(0,ε h g i),(1,ε j m k),(12,i' (g.length:Int)),(13,i' e)],Mem.le o n,St x o n []⟩) (λ(D:Mem)=>match D with|p=>⟨(.inr ()),[],Mem.le o p,St x o p []⟩) ⟨0,o⟩ z (υ z) mr (wk ln) ?_ ?_
 .rintro _ ⟨e,n⟩ d a
  refine sr<|Ï z<|nx<|c'<|J' a z (λu a=>?_) (λu a=>?_)
  .refine o'<|a'<|c'<|V'<|sr<|δ z<|θ z<|c'<|hZ [ff,ff,ff,ff,ff,ff,ff,ff] gp (by kernel_rfl) λC=>ù z<|ù z<|oE a λH s a=>cn (λ_ c=>X' Q' nJ ((f.mono d).mono c) z z s)<|cn (λ_ c=>il ou z (qQ (R' (R' (Á f s) d) c)))<|ù z<|ù z<|oE a λF q a=>cn (λ_ c=>X' Q' nJ ((l.mono d).mono c) z z q)<|cn (λ_ c=>il ou z (qQ (R' (R' (Á l q) d) c)))<|jz C<|γ (Y0.CN qq z z)<|q'<|fh<|a'<|J' a z (λy a=>?_) (λy a=>?_)
   .refine sr<|θ z<|m'<|B'<|b'<|b'<|B'<|jl<|b' (Μ a z z)
   refine o'<|A'<|a'<|p'<|é z<|δ z<|q'<|K' ⟨i64.wrap (e+1),n⟩ a d (υ z) (wk ln)
  refine Æ<|g'<|g'<|H'<|Ë n ⟨a,d⟩ fn (wk ln)
 rintro p ⟨a,B⟩
 refine a'<|sr<|θ z<|m' (Μ a z z)
theorem RK{f l g h i j r}(a:(Zq f l).ο r):ä prog 45 #[ε g f h,ε i l j,.func (.func 42) #[] #[]] (λG=>sl j' G g h f/\sl j' G i j l) (λG v=>v = .bool r):=by
 refine E' (args:=[_,_,_]) (N:=32) func45 z z z (λC n O t=>?_)
 obtain⟨d,k⟩:=t
 refine sr<|θ z<|c'<|sr<|δ z<|γ (N' jG d z)<|δ z<|γ (N' jG k z)<|γ (ly z z)<|nx<|J' a z (λA a=>?_) (λA a=>?_)
 .refine sr<|θ z<|m'<|b' (Μ a z z)
 refine o'<|a'<|c'<|sr<|δ z<|γ (N' jG d z)<|δ z<|nx<|Z' (X:=Int×Mem) a (λ⟨e,m⟩=>⟨e,[(1,ε i l j),(2,.func (.func 42) #[] #[]),(15,ε g f h),(16,i' (f.length:Int)),(17,i' e)],Mem.le n m,St C n m []⟩) (λ(K:Mem)=>match K with|o=>⟨(.inr ()),[],Mem.le n o,St C n o []⟩) ⟨0,n⟩ z (υ z) mr (wk ln) ?_ ?_
 .rintro _ ⟨e,m⟩ c a
  refine sr<|Ï z<|nx<|c'<|J' a z (λB a=>?_) (λB a=>?_)
  .refine o'<|a'<|c'<|V'<|sr<|δ z<|oE a λS q a=>γ (X' jG ng (d.mono c) z z q) ?_
   obtain⟨I,J,D,u⟩:=uN (R' (Á d q) c)
   refine γ (jC _ k6 z z D)<|T' 8 z z51 z λP=>ς z<|ø 8 ng z<|nr<|δ z<|δ z<|oE a λR p a=>γ (X' jG ng (k.mono c) z z p) ?_
   obtain⟨L,H,y,s⟩:=uN (R' (Á k p) c)
   refine γ (jC _ k6 z z y)<|T' 9 z z51 z λQ=>ø 9 ng z<|nr<|δ z<|γ (w' 8 k6 z z z)<|γ (w' 9 k6 z z z)<|oE a λM x a=>I' z z (YC.vE SY z z) (fC' x) z (⟨u,s⟩)<|γ (gP z)<|nx<|iC a z (λE a=>?_) (λE a=>?_)
   .refine sr<|θ z<|m'<|B'<|b'<|b'<|B'<|jl<|b' (Μ a z z)
   refine o'<|A'<|a'<|p'<|é z<|δ z<|q'<|K' ⟨i64.wrap (e+1),m⟩ a c (υ z) (wk ln)
  refine Æ<|g'<|g'<|H'<|Ë m ⟨a,c⟩ fn (wk ln)
 rintro o ⟨a,F⟩
 refine a'<|sr<|θ z<|m' (Μ a z z)
theorem KT{x t h g m k i e c j l n f d r}(a:(zh x t).ο r):ä prog 18 #[.agg ((Ρ x h g m k i e)).toArray,.agg ((Ρ t c j l n f d)).toArray] (λG=>sl Rp.str G h g x.vars/\sl j' G m k x.eqs/\sl j' G i e x.ζ/\od G c j l n f d t) (λG v=>v = .bool r):=by
 refine E' (args:=[_,_]) (N:=34) func18 z z z (λM L J C=>?_)
 obtain⟨o,u,q,p,y,s⟩:=C
 refine sr<|ý 2 z z z λO=>ý 3 z z z λK=>ς z<|nr<|ς z<|nr<|γ (pq z)<|γ (f' 2 ñ z z z)<|γ (pq z)<|γ (f' 3 ñ z z z)<|eZ a z (iI z z) z (λH a=>?_) (λH a=>?_)
 .refine δ z<|gy z z (lI z) z<|gy z z (f' 2 lr z z z) z<|gy z z (lI z) z<|gy z z (f' 3 lr z z z) z<|oE a λF D a=>I' (W' z z) z (x' L3 z) (RQ D) z (⟨o,p⟩) ?_
  cases F
  .refine Δ z<|δ z<|qK z<|Γ z<|δ z<|qK z<|Γ z<|θ z<|m' (Μ a z z)
  refine Δ z<|δ z<|gy z z (mf z) z<|gy z z (f' 2 jV z z z) z<|gy z z (mf z) z<|gy z z (f' 3 jV z z z) z<|Â z<|oE a λE A a=>I' (W' z z) z (x' L4 z) (RK A) z (⟨u,y⟩) ?_
  cases E
  .refine Δ z<|δ z<|qK z<|Γ z<|θ z<|m' (Μ a z z)
  refine Δ z<|δ z<|gy z z (mN z) z<|gy z z (f' 2 jV z z z) z<|gy z z (mN z) z<|gy z z (f' 3 jV z z z) z<|Â z<|oE a λI B a=>I' (W' z z) z (x' L4 z) (RK B) z (⟨q,s⟩)<|Δ z<|θ z<|m' (Μ a z z)
 refine δ z<|pd z<|Γ z<|δ z<|qK z<|Γ z<|δ z<|qK z<|Γ z<|θ z<|m' (Μ a z z)
theorem RR{h m f k r}(a:(Dp h m).ο r):ä prog 53 #[ε f h k,.string m] (λG=>sl Rp.str G f k h) (λG v=>v=i' r):=by
 refine E' (args:=[_,_]) (N:=19) func53 z z z (λp g u n=>?_)
 have j:=n
 refine sr<|θ z<|c'<|sr<|δ z<|γ (N' Q' j z)<|δ z<|nx<|Z' (X:=Int×Mem) a (λ⟨d,e⟩=>⟨d,[(0,ε f h k),(1,.string m),(7,i' (h.length:Int)),(8,i' d)],Mem.le g e,St p g e []⟩) (λ(t:Mem)=>match t with|i=>⟨(.inr ()),[],Mem.le g i,St p g i []⟩) ⟨0,g⟩ z (υ z) mr (wk ln) ?_ ?_
 .rintro _ ⟨d,e⟩ c a
  refine sr<|Ï z<|nx<|c'<|J' a z (λq a=>?_) (λq a=>?_)
  .refine o'<|a'<|c'<|V'<|sr<|δ z<|ς z<|nr<|δ z<|δ z<|δ z<|oE a λx l a=>γ (X' Q' nJ (j.mono c) z z l)<|γ (il ou z (qQ (R' (Á j l) c)))<|γ (Y0.vw qq z z)<|nx<|J' a z (λo a=>?_) (λo a=>?_)
   .refine sr<|δ z<|θ z<|m'<|B'<|b'<|b'<|B'<|jl<|b' (Μ a z z)
   refine o'<|A'<|a'<|p'<|é z<|δ z<|q'<|K' ⟨i64.wrap (d+1),e⟩ a c (υ z) (wk ln)
  refine Æ<|g'<|g'<|H'<|Ë e ⟨a,c⟩ fn (wk ln)
 rintro i ⟨a,s⟩
 refine a'<|sr<|θ z<|m' (Μ a z z)
theorem B2{e h c d r}(a:(ZA e h).ο r):ä prog 46 #[ε c e d,.string h] (λG=>sl Rp.str G c d e) (λG v=>v = .bool r):=by
 refine E' (args:=[_,_]) (N:=9) func46 z z z (λl m k f=>?_)
 have i:=f
 refine sr<|ς z<|nr<|δ z<|δ z<|oE a λj g a=>I' z z (x' L5 z) (RR g) z (i)<|γ (kO z z)<|θ z<|m' (Μ a z z)
theorem K7{h O R f g D B J M r}(a:(Hl h O R).ο r):ä prog 19 #[ε f h g,ε D O B,ε J R M] (λG=>sl Rp.str G f g h/\sl Rp.str G D B O/\sl Rp.str G J M R) (jx Rp.str r):=by
 refine E' (args:=[_,_,_]) (N:=58) func19 z z z (λw0 S x aC=>?_)
 obtain⟨m,I,L⟩:=aC
 refine sr<|θ z<|c'<|sr<|δ z<|δ z<|oE a λa8 ar a=>I' z z (x' L3 z) (RQ ar) z (⟨I,m⟩)<|nx<|iC a z (λaX a=>?_) (λaX a=>?_)
 .refine sr<|δ z<|θ z<|m'<|b' ?_
  obtain rfl:_=r:=a
  exact k' z z ⟨_,_,z,L⟩
 refine o'<|a'<|sr<|θ z<|c'<|sr<|δ z<|γ (N' Q' I z)<|δ z<|nx<|Z' (X:=(Ŀ Ĳ)×ŀ Addr×Nat×ŀ Ow×Int×Mem) a (λ⟨u,A,C,s,i,y⟩=>⟨(u,i),[(0,ε f h g),(1,ε D O B),(2,ε J R M),(7,ε A u C),(16,ε D O B),(17,i' (O.length:Int)),(18,i' i)],Mem.le S y/\sl Rp.str y A C u/\Tok 1 9 (ε A u C) u.length s,St w0 S y [(1007,s)]⟩) (λ(⟨U,P,Q,H,q⟩:(Ŀ Ĳ)×ŀ Addr×Nat×ŀ Ow×Mem)=>⟨U,[(0,ε f h g),(1,ε D O B),(2,ε J R M),(7,ε P U Q)],Mem.le S q/\sl Rp.str q P Q U/\Tok 1 9 (ε P U Q) U.length H,St w0 S q [(1007,H)]⟩) ⟨[],none,0,none,0,S⟩ z (υ z) ⟨mr,(gi _ _),qC⟩ (wk (lw ln)) ?_ ?_
 .rintro _ ⟨u,A,C,s,i,y⟩ ⟨d,V,E⟩ a
  refine sr<|Ï z<|nx<|c'<|J' a z (λaM a=>?_) (λaM a=>?_)
  .refine o'<|a'<|c'<|V'<|sr<|oE a λv aj a=>γ (X' Q' nJ (I.mono d) z z aj)<|γ (il ou z (qQ (R' (Á I aj) d)))<|ς z<|nr<|δ z<|δ z<|oE a λaF al a=>I' z z (x' AE z) (B2 al) z ((m.mono d)) ?_
   cases aF
   .refine γ (gP z)<|δ z<|lu z<|Δ z<|nx<|iS z<|p'<|δ z<|δ z<|jL (e:=9) (r:=Rp.str) (vs:=#[(0,.string v)]) (cs:=[.string v]++([])) ([v]:Ŀ Ĳ) z z z z z (by decide) (λ_=>by kernel_rfl) ⟨[.string v],[],z,z,z⟩ (key:=999) z (by rw[x]; rfl) (λp3 a6 ac aP=>?_)
    refine oA a λaw a=>nt (r:=Rp.str) 1007 z z Q' tP z (by decide) z z (V.mono ac) z (by rw[x]; rfl) E aP aw λp4 aJ aD aL ag aH am=>ς z<|q'<|A'<|a'<|p'<|é z<|δ z<|q'<|K' ⟨(u++[v]),p4,aJ,aD,i64.wrap (i+1),aL⟩ a ⟨(mx (mx d ac) ag),aH,am⟩ (υ z) (w1 z)
   refine γ (gP z)<|δ z<|Â z<|Â z<|oE a λa9 ay a=>I' (W' z z) z (x' AE z) (B2 ay) z ((L.mono d))<|Γ z<|nx<|iC a z (λaW a=>?_) (λaW a=>?_)
   .refine p'<|δ z<|δ z<|jL (e:=9) (r:=Rp.str) (vs:=#[(0,.string v)]) (cs:=[.string v]++([])) ([v]:Ŀ Ĳ) z z z z z (by decide) (λ_=>by kernel_rfl) ⟨[.string v],[],z,z,z⟩ (key:=999) z (by rw[x]; rfl) (λp5 a0 K aU=>?_)
    refine oA a λaq a=>nt (r:=Rp.str) 1007 z z Q' tP z (by decide) z z (V.mono K) z (by rw[x]; rfl) E aU aq λp6 aG ap ax af aE an=>ς z<|q'<|A'<|a'<|p'<|é z<|δ z<|q'<|K' ⟨(u++[v]),p6,aG,ap,i64.wrap (i+1),ax⟩ a ⟨(mx (mx d K) af),aE,an⟩ (υ z) (w1 z)
   refine o'<|A'<|a'<|p'<|é z<|δ z<|q'<|K' ⟨u,A,C,s,i64.wrap (i+1),y⟩ a ⟨d,V,E⟩ (υ z) (w1 z)
  refine Æ<|g'<|g'<|H'<|Ë ⟨u,A,C,s,y⟩ ⟨a,d,V,E⟩ (υ z) (w1 z)
 rintro⟨U,P,Q,H,q⟩ ⟨a,k,aI,az⟩
 refine a'<|c'<|sr<|δ z<|γ (N' Q' (L.mono k) z)<|δ z<|nx<|Z' (X:=(Ŀ Ĳ)×ŀ Addr×Nat×ŀ Ow×Int×Mem) a (λ⟨t,p,n,l,j,o⟩=>⟨(t,j),[(0,ε f h g),(1,ε D O B),(7,ε p t n),(36,ε J R M),(37,i' (R.length:Int)),(38,i' j)],Mem.le q o/\sl Rp.str o p n t/\Tok 1 9 (ε p t n) t.length l,St w0 S o [(1007,l)]⟩) (λ(⟨w,W,Z,T,ab⟩:(Ŀ Ĳ)×ŀ Addr×Nat×ŀ Ow×Mem)=>⟨w,[(7,ε W w Z)],Mem.le q ab/\sl Rp.str ab W Z w/\Tok 1 9 (ε W w Z) w.length T,St w0 S ab [(1007,T)]⟩) ⟨U,P,Q,H,0,q⟩ z (υ z) ⟨mr,aI,az⟩ (w1 z) ?_ ?_
 .rintro _ ⟨t,p,n,l,j,o⟩ ⟨c,Y,F⟩ a
  refine sr<|Ï z<|nx<|c'<|J' a z (λaN a=>?_) (λaN a=>?_)
  .refine o'<|a'<|c'<|V'<|sr<|oE a λx1 ak a=>γ (X' Q' nJ (L.mono (mx k c)) z z ak)<|γ (il ou z (qQ (R' (Á L ak) (mx k c))))<|ς z<|nr<|δ z<|δ z<|oE a λaK au a=>I' z z (x' AE z) (B2 au) z ((I.mono (mx k c))) ?_
   cases aK
   .refine γ (gP z)<|δ z<|Â z<|Â z<|oE a λa7 aA a=>I' (W' z z) z (x' AE z) (B2 aA) z ((m.mono (mx k c)))<|gy z z (gP z) z<|Δ z<|nx<|iC a z (λaR a=>?_) (λaR a=>?_)
    .refine p'<|δ z<|δ z<|jL (e:=9) (r:=Rp.str) (vs:=#[(0,.string x1)]) (cs:=[.string x1]++([])) ([x1]:Ŀ Ĳ) z z z z z (by decide) (λ_=>by kernel_rfl) ⟨[.string x1],[],z,z,z⟩ (key:=999) z (by rw[x]; rfl) (λp1 a5 aa aO=>?_)
     refine oA a λao a=>nt (r:=Rp.str) 1007 z z Q' tP z (by decide) z z (Y.mono aa) z (by rw[x]; rfl) F aO ao λp2 aS aB aT ah aQ av=>ς z<|q'<|A'<|a'<|p'<|é z<|δ z<|q'<|K' ⟨(t++[x1]),p2,aS,aB,i64.wrap (j+1),aT⟩ a ⟨(mx (mx c aa) ah),aQ,av⟩ (υ z) (w1 z)
    refine o'<|A'<|a'<|p'<|é z<|δ z<|q'<|K' ⟨t,p,n,l,i64.wrap (j+1),o⟩ a ⟨c,Y,F⟩ (υ z) (w1 z)
   refine γ (gP z)<|δ z<|ke z<|Γ z<|nx<|lJ z<|o'<|A'<|a'<|p'<|é z<|δ z<|q'<|K' ⟨t,p,n,l,i64.wrap (j+1),o⟩ a ⟨c,Y,F⟩ (υ z) (w1 z)
  refine Æ<|g'<|g'<|H'<|Ë ⟨t,p,n,l,o⟩ ⟨a,c,Y,F⟩ (f1 z) (w1 z)
 rintro⟨w,W,Z,T,ab⟩ ⟨a,aY,aV,a2⟩
 refine a'<|sr<|δ z<|θ z<|m' ?_
 obtain rfl:_=r:=a
 exact k' z z ⟨_,_,z,aV⟩
theorem B5{D g l e f c d r}(a:(xE D).ο r):ò prog 47 #[.agg ((Ρ D g l e f c d)).toArray] [] (λG=>od G g l e f c d D) (λG L v=>∃ zb ac,L=[(7000,ac)]/\v = .map (some zb)/\ü oi (kp nN G) (.map (some zb)) r ac):=by
 refine qz (args:=[_]) (N:=38) func47 z z z (λY J aA aj=>?_)
 obtain⟨ap,B,m⟩:=aj
 refine sr<|ý 1 z z z λZ=>ς z<|nr<|wH (ky:=oi) (Rv:=kp nN J) 4008 z z λn aa ah=>θ z<|c'<|sr<|γ (mf z)<|γ (f' 1 jV z z z)<|γ (N' jG B z)<|δ z<|nx<|Z' (X:=Int×(Ŀ (Int×Zl))×ŀ Ow×Mem) a (λ⟨o,Q,q,C⟩=>⟨(o,Q),[(1,Τ Z),(10,ε e D.eqs f),(11,i' (D.eqs.length:Int)),(12,i' o),(3,.map (some n))],Mem.le J C/\ü oi (kp nN C) (.map (some n)) Q q,St Y J C [(1,Ξ Z (Ρ D g l e f c d) 29),(4008,q)]⟩) (λ(⟨T,y,E⟩:(Ŀ (Int×Zl))×ŀ Ow×Mem)=>⟨T,[(1,Τ Z),(3,.map (some n))],Mem.le J E/\ü oi (kp nN E) (.map (some n)) T y,St Y J E [(1,Ξ Z (Ρ D g l e f c d) 29),(4008,y)]⟩) ⟨0,[],aa,J⟩ z (υ z) ⟨mr,ah⟩ (w2 z z) ?_ ?_
 .rintro _ ⟨o,Q,q,C⟩ ⟨t,V⟩ a
  refine sr<|Ï z<|nx<|c'<|J' a z (λay a=>?_) (λay a=>?_)
  .refine o'<|a'<|c'<|V'<|sr<|oE a λP ab a=>γ (X' jG ng (B.mono t) z z ab) ?_
   obtain⟨M,I,aq,ai⟩:=uN (R' (Á B ab) t)
   refine γ (jC _ k6 z z aq)<|T' 5 z z51 z λb3=>ø 5 ng z<|nx<|p'<|δ z<|γ (oY z)<|γ (f' 5 ñ z z z)<|γ (sN z)<|γ (f' 5 ij z z z)<|γ (iK (vs:=#[(0,ε M P.p I),(1,.bool false)]) (v:=.agg ([ε M P.p I,.bool false]).toArray) z z (λ_=>by kernel_rfl)) ?_
   obtain⟨⟨ar,am⟩,a⟩:=a
   refine wL (Rv':=kp nN C) (k:=P.id) (z:=(Zl.mk P.p false)) 4008 z sM V z z z z ar ⟨[ε M P.p I,.bool false],z,⟨[ε M P.p I],[.bool false],z,⟨_,z,ai⟩,z⟩⟩ (λ_ _ _ _ h=>h) am λax ao=>q'<|A'<|a'<|p'<|é z<|δ z<|q'<|K' ⟨i64.wrap (o+1),(Ñ Q P.id (Zl.mk P.p false)),ax,C⟩ a ⟨t,ao⟩ (υ z) (w2 z z)
  refine Æ<|g'<|g'<|H'<|Ë ⟨Q,q,C⟩ ⟨a,t,V⟩ (υ z) (w2 z z)
 rintro⟨T,y,E⟩ ⟨a,H,ae⟩
 refine a'<|c'<|sr<|γ (mN z)<|γ (f' 1 jV z z z)<|γ (N' jG (m.mono H) z)<|δ z<|nx<|Z' (X:=Int×(Ŀ (Int×Zl))×ŀ Ow×Mem) a (λ⟨p,R,u,A⟩=>⟨(p,R),[(24,ε c D.ζ d),(25,i' (D.ζ.length:Int)),(26,i' p),(3,.map (some n))],Mem.le E A/\ü oi (kp nN A) (.map (some n)) R u,St Y J A [(4008,u)]⟩) (λ(⟨U,x,O⟩:(Ŀ (Int×Zl))×ŀ Ow×Mem)=>⟨U,[(3,.map (some n))],Mem.le E O/\ü oi (kp nN O) (.map (some n)) U x,St Y J O [(4008,x)]⟩) ⟨0,T,y,E⟩ z (υ z) ⟨mr,ae⟩ (w1 z) ?_ ?_
 .rintro _ ⟨p,R,u,A⟩ ⟨s,W⟩ a
  refine sr<|Ï z<|nx<|c'<|J' a z (λaB a=>?_) (λaB a=>?_)
  .refine o'<|a'<|c'<|V'<|sr<|oE a λS ad a=>γ (X' jG ng (m.mono (mx H s)) z z ad) ?_
   obtain⟨F,K,az,al⟩:=uN (R' (Á m ad) (mx H s))
   refine γ (jC _ k6 z z az)<|T' 7 z z51 z λb2=>ø 7 ng z<|nx<|p'<|δ z<|γ (oY z)<|γ (f' 7 ñ z z z)<|γ (sN z)<|γ (f' 7 ij z z z)<|γ (iK (vs:=#[(0,ε F S.p K),(1,.bool true)]) (v:=.agg ([ε F S.p K,.bool true]).toArray) z z (λ_=>by kernel_rfl)) ?_
   obtain⟨⟨au,an⟩,a⟩:=a
   refine wL (Rv':=kp nN A) (k:=S.id) (z:=(Zl.mk S.p true)) 4008 z sM W z z z z au ⟨[ε F S.p K,.bool true],z,⟨[ε F S.p K],[.bool true],z,⟨_,z,al⟩,z⟩⟩ (λ_ _ _ _ h=>h) an λav af=>q'<|A'<|a'<|p'<|é z<|δ z<|q'<|K' ⟨i64.wrap (p+1),(Ñ R S.id (Zl.mk S.p true)),av,A⟩ a ⟨s,af⟩ (υ z) (w1 z)
  refine Æ<|g'<|g'<|H'<|Ë ⟨R,u,A⟩ ⟨a,s,W⟩ (f1 z) (w1 z)
 rintro⟨U,x,O⟩ ⟨a,aC,ag⟩
 refine a'<|sr<|δ z<|θ z<|m' ?_
 obtain rfl:_=r:=a
 refine oZ (S':=St Y J O [(7000,x)]) ?_ ?_
 .intro w hs
  have hs:=hs.î (i:=4008) (j:=7000) z (by rw[aA]; rfl)
  exact hs.weaken (lc z ln)
 exact k' z z ⟨_,_,z,z,ag⟩
theorem Kt{q p d j g c Φ}(a:(Zt q p).wp Φ):ò prog 48 #[.map (some d),.map (some g)] [(5500,j),(5501,c)] (λG=>ü oi (kp nN G) (.map (some d)) q j/\ü oi (kp nN G) (.map (some g)) p c) (λG L v=>∃ r I,L=[(5500,I),(5501,c)]/\v = .tuple #[]/\Φ r/\ü oi (kp nN G) (.map (some d)) r I):=by
 refine qz (args:=[_,_]) (N:=16) func48 z z z (λP u ag Q=>?_)
 obtain⟨D,F⟩:=Q
 refine sr<|δ z<|WL.uf 5501 4007 z z sM F z z λH E O=>nx<|Z' (X:=(Ŀ (Int×Zl))×ŀ Ow×Ŀ (Int×Zl)×ŀ Ow×Mem) a (λ⟨l,i,M,o,e⟩=>⟨(l,M),[(0,.map (some d)),(1,.map (some g)),(7,H)],Mem.le u e/\ü oi (kp nN e) (.map (some d)) l i/\je oi (kp nN e) c H M none o,St P u e [(5500,i),(5501,c),(4007,o)]⟩) (λ(⟨t,f,n⟩:(Ŀ (Int×Zl))×ŀ Ow×Mem)=>⟨t,[(0,.map (some d)),(1,.map (some g))],Mem.le u n/\ü oi (kp nN n) (.map (some d)) t f,St P u n [(5500,f),(5501,c)]⟩) ⟨q,j,p,E,u⟩ z (υ z) ⟨mr,D,(Cb O)⟩ (w3 z z z) ?_ ?_
 .rintro _ ⟨l,i,M,o,e⟩ ⟨s,y,Y⟩ a
  refine sr<|WL.wS 5501 4007 z z Y z z z (λRa m Rb K x A ae ad=>?_) (λx=>?_)
  .replace a:=a.2 _ _ _ x
   generalize Ra++Rb=w at a A
   refine Û z<|nx<|c'<|iS z<|o'<|a'<|V'<|sr<|WL.tR 5501 4007 z z A z z z (λu1 W af=>?_)
   obtain⟨ah,rfl,Z⟩:=W
   obtain⟨B,C,rfl,R⟩:=vY Z
   refine Û z<|Û z<|T' 5 z z70 z λb1=>ς z<|ø 5 sH z<|nx<|p'<|δ z<|δ z<|γ (w' 5 vi z z z) ?_
   obtain⟨⟨U,S⟩,a⟩:=a
   refine wL (Rv':=kp nN e) (k:=m.1) (z:=m.2) 5500 z sM y z z z z U ⟨[ε B m.2.p C,.bool m.2.neq],z,⟨[ε B m.2.p C],[.bool m.2.neq],z,⟨_,z,R⟩,z⟩⟩ (λ_ _ _ _ h=>h) S λV T=>q'<|A'<|K' ⟨(Ñ l m.1 m.2),V,w,K,e⟩ a ⟨s,T,(Cb A)⟩ (υ z) (w3 z z z)
  replace a:=a.1 x
  refine Û z<|nx<|c'<|lJ z<|Æ<|g'<|g'<|H'<|Ë ⟨l,i,e⟩ ⟨a,s,y⟩ (υ z) (w2 z z)
 rintro⟨t,f,n⟩ ⟨a,aa,J⟩
 refine FJ ?_
 replace a:Φ t:=a
 refine oZ (S':=St P u n [(5500,f),(5501,c)]) (w2 z z)<|FK z  ⟨_,_,z,z,a,J⟩
theorem RL{t J f g p o E D r}(a:(ï t J).ο r):ä prog 22 #[.agg ((vR t f g p o)).toArray,ε E J D] (λG=>sl Rp.str G f g t.à/\sl Rp.str G p o t.ll/\sl n' G E D J) (jx Rp.str r):=by
 refine E' (args:=[_,_]) (N:=35) func22 z z z (λw0 C L Q=>?_)
 obtain⟨j,I,w⟩:=Q
 refine sr<|ý 2 z z z λU=>ς z<|nr<|θ z<|c'<|sr<|γ (Y0.RC z)<|γ (f' 2 lr z z z)<|γ (N' Q' j z)<|δ z<|nx<|Z' (X:=(Ŀ Ĳ)×ŀ Addr×Nat×ŀ Ow×Int×Mem) a (λ⟨n,l,k,i,h,m⟩=>⟨(n,h),[(1,ε E J D),(2,Τ U),(5,ε l n k),(9,ε f t.à g),(10,i' (t.à.length:Int)),(11,i' h)],Mem.le C m/\sl Rp.str m l k n/\Tok 1 9 (ε l n k) n.length i,St w0 C m [(2,Ξ U (vR t f g p o) 74),(1005,i)]⟩) (λ(⟨B,y,x,s,u⟩:(Ŀ Ĳ)×ŀ Addr×Nat×ŀ Ow×Mem)=>⟨B,[(5,ε y B x)],Mem.le C u/\sl Rp.str u y x B/\Tok 1 9 (ε y B x) B.length s,St w0 C u [(1005,s)]⟩) ⟨[],none,0,none,0,C⟩ z (υ z) ⟨mr,(gi _ _),qC⟩ (wk (lc z (lw ln))) ?_ ?_
 .rintro _ ⟨n,l,k,i,h,m⟩ ⟨c,A,q⟩ a
  refine sr<|Ï z<|nx<|c'<|J' a z (λag a=>?_) (λag a=>?_)
  .refine o'<|a'<|c'<|V'<|sr<|δ z<|oE a λF K a=>γ (X' Q' nJ (j.mono c) z z K)<|γ (il ou z (qQ (R' (Á j K) c)))<|ς z<|θ z<|c'<|hZ [ff,ff,ff,ff,ff,ff,ff,ff,ff,ff] gp (by kernel_rfl) λW=>ù z<|oE a λal S a=>sn z (λ_=>x' Hb z) (Kx S) z (λG' d=>((w.mono c).mono d))<|ù z<|oA a λY a=>cn (λ_ d=>Y0.shl z z Y)<|cn (λ_ d=>Y0.and z z)<|su a z (λ_ d=>ly z z) (λad a=>?_) (λad a=>?_)
   .refine ù z<|cy z z (λ_ d=>Y0.Ry z)<|cy z z (λ_ d=>f' 2 lr z z z)<|cy z z (λ_ d=>h' z)<|jz W<|oE a λak M a=>I' (W' z z) z (x' AE z) (B2 M) z ((I.mono c))<|gy z z (gP z) z<|Δ z<|q'<|fh<|a'<|iC a z (λZ a=>?_) (λZ a=>?_)
    .refine p'<|δ z<|δ z<|jL (e:=9) (r:=Rp.str) (vs:=#[(0,.string F)]) (cs:=[.string F]++([])) ([F]:Ŀ Ĳ) z z z z z (by decide) (λ_=>by kernel_rfl) ⟨[.string F],[],z,z,z⟩ (key:=999) z (by rw[L]; rfl) (λp2 am v af=>?_)
     refine oA a λR a=>nt (r:=Rp.str) 1005 z z Q' tP z (by decide) z z (A.mono v) z (by rw[L]; rfl) q af R λp3 V P ac H ae O=>ς z<|q'<|A'<|a'<|p'<|é z<|δ z<|q'<|K' ⟨(n++[F]),p3,V,P,i64.wrap (h+1),ac⟩ a ⟨(mx (mx c v) H),ae,O⟩ (υ z) (w2 z z)
    refine o'<|A'<|a'<|p'<|é z<|δ z<|q'<|K' ⟨n,l,k,i,i64.wrap (h+1),m⟩ a ⟨c,A,q⟩ (υ z) (w2 z z)
   refine ù z<|ct z z<|ct z z<|ct z z<|jz W<|lk z<|Γ z<|q'<|fh<|a'<|lJ z<|o'<|A'<|a'<|p'<|é z<|δ z<|q'<|K' ⟨n,l,k,i,i64.wrap (h+1),m⟩ a ⟨c,A,q⟩ (υ z) (w2 z z)
  refine Æ<|g'<|g'<|H'<|Ë ⟨n,l,k,i,m⟩ ⟨a,c,A,q⟩ (f1 z) (w1 z)
 rintro⟨B,y,x,s,u⟩ ⟨a,ah,T,aj⟩
 refine a'<|sr<|δ z<|θ z<|m' ?_
 obtain rfl:_=r:=a
 exact k' z z ⟨_,_,z,T⟩
theorem fD'{m r}(a:(DA m).ο r):ä prog 54 #[i' m] (λG=>True) (ny n' r):=by
 refine E' (args:=[_]) (N:=17) func54 z z z λM J u C=>sr<|ς z<|θ z<|c'<|sr<|δ z<|eZ a z (nb z z) z (λt a=>?_) (λt a=>?_)
 .refine δ z<|lk z<|Δ z<|nx<|iS z<|sr<|ς z<|θ z<|m'<|b' ?_
  obtain rfl:_=r:=a
  exact l5 z z z ⟨_,_,z,(gi n' _)⟩
 refine δ z<|Â z<|gy z z (kO z z) z<|Γ z<|nx<|J' a z (λx a=>?_) (λx a=>?_)
 .exact (show False from a).elim
 refine o'<|a'<|sr<|T' 4 z r5 z λF=>nr<|δ z<|oA a λq a=>γ (k0 lK gh z z q)<|kN 4 (Ι (å (λ_=>0) m.toNat 1)).toArray z gh z z z (by first|(rw[M']; omega)|(show _<(í _ _ _).toArray.size; rw[M']; omega)) z (qR _ _ _ _ _)<|nx<|c'<|hZ [ff,ff] gp (by kernel_rfl) (λI=>?_)
 refine oE a λj p a=>mL (post:=lq j) (λ_=>z) (λ_ _=>x' L7 z) (Sg p) z (λH n=>trivial) (λv O L n h=>?_) ?_
 .obtain⟨f,i,c,g,rfl,k,l⟩:=h
  exact⟨_,_,_,_,z,k.mono n,l.mono n⟩
 refine cu (λ_ _ n=>w' 4 iL z z (M' _ _ _))<|rG (d:=13) (post:=lq j) (λB D A o=>?_)
 obtain⟨f,i,c,g,rfl,k,l⟩:=o
 refine γ (iK (vs:=#[(0,.agg ((χ j f i c g)).toArray),(1,.agg (Ι (å (λ_=>0) m.toNat 1)).toArray)]) (v:=.agg (((χ j f i c g):Ŀ Value)++(Ι (å (λ_=>0) m.toNat 1))).toArray) z z (λ_=>by kernel_rfl))<|jL (e:=159) (r:=n') (vs:=#[(0,.agg (((χ j f i c g):Ŀ Value)++(Ι (å (λ_=>0) m.toNat 1))).toArray)]) (cs:=(((χ j f i c g):Ŀ Value)++(Ι (å (λ_=>0) m.toNat 1)))++([])) ([(Za.mk j (å (λ_=>0) m.toNat 1))]:Ŀ Za) z z z z z (by decide) (λ_=>by kernel_rfl) ⟨((χ j f i c g):Ŀ Value)++(Ι (å (λ_=>0) m.toNat 1)),[],z,⟨(χ j f i c g),Ι (å (λ_=>0) m.toNat 1),z,⟨(ι j.num f i),(ι j.den c g),z,⟨[.bool j.num.neg],[ε f j.num.Α i],z,z,⟨_,z,k⟩⟩,⟨[.bool j.den.neg],[ε c j.den.Α g],z,z,⟨_,z,l⟩⟩⟩,z⟩,z⟩ (key:=999) z (by rw[u]; rfl) λK E y s=>ς z<|ς z<|q'<|fh<|a'<|m' ?_
 obtain rfl:_=r:=a
 exact l5 z z z ⟨_,_,z,s⟩
theorem fS'{q h r}(a:(Nz q h).ο r):ä prog 149 #[.agg (Ι q).toArray,.agg (Ι h).toArray] (λG=>True) (λG v=>v = .agg (Ι r).toArray):=by
 refine E' (args:=[_,_]) (N:=20) func149 z z z λt l F E=>sr<|ý 2 z z z λm=>ý 3 z z z λs=>T' 4 z r5 z λn=>nx<|c'<|sr<|δ z<|nx<|Z' (X:=Int×(Fin 8->Int)×Mem) a (λ⟨c,d,f⟩=>⟨(c,d),[(2,Τ m),(3,Τ s),(4,Τ n),(6,i' c)],Mem.le l f,St t l f [(2,Ξ m (Ι d) 99),(3,Ξ s (Ι h) 99),(4,Ξ n (Ι (λ_=>0)) 99)]⟩) (λ(⟨e,j⟩:(Fin 8->Int)×Mem)=>⟨e,[(2,Τ m),(4,Τ n)],Mem.le l j,St t l j [(2,Ξ m (Ι e) 99),(4,Ξ n (Ι (λ_=>0)) 99)]⟩) ⟨0,q,l⟩ z (υ z) mr (w3 z z z) ?_ ?_
 .rintro _ ⟨c,d,f⟩ k a
  refine sr<|Ï z<|nx<|c'<|J' a z (λB a=>?_) (λB a=>?_)
  .refine o'<|a'<|c'<|V'<|sr<|δ z<|θ z<|hZ [tt,ff,ff,ff,ff,ff,ff] gp (by kernel_rfl) λD=>yl z (h' z)<|ù z<|oA a λo a=>cn (λ_ g=>k0 lK gh z z o)<|cn (λ_ g=>f' 2 ñ z z (mh _ _ _ o))<|ù z<|oA a λp a=>cn (λ_ g=>k0 lK gh z z p)<|cn (λ_ g=>f' 3 ñ z z (mh _ _ _ p))<|jz D<|γ (Y0.max2 z z)<|oA a λA a=>γ (k0 lK gh z z A)<|kN 2 (Ι (å d c.toNat (if (Κ d c)<(Κ h c) then (Κ h c) else (Κ d c)))).toArray z gh z z z (by first|(rw[M']; omega)|(show _<(í _ _ _).toArray.size; rw[M']; omega)) z (qR _ _ _ _ _)<|q'<|fh<|A'<|a'<|p'<|é z<|δ z<|q'<|K' ⟨i64.wrap (c+1),å d c.toNat (if (Κ d c)<(Κ h c) then (Κ h c) else (Κ d c)),f⟩ a k (υ z) (w3 z z z)
  refine Æ<|g'<|g'<|H'<|Ë ⟨d,f⟩ ⟨a,k⟩ (υ z) (w2 z z)
 rintro⟨e,j⟩ ⟨a,C⟩
 refine a'<|sr<|γ (w' 2 iL z z (M' _ _ _))<|y' 4 z ov z z z (M' _ _ _) (M' _ _ _) (λu y=>Rp.one (pt .i64 8) (G:=j) (x:=e) (cs:=Ι e) z u (by first|simpa using y|simpa [Value.cells] using y))<|nx<|m' ?_
 obtain rfl:_=r:=a
 exact k' z (hQ (i:=4) iL z z (M' _ _ _)) z
theorem eO'{y B A r}(a:(Dk y).ο r):ä prog 92 #[ε B y A] (λG=>sl n' G B A y) (λG v=>v = .agg (Ι r).toArray):=by
 refine E' (args:=[_]) (N:=18) func92 z z z (λJ t O H=>?_)
 have C:=H
 refine sr<|T' 2 z uT z λD=>nr<|T' 3 z r5 z λE=>nx<|c'<|sr<|δ z<|γ (N' F' C z)<|δ z<|nx<|Z' (X:=Int×(Fin 8->Int)×Mem) a (λ⟨m,p,j⟩=>⟨(m,p),[(2,Τ D),(3,Τ E),(6,ε B y A),(7,i' (y.length:Int)),(8,i' m)],Mem.le t j,St J t j [(2,Ξ D (Ι (λ_=>0)) 42),(3,Ξ E (Ι p) 99)]⟩) (λ(⟨n,q⟩:(Fin 8->Int)×Mem)=>⟨n,[(2,Τ D),(3,Τ E)],Mem.le t q,St J t q [(2,Ξ D (Ι (λ_=>0)) 42),(3,Ξ E (Ι n) 99)]⟩) ⟨0,(λ_=>0),t⟩ z (υ z) mr (w2 z z) ?_ ?_
 .rintro _ ⟨m,p,j⟩ h a
  refine sr<|Ï z<|nx<|c'<|J' a z (λL a=>?_) (λL a=>?_)
  .refine o'<|a'<|c'<|V'<|sr<|oE a λg F a=>γ (X' F' jA (C.mono h) z z F) ?_
   obtain⟨d,f,e,c,K,k,l⟩:=pr (R' (Á C F) h)
   refine γ (jC _ oz z z K)<|T' 5 z z159 z λP=>y' 5 z jA z z z z z (λu o=>Rp.one n' (G:=j) (x:=g) (cs:=((χ g.c d f e c):Ŀ Value)++(Ι g.m)) ⟨(χ g.c d f e c),Ι g.m,z,⟨(ι g.c.num d f),(ι g.c.den e c),z,⟨[.bool g.c.num.neg],[ε d g.c.num.Α f],z,z,⟨_,z,k⟩⟩,⟨[.bool g.c.den.neg],[ε e g.c.den.Α c],z,z,⟨_,z,l⟩⟩⟩,z⟩ u (by first|simpa using o|simpa [Value.cells] using o))<|nx<|p'<|γ (w' 3 iL z z (M' _ _ _))<|γ (lV z)<|γ (gZ (Ι g.m).toArray 5 iL z z (M' _ _ _) (hC ((χ g.c d f e c)) (Ι g.m) ([])))<|oE a λs I a=>I' z z (x' Gi z) (fS' I) z (trivial)<|y' 3 z ov z z z (M' _ _ _) (M' _ _ _) (λu o=>Rp.one (pt .i64 8) (G:=j) (x:=s) (cs:=Ι s) z u (by first|simpa using o|simpa [Value.cells] using o))<|q'<|A'<|a'<|p'<|é z<|δ z<|q'<|K' ⟨i64.wrap (m+1),s,j⟩ a h (υ z) (w2 z z)
  refine Æ<|g'<|g'<|H'<|Ë ⟨p,j⟩ ⟨a,h⟩ (υ z) (w2 z z)
 rintro⟨n,q⟩ ⟨a,M⟩
 refine a'<|sr<|γ (w' 3 iL z z (M' _ _ _))<|y' 2 z n4 z z z (M' _ _ _) (M' _ _ _) (λu o=>Rp.one (pt .i64 8) (G:=q) (x:=n) (cs:=Ι n) z u (by first|simpa using o|simpa [Value.cells] using o))<|nx<|m' ?_
 obtain rfl:_=r:=a
 exact k' z (hQ (i:=2) mQ z z (M' _ _ _)) z
theorem RW{l n f q r}(a:(Dn l n).ο r):ä prog 93 #[.agg (Ι l).toArray,.agg (f).toArray] (λG=>iz (Rp.sl n') 8 G f q n) (λG v=>v = .bool r):=by
 refine E' (args:=[_,_]) (N:=22) func93 z z z (λs g D m=>?_)
 have k:=m
 refine sr<|ý 2 z z z λE=>ý 3 z z z λt=>θ z<|c'<|sr<|γ (w' 2 iL z z (M' _ _ _))<|δ z<|nx<|Z' (X:=Int×Mem) a (λ⟨d,e⟩=>⟨d,[(3,Τ t),(7,.agg (Ι l).toArray),(8,i' d)],Mem.le g e,St s g e [(3,Ξ t (f) 137)]⟩) (λ(B:Mem)=>match B with|h=>⟨(.inr ()),[],Mem.le g h,St s g h []⟩) ⟨0,g⟩ z (υ z) mr (w1 z) ?_ ?_
 .rintro _ ⟨d,e⟩ c a
  refine sr<|Ï z<|nx<|c'<|J' a z (λy a=>?_) (λy a=>?_)
  .refine o'<|a'<|c'<|V'<|sr<|δ z<|oA a λi a=>γ (wE lK ñ gh z z i (mh _ _ _ i))<|ς z<|ς z<|nr<|δ z<|eZ a z (kr z z) z (λx a=>?_) (λx a=>?_)
   .refine δ z<|Â z<|oE a λH j a=>gy z z (Y0.qF KO iG z z (iz.lt (k.mono c) j)) z ?_
    obtain⟨F,C,o,u⟩:=qA (iz.at (k.mono c) j)
    refine gy z z (f' 3 ij z z o) z<|gy z z (N' F' u z) z<|gy z z (iI z z) z<|Δ z<|nx<|J' a z (λp a=>?_) (λp a=>?_)
    .exact (show False from a).elim
    refine o'<|A'<|a'<|p'<|é z<|δ z<|q'<|K' ⟨i64.wrap (d+1),e⟩ a c (υ z) (w1 z)
   refine δ z<|pd z<|Γ z<|nx<|lJ z<|o'<|A'<|a'<|p'<|é z<|δ z<|q'<|K' ⟨i64.wrap (d+1),e⟩ a c (υ z) (w1 z)
  refine Æ<|g'<|g'<|H'<|Ë e ⟨a,c⟩ fn (wk ln)
 rintro h ⟨a,A⟩
 refine a'<|sr<|θ z<|m' (Μ a z z)
theorem eX'{j c r}(w:(Hi j c).ο r):ä prog 94 #[.agg (Ι j).toArray,.agg (í (Value.int .i64) 64 c).toArray] (λG=>True) (λG v=>v = .bool r):=by
 refine E' (args:=[_,_]) (N:=30) func94 z z z λs i H E=>sr<|ý 2 z z z λo=>ý 3 z z z λp=>θ z<|c'<|sr<|δ z<|nx<|Z' (X:=Int×Mem) w (λ⟨d,f⟩=>⟨d,[(2,Τ o),(3,Τ p),(9,i' d)],Mem.le i f,St s i f [(2,Ξ o (Ι j) 99),(3,Ξ p (í (Value.int .i64) 64 c) 175)]⟩) (λ(F:Mem)=>match F with|q=>⟨(.inr ()),[],Mem.le i q,St s i q []⟩) ⟨0,i⟩ z (υ z) mr (w2 z z) ?_ ?_
 .rintro _ ⟨d,f⟩ n w
  refine sr<|Ï z<|nx<|c'<|J' w z (λC w=>?_) (λC w=>?_)
  .refine o'<|a'<|c'<|V'<|sr<|δ z<|ς z<|nr<|θ z<|c'<|sr<|γ (w' 2 iL z z (M' _ _ _))<|δ z<|nx<|Z' (X:=Int×Int×Mem) w (λ⟨g,e,h⟩=>⟨(g,e),[(2,Τ o),(3,Τ p),(5,i' d),(6,i' g),(9,i' d),(12,.agg (Ι j).toArray),(13,i' e)],Mem.le f h,St s i h [(2,Ξ o (Ι j) 99),(3,Ξ p (í (Value.int .i64) 64 c) 175)]⟩) (λ(⟨k,l⟩:Int×Mem)=>⟨k,[(2,Τ o),(3,Τ p),(6,i' k),(9,i' d)],Mem.le f l,St s i l [(2,Ξ o (Ι j) 99),(3,Ξ p (í (Value.int .i64) 64 c) 175)]⟩) ⟨0,0,f⟩ z (υ z) mr (w2 z z) ?_ ?_
   .rintro _ ⟨g,e,h⟩ m w
    refine sr<|Ï z<|nx<|c'<|J' w z (λB w=>?_) (λB w=>?_)
    .refine o'<|a'<|c'<|V'<|sr<|δ z<|oA w λu w=>γ (wE lK ñ gh z z u (mh _ _ _ u))<|ς z<|θ z<|p'<|δ z<|δ z<|δ z<|δ z<|oA w λx w=>γ (Y0.rM underlying175 n4 z z x)<|oA w λy w=>γ (Y0.tS rH gh z z y)<|γ (f' 3 ñ z z (Zt8 (a:=8) (b:=8) _ _ x y))<|γ (vp z z)<|é z<|ς z<|q'<|A'<|a'<|p'<|é z<|δ z<|q'<|K' ⟨i64.wrap (g+(i64.wrap ((Κ j e)*(Κ c (e*8+d))))),i64.wrap (e+1),h⟩ w m (υ z) (w2 z z)
    refine Æ<|g'<|g'<|H'<|Ë ⟨g,h⟩ ⟨w,m⟩ (υ z) (w2 z z)
   rintro⟨k,l⟩ ⟨w,t⟩
   refine a'<|sr<|δ z<|γ (kr z z)<|nx<|J' w z (λA w=>?_) (λA w=>?_)
   .exact (show False from w).elim
   refine o'<|A'<|a'<|p'<|é z<|δ z<|q'<|K' ⟨i64.wrap (d+1),l⟩ w (mx n t) (υ z) (w2 z z)
  refine Æ<|g'<|g'<|H'<|Ë f ⟨w,n⟩ fn (wk ln)
 rintro q ⟨w,D⟩
 refine a'<|sr<|θ z<|m' (Μ w z z)
theorem fd'{o ac B D m bq r}(hr:(Hs o ac).ο r):ä prog 55 #[ε B o D,.agg (m).toArray] (λG=>sl n' G B D o/\iz (Rp.sl n') 8 G m bq ac) (ny n' r):=by
 refine E' (args:=[_,_]) (N:=100) func55 z z z (λw0 G0 aO bR=>?_)
 obtain⟨O,I⟩:=bR
 have hz:w0.L.zero:=by rw[aO]; intro p hp; simp at hp
 refine sr<|ý 3 z z z λH=>ς z<|θ z<|c'<|sr<|δ z<|oE hr λcG bL hr=>I' z z (x' AG z) (Ca bL) z (O)<|γ (kr z z)<|nx<|J' hr z (λck hr=>?_) (λck hr=>?_)
 .exact (show False from hr).elim
 refine o'<|a'<|sr<|T' 6 z z175 z λb2=>nx<|c'<|sr<|δ z<|nx<|Z' (X:=Int×(Fin 64->Int)×Mem) hr (λ⟨Z,aG,aC⟩=>⟨(Z,aG),[(0,ε B o D),(3,Τ H),(6,Τ b2),(22,i' Z)],Mem.le G0 aC,St w0 G0 aC [(3,Ξ H (m) 137),(6,Ξ b2 (í (Value.int .i64) 64 aG) 175)]⟩) (λ(⟨a0,aH⟩:(Fin 64->Int)×Mem)=>⟨a0,[(0,ε B o D),(3,Τ H),(6,Τ b2)],Mem.le G0 aH,St w0 G0 aH [(3,Ξ H (m) 137),(6,Ξ b2 (í (Value.int .i64) 64 a0) 175)]⟩) ⟨0,(λ_=>0),G0⟩ z (υ z) mr (w2 z z) ?_ ?_
 .rintro _ ⟨Z,aG,aC⟩ af hr
  refine sr<|Ï z<|nx<|c'<|J' hr z (λb7 hr=>?_) (λb7 hr=>?_)
  .refine o'<|a'<|c'<|V'<|sr<|δ z<|θ z<|p'<|δ z<|δ z<|oE hr λx4 bv hr=>γ (Y0.qF KO iG z z (iz.lt (I.mono af) bv)) ?_
   obtain⟨p1,cH,b0,cb⟩:=qA (iz.at (I.mono af) bv)
   refine γ (f' 3 ij z z b0)<|oE hr λbh br hr=>I' z z (x' Tp z) (eO' br) z (cb)<|oA hr λbc hr=>γ (Y0.rM underlying175 n4 z z bc)<|WL.vM 6 (í (Value.int .i64) 64 (sF 8 aG Z bh)).toArray z n4 z z z (M' _ _ _) (Q0 (a:=8) (b:=8) bc) (zv _ _ _ (λ_=>z)) (Zt7 (a:=8) (b:=8) _ _ _ bc)<|q'<|A'<|a'<|p'<|é z<|δ z<|q'<|K' ⟨i64.wrap (Z+1),sF 8 aG Z bh,aC⟩ hr af (υ z) (w2 z z)
  refine Æ<|g'<|g'<|H'<|Ë ⟨aG,aC⟩ ⟨hr,af⟩ (υ z) (w2 z z)
 rintro⟨a0,aH⟩ ⟨hr,C⟩
 refine a'<|c'<|sr<|δ z<|γ (N' F' (O.mono C) z)<|δ z<|nx<|Z' (X:=Int×Mem) hr (λ⟨ae,aD⟩=>⟨ae,[(0,ε B o D),(3,Τ H),(6,Τ b2),(32,ε B o D),(33,i' (o.length:Int)),(34,i' ae)],Mem.le aH aD,St w0 G0 aD [(3,Ξ H (m) 137),(6,Ξ b2 (í (Value.int .i64) 64 a0) 175)]⟩) (λ(gx:Mem)=>match gx with|a2=>⟨(.inr ()),[(0,ε B o D),(3,Τ H)],Mem.le aH a2,St w0 G0 a2 [(3,Ξ H (m) 137)]⟩) ⟨0,aH⟩ z (υ z) mr (w2 z z) ?_ ?_
 .rintro _ ⟨ae,aD⟩ M hr
  refine sr<|Ï z<|nx<|c'<|J' hr z (λbX hr=>?_) (λbX hr=>?_)
  .refine o'<|a'<|c'<|V'<|sr<|oE hr λU bx hr=>γ (X' F' jA (O.mono (mx C M)) z z bx) ?_
   obtain⟨s,q,t,y,bZ,aI,aK⟩:=pr (R' (Á O bx) (mx C M))
   refine γ (jC _ oz z z bZ)<|T' 9 z z159 z λb5=>y' 9 z jA z z z z z (λu hu=>Rp.one n' (G:=aD) (x:=U) (cs:=((χ U.c s q t y):Ŀ Value)++(Ι U.m)) ⟨(χ U.c s q t y),Ι U.m,z,⟨(ι U.c.num s q),(ι U.c.den t y),z,⟨[.bool U.c.num.neg],[ε s U.c.num.Α q],z,z,⟨_,z,aI⟩⟩,⟨[.bool U.c.den.neg],[ε t U.c.den.Α y],z,z,⟨_,z,aK⟩⟩⟩,z⟩ u (by first|simpa using hu|simpa [Value.cells] using hu))<|nr<|γ (lV z)<|γ (gZ (Ι U.m).toArray 9 iL z z (M' _ _ _) (hC ((χ U.c s q t y)) (Ι U.m) ([])))<|γ (w' 3 rF z z (iz.size (I.mono (mx C M))))<|oE hr λcg bK hr=>I' z z (x' Mc z) (RW bK) z ((I.mono (mx C M))) ?_
   cases cg
   .refine γ (gP z)<|δ z<|gy z z (lV z) z<|gy z z (gZ (Ι U.m).toArray 9 iL z z (M' _ _ _) (hC ((χ U.c s q t y)) (Ι U.m) ([]))) z<|gy z z (w' 6 BX z z (M' _ _ _)) z<|oE hr λcx bs hr=>I' (W' z z) z (x' Tq z) (eX' bs) z (trivial)<|Δ z<|nx<|iC hr z (λca hr=>?_) (λca hr=>?_)
    .exact (show False from hr).elim
    refine o'<|A'<|a'<|p'<|é z<|δ z<|q'<|K' ⟨i64.wrap (ae+1),aD⟩ hr M (υ z) (w2 z z)
   refine γ (gP z)<|δ z<|ke z<|Γ z<|nx<|lJ z<|o'<|A'<|a'<|p'<|é z<|δ z<|q'<|K' ⟨i64.wrap (ae+1),aD⟩ hr M (υ z) (w2 z z)
  refine Æ<|g'<|g'<|H'<|Ë aD ⟨hr,M⟩ (υ z) (w1 z)
 rintro a2 ⟨hr,K⟩
 refine a'<|sr<|γ (w' 3 rF z z (iz.size (I.mono (mx C K))))<|oE hr λW1 ce hr=>kq (S':=St w0 G0 a2 [(3,Ξ H (m) 137)]) (λw hs=>hs.weaken (lc z ln))<|WL.tB (A:=[(3,Ξ H (m) 137)]) (T:=[]) z (λp hp=>absurd hp (ĝ)) (λG L v ⟨_,_,_,h⟩=>h.keys) z z (x' Tr z) (eV' W1 ac _ _) z (I.mono (mx C K)) hz (λcy aU T1 aj ba=>?_)
 obtain⟨W,S,rfl,bz⟩:=ba
 refine ς z<|nr<|wH (ky:=mq) (Rv:=kp pj aU) 4052 z z λab bt bF=>θ z<|c'<|sr<|δ z<|γ (N' F' (O.mono (mx (mx C K) aj)) z)<|δ z<|nx<|Z' (X:=Int×(Ŀ ((Fin 8->Int)×Zj))×ŀ Ow×Lo×Mem) hr (λ⟨F,aE,E,T2,aq⟩=>⟨(F,aE),[(3,Τ H),(53,ε B o D),(54,i' (o.length:Int)),(55,i' F),(11,.map (some ab)),(10,.func (.func 150) #[] #[Τ W,Τ S])],Mem.le aU aq/\ü mq (kp pj aq) (.map (some ab)) aE E/\rC (Rp.sl n') 49 236 137 W1 ac aq T2 W S,St w0 G0 aq ((3,Ξ H (m) 137)::(4052,E)::T2)⟩) (λ(gx:(Ŀ ((Fin 8->Int)×Zj))×ŀ Ow×Mem)=>match gx with|⟨bn,aM,aX⟩=>⟨bn,[(11,.map (some ab))],Mem.le aU aX/\ü mq (kp pj aX) (.map (some ab)) bn aM,St w0 G0 aX [(4052,aM)]⟩) ⟨0,[],bt,T1,aU⟩ z (υ z) ⟨mr,bF,bz⟩ (wk (lc z (lc z ((by (try simp only[Lo.É,ė,ĵ,Ħ,Ņ]); repeat (first|exact tM _|refine tx bz.high (by decide) ?_)))))) ?_ ?_
 .rintro _ ⟨F,aE,E,T2,aq⟩ ⟨P,aR,aZ⟩ hr
  refine sr<|Ï z<|nx<|c'<|J' hr z (λb9 hr=>?_) (λb9 hr=>?_)
  .refine o'<|a'<|c'<|V'<|sr<|oE hr λJ bB hr=>γ (X' F' jA (O.mono (mx (mx (mx C K) aj) P)) z z bB) ?_
   obtain⟨c,e,f,d,bY,am,an⟩:=pr (R' (Á O bB) (mx (mx (mx C K) aj) P))
   refine γ (jC _ oz z z bY)<|T' 13 z z159 z λb3=>y' 13 z jA z z z z z (λu hu=>Rp.one n' (G:=aq) (x:=J) (cs:=((χ J.c c e f d):Ŀ Value)++(Ι J.m)) ⟨(χ J.c c e f d),Ι J.m,z,⟨(ι J.c.num c e),(ι J.c.den f d),z,⟨[.bool J.c.num.neg],[ε c J.c.num.Α e],z,z,⟨_,z,am⟩⟩,⟨[.bool J.c.den.neg],[ε f J.c.den.Α d],z,z,⟨_,z,an⟩⟩⟩,z⟩ u (by first|simpa using hu|simpa [Value.cells] using hu))<|nx<|c'<|sr<|γ (lV z)<|γ (gZ (Ι J.m).toArray 13 iL z z (M' _ _ _) (hC ((χ J.c c e f d)) (Ι J.m) ([])))<|γ (w' 3 rF z z (iz.size (I.mono (mx (mx (mx C K) aj) P))))<|oE hr λcC bD hr=>I' z z (x' Mc z) (RW bD) z ((I.mono (mx (mx (mx C K) aj) P)))<|nx<|iC hr z (λcd hr=>?_) (λcd hr=>?_)
   .refine Æ<|g'<|H'<|a'<|p'<|é z<|δ z<|q'<|K' ⟨i64.wrap (F+1),aE,E,T2,aq⟩ hr ⟨P,aR,aZ⟩ (υ z) (wk (lc z (lc z ((by (try simp only[Lo.É,ė,ĵ,Ħ,Ņ]); repeat (first|exact tM _|refine tx aZ.high (by decide) ?_))))))
   refine o'<|a'<|sr<|γ (oq z)<|γ (gZ ((χ J.c c e f d)).toArray 13 kf z z z (hC ([]) ((χ J.c c e f d)) ((Ι J.m))))<|oE hr λci bO hr=>U' z z (x' L6 z) (RU bO) z (⟨am,an⟩) (λcr bi aL a7=>?_)
   obtain⟨bI,bS,rfl,bG⟩:=a7
   refine θ z<|c'<|sr<|γ (lV z)<|γ (gZ (Ι J.m).toArray 13 iL z z (M' _ _ _) (hC ((χ J.c c e f d)) (Ι J.m) ([])))<|δ z<|nx<|Z' (X:=(Ŀ Za)×ŀ Addr×Nat×Int×Lo×Mem) hr (λ⟨aa,Q,V,al,T4,ar⟩=>⟨(aa,al),[(3,Τ H),(14,ε Q aa V),(53,ε B o D),(54,i' (o.length:Int)),(55,i' F),(67,.agg (Ι J.m).toArray),(68,i' al),(11,.map (some ab)),(10,.func (.func 150) #[] #[Τ W,Τ S])],Mem.le bi ar/\sl n' ar Q V aa/\rC (Rp.sl n') 49 236 137 W1 ac ar T4 W S,St w0 G0 ar ((3,Ξ H (m) 137)::(4052,E)::T4)⟩) (λ(⟨Y,ah,ai,T3,ap⟩:(Ŀ Za)×ŀ Addr×Nat×Lo×Mem)=>⟨Y,[(3,Τ H),(14,ε ah Y ai),(53,ε B o D),(54,i' (o.length:Int)),(55,i' F),(11,.map (some ab)),(10,.func (.func 150) #[] #[Τ W,Τ S])],Mem.le bi ap/\sl n' ap ah ai Y/\rC (Rp.sl n') 49 236 137 W1 ac ap T3 W S,St w0 G0 ap ((3,Ξ H (m) 137)::(4052,E)::T3)⟩) ⟨ci,bI,bS,0,T2,bi⟩ z (υ z) ⟨mr,bG,(aZ.mono aL)⟩ (wk (lc z (lc z ((by (try simp only[Lo.É,ė,ĵ,Ħ,Ņ]); repeat (first|exact tM _|refine tx aZ.high (by decide) ?_)))))) ?_ ?_
   .rintro _ ⟨aa,Q,V,al,T4,ar⟩ ⟨aJ,az,ay⟩ hr
    refine sr<|Ï z<|nx<|c'<|J' hr z (λch hr=>?_) (λch hr=>?_)
    .refine o'<|a'<|c'<|V'<|sr<|δ z<|oA hr λbw hr=>γ (wE lK ñ gh z z bw (mh _ _ _ bw))<|ς z<|ς z<|nr<|δ z<|γ (kr z z)<|nx<|J' hr z (λcc hr=>?_) (λcc hr=>?_)
     .refine p'<|δ z<|δ z<|δ z<|δ z<|oA hr λbA hr=>kq (S':=St w0 G0 ar ((3,Ξ H (m) 137)::(4052,E)::T4)) (λw hs=>hs.weaken (lc z (lc z ((by (try simp only[Lo.É,ė,ĵ,Ħ,Ņ]); repeat (first|exact tM _|refine tx ay.high (by decide) ?_)))))) ?_
      refine WL.tB (A:=[(3,Ξ H (m) 137),(4052,E)]) (T:=T4) z (rC.keys ay) (λG L v h=>h.2.keys) z z (YC.vE Gj z z) (TQ W1 ac _ _ _ _ _ ce bA.1 bA.2) z ay hz (λcu cD T5 a3 bb=>?_)
      obtain⟨⟨cz,cn,rfl,bN⟩,bC⟩:=bb
      refine oE hr λbV bT hr=>U' z z (x' Md z) (MK _ _ _ _ _ _ _ bT) z (⟨(az.mono a3),bN⟩) (λco b6 aT a6=>?_)
      obtain⟨bm,bk,rfl,bf⟩:=a6
      refine δ z<|Û z<|Û z<|ς z<|q'<|A'<|a'<|p'<|é z<|δ z<|q'<|K' ⟨bV.1,bm,bk,i64.wrap (al+1),T5,b6⟩ hr ⟨(mx (mx aJ a3) aT),bf,(bC.mono aT)⟩ (υ z) (wk (lc z (lc z ((by (try simp only[Lo.É,ė,ĵ,Ħ,Ņ]); repeat (first|exact tM _|refine tx bC.high (by decide) ?_))))))
     refine o'<|A'<|a'<|p'<|é z<|δ z<|q'<|K' ⟨aa,Q,V,i64.wrap (al+1),T4,ar⟩ hr ⟨aJ,az,ay⟩ (υ z) (wk (lc z (lc z ((by (try simp only[Lo.É,ė,ĵ,Ħ,Ņ]); repeat (first|exact tM _|refine tx ay.high (by decide) ?_))))))
    refine Æ<|g'<|g'<|H'<|Ë ⟨aa,Q,V,T4,ar⟩ ⟨hr,aJ,az,ay⟩ (υ z) (wk (lc z (lc z ((by (try simp only[Lo.É,ė,ĵ,Ħ,Ņ]); repeat (first|exact tM _|refine tx ay.high (by decide) ?_))))))
   rintro⟨Y,ah,ai,T3,ap⟩ ⟨hr,aY,aB,aN⟩
   refine a'<|sr<|δ z<|γ (N' F' aB z)<|δ z<|nx<|Z' (X:=Int×(Ŀ ((Fin 8->Int)×Zj))×ŀ Ow×Mem) hr (λ⟨au,aV,av,aF⟩=>⟨(au,aV),[(3,Τ H),(53,ε B o D),(54,i' (o.length:Int)),(55,i' F),(84,ε ah Y ai),(85,i' (Y.length:Int)),(86,i' au),(11,.map (some ab)),(10,.func (.func 150) #[] #[Τ W,Τ S])],Mem.le ap aF/\ü mq (kp pj aF) (.map (some ab)) aV av,St w0 G0 aF ((3,Ξ H (m) 137)::(4052,av)::T3)⟩) (λ(gx:(Ŀ ((Fin 8->Int)×Zj))×ŀ Ow×Mem)=>match gx with|⟨aW,ax,aQ⟩=>⟨aW,[(3,Τ H),(53,ε B o D),(54,i' (o.length:Int)),(55,i' F),(11,.map (some ab)),(10,.func (.func 150) #[] #[Τ W,Τ S])],Mem.le ap aQ/\ü mq (kp pj aQ) (.map (some ab)) aW ax,St w0 G0 aQ ((3,Ξ H (m) 137)::(4052,ax)::T3)⟩) ⟨0,aE,E,ap⟩ z (υ z) ⟨mr,(oX aR (mx aL aY))⟩ (wk (lc z (lc z ((by (try simp only[Lo.É,ė,ĵ,Ħ,Ņ]); repeat (first|exact tM _|refine tx aN.high (by decide) ?_)))))) ?_ ?_
   .rintro _ ⟨au,aV,av,aF⟩ ⟨aw,bg⟩ hr
    refine sr<|Ï z<|nx<|c'<|J' hr z (λb8 hr=>?_) (λb8 hr=>?_)
    .refine o'<|a'<|c'<|V'<|sr<|oE hr λR bu hr=>γ (X' F' jA (aB.mono aw) z z bu) ?_
     obtain⟨g,k,l,n,bU,ak,ag⟩:=pr (R' (Á aB bu) aw)
     refine γ (jC _ oz z z bU)<|T' 18 z z159 z λb4=>y' 18 z jA z z z z z (λu hu=>Rp.one n' (G:=aF) (x:=R) (cs:=((χ R.c g k l n):Ŀ Value)++(Ι R.m)) ⟨(χ R.c g k l n),Ι R.m,z,⟨(ι R.c.num g k),(ι R.c.den l n),z,⟨[.bool R.c.num.neg],[ε g R.c.num.Α k],z,z,⟨_,z,ak⟩⟩,⟨[.bool R.c.den.neg],[ε l R.c.den.Α n],z,z,⟨_,z,ag⟩⟩⟩,z⟩ u (by first|simpa using hu|simpa [Value.cells] using hu))<|nx<|p'<|δ z<|γ (oq z)<|γ (gZ ((χ R.c g k l n)).toArray 18 kf z z z (hC ([]) ((χ R.c g k l n)) ((Ι R.m))))<|γ (lV z)<|γ (gZ (Ι R.m).toArray 18 iL z z (M' _ _ _) (hC ((χ R.c g k l n)) (Ι R.m) ([])))<|oE hr λbW bE hr=>kq (λw hs=>hs.î (i:=4052) (j:=5500) z (by rw[aO]; rfl))<|nO z z (x' Me z) (RX bE) z (⟨bg,ak,ag⟩) (lc z ln) hz (λcp cj cw bp a5=>?_)
     obtain⟨bo,rfl,rfl,be⟩:=a5
     refine kq (λw hs=>hs.î (i:=5500) (j:=4052) z (by rw[aO]; rfl))<|q'<|A'<|a'<|p'<|é z<|δ z<|q'<|K' ⟨i64.wrap (au+1),bW,bo,cj⟩ hr ⟨(mx aw bp),be⟩ (υ z) (wk (lc z (lc z ((by (try simp only[Lo.É,ė,ĵ,Ħ,Ņ]); repeat (first|exact tM _|refine tx aN.high (by decide) ?_))))))
    refine Æ<|g'<|g'<|H'<|Ë ⟨aV,av,aF⟩ ⟨hr,aw,bg⟩ (υ z) (wk (lc z (lc z ((by (try simp only[Lo.É,ė,ĵ,Ħ,Ņ]); repeat (first|exact tM _|refine tx aN.high (by decide) ?_))))))
   rintro⟨aW,ax,aQ⟩ ⟨hr,a1,bJ⟩
   refine A'<|a'<|p'<|é z<|δ z<|q'<|K' ⟨i64.wrap (F+1),aW,ax,T3,aQ⟩ hr ⟨(mx (mx (mx P aL) aY) a1),bJ,(aN.mono a1)⟩ (υ z) (wk (lc z (lc z ((by (try simp only[Lo.É,ė,ĵ,Ħ,Ņ]); repeat (first|exact tM _|refine tx aN.high (by decide) ?_))))))
  refine Æ<|g'<|g'<|H'<|Ë ⟨aE,E,aq⟩ ⟨hr,P,aR⟩ (f1 z) (w1 z)
 rintro⟨bn,aM,aX⟩ ⟨hr,cl,bM⟩
 refine a'<|sr<|δ z<|oE hr λcE bP hr=>kq (λw hs=>hs.î (i:=4052) (j:=5500) z (by rw[aO]; rfl))<|zY z z (x' He z) (KH bP) z (bM) (lc z ln) (λi hi=>by simp only[ė,ĵ,ą,ĝ,ŝ] at hi; subst hi; exact z) hz (λct cF cm a8=>?_)
 obtain⟨cq,cB,rfl,bH⟩:=a8
 refine kq (λw hs=>hs.î (i:=5500) (j:=4052) z (by rw[aO]; rfl))<|ς z<|θ z<|m' ?_
 obtain rfl:_=r:=hr
 exact l5 z z z ⟨_,_,z,bH⟩
theorem RT{u O c d q m A y r}(a:(æ u O).ο r):ä prog 23 #[.agg ((vR u c d q m)).toArray,ε A O y] (λG=>sl Rp.str G c d u.à/\sl Rp.str G q m u.ll/\sl n' G A y O) (λG v=>∃ M K,v = .tuple #[ε M r.1 K,.bool r.2]/\sl n' G M K r.1):=by
 refine E' (args:=[_,_]) (N:=48) func23 z z z (λw0 G0 aB ac=>?_)
 obtain⟨g,x,W⟩:=ac
 refine sr<|ý 2 z z z λw=>ς z<|θ z<|c'<|sr<|γ (w' 2 yg z z z)<|δ z<|oE a λay ad a=>U' z z (x' LP z) (RL ad) z (⟨g,x,W⟩) (λap s h C=>?_)
 obtain⟨av,au,rfl,ab⟩:=C
 refine γ (N' Q' ab z)<|γ (kr z z)<|nx<|J' a z (λan a=>?_) (λan a=>?_)
 .refine sr<|ς z<|θ z<|m'<|b' ?_
  obtain rfl:_=r:=a
  exact l5 z z z ⟨_,_,z,(gi n' _)⟩
 refine o'<|a'<|sr<|T' 6 z LJ z λT=>nx<|c'<|sr<|γ (Y0.RC z)<|γ (f' 2 lr z z z)<|γ (N' Q' (g.mono h) z)<|δ z<|nx<|Z' (X:=Int×(Ŀ (Ŀ Za))×Ŀ Value×Unit×Mem) a (λ⟨e,k,j,i,l⟩=>⟨(e,k),[(1,ε A O y),(2,Τ w),(6,Τ T),(18,ε c u.à d),(19,i' (u.à.length:Int)),(20,i' e)],Mem.le s l/\iz (Rp.sl n') 8 l j i k,St w0 G0 l [(2,Ξ w (vR u c d q m) 74),(6,Ξ T (j) 137)]⟩) (λ(⟨I,t,R,B⟩:(Ŀ (Ŀ Za))×Ŀ Value×Unit×Mem)=>⟨I,[(1,ε A O y),(6,Τ T)],Mem.le s B/\iz (Rp.sl n') 8 B t R I,St w0 G0 B [(6,Ξ T (t) 137)]⟩) ⟨0,(List.replicate 8 []),([.slice none 0 0,.slice none 0 0,.slice none 0 0,.slice none 0 0,.slice none 0 0,.slice none 0 0,.slice none 0 0,.slice none 0 0]:Ŀ Value),(),s⟩ z (υ z) ⟨mr,(show iz (Rp.sl n') 8 s ([.slice none 0 0,.slice none 0 0,.slice none 0 0,.slice none 0 0,.slice none 0 0,.slice none 0 0,.slice none 0 0,.slice none 0 0]:Ŀ Value) () _ from iz.zero (G:=s) (r:=(Rp.sl n')) (n:=8) (zc:=[.slice none 0 0]) (z:=[]) ⟨_,z,(gi _ _)⟩)⟩ (w2 z z) ?_ ?_
 .rintro _ ⟨e,k,j,i,l⟩ ⟨f,p⟩ a
  refine sr<|Ï z<|nx<|c'<|J' a z (λak a=>?_) (λak a=>?_)
  .refine o'<|a'<|c'<|V'<|sr<|δ z<|oE a λx1 V a=>γ (X' Q' nJ (g.mono (mx h f)) z z V)<|γ (il ou z (qQ (R' (Á g V) (mx h f))))<|ς z<|ς z<|nr<|γ (Y0.Ry z)<|γ (f' 2 lr z z z)<|δ z<|oE a λaz aa a=>I' z z (x' L5 z) (RR aa) z ((x.mono (mx h f)))<|ς z<|nr<|δ z<|γ (kO z z)<|nx<|J' a z (λam a=>?_) (λam a=>?_)
   .refine p'<|δ z<|δ z<|oE a λJ Z a=>U' z z (x' SZ z) (fD' Z) z (trivial) (λar aj o D=>?_)
    obtain⟨P,L,rfl,F⟩:=D
    refine δ z<|Û z<|Û z<|oE a λx2 U a=>γ (Y0.qF KO iG z z (iz.lt (p.mono o) U))<|WL.vL (cs':=[ε P J.1 L]) (z':=J.1) 6 z iG z (by decide) (p.mono o) z z z z ⟨_,z,F⟩ U λd1 ai=>q'<|A'<|a'<|p'<|é z<|δ z<|q'<|K' ⟨i64.wrap (e+1),k.set e.toNat J.1,d1,i,aj⟩ a ⟨(mx f o),ai⟩ (υ z) (w2 z z)
   refine o'<|A'<|a'<|p'<|é z<|δ z<|q'<|K' ⟨i64.wrap (e+1),k,j,i,l⟩ a ⟨f,p⟩ (υ z) (w2 z z)
  refine Æ<|g'<|g'<|H'<|Ë ⟨k,j,i,l⟩ ⟨a,f,p⟩ (υ z) (w1 z)
 rintro⟨I,t,R,B⟩ ⟨a,S,H⟩
 refine a'<|sr<|δ z<|γ (w' 6 rF z z (iz.size H))<|oE a λax Y a=>U' z z (x' S0 z) (fd' Y) z (⟨(W.mono (mx h S)),H⟩) (λaw aA ao E=>?_)
 obtain⟨ah,af,rfl,Q⟩:=E
 refine δ z<|Û z<|Û z<|ς z<|ς z<|nr<|δ z<|δ z<|γ (iI z z)<|ς z<|θ z<|m' ?_
 obtain rfl:_=r:=a
 exact l5 z z z ⟨_,_,z,Q⟩
theorem KC{j M l P i h g t s p o C d e f u q m n B c A r}(a:(AW j M l P i).ο r):ò prog 51 #[.agg ((Ρ j h g t s p o)).toArray,.map (some C),.agg ((Ρ l e f u q m n)).toArray,.map (some B),Τ A] [(5501,d),(5503,c),(104017,Ξ A ([i' i]) 3)] (λG=>sl Rp.str G h g j.vars/\sl j' G t s j.eqs/\sl j' G p o j.ζ/\ü oi (kp nN G) (.map (some C)) M d/\sl Rp.str G e f l.vars/\sl j' G u q l.eqs/\sl j' G m n l.ζ/\ü oi (kp nN G) (.map (some B)) P c) (λG L v=>L=[(5501,d),(5503,c),(104017,Ξ A ([i' i]) 3)]/\v = .bool r):=by
 refine qz (args:=[_,_,_,_,_]) (N:=65) func51 z z z (λH y aF ac=>?_)
 obtain⟨D,ab,W,R,E,ad,Y,T⟩:=ac
 refine sr<|ý 5 z z z λw=>ý 7 z z z λb3=>ς z<|nr<|δ z<|γ (f' 104017 ñ z z z) ?_
 obtain⟨ao,a⟩:=a
 obtain⟨U,J,a⟩:=a
 replace J:_=U:=J
 refine zT (r:=nN) (k:=i) (zc:=[.slice none 0 0,.bool false]) (z:=(Zl.mk [] false)) 5501 z z sM ry ⟨[.slice none 0 0],[.bool false],z,⟨_,z,(gi _ _)⟩,z⟩ R z z z ao (λaE Z=>?_)
 rw[J] at Z
 obtain⟨af,ag,rfl,ai⟩:=vY Z
 refine δ z<|Û z<|Û z<|T' 10 z z70 z λb4=>ø 10 sH z<|ς z<|nr<|δ z<|γ (f' 104017 ñ z z z) ?_
 obtain⟨al,a⟩:=a
 obtain⟨S,Q,a⟩:=a
 replace Q:_=S:=Q
 refine zT (r:=nN) (k:=i) (zc:=[.slice none 0 0,.bool false]) (z:=(Zl.mk [] false)) 5503 z z sM ry ⟨[.slice none 0 0],[.bool false],z,⟨_,z,(gi _ _)⟩,z⟩ T z z z al (λaD X=>?_)
 rw[Q] at X
 obtain⟨ah,aj,rfl,ae⟩:=vY X
 refine δ z<|Û z<|Û z<|T' 12 z z70 z λb5=>ø 12 sH z<|θ z<|k5 a (λ(gx:Mem)=>match gx with|O=>⟨[(5,Τ w),(7,Τ b3),(10,Τ b4),(12,Τ b5),(1,.map (some C)),(3,.map (some B))],Mm j l U S,Mem.le y O,St H y O [(104017,Ξ A ([i' i]) 3),(5,Ξ w (Ρ j h g t s p o) 29),(7,Ξ b3 (Ρ l e f u q m n) 29),(10,Ξ b4 ([ε af U.p ag,.bool U.neq]) 70),(12,Ξ b5 ([ε ah S.p aj,.bool S.neq]) 70),(5501,d),(5503,c)]⟩) ?_ ?_
 .refine sr<|eZ a z (oM (h' z) (ć Value.bool (nu _))) z (λax a=>?_) (λax a=>?_)
  .refine γ (gP z)<|δ z<|Â z<|gy z z (gP z) z<|Γ z<|nx<|iC a z (λay a=>?_) (λay a=>?_)
   .refine sr<|δ z<|δ z<|γ (Y0.vv vl z z)<|θ z<|m'<|b' ?_
    obtain rfl:_=r:=a
    refine oZ (S':=St H y y [(5501,d),(5503,c),(104017,Ξ A ([i' i]) 3)]) (w3 z z z)<|k' z z ⟨z,z⟩
   refine o'<|ia y ⟨a,mr⟩ (υ z) (w7 z z z z z z z)
  refine γ (gP z)<|δ z<|lk z<|Δ z<|nx<|iS z<|sr<|δ z<|δ z<|γ (Y0.vv vl z z)<|θ z<|m'<|b' ?_
  obtain rfl:_=r:=a
  refine oZ (S':=St H y y [(5501,d),(5503,c),(104017,Ξ A ([i' i]) 3)]) (w3 z z z)<|k' z z ⟨z,z⟩
 rintro O ⟨a,x⟩
 refine sr<|γ (lI z)<|γ (f' 5 lr z z z)<|γ (lI z)<|γ (f' 7 lr z z z)<|γ (iK (vs:=#[(0,ε h j.vars g),(1,ε e l.vars f)]) (v:=.agg ([ε h j.vars g,ε e l.vars f]).toArray) z z (λ_=>by kernel_rfl))<|γ (Y0.makeFunc z z)<|ς z<|nr<|δ z<|γ (Y0.Fh z)<|γ (f' 10 ij z z z)<|oE a λaC ak a=>U' z z (YC.Li LQ z z) (RT ak) z (⟨(D.mono x),(E.mono x),(ai.mono x)⟩) (λaz I V F=>?_)
 obtain⟨ap,am,rfl,K⟩:=F
 refine δ z<|Û z<|Û z<|ς z<|ς z<|nr<|γ (Y0.Ki z)<|γ (f' 10 kX z z z)<|γ (Y0.Ki z)<|γ (f' 12 kX z z z)<|eZ a z (Y0.vv vl z z) z (λaw a=>?_) (λaw a=>?_)
 .refine δ z<|eZ a (W' z z) (oM (h' z) (ć Value.bool (nu _))) z (λav a=>?_) (λav a=>?_)
  .refine Δ z<|δ z<|Â z<|gy z z (Y0.Fh z) z<|gy z z (f' 12 ij z z z) z<|oE a λaB aa a=>I' (W' z z) z (x' AD z) (AP _ _ _ _ _ _ _ aa) z (⟨K,(ae.mono (mx x V))⟩)<|Δ z<|θ z<|m' ?_
   obtain rfl:_=r:=a
   refine oZ (S':=St H y I [(5501,d),(5503,c),(104017,Ξ A ([i' i]) 3)]) (w3 z z z)<|k' z z ⟨z,z⟩
  refine Δ z<|δ z<|ke z<|Γ z<|θ z<|m' ?_
  obtain rfl:_=r:=a
  refine oZ (S':=St H y I [(5501,d),(5503,c),(104017,Ξ A ([i' i]) 3)]) (w3 z z z)<|k' z z ⟨z,z⟩
 refine δ z<|sk z z z<|Γ z<|δ z<|ke z<|Γ z<|θ z<|m' ?_
 obtain rfl:_=r:=a
 refine oZ (S':=St H y I [(5501,d),(5503,c),(104017,Ξ A ([i' i]) 3)]) (w3 z z z)<|k' z z ⟨z,z⟩
theorem gF':kx prog 88 #[] 90 oi (Rp.int .i64) 3:=
 collect (NA (λi g h=>B1 (ok:=oi.ok) (enc:=λx=>(Value.int .i64) x) func147 z z z CU C0 yf el3 z (by decide) (λ_ _=>z) (λ_ _=>by kernel_rfl) Tn i g h) (λe c f d=>wP (ok:=oi.ok) (enc:=λx=>(Value.int .i64) x) func90 z z z rU sM e c f d)) Gh func88 z z z
theorem K5:pH prog 49 90 oi (Rp.int .i64) 3 Z8:=
 sorted gF' (λd p c e y h=>TP d p c d.length e y h) Tl Tm func49 z z z
set_option maxHeartbeats 2000000 in
theorem fe'{aW d H aH aG aO aP aD aA C D E F n m Q P S R K J r}(a:(Ho aW d H).ο r):ò prog 20 #[.agg ((Ρ aW aH aG aO aP aD aA)).toArray,.agg ((Ρ d C D E F n m)).toArray,.agg ((Ρ H Q P S R K J)).toArray] [] (λG=>sl Rp.str G aH aG aW.vars/\sl j' G aO aP aW.eqs/\sl j' G aD aA aW.ζ/\sl Rp.str G C D d.vars/\sl j' G E F d.eqs/\sl j' G n m d.ζ/\od G Q P S R K J H) (λG L v=>∃ bg bd bw bA bO,L=[(7000,bO)]/\v = .tuple #[ε bg r.1 bd,ε bw r.2 bA]/\sl pM G bg bd r.1/\sl kB G bw bA r.2/\Tok 7 72 (ε bg r.1 bd) r.1.length bO):=by
 refine qz (args:=[_,_,_]) (N:=102) func20 z z z (λw0 G0 I cD=>?_)
 obtain⟨aF,aN,ax,am,ao,an,ap,av,aq⟩:=cD
 have hz:w0.L.zero:=by rw[I]; intro p hp; simp at hp
 refine sr<|ý 3 z z z λb1=>ý 4 z z z λb2=>ý 5 z z z λb3=>ς z<|θ z<|c'<|hZ [ff,ff,ff,ff,ff] gp (by kernel_rfl) λhb=>cn (λ_ aM=>w' 3 ÿ z z z)<|oE a λc6 ce a=>η.oJ (f:=47) (ky:=oi) (r:=nN) c6 (λ_=>z) (λu G' aM hu=>?_) ?_
 .exact⟨_,_,_,λ_=>x' AF z,B5 ce,z,⟨(aF.mono aM),(aN.mono aM),(ax.mono aM)⟩⟩
 refine cu (λ_ _ aM=>w' 4 ÿ z z z)<|oE a λcV cg a=>η.oJ (f:=47) (ky:=oi) (r:=nN) cV (λ_=>z) (λu G' aM hu=>?_) ?_
 .exact⟨_,_,_,λ_=>x' AF z,B5 cg,z,⟨(am.mono aM),(ao.mono aM),(an.mono aM)⟩⟩
 refine cu (λ_ _ aM=>w' 5 ÿ z z z)<|η.ql λdB dF X1 M bq aV=>WL.qW bq (λak bH bV a4 cf=>?_)
 subst bV
 replace aV:=oC.drop aV (by decide) cf
 refine WL.qW aV (λal bG cx bf dO=>?_)
 subst cx
 refine sv (show WL _ _ _ _ _ _ (St w0 G0 X1.m _) from ?_)
 refine kq (λw O=>O.î (i:=26) (j:=4026) z (by rw[I]; rfl))<|kq (λw O=>O.î (i:=24) (j:=4024) z (by rw[I]; rfl))<|oE a λd0 cz a=>nO z z (x' AF z) (B5 cz) z (⟨(ap.mono M),(av.mono M),(aq.mono M)⟩) ln hz (λdv c1 dH B bp=>?_)
 obtain⟨ai,bJ,rfl,rfl,a6⟩:=bp
 refine kq (λw O=>O.î (i:=7000) (j:=4028) z (by rw[I]; rfl))<|ς z<|ς z<|ς z<|q'<|fh<|a'<|sr<|wH (ky:=oi) (Rv:=kp nN c1) 4029 z z λc9 dm bR=>θ z<|c'<|sr<|δ z<|δ z<|δ z<|jL (e:=125) (r:=Rp.sC) (vs:=#[(0,.map (some al)),(1,.map (some ak)),(2,.map (some ai))]) (cs:=[.map (some al)]++([.map (some ak)]++([.map (some ai)]++([])))) ([al,ak,ai]:Ŀ Nat) z z z z z (by decide) (λ_=>by kernel_rfl) ⟨[.map (some al)],[.map (some ak)]++([.map (some ai)]++([])),z,z,⟨[.map (some ak)],[.map (some ai)]++([]),z,z,⟨[.map (some ai)],[],z,z,z⟩⟩⟩ (key:=999) z (by rw[I]; rfl) λp1 dW s a0=>γ (oM (N' FG a0 z) (show Value.int .i64 _=i' 3 from z))<|δ z<|nx<|V'<|WC.yZ<|sr<|γ (oM (nb z z) (ć Value.bool (ē (by decide))))<|nx<|c'<|iS z<|o'<|a'<|c'<|V'<|sr<|γ (X' FG um a0 z z (show (0:Int)<=0/\([al,ak,ai]:Ŀ Nat)[((0:Int)).toNat]? = some al from ⟨by decide,z⟩))<|γ (il rU z (AtK.sC (Á a0 (show (0:Int)<=0/\([al,ak,ai]:Ŀ Nat)[((0:Int)).toNat]? = some al from ⟨by decide,z⟩))))<|θ z<|p'<|δ z<|δ z<|kq (λw O=>O.î (i:=4029) (j:=5500) z (by rw[I]; rfl))<|kq (λw O=>O.î (i:=4024) (j:=5501) z (by rw[I]; rfl))<|nO z z (x' G7 z) (Kt a) z (⟨(oX bR s),(oX bf (mx B s))⟩) (lc z (lc z ln)) hz (λdz d3 dR o bj=>?_)
 clear a
 obtain⟨dU,dl,rfl,rfl,a,bu⟩:=bj
 refine kq (λw O=>O.î (i:=5500) (j:=4029) z (by rw[I]; rfl))<|kq (λw O=>O.î (i:=5501) (j:=4024) z (by rw[I]; rfl))<|q'<|A'<|a'<|p'<|γ (oM (O' z z) (ć (Value.int .i64) (show i64.wrap ((0:Int)+1)=1 by decide)))<|δ z<|q'<|WE.again<|sr<|γ (oM (nb z z) (ć Value.bool (ē (by decide))))<|nx<|c'<|iS z<|o'<|a'<|c'<|V'<|sr<|γ (X' FG um (a0.mono o) z z (show (0:Int)<=1/\([al,ak,ai]:Ŀ Nat)[((1:Int)).toNat]? = some ak from ⟨by decide,z⟩))<|γ (il rU z (AtK.sC (R' (Á a0 (show (0:Int)<=1/\([al,ak,ai]:Ŀ Nat)[((1:Int)).toNat]? = some ak from ⟨by decide,z⟩)) o)))<|θ z<|p'<|δ z<|δ z<|kq (λw O=>O.î (i:=4029) (j:=5500) z (by rw[I]; rfl))<|kq (λw O=>O.î (i:=4026) (j:=5501) z (by rw[I]; rfl))<|nO z z (x' G7 z) (Kt a) z (⟨bu,(oX a4 (mx (mx B s) o))⟩) (lc z (lc z ln)) hz (λdu d9 ds t bl=>?_)
 clear a
 obtain⟨d8,dh,rfl,rfl,a,bE⟩:=bl
 refine kq (λw O=>O.î (i:=5500) (j:=4029) z (by rw[I]; rfl))<|kq (λw O=>O.î (i:=5501) (j:=4026) z (by rw[I]; rfl))<|q'<|A'<|a'<|p'<|γ (oM (O' z z) (ć (Value.int .i64) (show i64.wrap ((1:Int)+1)=2 by decide)))<|δ z<|q'<|WE.again<|sr<|γ (oM (nb z z) (ć Value.bool (ē (by decide))))<|nx<|c'<|iS z<|o'<|a'<|c'<|V'<|sr<|γ (X' FG um (a0.mono (mx o t)) z z (show (0:Int)<=2/\([al,ak,ai]:Ŀ Nat)[((2:Int)).toNat]? = some ai from ⟨by decide,z⟩))<|γ (il rU z (AtK.sC (R' (Á a0 (show (0:Int)<=2/\([al,ak,ai]:Ŀ Nat)[((2:Int)).toNat]? = some ai from ⟨by decide,z⟩)) (mx o t))))<|θ z<|p'<|δ z<|δ z<|kq (λw O=>O.î (i:=4029) (j:=5500) z (by rw[I]; rfl))<|kq (λw O=>O.î (i:=4028) (j:=5501) z (by rw[I]; rfl))<|nO z z (x' G7 z) (Kt a) z (⟨bE,(oX a6 (mx (mx s o) t))⟩) (lc z (lc z ln)) hz (λdr dY dA y bi=>?_)
 clear a
 obtain⟨dX,dg,rfl,rfl,a,bv⟩:=bi
 refine kq (λw O=>O.î (i:=5500) (j:=4029) z (by rw[I]; rfl))<|kq (λw O=>O.î (i:=5501) (j:=4028) z (by rw[I]; rfl))<|q'<|A'<|a'<|p'<|γ (oM (O' z z) (ć (Value.int .i64) (show i64.wrap ((2:Int)+1)=3 by decide)))<|δ z<|q'<|WE.again<|sr<|γ (oM (nb z z) (ć Value.bool (ċ (by decide))))<|nx<|c'<|lJ z<|Æ<|g'<|g'<|H'<|a'<|sr<|ς z<|nr<|θ z<|c'<|sr<|δ z<|U' z z (x' G9 z) (oB func50 z z z (some c9)) z trivial (λdL dZ x bo=>?_)
 obtain⟨d1,rfl,ct⟩:=bo
 refine nO z z (x' G8 z) (K5 _ _ _ _ _ 4029 _ (by decide) (oX bv x) a) z ct (lc z ln) hz (λdt d2 dJ A bs=>?_)
 clear a
 obtain⟨bM,ca,b9,dj,rfl,rfl,cC,a⟩:=bs
 refine kq (λw O=>O.î (i:=7000) (j:=4045) z (by rw[I]; rfl))<|qX (r:=(Rp.int .i64)) (e:=3) 4045 cC z (by rw[I]; rfl) λcJ be l bh dk=>γ (N' yf bh z)<|δ z<|nx<|Z' (X:=(Ŀ Zg)×ŀ Addr×Nat×ŀ Ow×(Ŀ Zk)×ŀ Addr×Nat×ŀ Ow×Int×Mem) a (λ⟨V,ae,af,ab,U,aa,Z,Y,aj,a3⟩=>⟨(V,U,aj),[(3,Τ b1),(4,Τ b2),(5,Τ b3),(14,ε ae V af),(15,ε aa U Z),(45,ε ca bM b9),(46,i' (bM.length:Int)),(47,i' aj),(8,.map (some al)),(9,.map (some ak)),(10,.map (some ai))],Mem.le be a3/\sl pM a3 ae af V/\Tok 7 72 (ε ae V af) V.length ab/\sl kB a3 aa Z U/\Tok 2 55 (ε aa U Z) U.length Y,St w0 G0 a3 [(3,Ξ b1 (Ρ aW aH aG aO aP aD aA) 29),(4,Ξ b2 (Ρ d C D E F n m) 29),(5,Ξ b3 (Ρ H Q P S R K J) 29),(4045,cJ),(1014,ab),(1015,Y),(4024,bG),(4026,bH),(4028,bJ)]⟩) (λ(⟨aK,aR,aS,aJ,aL,aT,aQ,aU,a5⟩:(Ŀ Zg)×ŀ Addr×Nat×ŀ Ow×(Ŀ Zk)×ŀ Addr×Nat×ŀ Ow×Mem)=>⟨(aK,aL),[(14,ε aR aK aS),(15,ε aT aL aQ)],Mem.le be a5/\sl pM a5 aR aS aK/\Tok 7 72 (ε aR aK aS) aK.length aJ/\sl kB a5 aT aQ aL/\Tok 2 55 (ε aT aL aQ) aL.length aU,St w0 G0 a5 [(1014,aJ),(1015,aU)]⟩) ⟨[],none,0,none,[],none,0,none,0,be⟩ z (f11 z z z z z z z z z z z) ⟨mr,(gi _ _),qC,(gi _ _),qC⟩ (wk (lc z (lc z (lc z (lc z (lw (lw (lc z (lc z (lc z ln)))))))))) ?_ ?_
 .rintro _ ⟨V,ae,af,ab,U,aa,Z,Y,aj,a3⟩ ⟨g,ag,ac,ah,ad⟩ a
  refine sr<|Ï z<|nx<|c'<|J' a z (λdf a=>?_) (λdf a=>?_)
  .refine o'<|a'<|c'<|V'<|sr<|oE a λT bP a=>γ (X' yf gh (bh.mono g) z z bP)<|γ (il ñ z (lH (R' (Á bh bP) g)))<|T' 104017 z z3 z λb4=>kN 104017 ([i' T]).toArray z gh z z z (by first|decide|simp) z z<|nx<|c'<|sr<|γ (f' 104017 ñ z z z)<|γ (pq z)<|γ (f' 3 ñ z z z)<|γ (kO z z)<|nx<|J' a z (λcZ a=>?_) (λcZ a=>?_)
   .refine Æ<|g'<|KW z<|g'<|g'<|H'<|Ë ⟨V,ae,af,ab,U,aa,Z,Y,a3⟩ ⟨a,g,ag,ac,ah,ad⟩ (υ z) (w2 z z)
   refine o'<|a'<|sr<|γ (Y0.makeFunc z z)<|ς z<|nr<|γ (w' 4 ÿ z z z)<|δ z<|T' 19 z na z λb5=>ø 19 jB z<|θ z<|c'<|V'<|sr<|δ z<|γ (w' 4 ÿ z z z)<|δ z<|γ (w' 3 ÿ z z z)<|δ z ?_
   obtain⟨d7,cA,a⟩:=a
   have N1:=mx (mx (mx (mx (mx (mx (mx (mx (mx M B) s) o) t) y) x) A) l) g
   have N2:=mx (mx (mx (mx (mx (mx (mx (mx B s) o) t) y) x) A) l) g
   refine kq (λw O=>O.î (i:=4026) (j:=5501) z (by rw[I]; rfl))<|kq (λw O=>O.î (i:=4024) (j:=5503) z (by rw[I]; rfl))<|zY z z (YC.vE Ha z z) (KC cA) z (⟨(am.mono N1),(ao.mono N1),(an.mono N1),(oX a4 N2),(aF.mono N1),(aN.mono N1),(ax.mono N1),(oX bf N2)⟩) (lc z (lc z (lc z ln))) (λi hi=>by simp only[ė,ĵ,ą,ĝ,ŝ] at hi; rcases hi with h|h|h <;> subst h <;> exact z) hz (λdy cv c br=>?_)
   subst br
   refine kq (λw O=>O.î (i:=5501) (j:=4026) z (by rw[I]; rfl))<|kq (λw O=>O.î (i:=5503) (j:=4024) z (by rw[I]; rfl))<|θ z<|iC a z (λc5 a=>?_) (λc5 a=>?_)
   .refine p'<|γ (w' 5 ÿ z z z)<|δ z<|ø 19 jB z<|ς z<|q'<|A'<|a'<|sr<|δ z<|γ (f' 104017 ñ z z z) ?_
    obtain⟨da,a⟩:=a
    obtain⟨u1,bz,a⟩:=a
    replace bz:_=u1:=bz
    have N3:=mx (mx (mx (mx (mx (mx (mx (mx s o) t) y) x) A) l) g) c
    refine zT (r:=nN) (k:=T) (zc:=[.slice none 0 0,.bool false]) (z:=(Zl.mk [] false)) 4028 z z sM ry ⟨[.slice none 0 0],[.bool false],z,⟨_,z,(gi _ _)⟩,z⟩ (oX a6 N3) z z z da (λd5 bQ=>?_)
    rw[bz] at bQ
    obtain⟨aI,aE,rfl,cH⟩:=vY bQ
    refine δ z<|Û z<|Û z<|T' 21 z z70 z λb6=>ø 21 sH z<|ς z<|nr<|δ z<|nx<|iC a z (λcY a=>?_) (λcY a=>?_)
    .refine p'<|δ z<|γ (f' 104017 ñ z z z)<|γ (w' 21 vi z z z)<|γ (w' 19 ÿ z z z)<|γ (iK (vs:=#[(0,i' T),(1,.agg ([ε aI u1.p aE,.bool u1.neq]).toArray),(2,.agg ((Ρ H Q P S R K J)).toArray)]) (v:=.agg ([i' T,ε aI u1.p aE,.bool u1.neq,ε Q H.vars P,ε S H.eqs R,ε K H.ζ J,i' H.next]).toArray) z z (λ_=>by kernel_rfl))<|jL (e:=72) (r:=pM) (vs:=#[(0,.agg ([i' T,ε aI u1.p aE,.bool u1.neq,ε Q H.vars P,ε S H.eqs R,ε K H.ζ J,i' H.next]).toArray)]) (cs:=[i' T,ε aI u1.p aE,.bool u1.neq,ε Q H.vars P,ε S H.eqs R,ε K H.ζ J,i' H.next]++([])) ([(Zg.mk T u1 H)]:Ŀ Zg) z z z z z (by decide) (λ_=>by kernel_rfl) ⟨[i' T,ε aI u1.p aE,.bool u1.neq,ε Q H.vars P,ε S H.eqs R,ε K H.ζ J,i' H.next],[],z,⟨[i' T],[ε aI u1.p aE,.bool u1.neq,ε Q H.vars P,ε S H.eqs R,ε K H.ζ J,i' H.next],z,z,⟨[ε aI u1.p aE,.bool u1.neq],(Ρ H Q P S R K J),z,⟨[ε aI u1.p aE],[.bool u1.neq],z,⟨_,z,cH⟩,z⟩,⟨[ε Q H.vars P],[ε S H.eqs R,ε K H.ζ J,i' H.next],z,⟨_,z,(ap.mono (mx N1 c))⟩,⟨[ε S H.eqs R],[ε K H.ζ J,i' H.next],z,⟨_,z,(av.mono (mx N1 c))⟩,⟨[ε K H.ζ J],[i' H.next],z,⟨_,z,(aq.mono (mx N1 c))⟩,z⟩⟩⟩⟩⟩,z⟩ (key:=999) z (by rw[I]; rfl) (λp2 dM aY c4=>?_)
     refine oA a λbX a=>nt (r:=pM) 1014 z z wD sw z (by decide) z z (ag.mono (mx c aY)) z (by rw[I]; rfl) ac c4 bX λp3 cU bS bW ba c3 b0=>ς z<|q'<|A'<|a'<|p'<|é z<|δ z<|q'<|K' ⟨(V++[(Zg.mk T u1 H)]),p3,cU,bS,U,aa,Z,Y,i64.wrap (aj+1),bW⟩ a ⟨(mx (mx (mx g c) aY) ba),c3,b0,(ah.mono (mx (mx c aY) ba)),ad⟩ (f11 z z z z z z z z z z z) (wk (lc z (lc z (lc z (lc z (lc z (lc z (lc z (lc z (lc z ln))))))))))
    refine o'<|A'<|a'<|p'<|é z<|δ z<|q'<|K' ⟨V,ae,af,ab,U,aa,Z,Y,i64.wrap (aj+1),cv⟩ a ⟨(mx g c),(ag.mono c),ac,(ah.mono c),ad⟩ (f11 z z z z z z z z z z z) (wk (lc z (lc z (lc z (lc z (lc z (lc z (lc z (lc z (lc z ln))))))))))
   refine c'<|sr<|δ z<|γ (w' 5 ÿ z z z)<|δ z<|γ (w' 3 ÿ z z z)<|δ z ?_
   obtain⟨dT,cG,a⟩:=a
   have N4:=mx (mx (mx (mx (mx (mx (mx (mx s o) t) y) x) A) l) g) c
   have N5:=mx N1 c
   refine kq (λw O=>O.î (i:=4028) (j:=5501) z (by rw[I]; rfl))<|kq (λw O=>O.î (i:=4024) (j:=5503) z (by rw[I]; rfl))<|zY z z (YC.vE Ha z z) (KC cG) z (⟨(ap.mono N5),(av.mono N5),(aq.mono N5),(oX a6 N4),(aF.mono N5),(aN.mono N5),(ax.mono N5),(oX bf (mx N2 c))⟩) (lc z (lc z (lc z ln))) (λi hi=>by simp only[ė,ĵ,ą,ĝ,ŝ] at hi; rcases hi with h|h|h <;> subst h <;> exact z) hz (λdq bZ q bk=>?_)
   subst bk
   refine kq (λw O=>O.î (i:=5501) (j:=4028) z (by rw[I]; rfl))<|kq (λw O=>O.î (i:=5503) (j:=4024) z (by rw[I]; rfl))<|θ z<|iC a z (λdb a=>?_) (λdb a=>?_)
   .refine o'<|a'<|iC a z (λc2 a=>?_) (λc2 a=>?_)
    .refine o'<|A'<|a'<|sr<|δ z<|γ (f' 104017 ñ z z z) ?_
     obtain⟨cT,a⟩:=a
     obtain⟨u2,bt,a⟩:=a
     replace bt:_=u2:=bt
     refine zT (r:=nN) (k:=T) (zc:=[.slice none 0 0,.bool false]) (z:=(Zl.mk [] false)) 4026 z z sM ry ⟨[.slice none 0 0],[.bool false],z,⟨_,z,(gi _ _)⟩,z⟩ (oX a4 (mx (mx N2 c) q)) z z z cT (λd4 bL=>?_)
     rw[bt] at bL
     obtain⟨aB,aC,rfl,cp⟩:=vY bL
     refine δ z<|Û z<|Û z<|T' 21 z z70 z λb7=>ø 21 sH z<|ς z<|nr<|δ z<|nx<|iC a z (λcP a=>?_) (λcP a=>?_)
     .have N6:=mx (mx N1 c) q
      refine p'<|δ z<|γ (f' 104017 ñ z z z)<|γ (w' 21 vi z z z)<|γ (w' 19 ÿ z z z)<|γ (iK (vs:=#[(0,i' T),(1,.agg ([ε aB u2.p aC,.bool u2.neq]).toArray),(2,.agg ((Ρ d C D E F n m)).toArray)]) (v:=.agg ([i' T,ε aB u2.p aC,.bool u2.neq,ε C d.vars D,ε E d.eqs F,ε n d.ζ m,i' d.next]).toArray) z z (λ_=>by kernel_rfl))<|jL (e:=72) (r:=pM) (vs:=#[(0,.agg ([i' T,ε aB u2.p aC,.bool u2.neq,ε C d.vars D,ε E d.eqs F,ε n d.ζ m,i' d.next]).toArray)]) (cs:=[i' T,ε aB u2.p aC,.bool u2.neq,ε C d.vars D,ε E d.eqs F,ε n d.ζ m,i' d.next]++([])) ([(Zg.mk T u2 d)]:Ŀ Zg) z z z z z (by decide) (λ_=>by kernel_rfl) ⟨[i' T,ε aB u2.p aC,.bool u2.neq,ε C d.vars D,ε E d.eqs F,ε n d.ζ m,i' d.next],[],z,⟨[i' T],[ε aB u2.p aC,.bool u2.neq,ε C d.vars D,ε E d.eqs F,ε n d.ζ m,i' d.next],z,z,⟨[ε aB u2.p aC,.bool u2.neq],(Ρ d C D E F n m),z,⟨[ε aB u2.p aC],[.bool u2.neq],z,⟨_,z,cp⟩,z⟩,⟨[ε C d.vars D],[ε E d.eqs F,ε n d.ζ m,i' d.next],z,⟨_,z,(am.mono N6)⟩,⟨[ε E d.eqs F],[ε n d.ζ m,i' d.next],z,⟨_,z,(ao.mono N6)⟩,⟨[ε n d.ζ m],[i' d.next],z,⟨_,z,(an.mono N6)⟩,z⟩⟩⟩⟩⟩,z⟩ (key:=999) z (by rw[I]; rfl) (λp4 dI a1 cQ=>?_)
      refine oA a λcm a=>nt (r:=pM) 1014 z z wD sw z (by decide) z z (ag.mono (mx (mx c q) a1)) z (by rw[I]; rfl) ac cQ cm λp5 cM cE ck a9 c8 cq=>ς z<|q'<|A'<|a'<|p'<|é z<|δ z<|q'<|K' ⟨(V++[(Zg.mk T u2 d)]),p5,cM,cE,U,aa,Z,Y,i64.wrap (aj+1),ck⟩ a ⟨(mx (mx (mx (mx g c) q) a1) a9),c8,cq,(ah.mono (mx (mx (mx c q) a1) a9)),ad⟩ (f11 z z z z z z z z z z z) (wk (lc z (lc z (lc z (lc z (lc z (lc z (lc z (lc z (lc z ln))))))))))
     refine o'<|A'<|a'<|p'<|é z<|δ z<|q'<|K' ⟨V,ae,af,ab,U,aa,Z,Y,i64.wrap (aj+1),bZ⟩ a ⟨(mx (mx g c) q),(ag.mono (mx c q)),ac,(ah.mono (mx c q)),ad⟩ (f11 z z z z z z z z z z z) (wk (lc z (lc z (lc z (lc z (lc z (lc z (lc z (lc z (lc z ln))))))))))
    refine sr<|δ z<|γ (f' 104017 ñ z z z)<|γ (iK (vs:=#[(0,i' T)]) (v:=.agg ([i' T,.string ByteArray.empty]).toArray) z z (λ_=>by kernel_rfl))<|jL (e:=55) (r:=kB) (vs:=#[(0,.agg ([i' T,.string ByteArray.empty]).toArray)]) (cs:=[i' T,.string ByteArray.empty]++([])) ([(Zk.mk T ByteArray.empty)]:Ŀ Zk) z z z z z (by decide) (λ_=>by kernel_rfl) ⟨[i' T,.string ByteArray.empty],[],z,⟨[i' T],[.string ByteArray.empty],z,z,z⟩,z⟩ (key:=999) z (by rw[I]; rfl) (λp6 dP aX cN=>?_)
    refine oA a λcb a=>nt (r:=kB) 1015 z z tv vu z (by decide) z z (ah.mono (mx (mx c q) aX)) z (by rw[I]; rfl) ad cN cb λp7 dd bT cr bc cR ci=>θ z<|Æ<|KW z<|g'<|H'<|a'<|p'<|é z<|δ z<|q'<|K' ⟨V,ae,af,ab,(U++[(Zk.mk T ByteArray.empty)]),p7,dd,bT,i64.wrap (aj+1),cr⟩ a ⟨(mx (mx (mx (mx g c) q) aX) bc),(ag.mono (mx (mx (mx c q) aX) bc)),ac,cR,ci⟩ (f11 z z z z z z z z z z z) (wk (lc z (lc z (lc z (lc z (lc z (lc z (lc z (lc z (lc z ln))))))))))
   refine p'<|δ z<|γ (w' 4 ÿ z z z)<|δ z<|γ (w' 5 ÿ z z z)<|δ z ?_
   obtain⟨d6,cd,a⟩:=a
   have N7:=mx (mx N1 c) q
   refine kq (λw O=>O.î (i:=4026) (j:=5501) z (by rw[I]; rfl))<|kq (λw O=>O.î (i:=4028) (j:=5503) z (by rw[I]; rfl))<|zY z z (YC.vE Ha z z) (KC cd) z (⟨(am.mono N7),(ao.mono N7),(an.mono N7),(oX a4 (mx (mx N2 c) q)),(ap.mono N7),(av.mono N7),(aq.mono N7),(oX a6 (mx N4 q))⟩) (lc z (lc z (lc z ln))) (λi hi=>by simp only[ė,ĵ,ą,ĝ,ŝ] at hi; rcases hi with h|h|h <;> subst h <;> exact z) hz (λdD cy W bm=>?_)
   subst bm
   refine kq (λw O=>O.î (i:=5501) (j:=4026) z (by rw[I]; rfl))<|kq (λw O=>O.î (i:=5503) (j:=4028) z (by rw[I]; rfl))<|θ z<|iC a z (λc0 a=>?_) (λc0 a=>?_)
   .refine o'<|A'<|a'<|sr<|δ z<|γ (f' 104017 ñ z z z) ?_
    obtain⟨c7,a⟩:=a
    obtain⟨u3,bx,a⟩:=a
    replace bx:_=u3:=bx
    refine zT (r:=nN) (k:=T) (zc:=[.slice none 0 0,.bool false]) (z:=(Zl.mk [] false)) 4026 z z sM ry ⟨[.slice none 0 0],[.bool false],z,⟨_,z,(gi _ _)⟩,z⟩ (oX a4 (mx (mx (mx N2 c) q) W)) z z z c7 (λdS bN=>?_)
    rw[bx] at bN
    obtain⟨ay,az,rfl,cj⟩:=vY bN
    refine δ z<|Û z<|Û z<|T' 21 z z70 z λb8=>ø 21 sH z<|ς z<|nr<|δ z<|nx<|iC a z (λcX a=>?_) (λcX a=>?_)
    .have N8:=mx (mx (mx N1 c) q) W
     refine p'<|δ z<|γ (f' 104017 ñ z z z)<|γ (w' 21 vi z z z)<|γ (w' 19 ÿ z z z)<|γ (iK (vs:=#[(0,i' T),(1,.agg ([ε ay u3.p az,.bool u3.neq]).toArray),(2,.agg ((Ρ d C D E F n m)).toArray)]) (v:=.agg ([i' T,ε ay u3.p az,.bool u3.neq,ε C d.vars D,ε E d.eqs F,ε n d.ζ m,i' d.next]).toArray) z z (λ_=>by kernel_rfl))<|jL (e:=72) (r:=pM) (vs:=#[(0,.agg ([i' T,ε ay u3.p az,.bool u3.neq,ε C d.vars D,ε E d.eqs F,ε n d.ζ m,i' d.next]).toArray)]) (cs:=[i' T,ε ay u3.p az,.bool u3.neq,ε C d.vars D,ε E d.eqs F,ε n d.ζ m,i' d.next]++([])) ([(Zg.mk T u3 d)]:Ŀ Zg) z z z z z (by decide) (λ_=>by kernel_rfl) ⟨[i' T,ε ay u3.p az,.bool u3.neq,ε C d.vars D,ε E d.eqs F,ε n d.ζ m,i' d.next],[],z,⟨[i' T],[ε ay u3.p az,.bool u3.neq,ε C d.vars D,ε E d.eqs F,ε n d.ζ m,i' d.next],z,z,⟨[ε ay u3.p az,.bool u3.neq],(Ρ d C D E F n m),z,⟨[ε ay u3.p az],[.bool u3.neq],z,⟨_,z,cj⟩,z⟩,⟨[ε C d.vars D],[ε E d.eqs F,ε n d.ζ m,i' d.next],z,⟨_,z,(am.mono N8)⟩,⟨[ε E d.eqs F],[ε n d.ζ m,i' d.next],z,⟨_,z,(ao.mono N8)⟩,⟨[ε n d.ζ m],[i' d.next],z,⟨_,z,(an.mono N8)⟩,z⟩⟩⟩⟩⟩,z⟩ (key:=999) z (by rw[I]; rfl) (λp8 dC aZ cK=>?_)
     refine oA a λcB a=>nt (r:=pM) 1014 z z wD sw z (by decide) z z (ag.mono (mx (mx (mx c q) W) aZ)) z (by rw[I]; rfl) ac cK cB λp9 cW bY bU a8 cO ch=>ς z<|q'<|A'<|a'<|p'<|é z<|δ z<|q'<|K' ⟨(V++[(Zg.mk T u3 d)]),p9,cW,bY,U,aa,Z,Y,i64.wrap (aj+1),bU⟩ a ⟨(mx (mx (mx (mx (mx g c) q) W) aZ) a8),cO,ch,(ah.mono (mx (mx (mx (mx c q) W) aZ) a8)),ad⟩ (f11 z z z z z z z z z z z) (wk (lc z (lc z (lc z (lc z (lc z (lc z (lc z (lc z (lc z ln))))))))))
    refine o'<|A'<|a'<|p'<|é z<|δ z<|q'<|K' ⟨V,ae,af,ab,U,aa,Z,Y,i64.wrap (aj+1),cy⟩ a ⟨(mx (mx (mx g c) q) W),(ag.mono (mx (mx c q) W)),ac,(ah.mono (mx (mx c q) W)),ad⟩ (f11 z z z z z z z z z z z) (wk (lc z (lc z (lc z (lc z (lc z (lc z (lc z (lc z (lc z ln))))))))))
   refine sr<|δ z<|γ (f' 104017 ñ z z z)<|γ (iK (vs:=#[(0,i' T)]) (v:=.agg ([i' T,.string ByteArray.empty]).toArray) z z (λ_=>by kernel_rfl))<|jL (e:=55) (r:=kB) (vs:=#[(0,.agg ([i' T,.string ByteArray.empty]).toArray)]) (cs:=[i' T,.string ByteArray.empty]++([])) ([(Zk.mk T ByteArray.empty)]:Ŀ Zk) z z z z z (by decide) (λ_=>by kernel_rfl) ⟨[i' T,.string ByteArray.empty],[],z,⟨[i' T],[.string ByteArray.empty],z,z,z⟩,z⟩ (key:=999) z (by rw[I]; rfl) (λdV dE a2 cc=>?_)
   obtain⟨co,a⟩:=a
   have N9:=mx (mx (mx c q) W) a2
   refine nt (r:=kB) 1015 z z tv vu z (by decide) z z (ah.mono N9) z (by rw[I]; rfl) ad cc co λdc cw bF cl a7 cF bK=>θ z<|Æ<|KW z<|g'<|H'<|a'<|p'<|é z<|δ z<|q'<|K' ⟨V,ae,af,ab,(U++[(Zk.mk T ByteArray.empty)]),dc,cw,bF,i64.wrap (aj+1),cl⟩ a ⟨(mx (mx (mx (mx (mx g c) q) W) a2) a7),(ag.mono (mx N9 a7)),ac,cF,bK⟩ (f11 z z z z z z z z z z z) (wk (lc z (lc z (lc z (lc z (lc z (lc z (lc z (lc z (lc z ln))))))))))
  refine Æ<|g'<|g'<|H'<|Ë ⟨V,ae,af,ab,U,aa,Z,Y,a3⟩ ⟨a,g,ag,ac,ah,ad⟩ (υ z) (w2 z z)
 rintro⟨aK,aR,aS,aJ,aL,aT,aQ,aU,a5⟩ ⟨a,di,bC,bn,bB,cI⟩
 refine a'<|sr<|δ z<|δ z<|ς z<|θ z<|m' ?_
 obtain rfl:_=r:=a
 refine oZ (S':=St w0 G0 a5 [(7000,aJ)]) ?_ ?_
 .intro w O
  have O:=O.î (i:=1014) (j:=7000) z (by rw[I]; rfl)
  exact O.weaken (lc z ln)
 exact l5 z z z ⟨_,_,_,_,_,z,z,bC,bB,bn⟩
theorem ff'{Q c d H F M O E D t x y A m l o n s q h g r}(a:(Hn Q c d).ο r):ä prog 21 #[.agg ((Ρ Q H F M O E D)).toArray,.agg ((Ρ c t x y A m l)).toArray,.agg ((Ρ d o n s q h g)).toArray] (λG=>sl Rp.str G H F Q.vars/\sl j' G M O Q.eqs/\sl j' G E D Q.ζ/\sl Rp.str G t x c.vars/\sl j' G y A c.eqs/\sl j' G m l c.ζ/\od G o n s q h g d) (ny pM r):=by
 refine E' (args:=[_,_,_]) (N:=73) func21 z z z (λw0 G0 W bO=>?_)
 obtain⟨bp,bs,bk,av,aE,ay,aw,aF,ax⟩:=bO
 have hz:w0.L.zero:=by rw[W]; intro p hp; simp at hp
 refine sr<|ý 3 z z z λb1=>ý 4 z z z λb2=>ý 5 z z z λb3=>ς z<|ς z<|nr<|θ z<|c'<|hZ [ff,ff,ff] gp (by kernel_rfl) λhb=>cn (λ_ aO=>w' 4 ÿ z z z)<|oE a λb0 bC a=>η.oJ (f:=47) (ky:=oi) (r:=nN) b0 (λ_=>z) (λu G' aO hu=>?_) ?_
 .exact⟨_,_,_,λ_=>x' AF z,B5 bC,z,⟨(av.mono aO),(aE.mono aO),(ay.mono aO)⟩⟩
 refine cu (λ_ _ aO=>w' 5 ÿ z z z)<|η.yU λck X1 U aZ=>WL.qW aZ (λa7 bg bL bd cv=>?_)
 subst bL
 refine sv (show WL _ _ _ _ _ _ (St w0 G0 X1.m _) from ?_)
 refine kq (λw hs=>hs.î (i:=17) (j:=4017) z (by rw[W]; rfl))<|oE a λcA bE a=>nO z z (x' AF z) (B5 bE) z (⟨(aw.mono U),(aF.mono U),(ax.mono U)⟩) ln hz (λcj cz ch P a3=>?_)
 obtain⟨aN,aL,rfl,rfl,bf⟩:=a3
 refine kq (λw hs=>hs.î (i:=7000) (j:=4019) z (by rw[W]; rfl))<|ς z<|ς z<|q'<|fh<|a'<|c'<|sr<|δ z<|U' z z (x' G9 z) (oB func50 z z z (some a7)) z trivial (λcp cD C a1=>?_)
 obtain⟨cC,rfl,bJ⟩:=a1
 refine nO z z (x' G8 z) (K5 _ _ _ _ _ 4017 _ (by decide) (oX bd (mx P C)) a) z bJ (lc z ln) hz (λcf cx co K a4=>?_)
 clear a
 obtain⟨bo,bB,bA,ca,rfl,rfl,bN,a⟩:=a4
 refine kq (λw hs=>hs.î (i:=7000) (j:=4022) z (by rw[W]; rfl))<|qX (r:=(Rp.int .i64)) (e:=3) 4022 bN z (by rw[W]; rfl) λbQ be J aS cb=>γ (N' yf aS z)<|δ z<|nx<|Z' (X:=(Ŀ Zg)×ŀ Addr×Nat×ŀ Ow×Int×Mem) a (λ⟨S,ae,ag,ab,an,aH⟩=>⟨(S,an),[(3,Τ b1),(4,Τ b2),(5,Τ b3),(8,ε ae S ag),(22,ε bB bo bA),(23,i' (bo.length:Int)),(24,i' an),(9,.map (some a7)),(10,.map (some aN))],Mem.le be aH/\sl pM aH ae ag S/\Tok 7 72 (ε ae S ag) S.length ab,St w0 G0 aH [(3,Ξ b1 (Ρ Q H F M O E D) 29),(4,Ξ b2 (Ρ c t x y A m l) 29),(5,Ξ b3 (Ρ d o n s q h g) 29),(4022,bQ),(1008,ab),(4017,bg),(4019,aL)]⟩) (λ(⟨aj,ao,aq,am,aV⟩:(Ŀ Zg)×ŀ Addr×Nat×ŀ Ow×Mem)=>⟨aj,[(3,Τ b1),(4,Τ b2),(5,Τ b3),(8,ε ao aj aq),(10,.map (some aN))],Mem.le be aV/\sl pM aV ao aq aj/\Tok 7 72 (ε ao aj aq) aj.length am,St w0 G0 aV [(3,Ξ b1 (Ρ Q H F M O E D) 29),(4,Ξ b2 (Ρ c t x y A m l) 29),(5,Ξ b3 (Ρ d o n s q h g) 29),(1008,am),(4019,aL)]⟩) ⟨[],none,0,none,0,be⟩ z (υ z) ⟨mr,(gi _ _),qC⟩ (wk (lc z (lc z (lc z (lc z (lw (lc z (lc z ln)))))))) ?_ ?_
 .rintro _ ⟨S,ae,ag,ab,an,aH⟩ ⟨L,aM,aD⟩ a
  refine sr<|Ï z<|nx<|c'<|J' a z (λbZ a=>?_) (λbZ a=>?_)
  .refine o'<|a'<|c'<|V'<|sr<|oE a λx2 bl a=>γ (X' yf gh (aS.mono L) z z bl)<|γ (il ñ z (lH (R' (Á aS bl) L)))<|ς z<|nr<|δ z<|γ (pq z)<|γ (f' 3 ñ z z z)<|γ (kO z z)<|nx<|J' a z (λbU a=>?_) (λbU a=>?_)
   .refine p'<|δ z<|δ z<|δ z<|δ z ?_
    obtain⟨bS,a⟩:=a
    obtain⟨V,a9,a⟩:=a
    replace a9:_=V:=a9
    refine WL.rO (r:=nN) (k:=x2) (zc:=[.slice none 0 0,.bool false]) (z:=(Zl.mk [] false)) 4017 z z sM ry ⟨[.slice none 0 0],[.bool false],z,⟨_,z,(gi _ _)⟩,z⟩ (oX bd (mx (mx (mx (mx P C) K) J) L)) z z z bS (λcF bn=>?_)
    rw[a9] at bn
    obtain⟨Y,Z,rfl,bI⟩:=vY bn
    have N1:=mx (mx (mx (mx (mx U P) C) K) J) L
    refine γ (w' 4 ÿ z z z)<|γ (iK (vs:=#[(0,i' x2),(1,.agg ([ε Y V.p Z,.bool V.neq]).toArray),(2,.agg ((Ρ c t x y A m l)).toArray)]) (v:=.agg ([i' x2,ε Y V.p Z,.bool V.neq,ε t c.vars x,ε y c.eqs A,ε m c.ζ l,i' c.next]).toArray) z z (λ_=>by kernel_rfl))<|jL (e:=72) (r:=pM) (vs:=#[(0,.agg ([i' x2,ε Y V.p Z,.bool V.neq,ε t c.vars x,ε y c.eqs A,ε m c.ζ l,i' c.next]).toArray)]) (cs:=[i' x2,ε Y V.p Z,.bool V.neq,ε t c.vars x,ε y c.eqs A,ε m c.ζ l,i' c.next]++([])) ([(Zg.mk x2 V c)]:Ŀ Zg) z z z z z (by decide) (λ_=>by kernel_rfl) ⟨[i' x2,ε Y V.p Z,.bool V.neq,ε t c.vars x,ε y c.eqs A,ε m c.ζ l,i' c.next],[],z,⟨[i' x2],[ε Y V.p Z,.bool V.neq,ε t c.vars x,ε y c.eqs A,ε m c.ζ l,i' c.next],z,z,⟨[ε Y V.p Z,.bool V.neq],(Ρ c t x y A m l),z,⟨[ε Y V.p Z],[.bool V.neq],z,⟨_,z,bI⟩,z⟩,⟨[ε t c.vars x],[ε y c.eqs A,ε m c.ζ l,i' c.next],z,⟨_,z,(av.mono N1)⟩,⟨[ε y c.eqs A],[ε m c.ζ l,i' c.next],z,⟨_,z,(aE.mono N1)⟩,⟨[ε m c.ζ l],[i' c.next],z,⟨_,z,(ay.mono N1)⟩,z⟩⟩⟩⟩⟩,z⟩ (key:=999) z (by rw[W]; rfl) (λp3 ct aP bX=>?_)
    refine oA a λbG a=>nt (r:=pM) 1008 z z wD sw z (by decide) z z (aM.mono aP) z (by rw[W]; rfl) aD bX bG λp4 bT bz bH a8 bR bt=>ς z<|q'<|A'<|a'<|p'<|é z<|δ z<|q'<|K' ⟨(S++[(Zg.mk x2 V c)]),p4,bT,bz,i64.wrap (an+1),bH⟩ a ⟨(mx (mx L aP) a8),bR,bt⟩ (υ z) (w7 z z z z z z z)
   refine o'<|A'<|a'<|p'<|é z<|δ z<|q'<|K' ⟨S,ae,ag,ab,i64.wrap (an+1),aH⟩ a ⟨L,aM,aD⟩ (υ z) (w7 z z z z z z z)
  refine Æ<|g'<|g'<|H'<|Ë ⟨S,ae,ag,ab,aH⟩ ⟨a,L,aM,aD⟩ (υ z) (w5 z z z z z)
 rintro⟨aj,ao,aq,am,aV⟩ ⟨a,ap,bi,a5⟩
 refine a'<|sr<|γ (pq z)<|γ (f' 4 ñ z z z)<|γ (pq z)<|γ (f' 3 ñ z z z)<|γ (Y0.max2 z z)<|θ z<|c'<|sr<|δ z<|U' z z (x' G9 z) (oB func50 z z z (some aN)) z trivial (λcm cH af a0=>?_)
 obtain⟨cB,rfl,bu⟩:=a0
 refine nO z z (x' G8 z) (K5 _ _ _ _ _ 4019 _ (by decide) (oX bf (mx (mx (mx (mx C K) J) ap) af)) a) z bu (lc z ln) hz (λcq cy cl ar aX=>?_)
 clear a
 obtain⟨bm,bK,bw,cc,rfl,rfl,bD,a⟩:=aX
 refine kq (λw hs=>hs.î (i:=7000) (j:=4049) z (by rw[W]; rfl))<|qX (r:=(Rp.int .i64)) (e:=3) 4049 bD z (by rw[W]; rfl) λb7 ba al aR cd=>γ (N' yf aR z)<|δ z<|nx<|Z' (X:=(Ŀ Zg)×ŀ Addr×Nat×ŀ Ow×Int×Int×Mem) a (λ⟨T,ah,ai,ac,B,ak,aG⟩=>⟨(T,B,ak),[(3,Τ b1),(5,Τ b3),(8,ε ah T ai),(13,i' B),(49,ε bK bm bw),(50,i' (bm.length:Int)),(51,i' ak),(10,.map (some aN))],Mem.le ba aG/\sl pM aG ah ai T/\Tok 7 72 (ε ah T ai) T.length ac,St w0 G0 aG [(3,Ξ b1 (Ρ Q H F M O E D) 29),(5,Ξ b3 (Ρ d o n s q h g) 29),(1008,ac),(4049,b7),(4019,aL)]⟩) (λ(⟨au,az,aA,aB,aI,aT⟩:(Ŀ Zg)×ŀ Addr×Nat×ŀ Ow×Int×Mem)=>⟨(au,aI),[(8,ε az au aA),(13,i' aI)],Mem.le ba aT/\sl pM aT az aA au/\Tok 7 72 (ε az au aA) au.length aB,St w0 G0 aT [(1008,aB)]⟩) ⟨aj,ao,aq,am,if c.next<Q.next then Q.next else c.next,0,ba⟩ z (υ z) ⟨mr,(bi.mono (mx (mx af ar) al)),a5⟩ (w5 z z z z z) ?_ ?_
 .rintro _ ⟨T,ah,ai,ac,B,ak,aG⟩ ⟨I,aK,aC⟩ a
  refine sr<|Ï z<|nx<|c'<|J' a z (λb8 a=>?_) (λb8 a=>?_)
  .refine o'<|a'<|c'<|V'<|sr<|oE a λx1 bq a=>γ (X' yf gh (aR.mono I) z z bq)<|γ (il ñ z (lH (R' (Á aR bq) I)))<|ς z<|nr<|δ z<|γ (pq z)<|γ (f' 3 ñ z z z)<|γ (kO z z)<|nx<|J' a z (λbV a=>?_) (λbV a=>?_)
   .refine sr<|δ z<|δ z<|δ z<|δ z ?_
    obtain⟨b6,a⟩:=a
    obtain⟨R,bb,a⟩:=a
    replace bb:_=R:=bb
    have N2:=mx (mx (mx (mx (mx (mx (mx C K) J) ap) af) ar) al) I
    refine WL.rO (r:=nN) (k:=x1) (zc:=[.slice none 0 0,.bool false]) (z:=(Zl.mk [] false)) 4019 z z sM ry ⟨[.slice none 0 0],[.bool false],z,⟨_,z,(gi _ _)⟩,z⟩ (oX bf N2) z z z b6 (λcG br=>?_)
    rw[bb] at br
    obtain⟨ad,aa,rfl,bP⟩:=vY br
    have N3:=mx (mx (mx (mx (mx (mx (mx (mx (mx U P) C) K) J) ap) af) ar) al) I
    refine γ (w' 5 ÿ z z z)<|γ (iK (vs:=#[(0,i' B),(1,.agg ([ε ad R.p aa,.bool R.neq]).toArray),(2,.agg ((Ρ d o n s q h g)).toArray)]) (v:=.agg ([i' B,ε ad R.p aa,.bool R.neq,ε o d.vars n,ε s d.eqs q,ε h d.ζ g,i' d.next]).toArray) z z (λ_=>by kernel_rfl))<|jL (e:=72) (r:=pM) (vs:=#[(0,.agg ([i' B,ε ad R.p aa,.bool R.neq,ε o d.vars n,ε s d.eqs q,ε h d.ζ g,i' d.next]).toArray)]) (cs:=[i' B,ε ad R.p aa,.bool R.neq,ε o d.vars n,ε s d.eqs q,ε h d.ζ g,i' d.next]++([])) ([(Zg.mk B R d)]:Ŀ Zg) z z z z z (by decide) (λ_=>by kernel_rfl) ⟨[i' B,ε ad R.p aa,.bool R.neq,ε o d.vars n,ε s d.eqs q,ε h d.ζ g,i' d.next],[],z,⟨[i' B],[ε ad R.p aa,.bool R.neq,ε o d.vars n,ε s d.eqs q,ε h d.ζ g,i' d.next],z,z,⟨[ε ad R.p aa,.bool R.neq],(Ρ d o n s q h g),z,⟨[ε ad R.p aa],[.bool R.neq],z,⟨_,z,bP⟩,z⟩,⟨[ε o d.vars n],[ε s d.eqs q,ε h d.ζ g,i' d.next],z,⟨_,z,(aw.mono N3)⟩,⟨[ε s d.eqs q],[ε h d.ζ g,i' d.next],z,⟨_,z,(aF.mono N3)⟩,⟨[ε h d.ζ g],[i' d.next],z,⟨_,z,(ax.mono N3)⟩,z⟩⟩⟩⟩⟩,z⟩ (key:=999) z (by rw[W]; rfl) (λp1 cE aU bW=>?_)
    refine oA a λbx a=>nt (r:=pM) 1008 z z wD sw z (by decide) z z (aK.mono aU) z (by rw[W]; rfl) aC bW bx λp2 b4 bM bv a6 bY bF=>θ z<|p'<|δ z<|é z<|ς z<|q'<|A'<|a'<|p'<|é z<|δ z<|q'<|K' ⟨(T++[(Zg.mk B R d)]),p2,b4,bM,i64.wrap (B+1),i64.wrap (ak+1),bv⟩ a ⟨(mx (mx I aU) a6),bY,bF⟩ (υ z) (w5 z z z z z)
   refine o'<|A'<|a'<|p'<|é z<|δ z<|q'<|K' ⟨T,ah,ai,ac,B,i64.wrap (ak+1),aG⟩ a ⟨I,aK,aC⟩ (υ z) (w5 z z z z z)
  refine Æ<|g'<|g'<|H'<|Ë ⟨T,ah,ai,ac,B,aG⟩ ⟨a,I,aK,aC⟩ (υ z) (w1 z)
 rintro⟨au,az,aA,aB,aI,aT⟩ ⟨a,b9,bh,b5⟩
 refine a'<|sr<|δ z<|δ z<|ς z<|θ z<|m' ?_
 obtain rfl:_=r:=a
 exact l5 z z z ⟨_,_,z,bh⟩
theorem gG':kx prog 56 #[] 58 tV Rp.str 9:=
 collect (NA (λi g h=>B1 (ok:=tV.ok) (enc:=λx=>Value.string x) func99 z z z lr vN Q' tP z (by decide) (λ_ _=>z) (λ_ _=>by kernel_rfl) S3 i g h) (λe c f d=>wP (ok:=tV.ok) (enc:=λx=>Value.string x) func58 z z z Lu Fw e c f d)) Ts func56 z z z
theorem gM':pH prog 24 58 tV Rp.str 9 Dq:=
 sorted gG' (λd p c e y h=>TD d p c d.length e y h) S1 S2 func24 z z z
set_option maxHeartbeats 2000000 in
theorem yk{aP aV aQ aF aw aU aN aE aD az aG aL aR aB ar av aA aX aT ay ax r}(a:(uF aP aV aQ).ο r):ä prog 6 #[.agg ((Ρ aP aF aw aU aN aE aD)).toArray,.agg ((Ρ aV az aG aL aR aB ar)).toArray,.agg ((Ρ aQ av aA aX aT ay ax)).toArray] (λG=>sl Rp.str G aF aw aP.vars/\sl j' G aU aN aP.eqs/\sl j' G aE aD aP.ζ/\sl Rp.str G az aG aV.vars/\sl j' G aL aR aV.eqs/\sl j' G aB ar aV.ζ/\od G av aA aX aT ay ax aQ) (λG v=>∃ bJ bK bQ bN bL bM cw cC,v = .tuple #[.agg ((Ρ r.1 bJ bK bQ bN bL bM)).toArray,ε cw r.2.1 cC,i' r.2.2]/\sl Rp.str G bJ bK r.1.vars/\sl j' G bQ bN r.1.eqs/\sl j' G bL bM r.1.ζ/\sl kB G cw cC r.2.1):=by
 refine E' (args:=[_,_,_]) (N:=178) func6 z z z (λw0 G0 aZ dG=>?_)
 obtain⟨S,ak,af,q,R,F,I,Z,U⟩:=dG
 have hz:w0.L.zero:=by rw[aZ]; intro p hp; simp at hp
 refine sr<|ý 3 z z z λb1=>ý 4 z z z λb2=>ý 5 z z z λb3=>T' 6 z na z λb4=>ς z<|θ z<|k5 a (λ(⟨a1,u,s,O,M,A,t,bR⟩:Zb×ŀ Addr×Nat×ŀ Addr×Nat×ŀ Addr×Nat×Mem)=>⟨[(3,Τ b1),(4,Τ b2),(5,Τ b3),(6,Τ b4)],HG aP aV aQ,Mem.le G0 bR/\sl Rp.str bR u s a1.vars/\sl j' bR O M a1.eqs/\sl j' bR A t a1.ζ,St w0 G0 bR [(3,Ξ b1 (Ρ aP aF aw aU aN aE aD) 29),(4,Ξ b2 (Ρ aV az aG aL aR aB ar) 29),(5,Ξ b3 (Ρ aQ av aA aX aT ay ax) 29),(6,Ξ b4 (Ρ a1 u s O M A t) 29)]⟩) ?_ ?_
 .refine V'<|k5 a (λ(⟨bT,cj⟩:Bool×Mem)=>⟨[(3,Τ b1),(4,Τ b2),(5,Τ b3),(6,Τ b4),(25,.bool bT)],zf aP aV aQ bT,Mem.le G0 cj,St w0 G0 cj [(3,Ξ b1 (Ρ aP aF aw aU aN aE aD) 29),(4,Ξ b2 (Ρ aV az aG aL aR aB ar) 29),(5,Ξ b3 (Ρ aQ av aA aX aT ay ax) 29),(6,Ξ b4 ([.slice none 0 0,.slice none 0 0,.slice none 0 0,i' 0]) 29)]⟩) ?_ ?_
  .refine p'<|γ (w' 3 ÿ z z z)<|oE a λd1 dj a=>I' z z (x' Df z) (FH dj) z (⟨S,ak,af⟩) ?_
   cases d1
   .refine γ (gP z)<|δ z<|lu z<|Δ z<|δ z<|lu z<|Δ z<|ς z<|q'<|ia ⟨true,G0⟩ ⟨a,mr⟩ (υ z) (w4 z z z z)
   refine γ (gP z)<|δ z<|gy z z (w' 4 ÿ z z z) z<|oE a λc5 cR a=>I' (W' z z) z (x' Df z) (FH cR) z (⟨q,R,F⟩) ?_
   cases c5
   .refine gy z z (gP z) z<|Γ z<|δ z<|lu z<|Δ z<|ς z<|q'<|ia ⟨true,G0⟩ ⟨a,mr⟩ (υ z) (w4 z z z z)
   refine gy z z (gP z) z<|Γ z<|δ z<|gy z z (w' 5 ÿ z z z) z<|oE a λdA cQ a=>I' (W' z z) z (x' Df z) (FH cQ) z (⟨I,Z,U⟩)<|gy z z (gP z) z<|Γ z<|ς z<|q'<|ia ⟨!dA,G0⟩ ⟨a,mr⟩ (υ z) (w4 z z z z)
  rintro⟨bT,cj⟩ ⟨a,c⟩
  refine iC a z (λdX a=>?_) (λdX a=>?_)
  .refine sr<|γ (iK (vs:=#[]) (v:=.agg ([.slice none 0 0,.slice none 0 0,.slice none 0 0,i' 0]).toArray) z z (λ_=>by kernel_rfl))<|ø 6 jB z<|ς z<|θ z<|m'<|B'<|b' ?_
   obtain rfl:_=r:=a
   exact rI z (hQ (i:=6) ÿ z z z) z z ⟨_,_,_,_,_,_,_,_,z,(gi Rp.str _),(gi j' _),(gi j' _),(gi kB _)⟩
  refine sr<|γ (w' 4 ÿ z z z)<|γ (w' 3 ÿ z z z)<|oE a λeH de a=>I' z z (x' Gr z) (KT de) z (⟨(q.mono c),(R.mono c),(F.mono c),(S.mono c),(ak.mono c),(af.mono c)⟩)<|θ z<|iC a z (λdQ a=>?_) (λdQ a=>?_)
  .refine sr<|γ (w' 5 ÿ z z z)<|ø 6 jB z<|ς z<|θ z<|m'<|B'<|b' ?_
   obtain rfl:_=r:=a
   exact rI z (hQ (i:=6) ÿ z z z) z z ⟨_,_,_,_,_,_,_,_,z,(I.mono c),(Z.mono c),(U.mono c),(gi kB _)⟩
  refine sr<|γ (w' 5 ÿ z z z)<|γ (w' 3 ÿ z z z)<|oE a λee dE a=>I' z z (x' Gr z) (KT dE) z (⟨(I.mono c),(Z.mono c),(U.mono c),(S.mono c),(ak.mono c),(af.mono c)⟩) ?_
  cases ee
  .refine δ z<|gy z z (w' 5 ÿ z z z) z<|gy z z (w' 4 ÿ z z z) z<|oE a λeA dn a=>I' (W' z z) z (x' Gr z) (KT dn) z (⟨(I.mono c),(Z.mono c),(U.mono c),(q.mono c),(R.mono c),(F.mono c)⟩)<|Γ z<|θ z<|iC a z (λdL a=>?_) (λdL a=>?_)
   .refine sr<|γ (w' 4 ÿ z z z)<|ø 6 jB z<|ς z<|θ z<|m'<|B'<|b' ?_
    obtain rfl:_=r:=a
    exact rI z (hQ (i:=6) ÿ z z z) z z ⟨_,_,_,_,_,_,_,_,z,(q.mono c),(R.mono c),(F.mono c),(gi kB _)⟩
   refine o'<|A'<|ia ⟨(Zb.mk [] [] [] 0),none,0,none,0,none,0,cj⟩ ⟨a,c,(gi _ _),(gi _ _),(gi _ _)⟩ (υ z) (w4 z z z z)
  refine δ z<|lu z<|Δ z<|θ z<|iS z<|sr<|γ (w' 4 ÿ z z z)<|ø 6 jB z<|ς z<|θ z<|m'<|B'<|b' ?_
  obtain rfl:_=r:=a
  exact rI z (hQ (i:=6) ÿ z z z) z z ⟨_,_,_,_,_,_,_,_,z,(q.mono c),(R.mono c),(F.mono c),(gi kB _)⟩
 rintro⟨a1,u,s,O,M,A,t,bR⟩ ⟨a,d,dq,dJ,dk⟩
 refine sr<|γ (lI z)<|γ (f' 3 lr z z z)<|γ (lI z)<|γ (f' 4 lr z z z)<|γ (lI z)<|γ (f' 5 lr z z z)<|oE a λaJ c6 a=>U' z z (x' SL z) (K7 c6) z (⟨(S.mono d),(q.mono d),(I.mono d)⟩) (λen eE g cm=>?_)
 obtain⟨ad,ab,rfl,bS⟩:=cm
 refine ς z<|nr<|γ (w' 3 ÿ z z z)<|γ (w' 4 ÿ z z z)<|γ (w' 5 ÿ z z z) ?_
 obtain⟨a0,dt,a⟩:=a
 have N1:=mx d g
 refine nO z z (x' SM z) (fe' dt) z (⟨(S.mono N1),(ak.mono N1),(af.mono N1),(q.mono N1),(R.mono N1),(F.mono N1),(I.mono N1),(Z.mono N1),(U.mono N1)⟩) ln hz (λer eI eq J cu=>?_)
 obtain⟨d4,d5,aI,aK,eg,rfl,rfl,cI,cv,cS⟩:=cu
 refine kq (λw hs=>hs.î (i:=7000) (j:=2066) z (by rw[aZ]; rfl))<|δ z<|Û z<|Û z<|ς z<|ς z<|nr<|γ (w' 3 ÿ z z z)<|γ (w' 4 ÿ z z z)<|γ (w' 5 ÿ z z z) ?_
 obtain⟨ap,dm,a⟩:=a
 have N2:=mx N1 J
 refine U' z z (x' SN z) (ff' dm) z (⟨(S.mono N2),(ak.mono N2),(af.mono N2),(q.mono N2),(R.mono N2),(F.mono N2),(I.mono N2),(Z.mono N2),(U.mono N2)⟩) (λeu eJ a7 cn=>?_)
 obtain⟨ed,d6,rfl,cE⟩:=cn
 refine δ z<|Û z<|Û z<|ς z<|ς z<|nr<|δ z<|δ z<|oA a λdr a=>nt (r:=pM) 2066 z z wD sw z (by decide) z z (cI.mono a7) z (by rw[aZ]; rfl) cS cE dr λp1 cD cc cg bi cy eo=>ς z<|nr<|wH (ky:=tV) (Rv:=qn Rp.bool cg) 4079 z z λbq cP dx=>ς z<|nr<|δ z<|δ z<|γ (iK (vs:=#[(0,ε ad aJ ab),(3,i' ap.2)]) (v:=.agg ([ε ad aJ ab,.slice none 0 0,.slice none 0 0,i' ap.2]).toArray) z z (λ_=>by kernel_rfl))<|T' 15 z na z λb5=>ø 15 jB z<|nx<|c'<|sr<|δ z<|γ (N' wD cy z)<|δ z<|nx<|Z' (X:=Int×(Ŀ Ĳ)×ŀ Addr×Nat×(Ŀ Zc)×ŀ Addr×Nat×ŀ Ow×(Ŀ Zc)×ŀ Addr×Nat×ŀ Ow×Int×(Ŀ (Ĳ×Bool))×ŀ Ow×Mem) a (λ⟨aO,o,l,m,n,K,L,Q,f,y,x,H,D,bX,bk,bA⟩=>⟨(aO,o,n,f,D,bX),[(6,Τ b4),(9,ε ad aJ ab),(11,ε aI a0.2 aK),(13,i' ap.2),(15,Τ b5),(83,.slice p1 (a0.1++ap.1).length cD),(84,i' ((a0.1++ap.1).length:Int)),(85,i' aO),(14,.map (some bq))],Mem.le cg bA/\sl Rp.str bA l m o/\sl j' bA K L n/\Tok 2 51 (ε K n L) n.length Q/\sl j' bA y x f/\Tok 2 51 (ε y f x) f.length H/\ü tV (qn Rp.bool bA) (.map (some bq)) bX bk,St w0 G0 bA [(6,Ξ b4 (Ρ a1 u s O M A t) 29),(15,Ξ b5 ([ε l o m,ε K n L,ε y f x,i' D]) 29),(2066,cc),(310151,Q),(310152,H),(4079,bk)]⟩) (λ(⟨aj,aq,am,ag,ai,ah,ao,T,ac,aa,ae,aH,cz,bV,bI⟩:(Ŀ Ĳ)×ŀ Addr×Nat×(Ŀ Zc)×ŀ Addr×Nat×ŀ Ow×(Ŀ Zc)×ŀ Addr×Nat×ŀ Ow×Int×(Ŀ (Ĳ×Bool))×ŀ Ow×Mem)=>⟨(aj,ag,T,aH,cz),[(6,Τ b4),(9,ε ad aJ ab),(11,ε aI a0.2 aK),(13,i' ap.2),(15,Τ b5),(14,.map (some bq))],Mem.le cg bI/\sl Rp.str bI aq am aj/\sl j' bI ai ah ag/\Tok 2 51 (ε ai ag ah) ag.length ao/\sl j' bI ac aa T/\Tok 2 51 (ε ac T aa) T.length ae/\ü tV (qn Rp.bool bI) (.map (some bq)) cz bV,St w0 G0 bI [(6,Ξ b4 (Ρ a1 u s O M A t) 29),(15,Ξ b5 ([ε aq aj am,ε ai ag ah,ε ac T aa,i' aH]) 29),(310151,ao),(310152,ae),(4079,bV)]⟩) ⟨0,aJ,ad,ab,[],none,0,none,[],none,0,none,ap.2,[],cP,cg⟩ z (υ z) ⟨mr,(bS.mono (mx (mx J a7) bi)),(gi _ _),qC,(gi _ _),qC,dx⟩ (wk (lc z (lc z (lc z (lw (lw (lc z ln))))))) ?_ ?_
 .rintro _ ⟨aO,o,l,m,n,K,L,Q,f,y,x,H,D,bX,bk,bA⟩ ⟨aM,bf,bw,bh,bg,a4,cA⟩ a
  refine sr<|Ï z<|nx<|c'<|J' a z (λd8 a=>?_) (λd8 a=>?_)
  .refine o'<|a'<|c'<|V'<|sr<|oE a λx2 c0 a=>γ (X' wD C3 (cy.mono aM) z z c0) ?_
   obtain⟨bB,bz,C,E,br,bl,be,bc,dK,bx,bd,cO,cJ⟩:=UU (R' (Á cy c0) aM)
   refine γ (jC _ Ks z z dK)<|T' 17 z z72 z λb6=>ø 17 C3 z<|nr<|γ (Y0.Zvo z)<|γ (lI z)<|γ (f' 17 lr z z z)<|δ z<|γ (iK (vs:=#[(0,ε C x2.à.vars E),(1,ε ad aJ ab)]) (v:=.agg ([ε C x2.à.vars E,ε ad aJ ab]).toArray) z z (λ_=>by kernel_rfl))<|T' 18 z z74 z λb7=>ø 18 LD z<|nx<|c'<|sr<|γ (w' 18 yg z z z)<|γ (Y0.Kj z)<|γ (Y0.Fh z)<|γ (f' 17 ij z z z)<|oE a λcU c3 a=>U' z z (x' LP z) (RL c3) z (⟨bd,(bS.mono (mx (mx (mx J a7) bi) aM)),bx⟩) (λem cf B cq=>?_)
   obtain⟨dB,c9,rfl,cb⟩:=cq
   refine γ (N' Q' cb z)<|δ z<|nx<|Z' (X:=Int×(Ŀ (Ĳ×Bool))×ŀ Ow×Mem) a (λ⟨bo,b0,bE,bH⟩=>⟨(bo,b0),[(6,Τ b4),(9,ε ad aJ ab),(11,ε aI a0.2 aK),(13,i' ap.2),(15,Τ b5),(17,Τ b6),(18,Τ b7),(83,.slice p1 (a0.1++ap.1).length cD),(84,i' ((a0.1++ap.1).length:Int)),(85,i' aO),(98,ε dB cU c9),(99,i' (cU.length:Int)),(100,i' bo),(14,.map (some bq))],Mem.le cf bH/\ü tV (qn Rp.bool bH) (.map (some bq)) b0 bE,St w0 G0 bH [(6,Ξ b4 (Ρ a1 u s O M A t) 29),(15,Ξ b5 ([ε l o m,ε K n L,ε y f x,i' D]) 29),(17,Ξ b6 (C7 x2 bB bz C E br bl be bc) 72),(18,Ξ b7 ([ε C x2.à.vars E,ε ad aJ ab]) 74),(2066,cc),(310151,Q),(310152,H),(4079,bE)]⟩) (λ(⟨b9,bm,cl⟩:(Ŀ (Ĳ×Bool))×ŀ Ow×Mem)=>⟨b9,[(6,Τ b4),(9,ε ad aJ ab),(11,ε aI a0.2 aK),(13,i' ap.2),(15,Τ b5),(17,Τ b6),(18,Τ b7),(83,.slice p1 (a0.1++ap.1).length cD),(84,i' ((a0.1++ap.1).length:Int)),(85,i' aO),(14,.map (some bq))],Mem.le cf cl/\ü tV (qn Rp.bool cl) (.map (some bq)) b9 bm,St w0 G0 cl [(6,Ξ b4 (Ρ a1 u s O M A t) 29),(15,Ξ b5 ([ε l o m,ε K n L,ε y f x,i' D]) 29),(17,Ξ b6 (C7 x2 bB bz C E br bl be bc) 72),(18,Ξ b7 ([ε C x2.à.vars E,ε ad aJ ab]) 74),(2066,cc),(310151,Q),(310152,H),(4079,bm)]⟩) ⟨0,bX,bk,cf⟩ z (f14 z z z z z z z z z z z z z z) ⟨mr,(yw cA B)⟩ (w8 z z z z z z z z) ?_ ?_
   .rintro _ ⟨bo,b0,bE,bH⟩ ⟨bF,cB⟩ a
    refine sr<|Ï z<|nx<|c'<|J' a z (λea a=>?_) (λea a=>?_)
    .refine o'<|a'<|c'<|V'<|sr<|oE a λx3 cZ a=>γ (X' Q' nJ (cb.mono bF) z z cZ)<|γ (il ou z (qQ (R' (Á cb cZ) bF)))<|θ z<|p'<|δ z<|δ z ?_
     obtain⟨⟨d2,dw⟩,a⟩:=a
     refine wL (Rv':=qn Rp.bool bH) (k:=x3) (z:=true) 4079 z Fw cB z z z z d2 z (λ_ _ _ _ h=>h) dw λd3 c7=>q'<|A'<|a'<|p'<|é z<|δ z<|q'<|K' ⟨i64.wrap (bo+1),(Ñ b0 x3 true),d3,bH⟩ a ⟨bF,c7⟩ (f14 z z z z z z z z z z z z z z) (w8 z z z z z z z z)
    refine Æ<|g'<|g'<|H'<|Ë ⟨b0,bE,bH⟩ ⟨a,bF,cB⟩ (f11 z z z z z z z z z z z) (w8 z z z z z z z z)
   rintro⟨b9,bm,cl⟩ ⟨a,Y,cx⟩
   refine a'<|sr<|γ (Y0.Zvn z)<|γ (f' 17 ñ z z z)<|γ (iK (vs:=#[(0,i' x2.id)]) (v:=.agg ([i' x2.id,.slice none 0 0]).toArray) z z (λ_=>by kernel_rfl))<|T' 21 z z51 z λb8=>ø 21 ng z<|nr<|γ (w' 18 yg z z z)<|γ (Y0.Kj z)<|γ (Y0.Fh z)<|γ (f' 17 ij z z z)<|oE a λan dl a=>U' z z (x' LQ z) (RT dl) z (⟨(bd.mono (mx B Y)),(bS.mono (mx (mx (mx (mx (mx J a7) bi) aM) B) Y)),(bx.mono (mx B Y))⟩) (λek ep P cr=>?_)
   obtain⟨V,W,rfl,bZ⟩:=cr
   refine δ z<|Û z<|Û z<|γ (sN z)<|kN 21 ([i' x2.id,ε V an.1 W]).toArray z iG z z z (show 1<2 by decide) z z<|nr<|γ (Y0.Kj z)<|γ (Y0.Ki z)<|γ (f' 17 kX z z z)<|nx<|iC a z (λdT a=>?_) (λdT a=>?_)
   .refine p'<|γ (mN z)<|γ (f' 15 jV z z z)<|γ (w' 21 k6 z z z)<|jL (e:=51) (r:=j') (vs:=#[(0,.agg ([i' x2.id,ε V an.1 W]).toArray)]) (cs:=[i' x2.id,ε V an.1 W]++([])) ([(Zc.mk x2.id an.1)]:Ŀ Zc) z z z z z (by decide) (λ_=>by kernel_rfl) ⟨[i' x2.id,ε V an.1 W],[],z,⟨[i' x2.id],[ε V an.1 W],z,z,⟨_,z,bZ⟩⟩,z⟩ (key:=999) z (by rw[aZ]; rfl) (λp5 ey a6 dR=>?_)
    obtain⟨dF,a⟩:=a
    have N3:=mx (mx (mx B Y) P) a6
    refine nt (r:=j') 310152 z z jG q7 z (by decide) z z (bg.mono N3) z (by rw[aZ]; rfl) a4 dR dF λp6 cY dh dg bn dW dp=>γ (mN z)<|kN 15 ([ε l o m,ε K n L,.slice p6 (f++[(Zc.mk x2.id an.1)]).length cY,i' D]).toArray z lU z z z (show 2<4 by decide) z z<|q'<|A'<|a'<|p'<|é z<|δ z<|q'<|K' ⟨i64.wrap (aO+1),o,l,m,n,K,L,Q,(f++[(Zc.mk x2.id an.1)]),p6,cY,dh,D,b9,bm,dg⟩ a ⟨(mx (mx (mx (mx (mx aM B) Y) P) a6) bn),(bf.mono (mx N3 bn)),(bw.mono (mx N3 bn)),bh,dW,dp,(yw cx (mx (mx P a6) bn))⟩ (υ z) (w6 z z z z z z)
   refine p'<|γ (mf z)<|γ (f' 15 jV z z z)<|γ (w' 21 k6 z z z)<|jL (e:=51) (r:=j') (vs:=#[(0,.agg ([i' x2.id,ε V an.1 W]).toArray)]) (cs:=[i' x2.id,ε V an.1 W]++([])) ([(Zc.mk x2.id an.1)]:Ŀ Zc) z z z z z (by decide) (λ_=>by kernel_rfl) ⟨[i' x2.id,ε V an.1 W],[],z,⟨[i' x2.id],[ε V an.1 W],z,z,⟨_,z,bZ⟩⟩,z⟩ (key:=999) z (by rw[aZ]; rfl) (λp7 ez a3 dO=>?_)
   obtain⟨da,a⟩:=a
   have N4:=mx (mx (mx B Y) P) a3
   refine nt (r:=j') 310151 z z jG q7 z (by decide) z z (bw.mono N4) z (by rw[aZ]; rfl) bh dO da λp8 c2 dC dI bs dV dd=>γ (mf z)<|kN 15 ([ε l o m,.slice p8 (n++[(Zc.mk x2.id an.1)]).length c2,ε y f x,i' D]).toArray z lU z z z (show 1<4 by decide) z z<|q'<|A'<|a'<|p'<|é z<|δ z<|q'<|K' ⟨i64.wrap (aO+1),o,l,m,(n++[(Zc.mk x2.id an.1)]),p8,c2,dC,f,y,x,H,D,b9,bm,dI⟩ a ⟨(mx (mx (mx (mx (mx aM B) Y) P) a3) bs),(bf.mono (mx N4 bs)),dV,dd,(bg.mono (mx N4 bs)),a4,(yw cx (mx (mx P a3) bs))⟩ (υ z) (w6 z z z z z z)
  refine Æ<|g'<|g'<|H'<|Ë ⟨o,l,m,n,K,L,Q,f,y,x,H,D,bX,bk,bA⟩ ⟨a,aM,bf,bw,bh,bg,a4,cA⟩ (υ z) (w5 z z z z z)
 rintro⟨aj,aq,am,ag,ai,ah,ao,T,ac,aa,ae,aH,cz,bV,bI⟩ ⟨a,ch,cd,bO,dc,bG,cW,du⟩
 refine a'<|sr<|θ z<|c'<|sr<|δ z<|U' z z (x' SP z) (oB func25 z z z (some bq)) z trivial (λex eF aC ct=>?_)
 obtain⟨eB,rfl,db⟩:=ct
 refine nO z z (x' SO z) (gM' _ _ _ _ _ 4079 _ (by decide) (yw du aC) a) z db (lc z ln) hz (λej eG ew aY cp=>?_)
 clear a
 obtain⟨cV,c4,ds,eh,rfl,rfl,dv,a⟩:=cp
 refine kq (λw hs=>hs.î (i:=7000) (j:=4137) z (by rw[aZ]; rfl))<|qX (r:=Rp.str) (e:=9) 4137 dv z (by rw[aZ]; rfl) λdU cF aS ce ei=>γ (N' Q' ce z)<|δ z<|nx<|Z' (X:=(Ŀ Zk)×ŀ Addr×Nat×ŀ Ow×Int×Mem) a (λ⟨au,a2,a5,a9,bt,ca⟩=>⟨(au,bt),[(6,Τ b4),(9,ε ad aJ ab),(11,ε aI a0.2 aK),(13,i' ap.2),(15,Τ b5),(22,ε a2 au a5),(137,ε c4 cV ds),(138,i' (cV.length:Int)),(139,i' bt)],Mem.le cF ca/\sl kB ca a2 a5 au/\Tok 2 55 (ε a2 au a5) au.length a9,St w0 G0 ca [(6,Ξ b4 (Ρ a1 u s O M A t) 29),(15,Ξ b5 ([ε aq aj am,ε ai ag ah,ε ac T aa,i' aH]) 29),(310151,ao),(310152,ae),(4137,dU),(1022,a9)]⟩) (λ(⟨ba,bj,bp,bu,ci⟩:(Ŀ Zk)×ŀ Addr×Nat×ŀ Ow×Mem)=>⟨ba,[(6,Τ b4),(9,ε ad aJ ab),(11,ε aI a0.2 aK),(13,i' ap.2),(15,Τ b5),(22,ε bj ba bp)],Mem.le cF ci/\sl kB ci bj bp ba/\Tok 2 55 (ε bj ba bp) ba.length bu,St w0 G0 ci [(6,Ξ b4 (Ρ a1 u s O M A t) 29),(15,Ξ b5 ([ε aq aj am,ε ai ag ah,ε ac T aa,i' aH]) 29),(310151,ao),(310152,ae),(1022,bu)]⟩) ⟨[],none,0,none,0,cF⟩ z (υ z) ⟨mr,(gi _ _),qC⟩ (wk (lc z (lc z (lc z (lc z (lc z (lw ln))))))) ?_ ?_
 .rintro _ ⟨au,a2,a5,a9,bt,ca⟩ ⟨bD,bW,bP⟩ a
  refine sr<|Ï z<|nx<|c'<|J' a z (λd0 a=>?_) (λd0 a=>?_)
  .refine o'<|a'<|c'<|V'<|sr<|oE a λx1 cX a=>γ (X' Q' nJ (ce.mono bD) z z cX)<|γ (il ou z (qQ (R' (Á ce cX) bD)))<|θ z<|p'<|δ z<|δ z<|γ (iK (vs:=#[(1,.string x1)]) (v:=.agg ([i' 0,.string x1]).toArray) z z (λ_=>by kernel_rfl))<|jL (e:=55) (r:=kB) (vs:=#[(0,.agg ([i' 0,.string x1]).toArray)]) (cs:=[i' 0,.string x1]++([])) ([(Zk.mk 0 x1)]:Ŀ Zk) z z z z z (by decide) (λ_=>by kernel_rfl) ⟨[i' 0,.string x1],[],z,⟨[i' 0],[.string x1],z,z,z⟩,z⟩ (key:=999) z (by rw[aZ]; rfl) (λp3 eC ck eb=>?_)
   refine oA a λdi a=>nt (r:=kB) 1022 z z tv vu z (by decide) z z (bW.mono ck) z (by rw[aZ]; rfl) bP eb di λp4 dY dH dy cG d7 df=>ς z<|q'<|A'<|a'<|p'<|é z<|δ z<|q'<|K' ⟨(au++[(Zk.mk 0 x1)]),p4,dY,dH,i64.wrap (bt+1),dy⟩ a ⟨(mx (mx bD ck) cG),d7,df⟩ (υ z) (w6 z z z z z z)
  refine Æ<|g'<|g'<|H'<|Ë ⟨au,a2,a5,a9,ca⟩ ⟨a,bD,bW,bP⟩ (υ z) (w5 z z z z z)
 rintro⟨ba,bj,bp,bu,ci⟩ ⟨a,aW,cH,co⟩
 refine a'<|sr<|δ z<|δ z ?_
 obtain⟨c8,a⟩:=a
 have N5:=mx (mx (mx (mx (mx (mx a7 bi) ch) aC) aY) aS) aW
 refine nt (r:=kB) 1022 z z tv vu z (by decide) z z cH z (by rw[aZ]; rfl) co (cv.mono N5) c8 λp2 eK et eD a8 c1 ev=>θ z<|c'<|sr<|δ z<|γ (N' tv c1 z)<|γ (kr z z)<|nx<|J' a z (λdN a=>?_) (λdN a=>?_)
 .refine sr<|γ (iK (vs:=#[]) (v:=.agg ([.slice none 0 0,.slice none 0 0,.slice none 0 0,i' 0]).toArray) z z (λ_=>by kernel_rfl))<|δ z<|ø 6 jB z<|ς z<|θ z<|m'<|b' ?_
  obtain rfl:_=r:=a
  exact rI z (hQ (i:=6) ÿ z z z) z z ⟨_,_,_,_,_,_,_,_,z,(gi Rp.str _),(gi j' _),(gi j' _),c1⟩
 have N6:=mx (mx (mx (mx (mx (mx (mx (mx J a7) bi) ch) aC) aY) aS) aW) a8
 refine o'<|a'<|c'<|sr<|δ z<|γ (N' Q' (bS.mono N6) z)<|eZ a z (kr z z) z (λef a=>?_) (λef a=>?_)
 .refine δ z<|ke z<|Δ z<|δ z<|ke z<|Δ z<|δ z<|lk z<|Δ z<|nx<|iS z<|sr<|γ (iK (vs:=#[]) (v:=.agg ([.slice none 0 0,.slice none 0 0,.slice none 0 0,i' 0]).toArray) z z (λ_=>by kernel_rfl))<|ø 6 jB z<|ς z<|θ z<|m'<|b' ?_
  obtain rfl:_=r:=a
  exact rI z (hQ (i:=6) ÿ z z z) z z ⟨_,_,_,_,_,_,_,_,z,(gi Rp.str _),(gi j' _),(gi j' _),(gi kB _)⟩
 refine δ z<|gy z z (mf z) z<|gy z z (f' 15 jV z z z) z<|gy z z (N' jG (bO.mono (mx (mx (mx (mx aC aY) aS) aW) a8)) z) z<|eZ a (W' z z) (kr z z) z (λdZ a=>?_) (λdZ a=>?_)
 .refine Γ z<|δ z<|ke z<|Δ z<|δ z<|lk z<|Δ z<|nx<|iS z<|sr<|γ (iK (vs:=#[]) (v:=.agg ([.slice none 0 0,.slice none 0 0,.slice none 0 0,i' 0]).toArray) z z (λ_=>by kernel_rfl))<|ø 6 jB z<|ς z<|θ z<|m'<|b' ?_
  obtain rfl:_=r:=a
  exact rI z (hQ (i:=6) ÿ z z z) z z ⟨_,_,_,_,_,_,_,_,z,(gi Rp.str _),(gi j' _),(gi j' _),(gi kB _)⟩
 refine Γ z<|δ z<|gy z z (mN z) z<|gy z z (f' 15 jV z z z) z<|gy z z (N' jG (bG.mono (mx (mx (mx (mx aC aY) aS) aW) a8)) z) z<|eZ a (W' z z) (kr z z) z (λdM a=>?_) (λdM a=>?_)
 .refine Γ z<|δ z<|lk z<|Δ z<|nx<|iS z<|sr<|γ (iK (vs:=#[]) (v:=.agg ([.slice none 0 0,.slice none 0 0,.slice none 0 0,i' 0]).toArray) z z (λ_=>by kernel_rfl))<|ø 6 jB z<|ς z<|θ z<|m'<|b' ?_
  obtain rfl:_=r:=a
  exact rI z (hQ (i:=6) ÿ z z z) z z ⟨_,_,_,_,_,_,_,_,z,(gi Rp.str _),(gi j' _),(gi j' _),(gi kB _)⟩
 refine Γ z<|δ z<|Â z<|gy z z (kr z z) z<|Γ z<|nx<|J' a z (λd9 a=>?_) (λd9 a=>?_)
 .refine sr<|γ (iK (vs:=#[]) (v:=.agg ([.slice none 0 0,.slice none 0 0,.slice none 0 0,i' 0]).toArray) z z (λ_=>by kernel_rfl))<|ø 6 jB z<|ς z<|θ z<|m'<|b' ?_
  obtain rfl:_=r:=a
  exact rI z (hQ (i:=6) ÿ z z z) z z ⟨_,_,_,_,_,_,_,_,z,(gi Rp.str _),(gi j' _),(gi j' _),(gi kB _)⟩
 refine o'<|a'<|sr<|γ (w' 15 ÿ z z z)<|ø 6 jB z<|ς z<|θ z<|m' ?_
 obtain rfl:_=r:=a
 have N7:=mx (mx (mx (mx aC aY) aS) aW) a8
 exact rI z (hQ (i:=6) ÿ z z z) z z ⟨_,_,_,_,_,_,_,_,z,(cd.mono N7),(bO.mono N7),(bG.mono N7),(gi kB _)⟩
theorem Sh{p n j g h f r}(a:(Jn p n).ο r):ä prog 234 #[.agg ((ι p j g)).toArray,.agg ((ι n h f)).toArray] (λG=>sl (Rp.int .u32) G j g p.Α/\sl (Rp.int .u32) G h f n.Α) (λG v=>v = .bool r):=by
 refine E' (args:=[_,_]) (N:=38) func234 z z z (λy l I t=>?_)
 obtain⟨e,i⟩:=t
 refine sr<|ý 2 z z z λA=>ý 3 z z z λu=>θ z<|c'<|sr<|γ (mM z)<|γ (f' 2 kX z z z)<|γ (mM z)<|γ (f' 3 kX z z z)<|eZ a z (Y0.tZ vl z z) z (λB a=>?_) (λB a=>?_)
 .refine δ z<|yM z<|Δ z<|nx<|iS z<|sr<|θ z<|m'<|b' (Μ a z z)
 refine δ z<|gy z z (jk z) z<|gy z z (f' 2 jm z z z) z<|gy z z (N' t' e z) z<|gy z z (jk z) z<|gy z z (f' 3 jm z z z) z<|gy z z (N' t' i z) z<|gy z z (ly z z) z<|Γ z<|nx<|J' a z (λD a=>?_) (λD a=>?_)
 .refine sr<|θ z<|m'<|b' (Μ a z z)
 refine o'<|a'<|c'<|sr<|θ z<|Z' (X:=Int×Mem) a (λ⟨o,k⟩=>⟨o,[(2,Τ A),(3,Τ u),(5,i' o)],Mem.le l k,St y l k [(2,Ξ A (ι p j g) 95),(3,Ξ u (ι n h f) 95)]⟩) (λ(H:Mem)=>match H with|m=>⟨(.inr ()),[],Mem.le l m,St y l m []⟩) ⟨0,l⟩ z (υ z) mr (w2 z z) ?_ ?_
 .rintro _ ⟨o,k⟩ d a
  refine c'<|sr<|δ z<|γ (jk z)<|γ (f' 2 jm z z z)<|γ (N' t' (e.mono d) z)<|Ï z<|nx<|J' a z (λx a=>?_) (λx a=>?_)
  .refine o'<|a'<|c'<|V'<|c'<|hZ [ff,ff,ff,ff,ff,ff,ff,ff,ff,ff] gp (by kernel_rfl) λF=>cn (λ_ c=>jk z)<|cn (λ_ c=>f' 2 jm z z z)<|ù z<|oE a λK s a=>cn (λ_ c=>X' t' kz ((e.mono d).mono c) z z s)<|cn (λ_ c=>il nD z (lH (R' (R' (Á e s) d) c)))<|cn (λ_ c=>jk z)<|cn (λ_ c=>f' 3 jm z z z)<|ù z<|oE a λJ q a=>cn (λ_ c=>X' t' kz ((i.mono d).mono c) z z q)<|cn (λ_ c=>il nD z (lH (R' (R' (Á i q) d) c)))<|jz F<|γ (ly z z)<|q'<|fh<|a'<|J' a z (λC a=>?_) (λC a=>?_)
   .refine sr<|θ z<|m'<|B'<|b'<|b'<|B'<|jl<|b' (Μ a z z)
   refine o'<|A'<|a'<|p'<|δ z<|é z<|ς z<|q'<|K' ⟨i64.wrap (o+1),k⟩ a d (υ z) (w2 z z)
  refine Æ<|g'<|g'<|H'<|Ë k ⟨a,d⟩ fn (wk ln)
 rintro m ⟨a,E⟩
 refine a'<|sr<|θ z<|m' (Μ a z z)
theorem gx'{l k j f h g i d c e r}(a:(Jm l k).ο r):ä prog 193 #[.agg ((χ l j f h g)).toArray,.agg ((χ k i d c e)).toArray] (λG=>sl (Rp.int .u32) G j f l.num.Α/\sl (Rp.int .u32) G h g l.den.Α/\sl (Rp.int .u32) G i d k.num.Α/\sl (Rp.int .u32) G c e k.den.Α) (λG v=>v = .bool r):=by
 refine E' (args:=[_,_]) (N:=17) func193 z z z (λC B y s=>?_)
 obtain⟨p,m,n,o⟩:=s
 refine sr<|ý 2 z z z λD=>ý 3 z z z λA=>ς z<|nr<|γ (pn z)<|γ (gZ ((ι l.num j f)).toArray 2 Ò z z z (hC ([]) ((ι l.num j f)) ((ι l.den h g))))<|γ (pn z)<|γ (gZ ((ι k.num i d)).toArray 3 Ò z z z (hC ([]) ((ι k.num i d)) ((ι k.den c e))))<|oE a λu t a=>I' z z (x' Aw z) (Sh t) z (⟨p,n⟩) ?_
 cases u
 .refine δ z<|pd z<|Γ z<|θ z<|m' (Μ a z z)
 refine δ z<|gy z z (oy z) z<|gy z z (gZ ((ι l.den h g)).toArray 2 Ò z z z (hC ((ι l.num j f)) ((ι l.den h g)) ([]))) z<|gy z z (oy z) z<|gy z z (gZ ((ι k.den c e)).toArray 3 Ò z z z (hC ((ι k.num i d)) ((ι k.den c e)) ([]))) z<|oE a λx q a=>I' (W' z z) z (x' Aw z) (Sh q) z (⟨m,o⟩)<|Δ z<|θ z<|m' (Μ a z z)
theorem fT'{l k j h g f i d c e r}(a:(DI l k).ο r):ä prog 128 #[.agg (((χ l.c j h g f):Ŀ Value)++(Ι l.m)).toArray,.agg (((χ k.c i d c e):Ŀ Value)++(Ι k.m)).toArray] (λG=>sl (Rp.int .u32) G j h l.c.num.Α/\sl (Rp.int .u32) G g f l.c.den.Α/\sl (Rp.int .u32) G i d k.c.num.Α/\sl (Rp.int .u32) G c e k.c.den.Α) (λG v=>v = .bool r):=by
 refine E' (args:=[_,_]) (N:=17) func128 z z z (λB A x q=>?_)
 obtain⟨m,n,p,o⟩:=q
 refine sr<|ý 2 z z z λC=>ý 3 z z z λy=>ς z<|nr<|γ (lV z)<|γ (gZ (Ι l.m).toArray 2 iL z z (M' _ _ _) (hC ((χ l.c j h g f)) (Ι l.m) ([])))<|γ (lV z)<|γ (gZ (Ι k.m).toArray 3 iL z z (M' _ _ _) (hC ((χ k.c i d c e)) (Ι k.m) ([])))<|eZ a z (Y0.yB lK nQ ñ gh vt z z) z (λt a=>?_) (λt a=>?_)
 .refine δ z<|gy z z (oq z) z<|gy z z (gZ ((χ l.c j h g f)).toArray 2 kf z z z (hC ([]) ((χ l.c j h g f)) ((Ι l.m)))) z<|gy z z (oq z) z<|gy z z (gZ ((χ k.c i d c e)).toArray 3 kf z z z (hC ([]) ((χ k.c i d c e)) ((Ι k.m)))) z<|oE a λu s a=>I' (W' z z) z (x' GA z) (gx' s) z (⟨m,n,p,o⟩)<|Δ z<|θ z<|m' (Μ a z z)
 refine δ z<|pd z<|Γ z<|θ z<|m' (Μ a z z)
theorem gy'{C x p o s m r}(a:(ER C x).ο r):ä prog 76 #[ε p C o,ε s x m] (λG=>sl n' G p o C/\sl n' G s m x) (λG v=>v = .bool r):=by
 refine E' (args:=[_,_]) (N:=27) func76 z z z (λR l Z K=>?_)
 obtain⟨k,n⟩:=K
 refine sr<|θ z<|c'<|sr<|δ z<|γ (N' F' k z)<|δ z<|γ (N' F' n z)<|γ (ly z z)<|nx<|J' a z (λT a=>?_) (λT a=>?_)
 .refine sr<|θ z<|m'<|b' (Μ a z z)
 refine o'<|a'<|c'<|sr<|θ z<|Z' (X:=Int×Mem) a (λ⟨H,i⟩=>⟨H,[(0,ε p C o),(1,ε s x m),(5,i' H)],Mem.le l i,St R l i []⟩) (λ(W:Mem)=>match W with|q=>⟨(.inr ()),[],Mem.le l q,St R l q []⟩) ⟨0,l⟩ z (υ z) mr (wk ln) ?_ ?_
 .rintro _ ⟨H,i⟩ c a
  refine c'<|sr<|δ z<|δ z<|γ (N' F' (k.mono c) z)<|Ï z<|nx<|J' a z (λQ a=>?_) (λQ a=>?_)
  .refine o'<|a'<|c'<|V'<|c'<|hZ [ff,ff,ff,ff,ff,ff,ff,ff] gp (by kernel_rfl) λV=>ù z<|ù z<|oE a λw J a=>cn (λ_ d=>X' F' jA ((k.mono c).mono d) z z J) ?_
   obtain⟨y,t,D,u,O,h,e⟩:=pr (R' (Á k J) c)
   refine cn (λ_ d=>jC _ oz z z (λj v L=>d _ _ _ (O j v L)))<|ù z<|ù z<|oE a λx2 I a=>cn (λ_ d=>X' F' jA ((n.mono c).mono d) z z I) ?_
   obtain⟨A,F,B,E,P,f,g⟩:=pr (R' (Á n I) c)
   refine cn (λ_ d=>jC _ oz z z (λj v L=>d _ _ _ (P j v L)))<|jz V<|oE a λY M a=>I' z z (x' F9 z) (fT' M) z (⟨h,e,f,g⟩)<|γ (gP z)<|q'<|fh<|a'<|iC a z (λS a=>?_) (λS a=>?_)
   .refine sr<|θ z<|m'<|B'<|b'<|b'<|B'<|jl<|b' (Μ a z z)
   refine o'<|A'<|a'<|p'<|δ z<|é z<|ς z<|q'<|K' ⟨i64.wrap (H+1),i⟩ a c (υ z) (wk ln)
  refine Æ<|g'<|g'<|H'<|Ë i ⟨a,c⟩ fn (wk ln)
 rintro q ⟨a,U⟩
 refine a'<|sr<|θ z<|m' (Μ a z z)
theorem R7{p n j m h l r}(a:(AZ p n).ο r):ä prog 36 #[ε j p m,ε h n l] (λG=>sl j' G j m p/\sl j' G h l n) (λG v=>v = .bool r):=by
 refine E' (args:=[_,_]) (N:=42) func36 z z z (λD i R x=>?_)
 obtain⟨e,g⟩:=x
 refine sr<|θ z<|c'<|sr<|δ z<|γ (N' jG e z)<|δ z<|γ (N' jG g z)<|γ (ly z z)<|nx<|J' a z (λK a=>?_) (λK a=>?_)
 .refine sr<|θ z<|m'<|b' (Μ a z z)
 refine o'<|a'<|c'<|sr<|θ z<|Z' (X:=Int×Mem) a (λ⟨o,f⟩=>⟨o,[(0,ε j p m),(1,ε h n l),(5,i' o)],Mem.le i f,St D i f []⟩) (λ(M:Mem)=>match M with|k=>⟨(.inr ()),[],Mem.le i k,St D i k []⟩) ⟨0,i⟩ z (υ z) mr (wk ln) ?_ ?_
 .rintro _ ⟨o,f⟩ d a
  refine c'<|sr<|δ z<|δ z<|γ (N' jG (e.mono d) z)<|Ï z<|nx<|J' a z (λC a=>?_) (λC a=>?_)
  .refine o'<|a'<|c'<|V'<|c'<|hZ [ff,ff,ff,ff,ff,ff,ff,ff,ff,ff,ff,ff,ff,ff,ff,ff,ff,ff,ff,ff,ff,ff] gp (by kernel_rfl) λA=>ù z<|ù z<|oE a λY u a=>cn (λ_ c=>X' jG ng ((e.mono d).mono c) z z u)<|cn (λ_ c=>oY z)<|cn (λ_ c=>il ñ z (lH (R' (R' (qO (mi (Á e u))) d) c)))<|ù z<|ù z<|oE a λW s a=>cn (λ_ c=>X' jG ng ((g.mono d).mono c) z z s)<|cn (λ_ c=>oY z)<|cn (λ_ c=>il ñ z (lH (R' (R' (qO (mi (Á g s))) d) c)))<|su a z (λ_ c=>ly z z) (λH a=>?_) (λH a=>?_)
   .refine ù z<|cf z z<|cf z z<|cf z z<|cf z z<|cf z z<|cf z z<|cf z z<|cf z z<|cf z z<|cf z z<|jz A<|lk z<|Δ z<|q'<|fh<|a'<|iS z<|sr<|θ z<|m'<|B'<|b'<|b'<|B'<|jl<|b' (Μ a z z)
   refine ù z<|cy z z (λ_ c=>h' z)<|cy z z (λ_ c=>h' z)<|oE a λU q a=>cy z z (λ_ c=>X' jG ng ((e.mono d).mono c) z z q)<|cy z z (λ_ c=>sN z) ?_
   obtain⟨V,Q,B,F⟩:=qA (R' (pP (mi (Á e q))) d)
   refine cy z z (λ_ c=>il ij z (c _ _ _ B))<|cy z z (λ_ c=>h' z)<|cy z z (λ_ c=>h' z)<|oE a λT t a=>cy z z (λ_ c=>X' jG ng ((g.mono d).mono c) z z t)<|cy z z (λ_ c=>sN z) ?_
   obtain⟨S,O,E,I⟩:=qA (R' (pP (mi (Á g t))) d)
   refine cy z z (λ_ c=>il ij z (c _ _ _ E))<|jz A<|oE a λP y a=>I' (W' z z) z (x' Td z) (gy' y) z (⟨F,I⟩)<|gy z z (gP z) z<|Γ z<|q'<|fh<|a'<|iC a z (λJ a=>?_) (λJ a=>?_)
   .refine sr<|θ z<|m'<|B'<|b'<|b'<|B'<|jl<|b' (Μ a z z)
   refine o'<|A'<|a'<|p'<|δ z<|é z<|ς z<|q'<|K' ⟨i64.wrap (o+1),f⟩ a d (υ z) (wk ln)
  refine Æ<|g'<|g'<|H'<|Ë f ⟨a,d⟩ fn (wk ln)
 rintro k ⟨a,L⟩
 refine a'<|sr<|θ z<|m' (Μ a z z)
theorem Si{A x l k q o m i g e p s j h r}(a:(BH A x).ο r):ä prog 13 #[.agg ((Ρ A l k q o m i)).toArray,.agg ((Ρ x g e p s j h)).toArray] (λG=>sl Rp.str G l k A.vars/\sl j' G q o A.eqs/\sl j' G m i A.ζ/\od G g e p s j h x) (λG v=>v = .bool r):=by
 refine E' (args:=[_,_]) (N:=54) func13 z z z (λP D ad Q=>?_)
 obtain⟨f,F,B,t,H,C⟩:=Q
 refine sr<|ý 2 z z z λJ=>ý 3 z z z λI=>θ z<|k5 a (λ(R:Mem)=>match R with|u=>⟨[(2,Τ J),(3,Τ I)],NZ A x,Mem.le D u,St P D u [(2,Ξ J (Ρ A l k q o m i) 29),(3,Ξ I (Ρ x g e p s j h) 29)]⟩) ?_ ?_
 .refine sr<|γ (lI z)<|γ (f' 2 lr z z z)<|γ (N' Q' f z)<|γ (lI z)<|γ (f' 3 lr z z z)<|γ (N' Q' t z)<|eZ a z (ly z z) z (λW a=>?_) (λW a=>?_)
  .refine δ z<|pd z<|Δ z<|δ z<|qK z<|Δ z<|δ z<|qK z<|Δ z<|nx<|iS z<|sr<|θ z<|m'<|b' (Μ a z z)
  refine δ z<|gy z z (pq z) z<|gy z z (f' 2 ñ z z z) z<|gy z z (pq z) z<|gy z z (f' 3 ñ z z z) z<|eZ a (W' z z) (ly z z) z (λV a=>?_) (λV a=>?_)
  .refine Γ z<|δ z<|qK z<|Δ z<|δ z<|qK z<|Δ z<|nx<|iS z<|sr<|θ z<|m'<|b' (Μ a z z)
  refine Γ z<|δ z<|gy z z (mf z) z<|gy z z (f' 2 jV z z z) z<|gy z z (mf z) z<|gy z z (f' 3 jV z z z) z<|oE a λT S a=>I' (W' z z) z (x' LX z) (R7 S) z (⟨F,H⟩) ?_
  cases T
  .refine gy z z (gP z) z<|Γ z<|δ z<|qK z<|Δ z<|nx<|iS z<|sr<|θ z<|m'<|b' (Μ a z z)
  refine gy z z (gP z) z<|Γ z<|δ z<|gy z z (mN z) z<|gy z z (f' 2 jV z z z) z<|gy z z (mN z) z<|gy z z (f' 3 jV z z z) z<|oE a λac O a=>I' (W' z z) z (x' LX z) (R7 O) z (⟨B,C⟩)<|gy z z (gP z) z<|Γ z<|nx<|iC a z (λY a=>?_) (λY a=>?_)
  .refine sr<|θ z<|m'<|b' (Μ a z z)
  refine o'<|ia D ⟨a,mr⟩ (υ z) (w2 z z)
 rintro u ⟨a,n⟩
 refine c'<|sr<|θ z<|Z' (X:=Int×Mem) a (λ⟨K,y⟩=>⟨K,[(2,Τ J),(3,Τ I),(5,i' K)],Mem.le u y,St P D y [(2,Ξ J (Ρ A l k q o m i) 29),(3,Ξ I (Ρ x g e p s j h) 29)]⟩) (λ(R:Mem)=>match R with|E=>⟨(.inr ()),[],Mem.le u E,St P D E []⟩) ⟨0,u⟩ z (υ z) mr (w2 z z) ?_ ?_
 .rintro _ ⟨K,y⟩ d a
  refine c'<|sr<|δ z<|γ (lI z)<|γ (f' 2 lr z z z)<|γ (N' Q' (f.mono (mx n d)) z)<|Ï z<|nx<|J' a z (λZ a=>?_) (λZ a=>?_)
  .refine o'<|a'<|c'<|V'<|c'<|hZ [ff,ff,ff,ff,ff,ff,ff,ff,ff,ff] gp (by kernel_rfl) λw=>cn (λ_ c=>lI z)<|cn (λ_ c=>f' 2 lr z z z)<|ù z<|oE a λx1 M a=>cn (λ_ c=>X' Q' nJ ((f.mono (mx n d)).mono c) z z M)<|cn (λ_ c=>il ou z (qQ (R' (R' (Á f M) (mx n d)) c)))<|cn (λ_ c=>lI z)<|cn (λ_ c=>f' 3 lr z z z)<|ù z<|oE a λx2 L a=>cn (λ_ c=>X' Q' nJ ((t.mono (mx n d)).mono c) z z L)<|cn (λ_ c=>il ou z (qQ (R' (R' (Á t L) (mx n d)) c)))<|jz w<|γ (Y0.CN qq z z)<|q'<|fh<|a'<|J' a z (λU a=>?_) (λU a=>?_)
   .refine sr<|θ z<|m'<|B'<|b'<|b'<|B'<|jl<|b' (Μ a z z)
   refine o'<|A'<|a'<|p'<|δ z<|é z<|ς z<|q'<|K' ⟨i64.wrap (K+1),y⟩ a d (υ z) (w2 z z)
  refine Æ<|g'<|g'<|H'<|Ë y ⟨a,d⟩ fn (wk ln)
 rintro E ⟨a,aa⟩
 refine a'<|sr<|θ z<|m' (Μ a z z)
theorem KI{q o i m g l r}(a:(Z3 q o).ο r):ä prog 7 #[ε i q m,ε g o l] (λG=>sl kB G i m q/\sl kB G g l o) (λG v=>v = .bool r):=by
 refine E' (args:=[_,_]) (N:=26) func7 z z z (λB h J u=>?_)
 obtain⟨f,n⟩:=u
 refine sr<|θ z<|c'<|sr<|δ z<|γ (N' tv f z)<|δ z<|γ (N' tv n z)<|γ (ly z z)<|nx<|J' a z (λE a=>?_) (λE a=>?_)
 .refine sr<|θ z<|m'<|b' (Μ a z z)
 refine o'<|a'<|c'<|sr<|θ z<|Z' (X:=Int×Mem) a (λ⟨p,e⟩=>⟨p,[(0,ε i q m),(1,ε g o l),(5,i' p)],Mem.le h e,St B h e []⟩) (λ(I:Mem)=>match I with|k=>⟨(.inr ()),[],Mem.le h k,St B h k []⟩) ⟨0,h⟩ z (υ z) mr (wk ln) ?_ ?_
 .rintro _ ⟨p,e⟩ c a
  refine c'<|sr<|δ z<|δ z<|γ (N' tv (f.mono c) z)<|Ï z<|nx<|J' a z (λA a=>?_) (λA a=>?_)
  .refine o'<|a'<|c'<|V'<|c'<|hZ [ff,ff,ff,ff,ff,ff,ff,ff] gp (by kernel_rfl) λH=>ù z<|ù z<|oE a λL t a=>cn (λ_ d=>X' tv C2 ((f.mono c).mono d) z z t) ?_
   have C:=Mz (R' (Á f t) c)
   refine cn (λ_ d=>jC _ BY z z (λj v x=>d _ _ _ (C j v x)))<|ù z<|ù z<|oE a λK s a=>cn (λ_ d=>X' tv C2 ((n.mono c).mono d) z z s) ?_
   have y:=Mz (R' (Á n s) c)
   refine cn (λ_ d=>jC _ BY z z (λj v x=>d _ _ _ (y j v x)))<|jz H<|γ (Y0.CM underlying55 ñ ou nQ qq Lx KN (by decide) z z)<|q'<|fh<|a'<|J' a z (λD a=>?_) (λD a=>?_)
   .refine sr<|θ z<|m'<|B'<|b'<|b'<|B'<|jl<|b' (Μ a z z)
   refine o'<|A'<|a'<|p'<|δ z<|é z<|ς z<|q'<|K' ⟨i64.wrap (p+1),e⟩ a c (υ z) (wk ln)
  refine Æ<|g'<|g'<|H'<|Ë e ⟨a,c⟩ fn (wk ln)
 rintro k ⟨a,F⟩
 refine a'<|sr<|θ z<|m' (Μ a z z)
end Go.Proofs.YtdigmacmdlpckaaGreat

