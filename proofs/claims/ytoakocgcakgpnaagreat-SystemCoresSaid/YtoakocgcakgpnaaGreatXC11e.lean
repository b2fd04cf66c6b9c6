/- The law SystemCores holds for every input: a part of its proof (what the code does, plain models, and what they return). No condition. -/
import Derived.Test.YtoakocgcakgpnaaGreatXC11d
set_option linter.unusedVariables false
set_option linter.unusedSimpArgs false
namespace Go.Proofs.YtoakocgcakgpnaaGreat
open Go.IntKind (i8 i16 i32 i64 u8 u16 u32 u64)
open Go.Proofs.Tryz
open Go Go.EL Go.RowKit Go.Proofs
abbrev pmv(f:Fin 8->Int):Array Value:=(vecG (Value.int .i64) 8 f).toArray
theorem Zd5(f:Fin 8->Int){k:Nat}(h:k<8):(pmv f)[k]? = some (.int .i64 (getF f (k:Int))):=ZfW (Value.int .i64) 8 f (i:=(k:Int)) ⟨by omega,by omega⟩
theorem Zke(b lo len cap:Nat)(f:Fin 8->Int)(h:lo+len<=8):CtrL prog 107 #[.slice (some ⟨b,lo,none⟩) len cap] [(9003,some ⟨b,.cells (pmv f) 44 (0,0),0⟩)] (fun _=>True)
    (fun _ L v=>v = .tuple #[]/\L=[(9003,some ⟨b,.cells (pmv (revF f lo len (len / 2))) 44 (0,0),0⟩)]):=by
  refine CtrL.enter (args:=[_]) (N:=28) func107 rfl rfl rfl (fun w0 G0 hL0 _=>?_)
  have hw0:i64.wrap ((len:Int)-1)=(len:Int)-1-((0:Nat):Int):=by rw[IntKind.wrap_i64]; omega
  refine sr<|mv rfl rfl<|yy (Y0.lenC underlying156 rfl) rfl<|yy (Y0.sub rfl rfl) rfl<|sg rfl rfl<|sg rfl rfl<|nx<|WC.block ?_
  refine WC.loopH (X:=Nat) (fun k=>[(0,.slice (some ⟨b,lo,none⟩) len cap),(2,.int .i64 (k:Int)),(3,.int .i64 ((len:Int)-1-(k:Int)))])
    (fun k=>k<=len / 2) (fun k=>St w0 G0 G0 [(9003,some ⟨b,.cells (pmv (revF f lo len k)) 44 (0,0),0⟩)]) (fun k=>len-k) 0 (fc rfl (fc rfl (fc (by show some (Value.int .i64 (i64.wrap ((len:Int)-1)))=_; rw[hw0]) fn))) (Nat.zero_le _) (fun w hs=>hs) ?_
  intro k hk
  refine WC.seq<|sr<|mv rfl rfl<|mv rfl rfl<|yy (Y0.lss rfl rfl) rfl<|nx ?_
  refine WC.condD (p:=(k:Int)<(len:Int)-1-(k:Int)) rfl (fun hc=>?_) (fun hc=>?_)
  . have ej:(len:Int)-1-(k:Int)=((len-1-k:Nat):Int):=by omega
    have hw1:i64.wrap ((k:Int)+1)=((k+1:Nat):Int):=by rw[IntKind.wrap_i64]; omega
    have hw2:i64.wrap (((len-1-k:Nat):Int)-1)=(len:Int)-1-((k+1:Nat):Int):=by rw[IntKind.wrap_i64]; omega
    rw[ej]
    generalize hg:revF f lo len k=g
    refine WC.skip<|WE.then<|WC.seq<|WC.block ?_
    refine WC.drawn [false,false,true,true,false,false,false,false,false,false,false,false,false] mix (by kernel_rfl) (fun hb=>?_)
    refine cn (fun _ hle=>Y0.move rfl)<|cn (fun _ hle=>Y0.move rfl)<|Chain.float Zd (Y0.move rfl)<|Chain.float Zd (Y0.move rfl)<|cn (fun _ hle=>Y0.move rfl)<|cn (fun _ hle=>Y0.move rfl) ?_
    refine cn (fun _ hle=>Y0.idxSlN underlying156 sz3 rfl rfl (show len-1-k<len by omega))<|cn (fun _ hle=>Y0.loadL 9003 sc3 rfl rfl (by rw[Nat.mul_one]; exact Zd5 g (show lo+(len-1-k)<8 by omega))) ?_
    refine cn (fun _ hle=>Y0.move rfl)<|cn (fun _ hle=>Y0.move rfl)<|cn (fun _ hle=>Y0.idxSlN underlying156 sz3 rfl rfl (show k<len by omega))<|cn (fun _ hle=>Y0.loadL 9003 sc3 rfl rfl (by rw[Nat.mul_one]; exact Zd5 g (show lo+k<8 by omega))) ?_
    refine cn (fun _ hle=>Y0.idxSlN underlying156 sz3 rfl rfl (show k<len by omega))<|Chain.tail0 hb ?_
    refine WL.storeL 9003 (pmv (setF g (lo+k) (getF g ((lo+(len-1-k):Nat):Int)))) Zd sz3 rfl rfl rfl (by rw[Nat.mul_one,ZB]; omega) rfl (by rw[Nat.mul_one]; exact ZcR _ _ _ _ _) ?_
    refine yy (Y0.idxSlN underlying156 sz3 rfl rfl (show len-1-k<len by omega)) rfl ?_
    refine WL.storeL 9003 (pmv (swF g (lo+k) (lo+(len-1-k)))) Zd sz3 rfl rfl rfl (by rw[Nat.mul_one,ZB]; omega) rfl (by rw[Nat.mul_one]; exact ZcR _ _ _ _ _) ?_
    refine WL.nil<|WE.nx<|WE.inBlock<|WE.then<|WC.region<|mv rfl rfl<|yy (Y0.add rfl rfl) rfl<|mv rfl rfl<|yy (Y0.sub rfl rfl) rfl ?_
    rw[hw1,hw2]
    refine sg rfl rfl<|sg rfl rfl<|WL.nil<|WE.backH (x:=k) (k+1) (by omega) (fc rfl (fc rfl (fc rfl fn))) (fun w hs=>hs.weaken ?_) (by show len-(k+1)<len-k; omega)
    show Lo.sub [(9003,some ⟨b,.cells (pmv (swF (revF f lo len k) (lo+k) (lo+(len-1-k)))) 44 (0,0),0⟩)] _
    rw[hg]
    exact lc rfl ln
  have:k=len / 2:=by omega
  subst this
  exact WC.exit<|WE.thenExit<|WE.thenExit<|WE.exitHere<|WE.retN<|WE.ret0 rfl ⟨rfl,rfl⟩
theorem Zmc(n:Int):Ctr prog 54 #[.int .i64 n] (fun _=>True) (fun G v=>∃ b,v = .func (.func 106) #[] #[.pointer (some ⟨b,0,none⟩)]/\G b 0=some (.int .i64 n)):=by
  refine Ctr.enter (args:=[_]) (N:=4) func54 rfl rfl rfl (fun w0 G0 hL0 _=>?_)
  refine sr<|WL.boxF 1 rfl Zd rfl rfl (fun b=>?_)
  refine sg rfl rfl<|WL.nil<|WE.then ?_
  refine WC.knowBox 1 rfl (by rw[hL0]; rfl) (fun G1 hle hk _=>?_)
  refine sr<|yy (Y0.makeFunc rfl rfl) rfl<|sg rfl rfl<|nx<|WC.ret ?_
  exact WE.ret1 rfl rfl ⟨_,rfl,hk 0 _ rfl⟩
theorem Zko{n:Nat}(h1:1<=n)(h4:n<=4){j:Nat}{p:Fin 8->Int}(h:(permsL n)[j]? = some p):(permsL n)[j+1]? = nextF n p:=by
  have key:∀ n:Fin 4,∀ j:Fin 24,(match (permsL (n.val+1))[j.val]? with|some p=>decide ((permsL (n.val+1))[j.val+1]? = nextF (n.val+1) p)|none=>true)=true:=by decide +kernel
  have hl:∀ n:Fin 4,(permsL (n.val+1)).length<=24:=by decide +kernel
  obtain⟨m,rfl⟩:∃ m,n=m+1:=⟨n-1,by omega⟩
  have hj:j<24:=Nat.lt_of_lt_of_le (List.getElem?_eq_some_iff.1 h).1 (hl ⟨m,by omega⟩)
  have:=key ⟨m,by omega⟩ ⟨j,hj⟩
  dsimp only at this
  rw[h] at this
  exact of_decide_eq_true this
def EM(n:Nat)(j:Nat)(u:Value)(_:Mem):Prop:=∃ p,(permsL n)[j]? = some p/\u = .agg (pmv p)
theorem ZhK{p:Fin 8->Int}:∀ {k i:Nat},ascF p k=some i->i<k/\getF p (i:Int)<=getF p ((i+1:Nat):Int)
  | 0,_,h=>by cases h
  | k+1,i,h=>by
    unfold ascF at h
    split at h
    . obtain⟨h1,h2⟩:=ZhK h
      exact⟨by omega,h2⟩
    cases h
    exact⟨Nat.lt_succ_self _,by omega⟩
theorem Zk4(b n:Nat)(h1:1<=n)(h4:n<=4):IterOk prog 106 #[.pointer (some ⟨b,0,none⟩)] (permsL n).length (EM n) (fun G=>G b 0=some (.int .i64 (n:Int))):=by
  intro σ yl I Lc pre hlow hmono hY s0 hI0 hz
  refine CtrL.enter (args:=[_,_]) (N:=61) func106 rfl rfl rfl (fun w0 G0 hL0 hp=>?_)
  obtain⟨hb,hpre⟩:=hp
  have hz0:w0.L.zero:=by rw[hL0]; exact hz
  have hno:∀ (s:σ) (x:Option Ow),Lo.sub (Lc s) ((9003,x)::Lc s):=fun s x i z h=>by
    rw[Lo.Zh,if_neg (fun e=>by rw[<- e,hlow s 9003 (by omega)] at h; cases h)]; exact h
  have hsub2:∀ (s:σ) (x:Option Ow) (R:Lo),Lo.sub ((9003,x)::Lc s) ((9003,x)::((9003,R.get 9003)::Lc s)):=fun s x R i z hz=>by
    rw[Lo.Zh] at hz ⊢
    split at hz
    . rename_i e; rw[if_pos e]; exact hz
    rename_i e; rw[if_neg e,Lo.Zh,if_neg e]; exact hz
  refine sr<|WL.alloc 9003 Zd z44 rfl (fun b3=>?_)
  refine nx<|WC.seq<|sr<|mv rfl rfl<|nx<|WC.block ?_
  refine WC.loopH (X:=Nat) (fun k=>[(0,.func (.yield yl) #[] #[]),(1,.pointer (some ⟨b,0,none⟩)),(3,.pointer (some ⟨b3,0,none⟩)),(7,.int .i64 (k:Int))])
    (fun k=>k<=8) (fun k=>St w0 G0 G0 ((9003,some ⟨b3,.cells (pmv (fun i=>if i.val<k then (i.val:Int) else 0)) 44 (0,0),0⟩)::Lc s0)) (fun k=>8-k) 0 (fc rfl (fc rfl (fc rfl (fc rfl fn)))) (by omega) (fun w hs=>hs) ?_
  . intro k hk
    refine sr<|yy (Y0.lss rfl rfl) rfl<|nx<|WC.seq ?_
    refine WC.condD (p:=(k:Int)<8) rfl (fun hc=>?_) (fun hc=>?_)
    . have hw:i64.wrap ((k:Int)+1)=((k+1:Nat):Int):=by rw[IntKind.wrap_i64]; omega
      have hst:setF (fun i:Fin 8=>if i.val<k then (i.val:Int) else 0) k (k:Int)=fun i=>if i.val<k+1 then (i.val:Int) else 0:=by
        funext i
        show (if i.val=k then (k:Int) else if i.val<k then (i.val:Int) else 0)=if i.val<k+1 then (i.val:Int) else 0
        by_cases e:i.val=k
        . rw[if_pos e,if_pos (by omega),e]
        rw[if_neg e]
        by_cases e2:i.val<k
        . rw[if_pos e2,if_pos (by omega)]
        rw[if_neg e2,if_neg (by omega)]
      refine WC.skip<|WE.then<|WC.seq<|WC.block<|sr<|mv rfl rfl<|sg rfl rfl<|nx<|WC.region<|mv rfl rfl<|mv rfl rfl<|yy (Y0.idxA0 underlying44 sz3 rfl rfl ⟨by omega,by omega⟩) rfl ?_
      refine WL.storeL 9003 (pmv (fun i=>if i.val<k+1 then (i.val:Int) else 0)) Zd sz3 rfl rfl rfl (by rw[ZB]; omega) rfl (by rw[<- hst]; exact ZcR _ _ _ _ _) ?_
      refine WL.nil<|WE.inBlock<|WE.then<|WC.region<|yy (Y0.add rfl rfl) rfl ?_
      rw[hw]
      exact mv rfl rfl<|WL.nil<|WE.backH (x:=k) (k+1) (by omega) (fc rfl (fc rfl (fc rfl (fc rfl fn)))) (fun w hs=>hs.weaken (hsub2 s0 _ [(9003,_)])) (by show 8-(k+1)<8-k; omega)
    have:k=8:=by omega
    subst this
    refine WC.exit<|WE.thenExit<|WE.thenExit<|WE.exitHere<|WE.then<|WC.block ?_
    have hid:(fun i:Fin 8=>if i.val<8 then (i.val:Int) else 0)=fun i=>(i.val:Int):=by funext i; rw[if_pos i.isLt]
    rw[hid]
    have hp0:(permsL n)[0]? = some fun i=>(i.val:Int):=rfl
    refine WC.loopH (X:=Nat×(Fin 8->Int)×σ×Mem) (fun gx=>[(0,.func (.yield yl) #[] #[]),(1,.pointer (some ⟨b,0,none⟩)),(3,.pointer (some ⟨b3,0,none⟩))])
      (fun gx=>match gx with|⟨j,p,s,G⟩=>(permsL n)[j]? = some p/\I j s/\Mem.le G0 G/\pre s G) (fun gx=>match gx with|⟨j,p,s,G⟩=>St w0 G0 G ((9003,some ⟨b3,.cells (pmv p) 44 (0,0),0⟩)::Lc s)) (fun gx=>(permsL n).length-gx.1) ⟨0,_,s0,G0⟩ (fc rfl (fc rfl (fc rfl fn))) ⟨hp0,hI0,Mem.le_refl _,hpre⟩ (fun w hs=>hs) ?_
    rintro⟨j,p,s,G⟩ ⟨hpj,hI,hle,hp⟩
    dsimp only at hpj hI hle hp ⊢
    have hjl:j<(permsL n).length:=(List.getElem?_eq_some_iff.1 hpj).1
    have hch:=Zko h1 h4 hpj
    refine WC.seq<|WC.seq<|WC.regionI<|WLI.y0 Zd (Y0.move rfl) (fun c h=>by cases h) rfl<|WLI.y0 Zd (Y0.loadLA 9003 ag44 rfl rfl (ZB _ _ _)) (fun c h=>by cases h) rfl ?_
    refine WLI.callZ (R:=[(9003,_)]) Zd rfl rfl rfl (hY j _ s hjl hI) ⟨hp,p,hpj,rfl⟩ hz0 (fun i hi=>by simp only[List.map_cons,List.map_nil,List.mem_singleton] at hi; subst hi; exact hlow s _ (by omega)) (fun bb G1 L1 hle1 hpost=>?_)
    obtain⟨rfl,s',hI',rfl,hp'⟩:=hpost
    have hle01:=Mem.le_trans hle hle1
    refine WLI.nil<|WE.then<|WC.condT rfl<|WC.skip<|WE.then<|WC.block ?_
    have hw0:i64.wrap ((n:Int)-2)=((n-1:Nat):Int)-1:=by rw[IntKind.wrap_i64]; omega
    have hw1:i64.wrap ((n:Int)-1)=((n-1:Nat):Int):=by rw[IntKind.wrap_i64]; omega
    refine sr<|yy (Y0.loadG sc3 rfl (hle01 _ _ _ hb)) rfl<|yy (Y0.sub rfl rfl) rfl ?_
    rw[hw0]
    refine sg rfl rfl<|nx<|WC.seqH (X:=Nat) (fun k=>[(0,.func (.yield yl) #[] #[]),(1,.pointer (some ⟨b,0,none⟩)),(3,.pointer (some ⟨b3,0,none⟩)),(5,.int .i64 ((k:Int)-1))])
      (fun k=>k<=n-1/\((k=0/\ascF p (n-1)=none)\/∃ i,k=i+1/\ascF p (n-1)=some i)) (fun _=>St w0 G0 G1 ((9003,some ⟨b3,.cells (pmv p) 44 (0,0),0⟩)::Lc s')) ?_ ?_
    . refine WC.block<|WC.loopH (X:=Nat) (fun k=>[(0,.func (.yield yl) #[] #[]),(1,.pointer (some ⟨b,0,none⟩)),(3,.pointer (some ⟨b3,0,none⟩)),(5,.int .i64 ((k:Int)-1))])
        (fun k=>k<=n-1/\ascF p k=ascF p (n-1)) (fun _=>St w0 G0 G1 ((9003,some ⟨b3,.cells (pmv p) 44 (0,0),0⟩)::Lc s')) (fun k=>k) (n-1) (fc rfl (fc rfl (fc rfl (fc rfl fn)))) ⟨Nat.le_refl _,rfl⟩ (fun w hs=>hs) ?_
      rintro k ⟨hk,hasc⟩
      refine WC.seq<|WC.seq ?_
      by_cases hk0:k=0
      . subst hk0
        refine WC.drawn [false,false,false,false,false,false,false,false,false,false,false] mix (by kernel_rfl) (fun hb=>?_)
        refine cn (fun _ hle=>Y0.move rfl)<|cn (fun _ hle=>Y0.eq (Y0.geq rfl rfl) (congrArg Value.bool (decide_eq_false (by omega))))<|cn (fun _ hle=>Y0.move rfl)<|ct rfl rfl<|ct rfl rfl<|ct rfl rfl<|ct rfl rfl<|ct rfl rfl<|ct rfl rfl<|ct rfl rfl<|ct rfl rfl<|Chain.tail0 hb ?_
        refine yy (Y0.pickF rfl rfl) rfl<|WL.nil<|WE.nx<|WE.then<|WC.condF rfl ?_
        exact WC.exit<|WE.thenExit<|WE.thenExit<|WE.exitHere<|WE.midH 0 ⟨hk,.inl ⟨rfl,hasc.symm⟩⟩ (fc rfl (fc rfl (fc rfl (fc rfl fn)))) (fun w hs=>hs)
      obtain⟨i,rfl⟩:∃ i,k=i+1:=⟨k-1,by omega⟩
      have e1:((i+1:Nat):Int)-1=(i:Int):=by omega
      have e2:i64.wrap ((i:Int)+1)=((i+1:Nat):Int):=by rw[IntKind.wrap_i64]; omega
      have e3:i64.wrap ((i:Int)-1)=(i:Int)-1:=by rw[IntKind.wrap_i64]; omega
      rw[e1]
      refine WC.drawn [false,false,false,false,false,false,false,false,false,false,false] mix (by kernel_rfl) (fun hb=>?_)
      refine cn (fun _ hle=>Y0.move rfl)<|cn (fun _ hle=>Y0.eq (Y0.geq rfl rfl) (congrArg Value.bool (decide_eq_true (by omega))))<|cn (fun _ hle=>Y0.move rfl) ?_
      refine cy rfl rfl (fun _ hle=>Y0.move rfl)<|cy rfl rfl (fun _ hle=>Y0.idxA0 underlying44 sz3 rfl rfl ⟨by omega,by omega⟩)<|cy rfl rfl (fun _ hle=>Y0.loadL 9003 sc3 rfl rfl (Zd5 p (show i<8 by omega))) ?_
      refine cy rfl rfl (fun _ hle=>Y0.move rfl)<|cy rfl rfl (fun _ hle=>Y0.eq (Y0.add rfl rfl) (congrArg (Value.int .i64) e2))<|cy rfl rfl (fun _ hle=>Y0.idxA0 underlying44 sz3 rfl rfl ⟨by omega,by omega⟩)<|cy rfl rfl (fun _ hle=>Y0.loadL 9003 sc3 rfl rfl (Zd5 p (show i+1<8 by omega)))<|cy rfl rfl (fun _ hle=>Y0.gtr rfl rfl)<|Chain.tail0 hb ?_
      refine yy (Y0.pickT rfl rfl) rfl<|WL.nil<|WE.nx<|WE.then<|WC.condD (p:=getF p ((i+1:Nat):Int)<getF p (i:Int)) rfl (fun hc=>?_) (fun hc=>?_)
      . have ha:ascF p (i+1)=ascF p i:=by show (if _ then _ else _)=_; rw[if_pos hc]
        refine WC.skip<|WE.then<|WC.block<|WC.region<|mv rfl rfl<|yy (Y0.sub rfl rfl) rfl ?_
        rw[e3]
        exact sg rfl rfl<|WL.nil<|WE.inBlock<|WE.backH (x:=i+1) i ⟨by omega,by rw[<- ha]; exact hasc⟩ (fc rfl (fc rfl (fc rfl (fc rfl fn)))) (fun w hs=>hs) (Nat.lt_succ_self i)
      have ha:ascF p (i+1)=some i:=by show (if _ then _ else _)=_; rw[if_neg hc]
      exact WC.exit<|WE.thenExit<|WE.thenExit<|WE.exitHere<|WE.midH (i+1) ⟨hk,.inr ⟨i,rfl,by rw[<- hasc]; exact ha⟩⟩ (fc rfl (fc rfl (fc rfl (fc (by rw[e1]; rfl) fn)))) (fun w hs=>hs)
    rintro k ⟨hk,hkk⟩
    refine WC.seq<|sr<|mv rfl rfl<|yy (Y0.lss rfl rfl) rfl<|nx ?_
    refine WC.condD (p:=(k:Int)-1<0) rfl (fun hc=>?_) (fun hc=>?_)
    . have hnone:ascF p (n-1)=none:=by
        rcases hkk with ⟨_,h⟩|⟨i,hi,_⟩
        . exact h
        omega
      have hend:(permsL n)[j+1]? = none:=by rw[hch]; unfold nextF; rw[hnone]
      have hjl2:(permsL n).length=j+1:=by have:=List.getElem?_eq_none_iff.1 hend; omega
      refine WC.ret<|WE.thenRet<|WE.inBlockRet<|WE.thenRet<|WE.inBlockRet ?_
      exact WE.conseq (S':=St w0 G0 G1 (Lc s')) (fun w hs=>hs.weaken (hno s' _)) (WE.ret0 rfl ⟨rfl,s',by rw[hjl2]; exact hI',rfl,hp'⟩)
    obtain⟨i,rfl,hasc⟩:∃ i,k=i+1/\ascF p (n-1)=some i:=by
      rcases hkk with ⟨h,_⟩|h
      . omega
      exact h
    have e1:((i+1:Nat):Int)-1=(i:Int):=by omega
    obtain⟨hin,hge⟩:=ZhK hasc
    rw[e1]
    refine WC.skip<|WE.then<|sr<|yy (Y0.loadG sc3 rfl (hle01 _ _ _ hb)) rfl<|yy (Y0.sub rfl rfl) rfl ?_
    rw[hw1]
    refine sg rfl rfl<|nx<|WC.seqH (X:=Nat) (fun m=>[(0,.func (.yield yl) #[] #[]),(1,.pointer (some ⟨b,0,none⟩)),(3,.pointer (some ⟨b3,0,none⟩)),(5,.int .i64 (i:Int)),(6,.int .i64 (m:Int))])
      (fun m=>m<=n-1/\geF p (getF p (i:Int)) (n-1)=m) (fun _=>St w0 G0 G1 ((9003,some ⟨b3,.cells (pmv p) 44 (0,0),0⟩)::Lc s')) ?_ ?_
    . refine WC.block<|WC.loopH (X:=Nat) (fun m=>[(0,.func (.yield yl) #[] #[]),(1,.pointer (some ⟨b,0,none⟩)),(3,.pointer (some ⟨b3,0,none⟩)),(5,.int .i64 (i:Int)),(6,.int .i64 (m:Int))])
        (fun m=>i+1<=m/\m<=n-1/\geF p (getF p (i:Int)) (n-1)=geF p (getF p (i:Int)) m) (fun _=>St w0 G0 G1 ((9003,some ⟨b3,.cells (pmv p) 44 (0,0),0⟩)::Lc s')) (fun m=>m) (n-1) (fc rfl (fc rfl (fc rfl (fc rfl (fc rfl fn))))) ⟨by omega,Nat.le_refl _,rfl⟩ (fun w hs=>hs) ?_
      rintro m ⟨him,hm,hgem⟩
      obtain⟨m,rfl⟩:∃ q,m=q+1:=⟨m-1,by omega⟩
      have e3:i64.wrap (((m+1:Nat):Int)-1)=(m:Int):=by rw[IntKind.wrap_i64]; omega
      refine WC.seq<|WC.seq ?_
      refine WC.drawn [false,false,false,false,false,false] mix (by kernel_rfl) (fun hb=>?_)
      refine cn (fun _ hle=>Y0.move rfl)<|cn (fun _ hle=>Y0.idxA0 underlying44 sz3 rfl rfl ⟨by omega,by omega⟩)<|cn (fun _ hle=>Y0.loadL 9003 sc3 rfl rfl (Zd5 p (show m+1<8 by omega))) ?_
      refine cn (fun _ hle=>Y0.move rfl)<|cn (fun _ hle=>Y0.idxA0 underlying44 sz3 rfl rfl ⟨by omega,by omega⟩)<|cn (fun _ hle=>Y0.loadL 9003 sc3 rfl rfl (Zd5 p (show i<8 by omega)))<|Chain.tail0 hb ?_
      refine yy (Y0.lss rfl rfl) rfl<|WL.nil<|WE.nx<|WE.then<|WC.condD (p:=getF p ((m+1:Nat):Int)<getF p (i:Int)) rfl (fun hc=>?_) (fun hc=>?_)
      . have ha:geF p (getF p (i:Int)) (m+1)=geF p (getF p (i:Int)) m:=by show (if _ then _ else _)=_; rw[if_pos hc]
        have hne:i+1≠m+1:=fun e=>by rw[<- e] at hc; omega
        refine WC.skip<|WE.then<|WC.block<|WC.region<|mv rfl rfl<|yy (Y0.sub rfl rfl) rfl ?_
        rw[e3]
        exact sg rfl rfl<|WL.nil<|WE.inBlock<|WE.backH (x:=m+1) m ⟨by omega,by omega,by rw[hgem,ha]⟩ (fc rfl (fc rfl (fc rfl (fc rfl (fc rfl fn))))) (fun w hs=>hs) (Nat.lt_succ_self m)
      have ha:geF p (getF p (i:Int)) (m+1)=m+1:=by show (if _ then _ else _)=_; rw[if_neg hc]
      exact WC.exit<|WE.thenExit<|WE.thenExit<|WE.exitHere<|WE.midH (m+1) ⟨hm,by rw[hgem,ha]⟩ (fc rfl (fc rfl (fc rfl (fc rfl (fc rfl fn))))) (fun w hs=>hs)
    rintro m ⟨hm,hgem⟩
    have e4:i64.wrap ((i:Int)+1)=((i+1:Nat):Int):=by rw[IntKind.wrap_i64]; omega
    have hnext:(permsL n)[j+1]? = some (revF (swF p i m) (i+1) (n-(i+1)) ((n-(i+1)) / 2)):=by rw[hch]; unfold nextF; rw[hasc]; dsimp only; rw[hgem]
    refine WC.seq<|WC.drawn [false,true,false,false,false,false,false,false,false] mix (by kernel_rfl) (fun hbx=>?_)
    refine cn (fun _ hle=>Y0.move rfl)<|Chain.float Zd (Y0.move rfl)<|cn (fun _ hle=>Y0.move rfl)<|cn (fun _ hle=>Y0.idxA0 underlying44 sz3 rfl rfl ⟨by omega,by omega⟩)<|cn (fun _ hle=>Y0.loadL 9003 sc3 rfl rfl (Zd5 p (show m<8 by omega))) ?_
    refine cn (fun _ hle=>Y0.move rfl)<|cn (fun _ hle=>Y0.idxA0 underlying44 sz3 rfl rfl ⟨by omega,by omega⟩)<|cn (fun _ hle=>Y0.loadL 9003 sc3 rfl rfl (Zd5 p (show i<8 by omega)))<|cn (fun _ hle=>Y0.idxA0 underlying44 sz3 rfl rfl ⟨by omega,by omega⟩)<|Chain.tail0 hbx ?_
    refine WL.storeL 9003 (pmv (setF p i (getF p (m:Int)))) Zd sz3 rfl rfl rfl (by rw[ZB]; omega) rfl (ZcR _ _ _ _ _) ?_
    refine yy (Y0.idxA0 underlying44 sz3 rfl rfl ⟨by omega,by omega⟩) rfl ?_
    refine WL.storeL 9003 (pmv (swF p i m)) Zd sz3 rfl rfl rfl (by rw[ZB]; omega) rfl (ZcR _ _ _ _ _) ?_
    refine WL.nil<|WE.nx<|WE.then<|WC.region<|mv rfl rfl<|yy (Y0.eq (Y0.add rfl rfl) (congrArg (Value.int .i64) e4)) rfl<|yy (Y0.loadG sc3 rfl (hle01 _ _ _ hb)) rfl<|yy (Y0.slArr underlying44 sz3 rfl rfl rfl (show i+1<8 by omega) (show i+1<=n by omega) (show n<=8 by omega)) rfl ?_
    refine WL.callT Zd rfl (YC.of E107 rfl) (Zke b3 (i+1) (n-(i+1)) (8-(i+1)) (swF p i m) (by omega)) rfl trivial (lc rfl ln) hz0 (fun v G2 L2 hle2 hpost=>?_)
    obtain⟨rfl,rfl⟩:=hpost
    refine WL.nil<|WE.inBlock<|WE.backH (x:=(j,p,s,G)) (j+1,_,s',G2) ⟨hnext,hI',Mem.le_trans hle01 hle2,hmono _ _ _ hle2 hp'⟩ (fc rfl (fc rfl (fc rfl fn))) (fun w hs=>hs.weaken (fun q z hq=>?_)) (by show (permsL n).length-(j+1)<(permsL n).length-j; omega)
    simp only[Lo.without,List.map_cons,List.map_nil,List.cons_append,List.nil_append,Lo.Zh] at hq ⊢
    split at hq
    . rename_i e; rw[if_pos e]; exact hq
    rename_i e; simp only[if_neg e]; exact hq
abbrev coreV(c:Ze)(q:Option Addr×Nat×Option Addr×Nat):List Value:=[.int .i64 c.n,.slice q.1 c.eqs.length q.2.1,.slice q.2.2.1 c.neqs.length q.2.2.2]
abbrev CanonT:=Ze×(Option Addr×Nat×Option Addr×Nat)×(Fin 8->Int)×ByteArray
theorem Zhw(k1:Ze)(k1eqsp:Option Addr)(k1eqsc:Nat)(k1neqsp:Option Addr)(k1neqsc:Nat)(r:Ze×(Fin 8->Int))(hr:(ZdM k1).Ret r):Ctr prog 18 #[.agg ([.int .i64 k1.n,.slice k1eqsp k1.eqs.length k1eqsc,.slice k1neqsp k1.neqs.length k1neqsc]).toArray] (fun G=>SlR RP G (.slice k1eqsp k1.eqs.length k1eqsc) k1.eqs/\SlR RP G (.slice k1neqsp k1.neqs.length k1neqsc) k1.neqs)
    (fun G v=>∃ zr0eqsp zr0eqsc zr0neqsp zr0neqsc,v = .tuple #[.agg ([.int .i64 r.1.n,.slice zr0eqsp r.1.eqs.length zr0eqsc,.slice zr0neqsp r.1.neqs.length zr0neqsc]).toArray,.agg (vecG (Value.int .i64) 8 r.2).toArray]/\SlR RP G (.slice zr0eqsp r.1.eqs.length zr0eqsc) r.1.eqs/\SlR RP G (.slice zr0neqsp r.1.neqs.length zr0neqsc) r.1.neqs):=by
  obtain⟨⟨hn1,hn4⟩,fin,hfin,hr⟩:=hr
  replace hr:_=r:=hr
  subst hr
  obtain⟨n,hn⟩:∃ n:Nat,k1.n=n:=⟨k1.n.toNat,by omega⟩
  rw[hn,Int.toNat_natCast] at hfin
  refine CtrL.enterM (args:=[_]) (N:=45) func18 rfl rfl rfl (fun w0 G0 hL0 hpre=>?_)
  obtain⟨k1eqsh,k1neqsh⟩:=hpre
  refine sr<|WL.box 1 Zd rfl rfl (fun b1=>?_)
  refine WL.alloc 2 Zd z28 rfl (fun b2=>WL.alloc 3 Zd z44 rfl (fun b3=>nr<|WL.alloc 4 Zd z28 rfl (fun b4=>nr<|WL.alloc 5 Zd z44 rfl (fun b5=>nr<|WL.alloc 6 Zd z9 rfl (fun b6=>?_)))))
  refine WL.storeL 6 #[.string ByteArray.empty] Zd sz9 rfl rfl rfl Nat.zero_lt_one rfl rfl ?_
  refine nx<|WC.seq<|sr<|yy (Y0.Zg6 rfl) rfl<|yy (Y0.loadL 1 sc3 rfl rfl rfl) rfl ?_
  refine WL.call Zd rfl (YC.of E54 rfl) (Zmc k1.n) rfl trivial (fun v G1 hle1 hpost=>?_)
  obtain⟨bn,rfl,hbn⟩:=hpost
  rw[hn] at hbn
  refine nx ?_
  refine WC.rangeAll (t:=14) (f:=106) rfl E106 (fun ac d lp rec ha hst hpe htm hps has hbo=>?_)
  let Lc:CanonT->Lo:=fun s=>[(8001,some ⟨lp,.loop rec,0⟩),(8002,some ⟨d,.deferred (some []),0⟩),(1,some ⟨b1,.cells ([.int .i64 k1.n,.slice k1eqsp k1.eqs.length k1eqsc,.slice k1neqsp k1.neqs.length k1neqsc]:List Value).toArray 28 (0,0),0⟩),(2,some ⟨b2,.cells (coreV ⟨0,[],[]⟩ (none,0,none,0)).toArray 28 (0,0),0⟩),(3,some ⟨b3,.cells (pmv fun _=>0) 44 (0,0),0⟩),
    (4,some ⟨b4,.cells (coreV s.1 s.2.1).toArray 28 (0,0),0⟩),(5,some ⟨b5,.cells (pmv s.2.2.1) 44 (0,0),0⟩),(6,some ⟨b6,.cells #[.string s.2.2.2] 9 (0,0),0⟩)]
  refine⟨_,Lc (⟨0,[],[]⟩,(none,0,none,0),fun _=>0,ByteArray.empty),_,lc rfl (lc rfl (lc rfl (lc rfl (lc rfl (lc rfl (lc rfl (lc rfl ln))))))),fun i _=>by rw[hL0]; rfl,
    Zk4 bn n (by omega) (by omega) lp (fun j s=>(canonL k1 ((permsL n).drop j) (s.1,s.2.2)).Ret fin) Lc (fun s G=>SlR RP G (.slice k1eqsp k1.eqs.length k1eqsc) k1.eqs/\SlR RP G (.slice k1neqsp k1.neqs.length k1neqsc) k1.neqs/\SlR RP G (.slice s.2.1.1 s.1.eqs.length s.2.1.2.1) s.1.eqs/\SlR RP G (.slice s.2.1.2.2.1 s.1.neqs.length s.2.1.2.2.2) s.1.neqs)
      (fun s i hi=>?_) (fun G G' s hle ⟨q1,q2,q3,q4⟩=>⟨q1.mono hle,q2.mono hle,q3.mono hle,q4.mono hle⟩) (fun j u s hj hI=>?_) _ (by rw[List.drop_zero]; exact hfin) ?_,⟨hbn,k1eqsh.mono hle1,k1neqsh.mono hle1,SlR.nil _ _,SlR.nil _ _⟩,fun G' L' v hle hpost=>?_⟩
  . simp only[Lc]
    rw[Lo.Zh,if_neg (by omega),Lo.Zh,if_neg (by omega),Lo.Zh,if_neg (by omega),Lo.Zh,if_neg (by omega),Lo.Zh,if_neg (by omega),Lo.Zh,if_neg (by omega),Lo.Zh,if_neg (by omega),Lo.Zh,if_neg (by omega)]; rfl
  . refine YCtr.ZiV (N:=45) rfl hst hpe hps (by rw[htm]; exact ha.round (by decide)) (fun w0' G hL' hG=>?_)
    obtain⟨⟨hk1,hk2,hs1,hs2⟩,p,hp,rfl⟩:=hG
    obtain⟨c,q,f,key⟩:=s
    dsimp only at hI hs1 hs2 ⊢
    rw[List.drop_eq_getElem_cons hj,show (permsL n)[j]=p by rw[List.getElem?_eq_getElem hj] at hp; exact Option.some.inj hp] at hI
    obtain⟨st',⟨yv1,hyv1,yv2,hyv2,yv3,hyv3,hr⟩,hI'⟩:=hI
    refine Zht has ?_
    refine WCI.region Zge rfl (WL.alloc 7 Zd z44 rfl (fun b7=>?_))
    refine WL.storeLA 7 Zd sz44 rfl rfl rfl (ZB _ _ _) (ZB _ _ _) (fun u hu=>ZdS _ _ _ (fun _=>rfl) u (by simpa using hu))<|WL.nil (fun a1 v1 ha1 hs1'=>⟨_,_,_,ha1,hs1',rfl,?_⟩)
    refine Zht hbo ?_
    refine WCI.block<|WCI.seq ?_
    refine WCI.drawn (Zct (ZaD ZaE)) rfl [false,false,false,false,false,false,false,false,false,false,false,false,false,true,false] mix (by kernel_rfl) (fun hb=>?_)
    refine cn (fun _ hle=>Y0.Zg6 rfl)<|cn (fun _ hle=>Y0.loadL 1 sc3 rfl rfl rfl)<|cn (fun _ hle=>Y0.ZiH rfl)<|cn (fun _ hle=>Y0.loadL 1 sc25 rfl rfl rfl)<|cn (fun _ hle=>Y0.loadLA 7 ag44 rfl rfl (ZB _ _ _)) ?_
    refine Chain.callU (post:=fun G v=>∃ yv1p yv1c,v = .slice yv1p yv1.length yv1c/\SlR (Rp.sl Zj) G (.slice yv1p yv1.length yv1c) yv1) (fun _=>Zd) (fun _ _=>YC.of E55 rfl) (Zdh _ _ _ _ _ hyv1) rfl (fun G' hle=>(hk1.mono hle)) (fun v G1 G2 hle h=>?_) ?_
    . obtain⟨yv1p,yv1c,rfl,yv1h⟩:=h
      exact⟨_,_,rfl,yv1h.mono hle⟩
    refine cu (fun _ _ hle=>Y0.ZiI rfl)<|cu (fun _ _ hle=>Y0.loadL 1 sc25 rfl rfl rfl)<|cu (fun _ _ hle=>Y0.loadLA 7 ag44 rfl rfl (ZB _ _ _)) ?_
    refine Chain.callU (post:=fun G v=>∃ yv2p yv2c,v = .slice yv2p yv2.length yv2c/\SlR (Rp.sl Zj) G (.slice yv2p yv2.length yv2c) yv2) (fun _=>Zd) (fun _ _=>YC.of E55 rfl) (Zdh _ _ _ _ _ hyv2) rfl (fun G' hle=>(hk2.mono hle)) (fun v G1 G2 hle h=>?_) ?_
    . obtain⟨yv2p,yv2c,rfl,yv2h⟩:=h
      exact⟨_,_,rfl,yv2h.mono hle⟩
    refine Chain.callUU (f:=12) (φ:=fun G v=>∃ yv3r0eqsp yv3r0eqsc yv3r0neqsp yv3r0neqsc,v = .tuple #[.agg ([.int .i64 yv3.1.n,.slice yv3r0eqsp yv3.1.eqs.length yv3r0eqsc,.slice yv3r0neqsp yv3.1.neqs.length yv3r0neqsc]).toArray,.int .i64 yv3.2]/\SlR (Rp.sl Zj) G (.slice yv3r0eqsp yv3.1.eqs.length yv3r0eqsc) yv3.1.eqs/\SlR (Rp.sl Zj) G (.slice yv3r0neqsp yv3.1.neqs.length yv3r0neqsc) yv3.1.neqs) (fun _=>Zd) (fun v G1 G2 hle h=>?_) (fun u G' hle hu=>?_) ?_
    . obtain⟨yv3r0eqsp,yv3r0eqsc,yv3r0neqsp,yv3r0neqsc,rfl,yv3r0eqsh,yv3r0neqsh⟩:=h
      exact⟨_,_,_,_,rfl,yv3r0eqsh.mono hle,yv3r0neqsh.mono hle⟩
    . obtain⟨⟨yv2p,yv2c,yv2hu,yv2h⟩,⟨yv1p,yv1c,yv1hu,yv1h⟩,_⟩:=(show (fun G v=>∃ yv2p yv2c,v = .slice yv2p yv2.length yv2c/\SlR (Rp.sl Zj) G (.slice yv2p yv2.length yv2c) yv2) G'.m (u 25)/\(fun G v=>∃ yv1p yv1c,v = .slice yv1p yv1.length yv1c/\SlR (Rp.sl Zj) G (.slice yv1p yv1.length yv1c) yv1) G'.m (u 21)/\True from hu)
      exact⟨_,_,_,fun _=>YC.of E12 rfl,Z0 _ _ _ _ _ _ _ _ hyv3,(by simp only[yv2hu,yv1hu] <;> rfl),⟨yv1h,yv2h⟩⟩
    refine Chain.y0UU (φ:=fun G v=>∃ p1 p1c p2 p2c,v = .tuple #[.agg ([.int .i64 yv3.1.n,.slice p1 yv3.1.eqs.length p1c,.slice p2 yv3.1.neqs.length p2c]).toArray,.int .i64 yv3.2]/\SlR (Rp.sl Zj) G (.slice p1 yv3.1.eqs.length p1c) yv3.1.eqs/\SlR (Rp.sl Zj) G (.slice p2 yv3.1.neqs.length p2c) yv3.1.neqs) (fun _=>Zd) (fun v G1 G2 hle h=>?_) (fun u G' hle hu=>?_) ?_
    . obtain⟨p1,p1c,p2,p2c,rfl,p1h,p2h⟩:=h
      exact⟨_,_,_,_,rfl,p1h.mono hle,p2h.mono hle⟩
    . obtain⟨⟨yv3r0eqsp,yv3r0eqsc,yv3r0neqsp,yv3r0neqsc,yv3hu,yv3r0eqsh,yv3r0neqsh⟩,_,_,_⟩:=(show (fun G v=>∃ yv3r0eqsp yv3r0eqsc yv3r0neqsp yv3r0neqsc,v = .tuple #[.agg ([.int .i64 yv3.1.n,.slice yv3r0eqsp yv3.1.eqs.length yv3r0eqsc,.slice yv3r0neqsp yv3.1.neqs.length yv3r0neqsc]).toArray,.int .i64 yv3.2]/\SlR (Rp.sl Zj) G (.slice yv3r0eqsp yv3.1.eqs.length yv3r0eqsc) yv3.1.eqs/\SlR (Rp.sl Zj) G (.slice yv3r0neqsp yv3.1.neqs.length yv3r0neqsc) yv3.1.neqs) G'.m (u 26)/\True/\True/\True from hu)
      simp only[undFr,yv3hu]
      exact⟨_,Y0.move rfl,yv3r0eqsp,yv3r0eqsc,yv3r0neqsp,yv3r0neqsc,rfl,yv3r0eqsh,yv3r0neqsh⟩
    refine Chain.y0UU (φ:=fun G v=>∃ p3 p3c p4 p4c,v = .agg ([.int .i64 yv3.1.n,.slice p3 yv3.1.eqs.length p3c,.slice p4 yv3.1.neqs.length p4c]).toArray/\SlR (Rp.sl Zj) G (.slice p3 yv3.1.eqs.length p3c) yv3.1.eqs/\SlR (Rp.sl Zj) G (.slice p4 yv3.1.neqs.length p4c) yv3.1.neqs) (fun _=>Zd) (fun v G1 G2 hle h=>?_) (fun u G' hle hu=>?_) ?_
    . obtain⟨p3,p3c,p4,p4c,rfl,p3h,p4h⟩:=h
      exact⟨_,_,_,_,rfl,p3h.mono hle,p4h.mono hle⟩
    . obtain⟨⟨p1,p1c,p2,p2c,yv4hu,p1h,p2h⟩,_,_,_,_⟩:=(show (fun G v=>∃ p1 p1c p2 p2c,v = .tuple #[.agg ([.int .i64 yv3.1.n,.slice p1 yv3.1.eqs.length p1c,.slice p2 yv3.1.neqs.length p2c]).toArray,.int .i64 yv3.2]/\SlR (Rp.sl Zj) G (.slice p1 yv3.1.eqs.length p1c) yv3.1.eqs/\SlR (Rp.sl Zj) G (.slice p2 yv3.1.neqs.length p2c) yv3.1.neqs) G'.m (u 15)/\True/\True/\True/\True from hu)
      simp only[undFr,yv4hu]
      exact⟨_,Y0.extract rfl rfl,p1,p1c,p2,p2c,rfl,p1h,p2h⟩
    refine Chain.floatUD (c:=.int .i64 yv3.2) (fun _=>Zd) (fun u G' hle hu=>?_) ?_
    . obtain⟨_,⟨p1,p1c,p2,p2c,yv4hu,p1h,p2h⟩,_,_,_,_⟩:=(show True/\(fun G v=>∃ p1 p1c p2 p2c,v = .tuple #[.agg ([.int .i64 yv3.1.n,.slice p1 yv3.1.eqs.length p1c,.slice p2 yv3.1.neqs.length p2c]).toArray,.int .i64 yv3.2]/\SlR (Rp.sl Zj) G (.slice p1 yv3.1.eqs.length p1c) yv3.1.eqs/\SlR (Rp.sl Zj) G (.slice p2 yv3.1.neqs.length p2c) yv3.1.neqs) G'.m (u 15)/\True/\True/\True/\True from hu)
      simp only[undFr,yv4hu]
      exact Y0.extract rfl rfl
    refine Chain.alloc (fun _=>Zd) z28 ?_
    refine Chain.tailX6 (fun z1v yv5v yv4v yv3v yv2v yv1v X1 X1le z1post yv5post yv4post yv3post yv2post yv1post=>?_)
    obtain⟨b8,rfl,z1hb⟩:=z1post
    obtain⟨p3,p3c,p4,p4c,rfl,p3h,p4h⟩:=yv5post
    obtain⟨p1,p1c,p2,p2c,rfl,p1h,p2h⟩:=yv4post
    obtain⟨yv3r0eqsp,yv3r0eqsc,yv3r0neqsp,yv3r0neqsc,rfl,yv3r0eqsh,yv3r0neqsh⟩:=yv3post
    obtain⟨yv2p,yv2c,rfl,yv2h⟩:=yv2post
    obtain⟨yv1p,yv1c,rfl,yv1h⟩:=yv1post
    refine WL.adopt z1hb (WL.unX (show WL _ _ _ _ _ _ (St _ _ X1.m _) from ?_))
    refine WL.storeLA 8 Zd sz28 rfl rfl rfl rfl rfl (List.all_eq_true.1 rfl) ?_
    refine sg rfl rfl<|WL.nil ?_
    refine WE.nx ?_
    refine WCI.then<|WCI.seq<|WCI.seq<|WCI.region (Zct (Zct (ZaD ZaE))) rfl<|mv rfl rfl<|yy (Y0.neq rfl rfl) rfl<|WL.nil<|WCI.then ?_
    refine WCI.condD (p:=¬ yv3.2=0) rfl (fun hc1=>?_) (fun hc1=>?_)
    . replace hr:=hr.pos hc1
      replace hr:_=st':=hr
      subst hr
      refine WCI.exit<|WE.thenExit<|WE.exitHere ?_
      exact fun a2 w2 _ hs3=>⟨_,_,Lc (c,q,f,key),hs3,rfl,lc rfl (lc rfl (lc rfl (lc rfl (lc rfl (lc rfl (lc rfl (lc rfl ln))))))),rfl,(c,q,f,key),hI',rfl,hk1.mono X1le,hk2.mono X1le,hs1.mono X1le,hs2.mono X1le⟩
    replace hr:=hr.neg hc1
    obtain⟨yv6,hyv6,hr⟩:=hr
    refine WCI.skip<|WCI.then<|WCI.seq<|WCI.region (Zct (ZaD ZaE)) rfl<|yy (Y0.loadLA 8 ag28 rfl rfl rfl) rfl ?_
    refine WL.call0 Zd rfl (YC.of E56 rfl) (Zji _ _ _ _ _ _ hyv6) rfl (⟨p3h,p4h⟩) ?_
    refine sg rfl rfl<|WL.nil<|WCI.then<|WCI.seq<|WCI.region (Zct (ZaD ZaE)) rfl<|yy (Y0.loadL 6 sc9 rfl rfl rfl) rfl ?_
    refine WL.caseY0 (p:=key=ByteArray.empty) Zd (Y0.eqlS underlying9 rfl rfl) rfl (fun hb1=>?_) (fun hb1=>?_)
    . replace hr:=hr.pos hb1
      replace hr:_=st':=hr
      subst hr
      refine mv rfl rfl<|sf rfl rfl rfl<|sf rfl rfl rfl<|sf rfl rfl rfl<|yy (Y0.pickT rfl rfl) rfl<|WL.nil<|WCI.then ?_
      refine WCI.cond (b:=true) rfl (fun _=>?_) (fun h=>by cases h)
      refine WCI.drawnB (ZaD ZaE) rfl [(7,some ⟨b7,.cells (pmv p) 44 (0,0),0⟩)] (lc rfl ln) [false,true,true] mix (by kernel_rfl) (fun hb=>?_)
      refine cn (fun _ hle=>Y0.loadLA 8 ag28 rfl rfl rfl) ?_
      refine Chain.floatB Zd (Y0.loadLA 7 ag44 rfl rfl (ZB _ _ _))<|Chain.floatB Zd (Y0.move rfl) ?_
      refine Chain.tailB hb<|WLT.one (fun w hs=>hs.weaken (lc rfl ln)) ?_
      refine WL.storeLA 4 Zd sz28 rfl rfl rfl rfl rfl (List.all_eq_true.1 rfl)<|WLT.back<|WLT.one (fun w hs=>hs.weaken (lc rfl ln)) ?_
      refine WL.storeLA 5 Zd sz44 rfl rfl rfl (ZB _ _ _) (ZB _ _ _) (fun u hu=>ZdS _ _ _ (fun _=>rfl) u (by simpa using hu))<|WLT.back ?_
      refine WLT.storeL (fun w hs=>hs.weaken (lc rfl ln)) 6 #[.string yv6] Zd sz9 rfl rfl rfl Nat.zero_lt_one rfl rfl<|WLT.nil (fun w hs=>hs.weaken (lc rfl ln))<|WE.nx<|WE.inBlock ?_
      exact fun a2 w2 _ hs3=>⟨_,_,Lc (yv3.1,(p3,p3c,p4,p4c),p,yv6),hs3,rfl,lc rfl (lc rfl (lc rfl (lc rfl (lc rfl (lc rfl (lc rfl (lc rfl ln))))))),rfl,(yv3.1,(p3,p3c,p4,p4c),p,yv6),hI',rfl,hk1.mono X1le,hk2.mono X1le,p3h,p4h⟩
    replace hr:=hr.neg hb1
    refine mv rfl rfl<|gy rfl rfl (Y0.move rfl) rfl<|gy rfl rfl (Y0.loadL 6 sc9 rfl rfl rfl) rfl<|gy rfl rfl (Y0.lssS rfl rfl) rfl<|yy (Y0.pickF rfl rfl) rfl<|WL.nil<|WCI.then ?_
    refine WCI.cond (b:=Op.bytesLess yv6.toList key.toList) rfl (fun hc2=>?_) (fun hc2=>?_)
    . replace hr:=hr.pos hc2
      replace hr:_=st':=hr
      subst hr
      refine WCI.drawnB (ZaD ZaE) rfl [(7,some ⟨b7,.cells (pmv p) 44 (0,0),0⟩)] (lc rfl ln) [false,true,true] mix (by kernel_rfl) (fun hb=>?_)
      refine cn (fun _ hle=>Y0.loadLA 8 ag28 rfl rfl rfl) ?_
      refine Chain.floatB Zd (Y0.loadLA 7 ag44 rfl rfl (ZB _ _ _))<|Chain.floatB Zd (Y0.move rfl) ?_
      refine Chain.tailB hb<|WLT.one (fun w hs=>hs.weaken (lc rfl ln)) ?_
      refine WL.storeLA 4 Zd sz28 rfl rfl rfl rfl rfl (List.all_eq_true.1 rfl)<|WLT.back<|WLT.one (fun w hs=>hs.weaken (lc rfl ln)) ?_
      refine WL.storeLA 5 Zd sz44 rfl rfl rfl (ZB _ _ _) (ZB _ _ _) (fun u hu=>ZdS _ _ _ (fun _=>rfl) u (by simpa using hu))<|WLT.back ?_
      refine WLT.storeL (fun w hs=>hs.weaken (lc rfl ln)) 6 #[.string yv6] Zd sz9 rfl rfl rfl Nat.zero_lt_one rfl rfl<|WLT.nil (fun w hs=>hs.weaken (lc rfl ln))<|WE.nx<|WE.inBlock ?_
      exact fun a2 w2 _ hs3=>⟨_,_,Lc (yv3.1,(p3,p3c,p4,p4c),p,yv6),hs3,rfl,lc rfl (lc rfl (lc rfl (lc rfl (lc rfl (lc rfl (lc rfl (lc rfl ln))))))),rfl,(yv3.1,(p3,p3c,p4,p4c),p,yv6),hI',rfl,hk1.mono X1le,hk2.mono X1le,p3h,p4h⟩
    replace hr:=hr.neg (Bool.eq_false_iff.1 hc2)
    replace hr:_=st':=hr
    subst hr
    refine WCI.skip<|WE.inBlock ?_
    exact fun a2 w2 _ hs3=>⟨_,_,Lc (c,q,f,key),hs3,rfl,lc rfl (lc rfl (lc rfl (lc rfl (lc rfl (lc rfl (lc rfl (lc rfl ln))))))),rfl,(c,q,f,key),hI',rfl,hk1.mono X1le,hk2.mono X1le,hs1.mono X1le,hs2.mono X1le⟩
  . intro q hq x hx
    simp only[Lc,List.mem_cons,List.not_mem_nil,or_false] at hq
    rcases hq with rfl|rfl|rfl|rfl|rfl|rfl|rfl|rfl <;> cases hx <;> rfl
  obtain⟨rfl,⟨c,q,f,key⟩,hI,rfl,hq1,hq2,hq3,hq4⟩:=hpost
  dsimp only at hI hq3 hq4
  rw[List.drop_length] at hI
  replace hI:(c,f,key)=fin:=hI
  subst hI
  refine⟨rfl,WCD.seq<|WCD.drawnB [(5,some ⟨b5,.cells (pmv f) 44 (0,0),0⟩)] (lc rfl ln) [false,true] mix (by kernel_rfl) (fun hb=>?_)⟩
  refine cn (fun _ hle=>Y0.loadLA 4 ag28 rfl rfl rfl) ?_
  refine Chain.floatB Zd (Y0.loadLA 5 ag44 rfl rfl (ZB _ _ _)) ?_
  refine Chain.tailB hb<|WLT.one (fun w hs=>hs.weaken (lc rfl ln)) ?_
  refine WL.storeLA 2 Zd sz28 rfl rfl rfl rfl rfl (List.all_eq_true.1 rfl)<|WLT.back<|WLT.one (fun w hs=>hs.weaken (lc rfl ln)) ?_
  refine WL.storeLA 3 Zd sz44 rfl rfl rfl (ZB _ _ _) (ZB _ _ _) (fun u hu=>ZdS _ _ _ (fun _=>rfl) u (by simpa using hu))<|WLT.back<|WLT.nil (fun w hs=>hs.weaken (lc rfl ln))<|WE.nx<|WCD.then<|WCD.ret ?_
  refine WE.retD (rvs:=[.cell 2 28,.cell 3 44]) [] [.agg (coreV c q).toArray,.agg (pmv f)] rfl rfl rfl (fun i rv v e1 e2=>?_) ln ⟨_,_,_,_,rfl,hq3,hq4⟩
  match i with
  | 0=>simp at e1 e2; subst e1 e2; exact RV.cellA (i:=2) ag28 rfl rfl rfl
  | 1=>simp at e1 e2; subst e1 e2; exact RV.cellA (i:=3) ag44 rfl rfl (ZB _ _ _)
  | i+2=>simp at e1
theorem dP'{u M x A p r}(hr:(ZcE u M).Ret r):CtrL prog 168 #[.slice x u.length A,.int .u64 M] [(5000,p)] (fun G=>RowR (Rp.int .u8) 5 G (.slice x u.length A) u p) (fun G L v=>∃ U X C,L=[(5000,C)]/\v = .slice U r.length X/\RowR (Rp.int .u8) 5 G (.slice U r.length X) r C):=by
 refine cd' (args:=[_,_]) (N:=21) func168 z z z (fun J t D K=>?_)
 have Y:=K
 refine sr<|sx0 z z<|g'<|ab' (fun (⟨m,o,n,h,j,l⟩:(List Int)×Option Addr×Nat×Option Ow×Int×Mem)=>[(0,.slice o m.length n),(1,.int .u64 j)]) (fun ⟨m,o,n,h,j,l⟩=>Mem.le t l/\RowR (Rp.int .u8) 5 l (.slice o m.length n) m h/\(Zbw m j).Ret r) (fun ⟨m,o,n,h,j,l⟩=>St J t l [(5000,h)]) ?_ ?_
 .refine y' ?_
  let y:(((List Int)×Int))->Prop:=fun oo=>((fun ov=>match ov with|(m,j)=>Zbw m j:(((List Int)×Int))->Cq (List Int)) oo).wp (fun a=>a=r)
  replace hr:(Cq.loop _ _).wp y:=hr
  refine ac' (Φ:=y) (fun (⟨k,g,i,c,d,f⟩:(List Int)×Option Addr×Nat×Option Ow×Int×Mem)=>((k,d):(List Int)×Int)) (fun ⟨k,g,i,c,d,f⟩=>[(0,.slice g k.length i),(1,.int .u64 d)]) (fun ⟨k,g,i,c,d,f⟩=>Mem.le t f/\RowR (Rp.int .u8) 5 f (.slice g k.length i) k c) (fun ⟨k,g,i,c,d,f⟩=>St J t f [(5000,c)]) ⟨u,x,A,p,M,t⟩ hr (f2 z z) ⟨mr,Y⟩ (w1 z) ?_
  .intro ai gx hx hr
   obtain⟨k,g,i,c,d,f⟩:=gx
   obtain⟨s,E⟩:=hx
   refine g'<|sr<|mv z z<|yy (aS' z z) z<|nx<|P' hr z (fun Z hr=>?_) (fun Z hr=>?_)
   .refine n'<|b'<|y'<|sr<|mv z z<|mv z z<|yy (bP' z z (by decide)) z<|yy (av' ad' aL' z) z<|yy (W' z z) z<|aF' (e:=5) (r:=(Rp.int .u8)) (vs:=#[(0,.int .u8 (u8.wrap ((u8.wrap (Int.tmod d 128))+128)))]) (cs:=[.int .u8 (u8.wrap ((u8.wrap (Int.tmod d 128))+128))]++([])) ([u8.wrap ((u8.wrap (Int.tmod d 128))+128)]:List Int) z z z z z (by decide) (fun _=>by kernel_rfl) ⟨[.int .u8 (u8.wrap ((u8.wrap (Int.tmod d 128))+128))],[],z,z,z⟩ (key:=999) z (by rw[D]; rfl) (fun p3 S q V=>?_)
    obtain⟨H,hr⟩:=hr
    refine dl' (r:=(Rp.int .u8)) (e:=5) 5000 z z cn' el5 z (by decide) z z (E.mono q) z V H fun p4 Q F aa=>sx0 z z<|x'<|mv z z<|yy (cV' z z (by decide)) z<|sg z z<|q'<|F'<|T' ⟨(k++[u8.wrap ((u8.wrap (Int.tmod d 128))+128)]),p4,Q,F,u64.wrap (Int.tdiv d 128),S⟩ hr ⟨(mx s q),aa⟩ (f2 z z) (w1 z)
   refine ae'<|h'<|h'<|I'<|af' ⟨k,g,i,c,d,f⟩ ⟨s,E,hr⟩ (f2 z z) (w1 z)
 rintro⟨m,o,n,h,j,l⟩ ⟨ab,R,hr⟩
 refine b'<|sr<|mv z z<|mv z z<|yy (av' ad' aL' z) z<|aF' (e:=5) (r:=(Rp.int .u8)) (vs:=#[(0,.int .u8 (u8.wrap j))]) (cs:=[.int .u8 (u8.wrap j)]++([])) ([u8.wrap j]:List Int) z z z z z (by decide) (fun _=>by kernel_rfl) ⟨[.int .u8 (u8.wrap j)],[],z,z,z⟩ (key:=999) z (by rw[D]; rfl) (fun p1 P B T=>?_)
 obtain⟨O,hr⟩:=hr
 refine dl' (r:=(Rp.int .u8)) (e:=5) 5000 z z cn' el5 z (by decide) z z (R.mono B) z T O fun p2 ah I W=>sx0 z z<|k' ?_
 obtain rfl:_=r:=hr
 refine cg' (S':=St J t P [(5000,I)]) (w1 z)<|j' z z ⟨_,_,_,z,z,W⟩
theorem fE'{e t g i d r}(hr:(ZgU e t).Ret r):CtrL prog 112 #[.slice g e.length i,i' t] [(5000,d)] (fun G=>RowR (Rp.int .u8) 5 G (.slice g e.length i) e d) (fun G L v=>∃ s u h,L=[(5000,h)]/\v = .slice s r.length u/\RowR (Rp.int .u8) 5 G (.slice s r.length u) r h):=by
 refine cd' (args:=[_,_]) (N:=20) func112 z z z (fun q E y l=>?_)
 have j:=l
 have hz:q.L.zero:=by
  rw[y]; intro p o x I
  simp only[List.mem_cons,List.not_mem_nil,or_false] at o
  subst o; exact df' j I
 refine sr<|sx0 z z<|g'<|sr<|mv z z<|yy (aa' z z) z<|nx<|P' hr z (fun A hr=>?_) (fun A hr=>?_)
 .exact (show False from hr).elim
 refine n'<|b'<|sr<|mv z z<|mv z z<|yy (av' aD' ad' z) z<|yy (dd' z z) z ?_
 obtain⟨J,m,hr⟩:=hr
 refine cf' z z (m' E168 z) (dP' m) z (j) (lc z ln) hz (fun D n C B c=>?_)
 obtain⟨H,F,f,rfl,rfl,k⟩:=c
 refine sx0 z z<|k' ?_
 obtain rfl:_=r:=hr
 refine cg' (S':=St q E n [(5000,f)]) (w1 z)<|j' z z ⟨_,_,_,z,z,k⟩
theorem eR'{F I K Q D j h r}(hr:(Zc0 F I).Ret r):CtrL prog 220 #[.slice K F.length Q,.agg ((v57' I j h)).toArray] [(5000,D)] (fun G=>RowR (Rp.int .u8) 5 G (.slice K F.length Q) F D/\sl (Rp.int .u32) G j h I.mag) (fun G L v=>∃ zp zc T,L=[(5000,T)]/\v = .slice zp r.length zc/\RowR (Rp.int .u8) 5 G (.slice zp r.length zc) r T):=by
 refine cd' (args:=[_,_]) (N:=46) func220 z z z (fun O B X ad=>?_)
 obtain⟨W,f⟩:=ad
 have hz:O.L.zero:=by
  rw[X]; intro p hp x hx
  simp only[List.mem_cons,List.not_mem_nil,or_false] at hp
  subst hp; exact df' W hx
 refine sr<|ai' 3 z z z fun S=>sg z z<|nr<|sx0 z z<|aO' (fun (⟨M,y⟩:Int×Mem)=>[(0,.slice K F.length Q),(3,pt0 S),(5,.int .u64 M)]) (fun ⟨M,y⟩=>Mem.le B y/\(Zck F I M).Ret r) (fun ⟨M,y⟩=>St O B y [(3,bk0 S (v57' I j h) 57),(5000,D)]) ?_ ?_
 .refine sr<|yy (aQ' z) z<|yy (o' 3 sc4 z z z) z<|nx<|aK' hr z (fun aj hr=>?_) (fun aj hr=>?_)
  .refine x'<|sg z z<|q'<|ax' ⟨1,B⟩ ⟨mr,hr⟩ (f3 z z z) (w2 z z)
  refine n'<|ax' ⟨0,B⟩ ⟨mr,hr⟩ (f3 z z z) (w2 z z)
 rintro⟨M,y⟩ ⟨g,hr⟩
 refine sr<|mv z z<|yy (as' z) z<|yy (o' 3 be' z z z) z<|yy (O' p' (f.mono g) z) z<|yy (av' aD' ad' z) z<|yy (dd' z z) z<|mv z z<|yy (W' z z) z ?_
 obtain⟨ag,af,hr⟩:=hr
 refine cf' z z (m' E168 z) (dP' af) z ((W.mono g)) (lc z ln) hz (fun aw J av t H=>?_)
 obtain⟨aa,Z,R,rfl,rfl,Y⟩:=H
 refine sx0 z z<|g'<|sr<|sx0 z z<|ab' (fun (⟨s,u,A,k,o⟩:(List Int)×Option Addr×Nat×Option Ow×Mem)=>[(0,.slice u s.length A)]) (fun ⟨s,u,A,k,o⟩=>Mem.le J o/\RowR (Rp.int .u8) 5 o (.slice u s.length A) s k/\(ZdF s).Ret r) (fun ⟨s,u,A,k,o⟩=>St O B o [(5000,k)]) ?_ ?_
 .refine y' ?_
  let P:(List Int)->Prop:=fun oo=>((fun ov=>match ov with|s=>ZdF s:(List Int)->Cq (List Int)) oo).wp (fun a=>a=r)
  replace hr:(Cq.loop _ _).wp P:=hr
  refine ac' (Φ:=P) (fun (⟨q,m,n,d,C,l⟩:(List Int)×Option Addr×Nat×Option Ow×Int×Mem)=>((q,C):(List Int)×Int)) (fun ⟨q,m,n,d,C,l⟩=>[(0,.slice m q.length n),(3,pt0 S),(6,i' C)]) (fun ⟨q,m,n,d,C,l⟩=>Mem.le J l/\RowR (Rp.int .u8) 5 l (.slice m q.length n) q d) (fun ⟨q,m,n,d,C,l⟩=>St O B l [(3,bk0 S (v57' I j h) 57),(5000,d)]) ⟨ag,aa,Z,R,0,J⟩ hr (f3 z z z) ⟨mr,Y⟩ (w2 z z) ?_
  .intro aA gx hx hr
   obtain⟨q,m,n,d,C,l⟩:=gx
   obtain⟨i,V⟩:=hx
   refine g'<|sr<|mv z z<|yy (as' z) z<|yy (o' 3 be' z z z) z<|yy (O' p' (f.mono (mx (mx g t) i)) z) z<|yy (aa' z z) z<|nx<|P' hr z (fun aq hr=>?_) (fun aq hr=>?_)
   .refine n'<|b'<|g'<|y'<|sr<|yy (as' z) z<|yy (o' 3 be' z z z) z<|mv z z ?_
    obtain⟨c,U,hr⟩:=hr
    refine yy (V' p' aP' (f.mono (mx (mx g t) i)) z z U) z<|yy (aj' bu' z (aJ' (J' (Z' f U) (mx (mx g t) i)))) z<|sx0 z z<|x'<|mv z z<|mv z z<|yy (Y0.shr z z (by decide)) z<|yy (av' ag' aL' z) z<|mv z z<|yy (Y0.shr z z (by decide)) z<|yy (av' ag' aL' z) z<|mv z z<|yy (Y0.shr z z (by decide)) z<|yy (av' ag' aL' z) z<|mv z z<|yy (av' ag' aL' z) z<|aF' (e:=5) (r:=(Rp.int .u8)) (vs:=#[(0,.int .u8 (u8.wrap (Int.fdiv c (2 ^ (min (24:Int).toNat u32.bits))))),(1,.int .u8 (u8.wrap (Int.fdiv c (2 ^ (min (16:Int).toNat u32.bits))))),(2,.int .u8 (u8.wrap (Int.fdiv c (2 ^ (min (8:Int).toNat u32.bits))))),(3,.int .u8 (u8.wrap c))]) (cs:=[.int .u8 (u8.wrap (Int.fdiv c (2 ^ (min (24:Int).toNat u32.bits))))]++([.int .u8 (u8.wrap (Int.fdiv c (2 ^ (min (16:Int).toNat u32.bits))))]++([.int .u8 (u8.wrap (Int.fdiv c (2 ^ (min (8:Int).toNat u32.bits))))]++([.int .u8 (u8.wrap c)]++([]))))) ([u8.wrap (Int.fdiv c (2 ^ (min (24:Int).toNat u32.bits))),u8.wrap (Int.fdiv c (2 ^ (min (16:Int).toNat u32.bits))),u8.wrap (Int.fdiv c (2 ^ (min (8:Int).toNat u32.bits))),u8.wrap c]:List Int) z z z z z (by decide) (fun _=>by kernel_rfl) ⟨[.int .u8 (u8.wrap (Int.fdiv c (2 ^ (min (24:Int).toNat u32.bits))))],[.int .u8 (u8.wrap (Int.fdiv c (2 ^ (min (16:Int).toNat u32.bits))))]++([.int .u8 (u8.wrap (Int.fdiv c (2 ^ (min (8:Int).toNat u32.bits))))]++([.int .u8 (u8.wrap c)]++([]))),z,z,⟨[.int .u8 (u8.wrap (Int.fdiv c (2 ^ (min (16:Int).toNat u32.bits))))],[.int .u8 (u8.wrap (Int.fdiv c (2 ^ (min (8:Int).toNat u32.bits))))]++([.int .u8 (u8.wrap c)]++([])),z,z,⟨[.int .u8 (u8.wrap (Int.fdiv c (2 ^ (min (8:Int).toNat u32.bits))))],[.int .u8 (u8.wrap c)]++([]),z,z,⟨[.int .u8 (u8.wrap c)],[],z,z,z⟩⟩⟩⟩ (key:=999) z (by rw[X]; rfl) (fun p1 ak E am=>?_)
    obtain⟨ae,hr⟩:=hr
    refine dl' (r:=(Rp.int .u8)) (e:=5) 5000 z z cn' el5 z (by decide) z z (V.mono E) z am ae fun p2 ah ab ap=>sg z z<|q'<|F'<|b'<|x'<|mv z z<|yy (W' z z) z<|sg z z<|q'<|T' ⟨(q++[u8.wrap (Int.fdiv c (2 ^ (min (24:Int).toNat u32.bits))),u8.wrap (Int.fdiv c (2 ^ (min (16:Int).toNat u32.bits))),u8.wrap (Int.fdiv c (2 ^ (min (8:Int).toNat u32.bits))),u8.wrap c]),p2,ah,ab,i64.wrap (C+1),ak⟩ hr ⟨(mx i E),ap⟩ (f3 z z z) (w2 z z)
   refine ae'<|h'<|h'<|I'<|af' ⟨q,m,n,d,l⟩ ⟨i,V,hr⟩ (f1 z) (w1 z)
 rintro⟨s,u,A,k,o⟩ ⟨ar,an,hr⟩
 refine b'<|sr<|mv z z<|sx0 z z<|k' ?_
 obtain rfl:_=r:=hr
 refine cg' (S':=St O B o [(5000,k)]) (w1 z)<|j' z z ⟨_,_,_,z,z,an⟩
theorem fo'{s h y B q f c e d r}(hr:(Zfb s h).Ret r):CtrL prog 198 #[.slice y s.length B,.agg ((v59' h f c e d)).toArray] [(5000,q)] (fun G=>RowR (Rp.int .u8) 5 G (.slice y s.length B) s q/\sl (Rp.int .u32) G f c h.num.mag/\sl (Rp.int .u32) G e d h.den.mag) (fun G L v=>∃ P Q A,L=[(5000,A)]/\v = .slice P r.length Q/\RowR (Rp.int .u8) 5 G (.slice P r.length Q) r A):=by
 refine cd' (args:=[_,_]) (N:=12) func198 z z z (fun M X R H=>?_)
 obtain⟨D,j,i⟩:=H
 have hz:M.L.zero:=by
  rw[R]; intro p K x hx
  simp only[List.mem_cons,List.not_mem_nil,or_false] at K
  subst K; exact df' D hx
 refine sr<|ai' 3 z z z fun b2=>sx0 z z<|g'<|WC.drawnBP (l:=permOps [0,1,2,4,5,3,6,7] _) (Zh9 (by kernel_rfl)) [(3,bk0 b2 (v59' h f c e d) 59)] (lc z ln) [ff,ff,ff,tt,tt] mix (by kernel_rfl) fun t=>cn (fun _ C=>c' z)<|cn (fun _ C=>bk' z)<|cn (fun _ C=>al' ((v57' h.num f c)).toArray 3 at' z z z (ap' ([]) ((v57' h.num f c)) ((v57' h.den e d))))<|ci' z (aY' z)<|ci' z (al' ((v57' h.den e d)).toArray 3 at' z z z (ap' ((v57' h.num f c)) ((v57' h.den e d)) ([])))<|Chain.tailB t<|cZ' (fun w k=>k.weaken (lc z ln)) ?_
 obtain⟨ag,J,hr⟩:=hr
 refine cf' z z (m' E220 z) (eR' J) z (⟨D,j⟩) (lc z ln) hz (fun U ae T g n=>?_)
 obtain⟨Z,Y,S,rfl,rfl,F⟩:=n
 refine cM'<|cZ' (fun w k=>(k.memLe t g).weaken (lc z ln)) ?_
 obtain⟨af,E,hr⟩:=hr
 refine cf' z z (m' E220 z) (eR' E) z (⟨F,(i.mono g)⟩) (lc z ln) hz (fun ad O ac m o=>?_)
 obtain⟨V,W,u,rfl,rfl,I⟩:=o
 refine cM'<|WLT.y0 (fun w k=>(k.memLe t (mx g m)).weaken (lc z ln)) z (Y0.assign z) z<|WLT.nil (fun w k=>(k.memLe t (mx g m)).weaken (lc z ln))<|am'<|b'<|k' ?_
 obtain rfl:_=r:=hr
 refine cg' (S':=St M X O [(5000,u)]) (w1 z)<|j' z z ⟨_,_,_,z,z,I⟩
theorem fP'{b1 T aj ar Y I P r}(hr:(Zgq b1 T).Ret r):CtrL prog 169 #[.slice aj b1.length ar,.slice I T.length P] [(5000,Y)] (fun G=>RowR (Rp.int .u8) 5 G (.slice aj b1.length ar) b1 Y/\sl a' G I P T) (fun G L v=>∃ zp zc aw,L=[(5000,aw)]/\v = .slice zp r.length zc/\RowR (Rp.int .u8) 5 G (.slice zp r.length zc) r aw):=by
 refine cd' (args:=[_,_]) (N:=40) func169 z z z (fun U G0 aS aL=>?_)
 obtain⟨am,y⟩:=aL
 have hz:U.L.zero:=by
  rw[aS]; intro p hp x W
  simp only[List.mem_cons,List.not_mem_nil,or_false] at hp
  subst hp; exact df' am W
 refine sr<|sg z z<|nr<|mv z z<|mv z z<|yy (O' C' y z) z<|yy (av' aD' ad' z) z ?_
 obtain⟨aX,aE,hr⟩:=hr
 refine cf' z z (m' E168 z) (dP' aE) z (am) (lc z ln) hz (fun a6 Z a4 f R=>?_)
 obtain⟨aK,aA,ac,rfl,rfl,aH⟩:=R
 refine sx0 z z<|g'<|sr<|sx0 z z<|ab' (fun (⟨H,K,M,h,t⟩:(List Int)×Option Addr×Nat×Option Ow×Mem)=>[(0,.slice K H.length M)]) (fun ⟨H,K,M,h,t⟩=>Mem.le Z t/\RowR (Rp.int .u8) 5 t (.slice K H.length M) H h/\(Zed H).Ret r) (fun ⟨H,K,M,h,t⟩=>St U G0 t [(5000,h)]) ?_ ?_
 .refine y' ?_
  let F:(List Int)->Prop:=fun oo=>((fun ov=>match ov with|H=>Zed H:(List Int)->Cq (List Int)) oo).wp (fun a=>a=r)
  replace hr:(Cq.loop _ _).wp F:=hr
  refine ac' (Φ:=F) (fun (⟨C,n,q,e,o,j⟩:(List Int)×Option Addr×Nat×Option Ow×Int×Mem)=>((C,o):(List Int)×Int)) (fun ⟨C,n,q,e,o,j⟩=>[(0,.slice n C.length q),(1,.slice I T.length P),(5,i' o)]) (fun ⟨C,n,q,e,o,j⟩=>Mem.le Z j/\RowR (Rp.int .u8) 5 j (.slice n C.length q) C e) (fun ⟨C,n,q,e,o,j⟩=>St U G0 j [(5000,e)]) ⟨aX,aK,aA,ac,0,Z⟩ hr (f3 z z z) ⟨mr,aH⟩ (w1 z) ?_
  .intro ak gx W hr
   obtain⟨C,n,q,e,o,j⟩:=gx
   obtain⟨c,al⟩:=W
   refine g'<|sr<|mv z z<|mv z z<|yy (O' C' (y.mono (mx f c)) z) z<|yy (aa' z z) z<|nx<|P' hr z (fun a0 hr=>?_) (fun a0 hr=>?_)
   .refine n'<|b'<|g'<|y'<|sr<|mv z z<|mv z z<|mv z z ?_
    obtain⟨x1,ax,hr⟩:=hr
    refine yy (V' C' aW' (y.mono (mx f c)) z z ax) z<|yy (aV' z) z ?_
    obtain⟨ap,au,av,ao,aP,O,J⟩:=ce' (J' (br' (aG' (Z' y ax))) (mx f c))
    refine yy (ao' _ bc' z z aP) z ?_
    obtain⟨aT,aF,hr⟩:=hr
    refine cf' z z (m' E198 z) (fo' aF) z (⟨al,O,J⟩) (lc z ln) hz (fun a5 X a3 E V=>?_)
    obtain⟨aG,ay,af,rfl,rfl,aN⟩:=V
    refine sg z z<|nr<|sx0 z z<|ab' (fun (⟨u,A,B,g,l⟩:(List Int)×Option Addr×Nat×Option Ow×Mem)=>[(0,.slice A u.length B),(1,.slice I T.length P),(5,i' o)]) (fun ⟨u,A,B,g,l⟩=>Mem.le X l/\RowR (Rp.int .u8) 5 l (.slice A u.length B) u g/\(Zee o u).wp (Out ak F)) (fun ⟨u,A,B,g,l⟩=>St U G0 l [(5000,g)]) ?_ ?_
    .refine y' ?_
     let aa:(List Int)->Prop:=fun oo=>((fun ov=>match ov with|u=>Zee o u:(List Int)->Cq (((List Int)×Int)⊕(List Int))) oo).wp (Out ak F)
     replace hr:(Cq.loop _ _).wp aa:=hr
     refine ac' (Φ:=aa) (fun (⟨D,m,s,d,Q,i⟩:(List Int)×Option Addr×Nat×Option Ow×Int×Mem)=>((D,Q):(List Int)×Int)) (fun ⟨D,m,s,d,Q,i⟩=>[(0,.slice m D.length s),(1,.slice I T.length P),(5,i' o),(6,i' Q)]) (fun ⟨D,m,s,d,Q,i⟩=>Mem.le X i/\RowR (Rp.int .u8) 5 i (.slice m D.length s) D d) (fun ⟨D,m,s,d,Q,i⟩=>St U G0 i [(5000,d)]) ⟨aT,aG,ay,af,0,X⟩ hr (f4 z z z z) ⟨mr,aN⟩ (w1 z) ?_
     .intro a8 gx W hr
      obtain⟨D,m,s,d,Q,i⟩:=gx
      obtain⟨k,aq⟩:=W
      refine g'<|sr<|mv z z<|yy (aa' z z) z<|nx<|P' hr z (fun aU hr=>?_) (fun aU hr=>?_)
      .refine n'<|b'<|g'<|y'<|x'<|mv z z<|mv z z<|mv z z<|mv z z ?_
       obtain⟨x2,ai,hr⟩:=hr
       refine yy (V' C' aW' (y.mono (mx (mx (mx f c) E) k)) z z ai) z<|yy (aM' z) z ?_
       obtain⟨an,hr⟩:=hr
       refine yy (Y0.idxA ar' sz3 z z an) z<|yy (aj' sc3 z (dQ' (J' (bq' (aG' (Z' y ai))) (mx (mx (mx f c) E) k)) an)) z<|yy (av' aD' ad' z) z ?_
       obtain⟨aV,aI,hr⟩:=hr
       refine cf' z z (m' E168 z) (dP' aI) z (aq) (lc z ln) hz (fun a2 aW a7 ah S=>?_)
       obtain⟨az,aJ,ag,rfl,rfl,aC⟩:=S
       refine sg z z<|q'<|F'<|b'<|x'<|mv z z<|yy (W' z z) z<|sg z z<|q'<|T' ⟨aV,az,aJ,ag,i64.wrap (Q+1),aW⟩ hr ⟨(mx k ah),aC⟩ (f4 z z z z) (w1 z)
      refine ae'<|h'<|h'<|I'<|af' ⟨D,m,s,d,i⟩ ⟨k,aq,hr⟩ (f3 z z z) (w1 z)
    rintro⟨u,A,B,g,l⟩ ⟨ad,aO,hr⟩
    refine F'<|b'<|x'<|mv z z<|yy (W' z z) z<|sg z z<|q'<|T' ⟨u,A,B,g,i64.wrap (o+1),l⟩ hr ⟨(mx (mx c E) ad),aO⟩ (f3 z z z) (w1 z)
   refine ae'<|h'<|h'<|I'<|af' ⟨C,n,q,e,j⟩ ⟨c,al,hr⟩ (f1 z) (w1 z)
 rintro⟨H,K,M,h,t⟩ ⟨a1,aY,hr⟩
 refine b'<|sr<|mv z z<|sx0 z z<|k' ?_
 obtain rfl:_=r:=hr
 refine cg' (S':=St U G0 t [(5000,h)]) (w1 z)<|j' z z ⟨_,_,_,z,z,aY⟩
theorem eS'{D J K P C B A r}(hr:(ZdW D J).Ret r):CtrL prog 111 #[.slice K D.length P,.slice B J.length A] [(5000,C)] (fun G=>RowR (Rp.int .u8) 5 G (.slice K D.length P) D C/\sl (Rp.sl a') G B A J) (fun G L v=>∃ zp zc M,L=[(5000,M)]/\v = .slice zp r.length zc/\RowR (Rp.int .u8) 5 G (.slice zp r.length zc) r M):=by
 refine cd' (args:=[_,_]) (N:=24) func111 z z z (fun H V am Z=>?_)
 obtain⟨R,q⟩:=Z
 have hz:H.L.zero:=by
  rw[am]; intro p hp x hx
  simp only[List.mem_cons,List.not_mem_nil,or_false] at hp
  subst hp; exact df' R hx
 refine sr<|sg z z<|nr<|mv z z<|mv z z<|yy (O' M' q z) z<|yy (av' aD' ad' z) z ?_
 obtain⟨ae,ac,hr⟩:=hr
 refine cf' z z (m' E168 z) (dP' ac) z (R) (lc z ln) hz (fun aq u ap l s=>?_)
 obtain⟨Y,X,F,rfl,rfl,W⟩:=s
 refine sx0 z z<|g'<|sr<|sx0 z z<|ab' (fun (⟨k,n,m,e,h⟩:(List Int)×Option Addr×Nat×Option Ow×Mem)=>[(0,.slice n k.length m)]) (fun ⟨k,n,m,e,h⟩=>Mem.le u h/\RowR (Rp.int .u8) 5 h (.slice n k.length m) k e/\(ZdE k).Ret r) (fun ⟨k,n,m,e,h⟩=>St H V h [(5000,e)]) ?_ ?_
 .refine y' ?_
  let y:(List Int)->Prop:=fun oo=>((fun ov=>match ov with|k=>ZdE k:(List Int)->Cq (List Int)) oo).wp (fun a=>a=r)
  replace hr:(Cq.loop _ _).wp y:=hr
  refine ac' (Φ:=y) (fun (⟨j,g,i,c,o,f⟩:(List Int)×Option Addr×Nat×Option Ow×Int×Mem)=>((j,o):(List Int)×Int)) (fun ⟨j,g,i,c,o,f⟩=>[(0,.slice g j.length i),(1,.slice B J.length A),(5,i' o)]) (fun ⟨j,g,i,c,o,f⟩=>Mem.le u f/\RowR (Rp.int .u8) 5 f (.slice g j.length i) j c) (fun ⟨j,g,i,c,o,f⟩=>St H V f [(5000,c)]) ⟨ae,Y,X,F,0,u⟩ hr (f3 z z z) ⟨mr,W⟩ (w1 z) ?_
  .intro ay gx hx hr
   obtain⟨j,g,i,c,o,f⟩:=gx
   obtain⟨d,Q⟩:=hx
   refine g'<|sr<|mv z z<|mv z z<|yy (O' M' (q.mono (mx l d)) z) z<|yy (aa' z z) z<|nx<|P' hr z (fun an hr=>?_) (fun an hr=>?_)
   .refine n'<|b'<|g'<|y'<|x'<|mv z z<|mv z z<|mv z z ?_
    obtain⟨x1,O,hr⟩:=hr
    refine yy (V' M' cj' (q.mono (mx l d)) z z O) z ?_
    obtain⟨p1,az,ah,ak⟩:=bl' (J' (Z' q O) (mx l d))
    refine yy (aj' bU' z (ah)) z ?_
    obtain⟨ad,S,hr⟩:=hr
    refine cf' z z (m' E169 z) (fP' S) z (⟨Q,ak⟩) (lc z ln) hz (fun ax ai aw I t=>?_)
    obtain⟨T,U,E,rfl,rfl,ab⟩:=t
    refine sg z z<|q'<|F'<|b'<|x'<|mv z z<|yy (W' z z) z<|sg z z<|q'<|T' ⟨ad,T,U,E,i64.wrap (o+1),ai⟩ hr ⟨(mx d I),ab⟩ (f3 z z z) (w1 z)
   refine ae'<|h'<|h'<|I'<|af' ⟨j,g,i,c,f⟩ ⟨d,Q,hr⟩ (f1 z) (w1 z)
 rintro⟨k,n,m,e,h⟩ ⟨ao,af,hr⟩
 refine b'<|sr<|mv z z<|sx0 z z<|k' ?_
 obtain rfl:_=r:=hr
 refine cg' (S':=St H V h [(5000,e)]) (w1 z)<|j' z z ⟨_,_,_,z,z,af⟩
theorem ZgR(y:(List Int))(q:Ze)(B:Option Addr)(D:Nat)(u:Option Ow)(g:Option Addr)(h:Nat)(d:Option Addr)(e:Nat)(r:(List Int))(hr:(ZdD y q).Ret r):CtrL prog 58 #[.slice B y.length D,.agg ((v28' q g h d e)).toArray] [(5000,u)] (fun G=>RowR (Rp.int .u8) 5 G (.slice B y.length D) y u/\sl (Rp.sl a') G g h q.eqs/\sl (Rp.sl a') G d e q.neqs) (fun G L v=>∃ S U C,L=[(5000,C)]/\v = .slice S r.length U/\RowR (Rp.int .u8) 5 G (.slice S r.length U) r C):=by
 refine cd' (args:=[_,_]) (N:=15) func58 z z z (fun R G0 V M=>?_)
 obtain⟨F,s,n⟩:=M
 have hz:R.L.zero:=by
  rw[V]; intro p Q x hx
  simp only[List.mem_cons,List.not_mem_nil,or_false] at Q
  subst Q; exact df' F hx
 refine sr<|ai' 3 z z z fun b2=>sx0 z z<|g'<|WC.drawnBP (l:=permOps [0,1,2,4,5,7,8,3,6,9,10] _) (Zh9 (by kernel_rfl)) [(3,bk0 b2 (v28' q g h d e) 28)] (lc z ln) [ff,ff,ff,tt,tt,tt,tt] mix (by kernel_rfl) fun t=>cn (fun _ E=>c' z)<|cn (fun _ E=>co' z)<|cn (fun _ E=>o' 3 sc3 z z z)<|ci' z (cR' z)<|ci' z (o' 3 sc25 z z z)<|ci' z (cB' z)<|ci' z (o' 3 sc25 z z z)<|Chain.tailB t<|cZ' (fun w i=>i.weaken (lc z ln)) ?_
 obtain⟨ap,P,hr⟩:=hr
 refine cf' z z (m' E112 z) (fE' P) z (F) (lc z ln) hz (fun Z an Y c m=>?_)
 obtain⟨ah,ae,X,rfl,rfl,K⟩:=m
 refine cM'<|cZ' (fun w i=>(i.memLe t c).weaken (lc z ln)) ?_
 obtain⟨ao,H,hr⟩:=hr
 refine cf' z z (m' E111 z) (eS' H) z (⟨K,(s.mono c)⟩) (lc z ln) hz (fun am ar al f o=>?_)
 obtain⟨aa,ab,W,rfl,rfl,O⟩:=o
 refine cM'<|cZ' (fun w i=>(i.memLe t (mx c f)).weaken (lc z ln)) ?_
 obtain⟨aq,J,hr⟩:=hr
 refine cf' z z (m' E111 z) (eS' J) z (⟨O,(n.mono (mx c f))⟩) (lc z ln) hz (fun ai T af j k=>?_)
 obtain⟨ac,ag,A,rfl,rfl,I⟩:=k
 refine cM'<|WLT.y0 (fun w i=>(i.memLe t (mx (mx c f) j)).weaken (lc z ln)) z (Y0.assign z) z<|WLT.nil (fun w i=>(i.memLe t (mx (mx c f) j)).weaken (lc z ln))<|am'<|b'<|k' ?_
 obtain rfl:_=r:=hr
 refine cg' (S':=St R G0 T [(5000,A)]) (w1 z)<|j' z z ⟨_,_,_,z,z,I⟩
theorem ZaG(a1 b1:Ze)(a1eqsp:Option Addr)(a1eqsc:Nat)(a1neqsp:Option Addr)(a1neqsc:Nat)(b1eqsp:Option Addr)(b1eqsc:Nat)(b1neqsp:Option Addr)(b1neqsc:Nat)(r:Bool)(hr:(Zal a1 b1).Ret r):Ctr prog 20 #[.agg ([.int .i64 a1.n,.slice a1eqsp a1.eqs.length a1eqsc,.slice a1neqsp a1.neqs.length a1neqsc]).toArray,.agg ([.int .i64 b1.n,.slice b1eqsp b1.eqs.length b1eqsc,.slice b1neqsp b1.neqs.length b1neqsc]).toArray] (fun G=>SlR (Rp.sl Zj) G (.slice a1eqsp a1.eqs.length a1eqsc) a1.eqs/\SlR (Rp.sl Zj) G (.slice a1neqsp a1.neqs.length a1neqsc) a1.neqs/\SlR (Rp.sl Zj) G (.slice b1eqsp b1.eqs.length b1eqsc) b1.eqs/\SlR (Rp.sl Zj) G (.slice b1neqsp b1.neqs.length b1neqsc) b1.neqs) (fun G v=>v = .bool r):=by
  refine Ctr.enter (args:=[_,_]) (N:=14) func20 rfl rfl rfl (fun w0 G0 hL0 hpre=>?_)
  obtain⟨a1eqsh,a1neqsh,b1eqsh,b1neqsh⟩:=hpre
  refine sr ?_
  refine WL.box 2 Zd rfl rfl (fun b1'=>?_)
  refine WL.box 3 Zd rfl rfl (fun b2'=>?_)
  refine sg rfl rfl<|nx<|WC.seq ?_
  obtain⟨yv1,hyv1,yv2,hyv2,hr⟩:=hr
  replace hr:_=r:=hr
  subst hr
  refine WC.drawn [false,false,false,false,false,false,false,false,false] mix (by kernel_rfl) (fun hb=>?_)
  refine Chain.litOwn (r:=Rp.int .u8) (e:=5) ([]:List Int) (fun _=>Zd) rfl (by decide) (fun u G' hle hu=>?_) ?_
  . exact⟨#[],[],rfl,rfl,fun _=>by kernel_rfl,rfl⟩
  refine cu (fun _ _ hle=>Y0.loadLA 2 ag28 rfl rfl rfl) ?_
  refine Chain.callEatR (f:=58) (kk:=5) (r:=Rp.int .u8) (e:=5) (xs:=([]:List Int)) (r':=Rp.int .u8) (e':=5) yv1 (fun _=>Zd) rfl (by kernel_rfl) (by kernel_rfl) (fun u G' hle hu=>?_) ?_
  . obtain⟨yu,_⟩:=(show (RowX (Rp.int .u8) 5 5 ([]:List Int)) (u 5) G'/\True from hu)
    exact⟨u 5,yu,fun p c tk e1 h1=>⟨_,_,_,fun _=>YC.of E58 rfl,ZgR _ _ p c tk _ _ _ _ _ hyv1,by simp only[undFr,e1] <;> rfl,h1,a1eqsh.mono hle,a1neqsh.mono hle⟩⟩
  refine Chain.y0UD (c:=.string (bytesOf yv1)) (fun _=>Zd) (fun u G' hle hu=>?_) ?_
  . obtain⟨⟨p,c,e1,h1⟩,_⟩:=(show SlX (Rp.int .u8) yv1 G'.m (u 7)/\_ from hu)
    simp only[undFr,e1]
    exact Y0.convBS underlying35 underlying5 underlying9 h1 rfl
  refine Chain.litOwn (r:=Rp.int .u8) (e:=5) ([]:List Int) (fun _=>Zd) rfl (by decide) (fun u G' hle hu=>?_) ?_
  . exact⟨#[],[],rfl,rfl,fun _=>by kernel_rfl,rfl⟩
  refine cu (fun _ _ hle=>Y0.loadLA 3 ag28 rfl rfl rfl) ?_
  refine Chain.callEatR (f:=58) (kk:=9) (r:=Rp.int .u8) (e:=5) (xs:=([]:List Int)) (r':=Rp.int .u8) (e':=5) yv2 (fun _=>Zd) rfl (by kernel_rfl) (by kernel_rfl) (fun u G' hle hu=>?_) ?_
  . obtain⟨yu,_⟩:=(show (RowX (Rp.int .u8) 5 9 ([]:List Int)) (u 9) G'/\_ from hu)
    exact⟨u 9,yu,fun p c tk e1 h1=>⟨_,_,_,fun _=>YC.of E58 rfl,ZgR _ _ p c tk _ _ _ _ _ hyv2,by simp only[undFr,e1] <;> rfl,h1,b1eqsh.mono hle,b1neqsh.mono hle⟩⟩
  refine Chain.y0UD (c:=.string (bytesOf yv2)) (fun _=>Zd) (fun u G' hle hu=>?_) ?_
  . obtain⟨⟨p,c,e1,h1⟩,_⟩:=(show SlX (Rp.int .u8) yv2 G'.m (u 11)/\_ from hu)
    simp only[undFr,e1]
    exact Y0.convBS underlying35 underlying5 underlying9 h1 rfl
  refine Chain.y0U (c:=.bool (decide (bytesOf yv1=bytesOf yv2))) (fun _=>Zd) (fun u G' hle=>Y0.eqlS underlying9 rfl rfl) ?_
  refine Chain.tailX4 (fun v4 v3 v2 v1 X Xle h4 h3 h2 h1=>?_)
  refine WL.unX (show WL _ _ _ _ _ _ (St w0 G0 X.m _) from ?_)
  refine sg rfl rfl<|WL.nil<|WE.nx<|WE.then<|WC.ret ?_
  exact WE.ret1 rfl rfl rfl
theorem dm'{g k j r}(hr:(Zab g).Ret r):Ctr prog 170 #[.slice k g.length j] (fun G=>sl (Rp.int .u32) G k j g) (wl' (Rp.int .u32) r):=by
 refine H' (args:=[_]) (N:=21) func170 z z z (fun s l E p=>?_)
 have i:=p
 refine sr<|sg z z<|nr<|mv z z<|yy (O' p' i z) z<|sx0 z z<|g'<|ab' (fun (⟨h,f⟩:Int×Mem)=>[(0,.slice k g.length j),(3,i' h)]) (fun ⟨h,f⟩=>Mem.le l f/\(Zea g h).Ret r) (fun ⟨h,f⟩=>St s l f []) ?_ ?_
 .refine y' ?_
  let m:Int->Prop:=fun A=>((fun x=>match x with|h=>Zea g h:Int->Cq (List Int)) A).wp (fun a=>a=r)
  replace hr:(Cq.loop _ _).wp m:=hr
  refine ac' (Φ:=m) (fun (⟨e,c⟩:Int×Mem)=>(e:Int)) (fun ⟨e,c⟩=>[(0,.slice k g.length j),(3,i' e)]) (fun ⟨e,c⟩=>Mem.le l c) (fun ⟨e,c⟩=>St s l c []) ⟨(g.length:Int),l⟩ hr (f2 z z) mr (wk ln) ?_
  .intro C y B hr
   obtain⟨e,c⟩:=y
   have d:=B
   refine g'<|sr<|mv z z<|aE' hr z (aS' z z) z (fun u hr=>?_) (fun u hr=>?_)
   .refine mv z z<|gy z z (c' z) z<|gy z z (c' z) z<|gy z z (ba' z z) z ?_
    obtain⟨H,o,hr⟩:=hr
    refine gy z z (V' p' aP' (i.mono d) z z o) z<|gy z z (aj' bu' z (aJ' (J' (Z' i o) d))) z<|gy z z (aH' z z) z<|yy (w' z z) z<|nx<|P' hr z (fun v hr=>?_) (fun v hr=>?_)
    .refine n'<|b'<|y'<|x'<|mv z z<|yy (ba' z z) z<|sg z z<|q'<|F'<|T' ⟨i64.wrap (e-1),c⟩ hr d (f2 z z) (wk ln)
    refine ae'<|h'<|h'<|I'<|af' ⟨e,c⟩ ⟨d,hr⟩ (f2 z z) (wk ln)
   refine mv z z<|sn6 z<|yy (t' z z) z<|nx<|bw' z<|ae'<|h'<|h'<|I'<|af' ⟨e,c⟩ ⟨d,hr⟩ (f2 z z) (wk ln)
 rintro⟨h,f⟩ ⟨n,hr⟩
 refine b'<|sr<|mv z z<|mv z z ?_
 obtain⟨q,hr⟩:=hr
 refine WL.sliceRH (r:=(Rp.int .u32)) z z p' aP' z (i.mono n) z z q fun F D t=>sx0 z z<|k' ?_
 obtain rfl:_=r:=hr
 exact j' z z ⟨_,_,z,t⟩
theorem dL'{c r}(hr:(Zbf c).Ret r):Ctr prog 115 #[.int .u64 c] (fun G=>True) (wl' (Rp.int .u32) r):=by
 refine H' (args:=[_]) (N:=11) func115 z z z fun v t i o=>sr<|sg z z<|nr<|mv z z<|yy (bP' z z (by decide)) z<|yy (av' ad' ag' z) z<|mv z z<|yy (cV' z z (by decide)) z<|yy (av' ad' ag' z) z<|aF' (e:=182) (r:=(Rp.int .u32)) (vs:=#[(0,.int .u32 (u32.wrap (Int.tmod c 4294967296))),(1,.int .u32 (u32.wrap (u64.wrap (Int.tdiv c 4294967296))))]) (cs:=[.int .u32 (u32.wrap (Int.tmod c 4294967296))]++([.int .u32 (u32.wrap (u64.wrap (Int.tdiv c 4294967296)))]++([]))) ([u32.wrap (Int.tmod c 4294967296),u32.wrap (u64.wrap (Int.tdiv c 4294967296))]:List Int) z z z z z (by decide) (fun _=>by kernel_rfl) ⟨[.int .u32 (u32.wrap (Int.tmod c 4294967296))],[.int .u32 (u32.wrap (u64.wrap (Int.tdiv c 4294967296)))]++([]),z,z,⟨[.int .u32 (u32.wrap (u64.wrap (Int.tdiv c 4294967296)))],[],z,z,z⟩⟩ (key:=999) z (by rw[i]; rfl) (fun u p k h=>?_)
 obtain⟨q,g,hr⟩:=hr
 refine N' z z (m' E170 z) (dm' g) z (h) (fun l s j d=>?_)
 obtain⟨n,m,rfl,f⟩:=d
 refine sx0 z z<|k' ?_
 obtain rfl:_=r:=hr
 exact j' z z ⟨_,_,z,f⟩
theorem cw'{h m k j r}(hr:(Zaa h m).Ret r):Ctr prog 114 #[.bool h,.slice k m.length j] (fun G=>sl (Rp.int .u32) G k j m) (w57' r):=by
 refine H' (args:=[_,_]) (N:=16) func114 z z z (fun A y u l=>?_)
 have o:=l
 refine sr<|X' 4 z z57 z fun x=>nr<|mv z z ?_
 obtain⟨c,n,hr⟩:=hr
 refine N' z z (m' E170 z) (dm' n) z (o) (fun s t q g=>?_)
 obtain⟨e,d,rfl,f⟩:=g
 refine sg z z<|nr<|aE' hr z (db' (c' z) (congrArg Value.bool (bdec _))) z (fun p hr=>?_) (fun p hr=>?_)
 .refine mv z z<|gy z z (c' z) z<|gy z z (O' p' f z) z<|gy z z (aS' z z) z<|yy (w' z z) z<|mv z z<|yy (au' (vs:=#[(0,.bool (decide (0<(c.length:Int)))),(1,.slice e c.length d)]) (v:=.agg ([.bool (decide (0<(c.length:Int))),.slice e c.length d]).toArray) z z (fun _=>by kernel_rfl)) z<|B' 4 z bn' z z z z z (List.all_eq_true.1 z)<|nx<|k' ?_
  obtain rfl:_=r:=hr
  exact j' z (aw' (i:=4) at' z z z) ⟨_,_,z,f⟩
 refine mv z z<|sn3 z<|yy (t' z z) z<|mv z z<|yy (au' (vs:=#[(0,.bool false),(1,.slice e c.length d)]) (v:=.agg ([.bool false,.slice e c.length d]).toArray) z z (fun _=>by kernel_rfl)) z<|B' 4 z bn' z z z z z (List.all_eq_true.1 z)<|nx<|k' ?_
 obtain rfl:_=r:=hr
 exact j' z (aw' (i:=4) at' z z z) ⟨_,_,z,f⟩
theorem di'{u r}(hr:(Zem u).Ret r):Ctr prog 61 #[i' u] (fun G=>True) (w57' r):=by
 refine H' (args:=[_]) (N:=16) func61 z z z fun Y X V K=>sr<|X' 2 z z57 z fun W=>nx<|g'<|sr<|mv z z<|yy (aa' z z) z<|nx<|P' hr z (fun v hr=>?_) (fun v hr=>?_)
 .refine sr<|mv z z<|yy (W' z z) z<|yy (Y0.neg z) z<|yy (av' cp' ad' z) z<|yy (W' z z) z ?_
  obtain⟨Q,o,hr⟩:=hr
  refine N' z z (m' E115 z) (dL' o) z (trivial) (fun C M B d=>?_)
  obtain⟨I,F,rfl,n⟩:=d
  obtain⟨O,j,hr⟩:=hr
  refine N' z z (m' E114 z) (cw' j) z (n) (fun L T A g=>?_)
  obtain⟨s,q,rfl,e⟩:=g
  refine B' 2 z bn' z z z z z (List.all_eq_true.1 z)<|nx<|k'<|f' ?_
  obtain rfl:_=r:=hr
  exact j' z (aw' (i:=2) at' z z z) ⟨_,_,z,e⟩
 refine n'<|b'<|sr<|mv z z<|yy (av' cp' ad' z) z ?_
 obtain⟨S,m,hr⟩:=hr
 refine N' z z (m' E115 z) (dL' m) z (trivial) (fun J U y c=>?_)
 obtain⟨D,H,rfl,l⟩:=c
 obtain⟨P,k,hr⟩:=hr
 refine N' z z (m' E114 z) (cw' k) z (l) (fun E R x f=>?_)
 obtain⟨p,t,rfl,h⟩:=f
 refine B' 2 z bn' z z z z z (List.all_eq_true.1 z)<|nx<|k' ?_
 obtain rfl:_=r:=hr
 exact j' z (aw' (i:=2) at' z z z) ⟨_,_,z,h⟩
theorem cc'{q r}(hr:(Zas q).Ret r):Ctr prog 26 #[i' q] (fun G=>True) (w59' r):=by
 refine H' (args:=[_]) (N:=7) func26 z z z fun E D B u=>sr<|X' 2 z z59 z fun C=>nr<|mv z z ?_
 obtain⟨m,p,hr⟩:=hr
 refine N' z z (m' E61 z) (di' p) z (trivial) (fun t y s g=>?_)
 obtain⟨c,d,rfl,j⟩:=g
 obtain⟨l,o,hr⟩:=hr
 refine N' z z (m' E61 z) (di' o) z (trivial) (fun x A n k=>?_)
 obtain⟨f,e,rfl,h⟩:=k
 refine yy (au' (vs:=#[(0,.agg ((v57' m c d)).toArray),(1,.agg ((v57' l f e)).toArray)]) (v:=.agg ([.bool m.neg,.slice c m.mag.length d,.bool l.neg,.slice f l.mag.length e]).toArray) z z (fun _=>by kernel_rfl)) z<|B' 2 z ch' z z z z z (List.all_eq_true.1 z)<|nx<|k' ?_
 obtain rfl:_=r:=hr
 exact j' z (aw' (i:=2) bc' z z z) ⟨_,_,_,_,z,(j.mono n),h⟩
theorem ec'{f d c r}(hr:(ZeA f).Ret r):Ctr prog 121 #[.agg ((v57' f d c)).toArray] (fun G=>sl (Rp.int .u32) G d c f.mag) (fun G v=>v=i' r):=by
 refine H' (args:=[_]) (N:=9) func121 z z z (fun k l i g=>?_)
 have e:=g
 refine sr<|ai' 1 z z z fun j=>sx0 z z<|g'<|sr<|yy (aQ' z) z<|yy (o' 1 sc4 z z z) z<|nx<|aK' hr z (fun h hr=>?_) (fun h hr=>?_)
 .refine sr<|sx0 z z<|k'<|f' (k0' hr z z)
 refine n'<|b'<|sr<|yy (as' z) z<|yy (o' 1 be' z z z) z<|yy (O' p' e z) z<|yy (Y0.min2 z z) z<|sx0 z z<|k' (k0' hr z z)
theorem cT'{h d c f e r}(hr:(Zaz h).Ret r):Ctr prog 65 #[.agg ((v59' h d c f e)).toArray] (fun G=>sl (Rp.int .u32) G d c h.num.mag/\sl (Rp.int .u32) G f e h.den.mag) (fun G v=>v=i' r):=by
 refine H' (args:=[_]) (N:=6) func65 z z z (fun o p m j=>?_)
 obtain⟨g,i⟩:=j
 refine sr<|ai' 1 z z z fun n=>sg z z<|nr<|yy (bk' z) z<|yy (al' ((v57' h.num d c)).toArray 1 at' z z z (ap' ([]) ((v57' h.num d c)) ((v57' h.den f e)))) z ?_
 obtain⟨l,k,hr⟩:=hr
 refine K' z z (m' E121 z) (ec' k) z (g)<|sx0 z z<|k' (k0' hr z z)
theorem dn'{h g c d f r}(hr:(Zfa h).Ret r):Ctr prog 51 #[.agg ((v59' h g c d f)).toArray] (fun G=>sl (Rp.int .u32) G g c h.num.mag/\sl (Rp.int .u32) G d f h.den.mag) (wl' a' r):=by
 refine H' (args:=[_]) (N:=9) func51 z z z (fun y u n k=>?_)
 obtain⟨j,i⟩:=k
 refine sr<|ai' 1 z z z fun t=>sx0 z z<|g'<|sr<|yy (D' 1 bc' z z z) z ?_
 obtain⟨q,l,hr⟩:=hr
 refine K' z z (m' E65 z) (cT' l) z (⟨j,i⟩)<|yy (aH' z z) z<|nx<|P' hr z (fun o hr=>?_) (fun o hr=>?_)
 .refine sr<|sx0 z z<|k'<|f' ?_
  obtain rfl:_=r:=hr
  exact j' z z ⟨_,_,z,(ay' a' _)⟩
 refine n'<|b'<|sr<|yy (D' 1 bc' z z z) z<|yy (au' (vs:=#[(0,.agg ((v59' h g c d f)).toArray)]) (v:=.agg (((v59' h g c d f):List Value)++(vecG (Value.int .i64) 8 (fun _=>0))).toArray) z z (fun _=>by kernel_rfl)) z<|aF' (e:=119) (r:=a') (vs:=#[(0,.agg (((v59' h g c d f):List Value)++(vecG (Value.int .i64) 8 (fun _=>0))).toArray)]) (cs:=(((v59' h g c d f):List Value)++(vecG (Value.int .i64) 8 (fun _=>0)))++([])) ([(Za.mk h (fun _=>0))]:List Za) z z z z z (by decide) (fun _=>by kernel_rfl) ⟨((v59' h g c d f):List Value)++(vecG (Value.int .i64) 8 (fun _=>0)),[],z,⟨(v59' h g c d f),vecG (Value.int .i64) 8 (fun _=>0),z,⟨(v57' h.num g c),(v57' h.den d f),z,⟨[.bool h.num.neg],[.slice g h.num.mag.length c],z,z,⟨_,z,j⟩⟩,⟨[.bool h.den.neg],[.slice d h.den.mag.length f],z,z,⟨_,z,i⟩⟩⟩,z⟩,z⟩ (key:=999) z (by rw[n]; rfl) fun x s p m=>sx0 z z<|k' ?_
 obtain rfl:_=r:=hr
 exact j' z z ⟨_,_,z,m⟩
theorem eT'{l r}(hr:(Ze9 l).Ret r):Ctr prog 124 #[.agg (vecG (Value.int .i64) 8 l).toArray] (fun G=>True) (fun G v=>v = .bool r):=by
 refine H' (args:=[_]) (N:=18) func124 z z z fun o h B t=>sr<|ai' 1 z z z fun m=>sx0 z z<|g'<|sr<|sx0 z z<|ab' (fun (e:Mem)=>match e with|d=>[]) (fun (e:Mem)=>match e with|d=>Mem.le h d/\(ZdB).Ret r) (fun (e:Mem)=>match e with|d=>St o h d []) ?_ ?_
 .refine y' ?_
  let i:(Bool⊕Unit)->Prop:=fun x=>((fun u=>match u with | .inl rv1=>Cq.ret rv1 | .inr ()=>ZdB:(Bool⊕Unit)->Cq Bool) x).wp (fun a=>a=r)
  replace hr:(Cq.loop _ _).wp i:=hr
  refine ac' (Φ:=i) (fun (⟨f,c⟩:Int×Mem)=>(f:Int)) (fun ⟨f,c⟩=>[(1,pt0 m),(3,i' f)]) (fun ⟨f,c⟩=>Mem.le h c) (fun ⟨f,c⟩=>St o h c [(1,bk0 m (vecG (Value.int .i64) 8 l) 68)]) ⟨0,h⟩ hr (f2 z z) mr (w1 z) ?_
  .intro A e y hr
   obtain⟨f,c⟩:=e
   have g:=y
   refine g'<|sr<|mv z z<|yy (aa' z z) z<|nx<|P' hr z (fun q hr=>?_) (fun q hr=>?_)
   .refine n'<|b'<|g'<|y'<|sr<|mv z z ?_
    obtain⟨j,hr⟩:=hr
    refine yy (aT' ar' sz3 z z j) z<|yy (o' 1 sc3 z z (bh' _ _ _ j)) z<|aE' hr z (aa' z z) z (fun p hr=>?_) (fun p hr=>?_)
    .refine mv z z<|sn4 z<|yy (w' z z) z<|nx<|aB' z<|sr<|sx0 z z<|k'<|A'<|f'<|f'<|A'<|an'<|f' (k0' hr z z)
    refine mv z z<|gy z z (c' z) z ?_
    obtain⟨k,hr⟩:=hr
    refine gy z z (aT' ar' sz3 z z k) z<|gy z z (o' 1 sc3 z z (bh' _ _ _ k)) z<|gy z z (aS' z z) z<|yy (t' z z) z<|nx<|P' hr z (fun n hr=>?_) (fun n hr=>?_)
    .exact (show False from hr).elim
    refine n'<|F'<|b'<|x'<|mv z z<|yy (W' z z) z<|sg z z<|q'<|T' ⟨i64.wrap (f+1),c⟩ hr g (f2 z z) (w1 z)
   refine ae'<|h'<|h'<|I'<|af' c ⟨g,hr⟩ fn (wk ln)
 rintro d ⟨s,hr⟩
 refine b'<|sr<|sx0 z z<|k' (k0' hr z z)
theorem fU'{s k r}(hr:(Zhz s k).Ret r):Ctr prog 66 #[.agg (vecG (Value.int .i64) 8 s).toArray,.agg (vecG (Value.int .i64) 8 k).toArray] (fun G=>True) (fun G v=>v = .tuple #[.agg (vecG (Value.int .i64) 8 r.1).toArray,i' r.2]):=by
 refine H' (args:=[_,_]) (N:=24) func66 z z z fun B l Q I=>sr<|ai' 2 z z z fun n=>ai' 3 z z z fun y=>X' 4 z z68 z fun o=>sx0 z z<|g'<|sr<|sx0 z z<|ab' (fun (⟨d,g⟩:(Fin 8->Int)×Mem)=>[(2,pt0 n),(4,pt0 o)]) (fun ⟨d,g⟩=>Mem.le l g/\(ZeD d).Ret r) (fun ⟨d,g⟩=>St B l g [(2,bk0 n (vecG (Value.int .i64) 8 d) 68),(4,bk0 o (vecG (Value.int .i64) 8 (fun _=>0)) 68)]) ?_ ?_
 .refine y' ?_
  let m:(Fin 8->Int)->Prop:=fun L=>((fun J=>match J with|d=>ZeD d:(Fin 8->Int)->Cq ((Fin 8->Int)×Int)) L).wp (fun a=>a=r)
  replace hr:(Cq.loop _ _).wp m:=hr
  refine ac' (Φ:=m) (fun (⟨e,c,f⟩:Int×(Fin 8->Int)×Mem)=>((e,c):Int×(Fin 8->Int))) (fun ⟨e,c,f⟩=>[(2,pt0 n),(3,pt0 y),(4,pt0 o),(6,i' e)]) (fun ⟨e,c,f⟩=>Mem.le l f) (fun ⟨e,c,f⟩=>St B l f [(2,bk0 n (vecG (Value.int .i64) 8 c) 68),(3,bk0 y (vecG (Value.int .i64) 8 k) 68),(4,bk0 o (vecG (Value.int .i64) 8 (fun _=>0)) 68)]) ⟨0,s,l⟩ hr (f4 z z z z) mr (w3 z z z) ?_
  .intro P K M hr
   obtain⟨e,c,f⟩:=K
   have j:=M
   refine g'<|sr<|mv z z<|yy (aa' z z) z<|nx<|P' hr z (fun A hr=>?_) (fun A hr=>?_)
   .refine n'<|b'<|g'<|y'<|ak' [ff,ff,ff,ff,ff,ff] mix (by kernel_rfl) fun H=>cn (fun _ h=>c' z) ?_
    obtain⟨p,hr⟩:=hr
    refine cn (fun _ h=>aT' ar' sz3 z z p)<|cn (fun _ h=>o' 2 sc3 z z (bh' _ _ _ p))<|cn (fun _ h=>c' z) ?_
    obtain⟨q,hr⟩:=hr
    refine cn (fun _ h=>aT' ar' sz3 z z q)<|cn (fun _ h=>o' 3 sc3 z z (bh' _ _ _ q))<|ah' H<|yy (W' z z) z ?_
    obtain⟨D,hr⟩:=hr
    refine yy (aT' ar' sz3 z z D) z<|by' 2 (vecG (Value.int .i64) 8 (setF c e.toNat (i64.wrap ((getF c e)+(getF k e))))).toArray z sz3 z z z (by first|(rw[Q']; omega)|(show _<(vecG _ _ _).toArray.size; rw[Q']; omega)) z (cL' _ _ _ _ _)<|q'<|am'<|F'<|b'<|x'<|mv z z<|yy (W' z z) z<|sg z z<|q'<|T' ⟨i64.wrap (e+1),setF c e.toNat (i64.wrap ((getF c e)+(getF k e))),f⟩ hr j (f4 z z z z) (w3 z z z)
   refine ae'<|h'<|h'<|I'<|af' ⟨c,f⟩ ⟨j,hr⟩ (f2 z z) (w2 z z)
 rintro⟨d,g⟩ ⟨F,hr⟩
 refine b'<|g'<|sr<|yy (D' 2 bo' z z (Q' _ _ _)) z ?_
 obtain⟨O,t,hr⟩:=hr
 refine K' z z (m' E124 z) (eT' t) z (trivial)<|yy (aA' z) z<|nx<|aK' hr z (fun E hr=>?_) (fun E hr=>?_)
 .exact (show False from hr).elim
 refine n'<|b'<|sr<|yy (D' 2 bo' z z (Q' _ _ _)) z<|B' 4 z sz68 z z z (Q' _ _ _) (Q' _ _ _) (fun u C=>Rp.one (bD' .i64 8) (G:=g) (x:=d) (cs:=vecG (Value.int .i64) 8 d) z u (by first|simpa using C|simpa [Value.cells] using C))<|sx0 z z<|k' ?_
 obtain rfl:_=r:=hr
 exact bd' z (aw' (i:=4) bo' z z (Q' _ _ _)) z z
theorem fK'{d c B H E F r}(hr:(Zcc d c).Ret r):Ctr prog 119 #[.slice B d.length H,.slice E c.length F] (fun G=>sl (Rp.int .u32) G B H d/\sl (Rp.int .u32) G E F c) (wl' (Rp.int .u32) r):=by
 refine H' (args:=[_,_]) (N:=69) func119 z z z (fun Z O ar ao=>?_)
 obtain⟨I,C⟩:=ao
 refine sr<|sg z z<|nr<|mv z z<|yy (O' p' I z) z<|mv z z<|yy (O' p' C z) z<|yy (W' z z) z ?_
 obtain⟨aq,hr⟩:=hr
 refine cS' (r:=(Rp.int .u32)) (e:=182) (n:=i64.wrap ((d.length:Int)+(c.length:Int))) (zx:=0) 4015 z z p' el182 z (by decide) (by decide) z z z aq fun M ag av=>sx0 z z<|g'<|sr<|sx0 z z<|ab' (fun (⟨A,q,K⟩:(List Int)×Option Ow×Mem)=>[(5,.slice M (i64.wrap ((d.length:Int)+(c.length:Int))).toNat ((i64.wrap ((d.length:Int)+(c.length:Int))).toNat))]) (fun ⟨A,q,K⟩=>Mem.le O K/\RowR (Rp.int .u32) 182 K (.slice M (i64.wrap ((d.length:Int)+(c.length:Int))).toNat ((i64.wrap ((d.length:Int)+(c.length:Int))).toNat)) A q/\(Zdz A).Ret r) (fun ⟨A,q,K⟩=>St Z O K [(4015,q)]) ?_ ?_
 .refine y' ?_
  let L:(List Int)->Prop:=fun oo=>((fun ov=>match ov with|A=>Zdz A:(List Int)->Cq (List Int)) oo).wp (fun a=>a=r)
  replace hr:(Cq.loop _ _).wp L:=hr
  refine ac' (Φ:=L) (fun (⟨s,h,g,x⟩:(List Int)×Option Ow×Int×Mem)=>((s,g):(List Int)×Int)) (fun ⟨s,h,g,x⟩=>[(0,.slice B d.length H),(1,.slice E c.length F),(5,.slice M (i64.wrap ((d.length:Int)+(c.length:Int))).toNat ((i64.wrap ((d.length:Int)+(c.length:Int))).toNat)),(6,i' g)]) (fun ⟨s,h,g,x⟩=>Mem.le O x/\RowR (Rp.int .u32) 182 x (.slice M (i64.wrap ((d.length:Int)+(c.length:Int))).toNat ((i64.wrap ((d.length:Int)+(c.length:Int))).toNat)) s h) (fun ⟨s,h,g,x⟩=>St Z O x [(4015,h)]) ⟨(List.replicate (i64.wrap ((d.length:Int)+(c.length:Int))).toNat 0),ag,0,O⟩ hr (f4 z z z z) ⟨mr,av⟩ (w1 z) ?_
  .intro ad gx hx hr
   obtain⟨s,h,g,x⟩:=gx
   obtain⟨j,R⟩:=hx
   refine g'<|sr<|mv z z<|mv z z<|yy (O' p' (I.mono j) z) z<|yy (aa' z z) z<|nx<|P' hr z (fun ay hr=>?_) (fun ay hr=>?_)
   .refine n'<|b'<|g'<|y'<|sr<|sx0 z z<|g'<|sr<|sx0 z z<|ab' (fun (⟨v,u,m,J⟩:(List Int)×Option Ow×Int×Mem)=>[(0,.slice B d.length H),(1,.slice E c.length F),(5,.slice M (i64.wrap ((d.length:Int)+(c.length:Int))).toNat ((i64.wrap ((d.length:Int)+(c.length:Int))).toNat)),(6,i' g),(7,.int .u64 m)]) (fun ⟨v,u,m,J⟩=>Mem.le x J/\RowR (Rp.int .u32) 182 J (.slice M (i64.wrap ((d.length:Int)+(c.length:Int))).toNat ((i64.wrap ((d.length:Int)+(c.length:Int))).toNat)) v u/\(ZdA c g v m).wp (Out ad L)) (fun ⟨v,u,m,J⟩=>St Z O J [(4015,u)]) ?_ ?_
    .refine y' ?_
     let T:(((List Int)×Int))->Prop:=fun oo=>((fun ov=>match ov with|(v,m)=>ZdA c g v m:(((List Int)×Int))->Cq (((List Int)×Int)⊕(List Int))) oo).wp (Out ad L)
     replace hr:(Cq.loop _ _).wp T:=hr
     refine ac' (Φ:=T) (fun (⟨t,k,l,p,D⟩:(List Int)×Option Ow×Int×Int×Mem)=>((t,l,p):(List Int)×Int×Int)) (fun ⟨t,k,l,p,D⟩=>[(0,.slice B d.length H),(1,.slice E c.length F),(5,.slice M (i64.wrap ((d.length:Int)+(c.length:Int))).toNat ((i64.wrap ((d.length:Int)+(c.length:Int))).toNat)),(6,i' g),(7,.int .u64 l),(8,i' p)]) (fun ⟨t,k,l,p,D⟩=>Mem.le x D/\RowR (Rp.int .u32) 182 D (.slice M (i64.wrap ((d.length:Int)+(c.length:Int))).toNat ((i64.wrap ((d.length:Int)+(c.length:Int))).toNat)) t k) (fun ⟨t,k,l,p,D⟩=>St Z O D [(4015,k)]) ⟨s,h,0,0,x⟩ hr (f6 z z z z z z) ⟨mr,R⟩ (w1 z) ?_
     .intro aI gx hx hr
      obtain⟨t,k,l,p,D⟩:=gx
      obtain⟨o,y⟩:=hx
      refine g'<|sr<|mv z z<|mv z z<|yy (O' p' (C.mono (mx j o)) z) z<|yy (aa' z z) z<|nx<|P' hr z (fun au hr=>?_) (fun au hr=>?_)
      .refine n'<|b'<|g'<|y'<|g'<|ak' [ff,ff,ff,ff,ff,ff,ff,ff,ff,ff,ff,ff,ff,ff,ff,ff,ff,ff,ff,ff] mix (by kernel_rfl) fun hb=>cn (fun _ f=>c' z)<|cn (fun _ f=>c' z) ?_
       obtain⟨V,aa,hr⟩:=hr
       refine cn (fun _ f=>V' p' aP' ((I.mono (mx j o)).mono f) z z aa)<|cn (fun _ f=>aj' bu' z (aJ' (J' (J' (Z' I aa) (mx j o)) f)))<|cn (fun _ f=>av' ag' ad' z)<|cn (fun _ f=>c' z)<|cn (fun _ f=>c' z) ?_
       obtain⟨X,ae,hr⟩:=hr
       refine cn (fun _ f=>V' p' aP' ((C.mono (mx j o)).mono f) z z ae)<|cn (fun _ f=>aj' bu' z (aJ' (J' (J' (Z' C ae) (mx j o)) f)))<|cn (fun _ f=>av' ag' ad' z)<|cn (fun _ f=>dd' z z)<|cn (fun _ f=>c' z)<|cn (fun _ f=>c' z)<|cn (fun _ f=>c' z)<|cn (fun _ f=>W' z z) ?_
       obtain⟨W,ab,hr⟩:=hr
       refine cn (fun _ f=>bs' p' aP' (y.mono f) z z ab)<|cn (fun _ f=>Y0.loadT bu' (y.mono f) (key:=4015) z z (aJ' (RowR.at y ab)))<|cn (fun _ f=>av' ag' ad' z)<|cn (fun _ f=>W' z z)<|cn (fun _ f=>c' z)<|ah' hb<|yy (W' z z) z<|sg z z<|q'<|am'<|b'<|sr<|mv z z<|mv z z<|mv z z<|yy (W' z z) z<|mv z z<|yy (bP' z z (by decide)) z<|yy (av' ad' ag' z) z ?_
       obtain⟨x5,ac,hr⟩:=hr
       refine yy (bs' p' aP' y z z ac) z<|bT' (r:=(Rp.int .u32)) (e:=182) (cs':=[.int .u32 (u32.wrap (Int.tmod (u64.wrap ((u64.wrap ((u64.wrap ((u64.wrap V)*(u64.wrap X)))+(u64.wrap W)))+l)) 4294967296))]) (i:=i64.wrap (g+p)) (z':=u32.wrap (Int.tmod (u64.wrap ((u64.wrap ((u64.wrap ((u64.wrap V)*(u64.wrap X)))+(u64.wrap W)))+l)) 4294967296)) 4015 z aP' z y z z z z z ac fun aw an=>nx<|x'<|mv z z<|yy (cV' z z (by decide)) z<|sg z z<|q'<|F'<|b'<|x'<|mv z z<|yy (W' z z) z<|sg z z<|q'<|T' ⟨(t.set (i64.wrap (g+p)).toNat (u32.wrap (Int.tmod (u64.wrap ((u64.wrap ((u64.wrap ((u64.wrap V)*(u64.wrap X)))+(u64.wrap W)))+l)) 4294967296))),aw,u64.wrap (Int.tdiv (u64.wrap ((u64.wrap ((u64.wrap ((u64.wrap V)*(u64.wrap X)))+(u64.wrap W)))+l)) 4294967296),i64.wrap (p+1),D⟩ hr ⟨o,an⟩ (f6 z z z z z z) (w1 z)
      refine ae'<|h'<|h'<|I'<|af' ⟨t,k,l,D⟩ ⟨o,y,hr⟩ (f5 z z z z z) (w1 z)
    rintro⟨v,u,m,J⟩ ⟨P,Q,hr⟩
    refine b'<|x'<|mv z z<|mv z z<|mv z z<|yy (O' p' (C.mono (mx j P)) z) z<|yy (W' z z) z<|mv z z<|yy (av' ad' ag' z) z ?_
    obtain⟨x1,af,hr⟩:=hr
    refine yy (bs' p' aP' Q z z af) z<|bT' (r:=(Rp.int .u32)) (e:=182) (cs':=[.int .u32 (u32.wrap m)]) (i:=i64.wrap (g+(c.length:Int))) (z':=u32.wrap m) 4015 z aP' z Q z z z z z af fun ax al=>q'<|F'<|b'<|x'<|mv z z<|yy (W' z z) z<|sg z z<|q'<|T' ⟨(v.set (i64.wrap (g+(c.length:Int))).toNat (u32.wrap m)),ax,i64.wrap (g+1),J⟩ hr ⟨(mx j P),al⟩ (f4 z z z z) (w1 z)
   refine ae'<|h'<|h'<|I'<|af' ⟨s,h,x⟩ ⟨j,R,hr⟩ (f1 z) (w1 z)
 rintro⟨A,q,K⟩ ⟨aA,Y,hr⟩
 refine b'<|sr<|mv z z<|bV' (r:=(Rp.int .u32)) (e:=182) 4015 Y z (by rw[ar]; rfl) (fun aH aK aC U aB=>?_)
 obtain⟨aL,ak,hr⟩:=hr
 refine N' z z (m' E170 z) (dm' ak) (by rw[cX' U]) ((cY' U)) (fun aF aJ az S=>?_)
 obtain⟨aG,aE,rfl,am⟩:=S
 refine sx0 z z<|k' ?_
 obtain rfl:_=r:=hr
 exact j' z z ⟨_,_,z,am⟩
theorem cJ'{A t j f g e r}(hr:(Zcb A t).Ret r):Ctr prog 63 #[.agg ((v57' A j f)).toArray,.agg ((v57' t g e)).toArray] (fun G=>sl (Rp.int .u32) G j f A.mag/\sl (Rp.int .u32) G g e t.mag) (w57' r):=by
 refine H' (args:=[_,_]) (N:=16) func63 z z z (fun T R M y=>?_)
 obtain⟨o,p⟩:=y
 refine sr<|ai' 2 z z z fun U=>ai' 3 z z z fun Q=>X' 4 z z57 z fun V=>nx<|g'<|ak' [ff,ff,ff,ff,ff,ff,ff,ff,ff,ff] mix (by kernel_rfl) fun P=>cn (fun _ c=>aQ' z)<|cn (fun _ c=>o' 2 sc4 z z z)<|cn (fun _ c=>aQ' z)<|cn (fun _ c=>o' 3 sc4 z z z)<|cn (fun _ c=>Y0.neqB bf' z z)<|cn (fun _ c=>as' z)<|cn (fun _ c=>o' 2 be' z z z)<|cn (fun _ c=>as' z)<|cn (fun _ c=>o' 3 be' z z z) ?_
 obtain⟨q,B,hr⟩:=hr
 refine az' (post:=wl' (Rp.int .u32) q) (fun _=>z) (fun _ _=>m' E119 z) (fK' B) z (fun O c=>⟨(o.mono c),(p.mono c)⟩) (fun v W S c h=>?_) ?_
 .obtain⟨x,u,rfl,k⟩:=h
  exact⟨_,_,z,k.mono c⟩
 refine bi' (d:=14) (post:=wl' (Rp.int .u32) q) (fun H J F l=>?_)
 obtain⟨x,u,rfl,k⟩:=l
 obtain⟨K,s,hr⟩:=hr
 refine N' z z (m' E114 z) (cw' s) z (k) (fun I L E n=>?_)
 obtain⟨D,C,rfl,m⟩:=n
 refine B' 4 z bn' z z z z z (List.all_eq_true.1 z)<|q'<|am'<|b'<|k' ?_
 obtain rfl:_=r:=hr
 exact j' z (aw' (i:=4) at' z z z) ⟨_,_,z,m⟩
theorem cU'{g i e d r}(hr:(Zay g i).Ret r):Ctr prog 171 #[.slice e g.length d,i' i] (fun G=>sl (Rp.int .u32) G e d g) (fun G v=>v = .int .u64 r):=by
 refine H' (args:=[_,_]) (N:=14) func171 z z z (fun l n k h=>?_)
 have c:=h
 refine sr<|sx0 z z<|g'<|sr<|mv z z<|mv z z<|yy (O' p' c z) z<|yy (aa' z z) z<|nx<|P' hr z (fun j hr=>?_) (fun j hr=>?_)
 .refine sr<|mv z z<|mv z z ?_
  obtain⟨m,f,hr⟩:=hr
  refine yy (V' p' aP' c z z f) z<|yy (aj' bu' z (aJ' (Z' c f))) z<|yy (av' ag' ad' z) z<|sx0 z z<|k'<|f' (k0' hr z z)
 refine n'<|b'<|sr<|sx0 z z<|k' (k0' hr z z)
theorem eH'{g e d r}(hr:(Zch g).Ret r):Ctr prog 200 #[.slice e g.length d] (fun G=>sl (Rp.int .u32) G e d g) (fun G v=>v = .int .u64 r):=by
 refine H' (args:=[_]) (N:=9) func200 z z z (fun m n l h=>?_)
 have c:=h
 refine sr<|sg z z<|nr<|mv z z ?_
 obtain⟨j,i,hr⟩:=hr
 refine K' z z (m' E171 z) (cU' i) z (c)<|yy (dd' z z) z<|mv z z ?_
 obtain⟨k,f,hr⟩:=hr
 refine K' z z (m' E171 z) (cU' f) z (c)<|yy (W' z z) z<|sx0 z z<|k' (k0' hr z z)
theorem fF'{l k r}(hr:(ZeB l k).Ret r):Ctr prog 199 #[.int .u64 l,.int .u64 k] (fun G=>True) (fun G v=>v = .int .u64 r):=by
 refine H' (args:=[_,_]) (N:=14) func199 z z z fun n i A q=>sr<|sx0 z z<|g'<|ab' (fun (⟨g,f⟩:Int×Mem)=>[(0,.int .u64 g)]) (fun ⟨g,f⟩=>Mem.le i f/\(Zdd g).Ret r) (fun ⟨g,f⟩=>St n i f []) ?_ ?_
 .refine y' ?_
  let j:Int->Prop:=fun u=>((fun s=>match s with|g=>Zdd g:Int->Cq Int) u).wp (fun a=>a=r)
  replace hr:(Cq.loop _ _).wp j:=hr
  refine ac' (Φ:=j) (fun (⟨d,e,c⟩:Int×Int×Mem)=>((d,e):Int×Int)) (fun ⟨d,e,c⟩=>[(0,.int .u64 d),(1,.int .u64 e)]) (fun ⟨d,e,c⟩=>Mem.le i c) (fun ⟨d,e,c⟩=>St n i c []) ⟨l,k,i⟩ hr (f2 z z) mr (wk ln) ?_
  .intro y t x hr
   obtain⟨d,e,c⟩:=t
   have h:=x
   refine g'<|sr<|mv z z<|yy (aS' z z) z<|nx<|P' hr z (fun o hr=>?_) (fun o hr=>?_)
   .refine n'<|b'<|y'<|sr<|mv z z<|mv z z ?_
    obtain⟨m,hr⟩:=hr
    refine yy (bP' z z m) z<|sg z z<|nr<|mv z z<|sx0 z z<|x'<|mv z z<|sg z z<|q'<|F'<|T' ⟨e,Int.tmod d e,c⟩ hr h (f2 z z) (wk ln)
   refine ae'<|h'<|h'<|I'<|af' ⟨d,c⟩ ⟨h,hr⟩ (f1 z) (wk ln)
 rintro⟨g,f⟩ ⟨p,hr⟩
 refine b'<|sr<|mv z z<|sx0 z z<|k' (k0' hr z z)
theorem bS'{p s m q k o r}(hr:(Zbe p s).Ret r):Ctr prog 117 #[.slice m p.length q,.slice k s.length o] (fun G=>sl (Rp.int .u32) G m q p/\sl (Rp.int .u32) G k o s) (fun G v=>v=i' r):=by
 refine H' (args:=[_,_]) (N:=41) func117 z z z (fun F l P B=>?_)
 obtain⟨f,g⟩:=B
 refine sr<|sx0 z z<|g'<|sr<|mv z z<|yy (O' p' f z) z<|mv z z<|yy (O' p' g z) z<|yy (aa' z z) z<|nx<|P' hr z (fun I hr=>?_) (fun I hr=>?_)
 .refine sr<|sx0 z z<|k'<|f' (k0' hr z z)
 refine n'<|b'<|g'<|sr<|mv z z<|yy (O' p' f z) z<|mv z z<|yy (O' p' g z) z<|yy (aS' z z) z<|nx<|P' hr z (fun E hr=>?_) (fun E hr=>?_)
 .refine sr<|sx0 z z<|k'<|f' (k0' hr z z)
 refine n'<|b'<|g'<|sr<|mv z z<|yy (O' p' f z) z<|yy (ba' z z) z<|sx0 z z<|ab' (fun (i:Mem)=>match i with|h=>[]) (fun (i:Mem)=>match i with|h=>Mem.le l h/\(Zcg).Ret r) (fun (i:Mem)=>match i with|h=>St F l h []) ?_ ?_
 .refine y' ?_
  let n:(Int⊕Unit)->Prop:=fun M=>((fun K=>match K with | .inl rv1=>Cq.ret rv1 | .inr ()=>Zcg:(Int⊕Unit)->Cq Int) M).wp (fun a=>a=r)
  replace hr:(Cq.loop _ _).wp n:=hr
  refine ac' (Φ:=n) (fun (⟨j,e⟩:Int×Mem)=>(j:Int)) (fun ⟨j,e⟩=>[(0,.slice m p.length q),(1,.slice k s.length o),(5,i' j)]) (fun ⟨j,e⟩=>Mem.le l e) (fun ⟨j,e⟩=>St F l e []) ⟨i64.wrap ((p.length:Int)-1),l⟩ hr (f3 z z z) mr (wk ln) ?_
  .intro O i L hr
   obtain⟨j,e⟩:=i
   have d:=L
   refine g'<|sr<|mv z z<|yy (bH' z z) z<|nx<|P' hr z (fun H hr=>?_) (fun H hr=>?_)
   .refine n'<|b'<|g'<|y'<|g'<|g'<|ak' [ff,ff,ff,ff,ff,ff,ff,ff] mix (by kernel_rfl) fun A=>cn (fun _ c=>c' z)<|cn (fun _ c=>c' z) ?_
    obtain⟨T,y,hr⟩:=hr
    refine cn (fun _ c=>V' p' aP' ((f.mono d).mono c) z z y)<|cn (fun _ c=>aj' bu' z (aJ' (J' (J' (Z' f y) d) c)))<|cn (fun _ c=>c' z)<|cn (fun _ c=>c' z) ?_
    obtain⟨S,u,hr⟩:=hr
    refine cn (fun _ c=>V' p' aP' ((g.mono d).mono c) z z u)<|cn (fun _ c=>aj' bu' z (aJ' (J' (J' (Z' g u) d) c)))<|ah' A<|yy (aa' z z) z<|q'<|am'<|b'<|P' hr z (fun D hr=>?_) (fun D hr=>?_)
    .refine sr<|sx0 z z<|k'<|f'<|A'<|f'<|f'<|A'<|an'<|f' (k0' hr z z)
    refine n'<|b'<|g'<|ak' [ff,ff,ff,ff,ff,ff,ff,ff] mix (by kernel_rfl) fun A=>cn (fun _ c=>c' z)<|cn (fun _ c=>c' z) ?_
    obtain⟨R,t,hr⟩:=hr
    refine cn (fun _ c=>V' p' aP' ((f.mono d).mono c) z z t)<|cn (fun _ c=>aj' bu' z (aJ' (J' (J' (Z' f t) d) c)))<|cn (fun _ c=>c' z)<|cn (fun _ c=>c' z) ?_
    obtain⟨Q,x,hr⟩:=hr
    refine cn (fun _ c=>V' p' aP' ((g.mono d).mono c) z z x)<|cn (fun _ c=>aj' bu' z (aJ' (J' (J' (Z' g x) d) c)))<|ah' A<|yy (aS' z z) z<|q'<|am'<|b'<|P' hr z (fun C hr=>?_) (fun C hr=>?_)
    .refine sr<|sx0 z z<|k'<|A'<|f'<|f'<|A'<|an'<|f' (k0' hr z z)
    refine n'<|F'<|b'<|x'<|mv z z<|yy (ba' z z) z<|sg z z<|q'<|T' ⟨i64.wrap (j-1),e⟩ hr d (f3 z z z) (wk ln)
   refine ae'<|h'<|h'<|I'<|af' e ⟨d,hr⟩ fn (wk ln)
 rintro h ⟨J,hr⟩
 refine b'<|sr<|sx0 z z<|k' (k0' hr z z)
theorem fz'{j s B D r}(hr:(ZfZ j s).Ret r):Ctr prog 213 #[.slice B j.length D,.int .u64 s] (fun G=>sl (Rp.int .u32) G B D j) (fun G v=>∃ A y,v = .tuple #[.slice A r.1.length y,.int .u64 r.2]/\sl (Rp.int .u32) G A y r.1):=by
 refine H' (args:=[_,_]) (N:=41) func213 z z z (fun W x U O=>?_)
 have t:=O
 refine sr<|sg z z<|sg z z<|nr<|mv z z<|yy (O' p' t z) z ?_
 obtain⟨S,hr⟩:=hr
 refine cS' (r:=(Rp.int .u32)) (e:=182) (n:=(j.length:Int)) (zx:=0) 4012 z z p' el182 z (by decide) (by decide) z z z S fun F M X=>sg z z<|nr<|sx0 z z<|g'<|sr<|mv z z<|yy (O' p' t z) z<|yy (ba' z z) z<|sx0 z z<|ab' (fun (⟨h,g,m,o⟩:(List Int)×Option Ow×Int×Mem)=>[(6,.slice F (j.length:Int).toNat ((j.length:Int).toNat)),(7,.int .u64 m)]) (fun ⟨h,g,m,o⟩=>Mem.le x o/\RowR (Rp.int .u32) 182 o (.slice F (j.length:Int).toNat ((j.length:Int).toNat)) h g/\(ZcC h m).Ret r) (fun ⟨h,g,m,o⟩=>St W x o [(4012,g)]) ?_ ?_
 .refine y' ?_
  let C:(((List Int)×Int))->Prop:=fun oo=>((fun ov=>match ov with|(h,m)=>ZcC h m:(((List Int)×Int))->Cq ((List Int)×Int)) oo).wp (fun a=>a=r)
  replace hr:(Cq.loop _ _).wp C:=hr
  refine ac' (Φ:=C) (fun (⟨d,c,f,p,k⟩:(List Int)×Option Ow×Int×Int×Mem)=>((d,f,p):(List Int)×Int×Int)) (fun ⟨d,c,f,p,k⟩=>[(0,.slice B j.length D),(1,.int .u64 s),(6,.slice F (j.length:Int).toNat ((j.length:Int).toNat)),(7,.int .u64 f),(8,i' p)]) (fun ⟨d,c,f,p,k⟩=>Mem.le x k/\RowR (Rp.int .u32) 182 k (.slice F (j.length:Int).toNat ((j.length:Int).toNat)) d c) (fun ⟨d,c,f,p,k⟩=>St W x k [(4012,c)]) ⟨(List.replicate (j.length:Int).toNat 0),M,0,i64.wrap ((j.length:Int)-1),x⟩ hr (f5 z z z z z) ⟨mr,X⟩ (w1 z) ?_
  .intro an gx hx hr
   obtain⟨d,c,f,p,k⟩:=gx
   obtain⟨l,q⟩:=hx
   refine g'<|sr<|mv z z<|yy (bH' z z) z<|nx<|P' hr z (fun Y hr=>?_) (fun Y hr=>?_)
   .refine n'<|b'<|g'<|y'<|sr<|mv z z<|yy (dd' z z) z<|mv z z<|mv z z ?_
    obtain⟨I,K,hr⟩:=hr
    refine yy (V' p' aP' (t.mono l) z z K) z<|yy (aj' bu' z (aJ' (J' (Z' t K) l))) z<|yy (av' ag' ad' z) z<|yy (W' z z) z<|sg z z<|nr<|mv z z<|mv z z<|mv z z<|mv z z ?_
    obtain⟨V,hr⟩:=hr
    refine yy (cV' z z V) z<|yy (av' ad' ag' z) z ?_
    obtain⟨x2,J,hr⟩:=hr
    refine yy (bs' p' aP' q z z J) z<|bT' (r:=(Rp.int .u32)) (e:=182) (cs':=[.int .u32 (u32.wrap (u64.wrap (Int.tdiv (u64.wrap ((u64.wrap (f*4294967296))+(u64.wrap I))) s)))]) (i:=p) (z':=u32.wrap (u64.wrap (Int.tdiv (u64.wrap ((u64.wrap (f*4294967296))+(u64.wrap I))) s))) 4012 z aP' z q z z z z z J fun T Q=>nx<|x'<|mv z z<|mv z z ?_
    obtain⟨R,hr⟩:=hr
    refine yy (bP' z z R) z<|sg z z<|q'<|F'<|b'<|x'<|mv z z<|yy (ba' z z) z<|sg z z<|q'<|T' ⟨(d.set p.toNat (u32.wrap (u64.wrap (Int.tdiv (u64.wrap ((u64.wrap (f*4294967296))+(u64.wrap I))) s)))),T,Int.tmod (u64.wrap ((u64.wrap (f*4294967296))+(u64.wrap I))) s,i64.wrap (p-1),k⟩ hr ⟨l,Q⟩ (f5 z z z z z) (w1 z)
   refine ae'<|h'<|h'<|I'<|af' ⟨d,c,f,k⟩ ⟨l,q,hr⟩ (f2 z z) (w1 z)
 rintro⟨h,g,m,o⟩ ⟨Z,H,hr⟩
 refine b'<|sr<|mv z z<|bV' (r:=(Rp.int .u32)) (e:=182) 4012 H z (by rw[U]; rfl) (fun al ak ac E aa=>?_)
 obtain⟨am,P,hr⟩:=hr
 refine N' z z (m' E170 z) (dm' P) (by rw[cX' E]) ((cY' E)) (fun ad ao ab u=>?_)
 obtain⟨af,ae,rfl,L⟩:=u
 refine mv z z<|sg z z<|sx0 z z<|k' ?_
 obtain rfl:_=r:=hr
 exact bd' z z z ⟨_,_,z,L⟩
theorem ez'{e f i g h j r}(hr:(ZbP e f).Ret r):Ctr prog 190 #[.slice i e.length g,.slice h f.length j] (fun G=>sl (Rp.int .u32) G i g e/\sl (Rp.int .u32) G h j f) (fun G v=>∃ o n m q,v = .tuple #[.slice o r.1.length n,.slice m r.2.length q]/\sl (Rp.int .u32) G o n r.1/\sl (Rp.int .u32) G m q r.2):=by
 refine H' (args:=[_,_]) (N:=110) func190 z z z (fun U T S A=>?_)
 obtain⟨d,c⟩:=A
 refine sr<|sg z z<|sx0 z z<|g'<|sr<|mv z z<|mv z z ?_
 obtain⟨O,B,hr⟩:=hr
 refine K' z z (m' E117 z) (bS' B) z (⟨d,c⟩)<|yy (aa' z z) z<|nx<|P' hr z (fun F hr=>?_) (fun F hr=>?_)
 .refine sr<|mv z z<|sg z z<|sx0 z z<|k'<|f' ?_
  obtain rfl:_=r:=hr
  exact bd' z z z ⟨_,_,_,_,z,(ay' (Rp.int .u32) _),d⟩
 refine n'<|b'<|g'<|sr<|mv z z<|yy (O' p' c z) z<|yy (aH' z z) z<|nx<|P' hr z (fun E hr=>?_) (fun E hr=>?_)
 .refine sr<|mv z z<|mv z z ?_
  obtain⟨V,t,hr⟩:=hr
  refine yy (V' p' aP' c z z t) z<|yy (aj' bu' z (aJ' (Z' c t))) z<|yy (av' ag' ad' z) z ?_
  obtain⟨M,u,hr⟩:=hr
  refine N' z z (m' E213 z) (fz' u) z (d) (fun L Q H l=>?_)
  obtain⟨D,C,rfl,p⟩:=l
  refine mv z z<|yy (R' z z) z<|yy (R' z z) z<|sg z z<|sg z z<|nr<|mv z z<|mv z z ?_
  obtain⟨P,y,hr⟩:=hr
  refine N' z z (m' E115 z) (dL' y) z (trivial) (fun K R s k=>?_)
  obtain⟨I,J,rfl,x⟩:=k
  refine sg z z<|sx0 z z<|k'<|f' ?_
  obtain rfl:_=r:=hr
  exact bd' z z z ⟨_,_,_,_,z,(p.mono s),x⟩
 exact (show False from hr).elim
theorem fG'{K J E I B H r}(hr:(Zdm K J).Ret r):Ctr prog 172 #[.slice E K.length I,.slice B J.length H] (fun G=>sl (Rp.int .u32) G E I K/\sl (Rp.int .u32) G B H J) (wl' (Rp.int .u32) r):=by
 refine H' (args:=[_,_]) (N:=33) func172 z z z (fun R y aw S=>?_)
 obtain⟨U,af⟩:=S
 refine sr<|sx0 z z<|g'<|ab' (fun (⟨q,p,m,l⟩:(List Int)×Option Addr×Nat×Mem)=>[(0,.slice p q.length m)]) (fun ⟨q,p,m,l⟩=>Mem.le y l/\sl (Rp.int .u32) l p m q/\(Zda q).Ret r) (fun ⟨q,p,m,l⟩=>St R y l []) ?_ ?_
 .refine y' ?_
  let s:((List Int)⊕(List Int))->Prop:=fun oo=>((fun ov=>match ov with | .inl rv1=>Cq.ret rv1 | .inr q=>Zda q:((List Int)⊕(List Int))->Cq (List Int)) oo).wp (fun a=>a=r)
  replace hr:(Cq.loop _ _).wp s:=hr
  refine ac' (Φ:=s) (fun (⟨k,g,h,j,i,f,c⟩:(List Int)×Option Addr×Nat×(List Int)×Option Addr×Nat×Mem)=>((k,j):(List Int)×(List Int))) (fun ⟨k,g,h,j,i,f,c⟩=>[(0,.slice g k.length h),(1,.slice i j.length f)]) (fun ⟨k,g,h,j,i,f,c⟩=>Mem.le y c/\sl (Rp.int .u32) c g h k/\sl (Rp.int .u32) c i f j) (fun ⟨k,g,h,j,i,f,c⟩=>St R y c []) ⟨K,E,I,J,B,H,y⟩ hr (f2 z z) ⟨mr,U,af⟩ (wk ln) ?_
  .intro Z gx hx hr
   obtain⟨k,g,h,j,i,f,c⟩:=gx
   obtain⟨v,t,o⟩:=hx
   refine g'<|sr<|mv z z<|yy (O' p' o z) z<|yy (aS' z z) z<|nx<|P' hr z (fun Y hr=>?_) (fun Y hr=>?_)
   .refine n'<|b'<|y'<|g'<|aO' (fun (⟨e,n⟩:Bool×Mem)=>[(0,.slice g k.length h),(1,.slice i j.length f),(17,.bool e)]) (fun ⟨e,n⟩=>Mem.le c n/\(Zdb k j e).wp (Out Z s)) (fun ⟨e,n⟩=>St R y n []) ?_ ?_
    .refine x'<|mv z z<|yy (O' p' t z) z<|aE' hr z (bW' z z) z (fun ae hr=>?_) (fun ae hr=>?_)
     .refine mv z z<|gy z z (c' z) z<|gy z z (O' p' o z) z<|gy z z (bW' z z) z<|yy (w' z z) z<|q'<|ax' ⟨decide ((j.length:Int)<=2),c⟩ ⟨mr,hr⟩ (f3 z z z) (wk ln)
     refine mv z z<|sn3 z<|yy (t' z z) z<|q'<|ax' ⟨false,c⟩ ⟨mr,hr⟩ (f3 z z z) (wk ln)
    rintro⟨e,n⟩ ⟨d,hr⟩
    refine aK' hr z (fun ab hr=>?_) (fun ab hr=>?_)
    .refine sr<|mv z z ?_
     obtain⟨au,T,hr⟩:=hr
     refine K' z z (m' E200 z) (eH' T) z ((t.mono d))<|mv z z ?_
     obtain⟨aq,L,hr⟩:=hr
     refine K' z z (m' E200 z) (eH' L) z ((o.mono d)) ?_
     obtain⟨ax,P,hr⟩:=hr
     refine K' z z (m' E199 z) (fF' P) z (trivial) ?_
     obtain⟨ar,O,hr⟩:=hr
     refine N' z z (m' E115 z) (dL' O) z (trivial) (fun ai av ah A=>?_)
     obtain⟨ap,al,rfl,Q⟩:=A
     refine sx0 z z<|k'<|f'<|A'<|f'<|A'<|an'<|f' ?_
     obtain rfl:_=r:=hr
     exact j' z z ⟨_,_,z,Q⟩
    refine n'<|b'<|sr<|mv z z<|mv z z ?_
    obtain⟨X,M,hr⟩:=hr
    refine N' z z (m' E190 z) (ez' M) z (⟨(t.mono d),(o.mono d)⟩) (fun aj ad u x=>?_)
    obtain⟨W,ac,C,D,rfl,V,F⟩:=x
    refine mv z z<|yy (R' z z) z<|yy (R' z z) z<|sg z z<|sg z z<|nr<|mv z z<|sx0 z z<|x'<|mv z z<|sg z z<|q'<|F'<|T' ⟨j,i,f,X.2,C,D,ad⟩ hr ⟨(mx (mx v d) u),(o.mono (mx d u)),F⟩ (f2 z z) (wk ln)
   refine ae'<|h'<|h'<|I'<|af' ⟨k,g,h,c⟩ ⟨v,t,hr⟩ (f1 z) (wk ln)
 rintro⟨q,p,m,l⟩ ⟨ag,aa,hr⟩
 refine b'<|sr<|mv z z<|sx0 z z<|k' ?_
 obtain rfl:_=r:=hr
 exact j' z z ⟨_,_,z,aa⟩
theorem em'{q n f d e c r}(hr:(ZfM q n).Ret r):Ctr prog 120 #[.agg ((v57' q f d)).toArray,.agg ((v57' n e c)).toArray] (fun G=>sl (Rp.int .u32) G f d q.mag/\sl (Rp.int .u32) G e c n.mag) (w57' r):=by
 refine H' (args:=[_,_]) (N:=11) func120 z z z (fun L K I p=>?_)
 obtain⟨k,l⟩:=p
 refine sr<|ai' 2 z z z fun M=>ai' 3 z z z fun J=>X' 4 z z57 z fun O=>nr<|yy (as' z) z<|yy (o' 2 be' z z z) z<|yy (as' z) z<|yy (o' 3 be' z z z) z ?_
 obtain⟨F,s,hr⟩:=hr
 refine N' z z (m' E172 z) (fG' s) z (⟨k,l⟩) (fun y D x g=>?_)
 obtain⟨B,A,rfl,o⟩:=g
 obtain⟨E,m,hr⟩:=hr
 refine N' z z (m' E114 z) (cw' m) z (o) (fun C H v j=>?_)
 obtain⟨u,t,rfl,h⟩:=j
 refine B' 4 z bn' z z z z z (List.all_eq_true.1 z)<|nx<|k' ?_
 obtain rfl:_=r:=hr
 exact j' z (aw' (i:=4) at' z z z) ⟨_,_,z,h⟩
theorem fL'{f d y C v B r}(hr:(ZhH f d).Ret r):Ctr prog 116 #[.slice y f.length C,.slice v d.length B] (fun G=>sl (Rp.int .u32) G y C f/\sl (Rp.int .u32) G v B d) (wl' (Rp.int .u32) r):=by
 refine H' (args:=[_,_]) (N:=42) func116 z z z (fun V x U P=>?_)
 obtain⟨H,J⟩:=P
 refine sr<|sg z z<|nr<|mv z z<|yy (O' p' H z) z<|mv z z<|yy (O' p' J z) z<|yy (Y0.max2 z z) z<|yy (W' z z) z<|sg z z<|nr<|mv z z ?_
 obtain⟨S,hr⟩:=hr
 refine cS' (r:=(Rp.int .u32)) (e:=182) (n:=i64.wrap ((if (f.length:Int)<(d.length:Int) then (d.length:Int) else (f.length:Int))+1)) (zx:=0) 4017 z z p' el182 z (by decide) (by decide) z z z S fun E O W=>sg z z<|nr<|sx0 z z<|g'<|sr<|sx0 z z<|ab' (fun (⟨k,j,o⟩:(List Int)×Option Ow×Mem)=>[(6,.slice E (i64.wrap ((if (f.length:Int)<(d.length:Int) then (d.length:Int) else (f.length:Int))+1)).toNat ((i64.wrap ((if (f.length:Int)<(d.length:Int) then (d.length:Int) else (f.length:Int))+1)).toNat))]) (fun ⟨k,j,o⟩=>Mem.le x o/\RowR (Rp.int .u32) 182 o (.slice E (i64.wrap ((if (f.length:Int)<(d.length:Int) then (d.length:Int) else (f.length:Int))+1)).toNat ((i64.wrap ((if (f.length:Int)<(d.length:Int) then (d.length:Int) else (f.length:Int))+1)).toNat)) k j/\(Zdx k).Ret r) (fun ⟨k,j,o⟩=>St V x o [(4017,j)]) ?_ ?_
 .refine y' ?_
  let A:(List Int)->Prop:=fun oo=>((fun ov=>match ov with|k=>Zdx k:(List Int)->Cq (List Int)) oo).wp (fun a=>a=r)
  replace hr:(Cq.loop _ _).wp A:=hr
  refine ac' (Φ:=A) (fun (⟨h,g,c,p,l⟩:(List Int)×Option Ow×Int×Int×Mem)=>((h,c,p):(List Int)×Int×Int)) (fun ⟨h,g,c,p,l⟩=>[(0,.slice y f.length C),(1,.slice v d.length B),(5,i' (i64.wrap ((if (f.length:Int)<(d.length:Int) then (d.length:Int) else (f.length:Int))+1))),(6,.slice E (i64.wrap ((if (f.length:Int)<(d.length:Int) then (d.length:Int) else (f.length:Int))+1)).toNat ((i64.wrap ((if (f.length:Int)<(d.length:Int) then (d.length:Int) else (f.length:Int))+1)).toNat)),(7,.int .u64 c),(8,i' p)]) (fun ⟨h,g,c,p,l⟩=>Mem.le x l/\RowR (Rp.int .u32) 182 l (.slice E (i64.wrap ((if (f.length:Int)<(d.length:Int) then (d.length:Int) else (f.length:Int))+1)).toNat ((i64.wrap ((if (f.length:Int)<(d.length:Int) then (d.length:Int) else (f.length:Int))+1)).toNat)) h g) (fun ⟨h,g,c,p,l⟩=>St V x l [(4017,g)]) ⟨(List.replicate (i64.wrap ((if (f.length:Int)<(d.length:Int) then (d.length:Int) else (f.length:Int))+1)).toNat 0),O,0,0,x⟩ hr (f6 z z z z z z) ⟨mr,W⟩ (w1 z) ?_
  .intro am gx hx hr
   obtain⟨h,g,c,p,l⟩:=gx
   obtain⟨m,q⟩:=hx
   refine g'<|sr<|mv z z<|mv z z<|yy (aa' z z) z<|nx<|P' hr z (fun X hr=>?_) (fun X hr=>?_)
   .refine n'<|b'<|g'<|y'<|sr<|mv z z<|mv z z ?_
    obtain⟨s,K,hr⟩:=hr
    refine K' z z (m' E171 z) (cU' K) z ((H.mono m))<|mv z z<|mv z z ?_
    obtain⟨t,L,hr⟩:=hr
    refine K' z z (m' E171 z) (cU' L) z ((J.mono m))<|yy (W' z z) z<|mv z z<|yy (W' z z) z<|sg z z<|nr<|mv z z<|mv z z<|mv z z<|yy (bP' z z (by decide)) z<|yy (av' ad' ag' z) z ?_
    obtain⟨x1,I,hr⟩:=hr
    refine yy (bs' p' aP' q z z I) z<|bT' (r:=(Rp.int .u32)) (e:=182) (cs':=[.int .u32 (u32.wrap (Int.tmod (u64.wrap ((u64.wrap (s+t))+c)) 4294967296))]) (i:=p) (z':=u32.wrap (Int.tmod (u64.wrap ((u64.wrap (s+t))+c)) 4294967296)) 4017 z aP' z q z z z z z I fun T R=>nx<|x'<|mv z z<|yy (cV' z z (by decide)) z<|sg z z<|q'<|F'<|b'<|x'<|mv z z<|yy (W' z z) z<|sg z z<|q'<|T' ⟨(h.set p.toNat (u32.wrap (Int.tmod (u64.wrap ((u64.wrap (s+t))+c)) 4294967296))),T,u64.wrap (Int.tdiv (u64.wrap ((u64.wrap (s+t))+c)) 4294967296),i64.wrap (p+1),l⟩ hr ⟨m,R⟩ (f6 z z z z z z) (w1 z)
   refine ae'<|h'<|h'<|I'<|af' ⟨h,g,l⟩ ⟨m,q,hr⟩ (f1 z) (w1 z)
 rintro⟨k,j,o⟩ ⟨Y,F,hr⟩
 refine b'<|sr<|mv z z<|bV' (r:=(Rp.int .u32)) (e:=182) 4017 F z (by rw[U]; rfl) (fun ak aj ab D Z=>?_)
 obtain⟨al,Q,hr⟩:=hr
 refine N' z z (m' E170 z) (dm' Q) (by rw[cX' D]) ((cY' D)) (fun ac an aa u=>?_)
 obtain⟨ae,ad,rfl,M⟩:=u
 refine sx0 z z<|k' ?_
 obtain rfl:_=r:=hr
 exact j' z z ⟨_,_,z,M⟩
theorem eU'{m E y C v B r}(hr:(Ze8 m E).Ret r):Ctr prog 118 #[.slice y m.length C,.slice v E.length B] (fun G=>sl (Rp.int .u32) G y C m/\sl (Rp.int .u32) G v B E) (wl' (Rp.int .u32) r):=by
 refine H' (args:=[_,_]) (N:=41) func118 z z z (fun V x U P=>?_)
 obtain⟨s,X⟩:=P
 refine sr<|sg z z<|nr<|mv z z<|yy (O' p' s z) z ?_
 obtain⟨S,hr⟩:=hr
 refine cS' (r:=(Rp.int .u32)) (e:=182) (n:=(m.length:Int)) (zx:=0) 4011 z z p' el182 z (by decide) (by decide) z z z S fun F O W=>sg z z<|nr<|sx0 z z<|g'<|sr<|sx0 z z<|ab' (fun (⟨k,h,o⟩:(List Int)×Option Ow×Mem)=>[(5,.slice F (m.length:Int).toNat ((m.length:Int).toNat))]) (fun ⟨k,h,o⟩=>Mem.le x o/\RowR (Rp.int .u32) 182 o (.slice F (m.length:Int).toNat ((m.length:Int).toNat)) k h/\(Zdy k).Ret r) (fun ⟨k,h,o⟩=>St V x o [(4011,h)]) ?_ ?_
 .refine y' ?_
  let A:(List Int)->Prop:=fun oo=>((fun ov=>match ov with|k=>Zdy k:(List Int)->Cq (List Int)) oo).wp (fun a=>a=r)
  replace hr:(Cq.loop _ _).wp A:=hr
  refine ac' (Φ:=A) (fun (⟨g,d,c,p,l⟩:(List Int)×Option Ow×Int×Int×Mem)=>((g,c,p):(List Int)×Int×Int)) (fun ⟨g,d,c,p,l⟩=>[(0,.slice y m.length C),(1,.slice v E.length B),(5,.slice F (m.length:Int).toNat ((m.length:Int).toNat)),(6,.int .u64 c),(7,i' p)]) (fun ⟨g,d,c,p,l⟩=>Mem.le x l/\RowR (Rp.int .u32) 182 l (.slice F (m.length:Int).toNat ((m.length:Int).toNat)) g d) (fun ⟨g,d,c,p,l⟩=>St V x l [(4011,d)]) ⟨(List.replicate (m.length:Int).toNat 0),O,0,0,x⟩ hr (f5 z z z z z) ⟨mr,W⟩ (w1 z) ?_
  .intro ao gx hx hr
   obtain⟨g,d,c,p,l⟩:=gx
   obtain⟨j,q⟩:=hx
   refine g'<|sr<|mv z z<|mv z z<|yy (O' p' (s.mono j) z) z<|yy (aa' z z) z<|nx<|P' hr z (fun Y hr=>?_) (fun Y hr=>?_)
   .refine n'<|b'<|g'<|y'<|g'<|ak' [ff,ff,ff,ff,ff,ff,ff,ff,ff,ff,ff] mix (by kernel_rfl) fun hb=>cn (fun _ f=>c' z)<|cn (fun _ f=>c' z) ?_
    obtain⟨I,K,hr⟩:=hr
    refine cn (fun _ f=>V' p' aP' ((s.mono j).mono f) z z K)<|cn (fun _ f=>aj' bu' z (aJ' (J' (J' (Z' s K) j) f)))<|cn (fun _ f=>av' ag' ad' z)<|cn (fun _ f=>W' z z)<|cn (fun _ f=>c' z)<|cn (fun _ f=>c' z) ?_
    obtain⟨t,L,hr⟩:=hr
    refine bL' z (fun _=>m' E171 z) (cU' L) z (fun G' f=>((X.mono j).mono f))<|cn (fun _ f=>ba' z z)<|cn (fun _ f=>c' z)<|ah' hb<|yy (ba' z z) z<|sg z z<|q'<|am'<|b'<|sr<|mv z z<|mv z z<|mv z z<|yy (bP' z z (by decide)) z<|yy (av' ad' ag' z) z ?_
    obtain⟨x2,J,hr⟩:=hr
    refine yy (bs' p' aP' q z z J) z<|bT' (r:=(Rp.int .u32)) (e:=182) (cs':=[.int .u32 (u32.wrap (Int.tmod (u64.wrap ((u64.wrap ((u64.wrap (4294967296+(u64.wrap I)))-t))-c)) 4294967296))]) (i:=p) (z':=u32.wrap (Int.tmod (u64.wrap ((u64.wrap ((u64.wrap (4294967296+(u64.wrap I)))-t))-c)) 4294967296)) 4011 z aP' z q z z z z z J fun T R=>nx<|x'<|mv z z<|yy (cV' z z (by decide)) z<|yy (ba' z z) z<|sg z z<|q'<|F'<|b'<|x'<|mv z z<|yy (W' z z) z<|sg z z<|q'<|T' ⟨(g.set p.toNat (u32.wrap (Int.tmod (u64.wrap ((u64.wrap ((u64.wrap (4294967296+(u64.wrap I)))-t))-c)) 4294967296))),T,u64.wrap (1-(u64.wrap (Int.tdiv (u64.wrap ((u64.wrap ((u64.wrap (4294967296+(u64.wrap I)))-t))-c)) 4294967296))),i64.wrap (p+1),l⟩ hr ⟨j,R⟩ (f5 z z z z z) (w1 z)
   refine ae'<|h'<|h'<|I'<|af' ⟨g,d,l⟩ ⟨j,q,hr⟩ (f1 z) (w1 z)
 rintro⟨k,h,o⟩ ⟨Z,H,hr⟩
 refine b'<|sr<|mv z z<|bV' (r:=(Rp.int .u32)) (e:=182) 4011 H z (by rw[U]; rfl) (fun am al ac D aa=>?_)
 obtain⟨an,Q,hr⟩:=hr
 refine N' z z (m' E170 z) (dm' Q) (by rw[cX' D]) ((cY' D)) (fun ae ap ab u=>?_)
 obtain⟨ag,af,rfl,M⟩:=u
 refine sx0 z z<|k' ?_
 obtain rfl:_=r:=hr
 exact j' z z ⟨_,_,z,M⟩
theorem eg'{H F f d e g r}(hr:(ZgS H F).Ret r):Ctr prog 158 #[.agg ((v57' H f d)).toArray,.agg ((v57' F e g)).toArray] (fun G=>sl (Rp.int .u32) G f d H.mag/\sl (Rp.int .u32) G e g F.mag) (fun G v=>∃ n q l s,v = .tuple #[.agg ((v57' r.1 n q)).toArray,.agg ((v57' r.2.1 l s)).toArray,i' r.2.2]/\sl (Rp.int .u32) G n q r.1.mag/\sl (Rp.int .u32) G l s r.2.1.mag):=by
 refine H' (args:=[_,_]) (N:=46) func158 z z z (fun w0 G0 aw ab=>?_)
 obtain⟨Q,D⟩:=ab
 refine sr<|ai' 2 z z z fun V=>ai' 3 z z z fun T=>X' 4 z z57 z fun W=>X' 5 z z57 z fun S=>sx0 z z<|g'<|sr<|yy (as' z) z<|yy (o' 3 be' z z z) z<|yy (O' p' D z) z<|yy (aH' z z) z<|nx<|P' hr z (fun ai hr=>?_) (fun ai hr=>?_)
 .exact (show False from hr).elim
 refine n'<|b'<|sr<|yy (as' z) z<|yy (o' 2 be' z z z) z<|yy (as' z) z<|yy (o' 3 be' z z z) z ?_
 obtain⟨m,ac,hr⟩:=hr
 refine N' z z (m' E190 z) (ez' ac) z (⟨Q,D⟩) (fun ap I ao L=>?_)
 obtain⟨y,u,x,C,rfl,R,A⟩:=L
 refine mv z z<|yy (R' z z) z<|yy (R' z z) z<|sg z z<|sx0 z z<|aO' (fun (⟨J,E,B,o,k,h,j⟩:(List Int)×Option Addr×Nat×(List Int)×Option Addr×Nat×Mem)=>[(2,pt0 V),(3,pt0 T),(4,pt0 W),(5,pt0 S),(7,.slice E J.length B),(8,.slice k o.length h)]) (fun ⟨J,E,B,o,k,h,j⟩=>Mem.le I j/\sl (Rp.int .u32) j E B J/\sl (Rp.int .u32) j k h o/\(ZbV H F J o).Ret r) (fun ⟨J,E,B,o,k,h,j⟩=>St w0 G0 j [(2,bk0 V (v57' H f d) 57),(3,bk0 T (v57' F e g) 57),(4,bk0 W ([.bool false,.slice none 0 0]) 57),(5,bk0 S ([.bool false,.slice none 0 0]) 57)]) ?_ ?_
 .refine aO' (fun (⟨c,p⟩:Bool×Mem)=>[(2,pt0 V),(3,pt0 T),(4,pt0 W),(5,pt0 S),(7,.slice y m.1.length u),(8,.slice x m.2.length C),(29,.bool c)]) (fun ⟨c,p⟩=>Mem.le I p/\(Zc9 H F m c).Ret r) (fun ⟨c,p⟩=>St w0 G0 p [(2,bk0 V (v57' H f d) 57),(3,bk0 T (v57' F e g) 57),(4,bk0 W ([.bool false,.slice none 0 0]) 57),(5,bk0 S ([.bool false,.slice none 0 0]) 57)]) ?_ ?_
  .refine x'<|yy (aQ' z) z<|aE' hr z (db' (o' 2 sc4 z z z) (congrArg Value.bool (bdec _))) z (fun am hr=>?_) (fun am hr=>?_)
   .refine mv z z<|gy z z (c' z) z<|gy z z (O' p' A z) z<|gy z z (aS' z z) z<|yy (w' z z) z<|q'<|ax' ⟨decide (0<(m.2.length:Int)),I⟩ ⟨mr,hr⟩ (f7 z z z z z z z) (w4 z z z z)
   refine mv z z<|sn3 z<|yy (t' z z) z<|q'<|ax' ⟨false,I⟩ ⟨mr,hr⟩ (f7 z z z z z z z) (w4 z z z z)
  rintro⟨c,p⟩ ⟨t,hr⟩
  refine aK' hr z (fun ak hr=>?_) (fun ak hr=>?_)
  .exact (show False from hr).elim
  refine n'<|ax' ⟨m.1,y,u,m.2,x,C,p⟩ ⟨t,(R.mono t),(A.mono t),hr⟩ (f6 z z z z z z) (w4 z z z z)
 rintro⟨J,E,B,o,k,h,j⟩ ⟨an,aj,aa,hr⟩
 refine sr<|yy (aQ' z) z<|yy (o' 2 sc4 z z z) z<|yy (aQ' z) z<|yy (o' 3 sc4 z z z) z<|yy (Y0.neqB bf' z z) z<|mv z z ?_
 obtain⟨au,Y,hr⟩:=hr
 refine N' z z (m' E114 z) (cw' Y) z (aj) (fun ar ax X P=>?_)
 obtain⟨ae,ad,rfl,M⟩:=P
 refine mv z z ?_
 obtain⟨av,Z,hr⟩:=hr
 refine N' z z (m' E114 z) (cw' Z) z ((aa.mono X)) (fun aq ay U K=>?_)
 obtain⟨ag,af,rfl,O⟩:=K
 refine B' 4 z bn' z z z z z (List.all_eq_true.1 z)<|B' 5 z bn' z z z z z (List.all_eq_true.1 z)<|sx0 z z<|k' ?_
 obtain rfl:_=r:=hr
 exact WE.ret3 z (aw' (i:=4) at' z z z) (aw' (i:=5) at' z z z) z ⟨_,_,_,_,z,(M.mono U),O⟩
theorem eV'{t q d c g f r}(hr:(ZcZ t q).Ret r):Ctr prog 123 #[.agg ((v57' t d c)).toArray,.agg ((v57' q g f)).toArray] (fun G=>sl (Rp.int .u32) G d c t.mag/\sl (Rp.int .u32) G g f q.mag) (w57' r):=by
 refine H' (args:=[_,_]) (N:=16) func123 z z z (fun H F B s=>?_)
 obtain⟨k,j⟩:=s
 refine sr<|ai' 2 z z z fun C=>ai' 3 z z z fun I=>X' 4 z z57 z fun E=>nr<|yy (D' 2 at' z z z) z<|yy (D' 3 at' z z z) z ?_
 obtain⟨A,u,hr⟩:=hr
 refine N' z z (m' E158 z) (eg' u) z (⟨k,j⟩) (fun x y v h=>?_)
 obtain⟨p,o,l,m,rfl,e,n⟩:=h
 refine mv z z<|yy (R' z z) z<|yy (R' z z) z<|yy (R' z z) z<|X' 5 z z57 z fun J=>X' 6 z z57 z fun D=>B' 5 z bn' z z z z z (List.all_eq_true.1 z)<|B' 6 z bn' z z z z z (List.all_eq_true.1 z)<|sg z z<|nr<|yy (D' 5 at' z z z) z<|B' 4 z bn' z z z z z (List.all_eq_true.1 z)<|nx<|k' ?_
 obtain rfl:_=r:=hr
 exact j' z (aw' (i:=4) at' z z z) ⟨_,_,z,e⟩
theorem dD'{P M o l p m r}(hr:(ZaP P M).Ret r):Ctr prog 64 #[.agg ((v57' P o l)).toArray,.agg ((v57' M p m)).toArray] (fun G=>sl (Rp.int .u32) G o l P.mag/\sl (Rp.int .u32) G p m M.mag) (w59' r):=by
 refine H' (args:=[_,_]) (N:=21) func64 z z z (fun w0 G0 al V=>?_)
 obtain⟨B,n⟩:=V
 refine sr<|ai' 2 z z z fun X=>ai' 3 z z z fun b2=>X' 4 z z59 z fun Y=>nr<|yy (D' 2 at' z z z) z<|yy (D' 3 at' z z z) z ?_
 obtain⟨Z,W,hr⟩:=hr
 refine N' z z (m' E120 z) (em' W) z (⟨B,n⟩) (fun ad R y I=>?_)
 obtain⟨E,F,rfl,K⟩:=I
 refine X' 5 z z57 z fun b4=>B' 5 z bn' z z z z z (List.all_eq_true.1 z)<|nx<|aO' (fun (⟨q,c,e,u⟩:Zb×Option Addr×Nat×Mem)=>[(2,pt0 X),(3,pt0 b2),(4,pt0 Y),(5,pt0 b4)]) (fun ⟨q,c,e,u⟩=>Mem.le R u/\sl (Rp.int .u32) u c e q.mag/\(ZeZ P M q).Ret r) (fun ⟨q,c,e,u⟩=>St w0 G0 u [(2,bk0 X (v57' P o l) 57),(3,bk0 b2 (v57' M p m) 57),(4,bk0 Y ([.bool false,.slice none 0 0,.bool false,.slice none 0 0]) 59),(5,bk0 b4 (v57' q c e) 57)]) ?_ ?_
 .refine sr<|yy (D' 3 at' z z z) z ?_
  obtain⟨ai,T,hr⟩:=hr
  refine K' z z (m' E121 z) (ec' T) z ((n.mono y))<|yy (aa' z z) z<|nx<|P' hr z (fun ac hr=>?_) (fun ac hr=>?_)
  .exact (show False from hr).elim
  refine n'<|ax' ⟨Z,E,F,R⟩ ⟨mr,K,hr⟩ (f4 z z z z) (w4 z z z z)
 rintro⟨q,c,e,u⟩ ⟨C,s,hr⟩
 refine g'<|ak' [ff,ff,ff,ff,ff] mix (by kernel_rfl) fun hb=>cn (fun _ k=>D' 2 at' z z z)<|cn (fun _ k=>D' 5 at' z z z) ?_
 obtain⟨A,S,hr⟩:=hr
 refine az' (post:=w57' A) (fun _=>z) (fun _ _=>m' E123 z) (eV' S) z (fun G' k=>⟨((B.mono (mx y C)).mono k),(s.mono k)⟩) (fun v G1 G2 k h=>?_) ?_
 .obtain⟨j,f,rfl,g⟩:=h
  exact⟨_,_,z,g.mono k⟩
 refine cu (fun _ _ k=>D' 3 at' z z z)<|cu (fun _ _ k=>D' 5 at' z z z)<|bi' (d:=16) (post:=w57' A) (fun ah aj D L=>?_)
 obtain⟨j,f,rfl,g⟩:=L
 obtain⟨O,U,hr⟩:=hr
 refine N' z z (m' E123 z) (eV' U) z (⟨(n.mono (mx (mx y C) D)),(s.mono D)⟩) (fun ag ak Q H=>?_)
 obtain⟨x,t,rfl,J⟩:=H
 refine yy (au' (vs:=#[(0,.agg ((v57' A j f)).toArray),(1,.agg ((v57' O x t)).toArray)]) (v:=.agg ([.bool A.neg,.slice j A.mag.length f,.bool O.neg,.slice x O.mag.length t]).toArray) z z (fun _=>by kernel_rfl)) z<|B' 4 z ch' z z z z z (List.all_eq_true.1 z)<|q'<|am'<|b'<|k' ?_
 obtain rfl:_=r:=hr
 exact j' z (aw' (i:=4) bc' z z z) ⟨_,_,_,_,z,(g.mono Q),J⟩
theorem fW'{q p m g k j l e c f r}(hr:(Zds q p).Ret r):Ctr prog 67 #[.agg ((v59' q m g k j)).toArray,.agg ((v59' p l e c f)).toArray] (fun G=>sl (Rp.int .u32) G m g q.num.mag/\sl (Rp.int .u32) G k j q.den.mag/\sl (Rp.int .u32) G l e p.num.mag/\sl (Rp.int .u32) G c f p.den.mag) (w59' r):=by
 refine H' (args:=[_,_]) (N:=16) func67 z z z (fun w0 G0 af S=>?_)
 obtain⟨A,u,x,y⟩:=S
 refine sr<|ai' 2 z z z fun b2=>ai' 3 z z z fun b3=>X' 4 z z59 z fun b4=>nx<|g'<|ak' [ff,ff,ff,ff,ff,ff,ff,ff,ff] mix (by kernel_rfl) fun hb=>cn (fun _ n=>bk' z)<|cn (fun _ n=>al' ((v57' q.num m g)).toArray 2 at' z z z (ap' ([]) ((v57' q.num m g)) ((v57' q.den k j))))<|cn (fun _ n=>bk' z)<|cn (fun _ n=>al' ((v57' p.num l e)).toArray 3 at' z z z (ap' ([]) ((v57' p.num l e)) ((v57' p.den c f)))) ?_
 obtain⟨P,T,hr⟩:=hr
 refine az' (post:=w57' P) (fun _=>z) (fun _ _=>m' E63 z) (cJ' T) z (fun G' n=>⟨(A.mono n),(x.mono n)⟩) (fun v G1 G2 n h=>?_) ?_
 .obtain⟨C,D,rfl,o⟩:=h
  exact⟨_,_,z,o.mono n⟩
 refine cu (fun _ _ n=>aY' z)<|cu (fun _ _ n=>al' ((v57' q.den k j)).toArray 2 at' z z z (ap' ((v57' q.num m g)) ((v57' q.den k j)) ([])))<|cu (fun _ _ n=>aY' z)<|cu (fun _ _ n=>al' ((v57' p.den c f)).toArray 3 at' z z z (ap' ((v57' p.num l e)) ((v57' p.den c f)) ([])))<|bi' (d:=9) (post:=w57' P) (fun X aa B F=>?_)
 obtain⟨C,D,rfl,o⟩:=F
 obtain⟨ab,Q,hr⟩:=hr
 refine N' z z (m' E63 z) (cJ' Q) z (⟨(u.mono B),(y.mono B)⟩) (fun Z ad L I=>?_)
 obtain⟨V,U,rfl,H⟩:=I
 obtain⟨ac,R,hr⟩:=hr
 refine N' z z (m' E64 z) (dD' R) z (⟨(o.mono L),H⟩) (fun Y ae W E=>?_)
 obtain⟨O,K,M,J,rfl,t,s⟩:=E
 refine B' 4 z ch' z z z z z (List.all_eq_true.1 z)<|q'<|am'<|b'<|k' ?_
 obtain rfl:_=r:=hr
 exact j' z (aw' (i:=4) bc' z z z) ⟨_,_,_,_,z,t,s⟩
theorem da'{Z m1 p1 D E C F aa ad r}(hr:(Zbg Z m1 p1).Ret r):Ctr prog 27 #[.agg ((v59' Z D E C F)).toArray,.agg (vecG (Value.int .i64) 8 m1).toArray,.slice aa p1.length ad] (fun G=>sl (Rp.int .u32) G D E Z.num.mag/\sl (Rp.int .u32) G C F Z.den.mag/\sl a' G aa ad p1) (wlt' a' r):=by
 refine H' (args:=[_,_,_]) (N:=47) func27 z z z (fun w0 G0 Y av=>?_)
 obtain⟨M,L,Q⟩:=av
 refine sr<|ai' 3 z z z fun b1=>ai' 4 z z z fun b2=>sg z z<|sg z z<|nr<|aF' (e:=119) (r:=a') (vs:=#[]) (cs:=[]) ([]:List Za) z z z z z (by decide) (fun _=>by kernel_rfl) (z) (key:=999) z (by rw[Y]; rfl) fun p2 ac n aF=>sx0 z z<|g'<|sr<|yy (D' 3 bc' z z z) z ?_
 obtain⟨a0,ap,hr⟩:=hr
 refine K' z z (m' E65 z) (cT' ap) z (⟨(M.mono n),(L.mono n)⟩)<|yy (aH' z z) z<|nx<|P' hr z (fun aM hr=>?_) (fun aM hr=>?_)
 .refine sr<|sg z z<|sx0 z z<|k'<|f' ?_
  obtain rfl:_=r:=hr
  exact bd' z z z ⟨_,_,z,(ay' a' _)⟩
 refine n'<|b'<|g'<|sr<|sx0 z z<|ab' (fun (⟨t,I,H,B,O⟩:(List Za)×Option Addr×Nat×Option Ow×Mem)=>[(8,.slice I t.length H)]) (fun ⟨t,I,H,B,O⟩=>Mem.le ac O/\sl a' O I H t/\Tok 12 119 (.slice I t.length H) t.length B/\(ZdC t).Ret r) (fun ⟨t,I,H,B,O⟩=>St w0 G0 O [(1008,B)]) ?_ ?_
 .refine y' ?_
  let ab:(((List Za)×Int)⊕(List Za))->Prop:=fun oo=>((fun ov=>match ov with | .inl rv1=>Cq.ret rv1 | .inr t=>ZdC t:(((List Za)×Int)⊕(List Za))->Cq ((List Za)×Int)) oo).wp (fun a=>a=r)
  replace hr:(Cq.loop _ _).wp ab:=hr
  refine ac' (Φ:=ab) (fun (⟨o,s,q,p,T,K⟩:(List Za)×Option Addr×Nat×Option Ow×Int×Mem)=>((o,T):(List Za)×Int)) (fun ⟨o,s,q,p,T,K⟩=>[(2,.slice aa p1.length ad),(3,pt0 b1),(4,pt0 b2),(8,.slice s o.length q),(9,i' T)]) (fun ⟨o,s,q,p,T,K⟩=>Mem.le ac K/\sl a' K s q o/\Tok 12 119 (.slice s o.length q) o.length p) (fun ⟨o,s,q,p,T,K⟩=>St w0 G0 K [(3,bk0 b1 (v59' Z D E C F) 59),(4,bk0 b2 (vecG (Value.int .i64) 8 m1) 68),(1008,p)]) ⟨[],p2,0,none,0,ac⟩ hr (f5 z z z z z) ⟨mr,aF,cb'⟩ (wk (lc z (lc z (lw ln)))) ?_
  .intro aX gx hx hr
   obtain⟨o,s,q,p,T,K⟩:=gx
   obtain⟨m,U,P⟩:=hx
   refine g'<|sr<|mv z z<|mv z z<|yy (O' C' (Q.mono (mx n m)) z) z<|yy (aa' z z) z<|nx<|P' hr z (fun aC hr=>?_) (fun aC hr=>?_)
   .refine n'<|b'<|g'<|y'<|g'<|ak' [ff,ff,ff,ff,ff,ff,ff,ff,ff,tt,ff] mix (by kernel_rfl) fun hb=>cn (fun _ k=>D' 4 bo' z z (Q' _ _ _))<|cn (fun _ k=>c' z)<|cn (fun _ k=>c' z) ?_
    obtain⟨x1,am,hr⟩:=hr
    refine cn (fun _ k=>V' C' aW' ((Q.mono (mx n m)).mono k) z z am)<|cn (fun _ k=>aM' z)<|cn (fun _ k=>ao' _ bo' z (Q' _ _ _) (bK' (J' (J' (bq' (aG' (Z' Q am))) (mx n m)) k))) ?_
    obtain⟨J,aq,hr⟩:=hr
    refine bL' z (fun _=>m' E66 z) (fU' aq) z (fun G' k=>trivial)<|cn (fun _ k=>c' z)<|cn (fun _ k=>R' z z)<|cv' z (R' z z)<|bN' (fun _=>z) z68<|Chain.tail1 hb fun b3=>B' 10 z sz68 z z z (Q' _ _ _) (Q' _ _ _) (fun u hu=>Rp.one (bD' .i64 8) (G:=K) (x:=J.1) (cs:=vecG (Value.int .i64) 8 J.1) z u (by first|simpa using hu|simpa [Value.cells] using hu))<|sg z z<|q'<|am'<|b'<|g'<|sr<|mv z z<|yy (bp' z z) z<|nx<|P' hr z (fun aG hr=>?_) (fun aG hr=>?_)
    .exact (show False from hr).elim
    refine n'<|b'<|ak' [tt,ff,ff,ff,ff,ff,ff,ff,ff] mix (by kernel_rfl) fun hb=>cv' z (c' z)<|cn (fun _ k=>D' 3 bc' z z z)<|cn (fun _ k=>c' z)<|cn (fun _ k=>c' z) ?_
    obtain⟨x2,ah,hr⟩:=hr
    refine cn (fun _ k=>V' C' aW' ((Q.mono (mx n m)).mono k) z z ah)<|cn (fun _ k=>aV' z) ?_
    obtain⟨aj,ak,al,ai,ay,S,R⟩:=ce' (J' (br' (aG' (Z' Q ah))) (mx n m))
    refine cn (fun _ k=>ao' _ bc' z z (fun j v hv=>k _ _ _ (ay j v hv))) ?_
    obtain⟨l,au,hr⟩:=hr
    refine az' (post:=w59' l) (fun _=>z) (fun _ _=>m' E67 z) (fW' au) z (fun G' k=>⟨((M.mono (mx n m)).mono k),((L.mono (mx n m)).mono k),(S.mono k),(R.mono k)⟩) (fun v G1 G2 k h=>?_) ?_
    .obtain⟨i,c,f,g,rfl,y,A⟩:=h
     exact⟨_,_,_,_,z,y.mono k,A.mono k⟩
    refine cu (fun _ _ k=>D' 10 bo' z z (Q' _ _ _))<|bi' (d:=41) (post:=w59' l) (fun aQ aZ W X=>?_)
    obtain⟨i,c,f,g,rfl,y,A⟩:=X
    refine yy (au' (vs:=#[(0,.agg ((v59' l i c f g)).toArray),(1,.agg (vecG (Value.int .i64) 8 J.1).toArray)]) (v:=.agg (((v59' l i c f g):List Value)++(vecG (Value.int .i64) 8 J.1)).toArray) z z (fun _=>by kernel_rfl)) z<|aF' (e:=119) (r:=a') (vs:=#[(0,.agg (((v59' l i c f g):List Value)++(vecG (Value.int .i64) 8 J.1)).toArray)]) (cs:=(((v59' l i c f g):List Value)++(vecG (Value.int .i64) 8 J.1))++([])) ([(Za.mk l J.1)]:List Za) z z z z z (by decide) (fun _=>by kernel_rfl) ⟨((v59' l i c f g):List Value)++(vecG (Value.int .i64) 8 J.1),[],z,⟨(v59' l i c f g),vecG (Value.int .i64) 8 J.1,z,⟨(v57' l.num i c),(v57' l.den f g),z,⟨[.bool l.num.neg],[.slice i l.num.mag.length c],z,z,⟨_,z,y⟩⟩,⟨[.bool l.den.neg],[.slice f l.den.mag.length g],z,z,⟨_,z,A⟩⟩⟩,z⟩,z⟩ (key:=999) z (by rw[Y]; rfl) (fun p3 aY V aE=>?_)
    obtain⟨ao,hr⟩:=hr
    refine bb' (r:=a') 1008 z z C' el119 z (by decide) z z (U.mono (mx W V)) z (by rw[Y]; rfl) P aE ao fun p4 aB aw aJ ae az an=>sg z z<|q'<|am'<|F'<|b'<|x'<|mv z z<|yy (W' z z) z<|sg z z<|q'<|T' ⟨(o++[(Za.mk l J.1)]),p4,aB,aw,i64.wrap (T+1),aJ⟩ hr ⟨(mx (mx (mx m W) V) ae),az,an⟩ (f5 z z z z z) (w3 z z z)
   refine ae'<|h'<|h'<|I'<|af' ⟨o,s,q,p,K⟩ ⟨m,U,P,hr⟩ (f1 z) (w1 z)
 rintro⟨t,I,H,B,O⟩ ⟨aN,ag,aD,hr⟩
 refine b'<|sr<|mv z z<|sg z z<|sx0 z z<|k' ?_
 obtain rfl:_=r:=hr
 exact bd' z z z ⟨_,_,z,ag⟩
theorem bv'{I u n r}(hr:(ZE I u n).Ret r):Ctr prog 40 #[i' I,i' u,i' n] (fun G=>True) (wl' a' r):=by
 refine H' (args:=[_,_,_]) (N:=21) func40 z z z fun w0 G0 ac S=>sr<|sg z z<|nr<|mv z z ?_
 obtain⟨X,F,hr⟩:=hr
 refine N' z z (m' E26 z) (cc' F) z (trivial) (fun M U L j=>?_)
 obtain⟨t,y,p,x,rfl,c,e⟩:=j
 refine mv z z<|mv z z<|yy (au' (vs:=#[(0,i' u),(1,i' n)]) (v:=.agg (vecG (Value.int .i64) 8 (setF (setF (fun _=>0) 0 u) 1 n)).toArray) z z (fun _=>by kernel_rfl)) z ?_
 obtain⟨V,B,hr⟩:=hr
 refine N' z z (m' E26 z) (cc' B) z (trivial) (fun T aa h l=>?_)
 obtain⟨s,q,o,A,rfl,f,d⟩:=l
 obtain⟨Z,E,hr⟩:=hr
 refine N' z z (m' E51 z) (dn' E) z (⟨f,d⟩) (fun R ab g i=>?_)
 obtain⟨O,Q,rfl,D⟩:=i
 obtain⟨W,C,hr⟩:=hr
 refine N' z z (m' E27 z) (da' C) z (⟨(c.mono (mx h g)),(e.mono (mx h g)),D⟩) (fun P Y K k=>?_)
 obtain⟨J,H,rfl,m⟩:=k
 refine mv z z<|yy (R' z z) z<|yy (R' z z) z<|sg z z<|sg z z<|nr<|mv z z<|sx0 z z<|k' ?_
 obtain rfl:_=r:=hr
 exact j' z z ⟨_,_,z,m⟩
theorem eW'{k n f c d e m l r}(hr:(ZdV k n).Ret r):Ctr prog 80 #[.agg ((v59' k f c d e)).toArray,.slice m n.length l] (fun G=>sl (Rp.int .u32) G f c k.num.mag/\sl (Rp.int .u32) G d e k.den.mag/\sl a' G m l n) (wl' a' r):=by
 refine H' (args:=[_,_]) (N:=15) func80 z z z (fun E D B o=>?_)
 obtain⟨h,g,t⟩:=o
 refine sr<|ai' 2 z z z fun C=>sg z z<|nr<|yy (D' 2 bc' z z z) z<|yy (au' (vs:=#[]) (v:=.agg (vecG (Value.int .i64) 8 (fun _=>0)).toArray) z z (fun _=>by kernel_rfl)) z<|mv z z ?_
 obtain⟨A,p,hr⟩:=hr
 refine N' z z (m' E27 z) (da' p) z (⟨h,g,t⟩) (fun x y u i=>?_)
 obtain⟨s,q,rfl,j⟩:=i
 refine mv z z<|yy (R' z z) z<|yy (R' z z) z<|sg z z<|sg z z<|nr<|mv z z<|sx0 z z<|k' ?_
 obtain rfl:_=r:=hr
 exact j' z z ⟨_,_,z,j⟩
theorem dR'{q o r}(hr:(ZfO q o).Ret r):Ctr prog 81 #[.agg (vecG (Value.int .i64) 8 q).toArray,.agg (vecG (Value.int .i64) 8 o).toArray] (fun G=>True) (fun G v=>v=i' r):=by
 refine H' (args:=[_,_]) (N:=24) func81 z z z fun u i I D=>sr<|ai' 2 z z z fun x=>ai' 3 z z z fun s=>sx0 z z<|g'<|sr<|sx0 z z<|ab' (fun (f:Mem)=>match f with|e=>[]) (fun (f:Mem)=>match f with|e=>Mem.le i e/\(ZeC).Ret r) (fun (f:Mem)=>match f with|e=>St u i e []) ?_ ?_
 .refine y' ?_
  let j:(Int⊕Unit)->Prop:=fun E=>((fun C=>match C with | .inl rv1=>Cq.ret rv1 | .inr ()=>ZeC:(Int⊕Unit)->Cq Int) E).wp (fun a=>a=r)
  replace hr:(Cq.loop _ _).wp j:=hr
  refine ac' (Φ:=j) (fun (⟨g,d⟩:Int×Mem)=>(g:Int)) (fun ⟨g,d⟩=>[(2,pt0 x),(3,pt0 s),(5,i' g)]) (fun ⟨g,d⟩=>Mem.le i d) (fun ⟨g,d⟩=>St u i d [(2,bk0 x (vecG (Value.int .i64) 8 q) 68),(3,bk0 s (vecG (Value.int .i64) 8 o) 68)]) ⟨0,i⟩ hr (f3 z z z) mr (w2 z z) ?_
  .intro H f F hr
   obtain⟨g,d⟩:=f
   have h:=F
   refine g'<|sr<|mv z z<|yy (aa' z z) z<|nx<|P' hr z (fun A hr=>?_) (fun A hr=>?_)
   .refine n'<|b'<|g'<|y'<|g'<|g'<|ak' [ff,ff,ff,ff,ff,ff] mix (by kernel_rfl) fun p=>cn (fun _ c=>c' z) ?_
    obtain⟨k,hr⟩:=hr
    refine cn (fun _ c=>aT' ar' sz3 z z k)<|cn (fun _ c=>o' 2 sc3 z z (bh' _ _ _ k))<|cn (fun _ c=>c' z) ?_
    obtain⟨l,hr⟩:=hr
    refine cn (fun _ c=>aT' ar' sz3 z z l)<|cn (fun _ c=>o' 3 sc3 z z (bh' _ _ _ l))<|ah' p<|yy (aa' z z) z<|q'<|am'<|b'<|P' hr z (fun t hr=>?_) (fun t hr=>?_)
    .refine sr<|sx0 z z<|k'<|f'<|A'<|f'<|f'<|A'<|an'<|f' (k0' hr z z)
    refine n'<|b'<|g'<|ak' [ff,ff,ff,ff,ff,ff] mix (by kernel_rfl) fun p=>cn (fun _ c=>c' z) ?_
    obtain⟨n,hr⟩:=hr
    refine cn (fun _ c=>aT' ar' sz3 z z n)<|cn (fun _ c=>o' 2 sc3 z z (bh' _ _ _ n))<|cn (fun _ c=>c' z) ?_
    obtain⟨m,hr⟩:=hr
    refine cn (fun _ c=>aT' ar' sz3 z z m)<|cn (fun _ c=>o' 3 sc3 z z (bh' _ _ _ m))<|ah' p<|yy (aS' z z) z<|q'<|am'<|b'<|P' hr z (fun y hr=>?_) (fun y hr=>?_)
    .refine sr<|sx0 z z<|k'<|A'<|f'<|f'<|A'<|an'<|f' (k0' hr z z)
    refine n'<|F'<|b'<|x'<|mv z z<|yy (W' z z) z<|sg z z<|q'<|T' ⟨i64.wrap (g+1),d⟩ hr h (f3 z z z) (w2 z z)
   refine ae'<|h'<|h'<|I'<|af' d ⟨h,hr⟩ fn (wk ln)
 rintro e ⟨B,hr⟩
 refine b'<|sr<|sx0 z z<|k' (k0' hr z z)
theorem fX'{L K j g l k r}(hr:(ZjC L K).Ret r):Ctr prog 62 #[.agg ((v57' L j g)).toArray,.agg ((v57' K l k)).toArray] (fun G=>sl (Rp.int .u32) G j g L.mag/\sl (Rp.int .u32) G l k K.mag) (w57' r):=by
 refine H' (args:=[_,_]) (N:=40) func62 z z z (fun w0 G0 aA W=>?_)
 obtain⟨f,e⟩:=W
 refine sr<|ai' 2 z z z fun b2=>ai' 3 z z z fun b3=>X' 4 z z57 z fun b4=>nx<|g'<|sr<|yy (aQ' z) z<|yy (o' 2 sc4 z z z) z<|yy (aQ' z) z<|yy (o' 3 sc4 z z z) z<|yy (do' bf' z z) z<|nx<|P' hr z (fun ai hr=>?_) (fun ai hr=>?_)
 .refine g'<|ak' [ff,ff,ff,ff,ff,ff,ff] mix (by kernel_rfl) fun hb=>cn (fun _ c=>aQ' z)<|cn (fun _ c=>o' 2 sc4 z z z)<|cn (fun _ c=>as' z)<|cn (fun _ c=>o' 2 be' z z z)<|cn (fun _ c=>as' z)<|cn (fun _ c=>o' 3 be' z z z) ?_
  obtain⟨E,M,hr⟩:=hr
  refine az' (post:=wl' (Rp.int .u32) E) (fun _=>z) (fun _ _=>m' E116 z) (fL' M) z (fun G' c=>⟨(f.mono c),(e.mono c)⟩) (fun v G1 G2 c h=>?_) ?_
  .obtain⟨U,I,rfl,m⟩:=h
   exact⟨_,_,z,m.mono c⟩
  refine bi' (d:=16) (post:=wl' (Rp.int .u32) E) (fun aw aD an s=>?_)
  obtain⟨U,I,rfl,m⟩:=s
  obtain⟨aB,O,hr⟩:=hr
  refine N' z z (m' E114 z) (cw' O) z (m) (fun av az al B=>?_)
  obtain⟨Y,ac,rfl,x⟩:=B
  refine B' 4 z bn' z z z z z (List.all_eq_true.1 z)<|q'<|am'<|b'<|k'<|f' ?_
  obtain rfl:_=r:=hr
  exact j' z (aw' (i:=4) at' z z z) ⟨_,_,z,x⟩
 refine n'<|b'<|g'<|sr<|yy (as' z) z<|yy (o' 2 be' z z z) z<|yy (as' z) z<|yy (o' 3 be' z z z) z ?_
 obtain⟨aC,T,hr⟩:=hr
 refine K' z z (m' E117 z) (bS' T) z (⟨f,e⟩)<|yy (aa' z z) z<|nx<|P' hr z (fun ag hr=>?_) (fun ag hr=>?_)
 .refine g'<|ak' [ff,ff,ff,ff,ff,ff,ff] mix (by kernel_rfl) fun hb=>cn (fun _ c=>aQ' z)<|cn (fun _ c=>o' 3 sc4 z z z)<|cn (fun _ c=>as' z)<|cn (fun _ c=>o' 3 be' z z z)<|cn (fun _ c=>as' z)<|cn (fun _ c=>o' 2 be' z z z) ?_
  obtain⟨C,F,hr⟩:=hr
  refine az' (post:=wl' (Rp.int .u32) C) (fun _=>z) (fun _ _=>m' E118 z) (eU' F) z (fun G' c=>⟨(e.mono c),(f.mono c)⟩) (fun v G1 G2 c h=>?_) ?_
  .obtain⟨R,P,rfl,n⟩:=h
   exact⟨_,_,z,n.mono c⟩
  refine bi' (d:=30) (post:=wl' (Rp.int .u32) C) (fun au ax am t=>?_)
  obtain⟨R,P,rfl,n⟩:=t
  obtain⟨aG,S,hr⟩:=hr
  refine N' z z (m' E114 z) (cw' S) z (n) (fun aq aE ak u=>?_)
  obtain⟨ab,aa,rfl,y⟩:=u
  refine B' 4 z bn' z z z z z (List.all_eq_true.1 z)<|q'<|am'<|b'<|k'<|f' ?_
  obtain rfl:_=r:=hr
  exact j' z (aw' (i:=4) at' z z z) ⟨_,_,z,y⟩
 refine n'<|b'<|g'<|ak' [ff,ff,ff,ff,ff,ff,ff] mix (by kernel_rfl) fun hb=>cn (fun _ c=>aQ' z)<|cn (fun _ c=>o' 2 sc4 z z z)<|cn (fun _ c=>as' z)<|cn (fun _ c=>o' 2 be' z z z)<|cn (fun _ c=>as' z)<|cn (fun _ c=>o' 3 be' z z z) ?_
 obtain⟨D,H,hr⟩:=hr
 refine az' (post:=wl' (Rp.int .u32) D) (fun _=>z) (fun _ _=>m' E118 z) (eU' H) z (fun G' c=>⟨(f.mono c),(e.mono c)⟩) (fun v G1 G2 c h=>?_) ?_
 .obtain⟨Q,J,rfl,o⟩:=h
  exact⟨_,_,z,o.mono c⟩
 refine bi' (d:=38) (post:=wl' (Rp.int .u32) D) (fun ap aH aj p=>?_)
 obtain⟨Q,J,rfl,o⟩:=p
 obtain⟨aF,V,hr⟩:=hr
 refine N' z z (m' E114 z) (cw' V) z (o) (fun ar ay ao A=>?_)
 obtain⟨Z,X,rfl,q⟩:=A
 refine B' 4 z bn' z z z z z (List.all_eq_true.1 z)<|q'<|am'<|b'<|k' ?_
 obtain rfl:_=r:=hr
 exact j' z (aw' (i:=4) at' z z z) ⟨_,_,z,q⟩
theorem fY'{t s m o e k l n g j r}(hr:(ZfN t s).Ret r):Ctr prog 82 #[.agg ((v59' t m o e k)).toArray,.agg ((v59' s l n g j)).toArray] (fun G=>sl (Rp.int .u32) G m o t.num.mag/\sl (Rp.int .u32) G e k t.den.mag/\sl (Rp.int .u32) G l n s.num.mag/\sl (Rp.int .u32) G g j s.den.mag) (w59' r):=by
 refine H' (args:=[_,_]) (N:=22) func82 z z z (fun w0 G0 aA ak=>?_)
 obtain⟨I,A,J,y⟩:=ak
 refine sr<|ai' 2 z z z fun b2=>ai' 3 z z z fun b3=>X' 4 z z59 z fun b4=>nx<|g'<|ak' [ff,ff,ff,ff,ff,ff,ff,ff,ff,ff,ff,ff,ff,ff,ff] mix (by kernel_rfl) fun hb=>cn (fun _ c=>bk' z)<|cn (fun _ c=>al' ((v57' t.num m o)).toArray 2 at' z z z (ap' ([]) ((v57' t.num m o)) ((v57' t.den e k))))<|cn (fun _ c=>aY' z)<|cn (fun _ c=>al' ((v57' s.den g j)).toArray 3 at' z z z (ap' ((v57' s.num l n)) ((v57' s.den g j)) ([]))) ?_
 obtain⟨V,ag,hr⟩:=hr
 refine az' (post:=w57' V) (fun _=>z) (fun _ _=>m' E63 z) (cJ' ag) z (fun W c=>⟨(I.mono c),(y.mono c)⟩) (fun v G1 G2 c h=>?_) ?_
 .obtain⟨D,B,rfl,p⟩:=h
  exact⟨_,_,z,p.mono c⟩
 refine cu (fun _ _ c=>bk' z)<|cu (fun _ _ c=>al' ((v57' s.num l n)).toArray 3 at' z z z (ap' ([]) ((v57' s.num l n)) ((v57' s.den g j))))<|cu (fun _ _ c=>aY' z)<|cu (fun _ _ c=>al' ((v57' t.den e k)).toArray 2 at' z z z (ap' ((v57' t.num m o)) ((v57' t.den e k)) ([]))) ?_
 obtain⟨U,ah,hr⟩:=hr
 refine az' (post:=w57' U) (fun _=>z) (fun _ _=>m' E63 z) (cJ' ah) z (fun W c=>⟨(J.mono c),(A.mono c)⟩) (fun v G1 G2 c h=>?_) ?_
 .obtain⟨C,E,rfl,q⟩:=h
  exact⟨_,_,z,q.mono c⟩
 obtain⟨ae,aj,hr⟩:=hr
 refine bJ' (f:=62) (φ:=w57' ae) (fun _=>z) (fun v G1 G2 c h=>?_) (fun u W c hu=>?_) ?_
 .obtain⟨T,Q,rfl,x⟩:=h
  exact⟨_,_,z,x.mono c⟩
 .obtain⟨⟨C,E,Z,q⟩,⟨D,B,ac,p⟩,_⟩:=(show (w57' U) W.m (u 14)/\(w57' V) W.m (u 9)/\True from hu)
  exact⟨_,_,_,fun _=>m' E62 z,fX' aj,(by simp only[Z,ac] <;> rfl),⟨p,q⟩⟩
 refine cu (fun _ _ c=>aY' z)<|cu (fun _ _ c=>al' ((v57' t.den e k)).toArray 2 at' z z z (ap' ((v57' t.num m o)) ((v57' t.den e k)) ([])))<|cu (fun _ _ c=>aY' z)<|cu (fun _ _ c=>al' ((v57' s.den g j)).toArray 3 at' z z z (ap' ((v57' s.num l n)) ((v57' s.den g j)) ([])))<|cx' (d:=15) (post:=w57' ae) (d':=14) (post':=w57' U) (d'':=9) (post'':=w57' V) (fun ar av aw aC K R S M=>?_)
 obtain⟨T,Q,rfl,x⟩:=R
 obtain⟨C,E,rfl,q⟩:=S
 obtain⟨D,B,rfl,p⟩:=M
 obtain⟨ay,af,hr⟩:=hr
 refine N' z z (m' E63 z) (cJ' af) z (⟨(A.mono K),(y.mono K)⟩) (fun au az ab O=>?_)
 obtain⟨al,am,rfl,L⟩:=O
 obtain⟨aD,ai,hr⟩:=hr
 refine N' z z (m' E64 z) (dD' ai) z (⟨(x.mono ab),L⟩) (fun aq aB ap P=>?_)
 obtain⟨ad,X,Y,aa,rfl,F,H⟩:=P
 refine B' 4 z ch' z z z z z (List.all_eq_true.1 z)<|q'<|am'<|b'<|k' ?_
 obtain rfl:_=r:=hr
 exact j' z (aw' (i:=4) bc' z z z) ⟨_,_,_,_,z,F,H⟩
theorem dz'{I F S Y U V r}(hr:(ZcD I F).Ret r):Ctr prog 41 #[.slice S I.length Y,.slice U F.length V] (fun G=>sl a' G S Y I/\sl a' G U V F) (wl' a' r):=by
 refine H' (args:=[_,_]) (N:=109) func41 z z z (fun w0 G0 av bA=>?_)
 obtain⟨A,J⟩:=bA
 refine sr<|sg z z<|nr<|aF' (e:=119) (r:=a') (vs:=#[]) (cs:=[]) ([]:List Za) z z z z z (by decide) (fun _=>by kernel_rfl) (z) (key:=999) z (by rw[av]; rfl) fun p1 aY g bS=>sg z z<|nr<|sg z z<|sx0 z z<|g'<|ab' (fun (⟨aa,aj,ah,ae,az⟩:(List Za)×Option Addr×Nat×Option Ow×Mem)=>[(5,.slice aj aa.length ah)]) (fun ⟨aa,aj,ah,ae,az⟩=>Mem.le aY az/\sl a' az aj ah aa/\Tok 12 119 (.slice aj aa.length ah) aa.length ae/\(ZeE aa).Ret r) (fun ⟨aa,aj,ah,ae,az⟩=>St w0 G0 az [(1005,ae)]) ?_ ?_
 .refine y' ?_
  let ao:(List Za)->Prop:=fun oo=>((fun ov=>match ov with|aa=>ZeE aa:(List Za)->Cq (List Za)) oo).wp (fun a=>a=r)
  replace hr:(Cq.loop _ _).wp ao:=hr
  refine ac' (Φ:=ao) (fun (⟨C,H,E,D,M,o,af⟩:(List Za)×Option Addr×Nat×Option Ow×Int×Int×Mem)=>((C,M,o):(List Za)×Int×Int)) (fun ⟨C,H,E,D,M,o,af⟩=>[(0,.slice S I.length Y),(1,.slice U F.length V),(5,.slice H C.length E),(6,i' M),(7,i' o)]) (fun ⟨C,H,E,D,M,o,af⟩=>Mem.le aY af/\sl a' af H E C/\Tok 12 119 (.slice H C.length E) C.length D) (fun ⟨C,H,E,D,M,o,af⟩=>St w0 G0 af [(1005,D)]) ⟨[],p1,0,none,0,0,aY⟩ hr (f5 z z z z z) ⟨mr,bS,cb'⟩ (wk (lw ln)) ?_
  .intro aI gx hx hr
   obtain⟨C,H,E,D,M,o,af⟩:=gx
   obtain⟨d,aE,aw⟩:=hx
   refine aO' (fun (gx:Mem)=>match gx with|am=>[(0,.slice S I.length Y),(1,.slice U F.length V),(5,.slice H C.length E),(6,i' M),(7,i' o)]) (fun (gx:Mem)=>match gx with|am=>Mem.le af am/\(ZaQ I F C M o).wp (Out aI ao)) (fun (gx:Mem)=>match gx with|am=>St w0 G0 am [(1005,D)]) ?_ ?_
   .refine sr<|mv z z<|mv z z<|yy (O' C' (A.mono (mx g d)) z) z<|aE' hr z (aa' z z) z (fun b3 hr=>?_) (fun b3 hr=>?_)
    .refine mv z z<|sn4 z<|yy (w' z z) z<|nx<|aB' z<|n'<|ax' af ⟨mr,hr⟩ (f5 z z z z z) (w1 z)
    refine mv z z<|gy z z (c' z) z<|gy z z (c' z) z<|gy z z (O' C' (J.mono (mx g d)) z) z<|gy z z (aa' z z) z<|yy (t' z z) z<|nx<|P' hr z (fun bO hr=>?_) (fun bO hr=>?_)
    .refine n'<|ax' af ⟨mr,hr⟩ (f5 z z z z z) (w1 z)
    refine ae'<|h'<|h'<|I'<|af' ⟨C,H,E,D,af⟩ ⟨d,aE,aw,hr⟩ (f1 z) (w1 z)
   rintro am ⟨f,hr⟩
   refine y'<|aO' (fun (⟨L,W,X,R,K,an⟩:(List Za)×Option Addr×Nat×Option Ow×Int×Mem)=>[(0,.slice S I.length Y),(1,.slice U F.length V),(5,.slice W L.length X),(6,i' K),(7,i' o)]) (fun ⟨L,W,X,R,K,an⟩=>Mem.le am an/\sl a' an W X L/\Tok 12 119 (.slice W L.length X) L.length R/\(Zcj I F o L K).wp (Out aI ao)) (fun ⟨L,W,X,R,K,an⟩=>St w0 G0 an [(1005,R)]) ?_ ?_
   .refine aO' (fun (⟨ar,ay⟩:Bool×Mem)=>[(0,.slice S I.length Y),(1,.slice U F.length V),(5,.slice H C.length E),(6,i' M),(7,i' o),(43,.bool ar)]) (fun ⟨ar,ay⟩=>Mem.le am ay/\(Zat I F C M o ar).wp (Out aI ao)) (fun ⟨ar,ay⟩=>St w0 G0 ay [(1005,D)]) ?_ ?_
    .refine ak' [ff,ff,ff,ff,ff,ff,ff,ff,ff,ff,ff,ff,ff,ff,ff,ff,ff,ff,ff,ff] mix (by kernel_rfl) fun hb=>cn (fun _ c=>c' z)<|cn (fun _ c=>c' z)<|cn (fun _ c=>O' C' ((J.mono (mx (mx g d) f)).mono c) z)<|bG' hr z (fun _ c=>aH' z z) (fun bR hr=>?_) (fun bR hr=>?_)
     .refine cn (fun _ c=>c' z)<|cf z z<|cf z z<|cf z z<|cf z z<|cf z z<|cs z z<|cs z z<|cs z z<|cs z z<|cs z z<|cs z z<|cs z z<|cs z z<|cs z z<|cs z z<|ah' hb<|aX' (aq' z z) z<|aX' (aq' z z) z<|sf z z z<|yy (w' z z) z<|q'<|am'<|ax' ⟨true,am⟩ ⟨mr,hr⟩ (f6 z z z z z z) (w1 z)
     refine cn (fun _ c=>c' z)<|cy z z (fun _ c=>c' z)<|cy z z (fun _ c=>c' z)<|cy z z (fun _ c=>O' C' ((A.mono (mx (mx g d) f)).mono c) z)<|bG' hr (E' z z) (fun _ c=>aa' z z) (fun bV hr=>?_) (fun bV hr=>?_)
     .refine cy z z (fun _ c=>c' z)<|cy z z (fun _ c=>c' z)<|cy z z (fun _ c=>c' z) ?_
      obtain⟨x8,bj,hr⟩:=hr
      refine cy z z (fun _ c=>V' C' aW' ((A.mono (mx (mx g d) f)).mono c) z z bj)<|cy z z (fun _ c=>aM' z)<|cy z z (fun _ c=>ao' _ bo' z (Q' _ _ _) (bK' (J' (J' (bq' (aG' (Z' A bj))) (mx (mx g d) f)) c)))<|cy z z (fun _ c=>c' z)<|cy z z (fun _ c=>c' z) ?_
      obtain⟨x9,bi,hr⟩:=hr
      refine cy z z (fun _ c=>V' C' aW' ((J.mono (mx (mx g d) f)).mono c) z z bi)<|cy z z (fun _ c=>aM' z)<|cy z z (fun _ c=>ao' _ bo' z (Q' _ _ _) (bK' (J' (J' (bq' (aG' (Z' J bi))) (mx (mx g d) f)) c)))<|ah' hb ?_
      obtain⟨bF,bl,hr⟩:=hr
      refine K' (E' z z) z (m' E81 z) (dR' bl) z (trivial)<|gy z z (aS' z z) z<|gy z z (w' z z) z<|yy (t' z z) z<|q'<|am'<|ax' ⟨decide (0<bF),am⟩ ⟨mr,hr⟩ (f6 z z z z z z) (w1 z)
     refine cy z z (fun _ c=>c' z)<|ct z z<|ct z z<|ct z z<|ct z z<|ct z z<|ct z z<|ct z z<|ct z z<|ct z z<|ct z z<|ah' hb<|sn2 z<|gy z z (t' z z) z<|yy (t' z z) z<|q'<|am'<|ax' ⟨false,am⟩ ⟨mr,hr⟩ (f6 z z z z z z) (w1 z)
    rintro⟨ar,ay⟩ ⟨ai,hr⟩
    refine aK' hr z (fun bW hr=>?_) (fun bW hr=>?_)
    .refine sr<|mv z z<|mv z z<|mv z z ?_
     obtain⟨x7,bh,hr⟩:=hr
     refine yy (V' C' aW' (A.mono (mx (mx (mx g d) f) ai)) z z bh) z ?_
     obtain⟨p,q,s,u,bN,aF,aG⟩:=bM' (J' (Z' A bh) (mx (mx (mx g d) f) ai))
     refine yy (ao' _ cF' z z bN) z<|aF' (e:=119) (r:=a') (vs:=#[(0,.agg (((v59' x7.c p q s u):List Value)++(vecG (Value.int .i64) 8 x7.m)).toArray)]) (cs:=(((v59' x7.c p q s u):List Value)++(vecG (Value.int .i64) 8 x7.m))++([])) ([x7]:List Za) z z z z z (by decide) (fun _=>by kernel_rfl) ⟨((v59' x7.c p q s u):List Value)++(vecG (Value.int .i64) 8 x7.m),[],z,⟨(v59' x7.c p q s u),vecG (Value.int .i64) 8 x7.m,z,⟨(v57' x7.c.num p q),(v57' x7.c.den s u),z,⟨[.bool x7.c.num.neg],[.slice p x7.c.num.mag.length q],z,z,⟨_,z,aF⟩⟩,⟨[.bool x7.c.den.neg],[.slice s x7.c.den.mag.length u],z,z,⟨_,z,aG⟩⟩⟩,z⟩,z⟩ (key:=999) z (by rw[av]; rfl) (fun p6 ch aS bE=>?_)
     obtain⟨br,hr⟩:=hr
     refine bb' (r:=a') 1005 z z C' el119 z (by decide) z z (aE.mono (mx (mx f ai) aS)) z (by rw[av]; rfl) aw bE br fun p7 b2 bn bX a3 bK bu=>sg z z<|nr<|mv z z<|yy (W' z z) z<|sx0 z z<|ae'<|h'<|I'<|T' ⟨(C++[x7]),p7,b2,bn,i64.wrap (M+1),o,bX⟩ hr ⟨(mx (mx (mx (mx d f) ai) aS) a3),bK,bu⟩ (f5 z z z z z) (w1 z)
    refine n'<|ax' ⟨C,H,E,D,M,ay⟩ ⟨ai,(aE.mono (mx f ai)),aw,hr⟩ (f5 z z z z z) (w1 z)
   rintro⟨L,W,X,R,K,an⟩ ⟨n,aT,aH,hr⟩
   refine aO' (fun (⟨Z,ad,ac,ab,ap,ax⟩:(List Za)×Option Addr×Nat×Option Ow×Int×Mem)=>[(0,.slice S I.length Y),(1,.slice U F.length V),(5,.slice ad Z.length ac),(6,i' K),(7,i' ap)]) (fun ⟨Z,ad,ac,ab,ap,ax⟩=>Mem.le an ax/\sl a' ax ad ac Z/\Tok 12 119 (.slice ad Z.length ac) Z.length ab/\(ZeF I F K Z ap).wp (Out aI ao)) (fun ⟨Z,ad,ac,ab,ap,ax⟩=>St w0 G0 ax [(1005,ab)]) ?_ ?_
   .refine aO' (fun (⟨aq,aA⟩:Bool×Mem)=>[(0,.slice S I.length Y),(1,.slice U F.length V),(5,.slice W L.length X),(6,i' K),(7,i' o),(70,.bool aq)]) (fun ⟨aq,aA⟩=>Mem.le an aA/\(Zci I F o L K aq).wp (Out aI ao)) (fun ⟨aq,aA⟩=>St w0 G0 aA [(1005,R)]) ?_ ?_
    .refine ak' [ff,ff,ff,ff,ff,ff,ff,ff,ff,ff,ff,ff,ff,ff,ff] mix (by kernel_rfl) fun hb=>cn (fun _ c=>c' z)<|cn (fun _ c=>c' z)<|cn (fun _ c=>O' C' ((A.mono (mx (mx (mx g d) f) n)).mono c) z)<|bG' hr z (fun _ c=>aH' z z) (fun b4 hr=>?_) (fun b4 hr=>?_)
     .refine cn (fun _ c=>c' z)<|cf z z<|cf z z<|cf z z<|cf z z<|cf z z<|cf z z<|cf z z<|cf z z<|cf z z<|cf z z<|ah' hb<|sn2 z<|yy (w' z z) z<|q'<|am'<|ax' ⟨true,an⟩ ⟨mr,hr⟩ (f6 z z z z z z) (w1 z)
     refine cn (fun _ c=>c' z)<|cy z z (fun _ c=>c' z)<|cy z z (fun _ c=>c' z) ?_
     obtain⟨x5,a6,hr⟩:=hr
     refine cy z z (fun _ c=>V' C' aW' ((A.mono (mx (mx (mx g d) f) n)).mono c) z z a6)<|cy z z (fun _ c=>aM' z)<|cy z z (fun _ c=>ao' _ bo' z (Q' _ _ _) (bK' (J' (J' (bq' (aG' (Z' A a6))) (mx (mx (mx g d) f) n)) c)))<|cy z z (fun _ c=>c' z)<|cy z z (fun _ c=>c' z) ?_
     obtain⟨x6,be,hr⟩:=hr
     refine cy z z (fun _ c=>V' C' aW' ((J.mono (mx (mx (mx g d) f) n)).mono c) z z be)<|cy z z (fun _ c=>aM' z)<|cy z z (fun _ c=>ao' _ bo' z (Q' _ _ _) (bK' (J' (J' (bq' (aG' (Z' J be))) (mx (mx (mx g d) f) n)) c)))<|ah' hb ?_
     obtain⟨bQ,bz,hr⟩:=hr
     refine K' (E' z z) z (m' E81 z) (dR' bz) z (trivial)<|gy z z (aa' z z) z<|yy (t' z z) z<|q'<|am'<|ax' ⟨decide (bQ<0),an⟩ ⟨mr,hr⟩ (f6 z z z z z z) (w1 z)
    rintro⟨aq,aA⟩ ⟨ag,hr⟩
    refine aK' hr z (fun bP hr=>?_) (fun bP hr=>?_)
    .refine sr<|mv z z<|mv z z<|mv z z ?_
     obtain⟨x4,a5,hr⟩:=hr
     refine yy (V' C' aW' (J.mono (mx (mx (mx (mx g d) f) n) ag)) z z a5) z ?_
     obtain⟨x,t,y,B,bM,aC,aD⟩:=bM' (J' (Z' J a5) (mx (mx (mx (mx g d) f) n) ag))
     refine yy (ao' _ cF' z z bM) z<|aF' (e:=119) (r:=a') (vs:=#[(0,.agg (((v59' x4.c x t y B):List Value)++(vecG (Value.int .i64) 8 x4.m)).toArray)]) (cs:=(((v59' x4.c x t y B):List Value)++(vecG (Value.int .i64) 8 x4.m))++([])) ([x4]:List Za) z z z z z (by decide) (fun _=>by kernel_rfl) ⟨((v59' x4.c x t y B):List Value)++(vecG (Value.int .i64) 8 x4.m),[],z,⟨(v59' x4.c x t y B),vecG (Value.int .i64) 8 x4.m,z,⟨(v57' x4.c.num x t),(v57' x4.c.den y B),z,⟨[.bool x4.c.num.neg],[.slice x x4.c.num.mag.length t],z,z,⟨_,z,aC⟩⟩,⟨[.bool x4.c.den.neg],[.slice y x4.c.den.mag.length B],z,z,⟨_,z,aD⟩⟩⟩,z⟩,z⟩ (key:=999) z (by rw[av]; rfl) (fun p4 cj aU bJ=>?_)
     obtain⟨bv,hr⟩:=hr
     refine bb' (r:=a') 1005 z z C' el119 z (by decide) z z (aT.mono (mx ag aU)) z (by rw[av]; rfl) aH bJ bv fun p5 bD bB b0 a0 bZ bw=>sg z z<|nr<|mv z z<|yy (W' z z) z<|sx0 z z<|ae'<|h'<|I'<|T' ⟨(L++[x4]),p5,bD,bB,K,i64.wrap (o+1),b0⟩ hr ⟨(mx (mx (mx (mx (mx d f) n) ag) aU) a0),bZ,bw⟩ (f5 z z z z z) (w1 z)
    refine n'<|ax' ⟨L,W,X,R,o,aA⟩ ⟨ag,(aT.mono ag),aH,hr⟩ (f5 z z z z z) (w1 z)
   rintro⟨Z,ad,ac,ab,ap,ax⟩ ⟨T,aV,aK,hr⟩
   refine g'<|ak' [ff,ff,ff,ff,ff,ff,ff,ff,ff,ff,ff,ff] mix (by kernel_rfl) fun hb=>cn (fun _ c=>c' z)<|cn (fun _ c=>c' z) ?_
   obtain⟨x1,bk,hr⟩:=hr
   refine cn (fun _ c=>V' C' aW' ((A.mono (mx (mx (mx (mx g d) f) n) T)).mono c) z z bk)<|cn (fun _ c=>aV' z) ?_
   obtain⟨ba,bf,bg,a8,bH,aP,aM⟩:=ce' (J' (br' (aG' (Z' A bk))) (mx (mx (mx (mx g d) f) n) T))
   refine cn (fun _ c=>ao' _ bc' z z (fun j v hv=>c _ _ _ (bH j v hv)))<|cn (fun _ c=>c' z)<|cn (fun _ c=>c' z) ?_
   obtain⟨x2,a4,hr⟩:=hr
   refine cn (fun _ c=>V' C' aW' ((J.mono (mx (mx (mx (mx g d) f) n) T)).mono c) z z a4)<|cn (fun _ c=>aV' z) ?_
   obtain⟨a9,bb,bc,bd,bC,aJ,aO⟩:=ce' (J' (br' (aG' (Z' J a4))) (mx (mx (mx (mx g d) f) n) T))
   refine cn (fun _ c=>ao' _ bc' z z (fun j v hv=>c _ _ _ (bC j v hv))) ?_
   obtain⟨Q,bs,hr⟩:=hr
   refine az' (post:=w59' Q) (fun _=>z) (fun _ _=>m' E82 z) (fY' bs) z (fun G' c=>⟨(aP.mono c),(aM.mono c),(aJ.mono c),(aO.mono c)⟩) (fun v G1 G2 c h=>?_) ?_
   .obtain⟨m,l,i,k,rfl,P,O⟩:=h
    exact⟨_,_,_,_,z,P.mono c,O.mono c⟩
   refine bN' (fun _=>z) z59<|Chain.tailX2 (fun ck cc X1 au aZ aX=>?_)
   obtain⟨b1,rfl,bp⟩:=aZ
   obtain⟨m,l,i,k,rfl,P,O⟩:=aX
   refine WL.adopt bp (ds' (show WL _ _ _ _ _ _ (St w0 G0 X1.m _) from ?_))
   refine B' 8 z ch' z z z z z (List.all_eq_true.1 z)<|q'<|am'<|b'<|g'<|sr<|yy (D' 8 bc' z z z) z ?_
   obtain⟨cg,bt,hr⟩:=hr
   refine K' z z (m' E65 z) (cT' bt) z (⟨P,O⟩)<|yy (bp' z z) z<|nx<|P' hr z (fun b5 hr=>?_) (fun b5 hr=>?_)
   .refine ak' [tt,ff,ff,ff,ff,ff,ff] mix (by kernel_rfl) fun hb=>cv' z (c' z)<|cn (fun _ c=>D' 8 bc' z z z)<|cn (fun _ c=>c' z)<|cn (fun _ c=>c' z) ?_
    obtain⟨x3,a7,hr⟩:=hr
    have N1:=mx (mx (mx (mx (mx g d) f) n) T) au
    refine cn (fun _ c=>V' C' aW' ((A.mono N1).mono c) z z a7)<|cn (fun _ c=>aM' z)<|cn (fun _ c=>ao' _ bo' z (Q' _ _ _) (bK' (J' (J' (bq' (aG' (Z' A a7))) N1) c)))<|ah' hb<|yy (au' (vs:=#[(0,.agg ((v59' Q m l i k)).toArray),(1,.agg (vecG (Value.int .i64) 8 x3.m).toArray)]) (v:=.agg (((v59' Q m l i k):List Value)++(vecG (Value.int .i64) 8 x3.m)).toArray) z z (fun _=>by kernel_rfl)) z<|aF' (e:=119) (r:=a') (vs:=#[(0,.agg (((v59' Q m l i k):List Value)++(vecG (Value.int .i64) 8 x3.m)).toArray)]) (cs:=(((v59' Q m l i k):List Value)++(vecG (Value.int .i64) 8 x3.m))++([])) ([(Za.mk Q x3.m)]:List Za) z z z z z (by decide) (fun _=>by kernel_rfl) ⟨((v59' Q m l i k):List Value)++(vecG (Value.int .i64) 8 x3.m),[],z,⟨(v59' Q m l i k),vecG (Value.int .i64) 8 x3.m,z,⟨(v57' Q.num m l),(v57' Q.den i k),z,⟨[.bool Q.num.neg],[.slice m Q.num.mag.length l],z,z,⟨_,z,P⟩⟩,⟨[.bool Q.den.neg],[.slice i Q.den.mag.length k],z,z,⟨_,z,O⟩⟩⟩,z⟩,z⟩ (key:=999) z (by rw[av]; rfl) (fun p2 ci aW bT=>?_)
    obtain⟨bo,hr⟩:=hr
    refine bb' (r:=a') 1005 z z C' el119 z (by decide) z z (aV.mono (mx au aW)) z (by rw[av]; rfl) aK bT bo fun p3 bL bm bG a1 bU bq=>sg z z<|q'<|am'<|b'<|sr<|mv z z<|yy (W' z z) z<|sx0 z z<|x'<|mv z z<|yy (W' z z) z<|sg z z<|q'<|F'<|T' ⟨(Z++[(Za.mk Q x3.m)]),p3,bL,bm,i64.wrap (K+1),i64.wrap (ap+1),bG⟩ hr ⟨(mx (mx (mx (mx (mx (mx d f) n) T) au) aW) a1),bU,bq⟩ (f5 z z z z z) (w1 z)
   refine n'<|b'<|sr<|mv z z<|yy (W' z z) z<|sx0 z z<|x'<|mv z z<|yy (W' z z) z<|sg z z<|q'<|F'<|T' ⟨Z,ad,ac,ab,i64.wrap (K+1),i64.wrap (ap+1),X1.m⟩ hr ⟨(mx (mx (mx (mx d f) n) T) au),(aV.mono au),aK⟩ (f5 z z z z z) (w1 z)
 rintro⟨aa,aj,ah,ae,az⟩ ⟨b6,a2,bY,hr⟩
 refine b'<|sr<|mv z z<|sx0 z z<|k' ?_
 obtain rfl:_=r:=hr
 exact j' z z ⟨_,_,z,a2⟩
theorem dS'{x v p o q n r}(hr:(Zdt x v).Ret r):Ctr prog 39 #[.slice p x.length o,.slice q v.length n] (fun G=>sl a' G p o x/\sl a' G q n v) (wl' a' r):=by
 refine H' (args:=[_,_]) (N:=10) func39 z z z (fun W V U y=>?_)
 obtain⟨D,C⟩:=y
 refine sr<|sg z z<|nr<|mv z z ?_
 obtain⟨Q,B,hr⟩:=hr
 refine N' z z (m' E26 z) (cc' B) z (trivial) (fun F O e g=>?_)
 obtain⟨j,m,i,l,rfl,c,d⟩:=g
 refine mv z z ?_
 obtain⟨P,s,hr⟩:=hr
 refine N' z z (m' E80 z) (eW' s) z (⟨c,d,(C.mono e)⟩) (fun M S k h=>?_)
 obtain⟨H,I,rfl,A⟩:=h
 obtain⟨R,u,hr⟩:=hr
 refine N' z z (m' E41 z) (dz' u) z (⟨(D.mono (mx e k)),A⟩) (fun L T E f=>?_)
 obtain⟨J,K,rfl,t⟩:=f
 refine sx0 z z<|k' ?_
 obtain rfl:_=r:=hr
 exact j' z z ⟨_,_,z,t⟩
theorem fd'{e r}(hr:(ZbZ e).Ret r):Ctr prog 125 #[.int .i32 e] (fun G=>True) (fun G v=>v = .bool r):=by
 refine H' (args:=[_]) (N:=13) func125 z z z fun h i g f=>sr<|sg z z<|nr<|mv z z<|aE' hr z (bW' z z) z (fun c hr=>?_) (fun c hr=>?_)
 .refine mv z z<|gy z z (c' z) z<|aE' hr (E' z z) (bW' z z) z (fun d hr=>?_) (fun d hr=>?_)
  .refine yy (w' z z) z<|mv z z<|sn2 z<|yy (w' z z) z<|sx0 z z<|k' (k0' hr z z)
  refine yy (w' z z) z<|mv z z<|gy z z (c' z) z<|gy z z (aH' z z) z<|yy (t' z z) z<|sx0 z z<|k' (k0' hr z z)
 refine mv z z<|sn2 z<|yy (t' z z) z<|mv z z<|gy z z (c' z) z<|gy z z (aH' z z) z<|yy (t' z z) z<|sx0 z z<|k' (k0' hr z z)
theorem fe'{f r}(hr:(ZbY f).Ret r):Ctr prog 68 #[.string f] (fun G=>True) (fun G v=>v = .bool r):=by
 refine H' (args:=[_]) (N:=45) func68 z z z fun q o P J=>sr<|sx0 z z<|aO' (fun (g:Mem)=>match g with|h=>[(0,.string f)]) (fun (g:Mem)=>match g with|h=>Mem.le o h/\(ZdO f).Ret r) (fun (g:Mem)=>match g with|h=>St q o h []) ?_ ?_
 .refine sr<|mv z z<|yy (Y0.lenS aR' z) z<|aE' hr z (aa' z z) z (fun B hr=>?_) (fun B hr=>?_)
  .refine mv z z<|sn3 z<|yy (w' z z) z<|nx<|aB' z<|sr<|sx0 z z<|k'<|f' (k0' hr z z)
  refine mv z z<|gy z z (c' z) z<|gy z z (Y0.lenS aR' z) z<|gy z z (aS' z z) z<|yy (t' z z) z<|nx<|P' hr z (fun y hr=>?_) (fun y hr=>?_)
  .refine sr<|sx0 z z<|k'<|f' (k0' hr z z)
  refine n'<|ax' o ⟨mr,hr⟩ (f1 z) (wk ln)
 rintro h ⟨H,hr⟩
 refine g'<|sr<|mv z z<|WL.rangeS 4015 z z aR' z fun m=>nx<|ab' (fun (g:Mem)=>match g with|k=>[]) (fun (g:Mem)=>match g with|k=>Mem.le h k/\(Zaq).Ret r) (fun (g:Mem)=>match g with|k=>St q o k []) ?_ ?_
 .refine y' ?_
  let l:(Bool⊕Unit)->Prop:=fun L=>((fun K=>match K with | .inl rv1=>Cq.ret rv1 | .inr ()=>Zaq:(Bool⊕Unit)->Cq Bool) L).wp (fun a=>a=r)
  replace hr:(Cq.loop _ _).wp l:=hr
  refine ac' (Φ:=l) (fun (⟨c,d⟩:Nat×Mem)=>(c:Nat)) (fun ⟨c,d⟩=>[(15,pt0 m)]) (fun ⟨c,d⟩=>Mem.le h d) (fun ⟨c,d⟩=>St q o d [(4015,(some ⟨m,.stringIter f c,0⟩))]) ⟨0,h⟩ hr (f1 z) mr (w1 z) ?_
  .intro x g M hr
   obtain⟨c,d⟩:=g
   have j:=M
   refine sr<|WL.nextS 4015 z z z z (fun p=>?_) (fun p=>?_)
   .replace hr:=hr.pos p
    refine yy (R' z z) z<|nx<|g'<|aB' z<|n'<|b'<|y'<|sr<|yy (R' z z) z<|yy (R' z z) z<|sg z z<|sx0 z z<|aO' (fun (⟨e,i⟩:Bool×Mem)=>[(3,i' (c:Int)),(4,.int .i32 ((Utf8.decode f c).1:Int)),(5,.bool e),(15,pt0 m)]) (fun ⟨e,i⟩=>Mem.le d i/\(ZH f c e).wp (Out x l)) (fun ⟨e,i⟩=>St q o i [(4015,(some ⟨m,.stringIter f (c+(Utf8.decode f c).2),0⟩))]) ?_ ?_
    .refine x'<|mv z z<|aE' hr z (bW' z z) z (fun E hr=>?_) (fun E hr=>?_)
     .refine mv z z<|gy z z (c' z) z<|aE' hr (E' z z) (bW' z z) z (fun C hr=>?_) (fun C hr=>?_)
      .refine yy (w' z z) z<|mv z z<|sn3 z<|aX' (aq' z z) z<|aX' (aq' z z) z<|sf z z z<|yy (w' z z) z<|sg z z<|q'<|ax' ⟨true,d⟩ ⟨mr,hr⟩ (f4 z z z z) (w1 z)
      refine yy (w' z z) z<|mv z z<|gy z z (c' z) z<|aE' hr (E' z z) (bW' z z) z (fun u hr=>?_) (fun u hr=>?_)
      .refine gy z z (c' z) z<|gy z z (c' z) z<|gy z z (bW' z z) z<|gy z z (w' z z) z<|yy (t' z z) z<|sg z z<|q'<|ax' ⟨decide (((Utf8.decode f c).1:Int)<=122),d⟩ ⟨mr,hr⟩ (f4 z z z z) (w1 z)
      refine gy z z (c' z) z<|sn2 z<|gy z z (t' z z) z<|yy (t' z z) z<|sg z z<|q'<|ax' ⟨false,d⟩ ⟨mr,hr⟩ (f4 z z z z) (w1 z)
     refine mv z z<|sn2 z<|yy (t' z z) z<|mv z z<|gy z z (c' z) z<|aE' hr (E' z z) (bW' z z) z (fun t hr=>?_) (fun t hr=>?_)
     .refine gy z z (c' z) z<|gy z z (c' z) z<|gy z z (bW' z z) z<|gy z z (w' z z) z<|yy (t' z z) z<|sg z z<|q'<|ax' ⟨decide (((Utf8.decode f c).1:Int)<=122),d⟩ ⟨mr,hr⟩ (f4 z z z z) (w1 z)
     refine gy z z (c' z) z<|sn2 z<|gy z z (t' z z) z<|yy (t' z z) z<|sg z z<|q'<|ax' ⟨false,d⟩ ⟨mr,hr⟩ (f4 z z z z) (w1 z)
    rintro⟨e,i⟩ ⟨n,hr⟩
    refine sr<|aE' hr z (db' (c' z) (congrArg Value.bool (bdec _))) z (fun D hr=>?_) (fun D hr=>?_)
    .refine yy (aA' z) z<|mv z z<|sn3 z<|aX' (aq' z z) z<|aX' (aq' z z) z<|aX' (aq' z z) z<|sk z z z<|yy (t' z z) z<|nx<|bw' z<|n'<|F'<|T' ⟨(c+(Utf8.decode f c).2),i⟩ hr (mx j n) (f1 z) (w1 z)
    refine yy (aA' z) z<|mv z z<|gy z z (c' z) z<|aE' hr (E' z z) (aH' z z) z (fun A hr=>?_) (fun A hr=>?_)
    .refine gy z z (c' z) z<|sn3 z<|gy z z (w' z z) z<|yy (w' z z) z<|nx<|aB' z<|sr<|sx0 z z<|k'<|A'<|f'<|A'<|an'<|f' (k0' hr z z)
    refine gy z z (c' z) z<|gy z z (c' z) z ?_
    obtain⟨O,s,hr⟩:=hr
    refine K' (E' z z) z (m' E125 z) (fd' s) z (trivial)<|gy z z (aA' z) z<|gy z z (t' z z) z<|yy (w' z z) z<|nx<|aK' hr z (fun F hr=>?_) (fun F hr=>?_)
    .refine sr<|sx0 z z<|k'<|A'<|f'<|A'<|an'<|f' (k0' hr z z)
    refine n'<|F'<|T' ⟨(c+(Utf8.decode f c).2),i⟩ hr (mx j n) (f1 z) (w1 z)
   replace hr:=hr.neg p
   refine yy (R' z z) z<|nx<|g'<|bw' z<|ae'<|h'<|h'<|I'<|af' d ⟨j,hr⟩ fn (wk ln)
 rintro k ⟨I,hr⟩
 refine b'<|sr<|sx0 z z<|k' (k0' hr z z)
theorem ct'{c m l i j g f r}(hr:(ZaM c).Ret r):Ctr prog 28 #[.agg ((v42' c m l i j g f)).toArray] (fun G=>y31' G m l i j g f c) (fun G v=>v = .bool r):=by
 refine H' (args:=[_]) (N:=108) func28 z z z (fun w0 T aW aO=>?_)
 obtain⟨p,ab,Y⟩:=aO
 refine sr<|ai' 1 z z z fun H=>sx0 z z<|aO' (fun (o:Mem)=>match o with|I=>[(1,pt0 H)]) (fun (o:Mem)=>match o with|I=>Mem.le T I/\(Zd9 c).Ret r) (fun (o:Mem)=>match o with|I=>St w0 T I [(1,bk0 H (v42' c m l i j g f) 42)]) ?_ ?_
 .refine sr<|yy (bQ' z) z<|yy (o' 1 sc39 z z z) z<|yy (O' aI' p z) z<|aE' hr z (aS' z z) z (fun bc hr=>?_) (fun bc hr=>?_)
  .refine mv z z<|sn3 z<|yy (w' z z) z<|mv z z<|sn3 z<|yy (w' z z) z<|nx<|aB' z<|sr<|sx0 z z<|k'<|f' (k0' hr z z)
  refine mv z z<|gy z z (bz' z) z<|gy z z (o' 1 sc3 z z z) z<|aE' hr (E' z z) (aa' z z) z (fun a6 hr=>?_) (fun a6 hr=>?_)
  .refine yy (t' z z) z<|mv z z<|sn3 z<|yy (w' z z) z<|nx<|aB' z<|sr<|sx0 z z<|k'<|f' (k0' hr z z)
  refine yy (t' z z) z<|mv z z<|gy z z (bz' z) z<|gy z z (o' 1 sc3 z z z) z<|gy z z (aS' z z) z<|yy (t' z z) z<|nx<|P' hr z (fun a1 hr=>?_) (fun a1 hr=>?_)
  .refine sr<|sx0 z z<|k'<|f' (k0' hr z z)
  refine n'<|ax' T ⟨mr,hr⟩ (f1 z) (w1 z)
 rintro I ⟨C,hr⟩
 refine sr<|WL.makeMap (ky:=ky9) (Rv:=RvS Rp.bool I) 4025 z z fun aB av aE=>sx0 z z<|g'<|sr<|yy (bQ' z) z<|yy (o' 1 sc39 z z z) z<|yy (O' aI' (p.mono C) z) z<|mv z z<|nx<|ab' (fun (o:Mem)=>match o with|V=>[(1,pt0 H)]) (fun (o:Mem)=>match o with|V=>Mem.le I V/\(Zbc c).Ret r) (fun (o:Mem)=>match o with|V=>St w0 T V [(1,bk0 H (v42' c m l i j g f) 42)]) ?_ ?_
 .refine y' ?_
  let ao:(Bool⊕Unit)->Prop:=fun oo=>((fun ov=>match ov with | .inl rv3=>Cq.ret rv3 | .inr ()=>Zbc c:(Bool⊕Unit)->Cq Bool) oo).wp (fun a=>a=r)
  replace hr:(Cq.loop _ _).wp ao:=hr
  refine ac' (Φ:=ao) (fun (⟨t,P,B,E⟩:Int×(List (ByteArray×Bool))×Option Ow×Mem)=>((t,P):Int×(List (ByteArray×Bool)))) (fun ⟨t,P,B,E⟩=>[(1,pt0 H),(27,.slice m c.vars.length l),(28,i' (c.vars.length:Int)),(29,i' t),(3,.map (some aB))]) (fun ⟨t,P,B,E⟩=>Mem.le I E/\MapR ky9 (RvS Rp.bool E) (.map (some aB)) P B) (fun ⟨t,P,B,E⟩=>St w0 T E [(1,bk0 H (v42' c m l i j g f) 42),(4025,B)]) ⟨0,[],av,I⟩ hr (f5 z z z z z) ⟨mr,aE⟩ (w2 z z) ?_
  .intro bj o hx hr
   obtain⟨t,P,B,E⟩:=o
   obtain⟨L,an⟩:=hx
   refine sr<|yy (aa' z z) z<|nx<|g'<|P' hr z (fun a3 hr=>?_) (fun a3 hr=>?_)
   .refine n'<|b'<|g'<|y'<|sr ?_
    obtain⟨x4,ay,hr⟩:=hr
    refine yy (V' aI' sz9 (p.mono (mx C L)) z z ay) z<|yy (aj' sc9 z (dJ' (J' (Z' p ay) (mx C L)))) z<|sx0 z z<|g'<|sr<|mv z z ?_
    obtain⟨aY,aJ,hr⟩:=hr
    refine K' z z (m' E68 z) (fe' aJ) z (trivial) ?_
    cases aY
    .refine yy (aA' z) z<|mv z z<|sn3 z<|yy (w' z z) z<|nx<|aB' z<|sr<|sx0 z z<|k'<|f'<|A'<|f'<|f'<|A'<|an'<|f' (k0' hr z z)
    refine yy (aA' z) z<|mv z z<|gy z z (c' z) z<|gy z z (c' z) z ?_
    obtain⟨a8,hr⟩:=hr
    refine gy z z (Y0.mapGet1 (mk:=Value.bool) (k:=x4) 4025 false (fun h=>Zi4 h) underlying121 zv4 an z z z a8) z<|yy (t' z z) z<|nx<|aK' hr z (fun aU hr=>?_) (fun aU hr=>?_)
    .refine sr<|sx0 z z<|k'<|f'<|A'<|f'<|f'<|A'<|an'<|f' (k0' hr z z)
    refine n'<|b'<|x'<|mv z z<|mv z z ?_
    obtain⟨⟨bd,aG⟩,hr⟩:=hr
    refine WL.mapPut (Rv':=RvS Rp.bool E) (k:=x4) (z:=true) 4025 z underlying121 an z z z z bd z (fun _ _ _ _ h=>h) aG fun bb aI=>q'<|F'<|b'<|x'<|yy (W' z z) z<|mv z z<|q'<|T' ⟨i64.wrap (t+1),(mput P x4 true),bb,E⟩ hr ⟨L,aI⟩ (f5 z z z z z) (w2 z z)
   refine ae'<|h'<|h'<|I'<|af' E ⟨L,hr⟩ (f1 z) (w1 z)
 rintro V ⟨W,hr⟩
 refine b'<|sr<|WL.makeMap (ky:=ky3) (Rv:=RvS Rp.bool V) 4044 z z fun O aw aQ=>sx0 z z<|g'<|sr<|yy (bx' z) z<|yy (o' 1 bO' z z z) z<|yy (bA' z) z<|yy (o' 1 bO' z z z) z<|aF' (e:=40) (r:=(Rp.sl U')) (vs:=#[(0,.slice i c.eqs.length j),(1,.slice g c.neqs.length f)]) (cs:=[.slice i c.eqs.length j]++([.slice g c.neqs.length f]++([]))) ([c.eqs,c.neqs]:List (List Zg)) z z z z z (by decide) (fun _=>by kernel_rfl) ⟨[.slice i c.eqs.length j],[.slice g c.neqs.length f]++([]),z,⟨_,z,(ab.mono (mx C W))⟩,⟨[.slice g c.neqs.length f],[],z,⟨_,z,(Y.mono (mx C W))⟩,z⟩⟩ (key:=999) z (by rw[aW]; rfl) fun p1 am af ak=>yy (O' dj' ak z) z<|mv z z<|nx<|ab' (fun (o:Mem)=>match o with|Z=>[]) (fun (o:Mem)=>match o with|Z=>Mem.le am Z/\(Zcx).Ret r) (fun (o:Mem)=>match o with|Z=>St w0 T Z []) ?_ ?_
 .refine y' ?_
  let X:(Bool⊕Unit)->Prop:=fun oo=>((fun ov=>match ov with | .inl rv1=>Cq.ret rv1 | .inr ()=>Zcx:(Bool⊕Unit)->Cq Bool) oo).wp (fun a=>a=r)
  replace hr:(Cq.loop _ _).wp X:=hr
  refine ac' (Φ:=X) (fun (⟨n,S,u,y⟩:Int×(List (Int×Bool))×Option Ow×Mem)=>((n,S):Int×(List (Int×Bool)))) (fun ⟨n,S,u,y⟩=>[(1,pt0 H),(49,.slice p1 2 2),(50,i' ([c.eqs,c.neqs].length:Int)),(51,i' n),(6,.map (some O))]) (fun ⟨n,S,u,y⟩=>Mem.le am y/\MapR ky3 (RvS Rp.bool y) (.map (some O)) S u) (fun ⟨n,S,u,y⟩=>St w0 T y [(1,bk0 H (v42' c m l i j g f) 42),(4044,u)]) ⟨0,[],aw,am⟩ hr (f5 z z z z z) ⟨mr,(MapR.mono aQ af)⟩ (w2 z z) ?_
  .intro az o hx hr
   obtain⟨n,S,u,y⟩:=o
   obtain⟨J,aL⟩:=hx
   refine sr<|yy (aa' z z) z<|nx<|g'<|P' hr z (fun bh hr=>?_) (fun bh hr=>?_)
   .refine n'<|b'<|g'<|y'<|sr ?_
    obtain⟨x1,aC,hr⟩:=hr
    refine yy (V' dj' sz40 (ak.mono J) z z aC) z ?_
    obtain⟨p2,ae,a7,U⟩:=bl' (J' (Z' ak aC) J)
    refine yy (aj' bO' z (a7)) z<|sx0 z z<|g'<|sr<|mv z z<|yy (O' Y' U z) z<|yy (aS' z z) z<|nx<|P' hr z (fun a0 hr=>?_) (fun a0 hr=>?_)
    .refine sr<|sx0 z z<|k'<|f'<|A'<|f'<|f'<|A'<|an'<|f' (k0' hr z z)
    refine n'<|b'<|sr<|mv z z<|yy (O' Y' U z) z<|mv z z<|nx<|ab' (fun (⟨K,D,Q⟩:(List (Int×Bool))×Option Ow×Mem)=>[(1,pt0 H),(49,.slice p1 2 2),(50,i' ([c.eqs,c.neqs].length:Int)),(51,i' n),(6,.map (some O))]) (fun ⟨K,D,Q⟩=>Mem.le y Q/\MapR ky3 (RvS Rp.bool Q) (.map (some O)) K D/\(Zcy n K).wp (Out az X)) (fun ⟨K,D,Q⟩=>St w0 T Q [(1,bk0 H (v42' c m l i j g f) 42),(4044,D)]) ?_ ?_
    .refine y' ?_
     let ad:(Bool⊕((List (Int×Bool))))->Prop:=fun oo=>((fun ov=>match ov with | .inl rv2=>Cq.ret (.inr (.inl rv2)) | .inr K=>Zcy n K:(Bool⊕((List (Int×Bool))))->Cq ((Int×(List (Int×Bool)))⊕(Bool⊕Unit))) oo).wp (Out az X)
     replace hr:(Cq.loop _ _).wp ad:=hr
     refine ac' (Φ:=ad) (fun (⟨q,F,s,A⟩:Int×(List (Int×Bool))×Option Ow×Mem)=>((q,F):Int×(List (Int×Bool)))) (fun ⟨q,F,s,A⟩=>[(1,pt0 H),(8,.slice p2 x1.length ae),(49,.slice p1 2 2),(50,i' ([c.eqs,c.neqs].length:Int)),(51,i' n),(58,.slice p2 x1.length ae),(59,i' (x1.length:Int)),(60,i' q),(6,.map (some O))]) (fun ⟨q,F,s,A⟩=>Mem.le y A/\MapR ky3 (RvS Rp.bool A) (.map (some O)) F s) (fun ⟨q,F,s,A⟩=>St w0 T A [(1,bk0 H (v42' c m l i j g f) 42),(4044,s)]) ⟨0,S,u,y⟩ hr (f9 z z z z z z z z z) ⟨mr,aL⟩ (w2 z z) ?_
     .intro aT o hx hr
      obtain⟨q,F,s,A⟩:=o
      obtain⟨x,ac⟩:=hx
      refine sr<|yy (aa' z z) z<|nx<|g'<|P' hr z (fun a5 hr=>?_) (fun a5 hr=>?_)
      .refine n'<|b'<|g'<|y'<|sr<|mv z z ?_
       obtain⟨x2,ax,hr⟩:=hr
       refine yy (V' Y' bR' (U.mono x) z z ax) z ?_
       obtain⟨aK,aM,aV,aP⟩:=cA' (J' (Z' U ax) x)
       refine yy (ao' _ ag70 z z aV) z<|X' 10 z z70 z fun b2=>sg z z<|B' 10 z bR' z z z z z (List.all_eq_true.1 z)<|nx<|aO' (fun (o:Mem)=>match o with|R=>[(1,pt0 H),(8,.slice p2 x1.length ae),(10,pt0 b2),(49,.slice p1 2 2),(50,i' ([c.eqs,c.neqs].length:Int)),(51,i' n),(58,.slice p2 x1.length ae),(59,i' (x1.length:Int)),(60,i' q),(6,.map (some O))]) (fun (o:Mem)=>match o with|R=>Mem.le A R/\(Zbb c q F x2).wp (Out aT ad)) (fun (o:Mem)=>match o with|R=>St w0 T R [(1,bk0 H (v42' c m l i j g f) 42),(10,bk0 b2 (v70' x2 aK aM) 70),(4044,s)]) ?_ ?_
       .refine g'<|ak' [ff,ff,ff,ff,ff,ff,ff,ff,ff,ff,ff,ff,ff,ff,ff,ff,ff,ff,ff,ff,ff,ff,ff,ff,ff,ff,ff,ff] mix (by kernel_rfl) fun hb=>cn (fun _ d=>bt' z)<|cn (fun _ d=>o' 10 sc3 z z z)<|bG' hr z (fun _ d=>aa' z z) (fun bg hr=>?_) (fun bg hr=>?_)
        .refine cn (fun _ d=>c' z)<|cf z z<|cf z z<|cf z z<|cf z z<|cf z z<|cn (fun _ d=>w' z z)<|cn (fun _ d=>c' z)<|cf z z<|cf z z<|cf z z<|cf z z<|cn (fun _ d=>w' z z)<|cn (fun _ d=>c' z)<|cf z z<|cf z z<|cf z z<|cs z z<|cs z z<|cs z z<|cs z z<|cs z z<|cs z z<|cs z z<|cs z z<|ah' hb<|aX' (aq' z z) z<|sf z z z<|yy (w' z z) z<|q'<|am'<|b'<|aB' z<|sr<|sx0 z z<|k'<|f'<|A'<|f'<|f'<|A'<|an'<|A'<|f'<|f'<|A'<|an'<|f' (k0' hr z z)
        refine cn (fun _ d=>c' z)<|cy z z (fun _ d=>bt' z)<|cy z z (fun _ d=>o' 10 sc3 z z z)<|cy z z (fun _ d=>bz' z)<|cy z z (fun _ d=>o' 1 sc3 z z z)<|bG' hr (E' z z) (fun _ d=>bH' z z) (fun a2 hr=>?_) (fun a2 hr=>?_)
        .refine cn (fun _ d=>t' z z)<|cn (fun _ d=>c' z)<|cf z z<|cf z z<|cf z z<|cf z z<|cn (fun _ d=>w' z z)<|cn (fun _ d=>c' z)<|cf z z<|cf z z<|cf z z<|cs z z<|cs z z<|cs z z<|cs z z<|cs z z<|cs z z<|cs z z<|cs z z<|ah' hb<|aX' (aq' z z) z<|sf z z z<|yy (w' z z) z<|q'<|am'<|b'<|aB' z<|sr<|sx0 z z<|k'<|f'<|A'<|f'<|f'<|A'<|an'<|A'<|f'<|f'<|A'<|an'<|f' (k0' hr z z)
        refine cn (fun _ d=>t' z z)<|cn (fun _ d=>c' z)<|cy z z (fun _ d=>c' z)<|cy z z (fun _ d=>bt' z)<|cy z z (fun _ d=>o' 10 sc3 z z z) ?_
        obtain⟨aX,hr⟩:=hr
        refine bG' hr (E' z z) (fun _ d=>db' (Y0.mapGet1 (mk:=Value.bool) (k:=x2.id) 4044 false (fun h=>Zi4 h) underlying122 zv4 (MapR.mono ac d) z z z aX) (congrArg Value.bool (bdec _))) (fun a4 hr=>?_) (fun a4 hr=>?_)
        .refine cn (fun _ d=>t' z z)<|cn (fun _ d=>c' z)<|cf z z<|cf z z<|cf z z<|cs z z<|cs z z<|cs z z<|cs z z<|cs z z<|cs z z<|cs z z<|cs z z<|ah' hb<|aX' (aq' z z) z<|sf z z z<|yy (w' z z) z<|q'<|am'<|b'<|aB' z<|sr<|sx0 z z<|k'<|f'<|A'<|f'<|f'<|A'<|an'<|A'<|f'<|f'<|A'<|an'<|f' (k0' hr z z)
        refine cn (fun _ d=>t' z z)<|cn (fun _ d=>c' z)<|cy z z (fun _ d=>c' z)<|bG' hr (E' z z) (fun _ d=>aS' z z) (fun bf hr=>?_) (fun bf hr=>?_)
        .refine cy z z (fun _ d=>c' z)<|cy z z (fun _ d=>bt' z)<|cy z z (fun _ d=>o' 10 sc3 z z z)<|cy z z (fun _ d=>c' z)<|cy z z (fun _ d=>c' z)<|cy z z (fun _ d=>ba' z z) ?_
         obtain⟨x3,aA,hr⟩:=hr
         refine cy z z (fun _ d=>V' Y' bR' ((U.mono x).mono d) z z aA)<|cy z z (fun _ d=>bt' z)<|cy z z (fun _ d=>aj' sc3 z (aJ' (J' (J' (br' (aG' (Z' U aA))) x) d)))<|ah' hb<|gy z z (bW' z z) z<|gy z z (w' z z) z<|yy (t' z z) z<|q'<|am'<|b'<|P' hr z (fun ba hr=>?_) (fun ba hr=>?_)
         .refine sr<|sx0 z z<|k'<|f'<|A'<|f'<|f'<|A'<|an'<|A'<|f'<|f'<|A'<|an'<|f' (k0' hr z z)
         refine n'<|ax' A ⟨mr,hr⟩ (f10 z z z z z z z z z z) (w3 z z z)
        refine cy z z (fun _ d=>c' z)<|ct z z<|ct z z<|ct z z<|ct z z<|ct z z<|ct z z<|ct z z<|ct z z<|ah' hb<|sk z z z<|gy z z (t' z z) z<|yy (t' z z) z<|q'<|am'<|b'<|bw' z<|n'<|ax' A ⟨mr,hr⟩ (f10 z z z z z z z z z z) (w3 z z z)
       rintro R ⟨M,hr⟩
       refine sr<|mv z z<|yy (bt' z) z<|yy (o' 10 sc3 z z z) z ?_
       obtain⟨⟨a9,aR⟩,hr⟩:=hr
       refine WL.mapPut (Rv':=RvS Rp.bool R) (k:=x2.id) (z:=true) 4044 z underlying122 (MapR.mono ac M) z z z z a9 z (fun _ _ _ _ h=>h) aR fun aS aN=>nr<|yy (cl' z) z<|yy (o' 10 bU' z z z) z<|yy (bQ' z) z<|yy (o' 1 sc39 z z z) z<|yy (O' aI' (p.mono (mx (mx (mx (mx (mx C W) af) J) x) M)) z) z ?_
       obtain⟨bk,aH,hr⟩:=hr
       refine K' z z (m' E44 z) (ey' aH) z ((aP.mono M))<|yy (aA' z) z<|nx<|aK' hr z (fun aZ hr=>?_) (fun aZ hr=>?_)
       .refine sr<|sx0 z z<|k'<|A'<|f'<|f'<|A'<|an'<|A'<|f'<|f'<|A'<|an'<|f' (k0' hr z z)
       refine n'<|F'<|b'<|x'<|yy (W' z z) z<|mv z z<|q'<|T' ⟨i64.wrap (q+1),(mput F x2.id true),aS,R⟩ hr ⟨(mx x M),aN⟩ (f9 z z z z z z z z z) (w2 z z)
      refine ae'<|h'<|h'<|I'<|af' ⟨F,s,A⟩ ⟨x,ac,hr⟩ (f5 z z z z z) (w2 z z)
    rintro⟨K,D,Q⟩ ⟨ar,aD,hr⟩
    refine F'<|b'<|x'<|yy (W' z z) z<|mv z z<|q'<|T' ⟨i64.wrap (n+1),K,D,Q⟩ hr ⟨(mx J ar),aD⟩ (f5 z z z z z) (w2 z z)
   refine ae'<|h'<|h'<|I'<|af' y ⟨J,hr⟩ fn (wk ln)
 rintro Z ⟨bi,hr⟩
 refine b'<|sr<|sx0 z z<|k' (k0' hr z z)
theorem dE'{f v s r}(hr:(Zax f).Ret r):Ctr prog 59 #[.slice v f.length s] (fun G=>sl U' G v s f) (wl' (Rp.sl a') r):=by
 refine H' (args:=[_]) (N:=23) func59 z z z (fun M p L E=>?_)
 have o:=E
 refine sr<|sg z z<|nr<|mv z z<|yy (O' Y' o z) z ?_
 obtain⟨J,hr⟩:=hr
 refine cS' (r:=(Rp.sl a')) (e:=65) (n:=(f.length:Int)) (zx:=[]) 4008 z z M' el65 z (by decide) (by decide) ⟨_,z,(ay' _ _)⟩ z z J fun x D P=>sx0 z z<|g'<|sr<|mv z z<|yy (O' Y' o z) z<|mv z z<|nx<|ab' (fun (⟨m,j,k⟩:(List (List Za))×Option Ow×Mem)=>[(3,.slice x (f.length:Int).toNat ((f.length:Int).toNat))]) (fun ⟨m,j,k⟩=>Mem.le p k/\RowR (Rp.sl a') 65 k (.slice x (f.length:Int).toNat ((f.length:Int).toNat)) m j/\(ZaN m).Ret r) (fun ⟨m,j,k⟩=>St M p k [(4008,j)]) ?_ ?_
 .refine y' ?_
  let q:(((List (List Za))))->Prop:=fun Y=>((fun V=>match V with|m=>ZaN m:(((List (List Za))))->Cq ((List (List Za)))) Y).wp (fun a=>a=r)
  replace hr:(Cq.loop _ _).wp q:=hr
  refine ac' (Φ:=q) (fun (⟨l,d,c,g⟩:(List (List Za))×Option Ow×Int×Mem)=>((l,c):(List (List Za))×Int)) (fun ⟨l,d,c,g⟩=>[(3,.slice x (f.length:Int).toNat ((f.length:Int).toNat)),(9,.slice v f.length s),(10,i' (f.length:Int)),(11,i' c)]) (fun ⟨l,d,c,g⟩=>Mem.le p g/\RowR (Rp.sl a') 65 g (.slice x (f.length:Int).toNat ((f.length:Int).toNat)) l d) (fun ⟨l,d,c,g⟩=>St M p g [(4008,d)]) ⟨(List.replicate (f.length:Int).toNat []),D,0,p⟩ hr (f4 z z z z) ⟨mr,P⟩ (w1 z) ?_
  .intro ab W X hr
   obtain⟨l,d,c,g⟩:=W
   obtain⟨h,t⟩:=X
   refine sr<|yy (aa' z z) z<|nx<|g'<|P' hr z (fun R hr=>?_) (fun R hr=>?_)
   .refine n'<|b'<|g'<|y'<|sr<|mv z z ?_
    obtain⟨H,A,hr⟩:=hr
    refine yy (V' Y' bR' (o.mono h) z z A) z ?_
    obtain⟨B,C,O,F⟩:=cA' (J' (Z' o A) h)
    refine yy (ao' _ ag70 z z O) z<|X' 5 z z70 z fun b1=>sg z z<|B' 5 z bR' z z z z z (List.all_eq_true.1 z)<|nx<|x'<|mv z z<|mv z z<|yy (cl' z) z<|yy (o' 5 bU' z z z) z ?_
    obtain⟨x2,y,hr⟩:=hr
    refine yy (bs' M' cj' t z z y) z<|bT' (r:=(Rp.sl a')) (e:=65) (cs':=[.slice B H.p.length C]) (i:=c) (z':=H.p) 4008 z cj' z t z z z z ⟨_,z,F⟩ y fun K I=>q'<|F'<|b'<|x'<|yy (W' z z) z<|mv z z<|q'<|T' ⟨(l.set c.toNat H.p),K,i64.wrap (c+1),g⟩ hr ⟨h,I⟩ (f4 z z z z) (w1 z)
   refine ae'<|h'<|h'<|I'<|af' ⟨l,d,g⟩ ⟨h,t,hr⟩ (f1 z) (w1 z)
 rintro⟨m,j,k⟩ ⟨S,Q,hr⟩
 refine b'<|sr<|mv z z<|sx0 z z<|k' ?_
 obtain rfl:_=r:=hr
 refine WE.freezeT (r:=(Rp.sl a')) (e:=65) 4008 Q z (by rw[L]; rfl) fun aa Z U u T=>j' z z ⟨_,_,(cX' u),(cY' u)⟩
theorem cW'{Q m o C B p s r}(hr:(ZcX Q).Ret r):Ctr prog 21 #[.agg ((v42' Q m o C B p s)).toArray] (fun G=>y31' G m o C B p s Q) (w28t' r):=by
 refine H' (args:=[_]) (N:=21) func21 z z z (fun w0 G0 aq ab=>?_)
 obtain⟨q,y,n⟩:=ab
 refine sr<|ai' 1 z z z fun b1=>X' 2 z z28 z fun b2=>sx0 z z<|g'<|sr<|yy (D' 1 ag42 z z z) z ?_
 obtain⟨ao,ad,hr⟩:=hr
 refine K' z z (m' E28 z) (ct' ad) z (⟨q,y,n⟩)<|yy (aA' z) z<|nx<|aK' hr z (fun ag hr=>?_) (fun ag hr=>?_)
 .refine sr<|yy (au' (vs:=#[]) (v:=.agg ([i' 0,.slice none 0 0,.slice none 0 0]).toArray) z z (fun _=>by kernel_rfl)) z<|B' 2 z bB' z z z z z (List.all_eq_true.1 z)<|sx0 z z<|k'<|f' ?_
  obtain rfl:_=r:=hr
  exact bd' z (aw' (i:=2) bj' z z z) z ⟨_,_,_,_,z,(ay' (Rp.sl a') _),(ay' (Rp.sl a') _)⟩
 refine n'<|b'<|g'<|ak' [ff,ff,ff,ff,ff,ff,ff,ff,ff,ff,ff,tt] mix (by kernel_rfl) fun hb=>cn (fun _ c=>bQ' z)<|cn (fun _ c=>o' 1 sc39 z z z)<|cn (fun _ c=>O' aI' (q.mono c) z)<|cn (fun _ c=>Y0.max2 z z)<|cn (fun _ c=>bx' z)<|cn (fun _ c=>o' 1 bO' z z z) ?_
 obtain⟨K,W,hr⟩:=hr
 refine az' (post:=wl' (Rp.sl a') K) (fun _=>z) (fun _ _=>m' E59 z) (dE' W) z (fun E c=>(y.mono c)) (fun v G1 Z c h=>?_) ?_
 .obtain⟨L,M,rfl,x⟩:=h
  exact⟨_,_,z,x.mono c⟩
 refine cu (fun _ _ c=>bA' z)<|cu (fun _ _ c=>o' 1 bO' z z z) ?_
 obtain⟨R,Y,hr⟩:=hr
 refine az' (post:=wl' (Rp.sl a') R) (fun _=>z) (fun _ _=>m' E59 z) (dE' Y) z (fun E c=>(n.mono c)) (fun v G1 Z c h=>?_) ?_
 .obtain⟨O,P,rfl,t⟩:=h
  exact⟨_,_,z,t.mono c⟩
 obtain⟨A,X,hr⟩:=hr
 refine bJ' (f:=12) (φ:=w28t' A) (fun _=>z) (fun v G1 Z c h=>?_) (fun u E c hu=>?_) ?_
 .obtain⟨l,k,j,g,rfl,e,d⟩:=h
  exact⟨_,_,_,_,z,e.mono c,d.mono c⟩
 .obtain⟨⟨O,P,V,t⟩,⟨L,M,U,x⟩,_⟩:=(show (wl' (Rp.sl a') R) E.m (u 17)/\(wl' (Rp.sl a') K) E.m (u 14)/\True from hu)
  exact⟨_,_,_,fun _=>m' E12 z,Z0 _ _ _ _ _ _ _ _ X,(by simp only[V,U] <;> rfl),⟨x,t⟩⟩
 refine dW' (kk:=18) (φ:=w28' A.1) (by kernel_rfl) (fun _=>z) (fun v G1 Z c h=>?_) (fun u E c hu=>?_) ?_
 .obtain⟨p1,af,p2,ae,rfl,S,T⟩:=h
  exact⟨_,_,_,_,z,S.mono c,T.mono c⟩
 .obtain⟨⟨l,k,j,g,D,e,d⟩,_,_,_⟩:=(show (w28t' A) E.m (u 18)/\True/\True/\True from hu)
  exact⟨_,_,D,(by simp only[undFr,D] <;> rfl),z,l,k,j,g,z,e,d⟩
 refine Chain.tailU4 (d0:=19) (post0:=w28' A.1) (d1:=18) (post1:=w28t' A) (d2:=17) (post2:=wl' (Rp.sl a') R) (d3:=14) (post3:=wl' (Rp.sl a') K) (fun al aj am an ap ah F I H J=>?_)
 obtain⟨p1,af,p2,ae,rfl,S,T⟩:=F
 obtain⟨l,k,j,g,rfl,e,d⟩:=I
 obtain⟨O,P,rfl,t⟩:=H
 obtain⟨L,M,rfl,x⟩:=J
 refine yy (R' z z) z<|B' 2 z bB' z z z z z (List.all_eq_true.1 z)<|sg z z<|q'<|am'<|b'<|k' ?_
 obtain rfl:_=r:=hr
 exact bd' z (aw' (i:=2) bj' z z z) z ⟨_,_,_,_,z,S,T⟩
theorem ck'{r}(hr:(ZcK).Ret r):Ctr prog 10 #[] (fun G=>True) (fun G v=>v = .bool r):=by
 refine H' (args:=[]) (N:=115) func10 z z z fun w0 G0 aj fd=>sr<|sg z z<|nr ?_
 obtain⟨fq,c9,hr⟩:=hr
 refine N' z z (m' E40 z) (bv' c9) z (trivial) (fun es fp ea bz=>?_)
 obtain⟨e1,eR,rfl,da⟩:=bz
 obtain⟨fm,dm,hr⟩:=hr
 refine N' z z (m' E40 z) (bv' dm) z (trivial) (fun eF fw cj bH=>?_)
 obtain⟨et,eB,rfl,dc⟩:=bH
 obtain⟨bw,dj,hr⟩:=hr
 refine N' z z (m' E39 z) (dS' dj) z (⟨(da.mono cj),dc⟩) (fun eS fx d8 bA=>?_)
 obtain⟨a9,bv,rfl,de⟩:=bA
 obtain⟨O,c6,hr⟩:=hr
 refine N' z z (m' E40 z) (bv' c6) z (trivial) (fun eq fl cm bE=>?_)
 obtain⟨a5,aL,rfl,bL⟩:=bE
 refine sg z z<|sg z z<|nr ?_
 obtain⟨fk,di,hr⟩:=hr
 refine N' z z (m' E40 z) (bv' di) z (trivial) (fun em fr a1 bF=>?_)
 obtain⟨eV,ey,rfl,c8⟩:=bF
 obtain⟨fu,dd,hr⟩:=hr
 refine N' z z (m' E40 z) (bv' dd) z (trivial) (fun eA ft ao bC=>?_)
 obtain⟨eK,eT,rfl,ds⟩:=bC
 obtain⟨bx,dr,hr⟩:=hr
 refine N' z z (m' E39 z) (dS' dr) z (⟨(c8.mono ao),ds⟩) (fun eU fv aQ bB=>?_)
 obtain⟨bl,bf,rfl,dn⟩:=bB
 refine aF' (e:=119) (r:=a') (vs:=#[]) (cs:=[]) ([]:List Za) z z z z z (by decide) (fun _=>by kernel_rfl) (z) (key:=999) z (by rw[aj]; rfl) (fun p1 fo aq dz=>?_)
 obtain⟨fi,dk,hr⟩:=hr
 refine N' z z (m' E40 z) (bv' dk) z (trivial) (fun eQ fj af bD=>?_)
 obtain⟨fg,e6,rfl,dq⟩:=bD
 obtain⟨fs,df,hr⟩:=hr
 refine N' z z (m' E40 z) (bv' df) z (trivial) (fun eG e3 F bG=>?_)
 obtain⟨fe,en,rfl,dh⟩:=bG
 obtain⟨ag,cX,hr⟩:=hr
 refine N' z z (m' E39 z) (dS' cX) z (⟨(dq.mono F),dh⟩) (fun eh e9 H bm=>?_)
 obtain⟨aa,ab,rfl,cL⟩:=bm
 refine aF' (e:=65) (r:=(Rp.sl a')) (vs:=#[(0,.slice bl bx.length bf),(1,.slice p1 0 0),(2,.slice aa ag.length ab)]) (cs:=[.slice bl bx.length bf]++([.slice p1 0 0]++([.slice aa ag.length ab]++([])))) ([bx,[],ag]:List (List Za)) z z z z z (by decide) (fun _=>by kernel_rfl) ⟨[.slice bl bx.length bf],[.slice p1 0 0]++([.slice aa ag.length ab]++([])),z,⟨_,z,(dn.mono (mx (mx (mx aq af) F) H))⟩,⟨[.slice p1 0 0],[.slice aa ag.length ab]++([]),z,⟨_,z,(dz.mono (mx (mx af F) H))⟩,⟨[.slice aa ag.length ab],[],z,⟨_,z,cL⟩,z⟩⟩⟩ (key:=999) z (by rw[aj]; rfl) (fun p2 eu au dH=>?_)
 obtain⟨a4,cW,hr⟩:=hr
 refine N' z z (m' E40 z) (bv' cW) z (trivial) (fun dO e4 ad bi=>?_)
 obtain⟨aI,aX,rfl,cC⟩:=bi
 refine aF' (e:=65) (r:=(Rp.sl a')) (vs:=#[(0,.slice aI a4.length aX)]) (cs:=[.slice aI a4.length aX]++([])) ([a4]:List (List Za)) z z z z z (by decide) (fun _=>by kernel_rfl) ⟨[.slice aI a4.length aX],[],z,⟨_,z,cC⟩,z⟩ (key:=999) z (by rw[aj]; rfl) (fun p3 eC Y dG=>?_)
 obtain⟨bQ,cN,hr⟩:=hr
 refine N' z z (m' E12 z) (Z0 _ _ _ _ _ _ _ _ cN) z (⟨(dH.mono (mx ad Y)),dG⟩) (fun dL e5 ax bo=>?_)
 obtain⟨a2,a0,aF,aB,rfl,a3,aD⟩:=bo
 refine mv z z<|yy (R' z z) z<|yy (R' z z) z<|X' 3 z z28 z fun b1=>B' 3 z bB' z z z z z (List.all_eq_true.1 z)<|sg z z<|nr<|aF' (e:=119) (r:=a') (vs:=#[]) (cs:=[]) ([]:List Za) z z z z z (by decide) (fun _=>by kernel_rfl) (z) (key:=999) z (by rw[aj]; rfl) fun p4 fh K dF=>aF' (e:=65) (r:=(Rp.sl a')) (vs:=#[(0,.slice p4 0 0)]) (cs:=[.slice p4 0 0]++([])) ([[]]:List (List Za)) z z z z z (by decide) (fun _=>by kernel_rfl) ⟨[.slice p4 0 0],[],z,⟨_,z,dF⟩,z⟩ (key:=999) z (by rw[aj]; rfl) (fun p5 fb I dA=>?_)
 obtain⟨bR,c4,hr⟩:=hr
 refine N' z z (m' E12 z) (Z0 _ _ _ _ _ _ _ _ c4) z (⟨(ay' (Rp.sl a') _),dA⟩) (fun dR eJ J bk=>?_)
 obtain⟨aY,aJ,aE,aG,rfl,aN,aC⟩:=bk
 refine mv z z<|yy (R' z z) z<|yy (R' z z) z<|X' 5 z z28 z fun b2=>B' 5 z bB' z z z z z (List.all_eq_true.1 z)<|sg z z<|nr ?_
 obtain⟨aT,cH,hr⟩:=hr
 refine N' z z (m' E40 z) (bv' cH) z (trivial) (fun ee ev t bu=>?_)
 obtain⟨a6,aM,rfl,ck⟩:=bu
 refine aF' (e:=65) (r:=(Rp.sl a')) (vs:=#[(0,.slice a6 aT.length aM)]) (cs:=[.slice a6 aT.length aM]++([])) ([aT]:List (List Za)) z z z z z (by decide) (fun _=>by kernel_rfl) ⟨[.slice a6 aT.length aM],[],z,⟨_,z,ck⟩,z⟩ (key:=999) z (by rw[aj]; rfl) (fun p6 er C dC=>?_)
 obtain⟨e7,cK,hr⟩:=hr
 refine N' z z (m' E12 z) (Z0 _ _ _ _ _ _ _ _ cK) z (⟨dC,(ay' (Rp.sl a') _)⟩) (fun dQ eo q be=>?_)
 obtain⟨cV,cP,bX,bZ,rfl,c1,ca⟩:=be
 refine mv z z<|yy (R' z z) z<|yy (R' z z) z<|X' 7 z z28 z fun b3=>B' 7 z bB' z z z z z (List.all_eq_true.1 z)<|sg z z<|nr<|yy (au' (vs:=#[]) (v:=.agg ([.slice none 0 0,.slice none 0 0,.slice none 0 0,i' 0]).toArray) z z (fun _=>by kernel_rfl)) z ?_
 obtain⟨eO,cI,hr⟩:=hr
 refine N' z z (m' E21 z) (cW' cI) z (⟨(ay' Rp.str _),(ay' U' _),(ay' U' _)⟩) (fun dM eX y bj=>?_)
 obtain⟨cD,c2,b8,cb,rfl,ct,bY⟩:=bj
 refine mv z z<|yy (R' z z) z<|yy (R' z z) z<|X' 9 z z28 z fun b4=>B' 9 z bB' z z z z z (List.all_eq_true.1 z)<|sg z z<|nr<|mv z z ?_
 obtain⟨e8,ci,hr⟩:=hr
 refine N' z z (m' E40 z) (bv' ci) z (trivial) (fun dY eY o bs=>?_)
 obtain⟨dU,d7,rfl,cT⟩:=bs
 obtain⟨ew,c3,hr⟩:=hr
 refine N' z z (m' E40 z) (bv' c3) z (trivial) (fun ed eH m bn=>?_)
 obtain⟨dS,dP,rfl,cM⟩:=bn
 obtain⟨av,cq,hr⟩:=hr
 refine N' z z (m' E41 z) (dz' cq) z (⟨(cT.mono m),cM⟩) (fun dW ex s bq=>?_)
 obtain⟨am,an,rfl,cJ⟩:=bq
 have N1:=mx (mx (mx (mx (mx (mx (mx (mx (mx (mx (mx (mx (mx (mx (mx (mx (mx (mx (mx (mx (mx cm a1) ao) aQ) aq) af) F) H) au) ad) Y) ax) K) I) J) t) C) q) y) o) m) s
 refine aF' (e:=65) (r:=(Rp.sl a')) (vs:=#[(0,.slice a9 bw.length bv),(1,.slice am av.length an)]) (cs:=[.slice a9 bw.length bv]++([.slice am av.length an]++([]))) ([bw,av]:List (List Za)) z z z z z (by decide) (fun _=>by kernel_rfl) ⟨[.slice a9 bw.length bv],[.slice am av.length an]++([]),z,⟨_,z,(de.mono N1)⟩,⟨[.slice am av.length an],[],z,⟨_,z,cJ⟩,z⟩⟩ (key:=999) z (by rw[aj]; rfl) fun p7 eM D dx=>yy (au' (vs:=#[(0,i' 2),(1,.slice p7 2 2)]) (v:=.agg ([i' 2,.slice p7 2 2,.slice none 0 0]).toArray) z z (fun _=>by kernel_rfl)) z ?_
 obtain⟨bM,cv,hr⟩:=hr
 refine N' z z (m' E18 z) (Zhw _ _ _ _ _ _ cv) z (⟨dx,(ay' (Rp.sl a') _)⟩) (fun dN dp E bd=>?_)
 obtain⟨cR,cB,b0,b9,rfl,aH,aA⟩:=bd
 refine mv z z<|yy (R' z z) z<|yy (R' z z) z<|X' 11 z z28 z fun b5=>X' 12 z z44 z fun b6=>B' 11 z bB' z z z z z (List.all_eq_true.1 z)<|B' 12 z sz44 z z z (Q' _ _ _) (Q' _ _ _) (fun u hu=>Rp.one (bD' .i64 8) (G:=dp) (x:=bM.2) (cs:=vecG (Value.int .i64) 8 bM.2) z u (by first|simpa using hu|simpa [Value.cells] using hu))<|nr ?_
 obtain⟨eP,cp,hr⟩:=hr
 refine N' z z (m' E40 z) (bv' cp) z (trivial) (fun el ep k br=>?_)
 obtain⟨ec,ef,rfl,cy⟩:=br
 refine mv z z ?_
 obtain⟨aP,cS,hr⟩:=hr
 have N2:=mx (mx (mx (mx (mx (mx (mx (mx (mx (mx (mx (mx (mx (mx (mx (mx (mx (mx (mx (mx (mx (mx (mx a1 ao) aQ) aq) af) F) H) au) ad) Y) ax) K) I) J) t) C) q) y) o) m) s) D) E) k
 refine N' z z (m' E39 z) (dS' cS) z (⟨cy,(bL.mono N2)⟩) (fun d9 fa B bp=>?_)
 obtain⟨aZ,aW,rfl,cZ⟩:=bp
 obtain⟨e0,cY,hr⟩:=hr
 refine N' z z (m' E40 z) (bv' cY) z (trivial) (fun ej eD n ba=>?_)
 obtain⟨dV,eg,rfl,cQ⟩:=ba
 obtain⟨eL,cF,hr⟩:=hr
 refine N' z z (m' E40 z) (bv' cF) z (trivial) (fun ek eW j bh=>?_)
 obtain⟨eb,dX,rfl,cf⟩:=bh
 obtain⟨ay,cl,hr⟩:=hr
 refine N' z z (m' E41 z) (dz' cl) z (⟨(cQ.mono j),cf⟩) (fun dZ eN l bg=>?_)
 obtain⟨ap,al,rfl,cA⟩:=bg
 refine aF' (e:=65) (r:=(Rp.sl a')) (vs:=#[(0,.slice aZ aP.length aW),(1,.slice ap ay.length al)]) (cs:=[.slice aZ aP.length aW]++([.slice ap ay.length al]++([]))) ([aP,ay]:List (List Za)) z z z z z (by decide) (fun _=>by kernel_rfl) ⟨[.slice aZ aP.length aW],[.slice ap ay.length al]++([]),z,⟨_,z,(cZ.mono (mx (mx n j) l))⟩,⟨[.slice ap ay.length al],[],z,⟨_,z,cA⟩,z⟩⟩ (key:=999) z (by rw[aj]; rfl) fun p8 bW A dB=>yy (au' (vs:=#[(0,i' 2),(1,.slice p8 2 2)]) (v:=.agg ([i' 2,.slice p8 2 2,.slice none 0 0]).toArray) z z (fun _=>by kernel_rfl)) z<|X' 13 z z28 z fun b7=>B' 13 z bB' z z z z z (List.all_eq_true.1 z)<|nx<|aO' (fun (gx:Mem)=>match gx with|a8=>[(2,.slice a5 O.length aL),(3,pt0 b1),(5,pt0 b2)]) (fun (gx:Mem)=>match gx with|a8=>Mem.le bW a8/\(Zdj O bQ bR).Ret r) (fun (gx:Mem)=>match gx with|a8=>St w0 G0 a8 [(3,bk0 b1 (v28' bQ.1 a2 a0 aF aB) 28),(5,bk0 b2 (v28' bR.1 aY aJ aE aG) 28)]) ?_ ?_
 .refine sr<|mv z z<|aE' hr z (bp' z z) z (fun dK hr=>?_) (fun dK hr=>?_)
  .refine mv z z<|sn2 z<|yy (w' z z) z<|mv z z<|sn2 z<|yy (w' z z) z<|mv z z<|sn2 z<|yy (w' z z) z<|mv z z<|sn4 z<|yy (w' z z) z<|mv z z<|sn3 z<|yy (w' z z) z<|nx<|aB' z<|sr<|sx0 z z<|k'<|f' (k0' hr z z)
  refine mv z z<|gy z z (c' z) z<|aE' hr (E' z z) (bp' z z) z (fun dD hr=>?_) (fun dD hr=>?_)
  .refine yy (t' z z) z<|mv z z<|sn2 z<|yy (w' z z) z<|mv z z<|sn2 z<|yy (w' z z) z<|mv z z<|sn4 z<|yy (w' z z) z<|mv z z<|sn3 z<|yy (w' z z) z<|nx<|aB' z<|sr<|sx0 z z<|k'<|f' (k0' hr z z)
  refine yy (t' z z) z<|mv z z<|gy z z (c' z) z<|aE' hr (E' z z) (bp' z z) z (fun du hr=>?_) (fun du hr=>?_)
  .refine yy (t' z z) z<|mv z z<|sn2 z<|yy (w' z z) z<|mv z z<|sn4 z<|yy (w' z z) z<|mv z z<|sn3 z<|yy (w' z z) z<|nx<|aB' z<|sr<|sx0 z z<|k'<|f' (k0' hr z z)
  refine yy (t' z z) z<|mv z z<|gy z z (c' z) z<|aE' hr (E' z z) (bp' z z) z (fun dE hr=>?_) (fun dE hr=>?_)
  .refine yy (t' z z) z<|mv z z<|sn4 z<|yy (w' z z) z<|mv z z<|sn3 z<|yy (w' z z) z<|nx<|aB' z<|sr<|sx0 z z<|k'<|f' (k0' hr z z)
  refine yy (t' z z) z<|mv z z<|gy z z (D' 11 bj' z z z) z<|gy z z (D' 13 bj' z z z) z ?_
  obtain⟨db,cE,hr⟩:=hr
  have N3:=mx (mx (mx (mx (mx k B) n) j) l) A
  refine K' (E' z z) z (m' E20 z) (ZaG _ _ _ _ _ _ _ _ _ _ _ cE) z (⟨(aH.mono N3),(aA.mono N3),dB,(ay' (Rp.sl a') _)⟩) ?_
  cases db
  .refine gy z z (aA' z) z<|yy (t' z z) z<|mv z z<|sn3 z<|yy (w' z z) z<|nx<|aB' z<|sr<|sx0 z z<|k'<|f' (k0' hr z z)
  refine gy z z (aA' z) z<|yy (t' z z) z<|mv z z<|gy z z (D' 12 ag44 z z (Q' _ _ _)) z<|gy z z (au' (vs:=#[(0,i' 1),(1,i' 0),(2,i' 2),(3,i' 3),(4,i' 4),(5,i' 5),(6,i' 6),(7,i' 7)]) (v:=.agg (vecG (Value.int .i64) 8 (setF (setF (setF (setF (setF (setF (setF (setF (fun _=>0) 0 1) 1 0) 2 2) 3 3) 4 4) 5 5) 6 6) 7 7)).toArray) z z (fun _=>by kernel_rfl)) z<|gy z z (Y0.neqV aZ' aD' sc3 sz3 eg44 z z) z<|yy (t' z z) z<|nx<|P' hr z (fun dw hr=>?_) (fun dw hr=>?_)
  .exact (show False from hr).elim
  refine n'<|ax' bW ⟨mr,hr⟩ (f3 z z z) (w2 z z)
 rintro a8 ⟨ac,hr⟩
 refine g'<|ak' [ff,ff,ff,ff,ff,ff,ff,ff,ff,ff,ff,ff] mix (by kernel_rfl) fun hb=>cn (fun _ d=>D' 3 bj' z z z) ?_
 obtain⟨aS,cw,hr⟩:=hr
 refine az' (post:=wl' a' aS) (fun _=>z) (fun _ _=>m' E40 z) (bv' cw) z (fun G' d=>trivial) (fun v G1 G2 d h=>?_) ?_
 .obtain⟨aV,aO,rfl,X⟩:=h
  exact⟨_,_,z,X.mono d⟩
 obtain⟨aR,co,hr⟩:=hr
 refine az' (post:=wl' a' aR) (fun _=>z) (fun _ _=>m' E40 z) (bv' co) z (fun G' d=>trivial) (fun v G1 G2 d h=>?_) ?_
 .obtain⟨aU,aK,rfl,Z⟩:=h
  exact⟨_,_,z,Z.mono d⟩
 obtain⟨i,cx,hr⟩:=hr
 refine bJ' (f:=39) (φ:=wl' a' i) (fun _=>z) (fun v G1 G2 d h=>?_) (fun u G' d hu=>?_) ?_
 .obtain⟨M,L,rfl,W⟩:=h
  exact⟨_,_,z,W.mono d⟩
 .obtain⟨⟨aU,aK,bU,Z⟩,⟨aV,aO,bK,X⟩,_⟩:=(show (wl' a' aR) G'.m (u 94)/\(wl' a' aS) G'.m (u 93)/\True from hu)
  exact⟨_,_,_,fun _=>m' E39 z,dS' cx,(by simp only[bU,bK] <;> rfl),⟨X,Z⟩⟩
 refine cu' (r:=(Rp.sl a')) (e:=65) ([i]:List (List Za)) (fun _=>z) z (by decide) (fun u G' d hu=>?_) ?_
 .obtain⟨⟨M,L,bI,W⟩,_,_,_⟩:=(show (wl' a' i) G'.m (u 95)/\True/\True/\True from hu)
  simp only[undFr,bI]
  exact⟨#[(0,.slice M i.length L)],[.slice M i.length L]++([]),z,z,fun _=>by kernel_rfl,⟨[.slice M i.length L],[],z,⟨_,z,W⟩,z⟩⟩
 refine bF' (φ:=fun G v=>∃ p g,v = .agg ([i' 1,.slice p 1 g,.slice none 0 0]).toArray/\SlR (Rp.sl a') G (.slice p 1 g) [i]) (fun _=>z) (fun v G1 G2 d h=>?_) (fun u G' d hu=>?_) ?_
 .obtain⟨p,g,rfl,aw⟩:=h
  exact⟨_,_,z,aw.mono d⟩
 .obtain⟨⟨p9,ak,bO,bN⟩,_,_,_,_⟩:=(show (fun G v=>∃ p9 ak,v = .slice p9 1 1/\SlRd (Rp.sl a') G (.slice p9 1 1) ak [i]) G'.m (u 96)/\True/\True/\True/\True from hu)
  simp only[undFr,bO]
  exact⟨_,au' (vs:=#[(0,i' 1),(1,.slice p9 1 1)]) (v:=.agg ([i' 1,.slice p9 1 1,.slice none 0 0]).toArray) z z (fun _=>by kernel_rfl),p9,1,z,bN⟩
 obtain⟨bJ,cc,hr⟩:=hr
 refine dt' (f:=20) (c:=.bool bJ) (fun _=>z) (fun u G' d hu=>?_) ?_
 .obtain⟨⟨p,g,bV,aw⟩,_,_,_,_,_⟩:=(show (fun G v=>∃ p g,v = .agg ([i' 1,.slice p 1 g,.slice none 0 0]).toArray/\SlR (Rp.sl a') G (.slice p 1 g) [i]) G'.m (u 97)/\True/\True/\True/\True/\True from hu)
  have N4:=mx (mx (mx (mx (mx (mx (mx (mx (mx (mx (mx (mx (mx (mx (mx (mx (mx (mx K I) J) t) C) q) y) o) m) s) D) E) k) B) n) j) l) A) ac
  exact⟨_,_,_,fun _=>m' E20 z,ZaG _ _ _ _ _ _ _ _ _ _ _ cc,(by simp only[bV] <;> rfl),⟨((a3.mono N4).mono d),((aD.mono N4).mono d),aw,(ay' (Rp.sl a') _)⟩⟩
 cases bJ
 .refine cu (fun _ _ d=>c' z)<|aC' (fun _=>(aU' z z))<|aC' (fun _=>(aU' z z))<|aC' (fun _=>(aU' z z))<|aC' (fun _=>(aU' z z))<|Chain.tailU5 (d0:=97) (post0:=fun G v=>∃ p g,v = .agg ([i' 1,.slice p 1 g,.slice none 0 0]).toArray/\SlR (Rp.sl a') G (.slice p 1 g) [i]) (d1:=96) (post1:=fun G v=>∃ p9 ak,v = .slice p9 1 1/\SlRd (Rp.sl a') G (.slice p9 1 1) ak [i]) (d2:=95) (post2:=wl' a' i) (d3:=94) (post3:=wl' a' aR) (d4:=93) (post4:=wl' a' aS) (fun cU ce cz cg cG eI dI Q T S U R=>?_)
  obtain⟨p,g,rfl,aw⟩:=Q
  obtain⟨p9,ak,rfl,bN⟩:=T
  obtain⟨M,L,rfl,W⟩:=S
  obtain⟨aU,aK,rfl,Z⟩:=U
  obtain⟨aV,aO,rfl,X⟩:=R
  refine sk z z z<|yy (t' z z) z<|mv z z<|sn2 z<|yy (t' z z) z<|mv z z<|sn3 z<|yy (t' z z) z<|sg z z<|q'<|am'<|b'<|k' (k0' hr z z)
 refine cu (fun _ _ d=>c' z)<|aN' (fun _=>(E' z z)) (fun _ _ d=>D' 5 bj' z z z)<|aN' (fun _=>(E' z z)) (fun _ _ d=>c' z)<|cu' (r:=(Rp.sl a')) (e:=65) ([O]:List (List Za)) (fun _=>(E' z z)) z (by decide) (fun u G' d hu=>?_) ?_
 .have N5:=mx (mx (mx (mx (mx (mx N2 B) n) j) l) A) ac
  exact⟨#[(0,.slice a5 O.length aL)],[.slice a5 O.length aL]++([]),z,z,fun _=>by kernel_rfl,⟨[.slice a5 O.length aL],[],z,⟨_,z,((bL.mono N5).mono d)⟩,z⟩⟩
 refine bF' (φ:=fun G v=>∃ az V,v = .agg ([i' 2,.slice az 1 V,.slice none 0 0]).toArray/\SlR (Rp.sl a') G (.slice az 1 V) [O]) (fun _=>(E' z z)) (fun v G1 G2 d h=>?_) (fun u G' d hu=>?_) ?_
 .obtain⟨az,V,rfl,bt⟩:=h
  exact⟨_,_,z,bt.mono d⟩
 .obtain⟨⟨P,ar,bT,bS⟩,_,_,_,_,_,_⟩:=(show (fun G v=>∃ P ar,v = .slice P 1 1/\SlRd (Rp.sl a') G (.slice P 1 1) ar [O]) G'.m (u 102)/\True/\True/\True/\True/\True/\True from hu)
  simp only[undFr,bT]
  exact⟨_,au' (vs:=#[(0,i' 2),(1,.slice P 1 1)]) (v:=.agg ([i' 2,.slice P 1 1,.slice none 0 0]).toArray) z z (fun _=>by kernel_rfl),P,1,z,bS⟩
 refine Chain.tailU7 (d0:=103) (post0:=fun G v=>∃ az V,v = .agg ([i' 2,.slice az 1 V,.slice none 0 0]).toArray/\SlR (Rp.sl a') G (.slice az 1 V) [O]) (d1:=102) (post1:=fun G v=>∃ P ar,v = .slice P 1 1/\SlRd (Rp.sl a') G (.slice P 1 1) ar [O]) (d2:=97) (post2:=fun G v=>∃ p g,v = .agg ([i' 1,.slice p 1 g,.slice none 0 0]).toArray/\SlR (Rp.sl a') G (.slice p 1 g) [i]) (d3:=96) (post3:=fun G v=>∃ p9 ak,v = .slice p9 1 1/\SlRd (Rp.sl a') G (.slice p9 1 1) ak [i]) (d4:=95) (post4:=wl' a' i) (d5:=94) (post5:=wl' a' aR) (d6:=93) (post6:=wl' a' aS) (fun dT ei cU ce cz cg cG ez a7 bc bb Q T S U R=>?_)
 obtain⟨az,V,rfl,bt⟩:=bc
 obtain⟨P,ar,rfl,bS⟩:=bb
 obtain⟨p,g,rfl,aw⟩:=Q
 obtain⟨p9,ak,rfl,bN⟩:=T
 obtain⟨M,L,rfl,W⟩:=S
 obtain⟨aU,aK,rfl,Z⟩:=U
 obtain⟨aV,aO,rfl,X⟩:=R
 obtain⟨dl,cO,hr⟩:=hr
 have N6:=mx (mx (mx (mx (mx (mx (mx (mx (mx (mx (mx (mx (mx (mx (mx (mx t C) q) y) o) m) s) D) E) k) B) n) j) l) A) ac) a7
 refine K' (E' z z) z (m' E20 z) (ZaG _ _ _ _ _ _ _ _ _ _ _ cO) z (⟨(aN.mono N6),(aC.mono N6),bt,(ay' (Rp.sl a') _)⟩) ?_
 cases dl
 .refine yy (w' z z) z<|mv z z<|sn2 z<|yy (t' z z) z<|mv z z<|sn3 z<|yy (t' z z) z<|sg z z<|q'<|am'<|b'<|k' (k0' hr z z)
 refine yy (w' z z) z<|mv z z<|gy z z (au' (vs:=#[(3,i' 1)]) (v:=.agg ([.slice none 0 0,.slice none 0 0,.slice none 0 0,i' 1]).toArray) z z (fun _=>by kernel_rfl)) z ?_
 obtain⟨dg,cd,hr⟩:=hr
 refine K' (E' z z) z (m' E28 z) (ct' cd) z (⟨(ay' Rp.str _),(ay' U' _),(ay' U' _)⟩) ?_
 cases dg
 .refine yy (w' z z) z<|mv z z<|sn3 z<|yy (t' z z) z<|sg z z<|q'<|am'<|b'<|k' (k0' hr z z)
 refine yy (w' z z) z<|mv z z<|gy z z (au' (vs:=#[]) (v:=.agg ([.slice none 0 0,.slice none 0 0,.slice none 0 0,i' 0]).toArray) z z (fun _=>by kernel_rfl)) z ?_
 obtain⟨eE,ch,hr⟩:=hr
 refine K' (E' z z) z (m' E28 z) (ct' ch) z (⟨(ay' Rp.str _),(ay' U' _),(ay' U' _)⟩)<|gy z z (aA' z) z<|yy (w' z z) z<|sg z z<|q'<|am'<|b'<|k' (k0' hr z z)
theorem fZ'{c r}(hr:(ZfP c).Ret r):Ctr prog 83 #[.int .i8 c] (fun G=>True) (fun G v=>v=i' r):=by
 refine H' (args:=[_]) (N:=10) func83 z z z fun g h f e=>sr<|sx0 z z<|g'<|sr<|mv z z<|yy (aa' z z) z<|nx<|P' hr z (fun d hr=>?_) (fun d hr=>?_)
 .refine sr<|mv z z<|yy (av' cP' aD' z) z<|yy (Y0.neg z) z<|sx0 z z<|k'<|f' (k0' hr z z)
 refine n'<|b'<|sr<|mv z z<|yy (av' cP' aD' z) z<|sx0 z z<|k' (k0' hr z z)
theorem ff'{y O I V A B r}(hr:(Zgp y O I V).Ret r):Ctr prog 42 #[.agg ([.slice A y.t.length B]).toArray,i' O,i' I,i' V] (fun G=>sl (bD' .i8 5) G A B y.t) (wl' a' r):=by
 refine H' (args:=[_,_,_,_]) (N:=74) func42 z z z (fun w0 G0 aB aQ=>?_)
 have H:=aQ
 refine sr<|ai' 4 z z z fun b1=>sg z z<|nr<|aF' (e:=119) (r:=a') (vs:=#[]) (cs:=[]) ([]:List Za) z z z z z (by decide) (fun _=>by kernel_rfl) (z) (key:=999) z (by rw[aB]; rfl) fun p1 ap U aV=>sx0 z z<|g'<|sr<|sx0 z z<|ab' (fun (⟨J,Q,T,Z⟩:(List Za)×Option Addr×Nat×Mem)=>[(9,.slice Q J.length T)]) (fun ⟨J,Q,T,Z⟩=>Mem.le ap Z/\sl a' Z Q T J/\(Zeb J).Ret r) (fun ⟨J,Q,T,Z⟩=>St w0 G0 Z []) ?_ ?_
 .refine y' ?_
  let Y:(List Za)->Prop:=fun oo=>((fun ov=>match ov with|J=>Zeb J:(List Za)->Cq (List Za)) oo).wp (fun a=>a=r)
  replace hr:(Cq.loop _ _).wp Y:=hr
  refine ac' (Φ:=Y) (fun (⟨k,m,n,j,L⟩:(List Za)×Option Addr×Nat×Int×Mem)=>((k,j):(List Za)×Int)) (fun ⟨k,m,n,j,L⟩=>[(1,i' O),(2,i' I),(3,i' V),(4,pt0 b1),(9,.slice m k.length n),(10,i' j)]) (fun ⟨k,m,n,j,L⟩=>Mem.le ap L/\sl a' L m n k) (fun ⟨k,m,n,j,L⟩=>St w0 G0 L [(4,bk0 b1 ([.slice A y.t.length B]) 93)]) ⟨[],p1,0,0,ap⟩ hr (f6 z z z z z z) ⟨mr,aV⟩ (w1 z) ?_
  .intro ao gx hx hr
   obtain⟨k,m,n,j,L⟩:=gx
   obtain⟨s,af⟩:=hx
   refine aO' (fun (gx:Mem)=>match gx with|R=>[(1,i' O),(2,i' I),(3,i' V),(4,pt0 b1),(9,.slice m k.length n),(10,i' j)]) (fun (gx:Mem)=>match gx with|R=>Mem.le L R/\(Zf5 y O I k j).wp (Out ao Y)) (fun (gx:Mem)=>match gx with|R=>St w0 G0 R [(4,bk0 b1 ([.slice A y.t.length B]) 93)]) ?_ ?_
   .refine sr<|mv z z<|yy (Y0.ZiM z) z<|yy (o' 4 sc91 z z z) z<|yy (O' dY' (H.mono (mx U s)) z) z<|aE' hr z (aa' z z) z (fun aU hr=>?_) (fun aU hr=>?_)
    .refine mv z z<|gy z z (c' z) z<|gy z z (c' z) z<|gy z z (aa' z z) z<|yy (w' z z) z<|nx<|P' hr z (fun aT hr=>?_) (fun aT hr=>?_)
     .refine n'<|ax' L ⟨mr,hr⟩ (f6 z z z z z z) (w1 z)
     refine ae'<|h'<|h'<|I'<|af' ⟨k,m,n,L⟩ ⟨s,af,hr⟩ (f1 z) (wk ln)
    refine mv z z<|sn3 z<|yy (t' z z) z<|nx<|bw' z<|ae'<|h'<|h'<|I'<|af' ⟨k,m,n,L⟩ ⟨s,af,hr⟩ (f1 z) (wk ln)
   rintro R ⟨M,hr⟩
   refine g'<|y'<|sr<|yy (au' (vs:=#[]) (v:=.agg (vecG (Value.int .i64) 8 (fun _=>0)).toArray) z z (fun _=>by kernel_rfl)) z<|X' 11 z z68 z fun b2=>B' 11 z sz68 z z z (Q' _ _ _) (Q' _ _ _) (fun u hu=>Rp.one (bD' .i64 8) (G:=R) (x:=(fun _=>0)) (cs:=vecG (Value.int .i64) 8 (fun _=>0)) z u (by first|simpa using hu|simpa [Value.cells] using hu))<|nr<|mv z z<|sx0 z z<|g'<|sr<|sx0 z z<|ab' (fun (⟨t,ah⟩:(Fin 8->Int)×Mem)=>[(1,i' O),(2,i' I),(3,i' V),(4,pt0 b1),(9,.slice m k.length n),(10,i' j),(11,pt0 b2)]) (fun ⟨t,ah⟩=>Mem.le R ah/\(Zec y k j t).wp (Out ao Y)) (fun ⟨t,ah⟩=>St w0 G0 ah [(4,bk0 b1 ([.slice A y.t.length B]) 93),(11,bk0 b2 (vecG (Value.int .i64) 8 t) 68)]) ?_ ?_
   .refine y' ?_
    let aq:(Fin 8->Int)->Prop:=fun oo=>((fun ov=>match ov with|t=>Zec y k j t:(Fin 8->Int)->Cq (((List Za)×Int)⊕(List Za))) oo).wp (Out ao Y)
    replace hr:(Cq.loop _ _).wp aq:=hr
    refine ac' (Φ:=aq) (fun (⟨p,l,K,P⟩:Int×Int×(Fin 8->Int)×Mem)=>((p,l,K):Int×Int×(Fin 8->Int))) (fun ⟨p,l,K,P⟩=>[(1,i' O),(2,i' I),(3,i' V),(4,pt0 b1),(9,.slice m k.length n),(10,i' j),(11,pt0 b2),(12,i' p),(13,i' l)]) (fun ⟨p,l,K,P⟩=>Mem.le R P) (fun ⟨p,l,K,P⟩=>St w0 G0 P [(4,bk0 b1 ([.slice A y.t.length B]) 93),(11,bk0 b2 (vecG (Value.int .i64) 8 K) 68)]) ⟨I,0,(fun _=>0),R⟩ hr (f9 z z z z z z z z z) mr (w2 z z) ?_
    .intro be gx hx hr
     obtain⟨p,l,K,P⟩:=gx
     have S:=hx
     refine g'<|sr<|mv z z<|mv z z<|aE' hr z (aa' z z) z (fun a1 hr=>?_) (fun a1 hr=>?_)
     .refine mv z z<|gy z z (c' z) z<|gy z z (aa' z z) z<|yy (w' z z) z<|nx<|P' hr z (fun a2 hr=>?_) (fun a2 hr=>?_)
      .refine n'<|b'<|g'<|y'<|sr<|mv z z<|yy (Y0.ZiM z) z<|yy (o' 4 sc91 z z z) z<|mv z z<|mv z z<|yy (W' z z) z ?_
       obtain⟨x2,az,hr⟩:=hr
       refine yy (V' dY' sz137 (H.mono (mx (mx (mx U s) M) S)) z z az) z ?_
       obtain⟨aA,hr⟩:=hr
       refine yy (Y0.idxA underlying137 sz54 z z aA) z<|yy (aj' sc54 z (dQ' (J' (Z' H az) (mx (mx (mx U s) M) S)) aA)) z ?_
       obtain⟨au,aO,hr⟩:=hr
       refine K' z z (m' E83 z) (fZ' aO) z (trivial)<|mv z z<|yy (W' z z) z ?_
       obtain⟨aX,hr⟩:=hr
       refine yy (bP' z z aX) z ?_
       obtain⟨a0,hr⟩:=hr
       refine yy (aT' ar' sz3 z z a0) z<|by' 11 (vecG (Value.int .i64) 8 (setF K l.toNat (Int.tmod au (i64.wrap (p+1))))).toArray z sz3 z z z (by first|(rw[Q']; omega)|(show _<(vecG _ _ _).toArray.size; rw[Q']; omega)) z (cL' _ _ _ _ _)<|nx<|x'<|mv z z<|mv z z ?_
       obtain⟨aC,hr⟩:=hr
       refine yy (aT' ar' sz3 z z aC) z<|yy (o' 11 sc3 z z (bh' _ _ _ aC)) z<|yy (ba' z z) z<|sg z z<|q'<|F'<|b'<|x'<|mv z z<|yy (W' z z) z<|sg z z<|q'<|T' ⟨i64.wrap (p-(getF (setF K l.toNat (Int.tmod au (i64.wrap (p+1)))) l)),i64.wrap (l+1),setF K l.toNat (Int.tmod au (i64.wrap (p+1))),P⟩ hr S (f9 z z z z z z z z z) (w2 z z)
      refine ae'<|h'<|h'<|I'<|af' ⟨K,P⟩ ⟨S,hr⟩ (f7 z z z z z z z) (w2 z z)
     refine mv z z<|sn2 z<|yy (t' z z) z<|nx<|bw' z<|ae'<|h'<|h'<|I'<|af' ⟨K,P⟩ ⟨S,hr⟩ (f7 z z z z z z z) (w2 z z)
   rintro⟨t,ah⟩ ⟨X,hr⟩
   refine b'<|ak' [tt,ff,ff,ff,ff,ff,ff,ff,ff,ff,ff,ff] mix (by kernel_rfl) fun hb=>cv' z (c' z)<|cn (fun _ o=>Y0.ZiM z)<|cn (fun _ o=>o' 4 sc91 z z z)<|cn (fun _ o=>c' z) ?_
   obtain⟨x1,aE,hr⟩:=hr
   have N1:=mx (mx (mx U s) M) X
   refine cn (fun _ o=>V' dY' sz137 ((H.mono N1).mono o) z z aE)<|cn (fun _ o=>Y0.idxA underlying137 sz54 z z (by decide))<|cn (fun _ o=>aj' sc54 z (dQ' (J' (J' (Z' H aE) N1) o) (by decide)))<|cn (fun _ o=>bP' z z (by decide))<|cn (fun _ o=>av' cP' cp' z) ?_
   obtain⟨aD,aJ,hr⟩:=hr
   refine az' (post:=w59' aD) (fun _=>z) (fun _ _=>m' E26 z) (cc' aJ) z (fun G' o=>trivial) (fun v G1 G2 o h=>?_) ?_
   .obtain⟨ae,ad,aa,ac,rfl,D,C⟩:=h
    exact⟨_,_,_,_,z,D.mono o,C.mono o⟩
   obtain⟨q,aK,hr⟩:=hr
   refine az' (post:=w59' q) (fun _=>z) (fun _ _=>m' E26 z) (cc' aK) z (fun G' o=>trivial) (fun v G1 G2 o h=>?_) ?_
   .obtain⟨c,g,f,i,rfl,F,E⟩:=h
    exact⟨_,_,_,_,z,F.mono o,E.mono o⟩
   refine cu (fun _ _ o=>D' 11 bo' z z (Q' _ _ _))<|cD' (d:=67) (post:=w59' q) (d':=66) (post':=w59' aD) (fun a9 ba bg ai an ak=>?_)
   obtain⟨c,g,f,i,rfl,F,E⟩:=an
   obtain⟨ae,ad,aa,ac,rfl,D,C⟩:=ak
   refine yy (au' (vs:=#[(0,.agg ((v59' q c g f i)).toArray),(1,.agg (vecG (Value.int .i64) 8 t).toArray)]) (v:=.agg (((v59' q c g f i):List Value)++(vecG (Value.int .i64) 8 t)).toArray) z z (fun _=>by kernel_rfl)) z<|aF' (e:=119) (r:=a') (vs:=#[(0,.agg (((v59' q c g f i):List Value)++(vecG (Value.int .i64) 8 t)).toArray)]) (cs:=(((v59' q c g f i):List Value)++(vecG (Value.int .i64) 8 t))++([])) ([(Za.mk q t)]:List Za) z z z z z (by decide) (fun _=>by kernel_rfl) ⟨((v59' q c g f i):List Value)++(vecG (Value.int .i64) 8 t),[],z,⟨(v59' q c g f i),vecG (Value.int .i64) 8 t,z,⟨(v57' q.num c g),(v57' q.den f i),z,⟨[.bool q.num.neg],[.slice c q.num.mag.length g],z,z,⟨_,z,F⟩⟩,⟨[.bool q.den.neg],[.slice f q.den.mag.length i],z,z,⟨_,z,E⟩⟩⟩,z⟩,z⟩ (key:=999) z (by rw[aB]; rfl) (fun p2 bi W aW=>?_)
   obtain⟨bh,aP,hr⟩:=hr
   refine N' z z (m' E80 z) (eW' aP) z (⟨(D.mono W),(C.mono W),aW⟩) (fun a6 bf aj am=>?_)
   obtain⟨a5,bb,rfl,aH⟩:=am
   obtain⟨aS,aF,hr⟩:=hr
   refine N' z z (m' E41 z) (dz' aF) z (⟨(af.mono (mx (mx (mx (mx M X) ai) W) aj)),aH⟩) (fun a8 aZ aw al=>?_)
   obtain⟨aN,aM,rfl,aL⟩:=al
   have N2:=mx (mx (mx (mx (mx (mx s M) X) ai) W) aj) aw
   refine sg z z<|q'<|am'<|F'<|b'<|x'<|mv z z<|yy (W' z z) z<|sg z z<|q'<|T' ⟨aS,aN,aM,i64.wrap (j+1),aZ⟩ hr ⟨N2,aL⟩ (f6 z z z z z z) (w1 z)
 rintro⟨J,Q,T,Z⟩ ⟨a3,ax,hr⟩
 refine b'<|sr<|mv z z<|sx0 z z<|k' ?_
 obtain rfl:_=r:=hr
 exact j' z z ⟨_,_,z,ax⟩
end Go.Proofs.YtoakocgcakgpnaaGreat

namespace Go.Proofs.YtoakocgcakgpnaaGreat
open Go.IntKind (i8 i16 i32 i64 u8 u16 u32 u64)
open Go.Proofs.Tryz
open Go Go.EL Go.RowKit Go.Proofs
theorem dp'{A af ad R U r}(hr:(ZeG A).Ret r):Ctr prog 17 #[.agg ((v37' A af ad R U)).toArray] (fun G=>sl cE' G af ad A.l/\sl (Rp.int .u8) G R U A.gap) (w42' r):=by
 refine H' (args:=[_]) (N:=77) func17 z z z (fun w0 G0 aw a4=>?_)
 obtain⟨am,Z⟩:=a4
 refine sr<|ai' 1 z z z fun b1=>X' 2 z z42 z fun b2=>nr<|aF' (e:=9) (r:=Rp.str) (vs:=#[(0,.string ZG),(1,.string ZF),(2,.string ZC)]) (cs:=[.string ZG]++([.string ZF]++([.string ZC]++([])))) ([ZG,ZF,ZC]:List ByteArray) z z z z z (by decide) (fun _=>by kernel_rfl) ⟨[.string ZG],[.string ZF]++([.string ZC]++([])),z,z,⟨[.string ZF],[.string ZC]++([]),z,z,⟨[.string ZC],[],z,z,z⟩⟩⟩ (key:=999) z (by rw[aw]; rfl) fun p1 aI ab bd=>sg z z<|nr<|yy (Y0.Znb z) z<|yy (o' 1 sc5 z z z) z<|yy (bP' z z (by decide)) z<|yy (av' aL' aD' z) z<|sg z z<|nr<|mv z z<|mv z z<|mv z z ?_
 obtain⟨bi,hr⟩:=hr
 refine WL.slice3 (r:=Rp.str) z z aI' sz9 z bd z z z bi fun p2 bf=>yy (au' (vs:=#[(0,.slice p2 (([ZG,ZF,ZC].take (i64.wrap (Int.tmod A.n 4)).toNat).drop (0:Int).toNat).length ((([ZG,ZF,ZC].take (i64.wrap (Int.tmod A.n 4)).toNat).drop (0:Int).toNat).length)),(3,i' 1)]) (v:=.agg ([.slice p2 (([ZG,ZF,ZC].take (i64.wrap (Int.tmod A.n 4)).toNat).drop (0:Int).toNat).length ((([ZG,ZF,ZC].take (i64.wrap (Int.tmod A.n 4)).toNat).drop (0:Int).toNat).length),.slice none 0 0,.slice none 0 0,i' 1]).toArray) z z (fun _=>by kernel_rfl)) z<|X' 5 z z42 z fun b3=>B' 5 z sz42 z z z z z (List.all_eq_true.1 z)<|nx<|g'<|sr<|sx0 z z<|ab' (fun (⟨E,T,S,D,P,O,Q,y,H,J,L,I,ai⟩:(List ByteArray)×Option Addr×Nat×(List Zg)×Option Addr×Nat×Option Ow×(List Zg)×Option Addr×Nat×Option Ow×Int×Mem)=>[(2,pt0 b2),(5,pt0 b3)]) (fun ⟨E,T,S,D,P,O,Q,y,H,J,L,I,ai⟩=>Mem.le aI ai/\sl Rp.str ai T S E/\sl U' ai P O D/\Tok 2 70 (.slice P D.length O) D.length Q/\sl U' ai H J y/\Tok 2 70 (.slice H y.length J) y.length L/\(ZbQ E D y I).Ret r) (fun ⟨E,T,S,D,P,O,Q,y,H,J,L,I,ai⟩=>St w0 G0 ai [(2,bk0 b2 ([.slice none 0 0,.slice none 0 0,.slice none 0 0,i' 0]) 42),(5,bk0 b3 ([.slice T E.length S,.slice P D.length O,.slice H y.length J,i' I]) 42),(310051,Q),(310052,L)]) ?_ ?_
 .refine y' ?_
  let aq:(((List ByteArray)×(List Zg)×(List Zg)×Int))->Prop:=fun oo=>((fun ov=>match ov with|(E,D,y,I)=>ZbQ E D y I:(((List ByteArray)×(List Zg)×(List Zg)×Int))->Cq Zm) oo).wp (fun a=>a=r)
  replace hr:(Cq.loop _ _).wp aq:=hr
  refine ac' (Φ:=aq) (fun (⟨M,f,g,k,l,q,s,t,d,n,m,p,c,W⟩:Int×(List ByteArray)×Option Addr×Nat×(List Zg)×Option Addr×Nat×Option Ow×(List Zg)×Option Addr×Nat×Option Ow×Int×Mem)=>((M,f,l,d,c):Int×(List ByteArray)×(List Zg)×(List Zg)×Int)) (fun ⟨M,f,g,k,l,q,s,t,d,n,m,p,c,W⟩=>[(1,pt0 b1),(2,pt0 b2),(4,i' (i64.wrap (Int.tmod A.n 4))),(5,pt0 b3),(6,i' M)]) (fun ⟨M,f,g,k,l,q,s,t,d,n,m,p,c,W⟩=>Mem.le aI W/\sl Rp.str W g k f/\sl U' W q s l/\Tok 2 70 (.slice q l.length s) l.length t/\sl U' W n m d/\Tok 2 70 (.slice n d.length m) d.length p) (fun ⟨M,f,g,k,l,q,s,t,d,n,m,p,c,W⟩=>St w0 G0 W [(1,bk0 b1 (v37' A af ad R U) 37),(2,bk0 b2 ([.slice none 0 0,.slice none 0 0,.slice none 0 0,i' 0]) 42),(5,bk0 b3 ([.slice g f.length k,.slice q l.length s,.slice n d.length m,i' c]) 42),(310051,t),(310052,p)]) ⟨0,(([ZG,ZF,ZC].take (i64.wrap (Int.tmod A.n 4)).toNat).drop (0:Int).toNat),p2,(([ZG,ZF,ZC].take (i64.wrap (Int.tmod A.n 4)).toNat).drop (0:Int).toNat).length,[],none,0,none,[],none,0,none,1,aI⟩ hr (f5 z z z z z) ⟨mr,bf,(ay' _ _),cb',(ay' _ _),cb'⟩ (wk (lc z (lc z (lc z (lw (lw ln)))))) ?_
  .intro aP gx hx hr
   obtain⟨M,f,g,k,l,q,s,t,d,n,m,p,c,W⟩:=gx
   obtain⟨F,X,ag,Y,aa,V⟩:=hx
   refine aO' (fun (gx:Mem)=>match gx with|ah=>[(1,pt0 b1),(2,pt0 b2),(4,i' (i64.wrap (Int.tmod A.n 4))),(5,pt0 b3),(6,i' M)]) (fun (gx:Mem)=>match gx with|ah=>Mem.le W ah/\(ZcT A M f l d c).wp (Out aP aq)) (fun (gx:Mem)=>match gx with|ah=>St w0 G0 ah [(1,bk0 b1 (v37' A af ad R U) 37),(2,bk0 b2 ([.slice none 0 0,.slice none 0 0,.slice none 0 0,i' 0]) 42),(5,bk0 b3 ([.slice g f.length k,.slice q l.length s,.slice n d.length m,i' c]) 42),(310051,t),(310052,p)]) ?_ ?_
   .refine sr<|mv z z<|yy (Y0.ZkR z) z<|yy (o' 1 sc22 z z z) z<|yy (O' dq' (am.mono (mx ab F)) z) z<|aE' hr z (aa' z z) z (fun bl hr=>?_) (fun bl hr=>?_)
    .refine mv z z<|gy z z (c' z) z<|gy z z (aa' z z) z<|yy (w' z z) z<|nx<|P' hr z (fun bg hr=>?_) (fun bg hr=>?_)
     .refine n'<|ax' W ⟨mr,hr⟩ (f5 z z z z z) (w5 z z z z z)
     refine ae'<|h'<|h'<|I'<|af' ⟨f,g,k,l,q,s,t,d,n,m,p,c,W⟩ ⟨F,X,ag,Y,aa,V,hr⟩ (f2 z z) (w4 z z z z)
    refine mv z z<|sn2 z<|yy (t' z z) z<|nx<|bw' z<|ae'<|h'<|h'<|I'<|af' ⟨f,g,k,l,q,s,t,d,n,m,p,c,W⟩ ⟨F,X,ag,Y,aa,V,hr⟩ (f2 z z) (w4 z z z z)
   rintro ah ⟨B,hr⟩
   refine g'<|y'<|sr<|sx0 z z<|aO' (fun (⟨o,ax⟩:Int×Mem)=>[(1,pt0 b1),(2,pt0 b2),(4,i' (i64.wrap (Int.tmod A.n 4))),(5,pt0 b3),(6,i' M),(7,i' o)]) (fun ⟨o,ax⟩=>Mem.le ah ax/\(ZcS A M f l d c o).wp (Out aP aq)) (fun ⟨o,ax⟩=>St w0 G0 ax [(1,bk0 b1 (v37' A af ad R U) 37),(2,bk0 b2 ([.slice none 0 0,.slice none 0 0,.slice none 0 0,i' 0]) 42),(5,bk0 b3 ([.slice g f.length k,.slice q l.length s,.slice n d.length m,i' c]) 42),(310051,t),(310052,p)]) ?_ ?_
   .refine sr<|yy (Y0.ZiJ z) z<|yy (o' 1 sc35 z z z) z<|yy (O' cn' (Z.mono (mx (mx ab F) B)) z) z<|yy (aS' z z) z<|nx<|P' hr z (fun bc hr=>?_) (fun bc hr=>?_)
    .refine ak' [ff,ff,ff,ff,ff,ff,ff] mix (by kernel_rfl) fun hb=>cn (fun _ x=>Y0.ZiJ z)<|cn (fun _ x=>o' 1 sc35 z z z)<|cn (fun _ x=>c' z)<|cn (fun _ x=>Y0.ZiJ z)<|cn (fun _ x=>o' 1 sc35 z z z)<|cn (fun _ x=>O' cn' ((Z.mono (mx (mx ab F) B)).mono x) z) ?_
     obtain⟨bh,hr⟩:=hr
     refine cn (fun _ x=>bP' z z bh)<|ah' hb ?_
     obtain⟨x2,aO,hr⟩:=hr
     refine yy (V' cn' sz5 (Z.mono (mx (mx ab F) B)) z z aO) z<|yy (aj' sc5 z (aJ' (J' (Z' Z aO) (mx (mx ab F) B)))) z<|yy (bP' z z (by decide)) z<|yy (av' aL' aD' z) z<|sg z z<|q'<|am'<|ax' ⟨i64.wrap (Int.tmod x2 4),ah⟩ ⟨mr,hr⟩ (f6 z z z z z z) (w5 z z z z z)
    refine n'<|ax' ⟨0,ah⟩ ⟨mr,hr⟩ (f6 z z z z z z) (w5 z z z z z)
   rintro⟨o,ax⟩ ⟨K,hr⟩
   refine g'<|ak' [ff,ff,ff,ff,ff,ff,ff,ff,ff,ff,ff,ff,ff] mix (by kernel_rfl) fun hb=>cn (fun _ x=>bz' z)<|cn (fun _ x=>o' 5 sc3 z z z)<|cn (fun _ x=>c' z)<|cn (fun _ x=>W' z z)<|cn (fun _ x=>Y0.ZkR z)<|cn (fun _ x=>o' 1 sc22 z z z)<|cn (fun _ x=>c' z) ?_
   obtain⟨x1,aR,hr⟩:=hr
   refine cn (fun _ x=>V' dq' sz93 ((am.mono (mx (mx (mx ab F) B) K)).mono x) z z aR) ?_
   obtain⟨bu,bo,a9,aS⟩:=ZiA (J' (Z' am aR) (mx (mx (mx ab F) B) K))
   refine cn (fun _ x=>ao' _ ag93 z z (fun j v hv=>x _ _ _ (a9 j v hv)))<|cn (fun _ x=>c' z) ?_
   obtain⟨C,aY,hr⟩:=hr
   refine az' (post:=wl' a' C) (fun _=>z) (fun _ _=>m' E42 z) (ff' aY) z (fun G' x=>(aS.mono x)) (fun v G1 G2 x h=>?_) ?_
   .obtain⟨ao,an,rfl,ar⟩:=h
    exact⟨_,_,z,ar.mono x⟩
   refine bF' (φ:=fun G v=>∃ p3 ac,v = .agg ([i' (i64.wrap (c+o)),.slice p3 C.length ac]).toArray/\sl a' G p3 ac C) (fun _=>z) (fun v G1 G2 x h=>?_) (fun u G' x hu=>?_) ?_
   .obtain⟨p3,ac,rfl,aC⟩:=h
    exact⟨_,_,z,aC.mono x⟩
   .obtain⟨⟨ao,an,aN,ar⟩,_⟩:=(show (wl' a' C) G'.m (u 55)/\True from hu)
    simp only[undFr,aN]
    exact⟨_,au' (vs:=#[(0,i' (i64.wrap (c+o))),(1,.slice ao C.length an)]) (v:=.agg ([i' (i64.wrap (c+o)),.slice ao C.length an]).toArray) z z (fun _=>by kernel_rfl),ao,an,z,ar⟩
   refine bN' (fun _=>z) z70<|Chain.tailX3 (fun bE bv bw X1 ae aK aG aE=>?_)
   obtain⟨b4,rfl,aW⟩:=aK
   obtain⟨p3,ac,rfl,aC⟩:=aG
   obtain⟨ao,an,rfl,ar⟩:=aE
   refine WL.adopt aW (ds' (show WL _ _ _ _ _ _ (St w0 G0 X1.m _) from ?_))
   refine B' 8 z bR' z z z z z (List.all_eq_true.1 z)<|q'<|am'<|b'<|g'<|sr<|mv z z<|yy (bP' z z (by decide)) z<|yy (aH' z z) z<|nx<|P' hr z (fun bm hr=>?_) (fun bm hr=>?_)
   .refine x'<|yy (bA' z) z<|yy (o' 5 bO' z z z) z<|yy (D' 8 ag70 z z z) z<|aF' (e:=70) (r:=U') (vs:=#[(0,.agg ([i' (i64.wrap (c+o)),.slice p3 C.length ac]).toArray)]) (cs:=[i' (i64.wrap (c+o)),.slice p3 C.length ac]++([])) ([(Zg.mk (i64.wrap (c+o)) C)]:List Zg) z z z z z (by decide) (fun _=>by kernel_rfl) ⟨[i' (i64.wrap (c+o)),.slice p3 C.length ac],[],z,⟨[i' (i64.wrap (c+o))],[.slice p3 C.length ac],z,z,⟨_,z,aC⟩⟩,z⟩ (key:=999) z (by rw[aw]; rfl) (fun p4 bD ak ba=>?_)
    obtain⟨aV,hr⟩:=hr
    have N1:=mx (mx (mx B K) ae) ak
    refine bb' (r:=U') 310052 z z Y' el70 z (by decide) z z (aa.mono N1) z (by rw[aw]; rfl) V ba aV fun p5 aH a5 be au bk a2=>yy (bA' z) z<|by' 5 ([.slice g f.length k,.slice q l.length s,.slice p5 (d++[(Zg.mk (i64.wrap (c+o)) C)]).length aH,i' c]).toArray z sz40 z z z (show 2<4 by decide) z z<|nx<|x'<|yy (bt' z) z<|yy (o' 8 sc3 z z z) z<|yy (W' z z) z<|yy (bz' z) z<|by' 5 ([.slice g f.length k,.slice q l.length s,.slice p5 (d++[(Zg.mk (i64.wrap (c+o)) C)]).length aH,i' (i64.wrap ((i64.wrap (c+o))+1))]).toArray z sz3 z z z (show 3<4 by decide) z z<|q'<|F'<|b'<|x'<|mv z z<|yy (W' z z) z<|sg z z<|q'<|T' ⟨i64.wrap (M+1),f,g,k,l,q,s,t,(d++[(Zg.mk (i64.wrap (c+o)) C)]),p5,aH,a5,i64.wrap ((i64.wrap (c+o))+1),be⟩ hr ⟨(mx (mx (mx (mx (mx F B) K) ae) ak) au),(X.mono (mx N1 au)),(ag.mono (mx N1 au)),Y,bk,a2⟩ (f5 z z z z z) (w5 z z z z z)
   refine x'<|yy (bx' z) z<|yy (o' 5 bO' z z z) z<|yy (D' 8 ag70 z z z) z<|aF' (e:=70) (r:=U') (vs:=#[(0,.agg ([i' (i64.wrap (c+o)),.slice p3 C.length ac]).toArray)]) (cs:=[i' (i64.wrap (c+o)),.slice p3 C.length ac]++([])) ([(Zg.mk (i64.wrap (c+o)) C)]:List Zg) z z z z z (by decide) (fun _=>by kernel_rfl) ⟨[i' (i64.wrap (c+o)),.slice p3 C.length ac],[],z,⟨[i' (i64.wrap (c+o))],[.slice p3 C.length ac],z,z,⟨_,z,aC⟩⟩,z⟩ (key:=999) z (by rw[aw]; rfl) (fun p6 bC al a8=>?_)
   obtain⟨a1,hr⟩:=hr
   have N2:=mx (mx (mx B K) ae) al
   refine bb' (r:=U') 310051 z z Y' el70 z (by decide) z z (ag.mono N2) z (by rw[aw]; rfl) Y a8 a1 fun p7 aL aU bj ap bb aZ=>yy (bx' z) z<|by' 5 ([.slice g f.length k,.slice p7 (l++[(Zg.mk (i64.wrap (c+o)) C)]).length aL,.slice n d.length m,i' c]).toArray z sz40 z z z (show 1<4 by decide) z z<|nx<|x'<|yy (bt' z) z<|yy (o' 8 sc3 z z z) z<|yy (W' z z) z<|yy (bz' z) z<|by' 5 ([.slice g f.length k,.slice p7 (l++[(Zg.mk (i64.wrap (c+o)) C)]).length aL,.slice n d.length m,i' (i64.wrap ((i64.wrap (c+o))+1))]).toArray z sz3 z z z (show 3<4 by decide) z z<|q'<|F'<|b'<|x'<|mv z z<|yy (W' z z) z<|sg z z<|q'<|T' ⟨i64.wrap (M+1),f,g,k,(l++[(Zg.mk (i64.wrap (c+o)) C)]),p7,aL,aU,d,n,m,p,i64.wrap ((i64.wrap (c+o))+1),bj⟩ hr ⟨(mx (mx (mx (mx (mx F B) K) ae) al) ap),(X.mono (mx N2 ap)),bb,aZ,(aa.mono (mx N2 ap)),V⟩ (f5 z z z z z) (w5 z z z z z)
 rintro⟨E,T,S,D,P,O,Q,y,H,J,L,I,ai⟩ ⟨bn,aA,aF,a3,aB,aQ,hr⟩
 refine b'<|sr<|yy (D' 5 ag42 z z z) z<|B' 2 z sz42 z z z z z (List.all_eq_true.1 z)<|nx<|k' ?_
 obtain rfl:_=r:=hr
 exact j' z (aw' (i:=2) ag42 z z z) ⟨_,_,_,_,_,_,z,aA,aF,aB⟩
theorem fR'{H r}(hr:(Zgo H).Ret r):Ctr prog 25 #[.agg ((v62' H)).toArray] (fun G=>True) (w59' r):=by
 refine H' (args:=[_]) (N:=49) func25 z z z fun w0 G0 aF aB=>sr<|ai' 1 z z z fun Q=>X' 2 z z59 z fun W=>nx<|g'<|ak' [ff,ff,ff,ff,ff,ff,ff,ff,ff,ff] mix (by kernel_rfl) fun hb=>cn (fun _ g=>Y0.Zng z)<|cn (fun _ g=>o' 1 sc54 z z z)<|cn (fun _ g=>av' cP' cp' z) ?_
 obtain⟨A,ac,hr⟩:=hr
 refine az' (post:=w57' A) (fun _=>z) (fun _ _=>m' E61 z) (di' ac) z (fun G' g=>trivial) (fun v G1 G2 g h=>?_) ?_
 .obtain⟨m,j,rfl,k⟩:=h
  exact⟨_,_,z,k.mono g⟩
 refine cu (fun _ _ g=>Y0.ZkV z)<|cu (fun _ _ g=>o' 1 sc54 z z z)<|cu (fun _ _ g=>av' cP' cp' z) ?_
 obtain⟨Y,ad,hr⟩:=hr
 refine az' (post:=w57' Y) (fun _=>z) (fun _ _=>m' E61 z) (di' ad) z (fun G' g=>trivial) (fun v G1 G2 g h=>?_) ?_
 .obtain⟨p,s,rfl,l⟩:=h
  exact⟨_,_,z,l.mono g⟩
 refine bN' (fun _=>z) z57<|bN' (fun _=>z) z57<|Chain.tailX4 (fun aG aH ax ay X1 az M o K C=>?_)
 obtain⟨p,s,rfl,l⟩:=K
 obtain⟨m,j,rfl,k⟩:=C
 refine dT' M (fun X aj an=>?_)
 subst aj
 replace o:=Laid.drop o (by decide) an
 refine dT' o (fun O ao aC=>?_)
 subst ao
 refine ds' (show WL _ _ _ _ _ _ (St w0 G0 X1.m _) from ?_)
 refine B' 3 z bn' z z z z z (List.all_eq_true.1 z)<|B' 4 z bn' z z z z z (List.all_eq_true.1 z)<|q'<|am'<|b'<|aO' (fun (⟨n,c,d,u⟩:Zb×Option Addr×Nat×Mem)=>[(1,pt0 Q),(2,pt0 W),(3,pt0 O),(4,pt0 X)]) (fun ⟨n,c,d,u⟩=>Mem.le X1.m u/\sl (Rp.int .u32) u c d n.mag/\(Zf1 H A n).Ret r) (fun ⟨n,c,d,u⟩=>St w0 G0 u [(1,bk0 Q (v62' H) 62),(2,bk0 W ([.bool false,.slice none 0 0,.bool false,.slice none 0 0]) 59),(3,bk0 O (v57' A m j) 57),(4,bk0 X (v57' n c d) 57)]) ?_ ?_
 .refine sr<|yy (Y0.ZkV z) z<|yy (o' 1 sc54 z z z) z<|yy (aH' z z) z<|nx<|P' hr z (fun am hr=>?_) (fun am hr=>?_)
  .exact (show False from hr).elim
  refine n'<|ax' ⟨Y,p,s,X1.m⟩ ⟨mr,l,hr⟩ (f4 z z z z) (w4 z z z z)
 rintro⟨n,c,d,u⟩ ⟨S,D,hr⟩
 refine sr<|yy (Y0.ZiL z) z<|yy (o' 1 sc5 z z z) z<|yy (av' aL' cp' z) z<|yy (W' z z) z ?_
 obtain⟨al,af,hr⟩:=hr
 refine N' z z (m' E61 z) (di' af) z (trivial) (fun au Z B J=>?_)
 obtain⟨L,F,rfl,ah⟩:=J
 refine X' 5 z z57 z fun b5=>B' 5 z bn' z z z z z (List.all_eq_true.1 z)<|nx<|aO' (fun (⟨q,f,e,t⟩:Zb×Option Addr×Nat×Mem)=>[(1,pt0 Q),(2,pt0 W),(3,pt0 O),(4,pt0 X),(5,pt0 b5)]) (fun ⟨q,f,e,t⟩=>Mem.le Z t/\sl (Rp.int .u32) t f e q.mag/\(Zf0 H n q).Ret r) (fun ⟨q,f,e,t⟩=>St w0 G0 t [(1,bk0 Q (v62' H) 62),(2,bk0 W ([.bool false,.slice none 0 0,.bool false,.slice none 0 0]) 59),(3,bk0 O (v57' q f e) 57),(4,bk0 X (v57' n c d) 57),(5,bk0 b5 (v57' al L F) 57)]) ?_ ?_
 .refine sr<|yy (Y0.ZiL z) z<|yy (o' 1 sc5 z z z) z<|yy (bP' z z (by decide)) z<|yy (aH' z z) z<|nx<|P' hr z (fun ak hr=>?_) (fun ak hr=>?_)
  .exact (show False from hr).elim
  refine n'<|ax' ⟨A,m,j,Z⟩ ⟨mr,(k.mono (mx S B)),hr⟩ (f5 z z z z z) (w5 z z z z z)
 rintro⟨q,f,e,t⟩ ⟨P,I,hr⟩
 refine g'<|sr<|yy (Y0.ZiL z) z<|yy (o' 1 sc5 z z z) z<|yy (bP' z z (by decide)) z<|yy (aH' z z) z<|nx<|P' hr z (fun ap hr=>?_) (fun ap hr=>?_)
 .exact (show False from hr).elim
 refine n'<|b'<|sr<|yy (D' 3 at' z z z) z<|yy (D' 4 at' z z z) z ?_
 obtain⟨aD,aa,hr⟩:=hr
 refine N' z z (m' E64 z) (dD' aa) z (⟨I,(D.mono (mx B P))⟩) (fun aw aE aq E=>?_)
 obtain⟨V,U,T,R,rfl,x,y⟩:=E
 refine B' 2 z ch' z z z z z (List.all_eq_true.1 z)<|nx<|k' ?_
 obtain rfl:_=r:=hr
 exact j' z (aw' (i:=2) bc' z z z) ⟨_,_,_,_,z,x,y⟩
theorem Ze3(bf:Zp)(aE:Int)(bs:Option Addr)(bq:Nat)(aO:Option Addr)(aR:Nat)(r:Bool)(hr:(Zdi bf aE).Ret r):Ctr prog 6 #[.agg ((v37' bf bs bq aO aR)).toArray,.int .i8 aE] (fun G=>sl cE' G bs bq bf.l/\sl (Rp.int .u8) G aO aR bf.gap) (fun G v=>v = .bool r):=by
 refine H' (args:=[_,_]) (N:=139) func6 z z z (fun w0 G0 a3 cR=>?_)
 obtain⟨bV,bA⟩:=cR
 refine sr<|ai' 2 z z z fun b1=>sg z z<|nr ?_
 obtain⟨ar,cF,hr⟩:=hr
 refine K' z z (m' E10 z) (ck' cF) z (trivial)<|sx0 z z<|g'<|sr<|mv z z<|yy (aA' z) z<|nx<|aK' hr z (fun c2 hr=>?_) (fun c2 hr=>?_)
 .exact (show False from hr).elim
 refine n'<|b'<|sr<|yy (D' 2 ag37 z z z) z ?_
 obtain⟨au,cG,hr⟩:=hr
 refine N' z z (m' E17 z) (dp' cG) z (⟨bV,bA⟩) (fun dx dI dl bS=>?_)
 obtain⟨Z,ab,ak,aj,ac,aa,rfl,bE,X,am⟩:=bS
 refine X' 6 z z42 z fun b2=>B' 6 z sz42 z z z z z (List.all_eq_true.1 z)<|nr<|yy (D' 6 ag42 z z z) z ?_
 obtain⟨ap,cN,hr⟩:=hr
 refine N' z z (m' E21 z) (cW' cN) z (⟨bE,X,am⟩) (fun du cp af bQ=>?_)
 obtain⟨C,D,s,t,rfl,ad,W⟩:=bQ
 refine mv z z<|yy (R' z z) z<|yy (R' z z) z<|X' 7 z z28 z fun b3=>B' 7 z bB' z z z z z (List.all_eq_true.1 z)<|sx0 z z<|aO' (fun (gx:Mem)=>match gx with|bu=>[(1,.int .i8 aE),(5,.bool ar),(6,pt0 b2),(7,pt0 b3)]) (fun (gx:Mem)=>match gx with|bu=>Mem.le cp bu/\(Zcp aE ar au ap).Ret r) (fun (gx:Mem)=>match gx with|bu=>St w0 G0 bu [(6,bk0 b2 (v42' au Z ab ak aj ac aa) 42),(7,bk0 b3 (v28' ap.1 C D s t) 28)]) ?_ ?_
 .refine sr<|mv z z<|aE' hr z (bp' z z) z (fun c9 hr=>?_) (fun c9 hr=>?_)
  .refine mv z z<|sn3 z<|yy (w' z z) z<|nx<|aB' z<|sr<|sx0 z z<|k'<|f' (k0' hr z z)
  refine mv z z<|gy z z (D' 7 bj' z z z) z ?_
  obtain⟨dq,cj,hr⟩:=hr
  refine K' (E' z z) z (m' E15 z) (ZeY _ _ _ _ _ _ cj) z (⟨ad,W⟩)<|gy z z (aA' z) z<|yy (t' z z) z<|nx<|aK' hr z (fun dd hr=>?_) (fun dd hr=>?_)
  .exact (show False from hr).elim
  refine n'<|ax' cp ⟨mr,hr⟩ (f4 z z z z) (w2 z z)
 rintro bu ⟨q,hr⟩
 refine sr<|yy (co' z) z<|yy (o' 7 sc3 z z z) z<|yy (cR' z) z<|yy (o' 7 sc25 z z z) z<|yy (cB' z) z<|yy (o' 7 sc25 z z z) z ?_
 obtain⟨Y,cv,hr⟩:=hr
 refine N' z z (m' E12 z) (Z0 _ _ _ _ _ _ _ _ cv) z (⟨(ad.mono q),(W.mono q)⟩) (fun dw dG A bL=>?_)
 obtain⟨T,R,E,H,rfl,bo,a8⟩:=bL
 refine mv z z<|yy (R' z z) z<|yy (R' z z) z<|X' 9 z z28 z fun b4=>B' 9 z bB' z z z z z (List.all_eq_true.1 z)<|sg z z<|nr<|mv z z<|yy (au' (vs:=#[(0,.int .i8 aE),(1,.int .i8 3)]) (v:=.agg ([.int .i8 aE,.int .i8 3,.int .u8 0]).toArray) z z (fun _=>by kernel_rfl)) z ?_
 obtain⟨de,cM,hr⟩:=hr
 refine N' z z (m' E25 z) (fR' cM) z (trivial) (fun dt cq p bM=>?_)
 obtain⟨bg,a7,ba,bc,rfl,a6,bd⟩:=bM
 refine X' 11 z z59 z fun b5=>B' 11 z ch' z z z z z (List.all_eq_true.1 z)<|nx<|aO' (fun (⟨aq,m,l,k,j,aQ⟩:Zf×Option Addr×Nat×Option Addr×Nat×Mem)=>[(5,.bool ar),(6,pt0 b2),(7,pt0 b3),(9,pt0 b4),(10,i' Y.2),(11,pt0 b5)]) (fun ⟨aq,m,l,k,j,aQ⟩=>Mem.le cq aQ/\sl (Rp.int .u32) aQ m l aq.num.mag/\sl (Rp.int .u32) aQ k j aq.den.mag/\(Zah ar au ap Y aq).Ret r) (fun ⟨aq,m,l,k,j,aQ⟩=>St w0 G0 aQ [(6,bk0 b2 (v42' au Z ab ak aj ac aa) 42),(7,bk0 b3 (v28' ap.1 C D s t) 28),(9,bk0 b4 (v28' Y.1 T R E H) 28),(11,bk0 b5 (v59' aq m l k j) 59)]) ?_ ?_
 .refine sr<|mv z z<|yy (aH' z z) z<|nx<|P' hr z (fun c3 hr=>?_) (fun c3 hr=>?_)
  .refine x' ?_
   obtain⟨cL,ck,hr⟩:=hr
   refine N' z z (m' E26 z) (cc' ck) z (trivial) (fun dm cO bW bD=>?_)
   obtain⟨aW,aU,aX,aT,rfl,aV,aY⟩:=bD
   refine B' 11 z ch' z z z z z (List.all_eq_true.1 z)<|q'<|ax' ⟨cL,aW,aU,aX,aT,cO⟩ ⟨bW,aV,aY,hr⟩ (f6 z z z z z z) (w4 z z z z)
  refine n'<|ax' ⟨de,bg,a7,ba,bc,cq⟩ ⟨mr,a6,bd,hr⟩ (f6 z z z z z z) (w4 z z z z)
 rintro⟨aq,m,l,k,j,aQ⟩ ⟨o,ay,aB,hr⟩
 refine sr<|aF' (e:=65) (r:=(Rp.sl a')) (vs:=#[]) (cs:=[]) ([]:List (List Za)) z z z z z (by decide) (fun _=>by kernel_rfl) (z) (key:=999) z (by rw[a3]; rfl) fun p1 dM i c6=>aF' (e:=65) (r:=(Rp.sl a')) (vs:=#[]) (cs:=[]) ([]:List (List Za)) z z z z z (by decide) (fun _=>by kernel_rfl) (z) (key:=999) z (by rw[a3]; rfl) fun p2 bX g c8=>sg z z<|sx0 z z<|g'<|sr<|yy (bx' z) z<|yy (o' 6 bO' z z z) z<|yy (O' Y' (X.mono (mx (mx (mx (mx (mx (mx af q) A) p) o) i) g)) z) z<|yy (ba' z z) z<|sx0 z z<|ab' (fun (⟨n,P,V,J,az⟩:(List (List Za))×Option Addr×Nat×Option Ow×Mem)=>[(5,.bool ar),(6,pt0 b2),(7,pt0 b3),(9,pt0 b4),(10,i' Y.2),(11,pt0 b5),(12,.slice P n.length V),(13,.slice p2 0 0)]) (fun ⟨n,P,V,J,az⟩=>Mem.le bX az/\sl (Rp.sl a') az P V n/\Tok 1 65 (.slice P n.length V) n.length J/\(Zag ar au ap Y aq n).Ret r) (fun ⟨n,P,V,J,az⟩=>St w0 G0 az [(6,bk0 b2 (v42' au Z ab ak aj ac aa) 42),(7,bk0 b3 (v28' ap.1 C D s t) 28),(9,bk0 b4 (v28' Y.1 T R E H) 28),(11,bk0 b5 (v59' aq m l k j) 59),(1012,J)]) ?_ ?_
 .refine y' ?_
  let b7:(((List (List Za))))->Prop:=fun oo=>((fun ov=>match ov with|n=>Zag ar au ap Y aq n:(((List (List Za))))->Cq Bool) oo).wp (fun a=>a=r)
  replace hr:(Cq.loop _ _).wp b7:=hr
  refine ac' (Φ:=b7) (fun (⟨F,U,Q,L,al,aJ⟩:(List (List Za))×Option Addr×Nat×Option Ow×Int×Mem)=>((F,al):(List (List Za))×Int)) (fun ⟨F,U,Q,L,al,aJ⟩=>[(5,.bool ar),(6,pt0 b2),(7,pt0 b3),(9,pt0 b4),(10,i' Y.2),(11,pt0 b5),(12,.slice U F.length Q),(13,.slice p2 0 0),(14,i' al)]) (fun ⟨F,U,Q,L,al,aJ⟩=>Mem.le bX aJ/\sl (Rp.sl a') aJ U Q F/\Tok 1 65 (.slice U F.length Q) F.length L) (fun ⟨F,U,Q,L,al,aJ⟩=>St w0 G0 aJ [(6,bk0 b2 (v42' au Z ab ak aj ac aa) 42),(7,bk0 b3 (v28' ap.1 C D s t) 28),(9,bk0 b4 (v28' Y.1 T R E H) 28),(11,bk0 b5 (v59' aq m l k j) 59),(1012,L)]) ⟨[],p1,0,none,i64.wrap ((au.eqs.length:Int)-1),bX⟩ hr (f9 z z z z z z z z z) ⟨mr,(c6.mono g),cb'⟩ (wk (lc z (lc z (lc z (lc z (lw ln)))))) ?_
  .intro dE gx hx hr
   obtain⟨F,U,Q,L,al,aJ⟩:=gx
   obtain⟨ae,br,a2⟩:=hx
   refine g'<|sr<|mv z z<|yy (bH' z z) z<|nx<|P' hr z (fun da hr=>?_) (fun da hr=>?_)
   .refine n'<|b'<|g'<|y'<|g'<|ak' [ff,ff,ff,ff,ff,ff,ff,ff,ff,ff,ff,tt] mix (by kernel_rfl) fun hb=>cn (fun _ f=>D' 11 bc' z z z)<|cn (fun _ f=>au' (vs:=#[]) (v:=.agg (vecG (Value.int .i64) 8 (fun _=>0)).toArray) z z (fun _=>by kernel_rfl))<|cn (fun _ f=>bx' z)<|cn (fun _ f=>o' 6 bO' z z z)<|cn (fun _ f=>c' z) ?_
    obtain⟨x2,cl,hr⟩:=hr
    have N1:=mx (mx (mx (mx (mx (mx (mx af q) A) p) o) i) g) ae
    refine cn (fun _ f=>V' Y' bR' ((X.mono N1).mono f) z z cl)<|cn (fun _ f=>cl' z) ?_
    obtain⟨p8,dN,db,cX⟩:=bl' (J' (bq' (aG' (Z' X cl))) N1)
    refine cn (fun _ f=>aj' bU' z (f _ _ _ db)) ?_
    obtain⟨B,cb,hr⟩:=hr
    refine az' (post:=wlt' a' B) (fun _=>z) (fun _ _=>m' E27 z) (da' cb) z (fun G' f=>⟨((ay.mono (mx (mx i g) ae)).mono f),((aB.mono (mx (mx i g) ae)).mono f),(cX.mono f)⟩) (fun v G1 G2 f h=>?_) ?_
    .obtain⟨aG,aF,rfl,aw⟩:=h
     exact⟨_,_,z,aw.mono f⟩
    refine bF' (φ:=wlt' a' B) (fun _=>z) (fun v G1 G2 f h=>?_) (fun u G' f hu=>?_) ?_
    .obtain⟨p9,bH,rfl,bh⟩:=h
     exact⟨_,_,z,bh.mono f⟩
    .obtain⟨⟨aG,aF,bT,aw⟩,_⟩:=(show (wlt' a' B) G'.m (u 74)/\True from hu)
     simp only[undFr,bT]
     exact⟨_,c' z,aG,aF,z,aw⟩
    refine bF' (φ:=wl' a' B.1) (fun _=>z) (fun v G1 G2 f h=>?_) (fun u G' f hu=>?_) ?_
    .obtain⟨bF,a5,rfl,bz⟩:=h
     exact⟨_,_,z,bz.mono f⟩
    .obtain⟨⟨p9,bH,aM,bh⟩,_,_⟩:=(show (wlt' a' B) G'.m (u 65)/\True/\True from hu)
     simp only[undFr,aM]
     exact⟨_,R' z z,p9,bH,z,bh⟩
    refine cI' (c:=i' B.2) (fun _=>z) (fun u G' f hu=>?_) ?_
    .obtain⟨_,⟨p9,bH,aM,bh⟩,_,_⟩:=(show True/\(wlt' a' B) G'.m (u 65)/\True/\True from hu)
     simp only[undFr,aM]
     exact R' z z
    refine cx' (d:=75) (post:=wl' a' B.1) (d':=65) (post':=wlt' a' B) (d'':=74) (post'':=wlt' a' B) (fun dj dn di dv aC bC bB bw=>?_)
    obtain⟨bF,a5,rfl,bz⟩:=bC
    obtain⟨p9,bH,rfl,bh⟩:=bB
    obtain⟨aG,aF,rfl,aw⟩:=bw
    refine sg z z<|sg z z<|q'<|am'<|b'<|x'<|mv z z<|mv z z<|yy (bx' z) z<|yy (o' 6 bO' z z z) z<|mv z z ?_
    obtain⟨x3,cm,hr⟩:=hr
    refine yy (V' Y' bR' (X.mono (mx N1 aC)) z z cm) z<|yy (cl' z) z ?_
    obtain⟨bJ,be,cP,cT⟩:=bl' (J' (bq' (aG' (Z' X cm))) (mx N1 aC))
    refine yy (aj' bU' z (cP)) z<|aF' (e:=65) (r:=(Rp.sl a')) (vs:=#[(0,.slice bF B.1.length a5),(1,.slice bJ x3.p.length be)]) (cs:=[.slice bF B.1.length a5]++([.slice bJ x3.p.length be]++([]))) ([B.1,x3.p]:List (List Za)) z z z z z (by decide) (fun _=>by kernel_rfl) ⟨[.slice bF B.1.length a5],[.slice bJ x3.p.length be]++([]),z,⟨_,z,bz⟩,⟨[.slice bJ x3.p.length be],[],z,⟨_,z,cT⟩,z⟩⟩ (key:=999) z (by rw[a3]; rfl) (fun dL dA bp cB=>?_)
    obtain⟨cK,hr⟩:=hr
    refine bb' (r:=(Rp.sl a')) 1012 z z M' el65 z (by decide) z z (br.mono (mx aC bp)) z (by rw[a3]; rfl) a2 cB cK fun c1 cC cf cI b0 cJ cg=>sg z z<|q'<|F'<|b'<|x'<|mv z z<|yy (ba' z z) z<|sg z z<|q'<|T' ⟨(F++[B.1,x3.p]),c1,cC,cf,i64.wrap (al-1),cI⟩ hr ⟨(mx (mx (mx ae aC) bp) b0),cJ,cg⟩ (f9 z z z z z z z z z) (w5 z z z z z)
   refine ae'<|h'<|h'<|I'<|af' ⟨F,U,Q,L,aJ⟩ ⟨ae,br,a2,hr⟩ (f8 z z z z z z z z) (w5 z z z z z)
 rintro⟨n,P,V,J,az⟩ ⟨y,b8,cW,hr⟩
 have N2:=mx (mx (mx (mx (mx (mx (mx af q) A) p) o) i) g) y
 refine b'<|g'<|sr<|yy (bA' z) z<|yy (o' 6 bO' z z z) z<|yy (O' Y' (am.mono N2) z) z<|yy (ba' z z) z<|sx0 z z<|ab' (fun (⟨M,ah,ai,ag,a4⟩:(List (List Za))×Option Addr×Nat×Option Ow×Mem)=>[(5,.bool ar),(7,pt0 b3),(9,pt0 b4),(10,i' Y.2),(12,.slice P n.length V),(13,.slice ah M.length ai)]) (fun ⟨M,ah,ai,ag,a4⟩=>Mem.le az a4/\sl (Rp.sl a') a4 ah ai M/\Tok 1 65 (.slice ah M.length ai) M.length ag/\(Zaf ar ap Y n M).Ret r) (fun ⟨M,ah,ai,ag,a4⟩=>St w0 G0 a4 [(7,bk0 b3 (v28' ap.1 C D s t) 28),(9,bk0 b4 (v28' Y.1 T R E H) 28),(1012,J),(1013,ag)]) ?_ ?_
 .refine y' ?_
  let bZ:(((List (List Za))))->Prop:=fun oo=>((fun ov=>match ov with|M=>Zaf ar ap Y n M:(((List (List Za))))->Cq Bool) oo).wp (fun a=>a=r)
  replace hr:(Cq.loop _ _).wp bZ:=hr
  refine ac' (Φ:=bZ) (fun (⟨I,O,S,K,an,aI⟩:(List (List Za))×Option Addr×Nat×Option Ow×Int×Mem)=>((I,an):(List (List Za))×Int)) (fun ⟨I,O,S,K,an,aI⟩=>[(5,.bool ar),(6,pt0 b2),(7,pt0 b3),(9,pt0 b4),(10,i' Y.2),(11,pt0 b5),(12,.slice P n.length V),(13,.slice O I.length S),(17,i' an)]) (fun ⟨I,O,S,K,an,aI⟩=>Mem.le az aI/\sl (Rp.sl a') aI O S I/\Tok 1 65 (.slice O I.length S) I.length K) (fun ⟨I,O,S,K,an,aI⟩=>St w0 G0 aI [(6,bk0 b2 (v42' au Z ab ak aj ac aa) 42),(7,bk0 b3 (v28' ap.1 C D s t) 28),(9,bk0 b4 (v28' Y.1 T R E H) 28),(11,bk0 b5 (v59' aq m l k j) 59),(1012,J),(1013,K)]) ⟨[],p2,0,none,i64.wrap ((au.neqs.length:Int)-1),az⟩ hr (f9 z z z z z z z z z) ⟨mr,(c8.mono y),cb'⟩ (wk (lc z (lc z (lc z (lc z (lc z (lw ln))))))) ?_
  .intro dF gx hx hr
   obtain⟨I,O,S,K,an,aI⟩:=gx
   obtain⟨ax,bi,a1⟩:=hx
   refine g'<|sr<|mv z z<|yy (bH' z z) z<|nx<|P' hr z (fun c4 hr=>?_) (fun c4 hr=>?_)
   .refine n'<|b'<|g'<|y'<|g'<|ak' [ff,ff,ff,ff,ff,ff,ff,ff,ff,ff,ff,tt] mix (by kernel_rfl) fun hb=>cn (fun _ f=>D' 11 bc' z z z)<|cn (fun _ f=>au' (vs:=#[]) (v:=.agg (vecG (Value.int .i64) 8 (fun _=>0)).toArray) z z (fun _=>by kernel_rfl))<|cn (fun _ f=>bA' z)<|cn (fun _ f=>o' 6 bO' z z z)<|cn (fun _ f=>c' z) ?_
    obtain⟨x1,cr,hr⟩:=hr
    refine cn (fun _ f=>V' Y' bR' ((am.mono (mx N2 ax)).mono f) z z cr)<|cn (fun _ f=>cl' z) ?_
    obtain⟨p3,dJ,dh,c7⟩:=bl' (J' (bq' (aG' (Z' am cr))) (mx N2 ax))
    refine cn (fun _ f=>aj' bU' z (f _ _ _ dh)) ?_
    obtain⟨x,cE,hr⟩:=hr
    refine az' (post:=wlt' a' x) (fun _=>z) (fun _ _=>m' E27 z) (da' cE) z (fun G' f=>⟨((ay.mono (mx (mx (mx i g) y) ax)).mono f),((aB.mono (mx (mx (mx i g) y) ax)).mono f),(c7.mono f)⟩) (fun v G1 G2 f h=>?_) ?_
    .obtain⟨aS,aL,rfl,aA⟩:=h
     exact⟨_,_,z,aA.mono f⟩
    refine bF' (φ:=wlt' a' x) (fun _=>z) (fun v G1 G2 f h=>?_) (fun u G' f hu=>?_) ?_
    .obtain⟨p4,bG,rfl,bk⟩:=h
     exact⟨_,_,z,bk.mono f⟩
    .obtain⟨⟨aS,aL,ci,aA⟩,_⟩:=(show (wlt' a' x) G'.m (u 104)/\True from hu)
     simp only[undFr,ci]
     exact⟨_,c' z,aS,aL,z,aA⟩
    refine bF' (φ:=wl' a' x.1) (fun _=>z) (fun v G1 G2 f h=>?_) (fun u G' f hu=>?_) ?_
    .obtain⟨p5,aH,rfl,bI⟩:=h
     exact⟨_,_,z,bI.mono f⟩
    .obtain⟨⟨p4,bG,aN,bk⟩,_,_⟩:=(show (wlt' a' x) G'.m (u 95)/\True/\True from hu)
     simp only[undFr,aN]
     exact⟨_,R' z z,p4,bG,z,bk⟩
    refine cI' (c:=i' x.2) (fun _=>z) (fun u G' f hu=>?_) ?_
    .obtain⟨_,⟨p4,bG,aN,bk⟩,_,_⟩:=(show True/\(wlt' a' x) G'.m (u 95)/\True/\True from hu)
     simp only[undFr,aN]
     exact R' z z
    refine cx' (d:=105) (post:=wl' a' x.1) (d':=95) (post':=wlt' a' x) (d'':=104) (post'':=wlt' a' x) (fun dp dk dy dC bt bx bv bP=>?_)
    obtain⟨p5,aH,rfl,bI⟩:=bx
    obtain⟨p4,bG,rfl,bk⟩:=bv
    obtain⟨aS,aL,rfl,aA⟩:=bP
    refine sg z z<|sg z z<|q'<|am'<|b'<|x'<|mv z z<|mv z z<|mv z z<|aF' (e:=65) (r:=(Rp.sl a')) (vs:=#[(0,.slice p5 x.1.length aH),(1,.slice p5 x.1.length aH)]) (cs:=[.slice p5 x.1.length aH]++([.slice p5 x.1.length aH]++([]))) ([x.1,x.1]:List (List Za)) z z z z z (by decide) (fun _=>by kernel_rfl) ⟨[.slice p5 x.1.length aH],[.slice p5 x.1.length aH]++([]),z,⟨_,z,bI⟩,⟨[.slice p5 x.1.length aH],[],z,⟨_,z,bI⟩,z⟩⟩ (key:=999) z (by rw[a3]; rfl) (fun p6 dB bj cZ=>?_)
    obtain⟨cA,hr⟩:=hr
    refine bb' (r:=(Rp.sl a')) 1013 z z M' el65 z (by decide) z z (bi.mono (mx bt bj)) z (by rw[a3]; rfl) a1 cZ cA fun p7 df cx cz b9 c0 cH=>sg z z<|q'<|F'<|b'<|x'<|mv z z<|yy (ba' z z) z<|sg z z<|q'<|T' ⟨(I++[x.1,x.1]),p7,df,cx,i64.wrap (an-1),cz⟩ hr ⟨(mx (mx (mx ax bt) bj) b9),c0,cH⟩ (f9 z z z z z z z z z) (w6 z z z z z z)
   refine ae'<|h'<|h'<|I'<|af' ⟨I,O,S,K,aI⟩ ⟨ax,bi,a1,hr⟩ (f6 z z z z z z) (w4 z z z z)
 rintro⟨M,ah,ai,ag,a4⟩ ⟨ao,bU,cV,hr⟩
 refine b'<|sr<|yy (co' z) z<|yy (o' 7 sc3 z z z) z<|mv z z<|mv z z ?_
 obtain⟨dH,cw,hr⟩:=hr
 refine N' z z (m' E12 z) (Z0 _ _ _ _ _ _ _ _ cw) z (⟨(b8.mono ao),bU⟩) (fun ds dK av bK=>?_)
 obtain⟨ct,co,cd,ch,rfl,bn,bb⟩:=bK
 refine mv z z<|yy (R' z z) z<|yy (R' z z) z<|X' 20 z z28 z fun b6=>B' 20 z bB' z z z z z (List.all_eq_true.1 z)<|sg z z<|nr<|mv z z<|aE' hr z (aH' z z) z (fun dg hr=>?_) (fun dg hr=>?_)
 .refine mv z z<|gy z z (c' z) z<|aE' hr (E' z z) (aH' z z) z (fun c5 hr=>?_) (fun c5 hr=>?_)
  .refine yy (w' z z) z<|mv z z<|gy z z (D' 9 bj' z z z) z<|gy z z (D' 7 bj' z z z) z ?_
   obtain⟨dc,cQ,hr⟩:=hr
   have N3:=mx (mx (mx (mx (mx (mx (mx (mx q A) p) o) i) g) y) ao) av
   have N4:=mx (mx (mx (mx (mx (mx p o) i) g) y) ao) av
   refine K' (E' z z) z (m' E20 z) (ZaG _ _ _ _ _ _ _ _ _ _ _ cQ) z (⟨(bo.mono N4),(a8.mono N4),(ad.mono N3),(W.mono N3)⟩) ?_
   cases dc
   .refine yy (w' z z) z<|mv z z<|sn3 z<|yy (t' z z) z<|mv z z<|sk z z z<|yy (t' z z) z<|sx0 z z<|k' (k0' hr z z)
   refine yy (w' z z) z<|mv z z<|gy z z (D' 20 bj' z z z) z<|gy z z (D' 7 bj' z z z) z ?_
   obtain⟨cY,cU,hr⟩:=hr
   refine K' (E' z z) z (m' E20 z) (ZaG _ _ _ _ _ _ _ _ _ _ _ cU) z (⟨bn,bb,(ad.mono N3),(W.mono N3)⟩) ?_
   cases cY
   .refine yy (w' z z) z<|mv z z<|sk z z z<|yy (t' z z) z<|sx0 z z<|k' (k0' hr z z)
   refine yy (w' z z) z<|mv z z<|gy z z (c' z) z<|yy (w' z z) z<|sx0 z z<|k' (k0' hr z z)
  refine yy (w' z z) z<|mv z z<|sn3 z<|yy (t' z z) z<|mv z z<|sn3 z<|yy (t' z z) z<|mv z z<|sk z z z<|yy (t' z z) z<|sx0 z z<|k' (k0' hr z z)
 refine mv z z<|sn2 z<|yy (t' z z) z<|mv z z<|sn3 z<|yy (t' z z) z<|mv z z<|sn3 z<|yy (t' z z) z<|mv z z<|sk z z z<|yy (t' z z) z<|sx0 z z<|k' (k0' hr z z)
end Go.Proofs.YtoakocgcakgpnaaGreat

namespace Go.Proofs.YtoakocgcakgpnaaGreat
open Go.IntKind (i8 i16 i32 i64 u8 u16 u32 u64)
open Go.Proofs.Tryz
open Go Go.EL Go.RowKit Go.Proofs
end Go.Proofs.YtoakocgcakgpnaaGreat

namespace Go.EL
open Go.IntKind (i8 i16 i32 i64 u8 u16 u32 u64)
open Go Go.RowKit
structure Writ (k:Ze):Prop where
 n:0<=k.n/\k.n<=1000
 eqs:∀ p ∈ k.eqs,PolOk p
 neqs:∀ p ∈ k.neqs,PolOk p
 len:k.eqs.length<=12/\k.neqs.length<=12
theorem Writ.zero:Writ zeroK:=⟨by decide,fun p hp=>absurd hp List.not_mem_nil,fun p hp=>absurd hp List.not_mem_nil,by decide⟩
theorem CoreOk.writ{k:Ze}(h:CoreOk k):Writ k:=⟨by have:=h.n; omega,fun p hp=>(h.eqs.pol p hp).1,fun p hp=>(h.neqs.pol p hp).1,h.eqs.len,h.neqs.len⟩
theorem Writ.core{k:Ze}(h:Writ k):(ZdD [] k).Ret (coreW k):=ZkI h.n h.eqs h.neqs h.len.1 h.len.2
theorem Zi8{k m:Ze}(hk:Writ k)(hm:Writ m)(e:keyB k=keyB m):(Zal k m).Ret true:=⟨_,hk.core,_,hm.core,decide_eq_true e⟩
theorem Zkm{n:Int}{eqs neqs:List Pol}(he:∀ p ∈ eqs,PolOk p)(hi:∀ p ∈ neqs,PolOk p):Writ (normF n eqs neqs).1/\((normF n eqs neqs).2=0->CoreOk (normF n eqs neqs).1):=by
 unfold normF
 by_cases hn:1<=n/\n<=4
 .rw[if_pos hn]
  by_cases ha:(eqs++neqs).all (fun p=>fitB p n)=true
  .rw[if_pos ha]
   by_cases h1:12<(srtP (eqsF eqs neqs)).length
   .rw[if_pos h1]; exact⟨Writ.zero,fun h=>absurd h (by decide)⟩
   rw[if_neg h1]
   by_cases h2:12<(srtP (kept neqs true)).length
   .rw[if_pos h2]; exact⟨Writ.zero,fun h=>absurd h (by decide)⟩
   rw[if_neg h2]
   obtain⟨m,rfl,m1,m4⟩:=Zhf hn
   rw[List.all_append,Bool.and_eq_true] at ha
   have hc:=ZjH ⟨m1,m4⟩ (fun p hp=>⟨he p hp,List.all_eq_true.1 ha.1 p hp⟩) (fun p hp=>⟨hi p hp,List.all_eq_true.1 ha.2 p hp⟩) (by omega) (by omega)
   exact⟨hc.writ,fun _=>hc⟩
  rw[if_neg ha]; exact⟨Writ.zero,fun h=>absurd h (by decide)⟩
 rw[if_neg hn]; exact⟨Writ.zero,fun h=>absurd h (by decide)⟩
theorem Zh0{l:List Zg}(hl:l.length<=1000):(Zax l).Ret (l.map (·.p)):=by
 refine⟨⟨by omega,by omega⟩,?_⟩
 refine Cq.Zn l.length (fun k s=>s=((l.take k).map (·.p)++List.replicate (l.length-k) [],(k:Int))) (fun k s hk hs=>?_) (fun s hs=>?_) (by show _=_; simp)
 .subst hs
  have hlen:((l.take k).map (·.p)++List.replicate (l.length-k) ([]:Pol)).length=l.length:=by simp; omega
  refine Cq.wp.yes (by omega) ⟨_,idxN hk,_,idxN (by rw[hlen]; exact hk),?_⟩
  show _=_
  rw[wrapN (by omega),Int.toNat_natCast,List.take_succ_eq_append_getElem hk,List.map_append,List.map_singleton]
  congr 1
  rw[List.set_append,if_neg (by rw[List.length_map,List.length_take]; omega)]
  have e:l.length-k=(l.length-(k+1))+1:=by omega
  have hk2:k-((l.take k).map (·.p)).length=0:=by simp; omega
  rw[hk2,e,List.replicate_succ,List.set_cons_zero,List.append_assoc]
  rfl
 subst hs
 refine Cq.wp.no (by omega) ?_
 show _=_
 rw[List.take_of_length_le (Nat.le_refl _)]
 simp
def varN(s:Zm):Int:=if 1<(s.vars.length:Int) then (s.vars.length:Int) else 1
def coreF(s:Zm):Ze×Int:=normF (varN s) (s.eqs.map (·.p)) (s.neqs.map (·.p))
theorem Good.polys{s:Zm}(h:Good s):(∀ p ∈ s.eqs.map (·.p),PolOk p)/\∀ p ∈ s.neqs.map (·.p),PolOk p:=
 ⟨fun p hp=>by obtain⟨q,hq,rfl⟩:=List.mem_map.1 hp; exact (h.eqs.pol q hq).1,fun p hp=>by obtain⟨q,hq,rfl⟩:=List.mem_map.1 hp; exact (h.neqs.pol q hq).1⟩
theorem ZlO{s:Zm}(h:Good s):(ZcX s).Ret (coreF s):=by
 have l1:=h.eqs.len
 have l2:=h.neqs.len
 obtain⟨p1,p2⟩:=h.polys
 exact⟨true,Zii h,Cq.wp.no (by decide) ⟨_,Zh0 (by omega),_,Zh0 (by omega),_,Zef (by rw[List.length_map]; omega) (by rw[List.length_map]; omega) p1 p2,rfl⟩⟩
theorem ZkY{p:Pol}{n m:Nat}(hn:n<=m)(hm:m<=8)(h:fitB p (n:Int)=true):fitB p (m:Int)=true:=by
 obtain⟨h1,h2⟩:=(ZcH (by omega)).1 h
 exact (ZcH hm).2 ⟨fun t ht i hi=>h1 t ht i (by omega),h2⟩
theorem Zl0{s:Zm}(h:Good s)(hl:s.eqs.length+s.neqs.length<=12):coreF s=(⟨varN s,srtP (eqsF (s.eqs.map (·.p)) (s.neqs.map (·.p))),srtP (kept (s.neqs.map (·.p)) true)⟩,0)/\CoreOk (coreF s).1:=by
 have hv:=h.vars
 obtain⟨m,hm,m1,m4,mv⟩:∃ m:Nat,varN s=(m:Int)/\1<=m/\m<=4/\s.vars.length<=m:=by
  unfold varN
  by_cases h1:1<(s.vars.length:Int)
  .rw[if_pos h1]; exact⟨_,rfl,by omega,by omega,Nat.le_refl _⟩
  rw[if_neg h1]; exact⟨1,rfl,by omega,by omega,by omega⟩
 have ha:(s.eqs.map (·.p)++s.neqs.map (·.p)).all (fun p=>fitB p (m:Int))=true:=List.all_eq_true.2 fun p hp=>by
  rcases List.mem_append.1 hp with hp|hp
  .obtain⟨q,hq,rfl⟩:=List.mem_map.1 hp
   exact ZkY mv (by omega) (h.eqs.pol q hq).2
  obtain⟨q,hq,rfl⟩:=List.mem_map.1 hp
  exact ZkY mv (by omega) (h.neqs.pol q hq).2
 have q1:=ZfT (eqsF (s.eqs.map (·.p)) (s.neqs.map (·.p)))
 have q2:=Zgv (s.eqs.map (·.p)) (s.neqs.map (·.p))
 have q3:=ZfT (kept (s.neqs.map (·.p)) true)
 have q4:=Zad (s.neqs.map (·.p)) true
 rw[List.length_map,List.length_map] at q2
 rw[List.length_map] at q4
 have e:coreF s=(⟨varN s,srtP (eqsF (s.eqs.map (·.p)) (s.neqs.map (·.p))),srtP (kept (s.neqs.map (·.p)) true)⟩,0):=by
  unfold coreF normF
  rw[hm,if_pos ⟨by omega,by omega⟩,if_pos ha,if_neg (by omega),if_neg (by omega)]
 obtain⟨p1,p2⟩:=h.polys
 exact⟨e,(Zkm p1 p2).2 (by show (coreF s).2=0; rw[e])⟩
end Go.EL

namespace Go.EL
open Go.IntKind (i8 i16 i32 i64 u8 u16 u32 u64)
open Go Go.RowKit
theorem pfdiv32{z:Int}(h:0<=z/\z<4294967296):Int.fdiv z (2 ^ (min (32:Int).toNat u64.bits))=0:=by
 show Int.fdiv z 4294967296=0
 rw[Int.fdiv_eq_ediv_of_nonneg _ (by decide)]
 omega
theorem Zlp:(ZD []).Ret []:=Cq.Ret.Zo 5 rfl
theorem Zh3(x:Int):(ZD [x]).Ret (magI x):=by
 show (Cq.next _ _).wp _
 refine Cq.Zk (Cq.wp.yes lt01 ⟨x,⟨le00,rfl⟩,?_⟩)
 by_cases h:x=0
 .refine Cq.wp.yes h (Cq.Zk (Cq.wp.no nlt00 ?_))
  rw[h]
  exact⟨⟨le00,le00,le01⟩,rfl⟩
 refine Cq.wp.no h ?_
 rw[mag1 h]
 exact⟨⟨le00,le01,Int.le_refl 1⟩,rfl⟩
theorem Zh4(x:Int):(ZD [x,0]).Ret (magI x):=by
 show (Cq.next _ _).wp _
 refine Cq.Zk (Cq.wp.yes (by decide:(0:Int)<2) ⟨0,⟨le01,rfl⟩,Cq.wp.yes rfl (Cq.Zk (Cq.wp.yes lt01 ⟨x,⟨le00,rfl⟩,?_⟩))⟩)
 by_cases h:x=0
 .refine Cq.wp.yes h (Cq.Zk (Cq.wp.no nlt00 ?_))
  rw[h]
  exact⟨⟨le00,le00,le02⟩,rfl⟩
 refine Cq.wp.no h ?_
 rw[mag1 h]
 exact⟨⟨le00,le01,(by decide:(1:Int)<=2)⟩,rfl⟩
theorem Zcf(x:Int):(ZD (magI x)).Ret (magI x):=by
 by_cases h:x=0
 .subst h; exact Zlp
 rw[mag1 h]
 have:=Zh3 x
 rwa [mag1 h] at this
theorem ZcV(neg:Bool){x:Int}(h:0<=x):(ZR neg (magI x)).Ret (intI (if neg=true then -x else x)):=by
 refine⟨_,Zcf x,?_⟩
 by_cases hx:x=0
 .subst hx
  refine Cq.wp.yes rfl ?_
  cases neg <;> rfl
 rw[mag1 hx]
 refine Cq.wp.no (by show ¬ (1:Int)=0; decide) ?_
 show _=_
 unfold intI
 cases neg with
 | true=>rw[if_pos rfl,mag1 (by omega:((-x).natAbs:Int)≠0),show ((-x).natAbs:Int)=x by omega,decide_eq_true (show -x<0 by omega)]
 | false=>rw[if_neg (by decide),mag1 (by omega:(x.natAbs:Int)≠0),show (x.natAbs:Int)=x by omega,decide_eq_false (show ¬ x<0 by omega)]
theorem or0{x:Int}(h:0<=x/\x<18446744073709551616):u64.wrap ((BitVec.ofInt u64.bits 0 ||| BitVec.ofInt u64.bits x).toNat:Int)=x:=by
 have e:(BitVec.ofInt u64.bits 0 ||| BitVec.ofInt u64.bits x)=BitVec.ofInt u64.bits x:=by
  rw[show BitVec.ofInt u64.bits 0=0#_ from rfl,BitVec.zero_or]
 rw[e,BitVec.toNat_ofInt]
 have:(x % ((2 ^ u64.bits:Nat):Int)).toNat=x.toNat:=by
  rw[Int.emod_eq_of_lt h.1 (show x<((2 ^ u64.bits:Nat):Int) from h.2)]
 rw[this,Zu (by omega)]
 omega
theorem Zhl{a:Int}(h:0<=a/\a<4294967296):(ZbX (magI a)).Ret a:=by
 by_cases h0:a=0
 .subst h0; exact Cq.Ret.Zo 5 rfl
 rw[mag1 h0]
 show (Cq.next _ _).wp _
 have w:u64.wrap ((BitVec.ofInt u64.bits 0 ||| BitVec.ofInt u64.bits (u64.wrap ((u64.wrap a)*2 ^ (min (i64.wrap (32*0)).toNat u64.bits)))).toNat:Int)=a:=by
  rw[show (2:Int) ^ (min (i64.wrap (32*0)).toNat u64.bits)=1 by decide,Int.mul_one,Zu (x:=a) (by omega),Zu (x:=a) (by omega)]
  exact or0 (by omega)
 refine Cq.Zk (Cq.wp.yes lt01 ⟨a,⟨le00,rfl⟩,by decide,?_⟩)
 show (Cq.loop _ _).wp _
 rw[w]
 exact Cq.Zk (Cq.wp.no nlt11 rfl)
theorem Zkq{a:Int}(h:0<=a/\a<4294967296):(Za2 a).Ret (magI a):=by
 refine⟨magI a,?_,rfl⟩
 rw[ZdR h,pfdiv32 h]
 exact Zh4 a
theorem Zkb:∀ (n m:Nat),(Zbz ((m:Int),(n:Int))).Ret ((Nat.gcd m n:Nat):Int):=by
 intro n
 induction n using Nat.strongRecOn with
 | _ n ih=>
  intro m
  by_cases h:0<n
  .refine Cq.Zk (Cq.wp.yes (by omega) ⟨by omega,?_⟩)
   show (Zbz _).wp _
   have e:Int.tmod (m:Int) (n:Int)=((m % n:Nat):Int):=by rw[Int.tmod_eq_emod_of_nonneg (by omega)]; rfl
   have:=ih (m % n) (Nat.mod_lt _ h) n
   rw[show Nat.gcd m n=Nat.gcd n (m % n) by rw[Nat.gcd_comm m n,Nat.gcd_rec n m,Nat.gcd_comm]]
   rw[e]
   exact this
  have:n=0:=by omega
  subst this
  refine Cq.Zk (Cq.wp.no (by omega) ?_)
  show (m:Int)=_
  rw[Nat.gcd_zero_right]
theorem Zfz(x:Int):(magI x).length<=1:=by unfold magI; split <;> simp
theorem ZgG{a b:Int}(ha:a.natAbs<4294967296)(hb:b.natAbs<4294967296):(ZJ (intI a) (intI b)).Ret (intI ((Nat.gcd a.natAbs b.natAbs:Nat):Int)):=by
 have s1:=Zfz (a.natAbs:Int)
 have s2:=Zfz (b.natAbs:Int)
 refine⟨_,Zcf _,magI (a.natAbs:Int),⟨by simp only[small,List.nil_append]; omega,rfl⟩,_,Zcf _,magI (b.natAbs:Int),⟨by simp only[small,List.nil_append]; omega,rfl⟩,?_⟩
 show (Cq.next _ _).wp _
 by_cases h0:b=0
 .subst h0
  refine Cq.Zk (Cq.wp.no (by decide) ?_)
  show (ZbA _).wp _
  have:=ZcV false (x:=(a.natAbs:Int)) (by omega)
  rw[if_neg (by decide)] at this
  refine⟨_,this,?_⟩
  show _=_
  simp
 rw[mag1 (by omega:(b.natAbs:Int)≠0)]
 refine Cq.Zk (Cq.wp.yes (by show (0:Int)<1; decide) (Cq.wp.yes (by omega) ?_))
 show (ZbB _ _ _ true).wp _
 have hg:Nat.gcd a.natAbs b.natAbs<=b.natAbs:=Nat.gcd_le_right _ (by omega)
 have hv:=Zhl (a:=(b.natAbs:Int)) (by omega)
 rw[mag1 (by omega:(b.natAbs:Int)≠0)] at hv
 refine Cq.wp.yes rfl ⟨_,Zhl (by omega),_,hv,?_⟩
 refine (Zbz _).mono (fun o ho=>?_) (Zkb b.natAbs a.natAbs)
 subst ho
 have:=ZcV false (x:=((Nat.gcd a.natAbs b.natAbs:Nat):Int)) (by omega)
 rw[if_neg (by decide)] at this
 exact⟨_,Zkq (by omega),_,this,rfl⟩
theorem Zmo(x y:Int):(Zau [x] [y]).Ret (if x=y then 0 else if x<y then -1 else 1):=by
 refine Cq.wp.no (show ¬ ¬ ((1:Nat):Int)=((1:Nat):Int) by decide) ?_
 have w0:i64.wrap (((([x]:List Int).length:Nat):Int)-1)=0:=by show i64.wrap (((1:Nat):Int)-1)=0; decide
 rw[w0]
 show (Cq.next _ _).wp _
 refine Cq.Zk ?_
 refine Cq.wp.yes (by decide) ⟨x,⟨by decide,rfl⟩,y,⟨by decide,rfl⟩,?_⟩
 by_cases e:x=y
 .refine Cq.wp.no (fun k=>k e) ?_
  show (Cq.loop _ (i64.wrap (0-1))).wp _
  refine Cq.Zk ?_
  refine Cq.wp.no (by decide) ?_
  rw[if_pos e]
  rfl
 rw[if_neg e]
 refine Cq.wp.yes e ⟨x,⟨by decide,rfl⟩,y,⟨by decide,rfl⟩,?_⟩
 by_cases c:x<y
 .exact Cq.wp.yes c (by rw[if_pos c]; rfl)
 exact Cq.wp.no c (by rw[if_neg c]; rfl)
theorem Zjy{A B:Nat}(hA:1<=A/\A<4294967296)(hB:1<=B)(hd:B ∣ A):(ZbD (magI (A:Int)) (magI (B:Int))).Ret (magI ((A / B:Nat):Int),[]):=by
 have hBA:=Nat.le_of_dvd (by omega) hd
 have hq:A / B<=A:=Nat.div_le_self _ _
 refine⟨_,Zcf _,_,Zcf _,?_⟩
 rw[mag1 (by omega:(A:Int)≠0),mag1 (by omega:(B:Int)≠0)]
 refine⟨_,Zmo _ _,Cq.wp.no (by split <;> (try split) <;> omega) (Cq.wp.yes rfl ⟨(B:Int),⟨le00,rfl⟩,(magI ((A / B:Nat):Int),0),?_,[],Cq.Ret.Zo 8 rfl,rfl⟩)⟩
 refine⟨⟨le01,(by decide:(1:Int)<=1000000)⟩,?_⟩
 show (Cq.next _ _).wp _
 have wb:u64.wrap (B:Int)=(B:Int):=Zu (by omega)
 have w:u64.wrap ((BitVec.ofInt u64.bits (u64.wrap (0*2 ^ (min (32:Int).toNat u64.bits))) ||| BitVec.ofInt u64.bits (u64.wrap (A:Int))).toNat:Int)=(A:Int):=by
  rw[Int.zero_mul,Zu (x:=0) (by omega),Zu (x:=(A:Int)) (by omega)]
  exact or0 (by omega)
 have w2:u32.wrap (u64.wrap (Int.tdiv (A:Int) (B:Int)))=((A / B:Nat):Int):=by
  have q0:(0:Int)<=((A / B:Nat):Int):=Int.natCast_nonneg _
  have q1:((A / B:Nat):Int)<=(A:Int):=Int.ofNat_le.2 hq
  rw[Int.tdiv_eq_ediv_of_nonneg (by omega),<- Int.natCast_ediv]
  generalize ((A / B:Nat):Int)=q at q0 q1
  rw[Zu (by omega),ZdR (by omega)]
 have w3:Int.tmod (A:Int) (B:Int)=0:=by
  rw[Int.tmod_eq_emod_of_nonneg (by omega),<- Int.natCast_emod,Nat.mod_eq_zero_of_dvd hd]
  rfl
 rw[wb]
 refine Cq.Zk (Cq.wp.yes le00 ⟨_,⟨le00,rfl⟩,by first|omega|(rw[wb]; omega),0,⟨le00,rfl⟩,by first|omega|(rw[wb]; omega),?_⟩)
 show (Cq.loop _ _).wp _
 try rw[wb]
 rw[w,w2,w3]
 exact Cq.Zk (Cq.wp.no (by decide:¬ (0:Int)<=-1) ⟨_,Zh3 _,rfl⟩)
theorem Zgf{a:Int}{B:Nat}(h0:a≠0)(ha:a.natAbs<4294967296)(hB:1<=B)(hd:B ∣ a.natAbs):(ZI (intI a) (intI (B:Int))).Ret (intI (a / (B:Int)),intI 0,0):=by
 have hdv:=Zjy (A:=a.natAbs) (by omega) hB hd
 have hBm:(intI (B:Int)).mag=magI (B:Int):=by rw[Zbj]; simp
 refine⟨magI (B:Int),by rw[hBm]; exact Zcf _,Cq.wp.no (by rw[mag1 (by omega:(B:Int)≠0)]; show ¬ (1:Int)=0; decide) ⟨(magI ((a.natAbs / B:Nat):Int),[]),by rw[hBm]; exact hdv,?_⟩⟩
 have hq:(if a<0 then -((a.natAbs / B:Nat):Int) else ((a.natAbs / B:Nat):Int))=a / (B:Int):=by
  obtain⟨k,hk⟩:=hd
  have hb:(B:Int)≠0:=by omega
  rw[hk,Nat.mul_div_cancel_left _ (by omega)]
  by_cases hn:a<0
  .rw[if_pos hn]
   have:a=(B:Int) * -(k:Int):=by rw[Int.mul_neg,<- Int.natCast_mul]; omega
   rw[this,Int.mul_ediv_cancel_left _ hb]
  rw[if_neg hn]
  have:a=(B:Int)*(k:Int):=by rw[<- Int.natCast_mul]; omega
  rw[this,Int.mul_ediv_cancel_left _ hb]
 have hs:=ZcV (decide (¬ (intI a).neg=(intI (B:Int)).neg)) (x:=((a.natAbs / B:Nat):Int)) (Int.natCast_nonneg _)
 have hneg:(if decide (¬ (intI a).neg=(intI (B:Int)).neg)=true then -((a.natAbs / B:Nat):Int) else ((a.natAbs / B:Nat):Int))=a / (B:Int):=by
  rw[<- hq,Zac,Zac,decide_eq_false (show ¬ (B:Int)<0 by omega)]
  by_cases hn:a<0
  .rw[decide_eq_true hn,if_pos hn,if_pos (by decide)]
  rw[decide_eq_false hn,if_neg hn,if_neg (by decide)]
 rw[hneg] at hs
 have hk:(ZbI (intI a) (intI (B:Int)) (magI ((a.natAbs / B:Nat):Int)) []).wp fun r=>r=(intI (a / (B:Int)),intI 0,0):=⟨_,hs,_,Cq.Ret.Zo 8 (a:=intI 0) rfl,rfl⟩
 by_cases hn:(intI a).neg=true
 .exact Cq.wp.yes hn (Cq.wp.no (by show ¬ decide ((0:Int)<0)=true; decide) hk)
 exact Cq.wp.no hn (Cq.wp.no (by decide) hk)
theorem Zi0{a b:Int}(ha:1<=a/\a<4294967296)(hb:1<=b/\b<4294967296)(hab:0<=a*b/\a*b<4294967296):(Zcl [a] [b]).Ret (magI (a*b)):=by
 have w1:u64.wrap ((u64.wrap ((u64.wrap ((u64.wrap a)*(u64.wrap b)))+(u64.wrap 0)))+0)=a*b:=by
  rw[Zu (x:=a) (by omega),Zu (x:=b) (by omega),Zu (x:=0) (by omega)]
  simp only[Int.add_zero]
  rw[Zu (x:=a*b) (by omega),Zu (x:=a*b) (by omega),Zu (x:=a*b) (by omega)]
 refine⟨⟨le02,(by decide:(2:Int)<=1000000)⟩,?_⟩
 show (Cq.next _ _).wp _
 refine Cq.Zk (Cq.wp.yes lt01 ⟨a,⟨le00,rfl⟩,?_⟩)
 show (Cq.next _ _).wp _
 refine Cq.Zk (Cq.wp.yes lt01 ⟨b,⟨le00,rfl⟩,0,⟨le00,rfl⟩,0,⟨le00,rfl⟩,?_⟩)
 show (Cq.loop _ _).wp _
 rw[w1,pfdiv32 hab,ZdR hab]
 exact Cq.Zk (Cq.wp.no nlt11 ⟨0,⟨le01,rfl⟩,Cq.Zk (Cq.wp.no nlt11 ⟨_,Zh4 (a*b),rfl⟩)⟩)
theorem Zln{a b:Int}(a0:a≠0)(b0:b≠0)(hab:(a*b).natAbs<4294967296):(Z7 (intI a) (intI b)).Ret (intI (a*b)):=by
 rw[Int.natAbs_mul] at hab
 have ha:a.natAbs<4294967296:=Nat.lt_of_le_of_lt (Nat.le_mul_of_pos_right _ (by omega)) hab
 have hb:b.natAbs<4294967296:=Nat.lt_of_le_of_lt (Nat.le_mul_of_pos_left _ (by omega)) hab
 have h1:0<=((a.natAbs:Int)*(b.natAbs:Int))/\((a.natAbs:Int)*(b.natAbs:Int))<4294967296:=by rw[<- Int.natCast_mul]; omega
 have hp:=Zi0 (a:=(a.natAbs:Int)) (b:=(b.natAbs:Int)) (by omega) (by omega) h1
 refine⟨_,by rw[Zbj,Zbj,mag1 (by omega:(a.natAbs:Int)≠0),mag1 (by omega:(b.natAbs:Int)≠0)]; exact hp,_,ZcV _ h1.1,?_⟩
 show _=_
 congr 1
 rw[Zac,Zac]
 by_cases h2:a<0
 .by_cases h3:b<0
  .rw[decide_eq_true h2,decide_eq_true h3,if_neg (by decide),show (a.natAbs:Int) = -a by omega,show (b.natAbs:Int) = -b by omega,Int.neg_mul_neg]
  rw[decide_eq_true h2,decide_eq_false h3,if_pos (by decide),show (a.natAbs:Int) = -a by omega,show (b.natAbs:Int)=b by omega,Int.neg_mul,Int.neg_neg]
 by_cases h3:b<0
 .rw[decide_eq_false h2,decide_eq_true h3,if_pos (by decide),show (a.natAbs:Int)=a by omega,show (b.natAbs:Int) = -b by omega,Int.mul_neg,Int.neg_neg]
 rw[decide_eq_false h2,decide_eq_false h3,if_neg (by decide),show (a.natAbs:Int)=a by omega,show (b.natAbs:Int)=b by omega]
theorem ZaW(x:Int):(ZS (intI x)).Ret (decide (x=1)):=by
 unfold ZS
 rw[Zac,Zbj]
 by_cases hn:x<0
 .rw[decide_eq_true hn,decide_eq_false (by omega)]
  exact Cq.wp.yes rfl rfl
 rw[decide_eq_false hn]
 refine Cq.wp.no (by decide) ?_
 by_cases h0:x=0
 .subst h0; exact Cq.wp.no (by decide) rfl
 rw[mag1 (by omega:(x.natAbs:Int)≠0)]
 refine Cq.wp.yes rfl ⟨_,⟨le00,rfl⟩,?_⟩
 show decide ((x.natAbs:Int)=1)=decide (x=1)
 exact decide_eq_decide.2 ⟨fun h=>by omega,fun h=>by omega⟩
theorem Zh1{a b:Int}(a0:a≠0)(b0:b≠0)(hab:(a*b).natAbs<4294967296):(Z6 [intI a,intI b]).Ret (intI (a*b)):=by
 refine⟨intI 1,Cq.Ret.Zo 20 (by decide +kernel),?_⟩
 show (Cq.next _ _).wp _
 have second:(Za8 [intI a,intI b] (1,intI a)).wp fun o=>o=intI (a*b):=by
  refine Cq.Zk (Cq.wp.yes (by show (1:Int)<2; decide) ⟨intI b,⟨le01,rfl⟩,_,ZaW b,?_⟩)
  have stop:∀ x,x=intI (a*b)->(Za8 [intI a,intI b] (i64.wrap (1+1),x)).wp fun o=>o=intI (a*b):=fun x hx=>Cq.Zk (Cq.wp.no (by show ¬ (2:Int)<2; decide) hx)
  by_cases h1:b=1
  .rw[decide_eq_true h1]
   exact Cq.wp.yes rfl (stop _ (by rw[h1,Int.mul_one]))
  rw[decide_eq_false h1]
  refine Cq.wp.no (by decide) ⟨_,ZaW a,?_⟩
  by_cases h2:a=1
  .rw[decide_eq_true h2]
   exact Cq.wp.yes rfl (stop _ (by rw[h2,Int.one_mul]))
  rw[decide_eq_false h2]
  exact Cq.wp.no (by decide) ⟨_,Zln a0 b0 hab,stop _ rfl⟩
 refine Cq.Zk (Cq.wp.yes (by show (0:Int)<2; decide) ⟨intI a,⟨le00,rfl⟩,_,ZaW a,?_⟩)
 by_cases h1:a=1
 .rw[decide_eq_true h1]
  refine Cq.wp.yes rfl ?_
  have:intI 1=intI a:=by rw[h1]
  rw[this]
  exact second
 rw[decide_eq_false h1]
 refine Cq.wp.no (by decide) ⟨true,(ZaW 1),Cq.wp.yes rfl ?_⟩
 exact second
theorem ZgH{a:Int}{d:Nat}(h0:a≠0)(ha:a.natAbs<4294967296)(hd:1<=d/\d<4294967296):(Zaw (intI a) (intI (d:Int))).Ret ⟨intI (a / ((Nat.gcd a.natAbs d:Nat):Int)),intI ((d / Nat.gcd a.natAbs d:Nat):Int)⟩:=by
 have hg:1<=Nat.gcd a.natAbs d:=Nat.gcd_pos_of_pos_right _ (by omega)
 refine⟨_,ZaW _,?_⟩
 by_cases h1:(d:Int)=1
 .rw[decide_eq_true h1]
  have h1:d=1:=by omega
  subst h1
  refine Cq.wp.yes rfl ?_
  show _=_
  simp
 rw[decide_eq_false h1]
 have hgc:=ZgG (a:=a) (b:=(d:Int)) ha (by omega)
 rw[Int.natAbs_natCast] at hgc
 refine Cq.wp.no (by decide) ⟨_,hgc,_,ZaW _,?_⟩
 by_cases h2:((Nat.gcd a.natAbs d:Nat):Int)=1
 .rw[decide_eq_true h2]
  refine Cq.wp.yes rfl ?_
  have:Nat.gcd a.natAbs d=1:=by omega
  show _=_
  rw[this]
  simp
 rw[decide_eq_false h2]
 have hdd:=Zgf (a:=(d:Int)) (B:=Nat.gcd a.natAbs d) (by omega) (by omega) hg (by rw[Int.natAbs_natCast]; exact Nat.gcd_dvd_right _ _)
 refine Cq.wp.no (by decide) ⟨_,Zgf h0 ha hg (Nat.gcd_dvd_left _ _),_,hdd,?_⟩
 show _=_
 rw[Int.natCast_ediv]
theorem Zgh{a b:Int}{d e:Nat}(a0:a≠0)(b0:b≠0)(ha:a.natAbs<60000)(hb:b.natAbs<60000)(hd:1<=d/\d<60000)(he:1<=e/\e<60000):
  (ZY ⟨intI a,intI (d:Int)⟩ ⟨intI b,intI (e:Int)⟩).Ret ⟨intI ((a / ((Nat.gcd a.natAbs e:Nat):Int))*(b / ((Nat.gcd b.natAbs d:Nat):Int))),intI (((e / Nat.gcd a.natAbs e)*(d / Nat.gcd b.natAbs d):Nat):Int)⟩:=by
 have key:∀ {x:Int}{g:Nat},x≠0->1<=g->g ∣ x.natAbs->x / (g:Int)≠0/\(x / (g:Int)).natAbs<=x.natAbs:=fun {x g} h0 hg hd=>by
  obtain⟨k,hk⟩:=hd
  have hz:(g:Int) ∣ x:=Int.ofNat_dvd_left.2 ⟨k,hk⟩
  obtain⟨q,rfl⟩:=hz
  rw[Int.mul_ediv_cancel_left _ (by omega)]
  refine⟨fun h=>h0 (by rw[h,Int.mul_zero]),?_⟩
  rw[Int.natAbs_mul,Int.natAbs_natCast]
  exact Nat.le_mul_of_pos_left _ (by omega)
 have g1:1<=Nat.gcd a.natAbs e:=Nat.gcd_pos_of_pos_right _ (by omega)
 have g2:1<=Nat.gcd b.natAbs d:=Nat.gcd_pos_of_pos_right _ (by omega)
 obtain⟨k1,k2⟩:=key a0 g1 (Nat.gcd_dvd_left _ _)
 obtain⟨k3,k4⟩:=key b0 g2 (Nat.gcd_dvd_left _ _)
 have kn:∀ {x g:Nat},1<=x->g ∣ x->1<=x / g/\x / g<=x:=fun {x g} hx hd=>⟨Nat.div_pos (Nat.le_of_dvd (by omega) hd) (Nat.pos_of_dvd_of_pos hd (by omega)),Nat.div_le_self _ _⟩
 obtain⟨k5,k6⟩:=kn he.1 (Nat.gcd_dvd_right a.natAbs e)
 obtain⟨k7,k8⟩:=kn hd.1 (Nat.gcd_dvd_right b.natAbs d)
 have b1:((a / ((Nat.gcd a.natAbs e:Nat):Int))*(b / ((Nat.gcd b.natAbs d:Nat):Int))).natAbs<4294967296:=by
  rw[Int.natAbs_mul]
  exact Nat.lt_of_lt_of_le (Nat.mul_lt_mul'' (Nat.lt_of_le_of_lt k2 ha) (Nat.lt_of_le_of_lt k4 hb)) (by decide)
 have b2:(((e / Nat.gcd a.natAbs e:Nat):Int)*((d / Nat.gcd b.natAbs d:Nat):Int)).natAbs<4294967296:=by
  rw[Int.natAbs_mul,Int.natAbs_natCast,Int.natAbs_natCast]
  exact Nat.lt_of_lt_of_le (Nat.mul_lt_mul'' (Nat.lt_of_le_of_lt k6 he.2) (Nat.lt_of_le_of_lt k8 hd.2)) (by decide)
 refine⟨_,ZgH a0 (by omega) (by omega),_,ZgH b0 (by omega) (by omega),_,Zh1 k1 k3 b1,_,Zh1 (by omega) (by omega) b2,?_⟩
 show _=_
 rw[Int.natCast_mul]
end Go.EL

namespace Go.EL
open Go.IntKind (i8 i16 i32 i64 u8 u16 u32 u64)
open Go Go.RowKit
def coefP(F:Zf->Zf)(p:Pol):Pol:=p.map fun t=>⟨F t.c,t.m⟩
end Go.EL

namespace Go.EL
open Go.IntKind (i8 i16 i32 i64 u8 u16 u32 u64)
open Go Go.RowKit
def ratQ(x:Int):Zf:=if x % 3=0 then ratI (x / 3) else ⟨intI x,intI 3⟩
def uN(x:Int):Int:=if x % 3=0 then x / 3 else x
def eN(x:Int):Nat:=if x % 3=0 then 1 else 3
theorem Zes(x:Int):ratQ x=⟨intI (uN x),intI ((eN x:Nat):Int)⟩:=by
 unfold ratQ uN eN
 split
 .rw[ZaX]; rfl
 rfl
def scl(C:Int)(p:Pol):Pol:=coefP (fun q=>ratQ (C*numC q)) p
def gcdL(l:List Int):Nat:=l.foldr (fun x g=>Nat.gcd x.natAbs g) 0
theorem ZcI:∀ {l:List Int}{x:Int},x ∈ l->gcdL l ∣ x.natAbs
 | y::l,x,h=>by
  rcases List.mem_cons.1 h with rfl|h
  .exact Nat.gcd_dvd_left _ _
  exact Nat.dvd_trans (Nat.gcd_dvd_right _ _) (ZcI h)
theorem Zgy:∀ {l:List Int}{d:Nat},(∀ x ∈ l,d ∣ x.natAbs)->d ∣ gcdL l
 | [],d,_=>Nat.dvd_zero d
 | y::l,d,h=>Nat.dvd_gcd (h y (by simp)) (Zgy fun x hx=>h x (by simp[hx]))
theorem Zk1(l:List Int)(x:Int):gcdL (l++[x])=Nat.gcd (gcdL l) x.natAbs:=by
 induction l with
 | nil=>simp[gcdL]
 | cons y l ih=>
  show Nat.gcd y.natAbs (gcdL (l++[x]))=Nat.gcd (Nat.gcd y.natAbs (gcdL l)) x.natAbs
  rw[ih,Nat.gcd_assoc]
theorem ZjN:∀ (p:Pol) (C:Int),gcdL (p.map fun t=>C*numC t.c)=C.natAbs*gcdTo p
 | [],C=>by simp[gcdL,gcdTo]
 | t::p,C=>by
  show Nat.gcd (C*numC t.c).natAbs (gcdL (p.map fun t=>C*numC t.c))=C.natAbs*Nat.gcd (numC t.c).natAbs (gcdTo p)
  rw[ZjN p C,Int.natAbs_mul,Nat.gcd_mul_left]
theorem ZeU{x:Int}(h0:x≠0):uN x≠0/\(uN x).natAbs<=x.natAbs:=by
 unfold uN
 split <;> omega
theorem ZdY(x:Int):(eN x=1/\x % 3=0/\uN x=x / 3)\/(eN x=3/\¬ x % 3=0/\uN x=x):=by
 unfold eN uN
 split
 .exact .inl ⟨rfl,‹_›,rfl⟩
 exact .inr ⟨rfl,‹_›,rfl⟩
def xsL(C:Int)(p:Pol):List Int:=p.map fun t=>C*numC t.c
def mulM'(l:List Int):Nat:=if l.all (fun x=>decide (x % 3=0))=true then 1 else 3
theorem Zle(l:List Int)(x:Int):(mulM' (l++[x])=3/\(mulM' l=3\/eN x=3))\/(mulM' (l++[x])=1/\mulM' l=1/\eN x=1):=by
 unfold mulM'
 rw[List.all_append]
 have e:=ZdY x
 cases h1:l.all (fun x=>decide (x % 3=0)) with
 | false=>exact .inl ⟨rfl,.inl rfl⟩
 | true=>
  rcases e with ⟨e1,e2,_⟩|⟨e1,e2,_⟩
  .refine .inr ⟨?_,rfl,e1⟩
   simp[e2]
  refine .inl ⟨?_,.inr e1⟩
  simp[e2]
theorem den13:(ZJ (intI 1) (intI 1)).Ret (intI 1)/\(ZJ (intI 1) (intI 3)).Ret (intI 1)/\(ZJ (intI 3) (intI 1)).Ret (intI 1)/\(ZJ (intI 3) (intI 3)).Ret (intI 3):=
 ⟨Cq.Ret.Zo 60 (by decide +kernel),Cq.Ret.Zo 60 (by decide +kernel),Cq.Ret.Zo 60 (by decide +kernel),Cq.Ret.Zo 60 (by decide +kernel)⟩
theorem div13:(ZI (intI 1) (intI 1)).Ret (intI 1,intI 0,0)/\(ZI (intI 3) (intI 1)).Ret (intI 3,intI 0,0)/\(ZI (intI 3) (intI 3)).Ret (intI 1,intI 0,0):=
 ⟨Cq.Ret.Zo 60 (by decide +kernel),Cq.Ret.Zo 60 (by decide +kernel),Cq.Ret.Zo 60 (by decide +kernel)⟩
theorem mul13:(Z7 (intI 1) (intI 1)).Ret (intI 1)/\(Z7 (intI 1) (intI 3)).Ret (intI 3)/\(Z7 (intI 3) (intI 1)).Ret (intI 3):=
 ⟨Cq.Ret.Zo 60 (by decide +kernel),Cq.Ret.Zo 60 (by decide +kernel),Cq.Ret.Zo 60 (by decide +kernel)⟩
theorem neg13:(Za3 (intI 1)).Ret (intI (-1))/\(Za3 (intI 3)).Ret (intI (-3)):=⟨Cq.Ret.Zo 60 (by decide +kernel),Cq.Ret.Zo 60 (by decide +kernel)⟩
theorem Zhd(l:List Int):mulM' l=1\/mulM' l=3:=by unfold mulM'; split <;> simp
theorem Zmf{β:Type}(l:List Int)(x:Int){K:Zb->Cq β}{Φ:β->Prop}(h:(K (intI ((mulM' (l++[x]):Nat):Int))).wp Φ):
  (Cq.bind (ZJ (intI ((mulM' l:Nat):Int)) (intI ((eN x:Nat):Int))) fun yv8=>Cq.bind (ZI (intI ((eN x:Nat):Int)) yv8) fun yv9=>Cq.bind (Z7 (intI ((mulM' l:Nat):Int)) yv9.1) K).wp Φ:=by
 rcases Zle l x with ⟨h1,h2⟩|⟨h1,h2,h3⟩
 .rw[h1] at h
  rcases Zhd l with h3|h3
  .rcases h2 with h2|h2
   .omega
   rw[h3,h2]
   exact⟨_,den13.2.1,_,div13.2.1,_,mul13.2.1,h⟩
  rw[h3]
  rcases ZdY x with ⟨e,_⟩|⟨e,_⟩
  .rw[e]; exact⟨_,den13.2.2.1,_,div13.1,_,mul13.2.2,h⟩
  rw[e]; exact⟨_,den13.2.2.2,_,div13.2.2,_,mul13.2.2,h⟩
 rw[h1] at h
 rw[h2,h3]
 exact⟨_,den13.1,_,div13.1,_,mul13.1,h⟩
theorem ZjI{g:Nat}{x:Int}(h:g ∣ x.natAbs):∃ q,x=(g:Int)*q:=Int.ofNat_dvd_left.2 h
theorem not3{D:Nat}{x:Int}(h:D ∣ x.natAbs)(hx:¬ x % 3=0):¬ 3 ∣ D:=fun h3=>by
 obtain⟨q,hq⟩:=ZjI (Nat.dvd_trans h3 h)
 omega
theorem cop3{D y:Nat}(h3:¬ 3 ∣ D)(h:D ∣ 3*y):D ∣ y:=by
 have hc:Nat.Coprime D 3:=by
  have hp:Nat.gcd D 3 ∣ 3:=Nat.gcd_dvd_right _ _
  have hl:=Nat.le_of_dvd (by decide) hp
  have h0:0<Nat.gcd D 3:=Nat.gcd_pos_of_pos_right _ (by decide)
  have hne:Nat.gcd D 3≠3:=fun e=>h3 (by have:=Nat.gcd_dvd_left D 3; rw[e] at this; exact this)
  have hn2:Nat.gcd D 3≠2:=fun e=>by rw[e] at hp; exact absurd hp (by decide)
  show Nat.gcd D 3=1
  omega
 exact hc.dvd_of_dvd_mul_left h
theorem ZiF(l:List Int):(mulM' l=1/\gcdL l=3*gcdL (l.map uN)/\∀ x ∈ l,x % 3=0)\/(mulM' l=3/\gcdL l=gcdL (l.map uN)/\¬ 3 ∣ gcdL l):=by
 unfold mulM'
 by_cases h:l.all (fun x=>decide (x % 3=0))=true
 .rw[if_pos h]
  have ha:∀ x ∈ l,x % 3=0:=fun x hx=>of_decide_eq_true (List.all_eq_true.1 h x hx)
  refine .inl ⟨rfl,?_,ha⟩
  clear h
  induction l with
  | nil=>rfl
  | cons x l ih=>
   show Nat.gcd x.natAbs (gcdL l)=3*Nat.gcd (uN x).natAbs (gcdL (l.map uN))
   rw[ih fun y hy=>ha y (by simp[hy])]
   have hx:=ha x (by simp)
   have:x.natAbs=3*(uN x).natAbs:=by unfold uN; rw[if_pos hx]; omega
   rw[this,Nat.gcd_mul_left]
 rw[if_neg h]
 rw[List.all_eq_true] at h
 obtain⟨y,hy,hy3⟩:∃ y ∈ l,¬ y % 3=0:=by
  by_cases hh:∃ y ∈ l,¬ y % 3=0
  .exact hh
  exact absurd (fun x hx=>decide_eq_true (by by_cases e:x % 3=0; exact e; exact absurd ⟨x,hx,e⟩ hh)) h
 have hE3:¬ 3 ∣ gcdL l:=not3 (ZcI hy) hy3
 refine .inr ⟨rfl,Nat.dvd_antisymm ?_ ?_,hE3⟩
 .refine Zgy fun z hz=>?_
  obtain⟨x,hx,rfl⟩:=List.mem_map.1 hz
  have hd:=ZcI hx
  rcases ZdY x with ⟨_,e2,e3⟩|⟨_,_,e3⟩
  .rw[e3]
   refine cop3 hE3 ?_
   have:x.natAbs=3*(x / 3).natAbs:=by omega
   rw[<- this]; exact hd
  rw[e3]; exact hd
 refine Zgy fun x hx=>?_
 have hd:=ZcI (List.mem_map.2 ⟨x,hx,rfl⟩:uN x ∈ l.map uN)
 rcases ZdY x with ⟨_,e2,e3⟩|⟨_,_,e3⟩
 .rw[e3] at hd
  have:x.natAbs=3*(x / 3).natAbs:=by omega
  rw[this]
  exact Nat.dvd_trans hd (Nat.dvd_mul_left _ _)
 rw[e3] at hd; exact hd
theorem ZlZ{l:List Int}{x:Int}(hx:x ∈ l)(h0:x≠0)(hb:x.natAbs<50000){s:Int}(hs:s=1\/s = -1):
  (ZY ⟨intI (s*((mulM' l:Nat):Int)),intI ((gcdL (l.map uN):Nat):Int)⟩ (ratQ x)).Ret (ratI (s*(x / ((gcdL l:Nat):Int)))):=by
 obtain⟨u0,u1⟩:=ZeU h0
 have hd:=ZcI (List.mem_map.2 ⟨x,hx,rfl⟩:uN x ∈ l.map uN)
 have hD1:1<=gcdL (l.map uN):=Nat.pos_of_dvd_of_pos hd (by omega)
 have hD2:gcdL (l.map uN)<=(uN x).natAbs:=Nat.le_of_dvd (by omega) hd
 have hg2:Nat.gcd (uN x).natAbs (gcdL (l.map uN))=gcdL (l.map uN):=Nat.gcd_eq_right hd
 obtain⟨q,hq⟩:=ZjI hd
 have hdz:((gcdL (l.map uN):Nat):Int)≠0:=by omega
 rw[Zes]
 rcases ZiF l with ⟨m1,m2,m3⟩|⟨m1,m2,m3⟩
 .have hx3:=m3 x hx
  have he:eN x=1:=by unfold eN; rw[if_pos hx3]
  have hu:uN x=x / 3:=by unfold uN; rw[if_pos hx3]
  have hr:=Zgh (a:=s*((mulM' l:Nat):Int)) (b:=uN x) (d:=gcdL (l.map uN)) (e:=eN x) (by rw[m1]; rcases hs with rfl|rfl <;> decide) u0 (by rw[m1]; rcases hs with rfl|rfl <;> decide) (by omega) (by omega) (by omega)
  rw[hg2,he,Nat.gcd_one_right,Nat.div_self hD1,m1] at hr
  rw[he,m1]
  have e1:s*((1:Nat):Int) / ((1:Nat):Int)*(uN x / ((gcdL (l.map uN):Nat):Int))=s*(x / ((gcdL l:Nat):Int)):=by
   rw[m2,hq,Int.mul_ediv_cancel_left _ hdz]
   have:x=((3*gcdL (l.map uN):Nat):Int)*q:=by
    have:x=3*uN x:=by omega
    rw[this,hq,Int.natCast_mul,Int.mul_assoc]; rfl
   rw[this,Int.mul_ediv_cancel_left _ (by omega)]
   simp
  rw[e1] at hr
  rw[ZaX]
  exact hr
 have hD3:¬ 3 ∣ gcdL (l.map uN):=by rw[<- m2]; exact m3
 have hr:=Zgh (a:=s*((mulM' l:Nat):Int)) (b:=uN x) (d:=gcdL (l.map uN)) (e:=eN x) (by rw[m1]; rcases hs with rfl|rfl <;> decide) u0 (by rw[m1]; rcases hs with rfl|rfl <;> decide) (by omega) (by omega) (by rcases ZdY x with ⟨e,_⟩|⟨e,_⟩ <;> rw[e] <;> decide)
 rw[hg2,Nat.div_self hD1,m1] at hr
 rw[m1]
 have hs3:(s*((3:Nat):Int)).natAbs=3:=by rcases hs with rfl|rfl <;> rfl
 rw[hs3] at hr
 rw[ZaX]
 rcases ZdY x with ⟨e,e2,e3⟩|⟨e,e2,e3⟩
 .rw[e] at hr ⊢
  have e1:s*((3:Nat):Int) / ((Nat.gcd 3 1:Nat):Int)*(uN x / ((gcdL (l.map uN):Nat):Int))=s*(x / ((gcdL l:Nat):Int)):=by
   rw[m2,hq,Int.mul_ediv_cancel_left _ hdz]
   have:x=((gcdL (l.map uN):Nat):Int)*(3*q):=by
    have h1:x=3*uN x:=by omega
    rw[h1,hq,Int.mul_left_comm]
   rw[this,Int.mul_ediv_cancel_left _ hdz]
   rcases hs with rfl|rfl <;> simp[Int.neg_mul]
  rw[e1] at hr
  exact hr
 rw[e] at hr ⊢
 have e1:s*((3:Nat):Int) / ((Nat.gcd 3 3:Nat):Int)*(uN x / ((gcdL (l.map uN):Nat):Int))=s*(x / ((gcdL l:Nat):Int)):=by
  rw[m2,e3]
  rcases hs with rfl|rfl <;> rfl
 rw[e1] at hr
 exact hr
end Go.EL

namespace Go.EL
open Go.IntKind (i8 i16 i32 i64 u8 u16 u32 u64)
open Go Go.RowKit
theorem Zi5{a:Int}(h:0<=a/\a<4294967296):(Zch (magI a)).Ret a:=by
 have w:u64.wrap (u64.wrap (0*4294967296)+a)=a:=by
  rw[Int.zero_mul,Zu (x:=0) (by omega),Int.zero_add,Zu (by omega)]
 exact⟨_,word1 _,_,word0 h,w⟩
theorem Zkx{a:Int}(h:0<=a/\a<4294967296):(Zbf a).Ret (magI a):=by
 refine⟨magI a,?_,rfl⟩
 rw[Int.tmod_eq_emod_of_nonneg h.1,Int.emod_eq_of_lt h.1 h.2,Int.tdiv_eq_ediv_of_nonneg h.1,Int.ediv_eq_zero_of_lt h.1 h.2,ZdR h]
 exact ZgO a
theorem Zjz:∀ (n m:Nat),(Zdc ((m:Int),(n:Int))).Ret ((Nat.gcd m n:Nat):Int):=by
 intro n
 induction n using Nat.strongRecOn with
 | _ n ih=>
  intro m
  by_cases h:0<n
  .refine Cq.Zk (Cq.wp.yes (by omega) ⟨by omega,?_⟩)
   show (Zdc _).wp _
   have e:Int.tmod (m:Int) (n:Int)=((m % n:Nat):Int):=by rw[Int.tmod_eq_emod_of_nonneg (by omega)]; rfl
   have:=ih (m % n) (Nat.mod_lt _ h) n
   rw[show Nat.gcd m n=Nat.gcd n (m % n) by rw[Nat.gcd_comm m n,Nat.gcd_rec n m,Nat.gcd_comm]]
   rw[e]
   exact this
  have:n=0:=by omega
  subst this
  refine Cq.Zk (Cq.wp.no (by omega) ?_)
  show (m:Int)=_
  rw[Nat.gcd_zero_right]
theorem Zmx{a b:Int}(ha:a.natAbs<4294967296)(hb0:b≠0)(hb:b.natAbs<4294967296):(ZfM (intI a) (intI b)).Ret (intI ((Nat.gcd a.natAbs b.natAbs:Nat):Int)):=by
 have s1:=Zfz (a.natAbs:Int)
 have hg:Nat.gcd a.natAbs b.natAbs<=b.natAbs:=Nat.gcd_le_right _ (by omega)
 have hc:(Zdm (magI (a.natAbs:Int)) (magI (b.natAbs:Int))).Ret (magI ((Nat.gcd a.natAbs b.natAbs:Nat):Int)):=by
  show (Cq.next _ _).wp _
  rw[mag1 (by omega:(b.natAbs:Int)≠0)]
  refine Cq.Zk (Cq.wp.yes (by show (0:Int)<1; decide) (Cq.wp.yes (by omega) ?_))
  have hv:=Zi5 (a:=(b.natAbs:Int)) (by omega)
  rw[mag1 (by omega:(b.natAbs:Int)≠0)] at hv
  refine Cq.wp.yes rfl ⟨_,Zi5 (by omega),_,hv,_,Zjz b.natAbs a.natAbs,_,Zkx (by omega),?_⟩
  rfl
 have:=Zb4 false (x:=((Nat.gcd a.natAbs b.natAbs:Nat):Int)) (by omega) (ZdP _)
 rw[if_neg (by decide)] at this
 exact⟨_,hc,_,this,rfl⟩
theorem Zi3{A B:Nat}(hA:1<=A/\A<4294967296)(hB:1<=B)(hd:B ∣ A):(ZbP (magI (A:Int)) (magI (B:Int))).Ret (magI ((A / B:Nat):Int),[]):=by
 have hBA:=Nat.le_of_dvd (by omega) hd
 have hq:A / B<=A:=Nat.div_le_self _ _
 have hc:=Zfj (a:=(A:Int)) (b:=(B:Int)) (by omega) (by omega)
 refine⟨_,hc,?_⟩
 rw[mag1 (by omega:(A:Int)≠0),mag1 (by omega:(B:Int)≠0)]
 refine Cq.wp.no (by split <;> (try split) <;> omega) (Cq.wp.yes rfl ⟨(B:Int),⟨le00,rfl⟩,(magI ((A / B:Nat):Int),0),?_,[],Cq.Ret.Zo 8 rfl,rfl⟩)
 refine⟨⟨le01,(by decide:(1:Int)<=1000000)⟩,?_⟩
 show (Cq.next _ _).wp _
 have wb:u64.wrap (B:Int)=(B:Int):=Zu (by omega)
 have w:u64.wrap (u64.wrap (0*4294967296)+u64.wrap (A:Int))=(A:Int):=by
  rw[Int.zero_mul,Zu (x:=0) (by omega),Int.zero_add,Zu (x:=(A:Int)) (by omega),Zu (by omega)]
 have w2:u32.wrap (u64.wrap (Int.tdiv (A:Int) (B:Int)))=((A / B:Nat):Int):=by
  have q0:(0:Int)<=((A / B:Nat):Int):=Int.natCast_nonneg _
  have q1:((A / B:Nat):Int)<=(A:Int):=Int.ofNat_le.2 hq
  rw[Int.tdiv_eq_ediv_of_nonneg (by omega),<- Int.natCast_ediv]
  generalize ((A / B:Nat):Int)=q at q0 q1
  rw[Zu (by omega),ZdR (by omega)]
 have w3:Int.tmod (A:Int) (B:Int)=0:=by
  rw[Int.tmod_eq_emod_of_nonneg (by omega),<- Int.natCast_emod,Nat.mod_eq_zero_of_dvd hd]
  rfl
 rw[wb]
 refine Cq.Zk (Cq.wp.yes le00 ⟨_,⟨le00,rfl⟩,by first|omega|(rw[wb]; omega),0,⟨le00,rfl⟩,by first|omega|(rw[wb]; omega),?_⟩)
 show (Cq.loop _ _).wp _
 try rw[wb]
 rw[w,w2,w3]
 exact Cq.Zk (Cq.wp.no (by decide:¬ (0:Int)<=-1) ⟨_,ZdQ _,rfl⟩)
theorem Zhm{a:Int}{B:Nat}(h0:a≠0)(ha:a.natAbs<4294967296)(hB:1<=B)(hd:B ∣ a.natAbs):(ZcZ (intI a) (intI (B:Int))).Ret (intI (a / (B:Int))):=by
 have hdv:=Zi3 (A:=a.natAbs) (by omega) hB hd
 have hBm:(intI (B:Int)).mag=magI (B:Int):=by rw[Zbj]; simp
 refine⟨(intI (a / (B:Int)),intI 0,0),?_,rfl⟩
 refine Cq.wp.no (by rw[hBm,mag1 (by omega:(B:Int)≠0)]; show ¬ (1:Int)=0; decide) ⟨(magI ((a.natAbs / B:Nat):Int),[]),by rw[hBm]; exact hdv,?_⟩
 have hq:(if a<0 then -((a.natAbs / B:Nat):Int) else ((a.natAbs / B:Nat):Int))=a / (B:Int):=by
  obtain⟨k,hk⟩:=hd
  have hb:(B:Int)≠0:=by omega
  rw[hk,Nat.mul_div_cancel_left _ (by omega)]
  by_cases hn:a<0
  .rw[if_pos hn]
   have:a=(B:Int) * -(k:Int):=by rw[Int.mul_neg,<- Int.natCast_mul]; omega
   rw[this,Int.mul_ediv_cancel_left _ hb]
  rw[if_neg hn]
  have:a=(B:Int)*(k:Int):=by rw[<- Int.natCast_mul]; omega
  rw[this,Int.mul_ediv_cancel_left _ hb]
 have hs:=Zb4 (decide (¬ (intI a).neg=(intI (B:Int)).neg)) (x:=((a.natAbs / B:Nat):Int)) (Int.natCast_nonneg _) (ZdP _)
 have hneg:(if decide (¬ (intI a).neg=(intI (B:Int)).neg)=true then -((a.natAbs / B:Nat):Int) else ((a.natAbs / B:Nat):Int))=a / (B:Int):=by
  rw[<- hq,Zac,Zac,decide_eq_false (show ¬ (B:Int)<0 by omega)]
  by_cases hn:a<0
  .rw[decide_eq_true hn,if_pos hn,if_pos (by decide)]
  rw[decide_eq_false hn,if_neg hn,if_neg (by decide)]
 rw[hneg] at hs
 have hk:(ZbV (intI a) (intI (B:Int)) (magI ((a.natAbs / B:Nat):Int)) []).wp fun r=>r=(intI (a / (B:Int)),intI 0,0):=⟨_,hs,_,Zb4 false (x:=0) (by decide) ZgN,rfl⟩
 by_cases hn:(intI a).neg=true
 .exact Cq.wp.yes hn (Cq.wp.no (by show ¬ decide ((0:Int)<0)=true; decide) hk)
 exact Cq.wp.no hn (Cq.wp.no (by decide) hk)
theorem Zmy{a:Int}{d:Nat}(h0:a≠0)(ha:a.natAbs<4294967296)(hd:1<=d/\d<4294967296):(ZaP (intI a) (intI (d:Int))).Ret ⟨intI (a / ((Nat.gcd a.natAbs d:Nat):Int)),intI ((d / Nat.gcd a.natAbs d:Nat):Int)⟩:=by
 have hg:1<=Nat.gcd a.natAbs d:=Nat.gcd_pos_of_pos_right _ (by omega)
 have hgc:=Zmx (a:=a) (b:=(d:Int)) ha (by omega) (by omega)
 rw[Int.natAbs_natCast] at hgc
 have hdd:=Zhm (a:=(d:Int)) (B:=Nat.gcd a.natAbs d) (by omega) (by omega) hg (by rw[Int.natAbs_natCast]; exact Nat.gcd_dvd_right _ _)
 have hsg:(ZeA (intI (d:Int))).Ret 1:=by
  have h1:(intI (d:Int))=⟨false,[(d:Int)]⟩:=by
   unfold intI
   rw[decide_eq_false (by omega),Int.natAbs_natCast,mag1 (by omega)]
  rw[h1]
  exact Cq.Ret.Zo 8 rfl
 refine⟨_,hgc,1,hsg,Cq.wp.no (by decide) ⟨_,Zhm h0 ha hg (Nat.gcd_dvd_left _ _),_,hdd,?_⟩⟩
 show _=_
 rw[Int.natCast_ediv]
end Go.EL

namespace Go.EL
open Go.IntKind (i8 i16 i32 i64 u8 u16 u32 u64)
open Go Go.RowKit
theorem Zlr:(between (-128) 127 fun c=>runs 80 (Zgo ⟨c,3,0⟩) (ratQ c))=true:=by decide +kernel
theorem rlow3{x:Int}(h0:x≠0)(hx:x.natAbs<50000):(ZaP (intI x) (intI 3)).Ret (ratQ x):=by
 have h:=Zmy (a:=x) (d:=3) h0 (by omega) (by decide)
 rw[Zes]
 rcases ZdY x with ⟨e1,e2,e3⟩|⟨e1,e2,e3⟩
 .have hg:Nat.gcd x.natAbs 3=3:=Nat.gcd_eq_right (by omega)
  rw[hg] at h
  rw[e1,e3]
  exact h
 have hg:Nat.gcd x.natAbs 3=1:=by
  have hp:Nat.gcd x.natAbs 3 ∣ 3:=Nat.gcd_dvd_right _ _
  have hle:=Nat.le_of_dvd (by decide) hp
  have hpos:0<Nat.gcd x.natAbs 3:=Nat.gcd_pos_of_pos_right _ (by decide)
  have hne3:Nat.gcd x.natAbs 3≠3:=fun e=>by have:=Nat.gcd_dvd_left x.natAbs 3; rw[e] at this; omega
  have hn2:Nat.gcd x.natAbs 3≠2:=fun e=>by rw[e] at hp; exact absurd hp (by decide)
  omega
 rw[hg,Int.natCast_one,Int.ediv_one] at h
 rw[e1,e3]
 exact h
theorem Zd2{x:Int}(h0:x≠0):(ZN (intI x)).Ret (if x<0 then -1 else 1):=by
 unfold ZN
 rw[Zbj,mag1 (by omega:(x.natAbs:Int)≠0),Zac]
 refine Cq.wp.no (by show ¬ (1:Int)=0; decide) ?_
 by_cases hn:x<0
 .rw[decide_eq_true hn,if_pos hn]; exact Cq.wp.yes rfl rfl
 rw[decide_eq_false hn,if_neg hn]; exact Cq.wp.no (by decide) rfl
theorem Zh5{x:Int}(h0:x≠0):(ZA (ratQ x)).Ret (if x<0 then -1 else 1):=by
 have hu:=(ZeU h0).1
 have hs:=Zd2 hu
 have e:(if uN x<0 then (-1:Int) else 1)=if x<0 then -1 else 1:=by
  have:uN x<0↔x<0:=by unfold uN; split <;> omega
  by_cases hx:x<0
  .rw[if_pos hx,if_pos (this.2 hx)]
  rw[if_neg hx,if_neg (fun h=>hx (this.1 h))]
 rw[e] at hs
 rw[Zes]
 exact⟨_,hs,rfl⟩
theorem Zdr{x:Int}(h0:x≠0):(Za1 (intI x)).Ret true:=by
 unfold Za1
 rw[Zbj,mag1 (by omega:(x.natAbs:Int)≠0)]
 refine Cq.wp.no (by show ¬ (1:Int)=0; decide) ⟨(x.natAbs:Int),⟨by show 0<=i64.wrap (((1:Nat):Int)-1); decide,rfl⟩,?_⟩
 show decide (¬ (x.natAbs:Int)=0)=true
 exact decide_eq_true (by omega)
theorem Zkr{x:Int}(h0:x≠0)(hx:x.natAbs<50000):(ZaK (ratQ x)).Ret true:=by
 obtain⟨hu,hub⟩:=ZeU h0
 rw[Zes]
 rcases ZdY x with ⟨e1,e2,e3⟩|⟨e1,e2,e3⟩
 .rw[e1]
  exact⟨true,Zdr hu,true,Zdr (by decide),1,Zd2 (x:=1) (by decide),Cq.wp.no (by decide) ⟨true,ZaW 1,rfl⟩⟩
 rw[e1]
 have hg:=ZgG (a:=uN x) (b:=3) (by omega) (by decide)
 have hg1:Nat.gcd (uN x).natAbs (3:Int).natAbs=1:=by
  have hp:Nat.gcd (uN x).natAbs 3 ∣ 3:=Nat.gcd_dvd_right _ _
  have hle:=Nat.le_of_dvd (by decide) hp
  have hpos:0<Nat.gcd (uN x).natAbs 3:=Nat.gcd_pos_of_pos_right _ (by decide)
  have hne3:Nat.gcd (uN x).natAbs 3≠3:=fun e=>by have:=Nat.gcd_dvd_left (uN x).natAbs 3; rw[e] at this; omega
  have hn2:Nat.gcd (uN x).natAbs 3≠2:=fun e=>by rw[e] at hp; exact absurd hp (by decide)
  show Nat.gcd (uN x).natAbs 3=1
  omega
 rw[hg1] at hg
 exact⟨true,Zdr hu,true,Zdr (by decide),1,Zd2 (x:=3) (by decide),Cq.wp.no (by decide) ⟨false,ZaW 3,_,hg,true,ZaW 1,rfl⟩⟩
theorem Zls:(between (-128) 128 fun c=>c == 0 || runs 40 (Zaz (ratQ c)) (if c<0 then -1 else 1))=true:=by decide +kernel
theorem ratQ3(k:Int):ratQ (3*k)=ratI k:=by
 unfold ratQ
 rw[if_pos (by omega),show 3*k / 3=k by omega]
def FacOk(C:Int):Prop:=C≠0/\-128<=C/\C<=128
theorem Zfm{C n:Int}(h:FacOk C)(n0:n≠0)(n1:-12<=n)(n2:n<=12):C*n≠0/\-1600<=C*n/\C*n<=1600/\(C*n).natAbs<50000:=by
 obtain⟨c0,c1,c2⟩:=h
 have h1:(C*n).natAbs<=128*12:=by
  rw[Int.natAbs_mul]
  exact Nat.mul_le_mul (by omega) (by omega)
 exact⟨Int.mul_ne_zero c0 n0,by omega,by omega,by omega⟩
theorem rmulQ{C n:Int}(h:FacOk C)(n0:n≠0)(n1:-12<=n)(n2:n<=12):(Zds (ratQ C) (ratI n)).Ret (ratQ (C*n)):=by
 obtain⟨b0,b1,b2,b3⟩:=Zfm h n0 n1 n2
 obtain⟨c0,c1,c2⟩:=h
 by_cases h3:C % 3=0
 .obtain⟨k,rfl⟩:∃ k,C=3*k:=⟨C / 3,by omega⟩
  rw[ratQ3,Int.mul_assoc,ratQ3]
  exact Zks (by omega) (by omega)
 have e:ratQ C=⟨intI C,intI 3⟩:=if_neg h3
 have hd:(Zcb (intI 3) ⟨false,[1]⟩).Ret (intI 3):=Cq.Ret.Zo 20 (by decide +kernel)
 rw[e,ZaX]
 exact⟨_,Zhx (by omega) (by omega) (by omega),intI 3,hd,_,rlow3 b0 b3,rfl⟩
theorem ZjX{C:Int}(h:FacOk C){p:Pol}(hp:PolOk p):(Zbg (ratQ C) (fun _=>0) p).Ret (scl C p,0):=by
 have hs:=Zy Zls h.2.1 h.2.2
 rw[show (C == 0)=false by simpa using h.1,Bool.false_or] at hs
 refine Zj5 (f:=fun q=>ratQ (C*numC q)) hp.len hp.mono (ZM hs) (by split <;> decide) (fun t ht=>?_)
 obtain⟨e,n0,n1,n2⟩:=hp.num ht
 have:=rmulQ h n0 n1 n2
 rw[<- e] at this
 exact this
theorem Zg3(F:Zf->Zf)(p:Pol):∀ k,degPTo (coefP F p) k=degPTo p k
 | 0=>rfl
 | k+1=>by
  unfold degPTo
  rw[Zg3 F p k]
  unfold coefP
  rw[List.getElem?_map]
  cases p[k]? <;> rfl
theorem Zb1(F:Zf->Zf)(p:Pol):(coefP F p).length=p.length:=List.length_map _
theorem Zf9(F:Zf->Zf)(p:Pol):∀ k,usesTo (coefP F p) k=usesTo p k
 | 0=>rfl
 | k+1=>by
  unfold usesTo
  rw[Zf9 F p k]
  unfold coefP
  rw[List.getElem?_map]
  cases p[k]? <;> rfl
theorem ZlR{p:Pol}(hl:p.length<=100)(hm:∀ t ∈ p,Ok t.m):(ZK p).Ret (degP p):=by
 refine Cq.Zn p.length (fun k s=>s=(degPTo p k,(k:Int))) (fun k s hk hs=>?_) (fun s hs=>?_) rfl
 .subst hs
  refine Cq.wp.yes (by omega) ⟨p[k],idxN hk,_,ZgQ (hm _ (List.getElem_mem hk)),?_⟩
  show _=_
  rw[wrapN (by omega)]
  simp only[degPTo,List.getElem?_eq_getElem hk]
 subst hs
 exact Cq.wp.no (by omega) rfl
theorem Zhn{C:Int}{p:Pol}{k:Nat}(hk:k<(scl C p).length):(scl C p)[k]=⟨ratQ (C*numC (p[k]'(by rw[scl,Zb1] at hk; exact hk)).c),(p[k]'(by rw[scl,Zb1] at hk; exact hk)).m⟩:=by
 exact List.getElem_map _
theorem Zlu{C:Int}(h:FacOk C){p:Pol}(hp:PolOk p):(Zam (scl C p)).Ret true:=by
 have hl:=hp.len
 have hlen:(scl C p).length=p.length:=Zb1 _ _
 refine Cq.Zn (scl C p).length (fun k s=>s=(k:Int)) (fun k s hk hs=>?_) (fun s hs=>?_) rfl
 .subst hs
  have hk':k<p.length:=by omega
  obtain⟨e,n0,n1,n2⟩:=hp.num (List.getElem_mem hk')
  obtain⟨b0,b1,b2,_⟩:=Zfm h n0 n1 n2
  have b3:=(Zfm h n0 n1 n2).2.2.2
  refine Cq.wp.yes (by omega) ⟨_,idxN hk,?_⟩
  rw[Zhn hk]
  refine⟨true,Zkr b0 b3,_,Zh5 b0,Cq.wp.no (by split <;> decide) ⟨true,Zfc (hp.mono p[k] (List.getElem_mem hk')),Cq.wp.no (by decide) ?_⟩⟩
  show (ZX (scl C p) (k:Int) _).wp _
  unfold ZX
  by_cases h0:(0:Int)<(k:Int)
  .obtain⟨j,rfl⟩:∃ j,k=j+1:=⟨k-1,by omega⟩
   refine Cq.wp.yes h0 ?_
   rw[wrapP (by omega)]
   refine⟨_,idxN (by omega),_,ZaS _ _,?_⟩
   rw[Zhn (by omega)]
   have:=hp.step hk'
   exact Cq.wp.no (by show ¬ cmpM p[j].m p[j+1].m<=0; omega) (wrapN (by omega))
  exact Cq.wp.no h0 (wrapN (by omega))
 subst hs
 exact Cq.wp.no (by omega) rfl
structure NrmR (p' p:Pol):Prop where
 ok:PolOk p
 len:p'.length=p.length
 fits:∀ n:Nat,(ZbU p' (n:Int)).Ret (fitB p (n:Int))
 deg:(ZK p').Ret (degP p)
 nrm:p≠[]->(ZaC p').Ret (primP p)
theorem NrmR.refl{p:Pol}(h:PolOk p):NrmR p p:=⟨h,rfl,fun n=>Zcz h (by omega),ZbO h,Zdl h⟩
theorem ZjM:∀ {l:List Int},(∀ x ∈ l,x≠0/\x.natAbs<50000)->gcdL l<50000
 | [],_=>by decide
 | x::l,h=>by
  obtain⟨h0,h1⟩:=h x (by simp)
  exact Nat.lt_of_le_of_lt (Nat.le_of_dvd (by omega) (Nat.gcd_dvd_left x.natAbs _)) h1
def xOf(r:Zf):Int:=if r.den.mag=[1] then 3*numC r else numC r
theorem Zjh(x:Int):xOf (ratQ x)=x:=by
 unfold ratQ
 split
 .unfold xOf
  rw[if_pos (by rfl),Zaj]; omega
 unfold xOf
 rw[if_neg (by show ¬ (intI 3).mag=[1]; decide)]
 have:=Zaj x
 rw[ZaX] at this
 exact this
theorem ZmY{s:Int}(hs:s=1\/s = -1){l:List Int}(hne:l≠[])(hl:∀ x ∈ l,x≠0/\x.natAbs<50000):(Zbt (intI (s*((mulM' l:Nat):Int))) (intI ((gcdL (l.map uN):Nat):Int))).Ret (⟨intI (s*((mulM' l:Nat):Int)),intI ((gcdL (l.map uN):Nat):Int)⟩,0):=by
 obtain⟨x,hx⟩:=List.exists_mem_of_ne_nil _ hne
 have hd:=ZcI (List.mem_map.2 ⟨x,hx,rfl⟩:uN x ∈ l.map uN)
 have hD1:1<=gcdL (l.map uN):=Nat.pos_of_dvd_of_pos hd (by have:=(ZeU (hl x hx).1).1; omega)
 have hD2:gcdL (l.map uN)<50000:=ZjM fun z hz=>by
  obtain⟨y,hy,rfl⟩:=List.mem_map.1 hz
  obtain⟨h0,h1⟩:=hl y hy
  obtain⟨u0,u1⟩:=ZeU h0
  exact⟨u0,by omega⟩
 have hsg:(ZN (intI ((gcdL (l.map uN):Nat):Int))).Ret 1:=by
  unfold ZN
  rw[Zbj,mag1 (by omega),Zac,decide_eq_false (by omega)]
  exact Cq.wp.no (by show ¬ (1:Int)=0; decide) (Cq.wp.no (by decide) rfl)
 have hg:Nat.gcd (s*((mulM' l:Nat):Int)).natAbs (gcdL (l.map uN))=1:=by
  have e:(s*((mulM' l:Nat):Int)).natAbs=mulM' l:=by rw[Int.natAbs_mul,Int.natAbs_natCast]; rcases hs with rfl|rfl <;> simp
  rw[e]
  rcases ZiF l with ⟨m1,_,_⟩|⟨m1,m2,m3⟩
  .rw[m1,Nat.gcd_one_left]
  rw[m1]
  rw[m2] at m3
  have hp:Nat.gcd 3 (gcdL (l.map uN)) ∣ 3:=Nat.gcd_dvd_left _ _
  have hle:=Nat.le_of_dvd (by decide) hp
  have h0:0<Nat.gcd 3 (gcdL (l.map uN)):=Nat.gcd_pos_of_pos_left _ (by decide)
  have hne3:Nat.gcd 3 (gcdL (l.map uN))≠3:=fun e=>m3 (by have:=Nat.gcd_dvd_right 3 (gcdL (l.map uN)); rw[e] at this; exact this)
  have hn2:Nat.gcd 3 (gcdL (l.map uN))≠2:=fun e=>by rw[e] at hp; exact absurd hp (by decide)
  omega
 have hm:=Zhd l
 have hlow:=ZgH (a:=s*((mulM' l:Nat):Int)) (d:=gcdL (l.map uN)) (by rcases hs with rfl|rfl <;> omega) (by rcases hs with rfl|rfl <;> omega) (by omega)
 rw[hg] at hlow
 refine⟨1,hsg,Cq.wp.no (by decide) ⟨1,hsg,Cq.wp.no (by decide) ⟨_,hlow,?_⟩⟩⟩
 show _=_
 simp
theorem ZlL{C:Int}(h:FacOk C){p:Pol}(hp:PolOk p):∀ x ∈ xsL C p,x≠0/\x.natAbs<50000:=fun x hx=>by
 obtain⟨t,ht,rfl⟩:=List.mem_map.1 hx
 obtain⟨_,n0,n1,n2⟩:=hp.num ht
 obtain⟨b0,_,_,b3⟩:=Zfm h n0 n1 n2
 exact⟨b0,b3⟩
theorem Zl4{C:Int}(h:FacOk C){p:Pol}(hp:PolOk p)(hne:0<p.length):p.map (fun t=>(⟨ratI ((if C*numC (p[0]'hne).c<0 then -1 else 1)*(C*numC t.c / ((gcdL (xsL C p):Nat):Int))),t.m⟩:Za))=primP p:=by
 have hE:gcdL (xsL C p)=C.natAbs*gcdTo p:=ZjN p C
 obtain⟨g1,_⟩:=Zc2 hp (List.length_pos_iff.1 hne)
 have n0:=(hp.num (List.getElem_mem hne)).2.1
 unfold primP
 refine List.map_congr_left fun t ht=>?_
 have hd:=Zer ht
 obtain⟨q,hq⟩:∃ q,numC t.c=(gcdTo p:Int)*q:=⟨numC t.c / (gcdTo p:Int),by have:=Int.mul_ediv_add_emod (numC t.c) (gcdTo p); omega⟩
 have key:(if C*numC (p[0]'hne).c<0 then (-1:Int) else 1)*(C*numC t.c / ((gcdL (xsL C p):Nat):Int))=sgnP p*(numC t.c / (gcdTo p:Int)):=by
  rw[hE,Zh7 hne,hq,Int.mul_ediv_cancel_left _ (by omega),Int.natCast_mul]
  rcases Int.lt_or_lt_of_ne h.1 with hc|hc
  .have e:C*((gcdTo p:Int)*q)=((C.natAbs:Int)*(gcdTo p:Int))*(-q):=by
    rw[show (C.natAbs:Int) = -C by omega,Int.mul_neg,Int.neg_mul,Int.neg_mul,Int.neg_neg,Int.mul_assoc]
   have ne:(C.natAbs:Int)*(gcdTo p:Int)≠0:=Int.mul_ne_zero (by omega) (by omega)
   rw[e,Int.mul_ediv_cancel_left _ ne]
   by_cases hn:numC (p[0]'hne).c<0
   .have:=Int.mul_pos_of_neg_of_neg hc hn
    rw[if_neg (by omega),if_pos hn]; omega
   have:=Int.mul_neg_of_neg_of_pos hc (show 0<numC (p[0]'hne).c by omega)
   rw[if_pos this,if_neg hn]; omega
  have e:C*((gcdTo p:Int)*q)=((C.natAbs:Int)*(gcdTo p:Int))*q:=by
   rw[show (C.natAbs:Int)=C by omega,Int.mul_assoc]
  have ne:(C.natAbs:Int)*(gcdTo p:Int)≠0:=Int.mul_ne_zero (by omega) (by omega)
  rw[e,Int.mul_ediv_cancel_left _ ne]
  by_cases hn:numC (p[0]'hne).c<0
  .have:=Int.mul_neg_of_pos_of_neg hc hn
   rw[if_pos this,if_pos hn]
  have:=Int.mul_pos hc (show 0<numC (p[0]'hne).c by omega)
  rw[if_neg (by omega),if_neg hn]
 unfold quoC
 rw[key]
theorem Zky{C:Int}(h:FacOk C){p:Pol}(hp:PolOk p)(hne:p≠[]):(ZaC (scl C p)).Ret (primP p):=by
 have hl:=hp.len
 have h0:0<p.length:=List.length_pos_iff.2 hne
 have hlen:(scl C p).length=p.length:=Zb1 _ _
 have hxl:(xsL C p).length=p.length:=List.length_map _
 refine Cq.wp.no (by omega) ⟨intI 0,Cq.Ret.Zo 20 (by decide +kernel),intI 1,Cq.Ret.Zo 20 (by decide +kernel),?_⟩
 show (ZcL (scl C p) (0,intI 0,intI 1)).wp _
 refine Cq.Zn p.length (fun k s=>s=((k:Int),intI ((gcdL (((xsL C p).take k).map uN):Nat):Int),intI ((mulM' ((xsL C p).take k):Nat):Int))) (fun k s hk hs=>?_) (fun s hs=>?_) rfl
 .subst hs
  have hk2:k<(scl C p).length:=by omega
  have hk3:k<(xsL C p).length:=by omega
  have ex:(xsL C p)[k]=C*numC p[k].c:=List.getElem_map _
  have hxs:=ZlL h hp
  have hb:=ZjM (l:=((xsL C p).take k).map uN) fun z hz=>by
   obtain⟨y,hy,rfl⟩:=List.mem_map.1 hz
   obtain⟨y0,y1⟩:=hxs y (List.mem_of_mem_take hy)
   obtain⟨u0,u1⟩:=ZeU y0
   exact⟨u0,by omega⟩
  obtain⟨x0,x1⟩:=hxs _ (List.getElem_mem hk3)
  obtain⟨u0,u1⟩:=ZeU x0
  have hgc:=ZgG (a:=((gcdL (((xsL C p).take k).map uN):Nat):Int)) (b:=uN (xsL C p)[k]) (by omega) (by omega)
  rw[Int.natAbs_natCast,<- Zk1] at hgc
  refine Cq.wp.yes (by omega) ⟨_,idxN hk2,?_⟩
  rw[Zhn hk2]
  dsimp only
  rw[Zes,<- ex]
  refine⟨_,hgc,?_⟩
  refine Zmf ((xsL C p).take k) (xsL C p)[k] ?_
  show _=_
  rw[wrapN (by omega),List.take_succ_eq_append_getElem hk3,List.map_append]
  rfl
 subst hs
 refine Cq.wp.no (by omega) ?_
 rw[show (xsL C p).take p.length=xsL C p by rw[<- hxl,List.take_length]]
 show (Z5 (scl C p) _ _).Ret _
 unfold Z5
 have hxs:=ZlL h hp
 obtain⟨e,n0,n1,n2⟩:=hp.num (List.getElem_mem h0)
 obtain⟨b0,b1,b2,_⟩:=Zfm h n0 n1 n2
 have h02:0<(scl C p).length:=by omega
 have hxne:xsL C p≠[]:=fun e=>by rw[e] at hxl; simp at hxl; omega
 refine⟨(scl C p)[0],⟨by omega,List.getElem?_eq_getElem h02⟩,?_⟩
 rw[Zhn h02]
 refine⟨_,Zh5 b0,?_⟩
 have hfin:=Zl4 h hp h0
 have main:∀ s:Int,(s=1\/s = -1)->s=(if C*numC p[0].c<0 then -1 else 1)->(ZbE (scl C p) (intI ((gcdL ((xsL C p).map uN):Nat):Int)) (intI (s*((mulM' (xsL C p):Nat):Int)))).Ret (primP p):=fun s hs he=>by
  rw[<- he] at hfin
  have hsg:∃ z,(ZA ⟨intI (s*((mulM' (xsL C p):Nat):Int)),intI ((gcdL ((xsL C p).map uN):Nat):Int)⟩).Ret z/\z≠0:=by
   refine⟨_,⟨_,Zd2 (x:=s*((mulM' (xsL C p):Nat):Int)) ?_,rfl⟩,by split <;> decide⟩
   rcases Zhd (xsL C p) with hm|hm <;> rw[hm] <;> rcases hs with rfl|rfl <;> decide
  obtain⟨z,hz,z0⟩:=hsg
  have ht:=Zez (p:=scl C p) (f:=fun r=>ratI (s*(xOf r / ((gcdL (xsL C p):Nat):Int)))) (by omega) (fun t ht=>by
   obtain⟨y,hy,rfl⟩:=List.mem_map.1 ht
   exact hp.mono y hy) hz z0 (fun t ht=>by
   obtain⟨y,hy,rfl⟩:=List.mem_map.1 ht
   have hyx:C*numC y.c ∈ xsL C p:=List.mem_map.2 ⟨y,hy,rfl⟩
   obtain⟨y0,y1⟩:=hxs _ hyx
   show (ZY _ (ratQ (C*numC y.c))).Ret (ratI (s*(xOf (ratQ (C*numC y.c)) / _)))
   rw[Zjh]
   exact ZlZ hyx y0 y1 hs)
  refine⟨_,ZmY hs hxne hxs,_,ht,?_⟩
  show _=_
  rw[<- hfin]
  unfold scl coefP
  rw[List.map_map]
  refine List.map_congr_left fun t _=>?_
  show (⟨ratI (s*(xOf (ratQ (C*numC t.c)) / _)),t.m⟩:Za)=_
  rw[Zjh]
 by_cases hneg:C*numC p[0].c<0
 .have hm:=main (-1) (.inr rfl) (by rw[if_pos hneg])
  have hng:(Za3 (intI ((mulM' (xsL C p):Nat):Int))).Ret (intI (-1*((mulM' (xsL C p):Nat):Int))):=by
   rcases Zhd (xsL C p) with e|e <;> rw[e]
   .exact neg13.1
   exact neg13.2
  exact Cq.wp.yes (by rw[if_pos hneg]; decide) ⟨_,hng,hm⟩
 have hm:=main 1 (.inl rfl) (by rw[if_neg hneg])
 rw[Int.one_mul] at hm
 exact Cq.wp.no (by rw[if_neg hneg]; decide) hm
theorem ZhD{C:Int}(h:FacOk C){p:Pol}(hp:PolOk p):NrmR (scl C p) p:=by
 have hlen:(scl C p).length=p.length:=Zb1 _ _
 have hl:=hp.len
 have hm:∀ t ∈ scl C p,Ok t.m:=fun t ht=>by
  obtain⟨y,hy,rfl⟩:=List.mem_map.1 ht
  exact hp.mono y hy
 have hdeg:degP (scl C p)=degP p:=by unfold degP scl; rw[Zb1,Zg3]
 have huse:usesP (scl C p)=usesP p:=by unfold usesP scl; rw[Zb1,Zf9]
 have hd:=ZlR (p:=scl C p) (by omega) hm
 have hu:=Zgr (p:=scl C p) (by omega)
 rw[hdeg] at hd
 rw[huse] at hu
 refine⟨hp,hlen,fun n=>⟨true,Zlu h hp,_,hu,by omega,?_⟩,hd,Zky h hp⟩
 by_cases hf:(Int.fdiv (i64.wrap (usesP p)) (2 ^ (min ((n:Nat):Int).toNat i64.bits)))=0
 .refine Cq.wp.yes hf ⟨_,hd,?_⟩
  show _=_
  unfold fitB
  rw[if_pos hf]
 refine Cq.wp.no hf ?_
 show _=_
 unfold fitB
 rw[if_neg hf]
end Go.EL

namespace Go.EL
open Go.IntKind (i8 i16 i32 i64 u8 u16 u32 u64)
open Go Go.RowKit
structure NrmL (l' l:List Pol):Prop where
 len:l'.length=l.length
 at':∀ k (h':k<l'.length) (h:k<l.length),NrmR l'[k] l[k]
theorem NrmL.append{a' a b' b:List Pol}(h1:NrmL a' a)(h2:NrmL b' b):NrmL (a'++b') (a++b) where
 len:=by rw[List.length_append,List.length_append,h1.len,h2.len]
 at':=fun k h' h=>by
  have e:=h1.len
  rw[List.getElem_append,List.getElem_append]
  by_cases hk:k<a.length
  .rw[dif_pos (show k<a'.length by omega),dif_pos hk]
   exact h1.at' k _ _
  rw[dif_neg (show ¬ k<a'.length by omega),dif_neg hk]
  have:=h2.at' (k-a'.length) (by rw[List.length_append] at h'; omega) (by rw[List.length_append] at h; omega)
  simp only[e] at this ⊢
  exact this
theorem NrmL.ok{l' l:List Pol}(h:NrmL l' l):∀ p ∈ l,PolOk p:=fun p hp=>by
 obtain⟨k,hk,rfl⟩:=List.getElem_of_mem hp
 exact (h.at' k (by rw[h.len]; exact hk) hk).ok
theorem NrmL.nil:NrmL [] []:=⟨rfl,fun k h=>absurd h (Nat.not_lt_zero _)⟩
theorem NrmL.cons{p' p:Pol}{l' l:List Pol}(h1:NrmR p' p)(h2:NrmL l' l):NrmL (p'::l') (p::l) where
 len:=by rw[List.length_cons,List.length_cons,h2.len]
 at':=fun k h' h=>by
  match k with
  | 0=>exact h1
  | k+1=>exact h2.at' k (by simpa using h') (by simpa using h)
theorem Zjr{n:Int}{eqs' neqs' eqs neqs:List Pol}(le:eqs.length<=40)(ln:neqs.length<=40)(hE:NrmL eqs' eqs)(hI:NrmL neqs' neqs):(ZQ n eqs' neqs').Ret (normF n eqs neqs):=by
 have he:=hE.ok
 have hn:=hI.ok
 have le':=hE.len
 have ln':=hI.len
 unfold normF
 by_cases h1:n<1
 .rw[if_neg (show ¬(1<=n/\n<=4) by omega)]; exact Cq.wp.yes h1 rfl
 refine Cq.wp.no h1 ?_
 by_cases h4:4<n
 .rw[if_neg (show ¬(1<=n/\n<=4) by omega)]; exact Cq.wp.yes h4 rfl
 refine Cq.wp.no h4 ?_
 rw[if_pos ⟨by omega,by omega⟩]
 obtain⟨m,rfl,m1,m4⟩:=Zhf ⟨show 1<=n by omega,by omega⟩
 have hR:=hE.append hI
 refine⟨eqs'++neqs',Zg4 (by omega) (by omega),?_⟩
 have hlen:(eqs++neqs).length<=100:=by rw[List.length_append]; omega
 generalize hl:eqs++neqs=l at *
 generalize hl':eqs'++neqs'=l' at *
 have hll:=hR.len
 refine (Zb8 (m:Int) l' (0,zeroK)).mono (p:=fun o=>match o with | .inl v=>v=(zeroK,1)/\(l.all fun p=>fitB p (m:Int))=false | .inr _=>(l.all fun p=>fitB p (m:Int))=true) (fun o h=>?_) (Cq.Zn l.length (fun k s=>s=((k:Int),zeroK)/\∀ i (h:i<l.length),i<k->fitB l[i] (m:Int)=true) ?_ ?_ ⟨rfl,fun i _ h=>absurd h (Nat.not_lt_zero _)⟩)
 rotate_left
 .rintro k s hk ⟨rfl,h1⟩
  refine Cq.wp.yes (by omega) ⟨_,idxN (by omega),_,(hR.at' k (by omega) hk).fits m,?_⟩
  by_cases hf:fitB l[k] (m:Int)=true
  .rw[hf]
   refine Cq.wp.no (by decide) ⟨by rw[wrapN (by omega)],fun i hi hik=>?_⟩
   by_cases e:i=k
   .subst e; exact hf
   exact h1 i hi (by omega)
  rw[Bool.eq_false_iff.2 hf]
  refine Cq.wp.yes (by decide) ⟨rfl,Bool.eq_false_iff.2 fun ha=>?_⟩
  exact hf (List.all_eq_true.1 ha _ (List.getElem_mem hk))
 .rintro s ⟨rfl,h1⟩
  refine Cq.wp.no (by omega) ?_
  refine List.all_eq_true.2 fun p hp=>?_
  obtain⟨i,hi,rfl⟩:=List.getElem_of_mem hp
  exact h1 i hi hi
 match o,h with
 | .inl v,⟨hv,hf⟩=>rw[hf,if_neg (by decide)]; exact hv
 | .inr _,ha=>
  rw[if_pos ha]
  show (Zap (m:Int) eqs' neqs').Ret _
  refine Cq.Zn eqs.length (fun k s=>s=(kept (eqs.take k) false,(k:Int))) (fun k s hk hs=>?_) (fun s hs=>?_) rfl
  .subst hs
   have hr:=hE.at' k (by omega) hk
   have hrl:=hr.len
   refine Cq.wp.yes (by omega) ⟨_,idxN (show k<eqs'.length by omega),?_⟩
   have hs:=Zc5 eqs false hk
   have:=Zad (eqs.take k) false
   rw[List.length_take] at this
   by_cases h0:eqs[k]=[]
   .refine Cq.wp.no (by rw[h0] at hrl; rw[hrl]; decide) ?_
    show _=_
    rw[hs,h0,if_neg (by decide),List.append_nil,wrapN (by omega)]
   have hp:0<eqs[k].length:=List.length_pos_iff.2 h0
   refine Cq.wp.yes (by omega) ⟨_,hr.nrm h0,?_,?_⟩
   .rw[List.length_append,List.length_singleton]; simp only[small]; omega
   show _=_
   have hk:keepP false (primP eqs[k])=true:=by
    have:(primP eqs[k]).isEmpty=false:=by simpa using fun e=>h0 (ZcP.1 e)
    unfold keepP; rw[this]; rfl
   rw[hs,hk,if_pos rfl,wrapN (by omega)]
  subst hs
  refine Cq.wp.no (by omega) ?_
  rw[List.take_of_length_le (Nat.le_refl _)]
  show (Zao (m:Int) neqs' (kept eqs false)).Ret _
  refine Cq.Zn neqs.length (fun k s=>s=(kept eqs false++onesF (neqs.take k),kept (neqs.take k) true,(k:Int))) (fun k s hk hs=>?_) (fun s hs=>?_) (by show _=_; rw[List.take_zero]; show _=(kept eqs false++[],_,_); rw[List.append_nil]; rfl)
  .subst hs
   have hs:=Zc5 neqs true hk
   have ho:=Zhg neqs hk
   have l1:=Zad (neqs.take k) true
   have l2:=Zad eqs false
   have l3:=ZgE (neqs.take k)
   rw[List.length_take] at l1 l3
   have hr:=hI.at' k (by omega) hk
   have hrl:=hr.len
   refine Cq.wp.yes (by omega) ⟨_,idxN (show k<neqs'.length by omega),?_⟩
   by_cases h0:neqs[k]=[]
   .refine Cq.wp.yes (by rw[h0] at hrl; rw[hrl]; rfl) ⟨_,pWhole1,_,pConst1,?_,?_⟩
    .rw[List.length_append,List.length_append,List.length_singleton]; simp only[small]; omega
    show _=_
    rw[hs,ho,h0,if_pos rfl,if_neg (by decide),List.append_nil,wrapN (by omega),List.append_assoc]
   have hp:0<neqs[k].length:=List.length_pos_iff.2 h0
   have hok:=hn _ (List.getElem_mem hk)
   have hne:(primP neqs[k]).isEmpty=false:=by simpa using fun e=>h0 (ZcP.1 e)
   have hnn:=Zdq hok h0
   refine Cq.wp.no (by omega) ⟨_,hr.deg,?_⟩
   by_cases hd:0<degP neqs[k]
   .refine Cq.wp.yes hd ⟨_,hr.nrm h0,?_,?_⟩
    .rw[List.length_append,List.length_singleton]; simp only[small]; omega
    show _=_
    have hk:keepP true (primP neqs[k])=true:=by unfold keepP; rw[hne,Zbr,decide_eq_false (by omega)]; rfl
    rw[hs,ho,if_neg h0,hk,if_pos rfl,wrapN (by omega),List.append_nil]
   refine Cq.wp.no hd ?_
   show _=_
   have hk:keepP true (primP neqs[k])=false:=by unfold keepP; rw[Zbr,decide_eq_true (by omega)]; simp
   rw[hs,ho,if_neg h0,hk,if_neg (by decide),wrapN (by omega),List.append_nil,List.append_nil]
  subst hs
  refine Cq.wp.no (by omega) ?_
  rw[List.take_of_length_le (Nat.le_refl _)]
  show (Zan (m:Int) (eqsF eqs neqs) (kept neqs true)).Ret _
  have l1:=Zgv eqs neqs
  have l2:=Zad neqs true
  refine⟨_,ZcW (by omega) (ZfR he),_,ZcW (by omega) (Zc4 hn),?_⟩
  by_cases q1:12<(srtP (eqsF eqs neqs)).length
  .rw[if_pos q1]; exact Cq.wp.yes (by omega) rfl
  rw[if_neg q1]
  refine Cq.wp.no (by omega) ?_
  by_cases q2:12<(srtP (kept neqs true)).length
  .rw[if_pos q2]; exact Cq.wp.yes (by omega) rfl
  rw[if_neg q2]; exact Cq.wp.no (by omega) rfl
theorem ZhT{n least:Int}{l:List Pol}(h:PartOk n least l){plain:Bool}(hp:plain=true->1<=least):kept l plain=l:=by
 have e:l.map primP=l:=(List.map_congr_left fun p hp=>(h.pol p hp).2.2.2.1).trans (List.map_id _)
 unfold kept
 rw[e]
 refine List.filter_eq_self.2 fun p hpl=>?_
 obtain⟨q1,q2,q3,q4,q5⟩:=h.pol p hpl
 have hne:p.isEmpty=false:=by simpa using q3
 unfold keepP
 rw[hne]
 cases plain with
 | false=>rfl
 | true=>
  have:=hp rfl
  rw[decide_eq_false (by omega)]; rfl
theorem ZmB{l:List Pol}(h:Strict l)(hg:∀ p ∈ l,goodP p=true):srtP l=l:=(Zja hg h fun _=>Iff.rfl).symm
theorem ZiX{n least:Int}{l:List Pol}(h:PartOk n least l):srtP l=l:=ZmB h.st fun p hp=>(h.pol p hp).1.good
theorem Zlg{k:Ze}(h:CoreOk k):normF k.n k.eqs k.neqs=(k,0):=by
 have ha:(k.eqs++k.neqs).all (fun p=>fitB p k.n)=true:=List.all_eq_true.2 fun p hp=>(List.mem_append.1 hp).elim (fun h'=>(h.eqs.pol p h').2.1) (fun h'=>(h.neqs.pol p h').2.1)
 have e1:eqsF k.eqs k.neqs=k.eqs:=by
  unfold eqsF
  rw[ZfC (fun p hp=>(h.neqs.pol p hp).2.2.1),List.append_nil,ZhT h.eqs (fun e=>by cases e)]
 have e2:kept k.neqs true=k.neqs:=ZhT h.neqs (fun _=>Int.le_refl 1)
 have l1:=h.eqs.len
 have l2:=h.neqs.len
 unfold normF
 rw[if_pos h.n,if_pos ha,e1,e2,ZiX h.eqs,ZiX h.neqs,if_neg (by omega),if_neg (by omega)]
def twice:List Pol->List Pol
 | []=>[]
 | p::l=>twice l++[p,p]
theorem Zia{l:List Pol}{p:Pol}:p ∈ twice l↔p ∈ l:=by
 induction l with
 | nil=>exact Iff.rfl
 | cons q l ih=>
  simp only[twice,List.mem_append,List.mem_cons,List.not_mem_nil,or_false,ih]
  constructor
  .rintro (h|h|h)
   .exact .inr h
   .exact .inl h
   exact .inl h
  rintro (h|h)
  .exact .inr (.inl h)
  exact .inl h
theorem ZfK:∀ l:List Pol,(twice l).length=2*l.length
 | []=>rfl
 | p::l=>by
  have:=ZfK l
  simp only[twice,List.length_append,List.length_cons,List.length_nil]
  omega
theorem Zmk{n:Int}{a b a' b':List Pol}(ha:∀ p ∈ a,PolOk p)(hb:∀ p ∈ b,PolOk p)(h1:∀ p,p ∈ a'↔p ∈ a)(h2:∀ p,p ∈ b'↔p ∈ b):normF n a' b'=normF n a b:=by
 have k1:∀ {x y:List Pol}{plain:Bool},(∀ p,p ∈ x↔p ∈ y)->∀ z,z ∈ kept x plain↔z ∈ kept y plain:=fun {x y plain} h z=>by
  unfold kept
  simp only[List.mem_filter,List.mem_map]
  constructor
  .rintro⟨⟨p,hp,rfl⟩,h'⟩; exact⟨⟨p,(h p).1 hp,rfl⟩,h'⟩
  rintro⟨⟨p,hp,rfl⟩,h'⟩; exact⟨⟨p,(h p).2 hp,rfl⟩,h'⟩
 have k2:∀ z,z ∈ onesF b'↔z ∈ onesF b:=fun z=>by
  unfold onesF
  simp only[List.mem_map,List.mem_filter]
  constructor
  .rintro⟨p,⟨hp,h'⟩,e⟩; exact⟨p,⟨(h2 p).1 hp,h'⟩,e⟩
  rintro⟨p,⟨hp,h'⟩,e⟩; exact⟨p,⟨(h2 p).2 hp,h'⟩,e⟩
 have ha':∀ p ∈ a',PolOk p:=fun p hp=>ha p ((h1 p).1 hp)
 have hb':∀ p ∈ b',PolOk p:=fun p hp=>hb p ((h2 p).1 hp)
 have s1:srtP (eqsF a' b')=srtP (eqsF a b):=by
  obtain⟨x1,x2⟩:=ZeT (l:=eqsF a' b') fun p hp=>(ZfR ha' p hp).good
  refine Zja (fun p hp=>(ZfR ha p hp).good) x1 fun z=>?_
  rw[x2 z]
  unfold eqsF
  rw[List.mem_append,List.mem_append,k1 h1 z,k2 z]
 have s2:srtP (kept b' true)=srtP (kept b true):=by
  obtain⟨x1,x2⟩:=ZeT (l:=kept b' true) fun p hp=>(Zc4 hb' p hp).good
  refine Zja (fun p hp=>(Zc4 hb p hp).good) x1 fun z=>?_
  rw[x2 z,k1 h2 z]
 have s3:(a'++b').all (fun p=>fitB p n)=(a++b).all (fun p=>fitB p n):=by
  rw[Bool.eq_iff_iff,List.all_eq_true,List.all_eq_true]
  simp only[List.mem_append]
  constructor
  .intro h p hp; exact h p (hp.elim (fun x=>.inl ((h1 p).2 x)) (fun x=>.inr ((h2 p).2 x)))
  intro h p hp; exact h p (hp.elim (fun x=>.inl ((h1 p).1 x)) (fun x=>.inr ((h2 p).1 x)))
 unfold normF
 rw[s1,s2,s3]
theorem ZhW{C:Int}(h:FacOk C):∀ {l:List Pol},(∀ p ∈ l,PolOk p)->NrmL ((l.foldr (fun p acc=>acc++[scl C p,p]) [])) (twice l)
 | [],_=>NrmL.nil
 | p::l,hp=>(ZhW h (l:=l) fun q hq=>hp q (by simp[hq])).append (.cons (ZhD h (hp p (by simp))) (.cons (.refl (hp p (by simp))) .nil))
theorem Zhh{C:Int}(h:FacOk C):∀ {l:List Pol},(∀ p ∈ l,PolOk p)->NrmL ((l.foldr (fun p acc=>acc++[scl C p,scl C p]) [])) (twice l)
 | [],_=>NrmL.nil
 | p::l,hp=>(Zhh h (l:=l) fun q hq=>hp q (by simp[hq])).append (.cons (ZhD h (hp p (by simp))) (.cons (ZhD h (hp p (by simp))) .nil))
def downE(C:Int)(l:List Pol):List Pol:=l.foldr (fun p acc=>acc++[scl C p,p]) []
def downI(C:Int)(l:List Pol):List Pol:=l.foldr (fun p acc=>acc++[scl C p,scl C p]) []
theorem ZhP(C:Int)(l:List Pol){k:Nat}(hk:k<l.length):downE C (l.drop k)=downE C (l.drop (k+1))++[scl C l[k],l[k]]/\downI C (l.drop k)=downI C (l.drop (k+1))++[scl C l[k],scl C l[k]]:=by
 rw[List.drop_eq_getElem_cons hk]
 exact⟨rfl,rfl⟩
theorem Zgu(C:Int):∀ l:List Pol,(downE C l).length=2*l.length/\(downI C l).length=2*l.length
 | []=>⟨rfl,rfl⟩
 | p::l=>by
  obtain⟨h1,h2⟩:=Zgu C l
  constructor
  .show (downE C l++[_,_]).length=_
   rw[List.length_append,h1,List.length_cons]; simp; omega
  show (downI C l++[_,_]).length=_
  rw[List.length_append,h2,List.length_cons]; simp; omega
theorem wrapM{k:Nat}(h:k<1000000):i64.wrap ((k:Int)-1)=(k:Int)-1:=wrap64 (by omega)
theorem Zk8{C:Int}(h:FacOk C){s:Zm}(hs:Good s)(hl:s.eqs.length+s.neqs.length<=6){k:Ze}(hk:CoreOk k)(hn:normF k.n (s.eqs.map (·.p)) (s.neqs.map (·.p))=(k,0)):(Zah true s (k,0) (k,0) (ratQ C)).Ret true:=by
 obtain⟨p1,p2⟩:=hs.polys
 have fin:(Zaf true (k,0) (k,0) (downE C (s.eqs.map (·.p))) (downI C (s.neqs.map (·.p)))).Ret true:=by
  have e:=Zmk (n:=k.n) p1 p2 (a':=twice (s.eqs.map (·.p))) (b':=twice (s.neqs.map (·.p))) (fun p=>Zia) (fun p=>Zia)
  have hr:=Zjr (n:=k.n) (eqs':=downE C (s.eqs.map (·.p))) (neqs':=downI C (s.neqs.map (·.p))) (by rw[ZfK,List.length_map]; omega) (by rw[ZfK,List.length_map]; omega) (ZhW h p1) (Zhh h p2)
  rw[e,hn] at hr
  have hw:=hk.writ
  exact⟨(k,0),hr,Cq.wp.yes rfl (Cq.wp.yes rfl ⟨true,Zi8 hw hw rfl,true,Zi8 hw hw rfl,rfl⟩)⟩
 have neqsL:(Zag true s (k,0) (k,0) (ratQ C) (downE C (s.eqs.map (·.p)))).Ret true:=by
  show (Zcn s (ratQ C) _).wp _
  rw[wrapM (by omega)]
  refine Cq.Zn s.neqs.length (fun j st=>st=(downI C ((s.neqs.map (·.p)).drop (s.neqs.length-j)),((s.neqs.length-j:Nat):Int)-1)) (fun j st hj hst=>?_) (fun st hst=>?_) (by
   show _=_
   rw[Nat.sub_zero,List.drop_eq_nil_of_le (by rw[List.length_map]; exact Nat.le_refl _)]
   rfl)
  .subst hst
   obtain⟨i,hi⟩:∃ i,s.neqs.length-j=i+1:=⟨s.neqs.length-j-1,by omega⟩
   have hi2:s.neqs.length-(j+1)=i:=by omega
   have hik:i<s.neqs.length:=by omega
   have him:i<(s.neqs.map (·.p)).length:=by rw[List.length_map]; exact hik
   rw[hi,hi2,show (((i+1:Nat):Int)-1)=(i:Int) by omega]
   have hd:=(ZhP C (s.neqs.map (·.p)) him).2
   have hge:(s.neqs.map (·.p))[i]=s.neqs[i].p:=List.getElem_map _
   have hlen:=(Zgu C ((s.neqs.map (·.p)).drop (i+1))).2
   rw[List.length_drop,List.length_map] at hlen
   refine Cq.wp.yes (by omega) ⟨_,idxN hik,_,ZjX h (hs.neqs.pol _ (List.getElem_mem hik)).1,?_,?_⟩
   .simp only[List.length_append,List.length_cons,List.length_nil,small]; omega
   show _=_
   rw[hd,hge,wrapM (by omega)]
  subst hst
  refine Cq.wp.no (by omega) ?_
  rw[Nat.sub_self,List.drop_zero]
  exact fin
 show (Zco s (ratQ C) _).wp _
 rw[wrapM (by omega)]
 refine Cq.Zn s.eqs.length (fun j st=>st=(downE C ((s.eqs.map (·.p)).drop (s.eqs.length-j)),((s.eqs.length-j:Nat):Int)-1)) (fun j st hj hst=>?_) (fun st hst=>?_) (by
  show _=_
  rw[Nat.sub_zero,List.drop_eq_nil_of_le (by rw[List.length_map]; exact Nat.le_refl _)]
  rfl)
 .subst hst
  obtain⟨i,hi⟩:∃ i,s.eqs.length-j=i+1:=⟨s.eqs.length-j-1,by omega⟩
  have hi2:s.eqs.length-(j+1)=i:=by omega
  have hik:i<s.eqs.length:=by omega
  have him:i<(s.eqs.map (·.p)).length:=by rw[List.length_map]; exact hik
  rw[hi,hi2,show (((i+1:Nat):Int)-1)=(i:Int) by omega]
  have hd:=(ZhP C (s.eqs.map (·.p)) him).1
  have hge:(s.eqs.map (·.p))[i]=s.eqs[i].p:=List.getElem_map _
  have hlen:=(Zgu C ((s.eqs.map (·.p)).drop (i+1))).1
  rw[List.length_drop,List.length_map] at hlen
  refine Cq.wp.yes (by omega) ⟨_,idxN hik,_,ZjX h (hs.eqs.pol _ (List.getElem_mem hik)).1,_,idxN hik,?_,?_⟩
  .simp only[List.length_append,List.length_cons,List.length_nil,small]; omega
  show _=_
  rw[hd,hge,wrapM (by omega)]
 subst hst
 refine Cq.wp.no (by omega) ?_
 rw[Nat.sub_self,List.drop_zero]
 exact neqsL
theorem ZgX{x:Zp}{c:Int}(hx:Raw32Ok x)(hc:-128<=c/\c<=127):(Zdi x c).Ret true:=by
 obtain⟨hg,hl⟩:=Zkk hx
 obtain⟨e,hk⟩:=Zl0 hg (by omega)
 have h0:(coreF (madeS32 x)).2=0:=by rw[e]
 refine⟨true,ZiG,Cq.wp.no (by decide) ⟨_,Zj1 hx,_,ZlO hg,Cq.wp.no (fun h=>h h0) ⟨true,ZgY hk,Cq.wp.no (by decide) ?_⟩⟩⟩
 have hn:normF (coreF (madeS32 x)).1.n ((madeS32 x).eqs.map (·.p)) ((madeS32 x).neqs.map (·.p))=coreF (madeS32 x):=by
  have:(coreF (madeS32 x)).1.n=varN (madeS32 x):=by rw[e]
  rw[this]
  rfl
 have hp:coreF (madeS32 x)=((coreF (madeS32 x)).1,0):=by rw[<- h0]
 rw[hp] at hn ⊢
 dsimp only at hn
 generalize (coreF (madeS32 x)).1=k at *
 have l1:=hk.eqs.len
 have l2:=hk.neqs.len
 have hown:=Zef (n:=k.n) (eqs:=k.eqs) (neqs:=k.neqs) (by omega) (by omega) (fun p hp=>(hk.eqs.pol p hp).1) (fun p hp=>(hk.neqs.pol p hp).1)
 rw[Zlg hk] at hown
 refine⟨_,hown,_,ZM (Zy Zlr hc.1 hc.2),?_⟩
 by_cases hc0:c=0
 .refine Cq.wp.yes hc0 ⟨ratQ (-3),Cq.Ret.Zo 20 (by decide +kernel),?_⟩
  exact Zk8 ⟨by decide,by decide,by decide⟩ hg hl hk hn
 refine Cq.wp.no hc0 ?_
 exact Zk8 ⟨hc0,hc.1,by omega⟩ hg hl hk hn
end Go.EL

