/- The law SystemRenamed holds for every input: a part of its proof (what the code does, plain models, and what they return). No condition. -/
import Derived.Test.YtoakocgcakgpnaaGreatXR13e
set_option linter.unusedVariables false
set_option linter.unusedSimpArgs false
namespace Go.Proofs.YtoakocgcakgpnaaGreat
open Go.IntKind (i8 i16 i32 i64 u8 u16 u32 u64)
open Go.Proofs.Tryz
open Go Go.EL Go.RowKit Go.Proofs
abbrev pmv(f:Fin 8->Int):Array Value:=(vecG (Value.int .i64) 8 f).toArray
theorem Zer(f:Fin 8->Int){k:Nat}(h:k<8):(pmv f)[k]? = some (.int .i64 (getF f (k:Int))):=ZgI (Value.int .i64) 8 f (i:=(k:Int)) ⟨by omega,by omega⟩
theorem Zlj(b lo len cap:Nat)(f:Fin 8->Int)(h:lo+len<=8):CtrL prog 107 #[.slice (some ⟨b,lo,none⟩) len cap] [(9003,some ⟨b,.cells (pmv f) 44 (0,0),0⟩)] (fun _=>True)
    (fun _ L v=>v = .tuple #[]/\L=[(9003,some ⟨b,.cells (pmv (revF f lo len (len / 2))) 44 (0,0),0⟩)]):=by
  refine CtrL.enter (args:=[_]) (N:=28) func107 rfl rfl rfl (fun w0 G0 hL0 _=>?_)
  have hw0:i64.wrap ((len:Int)-1)=(len:Int)-1-((0:Nat):Int):=by rw[IntKind.wrap_i64]; omega
  refine sr<|mv rfl rfl<|yy (Y0.lenC underlying156 rfl) rfl<|yy (Y0.sub rfl rfl) rfl<|sg rfl rfl<|sg rfl rfl<|nx<|WC.block ?_
  refine WC.loopH (X:=Nat) (fun k=>[(0,.slice (some ⟨b,lo,none⟩) len cap),(2,.int .i64 (k:Int)),(3,.int .i64 ((len:Int)-1-(k:Int)))])
    (fun k=>k<=len / 2) (fun k=>St w0 G0 G0 [(9003,some ⟨b,.cells (pmv (revF f lo len k)) 44 (0,0),0⟩)]) (fun k=>len-k) 0 (fc rfl (fc rfl (fc (by show some (Value.int .i64 (i64.wrap ((len:Int)-1)))=_; rw[hw0]) fn))) (Nat.zero_le _) (fun w hs=>hs) ?_
  intro k hk
  refine WC.seq<|sr<|mv rfl rfl<|mv rfl rfl<|yy (Y0.lss rfl rfl) rfl<|nx ?_
  refine WC.condD (p:=(k:Int)<(len:Int)-1-(k:Int)) rfl (fun hc=>?_) (fun hc=>?_)
  . have ej:(len:Int)-1-(k:Int)=((len-1-k:Nat):Int):=by omega
    have hw1:i64.wrap ((k:Int)+1)=((k+1:Nat):Int):=by rw[IntKind.wrap_i64]; omega
    have hw2:i64.wrap (((len-1-k:Nat):Int)-1)=(len:Int)-1-((k+1:Nat):Int):=by rw[IntKind.wrap_i64]; omega
    rw[ej]
    generalize hg:revF f lo len k=g
    refine WC.skip<|WE.then<|WC.seq<|WC.block ?_
    refine WC.drawn [false,false,true,true,false,false,false,false,false,false,false,false,false] mix (by kernel_rfl) (fun hb=>?_)
    refine cn (fun _ hle=>Y0.move rfl)<|cn (fun _ hle=>Y0.move rfl)<|Chain.float Ze (Y0.move rfl)<|Chain.float Ze (Y0.move rfl)<|cn (fun _ hle=>Y0.move rfl)<|cn (fun _ hle=>Y0.move rfl) ?_
    refine cn (fun _ hle=>Y0.idxSlN underlying156 sz3 rfl rfl (show len-1-k<len by omega))<|cn (fun _ hle=>Y0.loadL 9003 sc3 rfl rfl (by rw[Nat.mul_one]; exact Zer g (show lo+(len-1-k)<8 by omega))) ?_
    refine cn (fun _ hle=>Y0.move rfl)<|cn (fun _ hle=>Y0.move rfl)<|cn (fun _ hle=>Y0.idxSlN underlying156 sz3 rfl rfl (show k<len by omega))<|cn (fun _ hle=>Y0.loadL 9003 sc3 rfl rfl (by rw[Nat.mul_one]; exact Zer g (show lo+k<8 by omega))) ?_
    refine cn (fun _ hle=>Y0.idxSlN underlying156 sz3 rfl rfl (show k<len by omega))<|Chain.tail0 hb ?_
    refine WL.storeL 9003 (pmv (setF g (lo+k) (getF g ((lo+(len-1-k):Nat):Int)))) Ze sz3 rfl rfl rfl (by rw[Nat.mul_one,Zz]; omega) rfl (by rw[Nat.mul_one]; exact ZcT _ _ _ _ _) ?_
    refine yy (Y0.idxSlN underlying156 sz3 rfl rfl (show len-1-k<len by omega)) rfl ?_
    refine WL.storeL 9003 (pmv (swF g (lo+k) (lo+(len-1-k)))) Ze sz3 rfl rfl rfl (by rw[Nat.mul_one,Zz]; omega) rfl (by rw[Nat.mul_one]; exact ZcT _ _ _ _ _) ?_
    refine WL.nil<|WE.nx<|WE.inBlock<|WE.then<|WC.region<|mv rfl rfl<|yy (Y0.add rfl rfl) rfl<|mv rfl rfl<|yy (Y0.sub rfl rfl) rfl ?_
    rw[hw1,hw2]
    refine sg rfl rfl<|sg rfl rfl<|WL.nil<|WE.backH (x:=k) (k+1) (by omega) (fc rfl (fc rfl (fc rfl fn))) (fun w hs=>hs.weaken ?_) (by show len-(k+1)<len-k; omega)
    show Lo.sub [(9003,some ⟨b,.cells (pmv (swF (revF f lo len k) (lo+k) (lo+(len-1-k)))) 44 (0,0),0⟩)] _
    rw[hg]
    exact lc rfl ln
  have:k=len / 2:=by omega
  subst this
  exact WC.exit<|WE.thenExit<|WE.thenExit<|WE.exitHere<|WE.retN<|WE.ret0 rfl ⟨rfl,rfl⟩
theorem ZmW(n:Int):Ctr prog 54 #[.int .i64 n] (fun _=>True) (fun G v=>∃ b,v = .func (.func 106) #[] #[.pointer (some ⟨b,0,none⟩)]/\G b 0=some (.int .i64 n)):=by
  refine Ctr.enter (args:=[_]) (N:=4) func54 rfl rfl rfl (fun w0 G0 hL0 _=>?_)
  refine sr<|WL.boxF 1 rfl Ze rfl rfl (fun b=>?_)
  refine sg rfl rfl<|WL.nil<|WE.then ?_
  refine WC.knowBox 1 rfl (by rw[hL0]; rfl) (fun G1 hle hk _=>?_)
  refine sr<|yy (Y0.makeFunc rfl rfl) rfl<|sg rfl rfl<|nx<|WC.ret ?_
  exact WE.ret1 rfl rfl ⟨_,rfl,hk 0 _ rfl⟩
theorem Zlv{n:Nat}(h1:1<=n)(h4:n<=4){j:Nat}{p:Fin 8->Int}(h:(permsL n)[j]? = some p):(permsL n)[j+1]? = nextF n p:=by
  have key:∀ n:Fin 4,∀ j:Fin 24,(match (permsL (n.val+1))[j.val]? with|some p=>decide ((permsL (n.val+1))[j.val+1]? = nextF (n.val+1) p)|none=>true)=true:=by decide +kernel
  have hl:∀ n:Fin 4,(permsL (n.val+1)).length<=24:=by decide +kernel
  obtain⟨m,rfl⟩:∃ m,n=m+1:=⟨n-1,by omega⟩
  have hj:j<24:=Nat.lt_of_lt_of_le (List.getElem?_eq_some_iff.1 h).1 (hl ⟨m,by omega⟩)
  have:=key ⟨m,by omega⟩ ⟨j,hj⟩
  dsimp only at this
  rw[h] at this
  exact of_decide_eq_true this
def EM(n:Nat)(j:Nat)(u:Value)(_:Mem):Prop:=∃ p,(permsL n)[j]? = some p/\u = .agg (pmv p)
theorem ZiI{p:Fin 8->Int}:∀ {k i:Nat},ascF p k=some i->i<k/\getF p (i:Int)<=getF p ((i+1:Nat):Int)
  | 0,_,h=>by cases h
  | k+1,i,h=>by
    unfold ascF at h
    split at h
    . obtain⟨h1,h2⟩:=ZiI h
      exact⟨by omega,h2⟩
    cases h
    exact⟨Nat.lt_succ_self _,by omega⟩
theorem Zl4(b n:Nat)(h1:1<=n)(h4:n<=4):IterOk prog 106 #[.pointer (some ⟨b,0,none⟩)] (permsL n).length (EM n) (fun G=>G b 0=some (.int .i64 (n:Int))):=by
  intro σ yl I Lc pre hlow hmono hY s0 hI0 hz
  refine CtrL.enter (args:=[_,_]) (N:=61) func106 rfl rfl rfl (fun w0 G0 hL0 hp=>?_)
  obtain⟨hb,hpre⟩:=hp
  have hz0:w0.L.zero:=by rw[hL0]; exact hz
  have hno:∀ (s:σ) (x:Option Ow),Lo.sub (Lc s) ((9003,x)::Lc s):=fun s x i z h=>by
    rw[Lo.Zi,if_neg (fun e=>by rw[<- e,hlow s 9003 (by omega)] at h; cases h)]; exact h
  have hsub2:∀ (s:σ) (x:Option Ow) (R:Lo),Lo.sub ((9003,x)::Lc s) ((9003,x)::((9003,R.get 9003)::Lc s)):=fun s x R i z hz=>by
    rw[Lo.Zi] at hz ⊢
    split at hz
    . rename_i e; rw[if_pos e]; exact hz
    rename_i e; rw[if_neg e,Lo.Zi,if_neg e]; exact hz
  refine sr<|WL.alloc 9003 Ze z44 rfl (fun b3=>?_)
  refine nx<|WC.seq<|sr<|mv rfl rfl<|nx<|WC.block ?_
  refine WC.loopH (X:=Nat) (fun k=>[(0,.func (.yield yl) #[] #[]),(1,.pointer (some ⟨b,0,none⟩)),(3,.pointer (some ⟨b3,0,none⟩)),(7,.int .i64 (k:Int))])
    (fun k=>k<=8) (fun k=>St w0 G0 G0 ((9003,some ⟨b3,.cells (pmv (fun i=>if i.val<k then (i.val:Int) else 0)) 44 (0,0),0⟩)::Lc s0)) (fun k=>8-k) 0 (fc rfl (fc rfl (fc rfl (fc rfl fn)))) (by omega) (fun w hs=>hs) ?_
  . intro k hk
    refine sr<|yy (Y0.lss rfl rfl) rfl<|nx<|WC.seq ?_
    refine WC.condD (p:=(k:Int)<8) rfl (fun hc=>?_) (fun hc=>?_)
    . have hw:i64.wrap ((k:Int)+1)=((k+1:Nat):Int):=by rw[IntKind.wrap_i64]; omega
      have hst:setF (fun i:Fin 8=>if i.val<k then (i.val:Int) else 0) k (k:Int)=fun i=>if i.val<k+1 then (i.val:Int) else 0:=by
        funext i
        show (if i.val=k then (k:Int) else if i.val<k then (i.val:Int) else 0)=if i.val<k+1 then (i.val:Int) else 0
        by_cases e:i.val=k
        . rw[if_pos e,if_pos (by omega),e]
        rw[if_neg e]
        by_cases e2:i.val<k
        . rw[if_pos e2,if_pos (by omega)]
        rw[if_neg e2,if_neg (by omega)]
      refine WC.skip<|WE.then<|WC.seq<|WC.block<|sr<|mv rfl rfl<|sg rfl rfl<|nx<|WC.region<|mv rfl rfl<|mv rfl rfl<|yy (Y0.idxA0 underlying44 sz3 rfl rfl ⟨by omega,by omega⟩) rfl ?_
      refine WL.storeL 9003 (pmv (fun i=>if i.val<k+1 then (i.val:Int) else 0)) Ze sz3 rfl rfl rfl (by rw[Zz]; omega) rfl (by rw[<- hst]; exact ZcT _ _ _ _ _) ?_
      refine WL.nil<|WE.inBlock<|WE.then<|WC.region<|yy (Y0.add rfl rfl) rfl ?_
      rw[hw]
      exact mv rfl rfl<|WL.nil<|WE.backH (x:=k) (k+1) (by omega) (fc rfl (fc rfl (fc rfl (fc rfl fn)))) (fun w hs=>hs.weaken (hsub2 s0 _ [(9003,_)])) (by show 8-(k+1)<8-k; omega)
    have:k=8:=by omega
    subst this
    refine WC.exit<|WE.thenExit<|WE.thenExit<|WE.exitHere<|WE.then<|WC.block ?_
    have hid:(fun i:Fin 8=>if i.val<8 then (i.val:Int) else 0)=fun i=>(i.val:Int):=by funext i; rw[if_pos i.isLt]
    rw[hid]
    have hp0:(permsL n)[0]? = some fun i=>(i.val:Int):=rfl
    refine WC.loopH (X:=Nat×(Fin 8->Int)×σ×Mem) (fun gx=>[(0,.func (.yield yl) #[] #[]),(1,.pointer (some ⟨b,0,none⟩)),(3,.pointer (some ⟨b3,0,none⟩))])
      (fun gx=>match gx with|⟨j,p,s,G⟩=>(permsL n)[j]? = some p/\I j s/\Mem.le G0 G/\pre s G) (fun gx=>match gx with|⟨j,p,s,G⟩=>St w0 G0 G ((9003,some ⟨b3,.cells (pmv p) 44 (0,0),0⟩)::Lc s)) (fun gx=>(permsL n).length-gx.1) ⟨0,_,s0,G0⟩ (fc rfl (fc rfl (fc rfl fn))) ⟨hp0,hI0,Mem.le_refl _,hpre⟩ (fun w hs=>hs) ?_
    rintro⟨j,p,s,G⟩ ⟨hpj,hI,hle,hp⟩
    dsimp only at hpj hI hle hp ⊢
    have hjl:j<(permsL n).length:=(List.getElem?_eq_some_iff.1 hpj).1
    have hch:=Zlv h1 h4 hpj
    refine WC.seq<|WC.seq<|WC.regionI<|WLI.y0 Ze (Y0.move rfl) (fun c h=>by cases h) rfl<|WLI.y0 Ze (Y0.loadLA 9003 ag44 rfl rfl (Zz _ _ _)) (fun c h=>by cases h) rfl ?_
    refine WLI.callZ (R:=[(9003,_)]) Ze rfl rfl rfl (hY j _ s hjl hI) ⟨hp,p,hpj,rfl⟩ hz0 (fun i hi=>by simp only[List.map_cons,List.map_nil,List.mem_singleton] at hi; subst hi; exact hlow s _ (by omega)) (fun bb G1 L1 hle1 hpost=>?_)
    obtain⟨rfl,s',hI',rfl,hp'⟩:=hpost
    have hle01:=Mem.le_trans hle hle1
    refine WLI.nil<|WE.then<|WC.condT rfl<|WC.skip<|WE.then<|WC.block ?_
    have hw0:i64.wrap ((n:Int)-2)=((n-1:Nat):Int)-1:=by rw[IntKind.wrap_i64]; omega
    have hw1:i64.wrap ((n:Int)-1)=((n-1:Nat):Int):=by rw[IntKind.wrap_i64]; omega
    refine sr<|yy (Y0.loadG sc3 rfl (hle01 _ _ _ hb)) rfl<|yy (Y0.sub rfl rfl) rfl ?_
    rw[hw0]
    refine sg rfl rfl<|nx<|WC.seqH (X:=Nat) (fun k=>[(0,.func (.yield yl) #[] #[]),(1,.pointer (some ⟨b,0,none⟩)),(3,.pointer (some ⟨b3,0,none⟩)),(5,.int .i64 ((k:Int)-1))])
      (fun k=>k<=n-1/\((k=0/\ascF p (n-1)=none)\/∃ i,k=i+1/\ascF p (n-1)=some i)) (fun _=>St w0 G0 G1 ((9003,some ⟨b3,.cells (pmv p) 44 (0,0),0⟩)::Lc s')) ?_ ?_
    . refine WC.block<|WC.loopH (X:=Nat) (fun k=>[(0,.func (.yield yl) #[] #[]),(1,.pointer (some ⟨b,0,none⟩)),(3,.pointer (some ⟨b3,0,none⟩)),(5,.int .i64 ((k:Int)-1))])
        (fun k=>k<=n-1/\ascF p k=ascF p (n-1)) (fun _=>St w0 G0 G1 ((9003,some ⟨b3,.cells (pmv p) 44 (0,0),0⟩)::Lc s')) (fun k=>k) (n-1) (fc rfl (fc rfl (fc rfl (fc rfl fn)))) ⟨Nat.le_refl _,rfl⟩ (fun w hs=>hs) ?_
      rintro k ⟨hk,hasc⟩
      refine WC.seq<|WC.seq ?_
      by_cases hk0:k=0
      . subst hk0
        refine WC.drawn [false,false,false,false,false,false,false,false,false,false,false] mix (by kernel_rfl) (fun hb=>?_)
        refine cn (fun _ hle=>Y0.move rfl)<|cn (fun _ hle=>Y0.eq (Y0.geq rfl rfl) (congrArg Value.bool (decide_eq_false (by omega))))<|cn (fun _ hle=>Y0.move rfl)<|ct rfl rfl<|ct rfl rfl<|ct rfl rfl<|ct rfl rfl<|ct rfl rfl<|ct rfl rfl<|ct rfl rfl<|ct rfl rfl<|Chain.tail0 hb ?_
        refine yy (Y0.pickF rfl rfl) rfl<|WL.nil<|WE.nx<|WE.then<|WC.condF rfl ?_
        exact WC.exit<|WE.thenExit<|WE.thenExit<|WE.exitHere<|WE.midH 0 ⟨hk,.inl ⟨rfl,hasc.symm⟩⟩ (fc rfl (fc rfl (fc rfl (fc rfl fn)))) (fun w hs=>hs)
      obtain⟨i,rfl⟩:∃ i,k=i+1:=⟨k-1,by omega⟩
      have e1:((i+1:Nat):Int)-1=(i:Int):=by omega
      have e2:i64.wrap ((i:Int)+1)=((i+1:Nat):Int):=by rw[IntKind.wrap_i64]; omega
      have e3:i64.wrap ((i:Int)-1)=(i:Int)-1:=by rw[IntKind.wrap_i64]; omega
      rw[e1]
      refine WC.drawn [false,false,false,false,false,false,false,false,false,false,false] mix (by kernel_rfl) (fun hb=>?_)
      refine cn (fun _ hle=>Y0.move rfl)<|cn (fun _ hle=>Y0.eq (Y0.geq rfl rfl) (congrArg Value.bool (decide_eq_true (by omega))))<|cn (fun _ hle=>Y0.move rfl) ?_
      refine cy rfl rfl (fun _ hle=>Y0.move rfl)<|cy rfl rfl (fun _ hle=>Y0.idxA0 underlying44 sz3 rfl rfl ⟨by omega,by omega⟩)<|cy rfl rfl (fun _ hle=>Y0.loadL 9003 sc3 rfl rfl (Zer p (show i<8 by omega))) ?_
      refine cy rfl rfl (fun _ hle=>Y0.move rfl)<|cy rfl rfl (fun _ hle=>Y0.eq (Y0.add rfl rfl) (congrArg (Value.int .i64) e2))<|cy rfl rfl (fun _ hle=>Y0.idxA0 underlying44 sz3 rfl rfl ⟨by omega,by omega⟩)<|cy rfl rfl (fun _ hle=>Y0.loadL 9003 sc3 rfl rfl (Zer p (show i+1<8 by omega)))<|cy rfl rfl (fun _ hle=>Y0.gtr rfl rfl)<|Chain.tail0 hb ?_
      refine yy (Y0.pickT rfl rfl) rfl<|WL.nil<|WE.nx<|WE.then<|WC.condD (p:=getF p ((i+1:Nat):Int)<getF p (i:Int)) rfl (fun hc=>?_) (fun hc=>?_)
      . have ha:ascF p (i+1)=ascF p i:=by show (if _ then _ else _)=_; rw[if_pos hc]
        refine WC.skip<|WE.then<|WC.block<|WC.region<|mv rfl rfl<|yy (Y0.sub rfl rfl) rfl ?_
        rw[e3]
        exact sg rfl rfl<|WL.nil<|WE.inBlock<|WE.backH (x:=i+1) i ⟨by omega,by rw[<- ha]; exact hasc⟩ (fc rfl (fc rfl (fc rfl (fc rfl fn)))) (fun w hs=>hs) (Nat.lt_succ_self i)
      have ha:ascF p (i+1)=some i:=by show (if _ then _ else _)=_; rw[if_neg hc]
      exact WC.exit<|WE.thenExit<|WE.thenExit<|WE.exitHere<|WE.midH (i+1) ⟨hk,.inr ⟨i,rfl,by rw[<- hasc]; exact ha⟩⟩ (fc rfl (fc rfl (fc rfl (fc (by rw[e1]; rfl) fn)))) (fun w hs=>hs)
    rintro k ⟨hk,hkk⟩
    refine WC.seq<|sr<|mv rfl rfl<|yy (Y0.lss rfl rfl) rfl<|nx ?_
    refine WC.condD (p:=(k:Int)-1<0) rfl (fun hc=>?_) (fun hc=>?_)
    . have hnone:ascF p (n-1)=none:=by
        rcases hkk with ⟨_,h⟩|⟨i,hi,_⟩
        . exact h
        omega
      have hend:(permsL n)[j+1]? = none:=by rw[hch]; unfold nextF; rw[hnone]
      have hjl2:(permsL n).length=j+1:=by have:=List.getElem?_eq_none_iff.1 hend; omega
      refine WC.ret<|WE.thenRet<|WE.inBlockRet<|WE.thenRet<|WE.inBlockRet ?_
      exact WE.conseq (S':=St w0 G0 G1 (Lc s')) (fun w hs=>hs.weaken (hno s' _)) (WE.ret0 rfl ⟨rfl,s',by rw[hjl2]; exact hI',rfl,hp'⟩)
    obtain⟨i,rfl,hasc⟩:∃ i,k=i+1/\ascF p (n-1)=some i:=by
      rcases hkk with ⟨h,_⟩|h
      . omega
      exact h
    have e1:((i+1:Nat):Int)-1=(i:Int):=by omega
    obtain⟨hin,hge⟩:=ZiI hasc
    rw[e1]
    refine WC.skip<|WE.then<|sr<|yy (Y0.loadG sc3 rfl (hle01 _ _ _ hb)) rfl<|yy (Y0.sub rfl rfl) rfl ?_
    rw[hw1]
    refine sg rfl rfl<|nx<|WC.seqH (X:=Nat) (fun m=>[(0,.func (.yield yl) #[] #[]),(1,.pointer (some ⟨b,0,none⟩)),(3,.pointer (some ⟨b3,0,none⟩)),(5,.int .i64 (i:Int)),(6,.int .i64 (m:Int))])
      (fun m=>m<=n-1/\geF p (getF p (i:Int)) (n-1)=m) (fun _=>St w0 G0 G1 ((9003,some ⟨b3,.cells (pmv p) 44 (0,0),0⟩)::Lc s')) ?_ ?_
    . refine WC.block<|WC.loopH (X:=Nat) (fun m=>[(0,.func (.yield yl) #[] #[]),(1,.pointer (some ⟨b,0,none⟩)),(3,.pointer (some ⟨b3,0,none⟩)),(5,.int .i64 (i:Int)),(6,.int .i64 (m:Int))])
        (fun m=>i+1<=m/\m<=n-1/\geF p (getF p (i:Int)) (n-1)=geF p (getF p (i:Int)) m) (fun _=>St w0 G0 G1 ((9003,some ⟨b3,.cells (pmv p) 44 (0,0),0⟩)::Lc s')) (fun m=>m) (n-1) (fc rfl (fc rfl (fc rfl (fc rfl (fc rfl fn))))) ⟨by omega,Nat.le_refl _,rfl⟩ (fun w hs=>hs) ?_
      rintro m ⟨him,hm,hgem⟩
      obtain⟨m,rfl⟩:∃ q,m=q+1:=⟨m-1,by omega⟩
      have e3:i64.wrap (((m+1:Nat):Int)-1)=(m:Int):=by rw[IntKind.wrap_i64]; omega
      refine WC.seq<|WC.seq ?_
      refine WC.drawn [false,false,false,false,false,false] mix (by kernel_rfl) (fun hb=>?_)
      refine cn (fun _ hle=>Y0.move rfl)<|cn (fun _ hle=>Y0.idxA0 underlying44 sz3 rfl rfl ⟨by omega,by omega⟩)<|cn (fun _ hle=>Y0.loadL 9003 sc3 rfl rfl (Zer p (show m+1<8 by omega))) ?_
      refine cn (fun _ hle=>Y0.move rfl)<|cn (fun _ hle=>Y0.idxA0 underlying44 sz3 rfl rfl ⟨by omega,by omega⟩)<|cn (fun _ hle=>Y0.loadL 9003 sc3 rfl rfl (Zer p (show i<8 by omega)))<|Chain.tail0 hb ?_
      refine yy (Y0.lss rfl rfl) rfl<|WL.nil<|WE.nx<|WE.then<|WC.condD (p:=getF p ((m+1:Nat):Int)<getF p (i:Int)) rfl (fun hc=>?_) (fun hc=>?_)
      . have ha:geF p (getF p (i:Int)) (m+1)=geF p (getF p (i:Int)) m:=by show (if _ then _ else _)=_; rw[if_pos hc]
        have hne:i+1≠m+1:=fun e=>by rw[<- e] at hc; omega
        refine WC.skip<|WE.then<|WC.block<|WC.region<|mv rfl rfl<|yy (Y0.sub rfl rfl) rfl ?_
        rw[e3]
        exact sg rfl rfl<|WL.nil<|WE.inBlock<|WE.backH (x:=m+1) m ⟨by omega,by omega,by rw[hgem,ha]⟩ (fc rfl (fc rfl (fc rfl (fc rfl (fc rfl fn))))) (fun w hs=>hs) (Nat.lt_succ_self m)
      have ha:geF p (getF p (i:Int)) (m+1)=m+1:=by show (if _ then _ else _)=_; rw[if_neg hc]
      exact WC.exit<|WE.thenExit<|WE.thenExit<|WE.exitHere<|WE.midH (m+1) ⟨hm,by rw[hgem,ha]⟩ (fc rfl (fc rfl (fc rfl (fc rfl (fc rfl fn))))) (fun w hs=>hs)
    rintro m ⟨hm,hgem⟩
    have e4:i64.wrap ((i:Int)+1)=((i+1:Nat):Int):=by rw[IntKind.wrap_i64]; omega
    have hnext:(permsL n)[j+1]? = some (revF (swF p i m) (i+1) (n-(i+1)) ((n-(i+1)) / 2)):=by rw[hch]; unfold nextF; rw[hasc]; dsimp only; rw[hgem]
    refine WC.seq<|WC.drawn [false,true,false,false,false,false,false,false,false] mix (by kernel_rfl) (fun hbx=>?_)
    refine cn (fun _ hle=>Y0.move rfl)<|Chain.float Ze (Y0.move rfl)<|cn (fun _ hle=>Y0.move rfl)<|cn (fun _ hle=>Y0.idxA0 underlying44 sz3 rfl rfl ⟨by omega,by omega⟩)<|cn (fun _ hle=>Y0.loadL 9003 sc3 rfl rfl (Zer p (show m<8 by omega))) ?_
    refine cn (fun _ hle=>Y0.move rfl)<|cn (fun _ hle=>Y0.idxA0 underlying44 sz3 rfl rfl ⟨by omega,by omega⟩)<|cn (fun _ hle=>Y0.loadL 9003 sc3 rfl rfl (Zer p (show i<8 by omega)))<|cn (fun _ hle=>Y0.idxA0 underlying44 sz3 rfl rfl ⟨by omega,by omega⟩)<|Chain.tail0 hbx ?_
    refine WL.storeL 9003 (pmv (setF p i (getF p (m:Int)))) Ze sz3 rfl rfl rfl (by rw[Zz]; omega) rfl (ZcT _ _ _ _ _) ?_
    refine yy (Y0.idxA0 underlying44 sz3 rfl rfl ⟨by omega,by omega⟩) rfl ?_
    refine WL.storeL 9003 (pmv (swF p i m)) Ze sz3 rfl rfl rfl (by rw[Zz]; omega) rfl (ZcT _ _ _ _ _) ?_
    refine WL.nil<|WE.nx<|WE.then<|WC.region<|mv rfl rfl<|yy (Y0.eq (Y0.add rfl rfl) (congrArg (Value.int .i64) e4)) rfl<|yy (Y0.loadG sc3 rfl (hle01 _ _ _ hb)) rfl<|yy (Y0.slArr underlying44 sz3 rfl rfl rfl (show i+1<8 by omega) (show i+1<=n by omega) (show n<=8 by omega)) rfl ?_
    refine WL.callT Ze rfl (YC.of E107 rfl) (Zlj b3 (i+1) (n-(i+1)) (8-(i+1)) (swF p i m) (by omega)) rfl trivial (lc rfl ln) hz0 (fun v G2 L2 hle2 hpost=>?_)
    obtain⟨rfl,rfl⟩:=hpost
    refine WL.nil<|WE.inBlock<|WE.backH (x:=(j,p,s,G)) (j+1,_,s',G2) ⟨hnext,hI',Mem.le_trans hle01 hle2,hmono _ _ _ hle2 hp'⟩ (fc rfl (fc rfl (fc rfl fn))) (fun w hs=>hs.weaken (fun q z hq=>?_)) (by show (permsL n).length-(j+1)<(permsL n).length-j; omega)
    simp only[Lo.without,List.map_cons,List.map_nil,List.cons_append,List.nil_append,Lo.Zi] at hq ⊢
    split at hq
    . rename_i e; rw[if_pos e]; exact hq
    rename_i e; simp only[if_neg e]; exact hq
abbrev coreV(c:Zc)(q:Option Addr×Nat×Option Addr×Nat):List Value:=[.int .i64 c.n,.slice q.1 c.eqs.length q.2.1,.slice q.2.2.1 c.neqs.length q.2.2.2]
abbrev CanonT:=Zc×(Option Addr×Nat×Option Addr×Nat)×(Fin 8->Int)×ByteArray
theorem Zbp(k1:Zc)(k1eqsp:Option Addr)(k1eqsc:Nat)(k1neqsp:Option Addr)(k1neqsc:Nat)(r:Zc×(Fin 8->Int))(hr:(ZaC k1).Ret r):Ctr prog 18 #[.agg ([.int .i64 k1.n,.slice k1eqsp k1.eqs.length k1eqsc,.slice k1neqsp k1.neqs.length k1neqsc]).toArray] (fun G=>SlR RP G (.slice k1eqsp k1.eqs.length k1eqsc) k1.eqs/\SlR RP G (.slice k1neqsp k1.neqs.length k1neqsc) k1.neqs)
    (fun G v=>∃ zr0eqsp zr0eqsc zr0neqsp zr0neqsc,v = .tuple #[.agg ([.int .i64 r.1.n,.slice zr0eqsp r.1.eqs.length zr0eqsc,.slice zr0neqsp r.1.neqs.length zr0neqsc]).toArray,.agg (vecG (Value.int .i64) 8 r.2).toArray]/\SlR RP G (.slice zr0eqsp r.1.eqs.length zr0eqsc) r.1.eqs/\SlR RP G (.slice zr0neqsp r.1.neqs.length zr0neqsc) r.1.neqs):=by
  obtain⟨⟨hn1,hn4⟩,fin,hfin,hr⟩:=hr
  replace hr:_=r:=hr
  subst hr
  obtain⟨n,hn⟩:∃ n:Nat,k1.n=n:=⟨k1.n.toNat,by omega⟩
  rw[hn,Int.toNat_natCast] at hfin
  refine CtrL.enterM (args:=[_]) (N:=45) func18 rfl rfl rfl (fun w0 G0 hL0 hpre=>?_)
  obtain⟨k1eqsh,k1neqsh⟩:=hpre
  refine sr<|WL.box 1 Ze rfl rfl (fun b1=>?_)
  refine WL.alloc 2 Ze z28 rfl (fun b2=>WL.alloc 3 Ze z44 rfl (fun b3=>nr<|WL.alloc 4 Ze z28 rfl (fun b4=>nr<|WL.alloc 5 Ze z44 rfl (fun b5=>nr<|WL.alloc 6 Ze z9 rfl (fun b6=>?_)))))
  refine WL.storeL 6 #[.string ByteArray.empty] Ze sz9 rfl rfl rfl Nat.zero_lt_one rfl rfl ?_
  refine nx<|WC.seq<|sr<|yy (Y0.ZhU rfl) rfl<|yy (Y0.loadL 1 sc3 rfl rfl rfl) rfl ?_
  refine WL.call Ze rfl (YC.of E54 rfl) (ZmW k1.n) rfl trivial (fun v G1 hle1 hpost=>?_)
  obtain⟨bn,rfl,hbn⟩:=hpost
  rw[hn] at hbn
  refine nx ?_
  refine WC.rangeAll (t:=14) (f:=106) rfl E106 (fun ac d lp rec ha hst hpe htm hps has hbo=>?_)
  let Lc:CanonT->Lo:=fun s=>[(8001,some ⟨lp,.loop rec,0⟩),(8002,some ⟨d,.deferred (some []),0⟩),(1,some ⟨b1,.cells ([.int .i64 k1.n,.slice k1eqsp k1.eqs.length k1eqsc,.slice k1neqsp k1.neqs.length k1neqsc]:List Value).toArray 28 (0,0),0⟩),(2,some ⟨b2,.cells (coreV ⟨0,[],[]⟩ (none,0,none,0)).toArray 28 (0,0),0⟩),(3,some ⟨b3,.cells (pmv fun _=>0) 44 (0,0),0⟩),
    (4,some ⟨b4,.cells (coreV s.1 s.2.1).toArray 28 (0,0),0⟩),(5,some ⟨b5,.cells (pmv s.2.2.1) 44 (0,0),0⟩),(6,some ⟨b6,.cells #[.string s.2.2.2] 9 (0,0),0⟩)]
  refine⟨_,Lc (⟨0,[],[]⟩,(none,0,none,0),fun _=>0,ByteArray.empty),_,lc rfl (lc rfl (lc rfl (lc rfl (lc rfl (lc rfl (lc rfl (lc rfl ln))))))),fun i _=>by rw[hL0]; rfl,
    Zl4 bn n (by omega) (by omega) lp (fun j s=>(canonL k1 ((permsL n).drop j) (s.1,s.2.2)).Ret fin) Lc (fun s G=>SlR RP G (.slice k1eqsp k1.eqs.length k1eqsc) k1.eqs/\SlR RP G (.slice k1neqsp k1.neqs.length k1neqsc) k1.neqs/\SlR RP G (.slice s.2.1.1 s.1.eqs.length s.2.1.2.1) s.1.eqs/\SlR RP G (.slice s.2.1.2.2.1 s.1.neqs.length s.2.1.2.2.2) s.1.neqs)
      (fun s i hi=>?_) (fun G G' s hle ⟨q1,q2,q3,q4⟩=>⟨q1.mono hle,q2.mono hle,q3.mono hle,q4.mono hle⟩) (fun j u s hj hI=>?_) _ (by rw[List.drop_zero]; exact hfin) ?_,⟨hbn,k1eqsh.mono hle1,k1neqsh.mono hle1,SlR.nil _ _,SlR.nil _ _⟩,fun G' L' v hle hpost=>?_⟩
  . simp only[Lc]
    rw[Lo.Zi,if_neg (by omega),Lo.Zi,if_neg (by omega),Lo.Zi,if_neg (by omega),Lo.Zi,if_neg (by omega),Lo.Zi,if_neg (by omega),Lo.Zi,if_neg (by omega),Lo.Zi,if_neg (by omega),Lo.Zi,if_neg (by omega)]; rfl
  . refine YCtr.Zj0 (N:=45) rfl hst hpe hps (by rw[htm]; exact ha.round (by decide)) (fun w0' G hL' hG=>?_)
    obtain⟨⟨hk1,hk2,hs1,hs2⟩,p,hp,rfl⟩:=hG
    obtain⟨c,q,f,key⟩:=s
    dsimp only at hI hs1 hs2 ⊢
    rw[List.drop_eq_getElem_cons hj,show (permsL n)[j]=p by rw[List.getElem?_eq_getElem hj] at hp; exact Option.some.inj hp] at hI
    obtain⟨st',⟨yv1,hyv1,yv2,hyv2,yv3,hyv3,hr⟩,hI'⟩:=hI
    refine Zie has ?_
    refine WCI.region Zg2 rfl (WL.alloc 7 Ze z44 rfl (fun b7=>?_))
    refine WL.storeLA 7 Ze sz44 rfl rfl rfl (Zz _ _ _) (Zz _ _ _) (fun u hu=>Zea _ _ _ (fun _=>rfl) u (by simpa using hu))<|WL.nil (fun a1 v1 ha1 hs1'=>⟨_,_,_,ha1,hs1',rfl,?_⟩)
    refine Zie hbo ?_
    refine WCI.block<|WCI.seq ?_
    refine WCI.drawn (Zcl (Zat Zau)) rfl [false,false,false,false,false,false,false,false,false,false,false,false,false,true,false] mix (by kernel_rfl) (fun hb=>?_)
    refine cn (fun _ hle=>Y0.ZhU rfl)<|cn (fun _ hle=>Y0.loadL 1 sc3 rfl rfl rfl)<|cn (fun _ hle=>Y0.ZjK rfl)<|cn (fun _ hle=>Y0.loadL 1 sc25 rfl rfl rfl)<|cn (fun _ hle=>Y0.loadLA 7 ag44 rfl rfl (Zz _ _ _)) ?_
    refine Chain.callU (post:=fun G v=>∃ yv1p yv1c,v = .slice yv1p yv1.length yv1c/\SlR (Rp.sl Zj) G (.slice yv1p yv1.length yv1c) yv1) (fun _=>Ze) (fun _ _=>YC.of E55 rfl) (Zdt _ _ _ _ _ hyv1) rfl (fun G' hle=>(hk1.mono hle)) (fun v G1 G2 hle h=>?_) ?_
    . obtain⟨yv1p,yv1c,rfl,yv1h⟩:=h
      exact⟨_,_,rfl,yv1h.mono hle⟩
    refine cu (fun _ _ hle=>Y0.ZjL rfl)<|cu (fun _ _ hle=>Y0.loadL 1 sc25 rfl rfl rfl)<|cu (fun _ _ hle=>Y0.loadLA 7 ag44 rfl rfl (Zz _ _ _)) ?_
    refine Chain.callU (post:=fun G v=>∃ yv2p yv2c,v = .slice yv2p yv2.length yv2c/\SlR (Rp.sl Zj) G (.slice yv2p yv2.length yv2c) yv2) (fun _=>Ze) (fun _ _=>YC.of E55 rfl) (Zdt _ _ _ _ _ hyv2) rfl (fun G' hle=>(hk2.mono hle)) (fun v G1 G2 hle h=>?_) ?_
    . obtain⟨yv2p,yv2c,rfl,yv2h⟩:=h
      exact⟨_,_,rfl,yv2h.mono hle⟩
    refine Chain.callUU (f:=12) (φ:=fun G v=>∃ yv3r0eqsp yv3r0eqsc yv3r0neqsp yv3r0neqsc,v = .tuple #[.agg ([.int .i64 yv3.1.n,.slice yv3r0eqsp yv3.1.eqs.length yv3r0eqsc,.slice yv3r0neqsp yv3.1.neqs.length yv3r0neqsc]).toArray,.int .i64 yv3.2]/\SlR (Rp.sl Zj) G (.slice yv3r0eqsp yv3.1.eqs.length yv3r0eqsc) yv3.1.eqs/\SlR (Rp.sl Zj) G (.slice yv3r0neqsp yv3.1.neqs.length yv3r0neqsc) yv3.1.neqs) (fun _=>Ze) (fun v G1 G2 hle h=>?_) (fun u G' hle hu=>?_) ?_
    . obtain⟨yv3r0eqsp,yv3r0eqsc,yv3r0neqsp,yv3r0neqsc,rfl,yv3r0eqsh,yv3r0neqsh⟩:=h
      exact⟨_,_,_,_,rfl,yv3r0eqsh.mono hle,yv3r0neqsh.mono hle⟩
    . obtain⟨⟨yv2p,yv2c,yv2hu,yv2h⟩,⟨yv1p,yv1c,yv1hu,yv1h⟩,_⟩:=(show (fun G v=>∃ yv2p yv2c,v = .slice yv2p yv2.length yv2c/\SlR (Rp.sl Zj) G (.slice yv2p yv2.length yv2c) yv2) G'.m (u 25)/\(fun G v=>∃ yv1p yv1c,v = .slice yv1p yv1.length yv1c/\SlR (Rp.sl Zj) G (.slice yv1p yv1.length yv1c) yv1) G'.m (u 21)/\True from hu)
      exact⟨_,_,_,fun _=>YC.of E12 rfl,Zak _ _ _ _ _ _ _ _ hyv3,(by simp only[yv2hu,yv1hu] <;> rfl),⟨yv1h,yv2h⟩⟩
    refine Chain.y0UU (φ:=fun G v=>∃ p1 p1c p2 p2c,v = .tuple #[.agg ([.int .i64 yv3.1.n,.slice p1 yv3.1.eqs.length p1c,.slice p2 yv3.1.neqs.length p2c]).toArray,.int .i64 yv3.2]/\SlR (Rp.sl Zj) G (.slice p1 yv3.1.eqs.length p1c) yv3.1.eqs/\SlR (Rp.sl Zj) G (.slice p2 yv3.1.neqs.length p2c) yv3.1.neqs) (fun _=>Ze) (fun v G1 G2 hle h=>?_) (fun u G' hle hu=>?_) ?_
    . obtain⟨p1,p1c,p2,p2c,rfl,p1h,p2h⟩:=h
      exact⟨_,_,_,_,rfl,p1h.mono hle,p2h.mono hle⟩
    . obtain⟨⟨yv3r0eqsp,yv3r0eqsc,yv3r0neqsp,yv3r0neqsc,yv3hu,yv3r0eqsh,yv3r0neqsh⟩,_,_,_⟩:=(show (fun G v=>∃ yv3r0eqsp yv3r0eqsc yv3r0neqsp yv3r0neqsc,v = .tuple #[.agg ([.int .i64 yv3.1.n,.slice yv3r0eqsp yv3.1.eqs.length yv3r0eqsc,.slice yv3r0neqsp yv3.1.neqs.length yv3r0neqsc]).toArray,.int .i64 yv3.2]/\SlR (Rp.sl Zj) G (.slice yv3r0eqsp yv3.1.eqs.length yv3r0eqsc) yv3.1.eqs/\SlR (Rp.sl Zj) G (.slice yv3r0neqsp yv3.1.neqs.length yv3r0neqsc) yv3.1.neqs) G'.m (u 26)/\True/\True/\True from hu)
      simp only[undFr,yv3hu]
      exact⟨_,Y0.move rfl,yv3r0eqsp,yv3r0eqsc,yv3r0neqsp,yv3r0neqsc,rfl,yv3r0eqsh,yv3r0neqsh⟩
    refine Chain.y0UU (φ:=fun G v=>∃ p3 p3c p4 p4c,v = .agg ([.int .i64 yv3.1.n,.slice p3 yv3.1.eqs.length p3c,.slice p4 yv3.1.neqs.length p4c]).toArray/\SlR (Rp.sl Zj) G (.slice p3 yv3.1.eqs.length p3c) yv3.1.eqs/\SlR (Rp.sl Zj) G (.slice p4 yv3.1.neqs.length p4c) yv3.1.neqs) (fun _=>Ze) (fun v G1 G2 hle h=>?_) (fun u G' hle hu=>?_) ?_
    . obtain⟨p3,p3c,p4,p4c,rfl,p3h,p4h⟩:=h
      exact⟨_,_,_,_,rfl,p3h.mono hle,p4h.mono hle⟩
    . obtain⟨⟨p1,p1c,p2,p2c,yv4hu,p1h,p2h⟩,_,_,_,_⟩:=(show (fun G v=>∃ p1 p1c p2 p2c,v = .tuple #[.agg ([.int .i64 yv3.1.n,.slice p1 yv3.1.eqs.length p1c,.slice p2 yv3.1.neqs.length p2c]).toArray,.int .i64 yv3.2]/\SlR (Rp.sl Zj) G (.slice p1 yv3.1.eqs.length p1c) yv3.1.eqs/\SlR (Rp.sl Zj) G (.slice p2 yv3.1.neqs.length p2c) yv3.1.neqs) G'.m (u 15)/\True/\True/\True/\True from hu)
      simp only[undFr,yv4hu]
      exact⟨_,Y0.extract rfl rfl,p1,p1c,p2,p2c,rfl,p1h,p2h⟩
    refine Chain.floatUD (c:=.int .i64 yv3.2) (fun _=>Ze) (fun u G' hle hu=>?_) ?_
    . obtain⟨_,⟨p1,p1c,p2,p2c,yv4hu,p1h,p2h⟩,_,_,_,_⟩:=(show True/\(fun G v=>∃ p1 p1c p2 p2c,v = .tuple #[.agg ([.int .i64 yv3.1.n,.slice p1 yv3.1.eqs.length p1c,.slice p2 yv3.1.neqs.length p2c]).toArray,.int .i64 yv3.2]/\SlR (Rp.sl Zj) G (.slice p1 yv3.1.eqs.length p1c) yv3.1.eqs/\SlR (Rp.sl Zj) G (.slice p2 yv3.1.neqs.length p2c) yv3.1.neqs) G'.m (u 15)/\True/\True/\True/\True from hu)
      simp only[undFr,yv4hu]
      exact Y0.extract rfl rfl
    refine Chain.alloc (fun _=>Ze) z28 ?_
    refine Chain.tailX6 (fun z1v yv5v yv4v yv3v yv2v yv1v X1 X1le z1post yv5post yv4post yv3post yv2post yv1post=>?_)
    obtain⟨b8,rfl,z1hb⟩:=z1post
    obtain⟨p3,p3c,p4,p4c,rfl,p3h,p4h⟩:=yv5post
    obtain⟨p1,p1c,p2,p2c,rfl,p1h,p2h⟩:=yv4post
    obtain⟨yv3r0eqsp,yv3r0eqsc,yv3r0neqsp,yv3r0neqsc,rfl,yv3r0eqsh,yv3r0neqsh⟩:=yv3post
    obtain⟨yv2p,yv2c,rfl,yv2h⟩:=yv2post
    obtain⟨yv1p,yv1c,rfl,yv1h⟩:=yv1post
    refine WL.adopt z1hb (WL.unX (show WL _ _ _ _ _ _ (St _ _ X1.m _) from ?_))
    refine WL.storeLA 8 Ze sz28 rfl rfl rfl rfl rfl (List.all_eq_true.1 rfl) ?_
    refine sg rfl rfl<|WL.nil ?_
    refine WE.nx ?_
    refine WCI.then<|WCI.seq<|WCI.seq<|WCI.region (Zcl (Zcl (Zat Zau))) rfl<|mv rfl rfl<|yy (Y0.neq rfl rfl) rfl<|WL.nil<|WCI.then ?_
    refine WCI.condD (p:=¬ yv3.2=0) rfl (fun hc1=>?_) (fun hc1=>?_)
    . replace hr:=hr.pos hc1
      replace hr:_=st':=hr
      subst hr
      refine WCI.exit<|WE.thenExit<|WE.exitHere ?_
      exact fun a2 w2 _ hs3=>⟨_,_,Lc (c,q,f,key),hs3,rfl,lc rfl (lc rfl (lc rfl (lc rfl (lc rfl (lc rfl (lc rfl (lc rfl ln))))))),rfl,(c,q,f,key),hI',rfl,hk1.mono X1le,hk2.mono X1le,hs1.mono X1le,hs2.mono X1le⟩
    replace hr:=hr.neg hc1
    obtain⟨yv6,hyv6,hr⟩:=hr
    refine WCI.skip<|WCI.then<|WCI.seq<|WCI.region (Zcl (Zat Zau)) rfl<|yy (Y0.loadLA 8 ag28 rfl rfl rfl) rfl ?_
    refine WL.call0 Ze rfl (YC.of E56 rfl) (Zkf _ _ _ _ _ _ hyv6) rfl (⟨p3h,p4h⟩) ?_
    refine sg rfl rfl<|WL.nil<|WCI.then<|WCI.seq<|WCI.region (Zcl (Zat Zau)) rfl<|yy (Y0.loadL 6 sc9 rfl rfl rfl) rfl ?_
    refine WL.caseY0 (p:=key=ByteArray.empty) Ze (Y0.eqlS underlying9 rfl rfl) rfl (fun hb1=>?_) (fun hb1=>?_)
    . replace hr:=hr.pos hb1
      replace hr:_=st':=hr
      subst hr
      refine mv rfl rfl<|sf rfl rfl rfl<|sf rfl rfl rfl<|sf rfl rfl rfl<|yy (Y0.pickT rfl rfl) rfl<|WL.nil<|WCI.then ?_
      refine WCI.cond (b:=true) rfl (fun _=>?_) (fun h=>by cases h)
      refine WCI.drawnB (Zat Zau) rfl [(7,some ⟨b7,.cells (pmv p) 44 (0,0),0⟩)] (lc rfl ln) [false,true,true] mix (by kernel_rfl) (fun hb=>?_)
      refine cn (fun _ hle=>Y0.loadLA 8 ag28 rfl rfl rfl) ?_
      refine Chain.floatB Ze (Y0.loadLA 7 ag44 rfl rfl (Zz _ _ _))<|Chain.floatB Ze (Y0.move rfl) ?_
      refine Chain.tailB hb<|WLT.one (fun w hs=>hs.weaken (lc rfl ln)) ?_
      refine WL.storeLA 4 Ze sz28 rfl rfl rfl rfl rfl (List.all_eq_true.1 rfl)<|WLT.back<|WLT.one (fun w hs=>hs.weaken (lc rfl ln)) ?_
      refine WL.storeLA 5 Ze sz44 rfl rfl rfl (Zz _ _ _) (Zz _ _ _) (fun u hu=>Zea _ _ _ (fun _=>rfl) u (by simpa using hu))<|WLT.back ?_
      refine WLT.storeL (fun w hs=>hs.weaken (lc rfl ln)) 6 #[.string yv6] Ze sz9 rfl rfl rfl Nat.zero_lt_one rfl rfl<|WLT.nil (fun w hs=>hs.weaken (lc rfl ln))<|WE.nx<|WE.inBlock ?_
      exact fun a2 w2 _ hs3=>⟨_,_,Lc (yv3.1,(p3,p3c,p4,p4c),p,yv6),hs3,rfl,lc rfl (lc rfl (lc rfl (lc rfl (lc rfl (lc rfl (lc rfl (lc rfl ln))))))),rfl,(yv3.1,(p3,p3c,p4,p4c),p,yv6),hI',rfl,hk1.mono X1le,hk2.mono X1le,p3h,p4h⟩
    replace hr:=hr.neg hb1
    refine mv rfl rfl<|gy rfl rfl (Y0.move rfl) rfl<|gy rfl rfl (Y0.loadL 6 sc9 rfl rfl rfl) rfl<|gy rfl rfl (Y0.lssS rfl rfl) rfl<|yy (Y0.pickF rfl rfl) rfl<|WL.nil<|WCI.then ?_
    refine WCI.cond (b:=Op.bytesLess yv6.toList key.toList) rfl (fun hc2=>?_) (fun hc2=>?_)
    . replace hr:=hr.pos hc2
      replace hr:_=st':=hr
      subst hr
      refine WCI.drawnB (Zat Zau) rfl [(7,some ⟨b7,.cells (pmv p) 44 (0,0),0⟩)] (lc rfl ln) [false,true,true] mix (by kernel_rfl) (fun hb=>?_)
      refine cn (fun _ hle=>Y0.loadLA 8 ag28 rfl rfl rfl) ?_
      refine Chain.floatB Ze (Y0.loadLA 7 ag44 rfl rfl (Zz _ _ _))<|Chain.floatB Ze (Y0.move rfl) ?_
      refine Chain.tailB hb<|WLT.one (fun w hs=>hs.weaken (lc rfl ln)) ?_
      refine WL.storeLA 4 Ze sz28 rfl rfl rfl rfl rfl (List.all_eq_true.1 rfl)<|WLT.back<|WLT.one (fun w hs=>hs.weaken (lc rfl ln)) ?_
      refine WL.storeLA 5 Ze sz44 rfl rfl rfl (Zz _ _ _) (Zz _ _ _) (fun u hu=>Zea _ _ _ (fun _=>rfl) u (by simpa using hu))<|WLT.back ?_
      refine WLT.storeL (fun w hs=>hs.weaken (lc rfl ln)) 6 #[.string yv6] Ze sz9 rfl rfl rfl Nat.zero_lt_one rfl rfl<|WLT.nil (fun w hs=>hs.weaken (lc rfl ln))<|WE.nx<|WE.inBlock ?_
      exact fun a2 w2 _ hs3=>⟨_,_,Lc (yv3.1,(p3,p3c,p4,p4c),p,yv6),hs3,rfl,lc rfl (lc rfl (lc rfl (lc rfl (lc rfl (lc rfl (lc rfl (lc rfl ln))))))),rfl,(yv3.1,(p3,p3c,p4,p4c),p,yv6),hI',rfl,hk1.mono X1le,hk2.mono X1le,p3h,p4h⟩
    replace hr:=hr.neg (Bool.eq_false_iff.1 hc2)
    replace hr:_=st':=hr
    subst hr
    refine WCI.skip<|WE.inBlock ?_
    exact fun a2 w2 _ hs3=>⟨_,_,Lc (c,q,f,key),hs3,rfl,lc rfl (lc rfl (lc rfl (lc rfl (lc rfl (lc rfl (lc rfl (lc rfl ln))))))),rfl,(c,q,f,key),hI',rfl,hk1.mono X1le,hk2.mono X1le,hs1.mono X1le,hs2.mono X1le⟩
  . intro q hq x hx
    simp only[Lc,List.mem_cons,List.not_mem_nil,or_false] at hq
    rcases hq with rfl|rfl|rfl|rfl|rfl|rfl|rfl|rfl <;> cases hx <;> rfl
  obtain⟨rfl,⟨c,q,f,key⟩,hI,rfl,hq1,hq2,hq3,hq4⟩:=hpost
  dsimp only at hI hq3 hq4
  rw[List.drop_length] at hI
  replace hI:(c,f,key)=fin:=hI
  subst hI
  refine⟨rfl,WCD.seq<|WCD.drawnB [(5,some ⟨b5,.cells (pmv f) 44 (0,0),0⟩)] (lc rfl ln) [false,true] mix (by kernel_rfl) (fun hb=>?_)⟩
  refine cn (fun _ hle=>Y0.loadLA 4 ag28 rfl rfl rfl) ?_
  refine Chain.floatB Ze (Y0.loadLA 5 ag44 rfl rfl (Zz _ _ _)) ?_
  refine Chain.tailB hb<|WLT.one (fun w hs=>hs.weaken (lc rfl ln)) ?_
  refine WL.storeLA 2 Ze sz28 rfl rfl rfl rfl rfl (List.all_eq_true.1 rfl)<|WLT.back<|WLT.one (fun w hs=>hs.weaken (lc rfl ln)) ?_
  refine WL.storeLA 3 Ze sz44 rfl rfl rfl (Zz _ _ _) (Zz _ _ _) (fun u hu=>Zea _ _ _ (fun _=>rfl) u (by simpa using hu))<|WLT.back<|WLT.nil (fun w hs=>hs.weaken (lc rfl ln))<|WE.nx<|WCD.then<|WCD.ret ?_
  refine WE.retD (rvs:=[.cell 2 28,.cell 3 44]) [] [.agg (coreV c q).toArray,.agg (pmv f)] rfl rfl rfl (fun i rv v e1 e2=>?_) ln ⟨_,_,_,_,rfl,hq3,hq4⟩
  match i with
  | 0=>simp at e1 e2; subst e1 e2; exact RV.cellA (i:=2) ag28 rfl rfl rfl
  | 1=>simp at e1 e2; subst e1 e2; exact RV.cellA (i:=3) ag44 rfl rfl (Zz _ _ _)
  | i+2=>simp at e1
theorem dP'{u M x A p r}(hr:(ZcE u M).Ret r):CtrL prog 168 #[.slice x u.length A,.int .u64 M] [(5000,p)] (fun G=>RowR (Rp.int .u8) 5 G (.slice x u.length A) u p) (fun G L v=>∃ U X C,L=[(5000,C)]/\v = .slice U r.length X/\RowR (Rp.int .u8) 5 G (.slice U r.length X) r C):=by
 refine cd' (args:=[_,_]) (N:=21) func168 z z z (fun J t D K=>?_)
 have Y:=K
 refine sr<|sx0 z z<|g'<|ab' (fun (⟨m,o,n,h,j,l⟩:(List Int)×Option Addr×Nat×Option Ow×Int×Mem)=>[(0,.slice o m.length n),(1,.int .u64 j)]) (fun ⟨m,o,n,h,j,l⟩=>Mem.le t l/\RowR (Rp.int .u8) 5 l (.slice o m.length n) m h/\(Zbr m j).Ret r) (fun ⟨m,o,n,h,j,l⟩=>St J t l [(5000,h)]) ?_ ?_
 .refine y' ?_
  let y:(((List Int)×Int))->Prop:=fun oo=>((fun ov=>match ov with|(m,j)=>Zbr m j:(((List Int)×Int))->Cq (List Int)) oo).wp (fun a=>a=r)
  replace hr:(Cq.loop _ _).wp y:=hr
  refine ac' (Φ:=y) (fun (⟨k,g,i,c,d,f⟩:(List Int)×Option Addr×Nat×Option Ow×Int×Mem)=>((k,d):(List Int)×Int)) (fun ⟨k,g,i,c,d,f⟩=>[(0,.slice g k.length i),(1,.int .u64 d)]) (fun ⟨k,g,i,c,d,f⟩=>Mem.le t f/\RowR (Rp.int .u8) 5 f (.slice g k.length i) k c) (fun ⟨k,g,i,c,d,f⟩=>St J t f [(5000,c)]) ⟨u,x,A,p,M,t⟩ hr (f2 z z) ⟨mr,Y⟩ (w1 z) ?_
  .intro ai gx hx hr
   obtain⟨k,g,i,c,d,f⟩:=gx
   obtain⟨s,E⟩:=hx
   refine g'<|sr<|mv z z<|yy (aS' z z) z<|nx<|P' hr z (fun Z hr=>?_) (fun Z hr=>?_)
   .refine n'<|b'<|y'<|sr<|mv z z<|mv z z<|yy (bP' z z (by decide)) z<|yy (av' ad' aL' z) z<|yy (W' z z) z<|aF' (e:=5) (r:=(Rp.int .u8)) (vs:=#[(0,.int .u8 (u8.wrap ((u8.wrap (Int.tmod d 128))+128)))]) (cs:=[.int .u8 (u8.wrap ((u8.wrap (Int.tmod d 128))+128))]++([])) ([u8.wrap ((u8.wrap (Int.tmod d 128))+128)]:List Int) z z z z z (by decide) (fun _=>by kernel_rfl) ⟨[.int .u8 (u8.wrap ((u8.wrap (Int.tmod d 128))+128))],[],z,z,z⟩ (key:=999) z (by rw[D]; rfl) (fun p3 S q V=>?_)
    obtain⟨H,hr⟩:=hr
    refine dl' (r:=(Rp.int .u8)) (e:=5) 5000 z z cn' el5 z (by decide) z z (E.mono q) z V H fun p4 Q F aa=>sx0 z z<|x'<|mv z z<|yy (cV' z z (by decide)) z<|sg z z<|q'<|F'<|T' ⟨(k++[u8.wrap ((u8.wrap (Int.tmod d 128))+128)]),p4,Q,F,u64.wrap (Int.tdiv d 128),S⟩ hr ⟨(mx s q),aa⟩ (f2 z z) (w1 z)
   refine ae'<|h'<|h'<|I'<|af' ⟨k,g,i,c,d,f⟩ ⟨s,E,hr⟩ (f2 z z) (w1 z)
 rintro⟨m,o,n,h,j,l⟩ ⟨ab,R,hr⟩
 refine b'<|sr<|mv z z<|mv z z<|yy (av' ad' aL' z) z<|aF' (e:=5) (r:=(Rp.int .u8)) (vs:=#[(0,.int .u8 (u8.wrap j))]) (cs:=[.int .u8 (u8.wrap j)]++([])) ([u8.wrap j]:List Int) z z z z z (by decide) (fun _=>by kernel_rfl) ⟨[.int .u8 (u8.wrap j)],[],z,z,z⟩ (key:=999) z (by rw[D]; rfl) (fun p1 P B T=>?_)
 obtain⟨O,hr⟩:=hr
 refine dl' (r:=(Rp.int .u8)) (e:=5) 5000 z z cn' el5 z (by decide) z z (R.mono B) z T O fun p2 ah I W=>sx0 z z<|k' ?_
 obtain rfl:_=r:=hr
 refine cg' (S':=St J t P [(5000,I)]) (w1 z)<|j' z z ⟨_,_,_,z,z,W⟩
theorem fE'{e t g i d r}(hr:(ZhG e t).Ret r):CtrL prog 112 #[.slice g e.length i,i' t] [(5000,d)] (fun G=>RowR (Rp.int .u8) 5 G (.slice g e.length i) e d) (fun G L v=>∃ s u h,L=[(5000,h)]/\v = .slice s r.length u/\RowR (Rp.int .u8) 5 G (.slice s r.length u) r h):=by
 refine cd' (args:=[_,_]) (N:=20) func112 z z z (fun q E y l=>?_)
 have j:=l
 have hz:q.L.zero:=by
  rw[y]; intro p o x I
  simp only[List.mem_cons,List.not_mem_nil,or_false] at o
  subst o; exact df' j I
 refine sr<|sx0 z z<|g'<|sr<|mv z z<|yy (aa' z z) z<|nx<|P' hr z (fun A hr=>?_) (fun A hr=>?_)
 .exact (show False from hr).elim
 refine n'<|b'<|sr<|mv z z<|mv z z<|yy (av' aD' ad' z) z<|yy (dd' z z) z ?_
 obtain⟨J,m,hr⟩:=hr
 refine cf' z z (m' E168 z) (dP' m) z (j) (lc z ln) hz (fun D n C B c=>?_)
 obtain⟨H,F,f,rfl,rfl,k⟩:=c
 refine sx0 z z<|k' ?_
 obtain rfl:_=r:=hr
 refine cg' (S':=St q E n [(5000,f)]) (w1 z)<|j' z z ⟨_,_,_,z,z,k⟩
theorem eR'{F I K Q D j h r}(hr:(Zc4 F I).Ret r):CtrL prog 220 #[.slice K F.length Q,.agg ((v57' I j h)).toArray] [(5000,D)] (fun G=>RowR (Rp.int .u8) 5 G (.slice K F.length Q) F D/\sl (Rp.int .u32) G j h I.mag) (fun G L v=>∃ zp zc T,L=[(5000,T)]/\v = .slice zp r.length zc/\RowR (Rp.int .u8) 5 G (.slice zp r.length zc) r T):=by
 refine cd' (args:=[_,_]) (N:=46) func220 z z z (fun O B X ad=>?_)
 obtain⟨W,f⟩:=ad
 have hz:O.L.zero:=by
  rw[X]; intro p hp x hx
  simp only[List.mem_cons,List.not_mem_nil,or_false] at hp
  subst hp; exact df' W hx
 refine sr<|ai' 3 z z z fun S=>sg z z<|nr<|sx0 z z<|aO' (fun (⟨M,y⟩:Int×Mem)=>[(0,.slice K F.length Q),(3,pt0 S),(5,.int .u64 M)]) (fun ⟨M,y⟩=>Mem.le B y/\(Zcg F I M).Ret r) (fun ⟨M,y⟩=>St O B y [(3,bk0 S (v57' I j h) 57),(5000,D)]) ?_ ?_
 .refine sr<|yy (aQ' z) z<|yy (o' 3 sc4 z z z) z<|nx<|aK' hr z (fun aj hr=>?_) (fun aj hr=>?_)
  .refine x'<|sg z z<|q'<|ax' ⟨1,B⟩ ⟨mr,hr⟩ (f3 z z z) (w2 z z)
  refine n'<|ax' ⟨0,B⟩ ⟨mr,hr⟩ (f3 z z z) (w2 z z)
 rintro⟨M,y⟩ ⟨g,hr⟩
 refine sr<|mv z z<|yy (as' z) z<|yy (o' 3 be' z z z) z<|yy (O' p' (f.mono g) z) z<|yy (av' aD' ad' z) z<|yy (dd' z z) z<|mv z z<|yy (W' z z) z ?_
 obtain⟨ag,af,hr⟩:=hr
 refine cf' z z (m' E168 z) (dP' af) z ((W.mono g)) (lc z ln) hz (fun aw J av t H=>?_)
 obtain⟨aa,Z,R,rfl,rfl,Y⟩:=H
 refine sx0 z z<|g'<|sr<|sx0 z z<|ab' (fun (⟨s,u,A,k,o⟩:(List Int)×Option Addr×Nat×Option Ow×Mem)=>[(0,.slice u s.length A)]) (fun ⟨s,u,A,k,o⟩=>Mem.le J o/\RowR (Rp.int .u8) 5 o (.slice u s.length A) s k/\(ZdV s).Ret r) (fun ⟨s,u,A,k,o⟩=>St O B o [(5000,k)]) ?_ ?_
 .refine y' ?_
  let P:(List Int)->Prop:=fun oo=>((fun ov=>match ov with|s=>ZdV s:(List Int)->Cq (List Int)) oo).wp (fun a=>a=r)
  replace hr:(Cq.loop _ _).wp P:=hr
  refine ac' (Φ:=P) (fun (⟨q,m,n,d,C,l⟩:(List Int)×Option Addr×Nat×Option Ow×Int×Mem)=>((q,C):(List Int)×Int)) (fun ⟨q,m,n,d,C,l⟩=>[(0,.slice m q.length n),(3,pt0 S),(6,i' C)]) (fun ⟨q,m,n,d,C,l⟩=>Mem.le J l/\RowR (Rp.int .u8) 5 l (.slice m q.length n) q d) (fun ⟨q,m,n,d,C,l⟩=>St O B l [(3,bk0 S (v57' I j h) 57),(5000,d)]) ⟨ag,aa,Z,R,0,J⟩ hr (f3 z z z) ⟨mr,Y⟩ (w2 z z) ?_
  .intro aA gx hx hr
   obtain⟨q,m,n,d,C,l⟩:=gx
   obtain⟨i,V⟩:=hx
   refine g'<|sr<|mv z z<|yy (as' z) z<|yy (o' 3 be' z z z) z<|yy (O' p' (f.mono (mx (mx g t) i)) z) z<|yy (aa' z z) z<|nx<|P' hr z (fun aq hr=>?_) (fun aq hr=>?_)
   .refine n'<|b'<|g'<|y'<|sr<|yy (as' z) z<|yy (o' 3 be' z z z) z<|mv z z ?_
    obtain⟨c,U,hr⟩:=hr
    refine yy (V' p' aP' (f.mono (mx (mx g t) i)) z z U) z<|yy (aj' bu' z (aJ' (J' (Z' f U) (mx (mx g t) i)))) z<|sx0 z z<|x'<|mv z z<|mv z z<|yy (Y0.shr z z (by decide)) z<|yy (av' ag' aL' z) z<|mv z z<|yy (Y0.shr z z (by decide)) z<|yy (av' ag' aL' z) z<|mv z z<|yy (Y0.shr z z (by decide)) z<|yy (av' ag' aL' z) z<|mv z z<|yy (av' ag' aL' z) z<|aF' (e:=5) (r:=(Rp.int .u8)) (vs:=#[(0,.int .u8 (u8.wrap (Int.fdiv c (2 ^ (min (24:Int).toNat u32.bits))))),(1,.int .u8 (u8.wrap (Int.fdiv c (2 ^ (min (16:Int).toNat u32.bits))))),(2,.int .u8 (u8.wrap (Int.fdiv c (2 ^ (min (8:Int).toNat u32.bits))))),(3,.int .u8 (u8.wrap c))]) (cs:=[.int .u8 (u8.wrap (Int.fdiv c (2 ^ (min (24:Int).toNat u32.bits))))]++([.int .u8 (u8.wrap (Int.fdiv c (2 ^ (min (16:Int).toNat u32.bits))))]++([.int .u8 (u8.wrap (Int.fdiv c (2 ^ (min (8:Int).toNat u32.bits))))]++([.int .u8 (u8.wrap c)]++([]))))) ([u8.wrap (Int.fdiv c (2 ^ (min (24:Int).toNat u32.bits))),u8.wrap (Int.fdiv c (2 ^ (min (16:Int).toNat u32.bits))),u8.wrap (Int.fdiv c (2 ^ (min (8:Int).toNat u32.bits))),u8.wrap c]:List Int) z z z z z (by decide) (fun _=>by kernel_rfl) ⟨[.int .u8 (u8.wrap (Int.fdiv c (2 ^ (min (24:Int).toNat u32.bits))))],[.int .u8 (u8.wrap (Int.fdiv c (2 ^ (min (16:Int).toNat u32.bits))))]++([.int .u8 (u8.wrap (Int.fdiv c (2 ^ (min (8:Int).toNat u32.bits))))]++([.int .u8 (u8.wrap c)]++([]))),z,z,⟨[.int .u8 (u8.wrap (Int.fdiv c (2 ^ (min (16:Int).toNat u32.bits))))],[.int .u8 (u8.wrap (Int.fdiv c (2 ^ (min (8:Int).toNat u32.bits))))]++([.int .u8 (u8.wrap c)]++([])),z,z,⟨[.int .u8 (u8.wrap (Int.fdiv c (2 ^ (min (8:Int).toNat u32.bits))))],[.int .u8 (u8.wrap c)]++([]),z,z,⟨[.int .u8 (u8.wrap c)],[],z,z,z⟩⟩⟩⟩ (key:=999) z (by rw[X]; rfl) (fun p1 ak E am=>?_)
    obtain⟨ae,hr⟩:=hr
    refine dl' (r:=(Rp.int .u8)) (e:=5) 5000 z z cn' el5 z (by decide) z z (V.mono E) z am ae fun p2 ah ab ap=>sg z z<|q'<|F'<|b'<|x'<|mv z z<|yy (W' z z) z<|sg z z<|q'<|T' ⟨(q++[u8.wrap (Int.fdiv c (2 ^ (min (24:Int).toNat u32.bits))),u8.wrap (Int.fdiv c (2 ^ (min (16:Int).toNat u32.bits))),u8.wrap (Int.fdiv c (2 ^ (min (8:Int).toNat u32.bits))),u8.wrap c]),p2,ah,ab,i64.wrap (C+1),ak⟩ hr ⟨(mx i E),ap⟩ (f3 z z z) (w2 z z)
   refine ae'<|h'<|h'<|I'<|af' ⟨q,m,n,d,l⟩ ⟨i,V,hr⟩ (f1 z) (w1 z)
 rintro⟨s,u,A,k,o⟩ ⟨ar,an,hr⟩
 refine b'<|sr<|mv z z<|sx0 z z<|k' ?_
 obtain rfl:_=r:=hr
 refine cg' (S':=St O B o [(5000,k)]) (w1 z)<|j' z z ⟨_,_,_,z,z,an⟩
theorem fo'{s h y B q f c e d r}(hr:(Zf1 s h).Ret r):CtrL prog 198 #[.slice y s.length B,.agg ((v59' h f c e d)).toArray] [(5000,q)] (fun G=>RowR (Rp.int .u8) 5 G (.slice y s.length B) s q/\sl (Rp.int .u32) G f c h.num.mag/\sl (Rp.int .u32) G e d h.den.mag) (fun G L v=>∃ P Q A,L=[(5000,A)]/\v = .slice P r.length Q/\RowR (Rp.int .u8) 5 G (.slice P r.length Q) r A):=by
 refine cd' (args:=[_,_]) (N:=12) func198 z z z (fun M X R H=>?_)
 obtain⟨D,j,i⟩:=H
 have hz:M.L.zero:=by
  rw[R]; intro p K x hx
  simp only[List.mem_cons,List.not_mem_nil,or_false] at K
  subst K; exact df' D hx
 refine sr<|ai' 3 z z z fun b2=>sx0 z z<|g'<|WC.drawnBP (l:=permOps [0,1,2,4,5,3,6,7] _) (Zi2 (by kernel_rfl)) [(3,bk0 b2 (v59' h f c e d) 59)] (lc z ln) [ff,ff,ff,tt,tt] mix (by kernel_rfl) fun t=>cn (fun _ C=>c' z)<|cn (fun _ C=>bk' z)<|cn (fun _ C=>al' ((v57' h.num f c)).toArray 3 at' z z z (ap' ([]) ((v57' h.num f c)) ((v57' h.den e d))))<|ci' z (aY' z)<|ci' z (al' ((v57' h.den e d)).toArray 3 at' z z z (ap' ((v57' h.num f c)) ((v57' h.den e d)) ([])))<|Chain.tailB t<|cZ' (fun w k=>k.weaken (lc z ln)) ?_
 obtain⟨ag,J,hr⟩:=hr
 refine cf' z z (m' E220 z) (eR' J) z (⟨D,j⟩) (lc z ln) hz (fun U ae T g n=>?_)
 obtain⟨Z,Y,S,rfl,rfl,F⟩:=n
 refine cM'<|cZ' (fun w k=>(k.memLe t g).weaken (lc z ln)) ?_
 obtain⟨af,E,hr⟩:=hr
 refine cf' z z (m' E220 z) (eR' E) z (⟨F,(i.mono g)⟩) (lc z ln) hz (fun ad O ac m o=>?_)
 obtain⟨V,W,u,rfl,rfl,I⟩:=o
 refine cM'<|WLT.y0 (fun w k=>(k.memLe t (mx g m)).weaken (lc z ln)) z (Y0.assign z) z<|WLT.nil (fun w k=>(k.memLe t (mx g m)).weaken (lc z ln))<|am'<|b'<|k' ?_
 obtain rfl:_=r:=hr
 refine cg' (S':=St M X O [(5000,u)]) (w1 z)<|j' z z ⟨_,_,_,z,z,I⟩
theorem fP'{b1 T aj ar Y I P r}(hr:(Zhe b1 T).Ret r):CtrL prog 169 #[.slice aj b1.length ar,.slice I T.length P] [(5000,Y)] (fun G=>RowR (Rp.int .u8) 5 G (.slice aj b1.length ar) b1 Y/\sl a' G I P T) (fun G L v=>∃ zp zc aw,L=[(5000,aw)]/\v = .slice zp r.length zc/\RowR (Rp.int .u8) 5 G (.slice zp r.length zc) r aw):=by
 refine cd' (args:=[_,_]) (N:=40) func169 z z z (fun U G0 aS aL=>?_)
 obtain⟨am,y⟩:=aL
 have hz:U.L.zero:=by
  rw[aS]; intro p hp x W
  simp only[List.mem_cons,List.not_mem_nil,or_false] at hp
  subst hp; exact df' am W
 refine sr<|sg z z<|nr<|mv z z<|mv z z<|yy (O' C' y z) z<|yy (av' aD' ad' z) z ?_
 obtain⟨aX,aE,hr⟩:=hr
 refine cf' z z (m' E168 z) (dP' aE) z (am) (lc z ln) hz (fun a6 Z a4 f R=>?_)
 obtain⟨aK,aA,ac,rfl,rfl,aH⟩:=R
 refine sx0 z z<|g'<|sr<|sx0 z z<|ab' (fun (⟨H,K,M,h,t⟩:(List Int)×Option Addr×Nat×Option Ow×Mem)=>[(0,.slice K H.length M)]) (fun ⟨H,K,M,h,t⟩=>Mem.le Z t/\RowR (Rp.int .u8) 5 t (.slice K H.length M) H h/\(ZeE H).Ret r) (fun ⟨H,K,M,h,t⟩=>St U G0 t [(5000,h)]) ?_ ?_
 .refine y' ?_
  let F:(List Int)->Prop:=fun oo=>((fun ov=>match ov with|H=>ZeE H:(List Int)->Cq (List Int)) oo).wp (fun a=>a=r)
  replace hr:(Cq.loop _ _).wp F:=hr
  refine ac' (Φ:=F) (fun (⟨C,n,q,e,o,j⟩:(List Int)×Option Addr×Nat×Option Ow×Int×Mem)=>((C,o):(List Int)×Int)) (fun ⟨C,n,q,e,o,j⟩=>[(0,.slice n C.length q),(1,.slice I T.length P),(5,i' o)]) (fun ⟨C,n,q,e,o,j⟩=>Mem.le Z j/\RowR (Rp.int .u8) 5 j (.slice n C.length q) C e) (fun ⟨C,n,q,e,o,j⟩=>St U G0 j [(5000,e)]) ⟨aX,aK,aA,ac,0,Z⟩ hr (f3 z z z) ⟨mr,aH⟩ (w1 z) ?_
  .intro ak gx W hr
   obtain⟨C,n,q,e,o,j⟩:=gx
   obtain⟨c,al⟩:=W
   refine g'<|sr<|mv z z<|mv z z<|yy (O' C' (y.mono (mx f c)) z) z<|yy (aa' z z) z<|nx<|P' hr z (fun a0 hr=>?_) (fun a0 hr=>?_)
   .refine n'<|b'<|g'<|y'<|sr<|mv z z<|mv z z<|mv z z ?_
    obtain⟨x1,ax,hr⟩:=hr
    refine yy (V' C' aW' (y.mono (mx f c)) z z ax) z<|yy (aV' z) z ?_
    obtain⟨ap,au,av,ao,aP,O,J⟩:=ce' (J' (br' (aG' (Z' y ax))) (mx f c))
    refine yy (ao' _ bc' z z aP) z ?_
    obtain⟨aT,aF,hr⟩:=hr
    refine cf' z z (m' E198 z) (fo' aF) z (⟨al,O,J⟩) (lc z ln) hz (fun a5 X a3 E V=>?_)
    obtain⟨aG,ay,af,rfl,rfl,aN⟩:=V
    refine sg z z<|nr<|sx0 z z<|ab' (fun (⟨u,A,B,g,l⟩:(List Int)×Option Addr×Nat×Option Ow×Mem)=>[(0,.slice A u.length B),(1,.slice I T.length P),(5,i' o)]) (fun ⟨u,A,B,g,l⟩=>Mem.le X l/\RowR (Rp.int .u8) 5 l (.slice A u.length B) u g/\(ZeF o u).wp (Out ak F)) (fun ⟨u,A,B,g,l⟩=>St U G0 l [(5000,g)]) ?_ ?_
    .refine y' ?_
     let aa:(List Int)->Prop:=fun oo=>((fun ov=>match ov with|u=>ZeF o u:(List Int)->Cq (((List Int)×Int)⊕(List Int))) oo).wp (Out ak F)
     replace hr:(Cq.loop _ _).wp aa:=hr
     refine ac' (Φ:=aa) (fun (⟨D,m,s,d,Q,i⟩:(List Int)×Option Addr×Nat×Option Ow×Int×Mem)=>((D,Q):(List Int)×Int)) (fun ⟨D,m,s,d,Q,i⟩=>[(0,.slice m D.length s),(1,.slice I T.length P),(5,i' o),(6,i' Q)]) (fun ⟨D,m,s,d,Q,i⟩=>Mem.le X i/\RowR (Rp.int .u8) 5 i (.slice m D.length s) D d) (fun ⟨D,m,s,d,Q,i⟩=>St U G0 i [(5000,d)]) ⟨aT,aG,ay,af,0,X⟩ hr (f4 z z z z) ⟨mr,aN⟩ (w1 z) ?_
     .intro a8 gx W hr
      obtain⟨D,m,s,d,Q,i⟩:=gx
      obtain⟨k,aq⟩:=W
      refine g'<|sr<|mv z z<|yy (aa' z z) z<|nx<|P' hr z (fun aU hr=>?_) (fun aU hr=>?_)
      .refine n'<|b'<|g'<|y'<|x'<|mv z z<|mv z z<|mv z z<|mv z z ?_
       obtain⟨x2,ai,hr⟩:=hr
       refine yy (V' C' aW' (y.mono (mx (mx (mx f c) E) k)) z z ai) z<|yy (aM' z) z ?_
       obtain⟨an,hr⟩:=hr
       refine yy (Y0.idxA ar' sz3 z z an) z<|yy (aj' sc3 z (dQ' (J' (bq' (aG' (Z' y ai))) (mx (mx (mx f c) E) k)) an)) z<|yy (av' aD' ad' z) z ?_
       obtain⟨aV,aI,hr⟩:=hr
       refine cf' z z (m' E168 z) (dP' aI) z (aq) (lc z ln) hz (fun a2 aW a7 ah S=>?_)
       obtain⟨az,aJ,ag,rfl,rfl,aC⟩:=S
       refine sg z z<|q'<|F'<|b'<|x'<|mv z z<|yy (W' z z) z<|sg z z<|q'<|T' ⟨aV,az,aJ,ag,i64.wrap (Q+1),aW⟩ hr ⟨(mx k ah),aC⟩ (f4 z z z z) (w1 z)
      refine ae'<|h'<|h'<|I'<|af' ⟨D,m,s,d,i⟩ ⟨k,aq,hr⟩ (f3 z z z) (w1 z)
    rintro⟨u,A,B,g,l⟩ ⟨ad,aO,hr⟩
    refine F'<|b'<|x'<|mv z z<|yy (W' z z) z<|sg z z<|q'<|T' ⟨u,A,B,g,i64.wrap (o+1),l⟩ hr ⟨(mx (mx c E) ad),aO⟩ (f3 z z z) (w1 z)
   refine ae'<|h'<|h'<|I'<|af' ⟨C,n,q,e,j⟩ ⟨c,al,hr⟩ (f1 z) (w1 z)
 rintro⟨H,K,M,h,t⟩ ⟨a1,aY,hr⟩
 refine b'<|sr<|mv z z<|sx0 z z<|k' ?_
 obtain rfl:_=r:=hr
 refine cg' (S':=St U G0 t [(5000,h)]) (w1 z)<|j' z z ⟨_,_,_,z,z,aY⟩
theorem eS'{D J K P C B A r}(hr:(Zei D J).Ret r):CtrL prog 111 #[.slice K D.length P,.slice B J.length A] [(5000,C)] (fun G=>RowR (Rp.int .u8) 5 G (.slice K D.length P) D C/\sl (Rp.sl a') G B A J) (fun G L v=>∃ zp zc M,L=[(5000,M)]/\v = .slice zp r.length zc/\RowR (Rp.int .u8) 5 G (.slice zp r.length zc) r M):=by
 refine cd' (args:=[_,_]) (N:=24) func111 z z z (fun H V am Z=>?_)
 obtain⟨R,q⟩:=Z
 have hz:H.L.zero:=by
  rw[am]; intro p hp x hx
  simp only[List.mem_cons,List.not_mem_nil,or_false] at hp
  subst hp; exact df' R hx
 refine sr<|sg z z<|nr<|mv z z<|mv z z<|yy (O' M' q z) z<|yy (av' aD' ad' z) z ?_
 obtain⟨ae,ac,hr⟩:=hr
 refine cf' z z (m' E168 z) (dP' ac) z (R) (lc z ln) hz (fun aq u ap l s=>?_)
 obtain⟨Y,X,F,rfl,rfl,W⟩:=s
 refine sx0 z z<|g'<|sr<|sx0 z z<|ab' (fun (⟨k,n,m,e,h⟩:(List Int)×Option Addr×Nat×Option Ow×Mem)=>[(0,.slice n k.length m)]) (fun ⟨k,n,m,e,h⟩=>Mem.le u h/\RowR (Rp.int .u8) 5 h (.slice n k.length m) k e/\(ZdU k).Ret r) (fun ⟨k,n,m,e,h⟩=>St H V h [(5000,e)]) ?_ ?_
 .refine y' ?_
  let y:(List Int)->Prop:=fun oo=>((fun ov=>match ov with|k=>ZdU k:(List Int)->Cq (List Int)) oo).wp (fun a=>a=r)
  replace hr:(Cq.loop _ _).wp y:=hr
  refine ac' (Φ:=y) (fun (⟨j,g,i,c,o,f⟩:(List Int)×Option Addr×Nat×Option Ow×Int×Mem)=>((j,o):(List Int)×Int)) (fun ⟨j,g,i,c,o,f⟩=>[(0,.slice g j.length i),(1,.slice B J.length A),(5,i' o)]) (fun ⟨j,g,i,c,o,f⟩=>Mem.le u f/\RowR (Rp.int .u8) 5 f (.slice g j.length i) j c) (fun ⟨j,g,i,c,o,f⟩=>St H V f [(5000,c)]) ⟨ae,Y,X,F,0,u⟩ hr (f3 z z z) ⟨mr,W⟩ (w1 z) ?_
  .intro ay gx hx hr
   obtain⟨j,g,i,c,o,f⟩:=gx
   obtain⟨d,Q⟩:=hx
   refine g'<|sr<|mv z z<|mv z z<|yy (O' M' (q.mono (mx l d)) z) z<|yy (aa' z z) z<|nx<|P' hr z (fun an hr=>?_) (fun an hr=>?_)
   .refine n'<|b'<|g'<|y'<|x'<|mv z z<|mv z z<|mv z z ?_
    obtain⟨x1,O,hr⟩:=hr
    refine yy (V' M' cj' (q.mono (mx l d)) z z O) z ?_
    obtain⟨p1,az,ah,ak⟩:=bl' (J' (Z' q O) (mx l d))
    refine yy (aj' bU' z (ah)) z ?_
    obtain⟨ad,S,hr⟩:=hr
    refine cf' z z (m' E169 z) (fP' S) z (⟨Q,ak⟩) (lc z ln) hz (fun ax ai aw I t=>?_)
    obtain⟨T,U,E,rfl,rfl,ab⟩:=t
    refine sg z z<|q'<|F'<|b'<|x'<|mv z z<|yy (W' z z) z<|sg z z<|q'<|T' ⟨ad,T,U,E,i64.wrap (o+1),ai⟩ hr ⟨(mx d I),ab⟩ (f3 z z z) (w1 z)
   refine ae'<|h'<|h'<|I'<|af' ⟨j,g,i,c,f⟩ ⟨d,Q,hr⟩ (f1 z) (w1 z)
 rintro⟨k,n,m,e,h⟩ ⟨ao,af,hr⟩
 refine b'<|sr<|mv z z<|sx0 z z<|k' ?_
 obtain rfl:_=r:=hr
 refine cg' (S':=St H V h [(5000,e)]) (w1 z)<|j' z z ⟨_,_,_,z,z,af⟩
theorem Zhz(y:(List Int))(q:Zc)(B:Option Addr)(D:Nat)(u:Option Ow)(g:Option Addr)(h:Nat)(d:Option Addr)(e:Nat)(r:(List Int))(hr:(ZdT y q).Ret r):CtrL prog 58 #[.slice B y.length D,.agg ((v28' q g h d e)).toArray] [(5000,u)] (fun G=>RowR (Rp.int .u8) 5 G (.slice B y.length D) y u/\sl (Rp.sl a') G g h q.eqs/\sl (Rp.sl a') G d e q.neqs) (fun G L v=>∃ S U C,L=[(5000,C)]/\v = .slice S r.length U/\RowR (Rp.int .u8) 5 G (.slice S r.length U) r C):=by
 refine cd' (args:=[_,_]) (N:=15) func58 z z z (fun R G0 V M=>?_)
 obtain⟨F,s,n⟩:=M
 have hz:R.L.zero:=by
  rw[V]; intro p Q x hx
  simp only[List.mem_cons,List.not_mem_nil,or_false] at Q
  subst Q; exact df' F hx
 refine sr<|ai' 3 z z z fun b2=>sx0 z z<|g'<|WC.drawnBP (l:=permOps [0,1,2,4,5,7,8,3,6,9,10] _) (Zi2 (by kernel_rfl)) [(3,bk0 b2 (v28' q g h d e) 28)] (lc z ln) [ff,ff,ff,tt,tt,tt,tt] mix (by kernel_rfl) fun t=>cn (fun _ E=>c' z)<|cn (fun _ E=>co' z)<|cn (fun _ E=>o' 3 sc3 z z z)<|ci' z (cR' z)<|ci' z (o' 3 sc25 z z z)<|ci' z (cB' z)<|ci' z (o' 3 sc25 z z z)<|Chain.tailB t<|cZ' (fun w i=>i.weaken (lc z ln)) ?_
 obtain⟨ap,P,hr⟩:=hr
 refine cf' z z (m' E112 z) (fE' P) z (F) (lc z ln) hz (fun Z an Y c m=>?_)
 obtain⟨ah,ae,X,rfl,rfl,K⟩:=m
 refine cM'<|cZ' (fun w i=>(i.memLe t c).weaken (lc z ln)) ?_
 obtain⟨ao,H,hr⟩:=hr
 refine cf' z z (m' E111 z) (eS' H) z (⟨K,(s.mono c)⟩) (lc z ln) hz (fun am ar al f o=>?_)
 obtain⟨aa,ab,W,rfl,rfl,O⟩:=o
 refine cM'<|cZ' (fun w i=>(i.memLe t (mx c f)).weaken (lc z ln)) ?_
 obtain⟨aq,J,hr⟩:=hr
 refine cf' z z (m' E111 z) (eS' J) z (⟨O,(n.mono (mx c f))⟩) (lc z ln) hz (fun ai T af j k=>?_)
 obtain⟨ac,ag,A,rfl,rfl,I⟩:=k
 refine cM'<|WLT.y0 (fun w i=>(i.memLe t (mx (mx c f) j)).weaken (lc z ln)) z (Y0.assign z) z<|WLT.nil (fun w i=>(i.memLe t (mx (mx c f) j)).weaken (lc z ln))<|am'<|b'<|k' ?_
 obtain rfl:_=r:=hr
 refine cg' (S':=St R G0 T [(5000,A)]) (w1 z)<|j' z z ⟨_,_,_,z,z,I⟩
theorem ZZ(a1 b1:Zc)(a1eqsp:Option Addr)(a1eqsc:Nat)(a1neqsp:Option Addr)(a1neqsc:Nat)(b1eqsp:Option Addr)(b1eqsc:Nat)(b1neqsp:Option Addr)(b1neqsc:Nat)(r:Bool)(hr:(ZU a1 b1).Ret r):Ctr prog 20 #[.agg ([.int .i64 a1.n,.slice a1eqsp a1.eqs.length a1eqsc,.slice a1neqsp a1.neqs.length a1neqsc]).toArray,.agg ([.int .i64 b1.n,.slice b1eqsp b1.eqs.length b1eqsc,.slice b1neqsp b1.neqs.length b1neqsc]).toArray] (fun G=>SlR (Rp.sl Zj) G (.slice a1eqsp a1.eqs.length a1eqsc) a1.eqs/\SlR (Rp.sl Zj) G (.slice a1neqsp a1.neqs.length a1neqsc) a1.neqs/\SlR (Rp.sl Zj) G (.slice b1eqsp b1.eqs.length b1eqsc) b1.eqs/\SlR (Rp.sl Zj) G (.slice b1neqsp b1.neqs.length b1neqsc) b1.neqs) (fun G v=>v = .bool r):=by
  refine Ctr.enter (args:=[_,_]) (N:=14) func20 rfl rfl rfl (fun w0 G0 hL0 hpre=>?_)
  obtain⟨a1eqsh,a1neqsh,b1eqsh,b1neqsh⟩:=hpre
  refine sr ?_
  refine WL.box 2 Ze rfl rfl (fun b1'=>?_)
  refine WL.box 3 Ze rfl rfl (fun b2'=>?_)
  refine sg rfl rfl<|nx<|WC.seq ?_
  obtain⟨yv1,hyv1,yv2,hyv2,hr⟩:=hr
  replace hr:_=r:=hr
  subst hr
  refine WC.drawn [false,false,false,false,false,false,false,false,false] mix (by kernel_rfl) (fun hb=>?_)
  refine Chain.litOwn (r:=Rp.int .u8) (e:=5) ([]:List Int) (fun _=>Ze) rfl (by decide) (fun u G' hle hu=>?_) ?_
  . exact⟨#[],[],rfl,rfl,fun _=>by kernel_rfl,rfl⟩
  refine cu (fun _ _ hle=>Y0.loadLA 2 ag28 rfl rfl rfl) ?_
  refine Chain.callEatR (f:=58) (kk:=5) (r:=Rp.int .u8) (e:=5) (xs:=([]:List Int)) (r':=Rp.int .u8) (e':=5) yv1 (fun _=>Ze) rfl (by kernel_rfl) (by kernel_rfl) (fun u G' hle hu=>?_) ?_
  . obtain⟨yu,_⟩:=(show (RowX (Rp.int .u8) 5 5 ([]:List Int)) (u 5) G'/\True from hu)
    exact⟨u 5,yu,fun p c tk e1 h1=>⟨_,_,_,fun _=>YC.of E58 rfl,Zhz _ _ p c tk _ _ _ _ _ hyv1,by simp only[undFr,e1] <;> rfl,h1,a1eqsh.mono hle,a1neqsh.mono hle⟩⟩
  refine Chain.y0UD (c:=.string (bytesOf yv1)) (fun _=>Ze) (fun u G' hle hu=>?_) ?_
  . obtain⟨⟨p,c,e1,h1⟩,_⟩:=(show SlX (Rp.int .u8) yv1 G'.m (u 7)/\_ from hu)
    simp only[undFr,e1]
    exact Y0.convBS underlying35 underlying5 underlying9 h1 rfl
  refine Chain.litOwn (r:=Rp.int .u8) (e:=5) ([]:List Int) (fun _=>Ze) rfl (by decide) (fun u G' hle hu=>?_) ?_
  . exact⟨#[],[],rfl,rfl,fun _=>by kernel_rfl,rfl⟩
  refine cu (fun _ _ hle=>Y0.loadLA 3 ag28 rfl rfl rfl) ?_
  refine Chain.callEatR (f:=58) (kk:=9) (r:=Rp.int .u8) (e:=5) (xs:=([]:List Int)) (r':=Rp.int .u8) (e':=5) yv2 (fun _=>Ze) rfl (by kernel_rfl) (by kernel_rfl) (fun u G' hle hu=>?_) ?_
  . obtain⟨yu,_⟩:=(show (RowX (Rp.int .u8) 5 9 ([]:List Int)) (u 9) G'/\_ from hu)
    exact⟨u 9,yu,fun p c tk e1 h1=>⟨_,_,_,fun _=>YC.of E58 rfl,Zhz _ _ p c tk _ _ _ _ _ hyv2,by simp only[undFr,e1] <;> rfl,h1,b1eqsh.mono hle,b1neqsh.mono hle⟩⟩
  refine Chain.y0UD (c:=.string (bytesOf yv2)) (fun _=>Ze) (fun u G' hle hu=>?_) ?_
  . obtain⟨⟨p,c,e1,h1⟩,_⟩:=(show SlX (Rp.int .u8) yv2 G'.m (u 11)/\_ from hu)
    simp only[undFr,e1]
    exact Y0.convBS underlying35 underlying5 underlying9 h1 rfl
  refine Chain.y0U (c:=.bool (decide (bytesOf yv1=bytesOf yv2))) (fun _=>Ze) (fun u G' hle=>Y0.eqlS underlying9 rfl rfl) ?_
  refine Chain.tailX4 (fun v4 v3 v2 v1 X Xle h4 h3 h2 h1=>?_)
  refine WL.unX (show WL _ _ _ _ _ _ (St w0 G0 X.m _) from ?_)
  refine sg rfl rfl<|WL.nil<|WE.nx<|WE.then<|WC.ret ?_
  exact WE.ret1 rfl rfl rfl
theorem dm'{g k j r}(hr:(ZbR g).Ret r):Ctr prog 170 #[.slice k g.length j] (fun G=>sl (Rp.int .u32) G k j g) (wl' (Rp.int .u32) r):=by
 refine H' (args:=[_]) (N:=21) func170 z z z (fun s l E p=>?_)
 have i:=p
 refine sr<|sg z z<|nr<|mv z z<|yy (O' p' i z) z<|sx0 z z<|g'<|ab' (fun (⟨h,f⟩:Int×Mem)=>[(0,.slice k g.length j),(3,i' h)]) (fun ⟨h,f⟩=>Mem.le l f/\(Zex g h).Ret r) (fun ⟨h,f⟩=>St s l f []) ?_ ?_
 .refine y' ?_
  let m:Int->Prop:=fun A=>((fun x=>match x with|h=>Zex g h:Int->Cq (List Int)) A).wp (fun a=>a=r)
  replace hr:(Cq.loop _ _).wp m:=hr
  refine ac' (Φ:=m) (fun (⟨e,c⟩:Int×Mem)=>(e:Int)) (fun ⟨e,c⟩=>[(0,.slice k g.length j),(3,i' e)]) (fun ⟨e,c⟩=>Mem.le l c) (fun ⟨e,c⟩=>St s l c []) ⟨(g.length:Int),l⟩ hr (f2 z z) mr (wk ln) ?_
  .intro C y B hr
   obtain⟨e,c⟩:=y
   have d:=B
   refine g'<|sr<|mv z z<|aE' hr z (aS' z z) z (fun u hr=>?_) (fun u hr=>?_)
   .refine mv z z<|gy z z (c' z) z<|gy z z (c' z) z<|gy z z (ba' z z) z ?_
    obtain⟨H,o,hr⟩:=hr
    refine gy z z (V' p' aP' (i.mono d) z z o) z<|gy z z (aj' bu' z (aJ' (J' (Z' i o) d))) z<|gy z z (aH' z z) z<|yy (w' z z) z<|nx<|P' hr z (fun v hr=>?_) (fun v hr=>?_)
    .refine n'<|b'<|y'<|x'<|mv z z<|yy (ba' z z) z<|sg z z<|q'<|F'<|T' ⟨i64.wrap (e-1),c⟩ hr d (f2 z z) (wk ln)
    refine ae'<|h'<|h'<|I'<|af' ⟨e,c⟩ ⟨d,hr⟩ (f2 z z) (wk ln)
   refine mv z z<|sn6 z<|yy (t' z z) z<|nx<|bw' z<|ae'<|h'<|h'<|I'<|af' ⟨e,c⟩ ⟨d,hr⟩ (f2 z z) (wk ln)
 rintro⟨h,f⟩ ⟨n,hr⟩
 refine b'<|sr<|mv z z<|mv z z ?_
 obtain⟨q,hr⟩:=hr
 refine WL.sliceRH (r:=(Rp.int .u32)) z z p' aP' z (i.mono n) z z q fun F D t=>sx0 z z<|k' ?_
 obtain rfl:_=r:=hr
 exact j' z z ⟨_,_,z,t⟩
theorem dL'{c r}(hr:(Zc2 c).Ret r):Ctr prog 115 #[.int .u64 c] (fun G=>True) (wl' (Rp.int .u32) r):=by
 refine H' (args:=[_]) (N:=11) func115 z z z fun v t i o=>sr<|sg z z<|nr<|mv z z<|yy (bP' z z (by decide)) z<|yy (av' ad' ag' z) z<|mv z z<|yy (cV' z z (by decide)) z<|yy (av' ad' ag' z) z<|aF' (e:=182) (r:=(Rp.int .u32)) (vs:=#[(0,.int .u32 (u32.wrap (Int.tmod c 4294967296))),(1,.int .u32 (u32.wrap (u64.wrap (Int.tdiv c 4294967296))))]) (cs:=[.int .u32 (u32.wrap (Int.tmod c 4294967296))]++([.int .u32 (u32.wrap (u64.wrap (Int.tdiv c 4294967296)))]++([]))) ([u32.wrap (Int.tmod c 4294967296),u32.wrap (u64.wrap (Int.tdiv c 4294967296))]:List Int) z z z z z (by decide) (fun _=>by kernel_rfl) ⟨[.int .u32 (u32.wrap (Int.tmod c 4294967296))],[.int .u32 (u32.wrap (u64.wrap (Int.tdiv c 4294967296)))]++([]),z,z,⟨[.int .u32 (u32.wrap (u64.wrap (Int.tdiv c 4294967296)))],[],z,z,z⟩⟩ (key:=999) z (by rw[i]; rfl) (fun u p k h=>?_)
 obtain⟨q,g,hr⟩:=hr
 refine N' z z (m' E170 z) (dm' g) z (h) (fun l s j d=>?_)
 obtain⟨n,m,rfl,f⟩:=d
 refine sx0 z z<|k' ?_
 obtain rfl:_=r:=hr
 exact j' z z ⟨_,_,z,f⟩
theorem cw'{h m k j r}(hr:(Zac h m).Ret r):Ctr prog 114 #[.bool h,.slice k m.length j] (fun G=>sl (Rp.int .u32) G k j m) (w57' r):=by
 refine H' (args:=[_,_]) (N:=16) func114 z z z (fun A y u l=>?_)
 have o:=l
 refine sr<|X' 4 z z57 z fun x=>nr<|mv z z ?_
 obtain⟨c,n,hr⟩:=hr
 refine N' z z (m' E170 z) (dm' n) z (o) (fun s t q g=>?_)
 obtain⟨e,d,rfl,f⟩:=g
 refine sg z z<|nr<|aE' hr z (db' (c' z) (congrArg Value.bool (bdec _))) z (fun p hr=>?_) (fun p hr=>?_)
 .refine mv z z<|gy z z (c' z) z<|gy z z (O' p' f z) z<|gy z z (aS' z z) z<|yy (w' z z) z<|mv z z<|yy (au' (vs:=#[(0,.bool (decide (0<(c.length:Int)))),(1,.slice e c.length d)]) (v:=.agg ([.bool (decide (0<(c.length:Int))),.slice e c.length d]).toArray) z z (fun _=>by kernel_rfl)) z<|B' 4 z bn' z z z z z (List.all_eq_true.1 z)<|nx<|k' ?_
  obtain rfl:_=r:=hr
  exact j' z (aw' (i:=4) at' z z z) ⟨_,_,z,f⟩
 refine mv z z<|sn3 z<|yy (t' z z) z<|mv z z<|yy (au' (vs:=#[(0,.bool false),(1,.slice e c.length d)]) (v:=.agg ([.bool false,.slice e c.length d]).toArray) z z (fun _=>by kernel_rfl)) z<|B' 4 z bn' z z z z z (List.all_eq_true.1 z)<|nx<|k' ?_
 obtain rfl:_=r:=hr
 exact j' z (aw' (i:=4) at' z z z) ⟨_,_,z,f⟩
theorem di'{u r}(hr:(ZeP u).Ret r):Ctr prog 61 #[i' u] (fun G=>True) (w57' r):=by
 refine H' (args:=[_]) (N:=16) func61 z z z fun Y X V K=>sr<|X' 2 z z57 z fun W=>nx<|g'<|sr<|mv z z<|yy (aa' z z) z<|nx<|P' hr z (fun v hr=>?_) (fun v hr=>?_)
 .refine sr<|mv z z<|yy (W' z z) z<|yy (Y0.neg z) z<|yy (av' cp' ad' z) z<|yy (W' z z) z ?_
  obtain⟨Q,o,hr⟩:=hr
  refine N' z z (m' E115 z) (dL' o) z (trivial) (fun C M B d=>?_)
  obtain⟨I,F,rfl,n⟩:=d
  obtain⟨O,j,hr⟩:=hr
  refine N' z z (m' E114 z) (cw' j) z (n) (fun L T A g=>?_)
  obtain⟨s,q,rfl,e⟩:=g
  refine B' 2 z bn' z z z z z (List.all_eq_true.1 z)<|nx<|k'<|f' ?_
  obtain rfl:_=r:=hr
  exact j' z (aw' (i:=2) at' z z z) ⟨_,_,z,e⟩
 refine n'<|b'<|sr<|mv z z<|yy (av' cp' ad' z) z ?_
 obtain⟨S,m,hr⟩:=hr
 refine N' z z (m' E115 z) (dL' m) z (trivial) (fun J U y c=>?_)
 obtain⟨D,H,rfl,l⟩:=c
 obtain⟨P,k,hr⟩:=hr
 refine N' z z (m' E114 z) (cw' k) z (l) (fun E R x f=>?_)
 obtain⟨p,t,rfl,h⟩:=f
 refine B' 2 z bn' z z z z z (List.all_eq_true.1 z)<|nx<|k' ?_
 obtain rfl:_=r:=hr
 exact j' z (aw' (i:=2) at' z z z) ⟨_,_,z,h⟩
theorem cc'{q r}(hr:(Zaa q).Ret r):Ctr prog 26 #[i' q] (fun G=>True) (w59' r):=by
 refine H' (args:=[_]) (N:=7) func26 z z z fun E D B u=>sr<|X' 2 z z59 z fun C=>nr<|mv z z ?_
 obtain⟨m,p,hr⟩:=hr
 refine N' z z (m' E61 z) (di' p) z (trivial) (fun t y s g=>?_)
 obtain⟨c,d,rfl,j⟩:=g
 obtain⟨l,o,hr⟩:=hr
 refine N' z z (m' E61 z) (di' o) z (trivial) (fun x A n k=>?_)
 obtain⟨f,e,rfl,h⟩:=k
 refine yy (au' (vs:=#[(0,.agg ((v57' m c d)).toArray),(1,.agg ((v57' l f e)).toArray)]) (v:=.agg ([.bool m.neg,.slice c m.mag.length d,.bool l.neg,.slice f l.mag.length e]).toArray) z z (fun _=>by kernel_rfl)) z<|B' 2 z ch' z z z z z (List.all_eq_true.1 z)<|nx<|k' ?_
 obtain rfl:_=r:=hr
 exact j' z (aw' (i:=2) bc' z z z) ⟨_,_,_,_,z,(j.mono n),h⟩
theorem ec'{f d c r}(hr:(ZdK f).Ret r):Ctr prog 121 #[.agg ((v57' f d c)).toArray] (fun G=>sl (Rp.int .u32) G d c f.mag) (fun G v=>v=i' r):=by
 refine H' (args:=[_]) (N:=9) func121 z z z (fun k l i g=>?_)
 have e:=g
 refine sr<|ai' 1 z z z fun j=>sx0 z z<|g'<|sr<|yy (aQ' z) z<|yy (o' 1 sc4 z z z) z<|nx<|aK' hr z (fun h hr=>?_) (fun h hr=>?_)
 .refine sr<|sx0 z z<|k'<|f' (k0' hr z z)
 refine n'<|b'<|sr<|yy (as' z) z<|yy (o' 1 be' z z z) z<|yy (O' p' e z) z<|yy (Y0.min2 z z) z<|sx0 z z<|k' (k0' hr z z)
theorem cT'{h d c f e r}(hr:(Z5 h).Ret r):Ctr prog 65 #[.agg ((v59' h d c f e)).toArray] (fun G=>sl (Rp.int .u32) G d c h.num.mag/\sl (Rp.int .u32) G f e h.den.mag) (fun G v=>v=i' r):=by
 refine H' (args:=[_]) (N:=6) func65 z z z (fun o p m j=>?_)
 obtain⟨g,i⟩:=j
 refine sr<|ai' 1 z z z fun n=>sg z z<|nr<|yy (bk' z) z<|yy (al' ((v57' h.num d c)).toArray 1 at' z z z (ap' ([]) ((v57' h.num d c)) ((v57' h.den f e)))) z ?_
 obtain⟨l,k,hr⟩:=hr
 refine K' z z (m' E121 z) (ec' k) z (g)<|sx0 z z<|k' (k0' hr z z)
theorem dn'{h g c d f r}(hr:(Zcd h).Ret r):Ctr prog 51 #[.agg ((v59' h g c d f)).toArray] (fun G=>sl (Rp.int .u32) G g c h.num.mag/\sl (Rp.int .u32) G d f h.den.mag) (wl' a' r):=by
 refine H' (args:=[_]) (N:=9) func51 z z z (fun y u n k=>?_)
 obtain⟨j,i⟩:=k
 refine sr<|ai' 1 z z z fun t=>sx0 z z<|g'<|sr<|yy (D' 1 bc' z z z) z ?_
 obtain⟨q,l,hr⟩:=hr
 refine K' z z (m' E65 z) (cT' l) z (⟨j,i⟩)<|yy (aH' z z) z<|nx<|P' hr z (fun o hr=>?_) (fun o hr=>?_)
 .refine sr<|sx0 z z<|k'<|f' ?_
  obtain rfl:_=r:=hr
  exact j' z z ⟨_,_,z,(ay' a' _)⟩
 refine n'<|b'<|sr<|yy (D' 1 bc' z z z) z<|yy (au' (vs:=#[(0,.agg ((v59' h g c d f)).toArray)]) (v:=.agg (((v59' h g c d f):List Value)++(vecG (Value.int .i64) 8 (fun _=>0))).toArray) z z (fun _=>by kernel_rfl)) z<|aF' (e:=119) (r:=a') (vs:=#[(0,.agg (((v59' h g c d f):List Value)++(vecG (Value.int .i64) 8 (fun _=>0))).toArray)]) (cs:=(((v59' h g c d f):List Value)++(vecG (Value.int .i64) 8 (fun _=>0)))++([])) ([(Za.mk h (fun _=>0))]:List Za) z z z z z (by decide) (fun _=>by kernel_rfl) ⟨((v59' h g c d f):List Value)++(vecG (Value.int .i64) 8 (fun _=>0)),[],z,⟨(v59' h g c d f),vecG (Value.int .i64) 8 (fun _=>0),z,⟨(v57' h.num g c),(v57' h.den d f),z,⟨[.bool h.num.neg],[.slice g h.num.mag.length c],z,z,⟨_,z,j⟩⟩,⟨[.bool h.den.neg],[.slice d h.den.mag.length f],z,z,⟨_,z,i⟩⟩⟩,z⟩,z⟩ (key:=999) z (by rw[n]; rfl) fun x s p m=>sx0 z z<|k' ?_
 obtain rfl:_=r:=hr
 exact j' z z ⟨_,_,z,m⟩
theorem eT'{l r}(hr:(Zef l).Ret r):Ctr prog 124 #[.agg (vecG (Value.int .i64) 8 l).toArray] (fun G=>True) (fun G v=>v = .bool r):=by
 refine H' (args:=[_]) (N:=18) func124 z z z fun o h B t=>sr<|ai' 1 z z z fun m=>sx0 z z<|g'<|sr<|sx0 z z<|ab' (fun (e:Mem)=>match e with|d=>[]) (fun (e:Mem)=>match e with|d=>Mem.le h d/\(ZdP).Ret r) (fun (e:Mem)=>match e with|d=>St o h d []) ?_ ?_
 .refine y' ?_
  let i:(Bool⊕Unit)->Prop:=fun x=>((fun u=>match u with | .inl rv1=>Cq.ret rv1 | .inr ()=>ZdP:(Bool⊕Unit)->Cq Bool) x).wp (fun a=>a=r)
  replace hr:(Cq.loop _ _).wp i:=hr
  refine ac' (Φ:=i) (fun (⟨f,c⟩:Int×Mem)=>(f:Int)) (fun ⟨f,c⟩=>[(1,pt0 m),(3,i' f)]) (fun ⟨f,c⟩=>Mem.le h c) (fun ⟨f,c⟩=>St o h c [(1,bk0 m (vecG (Value.int .i64) 8 l) 68)]) ⟨0,h⟩ hr (f2 z z) mr (w1 z) ?_
  .intro A e y hr
   obtain⟨f,c⟩:=e
   have g:=y
   refine g'<|sr<|mv z z<|yy (aa' z z) z<|nx<|P' hr z (fun q hr=>?_) (fun q hr=>?_)
   .refine n'<|b'<|g'<|y'<|sr<|mv z z ?_
    obtain⟨j,hr⟩:=hr
    refine yy (aT' ar' sz3 z z j) z<|yy (o' 1 sc3 z z (bh' _ _ _ j)) z<|aE' hr z (aa' z z) z (fun p hr=>?_) (fun p hr=>?_)
    .refine mv z z<|sn4 z<|yy (w' z z) z<|nx<|aB' z<|sr<|sx0 z z<|k'<|A'<|f'<|f'<|A'<|an'<|f' (k0' hr z z)
    refine mv z z<|gy z z (c' z) z ?_
    obtain⟨k,hr⟩:=hr
    refine gy z z (aT' ar' sz3 z z k) z<|gy z z (o' 1 sc3 z z (bh' _ _ _ k)) z<|gy z z (aS' z z) z<|yy (t' z z) z<|nx<|P' hr z (fun n hr=>?_) (fun n hr=>?_)
    .exact (show False from hr).elim
    refine n'<|F'<|b'<|x'<|mv z z<|yy (W' z z) z<|sg z z<|q'<|T' ⟨i64.wrap (f+1),c⟩ hr g (f2 z z) (w1 z)
   refine ae'<|h'<|h'<|I'<|af' c ⟨g,hr⟩ fn (wk ln)
 rintro d ⟨s,hr⟩
 refine b'<|sr<|sx0 z z<|k' (k0' hr z z)
theorem fU'{s k r}(hr:(Zin s k).Ret r):Ctr prog 66 #[.agg (vecG (Value.int .i64) 8 s).toArray,.agg (vecG (Value.int .i64) 8 k).toArray] (fun G=>True) (fun G v=>v = .tuple #[.agg (vecG (Value.int .i64) 8 r.1).toArray,i' r.2]):=by
 refine H' (args:=[_,_]) (N:=24) func66 z z z fun B l Q I=>sr<|ai' 2 z z z fun n=>ai' 3 z z z fun y=>X' 4 z z68 z fun o=>sx0 z z<|g'<|sr<|sx0 z z<|ab' (fun (⟨d,g⟩:(Fin 8->Int)×Mem)=>[(2,pt0 n),(4,pt0 o)]) (fun ⟨d,g⟩=>Mem.le l g/\(Ze9 d).Ret r) (fun ⟨d,g⟩=>St B l g [(2,bk0 n (vecG (Value.int .i64) 8 d) 68),(4,bk0 o (vecG (Value.int .i64) 8 (fun _=>0)) 68)]) ?_ ?_
 .refine y' ?_
  let m:(Fin 8->Int)->Prop:=fun L=>((fun J=>match J with|d=>Ze9 d:(Fin 8->Int)->Cq ((Fin 8->Int)×Int)) L).wp (fun a=>a=r)
  replace hr:(Cq.loop _ _).wp m:=hr
  refine ac' (Φ:=m) (fun (⟨e,c,f⟩:Int×(Fin 8->Int)×Mem)=>((e,c):Int×(Fin 8->Int))) (fun ⟨e,c,f⟩=>[(2,pt0 n),(3,pt0 y),(4,pt0 o),(6,i' e)]) (fun ⟨e,c,f⟩=>Mem.le l f) (fun ⟨e,c,f⟩=>St B l f [(2,bk0 n (vecG (Value.int .i64) 8 c) 68),(3,bk0 y (vecG (Value.int .i64) 8 k) 68),(4,bk0 o (vecG (Value.int .i64) 8 (fun _=>0)) 68)]) ⟨0,s,l⟩ hr (f4 z z z z) mr (w3 z z z) ?_
  .intro P K M hr
   obtain⟨e,c,f⟩:=K
   have j:=M
   refine g'<|sr<|mv z z<|yy (aa' z z) z<|nx<|P' hr z (fun A hr=>?_) (fun A hr=>?_)
   .refine n'<|b'<|g'<|y'<|ak' [ff,ff,ff,ff,ff,ff] mix (by kernel_rfl) fun H=>cn (fun _ h=>c' z) ?_
    obtain⟨p,hr⟩:=hr
    refine cn (fun _ h=>aT' ar' sz3 z z p)<|cn (fun _ h=>o' 2 sc3 z z (bh' _ _ _ p))<|cn (fun _ h=>c' z) ?_
    obtain⟨q,hr⟩:=hr
    refine cn (fun _ h=>aT' ar' sz3 z z q)<|cn (fun _ h=>o' 3 sc3 z z (bh' _ _ _ q))<|ah' H<|yy (W' z z) z ?_
    obtain⟨D,hr⟩:=hr
    refine yy (aT' ar' sz3 z z D) z<|by' 2 (vecG (Value.int .i64) 8 (setF c e.toNat (i64.wrap ((getF c e)+(getF k e))))).toArray z sz3 z z z (by first|(rw[Q']; omega)|(show _<(vecG _ _ _).toArray.size; rw[Q']; omega)) z (cL' _ _ _ _ _)<|q'<|am'<|F'<|b'<|x'<|mv z z<|yy (W' z z) z<|sg z z<|q'<|T' ⟨i64.wrap (e+1),setF c e.toNat (i64.wrap ((getF c e)+(getF k e))),f⟩ hr j (f4 z z z z) (w3 z z z)
   refine ae'<|h'<|h'<|I'<|af' ⟨c,f⟩ ⟨j,hr⟩ (f2 z z) (w2 z z)
 rintro⟨d,g⟩ ⟨F,hr⟩
 refine b'<|g'<|sr<|yy (D' 2 bo' z z (Q' _ _ _)) z ?_
 obtain⟨O,t,hr⟩:=hr
 refine K' z z (m' E124 z) (eT' t) z (trivial)<|yy (aA' z) z<|nx<|aK' hr z (fun E hr=>?_) (fun E hr=>?_)
 .exact (show False from hr).elim
 refine n'<|b'<|sr<|yy (D' 2 bo' z z (Q' _ _ _)) z<|B' 4 z sz68 z z z (Q' _ _ _) (Q' _ _ _) (fun u C=>Rp.one (bD' .i64 8) (G:=g) (x:=d) (cs:=vecG (Value.int .i64) 8 d) z u (by first|simpa using C|simpa [Value.cells] using C))<|sx0 z z<|k' ?_
 obtain rfl:_=r:=hr
 exact bd' z (aw' (i:=4) bo' z z (Q' _ _ _)) z z
theorem fK'{d c B H E F r}(hr:(ZiD d c).Ret r):Ctr prog 119 #[.slice B d.length H,.slice E c.length F] (fun G=>sl (Rp.int .u32) G B H d/\sl (Rp.int .u32) G E F c) (wl' (Rp.int .u32) r):=by
 refine H' (args:=[_,_]) (N:=69) func119 z z z (fun Z O ar ao=>?_)
 obtain⟨I,C⟩:=ao
 refine sr<|sg z z<|nr<|mv z z<|yy (O' p' I z) z<|mv z z<|yy (O' p' C z) z<|yy (W' z z) z ?_
 obtain⟨aq,hr⟩:=hr
 refine cS' (r:=(Rp.int .u32)) (e:=182) (n:=i64.wrap ((d.length:Int)+(c.length:Int))) (zx:=0) 4015 z z p' el182 z (by decide) (by decide) z z z aq fun M ag av=>sx0 z z<|g'<|sr<|sx0 z z<|ab' (fun (⟨A,q,K⟩:(List Int)×Option Ow×Mem)=>[(5,.slice M (i64.wrap ((d.length:Int)+(c.length:Int))).toNat ((i64.wrap ((d.length:Int)+(c.length:Int))).toNat))]) (fun ⟨A,q,K⟩=>Mem.le O K/\RowR (Rp.int .u32) 182 K (.slice M (i64.wrap ((d.length:Int)+(c.length:Int))).toNat ((i64.wrap ((d.length:Int)+(c.length:Int))).toNat)) A q/\(ZdN A).Ret r) (fun ⟨A,q,K⟩=>St Z O K [(4015,q)]) ?_ ?_
 .refine y' ?_
  let L:(List Int)->Prop:=fun oo=>((fun ov=>match ov with|A=>ZdN A:(List Int)->Cq (List Int)) oo).wp (fun a=>a=r)
  replace hr:(Cq.loop _ _).wp L:=hr
  refine ac' (Φ:=L) (fun (⟨s,h,g,x⟩:(List Int)×Option Ow×Int×Mem)=>((s,g):(List Int)×Int)) (fun ⟨s,h,g,x⟩=>[(0,.slice B d.length H),(1,.slice E c.length F),(5,.slice M (i64.wrap ((d.length:Int)+(c.length:Int))).toNat ((i64.wrap ((d.length:Int)+(c.length:Int))).toNat)),(6,i' g)]) (fun ⟨s,h,g,x⟩=>Mem.le O x/\RowR (Rp.int .u32) 182 x (.slice M (i64.wrap ((d.length:Int)+(c.length:Int))).toNat ((i64.wrap ((d.length:Int)+(c.length:Int))).toNat)) s h) (fun ⟨s,h,g,x⟩=>St Z O x [(4015,h)]) ⟨(List.replicate (i64.wrap ((d.length:Int)+(c.length:Int))).toNat 0),ag,0,O⟩ hr (f4 z z z z) ⟨mr,av⟩ (w1 z) ?_
  .intro ad gx hx hr
   obtain⟨s,h,g,x⟩:=gx
   obtain⟨j,R⟩:=hx
   refine g'<|sr<|mv z z<|mv z z<|yy (O' p' (I.mono j) z) z<|yy (aa' z z) z<|nx<|P' hr z (fun ay hr=>?_) (fun ay hr=>?_)
   .refine n'<|b'<|g'<|y'<|sr<|sx0 z z<|g'<|sr<|sx0 z z<|ab' (fun (⟨v,u,m,J⟩:(List Int)×Option Ow×Int×Mem)=>[(0,.slice B d.length H),(1,.slice E c.length F),(5,.slice M (i64.wrap ((d.length:Int)+(c.length:Int))).toNat ((i64.wrap ((d.length:Int)+(c.length:Int))).toNat)),(6,i' g),(7,.int .u64 m)]) (fun ⟨v,u,m,J⟩=>Mem.le x J/\RowR (Rp.int .u32) 182 J (.slice M (i64.wrap ((d.length:Int)+(c.length:Int))).toNat ((i64.wrap ((d.length:Int)+(c.length:Int))).toNat)) v u/\(ZdO c g v m).wp (Out ad L)) (fun ⟨v,u,m,J⟩=>St Z O J [(4015,u)]) ?_ ?_
    .refine y' ?_
     let T:(((List Int)×Int))->Prop:=fun oo=>((fun ov=>match ov with|(v,m)=>ZdO c g v m:(((List Int)×Int))->Cq (((List Int)×Int)⊕(List Int))) oo).wp (Out ad L)
     replace hr:(Cq.loop _ _).wp T:=hr
     refine ac' (Φ:=T) (fun (⟨t,k,l,p,D⟩:(List Int)×Option Ow×Int×Int×Mem)=>((t,l,p):(List Int)×Int×Int)) (fun ⟨t,k,l,p,D⟩=>[(0,.slice B d.length H),(1,.slice E c.length F),(5,.slice M (i64.wrap ((d.length:Int)+(c.length:Int))).toNat ((i64.wrap ((d.length:Int)+(c.length:Int))).toNat)),(6,i' g),(7,.int .u64 l),(8,i' p)]) (fun ⟨t,k,l,p,D⟩=>Mem.le x D/\RowR (Rp.int .u32) 182 D (.slice M (i64.wrap ((d.length:Int)+(c.length:Int))).toNat ((i64.wrap ((d.length:Int)+(c.length:Int))).toNat)) t k) (fun ⟨t,k,l,p,D⟩=>St Z O D [(4015,k)]) ⟨s,h,0,0,x⟩ hr (f6 z z z z z z) ⟨mr,R⟩ (w1 z) ?_
     .intro aI gx hx hr
      obtain⟨t,k,l,p,D⟩:=gx
      obtain⟨o,y⟩:=hx
      refine g'<|sr<|mv z z<|mv z z<|yy (O' p' (C.mono (mx j o)) z) z<|yy (aa' z z) z<|nx<|P' hr z (fun au hr=>?_) (fun au hr=>?_)
      .refine n'<|b'<|g'<|y'<|g'<|ak' [ff,ff,ff,ff,ff,ff,ff,ff,ff,ff,ff,ff,ff,ff,ff,ff,ff,ff,ff,ff] mix (by kernel_rfl) fun hb=>cn (fun _ f=>c' z)<|cn (fun _ f=>c' z) ?_
       obtain⟨V,aa,hr⟩:=hr
       refine cn (fun _ f=>V' p' aP' ((I.mono (mx j o)).mono f) z z aa)<|cn (fun _ f=>aj' bu' z (aJ' (J' (J' (Z' I aa) (mx j o)) f)))<|cn (fun _ f=>av' ag' ad' z)<|cn (fun _ f=>c' z)<|cn (fun _ f=>c' z) ?_
       obtain⟨X,ae,hr⟩:=hr
       refine cn (fun _ f=>V' p' aP' ((C.mono (mx j o)).mono f) z z ae)<|cn (fun _ f=>aj' bu' z (aJ' (J' (J' (Z' C ae) (mx j o)) f)))<|cn (fun _ f=>av' ag' ad' z)<|cn (fun _ f=>dd' z z)<|cn (fun _ f=>c' z)<|cn (fun _ f=>c' z)<|cn (fun _ f=>c' z)<|cn (fun _ f=>W' z z) ?_
       obtain⟨W,ab,hr⟩:=hr
       refine cn (fun _ f=>bs' p' aP' (y.mono f) z z ab)<|cn (fun _ f=>Y0.loadT bu' (y.mono f) (key:=4015) z z (aJ' (RowR.at y ab)))<|cn (fun _ f=>av' ag' ad' z)<|cn (fun _ f=>W' z z)<|cn (fun _ f=>c' z)<|ah' hb<|yy (W' z z) z<|sg z z<|q'<|am'<|b'<|sr<|mv z z<|mv z z<|mv z z<|yy (W' z z) z<|mv z z<|yy (bP' z z (by decide)) z<|yy (av' ad' ag' z) z ?_
       obtain⟨x5,ac,hr⟩:=hr
       refine yy (bs' p' aP' y z z ac) z<|bT' (r:=(Rp.int .u32)) (e:=182) (cs':=[.int .u32 (u32.wrap (Int.tmod (u64.wrap ((u64.wrap ((u64.wrap ((u64.wrap V)*(u64.wrap X)))+(u64.wrap W)))+l)) 4294967296))]) (i:=i64.wrap (g+p)) (z':=u32.wrap (Int.tmod (u64.wrap ((u64.wrap ((u64.wrap ((u64.wrap V)*(u64.wrap X)))+(u64.wrap W)))+l)) 4294967296)) 4015 z aP' z y z z z z z ac fun aw an=>nx<|x'<|mv z z<|yy (cV' z z (by decide)) z<|sg z z<|q'<|F'<|b'<|x'<|mv z z<|yy (W' z z) z<|sg z z<|q'<|T' ⟨(t.set (i64.wrap (g+p)).toNat (u32.wrap (Int.tmod (u64.wrap ((u64.wrap ((u64.wrap ((u64.wrap V)*(u64.wrap X)))+(u64.wrap W)))+l)) 4294967296))),aw,u64.wrap (Int.tdiv (u64.wrap ((u64.wrap ((u64.wrap ((u64.wrap V)*(u64.wrap X)))+(u64.wrap W)))+l)) 4294967296),i64.wrap (p+1),D⟩ hr ⟨o,an⟩ (f6 z z z z z z) (w1 z)
      refine ae'<|h'<|h'<|I'<|af' ⟨t,k,l,D⟩ ⟨o,y,hr⟩ (f5 z z z z z) (w1 z)
    rintro⟨v,u,m,J⟩ ⟨P,Q,hr⟩
    refine b'<|x'<|mv z z<|mv z z<|mv z z<|yy (O' p' (C.mono (mx j P)) z) z<|yy (W' z z) z<|mv z z<|yy (av' ad' ag' z) z ?_
    obtain⟨x1,af,hr⟩:=hr
    refine yy (bs' p' aP' Q z z af) z<|bT' (r:=(Rp.int .u32)) (e:=182) (cs':=[.int .u32 (u32.wrap m)]) (i:=i64.wrap (g+(c.length:Int))) (z':=u32.wrap m) 4015 z aP' z Q z z z z z af fun ax al=>q'<|F'<|b'<|x'<|mv z z<|yy (W' z z) z<|sg z z<|q'<|T' ⟨(v.set (i64.wrap (g+(c.length:Int))).toNat (u32.wrap m)),ax,i64.wrap (g+1),J⟩ hr ⟨(mx j P),al⟩ (f4 z z z z) (w1 z)
   refine ae'<|h'<|h'<|I'<|af' ⟨s,h,x⟩ ⟨j,R,hr⟩ (f1 z) (w1 z)
 rintro⟨A,q,K⟩ ⟨aA,Y,hr⟩
 refine b'<|sr<|mv z z<|bV' (r:=(Rp.int .u32)) (e:=182) 4015 Y z (by rw[ar]; rfl) (fun aH aK aC U aB=>?_)
 obtain⟨aL,ak,hr⟩:=hr
 refine N' z z (m' E170 z) (dm' ak) (by rw[cX' U]) ((cY' U)) (fun aF aJ az S=>?_)
 obtain⟨aG,aE,rfl,am⟩:=S
 refine sx0 z z<|k' ?_
 obtain rfl:_=r:=hr
 exact j' z z ⟨_,_,z,am⟩
theorem cJ'{A t j f g e r}(hr:(Zaj A t).Ret r):Ctr prog 63 #[.agg ((v57' A j f)).toArray,.agg ((v57' t g e)).toArray] (fun G=>sl (Rp.int .u32) G j f A.mag/\sl (Rp.int .u32) G g e t.mag) (w57' r):=by
 refine H' (args:=[_,_]) (N:=16) func63 z z z (fun T R M y=>?_)
 obtain⟨o,p⟩:=y
 refine sr<|ai' 2 z z z fun U=>ai' 3 z z z fun Q=>X' 4 z z57 z fun V=>nx<|g'<|ak' [ff,ff,ff,ff,ff,ff,ff,ff,ff,ff] mix (by kernel_rfl) fun P=>cn (fun _ c=>aQ' z)<|cn (fun _ c=>o' 2 sc4 z z z)<|cn (fun _ c=>aQ' z)<|cn (fun _ c=>o' 3 sc4 z z z)<|cn (fun _ c=>Y0.neqB bf' z z)<|cn (fun _ c=>as' z)<|cn (fun _ c=>o' 2 be' z z z)<|cn (fun _ c=>as' z)<|cn (fun _ c=>o' 3 be' z z z) ?_
 obtain⟨q,B,hr⟩:=hr
 refine az' (post:=wl' (Rp.int .u32) q) (fun _=>z) (fun _ _=>m' E119 z) (fK' B) z (fun O c=>⟨(o.mono c),(p.mono c)⟩) (fun v W S c h=>?_) ?_
 .obtain⟨x,u,rfl,k⟩:=h
  exact⟨_,_,z,k.mono c⟩
 refine bi' (d:=14) (post:=wl' (Rp.int .u32) q) (fun H J F l=>?_)
 obtain⟨x,u,rfl,k⟩:=l
 obtain⟨K,s,hr⟩:=hr
 refine N' z z (m' E114 z) (cw' s) z (k) (fun I L E n=>?_)
 obtain⟨D,C,rfl,m⟩:=n
 refine B' 4 z bn' z z z z z (List.all_eq_true.1 z)<|q'<|am'<|b'<|k' ?_
 obtain rfl:_=r:=hr
 exact j' z (aw' (i:=4) at' z z z) ⟨_,_,z,m⟩
theorem cU'{g i e d r}(hr:(Zcy g i).Ret r):Ctr prog 171 #[.slice e g.length d,i' i] (fun G=>sl (Rp.int .u32) G e d g) (fun G v=>v = .int .u64 r):=by
 refine H' (args:=[_,_]) (N:=14) func171 z z z (fun l n k h=>?_)
 have c:=h
 refine sr<|sx0 z z<|g'<|sr<|mv z z<|mv z z<|yy (O' p' c z) z<|yy (aa' z z) z<|nx<|P' hr z (fun j hr=>?_) (fun j hr=>?_)
 .refine sr<|mv z z<|mv z z ?_
  obtain⟨m,f,hr⟩:=hr
  refine yy (V' p' aP' c z z f) z<|yy (aj' bu' z (aJ' (Z' c f))) z<|yy (av' ag' ad' z) z<|sx0 z z<|k'<|f' (k0' hr z z)
 refine n'<|b'<|sr<|sx0 z z<|k' (k0' hr z z)
theorem eH'{g e d r}(hr:(Ze4 g).Ret r):Ctr prog 200 #[.slice e g.length d] (fun G=>sl (Rp.int .u32) G e d g) (fun G v=>v = .int .u64 r):=by
 refine H' (args:=[_]) (N:=9) func200 z z z (fun m n l h=>?_)
 have c:=h
 refine sr<|sg z z<|nr<|mv z z ?_
 obtain⟨j,i,hr⟩:=hr
 refine K' z z (m' E171 z) (cU' i) z (c)<|yy (dd' z z) z<|mv z z ?_
 obtain⟨k,f,hr⟩:=hr
 refine K' z z (m' E171 z) (cU' f) z (c)<|yy (W' z z) z<|sx0 z z<|k' (k0' hr z z)
theorem fF'{l k r}(hr:(ZhD l k).Ret r):Ctr prog 199 #[.int .u64 l,.int .u64 k] (fun G=>True) (fun G v=>v = .int .u64 r):=by
 refine H' (args:=[_,_]) (N:=14) func199 z z z fun n i A q=>sr<|sx0 z z<|g'<|ab' (fun (⟨g,f⟩:Int×Mem)=>[(0,.int .u64 g)]) (fun ⟨g,f⟩=>Mem.le i f/\(Zdh g).Ret r) (fun ⟨g,f⟩=>St n i f []) ?_ ?_
 .refine y' ?_
  let j:Int->Prop:=fun u=>((fun s=>match s with|g=>Zdh g:Int->Cq Int) u).wp (fun a=>a=r)
  replace hr:(Cq.loop _ _).wp j:=hr
  refine ac' (Φ:=j) (fun (⟨d,e,c⟩:Int×Int×Mem)=>((d,e):Int×Int)) (fun ⟨d,e,c⟩=>[(0,.int .u64 d),(1,.int .u64 e)]) (fun ⟨d,e,c⟩=>Mem.le i c) (fun ⟨d,e,c⟩=>St n i c []) ⟨l,k,i⟩ hr (f2 z z) mr (wk ln) ?_
  .intro y t x hr
   obtain⟨d,e,c⟩:=t
   have h:=x
   refine g'<|sr<|mv z z<|yy (aS' z z) z<|nx<|P' hr z (fun o hr=>?_) (fun o hr=>?_)
   .refine n'<|b'<|y'<|sr<|mv z z<|mv z z ?_
    obtain⟨m,hr⟩:=hr
    refine yy (bP' z z m) z<|sg z z<|nr<|mv z z<|sx0 z z<|x'<|mv z z<|sg z z<|q'<|F'<|T' ⟨e,Int.tmod d e,c⟩ hr h (f2 z z) (wk ln)
   refine ae'<|h'<|h'<|I'<|af' ⟨d,c⟩ ⟨h,hr⟩ (f1 z) (wk ln)
 rintro⟨g,f⟩ ⟨p,hr⟩
 refine b'<|sr<|mv z z<|sx0 z z<|k' (k0' hr z z)
theorem bS'{p s m q k o r}(hr:(ZH p s).Ret r):Ctr prog 117 #[.slice m p.length q,.slice k s.length o] (fun G=>sl (Rp.int .u32) G m q p/\sl (Rp.int .u32) G k o s) (fun G v=>v=i' r):=by
 refine H' (args:=[_,_]) (N:=41) func117 z z z (fun F l P B=>?_)
 obtain⟨f,g⟩:=B
 refine sr<|sx0 z z<|g'<|sr<|mv z z<|yy (O' p' f z) z<|mv z z<|yy (O' p' g z) z<|yy (aa' z z) z<|nx<|P' hr z (fun I hr=>?_) (fun I hr=>?_)
 .refine sr<|sx0 z z<|k'<|f' (k0' hr z z)
 refine n'<|b'<|g'<|sr<|mv z z<|yy (O' p' f z) z<|mv z z<|yy (O' p' g z) z<|yy (aS' z z) z<|nx<|P' hr z (fun E hr=>?_) (fun E hr=>?_)
 .refine sr<|sx0 z z<|k'<|f' (k0' hr z z)
 refine n'<|b'<|g'<|sr<|mv z z<|yy (O' p' f z) z<|yy (ba' z z) z<|sx0 z z<|ab' (fun (i:Mem)=>match i with|h=>[]) (fun (i:Mem)=>match i with|h=>Mem.le l h/\(Zb8).Ret r) (fun (i:Mem)=>match i with|h=>St F l h []) ?_ ?_
 .refine y' ?_
  let n:(Int⊕Unit)->Prop:=fun M=>((fun K=>match K with | .inl rv1=>Cq.ret rv1 | .inr ()=>Zb8:(Int⊕Unit)->Cq Int) M).wp (fun a=>a=r)
  replace hr:(Cq.loop _ _).wp n:=hr
  refine ac' (Φ:=n) (fun (⟨j,e⟩:Int×Mem)=>(j:Int)) (fun ⟨j,e⟩=>[(0,.slice m p.length q),(1,.slice k s.length o),(5,i' j)]) (fun ⟨j,e⟩=>Mem.le l e) (fun ⟨j,e⟩=>St F l e []) ⟨i64.wrap ((p.length:Int)-1),l⟩ hr (f3 z z z) mr (wk ln) ?_
  .intro O i L hr
   obtain⟨j,e⟩:=i
   have d:=L
   refine g'<|sr<|mv z z<|yy (bH' z z) z<|nx<|P' hr z (fun H hr=>?_) (fun H hr=>?_)
   .refine n'<|b'<|g'<|y'<|g'<|g'<|ak' [ff,ff,ff,ff,ff,ff,ff,ff] mix (by kernel_rfl) fun A=>cn (fun _ c=>c' z)<|cn (fun _ c=>c' z) ?_
    obtain⟨T,y,hr⟩:=hr
    refine cn (fun _ c=>V' p' aP' ((f.mono d).mono c) z z y)<|cn (fun _ c=>aj' bu' z (aJ' (J' (J' (Z' f y) d) c)))<|cn (fun _ c=>c' z)<|cn (fun _ c=>c' z) ?_
    obtain⟨S,u,hr⟩:=hr
    refine cn (fun _ c=>V' p' aP' ((g.mono d).mono c) z z u)<|cn (fun _ c=>aj' bu' z (aJ' (J' (J' (Z' g u) d) c)))<|ah' A<|yy (aa' z z) z<|q'<|am'<|b'<|P' hr z (fun D hr=>?_) (fun D hr=>?_)
    .refine sr<|sx0 z z<|k'<|f'<|A'<|f'<|f'<|A'<|an'<|f' (k0' hr z z)
    refine n'<|b'<|g'<|ak' [ff,ff,ff,ff,ff,ff,ff,ff] mix (by kernel_rfl) fun A=>cn (fun _ c=>c' z)<|cn (fun _ c=>c' z) ?_
    obtain⟨R,t,hr⟩:=hr
    refine cn (fun _ c=>V' p' aP' ((f.mono d).mono c) z z t)<|cn (fun _ c=>aj' bu' z (aJ' (J' (J' (Z' f t) d) c)))<|cn (fun _ c=>c' z)<|cn (fun _ c=>c' z) ?_
    obtain⟨Q,x,hr⟩:=hr
    refine cn (fun _ c=>V' p' aP' ((g.mono d).mono c) z z x)<|cn (fun _ c=>aj' bu' z (aJ' (J' (J' (Z' g x) d) c)))<|ah' A<|yy (aS' z z) z<|q'<|am'<|b'<|P' hr z (fun C hr=>?_) (fun C hr=>?_)
    .refine sr<|sx0 z z<|k'<|A'<|f'<|f'<|A'<|an'<|f' (k0' hr z z)
    refine n'<|F'<|b'<|x'<|mv z z<|yy (ba' z z) z<|sg z z<|q'<|T' ⟨i64.wrap (j-1),e⟩ hr d (f3 z z z) (wk ln)
   refine ae'<|h'<|h'<|I'<|af' e ⟨d,hr⟩ fn (wk ln)
 rintro h ⟨J,hr⟩
 refine b'<|sr<|sx0 z z<|k' (k0' hr z z)
theorem fz'{j s B D r}(hr:(ZgN j s).Ret r):Ctr prog 213 #[.slice B j.length D,.int .u64 s] (fun G=>sl (Rp.int .u32) G B D j) (fun G v=>∃ A y,v = .tuple #[.slice A r.1.length y,.int .u64 r.2]/\sl (Rp.int .u32) G A y r.1):=by
 refine H' (args:=[_,_]) (N:=41) func213 z z z (fun W x U O=>?_)
 have t:=O
 refine sr<|sg z z<|sg z z<|nr<|mv z z<|yy (O' p' t z) z ?_
 obtain⟨S,hr⟩:=hr
 refine cS' (r:=(Rp.int .u32)) (e:=182) (n:=(j.length:Int)) (zx:=0) 4012 z z p' el182 z (by decide) (by decide) z z z S fun F M X=>sg z z<|nr<|sx0 z z<|g'<|sr<|mv z z<|yy (O' p' t z) z<|yy (ba' z z) z<|sx0 z z<|ab' (fun (⟨h,g,m,o⟩:(List Int)×Option Ow×Int×Mem)=>[(6,.slice F (j.length:Int).toNat ((j.length:Int).toNat)),(7,.int .u64 m)]) (fun ⟨h,g,m,o⟩=>Mem.le x o/\RowR (Rp.int .u32) 182 o (.slice F (j.length:Int).toNat ((j.length:Int).toNat)) h g/\(Zcx h m).Ret r) (fun ⟨h,g,m,o⟩=>St W x o [(4012,g)]) ?_ ?_
 .refine y' ?_
  let C:(((List Int)×Int))->Prop:=fun oo=>((fun ov=>match ov with|(h,m)=>Zcx h m:(((List Int)×Int))->Cq ((List Int)×Int)) oo).wp (fun a=>a=r)
  replace hr:(Cq.loop _ _).wp C:=hr
  refine ac' (Φ:=C) (fun (⟨d,c,f,p,k⟩:(List Int)×Option Ow×Int×Int×Mem)=>((d,f,p):(List Int)×Int×Int)) (fun ⟨d,c,f,p,k⟩=>[(0,.slice B j.length D),(1,.int .u64 s),(6,.slice F (j.length:Int).toNat ((j.length:Int).toNat)),(7,.int .u64 f),(8,i' p)]) (fun ⟨d,c,f,p,k⟩=>Mem.le x k/\RowR (Rp.int .u32) 182 k (.slice F (j.length:Int).toNat ((j.length:Int).toNat)) d c) (fun ⟨d,c,f,p,k⟩=>St W x k [(4012,c)]) ⟨(List.replicate (j.length:Int).toNat 0),M,0,i64.wrap ((j.length:Int)-1),x⟩ hr (f5 z z z z z) ⟨mr,X⟩ (w1 z) ?_
  .intro an gx hx hr
   obtain⟨d,c,f,p,k⟩:=gx
   obtain⟨l,q⟩:=hx
   refine g'<|sr<|mv z z<|yy (bH' z z) z<|nx<|P' hr z (fun Y hr=>?_) (fun Y hr=>?_)
   .refine n'<|b'<|g'<|y'<|sr<|mv z z<|yy (dd' z z) z<|mv z z<|mv z z ?_
    obtain⟨I,K,hr⟩:=hr
    refine yy (V' p' aP' (t.mono l) z z K) z<|yy (aj' bu' z (aJ' (J' (Z' t K) l))) z<|yy (av' ag' ad' z) z<|yy (W' z z) z<|sg z z<|nr<|mv z z<|mv z z<|mv z z<|mv z z ?_
    obtain⟨V,hr⟩:=hr
    refine yy (cV' z z V) z<|yy (av' ad' ag' z) z ?_
    obtain⟨x2,J,hr⟩:=hr
    refine yy (bs' p' aP' q z z J) z<|bT' (r:=(Rp.int .u32)) (e:=182) (cs':=[.int .u32 (u32.wrap (u64.wrap (Int.tdiv (u64.wrap ((u64.wrap (f*4294967296))+(u64.wrap I))) s)))]) (i:=p) (z':=u32.wrap (u64.wrap (Int.tdiv (u64.wrap ((u64.wrap (f*4294967296))+(u64.wrap I))) s))) 4012 z aP' z q z z z z z J fun T Q=>nx<|x'<|mv z z<|mv z z ?_
    obtain⟨R,hr⟩:=hr
    refine yy (bP' z z R) z<|sg z z<|q'<|F'<|b'<|x'<|mv z z<|yy (ba' z z) z<|sg z z<|q'<|T' ⟨(d.set p.toNat (u32.wrap (u64.wrap (Int.tdiv (u64.wrap ((u64.wrap (f*4294967296))+(u64.wrap I))) s)))),T,Int.tmod (u64.wrap ((u64.wrap (f*4294967296))+(u64.wrap I))) s,i64.wrap (p-1),k⟩ hr ⟨l,Q⟩ (f5 z z z z z) (w1 z)
   refine ae'<|h'<|h'<|I'<|af' ⟨d,c,f,k⟩ ⟨l,q,hr⟩ (f2 z z) (w1 z)
 rintro⟨h,g,m,o⟩ ⟨Z,H,hr⟩
 refine b'<|sr<|mv z z<|bV' (r:=(Rp.int .u32)) (e:=182) 4012 H z (by rw[U]; rfl) (fun al ak ac E aa=>?_)
 obtain⟨am,P,hr⟩:=hr
 refine N' z z (m' E170 z) (dm' P) (by rw[cX' E]) ((cY' E)) (fun ad ao ab u=>?_)
 obtain⟨af,ae,rfl,L⟩:=u
 refine mv z z<|sg z z<|sx0 z z<|k' ?_
 obtain rfl:_=r:=hr
 exact bd' z z z ⟨_,_,z,L⟩
theorem ez'{e f i g h j r}(hr:(Zew e f).Ret r):Ctr prog 190 #[.slice i e.length g,.slice h f.length j] (fun G=>sl (Rp.int .u32) G i g e/\sl (Rp.int .u32) G h j f) (fun G v=>∃ o n m q,v = .tuple #[.slice o r.1.length n,.slice m r.2.length q]/\sl (Rp.int .u32) G o n r.1/\sl (Rp.int .u32) G m q r.2):=by
 refine H' (args:=[_,_]) (N:=110) func190 z z z (fun U T S A=>?_)
 obtain⟨d,c⟩:=A
 refine sr<|sg z z<|sx0 z z<|g'<|sr<|mv z z<|mv z z ?_
 obtain⟨O,B,hr⟩:=hr
 refine K' z z (m' E117 z) (bS' B) z (⟨d,c⟩)<|yy (aa' z z) z<|nx<|P' hr z (fun F hr=>?_) (fun F hr=>?_)
 .refine sr<|mv z z<|sg z z<|sx0 z z<|k'<|f' ?_
  obtain rfl:_=r:=hr
  exact bd' z z z ⟨_,_,_,_,z,(ay' (Rp.int .u32) _),d⟩
 refine n'<|b'<|g'<|sr<|mv z z<|yy (O' p' c z) z<|yy (aH' z z) z<|nx<|P' hr z (fun E hr=>?_) (fun E hr=>?_)
 .refine sr<|mv z z<|mv z z ?_
  obtain⟨V,t,hr⟩:=hr
  refine yy (V' p' aP' c z z t) z<|yy (aj' bu' z (aJ' (Z' c t))) z<|yy (av' ag' ad' z) z ?_
  obtain⟨M,u,hr⟩:=hr
  refine N' z z (m' E213 z) (fz' u) z (d) (fun L Q H l=>?_)
  obtain⟨D,C,rfl,p⟩:=l
  refine mv z z<|yy (R' z z) z<|yy (R' z z) z<|sg z z<|sg z z<|nr<|mv z z<|mv z z ?_
  obtain⟨P,y,hr⟩:=hr
  refine N' z z (m' E115 z) (dL' y) z (trivial) (fun K R s k=>?_)
  obtain⟨I,J,rfl,x⟩:=k
  refine sg z z<|sx0 z z<|k'<|f' ?_
  obtain rfl:_=r:=hr
  exact bd' z z z ⟨_,_,_,_,z,(p.mono s),x⟩
 exact (show False from hr).elim
theorem fG'{K J E I B H r}(hr:(ZhB K J).Ret r):Ctr prog 172 #[.slice E K.length I,.slice B J.length H] (fun G=>sl (Rp.int .u32) G E I K/\sl (Rp.int .u32) G B H J) (wl' (Rp.int .u32) r):=by
 refine H' (args:=[_,_]) (N:=33) func172 z z z (fun R y aw S=>?_)
 obtain⟨U,af⟩:=S
 refine sr<|sx0 z z<|g'<|ab' (fun (⟨q,p,m,l⟩:(List Int)×Option Addr×Nat×Mem)=>[(0,.slice p q.length m)]) (fun ⟨q,p,m,l⟩=>Mem.le y l/\sl (Rp.int .u32) l p m q/\(Zdf q).Ret r) (fun ⟨q,p,m,l⟩=>St R y l []) ?_ ?_
 .refine y' ?_
  let s:((List Int)⊕(List Int))->Prop:=fun oo=>((fun ov=>match ov with | .inl rv1=>Cq.ret rv1 | .inr q=>Zdf q:((List Int)⊕(List Int))->Cq (List Int)) oo).wp (fun a=>a=r)
  replace hr:(Cq.loop _ _).wp s:=hr
  refine ac' (Φ:=s) (fun (⟨k,g,h,j,i,f,c⟩:(List Int)×Option Addr×Nat×(List Int)×Option Addr×Nat×Mem)=>((k,j):(List Int)×(List Int))) (fun ⟨k,g,h,j,i,f,c⟩=>[(0,.slice g k.length h),(1,.slice i j.length f)]) (fun ⟨k,g,h,j,i,f,c⟩=>Mem.le y c/\sl (Rp.int .u32) c g h k/\sl (Rp.int .u32) c i f j) (fun ⟨k,g,h,j,i,f,c⟩=>St R y c []) ⟨K,E,I,J,B,H,y⟩ hr (f2 z z) ⟨mr,U,af⟩ (wk ln) ?_
  .intro Z gx hx hr
   obtain⟨k,g,h,j,i,f,c⟩:=gx
   obtain⟨v,t,o⟩:=hx
   refine g'<|sr<|mv z z<|yy (O' p' o z) z<|yy (aS' z z) z<|nx<|P' hr z (fun Y hr=>?_) (fun Y hr=>?_)
   .refine n'<|b'<|y'<|g'<|aO' (fun (⟨e,n⟩:Bool×Mem)=>[(0,.slice g k.length h),(1,.slice i j.length f),(17,.bool e)]) (fun ⟨e,n⟩=>Mem.le c n/\(Zdg k j e).wp (Out Z s)) (fun ⟨e,n⟩=>St R y n []) ?_ ?_
    .refine x'<|mv z z<|yy (O' p' t z) z<|aE' hr z (bW' z z) z (fun ae hr=>?_) (fun ae hr=>?_)
     .refine mv z z<|gy z z (c' z) z<|gy z z (O' p' o z) z<|gy z z (bW' z z) z<|yy (w' z z) z<|q'<|ax' ⟨decide ((j.length:Int)<=2),c⟩ ⟨mr,hr⟩ (f3 z z z) (wk ln)
     refine mv z z<|sn3 z<|yy (t' z z) z<|q'<|ax' ⟨false,c⟩ ⟨mr,hr⟩ (f3 z z z) (wk ln)
    rintro⟨e,n⟩ ⟨d,hr⟩
    refine aK' hr z (fun ab hr=>?_) (fun ab hr=>?_)
    .refine sr<|mv z z ?_
     obtain⟨au,T,hr⟩:=hr
     refine K' z z (m' E200 z) (eH' T) z ((t.mono d))<|mv z z ?_
     obtain⟨aq,L,hr⟩:=hr
     refine K' z z (m' E200 z) (eH' L) z ((o.mono d)) ?_
     obtain⟨ax,P,hr⟩:=hr
     refine K' z z (m' E199 z) (fF' P) z (trivial) ?_
     obtain⟨ar,O,hr⟩:=hr
     refine N' z z (m' E115 z) (dL' O) z (trivial) (fun ai av ah A=>?_)
     obtain⟨ap,al,rfl,Q⟩:=A
     refine sx0 z z<|k'<|f'<|A'<|f'<|A'<|an'<|f' ?_
     obtain rfl:_=r:=hr
     exact j' z z ⟨_,_,z,Q⟩
    refine n'<|b'<|sr<|mv z z<|mv z z ?_
    obtain⟨X,M,hr⟩:=hr
    refine N' z z (m' E190 z) (ez' M) z (⟨(t.mono d),(o.mono d)⟩) (fun aj ad u x=>?_)
    obtain⟨W,ac,C,D,rfl,V,F⟩:=x
    refine mv z z<|yy (R' z z) z<|yy (R' z z) z<|sg z z<|sg z z<|nr<|mv z z<|sx0 z z<|x'<|mv z z<|sg z z<|q'<|F'<|T' ⟨j,i,f,X.2,C,D,ad⟩ hr ⟨(mx (mx v d) u),(o.mono (mx d u)),F⟩ (f2 z z) (wk ln)
   refine ae'<|h'<|h'<|I'<|af' ⟨k,g,h,c⟩ ⟨v,t,hr⟩ (f1 z) (wk ln)
 rintro⟨q,p,m,l⟩ ⟨ag,aa,hr⟩
 refine b'<|sr<|mv z z<|sx0 z z<|k' ?_
 obtain rfl:_=r:=hr
 exact j' z z ⟨_,_,z,aa⟩
theorem em'{q n f d e c r}(hr:(Zcw q n).Ret r):Ctr prog 120 #[.agg ((v57' q f d)).toArray,.agg ((v57' n e c)).toArray] (fun G=>sl (Rp.int .u32) G f d q.mag/\sl (Rp.int .u32) G e c n.mag) (w57' r):=by
 refine H' (args:=[_,_]) (N:=11) func120 z z z (fun L K I p=>?_)
 obtain⟨k,l⟩:=p
 refine sr<|ai' 2 z z z fun M=>ai' 3 z z z fun J=>X' 4 z z57 z fun O=>nr<|yy (as' z) z<|yy (o' 2 be' z z z) z<|yy (as' z) z<|yy (o' 3 be' z z z) z ?_
 obtain⟨F,s,hr⟩:=hr
 refine N' z z (m' E172 z) (fG' s) z (⟨k,l⟩) (fun y D x g=>?_)
 obtain⟨B,A,rfl,o⟩:=g
 obtain⟨E,m,hr⟩:=hr
 refine N' z z (m' E114 z) (cw' m) z (o) (fun C H v j=>?_)
 obtain⟨u,t,rfl,h⟩:=j
 refine B' 4 z bn' z z z z z (List.all_eq_true.1 z)<|nx<|k' ?_
 obtain rfl:_=r:=hr
 exact j' z (aw' (i:=4) at' z z z) ⟨_,_,z,h⟩
theorem fV'{j d c r}(hr:(ZkC j).Ret r):Ctr prog 122 #[.agg ((v57' j d c)).toArray] (fun G=>sl (Rp.int .u32) G d c j.mag) (w57' r):=by
 refine H' (args:=[_]) (N:=9) func122 z z z (fun v u s h=>?_)
 have g:=h
 refine sr<|ai' 1 z z z fun t=>X' 2 z z57 z fun x=>nr<|yy (aQ' z) z<|yy (o' 1 sc4 z z z) z<|yy (aA' z) z<|yy (as' z) z<|yy (o' 1 be' z z z) z ?_
 obtain⟨q,k,hr⟩:=hr
 refine N' z z (m' E114 z) (cw' k) z (g) (fun o p n e=>?_)
 obtain⟨l,m,rfl,f⟩:=e
 refine B' 2 z bn' z z z z z (List.all_eq_true.1 z)<|nx<|k' ?_
 obtain rfl:_=r:=hr
 exact j' z (aw' (i:=2) at' z z z) ⟨_,_,z,f⟩
theorem fL'{f d y C v B r}(hr:(ZiC f d).Ret r):Ctr prog 116 #[.slice y f.length C,.slice v d.length B] (fun G=>sl (Rp.int .u32) G y C f/\sl (Rp.int .u32) G v B d) (wl' (Rp.int .u32) r):=by
 refine H' (args:=[_,_]) (N:=42) func116 z z z (fun V x U P=>?_)
 obtain⟨H,J⟩:=P
 refine sr<|sg z z<|nr<|mv z z<|yy (O' p' H z) z<|mv z z<|yy (O' p' J z) z<|yy (Y0.max2 z z) z<|yy (W' z z) z<|sg z z<|nr<|mv z z ?_
 obtain⟨S,hr⟩:=hr
 refine cS' (r:=(Rp.int .u32)) (e:=182) (n:=i64.wrap ((if (f.length:Int)<(d.length:Int) then (d.length:Int) else (f.length:Int))+1)) (zx:=0) 4017 z z p' el182 z (by decide) (by decide) z z z S fun E O W=>sg z z<|nr<|sx0 z z<|g'<|sr<|sx0 z z<|ab' (fun (⟨k,j,o⟩:(List Int)×Option Ow×Mem)=>[(6,.slice E (i64.wrap ((if (f.length:Int)<(d.length:Int) then (d.length:Int) else (f.length:Int))+1)).toNat ((i64.wrap ((if (f.length:Int)<(d.length:Int) then (d.length:Int) else (f.length:Int))+1)).toNat))]) (fun ⟨k,j,o⟩=>Mem.le x o/\RowR (Rp.int .u32) 182 o (.slice E (i64.wrap ((if (f.length:Int)<(d.length:Int) then (d.length:Int) else (f.length:Int))+1)).toNat ((i64.wrap ((if (f.length:Int)<(d.length:Int) then (d.length:Int) else (f.length:Int))+1)).toNat)) k j/\(ZdL k).Ret r) (fun ⟨k,j,o⟩=>St V x o [(4017,j)]) ?_ ?_
 .refine y' ?_
  let A:(List Int)->Prop:=fun oo=>((fun ov=>match ov with|k=>ZdL k:(List Int)->Cq (List Int)) oo).wp (fun a=>a=r)
  replace hr:(Cq.loop _ _).wp A:=hr
  refine ac' (Φ:=A) (fun (⟨h,g,c,p,l⟩:(List Int)×Option Ow×Int×Int×Mem)=>((h,c,p):(List Int)×Int×Int)) (fun ⟨h,g,c,p,l⟩=>[(0,.slice y f.length C),(1,.slice v d.length B),(5,i' (i64.wrap ((if (f.length:Int)<(d.length:Int) then (d.length:Int) else (f.length:Int))+1))),(6,.slice E (i64.wrap ((if (f.length:Int)<(d.length:Int) then (d.length:Int) else (f.length:Int))+1)).toNat ((i64.wrap ((if (f.length:Int)<(d.length:Int) then (d.length:Int) else (f.length:Int))+1)).toNat)),(7,.int .u64 c),(8,i' p)]) (fun ⟨h,g,c,p,l⟩=>Mem.le x l/\RowR (Rp.int .u32) 182 l (.slice E (i64.wrap ((if (f.length:Int)<(d.length:Int) then (d.length:Int) else (f.length:Int))+1)).toNat ((i64.wrap ((if (f.length:Int)<(d.length:Int) then (d.length:Int) else (f.length:Int))+1)).toNat)) h g) (fun ⟨h,g,c,p,l⟩=>St V x l [(4017,g)]) ⟨(List.replicate (i64.wrap ((if (f.length:Int)<(d.length:Int) then (d.length:Int) else (f.length:Int))+1)).toNat 0),O,0,0,x⟩ hr (f6 z z z z z z) ⟨mr,W⟩ (w1 z) ?_
  .intro am gx hx hr
   obtain⟨h,g,c,p,l⟩:=gx
   obtain⟨m,q⟩:=hx
   refine g'<|sr<|mv z z<|mv z z<|yy (aa' z z) z<|nx<|P' hr z (fun X hr=>?_) (fun X hr=>?_)
   .refine n'<|b'<|g'<|y'<|sr<|mv z z<|mv z z ?_
    obtain⟨s,K,hr⟩:=hr
    refine K' z z (m' E171 z) (cU' K) z ((H.mono m))<|mv z z<|mv z z ?_
    obtain⟨t,L,hr⟩:=hr
    refine K' z z (m' E171 z) (cU' L) z ((J.mono m))<|yy (W' z z) z<|mv z z<|yy (W' z z) z<|sg z z<|nr<|mv z z<|mv z z<|mv z z<|yy (bP' z z (by decide)) z<|yy (av' ad' ag' z) z ?_
    obtain⟨x1,I,hr⟩:=hr
    refine yy (bs' p' aP' q z z I) z<|bT' (r:=(Rp.int .u32)) (e:=182) (cs':=[.int .u32 (u32.wrap (Int.tmod (u64.wrap ((u64.wrap (s+t))+c)) 4294967296))]) (i:=p) (z':=u32.wrap (Int.tmod (u64.wrap ((u64.wrap (s+t))+c)) 4294967296)) 4017 z aP' z q z z z z z I fun T R=>nx<|x'<|mv z z<|yy (cV' z z (by decide)) z<|sg z z<|q'<|F'<|b'<|x'<|mv z z<|yy (W' z z) z<|sg z z<|q'<|T' ⟨(h.set p.toNat (u32.wrap (Int.tmod (u64.wrap ((u64.wrap (s+t))+c)) 4294967296))),T,u64.wrap (Int.tdiv (u64.wrap ((u64.wrap (s+t))+c)) 4294967296),i64.wrap (p+1),l⟩ hr ⟨m,R⟩ (f6 z z z z z z) (w1 z)
   refine ae'<|h'<|h'<|I'<|af' ⟨h,g,l⟩ ⟨m,q,hr⟩ (f1 z) (w1 z)
 rintro⟨k,j,o⟩ ⟨Y,F,hr⟩
 refine b'<|sr<|mv z z<|bV' (r:=(Rp.int .u32)) (e:=182) 4017 F z (by rw[U]; rfl) (fun ak aj ab D Z=>?_)
 obtain⟨al,Q,hr⟩:=hr
 refine N' z z (m' E170 z) (dm' Q) (by rw[cX' D]) ((cY' D)) (fun ac an aa u=>?_)
 obtain⟨ae,ad,rfl,M⟩:=u
 refine sx0 z z<|k' ?_
 obtain rfl:_=r:=hr
 exact j' z z ⟨_,_,z,M⟩
theorem eU'{m E y C v B r}(hr:(ZfV m E).Ret r):Ctr prog 118 #[.slice y m.length C,.slice v E.length B] (fun G=>sl (Rp.int .u32) G y C m/\sl (Rp.int .u32) G v B E) (wl' (Rp.int .u32) r):=by
 refine H' (args:=[_,_]) (N:=41) func118 z z z (fun V x U P=>?_)
 obtain⟨s,X⟩:=P
 refine sr<|sg z z<|nr<|mv z z<|yy (O' p' s z) z ?_
 obtain⟨S,hr⟩:=hr
 refine cS' (r:=(Rp.int .u32)) (e:=182) (n:=(m.length:Int)) (zx:=0) 4011 z z p' el182 z (by decide) (by decide) z z z S fun F O W=>sg z z<|nr<|sx0 z z<|g'<|sr<|sx0 z z<|ab' (fun (⟨k,h,o⟩:(List Int)×Option Ow×Mem)=>[(5,.slice F (m.length:Int).toNat ((m.length:Int).toNat))]) (fun ⟨k,h,o⟩=>Mem.le x o/\RowR (Rp.int .u32) 182 o (.slice F (m.length:Int).toNat ((m.length:Int).toNat)) k h/\(ZdM k).Ret r) (fun ⟨k,h,o⟩=>St V x o [(4011,h)]) ?_ ?_
 .refine y' ?_
  let A:(List Int)->Prop:=fun oo=>((fun ov=>match ov with|k=>ZdM k:(List Int)->Cq (List Int)) oo).wp (fun a=>a=r)
  replace hr:(Cq.loop _ _).wp A:=hr
  refine ac' (Φ:=A) (fun (⟨g,d,c,p,l⟩:(List Int)×Option Ow×Int×Int×Mem)=>((g,c,p):(List Int)×Int×Int)) (fun ⟨g,d,c,p,l⟩=>[(0,.slice y m.length C),(1,.slice v E.length B),(5,.slice F (m.length:Int).toNat ((m.length:Int).toNat)),(6,.int .u64 c),(7,i' p)]) (fun ⟨g,d,c,p,l⟩=>Mem.le x l/\RowR (Rp.int .u32) 182 l (.slice F (m.length:Int).toNat ((m.length:Int).toNat)) g d) (fun ⟨g,d,c,p,l⟩=>St V x l [(4011,d)]) ⟨(List.replicate (m.length:Int).toNat 0),O,0,0,x⟩ hr (f5 z z z z z) ⟨mr,W⟩ (w1 z) ?_
  .intro ao gx hx hr
   obtain⟨g,d,c,p,l⟩:=gx
   obtain⟨j,q⟩:=hx
   refine g'<|sr<|mv z z<|mv z z<|yy (O' p' (s.mono j) z) z<|yy (aa' z z) z<|nx<|P' hr z (fun Y hr=>?_) (fun Y hr=>?_)
   .refine n'<|b'<|g'<|y'<|g'<|ak' [ff,ff,ff,ff,ff,ff,ff,ff,ff,ff,ff] mix (by kernel_rfl) fun hb=>cn (fun _ f=>c' z)<|cn (fun _ f=>c' z) ?_
    obtain⟨I,K,hr⟩:=hr
    refine cn (fun _ f=>V' p' aP' ((s.mono j).mono f) z z K)<|cn (fun _ f=>aj' bu' z (aJ' (J' (J' (Z' s K) j) f)))<|cn (fun _ f=>av' ag' ad' z)<|cn (fun _ f=>W' z z)<|cn (fun _ f=>c' z)<|cn (fun _ f=>c' z) ?_
    obtain⟨t,L,hr⟩:=hr
    refine bL' z (fun _=>m' E171 z) (cU' L) z (fun G' f=>((X.mono j).mono f))<|cn (fun _ f=>ba' z z)<|cn (fun _ f=>c' z)<|ah' hb<|yy (ba' z z) z<|sg z z<|q'<|am'<|b'<|sr<|mv z z<|mv z z<|mv z z<|yy (bP' z z (by decide)) z<|yy (av' ad' ag' z) z ?_
    obtain⟨x2,J,hr⟩:=hr
    refine yy (bs' p' aP' q z z J) z<|bT' (r:=(Rp.int .u32)) (e:=182) (cs':=[.int .u32 (u32.wrap (Int.tmod (u64.wrap ((u64.wrap ((u64.wrap (4294967296+(u64.wrap I)))-t))-c)) 4294967296))]) (i:=p) (z':=u32.wrap (Int.tmod (u64.wrap ((u64.wrap ((u64.wrap (4294967296+(u64.wrap I)))-t))-c)) 4294967296)) 4011 z aP' z q z z z z z J fun T R=>nx<|x'<|mv z z<|yy (cV' z z (by decide)) z<|yy (ba' z z) z<|sg z z<|q'<|F'<|b'<|x'<|mv z z<|yy (W' z z) z<|sg z z<|q'<|T' ⟨(g.set p.toNat (u32.wrap (Int.tmod (u64.wrap ((u64.wrap ((u64.wrap (4294967296+(u64.wrap I)))-t))-c)) 4294967296))),T,u64.wrap (1-(u64.wrap (Int.tdiv (u64.wrap ((u64.wrap ((u64.wrap (4294967296+(u64.wrap I)))-t))-c)) 4294967296))),i64.wrap (p+1),l⟩ hr ⟨j,R⟩ (f5 z z z z z) (w1 z)
   refine ae'<|h'<|h'<|I'<|af' ⟨g,d,l⟩ ⟨j,q,hr⟩ (f1 z) (w1 z)
 rintro⟨k,h,o⟩ ⟨Z,H,hr⟩
 refine b'<|sr<|mv z z<|bV' (r:=(Rp.int .u32)) (e:=182) 4011 H z (by rw[U]; rfl) (fun am al ac D aa=>?_)
 obtain⟨an,Q,hr⟩:=hr
 refine N' z z (m' E170 z) (dm' Q) (by rw[cX' D]) ((cY' D)) (fun ae ap ab u=>?_)
 obtain⟨ag,af,rfl,M⟩:=u
 refine sx0 z z<|k' ?_
 obtain rfl:_=r:=hr
 exact j' z z ⟨_,_,z,M⟩
theorem eg'{H F f d e g r}(hr:(Zbq H F).Ret r):Ctr prog 158 #[.agg ((v57' H f d)).toArray,.agg ((v57' F e g)).toArray] (fun G=>sl (Rp.int .u32) G f d H.mag/\sl (Rp.int .u32) G e g F.mag) (fun G v=>∃ n q l s,v = .tuple #[.agg ((v57' r.1 n q)).toArray,.agg ((v57' r.2.1 l s)).toArray,i' r.2.2]/\sl (Rp.int .u32) G n q r.1.mag/\sl (Rp.int .u32) G l s r.2.1.mag):=by
 refine H' (args:=[_,_]) (N:=46) func158 z z z (fun w0 G0 aw ab=>?_)
 obtain⟨Q,D⟩:=ab
 refine sr<|ai' 2 z z z fun V=>ai' 3 z z z fun T=>X' 4 z z57 z fun W=>X' 5 z z57 z fun S=>sx0 z z<|g'<|sr<|yy (as' z) z<|yy (o' 3 be' z z z) z<|yy (O' p' D z) z<|yy (aH' z z) z<|nx<|P' hr z (fun ai hr=>?_) (fun ai hr=>?_)
 .exact (show False from hr).elim
 refine n'<|b'<|sr<|yy (as' z) z<|yy (o' 2 be' z z z) z<|yy (as' z) z<|yy (o' 3 be' z z z) z ?_
 obtain⟨m,ac,hr⟩:=hr
 refine N' z z (m' E190 z) (ez' ac) z (⟨Q,D⟩) (fun ap I ao L=>?_)
 obtain⟨y,u,x,C,rfl,R,A⟩:=L
 refine mv z z<|yy (R' z z) z<|yy (R' z z) z<|sg z z<|sx0 z z<|aO' (fun (⟨J,E,B,o,k,h,j⟩:(List Int)×Option Addr×Nat×(List Int)×Option Addr×Nat×Mem)=>[(2,pt0 V),(3,pt0 T),(4,pt0 W),(5,pt0 S),(7,.slice E J.length B),(8,.slice k o.length h)]) (fun ⟨J,E,B,o,k,h,j⟩=>Mem.le I j/\sl (Rp.int .u32) j E B J/\sl (Rp.int .u32) j k h o/\(ZfH H F J o).Ret r) (fun ⟨J,E,B,o,k,h,j⟩=>St w0 G0 j [(2,bk0 V (v57' H f d) 57),(3,bk0 T (v57' F e g) 57),(4,bk0 W ([.bool false,.slice none 0 0]) 57),(5,bk0 S ([.bool false,.slice none 0 0]) 57)]) ?_ ?_
 .refine aO' (fun (⟨c,p⟩:Bool×Mem)=>[(2,pt0 V),(3,pt0 T),(4,pt0 W),(5,pt0 S),(7,.slice y m.1.length u),(8,.slice x m.2.length C),(29,.bool c)]) (fun ⟨c,p⟩=>Mem.le I p/\(Zde H F m c).Ret r) (fun ⟨c,p⟩=>St w0 G0 p [(2,bk0 V (v57' H f d) 57),(3,bk0 T (v57' F e g) 57),(4,bk0 W ([.bool false,.slice none 0 0]) 57),(5,bk0 S ([.bool false,.slice none 0 0]) 57)]) ?_ ?_
  .refine x'<|yy (aQ' z) z<|aE' hr z (db' (o' 2 sc4 z z z) (congrArg Value.bool (bdec _))) z (fun am hr=>?_) (fun am hr=>?_)
   .refine mv z z<|gy z z (c' z) z<|gy z z (O' p' A z) z<|gy z z (aS' z z) z<|yy (w' z z) z<|q'<|ax' ⟨decide (0<(m.2.length:Int)),I⟩ ⟨mr,hr⟩ (f7 z z z z z z z) (w4 z z z z)
   refine mv z z<|sn3 z<|yy (t' z z) z<|q'<|ax' ⟨false,I⟩ ⟨mr,hr⟩ (f7 z z z z z z z) (w4 z z z z)
  rintro⟨c,p⟩ ⟨t,hr⟩
  refine aK' hr z (fun ak hr=>?_) (fun ak hr=>?_)
  .exact (show False from hr).elim
  refine n'<|ax' ⟨m.1,y,u,m.2,x,C,p⟩ ⟨t,(R.mono t),(A.mono t),hr⟩ (f6 z z z z z z) (w4 z z z z)
 rintro⟨J,E,B,o,k,h,j⟩ ⟨an,aj,aa,hr⟩
 refine sr<|yy (aQ' z) z<|yy (o' 2 sc4 z z z) z<|yy (aQ' z) z<|yy (o' 3 sc4 z z z) z<|yy (Y0.neqB bf' z z) z<|mv z z ?_
 obtain⟨au,Y,hr⟩:=hr
 refine N' z z (m' E114 z) (cw' Y) z (aj) (fun ar ax X P=>?_)
 obtain⟨ae,ad,rfl,M⟩:=P
 refine mv z z ?_
 obtain⟨av,Z,hr⟩:=hr
 refine N' z z (m' E114 z) (cw' Z) z ((aa.mono X)) (fun aq ay U K=>?_)
 obtain⟨ag,af,rfl,O⟩:=K
 refine B' 4 z bn' z z z z z (List.all_eq_true.1 z)<|B' 5 z bn' z z z z z (List.all_eq_true.1 z)<|sx0 z z<|k' ?_
 obtain rfl:_=r:=hr
 exact WE.ret3 z (aw' (i:=4) at' z z z) (aw' (i:=5) at' z z z) z ⟨_,_,_,_,z,(M.mono U),O⟩
theorem eV'{t q d c g f r}(hr:(ZfX t q).Ret r):Ctr prog 123 #[.agg ((v57' t d c)).toArray,.agg ((v57' q g f)).toArray] (fun G=>sl (Rp.int .u32) G d c t.mag/\sl (Rp.int .u32) G g f q.mag) (w57' r):=by
 refine H' (args:=[_,_]) (N:=16) func123 z z z (fun H F B s=>?_)
 obtain⟨k,j⟩:=s
 refine sr<|ai' 2 z z z fun C=>ai' 3 z z z fun I=>X' 4 z z57 z fun E=>nr<|yy (D' 2 at' z z z) z<|yy (D' 3 at' z z z) z ?_
 obtain⟨A,u,hr⟩:=hr
 refine N' z z (m' E158 z) (eg' u) z (⟨k,j⟩) (fun x y v h=>?_)
 obtain⟨p,o,l,m,rfl,e,n⟩:=h
 refine mv z z<|yy (R' z z) z<|yy (R' z z) z<|yy (R' z z) z<|X' 5 z z57 z fun J=>X' 6 z z57 z fun D=>B' 5 z bn' z z z z z (List.all_eq_true.1 z)<|B' 6 z bn' z z z z z (List.all_eq_true.1 z)<|sg z z<|nr<|yy (D' 5 at' z z z) z<|B' 4 z bn' z z z z z (List.all_eq_true.1 z)<|nx<|k' ?_
 obtain rfl:_=r:=hr
 exact j' z (aw' (i:=4) at' z z z) ⟨_,_,z,e⟩
theorem dD'{P M o l p m r}(hr:(Zdx P M).Ret r):Ctr prog 64 #[.agg ((v57' P o l)).toArray,.agg ((v57' M p m)).toArray] (fun G=>sl (Rp.int .u32) G o l P.mag/\sl (Rp.int .u32) G p m M.mag) (w59' r):=by
 refine H' (args:=[_,_]) (N:=21) func64 z z z (fun w0 G0 al V=>?_)
 obtain⟨B,n⟩:=V
 refine sr<|ai' 2 z z z fun X=>ai' 3 z z z fun b2=>X' 4 z z59 z fun Y=>nr<|yy (D' 2 at' z z z) z<|yy (D' 3 at' z z z) z ?_
 obtain⟨Z,W,hr⟩:=hr
 refine N' z z (m' E120 z) (em' W) z (⟨B,n⟩) (fun ad R y I=>?_)
 obtain⟨E,F,rfl,K⟩:=I
 refine X' 5 z z57 z fun b4=>B' 5 z bn' z z z z z (List.all_eq_true.1 z)<|nx<|aO' (fun (⟨q,c,e,u⟩:Zb×Option Addr×Nat×Mem)=>[(2,pt0 X),(3,pt0 b2),(4,pt0 Y),(5,pt0 b4)]) (fun ⟨q,c,e,u⟩=>Mem.le R u/\sl (Rp.int .u32) u c e q.mag/\(ZfI P M q).Ret r) (fun ⟨q,c,e,u⟩=>St w0 G0 u [(2,bk0 X (v57' P o l) 57),(3,bk0 b2 (v57' M p m) 57),(4,bk0 Y ([.bool false,.slice none 0 0,.bool false,.slice none 0 0]) 59),(5,bk0 b4 (v57' q c e) 57)]) ?_ ?_
 .refine sr<|yy (D' 3 at' z z z) z ?_
  obtain⟨ai,T,hr⟩:=hr
  refine K' z z (m' E121 z) (ec' T) z ((n.mono y))<|yy (aa' z z) z<|nx<|P' hr z (fun ac hr=>?_) (fun ac hr=>?_)
  .exact (show False from hr).elim
  refine n'<|ax' ⟨Z,E,F,R⟩ ⟨mr,K,hr⟩ (f4 z z z z) (w4 z z z z)
 rintro⟨q,c,e,u⟩ ⟨C,s,hr⟩
 refine g'<|ak' [ff,ff,ff,ff,ff] mix (by kernel_rfl) fun hb=>cn (fun _ k=>D' 2 at' z z z)<|cn (fun _ k=>D' 5 at' z z z) ?_
 obtain⟨A,S,hr⟩:=hr
 refine az' (post:=w57' A) (fun _=>z) (fun _ _=>m' E123 z) (eV' S) z (fun G' k=>⟨((B.mono (mx y C)).mono k),(s.mono k)⟩) (fun v G1 G2 k h=>?_) ?_
 .obtain⟨j,f,rfl,g⟩:=h
  exact⟨_,_,z,g.mono k⟩
 refine cu (fun _ _ k=>D' 3 at' z z z)<|cu (fun _ _ k=>D' 5 at' z z z)<|bi' (d:=16) (post:=w57' A) (fun ah aj D L=>?_)
 obtain⟨j,f,rfl,g⟩:=L
 obtain⟨O,U,hr⟩:=hr
 refine N' z z (m' E123 z) (eV' U) z (⟨(n.mono (mx (mx y C) D)),(s.mono D)⟩) (fun ag ak Q H=>?_)
 obtain⟨x,t,rfl,J⟩:=H
 refine yy (au' (vs:=#[(0,.agg ((v57' A j f)).toArray),(1,.agg ((v57' O x t)).toArray)]) (v:=.agg ([.bool A.neg,.slice j A.mag.length f,.bool O.neg,.slice x O.mag.length t]).toArray) z z (fun _=>by kernel_rfl)) z<|B' 4 z ch' z z z z z (List.all_eq_true.1 z)<|q'<|am'<|b'<|k' ?_
 obtain rfl:_=r:=hr
 exact j' z (aw' (i:=4) bc' z z z) ⟨_,_,_,_,z,(g.mono Q),J⟩
theorem fW'{q p m g k j l e c f r}(hr:(Zb1 q p).Ret r):Ctr prog 67 #[.agg ((v59' q m g k j)).toArray,.agg ((v59' p l e c f)).toArray] (fun G=>sl (Rp.int .u32) G m g q.num.mag/\sl (Rp.int .u32) G k j q.den.mag/\sl (Rp.int .u32) G l e p.num.mag/\sl (Rp.int .u32) G c f p.den.mag) (w59' r):=by
 refine H' (args:=[_,_]) (N:=16) func67 z z z (fun w0 G0 af S=>?_)
 obtain⟨A,u,x,y⟩:=S
 refine sr<|ai' 2 z z z fun b2=>ai' 3 z z z fun b3=>X' 4 z z59 z fun b4=>nx<|g'<|ak' [ff,ff,ff,ff,ff,ff,ff,ff,ff] mix (by kernel_rfl) fun hb=>cn (fun _ n=>bk' z)<|cn (fun _ n=>al' ((v57' q.num m g)).toArray 2 at' z z z (ap' ([]) ((v57' q.num m g)) ((v57' q.den k j))))<|cn (fun _ n=>bk' z)<|cn (fun _ n=>al' ((v57' p.num l e)).toArray 3 at' z z z (ap' ([]) ((v57' p.num l e)) ((v57' p.den c f)))) ?_
 obtain⟨P,T,hr⟩:=hr
 refine az' (post:=w57' P) (fun _=>z) (fun _ _=>m' E63 z) (cJ' T) z (fun G' n=>⟨(A.mono n),(x.mono n)⟩) (fun v G1 G2 n h=>?_) ?_
 .obtain⟨C,D,rfl,o⟩:=h
  exact⟨_,_,z,o.mono n⟩
 refine cu (fun _ _ n=>aY' z)<|cu (fun _ _ n=>al' ((v57' q.den k j)).toArray 2 at' z z z (ap' ((v57' q.num m g)) ((v57' q.den k j)) ([])))<|cu (fun _ _ n=>aY' z)<|cu (fun _ _ n=>al' ((v57' p.den c f)).toArray 3 at' z z z (ap' ((v57' p.num l e)) ((v57' p.den c f)) ([])))<|bi' (d:=9) (post:=w57' P) (fun X aa B F=>?_)
 obtain⟨C,D,rfl,o⟩:=F
 obtain⟨ab,Q,hr⟩:=hr
 refine N' z z (m' E63 z) (cJ' Q) z (⟨(u.mono B),(y.mono B)⟩) (fun Z ad L I=>?_)
 obtain⟨V,U,rfl,H⟩:=I
 obtain⟨ac,R,hr⟩:=hr
 refine N' z z (m' E64 z) (dD' R) z (⟨(o.mono L),H⟩) (fun Y ae W E=>?_)
 obtain⟨O,K,M,J,rfl,t,s⟩:=E
 refine B' 4 z ch' z z z z z (List.all_eq_true.1 z)<|q'<|am'<|b'<|k' ?_
 obtain rfl:_=r:=hr
 exact j' z (aw' (i:=4) bc' z z z) ⟨_,_,_,_,z,t,s⟩
theorem da'{Z m1 p1 D E C F aa ad r}(hr:(Zc3 Z m1 p1).Ret r):Ctr prog 27 #[.agg ((v59' Z D E C F)).toArray,.agg (vecG (Value.int .i64) 8 m1).toArray,.slice aa p1.length ad] (fun G=>sl (Rp.int .u32) G D E Z.num.mag/\sl (Rp.int .u32) G C F Z.den.mag/\sl a' G aa ad p1) (wlt' a' r):=by
 refine H' (args:=[_,_,_]) (N:=47) func27 z z z (fun w0 G0 Y av=>?_)
 obtain⟨M,L,Q⟩:=av
 refine sr<|ai' 3 z z z fun b1=>ai' 4 z z z fun b2=>sg z z<|sg z z<|nr<|aF' (e:=119) (r:=a') (vs:=#[]) (cs:=[]) ([]:List Za) z z z z z (by decide) (fun _=>by kernel_rfl) (z) (key:=999) z (by rw[Y]; rfl) fun p2 ac n aF=>sx0 z z<|g'<|sr<|yy (D' 3 bc' z z z) z ?_
 obtain⟨a0,ap,hr⟩:=hr
 refine K' z z (m' E65 z) (cT' ap) z (⟨(M.mono n),(L.mono n)⟩)<|yy (aH' z z) z<|nx<|P' hr z (fun aM hr=>?_) (fun aM hr=>?_)
 .refine sr<|sg z z<|sx0 z z<|k'<|f' ?_
  obtain rfl:_=r:=hr
  exact bd' z z z ⟨_,_,z,(ay' a' _)⟩
 refine n'<|b'<|g'<|sr<|sx0 z z<|ab' (fun (⟨t,I,H,B,O⟩:(List Za)×Option Addr×Nat×Option Ow×Mem)=>[(8,.slice I t.length H)]) (fun ⟨t,I,H,B,O⟩=>Mem.le ac O/\sl a' O I H t/\Tok 12 119 (.slice I t.length H) t.length B/\(ZdR t).Ret r) (fun ⟨t,I,H,B,O⟩=>St w0 G0 O [(1008,B)]) ?_ ?_
 .refine y' ?_
  let ab:(((List Za)×Int)⊕(List Za))->Prop:=fun oo=>((fun ov=>match ov with | .inl rv1=>Cq.ret rv1 | .inr t=>ZdR t:(((List Za)×Int)⊕(List Za))->Cq ((List Za)×Int)) oo).wp (fun a=>a=r)
  replace hr:(Cq.loop _ _).wp ab:=hr
  refine ac' (Φ:=ab) (fun (⟨o,s,q,p,T,K⟩:(List Za)×Option Addr×Nat×Option Ow×Int×Mem)=>((o,T):(List Za)×Int)) (fun ⟨o,s,q,p,T,K⟩=>[(2,.slice aa p1.length ad),(3,pt0 b1),(4,pt0 b2),(8,.slice s o.length q),(9,i' T)]) (fun ⟨o,s,q,p,T,K⟩=>Mem.le ac K/\sl a' K s q o/\Tok 12 119 (.slice s o.length q) o.length p) (fun ⟨o,s,q,p,T,K⟩=>St w0 G0 K [(3,bk0 b1 (v59' Z D E C F) 59),(4,bk0 b2 (vecG (Value.int .i64) 8 m1) 68),(1008,p)]) ⟨[],p2,0,none,0,ac⟩ hr (f5 z z z z z) ⟨mr,aF,cb'⟩ (wk (lc z (lc z (lw ln)))) ?_
  .intro aX gx hx hr
   obtain⟨o,s,q,p,T,K⟩:=gx
   obtain⟨m,U,P⟩:=hx
   refine g'<|sr<|mv z z<|mv z z<|yy (O' C' (Q.mono (mx n m)) z) z<|yy (aa' z z) z<|nx<|P' hr z (fun aC hr=>?_) (fun aC hr=>?_)
   .refine n'<|b'<|g'<|y'<|g'<|ak' [ff,ff,ff,ff,ff,ff,ff,ff,ff,tt,ff] mix (by kernel_rfl) fun hb=>cn (fun _ k=>D' 4 bo' z z (Q' _ _ _))<|cn (fun _ k=>c' z)<|cn (fun _ k=>c' z) ?_
    obtain⟨x1,am,hr⟩:=hr
    refine cn (fun _ k=>V' C' aW' ((Q.mono (mx n m)).mono k) z z am)<|cn (fun _ k=>aM' z)<|cn (fun _ k=>ao' _ bo' z (Q' _ _ _) (bK' (J' (J' (bq' (aG' (Z' Q am))) (mx n m)) k))) ?_
    obtain⟨J,aq,hr⟩:=hr
    refine bL' z (fun _=>m' E66 z) (fU' aq) z (fun G' k=>trivial)<|cn (fun _ k=>c' z)<|cn (fun _ k=>R' z z)<|cv' z (R' z z)<|bN' (fun _=>z) z68<|Chain.tail1 hb fun b3=>B' 10 z sz68 z z z (Q' _ _ _) (Q' _ _ _) (fun u hu=>Rp.one (bD' .i64 8) (G:=K) (x:=J.1) (cs:=vecG (Value.int .i64) 8 J.1) z u (by first|simpa using hu|simpa [Value.cells] using hu))<|sg z z<|q'<|am'<|b'<|g'<|sr<|mv z z<|yy (bp' z z) z<|nx<|P' hr z (fun aG hr=>?_) (fun aG hr=>?_)
    .exact (show False from hr).elim
    refine n'<|b'<|ak' [tt,ff,ff,ff,ff,ff,ff,ff,ff] mix (by kernel_rfl) fun hb=>cv' z (c' z)<|cn (fun _ k=>D' 3 bc' z z z)<|cn (fun _ k=>c' z)<|cn (fun _ k=>c' z) ?_
    obtain⟨x2,ah,hr⟩:=hr
    refine cn (fun _ k=>V' C' aW' ((Q.mono (mx n m)).mono k) z z ah)<|cn (fun _ k=>aV' z) ?_
    obtain⟨aj,ak,al,ai,ay,S,R⟩:=ce' (J' (br' (aG' (Z' Q ah))) (mx n m))
    refine cn (fun _ k=>ao' _ bc' z z (fun j v hv=>k _ _ _ (ay j v hv))) ?_
    obtain⟨l,au,hr⟩:=hr
    refine az' (post:=w59' l) (fun _=>z) (fun _ _=>m' E67 z) (fW' au) z (fun G' k=>⟨((M.mono (mx n m)).mono k),((L.mono (mx n m)).mono k),(S.mono k),(R.mono k)⟩) (fun v G1 G2 k h=>?_) ?_
    .obtain⟨i,c,f,g,rfl,y,A⟩:=h
     exact⟨_,_,_,_,z,y.mono k,A.mono k⟩
    refine cu (fun _ _ k=>D' 10 bo' z z (Q' _ _ _))<|bi' (d:=41) (post:=w59' l) (fun aQ aZ W X=>?_)
    obtain⟨i,c,f,g,rfl,y,A⟩:=X
    refine yy (au' (vs:=#[(0,.agg ((v59' l i c f g)).toArray),(1,.agg (vecG (Value.int .i64) 8 J.1).toArray)]) (v:=.agg (((v59' l i c f g):List Value)++(vecG (Value.int .i64) 8 J.1)).toArray) z z (fun _=>by kernel_rfl)) z<|aF' (e:=119) (r:=a') (vs:=#[(0,.agg (((v59' l i c f g):List Value)++(vecG (Value.int .i64) 8 J.1)).toArray)]) (cs:=(((v59' l i c f g):List Value)++(vecG (Value.int .i64) 8 J.1))++([])) ([(Za.mk l J.1)]:List Za) z z z z z (by decide) (fun _=>by kernel_rfl) ⟨((v59' l i c f g):List Value)++(vecG (Value.int .i64) 8 J.1),[],z,⟨(v59' l i c f g),vecG (Value.int .i64) 8 J.1,z,⟨(v57' l.num i c),(v57' l.den f g),z,⟨[.bool l.num.neg],[.slice i l.num.mag.length c],z,z,⟨_,z,y⟩⟩,⟨[.bool l.den.neg],[.slice f l.den.mag.length g],z,z,⟨_,z,A⟩⟩⟩,z⟩,z⟩ (key:=999) z (by rw[Y]; rfl) (fun p3 aY V aE=>?_)
    obtain⟨ao,hr⟩:=hr
    refine bb' (r:=a') 1008 z z C' el119 z (by decide) z z (U.mono (mx W V)) z (by rw[Y]; rfl) P aE ao fun p4 aB aw aJ ae az an=>sg z z<|q'<|am'<|F'<|b'<|x'<|mv z z<|yy (W' z z) z<|sg z z<|q'<|T' ⟨(o++[(Za.mk l J.1)]),p4,aB,aw,i64.wrap (T+1),aJ⟩ hr ⟨(mx (mx (mx m W) V) ae),az,an⟩ (f5 z z z z z) (w3 z z z)
   refine ae'<|h'<|h'<|I'<|af' ⟨o,s,q,p,K⟩ ⟨m,U,P,hr⟩ (f1 z) (w1 z)
 rintro⟨t,I,H,B,O⟩ ⟨aN,ag,aD,hr⟩
 refine b'<|sr<|mv z z<|sg z z<|sx0 z z<|k' ?_
 obtain rfl:_=r:=hr
 exact bd' z z z ⟨_,_,z,ag⟩
theorem bv'{I u n r}(hr:(ZC I u n).Ret r):Ctr prog 40 #[i' I,i' u,i' n] (fun G=>True) (wl' a' r):=by
 refine H' (args:=[_,_,_]) (N:=21) func40 z z z fun w0 G0 ac S=>sr<|sg z z<|nr<|mv z z ?_
 obtain⟨X,F,hr⟩:=hr
 refine N' z z (m' E26 z) (cc' F) z (trivial) (fun M U L j=>?_)
 obtain⟨t,y,p,x,rfl,c,e⟩:=j
 refine mv z z<|mv z z<|yy (au' (vs:=#[(0,i' u),(1,i' n)]) (v:=.agg (vecG (Value.int .i64) 8 (setF (setF (fun _=>0) 0 u) 1 n)).toArray) z z (fun _=>by kernel_rfl)) z ?_
 obtain⟨V,B,hr⟩:=hr
 refine N' z z (m' E26 z) (cc' B) z (trivial) (fun T aa h l=>?_)
 obtain⟨s,q,o,A,rfl,f,d⟩:=l
 obtain⟨Z,E,hr⟩:=hr
 refine N' z z (m' E51 z) (dn' E) z (⟨f,d⟩) (fun R ab g i=>?_)
 obtain⟨O,Q,rfl,D⟩:=i
 obtain⟨W,C,hr⟩:=hr
 refine N' z z (m' E27 z) (da' C) z (⟨(c.mono (mx h g)),(e.mono (mx h g)),D⟩) (fun P Y K k=>?_)
 obtain⟨J,H,rfl,m⟩:=k
 refine mv z z<|yy (R' z z) z<|yy (R' z z) z<|sg z z<|sg z z<|nr<|mv z z<|sx0 z z<|k' ?_
 obtain rfl:_=r:=hr
 exact j' z z ⟨_,_,z,m⟩
theorem eW'{k n f c d e m l r}(hr:(Zeh k n).Ret r):Ctr prog 80 #[.agg ((v59' k f c d e)).toArray,.slice m n.length l] (fun G=>sl (Rp.int .u32) G f c k.num.mag/\sl (Rp.int .u32) G d e k.den.mag/\sl a' G m l n) (wl' a' r):=by
 refine H' (args:=[_,_]) (N:=15) func80 z z z (fun E D B o=>?_)
 obtain⟨h,g,t⟩:=o
 refine sr<|ai' 2 z z z fun C=>sg z z<|nr<|yy (D' 2 bc' z z z) z<|yy (au' (vs:=#[]) (v:=.agg (vecG (Value.int .i64) 8 (fun _=>0)).toArray) z z (fun _=>by kernel_rfl)) z<|mv z z ?_
 obtain⟨A,p,hr⟩:=hr
 refine N' z z (m' E27 z) (da' p) z (⟨h,g,t⟩) (fun x y u i=>?_)
 obtain⟨s,q,rfl,j⟩:=i
 refine mv z z<|yy (R' z z) z<|yy (R' z z) z<|sg z z<|sg z z<|nr<|mv z z<|sx0 z z<|k' ?_
 obtain rfl:_=r:=hr
 exact j' z z ⟨_,_,z,j⟩
theorem dR'{q o r}(hr:(Zcz q o).Ret r):Ctr prog 81 #[.agg (vecG (Value.int .i64) 8 q).toArray,.agg (vecG (Value.int .i64) 8 o).toArray] (fun G=>True) (fun G v=>v=i' r):=by
 refine H' (args:=[_,_]) (N:=24) func81 z z z fun u i I D=>sr<|ai' 2 z z z fun x=>ai' 3 z z z fun s=>sx0 z z<|g'<|sr<|sx0 z z<|ab' (fun (f:Mem)=>match f with|e=>[]) (fun (f:Mem)=>match f with|e=>Mem.le i e/\(Ze7).Ret r) (fun (f:Mem)=>match f with|e=>St u i e []) ?_ ?_
 .refine y' ?_
  let j:(Int⊕Unit)->Prop:=fun E=>((fun C=>match C with | .inl rv1=>Cq.ret rv1 | .inr ()=>Ze7:(Int⊕Unit)->Cq Int) E).wp (fun a=>a=r)
  replace hr:(Cq.loop _ _).wp j:=hr
  refine ac' (Φ:=j) (fun (⟨g,d⟩:Int×Mem)=>(g:Int)) (fun ⟨g,d⟩=>[(2,pt0 x),(3,pt0 s),(5,i' g)]) (fun ⟨g,d⟩=>Mem.le i d) (fun ⟨g,d⟩=>St u i d [(2,bk0 x (vecG (Value.int .i64) 8 q) 68),(3,bk0 s (vecG (Value.int .i64) 8 o) 68)]) ⟨0,i⟩ hr (f3 z z z) mr (w2 z z) ?_
  .intro H f F hr
   obtain⟨g,d⟩:=f
   have h:=F
   refine g'<|sr<|mv z z<|yy (aa' z z) z<|nx<|P' hr z (fun A hr=>?_) (fun A hr=>?_)
   .refine n'<|b'<|g'<|y'<|g'<|g'<|ak' [ff,ff,ff,ff,ff,ff] mix (by kernel_rfl) fun p=>cn (fun _ c=>c' z) ?_
    obtain⟨k,hr⟩:=hr
    refine cn (fun _ c=>aT' ar' sz3 z z k)<|cn (fun _ c=>o' 2 sc3 z z (bh' _ _ _ k))<|cn (fun _ c=>c' z) ?_
    obtain⟨l,hr⟩:=hr
    refine cn (fun _ c=>aT' ar' sz3 z z l)<|cn (fun _ c=>o' 3 sc3 z z (bh' _ _ _ l))<|ah' p<|yy (aa' z z) z<|q'<|am'<|b'<|P' hr z (fun t hr=>?_) (fun t hr=>?_)
    .refine sr<|sx0 z z<|k'<|f'<|A'<|f'<|f'<|A'<|an'<|f' (k0' hr z z)
    refine n'<|b'<|g'<|ak' [ff,ff,ff,ff,ff,ff] mix (by kernel_rfl) fun p=>cn (fun _ c=>c' z) ?_
    obtain⟨n,hr⟩:=hr
    refine cn (fun _ c=>aT' ar' sz3 z z n)<|cn (fun _ c=>o' 2 sc3 z z (bh' _ _ _ n))<|cn (fun _ c=>c' z) ?_
    obtain⟨m,hr⟩:=hr
    refine cn (fun _ c=>aT' ar' sz3 z z m)<|cn (fun _ c=>o' 3 sc3 z z (bh' _ _ _ m))<|ah' p<|yy (aS' z z) z<|q'<|am'<|b'<|P' hr z (fun y hr=>?_) (fun y hr=>?_)
    .refine sr<|sx0 z z<|k'<|A'<|f'<|f'<|A'<|an'<|f' (k0' hr z z)
    refine n'<|F'<|b'<|x'<|mv z z<|yy (W' z z) z<|sg z z<|q'<|T' ⟨i64.wrap (g+1),d⟩ hr h (f3 z z z) (w2 z z)
   refine ae'<|h'<|h'<|I'<|af' d ⟨h,hr⟩ fn (wk ln)
 rintro e ⟨B,hr⟩
 refine b'<|sr<|sx0 z z<|k' (k0' hr z z)
theorem fX'{L K j g l k r}(hr:(ZkB L K).Ret r):Ctr prog 62 #[.agg ((v57' L j g)).toArray,.agg ((v57' K l k)).toArray] (fun G=>sl (Rp.int .u32) G j g L.mag/\sl (Rp.int .u32) G l k K.mag) (w57' r):=by
 refine H' (args:=[_,_]) (N:=40) func62 z z z (fun w0 G0 aA W=>?_)
 obtain⟨f,e⟩:=W
 refine sr<|ai' 2 z z z fun b2=>ai' 3 z z z fun b3=>X' 4 z z57 z fun b4=>nx<|g'<|sr<|yy (aQ' z) z<|yy (o' 2 sc4 z z z) z<|yy (aQ' z) z<|yy (o' 3 sc4 z z z) z<|yy (do' bf' z z) z<|nx<|P' hr z (fun ai hr=>?_) (fun ai hr=>?_)
 .refine g'<|ak' [ff,ff,ff,ff,ff,ff,ff] mix (by kernel_rfl) fun hb=>cn (fun _ c=>aQ' z)<|cn (fun _ c=>o' 2 sc4 z z z)<|cn (fun _ c=>as' z)<|cn (fun _ c=>o' 2 be' z z z)<|cn (fun _ c=>as' z)<|cn (fun _ c=>o' 3 be' z z z) ?_
  obtain⟨E,M,hr⟩:=hr
  refine az' (post:=wl' (Rp.int .u32) E) (fun _=>z) (fun _ _=>m' E116 z) (fL' M) z (fun G' c=>⟨(f.mono c),(e.mono c)⟩) (fun v G1 G2 c h=>?_) ?_
  .obtain⟨U,I,rfl,m⟩:=h
   exact⟨_,_,z,m.mono c⟩
  refine bi' (d:=16) (post:=wl' (Rp.int .u32) E) (fun aw aD an s=>?_)
  obtain⟨U,I,rfl,m⟩:=s
  obtain⟨aB,O,hr⟩:=hr
  refine N' z z (m' E114 z) (cw' O) z (m) (fun av az al B=>?_)
  obtain⟨Y,ac,rfl,x⟩:=B
  refine B' 4 z bn' z z z z z (List.all_eq_true.1 z)<|q'<|am'<|b'<|k'<|f' ?_
  obtain rfl:_=r:=hr
  exact j' z (aw' (i:=4) at' z z z) ⟨_,_,z,x⟩
 refine n'<|b'<|g'<|sr<|yy (as' z) z<|yy (o' 2 be' z z z) z<|yy (as' z) z<|yy (o' 3 be' z z z) z ?_
 obtain⟨aC,T,hr⟩:=hr
 refine K' z z (m' E117 z) (bS' T) z (⟨f,e⟩)<|yy (aa' z z) z<|nx<|P' hr z (fun ag hr=>?_) (fun ag hr=>?_)
 .refine g'<|ak' [ff,ff,ff,ff,ff,ff,ff] mix (by kernel_rfl) fun hb=>cn (fun _ c=>aQ' z)<|cn (fun _ c=>o' 3 sc4 z z z)<|cn (fun _ c=>as' z)<|cn (fun _ c=>o' 3 be' z z z)<|cn (fun _ c=>as' z)<|cn (fun _ c=>o' 2 be' z z z) ?_
  obtain⟨C,F,hr⟩:=hr
  refine az' (post:=wl' (Rp.int .u32) C) (fun _=>z) (fun _ _=>m' E118 z) (eU' F) z (fun G' c=>⟨(e.mono c),(f.mono c)⟩) (fun v G1 G2 c h=>?_) ?_
  .obtain⟨R,P,rfl,n⟩:=h
   exact⟨_,_,z,n.mono c⟩
  refine bi' (d:=30) (post:=wl' (Rp.int .u32) C) (fun au ax am t=>?_)
  obtain⟨R,P,rfl,n⟩:=t
  obtain⟨aG,S,hr⟩:=hr
  refine N' z z (m' E114 z) (cw' S) z (n) (fun aq aE ak u=>?_)
  obtain⟨ab,aa,rfl,y⟩:=u
  refine B' 4 z bn' z z z z z (List.all_eq_true.1 z)<|q'<|am'<|b'<|k'<|f' ?_
  obtain rfl:_=r:=hr
  exact j' z (aw' (i:=4) at' z z z) ⟨_,_,z,y⟩
 refine n'<|b'<|g'<|ak' [ff,ff,ff,ff,ff,ff,ff] mix (by kernel_rfl) fun hb=>cn (fun _ c=>aQ' z)<|cn (fun _ c=>o' 2 sc4 z z z)<|cn (fun _ c=>as' z)<|cn (fun _ c=>o' 2 be' z z z)<|cn (fun _ c=>as' z)<|cn (fun _ c=>o' 3 be' z z z) ?_
 obtain⟨D,H,hr⟩:=hr
 refine az' (post:=wl' (Rp.int .u32) D) (fun _=>z) (fun _ _=>m' E118 z) (eU' H) z (fun G' c=>⟨(f.mono c),(e.mono c)⟩) (fun v G1 G2 c h=>?_) ?_
 .obtain⟨Q,J,rfl,o⟩:=h
  exact⟨_,_,z,o.mono c⟩
 refine bi' (d:=38) (post:=wl' (Rp.int .u32) D) (fun ap aH aj p=>?_)
 obtain⟨Q,J,rfl,o⟩:=p
 obtain⟨aF,V,hr⟩:=hr
 refine N' z z (m' E114 z) (cw' V) z (o) (fun ar ay ao A=>?_)
 obtain⟨Z,X,rfl,q⟩:=A
 refine B' 4 z bn' z z z z z (List.all_eq_true.1 z)<|q'<|am'<|b'<|k' ?_
 obtain rfl:_=r:=hr
 exact j' z (aw' (i:=4) at' z z z) ⟨_,_,z,q⟩
theorem fY'{t s m o e k l n g j r}(hr:(ZgB t s).Ret r):Ctr prog 82 #[.agg ((v59' t m o e k)).toArray,.agg ((v59' s l n g j)).toArray] (fun G=>sl (Rp.int .u32) G m o t.num.mag/\sl (Rp.int .u32) G e k t.den.mag/\sl (Rp.int .u32) G l n s.num.mag/\sl (Rp.int .u32) G g j s.den.mag) (w59' r):=by
 refine H' (args:=[_,_]) (N:=22) func82 z z z (fun w0 G0 aA ak=>?_)
 obtain⟨I,A,J,y⟩:=ak
 refine sr<|ai' 2 z z z fun b2=>ai' 3 z z z fun b3=>X' 4 z z59 z fun b4=>nx<|g'<|ak' [ff,ff,ff,ff,ff,ff,ff,ff,ff,ff,ff,ff,ff,ff,ff] mix (by kernel_rfl) fun hb=>cn (fun _ c=>bk' z)<|cn (fun _ c=>al' ((v57' t.num m o)).toArray 2 at' z z z (ap' ([]) ((v57' t.num m o)) ((v57' t.den e k))))<|cn (fun _ c=>aY' z)<|cn (fun _ c=>al' ((v57' s.den g j)).toArray 3 at' z z z (ap' ((v57' s.num l n)) ((v57' s.den g j)) ([]))) ?_
 obtain⟨V,ag,hr⟩:=hr
 refine az' (post:=w57' V) (fun _=>z) (fun _ _=>m' E63 z) (cJ' ag) z (fun W c=>⟨(I.mono c),(y.mono c)⟩) (fun v G1 G2 c h=>?_) ?_
 .obtain⟨D,B,rfl,p⟩:=h
  exact⟨_,_,z,p.mono c⟩
 refine cu (fun _ _ c=>bk' z)<|cu (fun _ _ c=>al' ((v57' s.num l n)).toArray 3 at' z z z (ap' ([]) ((v57' s.num l n)) ((v57' s.den g j))))<|cu (fun _ _ c=>aY' z)<|cu (fun _ _ c=>al' ((v57' t.den e k)).toArray 2 at' z z z (ap' ((v57' t.num m o)) ((v57' t.den e k)) ([]))) ?_
 obtain⟨U,ah,hr⟩:=hr
 refine az' (post:=w57' U) (fun _=>z) (fun _ _=>m' E63 z) (cJ' ah) z (fun W c=>⟨(J.mono c),(A.mono c)⟩) (fun v G1 G2 c h=>?_) ?_
 .obtain⟨C,E,rfl,q⟩:=h
  exact⟨_,_,z,q.mono c⟩
 obtain⟨ae,aj,hr⟩:=hr
 refine bJ' (f:=62) (φ:=w57' ae) (fun _=>z) (fun v G1 G2 c h=>?_) (fun u W c hu=>?_) ?_
 .obtain⟨T,Q,rfl,x⟩:=h
  exact⟨_,_,z,x.mono c⟩
 .obtain⟨⟨C,E,Z,q⟩,⟨D,B,ac,p⟩,_⟩:=(show (w57' U) W.m (u 14)/\(w57' V) W.m (u 9)/\True from hu)
  exact⟨_,_,_,fun _=>m' E62 z,fX' aj,(by simp only[Z,ac] <;> rfl),⟨p,q⟩⟩
 refine cu (fun _ _ c=>aY' z)<|cu (fun _ _ c=>al' ((v57' t.den e k)).toArray 2 at' z z z (ap' ((v57' t.num m o)) ((v57' t.den e k)) ([])))<|cu (fun _ _ c=>aY' z)<|cu (fun _ _ c=>al' ((v57' s.den g j)).toArray 3 at' z z z (ap' ((v57' s.num l n)) ((v57' s.den g j)) ([])))<|cx' (d:=15) (post:=w57' ae) (d':=14) (post':=w57' U) (d'':=9) (post'':=w57' V) (fun ar av aw aC K R S M=>?_)
 obtain⟨T,Q,rfl,x⟩:=R
 obtain⟨C,E,rfl,q⟩:=S
 obtain⟨D,B,rfl,p⟩:=M
 obtain⟨ay,af,hr⟩:=hr
 refine N' z z (m' E63 z) (cJ' af) z (⟨(A.mono K),(y.mono K)⟩) (fun au az ab O=>?_)
 obtain⟨al,am,rfl,L⟩:=O
 obtain⟨aD,ai,hr⟩:=hr
 refine N' z z (m' E64 z) (dD' ai) z (⟨(x.mono ab),L⟩) (fun aq aB ap P=>?_)
 obtain⟨ad,X,Y,aa,rfl,F,H⟩:=P
 refine B' 4 z ch' z z z z z (List.all_eq_true.1 z)<|q'<|am'<|b'<|k' ?_
 obtain rfl:_=r:=hr
 exact j' z (aw' (i:=4) bc' z z z) ⟨_,_,_,_,z,F,H⟩
theorem dz'{I F S Y U V r}(hr:(Zb2 I F).Ret r):Ctr prog 41 #[.slice S I.length Y,.slice U F.length V] (fun G=>sl a' G S Y I/\sl a' G U V F) (wl' a' r):=by
 refine H' (args:=[_,_]) (N:=109) func41 z z z (fun w0 G0 av bA=>?_)
 obtain⟨A,J⟩:=bA
 refine sr<|sg z z<|nr<|aF' (e:=119) (r:=a') (vs:=#[]) (cs:=[]) ([]:List Za) z z z z z (by decide) (fun _=>by kernel_rfl) (z) (key:=999) z (by rw[av]; rfl) fun p1 aY g bS=>sg z z<|nr<|sg z z<|sx0 z z<|g'<|ab' (fun (⟨aa,aj,ah,ae,az⟩:(List Za)×Option Addr×Nat×Option Ow×Mem)=>[(5,.slice aj aa.length ah)]) (fun ⟨aa,aj,ah,ae,az⟩=>Mem.le aY az/\sl a' az aj ah aa/\Tok 12 119 (.slice aj aa.length ah) aa.length ae/\(Zfa aa).Ret r) (fun ⟨aa,aj,ah,ae,az⟩=>St w0 G0 az [(1005,ae)]) ?_ ?_
 .refine y' ?_
  let ao:(List Za)->Prop:=fun oo=>((fun ov=>match ov with|aa=>Zfa aa:(List Za)->Cq (List Za)) oo).wp (fun a=>a=r)
  replace hr:(Cq.loop _ _).wp ao:=hr
  refine ac' (Φ:=ao) (fun (⟨C,H,E,D,M,o,af⟩:(List Za)×Option Addr×Nat×Option Ow×Int×Int×Mem)=>((C,M,o):(List Za)×Int×Int)) (fun ⟨C,H,E,D,M,o,af⟩=>[(0,.slice S I.length Y),(1,.slice U F.length V),(5,.slice H C.length E),(6,i' M),(7,i' o)]) (fun ⟨C,H,E,D,M,o,af⟩=>Mem.le aY af/\sl a' af H E C/\Tok 12 119 (.slice H C.length E) C.length D) (fun ⟨C,H,E,D,M,o,af⟩=>St w0 G0 af [(1005,D)]) ⟨[],p1,0,none,0,0,aY⟩ hr (f5 z z z z z) ⟨mr,bS,cb'⟩ (wk (lw ln)) ?_
  .intro aI gx hx hr
   obtain⟨C,H,E,D,M,o,af⟩:=gx
   obtain⟨d,aE,aw⟩:=hx
   refine aO' (fun (gx:Mem)=>match gx with|am=>[(0,.slice S I.length Y),(1,.slice U F.length V),(5,.slice H C.length E),(6,i' M),(7,i' o)]) (fun (gx:Mem)=>match gx with|am=>Mem.le af am/\(ZaH I F C M o).wp (Out aI ao)) (fun (gx:Mem)=>match gx with|am=>St w0 G0 am [(1005,D)]) ?_ ?_
   .refine sr<|mv z z<|mv z z<|yy (O' C' (A.mono (mx g d)) z) z<|aE' hr z (aa' z z) z (fun b3 hr=>?_) (fun b3 hr=>?_)
    .refine mv z z<|sn4 z<|yy (w' z z) z<|nx<|aB' z<|n'<|ax' af ⟨mr,hr⟩ (f5 z z z z z) (w1 z)
    refine mv z z<|gy z z (c' z) z<|gy z z (c' z) z<|gy z z (O' C' (J.mono (mx g d)) z) z<|gy z z (aa' z z) z<|yy (t' z z) z<|nx<|P' hr z (fun bO hr=>?_) (fun bO hr=>?_)
    .refine n'<|ax' af ⟨mr,hr⟩ (f5 z z z z z) (w1 z)
    refine ae'<|h'<|h'<|I'<|af' ⟨C,H,E,D,af⟩ ⟨d,aE,aw,hr⟩ (f1 z) (w1 z)
   rintro am ⟨f,hr⟩
   refine y'<|aO' (fun (⟨L,W,X,R,K,an⟩:(List Za)×Option Addr×Nat×Option Ow×Int×Mem)=>[(0,.slice S I.length Y),(1,.slice U F.length V),(5,.slice W L.length X),(6,i' K),(7,i' o)]) (fun ⟨L,W,X,R,K,an⟩=>Mem.le am an/\sl a' an W X L/\Tok 12 119 (.slice W L.length X) L.length R/\(Zcb I F o L K).wp (Out aI ao)) (fun ⟨L,W,X,R,K,an⟩=>St w0 G0 an [(1005,R)]) ?_ ?_
   .refine aO' (fun (⟨ar,ay⟩:Bool×Mem)=>[(0,.slice S I.length Y),(1,.slice U F.length V),(5,.slice H C.length E),(6,i' M),(7,i' o),(43,.bool ar)]) (fun ⟨ar,ay⟩=>Mem.le am ay/\(Zal I F C M o ar).wp (Out aI ao)) (fun ⟨ar,ay⟩=>St w0 G0 ay [(1005,D)]) ?_ ?_
    .refine ak' [ff,ff,ff,ff,ff,ff,ff,ff,ff,ff,ff,ff,ff,ff,ff,ff,ff,ff,ff,ff] mix (by kernel_rfl) fun hb=>cn (fun _ c=>c' z)<|cn (fun _ c=>c' z)<|cn (fun _ c=>O' C' ((J.mono (mx (mx g d) f)).mono c) z)<|bG' hr z (fun _ c=>aH' z z) (fun bR hr=>?_) (fun bR hr=>?_)
     .refine cn (fun _ c=>c' z)<|cf z z<|cf z z<|cf z z<|cf z z<|cf z z<|cs z z<|cs z z<|cs z z<|cs z z<|cs z z<|cs z z<|cs z z<|cs z z<|cs z z<|cs z z<|ah' hb<|aX' (aq' z z) z<|aX' (aq' z z) z<|sf z z z<|yy (w' z z) z<|q'<|am'<|ax' ⟨true,am⟩ ⟨mr,hr⟩ (f6 z z z z z z) (w1 z)
     refine cn (fun _ c=>c' z)<|cy z z (fun _ c=>c' z)<|cy z z (fun _ c=>c' z)<|cy z z (fun _ c=>O' C' ((A.mono (mx (mx g d) f)).mono c) z)<|bG' hr (E' z z) (fun _ c=>aa' z z) (fun bV hr=>?_) (fun bV hr=>?_)
     .refine cy z z (fun _ c=>c' z)<|cy z z (fun _ c=>c' z)<|cy z z (fun _ c=>c' z) ?_
      obtain⟨x8,bj,hr⟩:=hr
      refine cy z z (fun _ c=>V' C' aW' ((A.mono (mx (mx g d) f)).mono c) z z bj)<|cy z z (fun _ c=>aM' z)<|cy z z (fun _ c=>ao' _ bo' z (Q' _ _ _) (bK' (J' (J' (bq' (aG' (Z' A bj))) (mx (mx g d) f)) c)))<|cy z z (fun _ c=>c' z)<|cy z z (fun _ c=>c' z) ?_
      obtain⟨x9,bi,hr⟩:=hr
      refine cy z z (fun _ c=>V' C' aW' ((J.mono (mx (mx g d) f)).mono c) z z bi)<|cy z z (fun _ c=>aM' z)<|cy z z (fun _ c=>ao' _ bo' z (Q' _ _ _) (bK' (J' (J' (bq' (aG' (Z' J bi))) (mx (mx g d) f)) c)))<|ah' hb ?_
      obtain⟨bF,bl,hr⟩:=hr
      refine K' (E' z z) z (m' E81 z) (dR' bl) z (trivial)<|gy z z (aS' z z) z<|gy z z (w' z z) z<|yy (t' z z) z<|q'<|am'<|ax' ⟨decide (0<bF),am⟩ ⟨mr,hr⟩ (f6 z z z z z z) (w1 z)
     refine cy z z (fun _ c=>c' z)<|ct z z<|ct z z<|ct z z<|ct z z<|ct z z<|ct z z<|ct z z<|ct z z<|ct z z<|ct z z<|ah' hb<|sn2 z<|gy z z (t' z z) z<|yy (t' z z) z<|q'<|am'<|ax' ⟨false,am⟩ ⟨mr,hr⟩ (f6 z z z z z z) (w1 z)
    rintro⟨ar,ay⟩ ⟨ai,hr⟩
    refine aK' hr z (fun bW hr=>?_) (fun bW hr=>?_)
    .refine sr<|mv z z<|mv z z<|mv z z ?_
     obtain⟨x7,bh,hr⟩:=hr
     refine yy (V' C' aW' (A.mono (mx (mx (mx g d) f) ai)) z z bh) z ?_
     obtain⟨p,q,s,u,bN,aF,aG⟩:=bM' (J' (Z' A bh) (mx (mx (mx g d) f) ai))
     refine yy (ao' _ cF' z z bN) z<|aF' (e:=119) (r:=a') (vs:=#[(0,.agg (((v59' x7.c p q s u):List Value)++(vecG (Value.int .i64) 8 x7.m)).toArray)]) (cs:=(((v59' x7.c p q s u):List Value)++(vecG (Value.int .i64) 8 x7.m))++([])) ([x7]:List Za) z z z z z (by decide) (fun _=>by kernel_rfl) ⟨((v59' x7.c p q s u):List Value)++(vecG (Value.int .i64) 8 x7.m),[],z,⟨(v59' x7.c p q s u),vecG (Value.int .i64) 8 x7.m,z,⟨(v57' x7.c.num p q),(v57' x7.c.den s u),z,⟨[.bool x7.c.num.neg],[.slice p x7.c.num.mag.length q],z,z,⟨_,z,aF⟩⟩,⟨[.bool x7.c.den.neg],[.slice s x7.c.den.mag.length u],z,z,⟨_,z,aG⟩⟩⟩,z⟩,z⟩ (key:=999) z (by rw[av]; rfl) (fun p6 ch aS bE=>?_)
     obtain⟨br,hr⟩:=hr
     refine bb' (r:=a') 1005 z z C' el119 z (by decide) z z (aE.mono (mx (mx f ai) aS)) z (by rw[av]; rfl) aw bE br fun p7 b2 bn bX a3 bK bu=>sg z z<|nr<|mv z z<|yy (W' z z) z<|sx0 z z<|ae'<|h'<|I'<|T' ⟨(C++[x7]),p7,b2,bn,i64.wrap (M+1),o,bX⟩ hr ⟨(mx (mx (mx (mx d f) ai) aS) a3),bK,bu⟩ (f5 z z z z z) (w1 z)
    refine n'<|ax' ⟨C,H,E,D,M,ay⟩ ⟨ai,(aE.mono (mx f ai)),aw,hr⟩ (f5 z z z z z) (w1 z)
   rintro⟨L,W,X,R,K,an⟩ ⟨n,aT,aH,hr⟩
   refine aO' (fun (⟨Z,ad,ac,ab,ap,ax⟩:(List Za)×Option Addr×Nat×Option Ow×Int×Mem)=>[(0,.slice S I.length Y),(1,.slice U F.length V),(5,.slice ad Z.length ac),(6,i' K),(7,i' ap)]) (fun ⟨Z,ad,ac,ab,ap,ax⟩=>Mem.le an ax/\sl a' ax ad ac Z/\Tok 12 119 (.slice ad Z.length ac) Z.length ab/\(Zfb I F K Z ap).wp (Out aI ao)) (fun ⟨Z,ad,ac,ab,ap,ax⟩=>St w0 G0 ax [(1005,ab)]) ?_ ?_
   .refine aO' (fun (⟨aq,aA⟩:Bool×Mem)=>[(0,.slice S I.length Y),(1,.slice U F.length V),(5,.slice W L.length X),(6,i' K),(7,i' o),(70,.bool aq)]) (fun ⟨aq,aA⟩=>Mem.le an aA/\(Zca I F o L K aq).wp (Out aI ao)) (fun ⟨aq,aA⟩=>St w0 G0 aA [(1005,R)]) ?_ ?_
    .refine ak' [ff,ff,ff,ff,ff,ff,ff,ff,ff,ff,ff,ff,ff,ff,ff] mix (by kernel_rfl) fun hb=>cn (fun _ c=>c' z)<|cn (fun _ c=>c' z)<|cn (fun _ c=>O' C' ((A.mono (mx (mx (mx g d) f) n)).mono c) z)<|bG' hr z (fun _ c=>aH' z z) (fun b4 hr=>?_) (fun b4 hr=>?_)
     .refine cn (fun _ c=>c' z)<|cf z z<|cf z z<|cf z z<|cf z z<|cf z z<|cf z z<|cf z z<|cf z z<|cf z z<|cf z z<|ah' hb<|sn2 z<|yy (w' z z) z<|q'<|am'<|ax' ⟨true,an⟩ ⟨mr,hr⟩ (f6 z z z z z z) (w1 z)
     refine cn (fun _ c=>c' z)<|cy z z (fun _ c=>c' z)<|cy z z (fun _ c=>c' z) ?_
     obtain⟨x5,a6,hr⟩:=hr
     refine cy z z (fun _ c=>V' C' aW' ((A.mono (mx (mx (mx g d) f) n)).mono c) z z a6)<|cy z z (fun _ c=>aM' z)<|cy z z (fun _ c=>ao' _ bo' z (Q' _ _ _) (bK' (J' (J' (bq' (aG' (Z' A a6))) (mx (mx (mx g d) f) n)) c)))<|cy z z (fun _ c=>c' z)<|cy z z (fun _ c=>c' z) ?_
     obtain⟨x6,be,hr⟩:=hr
     refine cy z z (fun _ c=>V' C' aW' ((J.mono (mx (mx (mx g d) f) n)).mono c) z z be)<|cy z z (fun _ c=>aM' z)<|cy z z (fun _ c=>ao' _ bo' z (Q' _ _ _) (bK' (J' (J' (bq' (aG' (Z' J be))) (mx (mx (mx g d) f) n)) c)))<|ah' hb ?_
     obtain⟨bQ,bz,hr⟩:=hr
     refine K' (E' z z) z (m' E81 z) (dR' bz) z (trivial)<|gy z z (aa' z z) z<|yy (t' z z) z<|q'<|am'<|ax' ⟨decide (bQ<0),an⟩ ⟨mr,hr⟩ (f6 z z z z z z) (w1 z)
    rintro⟨aq,aA⟩ ⟨ag,hr⟩
    refine aK' hr z (fun bP hr=>?_) (fun bP hr=>?_)
    .refine sr<|mv z z<|mv z z<|mv z z ?_
     obtain⟨x4,a5,hr⟩:=hr
     refine yy (V' C' aW' (J.mono (mx (mx (mx (mx g d) f) n) ag)) z z a5) z ?_
     obtain⟨x,t,y,B,bM,aC,aD⟩:=bM' (J' (Z' J a5) (mx (mx (mx (mx g d) f) n) ag))
     refine yy (ao' _ cF' z z bM) z<|aF' (e:=119) (r:=a') (vs:=#[(0,.agg (((v59' x4.c x t y B):List Value)++(vecG (Value.int .i64) 8 x4.m)).toArray)]) (cs:=(((v59' x4.c x t y B):List Value)++(vecG (Value.int .i64) 8 x4.m))++([])) ([x4]:List Za) z z z z z (by decide) (fun _=>by kernel_rfl) ⟨((v59' x4.c x t y B):List Value)++(vecG (Value.int .i64) 8 x4.m),[],z,⟨(v59' x4.c x t y B),vecG (Value.int .i64) 8 x4.m,z,⟨(v57' x4.c.num x t),(v57' x4.c.den y B),z,⟨[.bool x4.c.num.neg],[.slice x x4.c.num.mag.length t],z,z,⟨_,z,aC⟩⟩,⟨[.bool x4.c.den.neg],[.slice y x4.c.den.mag.length B],z,z,⟨_,z,aD⟩⟩⟩,z⟩,z⟩ (key:=999) z (by rw[av]; rfl) (fun p4 cj aU bJ=>?_)
     obtain⟨bv,hr⟩:=hr
     refine bb' (r:=a') 1005 z z C' el119 z (by decide) z z (aT.mono (mx ag aU)) z (by rw[av]; rfl) aH bJ bv fun p5 bD bB b0 a0 bZ bw=>sg z z<|nr<|mv z z<|yy (W' z z) z<|sx0 z z<|ae'<|h'<|I'<|T' ⟨(L++[x4]),p5,bD,bB,K,i64.wrap (o+1),b0⟩ hr ⟨(mx (mx (mx (mx (mx d f) n) ag) aU) a0),bZ,bw⟩ (f5 z z z z z) (w1 z)
    refine n'<|ax' ⟨L,W,X,R,o,aA⟩ ⟨ag,(aT.mono ag),aH,hr⟩ (f5 z z z z z) (w1 z)
   rintro⟨Z,ad,ac,ab,ap,ax⟩ ⟨T,aV,aK,hr⟩
   refine g'<|ak' [ff,ff,ff,ff,ff,ff,ff,ff,ff,ff,ff,ff] mix (by kernel_rfl) fun hb=>cn (fun _ c=>c' z)<|cn (fun _ c=>c' z) ?_
   obtain⟨x1,bk,hr⟩:=hr
   refine cn (fun _ c=>V' C' aW' ((A.mono (mx (mx (mx (mx g d) f) n) T)).mono c) z z bk)<|cn (fun _ c=>aV' z) ?_
   obtain⟨ba,bf,bg,a8,bH,aP,aM⟩:=ce' (J' (br' (aG' (Z' A bk))) (mx (mx (mx (mx g d) f) n) T))
   refine cn (fun _ c=>ao' _ bc' z z (fun j v hv=>c _ _ _ (bH j v hv)))<|cn (fun _ c=>c' z)<|cn (fun _ c=>c' z) ?_
   obtain⟨x2,a4,hr⟩:=hr
   refine cn (fun _ c=>V' C' aW' ((J.mono (mx (mx (mx (mx g d) f) n) T)).mono c) z z a4)<|cn (fun _ c=>aV' z) ?_
   obtain⟨a9,bb,bc,bd,bC,aJ,aO⟩:=ce' (J' (br' (aG' (Z' J a4))) (mx (mx (mx (mx g d) f) n) T))
   refine cn (fun _ c=>ao' _ bc' z z (fun j v hv=>c _ _ _ (bC j v hv))) ?_
   obtain⟨Q,bs,hr⟩:=hr
   refine az' (post:=w59' Q) (fun _=>z) (fun _ _=>m' E82 z) (fY' bs) z (fun G' c=>⟨(aP.mono c),(aM.mono c),(aJ.mono c),(aO.mono c)⟩) (fun v G1 G2 c h=>?_) ?_
   .obtain⟨m,l,i,k,rfl,P,O⟩:=h
    exact⟨_,_,_,_,z,P.mono c,O.mono c⟩
   refine bN' (fun _=>z) z59<|Chain.tailX2 (fun ck cc X1 au aZ aX=>?_)
   obtain⟨b1,rfl,bp⟩:=aZ
   obtain⟨m,l,i,k,rfl,P,O⟩:=aX
   refine WL.adopt bp (ds' (show WL _ _ _ _ _ _ (St w0 G0 X1.m _) from ?_))
   refine B' 8 z ch' z z z z z (List.all_eq_true.1 z)<|q'<|am'<|b'<|g'<|sr<|yy (D' 8 bc' z z z) z ?_
   obtain⟨cg,bt,hr⟩:=hr
   refine K' z z (m' E65 z) (cT' bt) z (⟨P,O⟩)<|yy (bp' z z) z<|nx<|P' hr z (fun b5 hr=>?_) (fun b5 hr=>?_)
   .refine ak' [tt,ff,ff,ff,ff,ff,ff] mix (by kernel_rfl) fun hb=>cv' z (c' z)<|cn (fun _ c=>D' 8 bc' z z z)<|cn (fun _ c=>c' z)<|cn (fun _ c=>c' z) ?_
    obtain⟨x3,a7,hr⟩:=hr
    have N1:=mx (mx (mx (mx (mx g d) f) n) T) au
    refine cn (fun _ c=>V' C' aW' ((A.mono N1).mono c) z z a7)<|cn (fun _ c=>aM' z)<|cn (fun _ c=>ao' _ bo' z (Q' _ _ _) (bK' (J' (J' (bq' (aG' (Z' A a7))) N1) c)))<|ah' hb<|yy (au' (vs:=#[(0,.agg ((v59' Q m l i k)).toArray),(1,.agg (vecG (Value.int .i64) 8 x3.m).toArray)]) (v:=.agg (((v59' Q m l i k):List Value)++(vecG (Value.int .i64) 8 x3.m)).toArray) z z (fun _=>by kernel_rfl)) z<|aF' (e:=119) (r:=a') (vs:=#[(0,.agg (((v59' Q m l i k):List Value)++(vecG (Value.int .i64) 8 x3.m)).toArray)]) (cs:=(((v59' Q m l i k):List Value)++(vecG (Value.int .i64) 8 x3.m))++([])) ([(Za.mk Q x3.m)]:List Za) z z z z z (by decide) (fun _=>by kernel_rfl) ⟨((v59' Q m l i k):List Value)++(vecG (Value.int .i64) 8 x3.m),[],z,⟨(v59' Q m l i k),vecG (Value.int .i64) 8 x3.m,z,⟨(v57' Q.num m l),(v57' Q.den i k),z,⟨[.bool Q.num.neg],[.slice m Q.num.mag.length l],z,z,⟨_,z,P⟩⟩,⟨[.bool Q.den.neg],[.slice i Q.den.mag.length k],z,z,⟨_,z,O⟩⟩⟩,z⟩,z⟩ (key:=999) z (by rw[av]; rfl) (fun p2 ci aW bT=>?_)
    obtain⟨bo,hr⟩:=hr
    refine bb' (r:=a') 1005 z z C' el119 z (by decide) z z (aV.mono (mx au aW)) z (by rw[av]; rfl) aK bT bo fun p3 bL bm bG a1 bU bq=>sg z z<|q'<|am'<|b'<|sr<|mv z z<|yy (W' z z) z<|sx0 z z<|x'<|mv z z<|yy (W' z z) z<|sg z z<|q'<|F'<|T' ⟨(Z++[(Za.mk Q x3.m)]),p3,bL,bm,i64.wrap (K+1),i64.wrap (ap+1),bG⟩ hr ⟨(mx (mx (mx (mx (mx (mx d f) n) T) au) aW) a1),bU,bq⟩ (f5 z z z z z) (w1 z)
   refine n'<|b'<|sr<|mv z z<|yy (W' z z) z<|sx0 z z<|x'<|mv z z<|yy (W' z z) z<|sg z z<|q'<|F'<|T' ⟨Z,ad,ac,ab,i64.wrap (K+1),i64.wrap (ap+1),X1.m⟩ hr ⟨(mx (mx (mx (mx d f) n) T) au),(aV.mono au),aK⟩ (f5 z z z z z) (w1 z)
 rintro⟨aa,aj,ah,ae,az⟩ ⟨b6,a2,bY,hr⟩
 refine b'<|sr<|mv z z<|sx0 z z<|k' ?_
 obtain rfl:_=r:=hr
 exact j' z z ⟨_,_,z,a2⟩
theorem dS'{x v p o q n r}(hr:(ZdG x v).Ret r):Ctr prog 39 #[.slice p x.length o,.slice q v.length n] (fun G=>sl a' G p o x/\sl a' G q n v) (wl' a' r):=by
 refine H' (args:=[_,_]) (N:=10) func39 z z z (fun W V U y=>?_)
 obtain⟨D,C⟩:=y
 refine sr<|sg z z<|nr<|mv z z ?_
 obtain⟨Q,B,hr⟩:=hr
 refine N' z z (m' E26 z) (cc' B) z (trivial) (fun F O e g=>?_)
 obtain⟨j,m,i,l,rfl,c,d⟩:=g
 refine mv z z ?_
 obtain⟨P,s,hr⟩:=hr
 refine N' z z (m' E80 z) (eW' s) z (⟨c,d,(C.mono e)⟩) (fun M S k h=>?_)
 obtain⟨H,I,rfl,A⟩:=h
 obtain⟨R,u,hr⟩:=hr
 refine N' z z (m' E41 z) (dz' u) z (⟨(D.mono (mx e k)),A⟩) (fun L T E f=>?_)
 obtain⟨J,K,rfl,t⟩:=f
 refine sx0 z z<|k' ?_
 obtain rfl:_=r:=hr
 exact j' z z ⟨_,_,z,t⟩
theorem fd'{e r}(hr:(ZbP e).Ret r):Ctr prog 125 #[.int .i32 e] (fun G=>True) (fun G v=>v = .bool r):=by
 refine H' (args:=[_]) (N:=13) func125 z z z fun h i g f=>sr<|sg z z<|nr<|mv z z<|aE' hr z (bW' z z) z (fun c hr=>?_) (fun c hr=>?_)
 .refine mv z z<|gy z z (c' z) z<|aE' hr (E' z z) (bW' z z) z (fun d hr=>?_) (fun d hr=>?_)
  .refine yy (w' z z) z<|mv z z<|sn2 z<|yy (w' z z) z<|sx0 z z<|k' (k0' hr z z)
  refine yy (w' z z) z<|mv z z<|gy z z (c' z) z<|gy z z (aH' z z) z<|yy (t' z z) z<|sx0 z z<|k' (k0' hr z z)
 refine mv z z<|sn2 z<|yy (t' z z) z<|mv z z<|gy z z (c' z) z<|gy z z (aH' z z) z<|yy (t' z z) z<|sx0 z z<|k' (k0' hr z z)
theorem fe'{f r}(hr:(ZbO f).Ret r):Ctr prog 68 #[.string f] (fun G=>True) (fun G v=>v = .bool r):=by
 refine H' (args:=[_]) (N:=45) func68 z z z fun q o P J=>sr<|sx0 z z<|aO' (fun (g:Mem)=>match g with|h=>[(0,.string f)]) (fun (g:Mem)=>match g with|h=>Mem.le o h/\(Zd9 f).Ret r) (fun (g:Mem)=>match g with|h=>St q o h []) ?_ ?_
 .refine sr<|mv z z<|yy (Y0.lenS aR' z) z<|aE' hr z (aa' z z) z (fun B hr=>?_) (fun B hr=>?_)
  .refine mv z z<|sn3 z<|yy (w' z z) z<|nx<|aB' z<|sr<|sx0 z z<|k'<|f' (k0' hr z z)
  refine mv z z<|gy z z (c' z) z<|gy z z (Y0.lenS aR' z) z<|gy z z (aS' z z) z<|yy (t' z z) z<|nx<|P' hr z (fun y hr=>?_) (fun y hr=>?_)
  .refine sr<|sx0 z z<|k'<|f' (k0' hr z z)
  refine n'<|ax' o ⟨mr,hr⟩ (f1 z) (wk ln)
 rintro h ⟨H,hr⟩
 refine g'<|sr<|mv z z<|WL.rangeS 4015 z z aR' z fun m=>nx<|ab' (fun (g:Mem)=>match g with|k=>[]) (fun (g:Mem)=>match g with|k=>Mem.le h k/\(Zag).Ret r) (fun (g:Mem)=>match g with|k=>St q o k []) ?_ ?_
 .refine y' ?_
  let l:(Bool⊕Unit)->Prop:=fun L=>((fun K=>match K with | .inl rv1=>Cq.ret rv1 | .inr ()=>Zag:(Bool⊕Unit)->Cq Bool) L).wp (fun a=>a=r)
  replace hr:(Cq.loop _ _).wp l:=hr
  refine ac' (Φ:=l) (fun (⟨c,d⟩:Nat×Mem)=>(c:Nat)) (fun ⟨c,d⟩=>[(15,pt0 m)]) (fun ⟨c,d⟩=>Mem.le h d) (fun ⟨c,d⟩=>St q o d [(4015,(some ⟨m,.stringIter f c,0⟩))]) ⟨0,h⟩ hr (f1 z) mr (w1 z) ?_
  .intro x g M hr
   obtain⟨c,d⟩:=g
   have j:=M
   refine sr<|WL.nextS 4015 z z z z (fun p=>?_) (fun p=>?_)
   .replace hr:=hr.pos p
    refine yy (R' z z) z<|nx<|g'<|aB' z<|n'<|b'<|y'<|sr<|yy (R' z z) z<|yy (R' z z) z<|sg z z<|sx0 z z<|aO' (fun (⟨e,i⟩:Bool×Mem)=>[(3,i' (c:Int)),(4,.int .i32 ((Utf8.decode f c).1:Int)),(5,.bool e),(15,pt0 m)]) (fun ⟨e,i⟩=>Mem.le d i/\(ZF f c e).wp (Out x l)) (fun ⟨e,i⟩=>St q o i [(4015,(some ⟨m,.stringIter f (c+(Utf8.decode f c).2),0⟩))]) ?_ ?_
    .refine x'<|mv z z<|aE' hr z (bW' z z) z (fun E hr=>?_) (fun E hr=>?_)
     .refine mv z z<|gy z z (c' z) z<|aE' hr (E' z z) (bW' z z) z (fun C hr=>?_) (fun C hr=>?_)
      .refine yy (w' z z) z<|mv z z<|sn3 z<|aX' (aq' z z) z<|aX' (aq' z z) z<|sf z z z<|yy (w' z z) z<|sg z z<|q'<|ax' ⟨true,d⟩ ⟨mr,hr⟩ (f4 z z z z) (w1 z)
      refine yy (w' z z) z<|mv z z<|gy z z (c' z) z<|aE' hr (E' z z) (bW' z z) z (fun u hr=>?_) (fun u hr=>?_)
      .refine gy z z (c' z) z<|gy z z (c' z) z<|gy z z (bW' z z) z<|gy z z (w' z z) z<|yy (t' z z) z<|sg z z<|q'<|ax' ⟨decide (((Utf8.decode f c).1:Int)<=122),d⟩ ⟨mr,hr⟩ (f4 z z z z) (w1 z)
      refine gy z z (c' z) z<|sn2 z<|gy z z (t' z z) z<|yy (t' z z) z<|sg z z<|q'<|ax' ⟨false,d⟩ ⟨mr,hr⟩ (f4 z z z z) (w1 z)
     refine mv z z<|sn2 z<|yy (t' z z) z<|mv z z<|gy z z (c' z) z<|aE' hr (E' z z) (bW' z z) z (fun t hr=>?_) (fun t hr=>?_)
     .refine gy z z (c' z) z<|gy z z (c' z) z<|gy z z (bW' z z) z<|gy z z (w' z z) z<|yy (t' z z) z<|sg z z<|q'<|ax' ⟨decide (((Utf8.decode f c).1:Int)<=122),d⟩ ⟨mr,hr⟩ (f4 z z z z) (w1 z)
     refine gy z z (c' z) z<|sn2 z<|gy z z (t' z z) z<|yy (t' z z) z<|sg z z<|q'<|ax' ⟨false,d⟩ ⟨mr,hr⟩ (f4 z z z z) (w1 z)
    rintro⟨e,i⟩ ⟨n,hr⟩
    refine sr<|aE' hr z (db' (c' z) (congrArg Value.bool (bdec _))) z (fun D hr=>?_) (fun D hr=>?_)
    .refine yy (aA' z) z<|mv z z<|sn3 z<|aX' (aq' z z) z<|aX' (aq' z z) z<|aX' (aq' z z) z<|sk z z z<|yy (t' z z) z<|nx<|bw' z<|n'<|F'<|T' ⟨(c+(Utf8.decode f c).2),i⟩ hr (mx j n) (f1 z) (w1 z)
    refine yy (aA' z) z<|mv z z<|gy z z (c' z) z<|aE' hr (E' z z) (aH' z z) z (fun A hr=>?_) (fun A hr=>?_)
    .refine gy z z (c' z) z<|sn3 z<|gy z z (w' z z) z<|yy (w' z z) z<|nx<|aB' z<|sr<|sx0 z z<|k'<|A'<|f'<|A'<|an'<|f' (k0' hr z z)
    refine gy z z (c' z) z<|gy z z (c' z) z ?_
    obtain⟨O,s,hr⟩:=hr
    refine K' (E' z z) z (m' E125 z) (fd' s) z (trivial)<|gy z z (aA' z) z<|gy z z (t' z z) z<|yy (w' z z) z<|nx<|aK' hr z (fun F hr=>?_) (fun F hr=>?_)
    .refine sr<|sx0 z z<|k'<|A'<|f'<|A'<|an'<|f' (k0' hr z z)
    refine n'<|F'<|T' ⟨(c+(Utf8.decode f c).2),i⟩ hr (mx j n) (f1 z) (w1 z)
   replace hr:=hr.neg p
   refine yy (R' z z) z<|nx<|g'<|bw' z<|ae'<|h'<|h'<|I'<|af' d ⟨j,hr⟩ fn (wk ln)
 rintro k ⟨I,hr⟩
 refine b'<|sr<|sx0 z z<|k' (k0' hr z z)
theorem ct'{c m l i j g f r}(hr:(ZaD c).Ret r):Ctr prog 28 #[.agg ((v42' c m l i j g f)).toArray] (fun G=>y31' G m l i j g f c) (fun G v=>v = .bool r):=by
 refine H' (args:=[_]) (N:=108) func28 z z z (fun w0 T aW aO=>?_)
 obtain⟨p,ab,Y⟩:=aO
 refine sr<|ai' 1 z z z fun H=>sx0 z z<|aO' (fun (o:Mem)=>match o with|I=>[(1,pt0 H)]) (fun (o:Mem)=>match o with|I=>Mem.le T I/\(Zeu c).Ret r) (fun (o:Mem)=>match o with|I=>St w0 T I [(1,bk0 H (v42' c m l i j g f) 42)]) ?_ ?_
 .refine sr<|yy (bQ' z) z<|yy (o' 1 sc39 z z z) z<|yy (O' aI' p z) z<|aE' hr z (aS' z z) z (fun bc hr=>?_) (fun bc hr=>?_)
  .refine mv z z<|sn3 z<|yy (w' z z) z<|mv z z<|sn3 z<|yy (w' z z) z<|nx<|aB' z<|sr<|sx0 z z<|k'<|f' (k0' hr z z)
  refine mv z z<|gy z z (bz' z) z<|gy z z (o' 1 sc3 z z z) z<|aE' hr (E' z z) (aa' z z) z (fun a6 hr=>?_) (fun a6 hr=>?_)
  .refine yy (t' z z) z<|mv z z<|sn3 z<|yy (w' z z) z<|nx<|aB' z<|sr<|sx0 z z<|k'<|f' (k0' hr z z)
  refine yy (t' z z) z<|mv z z<|gy z z (bz' z) z<|gy z z (o' 1 sc3 z z z) z<|gy z z (aS' z z) z<|yy (t' z z) z<|nx<|P' hr z (fun a1 hr=>?_) (fun a1 hr=>?_)
  .refine sr<|sx0 z z<|k'<|f' (k0' hr z z)
  refine n'<|ax' T ⟨mr,hr⟩ (f1 z) (w1 z)
 rintro I ⟨C,hr⟩
 refine sr<|WL.makeMap (ky:=ky9) (Rv:=RvS Rp.bool I) 4025 z z fun aB av aE=>sx0 z z<|g'<|sr<|yy (bQ' z) z<|yy (o' 1 sc39 z z z) z<|yy (O' aI' (p.mono C) z) z<|mv z z<|nx<|ab' (fun (o:Mem)=>match o with|V=>[(1,pt0 H)]) (fun (o:Mem)=>match o with|V=>Mem.le I V/\(Za7 c).Ret r) (fun (o:Mem)=>match o with|V=>St w0 T V [(1,bk0 H (v42' c m l i j g f) 42)]) ?_ ?_
 .refine y' ?_
  let ao:(Bool⊕Unit)->Prop:=fun oo=>((fun ov=>match ov with | .inl rv3=>Cq.ret rv3 | .inr ()=>Za7 c:(Bool⊕Unit)->Cq Bool) oo).wp (fun a=>a=r)
  replace hr:(Cq.loop _ _).wp ao:=hr
  refine ac' (Φ:=ao) (fun (⟨t,P,B,E⟩:Int×(List (ByteArray×Bool))×Option Ow×Mem)=>((t,P):Int×(List (ByteArray×Bool)))) (fun ⟨t,P,B,E⟩=>[(1,pt0 H),(27,.slice m c.vars.length l),(28,i' (c.vars.length:Int)),(29,i' t),(3,.map (some aB))]) (fun ⟨t,P,B,E⟩=>Mem.le I E/\MapR ky9 (RvS Rp.bool E) (.map (some aB)) P B) (fun ⟨t,P,B,E⟩=>St w0 T E [(1,bk0 H (v42' c m l i j g f) 42),(4025,B)]) ⟨0,[],av,I⟩ hr (f5 z z z z z) ⟨mr,aE⟩ (w2 z z) ?_
  .intro bj o hx hr
   obtain⟨t,P,B,E⟩:=o
   obtain⟨L,an⟩:=hx
   refine sr<|yy (aa' z z) z<|nx<|g'<|P' hr z (fun a3 hr=>?_) (fun a3 hr=>?_)
   .refine n'<|b'<|g'<|y'<|sr ?_
    obtain⟨x4,ay,hr⟩:=hr
    refine yy (V' aI' sz9 (p.mono (mx C L)) z z ay) z<|yy (aj' sc9 z (dJ' (J' (Z' p ay) (mx C L)))) z<|sx0 z z<|g'<|sr<|mv z z ?_
    obtain⟨aY,aJ,hr⟩:=hr
    refine K' z z (m' E68 z) (fe' aJ) z (trivial) ?_
    cases aY
    .refine yy (aA' z) z<|mv z z<|sn3 z<|yy (w' z z) z<|nx<|aB' z<|sr<|sx0 z z<|k'<|f'<|A'<|f'<|f'<|A'<|an'<|f' (k0' hr z z)
    refine yy (aA' z) z<|mv z z<|gy z z (c' z) z<|gy z z (c' z) z ?_
    obtain⟨a8,hr⟩:=hr
    refine gy z z (Y0.mapGet1 (mk:=Value.bool) (k:=x4) 4025 false (fun h=>Zj6 h) underlying121 zv4 an z z z a8) z<|yy (t' z z) z<|nx<|aK' hr z (fun aU hr=>?_) (fun aU hr=>?_)
    .refine sr<|sx0 z z<|k'<|f'<|A'<|f'<|f'<|A'<|an'<|f' (k0' hr z z)
    refine n'<|b'<|x'<|mv z z<|mv z z ?_
    obtain⟨⟨bd,aG⟩,hr⟩:=hr
    refine WL.mapPut (Rv':=RvS Rp.bool E) (k:=x4) (z:=true) 4025 z underlying121 an z z z z bd z (fun _ _ _ _ h=>h) aG fun bb aI=>q'<|F'<|b'<|x'<|yy (W' z z) z<|mv z z<|q'<|T' ⟨i64.wrap (t+1),(mput P x4 true),bb,E⟩ hr ⟨L,aI⟩ (f5 z z z z z) (w2 z z)
   refine ae'<|h'<|h'<|I'<|af' E ⟨L,hr⟩ (f1 z) (w1 z)
 rintro V ⟨W,hr⟩
 refine b'<|sr<|WL.makeMap (ky:=ky3) (Rv:=RvS Rp.bool V) 4044 z z fun O aw aQ=>sx0 z z<|g'<|sr<|yy (bx' z) z<|yy (o' 1 bO' z z z) z<|yy (bA' z) z<|yy (o' 1 bO' z z z) z<|aF' (e:=40) (r:=(Rp.sl U')) (vs:=#[(0,.slice i c.eqs.length j),(1,.slice g c.neqs.length f)]) (cs:=[.slice i c.eqs.length j]++([.slice g c.neqs.length f]++([]))) ([c.eqs,c.neqs]:List (List Zg)) z z z z z (by decide) (fun _=>by kernel_rfl) ⟨[.slice i c.eqs.length j],[.slice g c.neqs.length f]++([]),z,⟨_,z,(ab.mono (mx C W))⟩,⟨[.slice g c.neqs.length f],[],z,⟨_,z,(Y.mono (mx C W))⟩,z⟩⟩ (key:=999) z (by rw[aW]; rfl) fun p1 am af ak=>yy (O' dj' ak z) z<|mv z z<|nx<|ab' (fun (o:Mem)=>match o with|Z=>[]) (fun (o:Mem)=>match o with|Z=>Mem.le am Z/\(Zcr).Ret r) (fun (o:Mem)=>match o with|Z=>St w0 T Z []) ?_ ?_
 .refine y' ?_
  let X:(Bool⊕Unit)->Prop:=fun oo=>((fun ov=>match ov with | .inl rv1=>Cq.ret rv1 | .inr ()=>Zcr:(Bool⊕Unit)->Cq Bool) oo).wp (fun a=>a=r)
  replace hr:(Cq.loop _ _).wp X:=hr
  refine ac' (Φ:=X) (fun (⟨n,S,u,y⟩:Int×(List (Int×Bool))×Option Ow×Mem)=>((n,S):Int×(List (Int×Bool)))) (fun ⟨n,S,u,y⟩=>[(1,pt0 H),(49,.slice p1 2 2),(50,i' ([c.eqs,c.neqs].length:Int)),(51,i' n),(6,.map (some O))]) (fun ⟨n,S,u,y⟩=>Mem.le am y/\MapR ky3 (RvS Rp.bool y) (.map (some O)) S u) (fun ⟨n,S,u,y⟩=>St w0 T y [(1,bk0 H (v42' c m l i j g f) 42),(4044,u)]) ⟨0,[],aw,am⟩ hr (f5 z z z z z) ⟨mr,(MapR.mono aQ af)⟩ (w2 z z) ?_
  .intro az o hx hr
   obtain⟨n,S,u,y⟩:=o
   obtain⟨J,aL⟩:=hx
   refine sr<|yy (aa' z z) z<|nx<|g'<|P' hr z (fun bh hr=>?_) (fun bh hr=>?_)
   .refine n'<|b'<|g'<|y'<|sr ?_
    obtain⟨x1,aC,hr⟩:=hr
    refine yy (V' dj' sz40 (ak.mono J) z z aC) z ?_
    obtain⟨p2,ae,a7,U⟩:=bl' (J' (Z' ak aC) J)
    refine yy (aj' bO' z (a7)) z<|sx0 z z<|g'<|sr<|mv z z<|yy (O' Y' U z) z<|yy (aS' z z) z<|nx<|P' hr z (fun a0 hr=>?_) (fun a0 hr=>?_)
    .refine sr<|sx0 z z<|k'<|f'<|A'<|f'<|f'<|A'<|an'<|f' (k0' hr z z)
    refine n'<|b'<|sr<|mv z z<|yy (O' Y' U z) z<|mv z z<|nx<|ab' (fun (⟨K,D,Q⟩:(List (Int×Bool))×Option Ow×Mem)=>[(1,pt0 H),(49,.slice p1 2 2),(50,i' ([c.eqs,c.neqs].length:Int)),(51,i' n),(6,.map (some O))]) (fun ⟨K,D,Q⟩=>Mem.le y Q/\MapR ky3 (RvS Rp.bool Q) (.map (some O)) K D/\(Zcs n K).wp (Out az X)) (fun ⟨K,D,Q⟩=>St w0 T Q [(1,bk0 H (v42' c m l i j g f) 42),(4044,D)]) ?_ ?_
    .refine y' ?_
     let ad:(Bool⊕((List (Int×Bool))))->Prop:=fun oo=>((fun ov=>match ov with | .inl rv2=>Cq.ret (.inr (.inl rv2)) | .inr K=>Zcs n K:(Bool⊕((List (Int×Bool))))->Cq ((Int×(List (Int×Bool)))⊕(Bool⊕Unit))) oo).wp (Out az X)
     replace hr:(Cq.loop _ _).wp ad:=hr
     refine ac' (Φ:=ad) (fun (⟨q,F,s,A⟩:Int×(List (Int×Bool))×Option Ow×Mem)=>((q,F):Int×(List (Int×Bool)))) (fun ⟨q,F,s,A⟩=>[(1,pt0 H),(8,.slice p2 x1.length ae),(49,.slice p1 2 2),(50,i' ([c.eqs,c.neqs].length:Int)),(51,i' n),(58,.slice p2 x1.length ae),(59,i' (x1.length:Int)),(60,i' q),(6,.map (some O))]) (fun ⟨q,F,s,A⟩=>Mem.le y A/\MapR ky3 (RvS Rp.bool A) (.map (some O)) F s) (fun ⟨q,F,s,A⟩=>St w0 T A [(1,bk0 H (v42' c m l i j g f) 42),(4044,s)]) ⟨0,S,u,y⟩ hr (f9 z z z z z z z z z) ⟨mr,aL⟩ (w2 z z) ?_
     .intro aT o hx hr
      obtain⟨q,F,s,A⟩:=o
      obtain⟨x,ac⟩:=hx
      refine sr<|yy (aa' z z) z<|nx<|g'<|P' hr z (fun a5 hr=>?_) (fun a5 hr=>?_)
      .refine n'<|b'<|g'<|y'<|sr<|mv z z ?_
       obtain⟨x2,ax,hr⟩:=hr
       refine yy (V' Y' bR' (U.mono x) z z ax) z ?_
       obtain⟨aK,aM,aV,aP⟩:=cA' (J' (Z' U ax) x)
       refine yy (ao' _ ag70 z z aV) z<|X' 10 z z70 z fun b2=>sg z z<|B' 10 z bR' z z z z z (List.all_eq_true.1 z)<|nx<|aO' (fun (o:Mem)=>match o with|R=>[(1,pt0 H),(8,.slice p2 x1.length ae),(10,pt0 b2),(49,.slice p1 2 2),(50,i' ([c.eqs,c.neqs].length:Int)),(51,i' n),(58,.slice p2 x1.length ae),(59,i' (x1.length:Int)),(60,i' q),(6,.map (some O))]) (fun (o:Mem)=>match o with|R=>Mem.le A R/\(Za6 c q F x2).wp (Out aT ad)) (fun (o:Mem)=>match o with|R=>St w0 T R [(1,bk0 H (v42' c m l i j g f) 42),(10,bk0 b2 (v70' x2 aK aM) 70),(4044,s)]) ?_ ?_
       .refine g'<|ak' [ff,ff,ff,ff,ff,ff,ff,ff,ff,ff,ff,ff,ff,ff,ff,ff,ff,ff,ff,ff,ff,ff,ff,ff,ff,ff,ff,ff] mix (by kernel_rfl) fun hb=>cn (fun _ d=>bt' z)<|cn (fun _ d=>o' 10 sc3 z z z)<|bG' hr z (fun _ d=>aa' z z) (fun bg hr=>?_) (fun bg hr=>?_)
        .refine cn (fun _ d=>c' z)<|cf z z<|cf z z<|cf z z<|cf z z<|cf z z<|cn (fun _ d=>w' z z)<|cn (fun _ d=>c' z)<|cf z z<|cf z z<|cf z z<|cf z z<|cn (fun _ d=>w' z z)<|cn (fun _ d=>c' z)<|cf z z<|cf z z<|cf z z<|cs z z<|cs z z<|cs z z<|cs z z<|cs z z<|cs z z<|cs z z<|cs z z<|ah' hb<|aX' (aq' z z) z<|sf z z z<|yy (w' z z) z<|q'<|am'<|b'<|aB' z<|sr<|sx0 z z<|k'<|f'<|A'<|f'<|f'<|A'<|an'<|A'<|f'<|f'<|A'<|an'<|f' (k0' hr z z)
        refine cn (fun _ d=>c' z)<|cy z z (fun _ d=>bt' z)<|cy z z (fun _ d=>o' 10 sc3 z z z)<|cy z z (fun _ d=>bz' z)<|cy z z (fun _ d=>o' 1 sc3 z z z)<|bG' hr (E' z z) (fun _ d=>bH' z z) (fun a2 hr=>?_) (fun a2 hr=>?_)
        .refine cn (fun _ d=>t' z z)<|cn (fun _ d=>c' z)<|cf z z<|cf z z<|cf z z<|cf z z<|cn (fun _ d=>w' z z)<|cn (fun _ d=>c' z)<|cf z z<|cf z z<|cf z z<|cs z z<|cs z z<|cs z z<|cs z z<|cs z z<|cs z z<|cs z z<|cs z z<|ah' hb<|aX' (aq' z z) z<|sf z z z<|yy (w' z z) z<|q'<|am'<|b'<|aB' z<|sr<|sx0 z z<|k'<|f'<|A'<|f'<|f'<|A'<|an'<|A'<|f'<|f'<|A'<|an'<|f' (k0' hr z z)
        refine cn (fun _ d=>t' z z)<|cn (fun _ d=>c' z)<|cy z z (fun _ d=>c' z)<|cy z z (fun _ d=>bt' z)<|cy z z (fun _ d=>o' 10 sc3 z z z) ?_
        obtain⟨aX,hr⟩:=hr
        refine bG' hr (E' z z) (fun _ d=>db' (Y0.mapGet1 (mk:=Value.bool) (k:=x2.id) 4044 false (fun h=>Zj6 h) underlying122 zv4 (MapR.mono ac d) z z z aX) (congrArg Value.bool (bdec _))) (fun a4 hr=>?_) (fun a4 hr=>?_)
        .refine cn (fun _ d=>t' z z)<|cn (fun _ d=>c' z)<|cf z z<|cf z z<|cf z z<|cs z z<|cs z z<|cs z z<|cs z z<|cs z z<|cs z z<|cs z z<|cs z z<|ah' hb<|aX' (aq' z z) z<|sf z z z<|yy (w' z z) z<|q'<|am'<|b'<|aB' z<|sr<|sx0 z z<|k'<|f'<|A'<|f'<|f'<|A'<|an'<|A'<|f'<|f'<|A'<|an'<|f' (k0' hr z z)
        refine cn (fun _ d=>t' z z)<|cn (fun _ d=>c' z)<|cy z z (fun _ d=>c' z)<|bG' hr (E' z z) (fun _ d=>aS' z z) (fun bf hr=>?_) (fun bf hr=>?_)
        .refine cy z z (fun _ d=>c' z)<|cy z z (fun _ d=>bt' z)<|cy z z (fun _ d=>o' 10 sc3 z z z)<|cy z z (fun _ d=>c' z)<|cy z z (fun _ d=>c' z)<|cy z z (fun _ d=>ba' z z) ?_
         obtain⟨x3,aA,hr⟩:=hr
         refine cy z z (fun _ d=>V' Y' bR' ((U.mono x).mono d) z z aA)<|cy z z (fun _ d=>bt' z)<|cy z z (fun _ d=>aj' sc3 z (aJ' (J' (J' (br' (aG' (Z' U aA))) x) d)))<|ah' hb<|gy z z (bW' z z) z<|gy z z (w' z z) z<|yy (t' z z) z<|q'<|am'<|b'<|P' hr z (fun ba hr=>?_) (fun ba hr=>?_)
         .refine sr<|sx0 z z<|k'<|f'<|A'<|f'<|f'<|A'<|an'<|A'<|f'<|f'<|A'<|an'<|f' (k0' hr z z)
         refine n'<|ax' A ⟨mr,hr⟩ (f10 z z z z z z z z z z) (w3 z z z)
        refine cy z z (fun _ d=>c' z)<|ct z z<|ct z z<|ct z z<|ct z z<|ct z z<|ct z z<|ct z z<|ct z z<|ah' hb<|sk z z z<|gy z z (t' z z) z<|yy (t' z z) z<|q'<|am'<|b'<|bw' z<|n'<|ax' A ⟨mr,hr⟩ (f10 z z z z z z z z z z) (w3 z z z)
       rintro R ⟨M,hr⟩
       refine sr<|mv z z<|yy (bt' z) z<|yy (o' 10 sc3 z z z) z ?_
       obtain⟨⟨a9,aR⟩,hr⟩:=hr
       refine WL.mapPut (Rv':=RvS Rp.bool R) (k:=x2.id) (z:=true) 4044 z underlying122 (MapR.mono ac M) z z z z a9 z (fun _ _ _ _ h=>h) aR fun aS aN=>nr<|yy (cl' z) z<|yy (o' 10 bU' z z z) z<|yy (bQ' z) z<|yy (o' 1 sc39 z z z) z<|yy (O' aI' (p.mono (mx (mx (mx (mx (mx C W) af) J) x) M)) z) z ?_
       obtain⟨bk,aH,hr⟩:=hr
       refine K' z z (m' E44 z) (ey' aH) z ((aP.mono M))<|yy (aA' z) z<|nx<|aK' hr z (fun aZ hr=>?_) (fun aZ hr=>?_)
       .refine sr<|sx0 z z<|k'<|A'<|f'<|f'<|A'<|an'<|A'<|f'<|f'<|A'<|an'<|f' (k0' hr z z)
       refine n'<|F'<|b'<|x'<|yy (W' z z) z<|mv z z<|q'<|T' ⟨i64.wrap (q+1),(mput F x2.id true),aS,R⟩ hr ⟨(mx x M),aN⟩ (f9 z z z z z z z z z) (w2 z z)
      refine ae'<|h'<|h'<|I'<|af' ⟨F,s,A⟩ ⟨x,ac,hr⟩ (f5 z z z z z) (w2 z z)
    rintro⟨K,D,Q⟩ ⟨ar,aD,hr⟩
    refine F'<|b'<|x'<|yy (W' z z) z<|mv z z<|q'<|T' ⟨i64.wrap (n+1),K,D,Q⟩ hr ⟨(mx J ar),aD⟩ (f5 z z z z z) (w2 z z)
   refine ae'<|h'<|h'<|I'<|af' y ⟨J,hr⟩ fn (wk ln)
 rintro Z ⟨bi,hr⟩
 refine b'<|sr<|sx0 z z<|k' (k0' hr z z)
theorem dE'{f v s r}(hr:(Zao f).Ret r):Ctr prog 59 #[.slice v f.length s] (fun G=>sl U' G v s f) (wl' (Rp.sl a') r):=by
 refine H' (args:=[_]) (N:=23) func59 z z z (fun M p L E=>?_)
 have o:=E
 refine sr<|sg z z<|nr<|mv z z<|yy (O' Y' o z) z ?_
 obtain⟨J,hr⟩:=hr
 refine cS' (r:=(Rp.sl a')) (e:=65) (n:=(f.length:Int)) (zx:=[]) 4008 z z M' el65 z (by decide) (by decide) ⟨_,z,(ay' _ _)⟩ z z J fun x D P=>sx0 z z<|g'<|sr<|mv z z<|yy (O' Y' o z) z<|mv z z<|nx<|ab' (fun (⟨m,j,k⟩:(List (List Za))×Option Ow×Mem)=>[(3,.slice x (f.length:Int).toNat ((f.length:Int).toNat))]) (fun ⟨m,j,k⟩=>Mem.le p k/\RowR (Rp.sl a') 65 k (.slice x (f.length:Int).toNat ((f.length:Int).toNat)) m j/\(ZaE m).Ret r) (fun ⟨m,j,k⟩=>St M p k [(4008,j)]) ?_ ?_
 .refine y' ?_
  let q:(((List (List Za))))->Prop:=fun Y=>((fun V=>match V with|m=>ZaE m:(((List (List Za))))->Cq ((List (List Za)))) Y).wp (fun a=>a=r)
  replace hr:(Cq.loop _ _).wp q:=hr
  refine ac' (Φ:=q) (fun (⟨l,d,c,g⟩:(List (List Za))×Option Ow×Int×Mem)=>((l,c):(List (List Za))×Int)) (fun ⟨l,d,c,g⟩=>[(3,.slice x (f.length:Int).toNat ((f.length:Int).toNat)),(9,.slice v f.length s),(10,i' (f.length:Int)),(11,i' c)]) (fun ⟨l,d,c,g⟩=>Mem.le p g/\RowR (Rp.sl a') 65 g (.slice x (f.length:Int).toNat ((f.length:Int).toNat)) l d) (fun ⟨l,d,c,g⟩=>St M p g [(4008,d)]) ⟨(List.replicate (f.length:Int).toNat []),D,0,p⟩ hr (f4 z z z z) ⟨mr,P⟩ (w1 z) ?_
  .intro ab W X hr
   obtain⟨l,d,c,g⟩:=W
   obtain⟨h,t⟩:=X
   refine sr<|yy (aa' z z) z<|nx<|g'<|P' hr z (fun R hr=>?_) (fun R hr=>?_)
   .refine n'<|b'<|g'<|y'<|sr<|mv z z ?_
    obtain⟨H,A,hr⟩:=hr
    refine yy (V' Y' bR' (o.mono h) z z A) z ?_
    obtain⟨B,C,O,F⟩:=cA' (J' (Z' o A) h)
    refine yy (ao' _ ag70 z z O) z<|X' 5 z z70 z fun b1=>sg z z<|B' 5 z bR' z z z z z (List.all_eq_true.1 z)<|nx<|x'<|mv z z<|mv z z<|yy (cl' z) z<|yy (o' 5 bU' z z z) z ?_
    obtain⟨x2,y,hr⟩:=hr
    refine yy (bs' M' cj' t z z y) z<|bT' (r:=(Rp.sl a')) (e:=65) (cs':=[.slice B H.p.length C]) (i:=c) (z':=H.p) 4008 z cj' z t z z z z ⟨_,z,F⟩ y fun K I=>q'<|F'<|b'<|x'<|yy (W' z z) z<|mv z z<|q'<|T' ⟨(l.set c.toNat H.p),K,i64.wrap (c+1),g⟩ hr ⟨h,I⟩ (f4 z z z z) (w1 z)
   refine ae'<|h'<|h'<|I'<|af' ⟨l,d,g⟩ ⟨h,t,hr⟩ (f1 z) (w1 z)
 rintro⟨m,j,k⟩ ⟨S,Q,hr⟩
 refine b'<|sr<|mv z z<|sx0 z z<|k' ?_
 obtain rfl:_=r:=hr
 refine WE.freezeT (r:=(Rp.sl a')) (e:=65) 4008 Q z (by rw[L]; rfl) fun aa Z U u T=>j' z z ⟨_,_,(cX' u),(cY' u)⟩
theorem cW'{Q m o C B p s r}(hr:(ZcZ Q).Ret r):Ctr prog 21 #[.agg ((v42' Q m o C B p s)).toArray] (fun G=>y31' G m o C B p s Q) (w28t' r):=by
 refine H' (args:=[_]) (N:=21) func21 z z z (fun w0 G0 aq ab=>?_)
 obtain⟨q,y,n⟩:=ab
 refine sr<|ai' 1 z z z fun b1=>X' 2 z z28 z fun b2=>sx0 z z<|g'<|sr<|yy (D' 1 ag42 z z z) z ?_
 obtain⟨ao,ad,hr⟩:=hr
 refine K' z z (m' E28 z) (ct' ad) z (⟨q,y,n⟩)<|yy (aA' z) z<|nx<|aK' hr z (fun ag hr=>?_) (fun ag hr=>?_)
 .refine sr<|yy (au' (vs:=#[]) (v:=.agg ([i' 0,.slice none 0 0,.slice none 0 0]).toArray) z z (fun _=>by kernel_rfl)) z<|B' 2 z bB' z z z z z (List.all_eq_true.1 z)<|sx0 z z<|k'<|f' ?_
  obtain rfl:_=r:=hr
  exact bd' z (aw' (i:=2) bj' z z z) z ⟨_,_,_,_,z,(ay' (Rp.sl a') _),(ay' (Rp.sl a') _)⟩
 refine n'<|b'<|g'<|ak' [ff,ff,ff,ff,ff,ff,ff,ff,ff,ff,ff,tt] mix (by kernel_rfl) fun hb=>cn (fun _ c=>bQ' z)<|cn (fun _ c=>o' 1 sc39 z z z)<|cn (fun _ c=>O' aI' (q.mono c) z)<|cn (fun _ c=>Y0.max2 z z)<|cn (fun _ c=>bx' z)<|cn (fun _ c=>o' 1 bO' z z z) ?_
 obtain⟨K,W,hr⟩:=hr
 refine az' (post:=wl' (Rp.sl a') K) (fun _=>z) (fun _ _=>m' E59 z) (dE' W) z (fun E c=>(y.mono c)) (fun v G1 Z c h=>?_) ?_
 .obtain⟨L,M,rfl,x⟩:=h
  exact⟨_,_,z,x.mono c⟩
 refine cu (fun _ _ c=>bA' z)<|cu (fun _ _ c=>o' 1 bO' z z z) ?_
 obtain⟨R,Y,hr⟩:=hr
 refine az' (post:=wl' (Rp.sl a') R) (fun _=>z) (fun _ _=>m' E59 z) (dE' Y) z (fun E c=>(n.mono c)) (fun v G1 Z c h=>?_) ?_
 .obtain⟨O,P,rfl,t⟩:=h
  exact⟨_,_,z,t.mono c⟩
 obtain⟨A,X,hr⟩:=hr
 refine bJ' (f:=12) (φ:=w28t' A) (fun _=>z) (fun v G1 Z c h=>?_) (fun u E c hu=>?_) ?_
 .obtain⟨l,k,j,g,rfl,e,d⟩:=h
  exact⟨_,_,_,_,z,e.mono c,d.mono c⟩
 .obtain⟨⟨O,P,V,t⟩,⟨L,M,U,x⟩,_⟩:=(show (wl' (Rp.sl a') R) E.m (u 17)/\(wl' (Rp.sl a') K) E.m (u 14)/\True from hu)
  exact⟨_,_,_,fun _=>m' E12 z,Zak _ _ _ _ _ _ _ _ X,(by simp only[V,U] <;> rfl),⟨x,t⟩⟩
 refine dW' (kk:=18) (φ:=w28' A.1) (by kernel_rfl) (fun _=>z) (fun v G1 Z c h=>?_) (fun u E c hu=>?_) ?_
 .obtain⟨p1,af,p2,ae,rfl,S,T⟩:=h
  exact⟨_,_,_,_,z,S.mono c,T.mono c⟩
 .obtain⟨⟨l,k,j,g,D,e,d⟩,_,_,_⟩:=(show (w28t' A) E.m (u 18)/\True/\True/\True from hu)
  exact⟨_,_,D,(by simp only[undFr,D] <;> rfl),z,l,k,j,g,z,e,d⟩
 refine Chain.tailU4 (d0:=19) (post0:=w28' A.1) (d1:=18) (post1:=w28t' A) (d2:=17) (post2:=wl' (Rp.sl a') R) (d3:=14) (post3:=wl' (Rp.sl a') K) (fun al aj am an ap ah F I H J=>?_)
 obtain⟨p1,af,p2,ae,rfl,S,T⟩:=F
 obtain⟨l,k,j,g,rfl,e,d⟩:=I
 obtain⟨O,P,rfl,t⟩:=H
 obtain⟨L,M,rfl,x⟩:=J
 refine yy (R' z z) z<|B' 2 z bB' z z z z z (List.all_eq_true.1 z)<|sg z z<|q'<|am'<|b'<|k' ?_
 obtain rfl:_=r:=hr
 exact bd' z (aw' (i:=2) bj' z z z) z ⟨_,_,_,_,z,S,T⟩
theorem ck'{r}(hr:(ZcL).Ret r):Ctr prog 10 #[] (fun G=>True) (fun G v=>v = .bool r):=by
 refine H' (args:=[]) (N:=115) func10 z z z fun w0 G0 aj fd=>sr<|sg z z<|nr ?_
 obtain⟨fq,c9,hr⟩:=hr
 refine N' z z (m' E40 z) (bv' c9) z (trivial) (fun es fp ea bz=>?_)
 obtain⟨e1,eR,rfl,da⟩:=bz
 obtain⟨fm,dm,hr⟩:=hr
 refine N' z z (m' E40 z) (bv' dm) z (trivial) (fun eF fw cj bH=>?_)
 obtain⟨et,eB,rfl,dc⟩:=bH
 obtain⟨bw,dj,hr⟩:=hr
 refine N' z z (m' E39 z) (dS' dj) z (⟨(da.mono cj),dc⟩) (fun eS fx d8 bA=>?_)
 obtain⟨a9,bv,rfl,de⟩:=bA
 obtain⟨O,c6,hr⟩:=hr
 refine N' z z (m' E40 z) (bv' c6) z (trivial) (fun eq fl cm bE=>?_)
 obtain⟨a5,aL,rfl,bL⟩:=bE
 refine sg z z<|sg z z<|nr ?_
 obtain⟨fk,di,hr⟩:=hr
 refine N' z z (m' E40 z) (bv' di) z (trivial) (fun em fr a1 bF=>?_)
 obtain⟨eV,ey,rfl,c8⟩:=bF
 obtain⟨fu,dd,hr⟩:=hr
 refine N' z z (m' E40 z) (bv' dd) z (trivial) (fun eA ft ao bC=>?_)
 obtain⟨eK,eT,rfl,ds⟩:=bC
 obtain⟨bx,dr,hr⟩:=hr
 refine N' z z (m' E39 z) (dS' dr) z (⟨(c8.mono ao),ds⟩) (fun eU fv aQ bB=>?_)
 obtain⟨bl,bf,rfl,dn⟩:=bB
 refine aF' (e:=119) (r:=a') (vs:=#[]) (cs:=[]) ([]:List Za) z z z z z (by decide) (fun _=>by kernel_rfl) (z) (key:=999) z (by rw[aj]; rfl) (fun p1 fo aq dz=>?_)
 obtain⟨fi,dk,hr⟩:=hr
 refine N' z z (m' E40 z) (bv' dk) z (trivial) (fun eQ fj af bD=>?_)
 obtain⟨fg,e6,rfl,dq⟩:=bD
 obtain⟨fs,df,hr⟩:=hr
 refine N' z z (m' E40 z) (bv' df) z (trivial) (fun eG e3 F bG=>?_)
 obtain⟨fe,en,rfl,dh⟩:=bG
 obtain⟨ag,cX,hr⟩:=hr
 refine N' z z (m' E39 z) (dS' cX) z (⟨(dq.mono F),dh⟩) (fun eh e9 H bm=>?_)
 obtain⟨aa,ab,rfl,cL⟩:=bm
 refine aF' (e:=65) (r:=(Rp.sl a')) (vs:=#[(0,.slice bl bx.length bf),(1,.slice p1 0 0),(2,.slice aa ag.length ab)]) (cs:=[.slice bl bx.length bf]++([.slice p1 0 0]++([.slice aa ag.length ab]++([])))) ([bx,[],ag]:List (List Za)) z z z z z (by decide) (fun _=>by kernel_rfl) ⟨[.slice bl bx.length bf],[.slice p1 0 0]++([.slice aa ag.length ab]++([])),z,⟨_,z,(dn.mono (mx (mx (mx aq af) F) H))⟩,⟨[.slice p1 0 0],[.slice aa ag.length ab]++([]),z,⟨_,z,(dz.mono (mx (mx af F) H))⟩,⟨[.slice aa ag.length ab],[],z,⟨_,z,cL⟩,z⟩⟩⟩ (key:=999) z (by rw[aj]; rfl) (fun p2 eu au dH=>?_)
 obtain⟨a4,cW,hr⟩:=hr
 refine N' z z (m' E40 z) (bv' cW) z (trivial) (fun dO e4 ad bi=>?_)
 obtain⟨aI,aX,rfl,cC⟩:=bi
 refine aF' (e:=65) (r:=(Rp.sl a')) (vs:=#[(0,.slice aI a4.length aX)]) (cs:=[.slice aI a4.length aX]++([])) ([a4]:List (List Za)) z z z z z (by decide) (fun _=>by kernel_rfl) ⟨[.slice aI a4.length aX],[],z,⟨_,z,cC⟩,z⟩ (key:=999) z (by rw[aj]; rfl) (fun p3 eC Y dG=>?_)
 obtain⟨bQ,cN,hr⟩:=hr
 refine N' z z (m' E12 z) (Zak _ _ _ _ _ _ _ _ cN) z (⟨(dH.mono (mx ad Y)),dG⟩) (fun dL e5 ax bo=>?_)
 obtain⟨a2,a0,aF,aB,rfl,a3,aD⟩:=bo
 refine mv z z<|yy (R' z z) z<|yy (R' z z) z<|X' 3 z z28 z fun b1=>B' 3 z bB' z z z z z (List.all_eq_true.1 z)<|sg z z<|nr<|aF' (e:=119) (r:=a') (vs:=#[]) (cs:=[]) ([]:List Za) z z z z z (by decide) (fun _=>by kernel_rfl) (z) (key:=999) z (by rw[aj]; rfl) fun p4 fh K dF=>aF' (e:=65) (r:=(Rp.sl a')) (vs:=#[(0,.slice p4 0 0)]) (cs:=[.slice p4 0 0]++([])) ([[]]:List (List Za)) z z z z z (by decide) (fun _=>by kernel_rfl) ⟨[.slice p4 0 0],[],z,⟨_,z,dF⟩,z⟩ (key:=999) z (by rw[aj]; rfl) (fun p5 fb I dA=>?_)
 obtain⟨bR,c4,hr⟩:=hr
 refine N' z z (m' E12 z) (Zak _ _ _ _ _ _ _ _ c4) z (⟨(ay' (Rp.sl a') _),dA⟩) (fun dR eJ J bk=>?_)
 obtain⟨aY,aJ,aE,aG,rfl,aN,aC⟩:=bk
 refine mv z z<|yy (R' z z) z<|yy (R' z z) z<|X' 5 z z28 z fun b2=>B' 5 z bB' z z z z z (List.all_eq_true.1 z)<|sg z z<|nr ?_
 obtain⟨aT,cH,hr⟩:=hr
 refine N' z z (m' E40 z) (bv' cH) z (trivial) (fun ee ev t bu=>?_)
 obtain⟨a6,aM,rfl,ck⟩:=bu
 refine aF' (e:=65) (r:=(Rp.sl a')) (vs:=#[(0,.slice a6 aT.length aM)]) (cs:=[.slice a6 aT.length aM]++([])) ([aT]:List (List Za)) z z z z z (by decide) (fun _=>by kernel_rfl) ⟨[.slice a6 aT.length aM],[],z,⟨_,z,ck⟩,z⟩ (key:=999) z (by rw[aj]; rfl) (fun p6 er C dC=>?_)
 obtain⟨e7,cK,hr⟩:=hr
 refine N' z z (m' E12 z) (Zak _ _ _ _ _ _ _ _ cK) z (⟨dC,(ay' (Rp.sl a') _)⟩) (fun dQ eo q be=>?_)
 obtain⟨cV,cP,bX,bZ,rfl,c1,ca⟩:=be
 refine mv z z<|yy (R' z z) z<|yy (R' z z) z<|X' 7 z z28 z fun b3=>B' 7 z bB' z z z z z (List.all_eq_true.1 z)<|sg z z<|nr<|yy (au' (vs:=#[]) (v:=.agg ([.slice none 0 0,.slice none 0 0,.slice none 0 0,i' 0]).toArray) z z (fun _=>by kernel_rfl)) z ?_
 obtain⟨eO,cI,hr⟩:=hr
 refine N' z z (m' E21 z) (cW' cI) z (⟨(ay' Rp.str _),(ay' U' _),(ay' U' _)⟩) (fun dM eX y bj=>?_)
 obtain⟨cD,c2,b8,cb,rfl,ct,bY⟩:=bj
 refine mv z z<|yy (R' z z) z<|yy (R' z z) z<|X' 9 z z28 z fun b4=>B' 9 z bB' z z z z z (List.all_eq_true.1 z)<|sg z z<|nr<|mv z z ?_
 obtain⟨e8,ci,hr⟩:=hr
 refine N' z z (m' E40 z) (bv' ci) z (trivial) (fun dY eY o bs=>?_)
 obtain⟨dU,d7,rfl,cT⟩:=bs
 obtain⟨ew,c3,hr⟩:=hr
 refine N' z z (m' E40 z) (bv' c3) z (trivial) (fun ed eH m bn=>?_)
 obtain⟨dS,dP,rfl,cM⟩:=bn
 obtain⟨av,cq,hr⟩:=hr
 refine N' z z (m' E41 z) (dz' cq) z (⟨(cT.mono m),cM⟩) (fun dW ex s bq=>?_)
 obtain⟨am,an,rfl,cJ⟩:=bq
 have N1:=mx (mx (mx (mx (mx (mx (mx (mx (mx (mx (mx (mx (mx (mx (mx (mx (mx (mx (mx (mx (mx cm a1) ao) aQ) aq) af) F) H) au) ad) Y) ax) K) I) J) t) C) q) y) o) m) s
 refine aF' (e:=65) (r:=(Rp.sl a')) (vs:=#[(0,.slice a9 bw.length bv),(1,.slice am av.length an)]) (cs:=[.slice a9 bw.length bv]++([.slice am av.length an]++([]))) ([bw,av]:List (List Za)) z z z z z (by decide) (fun _=>by kernel_rfl) ⟨[.slice a9 bw.length bv],[.slice am av.length an]++([]),z,⟨_,z,(de.mono N1)⟩,⟨[.slice am av.length an],[],z,⟨_,z,cJ⟩,z⟩⟩ (key:=999) z (by rw[aj]; rfl) fun p7 eM D dx=>yy (au' (vs:=#[(0,i' 2),(1,.slice p7 2 2)]) (v:=.agg ([i' 2,.slice p7 2 2,.slice none 0 0]).toArray) z z (fun _=>by kernel_rfl)) z ?_
 obtain⟨bM,cv,hr⟩:=hr
 refine N' z z (m' E18 z) (Zbp _ _ _ _ _ _ cv) z (⟨dx,(ay' (Rp.sl a') _)⟩) (fun dN dp E bd=>?_)
 obtain⟨cR,cB,b0,b9,rfl,aH,aA⟩:=bd
 refine mv z z<|yy (R' z z) z<|yy (R' z z) z<|X' 11 z z28 z fun b5=>X' 12 z z44 z fun b6=>B' 11 z bB' z z z z z (List.all_eq_true.1 z)<|B' 12 z sz44 z z z (Q' _ _ _) (Q' _ _ _) (fun u hu=>Rp.one (bD' .i64 8) (G:=dp) (x:=bM.2) (cs:=vecG (Value.int .i64) 8 bM.2) z u (by first|simpa using hu|simpa [Value.cells] using hu))<|nr ?_
 obtain⟨eP,cp,hr⟩:=hr
 refine N' z z (m' E40 z) (bv' cp) z (trivial) (fun el ep k br=>?_)
 obtain⟨ec,ef,rfl,cy⟩:=br
 refine mv z z ?_
 obtain⟨aP,cS,hr⟩:=hr
 have N2:=mx (mx (mx (mx (mx (mx (mx (mx (mx (mx (mx (mx (mx (mx (mx (mx (mx (mx (mx (mx (mx (mx (mx a1 ao) aQ) aq) af) F) H) au) ad) Y) ax) K) I) J) t) C) q) y) o) m) s) D) E) k
 refine N' z z (m' E39 z) (dS' cS) z (⟨cy,(bL.mono N2)⟩) (fun d9 fa B bp=>?_)
 obtain⟨aZ,aW,rfl,cZ⟩:=bp
 obtain⟨e0,cY,hr⟩:=hr
 refine N' z z (m' E40 z) (bv' cY) z (trivial) (fun ej eD n ba=>?_)
 obtain⟨dV,eg,rfl,cQ⟩:=ba
 obtain⟨eL,cF,hr⟩:=hr
 refine N' z z (m' E40 z) (bv' cF) z (trivial) (fun ek eW j bh=>?_)
 obtain⟨eb,dX,rfl,cf⟩:=bh
 obtain⟨ay,cl,hr⟩:=hr
 refine N' z z (m' E41 z) (dz' cl) z (⟨(cQ.mono j),cf⟩) (fun dZ eN l bg=>?_)
 obtain⟨ap,al,rfl,cA⟩:=bg
 refine aF' (e:=65) (r:=(Rp.sl a')) (vs:=#[(0,.slice aZ aP.length aW),(1,.slice ap ay.length al)]) (cs:=[.slice aZ aP.length aW]++([.slice ap ay.length al]++([]))) ([aP,ay]:List (List Za)) z z z z z (by decide) (fun _=>by kernel_rfl) ⟨[.slice aZ aP.length aW],[.slice ap ay.length al]++([]),z,⟨_,z,(cZ.mono (mx (mx n j) l))⟩,⟨[.slice ap ay.length al],[],z,⟨_,z,cA⟩,z⟩⟩ (key:=999) z (by rw[aj]; rfl) fun p8 bW A dB=>yy (au' (vs:=#[(0,i' 2),(1,.slice p8 2 2)]) (v:=.agg ([i' 2,.slice p8 2 2,.slice none 0 0]).toArray) z z (fun _=>by kernel_rfl)) z<|X' 13 z z28 z fun b7=>B' 13 z bB' z z z z z (List.all_eq_true.1 z)<|nx<|aO' (fun (gx:Mem)=>match gx with|a8=>[(2,.slice a5 O.length aL),(3,pt0 b1),(5,pt0 b2)]) (fun (gx:Mem)=>match gx with|a8=>Mem.le bW a8/\(Zdv O bQ bR).Ret r) (fun (gx:Mem)=>match gx with|a8=>St w0 G0 a8 [(3,bk0 b1 (v28' bQ.1 a2 a0 aF aB) 28),(5,bk0 b2 (v28' bR.1 aY aJ aE aG) 28)]) ?_ ?_
 .refine sr<|mv z z<|aE' hr z (bp' z z) z (fun dK hr=>?_) (fun dK hr=>?_)
  .refine mv z z<|sn2 z<|yy (w' z z) z<|mv z z<|sn2 z<|yy (w' z z) z<|mv z z<|sn2 z<|yy (w' z z) z<|mv z z<|sn4 z<|yy (w' z z) z<|mv z z<|sn3 z<|yy (w' z z) z<|nx<|aB' z<|sr<|sx0 z z<|k'<|f' (k0' hr z z)
  refine mv z z<|gy z z (c' z) z<|aE' hr (E' z z) (bp' z z) z (fun dD hr=>?_) (fun dD hr=>?_)
  .refine yy (t' z z) z<|mv z z<|sn2 z<|yy (w' z z) z<|mv z z<|sn2 z<|yy (w' z z) z<|mv z z<|sn4 z<|yy (w' z z) z<|mv z z<|sn3 z<|yy (w' z z) z<|nx<|aB' z<|sr<|sx0 z z<|k'<|f' (k0' hr z z)
  refine yy (t' z z) z<|mv z z<|gy z z (c' z) z<|aE' hr (E' z z) (bp' z z) z (fun du hr=>?_) (fun du hr=>?_)
  .refine yy (t' z z) z<|mv z z<|sn2 z<|yy (w' z z) z<|mv z z<|sn4 z<|yy (w' z z) z<|mv z z<|sn3 z<|yy (w' z z) z<|nx<|aB' z<|sr<|sx0 z z<|k'<|f' (k0' hr z z)
  refine yy (t' z z) z<|mv z z<|gy z z (c' z) z<|aE' hr (E' z z) (bp' z z) z (fun dE hr=>?_) (fun dE hr=>?_)
  .refine yy (t' z z) z<|mv z z<|sn4 z<|yy (w' z z) z<|mv z z<|sn3 z<|yy (w' z z) z<|nx<|aB' z<|sr<|sx0 z z<|k'<|f' (k0' hr z z)
  refine yy (t' z z) z<|mv z z<|gy z z (D' 11 bj' z z z) z<|gy z z (D' 13 bj' z z z) z ?_
  obtain⟨db,cE,hr⟩:=hr
  have N3:=mx (mx (mx (mx (mx k B) n) j) l) A
  refine K' (E' z z) z (m' E20 z) (ZZ _ _ _ _ _ _ _ _ _ _ _ cE) z (⟨(aH.mono N3),(aA.mono N3),dB,(ay' (Rp.sl a') _)⟩) ?_
  cases db
  .refine gy z z (aA' z) z<|yy (t' z z) z<|mv z z<|sn3 z<|yy (w' z z) z<|nx<|aB' z<|sr<|sx0 z z<|k'<|f' (k0' hr z z)
  refine gy z z (aA' z) z<|yy (t' z z) z<|mv z z<|gy z z (D' 12 ag44 z z (Q' _ _ _)) z<|gy z z (au' (vs:=#[(0,i' 1),(1,i' 0),(2,i' 2),(3,i' 3),(4,i' 4),(5,i' 5),(6,i' 6),(7,i' 7)]) (v:=.agg (vecG (Value.int .i64) 8 (setF (setF (setF (setF (setF (setF (setF (setF (fun _=>0) 0 1) 1 0) 2 2) 3 3) 4 4) 5 5) 6 6) 7 7)).toArray) z z (fun _=>by kernel_rfl)) z<|gy z z (Y0.neqV aZ' aD' sc3 sz3 eg44 z z) z<|yy (t' z z) z<|nx<|P' hr z (fun dw hr=>?_) (fun dw hr=>?_)
  .exact (show False from hr).elim
  refine n'<|ax' bW ⟨mr,hr⟩ (f3 z z z) (w2 z z)
 rintro a8 ⟨ac,hr⟩
 refine g'<|ak' [ff,ff,ff,ff,ff,ff,ff,ff,ff,ff,ff,ff] mix (by kernel_rfl) fun hb=>cn (fun _ d=>D' 3 bj' z z z) ?_
 obtain⟨aS,cw,hr⟩:=hr
 refine az' (post:=wl' a' aS) (fun _=>z) (fun _ _=>m' E40 z) (bv' cw) z (fun G' d=>trivial) (fun v G1 G2 d h=>?_) ?_
 .obtain⟨aV,aO,rfl,X⟩:=h
  exact⟨_,_,z,X.mono d⟩
 obtain⟨aR,co,hr⟩:=hr
 refine az' (post:=wl' a' aR) (fun _=>z) (fun _ _=>m' E40 z) (bv' co) z (fun G' d=>trivial) (fun v G1 G2 d h=>?_) ?_
 .obtain⟨aU,aK,rfl,Z⟩:=h
  exact⟨_,_,z,Z.mono d⟩
 obtain⟨i,cx,hr⟩:=hr
 refine bJ' (f:=39) (φ:=wl' a' i) (fun _=>z) (fun v G1 G2 d h=>?_) (fun u G' d hu=>?_) ?_
 .obtain⟨M,L,rfl,W⟩:=h
  exact⟨_,_,z,W.mono d⟩
 .obtain⟨⟨aU,aK,bU,Z⟩,⟨aV,aO,bK,X⟩,_⟩:=(show (wl' a' aR) G'.m (u 94)/\(wl' a' aS) G'.m (u 93)/\True from hu)
  exact⟨_,_,_,fun _=>m' E39 z,dS' cx,(by simp only[bU,bK] <;> rfl),⟨X,Z⟩⟩
 refine cu' (r:=(Rp.sl a')) (e:=65) ([i]:List (List Za)) (fun _=>z) z (by decide) (fun u G' d hu=>?_) ?_
 .obtain⟨⟨M,L,bI,W⟩,_,_,_⟩:=(show (wl' a' i) G'.m (u 95)/\True/\True/\True from hu)
  simp only[undFr,bI]
  exact⟨#[(0,.slice M i.length L)],[.slice M i.length L]++([]),z,z,fun _=>by kernel_rfl,⟨[.slice M i.length L],[],z,⟨_,z,W⟩,z⟩⟩
 refine bF' (φ:=fun G v=>∃ p g,v = .agg ([i' 1,.slice p 1 g,.slice none 0 0]).toArray/\SlR (Rp.sl a') G (.slice p 1 g) [i]) (fun _=>z) (fun v G1 G2 d h=>?_) (fun u G' d hu=>?_) ?_
 .obtain⟨p,g,rfl,aw⟩:=h
  exact⟨_,_,z,aw.mono d⟩
 .obtain⟨⟨p9,ak,bO,bN⟩,_,_,_,_⟩:=(show (fun G v=>∃ p9 ak,v = .slice p9 1 1/\SlRd (Rp.sl a') G (.slice p9 1 1) ak [i]) G'.m (u 96)/\True/\True/\True/\True from hu)
  simp only[undFr,bO]
  exact⟨_,au' (vs:=#[(0,i' 1),(1,.slice p9 1 1)]) (v:=.agg ([i' 1,.slice p9 1 1,.slice none 0 0]).toArray) z z (fun _=>by kernel_rfl),p9,1,z,bN⟩
 obtain⟨bJ,cc,hr⟩:=hr
 refine dt' (f:=20) (c:=.bool bJ) (fun _=>z) (fun u G' d hu=>?_) ?_
 .obtain⟨⟨p,g,bV,aw⟩,_,_,_,_,_⟩:=(show (fun G v=>∃ p g,v = .agg ([i' 1,.slice p 1 g,.slice none 0 0]).toArray/\SlR (Rp.sl a') G (.slice p 1 g) [i]) G'.m (u 97)/\True/\True/\True/\True/\True from hu)
  have N4:=mx (mx (mx (mx (mx (mx (mx (mx (mx (mx (mx (mx (mx (mx (mx (mx (mx (mx K I) J) t) C) q) y) o) m) s) D) E) k) B) n) j) l) A) ac
  exact⟨_,_,_,fun _=>m' E20 z,ZZ _ _ _ _ _ _ _ _ _ _ _ cc,(by simp only[bV] <;> rfl),⟨((a3.mono N4).mono d),((aD.mono N4).mono d),aw,(ay' (Rp.sl a') _)⟩⟩
 cases bJ
 .refine cu (fun _ _ d=>c' z)<|aC' (fun _=>(aU' z z))<|aC' (fun _=>(aU' z z))<|aC' (fun _=>(aU' z z))<|aC' (fun _=>(aU' z z))<|Chain.tailU5 (d0:=97) (post0:=fun G v=>∃ p g,v = .agg ([i' 1,.slice p 1 g,.slice none 0 0]).toArray/\SlR (Rp.sl a') G (.slice p 1 g) [i]) (d1:=96) (post1:=fun G v=>∃ p9 ak,v = .slice p9 1 1/\SlRd (Rp.sl a') G (.slice p9 1 1) ak [i]) (d2:=95) (post2:=wl' a' i) (d3:=94) (post3:=wl' a' aR) (d4:=93) (post4:=wl' a' aS) (fun cU ce cz cg cG eI dI Q T S U R=>?_)
  obtain⟨p,g,rfl,aw⟩:=Q
  obtain⟨p9,ak,rfl,bN⟩:=T
  obtain⟨M,L,rfl,W⟩:=S
  obtain⟨aU,aK,rfl,Z⟩:=U
  obtain⟨aV,aO,rfl,X⟩:=R
  refine sk z z z<|yy (t' z z) z<|mv z z<|sn2 z<|yy (t' z z) z<|mv z z<|sn3 z<|yy (t' z z) z<|sg z z<|q'<|am'<|b'<|k' (k0' hr z z)
 refine cu (fun _ _ d=>c' z)<|aN' (fun _=>(E' z z)) (fun _ _ d=>D' 5 bj' z z z)<|aN' (fun _=>(E' z z)) (fun _ _ d=>c' z)<|cu' (r:=(Rp.sl a')) (e:=65) ([O]:List (List Za)) (fun _=>(E' z z)) z (by decide) (fun u G' d hu=>?_) ?_
 .have N5:=mx (mx (mx (mx (mx (mx N2 B) n) j) l) A) ac
  exact⟨#[(0,.slice a5 O.length aL)],[.slice a5 O.length aL]++([]),z,z,fun _=>by kernel_rfl,⟨[.slice a5 O.length aL],[],z,⟨_,z,((bL.mono N5).mono d)⟩,z⟩⟩
 refine bF' (φ:=fun G v=>∃ az V,v = .agg ([i' 2,.slice az 1 V,.slice none 0 0]).toArray/\SlR (Rp.sl a') G (.slice az 1 V) [O]) (fun _=>(E' z z)) (fun v G1 G2 d h=>?_) (fun u G' d hu=>?_) ?_
 .obtain⟨az,V,rfl,bt⟩:=h
  exact⟨_,_,z,bt.mono d⟩
 .obtain⟨⟨P,ar,bT,bS⟩,_,_,_,_,_,_⟩:=(show (fun G v=>∃ P ar,v = .slice P 1 1/\SlRd (Rp.sl a') G (.slice P 1 1) ar [O]) G'.m (u 102)/\True/\True/\True/\True/\True/\True from hu)
  simp only[undFr,bT]
  exact⟨_,au' (vs:=#[(0,i' 2),(1,.slice P 1 1)]) (v:=.agg ([i' 2,.slice P 1 1,.slice none 0 0]).toArray) z z (fun _=>by kernel_rfl),P,1,z,bS⟩
 refine Chain.tailU7 (d0:=103) (post0:=fun G v=>∃ az V,v = .agg ([i' 2,.slice az 1 V,.slice none 0 0]).toArray/\SlR (Rp.sl a') G (.slice az 1 V) [O]) (d1:=102) (post1:=fun G v=>∃ P ar,v = .slice P 1 1/\SlRd (Rp.sl a') G (.slice P 1 1) ar [O]) (d2:=97) (post2:=fun G v=>∃ p g,v = .agg ([i' 1,.slice p 1 g,.slice none 0 0]).toArray/\SlR (Rp.sl a') G (.slice p 1 g) [i]) (d3:=96) (post3:=fun G v=>∃ p9 ak,v = .slice p9 1 1/\SlRd (Rp.sl a') G (.slice p9 1 1) ak [i]) (d4:=95) (post4:=wl' a' i) (d5:=94) (post5:=wl' a' aR) (d6:=93) (post6:=wl' a' aS) (fun dT ei cU ce cz cg cG ez a7 bc bb Q T S U R=>?_)
 obtain⟨az,V,rfl,bt⟩:=bc
 obtain⟨P,ar,rfl,bS⟩:=bb
 obtain⟨p,g,rfl,aw⟩:=Q
 obtain⟨p9,ak,rfl,bN⟩:=T
 obtain⟨M,L,rfl,W⟩:=S
 obtain⟨aU,aK,rfl,Z⟩:=U
 obtain⟨aV,aO,rfl,X⟩:=R
 obtain⟨dl,cO,hr⟩:=hr
 have N6:=mx (mx (mx (mx (mx (mx (mx (mx (mx (mx (mx (mx (mx (mx (mx (mx t C) q) y) o) m) s) D) E) k) B) n) j) l) A) ac) a7
 refine K' (E' z z) z (m' E20 z) (ZZ _ _ _ _ _ _ _ _ _ _ _ cO) z (⟨(aN.mono N6),(aC.mono N6),bt,(ay' (Rp.sl a') _)⟩) ?_
 cases dl
 .refine yy (w' z z) z<|mv z z<|sn2 z<|yy (t' z z) z<|mv z z<|sn3 z<|yy (t' z z) z<|sg z z<|q'<|am'<|b'<|k' (k0' hr z z)
 refine yy (w' z z) z<|mv z z<|gy z z (au' (vs:=#[(3,i' 1)]) (v:=.agg ([.slice none 0 0,.slice none 0 0,.slice none 0 0,i' 1]).toArray) z z (fun _=>by kernel_rfl)) z ?_
 obtain⟨dg,cd,hr⟩:=hr
 refine K' (E' z z) z (m' E28 z) (ct' cd) z (⟨(ay' Rp.str _),(ay' U' _),(ay' U' _)⟩) ?_
 cases dg
 .refine yy (w' z z) z<|mv z z<|sn3 z<|yy (t' z z) z<|sg z z<|q'<|am'<|b'<|k' (k0' hr z z)
 refine yy (w' z z) z<|mv z z<|gy z z (au' (vs:=#[]) (v:=.agg ([.slice none 0 0,.slice none 0 0,.slice none 0 0,i' 0]).toArray) z z (fun _=>by kernel_rfl)) z ?_
 obtain⟨eE,ch,hr⟩:=hr
 refine K' (E' z z) z (m' E28 z) (ct' ch) z (⟨(ay' Rp.str _),(ay' U' _),(ay' U' _)⟩)<|gy z z (aA' z) z<|yy (w' z z) z<|sg z z<|q'<|am'<|b'<|k' (k0' hr z z)
theorem fZ'{c r}(hr:(ZgC c).Ret r):Ctr prog 83 #[.int .i8 c] (fun G=>True) (fun G v=>v=i' r):=by
 refine H' (args:=[_]) (N:=10) func83 z z z fun g h f e=>sr<|sx0 z z<|g'<|sr<|mv z z<|yy (aa' z z) z<|nx<|P' hr z (fun d hr=>?_) (fun d hr=>?_)
 .refine sr<|mv z z<|yy (av' cP' aD' z) z<|yy (Y0.neg z) z<|sx0 z z<|k'<|f' (k0' hr z z)
 refine n'<|b'<|sr<|mv z z<|yy (av' cP' aD' z) z<|sx0 z z<|k' (k0' hr z z)
theorem ff'{y O I V A B r}(hr:(Zhc y O I V).Ret r):Ctr prog 42 #[.agg ([.slice A y.t.length B]).toArray,i' O,i' I,i' V] (fun G=>sl (bD' .i8 5) G A B y.t) (wl' a' r):=by
 refine H' (args:=[_,_,_,_]) (N:=74) func42 z z z (fun w0 G0 aB aQ=>?_)
 have H:=aQ
 refine sr<|ai' 4 z z z fun b1=>sg z z<|nr<|aF' (e:=119) (r:=a') (vs:=#[]) (cs:=[]) ([]:List Za) z z z z z (by decide) (fun _=>by kernel_rfl) (z) (key:=999) z (by rw[aB]; rfl) fun p1 ap U aV=>sx0 z z<|g'<|sr<|sx0 z z<|ab' (fun (⟨J,Q,T,Z⟩:(List Za)×Option Addr×Nat×Mem)=>[(9,.slice Q J.length T)]) (fun ⟨J,Q,T,Z⟩=>Mem.le ap Z/\sl a' Z Q T J/\(ZeA J).Ret r) (fun ⟨J,Q,T,Z⟩=>St w0 G0 Z []) ?_ ?_
 .refine y' ?_
  let Y:(List Za)->Prop:=fun oo=>((fun ov=>match ov with|J=>ZeA J:(List Za)->Cq (List Za)) oo).wp (fun a=>a=r)
  replace hr:(Cq.loop _ _).wp Y:=hr
  refine ac' (Φ:=Y) (fun (⟨k,m,n,j,L⟩:(List Za)×Option Addr×Nat×Int×Mem)=>((k,j):(List Za)×Int)) (fun ⟨k,m,n,j,L⟩=>[(1,i' O),(2,i' I),(3,i' V),(4,pt0 b1),(9,.slice m k.length n),(10,i' j)]) (fun ⟨k,m,n,j,L⟩=>Mem.le ap L/\sl a' L m n k) (fun ⟨k,m,n,j,L⟩=>St w0 G0 L [(4,bk0 b1 ([.slice A y.t.length B]) 93)]) ⟨[],p1,0,0,ap⟩ hr (f6 z z z z z z) ⟨mr,aV⟩ (w1 z) ?_
  .intro ao gx hx hr
   obtain⟨k,m,n,j,L⟩:=gx
   obtain⟨s,af⟩:=hx
   refine aO' (fun (gx:Mem)=>match gx with|R=>[(1,i' O),(2,i' I),(3,i' V),(4,pt0 b1),(9,.slice m k.length n),(10,i' j)]) (fun (gx:Mem)=>match gx with|R=>Mem.le L R/\(ZgR y O I k j).wp (Out ao Y)) (fun (gx:Mem)=>match gx with|R=>St w0 G0 R [(4,bk0 b1 ([.slice A y.t.length B]) 93)]) ?_ ?_
   .refine sr<|mv z z<|yy (Y0.ZjO z) z<|yy (o' 4 sc91 z z z) z<|yy (O' dY' (H.mono (mx U s)) z) z<|aE' hr z (aa' z z) z (fun aU hr=>?_) (fun aU hr=>?_)
    .refine mv z z<|gy z z (c' z) z<|gy z z (c' z) z<|gy z z (aa' z z) z<|yy (w' z z) z<|nx<|P' hr z (fun aT hr=>?_) (fun aT hr=>?_)
     .refine n'<|ax' L ⟨mr,hr⟩ (f6 z z z z z z) (w1 z)
     refine ae'<|h'<|h'<|I'<|af' ⟨k,m,n,L⟩ ⟨s,af,hr⟩ (f1 z) (wk ln)
    refine mv z z<|sn3 z<|yy (t' z z) z<|nx<|bw' z<|ae'<|h'<|h'<|I'<|af' ⟨k,m,n,L⟩ ⟨s,af,hr⟩ (f1 z) (wk ln)
   rintro R ⟨M,hr⟩
   refine g'<|y'<|sr<|yy (au' (vs:=#[]) (v:=.agg (vecG (Value.int .i64) 8 (fun _=>0)).toArray) z z (fun _=>by kernel_rfl)) z<|X' 11 z z68 z fun b2=>B' 11 z sz68 z z z (Q' _ _ _) (Q' _ _ _) (fun u hu=>Rp.one (bD' .i64 8) (G:=R) (x:=(fun _=>0)) (cs:=vecG (Value.int .i64) 8 (fun _=>0)) z u (by first|simpa using hu|simpa [Value.cells] using hu))<|nr<|mv z z<|sx0 z z<|g'<|sr<|sx0 z z<|ab' (fun (⟨t,ah⟩:(Fin 8->Int)×Mem)=>[(1,i' O),(2,i' I),(3,i' V),(4,pt0 b1),(9,.slice m k.length n),(10,i' j),(11,pt0 b2)]) (fun ⟨t,ah⟩=>Mem.le R ah/\(ZeB y k j t).wp (Out ao Y)) (fun ⟨t,ah⟩=>St w0 G0 ah [(4,bk0 b1 ([.slice A y.t.length B]) 93),(11,bk0 b2 (vecG (Value.int .i64) 8 t) 68)]) ?_ ?_
   .refine y' ?_
    let aq:(Fin 8->Int)->Prop:=fun oo=>((fun ov=>match ov with|t=>ZeB y k j t:(Fin 8->Int)->Cq (((List Za)×Int)⊕(List Za))) oo).wp (Out ao Y)
    replace hr:(Cq.loop _ _).wp aq:=hr
    refine ac' (Φ:=aq) (fun (⟨p,l,K,P⟩:Int×Int×(Fin 8->Int)×Mem)=>((p,l,K):Int×Int×(Fin 8->Int))) (fun ⟨p,l,K,P⟩=>[(1,i' O),(2,i' I),(3,i' V),(4,pt0 b1),(9,.slice m k.length n),(10,i' j),(11,pt0 b2),(12,i' p),(13,i' l)]) (fun ⟨p,l,K,P⟩=>Mem.le R P) (fun ⟨p,l,K,P⟩=>St w0 G0 P [(4,bk0 b1 ([.slice A y.t.length B]) 93),(11,bk0 b2 (vecG (Value.int .i64) 8 K) 68)]) ⟨I,0,(fun _=>0),R⟩ hr (f9 z z z z z z z z z) mr (w2 z z) ?_
    .intro be gx hx hr
     obtain⟨p,l,K,P⟩:=gx
     have S:=hx
     refine g'<|sr<|mv z z<|mv z z<|aE' hr z (aa' z z) z (fun a1 hr=>?_) (fun a1 hr=>?_)
     .refine mv z z<|gy z z (c' z) z<|gy z z (aa' z z) z<|yy (w' z z) z<|nx<|P' hr z (fun a2 hr=>?_) (fun a2 hr=>?_)
      .refine n'<|b'<|g'<|y'<|sr<|mv z z<|yy (Y0.ZjO z) z<|yy (o' 4 sc91 z z z) z<|mv z z<|mv z z<|yy (W' z z) z ?_
       obtain⟨x2,az,hr⟩:=hr
       refine yy (V' dY' sz137 (H.mono (mx (mx (mx U s) M) S)) z z az) z ?_
       obtain⟨aA,hr⟩:=hr
       refine yy (Y0.idxA underlying137 sz54 z z aA) z<|yy (aj' sc54 z (dQ' (J' (Z' H az) (mx (mx (mx U s) M) S)) aA)) z ?_
       obtain⟨au,aO,hr⟩:=hr
       refine K' z z (m' E83 z) (fZ' aO) z (trivial)<|mv z z<|yy (W' z z) z ?_
       obtain⟨aX,hr⟩:=hr
       refine yy (bP' z z aX) z ?_
       obtain⟨a0,hr⟩:=hr
       refine yy (aT' ar' sz3 z z a0) z<|by' 11 (vecG (Value.int .i64) 8 (setF K l.toNat (Int.tmod au (i64.wrap (p+1))))).toArray z sz3 z z z (by first|(rw[Q']; omega)|(show _<(vecG _ _ _).toArray.size; rw[Q']; omega)) z (cL' _ _ _ _ _)<|nx<|x'<|mv z z<|mv z z ?_
       obtain⟨aC,hr⟩:=hr
       refine yy (aT' ar' sz3 z z aC) z<|yy (o' 11 sc3 z z (bh' _ _ _ aC)) z<|yy (ba' z z) z<|sg z z<|q'<|F'<|b'<|x'<|mv z z<|yy (W' z z) z<|sg z z<|q'<|T' ⟨i64.wrap (p-(getF (setF K l.toNat (Int.tmod au (i64.wrap (p+1)))) l)),i64.wrap (l+1),setF K l.toNat (Int.tmod au (i64.wrap (p+1))),P⟩ hr S (f9 z z z z z z z z z) (w2 z z)
      refine ae'<|h'<|h'<|I'<|af' ⟨K,P⟩ ⟨S,hr⟩ (f7 z z z z z z z) (w2 z z)
     refine mv z z<|sn2 z<|yy (t' z z) z<|nx<|bw' z<|ae'<|h'<|h'<|I'<|af' ⟨K,P⟩ ⟨S,hr⟩ (f7 z z z z z z z) (w2 z z)
   rintro⟨t,ah⟩ ⟨X,hr⟩
   refine b'<|ak' [tt,ff,ff,ff,ff,ff,ff,ff,ff,ff,ff,ff] mix (by kernel_rfl) fun hb=>cv' z (c' z)<|cn (fun _ o=>Y0.ZjO z)<|cn (fun _ o=>o' 4 sc91 z z z)<|cn (fun _ o=>c' z) ?_
   obtain⟨x1,aE,hr⟩:=hr
   have N1:=mx (mx (mx U s) M) X
   refine cn (fun _ o=>V' dY' sz137 ((H.mono N1).mono o) z z aE)<|cn (fun _ o=>Y0.idxA underlying137 sz54 z z (by decide))<|cn (fun _ o=>aj' sc54 z (dQ' (J' (J' (Z' H aE) N1) o) (by decide)))<|cn (fun _ o=>bP' z z (by decide))<|cn (fun _ o=>av' cP' cp' z) ?_
   obtain⟨aD,aJ,hr⟩:=hr
   refine az' (post:=w59' aD) (fun _=>z) (fun _ _=>m' E26 z) (cc' aJ) z (fun G' o=>trivial) (fun v G1 G2 o h=>?_) ?_
   .obtain⟨ae,ad,aa,ac,rfl,D,C⟩:=h
    exact⟨_,_,_,_,z,D.mono o,C.mono o⟩
   obtain⟨q,aK,hr⟩:=hr
   refine az' (post:=w59' q) (fun _=>z) (fun _ _=>m' E26 z) (cc' aK) z (fun G' o=>trivial) (fun v G1 G2 o h=>?_) ?_
   .obtain⟨c,g,f,i,rfl,F,E⟩:=h
    exact⟨_,_,_,_,z,F.mono o,E.mono o⟩
   refine cu (fun _ _ o=>D' 11 bo' z z (Q' _ _ _))<|cD' (d:=67) (post:=w59' q) (d':=66) (post':=w59' aD) (fun a9 ba bg ai an ak=>?_)
   obtain⟨c,g,f,i,rfl,F,E⟩:=an
   obtain⟨ae,ad,aa,ac,rfl,D,C⟩:=ak
   refine yy (au' (vs:=#[(0,.agg ((v59' q c g f i)).toArray),(1,.agg (vecG (Value.int .i64) 8 t).toArray)]) (v:=.agg (((v59' q c g f i):List Value)++(vecG (Value.int .i64) 8 t)).toArray) z z (fun _=>by kernel_rfl)) z<|aF' (e:=119) (r:=a') (vs:=#[(0,.agg (((v59' q c g f i):List Value)++(vecG (Value.int .i64) 8 t)).toArray)]) (cs:=(((v59' q c g f i):List Value)++(vecG (Value.int .i64) 8 t))++([])) ([(Za.mk q t)]:List Za) z z z z z (by decide) (fun _=>by kernel_rfl) ⟨((v59' q c g f i):List Value)++(vecG (Value.int .i64) 8 t),[],z,⟨(v59' q c g f i),vecG (Value.int .i64) 8 t,z,⟨(v57' q.num c g),(v57' q.den f i),z,⟨[.bool q.num.neg],[.slice c q.num.mag.length g],z,z,⟨_,z,F⟩⟩,⟨[.bool q.den.neg],[.slice f q.den.mag.length i],z,z,⟨_,z,E⟩⟩⟩,z⟩,z⟩ (key:=999) z (by rw[aB]; rfl) (fun p2 bi W aW=>?_)
   obtain⟨bh,aP,hr⟩:=hr
   refine N' z z (m' E80 z) (eW' aP) z (⟨(D.mono W),(C.mono W),aW⟩) (fun a6 bf aj am=>?_)
   obtain⟨a5,bb,rfl,aH⟩:=am
   obtain⟨aS,aF,hr⟩:=hr
   refine N' z z (m' E41 z) (dz' aF) z (⟨(af.mono (mx (mx (mx (mx M X) ai) W) aj)),aH⟩) (fun a8 aZ aw al=>?_)
   obtain⟨aN,aM,rfl,aL⟩:=al
   have N2:=mx (mx (mx (mx (mx (mx s M) X) ai) W) aj) aw
   refine sg z z<|q'<|am'<|F'<|b'<|x'<|mv z z<|yy (W' z z) z<|sg z z<|q'<|T' ⟨aS,aN,aM,i64.wrap (j+1),aZ⟩ hr ⟨N2,aL⟩ (f6 z z z z z z) (w1 z)
 rintro⟨J,Q,T,Z⟩ ⟨a3,ax,hr⟩
 refine b'<|sr<|mv z z<|sx0 z z<|k' ?_
 obtain rfl:_=r:=hr
 exact j' z z ⟨_,_,z,ax⟩
theorem eX'{g e d r}(hr:(ZfU g).Ret r):Ctr prog 211 #[.agg ((v57' g e d)).toArray] (fun G=>sl (Rp.int .u32) G e d g.mag) (fun G v=>v = .bool r):=by
 refine H' (args:=[_]) (N:=19) func211 z z z (fun l n j h=>?_)
 have c:=h
 refine sr<|ai' 1 z z z fun k=>sg z z<|nr<|yy (as' z) z<|yy (o' 1 be' z z z) z<|yy (O' p' c z) z<|sx0 z z<|g'<|sr<|mv z z<|yy (aH' z z) z<|nx<|P' hr z (fun i hr=>?_) (fun i hr=>?_)
 .refine sr<|yy (aQ' z) z<|yy (o' 1 sc4 z z z) z<|yy (aA' z) z<|sx0 z z<|k'<|f' (k0' hr z z)
 refine n'<|b'<|sr<|yy (as' z) z<|yy (o' 1 be' z z z) z<|mv z z<|yy (ba' z z) z ?_
 obtain⟨m,f,hr⟩:=hr
 refine yy (V' p' aP' c z z f) z<|yy (aj' bu' z (aJ' (Z' c f))) z<|yy (bp' z z) z<|sx0 z z<|k' (k0' hr z z)
theorem fr'{q k h f g e r}(hr:(Zih q k).Ret r):Ctr prog 191 #[.agg ((v57' q h f)).toArray,.agg ((v57' k g e)).toArray] (fun G=>sl (Rp.int .u32) G h f q.mag/\sl (Rp.int .u32) G g e k.mag) (fun G v=>v=i' r):=by
 refine H' (args:=[_,_]) (N:=31) func191 z z z (fun U T Q p=>?_)
 obtain⟨c,d⟩:=p
 refine sr<|ai' 2 z z z fun V=>ai' 3 z z z fun S=>sx0 z z<|g'<|sr<|yy (aQ' z) z<|aE' hr z (db' (o' 2 sc4 z z z) (congrArg Value.bool (bdec _))) z (fun E hr=>?_) (fun E hr=>?_)
 .refine mv z z<|gy z z (aQ' z) z<|gy z z (o' 3 sc4 z z z) z<|gy z z (aA' z) z<|yy (w' z z) z<|nx<|aK' hr z (fun x hr=>?_) (fun x hr=>?_)
  .refine sr<|sx0 z z<|k'<|f' (k0' hr z z)
  refine n'<|b'<|g'<|sr<|yy (aQ' z) z<|aE' hr z (db' (o' 2 sc4 z z z) (congrArg Value.bool (bdec _))) z (fun C hr=>?_) (fun C hr=>?_)
  .refine yy (aA' z) z<|mv z z<|sn2 z<|yy (t' z z) z<|nx<|bw' z<|n'<|b'<|g'<|sr<|yy (aQ' z) z<|yy (o' 2 sc4 z z z) z<|nx<|aK' hr z (fun B hr=>?_) (fun B hr=>?_)
   .refine sr<|yy (as' z) z<|yy (o' 3 be' z z z) z<|yy (as' z) z<|yy (o' 2 be' z z z) z ?_
    obtain⟨L,t,hr⟩:=hr
    refine K' z z (m' E117 z) (bS' t) z (⟨d,c⟩)<|sx0 z z<|k'<|f' (k0' hr z z)
   refine n'<|b'<|sr<|yy (as' z) z<|yy (o' 2 be' z z z) z<|yy (as' z) z<|yy (o' 3 be' z z z) z ?_
   obtain⟨I,i,hr⟩:=hr
   refine K' z z (m' E117 z) (bS' i) z (⟨c,d⟩)<|sx0 z z<|k' (k0' hr z z)
  refine yy (aA' z) z<|mv z z<|gy z z (aQ' z) z<|gy z z (o' 3 sc4 z z z) z<|yy (w' z z) z<|nx<|aK' hr z (fun H hr=>?_) (fun H hr=>?_)
  .refine sr<|sx0 z z<|k'<|f' (k0' hr z z)
  refine n'<|b'<|g'<|sr<|yy (aQ' z) z<|yy (o' 2 sc4 z z z) z<|nx<|aK' hr z (fun y hr=>?_) (fun y hr=>?_)
  .refine sr<|yy (as' z) z<|yy (o' 3 be' z z z) z<|yy (as' z) z<|yy (o' 2 be' z z z) z ?_
   obtain⟨P,n,hr⟩:=hr
   refine K' z z (m' E117 z) (bS' n) z (⟨d,c⟩)<|sx0 z z<|k'<|f' (k0' hr z z)
  refine n'<|b'<|sr<|yy (as' z) z<|yy (o' 2 be' z z z) z<|yy (as' z) z<|yy (o' 3 be' z z z) z ?_
  obtain⟨K,l,hr⟩:=hr
  refine K' z z (m' E117 z) (bS' l) z (⟨c,d⟩)<|sx0 z z<|k' (k0' hr z z)
 refine mv z z<|sn3 z<|yy (t' z z) z<|nx<|bw' z<|n'<|b'<|g'<|sr<|yy (aQ' z) z<|aE' hr z (db' (o' 2 sc4 z z z) (congrArg Value.bool (bdec _))) z (fun F hr=>?_) (fun F hr=>?_)
 .refine yy (aA' z) z<|mv z z<|sn2 z<|yy (t' z z) z<|nx<|bw' z<|n'<|b'<|g'<|sr<|yy (aQ' z) z<|yy (o' 2 sc4 z z z) z<|nx<|aK' hr z (fun u hr=>?_) (fun u hr=>?_)
  .refine sr<|yy (as' z) z<|yy (o' 3 be' z z z) z<|yy (as' z) z<|yy (o' 2 be' z z z) z ?_
   obtain⟨M,j,hr⟩:=hr
   refine K' z z (m' E117 z) (bS' j) z (⟨d,c⟩)<|sx0 z z<|k'<|f' (k0' hr z z)
  refine n'<|b'<|sr<|yy (as' z) z<|yy (o' 2 be' z z z) z<|yy (as' z) z<|yy (o' 3 be' z z z) z ?_
  obtain⟨O,m,hr⟩:=hr
  refine K' z z (m' E117 z) (bS' m) z (⟨c,d⟩)<|sx0 z z<|k' (k0' hr z z)
 refine yy (aA' z) z<|mv z z<|gy z z (aQ' z) z<|gy z z (o' 3 sc4 z z z) z<|yy (w' z z) z<|nx<|aK' hr z (fun D hr=>?_) (fun D hr=>?_)
 .refine sr<|sx0 z z<|k'<|f' (k0' hr z z)
 refine n'<|b'<|g'<|sr<|yy (aQ' z) z<|yy (o' 2 sc4 z z z) z<|nx<|aK' hr z (fun A hr=>?_) (fun A hr=>?_)
 .refine sr<|yy (as' z) z<|yy (o' 3 be' z z z) z<|yy (as' z) z<|yy (o' 2 be' z z z) z ?_
  obtain⟨R,o,hr⟩:=hr
  refine K' z z (m' E117 z) (bS' o) z (⟨d,c⟩)<|sx0 z z<|k'<|f' (k0' hr z z)
 refine n'<|b'<|sr<|yy (as' z) z<|yy (o' 2 be' z z z) z<|yy (as' z) z<|yy (o' 3 be' z z z) z ?_
 obtain⟨J,s,hr⟩:=hr
 refine K' z z (m' E117 z) (bS' s) z (⟨c,d⟩)<|sx0 z z<|k' (k0' hr z z)
theorem fM'{g f e d c r}(hr:(Zee g).Ret r):Ctr prog 188 #[.agg ((v59' g f e d c)).toArray] (fun G=>sl (Rp.int .u32) G f e g.num.mag/\sl (Rp.int .u32) G d c g.den.mag) (fun G v=>v = .bool r):=by
 refine H' (args:=[_]) (N:=27) func188 z z z (fun P A X B=>?_)
 obtain⟨i,h⟩:=B
 refine sr<|ai' 1 z z z fun I=>sx0 z z<|aO' (fun (p:Mem)=>match p with|j=>[(1,pt0 I)]) (fun (p:Mem)=>match p with|j=>Mem.le A j/\(ZfW g).Ret r) (fun (p:Mem)=>match p with|j=>St P A j [(1,bk0 I (v59' g f e d c) 59)]) ?_ ?_
 .refine sr<|yy (bk' z) z<|yy (al' ((v57' g.num f e)).toArray 1 at' z z z (ap' ([]) ((v57' g.num f e)) ((v57' g.den d c)))) z ?_
  obtain⟨J,u,hr⟩:=hr
  refine K' z z (m' E211 z) (eX' u) z (i) ?_
  cases J
  .refine yy (aA' z) z<|mv z z<|sn4 z<|yy (w' z z) z<|mv z z<|sn4 z<|yy (w' z z) z<|nx<|aB' z<|sr<|sx0 z z<|k'<|f' (k0' hr z z)
  refine yy (aA' z) z<|mv z z<|gy z z (aY' z) z<|gy z z (al' ((v57' g.den d c)).toArray 1 at' z z z (ap' ((v57' g.num f e)) ((v57' g.den d c)) ([]))) z ?_
  obtain⟨K,t,hr⟩:=hr
  refine K' (E' z z) z (m' E211 z) (eX' t) z (h) ?_
  cases K
  .refine gy z z (aA' z) z<|yy (t' z z) z<|mv z z<|sn4 z<|yy (w' z z) z<|nx<|aB' z<|sr<|sx0 z z<|k'<|f' (k0' hr z z)
  refine gy z z (aA' z) z<|yy (t' z z) z<|mv z z<|gy z z (aY' z) z<|gy z z (al' ((v57' g.den d c)).toArray 1 at' z z z (ap' ((v57' g.num f e)) ((v57' g.den d c)) ([]))) z ?_
  obtain⟨U,x,hr⟩:=hr
  refine K' (E' z z) z (m' E121 z) (ec' x) z (h)<|gy z z (aa' z z) z<|yy (t' z z) z<|nx<|P' hr z (fun L hr=>?_) (fun L hr=>?_)
  .exact (show False from hr).elim
  refine n'<|ax' A ⟨mr,hr⟩ (f1 z) (w1 z)
 rintro j ⟨k,hr⟩
 refine sr<|yy (bk' z) z<|yy (al' ((v57' g.num f e)).toArray 1 at' z z z (ap' ([]) ((v57' g.num f e)) ((v57' g.den d c)))) z<|yy (aY' z) z<|yy (al' ((v57' g.den d c)).toArray 1 at' z z z (ap' ((v57' g.num f e)) ((v57' g.den d c)) ([]))) z ?_
 obtain⟨T,C,hr⟩:=hr
 refine N' z z (m' E120 z) (em' C) z (⟨(i.mono k),(h.mono k)⟩) (fun O R M l=>?_)
 obtain⟨D,E,rfl,n⟩:=l
 obtain⟨S,s,hr⟩:=hr
 refine N' z z (m' E61 z) (di' s) z (trivial) (fun Q W q o=>?_)
 obtain⟨H,F,rfl,m⟩:=o
 obtain⟨V,y,hr⟩:=hr
 refine K' z z (m' E191 z) (fr' y) z (⟨(n.mono q),m⟩)<|yy (aH' z z) z<|sx0 z z<|k' (k0' hr z z)
theorem eY'{u s q r}(hr:(Zf0 u).Ret r):Ctr prog 156 #[.slice s u.length q] (fun G=>sl a' G s q u) (fun G v=>v = .bool r):=by
 refine H' (args:=[_]) (N:=52) func156 z z z (fun Q t ak R=>?_)
 have e:=R
 refine sr<|sx0 z z<|g'<|sr<|sx0 z z<|ab' (fun (h:Mem)=>match h with|n=>[]) (fun (h:Mem)=>match h with|n=>Mem.le t n/\(ZdS).Ret r) (fun (h:Mem)=>match h with|n=>St Q t n []) ?_ ?_
 .refine y' ?_
  let p:(Bool⊕Unit)->Prop:=fun oo=>((fun ov=>match ov with | .inl rv1=>Cq.ret rv1 | .inr ()=>ZdS:(Bool⊕Unit)->Cq Bool) oo).wp (fun a=>a=r)
  replace hr:(Cq.loop _ _).wp p:=hr
  refine ac' (Φ:=p) (fun (⟨j,g⟩:Int×Mem)=>(j:Int)) (fun ⟨j,g⟩=>[(0,.slice s u.length q),(3,i' j)]) (fun ⟨j,g⟩=>Mem.le t g) (fun ⟨j,g⟩=>St Q t g []) ⟨0,t⟩ hr (f2 z z) mr (wk ln) ?_
  .intro W h hx hr
   obtain⟨j,g⟩:=h
   have c:=hx
   refine g'<|sr<|mv z z<|mv z z<|yy (O' C' (e.mono c) z) z<|yy (aa' z z) z<|nx<|P' hr z (fun ac hr=>?_) (fun ac hr=>?_)
   .refine n'<|b'<|g'<|y'<|aO' (fun (h:Mem)=>match h with|i=>[(0,.slice s u.length q),(3,i' j)]) (fun (h:Mem)=>match h with|i=>Mem.le g i/\(Zcf u j).wp (Out W p)) (fun (h:Mem)=>match h with|i=>St Q t i []) ?_ ?_
    .refine sr<|mv z z<|mv z z ?_
     obtain⟨x3,x,hr⟩:=hr
     refine yy (V' C' aW' (e.mono c) z z x) z<|yy (aV' z) z ?_
     obtain⟨K,F,I,B,Z,l,m⟩:=ce' (J' (br' (aG' (Z' e x))) c)
     refine yy (ao' _ bc' z z Z) z ?_
     obtain⟨U,M,hr⟩:=hr
     refine K' z z (m' E188 z) (fM' M) z (⟨l,m⟩) ?_
     cases U
     .refine yy (aA' z) z<|mv z z<|sn7 z<|yy (w' z z) z<|mv z z<|sn7 z<|yy (w' z z) z<|nx<|aB' z<|sr<|sx0 z z<|k'<|f'<|A'<|f'<|f'<|A'<|an'<|f' (k0' hr z z)
     refine yy (aA' z) z<|mv z z<|gy z z (c' z) z<|gy z z (c' z) z ?_
     obtain⟨x4,E,hr⟩:=hr
     refine gy z z (V' C' aW' (e.mono c) z z E) z<|gy z z (aV' z) z ?_
     obtain⟨C,L,y,D,T,k,o⟩:=ce' (J' (br' (aG' (Z' e E))) c)
     refine gy z z (ao' _ bc' z z T) z ?_
     obtain⟨aj,P,hr⟩:=hr
     refine K' (E' z z) z (m' E65 z) (cT' P) z (⟨k,o⟩)<|aE' hr (E' z z) (aH' z z) z (fun Y hr=>?_) (fun Y hr=>?_)
     .refine yy (t' z z) z<|mv z z<|sn7 z<|yy (w' z z) z<|nx<|aB' z<|sr<|sx0 z z<|k'<|f'<|A'<|f'<|f'<|A'<|an'<|f' (k0' hr z z)
     refine yy (t' z z) z<|mv z z<|gy z z (c' z) z<|gy z z (c' z) z ?_
     obtain⟨x5,J,hr⟩:=hr
     refine gy z z (V' C' aW' (e.mono c) z z J) z<|gy z z (aM' z) z<|gy z z (ao' _ bo' z (Q' _ _ _) (bK' (J' (bq' (aG' (Z' e J))) c))) z ?_
     obtain⟨ah,O,hr⟩:=hr
     refine K' (E' z z) z (m' E124 z) (eT' O) z (trivial)<|gy z z (aA' z) z<|yy (t' z z) z<|nx<|aK' hr z (fun ab hr=>?_) (fun ab hr=>?_)
     .refine sr<|sx0 z z<|k'<|f'<|A'<|f'<|f'<|A'<|an'<|f' (k0' hr z z)
     refine n'<|ax' g ⟨mr,hr⟩ (f2 z z) (wk ln)
    rintro i ⟨f,hr⟩
    refine g'<|ak' [ff,ff,ff,ff,ff,ff,ff,ff,ff,ff,ff,ff,ff,ff] mix (by kernel_rfl) fun V=>cn (fun _ d=>c' z)<|bG' hr z (fun _ d=>aS' z z) (fun aa hr=>?_) (fun aa hr=>?_)
    .refine cn (fun _ d=>c' z)<|cy z z (fun _ d=>c' z)<|cy z z (fun _ d=>c' z)<|cy z z (fun _ d=>ba' z z) ?_
     obtain⟨x1,H,hr⟩:=hr
     refine cy z z (fun _ d=>V' C' aW' ((e.mono (mx c f)).mono d) z z H)<|cy z z (fun _ d=>aM' z)<|cy z z (fun _ d=>ao' _ bo' z (Q' _ _ _) (bK' (J' (J' (bq' (aG' (Z' e H))) (mx c f)) d)))<|cy z z (fun _ d=>c' z)<|cy z z (fun _ d=>c' z) ?_
     obtain⟨x2,A,hr⟩:=hr
     refine cy z z (fun _ d=>V' C' aW' ((e.mono (mx c f)).mono d) z z A)<|cy z z (fun _ d=>aM' z)<|cy z z (fun _ d=>ao' _ bo' z (Q' _ _ _) (bK' (J' (J' (bq' (aG' (Z' e A))) (mx c f)) d)))<|ah' V ?_
     obtain⟨ai,S,hr⟩:=hr
     refine K' (E' z z) z (m' E81 z) (dR' S) z (trivial)<|gy z z (bW' z z) z<|yy (w' z z) z<|q'<|am'<|b'<|P' hr z (fun X hr=>?_) (fun X hr=>?_)
     .exact (show False from hr).elim
     refine n'<|F'<|b'<|x'<|mv z z<|yy (W' z z) z<|sg z z<|q'<|T' ⟨i64.wrap (j+1),i⟩ hr (mx c f) (f2 z z) (wk ln)
    refine cn (fun _ d=>c' z)<|ct z z<|ct z z<|ct z z<|ct z z<|ct z z<|ct z z<|ct z z<|ct z z<|ct z z<|ct z z<|ct z z<|ah' V<|sn2 z<|yy (t' z z) z<|q'<|am'<|b'<|bw' z<|n'<|F'<|b'<|x'<|mv z z<|yy (W' z z) z<|sg z z<|q'<|T' ⟨i64.wrap (j+1),i⟩ hr (mx c f) (f2 z z) (wk ln)
   refine ae'<|h'<|h'<|I'<|af' g ⟨c,hr⟩ fn (wk ln)
 rintro n ⟨ad,hr⟩
 refine b'<|sr<|sx0 z z<|k' (k0' hr z z)
theorem fI'{k r}(hr:(Ze8 k).Ret r):Ctr prog 162 #[.agg (vecG (Value.int .i64) 8 k).toArray] (fun G=>True) (fun G v=>v=i' r):=by
 refine H' (args:=[_]) (N:=15) func162 z z z fun n i A q=>sr<|ai' 1 z z z fun m=>sg z z<|nr<|sx0 z z<|g'<|sr<|sx0 z z<|ab' (fun (⟨g,e⟩:Int×Mem)=>[(3,i' g)]) (fun ⟨g,e⟩=>Mem.le i e/\(Zdi g).Ret r) (fun ⟨g,e⟩=>St n i e []) ?_ ?_
 .refine y' ?_
  let j:Int->Prop:=fun u=>((fun s=>match s with|g=>Zdi g:Int->Cq Int) u).wp (fun a=>a=r)
  replace hr:(Cq.loop _ _).wp j:=hr
  refine ac' (Φ:=j) (fun (⟨d,f,c⟩:Int×Int×Mem)=>((d,f):Int×Int)) (fun ⟨d,f,c⟩=>[(1,pt0 m),(3,i' d),(4,i' f)]) (fun ⟨d,f,c⟩=>Mem.le i c) (fun ⟨d,f,c⟩=>St n i c [(1,bk0 m (vecG (Value.int .i64) 8 k) 68)]) ⟨0,0,i⟩ hr (f3 z z z) mr (w1 z) ?_
  .intro y t x hr
   obtain⟨d,f,c⟩:=t
   have h:=x
   refine g'<|sr<|mv z z<|yy (aa' z z) z<|nx<|P' hr z (fun o hr=>?_) (fun o hr=>?_)
   .refine n'<|b'<|g'<|y'<|x'<|mv z z<|mv z z ?_
    obtain⟨l,hr⟩:=hr
    refine yy (aT' ar' sz3 z z l) z<|yy (o' 1 sc3 z z (bh' _ _ _ l)) z<|yy (W' z z) z<|sg z z<|q'<|F'<|b'<|x'<|mv z z<|yy (W' z z) z<|sg z z<|q'<|T' ⟨i64.wrap (d+(getF k f)),i64.wrap (f+1),c⟩ hr h (f3 z z z) (w1 z)
   refine ae'<|h'<|h'<|I'<|af' ⟨d,c⟩ ⟨h,hr⟩ (f1 z) (wk ln)
 rintro⟨g,e⟩ ⟨p,hr⟩
 refine b'<|sr<|mv z z<|sx0 z z<|k' (k0' hr z z)
theorem dF'{n k j r}(hr:(Zdy n).Ret r):Ctr prog 104 #[.slice k n.length j] (fun G=>sl a' G k j n) (fun G v=>v=i' r):=by
 refine H' (args:=[_]) (N:=20) func104 z z z (fun t i E q=>?_)
 have l:=q
 refine sr<|sg z z<|nr<|sx0 z z<|g'<|sr<|sx0 z z<|ab' (fun (⟨g,f⟩:Int×Mem)=>[(3,i' g)]) (fun ⟨g,f⟩=>Mem.le i f/\(Zdj g).Ret r) (fun ⟨g,f⟩=>St t i f []) ?_ ?_
 .refine y' ?_
  let m:Int->Prop:=fun B=>((fun y=>match y with|g=>Zdj g:Int->Cq Int) B).wp (fun a=>a=r)
  replace hr:(Cq.loop _ _).wp m:=hr
  refine ac' (Φ:=m) (fun (⟨e,h,d⟩:Int×Int×Mem)=>((e,h):Int×Int)) (fun ⟨e,h,d⟩=>[(0,.slice k n.length j),(3,i' e),(4,i' h)]) (fun ⟨e,h,d⟩=>Mem.le i d) (fun ⟨e,h,d⟩=>St t i d []) ⟨(-1),0,i⟩ hr (f3 z z z) mr (wk ln) ?_
  .intro D A C hr
   obtain⟨e,h,d⟩:=A
   have c:=C
   refine g'<|sr<|mv z z<|mv z z<|yy (O' C' (l.mono c) z) z<|yy (aa' z z) z<|nx<|P' hr z (fun u hr=>?_) (fun u hr=>?_)
   .refine n'<|b'<|g'<|y'<|x'<|mv z z<|mv z z<|mv z z ?_
    obtain⟨F,p,hr⟩:=hr
    refine yy (V' C' aW' (l.mono c) z z p) z<|yy (aM' z) z<|yy (ao' _ bo' z (Q' _ _ _) (bK' (J' (bq' (aG' (Z' l p))) c))) z ?_
    obtain⟨o,s,hr⟩:=hr
    refine K' z z (m' E162 z) (fI' s) z (trivial)<|yy (Y0.max2 z z) z<|sg z z<|q'<|F'<|b'<|x'<|mv z z<|yy (W' z z) z<|sg z z<|q'<|T' ⟨if e<o then o else e,i64.wrap (h+1),d⟩ hr c (f3 z z z) (wk ln)
   refine ae'<|h'<|h'<|I'<|af' ⟨e,d⟩ ⟨c,hr⟩ (f1 z) (wk ln)
 rintro⟨g,f⟩ ⟨x,hr⟩
 refine b'<|sr<|mv z z<|sx0 z z<|k' (k0' hr z z)
theorem ga'{k r}(hr:(Zil k).Ret r):Ctr prog 212 #[i' k] (fun G=>True) (fun G v=>v = .int .u8 r):=by
 refine H' (args:=[_]) (N:=14) func212 z z z fun l i x o=>sr<|sg z z<|nr<|sx0 z z<|g'<|sr<|sx0 z z<|ab' (fun (⟨g,d⟩:Int×Mem)=>[(3,i' g)]) (fun ⟨g,d⟩=>Mem.le i d/\(Ze6 g).Ret r) (fun ⟨g,d⟩=>St l i d []) ?_ ?_
 .refine y' ?_
  let j:Int->Prop:=fun s=>((fun p=>match p with|g=>Ze6 g:Int->Cq Int) s).wp (fun a=>a=r)
  replace hr:(Cq.loop _ _).wp j:=hr
  refine ac' (Φ:=j) (fun (⟨e,f,c⟩:Int×Int×Mem)=>((e,f):Int×Int)) (fun ⟨e,f,c⟩=>[(0,i' k),(3,i' e),(4,i' f)]) (fun ⟨e,f,c⟩=>Mem.le i c) (fun ⟨e,f,c⟩=>St l i c []) ⟨1,0,i⟩ hr (f3 z z z) mr (wk ln) ?_
  .intro u q t hr
   obtain⟨e,f,c⟩:=q
   have h:=t
   refine g'<|sr<|mv z z<|mv z z<|yy (aa' z z) z<|nx<|P' hr z (fun m hr=>?_) (fun m hr=>?_)
   .refine n'<|b'<|g'<|y'<|x'<|mv z z<|yy (dd' z z) z<|sg z z<|q'<|F'<|b'<|x'<|mv z z<|yy (W' z z) z<|sg z z<|q'<|T' ⟨i64.wrap (2*e),i64.wrap (f+1),c⟩ hr h (f3 z z z) (wk ln)
   refine ae'<|h'<|h'<|I'<|af' ⟨e,c⟩ ⟨h,hr⟩ (f1 z) (wk ln)
 rintro⟨g,d⟩ ⟨n,hr⟩
 refine b'<|sr<|mv z z<|yy (av' aD' aL' z) z<|sx0 z z<|k' (k0' hr z z)
theorem fA'{l r}(hr:(Zez l).Ret r):Ctr prog 189 #[.agg (vecG (Value.int .i64) 8 l).toArray] (fun G=>True) (fun G v=>v = .int .u8 r):=by
 refine H' (args:=[_]) (N:=18) func189 z z z fun q i D u=>sr<|ai' 1 z z z fun n=>sg z z<|nr<|sx0 z z<|g'<|sr<|sx0 z z<|ab' (fun (⟨h,f⟩:Int×Mem)=>[(3,.int .u8 h)]) (fun ⟨h,f⟩=>Mem.le i f/\(ZcA h).Ret r) (fun ⟨h,f⟩=>St q i f []) ?_ ?_
 .refine y' ?_
  let j:Int->Prop:=fun A=>((fun x=>match x with|h=>ZcA h:Int->Cq Int) A).wp (fun a=>a=r)
  replace hr:(Cq.loop _ _).wp j:=hr
  refine ac' (Φ:=j) (fun (⟨d,g,c⟩:Int×Int×Mem)=>((d,g):Int×Int)) (fun ⟨d,g,c⟩=>[(1,pt0 n),(3,.int .u8 d),(4,i' g)]) (fun ⟨d,g,c⟩=>Mem.le i c) (fun ⟨d,g,c⟩=>St q i c [(1,bk0 n (vecG (Value.int .i64) 8 l) 68)]) ⟨0,0,i⟩ hr (f3 z z z) mr (w1 z) ?_
  .intro C y B hr
   obtain⟨d,g,c⟩:=y
   have e:=B
   refine g'<|sr<|mv z z<|yy (aa' z z) z<|nx<|P' hr z (fun s hr=>?_) (fun s hr=>?_)
   .refine n'<|b'<|g'<|y'<|sr<|mv z z ?_
    obtain⟨k,hr⟩:=hr
    refine yy (aT' ar' sz3 z z k) z<|yy (o' 1 sc3 z z (bh' _ _ _ k)) z<|yy (aS' z z) z<|nx<|P' hr z (fun p hr=>?_) (fun p hr=>?_)
    .refine x'<|mv z z<|mv z z ?_
     obtain⟨o,m,hr⟩:=hr
     refine K' z z (m' E212 z) (ga' m) z (trivial)<|yy (W' z z) z<|sg z z<|q'<|F'<|b'<|x'<|mv z z<|yy (W' z z) z<|sg z z<|q'<|T' ⟨u8.wrap (d+o),i64.wrap (g+1),c⟩ hr e (f3 z z z) (w1 z)
    refine n'<|F'<|b'<|x'<|mv z z<|yy (W' z z) z<|sg z z<|q'<|T' ⟨d,i64.wrap (g+1),c⟩ hr e (f3 z z z) (w1 z)
   refine ae'<|h'<|h'<|I'<|af' ⟨d,c⟩ ⟨e,hr⟩ (f1 z) (wk ln)
 rintro⟨h,f⟩ ⟨t,hr⟩
 refine b'<|sr<|mv z z<|sx0 z z<|k' (k0' hr z z)
theorem fh'{n k j r}(hr:(Zhd n).Ret r):Ctr prog 157 #[.slice k n.length j] (fun G=>sl a' G k j n) (fun G v=>v = .int .u8 r):=by
 refine H' (args:=[_]) (N:=20) func157 z z z (fun t i E p=>?_)
 have l:=p
 refine sr<|sg z z<|nr<|sx0 z z<|g'<|sr<|sx0 z z<|ab' (fun (⟨d,g⟩:Int×Mem)=>[(3,.int .u8 d)]) (fun ⟨d,g⟩=>Mem.le i g/\(ZeD d).Ret r) (fun ⟨d,g⟩=>St t i g []) ?_ ?_
 .refine y' ?_
  let m:Int->Prop:=fun B=>((fun y=>match y with|d=>ZeD d:Int->Cq Int) B).wp (fun a=>a=r)
  replace hr:(Cq.loop _ _).wp m:=hr
  refine ac' (Φ:=m) (fun (⟨c,h,f⟩:Int×Int×Mem)=>((c,h):Int×Int)) (fun ⟨c,h,f⟩=>[(0,.slice k n.length j),(3,.int .u8 c),(4,i' h)]) (fun ⟨c,h,f⟩=>Mem.le i f) (fun ⟨c,h,f⟩=>St t i f []) ⟨0,0,i⟩ hr (f3 z z z) mr (wk ln) ?_
  .intro D A C hr
   obtain⟨c,h,f⟩:=A
   have e:=C
   refine g'<|sr<|mv z z<|mv z z<|yy (O' C' (l.mono e) z) z<|yy (aa' z z) z<|nx<|P' hr z (fun u hr=>?_) (fun u hr=>?_)
   .refine n'<|b'<|g'<|y'<|x'<|mv z z<|mv z z<|mv z z ?_
    obtain⟨F,o,hr⟩:=hr
    refine yy (V' C' aW' (l.mono e) z z o) z<|yy (aM' z) z<|yy (ao' _ bo' z (Q' _ _ _) (bK' (J' (bq' (aG' (Z' l o))) e))) z ?_
    obtain⟨s,q,hr⟩:=hr
    refine K' z z (m' E189 z) (fA' q) z (trivial)<|yy (Y0.or z z) z<|sg z z<|q'<|F'<|b'<|x'<|mv z z<|yy (W' z z) z<|sg z z<|q'<|T' ⟨u8.wrap (BitVec.ofInt u8.bits c ||| BitVec.ofInt u8.bits s).toNat,i64.wrap (h+1),f⟩ hr e (f3 z z z) (wk ln)
   refine ae'<|h'<|h'<|I'<|af' ⟨c,f⟩ ⟨e,hr⟩ (f1 z) (wk ln)
 rintro⟨d,g⟩ ⟨x,hr⟩
 refine b'<|sr<|mv z z<|sx0 z z<|k' (k0' hr z z)
theorem eh'{h m e d r}(hr:(ZdB h m).Ret r):Ctr prog 101 #[.slice e h.length d,i' m] (fun G=>sl a' G e d h) (fun G v=>v = .bool r):=by
 refine H' (args:=[_,_]) (N:=21) func101 z z z (fun t s q i=>?_)
 have c:=i
 refine sr<|sg z z<|nr<|mv z z ?_
 obtain⟨k,j,hr⟩:=hr
 refine K' z z (m' E156 z) (eY' j) z (c) ?_
 cases k
 .refine mv z z<|sn3 z<|yy (t' z z) z<|mv z z<|sn7 z<|yy (t' z z) z<|sx0 z z<|k' (k0' hr z z)
 refine mv z z<|gy z z (c' z) z ?_
 obtain⟨o,f,hr⟩:=hr
 refine K' (E' z z) z (m' E104 z) (dF' f) z (c)<|aE' hr (E' z z) (bW' z z) z (fun n hr=>?_) (fun n hr=>?_)
 .refine yy (w' z z) z<|mv z z<|gy z z (c' z) z ?_
  obtain⟨p,g,hr⟩:=hr
  refine K' (E' z z) z (m' E157 z) (fh' g) z (c)<|gy z z (av' aL' aD' z) z<|gy z z (c' z) z<|gy z z (av' aD' dg' z) z ?_
  obtain⟨l,hr⟩:=hr
  refine gy z z (Y0.shl z z l) z<|gy z z (aa' z z) z<|yy (w' z z) z<|sx0 z z<|k' (k0' hr z z)
 refine yy (w' z z) z<|mv z z<|sn7 z<|yy (t' z z) z<|sx0 z z<|k' (k0' hr z z)
theorem fs'{m p l k r}(hr:(ZgD m p).Ret r):Ctr prog 50 #[.slice l m.length k,i' p] (fun G=>sl (Rp.sl a') G l k m) (fun G v=>v = .bool r):=by
 refine H' (args:=[_,_]) (N:=19) func50 z z z (fun u i I o=>?_)
 have h:=o
 refine sr<|sx0 z z<|g'<|sr<|sx0 z z<|ab' (fun (f:Mem)=>match f with|e=>[]) (fun (f:Mem)=>match f with|e=>Mem.le i e/\(Zfh).Ret r) (fun (f:Mem)=>match f with|e=>St u i e []) ?_ ?_
 .refine y' ?_
  let j:(Bool⊕Unit)->Prop:=fun C=>((fun B=>match B with | .inl rv1=>Cq.ret rv1 | .inr ()=>Zfh:(Bool⊕Unit)->Cq Bool) C).wp (fun a=>a=r)
  replace hr:(Cq.loop _ _).wp j:=hr
  refine ac' (Φ:=j) (fun (⟨g,d⟩:Int×Mem)=>(g:Int)) (fun ⟨g,d⟩=>[(0,.slice l m.length k),(1,i' p),(5,i' g)]) (fun ⟨g,d⟩=>Mem.le i d) (fun ⟨g,d⟩=>St u i d []) ⟨0,i⟩ hr (f3 z z z) mr (wk ln) ?_
  .intro F f D hr
   obtain⟨g,d⟩:=f
   have c:=D
   refine g'<|sr<|mv z z<|mv z z<|yy (O' M' (h.mono c) z) z<|yy (aa' z z) z<|nx<|P' hr z (fun y hr=>?_) (fun y hr=>?_)
   .refine n'<|b'<|g'<|y'<|sr<|mv z z<|mv z z ?_
    obtain⟨K,n,hr⟩:=hr
    refine yy (V' M' cj' (h.mono c) z z n) z ?_
    obtain⟨J,H,s,x⟩:=bl' (J' (Z' h n) c)
    refine yy (aj' bU' z (s)) z<|mv z z ?_
    obtain⟨E,q,hr⟩:=hr
    refine K' z z (m' E101 z) (eh' q) z (x)<|yy (aA' z) z<|nx<|aK' hr z (fun t hr=>?_) (fun t hr=>?_)
    .refine sr<|sx0 z z<|k'<|A'<|f'<|f'<|A'<|an'<|f' (k0' hr z z)
    refine n'<|F'<|b'<|x'<|mv z z<|yy (W' z z) z<|sg z z<|q'<|T' ⟨i64.wrap (g+1),d⟩ hr c (f3 z z z) (wk ln)
   refine ae'<|h'<|h'<|I'<|af' d ⟨c,hr⟩ fn (wk ln)
 rintro e ⟨A,hr⟩
 refine b'<|sr<|sx0 z z<|k' (k0' hr z z)
theorem gb'{u s h e j f r}(hr:(Zik u s).Ret r):Ctr prog 159 #[.agg ((v57' u h e)).toArray,.agg ((v57' s j f)).toArray] (fun G=>sl (Rp.int .u32) G h e u.mag/\sl (Rp.int .u32) G j f s.mag) (w59t' r):=by
 refine H' (args:=[_,_]) (N:=13) func159 z z z (fun J I E t=>?_)
 obtain⟨l,g⟩:=t
 refine sr<|ai' 2 z z z fun F=>ai' 3 z z z fun K=>X' 4 z z59 z fun H=>sx0 z z<|g'<|sr<|yy (D' 3 at' z z z) z ?_
 obtain⟨C,v,hr⟩:=hr
 refine K' z z (m' E121 z) (ec' v) z (g)<|yy (aH' z z) z<|nx<|P' hr z (fun x hr=>?_) (fun x hr=>?_)
 .exact (show False from hr).elim
 refine n'<|b'<|sr<|yy (D' 2 at' z z z) z<|yy (D' 3 at' z z z) z ?_
 obtain⟨B,q,hr⟩:=hr
 refine N' z z (m' E64 z) (dD' q) z (⟨l,g⟩) (fun A D y k=>?_)
 obtain⟨o,n,m,p,rfl,d,c⟩:=k
 refine B' 4 z ch' z z z z z (List.all_eq_true.1 z)<|sx0 z z<|k' ?_
 obtain rfl:_=r:=hr
 exact bd' z (aw' (i:=4) bc' z z z) z ⟨_,_,_,_,z,d,c⟩
theorem gc'{m g f e c r}(hr:(Zij m).Ret r):Ctr prog 160 #[.agg ((v59' m g f e c)).toArray] (fun G=>sl (Rp.int .u32) G g f m.num.mag/\sl (Rp.int .u32) G e c m.den.mag) (w59' r):=by
 refine H' (args:=[_]) (N:=9) func160 z z z (fun I F B u=>?_)
 obtain⟨q,o⟩:=u
 refine sr<|ai' 1 z z z fun C=>X' 2 z z59 z fun J=>nx<|g'<|ak' [ff,ff,ff,ff,ff] mix (by kernel_rfl) fun E=>cn (fun _ n=>bk' z)<|cn (fun _ n=>al' ((v57' m.num g f)).toArray 1 at' z z z (ap' ([]) ((v57' m.num g f)) ((v57' m.den e c)))) ?_
 obtain⟨p,x,hr⟩:=hr
 refine az' (post:=w57' p) (fun _=>z) (fun _ _=>m' E122 z) (fV' x) z (fun D n=>(q.mono n)) (fun v K H n h=>?_) ?_
 .obtain⟨j,k,rfl,l⟩:=h
  exact⟨_,_,z,l.mono n⟩
 refine cu (fun _ _ n=>aY' z)<|cu (fun _ _ n=>al' ((v57' m.den e c)).toArray 1 at' z z z (ap' ((v57' m.num g f)) ((v57' m.den e c)) ([])))<|bi' (d:=5) (post:=w57' p) (fun y A t s=>?_)
 obtain⟨j,k,rfl,l⟩:=s
 refine yy (au' (vs:=#[(0,.agg ((v57' p j k)).toArray),(1,.agg ((v57' m.den e c)).toArray)]) (v:=.agg ([.bool p.neg,.slice j p.mag.length k,.bool m.den.neg,.slice e m.den.mag.length c]).toArray) z z (fun _=>by kernel_rfl)) z<|B' 2 z ch' z z z z z (List.all_eq_true.1 z)<|q'<|am'<|b'<|k' ?_
 obtain rfl:_=r:=hr
 exact j' z (aw' (i:=2) bc' z z z) ⟨_,_,_,_,z,l,(o.mono t)⟩
end Go.Proofs.YtoakocgcakgpnaaGreat

