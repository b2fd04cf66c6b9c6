/- The law MergeExchange holds for every input: a part of its proof (what the code does, plain models, and what they return). No condition. -/
import Derived.Test.YtdigmacmdlpckaaGreatXE13b
import Derived.Test.YtdigmacmdlpckaaGreatXE13a
set_option linter.unusedVariables false
set_option linter.unusedSimpArgs false
namespace Go.Proofs.YtdigmacmdlpckaaGreat
open Go.IntKind (i8 i16 i32 i64 u8 u16 u32 u64)
open Go.Proofs.Tryz
open Go Go.EL Go.RowKit Go.Proofs
theorem Lj:ownKnob prog.godebug=none:=by kernel_rfl
theorem CC:laidOutB prog=true:=by kernel_rfl
end Go.Proofs.YtdigmacmdlpckaaGreat

namespace Go.Proofs.YtdigmacmdlpckaaGreat
open Go.IntKind (i8 i16 i32 i64 u8 u16 u32 u64)
open Go.Proofs.Tryz
open Go Go.EL Go.RowKit Go.Proofs
theorem iU{a b:Bool}(h:a=true)(k:b=true):(a && b)=true:=by rw[h,k]; rfl
theorem j0:(Rows.mergeExchangeRow.wf (OpenSpec.ofChange Rows.mergeExchangeSpec))=true:=by kernel_rfl
theorem j1:(laidOutB prog)=true:=by kernel_rfl
theorem j2:(mapsRowed prog)=true:=by kernel_rfl
theorem j3:(Tryz.f3.params.all (prog.readableRec ·))=true:=by kernel_rfl
theorem j4:(namedTie prog Rows.mergeExchangeRow.named Rows.mergeExchangeSpec.vars)=true:=by kernel_rfl
theorem j5:((Rows.mergeExchangeRow.stops == []))=true:=by kernel_rfl
theorem j6:((prog.stops == []))=true:=by kernel_rfl
theorem j7:((Rows.mergeExchangeRow.knobs == []))=true:=by kernel_rfl
theorem j8:((prog.stopKnobs == []))=true:=by kernel_rfl
theorem j9:((Rows.mergeExchangeRow.inPlace == prog.inPlace 3))=true:=by kernel_rfl
theorem j10:((Rows.mergeExchangeRow.unfollowed == prog.unfollowed 3))=true:=by kernel_rfl
theorem j11:((Rows.mergeExchangeRow.recurses == prog.recurses 3))=true:=by kernel_rfl
theorem j12:((Rows.mergeExchangeRow.named == prog.varsNamed 3))=true:=by kernel_rfl
theorem j13:((Rows.mergeExchangeRow.maps == (Tryz.f3.params.toList++Rows.mergeExchangeSpec.plain.varTypes prog).any (prog.mapsRec ·)))=true:=by kernel_rfl
theorem j14:((Rows.mergeExchangeRow.ifaces == (Tryz.f3.params.toList++Rows.mergeExchangeSpec.plain.varTypes prog).any (prog.ifacesRec ·)))=true:=by kernel_rfl
theorem j15:((Rows.mergeExchangeRow.mapsOut == prog.mapsAmong Tryz.f3.resultTypes.toList))=true:=by kernel_rfl
theorem j16:((Rows.mergeExchangeRow.loops == (Tryz.f3.params.toList++Rows.mergeExchangeSpec.plain.varTypes prog).any (prog.loopsFrom ·)))=true:=by kernel_rfl
theorem j17:((Rows.mergeExchangeRow.wideKeys == (Tryz.f3.params.toList++Rows.mergeExchangeSpec.plain.varTypes prog++Tryz.f3.resultTypes.toList).any (prog.wideKeysFrom ·)))=true:=by kernel_rfl
theorem j18:(Rows.mergeExchangeSpec.vars.all (prog.varReadable ·))=true:=by kernel_rfl
theorem j19:(Tryz.f3.resultTypes.all (λt=>prog.readableRec t && decide (t<prog.types.size)))=true:=by kernel_rfl
theorem j20:((Rows.mergeExchangeRow.ifacesOut == Tryz.f3.resultTypes.toList.any (prog.ifacesRec ·)))=true:=by kernel_rfl
theorem j21:((Rows.mergeExchangeRow.loopsOut == Tryz.f3.resultTypes.toList.any (prog.loopsFrom ·)))=true:=by kernel_rfl
theorem j22:((Rows.mergeExchangeRow.plainKeys == prog.plainKeys))=true:=by kernel_rfl
theorem j23:(Rows.mergeExchangeRow.shortTexts.isNone)=true:=by kernel_rfl
theorem j24:(prog.stopsHeard)=true:=by kernel_rfl
theorem j25:(prog.mayEnter)=true:=by kernel_rfl
theorem j26:((Rows.mergeExchangeRow.lifted == prog.liftsFinal))=true:=by kernel_rfl
theorem j27:((prog.make == some Rows.mergeExchangeRow.make))=true:=by kernel_rfl
theorem j28:((Rows.mergeExchangeRow.kinds == (if Rows.mergeExchangeRow.domain.isEmpty then [] else Tryz.f3.params.toList.map λt=>match prog.underlying t with|some (.int k)=>some k|_=>none)))=true:=by kernel_rfl
theorem j29:((Rows.mergeExchangeRow.pinned == Rows.mergeExchangeRow.pinnedBy))=true:=by kernel_rfl
theorem j30:((Rows.mergeExchangeRow.veiled == (Tryz.f3.params.toList++Rows.mergeExchangeSpec.plain.varTypes prog++Tryz.f3.resultTypes.toList).any (prog.veiledRec ·)))=true:=by kernel_rfl
theorem j31:(Rows.mergeExchangeRow.veiledFits prog Tryz.f3.params.toList (Tryz.f3.params.toList++Rows.mergeExchangeSpec.plain.varTypes prog++Tryz.f3.resultTypes.toList))=true:=by kernel_rfl
set_option maxRecDepth 100000 in
theorem jAll:joinedFacts prog 3 Tryz.f3 Rows.mergeExchangeSpec Rows.mergeExchangeRow=true:=by
 unfold joinedFacts
 exact iU (iU (iU (iU (iU (iU (iU (iU (iU (iU (iU (iU (iU (iU (iU (iU (iU (iU (iU (iU (iU (iU (iU (iU (iU (iU (iU (iU (iU (iU (iU j0 j1) j2) j3) j4) j5) j6) j7) j8) j9) j10) j11) j12) j13) j14) j15) j16) j17) j18) j19) j20) j21) j22) j23) j24) j25) j26) j27) j28) j29) j30) j31
end Go.Proofs.YtdigmacmdlpckaaGreat

namespace Go.EL
open Go.IntKind (i8 i16 i32 i64 u8 u16 u32 u64)
open Go Go.RowKit Go.Proofs Go.MapKept
theorem Rt{P:Program}{o:Oper}{a:Act}{w:World}{K K':Act->World->Prop}{Q:õ}{n l:Nat}(m:∀ c,o.op≠.defer c)(g:∀ a w,K a w->K' a w)(h:o.wp P a w K Q):o.wpIn (Fence.wide.inRound l) n P a w K' Q:=by
 refine⟨λ_ _=>trivial,?_⟩
 rw[Oper.semAt_plain _ _ _ m]
 unfold Oper.wp at h
 generalize (execOp a.eval o).run P w=i at h ⊢
 cases i with
 | ok nx w'=>
  cases nx <;> simp only[Oper.upon] at h <;> simp only[Oper.uponIn]
  case value v=>exact g _ _ h
  case skip=>exact g _ _ h
  case defer d=>exact g _ _ h
  case enter f args=>exact⟨λh=>by simp[Fence.inRound,Fence.wide] at h,(aa2 (n:=n-1)).2 (h.mono λe p j=>by cases e <;> first|exact g _ _ j|exact j)⟩
  case row row args=>exact⟨λh=>by simp[Fence.inRound,Fence.wide] at h,λc cs _=>let ⟨v,w',r,s⟩:=h c cs; ⟨v,w',g _ _ r,stepsIn_wide.2 s⟩⟩
 | halt x w'=>cases x <;> first|exact h.elim|exact h
theorem H0{P:Program}{ops:Array Oper}{Q:õ}{n r:Nat}(e:¬ LetsOut Q):∀ {l:Ŀ Oper}{a:Act}{w:World},(∀ o ∈ l,∀ c,o.op≠.defer c)->wpList P ops Q l a w->wpListIn (Fence.wide.inRound r) n P ops Q l a w
 | [],_,_,_,h=>h
 | o::l,a,w,f,h=>by
  unfold wpList at h
  unfold wpListIn
  split at h
  .rename_i g
   rw[Ă g]
   rcases h with h|h
   .exact Rt (f o (by simp)) (λa w h'=>H0 e (λo' d=>f o' (by simp[d])) h') h
   exact absurd h.2 e
  rename_i g
  rw[Ā g]
  exact⟨λ_ _=>trivial,H0 e (λo' d=>f o' (by simp[d])) h⟩
theorem HA{P:Program}{l:Ŀ Oper}{id n r:Nat}{Q:õ}{a:Act}{w:World}(d:¬ LetsOut Q)(e:∀ o ∈ l,∀ c,o.op≠.defer c)(h:wpList P l.toArray Q l a w):(Code.region id l.toArray false).wpIn (Fence.wide.inRound r) n P Q a w:=by
 refine wpIn_region ?_
 have:=wpOpsIn_eq_wpListIn (F:=Fence.wide.inRound r) (n:=n) (P:=P) (ops:=l.toArray) (Q:=Q) l 0 (λj=>by simp)
 rw[List.range_eq_range',ĥ,this]
 exact H0 d e h
section
variable {P:Program}{N:Nat}{w0:Bs}{G0 G:Mem}{L:Lo}
theorem St.lT{w:World}{l key:Nat}{r r':Loop}(e:St w0 G0 G L w)(d:L.get key=some ⟨l,.loop r,0⟩):St w0 G0 G ((key,some ⟨l,.loop r',0⟩)::L) (w.putObj l (.loop r')):=by
 have f:=(e.loc key _ d).1
 have c:=(Ĉ.1 f).1
 exact e.sJ d (aaG c) (č _) (λk _ a=>absurd a (ō k)) (λk a=>aaw a) rfl rfl rfl rfl (by simp)
theorem ZtQ{opsA opsB:Ŀ Oper}{E F J n l fn:Nat}{r:Loop}{tmps:Array Value}{fr:Fr}{W:World}{post:Mem->Lo->Prop}(q:r.state = .ready)(y:r.pending=none)
  (hA:r.assign = .region E opsA.toArray false) (hB:r.body = .block J (.region F opsB.toArray false)) (V:∀ o ∈ opsA,∀ c,o.op≠.defer c) (Y:∀ o ∈ opsB,∀ c,o.op≠.defer c) (A:Rel N fr ⟨tmps,[]⟩) (K:Hp G L W) (hl:L.get 8001=some ⟨l,.loop r,0⟩)
  (h:WL P N opsA.toArray (λe a w=>e = .normal/\∃ m I H,Rel N m a/\St ⟨W,L⟩ G I H w/\H.get 8001=some ⟨l,.loop r,0⟩/\
   WL P N opsB.toArray (λe a w=>e = .normal/\∃ j i,St ⟨W,L⟩ G j i w/\i.get 8001=some ⟨l,.loop { r with state:=.busy },0⟩/\post j i) opsB m (St ⟨W,L⟩ G I ((8001,some ⟨l,.loop { r with state:=.busy },0⟩)::H))) opsA fr (St ⟨W,L⟩ G G L)) :
  RoundIn Fence.wide n P l fn tmps r.assign r.body W (λe W'=>e = .returned (.bool true)/\∃ j i,Ext W G L W' j ((8001,some ⟨l,.loop r,0⟩)::i)/\post j i):=by
 refine roundIn_of_wpIn trivial ?_
 rw[hA,hB]
 have g:∀ (X:Act->World->Prop),¬ LetsOut (λe a w=>e=Exit.normal/\X a w):=λX ⟨a,w,h⟩=>by cases h.1
 have h1:=HA (id:=E) (n:=n) (r:=l) (g _) V (h _ W A K.st)
 refine abb (λe a w S=>?_) h1
 obtain⟨rfl,m,I,H,O,B,u,hw⟩:=S
 have Q:=(B.loc 8001 _ u).1
 refine⟨_,run_beginRound Q q,?_⟩
 have T:=B.lT (r':={ r with state:=.busy }) u
 refine wpIn_block (abb (λe a w S=>?_) (HA (id:=F) (n:=n) (r:=l) (g _) Y (hw a _ O T)))
 obtain⟨rfl,j,i,C,v,hp⟩:=S
 have R:=(C.loc 8001 _ v).1
 refine⟨_,_,run_endRound none R,rfl,j,i,?_,hp⟩
 have D:=C.lT (r':={ { r with state:=.busy } with state:=if (none:ŀ Code).isNone then .ready else .done,pending:=none }) v
 have Z:({ { r with state:=.busy } with state:=if (none:ŀ Code).isNone then .ready else .done,pending:=none }:Loop)=r:=by
  obtain⟨s,p,f,t,ps,U,bo,d⟩:=r
  simp only at q y
  subst q y
  rfl
 rw[Z] at D ⊢
 exact D.mE
end
structure u5 (B:Nat) (W W':World):Prop where
 os:W'.os=W.os
 tape:W'.tape=W.tape
 output:W'.output=W.output
 drawn:W.drawn<=W'.drawn
 size:W.heap.size<=W'.heap.size
 block:∀ (k:Nat) (o:Obj),W.heap[k]? = some o->(k<B\/o.isWalk=false)->W'.heap[k]? = some o
theorem u5.alloc(B:Nat)(W:World)(o:Obj):u5 B W (W.alloc o):=
 ⟨rfl,rfl,rfl,č _,by simp,λk o' h _=>(aaQ W o k (Ĉ.1 h).1).trans h⟩
theorem St.FT{w0:Bs}{G0 G:Mem}{L:Lo}{B:Nat}{W W':World}(h:St w0 G0 G L W)(a:u5 B W W')(n:w0.w.heap.size<=B)(p:∀ i x,L.get i=some x->x.o.isWalk=false):St w0 G0 G L W':=by
 refine⟨a.os.trans h.os,a.tape.trans h.tape,a.output.trans h.output,ł h.drawn a.drawn,ł h.size a.size,λk g q=>?_,h.base,λb o v r=>?_,h.fresh,λi x j=>⟨a.block _ _ (h.loc i x j).1 (.inr (p i x j)),(h.loc i x j).2⟩,h.gY⟩
 .have c:=h.block k g q
  have d:k<W.heap.size:=fk g h.size
  rw[<- c,Ń d]
  exact a.block k _ (Ń d) (.inl (fk g n))
 have f:=h.ls b o v r
 obtain⟨l,c,m⟩:=not_walk_of_cell f
 have e:W'.heap[b]? = some l:=a.block b l c (.inr m)
 have c:W.heap[b]? = some l:=c
 simp only[World.cell?,c,e] at f ⊢
 exact f
structure s' (b r:Nat) (es:Array MapEntry) (clock:Nat) (cons:Ŀ MapEntry) (left:Nat) (w:World):Prop where
 map:w.heap[b]? = some (.map es clock)
 iter:∃ seen c0,w.heap[r]? = some (.mapIter (some b) clock seen c0)/\clock<=c0/\(leftOf es seen).size=left/\∀ x,x ∈ cons↔x ∈ es.toList/\seen.contains x.born=true
 nodup:cons.Nodup
theorem born_inj{es:Array MapEntry}{clock:Nat}(h:Stamped es clock){x y:MapEntry}(f:x ∈ es.toList)(g:y ∈ es.toList)(e:x.born=y.born):x=y:=by
 have a:=h.2.1
 have:∀ (l:Ŀ MapEntry),(l.map (·.born)).Nodup->x ∈ l->y ∈ l->x=y:=by
  intro l
  induction l with
  | nil=>intro _ f; cases f
  | cons z l i=>
   intro a f g
   simp only[ė,ų,ă,not_exists,not_and] at a
   rcases ą.1 f with c|c <;> rcases ą.1 g with d|d
   .rw[c,d]
   .exact absurd (by rw[<- e,c]) (a.1 y d)
   .exact absurd (by rw[e,d]) (a.1 x c)
   exact i a.2 c d
 exact this _ a f g
section
variable {P:Program}{b r:Nat}{es:Array MapEntry}{clock:Nat}{cons:Ŀ MapEntry}{left:Nat}{w:World}
theorem s'.next(h:s' b r es clock cons left w)(G:Stamped es clock)(ty:TypeId):
  (left=0/\(Instr.next (.pointer (some ⟨r,0,none⟩)) false ty).run P w = .ok (.tuple #[.bool false]) w)\/
  ∃ e ∈ es.toList,∃ w' g,(¬ e ∈ cons)/\(Instr.next (.pointer (some ⟨r,0,none⟩)) false ty).run P w = .ok (.tuple #[.bool true,e.key,e.val]) w'/\s' b r es clock (cons++[e]) g w'/\g<left/\
   (Instr.entry (.pointer (some ⟨r,0,none⟩))).run P w' = .ok (.tuple #[e.key,e.val]) w'/\∀ B,B<=r->u5 B w w':=by
 obtain⟨seen,c0,E,O,Q,u⟩:=h.iter
 rcases run_next_at (P:=P) w ty r b clock c0 seen es clock E h.map G.1 O with ⟨R,q⟩|⟨e,I,w1,n,q⟩
 .exact .inl ⟨by omega,q⟩
 have f:e ∈ es.toList/\seen.contains e.born=false:=by
  simp only[leftOf,ŵ,Ė,Ō] at I
  exact I
 have y:r≠b:=λe'=>by subst e'; have:=h.map; rw[E] at this; cases this
 have K:r<w.heap.size:=(Ĉ.1 E).1
 have d:w1.heap=w.heap:=by rcases n with rfl|rfl <;> rfl
 have H:w.drawn<=w1.drawn:=by rcases n with rfl|rfl; exact č _; exact Nat.le_succ _
 have m:w1.os=w.os/\w1.tape=w.tape/\w1.output=w.output:=by rcases n with rfl|rfl <;> exact⟨rfl,rfl,rfl⟩
 have v:(ChangeMaps.setBlock w1 r (.mapIter (some b) clock (seen.push e.born) clock)).heap[r]? = some (.mapIter (some b) clock (seen.push e.born) clock):=by
  simp[ChangeMaps.setBlock,d,K]
 have j:∀ k,k≠r->(ChangeMaps.setBlock w1 r (.mapIter (some b) clock (seen.push e.born) clock)).heap[k]? = w.heap[k]?:=λk s=>by
  simp[ChangeMaps.setBlock,d,Š,Ne.symm s]
 refine .inr ⟨e,f.1,ChangeMaps.setBlock w1 r (.mapIter (some b) clock (seen.push e.born) clock),(leftOf es (seen.push e.born)).size,λi=>by { have:=((u e).1 i).2; rw[f.2] at this; cases this },q,⟨(j b (Ne.symm y)).trans h.map,⟨_,clock,v,č _,rfl,λx=>?_⟩,?_⟩,?_,?_,λB S=>⟨m.1,m.2.1,m.2.2,H,by simp[ChangeMaps.setBlock,d],λk o s D=>?_⟩⟩
 .simp only[ĉ,ī,x5,ń,abc]
  constructor
  .rintro (C|rfl)
   .exact⟨((u x).1 C).1,.inl ((u x).1 C).2⟩
   exact⟨f.1,.inr rfl⟩
  rintro⟨C,p|p⟩
  .exact .inl ((u x).2 ⟨C,p⟩)
  exact .inr (born_inj G C f.1 p)
 .refine List.nodup_append.2 ⟨h.nodup,by simp,λa N c i=>?_⟩
  simp only[ī] at i
  subst i
  intro e'
  subst e'
  have:=((u a).1 N).2
  rw[f.2] at this; cases this
 .have A:leftOf es (seen.push e.born)=(leftOf es seen).filter λx=>x.born != e.born:=by
   simp only[leftOf,Array.filter_filter,x5,Bool.not_or]
   congr 1
   funext x
   rw[Bool.and_comm]; rfl
  rw[A,<- Q]
  have:∀ (l:Ŀ MapEntry),e ∈ l->(l.filter λx=>x.born != e.born).length<l.length:=by
   intro l J
   have q:=ĺ (λx:MapEntry=>x.born != e.born) l
   rcases Ś (l.filter λx=>x.born != e.born).length l.length with F|F
   .exact F
   have:=List.length_filter_eq_length_iff.1 (abB q F) e J
   simp at this
  have:=this (leftOf es seen).toList I
  have L:((leftOf es seen).filter λx=>x.born != e.born).size=((leftOf es seen).toList.filter λx=>x.born != e.born).length:=by
   rw[<- ŵ,Ĭ]
  rw[L,<- Ĭ (xs:=leftOf es seen)]
  exact this
 .exact run_entry_at _ r b clock seen es clock e v ((j b (Ne.symm y)).trans h.map) f.1 G.2.1
 by_cases t:k=r
 .subst t
  rw[E] at s; cases s
  rcases D with D|D
  .omega
  cases D
 rw[j k t]; exact s
theorem s'.FT{w':World}(h:s' b r es clock cons left w)(a:KeepsWalks w w'):s' b r es clock cons left w':=by
 obtain⟨seen,c0,c,rest⟩:=h.iter
 exact⟨a.same b _ h.map rfl,⟨seen,c0,a.same r _ c rfl,rest⟩,h.nodup⟩
theorem s'.done(h:s' b r es clock cons 0 w)(g:Stamped es clock):cons.Perm es.toList:=by
 obtain⟨seen,c0,n,m,i,d⟩:=h.iter
 have j:es.toList.Nodup:=by
  have:=g.2.1
  exact (Ľ.1 this).imp λc e=>c (by rw[e])
 refine (œ h.nodup j).2 λx=>⟨λa=>((d x).1 a).1,λa=>(d x).2 ⟨a,?_⟩⟩
 have f:leftOf es seen = #[]:=aaR i
 cases l:seen.contains x.born with
 | true=>rfl
 | false=>
  have:x ∈ (leftOf es seen).toList:=by simp only[leftOf,ŵ,Ė,Ō]; exact⟨a,l⟩
  rw[f] at this; simp at this
end
def rz{K:Type}(P:Program)(g:Nat)(f:Array Value)(enc:K->Value)(ok:K->Prop)(S:Ŀ K->Prop)(n:Nat)(w:World):Prop:=
 ∀ (l:Nat) (J:Ŀ K->World->Prop) (W:World),(∀ (k:Nat) (o:Obj),w.heap[k]? = some o->W.heap[k]? = some o)->(∀ s c d,J s c->u5 W.heap.size c d->J s d)->
  (∀ a x c,J a c->ok x->a.length<n->YieldAt Fence.wide 0 P l #[enc x] c λe d=>e = .returned (.bool true)/\J (a++[x]) d/\KeepsWalks c d)->J [] W->
  Calls P g (#[.func (.yield l) #[] #[]]++f) W λe W'=>(∃ v,e = .returned v)/\∃ xs,S xs/\J xs W'
section
variable {P:Program}{N:Nat}{Q:õ}{fr:Fr}{S:Υ}{ops:Array Oper}{l:Ŀ Oper}{dst:ŀ Nat}{ty:TypeId}{pos:String}{af:Array Edge}{g:ŀ (Nat×Bool)}
def nM(P:Program)(N:Nat)(ops:Array Oper)(Q:õ)(l:Ŀ Oper)(fr:Fr)(S:Υ):Prop:=∀ a w,Rel N fr a->S w->wpListIn Fence.wide 0 P ops Q l a w
theorem nM.nil(h:WE N Q .normal fr S):nM P N ops Q [] fr S:=h
theorem nM.y0{op:Op}{v:Value}(i:κ ops fr ⟨dst,op,ty,pos,af,g⟩ true)(h:Y0 P N ⟨dst,op,ty,pos,af,g⟩ fr S v)(j:∀ c,op≠.defer c)(f:è N dst)(k:nM P N ops Q l (ξ dst v fr) S):nM P N ops Q (⟨dst,op,ty,pos,af,g⟩::l) fr S:=λa w d e=>by
 unfold wpListIn
 rw[Ă (d.wanted i)]
 refine⟨λ_ _=>trivial,?_⟩
 rw[Oper.semAt_plain _ _ _ j,h a w d e]
 exact k _ w (d.ξ v f) e
theorem nM.yield{x y:Operand}{f:Array TypeId}{loop:Nat}{u:Value}{Φ:Value->Υ}(r:κ ops fr ⟨dst,.call ⟨.value x,#[y],f⟩,ty,pos,af,g⟩ true)(q:è N dst)(t:fr.ev x=some (.func (.yield loop) #[] #[]))(A:fr.ev y=some u)
  (p:∀ w,S w->YieldAt Fence.wide 0 P loop #[u] w λe w'=>∃ v,e = .returned v/\Φ v w') (k:∀ v,nM P N ops Q l (ξ dst v fr) (Φ v)):nM P N ops Q (⟨dst,.call ⟨.value x,#[y],f⟩,ty,pos,af,g⟩::l) fr S:=λa w d s=>by
 unfold wpListIn
 rw[Ă (d.wanted r)]
 refine⟨λ_ _=>trivial,?_⟩
 rw[Oper.semAt_plain _ _ _ (λc h=>by cases h)]
 obtain⟨fn,tmps,assign,body,m,n⟩:=p w s
 have:(execOp a.eval ⟨dst,.call ⟨.value x,#[y],f⟩,ty,pos,af,g⟩).run P w = .ok (.round loop fn tmps assign body) w:=by
  simp[execOp,resolve,d.ev t,d.ev A,Deferred.ofValue,invoke,m]
 rw[this]
 refine⟨λh=>by simp[Fence.wide] at h,n.mono λe w' ⟨v,i,j⟩=>?_⟩
 subst i
 exact k v _ w' (d.ξ v q) j
theorem WC.qi{id:Nat}{l:Ŀ Oper}(h:nM P N l.toArray Q l fr S):WC P N (.region id l.toArray false) Q fr S:=λa w c d=>by
 refine (abL (n:=0)).1 (wpIn_region ?_)
 have:=wpOpsIn_eq_wpListIn (F:=Fence.wide) (n:=0) (P:=P) (ops:=l.toArray) (Q:=Q) l 0 (λj=>by simp)
 rw[List.range_eq_range',ĥ,this]
 exact h a w c d
theorem Y0.CE{t:TypeId}{x:Operand}{b off:Nat}{v:Value}(e:ê P t)(h:fr.ev x=some (.pointer (some ⟨b,off,none⟩)))(f:∀ w,S w->w.cell? ⟨b,off,none⟩=some v):Y0 P N ⟨dst,.load t x,ty,pos,af,g⟩ fr S v:=λa w c d=>by
 simp[execOp,c.ev h,Instr.loadAt,Instr.sureAddr,AT e (f w d)]
theorem WC.CF{c:Code}{X:Type}(m:X->Nat)(F:X->Fr)(I:X->Υ)(d:X)(l:Fr.sub (F d) fr)(f:∀ w,S w->I d w)
  (round:∀ x,WC P N c (Exit.then (λa w=>∃ x',m x'<m x/\Rel N (F x') a/\I x' w) Q) (F x) (I x)):WC P N (.loop c) Q fr S:=by
 have key:∀ n x,m x=n->∀ a w,Rel N (F x) a->I x w->jf P c Q a w:=by
  intro n
  induction n using Nat.strongRecOn with
  | _ n q=>
   intro x s a w g f
   refine jf.fold (aaA (λe a' w' h=>?_) (round x a w g f))
   cases e <;> first|exact h|skip
   obtain⟨x',r,i,j⟩:=h
   exact q (m x') (by omega) x' rfl a' w' i j
 exact λa w g p=>(key _ d rfl a w (g.weaken l) (f w p)).wp
end
theorem PE{α:Type}:∀ {l m:Ŀ α},l.Nodup->(∀ x ∈ l,x ∈ m)->l.length<=m.length
 | [],m,_,_=>ġ _
 | a::l,m,h,d=>by
  obtain⟨s,t,rfl⟩:=List.append_of_mem (d a (by simp))
  have c:=ų.1 h
  have:=PE (l:=l) (m:=s++t) c.2 (λx e=>by
   have:=d x (by simp[e])
   simp only[ĉ,ą] at this ⊢
   rcases this with h|rfl|h
   .exact .inl h
   .exact absurd e c.1
   exact .inr h)
  simp only[ā,Ġ] at this ⊢
  omega
theorem u5.Zvy{w w':World}{G0 G:Mem}{L:Lo}(h:St ⟨w,[]⟩ G0 G L w')(B:Nat):u5 B w w':=
 ⟨h.os,h.tape,h.output,h.drawn,h.size,λk o a _=>by rw[h.block k (Ĉ.1 a).1 (λ_ _ e=>by simp[Lo.get] at e)]; exact a⟩
section
variable {P:Program}{K:Type}
theorem wP{f:Nat}{fn:Func}{Q kt e:TypeId}{enc:K->Value}{ok:K->Prop}{i0 i1 i2 i3:Nat}{y4 y5 R y7 y8 y9 y3 al am an ao tn:TypeId}{p4 p5 p6 p7 p8 p9 p3 ah ai aj ak:String}{a4 a5 a6 a7 a8 a9 a3 S T U V:Array Edge}{ts:Array TypeId}
  (hf:P.funcs[f]? = some fn)
  (hb:fn.body=some (.seq (.region i0 #[⟨some 4,.load Q (.tmp 1),y4,p4,a4,none⟩,⟨some 5,.range Q (.tmp 4),y5,p5,a5,none⟩] false)
   (.block 0 (.loop (.seq (.region i1 #[⟨some 6,.next (.tmp 5) false,R,p6,a6,none⟩,⟨some 7,.extract (.tmp 6) 0,y7,p7,a7,none⟩] false)
    (.seq (.cond (.tmp 7) .skip (.exit 0)) (.block 1 (.seq (.region i2 #[⟨some 8,.entry (.tmp 5),y8,p8,a8,none⟩,⟨some 9,.extract (.tmp 8) 0,y9,p9,a9,none⟩,⟨some 3,.assign (.tmp 9),y3,p3,a3,none⟩] false)
     (.seq (.region i3 #[⟨some 10,.move (.tmp 0),al,ah,S,none⟩,⟨some 11,.move (.tmp 3),am,ai,T,none⟩,⟨some 12,.call ⟨.value (.tmp 10),#[.tmp 11],ts⟩,an,aj,U,none⟩,⟨some 13,.unOp .not tn (.tmp 12),ao,ak,V,none⟩] false)
      (.cond (.tmp 13) .ret .skip))))))))))
  (hN:fn.ntmps=14) (hr:fn.results = #[]) (hM:ê P Q) (hu:P.underlying Q=some (.map kt e))
  {w:World}{C b:Nat}{es:Array MapEntry}{clock:Nat}(m:w.cell? ⟨C,0,none⟩=some (.map (some b))) (L:w.heap[b]? = some (.map es clock)) (hS:Stamped es clock) (hk:∀ i ∈ es.toList,∃ x,ok x/\i.key=enc x) :
  rz P f #[.pointer (some ⟨C,0,none⟩)] (λx=>enc x) ok (λxs=>∃ cons:Ŀ MapEntry,cons.Perm es.toList/\cons.map (·.key)=xs.map λx=>enc x) es.size w:=by
 intro l J W hW hA hY h0
 have ab:W.cell? ⟨C,0,none⟩=some (.map (some b)):=by
  obtain⟨ob,p,q⟩:=not_walk_of_cell m
  have p:w.heap[C]? = some ob:=p
  have Z:=hW C ob p
  simp only[World.cell?,p] at m
  simp only[World.cell?,Z]
  exact m
 have A:=hW b _ L
 suffices ag:WC P 14 _ (bodyPost P fn λe W'=>(∃ v,e = .returned v)/\∃ xs:Ŀ K,(∃ cons:Ŀ MapEntry,cons.Perm es.toList/\cons.map (·.key)=xs.map λx=>enc x)/\J xs W') (nC [.func (.yield l) #[] #[],.pointer (some ⟨C,0,none⟩)] 0) (λw=>w=W) by
  refine calls_of_wp hf hb (ag _ W ⟨rfl,by rw[hN]; rfl,λt v hv=>?_⟩ rfl)
  obtain⟨_,q⟩:=Bl _ 0 t v hv
  simp only[fP] at q
  have u:=(Ć.1 q).1
  rw[ı (by simpa using u)]
  simpa using q
 have aa:b<W.heap.size:=(Ĉ.1 A).1
 let I:Ŀ K×Ŀ MapEntry×Nat->Υ:=λx w=>J x.1 w/\s' b W.heap.size es clock x.2.1 x.2.2 w/\x.2.1.map (·.key)=x.1.map λx=>enc x
 refine WC.seq (WC.region (WL.mZ Zf (Y0.CE hM rfl (λw hw=>by subst hw; exact ab)) rfl ?_))
 refine WL.yr (Φ:=λv w=>v = .pointer (some ⟨W.heap.size,0,none⟩)/\I ([],[],(leftOf es #[]).size) w) Zf (λa w j g=>?_) rfl (λv a w j g=>?_)
 .subst g
  have:(execOp a.eval ⟨some 5,.range Q (.tmp 4),y5,p5,a5,none⟩).run P w = .ok (.value (.pointer (some ⟨w.heap.size,0,none⟩))) (w.alloc (.mapIter (some b) clock #[] clock)):=by
   simp[execOp,j.ev (x:=.tmp 4) (v:=.map (some b)) rfl,Instr.range,đ hu,Ź A,Result.andThen,run_newObj_alloc]
  rw[this]
  refine⟨rfl,hA _ _ _ h0 (u5.alloc _ _ _),⟨(aaQ _ _ b aa).trans A,⟨#[],clock,World.alloc_heap_new _ _,č _,rfl,λx=>?_⟩,List.nodup_nil⟩,rfl⟩
  simp
 obtain⟨rfl,g⟩:=g
 suffices B:WL P 14 _ _ [] _ (I ([],[],(leftOf es #[]).size)) from B a w j g
 refine WL.nil (WE.then (WC.block (WC.CF (X:=Ŀ K×Ŀ MapEntry×Nat) (λx=>x.2.2) (λ_=>[(0,.func (.yield l) #[] #[]),(5,.pointer (some ⟨W.heap.size,0,none⟩))]) I ([],[],(leftOf es #[]).size) (Fr.Ze rfl (Fr.Ze rfl (Fr.Zs _))) (λ_ h=>h) ?_)))
 rintro⟨n,cons,left⟩
 refine WC.seq (WC.region ?_)
 refine WL.yr (Φ:=λv w=>(v = .tuple #[.bool false]/\left=0/\I (n,cons,left) w)\/∃ i ∈ es.toList,∃ d,v = .tuple #[.bool true,i.key,i.val]/\((¬ i ∈ cons)/\J n w/\s' b W.heap.size es clock (cons++[i]) d w/\d<left/\cons.map (·.key)=n.map (λx=>enc x)/\(Instr.entry (.pointer (some ⟨W.heap.size,0,none⟩))).run P w = .ok (.tuple #[i.key,i.val]) w)) Zf (λa w j g=>?_) rfl (λv a w j g=>?_)
 .obtain⟨D,r,s⟩:=g
  rcases r.next (P:=P) hS R with ⟨p,q⟩|⟨i,p,w',d,q,h3,h4,h5,h6,h7⟩
  .have:(execOp a.eval ⟨some 6,.next (.tmp 5) false,R,p6,a6,none⟩).run P w = .ok (.value (.tuple #[.bool false])) w:=by
    simp[execOp,j.ev (x:=.tmp 5) (v:=.pointer (some ⟨W.heap.size,0,none⟩)) rfl,q]
   rw[this]
   exact .inl ⟨rfl,p,D,r,s⟩
  have:(execOp a.eval ⟨some 6,.next (.tmp 5) false,R,p6,a6,none⟩).run P w = .ok (.value (.tuple #[.bool true,i.key,i.val])) w':=by
   simp[execOp,j.ev (x:=.tmp 5) (v:=.pointer (some ⟨W.heap.size,0,none⟩)) rfl,h3]
  rw[this]
  exact .inr ⟨i,p,d,rfl,q,hA _ _ _ D (h7 _ (č _)),h4,h5,s,h6⟩
 rcases g with ⟨rfl,rfl,g⟩|⟨i,E,d,rfl,g⟩
 .-- O is left
  suffices B:WL P 14 _ _ _ _ (I (n,cons,0)) from B a w j g
  refine WL.mZ Zf (Y0.extract rfl rfl) rfl (WL.nil (WE.then (WC.seq (WC.qD rfl (WC.exit (WE.ã (WE.ã (WE.Ö ?_))))))))
  rintro a w j ⟨D,r,s⟩
  exact⟨j.defers,.tuple #[],by simp[results,hr],⟨_,rfl⟩,n,⟨cons,r.done hS,s⟩,D⟩
 suffices B:WL P 14 _ _ _ _ (λw=>(¬ i ∈ cons)/\J n w/\s' b W.heap.size es clock (cons++[i]) d w/\d<left/\cons.map (·.key)=n.map (λx=>enc x)/\(Instr.entry (.pointer (some ⟨W.heap.size,0,none⟩))).run P w = .ok (.tuple #[i.key,i.val]) w) from B a w j g
 refine WL.mZ Zf (Y0.extract rfl rfl) rfl (WL.nil (WE.then (WC.seq (WC.tK rfl (WC.skip (WE.then (WC.block (WC.seq (WC.region ?_)))))))))
 obtain⟨x,ad,G⟩:=hk i E
 refine WL.mZ (v:=.tuple #[enc x,i.val]) Zf (λa w j g=>?_) rfl (WL.mZ Zf (Y0.extract rfl rfl) rfl ?_)
 .simp[execOp,j.ev (x:=.tmp 5) (v:=.pointer (some ⟨W.heap.size,0,none⟩)) rfl,g.2.2.2.2.2,G]
 intro a w1 j g
 obtain⟨ap,D,r,u,s,_⟩:=g
 have ae:St ⟨w1,[]⟩ (λ_ _=>none) (λ_ _=>none) [] w1:=(Hp.empty w1).st
 revert a j
 suffices h:WL P 14 _ _ _ _ (St ⟨w1,[]⟩ (λ_ _=>none) (λ_ _=>none) []) from λa j=>h a w1 j ae
 refine WL.mZ Zf (Y0.assign rfl) rfl (WL.nil (WE.then (WC.seq (WC.qi ?_))))
 refine nM.y0 Zf (Y0.move rfl) (λc h=>by cases h) rfl (nM.y0 Zf (Y0.move rfl) (λc h=>by cases h) rfl ?_)
 have H:n.length<es.size:=by
  have p:(cons++[i]).length<=es.toList.length:=by
   obtain⟨seen,c0,_,_,_,hm⟩:=r.iter
   exact PE r.nodup (λy hy=>((hm y).1 hy).1)
  have q:cons.length=n.length:=by have:=ć List.length s; simpa using this
  simp only[ā,Ġ,ř,Ĭ] at p
  omega
 refine nM.yield (Φ:=λv w=>v = .bool true/\I (n++[x],cons++[i],d) w) Zf rfl rfl rfl (λw g=>?_) (λv=>?_)
 .have N:=u5.Zvy g W.heap.size
  have ac:KeepsWalks w1 w:=⟨g.size,λk o F _=>by rw[g.block k (Ĉ.1 F).1 (λ_ _ e=>by simp[Lo.get] at e)]; exact F⟩
  obtain⟨K7,tm,Y,bo,q1,q2⟩:=hY n x w (hA _ _ _ D N) ad H
  refine⟨K7,tm,Y,bo,q1,q2.mono λe w' ⟨e1,e2,e3⟩=>⟨_,e1,rfl,e2,(r.FT ac).FT e3,?_⟩⟩
  simp[s,G]
 intro a w j g
 obtain⟨rfl,g⟩:=g
 suffices B:nM P 14 _ _ _ _ (I (n++[x],cons++[i],d)) from B a w j g
 refine nM.y0 Zf (Y0.not rfl) (λc h=>by cases h) rfl (nM.nil (WE.then (WC.qD rfl (WC.skip (WE.inBlock ?_)))))
 exact λa w j g=>⟨(n++[x],cons++[i],d),u,j.weaken (Fr.Ze rfl (Fr.Ze rfl (Fr.Zs _))),g⟩
theorem B1{f g:Nat}{fn:Func}{lb:Array Value}{j e:TypeId}{bytes N:Nat}{z:Value}{enc:K->Value}{ok:K->Prop}{r:Rp K}{Sx:Ŀ K->Prop}{i0 i1 i2 i3 i4:Nat}{y2 y4 y6 y5 y8 y9 ac ad ae ar au:TypeId}{p2 p4 p6 p5 p8 p9 Z aa ab ap aq:String}{a2 a4 a6 a5 a8 a9 O Q S ag ah:Array Edge}
  (hf:P.funcs[f]? = some fn)
  (hb:fn.body=some (.seq (.region i0 #[⟨some 2,.box j (.tmp 0),y2,p2,a2,none⟩,⟨some 4,.assign (.const (.slice none 0 0)),y4,p4,a4,none⟩] false)
   (.seq (.seq (.region i1 #[⟨some 6,.move (.tmp 1),y6,p6,a6,none⟩] false) (.block 0 (.rangeFunc (.tmp 6) #[7] (.region i2 #[⟨some 5,.assign (.tmp 7),y5,p5,a5,none⟩] false) (.block 1 (.region i3 #[⟨some 8,.load j (.tmp 2),y8,p8,a8,none⟩,⟨some 9,.move (.tmp 5),y9,p9,a9,none⟩,⟨some 10,.buildSlice j 1 #[(0,.tmp 9)],ac,Z,O,none⟩,⟨some 11,.call ⟨.builtin .append,#[.tmp 8,.tmp 10],#[j,j]⟩,ad,aa,Q,none⟩,⟨none,.store j (.tmp 2) (.tmp 11),ae,ab,S,none⟩] false)))))
    (.seq (.region i4 #[⟨some 12,.load j (.tmp 2),ar,ap,ag,none⟩,⟨some 4,.assign (.tmp 12),au,aq,ah,none⟩] false) .ret))))
  (hN:fn.ntmps=13) (hr:fn.results = #[.tmp 4]) (hS:ê P j) (ax:(P.info? j).map (·.size)=some 1) (hu:P.underlying j=some (.slice e)) (hE:mP P e z r.size bytes) (aP:z.cells.size=r.size) (az:bytes<=100000) 
  (al:∀ G x,r.jJ G [enc x] x) (aj:∀ x w,(Instr.buildSlice j 1 #[(0,enc x)]).run P w = .ok (.slice (some ⟨w.heap.size,0,none⟩) 1 1) (w.alloc (.cells [enc x].toArray e)))
  (hg:∀ args w,(callFunc g args).run P w = .ok (.enter g args) w) (aR:N<=small) {w:World}{G:Mem}(hi:sa G w) (hG:rz P g lb (λx=>enc x) ok Sx N w) :
  Calls P f #[.slice none 0 0,.func (.func g) #[] lb] w (me ⟨w,[]⟩ G (λG' L' v=>∃ xs p c tk,L'=[(7000,tk)]/\v = .slice p xs.length c/\Η r e G' v xs tk/\Sx xs)):=by
 refine (aa2 (n:=0)).1 (callsIn_of_wp_marks hf hb trivial ((abL (n:=0)).2 ?_))
 have av:Hp G [] w:=⟨hi,by intro _ _ h; simp[Lo.get] at h,by intro _ _ _ _ _ h; simp[Lo.get] at h⟩
 suffices aM:WC P 13 _ (bodyPostM Fence.wide 0 P fn (me ⟨w,[]⟩ G (λG' L' v=>∃ xs p c tk,L'=[(7000,tk)]/\v = .slice p xs.length c/\Η r e G' v xs tk/\Sx xs))) (nC [.slice none 0 0,.func (.func g) #[] lb] 0) (St ⟨w,[]⟩ G G []) by
  refine aM _ w ⟨rfl,by rw[hN]; rfl,λt v I=>?_⟩ av.st
  obtain⟨_,A⟩:=Bl _ 0 t v I
  simp only[fP] at A
  have aH:=(Ć.1 A).1
  rw[ı (by simpa using aH)]
  simpa using A
 refine WC.seq (WC.region (WL.box 2 Zf rfl rfl (λB=>WL.mZ Zf (Y0.assign rfl) rfl (WL.nil (WE.then (WC.seq (WC.seq (WC.region (WL.mZ Zf (Y0.move rfl) rfl (WL.nil (WE.then (WC.block ?_)))))))))))) 
 intro a w1 U hs
 refine (abL (n:=0)).1 (wpIn_rangeFunc ?_)
 intro L _
 let d:Loop:={ state:=.ready,pending:=none,fn:=L,tmps:=a.tmps,params:=#[7],assign:=.region i2 #[⟨some 5,.assign (.tmp 7),y5,p5,a5,none⟩] false,body:=.block 1 (.region i3 #[⟨some 8,.load j (.tmp 2),y8,p8,a8,none⟩,⟨some 9,.move (.tmp 5),y9,p9,a9,none⟩,⟨some 10,.buildSlice j 1 #[(0,.tmp 9)],ac,Z,O,none⟩,⟨some 11,.call ⟨.builtin .append,#[.tmp 8,.tmp 10],#[j,j]⟩,ad,aa,Q,none⟩,⟨none,.store j (.tmp 2) (.tmp 11),ae,ab,S,none⟩] false),defers:=w1.heap.size }
 have H:St ⟨w,[]⟩ G G _ ((w1.alloc (.deferred (some []))).alloc (.loop d)):=(hs.push 8002 (.deferred (some []))).push 8001 (.loop d)
 have aF:(w1.alloc (.deferred (some []))).heap.size=w1.heap.size+1:=by simp
 rw[aF] at H
 refine⟨w1.heap.size+1,[{ target:=.collected w1.heap.size,args:=#[] }],((w1.alloc (.deferred (some []))).alloc (.loop d)),{ target:=.fn (.func g) lb,args:=#[.func (.yield (w1.heap.size+1)) #[] #[]] },((w1.alloc (.deferred (some []))).alloc (.loop d)),g,#[.func (.yield (w1.heap.size+1)) #[] #[]]++lb,((w1.alloc (.deferred (some []))).alloc (.loop d)),run_enterLoop_outer _ _ _ _ _,?_,λ_ _=>trivial,?_,λh=>by simp[Fence.wide] at h,?_⟩
 .have e6:=U.here 6 (.func (.func g) #[] lb) rfl
  simp[resolve,rangeCall,Deferred.ofValue,Act.eval,e6]
 .simp[invoke,hg]
 refine (aa2 (n:=0)).2 ?_
 let J:Ŀ K->World->Prop:=λxs W=>∃ G' p c tk,St ⟨w,[]⟩ G G' [(8001,some ⟨w1.heap.size+1,.loop d,0⟩),(8002,some ⟨w1.heap.size,.deferred (some []),0⟩),(2,some ⟨B,.cells #[.slice p xs.length c] j (0,0),0⟩),(7000,tk)] W/\Η r e G' (.slice p xs.length c) xs tk
 have aI:Η r e G (.slice none 0 0) ([]:Ŀ K) none:=Η.nil
 refine aas (hG (w1.heap.size+1) J _ (λk o D=>?_) (λxs W1 W2 hJ aL=>?_) (λs x W1 hJ aS aQ=>?_) ⟨G,none,0,none,H.weaken (Lo.Ze rfl (Lo.Ze rfl (Lo.Ze rfl (Lo.Fl (Lo.Zs _))))),aI⟩) (λen W2 hq=>?_)
 .have aE:=(Ĉ.1 D).1
  rw[H.block k aE (λ_ _ h=>by simp[Lo.get] at h)]; exact D
 .obtain⟨G',p,c,tk,E,A⟩:=hJ
  refine⟨G',p,c,tk,E.FT aL ?_ (λi x m=>?_),A⟩
  .have:=H.size; exact this
  simp only[Lo.Zn] at m
  split at m
  .cases m; rfl
  split at m
  .cases m; rfl
  split at m
  .cases m; rfl
  split at m
  .cases tk with
   | none=>cases m
   | some y=>
    cases m
    obtain⟨_,_,_,_,e2,_⟩:=A
    rw[e2]; rfl
  simp[Lo.get] at m
 .obtain⟨G1,p,c,tk,E,A⟩:=hJ
  have aG:=(E.loc 8001 _ rfl).1
  refine⟨L,a.tmps.setIfInBounds 7 (enc x),d.assign,d.body,(by simpa [d] using run_yield (P:=P) (args:=#[enc x]) aG rfl),?_⟩
  let L1:Lo:=[(8001,some ⟨w1.heap.size+1,.loop d,0⟩),(2,some ⟨B,.cells #[.slice p s.length c] j (0,0),0⟩),(7000,tk)]
  have T:Lo.sub L1 [(8001,some ⟨w1.heap.size+1,.loop d,0⟩),(8002,some ⟨w1.heap.size,.deferred (some []),0⟩),(2,some ⟨B,.cells #[.slice p s.length c] j (0,0),0⟩),(7000,tk)]:=Lo.Ze rfl (Lo.Ze rfl (Lo.Ze rfl (Lo.Zs _)))
  have ak:Rel 13 [(2,.pointer (some ⟨B,0,none⟩)),(7,enc x)] ⟨a.tmps.setIfInBounds 7 (enc x),[]⟩:=by
   refine⟨rfl,by simpa using U.size,λt v I=>?_⟩
   rw[Fr.Zn] at I
   split at I
   .rename_i ht; subst ht; cases I
    rw[Ŋ (by decide)]
    exact U.here 2 _ rfl
   rw[Fr.Zn] at I
   split at I
   .rename_i ht; subst ht; cases I
    rw[ŗ (by rw[U.size]; decide)]
   simp[Fr.get] at I
  refine (ZtQ (P:=P) (N:=13) (opsA:=[⟨some 5,.assign (.tmp 7),y5,p5,a5,none⟩]) (opsB:=[⟨some 8,.load j (.tmp 2),y8,p8,a8,none⟩,⟨some 9,.move (.tmp 5),y9,p9,a9,none⟩,⟨some 10,.buildSlice j 1 #[(0,.tmp 9)],ac,Z,O,none⟩,⟨some 11,.call ⟨.builtin .append,#[.tmp 8,.tmp 10],#[j,j]⟩,ad,aa,Q,none⟩,⟨none,.store j (.tmp 2) (.tmp 11),ae,ab,S,none⟩]) (post:=λG2 L2=>Mem.le G1 G2/\∃ p' c' u,Lo.sub [(2,some ⟨B,.cells #[.slice p' (s++[x]).length c'] j (0,0),0⟩),(7000,u)] L2/\Η r e G2 (.slice p' (s++[x]).length c') (s++[x]) u) rfl rfl rfl rfl ?_ ?_ ak (E.hp T) rfl ?_).mono ?_
  .intro o Y c'; simp only[ą,ĝ,ŝ] at Y; subst Y; (intro h; cases h)
  .intro o Y c'; simp only[ą,ĝ,ŝ] at Y; rcases Y with rfl|rfl|rfl|rfl|rfl <;> (intro h; cases h)
  .refine WL.mZ Zf (Y0.assign rfl) rfl (WL.nil ?_)
   intro a1 v1 ay aJ
   refine⟨rfl,_,_,_,ay,aJ,rfl,?_⟩
   refine WL.mZ Zf (Y0.gN 2 hS rfl rfl rfl) rfl (WL.mZ Zf (Y0.move rfl) rfl ?_)
   refine WL.rb (e:=e) (r:=r) (vs:=#[(0,enc x)]) (cs:=[enc x]) ([x]:Ŀ K) Zf rfl rfl rfl rfl (by decide) (λw=>aj x w) (Ã.single (al _ x)) (key:=999) rfl rfl (λq G2 X hq=>?_)
   refine WL.lQ (r:=r) (e:=e) 7000 Zf rfl hu hE aP az rfl rfl (A.mono X) rfl hq (by simp only[ā,Ġ,ř]; omega) (λp' c' u C=>?_)
   refine WL.iE 2 #[.slice p' (s++[x]).length c'] Zf ax rfl rfl rfl (by simp) rfl rfl (WL.nil ?_)
   exact λa2 v2 _ aK=>⟨rfl,_,_,aK,rfl,X,p',c',u,Lo.Ze rfl (Lo.Ze rfl (Lo.Zs _)),C⟩
  rintro e' W2 ⟨e1,G2,L2,m,X,p',c',u,am,C⟩
  refine⟨e1,⟨G2,p',c',u,?_,C⟩,⟨m.size,λk o D Y=>?_⟩⟩
  .refine E.ext (R:=[(8002,some ⟨w1.heap.size,.deferred (some []),0⟩)]) m T (Lo.Ze rfl (Lo.Zs _)) (λi y l=>?_) (λ_ _ _ _ _ z aO=>by simp[Lo.get] at aO) (λi y l=>?_)
   .rw[Lo.Zn] at l
    split at l
    .rename_i V; subst V; rfl
    simp[Lo.get] at l
   rw[Lo.Zn] at l
   split at l
   .rename_i V; subst V; left; rw[Lo.Zn,Ă rfl]; exact l
   rename_i aC
   rw[Lo.Zn] at l
   split at l
   .rename_i aD; right; rw[Lo.Zn,Ă aD]; exact l
   left; rw[Lo.Zn,Ā aC]; exact am i y l
  refine (m.block k (Ĉ.1 D).1 (λi y l aN=>?_)).trans D
  have ao:=(E.loc i y (T i y l)).1
  rw[aN,D] at ao
  have F:y.o.isWalk=true:=by cases ao; exact Y
  simp only[L1,Lo.Zn] at l
  split at l
  .cases l; cases F
  split at l
  .cases l; cases F
  split at l
  .cases tk with
   | none=>cases l
   | some q=>
    cases l
    obtain⟨_,_,_,_,e2,_⟩:=A
    rw[e2] at F; cases F
  simp[Lo.get] at l
 obtain⟨⟨v0,rfl⟩,xs,aw,G',p,c,tk,E,A⟩:=hq
 have ai:=run_endLoop (P:=P) (E.loc 8001 _ rfl).1 (by simp[d])
 have h3:=E.lT (r':={ d with state:=.exhausted }) (key:=8001) rfl
 refine⟨none,_,ai,?_⟩
 refine wp_seq (wp_region_lit ?_)
 have hc:=ŧ _ B 0 _ j (0,0) (h3.loc 2 _ rfl).1
 have aA:=AT (P:=P) hS (hc.trans rfl)
 unfold wpList
 rw[Ă (by rfl)]
 refine .inl ?_
 have r1:(execOp ({ a with defers:=[{ target:=.collected w1.heap.size,args:=#[] }]++a.defers }:Act).eval ⟨some 12,.load j (.tmp 2),ar,ap,ag,none⟩).run P (W2.putObj (w1.heap.size+1) (.loop { d with state:=.exhausted })) = .ok (.value (.slice p xs.length c)) (W2.putObj (w1.heap.size+1) (.loop { d with state:=.exhausted })):=by
  have e9:=U.here 2 (.pointer (some ⟨B,0,none⟩)) rfl
  simp[execOp,Act.eval,e9,Instr.loadAt,Instr.sureAddr,aA]
 unfold Oper.wp
 rw[r1]
 show wpList _ _ _ _ _ _
 unfold wpList
 rw[Ă (by rfl)]
 refine .inl ?_
 have an:a.tmps.size=13:=U.size
 have r2:(execOp ((({ a with defers:=[{ target:=.collected w1.heap.size,args:=#[] }]++a.defers }:Act).put (some 12) (.slice p xs.length c))).eval ⟨some 4,.assign (.tmp 12),au,aq,ah,none⟩).run P (W2.putObj (w1.heap.size+1) (.loop { d with state:=.exhausted })) = .ok (.value (.slice p xs.length c)) (W2.putObj (w1.heap.size+1) (.loop { d with state:=.exhausted })):=by
  simp[execOp,Act.eval,Act.put,an]
 unfold Oper.wp
 rw[r2]
 refine wp_ret ?_
 show LeavesInM _ _ _ _ _ _ _ _ _
 have e3:((({ a with defers:=[{ target:=.collected w1.heap.size,args:=#[] }]++a.defers }:Act).put (some 12) (.slice p xs.length c)).put (some 4) (.slice p xs.length c)).defers=[{ target:=.collected w1.heap.size,args:=#[] }]:=by
  simp[Act.put,U.defers]
 rw[e3]
 refine⟨by simp,.inl ⟨_,_,rfl,run_takeDeferred (h3.loc 8002 _ rfl).1,?_⟩⟩
 refine⟨.slice p xs.length c,?_,?_⟩
 .rw[results_tmp hr]
  simp[Act.put,an]
 refine⟨_,G',[(7000,tk)],rfl,?_,xs,p,c,tk,rfl,rfl,A,aw⟩
 have aB:=(Ĉ.1 (h3.loc 8002 _ rfl).1).1
 have h4:=h3.sJ (i:=8002) (m':=0) (w':=World.putObj _ w1.heap.size (.deferred none)) rfl (aaG aB) (č _) (λk _ D=>absurd D (ō k)) (λk D=>aaw D) rfl rfl rfl rfl (by simp)
 exact (h4.weaken (Lo.Ze rfl (Lo.Zs _))).mE
end
theorem Ext.frame{w w':World}{G G':Mem}{L0 L':Lo}(h:Ext w G [] w' G' L')(hp:Hp G L0 w)(n:∀ i x,L'.get i=some x->L0.get i=none):Ext w G L0 w' G' (L'++L0):=by
 have get:∀ i x,Lo.get (L'++L0) i=some x->L'.get i=some x\/L0.get i=some x:=λi x a=>Lo.get_append L' L0 i x a
 have g:∀ i x,L'.get i=some x->w.heap.size<=x.b:=λi x a=>by
  rcases (h.loc i x a).2.1 with ⟨y,c,_⟩|h'
  .simp[Lo.get] at c
  exact h'
 have lt:∀ i x,L0.get i=some x->x.b<w.heap.size:=λi x a=>(Ĉ.1 (hp.loc i x a).1).1
 refine⟨h.os,h.tape,h.output,h.drawn,h.size,λk f _=>h.block k f (λ_ _ e=>by simp[Lo.get] at e),h.le,h.ls,λb o v m=>?_,λi x a=>?_,λi j x y d a c=>?_⟩
 .rcases h.fresh b o v m with h'|h'|h'
  .exact .inl h'
  .exact .inr (.inl h')
  exact (Lo.Kf h').elim
 .rcases get i x a with a|a
  .exact⟨(h.loc i x a).1,.inr (g i x a),(h.loc i x a).2.2⟩
  refine⟨by rw[h.block x.b (lt i x a) (λ_ _ e=>by simp[Lo.get] at e)]; exact (hp.loc i x a).1,.inl ⟨x,a,rfl⟩,λk f=>?_⟩
  cases l:G' x.b k with
  | none=>rfl
  | some v=>
   rcases h.fresh x.b k v l with h'|h'|h'
   .rw[(hp.loc i x a).2 k f] at h'; cases h'
   .have:=lt i x a; omega
   exact (Lo.Kf h').elim
 rcases get i x a with a|a <;> rcases get j y c with c|c
 .exact h.gY i j x y d a c
 .have:=g i x a; have:=lt j y c; omega
 .have:=lt i x a; have:=g j y c; omega
 exact hp.gY i j x y d a c
theorem WB{K V:Type}{enc:K->Value}(c:∀ {x y},enc x=enc y->x=y){xs ys:Ŀ K}(h:(xs.map enc).Perm (ys.map enc)):xs.Perm ys:=by
 classical
 let a:Value->ŀ K:=λv=>if h:∃ k,enc k=v then some h.choose else none
 have hi:∀ l:Ŀ K,(l.map enc).filterMap a=l:=by
  intro l
  induction l with
  | nil=>rfl
  | cons x l e=>
   have:a (enc x)=some x:=by
    have d:∃ k,enc k=enc x:=⟨x,rfl⟩
    simp only[a,Ŗ d]
    rw[c d.choose_spec]
   simp only[ė,List.filterMap_cons,this,e]
 have:=h.filterMap a
 rwa [hi,hi] at this
theorem ib.keys{K V:Type}{enc:K->Value}{Rv:K->Value->V->Prop}:∀ {es:Ŀ MapEntry}{D:Ŀ (K×V)},ib enc Rv es D->es.map (·.key)=(D.map (·.1)).map enc
 | [],[],_=>rfl
 | _::_,_::_,h=>by simp only[ė,fv]; exact⟨h.1,ib.keys h.2.2⟩
 | [],_::_,h=>by cases h
 | _::_,[],h=>by cases h
theorem Lo.QY:∀ (A B:Lo),Lo.sub A (A++B)
 | [],_=>Lo.Zs _
 | p::A,B=>λi x h=>by
  obtain⟨j,y⟩:=p
  rw[Ħ,Lo.Zn]
  rw[Lo.Zn] at h
  split at h
  .rename_i e; rw[Ă e]; exact h
  rename_i e; rw[Ā e]; exact Lo.QY A B i x h
section
variable {P:Program}{K V:Type}{kt:TypeId}
def kx(P:Program)(f:FuncId)(a:Array Value)(g:FuncId)(ky:Ky P kt K)(r:Rp K)(e:TypeId):Prop:=
 ∀ {V:Type}(Rv:K->Value->V->Prop) (v:Value) (D:Ŀ (K×V)) (tk:ŀ Ow) (h kk:Nat),kk≠7000/\kk≠5000->ü ky Rv v D tk->
  ò P f (a.push (.func (.func g) #[] #[.pointer (some ⟨h,0,none⟩)])) [(kk,tk)] (λG=>G h 0=some v) (λG L u=>∃ xs p c d,L=[(7000,d),(kk,tk)]/\u = .slice p xs.length c/\Η r e G u xs d/\xs.Perm (D.map (·.1)))
theorem NA{f g:FuncId}{ky:Ky P kt K}{r:Rp K}{e:TypeId}
  (j:∀ {w:World}{G:Mem}{J:Array Value}{I:Ŀ K->Prop}{N:Nat},N<=small->sa G w->rz P g J ky.enc ky.ok I N w->Calls P f #[.slice none 0 0,.func (.func g) #[] J] w (me ⟨w,[]⟩ G (λG' L' v=>∃ xs p c tk,L'=[(7000,tk)]/\v = .slice p xs.length c/\Η r e G' v xs tk/\I xs)))
  (a:∀ {w:World}{H b:Nat}{es:Array MapEntry}{clock:Nat},w.cell? ⟨H,0,none⟩=some (.map (some b))->w.heap[b]? = some (.map es clock)->Stamped es clock->(∀ t ∈ es.toList,∃ x,ky.ok x/\t.key=ky.enc x)->
   rz P g #[.pointer (some ⟨H,0,none⟩)] ky.enc ky.ok (λxs=>∃ cons:Ŀ MapEntry,cons.Perm es.toList/\cons.map (·.key)=xs.map ky.enc) es.size w):kx P f #[.slice none 0 0] g ky r e:=by
 intro V Rv v D tk W kk E m w G hi n
 obtain⟨b,es,clock,rfl,rfl,Q,R,y,X⟩:=m
 have l:Lo.get [(kk,some (⟨b,.map es clock,0⟩:Ow))] kk=some ⟨b,.map es clock,0⟩:=by rw[Lo.Zn,Ă rfl]
 have S:=(hi.loc kk _ l).1
 have F:es.size<=small:=by have:=y.length; rw[Ĭ] at this; omega
 refine (j F hi.ls (a (hi.ls _ _ _ n) S Q (λt C=>?_))).mono ?_
 .obtain⟨p,hp,T,_⟩:=y.key t C
  exact⟨p.1,R p hp,T⟩
 rintro t w' ⟨u,G',L',L,U,xs,p,c,s,rfl,rfl,q,cons,A,B⟩
 refine⟨_,G',[(7000,s),(kk,_)],L,U.frame (L0:=[(kk,some ⟨b,.map es clock,0⟩)]) hi (λi x d=>?_),xs,p,c,s,rfl,rfl,q,?_⟩
 .rw[Lo.Zn] at d
  split at d
  .rename_i O; subst O; rw[Lo.Zn,Ā E.1]; rfl
  simp[Lo.get] at d
 refine WB (V:=V) (λh=>ky.inj h) ?_
 rw[<- B,<- y.keys]
 exact A.map _
theorem collect{f0 f g:FuncId}{fn:Func}{ky:Ky P kt K}{r:Rp K}{e:TypeId}{i0 I:Nat}{L O Q R:TypeId}{p2 p3 p4 p5:String}{a2 a3 a4 a5:Array Edge}{J:Array TypeId}(h:kx P f0 #[.slice none 0 0] g ky r e)(t:Enters P f0)
  (B:P.funcs[f]? = some fn) (A:fn.body=some (.seq (.region i0 #[⟨some 2,.assign (.const (.slice none 0 0)),L,p2,a2,none⟩] false)
   (.seq (.region I #[⟨some 3,.move (.tmp 0),O,p3,a3,none⟩,⟨some 4,.call ⟨.value (.func f0),#[.const (.slice none 0 0),.tmp 3],J⟩,Q,p4,a4,none⟩,⟨some 2,.assign (.tmp 4),R,p5,a5,none⟩] false) .ret)))
  (y:fn.ntmps=5) (E:fn.results = #[.tmp 2]):kx P f #[] g ky r e:=by
 intro V Rv v D tk s kk q a
 refine ò.enter (args:=[_]) (N:=5) B A y rfl (λw0 G0 n j=>?_)
 have H:w0.L.zero:=by rw[n]; intro p hp x G; simp only[ī] at hp; subst hp; exact a.zero G
 refine WC.seq (WC.region (WL.mZ Zf (Y0.assign rfl) rfl (WL.nil (WE.then (WC.seq (WC.region (WL.mZ Zf (Y0.move rfl) rfl ?_)))))))
 refine WL.lW Zf rfl (YC.of t rfl) (h Rv v D tk s kk q a) rfl j (Lo.tg _) H (λu G' L' C i=>?_)
 obtain⟨xs,p,c,m,rfl,rfl,l,d⟩:=i
 refine WL.mZ Zf (Y0.assign rfl) rfl (WL.nil (WE.then (WC.ret ?_)))
 refine WE.Ì (S':=St w0 G0 G' [(7000,m),(kk,tk)]) (λw F=>F.weaken (Lo.QY _ _)) ?_
 exact WE.mw E rfl ⟨xs,p,c,m,rfl,rfl,l,d⟩
theorem oB{f g:FuncId}{fn:Func}{t:TypeId}{i0 s:Nat}{v y A B:TypeId}{p1 p2 p3 p4:String}{a1 a2 a3 a4:Array Edge}
  (p:P.funcs[f]? = some fn) (l:fn.body=some (.seq (.region i0 #[⟨some 1,.box t (.tmp 0),v,p1,a1,none⟩,⟨some 2,.assign (.const .nilFunc),y,p2,a2,none⟩] false)
   (.seq (.region s #[⟨some 3,.makeFunc (.func g) #[] #[.tmp 1],A,p3,a3,none⟩,⟨some 2,.assign (.tmp 3),B,p4,a4,none⟩] false) .ret))) (h:fn.ntmps=4) (q:fn.results = #[.tmp 2]) (m:ŀ Nat) :
  ä P f #[.map m] (λ_=>True) (λG u=>∃ c,u = .func (.func g) #[] #[.pointer (some ⟨c,0,none⟩)]/\G c 0=some (.map m)):=by
 refine ä.enter (args:=[_]) (N:=4) p l h rfl (λw0 G0 d _=>?_)
 refine WC.seq (WC.region (WL.box 1 Zf rfl rfl (λc=>WL.mZ Zf (Y0.assign rfl) rfl (WL.nil (WE.then (WC.seq (WC.region (WL.mZ Zf (Y0.makeFunc rfl rfl) rfl (WL.mZ Zf (Y0.assign rfl) rfl (WL.nil (WE.then (WC.ret ?_)))))))))))) 
 intro a w j r
 obtain⟨e,C⟩:=r.q9 (i:=1) (n:=1) rfl (by rw[d]; rfl) (ġ _)
 refine (?_:WE 4 _ .ret _ (St w0 G0 (Mem.row G0 c #[Value.map m] 0 1) _)) a w j e
 exact WE.mw q rfl ⟨c,rfl,by rw[Mem.yc (ġ _) (by decide)]; rfl⟩
end
section
variable {P:Program}{K:Type}{kt:TypeId}
def pH(P:Program)(f g:FuncId)(ky:Ky P kt K)(r:Rp K)(e:TypeId)(h:Ŀ K->Cq (Ŀ K)):Prop:=
 ∀ {V:Type}(Rv:K->Value->V->Prop) (v:Value) (D:Ŀ (K×V)) (tk:ŀ Ow) (d kk:Nat) (Φ:Ŀ K->Prop),kk≠7000/\kk≠5000->ü ky Rv v D tk->(∀ ks,ks.Perm (D.map (·.1))->∃ y,(h ks).ο y/\Φ y)->
  ò P f #[.func (.func g) #[] #[.pointer (some ⟨d,0,none⟩)]] [(kk,tk)] (λG=>G d 0=some v) (λG L u=>∃ y p c a,L=[(7000,a),(kk,tk)]/\u = .slice p y.length c/\Η r e G u y a/\Φ y)
theorem sorted{f0 f1 f g:FuncId}{fn:Func}{ky:Ky P kt K}{r:Rp K}{e:TypeId}{O:Ŀ K->Cq (Ŀ K)}{i0 i1 i2 i3:Nat}{y2 y4 y5 y3 y6 y7 y8 y9:TypeId}{p2 p4 p5 p3 p6 p7 p8 p9:String}{a2 a4 a5 a3 a6 a7 a8 R:Array Edge}{ts tu:Array TypeId}(h:kx P f0 #[] g ky r e)
  (A:∀ xs p c tk y,(O xs).ο y->ò P f1 #[.slice p xs.length c] [(5000,tk)] (λG=>Η r e G (.slice p xs.length c) xs tk) (λG L v=>∃ C,L=[(5000,C)]/\v = .tuple #[]/\Η r e G (.slice p xs.length c) y C)) (W:Enters P f0) (E:Enters P f1)
  (Z:P.funcs[f]? = some fn) (Y:fn.body=some (.seq (.region i0 #[⟨some 2,.assign (.const (.slice none 0 0)),y2,p2,a2,none⟩] false)
   (.seq (.region i1 #[⟨some 4,.move (.tmp 0),y4,p4,a4,none⟩,⟨some 5,.call ⟨.value (.func f0),#[.tmp 4],ts⟩,y5,p5,a5,none⟩,⟨some 3,.assign (.tmp 5),y3,p3,a3,none⟩] false)
    (.seq (.region i2 #[⟨some 6,.move (.tmp 3),y6,p6,a6,none⟩,⟨some 7,.call ⟨.value (.func f1),#[.tmp 6],tu⟩,y7,p7,a7,none⟩] false)
     (.seq (.region i3 #[⟨some 8,.move (.tmp 3),y8,p8,a8,none⟩,⟨some 2,.assign (.tmp 8),y9,p9,R,none⟩] false) .ret)))))
  (X:fn.ntmps=9) (hr:fn.results = #[.tmp 2]):pH P f g ky r e O:=by
 intro V Rv v D tk S kk Φ d m F
 refine ò.enter (args:=[_]) (N:=9) Z Y X rfl (λw0 G0 n s=>?_)
 have J:w0.L.zero:=by rw[n]; intro p hp x hx; simp only[ī] at hp; subst hp; exact m.zero hx
 refine WC.seq (WC.region (WL.mZ Zf (Y0.assign rfl) rfl (WL.nil (WE.then (WC.seq (WC.region (WL.mZ Zf (Y0.move rfl) rfl ?_)))))))
 refine WL.lW Zf rfl (YC.of W rfl) (h Rv v D tk S kk d m) rfl s (Lo.tg _) J (λu G' L' aa a=>?_)
 obtain⟨xs,p,c,H,rfl,rfl,t,q⟩:=a
 obtain⟨y,hy,B⟩:=F xs q
 refine WL.mZ Zf (Y0.assign rfl) rfl (WL.nil (WE.then (WC.seq (WC.region (WL.mZ Zf (Y0.move rfl) rfl ?_)))))
 have U:w0.L.get 7000=none:=by rw[n,Lo.Zn,Ā d.1]; rfl
 have T:w0.L.get 5000=none:=by rw[n,Lo.Zn,Ā d.2]; rfl
 refine WL.Ì (λw A=>A.î (i:=7000) (j:=5000) rfl U) ?_
 refine WL.lW Zf rfl (YC.of E rfl) (A xs p c H y hy) rfl t (Lo.Ze rfl (Lo.Zs _)) J (λu Q L2 I a=>?_)
 obtain⟨C,rfl,rfl,l⟩:=a
 refine WL.nil (WE.then (WC.seq (WC.region (WL.mZ Zf (Y0.move rfl) rfl (WL.mZ Zf (Y0.assign rfl) rfl (WL.nil (WE.then (WC.ret ?_))))))))
 refine WE.Ì (S':=St w0 G0 Q [(7000,C),(kk,tk)]) (λw A=>(A.î (i:=5000) (j:=7000) rfl T).weaken (Lo.Ze rfl (Lo.Ze ?_ (Lo.Zs _)))) ?_
 .simp only[Lo.É,ė,ĵ,Ħ,Ņ,Lo.Zn,Ā (Ne.symm d.1),Ā (Ne.symm d.2),Ă]
 exact WE.mw hr rfl ⟨y,p,c,C,rfl,l.eqv,l,B⟩
end
theorem Lo.Ztr{R L:Lo}{i:Nat}{x:Ow}(h:R.get i=some x):Lo.get (R++L) i=some x:=by
 induction R with
 | nil=>simp[Lo.get] at h
 | cons p R a=>
  obtain⟨k,q⟩:=p
  simp only[Ħ]
  rw[Lo.Zn] at h ⊢
  split at h
  .rename_i e; rw[Ă e]; exact h
  rename_i e; rw[Ā e]; exact a h
theorem Lo.XW{R L:Lo}{i:Nat}(h:i ∉ R.map (·.1)):Lo.get (R++L) i=L.get i:=by
 induction R with
 | nil=>rfl
 | cons p R a=>
  obtain⟨k,q⟩:=p
  simp only[ė,ą,not_or] at h
  simp only[Ħ]
  rw[Lo.Zn,Ā (λe=>h.1 e.symm)]
  exact a h.2
theorem Lo.Rm{R:Lo}{i:Nat}{x:Ow}(h:R.get i=some x):i ∈ R.map (·.1):=by
 induction R with
 | nil=>simp[Lo.get] at h
 | cons p R a=>
  obtain⟨k,q⟩:=p
  rw[Lo.Zn] at h
  split at h
  .rename_i e; simp[e]
  simp only[ė,ą]; exact .inr (a h)
def sd(P:Program)(l:Nat)(u:Value)(c:Lo)(a:Mem->Prop)(post:Mem->Lo->Bool->Prop):Prop:=
 ∀ w G,Hp G c w->a G->YieldAt Fence.wide 0 P l #[u] w λe w'=>∃ b G' L',e = .returned (.bool b)/\Ext w G c w' G' L'/\post G' L' b
section
variable {P:Program}{N:Nat}{Q:õ}{fr:Fr}{S:Υ}{ops:Array Oper}{l:Ŀ Oper}{dst:ŀ Nat}{ty:TypeId}{pos:String}{af:Array Edge}{g:ŀ (Nat×Bool)}
variable {w0:Bs}{G0 G:Mem}{L:Lo}
def jy(P:Program)(N l:Nat)(c:Code)(Q:õ)(fr:Fr)(S:Υ):Prop:=∀ a w,Rel N fr a->S w->c.wpIn (Fence.wide.inRound l) 0 P Q a w
theorem Bc{K:Act->World->Prop}(h:¬ LetsOut Q):¬ LetsOut (Exit.then K Q):=λ⟨a,w,h'⟩=>h ⟨a,w,h'⟩
theorem xO{id:Nat}(h:¬ LetsOut Q):¬ LetsOut (Exit.inBlock id Q):=λ⟨a,w,h'⟩=>h ⟨a,w,h'⟩
section
variable {r:Nat}
theorem jy.seq{x y:Code}(h:jy P N r x (Exit.then (y.wpIn (Fence.wide.inRound r) 0 P Q) Q) fr S):jy P N r (.seq x y) Q fr S:=λa w c d=>wpIn_seq (h a w c d)
theorem jy.then{c:Code}(h:jy P N r c Q fr S):WE N (Exit.then (c.wpIn (Fence.wide.inRound r) 0 P Q) Q) .normal fr S:=h
theorem jy.skip(h:WE N Q .normal fr S):jy P N r .skip Q fr S:=λa w c d=>wpIn_skip (h a w c d)
theorem jy.exit{id:Nat}(h:WE N Q (.exit id) fr S):jy P N r (.exit id) Q fr S:=λa w c d=>wpIn_exit (h a w c d)
theorem jy.block{id:Nat}{c:Code}(h:jy P N r c (Exit.inBlock id Q) fr S):jy P N r (.block id c) Q fr S:=λa w d e=>wpIn_block (h a w d e)
theorem jy.region{id:Nat}{l:Ŀ Oper}(d:¬ LetsOut Q)(g:l.all (λo=>match o.op with | .defer _=>false|_=>true)=true)(h:WL P N l.toArray Q l fr S):jy P N r (.region id l.toArray false) Q fr S:=λa w f j=>
 HA d (λo i c e=>by have:=Ĕ.1 g o i; rw[e] at this; cases this) (h a w f j)
theorem jy.iD{c:Operand}{x y:Code}{p:Prop}[Decidable p](e:fr.ev c=some (.bool (decide p)))(i:p->jy P N r x Q fr S)(g:¬ p->jy P N r y Q fr S):jy P N r (.cond c x y) Q fr S:=λa w d f=>by
 by_cases h:p
 .exact wpIn_cond_true (by rw[d.ev e,ē h]) (i h a w d f)
 exact wpIn_cond_false (by rw[d.ev e,ċ h]) (g h a w d f)
end
theorem Ext.weaken{w w':World}{G':Mem}{d e f:Lo}(h:Ext w G d w' G' e)(c:Lo.sub f e):Ext w G d w' G' f:=
 { h with loc:=λi x m=>h.loc i x (c i x m),gY:=λi j x y a g l=>h.gY i j x y a (c _ _ g) (c _ _ l) }
def ta(w0:Bs)(G:Mem)(l:Nat)(r:Loop)(post:Mem->Lo->Bool->Prop):õ:=λe _ w=>match e with
 | .normal=>∃ c a d,St w0 G c a w/\a.get 8001=some ⟨l,.loop { r with state:=.busy },0⟩/\Lo.sub d ((8001,some ⟨l,.loop r,0⟩)::a)/\post c d true
 | .ret=>∃ c a d,St w0 G c a w/\a.get 8001=some ⟨l,.loop { r with state:=.busy },0⟩/\Lo.sub d ((8001,some ⟨l,.loop { r with state:=.done,pending:=some .ret },0⟩)::a)/\post c d false
 | _=>False
theorem xP{l:Nat}{r:Loop}{post:Mem->Lo->Bool->Prop}:¬ LetsOut (ta w0 G l r post):=λ⟨_,_,h⟩=>h
theorem NJ{K:Act->World->Prop}:¬ LetsOut (Exit.then K λ_ _ _=>False):=λ⟨_,_,h⟩=>h
theorem sd.Qr{r:Loop}{l t:Nat}{u:Value}{B:Lo}{I:Mem->Prop}{post:Mem->Lo->Bool->Prop}(Y:B.get 8001=some ⟨l,.loop r,0⟩)(A:r.state = .ready)(D:r.pending=none)(E:r.params = #[t])(F:Rel N fr ⟨r.tmps.setIfInBounds t u,[]⟩)
  (h:∀ w0 G,w0.L=B->I G->jy P N l r.assign (Exit.then (λa w=>∃ v K J,Rel N v a/\St w0 G K J w/\J.get 8001=some ⟨l,.loop r,0⟩/\
   jy P N l r.body (ta w0 G l r post) v (St w0 G K ((8001,some ⟨l,.loop { r with state:=.busy },0⟩)::J))) λ_ _ _=>False) fr (St w0 G G B)):sd P l u B I post:=by
 intro w G T hp
 have X:=(T.loc 8001 _ Y).1
 refine⟨r.fn,r.tmps.setIfInBounds t u,r.assign,r.body,?_,?_⟩
 .have:=run_yield (P:=P) (args:=#[u]) X (by rw[E]; rfl)
  rw[E] at this
  simpa using this
 refine roundIn_of_wpIn trivial (abb (λe a w' i=>?_) (h ⟨w,B⟩ G rfl hp _ w F T.st))
 cases e with
 | normal=>
  obtain⟨v,K,J,Q,H,C,Z⟩:=i
  have R:=(H.loc 8001 _ C).1
  refine⟨_,run_beginRound R A,?_⟩
  have S:=H.lT (r':={ r with state:=.busy }) C
  refine abb (λe a w' i=>?_) (Z a _ Q S)
  cases e with
  | normal=>
   obtain⟨L,U,O,m,j,n,g⟩:=i
   have y:=(m.loc 8001 _ j).1
   refine⟨_,_,run_endRound none y,true,L,O,rfl,?_,g⟩
   have q:=m.lT (r':={ { r with state:=.busy } with state:=if (none:ŀ Code).isNone then .ready else .done,pending:=none }) j
   have W:({ { r with state:=.busy } with state:=if (none:ŀ Code).isNone then .ready else .done,pending:=none }:Loop)=r:=by
    obtain⟨s,p,f,t,ps,V,bo,d⟩:=r
    simp only at A D
    subst A D
    rfl
   rw[W] at q ⊢
   exact q.mE.weaken n
  | ret=>
   obtain⟨L,U,O,m,j,n,g⟩:=i
   have y:=(m.loc 8001 _ j).1
   refine⟨_,_,run_endRound (some .ret) y,false,L,O,rfl,?_,g⟩
   have q:=m.lT (r':={ { r with state:=.busy } with state:=if (some Code.ret).isNone then .ready else .done,pending:=some .ret }) j
   exact q.mE.weaken n
  | exit id=>exact i.elim
  | goto t=>exact i.elim
  | panic c=>exact i.elim
  | outgrown=>exact i.elim
 | ret=>exact i.elim
 | exit id=>exact i.elim
 | goto t=>exact i.elim
 | panic c=>exact i.elim
 | outgrown=>exact i.elim
end
section
variable {P:Program}{N:Nat}{Q:õ}{fr:Fr}{ops:Array Oper}{l:Ŀ Oper}{fn:Func}{w0:Bs}{G0 G:Mem}{L:Lo}{ty:TypeId}{pos:String}{af:Array Edge}{g:ŀ (Nat×Bool)}{S:Υ}
def AL(fn:Func)(P:Program)(w0:Bs)(G0:Mem)(d:Nat)(post:Mem->Value->Prop)(tmps:Array Value)(w:World):Prop:=
 ∃ a c v,St w0 G0 a c w/\c.get 8002=some ⟨d,.deferred (some []),0⟩/\(∀ w',St w0 G0 a ((8002,some ⟨d,.deferred none,0⟩)::c) w'->(results fn tmps).run P w' = .ok v w')/\post a v
theorem AL.of{rvs:Ŀ ResultVar}{d:Nat}{post:Mem->Value->Prop}{a:Act}{w:World}(vs:Ŀ Value)(m:fn.results=rvs.toArray)(l:rvs.length=vs.length)(n:St w0 G0 G L w)(g:Rel N fr a)(j:L.get 8002=some ⟨d,.deferred (some []),0⟩)
  (h:∀ (i:Nat) (rv:ResultVar) (v:Value),rvs[i]? = some rv->vs[i]? = some v->RV P fr ((8002,some ⟨d,.deferred none,0⟩)::L) rv v) (hp:post G (if h:vs.toArray.size=1 then vs.toArray[0] else .tuple vs.toArray)):AL fn P w0 G0 d post a.tmps w:=
 ⟨G,L,_,n,j,λ_ c=>HZ m l (λi rv v e f=>(h i rv v e f).run g c),hp⟩
theorem Rel.round{a:Act}{t:Nat}{u:Value}(c:Rel N fr a)(d:t<N):Rel N ((t,u)::fr) ⟨a.tmps.setIfInBounds t u,[]⟩:=by
 have h:=c.put u d
 have e:a.put (some t) u=⟨a.tmps.setIfInBounds t u,[]⟩:=by simp[Act.put,c.defers]
 rw[e] at h
 exact h
end
section
variable {P:Program}{N:Nat}{Q:õ}{fr:Fr}{Bt:Υ}{w0:Bs}{G0 G:Mem}{L:Lo}{ops:Array Oper}{fs:Ŀ Bool}{l:Ŀ Oper}{Χ:Fr}{Ω:mK}
def sc{α:Type}(r:Rp α)(e:TypeId)(mk:ŀ Addr->Nat->Value)(d:Nat)(xs:Ŀ α):Value->Gx->Prop:=λv g=>∃ p c tk,v=mk p c/\Η r e g.m (.slice p xs.length c) xs tk/\∀ y,tk=some y->g.x y.b=some (d,y.o)
variable {α:Type}{r:Rp α}{e:TypeId}{mk:ŀ Addr->Nat->Value}{d:Nat}{xs:Ŀ α}
theorem sc.mono{v:Value}{g g':Gx}(a:Gx.sB d g g'):sc r e mk d xs v g->sc r e mk d xs v g':=λ⟨p,c,tk,f,h,i⟩=>⟨p,c,tk,f,h.mono a.1,λy j=>a.2 _ _ (i y j)⟩
theorem sc.drop{d':Nat}{v:Value}{g:Gx}{tk:ŀ Ow}(h:sc r e mk d xs v g)(a:Nat.beq d d'=false)(n:∀ y,tk=some y->g.x y.b=some (d',y.o)):sc r e mk d xs v (g.drop tk):=by
 obtain⟨p,c,f,j,l,m⟩:=h
 obtain⟨p',c',i,q,s,t⟩:=kZ.drop (v:=.slice p xs.length c) ⟨p,c,f,rfl,l,m⟩ a n
 cases q
 exact⟨p,c,i,j,s,t⟩
end
section
variable {P:Program}{N:Nat}{Q:õ}{fr:Fr}{S:Υ}{ops:Array Oper}{l:Ŀ Oper}
def sR(ops:Array Oper)(fr:Fr)(N j:Nat)(c:Bool)(a:Ŀ (ŀ Nat)):Bool:=
 match (ops[j]?).bind (·.dst) with
 | some d=>(match fr.get d with|some (.bool v)=>v == !c|_=>false) && a.all λx=>match x with|some t=>Nat.blt t N && !(Nat.beq t d)|none=>true
 | none=>false
theorem ZtX{j:Nat}{c:Bool}{g:Ŀ (ŀ Nat)}(h:sR ops fr N j c g=true):∃ d,(ops[j]?).bind (·.dst)=some d/\fr.get d=some (.bool (!c))/\∀ x ∈ g,è N x/\x≠some d:=by
 unfold sR at h
 split at h
 .rename_i d i
  rw[Ē,Ĕ] at h
  refine⟨d,i,?_,λx m=>?_⟩
  .have a:=h.1
   split at a
   .rename_i v l
    rw[l,abc.1 a]
   cases a
  have f:=h.2 x m
  cases x with
  | none=>exact⟨trivial,by simp⟩
  | some t=>
   rw[Ē] at f
   refine⟨f.1,λe=>?_⟩
   cases e
   have:=f.2
   simp at this
 cases h
theorem ZuY{d:Nat}{x:ŀ Nat}{v:Value}(h:x≠some d):(ξ x v fr).get d=fr.get d:=by
 cases x with
 | none=>rfl
 | some t=>
  show (bif Nat.beq t d then some v else fr.get d)=_
  have:Nat.beq t d=false:=by
   cases a:Nat.beq t d with
   | false=>rfl
   | true=>exact absurd (by rw[ŏ a]) h
  rw[this]; rfl
theorem yK{j d:Nat}{c:Bool}{dst:ŀ Nat}{op:Op}{ty:TypeId}{pos:String}{af:Array Edge}(a:(ops[j]?).bind (·.dst)=some d)(e:fr.get d=some (.bool (!c)))(f:è N dst)(k:WL P N ops Q l (ξ dst undef fr) S):WL P N ops Q (⟨dst,op,ty,pos,af,some (j,c)⟩::l) fr S:=WL.skip (Zts a e) f k
theorem mA{j:Nat}{c:Bool}{x:ŀ Nat}{a:Ŀ (ŀ Nat)}{op:Op}{ty:TypeId}{pos:String}{af:Array Edge}(h:sR ops fr N j c (x::a)=true)(k:sR ops (ξ x undef fr) N j c a=true->WL P N ops Q l (ξ x undef fr) S):WL P N ops Q (⟨x,op,ty,pos,af,some (j,c)⟩::l) fr S:=by
 obtain⟨d,e,g,i⟩:=ZtX h
 have f:=i x (by simp)
 refine yK e g f.1 (k ?_)
 unfold sR at h ⊢
 rw[e] at h ⊢
 simp only[abl,Ē] at h ⊢
 rw[ZuY f.2]
 exact⟨h.1,h.2.2⟩
variable {j:Nat}{c:Bool}{d0 d1 d2 d3 d4 d5 d6 d7 d8:ŀ Nat}{o0 o1 o2 o3 o4 o5 o6 o7 o8:Op}{t0 t1 t2 t3 t4 t5 t6 t7 t8:TypeId}{p0 p1 p2 p3 p4 p5 p6 p7 p8:String}{a0 a1 a2 a3 a4 a5 a6 a7 a8:Array Edge}
theorem lk(h:sR ops fr N j c [d0,d1]=true)(k:WL P N ops Q l (ξ d1 undef (ξ d0 undef fr)) S):WL P N ops Q (⟨d0,o0,t0,p0,a0,some (j,c)⟩::⟨d1,o1,t1,p1,a1,some (j,c)⟩::l) fr S:=mA h λh=>mA h λ_=>k
theorem lu(h:sR ops fr N j c [d0,d1,d2]=true)(k:WL P N ops Q l (ξ d2 undef (ξ d1 undef (ξ d0 undef fr))) S):WL P N ops Q (⟨d0,o0,t0,p0,a0,some (j,c)⟩::⟨d1,o1,t1,p1,a1,some (j,c)⟩::⟨d2,o2,t2,p2,a2,some (j,c)⟩::l) fr S:=mA h λh=>lk h k
theorem ke(h:sR ops fr N j c [d0,d1,d2,d3]=true)(k:WL P N ops Q l (ξ d3 undef (ξ d2 undef (ξ d1 undef (ξ d0 undef fr)))) S):WL P N ops Q (⟨d0,o0,t0,p0,a0,some (j,c)⟩::⟨d1,o1,t1,p1,a1,some (j,c)⟩::⟨d2,o2,t2,p2,a2,some (j,c)⟩::⟨d3,o3,t3,p3,a3,some (j,c)⟩::l) fr S:=mA h λh=>lu h k
theorem pd(h:sR ops fr N j c [d0,d1,d2,d3,d4]=true)(k:WL P N ops Q l (ξ d4 undef (ξ d3 undef (ξ d2 undef (ξ d1 undef (ξ d0 undef fr))))) S):WL P N ops Q (⟨d0,o0,t0,p0,a0,some (j,c)⟩::⟨d1,o1,t1,p1,a1,some (j,c)⟩::⟨d2,o2,t2,p2,a2,some (j,c)⟩::⟨d3,o3,t3,p3,a3,some (j,c)⟩::⟨d4,o4,t4,p4,a4,some (j,c)⟩::l) fr S:=mA h λh=>ke h k
theorem qK(h:sR ops fr N j c [d0,d1,d2,d3,d4,d5]=true)(k:WL P N ops Q l (ξ d5 undef (ξ d4 undef (ξ d3 undef (ξ d2 undef (ξ d1 undef (ξ d0 undef fr)))))) S):WL P N ops Q (⟨d0,o0,t0,p0,a0,some (j,c)⟩::⟨d1,o1,t1,p1,a1,some (j,c)⟩::⟨d2,o2,t2,p2,a2,some (j,c)⟩::⟨d3,o3,t3,p3,a3,some (j,c)⟩::⟨d4,o4,t4,p4,a4,some (j,c)⟩::⟨d5,o5,t5,p5,a5,some (j,c)⟩::l) fr S:=mA h λh=>pd h k
theorem yM(h:sR ops fr N j c [d0,d1,d2,d3,d4,d5,d6]=true)(k:WL P N ops Q l (ξ d6 undef (ξ d5 undef (ξ d4 undef (ξ d3 undef (ξ d2 undef (ξ d1 undef (ξ d0 undef fr))))))) S):WL P N ops Q (⟨d0,o0,t0,p0,a0,some (j,c)⟩::⟨d1,o1,t1,p1,a1,some (j,c)⟩::⟨d2,o2,t2,p2,a2,some (j,c)⟩::⟨d3,o3,t3,p3,a3,some (j,c)⟩::⟨d4,o4,t4,p4,a4,some (j,c)⟩::⟨d5,o5,t5,p5,a5,some (j,c)⟩::⟨d6,o6,t6,p6,a6,some (j,c)⟩::l) fr S:=mA h λh=>qK h k
theorem sn8(h:sR ops fr N j c [d0,d1,d2,d3,d4,d5,d6,d7]=true)(k:WL P N ops Q l (ξ d7 undef (ξ d6 undef (ξ d5 undef (ξ d4 undef (ξ d3 undef (ξ d2 undef (ξ d1 undef (ξ d0 undef fr)))))))) S):WL P N ops Q (⟨d0,o0,t0,p0,a0,some (j,c)⟩::⟨d1,o1,t1,p1,a1,some (j,c)⟩::⟨d2,o2,t2,p2,a2,some (j,c)⟩::⟨d3,o3,t3,p3,a3,some (j,c)⟩::⟨d4,o4,t4,p4,a4,some (j,c)⟩::⟨d5,o5,t5,p5,a5,some (j,c)⟩::⟨d6,o6,t6,p6,a6,some (j,c)⟩::⟨d7,o7,t7,p7,a7,some (j,c)⟩::l) fr S:=mA h λh=>yM h k
end
section
variable {P:Program}{N:Nat}{Q:õ}{fr:Fr}{S:Υ}{ops:Array Oper}{l:Ŀ Oper}{dst:ŀ Nat}{ty:TypeId}{pos:String}{af:Array Edge}{g:ŀ (Nat×Bool)}{w0:Bs}{G0 G:Mem}{L:Lo}
theorem Xg{t:TypeId}{c a:Field}{k:IntKind}(m:P.underlying t=some (.struct #[c,a]))(s:ê P c.type)(y:ê P a.type)(q:P.underlying c.type=some (.int k))(r:P.underlying a.type=some .string)(hp:P.stoodInHeld t=false)
  (d:(c.name≠"_"/\c.offset=0)/\a.name≠"_"/\a.offset=1) (i j:Int) (u v:Ĳ) (w:World) :
  (Op.equalIn (9999+1) t (.agg #[.int k i,.string u]) (.agg #[.int k j,.string v])).run P w = .ok (decide (i=j/\u=v)) w:=by
 have l:P.fieldsOf t = #[c,a]:=by simp[Program.fieldsOf,m]
 rw[run_equalIn_struct w 9999 t _ _ (by rw[l]; exact m) hp,l]
 have p1:∀ i u,(part c.type #[.int k i,.string u] c.offset).run P w = .ok (.int k i) w:=λi u=>A5 s (by rw[d.1.2]; rfl) w
 have p2:∀ i u,(part a.type #[.int k i,.string u] a.offset).run P w = .ok (.string u) w:=λi u=>A5 y (by rw[d.2.2]; rfl) w
 have n:=run_equalIn_int (P:=P) w 9998 c.type k k i j q
 have e:=run_equalIn_string (P:=P) w 9998 a.type u v r
 rw[J3] at e
 simp only[Op.eqFields,Ă d.1.1,Ă d.2.1,aaD,p1,p2,gf,n,e]
 have f:(i == j)=decide (i=j):=Ro i j
 have p:(Op.equalIn 9999 a.type (.string u) (.string v)).run P w = .ok (decide (u=v)) w:=e
 rw[f]
 by_cases g:i=j
 .simp only[g,decide_true,abN,Ŏ,aad,aaD,p2,gf,p,true_and]
  by_cases h:u=v
  .simp[h]
  simp[h]
 simp[g]
theorem Y0.CM{t yt:TypeId}{x y:Operand}{a c:Field}{k:IntKind}{i j:Int}{u v:Ĳ}(m:P.underlying t=some (.struct #[a,c]))(q:ê P a.type)(r:ê P c.type)(e:P.underlying a.type=some (.int k))(f:P.underlying c.type=some .string)(hp:P.stoodInHeld t=false)(h:P.eqGuardType P.depth t=false)
  (l:(a.name≠"_"/\a.offset=0)/\c.name≠"_"/\c.offset=1) (n:fr.ev x=some (.agg #[.int k i,.string u])) (p:fr.ev y=some (.agg #[.int k j,.string v])):Y0 P N ⟨dst,.binOp .neq t x y yt,ty,pos,af,g⟩ fr S (.bool (decide (¬ (i=j/\u=v)))):=
 Y0.bin n p (λw=>abx w _ _ _ _ _ _ h) λw=>by
  rw[run_neq_struct,Xg m q r e f hp l]
  by_cases d:i=j/\u=v <;> simp[d,Result.andThen]
theorem WC.yZ{c:Code}(h:WC P N c (Exit.then (jf P c Q) Q) fr S):WC P N (.loop c) Q fr S:=λa w d e=>(jf.fold (h a w d e)).wp
theorem WE.again{c:Code}(h:WC P N c (Exit.then (jf P c Q) Q) fr S):WE N (Exit.then (jf P c Q) Q) .normal fr S:=λa w d e=>jf.fold (h a w d e)
theorem YC.Li{f:FuncId}{x:Operand}{args:Array Operand}{c:Array TypeId}{vs:Ŀ Value}{d:Value}(i:Enters P f)(l:fr.ev x=some (.func (.func f) #[d] #[]))(j:fr.nX args.toList=some vs):
  YC P N ⟨dst,.call ⟨.value x,args,c⟩,ty,pos,af,g⟩ fr S f (d::vs).toArray:=λa w e _=>by
 have h:args.map a.eval=vs.toArray:=by apply fj; simpa using e.nX _ _ j
 simpa [execOp,resolve,h,e.ev l,Deferred.ofValue,invoke] using i (d::vs).toArray w
end
section
variable {P:Program}{kt:TypeId}{K V:Type} [DecidableEq K] {ky:Ky P kt K}{r:Rp V}
variable {N:Nat}{Q:õ}{fr:Fr}{S:Υ}{ops:Array Oper}{l:Ŀ Oper}{dst:ŀ Nat}{ty:TypeId}{pos:String}{af:Array Edge}{g:ŀ (Nat×Bool)}{w0:Bs}{G0 G:Mem}{L:Lo}
theorem WL.rO{t f:TypeId}{m x:Operand}{v:Value}{zc:Ŀ Value}{z:V}{D:Ŀ (K×V)}{tk:ŀ Ow}{k:K}(key:Nat)(q:κ ops fr ⟨dst,.lookup t m x false,ty,pos,af,g⟩ true)(p:è N dst)(B:P.underlying t=some (.map kt f))(F:∀ w,(zeroValue f).run P w = .ok (.agg zc.toArray) w)
  (d:r.jJ G zc z) (h:ü ky (kp r G) v D tk) (a:L.get key=tk) (A:fr.ev m=some v) (E:fr.ev x=some (ky.enc k)) (s:ky.ok k)
  (kk:∀ cs,r.jJ G cs ((Å D k).getD z)->WL P N ops Q l (ξ dst (.agg cs.toArray) fr) (St w0 G0 G L)):WL P N ops Q (⟨dst,.lookup t m x false,ty,pos,af,g⟩::l) fr (St w0 G0 G L):=by
 refine WL.pY (R:=λu=>∃ cs,u = .agg cs.toArray/\r.jJ G cs ((Å D k).getD z)) key false q p B F h a A E s (λi=>?_) (λval y j n=>?_) (λu C=>?_)
 .rw[i]; exact⟨zc,rfl,d⟩
 .rw[j]; obtain⟨cs,e,c⟩:=n; exact⟨cs,e,c⟩
 obtain⟨cs,rfl,c⟩:=C; exact kk cs c
theorem WL.vD{t f:TypeId}{m x:Operand}{v:Value}{zc:Ŀ Value}{z:V}{D:Ŀ (K×V)}{tk:ŀ Ow}{k:K}(key:Nat)(q:κ ops fr ⟨dst,.lookup t m x true,ty,pos,af,g⟩ true)(p:è N dst)(B:P.underlying t=some (.map kt f))(F:∀ w,(zeroValue f).run P w = .ok (.agg zc.toArray) w)
  (d:r.jJ G zc z) (h:ü ky (kp r G) v D tk) (a:L.get key=tk) (A:fr.ev m=some v) (E:fr.ev x=some (ky.enc k)) (s:ky.ok k)
  (kk:∀ cs,r.jJ G cs ((Å D k).getD z)->WL P N ops Q l (ξ dst (.tuple #[.agg cs.toArray,.bool (Å D k).isSome]) fr) (St w0 G0 G L)):WL P N ops Q (⟨dst,.lookup t m x true,ty,pos,af,g⟩::l) fr (St w0 G0 G L):=by
 refine WL.pY (R:=λu=>∃ cs,u = .tuple #[.agg cs.toArray,.bool (Å D k).isSome]/\r.jJ G cs ((Å D k).getD z)) key true q p B F h a A E s (λi=>?_) (λval y j n=>?_) (λu C=>?_)
 .rw[i]; exact⟨zc,rfl,d⟩
 .rw[j]; obtain⟨cs,e,c⟩:=n; exact⟨cs,by rw[e]; rfl,c⟩
 obtain⟨cs,rfl,c⟩:=C; exact kk cs c
variable {fs:Ŀ Bool}{Χ:Fr}{Ω:mK}{d:Nat}{op:Op}
def oC(ky:Ky P kt K)(r:Rp V)(d:Nat)(D:Ŀ (K×V)):Value->Gx->Prop:=λv g=>∃ b tk,v = .map (some b)/\ü ky (kp r g.m) (.map (some b)) D tk/\∀ y,tk=some y->g.x y.b=some (d,y.o)
omit [DecidableEq K] in
theorem oC.mono{v:Value}{D:Ŀ (K×V)}{g g':Gx}(a:Gx.sB d g g'):oC ky r d D v g->oC ky r d D v g':=λ⟨b,tk,c,e,f⟩=>⟨b,tk,c,e.rP a.1,λy h=>a.2 _ _ (f y h)⟩
omit [DecidableEq K] in
theorem oC.drop{d':Nat}{v:Value}{D:Ŀ (K×V)}{g:Gx}{tk:ŀ Ow}(h:oC ky r d D v g)(a:Nat.beq d d'=false)(l:∀ y,tk=some y->g.x y.b=some (d',y.o)):oC ky r d D v (g.drop tk):=
 h.mono (g':=g.drop tk) ⟨(λ_ _ _ h=>h:Mem.le g.m g.m),λb o c=>by
  have j:¬ tk.any (λy=>Nat.beq y.b b)=true:=λi=>by
   obtain⟨y,e,f⟩:=wu.1 i
   have:=l y e
   rw[f,c] at this
   cases this
   simp at a
  simp only[Gx.drop,Ā j]
  exact c⟩
omit [DecidableEq K] in
theorem η.oJ{Bt:Υ}{f:FuncId}(D:Ŀ (K×V))(C:∀ u,κ ops (ψ Ω u++(Χ++fr)) ⟨some d,op,ty,pos,af,g⟩ true)
  (h:∀ u (G':Gx),Mem.le G G'.m->ô ops ⟨some d,op,ty,pos,af,g⟩ Ω u G'->∃ args c e,(∀ S,YC P N ⟨some d,op,ty,pos,af,g⟩ (ψ Ω u++(Χ++fr)) S f c)/\ò P f args [] e (λG L v=>∃ b tk,L=[(7000,tk)]/\v = .map (some b)/\ü ky (kp r G) (.map (some b)) D tk)/\c=args/\e G'.m)
  (k:η P N Q fr w0 G0 G L ops Bt fs l Χ ((d,oC ky r d D)::Ω)):η P N Q fr w0 G0 G L ops Bt (false::fs) (⟨some d,op,ty,pos,af,g⟩::l) Χ Ω:=
 η.q6 d (oC ky r d D) rfl (λv _ _ h=>oC.mono h) (λu g m E=>by
  obtain⟨args,c,e,q,s,t,A⟩:=h u g m.1 E
  subst t
  refine .inr ⟨C u,λa w B n=>?_⟩
  rw[q _ a w B n]
  refine (s w g.m (n.st.hp (Lo.Zs _)) A).mono λe' w' ⟨v,G',L',H,I,b,tk,J,O,p⟩=>⟨v,H,?_⟩
  subst J
  have F:∀ y,tk=some y->y.m=0:=λy j=>p.zero j
  obtain⟨R,T⟩:=n.vy (d:=d) (k:=none) I (λi y hi=>by simp[Lo.get] at hi) F
  exact⟨_,T.le,R,b,tk,O,p,λy j=>by simp only[Gx.nK]; rw[Ă (wu.2 ⟨y,j,rfl⟩),j]; rfl⟩) k
omit [DecidableEq K] in
theorem WL.qW{X:Gx}{v:Value}{D:Ŀ (K×V)}(h:oC ky r d D v X)
  (k:∀ b tk,v = .map (some b)->ü ky (kp r X.m) (.map (some b)) D tk->(∀ y,tk=some y->X.x y.b=some (d,y.o))->WL P N ops Q l fr (jO w0 G0 (X.drop tk) ((d,tk)::L))):WL P N ops Q l fr (jO w0 G0 X L):=λa w g i=>by
 obtain⟨b,tk,f,c,e⟩:=h
 exact k b tk f c e a w g (i.nR (λy j=>c.zero j) e)
end
def Rp.sC:Rp Nat:=⟨1,λ_ cs b=>cs=[.map (some b)],λh=>by rw[h]; rfl,λ_ h=>h,λh u a=>by rw[h] at a; simp at a; subst a; rfl⟩
theorem AtK.sC{G:Mem}{K:Nat->Value->Prop}{o:Nat}{x:Nat}(h:AtK Rp.sC G K o x):K o (.map (some x)):=by
 obtain⟨c,a,d⟩:=h
 have a:c=[.map (some x)]:=a
 subst a
 exact d 0 _ rfl
def sF{a:Nat}{α:Type}{n:Nat}(b:Nat)(f:Fin n->α)(i:Int)(x:Fin a->α)(c:0<a:=by decide):Fin n->α:=λj=>if j.val / b=i.toNat then x ⟨j.val % a,abP _ c⟩ else f j
theorem Q0{a b:Nat}{i:Int}(h:0<=i/\i<(a:Int)){α:Type}{mk:α->Value}{f:Fin (a*b)->α}:i.toNat*b+b<=(í mk (a*b) f).toArray.size:=by
 rw[ĥ,uG]
 have c:i.toNat+1<=a:=by omega
 have:=ga b c
 rw[ŋ,abK] at this
 exact this
theorem Zt7{a b:Nat}{α:Type}(mk:α->Value)(f:Fin (a*b)->α)(x:Fin b->α){i:Int}(h:0<=i/\i<(a:Int))(l:0<b:=by decide):
  ((í mk (a*b) f).toArray.toList.take (i.toNat*b)++(í mk b x).toArray.toList++(í mk (a*b) f).toArray.toList.drop (i.toNat*b+b)).toArray=(í mk (a*b) (sF b f i x l)).toArray:=by
 have q:i.toNat*b+b<=a*b:=by
  have:=Q0 h (mk:=mk) (f:=f) (b:=b)
  rwa [ĥ,uG] at this
 have d:((í mk (a*b) f).toArray.toList.take (i.toNat*b)).length=i.toNat*b:=by
  rw[Đ,Ĭ,ĥ,uG]
  exact aae (by omega)
 have g:(í mk b x).toArray.toList.length=b:=by rw[Ĭ,ĥ,uG]
 have c:((í mk (a*b) f).toArray.toList.drop (i.toNat*b+b)).length=a*b-(i.toNat*b+b):=by rw[Ž,Ĭ,ĥ,uG]
 congr 1
 apply fF
 intro j
 by_cases n:j<a*b
 .rw[th mk _ _ n]
  simp only[sF]
  by_cases m:j<i.toNat*b
  .have c:¬ j / b=i.toNat:=by
    intro e
    have:=(Nat.div_lt_iff_lt_mul l).2 m
    omega
   rw[ď,ĕ (by rw[d]; exact m),Ň,Ă m,Ā c]
   exact th mk _ _ n
  by_cases p:j<i.toNat*b+b
  .have c:j / b=i.toNat:=by
    apply Nat.div_eq_of_lt_le
    .omega
    rw[ŋ,abK]; exact p
   have r:j % b=j-i.toNat*b:=by
    have:=aby j b
    rw[c,aaE] at this
    omega
   rw[ĕ (by rw[ā,d,g]; omega),Ī (by rw[d]; omega),d,Ă c]
   exact (th mk b x (i:=j-i.toNat*b) (by omega)).trans (ć (λz=>some (mk (x z))) (gg r.symm))
  have c:¬ j / b=i.toNat:=by
   intro e
   have:=aby j b
   have s:=abP j l
   rw[e,aaE] at this
   omega
  rw[Ī (by rw[ā,d,g]; omega),Ā c,ā,d,g,List.getElem?_drop,show i.toNat*b+b+(j-(i.toNat*b+b))=j by omega]
  exact th mk _ _ n
 rw[Ĺ (by rw[ā,ā,d,g,c]; omega),Ĺ (by rw[uG]; omega)]
theorem Zt8{a b:Nat}{α:Type}[Inhabited α](mk:α->Value)(f:Fin (a*b)->α){i k:Int}(h:0<=i/\i<(a:Int))(g:0<=k/\k<(b:Int)):(í mk (a*b) f).toArray[i.toNat*b+k.toNat]? = some (mk (Κ f (i*b+k))):=by
 have d:i.toNat+1<=a:=by omega
 have e:=ga b d
 rw[ŋ,abK] at e
 have c:i*(b:Int)+k=((i.toNat*b+k.toNat:Nat):Int):=by
  rw[Int.natCast_add,abz,aaX h.1,aaX g.1]
 have:=BQ mk (a*b) f (i:=i*(b:Int)+k) (by rw[c]; omega)
 rwa [show (i*(b:Int)+k).toNat=i.toNat*b+k.toNat by rw[c]; rfl] at this
section
variable {P:Program}{N:Nat}{fr:Fr}{S:Υ}{dst:ŀ Nat}{ty:TypeId}{pos:String}{af:Array Edge}{g:ŀ (Nat×Bool)}
theorem Y0.rM{t e:TypeId}{x y:Operand}{len b sz:Nat}{k:IntKind}{i:Int}(c:P.underlying t=some (.array len e))(a:(P.info? e).map (·.size)=some sz)
  (d:fr.ev x=some (.pointer (some ⟨b,0,none⟩))) (f:fr.ev y=some (.int k i)) (hi:0<=i/\i<len):Y0 P N ⟨dst,.indexAddr t x y,ty,pos,af,g⟩ fr S (.pointer (some ⟨b,i.toNat*sz,none⟩)):=
 Y0.eq (Y0.oQ c a d f hi) (by rw[ļ])
theorem Y0.tS{t e:TypeId}{x y:Operand}{len b off:Nat}{k:IntKind}{i:Int}(c:P.underlying t=some (.array len e))(a:(P.info? e).map (·.size)=some 1)
  (d:fr.ev x=some (.pointer (some ⟨b,off,none⟩))) (f:fr.ev y=some (.int k i)) (hi:0<=i/\i<len):Y0 P N ⟨dst,.indexAddr t x y,ty,pos,af,g⟩ fr S (.pointer (some ⟨b,off+i.toNat,none⟩)):=
 Y0.eq (Y0.oQ c a d f hi) (by rw[gd])
end
def Cq.given{α β:Type}(q:α->Prop)(k:α->Cq β):Cq β:=⟨λp=>∃ a,q a/\(k a).wp p,λh ⟨a,c,d⟩=>⟨a,c,(k a).mono h d⟩,λ_=>none,λ_ _ h=>by cases h⟩
theorem ò.absurd{P:Program}{f:FuncId}{args:Array Value}{L0:Lo}{a:Mem->Prop}{post:Mem->Lo->Value->Prop}(h:∀ G,a G->False):ò P f args L0 a post:=λ_ G _ hp=>(h G hp).elim
section
variable {P:Program}
set_option maxHeartbeats 1000000 in
theorem wW{α β:Type}[Inhabited β]{r:Rp α}{enc:β->Value}{mk:α->Value}(Z:∀ {G cs x},r.jJ G cs x->cs=[mk x])(aa:∀ {G x},r.jJ G [mk x] x)(A:α->β)(T:β->α)(ad:∀ b,A (T b)=b)(D:∀ a,enc (A a)=mk a)(d:Ŀ β->Ŀ β)(u:∀ l,(d l).Perm l){f:FuncId}
  (hS:∀ (b off cap:Nat) (W:Ŀ β) (w:World),Go.Sort.Holds enc w b off W.toArray->b<w.heap.size->W.length<4611686018427387904->Calls P f #[.slice (some ⟨b,off,none⟩) W.length cap] w λe w'=>e = .returned (.tuple #[])/\∃ n os,w'=Go.Sort.grow (Go.Sort.putRow enc (Go.Sort.ahead w n) b off (d W).toArray) os)
  (hN:∀ (p:ŀ Addr) (cap:Nat) (w:World),Calls P f #[.slice p 0 cap] w λe w'=>e = .returned (.tuple #[])/\w'=w)
  (e:TypeId) (p:ŀ Addr) (c:Nat) (l:Ŀ α) (tk:ŀ Ow) (ag:l.length<=1000000000) :
  ò P f #[.slice p l.length c] [(5000,tk)] (λG=>Η r e G (.slice p l.length c) l tk)
   (λG L v=>∃ S,L=[(5000,S)]/\v = .tuple #[]/\Η r e G (.slice p l.length c) ((d (l.map A)).map T) S):=by
 intro w G hi g
 by_cases F:l=[]
 .subst F
  have e0:(d (([]:Ŀ α).map A)).map T=[]:=by rw[ĵ,(u []).eq_nil]; rfl
  refine (hN p c w).mono ?_
  rintro en w' ⟨rfl,rfl⟩
  exact⟨_,G,[(5000,tk)],rfl,hi.st.mE,tk,rfl,rfl,by rw[e0]; exact g⟩
 cases tk with
 | none=>exact absurd g.1 F
 | some y=>
  obtain⟨cap,cs,rest,C,U,h3,h4,h5,h6,h7⟩:=g
  obtain⟨b,o,m⟩:=y
  dsimp only at C U h3
  subst U h3
  cases C
  have Y:cs=l.map mk:=by
   have:∀ {l:Ŀ α}{cs:Ŀ Value},Ã r G cs l->cs=l.map mk:=by
    intro l
    induction l with
    | nil=>intro cs h; exact h
    | cons x l ih=>
     intro cs h
     obtain⟨c1,c2,rfl,q1,q2⟩:=h
     rw[Z q1,ih q2]; rfl
   exact this h4
  subst Y
  have s:Lo.get [(5000,some ⟨b,Obj.cells (l.map mk++rest).toArray e (0,0),0⟩)] 5000=some ⟨b,.cells (l.map mk++rest).toArray e (0,0),0⟩:=by simp[Lo.get]
  obtain⟨N,H⟩:=hi.loc 5000 _ s
  dsimp only at N H
  have O:b<w.heap.size:=(Ĉ.1 N).1
  have hH:Go.Sort.Holds enc w b 0 (l.map A).toArray:=by
   intro j J
   simp only[ĥ,Č] at J
   have q:(l.map mk++rest)[j]? = some (mk l[j]):=by rw[ĕ (by simpa using J)]; simp[J]
   constructor
   .simp only[World.cell?,N,ļ,aba,Ŏ,aad,ę]
    rw[q,š _ _ (by simpa using J)]; simp[D]
   simp[World.frozen?,N]
  have K:=hS b 0 c (l.map A) w hH O (by rw[Č]; omega)
  rw[Č] at K
  refine aas K ?_
  rintro en w' ⟨rfl,n,os,I⟩
  have ab:(d (l.map A)).length=l.length:=by rw[(u _).length_eq,Č]
  generalize R:(d (l.map A)).map T=ys
  have B:ys.length=l.length:=by rw[<- R,Č,ab]
  have ae:(d (l.map A)).map enc=ys.map mk:=by
   rw[<- R,Ţ]
   apply Ş
   intro z _
   show enc z=mk (T z)
   rw[<- D,ad]
  have i:∀ k,k<w.heap.size->k≠b->w'.heap[k]? = w.heap[k]?:=by
   intro k E t
   rw[I]
   simp only[Go.Sort.grow,Go.Sort.putRow,Go.Sort.mapBlock,Go.Sort.ahead]
   rw[ı (by simpa using E),ħ,Ā (λe=>t e.symm)]
  have g:w'.heap[b]? = some (.cells (ys.map mk++rest).toArray e (0,0)):=by
   rw[I]
   simp only[Go.Sort.grow,Go.Sort.putRow,Go.Sort.mapBlock,Go.Sort.ahead]
   rw[ı (by simpa using O),ħ,Ă rfl,N]
   simp only[Ĥ,Go.Sort.onCells,Ď,abA,and_true]
   apply aab
   intro k
   simp only[Go.Sort.putCells,aaN,ę,ġ,true_and,ļ,fP,ĥ]
   by_cases E:k<l.length
   .rw[ĕ (by simpa using E),ĕ (by simp; omega),<- ae]
    have C:k<(d (l.map A)).length:=by omega
    simp only[aah,Ą E,Ą C,Ĥ,Ă C]
    rw[š _ _ (by simpa using C)]; simp
   rw[Ī (by simp; omega),Ī (by simp; omega),Č,Č,B]
   cases rest[k-l.length]? with
   | none=>rfl
   | some v=>simp only[Ĥ,Ā (show ¬ k<(d (l.map A)).length by omega)]
  have ac:w.heap.size<=w'.heap.size:=by
   rw[I]; simp[Go.Sort.grow,Go.Sort.putRow,Go.Sort.mapBlock,Go.Sort.ahead]
  have one:∀ j x,Lo.get [(5000,some (⟨b,Obj.cells (ys.map mk++rest).toArray e (0,0),0⟩:Ow))] j=some x->x=⟨b,Obj.cells (ys.map mk++rest).toArray e (0,0),0⟩/\5000=j:=by
   intro j x V
   rw[Lo.Zn] at V
   split at V
   .rename_i e'; cases V; exact⟨rfl,e'⟩
   simp[Lo.get] at V
  have Q:∀ l:Ŀ α,Ã r G (l.map mk) l:=by
   intro l
   induction l with
   | nil=>exact rfl
   | cons x l ih=>exact⟨[mk x],l.map mk,rfl,aa,ih⟩
  refine⟨_,G,[(5000,some ⟨b,.cells (ys.map mk++rest).toArray e (0,0),0⟩)],rfl,⟨by rw[I]; rfl,by rw[I]; rfl,by rw[I]; rfl,by rw[I]; simp[Go.Sort.grow,Go.Sort.putRow,Go.Sort.mapBlock,Go.Sort.ahead],ac,?_,Mem.le_refl _,?_,λ_ _ _ h=>.inl h,?_,?_⟩,_,rfl,rfl,?_⟩
  .intro k E hn
   exact i k E λe=>by subst e; exact hn 5000 _ s rfl
  .intro k o v hv
   have X:=hi.ls k o v hv
   have t:k≠b:=λe=>by subst e; rw[H o (ġ _)] at hv; cases hv
   have E:k<w.heap.size:=x9 w _ X
   simp only[World.cell?,i k E t] at X ⊢
   exact X
  .intro j x J
   obtain⟨rfl,rfl⟩:=one j x J
   exact⟨g,.inl ⟨_,s,rfl⟩,H⟩
  .intro j k x y t C U
   exact absurd ((one j x C).2.symm.trans (one k y U).2) t
  refine⟨c,ys.map mk,rest,by rw[B],rfl,rfl,Q _,?_,h6,by rw[B]; exact h7⟩
  rw[ā,Č,B,<- h5,ā,Č]
def rm(l:Ŀ Int):Ŀ Int:=l.mergeSort λx y=>decide (x<=y)
def rn(l:Ŀ Ĳ):Ŀ Ĳ:=((l.map λs=>s.data.toList).mergeSort λx y=>decide (x<=y)).map λu=>⟨u.toArray⟩
theorem ui{ρ:Go.Shelf.Ren}(g:SlLaysN.n53 P ρ){f:FuncId}(n:ρ.f 53=f)(e:TypeId)(p:ŀ Addr)(c:Nat)(l:Ŀ Int)(tk:ŀ Ow)(a:l.length<=1000000000):
  ò P f #[.slice p l.length c] [(5000,tk)] (λG=>Η (Rp.int .i64) e G (.slice p l.length c) l tk) (λG L v=>∃ d,L=[(5000,d)]/\v = .tuple #[]/\Η (Rp.int .i64) e G (.slice p l.length c) (rm l) d):=by
 subst n
 have:=wW (r:=Rp.int .i64) (enc:=Value.int .i64) (mk:=Value.int .i64) (λh=>h) rfl id id (λ_=>rfl) (λ_=>rfl) (λl=>l.mergeSort λx y=>decide (x<=y)) (λl=>aap l _) (λb off cap q w i j m=>AnyG.slices_Sort_int g b off cap q w i j m) (λp cap w=>AnyG.slices_Sort_int_none g p cap w) e p c l tk a
 simpa only[List.map_id,rm] using this
theorem uj{ρ:Go.Shelf.Ren}(g:SlLaysN.n54 P ρ){f:FuncId}(n:ρ.f 54=f)(e:TypeId)(p:ŀ Addr)(c:Nat)(l:Ŀ Ĳ)(tk:ŀ Ow)(a:l.length<=1000000000):
  ò P f #[.slice p l.length c] [(5000,tk)] (λG=>Η Rp.str e G (.slice p l.length c) l tk) (λG L v=>∃ d,L=[(5000,d)]/\v = .tuple #[]/\Η Rp.str e G (.slice p l.length c) (rn l) d):=by
 subst n
 exact wW (r:=Rp.str) (enc:=encStr) (mk:=Value.string) (λh=>h) rfl (λs=>s.data.toList) (λu=>⟨u.toArray⟩) (λ_=>rfl) (λ_=>rfl) (λl=>l.mergeSort λx y=>decide (x<=y)) (λl=>aap l _) (λb off cap q w i j m=>AnyG.slices_Sort_string g b off cap q w i j m) (λp cap w=>AnyG.slices_Sort_string_none g p cap w) e p c l tk a
end
def s8{α:Type}(mul:α->α->Cq (α×Int))(q:Ŀ α)(W:Nat->Nat->α):Prop:=(∀ i,i<8->q[i]? = some (W i 1))/\∀ i,i<8->∀ k,1<=k->k<64->∃ e,(mul (W i k) (W i 1)).ο (W i (k+1),e)
def nL{α:Type}(W:Nat->Nat->α)(i n:Nat):Ŀ α:=(List.range n).map λk=>W i (k+1)
theorem Zue{α:Type}(W:Nat->Nat->α)(i n:Nat):(nL W i n).length=n:=by simp[nL]
theorem Q2{α:Type}(W:Nat->Nat->α)(i:Nat){n k:Nat}(h:k<n):(nL W i n)[k]? = some (W i (k+1)):=by simp[nL,h]
theorem YQ{α:Type}(W:Nat->Nat->α)(i n:Nat):nL W i n++[W i (n+1)]=nL W i (n+1):=by simp[nL,List.range_succ]
structure qx {α:Type}(r:Rp α) (e tk tq:TypeId) (W:Nat->Nat->α) (q:Ŀ α) (Nf:Nat->Nat) (G:Mem) (T:Lo) (kb qb:Nat):Prop where
 keys:∀ p ∈ T,8000000<=p.1
 zero:T.zero
 known:∃ cs:Ŀ Value,T.get 8000101=some ⟨kb,.cells cs.toArray tk (0,0),0⟩/\cs.length=8/\∀ i,i<8->∃ p c,cs[i]? = some (.slice p (Nf i) c)/\Η r e G (.slice p (Nf i) c) (nL W i (Nf i)) (T.get (kj (i:Int)))
 box:∃ cs u,T.get 8000103=some ⟨qb,.cells cs.toArray tq (0,0),0⟩/\iz r 8 G cs u q
def rC{α:Type}(r:Rp α)(e tk tq:TypeId)(W:Nat->Nat->α)(q:Ŀ α)(G:Mem)(T:Lo)(kb qb:Nat):Prop:=∃ Nf,qx r e tk tq W q Nf G T kb qb
theorem va(i:Nat):kj (i:Int)=8000000+2*i:=by simp[kj]
theorem Lo.Jj{T L:Lo}(a:∀ p ∈ T,8000000<=p.1){i:Nat}(hi:i<8000000):(T++L).get i=L.get i:=by
 induction T with
 | nil=>rfl
 | cons p T d=>
  have:=a p (by simp)
  obtain⟨j,x⟩:=p
  rw[Ħ,Lo.Zn,Ā (by simp only at this; omega)]
  exact d λq c=>a q (by simp[c])
theorem Lo.EE{T:Lo}(a:∀ p ∈ T,8000000<=p.1)(i:Nat)(x:Ow)(h:T.get i=some x):8000000<=i:=by
 by_cases hi:i<8000000
 .have:=Lo.Jj (L:=[]) a hi
  rw[ğ] at this
  rw[this] at h; simp[Lo.get] at h
 omega
theorem Lo.Ztq{T L:Lo}{i:Nat}{x:Ow}(h:T.get i=some x):(T++L).get i=some x:=by
 induction T with
 | nil=>simp[Lo.get] at h
 | cons p T a=>
  obtain⟨j,y⟩:=p
  rw[Ħ,Lo.Zn]
  rw[Lo.Zn] at h
  split at h
  .rename_i e; rw[Ă e]; exact h
  rename_i e; rw[Ā e]; exact a h
theorem Lo.Zt0{A T T':Lo}(d:A.all (λp=>decide (p.1<8000000))=true)(e:∀ p ∈ T,8000000<=p.1)(a:∀ p ∈ T',8000000<=p.1):Lo.sub (A++T') (T'++(A++T).É (T.map (·.1))):=by
 intro i x h
 by_cases hi:i<8000000
 .have c:Lo.get (A++T) i=some x:=Lo.Qc (λj y=>Lo.EE a j y) hi h
  rw[Lo.Jj a hi]
  unfold Lo.É
  rw[Lo.Jj (λp hp=>by
   obtain⟨k,f,rfl⟩:=ă.1 hp
   obtain⟨q,g,rfl⟩:=ă.1 f
   exact e q g) hi]
  exact c
 rw[Lo.Jk d (by omega)] at h
 exact Lo.Ztq h
section
variable {P:Program}{N:Nat}{Q:õ}{fr:Fr}{ops:Array Oper}{l:Ŀ Oper}{dst:ŀ Nat}{ty:TypeId}{pos:String}{af:Array Edge}{g:ŀ (Nat×Bool)}{w0:Bs}{G0 G:Mem}
theorem WL.tB{A T:Lo}{op:Op}{f:FuncId}{args a:Array Value}{c:Mem->Prop}{R:Mem->Lo->Value->Prop}(j:A.all (λp=>decide (p.1<8000000))=true)(m:∀ p ∈ T,8000000<=p.1)(r:∀ G L v,R G L v->∀ p ∈ L,8000000<=p.1)
  (t:κ ops fr ⟨dst,op,ty,pos,af,g⟩ true) (s:è N dst) (h:YC P N ⟨dst,op,ty,pos,af,g⟩ fr (St w0 G0 G (A++T)) f a) (B:ò P f args T c R) (e:a=args) (hp:c G) (y:w0.L.zero)
  (k:∀ v G' T',Mem.le G G'->R G' T' v->WL P N ops Q l (ξ dst v fr) (St w0 G0 G' (A++T'))):WL P N ops Q (⟨dst,op,ty,pos,af,g⟩::l) fr (St w0 G0 G (A++T)):=by
 refine WL.lW t s h B e hp (λi x n=>?_) y (λv G' L' q d=>WL.Ì (λw u=>u.weaken (Lo.Zt0 j m (r _ _ _ d))) (k v G' L' q d))
 have:=Lo.EE m i x n
 rw[Lo.Jk j this]; exact n
end
section
variable {α:Type}{r:Rp α}{e tk tq:TypeId}{W:Nat->Nat->α}{q:Ŀ α}{Nf:Nat->Nat}{G G':Mem}{T:Lo}{kb qb:Nat}
theorem qx.mono(h:qx r e tk tq W q Nf G T kb qb)(a:Mem.le G G'):qx r e tk tq W q Nf G' T kb qb:=
 ⟨h.keys,h.zero,by
  obtain⟨cs,d,f,g⟩:=h.known
  exact⟨cs,d,f,λi hi=>by obtain⟨p,c,j,l⟩:=g i hi; exact⟨p,c,j,l.mono a⟩⟩,by
  obtain⟨cs,u,d,f⟩:=h.box
  exact⟨cs,u,d,f.mono a⟩⟩
theorem rC.mono(h:rC r e tk tq W q G T kb qb)(a:Mem.le G G'):rC r e tk tq W q G' T kb qb:=let ⟨Nf,h⟩:=h; ⟨Nf,h.mono a⟩
theorem rC.keys(h:rC r e tk tq W q G T kb qb):∀ p ∈ T,8000000<=p.1:=let ⟨_,h⟩:=h; h.keys
theorem rC.high(h:rC r e tk tq W q G T kb qb):∀ i x,T.get i=some x->8000000<=i:=λi x=>Lo.EE h.keys i x
theorem qx.low(h:qx r e tk tq W q Nf G T kb qb){i:Nat}(hi:i<8000000):T.get i=none:=Lo.ZtE (λi x=>Lo.EE h.keys i x) hi
theorem qx.put(h:qx r e tk tq W q Nf G T kb qb){cs:Ŀ Value}(f:T.get 8000101=some ⟨kb,.cells cs.toArray tk (0,0),0⟩){j n:Nat}{p:ŀ Addr}{c:Nat}{t':ŀ Ow}(A:j<8)(d:Η r e G (.slice p n c) (nL W j n) t'):
  qx r e tk tq W q (λi=>if i=j then n else Nf i) G ((8000101,some ⟨kb,.cells (cs.set j (.slice p n c)).toArray tk (0,0),0⟩)::(kj (j:Int),t')::T) kb qb:=by
 obtain⟨cs',t,v,w⟩:=h.known
 have y:cs'=cs:=by rw[t] at f; simpa using f
 subst y
 refine⟨λp hp=>?_,λp hp x g=>?_,⟨_,by rw[Lo.Zn,Ă rfl],by rw[Ũ,v],λi hi=>?_⟩,?_⟩
 .rcases ą.1 hp with rfl|hp
  .show 8000000<=8000101; omega
  rcases ą.1 hp with rfl|hp
  .exact JF _
  exact h.keys p hp
 .rcases ą.1 hp with rfl|hp
  .cases g; rfl
  rcases ą.1 hp with rfl|hp
  .exact d.zero g
  exact h.zero p hp x g
 .by_cases a:i=j
  .subst a
   refine⟨p,c,?_,?_⟩
   .rw[aaF,Ă rfl,Ă (by omega),Ă rfl]
   rw[Ă rfl,Lo.Zn,Ā (by rw[va]; omega),Lo.Zn,Ă rfl]
   exact d
  obtain⟨p',c',l,m⟩:=w i hi
  refine⟨p',c',?_,?_⟩
  .rw[aaF,Ā (λe=>a e.symm),Ā a]; exact l
  rw[Ā a,Lo.Zn,Ā (by rw[va]; omega),Lo.Zn,Ā (by rw[va,va]; omega)]
  exact m
 obtain⟨s,u,l,m⟩:=h.box
 refine⟨s,u,?_,m⟩
 rw[Lo.Zn,Ā (by decide),Lo.Zn,Ā (by rw[va]; omega)]
 exact l
theorem qx.start{cs:Ŀ Value}{u:Unit}(h:iz r 8 G cs u q):qx r e tk tq W q (λ_=>0) G [(8000101,some ⟨kb,.cells (List.replicate 8 (Value.slice none 0 0)).toArray tk (0,0),0⟩),(8000103,some ⟨qb,.cells cs.toArray tq (0,0),0⟩)] kb qb:=by
 refine⟨λp hp=>?_,λp hp x a=>?_,⟨_,by rw[Lo.Zn,Ă rfl],by simp,λi hi=>⟨none,0,by rw[List.getElem?_replicate,Ă hi],?_⟩⟩,⟨cs,u,by rw[Lo.Zn,Ā (by decide),Lo.Zn,Ă rfl],h⟩⟩
 .simp only[ą,ĝ,ŝ] at hp
  rcases hp with rfl|rfl
  .show 8000000<=8000101; omega
  show 8000000<=8000103; omega
 .simp only[ą,ĝ,ŝ] at hp
  rcases hp with rfl|rfl <;> cases a <;> rfl
 rw[Lo.Zn,Ā (by rw[va]; omega),Lo.Zn,Ā (by rw[va]; omega)]
 exact Η.nil
end
section
variable {P:Program}{Q:õ}{md:Region.Mode}
def oF(o o':Oper):Prop:=o'.dst=o.dst/\o'.op=o.op/\o'.type=o.type/\o'.pos=o.pos/\o.guard=none/\o'.guard=none
theorem oF.wp{o o':Oper}(h:oF o o'){a:Act}{w:World}{K K':Act->World->Prop}(n:∀ a w,K' a w->K a w)(k:o'.wp P a w K' Q):o.wp P a w K Q:=by
 obtain⟨d,op,ty,pos,af,g⟩:=o
 obtain⟨d',p,q,m,nq,g'⟩:=o'
 obtain⟨c,e,f,i,j,l⟩:=h
 simp only at c e f i j l
 subst c e f i j l
 exact Oper.QQ n k
theorem oF.asks{o o':Oper}(h:oF o o'){a:Act}{w:World}(k:o'.asks P a w):o.asks P a w:=by
 obtain⟨d,op,ty,pos,af,g⟩:=o
 obtain⟨d',n,p,m,nq,g'⟩:=o'
 obtain⟨c,e,f,i,j,l⟩:=h
 simp only at c e f i j l
 subst c e f i j l
 exact k
structure oG (md:Region.Mode) (l l':Array Oper) (σ τ:Nat->Nat):Prop where
 size:l'.size=l.size
 lt:∀ i,i<l.size->σ i<l.size
 lt':∀ j,j<l.size->τ j<l.size
 st:∀ j,j<l.size->σ (τ j)=j
 inj:∀ i k,i<l.size->k<l.size->σ i=σ k->i=k
 op:∀ i o,l[i]? = some o->∃ o',l'[σ i]? = some o'/\oF o o'/\(∀ e ∈ o.after,Region.binds md e=true->e.on<l.size/\∃ e' ∈ o'.after,Region.binds md e'=true/\e'.on=σ e.on)/\∀ e' ∈ o'.after,Region.binds md e'=true->∃ e ∈ o.after,Region.binds md e=true/\e'.on=σ e.on
theorem oG.any{l l':Array Oper}{σ τ:Nat->Nat}(h:oG md l l' σ τ):∀ (fuel:Nat) (m m':Array Bool) (a:Act) (w:World),m.size=l.size->m'.size=l.size->(∀ i,i<l.size->m'[σ i]? = m[i]?)->
  wpAny P md l' Q fuel m' a w->wpAny P md l Q fuel m a w:=by
 have Ζ:∀ (m m':Array Bool),m.size=l.size->m'.size=l.size->(∀ i,i<l.size->m'[σ i]? = m[i]?)->∀ i,i<l.size->(i ∈ Region.ready md l m↔σ i ∈ Region.ready md l' m'):=by
  intro m m' s c f i hi
  rw[abm,abm]
  have K:∀ k d,k<l.size->m'.getD (σ k) d=m.getD k d:=λk d v=>by rw[Ÿ,Ÿ,f k v]
  rw[K i true hi]
  constructor
  .rintro⟨I,o,n,J⟩
   obtain⟨o',p,_,G,D⟩:=h.op i o n
   refine⟨I,o',p,λe' u t=>?_⟩
   obtain⟨e,E,r,eq⟩:=D e' u t
   rw[eq,K e.on false (G e E r).1]
   exact J e E r
  rintro⟨I,o',p,J⟩
  obtain⟨o,n⟩:∃ o,l[i]? = some o:=⟨_,Ń hi⟩
  obtain⟨o2,B,_,G,D⟩:=h.op i o n
  rw[p] at B
  cases B
  refine⟨I,o,n,λe E r=>?_⟩
  obtain⟨R,e',u,t,eq⟩:=G e E r
  rw[<- K e.on false R,<- eq]
  exact J e' u t
 have inl:∀ (m:Array Bool) i,i ∈ Region.ready md l m->i<l.size:=λm i hi=>by
  obtain⟨_,o,n,_⟩:=abm.1 hi
  exact (Ĉ.1 n).1
 have C:∀ (m:Array Bool) i,i ∈ Region.ready md l' m->i<l.size:=λm i hi=>by
  obtain⟨_,o,n,_⟩:=abm.1 hi
  have:=(Ĉ.1 n).1
  rw[h.size] at this
  exact this
 have y:∀ (m m':Array Bool),m.size=l.size->m'.size=l.size->(∀ i,i<l.size->m'[σ i]? = m[i]?)->Region.ready md l m=[]->Region.ready md l' m'=[]:=by
  intro m m' s c f H
  refine x8.2 λj L=>?_
  have A:=C m' j L
  have:=(Ζ m m' s c f (τ j) (h.lt' j A)).2 (by rw[h.st j A]; exact L)
  rw[H] at this
  cases this
 intro fuel
 induction fuel with
 | zero=>
  intro m m' a w s c f k
  refine⟨?_,k.2⟩
  refine x8.2 λi hi=>?_
  have:=(Ζ m m' s c f i (inl m i hi)).1 hi
  rw[k.1] at this
  cases this
 | succ fuel O=>
  intro m m' a w s c f k
  refine⟨λH=>k.1 (y m m' s c f H),λi hi=>?_⟩
  have g:=inl m i hi
  have v:=k.2 (σ i) ((Ζ m m' s c f i g).1 hi)
  obtain⟨o,n⟩:∃ o,l[i]? = some o:=⟨_,Ń g⟩
  obtain⟨o',p,F,_⟩:=h.op i o n
  have next:∀ a w,wpAny P md l' Q fuel (m'.setIfInBounds (σ i) true) a w->wpAny P md l Q fuel (m.setIfInBounds i true) a w:=λa w=>by
   refine O _ _ a w (by simpa using s) (by simpa using c) λq N=>?_
   rw[Š,Š]
   by_cases e:i=q
   .subst e
    rw[Ă rfl,Ă rfl,s,c,Ă g,Ă (h.lt i g)]
   rw[Ā e,Ā λD=>e (h.inj i q g N D)]
   exact f q N
  unfold wpOp at v ⊢
  rw[p] at v
  rw[n]
  simp only at v ⊢
  have w1:Region.wanted o' (yielded l' a.tmps)=true:=by unfold Region.wanted; rw[F.2.2.2.2.2]
  have w2:Region.wanted o (yielded l a.tmps)=true:=by unfold Region.wanted; rw[F.2.2.2.2.1]
  rw[Ă w1] at v
  rw[Ă w2]
  exact v.imp (λq=>F.wp next q) λq=>⟨F.asks q.1,q.2⟩
end
section
variable {P:Program}{N:Nat}{Q:õ}{fr:Fr}{w0:Bs}{G0 G:Mem}{L:Lo}{l l0:Ŀ Oper}{σ τ:Nat->Nat}
theorem WC.vq{id:Nat}{Bt:Υ}(d:oG .any l0.toArray l.toArray σ τ)(c:Mem.le G0 G->∀ (X:Gx) w,Gx.le (Gx.of G) X->jO w0 G0 X L w->Bt w)(fl:Ŀ Bool)(g:P.follows .mixedOrders=true)(f:mm N l fl=true)(h:Mem.le G0 G->η P N Q fr w0 G0 G L l.toArray Bt fl l [] []):
  WC P N (.region id l0.toArray true) Q fr (St w0 G0 G L):=
 WC.tN (λa w k=>wp_region_any g (by
  have e:=d.size
  rw[e] at k
  refine d.any _ _ _ a _ (by simp) (by simp) (λi hi=>?_) k
  have:=d.lt i hi
  simp only[abj,e,Ă hi,Ă this])) c fl f h
theorem WC.rL{id:Nat}(i:oG .any l0.toArray l.toArray σ τ)(LF:Lo)(a:Lo.sub LF L)(fl:Ŀ Bool)(f:P.follows .mixedOrders=true)(d:mm N l fl=true)(h:Mem.le G0 G->η P N Q fr w0 G0 G L l.toArray (St w0 G0 G LF) fl l [] []):
  WC P N (.region id l0.toArray true) Q fr (St w0 G0 G L):=WC.vq i (λe _ _ c g=>(g.st.jt e c.1).weaken a) fl f d h
end
def rT(σ:Nat->Nat)(o:Oper):Oper:={ o with after:=o.after.map λe=>{ e with on:=σ e.on } }
def mO(p:Ŀ Nat)(l:Ŀ Oper):Ŀ Oper:=p.map λi=>rT (λj=>p.idxOf j) (l.getD i default)
def wT(p:Ŀ Nat)(l:Ŀ Oper):Bool:=decide (p.Nodup) && Nat.beq p.length l.length && (List.range l.length).all (λi=>p.contains i) && p.all (λi=>Nat.blt i l.length) && l.all λo=>o.guard.isNone && o.after.toList.all λe=>!Region.binds .any e || Nat.blt e.on l.length
theorem PT{p:Ŀ Nat}{l:Ŀ Oper}(h:wT p l=true):oG .any l.toArray (mO p l).toArray (λi=>p.idxOf i) (λj=>p.getD j 0):=by
 simp only[wT,Ē,Ģ,Ĕ,ť,List.contains_iff_mem,aaO,ń,Ō] at h
 obtain⟨⟨⟨⟨w,t⟩,y⟩,A⟩,B⟩:=h
 have t:p.length=l.length:=ŏ t
 have a:∀ i,i<l.length->p.idxOf i<p.length:=λi hi=>List.idxOf_lt_length_iff.2 (y i hi)
 have c:∀ i (hi:i<l.length),p[p.idxOf i]'(a i hi)=i:=λi hi=>List.getElem_idxOf (a i hi)
 refine⟨by simp[mO,t],λi hi=>?_,λj m=>?_,λj m=>?_,λi k hi u e=>?_,λi o q=>?_⟩
 .have hi:i<l.length:=by simpa using hi
  show p.idxOf i<_
  have:=a i hi
  simp only[ĥ]; omega
 .have m:j<l.length:=by simpa using m
  show p.getD j 0<_
  rw[Ķ,Ą (by omega)]
  simpa using A _ (Ċ (by omega))
 .have m:j<l.length:=by simpa using m
  show p.idxOf (p.getD j 0)=j
  rw[Ķ,Ą (by omega)]
  exact w.idxOf_getElem j (by omega)
 .have hi:i<l.length:=by simpa using hi
  have u:k<l.length:=by simpa using u
  have e:p.idxOf i=p.idxOf k:=e
  rw[<- c i hi,<- c k u]
  simp only[e]
 have g:i<l.length:=by
  have:=(Ĉ.1 q).1
  simpa using this
 have q:l[i]? = some o:=by simpa using q
 have n:o ∈ l:=Ł q
 obtain⟨v,C⟩:=B o n
 have s:o.guard=none:=by cases s:o.guard with
  | none=>rfl
  | some x=>rw[s] at v; cases v
 refine⟨rT (λj=>p.idxOf j) o,?_,⟨rfl,rfl,rfl,rfl,s,s⟩,λe r d=>⟨?_,{ e with on:=p.idxOf e.on },?_,?_,rfl⟩,λe' f d=>?_⟩
 .show (mO p l).toArray[p.idxOf i]? = _
  simp only[mO,ę,aah]
  rw[Ą (a i g),c i g]
  simp only[Ĥ,Ķ,q,ś]
 .have:=C e (by simpa using r)
  rcases this with h|h
  .rw[h] at d; cases d
  simpa using h
 .simp only[rT,Array.mem_map]
  exact⟨e,r,rfl⟩
 .cases e; exact d
 simp only[rT,Array.mem_map] at f
 obtain⟨e,r,rfl⟩:=f
 exact⟨e,r,by cases e; exact d,rfl⟩
section
variable {P:Program}{N:Nat}{Q Q':õ}{md:Region.Mode}{ops:Array Oper}
theorem ZsX{n r i:Nat}{K K':Act->World->Prop}{a:Act}{w:World}(g:¬ LetsOut Q)(j:∀ (i:Nat) (o:Oper),ops[i]? = some o->∀ c,o.op≠.defer c)(d:∀ a w,K a w->K' a w)(h:wpOp P ops Q i K a w):wpOpIn (Fence.wide.inRound r) n P ops Q i K' a w:=by
 unfold wpOp at h
 unfold wpOpIn
 cases e:ops[i]? with
 | none=>rw[e] at h; exact d _ _ h
 | some o=>
  rw[e] at h
  dsimp only at h ⊢
  split at h
  .rename_i f
   rw[Ă f]
   rcases h with h|h
   .exact Rt (j i o e) d h
   exact absurd h.2 g
  rename_i f
  rw[Ā f]
  exact⟨λ_ _=>trivial,d _ _ h⟩
theorem IJ{n r:Nat}(d:¬ LetsOut Q)(e:∀ (i:Nat) (o:Oper),ops[i]? = some o->∀ c,o.op≠.defer c):∀ (fuel:Nat) (m:Array Bool) (a:Act) (w:World),wpAny P md ops Q fuel m a w->wpAnyIn (Fence.wide.inRound r) n P md ops Q fuel m a w
 | 0,_,_,_,h=>h
 | fuel+1,_,_,_,h=>⟨h.1,λi hi=>ZsX d e (λa w=>IJ d e fuel _ a w) (h.2 i hi)⟩
def plus(a:Act)(D:Ŀ Deferred):Act:={ a with defers:=a.defers++D }
theorem zH(a:Act)(D:Ŀ Deferred)(d:ŀ Nat)(v:Value):(plus a D).put d v=plus (a.put d v) D:=by cases d <;> rfl
variable {D:Ŀ Deferred}
theorem Q1{o:Oper}{a:Act}{w:World}{K K':Act->World->Prop}(g:∀ a w,K a w->K' (plus a D) w)(j:∀ e a w,Q e a w->Q' e (plus a D) w)(h:o.wp P a w K Q):o.wp P (plus a D) w K' Q':=by
 have m:(plus a D).eval=a.eval:=rfl
 unfold Oper.wp at *
 rw[m]
 generalize (execOp a.eval o).run P w=r at *
 cases r with
 | ok nx w'=>
  cases nx <;> simp only[Oper.upon] at h ⊢
  case value v=>rw[zH]; exact g _ _ h
  case skip=>rw[zH]; exact g _ _ h
  case defer d=>
   have n:({ plus a D with defers:=d::(plus a D).defers }:Act).put o.dst undef=plus (({ a with defers:=d::a.defers }:Act).put o.dst undef) D:=by cases o.dst <;> rfl
   rw[n]; exact g _ _ h
  case enter f args=>
   refine aas h λe l i=>?_
   cases e with
   | returned v=>show K' ((plus a D).put o.dst v) l; rw[zH]; exact g _ _ i
   | panicked c=>exact j _ _ _ i
   | outgrown=>obtain⟨a',w',i⟩:=i; exact⟨_,_,j _ _ _ i⟩
  case row row args=>exact λc cs=>let ⟨v,w',r,s⟩:=h c cs; ⟨v,w',by show K' ((plus a D).put o.dst v) w'; rw[zH]; exact g _ _ r,s⟩
 | halt x w'=>cases x <;> first|exact h.elim|exact j _ _ _ h
theorem Nx(c:∀ e a w,Q e a w->Q' e (plus a D) w):LetsOut Q->LetsOut Q':=λ⟨a,w,h⟩=>⟨_,_,c _ a w h⟩
theorem ZsY{i:Nat}{a:Act}{w:World}{K K':Act->World->Prop}(c:∀ a w,K a w->K' (plus a D) w)(f:∀ e a w,Q e a w->Q' e (plus a D) w)(h:wpOp P ops Q i K a w):wpOp P ops Q' i K' (plus a D) w:=by
 unfold wpOp at *
 cases e:ops[i]? with
 | none=>rw[e] at h; exact c _ _ h
 | some o=>
  rw[e] at h
  have g:(plus a D).tmps=a.tmps:=rfl
  dsimp only at h ⊢
  rw[g]
  split at h
  .rename_i d
   rw[Ă d]
   exact h.imp (Q1 c f) (λ⟨j,l⟩=>⟨j,Nx f l⟩)
  rename_i d
  rw[Ā d,zH]
  exact c _ _ h
theorem OK(c:∀ e a w,Q e a w->Q' e (plus a D) w):∀ (fuel:Nat) (m:Array Bool) (a:Act) (w:World),wpAny P md ops Q fuel m a w->wpAny P md ops Q' fuel m (plus a D) w
 | 0,_,a,w,h=>⟨h.1,c _ a w h.2⟩
 | fuel+1,_,a,w,h=>⟨λe=>c _ a w (h.1 e),λi hi=>ZsY (λa w=>OK c fuel _ a w) c (h.2 i hi)⟩
theorem H2(c:∀ e a w,Q e a w->Q' e (plus a D) w):∀ {l:Ŀ Oper}{a:Act}{w:World},wpList P ops Q l a w->wpList P ops Q' l (plus a D) w
 | [],a,w,h=>c _ a w h
 | o::l,a,w,h=>by
  unfold wpList at h ⊢
  have f:(plus a D).tmps=a.tmps:=rfl
  rw[f]
  split at h
  .rename_i d
   rw[Ă d]
   exact h.imp (Q1 (λa w h=>H2 c h) c) (λ⟨g,i⟩=>⟨g,Nx c i⟩)
  rename_i d
  rw[Ā d,zH]
  exact H2 c h
def PQ(D:Ŀ Deferred)(Q:õ):õ:=λe a w=>Q e (plus a D) w
def pg(P:Program)(N:Nat)(D:Ŀ Deferred)(c:Code)(Q:õ)(fr:Fr)(S:Υ):Prop:=∀ a w,Rel N fr a->S w->c.wp P Q (plus a D) w
variable {fr:Fr}{S:Υ}
theorem pg.seq{x y:Code}(h:pg P N D x (Exit.then (y.wp P Q) Q) fr S):pg P N D (.seq x y) Q fr S:=λa w c d=>wp_seq (h a w c d)
theorem pg.then{c:Code}(h:pg P N D c Q fr S):WE N (PQ D (Exit.then (c.wp P Q) Q)) .normal fr S:=h
theorem pg.region{id:Nat}{l:Ŀ Oper}(h:WL P N l.toArray (PQ D Q) l fr S):pg P N D (.region id l.toArray false) Q fr S:=λa w c d=>wp_region_lit (H2 (λ_ _ _ h=>h) (h a w c d))
theorem pg.ret(h:WE N (PQ D Q) .ret fr S):pg P N D .ret Q fr S:=λa w c d=>wp_ret (h a w c d)
end
section
variable {P:Program}{N:Nat}{Q:õ}{fr:Fr}{w0:Bs}{G0 G:Mem}{L:Lo}{l l0:Ŀ Oper}{σ τ:Nat->Nat}{D:Ŀ Deferred}{r id:Nat}
theorem pg.nv(LF:Lo)(c:Lo.sub LF L)(fl:Ŀ Bool)(j:P.follows .mixedOrders=true)(f:mm N l fl=true)(h:Mem.le G0 G->η P N (PQ D Q) fr w0 G0 G L l.toArray (St w0 G0 G LF) fl l [] []):
  pg P N D (.region id l.toArray true) Q fr (St w0 G0 G L):=λa w g e=>
 pQ (Q:=PQ D Q) (R:=λa w=>(Code.region id l.toArray true).wp P Q (plus a D) w) (λa _ k=>wp_region_any j (OK (λ_ _ _ h=>h) _ _ a _ k)) (λi _ _ d e=>(e.st.jt i d.1).weaken c) fl f h a w g e
theorem rQ{l:Ŀ Oper}(d:l.all (λo=>match o.op with | .defer _=>false|_=>true)=true):∀ (i:Nat) (o:Oper),l.toArray[i]? = some o->∀ c,o.op≠.defer c:=λi o a c e=>by
 rw[ę] at a
 have:=Ĕ.1 d o (Ł a)
 rw[e] at this; cases this
theorem jy.drawn(d:¬ LetsOut Q)(e:l.all (λo=>match o.op with | .defer _=>false|_=>true)=true)(fl:Ŀ Bool)(f:P.follows .mixedOrders=true)(c:mm N l fl=true)(h:Mem.le G0 G->η P N Q fr w0 G0 G L l.toArray (λ_=>True) fl l [] []):
  jy P N r (.region id l.toArray true) Q fr (St w0 G0 G L):=
 pQ (λa _ k=>wpIn_region_any f (IJ d (rQ e) _ _ a _ k)) (λ_ _ _ _ _=>trivial) fl c h
theorem jy.nv(f:¬ LetsOut Q)(i:l.all (λo=>match o.op with | .defer _=>false|_=>true)=true)(LF:Lo)(c:Lo.sub LF L)(fl:Ŀ Bool)(j:P.follows .mixedOrders=true)(e:mm N l fl=true)(h:Mem.le G0 G->η P N Q fr w0 G0 G L l.toArray (St w0 G0 G LF) fl l [] []):
  jy P N r (.region id l.toArray true) Q fr (St w0 G0 G L):=
 pQ (λa _ k=>wpIn_region_any j (IJ f (rQ i) _ _ a _ k)) (λg _ _ d m=>(m.st.jt g d.1).weaken c) fl e h
end
def sZ(P:Program)(f:FuncId)(h:Array Value)(len:Nat)(E:Nat->Value->Mem->Prop)(e:Mem->Prop):Prop:=
 ∀ {σ:Type}(l:Nat) (I:Nat->σ->Prop) (d:σ->Lo) (a:σ->Mem->Prop),(∀ s i,9000<=i->(d s).get i=none)->(∀ G G' s,Mem.le G G'->a s G->a s G')->
  (∀ (j:Nat) (u:Value) (s:σ),j<len->I j s->sd P l u (d s) (λG=>a s G/\E j u G) (λG L b=>b=true/\∃ c,I (j+1) c/\L=d c/\a c G))->
  ∀ g,I 0 g->(d g).zero->ò P f (#[.func (.yield l) #[] #[]]++h) (d g) (λG=>e G/\a g G) (λG L u=>u = .tuple #[]/\∃ c,I len c/\L=d c/\a c G)
section
variable {P:Program}{N:Nat}{Q:õ}{fr:Fr}{S:Υ}{ops:Array Oper}{l:Ŀ Oper}{dst:ŀ Nat}{ty:TypeId}{pos:String}{af:Array Edge}{g:ŀ (Nat×Bool)}
variable {w0:Bs}{G0 G:Mem}{L:Lo}
theorem nM.wC{x y:Operand}{q:Array TypeId}{loop:Nat}{u:Value}{R d:Lo}{f:Mem->Prop}{post:Mem->Lo->Bool->Prop}(I:κ ops fr ⟨dst,.call ⟨.value x,#[y],q⟩,ty,pos,af,g⟩ true)(H:è N dst)
  (L:fr.ev x=some (.func (.yield loop) #[] #[])) (O:fr.ev y=some u) (E:sd P loop u d f post) (hp:f G) (K:w0.L.zero) (p:∀ i,i ∈ R.map (·.1)->d.get i=none)
  (k:∀ b G' L',Mem.le G G'->post G' L' b->nM P N ops Q l (ξ dst (.bool b) fr) (St w0 G0 G' (R++L'))) :
  nM P N ops Q (⟨dst,.call ⟨.value x,#[y],q⟩,ty,pos,af,g⟩::l) fr (St w0 G0 G (R++d)):=by
 have n:Lo.sub d (R++d):=λi z c=>by
  rw[Lo.XW (λhi=>by rw[p i hi] at c; cases c)]; exact c
 refine nM.yield (Φ:=λv w=>∃ b G' L',v = .bool b/\Mem.le G G'/\post G' L' b/\St w0 G0 G' (R++L') w) I H L O (λw h=>?_) (λv a w F h=>?_)
 .obtain⟨fn,U,j,r,S,T⟩:=E w G (h.hp n) hp
  refine⟨fn,U,j,r,S,T.mono λe w' ⟨b,G',L',s,m,A⟩=>⟨.bool b,s,b,G',L',rfl,m.le,A,?_⟩⟩
  refine h.ext (R:=R) m n (λi z c=>Lo.Ztr c) (λi z c=>p i (Lo.Rm c)) (λi z z' hi V t J=>?_) (λi z c=>(Lo.get_append _ _ i z c).symm)
  rw[Lo.BD K J]
  exact ġ _
 obtain⟨b,G',L',rfl,B,C,D⟩:=h
 exact k b G' L' B C a w F D
end
section
variable {P:Program}{N:Nat}{Q:õ}{fr:Fr}{fn:Func}{w0:Bs}{G0 G:Mem}{L:Lo}
theorem WE.CT{rvs:Ŀ ResultVar}{d:Nat}{post:Mem->Lo->Value->Prop}(e:Lo)(vs:Ŀ Value)(t:fn.results=rvs.toArray)(s:rvs.length=vs.length)(m:L.get 8002=some ⟨d,.deferred (some []),0⟩)
  (h:∀ (i:Nat) (rv:ResultVar) (v:Value),rvs[i]? = some rv->vs[i]? = some v->RV P fr ((8002,some ⟨d,.deferred none,0⟩)::L) rv v) (r:Lo.sub e ((8002,some ⟨d,.deferred none,0⟩)::L)) (hp:post G e (if h:vs.toArray.size=1 then vs.toArray[0] else .tuple vs.toArray)) :
  WE N (PQ [{ target:=.collected d,args:=#[] }] (bodyPostM Fence.wide 0 P fn (me w0 G0 post))) .ret fr (St w0 G0 G L):=by
 intro a w j n
 show LeavesInM Fence.wide 0 P fn a.tmps (me w0 G0 post) (a.defers++[{ target:=.collected d,args:=#[] }]) .returning w
 rw[j.defers]
 have l:=(n.loc 8002 _ m).1
 have f:=(Ĉ.1 l).1
 have c:=n.sJ (i:=8002) (m':=0) (w':=World.putObj _ d (.deferred none)) m (aaG f) (č _) (λk _ g=>absurd g (ō k)) (λk g=>aaw g) rfl rfl rfl rfl (by simp)
 refine⟨by simp,.inl ⟨_,_,rfl,run_takeDeferred l,⟨_,HZ t s (λi rv v p q=>(h i rv v p q).run j c),?_⟩⟩⟩
 exact⟨_,G,e,rfl,(⟨c.os,c.tape,c.output,c.drawn,c.size,c.block,c.base,c.ls,c.fresh,c.loc,c.gY⟩:Ext w0.w G0 w0.L _ G _).weaken r,hp⟩
theorem WC.qJ{s:Operand}{t W f:Nat}{assign body T:Code}{H:Array Value}(A:fr.ev s=some (.func (.func f) #[] H))(c:Enters P f)
  (h:∀ (a:Act) (d I:Nat) (r:Loop),Rel N fr a->r.state = .ready->r.pending=none->r.tmps=a.tmps->r.params = #[t]->r.assign=assign->r.body=body->∃ (p:Mem->Prop) (E:Lo) (post:Mem->Lo->Value->Prop),
   Lo.sub E ((8001,some ⟨I,.loop r,0⟩)::(8002,some ⟨d,.deferred (some []),0⟩)::L)/\
   (∀ i,i ∈ E.map (·.1)->w0.L.get i=none)/\ò P f (#[.func (.yield I) #[] #[]]++H) E p post/\p G/\
   ∀ G' L' v,Mem.le G G'->post G' L' v->L'.get 8001=some ⟨I,.loop r,0⟩/\pg P N [{ target:=.collected d,args:=#[] }] T Q fr (St w0 G0 G' ((8001,some ⟨I,.loop { r with state:=.exhausted },0⟩)::L'))) :
  WC P N (.block W (.rangeFunc s #[t] assign body)) (Exit.then (T.wp P Q) Q) fr (St w0 G0 G L):=by
 refine WC.block ?_
 intro a w F hs
 refine (abL (n:=0)).1 (wpIn_rangeFunc ?_)
 intro q _
 let r:Loop:={ state:=.ready,pending:=none,fn:=q,tmps:=a.tmps,params:=#[t],assign:=assign,body:=body,defers:=w.heap.size }
 obtain⟨p,E,post,j,K,u,C,hk⟩:=h a w.heap.size (w.heap.size+1) r F rfl rfl rfl rfl rfl rfl
 have m:St w0 G0 G _ ((w.alloc (.deferred (some []))).alloc (.loop r)):=(hs.push 8002 (.deferred (some []))).push 8001 (.loop r)
 have J:(w.alloc (.deferred (some []))).heap.size=w.heap.size+1:=by simp
 rw[J] at m
 refine⟨w.heap.size+1,[{ target:=.collected w.heap.size,args:=#[] }],((w.alloc (.deferred (some []))).alloc (.loop r)),{ target:=.fn (.func f) H,args:=#[.func (.yield (w.heap.size+1)) #[] #[]] },((w.alloc (.deferred (some []))).alloc (.loop r)),f,#[.func (.yield (w.heap.size+1)) #[] #[]]++H,((w.alloc (.deferred (some []))).alloc (.loop r)),run_enterLoop_outer _ _ _ _ _,?_,λ_ _=>trivial,?_,λh=>by simp[Fence.wide] at h,?_⟩
 .have X:=F.ev A
  have Y:a.eval (.const (.func (.yield (w.heap.size+1)) #[] #[])) = .func (.yield (w.heap.size+1)) #[] #[]:=rfl
  simp[resolve,Deferred.ofValue,X,Y]
 .simpa [invoke] using c _ _
 refine (aa2 (n:=0)).2 ?_
 refine (u _ G (m.hp j) C).mono λe w2 ⟨v,G',L',he,g,l⟩=>?_
 subst he
 obtain⟨B,hw⟩:=hk G' L' v g.le l
 have D:St w0 G0 G' L' w2:=m.ext (R:=[]) g j (Lo.Zs _) (λi x S=>by simp[Lo.get] at S) (λi x y hi _ z V=>by rw[K i (Lo.Rm hi)] at V; cases V) (λi x S=>.inl S)
 have hb:=(D.loc 8001 _ B).1
 refine⟨r.pending,_,run_endLoop hb (by show LoopState.ready≠_; simp),?_⟩
 have O:=D.lT (r':={ r with state:=.exhausted }) B
 have U:=hw a _ F O
 have Z:plus a [({ target:=.collected w.heap.size,args:=#[] }:Deferred)] = { a with defers:=[({ target:=.collected w.heap.size,args:=#[] }:Deferred)]++a.defers }:=by unfold plus; rw[F.defers]; rfl
 rw[Z] at U
 exact U
theorem ò.tQ{f:FuncId}{c:Code}{args:Ŀ Value}{L0:Lo}{a:Mem->Prop}{post:Mem->Lo->Value->Prop}(j:P.funcs[f]? = some fn)(i:fn.body=some c)(m:fn.ntmps=N)(g:Nat.ble args.length N=true)
  (h:∀ w0 G0,w0.L=L0->a G0->WC P N c (bodyPostM Fence.wide 0 P fn (me w0 G0 post)) (nC args 0) (St w0 G0 G0 L0)):ò P f args.toArray L0 a post:=by
 intro w G hi hp
 refine (aa2 (n:=0)).1 (callsIn_of_wp_marks j i trivial ((abL (n:=0)).2 ?_))
 refine h ⟨w,L0⟩ G rfl hp _ w ⟨rfl,?_,λt v l=>?_⟩ hi.st
 .have:=aaL g
  simp only[aaC,ĥ,Array.size_replicate]
  omega
 obtain⟨_,d⟩:=Bl args 0 t v l
 simp only[fP] at d
 have e:=(Ć.1 d).1
 rw[ı (by simpa using e)]
 simpa using d
theorem jy.cond{r:Nat}{c:Operand}{x y:Code}{b:Bool}{S:Υ}(e:fr.ev c=some (.bool b))(h:b=true->jy P N r x Q fr S)(g:b=false->jy P N r y Q fr S):jy P N r (.cond c x y) Q fr S:=λa w d f=>by
 cases b with
 | true=>exact wpIn_cond_true (by rw[d.ev e]) (h rfl a w d f)
 | false=>exact wpIn_cond_false (by rw[d.ev e]) (g rfl a w d f)
theorem Fm{l:Nat}{c a:Code}{S:Υ}(e:c=a)(h:jy P N l a Q fr S):jy P N l c Q fr S:=by rw[e]; exact h
end
section
variable {α:Type}{r:Rp α}{G:Mem}
def hP.nW(a:hP r G):Value:=a.1.1.headD Value.nilFunc
theorem hP.Zuy{a:hP r G}(h:(hP.enc a).length=1):hP.enc a=[hP.nW a]:=by
 obtain⟨⟨cs,x⟩,c⟩:=a
 change cs.length=1 at h
 change cs=[cs.headD Value.nilFunc]
 match cs,h with
 | [u],_=>rfl
end
variable {P:Program}{ρ:Go.Shelf.Ren}
set_option maxHeartbeats 1000000 in
theorem Ll{α:Type}{r:Rp α}(ap:r.size=1){Q:α->α->Int}(Y:Go.Sort.SWO (Go.Proofs.ltOf Q))(S:Go.Proofs.SlLaysF.n14 P ρ){f g:Nat}(hf:ρ.f 14=f)
  (hg:∀ (x y:α) (u v:Value),ä P g #[u,v] (λG=>r.jJ G [u] x/\r.jJ G [v] y) (λ_ v=>v = .int .i64 (Q x y))) (eg:∀ args w,(callFunc g args).run P w = .ok (.enter g args) w)
  (e:TypeId) (p:ŀ Addr) (n c:Nat) (l:Ŀ α) (tk:ŀ Ow) (E:Nat) (ag:E<4611686018427387904) (ar:l.length<=1000000000) :
  ò P f #[.slice p n c,.int .i64 0,.int .i64 (l.length:Int),.int .i64 (E:Int),.func (.func g) #[] #[]] [(5000,tk)] (λG=>Η r e G (.slice p n c) l tk)
   (λG L v=>∃ ys ak,L=[(5000,ak)]/\v = .tuple #[]/\Η r e G (.slice p n c) ys ak/\ys.Perm l/\ys.Pairwise (λa b=>Go.Proofs.ltOf Q b a=false)):=by
 subst hf
 intro w G hi q
 by_cases J:l=[]
 .subst J
  obtain⟨p',c',O⟩:=q.form
  cases O
  refine (aat { S with } p c (E:Int) _ w).mono ?_
  rintro en w' ⟨rfl,rfl⟩
  exact⟨_,G,[(5000,tk)],rfl,hi.st.mE,[],tk,rfl,rfl,q,ů _,List.Pairwise.nil⟩
 cases tk with
 | none=>exact absurd q.1 J
 | some y=>
  obtain⟨cap,cs,rest,Z,h2,h3,h4,h5,h6,h7⟩:=q
  obtain⟨b,o,m⟩:=y
  dsimp only at Z h2 h3
  subst h2 h3
  cases Z
  obtain⟨d,al,hd⟩:=Ã.elts h4
  subst al
  have ab:d.length=l.length:=by rw[<- hd,Č]
  haveI:Inhabited (hP r G):=⟨d[0]'(by have:=Ŷ.2 J; omega)⟩
  have hl:∀ x:hP r G,(hP.enc x).length=1:=λx=>by rw[<- ap]; exact r.len x.2
  have U:∀ x:hP r G,hP.enc x=[hP.nW x]:=λx=>hP.Zuy (hl x)
  have H:∀ d:Ŀ (hP r G),d.flatMap hP.enc=d.map hP.nW:=λd=>by
   induction d with
   | nil=>rfl
   | cons a d ih=>rw[gj,U,ih]; rfl
  have ai:∀ x:hP r G,∀ v ∈ hP.enc x,v.oneCell'=true:=λx=>r.one x.2
  let cf:hP r G->hP r G->Int:=λx y=>Q x.1.2 y.1.2
  have hO:Go.Sort.SWO (Go.Proofs.ltOf cf):=⟨λx=>Y.irrefl x.1.2,λx y z=>Y.trans x.1.2 y.1.2 z.1.2,λx y z=>Y.ntrans x.1.2 y.1.2 z.1.2⟩
  have I:Lo.get [(5000,some ⟨b,Obj.cells (d.flatMap hP.enc++rest).toArray e (0,0),0⟩)] 5000=some ⟨b,.cells (d.flatMap hP.enc++rest).toArray e (0,0),0⟩:=by simp[Lo.get]
  obtain⟨hb,R⟩:=hi.loc 5000 _ I
  dsimp only at hb R
  have aa:b<w.heap.size:=(Ĉ.1 hb).1
  have ad:∀ (m:Nat) (os:Array Obj) (dk:Array (hP r G)),sa G (Go.Proofs.sortWorld hP.nW w b 0 m dk os):=by
   intro m os dk b' o' v O
   have s:b'≠b:=λe=>by subst e; rw[R o' (ġ _)] at O; cases O
   have T:=hi.ls b' o' v O
   have ao:b'<w.heap.size:=sa.lt hi.ls O
   have hh:(Go.Proofs.sortWorld hP.nW w b 0 m dk os).heap[b']? = w.heap[b']?:=by
    simp only[Go.Proofs.sortWorld,Go.Sort.grow,Go.Sort.putRow,Go.Sort.mapBlock,Go.Sort.ahead]
    rw[ı (by simpa using ao),ħ,Ā (λe=>s e.symm)]
   unfold World.cell? at T ⊢
   dsimp only at T ⊢
   rw[hh]; exact T
  have T:Go.Proofs.CmpLays1 P g #[] hP.nW cf b 0 d.toArray.size w:=by
   intro m os dk _ x y
   refine (hg x.1.2 y.1.2 (hP.nW x) (hP.nW y) _ G ⟨ad m os dk,λi x A=>by simp[Lo.get] at A,λi j x y _ A=>by simp[Lo.get] at A⟩ ⟨by rw[<- U]; exact x.2,by rw[<- U]; exact y.2⟩).mono ?_
   rintro en w' ⟨r',G',L',he,A,rfl⟩
   exact⟨he,Od A.os A.tape A.output A.drawn A.size λk F=>A.block k F (λ_ _ h=>by simp[Lo.get] at h)⟩
  have hH:Go.Sort.Holds hP.nW w b 0 d.toArray:=by
   intro j hj
   simp only[ĥ] at hj
   have Z:(d.flatMap hP.enc)[j]? = some (hP.nW d[j]):=by rw[H,aah,Ą hj]; rfl
   constructor
   .simp only[World.cell?,hb,ļ,aba,Ŏ,aad,ę]
    rw[ĕ (by rw[H,Č]; exact hj),Z]
    rw[š _ _ (by simpa using hj)]; simp
   simp[World.frozen?,hb]
  have X:Go.Proofs.OneCell (hP.nW (r:=r) (G:=G)):=λx=>ai x _ (by rw[U]; simp)
  have hS:=Go.Proofs.Any.pdqsortCmpFunc_all S hP.nW cf g #[] hO b 0 c d.toArray w eg T ⟨X,hH,aa⟩ (d.toArray.size+1) 0 d.toArray.size E d.toArray w (by omega) rfl (Go.Proofs.SW.start hH) (ġ _) (č _) (by simp; omega) ag (Or.inl rfl)
  have D:=Go.Sort.pdq_sorts (Go.Proofs.ltOf cf) hO d.toArray 0 d.toArray.size E true true (ġ _) (č _) (Or.inl rfl)
  generalize Go.Sort.pdq (Go.Proofs.ltOf cf) d.toArray 0 d.toArray.size E true true=d' at hS D
  obtain⟨⟨aj,_,K⟩,N⟩:=D
  have C:d'.toList.Perm d:=by
   have e1:(d'.extract 0 d.toArray.size).toList=d'.toList:=by rw[<- aj,Array.extract_size]
   have e2:(d.toArray.extract 0 d.toArray.size).toList=d:=by simp
   rw[e1,e2] at K; exact K
  rw[show (d.toArray.size:Nat)=l.length by simpa using ab] at hS
  refine aas (by simpa using hS) ?_
  rintro en w' ⟨rfl,n,os,hw⟩
  have W:d'.toList.length=d.length:=C.length_eq
  have t:w'=Go.Sort.grow (Go.Sort.putRow hP.nW (Go.Sort.ahead w n) b 0 d') os:=hw
  have B:∀ k,k<w.heap.size->k≠b->w'.heap[k]? = w.heap[k]?:=by
   intro k F s
   rw[t]
   simp only[Go.Sort.grow,Go.Sort.putRow,Go.Sort.mapBlock,Go.Sort.ahead]
   rw[ı (by simpa using F),ħ,Ā (λe=>s e.symm)]
  have ac:(d'.toList.flatMap hP.enc).length=(d.flatMap hP.enc).length:=by rw[A0 hl,A0 hl,W]
  have q:w'.heap[b]? = some (.cells (d'.toList.flatMap hP.enc++rest).toArray e (0,0)):=by
   rw[t]
   simp only[Go.Sort.grow,Go.Sort.putRow,Go.Sort.mapBlock,Go.Sort.ahead]
   rw[ı (by simpa using aa),ħ,Ă rfl,hb]
   simp only[Ĥ,Go.Sort.onCells,Ď,abA,and_true]
   apply aab
   intro k
   simp only[Go.Sort.putCells,aaN,ę,ġ,true_and,ļ,fP]
   by_cases F:k<(d.flatMap hP.enc).length
   .rw[ĕ F,ĕ (by omega),Ą F,Ą (by omega:k<(d'.toList.flatMap hP.enc).length)]
    have V:k<d'.size:=by rw[H,Č] at F; rw[<- Ĭ]; omega
    simp only[Ĥ,Ă V]
    rw[š d' k V]
    simp only[H,List.getElem_map,aaT]
   rw[Ī (by omega),Ī (by omega),ac]
   cases rest[k-(d.flatMap hP.enc).length]? with
   | none=>rfl
   | some v=>
    have V:¬ k<d'.size:=by rw[H,Č] at F; rw[<- Ĭ]; omega
    simp only[Ĥ,Ā V]
  have aq:w.heap.size<=w'.heap.size:=by
   rw[t]; simp[Go.Sort.grow,Go.Sort.putRow,Go.Sort.mapBlock,Go.Sort.ahead]
  have one:∀ j x,Lo.get [(5000,some (⟨b,Obj.cells (d'.toList.flatMap hP.enc++rest).toArray e (0,0),0⟩:Ow))] j=some x->x=⟨b,Obj.cells (d'.toList.flatMap hP.enc++rest).toArray e (0,0),0⟩/\5000=j:=by
   intro j x A
   rw[Lo.Zn] at A
   split at A
   .rename_i e'; cases A; exact⟨rfl,e'⟩
   simp[Lo.get] at A
  have ah:(d'.toList.map (λa=>a.1.2)).length=l.length:=by rw[Č,W,ab]
  refine⟨_,G,[(5000,some ⟨b,.cells (d'.toList.flatMap hP.enc++rest).toArray e (0,0),0⟩)],rfl,⟨by rw[t]; rfl,by rw[t]; rfl,by rw[t]; rfl,by rw[t]; simp[Go.Sort.grow,Go.Sort.putRow,Go.Sort.mapBlock,Go.Sort.ahead],aq,?_,Mem.le_refl _,?_,λ_ _ _ h=>.inl h,?_,?_⟩,d'.toList.map (λa=>a.1.2),_,rfl,rfl,?_,?_,?_⟩
  .intro k F hn
   exact B k F λe=>by subst e; exact hn 5000 _ I rfl
  .intro k o v O
   have T:=hi.ls k o v O
   have s:k≠b:=λe=>by subst e; rw[R o (ġ _)] at O; cases O
   have F:k<w.heap.size:=x9 w _ T
   simp only[World.cell?,B k F s] at T ⊢
   exact T
  .intro j x hj
   obtain⟨rfl,rfl⟩:=one j x hj
   exact⟨q,.inl ⟨_,I,rfl⟩,R⟩
  .intro j k x y s Z h2
   exact absurd ((one j x Z).2.symm.trans (one k y h2).2) s
  .refine⟨c,d'.toList.flatMap hP.enc,rest,by rw[ah],rfl,rfl,Ã.rf _,?_,h6,by rw[ah]; exact h7⟩
   rw[ā,ac,<- ā]; exact h5
  .have:=C.map (λa=>a.1.2)
   rwa [hd] at this
  rw[Ľ]
  rw[Ę]
  intro i j am ae an
  have hs:=N i j (ġ _) an (by simp only[Ĭ] at ae; omega)
  rw[š _ _ (by simpa using ae),š _ _ (by simpa using am)] at hs
  simp only[aaT]
  exact hs
section
variable {α β:Type}{r:Rp α}{f:β->α}{G:Mem}{e:TypeId}
theorem Ã.via:∀ {l:Ŀ β}{cs:Ŀ Value},Ã (r.via f) G cs l↔Ã r G cs (l.map f)
 | [],_=>aa3
 | x::l,cs=>by
  constructor
  .rintro⟨c,d,a,e,g⟩; exact⟨c,d,a,e,Ã.via.1 g⟩
  rintro⟨c,d,a,e,g⟩; exact⟨c,d,a,e,Ã.via.2 g⟩
theorem Η.via{v:Value}{l:Ŀ β}{tk:ŀ Ow}:Η (r.via f) e G v l tk↔Η r e G v (l.map f) tk:=by
 cases tk with
 | none=>
  constructor
  .rintro⟨rfl,h⟩; exact⟨rfl,h⟩
  rintro⟨a,h⟩; exact⟨aaY.1 a,h⟩
 | some x=>
  constructor
  .rintro⟨cap,cs,rest,a,d,g,i,j,m,c⟩
   exact⟨cap,cs,rest,by rw[Č]; exact a,d,g,Ã.via.1 i,j,m,by rw[Č]; exact c⟩
  rintro⟨cap,cs,rest,a,d,g,i,j,m,c⟩
  rw[Č] at a c
  exact⟨cap,cs,rest,a,d,g,Ã.via.2 i,j,m,c⟩
end
theorem Y0.CW{P:Program}{N:Nat}{fr:Fr}{S:Υ}{dst:ŀ Nat}{ty:TypeId}{pos:String}{af:Array Edge}{g:ŀ (Nat×Bool)}{t e:TypeId}{x f h:Operand}{b n lo hi:Nat}{u v:IntKind}(q:P.underlying t=some (.array n e))(d:(P.info? e).map (·.size)=some 1)
  (r:fr.ev x=some (.pointer (some ⟨b,0,none⟩))) (i:fr.ev f=some (.int u (lo:Int))) (j:fr.ev h=some (.int v (hi:Int))) (m:lo<n) (l:lo<=hi) (p:hi<=n) :
  Y0 P N ⟨dst,.slice t x (some f) (some h) none,ty,pos,af,g⟩ fr S (.slice (some ⟨b,lo,none⟩) (hi-lo) (n-lo)):=λa w c _=>by
 have s:¬ n=lo:=by omega
 simp only[execOp,c.ev r,c.ev i,c.ev j,Ŕ,Ĥ]
 simp[Instr.sliceAt,đ q,Instr.sureAddr,Instr.sliceBounds,Instr.sliceBound,asIntOf,run_sizeOf d,rD,l,p,s]
theorem Y0.Lb{P:Program}{N:Nat}{fr:Fr}{S:Υ}{dst:ŀ Nat}{ty:TypeId}{pos:String}{af:Array Edge}{g:ŀ (Nat×Bool)}{t b:TypeId}{x y:Operand}{s u:Ĳ}(a:fr.ev x=some (.string s))(c:fr.ev y=some (.string u)):
  Y0 P N ⟨dst,.binOp .lss t x y b,ty,pos,af,g⟩ fr S (.bool (Op.bytesLess s.toList u.toList)):=
 Y0.bin a c (HN _ _ _ _ _ _) λw=>by simp[binOp,Op.stringOp]
section
variable {P:Program}{N:Nat}{Q:õ}{fr:Fr}{w0:Bs}{G0 G:Mem}{L:Lo}{ops:Array Oper}{ty:TypeId}{pos:String}{af:Array Edge}{g:ŀ (Nat×Bool)}{fs:Ŀ Bool}{l:Ŀ Oper}{Χ:Fr}{Ω:mK}{d:Nat}{op:Op}
variable {α β:Type}{r:Rp α}{e:TypeId}{r':Rp β}{e':TypeId}
def Di(r:Rp β)(ys:Ŀ β):Mem->Value->Prop:=λG v=>∃ p c,v = .slice p ys.length c/\ë r G (.slice p ys.length c) ys
theorem η.qB{Bt:Υ}{f:FuncId}{kk:Nat}{xs:Ŀ α}(ys:Ŀ β)(hg:∀ u,κ ops (ψ Ω u++(Χ++fr)) ⟨some d,op,ty,pos,af,g⟩ true)
  (hk:Ω.any (λp=>Nat.beq p.1 kk)=true) (hl:((⟨some d,op,ty,pos,af,g⟩:Oper).looksAt ops).contains kk=true) (H:oU ops kk=true)
  (h:∀ u (G':Gx),Mem.le G G'.m->ô ops ⟨some d,op,ty,pos,af,g⟩ Ω u G'->∃ v,kZ r e kk xs v G'/\∀ p c tk,v = .slice p xs.length c->Η r e G'.m (.slice p xs.length c) xs tk->∃ args m C,(∀ S,YC P N ⟨some d,op,ty,pos,af,g⟩ (ψ Ω u++(Χ++fr)) S f m)/\
   ò P f args [(5000,tk)] C (λG L v=>∃ E zc n,L=[(5000,n)]/\v = .slice E ys.length zc/\Η r' e' G (.slice E ys.length zc) ys n)/\m=args/\C G'.m)
  (k:η P N Q fr w0 G0 G L ops Bt fs l Χ ((d,λv g=>Di r' ys g.m v)::mS (some kk) Ω)):η P N Q fr w0 G0 G L ops Bt (false::fs) (⟨some d,op,ty,pos,af,g⟩::l) Χ Ω:=
 η.B7 d kk (λv g=>Di r' ys g.m v) rfl hk hl H (λv _ _ h hh=>by obtain⟨p,c,A,s⟩:=hh; exact⟨p,c,A,s.mono h.1⟩) (λu G' F hu=>by
  obtain⟨v,⟨p,c,tk,A,s,O⟩,Z⟩:=h u G' F.1 hu
  refine .inr ⟨hg u,λa w ha D=>?_⟩
  have W:St ⟨w,[(5000,tk)]⟩ G'.m G'.m [(5000,tk)] w:=Hp.st ⟨D.st.ls,λi y hi=>by
   rw[Lo.Zn] at hi
   split at hi
   .obtain⟨J,U,K,V⟩:=D.own _ _ _ (O y hi)
    exact⟨J,λk _=>K k⟩
   .simp[Lo.get] at hi,λi j y y' aa A s=>by
   rw[Lo.Zn] at A s
   split at A
   .split at s
    .omega
    simp[Lo.get] at s
   simp[Lo.get] at A⟩
  have B:Lo.zero [(5000,tk)]:=λq T y I=>by
   rw[ī] at T
   subst T
   exact s.zero I
  obtain⟨args,m,C,J,U,K,V⟩:=Z p c tk A s
  rw[J _ a w ha D]
  subst K
  refine (U w G'.m (W.hp (Lo.tg _)) V).mono λe' w' ⟨rv,X,L2,p1,p2,E,zc,n,p3,p4,p5⟩=>⟨rv,p1,?_⟩
  subst p3
  have s2:St ⟨w,[(5000,tk)]⟩ G'.m X [(5000,n)] w':=W.ext (R:=[]) p2 (Lo.tg _) (Lo.Zs _) (λi x t=>by simp[Lo.get] at t) (λi x y hi _ z hz=>by rw[show x=z from Ŵ (hi.symm.trans hz)]; exact č _) (λi x t=>.inl t)
  obtain⟨Y,ab,f1,f2,_,f4,_⟩:=p5.vz (w0:=⟨w,[(5000,tk)]⟩) (key:=5000) (by simp[Lo.Zn]) B s2
  have s3:St ⟨w,[(5000,tk)]⟩ G'.m Y [(5000,none)] w':=f4.weaken (λi x t=>by
   rw[Lo.Zn] at t
   split at t
   .cases t
   simp[Lo.get] at t)
  obtain⟨s4,s5⟩:=D.vy (d:=d) (k:=some kk) (i0:=5000) (tk:=none) s3.mE (λi y hi=>by
   rw[Lo.Zn] at hi
   split at hi
   .exact⟨kk,y.o,rfl,O y hi⟩
   simp[Lo.get] at hi) (λy I=>by cases I)
  exact⟨_,s5,s4,E,zc,p4,f2⟩) k
end
theorem υ{A fr:Fr}(h:A.map (λp=>fr.get p.1)=A.map (λp=>some p.2)):Fr.sub A fr:=by
 induction A with
 | nil=>exact Fr.Zs _
 | cons p A a=>
  simp only[ė,fv] at h
  exact Fr.Ze h.1 (a h.2)
theorem oA{a b r:Prop}(h:a/\b)(k:a->b->r):r:=k h.1 h.2
theorem oE{α:Type}{p q:α->Prop}{r:Prop}(h:∃ x,p x/\q x)(k:∀ x,p x->q x->r):r:=let ⟨x,a,b⟩:=h; k x a b
section
variable {P:Program}{N:Nat}{Q:õ}{fr:Fr}{S:Υ}
theorem WC.Lv{Y β:Type}{x y:Code}{m:Cq β}{Ψ:β->Prop}(_:m.wp Ψ)(e:Y->Fr×Cq β×Prop×Υ)(a:WC P N x (Exit.then (xx N (λy=>(e y).1) (λy=>(e y).2.1.wp Ψ/\(e y).2.2.1) (λy=>(e y).2.2.2)) Q) fr S)
  (c:∀ z,(e z).2.1.wp Ψ/\(e z).2.2.1->WC P N y Q (e z).1 (e z).2.2.2):WC P N (.seq x y) Q fr S:=WC.sE _ _ _ a c
theorem WC.CK{X Y σ ρ β:Type}{id:Nat}{c:Code}{step:σ->Cq (σ⊕ρ)}{d:σ}{k:ρ->Cq β}{Ψ:β->Prop}(m:((Cq.loop step d).next k).wp Ψ)(g:X->σ×Fr×Prop×Υ)(e:Y->ρ×Fr×Prop×Υ)(a:X)(f:(g a).1=d)(i:Fr.sub (g a).2.1 fr)(j:(g a).2.2.1)(l:∀ w,S w->(g a).2.2.2 w)
  (round:∀ (A:σ->Prop) x,(g x).2.2.1->(step (g x).1).wp (Out A λo=>(k o).wp Ψ)->WC P N c (Exit.then (sS N (λx=>(g x).2.1) (λx=>(g x).2.2.1) (λx=>(g x).2.2.2) (λx=>(g x).1) A) (Exit.inBlock id (u4 N (λy=>(e y).2.1) (λy=>(k (e y).1).wp Ψ/\(e y).2.2.1) (λy=>(e y).2.2.2) Q))) (g x).2.1 (g x).2.2.2)
  (h:∀ z,(k (e z).1).wp Ψ/\(e z).2.2.1->WE N Q .normal (e z).2.1 (e z).2.2.2):WC P N (.block id (.loop c)) Q fr S:=by
 subst f
 exact WC.CJ (λy=>(e y).2.1) (λy=>(k (e y).1).wp Ψ/\(e y).2.2.1) (λy=>(e y).2.2.2) (WC.block (WC.CG (Φ:=λo=>(k o).wp Ψ) (λx=>(g x).1) (λx=>(g x).2.1) (λx=>(g x).2.2.1) (λx=>(g x).2.2.2) a m i j l round)) h
end
section
variable {P:Program}{N:Nat}{Q:õ}{fr:Fr}{S:Υ}{ops:Array Oper}{l:Ŀ Oper}{dst:ŀ Nat}{op:Op}{ty:TypeId}{pos:String}{af:Array Edge}{v:Value}{x:Operand}
theorem γ(h:Y0 P N ⟨dst,op,ty,pos,af,none⟩ fr S v)(k:WL P N ops Q l (ξ dst v fr) S)(a:è N dst:=by exact rfl):WL P N ops Q (⟨dst,op,ty,pos,af,none⟩::l) fr S:=yy h a k
theorem δ(h:fr.ev x=some v)(k:WL P N ops Q l (ξ dst v fr) S)(a:è N dst:=by exact rfl):WL P N ops Q (⟨dst,.move x,ty,pos,af,none⟩::l) fr S:=mv h a k
theorem ς(h:fr.ev x=some v)(k:WL P N ops Q l (ξ dst v fr) S)(a:è N dst:=by exact rfl):WL P N ops Q (⟨dst,.assign x,ty,pos,af,none⟩::l) fr S:=sg h a k
theorem ù{Bt:Υ}{w0:Bs}{G0 G:Mem}{L:Lo}{fs:Ŀ Bool}{Χ:Fr}(h:(Χ++fr).ev x=some v)(k:η P N Q fr w0 G0 G L ops Bt fs l (ξ dst v Χ) []):η P N Q fr w0 G0 G L ops Bt (false::fs) (⟨dst,.move x,ty,pos,af,none⟩::l) Χ []:=cn (λ_ _=>Y0.move h) k
theorem é{t yt:TypeId}{y:Operand}{k:IntKind}{a b:Int}(h:(fr.ev x,fr.ev y)=(some (.int k a),some (.int k b)))(kk:WL P N ops Q l (ξ dst (.int k (k.wrap (a+b))) fr) S)(c:è N dst:=by exact rfl):WL P N ops Q (⟨dst,.binOp .add t x y yt,ty,pos,af,none⟩::l) fr S:=yy (Y0.add (ć Prod.fst h) (ć Prod.snd h)) c kk
theorem Ï{t yt:TypeId}{y:Operand}{k:IntKind}{a b:Int}(h:(fr.ev x,fr.ev y)=(some (.int k a),some (.int k b)))(kk:WL P N ops Q l (ξ dst (.bool (decide (a<b))) fr) S)(c:è N dst:=by exact rfl):WL P N ops Q (⟨dst,.binOp .lss t x y yt,ty,pos,af,none⟩::l) fr S:=yy (Y0.lss (ć Prod.fst h) (ć Prod.snd h)) c kk
theorem Δ{c y:Operand}(h:(fr.ev c,fr.ev x)=(some (.bool true),some v))(kk:WL P N ops Q l (ξ dst v fr) S)(a:è N dst:=by exact rfl):WL P N ops Q (⟨dst,.pick c x y,ty,pos,af,none⟩::l) fr S:=yy (Y0.rS (ć Prod.fst h) (ć Prod.snd h)) a kk
theorem Γ{c y:Operand}(h:(fr.ev c,fr.ev y)=(some (.bool false),some v))(kk:WL P N ops Q l (ξ dst v fr) S)(a:è N dst:=by exact rfl):WL P N ops Q (⟨dst,.pick c x y,ty,pos,af,none⟩::l) fr S:=yy (Y0.rR (ć Prod.fst h) (ć Prod.snd h)) a kk
theorem Û{i:Nat}{vs:Array Value}(h:(fr.ev x,vs[i]?)=(some (.tuple vs),some v))(kk:WL P N ops Q l (ξ dst v fr) S)(a:è N dst:=by exact rfl):WL P N ops Q (⟨dst,.extract x i,ty,pos,af,none⟩::l) fr S:=yy (Y0.extract (ć Prod.fst h) (ć Prod.snd h)) a kk
theorem Â{j d:Nat}{c:Bool}(h:((ops[j]?).bind (·.dst),fr.get d,fr.ev x)=(some d,some (.bool c),some v))(kk:WL P N ops Q l (ξ dst v fr) S)(a:è N dst:=by exact rfl):WL P N ops Q (⟨dst,.move x,ty,pos,af,some (j,c)⟩::l) fr S:=gy (ć (·.1) h) (ć (·.2.1) h) (Y0.move (ć (·.2.2) h)) a kk
theorem θ{y:Code}(h:fr.ev x=some v)(kk:WC P N y Q (ξ dst v fr) S)(a:è N dst:=by exact rfl):WL P N ops (Exit.then (y.wp P Q) Q) [⟨dst,.assign x,ty,pos,af,none⟩] fr S:=sg h a (nx kk)
theorem ø{w0:Bs}{G0 G:Mem}{L:Lo}{t t':TypeId}{y:Operand}{b n:Nat}{c c':Array Value}(i:Nat)(a:(P.info? t).map (·.size)=some n)(h:(fr.ev x,fr.ev y,L.get i,c.size,c'.size,c'.toList.all Value.oneCell')=(some (.pointer (some ⟨b,0,none⟩)),some (.agg c'),some ⟨b,.cells c t' (0,0),0⟩,n,n,true))
  (kk:WL P N ops Q l fr (St w0 G0 G ((i,some ⟨b,.cells c' t' (0,0),0⟩)::L))):WL P N ops Q (⟨none,.store t x y,ty,pos,af,none⟩::l) fr (St w0 G0 G L):=WL.jw i Zf a (ć (·.1) h) (ć (·.2.1) h) (ć (·.2.2.1) h) (ć (·.2.2.2.1) h) (ć (·.2.2.2.2.1) h) (Ĕ.1 (ć (·.2.2.2.2.2) h)) kk
end
end Go.EL

namespace Go.Proofs.YtdigmacmdlpckaaGreat
open Go.IntKind (i8 i16 i32 i64 u8 u16 u32 u64)
open Go.Proofs.Tryz
open Go Go.EL Go.RowKit Go.Proofs
theorem gp:prog.follows .mixedOrders=true:=by kernel_rfl
def kQ(t i k:Nat):Prop:=∀ ⦃N:Nat⦄ ⦃dst:ŀ Nat⦄ ⦃ty:TypeId⦄ ⦃pos:String⦄ ⦃af:Array Edge⦄ ⦃g:ŀ (Nat×Bool)⦄ ⦃fr:Fr⦄ ⦃S:Υ⦄ ⦃x:Operand⦄ ⦃b off:Nat⦄,fr.ev x=some (.pointer (some ⟨b,off,none⟩))->Y0 prog N ⟨dst,.fieldAddr t x i,ty,pos,af,g⟩ fr S (.pointer (some ⟨b,off+k,none⟩))
theorem k7{t i k:Nat}{fs:Array Field}{a:Field}(e:prog.underlying t=some (.struct fs))(c:fs[i]? = some a)(d:a.offset=k)(hp:∀ b off w,(fieldPlace ⟨b,off,none⟩ a).run prog w = .ok ⟨b,off+a.offset,none⟩ w):kQ t i k:=by
 intro N dst ty pos af g fr S x b off f
 subst d
 exact Y0.fieldAddr e c (hp b off) f
abbrev En:=Enters prog
abbrev eo:=@enters_of
theorem E4:En 4:=eo func4 (by kernel_rfl) rfl
theorem E5:En 5:=eo func5 (by kernel_rfl) rfl
theorem E6:En 6:=eo func6 (by kernel_rfl) rfl
theorem E7:En 7:=eo func7 (by kernel_rfl) rfl
theorem E8:En 8:=eo func8 (by kernel_rfl) rfl
theorem E9:En 9:=eo func9 (by kernel_rfl) rfl
theorem SJ:En 10:=eo func10 (by kernel_rfl) rfl
theorem xf:En 11:=eo func11 (by kernel_rfl) rfl
theorem uy:En 12:=eo func12 (by kernel_rfl) rfl
theorem LM:En 13:=eo func13 (by kernel_rfl) rfl
theorem SK:En 14:=eo func14 (by kernel_rfl) rfl
theorem LN:En 15:=eo func15 (by kernel_rfl) rfl
theorem LO:En 16:=eo func16 (by kernel_rfl) rfl
theorem Df:En 17:=eo func17 (by kernel_rfl) rfl
theorem Gr:En 18:=eo func18 (by kernel_rfl) rfl
theorem SL:En 19:=eo func19 (by kernel_rfl) rfl
theorem SM:En 20:=eo func20 (by kernel_rfl) rfl
theorem SN:En 21:=eo func21 (by kernel_rfl) rfl
theorem LP:En 22:=eo func22 (by kernel_rfl) rfl
theorem LQ:En 23:=eo func23 (by kernel_rfl) rfl
theorem SO:En 24:=eo func24 (by kernel_rfl) rfl
theorem SP:En 25:=eo func25 (by kernel_rfl) rfl
theorem LR:En 26:=eo func26 (by kernel_rfl) rfl
theorem LS:En 27:=eo func27 (by kernel_rfl) rfl
theorem SQ:En 28:=eo func28 (by kernel_rfl) rfl
theorem LU:En 29:=eo func29 (by kernel_rfl) rfl
theorem SR:En 30:=eo func30 (by kernel_rfl) rfl
theorem LV:En 31:=eo func31 (by kernel_rfl) rfl
theorem LW:En 32:=eo func32 (by kernel_rfl) rfl
theorem Dg:En 33:=eo func33 (by kernel_rfl) rfl
theorem SS:En 34:=eo func34 (by kernel_rfl) rfl
theorem SU:En 35:=eo func35 (by kernel_rfl) rfl
theorem LX:En 36:=eo func36 (by kernel_rfl) rfl
theorem G6:En 37:=eo func37 (by kernel_rfl) rfl
theorem LY:En 38:=eo func38 (by kernel_rfl) rfl
theorem SV:En 39:=eo func39 (by kernel_rfl) rfl
theorem SX:En 40:=eo func40 (by kernel_rfl) rfl
theorem LZ:En 41:=eo func41 (by kernel_rfl) rfl
theorem SY:En 42:=eo func42 (by kernel_rfl) rfl
theorem AD:En 43:=eo func43 (by kernel_rfl) rfl
theorem L3:En 44:=eo func44 (by kernel_rfl) rfl
theorem L4:En 45:=eo func45 (by kernel_rfl) rfl
theorem AE:En 46:=eo func46 (by kernel_rfl) rfl
theorem AF:En 47:=eo func47 (by kernel_rfl) rfl
theorem G7:En 48:=eo func48 (by kernel_rfl) rfl
theorem G8:En 49:=eo func49 (by kernel_rfl) rfl
theorem G9:En 50:=eo func50 (by kernel_rfl) rfl
theorem Ha:En 51:=eo func51 (by kernel_rfl) rfl
theorem Hb:En 52:=eo func52 (by kernel_rfl) rfl
theorem L5:En 53:=eo func53 (by kernel_rfl) rfl
theorem SZ:En 54:=eo func54 (by kernel_rfl) rfl
theorem S0:En 55:=eo func55 (by kernel_rfl) rfl
theorem S1:En 56:=eo func56 (by kernel_rfl) rfl
theorem S2:En 57:=eo func57 (by kernel_rfl) rfl
theorem S3:En 58:=eo func58 (by kernel_rfl) rfl
theorem S4:En 59:=eo func59 (by kernel_rfl) rfl
theorem Hc:En 60:=eo func60 (by kernel_rfl) rfl
theorem L6:En 61:=eo func61 (by kernel_rfl) rfl
theorem L7:En 62:=eo func62 (by kernel_rfl) rfl
theorem AG:En 63:=eo func63 (by kernel_rfl) rfl
theorem L8:En 64:=eo func64 (by kernel_rfl) rfl
theorem S5:En 65:=eo func65 (by kernel_rfl) rfl
theorem S6:En 66:=eo func66 (by kernel_rfl) rfl
theorem S7:En 67:=eo func67 (by kernel_rfl) rfl
theorem S8:En 68:=eo func68 (by kernel_rfl) rfl
theorem S9:En 69:=eo func69 (by kernel_rfl) rfl
theorem L9:En 70:=eo func70 (by kernel_rfl) rfl
theorem Ta:En 71:=eo func71 (by kernel_rfl) rfl
theorem Dh:En 72:=eo func72 (by kernel_rfl) rfl
theorem Tb:En 73:=eo func73 (by kernel_rfl) rfl
theorem Tc:En 74:=eo func74 (by kernel_rfl) rfl
theorem Hd:En 75:=eo func75 (by kernel_rfl) rfl
theorem Td:En 76:=eo func76 (by kernel_rfl) rfl
theorem Te:En 77:=eo func77 (by kernel_rfl) rfl
theorem ze:En 78:=eo func78 (by kernel_rfl) rfl
theorem AH:En 79:=eo func79 (by kernel_rfl) rfl
theorem Tf:En 80:=eo func80 (by kernel_rfl) rfl
theorem Tg:En 81:=eo func81 (by kernel_rfl) rfl
theorem Th:En 82:=eo func82 (by kernel_rfl) rfl
theorem Ti:En 83:=eo func83 (by kernel_rfl) rfl
theorem Ma:En 84:=eo func84 (by kernel_rfl) rfl
theorem Tj:En 85:=eo func85 (by kernel_rfl) rfl
theorem Tk:En 86:=eo func86 (by kernel_rfl) rfl
theorem Mb:En 87:=eo func87 (by kernel_rfl) rfl
theorem Tl:En 88:=eo func88 (by kernel_rfl) rfl
theorem Tm:En 89:=eo func89 (by kernel_rfl) rfl
theorem Tn:En 90:=eo func90 (by kernel_rfl) rfl
theorem To:En 91:=eo func91 (by kernel_rfl) rfl
theorem Tp:En 92:=eo func92 (by kernel_rfl) rfl
theorem Mc:En 93:=eo func93 (by kernel_rfl) rfl
theorem Tq:En 94:=eo func94 (by kernel_rfl) rfl
theorem Tr:En 95:=eo func95 (by kernel_rfl) rfl
theorem Md:En 96:=eo func96 (by kernel_rfl) rfl
theorem Me:En 97:=eo func97 (by kernel_rfl) rfl
theorem He:En 98:=eo func98 (by kernel_rfl) rfl
theorem Ts:En 99:=eo func99 (by kernel_rfl) rfl
theorem z8:En 101:=eo func101 (by kernel_rfl) rfl
theorem FX:En 102:=eo func102 (by kernel_rfl) rfl
theorem sT:En 103:=eo func103 (by kernel_rfl) rfl
theorem uV:En 104:=eo func104 (by kernel_rfl) rfl
theorem xd:En 105:=eo func105 (by kernel_rfl) rfl
theorem Aa:En 106:=eo func106 (by kernel_rfl) rfl
theorem qS:En 107:=eo func107 (by kernel_rfl) rfl
theorem FY:En 108:=eo func108 (by kernel_rfl) rfl
theorem FZ:En 109:=eo func109 (by kernel_rfl) rfl
theorem F0:En 110:=eo func110 (by kernel_rfl) rfl
theorem F1:En 111:=eo func111 (by kernel_rfl) rfl
theorem F2:En 112:=eo func112 (by kernel_rfl) rfl
theorem F3:En 113:=eo func113 (by kernel_rfl) rfl
theorem F4:En 114:=eo func114 (by kernel_rfl) rfl
theorem Ab:En 115:=eo func115 (by kernel_rfl) rfl
theorem F5:En 116:=eo func116 (by kernel_rfl) rfl
theorem F6:En 117:=eo func117 (by kernel_rfl) rfl
theorem F7:En 118:=eo func118 (by kernel_rfl) rfl
theorem Ac:En 119:=eo func119 (by kernel_rfl) rfl
theorem sU:En 120:=eo func120 (by kernel_rfl) rfl
theorem F8:En 121:=eo func121 (by kernel_rfl) rfl
theorem xg:En 122:=eo func122 (by kernel_rfl) rfl
theorem Ad:En 123:=eo func123 (by kernel_rfl) rfl
theorem Ae:En 124:=eo func124 (by kernel_rfl) rfl
theorem sV:En 125:=eo func125 (by kernel_rfl) rfl
theorem pE:En 126:=eo func126 (by kernel_rfl) rfl
theorem uW:En 127:=eo func127 (by kernel_rfl) rfl
theorem F9:En 128:=eo func128 (by kernel_rfl) rfl
theorem Af:En 129:=eo func129 (by kernel_rfl) rfl
theorem Ag:En 130:=eo func130 (by kernel_rfl) rfl
theorem uX:En 131:=eo func131 (by kernel_rfl) rfl
theorem Ga:En 132:=eo func132 (by kernel_rfl) rfl
theorem Gb:En 133:=eo func133 (by kernel_rfl) rfl
theorem xi:En 134:=eo func134 (by kernel_rfl) rfl
theorem Gc:En 135:=eo func135 (by kernel_rfl) rfl
theorem sW:En 136:=eo func136 (by kernel_rfl) rfl
theorem r6:En 137:=eo func137 (by kernel_rfl) rfl
theorem uY:En 138:=eo func138 (by kernel_rfl) rfl
theorem Gd:En 139:=eo func139 (by kernel_rfl) rfl
theorem Ah:En 140:=eo func140 (by kernel_rfl) rfl
theorem Ge:En 141:=eo func141 (by kernel_rfl) rfl
theorem Gf:En 142:=eo func142 (by kernel_rfl) rfl
theorem Ai:En 143:=eo func143 (by kernel_rfl) rfl
theorem xj:En 144:=eo func144 (by kernel_rfl) rfl
theorem Gg:En 145:=eo func145 (by kernel_rfl) rfl
theorem uZ:En 146:=eo func146 (by kernel_rfl) rfl
theorem Gh:En 147:=eo func147 (by kernel_rfl) rfl
theorem Gi:En 149:=eo func149 (by kernel_rfl) rfl
theorem Gj:En 150:=eo func150 (by kernel_rfl) rfl
theorem Aj:En 151:=eo func151 (by kernel_rfl) rfl
theorem Ak:En 152:=eo func152 (by kernel_rfl) rfl
theorem Gk:En 154:=eo func154 (by kernel_rfl) rfl
theorem Gl:En 155:=eo func155 (by kernel_rfl) rfl
theorem Gm:En 166:=eo func166 (by kernel_rfl) rfl
theorem qT:En 167:=eo func167 (by kernel_rfl) rfl
theorem xk:En 168:=eo func168 (by kernel_rfl) rfl
theorem xl:En 169:=eo func169 (by kernel_rfl) rfl
theorem pF:En 170:=eo func170 (by kernel_rfl) rfl
theorem Al:En 171:=eo func171 (by kernel_rfl) rfl
theorem Am:En 172:=eo func172 (by kernel_rfl) rfl
theorem Gn:En 175:=eo func175 (by kernel_rfl) rfl
theorem r7:En 176:=eo func176 (by kernel_rfl) rfl
theorem xn:En 177:=eo func177 (by kernel_rfl) rfl
theorem Gp:En 178:=eo func178 (by kernel_rfl) rfl
theorem Gq:En 179:=eo func179 (by kernel_rfl) rfl
theorem Gs:En 180:=eo func180 (by kernel_rfl) rfl
theorem Gt:En 181:=eo func181 (by kernel_rfl) rfl
theorem Gu:En 182:=eo func182 (by kernel_rfl) rfl
theorem An:En 183:=eo func183 (by kernel_rfl) rfl
theorem sX:En 184:=eo func184 (by kernel_rfl) rfl
theorem Gv:En 185:=eo func185 (by kernel_rfl) rfl
theorem Gw:En 186:=eo func186 (by kernel_rfl) rfl
theorem Gy:En 187:=eo func187 (by kernel_rfl) rfl
theorem Ao:En 188:=eo func188 (by kernel_rfl) rfl
theorem Ap:En 190:=eo func190 (by kernel_rfl) rfl
theorem Gz:En 191:=eo func191 (by kernel_rfl) rfl
theorem r8:En 192:=eo func192 (by kernel_rfl) rfl
theorem GA:En 193:=eo func193 (by kernel_rfl) rfl
theorem Aq:En 194:=eo func194 (by kernel_rfl) rfl
theorem xq:En 195:=eo func195 (by kernel_rfl) rfl
theorem Ar:En 196:=eo func196 (by kernel_rfl) rfl
theorem As:En 197:=eo func197 (by kernel_rfl) rfl
theorem GB:En 198:=eo func198 (by kernel_rfl) rfl
theorem xr:En 199:=eo func199 (by kernel_rfl) rfl
theorem GC:En 200:=eo func200 (by kernel_rfl) rfl
theorem Au:En 201:=eo func201 (by kernel_rfl) rfl
theorem r9:En 202:=eo func202 (by kernel_rfl) rfl
theorem xt:En 203:=eo func203 (by kernel_rfl) rfl
theorem GD:En 214:=eo func214 (by kernel_rfl) rfl
theorem GF:En 221:=eo func221 (by kernel_rfl) rfl
theorem GG:En 226:=eo func226 (by kernel_rfl) rfl
theorem GH:En 227:=eo func227 (by kernel_rfl) rfl
theorem GI:En 228:=eo func228 (by kernel_rfl) rfl
theorem GJ:En 229:=eo func229 (by kernel_rfl) rfl
theorem GK:En 230:=eo func230 (by kernel_rfl) rfl
theorem Av:En 231:=eo func231 (by kernel_rfl) rfl
theorem GL:En 232:=eo func232 (by kernel_rfl) rfl
theorem GM:En 233:=eo func233 (by kernel_rfl) rfl
theorem Aw:En 234:=eo func234 (by kernel_rfl) rfl
theorem GN:En 235:=eo func235 (by kernel_rfl) rfl
theorem GO:En 236:=eo func236 (by kernel_rfl) rfl
theorem GP:En 237:=eo func237 (by kernel_rfl) rfl
theorem GQ:En 238:=eo func238 (by kernel_rfl) rfl
theorem GR:En 260:=eo func260 (by kernel_rfl) rfl
theorem GS:En 261:=eo func261 (by kernel_rfl) rfl
theorem Ax:En 262:=eo func262 (by kernel_rfl) rfl
theorem Ay:En 263:=eo func263 (by kernel_rfl) rfl
theorem GU:En 264:=eo func264 (by kernel_rfl) rfl
theorem Az:En 265:=eo func265 (by kernel_rfl) rfl
theorem GV:En 266:=eo func266 (by kernel_rfl) rfl
theorem GW:En 267:=eo func267 (by kernel_rfl) rfl
theorem GY:En 268:=eo func268 (by kernel_rfl) rfl
theorem oW:En 269:=eo func269 (by kernel_rfl) rfl
theorem AA:En 277:=eo func277 (by kernel_rfl) rfl
theorem sY:En 278:=eo func278 (by kernel_rfl) rfl
theorem GZ:En 279:=eo func279 (by kernel_rfl) rfl
theorem AB:En 283:=eo func283 (by kernel_rfl) rfl
theorem G5:En 284:=eo func284 (by kernel_rfl) rfl
theorem Kq:jd prog 24 3:=⟨by kernel_rfl,by kernel_rfl⟩
theorem Kr:jd prog 29 4:=⟨by kernel_rfl,by kernel_rfl⟩
theorem kA:jd prog 39 3:=⟨by kernel_rfl,by kernel_rfl⟩
theorem mQ:jd prog 42 8:=⟨by kernel_rfl,by kernel_rfl⟩
theorem k6:jd prog 51 2:=⟨by kernel_rfl,by kernel_rfl⟩
theorem BY:jd prog 55 2:=⟨by kernel_rfl,by kernel_rfl⟩
theorem vi:jd prog 70 2:=⟨by kernel_rfl,by kernel_rfl⟩
theorem Ks:jd prog 72 7:=⟨by kernel_rfl,by kernel_rfl⟩
theorem yg:jd prog 74 2:=⟨by kernel_rfl,by kernel_rfl⟩
theorem yh:jd prog 95 2:=⟨by kernel_rfl,by kernel_rfl⟩
theorem BZ:jd prog 97 4:=⟨by kernel_rfl,by kernel_rfl⟩
theorem B0:jd prog 99 8:=⟨by kernel_rfl,by kernel_rfl⟩
theorem mg:jd prog 106 7:=⟨by kernel_rfl,by kernel_rfl⟩
theorem BW:jd prog 110 1:=⟨by kernel_rfl,by kernel_rfl⟩
theorem wy:jd prog 112 5:=⟨by kernel_rfl,by kernel_rfl⟩
theorem wz:jd prog 114 6:=⟨by kernel_rfl,by kernel_rfl⟩
theorem rF:jd prog 137 8:=⟨by kernel_rfl,by kernel_rfl⟩
theorem tl:jd prog 159 12:=⟨by kernel_rfl,by kernel_rfl⟩
theorem BX:jd prog 175 64:=⟨by kernel_rfl,by kernel_rfl⟩
theorem tp:jd prog 207 3:=⟨by kernel_rfl,by kernel_rfl⟩
theorem KN:prog.eqGuardType prog.depth 55=false:=by kernel_rfl
theorem vt:prog.eqGuardType prog.depth 99=false:=by kernel_rfl
theorem el3:mP prog 3 (.int .i64 0) 1 8:=by unfold mP; kernel_rfl
theorem zZ:mP prog 5 (.int .u8 0) 1 1:=by unfold mP; kernel_rfl
theorem tP:mP prog 9 (.string ByteArray.empty) 1 16:=by unfold mP; kernel_rfl
theorem o9:mP prog 49 (.slice none 0 0) 1 24:=by unfold mP; kernel_rfl
theorem q7:mP prog 51 (.agg ([.int .i64 0,.slice none 0 0]).toArray) 2 32:=by unfold mP; kernel_rfl
theorem vu:mP prog 55 (.agg ([.int .i64 0,.string ByteArray.empty]).toArray) 2 24:=by unfold mP; kernel_rfl
theorem sw:mP prog 72 (.agg ([.int .i64 0,.slice none 0 0,.bool false,.slice none 0 0,.slice none 0 0,.slice none 0 0,.int .i64 0]).toArray) 7 120:=by unfold mP; kernel_rfl
theorem Cw:mP prog 106 (.agg ([.int .i64 0,.string ByteArray.empty,.int .i64 0,.int .i64 0,.int .i64 0,.slice none 0 0,.bool false]).toArray) 7 80:=by unfold mP; kernel_rfl
theorem oh:mP prog 159 (.agg (([.bool false,.slice none 0 0,.bool false,.slice none 0 0]:Ŀ Value)++(í (Value.int .i64) 8 (λ_=>0))).toArray) 12 128:=by unfold mP; kernel_rfl
theorem oP:mP prog 250 (.int .u32 0) 1 4:=by unfold mP; kernel_rfl
theorem Y0.Zve:kQ 24 0 0:=k7 underlying24 rfl rfl (λ_ _ _=>by kernel_rfl)
theorem Y0.Zvf:kQ 24 1 1:=k7 underlying24 rfl rfl (λ_ _ _=>by kernel_rfl)
theorem Y0.Zvg:kQ 24 2 2:=k7 underlying24 rfl rfl (λ_ _ _=>by kernel_rfl)
theorem Y0.Zvh:kQ 29 0 0:=k7 underlying29 rfl rfl (λ_ _ _=>by kernel_rfl)
theorem Y0.Zvi:kQ 29 1 1:=k7 underlying29 rfl rfl (λ_ _ _=>by kernel_rfl)
theorem Y0.Zvj:kQ 29 2 2:=k7 underlying29 rfl rfl (λ_ _ _=>by kernel_rfl)
theorem Y0.Zvk:kQ 29 3 3:=k7 underlying29 rfl rfl (λ_ _ _=>by kernel_rfl)
theorem Y0.ye:kQ 39 0 0:=k7 underlying39 rfl rfl (λ_ _ _=>by kernel_rfl)
theorem Y0.BR:kQ 39 1 1:=k7 underlying39 rfl rfl (λ_ _ _=>by kernel_rfl)
theorem Y0.BS:kQ 39 2 2:=k7 underlying39 rfl rfl (λ_ _ _=>by kernel_rfl)
theorem Y0.Zvl:kQ 51 0 0:=k7 underlying51 rfl rfl (λ_ _ _=>by kernel_rfl)
theorem Y0.Zvm:kQ 51 1 1:=k7 underlying51 rfl rfl (λ_ _ _=>by kernel_rfl)
theorem Y0.Fh:kQ 70 0 0:=k7 underlying70 rfl rfl (λ_ _ _=>by kernel_rfl)
theorem Y0.Ki:kQ 70 1 1:=k7 underlying70 rfl rfl (λ_ _ _=>by kernel_rfl)
theorem Y0.Zvn:kQ 72 0 0:=k7 underlying72 rfl rfl (λ_ _ _=>by kernel_rfl)
theorem Y0.Kj:kQ 72 1 1:=k7 underlying72 rfl rfl (λ_ _ _=>by kernel_rfl)
theorem Y0.Zvo:kQ 72 2 3:=k7 underlying72 rfl rfl (λ_ _ _=>by kernel_rfl)
theorem Y0.RC:kQ 74 0 0:=k7 underlying74 rfl rfl (λ_ _ _=>by kernel_rfl)
theorem Y0.Ry:kQ 74 1 1:=k7 underlying74 rfl rfl (λ_ _ _=>by kernel_rfl)
theorem Y0.Rz:kQ 95 0 0:=k7 underlying95 rfl rfl (λ_ _ _=>by kernel_rfl)
theorem Y0.Kk:kQ 95 1 1:=k7 underlying95 rfl rfl (λ_ _ _=>by kernel_rfl)
theorem Y0.RA:kQ 97 0 0:=k7 underlying97 rfl rfl (λ_ _ _=>by kernel_rfl)
theorem Y0.RB:kQ 97 1 2:=k7 underlying97 rfl rfl (λ_ _ _=>by kernel_rfl)
theorem Y0.ZuA:kQ 106 0 0:=k7 underlying106 rfl rfl (λ_ _ _=>by kernel_rfl)
theorem Y0.ZuB:kQ 106 1 1:=k7 underlying106 rfl rfl (λ_ _ _=>by kernel_rfl)
theorem Y0.ZuC:kQ 106 2 2:=k7 underlying106 rfl rfl (λ_ _ _=>by kernel_rfl)
theorem Y0.ZuD:kQ 106 3 3:=k7 underlying106 rfl rfl (λ_ _ _=>by kernel_rfl)
theorem Y0.ZuE:kQ 106 4 4:=k7 underlying106 rfl rfl (λ_ _ _=>by kernel_rfl)
theorem Y0.E2:kQ 106 5 5:=k7 underlying106 rfl rfl (λ_ _ _=>by kernel_rfl)
theorem Y0.E3:kQ 106 6 6:=k7 underlying106 rfl rfl (λ_ _ _=>by kernel_rfl)
theorem Y0.J7:kQ 110 0 0:=k7 underlying110 rfl rfl (λ_ _ _=>by kernel_rfl)
theorem Y0.Rg:kQ 112 0 0:=k7 underlying112 rfl rfl (λ_ _ _=>by kernel_rfl)
theorem Y0.J8:kQ 112 1 1:=k7 underlying112 rfl rfl (λ_ _ _=>by kernel_rfl)
theorem Y0.Rh:kQ 112 2 2:=k7 underlying112 rfl rfl (λ_ _ _=>by kernel_rfl)
theorem Y0.J9:kQ 112 3 3:=k7 underlying112 rfl rfl (λ_ _ _=>by kernel_rfl)
theorem Y0.ZuF:kQ 112 4 4:=k7 underlying112 rfl rfl (λ_ _ _=>by kernel_rfl)
theorem Y0.ZuG:kQ 114 0 0:=k7 underlying114 rfl rfl (λ_ _ _=>by kernel_rfl)
theorem Y0.ZuH:kQ 114 1 4:=k7 underlying114 rfl rfl (λ_ _ _=>by kernel_rfl)
theorem Y0.ZuI:kQ 114 2 5:=k7 underlying114 rfl rfl (λ_ _ _=>by kernel_rfl)
theorem Y0.ya:kQ 151 0 0:=k7 underlying151 rfl rfl (λ_ _ _=>by kernel_rfl)
theorem Y0.Ri:kQ 159 0 0:=k7 underlying159 rfl rfl (λ_ _ _=>by kernel_rfl)
theorem Y0.Rj:kQ 159 1 4:=k7 underlying159 rfl rfl (λ_ _ _=>by kernel_rfl)
theorem Y0.ZuJ:kQ 207 0 0:=k7 underlying207 rfl rfl (λ_ _ _=>by kernel_rfl)
def oi:Ky prog 3 Int:=Ky.int underlying3
def tV:Ky prog 9 Ĳ:=Ky.str underlying9
theorem yE:laidOutB prog=true:=by kernel_rfl
def mq:Ky prog 99 (Fin 8->Int):=Ky.arr underlying99 underlying3 (by kernel_rfl) (by kernel_rfl) (by kernel_rfl) yE (Ĝ (by kernel_rfl)) (by kernel_rfl)
theorem ñ:ê prog 3:=by unfold ê; kernel_rfl
theorem kX:ê prog 4:=by unfold ê; kernel_rfl
theorem uS:ê prog 5:=by unfold ê; kernel_rfl
theorem ou:ê prog 9:=by unfold ê; kernel_rfl
theorem yI:ê prog 22:=by unfold ê; kernel_rfl
theorem Lr:ê prog 26:=by unfold ê; kernel_rfl
theorem Ls:ê prog 27:=by unfold ê; kernel_rfl
theorem Lt:ê prog 33:=by unfold ê; kernel_rfl
theorem lg:ê prog 37:=by unfold ê; kernel_rfl
theorem ij:ê prog 49:=by unfold ê; kernel_rfl
theorem Lu:ê prog 68:=by unfold ê; kernel_rfl
theorem vJ:ê prog 89:=by unfold ê; kernel_rfl
theorem yJ:ê prog 93:=by unfold ê; kernel_rfl
theorem uh:ê prog 108:=by unfold ê; kernel_rfl
theorem rU:ê prog 125:=by unfold ê; kernel_rfl
theorem CU:ê prog 129:=by unfold ê; kernel_rfl
theorem wU:ê prog 225:=by unfold ê; kernel_rfl
theorem wV:ê prog 250:=by unfold ê; kernel_rfl
theorem Lx:prog.stoodInHeld 55=false:=by kernel_rfl
theorem gh:(prog.info? 3).map (·.size)=some 1:=by kernel_rfl
theorem z7:(prog.info? 4).map (·.size)=some 1:=by kernel_rfl
theorem nJ:(prog.info? 9).map (·.size)=some 1:=by kernel_rfl
theorem vN:(prog.info? 26).map (·.size)=some 1:=by kernel_rfl
theorem lU:(prog.info? 27).map (·.size)=some 1:=by kernel_rfl
theorem LB:(prog.info? 29).map (·.size)=some 4:=by kernel_rfl
theorem n3:(prog.info? 37).map (·.size)=some 1:=by kernel_rfl
theorem mC:(prog.info? 39).map (·.size)=some 3:=by kernel_rfl
theorem n4:(prog.info? 42).map (·.size)=some 8:=by kernel_rfl
theorem iG:(prog.info? 49).map (·.size)=some 1:=by kernel_rfl
theorem LC:(prog.info? 51).map (·.size)=some 2:=by kernel_rfl
theorem C2:(prog.info? 55).map (·.size)=some 2:=by kernel_rfl
theorem sH:(prog.info? 70).map (·.size)=some 2:=by kernel_rfl
theorem C3:(prog.info? 72).map (·.size)=some 7:=by kernel_rfl
theorem LD:(prog.info? 74).map (·.size)=some 2:=by kernel_rfl
theorem yQ:(prog.info? 89).map (·.size)=some 1:=by kernel_rfl
theorem LG:(prog.info? 95).map (·.size)=some 2:=by kernel_rfl
theorem mD:(prog.info? 97).map (·.size)=some 4:=by kernel_rfl
theorem ov:(prog.info? 99).map (·.size)=some 8:=by kernel_rfl
theorem rX:(prog.info? 106).map (·.size)=some 7:=by kernel_rfl
theorem wX:(prog.info? 112).map (·.size)=some 5:=by kernel_rfl
theorem uk:(prog.info? 114).map (·.size)=some 6:=by kernel_rfl
theorem um:(prog.info? 125).map (·.size)=some 1:=by kernel_rfl
theorem C0:(prog.info? 129).map (·.size)=some 1:=by kernel_rfl
theorem uo:(prog.info? 159).map (·.size)=some 12:=by kernel_rfl
theorem C1:(prog.info? 205).map (·.size)=some 8:=by kernel_rfl
theorem wY:(prog.info? 225).map (·.size)=some 1:=by kernel_rfl
theorem wZ:(prog.info? 226).map (·.size)=some 5:=by kernel_rfl
theorem w9:(prog.info? 250).map (·.size)=some 1:=by kernel_rfl
theorem z3:(prog.info? 3).map (·.zero)=some (some (.int .i64 0)):=by kernel_rfl
theorem z9:(prog.info? 9).map (·.zero)=some (some (.string ByteArray.empty)):=by kernel_rfl
theorem na:(prog.info? 29).map (·.zero)=some (some (.agg ([.slice none 0 0,.slice none 0 0,.slice none 0 0,.int .i64 0]).toArray)):=by kernel_rfl
theorem z39:(prog.info? 39).map (·.zero)=some (some (.agg ([.int .i64 0,.slice none 0 0,.slice none 0 0]).toArray)):=by kernel_rfl
theorem uT:(prog.info? 42).map (·.zero)=some (some (.agg (í (Value.int .i64) 8 (λ_=>0)).toArray)):=by kernel_rfl
theorem z51:(prog.info? 51).map (·.zero)=some (some (.agg ([.int .i64 0,.slice none 0 0]).toArray)):=by kernel_rfl
theorem z70:(prog.info? 70).map (·.zero)=some (some (.agg ([.slice none 0 0,.bool false]).toArray)):=by kernel_rfl
theorem z72:(prog.info? 72).map (·.zero)=some (some (.agg ([.int .i64 0,.slice none 0 0,.bool false,.slice none 0 0,.slice none 0 0,.slice none 0 0,.int .i64 0]).toArray)):=by kernel_rfl
theorem z74:(prog.info? 74).map (·.zero)=some (some (.agg ([.slice none 0 0,.slice none 0 0]).toArray)):=by kernel_rfl
theorem oe:(prog.info? 95).map (·.zero)=some (some (.agg ([.bool false,.slice none 0 0]).toArray)):=by kernel_rfl
theorem ru:(prog.info? 97).map (·.zero)=some (some (.agg ([.bool false,.slice none 0 0,.bool false,.slice none 0 0]).toArray)):=by kernel_rfl
theorem r5:(prog.info? 99).map (·.zero)=some (some (.agg (í (Value.int .i64) 8 (λ_=>0)).toArray)):=by kernel_rfl
theorem zd:(prog.info? 106).map (·.zero)=some (some (.agg ([.int .i64 0,.string ByteArray.empty,.int .i64 0,.int .i64 0,.int .i64 0,.slice none 0 0,.bool false]).toArray)):=by kernel_rfl
theorem Dd:(prog.info? 114).map (·.zero)=some (some (.agg ([.slice none 0 0,.slice none 0 0,.slice none 0 0,.int .i64 0,.int .i64 0,.int .i64 0]).toArray)):=by kernel_rfl
theorem LJ:(prog.info? 137).map (·.zero)=some (some (.agg (([.slice none 0 0,.slice none 0 0,.slice none 0 0,.slice none 0 0,.slice none 0 0,.slice none 0 0,.slice none 0 0,.slice none 0 0]:Ŀ Value)).toArray)):=by kernel_rfl
theorem LK:(prog.info? 151).map (·.zero)=some (some (.agg ([.slice none 0 0]).toArray)):=by kernel_rfl
theorem z159:(prog.info? 159).map (·.zero)=some (some (.agg (([.bool false,.slice none 0 0,.bool false,.slice none 0 0]:Ŀ Value)++(í (Value.int .i64) 8 (λ_=>0))).toArray)):=by kernel_rfl
theorem z175:(prog.info? 175).map (·.zero)=some (some (.agg (í (Value.int .i64) 64 (λ_=>0)).toArray)):=by kernel_rfl
theorem De:(prog.info? 205).map (·.zero)=some (some (.agg (í Value.bool 8 (λ_=>false)).toArray)):=by kernel_rfl
theorem z236:(prog.info? 236).map (·.zero)=some (some (.agg (([.slice none 0 0,.slice none 0 0,.slice none 0 0,.slice none 0 0,.slice none 0 0,.slice none 0 0,.slice none 0 0,.slice none 0 0]:Ŀ Value)).toArray)):=by kernel_rfl
theorem SI(w:World):(zeroValue 4).run prog w = .ok (.bool false) w:=by kernel_rfl
theorem ry(w:World):(zeroValue 70).run prog w = .ok (.agg ([.slice none 0 0,.bool false]).toArray) w:=by kernel_rfl
theorem LL(w:World):(zeroValue 97).run prog w = .ok (.agg ([.bool false,.slice none 0 0,.bool false,.slice none 0 0]).toArray) w:=by kernel_rfl
end Go.Proofs.YtdigmacmdlpckaaGreat

namespace Go.EL
open Go.IntKind (i8 i16 i32 i64 u8 u16 u32 u64)
open Go Go.EL Go.RowKit Go.Proofs
structure ZF where
 t:(Ŀ (Fin 5->Int))
abbrev Ns:Rp ZF:=Rp.via (Rp.sl (Rp.vec .i8 5)) (λx=>x.t)
structure Zx where
 kind:Int
 a:Int
 b:Int
 n:Int
 p:ZF
abbrev ZT:Rp Zx:=Rp.via (Rp.pair (Rp.int .u8) (Rp.pair (Rp.int .u8) (Rp.pair (Rp.int .u8) (Rp.pair (Rp.int .u8) Ns)))) (λx=>(x.kind,x.a,x.b,x.n,x.p))
theorem M3{G:Mem}{K:Nat->Value->Prop}{o:Nat}{x:Zx}(h:AtK ZT G K o x):∃ d a,(∀ (j:Nat) (u:Value),([.int .u8 x.kind,.int .u8 x.a,.int .u8 x.b,.int .u8 x.n,.slice d x.p.t.length a]).toArray[j]? = some u->K (o+j) u)/\ë (Rp.vec .i8 5) G (.slice d x.p.t.length a) x.p.t:=by
 obtain⟨c,h,s⟩:=h
 obtain⟨D,d1,m,e,v⟩:=h
 subst m
 replace e:_=([.int .u8 _]:Ŀ Value):=e
 subst e
 obtain⟨E,d3,n,f,w⟩:=v
 subst n
 replace f:_=([.int .u8 _]:Ŀ Value):=f
 subst f
 obtain⟨F,d5,p,g,y⟩:=w
 subst p
 replace g:_=([.int .u8 _]:Ŀ Value):=g
 subst g
 obtain⟨H,d7,q,i,A⟩:=y
 subst q
 replace i:_=([.int .u8 _]:Ŀ Value):=i
 subst i
 obtain⟨I,r,l⟩:=A
 subst r
 obtain⟨B,C,f9⟩:=ë.form l
 subst f9
 exact⟨B,C,λj u t=>s j u (by simpa using t),l⟩
structure ZK where
 base:(Ŀ Zx)
 a:(Ŀ Zx)
 b:(Ŀ Zx)
abbrev M2:Rp ZK:=Rp.via (Rp.pair (Rp.sl ZT) (Rp.pair (Rp.sl ZT) (Rp.sl ZT))) (λx=>(x.base,x.a,x.b))
theorem VA{G:Mem}{K:Nat->Value->Prop}{o:Nat}{x:ZK}(h:AtK M2 G K o x):∃ d a f e i g,(∀ (j:Nat) (u:Value),([.slice d x.base.length a,.slice f x.a.length e,.slice i x.b.length g]).toArray[j]? = some u->K (o+j) u)/\ë ZT G (.slice d x.base.length a) x.base/\ë ZT G (.slice f x.a.length e) x.a/\ë ZT G (.slice i x.b.length g) x.b:=by
 obtain⟨c,h,y⟩:=h
 obtain⟨H,d1,p,v,B⟩:=h
 subst p
 obtain⟨J,q,l⟩:=v
 subst q
 obtain⟨p2,D,f2⟩:=ë.form l
 subst f2
 obtain⟨I,d3,r,w,C⟩:=B
 subst r
 obtain⟨L,s,m⟩:=w
 subst s
 obtain⟨p4,E,f4⟩:=ë.form m
 subst f4
 obtain⟨N,t,n⟩:=C
 subst t
 obtain⟨p5,F,f5⟩:=ë.form n
 subst f5
 exact⟨p2,D,p4,E,p5,F,λj u A=>y j u (by simpa using A),l,m,n⟩
structure Zi where
 neg:Bool
 Α:(Ŀ Int)
abbrev u7:Rp Zi:=Rp.via (Rp.pair Rp.bool (Rp.sl (Rp.int .u32))) (λx=>(x.neg,x.Α))
theorem Og{G:Mem}{K:Nat->Value->Prop}{o:Nat}{x:Zi}(h:AtK u7 G K o x):∃ d a,(∀ (j:Nat) (u:Value),([.bool x.neg,.slice d x.Α.length a]).toArray[j]? = some u->K (o+j) u)/\ë (Rp.int .u32) G (.slice d x.Α.length a) x.Α:=by
 obtain⟨c,h,l⟩:=h
 obtain⟨q,d1,g,e,n⟩:=h
 subst g
 replace e:_=([.bool _]:Ŀ Value):=e
 subst e
 obtain⟨r,i,f⟩:=n
 subst i
 obtain⟨p3,p,f3⟩:=ë.form f
 subst f3
 exact⟨p3,p,λj u m=>l j u (by simpa using m),f⟩
structure Zj where
 num:Zi
 den:Zi
abbrev xR:Rp Zj:=Rp.via (Rp.pair u7 u7) (λx=>(x.num,x.den))
theorem Xz{G:Mem}{K:Nat->Value->Prop}{o:Nat}{x:Zj}(h:AtK xR G K o x):∃ f e d a,(∀ (j:Nat) (u:Value),([.bool x.num.neg,.slice f x.num.Α.length e,.bool x.den.neg,.slice d x.den.Α.length a]).toArray[j]? = some u->K (o+j) u)/\ë (Rp.int .u32) G (.slice f x.num.Α.length e) x.num.Α/\ë (Rp.int .u32) G (.slice d x.den.Α.length a) x.den.Α:=by
 obtain⟨c,h,v⟩:=h
 obtain⟨E,d1,n,t,y⟩:=h
 subst n
 obtain⟨F,d2,p,g,A⟩:=t
 subst p
 replace g:_=([.bool _]:Ŀ Value):=g
 subst g
 obtain⟨I,q,l⟩:=A
 subst q
 obtain⟨p4,C,f4⟩:=ë.form l
 subst f4
 obtain⟨H,d5,r,i,B⟩:=y
 subst r
 replace i:_=([.bool _]:Ŀ Value):=i
 subst i
 obtain⟨J,s,m⟩:=B
 subst s
 obtain⟨p7,D,f7⟩:=ë.form m
 subst f7
 exact⟨p4,C,p7,D,λj u w=>v j u (by simpa using w),l,m⟩
theorem Ol{G:Mem}{cs:Ŀ Value}{x:Zj}(h:xR.jJ G cs x):∃ e d c a,cs=[.bool x.num.neg,.slice e x.num.Α.length d,.bool x.den.neg,.slice c x.den.Α.length a]/\ë (Rp.int .u32) G (.slice e x.num.Α.length d) x.num.Α/\ë (Rp.int .u32) G (.slice c x.den.Α.length a) x.den.Α:=by
 obtain⟨y,d1,l,r,s⟩:=h
 subst l
 obtain⟨A,d2,m,f,t⟩:=r
 subst m
 replace f:_=([.bool _]:Ŀ Value):=f
 subst f
 obtain⟨C,n,i⟩:=t
 subst n
 obtain⟨p4,v,f4⟩:=ë.form i
 subst f4
 obtain⟨B,d5,p,g,u⟩:=s
 subst p
 replace g:_=([.bool _]:Ŀ Value):=g
 subst g
 obtain⟨D,q,j⟩:=u
 subst q
 obtain⟨p7,w,f7⟩:=ë.form j
 subst f7
 exact⟨p4,v,p7,w,rfl,i,j⟩
structure Za where
 c:Zj
 m:(Fin 8->Int)
abbrev Zo:Rp Za:=Rp.via (Rp.pair xR (Rp.vec .i64 8)) (λx=>(x.c,x.m))
theorem Xc{G:Mem}{K:Nat->Value->Prop}{o:Nat}{x:Za}(h:AtK Zo G K o x):∃ f e d a,(∀ (j:Nat) (u:Value),(([.bool x.c.num.neg,.slice f x.c.num.Α.length e,.bool x.c.den.neg,.slice d x.c.den.Α.length a]:Ŀ Value)++(í (Value.int .i64) 8 x.m)).toArray[j]? = some u->K (o+j) u)/\ë (Rp.int .u32) G (.slice f x.c.num.Α.length e) x.c.num.Α/\ë (Rp.int .u32) G (.slice d x.c.den.Α.length a) x.c.den.Α:=by
 obtain⟨c,h,A⟩:=h
 obtain⟨I,d1,p,w,l⟩:=h
 subst p
 obtain⟨J,d2,q,y,C⟩:=w
 subst q
 obtain⟨L,d3,r,g,D⟩:=y
 subst r
 replace g:_=([.bool _]:Ŀ Value):=g
 subst g
 obtain⟨O,s,m⟩:=D
 subst s
 obtain⟨p5,F,f5⟩:=ë.form m
 subst f5
 obtain⟨N,d6,t,i,E⟩:=C
 subst t
 replace i:_=([.bool _]:Ŀ Value):=i
 subst i
 obtain⟨P,v,n⟩:=E
 subst v
 obtain⟨p8,H,f8⟩:=ë.form n
 subst f8
 replace l:_=(í (Value.int .i64) 8 _:Ŀ Value):=l
 subst l
 exact⟨p5,F,p8,H,λj u B=>A j u (by simpa using B),m,n⟩
theorem NB{G:Mem}{cs:Ŀ Value}{x:Za}(h:Zo.jJ G cs x):∃ e d c a,cs=([.bool x.c.num.neg,.slice e x.c.num.Α.length d,.bool x.c.den.neg,.slice c x.c.den.Α.length a]:Ŀ Value)++(í (Value.int .i64) 8 x.m)/\ë (Rp.int .u32) G (.slice e x.c.num.Α.length d) x.c.num.Α/\ë (Rp.int .u32) G (.slice c x.c.den.Α.length a) x.c.den.Α:=by
 obtain⟨C,d1,m,t,i⟩:=h
 subst m
 obtain⟨D,d2,n,u,v⟩:=t
 subst n
 obtain⟨E,d3,p,f,w⟩:=u
 subst p
 replace f:_=([.bool _]:Ŀ Value):=f
 subst f
 obtain⟨H,q,j⟩:=w
 subst q
 obtain⟨p5,A,f5⟩:=ë.form j
 subst f5
 obtain⟨F,d6,r,g,y⟩:=v
 subst r
 replace g:_=([.bool _]:Ŀ Value):=g
 subst g
 obtain⟨I,s,l⟩:=y
 subst s
 obtain⟨p8,B,f8⟩:=ë.form l
 subst f8
 replace i:_=(í (Value.int .i64) 8 _:Ŀ Value):=i
 subst i
 exact⟨p5,A,p8,B,rfl,j,l⟩
structure Zc where
 id:Int
 p:(Ŀ Za)
abbrev Zz:Rp Zc:=Rp.via (Rp.pair (Rp.int .i64) (Rp.sl Zo)) (λx=>(x.id,x.p))
theorem U5{G:Mem}{K:Nat->Value->Prop}{o:Nat}{x:Zc}(h:AtK Zz G K o x):∃ d a,(∀ (j:Nat) (u:Value),([.int .i64 x.id,.slice d x.p.length a]).toArray[j]? = some u->K (o+j) u)/\ë Zo G (.slice d x.p.length a) x.p:=by
 obtain⟨c,h,l⟩:=h
 obtain⟨q,d1,g,e,n⟩:=h
 subst g
 replace e:_=([.int .i64 _]:Ŀ Value):=e
 subst e
 obtain⟨r,i,f⟩:=n
 subst i
 obtain⟨p3,p,f3⟩:=ë.form f
 subst f3
 exact⟨p3,p,λj u m=>l j u (by simpa using m),f⟩
structure Zb where
 vars:(Ŀ Ĳ)
 eqs:(Ŀ Zc)
 ζ:(Ŀ Zc)
 next:Int
abbrev V4:Rp Zb:=Rp.via (Rp.pair (Rp.sl Rp.str) (Rp.pair (Rp.sl Zz) (Rp.pair (Rp.sl Zz) (Rp.int .i64)))) (λx=>(x.vars,x.eqs,x.ζ,x.next))
structure Zm where
 n:Int
 eqs:(Ŀ (Ŀ Za))
 ζ:(Ŀ (Ŀ Za))
abbrev Bi:Rp Zm:=Rp.via (Rp.pair (Rp.int .i64) (Rp.pair (Rp.sl (Rp.sl Zo)) (Rp.sl (Rp.sl Zo)))) (λx=>(x.n,x.eqs,x.ζ))
theorem Xa{G:Mem}{K:Nat->Value->Prop}{o:Nat}{x:Zm}(h:AtK Bi G K o x):∃ f e d a,(∀ (j:Nat) (u:Value),([.int .i64 x.n,.slice f x.eqs.length e,.slice d x.ζ.length a]).toArray[j]? = some u->K (o+j) u)/\ë (Rp.sl Zo) G (.slice f x.eqs.length e) x.eqs/\ë (Rp.sl Zo) G (.slice d x.ζ.length a) x.ζ:=by
 obtain⟨c,h,s⟩:=h
 obtain⟨B,d1,m,g,v⟩:=h
 subst m
 replace g:_=([.int .i64 _]:Ŀ Value):=g
 subst g
 obtain⟨C,d3,n,r,w⟩:=v
 subst n
 obtain⟨D,p,i⟩:=r
 subst p
 obtain⟨p4,y,f4⟩:=ë.form i
 subst f4
 obtain⟨E,q,l⟩:=w
 subst q
 obtain⟨p5,A,f5⟩:=ë.form l
 subst f5
 exact⟨p4,y,p5,A,λj u t=>s j u (by simpa using t),i,l⟩
structure Zk where
 id:Int
 name:Ĳ
abbrev MU:Rp Zk:=Rp.via (Rp.pair (Rp.int .i64) Rp.str) (λx=>(x.id,x.name))
theorem Mz{G:Mem}{K:Nat->Value->Prop}{o:Nat}{x:Zk}(h:AtK MU G K o x):(∀ (j:Nat) (u:Value),([.int .i64 x.id,.string x.name]).toArray[j]? = some u->K (o+j) u):=by
 obtain⟨c,h,f⟩:=h
 obtain⟨i,d1,e,a,d⟩:=h
 subst e
 replace a:_=([.int .i64 _]:Ŀ Value):=a
 subst a
 replace d:_=([.string _]:Ŀ Value):=d
 subst d
 exact λj u g=>f j u (by simpa using g)
structure Zl where
 p:(Ŀ Za)
 neq:Bool
abbrev Hz:Rp Zl:=Rp.via (Rp.pair (Rp.sl Zo) Rp.bool) (λx=>(x.p,x.neq))
theorem vY{G:Mem}{cs:Ŀ Value}{x:Zl}(h:Hz.jJ G cs x):∃ c a,cs=[.slice c x.p.length a,.bool x.neq]/\ë Zo G (.slice c x.p.length a) x.p:=by
 obtain⟨l,d1,f,i,d⟩:=h
 subst f
 obtain⟨m,g,e⟩:=i
 subst g
 obtain⟨p2,j,f2⟩:=ë.form e
 subst f2
 replace d:_=([.bool _]:Ŀ Value):=d
 subst d
 exact⟨p2,j,rfl,e⟩
structure Zg where
 id:Int
 entry:Zl
 à:Zb
abbrev MV:Rp Zg:=Rp.via (Rp.pair (Rp.int .i64) (Rp.pair Hz V4)) (λx=>(x.id,x.entry,x.à))
theorem UU{G:Mem}{K:Nat->Value->Prop}{o:Nat}{x:Zg}(h:AtK MV G K o x):∃ m l f e i g d a,(∀ (j:Nat) (u:Value),([.int .i64 x.id,.slice m x.entry.p.length l,.bool x.entry.neq,.slice f x.à.vars.length e,.slice i x.à.eqs.length g,.slice d x.à.ζ.length a,.int .i64 x.à.next]).toArray[j]? = some u->K (o+j) u)/\ë Zo G (.slice m x.entry.p.length l) x.entry.p/\ë Rp.str G (.slice f x.à.vars.length e) x.à.vars/\ë Zz G (.slice i x.à.eqs.length g) x.à.eqs/\ë Zz G (.slice d x.à.ζ.length a) x.à.ζ:=by
 obtain⟨c,h,V⟩:=h
 obtain⟨c1,d1,I,v,X⟩:=h
 subst I
 replace v:_=([.int .i64 _]:Ŀ Value):=v
 subst v
 obtain⟨c3,d3,J,R,Y⟩:=X
 subst J
 obtain⟨c4,d4,L,S,y⟩:=R
 subst L
 obtain⟨v5,N,E⟩:=S
 subst N
 obtain⟨p5,q5,f5⟩:=ë.form E
 subst f5
 replace y:_=([.bool _]:Ŀ Value):=y
 subst y
 obtain⟨c7,d7,O,T,Z⟩:=Y
 subst O
 obtain⟨v8,P,F⟩:=T
 subst P
 obtain⟨p8,q8,f8⟩:=ë.form F
 subst f8
 obtain⟨c9,d9,Q,U,k9⟩:=Z
 subst Q
 obtain⟨aa,r,p⟩:=U
 subst r
 obtain⟨A,C,f10⟩:=ë.form p
 subst f10
 obtain⟨H,d11,s,w,n⟩:=k9
 subst s
 obtain⟨ab,t,q⟩:=w
 subst t
 obtain⟨B,D,f12⟩:=ë.form q
 subst f12
 replace n:_=([.int .i64 _]:Ŀ Value):=n
 subst n
 exact⟨p5,q5,p8,q8,A,C,B,D,λj u W=>V j u (by simpa using W),E,F,p,q⟩
structure ZQ where
 à:(Ŀ Ĳ)
 ll:(Ŀ Ĳ)
structure Zh where
 kind:Int
 name:Ĳ
 Ζ:Int
 ll:Int
 id:Int
 p:(Ŀ Za)
 neq:Bool
abbrev NM:Rp Zh:=Rp.via (Rp.pair (Rp.int .i64) (Rp.pair Rp.str (Rp.pair (Rp.int .i64) (Rp.pair (Rp.int .i64) (Rp.pair (Rp.int .i64) (Rp.pair (Rp.sl Zo) Rp.bool)))))) (λx=>(x.kind,x.name,x.Ζ,x.ll,x.id,x.p,x.neq))
theorem Xb{G:Mem}{K:Nat->Value->Prop}{o:Nat}{x:Zh}(h:AtK NM G K o x):∃ f e,(∀ (j:Nat) (u:Value),([.int .i64 x.kind,.string x.name,.int .i64 x.Ζ,.int .i64 x.ll,.int .i64 x.id,.slice f x.p.length e,.bool x.neq]).toArray[j]? = some u->K (o+j) u)/\ë Zo G (.slice f x.p.length e) x.p:=by
 obtain⟨c,h,D⟩:=h
 obtain⟨O,d1,w,l,F⟩:=h
 subst w
 replace l:_=([.int .i64 _]:Ŀ Value):=l
 subst l
 obtain⟨P,d3,y,n,H⟩:=F
 subst y
 replace n:_=([.string _]:Ŀ Value):=n
 subst n
 obtain⟨Q,d5,A,p,I⟩:=H
 subst A
 replace p:_=([.int .i64 _]:Ŀ Value):=p
 subst p
 obtain⟨R,d7,B,q,J⟩:=I
 subst B
 replace q:_=([.int .i64 _]:Ŀ Value):=q
 subst q
 obtain⟨S,d9,C,r,L⟩:=J
 subst C
 replace r:_=([.int .i64 _]:Ŀ Value):=r
 subst r
 obtain⟨v,d11,g,m,a⟩:=L
 subst g
 obtain⟨N,i,d⟩:=m
 subst i
 obtain⟨s,t,f12⟩:=ë.form d
 subst f12
 replace a:_=([.bool _]:Ŀ Value):=a
 subst a
 exact⟨s,t,λj u E=>D j u (by simpa using E),d⟩
structure ZI where
 s:Zb
 n:Int
 e:Int
structure A3 where
 k:Zm
end Go.EL

namespace Go.EL
open Go.IntKind (i8 i16 i32 i64 u8 u16 u32 u64)
open Go Go.RowKit
abbrev M:=Fin 8->Int
def Ü(a b:M):Nat->Nat->Int
 | 0,_=>0
 | n+1,k=>if h:k<8 then (if a ⟨k,h⟩<b ⟨k,h⟩ then -1 else if b ⟨k,h⟩<a ⟨k,h⟩ then 1 else Ü a b n (k+1)) else 0
def gO(a b:M):Int:=Ü a b 8 0
theorem Ee(a b:M):∀ (k:Nat),k<=8->(∀ i:Fin 8,i.val<k->a i=b i)->gO a b=Ü a b (8-k) k
 | 0,_,_=>rfl
 | k+1,d,h=>by
  rw[Ee a b k (by omega) (λi hi=>h i (by omega))]
  have c:k<8:=by omega
  have e:=h ⟨k,c⟩ (by simp)
  rw[show 8-k=(8-(k+1))+1 by omega]
  simp[Ü,c,e]
theorem Rf(a b:M){k:Nat}(c:k<8)(h:∀ i:Fin 8,i.val<k->a i=b i)(d:a ⟨k,c⟩<b ⟨k,c⟩):gO a b = -1:=by
 rw[Ee a b k (by omega) h,show 8-k=(7-k)+1 by omega]
 simp[Ü,c,d]
theorem Re(a b:M){k:Nat}(c:k<8)(h:∀ i:Fin 8,i.val<k->a i=b i)(d:b ⟨k,c⟩<a ⟨k,c⟩):gO a b=1:=by
 rw[Ee a b k (by omega) h,show 8-k=(7-k)+1 by omega]
 have:¬ a ⟨k,c⟩<b ⟨k,c⟩:=by omega
 simp[Ü,c,d,this]
theorem Rc(a b:M)(h:∀ i,a i=b i):gO a b=0:=by
 rw[Ee a b 8 (by omega) (λi _=>h i)]
 rfl
theorem Oe(a b:M):∀ n k,Ü b a n k = - Ü a b n k
 | 0,_=>by simp[Ü]
 | n+1,k=>by
  simp only[Ü]
  split
  .rename_i h
   rw[Oe a b n (k+1)]
   split <;> split <;> first|omega|(split <;> omega)
  rfl
theorem Hv(a b c:M):∀ n k,Ü a b n k<=0->Ü b c n k<=0->Ü a c n k<=0/\((Ü a b n k<0\/Ü b c n k<0)->Ü a c n k<0)
 | 0,_=>by simp[Ü]
 | n+1,k=>by
  have i:=Hv a b c n (k+1)
  simp only[Ü]
  by_cases h:k<8
  .simp only[Ŗ h]
   by_cases g:a ⟨k,h⟩<b ⟨k,h⟩
   .by_cases e:b ⟨k,h⟩<c ⟨k,h⟩
    .simp[g,e,show a ⟨k,h⟩<c ⟨k,h⟩ by omega]
    by_cases f:c ⟨k,h⟩<b ⟨k,h⟩
    .simp[e,f]
    simp[show a ⟨k,h⟩<c ⟨k,h⟩ by omega]
   by_cases d:b ⟨k,h⟩<a ⟨k,h⟩
   .simp[g,d]
   by_cases e:b ⟨k,h⟩<c ⟨k,h⟩
   .simp[show a ⟨k,h⟩<c ⟨k,h⟩ by omega]
   by_cases f:c ⟨k,h⟩<b ⟨k,h⟩
   .simp[e,f]
   simp only[g,d,e,f,aad,show ¬ a ⟨k,h⟩<c ⟨k,h⟩ by omega,show ¬ c ⟨k,h⟩<a ⟨k,h⟩ by omega]
   exact i
  simp[h]
theorem M4(a b:M):∀ n k,n+k=8->Ü a b n k=0->∀ i:Fin 8,k<=i.val->a i=b i
 | 0,k,e,_,i,hi=>by have:=i.isLt; omega
 | n+1,k,e,d,i,hi=>by
  have c:k<8:=by omega
  simp only[Ü,Ŗ c] at d
  by_cases f:a ⟨k,c⟩<b ⟨k,c⟩
  .simp[f] at d
  by_cases h:b ⟨k,c⟩<a ⟨k,c⟩
  .simp[f,h] at d
  simp only[f,h,aad] at d
  by_cases g:i.val=k
  .have:i=⟨k,c⟩:=gg g
   subst this; omega
  exact M4 a b n (k+1) (by omega) d i (by omega)
theorem vd(a b:M):gO b a = - gO a b:=Oe a b 8 0
theorem V1{a b c:M}(d:gO a b<=0)(e:gO b c<=0):gO a c<=0:=(Hv a b c 8 0 d e).1
theorem Hw{a b c:M}(d:gO a b<=0)(e:gO b c<=0)(h:gO a b<0\/gO b c<0):gO a c<0:=(Hv a b c 8 0 d e).2 h
theorem D0(a:M):gO a a=0:=Rc a a λ_=>rfl
theorem xL{a b:M}(h:gO a b=0):a=b:=funext λi=>M4 a b 8 0 rfl h i (ġ _)
theorem yP:Go.Sort.SWO (Go.Proofs.ltOf λa b=>gO b a) where
 irrefl x:=by simp[Go.Proofs.ltOf,D0]
 trans x y z e d:=by
  simp only[Go.Proofs.ltOf,Ģ] at *
  exact Hw (a:=z) (b:=y) (c:=x) (by omega) (by omega) (.inl d)
 ntrans x y z e d:=by
  simp only[Go.Proofs.ltOf,ű] at *
  have a:=vd x y
  have b:=vd y z
  have c:=vd x z
  have:=V1 (a:=x) (b:=y) (c:=z) (by omega) (by omega)
  omega
end Go.EL

namespace Go.EL
open Go.IntKind (i8 i16 i32 i64 u8 u16 u32 u64)
open Go Go.EL Go.RowKit Go.Proofs
def jT(c:Zj):Bool:=match c.num.Α,c.den.Α with
 | [w],[d]=>!c.den.neg && decide (d=1) && decide (1<=w) && decide (w<=12)
 | _,_=>false
def Þ(c:Zj):Int:=if c.num.neg=true then-c.num.Α.headD 0 else c.num.Α.headD 0
def jo(s t:Za):Int:=if s.m=t.m then (if Þ s.c<Þ t.c then -1 else if Þ s.c=Þ t.c then 0 else 1) else gO s.m t.m
def û:Ŀ Za->Ŀ Za->Int
 | [],[]=>0
 | [],_::_=>-1
 | _::_,[]=>1
 | s::p,t::q=>if jo s t=0 then û p q else jo s t
def hV(p:Ŀ Za):Bool:=decide (p.length<=1000) && p.all λt=>jT t.c
def z6(x:Ŀ Za):Ŀ (Ŀ Za)->Ŀ (Ŀ Za)
 | []=>[x]
 | y::l=>if 0<û x y then y::z6 x l else x::y::l
def mu(l:Ŀ (Ŀ Za)):Ŀ (Ŀ Za):=l.foldr z6 []
def mR(x:Ŀ Za):Ŀ (Ŀ Za)->Ŀ (Ŀ Za)
 | []=>[]
 | y::l=>if û y x=0 then mR y l else y::mR y l
def jq:Ŀ (Ŀ Za)->Ŀ (Ŀ Za)
 | []=>[]
 | x::l=>x::mR x l
def DU(l:Ŀ (Ŀ Za)):Cq (Ŀ (Ŀ Za)):=Cq.ì (l.length<=100/\l.all hV=true) (Cq.ret (jq (mu l)))
def nH:Nat->Int->Ŀ Int
 | 0,n=>[u8.wrap n]
 | f+1,n=>if 128<=n then u8.wrap (u8.wrap (Int.tmod n 128)+128)::nH f (u64.wrap (Int.tdiv n 128)) else [u8.wrap n]
def lD(n:Int):Ŀ Int:=nH 10 n
def qd(n:Int):Ŀ Int:=lD (u64.wrap (2*u64.wrap n))
def iZ(d:Int):Ŀ Int:=[u8.wrap (Int.fdiv d (2 ^ (min (24:Int).toNat u32.bits))),u8.wrap (Int.fdiv d (2 ^ (min (16:Int).toNat u32.bits))),u8.wrap (Int.fdiv d (2 ^ (min (8:Int).toNat u32.bits))),u8.wrap d]
def pU(a:Zi):Ŀ Int:=lD (if a.neg=true then u64.wrap (u64.wrap (2*u64.wrap (a.Α.length:Int))+1) else u64.wrap (2*u64.wrap (a.Α.length:Int)))++a.Α.flatMap iZ
def qg(a:Zj):Ŀ Int:=pU a.num++pU a.den
def l7(m:Fin 8->Int):Nat->Ŀ Int
 | 0=>[]
 | k+1=>l7 m k++lD (u64.wrap (Κ m (k:Int)))
def jK(t:Za):Ŀ Int:=qg t.c++l7 t.m 8
def ju(p:Ŀ Za):Ŀ Int:=lD (u64.wrap (p.length:Int))++p.flatMap jK
def jM(l:Ŀ (Ŀ Za)):Ŀ Int:=lD (u64.wrap (l.length:Int))++l.flatMap ju
def ml(k:Zm):Ŀ Int:=qd k.n++jM k.eqs++jM k.ζ
def yO(f:Fin 8->Int)(a b:Nat):Fin 8->Int:=å (å f a (Κ f (b:Int))) b (Κ f (a:Int))
def ri(f:Fin 8->Int)(b a:Nat):Nat->Fin 8->Int
 | 0=>f
 | k+1=>yO (ri f b a k) (b+k) (b+(a-1-k))
def nT(p:Fin 8->Int):Nat->ŀ Nat
 | 0=>none
 | k+1=>if Κ p ((k+1:Nat):Int)<Κ p (k:Int) then nT p k else some k
def wO(p:Fin 8->Int)(x:Int):Nat->Nat
 | 0=>0
 | j+1=>if Κ p ((j+1:Nat):Int)<x then wO p x j else j+1
def qG(n:Nat)(p:Fin 8->Int):ŀ (Fin 8->Int):=match nT p (n-1) with
 | none=>none
 | some i=>some (ri (yO p i (wO p (Κ p (i:Int)) (n-1))) (i+1) (n-(i+1)) ((n-(i+1)) / 2))
def ud(n:Nat):Nat->(Fin 8->Int)->Ŀ (Fin 8->Int)
 | 0,_=>[]
 | k+1,p=>p::match qG n p with|none=>[]|some q=>ud n k q
def Λ(n:Nat):Ŀ (Fin 8->Int):=ud n 24 λi=>(i.val:Int)
def Z1:Ĳ:=⟨#[65,98,99]⟩
def uE:Ĳ:=⟨#[117,95,49]⟩
def vb:Ĳ:=⟨#[119]⟩
def wa:Ĳ:=⟨#[122]⟩
def uD:Ĳ:=⟨#[121]⟩
def Zr:Ĳ:=⟨#[120]⟩
def HK:Ĳ:=⟨#[0,1,2,2,3,3,3,3,4,4,4,4,4,4,4,4,5,5,5,5,5,5,5,5,5,5,5,5,5,5,5,5,6,6,6,6,6,6,6,6,6,6,6,6,6,6,6,6,6,6,6,6,6,6,6,6,6,6,6,6,6,6,6,6,7,7,7,7,7,7,7,7,7,7,7,7,7,7,7,7,7,7,7,7,7,7,7,7,7,7,7,7,7,7,7,7,7,7,7,7,7,7,7,7,7,7,7,7,7,7,7,7,7,7,7,7,7,7,7,7,7,7,7,7,7,7,7,7,8,8,8,8,8,8,8,8,8,8,8,8,8,8,8,8,8,8,8,8,8,8,8,8,8,8,8,8,8,8,8,8,8,8,8,8,8,8,8,8,8,8,8,8,8,8,8,8,8,8,8,8,8,8,8,8,8,8,8,8,8,8,8,8,8,8,8,8,8,8,8,8,8,8,8,8,8,8,8,8,8,8,8,8,8,8,8,8,8,8,8,8,8,8,8,8,8,8,8,8,8,8,8,8,8,8,8,8,8,8,8,8,8,8,8,8,8,8,8,8,8,8,8,8,8,8,8,8]⟩
def Mf(k:Int):Cq (Ŀ (Ŀ Za)):=Cq.ì (0<=k/\k<=1000000) (Cq.ret [])
def Dq(l:Ŀ Ĳ):Cq (Ŀ Ĳ):=
 Cq.ì (l.length<=1000000) (Cq.ret (rn l))
def Z8(l:Ŀ Int):Cq (Ŀ Int):=
 Cq.ì (l.length<=1000000) (Cq.ret (rm l))
def Vt(b:(Fin 8->Int))(c:(Fin 8->Int))(a:Int):Cq Int:=
 Cq.ì (0<=a/\a<8) (Cq.ì (0<=a/\a<8) (if (Κ b a)<(Κ c a) then (Cq.ret (-1)) else (Cq.ret 1)))
def Vs(b:(Fin 8->Int))(c:(Fin 8->Int)):Int->Cq Int:=
 Cq.loop λd=>match d with|a=>Cq.ì (0<=a/\a<8) (Cq.ì (0<=a/\a<8) (if (Κ b a)=(Κ c a) then (Cq.ret (.inl (i64.wrap (a+1)))) else (Cq.ret (.inr a))))
def zl(a:(Fin 8->Int))(b:(Fin 8->Int)):Cq Int:=
 if a=b then (Cq.ret 0) else (Cq.next (Vs a b 0) λc=>match c with|d=>Vt a b d)
def Mi(b:Za)(c:Za):Cq Int:=
 Cq.bind (zl c.m b.m) λa=>Cq.ret a
def ZW(l:Ŀ Za)(a b c:Int):Cq (Ŀ Za):=
 Cq.ì (a=0/\b=(l.length:Int)/\(0<=c/\c<1000000)/\l.length<=1000000) (Cq.any (λd=>d.Perm l/\d.Pairwise (λx y=>¬ gO x.m y.m<0)) Cq.ret)
def Mr(a:Int)(b:Int):Cq Int:=
 Cq.ì (0<=(u8.wrap a:Int)/\(u8.wrap a)<(HK.size:Int)) (Cq.ret (i64.wrap (b+(i64.wrap (ó HK (u8.wrap a))))))
def Ms(a:Int)(b:Int):Cq Int:=
 if 256<=a then Cq.fail else (Mr a b)
def Mt(a:Int)(b:Int):Cq Int:=
 if 65536<=a then Cq.fail else (Ms a b)
def MS(a:Int):Cq Int:=
 if 4294967296<=a then Cq.fail else (Mt a 0)
def v7(b:Int):Cq Int:=
 Cq.bind (MS b) λa=>Cq.ret a
def ZE(a:(Ŀ Za)):Cq (Ŀ Za):=
 Cq.bind (v7 (u64.wrap (a.length:Int))) λb=>Cq.bind (ZW a 0 (a.length:Int) b) λc=>Cq.ret c
def xF(a:Zi):Cq Int:=
 if (a.Α.length:Int)=0 then (Cq.ret 0) else (if a.neg=true then (Cq.ret (-1)) else (Cq.ret 1))
def ZL(b:Zj):Cq Int:=
 Cq.bind (xF b.num) λa=>Cq.ret a
def TY(a:(Ŀ Za)):Cq (Ŀ Za):=
 Cq.bind (ZE a) λb=>Cq.ret b
def TX:((Ŀ Za)×Ŀ ((Fin 8->Int)×Zj))->Cq (Ŀ Za):=
 Cq.loop λd=>match d with|(a,f)=>Cq.pick f (Cq.ret (.inr a)) λb e=>Cq.bind (ZL b.2) λc=>if ¬ c=0 then (Cq.ì ((a++[(Za.mk b.2 b.1)]).length<=small) (Cq.ret (.inl ((a++[(Za.mk b.2 b.1)]),e)))) else (Cq.ret (.inl (a,e)))
def AQ(a:(Ŀ ((Fin 8->Int)×Zj))):Cq (Ŀ Za):=
 Cq.ì (0<=(a.length:Int)/\(a.length:Int)<=1000000) (Cq.next (TX (([]:Ŀ Za),a)) λc=>match c with|b=>TY b)
def UP:Cq Bool:=
 Cq.ret true
def UO(b:(Fin 8->Int)):Int->Cq (Bool⊕Unit):=
 Cq.loop λc=>match c with|a=>if a<8 then (Cq.ì (0<=a/\a<8) (if (Κ b a)<0 then (Cq.ret (.inr (.inl false))) else (if 65535<(Κ b a) then Cq.fail else (Cq.ret (.inl (i64.wrap (a+1))))))) else (Cq.ret (.inr (.inr ())))
def Dz(b:(Fin 8->Int)):Cq Bool:=
 Cq.next (UO b 0) λc=>match c with | .inl a=>Cq.ret a | .inr ()=>UP
def Vx(a:(Fin 8->Int)):Cq ((Fin 8->Int)×Int):=
 Cq.bind (Dz a) λb=>if (!b)=true then Cq.fail else (Cq.ret (a,0))
def Vw(c:(Fin 8->Int)):(Int×(Fin 8->Int))->Cq (Fin 8->Int):=
 Cq.loop λd=>match d with|(a,b)=>if a<8 then (Cq.ì (0<=a/\a<8) (Cq.ì (0<=a/\a<8) (Cq.ì (0<=a/\a<8) (Cq.ret (.inl (i64.wrap (a+1),å b a.toNat (i64.wrap ((Κ b a)+(Κ c a))))))))) else (Cq.ret (.inr b))
def DO(b:(Fin 8->Int))(c:(Fin 8->Int)):Cq ((Fin 8->Int)×Int):=
 Cq.next (Vw c (0,b)) λd=>match d with|a=>Vx a
def xJ(a:Zi):Cq Bool:=
 if a.neg=true then (Cq.ret false) else (if (a.Α.length:Int)=1 then (Cq.Ζ a.Α 0 λb=>Cq.ret (decide (b=1))) else (Cq.ret false))
def Vr(b:(Ŀ Int))(a:Int):Cq (Ŀ Int):=
 Cq.ì (0<=(0:Int)/\(0:Int)<=a/\a<=(b.length:Int)) (Cq.ret ((b.take a.toNat).drop (0:Int).toNat))
def Vq(b:(Ŀ Int)):Int->Cq Int:=
 Cq.loop λc=>match c with|a=>if 0<a then (Cq.Ζ b (i64.wrap (a-1)) λd=>if d=0 then (Cq.ret (.inl (i64.wrap (a-1)))) else (Cq.ret (.inr a))) else (Cq.ret (.inr a))
def Z9(a:(Ŀ Int)):Cq (Ŀ Int):=
 Cq.next (Vq a (a.length:Int)) λb=>match b with|c=>Vr a c
def DP(a:(Ŀ Int)):Cq (Ŀ Int):=
 Cq.ì (([]++a).length<=small) (Cq.ret ([]++a))
def vZ(b:Bool)(c:(Ŀ Int)):Cq Zi:=
 Cq.bind (Z9 c) λa=>if (a.length:Int)=0 then (Cq.ret (Zi.mk false [])) else (Cq.ret (Zi.mk b a))
def U7(a:Int):Cq Int:=
 Cq.ret a
def U6(b:(Ŀ Int)):(Int×Int)->Cq Int:=
 Cq.loop λd=>match d with|(c,a)=>if a<(b.length:Int) then (Cq.Ζ b a λe=>Cq.ì (0<=(i64.wrap (32*a))) (Cq.ret (.inl (u64.wrap (BitVec.ofInt u64.bits c ||| BitVec.ofInt u64.bits (u64.wrap ((u64.wrap e)*2 ^ (min (i64.wrap (32*a)).toNat u64.bits)))).toNat,i64.wrap (a+1))))) else (Cq.ret (.inr c))
def Hy(a:(Ŀ Int)):Cq Int:=
 Cq.next (U6 a (0,0)) λb=>match b with|c=>U7 c
def DQ(a:Int):Cq (Ŀ Int):=
 Cq.bind (Z9 [u32.wrap a,u32.wrap (Int.fdiv a (2 ^ (min (32:Int).toNat u64.bits)))]) λb=>Cq.ret b
def UC:Cq Int:=
 Cq.ret 0
def UB(b:(Ŀ Int))(c:(Ŀ Int)):Int->Cq (Int⊕Unit):=
 Cq.loop λd=>match d with|a=>if 0<=a then (Cq.Ζ b a λe=>Cq.Ζ c a λf=>if ¬ e=f then (Cq.Ζ b a λg=>Cq.Ζ c a λh=>if g<h then (Cq.ret (.inr (.inl (-1)))) else (Cq.ret (.inr (.inl 1)))) else (Cq.ret (.inl (i64.wrap (a-1))))) else (Cq.ret (.inr (.inr ())))
def Dt(a:(Ŀ Int))(b:(Ŀ Int)):Cq Int:=
 if ¬ (a.length:Int)=(b.length:Int) then (if (a.length:Int)<(b.length:Int) then (Cq.ret (-1)) else (Cq.ret 1)) else (Cq.next (UB a b (i64.wrap ((a.length:Int)-1))) λd=>match d with | .inl c=>Cq.ret c | .inr ()=>UC)
def TL(c:(Ŀ Int))(a:Int):Cq ((Ŀ Int)×Int):=
 Cq.bind (Z9 c) λb=>Cq.ret (b,a)
def TK(f:(Ŀ Int))(c:Int):((Ŀ Int)×Int×Int)->Cq (((Ŀ Int)×Int)):=
 Cq.loop λg=>match g with|(d,a,b)=>if 0<=b then (Cq.Ζ f b λe=>Cq.ì (c≠0) (Cq.Ζ d b λh=>Cq.ì (c≠0) (Cq.ret (.inl ((d.set b.toNat (u32.wrap (u64.wrap (Int.tdiv (u64.wrap (BitVec.ofInt u64.bits (u64.wrap (a*2 ^ (min (32:Int).toNat u64.bits))) ||| BitVec.ofInt u64.bits (u64.wrap e)).toNat) c)))),Int.tmod (u64.wrap (BitVec.ofInt u64.bits (u64.wrap (a*2 ^ (min (32:Int).toNat u64.bits))) ||| BitVec.ofInt u64.bits (u64.wrap e)).toNat) c,i64.wrap (b-1)))))) else (Cq.ret (.inr (d,a)))
def Mv(a:(Ŀ Int))(c:Int):Cq ((Ŀ Int)×Int):=
 Cq.ì (0<=(a.length:Int)/\(a.length:Int)<=1000000) (Cq.next (TK a c ((List.replicate (a.length:Int).toNat 0),0,i64.wrap ((a.length:Int)-1))) λd=>match d with|(e,b)=>TL e b)
def HE(d:(Ŀ Int))(e:(Ŀ Int)):Cq ((Ŀ Int)×(Ŀ Int)):=
 Cq.bind (Z9 d) λb=>Cq.bind (Z9 e) λa=>Cq.bind (Dt b a) λf=>if f<0 then Cq.fail else (if (a.length:Int)=1 then (Cq.Ζ a 0 λh=>Cq.bind (Mv b (u64.wrap h)) λc=>Cq.bind (DQ c.2) λg=>Cq.ret (c.1,g)) else Cq.fail)
def VD(b:(Ŀ Int)):Cq Zi:=
 Cq.bind (vZ false b) λa=>Cq.ret a
def VE(c:Int):Cq (((Ŀ Int)×(Ŀ Int)×Zi)⊕(Zi⊕((Ŀ Int)×Zi))):=
 Cq.bind (DQ c) λb=>Cq.bind (vZ false b) λa=>Cq.ret (.inr (.inl a))
def VC:(Int×Int)->Cq Int:=
 Cq.loop λc=>match c with|(b,a)=>if 0<a then (Cq.ì (a≠0) (Cq.ret (.inl (a,Int.tmod b a)))) else (Cq.ret (.inr b))
def HD(d:(Ŀ Int))(a:(Ŀ Int))(e:Zi)(b:Bool):Cq (((Ŀ Int)×(Ŀ Int)×Zi)⊕(Zi⊕((Ŀ Int)×Zi))):=
 if b=true then (Cq.bind (Hy d) λf=>Cq.bind (Hy a) λg=>Cq.next (VC (f,g)) λh=>match h with|i=>VE i) else (Cq.bind (HE d a) λc=>Cq.ret (.inl (a,c.2,e)))
def VB:((Ŀ Int)×(Ŀ Int)×Zi)->Cq (Zi⊕((Ŀ Int)×Zi)):=
 Cq.loop λd=>match d with|(c,a,b)=>if 0<(a.length:Int) then (if (c.length:Int)<=2 then (HD c a b (decide ((a.length:Int)<=2))) else (HD c a b false)) else (Cq.ret (.inr (.inr (c,b))))
def xD(f:Zi)(g:Zi):Cq Zi:=
 Cq.bind (Z9 f.Α) λa=>Cq.bind (DP a) λb=>Cq.bind (Z9 g.Α) λc=>Cq.bind (DP c) λd=>Cq.next (VB (b,d,(Zi.mk false []))) λh=>match h with | .inl e=>Cq.ret e | .inr (i,j)=>VD i
def Mo(d:Zi)(e:Zi)(f:(Ŀ Int))(a:(Ŀ Int)):Cq (Zi×Zi×Int):=
 Cq.bind (vZ (decide (¬ d.neg=e.neg)) f) λb=>Cq.bind (vZ false a) λc=>Cq.ret (b,c,0)
def Hh(c:Zi)(d:Zi)(b:(Ŀ Int)×(Ŀ Int))(a:Bool):Cq (Zi×Zi×Int):=
 if a=true then Cq.fail else (Mo c d b.1 b.2)
def A1(b:Zi)(c:Zi):Cq (Zi×Zi×Int):=
 Cq.bind (Z9 c.Α) λd=>if (d.length:Int)=0 then Cq.fail else (Cq.bind (HE b.Α c.Α) λa=>if b.neg=true then (Hh b c a (decide (0<(a.2.length:Int)))) else (Hh b c a false))
def Du(c:Zi)(a:Zi):Cq Zj:=
 Cq.bind (xJ a) λd=>if d=true then (Cq.ret (Zj.mk c a)) else (Cq.bind (xD c a) λb=>Cq.bind (xJ b) λe=>if e=true then (Cq.ret (Zj.mk c a)) else (Cq.bind (A1 c b) λf=>Cq.bind (A1 a b) λg=>Cq.ret (Zj.mk f.1 g.1)))
def zk(a:Int):Cq Zi:=
 if a<0 then Cq.fail else (Cq.bind (DQ (u64.wrap a)) λb=>Cq.bind (vZ (decide (a<0)) b) λc=>Cq.ret c)
def UF(a:(Ŀ Int)):Cq (Ŀ Int):=
 Cq.bind (Z9 a) λb=>Cq.ret b
def UG(b:(Ŀ Int))(a:Int)(c:(Ŀ Int))(d:Int):Cq (((Ŀ Int)×Int)⊕(Ŀ Int)):=
 Cq.Ζ c (i64.wrap (a+(b.length:Int))) λe=>Cq.ret (.inl ((c.set (i64.wrap (a+(b.length:Int))).toNat (u32.wrap d)),i64.wrap (a+1)))
def UE(e:(Ŀ Int))(b:Int)(f:Int):((Ŀ Int)×Int×Int)->Cq (((Ŀ Int)×Int)):=
 Cq.loop λi=>match i with|(c,d,a)=>if a<(e.length:Int) then (Cq.Ζ e a λg=>Cq.Ζ c (i64.wrap (b+a)) λh=>Cq.Ζ c (i64.wrap (b+a)) λj=>Cq.ret (.inl ((c.set (i64.wrap (b+a)).toNat (u32.wrap (u64.wrap ((u64.wrap ((u64.wrap ((u64.wrap f)*(u64.wrap g)))+(u64.wrap h)))+d)))),Int.fdiv (u64.wrap ((u64.wrap ((u64.wrap ((u64.wrap f)*(u64.wrap g)))+(u64.wrap h)))+d)) (2 ^ (min (32:Int).toNat u64.bits)),i64.wrap (a+1)))) else (Cq.ret (.inr (c,d)))
def UD(b:(Ŀ Int))(c:(Ŀ Int)):((Ŀ Int)×Int)->Cq (Ŀ Int):=
 Cq.loop λg=>match g with|(d,a)=>if a<(b.length:Int) then (Cq.Ζ b a λh=>Cq.next (UE c a h (d,0,0)) λi=>match i with|(e,f)=>UG c a e f) else (Cq.ret (.inr d))
def MR(a:(Ŀ Int))(b:(Ŀ Int)):Cq (Ŀ Int):=
 Cq.ì (0<=i64.wrap ((a.length:Int)+(b.length:Int))/\(i64.wrap ((a.length:Int)+(b.length:Int)))<=1000000) (Cq.next (UD a b ((List.replicate (i64.wrap ((a.length:Int)+(b.length:Int))).toNat 0),0)) λd=>match d with|c=>UF c)
def DW(a:Zi)(b:Zi):Cq Zi:=
 Cq.bind (MR a.Α b.Α) λc=>Cq.bind (vZ (decide (¬ a.neg=b.neg)) c) λd=>Cq.ret d
def Uj(a:Zi):Cq Zi:=
 Cq.ret a
def Ui(d:(Ŀ Zi)):(Int×Zi)->Cq Zi:=
 Cq.loop λh=>match h with|(a,b)=>if a<(d.length:Int) then (Cq.Ζ d a λc=>Cq.bind (xJ c) λe=>if e=true then (Cq.ret (.inl (i64.wrap (a+1),b))) else (Cq.bind (xJ b) λf=>if f=true then (Cq.ret (.inl (i64.wrap (a+1),c))) else (Cq.bind (DW b c) λg=>Cq.ret (.inl (i64.wrap (a+1),g))))) else (Cq.ret (.inr b))
def AS(c:(Ŀ Zi)):Cq Zi:=
 Cq.bind (zk 1) λa=>Cq.next (Ui c (0,a)) λd=>match d with|b=>Uj b
def uC(c:Zj)(d:Zj):Cq Zj:=
 Cq.bind (Du c.num d.den) λa=>Cq.bind (Du d.num c.den) λb=>Cq.bind (AS [a.num,b.num]) λe=>Cq.bind (AS [a.den,b.den]) λf=>Cq.ret (Zj.mk e f)
def Dj(a:(Ŀ ((Fin 8->Int)×Zj)))(c:Zj)(b:(Fin 8->Int)):Cq ((Ŀ ((Fin 8->Int)×Zj))):=
 Cq.ì (∀ i,(Lit.int i64 (b i)).wf=true) (Cq.bind (Cq.ret ((Å a b).getD (Zj.mk (Zi.mk false []) (Zi.mk false [])))) λd=>if ((Å a b).isSome)=true then Cq.fail else (Cq.ì ((∀ i,(Lit.int i64 (b i)).wf=true)/\(Ñ a b c).length<=small) (Cq.ret (Ñ a b c))))
def US(a:(Ŀ ((Fin 8->Int)×Zj))):Cq ((Ŀ Za)×Int):=
 Cq.bind (AQ a) λb=>Cq.ret (b,0)
def UT(a:Int)(b:(Ŀ ((Fin 8->Int)×Zj))):Cq ((Int×(Ŀ ((Fin 8->Int)×Zj)))⊕(((Ŀ Za)×Int)⊕((Ŀ ((Fin 8->Int)×Zj))))):=
 Cq.ret (.inl (i64.wrap (a+1),b))
def UR(e:(Ŀ Za))(f:Za):(Int×(Ŀ ((Fin 8->Int)×Zj)))->Cq (((Ŀ Za)×Int)⊕((Ŀ ((Fin 8->Int)×Zj)))):=
 Cq.loop λj=>match j with|(a,b)=>if a<(e.length:Int) then (Cq.Ζ e a λg=>Cq.bind (DO f.m g.m) λd=>if ¬ d.2=0 then Cq.fail else (Cq.bind (uC f.c g.c) λh=>Cq.bind (Dj b h d.1) λi=>Cq.ret (.inl (i64.wrap (a+1),i)))) else (Cq.ret (.inr (.inr b)))
def UQ(c:(Ŀ Za))(f:(Ŀ Za)):(Int×(Ŀ ((Fin 8->Int)×Zj)))->Cq (((Ŀ Za)×Int)⊕((Ŀ ((Fin 8->Int)×Zj)))):=
 Cq.loop λg=>match g with|(a,b)=>if a<(c.length:Int) then (Cq.Ζ c a λh=>Cq.next (UR f h (0,b)) λi=>match i with | .inl d=>Cq.ret (.inr (.inl d)) | .inr e=>UT a e) else (Cq.ret (.inr (.inr b)))
def xI(c:(Ŀ Za))(d:(Ŀ Za)):Cq ((Ŀ Za)×Int):=
 Cq.next (UQ c d (0,[])) λe=>match e with | .inl a=>Cq.ret a | .inr b=>US b
def NF(b:Zi)(c:Zi):Cq Int:=
 Cq.bind (xF b) λa=>Cq.bind (xF c) λd=>if ¬ a=d then Cq.fail else (if a<0 then (Cq.bind (Dt c.Α b.Α) λe=>Cq.ret e) else (Cq.bind (Dt b.Α c.Α) λf=>Cq.ret f))
def xG(c:Zj)(d:Zj):Cq Int:=
 Cq.bind (ZL c) λa=>Cq.bind (ZL d) λb=>if ¬ a=b then (if a<b then (Cq.ret (-1)) else (Cq.ret 1)) else (Cq.bind (AS [c.num,d.den]) λe=>Cq.bind (AS [d.num,c.den]) λf=>Cq.bind (NF e f) λg=>Cq.ret g)
def DD(a:Za)(b:Za):Cq Int:=
 if ¬ a.m=b.m then (Cq.bind (zl a.m b.m) λd=>Cq.ret d) else (Cq.bind (xG a.c b.c) λe=>Cq.ret e)
def Zw(a:(Ŀ Za))(b:(Ŀ Za)):Cq Int:=
 if (a.length:Int)<(b.length:Int) then (Cq.ret (-1)) else (Cq.ret 0)
def ZB(b:(Ŀ Za))(c:(Ŀ Za)):Int->Cq (Int⊕Unit):=
 Cq.loop λe=>match e with|a=>if a<(b.length:Int) then (Cq.Ζ b a λf=>if (c.length:Int)<=a then (Cq.ret (.inr (.inl 1))) else (Cq.Ζ c a λg=>Cq.bind (DD f g) λd=>if ¬ d=0 then (Cq.ret (.inr (.inl d))) else (Cq.ret (.inl (i64.wrap (a+1)))))) else (Cq.ret (.inr (.inr ())))
def Zy(a:(Ŀ Za))(b:(Ŀ Za)):Cq Int:=
 Cq.next (ZB a b 0) λd=>match d with | .inl c=>Cq.ret c | .inr ()=>Zw a b
def HJ(b:(Ŀ Za))(c:(Ŀ Za)):Cq Int:=
 Cq.bind (Zy b c) λa=>Cq.ret a
def Z7(l:Ŀ (Ŀ Za))(a b c:Int):Cq (Ŀ (Ŀ Za)):=
 Cq.ì (a=0/\b=(l.length:Int)/\(0<=c/\c<1000000)/\l.length<=1000000/\l.all hV=true) (Cq.ret (mu l))
def zg(a:Za)(b:Za):Cq Bool:=
 if a.m=b.m then (Cq.bind (xG a.c b.c) λd=>Cq.ret (decide (d=0))) else (Cq.ret false)
def ZX:Cq Bool:=
 Cq.ret true
def ZD(b:(Ŀ Za))(c:(Ŀ Za)):Int->Cq (Bool⊕Unit):=
 Cq.loop λe=>match e with|a=>if a<(b.length:Int) then (Cq.Ζ b a λf=>Cq.Ζ c a λg=>Cq.bind (zg f g) λd=>if (!d)=true then (Cq.ret (.inr (.inl false))) else (Cq.ret (.inl (i64.wrap (a+1))))) else (Cq.ret (.inr (.inr ())))
def Zu(a:(Ŀ Za))(b:(Ŀ Za)):Cq Bool:=
 if ¬ (a.length:Int)=(b.length:Int) then (Cq.ret false) else (Cq.next (ZD a b 0) λd=>match d with | .inl c=>Cq.ret c | .inr ()=>ZX)
def xH(b:(Ŀ Za))(c:(Ŀ Za)):Cq Bool:=
 Cq.bind (Zu b c) λa=>Cq.ret a
def Z0(a:(Ŀ (Ŀ Za))):Cq ((Ŀ (Ŀ Za))):=
 Cq.bind (v7 (u64.wrap (a.length:Int))) λb=>Cq.bind (Z7 a 0 (a.length:Int) b) λc=>Cq.ret c
def Hx(a:Zi):Cq Bool:=
 if (a.Α.length:Int)=0 then (Cq.ret (!a.neg)) else (Cq.Ζ a.Α (i64.wrap ((a.Α.length:Int)-1)) λb=>Cq.ret (decide (¬ b=0)))
def Mq(a:Zj):Cq Bool:=
 Cq.bind (xJ a.den) λb=>match b with|false=>(Cq.bind (xD a.num a.den) λc=>Cq.bind (xJ c) λd=>Cq.ret d)|true=>(Cq.ret true)
def DB(a:Zj):Cq Bool:=
 Cq.bind (Hx a.num) λb=>match b with|false=>(Cq.ret false)|true=>(Cq.bind (Hx a.den) λc=>match c with|false=>(Cq.ret false)|true=>(Cq.bind (xF a.den) λd=>if d<=0 then Cq.fail else (Mq a)))
def Uh:Cq Bool:=
 Cq.ret true
def Dm(c:(Ŀ Za))(a:Int)(d:Za):Cq (Int⊕(Bool⊕Unit)):=
 if 0<a then (Cq.Ζ c (i64.wrap (a-1)) λe=>Cq.bind (zl e.m d.m) λb=>if b<=0 then Cq.fail else (Cq.ret (.inl (i64.wrap (a+1))))) else (Cq.ret (.inl (i64.wrap (a+1))))
def Ug(d:(Ŀ Za)):Int->Cq (Bool⊕Unit):=
 Cq.loop λh=>match h with|a=>if a<(d.length:Int) then (Cq.Ζ d a λb=>Cq.bind (DB b.c) λe=>match e with|false=>(Cq.ret (.inr (.inl false)))|true=>(Cq.bind (ZL b.c) λf=>if f=0 then (Cq.ret (.inr (.inl false))) else (Cq.bind (Dz b.m) λg=>if (!g)=true then (Cq.ret (.inr (.inl false))) else (Dm d a b)))) else (Cq.ret (.inr (.inr ())))
def DE(b:(Ŀ Za)):Cq Bool:=
 Cq.next (Ug b 0) λc=>match c with | .inl a=>Cq.ret a | .inr ()=>Uh
def Uq(a:Int):Cq Int:=
 Cq.ret a
def Up(c:(Fin 8->Int)):(Int×Int)->Cq Int:=
 Cq.loop λd=>match d with|(b,a)=>if a<8 then (Cq.ì (0<=a/\a<8) (if 0<(Κ c a) then (Cq.ì (0<=a) (Cq.ret (.inl (u8.wrap (BitVec.ofInt u8.bits b ||| BitVec.ofInt u8.bits (u8.wrap (1*2 ^ (min (a).toNat u8.bits)))).toNat,i64.wrap (a+1))))) else (Cq.ret (.inl (b,i64.wrap (a+1)))))) else (Cq.ret (.inr b))
def Hr(a:(Fin 8->Int)):Cq Int:=
 Cq.next (Up a (0,0)) λb=>match b with|c=>Uq c
def Uy(a:Int):Cq Int:=
 Cq.ret a
def Ux(b:(Ŀ Za)):(Int×Int)->Cq Int:=
 Cq.loop λe=>match e with|(c,a)=>if a<(b.length:Int) then (Cq.Ζ b a λf=>Cq.bind (Hr f.m) λd=>Cq.ret (.inl (u8.wrap (BitVec.ofInt u8.bits c ||| BitVec.ofInt u8.bits d).toNat,i64.wrap (a+1)))) else (Cq.ret (.inr c))
def AO(a:(Ŀ Za)):Cq Int:=
 Cq.next (Ux a (0,0)) λb=>match b with|c=>Uy c
def UL(a:Int):Cq Int:=
 Cq.ret a
def UK(c:(Fin 8->Int)):(Int×Int)->Cq Int:=
 Cq.loop λd=>match d with|(b,a)=>if a<8 then (Cq.ì (0<=a/\a<8) (Cq.ret (.inl (i64.wrap (b+(Κ c a)),i64.wrap (a+1))))) else (Cq.ret (.inr b))
def Hm(a:(Fin 8->Int)):Cq Int:=
 Cq.next (UK a (0,0)) λb=>match b with|c=>UL c
def TW(a:Int):Cq Int:=
 Cq.ret a
def TV(d:(Ŀ Za)):(Int×Int)->Cq Int:=
 Cq.loop λe=>match e with|(c,a)=>if a<(d.length:Int) then (Cq.Ζ d a λf=>Cq.bind (Hm f.m) λb=>Cq.ret (.inl (if c<b then b else c,i64.wrap (a+1)))) else (Cq.ret (.inr c))
def Z6(a:(Ŀ Za)):Cq Int:=
 Cq.next (TV a ((-1),0)) λb=>match b with|c=>TW c
def hK(a:A3)(b:(Ŀ Za))(f:Int):Cq Bool:=
 Cq.bind (DE b) λc=>match c with|false=>(Cq.ret false)|true=>(Cq.bind (AO b) λd=>Cq.ì (0<=a.k.n) (if (Int.fdiv (i64.wrap d) (2 ^ (min (a.k.n).toNat i64.bits)))=0 then (Cq.bind (Z6 b) λe=>Cq.ret (decide (e<=f))) else (Cq.ret false)))
def DG(e:Zi)(a:Zi):Cq (Zj×Int):=
 Cq.bind (xF a) λb=>if b=0 then Cq.fail else (Cq.bind (xF a) λc=>if c<0 then Cq.fail else (Cq.bind (Du e a) λd=>Cq.ret (d,0)))
def Uf(a:(Ŀ Za)):Cq ((Ŀ Za)×Int):=
 Cq.ret (a,0)
def Ue(h:Zj)(i:(Fin 8->Int))(f:(Ŀ Za)):((Ŀ Za)×Int)->Cq (((Ŀ Za)×Int)⊕(Ŀ Za)):=
 Cq.loop λj=>match j with|(b,a)=>if a<(f.length:Int) then (Cq.Ζ f a λg=>Cq.bind (DO i g.m) λd=>if ¬ d.2=0 then Cq.fail else (Cq.bind (uC h g.c) λe=>Cq.ì ((b++[(Za.mk e d.1)]).length<=small) (Cq.ret (.inl ((b++[(Za.mk e d.1)]),i64.wrap (a+1)))))) else (Cq.ret (.inr (.inr b)))
def Ht(b:Zj)(f:(Fin 8->Int))(a:(Ŀ Za)):Cq ((Ŀ Za)×Int):=
 Cq.bind (ZL b) λc=>if c=0 then Cq.fail else (Cq.ì (0<=(a.length:Int)/\(a.length:Int)<=1000000) (Cq.next (Ue b f a (([]:Ŀ Za),0)) λg=>match g with | .inl d=>Cq.ret d | .inr e=>Uf e))
def HT(a:Zi):Cq Zi:=
 Cq.bind (DP a.Α) λb=>Cq.bind (vZ (!a.neg) b) λc=>Cq.ret c
def HH(a:(Ŀ Za))(b:Zi)(c:Zi):Cq (Ŀ Za):=
 Cq.bind (DG c b) λd=>Cq.bind (Ht d.1 (λ_=>0) a) λe=>Cq.ret e.1
def HI(a:(Ŀ Za))(b:Zi)(d:Zi):Cq (Ŀ Za):=
 Cq.Ζ a 0 λg=>Cq.bind (ZL g.c) λe=>if e<0 then (Cq.bind (HT d) λf=>HH a b f) else (HH a b d)
def MO(b:(Ŀ Za)):(Int×Zi×Zi)->Cq (Zi×Zi):=
 Cq.loop λk=>match k with|(a,e,d)=>if a<(b.length:Int) then (Cq.Ζ b a λf=>Cq.bind (xD e f.c.num) λh=>Cq.bind (xD d f.c.den) λi=>Cq.bind (A1 f.c.den i) λj=>Cq.bind (DW d j.1) λg=>Cq.ret (.inl (i64.wrap (a+1),h,g))) else (Cq.ret (.inr (e,d)))
def Bh(a:(Ŀ Za)):Cq (Ŀ Za):=
 if (a.length:Int)=0 then Cq.fail else (Cq.bind (zk 0) λb=>Cq.bind (zk 1) λc=>Cq.next (MO a (0,b,c)) λf=>match f with|(d,e)=>HI a d e)
def jj:Cq Bool:=
 Cq.ret true
def ji(e:A3)(d:(Ŀ (Ŀ Za)))(b:Int):Int->Cq (Bool⊕Unit):=
 Cq.loop λk=>match k with|a=>if a<(d.length:Int) then (Cq.Ζ d a λc=>Cq.bind (hK e c 12) λf=>match f with|false=>(Cq.ret (.inr (.inl false)))|true=>(Cq.bind (Z6 c) λg=>if g<b then (Cq.ret (.inr (.inl false))) else (Cq.bind (Bh c) λh=>Cq.bind (xH h c) λi=>if (!i)=true then (Cq.ret (.inr (.inl false))) else (if 0<a then (Cq.Ζ d (i64.wrap (a-1)) λl=>Cq.bind (HJ l c) λj=>if 0<=j then (Cq.ret (.inr (.inl false))) else (Cq.ret (.inl (i64.wrap (a+1))))) else (Cq.ret (.inl (i64.wrap (a+1)))))))) else (Cq.ret (.inr (.inr ())))
def À(b:A3)(c:(Ŀ (Ŀ Za)))(a:Int):Cq Bool:=
 if 12<(c.length:Int) then (Cq.ret false) else (Cq.next (ji b c a 0) λe=>match e with | .inl d=>Cq.ret d | .inr ()=>jj)
def ic(a:A3):Cq Bool:=
 if 1<=a.k.n then (if a.k.n<=4 then (Cq.bind (À a a.k.eqs 0) λb=>match b with|false=>(Cq.ret false)|true=>(Cq.bind (À a a.k.ζ 1) λc=>Cq.ret c)) else (Cq.ret false)) else (Cq.ret false)
def HS(b:Zm):Cq Bool:=
 Cq.bind (ic (A3.mk b)) λa=>Cq.ret a
def It(k:Zm):Cq Ĳ:=Cq.bind (HS k) λv=>match v with|true=>Cq.ì (0<=k.n/\(ml k).length<=1000000) (Cq.ret (bytesOf (ml k)))|false=>Cq.ret ByteArray.empty
def TH(a:(Ŀ ((Fin 8->Int)×Zj))):Cq ((Ŀ Za)×Int):=
 Cq.bind (AQ a) λb=>Cq.ret (b,0)
def TI(b:Int)(d:(Ŀ ((Fin 8->Int)×Zj)))(e:Za)(a:(Fin 8->Int)):Cq ((Int×(Ŀ ((Fin 8->Int)×Zj)))⊕(((Ŀ ((Fin 8->Int)×Zj))))):=
 Cq.ì ((∀ i,(Lit.int i64 (a i)).wf=true)/\(Ñ d a e.c).length<=small) (Cq.ret (.inl (i64.wrap (b+1),(Ñ d a e.c))))
def Mj(b:(Fin 8->Int))(d:Za):(Int×(Fin 8->Int))->Cq (Fin 8->Int):=
 Cq.loop λe=>match e with|(a,c)=>if a<8 then (Cq.ì (0<=a/\a<8) (Cq.ì (0<=a/\a<8) (Cq.ì (0<=Κ b a/\(Κ b a)<8) (Cq.ret (.inl (i64.wrap (a+1),å c ((Κ b a).toNat) (Κ d.m a))))))) else (Cq.ret (.inr c))
def TF(d:(Ŀ Za))(b:(Fin 8->Int)):(Int×(Ŀ ((Fin 8->Int)×Zj)))->Cq (((Ŀ ((Fin 8->Int)×Zj)))):=
 Cq.loop λg=>match g with|(a,c)=>if a<(d.length:Int) then (Cq.Ζ d a λe=>Cq.next (Mj b e (0,(λ_=>0))) λh=>match h with|f=>TI a c e f) else (Cq.ret (.inr c))
def Mk(c:(Ŀ Za))(a:(Fin 8->Int)):Cq ((Ŀ Za)×Int):=
 Cq.next (TF c a (0,[])) λd=>match d with|b=>TH b
def TG(b:(Fin 8->Int)):(Int×(Fin 8->Bool))->Cq (((Ŀ Za)×Int)⊕Unit):=
 Cq.loop λd=>match d with|(a,c)=>if a<8 then (Cq.ì (0<=a/\a<8) (if (Κ b a)<0 then (Cq.ret (.inr (.inl ([],1)))) else (if 8<=(Κ b a) then (Cq.ret (.inr (.inl ([],1)))) else (Cq.ì (0<=Κ b a/\(Κ b a)<8) (if (Κ c (Κ b a))=true then Cq.fail else (Cq.ì (0<=Κ b a/\(Κ b a)<8) (Cq.ret (.inl (i64.wrap (a+1),å c ((Κ b a).toNat) true))))))))) else (Cq.ret (.inr (.inr ())))
def Hj(c:(Ŀ Za))(a:(Fin 8->Int)):Cq ((Ŀ Za)×Int):=
 Cq.next (TG a (0,(λ_=>false))) λd=>match d with | .inl b=>Cq.ret b | .inr ()=>Mk c a
def UA(a:(Ŀ (Ŀ Za))):Cq ((Ŀ (Ŀ Za))):=
 Cq.ret a
def Uz(d:(Ŀ (Ŀ Za)))(c:(Fin 8->Int)):((Ŀ (Ŀ Za))×Int)->Cq (((Ŀ (Ŀ Za)))):=
 Cq.loop λf=>match f with|(b,a)=>if a<(d.length:Int) then (Cq.Ζ d a λg=>Cq.bind (Hj g c) λe=>Cq.Ζ b a λh=>Cq.ret (.inl ((b.set a.toNat e.1),i64.wrap (a+1)))) else (Cq.ret (.inr b))
def Dw(a:(Ŀ (Ŀ Za)))(b:(Fin 8->Int)):Cq ((Ŀ (Ŀ Za))):=
 Cq.ì (0<=(a.length:Int)/\(a.length:Int)<=1000000) (Cq.next (Uz a b ((List.replicate (a.length:Int).toNat []),0)) λd=>match d with|c=>UA c)
def Ty(a:(Ŀ (Ŀ Za))):Cq ((Ŀ (Ŀ Za))):=
 Cq.ret a
def Tw(b:(Ŀ (Ŀ (Ŀ Za)))):((Ŀ (Ŀ Za))×Int)->Cq (((Ŀ (Ŀ Za)))):=
 Cq.loop λe=>match e with|(a,c)=>if c<(b.length:Int) then (Cq.Ζ b c λd=>Cq.ì ((a++d).length<=small) (Cq.ret (.inl ((a++d),i64.wrap (c+1))))) else (Cq.ret (.inr a))
def Tz(b:(Ŀ (Ŀ (Ŀ Za))))(c:Int):Cq ((Ŀ (Ŀ Za))):=
 Cq.bind (Mf c) λd=>Cq.next (Tw b (d,0)) λe=>match e with|a=>Ty a
def Tx(a:(Ŀ (Ŀ (Ŀ Za)))):(Int×Int)->Cq Int:=
 Cq.loop λe=>match e with|(b,c)=>if c<(a.length:Int) then (Cq.Ζ a c λd=>if (i64.wrap (b+(d.length:Int)))<0 then Cq.fail else (Cq.ret (.inl (i64.wrap (b+(d.length:Int)),i64.wrap (c+1))))) else (Cq.ret (.inr b))
def Hf(a:(Ŀ (Ŀ (Ŀ Za)))):Cq ((Ŀ (Ŀ Za))):=
 Cq.next (Tx a (0,0)) λc=>match c with|b=>Tz a b
def M1(b:Zi):Cq Zj:=
 Cq.bind (zk 1) λa=>Cq.ret (Zj.mk b a)
def DC(c:Int):Cq Zj:=
 Cq.bind (zk c) λa=>Cq.bind (M1 a) λb=>Cq.ret b
def AX(a:Zj):Cq (Ŀ Za):=
 Cq.bind (ZL a) λb=>if b=0 then Cq.fail else (Cq.ret [(Za.mk a (λ_=>0))])
def DY(a:(Ŀ Za))(b:Int):Cq Bool:=
 Cq.bind (DE a) λc=>match c with|false=>(Cq.ret false)|true=>(Cq.bind (AO a) λd=>Cq.ì (0<=b) (if (Int.fdiv (i64.wrap d) (2 ^ (min (b).toNat i64.bits)))=0 then (Cq.bind (Z6 a) λe=>Cq.ret (decide (e<=12))) else (Cq.ret false)))
def MC(e:Int)(a:(Ŀ (Ŀ Za)))(b:(Ŀ (Ŀ Za))):Cq (Zm×Int):=
 Cq.bind (DU a) λc=>Cq.bind (DU b) λd=>if 12<(c.length:Int) then (Cq.ret ((Zm.mk 0 [] []),2)) else (if 12<(d.length:Int) then (Cq.ret ((Zm.mk 0 [] []),2)) else (Cq.ret ((Zm.mk e c d),0)))
def UW(d:(Ŀ (Ŀ Za))):((Ŀ (Ŀ Za))×(Ŀ (Ŀ Za))×Int)->Cq (((Ŀ (Ŀ Za))×(Ŀ (Ŀ Za)))):=
 Cq.loop λj=>match j with|(a,b,c)=>if c<(d.length:Int) then (Cq.Ζ d c λg=>if (g.length:Int)=0 then (Cq.bind (DC 1) λh=>Cq.bind (AX h) λe=>Cq.ì ((a++[e]).length<=small) (Cq.ret (.inl ((a++[e]),b,i64.wrap (c+1))))) else (Cq.bind (Z6 g) λi=>if 0<i then (Cq.bind (Bh g) λf=>Cq.ì ((b++[f]).length<=small) (Cq.ret (.inl (a,(b++[f]),i64.wrap (c+1))))) else (Cq.ret (.inl (a,b,i64.wrap (c+1)))))) else (Cq.ret (.inr (a,b)))
def MD(d:Int)(e:(Ŀ (Ŀ Za)))(a:(Ŀ (Ŀ Za))):Cq (Zm×Int):=
 Cq.next (UW e (a,[],0)) λf=>match f with|(b,c)=>MC d b c
def UX(c:(Ŀ (Ŀ Za))):((Ŀ (Ŀ Za))×Int)->Cq (((Ŀ (Ŀ Za)))):=
 Cq.loop λf=>match f with|(a,b)=>if b<(c.length:Int) then (Cq.Ζ c b λe=>if 0<(e.length:Int) then (Cq.bind (Bh e) λd=>Cq.ì ((a++[d]).length<=small) (Cq.ret (.inl ((a++[d]),i64.wrap (b+1))))) else (Cq.ret (.inl (a,i64.wrap (b+1))))) else (Cq.ret (.inr a))
def ME(b:Int)(c:(Ŀ (Ŀ Za)))(d:(Ŀ (Ŀ Za))):Cq (Zm×Int):=
 Cq.next (UX c ([],0)) λe=>match e with|a=>MD b d a
def MB(d:Int)(b:(Ŀ (Ŀ Za))):(Int×Zm)->Cq ((Zm×Int)⊕Zm):=
 Cq.loop λf=>match f with|(a,c)=>if a<(b.length:Int) then (Cq.Ζ b a λg=>Cq.bind (DY g d) λe=>if (!e)=true then (Cq.ret (.inr (.inl ((Zm.mk 0 [] []),1)))) else (Cq.ret (.inl (i64.wrap (a+1),c)))) else (Cq.ret (.inr (.inr c)))
def MF(a:Int)(b:(Ŀ (Ŀ Za)))(c:(Ŀ (Ŀ Za)))(d:Zm):Cq (Zm×Int):=
 Cq.bind (Hf [b,c]) λe=>Cq.next (MB a e (0,d)) λg=>match g with | .inl f=>Cq.ret f | .inr h=>ME a b c
def DR(a:Int)(b:(Ŀ (Ŀ Za)))(c:(Ŀ (Ŀ Za))):Cq (Zm×Int):=
 if a<1 then (Cq.ret ((Zm.mk 0 [] []),1)) else (if 4<a then (Cq.ret ((Zm.mk 0 [] []),1)) else (MF a b c (Zm.mk 0 [] [])))
def tD(k:Zm)(p:(Fin 8->Int))(s:Zm×(Fin 8->Int)×Ĳ):Cq (Zm×(Fin 8->Int)×Ĳ):=Cq.bind (Dw k.eqs p) λa=>Cq.bind (Dw k.ζ p) λb=>Cq.bind (DR k.n a b) λr=>if ¬ r.2=0 then Cq.ret s else Cq.bind (It r.1) λt=>if s.2.2=ByteArray.empty then Cq.ret (r.1,p,t) else if Op.bytesLess t.toList s.2.2.toList=true then Cq.ret (r.1,p,t) else Cq.ret s
def pN(k:Zm):Ŀ (Fin 8->Int)->(Zm×(Fin 8->Int)×Ĳ)->Cq (Zm×(Fin 8->Int)×Ĳ)
 | [],s=>Cq.ret s
 | p::l,s=>Cq.bind (tD k p s) λa=>pN k l a
def DH(k:Zm):Cq (Zm×(Fin 8->Int)):=Cq.ì (1<=k.n/\k.n<=4) (Cq.bind (pN k (Λ k.n.toNat) (⟨0,[],[]⟩,(λ_=>0),ByteArray.empty)) λs=>Cq.ret (s.1,s.2.1))
def Ec(a:(Ŀ Int))(b:Int):Cq (Ŀ Int):=
 Cq.ì ((a++[u8.wrap b]).length<=small) (Cq.ret (a++[u8.wrap b]))
def DV:((Ŀ Int)×Int)->Cq (((Ŀ Int)×Int)):=
 Cq.loop λc=>match c with|(b,a)=>if 127<a then (Cq.ì ((b++[u8.wrap ((u8.wrap (Int.tmod a 128))+128)]).length<=small) (Cq.ret (.inl ((b++[u8.wrap ((u8.wrap (Int.tmod a 128))+128)]),u64.wrap (Int.tdiv a 128))))) else (Cq.ret (.inr (b,a)))
def xZ(a:(Ŀ Int))(b:Int):Cq (Ŀ Int):=
 Cq.next (DV (a,b)) λc=>match c with|(d,e)=>Ec d e
def Oy(c:(Ŀ Int))(a:Int):Cq (Ŀ Int):=
 if a<0 then Cq.fail else (Cq.bind (xZ c (u64.wrap ((u64.wrap a)*2))) λb=>Cq.ret b)
def Wn(a:(Ŀ Int)):Cq (Ŀ Int):=
 Cq.ret a
def Wm(d:Zi):((Ŀ Int)×Int)->Cq (Ŀ Int):=
 Cq.loop λe=>match e with|(b,c)=>if c<(d.Α.length:Int) then (Cq.Ζ d.Α c λa=>Cq.ì ((b++[u8.wrap (Int.fdiv a (2 ^ (min (24:Int).toNat u32.bits))),u8.wrap (Int.fdiv a (2 ^ (min (16:Int).toNat u32.bits))),u8.wrap (Int.fdiv a (2 ^ (min (8:Int).toNat u32.bits))),u8.wrap a]).length<=small) (Cq.ret (.inl ((b++[u8.wrap (Int.fdiv a (2 ^ (min (24:Int).toNat u32.bits))),u8.wrap (Int.fdiv a (2 ^ (min (16:Int).toNat u32.bits))),u8.wrap (Int.fdiv a (2 ^ (min (8:Int).toNat u32.bits))),u8.wrap a]),i64.wrap (c+1))))) else (Cq.ret (.inr b))
def DK(c:(Ŀ Int))(a:Zi)(d:Int):Cq (Ŀ Int):=
 Cq.bind (xZ c (u64.wrap ((u64.wrap ((u64.wrap (a.Α.length:Int))*2))+d))) λb=>Cq.next (Wm a (b,0)) λe=>match e with|f=>Wn f
def Bk(b:(Ŀ Int))(a:Zi):Cq (Ŀ Int):=
 if a.neg=true then (DK b a 1) else (DK b a 0)
def M8(d:(Ŀ Int))(a:Zj):Cq (Ŀ Int):=
 Cq.bind (Bk d a.num) λb=>Cq.bind (Bk b a.den) λc=>Cq.ret c
def WT(a:(Ŀ Int)):Cq (Ŀ Int):=
 Cq.ret a
def WU(a:Int)(b:(Ŀ Int)):Cq (((Ŀ Int)×Int)⊕(Ŀ Int)):=
 Cq.ret (.inl (b,i64.wrap (a+1)))
def WS(d:(Ŀ Za))(e:Int):((Ŀ Int)×Int)->Cq (Ŀ Int):=
 Cq.loop λf=>match f with|(b,a)=>if a<8 then (Cq.Ζ d e λg=>Cq.ì (0<=a/\a<8) (Cq.bind (xZ b (u64.wrap (Κ g.m a))) λc=>Cq.ret (.inl (c,i64.wrap (a+1))))) else (Cq.ret (.inr b))
def WR(b:(Ŀ Za)):((Ŀ Int)×Int)->Cq (Ŀ Int):=
 Cq.loop λf=>match f with|(d,a)=>if a<(b.length:Int) then (Cq.Ζ b a λg=>Cq.bind (M8 d g.c) λe=>Cq.next (WS b a (e,0)) λh=>match h with|i=>WU a i) else (Cq.ret (.inr d))
def Jp(c:(Ŀ Int))(a:(Ŀ Za)):Cq (Ŀ Int):=
 Cq.bind (xZ c (u64.wrap (a.length:Int))) λb=>Cq.next (WR a (b,0)) λd=>match d with|e=>WT e
def Wl(a:(Ŀ Int)):Cq (Ŀ Int):=
 Cq.ret a
def Wk(b:(Ŀ (Ŀ Za))):((Ŀ Int)×Int)->Cq (Ŀ Int):=
 Cq.loop λe=>match e with|(c,a)=>if a<(b.length:Int) then (Cq.Ζ b a λf=>Cq.bind (Jp c f) λd=>Cq.ret (.inl (d,i64.wrap (a+1)))) else (Cq.ret (.inr c))
def D9(c:(Ŀ Int))(a:(Ŀ (Ŀ Za))):Cq (Ŀ Int):=
 Cq.bind (xZ c (u64.wrap (a.length:Int))) λb=>Cq.next (Wk a (b,0)) λd=>match d with|e=>Wl e
def BF(e:(Ŀ Int))(a:Zm):Cq (Ŀ Int):=
 Cq.bind (Oy e a.n) λb=>Cq.bind (D9 b a.eqs) λc=>Cq.bind (D9 c a.ζ) λd=>Cq.ret d
def HM(c d:Zm):Cq Bool:=Cq.bind (BF [] c) λa=>Cq.bind (BF [] d) λb=>Cq.ret (decide (bytesOf a=bytesOf b))
def Xl(b:(Ŀ Int))(a:Int):Cq (Ŀ Int):=
 Cq.ì (0<=(0:Int)/\(0:Int)<=a/\a<=(b.length:Int)) (Cq.ret ((b.take a.toNat).drop (0:Int).toNat))
def Xk(b:(Ŀ Int)):Int->Cq Int:=
 Cq.loop λc=>match c with|a=>if 0<a then (Cq.Ζ b (i64.wrap (a-1)) λd=>if d=0 then (Cq.ret (.inl (i64.wrap (a-1)))) else (Cq.ret (.inr a))) else (Cq.ret (.inr a))
def xT(a:(Ŀ Int)):Cq (Ŀ Int):=
 Cq.next (Xk a (a.length:Int)) λb=>match b with|c=>Xl a c
def Bj(a:Int):Cq (Ŀ Int):=
 Cq.bind (xT [u32.wrap (Int.tmod a 4294967296),u32.wrap (u64.wrap (Int.tdiv a 4294967296))]) λb=>Cq.ret b
def uA(b:Bool)(c:(Ŀ Int)):Cq Zi:=
 Cq.bind (xT c) λa=>if b=true then (Cq.ret (Zi.mk (decide (0<(a.length:Int))) a)) else (Cq.ret (Zi.mk false a))
def Fi(a:Int):Cq Zi:=
 if a<0 then (Cq.bind (Bj (u64.wrap ((u64.wrap (i64.wrap (0-(i64.wrap (a+1)))))+1))) λb=>Cq.bind (uA true b) λc=>Cq.ret c) else (Cq.bind (Bj (u64.wrap a)) λd=>Cq.bind (uA false d) λe=>Cq.ret e)
def xK(c:Int):Cq Zj:=
 Cq.bind (Fi c) λa=>Cq.bind (Fi 1) λb=>Cq.ret (Zj.mk a b)
def Pg(a:Int)(b:Int):Cq (Fin 8->Int):=
 Cq.ì (0<=a/\a<8) (Cq.ret (å (λ_=>0) a.toNat b))
def EO(a:Zi):Cq Int:=
 if a.neg=true then (Cq.ret (-1)) else (Cq.ret (if 1<(a.Α.length:Int) then 1 else (a.Α.length:Int)))
def uB(b:Zj):Cq Int:=
 Cq.bind (EO b.num) λa=>Cq.ret a
def M7(a:Zj):Cq (Ŀ Za):=
 Cq.bind (uB a) λb=>if b=0 then (Cq.ret []) else (Cq.ret [(Za.mk a (λ_=>0))])
def VQ:Cq Bool:=
 Cq.ret true
def VP(b:(Fin 8->Int)):Int->Cq (Bool⊕Unit):=
 Cq.loop λc=>match c with|a=>if a<8 then (Cq.ì (0<=a/\a<8) (if (Κ b a)<0 then (Cq.ret (.inr (.inl false))) else (Cq.ì (0<=a/\a<8) (if 65535<(Κ b a) then Cq.fail else (Cq.ret (.inl (i64.wrap (a+1)))))))) else (Cq.ret (.inr (.inr ())))
def D8(b:(Fin 8->Int)):Cq Bool:=
 Cq.next (VP b 0) λc=>match c with | .inl a=>Cq.ret a | .inr ()=>VQ
def XS(a:(Fin 8->Int)):Cq ((Fin 8->Int)×Int):=
 Cq.bind (D8 a) λb=>if (!b)=true then Cq.fail else (Cq.ret (a,0))
def XR(c:(Fin 8->Int)):(Int×(Fin 8->Int))->Cq (Fin 8->Int):=
 Cq.loop λd=>match d with|(a,b)=>if a<8 then (Cq.ì (0<=a/\a<8) (Cq.ì (0<=a/\a<8) (Cq.ì (0<=a/\a<8) (Cq.ret (.inl (i64.wrap (a+1),å b a.toNat (i64.wrap ((Κ b a)+(Κ c a))))))))) else (Cq.ret (.inr b))
def JW(b:(Fin 8->Int))(c:(Fin 8->Int)):Cq ((Fin 8->Int)×Int):=
 Cq.next (XR c (0,b)) λd=>match d with|a=>XS a
def VN(a:(Ŀ Int)):Cq (Ŀ Int):=
 Cq.bind (xT a) λb=>Cq.ret b
def VO(b:(Ŀ Int))(a:Int)(c:(Ŀ Int))(d:Int):Cq (((Ŀ Int)×Int)⊕(Ŀ Int)):=
 Cq.Ζ c (i64.wrap (a+(b.length:Int))) λe=>Cq.ret (.inl ((c.set (i64.wrap (a+(b.length:Int))).toNat (u32.wrap d)),i64.wrap (a+1)))
def VM(f:(Ŀ Int))(e:(Ŀ Int))(b:Int):((Ŀ Int)×Int×Int)->Cq (((Ŀ Int)×Int)):=
 Cq.loop λj=>match j with|(c,d,a)=>if a<(e.length:Int) then (Cq.Ζ f b λg=>Cq.Ζ e a λh=>Cq.Ζ c (i64.wrap (b+a)) λi=>Cq.Ζ c (i64.wrap (b+a)) λk=>Cq.ret (.inl ((c.set (i64.wrap (b+a)).toNat (u32.wrap (Int.tmod (u64.wrap ((u64.wrap ((u64.wrap ((u64.wrap g)*(u64.wrap h)))+(u64.wrap i)))+d)) 4294967296))),u64.wrap (Int.tdiv (u64.wrap ((u64.wrap ((u64.wrap ((u64.wrap g)*(u64.wrap h)))+(u64.wrap i)))+d)) 4294967296),i64.wrap (a+1)))) else (Cq.ret (.inr (c,d)))
def VL(b:(Ŀ Int))(c:(Ŀ Int)):((Ŀ Int)×Int)->Cq (Ŀ Int):=
 Cq.loop λg=>match g with|(d,a)=>if a<(b.length:Int) then (Cq.next (VM b c a (d,0,0)) λh=>match h with|(e,f)=>VO c a e f) else (Cq.ret (.inr d))
def Pf(a:(Ŀ Int))(b:(Ŀ Int)):Cq (Ŀ Int):=
 Cq.ì (0<=i64.wrap ((a.length:Int)+(b.length:Int))/\(i64.wrap ((a.length:Int)+(b.length:Int)))<=1000000) (Cq.next (VL a b ((List.replicate (i64.wrap ((a.length:Int)+(b.length:Int))).toNat 0),0)) λd=>match d with|c=>VN c)
def zJ(a:Zi)(b:Zi):Cq Zi:=
 Cq.bind (Pf a.Α b.Α) λc=>Cq.bind (uA (decide (¬ a.neg=b.neg)) c) λd=>Cq.ret d
def zy(a:(Ŀ Int))(b:Int):Cq Int:=
 if b<(a.length:Int) then (Cq.Ζ a b λc=>Cq.ret (u64.wrap c)) else (Cq.ret 0)
def Il(a:(Ŀ Int)):Cq Int:=
 Cq.bind (zy a 1) λb=>Cq.bind (zy a 0) λc=>Cq.ret (u64.wrap ((u64.wrap (b*4294967296))+c))
def VV(a:Int):Cq Int:=
 Cq.ret a
def Wi:(Int×Int)->Cq Int:=
 Cq.loop λc=>match c with|(b,a)=>if 0<a then (Cq.ì (a≠0) (Cq.ret (.inl (a,Int.tmod b a)))) else (Cq.ret (.inr b))
def Ox(a:Int)(b:Int):Cq Int:=
 Cq.next (Wi (a,b)) λc=>match c with|d=>VV d
def U0:Cq Int:=
 Cq.ret 0
def UZ(b:(Ŀ Int))(c:(Ŀ Int)):Int->Cq (Int⊕Unit):=
 Cq.loop λd=>match d with|a=>if 0<=a then (Cq.Ζ b a λe=>Cq.Ζ c a λf=>if e<f then (Cq.ret (.inr (.inl (-1)))) else (Cq.Ζ b a λg=>Cq.Ζ c a λh=>if h<g then (Cq.ret (.inr (.inl 1))) else (Cq.ret (.inl (i64.wrap (a-1)))))) else (Cq.ret (.inr (.inr ())))
def ZY(a:(Ŀ Int))(b:(Ŀ Int)):Cq Int:=
 if (a.length:Int)<(b.length:Int) then (Cq.ret (-1)) else (if (b.length:Int)<(a.length:Int) then (Cq.ret 1) else (Cq.next (UZ a b (i64.wrap ((a.length:Int)-1))) λd=>match d with | .inl c=>Cq.ret c | .inr ()=>U0))
def Vp(a:(Ŀ Int))(b:Int):Cq ((Ŀ Int)×Int):=
 Cq.bind (xT a) λc=>Cq.ret (c,b)
def Vo(f:(Ŀ Int))(d:Int):((Ŀ Int)×Int×Int)->Cq (((Ŀ Int)×Int)):=
 Cq.loop λg=>match g with|(a,b,c)=>if 0<=c then (Cq.Ζ f c λe=>Cq.ì (d≠0) (Cq.Ζ a c λh=>Cq.ì (d≠0) (Cq.ret (.inl ((a.set c.toNat (u32.wrap (u64.wrap (Int.tdiv (u64.wrap ((u64.wrap (b*4294967296))+(u64.wrap e))) d)))),Int.tmod (u64.wrap ((u64.wrap (b*4294967296))+(u64.wrap e))) d,i64.wrap (c-1)))))) else (Cq.ret (.inr (a,b)))
def NT(a:(Ŀ Int))(d:Int):Cq ((Ŀ Int)×Int):=
 Cq.ì (0<=(a.length:Int)/\(a.length:Int)<=1000000) (Cq.next (Vo a d ((List.replicate (a.length:Int).toNat 0),0,i64.wrap ((a.length:Int)-1))) λe=>match e with|(b,c)=>Vp b c)
def H3(a:(Ŀ Int))(b:(Ŀ Int)):Cq ((Ŀ Int)×(Ŀ Int)):=
 Cq.bind (ZY a b) λd=>if d<0 then (Cq.ret ([],a)) else (if (b.length:Int)=1 then (Cq.Ζ b 0 λf=>Cq.bind (NT a (u64.wrap f)) λc=>Cq.bind (Bj c.2) λe=>Cq.ret (c.1,e)) else Cq.fail)
def Wh(a:(Ŀ Int)):Cq (Ŀ Int):=
 Cq.ret a
def Hu(c:(Ŀ Int))(b:(Ŀ Int))(a:Bool):Cq (((Ŀ Int)×(Ŀ Int))⊕((Ŀ Int)⊕(Ŀ Int))):=
 if a=true then (Cq.bind (Il c) λd=>Cq.bind (Il b) λe=>Cq.bind (Ox d e) λf=>Cq.bind (Bj f) λg=>Cq.ret (.inr (.inl g))) else (Cq.bind (H3 c b) λh=>Cq.ret (.inl (b,h.2)))
def Wg:((Ŀ Int)×(Ŀ Int))->Cq ((Ŀ Int)⊕(Ŀ Int)):=
 Cq.loop λc=>match c with|(a,b)=>if 0<(b.length:Int) then (if (a.length:Int)<=2 then (Hu a b (decide ((b.length:Int)<=2))) else (Hu a b false)) else (Cq.ret (.inr (.inr a)))
def Ov(b:(Ŀ Int))(c:(Ŀ Int)):Cq (Ŀ Int):=
 Cq.next (Wg (b,c)) λd=>match d with | .inl a=>Cq.ret a | .inr e=>Wh e
def JY(c:Zi)(d:Zi):Cq Zi:=
 Cq.bind (Ov c.Α d.Α) λa=>Cq.bind (uA false a) λb=>Cq.ret b
def Wc(a:(Ŀ Int)):Cq (Ŀ Int):=
 Cq.bind (xT a) λb=>Cq.ret b
def Wb(f:(Ŀ Int))(g:(Ŀ Int)):((Ŀ Int)×Int×Int)->Cq (Ŀ Int):=
 Cq.loop λh=>match h with|(b,a,c)=>if c<(i64.wrap ((if (f.length:Int)<(g.length:Int) then (g.length:Int) else (f.length:Int))+1)) then (Cq.bind (zy f c) λd=>Cq.bind (zy g c) λe=>Cq.Ζ b c λi=>Cq.ret (.inl ((b.set c.toNat (u32.wrap (Int.tmod (u64.wrap ((u64.wrap (d+e))+a)) 4294967296))),u64.wrap (Int.tdiv (u64.wrap ((u64.wrap (d+e))+a)) 4294967296),i64.wrap (c+1)))) else (Cq.ret (.inr b))
def Pe(a:(Ŀ Int))(b:(Ŀ Int)):Cq (Ŀ Int):=
 Cq.ì (0<=i64.wrap ((if (a.length:Int)<(b.length:Int) then (b.length:Int) else (a.length:Int))+1)/\(i64.wrap ((if (a.length:Int)<(b.length:Int) then (b.length:Int) else (a.length:Int))+1))<=1000000) (Cq.next (Wb a b ((List.replicate (i64.wrap ((if (a.length:Int)<(b.length:Int) then (b.length:Int) else (a.length:Int))+1)).toNat 0),0,0)) λd=>match d with|c=>Wc c)
def We(a:(Ŀ Int)):Cq (Ŀ Int):=
 Cq.bind (xT a) λb=>Cq.ret b
def Wd(e:(Ŀ Int))(g:(Ŀ Int)):((Ŀ Int)×Int×Int)->Cq (Ŀ Int):=
 Cq.loop λh=>match h with|(b,a,c)=>if c<(e.length:Int) then (Cq.Ζ e c λf=>Cq.bind (zy g c) λd=>Cq.Ζ b c λi=>Cq.ret (.inl ((b.set c.toNat (u32.wrap (Int.tmod (u64.wrap ((u64.wrap ((u64.wrap (4294967296+(u64.wrap f)))-d))-a)) 4294967296))),u64.wrap (1-(u64.wrap (Int.tdiv (u64.wrap ((u64.wrap ((u64.wrap (4294967296+(u64.wrap f)))-d))-a)) 4294967296))),i64.wrap (c+1)))) else (Cq.ret (.inr b))
def IA(a:(Ŀ Int))(c:(Ŀ Int)):Cq (Ŀ Int):=
 Cq.ì (0<=(a.length:Int)/\(a.length:Int)<=1000000) (Cq.next (Wd a c ((List.replicate (a.length:Int).toNat 0),0,0)) λd=>match d with|b=>We b)
def Nd(d:Zi)(e:Zi)(f:(Ŀ Int))(a:(Ŀ Int)):Cq (Zi×Zi×Int):=
 Cq.bind (uA (decide (¬ d.neg=e.neg)) f) λb=>Cq.bind (uA false a) λc=>Cq.ret (b,c,0)
def HB(c:Zi)(d:Zi)(b:(Ŀ Int)×(Ŀ Int))(a:Bool):Cq (Zi×Zi×Int):=
 if a=true then Cq.fail else (Nd c d b.1 b.2)
def Ou(b:Zi)(c:Zi):Cq (Zi×Zi×Int):=
 if (c.Α.length:Int)=0 then Cq.fail else (Cq.bind (H3 b.Α c.Α) λa=>if b.neg=true then (HB b c a (decide (0<(a.2.length:Int)))) else (HB b c a false))
def IB(b:Zi)(c:Zi):Cq Zi:=
 Cq.bind (Ou b c) λa=>Cq.ret a.1
def Ng(d:Zi)(e:Zi)(a:Zi):Cq Zj:=
 Cq.bind (IB d a) λb=>Cq.bind (IB e a) λc=>Cq.ret (Zj.mk b c)
def Im(b:Zi)(a:Zi):Cq Zj:=
 Cq.bind (JY b a) λc=>Cq.bind (EO a) λd=>if d<0 then Cq.fail else (Ng b a c)
def JZ(a:Zj)(b:Zj):Cq Zj:=
 Cq.bind (zJ a.num b.num) λc=>Cq.bind (zJ a.den b.den) λd=>Cq.bind (Im c d) λe=>Cq.ret e
def VS(a:(Ŀ Za)):Cq ((Ŀ Za)×Int):=
 Cq.ret (a,0)
def VR(g:Zj)(h:(Fin 8->Int))(f:(Ŀ Za)):((Ŀ Za)×Int)->Cq (((Ŀ Za)×Int)⊕(Ŀ Za)):=
 Cq.loop λi=>match i with|(a,d)=>if d<(f.length:Int) then (Cq.Ζ f d λj=>Cq.bind (JW h j.m) λb=>if ¬ b.2=0 then Cq.fail else (Cq.Ζ f d λk=>Cq.bind (JZ g k.c) λe=>Cq.ì ((a++[(Za.mk e b.1)]).length<=small) (Cq.ret (.inl ((a++[(Za.mk e b.1)]),i64.wrap (d+1)))))) else (Cq.ret (.inr (.inr a)))
def ID(b:Zj)(e:(Fin 8->Int))(f:(Ŀ Za)):Cq ((Ŀ Za)×Int):=
 Cq.bind (uB b) λc=>if c=0 then (Cq.ret ([],0)) else (Cq.next (VR b e f ([],0)) λg=>match g with | .inl d=>Cq.ret d | .inr a=>VS a)
def ZV(a:Int)(g:Int):Cq Zc:=
 Cq.bind (xK 1) λb=>Cq.bind (Pg 0 g) λc=>Cq.bind (xK 1) λd=>Cq.bind (M7 d) λe=>Cq.bind (ID b c e) λf=>Cq.ret (Zc.mk a f.1)
def wc(a:Ĳ)(c:(Ŀ Zc))(b:Int):Cq Zb:=
 Cq.ret (Zb.mk [a] c [] b)
def DT(a:Int):Cq Bool:=
 if 48<=a then (if a<=57 then (Cq.ret true) else (Cq.ret (decide (a=95)))) else (Cq.ret (decide (a=95)))
def Hk:Cq Bool:=
 Cq.ret true
def ZS(c:Ĳ)(a:Nat)(b:Bool):Cq (Nat⊕(Bool⊕Unit)):=
 if b=true then (Cq.ret (.inl (a+(Utf8.decode c a).2))) else (if (a:Int)=0 then (Cq.ret (.inr (.inl false))) else (Cq.bind (DT ((Utf8.decode c a).1:Int)) λd=>if (!d)=true then (Cq.ret (.inr (.inl false))) else (Cq.ret (.inl (a+(Utf8.decode c a).2)))))
def UY(b:Ĳ):Nat->Cq (Bool⊕Unit):=
 Cq.loop λc=>match c with|a=>if a<b.size then (if 65<=((Utf8.decode b a).1:Int) then (if ((Utf8.decode b a).1:Int)<=90 then (ZS b a true) else (if 97<=((Utf8.decode b a).1:Int) then (ZS b a (decide (((Utf8.decode b a).1:Int)<=122))) else (ZS b a false))) else (if 97<=((Utf8.decode b a).1:Int) then (ZS b a (decide (((Utf8.decode b a).1:Int)<=122))) else (ZS b a false))) else (Cq.ret (.inr (.inr ())))
def MG(b:Ĳ):Cq Bool:=
 Cq.next (UY b 0) λc=>match c with | .inl a=>Cq.ret a | .inr ()=>Hk
def DS(a:Ĳ):Cq Bool:=
 if (a.size:Int)<1 then (Cq.ret false) else (if 12<(a.size:Int) then (Cq.ret false) else (MG a))
def Vl:Cq Bool:=
 Cq.ret true
def Vm(a:Int)(b:(Ŀ (Int×Bool))):Cq ((Int×(Ŀ (Int×Bool)))⊕(Bool⊕Unit)):=
 Cq.ret (.inl (i64.wrap (a+1),b))
def Dv(d:Zb)(a:Int)(c:(Ŀ (Int×Bool)))(b:Zc):Cq ((Int×(Ŀ (Int×Bool)))⊕(Bool⊕((Ŀ (Int×Bool))))):=
 Cq.ì (((Lit.int i64 b.id).wf=true)/\(Ñ c b.id true).length<=small) (Cq.bind (DY b.p (d.vars.length:Int)) λe=>if (!e)=true then (Cq.ret (.inr (.inl false))) else (Cq.ret (.inl (i64.wrap (a+1),(Ñ c b.id true)))))
def MX(b:Zb)(e:(Ŀ Zc)):(Int×(Ŀ (Int×Bool)))->Cq (Bool⊕((Ŀ (Int×Bool)))):=
 Cq.loop λf=>match f with|(a,d)=>if a<(e.length:Int) then (Cq.Ζ e a λc=>if c.id<1 then (Cq.ret (.inr (.inl false))) else (if b.next<=c.id then (Cq.ret (.inr (.inl false))) else (Cq.ì ((Lit.int i64 c.id).wf=true) (if ((Å d c.id).getD false)=true then (Cq.ret (.inr (.inl false))) else (if 0<a then (Cq.Ζ e (i64.wrap (a-1)) λg=>if c.id<=g.id then (Cq.ret (.inr (.inl false))) else (Dv b a d c)) else (Dv b a d c)))))) else (Cq.ret (.inr (.inr d)))
def Vj(a:Zb):(Int×(Ŀ (Int×Bool)))->Cq (Bool⊕Unit):=
 Cq.loop λg=>match g with|(b,c)=>if b<([a.eqs,a.ζ].length:Int) then (Cq.Ζ [a.eqs,a.ζ] b λd=>if 12<(d.length:Int) then (Cq.ret (.inr (.inl false))) else (Cq.next (MX a d (0,c)) λh=>match h with | .inl e=>Cq.ret (.inr (.inl e)) | .inr f=>Vm b f)) else (Cq.ret (.inr (.inr ())))
def MY(a:Zb):Cq Bool:=
 Cq.next (Vj a (0,[])) λc=>match c with | .inl b=>Cq.ret b | .inr ()=>Vl
def Vk(c:Zb):(Int×(Ŀ (Ĳ×Bool)))->Cq (Bool⊕Unit):=
 Cq.loop λf=>match f with|(a,d)=>if a<(c.vars.length:Int) then (Cq.Ζ c.vars a λb=>Cq.bind (DS b) λe=>match e with|false=>(Cq.ret (.inr (.inl false)))|true=>(Cq.ì (b.size<=1000000) (if ((Å d b).getD false)=true then (Cq.ret (.inr (.inl false))) else (Cq.ì ((b.size<=1000000)/\(Ñ d b true).length<=small) (Cq.ret (.inl (i64.wrap (a+1),(Ñ d b true)))))))) else (Cq.ret (.inr (.inr ())))
def MZ(a:Zb):Cq Bool:=
 Cq.next (Vk a (0,[])) λc=>match c with | .inl b=>Cq.ret b | .inr ()=>MY a
def wb(a:Zb):Cq Bool:=
 if 4<(a.vars.length:Int) then (Cq.ret false) else (if a.next<1 then (Cq.ret false) else (if 1000000<a.next then (Cq.ret false) else (MZ a)))
def Dr(a:Zc)(b:Zc):Cq Bool:=
 if a.id=b.id then (Cq.bind (xH a.p b.p) λc=>Cq.ret c) else (Cq.ret false)
def TB:Cq Bool:=
 Cq.ret true
def TA(b:(Ŀ Ĳ))(c:(Ŀ Ĳ)):Int->Cq (Bool⊕Unit):=
 Cq.loop λd=>match d with|a=>if a<(b.length:Int) then (Cq.Ζ b a λe=>Cq.Ζ c a λf=>if ¬ e=f then (Cq.ret (.inr (.inl false))) else (Cq.ret (.inl (i64.wrap (a+1))))) else (Cq.ret (.inr (.inr ())))
def ZU(a:(Ŀ Ĳ))(b:(Ŀ Ĳ)):Cq Bool:=
 if ¬ (a.length:Int)=(b.length:Int) then (Cq.ret false) else (Cq.next (TA a b 0) λd=>match d with | .inl c=>Cq.ret c | .inr ()=>TB)
def ZP:Cq Bool:=
 Cq.ret true
def ZO(b:(Ŀ Zc))(c:(Ŀ Zc)):Int->Cq (Bool⊕Unit):=
 Cq.loop λe=>match e with|a=>if a<(b.length:Int) then (Cq.Ζ b a λf=>Cq.Ζ c a λg=>Cq.bind (Dr f g) λd=>if (!d)=true then (Cq.ret (.inr (.inl false))) else (Cq.ret (.inl (i64.wrap (a+1))))) else (Cq.ret (.inr (.inr ())))
def Zq(a:(Ŀ Zc))(b:(Ŀ Zc)):Cq Bool:=
 if ¬ (a.length:Int)=(b.length:Int) then (Cq.ret false) else (Cq.next (ZO a b 0) λd=>match d with | .inl c=>Cq.ret c | .inr ()=>ZP)
def zh(a:Zb)(b:Zb):Cq Bool:=
 if a.next=b.next then (Cq.bind (ZU a.vars b.vars) λc=>match c with|false=>(Cq.ret false)|true=>(Cq.bind (Zq a.eqs b.eqs) λd=>match d with|false=>(Cq.ret false)|true=>(Cq.bind (Zq a.ζ b.ζ) λe=>Cq.ret e))) else (Cq.ret false)
def TE:Cq Int:=
 Cq.ret (-1)
def TC(b:(Ŀ Ĳ))(c:Ĳ):Int->Cq (Int⊕Unit):=
 Cq.loop λd=>match d with|a=>if a<(b.length:Int) then (Cq.Ζ b a λe=>if c=e then (Cq.ret (.inr (.inl a))) else (Cq.ret (.inl (i64.wrap (a+1))))) else (Cq.ret (.inr (.inr ())))
def Dp(b:(Ŀ Ĳ))(c:Ĳ):Cq Int:=
 Cq.next (TC b c 0) λd=>match d with | .inl a=>Cq.ret a | .inr ()=>TE
def ZA(b:(Ŀ Ĳ))(c:Ĳ):Cq Bool:=
 Cq.bind (Dp b c) λa=>Cq.ret (decide (0<=a))
def UJ(a:(Ŀ Ĳ)):Cq (Ŀ Ĳ):=
 Cq.ret a
def UH(c:(Ŀ Ĳ))(h:(Ŀ Ĳ))(e:(Ŀ Ĳ)):((Ŀ Ĳ)×Int)->Cq (Ŀ Ĳ):=
 Cq.loop λi=>match i with|(b,a)=>if a<(e.length:Int) then (Cq.Ζ e a λd=>Cq.bind (ZA h d) λf=>match f with|false=>(Cq.bind (ZA c d) λg=>if (!g)=true then (Cq.ì ((b++[d]).length<=small) (Cq.ret (.inl ((b++[d]),i64.wrap (a+1))))) else (Cq.ret (.inl (b,i64.wrap (a+1)))))|true=>(Cq.ret (.inl (b,i64.wrap (a+1))))) else (Cq.ret (.inr b))
def Mu(a:(Ŀ Ĳ))(b:(Ŀ Ĳ))(c:(Ŀ Ĳ))(d:(Ŀ Ĳ)):Cq (Ŀ Ĳ):=
 Cq.next (UH a b c (d,0)) λe=>match e with|f=>UJ f
def UI(d:(Ŀ Ĳ))(e:(Ŀ Ĳ))(h:(Ŀ Ĳ)):((Ŀ Ĳ)×Int)->Cq (Ŀ Ĳ):=
 Cq.loop λi=>match i with|(b,a)=>if a<(e.length:Int) then (Cq.Ζ e a λc=>Cq.bind (ZA d c) λf=>match f with|false=>(Cq.ì ((b++[c]).length<=small) (Cq.ret (.inl ((b++[c]),i64.wrap (a+1)))))|true=>(Cq.bind (ZA h c) λg=>if g=true then (Cq.ì ((b++[c]).length<=small) (Cq.ret (.inl ((b++[c]),i64.wrap (a+1))))) else (Cq.ret (.inl (b,i64.wrap (a+1)))))) else (Cq.ret (.inr b))
def Hl(a:(Ŀ Ĳ))(b:(Ŀ Ĳ))(c:(Ŀ Ĳ)):Cq (Ŀ Ĳ):=
 Cq.bind (ZU b a) λd=>if d=true then (Cq.ret c) else (Cq.next (UI a b c ([],0)) λe=>match e with|f=>Mu a b c f)
def Va(a:(Ŀ (Int×Zl))):Cq ((Ŀ (Int×Zl))):=
 Cq.ret a
def U8(d:Zb):(Int×(Ŀ (Int×Zl)))->Cq (((Ŀ (Int×Zl)))):=
 Cq.loop λe=>match e with|(a,b)=>if a<(d.ζ.length:Int) then (Cq.Ζ d.ζ a λc=>Cq.ì (((Lit.int i64 c.id).wf=true)/\(Ñ b c.id (Zl.mk c.p true)).length<=small) (Cq.ret (.inl (i64.wrap (a+1),(Ñ b c.id (Zl.mk c.p true)))))) else (Cq.ret (.inr b))
def MA(c:Zb)(a:(Ŀ (Int×Zl))):Cq ((Ŀ (Int×Zl))):=
 Cq.next (U8 c (0,a)) λd=>match d with|b=>Va b
def U9(d:Zb):(Int×(Ŀ (Int×Zl)))->Cq (((Ŀ (Int×Zl)))):=
 Cq.loop λe=>match e with|(a,b)=>if a<(d.eqs.length:Int) then (Cq.Ζ d.eqs a λc=>Cq.ì (((Lit.int i64 c.id).wf=true)/\(Ñ b c.id (Zl.mk c.p false)).length<=small) (Cq.ret (.inl (i64.wrap (a+1),(Ñ b c.id (Zl.mk c.p false)))))) else (Cq.ret (.inr b))
def xE(a:Zb):Cq ((Ŀ (Int×Zl))):=
 Cq.next (U9 a (0,[])) λc=>match c with|b=>MA a b
def Z5(a:(Ŀ (Int×Zl))):Cq ((Ŀ (Int×Zl))):=
 Cq.ret a
def Z4:((Ŀ (Int×Zl))×Ŀ (Int×Zl))->Cq (((Ŀ (Int×Zl)))):=
 Cq.loop λc=>match c with|(a,d)=>Cq.pick d (Cq.ret (.inr a)) λb e=>Cq.ì (((Lit.int i64 b.1).wf=true)/\(Ñ a b.1 b.2).length<=small) (Cq.ret (.inl ((Ñ a b.1 b.2),e)))
def Zt(a:(Ŀ (Int×Zl)))(b:(Ŀ (Int×Zl))):Cq ((Ŀ (Int×Zl))):=
 Cq.next (Z4 (a,b)) λd=>match d with|c=>Z5 c
def ix(a:(Ŀ Ĳ)):Cq (Ŀ Ĳ):=
 Cq.ret a
def iw(c:ZQ)(g:(Ŀ Za)):((Ŀ Ĳ)×Int)->Cq (Ŀ Ĳ):=
 Cq.loop λh=>match h with|(b,a)=>if a<(c.à.length:Int) then (Cq.Ζ c.à a λd=>Cq.bind (AO g) λe=>Cq.ì (0<=a) (if ¬ (u8.wrap (BitVec.ofInt u8.bits e &&& BitVec.ofInt u8.bits (u8.wrap (1*2 ^ (min (a).toNat u8.bits)))).toNat)=0 then (Cq.bind (ZA c.ll d) λf=>if (!f)=true then (Cq.ì ((b++[d]).length<=small) (Cq.ret (.inl ((b++[d]),i64.wrap (a+1))))) else (Cq.ret (.inl (b,i64.wrap (a+1))))) else (Cq.ret (.inl (b,i64.wrap (a+1)))))) else (Cq.ret (.inr b))
def ï(a:ZQ)(b:(Ŀ Za)):Cq (Ŀ Ĳ):=
 Cq.next (iw a b ([],0)) λc=>match c with|d=>ix d
def DA(a:Int):Cq ((Ŀ Za)×Int):=
 if a<0 then (Cq.ret ([],1)) else (if 8<=a then Cq.fail else (Cq.ì (0<=a/\a<8) (Cq.bind (DC 1) λb=>Cq.ret ([(Za.mk b (å (λ_=>0) a.toNat 1))],0))))
def Vv(a:(Fin 8->Int)):Cq (Fin 8->Int):=
 Cq.ret a
def Vu(c:(Fin 8->Int)):(Int×(Fin 8->Int))->Cq (Fin 8->Int):=
 Cq.loop λd=>match d with|(a,b)=>if a<8 then (Cq.ì (0<=a/\a<8) (Cq.ì (0<=a/\a<8) (Cq.ì (0<=a/\a<8) (Cq.ret (.inl (i64.wrap (a+1),å b a.toNat (if (Κ b a)<(Κ c a) then (Κ c a) else (Κ b a)))))))) else (Cq.ret (.inr b))
def Nz(b:(Fin 8->Int))(c:(Fin 8->Int)):Cq (Fin 8->Int):=
 Cq.next (Vu c (0,b)) λd=>match d with|a=>Vv a
def TZ(a:(Fin 8->Int)):Cq (Fin 8->Int):=
 Cq.ret a
def TJ(c:(Ŀ Za)):(Int×(Fin 8->Int))->Cq (Fin 8->Int):=
 Cq.loop λe=>match e with|(a,b)=>if a<(c.length:Int) then (Cq.Ζ c a λf=>Cq.bind (Nz b f.m) λd=>Cq.ret (.inl (i64.wrap (a+1),d))) else (Cq.ret (.inr b))
def Dk(b:(Ŀ Za)):Cq (Fin 8->Int):=
 Cq.next (TJ b (0,(λ_=>0))) λc=>match c with|a=>TZ a
def TN:Cq Bool:=
 Cq.ret false
def TM(b:(Fin 8->Int))(c:(Ŀ (Ŀ Za))):Int->Cq (Bool⊕Unit):=
 Cq.loop λd=>match d with|a=>if a<8 then (Cq.ì (0<=a/\a<8) (if 0<(Κ b a) then (Cq.Ζ c a λe=>if (e.length:Int)=0 then Cq.fail else (Cq.ret (.inl (i64.wrap (a+1))))) else (Cq.ret (.inl (i64.wrap (a+1)))))) else (Cq.ret (.inr (.inr ())))
def Dn(b:(Fin 8->Int))(c:(Ŀ (Ŀ Za))):Cq Bool:=
 Cq.next (TM b c 0) λd=>match d with | .inl a=>Cq.ret a | .inr ()=>TN
def TT:Cq Bool:=
 Cq.ret false
def TU(a:Int)(b:Int):Cq (Int⊕(Bool⊕Unit)):=
 if 65535<b then Cq.fail else (Cq.ret (.inl (i64.wrap (a+1))))
def TS(e:(Fin 8->Int))(c:(Fin 64->Int))(b:Int):(Int×Int)->Cq Int:=
 Cq.loop λf=>match f with|(d,a)=>if a<8 then (Cq.ì (0<=a/\a<8) (Cq.ì (0<=a/\a<8) (Cq.ì (0<=b/\b<8) (Cq.ret (.inl (i64.wrap (d+(i64.wrap ((Κ e a)*(Κ c (a*8+b))))),i64.wrap (a+1))))))) else (Cq.ret (.inr d))
def TR(d:(Fin 8->Int))(b:(Fin 64->Int)):Int->Cq (Bool⊕Unit):=
 Cq.loop λe=>match e with|a=>if a<8 then (Cq.next (TS d b a (0,0)) λf=>match f with|c=>TU a c) else (Cq.ret (.inr (.inr ())))
def Hi(c:(Fin 8->Int))(a:(Fin 64->Int)):Cq Bool:=
 Cq.next (TR c a 0) λd=>match d with | .inl b=>Cq.ret b | .inr ()=>TT
def Uu(a:(Ŀ ((Fin 8->Int)×Zj))):Cq ((Ŀ Za)×Int):=
 Cq.bind (AQ a) λb=>Cq.ret (b,0)
def Uv(a:Int)(b:(Ŀ ((Fin 8->Int)×Zj))):Cq ((Int×(Ŀ ((Fin 8->Int)×Zj)))⊕(((Ŀ ((Fin 8->Int)×Zj))))):=
 Cq.ret (.inl (i64.wrap (a+1),b))
def Us(b:(Ŀ Za)):(Int×(Ŀ ((Fin 8->Int)×Zj)))->Cq (((Ŀ ((Fin 8->Int)×Zj)))):=
 Cq.loop λg=>match g with|(a,d)=>if a<(b.length:Int) then (Cq.Ζ b a λe=>Cq.bind (Dj d e.c e.m) λf=>Cq.ret (.inl (i64.wrap (a+1),f))) else (Cq.ret (.inr d))
def Uw(a:Int)(c:(Ŀ ((Fin 8->Int)×Zj)))(b:(Ŀ Za)):Cq ((Int×(Ŀ ((Fin 8->Int)×Zj)))⊕(((Ŀ ((Fin 8->Int)×Zj))))):=
 Cq.next (Us b (0,c)) λe=>match e with|d=>Uv a d
def My(f:Nat->Nat->(Ŀ Za))(c:Za):((Ŀ Za)×Int)->Cq (Ŀ Za):=
 Cq.loop λe=>match e with|(b,a)=>if a<8 then (Cq.ì (0<=a/\a<8) (if 0<(Κ c.m a) then (Cq.ì ((0<=a/\a<8)/\1<=(Κ c.m a)/\(Κ c.m a)<=64) (Cq.bind (xI b (f a.toNat (Κ c.m a).toNat)) λd=>Cq.ret (.inl (d.1,i64.wrap (a+1))))) else (Cq.ret (.inl (b,i64.wrap (a+1)))))) else (Cq.ret (.inr b))
def Ur(b:(Ŀ Za))(f:(Ŀ (Ŀ Za)))(c:Nat->Nat->(Ŀ Za)):(Int×(Ŀ ((Fin 8->Int)×Zj)))->Cq (((Ŀ ((Fin 8->Int)×Zj)))):=
 Cq.loop λj=>match j with|(a,d)=>if a<(b.length:Int) then (Cq.Ζ b a λg=>Cq.bind (Dn g.m f) λh=>if h=true then (Cq.ret (.inl (i64.wrap (a+1),d))) else (Cq.bind (AX g.c) λi=>Cq.next (My c g (i,0)) λk=>match k with|e=>Uw a d e)) else (Cq.ret (.inr d))
def Uc(b:(Ŀ Za))(a:(Ŀ (Ŀ Za))):Cq ((Ŀ Za)×Int):=
 Cq.given (s8 xI a) λe=>Cq.next (Ur b a e (0,[])) λd=>match d with|c=>Uu c
def Ut(b:(Ŀ Za))(c:(Ŀ (Ŀ Za)))(e:(Fin 64->Int)):Int->Cq (((Ŀ Za)×Int)⊕Unit):=
 Cq.loop λh=>match h with|a=>if a<(b.length:Int) then (Cq.Ζ b a λf=>Cq.bind (Dn f.m c) λg=>match g with|false=>(Cq.bind (Hi f.m e) λd=>if d=true then Cq.fail else (Cq.ret (.inl (i64.wrap (a+1)))))|true=>(Cq.ret (.inl (i64.wrap (a+1))))) else (Cq.ret (.inr (.inr ())))
def Ud(a:(Ŀ Za))(b:(Ŀ (Ŀ Za)))(c:(Fin 64->Int)):Cq ((Ŀ Za)×Int):=
 Cq.next (Ut a b c 0) λe=>match e with | .inl d=>Cq.ret d | .inr ()=>Uc a b
def Mg(c:(Ŀ (Ŀ Za))):(Int×(Fin 64->Int))->Cq (Fin 64->Int):=
 Cq.loop λe=>match e with|(a,b)=>if a<8 then (Cq.Ζ c a λf=>Cq.bind (Dk f) λd=>Cq.ì (0<=a/\a<8) (Cq.ret (.inl (i64.wrap (a+1),sF 8 b a d)))) else (Cq.ret (.inr b))
def Hs(a:(Ŀ Za))(b:(Ŀ (Ŀ Za))):Cq ((Ŀ Za)×Int):=
 Cq.bind (Z6 a) λc=>if 64<c then Cq.fail else (Cq.next (Mg b (0,(λ_=>0))) λe=>match e with|d=>Ud a b d)
def ig(c:(Ŀ Za))(b:(Ŀ (Ŀ Za))):Cq ((Ŀ Za)×Bool):=
 Cq.bind (Hs c b) λa=>Cq.ret (a.1,decide (a.2=0))
def ie(d:ZQ):(Int×(Ŀ (Ŀ Za)))->Cq (((Ŀ (Ŀ Za)))):=
 Cq.loop λf=>match f with|(a,b)=>if a<(d.à.length:Int) then (Cq.Ζ d.à a λg=>Cq.bind (Dp d.ll g) λc=>if 0<=c then (Cq.bind (DA c) λe=>Cq.Ζ b a λh=>Cq.ret (.inl (i64.wrap (a+1),b.set a.toNat e.1))) else (Cq.ret (.inl (i64.wrap (a+1),b)))) else (Cq.ret (.inr b))
def æ(a:ZQ)(b:(Ŀ Za)):Cq ((Ŀ Za)×Bool):=
 Cq.bind (ï a b) λc=>if 0<(c.length:Int) then (Cq.ret ([],false)) else (Cq.next (ie a (0,(List.replicate 8 []))) λe=>match e with|d=>ig b d)
def Mm(b:Zb)(c:Zb)(d:Zl)(e:Zl):Cq Bool:=
 Cq.bind (æ (ZQ.mk b.vars c.vars) d.p) λa=>if d.neq=e.neq then (if a.2=true then (Cq.bind (xH a.1 e.p) λf=>Cq.ret f) else (Cq.ret false)) else (Cq.ret false)
def AW(d:Zb)(b:(Ŀ (Int×Zl)))(e:Zb)(c:(Ŀ (Int×Zl)))(a:Int):Cq Bool:=
 Cq.ì ((Lit.int i64 a).wf=true) (Cq.bind (Cq.ret ((Å b a).getD (Zl.mk [] false))) λf=>Cq.ì ((Lit.int i64 a).wf=true) (Cq.bind (Cq.ret ((Å c a).getD (Zl.mk [] false))) λg=>if ((Å b a).isSome)=true then (if (!((Å c a).isSome))=true then (Cq.ret (decide (((Å b a).isSome)=((Å c a).isSome)))) else (Mm d e f g)) else (Cq.ret (decide (((Å b a).isSome)=((Å c a).isSome))))))
def Uo(a:(Ŀ Zg))(b:(Ŀ Zk)):Cq ((Ŀ Zg)×(Ŀ Zk)):=
 Cq.ret (a,b)
def Un(h:Zb)(e:Zb)(g:Zb)(j:(Ŀ (Int×Zl)))(f:(Ŀ (Int×Zl)))(i:(Ŀ (Int×Zl)))(k:Ŀ Int):((Ŀ Zg)×(Ŀ Zk)×Int)->Cq (((Ŀ Zg)×(Ŀ Zk))):=
 Cq.loop λr=>match r with|(a,b,c)=>if c<(k.length:Int) then (Cq.Ζ k c λd=>if h.next<=d then (Cq.ret (.inr (a,b))) else (Cq.bind (AW e f h j d) λm=>if m=true then (Cq.ì ((Lit.int i64 d).wf=true) (Cq.bind (Cq.ret ((Å i d).getD (Zl.mk [] false))) λn=>if ((Å i d).isSome)=true then (Cq.ì ((a++[(Zg.mk d n g)]).length<=small) (Cq.ret (.inl ((a++[(Zg.mk d n g)]),b,i64.wrap (c+1))))) else (Cq.ret (.inl (a,b,i64.wrap (c+1)))))) else (Cq.bind (AW g i h j d) λl=>if l=true then (if l=true then (Cq.ì ((Lit.int i64 d).wf=true) (Cq.bind (Cq.ret ((Å f d).getD (Zl.mk [] false))) λo=>if ((Å f d).isSome)=true then (Cq.ì ((a++[(Zg.mk d o e)]).length<=small) (Cq.ret (.inl ((a++[(Zg.mk d o e)]),b,i64.wrap (c+1))))) else (Cq.ret (.inl (a,b,i64.wrap (c+1)))))) else (Cq.ì ((b++[(Zk.mk d ByteArray.empty)]).length<=small) (Cq.ret (.inl (a,(b++[(Zk.mk d ByteArray.empty)]),i64.wrap (c+1)))))) else (Cq.bind (AW e f g i d) λp=>if p=true then (Cq.ì ((Lit.int i64 d).wf=true) (Cq.bind (Cq.ret ((Å f d).getD (Zl.mk [] false))) λq=>if ((Å f d).isSome)=true then (Cq.ì ((a++[(Zg.mk d q e)]).length<=small) (Cq.ret (.inl ((a++[(Zg.mk d q e)]),b,i64.wrap (c+1))))) else (Cq.ret (.inl (a,b,i64.wrap (c+1)))))) else (Cq.ì ((b++[(Zk.mk d ByteArray.empty)]).length<=small) (Cq.ret (.inl (a,(b++[(Zk.mk d ByteArray.empty)]),i64.wrap (c+1))))))))) else (Cq.ret (.inr (a,b)))
def Ho(a:Zb)(b:Zb)(c:Zb):Cq ((Ŀ Zg)×(Ŀ Zk)):=
 Cq.bind (xE a) λf=>Cq.bind (xE b) λg=>Cq.bind (xE c) λh=>Cq.next (Zt [] f) λj=>Cq.next (Zt j g) λk=>Cq.next (Zt k h) λl=>Cq.any (λi:Ŀ Int=>i.Perm (l.map (·.1))) λi=>Cq.bind (Z8 i) λm=>Cq.next (Un a b c f g h m ([],[],0)) λn=>match n with|(d,e)=>Uo d e
def Um(b:(Ŀ Zg))(a:Int):Cq ((Ŀ Zg)×Int):=
 Cq.ret (b,a)
def Uk(f:Zb)(d:Zb)(h:(Ŀ (Int×Zl)))(e:Ŀ Int):((Ŀ Zg)×Int×Int)->Cq (((Ŀ Zg)×Int)):=
 Cq.loop λj=>match j with|(c,a,b)=>if b<(e.length:Int) then (Cq.Ζ e b λg=>if f.next<=g then (Cq.ì ((Lit.int i64 g).wf=true) (Cq.bind (Cq.ret ((Å h g).getD (Zl.mk [] false))) λi=>Cq.ì ((c++[(Zg.mk a i d)]).length<=small) (Cq.ret (.inl ((c++[(Zg.mk a i d)]),i64.wrap (a+1),i64.wrap (b+1)))))) else (Cq.ret (.inl (c,a,i64.wrap (b+1))))) else (Cq.ret (.inr (c,a)))
def Mx(a:Zb)(b:Zb)(e:Zb)(d:(Ŀ (Int×Zl)))(f:(Ŀ Zg)):Cq ((Ŀ Zg)×Int):=
 Cq.any (λg:Ŀ Int=>g.Perm (d.map (·.1))) λg=>Cq.bind (Z8 g) λi=>Cq.next (Uk a e d i (f,if b.next<a.next then a.next else b.next,0)) λj=>match j with|(h,c)=>Um h c
def Ul(f:Zb)(c:Zb)(g:(Ŀ (Int×Zl)))(e:Ŀ Int):((Ŀ Zg)×Int)->Cq (Ŀ Zg):=
 Cq.loop λi=>match i with|(b,a)=>if a<(e.length:Int) then (Cq.Ζ e a λd=>if f.next<=d then (Cq.ì ((Lit.int i64 d).wf=true) (Cq.bind (Cq.ret ((Å g d).getD (Zl.mk [] false))) λh=>Cq.ì ((b++[(Zg.mk d h c)]).length<=small) (Cq.ret (.inl ((b++[(Zg.mk d h c)]),i64.wrap (a+1)))))) else (Cq.ret (.inl (b,i64.wrap (a+1))))) else (Cq.ret (.inr b))
def Hn(b:Zb)(a:Zb)(c:Zb):Cq ((Ŀ Zg)×Int):=
 Cq.bind (xE a) λd=>Cq.bind (xE c) λg=>Cq.any (λe:Ŀ Int=>e.Perm (d.map (·.1))) λe=>Cq.bind (Z8 e) λh=>Cq.next (Ul b a d h ([],0)) λi=>match i with|f=>Mx b a c g f
def VH(g:(Ŀ Ĳ))(f:(Ŀ Zg)×(Ŀ Zk))(h:(Ŀ Zg)×Int)(d:(Ŀ Ĳ))(c:(Ŀ Zc))(a:(Ŀ Zc))(e:Int)(b:(Ŀ Zk)):Cq (Zb×(Ŀ Zk)×Int):=
 Cq.ì ((b++f.2).length<=small) (if 0<((b++f.2).length:Int) then (Cq.ret ((Zb.mk [] [] [] 0),(b++f.2),350)) else (if 4<(g.length:Int) then (Cq.ret ((Zb.mk [] [] [] 0),[],2)) else (if 12<(c.length:Int) then (Cq.ret ((Zb.mk [] [] [] 0),[],2)) else (if 12<(a.length:Int) then (Cq.ret ((Zb.mk [] [] [] 0),[],2)) else (if 1000000<h.2 then (Cq.ret ((Zb.mk [] [] [] 0),[],2)) else (Cq.ret ((Zb.mk d c a e),[],0)))))))
def VF(c:Ŀ Ĳ):((Ŀ Zk)×Int)->Cq (Ŀ Zk):=
 Cq.loop λe=>match e with|(b,a)=>if a<(c.length:Int) then (Cq.Ζ c a λd=>Cq.ì ((b++[(Zk.mk 0 d)]).length<=small) (Cq.ret (.inl ((b++[(Zk.mk 0 d)]),i64.wrap (a+1))))) else (Cq.ret (.inr b))
def MM(g:(Ŀ Ĳ))(h:(Ŀ Zg)×(Ŀ Zk))(i:(Ŀ Zg)×Int)(a:(Ŀ Ĳ))(d:(Ŀ Zc))(b:(Ŀ Zc))(c:Int)(j:(Ŀ (Ĳ×Bool))):Cq (Zb×(Ŀ Zk)×Int):=
 Cq.any (λf:Ŀ Ĳ=>f.Perm (j.map (·.1))) λf=>Cq.bind (Dq f) λk=>Cq.next (VF k ([],0)) λl=>match l with|e=>VH g h i a d b c e
def MN(i:(Ŀ Ĳ))(f:Int)(c:(Ŀ Ĳ))(b:(Ŀ Zc))(a:(Ŀ Zc))(d:Int)(e:Zg)(h:(Ŀ (Ĳ×Bool))):Cq ((Int×(Ŀ Ĳ)×(Ŀ Zc)×(Ŀ Zc)×Int×(Ŀ (Ĳ×Bool)))⊕(((Ŀ Ĳ)×(Ŀ Zc)×(Ŀ Zc)×Int×(Ŀ (Ĳ×Bool))))):=
 Cq.bind (æ (ZQ.mk e.à.vars i) e.entry.p) λg=>if e.entry.neq=true then (Cq.ì ((a++[(Zc.mk e.id g.1)]).length<=small) (Cq.ret (.inl (i64.wrap (f+1),c,b,(a++[(Zc.mk e.id g.1)]),d,h)))) else (Cq.ì ((b++[(Zc.mk e.id g.1)]).length<=small) (Cq.ret (.inl (i64.wrap (f+1),c,(b++[(Zc.mk e.id g.1)]),a,d,h))))
def ML(c:(Ŀ Ĳ)):(Int×(Ŀ (Ĳ×Bool)))->Cq (((Ŀ (Ĳ×Bool)))):=
 Cq.loop λe=>match e with|(a,b)=>if a<(c.length:Int) then (Cq.Ζ c a λd=>Cq.ì ((d.size<=1000000)/\(Ñ b d true).length<=small) (Cq.ret (.inl (i64.wrap (a+1),(Ñ b d true))))) else (Cq.ret (.inr b))
def VG(f:(Ŀ Ĳ))(g:(Ŀ Zg)×(Ŀ Zk))(h:(Ŀ Zg)×Int):(Int×(Ŀ Ĳ)×(Ŀ Zc)×(Ŀ Zc)×Int×(Ŀ (Ĳ×Bool)))->Cq (((Ŀ Ĳ)×(Ŀ Zc)×(Ŀ Zc)×Int×(Ŀ (Ĳ×Bool)))):=
 Cq.loop λm=>match m with|(d,a,e,b,c,i)=>if d<((g.1++h.1).length:Int) then (Cq.Ζ (g.1++h.1) d λj=>Cq.bind (ï (ZQ.mk j.à.vars f) j.entry.p) λk=>Cq.next (ML k (0,i)) λn=>match n with|l=>MN f d a e b c j l) else (Cq.ret (.inr (a,e,b,c,i)))
def HG(a:Zb)(b:Zb)(c:Zb):Cq (Zb×(Ŀ Zk)×Int):=
 Cq.bind (Hl a.vars b.vars c.vars) λh=>Cq.bind (Ho a b c) λi=>Cq.bind (Hn a b c) λd=>Cq.ì ((i.1++d.1).length<=small) (Cq.next (VG h i d (0,h,[],[],d.2,[])) λl=>match l with|(e,j,f,g,k)=>MM h i d e j f g k)
def zf(c:Zb)(a:Zb)(b:Zb)(d:Bool):Cq (Zb×(Ŀ Zk)×Int):=
 if d=true then (Cq.ret ((Zb.mk [] [] [] 0),[],320)) else (Cq.bind (zh a c) λe=>if e=true then (Cq.ret (b,[],0)) else (Cq.bind (zh b c) λf=>match f with|false=>(Cq.bind (zh b a) λg=>if g=true then (Cq.ret (a,[],0)) else (HG c a b))|true=>(Cq.ret (a,[],0))))
def uF(a:Zb)(b:Zb)(c:Zb):Cq (Zb×(Ŀ Zk)×Int):=
 Cq.bind (wb a) λf=>match f with|false=>(zf a b c true)|true=>(Cq.bind (wb b) λd=>match d with|false=>(zf a b c true)|true=>(Cq.bind (wb c) λe=>zf a b c (!e)))
def Xo:Cq Bool:=
 Cq.ret true
def Xn(b:Zi)(c:Zi):Int->Cq (Bool⊕Unit):=
 Cq.loop λd=>match d with|a=>if a<(b.Α.length:Int) then (Cq.Ζ b.Α a λe=>Cq.Ζ c.Α a λf=>if ¬ e=f then (Cq.ret (.inr (.inl false))) else (Cq.ret (.inl (i64.wrap (a+1))))) else (Cq.ret (.inr (.inr ())))
def Jn(a:Zi)(b:Zi):Cq Bool:=
 if ¬ a.neg=b.neg then (Cq.ret false) else (if ¬ (a.Α.length:Int)=(b.Α.length:Int) then (Cq.ret false) else (Cq.next (Xn a b 0) λd=>match d with | .inl c=>Cq.ret c | .inr ()=>Xo))
def Jm(a:Zj)(b:Zj):Cq Bool:=
 Cq.bind (Jn a.num b.num) λc=>match c with|false=>(Cq.ret false)|true=>(Cq.bind (Jn a.den b.den) λd=>Cq.ret d)
def DI(a:Za)(b:Za):Cq Bool:=
 if a.m=b.m then (Cq.bind (Jm a.c b.c) λd=>Cq.ret d) else (Cq.ret false)
def WN:Cq Bool:=
 Cq.ret true
def WM(b:(Ŀ Za))(d:(Ŀ Za)):Int->Cq (Bool⊕Unit):=
 Cq.loop λe=>match e with|a=>if a<(b.length:Int) then (Cq.Ζ b a λf=>Cq.Ζ d a λg=>Cq.bind (DI f g) λc=>if (!c)=true then (Cq.ret (.inr (.inl false))) else (Cq.ret (.inl (i64.wrap (a+1))))) else (Cq.ret (.inr (.inr ())))
def ER(a:(Ŀ Za))(b:(Ŀ Za)):Cq Bool:=
 if ¬ (a.length:Int)=(b.length:Int) then (Cq.ret false) else (Cq.next (WM a b 0) λd=>match d with | .inl c=>Cq.ret c | .inr ()=>WN)
def U4:Cq Bool:=
 Cq.ret true
def U3(b:(Ŀ Zc))(c:(Ŀ Zc)):Int->Cq (Bool⊕Unit):=
 Cq.loop λe=>match e with|a=>if a<(b.length:Int) then (Cq.Ζ b a λf=>Cq.Ζ c a λg=>if ¬ f.id=g.id then (Cq.ret (.inr (.inl false))) else (Cq.Ζ b a λh=>Cq.Ζ c a λi=>Cq.bind (ER h.p i.p) λd=>if (!d)=true then (Cq.ret (.inr (.inl false))) else (Cq.ret (.inl (i64.wrap (a+1)))))) else (Cq.ret (.inr (.inr ())))
def AZ(a:(Ŀ Zc))(b:(Ŀ Zc)):Cq Bool:=
 if ¬ (a.length:Int)=(b.length:Int) then (Cq.ret false) else (Cq.next (U3 a b 0) λd=>match d with | .inl c=>Cq.ret c | .inr ()=>U4)
def WY:Cq Bool:=
 Cq.ret true
def WX(b:Zb)(c:Zb):Int->Cq (Bool⊕Unit):=
 Cq.loop λd=>match d with|a=>if a<(b.vars.length:Int) then (Cq.Ζ b.vars a λe=>Cq.Ζ c.vars a λf=>if ¬ e=f then (Cq.ret (.inr (.inl false))) else (Cq.ret (.inl (i64.wrap (a+1))))) else (Cq.ret (.inr (.inr ())))
def NZ(b:Zb)(c:Zb):Cq Bool:=
 Cq.next (WX b c 0) λd=>match d with | .inl a=>Cq.ret a | .inr ()=>WY
def BH(a:Zb)(b:Zb):Cq Bool:=
 if ¬ (a.vars.length:Int)=(b.vars.length:Int) then (Cq.ret false) else (if ¬ a.next=b.next then (Cq.ret false) else (Cq.bind (AZ a.eqs b.eqs) λc=>match c with|false=>(Cq.ret false)|true=>(Cq.bind (AZ a.ζ b.ζ) λd=>if (!d)=true then (Cq.ret false) else (NZ a b))))
def Ub:Cq Bool:=
 Cq.ret true
def Ua(b:(Ŀ Zk))(e:(Ŀ Zk)):Int->Cq (Bool⊕Unit):=
 Cq.loop λf=>match f with|a=>if a<(b.length:Int) then (Cq.Ζ b a λc=>Cq.Ζ e a λd=>if ¬ (c.id=d.id/\c.name=d.name) then (Cq.ret (.inr (.inl false))) else (Cq.ret (.inl (i64.wrap (a+1))))) else (Cq.ret (.inr (.inr ())))
def Z3(a:(Ŀ Zk))(b:(Ŀ Zk)):Cq Bool:=
 if ¬ (a.length:Int)=(b.length:Int) then (Cq.ret false) else (Cq.next (Ua a b 0) λd=>match d with | .inl c=>Cq.ret c | .inr ()=>Ub)
def Mp(j:Zb×(Ŀ Zk)×Int)(a:Zb×(Ŀ Zk)×Int)(b:Zb×(Ŀ Zk)×Int):Cq Bool:=
 Cq.bind (Z3 a.2.1 [(Zk.mk 1 ByteArray.empty)]) λc=>match c with|false=>(Cq.ret false)|true=>(Cq.bind (Z3 b.2.1 [(Zk.mk 0 Zr)]) λd=>match d with|false=>(Cq.ret false)|true=>(Cq.bind (ZV 1 1) λe=>Cq.bind (ZV 2 2) λf=>Cq.bind (ZV 3 3) λg=>Cq.bind (wc Zr [e,f,g] 4) λh=>Cq.bind (BH j.1 h) λi=>Cq.ret i))
def HF:Cq Bool:=
 Cq.bind (ZV 1 1) λo=>Cq.bind (wc Zr [o] 2) λa=>Cq.bind (ZV 1 1) λp=>Cq.bind (ZV 2 2) λq=>Cq.bind (wc Zr [p,q] 3) λb=>Cq.bind (ZV 1 1) λr=>Cq.bind (ZV 2 3) λs=>Cq.bind (wc Zr [r,s] 3) λc=>Cq.bind (uF a b c) λd=>Cq.bind (wc Zr [] 2) λh=>Cq.bind (ZV 1 2) λi=>Cq.bind (wc Zr [i] 2) λj=>Cq.bind (uF a h j) λe=>Cq.bind (ZV 1 1) λk=>Cq.bind (wc uD [k] 2) λl=>Cq.bind (uF a l b) λf=>Cq.bind (uF a (Zb.mk [] [] [] 0) b) λm=>Cq.bind (uF a a c) λg=>if ¬ d.2.2=0 then (Cq.ret false) else (if ¬ (d.2.1.length:Int)=0 then (Cq.ret false) else (if ¬ e.2.2=350 then (Cq.ret false) else (if ¬ f.2.2=350 then (Cq.ret false) else (if ¬ m.2.2=320 then (Cq.ret false) else (if ¬ g.2.2=0 then (Cq.ret false) else (Cq.bind (BH g.1 c) λn=>if (!n)=true then (Cq.ret false) else (Mp d e f)))))))
def Ph:Cq (Ŀ Ĳ):=
 Cq.ret [Zr,uD,wa,vb,uE,Z1]
def EX(a:Int):Cq Int:=
 if a<0 then (Cq.ret (i64.wrap (0-(i64.wrap a)))) else (Cq.ret (i64.wrap a))
def IC(b:Zj)(c:(Ŀ Za)):Cq (Ŀ Za):=
 Cq.bind (ID b (λ_=>0) c) λa=>Cq.ret a.1
def XQ:Cq Int:=
 Cq.ret 0
def XP(b:(Fin 8->Int))(c:(Fin 8->Int)):Int->Cq (Int⊕Unit):=
 Cq.loop λd=>match d with|a=>if a<8 then (Cq.ì (0<=a/\a<8) (Cq.ì (0<=a/\a<8) (if (Κ b a)<(Κ c a) then (Cq.ret (.inr (.inl (-1)))) else (Cq.ì (0<=a/\a<8) (Cq.ì (0<=a/\a<8) (if (Κ c a)<(Κ b a) then (Cq.ret (.inr (.inl 1))) else (Cq.ret (.inl (i64.wrap (a+1)))))))))) else (Cq.ret (.inr (.inr ())))
def BK(b:(Fin 8->Int))(c:(Fin 8->Int)):Cq Int:=
 Cq.next (XP b c 0) λd=>match d with | .inl a=>Cq.ret a | .inr ()=>XQ
def Q5(a:Zi)(b:Zi):Cq Zi:=
 if a.neg=b.neg then (Cq.bind (Pe a.Α b.Α) λc=>Cq.bind (uA a.neg c) λd=>Cq.ret d) else (Cq.bind (ZY a.Α b.Α) λe=>if e<0 then (Cq.bind (IA b.Α a.Α) λf=>Cq.bind (uA b.neg f) λg=>Cq.ret g) else (Cq.bind (IA a.Α b.Α) λh=>Cq.bind (uA a.neg h) λi=>Cq.ret i))
def EW(a:Zj)(b:Zj):Cq Zj:=
 Cq.bind (zJ a.num b.den) λc=>Cq.bind (zJ b.num a.den) λd=>Cq.bind (Q5 c d) λe=>Cq.bind (zJ a.den b.den) λf=>Cq.bind (Im e f) λg=>Cq.ret g
def Xv(a:(Ŀ Za)):Cq (Ŀ Za):=
 Cq.ret a
def Ip(e:(Ŀ Za))(g:(Ŀ Za))(a:Int)(b:(Ŀ Za))(d:Int):Cq (((Ŀ Za)×Int×Int)⊕(Ŀ Za)):=
 Cq.Ζ e a λj=>Cq.Ζ g d λk=>Cq.bind (EW j.c k.c) λf=>Cq.bind (uB f) λh=>if ¬ h=0 then (Cq.Ζ e a λi=>Cq.ì ((b++[(Za.mk f i.m)]).length<=small) (Cq.ret (.inl ((b++[(Za.mk f i.m)]),i64.wrap (a+1),i64.wrap (d+1))))) else (Cq.ret (.inl (b,i64.wrap (a+1),i64.wrap (d+1))))
def A8(f:(Ŀ Za))(c:(Ŀ Za))(a:Int)(b:(Ŀ Za))(d:Int)(e:Bool):Cq (((Ŀ Za)×Int×Int)⊕(Ŀ Za)):=
 if e=true then (Cq.Ζ c a λg=>Cq.ì ((b++[g]).length<=small) (Cq.ret (.inl ((b++[g]),d,i64.wrap (a+1))))) else (Ip f c d b a)
def A9(a:(Ŀ Za))(c:(Ŀ Za))(d:Int)(e:(Ŀ Za))(b:Int):Cq (((Ŀ Za)×Int×Int)⊕(Ŀ Za)):=
 if b=(a.length:Int) then (A8 a c d e b true) else (Cq.Ζ a b λg=>Cq.Ζ c d λh=>Cq.bind (BK g.m h.m) λf=>A8 a c d e b (decide (f<0)))
def vW(c:(Ŀ Za))(f:(Ŀ Za))(a:(Ŀ Za))(b:Int)(d:Int)(e:Bool):Cq (((Ŀ Za)×Int×Int)⊕(Ŀ Za)):=
 if e=true then (Cq.Ζ c b λg=>Cq.ì ((a++[g]).length<=small) (Cq.ret (.inl ((a++[g]),i64.wrap (b+1),d)))) else (A9 c f d a b)
def xQ(a:(Ŀ Za))(b:(Ŀ Za))(e:(Ŀ Za))(c:Int)(d:Int):Cq (((Ŀ Za)×Int×Int)⊕(Ŀ Za)):=
 if d=(b.length:Int) then (vW a b e c d true) else (if c<(a.length:Int) then (Cq.Ζ a c λg=>Cq.Ζ b d λh=>Cq.bind (BK g.m h.m) λf=>vW a b e c d (decide (0<f))) else (vW a b e c d false))
def Xu(a:(Ŀ Za))(b:(Ŀ Za)):((Ŀ Za)×Int×Int)->Cq (Ŀ Za):=
 Cq.loop λf=>match f with|(c,d,e)=>if d<(a.length:Int) then (xQ a b c d e) else (if e<(b.length:Int) then (xQ a b c d e) else (Cq.ret (.inr c)))
def BL(a:(Ŀ Za))(b:(Ŀ Za)):Cq (Ŀ Za):=
 Cq.next (Xu a b ([],0,0)) λd=>match d with|c=>Xv c
def Xt(a:(Ŀ Za)):Cq (Ŀ Za):=
 Cq.ret a
def WK(b:ZF)(c:(Ŀ Za))(a:Int)(d:(Fin 8->Int)):Cq (((Ŀ Za)×Int)⊕(Ŀ Za)):=
 Cq.Ζ b.t a λi=>Cq.bind (xK (i64.wrap (Int.tmod (Κ i 0) 4))) λe=>Cq.bind (xK 1) λf=>Cq.bind (IC e [(Za.mk f d)]) λg=>Cq.bind (BL c g) λh=>Cq.ret (.inl (h,i64.wrap (a+1)))
def NV(f:ZF)(g:Int)(d:Int):(Int×Int×(Fin 8->Int))->Cq (Fin 8->Int):=
 Cq.loop λh=>match h with|(b,a,c)=>if a<g then (if a<4 then (Cq.Ζ f.t d λi=>Cq.ì (0<=i64.wrap (1+a)/\(i64.wrap (1+a))<5) (Cq.bind (EX (Κ i (i64.wrap (1+a)))) λe=>Cq.ì ((i64.wrap (b+1))≠0) (Cq.ì (0<=a/\a<8) (Cq.ì (0<=a/\a<8) (Cq.ret (.inl (i64.wrap (b-(Κ (å c a.toNat (Int.tmod e (i64.wrap (b+1)))) a)),i64.wrap (a+1),å c a.toNat (Int.tmod e (i64.wrap (b+1)))))))))) else (Cq.ret (.inr c))) else (Cq.ret (.inr c))
def NW(b:ZF)(c:Int)(d:Int)(e:(Ŀ Za))(a:Int):Cq (((Ŀ Za)×Int)⊕(Ŀ Za)):=
 Cq.next (NV b c a (d,0,(λ_=>0))) λg=>match g with|f=>WK b e a f
def Xs(c:ZF)(d:Int)(e:Int)(f:Int):((Ŀ Za)×Int)->Cq (Ŀ Za):=
 Cq.loop λg=>match g with|(b,a)=>if a<(c.t.length:Int) then (if a<f then (NW c d e b a) else (Cq.ret (.inr b))) else (Cq.ret (.inr b))
def Jo(a:ZF)(b:Int)(c:Int)(d:Int):Cq (Ŀ Za):=
 Cq.next (Xs a b c d ([],0)) λf=>match f with|e=>Xt e
def Be(b:Zb)(c:Zx)(a:Zh):Cq Zh:=
 Cq.bind (Jo c.p (if 3<(b.vars.length:Int) then 3 else (b.vars.length:Int)) 2 3) λd=>Cq.ret (Zh.mk a.kind a.name a.Ζ a.ll a.id d a.neq)
def xB(c:Zb)(b:Zx)(a:Zh):Cq Zh:=
 if a.kind=5 then (if 0<(Int.tmod b.n 4) then (Be c b (Zh.mk a.kind a.name a.Ζ a.ll 0 a.p a.neq)) else (Be c b a)) else (Be c b a)
def BI(d:Zb)(c:Zx):Cq Zh:=
 Cq.ì ((i64.wrap ((d.vars.length:Int)+1))≠0) (Cq.ì ((i64.wrap ((d.vars.length:Int)+1))≠0) (Cq.ì ((i64.wrap (d.next+1))≠0) (Cq.bind (Ph) λf=>Cq.Ζ f (Int.tmod c.n 6) λe=>if 8<=(Int.tmod c.kind 16) then (if (Int.tmod c.a 8)<5 then (xB d c (Zh.mk 5 e (Int.tmod (i64.wrap c.a) (i64.wrap ((d.vars.length:Int)+1))) (Int.tmod (i64.wrap c.b) (i64.wrap ((d.vars.length:Int)+1))) (Int.tmod (i64.wrap c.n) (i64.wrap (d.next+1))) [] (decide ((Int.tmod c.b 4)=3)))) else (xB d c (Zh.mk (i64.wrap (5+(i64.wrap (Int.tmod c.a 4)))) e (Int.tmod (i64.wrap c.a) (i64.wrap ((d.vars.length:Int)+1))) (Int.tmod (i64.wrap c.b) (i64.wrap ((d.vars.length:Int)+1))) (Int.tmod (i64.wrap c.n) (i64.wrap (d.next+1))) [] (decide ((Int.tmod c.b 4)=3))))) else (xB d c (Zh.mk (i64.wrap (1+(i64.wrap (Int.tmod c.kind 16)))) e (Int.tmod (i64.wrap c.a) (i64.wrap ((d.vars.length:Int)+1))) (Int.tmod (i64.wrap c.b) (i64.wrap ((d.vars.length:Int)+1))) (Int.tmod (i64.wrap c.n) (i64.wrap (d.next+1))) [] (decide ((Int.tmod c.b 4)=3)))))))
def Ba(a:Int):Cq Bool:=
 if 65<=a then (if a<=90 then (Cq.ret true) else (if 97<=a then (Cq.ret (decide (a<=122))) else (Cq.ret false))) else (if 97<=a then (Cq.ret (decide (a<=122))) else (Cq.ret false))
def WW:Cq Bool:=
 Cq.ret true
def WV(b:Ĳ):Int->Cq (Bool⊕Unit):=
 Cq.loop λd=>match d with|a=>if a<(b.size:Int) then (Cq.ì (0<=(a:Int)/\a<(b.size:Int)) (Cq.bind (Ba (ó b a)) λc=>match c with|false=>(Cq.ì (0<=(a:Int)/\a<(b.size:Int)) (if 48<=(ó b a) then (Cq.ì (0<=(a:Int)/\a<(b.size:Int)) (if (ó b a)<=57 then (Cq.ret (.inl (i64.wrap (a+1)))) else (Cq.ì (0<=(a:Int)/\a<(b.size:Int)) (if ¬ (ó b a)=95 then (Cq.ret (.inr (.inl false))) else (Cq.ret (.inl (i64.wrap (a+1)))))))) else (Cq.ì (0<=(a:Int)/\a<(b.size:Int)) (if ¬ (ó b a)=95 then (Cq.ret (.inr (.inl false))) else (Cq.ret (.inl (i64.wrap (a+1))))))))|true=>(Cq.ret (.inl (i64.wrap (a+1)))))) else (Cq.ret (.inr (.inr ())))
def NY(b:Ĳ):Cq Bool:=
 Cq.next (WV b 1) λc=>match c with | .inl a=>Cq.ret a | .inr ()=>WW
def BG(a:Ĳ):Cq Bool:=
 if (a.size:Int)<1 then (Cq.ret false) else (if 12<(a.size:Int) then (Cq.ret false) else (Cq.ì (0<=(0:Int)/\0<(a.size:Int)) (Cq.bind (Ba (ó a 0)) λb=>if (!b)=true then (Cq.ret false) else (NY a))))
def Wq:Cq Int:=
 Cq.ret (-1)
def Wp(c:Zb)(a:Ĳ):Int->Cq (Int⊕Unit):=
 Cq.loop λd=>match d with|b=>if b<(c.vars.length:Int) then (Cq.Ζ c.vars b λe=>if e=a then (Cq.ret (.inr (.inl b))) else (Cq.ret (.inl (i64.wrap (b+1))))) else (Cq.ret (.inr (.inr ())))
def DZ(c:Zb)(a:Ĳ):Cq Int:=
 Cq.next (Wp c a 0) λd=>match d with | .inl b=>Cq.ret b | .inr ()=>Wq
def yd(b:Zb)(a:Int):Cq Bool:=
 if 0<=a then (Cq.ret (decide (a<(b.vars.length:Int)))) else (Cq.ret false)
def XO(a:Int):Cq Int:=
 Cq.ret (u8.wrap a)
def XN(c:Int):(Int×Int)->Cq Int:=
 Cq.loop λd=>match d with|(a,b)=>if b<c then (Cq.ret (.inl (i64.wrap (2*a),i64.wrap (b+1)))) else (Cq.ret (.inr a))
def JV(a:Int):Cq Int:=
 Cq.next (XN a (1,0)) λb=>match b with|c=>XO c
def Vd(a:Int):Cq Int:=
 Cq.ret a
def Vc(d:(Fin 8->Int)):(Int×Int)->Cq Int:=
 Cq.loop λe=>match e with|(b,a)=>if a<8 then (Cq.ì (0<=a/\a<8) (if 0<(Κ d a) then (Cq.bind (JV a) λc=>Cq.ret (.inl (u8.wrap (b+c),i64.wrap (a+1)))) else (Cq.ret (.inl (b,i64.wrap (a+1)))))) else (Cq.ret (.inr b))
def H5(a:(Fin 8->Int)):Cq Int:=
 Cq.next (Vc a (0,0)) λb=>match b with|c=>Vd c
def WQ(a:Int):Cq Int:=
 Cq.ret a
def WO(c:(Ŀ Za)):(Int×Int)->Cq Int:=
 Cq.loop λe=>match e with|(a,b)=>if b<(c.length:Int) then (Cq.Ζ c b λf=>Cq.bind (H5 f.m) λd=>Cq.ret (.inl (u8.wrap (BitVec.ofInt u8.bits a ||| BitVec.ofInt u8.bits d).toNat,i64.wrap (b+1)))) else (Cq.ret (.inr a))
def BE(b:(Ŀ Za)):Cq Int:=
 Cq.next (WO b (0,0)) λc=>match c with|a=>WQ a
def W8:Cq Bool:=
 Cq.ret false
def W6(c:Zb)(a:Int):Int->Cq (Bool⊕Unit):=
 Cq.loop λe=>match e with|b=>if b<(c.ζ.length:Int) then (Cq.Ζ c.ζ b λf=>Cq.bind (BE f.p) λd=>Cq.ì (0<=a) (if (Int.tmod (Int.fdiv (i64.wrap d) (2 ^ (min (a).toNat i64.bits))) 2)=1 then (Cq.ret (.inr (.inl true))) else (Cq.ret (.inl (i64.wrap (b+1)))))) else (Cq.ret (.inr (.inr ())))
def Oa(c:Zb)(a:Int):Cq Bool:=
 Cq.next (W6 c a 0) λd=>match d with | .inl b=>Cq.ret b | .inr ()=>W8
def W7(c:Zb)(a:Int):Int->Cq (Bool⊕Unit):=
 Cq.loop λe=>match e with|b=>if b<(c.eqs.length:Int) then (Cq.Ζ c.eqs b λf=>Cq.bind (BE f.p) λd=>Cq.ì (0<=a) (if (Int.tmod (Int.fdiv (i64.wrap d) (2 ^ (min (a).toNat i64.bits))) 2)=1 then (Cq.ret (.inr (.inl true))) else (Cq.ret (.inl (i64.wrap (b+1)))))) else (Cq.ret (.inr (.inr ())))
def Jr(b:Zb)(a:Int):Cq Bool:=
 Cq.next (W7 b a 0) λd=>match d with | .inl c=>Cq.ret c | .inr ()=>Oa b a
def W5:Cq Int:=
 Cq.ret (-1)
def W4(b:(Ŀ Zc))(c:Int):Int->Cq (Int⊕Unit):=
 Cq.loop λd=>match d with|a=>if a<(b.length:Int) then (Cq.Ζ b a λe=>if e.id=c then (Cq.ret (.inr (.inl a))) else (Cq.ret (.inl (i64.wrap (a+1))))) else (Cq.ret (.inr (.inr ())))
def xU(c:(Ŀ Zc))(a:Int):Cq Int:=
 Cq.next (W4 c a 0) λd=>match d with | .inl b=>Cq.ret b | .inr ()=>W5
def EZ(b:Zb)(a:Int):Cq Bool:=
 Cq.bind (xU b.eqs a) λc=>if 0<=c then (Cq.ret true) else (Cq.bind (xU b.ζ a) λd=>Cq.ret (decide (0<=d)))
def Iz(a:Zi):Cq Bool:=
 if (a.Α.length:Int)=0 then (Cq.ret (!a.neg)) else (Cq.Ζ a.Α (i64.wrap ((a.Α.length:Int)-1)) λb=>Cq.ret (decide (¬ b=0)))
def Q6(a:Zi)(b:Zi):Cq Int:=
 if a.neg=true then (if (!b.neg)=true then (Cq.ret (-1)) else (if a.neg=true then (if a.neg=true then (Cq.bind (ZY b.Α a.Α) λc=>Cq.ret c) else (Cq.bind (ZY a.Α b.Α) λd=>Cq.ret d)) else (if b.neg=true then (Cq.ret 1) else (if a.neg=true then (Cq.bind (ZY b.Α a.Α) λe=>Cq.ret e) else (Cq.bind (ZY a.Α b.Α) λf=>Cq.ret f))))) else (if a.neg=true then (if a.neg=true then (Cq.bind (ZY b.Α a.Α) λg=>Cq.ret g) else (Cq.bind (ZY a.Α b.Α) λh=>Cq.ret h)) else (if b.neg=true then (Cq.ret 1) else (if a.neg=true then (Cq.bind (ZY b.Α a.Α) λi=>Cq.ret i) else (Cq.bind (ZY a.Α b.Α) λj=>Cq.ret j))))
def M6(a:Zj):Cq Bool:=
 Cq.bind (JY a.num a.den) λb=>Cq.bind (Fi 1) λc=>Cq.bind (Q6 b c) λd=>Cq.ret (decide (d=0))
def D7(a:Zj):Cq Bool:=
 Cq.bind (Iz a.num) λb=>match b with|false=>(Cq.ret false)|true=>(Cq.bind (Iz a.den) λc=>match c with|false=>(Cq.ret false)|true=>(Cq.bind (EO a.den) λd=>if d<1 then Cq.fail else (M6 a)))
def VU:Cq Bool:=
 Cq.ret true
def DJ(b:(Ŀ Za))(a:Int):Cq (Int⊕(Bool⊕Unit)):=
 if 0<a then (Cq.Ζ b (i64.wrap (a-1)) λd=>Cq.Ζ b a λe=>Cq.bind (BK d.m e.m) λc=>if c<=0 then Cq.fail else (Cq.ret (.inl (i64.wrap (a+1))))) else (Cq.ret (.inl (i64.wrap (a+1))))
def VT(a:(Ŀ Za)):Int->Cq (Bool⊕Unit):=
 Cq.loop λg=>match g with|b=>if b<(a.length:Int) then (Cq.Ζ a b λh=>Cq.bind (D7 h.c) λd=>match d with|false=>(Cq.ret (.inr (.inl false)))|true=>(Cq.Ζ a b λi=>Cq.bind (uB i.c) λe=>if e=0 then (Cq.ret (.inr (.inl false))) else (Cq.Ζ a b λj=>Cq.bind (D8 j.m) λf=>if (!f)=true then (Cq.ret (.inr (.inl false))) else (DJ a b)))) else (Cq.ret (.inr (.inr ())))
def IE(b:(Ŀ Za)):Cq Bool:=
 Cq.next (VT b 0) λc=>match c with | .inl a=>Cq.ret a | .inr ()=>VU
def VX(a:Int):Cq Int:=
 Cq.ret a
def VW(c:(Fin 8->Int)):(Int×Int)->Cq Int:=
 Cq.loop λd=>match d with|(b,a)=>if a<8 then (Cq.ì (0<=a/\a<8) (Cq.ret (.inl (i64.wrap (b+(Κ c a)),i64.wrap (a+1))))) else (Cq.ret (.inr b))
def Io(a:(Fin 8->Int)):Cq Int:=
 Cq.next (VW a (0,0)) λb=>match b with|c=>VX c
def VZ(a:Int):Cq Int:=
 Cq.ret a
def VY(d:(Ŀ Za)):(Int×Int)->Cq Int:=
 Cq.loop λe=>match e with|(b,c)=>if c<(d.length:Int) then (Cq.Ζ d c λf=>Cq.bind (Io f.m) λa=>Cq.ret (.inl (if b<a then a else b,i64.wrap (c+1)))) else (Cq.ret (.inr b))
def Iq(a:(Ŀ Za)):Cq Int:=
 Cq.next (VY a ((-1),0)) λb=>match b with|c=>VZ c
def ES(a:(Ŀ Za))(b:Int):Cq Bool:=
 Cq.bind (IE a) λc=>match c with|false=>(Cq.ret false)|true=>(Cq.bind (BE a) λd=>Cq.ì (0<=b) (if (Int.fdiv (i64.wrap d) (2 ^ (min (b).toNat i64.bits)))=0 then (Cq.bind (Iq a) λe=>Cq.ret (decide (e<=12))) else (Cq.ret false)))
def ZH(c:Zb)(a:Zh):Cq Int:=
 Cq.bind (ES a.p (c.vars.length:Int)) λb=>if (!b)=true then (Cq.ret 320) else (Cq.ret 0)
def AU(b:Zb)(a:Zh):Cq Int:=
 if a.neq=true then (if a.neq=true then (if 12<=(b.ζ.length:Int) then (Cq.ret 2) else (if a.id=0 then (if 1000000<=b.next then (Cq.ret 2) else (ZH b a)) else (ZH b a))) else (if a.id=0 then (if 1000000<=b.next then (Cq.ret 2) else (ZH b a)) else (ZH b a))) else (if 12<=(b.eqs.length:Int) then (Cq.ret 2) else (if a.neq=true then (if 12<=(b.ζ.length:Int) then (Cq.ret 2) else (if a.id=0 then (if 1000000<=b.next then (Cq.ret 2) else (ZH b a)) else (ZH b a))) else (if a.id=0 then (if 1000000<=b.next then (Cq.ret 2) else (ZH b a)) else (ZH b a))))
def DL(b:Zb)(a:Zh):Cq Int:=
 if a.id<0 then (Cq.ret 332) else (if 999999<a.id then (Cq.ret 332) else (if 0<a.id then (Cq.bind (EZ b a.id) λc=>if c=true then (Cq.ret 332) else (AU b a)) else (AU b a)))
def Dx(b:Zb)(c:Zh):Cq Int:=
 Cq.bind (xU b.eqs c.id) λa=>if c.kind=8 then (if 0<=a then (if 12<=(b.ζ.length:Int) then (Cq.ret 2) else (if 0<=a then (Cq.ret 0) else (if 12<=(b.eqs.length:Int) then (Cq.ret 2) else (Cq.ret 0)))) else (if 0<=a then (Cq.ret 0) else (if 12<=(b.eqs.length:Int) then (Cq.ret 2) else (Cq.ret 0)))) else (Cq.ret 0)
def zm(b:Zb)(a:Zh):Cq Int:=
 Cq.bind (EZ b a.id) λc=>if (!c)=true then (Cq.ret 332) else (if a.kind=7 then (Cq.bind (ES a.p (b.vars.length:Int)) λd=>if (!d)=true then (Cq.ret 320) else (Dx b a)) else (Dx b a))
def Ea(b:Zb)(a:Zh):Cq Int:=
 if a.kind=1 then (if 4<=(b.vars.length:Int) then (Cq.ret 2) else (if a.Ζ<0 then (Cq.ret 330) else (if (b.vars.length:Int)<a.Ζ then (Cq.ret 330) else (Cq.bind (BG a.name) λh=>match h with|false=>(Cq.ret 331)|true=>(Cq.bind (DZ b a.name) λi=>if 0<=i then (Cq.ret 331) else (Cq.ret 0)))))) else (if a.kind=2 then (Cq.bind (yd b a.Ζ) λj=>if (!j)=true then (Cq.ret 330) else (Cq.bind (Jr b a.Ζ) λk=>if k=true then (Cq.ret 333) else (Cq.ret 0))) else (if a.kind=3 then (Cq.bind (yd b a.Ζ) λl=>if (!l)=true then (Cq.ret 330) else (Cq.bind (DZ b a.name) λc=>Cq.bind (BG a.name) λm=>match m with|false=>(Cq.ret 331)|true=>(if 0<=c then (if ¬ c=a.Ζ then (Cq.ret 331) else (Cq.ret 0)) else (Cq.ret 0)))) else (if a.kind=4 then (Cq.bind (yd b a.Ζ) λn=>match n with|false=>(Cq.ret 330)|true=>(Cq.bind (yd b a.ll) λo=>if (!o)=true then (Cq.ret 330) else (Cq.ret 0))) else (if a.kind=5 then (Cq.bind (DL b a) λd=>Cq.ret d) else (if a.kind=6 then (if a.kind=6 then (Cq.bind (zm b a) λe=>Cq.ret e) else (Cq.ret 1)) else (if a.kind=7 then (if a.kind=7 then (Cq.bind (zm b a) λf=>Cq.ret f) else (Cq.ret 1)) else (if a.kind=8 then (Cq.bind (zm b a) λg=>Cq.ret g) else (Cq.ret 1))))))))
def Vz(a:Int)(b:Int)(c:(Fin 8->Int)):Cq (Fin 8->Int):=
 Cq.ì (0<=a/\a<8) (Cq.ret (å c a.toNat b))
def Dy(b:Int)(d:Int)(a:Int)(c:(Fin 8->Int)):Cq ((Int×(Fin 8->Int))⊕(Fin 8->Int)):=
 if a<b then (if d<=a then (Cq.ì (0<=a/\a<8) (Cq.ret (.inl (i64.wrap (a+1),å c a.toNat (i64.wrap (a+1)))))) else (Cq.ret (.inl (i64.wrap (a+1),c)))) else (Cq.ret (.inl (i64.wrap (a+1),c)))
def Vi(b:Int)(c:Int):(Int×(Fin 8->Int))->Cq (Fin 8->Int):=
 Cq.loop λe=>match e with|(a,d)=>if a<8 then (Cq.ì (0<=a/\a<8) (if b<a then (if a<=c then (Cq.ì (0<=a/\a<8) (Dy b c a (å (å d a.toNat a) a.toNat (i64.wrap (a-1))))) else (Dy b c a (å d a.toNat a))) else (Dy b c a (å d a.toNat a)))) else (Cq.ret (.inr d))
def vV(a:Int)(b:Int):Cq (Fin 8->Int):=
 Cq.next (Vi a b (0,(λ_=>0))) λd=>match d with|c=>Vz a b c
def T9:Cq Bool:=
 Cq.ret true
def T8(a:(Fin 8->Int)):(Int×(Fin 8->Bool))->Cq (Bool⊕Unit):=
 Cq.loop λd=>match d with|(b,c)=>if b<8 then (Cq.ì (0<=b/\b<8) (if (Κ a b)<0 then (Cq.ret (.inr (.inl false))) else (Cq.ì (0<=b/\b<8) (if 8<=(Κ a b) then (Cq.ret (.inr (.inl false))) else (Cq.ì (0<=b/\b<8) (Cq.ì (0<=Κ a b/\(Κ a b)<8) (if (Κ c (Κ a b))=true then Cq.fail else (Cq.ì (0<=b/\b<8) (Cq.ì (0<=Κ a b/\(Κ a b)<8) (Cq.ret (.inl (i64.wrap (b+1),å c ((Κ a b).toNat) true)))))))))))) else (Cq.ret (.inr (.inr ())))
def Hg(a:(Fin 8->Int)):Cq Bool:=
 Cq.next (T8 a (0,(λ_=>false))) λc=>match c with | .inl b=>Cq.ret b | .inr ()=>T9
def Vg(a:(Ŀ Za)):Cq ((Ŀ Za)×Int):=
 Cq.ret (a,0)
def Vh(f:(Ŀ Za))(a:(Ŀ Za))(b:Int)(d:(Fin 8->Int)):Cq (((Ŀ Za)×Int)⊕(Ŀ Za)):=
 Cq.Ζ f b λg=>Cq.bind (BL a [(Za.mk g.c d)]) λe=>Cq.ret (.inl (e,i64.wrap (b+1)))
def MQ(d:(Ŀ Za))(b:(Fin 8->Int))(e:Int):(Int×(Fin 8->Int))->Cq (Fin 8->Int):=
 Cq.loop λf=>match f with|(a,c)=>if a<8 then (Cq.ì (0<=a/\a<8) (Cq.Ζ d e λg=>Cq.ì (0<=a/\a<8) (Cq.ì (0<=Κ b a/\(Κ b a)<8) (Cq.ret (.inl (i64.wrap (a+1),å c ((Κ b a).toNat) (Κ g.m a))))))) else (Cq.ret (.inr c))
def Vf(c:(Ŀ Za))(b:(Fin 8->Int)):((Ŀ Za)×Int)->Cq (Ŀ Za):=
 Cq.loop λf=>match f with|(a,d)=>if d<(c.length:Int) then (Cq.next (MQ c b d (0,(λ_=>0))) λg=>match g with|e=>Vh c a d e) else (Cq.ret (.inr a))
def HP(d:(Ŀ Za))(a:(Fin 8->Int)):Cq ((Ŀ Za)×Int):=
 Cq.bind (Hg a) λc=>if (!c)=true then Cq.fail else (Cq.next (Vf d a ([],0)) λe=>match e with|b=>Vg b)
def Ws(a:(Ŀ Zc)):Cq (Ŀ Zc):=
 Cq.ret a
def Wr(e:(Ŀ Zc))(b:(Fin 8->Int)):((Ŀ Zc)×Int)->Cq (Ŀ Zc):=
 Cq.loop λg=>match g with|(a,c)=>if c<(e.length:Int) then (Cq.Ζ e c λh=>Cq.bind (HP h.p b) λd=>Cq.Ζ e c λf=>Cq.ì ((a++[(Zc.mk f.id d.1)]).length<=small) (Cq.ret (.inl ((a++[(Zc.mk f.id d.1)]),i64.wrap (c+1))))) else (Cq.ret (.inr a))
def wh(c:(Ŀ Zc))(a:(Fin 8->Int)):Cq (Ŀ Zc):=
 Cq.next (Wr c a ([],0)) λd=>match d with|b=>Ws b
def Xx(c:Zc)(a:(Ŀ Zc))(b:Bool):Cq (Ŀ Zc):=
 if (!b)=true then (Cq.ì ((a++[c]).length<=small) (Cq.ret (a++[c]))) else (Cq.ret a)
def Ed(d:(Ŀ Zc))(f:Zc)(c:Int)(a:(Ŀ Zc))(b:Bool):Cq (((Ŀ Zc)×Bool×Int)⊕(((Ŀ Zc)×Bool))):=
 Cq.Ζ d c λg=>if ¬ g.id=f.id then (Cq.Ζ d c λe=>Cq.ì ((a++[e]).length<=small) (Cq.ret (.inl ((a++[e]),b,i64.wrap (c+1))))) else (Cq.ret (.inl (a,b,i64.wrap (c+1))))
def Xw(d:(Ŀ Zc))(c:Zc):((Ŀ Zc)×Bool×Int)->Cq (((Ŀ Zc)×Bool)):=
 Cq.loop λf=>match f with|(b,a,e)=>if e<(d.length:Int) then (if a=true then (Ed d c e b a) else (Cq.Ζ d e λg=>if c.id<=g.id then (Cq.ì ((b++[c]).length<=small) (Ed d c e (b++[c]) true)) else (Ed d c e b a))) else (Cq.ret (.inr (b,a)))
def wj(d:(Ŀ Zc))(c:Zc):Cq (Ŀ Zc):=
 Cq.next (Xw d c ([],false,0)) λe=>match e with|(b,a)=>Xx c b a
def W3(a:(Ŀ Zc)):Cq (Ŀ Zc):=
 Cq.ret a
def W0(c:(Ŀ Zc))(d:Int):((Ŀ Zc)×Int)->Cq (Ŀ Zc):=
 Cq.loop λf=>match f with|(a,b)=>if b<(c.length:Int) then (Cq.Ζ c b λg=>if ¬ g.id=d then (Cq.Ζ c b λe=>Cq.ì ((a++[e]).length<=small) (Cq.ret (.inl ((a++[e]),i64.wrap (b+1))))) else (Cq.ret (.inl (a,i64.wrap (b+1))))) else (Cq.ret (.inr a))
def zz(c:(Ŀ Zc))(b:Int):Cq (Ŀ Zc):=
 Cq.next (W0 c b ([],0)) λd=>match d with|a=>W3 a
def AR(a:Zb)(c:Zh)(b:Zc):Cq Zb:=
 if c.neq=true then (Cq.bind (wj a.ζ b) λd=>Cq.ret (Zb.mk a.vars a.eqs d (if a.next<(i64.wrap (b.id+1)) then (i64.wrap (b.id+1)) else a.next))) else (Cq.bind (wj a.eqs b) λe=>Cq.ret (Zb.mk a.vars e a.ζ (if a.next<(i64.wrap (b.id+1)) then (i64.wrap (b.id+1)) else a.next)))
def Ni(a:Zb)(b:Zh):Cq Zb:=
 Cq.bind (xU a.eqs b.id) λc=>Cq.bind (xU a.ζ b.id) λg=>if b.kind=5 then (if b.id=0 then (AR a b (Zc.mk a.next b.p)) else (AR a b (Zc.mk b.id b.p))) else (if b.kind=6 then (Cq.bind (zz a.eqs b.id) λh=>Cq.bind (zz a.ζ b.id) λi=>Cq.ret (Zb.mk a.vars h i a.next)) else (if b.kind=7 then (if 0<=c then (Cq.bind (wj a.eqs (Zc.mk b.id b.p)) λj=>Cq.ret (Zb.mk a.vars j a.ζ a.next)) else (Cq.bind (wj a.ζ (Zc.mk b.id b.p)) λk=>Cq.ret (Zb.mk a.vars a.eqs k a.next))) else (if b.kind=8 then (Cq.bind (zz a.eqs b.id) λl=>Cq.bind (zz a.ζ b.id) λd=>if 0<=c then (Cq.Ζ a.eqs c λm=>Cq.bind (wj a.ζ m) λe=>Cq.ret (Zb.mk a.vars l e a.next)) else (Cq.Ζ a.ζ g λn=>Cq.bind (wj a.eqs n) λf=>Cq.ret (Zb.mk a.vars f d a.next))) else (Cq.ret a))))
def se(b:Zb)(a:Zh):Cq (Zb×Int):=
 Cq.bind (Ea b a) λd=>if ¬ d=0 then (Cq.ret ((Zb.mk [] [] [] 0),d)) else (Cq.ì (([]++b.vars).length<=small) (if a.kind=1 then (Cq.ì (0<=(0:Int)/\(0:Int)<=a.Ζ/\a.Ζ<=(b.vars.length:Int)) (Cq.ì ((([]:Ŀ Ĳ)++((b.vars.take a.Ζ.toNat).drop (0:Int).toNat)).length<=small) (Cq.ì (((([]:Ŀ Ĳ)++((b.vars.take a.Ζ.toNat).drop (0:Int).toNat))++[a.name]).length<=small) (Cq.ì (0<=a.Ζ/\a.Ζ<=(b.vars.length:Int)/\(b.vars.length:Int)<=(b.vars.length:Int)) (Cq.ì ((((([]:Ŀ Ĳ)++((b.vars.take a.Ζ.toNat).drop (0:Int).toNat))++[a.name])++((b.vars.take (b.vars.length:Int).toNat).drop a.Ζ.toNat)).length<=small) (Cq.bind (vV (b.vars.length:Int) a.Ζ) λl=>Cq.bind (wh b.eqs l) λm=>Cq.bind (vV (b.vars.length:Int) a.Ζ) λn=>Cq.bind (wh b.ζ n) λo=>Cq.ret ((Zb.mk (((([]:Ŀ Ĳ)++((b.vars.take a.Ζ.toNat).drop (0:Int).toNat))++[a.name])++((b.vars.take (b.vars.length:Int).toNat).drop a.Ζ.toNat)) m o b.next),0))))))) else (if a.kind=2 then (Cq.ì (0<=(0:Int)/\(0:Int)<=a.Ζ/\a.Ζ<=(b.vars.length:Int)) (Cq.ì ((([]:Ŀ Ĳ)++((b.vars.take a.Ζ.toNat).drop (0:Int).toNat)).length<=small) (Cq.ì (0<=i64.wrap (a.Ζ+1)/\(i64.wrap (a.Ζ+1))<=(b.vars.length:Int)/\(b.vars.length:Int)<=(b.vars.length:Int)) (Cq.ì (((([]:Ŀ Ĳ)++((b.vars.take a.Ζ.toNat).drop (0:Int).toNat))++((b.vars.take (b.vars.length:Int).toNat).drop (i64.wrap (a.Ζ+1)).toNat)).length<=small) (Cq.bind (vV a.Ζ (i64.wrap ((b.vars.length:Int)-1))) λe=>Cq.bind (wh b.eqs e) λf=>Cq.bind (vV a.Ζ (i64.wrap ((b.vars.length:Int)-1))) λg=>Cq.bind (wh b.ζ g) λh=>Cq.ret ((Zb.mk ((([]:Ŀ Ĳ)++((b.vars.take a.Ζ.toNat).drop (0:Int).toNat))++((b.vars.take (b.vars.length:Int).toNat).drop (i64.wrap (a.Ζ+1)).toNat)) f h b.next),0)))))) else (if a.kind=3 then (Cq.Ζ ([]++b.vars) a.Ζ λr=>Cq.ret ((Zb.mk (([]++b.vars).set a.Ζ.toNat a.name) b.eqs b.ζ b.next),0)) else (if a.kind=4 then (Cq.bind (vV 0 0) λc=>Cq.ì (0<=a.Ζ/\a.Ζ<8) (Cq.ì (0<=a.ll/\a.ll<8) (Cq.Ζ b.vars a.ll λp=>Cq.Ζ ([]++b.vars) a.Ζ λs=>Cq.Ζ b.vars a.Ζ λq=>Cq.Ζ (([]++b.vars).set a.Ζ.toNat p) a.ll λt=>Cq.bind (wh b.eqs (å (å c a.Ζ.toNat a.ll) a.ll.toNat a.Ζ)) λi=>Cq.bind (wh b.ζ (å (å c a.Ζ.toNat a.ll) a.ll.toNat a.Ζ)) λj=>Cq.ret ((Zb.mk ((([]++b.vars).set a.Ζ.toNat p).set a.ll.toNat q) i j b.next),0)))) else (Cq.bind (Ni b a) λk=>Cq.ret (k,0)))))))
def WZ(a:Zb):Cq Zb:=
 Cq.ret a
def N0(e:(Ŀ Zx))(c:Int):(Int×Zb)->Cq Zb:=
 Cq.loop λg=>match g with|(b,a)=>if b<(e.length:Int) then (if b<c then (Cq.Ζ e b λh=>Cq.bind (BI a h) λf=>Cq.bind (se a f) λd=>if d.2=0 then (Cq.ret (.inl (i64.wrap (b+1),d.1))) else (Cq.ret (.inl (i64.wrap (b+1),a)))) else (Cq.ret (.inr a))) else (Cq.ret (.inr a))
def Jq(c:(Ŀ Zx))(a:Int):Cq Zb:=
 Cq.next (N0 c a (0,(Zb.mk [] [] [] 1))) λd=>match d with|b=>WZ b
def Wo(a:(Ŀ Zh)):Cq (Ŀ Zh):=
 Cq.ret a
def Na(f:(Ŀ Zx))(a:(Ŀ Zh))(e:Int)(b:Zb):Cq (((Ŀ Zh)×Int×Zb)⊕(Ŀ Zh)):=
 Cq.Ζ f e λg=>Cq.bind (BI b g) λc=>Cq.bind (se b c) λd=>if d.2=0 then (Cq.ì ((a++[c]).length<=small) (Cq.ret (.inl ((a++[c]),i64.wrap (e+1),d.1)))) else (Cq.ret (.inl (a,i64.wrap (e+1),b)))
def M9(d:(Ŀ Zx))(b:Int):((Ŀ Zh)×Int×Zb)->Cq (Ŀ Zh):=
 Cq.loop λf=>match f with|(a,c,e)=>if c<(d.length:Int) then (if c<b then (Na d a c e) else (Cq.ret (.inr a))) else (Cq.ret (.inr a))
def Eb(c:Zb)(d:(Ŀ Zx))(a:Int):Cq (Ŀ Zh):=
 Cq.next (M9 d a ([],0,c)) λe=>match e with|b=>Wo b
def X7(b:(Ŀ Zh))(a:Zb):Cq ZI:=
 Cq.ret (ZI.mk a (b.length:Int) 0)
def X6(e:(Ŀ Zh)):(Int×Zb×ZI)->Cq (ZI⊕(Zb×ZI)):=
 Cq.loop λf=>match f with|(b,c,d)=>if b<(e.length:Int) then (Cq.Ζ e b λg=>Cq.bind (se c g) λa=>if ¬ a.2=0 then (Cq.ret (.inr (.inl (ZI.mk (Zb.mk [] [] [] 0) b a.2)))) else (Cq.ret (.inl (i64.wrap (b+1),a.1,d)))) else (Cq.ret (.inr (.inr (c,d))))
def Km(d:Zb)(a:(Ŀ Zh)):Cq ZI:=
 Cq.next (X6 a (0,d,(ZI.mk (Zb.mk [] [] [] 0) 0 0))) λe=>match e with | .inl b=>Cq.ret b | .inr (c,f)=>X7 a c
def EY(b:Zb)(c:(Ŀ Zh)):Cq (Zb×Int×Int):=
 Cq.bind (Km b c) λa=>Cq.ret (a.s,a.n,a.e)
def Js(d:ZK):Cq (Zb×Zb×Zb):=
 Cq.bind (Jq d.base 8) λc=>Cq.bind (Eb c d.a 4) λe=>Cq.bind (EY c e) λf=>Cq.bind (Eb c d.b 4) λg=>Cq.bind (EY c g) λh=>Cq.ret (c,f.1,h.1)
def T7(a:(Ŀ (Ŀ Za))):Cq ((Ŀ (Ŀ Za))):=
 Cq.ret a
def T6(c:(Ŀ Zc)):((Ŀ (Ŀ Za))×Int)->Cq (((Ŀ (Ŀ Za)))):=
 Cq.loop λd=>match d with|(b,a)=>if a<(c.length:Int) then (Cq.Ζ c a λe=>Cq.Ζ b a λf=>Cq.ret (.inl ((b.set a.toNat e.p),i64.wrap (a+1)))) else (Cq.ret (.inr b))
def Dl(a:(Ŀ Zc)):Cq ((Ŀ (Ŀ Za))):=
 Cq.ì (0<=(a.length:Int)/\(a.length:Int)<=1000000) (Cq.next (T6 a ((List.replicate (a.length:Int).toNat []),0)) λb=>match b with|c=>T7 c)
def DX(a:Zb):Cq (Zm×Int):=
 Cq.bind (wb a) λc=>if (!c)=true then (Cq.ret ((Zm.mk 0 [] []),320)) else (Cq.bind (Dl a.eqs) λd=>Cq.bind (Dl a.ζ) λe=>Cq.bind (DR (if 1<(a.vars.length:Int) then (a.vars.length:Int) else 1) d e) λb=>Cq.ret (b.1,b.2))
def Ml(a:Bool)(b:Zb×(Ŀ Zk)×Int)(d:Zb×(Ŀ Zk)×Int):Cq Bool:=
 if ¬ b.2.2=0 then (Cq.ret a) else (Cq.bind (DX b.1) λc=>Cq.bind (DX d.1) λe=>if ¬ c.2=e.2 then (Cq.ret false) else (if ¬ c.2=0 then (Cq.ret a) else (Cq.bind (DH c.1) λf=>Cq.bind (DH e.1) λg=>Cq.bind (HM f.1 g.1) λh=>match h with|false=>(Cq.ret false)|true=>(if (b.1.vars.length:Int)=(d.1.vars.length:Int) then (Cq.ret a) else (Cq.ret false)))))
def Mw(e:ZK):Cq Bool:=
 Cq.bind (HF) λd=>if (!d)=true then (Cq.ret false) else (Cq.bind (Js e) λa=>Cq.bind (uF a.1 a.2.1 a.2.2) λb=>Cq.bind (uF a.1 a.2.2 a.2.1) λc=>if ¬ b.2.2=c.2.2 then (Cq.ret false) else (Cq.bind (Z3 b.2.1 c.2.1) λf=>if (!f)=true then (Cq.ret false) else (Ml d b c)))
end Go.EL

namespace Go.EL
open Go.IntKind (i8 i16 i32 i64 u8 u16 u32 u64)
open Go
namespace Cq
variable {α β σ ρ:Type}
theorem wp_ret{a:α}{p:α->Prop}:(Cq.ret a).wp p↔p a:=aa3
theorem Zd{q:Prop}[Decidable q]{c d:Cq α}{p:α->Prop}:(if q then c else d).wp p↔if q then c.wp p else d.wp p:=by split <;> rfl
theorem Zul{A:σ->Prop}{Φ:ρ->Prop}{s:σ}:Out A Φ (.inl s)↔A s:=aa3
theorem ο.then{c:Cq α}{a:α}(h:c.ο a){p:α->Prop}(hp:p a):c.wp p:=c.mono (λb e=>by rw[e]; exact hp) h
end Cq
theorem wrap64{x:Int}(h:-9223372036854775808<=x/\x<=9223372036854775807):i64.wrap x=x:=IntWalk.i64_in _ h
theorem qE{a:Fin 8->Int}{i:Int}(h:0<=i/\i<8):Κ a i=a ⟨i.toNat,by omega⟩:=BM a (by omega)
theorem Hq(a b:M):(zl a b).ο (gO a b):=by
 unfold zl
 by_cases h:a=b
 .rw[Ă h]
  subst h
  exact (D0 a).symm
 rw[Ā h]
 have p:∀ k:Nat,k<=8->(∀ j:Fin 8,j.val<k->a j=b j)->k<8:=λk n g=>by
  rcases Ś k 8 with r|r
  .exact r
  exact absurd (funext λj=>g j (by omega)) h
 refine Cq.EI (I:=λi:Int=>0<=i/\i<8/\∀ j:Fin 8,(j.val:Int)<i->a j=b j) (m:=λi=>(8-i).toNat) (λi hi=>?_) 0 ⟨by omega,by omega,λj g=>by omega⟩
 obtain⟨c,d,g⟩:=hi
 refine⟨⟨c,d⟩,⟨c,d⟩,?_⟩
 rw[Cq.Zd,qE ⟨c,d⟩,qE ⟨c,d⟩]
 split
 .rename_i e
  have l:∀ j:Fin 8,(j.val:Int)<i+1->a j=b j:=λj f=>by
   by_cases s:(j.val:Int)<i
   .exact g j s
   have:j=⟨i.toNat,by omega⟩:=gg (by simp; omega)
   rw[this]; exact e
  have:=p (i+1).toNat (by omega) (λj f=>l j (by omega))
  rw[Cq.wp_ret,Cq.Zul,wrap64 (by omega)]
  exact⟨⟨by omega,by omega,l⟩,by omega⟩
 rename_i e
 refine⟨⟨c,d⟩,⟨c,d⟩,?_⟩
 rw[Cq.Zd,qE ⟨c,d⟩,qE ⟨c,d⟩]
 have n:i.toNat<8:=by omega
 split
 .rename_i q
  exact (Rf a b n (λj f=>g j (by omega)) q).symm
 rename_i q
 exact (Re a b n (λj f=>g j (by omega)) (by omega)).symm
end Go.EL

namespace Go.EL
open Go.IntKind (i8 i16 i32 i64 u8 u16 u32 u64)
open Go
instance KE:DecidableEq Zi:=λ⟨a1,a2⟩ ⟨a,c⟩=>decidable_of_iff (a1=a/\a2=c) (by simp)
instance KF:DecidableEq Zj:=λ⟨a1,a2⟩ ⟨a,c⟩=>decidable_of_iff (a1=a/\a2=c) (by simp)
def ð(n:Int):Zj:=⟨⟨decide (n<0),if n=0 then [] else [(n.natAbs:Int)]⟩,⟨false,[1]⟩⟩
def ú(l h:Int)(p:Int->Bool):Bool:=(List.range (h-l+1).toNat).all λk=>p (l+(k:Int))
theorem Zv{l h:Int}{p:Int->Bool}(a:ú l h p=true){x:Int}(c:l<=x)(d:x<=h):p x=true:=by
 have:=Ĕ.1 a (x-l).toNat (ť.2 (by omega))
 rwa [show l+((x-l).toNat:Int)=x by omega] at this
def runs{α:Type}[DecidableEq α](n:Nat)(c:Cq α)(a:α):Bool:=decide (c.ev n=some a)
theorem ZC{α:Type}[DecidableEq α]{n:Nat}{c:Cq α}{a:α}(h:runs n c a=true):c.ο a:=Cq.ο.rE n (Ĝ h)
theorem ZsV:(ú (-8) 8 λn=>runs 20 (xK n) (ð n))=true:=by decide +kernel
theorem Zup:(ú (-12) 12 λa=>ú (-3) 3 λb=>runs 30 (EW (ð a) (ð b)) (ð (a+b)))=true:=by decide +kernel
theorem ZuP:(ú (-3) 3 λa=>runs 30 (JZ (ð a) (ð 1)) (ð a))=true:=by decide +kernel
theorem Jw:(ú (-15) 15 λa=>runs 30 (uB (ð a)) (if a<0 then -1 else if a=0 then 0 else 1))=true:=by decide +kernel
theorem ZsT:(ú (-15) 15 λa=>a == 0 || runs 30 (D7 (ð a)) true)=true:=by decide +kernel
theorem ZtR:(ú (-12) 12 λa=>a == 0 || runs 30 (Jm (ð a) (ð a)) true)=true:=by decide +kernel
theorem IW:(ú (-12) 12 λa=>a == 0 || runs 30 (ZL (ð a)) (if a<0 then -1 else if a=0 then 0 else 1))=true:=by decide +kernel
theorem YP:(ú (-12) 12 λa=>a == 0 || runs 30 (DB (ð a)) true)=true:=by decide +kernel
theorem P9:(ú (-12) 12 λa=>a == 0 || ú (-12) 12 λb=>b == 0 || runs 30 (xG (ð a) (ð b)) (if a<b then -1 else if a=b then 0 else 1))=true:=by decide +kernel
end Go.EL

