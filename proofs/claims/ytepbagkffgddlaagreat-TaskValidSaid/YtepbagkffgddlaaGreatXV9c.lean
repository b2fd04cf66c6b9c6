/- The law TaskValid holds for every input: a part of its proof (fY the code does, plain models, and fY they return). No condition. -/
import Derived.Test.YtepbagkffgddlaaGreatXV9b
import Derived.Test.YtepbagkffgddlaaGreatXV9a
set_option linter.unusedVariables false
set_option linter.unusedSimpArgs false
namespace Go.Proofs.YtepbagkffgddlaaGreat
open Go.IntKind (i8 i16 i32 i64 u8 u16 u32 u64)
open Go.Proofs.Tryz
open Go Go.EL Go.RowKit Go.Proofs
theorem OC:ownKnob prog.godebug=none:=İ
theorem CU:laidOutB prog=true:=İ
end Go.Proofs.YtepbagkffgddlaaGreat

namespace Go.Proofs.YtepbagkffgddlaaGreat
open Go.IntKind (i8 i16 i32 i64 u8 u16 u32 u64)
open Go.Proofs.Tryz
open Go Go.EL Go.RowKit Go.Proofs
theorem fO{a b:Bool}(h:a=true)(k:b=true):(a&&b)=true:=by rw[h,k];rfl
theorem j0:(Rows.taskValidRow.wf (OpenSpec.ofChange Rows.taskValidSpec))=true:=İ
theorem j1:(laidOutB prog)=true:=İ
theorem j2:(mapsRowed prog)=true:=İ
theorem j3:(Tryz.f4.params.all (prog.readableRec ·))=true:=İ
theorem j4:(namedTie prog Rows.taskValidRow.named Rows.taskValidSpec.vars)=true:=İ
theorem j5:((Rows.taskValidRow.stops == []))=true:=İ
theorem j6:((prog.stops == []))=true:=İ
theorem j7:((Rows.taskValidRow.knobs == []))=true:=İ
theorem j8:((prog.stopKnobs == []))=true:=İ
theorem j9:((Rows.taskValidRow.inPlace == prog.inPlace 4))=true:=İ
theorem j10:((Rows.taskValidRow.unfollowed == prog.unfollowed 4))=true:=İ
theorem j11:((Rows.taskValidRow.recurses == prog.recurses 4))=true:=İ
theorem j12:((Rows.taskValidRow.named == prog.varsNamed 4))=true:=İ
theorem j13:((Rows.taskValidRow.maps == (Tryz.f4.params.toList++Rows.taskValidSpec.plain.varTypes prog).any (prog.mapsRec ·)))=true:=İ
theorem j14:((Rows.taskValidRow.ifaces == (Tryz.f4.params.toList++Rows.taskValidSpec.plain.varTypes prog).any (prog.ifacesRec ·)))=true:=İ
theorem j15:((Rows.taskValidRow.mapsOut == prog.mapsAmong Tryz.f4.resultTypes.toList))=true:=İ
theorem j16:((Rows.taskValidRow.loops == (Tryz.f4.params.toList++Rows.taskValidSpec.plain.varTypes prog).any (prog.loopsFrom ·)))=true:=İ
theorem j17:((Rows.taskValidRow.wideKeys == (Tryz.f4.params.toList++Rows.taskValidSpec.plain.varTypes prog++Tryz.f4.resultTypes.toList).any (prog.wideKeysFrom ·)))=true:=İ
theorem j18:(Rows.taskValidSpec.vars.all (prog.varReadable ·))=true:=İ
theorem j19:(Tryz.f4.resultTypes.all (λt=>prog.readableRec t&&decide (t<prog.types.size)))=true:=İ
theorem j20:((Rows.taskValidRow.ifacesOut == Tryz.f4.resultTypes.toList.any (prog.ifacesRec ·)))=true:=İ
theorem j21:((Rows.taskValidRow.loopsOut == Tryz.f4.resultTypes.toList.any (prog.loopsFrom ·)))=true:=İ
theorem j22:((Rows.taskValidRow.plainKeys == prog.plainKeys))=true:=İ
theorem j23:(Rows.taskValidRow.shortTexts.isNone)=true:=İ
theorem j24:(prog.stopsHeard)=true:=İ
theorem j25:(prog.mayEnter)=true:=İ
theorem j26:((Rows.taskValidRow.lifted == prog.liftsFinal))=true:=İ
theorem j27:((prog.make == some Rows.taskValidRow.make))=true:=İ
theorem j28:((Rows.taskValidRow.kinds == (if Rows.taskValidRow.domain.isEmpty then[]else Tryz.f4.params.toList.map λt=>match prog.underlying t with|some (.int k)=>some k|_=>none)))=true:=İ
theorem j29:((Rows.taskValidRow.pinned == Rows.taskValidRow.pinnedBy))=true:=İ
theorem j30:((Rows.taskValidRow.veiled == (Tryz.f4.params.toList++Rows.taskValidSpec.plain.varTypes prog++Tryz.f4.resultTypes.toList).any (prog.veiledRec ·)))=true:=İ
theorem j31:(Rows.taskValidRow.veiledFits prog Tryz.f4.params.toList (Tryz.f4.params.toList++Rows.taskValidSpec.plain.varTypes prog++Tryz.f4.resultTypes.toList))=true:=İ
set_option maxRecDepth 100000 in
theorem jAll:joinedFacts prog 4 Tryz.f4 Rows.taskValidSpec Rows.taskValidRow=true:=by unfold joinedFacts;exact fO (fO (fO (fO (fO (fO (fO (fO (fO (fO (fO (fO (fO (fO (fO (fO (fO (fO (fO (fO (fO (fO (fO (fO (fO (fO (fO (fO (fO (fO (fO j0 j1) j2) j3) j4) j5) j6) j7) j8) j9) j10) j11) j12) j13) j14) j15) j16) j17) j18) j19) j20) j21) j22) j23) j24) j25) j26) j27) j28) j29) j30) j31
end Go.Proofs.YtepbagkffgddlaaGreat

namespace Go.EL
open Go.IntKind (i8 i16 i32 i64 u8 u16 u32 u64)
open Go Go.RowKit Go.Proofs Go.MapKept
theorem UY{P:Program}{o:Oper}{a:Act}{w:World}{K K':Act->World->Prop}{Q:ï}{n l:Nat}(k:∀c,o.op≠.defer c)(g:∀a w,K a w->K' a w)(h:o.wp P a w K Q):o.wpIn (Fence.wide.inRound l) n P a w K' Q:=by
 refine⟨λ_ _=>trivial,?_⟩;rw[Oper.semAt_plain _ _ _ k];unfold Oper.wp at h;generalize (execOp a.eval o).run P w=i at h⊢;cases i with
 |ok nx w'=>
  cases nx<;>simp only[Oper.upon]at h<;>simp only[Oper.uponIn]
  case value v=>exact g _ _ h
  case skip=>exact g _ _ h
  case defer d=>exact g _ _ h
  case enter f args=>exact⟨λh=>by simp[Fence.inRound,Fence.wide]at h,(callsIn_wide (n:=n-1)).2 (h.mono λe m j=>by cases e<;>first|exact g _ _ j|exact j)⟩
  case row row args=>exact⟨λh=>by simp[Fence.inRound,Fence.wide]at h,λc cs _=>let ⟨v,w',r,s⟩:=h c cs;⟨v,w',g _ _ r,stepsIn_wide.2 s⟩⟩
 |halt x w'=>cases x<;>first|exact h.elim|exact h
theorem KL{P:Program}{ops:Array Oper}{Q:ï}{n r:Nat}(d:¬LetsOut Q):∀{l:Ŀ Oper}{a:Act}{w:World},(∀o∈l,∀c,o.op≠.defer c)->wpList P ops Q l a w->wpListIn (Fence.wide.inRound r) n P ops Q l a w
 |[],_,_,_,h=>h
 |o::l,a,w,e,h=>by
  unfold wpList at h;unfold wpListIn;split at h
  .rename_i f;rw[ą f];rcases h with h|h
   .exact UY (e o ß) (λa w h'=>KL d (λo' lD=>e o' (by simp[lD])) h') h
   exact absurd h.2 d
  rename_i f;rw[ā f];exact⟨λ_ _=>trivial,KL d (λo' lD=>e o' (by simp[lD])) h⟩
theorem ZoF{P:Program}{l:Ŀ Oper}{id n r:Nat}{Q:ï}{a:Act}{w:World}(d:¬LetsOut Q)(e:∀o∈l,∀c,o.op≠.defer c)(h:wpList P l.toArray Q l a w):(Code.region id l.toArray false).wpIn (Fence.wide.inRound r) n P Q a w:=by refine wpIn_region ?_;have:=wpOpsIn_eq_wpListIn (F:=Fence.wide.inRound r) (n:=n) (P:=P) (ops:=l.toArray) (Q:=Q) l 0 (λj=>ß);rw[List.range_eq_range',Į,this];exact KL d e h
section
variable {P:Program}{N:Nat}{w0:Bs}{G0 G:Mem}{L:Lo}
theorem St.lF{w:World}{l key:Nat}{r r':Loop}(e:St w0 G0 G L w)(d:L.get key=some ⟨l,.loop r,0⟩):St w0 G0 G ((key,some ⟨l,.loop r',0⟩)::L) (w.putObj l (.loop r')):=by have f:=(e.loc key _ d).1;have c:=(ĕ.1 f).1;exact e.rJ d (World.putObj_heap_same c) (Ċ _) (λk _ a=>absurd a (ĵ k)) (λk a=>World.putObj_heap_other a) rfl rfl rfl rfl ß
end
structure wX (B:Nat) (W W':World):Prop where
 os:W'.os=W.os
 tape:W'.tape=W.tape
 output:W'.output=W.output
 drawn:W.drawn<=W'.drawn
 size:W.heap.size<=W'.heap.size
 block:∀(k:Nat) (o:Obj),W.heap[k]?=some o->(k<B\/o.isWalk=false)->W'.heap[k]?=some o
theorem wX.trans{B:Nat}{W W' a:World}(h:wX B W W')(k:wX B W' a):wX B W a:=
 ⟨k.os.trans h.os,k.tape.trans h.tape,k.output.trans h.output,ŋ h.drawn k.drawn,ŋ h.size k.size,λj o d c=>k.block j o (h.block j o d c) c⟩
theorem wX.alloc(B:Nat)(W:World)(o:Obj):wX B W (W.alloc o):=
 ⟨rfl,rfl,rfl,Ċ _,ß,λk o' h _=>(Below.heap_alloc W o k (ĕ.1 h).1).trans h⟩
structure Jg (b r:Nat) (es:Array MapEntry) (clock:Nat) (cons:Ŀ MapEntry) (left:Nat) (w:World):Prop where
 map:w.heap[b]?=some (.map es clock)
 iter:∃seen c0,w.heap[r]?=some (.mapIter (some b) clock seen c0)/\clock<=c0/\(leftOf es seen).size=left/\∀x,x∈cons↔x∈es.toList/\seen.contains x.born=true
 nodup:cons.Nodup
theorem born_inj{es:Array MapEntry}{clock:Nat}(h:Stamped es clock){x y:MapEntry}(d:x∈es.toList)(f:y∈es.toList)(e:x.born=y.born):x=y:=by
 have a:=h.2.1;have:∀(l:Ŀ MapEntry),(l.map (·.born)).Nodup->x∈l->y∈l->x=y:=by
  intro l;induction l with
  |nil=>intro _ d;cases d
  |cons z l g=>
   intro a d f;simp only[ġ,aaS,ğ,not_exists,not_and]at a;rcases Ď.1 d with c|c<;>rcases Ď.1 f with h2|h2
   .rw[c,h2]
   .exact absurd (by rw[<-e,c]) (a.1 y h2)
   .exact absurd (by rw[e,h2]) (a.1 x c)
   exact g a.2 c h2
 exact this _ a d f
section
variable {P:Program}{b r:Nat}{es:Array MapEntry}{clock:Nat}{cons:Ŀ MapEntry}{left:Nat}{w:World}
theorem Jg.next(h:Jg b r es clock cons left w)(A:Stamped es clock)(ty:TypeId):
  (left=0/\(Instr.next (.pointer (some ⟨r,0,none⟩)) false ty).run P w=.ok (.tuple #[.bool false]) w)\/
  ∃e∈es.toList,∃w' f,(¬e∈cons)/\(Instr.next (.pointer (some ⟨r,0,none⟩)) false ty).run P w=.ok (.tuple #[.bool true,e.key,e.val]) w'/\Jg b r es clock (cons++[e]) f w'/\f<left/\
   (Instr.entry (.pointer (some ⟨r,0,none⟩))).run P w'=.ok (.tuple #[e.key,e.val]) w'/\∀B,B<=r->wX B w w':=by
 obtain⟨seen,c0,hr,H,I,q⟩:=h.iter
 rcases run_next_at (P:=P) w ty r b clock c0 seen es clock hr h.map A.1 H with ⟨J,m⟩|⟨e,D,w1,j,m⟩
 .exact .inl ⟨ŉ,m⟩
 have my:e∈es.toList/\seen.contains e.born=false:=by simp only[leftOf,ew,Ő,Ř]at D;exact D
 have t:r≠b:=λe'=>by subst e';have:=h.map;rw[hr]at this;cases this
 have E:r<w.heap.size:=(ĕ.1 hr).1
 have d:w1.heap=w.heap:=by rcases j with rfl|rfl<;>rfl
 have C:w.drawn<=w1.drawn:=by rcases j with rfl|rfl;exact Ċ _;exact Nat.le_succ _
 have i:w1.os=w.os/\w1.tape=w.tape/\w1.output=w.output:=by rcases j with rfl|rfl<;>exact⟨rfl,rfl,rfl⟩
 have s:(ChangeMaps.setBlock w1 r (.mapIter (some b) clock (seen.push e.born) clock)).heap[r]?=some (.mapIter (some b) clock (seen.push e.born) clock):=by simp[ChangeMaps.setBlock,d,E]
 have g:∀k,k≠r->(ChangeMaps.setBlock w1 r (.mapIter (some b) clock (seen.push e.born) clock)).heap[k]?=w.heap[k]?:=λk n=>by simp[ChangeMaps.setBlock,d,ť,Ne.symm n]
 refine .inr ⟨e,my.1,ChangeMaps.setBlock w1 r (.mapIter (some b) clock (seen.push e.born) clock),(leftOf es (seen.push e.born)).size,λnP=>by{ have:=((q e).1 nP).2;rw[my.2]at this;cases this },m,⟨(g b (Ne.symm t)).trans h.map,⟨_,clock,s,Ċ _,rfl,λx=>?_⟩,?_⟩,?_,?_,λB K=>⟨i.1,i.2.1,i.2.2,C,by simp[ChangeMaps.setBlock,d],λk o n y=>?_⟩⟩
 .simp only[Ħ,đ,ey,Ķ,aa9]
  constructor
  .rintro (v|rfl)
   .exact⟨((q x).1 v).1,.inl ((q x).1 v).2⟩
   exact⟨my.1,.inr rfl⟩
  rintro⟨v,qe|qe⟩
  .exact .inl ((q x).2 ⟨v,qe⟩)
  exact .inr (born_inj A v my.1 qe)
 .refine List.nodup_append.2 ⟨h.nodup,ß,λa G c nP=>?_⟩
  simp only[đ]at nP
  subst nP
  intro e'
  subst e'
  have:=((q a).1 G).2
  rw[my.2]at this;cases this
 .have u:leftOf es (seen.push e.born)=(leftOf es seen).filter λx=>x.born != e.born:=by
   simp only[leftOf,Array.filter_filter,ey,Bool.not_or];congr 1;funext x;rw[Bool.and_comm];rfl
  rw[u,<-I]
  have:∀(l:Ŀ MapEntry),e∈l->(l.filter λx=>x.born != e.born).length<l.length:=by
   intro l tP;have m:=dO (λx:MapEntry=>x.born != e.born) l;rcases ş (l.filter λx=>x.born != e.born).length l.length with h2|h2
   .exact h2
   have:=List.length_filter_eq_length_iff.1 (Nat.le_antisymm m h2) e tP;simp at this
  have:=this (leftOf es seen).toList D
  have F:((leftOf es seen).filter λx=>x.born != e.born).size=((leftOf es seen).toList.filter λx=>x.born != e.born).length:=by rw[<-ew,ł]
  rw[F,<-ł (xs:=leftOf es seen)]
  exact this
 .exact run_entry_at _ r b clock seen es clock e s ((g b (Ne.symm t)).trans h.map) my.1 A.2.1
 by_cases p:k=r
 .subst p
  rw[hr]at n;cases n
  rcases y with y|y
  .omega
  cases y
 rw[g k p];exact n
end
section
variable {P:Program}{N:Nat}{Q:ï}{fr:Fr}{S:Ξ}{ops:Array Oper}{l:Ŀ Oper}{dst:ŀ Nat}{ty:TypeId}{pos:String}{af:Array Edge}{g:ŀ (Nat×Bool)}
def ma(P:Program)(N:Nat)(ops:Array Oper)(Q:ï)(l:Ŀ Oper)(fr:Fr)(S:Ξ):Prop:=∀a w,Rel N fr a->S w->wpListIn Fence.wide 0 P ops Q l a w
theorem ma.nil(h:WE N Q .normal fr S):ma P N ops Q [] fr S:=h
theorem ma.y0{op:Op}{v:Value}(i:ξ ops fr ⟨dst,op,ty,pos,af,g⟩ true)(h:Y0 P N ⟨dst,op,ty,pos,af,g⟩ fr S v)(j:∀c,op≠.defer c)(f:Ω N dst)(k:ma P N ops Q l (θ dst v fr) S):ma P N ops Q (⟨dst,op,ty,pos,af,g⟩::l) fr S:=λa w d e=>by unfold wpListIn;rw[ą (d.wanted i)];refine⟨λ_ _=>trivial,?_⟩;rw[Oper.semAt_plain _ _ _ j,h a w d e];exact k _ w (d.θ v f) e
theorem ma.yield{x y:Operand}{f:Array TypeId}{loop:Nat}{u:Value}{Φ:Value->Ξ}(q:ξ ops fr ⟨dst,.call ⟨.value x,#[y],f⟩,ty,pos,af,g⟩ true)(p:Ω N dst)(s:fr.ev x=some (.func (.yield loop) #[] #[]))(t:fr.ev y=some u)
  (n:∀w,S w->YieldAt Fence.wide 0 P loop #[u] w λe w'=>∃v,e=.returned v/\Φ v w') (k:∀v,ma P N ops Q l (θ dst v fr) (Φ v)):ma P N ops Q (⟨dst,.call ⟨.value x,#[y],f⟩,ty,pos,af,g⟩::l) fr S:=λa w d r=>by
 unfold wpListIn
 rw[ą (d.wanted q)]
 refine⟨λ_ _=>trivial,?_⟩
 rw[Oper.semAt_plain _ _ _ (λc h=>by cases h)]
 obtain⟨fn,tmps,assign,body,m,h2⟩:=n w r
 have:(execOp a.eval ⟨dst,.call ⟨.value x,#[y],f⟩,ty,pos,af,g⟩).run P w=.ok (.round loop fn tmps assign body) w:=by simp[execOp,resolve,d.ev s,d.ev t,Deferred.ofValue,invoke,m]
 rw[this]
 refine⟨λh=>by simp[Fence.wide]at h,h2.mono λe w' ⟨v,i,j⟩=>?_⟩
 subst i
 exact k v _ w' (d.θ v p) j
theorem WC.qq{id:Nat}{l:Ŀ Oper}(h:ma P N l.toArray Q l fr S):WC P N (.region id l.toArray false) Q fr S:=λa w c d=>by refine(wpIn_wide (n:=0)).1 (wpIn_region ?_);have:=wpOpsIn_eq_wpListIn (F:=Fence.wide) (n:=0) (P:=P) (ops:=l.toArray) (Q:=Q) l 0 (λj=>ß);rw[List.range_eq_range',Į,this];exact h a w c d
end
theorem fh.keys{K V:Type}{enc:K->Value}{Rv:K->Value->V->Prop}:∀{es:Ŀ MapEntry}{D:Ŀ (K×V)},fh enc Rv es D->es.map (·.key)=(D.map (·.1)).map enc
 |[],[],_=>rfl
 |_::_,_::_,h=>by simp only[ġ,Œ];exact⟨h.1,fh.keys h.2.2⟩
 |[],_::_,h=>by cases h
 |_::_,[],h=>by cases h
theorem Lo.Zyo{R L:Lo}{i:Nat}{x:Ow}(h:R.get i=some x):Lo.get (R++L) i=some x:=by
 induction R with
 |nil=>simp[Lo.get]at h
 |cons p R a=>
  obtain⟨k,q⟩:=p;simp only[Ļ];rw[Lo.Zp]at h⊢;split at h
  .rename_i e;rw[ą e];exact h
  rename_i e;rw[ā e];exact a h
theorem Lo.ZwZ{R L:Lo}{i:Nat}(h:i ∉ R.map (·.1)):Lo.get (R++L) i=L.get i:=by
 induction R with
 |nil=>rfl
 |cons p R a=>
  obtain⟨k,q⟩:=p;simp only[ġ,Ď,not_or]at h;simp only[Ļ];rw[Lo.Zp,ā (λe=>h.1 e.symm)];exact a h.2
theorem Lo.UL{R:Lo}{i:Nat}{x:Ow}(h:R.get i=some x):i∈R.map (·.1):=by
 induction R with
 |nil=>simp[Lo.get]at h
 |cons p R a=>
  obtain⟨k,q⟩:=p;rw[Lo.Zp]at h;split at h
  .rename_i e;simp[e]
  simp only[ġ,Ď];exact .inr (a h)
def qI(P:Program)(l:Nat)(u:Value)(a:Lo)(pre:Mem->Prop)(post:Mem->Lo->Bool->Prop):Prop:=
 ∀w G,Hp G a w->pre G->YieldAt Fence.wide 0 P l #[u] w λe w'=>∃b G' L',e=.returned (.bool b)/\Ext w G a w' G' L'/\post G' L' b
section
variable {P:Program}{N:Nat}{Q:ï}{fr:Fr}{S:Ξ}{ops:Array Oper}{l:Ŀ Oper}{dst:ŀ Nat}{ty:TypeId}{pos:String}{af:Array Edge}{g:ŀ (Nat×Bool)}
variable {w0:Bs}{G0 G:Mem}{L:Lo}
def gp(P:Program)(N l:Nat)(c:Code)(Q:ï)(fr:Fr)(S:Ξ):Prop:=∀a w,Rel N fr a->S w->c.wpIn (Fence.wide.inRound l) 0 P Q a w
theorem AO{K:Act->World->Prop}(h:¬LetsOut Q):¬LetsOut (Exit.then K Q):=λ⟨a,w,h'⟩=>h ⟨a,w,h'⟩
theorem xv{id:Nat}(h:¬LetsOut Q):¬LetsOut (Exit.inBlock id Q):=λ⟨a,w,h'⟩=>h ⟨a,w,h'⟩
section
variable {r:Nat}
theorem gp.seq{x y:Code}(h:gp P N r x (Exit.then (y.wpIn (Fence.wide.inRound r) 0 P Q) Q) fr S):gp P N r (.seq x y) Q fr S:=λa w c d=>wpIn_seq (h a w c d)
theorem gp.then{c:Code}(h:gp P N r c Q fr S):WE N (Exit.then (c.wpIn (Fence.wide.inRound r) 0 P Q) Q) .normal fr S:=h
theorem gp.skip(h:WE N Q .normal fr S):gp P N r .skip Q fr S:=λa w c d=>wpIn_skip (h a w c d)
theorem gp.exit{id:Nat}(h:WE N Q (.exit id) fr S):gp P N r (.exit id) Q fr S:=λa w c d=>wpIn_exit (h a w c d)
theorem gp.block{id:Nat}{c:Code}(h:gp P N r c (Exit.inBlock id Q) fr S):gp P N r (.block id c) Q fr S:=λa w d e=>wpIn_block (h a w d e)
theorem gp.region{id:Nat}{l:Ŀ Oper}(d:¬LetsOut Q)(g:l.all (λo=>match o.op with|.defer _=>false|_=>true)=true)(h:WL P N l.toArray Q l fr S):gp P N r (.region id l.toArray false) Q fr S:=λa w f j=>
 ZoF d (λo i c e=>by have:=Ć.1 g o i;rw[e]at this;cases this) (h a w f j)
theorem gp.Ê{c:Operand}{x y:Code}{p:Prop}[Decidable p](e:fr.ev c=some (.bool (decide p)))(i:p->gp P N r x Q fr S)(g:¬p->gp P N r y Q fr S):gp P N r (.cond c x y) Q fr S:=λa w d f=>by
 by_cases h:p
 .exact wpIn_cond_true (by rw[d.ev e,ă h]) (i h a w d f)
 exact wpIn_cond_false (by rw[d.ev e,Ĉ h]) (g h a w d f)
end
theorem Ext.weaken{w w':World}{G':Mem}{d e f:Lo}(h:Ext w G d w' G' e)(c:Lo.sub f e):Ext w G d w' G' f:=
 { h with loc:=λi x l=>h.loc i x (c i x l),Ú:=λi j x y a g k=>h.Ú i j x y a (c _ _ g) (c _ _ k) }
def rR(w0:Bs)(G:Mem)(l:Nat)(r:Loop)(post:Mem->Lo->Bool->Prop):ï:=λe _ w=>match e with
 |.normal=>∃c a d,St w0 G c a w/\a.get 8001=some ⟨l,.loop { r with state:=.busy },0⟩/\Lo.sub d ((8001,some ⟨l,.loop r,0⟩)::a)/\post c d true
 |.ret=>∃c a d,St w0 G c a w/\a.get 8001=some ⟨l,.loop { r with state:=.busy },0⟩/\Lo.sub d ((8001,some ⟨l,.loop { r with state:=.done,pending:=some .ret },0⟩)::a)/\post c d false
 |_=>False
theorem xw{l:Nat}{r:Loop}{post:Mem->Lo->Bool->Prop}:¬LetsOut (rR w0 G l r post):=λ⟨_,_,h⟩=>h
theorem Rf{K:Act->World->Prop}:¬LetsOut (Exit.then K λ_ _ _=>False):=λ⟨_,_,h⟩=>h
theorem qI.Ux{r:Loop}{l t:Nat}{u:Value}{y:Lo}{pre:Mem->Prop}{post:Mem->Lo->Bool->Prop}(U:y.get 8001=some ⟨l,.loop r,0⟩)(x:r.state=.ready)(B:r.pending=none)(C:r.params = #[t])(D:Rel N fr ⟨r.tmps.setIfInBounds t u,[]⟩)
  (h:∀w0 G,w0.L=y->pre G->gp P N l r.assign (Exit.then (λa w=>∃q H F,Rel N q a/\St w0 G H F w/\F.get 8001=some ⟨l,.loop r,0⟩/\
   gp P N l r.body (rR w0 G l r post) q (St w0 G H ((8001,some ⟨l,.loop { r with state:=.busy },0⟩)::F))) λ_ _ _=>False) fr (St w0 G G y)):qI P l u y pre post:=by
 intro w G hH hp
 have T:=(hH.loc 8001 _ U).1
 refine⟨r.fn,r.tmps.setIfInBounds t u,r.assign,r.body,?_,?_⟩
 .have:=run_yield (P:=P) (args:=#[u]) T (by rw[C];rfl)
  rw[C]at this
  simpa using this
 refine roundIn_of_wpIn trivial (Code.wpIn_mono (λe a w' i=>?_) (h ⟨w,y⟩ G rfl hp _ w D hH.st))
 cases e with
 |normal=>
  obtain⟨q,H,F,K,E,A,V⟩:=i
  have L:=(E.loc 8001 _ A).1
  refine⟨_,run_beginRound L x,?_⟩
  have O:=E.lF (r':={ r with state:=.busy }) A
  refine Code.wpIn_mono (λe a w' i=>?_) (V a _ K O)
  cases e with
  |normal=>
   obtain⟨I,Q,J,k,j,m,g⟩:=i
   have v:=(k.loc 8001 _ j).1
   refine⟨_,_,run_endRound none v,true,I,J,rfl,?_,g⟩
   have n:=k.lF (r':={ { r with state:=.busy }with state:=if(none:ŀ Code).isNone then .ready else .done,pending:=none }) j
   have S:({ { r with state:=.busy }with state:=if(none:ŀ Code).isNone then .ready else .done,pending:=none }:Loop)=r:=by obtain⟨s,p,f,t,ps,R,W,d⟩:=r;simp only at x B;subst x B;rfl
   rw[S]at n⊢
   exact n.kH.weaken m
  |ret=>
   obtain⟨I,Q,J,k,j,m,g⟩:=i
   have v:=(k.loc 8001 _ j).1
   refine⟨_,_,run_endRound (some .ret) v,false,I,J,rfl,?_,g⟩
   have n:=k.lF (r':={ { r with state:=.busy }with state:=if(some Code.ret).isNone then .ready else .done,pending:=some .ret }) j
   exact n.kH.weaken m
  |exit id=>exact i.elim
  |goto t=>exact i.elim
  |panic c=>exact i.elim
  |outgrown=>exact i.elim
 |ret=>exact i.elim
 |exit id=>exact i.elim
 |goto t=>exact i.elim
 |panic c=>exact i.elim
 |outgrown=>exact i.elim
end
section
variable {P:Program}{N:Nat}{Q:ï}{fr:Fr}{ops:Array Oper}{l:Ŀ Oper}{fn:Func}{w0:Bs}{G0 G:Mem}{L:Lo}{ty:TypeId}{pos:String}{af:Array Edge}{g:ŀ (Nat×Bool)}{S:Ξ}
def Ph(P:Program)(N:Nat)(D:Ŀ Deferred)(ops:Array Oper)(Q:ï)(l:Ŀ Oper)(fr:Fr)(S:Ξ):Prop:=∀a w,Rel N fr a->S w->wpList P ops Q l { a with defers:=D } w
theorem Ph.nil{D:Ŀ Deferred}(h:∀a w,Rel N fr a->S w->Q .normal { a with defers:=D } w):Ph P N D ops Q [] fr S:=h
def An(fn:Func)(P:Program)(w0:Bs)(G0:Mem)(d:Nat)(post:Mem->Value->Prop)(tmps:Array Value)(w:World):Prop:=
 ∃a c v,St w0 G0 a c w/\c.get 8002=some ⟨d,.deferred (some []),0⟩/\(∀w',St w0 G0 a ((8002,some ⟨d,.deferred none,0⟩)::c) w'->(results fn tmps).run P w'=.ok v w')/\post a v
theorem An.of{rvs:Ŀ ResultVar}{d:Nat}{post:Mem->Value->Prop}{a:Act}{w:World}(vs:Ŀ Value)(hr:fn.results=rvs.toArray)(j:rvs.length=vs.length)(k:St w0 G0 G L w)(f:Rel N fr a)(g:L.get 8002=some ⟨d,.deferred (some []),0⟩)
  (h:∀(i:Nat) (rv:ResultVar) (v:Value),rvs[i]?=some rv->vs[i]?=some v->RV P fr ((8002,some ⟨d,.deferred none,0⟩)::L) rv v) (hp:post G (if h:vs.toArray.size=1 then vs.toArray[0]else .tuple vs.toArray)):An fn P w0 G0 d post a.tmps w:=
 ⟨G,L,_,k,g,λ_ oH=>KI hr j (λi rv v c e=>(h i rv v c e).run f oH),hp⟩
theorem Rel.round{a:Act}{t:Nat}{u:Value}(c:Rel N fr a)(d:t<N):Rel N ((t,u)::fr) ⟨a.tmps.setIfInBounds t u,[]⟩:=by
 have h:=c.put u d;have e:a.put (some t) u=⟨a.tmps.setIfInBounds t u,[]⟩:=by simp[Act.put,c.defers]
 rw[e]at h;exact h
end
section
variable {P:Program}{N:Nat}{Q:ï}{fr:Fr}{Bt:Ξ}{w0:Bs}{G0 G:Mem}{L:Lo}{ops:Array Oper}{fs:Ŀ Bool}{l:Ŀ Oper}{Ι:Fr}{Ρ:jr}
theorem γ.qa{o:Oper}{c:Value}(a:∀u,ξ ops (ς Ρ u++(Ι++fr)) o true)(h:∀u,Y0 P N o (ς Ρ u++(Ι++fr)) Bt c)(k:γ P N Q fr w0 G0 G L ops Bt fs l (θ o.dst c Ι) Ρ):
  γ P N Q fr w0 G0 G L ops Bt (true::fs) (o::l) Ι Ρ:=.inl ⟨c,λu _ _ _=>⟨a u,h u⟩,k⟩
def lq{α:Type}(r:Rp α)(e:TypeId)(mk:ŀ Addr->Nat->Value)(d:Nat)(xs:Ŀ α):Value->Gx->Prop:=λv g=>∃p c tk,v=mk p c/\Β r e g.m (.slice p xs.length c) xs tk/\∀y,tk=some y->g.x y.b=some (d,y.o)
variable {α:Type}{r:Rp α}{e:TypeId}{mk:ŀ Addr->Nat->Value}{d:Nat}{xs:Ŀ α}
theorem lq.mono{v:Value}{g g':Gx}(a:Gx.qX d g g'):lq r e mk d xs v g->lq r e mk d xs v g':=λ⟨p,c,tk,f,h2,h3⟩=>⟨p,c,tk,f,h2.mono a.1,λy h=>a.2 _ _ (h3 y h)⟩
theorem lq.drop{d':Nat}{v:Value}{g:Gx}{tk:ŀ Ow}(h:lq r e mk d xs v g)(a:Nat.beq d d'=false)(k:∀y,tk=some y->g.x y.b=some (d',y.o)):lq r e mk d xs v (g.drop tk):=by obtain⟨p,c,f,j,h2,h3⟩:=h;obtain⟨p',c',i,l,k2,k3⟩:=gv.drop (v:=.slice p xs.length c) ⟨p,c,f,rfl,h2,h3⟩ a k;cases l;exact⟨p,c,i,j,k2,k3⟩
theorem WL.oR{X:Gx}{v:Value}{Q:ï}{l:Ŀ Oper}(h:lq r e mk d xs v X)
  (k:∀p c tk,v=mk p c->Β r e X.m (.slice p xs.length c) xs tk->(∀y,tk=some y->X.x y.b=some (d,y.o))->WL P N ops Q l fr (gr w0 G0 (X.drop tk) ((d,tk)::L))):WL P N ops Q l fr (gr w0 G0 X L):=λa w g i=>by
 obtain⟨p,c,tk,f,h2,h3⟩:=h
 exact k p c tk f h2 h3 a w g (i.kM (λy j=>h2.zero j) h3)
theorem γ.lM{op:Op}{ty:TypeId}{pos:String}{af:Array Edge}{g:ŀ (Nat×Bool)}{kk:Nat}(mk:ŀ Addr->Nat->Value)(A:∀u,ξ ops (ς Ρ u++(Ι++fr)) ⟨some d,op,ty,pos,af,g⟩ true)
  (B:Ρ.any (λp=>Nat.beq p.1 kk)=true) (C:((⟨some d,op,ty,pos,af,g⟩:Oper).looksAt ops).contains kk=true) (s:lj ops kk=true)
  (h:∀u (G':Gx),Mem.le G G'.m->ñ ops ⟨some d,op,ty,pos,af,g⟩ Ρ u G'->∃v,gv r e kk xs v G'/\∀p c,v=.slice p xs.length c->∀S,Y0 P N ⟨some d,op,ty,pos,af,g⟩ (ς Ρ u++(Ι++fr)) S (mk p c))
  (k:γ P N Q fr w0 G0 G L ops Bt fs l Ι ((d,lq r e mk d xs)::iF (some kk) Ρ)):γ P N Q fr w0 G0 G L ops Bt (false::fs) (⟨some d,op,ty,pos,af,g⟩::l) Ι Ρ:=
 γ.ya d kk (lq r e mk d xs) rfl B C s (λv _ _ h=>lq.mono h) (λu G' q E=>by
  obtain⟨v,⟨p,c,tk,f,h2,h3⟩,t⟩:=h u G' q.1 E;refine .inr ⟨A u,λa w x m=>?_⟩;have I:St ⟨w,[(kk,tk)]⟩ G'.m G'.m [(kk,tk)] w:=Hp.st ⟨m.st.jj,λi y hi=>by
   rw[Lo.Zp]at hi;split at hi
   .obtain⟨F,O,H,q4⟩:=m.own _ _ _ (h3 y hi);exact⟨F,λk _=>H k⟩
   .simp[Lo.get]at hi,λi j y y' D f h2=>by
   rw[Lo.Zp]at f h2;split at f
   .split at h2
    .omega
    simp[Lo.get]at h2
   simp[Lo.get]at f⟩
  rw[t p c f _ a w x m];obtain⟨J,K⟩:=m.sA (d:=d) (k:=some kk) (i0:=kk) (tk:=tk) I.kH (λi y hi=>by
   rw[Lo.Zp]at hi;split at hi
   .exact⟨kk,y.o,rfl,h3 y hi⟩
   simp[Lo.get]at hi) (λy n=>h2.zero n)
  exact⟨_,K,J,p,c,tk,rfl,h2,λy n=>by simp only[Gx.kn];rw[ą (um.2 ⟨y,n,rfl⟩),n];rfl⟩) k
end
section
variable {P:Program}{N:Nat}{Q:ï}{fr:Fr}{S:Ξ}{ops:Array Oper}{l:Ŀ Oper}
def rb(ops:Array Oper)(fr:Fr)(N j:Nat)(c:Bool)(a:Ŀ (ŀ Nat)):Bool:=
 match(ops[j]?).bind (·.dst)with
 |some d=>(match fr.get d with|some (.bool v)=>v == !c|_=>false)&&a.all λx=>match x with|some t=>Nat.blt t N&&!(Nat.beq t d)|none=>true
 |none=>false
theorem Zy0{j:Nat}{c:Bool}{f:Ŀ (ŀ Nat)}(h:rb ops fr N j c f=true):∃d,(ops[j]?).bind (·.dst)=some d/\fr.get d=some (.bool (!c))/\∀x∈f,Ω N x/\x≠some d:=by
 unfold rb at h;split at h
 .rename_i d g;rw[ĉ,Ć]at h;refine⟨d,g,?_,λx k=>?_⟩
  .have a:=h.1;split at a
   .rename_i v i;rw[i,aa9.1 a]
   cases a
  have h2:=h.2 x k;cases x with
  |none=>exact⟨trivial,ß⟩
  |some t=>
   rw[ĉ]at h2;refine⟨h2.1,λe=>?_⟩;cases e;have:=h2.2;simp at this
 cases h
theorem ZAh{d:Nat}{x:ŀ Nat}{v:Value}(h:x≠some d):(θ x v fr).get d=fr.get d:=by
 cases x with
 |none=>rfl
 |some t=>
  show(bif Nat.beq t d then some v else fr.get d)=_;have:Nat.beq t d=false:=by
   cases a:Nat.beq t d with
   |false=>rfl
   |true=>exact absurd (by rw[ĸ a]) h
  rw[this];rfl
theorem yw{j d:Nat}{c:Bool}{dst:ŀ Nat}{op:Op}{ty:TypeId}{pos:String}{af:Array Edge}(a:(ops[j]?).bind (·.dst)=some d)(h2:fr.get d=some (.bool (!c)))(e:Ω N dst)(k:WL P N ops Q l (θ dst undef fr) S):WL P N ops Q (⟨dst,op,ty,pos,af,some (j,c)⟩::l) fr S:=WL.skip (Zyq a h2) e k
theorem jd{j:Nat}{c:Bool}{x:ŀ Nat}{a:Ŀ (ŀ Nat)}{op:Op}{ty:TypeId}{pos:String}{af:Array Edge}(h:rb ops fr N j c (x::a)=true)(k:rb ops (θ x undef fr) N j c a=true->WL P N ops Q l (θ x undef fr) S):WL P N ops Q (⟨x,op,ty,pos,af,some (j,c)⟩::l) fr S:=by obtain⟨d,e,h2,h3⟩:=Zy0 h;have f:=h3 x ß;refine yw e h2 f.1 (k ?_);unfold rb at h⊢;rw[e]at h⊢;simp only[abo,ĉ]at h⊢;rw[ZAh f.2];exact⟨h.1,h.2.2⟩
variable {j:Nat}{c:Bool}{d0 d1 d2 d3 d4 d5 d6 d7 d8:ŀ Nat}{o0 o1 o2 o3 o4 o5 o6 o7 o8:Op}{t0 t1 t2 t3 t4 t5 t6 t7 t8:TypeId}{p0 p1 p2 p3 p4 p5 p6 p7 p8:String}{a0 a1 a2 a3 a4 a5 a6 a7 a8:Array Edge}
theorem yx(h:rb ops fr N j c [d0,d1]=true)(k:WL P N ops Q l (θ d1 undef (θ d0 undef fr)) S):WL P N ops Q (⟨d0,o0,t0,p0,a0,some (j,c)⟩::⟨d1,o1,t1,p1,a1,some (j,c)⟩::l) fr S:=jd h λh=>jd h λ_=>k
theorem fz(h:rb ops fr N j c [d0,d1,d2]=true)(k:WL P N ops Q l (θ d2 undef (θ d1 undef (θ d0 undef fr))) S):WL P N ops Q (⟨d0,o0,t0,p0,a0,some (j,c)⟩::⟨d1,o1,t1,p1,a1,some (j,c)⟩::⟨d2,o2,t2,p2,a2,some (j,c)⟩::l) fr S:=jd h λh=>yx h k
theorem nT(h:rb ops fr N j c [d0,d1,d2,d3]=true)(k:WL P N ops Q l (θ d3 undef (θ d2 undef (θ d1 undef (θ d0 undef fr)))) S):WL P N ops Q (⟨d0,o0,t0,p0,a0,some (j,c)⟩::⟨d1,o1,t1,p1,a1,some (j,c)⟩::⟨d2,o2,t2,p2,a2,some (j,c)⟩::⟨d3,o3,t3,p3,a3,some (j,c)⟩::l) fr S:=jd h λh=>fz h k
theorem ig(h:rb ops fr N j c [d0,d1,d2,d3,d4]=true)(k:WL P N ops Q l (θ d4 undef (θ d3 undef (θ d2 undef (θ d1 undef (θ d0 undef fr))))) S):WL P N ops Q (⟨d0,o0,t0,p0,a0,some (j,c)⟩::⟨d1,o1,t1,p1,a1,some (j,c)⟩::⟨d2,o2,t2,p2,a2,some (j,c)⟩::⟨d3,o3,t3,p3,a3,some (j,c)⟩::⟨d4,o4,t4,p4,a4,some (j,c)⟩::l) fr S:=jd h λh=>nT h k
theorem sn6(h:rb ops fr N j c [d0,d1,d2,d3,d4,d5]=true)(k:WL P N ops Q l (θ d5 undef (θ d4 undef (θ d3 undef (θ d2 undef (θ d1 undef (θ d0 undef fr)))))) S):WL P N ops Q (⟨d0,o0,t0,p0,a0,some (j,c)⟩::⟨d1,o1,t1,p1,a1,some (j,c)⟩::⟨d2,o2,t2,p2,a2,some (j,c)⟩::⟨d3,o3,t3,p3,a3,some (j,c)⟩::⟨d4,o4,t4,p4,a4,some (j,c)⟩::⟨d5,o5,t5,p5,a5,some (j,c)⟩::l) fr S:=jd h λh=>ig h k
theorem re(h:rb ops fr N j c [d0,d1,d2,d3,d4,d5,d6]=true)(k:WL P N ops Q l (θ d6 undef (θ d5 undef (θ d4 undef (θ d3 undef (θ d2 undef (θ d1 undef (θ d0 undef fr))))))) S):WL P N ops Q (⟨d0,o0,t0,p0,a0,some (j,c)⟩::⟨d1,o1,t1,p1,a1,some (j,c)⟩::⟨d2,o2,t2,p2,a2,some (j,c)⟩::⟨d3,o3,t3,p3,a3,some (j,c)⟩::⟨d4,o4,t4,p4,a4,some (j,c)⟩::⟨d5,o5,t5,p5,a5,some (j,c)⟩::⟨d6,o6,t6,p6,a6,some (j,c)⟩::l) fr S:=jd h λh=>sn6 h k
theorem sn8(h:rb ops fr N j c [d0,d1,d2,d3,d4,d5,d6,d7]=true)(k:WL P N ops Q l (θ d7 undef (θ d6 undef (θ d5 undef (θ d4 undef (θ d3 undef (θ d2 undef (θ d1 undef (θ d0 undef fr)))))))) S):WL P N ops Q (⟨d0,o0,t0,p0,a0,some (j,c)⟩::⟨d1,o1,t1,p1,a1,some (j,c)⟩::⟨d2,o2,t2,p2,a2,some (j,c)⟩::⟨d3,o3,t3,p3,a3,some (j,c)⟩::⟨d4,o4,t4,p4,a4,some (j,c)⟩::⟨d5,o5,t5,p5,a5,some (j,c)⟩::⟨d6,o6,t6,p6,a6,some (j,c)⟩::⟨d7,o7,t7,p7,a7,some (j,c)⟩::l) fr S:=jd h λh=>re h k
theorem XS(h:rb ops fr N j c [d0,d1,d2,d3,d4,d5,d6,d7,d8]=true)(k:WL P N ops Q l (θ d8 undef (θ d7 undef (θ d6 undef (θ d5 undef (θ d4 undef (θ d3 undef (θ d2 undef (θ d1 undef (θ d0 undef fr))))))))) S):WL P N ops Q (⟨d0,o0,t0,p0,a0,some (j,c)⟩::⟨d1,o1,t1,p1,a1,some (j,c)⟩::⟨d2,o2,t2,p2,a2,some (j,c)⟩::⟨d3,o3,t3,p3,a3,some (j,c)⟩::⟨d4,o4,t4,p4,a4,some (j,c)⟩::⟨d5,o5,t5,p5,a5,some (j,c)⟩::⟨d6,o6,t6,p6,a6,some (j,c)⟩::⟨d7,o7,t7,p7,a7,some (j,c)⟩::⟨d8,o8,t8,p8,a8,some (j,c)⟩::l) fr S:=jd h λh=>sn8 h k
end
section
variable {P:Program}{N:Nat}{Q:ï}{fr:Fr}{w0:Bs}{G0 G:Mem}{L:Lo}{ops:Array Oper}{l:Ŀ Oper}{ty:TypeId}{pos:String}{af:Array Edge}{g:ŀ (Nat×Bool)}{α:Type}{r:Rp α}{e:TypeId}
theorem WL.jN{t:TypeId}{x y:Operand}{p:ŀ Addr}{n cap sz off:Nat}{val:Value}{cs':Ŀ Value}{i:Int}{xs:Ŀ α}{z z':α}{tk:ŀ Ow}(key:Nat)(hg:ξ ops fr ⟨none,.store t x y,ty,pos,af,g⟩ true)(ht:(P.info? t).map (·.size)=some cs'.length)(C:sz=r.size)
  (T:off+cs'.length<=r.size) (h:Β r e G (.slice p n cap) xs tk) (s:L.get key=tk) (hx:fr.ev x=some (.pointer (some ⟨pb p,i.toNat*sz+off,none⟩))) (hy:fr.ev y=some val) (D:val.cells=cs'.toArray) (A:∀v∈cs',v.oneCell'=true)
  (B:∀cs,r.er G cs z->r.er G (cs.take off++cs'++cs.drop (off+cs'.length)) z') (hi:0<=i/\xs[i.toNat]?=some z)
  (k:∀E,Β r e G (.slice p n cap) (xs.set i.toNat z') E->WL P N ops Q l fr (St w0 G0 G ((key,E)::L))):WL P N ops Q (⟨none,.store t x y,ty,pos,af,g⟩::l) fr (St w0 G0 G L):=by
 cases tk with
 |none=>obtain⟨rfl,_⟩:=h;simp at hi
 |some q=>
  obtain⟨O,cs,rest,h1,h2,h3,F,h5,h6,h7⟩:=h
  cases h1
  obtain⟨qb,qo,qm⟩:=q
  dsimp only at h2 h3
  subst h2 h3
  obtain⟨u,K⟩:=ċ.1 hi.2
  have I:xs=xs.take i.toNat++(xs[i.toNat]::xs.drop (i.toNat+1)):=ß
  have m:=F.len
  rw[I]at F
  obtain⟨j,d1,Y,V,k2⟩:=F.split
  obtain⟨c,d2,Z,k3,k4⟩:=k2
  have X:=V.len
  have l2:=r.len k3
  have J:(xs.take i.toNat).length=i.toNat:=ab0
  rw[J]at X
  rw[K]at k3
  have W:=B c k3
  have l3:=r.len W
  have f:ÿ r G (j++((c.take off++cs'++c.drop (off+cs'.length))++d2)) (xs.set i.toNat z'):=by rw[Ŭ,ą u];exact V.append ⟨_,d2,rfl,W,k4⟩
  have d:((cs++rest).take (i.toNat*sz+off)++cs'++(cs++rest).drop (i.toNat*sz+off+cs'.length))=(j++((c.take off++cs'++c.drop (off+cs'.length))++d2))++rest:=by
   subst Y Z;rw[C,<-X,Ş];have a1:j++(c++d2)++rest=j++(c++(d2++rest)):=by simp only[ď]
   rw[a1,aaZ,aaf,u1 ŉ,aaP ŉ];simp only[ď]
  have qe:fr.ev x=some (.pointer (some ⟨qb,i.toNat*sz+off,none⟩)):=hx
  refine WL.H4 (S':=St w0 G0 G ((key,some ⟨qb,.cells ((j++((c.take off++cs'++c.drop (off+cs'.length))++d2))++rest).toArray e (0,0),0⟩)::L)) hg (λa w R U=>?_) (k _ ?_)
  .have S:=(U.loc key _ s).1
   have hr:=abi P qb (i.toNat*sz+off) e cs' 0 (cs++rest).toArray w S (by
    simp only[Į];rw[Ā,m];have:(i.toNat+1)*r.size<=xs.length*r.size:=ec _ u;rw[ō]at this;rw[C];omega) A
   simp only[dV]at hr
   rw[d]at hr
   refine⟨w.setRow qb ((j++((c.take off++cs'++c.drop (off+cs'.length))++d2))++rest).toArray,?_,U.rJ s ?_ (Ċ _) (λk _ H _=>absurd H (ĵ k)) (λk H=>?_) rfl rfl rfl rfl (by simp[World.setRow])⟩
   .simp[execOp,R.ev qe,R.ev hy,Instr.storeAt,Instr.sureAddr,storeVar,D,run_sizeOf ht,hr]
   .simp[World.setRow,ĩ,S]
   simp only[World.setRow,ĩ]
   rw[ā (λe=>H e.symm)]
  refine⟨cap,_,rest,ß,rfl,rfl,f,?_,h6,by simpa using h7⟩
  rw[Ā,f.len,ħ,<-h5,Ā,m]
theorem Rp.xG{α β:Type}{a:Rp α}{b:Rp β}{off:Nat}{cs':Ŀ Value}{x x':α}{y:β}(f:off+cs'.length<=a.size)(h:∀cs,a.er G cs x->a.er G (cs.take off++cs'++cs.drop (off+cs'.length)) x'):∀cs,(Rp.pair a b).er G cs (x,y)->(Rp.pair a b).er G (cs.take off++cs'++cs.drop (off+cs'.length)) (x',y):=by rintro cs ⟨c,d,rfl,e,h2⟩;have g:=a.len e;refine⟨_,d,?_,h c e,h2⟩;rw[u1 ŉ,aaP ŉ];simp only[ď]
theorem Rp.oP{α β:Type}{a:Rp α}{b:Rp β}{off:Nat}{cs':Ŀ Value}{x:α}{y y':β}(h:∀cs,b.er G cs y->b.er G (cs.take off++cs'++cs.drop (off+cs'.length)) y'):∀cs,(Rp.pair a b).er G cs (x,y)->(Rp.pair a b).er G (cs.take (a.size+off)++cs'++cs.drop (a.size+off+cs'.length)) (x,y'):=by rintro cs ⟨c,d,rfl,e,h2⟩;have f:=a.len e;refine⟨c,_,?_,e,h d h2⟩;rw[<-f,Ş,aaZ,aaf];simp only[ď]
theorem Rp.whole{a:Rp α}{cs':Ŀ Value}{x x':α}(h:a.er G cs' x'):∀cs,a.er G cs x->a.er G (cs.take 0++cs'++cs.drop (0+cs'.length)) x':=λcs c=>by have d:=a.len c;have e:=a.len h;rw[ř,ņ,List.drop_of_length_le ŉ,ķ,ę];exact h
theorem Rp.xL{α β:Type}{a:Rp α}{f:β->α}{off:Nat}{cs':Ŀ Value}{x x':β}(h:∀cs,a.er G cs (f x)->a.er G (cs.take off++cs'++cs.drop (off+cs'.length)) (f x')):∀cs,(Rp.via a f).er G cs x->(Rp.via a f).er G (cs.take off++cs'++cs.drop (off+cs'.length)) x':=h
end
section
variable {P:Program}{N:Nat}{Q:ï}{fr:Fr}{S:Ξ}{ops:Array Oper}{l:Ŀ Oper}{dst:ŀ Nat}{ty:TypeId}{pos:String}{af:Array Edge}{g:ŀ (Nat×Bool)}{w0:Bs}{G0 G:Mem}{L:Lo}
theorem YC.C9{f:FuncId}{x:Operand}{args:Array Operand}{c:Array TypeId}{vs:Ŀ Value}{d:Value}(i:Enters P f)(k:fr.ev x=some (.func (.func f) #[d] #[]))(j:fr.iy args.toList=some vs):
  YC P N ⟨dst,.call ⟨.value x,args,c⟩,ty,pos,af,g⟩ fr S f (d::vs).toArray:=λa w e _=>by
 have h:args.map a.eval=vs.toArray:=by apply ź;simpa using e.iy _ _ j
 simpa[execOp,resolve,h,e.ev k,Deferred.ofValue,invoke]using i (d::vs).toArray w
end
section
variable {P:Program}{kt:TypeId}{K V:Type} [DecidableEq K] {ky:Ky P kt K}{r:Rp V}
variable {N:Nat}{Q:ï}{fr:Fr}{S:Ξ}{ops:Array Oper}{l:Ŀ Oper}{dst:ŀ Nat}{ty:TypeId}{pos:String}{af:Array Edge}{g:ŀ (Nat×Bool)}{w0:Bs}{G0 G:Mem}{L:Lo}
variable {fs:Ŀ Bool}{Ι:Fr}{Ρ:jr}{d:Nat}{op:Op}
def qG(ky:Ky P kt K)(r:Rp V)(d:Nat)(D:Ŀ (K×V)):Value->Gx->Prop:=λv g=>∃b tk,v=.map (some b)/\Ù ky (pF r g.m) (.map (some b)) D tk/\∀y,tk=some y->g.x y.b=some (d,y.o)
omit [DecidableEq K] in
theorem qG.mono{v:Value}{D:Ŀ (K×V)}{g g':Gx}(a:Gx.qX d g g'):qG ky r d D v g->qG ky r d D v g':=λ⟨b,tk,c,h2,h3⟩=>⟨b,tk,c,h2.qf a.1,λy e=>a.2 _ _ (h3 y e)⟩
omit [DecidableEq K] in
theorem qG.drop{d':Nat}{v:Value}{D:Ŀ (K×V)}{g:Gx}{tk:ŀ Ow}(h:qG ky r d D v g)(a:Nat.beq d d'=false)(j:∀y,tk=some y->g.x y.b=some (d',y.o)):qG ky r d D v (g.drop tk):=
 h.mono (g':=g.drop tk) ⟨(λ_ _ _ h=>h:Mem.le g.m g.m),λb o c=>by
  have i:¬tk.any (λy=>Nat.beq y.b b)=true:=λf=>by obtain⟨y,e,h2⟩:=um.1 f;have:=j y e;rw[h2,c]at this;cases this;simp at a
  simp only[Gx.drop,ā i];exact c⟩
omit [DecidableEq K] in
omit [DecidableEq K] in
end
theorem eR.absurd{P:Program}{f:FuncId}{args:Array Value}{a:Lo}{pre:Mem->Prop}{post:Mem->Lo->Value->Prop}(h:∀G,pre G->False):eR P f args a pre post:=λ_ G _ hp=>(h G hp).elim
def DZ{α:Type}(W:Nat->Nat->α)(i n:Nat):Ŀ α:=(List.range n).map λk=>W i (k+1)
structure wV {α:Type}(r:Rp α) (e tk tq:TypeId) (W:Nat->Nat->α) (q:Ŀ α) (Nf:Nat->Nat) (G:Mem) (T:Lo) (kb qb:Nat):Prop where
 keys:∀p∈T,8000000<=p.1
 zero:T.zero
 known:∃cs:Ŀ Value,T.get 8000101=some ⟨kb,.cells cs.toArray tk (0,0),0⟩/\cs.length=8/\∀i,i<8->∃p c,cs[i]?=some (.slice p (Nf i) c)/\Β r e G (.slice p (Nf i) c) (DZ W i (Nf i)) (T.get (jE (i:Int)))
 box:∃cs u,T.get 8000103=some ⟨qb,.cells cs.toArray tq (0,0),0⟩/\É r 8 G cs u q
def wW{α:Type}(r:Rp α)(e tk tq:TypeId)(W:Nat->Nat->α)(q:Ŀ α)(G:Mem)(T:Lo)(kb qb:Nat):Prop:=∃Nf,wV r e tk tq W q Nf G T kb qb
theorem Bd(i:Nat):jE (i:Int)=8000000+2*i:=by simp[jE]
theorem Lo.Zyp{T L:Lo}(a:∀p∈T,8000000<=p.1){i:Nat}(hi:i<8000000):(T++L).get i=L.get i:=by
 induction T with
 |nil=>rfl
 |cons p T d=>
  have:=a p ß;obtain⟨j,x⟩:=p;rw[Ļ,Lo.Zp,ā (by simp only at this;omega)];exact d λq c=>a q (by simp[c])
theorem Lo.Zyn{T:Lo}(a:∀p∈T,8000000<=p.1)(i:Nat)(x:Ow)(h:T.get i=some x):8000000<=i:=by
 by_cases hi:i<8000000
 .have:=Lo.Zyp (L:=[]) a hi;rw[ę]at this;rw[this]at h;simp[Lo.get]at h
 omega
section
variable {α:Type}{r:Rp α}{e tk tq:TypeId}{W:Nat->Nat->α}{q:Ŀ α}{Nf:Nat->Nat}{G G':Mem}{T:Lo}{kb qb:Nat}
theorem wV.mono(h:wV r e tk tq W q Nf G T kb qb)(a:Mem.le G G'):wV r e tk tq W q Nf G' T kb qb:=
 ⟨h.keys,h.zero,by
  obtain⟨cs,d,h2,h3⟩:=h.known;exact⟨cs,d,h2,λi hi=>by obtain⟨p,c,f,g⟩:=h3 i hi;exact⟨p,c,f,g.mono a⟩⟩,by
  obtain⟨cs,u,d,h2⟩:=h.box;exact⟨cs,u,d,h2.mono a⟩⟩
theorem wW.mono(h:wW r e tk tq W q G T kb qb)(a:Mem.le G G'):wW r e tk tq W q G' T kb qb:=let ⟨Nf,h⟩:=h;⟨Nf,h.mono a⟩
theorem wW.keys(h:wW r e tk tq W q G T kb qb):∀p∈T,8000000<=p.1:=let ⟨_,h⟩:=h;h.keys
theorem wW.high(h:wW r e tk tq W q G T kb qb):∀i x,T.get i=some x->8000000<=i:=λi x=>Lo.Zyn h.keys i x
theorem wV.put(h:wV r e tk tq W q Nf G T kb qb){cs:Ŀ Value}(f:T.get 8000101=some ⟨kb,.cells cs.toArray tk (0,0),0⟩){j n:Nat}{p:ŀ Addr}{c:Nat}{t':ŀ Ow}(v:j<8)(d:Β r e G (.slice p n c) (DZ W j n) t'):
  wV r e tk tq W q (λi=>if i=j then n else Nf i) G ((8000101,some ⟨kb,.cells (cs.set j (.slice p n c)).toArray tk (0,0),0⟩)::(jE (j:Int),t')::T) kb qb:=by
 obtain⟨cs',s,h2,h3⟩:=h.known
 have t:cs'=cs:=by rw[s]at f;simpa using f
 subst t
 refine⟨λp hp=>?_,λp hp x g=>?_,⟨_,by rw[Lo.Zp,ą rfl],by rw[ħ,h2],λi hi=>?_⟩,?_⟩
 .rcases Ď.1 hp with rfl|hp
  .show 8000000<=8000101;omega
  rcases Ď.1 hp with rfl|hp
  .exact TF _
  exact h.keys p hp
 .rcases Ď.1 hp with rfl|hp
  .cases g;rfl
  rcases Ď.1 hp with rfl|hp
  .exact d.zero g
  exact h.zero p hp x g
 .by_cases a:i=j
  .subst a
   refine⟨p,c,?_,?_⟩
   .rw[aae,ą rfl,ą ŉ,ą rfl]
   rw[ą rfl,Lo.Zp,ā (by rw[Bd];omega),Lo.Zp,ą rfl]
   exact d
  obtain⟨p',c',k,l⟩:=h3 i hi
  refine⟨p',c',?_,?_⟩
  .rw[aae,ā (λe=>a e.symm),ā a];exact k
  rw[ā a,Lo.Zp,ā (by rw[Bd];omega),Lo.Zp,ā (by rw[Bd,Bd];omega)]
  exact l
 obtain⟨m,u,k,l⟩:=h.box
 refine⟨m,u,?_,l⟩
 rw[Lo.Zp,ā ĳ,Lo.Zp,ā (by rw[Bd];omega)]
 exact k
end
section
variable {P:Program}{N:Nat}{Q:ï}{fr:Fr}{ops:Array Oper}{l:Ŀ Oper}{dst:ŀ Nat}{ty:TypeId}{pos:String}{af:Array Edge}{g:ŀ (Nat×Bool)}{w0:Bs}{G0 G:Mem}{L:Lo}{α:Type}{r:Rp α}
theorem Sf{t e:TypeId}{n cap sz:Nat}{p:ŀ Addr}{xs:Ŀ α}(m:P.underlying t=some (.slice e))(j:(P.info? e).map (·.size)=some sz)(h:Δ r G (.slice p n cap) xs){k2 k3:IntKind}{hi:Int}(x:0<=(0:Int)/\(0:Int)<=hi/\hi<=(xs.length:Int))(w:World):
  ∃q,(Instr.slice t (.slice p n cap) none (some (.int k2 hi)) (some (.int k3 hi))).run P w=.ok (.slice q hi.toNat hi.toNat) w/\Δ r G (.slice q hi.toNat hi.toNat) ((xs.take hi.toNat).drop (0:Int).toNat):=by
 have y:n=xs.length:=by obtain⟨p',d,cs,f,_⟩:=h;cases f;rfl
 have l:n<=cap/\cap<=9223372036854775807:=by obtain⟨p',d,cs,f,h2,_⟩:=h;cases f;exact h2
 have g:∀a,p=some a->0<cap->a.spot=none:=by obtain⟨p',d,cs,f,_,h2,_⟩:=h;cases f;exact h2
 have i:(Instr.sliceBounds true n cap none (some (.int k2 hi)) (some (.int k3 hi))).run P w=.ok (0,hi.toNat,hi.toNat) w:=by have f:0<=hi/\hi<=(cap:Int):=ŉ;simp[Instr.sliceBounds,Instr.sliceBound,asIntOf,f];intro h;omega
 refine⟨if hi.toNat=0 then p else p.map (·.add (0*sz)),?_,?_⟩
 .simp[Instr.slice,ē m,i,run_sizeOf j]
 have key:=h.take (lo:=0) (hi:=hi.toNat) (q:=if hi.toNat=0 then p else p.map (·.add (0*sz))) (c:=hi.toNat) ŉ ŉ (by
  by_cases k:hi.toNat=0
  .right;rw[ą k];exact⟨ŉ,rfl,ŉ⟩
  left;rw[ā k];cases p with
  |none=>rfl
  |some a=>
   obtain⟨s,u,v⟩:=a;have:=g _ rfl ŉ;dsimp only at this;subst this;simp only[Ğ,oy,du]) ŉ
 exact key
theorem WL.slice3{t e:TypeId}{x d f:Operand}{k2 k3:IntKind}{n cap sz:Nat}{p:ŀ Addr}{xs:Ŀ α}{hi:Int}(A:ξ ops fr ⟨dst,.slice t x none (some d) (some f),ty,pos,af,g⟩ true)(y:Ω N dst)
  (m:P.underlying t=some (.slice e)) (i:(P.info? e).map (·.size)=some sz) (_:sz=r.size) (h:Δ r G (.slice p n cap) xs) (D:fr.ev x=some (.slice p n cap)) (h2:fr.ev d=some (.int k2 hi)) (h3:fr.ev f=some (.int k3 hi)) (u:0<=(0:Int)/\(0:Int)<=hi/\hi<=(xs.length:Int))
  (k:∀p',Δ r G (.slice p' ((xs.take hi.toNat).drop (0:Int).toNat).length ((xs.take hi.toNat).drop (0:Int).toNat).length) ((xs.take hi.toNat).drop (0:Int).toNat)->WL P N ops Q l (θ dst (.slice p' ((xs.take hi.toNat).drop (0:Int).toNat).length ((xs.take hi.toNat).drop (0:Int).toNat).length) fr) (St w0 G0 G L)) :
  WL P N ops Q (⟨dst,.slice t x none (some d) (some f),ty,pos,af,g⟩::l) fr (St w0 G0 G L):=by
 have B:((xs.take hi.toNat).drop (0:Int).toNat).length=hi.toNat:=ab0
 rw[B]at k
 refine WL.yr (Φ:=λv w=>(∃q,v=.slice q hi.toNat hi.toNat/\Δ r G (.slice q hi.toNat hi.toNat) ((xs.take hi.toNat).drop (0:Int).toNat))/\St w0 G0 G L w) A (λa w c C=>?_) y (λv a w c ⟨s,h2⟩=>?_)
 .obtain⟨q,hr,j⟩:=Sf (k2:=k2) (k3:=k3) m i h u w
  have:(execOp a.eval ⟨dst,.slice t x none (some d) (some f),ty,pos,af,g⟩).run P w=.ok (.value (.slice q hi.toNat hi.toNat)) w:=by simp only[execOp,c.ev D,c.ev h2,c.ev h3,ŗ,Ğ];simp[Instr.sliceAt,ē m,hr]
  rw[this]
  exact⟨⟨q,rfl,j⟩,C⟩
 obtain⟨q,rfl,j⟩:=s
 exact k q j a w c h2
end
section
variable {P:Program}{N:Nat}{Q:ï}{fr:Fr}{Bt:Ξ}{w0:Bs}{G0 G:Mem}{L:Lo}{ops:Array Oper}{l:Ŀ Oper}{Ι:Fr}{d:Nat}{α:Type}{r:Rp α}{e:TypeId}
theorem γ.yG{d0 d1 d2:Nat}{c d e:Value->Gx->Prop}(k:∀i j m (X:Gx),Mem.le G X.m->c i X->d j X->e m X->eY P N ops Bt (NX Q) l ((d0,i)::(d1,j)::(d2,m)::(Ι++fr)) (gr w0 G0 X L)):γ P N Q fr w0 G0 G L ops Bt [] l Ι [(d0,c),(d1,d),(d2,e)]:=λu g f h a w n p=>k (u d0) (u d1) (u d2) g f.1 h.1 h.2.1 h.2.2.1 a w n p
theorem eY.nf{X:Gx}{v:Value}{c:Obj}(h:Laid d c v X)
  (k:∀b,v=.pointer (some ⟨b,0,none⟩)->(∀y,some (⟨b,c,0⟩:Ow)=some y->X.x y.b=some (d,y.o))->eY P N ops Bt Q l fr (gr w0 G0 (X.drop (some ⟨b,c,0⟩)) ((d,some ⟨b,c,0⟩)::L))):eY P N ops Bt Q l fr (gr w0 G0 X L):=λa w g i=>by
 obtain⟨b,f,h2⟩:=h
 have h3:∀y,some (⟨b,c,0⟩:Ow)=some y->X.x y.b=some (d,y.o):=λy e=>by cases e;exact h2
 exact k b f h3 a w g (i.kM (λy e=>by cases e;rfl) h3)
theorem eY.DR{X:Gx}(k:eY P N ops Bt Q l fr (St w0 G0 X.m L)):eY P N ops Bt Q l fr (gr w0 G0 X L):=λa w c d=>k a w c d.st
end
section
variable {P:Program}{Q:ï}{md:Region.Mode}
def lG(o o':Oper):Prop:=o'.dst=o.dst/\o'.op=o.op/\o'.type=o.type/\o'.pos=o.pos/\o.guard=none/\o'.guard=none
theorem lG.wp{o o':Oper}(h:lG o o'){a:Act}{w:World}{K K':Act->World->Prop}(l:∀a w,K' a w->K a w)(k:o'.wp P a w K' Q):o.wp P a w K Q:=by obtain⟨d,op,ty,pos,af,g⟩:=o;obtain⟨d',m,n,j,nK,g'⟩:=o';obtain⟨c,h2,h3,e,f,i⟩:=h;simp only at c h2 h3 e f i;subst c h2 h3 e f i;exact Oper.Ui l k
theorem lG.asks{o o':Oper}(h:lG o o'){a:Act}{w:World}(k:o'.asks P a w):o.asks P a w:=by obtain⟨d,op,ty,pos,af,g⟩:=o;obtain⟨d',l,m,j,nK,g'⟩:=o';obtain⟨c,h2,h3,e,f,i⟩:=h;simp only at c h2 h3 e f i;subst c h2 h3 e f i;exact k
structure lH (md:Region.Mode) (l l':Array Oper) (σ τ:Nat->Nat):Prop where
 size:l'.size=l.size
 lt:∀i,i<l.size->σ i<l.size
 lt':∀j,j<l.size->τ j<l.size
 st:∀j,j<l.size->σ (τ j)=j
 inj:∀i k,i<l.size->k<l.size->σ i=σ k->i=k
 op:∀i o,l[i]?=some o->∃o',l'[σ i]?=some o'/\lG o o'/\(∀e∈o.after,Region.binds md e=true->e.on<l.size/\∃e'∈o'.after,Region.binds md e'=true/\e'.on=σ e.on)/\∀e'∈o'.after,Region.binds md e'=true->∃e∈o.after,Region.binds md e=true/\e'.on=σ e.on
theorem lH.any{l l':Array Oper}{σ τ:Nat->Nat}(h:lH md l l' σ τ):∀(fuel:Nat) (m m':Array Bool) (a:Act) (w:World),m.size=l.size->m'.size=l.size->(∀i,i<l.size->m'[σ i]?=m[i]?)->
  wpAny P md l' Q fuel m' a w->wpAny P md l Q fuel m a w:=by
 have Γ:∀(m m':Array Bool),m.size=l.size->m'.size=l.size->(∀i,i<l.size->m'[σ i]?=m[i]?)->∀i,i<l.size->(i∈Region.ready md l m↔σ i∈Region.ready md l' m'):=by
  intro m m' p nQ c i hi;rw[abq,abq];have E:∀k d,k<l.size->m'.getD (σ k) d=m.getD k d:=λk d r=>by rw[ž,ž,c k r]
  rw[E i true hi];constructor
  .rintro⟨D,o,g,h2⟩;obtain⟨o',lD,_,B,x⟩:=h.op i o g;refine⟨D,o',lD,λe' my oZ=>?_⟩;obtain⟨e,y,n,eq⟩:=x e' my oZ;rw[eq,E e.on false (B e y n).1];exact h2 e y n
  rintro⟨D,o',lD,h2⟩;obtain⟨o,g⟩:∃o,l[i]?=some o:=⟨_,Ō hi⟩;obtain⟨o2,u,_,B,x⟩:=h.op i o g;rw[lD]at u;cases u;refine⟨D,o,g,λe y n=>?_⟩;obtain⟨I,e',my,oZ,eq⟩:=B e y n;rw[<-E e.on false I,<-eq];exact h2 e' my oZ
 have inl:∀(m:Array Bool) i,i∈Region.ready md l m->i<l.size:=λm i hi=>by obtain⟨_,o,g,_⟩:=abq.1 hi;exact(ĕ.1 g).1
 have v:∀(m:Array Bool) i,i∈Region.ready md l' m->i<l.size:=λm i hi=>by obtain⟨_,o,g,_⟩:=abq.1 hi;have:=(ĕ.1 g).1;rw[h.size]at this;exact this
 have s:∀(m m':Array Bool),m.size=l.size->m'.size=l.size->(∀i,i<l.size->m'[σ i]?=m[i]?)->Region.ready md l m=[]->Region.ready md l' m'=[]:=by intro m m' p nQ c C;refine eG.2 λj F=>?_;have t:=v m' j F;have:=(Γ m m' p nQ c (τ j) (h.lt' j t)).2 (by rw[h.st j t];exact F);rw[C]at this;cases this
 intro fuel
 induction fuel with
 |zero=>
  intro m m' a w p nQ c k
  refine⟨?_,k.2⟩
  refine eG.2 λi hi=>?_
  have:=(Γ m m' p nQ c i (inl m i hi)).1 hi
  rw[k.1]at this
  cases this
 |succ fuel H=>
  intro m m' a w p nQ c k
  refine⟨λC=>k.1 (s m m' p nQ c C),λi hi=>?_⟩
  have f:=inl m i hi
  have r:=k.2 (σ i) ((Γ m m' p nQ c i f).1 hi)
  obtain⟨o,g⟩:∃o,l[i]?=some o:=⟨_,Ō f⟩
  obtain⟨o',lD,A,_⟩:=h.op i o g
  have next:∀a w,wpAny P md l' Q fuel (m'.setIfInBounds (σ i) true) a w->wpAny P md l Q fuel (m.setIfInBounds i true) a w:=λa w=>by
   refine H _ _ a w (by simpa using p) (by simpa using nQ) λq G=>?_;rw[ť,ť];by_cases e:i=q
   .subst e;rw[ą rfl,ą rfl,p,nQ,ą f,ą (h.lt i f)]
   rw[ā e,ā λx=>e (h.inj i q f G x)];exact c q G
  unfold wpOp at r⊢
  rw[lD]at r
  rw[g]
  simp only at r⊢
  have w1:Region.wanted o' (yielded l' a.tmps)=true:=by unfold Region.wanted;rw[A.2.2.2.2.2]
  have w2:Region.wanted o (yielded l a.tmps)=true:=by unfold Region.wanted;rw[A.2.2.2.2.1]
  rw[ą w1]at r
  rw[ą w2]
  exact r.imp (λq=>A.wp next q) λq=>⟨A.asks q.1,q.2⟩
end
section
variable {P:Program}{N:Nat}{Q:ï}{fr:Fr}{w0:Bs}{G0 G:Mem}{L:Lo}{l l0:Ŀ Oper}{σ τ:Nat->Nat}
theorem WC.pZ{id:Nat}{Bt:Ξ}(d:lH .any l0.toArray l.toArray σ τ)(c:Mem.le G0 G->∀(X:Gx) w,Gx.le (Gx.of G) X->gr w0 G0 X L w->Bt w)(fl:Ŀ Bool)(g:P.follows .mixedOrders=true)(f:jh N l fl=true)(h:Mem.le G0 G->γ P N Q fr w0 G0 G L l.toArray Bt fl l [] []):
  WC P N (.region id l0.toArray true) Q fr (St w0 G0 G L):=
 WC.sm (λa w k=>wp_region_any g (by
  have e:=d.size;rw[e]at k;refine d.any _ _ _ a _ ß ß (λi hi=>?_) k;have:=d.lt i hi;simp only[abm,e,ą hi,ą this])) c fl f h
theorem WC.nl{id:Nat}(i:lH .any l0.toArray l.toArray σ τ)(LF:Lo)(a:Lo.sub LF L)(fl:Ŀ Bool)(f:P.follows .mixedOrders=true)(d:jh N l fl=true)(h:Mem.le G0 G->γ P N Q fr w0 G0 G L l.toArray (St w0 G0 G LF) fl l [] []):
  WC P N (.region id l0.toArray true) Q fr (St w0 G0 G L):=WC.pZ i (λe _ _ c g=>(g.st.eI e c.1).weaken a) fl f d h
end
def qs(σ:Nat->Nat)(o:Oper):Oper:={ o with after:=o.after.map λe=>{ e with on:=σ e.on } }
def iw(p:Ŀ Nat)(l:Ŀ Oper):Ŀ Oper:=p.map λi=>qs (λj=>p.idxOf j) (l.getD i default)
def wu(p:Ŀ Nat)(l:Ŀ Oper):Bool:=decide (p.Nodup)&&Nat.beq p.length l.length&&(List.range l.length).all (λi=>p.contains i)&&p.all (λi=>Nat.blt i l.length)&&l.all λo=>o.guard.isNone&&o.after.toList.all λe=>!Region.binds .any e || Nat.blt e.on l.length
theorem FI{p:Ŀ Nat}{l:Ŀ Oper}(h:wu p l=true):lH .any l.toArray (iw p l).toArray (λi=>p.idxOf i) (λj=>p.getD j 0):=by
 simp only[wu,ĉ,Ě,Ć,Ľ,List.contains_iff_mem,aaI,Ķ,Ř]at h;obtain⟨⟨⟨⟨u,h2⟩,h3⟩,v⟩,y⟩:=h;have h2:p.length=l.length:=ĸ h2;have a:∀i,i<l.length->p.idxOf i<p.length:=λi hi=>List.idxOf_lt_length_iff.2 (h3 i hi);have c:∀i (hi:i<l.length),p[p.idxOf i]'(a i hi)=i:=λi hi=>List.getElem_idxOf (a i hi);refine⟨by simp[iw,h2],λi hi=>?_,λj g=>?_,λj g=>?_,λi k hi s e=>?_,λi o n=>?_⟩
 .have hi:i<l.length:=by simpa using hi
  show p.idxOf i<_;have:=a i hi;simp only[Į];omega
 .have g:j<l.length:=by simpa using g
  show p.getD j 0<_;rw[Ģ,Ą ŉ];simpa using v _ (Ă ŉ)
 .have g:j<l.length:=by simpa using g
  show p.idxOf (p.getD j 0)=j;rw[Ģ,Ą ŉ];exact u.idxOf_getElem j ŉ
 .have hi:i<l.length:=by simpa using hi
  have s:k<l.length:=by simpa using s
  have e:p.idxOf i=p.idxOf k:=e;rw[<-c i hi,<-c k s];simp only[e]
 have f:i<l.length:=by have:=(ĕ.1 n).1;simpa using this
 have n:l[i]?=some o:=by simpa using n
 have m:o∈l:=Ň n;obtain⟨t,A⟩:=y o m;have r:o.guard=none:=by cases r:o.guard with
  |none=>rfl
  |some x=>rw[r]at t;cases t
 refine⟨qs (λj=>p.idxOf j) o,?_,⟨rfl,rfl,rfl,rfl,r,r⟩,λe q d=>⟨?_,{ e with on:=p.idxOf e.on },?_,?_,rfl⟩,λe' my d=>?_⟩
 .show (iw p l).toArray[p.idxOf i]?=_;simp only[iw,Ġ,aaD];rw[Ą (a i f),c i f];simp only[Ğ,Ģ,n,Ś]
 .have:=A e (by simpa using q);rcases this with h|h
  .rw[h]at d;cases d
  simpa using h
 .simp only[qs,Array.mem_map];exact⟨e,q,rfl⟩
 .cases e;exact d
 simp only[qs,Array.mem_map]at my;obtain⟨e,q,rfl⟩:=my;exact⟨e,q,by cases e;exact d,rfl⟩
section
variable {P:Program}{N:Nat}{Q Q':ï}{md:Region.Mode}{ops:Array Oper}
theorem ZxR{n r i:Nat}{K K':Act->World->Prop}{a:Act}{w:World}(g:¬LetsOut Q)(j:∀(i:Nat) (o:Oper),ops[i]?=some o->∀c,o.op≠.defer c)(d:∀a w,K a w->K' a w)(h:wpOp P ops Q i K a w):wpOpIn (Fence.wide.inRound r) n P ops Q i K' a w:=by
 unfold wpOp at h;unfold wpOpIn;cases e:ops[i]? with
 |none=>rw[e]at h;exact d _ _ h
 |some o=>
  rw[e]at h;dsimp only at h⊢;split at h
  .rename_i f;rw[ą f];rcases h with h|h
   .exact UY (j i o e) d h
   exact absurd h.2 g
  rename_i f;rw[ā f];exact⟨λ_ _=>trivial,d _ _ h⟩
theorem KR{n r:Nat}(d:¬LetsOut Q)(e:∀(i:Nat) (o:Oper),ops[i]?=some o->∀c,o.op≠.defer c):∀(fuel:Nat) (m:Array Bool) (a:Act) (w:World),wpAny P md ops Q fuel m a w->wpAnyIn (Fence.wide.inRound r) n P md ops Q fuel m a w
 |0,_,_,_,h=>h
 |fuel+1,_,_,_,h=>⟨h.1,λi hi=>ZxR d e (λa w=>KR d e fuel _ a w) (h.2 i hi)⟩
def plus(a:Act)(D:Ŀ Deferred):Act:={ a with defers:=a.defers++D }
theorem zg(a:Act)(D:Ŀ Deferred)(d:ŀ Nat)(v:Value):(plus a D).put d v=plus (a.put d v) D:=by cases d<;>rfl
variable {D:Ŀ Deferred}
theorem UE{o:Oper}{a:Act}{w:World}{K K':Act->World->Prop}(g:∀a w,K a w->K' (plus a D) w)(j:∀e a w,Q e a w->Q' e (plus a D) w)(h:o.wp P a w K Q):o.wp P (plus a D) w K' Q':=by
 have l:(plus a D).eval=a.eval:=rfl;unfold Oper.wp at *;rw[l];generalize (execOp a.eval o).run P w=r at *;cases r with
 |ok nx w'=>
  cases nx<;>simp only[Oper.upon]at h⊢
  case value v=>rw[zg];exact g _ _ h
  case skip=>rw[zg];exact g _ _ h
  case defer d=>
   have m:({ plus a D with defers:=d::(plus a D).defers }:Act).put o.dst undef=plus (({ a with defers:=d::a.defers }:Act).put o.dst undef) D:=by cases o.dst<;>rfl
   rw[m];exact g _ _ h
  case enter f args=>
   refine aa1 h λe k i=>?_
   cases e with
   |returned v=>show K' ((plus a D).put o.dst v) k;rw[zg];exact g _ _ i
   |panicked c=>exact j _ _ _ i
   |outgrown=>obtain⟨a',w',i⟩:=i;exact⟨_,_,j _ _ _ i⟩
  case row row args=>exact λc cs=>let ⟨v,w',r,s⟩:=h c cs;⟨v,w',by show K' ((plus a D).put o.dst v) w';rw[zg];exact g _ _ r,s⟩
 |halt x w'=>cases x<;>first|exact h.elim|exact j _ _ _ h
theorem QT(c:∀e a w,Q e a w->Q' e (plus a D) w):LetsOut Q->LetsOut Q':=λ⟨a,w,h⟩=>⟨_,_,c _ a w h⟩
theorem ZxS{i:Nat}{a:Act}{w:World}{K K':Act->World->Prop}(c:∀a w,K a w->K' (plus a D) w)(f:∀e a w,Q e a w->Q' e (plus a D) w)(h:wpOp P ops Q i K a w):wpOp P ops Q' i K' (plus a D) w:=by
 unfold wpOp at *;cases e:ops[i]? with
 |none=>rw[e]at h;exact c _ _ h
 |some o=>
  rw[e]at h;have g:(plus a D).tmps=a.tmps:=rfl;dsimp only at h⊢;rw[g];split at h
  .rename_i d;rw[ą d];exact h.imp (UE c f) (λ⟨j,h2⟩=>⟨j,QT f h2⟩)
  rename_i d;rw[ā d,zg];exact c _ _ h
theorem Sk(c:∀e a w,Q e a w->Q' e (plus a D) w):∀(fuel:Nat) (m:Array Bool) (a:Act) (w:World),wpAny P md ops Q fuel m a w->wpAny P md ops Q' fuel m (plus a D) w
 |0,_,a,w,h=>⟨h.1,c _ a w h.2⟩
 |fuel+1,_,a,w,h=>⟨λe=>c _ a w (h.1 e),λi hi=>ZxS (λa w=>Sk c fuel _ a w) c (h.2 i hi)⟩
theorem KM(c:∀e a w,Q e a w->Q' e (plus a D) w):∀{l:Ŀ Oper}{a:Act}{w:World},wpList P ops Q l a w->wpList P ops Q' l (plus a D) w
 |[],a,w,h=>c _ a w h
 |o::l,a,w,h=>by
  unfold wpList at h⊢;have f:(plus a D).tmps=a.tmps:=rfl;rw[f];split at h
  .rename_i d;rw[ą d];exact h.imp (UE (λa w h=>KM c h) c) (λ⟨g,h2⟩=>⟨g,QT c h2⟩)
  rename_i d;rw[ā d,zg];exact KM c h
def PQ(D:Ŀ Deferred)(Q:ï):ï:=λe a w=>Q e (plus a D) w
def mO(P:Program)(N:Nat)(D:Ŀ Deferred)(c:Code)(Q:ï)(fr:Fr)(S:Ξ):Prop:=∀a w,Rel N fr a->S w->c.wp P Q (plus a D) w
variable {fr:Fr}{S:Ξ}
theorem mO.seq{x y:Code}(h:mO P N D x (Exit.then (y.wp P Q) Q) fr S):mO P N D (.seq x y) Q fr S:=λa w c d=>wp_seq (h a w c d)
theorem mO.then{c:Code}(h:mO P N D c Q fr S):WE N (PQ D (Exit.then (c.wp P Q) Q)) .normal fr S:=h
theorem mO.region{id:Nat}{l:Ŀ Oper}(h:WL P N l.toArray (PQ D Q) l fr S):mO P N D (.region id l.toArray false) Q fr S:=λa w c d=>wp_region_lit (KM (λ_ _ _ h=>h) (h a w c d))
theorem mO.ret(h:WE N (PQ D Q) .ret fr S):mO P N D .ret Q fr S:=λa w c d=>wp_ret (h a w c d)
end
section
variable {P:Program}{N:Nat}{Q:ï}{fr:Fr}{w0:Bs}{G0 G:Mem}{L:Lo}{l l0:Ŀ Oper}{σ τ:Nat->Nat}{D:Ŀ Deferred}{r id:Nat}
theorem mO.jA(LF:Lo)(c:Lo.sub LF L)(fl:Ŀ Bool)(j:P.follows .mixedOrders=true)(f:jh N l fl=true)(h:Mem.le G0 G->γ P N (PQ D Q) fr w0 G0 G L l.toArray (St w0 G0 G LF) fl l [] []):
  mO P N D (.region id l.toArray true) Q fr (St w0 G0 G L):=λa w g e=>
 nm (Q:=PQ D Q) (R:=λa w=>(Code.region id l.toArray true).wp P Q (plus a D) w) (λa _ k=>wp_region_any j (Sk (λ_ _ _ h=>h) _ _ a _ k)) (λi _ _ d e=>(e.st.eI i d.1).weaken c) fl f h a w g e
theorem qh{l:Ŀ Oper}(d:l.all (λo=>match o.op with|.defer _=>false|_=>true)=true):∀(i:Nat) (o:Oper),l.toArray[i]?=some o->∀c,o.op≠.defer c:=λi o a c e=>by rw[Ġ]at a;have:=Ć.1 d o (Ň a);rw[e]at this;cases this
theorem gp.drawn(d:¬LetsOut Q)(e:l.all (λo=>match o.op with|.defer _=>false|_=>true)=true)(fl:Ŀ Bool)(f:P.follows .mixedOrders=true)(c:jh N l fl=true)(h:Mem.le G0 G->γ P N Q fr w0 G0 G L l.toArray (λ_=>True) fl l [] []):
  gp P N r (.region id l.toArray true) Q fr (St w0 G0 G L):=
 nm (λa _ k=>wpIn_region_any f (KR d (qh e) _ _ a _ k)) (λ_ _ _ _ _=>trivial) fl c h
theorem gp.jA(f:¬LetsOut Q)(i:l.all (λo=>match o.op with|.defer _=>false|_=>true)=true)(LF:Lo)(c:Lo.sub LF L)(fl:Ŀ Bool)(j:P.follows .mixedOrders=true)(e:jh N l fl=true)(h:Mem.le G0 G->γ P N Q fr w0 G0 G L l.toArray (St w0 G0 G LF) fl l [] []):
  gp P N r (.region id l.toArray true) Q fr (St w0 G0 G L):=
 nm (λa _ k=>wpIn_region_any j (KR f (qh i) _ _ a _ k)) (λg _ _ d m=>(m.st.eI g d.1).weaken c) fl e h
end
def rN(P:Program)(f:FuncId)(e:Array Value)(len:Nat)(E:Nat->Value->Mem->Prop)(c:Mem->Prop):Prop:=
 ∀{σ:Type}(l:Nat) (I:Nat->σ->Prop) (a:σ->Lo) (pre:σ->Mem->Prop),(∀s i,9000<=i->(a s).get i=none)->(∀G G' s,Mem.le G G'->pre s G->pre s G')->
  (∀(j:Nat) (u:Value) (s:σ),j<len->I j s->qI P l u (a s) (λG=>pre s G/\E j u G) (λG L b=>b=true/\∃s',I (j+1) s'/\L=a s'/\pre s' G))->
  ∀d,I 0 d->(a d).zero->eR P f (#[.func (.yield l) #[] #[]]++e) (a d) (λG=>c G/\pre d G) (λG L u=>u=.tuple #[]/\∃s',I len s'/\L=a s'/\pre s' G)
section
variable {P:Program}{N:Nat}{Q:ï}{fr:Fr}{S:Ξ}{ops:Array Oper}{l:Ŀ Oper}{dst:ŀ Nat}{ty:TypeId}{pos:String}{af:Array Edge}{g:ŀ (Nat×Bool)}
variable {w0:Bs}{G0 G:Mem}{L:Lo}
theorem ma.vS{x y:Operand}{p:Array TypeId}{loop:Nat}{u:Value}{R d:Lo}{pre:Mem->Prop}{post:Mem->Lo->Bool->Prop}(E:ξ ops fr ⟨dst,.call ⟨.value x,#[y],p⟩,ty,pos,af,g⟩ true)(D:Ω N dst)
  (I:fr.ev x=some (.func (.yield loop) #[] #[])) (J:fr.ev y=some u) (B:qI P loop u d pre post) (hp:pre G) (H:w0.L.zero) (n:∀i,i∈R.map (·.1)->d.get i=none)
  (k:∀b G' L',Mem.le G G'->post G' L' b->ma P N ops Q l (θ dst (.bool b) fr) (St w0 G0 G' (R++L'))) :
  ma P N ops Q (⟨dst,.call ⟨.value x,#[y],p⟩,ty,pos,af,g⟩::l) fr (St w0 G0 G (R++d)):=by
 have m:Lo.sub d (R++d):=λi z c=>by rw[Lo.ZwZ (λhi=>by rw[n i hi]at c;cases c)];exact c
 refine ma.yield (Φ:=λv w=>∃b G' L',v=.bool b/\Mem.le G G'/\post G' L' b/\St w0 G0 G' (R++L') w) E D I J (λw f=>?_) (λv a w C f=>?_)
 .obtain⟨fn,O,h,q,K,L⟩:=B w G (f.hp m) hp
  refine⟨fn,O,h,q,K,L.mono λe w' ⟨b,G',L',r,j,s⟩=>⟨.bool b,r,b,G',L',rfl,j.le,s,?_⟩⟩
  refine f.ext (R:=R) j m (λi z c=>Lo.Zyo c) (λi z c=>n i (Lo.UL c)) (λi z z' hi S t F=>?_) (λi z c=>(Lo.get_append _ _ i z c).symm)
  rw[Lo.Bu H F]
  exact Ĝ _
 obtain⟨b,G',L',rfl,h2,h3,A⟩:=f
 exact k b G' L' h2 h3 a w C A
end
section
variable {P:Program}{N:Nat}{Q:ï}{fr:Fr}{fn:Func}{w0:Bs}{G0 G:Mem}{L:Lo}
theorem WE.Dq{rvs:Ŀ ResultVar}{d:Nat}{post:Mem->Lo->Value->Prop}(e:Lo)(vs:Ŀ Value)(hr:fn.results=rvs.toArray)(r:rvs.length=vs.length)(m:L.get 8002=some ⟨d,.deferred (some []),0⟩)
  (h:∀(i:Nat) (rv:ResultVar) (v:Value),rvs[i]?=some rv->vs[i]?=some v->RV P fr ((8002,some ⟨d,.deferred none,0⟩)::L) rv v) (h3:Lo.sub e ((8002,some ⟨d,.deferred none,0⟩)::L)) (hp:post G e (if h:vs.toArray.size=1 then vs.toArray[0]else .tuple vs.toArray)) :
  WE N (PQ [{ target:=.collected d,args:=#[] }] (bodyPostM Fence.wide 0 P fn (jS w0 G0 post))) .ret fr (St w0 G0 G L):=by
 intro a w j n
 show LeavesInM Fence.wide 0 P fn a.tmps (jS w0 G0 post) (a.defers++[{ target:=.collected d,args:=#[] }]) .returning w
 rw[j.defers]
 have l:=(n.loc 8002 _ m).1
 have f:=(ĕ.1 l).1
 have c:=n.rJ (i:=8002) (m':=0) (w':=World.putObj _ d (.deferred none)) m (World.putObj_heap_same f) (Ċ _) (λk _ g=>absurd g (ĵ k)) (λk g=>World.putObj_heap_other g) rfl rfl rfl rfl ß
 refine⟨ß,.inl ⟨_,_,rfl,run_takeDeferred l,⟨_,KI hr r (λi rv v p q=>(h i rv v p q).run j c),?_⟩⟩⟩
 exact⟨_,G,e,rfl,(⟨c.os,c.tape,c.output,c.drawn,c.size,c.block,c.base,c.jj,c.fresh,c.loc,c.Ú⟩:Ext w0.w G0 w0.L _ G _).weaken h3,hp⟩
theorem WC.oo{p:Operand}{t T f:Nat}{assign body K:Code}{D:Array Value}(s:fr.ev p=some (.func (.func f) #[] D))(c:Enters P f)
  (h:∀(a:Act) (d E:Nat) (r:Loop),Rel N fr a->r.state=.ready->r.pending=none->r.tmps=a.tmps->r.params = #[t]->r.assign=assign->r.body=body->∃(pre:Mem->Prop) (B:Lo) (post:Mem->Lo->Value->Prop),
   Lo.sub B ((8001,some ⟨E,.loop r,0⟩)::(8002,some ⟨d,.deferred (some []),0⟩)::L)/\
   (∀i,i∈B.map (·.1)->w0.L.get i=none)/\eR P f (#[.func (.yield E) #[] #[]]++D) B pre post/\pre G/\
   ∀G' L' v,Mem.le G G'->post G' L' v->L'.get 8001=some ⟨E,.loop r,0⟩/\mO P N [{ target:=.collected d,args:=#[] }] K Q fr (St w0 G0 G' ((8001,some ⟨E,.loop { r with state:=.exhausted },0⟩)::L'))) :
  WC P N (.block T (.rangeFunc p #[t] assign body)) (Exit.then (K.wp P Q) Q) fr (St w0 G0 G L):=by
 refine WC.block ?_
 intro a w C hs
 refine(wpIn_wide (n:=0)).1 (wpIn_rangeFunc ?_)
 intro m _
 let r:Loop:={ state:=.ready,pending:=none,fn:=m,tmps:=a.tmps,params:=#[t],assign:=assign,body:=body,defers:=w.heap.size }
 obtain⟨pre,B,post,j,H,q,u,Z⟩:=h a w.heap.size (w.heap.size+1) r C rfl rfl rfl rfl rfl rfl
 have l:St w0 G0 G _ ((w.alloc (.deferred (some []))).alloc (.loop r)):=(hs.push 8002 (.deferred (some []))).push 8001 (.loop r)
 have F:(w.alloc (.deferred (some []))).heap.size=w.heap.size+1:=ß
 rw[F]at l
 refine⟨w.heap.size+1,[{ target:=.collected w.heap.size,args:=#[] }],((w.alloc (.deferred (some []))).alloc (.loop r)),{ target:=.fn (.func f) D,args:=#[.func (.yield (w.heap.size+1)) #[] #[]] },((w.alloc (.deferred (some []))).alloc (.loop r)),f,#[.func (.yield (w.heap.size+1)) #[] #[]]++D,((w.alloc (.deferred (some []))).alloc (.loop r)),run_enterLoop_outer _ _ _ _ _,?_,λ_ _=>trivial,?_,λh=>by simp[Fence.wide]at h,?_⟩
 .have U:=C.ev s
  have V:a.eval (.const (.func (.yield (w.heap.size+1)) #[] #[]))=.func (.yield (w.heap.size+1)) #[] #[]:=rfl
  simp[resolve,Deferred.ofValue,U,V]
 .simpa [invoke]using c _ _
 refine(callsIn_wide (n:=0)).2 ?_
 refine(q _ G (l.hp j) u).mono λe w2 ⟨v,G',L',Y,g,k⟩=>?_
 subst Y
 obtain⟨tP,hw⟩:=Z G' L' v g.le k
 have A:St w0 G0 G' L' w2:=l.ext (R:=[]) g j (Lo.Zq _) (λi x J=>by simp[Lo.get]at J) (λi x y hi _ z S=>by rw[H i (Lo.UL hi)]at S;cases S) (λi x J=>.inl J)
 have X:=(A.loc 8001 _ tP).1
 refine⟨r.pending,_,run_endLoop X (by show LoopState.ready≠_;simp),?_⟩
 have I:=A.lF (r':={ r with state:=.exhausted }) tP
 have O:=hw a _ C I
 have W:plus a [({ target:=.collected w.heap.size,args:=#[] }:Deferred)] = { a with defers:=[({ target:=.collected w.heap.size,args:=#[] }:Deferred)]++a.defers }:=by unfold plus;rw[C.defers];rfl
 rw[W]at O
 exact O
theorem eR.sw{f:FuncId}{c:Code}{args:Ŀ Value}{a:Lo}{pre:Mem->Prop}{post:Mem->Lo->Value->Prop}(i:P.funcs[f]?=some fn)(g:fn.body=some c)(k:fn.ntmps=N)(e:Nat.ble args.length N=true)
  (h:∀w0 G0,w0.L=a->pre G0->WC P N c (bodyPostM Fence.wide 0 P fn (jS w0 G0 post)) (kz args 0) (St w0 G0 G0 a)):eR P f args.toArray a pre post:=by
 intro w G hi hp
 refine(callsIn_wide (n:=0)).1 (callsIn_of_wp_marks i g trivial ((wpIn_wide (n:=0)).2 ?_))
 refine h ⟨w,a⟩ G rfl hp _ w ⟨rfl,?_,λt v j=>?_⟩ hi.st
 .have:=Ĩ e
  simp only[aaA,Į,Array.size_replicate]
  omega
 obtain⟨_,h2⟩:=Li args 0 t v j
 simp only[aaB]at h2
 have d:=(ċ.1 h2).1
 rw[ň (by simpa using d)]
 simpa using h2
theorem gp.cond{r:Nat}{c:Operand}{x y:Code}{b:Bool}{S:Ξ}(e:fr.ev c=some (.bool b))(h:b=true->gp P N r x Q fr S)(g:b=false->gp P N r y Q fr S):gp P N r (.cond c x y) Q fr S:=λa w d f=>by
 cases b with
 |true=>exact wpIn_cond_true (by rw[d.ev e]) (h rfl a w d f)
 |false=>exact wpIn_cond_false (by rw[d.ev e]) (g rfl a w d f)
theorem GK{l:Nat}{c a:Code}{S:Ξ}(e:c=a)(h:gp P N l a Q fr S):gp P N l c Q fr S:=by rw[e];exact h
end
section
variable {α:Type}{r:Rp α}{G:Mem}
def eX.kR(a:eX r G):Value:=a.1.1.headD Value.nilFunc
theorem eX.ZzD{a:eX r G}(h:(eX.enc a).length=1):eX.enc a=[eX.kR a]:=by
 obtain⟨⟨cs,x⟩,c⟩:=a;change cs.length=1 at h;change cs=[cs.headD Value.nilFunc];match cs,h with
 |[u],_=>rfl
end
variable {P:Program}{ρ:Go.Shelf.Ren}
set_option maxHeartbeats 1000000 in
theorem OE{α:Type}{r:Rp α}(an:r.size=1){O:α->α->Int}(X:Go.Sort.SWO (Go.Proofs.ltOf O))(S:Go.Proofs.SlLaysF.n14 P ρ){f g:Nat}(hf:ρ.f 14=f)
  (hg:∀(x y:α) (u v:Value),iC P g #[u,v] (λG=>r.er G [u] x/\r.er G [v] y) (λ_ v=>v=.int .i64 (O x y))) (eg:∀args w,(callFunc g args).run P w=.ok (.enter g args) w)
  (e:TypeId) (p:ŀ Addr) (n c:Nat) (l:Ŀ α) (tk:ŀ Ow) (D:Nat) (ae:D<4611686018427387904) (ap:l.length<=1000000000) :
  eR P f #[.slice p n c,.int .i64 0,.int .i64 (l.length:Int),.int .i64 (D:Int),.func (.func g) #[] #[]] [(5000,tk)] (λG=>Β r e G (.slice p n c) l tk)
   (λG L v=>∃ys aj,L=[(5000,aj)]/\v=.tuple #[]/\Β r e G (.slice p n c) ys aj/\ys.Perm l/\ys.Pairwise (λa b=>Go.Proofs.ltOf O b a=false)):=by
 subst hf
 intro w G hi q
 by_cases I:l=[]
 .subst I
  obtain⟨p',c',N⟩:=q.form
  cases N
  refine(aap { S with } p c (D:Int) _ w).mono ?_
  rintro en w' ⟨rfl,rfl⟩
  exact⟨_,G,[(5000,tk)],rfl,hi.st.kH,[],tk,rfl,rfl,q,eH _,List.Pairwise.nil⟩
 cases tk with
 |none=>exact absurd q.1 I
 |some y=>
  obtain⟨cap,cs,rest,Y,h2,h3,h4,h5,h6,h7⟩:=q
  obtain⟨b,o,m⟩:=y
  dsimp only at Y h2 h3
  subst h2 h3
  cases Y
  obtain⟨d,ak,hd⟩:=ÿ.elts h4
  subst ak
  have ab:d.length=l.length:=by rw[<-hd,ć]
  haveI:Inhabited (eX r G):=⟨d[0]'(by have:=š.2 I;omega)⟩
  have hl:∀x:eX r G,(eX.enc x).length=1:=λx=>by rw[<-an];exact r.len x.2
  have T:∀x:eX r G,eX.enc x=[eX.kR x]:=λx=>eX.ZzD (hl x)
  have F:∀d:Ŀ (eX r G),d.flatMap eX.enc=d.map eX.kR:=λd=>by
   induction d with
   |nil=>rfl
   |cons a d ih=>rw[ś,T,ih];rfl
  have ah:∀x:eX r G,∀v∈eX.enc x,v.oneCell'=true:=λx=>r.one x.2
  let cf:eX r G->eX r G->Int:=λx y=>O x.1.2 y.1.2
  have hO:Go.Sort.SWO (Go.Proofs.ltOf cf):=⟨λx=>X.irrefl x.1.2,λx y z=>X.trans x.1.2 y.1.2 z.1.2,λx y z=>X.ntrans x.1.2 y.1.2 z.1.2⟩
  have H:Lo.get [(5000,some ⟨b,Obj.cells (d.flatMap eX.enc++rest).toArray e (0,0),0⟩)] 5000=some ⟨b,.cells (d.flatMap eX.enc++rest).toArray e (0,0),0⟩:=by simp[Lo.get]
  obtain⟨hb,Q⟩:=hi.loc 5000 _ H
  dsimp only at hb Q
  have aa:b<w.heap.size:=(ĕ.1 hb).1
  have ad:∀(m:Nat) (os:Array Obj) (dk:Array (eX r G)),rM G (Go.Proofs.sortWorld eX.kR w b 0 m dk os):=by
   intro m os dk b' o' v N;have s:b'≠b:=λe=>by subst e;rw[Q o' (Ĝ _)]at N;cases N
   have R:=hi.jj b' o' v N;have am:b'<w.heap.size:=rM.lt hi.jj N;have hh:(Go.Proofs.sortWorld eX.kR w b 0 m dk os).heap[b']?=w.heap[b']?:=by simp only[Go.Proofs.sortWorld,Go.Sort.grow,Go.Sort.putRow,Go.Sort.mapBlock,Go.Sort.ahead];rw[ň (by simpa using am),ĩ,ā (λe=>s e.symm)]
   unfold World.cell? at R⊢;dsimp only at R⊢;rw[hh];exact R
  have R:Go.Proofs.CmpLays1 P g #[] eX.kR cf b 0 d.toArray.size w:=by intro m os dk _ x y;refine(hg x.1.2 y.1.2 (eX.kR x) (eX.kR y) _ G ⟨ad m os dk,λi x t=>by simp[Lo.get]at t,λi j x y _ t=>by simp[Lo.get]at t⟩ ⟨by rw[<-T];exact x.2,by rw[<-T];exact y.2⟩).mono ?_;rintro en w' ⟨r',G',L',he,t,rfl⟩;exact⟨he,RQ t.os t.tape t.output t.drawn t.size λk E=>t.block k E (λ_ _ h=>by simp[Lo.get]at h)⟩
  have hH:Go.Sort.Holds eX.kR w b 0 d.toArray:=by
   intro j Z;simp only[Į]at Z;have Y:(d.flatMap eX.enc)[j]?=some (eX.kR d[j]):=by rw[F,aaD,Ą Z];rfl
   constructor
   .simp only[World.cell?,hb,ņ,Option.isSome_none,Ŝ,aaN,Ġ];rw[Ė (by rw[F,ć];exact Z),Y];rw[ų _ _ (by simpa using Z)];simp
   simp[World.frozen?,hb]
  have W:Go.Proofs.OneCell (eX.kR (r:=r) (G:=G)):=λx=>ah x _ (by rw[T];simp)
  have hS:=Go.Proofs.Any.pdqsortCmpFunc_all S eX.kR cf g #[] hO b 0 c d.toArray w eg R ⟨W,hH,aa⟩ (d.toArray.size+1) 0 d.toArray.size D d.toArray w ŉ rfl (Go.Proofs.SW.start hH) (Ĝ _) (Ċ _) ab0 ae (Or.inl rfl)
  have C:=Go.Sort.pdq_sorts (Go.Proofs.ltOf cf) hO d.toArray 0 d.toArray.size D true true (Ĝ _) (Ċ _) (Or.inl rfl)
  generalize Go.Sort.pdq (Go.Proofs.ltOf cf) d.toArray 0 d.toArray.size D true true=d' at hS C
  obtain⟨⟨ai,_,J⟩,K⟩:=C
  have B:d'.toList.Perm d:=by
   have e1:(d'.extract 0 d.toArray.size).toList=d'.toList:=by rw[<-ai,Array.extract_size]
   have e2:(d.toArray.extract 0 d.toArray.size).toList=d:=ß;rw[e1,e2]at J;exact J
  rw[show(d.toArray.size:Nat)=l.length by simpa using ab]at hS
  refine aa1 (by simpa using hS) ?_
  rintro en w' ⟨rfl,n,os,hw⟩
  have V:d'.toList.length=d.length:=B.length_eq
  have lx:w'=Go.Sort.grow (Go.Sort.putRow eX.kR (Go.Sort.ahead w n) b 0 d') os:=hw
  have A:∀k,k<w.heap.size->k≠b->w'.heap[k]?=w.heap[k]?:=by intro k E s;rw[lx];simp only[Go.Sort.grow,Go.Sort.putRow,Go.Sort.mapBlock,Go.Sort.ahead];rw[ň (by simpa using E),ĩ,ā (λe=>s e.symm)]
  have ac:(d'.toList.flatMap eX.enc).length=(d.flatMap eX.enc).length:=by rw[AK hl,AK hl,V]
  have q:w'.heap[b]?=some (.cells (d'.toList.flatMap eX.enc++rest).toArray e (0,0)):=by
   rw[lx];simp only[Go.Sort.grow,Go.Sort.putRow,Go.Sort.mapBlock,Go.Sort.ahead];rw[ň (by simpa using aa),ĩ,ą rfl,hb];simp only[Ğ,Go.Sort.onCells,Đ,Obj.cells.injEq,and_true];apply aao;intro k;simp only[Go.Sort.putCells,Array.getElem?_mapIdx,Ġ,Ĝ,true_and,ņ,aaB];by_cases E:k<(d.flatMap eX.enc).length
   .rw[Ė E,Ė ŉ,Ą E,Ą (by omega:k<(d'.toList.flatMap eX.enc).length)];have U:k<d'.size:=by rw[F,ć]at E;rw[<-ł];omega
    simp only[Ğ,ą U];rw[ų d' k U];simp only[F,Ū,aaO]
   rw[ģ ŉ,ģ ŉ,ac];cases rest[k-(d.flatMap eX.enc).length]? with
   |none=>rfl
   |some v=>
    have U:¬k<d'.size:=by rw[F,ć]at E;rw[<-ł];omega
    simp only[Ğ,ā U]
  have ao:w.heap.size<=w'.heap.size:=by rw[lx];simp[Go.Sort.grow,Go.Sort.putRow,Go.Sort.mapBlock,Go.Sort.ahead]
  have one:∀j x,Lo.get [(5000,some (⟨b,Obj.cells (d'.toList.flatMap eX.enc++rest).toArray e (0,0),0⟩:Ow))] j=some x->x=⟨b,Obj.cells (d'.toList.flatMap eX.enc++rest).toArray e (0,0),0⟩/\5000=j:=by
   intro j x t;rw[Lo.Zp]at t;split at t
   .rename_i e';cases t;exact⟨rfl,e'⟩
   simp[Lo.get]at t
  have ag:(d'.toList.map (λa=>a.1.2)).length=l.length:=by rw[ć,V,ab]
  refine⟨_,G,[(5000,some ⟨b,.cells (d'.toList.flatMap eX.enc++rest).toArray e (0,0),0⟩)],rfl,⟨by rw[lx];rfl,by rw[lx];rfl,by rw[lx];rfl,by rw[lx];simp[Go.Sort.grow,Go.Sort.putRow,Go.Sort.mapBlock,Go.Sort.ahead],ao,?_,Mem.le_refl _,?_,λ_ _ _ h=>.inl h,?_,?_⟩,d'.toList.map (λa=>a.1.2),_,rfl,rfl,?_,?_,?_⟩
  .intro k E hn
   exact A k E λe=>by subst e;exact hn 5000 _ H rfl
  .intro k o v N
   have R:=hi.jj k o v N
   have s:k≠b:=λe=>by subst e;rw[Q o (Ĝ _)]at N;cases N
   have E:k<w.heap.size:=aas w _ R
   simp only[World.cell?,A k E s]at R⊢
   exact R
  .intro j x Z
   obtain⟨rfl,rfl⟩:=one j x Z
   exact⟨q,.inl ⟨_,H,rfl⟩,Q⟩
  .intro j k x y s Y h2
   exact absurd ((one j x Y).2.symm.trans (one k y h2).2) s
  .refine⟨c,d'.toList.flatMap eX.enc,rest,by rw[ag],rfl,rfl,ÿ.pg _,?_,h6,by rw[ag];exact h7⟩
   rw[Ā,ac,<-Ā];exact h5
  .have:=B.map (λa=>a.1.2)
   rwa [hd]at this
  rw[ei]
  rw[Ī]
  intro i j kB ki al
  have hs:=K i j (Ĝ _) al (by simp only[ł]at ki;omega)
  rw[ų _ _ (by simpa using ki),ų _ _ (by simpa using kB)]at hs
  simp only[aaO]
  exact hs
section
variable {α β:Type}{r:Rp α}{f:β->α}{G:Mem}{e:TypeId}
theorem ÿ.via:∀{l:Ŀ β}{cs:Ŀ Value},ÿ (r.via f) G cs l↔ÿ r G cs (l.map f)
 |[],_=>Iff.rfl
 |x::l,cs=>by
  constructor
  .rintro⟨c,d,a,h2,h3⟩;exact⟨c,d,a,h2,ÿ.via.1 h3⟩
  rintro⟨c,d,a,h2,h3⟩;exact⟨c,d,a,h2,ÿ.via.2 h3⟩
theorem Β.via{v:Value}{l:Ŀ β}{tk:ŀ Ow}:Β (r.via f) e G v l tk↔Β r e G v (l.map f) tk:=by
 cases tk with
 |none=>
  constructor
  .rintro⟨rfl,h⟩;exact⟨rfl,h⟩
  rintro⟨a,h⟩;exact⟨List.map_eq_nil_iff.1 a,h⟩
 |some x=>
  constructor
  .rintro⟨cap,cs,rest,a,h2,h3,c,d,g,h7⟩;exact⟨cap,cs,rest,by rw[ć];exact a,h2,h3,ÿ.via.1 c,d,g,by rw[ć];exact h7⟩
  rintro⟨cap,cs,rest,a,h2,h3,c,d,g,h7⟩;rw[ć]at a h7;exact⟨cap,cs,rest,a,h2,h3,ÿ.via.2 c,d,g,h7⟩
end
theorem Y0.Dw{P:Program}{N:Nat}{fr:Fr}{S:Ξ}{dst:ŀ Nat}{ty:TypeId}{pos:String}{af:Array Edge}{g:ŀ (Nat×Bool)}{t e:TypeId}{x f h:Operand}{b n lo hi:Nat}{r k2:IntKind}(m:P.underlying t=some (.array n e))(d:(P.info? e).map (·.size)=some 1)
  (p:fr.ev x=some (.pointer (some ⟨b,0,none⟩))) (i:fr.ev f=some (.int r (lo:Int))) (h2:fr.ev h=some (.int k2 (hi:Int))) (k:lo<n) (j:lo<=hi) (l:hi<=n) :
  Y0 P N ⟨dst,.slice t x (some f) (some h) none,ty,pos,af,g⟩ fr S (.slice (some ⟨b,lo,none⟩) (hi-lo) (n-lo)):=λa w c _=>by
 have q:¬n=lo:=ŉ
 simp only[execOp,c.ev p,c.ev i,c.ev h2,ŗ,Ğ]
 simp[Instr.sliceAt,ē m,Instr.sureAddr,Instr.sliceBounds,Instr.sliceBound,asIntOf,run_sizeOf d,oy,j,l,q]
theorem Y0.C2{P:Program}{N:Nat}{fr:Fr}{S:Ξ}{dst:ŀ Nat}{ty:TypeId}{pos:String}{af:Array Edge}{g:ŀ (Nat×Bool)}{t b:TypeId}{x y:Operand}{s u:Ĳ}(a:fr.ev x=some (.string s))(c:fr.ev y=some (.string u)):
  Y0 P N ⟨dst,.binOp .lss t x y b,ty,pos,af,g⟩ fr S (.bool (Op.bytesLess s.toList u.toList)):=
 Y0.bin a c (ET _ _ _ _ _ _) λw=>by simp[binOp,Op.stringOp]
section
variable {P:Program}{N:Nat}{Q:ï}{fr:Fr}{w0:Bs}{G0 G:Mem}{L:Lo}{ops:Array Oper}{ty:TypeId}{pos:String}{af:Array Edge}{g:ŀ (Nat×Bool)}{fs:Ŀ Bool}{l:Ŀ Oper}{Ι:Fr}{Ρ:jr}{d:Nat}{op:Op}
variable {α β:Type}{r:Rp α}{e:TypeId}{r':Rp β}{e':TypeId}
def D'(r:Rp β)(ys:Ŀ β):Mem->Value->Prop:=λG v=>∃p c,v=.slice p ys.length c/\Δ r G (.slice p ys.length c) ys
theorem γ.n9{Bt:Ξ}{f:FuncId}{kk:Nat}{xs:Ŀ α}(ys:Ŀ β)(W:∀u,ξ ops (ς Ρ u++(Ι++fr)) ⟨some d,op,ty,pos,af,g⟩ true)
  (Y:Ρ.any (λp=>Nat.beq p.1 kk)=true) (Z:((⟨some d,op,ty,pos,af,g⟩:Oper).looksAt ops).contains kk=true) (D:lj ops kk=true)
  (h:∀u (G':Gx),Mem.le G G'.m->ñ ops ⟨some d,op,ty,pos,af,g⟩ Ρ u G'->∃v,gv r e kk xs v G'/\∀p c tk,v=.slice p xs.length c->Β r e G'.m (.slice p xs.length c) xs tk->∃args m pre,(∀S,YC P N ⟨some d,op,ty,pos,af,g⟩ (ς Ρ u++(Ι++fr)) S f m)/\
   eR P f args [(5000,tk)] pre (λG L v=>∃zp zc n,L=[(5000,n)]/\v=.slice zp ys.length zc/\Β r' e' G (.slice zp ys.length zc) ys n)/\m=args/\pre G'.m)
  (k:γ P N Q fr w0 G0 G L ops Bt fs l Ι ((d,λv g=>D' r' ys g.m v)::iF (some kk) Ρ)):γ P N Q fr w0 G0 G L ops Bt (false::fs) (⟨some d,op,ty,pos,af,g⟩::l) Ι Ρ:=
 γ.ya d kk (λv g=>D' r' ys g.m v) rfl Y Z D (λv _ _ h X=>by obtain⟨p,c,t,h2⟩:=X;exact⟨p,c,t,h2.mono h.1⟩) (λu G' C hu=>by
  obtain⟨v,⟨p,c,tk,t,h2,h3⟩,U⟩:=h u G' C.1 hu;refine .inr ⟨W u,λa w V B=>?_⟩;have K:St ⟨w,[(5000,tk)]⟩ G'.m G'.m [(5000,tk)] w:=Hp.st ⟨B.st.jj,λi y hi=>by
   rw[Lo.Zp]at hi;split at hi
   .obtain⟨F,J,H,q4⟩:=B.own _ _ _ (h3 y hi);exact⟨F,λk _=>H k⟩
   .simp[Lo.get]at hi,λi j y y' aa t h2=>by
   rw[Lo.Zp]at t h2;split at t
   .split at h2
    .omega
    simp[Lo.get]at h2
   simp[Lo.get]at t⟩
  have A:Lo.zero [(5000,tk)]:=λq I y E=>by rw[đ]at I;subst I;exact h2.zero E
  obtain⟨args,m,pre,F,J,H,q4⟩:=U p c tk t h2;rw[F _ a w V B];subst H;refine(J w G'.m (K.hp (Lo.vB _)) q4).mono λe' w' ⟨rv,O,L2,p1,p2,zp,zc,n,p3,p4,p5⟩=>⟨rv,p1,?_⟩;subst p3;have s2:St ⟨w,[(5000,tk)]⟩ G'.m O [(5000,n)] w':=K.ext (R:=[]) p2 (Lo.vB _) (Lo.Zq _) (λi x s=>by simp[Lo.get]at s) (λi x y hi _ z hz=>by rw[show x=z from Ŧ (hi.symm.trans hz)];exact Ċ _) (λi x s=>.inl s);obtain⟨T,ab,f1,f2,_,f4,_⟩:=p5.qc (w0:=⟨w,[(5000,tk)]⟩) (key:=5000) (by simp[Lo.Zp]) A s2;have s3:St ⟨w,[(5000,tk)]⟩ G'.m T [(5000,none)] w':=f4.weaken (λi x s=>by
   rw[Lo.Zp]at s;split at s
   .cases s
   simp[Lo.get]at s)
  obtain⟨s4,s5⟩:=B.sA (d:=d) (k:=some kk) (i0:=5000) (tk:=none) s3.kH (λi y hi=>by
   rw[Lo.Zp]at hi;split at hi
   .exact⟨kk,y.o,rfl,h3 y hi⟩
   simp[Lo.get]at hi) (λy E=>by cases E)
  exact⟨_,s5,s4,zp,zc,p4,f2⟩) k
end
section
variable {α:Type}{r:Rp α}{n:Nat}{G:Mem}{K:Nat->Value->Prop}{o:Nat}{xs:Ŀ α}{z:α}{i:Int}
theorem AtK.arr(h:AtK (Rp.arr r n) G K o xs)(hi:0<=i/\xs[i.toNat]?=some z):AtK r G K (o+i.toNat*r.size) z:=by obtain⟨cs,a,h2⟩:=h;obtain⟨c,h3,d⟩:=a.1.get hi.2;refine⟨c,h3,λj u e=>?_⟩;rw[Ş];exact h2 _ u (d j u e)
theorem AtK.BK(h:AtK (Rp.arr r n) G K o xs)(hi:0<=i/\xs[i.toNat]?=some z):0<=i/\i<(n:Int):=by obtain⟨cs,a,_⟩:=h;have:=(ċ.1 hi.2).1;have e:=a.2;omega
end
section
variable {P:Program}{N:Nat}{fr:Fr}{S:Ξ}{dst:ŀ Nat}{ty:TypeId}{pos:String}{af:Array Edge}{g:ŀ (Nat×Bool)}{G:Mem}{α:Type}{r:Rp α}
theorem Y0.uI{t e:TypeId}{x y:Operand}{n sz:Nat}{cs c:Ŀ Value}{k:IntKind}{i:Int}{xs:Ŀ α}{z:α}{u:Unit}(B:P.underlying t=some (.array n e))(q:fq P e sz)(l:(P.info? e).map (·.size)=some sz)
  (D:fr.ev x=some (.agg cs.toArray)) (E:fr.ev y=some (.int k i)) (h:É r n G cs u xs) (hi:0<=i/\xs[i.toNat]?=some z) (A:∀j v,c.toArray[j]?=some v->cs.toArray[i.toNat*sz+j]?=some v) (F:c.length=sz):Y0 P N ⟨dst,.index t x y,ty,pos,af,g⟩ fr S (.agg c.toArray):=λa w p _=>by
 have f:=h.lt hi
 have C:(cs.drop (i.toNat*sz)).take sz=c:=by
  refine Ÿ λj=>?_;by_cases s:j<sz
  .have d:c[j]?=some c[j]:=Ą ŉ;have m:=A j _ (by rw[Ġ];exact d);rw[Ġ]at m;rw[Ŵ s,ŧ,m,d]
  rw[List.getElem?_take_eq_none ŉ,ń ŉ]
 simp[execOp,p.ev D,p.ev E,Instr.index,asIntOf,ē B,f,run_sizeOf l,QQ q,C]
end
section
variable {α:Type}{r:Rp α}{m:Nat}{G:Mem}
theorem Rp.Zzu{cs':Ŀ Value}{j:Int}{xs:Ŀ α}{z z':α}(h':r.er G cs' z')(p:0<=j/\xs[j.toNat]?=some z)(cs:Ŀ Value)(h:(Rp.arr r m).er G cs xs):(Rp.arr r m).er G (cs.take (j.toNat*r.size)++cs'++cs.drop (j.toNat*r.size+cs'.length)) (xs.set j.toNat z'):=by
 obtain⟨f,q⟩:=h;obtain⟨c,s⟩:=ċ.1 p.2;have d:xs=xs.take j.toNat++(xs[j.toNat]::xs.drop (j.toNat+1)):=ß;rw[d]at f;obtain⟨a,d1,l,g,k2⟩:=f.split;obtain⟨k,d2,n,k3,t⟩:=k2;have i:=g.len;have u:=r.len k3;have v:=r.len h';rw[show(xs.take j.toNat).length=j.toNat by simp;omega]at i;refine⟨?_,by rw[ħ];exact q⟩;rw[Ŭ,ą c];have e:cs.take (j.toNat*r.size)++cs'++cs.drop (j.toNat*r.size+cs'.length)=a++(cs'++d2):=by subst l n;rw[<-i,List.take_left' rfl,show a.length+cs'.length=a.length+k.length by omega,aaf,aa7,ď]
 rw[e];exact g.append ⟨_,d2,rfl,h',t⟩
def sj(p:ŀ Addr)(cap lo sz:Nat):ŀ Addr:=if cap=lo then p else p.map (·.add (lo*sz))
theorem Δ.B2{n cap sz lo:Nat}{p:ŀ Addr}{xs:Ŀ α}(g:sz=r.size)(h:Δ r G (.slice p n cap) xs)(k:lo<=xs.length):Δ r G (.slice (sj p cap lo sz) (xs.drop lo).length (cap-lo)) (xs.drop lo):=by
 have t:n=xs.length:=by obtain⟨p',d,cs,f,_⟩:=h;cases f;rfl
 have j:n<=cap/\cap<=9223372036854775807:=by obtain⟨p',d,cs,f,h2,_⟩:=h;cases f;exact h2
 have e:∀a,p=some a->0<cap->a.spot=none:=by obtain⟨p',d,cs,f,_,h2,_⟩:=h;cases f;exact h2
 have key:=h.take (lo:=lo) (hi:=xs.length) (q:=sj p cap lo sz) (c:=cap-lo) k (Ċ _) (by
  unfold sj;by_cases i:cap=lo
  .right;rw[ą i];exact⟨ŉ,rfl,ŉ⟩
  left;rw[ā i];cases p with
  |none=>rfl
  |some a=>
   obtain⟨l,m,s⟩:=a;have:=e _ rfl ŉ;dsimp only at this;subst this;simp only[Ğ,oy,g]) ŉ
 rw[ĥ]at key;rw[show(xs.drop lo).length=xs.length-lo from ľ];exact key
end
section
variable {P:Program}{N:Nat}{Q:ï}{fr:Fr}{S:Ξ}{w0:Bs}{G0 G:Mem}{L:Lo}{ops:Array Oper}{l:Ŀ Oper}{dst:ŀ Nat}{ty:TypeId}{pos:String}{af:Array Edge}{g:ŀ (Nat×Bool)}{α:Type}{r:Rp α}{e:TypeId}
theorem Y0.uC{t d:TypeId}{x j:Operand}{p:ŀ Addr}{n cap sz:Nat}{k:IntKind}{lo:Int}{xs:Ŀ α}{tk:ŀ Ow}(i:P.underlying t=some (.slice d))(c:(P.info? d).map (·.size)=some sz)(h:Β r e G (.slice p n cap) xs tk)
  (m:fr.ev x=some (.slice p n cap)) (l:fr.ev j=some (.int k lo)) (s:0<=lo/\lo<=(xs.length:Int)):Y0 P N ⟨dst,.slice t x (some j) none none,ty,pos,af,g⟩ fr S (.slice (sj p cap lo.toNat sz) (xs.drop lo.toNat).length (cap-lo.toNat)):=by
 have u:n=xs.length/\n<=cap:=by
  cases tk with
  |none=>obtain⟨rfl,p',h2,_⟩:=h;cases h2;exact⟨rfl,Ċ _⟩
  |some q=>obtain⟨f,cs,rest,h2,_,_,_,_,_,h3⟩:=h;cases h2;exact⟨rfl,h3⟩
 refine Y0.BV i (λw=>?_) m l
 have h2:0<=lo/\lo<=(n:Int):=ŉ
 have a:(Instr.sliceBounds true n cap (some (.int k lo)) none none).run P w=.ok (lo.toNat,n,cap) w:=by simp[Instr.sliceBounds,Instr.sliceBound,asIntOf,h2]
 rw[show(xs.drop lo.toNat).length=n-lo.toNat by rw[ľ];omega]
 simp[Instr.slice,ē i,a,run_sizeOf c,sj]
theorem WL.u6{t:TypeId}{x y:Operand}{p:ŀ Addr}{n cap sz m:Nat}{κ:IntKind}{i j u:Int}{xs:Ŀ (Fin m->Int)}{z:Fin m->Int}{tk:ŀ Ow}(key:Nat)(q:ξ ops fr ⟨none,.store t x y,ty,pos,af,g⟩ true)(r:(P.info? t).map (·.size)=some 1)
  (f:sz=m) (h:Β (Rp.vec κ m) e G (.slice p n cap) xs tk) (d:L.get key=tk) (A:fr.ev x=some (.pointer (some ⟨pb p,i.toNat*sz+j.toNat,none⟩))) (B:fr.ev y=some (.int κ u))
  (hi:0<=i/\xs[i.toNat]?=some z) (C:0<=j/\j<(m:Int))
  (k:∀a,Β (Rp.vec κ m) e G (.slice p n cap) (xs.set i.toNat (ε z j.toNat u)) a->WL P N ops Q l fr (St w0 G0 G ((key,a)::L))):WL P N ops Q (⟨none,.store t x y,ty,pos,af,g⟩::l) fr (St w0 G0 G L):=by
 refine WL.jN (cs':=[.int κ u]) key q r f (by show j.toNat+1<=m;omega) h d A B rfl (λv s=>by rw[đ.1 s];rfl) (λcs c=>?_) hi k
 have c:cs=õ (Value.int κ) m z:=c
 show _=õ (Value.int κ) m (ε z j.toNat u)
 rw[<-Uh,Ŭ,ą (by rw[xx];omega),<-c]
 simp
theorem WL.qy{t:TypeId}{x y:Operand}{p:ŀ Addr}{n cap sz v m:Nat}{val:Value}{cs':Ŀ Value}{i j:Int}{xs:Ŀ (Ŀ α)}{z:Ŀ α}{u u':α}{tk:ŀ Ow}(key:Nat)(H:ξ ops fr ⟨none,.store t x y,ty,pos,af,g⟩ true)(J:(P.info? t).map (·.size)=some v)
  (f:v=r.size) (D:sz=(Rp.arr r m).size) (h:Β (Rp.arr r m) e G (.slice p n cap) xs tk) (B:L.get key=tk) (K:fr.ev x=some (.pointer (some ⟨pb p,i.toNat*sz+j.toNat*v,none⟩))) (O:fr.ev y=some val) (q:val.cells=cs'.toArray)
  (a:r.er G cs' u') (hi:0<=i/\xs[i.toNat]?=some z) (E:0<=j/\z[j.toNat]?=some u)
  (k:∀s,Β (Rp.arr r m) e G (.slice p n cap) (xs.set i.toNat (z.set j.toNat u')) s->WL P N ops Q l fr (St w0 G0 G ((key,s)::L))):WL P N ops Q (⟨none,.store t x y,ty,pos,af,g⟩::l) fr (St w0 G0 G L):=by
 have d:=r.len a
 have I:z.length=m:=by obtain⟨c,A,_⟩:=Β.at h hi;exact A.2
 have C:j.toNat<m:=by rw[<-I];exact(ċ.1 E.2).1
 have F:j.toNat*v+cs'.length<=(Rp.arr r m).size:=by show _<=m*r.size;rw[d,f];have:(j.toNat+1)*r.size<=m*r.size:=ec _ C;rw[ō]at this;omega
 refine WL.jN key H (by rw[J,d,f]) D F h B K O q (r.one a) (λcs A=>?_) hi k
 rw[f]
 exact Rp.Zzu a E cs A
end
theorem wj{P:Program}{t e:TypeId}{n:Nat}{cs:Ŀ Value}(h:cs.toArray.size=n)(k:∀(f:Fin n->Value) (w:World),(Instr.buildSlice t 1 #[(0,.agg (List.ofFn f).toArray)]).run P w=.ok (.slice (some ⟨w.heap.size,0,none⟩) 1 1) (w.alloc (.cells (List.ofFn f++[]).toArray e))):
  ∀w:World,(Instr.buildSlice t 1 #[(0,.agg cs.toArray)]).run P w=.ok (.slice (some ⟨w.heap.size,0,none⟩) 1 1) (w.alloc (.cells (cs++[]).toArray e)):=by
 rw[Į]at h
 subst h
 have e:List.ofFn (λi:Fin cs.length=>cs[i.1])=cs:=abr ß (λi a h2=>ß)
 intro w
 have:=k (λi=>cs[i.1]) w
 rw[e]at this
 exact this
theorem Y0.M2{P:Program}{N:Nat}{fr:Fr}{S:Ξ}{dst:ŀ Nat}{ty:TypeId}{pos:String}{af:Array Edge}{g:ŀ (Nat×Bool)}{t yt:TypeId}{x y:Operand}{a b:Ĳ}(c:fr.ev x=some (.string a))(d:fr.ev y=some (.string b))(h:(a.size:Int)+b.size<=1000000):Y0 P N ⟨dst,.binOp .add t x y yt,ty,pos,af,g⟩ fr S (.string (a++b)):=
 Y0.bin c d (ET _ _ _ _ _ _) λw=>by simp[binOp,Op.stringOp];omega
theorem Æ{A fr:Fr}(h:A.map (λp=>fr.get p.1)=A.map (λp=>some p.2)):Fr.sub A fr:=by
 induction A with
 |nil=>exact Fr.Zq _
 |cons p A a=>
  simp only[ġ,Œ]at h;exact Fr.Zi h.1 (a h.2)
theorem oA{a b r:Prop}(h:a/\b)(k:a->b->r):r:=k h.1 h.2
theorem oE{α:Type}{p q:α->Prop}{r:Prop}(h:∃x,p x/\q x)(k:∀x,p x->q x->r):r:=let ⟨x,a,b⟩:=h;k x a b
section
variable {P:Program}{N:Nat}{Q:ï}{fr:Fr}{S:Ξ}
theorem WC.q9{Y β:Type}{x y:Code}{m:Cq β}{Ψ:β->Prop}(_:m.wp Ψ)(e:Y->Fr×Cq β×Prop×Ξ)(a:WC P N x (Exit.then (mi N (λy=>(e y).1) (λy=>(e y).2.1.wp Ψ/\(e y).2.2.1) (λy=>(e y).2.2.2)) Q) fr S)
  (h2:∀z,(e z).2.1.wp Ψ/\(e z).2.2.1->WC P N y Q (e z).1 (e z).2.2.2):WC P N (.seq x y) Q fr S:=WC.u2 _ _ _ a h2
theorem WC.wq{X Y σ ρ β:Type}{id:Nat}{c:Code}{step:σ->Cq (σ⊕ρ)}{d:σ}{k:ρ->Cq β}{Ψ:β->Prop}(j:((Cq.loop step d).next k).wp Ψ)(g:X->σ×Fr×Prop×Ξ)(e:Y->ρ×Fr×Prop×Ξ)(a:X)(f:(g a).1=d)(h:Fr.sub (g a).2.1 fr)(hH:(g a).2.2.1)(i:∀w,S w->(g a).2.2.2 w)
  (round:∀(A:σ->Prop) x,(g x).2.2.1->(step (g x).1).wp (Out A λo=>(k o).wp Ψ)->WC P N c (Exit.then (jv N (λx=>(g x).2.1) (λx=>(g x).2.2.1) (λx=>(g x).2.2.2) (λx=>(g x).1) A) (Exit.inBlock id (ll N (λy=>(e y).2.1) (λy=>(k (e y).1).wp Ψ/\(e y).2.2.1) (λy=>(e y).2.2.2) Q))) (g x).2.1 (g x).2.2.2)
  (h2:∀z,(k (e z).1).wp Ψ/\(e z).2.2.1->WE N Q .normal (e z).2.1 (e z).2.2.2):WC P N (.block id (.loop c)) Q fr S:=by
 subst f
 exact WC.C4 (λy=>(e y).2.1) (λy=>(k (e y).1).wp Ψ/\(e y).2.2.1) (λy=>(e y).2.2.2) (WC.block (WC.C0 (Φ:=λo=>(k o).wp Ψ) (λx=>(g x).1) (λx=>(g x).2.1) (λx=>(g x).2.2.1) (λx=>(g x).2.2.2) a j h hH i round)) h2
end
section
variable {P:Program}{N:Nat}{Q:ï}{fr:Fr}{S:Ξ}{ops:Array Oper}{l:Ŀ Oper}{dst:ŀ Nat}{op:Op}{ty:TypeId}{pos:String}{af:Array Edge}{v:Value}{x:Operand}
theorem Ε(h:Y0 P N ⟨dst,op,ty,pos,af,none⟩ fr S v)(k:WL P N ops Q l (θ dst v fr) S)(a:Ω N dst:=by exact rfl):WL P N ops Q (⟨dst,op,ty,pos,af,none⟩::l) fr S:=yy h a k
theorem ν(h:fr.ev x=some v)(k:WL P N ops Q l (θ dst v fr) S)(a:Ω N dst:=by exact rfl):WL P N ops Q (⟨dst,.move x,ty,pos,af,none⟩::l) fr S:=mv h a k
theorem dQ(h:fr.ev x=some v)(k:WL P N ops Q l (θ dst v fr) S)(a:Ω N dst:=by exact rfl):WL P N ops Q (⟨dst,.assign x,ty,pos,af,none⟩::l) fr S:=sg h a k
theorem fN{Bt:Ξ}{w0:Bs}{G0 G:Mem}{L:Lo}{fs:Ŀ Bool}{Ι:Fr}(h:(Ι++fr).ev x=some v)(k:γ P N Q fr w0 G0 G L ops Bt fs l (θ dst v Ι) []):γ P N Q fr w0 G0 G L ops Bt (false::fs) (⟨dst,.move x,ty,pos,af,none⟩::l) Ι []:=cn (λ_ _=>Y0.move h) k
theorem iP{t yt:TypeId}{y:Operand}{k:IntKind}{a b:Int}(h:(fr.ev x,fr.ev y)=(some (.int k a),some (.int k b)))(kk:WL P N ops Q l (θ dst (.int k (k.wrap (a+b))) fr) S)(c:Ω N dst:=by exact rfl):WL P N ops Q (⟨dst,.binOp .add t x y yt,ty,pos,af,none⟩::l) fr S:=yy (Y0.add (Ē Prod.fst h) (Ē Prod.snd h)) c kk
theorem kD{t yt:TypeId}{y:Operand}{k:IntKind}{a b:Int}(h:(fr.ev x,fr.ev y)=(some (.int k a),some (.int k b)))(kk:WL P N ops Q l (θ dst (.bool (decide (a<b))) fr) S)(c:Ω N dst:=by exact rfl):WL P N ops Q (⟨dst,.binOp .lss t x y yt,ty,pos,af,none⟩::l) fr S:=yy (Y0.lss (Ē Prod.fst h) (Ē Prod.snd h)) c kk
theorem Θ{c y:Operand}(h:(fr.ev c,fr.ev x)=(some (.bool true),some v))(kk:WL P N ops Q l (θ dst v fr) S)(a:Ω N dst:=by exact rfl):WL P N ops Q (⟨dst,.pick c x y,ty,pos,af,none⟩::l) fr S:=yy (Y0.om (Ē Prod.fst h) (Ē Prod.snd h)) a kk
theorem ο{c y:Operand}(h:(fr.ev c,fr.ev y)=(some (.bool false),some v))(kk:WL P N ops Q l (θ dst v fr) S)(a:Ω N dst:=by exact rfl):WL P N ops Q (⟨dst,.pick c x y,ty,pos,af,none⟩::l) fr S:=yy (Y0.eU (Ē Prod.fst h) (Ē Prod.snd h)) a kk
theorem lR{i:Nat}{vs:Array Value}(h:(fr.ev x,vs[i]?)=(some (.tuple vs),some v))(kk:WL P N ops Q l (θ dst v fr) S)(a:Ω N dst:=by exact rfl):WL P N ops Q (⟨dst,.extract x i,ty,pos,af,none⟩::l) fr S:=yy (Y0.extract (Ē Prod.fst h) (Ē Prod.snd h)) a kk
theorem kS{j d:Nat}{c:Bool}(h:((ops[j]?).bind (·.dst),fr.get d,fr.ev x)=(some d,some (.bool c),some v))(kk:WL P N ops Q l (θ dst v fr) S)(a:Ω N dst:=by exact rfl):WL P N ops Q (⟨dst,.move x,ty,pos,af,some (j,c)⟩::l) fr S:=gy (Ē (·.1) h) (Ē (·.2.1) h) (Y0.move (Ē (·.2.2) h)) a kk
theorem Ο{y:Code}(h:fr.ev x=some v)(kk:WC P N y Q (θ dst v fr) S)(a:Ω N dst:=by exact rfl):WL P N ops (Exit.then (y.wp P Q) Q) [⟨dst,.assign x,ty,pos,af,none⟩] fr S:=sg h a (nx kk)
theorem gu{w0:Bs}{G0 G:Mem}{L:Lo}{t t':TypeId}{y:Operand}{b n:Nat}{c c':Array Value}(i:Nat)(a:(P.info? t).map (·.size)=some n)(h:(fr.ev x,fr.ev y,L.get i,c.size,c'.size,c'.toList.all Value.oneCell')=(some (.pointer (some ⟨b,0,none⟩)),some (.agg c'),some ⟨b,.cells c t' (0,0),0⟩,n,n,true))
  (kk:WL P N ops Q l fr (St w0 G0 G ((i,some ⟨b,.cells c' t' (0,0),0⟩)::L))):WL P N ops Q (⟨none,.store t x y,ty,pos,af,none⟩::l) fr (St w0 G0 G L):=WL.fg i Zh a (Ē (·.1) h) (Ē (·.2.1) h) (Ē (·.2.2.1) h) (Ē (·.2.2.2.1) h) (Ē (·.2.2.2.2.1) h) (Ć.1 (Ē (·.2.2.2.2.2) h)) kk
end
end Go.EL

namespace Go.Proofs.YtepbagkffgddlaaGreat
open Go.IntKind (i8 i16 i32 i64 u8 u16 u32 u64)
open Go.Proofs.Tryz
open Go Go.EL Go.RowKit Go.Proofs
theorem eL:prog.follows .mixedOrders=true:=İ
def fB(t i k:Nat):Prop:=∀ ⦃N:Nat⦄ ⦃dst:ŀ Nat⦄ ⦃ty:TypeId⦄ ⦃pos:String⦄ ⦃af:Array Edge⦄ ⦃g:ŀ (Nat×Bool)⦄ ⦃fr:Fr⦄ ⦃S:Ξ⦄ ⦃x:Operand⦄ ⦃b off:Nat⦄,fr.ev x=some (.pointer (some ⟨b,off,none⟩))->Y0 prog N ⟨dst,.fieldAddr t x i,ty,pos,af,g⟩ fr S (.pointer (some ⟨b,off+k,none⟩))
theorem fD{t i k:Nat}{fs:Array Field}{a:Field}(e:prog.underlying t=some (.struct fs))(c:fs[i]?=some a)(d:a.offset=k)(hp:∀b off w,(fieldPlace ⟨b,off,none⟩ a).run prog w=.ok ⟨b,off+a.offset,none⟩ w):fB t i k:=by intro N dst ty pos af g fr S x b off f;subst d;exact Y0.fieldAddr e c (hp b off) f
abbrev En:=Enters prog
abbrev eo:=@enters_of
theorem E9:En 9:=eo func9 İ rfl
theorem H7:En 10:=eo func10 İ rfl
theorem XY:En 14:=eo func14 İ rfl
theorem O6:En 15:=eo func15 İ rfl
theorem XZ:En 17:=eo func17 İ rfl
theorem X0:En 19:=eo func19 İ rfl
theorem X5:En 22:=eo func22 İ rfl
theorem O7:En 23:=eo func23 İ rfl
theorem X6:En 24:=eo func24 İ rfl
theorem O8:En 25:=eo func25 İ rfl
theorem Ag:En 27:=eo func27 İ rfl
theorem X7:En 28:=eo func28 İ rfl
theorem O9:En 31:=eo func31 İ rfl
theorem D8:En 32:=eo func32 İ rfl
theorem X8:En 33:=eo func33 İ rfl
theorem Jc:En 36:=eo func36 İ rfl
theorem X9:En 38:=eo func38 İ rfl
theorem Ya:En 40:=eo func40 İ rfl
theorem Yb:En 42:=eo func42 İ rfl
theorem Pa:En 43:=eo func43 İ rfl
theorem Yc:En 44:=eo func44 İ rfl
theorem Jd:En 46:=eo func46 İ rfl
theorem Yd:En 47:=eo func47 İ rfl
theorem Ye:En 48:=eo func48 İ rfl
theorem Yf:En 49:=eo func49 İ rfl
theorem Yg:En 50:=eo func50 İ rfl
theorem Yh:En 51:=eo func51 İ rfl
theorem Pb:En 52:=eo func52 İ rfl
theorem Yi:En 54:=eo func54 İ rfl
theorem Pc:En 60:=eo func60 İ rfl
theorem Yj:En 64:=eo func64 İ rfl
theorem Yk:En 65:=eo func65 İ rfl
theorem Yl:En 66:=eo func66 İ rfl
theorem Ym:En 67:=eo func67 İ rfl
theorem Yn:En 69:=eo func69 İ rfl
theorem Pd:En 70:=eo func70 İ rfl
theorem Pe:En 71:=eo func71 İ rfl
theorem Yo:En 72:=eo func72 İ rfl
theorem Yp:En 74:=eo func74 İ rfl
theorem Yq:En 75:=eo func75 İ rfl
theorem Pf:En 76:=eo func76 İ rfl
theorem yI:En 77:=eo func77 İ rfl
theorem Je:En 78:=eo func78 İ rfl
theorem Yr:En 81:=eo func81 İ rfl
theorem Ys:En 83:=eo func83 İ rfl
theorem Pg:En 84:=eo func84 İ rfl
theorem Yt:En 86:=eo func86 İ rfl
theorem D9:En 90:=eo func90 İ rfl
theorem Yu:En 93:=eo func93 İ rfl
theorem Jf:En 94:=eo func94 İ rfl
theorem Yv:En 95:=eo func95 İ rfl
theorem Yw:En 96:=eo func96 İ rfl
theorem Yx:En 99:=eo func99 İ rfl
theorem H8:En 106:=eo func106 İ rfl
theorem H9:En 112:=eo func112 İ rfl
theorem Ia:En 113:=eo func113 İ rfl
theorem Ib:En 114:=eo func114 İ rfl
theorem Ic:En 115:=eo func115 İ rfl
theorem zX:En 119:=eo func119 İ rfl
theorem Ie:En 120:=eo func120 İ rfl
theorem zY:En 122:=eo func122 İ rfl
theorem If:En 125:=eo func125 İ rfl
theorem Ig:En 128:=eo func128 İ rfl
theorem Ih:En 129:=eo func129 İ rfl
theorem Ii:En 133:=eo func133 İ rfl
theorem Ij:En 135:=eo func135 İ rfl
theorem Ik:En 136:=eo func136 İ rfl
theorem Il:En 137:=eo func137 İ rfl
theorem zZ:En 138:=eo func138 İ rfl
theorem z1:En 139:=eo func139 İ rfl
theorem Im:En 141:=eo func141 İ rfl
theorem Io:En 142:=eo func142 İ rfl
theorem Ip:En 143:=eo func143 İ rfl
theorem z6:En 145:=eo func145 İ rfl
theorem Iq:En 148:=eo func148 İ rfl
theorem Ir:En 154:=eo func154 İ rfl
theorem Is:En 156:=eo func156 İ rfl
theorem z7:En 161:=eo func161 İ rfl
theorem z8:En 162:=eo func162 İ rfl
theorem wN:En 163:=eo func163 İ rfl
theorem Aa:En 164:=eo func164 İ rfl
theorem It:En 165:=eo func165 İ rfl
theorem Iu:En 166:=eo func166 İ rfl
theorem wO:En 168:=eo func168 İ rfl
theorem Ab:En 169:=eo func169 İ rfl
theorem Iv:En 170:=eo func170 İ rfl
theorem Iw:En 186:=eo func186 İ rfl
theorem qF:En 187:=eo func187 İ rfl
theorem wP:En 194:=eo func194 İ rfl
theorem Ix:En 196:=eo func196 İ rfl
theorem Iy:En 197:=eo func197 İ rfl
theorem Iz:En 198:=eo func198 İ rfl
theorem IA:En 199:=eo func199 İ rfl
theorem Ac:En 202:=eo func202 İ rfl
theorem IB:En 203:=eo func203 İ rfl
theorem IC:En 205:=eo func205 İ rfl
theorem ID:En 206:=eo func206 İ rfl
theorem IE:En 212:=eo func212 İ rfl
theorem IF:En 214:=eo func214 İ rfl
theorem Ad:En 216:=eo func216 İ rfl
theorem IG:En 217:=eo func217 İ rfl
theorem IH:En 220:=eo func220 İ rfl
theorem II:En 228:=eo func228 İ rfl
theorem oJ:En 229:=eo func229 İ rfl
theorem IJ:En 234:=eo func234 İ rfl
theorem IK:En 237:=eo func237 İ rfl
theorem Ae:En 238:=eo func238 İ rfl
theorem oK:En 240:=eo func240 İ rfl
theorem IL:En 241:=eo func241 İ rfl
theorem IM:En 242:=eo func242 İ rfl
theorem IN:En 243:=eo func243 İ rfl
theorem IP:En 244:=eo func244 İ rfl
theorem IQ:En 258:=eo func258 İ rfl
theorem IS:En 259:=eo func259 İ rfl
theorem IT:En 260:=eo func260 İ rfl
theorem IU:En 261:=eo func261 İ rfl
theorem IV:En 262:=eo func262 İ rfl
theorem wQ:En 263:=eo func263 İ rfl
theorem Af:En 266:=eo func266 İ rfl
theorem IW:En 267:=eo func267 İ rfl
theorem IX:En 268:=eo func268 İ rfl
theorem Ah:En 278:=eo func278 İ rfl
theorem IY:En 280:=eo func280 İ rfl
theorem IZ:En 283:=eo func283 İ rfl
theorem Ai:En 284:=eo func284 İ rfl
theorem I0:En 287:=eo func287 İ rfl
theorem I1:En 291:=eo func291 İ rfl
theorem I2:En 292:=eo func292 İ rfl
theorem rL:En 293:=eo func293 İ rfl
theorem I3:En 294:=eo func294 İ rfl
theorem I4:En 310:=eo func310 İ rfl
theorem I5:En 311:=eo func311 İ rfl
theorem I6:En 312:=eo func312 İ rfl
theorem I7:En 313:=eo func313 İ rfl
theorem I8:En 320:=eo func320 İ rfl
theorem I9:En 321:=eo func321 İ rfl
theorem Ja:En 323:=eo func323 İ rfl
theorem Aj:En 324:=eo func324 İ rfl
theorem Jb:En 340:=eo func340 İ rfl
theorem uu:fq prog 26 2:=⟨İ,İ⟩
theorem M3:fq prog 34 3:=⟨İ,İ⟩
theorem BI:fq prog 37 1:=⟨İ,İ⟩
theorem xT:fq prog 40 10:=⟨İ,İ⟩
theorem lJ:fq prog 48 3:=⟨İ,İ⟩
theorem oS:fq prog 54 3:=⟨İ,İ⟩
theorem xU:fq prog 56 11:=⟨İ,İ⟩
theorem lK:fq prog 71 8:=⟨İ,İ⟩
theorem BJ:fq prog 89 9:=⟨İ,İ⟩
theorem M4:fq prog 94 7:=⟨İ,İ⟩
theorem vL:fq prog 100 4:=⟨İ,İ⟩
theorem pK:fq prog 118 2:=⟨İ,İ⟩
theorem rX:fq prog 120 4:=⟨İ,İ⟩
theorem BF:fq prog 129 4:=⟨İ,İ⟩
theorem rY:fq prog 145 8:=⟨İ,İ⟩
theorem rZ:fq prog 147 12:=⟨İ,İ⟩
theorem BG:fq prog 160 3:=⟨İ,İ⟩
theorem BH:fq prog 194 2:=⟨İ,İ⟩
theorem r0:fq prog 202 3:=⟨İ,İ⟩
theorem r5:fq prog 223 8:=⟨İ,İ⟩
theorem mR:fq prog 225 64:=⟨İ,İ⟩
theorem kx:fq prog 325 32:=⟨İ,İ⟩
theorem Nn:jo prog 3 (.int .i64 0) 1 8:=by unfold jo;kernel_rfl
theorem G5:jo prog 5 (.int .u8 0) 1 1:=by unfold jo;kernel_rfl
theorem jB:jo prog 50 (.slice none 0 0) 1 24:=by unfold jo;kernel_rfl
theorem Np:jo prog 54 (.agg ([.int .i64 0,.slice none 0 0,.slice none 0 0]).toArray) 3 56:=by unfold jo;kernel_rfl
theorem np:jo prog 56 (.agg ([.int .i64 0,.int .i64 0,.slice none 0 0,.slice none 0 0,.int .i64 0,.slice none 0 0,.slice none 0 0,.int .i64 0,.int .i64 0,.int .i64 0,.bool false]).toArray) 11 152:=by unfold jo;kernel_rfl
theorem od:jo prog 71 (.agg (õ (Value.int .i64) 8 (λ_=>0)).toArray) 8 64:=by unfold jo;kernel_rfl
theorem Nq:jo prog 89 (.agg ([.int .i64 0,.slice none 0 0,.int .i64 0,.int .i64 0,.int .i64 0,.slice none 0 0,.slice none 0 0,.slice none 0 0,.slice none 0 0]).toArray) 9 152:=by unfold jo;kernel_rfl
theorem lf:jo prog 147 (.agg (([.bool false,.slice none 0 0,.bool false,.slice none 0 0]:Ŀ Value)++(õ (Value.int .i64) 8 (λ_=>0))).toArray) 12 128:=by unfold jo;kernel_rfl
theorem vX:jo prog 194 (.agg ([.int .i64 0,.slice none 0 0]).toArray) 2 32:=by unfold jo;kernel_rfl
theorem B7:jo prog 225 (.agg (([.bool false,.slice none 0 0,.bool false,.slice none 0 0,.bool false,.slice none 0 0,.bool false,.slice none 0 0,.bool false,.slice none 0 0,.bool false,.slice none 0 0,.bool false,.slice none 0 0,.bool false,.slice none 0 0,.bool false,.slice none 0 0,.bool false,.slice none 0 0,.bool false,.slice none 0 0,.bool false,.slice none 0 0,.bool false,.slice none 0 0,.bool false,.slice none 0 0,.bool false,.slice none 0 0,.bool false,.slice none 0 0,.bool false,.slice none 0 0,.bool false,.slice none 0 0,.bool false,.slice none 0 0,.bool false,.slice none 0 0,.bool false,.slice none 0 0,.bool false,.slice none 0 0,.bool false,.slice none 0 0,.bool false,.slice none 0 0,.bool false,.slice none 0 0,.bool false,.slice none 0 0,.bool false,.slice none 0 0,.bool false,.slice none 0 0,.bool false,.slice none 0 0,.bool false,.slice none 0 0,.bool false,.slice none 0 0,.bool false,.slice none 0 0]:Ŀ Value)).toArray) 64 1024:=by unfold jo;kernel_rfl
theorem vY:jo prog 248 (.int .u32 0) 1 4:=by unfold jo;kernel_rfl
theorem vZ:jo prog 325 (.agg (([.bool false,.slice none 0 0,.bool false,.slice none 0 0,.bool false,.slice none 0 0,.bool false,.slice none 0 0,.bool false,.slice none 0 0,.bool false,.slice none 0 0,.bool false,.slice none 0 0,.bool false,.slice none 0 0,.bool false,.slice none 0 0,.bool false,.slice none 0 0,.bool false,.slice none 0 0,.bool false,.slice none 0 0,.bool false,.slice none 0 0,.bool false,.slice none 0 0,.bool false,.slice none 0 0,.bool false,.slice none 0 0]:Ŀ Value)).toArray) 32 512:=by unfold jo;kernel_rfl
theorem Y0.Z7:fB 26 0 0:=fD underlying26 rfl rfl (λ_ _ _=>İ)
theorem Y0.xR:fB 26 1 1:=fD underlying26 rfl rfl (λ_ _ _=>İ)
theorem Y0.YQ:fB 34 0 0:=fD underlying34 rfl rfl (λ_ _ _=>İ)
theorem Y0.VC:fB 34 1 1:=fD underlying34 rfl rfl (λ_ _ _=>İ)
theorem Y0.YT:fB 34 2 2:=fD underlying34 rfl rfl (λ_ _ _=>İ)
theorem Y0.VD:fB 37 0 0:=fD underlying37 rfl rfl (λ_ _ _=>İ)
theorem Y0.YU:fB 40 0 0:=fD underlying40 rfl rfl (λ_ _ _=>İ)
theorem Y0.YV:fB 40 1 1:=fD underlying40 rfl rfl (λ_ _ _=>İ)
theorem Y0.YW:fB 40 2 4:=fD underlying40 rfl rfl (λ_ _ _=>İ)
theorem Y0.YX:fB 40 3 5:=fD underlying40 rfl rfl (λ_ _ _=>İ)
theorem Y0.YY:fB 40 4 6:=fD underlying40 rfl rfl (λ_ _ _=>İ)
theorem Y0.YZ:fB 40 5 7:=fD underlying40 rfl rfl (λ_ _ _=>İ)
theorem Y0.Y1:fB 40 6 8:=fD underlying40 rfl rfl (λ_ _ _=>İ)
theorem Y0.Y2:fB 40 7 9:=fD underlying40 rfl rfl (λ_ _ _=>İ)
theorem Y0.GG:fB 48 0 0:=fD underlying48 rfl rfl (λ_ _ _=>İ)
theorem Y0.GH:fB 48 1 1:=fD underlying48 rfl rfl (λ_ _ _=>İ)
theorem Y0.GI:fB 48 2 2:=fD underlying48 rfl rfl (λ_ _ _=>İ)
theorem Y0.ME:fB 54 0 0:=fD underlying54 rfl rfl (λ_ _ _=>İ)
theorem Y0.VE:fB 54 1 1:=fD underlying54 rfl rfl (λ_ _ _=>İ)
theorem Y0.VF:fB 54 2 2:=fD underlying54 rfl rfl (λ_ _ _=>İ)
theorem Y0.MF:fB 56 0 0:=fD underlying56 rfl rfl (λ_ _ _=>İ)
theorem Y0.BA:fB 56 1 1:=fD underlying56 rfl rfl (λ_ _ _=>İ)
theorem Y0.MG:fB 56 2 4:=fD underlying56 rfl rfl (λ_ _ _=>İ)
theorem Y0.MH:fB 56 3 7:=fD underlying56 rfl rfl (λ_ _ _=>İ)
theorem Y0.MI:fB 56 4 8:=fD underlying56 rfl rfl (λ_ _ _=>İ)
theorem Y0.MJ:fB 56 5 9:=fD underlying56 rfl rfl (λ_ _ _=>İ)
theorem Y0.VG:fB 56 6 10:=fD underlying56 rfl rfl (λ_ _ _=>İ)
theorem Y0.VH:fB 89 0 0:=fD underlying89 rfl rfl (λ_ _ _=>İ)
theorem Y0.VI:fB 89 1 1:=fD underlying89 rfl rfl (λ_ _ _=>İ)
theorem Y0.VJ:fB 89 2 2:=fD underlying89 rfl rfl (λ_ _ _=>İ)
theorem Y0.VK:fB 89 3 3:=fD underlying89 rfl rfl (λ_ _ _=>İ)
theorem Y0.VL:fB 89 4 4:=fD underlying89 rfl rfl (λ_ _ _=>İ)
theorem Y0.VM:fB 89 5 5:=fD underlying89 rfl rfl (λ_ _ _=>İ)
theorem Y0.VN:fB 89 6 6:=fD underlying89 rfl rfl (λ_ _ _=>İ)
theorem Y0.VO:fB 89 7 7:=fD underlying89 rfl rfl (λ_ _ _=>İ)
theorem Y0.VP:fB 89 8 8:=fD underlying89 rfl rfl (λ_ _ _=>İ)
theorem Y0.VQ:fB 94 0 0:=fD underlying94 rfl rfl (λ_ _ _=>İ)
theorem Y0.Y5:fB 94 1 3:=fD underlying94 rfl rfl (λ_ _ _=>İ)
theorem Y0.Y6:fB 94 2 6:=fD underlying94 rfl rfl (λ_ _ _=>İ)
theorem Y0.ZzM:fB 100 0 0:=fD underlying100 rfl rfl (λ_ _ _=>İ)
theorem Y0.ZzN:fB 100 1 2:=fD underlying100 rfl rfl (λ_ _ _=>İ)
theorem Y0.Vo:fB 100 2 3:=fD underlying100 rfl rfl (λ_ _ _=>İ)
theorem Y0.Vp:fB 118 0 0:=fD underlying118 rfl rfl (λ_ _ _=>İ)
theorem Y0.Gy:fB 118 1 1:=fD underlying118 rfl rfl (λ_ _ _=>İ)
theorem Y0.Vq:fB 120 0 0:=fD underlying120 rfl rfl (λ_ _ _=>İ)
theorem Y0.Vr:fB 120 1 2:=fD underlying120 rfl rfl (λ_ _ _=>İ)
theorem Y0.Vs:fB 129 0 0:=fD underlying129 rfl rfl (λ_ _ _=>İ)
theorem Y0.Vt:fB 129 1 1:=fD underlying129 rfl rfl (λ_ _ _=>İ)
theorem Y0.Vu:fB 129 2 2:=fD underlying129 rfl rfl (λ_ _ _=>İ)
theorem Y0.Vv:fB 129 3 3:=fD underlying129 rfl rfl (λ_ _ _=>İ)
theorem Y0.Mz:fB 147 0 0:=fD underlying147 rfl rfl (λ_ _ _=>İ)
theorem Y0.ZzO:fB 147 1 4:=fD underlying147 rfl rfl (λ_ _ _=>İ)
theorem Y0.ZzP:fB 160 0 0:=fD underlying160 rfl rfl (λ_ _ _=>İ)
theorem Y0.ZzQ:fB 160 1 1:=fD underlying160 rfl rfl (λ_ _ _=>İ)
theorem Y0.Vw:fB 160 2 2:=fD underlying160 rfl rfl (λ_ _ _=>İ)
theorem Y0.Vx:fB 194 0 0:=fD underlying194 rfl rfl (λ_ _ _=>İ)
theorem Y0.ZzR:fB 194 1 1:=fD underlying194 rfl rfl (λ_ _ _=>İ)
theorem Y0.UH:fB 202 0 0:=fD underlying202 rfl rfl (λ_ _ _=>İ)
theorem Y0.zo:fB 212 0 0:=fD underlying212 rfl rfl (λ_ _ _=>İ)
theorem Y0.UI:fB 223 0 0:=fD underlying223 rfl rfl (λ_ _ _=>İ)
theorem Y0.UJ:fB 223 1 4:=fD underlying223 rfl rfl (λ_ _ _=>İ)
theorem Y0.UK:fB 228 0 0:=fD underlying228 rfl rfl (λ_ _ _=>İ)
theorem Y0.ZzS:fB 228 1 3:=fD underlying228 rfl rfl (λ_ _ _=>İ)
theorem Y0.ZzT:fB 281 0 0:=fD underlying281 rfl rfl (λ_ _ _=>İ)
theorem Y0.ZzU:fB 281 1 1:=fD underlying281 rfl rfl (λ_ _ _=>İ)
theorem Y0.ZzV:fB 281 2 2:=fD underlying281 rfl rfl (λ_ _ _=>İ)
def rI:Ky prog 9 Ĳ:=Ky.str underlying9
theorem uM:laidOutB prog=true:=İ
def og:Ky prog 145 (Fin 8->Int):=Ky.arr underlying145 underlying3 İ İ İ uM (Ĥ İ) İ
theorem eC:è prog 3:=by unfold è;kernel_rfl
theorem uY:è prog 4:=by unfold è;kernel_rfl
theorem zV:è prog 5:=by unfold è;kernel_rfl
theorem Du:è prog 9:=by unfold è;kernel_rfl
theorem jc:è prog 24:=by unfold è;kernel_rfl
theorem Ds:è prog 28:=by unfold è;kernel_rfl
theorem yv:è prog 31:=by unfold è;kernel_rfl
theorem sU:è prog 32:=by unfold è;kernel_rfl
theorem Dt:è prog 35:=by unfold è;kernel_rfl
theorem OF:è prog 38:=by unfold è;kernel_rfl
theorem sV:è prog 44:=by unfold è;kernel_rfl
theorem js:è prog 46:=by unfold è;kernel_rfl
theorem mH:è prog 50:=by unfold è;kernel_rfl
theorem sW:è prog 52:=by unfold è;kernel_rfl
theorem q6:è prog 87:=by unfold è;kernel_rfl
theorem wx:è prog 102:=by unfold è;kernel_rfl
theorem qu:è prog 116:=by unfold è;kernel_rfl
theorem ot:è prog 126:=by unfold è;kernel_rfl
theorem l1:è prog 127:=by unfold è;kernel_rfl
theorem qv:è prog 138:=by unfold è;kernel_rfl
theorem wy:è prog 140:=by unfold è;kernel_rfl
theorem sR:è prog 158:=by unfold è;kernel_rfl
theorem sS:è prog 196:=by unfold è;kernel_rfl
theorem sT:è prog 248:=by unfold è;kernel_rfl
theorem je:(prog.info? 3).map (·.size)=some 1:=İ
theorem sz4:(prog.info? 4).map (·.size)=some 1:=İ
theorem sz5:(prog.info? 5).map (·.size)=some 1:=İ
theorem yC:(prog.info? 9).map (·.size)=some 1:=İ
theorem tb:(prog.info? 24).map (·.size)=some 1:=İ
theorem yB:(prog.info? 26).map (·.size)=some 2:=İ
theorem OK:(prog.info? 28).map (·.size)=some 1:=İ
theorem DG:(prog.info? 32).map (·.size)=some 1:=İ
theorem OL:(prog.info? 37).map (·.size)=some 1:=İ
theorem OM:(prog.info? 40).map (·.size)=some 10:=İ
theorem DH:(prog.info? 44).map (·.size)=some 1:=İ
theorem ON:(prog.info? 46).map (·.size)=some 1:=İ
theorem py:(prog.info? 48).map (·.size)=some 3:=İ
theorem kV:(prog.info? 50).map (·.size)=some 1:=İ
theorem DI:(prog.info? 52).map (·.size)=some 1:=İ
theorem ov:(prog.info? 54).map (·.size)=some 3:=İ
theorem kW:(prog.info? 56).map (·.size)=some 11:=İ
theorem ow:(prog.info? 71).map (·.size)=some 8:=İ
theorem DJ:(prog.info? 87).map (·.size)=some 1:=İ
theorem td:(prog.info? 89).map (·.size)=some 9:=İ
theorem OO:(prog.info? 94).map (·.size)=some 7:=İ
theorem s9:(prog.info? 100).map (·.size)=some 4:=İ
theorem DB:(prog.info? 102).map (·.size)=some 1:=İ
theorem wA:(prog.info? 118).map (·.size)=some 2:=İ
theorem wB:(prog.info? 120).map (·.size)=some 4:=İ
theorem wC:(prog.info? 127).map (·.size)=some 1:=İ
theorem DC:(prog.info? 129).map (·.size)=some 4:=İ
theorem DD:(prog.info? 138).map (·.size)=some 1:=İ
theorem DE:(prog.info? 140).map (·.size)=some 1:=İ
theorem wD:(prog.info? 143).map (·.size)=some 8:=İ
theorem wE:(prog.info? 145).map (·.size)=some 8:=İ
theorem qA:(prog.info? 147).map (·.size)=some 12:=İ
theorem DF:(prog.info? 160).map (·.size)=some 3:=İ
theorem ou:(prog.info? 194).map (·.size)=some 2:=İ
theorem ta:(prog.info? 196).map (·.size)=some 1:=İ
theorem wF:(prog.info? 197).map (·.size)=some 5:=İ
theorem ke:(prog.info? 223).map (·.size)=some 8:=İ
theorem l5:(prog.info? 225).map (·.size)=some 64:=İ
theorem tc:(prog.info? 248).map (·.size)=some 1:=İ
theorem wG:(prog.info? 325).map (·.size)=some 32:=İ
theorem z3:(prog.info? 3).map (·.zero)=some (some (.int .i64 0)):=İ
theorem z9:(prog.info? 9).map (·.zero)=some (some (.string ByteArray.empty)):=İ
theorem z26:(prog.info? 26).map (·.zero)=some (some (.agg ([.slice none 0 0,.int .i64 0]).toArray)):=İ
theorem rK:(prog.info? 48).map (·.zero)=some (some (.agg ([.int .i64 0,.slice none 0 0,.slice none 0 0]).toArray)):=İ
theorem z54:(prog.info? 54).map (·.zero)=some (some (.agg ([.int .i64 0,.slice none 0 0,.slice none 0 0]).toArray)):=İ
theorem D6:(prog.info? 56).map (·.zero)=some (some (.agg ([.int .i64 0,.int .i64 0,.slice none 0 0,.slice none 0 0,.int .i64 0,.slice none 0 0,.slice none 0 0,.int .i64 0,.int .i64 0,.int .i64 0,.bool false]).toArray)):=İ
theorem va:(prog.info? 71).map (·.zero)=some (some (.agg (õ (Value.int .i64) 8 (λ_=>0)).toArray)):=İ
theorem H5:(prog.info? 89).map (·.zero)=some (some (.agg ([.int .i64 0,.slice none 0 0,.int .i64 0,.int .i64 0,.int .i64 0,.slice none 0 0,.slice none 0 0,.slice none 0 0,.slice none 0 0]).toArray)):=İ
theorem z94:(prog.info? 94).map (·.zero)=some (some (.agg ([.int .i64 0,.slice none 0 0,.slice none 0 0,.int .i64 0,.slice none 0 0,.slice none 0 0,.int .i64 0]).toArray)):=İ
theorem yH:(prog.info? 100).map (·.zero)=some (some (.agg ([.slice none 0 0,.int .i64 0,.int .i64 0,.int .i64 0]).toArray)):=İ
theorem OZ:(prog.info? 102).map (·.zero)=some (some (.map none)):=İ
theorem D3:(prog.info? 118).map (·.zero)=some (some (.agg ([.bool false,.slice none 0 0]).toArray)):=İ
theorem D4:(prog.info? 120).map (·.zero)=some (some (.agg ([.bool false,.slice none 0 0,.bool false,.slice none 0 0]).toArray)):=İ
theorem O0:(prog.info? 129).map (·.zero)=some (some (.agg ([.slice none 0 0,.slice none 0 0,.slice none 0 0,.int .i64 0]).toArray)):=İ
theorem z138:(prog.info? 138).map (·.zero)=some (some (.map none)):=İ
theorem O1:(prog.info? 140).map (·.zero)=some (some (Value.nilFunc)):=İ
theorem z143:(prog.info? 143).map (·.zero)=some (some (.agg (õ Value.bool 8 (λ_=>false)).toArray)):=İ
theorem z145:(prog.info? 145).map (·.zero)=some (some (.agg (õ (Value.int .i64) 8 (λ_=>0)).toArray)):=İ
theorem O2:(prog.info? 147).map (·.zero)=some (some (.agg (([.bool false,.slice none 0 0,.bool false,.slice none 0 0]:Ŀ Value)++(õ (Value.int .i64) 8 (λ_=>0))).toArray)):=İ
theorem z194:(prog.info? 194).map (·.zero)=some (some (.agg ([.int .i64 0,.slice none 0 0]).toArray)):=İ
theorem z212:(prog.info? 212).map (·.zero)=some (some (.agg ([.slice none 0 0]).toArray)):=İ
theorem O3:(prog.info? 223).map (·.zero)=some (some (.agg ([.bool false,.slice none 0 0,.bool false,.slice none 0 0,.bool false,.slice none 0 0,.bool false,.slice none 0 0]).toArray)):=İ
theorem D5:(prog.info? 225).map (·.zero)=some (some (.agg (([.bool false,.slice none 0 0,.bool false,.slice none 0 0,.bool false,.slice none 0 0,.bool false,.slice none 0 0,.bool false,.slice none 0 0,.bool false,.slice none 0 0,.bool false,.slice none 0 0,.bool false,.slice none 0 0,.bool false,.slice none 0 0,.bool false,.slice none 0 0,.bool false,.slice none 0 0,.bool false,.slice none 0 0,.bool false,.slice none 0 0,.bool false,.slice none 0 0,.bool false,.slice none 0 0,.bool false,.slice none 0 0,.bool false,.slice none 0 0,.bool false,.slice none 0 0,.bool false,.slice none 0 0,.bool false,.slice none 0 0,.bool false,.slice none 0 0,.bool false,.slice none 0 0,.bool false,.slice none 0 0,.bool false,.slice none 0 0,.bool false,.slice none 0 0,.bool false,.slice none 0 0,.bool false,.slice none 0 0,.bool false,.slice none 0 0,.bool false,.slice none 0 0,.bool false,.slice none 0 0,.bool false,.slice none 0 0,.bool false,.slice none 0 0]:Ŀ Value)).toArray)):=İ
theorem O4:(prog.info? 325).map (·.zero)=some (some (.agg (([.bool false,.slice none 0 0,.bool false,.slice none 0 0,.bool false,.slice none 0 0,.bool false,.slice none 0 0,.bool false,.slice none 0 0,.bool false,.slice none 0 0,.bool false,.slice none 0 0,.bool false,.slice none 0 0,.bool false,.slice none 0 0,.bool false,.slice none 0 0,.bool false,.slice none 0 0,.bool false,.slice none 0 0,.bool false,.slice none 0 0,.bool false,.slice none 0 0,.bool false,.slice none 0 0,.bool false,.slice none 0 0]:Ŀ Value)).toArray)):=İ
theorem XX(w:World):(zeroValue 3).run prog w=.ok (.int .i64 0) w:=İ
theorem O5(w:World):(zeroValue 4).run prog w=.ok (.bool false) w:=İ
end Go.Proofs.YtepbagkffgddlaaGreat

namespace Go.EL
open Go.IntKind (i8 i16 i32 i64 u8 u16 u32 u64)
open Go Go.EL Go.RowKit Go.Proofs
structure Zg where
 neg:Bool
 υ:(Ŀ Int)
abbrev rW:Rp Zg:=Rp.via (Rp.pair Rp.bool (Rp.sl (Rp.int .u32))) (λx=>(x.neg,x.υ))
theorem Kw{G:Mem}{K:Nat->Value->Prop}{o:Nat}{x:Zg}(h:AtK rW G K o x):∃d a,(∀(j:Nat) (u:Value),([.bool x.neg,.slice d x.υ.length a]).toArray[j]?=some u->K (o+j) u)/\Δ (Rp.int .u32) G (.slice d x.υ.length a) x.υ:=by obtain⟨c,h,k⟩:=h;obtain⟨p,d1,g,e,m⟩:=h;subst g;replace e:_=([.bool _]:Ŀ Value):=e;subst e;obtain⟨q,i,f⟩:=m;subst i;obtain⟨p3,n,f3⟩:=Δ.form f;subst f3;exact⟨p3,n,λj u l=>k j u (by simpa using l),f⟩
structure Zf where
 num:Zg
 den:Zg
abbrev tx:Rp Zf:=Rp.via (Rp.pair rW rW) (λx=>(x.num,x.den))
theorem Zvu{G:Mem}{K:Nat->Value->Prop}{o:Nat}{x:Zf}(h:AtK tx G K o x):∃f e d a,(∀(j:Nat) (u:Value),([.bool x.num.neg,.slice f x.num.υ.length e,.bool x.den.neg,.slice d x.den.υ.length a]).toArray[j]?=some u->K (o+j) u)/\Δ (Rp.int .u32) G (.slice f x.num.υ.length e) x.num.υ/\Δ (Rp.int .u32) G (.slice d x.den.υ.length a) x.den.υ:=by obtain⟨c,h,s⟩:=h;obtain⟨B,d1,l,r,v⟩:=h;subst l;obtain⟨C,d2,m,h2,k2⟩:=r;subst m;replace h2:_=([.bool _]:Ŀ Value):=h2;subst h2;obtain⟨E,n,i⟩:=k2;subst n;obtain⟨p4,q4,f4⟩:=Δ.form i;subst f4;obtain⟨D,d5,p,g,y⟩:=v;subst p;replace g:_=([.bool _]:Ŀ Value):=g;subst g;obtain⟨F,q,k⟩:=y;subst q;obtain⟨p7,A,f7⟩:=Δ.form k;subst f7;exact⟨p4,q4,p7,A,λj u t=>s j u (by simpa using t),i,k⟩
theorem ZvC{G:Mem}{cs:Ŀ Value}{x:Zf}(h:tx.er G cs x):∃e d c a,cs=[.bool x.num.neg,.slice e x.num.υ.length d,.bool x.den.neg,.slice c x.den.υ.length a]/\Δ (Rp.int .u32) G (.slice e x.num.υ.length d) x.num.υ/\Δ (Rp.int .u32) G (.slice c x.den.υ.length a) x.den.υ:=by obtain⟨t,d1,j,p,q⟩:=h;subst j;obtain⟨u,d2,k,h2,k2⟩:=p;subst k;replace h2:_=([.bool _]:Ŀ Value):=h2;subst h2;obtain⟨y,l,g⟩:=k2;subst l;obtain⟨p4,q4,f4⟩:=Δ.form g;subst f4;obtain⟨v,d5,m,f,r⟩:=q;subst m;replace f:_=([.bool _]:Ŀ Value):=f;subst f;obtain⟨A,n,i⟩:=r;subst n;obtain⟨p7,s,f7⟩:=Δ.form i;subst f7;exact⟨p4,q4,p7,s,rfl,g,i⟩
structure Za where
 c:Zf
 m:(Fin 8->Int)
abbrev Zj:Rp Za:=Rp.via (Rp.pair tx (Rp.vec .i64 8)) (λx=>(x.c,x.m))
theorem ZtQ{G:Mem}{K:Nat->Value->Prop}{o:Nat}{x:Za}(h:AtK Zj G K o x):∃f e d a,(∀(j:Nat) (u:Value),(([.bool x.c.num.neg,.slice f x.c.num.υ.length e,.bool x.c.den.neg,.slice d x.c.den.υ.length a]:Ŀ Value)++(õ (Value.int .i64) 8 x.m)).toArray[j]?=some u->K (o+j) u)/\Δ (Rp.int .u32) G (.slice f x.c.num.υ.length e) x.c.num.υ/\Δ (Rp.int .u32) G (.slice d x.c.den.υ.length a) x.c.den.υ:=by obtain⟨c,h,v⟩:=h;obtain⟨C,d1,m,t,i⟩:=h;subst m;obtain⟨D,d2,n,h2,k2⟩:=t;subst n;obtain⟨E,d3,p,h3,k3⟩:=h2;subst p;replace h3:_=([.bool _]:Ŀ Value):=h3;subst h3;obtain⟨H,q,k⟩:=k3;subst q;obtain⟨p5,q5,f5⟩:=Δ.form k;subst f5;obtain⟨F,d6,r,g,A⟩:=k2;subst r;replace g:_=([.bool _]:Ŀ Value):=g;subst g;obtain⟨I,s,l⟩:=A;subst s;obtain⟨p8,B,f8⟩:=Δ.form l;subst f8;replace i:_=(õ (Value.int .i64) 8 _:Ŀ Value):=i;subst i;exact⟨p5,q5,p8,B,λj u y=>v j u (by simpa using y),k,l⟩
theorem Q4{G:Mem}{cs:Ŀ Value}{x:Za}(h:Zj.er G cs x):∃e d c a,cs=([.bool x.c.num.neg,.slice e x.c.num.υ.length d,.bool x.c.den.neg,.slice c x.c.den.υ.length a]:Ŀ Value)++(õ (Value.int .i64) 8 x.m)/\Δ (Rp.int .u32) G (.slice e x.c.num.υ.length d) x.c.num.υ/\Δ (Rp.int .u32) G (.slice c x.c.den.υ.length a) x.c.den.υ:=by obtain⟨u,d1,k,r,g⟩:=h;subst k;obtain⟨v,d2,l,h2,k2⟩:=r;subst l;obtain⟨y,d3,m,h3,k3⟩:=h2;subst m;replace h3:_=([.bool _]:Ŀ Value):=h3;subst h3;obtain⟨B,n,i⟩:=k3;subst n;obtain⟨p5,q5,f5⟩:=Δ.form i;subst f5;obtain⟨A,d6,p,f,s⟩:=k2;subst p;replace f:_=([.bool _]:Ŀ Value):=f;subst f;obtain⟨C,q,j⟩:=s;subst q;obtain⟨p8,t,f8⟩:=Δ.form j;subst f8;replace g:_=(õ (Value.int .i64) 8 _:Ŀ Value):=g;subst g;exact⟨p5,q5,p8,t,rfl,i,j⟩
structure Zd where
 n:Int
 eqs:(Ŀ (Ŀ Za))
 neqs:(Ŀ (Ŀ Za))
abbrev tT:Rp Zd:=Rp.via (Rp.pair (Rp.int .i64) (Rp.pair (Rp.sl (Rp.sl Zj)) (Rp.sl (Rp.sl Zj)))) (λx=>(x.n,x.eqs,x.neqs))
theorem RO{G:Mem}{K:Nat->Value->Prop}{o:Nat}{x:Zd}(h:AtK tT G K o x):∃f e d a,(∀(j:Nat) (u:Value),([.int .i64 x.n,.slice f x.eqs.length e,.slice d x.neqs.length a]).toArray[j]?=some u->K (o+j) u)/\Δ (Rp.sl Zj) G (.slice f x.eqs.length e) x.eqs/\Δ (Rp.sl Zj) G (.slice d x.neqs.length a) x.neqs:=by obtain⟨c,h,q⟩:=h;obtain⟨t,d1,l,g,s⟩:=h;subst l;replace g:_=([.int .i64 _]:Ŀ Value):=g;subst g;obtain⟨v,d3,m,h3,k3⟩:=s;subst m;obtain⟨y,n,i⟩:=h3;subst n;obtain⟨p4,q4,f4⟩:=Δ.form i;subst f4;obtain⟨A,p,k⟩:=k3;subst p;obtain⟨p5,q5,f5⟩:=Δ.form k;subst f5;exact⟨p4,q4,p5,q5,λj u r=>q j u (by simpa using r),i,k⟩
structure Zc where
 kind:Int
 p:(Ŀ Za)
 o:(Ŀ (Fin 8->Int))
abbrev xh:Rp Zc:=Rp.via (Rp.pair (Rp.int .i64) (Rp.pair (Rp.sl Zj) (Rp.sl (Rp.vec .i64 8)))) (λx=>(x.kind,x.p,x.o))
theorem Jx{G:Mem}{K:Nat->Value->Prop}{o:Nat}{x:Zc}(h:AtK xh G K o x):∃f e d a,(∀(j:Nat) (u:Value),([.int .i64 x.kind,.slice f x.p.length e,.slice d x.o.length a]).toArray[j]?=some u->K (o+j) u)/\Δ Zj G (.slice f x.p.length e) x.p/\Δ (Rp.vec .i64 8) G (.slice d x.o.length a) x.o:=by obtain⟨c,h,q⟩:=h;obtain⟨t,d1,l,g,s⟩:=h;subst l;replace g:_=([.int .i64 _]:Ŀ Value):=g;subst g;obtain⟨v,d3,m,h3,k3⟩:=s;subst m;obtain⟨y,n,i⟩:=h3;subst n;obtain⟨p4,q4,f4⟩:=Δ.form i;subst f4;obtain⟨A,p,k⟩:=k3;subst p;obtain⟨p5,q5,f5⟩:=Δ.form k;subst f5;exact⟨p4,q4,p5,q5,λj u r=>q j u (by simpa using r),i,k⟩
structure Zb where
 id:Int
 k:Zd
 q:Zc
 η:Int
 low:Int
 high:Int
 done:Bool
abbrev Zr:Rp Zb:=Rp.via (Rp.pair (Rp.int .i64) (Rp.pair tT (Rp.pair xh (Rp.pair (Rp.int .i64) (Rp.pair (Rp.int .i64) (Rp.pair (Rp.int .i64) Rp.bool)))))) (λx=>(x.id,x.k,x.q,x.η,x.low,x.high,x.done))
theorem KF{G:Mem}{K:Nat->Value->Prop}{o:Nat}{x:Zb}(h:AtK Zr G K o x):∃f e d a l k i g,(∀(j:Nat) (u:Value),([.int .i64 x.id,.int .i64 x.k.n,.slice f x.k.eqs.length e,.slice d x.k.neqs.length a,.int .i64 x.q.kind,.slice l x.q.p.length k,.slice i x.q.o.length g,.int .i64 x.η,.int .i64 x.low,.int .i64 x.high,.bool x.done]).toArray[j]?=some u->K (o+j) u)/\Δ (Rp.sl Zj) G (.slice f x.k.eqs.length e) x.k.eqs/\Δ (Rp.sl Zj) G (.slice d x.k.neqs.length a) x.k.neqs/\Δ Zj G (.slice l x.q.p.length k) x.q.p/\Δ (Rp.vec .i64 8) G (.slice i x.q.o.length g) x.q.o:=by obtain⟨c,h,hc⟩:=h;obtain⟨c1,d1,Z,E,k1⟩:=h;subst Z;replace E:_=([.int .i64 _]:Ŀ Value):=E;subst E;obtain⟨c3,d3,e3,h3,k3⟩:=k1;subst e3;obtain⟨c4,d4,e4,H,k4⟩:=h3;subst e4;replace H:_=([.int .i64 _]:Ŀ Value):=H;subst H;obtain⟨c6,d6,e6,h6,k6⟩:=k4;subst e6;obtain⟨v7,e7,S⟩:=h6;subst e7;obtain⟨p7,q7,f7⟩:=Δ.form S;subst f7;obtain⟨v8,e8,T⟩:=k6;subst e8;obtain⟨p8,q8,f8⟩:=Δ.form T;subst f8;obtain⟨c9,d9,e9,h9,k9⟩:=k3;subst e9;obtain⟨U,d10,t,m,I⟩:=h9;subst t;replace m:_=([.int .i64 _]:Ŀ Value):=m;subst m;obtain⟨V,d12,v,F,J⟩:=I;subst v;obtain⟨aa,y,r⟩:=F;subst y;obtain⟨O,Q,f13⟩:=Δ.form r;subst f13;obtain⟨ab,A,s⟩:=J;subst A;obtain⟨P,R,f14⟩:=Δ.form s;subst f14;obtain⟨W,d15,B,oY,L⟩:=k9;subst B;replace oY:_=([.int .i64 _]:Ŀ Value):=oY;subst oY;obtain⟨X,d17,C,n,N⟩:=L;subst C;replace n:_=([.int .i64 _]:Ŀ Value):=n;subst n;obtain⟨Y,d19,D,p,q⟩:=N;subst D;replace p:_=([.int .i64 _]:Ŀ Value):=p;subst p;replace q:_=([.bool _]:Ŀ Value):=q;subst q;exact⟨p7,q7,p8,q8,O,Q,P,R,λj u hu=>hc j u (by simpa using hu),S,T,r,s⟩
theorem Q3{G:Mem}{cs:Ŀ Value}{x:Zb}(h:Zr.er G cs x):∃e d c a j i g f,cs=[.int .i64 x.id,.int .i64 x.k.n,.slice e x.k.eqs.length d,.slice c x.k.neqs.length a,.int .i64 x.q.kind,.slice j x.q.p.length i,.slice g x.q.o.length f,.int .i64 x.η,.int .i64 x.low,.int .i64 x.high,.bool x.done]/\Δ (Rp.sl Zj) G (.slice e x.k.eqs.length d) x.k.eqs/\Δ (Rp.sl Zj) G (.slice c x.k.neqs.length a) x.k.neqs/\Δ Zj G (.slice j x.q.p.length i) x.q.p/\Δ (Rp.vec .i64 8) G (.slice g x.q.o.length f) x.q.o:=by obtain⟨c1,d1,V,B,k1⟩:=h;subst V;replace B:_=([.int .i64 _]:Ŀ Value):=B;subst B;obtain⟨c3,d3,W,h3,k3⟩:=k1;subst W;obtain⟨c4,d4,X,D,k4⟩:=h3;subst X;replace D:_=([.int .i64 _]:Ŀ Value):=D;subst D;obtain⟨c6,d6,Y,h6,k6⟩:=k4;subst Y;obtain⟨v7,Z,O⟩:=h6;subst Z;obtain⟨p7,q7,f7⟩:=Δ.form O;subst f7;obtain⟨v8,e8,P⟩:=k6;subst e8;obtain⟨p8,q8,f8⟩:=Δ.form P;subst f8;obtain⟨c9,d9,e9,h9,k9⟩:=k3;subst e9;obtain⟨Q,d10,r,k,E⟩:=h9;subst r;replace k:_=([.int .i64 _]:Ŀ Value):=k;subst k;obtain⟨R,d12,s,C,F⟩:=E;subst s;obtain⟨aa,t,p⟩:=C;subst t;obtain⟨J,L,f13⟩:=Δ.form p;subst f13;obtain⟨ab,u,q⟩:=F;subst u;obtain⟨K,N,f14⟩:=Δ.form q;subst f14;obtain⟨S,d15,v,oY,H⟩:=k9;subst v;replace oY:_=([.int .i64 _]:Ŀ Value):=oY;subst oY;obtain⟨T,d17,y,l,I⟩:=H;subst y;replace l:_=([.int .i64 _]:Ŀ Value):=l;subst l;obtain⟨U,d19,A,m,n⟩:=I;subst A;replace m:_=([.int .i64 _]:Ŀ Value):=m;subst m;replace n:_=([.bool _]:Ŀ Value):=n;subst n;exact⟨p7,q7,p8,q8,J,L,K,N,rfl,O,P,p,q⟩
structure Ze where
 t:(Ŀ Zb)
 next:Int
abbrev Q0:Rp Ze:=Rp.via (Rp.pair (Rp.sl Zr) (Rp.int .i64)) (λx=>(x.t,x.next))
structure Zw where
 t:(Ŀ (Fin 5->Int))
abbrev ZQ:Rp Zw:=Rp.via (Rp.sl (Rp.vec .i8 5)) (λx=>x.t)
theorem ZrF{G:Mem}{K:Nat->Value->Prop}{o:Nat}{x:Zw}(h:AtK ZQ G K o x):∃d a,(∀(j:Nat) (u:Value),([.slice d x.t.length a]).toArray[j]?=some u->K (o+j) u)/\Δ (Rp.vec .i8 5) G (.slice d x.t.length a) x.t:=by obtain⟨c,h,g⟩:=h;obtain⟨l,f,e⟩:=h;subst f;obtain⟨p1,k,f1⟩:=Δ.form e;subst f1;exact⟨p1,k,λj u i=>g j u (by simpa using i),e⟩
structure ZB where
 n:Int
 l:(Ŀ Zw)
 iT:(Ŀ Int)
abbrev Ks:Rp ZB:=Rp.via (Rp.pair (Rp.int .u8) (Rp.pair (Rp.sl ZQ) (Rp.sl (Rp.int .u8)))) (λx=>(x.n,x.l,x.iT))
structure ZN where
 kind:Int
 l:(Ŀ Zw)
 v:(Ŀ Int)
abbrev tW:Rp ZN:=Rp.via (Rp.pair (Rp.int .u8) (Rp.pair (Rp.sl ZQ) (Rp.sl (Rp.int .i8)))) (λx=>(x.kind,x.l,x.v))
theorem ZrG{G:Mem}{K:Nat->Value->Prop}{o:Nat}{x:ZN}(h:AtK tW G K o x):∃d a f e,(∀(j:Nat) (u:Value),([.int .u8 x.kind,.slice d x.l.length a,.slice f x.v.length e]).toArray[j]?=some u->K (o+j) u)/\Δ ZQ G (.slice d x.l.length a) x.l/\Δ (Rp.int .i8) G (.slice f x.v.length e) x.v:=by obtain⟨c,h,q⟩:=h;obtain⟨t,d1,l,g,s⟩:=h;subst l;replace g:_=([.int .u8 _]:Ŀ Value):=g;subst g;obtain⟨v,d3,m,h3,k3⟩:=s;subst m;obtain⟨y,n,i⟩:=h3;subst n;obtain⟨p4,q4,f4⟩:=Δ.form i;subst f4;obtain⟨A,p,k⟩:=k3;subst p;obtain⟨p5,q5,f5⟩:=Δ.form k;subst f5;exact⟨p4,q4,p5,q5,λj u r=>q j u (by simpa using r),i,k⟩
structure Zv where
 fY:Int
 c:ZB
 kind:Int
 p:Zw
 o:Int
 l:(Ŀ ZN)
 id:Int
 Κ:Int
abbrev xa:Rp Zv:=Rp.via (Rp.pair (Rp.int .u8) (Rp.pair Ks (Rp.pair (Rp.int .u8) (Rp.pair ZQ (Rp.pair (Rp.int .u8) (Rp.pair (Rp.sl tW) (Rp.pair (Rp.int .i64) (Rp.int .i64)))))))) (λx=>(x.fY,x.c,x.kind,x.p,x.o,x.l,x.id,x.Κ))
theorem ZpS{G:Mem}{K:Nat->Value->Prop}{o:Nat}{x:Zv}(h:AtK xa G K o x):∃f e d a i g r q,(∀(j:Nat) (u:Value),([.int .u8 x.fY,.int .u8 x.c.n,.slice f x.c.l.length e,.slice d x.c.iT.length a,.int .u8 x.kind,.slice i x.p.t.length g,.int .u8 x.o,.slice r x.l.length q,.int .i64 x.id,.int .i64 x.Κ]).toArray[j]?=some u->K (o+j) u)/\Δ ZQ G (.slice f x.c.l.length e) x.c.l/\Δ (Rp.int .u8) G (.slice d x.c.iT.length a) x.c.iT/\Δ (Rp.vec .i8 5) G (.slice i x.p.t.length g) x.p.t/\Δ tW G (.slice r x.l.length q) x.l:=by obtain⟨c,h,hc⟩:=h;obtain⟨c1,d1,W,C,k1⟩:=h;subst W;replace C:_=([.int .u8 _]:Ŀ Value):=C;subst C;obtain⟨c3,d3,X,h3,k3⟩:=k1;subst X;obtain⟨c4,d4,Y,E,k4⟩:=h3;subst Y;replace E:_=([.int .u8 _]:Ŀ Value):=E;subst E;obtain⟨c6,d6,Z,h6,k6⟩:=k4;subst Z;obtain⟨v7,e7,Q⟩:=h6;subst e7;obtain⟨p7,q7,f7⟩:=Δ.form Q;subst f7;obtain⟨v8,e8,R⟩:=k6;subst e8;obtain⟨p8,q8,f8⟩:=Δ.form R;subst f8;obtain⟨c9,d9,e9,F,k9⟩:=k3;subst e9;replace F:_=([.int .u8 _]:Ŀ Value):=F;subst F;obtain⟨S,d11,s,D,H⟩:=k9;subst s;obtain⟨aa,t,n⟩:=D;subst t;obtain⟨L,O,f12⟩:=Δ.form n;subst f12;obtain⟨T,d13,v,k,I⟩:=H;subst v;replace k:_=([.int .u8 _]:Ŀ Value):=k;subst k;obtain⟨U,d15,y,oY,J⟩:=I;subst y;obtain⟨ab,A,p⟩:=oY;subst A;obtain⟨N,P,f16⟩:=Δ.form p;subst f16;obtain⟨V,d17,B,l,m⟩:=J;subst B;replace l:_=([.int .i64 _]:Ŀ Value):=l;subst l;replace m:_=([.int .i64 _]:Ŀ Value):=m;subst m;exact⟨p7,q7,p8,q8,L,O,N,P,λj u hu=>hc j u (by simpa using hu),Q,R,n,p⟩
structure Zl where
 lo:Zf
 hi:Zf
abbrev Z3:Rp Zl:=Rp.via (Rp.pair tx tx) (λx=>(x.lo,x.hi))
theorem Pz{G:Mem}{K:Nat->Value->Prop}{o:Nat}{x:Zl}(h:AtK Z3 G K o x):∃l k i g f e d a,(∀(j:Nat) (u:Value),([.bool x.lo.num.neg,.slice l x.lo.num.υ.length k,.bool x.lo.den.neg,.slice i x.lo.den.υ.length g,.bool x.hi.num.neg,.slice f x.hi.num.υ.length e,.bool x.hi.den.neg,.slice d x.hi.den.υ.length a]).toArray[j]?=some u->K (o+j) u)/\Δ (Rp.int .u32) G (.slice l x.lo.num.υ.length k) x.lo.num.υ/\Δ (Rp.int .u32) G (.slice i x.lo.den.υ.length g) x.lo.den.υ/\Δ (Rp.int .u32) G (.slice f x.hi.num.υ.length e) x.hi.num.υ/\Δ (Rp.int .u32) G (.slice d x.hi.den.υ.length a) x.hi.den.υ:=by obtain⟨c,h,W⟩:=h;obtain⟨c1,d1,N,U,Y⟩:=h;subst N;obtain⟨c2,d2,O,h2,k2⟩:=U;subst O;obtain⟨c3,d3,P,h3,k3⟩:=h2;subst P;replace h3:_=([.bool _]:Ŀ Value):=h3;subst h3;obtain⟨v5,Q,H⟩:=k3;subst Q;obtain⟨p5,q5,f5⟩:=Δ.form H;subst f5;obtain⟨c6,d6,R,y,Z⟩:=k2;subst R;replace y:_=([.bool _]:Ŀ Value):=y;subst y;obtain⟨v8,S,I⟩:=Z;subst S;obtain⟨p8,q8,f8⟩:=Δ.form I;subst f8;obtain⟨c9,d9,T,V,k9⟩:=Y;subst T;obtain⟨J,d10,r,m,A⟩:=V;subst r;replace m:_=([.bool _]:Ŀ Value):=m;subst m;obtain⟨aa,s,p⟩:=A;subst s;obtain⟨C,E,f12⟩:=Δ.form p;subst f12;obtain⟨L,d13,t,n,B⟩:=k9;subst t;replace n:_=([.bool _]:Ŀ Value):=n;subst n;obtain⟨ab,v,q⟩:=B;subst v;obtain⟨D,F,f15⟩:=Δ.form q;subst f15;exact⟨p5,q5,p8,q8,C,E,D,F,λj u X=>W j u (by simpa using X),H,I,p,q⟩
structure Zk where
 kind:Int
 p:(Ŀ Za)
 n:Int
 d:Int
 r:Int
 o:(Ŀ (Fin 8->Int))
 l:(Ŀ (Ŀ Za))
 s:(Ŀ Int)
 b:(Ŀ (Ŀ Zl))
abbrev yP:Rp Zk:=Rp.via (Rp.pair (Rp.int .i64) (Rp.pair (Rp.sl Zj) (Rp.pair (Rp.int .i64) (Rp.pair (Rp.int .i64) (Rp.pair (Rp.int .i64) (Rp.pair (Rp.sl (Rp.vec .i64 8)) (Rp.pair (Rp.sl (Rp.sl Zj)) (Rp.pair (Rp.sl (Rp.int .i64)) (Rp.sl (Rp.arr Z3 8)))))))))) (λx=>(x.kind,x.p,x.n,x.d,x.r,x.o,x.l,x.s,x.b))
theorem QF{G:Mem}{K:Nat->Value->Prop}{o:Nat}{x:Zk}(h:AtK yP G K o x):∃q p n m l k s r i g,(∀(j:Nat) (u:Value),([.int .i64 x.kind,.slice q x.p.length p,.int .i64 x.n,.int .i64 x.d,.int .i64 x.r,.slice n x.o.length m,.slice l x.l.length k,.slice s x.s.length r,.slice i x.b.length g]).toArray[j]?=some u->K (o+j) u)/\Δ Zj G (.slice q x.p.length p) x.p/\Δ (Rp.vec .i64 8) G (.slice n x.o.length m) x.o/\Δ (Rp.sl Zj) G (.slice l x.l.length k) x.l/\Δ (Rp.int .i64) G (.slice s x.s.length r) x.s/\Δ (Rp.arr Z3 8) G (.slice i x.b.length g) x.b:=by obtain⟨c,h,hc⟩:=h;obtain⟨c1,d1,e1,E,k1⟩:=h;subst e1;replace E:_=([.int .i64 _]:Ŀ Value):=E;subst E;obtain⟨c3,d3,e3,h3,k3⟩:=k1;subst e3;obtain⟨v4,e4,X⟩:=h3;subst e4;obtain⟨p4,q4,f4⟩:=Δ.form X;subst f4;obtain⟨c5,d5,e5,I,k5⟩:=k3;subst e5;replace I:_=([.int .i64 _]:Ŀ Value):=I;subst I;obtain⟨c7,d7,e7,h7,k7⟩:=k5;subst e7;replace h7:_=([.int .i64 _]:Ŀ Value):=h7;subst h7;obtain⟨c9,d9,e9,J,k9⟩:=k7;subst e9;replace J:_=([.int .i64 _]:Ŀ Value):=J;subst J;obtain⟨Y,d11,t,F,L⟩:=k9;subst t;obtain⟨ab,v,a⟩:=F;subst v;obtain⟨P,T,f12⟩:=Δ.form a;subst f12;obtain⟨Z,d13,y,H,N⟩:=L;subst y;obtain⟨ac,A,d⟩:=H;subst A;obtain⟨Q,U,f14⟩:=Δ.form d;subst f14;obtain⟨aa,d15,B,oY,O⟩:=N;subst B;obtain⟨ad,C,e⟩:=oY;subst C;obtain⟨R,V,f16⟩:=Δ.form e;subst f16;obtain⟨ae,D,f⟩:=O;subst D;obtain⟨S,W,f17⟩:=Δ.form f;subst f17;exact⟨p4,q4,P,T,Q,U,R,V,S,W,λj u hu=>hc j u (by simpa using hu),X,a,d,e,f⟩
structure ZF where
 k:Zd
 q:Zc
 e:Int
abbrev ZkA:Rp ZF:=Rp.via (Rp.pair tT (Rp.pair xh (Rp.int .i64))) (λx=>(x.k,x.q,x.e))
structure Zx where
 b:Ze
 id:Int
 e:Int
abbrev ZoA:Rp Zx:=Rp.via (Rp.pair Q0 (Rp.pair (Rp.int .i64) (Rp.int .i64))) (λx=>(x.b,x.id,x.e))
structure Zo where
 id:Int
 p:(Ŀ Za)
abbrev ZM:Rp Zo:=Rp.via (Rp.pair (Rp.int .i64) (Rp.sl Zj)) (λx=>(x.id,x.p))
theorem Zm0{G:Mem}{K:Nat->Value->Prop}{o:Nat}{x:Zo}(h:AtK ZM G K o x):∃d a,(∀(j:Nat) (u:Value),([.int .i64 x.id,.slice d x.p.length a]).toArray[j]?=some u->K (o+j) u)/\Δ Zj G (.slice d x.p.length a) x.p:=by obtain⟨c,h,k⟩:=h;obtain⟨p,d1,g,e,m⟩:=h;subst g;replace e:_=([.int .i64 _]:Ŀ Value):=e;subst e;obtain⟨q,i,f⟩:=m;subst i;obtain⟨p3,n,f3⟩:=Δ.form f;subst f3;exact⟨p3,n,λj u l=>k j u (by simpa using l),f⟩
structure Zy where
 vars:(Ŀ Ĳ)
 eqs:(Ŀ Zo)
 neqs:(Ŀ Zo)
 next:Int
abbrev Zqb:Rp Zy:=Rp.via (Rp.pair (Rp.sl Rp.str) (Rp.pair (Rp.sl ZM) (Rp.pair (Rp.sl ZM) (Rp.int .i64)))) (λx=>(x.vars,x.eqs,x.neqs,x.next))
structure ZE where
 k:Zd
abbrev PV:Rp ZE:=Rp.via tT (λx=>x.k)
structure vo where
 rules:ZE
 c:Zk
abbrev ZnD:Rp vo:=Rp.via (Rp.pair PV yP) (λx=>(x.rules,x.c))
structure vk where
 n:Int
 d:Int
 k:Int
abbrev ZsM:Rp vk:=Rp.via (Rp.pair (Rp.int .i8) (Rp.pair (Rp.int .i8) (Rp.int .u8))) (λx=>(x.n,x.d,x.k))
end Go.EL

namespace Go.EL
open Go.IntKind (i8 i16 i32 i64 u8 u16 u32 u64)
open Go Go.RowKit
abbrev M:=Fin 8->Int
def Ô(a b:M):Nat->Nat->Int
 |0,_=>0
 |n+1,k=>if h:k<8 then(if a ⟨k,h⟩<b ⟨k,h⟩then -1 else if b ⟨k,h⟩<a ⟨k,h⟩then 1 else Ô a b n (k+1))else 0
def Ü(a b:M):Int:=Ô a b 8 0
theorem E6(a b:M):∀(k:Nat),k<=8->(∀i:Fin 8,i.val<k->a i=b i)->Ü a b=Ô a b (8-k) k
 |0,_,_=>rfl
 |k+1,d,h=>by rw[E6 a b k ŉ (λi hi=>h i ŉ)];have c:k<8:=ŉ;have e:=h ⟨k,c⟩ ß;rw[show 8-k=(8-(k+1))+1 by omega];simp[Ô,c,e]
theorem Vl(a b:M){k:Nat}(c:k<8)(h:∀i:Fin 8,i.val<k->a i=b i)(d:a ⟨k,c⟩<b ⟨k,c⟩):Ü a b = -1:=by rw[E6 a b k ŉ h,show 8-k=(7-k)+1 by omega];simp[Ô,c,d]
theorem Vk(a b:M){k:Nat}(c:k<8)(h:∀i:Fin 8,i.val<k->a i=b i)(d:b ⟨k,c⟩<a ⟨k,c⟩):Ü a b=1:=by rw[E6 a b k ŉ h,show 8-k=(7-k)+1 by omega];have:¬a ⟨k,c⟩<b ⟨k,c⟩:=ŉ;simp[Ô,c,d,this]
theorem Vj(a b:M)(h:∀i,a i=b i):Ü a b=0:=by rw[E6 a b 8 ŉ (λi _=>h i)];rfl
theorem Q2(a b:M):∀n k,Ô b a n k = - Ô a b n k
 |0,_=>by simp[Ô]
 |n+1,k=>by
  simp only[Ô];split
  .rename_i h;rw[Q2 a b n (k+1)];split<;>split<;>first|omega|(split<;>omega)
  rfl
theorem J6(a b c:M):∀n k,Ô a b n k<=0->Ô b c n k<=0->Ô a c n k<=0/\((Ô a b n k<0\/Ô b c n k<0)->Ô a c n k<0)
 |0,_=>by simp[Ô]
 |n+1,k=>by
  have f:=J6 a b c n (k+1);simp only[Ô];by_cases h:k<8
  .simp only[ŷ h];by_cases e:a ⟨k,h⟩<b ⟨k,h⟩
   .by_cases h2:b ⟨k,h⟩<c ⟨k,h⟩
    .simp[e,h2,show a ⟨k,h⟩<c ⟨k,h⟩ by omega]
    by_cases h3:c ⟨k,h⟩<b ⟨k,h⟩
    .simp[h2,h3]
    simp[show a ⟨k,h⟩<c ⟨k,h⟩ by omega]
   by_cases d:b ⟨k,h⟩<a ⟨k,h⟩
   .simp[e,d]
   by_cases h2:b ⟨k,h⟩<c ⟨k,h⟩
   .simp[show a ⟨k,h⟩<c ⟨k,h⟩ by omega]
   by_cases h3:c ⟨k,h⟩<b ⟨k,h⟩
   .simp[h2,h3]
   simp only[e,d,h2,h3,aaN,show ¬a ⟨k,h⟩<c ⟨k,h⟩ by omega,show ¬c ⟨k,h⟩<a ⟨k,h⟩ by omega];exact f
  simp[h]
theorem QG(a b:M):∀n k,n+k=8->Ô a b n k=0->∀i:Fin 8,k<=i.val->a i=b i
 |0,k,e,_,i,hi=>by have:=i.isLt;omega
 |n+1,k,e,d,i,hi=>by
  have c:k<8:=ŉ;simp only[Ô,ŷ c]at d;by_cases f:a ⟨k,c⟩<b ⟨k,c⟩
  .simp[f]at d
  by_cases h2:b ⟨k,c⟩<a ⟨k,c⟩
  .simp[f,h2]at d
  simp only[f,h2,aaN]at d;by_cases g:i.val=k
  .have:i=⟨k,c⟩:=abh g;subst this;omega
  exact QG a b n (k+1) ŉ d i ŉ
theorem tZ(a b:M):Ü b a = - Ü a b:=Q2 a b 8 0
theorem ZpU{a b c:M}(d:Ü a b<=0)(h2:Ü b c<=0):Ü a c<=0:=(J6 a b c 8 0 d h2).1
theorem J7{a b c:M}(d:Ü a b<=0)(h2:Ü b c<=0)(h:Ü a b<0\/Ü b c<0):Ü a c<0:=(J6 a b c 8 0 d h2).2 h
theorem A9(a:M):Ü a a=0:=Vj a a λ_=>rfl
theorem uh{a b:M}(h:Ü a b=0):a=b:=funext λi=>QG a b 8 0 rfl h i (Ĝ _)
theorem yA:Go.Sort.SWO (Go.Proofs.ltOf λa b=>Ü b a) where
 irrefl x:=by simp[Go.Proofs.ltOf,A9]
 trans x y z d h2:=by simp only[Go.Proofs.ltOf,Ě]at *;exact J7 (a:=z) (b:=y) (c:=x) ŉ ŉ (.inl h2)
 ntrans x y z d h2:=by simp only[Go.Proofs.ltOf,aau]at *;have a:=tZ x y;have b:=tZ y z;have c:=tZ x z;have:=ZpU (a:=x) (b:=y) (c:=z) ŉ ŉ;omega
end Go.EL

