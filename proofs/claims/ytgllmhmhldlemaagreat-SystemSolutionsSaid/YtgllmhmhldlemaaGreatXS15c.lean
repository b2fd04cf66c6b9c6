/- The law SystemSolutions holds for every input: a part of its proof (what the code does, plain models, and what they return). No condition. -/
import Derived.Test.YtgllmhmhldlemaaGreatRows
import Derived.Test.YtgllmhmhldlemaaGreatXS15b
import Derived.Test.YtgllmhmhldlemaaGreatXS15a
import Derived.RangeFuncGives
import Derived.RangeFuncIn
import Derived.RangeFuncLeaves
import Derived.Maps.RangeRun
import Derived.TacticsIn
import Derived.OwnWalkIn
import Derived.DeepKeys4
import Derived.Shelf.SortG.Plain
import Derived.Shelf.SortG.SortNone
import Derived.OrdersIn
import Derived.Shelf.SlLaysF
import Derived.Shelf.SlSortCmp.Pdq1
import Derived.Test.YtgllmhmhldlemaaGreatProg
set_option linter.unusedVariables false
set_option linter.unusedSimpArgs false
namespace Go.Proofs.YtgllmhmhldlemaaGreat
open Go.IntKind (i8 i16 i32 i64 u8 u16 u32 u64)
open Go.Proofs.Tryz
open Go Go.EL Go.RowKit Go.Proofs
theorem ownK:ownKnob prog.godebug=none:=by kernel_rfl
theorem laidK:laidOutB prog=true:=by kernel_rfl
end Go.Proofs.YtgllmhmhldlemaaGreat

namespace Go.Proofs.YtgllmhmhldlemaaGreat
open Go.IntKind (i8 i16 i32 i64 u8 u16 u32 u64)
open Go.Proofs.Tryz
open Go Go.EL Go.RowKit Go.Proofs
theorem and2{a b:Bool}(h:a=true)(k:b=true):(a && b)=true:=by rw[h,k]; rfl
theorem j0:(Rows.systemSolutionsRow.wf (OpenSpec.ofChange Rows.systemSolutionsSpec))=true:=by kernel_rfl
theorem j1:(laidOutB prog)=true:=by kernel_rfl
theorem j2:(mapsRowed prog)=true:=by kernel_rfl
theorem j3:(Tryz.f3.params.all (prog.readableRec ·))=true:=by kernel_rfl
theorem j4:(namedTie prog Rows.systemSolutionsRow.named Rows.systemSolutionsSpec.vars)=true:=by kernel_rfl
theorem j5:((Rows.systemSolutionsRow.stops == []))=true:=by kernel_rfl
theorem j6:((prog.stops == []))=true:=by kernel_rfl
theorem j7:((Rows.systemSolutionsRow.knobs == []))=true:=by kernel_rfl
theorem j8:((prog.stopKnobs == []))=true:=by kernel_rfl
theorem j9:((Rows.systemSolutionsRow.inPlace == prog.inPlace 3))=true:=by kernel_rfl
theorem j10:((Rows.systemSolutionsRow.unfollowed == prog.unfollowed 3))=true:=by kernel_rfl
theorem j11:((Rows.systemSolutionsRow.recurses == prog.recurses 3))=true:=by kernel_rfl
theorem j12:((Rows.systemSolutionsRow.named == prog.varsNamed 3))=true:=by kernel_rfl
theorem j13:((Rows.systemSolutionsRow.maps == (Tryz.f3.params.toList++Rows.systemSolutionsSpec.plain.varTypes prog).any (prog.mapsRec ·)))=true:=by kernel_rfl
theorem j14:((Rows.systemSolutionsRow.ifaces == (Tryz.f3.params.toList++Rows.systemSolutionsSpec.plain.varTypes prog).any (prog.ifacesRec ·)))=true:=by kernel_rfl
theorem j15:((Rows.systemSolutionsRow.mapsOut == prog.mapsAmong Tryz.f3.resultTypes.toList))=true:=by kernel_rfl
theorem j16:((Rows.systemSolutionsRow.loops == (Tryz.f3.params.toList++Rows.systemSolutionsSpec.plain.varTypes prog).any (prog.loopsFrom ·)))=true:=by kernel_rfl
theorem j17:((Rows.systemSolutionsRow.wideKeys == (Tryz.f3.params.toList++Rows.systemSolutionsSpec.plain.varTypes prog++Tryz.f3.resultTypes.toList).any (prog.wideKeysFrom ·)))=true:=by kernel_rfl
theorem j18:(Rows.systemSolutionsSpec.vars.all (prog.varReadable ·))=true:=by kernel_rfl
theorem j19:(Tryz.f3.resultTypes.all (fun t=>prog.readableRec t && decide (t<prog.types.size)))=true:=by kernel_rfl
theorem j20:((Rows.systemSolutionsRow.ifacesOut == Tryz.f3.resultTypes.toList.any (prog.ifacesRec ·)))=true:=by kernel_rfl
theorem j21:((Rows.systemSolutionsRow.loopsOut == Tryz.f3.resultTypes.toList.any (prog.loopsFrom ·)))=true:=by kernel_rfl
theorem j22:((Rows.systemSolutionsRow.plainKeys == prog.plainKeys))=true:=by kernel_rfl
theorem j23:(Rows.systemSolutionsRow.shortTexts.isNone)=true:=by kernel_rfl
theorem j24:(prog.stopsHeard)=true:=by kernel_rfl
theorem j25:(prog.mayEnter)=true:=by kernel_rfl
theorem j26:((Rows.systemSolutionsRow.lifted == prog.liftsFinal))=true:=by kernel_rfl
theorem j27:((prog.make == some Rows.systemSolutionsRow.make))=true:=by kernel_rfl
theorem j28:((Rows.systemSolutionsRow.kinds == (if Rows.systemSolutionsRow.domain.isEmpty then [] else Tryz.f3.params.toList.map fun t=>match prog.underlying t with|some (.int k)=>some k|_=>none)))=true:=by kernel_rfl
theorem j29:((Rows.systemSolutionsRow.pinned == Rows.systemSolutionsRow.pinnedBy))=true:=by kernel_rfl
theorem j30:((Rows.systemSolutionsRow.veiled == (Tryz.f3.params.toList++Rows.systemSolutionsSpec.plain.varTypes prog++Tryz.f3.resultTypes.toList).any (prog.veiledRec ·)))=true:=by kernel_rfl
theorem j31:(Rows.systemSolutionsRow.veiledFits prog Tryz.f3.params.toList (Tryz.f3.params.toList++Rows.systemSolutionsSpec.plain.varTypes prog++Tryz.f3.resultTypes.toList))=true:=by kernel_rfl
set_option maxRecDepth 100000 in
theorem jAll:joinedFacts prog 3 Tryz.f3 Rows.systemSolutionsSpec Rows.systemSolutionsRow=true:=by
 unfold joinedFacts
 exact and2 (and2 (and2 (and2 (and2 (and2 (and2 (and2 (and2 (and2 (and2 (and2 (and2 (and2 (and2 (and2 (and2 (and2 (and2 (and2 (and2 (and2 (and2 (and2 (and2 (and2 (and2 (and2 (and2 (and2 (and2 j0 j1) j2) j3) j4) j5) j6) j7) j8) j9) j10) j11) j12) j13) j14) j15) j16) j17) j18) j19) j20) j21) j22) j23) j24) j25) j26) j27) j28) j29) j30) j31
end Go.Proofs.YtgllmhmhldlemaaGreat

namespace Go.EL
open Go.IntKind (i8 i16 i32 i64 u8 u16 u32 u64)
open Go Go.RowKit Go.Proofs Go.MapKept
theorem Zme{P:Program}{o:Oper}{a:Act}{w:World}{K K':Act->World->Prop}{Q:Post}{n l:Nat}(hd:∀ c,o.op≠.defer c)(hK:∀ a w,K a w->K' a w)(h:o.wp P a w K Q):o.wpIn (Fence.wide.inRound l) n P a w K' Q:=by
 refine⟨fun _ _=>trivial,?_⟩
 rw[Oper.semAt_plain _ _ _ hd]
 unfold Oper.wp at h
 generalize (execOp a.eval o).run P w=res at h ⊢
 cases res with
 | ok nx w'=>
  cases nx <;> simp only[Oper.upon] at h <;> simp only[Oper.uponIn]
  case value v=>exact hK _ _ h
  case skip=>exact hK _ _ h
  case defer d=>exact hK _ _ h
  case enter f args=>exact⟨fun h=>by simp[Fence.inRound,Fence.wide] at h,(callsIn_wide (n:=n-1)).2 (h.mono fun e w'' he=>by cases e <;> first|exact hK _ _ he|exact he)⟩
  case row row args=>exact⟨fun h=>by simp[Fence.inRound,Fence.wide] at h,fun c cs _=>let ⟨v,w',r,s⟩:=h c cs; ⟨v,w',hK _ _ r,stepsIn_wide.2 s⟩⟩
 | halt x w'=>cases x <;> first|exact h.elim|exact h
theorem Zfl{P:Program}{ops:Array Oper}{Q:Post}{n r:Nat}(hQ:¬ LetsOut Q):∀ {l:List Oper}{a:Act}{w:World},(∀ o ∈ l,∀ c,o.op≠.defer c)->wpList P ops Q l a w->wpListIn (Fence.wide.inRound r) n P ops Q l a w
 | [],_,_,_,h=>h
 | o::l,a,w,hd,h=>by
  unfold wpList at h
  unfold wpListIn
  split at h
  .rename_i hw
   rw[if_pos hw]
   rcases h with h|h
   .exact Zme (hd o (by simp)) (fun a w h'=>Zfl hQ (fun o' ho'=>hd o' (by simp[ho'])) h') h
   exact absurd h.2 hQ
  rename_i hw
  rw[if_neg hw]
  exact⟨fun _ _=>trivial,Zfl hQ (fun o' ho'=>hd o' (by simp[ho'])) h⟩
theorem ZjH{P:Program}{l:List Oper}{id n r:Nat}{Q:Post}{a:Act}{w:World}(hQ:¬ LetsOut Q)(hd:∀ o ∈ l,∀ c,o.op≠.defer c)(h:wpList P l.toArray Q l a w):(Code.region id l.toArray false).wpIn (Fence.wide.inRound r) n P Q a w:=by
 refine wpIn_region ?_
 have:=wpOpsIn_eq_wpListIn (F:=Fence.wide.inRound r) (n:=n) (P:=P) (ops:=l.toArray) (Q:=Q) l 0 (fun j=>by simp)
 rw[List.range_eq_range',List.size_toArray,this]
 exact Zfl hQ hd h
section
variable {P:Program}{N:Nat}{w0:Bs}{G0 G:Mem}{L:Lo}
theorem St.putLoop{w:World}{l key:Nat}{r r':Loop}(hs:St w0 G0 G L w)(hl:L.get key=some ⟨l,.loop r,0⟩):St w0 G0 G ((key,some ⟨l,.loop r',0⟩)::L) (w.putObj l (.loop r')):=by
 have hb:=(hs.loc key _ hl).1
 have hlt:=(Array.getElem?_eq_some_iff.1 hb).1
 exact hs.upd hl (World.putObj_heap_same hlt) (Nat.le_refl _) (fun k _ hk=>absurd hk (Nat.not_lt_zero k)) (fun k hk=>World.putObj_heap_other hk) rfl rfl rfl rfl (by simp)
end
structure Stp (B:Nat) (W W':World):Prop where
 os:W'.os=W.os
 tape:W'.tape=W.tape
 output:W'.output=W.output
 drawn:W.drawn<=W'.drawn
 size:W.heap.size<=W'.heap.size
 block:∀ (k:Nat) (o:Obj),W.heap[k]? = some o->(k<B\/o.isWalk=false)->W'.heap[k]? = some o
theorem Stp.trans{B:Nat}{W W' W'':World}(h:Stp B W W')(k:Stp B W' W''):Stp B W W'':=
 ⟨k.os.trans h.os,k.tape.trans h.tape,k.output.trans h.output,Nat.le_trans h.drawn k.drawn,Nat.le_trans h.size k.size,fun j o e1 e2=>k.block j o (h.block j o e1 e2) e2⟩
theorem Stp.alloc(B:Nat)(W:World)(o:Obj):Stp B W (W.alloc o):=
 ⟨rfl,rfl,rfl,Nat.le_refl _,by simp,fun k o' h _=>(Below.heap_alloc W o k (Array.getElem?_eq_some_iff.1 h).1).trans h⟩
structure Rng (b r:Nat) (es:Array MapEntry) (clock:Nat) (cons:List MapEntry) (left:Nat) (w:World):Prop where
 map:w.heap[b]? = some (.map es clock)
 iter:∃ seen c0,w.heap[r]? = some (.mapIter (some b) clock seen c0)/\clock<=c0/\(leftOf es seen).size=left/\∀ x,x ∈ cons↔x ∈ es.toList/\seen.contains x.born=true
 nodup:cons.Nodup
theorem born_inj{es:Array MapEntry}{clock:Nat}(h:Stamped es clock){x y:MapEntry}(hx:x ∈ es.toList)(hy:y ∈ es.toList)(e:x.born=y.born):x=y:=by
 have hn:=h.2.1
 have:∀ (l:List MapEntry),(l.map (·.born)).Nodup->x ∈ l->y ∈ l->x=y:=by
  intro l
  induction l with
  | nil=>intro _ hx; cases hx
  | cons z l ih=>
   intro hn hx hy
   simp only[List.map_cons,List.nodup_cons,List.mem_map,not_exists,not_and] at hn
   rcases List.mem_cons.1 hx with h1|h1 <;> rcases List.mem_cons.1 hy with h2|h2
   .rw[h1,h2]
   .exact absurd (by rw[<- e,h1]) (hn.1 y h2)
   .exact absurd (by rw[e,h2]) (hn.1 x h1)
   exact ih hn.2 h1 h2
 exact this _ hn hx hy
section
variable {P:Program}{b r:Nat}{es:Array MapEntry}{clock:Nat}{cons:List MapEntry}{left:Nat}{w:World}
theorem Rng.next(h:Rng b r es clock cons left w)(hS:Stamped es clock)(ty:TypeId):
  (left=0/\(Instr.next (.pointer (some ⟨r,0,none⟩)) false ty).run P w = .ok (.tuple #[.bool false]) w)\/
  ∃ e ∈ es.toList,∃ w' left',(¬ e ∈ cons)/\(Instr.next (.pointer (some ⟨r,0,none⟩)) false ty).run P w = .ok (.tuple #[.bool true,e.key,e.val]) w'/\Rng b r es clock (cons++[e]) left' w'/\left'<left/\
   (Instr.entry (.pointer (some ⟨r,0,none⟩))).run P w' = .ok (.tuple #[e.key,e.val]) w'/\∀ B,B<=r->Stp B w w':=by
 obtain⟨seen,c0,hr,hc,hl,hm⟩:=h.iter
 rcases run_next_at (P:=P) w ty r b clock c0 seen es clock hr h.map hS.1 hc with ⟨h0,h1⟩|⟨e,he,w1,hw1,h1⟩
 .exact .inl ⟨by omega,h1⟩
 have he':e ∈ es.toList/\seen.contains e.born=false:=by
  simp only[leftOf,Array.toList_filter,List.mem_filter,Bool.not_eq_true'] at he
  exact he
 have hrb:r≠b:=fun e'=>by subst e'; have:=h.map; rw[hr] at this; cases this
 have hrl:r<w.heap.size:=(Array.getElem?_eq_some_iff.1 hr).1
 have hsame:w1.heap=w.heap:=by rcases hw1 with rfl|rfl <;> rfl
 have hdr:w.drawn<=w1.drawn:=by rcases hw1 with rfl|rfl; exact Nat.le_refl _; exact Nat.le_succ _
 have hor:w1.os=w.os/\w1.tape=w.tape/\w1.output=w.output:=by rcases hw1 with rfl|rfl <;> exact⟨rfl,rfl,rfl⟩
 have hn1:(ChangeMaps.setBlock w1 r (.mapIter (some b) clock (seen.push e.born) clock)).heap[r]? = some (.mapIter (some b) clock (seen.push e.born) clock):=by
  simp[ChangeMaps.setBlock,hsame,hrl]
 have hn2:∀ k,k≠r->(ChangeMaps.setBlock w1 r (.mapIter (some b) clock (seen.push e.born) clock)).heap[k]? = w.heap[k]?:=fun k hk=>by
  simp[ChangeMaps.setBlock,hsame,Array.getElem?_setIfInBounds,Ne.symm hk]
 refine .inr ⟨e,he'.1,ChangeMaps.setBlock w1 r (.mapIter (some b) clock (seen.push e.born) clock),(leftOf es (seen.push e.born)).size,fun hc'=>by { have:=((hm e).1 hc').2; rw[he'.2] at this; cases this },h1,⟨(hn2 b (Ne.symm hrb)).trans h.map,⟨_,clock,hn1,Nat.le_refl _,rfl,fun x=>?_⟩,?_⟩,?_,?_,fun B hB=>⟨hor.1,hor.2.1,hor.2.2,hdr,by simp[ChangeMaps.setBlock,hsame],fun k o hk ho=>?_⟩⟩
 .simp only[List.mem_append,List.mem_singleton,Array.contains_push,Bool.or_eq_true,beq_iff_eq]
  constructor
  .rintro (hx|rfl)
   .exact⟨((hm x).1 hx).1,.inl ((hm x).1 hx).2⟩
   exact⟨he'.1,.inr rfl⟩
  rintro⟨hx,hx'|hx'⟩
  .exact .inl ((hm x).2 ⟨hx,hx'⟩)
  exact .inr (born_inj hS hx he'.1 hx')
 .refine List.nodup_append.2 ⟨h.nodup,by simp,fun a ha c hc'=>?_⟩
  simp only[List.mem_singleton] at hc'
  subst hc'
  intro e'
  subst e'
  have:=((hm a).1 ha).2
  rw[he'.2] at this; cases this
 .have hsub:leftOf es (seen.push e.born)=(leftOf es seen).filter fun x=>x.born != e.born:=by
   simp only[leftOf,Array.filter_filter,Array.contains_push,Bool.not_or]
   congr 1
   funext x
   rw[Bool.and_comm]; rfl
  rw[hsub,<- hl]
  have:∀ (l:List MapEntry),e ∈ l->(l.filter fun x=>x.born != e.born).length<l.length:=by
   intro l hl'
   have h1:=List.length_filter_le (fun x:MapEntry=>x.born != e.born) l
   rcases Nat.lt_or_ge (l.filter fun x=>x.born != e.born).length l.length with h2|h2
   .exact h2
   have:=List.length_filter_eq_length_iff.1 (Nat.le_antisymm h1 h2) e hl'
   simp at this
  have:=this (leftOf es seen).toList he
  have e2:((leftOf es seen).filter fun x=>x.born != e.born).size=((leftOf es seen).toList.filter fun x=>x.born != e.born).length:=by
   rw[<- Array.toList_filter,Array.length_toList]
  rw[e2,<- Array.length_toList (xs:=leftOf es seen)]
  exact this
 .exact run_entry_at _ r b clock seen es clock e hn1 ((hn2 b (Ne.symm hrb)).trans h.map) he'.1 hS.2.1
 by_cases hkr:k=r
 .subst hkr
  rw[hr] at hk; cases hk
  rcases ho with ho|ho
  .omega
  cases ho
 rw[hn2 k hkr]; exact hk
end
end Go.EL
namespace Go.EL
open Go.IntKind (i8 i16 i32 i64 u8 u16 u32 u64)
open Go Go.RowKit Go.Proofs Go.MapKept
section
variable {P:Program}{N:Nat}{Q:Post}{fr:Fr}{S:Asrt}{ops:Array Oper}{l:List Oper}{dst:Option Nat}{ty:TypeId}{pos:String}{af:Array Edge}{g:Option (Nat×Bool)}
def WLI(P:Program)(N:Nat)(ops:Array Oper)(Q:Post)(l:List Oper)(fr:Fr)(S:Asrt):Prop:=∀ a w,Rel N fr a->S w->wpListIn Fence.wide 0 P ops Q l a w
theorem WLI.nil(h:WE N Q .normal fr S):WLI P N ops Q [] fr S:=h
theorem WLI.y0{op:Op}{v:Value}(hg:guardOK ops fr ⟨dst,op,ty,pos,af,g⟩ true)(h:Y0 P N ⟨dst,op,ty,pos,af,g⟩ fr S v)(hn:∀ c,op≠.defer c)(hd:dstOK N dst)(k:WLI P N ops Q l (putFr dst v fr) S):WLI P N ops Q (⟨dst,op,ty,pos,af,g⟩::l) fr S:=fun a w ha hs=>by
 unfold wpListIn
 rw[if_pos (ha.wanted hg)]
 refine⟨fun _ _=>trivial,?_⟩
 rw[Oper.semAt_plain _ _ _ hn,h a w ha hs]
 exact k _ w (ha.putFr v hd) hs
theorem WLI.yield{x y:Operand}{ts:Array TypeId}{loop:Nat}{u:Value}{Φ:Value->Asrt}(hg:guardOK ops fr ⟨dst,.call ⟨.value x,#[y],ts⟩,ty,pos,af,g⟩ true)(hd:dstOK N dst)(hx:fr.ev x=some (.func (.yield loop) #[] #[]))(hy:fr.ev y=some u)
  (hY:∀ w,S w->YieldAt Fence.wide 0 P loop #[u] w fun e w'=>∃ v,e = .returned v/\Φ v w') (k:∀ v,WLI P N ops Q l (putFr dst v fr) (Φ v)):WLI P N ops Q (⟨dst,.call ⟨.value x,#[y],ts⟩,ty,pos,af,g⟩::l) fr S:=fun a w ha hs=>by
 unfold wpListIn
 rw[if_pos (ha.wanted hg)]
 refine⟨fun _ _=>trivial,?_⟩
 rw[Oper.semAt_plain _ _ _ (fun c h=>by cases h)]
 obtain⟨fn,tmps,assign,body,h1,h2⟩:=hY w hs
 have:(execOp a.eval ⟨dst,.call ⟨.value x,#[y],ts⟩,ty,pos,af,g⟩).run P w = .ok (.round loop fn tmps assign body) w:=by
  simp[execOp,resolve,ha.ev hx,ha.ev hy,Deferred.ofValue,invoke,h1]
 rw[this]
 refine⟨fun h=>by simp[Fence.wide] at h,h2.mono fun e w' ⟨v,e1,e2⟩=>?_⟩
 subst e1
 exact k v _ w' (ha.putFr v hd) e2
theorem WC.regionI{id:Nat}{l:List Oper}(h:WLI P N l.toArray Q l fr S):WC P N (.region id l.toArray false) Q fr S:=fun a w ha hs=>by
 refine (wpIn_wide (n:=0)).1 (wpIn_region ?_)
 have:=wpOpsIn_eq_wpListIn (F:=Fence.wide) (n:=0) (P:=P) (ops:=l.toArray) (Q:=Q) l 0 (fun j=>by simp)
 rw[List.range_eq_range',List.size_toArray,this]
 exact h a w ha hs
end
end Go.EL
namespace Go.EL
open Go.IntKind (i8 i16 i32 i64 u8 u16 u32 u64)
open Go Go.RowKit Go.Proofs Go.MapKept
end Go.EL
namespace Go.EL
open Go.IntKind (i8 i16 i32 i64 u8 u16 u32 u64)
open Go Go.RowKit Go.Proofs Go.MapKept
theorem MapL.keys{K V:Type}{enc:K->Value}{Rv:K->Value->V->Prop}:∀ {es:List MapEntry}{D:List (K×V)},MapL enc Rv es D->es.map (·.key)=(D.map (·.1)).map enc
 | [],[],_=>rfl
 | _::_,_::_,h=>by simp only[List.map_cons,List.cons.injEq]; exact⟨h.1,MapL.keys h.2.2⟩
 | [],_::_,h=>by cases h
 | _::_,[],h=>by cases h
end Go.EL
namespace Go.EL
open Go.IntKind (i8 i16 i32 i64 u8 u16 u32 u64)
open Go Go.RowKit Go.Proofs
end Go.EL
namespace Go.EL
open Go.IntKind (i8 i16 i32 i64 u8 u16 u32 u64)
open Go Go.RowKit Go.Proofs
theorem Lo.ZoI{R L:Lo}{i:Nat}{x:Ow}(h:R.get i=some x):Lo.get (R++L) i=some x:=by
 induction R with
 | nil=>simp[Lo.get] at h
 | cons p R ih=>
  obtain⟨k,q⟩:=p
  simp only[List.cons_append]
  rw[Lo.Zi] at h ⊢
  split at h
  .rename_i e; rw[if_pos e]; exact h
  rename_i e; rw[if_neg e]; exact ih h
theorem Lo.ZnD{R L:Lo}{i:Nat}(h:i ∉ R.map (·.1)):Lo.get (R++L) i=L.get i:=by
 induction R with
 | nil=>rfl
 | cons p R ih=>
  obtain⟨k,q⟩:=p
  simp only[List.map_cons,List.mem_cons,not_or] at h
  simp only[List.cons_append]
  rw[Lo.Zi,if_neg (fun e=>h.1 e.symm)]
  exact ih h.2
theorem Lo.Zma{R:Lo}{i:Nat}{x:Ow}(h:R.get i=some x):i ∈ R.map (·.1):=by
 induction R with
 | nil=>simp[Lo.get] at h
 | cons p R ih=>
  obtain⟨k,q⟩:=p
  rw[Lo.Zi] at h
  split at h
  .rename_i e; simp[e]
  simp only[List.map_cons,List.mem_cons]; exact .inr (ih h)
def YCtr(P:Program)(l:Nat)(u:Value)(L1:Lo)(pre:Mem->Prop)(post:Mem->Lo->Bool->Prop):Prop:=
 ∀ w G,Hp G L1 w->pre G->YieldAt Fence.wide 0 P l #[u] w fun e w'=>∃ b G' L',e = .returned (.bool b)/\Ext w G L1 w' G' L'/\post G' L' b
section
variable {P:Program}{N:Nat}{Q:Post}{fr:Fr}{S:Asrt}{ops:Array Oper}{l:List Oper}{dst:Option Nat}{ty:TypeId}{pos:String}{af:Array Edge}{g:Option (Nat×Bool)}
variable {w0:Bs}{G0 G:Mem}{L:Lo}
def WCI(P:Program)(N l:Nat)(c:Code)(Q:Post)(fr:Fr)(S:Asrt):Prop:=∀ a w,Rel N fr a->S w->c.wpIn (Fence.wide.inRound l) 0 P Q a w
theorem Zc6{K:Act->World->Prop}(h:¬ LetsOut Q):¬ LetsOut (Exit.then K Q):=fun ⟨a,w,h'⟩=>h ⟨a,w,h'⟩
theorem Za2{id:Nat}(h:¬ LetsOut Q):¬ LetsOut (Exit.inBlock id Q):=fun ⟨a,w,h'⟩=>h ⟨a,w,h'⟩
section
variable {r:Nat}
theorem WCI.seq{x y:Code}(h:WCI P N r x (Exit.then (y.wpIn (Fence.wide.inRound r) 0 P Q) Q) fr S):WCI P N r (.seq x y) Q fr S:=fun a w ha hs=>wpIn_seq (h a w ha hs)
theorem WCI.then{c:Code}(h:WCI P N r c Q fr S):WE N (Exit.then (c.wpIn (Fence.wide.inRound r) 0 P Q) Q) .normal fr S:=h
theorem WCI.skip(h:WE N Q .normal fr S):WCI P N r .skip Q fr S:=fun a w ha hs=>wpIn_skip (h a w ha hs)
theorem WCI.exit{id:Nat}(h:WE N Q (.exit id) fr S):WCI P N r (.exit id) Q fr S:=fun a w ha hs=>wpIn_exit (h a w ha hs)
theorem WCI.block{id:Nat}{c:Code}(h:WCI P N r c (Exit.inBlock id Q) fr S):WCI P N r (.block id c) Q fr S:=fun a w ha hs=>wpIn_block (h a w ha hs)
theorem WCI.region{id:Nat}{l:List Oper}(hQ:¬ LetsOut Q)(hd:l.all (fun o=>match o.op with | .defer _=>false|_=>true)=true)(h:WL P N l.toArray Q l fr S):WCI P N r (.region id l.toArray false) Q fr S:=fun a w ha hs=>
 ZjH hQ (fun o ho c e=>by have:=List.all_eq_true.1 hd o ho; rw[e] at this; cases this) (h a w ha hs)
theorem WCI.condD{c:Operand}{x y:Code}{p:Prop}[Decidable p](hc:fr.ev c=some (.bool (decide p)))(ht:p->WCI P N r x Q fr S)(hf:¬ p->WCI P N r y Q fr S):WCI P N r (.cond c x y) Q fr S:=fun a w ha hs=>by
 by_cases h:p
 .exact wpIn_cond_true (by rw[ha.ev hc,decide_eq_true h]) (ht h a w ha hs)
 exact wpIn_cond_false (by rw[ha.ev hc,decide_eq_false h]) (hf h a w ha hs)
end
theorem Ext.weaken{w w':World}{G':Mem}{L1 L2 L3:Lo}(h:Ext w G L1 w' G' L2)(hs:Lo.sub L3 L2):Ext w G L1 w' G' L3:=
 { h with loc:=fun i x hx=>h.loc i x (hs i x hx),dist:=fun i j x y hne e1 e2=>h.dist i j x y hne (hs _ _ e1) (hs _ _ e2) }
def RoundQ(w0:Bs)(G:Mem)(l:Nat)(r:Loop)(post:Mem->Lo->Bool->Prop):Post:=fun e _ w=>match e with
 | .normal=>∃ G2 L2 L3,St w0 G G2 L2 w/\L2.get 8001=some ⟨l,.loop { r with state:=.busy },0⟩/\Lo.sub L3 ((8001,some ⟨l,.loop r,0⟩)::L2)/\post G2 L3 true
 | .ret=>∃ G2 L2 L3,St w0 G G2 L2 w/\L2.get 8001=some ⟨l,.loop { r with state:=.busy },0⟩/\Lo.sub L3 ((8001,some ⟨l,.loop { r with state:=.done,pending:=some .ret },0⟩)::L2)/\post G2 L3 false
 | _=>False
theorem Za3{l:Nat}{r:Loop}{post:Mem->Lo->Bool->Prop}:¬ LetsOut (RoundQ w0 G l r post):=fun ⟨_,_,h⟩=>h
theorem Zh1{K:Act->World->Prop}:¬ LetsOut (Exit.then K fun _ _ _=>False):=fun ⟨_,_,h⟩=>h
theorem YCtr.Zlb{r:Loop}{l t:Nat}{u:Value}{Lc:Lo}{pre:Mem->Prop}{post:Mem->Lo->Bool->Prop}(hl:Lc.get 8001=some ⟨l,.loop r,0⟩)(hst:r.state = .ready)(hpe:r.pending=none)(hps:r.params = #[t])(hrel:Rel N fr ⟨r.tmps.setIfInBounds t u,[]⟩)
  (h:∀ w0 G,w0.L=Lc->pre G->WCI P N l r.assign (Exit.then (fun a w=>∃ fr1 G1 L1,Rel N fr1 a/\St w0 G G1 L1 w/\L1.get 8001=some ⟨l,.loop r,0⟩/\
   WCI P N l r.body (RoundQ w0 G l r post) fr1 (St w0 G G1 ((8001,some ⟨l,.loop { r with state:=.busy },0⟩)::L1))) fun _ _ _=>False) fr (St w0 G G Lc)):YCtr P l u Lc pre post:=by
 intro w G hH hp
 have hb:=(hH.loc 8001 _ hl).1
 refine⟨r.fn,r.tmps.setIfInBounds t u,r.assign,r.body,?_,?_⟩
 .have:=run_yield (P:=P) (args:=#[u]) hb (by rw[hps]; rfl)
  rw[hps] at this
  simpa using this
 refine roundIn_of_wpIn trivial (Code.wpIn_mono (fun e a w' hq=>?_) (h ⟨w,Lc⟩ G rfl hp _ w hrel hH.st))
 cases e with
 | normal=>
  obtain⟨fr1,G1,L1,ha1,hs1,hl1,hw⟩:=hq
  have hb1:=(hs1.loc 8001 _ hl1).1
  refine⟨_,run_beginRound hb1 hst,?_⟩
  have hs2:=hs1.putLoop (r':={ r with state:=.busy }) hl1
  refine Code.wpIn_mono (fun e a w' hq=>?_) (hw a _ ha1 hs2)
  cases e with
  | normal=>
   obtain⟨G2,L2,L3,hs3,hl3,hsub,hpost⟩:=hq
   have hb3:=(hs3.loc 8001 _ hl3).1
   refine⟨_,_,run_endRound none hb3,true,G2,L3,rfl,?_,hpost⟩
   have hs4:=hs3.putLoop (r':={ { r with state:=.busy } with state:=if (none:Option Code).isNone then .ready else .done,pending:=none }) hl3
   have e1:({ { r with state:=.busy } with state:=if (none:Option Code).isNone then .ready else .done,pending:=none }:Loop)=r:=by
    obtain⟨s,p,f,t,ps,as1,bo,d⟩:=r
    simp only at hst hpe
    subst hst hpe
    rfl
   rw[e1] at hs4 ⊢
   exact hs4.toExt.weaken hsub
  | ret=>
   obtain⟨G2,L2,L3,hs3,hl3,hsub,hpost⟩:=hq
   have hb3:=(hs3.loc 8001 _ hl3).1
   refine⟨_,_,run_endRound (some .ret) hb3,false,G2,L3,rfl,?_,hpost⟩
   have hs4:=hs3.putLoop (r':={ { r with state:=.busy } with state:=if (some Code.ret).isNone then .ready else .done,pending:=some .ret }) hl3
   exact hs4.toExt.weaken hsub
  | exit id=>exact hq.elim
  | goto t=>exact hq.elim
  | panic c=>exact hq.elim
  | outgrown=>exact hq.elim
 | ret=>exact hq.elim
 | exit id=>exact hq.elim
 | goto t=>exact hq.elim
 | panic c=>exact hq.elim
 | outgrown=>exact hq.elim
end
end Go.EL
namespace Go.EL
open Go.IntKind (i8 i16 i32 i64 u8 u16 u32 u64)
open Go Go.RowKit Go.Proofs
section
variable {P:Program}{N:Nat}{Q:Post}{fr:Fr}{ops:Array Oper}{l:List Oper}{fn:Func}{w0:Bs}{G0 G:Mem}{L:Lo}{ty:TypeId}{pos:String}{af:Array Edge}{g:Option (Nat×Bool)}{S:Asrt}
def WLD(P:Program)(N:Nat)(D:List Deferred)(ops:Array Oper)(Q:Post)(l:List Oper)(fr:Fr)(S:Asrt):Prop:=∀ a w,Rel N fr a->S w->wpList P ops Q l { a with defers:=D } w
theorem WLD.nil{D:List Deferred}(h:∀ a w,Rel N fr a->S w->Q .normal { a with defers:=D } w):WLD P N D ops Q [] fr S:=h
def RetD(fn:Func)(P:Program)(w0:Bs)(G0:Mem)(d:Nat)(post:Mem->Value->Prop)(tmps:Array Value)(w:World):Prop:=
 ∃ G2 L2 v,St w0 G0 G2 L2 w/\L2.get 8002=some ⟨d,.deferred (some []),0⟩/\(∀ w',St w0 G0 G2 ((8002,some ⟨d,.deferred none,0⟩)::L2) w'->(results fn tmps).run P w' = .ok v w')/\post G2 v
theorem RetD.of{rvs:List ResultVar}{d:Nat}{post:Mem->Value->Prop}{a:Act}{w:World}(vs:List Value)(hr:fn.results=rvs.toArray)(hl:rvs.length=vs.length)(hs:St w0 G0 G L w)(ha:Rel N fr a)(hd:L.get 8002=some ⟨d,.deferred (some []),0⟩)
  (h:∀ (i:Nat) (rv:ResultVar) (v:Value),rvs[i]? = some rv->vs[i]? = some v->RV P fr ((8002,some ⟨d,.deferred none,0⟩)::L) rv v) (hp:post G (if h:vs.toArray.size=1 then vs.toArray[0] else .tuple vs.toArray)):RetD fn P w0 G0 d post a.tmps w:=
 ⟨G,L,_,hs,hd,fun _ hs'=>Zfk hr hl (fun i rv v e1 e2=>(h i rv v e1 e2).run ha hs'),hp⟩
theorem Rel.round{a:Act}{t:Nat}{u:Value}(ha:Rel N fr a)(ht:t<N):Rel N ((t,u)::fr) ⟨a.tmps.setIfInBounds t u,[]⟩:=by
 have h:=ha.put u ht
 have e:a.put (some t) u=⟨a.tmps.setIfInBounds t u,[]⟩:=by simp[Act.put,ha.defers]
 rw[e] at h
 exact h
end
end Go.EL
namespace Go.EL
open Go.IntKind (i8 i16 i32 i64 u8 u16 u32 u64)
open Go Go.RowKit Go.Proofs
section
variable {P:Program}{N:Nat}{Q:Post}{fr:Fr}{Bt:Asrt}{w0:Bs}{G0 G:Mem}{L:Lo}{ops:Array Oper}{fs:List Bool}{l:List Oper}{det:Fr}{und:Und}
def RowM{α:Type}(r:Rp α)(e:TypeId)(mk:Option Addr->Nat->Value)(d:Nat)(xs:List α):Value->Gx->Prop:=fun v g=>∃ p c tk,v=mk p c/\RowR r e g.m (.slice p xs.length c) xs tk/\∀ y,tk=some y->g.x y.b=some (d,y.o)
variable {α:Type}{r:Rp α}{e:TypeId}{mk:Option Addr->Nat->Value}{d:Nat}{xs:List α}
theorem RowM.mono{v:Value}{g g':Gx}(hle:Gx.leE d g g'):RowM r e mk d xs v g->RowM r e mk d xs v g':=fun ⟨p,c,tk,h1,h2,h3⟩=>⟨p,c,tk,h1,h2.mono hle.1,fun y hy=>hle.2 _ _ (h3 y hy)⟩
theorem RowM.drop{d':Nat}{v:Value}{g:Gx}{tk:Option Ow}(h:RowM r e mk d xs v g)(hne:Nat.beq d d'=false)(ht:∀ y,tk=some y->g.x y.b=some (d',y.o)):RowM r e mk d xs v (g.drop tk):=by
 obtain⟨p,c,tk',h1,h2,h3⟩:=h
 obtain⟨p',c',tk2,k1,k2,k3⟩:=RowX.drop (v:=.slice p xs.length c) ⟨p,c,tk',rfl,h2,h3⟩ hne ht
 cases k1
 exact⟨p,c,tk2,h1,k2,k3⟩
end
end Go.EL
namespace Go.EL
open Go.IntKind (i8 i16 i32 i64 u8 u16 u32 u64)
open Go Go.RowKit Go.Proofs
section
variable {P:Program}{N:Nat}{Q:Post}{fr:Fr}{S:Asrt}{ops:Array Oper}{l:List Oper}
def skB(ops:Array Oper)(fr:Fr)(N j:Nat)(c:Bool)(ds:List (Option Nat)):Bool:=
 match (ops[j]?).bind (·.dst) with
 | some d=>(match fr.get d with|some (.bool v)=>v == !c|_=>false) && ds.all fun x=>match x with|some t=>Nat.blt t N && !(Nat.beq t d)|none=>true
 | none=>false
theorem Zpe{j:Nat}{c:Bool}{ds:List (Option Nat)}(h:skB ops fr N j c ds=true):∃ d,(ops[j]?).bind (·.dst)=some d/\fr.get d=some (.bool (!c))/\∀ x ∈ ds,dstOK N x/\x≠some d:=by
 unfold skB at h
 split at h
 .rename_i d hd
  rw[Bool.and_eq_true,List.all_eq_true] at h
  refine⟨d,hd,?_,fun x hx=>?_⟩
  .have h1:=h.1
   split at h1
   .rename_i v hv
    rw[hv,beq_iff_eq.1 h1]
   cases h1
  have h2:=h.2 x hx
  cases x with
  | none=>exact⟨trivial,by simp⟩
  | some t=>
   rw[Bool.and_eq_true] at h2
   refine⟨h2.1,fun e=>?_⟩
   cases e
   have:=h2.2
   simp at this
 cases h
theorem ZpX{d:Nat}{x:Option Nat}{v:Value}(h:x≠some d):(putFr x v fr).get d=fr.get d:=by
 cases x with
 | none=>rfl
 | some t=>
  show (bif Nat.beq t d then some v else fr.get d)=_
  have:Nat.beq t d=false:=by
   cases hb:Nat.beq t d with
   | false=>rfl
   | true=>exact absurd (by rw[Nat.eq_of_beq_eq_true hb]) h
  rw[this]; rfl
theorem skStep{j d:Nat}{c:Bool}{dst:Option Nat}{op:Op}{ty:TypeId}{pos:String}{af:Array Edge}(h1:(ops[j]?).bind (·.dst)=some d)(h2:fr.get d=some (.bool (!c)))(hd:dstOK N dst)(k:WL P N ops Q l (putFr dst undef fr) S):WL P N ops Q (⟨dst,op,ty,pos,af,some (j,c)⟩::l) fr S:=WL.skip (ZoK h1 h2) hd k
theorem skCons{j:Nat}{c:Bool}{x:Option Nat}{ds:List (Option Nat)}{op:Op}{ty:TypeId}{pos:String}{af:Array Edge}(h:skB ops fr N j c (x::ds)=true)(k:skB ops (putFr x undef fr) N j c ds=true->WL P N ops Q l (putFr x undef fr) S):WL P N ops Q (⟨x,op,ty,pos,af,some (j,c)⟩::l) fr S:=by
 obtain⟨d,h1,h2,h3⟩:=Zpe h
 have hx:=h3 x (by simp)
 refine skStep h1 h2 hx.1 (k ?_)
 unfold skB at h ⊢
 rw[h1] at h ⊢
 simp only[List.all_cons,Bool.and_eq_true] at h ⊢
 rw[ZpX hx.2]
 exact⟨h.1,h.2.2⟩
variable {j:Nat}{c:Bool}{d0 d1 d2 d3 d4 d5 d6 d7 d8:Option Nat}{o0 o1 o2 o3 o4 o5 o6 o7 o8:Op}{t0 t1 t2 t3 t4 t5 t6 t7 t8:TypeId}{p0 p1 p2 p3 p4 p5 p6 p7 p8:String}{a0 a1 a2 a3 a4 a5 a6 a7 a8:Array Edge}
theorem sn2(h:skB ops fr N j c [d0,d1]=true)(k:WL P N ops Q l (putFr d1 undef (putFr d0 undef fr)) S):WL P N ops Q (⟨d0,o0,t0,p0,a0,some (j,c)⟩::⟨d1,o1,t1,p1,a1,some (j,c)⟩::l) fr S:=skCons h fun h=>skCons h fun _=>k
theorem sn3(h:skB ops fr N j c [d0,d1,d2]=true)(k:WL P N ops Q l (putFr d2 undef (putFr d1 undef (putFr d0 undef fr))) S):WL P N ops Q (⟨d0,o0,t0,p0,a0,some (j,c)⟩::⟨d1,o1,t1,p1,a1,some (j,c)⟩::⟨d2,o2,t2,p2,a2,some (j,c)⟩::l) fr S:=skCons h fun h=>sn2 h k
theorem sn4(h:skB ops fr N j c [d0,d1,d2,d3]=true)(k:WL P N ops Q l (putFr d3 undef (putFr d2 undef (putFr d1 undef (putFr d0 undef fr)))) S):WL P N ops Q (⟨d0,o0,t0,p0,a0,some (j,c)⟩::⟨d1,o1,t1,p1,a1,some (j,c)⟩::⟨d2,o2,t2,p2,a2,some (j,c)⟩::⟨d3,o3,t3,p3,a3,some (j,c)⟩::l) fr S:=skCons h fun h=>sn3 h k
theorem sn5(h:skB ops fr N j c [d0,d1,d2,d3,d4]=true)(k:WL P N ops Q l (putFr d4 undef (putFr d3 undef (putFr d2 undef (putFr d1 undef (putFr d0 undef fr))))) S):WL P N ops Q (⟨d0,o0,t0,p0,a0,some (j,c)⟩::⟨d1,o1,t1,p1,a1,some (j,c)⟩::⟨d2,o2,t2,p2,a2,some (j,c)⟩::⟨d3,o3,t3,p3,a3,some (j,c)⟩::⟨d4,o4,t4,p4,a4,some (j,c)⟩::l) fr S:=skCons h fun h=>sn4 h k
theorem sn6(h:skB ops fr N j c [d0,d1,d2,d3,d4,d5]=true)(k:WL P N ops Q l (putFr d5 undef (putFr d4 undef (putFr d3 undef (putFr d2 undef (putFr d1 undef (putFr d0 undef fr)))))) S):WL P N ops Q (⟨d0,o0,t0,p0,a0,some (j,c)⟩::⟨d1,o1,t1,p1,a1,some (j,c)⟩::⟨d2,o2,t2,p2,a2,some (j,c)⟩::⟨d3,o3,t3,p3,a3,some (j,c)⟩::⟨d4,o4,t4,p4,a4,some (j,c)⟩::⟨d5,o5,t5,p5,a5,some (j,c)⟩::l) fr S:=skCons h fun h=>sn5 h k
theorem sn7(h:skB ops fr N j c [d0,d1,d2,d3,d4,d5,d6]=true)(k:WL P N ops Q l (putFr d6 undef (putFr d5 undef (putFr d4 undef (putFr d3 undef (putFr d2 undef (putFr d1 undef (putFr d0 undef fr))))))) S):WL P N ops Q (⟨d0,o0,t0,p0,a0,some (j,c)⟩::⟨d1,o1,t1,p1,a1,some (j,c)⟩::⟨d2,o2,t2,p2,a2,some (j,c)⟩::⟨d3,o3,t3,p3,a3,some (j,c)⟩::⟨d4,o4,t4,p4,a4,some (j,c)⟩::⟨d5,o5,t5,p5,a5,some (j,c)⟩::⟨d6,o6,t6,p6,a6,some (j,c)⟩::l) fr S:=skCons h fun h=>sn6 h k
theorem sn8(h:skB ops fr N j c [d0,d1,d2,d3,d4,d5,d6,d7]=true)(k:WL P N ops Q l (putFr d7 undef (putFr d6 undef (putFr d5 undef (putFr d4 undef (putFr d3 undef (putFr d2 undef (putFr d1 undef (putFr d0 undef fr)))))))) S):WL P N ops Q (⟨d0,o0,t0,p0,a0,some (j,c)⟩::⟨d1,o1,t1,p1,a1,some (j,c)⟩::⟨d2,o2,t2,p2,a2,some (j,c)⟩::⟨d3,o3,t3,p3,a3,some (j,c)⟩::⟨d4,o4,t4,p4,a4,some (j,c)⟩::⟨d5,o5,t5,p5,a5,some (j,c)⟩::⟨d6,o6,t6,p6,a6,some (j,c)⟩::⟨d7,o7,t7,p7,a7,some (j,c)⟩::l) fr S:=skCons h fun h=>sn7 h k
end
end Go.EL
namespace Go.EL
open Go.IntKind (i8 i16 i32 i64 u8 u16 u32 u64)
open Go Go.RowKit Go.Proofs
end Go.EL
namespace Go.EL
open Go.IntKind (i8 i16 i32 i64 u8 u16 u32 u64)
open Go Go.RowKit Go.Proofs Go.MapKept
section
variable {P:Program}{N:Nat}{Q:Post}{fr:Fr}{S:Asrt}{ops:Array Oper}{l:List Oper}{dst:Option Nat}{ty:TypeId}{pos:String}{af:Array Edge}{g:Option (Nat×Bool)}{w0:Bs}{G0 G:Mem}{L:Lo}
theorem YC.ofB{f:FuncId}{x:Operand}{args:Array Operand}{ats:Array TypeId}{vs:List Value}{rc:Value}(he:Enters P f)(hx:fr.ev x=some (.func (.func f) #[rc] #[]))(hv:fr.evs args.toList=some vs):
  YC P N ⟨dst,.call ⟨.value x,args,ats⟩,ty,pos,af,g⟩ fr S f (rc::vs).toArray:=fun a w ha _=>by
 have e1:args.map a.eval=vs.toArray:=by apply Array.ext'; simpa using ha.evs _ _ hv
 simpa [execOp,resolve,e1,ha.ev hx,Deferred.ofValue,invoke] using he (rc::vs).toArray w
end
section
variable {P:Program}{kt:TypeId}{K V:Type} [DecidableEq K] {ky:Ky P kt K}{r:Rp V}
variable {N:Nat}{Q:Post}{fr:Fr}{S:Asrt}{ops:Array Oper}{l:List Oper}{dst:Option Nat}{ty:TypeId}{pos:String}{af:Array Edge}{g:Option (Nat×Bool)}{w0:Bs}{G0 G:Mem}{L:Lo}
variable {fs:List Bool}{det:Fr}{und:Und}{d:Nat}{op:Op}
def MapG(ky:Ky P kt K)(r:Rp V)(d:Nat)(D:List (K×V)):Value->Gx->Prop:=fun v g=>∃ b tk,v = .map (some b)/\MapR ky (RvA r g.m) (.map (some b)) D tk/\∀ y,tk=some y->g.x y.b=some (d,y.o)
omit [DecidableEq K] in
theorem MapG.mono{v:Value}{D:List (K×V)}{g g':Gx}(hle:Gx.leE d g g'):MapG ky r d D v g->MapG ky r d D v g':=fun ⟨b,tk,h1,h2,h3⟩=>⟨b,tk,h1,h2.monoA hle.1,fun y hy=>hle.2 _ _ (h3 y hy)⟩
omit [DecidableEq K] in
theorem MapG.drop{d':Nat}{v:Value}{D:List (K×V)}{g:Gx}{tk:Option Ow}(h:MapG ky r d D v g)(hne:Nat.beq d d'=false)(ht:∀ y,tk=some y->g.x y.b=some (d',y.o)):MapG ky r d D v (g.drop tk):=
 h.mono (g':=g.drop tk) ⟨(fun _ _ _ h=>h:Mem.le g.m g.m),fun b o hb=>by
  have hn:¬ tk.any (fun y=>Nat.beq y.b b)=true:=fun ha=>by
   obtain⟨y,h1,h2⟩:=Zhw.1 ha
   have:=ht y h1
   rw[h2,hb] at this
   cases this
   simp at hne
  simp only[Gx.drop,if_neg hn]
  exact hb⟩
omit [DecidableEq K] in
omit [DecidableEq K] in
end
end Go.EL
namespace Go.EL
open Go.IntKind (i8 i16 i32 i64 u8 u16 u32 u64)
open Go Go.RowKit Go.Proofs Go.MapKept
theorem CtrL.absurd{P:Program}{f:FuncId}{args:Array Value}{L0:Lo}{pre:Mem->Prop}{post:Mem->Lo->Value->Prop}(h:∀ G,pre G->False):CtrL P f args L0 pre post:=fun _ G _ hp=>(h G hp).elim
end Go.EL
namespace Go.EL
open Go.IntKind (i8 i16 i32 i64 u8 u16 u32 u64)
open Go Go.RowKit Go.Proofs Go.MapKept
def wrow{α:Type}(W:Nat->Nat->α)(i n:Nat):List α:=(List.range n).map fun k=>W i (k+1)
structure PwN {α:Type}(r:Rp α) (e tk tq:TypeId) (W:Nat->Nat->α) (q:List α) (Nf:Nat->Nat) (G:Mem) (T:Lo) (kb qb:Nat):Prop where
 keys:∀ p ∈ T,8000000<=p.1
 zero:T.zero
 known:∃ cs:List Value,T.get 8000101=some ⟨kb,.cells cs.toArray tk (0,0),0⟩/\cs.length=8/\∀ i,i<8->∃ p c,cs[i]? = some (.slice p (Nf i) c)/\RowR r e G (.slice p (Nf i) c) (wrow W i (Nf i)) (T.get (kcode (i:Int)))
 box:∃ cs u,T.get 8000103=some ⟨qb,.cells cs.toArray tq (0,0),0⟩/\ArRd r 8 G cs u q
def PwR{α:Type}(r:Rp α)(e tk tq:TypeId)(W:Nat->Nat->α)(q:List α)(G:Mem)(T:Lo)(kb qb:Nat):Prop:=∃ Nf,PwN r e tk tq W q Nf G T kb qb
theorem ZdP(i:Nat):kcode (i:Int)=8000000+2*i:=by simp[kcode]
theorem Lo.ZoJ{T L:Lo}(hT:∀ p ∈ T,8000000<=p.1){i:Nat}(hi:i<8000000):(T++L).get i=L.get i:=by
 induction T with
 | nil=>rfl
 | cons p T ih=>
  have:=hT p (by simp)
  obtain⟨j,x⟩:=p
  rw[List.cons_append,Lo.Zi,if_neg (by simp only at this; omega)]
  exact ih fun q hq=>hT q (by simp[hq])
theorem Lo.ZoH{T:Lo}(hT:∀ p ∈ T,8000000<=p.1)(i:Nat)(x:Ow)(h:T.get i=some x):8000000<=i:=by
 by_cases hi:i<8000000
 .have:=Lo.ZoJ (L:=[]) hT hi
  rw[List.append_nil] at this
  rw[this] at h; simp[Lo.get] at h
 omega
section
variable {α:Type}{r:Rp α}{e tk tq:TypeId}{W:Nat->Nat->α}{q:List α}{Nf:Nat->Nat}{G G':Mem}{T:Lo}{kb qb:Nat}
theorem PwN.mono(h:PwN r e tk tq W q Nf G T kb qb)(hle:Mem.le G G'):PwN r e tk tq W q Nf G' T kb qb:=
 ⟨h.keys,h.zero,by
  obtain⟨cs,h1,h2,h3⟩:=h.known
  exact⟨cs,h1,h2,fun i hi=>by obtain⟨p,c,q1,q2⟩:=h3 i hi; exact⟨p,c,q1,q2.mono hle⟩⟩,by
  obtain⟨cs,u,h1,h2⟩:=h.box
  exact⟨cs,u,h1,h2.mono hle⟩⟩
theorem PwR.mono(h:PwR r e tk tq W q G T kb qb)(hle:Mem.le G G'):PwR r e tk tq W q G' T kb qb:=let ⟨Nf,h⟩:=h; ⟨Nf,h.mono hle⟩
theorem PwR.keys(h:PwR r e tk tq W q G T kb qb):∀ p ∈ T,8000000<=p.1:=let ⟨_,h⟩:=h; h.keys
theorem PwR.high(h:PwR r e tk tq W q G T kb qb):∀ i x,T.get i=some x->8000000<=i:=fun i x=>Lo.ZoH h.keys i x
theorem PwN.put(h:PwN r e tk tq W q Nf G T kb qb){cs:List Value}(hcs:T.get 8000101=some ⟨kb,.cells cs.toArray tk (0,0),0⟩){j n:Nat}{p:Option Addr}{c:Nat}{t':Option Ow}(hj:j<8)(hrow:RowR r e G (.slice p n c) (wrow W j n) t'):
  PwN r e tk tq W q (fun i=>if i=j then n else Nf i) G ((8000101,some ⟨kb,.cells (cs.set j (.slice p n c)).toArray tk (0,0),0⟩)::(kcode (j:Int),t')::T) kb qb:=by
 obtain⟨cs',h1,h2,h3⟩:=h.known
 have hc:cs'=cs:=by rw[h1] at hcs; simpa using hcs
 subst hc
 refine⟨fun p hp=>?_,fun p hp x hx=>?_,⟨_,by rw[Lo.Zi,if_pos rfl],by rw[List.length_set,h2],fun i hi=>?_⟩,?_⟩
 .rcases List.mem_cons.1 hp with rfl|hp
  .show 8000000<=8000101; omega
  rcases List.mem_cons.1 hp with rfl|hp
  .exact Zk1 _
  exact h.keys p hp
 .rcases List.mem_cons.1 hp with rfl|hp
  .cases hx; rfl
  rcases List.mem_cons.1 hp with rfl|hp
  .exact hrow.zero hx
  exact h.zero p hp x hx
 .by_cases hij:i=j
  .subst hij
   refine⟨p,c,?_,?_⟩
   .rw[List.getElem?_set,if_pos rfl,if_pos (by omega),if_pos rfl]
   rw[if_pos rfl,Lo.Zi,if_neg (by rw[ZdP]; omega),Lo.Zi,if_pos rfl]
   exact hrow
  obtain⟨p',c',q1,q2⟩:=h3 i hi
  refine⟨p',c',?_,?_⟩
  .rw[List.getElem?_set,if_neg (fun e=>hij e.symm),if_neg hij]; exact q1
  rw[if_neg hij,Lo.Zi,if_neg (by rw[ZdP]; omega),Lo.Zi,if_neg (by rw[ZdP,ZdP]; omega)]
  exact q2
 obtain⟨bs,u,q1,q2⟩:=h.box
 refine⟨bs,u,?_,q2⟩
 rw[Lo.Zi,if_neg (by decide),Lo.Zi,if_neg (by rw[ZdP]; omega)]
 exact q1
end
end Go.EL
namespace Go.EL
open Go.IntKind (i8 i16 i32 i64 u8 u16 u32 u64)
open Go Go.RowKit Go.Proofs Go.MapKept
section
variable {P:Program}{N:Nat}{Q:Post}{fr:Fr}{ops:Array Oper}{l:List Oper}{dst:Option Nat}{ty:TypeId}{pos:String}{af:Array Edge}{g:Option (Nat×Bool)}{w0:Bs}{G0 G:Mem}{L:Lo}{α:Type}{r:Rp α}
theorem Zm2{t e:TypeId}{n cap sz:Nat}{p:Option Addr}{xs:List α}(ht:P.underlying t=some (.slice e))(hsz:(P.info? e).map (·.size)=some sz)(h:SlR r G (.slice p n cap) xs){k2 k3:IntKind}{hi:Int}(hb:0<=(0:Int)/\(0:Int)<=hi/\hi<=(xs.length:Int))(w:World):
  ∃ q,(Instr.slice t (.slice p n cap) none (some (.int k2 hi)) (some (.int k3 hi))).run P w = .ok (.slice q hi.toNat hi.toNat) w/\SlR r G (.slice q hi.toNat hi.toNat) ((xs.take hi.toNat).drop (0:Int).toNat):=by
 have hn:n=xs.length:=by obtain⟨p',cap',cs,h1,_⟩:=h; cases h1; rfl
 have hcap:n<=cap/\cap<=9223372036854775807:=by obtain⟨p',cap',cs,h1,h2,_⟩:=h; cases h1; exact h2
 have hspot:∀ a,p=some a->0<cap->a.spot=none:=by obtain⟨p',cap',cs,h1,_,h2,_⟩:=h; cases h1; exact h2
 have hbs:(Instr.sliceBounds true n cap none (some (.int k2 hi)) (some (.int k3 hi))).run P w = .ok (0,hi.toNat,hi.toNat) w:=by
  have h1:0<=hi/\hi<=(cap:Int):=by omega
  simp[Instr.sliceBounds,Instr.sliceBound,asIntOf,h1]
  intro h; omega
 refine⟨if hi.toNat=0 then p else p.map (·.add (0*sz)),?_,?_⟩
 .simp[Instr.slice,run_underlying ht,hbs,run_sizeOf hsz]
 have key:=h.take (lo:=0) (hi:=hi.toNat) (q:=if hi.toNat=0 then p else p.map (·.add (0*sz))) (c:=hi.toNat) (by omega) (by omega) (by
  by_cases hc:hi.toNat=0
  .right; rw[if_pos hc]; exact⟨by omega,rfl,by omega⟩
  left
  rw[if_neg hc]
  cases p with
  | none=>rfl
  | some a=>
   obtain⟨ab,ao,ap⟩:=a
   have:=hspot _ rfl (by omega)
   dsimp only at this
   subst this
   simp only[Option.map_some,Z6,Nat.zero_mul]) (by omega)
 exact key
theorem WL.slice3{t e:TypeId}{x x2 x3:Operand}{k2 k3:IntKind}{n cap sz:Nat}{p:Option Addr}{xs:List α}{hi:Int}(hg:guardOK ops fr ⟨dst,.slice t x none (some x2) (some x3),ty,pos,af,g⟩ true)(hd:dstOK N dst)
  (ht:P.underlying t=some (.slice e)) (hsz:(P.info? e).map (·.size)=some sz) (_:sz=r.size) (h:SlR r G (.slice p n cap) xs) (hx:fr.ev x=some (.slice p n cap)) (h2:fr.ev x2=some (.int k2 hi)) (h3:fr.ev x3=some (.int k3 hi)) (hb:0<=(0:Int)/\(0:Int)<=hi/\hi<=(xs.length:Int))
  (k:∀ p',SlR r G (.slice p' ((xs.take hi.toNat).drop (0:Int).toNat).length ((xs.take hi.toNat).drop (0:Int).toNat).length) ((xs.take hi.toNat).drop (0:Int).toNat)->WL P N ops Q l (putFr dst (.slice p' ((xs.take hi.toNat).drop (0:Int).toNat).length ((xs.take hi.toNat).drop (0:Int).toNat).length) fr) (St w0 G0 G L)) :
  WL P N ops Q (⟨dst,.slice t x none (some x2) (some x3),ty,pos,af,g⟩::l) fr (St w0 G0 G L):=by
 have hl:((xs.take hi.toNat).drop (0:Int).toNat).length=hi.toNat:=by simp; omega
 rw[hl] at k
 refine WL.yr (Φ:=fun v w=>(∃ q,v = .slice q hi.toNat hi.toNat/\SlR r G (.slice q hi.toNat hi.toNat) ((xs.take hi.toNat).drop (0:Int).toNat))/\St w0 G0 G L w) hg (fun a w ha hs=>?_) hd (fun v a w ha ⟨h1,h2⟩=>?_)
 .obtain⟨q,hr,hv⟩:=Zm2 (k2:=k2) (k3:=k3) ht hsz h hb w
  have:(execOp a.eval ⟨dst,.slice t x none (some x2) (some x3),ty,pos,af,g⟩).run P w = .ok (.value (.slice q hi.toNat hi.toNat)) w:=by
   simp only[execOp,ha.ev hx,ha.ev h2,ha.ev h3,Option.map_none,Option.map_some]
   simp[Instr.sliceAt,run_underlying ht,hr]
  rw[this]
  exact⟨⟨q,rfl,hv⟩,hs⟩
 obtain⟨q,rfl,hv⟩:=h1
 exact k q hv a w ha h2
end
end Go.EL
namespace Go.EL
open Go.IntKind (i8 i16 i32 i64 u8 u16 u32 u64)
open Go Go.RowKit Go.Proofs Go.MapKept
end Go.EL
namespace Go.EL
open Go.IntKind (i8 i16 i32 i64 u8 u16 u32 u64)
open Go Go.RowKit Go.Proofs Go.MapKept
section
variable {P:Program}{Q:Post}{md:Region.Mode}
def SameOp(o o':Oper):Prop:=o'.dst=o.dst/\o'.op=o.op/\o'.type=o.type/\o'.pos=o.pos/\o.guard=none/\o'.guard=none
theorem SameOp.wp{o o':Oper}(h:SameOp o o'){a:Act}{w:World}{K K':Act->World->Prop}(hK:∀ a w,K' a w->K a w)(k:o'.wp P a w K' Q):o.wp P a w K Q:=by
 obtain⟨d,op,ty,pos,af,g⟩:=o
 obtain⟨d',op',ty',pos',af',g'⟩:=o'
 obtain⟨h1,h2,h3,h4,h5,h6⟩:=h
 simp only at h1 h2 h3 h4 h5 h6
 subst h1 h2 h3 h4 h5 h6
 exact Oper.Zlw hK k
theorem SameOp.asks{o o':Oper}(h:SameOp o o'){a:Act}{w:World}(k:o'.asks P a w):o.asks P a w:=by
 obtain⟨d,op,ty,pos,af,g⟩:=o
 obtain⟨d',op',ty',pos',af',g'⟩:=o'
 obtain⟨h1,h2,h3,h4,h5,h6⟩:=h
 simp only at h1 h2 h3 h4 h5 h6
 subst h1 h2 h3 h4 h5 h6
 exact k
structure Turned (md:Region.Mode) (l l':Array Oper) (σ τ:Nat->Nat):Prop where
 size:l'.size=l.size
 lt:∀ i,i<l.size->σ i<l.size
 lt':∀ j,j<l.size->τ j<l.size
 st:∀ j,j<l.size->σ (τ j)=j
 inj:∀ i k,i<l.size->k<l.size->σ i=σ k->i=k
 op:∀ i o,l[i]? = some o->∃ o',l'[σ i]? = some o'/\SameOp o o'/\(∀ e ∈ o.after,Region.binds md e=true->e.on<l.size/\∃ e' ∈ o'.after,Region.binds md e'=true/\e'.on=σ e.on)/\∀ e' ∈ o'.after,Region.binds md e'=true->∃ e ∈ o.after,Region.binds md e=true/\e'.on=σ e.on
theorem Turned.any{l l':Array Oper}{σ τ:Nat->Nat}(h:Turned md l l' σ τ):∀ (fuel:Nat) (m m':Array Bool) (a:Act) (w:World),m.size=l.size->m'.size=l.size->(∀ i,i<l.size->m'[σ i]? = m[i]?)->
  wpAny P md l' Q fuel m' a w->wpAny P md l Q fuel m a w:=by
 have at':∀ (m m':Array Bool),m.size=l.size->m'.size=l.size->(∀ i,i<l.size->m'[σ i]? = m[i]?)->∀ i,i<l.size->(i ∈ Region.ready md l m↔σ i ∈ Region.ready md l' m'):=by
  intro m m' hm hm' hmm i hi
  rw[mem_ready,mem_ready]
  have hb:∀ k d,k<l.size->m'.getD (σ k) d=m.getD k d:=fun k d hk=>by rw[Array.getD_eq_getD_getElem?,Array.getD_eq_getD_getElem?,hmm k hk]
  rw[hb i true hi]
  constructor
  .rintro⟨h1,o,ho,h2⟩
   obtain⟨o',ho',_,e1,e2⟩:=h.op i o ho
   refine⟨h1,o',ho',fun e' he' hb'=>?_⟩
   obtain⟨e,he,hbe,eq⟩:=e2 e' he' hb'
   rw[eq,hb e.on false (e1 e he hbe).1]
   exact h2 e he hbe
  rintro⟨h1,o',ho',h2⟩
  obtain⟨o,ho⟩:∃ o,l[i]? = some o:=⟨_,Array.getElem?_eq_getElem hi⟩
  obtain⟨o2,ho2,_,e1,e2⟩:=h.op i o ho
  rw[ho'] at ho2
  cases ho2
  refine⟨h1,o,ho,fun e he hbe=>?_⟩
  obtain⟨q1,e',he',hb',eq⟩:=e1 e he hbe
  rw[<- hb e.on false q1,<- eq]
  exact h2 e' he' hb'
 have inl:∀ (m:Array Bool) i,i ∈ Region.ready md l m->i<l.size:=fun m i hi=>by
  obtain⟨_,o,ho,_⟩:=mem_ready.1 hi
  exact (Array.getElem?_eq_some_iff.1 ho).1
 have inl':∀ (m:Array Bool) i,i ∈ Region.ready md l' m->i<l.size:=fun m i hi=>by
  obtain⟨_,o,ho,_⟩:=mem_ready.1 hi
  have:=(Array.getElem?_eq_some_iff.1 ho).1
  rw[h.size] at this
  exact this
 have none':∀ (m m':Array Bool),m.size=l.size->m'.size=l.size->(∀ i,i<l.size->m'[σ i]? = m[i]?)->Region.ready md l m=[]->Region.ready md l' m'=[]:=by
  intro m m' hm hm' hmm h0
  refine List.eq_nil_iff_forall_not_mem.2 fun j hj=>?_
  have hjl:=inl' m' j hj
  have:=(at' m m' hm hm' hmm (τ j) (h.lt' j hjl)).2 (by rw[h.st j hjl]; exact hj)
  rw[h0] at this
  cases this
 intro fuel
 induction fuel with
 | zero=>
  intro m m' a w hm hm' hmm k
  refine⟨?_,k.2⟩
  refine List.eq_nil_iff_forall_not_mem.2 fun i hi=>?_
  have:=(at' m m' hm hm' hmm i (inl m i hi)).1 hi
  rw[k.1] at this
  cases this
 | succ fuel ih=>
  intro m m' a w hm hm' hmm k
  refine⟨fun h0=>k.1 (none' m m' hm hm' hmm h0),fun i hi=>?_⟩
  have hil:=inl m i hi
  have hk:=k.2 (σ i) ((at' m m' hm hm' hmm i hil).1 hi)
  obtain⟨o,ho⟩:∃ o,l[i]? = some o:=⟨_,Array.getElem?_eq_getElem hil⟩
  obtain⟨o',ho',hs,_⟩:=h.op i o ho
  have next:∀ a w,wpAny P md l' Q fuel (m'.setIfInBounds (σ i) true) a w->wpAny P md l Q fuel (m.setIfInBounds i true) a w:=fun a w=>by
   refine ih _ _ a w (by simpa using hm) (by simpa using hm') fun q hq=>?_
   rw[Array.getElem?_setIfInBounds,Array.getElem?_setIfInBounds]
   by_cases e:i=q
   .subst e
    rw[if_pos rfl,if_pos rfl,hm,hm',if_pos hil,if_pos (h.lt i hil)]
   rw[if_neg e,if_neg fun e2=>e (h.inj i q hil hq e2)]
   exact hmm q hq
  unfold wpOp at hk ⊢
  rw[ho'] at hk
  rw[ho]
  simp only at hk ⊢
  have w1:Region.wanted o' (yielded l' a.tmps)=true:=by unfold Region.wanted; rw[hs.2.2.2.2.2]
  have w2:Region.wanted o (yielded l a.tmps)=true:=by unfold Region.wanted; rw[hs.2.2.2.2.1]
  rw[if_pos w1] at hk
  rw[if_pos w2]
  exact hk.imp (fun q=>hs.wp next q) fun q=>⟨hs.asks q.1,q.2⟩
end
end Go.EL
namespace Go.EL
open Go.IntKind (i8 i16 i32 i64 u8 u16 u32 u64)
open Go Go.RowKit Go.Proofs Go.MapKept
section
variable {P:Program}{N:Nat}{Q:Post}{fr:Fr}{w0:Bs}{G0 G:Mem}{L:Lo}{l l0:List Oper}{σ τ:Nat->Nat}
theorem WC.drawnTP{id:Nat}{Bt:Asrt}(ht:Turned .any l0.toArray l.toArray σ τ)(hBt:Mem.le G0 G->∀ (X:Gx) w,Gx.le (Gx.of G) X->StX w0 G0 X L w->Bt w)(fl:List Bool)(hm:P.follows .mixedOrders=true)(hB:drawB N l fl=true)(h:Mem.le G0 G->Chain P N Q fr w0 G0 G L l.toArray Bt fl l [] []):
  WC P N (.region id l0.toArray true) Q fr (St w0 G0 G L):=
 WC.drawnG (fun a w k=>wp_region_any hm (by
  have hs:=ht.size
  rw[hs] at k
  refine ht.any _ _ _ a _ (by simp) (by simp) (fun i hi=>?_) k
  have:=ht.lt i hi
  simp only[Array.getElem?_replicate,hs,if_pos hi,if_pos this])) hBt fl hB h
theorem WC.drawnBP{id:Nat}(ht:Turned .any l0.toArray l.toArray σ τ)(LF:Lo)(hsub:Lo.sub LF L)(fl:List Bool)(hm:P.follows .mixedOrders=true)(hB:drawB N l fl=true)(h:Mem.le G0 G->Chain P N Q fr w0 G0 G L l.toArray (St w0 G0 G LF) fl l [] []):
  WC P N (.region id l0.toArray true) Q fr (St w0 G0 G L):=WC.drawnTP ht (fun hb _ _ hle hs=>(hs.st.memLe hb hle.1).weaken hsub) fl hm hB h
end
end Go.EL
namespace Go.EL
open Go.IntKind (i8 i16 i32 i64 u8 u16 u32 u64)
open Go Go.RowKit Go.Proofs Go.MapKept
def renum(σ:Nat->Nat)(o:Oper):Oper:={ o with after:=o.after.map fun e=>{ e with on:=σ e.on } }
def permOps(p:List Nat)(l:List Oper):List Oper:=p.map fun i=>renum (fun j=>p.idxOf j) (l.getD i default)
def permB(p:List Nat)(l:List Oper):Bool:=decide (p.Nodup) && Nat.beq p.length l.length && (List.range l.length).all (fun i=>p.contains i) && p.all (fun i=>Nat.blt i l.length) && l.all fun o=>o.guard.isNone && o.after.toList.all fun e=>!Region.binds .any e || Nat.blt e.on l.length
theorem Zj3{p:List Nat}{l:List Oper}(h:permB p l=true):Turned .any l.toArray (permOps p l).toArray (fun i=>p.idxOf i) (fun j=>p.getD j 0):=by
 simp only[permB,Bool.and_eq_true,decide_eq_true_eq,List.all_eq_true,List.mem_range,List.contains_iff_mem,Nat.blt_eq,Bool.or_eq_true,Bool.not_eq_true'] at h
 obtain⟨⟨⟨⟨h1,h2⟩,h3⟩,h4⟩,h5⟩:=h
 have h2:p.length=l.length:=Nat.eq_of_beq_eq_true h2
 have hlt:∀ i,i<l.length->p.idxOf i<p.length:=fun i hi=>List.idxOf_lt_length_iff.2 (h3 i hi)
 have hat:∀ i (hi:i<l.length),p[p.idxOf i]'(hlt i hi)=i:=fun i hi=>List.getElem_idxOf (hlt i hi)
 refine⟨by simp[permOps,h2],fun i hi=>?_,fun j hj=>?_,fun j hj=>?_,fun i k hi hk e=>?_,fun i o ho=>?_⟩
 .have hi:i<l.length:=by simpa using hi
  show p.idxOf i<_
  have:=hlt i hi
  simp only[List.size_toArray]; omega
 .have hj:j<l.length:=by simpa using hj
  show p.getD j 0<_
  rw[List.getD_eq_getElem?_getD,List.getElem?_eq_getElem (by omega)]
  simpa using h4 _ (List.getElem_mem (by omega))
 .have hj:j<l.length:=by simpa using hj
  show p.idxOf (p.getD j 0)=j
  rw[List.getD_eq_getElem?_getD,List.getElem?_eq_getElem (by omega)]
  exact h1.idxOf_getElem j (by omega)
 .have hi:i<l.length:=by simpa using hi
  have hk:k<l.length:=by simpa using hk
  have e:p.idxOf i=p.idxOf k:=e
  rw[<- hat i hi,<- hat k hk]
  simp only[e]
 have hil:i<l.length:=by
  have:=(Array.getElem?_eq_some_iff.1 ho).1
  simpa using this
 have ho:l[i]? = some o:=by simpa using ho
 have hmem:o ∈ l:=List.mem_of_getElem? ho
 obtain⟨q1,q2⟩:=h5 o hmem
 have hg:o.guard=none:=by cases hg:o.guard with
  | none=>rfl
  | some x=>rw[hg] at q1; cases q1
 refine⟨renum (fun j=>p.idxOf j) o,?_,⟨rfl,rfl,rfl,rfl,hg,hg⟩,fun e he hb=>⟨?_,{ e with on:=p.idxOf e.on },?_,?_,rfl⟩,fun e' he' hb=>?_⟩
 .show (permOps p l).toArray[p.idxOf i]? = _
  simp only[permOps,List.getElem?_toArray,List.getElem?_map]
  rw[List.getElem?_eq_getElem (hlt i hil),hat i hil]
  simp only[Option.map_some,List.getD_eq_getElem?_getD,ho,Option.getD_some]
 .have:=q2 e (by simpa using he)
  rcases this with h|h
  .rw[h] at hb; cases hb
  simpa using h
 .simp only[renum,Array.mem_map]
  exact⟨e,he,rfl⟩
 .cases e; exact hb
 simp only[renum,Array.mem_map] at he'
 obtain⟨e,he,rfl⟩:=he'
 exact⟨e,he,by cases e; exact hb,rfl⟩
end Go.EL
namespace Go.EL
open Go.IntKind (i8 i16 i32 i64 u8 u16 u32 u64)
open Go Go.RowKit Go.Proofs Go.MapKept
section
variable {P:Program}{N:Nat}{Q Q':Post}{md:Region.Mode}{ops:Array Oper}
theorem Zoi{n r i:Nat}{K K':Act->World->Prop}{a:Act}{w:World}(hQ:¬ LetsOut Q)(hd:∀ (i:Nat) (o:Oper),ops[i]? = some o->∀ c,o.op≠.defer c)(hK:∀ a w,K a w->K' a w)(h:wpOp P ops Q i K a w):wpOpIn (Fence.wide.inRound r) n P ops Q i K' a w:=by
 unfold wpOp at h
 unfold wpOpIn
 cases e:ops[i]? with
 | none=>rw[e] at h; exact hK _ _ h
 | some o=>
  rw[e] at h
  dsimp only at h ⊢
  split at h
  .rename_i hw
   rw[if_pos hw]
   rcases h with h|h
   .exact Zme (hd i o e) hK h
   exact absurd h.2 hQ
  rename_i hw
  rw[if_neg hw]
  exact⟨fun _ _=>trivial,hK _ _ h⟩
theorem Zgh{n r:Nat}(hQ:¬ LetsOut Q)(hd:∀ (i:Nat) (o:Oper),ops[i]? = some o->∀ c,o.op≠.defer c):∀ (fuel:Nat) (m:Array Bool) (a:Act) (w:World),wpAny P md ops Q fuel m a w->wpAnyIn (Fence.wide.inRound r) n P md ops Q fuel m a w
 | 0,_,_,_,h=>h
 | fuel+1,_,_,_,h=>⟨h.1,fun i hi=>Zoi hQ hd (fun a w=>Zgh hQ hd fuel _ a w) (h.2 i hi)⟩
def plus(a:Act)(D:List Deferred):Act:={ a with defers:=a.defers++D }
theorem Zdv(a:Act)(D:List Deferred)(d:Option Nat)(v:Value):(plus a D).put d v=plus (a.put d v) D:=by cases d <;> rfl
variable {D:List Deferred}
theorem Zmn{o:Oper}{a:Act}{w:World}{K K':Act->World->Prop}(hK:∀ a w,K a w->K' (plus a D) w)(hQ:∀ e a w,Q e a w->Q' e (plus a D) w)(h:o.wp P a w K Q):o.wp P (plus a D) w K' Q':=by
 have e1:(plus a D).eval=a.eval:=rfl
 unfold Oper.wp at *
 rw[e1]
 generalize (execOp a.eval o).run P w=r at *
 cases r with
 | ok nx w'=>
  cases nx <;> simp only[Oper.upon] at h ⊢
  case value v=>rw[Zdv]; exact hK _ _ h
  case skip=>rw[Zdv]; exact hK _ _ h
  case defer d=>
   have e2:({ plus a D with defers:=d::(plus a D).defers }:Act).put o.dst undef=plus (({ a with defers:=d::a.defers }:Act).put o.dst undef) D:=by cases o.dst <;> rfl
   rw[e2]; exact hK _ _ h
  case enter f args=>
   refine Calls.mono h fun e w'' he=>?_
   cases e with
   | returned v=>show K' ((plus a D).put o.dst v) w''; rw[Zdv]; exact hK _ _ he
   | panicked c=>exact hQ _ _ _ he
   | outgrown=>obtain⟨a',w',he⟩:=he; exact⟨_,_,hQ _ _ _ he⟩
  case row row args=>exact fun c cs=>let ⟨v,w',r,s⟩:=h c cs; ⟨v,w',by show K' ((plus a D).put o.dst v) w'; rw[Zdv]; exact hK _ _ r,s⟩
 | halt x w'=>cases x <;> first|exact h.elim|exact hQ _ _ _ h
theorem Zg4(hQ:∀ e a w,Q e a w->Q' e (plus a D) w):LetsOut Q->LetsOut Q':=fun ⟨a,w,h⟩=>⟨_,_,hQ _ a w h⟩
theorem Zoj{i:Nat}{a:Act}{w:World}{K K':Act->World->Prop}(hK:∀ a w,K a w->K' (plus a D) w)(hQ:∀ e a w,Q e a w->Q' e (plus a D) w)(h:wpOp P ops Q i K a w):wpOp P ops Q' i K' (plus a D) w:=by
 unfold wpOp at *
 cases e:ops[i]? with
 | none=>rw[e] at h; exact hK _ _ h
 | some o=>
  rw[e] at h
  have e1:(plus a D).tmps=a.tmps:=rfl
  dsimp only at h ⊢
  rw[e1]
  split at h
  .rename_i hw
   rw[if_pos hw]
   exact h.imp (Zmn hK hQ) (fun ⟨h1,h2⟩=>⟨h1,Zg4 hQ h2⟩)
  rename_i hw
  rw[if_neg hw,Zdv]
  exact hK _ _ h
theorem Zjn(hQ:∀ e a w,Q e a w->Q' e (plus a D) w):∀ (fuel:Nat) (m:Array Bool) (a:Act) (w:World),wpAny P md ops Q fuel m a w->wpAny P md ops Q' fuel m (plus a D) w
 | 0,_,a,w,h=>⟨h.1,hQ _ a w h.2⟩
 | fuel+1,_,a,w,h=>⟨fun e=>hQ _ a w (h.1 e),fun i hi=>Zoj (fun a w=>Zjn hQ fuel _ a w) hQ (h.2 i hi)⟩
theorem Zfm(hQ:∀ e a w,Q e a w->Q' e (plus a D) w):∀ {l:List Oper}{a:Act}{w:World},wpList P ops Q l a w->wpList P ops Q' l (plus a D) w
 | [],a,w,h=>hQ _ a w h
 | o::l,a,w,h=>by
  unfold wpList at h ⊢
  have e1:(plus a D).tmps=a.tmps:=rfl
  rw[e1]
  split at h
  .rename_i hw
   rw[if_pos hw]
   exact h.imp (Zmn (fun a w h=>Zfm hQ h) hQ) (fun ⟨h1,h2⟩=>⟨h1,Zg4 hQ h2⟩)
  rename_i hw
  rw[if_neg hw,Zdv]
  exact Zfm hQ h
def PQ(D:List Deferred)(Q:Post):Post:=fun e a w=>Q e (plus a D) w
def WCD(P:Program)(N:Nat)(D:List Deferred)(c:Code)(Q:Post)(fr:Fr)(S:Asrt):Prop:=∀ a w,Rel N fr a->S w->c.wp P Q (plus a D) w
variable {fr:Fr}{S:Asrt}
theorem WCD.seq{x y:Code}(h:WCD P N D x (Exit.then (y.wp P Q) Q) fr S):WCD P N D (.seq x y) Q fr S:=fun a w ha hs=>wp_seq (h a w ha hs)
theorem WCD.then{c:Code}(h:WCD P N D c Q fr S):WE N (PQ D (Exit.then (c.wp P Q) Q)) .normal fr S:=h
theorem WCD.region{id:Nat}{l:List Oper}(h:WL P N l.toArray (PQ D Q) l fr S):WCD P N D (.region id l.toArray false) Q fr S:=fun a w ha hs=>wp_region_lit (Zfm (fun _ _ _ h=>h) (h a w ha hs))
theorem WCD.ret(h:WE N (PQ D Q) .ret fr S):WCD P N D .ret Q fr S:=fun a w ha hs=>wp_ret (h a w ha hs)
end
section
variable {P:Program}{N:Nat}{Q:Post}{fr:Fr}{w0:Bs}{G0 G:Mem}{L:Lo}{l l0:List Oper}{σ τ:Nat->Nat}{D:List Deferred}{r id:Nat}
theorem WCD.drawnB(LF:Lo)(hsub:Lo.sub LF L)(fl:List Bool)(hm:P.follows .mixedOrders=true)(hB:drawB N l fl=true)(h:Mem.le G0 G->Chain P N (PQ D Q) fr w0 G0 G L l.toArray (St w0 G0 G LF) fl l [] []):
  WCD P N D (.region id l.toArray true) Q fr (St w0 G0 G L):=fun a w ha hs=>
 drawnR (Q:=PQ D Q) (R:=fun a w=>(Code.region id l.toArray true).wp P Q (plus a D) w) (fun a _ k=>wp_region_any hm (Zjn (fun _ _ _ h=>h) _ _ a _ k)) (fun hb _ _ hle hs=>(hs.st.memLe hb hle.1).weaken hsub) fl hB h a w ha hs
theorem nodefer{l:List Oper}(hd:l.all (fun o=>match o.op with | .defer _=>false|_=>true)=true):∀ (i:Nat) (o:Oper),l.toArray[i]? = some o->∀ c,o.op≠.defer c:=fun i o ho c e=>by
 rw[List.getElem?_toArray] at ho
 have:=List.all_eq_true.1 hd o (List.mem_of_getElem? ho)
 rw[e] at this; cases this
theorem WCI.drawn(hQ:¬ LetsOut Q)(hd:l.all (fun o=>match o.op with | .defer _=>false|_=>true)=true)(fl:List Bool)(hm:P.follows .mixedOrders=true)(hB:drawB N l fl=true)(h:Mem.le G0 G->Chain P N Q fr w0 G0 G L l.toArray (fun _=>True) fl l [] []):
  WCI P N r (.region id l.toArray true) Q fr (St w0 G0 G L):=
 drawnR (fun a _ k=>wpIn_region_any hm (Zgh hQ (nodefer hd) _ _ a _ k)) (fun _ _ _ _ _=>trivial) fl hB h
theorem WCI.drawnB(hQ:¬ LetsOut Q)(hd:l.all (fun o=>match o.op with | .defer _=>false|_=>true)=true)(LF:Lo)(hsub:Lo.sub LF L)(fl:List Bool)(hm:P.follows .mixedOrders=true)(hB:drawB N l fl=true)(h:Mem.le G0 G->Chain P N Q fr w0 G0 G L l.toArray (St w0 G0 G LF) fl l [] []):
  WCI P N r (.region id l.toArray true) Q fr (St w0 G0 G L):=
 drawnR (fun a _ k=>wpIn_region_any hm (Zgh hQ (nodefer hd) _ _ a _ k)) (fun hb _ _ hle hs=>(hs.st.memLe hb hle.1).weaken hsub) fl hB h
end
def IterOk(P:Program)(f:FuncId)(lb:Array Value)(len:Nat)(E:Nat->Value->Mem->Prop)(preI:Mem->Prop):Prop:=
 ∀ {σ:Type}(l:Nat) (I:Nat->σ->Prop) (Lc:σ->Lo) (pre:σ->Mem->Prop),(∀ s i,9000<=i->(Lc s).get i=none)->(∀ G G' s,Mem.le G G'->pre s G->pre s G')->
  (∀ (j:Nat) (u:Value) (s:σ),j<len->I j s->YCtr P l u (Lc s) (fun G=>pre s G/\E j u G) (fun G L b=>b=true/\∃ s',I (j+1) s'/\L=Lc s'/\pre s' G))->
  ∀ s0,I 0 s0->(Lc s0).zero->CtrL P f (#[.func (.yield l) #[] #[]]++lb) (Lc s0) (fun G=>preI G/\pre s0 G) (fun G L u=>u = .tuple #[]/\∃ s',I len s'/\L=Lc s'/\pre s' G)
section
variable {P:Program}{N:Nat}{Q:Post}{fr:Fr}{S:Asrt}{ops:Array Oper}{l:List Oper}{dst:Option Nat}{ty:TypeId}{pos:String}{af:Array Edge}{g:Option (Nat×Bool)}
variable {w0:Bs}{G0 G:Mem}{L:Lo}
theorem WLI.callZ{x y:Operand}{ts:Array TypeId}{loop:Nat}{u:Value}{R Lc:Lo}{pre:Mem->Prop}{post:Mem->Lo->Bool->Prop}(hg:guardOK ops fr ⟨dst,.call ⟨.value x,#[y],ts⟩,ty,pos,af,g⟩ true)(hd:dstOK N dst)
  (hx:fr.ev x=some (.func (.yield loop) #[] #[])) (hy:fr.ev y=some u) (hY:YCtr P loop u Lc pre post) (hp:pre G) (hw:w0.L.zero) (hR:∀ i,i ∈ R.map (·.1)->Lc.get i=none)
  (k:∀ b G' L',Mem.le G G'->post G' L' b->WLI P N ops Q l (putFr dst (.bool b) fr) (St w0 G0 G' (R++L'))) :
  WLI P N ops Q (⟨dst,.call ⟨.value x,#[y],ts⟩,ty,pos,af,g⟩::l) fr (St w0 G0 G (R++Lc)):=by
 have h1:Lo.sub Lc (R++Lc):=fun i z hz=>by
  rw[Lo.ZnD (fun hi=>by rw[hR i hi] at hz; cases hz)]; exact hz
 refine WLI.yield (Φ:=fun v w=>∃ b G' L',v = .bool b/\Mem.le G G'/\post G' L' b/\St w0 G0 G' (R++L') w) hg hd hx hy (fun w hs=>?_) (fun v a w ha hs=>?_)
 .obtain⟨fn,tm,as1,bo,q1,q2⟩:=hY w G (hs.hp h1) hp
  refine⟨fn,tm,as1,bo,q1,q2.mono fun e w' ⟨b,G',L',e1,e2,e3⟩=>⟨.bool b,e1,b,G',L',rfl,e2.le,e3,?_⟩⟩
  refine hs.ext (R:=R) e2 h1 (fun i z hz=>Lo.ZoI hz) (fun i z hz=>hR i (Lo.Zma hz)) (fun i z z' hi hj t ht=>?_) (fun i z hz=>(Lo.get_append _ _ i z hz).symm)
  rw[Lo.ZeL hw ht]
  exact Nat.zero_le _
 obtain⟨b,G',L',rfl,h2,h3,h4⟩:=hs
 exact k b G' L' h2 h3 a w ha h4
end
section
variable {P:Program}{N:Nat}{Q:Post}{fr:Fr}{fn:Func}{w0:Bs}{G0 G:Mem}{L:Lo}
theorem WE.retD{rvs:List ResultVar}{d:Nat}{post:Mem->Lo->Value->Prop}(L3:Lo)(vs:List Value)(hr:fn.results=rvs.toArray)(hl:rvs.length=vs.length)(hd:L.get 8002=some ⟨d,.deferred (some []),0⟩)
  (h:∀ (i:Nat) (rv:ResultVar) (v:Value),rvs[i]? = some rv->vs[i]? = some v->RV P fr ((8002,some ⟨d,.deferred none,0⟩)::L) rv v) (h3:Lo.sub L3 ((8002,some ⟨d,.deferred none,0⟩)::L)) (hp:post G L3 (if h:vs.toArray.size=1 then vs.toArray[0] else .tuple vs.toArray)) :
  WE N (PQ [{ target:=.collected d,args:=#[] }] (bodyPostM Fence.wide 0 P fn (RetL w0 G0 post))) .ret fr (St w0 G0 G L):=by
 intro a w ha hs
 show LeavesInM Fence.wide 0 P fn a.tmps (RetL w0 G0 post) (a.defers++[{ target:=.collected d,args:=#[] }]) .returning w
 rw[ha.defers]
 have hb:=(hs.loc 8002 _ hd).1
 have hdl:=(Array.getElem?_eq_some_iff.1 hb).1
 have h5:=hs.upd (i:=8002) (m':=0) (w':=World.putObj _ d (.deferred none)) hd (World.putObj_heap_same hdl) (Nat.le_refl _) (fun k _ hk=>absurd hk (Nat.not_lt_zero k)) (fun k hk=>World.putObj_heap_other hk) rfl rfl rfl rfl (by simp)
 refine⟨by simp,.inl ⟨_,_,rfl,run_takeDeferred hb,⟨_,Zfk hr hl (fun i rv v e1 e2=>(h i rv v e1 e2).run ha h5),?_⟩⟩⟩
 exact⟨_,G,L3,rfl,(⟨h5.os,h5.tape,h5.output,h5.drawn,h5.size,h5.block,h5.base,h5.imm,h5.fresh,h5.loc,h5.dist⟩:Ext w0.w G0 w0.L _ G _).weaken h3,hp⟩
theorem WC.rangeAll{gop:Operand}{t b0 f:Nat}{assign body c2:Code}{lb:Array Value}(hgop:fr.ev gop=some (.func (.func f) #[] lb))(henter:Enters P f)
  (h:∀ (a:Act) (d lp:Nat) (r:Loop),Rel N fr a->r.state = .ready->r.pending=none->r.tmps=a.tmps->r.params = #[t]->r.assign=assign->r.body=body->∃ (pre:Mem->Prop) (Lc:Lo) (post:Mem->Lo->Value->Prop),
   Lo.sub Lc ((8001,some ⟨lp,.loop r,0⟩)::(8002,some ⟨d,.deferred (some []),0⟩)::L)/\
   (∀ i,i ∈ Lc.map (·.1)->w0.L.get i=none)/\CtrL P f (#[.func (.yield lp) #[] #[]]++lb) Lc pre post/\pre G/\
   ∀ G' L' v,Mem.le G G'->post G' L' v->L'.get 8001=some ⟨lp,.loop r,0⟩/\WCD P N [{ target:=.collected d,args:=#[] }] c2 Q fr (St w0 G0 G' ((8001,some ⟨lp,.loop { r with state:=.exhausted },0⟩)::L'))) :
  WC P N (.block b0 (.rangeFunc gop #[t] assign body)) (Exit.then (c2.wp P Q) Q) fr (St w0 G0 G L):=by
 refine WC.block ?_
 intro a w ha hs
 refine (wpIn_wide (n:=0)).1 (wpIn_rangeFunc ?_)
 intro fnid _
 let r:Loop:={ state:=.ready,pending:=none,fn:=fnid,tmps:=a.tmps,params:=#[t],assign:=assign,body:=body,defers:=w.heap.size }
 obtain⟨pre,Lc,post,hsub,hno,hctr,hpre,hk⟩:=h a w.heap.size (w.heap.size+1) r ha rfl rfl rfl rfl rfl rfl
 have hs1:St w0 G0 G _ ((w.alloc (.deferred (some []))).alloc (.loop r)):=(hs.push 8002 (.deferred (some []))).push 8001 (.loop r)
 have hl1:(w.alloc (.deferred (some []))).heap.size=w.heap.size+1:=by simp
 rw[hl1] at hs1
 refine⟨w.heap.size+1,[{ target:=.collected w.heap.size,args:=#[] }],((w.alloc (.deferred (some []))).alloc (.loop r)),{ target:=.fn (.func f) lb,args:=#[.func (.yield (w.heap.size+1)) #[] #[]] },((w.alloc (.deferred (some []))).alloc (.loop r)),f,#[.func (.yield (w.heap.size+1)) #[] #[]]++lb,((w.alloc (.deferred (some []))).alloc (.loop r)),run_enterLoop_outer _ _ _ _ _,?_,fun _ _=>trivial,?_,fun h=>by simp[Fence.wide] at h,?_⟩
 .have e6:=ha.ev hgop
  have e7:a.eval (.const (.func (.yield (w.heap.size+1)) #[] #[])) = .func (.yield (w.heap.size+1)) #[] #[]:=rfl
  simp[resolve,Deferred.ofValue,e6,e7]
 .simpa [invoke] using henter _ _
 refine (callsIn_wide (n:=0)).2 ?_
 refine (hctr _ G (hs1.hp hsub) hpre).mono fun e w2 ⟨v,G',L',he,hext,hpost⟩=>?_
 subst he
 obtain⟨hl',hw⟩:=hk G' L' v hext.le hpost
 have hs2:St w0 G0 G' L' w2:=hs1.ext (R:=[]) hext hsub (Lo.Zt _) (fun i x hx=>by simp[Lo.get] at hx) (fun i x y hi _ z hz=>by rw[hno i (Lo.Zma hi)] at hz; cases hz) (fun i x hx=>.inl hx)
 have hb:=(hs2.loc 8001 _ hl').1
 refine⟨r.pending,_,run_endLoop hb (by show LoopState.ready≠_; simp),?_⟩
 have hs3:=hs2.putLoop (r':={ r with state:=.exhausted }) hl'
 have h9:=hw a _ ha hs3
 have e9:plus a [({ target:=.collected w.heap.size,args:=#[] }:Deferred)] = { a with defers:=[({ target:=.collected w.heap.size,args:=#[] }:Deferred)]++a.defers }:=by unfold plus; rw[ha.defers]; rfl
 rw[e9] at h9
 exact h9
theorem CtrL.enterM{f:FuncId}{c:Code}{args:List Value}{L0:Lo}{pre:Mem->Prop}{post:Mem->Lo->Value->Prop}(hf:P.funcs[f]? = some fn)(hb:fn.body=some c)(hN:fn.ntmps=N)(ha:Nat.ble args.length N=true)
  (h:∀ w0 G0,w0.L=L0->pre G0->WC P N c (bodyPostM Fence.wide 0 P fn (RetL w0 G0 post)) (argFr args 0) (St w0 G0 G0 L0)):CtrL P f args.toArray L0 pre post:=by
 intro w G hi hp
 refine (callsIn_wide (n:=0)).1 (callsIn_of_wp_marks hf hb trivial ((wpIn_wide (n:=0)).2 ?_))
 refine h ⟨w,L0⟩ G rfl hp _ w ⟨rfl,?_,fun t v hv=>?_⟩ hi.st
 .have:=Nat.le_of_ble_eq_true ha
  simp only[Array.size_append,List.size_toArray,Array.size_replicate]
  omega
 obtain⟨_,h2⟩:=ZgL args 0 t v hv
 simp only[Nat.sub_zero] at h2
 have hlt:=(List.getElem?_eq_some_iff.1 h2).1
 rw[Array.getElem?_append_left (by simpa using hlt)]
 simpa using h2
theorem WCI.cond{r:Nat}{c:Operand}{x y:Code}{b:Bool}{S:Asrt}(hc:fr.ev c=some (.bool b))(ht:b=true->WCI P N r x Q fr S)(hf:b=false->WCI P N r y Q fr S):WCI P N r (.cond c x y) Q fr S:=fun a w ha hs=>by
 cases b with
 | true=>exact wpIn_cond_true (by rw[ha.ev hc]) (ht rfl a w ha hs)
 | false=>exact wpIn_cond_false (by rw[ha.ev hc]) (hf rfl a w ha hs)
theorem Zjm{l:Nat}{c c2:Code}{S:Asrt}(e:c=c2)(h:WCI P N l c2 Q fr S):WCI P N l c Q fr S:=by rw[e]; exact h
end
end Go.EL
namespace Go.EL
open Go.IntKind (i8 i16 i32 i64 u8 u16 u32 u64)
open Go Go.RowKit
section
variable {α:Type}{r:Rp α}{G:Mem}
def Elt.enc1(a:Elt r G):Value:=a.1.1.headD Value.nilFunc
theorem Elt.ZpD{a:Elt r G}(h:(Elt.enc a).length=1):Elt.enc a=[Elt.enc1 a]:=by
 obtain⟨⟨cs,x⟩,hx⟩:=a
 change cs.length=1 at h
 change cs=[cs.headD Value.nilFunc]
 match cs,h with
 | [u],_=>rfl
end
variable {P:Program}{ρ:Go.Shelf.Ren}
set_option maxHeartbeats 1000000 in
theorem pdqQ{α:Type}{r:Rp α}(hrz:r.size=1){cmp:α->α->Int}(swo:Go.Sort.SWO (Go.Proofs.ltOf cmp))(S:Go.Proofs.SlLaysF.n14 P ρ){f g:Nat}(hf:ρ.f 14=f)
  (hg:∀ (x y:α) (u v:Value),Ctr P g #[u,v] (fun G=>r.rep G [u] x/\r.rep G [v] y) (fun _ v=>v = .int .i64 (cmp x y))) (eg:∀ args w,(callFunc g args).run P w = .ok (.enter g args) w)
  (e:TypeId) (p:Option Addr) (n c:Nat) (l:List α) (tk:Option Ow) (lim:Nat) (hlim:lim<4611686018427387904) (hlen:l.length<=1000000000) :
  CtrL P f #[.slice p n c,.int .i64 0,.int .i64 (l.length:Int),.int .i64 (lim:Int),.func (.func g) #[] #[]] [(5000,tk)] (fun G=>RowR r e G (.slice p n c) l tk)
   (fun G L v=>∃ ys tk',L=[(5000,tk')]/\v = .tuple #[]/\RowR r e G (.slice p n c) ys tk'/\ys.Perm l/\ys.Pairwise (fun a b=>Go.Proofs.ltOf cmp b a=false)):=by
 subst hf
 intro w G hi hrow
 by_cases hnil:l=[]
 .subst hnil
  obtain⟨p',c',hv⟩:=hrow.form
  cases hv
  refine (Go.Proofs.AnyF.pdqsortCmpFunc_none { S with } p c (lim:Int) _ w).mono ?_
  rintro en w' ⟨rfl,rfl⟩
  exact⟨_,G,[(5000,tk)],rfl,hi.st.toExt,[],tk,rfl,rfl,hrow,List.Perm.refl _,List.Pairwise.nil⟩
 cases tk with
 | none=>exact absurd hrow.1 hnil
 | some y=>
  obtain⟨cap,cs,rest,h1,h2,h3,h4,h5,h6,h7⟩:=hrow
  obtain⟨b,o,m⟩:=y
  dsimp only at h1 h2 h3
  subst h2 h3
  cases h1
  obtain⟨d,hcs,hd⟩:=RepL.elts h4
  subst hcs
  have hdl:d.length=l.length:=by rw[<- hd,List.length_map]
  haveI:Inhabited (Elt r G):=⟨d[0]'(by have:=List.length_pos_iff.2 hnil; omega)⟩
  have hl:∀ x:Elt r G,(Elt.enc x).length=1:=fun x=>by rw[<- hrz]; exact r.len x.2
  have he1:∀ x:Elt r G,Elt.enc x=[Elt.enc1 x]:=fun x=>Elt.ZpD (hl x)
  have hfm:∀ d:List (Elt r G),d.flatMap Elt.enc=d.map Elt.enc1:=fun d=>by
   induction d with
   | nil=>rfl
   | cons a d ih=>rw[List.flatMap_cons,he1,ih]; rfl
  have hone:∀ x:Elt r G,∀ v ∈ Elt.enc x,v.oneCell'=true:=fun x=>r.one x.2
  let cf:Elt r G->Elt r G->Int:=fun x y=>cmp x.1.2 y.1.2
  have hO:Go.Sort.SWO (Go.Proofs.ltOf cf):=⟨fun x=>swo.irrefl x.1.2,fun x y z=>swo.trans x.1.2 y.1.2 z.1.2,fun x y z=>swo.ntrans x.1.2 y.1.2 z.1.2⟩
  have hget:Lo.get [(5000,some ⟨b,Obj.cells (d.flatMap Elt.enc++rest).toArray e (0,0),0⟩)] 5000=some ⟨b,.cells (d.flatMap Elt.enc++rest).toArray e (0,0),0⟩:=by simp[Lo.get]
  obtain⟨hb,hGb⟩:=hi.loc 5000 _ hget
  dsimp only at hb hGb
  have hbs:b<w.heap.size:=(Array.getElem?_eq_some_iff.1 hb).1
  have himm:∀ (m:Nat) (os:Array Obj) (dk:Array (Elt r G)),Imm G (Go.Proofs.sortWorld Elt.enc1 w b 0 m dk os):=by
   intro m os dk b' o' v hv
   have hne:b'≠b:=fun e=>by subst e; rw[hGb o' (Nat.zero_le _)] at hv; cases hv
   have hc:=hi.imm b' o' v hv
   have hlt:b'<w.heap.size:=Imm.lt hi.imm hv
   have hh:(Go.Proofs.sortWorld Elt.enc1 w b 0 m dk os).heap[b']? = w.heap[b']?:=by
    simp only[Go.Proofs.sortWorld,Go.Sort.grow,Go.Sort.putRow,Go.Sort.mapBlock,Go.Sort.ahead]
    rw[Array.getElem?_append_left (by simpa using hlt),Array.getElem?_modify,if_neg (fun e=>hne e.symm)]
   unfold World.cell? at hc ⊢
   dsimp only at hc ⊢
   rw[hh]; exact hc
  have hc:Go.Proofs.CmpLays1 P g #[] Elt.enc1 cf b 0 d.toArray.size w:=by
   intro m os dk _ x y
   refine (hg x.1.2 y.1.2 (Elt.enc1 x) (Elt.enc1 y) _ G ⟨himm m os dk,fun i x hx=>by simp[Lo.get] at hx,fun i j x y _ hx=>by simp[Lo.get] at hx⟩ ⟨by rw[<- he1]; exact x.2,by rw[<- he1]; exact y.2⟩).mono ?_
   rintro en w' ⟨r',G',L',he,hx,rfl⟩
   exact⟨he,ZhU hx.os hx.tape hx.output hx.drawn hx.size fun k hk=>hx.block k hk (fun _ _ h=>by simp[Lo.get] at h)⟩
  have hH:Go.Sort.Holds Elt.enc1 w b 0 d.toArray:=by
   intro j hj
   simp only[List.size_toArray] at hj
   have h1:(d.flatMap Elt.enc)[j]? = some (Elt.enc1 d[j]):=by rw[hfm,List.getElem?_map,List.getElem?_eq_getElem hj]; rfl
   constructor
   .simp only[World.cell?,hb,Nat.zero_add,Option.isSome_none,Bool.false_eq_true,if_false,List.getElem?_toArray]
    rw[List.getElem?_append_left (by rw[hfm,List.length_map]; exact hj),h1]
    rw[getElem!_pos _ _ (by simpa using hj)]; simp
   simp[World.frozen?,hb]
  have hone1:Go.Proofs.OneCell (Elt.enc1 (r:=r) (G:=G)):=fun x=>hone x _ (by rw[he1]; simp)
  have hS:=Go.Proofs.Any.pdqsortCmpFunc_all S Elt.enc1 cf g #[] hO b 0 c d.toArray w eg hc ⟨hone1,hH,hbs⟩ (d.toArray.size+1) 0 d.toArray.size lim d.toArray w (by omega) rfl (Go.Proofs.SW.start hH) (Nat.zero_le _) (Nat.le_refl _) (by simp; omega) hlim (Or.inl rfl)
  have hsorts:=Go.Sort.pdq_sorts (Go.Proofs.ltOf cf) hO d.toArray 0 d.toArray.size lim true true (Nat.zero_le _) (Nat.le_refl _) (Or.inl rfl)
  generalize Go.Sort.pdq (Go.Proofs.ltOf cf) d.toArray 0 d.toArray.size lim true true=d' at hS hsorts
  obtain⟨⟨hsz',_,hperm⟩,hsorted⟩:=hsorts
  have hperm':d'.toList.Perm d:=by
   have e1:(d'.extract 0 d.toArray.size).toList=d'.toList:=by rw[<- hsz',Array.extract_size]
   have e2:(d.toArray.extract 0 d.toArray.size).toList=d:=by simp
   rw[e1,e2] at hperm; exact hperm
  rw[show (d.toArray.size:Nat)=l.length by simpa using hdl] at hS
  refine Calls.mono (by simpa using hS) ?_
  rintro en w' ⟨rfl,n,os,hw⟩
  have hd'l:d'.toList.length=d.length:=hperm'.length_eq
  have hw':w'=Go.Sort.grow (Go.Sort.putRow Elt.enc1 (Go.Sort.ahead w n) b 0 d') os:=hw
  have hother:∀ k,k<w.heap.size->k≠b->w'.heap[k]? = w.heap[k]?:=by
   intro k hk hne
   rw[hw']
   simp only[Go.Sort.grow,Go.Sort.putRow,Go.Sort.mapBlock,Go.Sort.ahead]
   rw[Array.getElem?_append_left (by simpa using hk),Array.getElem?_modify,if_neg (fun e=>hne e.symm)]
  have hfl:(d'.toList.flatMap Elt.enc).length=(d.flatMap Elt.enc).length:=by rw[ZbT hl,ZbT hl,hd'l]
  have hrow:w'.heap[b]? = some (.cells (d'.toList.flatMap Elt.enc++rest).toArray e (0,0)):=by
   rw[hw']
   simp only[Go.Sort.grow,Go.Sort.putRow,Go.Sort.mapBlock,Go.Sort.ahead]
   rw[Array.getElem?_append_left (by simpa using hbs),Array.getElem?_modify,if_pos rfl,hb]
   simp only[Option.map_some,Go.Sort.onCells,Option.some.injEq,Obj.cells.injEq,and_true]
   apply Array.ext_getElem?
   intro k
   simp only[Go.Sort.putCells,Array.getElem?_mapIdx,List.getElem?_toArray,Nat.zero_le,true_and,Nat.zero_add,Nat.sub_zero]
   by_cases hk:k<(d.flatMap Elt.enc).length
   .rw[List.getElem?_append_left hk,List.getElem?_append_left (by omega),List.getElem?_eq_getElem hk,List.getElem?_eq_getElem (by omega:k<(d'.toList.flatMap Elt.enc).length)]
    have hkd:k<d'.size:=by rw[hfm,List.length_map] at hk; rw[<- Array.length_toList]; omega
    simp only[Option.map_some,if_pos hkd]
    rw[getElem!_pos d' k hkd]
    simp only[hfm,List.getElem_map,Array.getElem_toList]
   rw[List.getElem?_append_right (by omega),List.getElem?_append_right (by omega),hfl]
   cases rest[k-(d.flatMap Elt.enc).length]? with
   | none=>rfl
   | some v=>
    have hkd:¬ k<d'.size:=by rw[hfm,List.length_map] at hk; rw[<- Array.length_toList]; omega
    simp only[Option.map_some,if_neg hkd]
  have hsz:w.heap.size<=w'.heap.size:=by
   rw[hw']; simp[Go.Sort.grow,Go.Sort.putRow,Go.Sort.mapBlock,Go.Sort.ahead]
  have one:∀ j x,Lo.get [(5000,some (⟨b,Obj.cells (d'.toList.flatMap Elt.enc++rest).toArray e (0,0),0⟩:Ow))] j=some x->x=⟨b,Obj.cells (d'.toList.flatMap Elt.enc++rest).toArray e (0,0),0⟩/\5000=j:=by
   intro j x hx
   rw[Lo.Zi] at hx
   split at hx
   .rename_i e'; cases hx; exact⟨rfl,e'⟩
   simp[Lo.get] at hx
  have hml:(d'.toList.map (fun a=>a.1.2)).length=l.length:=by rw[List.length_map,hd'l,hdl]
  refine⟨_,G,[(5000,some ⟨b,.cells (d'.toList.flatMap Elt.enc++rest).toArray e (0,0),0⟩)],rfl,⟨by rw[hw']; rfl,by rw[hw']; rfl,by rw[hw']; rfl,by rw[hw']; simp[Go.Sort.grow,Go.Sort.putRow,Go.Sort.mapBlock,Go.Sort.ahead],hsz,?_,Mem.le_refl _,?_,fun _ _ _ h=>.inl h,?_,?_⟩,d'.toList.map (fun a=>a.1.2),_,rfl,rfl,?_,?_,?_⟩
  .intro k hk hn
   exact hother k hk fun e=>by subst e; exact hn 5000 _ hget rfl
  .intro k o v hv
   have hc:=hi.imm k o v hv
   have hne:k≠b:=fun e=>by subst e; rw[hGb o (Nat.zero_le _)] at hv; cases hv
   have hk:k<w.heap.size:=World.block_lt_of_cell? w _ hc
   simp only[World.cell?,hother k hk hne] at hc ⊢
   exact hc
  .intro j x hj
   obtain⟨rfl,rfl⟩:=one j x hj
   exact⟨hrow,.inl ⟨_,hget,rfl⟩,hGb⟩
  .intro j k x y hne h1 h2
   exact absurd ((one j x h1).2.symm.trans (one k y h2).2) hne
  .refine⟨c,d'.toList.flatMap Elt.enc,rest,by rw[hml],rfl,rfl,RepL.ofElts _,?_,h6,by rw[hml]; exact h7⟩
   rw[List.length_append,hfl,<- List.length_append]; exact h5
  .have:=hperm'.map (fun a=>a.1.2)
   rwa [hd] at this
  rw[List.pairwise_map]
  rw[List.pairwise_iff_getElem]
  intro i j hi' hj' hij
  have hs:=hsorted i j (Nat.zero_le _) hij (by simp only[Array.length_toList] at hj'; omega)
  rw[getElem!_pos _ _ (by simpa using hj'),getElem!_pos _ _ (by simpa using hi')] at hs
  simp only[Array.getElem_toList]
  exact hs
end Go.EL
namespace Go.EL
open Go.IntKind (i8 i16 i32 i64 u8 u16 u32 u64)
open Go Go.RowKit
section
variable {α β:Type}{r:Rp α}{f:β->α}{G:Mem}{e:TypeId}
theorem RepL.via:∀ {l:List β}{cs:List Value},RepL (r.via f) G cs l↔RepL r G cs (l.map f)
 | [],_=>Iff.rfl
 | x::l,cs=>by
  constructor
  .rintro⟨c,d,h1,h2,h3⟩; exact⟨c,d,h1,h2,RepL.via.1 h3⟩
  rintro⟨c,d,h1,h2,h3⟩; exact⟨c,d,h1,h2,RepL.via.2 h3⟩
theorem RowR.via{v:Value}{l:List β}{tk:Option Ow}:RowR (r.via f) e G v l tk↔RowR r e G v (l.map f) tk:=by
 cases tk with
 | none=>
  constructor
  .rintro⟨rfl,h⟩; exact⟨rfl,h⟩
  rintro⟨h1,h⟩; exact⟨List.map_eq_nil_iff.1 h1,h⟩
 | some x=>
  constructor
  .rintro⟨cap,cs,rest,h1,h2,h3,h4,h5,h6,h7⟩
   exact⟨cap,cs,rest,by rw[List.length_map]; exact h1,h2,h3,RepL.via.1 h4,h5,h6,by rw[List.length_map]; exact h7⟩
  rintro⟨cap,cs,rest,h1,h2,h3,h4,h5,h6,h7⟩
  rw[List.length_map] at h1 h7
  exact⟨cap,cs,rest,h1,h2,h3,RepL.via.2 h4,h5,h6,h7⟩
end
end Go.EL
namespace Go.EL
open Go.IntKind (i8 i16 i32 i64 u8 u16 u32 u64)
open Go Go.RowKit
theorem Y0.slArr{P:Program}{N:Nat}{fr:Fr}{S:Asrt}{dst:Option Nat}{ty:TypeId}{pos:String}{af:Array Edge}{g:Option (Nat×Bool)}{t e:TypeId}{x y1 y2:Operand}{b n lo hi:Nat}{k1 k2:IntKind}(ht:P.underlying t=some (.array n e))(hsz:(P.info? e).map (·.size)=some 1)
  (hx:fr.ev x=some (.pointer (some ⟨b,0,none⟩))) (h1:fr.ev y1=some (.int k1 (lo:Int))) (h2:fr.ev y2=some (.int k2 (hi:Int))) (hlo:lo<n) (hh:lo<=hi) (hn:hi<=n) :
  Y0 P N ⟨dst,.slice t x (some y1) (some y2) none,ty,pos,af,g⟩ fr S (.slice (some ⟨b,lo,none⟩) (hi-lo) (n-lo)):=fun a w ha _=>by
 have i3:¬ n=lo:=by omega
 simp only[execOp,ha.ev hx,ha.ev h1,ha.ev h2,Option.map_none,Option.map_some]
 simp[Instr.sliceAt,run_underlying ht,Instr.sureAddr,Instr.sliceBounds,Instr.sliceBound,asIntOf,run_sizeOf hsz,Z6,hh,hn,i3]
end Go.EL
namespace Go.EL
open Go.IntKind (i8 i16 i32 i64 u8 u16 u32 u64)
open Go Go.RowKit
theorem Y0.lssS{P:Program}{N:Nat}{fr:Fr}{S:Asrt}{dst:Option Nat}{ty:TypeId}{pos:String}{af:Array Edge}{g:Option (Nat×Bool)}{t b:TypeId}{x y:Operand}{s u:ByteArray}(hx:fr.ev x=some (.string s))(hy:fr.ev y=some (.string u)):
  Y0 P N ⟨dst,.binOp .lss t x y b,ty,pos,af,g⟩ fr S (.bool (Op.bytesLess s.toList u.toList)):=
 Y0.bin hx hy (ZgV _ _ _ _ _ _) fun w=>by simp[binOp,Op.stringOp]
end Go.EL
namespace Go.EL
open Go.IntKind (i8 i16 i32 i64 u8 u16 u32 u64)
open Go Go.RowKit Go.Proofs
section
variable {P:Program}{N:Nat}{Q:Post}{fr:Fr}{w0:Bs}{G0 G:Mem}{L:Lo}{ops:Array Oper}{ty:TypeId}{pos:String}{af:Array Edge}{g:Option (Nat×Bool)}{fs:List Bool}{l:List Oper}{det:Fr}{und:Und}{d:Nat}{op:Op}
variable {α β:Type}{r:Rp α}{e:TypeId}{r':Rp β}{e':TypeId}
def SlX(r:Rp β)(ys:List β):Mem->Value->Prop:=fun G v=>∃ p c,v = .slice p ys.length c/\SlR r G (.slice p ys.length c) ys
theorem Chain.callEatR{Bt:Asrt}{f:FuncId}{kk:Nat}{xs:List α}(ys:List β)(hg:∀ u,guardOK ops (undFr und u++(det++fr)) ⟨some d,op,ty,pos,af,g⟩ true)
  (hk:und.any (fun p=>Nat.beq p.1 kk)=true) (hl:((⟨some d,op,ty,pos,af,g⟩:Oper).looksAt ops).contains kk=true) (hso:soleB ops kk=true)
  (h:∀ u (G':Gx),Mem.le G G'.m->undLook ops ⟨some d,op,ty,pos,af,g⟩ und u G'->∃ v,RowX r e kk xs v G'/\∀ p c tk,v = .slice p xs.length c->RowR r e G'.m (.slice p xs.length c) xs tk->∃ args args' pre,(∀ S,YC P N ⟨some d,op,ty,pos,af,g⟩ (undFr und u++(det++fr)) S f args')/\
   CtrL P f args [(5000,tk)] pre (fun G L v=>∃ zp zc ztk,L=[(5000,ztk)]/\v = .slice zp ys.length zc/\RowR r' e' G (.slice zp ys.length zc) ys ztk)/\args'=args/\pre G'.m)
  (k:Chain P N Q fr w0 G0 G L ops Bt fs l det ((d,fun v g=>SlX r' ys g.m v)::eatO (some kk) und)):Chain P N Q fr w0 G0 G L ops Bt (false::fs) (⟨some d,op,ty,pos,af,g⟩::l) det und:=
 Chain.ceat d kk (fun v g=>SlX r' ys g.m v) rfl hk hl hso (fun v _ _ h hh=>by obtain⟨p,c,h1,h2⟩:=hh; exact⟨p,c,h1,h2.mono h.1⟩) (fun u G' hle hu=>by
  obtain⟨v,⟨p,c,tk,h1,h2,h3⟩,h4⟩:=h u G' hle.1 hu
  refine .inr ⟨hg u,fun a w ha hs=>?_⟩
  have s1:St ⟨w,[(5000,tk)]⟩ G'.m G'.m [(5000,tk)] w:=Hp.st ⟨hs.st.imm,fun i y hi=>by
   rw[Lo.Zi] at hi
   split at hi
   .obtain⟨q1,q2,q3,q4⟩:=hs.own _ _ _ (h3 y hi)
    exact⟨q1,fun k _=>q3 k⟩
   .simp[Lo.get] at hi,fun i j y y' hne h1 h2=>by
   rw[Lo.Zi] at h1 h2
   split at h1
   .split at h2
    .omega
    simp[Lo.get] at h2
   simp[Lo.get] at h1⟩
  have hzero:Lo.zero [(5000,tk)]:=fun q hq y hy=>by
   rw[List.mem_singleton] at hq
   subst hq
   exact h2.zero hy
  obtain⟨args,args',pre,q1,q2,q3,q4⟩:=h4 p c tk h1 h2
  rw[q1 _ a w ha hs]
  subst q3
  refine (q2 w G'.m (s1.hp (Lo.Zb3 _)) q4).mono fun e' w' ⟨rv,G2,L2,p1,p2,zp,zc,ztk,p3,p4,p5⟩=>⟨rv,p1,?_⟩
  subst p3
  have s2:St ⟨w,[(5000,tk)]⟩ G'.m G2 [(5000,ztk)] w':=s1.ext (R:=[]) p2 (Lo.Zb3 _) (Lo.Zt _) (fun i x hx=>by simp[Lo.get] at hx) (fun i x y hi _ z hz=>by rw[show x=z from Option.some.inj (hi.symm.trans hz)]; exact Nat.le_refl _) (fun i x hx=>.inl hx)
  obtain⟨Gf,tk',f1,f2,_,f4,_⟩:=p5.freezeZ (w0:=⟨w,[(5000,tk)]⟩) (key:=5000) (by simp[Lo.Zi]) hzero s2
  have s3:St ⟨w,[(5000,tk)]⟩ G'.m Gf [(5000,none)] w':=f4.weaken (fun i x hx=>by
   rw[Lo.Zi] at hx
   split at hx
   .cases hx
   simp[Lo.get] at hx)
  obtain⟨s4,s5⟩:=hs.extO (d:=d) (k:=some kk) (i0:=5000) (tk:=none) s3.toExt (fun i y hi=>by
   rw[Lo.Zi] at hi
   split at hi
   .exact⟨kk,y.o,rfl,h3 y hi⟩
   simp[Lo.get] at hi) (fun y hy=>by cases hy)
  exact⟨_,s5,s4,zp,zc,p4,f2⟩) k
end
end Go.EL
namespace Go.EL
open Go.IntKind (i8 i16 i32 i64 u8 u16 u32 u64)
open Go Go.RowKit Go.Proofs
end Go.EL
namespace Go.EL
open Go.IntKind (i8 i16 i32 i64 u8 u16 u32 u64)
open Go Go.RowKit Go.Proofs
end Go.EL
namespace Go.EL
open Go.IntKind (i8 i16 i32 i64 u8 u16 u32 u64)
end Go.EL
namespace Go.EL
open Go.IntKind (i8 i16 i32 i64 u8 u16 u32 u64)
open Go Go.RowKit Go.Proofs
end Go.EL
namespace Go.EL
open Go.IntKind (i8 i16 i32 i64 u8 u16 u32 u64)
open Go Go.RowKit Go.Proofs
theorem fz0{A fr:Fr}(h:A.map (fun p=>fr.get p.1)=A.map (fun p=>some p.2)):Fr.sub A fr:=by
 induction A with
 | nil=>exact Fr.Zt _
 | cons p A ih=>
  simp only[List.map_cons,List.cons.injEq] at h
  exact Fr.Zd h.1 (ih h.2)
theorem oA{a b r:Prop}(h:a/\b)(k:a->b->r):r:=k h.1 h.2
theorem oE{α:Type}{p q:α->Prop}{r:Prop}(h:∃ x,p x/\q x)(k:∀ x,p x->q x->r):r:=let ⟨x,a,b⟩:=h; k x a b
section
variable {P:Program}{N:Nat}{Q:Post}{fr:Fr}{S:Asrt}
theorem WC.seqX{Y β:Type}{x y:Code}{m:Cq β}{Ψ:β->Prop}(_:m.wp Ψ)(e:Y->Fr×Cq β×Prop×Asrt)(h1:WC P N x (Exit.then (MidH N (fun y=>(e y).1) (fun y=>(e y).2.1.wp Ψ/\(e y).2.2.1) (fun y=>(e y).2.2.2)) Q) fr S)
  (h2:∀ z,(e z).2.1.wp Ψ/\(e z).2.2.1->WC P N y Q (e z).1 (e z).2.2.2):WC P N (.seq x y) Q fr S:=WC.seqH _ _ _ h1 h2
theorem WC.meetL{X Y σ ρ β:Type}{id:Nat}{c:Code}{step:σ->Cq (σ⊕ρ)}{s₀:σ}{k:ρ->Cq β}{Ψ:β->Prop}(hl:((Cq.loop step s₀).next k).wp Ψ)(g:X->σ×Fr×Prop×Asrt)(e:Y->ρ×Fr×Prop×Asrt)(x₀:X)(h0:(g x₀).1=s₀)(hF:Fr.sub (g x₀).2.1 fr)(hH:(g x₀).2.2.1)(hI:∀ w,S w->(g x₀).2.2.2 w)
  (round:∀ (A:σ->Prop) x,(g x).2.2.1->(step (g x).1).wp (Out A fun o=>(k o).wp Ψ)->WC P N c (Exit.then (BackR N (fun x=>(g x).2.1) (fun x=>(g x).2.2.1) (fun x=>(g x).2.2.2) (fun x=>(g x).1) A) (Exit.inBlock id (EndH N (fun y=>(e y).2.1) (fun y=>(k (e y).1).wp Ψ/\(e y).2.2.1) (fun y=>(e y).2.2.2) Q))) (g x).2.1 (g x).2.2.2)
  (h2:∀ z,(k (e z).1).wp Ψ/\(e z).2.2.1->WE N Q .normal (e z).2.1 (e z).2.2.2):WC P N (.block id (.loop c)) Q fr S:=by
 subst h0
 exact WC.meetH (fun y=>(e y).2.1) (fun y=>(k (e y).1).wp Ψ/\(e y).2.2.1) (fun y=>(e y).2.2.2) (WC.block (WC.loopR (Φ:=fun o=>(k o).wp Ψ) (fun x=>(g x).1) (fun x=>(g x).2.1) (fun x=>(g x).2.2.1) (fun x=>(g x).2.2.2) x₀ hl hF hH hI round)) h2
end
section
variable {P:Program}{N:Nat}{Q:Post}{fr:Fr}{S:Asrt}{ops:Array Oper}{l:List Oper}{dst:Option Nat}{op:Op}{ty:TypeId}{pos:String}{af:Array Edge}{v:Value}{x:Operand}
theorem yw0(h:Y0 P N ⟨dst,op,ty,pos,af,none⟩ fr S v)(k:WL P N ops Q l (putFr dst v fr) S)(hd:dstOK N dst:=by exact rfl):WL P N ops Q (⟨dst,op,ty,pos,af,none⟩::l) fr S:=yy h hd k
theorem mw0(h:fr.ev x=some v)(k:WL P N ops Q l (putFr dst v fr) S)(hd:dstOK N dst:=by exact rfl):WL P N ops Q (⟨dst,.move x,ty,pos,af,none⟩::l) fr S:=mv h hd k
theorem sw0(h:fr.ev x=some v)(k:WL P N ops Q l (putFr dst v fr) S)(hd:dstOK N dst:=by exact rfl):WL P N ops Q (⟨dst,.assign x,ty,pos,af,none⟩::l) fr S:=sg h hd k
theorem cm0{Bt:Asrt}{w0:Bs}{G0 G:Mem}{L:Lo}{fs:List Bool}{det:Fr}(h:(det++fr).ev x=some v)(k:Chain P N Q fr w0 G0 G L ops Bt fs l (putFr dst v det) []):Chain P N Q fr w0 G0 G L ops Bt (false::fs) (⟨dst,.move x,ty,pos,af,none⟩::l) det []:=cn (fun _ _=>Y0.move h) k
theorem ad0{t yt:TypeId}{y:Operand}{k:IntKind}{a b:Int}(h:(fr.ev x,fr.ev y)=(some (.int k a),some (.int k b)))(kk:WL P N ops Q l (putFr dst (.int k (k.wrap (a+b))) fr) S)(hd:dstOK N dst:=by exact rfl):WL P N ops Q (⟨dst,.binOp .add t x y yt,ty,pos,af,none⟩::l) fr S:=yy (Y0.add (congrArg Prod.fst h) (congrArg Prod.snd h)) hd kk
theorem ls0{t yt:TypeId}{y:Operand}{k:IntKind}{a b:Int}(h:(fr.ev x,fr.ev y)=(some (.int k a),some (.int k b)))(kk:WL P N ops Q l (putFr dst (.bool (decide (a<b))) fr) S)(hd:dstOK N dst:=by exact rfl):WL P N ops Q (⟨dst,.binOp .lss t x y yt,ty,pos,af,none⟩::l) fr S:=yy (Y0.lss (congrArg Prod.fst h) (congrArg Prod.snd h)) hd kk
theorem pt00{c y:Operand}(h:(fr.ev c,fr.ev x)=(some (.bool true),some v))(kk:WL P N ops Q l (putFr dst v fr) S)(hd:dstOK N dst:=by exact rfl):WL P N ops Q (⟨dst,.pick c x y,ty,pos,af,none⟩::l) fr S:=yy (Y0.pickT (congrArg Prod.fst h) (congrArg Prod.snd h)) hd kk
theorem pf00{c y:Operand}(h:(fr.ev c,fr.ev y)=(some (.bool false),some v))(kk:WL P N ops Q l (putFr dst v fr) S)(hd:dstOK N dst:=by exact rfl):WL P N ops Q (⟨dst,.pick c x y,ty,pos,af,none⟩::l) fr S:=yy (Y0.pickF (congrArg Prod.fst h) (congrArg Prod.snd h)) hd kk
theorem ex0{i:Nat}{vs:Array Value}(h:(fr.ev x,vs[i]?)=(some (.tuple vs),some v))(kk:WL P N ops Q l (putFr dst v fr) S)(hd:dstOK N dst:=by exact rfl):WL P N ops Q (⟨dst,.extract x i,ty,pos,af,none⟩::l) fr S:=yy (Y0.extract (congrArg Prod.fst h) (congrArg Prod.snd h)) hd kk
theorem gm0{j d:Nat}{c:Bool}(h:((ops[j]?).bind (·.dst),fr.get d,fr.ev x)=(some d,some (.bool c),some v))(kk:WL P N ops Q l (putFr dst v fr) S)(hd:dstOK N dst:=by exact rfl):WL P N ops Q (⟨dst,.move x,ty,pos,af,some (j,c)⟩::l) fr S:=gy (congrArg (·.1) h) (congrArg (·.2.1) h) (Y0.move (congrArg (·.2.2) h)) hd kk
theorem sx1{y:Code}(h:fr.ev x=some v)(kk:WC P N y Q (putFr dst v fr) S)(hd:dstOK N dst:=by exact rfl):WL P N ops (Exit.then (y.wp P Q) Q) [⟨dst,.assign x,ty,pos,af,none⟩] fr S:=sg h hd (nx kk)
theorem stB{w0:Bs}{G0 G:Mem}{L:Lo}{t t':TypeId}{y:Operand}{b n:Nat}{c c':Array Value}(i:Nat)(ht:(P.info? t).map (·.size)=some n)(h:(fr.ev x,fr.ev y,L.get i,c.size,c'.size,c'.toList.all Value.oneCell')=(some (.pointer (some ⟨b,0,none⟩)),some (.agg c'),some ⟨b,.cells c t' (0,0),0⟩,n,n,true))
  (kk:WL P N ops Q l fr (St w0 G0 G ((i,some ⟨b,.cells c' t' (0,0),0⟩)::L))):WL P N ops Q (⟨none,.store t x y,ty,pos,af,none⟩::l) fr (St w0 G0 G L):=WL.storeLA i Ze ht (congrArg (·.1) h) (congrArg (·.2.1) h) (congrArg (·.2.2.1) h) (congrArg (·.2.2.2.1) h) (congrArg (·.2.2.2.2.1) h) (List.all_eq_true.1 (congrArg (·.2.2.2.2.2) h)) kk
end
end Go.EL
namespace Go.EL
open Go.IntKind (i8 i16 i32 i64 u8 u16 u32 u64)
open Go Go.RowKit Go.Proofs
def RowS{α:Type}(pre post:List Value)(r:Rp α)(e:TypeId)(G:Mem)(v:Value)(xs:List α):Option Ow->Prop
 | none=>False
 | some x=>∃ cap cs,v = .slice (some ⟨x.b,pre.length,none⟩) xs.length cap/\x.o = .cells (pre++(cs++post)).toArray e (0,0)/\x.m=0/\RepL r G cs xs/\xs.length<=cap/\cap<=maxLen
section
variable {P:Program}{N:Nat}{Q:Post}{fr:Fr}{w0:Bs}{G0 G:Mem}{L:Lo}{ops:Array Oper}{l:List Oper}{dst:Option Nat}{ty:TypeId}{pos:String}{af:Array Edge}{g:Option (Nat×Bool)}{α:Type}{r:Rp α}{e:TypeId}{S:Asrt}{pre post:List Value}
theorem RowS.form{v:Value}{xs:List α}{tk:Option Ow}(h:RowS pre post r e G v xs tk):∃ p cap,v = .slice p xs.length cap:=by
 cases tk with
 | none=>exact h.elim
 | some x=>obtain⟨cap,cs,h,_⟩:=h; exact⟨_,cap,h⟩
theorem RowS.mono{G':Mem}{v:Value}{xs:List α}{tk:Option Ow}(h:RowS pre post r e G v xs tk)(hle:Mem.le G G'):RowS pre post r e G' v xs tk:=by
 cases tk with
 | none=>exact h
 | some x=>obtain⟨cap,cs,h1,h2,h3,h4,h5⟩:=h; exact⟨cap,cs,h1,h2,h3,h4.mono hle,h5⟩
theorem RowS.at{p:Option Addr}{n cap:Nat}{xs:List α}{tk:Option Ow}(h:RowS pre post r e G (.slice p n cap) xs tk){i:Int}{x:α}(hi:0<=i/\xs[i.toNat]? = some x):AtK r G (CellT tk) (po p+i.toNat*r.size) x:=by
 cases tk with
 | none=>exact h.elim
 | some y=>
  obtain⟨cap',cs,h1,h2,h3,h4,h5⟩:=h
  obtain⟨c,hc1,hc2⟩:=h4.get hi.2
  obtain⟨yb,yo,ym⟩:=y
  dsimp only at h2 h3
  subst h2 h3
  cases h1
  refine⟨c,hc1,fun j u hu=>⟨yb,_,e,0,rfl,?_⟩⟩
  have:=hc2 j u hu
  show (pre++(cs++post)).toArray[pre.length+i.toNat*r.size+j]? = some u
  rw[List.getElem?_toArray,List.getElem?_append_right (by omega),show pre.length+i.toNat*r.size+j-pre.length=i.toNat*r.size+j by omega,List.getElem?_append_left (List.getElem?_eq_some_iff.1 this).1]
  exact this
theorem RowS.block{p:Option Addr}{n cap:Nat}{xs:List α}{x:Ow}(h:RowS pre post r e G (.slice p n cap) xs (some x)):pb p=x.b:=by
 obtain⟨cap',cs,h1,_⟩:=h
 cases h1
 rfl
theorem Y0.lenRowS{x:Operand}{t e':TypeId}{v:Value}{xs:List α}{tk:Option Ow}(ht:P.underlying t=some (.slice e'))(h:RowS pre post r e G v xs tk)(hx:fr.ev x=some v):Y0 P N ⟨dst,.call ⟨.builtin .len,#[x],#[t]⟩,ty,pos,af,g⟩ fr S (.int .i64 (xs.length:Int)):=by
 obtain⟨p,cap,rfl⟩:=h.form
 exact Y0.lenSl ht hx
theorem Y0.idxRowS{t e':TypeId}{x y:Operand}{n cap sz:Nat}{p:Option Addr}{k:IntKind}{i:Int}{xs:List α}{z:α}{tk:Option Ow}(ht:P.underlying t=some (.slice e'))(hsz:(P.info? e').map (·.size)=some sz)(h:RowS pre post r e G (.slice p n cap) xs tk)
  (hx:fr.ev x=some (.slice p n cap)) (hy:fr.ev y=some (.int k i)) (hi:0<=i/\xs[i.toNat]? = some z):Y0 P N ⟨dst,.indexAddr t x y,ty,pos,af,g⟩ fr S (.pointer (some ⟨pb p,po p+i.toNat*sz,none⟩)):=by
 cases tk with
 | none=>exact h.elim
 | some q=>
  obtain⟨cap',cs,h1,_⟩:=h
  cases h1
  have hlt:=(List.getElem?_eq_some_iff.1 hi.2).1
  exact Y0.idxSl ht hsz hx hy (by omega)
theorem Y0.loadTS{t:TypeId}{x:Operand}{p:Option Addr}{n cap off key:Nat}{v:Value}{xs:List α}{tk:Option Ow}(ht:ScalT P t)(h:RowS pre post r e G (.slice p n cap) xs tk)(hid:L.get key=tk)(hx:fr.ev x=some (.pointer (some ⟨pb p,off,none⟩)))
  (hv:CellT tk off v):Y0 P N ⟨dst,.load t x,ty,pos,af,g⟩ fr (St w0 G0 G L) v:=by
 obtain⟨b,c,e',m,rfl,hc⟩:=hv
 rw[h.block] at hx
 exact Y0.loadL key ht hx hid hc
theorem WL.storeTS{t:TypeId}{x y:Operand}{p:Option Addr}{n cap sz:Nat}{val:Value}{cs':List Value}{i:Int}{xs:List α}{z z':α}{tk:Option Ow}(key:Nat)(hg:guardOK ops fr ⟨none,.store t x y,ty,pos,af,g⟩ true)(ht:(P.info? t).map (·.size)=some sz)(hsr:sz=r.size)
  (h:RowS pre post r e G (.slice p n cap) xs tk) (hid:L.get key=tk) (hx:fr.ev x=some (.pointer (some ⟨pb p,po p+i.toNat*sz,none⟩))) (hy:fr.ev y=some val) (hval:val.cells=cs'.toArray) (hrep:r.rep G cs' z') (hi:0<=i/\xs[i.toNat]? = some z)
  (k:∀ tk',RowS pre post r e G (.slice p n cap) (xs.set i.toNat z') tk'->WL P N ops Q l fr (St w0 G0 G ((key,tk')::L))):WL P N ops Q (⟨none,.store t x y,ty,pos,af,g⟩::l) fr (St w0 G0 G L):=by
 cases tk with
 | none=>exact h.elim
 | some q=>
  obtain⟨cap',cs,h1,h2,h3,h4,h5⟩:=h
  cases h1
  obtain⟨qb,qo,qm⟩:=q
  dsimp only at h2 h3
  subst h2 h3
  have hlt:=(List.getElem?_eq_some_iff.1 hi.2).1
  have hsp:xs=xs.take i.toNat++(xs[i.toNat]::xs.drop (i.toNat+1)):=by simp
  have hcl:=h4.len
  rw[hsp] at h4
  obtain⟨c1,d1,e1,k1,k2⟩:=h4.split
  obtain⟨c2,d2,e2,k3,k4⟩:=k2
  have l1:=k1.len
  have l2:=r.len k3
  have l3:=r.len hrep
  have hti:(xs.take i.toNat).length=i.toNat:=by simp; omega
  rw[hti] at l1
  have hnew:RepL r G (c1++(cs'++d2)) (xs.set i.toNat z'):=by
   rw[List.set_eq_take_append_cons_drop,if_pos hlt]
   exact k1.append ⟨cs',d2,rfl,hrep,k4⟩
  have hcells:((pre++(cs++post)).take (pre.length+i.toNat*sz)++cs'++(pre++(cs++post)).drop (pre.length+i.toNat*sz+sz))=pre++((c1++(cs'++d2))++post):=by
   subst e1 e2
   rw[hsr,<- l1]
   have t1:(pre++(c1++(c2++d2)++post)).take (pre.length+c1.length)=pre++c1:=by
    have:pre++(c1++(c2++d2)++post)=(pre++c1)++(c2++d2++post):=by simp only[List.append_assoc]
    rw[this,<- List.length_append]
    exact List.take_left
   have t2:(pre++(c1++(c2++d2)++post)).drop (pre.length+c1.length+r.size)=d2++post:=by
    rw[<- l2]
    have:pre++(c1++(c2++d2)++post)=(pre++c1++c2)++(d2++post):=by simp only[List.append_assoc]
    rw[this,<- List.length_append,<- List.length_append]
    exact List.drop_left
   rw[t1,t2]
   simp only[List.append_assoc]
  have hx':fr.ev x=some (.pointer (some ⟨qb,pre.length+i.toNat*sz,none⟩)):=hx
  refine WL.ys' (S':=St w0 G0 G ((key,some ⟨qb,.cells (pre++((c1++(cs'++d2))++post)).toArray e (0,0),0⟩)::L)) hg (fun a w ha hs=>?_) (k _ ?_)
  .have hb:=(hs.loc key _ hid).1
   have hr:=run_storeCells_at P qb (pre.length+i.toNat*sz) e cs' 0 (pre++(cs++post)).toArray w hb (by
    simp only[List.size_toArray]
    rw[List.length_append,List.length_append,hcl,l3,<- hsr]
    have:(i.toNat+1)*sz<=xs.length*sz:=Nat.mul_le_mul_right _ hlt
    rw[Nat.add_mul] at this
    omega) (r.one hrep)
   simp only[Nat.add_zero] at hr
   rw[l3,<- hsr] at hr
   rw[hcells] at hr
   refine⟨w.setRow qb (pre++((c1++(cs'++d2))++post)).toArray,?_,hs.upd hid ?_ (Nat.le_refl _) (fun k _ hk _=>absurd hk (Nat.not_lt_zero k)) (fun k hk=>?_) rfl rfl rfl rfl (by simp[World.setRow])⟩
   .simp[execOp,ha.ev hx',ha.ev hy,Instr.storeAt,Instr.sureAddr,storeVar,hval,run_sizeOf ht,l3,hsr]
    rw[hsr] at hr
    simp[hr]
   .simp[World.setRow,Array.getElem?_modify,hb]
   simp only[World.setRow,Array.getElem?_modify]
   rw[if_neg (fun e=>hk e.symm)]
  refine⟨cap,c1++(cs'++d2),by simp,rfl,rfl,hnew,by simpa using h5⟩
theorem RepL.three{G:Mem}{cs:List Value}{xs:List α}(h:RepL r G cs xs){lo hi:Nat}(h1:lo<=hi):∃ c1 c2 c3,cs=c1++(c2++c3)/\RepL r G c1 (xs.take lo)/\RepL r G c2 ((xs.take hi).drop lo)/\RepL r G c3 (xs.drop hi):=by
 have e:xs=xs.take lo++((xs.take hi).drop lo++xs.drop hi):=by
  have e1:xs.take lo++(xs.take hi).drop lo=xs.take hi:=by
   have:=List.take_append_drop lo (xs.take hi)
   rwa [List.take_take,Nat.min_eq_left h1] at this
  rw[<- List.append_assoc,e1,List.take_append_drop]
 rw[e] at h
 obtain⟨c1,d,e1,k1,k2⟩:=h.split
 obtain⟨c2,c3,e2,k3,k4⟩:=k2.split
 exact⟨c1,c2,c3,by rw[e1,e2],k1,k3,k4⟩
theorem RowR.part{p:Option Addr}{n cap lo hi:Nat}{xs:List α}{tk:Option Ow}(h:RowR r e G (.slice p n cap) xs tk)(h1:lo<hi)(h2:hi<=xs.length):
  ∃ pre post,RowS pre post r e G (.slice (some ⟨pb p,lo*r.size,none⟩) (hi-lo) (cap-lo)) ((xs.take hi).drop lo) tk/\∀ G' ys tk',Mem.le G G'->RowS pre post r e G' (.slice (some ⟨pb p,lo*r.size,none⟩) (hi-lo) (cap-lo)) ys tk'->RowR r e G' (.slice p n cap) (xs.take lo++ys++xs.drop hi) tk':=by
 cases tk with
 | none=>obtain⟨rfl,_⟩:=h; simp at h2; omega
 | some x=>
  obtain⟨cap',cs,rest,k1,k2,k3,k4,k5,k6,k7⟩:=h
  cases k1
  obtain⟨c1,c2,c3,e1,r1,r2,r3⟩:=k4.three (Nat.le_of_lt h1)
  have l1:=r1.len
  have l2:=r2.len
  rw[List.length_take,Nat.min_eq_left (by omega)] at l1
  have hl:((xs.take hi).drop lo).length=hi-lo:=by rw[List.length_drop,List.length_take]; omega
  rw[hl] at l2
  refine⟨c1,c3++rest,⟨cap-lo,c2,by rw[hl,l1]; rfl,by rw[k2,e1]; simp only[List.append_assoc],k3,r2,by rw[hl]; omega,by omega⟩,fun G' ys tk' hle hS=>?_⟩
  have hys:ys.length=hi-lo:=by obtain⟨_,_,q⟩:=hS.form; injection q with _ q _; exact q.symm
  cases tk' with
  | none=>exact hS.elim
  | some x'=>
   obtain⟨cap2,cs2,q1,q2,q3,q4,q5⟩:=hS
   have l4:=q4.len
   have hb:x'.b=x.b:=by
    have:=congrArg (fun v:Value=>match v with | .slice (some a) _ _=>a.block|_=>x.b) q1
    exact this.symm
   have hlen:(xs.take lo++ys++xs.drop hi).length=xs.length:=by
    rw[List.length_append,List.length_append,List.length_take,List.length_drop]; omega
   refine⟨cap,c1++(cs2++c3),rest,by rw[hb,hlen],by rw[q2]; simp only[List.append_assoc],q3,?_,?_,k6,by rw[hlen]; exact k7⟩
   .rw[List.append_assoc]
    exact (r1.mono hle).append (q4.append (r3.mono hle))
   rw[<- k5,e1]
   simp only[List.length_append]
   rw[l4,hys,l2]
theorem RowR.cutRun{t e':TypeId}{p:Option Addr}{n cap sz:Nat}{lo hi:Nat}{xs:List α}{tk:Option Ow}(ht:P.underlying t=some (.slice e'))(hsz:(P.info? e').map (·.size)=some sz)(h:RowR r e G (.slice p n cap) xs tk)(h1:lo<hi)(h2:hi<=xs.length)(k1 k2:IntKind)(w:World):
  (Instr.slice t (.slice p n cap) (some (.int k1 (lo:Int))) (some (.int k2 (hi:Int))) none).run P w = .ok (.slice (some ⟨pb p,lo*sz,none⟩) (hi-lo) (cap-lo)) w:=by
 cases tk with
 | none=>obtain⟨rfl,_⟩:=h; simp at h2; omega
 | some x=>
  obtain⟨cap',cs,rest,q1,q2,q3,q4,q5,q6,q7⟩:=h
  cases q1
  have hbs:(Instr.sliceBounds true xs.length cap (some (.int k1 (lo:Int))) (some (.int k2 (hi:Int))) none).run P w = .ok (lo,hi,cap) w:=by
   have a1:hi<=cap:=by omega
   have a2:lo<=hi:=by omega
   simp[Instr.sliceBounds,Instr.sliceBound,asIntOf,a1,a2]
  have hne:cap≠lo:=by omega
  simp[Instr.slice,run_underlying ht,hbs,run_sizeOf hsz,hne,Z6,pb]
theorem RowS.lenEq{p:Option Addr}{n cap:Nat}{xs:List α}{tk:Option Ow}(h:RowS pre post r e G (.slice p n cap) xs tk):n=xs.length:=by
 obtain⟨_,_,q⟩:=h.form; cases q; rfl
theorem RowR.partI{p:Option Addr}{n cap sz:Nat}{lo hi:Int}{xs:List α}{tk:Option Ow}(hsr:sz=r.size)(h:RowR r e G (.slice p n cap) xs tk)(hb:0<=lo/\lo<hi/\hi<=(xs.length:Int)):
  ∃ pre post,RowS pre post r e G (.slice (some ⟨pb p,lo.toNat*sz,none⟩) (hi.toNat-lo.toNat) (cap-lo.toNat)) ((xs.take hi.toNat).drop lo.toNat) tk/\∀ G' ys tk',Mem.le G G'->RowS pre post r e G' (.slice (some ⟨pb p,lo.toNat*sz,none⟩) (hi.toNat-lo.toNat) (cap-lo.toNat)) ys tk'->RowR r e G' (.slice p n cap) (xs.take lo.toNat++ys++xs.drop hi.toNat) tk':=by
 subst hsr
 exact h.part (by omega) (by omega)
theorem Y0.partR{t e':TypeId}{x y y2:Operand}{p:Option Addr}{n cap sz:Nat}{lo hi:Int}{k1 k2:IntKind}{xs:List α}{tk:Option Ow}(ht:P.underlying t=some (.slice e'))(hsz:(P.info? e').map (·.size)=some sz)(h:RowR r e G (.slice p n cap) xs tk)(hx:fr.ev x=some (.slice p n cap))
  (hy:fr.ev y=some (.int k1 lo)) (hy2:fr.ev y2=some (.int k2 hi)) (hb:0<=lo/\lo<hi/\hi<=(xs.length:Int)):Y0 P N ⟨dst,.slice t x (some y) (some y2) none,ty,pos,af,g⟩ fr S (.slice (some ⟨pb p,lo.toNat*sz,none⟩) (hi.toNat-lo.toNat) (cap-lo.toNat)):=fun a w ha _=>by
 have key:=h.cutRun ht hsz (lo:=lo.toNat) (hi:=hi.toNat) (by omega) (by omega) k1 k2 w
 rw[Int.toNat_of_nonneg hb.1,Int.toNat_of_nonneg (by omega)] at key
 simp only[execOp,ha.ev hx,Option.map_none,Option.map_some,ha.ev hy,ha.ev hy2]
 simp[Instr.sliceAt,run_underlying ht,key]
theorem RowS.freezeZ{v:Value}{xs:List α}{tk:Option Ow}{key:Nat}(h:RowS pre post r e G v xs tk)(hid:L.get key=tk)(h0:w0.L.zero){w:World}(hs:St w0 G0 G L w):
  ∃ G' tk',Mem.le G G'/\SlR r G' v xs/\St w0 G0 G' ((key,tk')::L) w/\(∀ Gx L' w',Mem.le G Gx->Mem.le G' Gx->St w0 G0 Gx ((key,tk')::L') w'->St w0 G0 G ((key,tk)::L') w'):=by
 cases tk with
 | none=>exact h.elim
 | some x=>
  obtain⟨cap,cs,rfl,h2,h3,h4,h5,h6⟩:=h
  obtain⟨xb,xo,xm⟩:=x
  dsimp only at h2 h3
  subst h2 h3
  have hl:=h4.len
  obtain⟨k1,k2⟩:=hs.knowZ (i:=key) (n:=pre.length+xs.length*r.size) hid h0 (Nat.zero_le _)
  refine⟨_,some ⟨xb,.cells (pre++(cs++post)).toArray e (0,0),pre.length+xs.length*r.size⟩,k2,⟨_,cap,cs,rfl,by simp only[maxLen] at h6; omega,fun a ha _=>by cases ha; rfl,fun _=>rfl,h4.mono k2,fun j u hu=>?_⟩,k1,fun Gx L' w' e1 e2 e3=>?_⟩
  .have hj:=(List.getElem?_eq_some_iff.1 hu).1
   show Mem.row G xb _ 0 _ xb (pre.length+j)=some u
   rw[Mem.ZeB (Nat.zero_le _) (by omega),List.getElem?_toArray,List.getElem?_append_right (by omega),Nat.add_sub_cancel_left,List.getElem?_append_left hj]
   exact hu
  exact (e3.memLe hs.base e1).unmark (fun k=>(hs.loc key _ hid).2.2 k (Nat.zero_le _))
theorem WL.peekS{op:Op}{f:FuncId}{args args':Array Value}{pr:Mem->Prop}{v c:Value}{xs:List α}{tk:Option Ow}(key:Nat)(hrow:RowS pre post r e G v xs tk)(hid:L.get key=tk)(h0:w0.L.zero)(hg:guardOK ops fr ⟨dst,op,ty,pos,af,g⟩ true)(hd:dstOK N dst)
  (h:∀ S,YC P N ⟨dst,op,ty,pos,af,g⟩ fr S f args') (sp:CtrL P f args [] pr (fun _ L' v=>L'=[]/\v=c)) (e':args'=args) (hp:∀ G',Mem.le G G'->SlR r G' v xs->pr G')
  (k:WL P N ops Q l (putFr dst c fr) (St w0 G0 G L)):WL P N ops Q (⟨dst,op,ty,pos,af,g⟩::l) fr (St w0 G0 G L):=by
 refine WL.yr (Φ:=fun u w'=>u=c/\St w0 G0 G ((key,tk)::L) w') hg (fun a w ha hs=>?_) hd (fun u a w ha ⟨h1,h2⟩=>by
  subst h1
  exact WL.conseq (fun w hs=>hs.weaken (fun i x hx=>by
   rw[Lo.Zi]
   split
   .rename_i e2; subst e2; rw[<- hid]; exact hx
   exact hx)) k a w ha h2)
 obtain⟨G',tk',h1,h2,h4,h5⟩:=hrow.freezeZ hid h0 hs
 exact (YC.yrRO (h _) sp e' (hp G' h1 h2) (fun i x hx=>by cases hx) (fun i hi=>by cases hi) h0 a w ha h4).mono fun u w' ⟨G'',q1,q2,q3⟩=>⟨q3,h5 G'' L w' (Mem.le_trans h1 q1) q1 q2⟩
theorem RowS.eqv{p:Option Addr}{n cap:Nat}{xs:List α}{tk:Option Ow}(h:RowS pre post r e G (.slice p n cap) xs tk):Value.slice p n cap = .slice p xs.length cap:=by rw[h.lenEq]
theorem WL.copyRow{dT sT e':TypeId}{x y:Operand}{p q:Option Addr}{n cap m mc sz:Nat}{xs ys:List α}{tk:Option Ow}(key:Nat)(hg:guardOK ops fr ⟨dst,.call ⟨.builtin .copy,#[x,y],#[dT,sT]⟩,ty,pos,af,g⟩ true)(hd:dstOK N dst)(hu:P.underlying dT=some (.slice e'))(hsz:(P.info? e').map (·.size)=some sz)(hsr:sz=r.size)
  (h:RowR r e G (.slice p n cap) xs tk) (hid:L.get key=tk) (hs:SlR r G (.slice q m mc) ys) (hx:fr.ev x=some (.slice p n cap)) (hy:fr.ev y=some (.slice q m mc)) (hb:0<ys.length/\ys.length<=xs.length)
  (k:∀ tk',RowR r e G (.slice p n cap) (ys++xs.drop ys.length) tk'->WL P N ops Q l (putFr dst (.int .i64 (ys.length:Int)) fr) (St w0 G0 G ((key,tk')::L))):WL P N ops Q (⟨dst,.call ⟨.builtin .copy,#[x,y],#[dT,sT]⟩,ty,pos,af,g⟩::l) fr (St w0 G0 G L):=by
 cases tk with
 | none=>
  obtain⟨rfl,_⟩:=h
  have:=hb.2
  rw[List.length_nil] at this
  omega
 | some o=>
  obtain⟨cap',cs,rest,h1,h2,h3,h4,h5,h6,h7⟩:=h
  cases h1
  obtain⟨ob,oo,om⟩:=o
  dsimp only at h2 h3
  subst h2 h3
  obtain⟨q',mc',ds,e1,e2,e3,e4,e5,e6⟩:=hs
  cases e1
  obtain⟨qa,rfl⟩:=Option.isSome_iff_exists.1 (e4 hb.1)
  have esp:=e3 qa rfl (by omega)
  obtain⟨qb,qo,qs⟩:=qa
  dsimp only at esp
  subst esp
  obtain⟨c1,c2,c3,f1,r1,r2,r3⟩:=h4.three (lo:=ys.length) (hi:=ys.length) (Nat.le_refl _)
  have l1:=r1.len
  have l2:=r2.len
  have l5:=e5.len
  rw[List.length_take,Nat.min_eq_left hb.2] at l1
  have hd0:((xs.take ys.length).drop ys.length).length=0:=by rw[List.length_drop,List.length_take]; omega
  rw[hd0,Nat.zero_mul] at l2
  have l2':=List.length_eq_zero_iff.1 l2
  subst l2'
  subst f1
  have lc:(c1++([]++c3)).length=c1.length+c3.length:=by simp
  have hmin:Nat.min ys.length xs.length=ys.length:=Nat.min_eq_left hb.2
  have hlen:(ys++xs.drop ys.length).length=xs.length:=by rw[List.length_append,List.length_drop]; omega
  have hspl:spl (c1++([]++c3)++rest) 0 ds=(ds++c3)++rest:=by
   unfold spl
   rw[List.take_zero,List.nil_append,Nat.zero_add,List.nil_append,show ds.length=c1.length by rw[l1]; exact l5,List.append_assoc,List.append_assoc,List.drop_left]
  refine WL.copyOwn (sz:=sz) (dn:=xs.length) (sn:=ys.length) (ds:=ds) (b:=ob) (o:=0) key hg hd hu hsz hid hx hy (by rw[hmin,l5,hsr]) (fun w hs j u hu=>hs.imm _ _ _ (e6 j u hu)) (by simp only[List.length_append,List.length_nil]; omega) e5.one ?_
  rw[hspl,hmin]
  refine k _ ⟨cap,ds++c3,rest,by rw[hlen],rfl,rfl,e5.append r3,?_,h6,by rw[hlen]; exact h7⟩
  rw[<- h5]
  simp only[List.length_append,List.length_nil]
  omega
end
end Go.EL

namespace Go.Proofs.YtgllmhmhldlemaaGreat
open Go.IntKind (i8 i16 i32 i64 u8 u16 u32 u64)
open Go.Proofs.Tryz
open Go Go.EL Go.RowKit Go.Proofs
theorem mix:prog.follows .mixedOrders=true:=by kernel_rfl
def FaP(t i k:Nat):Prop:=∀ ⦃N:Nat⦄ ⦃dst:Option Nat⦄ ⦃ty:TypeId⦄ ⦃pos:String⦄ ⦃af:Array Edge⦄ ⦃g:Option (Nat×Bool)⦄ ⦃fr:Fr⦄ ⦃S:Asrt⦄ ⦃x:Operand⦄ ⦃b off:Nat⦄,fr.ev x=some (.pointer (some ⟨b,off,none⟩))->Y0 prog N ⟨dst,.fieldAddr t x i,ty,pos,af,g⟩ fr S (.pointer (some ⟨b,off+k,none⟩))
theorem faP{t i k:Nat}{fs:Array Field}{fd:Field}(hs:prog.underlying t=some (.struct fs))(hf:fs[i]? = some fd)(hk:fd.offset=k)(hp:∀ b off w,(fieldPlace ⟨b,off,none⟩ fd).run prog w = .ok ⟨b,off+fd.offset,none⟩ w):FaP t i k:=by
 intro N dst ty pos af g fr S x b off hx
 subst hk
 exact Y0.fieldAddr hs hf (hp b off) hx
abbrev En:=Enters prog
abbrev eo:=@enters_of
theorem E4:En 4:=eo func4 (by kernel_rfl) rfl
theorem E5:En 5:=eo func5 (by kernel_rfl) rfl
theorem E6:En 6:=eo func6 (by kernel_rfl) rfl
theorem E7:En 7:=eo func7 (by kernel_rfl) rfl
theorem E8:En 8:=eo func8 (by kernel_rfl) rfl
theorem E9:En 9:=eo func9 (by kernel_rfl) rfl
theorem E10:En 10:=eo func10 (by kernel_rfl) rfl
theorem E11:En 11:=eo func11 (by kernel_rfl) rfl
theorem E12:En 12:=eo func12 (by kernel_rfl) rfl
theorem E13:En 13:=eo func13 (by kernel_rfl) rfl
theorem E14:En 14:=eo func14 (by kernel_rfl) rfl
theorem E15:En 15:=eo func15 (by kernel_rfl) rfl
theorem E16:En 16:=eo func16 (by kernel_rfl) rfl
theorem E17:En 17:=eo func17 (by kernel_rfl) rfl
theorem E18:En 18:=eo func18 (by kernel_rfl) rfl
theorem E19:En 19:=eo func19 (by kernel_rfl) rfl
theorem E20:En 20:=eo func20 (by kernel_rfl) rfl
theorem E21:En 21:=eo func21 (by kernel_rfl) rfl
theorem E22:En 22:=eo func22 (by kernel_rfl) rfl
theorem E23:En 23:=eo func23 (by kernel_rfl) rfl
theorem E24:En 24:=eo func24 (by kernel_rfl) rfl
theorem E25:En 25:=eo func25 (by kernel_rfl) rfl
theorem E26:En 26:=eo func26 (by kernel_rfl) rfl
theorem E27:En 27:=eo func27 (by kernel_rfl) rfl
theorem E28:En 28:=eo func28 (by kernel_rfl) rfl
theorem E29:En 29:=eo func29 (by kernel_rfl) rfl
theorem E30:En 30:=eo func30 (by kernel_rfl) rfl
theorem E31:En 31:=eo func31 (by kernel_rfl) rfl
theorem E32:En 32:=eo func32 (by kernel_rfl) rfl
theorem E33:En 33:=eo func33 (by kernel_rfl) rfl
theorem E34:En 34:=eo func34 (by kernel_rfl) rfl
theorem E35:En 35:=eo func35 (by kernel_rfl) rfl
theorem E36:En 36:=eo func36 (by kernel_rfl) rfl
theorem E37:En 37:=eo func37 (by kernel_rfl) rfl
theorem E38:En 38:=eo func38 (by kernel_rfl) rfl
theorem E39:En 39:=eo func39 (by kernel_rfl) rfl
theorem E40:En 40:=eo func40 (by kernel_rfl) rfl
theorem E41:En 41:=eo func41 (by kernel_rfl) rfl
theorem E42:En 42:=eo func42 (by kernel_rfl) rfl
theorem E43:En 43:=eo func43 (by kernel_rfl) rfl
theorem E44:En 44:=eo func44 (by kernel_rfl) rfl
theorem E45:En 45:=eo func45 (by kernel_rfl) rfl
theorem E46:En 46:=eo func46 (by kernel_rfl) rfl
theorem E47:En 47:=eo func47 (by kernel_rfl) rfl
theorem E48:En 48:=eo func48 (by kernel_rfl) rfl
theorem E49:En 49:=eo func49 (by kernel_rfl) rfl
theorem E50:En 50:=eo func50 (by kernel_rfl) rfl
theorem E51:En 51:=eo func51 (by kernel_rfl) rfl
theorem E52:En 52:=eo func52 (by kernel_rfl) rfl
theorem E53:En 53:=eo func53 (by kernel_rfl) rfl
theorem E54:En 54:=eo func54 (by kernel_rfl) rfl
theorem E55:En 55:=eo func55 (by kernel_rfl) rfl
theorem E56:En 56:=eo func56 (by kernel_rfl) rfl
theorem E57:En 57:=eo func57 (by kernel_rfl) rfl
theorem E58:En 58:=eo func58 (by kernel_rfl) rfl
theorem E59:En 59:=eo func59 (by kernel_rfl) rfl
theorem E60:En 60:=eo func60 (by kernel_rfl) rfl
theorem E61:En 61:=eo func61 (by kernel_rfl) rfl
theorem E62:En 62:=eo func62 (by kernel_rfl) rfl
theorem E63:En 63:=eo func63 (by kernel_rfl) rfl
theorem E64:En 64:=eo func64 (by kernel_rfl) rfl
theorem E65:En 65:=eo func65 (by kernel_rfl) rfl
theorem E66:En 66:=eo func66 (by kernel_rfl) rfl
theorem E67:En 67:=eo func67 (by kernel_rfl) rfl
theorem E68:En 68:=eo func68 (by kernel_rfl) rfl
theorem E69:En 69:=eo func69 (by kernel_rfl) rfl
theorem E70:En 70:=eo func70 (by kernel_rfl) rfl
theorem E71:En 71:=eo func71 (by kernel_rfl) rfl
theorem E72:En 72:=eo func72 (by kernel_rfl) rfl
theorem E73:En 73:=eo func73 (by kernel_rfl) rfl
theorem E74:En 74:=eo func74 (by kernel_rfl) rfl
theorem E75:En 75:=eo func75 (by kernel_rfl) rfl
theorem E76:En 76:=eo func76 (by kernel_rfl) rfl
theorem E77:En 77:=eo func77 (by kernel_rfl) rfl
theorem E78:En 78:=eo func78 (by kernel_rfl) rfl
theorem E79:En 79:=eo func79 (by kernel_rfl) rfl
theorem E80:En 80:=eo func80 (by kernel_rfl) rfl
theorem E81:En 81:=eo func81 (by kernel_rfl) rfl
theorem E82:En 82:=eo func82 (by kernel_rfl) rfl
theorem E83:En 83:=eo func83 (by kernel_rfl) rfl
theorem E84:En 84:=eo func84 (by kernel_rfl) rfl
theorem E85:En 85:=eo func85 (by kernel_rfl) rfl
theorem E86:En 86:=eo func86 (by kernel_rfl) rfl
theorem E87:En 87:=eo func87 (by kernel_rfl) rfl
theorem E88:En 88:=eo func88 (by kernel_rfl) rfl
theorem E89:En 89:=eo func89 (by kernel_rfl) rfl
theorem E90:En 90:=eo func90 (by kernel_rfl) rfl
theorem E91:En 91:=eo func91 (by kernel_rfl) rfl
theorem E92:En 92:=eo func92 (by kernel_rfl) rfl
theorem E93:En 93:=eo func93 (by kernel_rfl) rfl
theorem E94:En 94:=eo func94 (by kernel_rfl) rfl
theorem E95:En 95:=eo func95 (by kernel_rfl) rfl
theorem E96:En 96:=eo func96 (by kernel_rfl) rfl
theorem E97:En 97:=eo func97 (by kernel_rfl) rfl
theorem E98:En 98:=eo func98 (by kernel_rfl) rfl
theorem E99:En 99:=eo func99 (by kernel_rfl) rfl
theorem E100:En 100:=eo func100 (by kernel_rfl) rfl
theorem E101:En 101:=eo func101 (by kernel_rfl) rfl
theorem E102:En 102:=eo func102 (by kernel_rfl) rfl
theorem E103:En 103:=eo func103 (by kernel_rfl) rfl
theorem E104:En 104:=eo func104 (by kernel_rfl) rfl
theorem E105:En 105:=eo func105 (by kernel_rfl) rfl
theorem E106:En 106:=eo func106 (by kernel_rfl) rfl
theorem E107:En 107:=eo func107 (by kernel_rfl) rfl
theorem E108:En 108:=eo func108 (by kernel_rfl) rfl
theorem E109:En 109:=eo func109 (by kernel_rfl) rfl
theorem E110:En 110:=eo func110 (by kernel_rfl) rfl
theorem E111:En 111:=eo func111 (by kernel_rfl) rfl
theorem E112:En 112:=eo func112 (by kernel_rfl) rfl
theorem E113:En 113:=eo func113 (by kernel_rfl) rfl
theorem E114:En 114:=eo func114 (by kernel_rfl) rfl
theorem E115:En 115:=eo func115 (by kernel_rfl) rfl
theorem E116:En 116:=eo func116 (by kernel_rfl) rfl
theorem E117:En 117:=eo func117 (by kernel_rfl) rfl
theorem E118:En 118:=eo func118 (by kernel_rfl) rfl
theorem E119:En 119:=eo func119 (by kernel_rfl) rfl
theorem E120:En 120:=eo func120 (by kernel_rfl) rfl
theorem E121:En 121:=eo func121 (by kernel_rfl) rfl
theorem E122:En 122:=eo func122 (by kernel_rfl) rfl
theorem E123:En 123:=eo func123 (by kernel_rfl) rfl
theorem E124:En 124:=eo func124 (by kernel_rfl) rfl
theorem E125:En 125:=eo func125 (by kernel_rfl) rfl
theorem E126:En 126:=eo func126 (by kernel_rfl) rfl
theorem E127:En 127:=eo func127 (by kernel_rfl) rfl
theorem E128:En 128:=eo func128 (by kernel_rfl) rfl
theorem E129:En 129:=eo func129 (by kernel_rfl) rfl
theorem E130:En 130:=eo func130 (by kernel_rfl) rfl
theorem E131:En 131:=eo func131 (by kernel_rfl) rfl
theorem E132:En 132:=eo func132 (by kernel_rfl) rfl
theorem E133:En 133:=eo func133 (by kernel_rfl) rfl
theorem E134:En 134:=eo func134 (by kernel_rfl) rfl
theorem E135:En 135:=eo func135 (by kernel_rfl) rfl
theorem E136:En 136:=eo func136 (by kernel_rfl) rfl
theorem E137:En 137:=eo func137 (by kernel_rfl) rfl
theorem E138:En 138:=eo func138 (by kernel_rfl) rfl
theorem E139:En 139:=eo func139 (by kernel_rfl) rfl
theorem E140:En 140:=eo func140 (by kernel_rfl) rfl
theorem E141:En 141:=eo func141 (by kernel_rfl) rfl
theorem E142:En 142:=eo func142 (by kernel_rfl) rfl
theorem E143:En 143:=eo func143 (by kernel_rfl) rfl
theorem E144:En 144:=eo func144 (by kernel_rfl) rfl
theorem E145:En 145:=eo func145 (by kernel_rfl) rfl
theorem E146:En 146:=eo func146 (by kernel_rfl) rfl
theorem E147:En 147:=eo func147 (by kernel_rfl) rfl
theorem E148:En 148:=eo func148 (by kernel_rfl) rfl
theorem E157:En 157:=eo func157 (by kernel_rfl) rfl
theorem E158:En 158:=eo func158 (by kernel_rfl) rfl
theorem E159:En 159:=eo func159 (by kernel_rfl) rfl
theorem E160:En 160:=eo func160 (by kernel_rfl) rfl
theorem E161:En 161:=eo func161 (by kernel_rfl) rfl
theorem E162:En 162:=eo func162 (by kernel_rfl) rfl
theorem E176:En 176:=eo func176 (by kernel_rfl) rfl
theorem E181:En 181:=eo func181 (by kernel_rfl) rfl
theorem ag25:AggT prog 25 3:=⟨by kernel_rfl,by kernel_rfl⟩
theorem ag28:AggT prog 28 3:=⟨by kernel_rfl,by kernel_rfl⟩
theorem ag34:AggT prog 34 4:=⟨by kernel_rfl,by kernel_rfl⟩
theorem ag38:AggT prog 38 2:=⟨by kernel_rfl,by kernel_rfl⟩
theorem ag40:AggT prog 40 4:=⟨by kernel_rfl,by kernel_rfl⟩
theorem ag41:AggT prog 41 32:=⟨by kernel_rfl,by kernel_rfl⟩
theorem ag46:AggT prog 46 3:=⟨by kernel_rfl,by kernel_rfl⟩
theorem ag58:AggT prog 58 8:=⟨by kernel_rfl,by kernel_rfl⟩
theorem ag66:AggT prog 66 1:=⟨by kernel_rfl,by kernel_rfl⟩
theorem ag68:AggT prog 68 2:=⟨by kernel_rfl,by kernel_rfl⟩
theorem ag77:AggT prog 77 8:=⟨by kernel_rfl,by kernel_rfl⟩
theorem ag91:AggT prog 91 12:=⟨by kernel_rfl,by kernel_rfl⟩
theorem ag159:AggT prog 159 3:=⟨by kernel_rfl,by kernel_rfl⟩
theorem eg58:prog.eqGuardType prog.depth 58=false:=by kernel_rfl
theorem eg77:prog.eqGuardType prog.depth 77=false:=by kernel_rfl
theorem el5:ElT prog 5 (.int .u8 0) 1 1:=by unfold ElT; kernel_rfl
theorem el54:ElT prog 54 (.slice none 0 0) 1 24:=by unfold ElT; kernel_rfl
theorem el68:ElT prog 68 (.agg ([.int .i64 0,.slice none 0 0]).toArray) 2 32:=by unfold ElT; kernel_rfl
theorem el91:ElT prog 91 (.agg (([.bool false,.slice none 0 0,.bool false,.slice none 0 0]:List Value)++(vecG (Value.int .i64) 8 (fun _=>0))).toArray) 12 128:=by unfold ElT; kernel_rfl
theorem el139:ElT prog 139 (.int .u32 0) 1 4:=by unfold ElT; kernel_rfl
theorem Y0.Zqe:FaP 25 0 0:=faP underlying25 rfl rfl (fun _ _ _=>by kernel_rfl)
theorem Y0.Znr:FaP 25 1 1:=faP underlying25 rfl rfl (fun _ _ _=>by kernel_rfl)
theorem Y0.ZkU:FaP 25 2 2:=faP underlying25 rfl rfl (fun _ _ _=>by kernel_rfl)
theorem Y0.Zqf:FaP 28 0 0:=faP underlying28 rfl rfl (fun _ _ _=>by kernel_rfl)
theorem Y0.Zns:FaP 28 1 1:=faP underlying28 rfl rfl (fun _ _ _=>by kernel_rfl)
theorem Y0.Zqg:FaP 28 2 2:=faP underlying28 rfl rfl (fun _ _ _=>by kernel_rfl)
theorem Y0.ZiL:FaP 34 0 0:=faP underlying34 rfl rfl (fun _ _ _=>by kernel_rfl)
theorem Y0.ZgT:FaP 34 1 1:=faP underlying34 rfl rfl (fun _ _ _=>by kernel_rfl)
theorem Y0.ZgU:FaP 34 2 2:=faP underlying34 rfl rfl (fun _ _ _=>by kernel_rfl)
theorem Y0.Zqh:FaP 34 3 3:=faP underlying34 rfl rfl (fun _ _ _=>by kernel_rfl)
theorem Y0.Znt:FaP 38 0 0:=faP underlying38 rfl rfl (fun _ _ _=>by kernel_rfl)
theorem Y0.ZkV:FaP 38 1 1:=faP underlying38 rfl rfl (fun _ _ _=>by kernel_rfl)
theorem Y0.Znu:FaP 40 0 0:=faP underlying40 rfl rfl (fun _ _ _=>by kernel_rfl)
theorem Y0.Znv:FaP 40 1 2:=faP underlying40 rfl rfl (fun _ _ _=>by kernel_rfl)
theorem Y0.Zeo:FaP 46 0 0:=faP underlying46 rfl rfl (fun _ _ _=>by kernel_rfl)
theorem Y0.Zfq:FaP 46 1 1:=faP underlying46 rfl rfl (fun _ _ _=>by kernel_rfl)
theorem Y0.Zfr:FaP 46 2 2:=faP underlying46 rfl rfl (fun _ _ _=>by kernel_rfl)
theorem Y0.ZkW:FaP 66 0 0:=faP underlying66 rfl rfl (fun _ _ _=>by kernel_rfl)
theorem Y0.Zqi:FaP 68 0 0:=faP underlying68 rfl rfl (fun _ _ _=>by kernel_rfl)
theorem Y0.ZkX:FaP 68 1 1:=faP underlying68 rfl rfl (fun _ _ _=>by kernel_rfl)
theorem Y0.Znw:FaP 91 0 0:=faP underlying91 rfl rfl (fun _ _ _=>by kernel_rfl)
theorem Y0.Znx:FaP 91 1 4:=faP underlying91 rfl rfl (fun _ _ _=>by kernel_rfl)
theorem Y0.Zdj:FaP 133 0 0:=faP underlying133 rfl rfl (fun _ _ _=>by kernel_rfl)
theorem Y0.ZpH:FaP 159 0 0:=faP underlying159 rfl rfl (fun _ _ _=>by kernel_rfl)
def ky3:Ky prog 3 Int:=Ky.int underlying3
def ky9:Ky prog 9 ByteArray:=Ky.str underlying9
theorem laid77:laidOutB prog=true:=by kernel_rfl
def ky77:Ky prog 77 (Fin 8->Int):=Ky.arr underlying77 underlying3 (by kernel_rfl) (by kernel_rfl) (by kernel_rfl) laid77 (of_decide_eq_true (by kernel_rfl)) (by kernel_rfl)
theorem sc3:ScalT prog 3:=by unfold ScalT; kernel_rfl
theorem sc4:ScalT prog 4:=by unfold ScalT; kernel_rfl
theorem sc5:ScalT prog 5:=by unfold ScalT; kernel_rfl
theorem sc9:ScalT prog 9:=by unfold ScalT; kernel_rfl
theorem sc22:ScalT prog 22:=by unfold ScalT; kernel_rfl
theorem sc23:ScalT prog 23:=by unfold ScalT; kernel_rfl
theorem sc26:ScalT prog 26:=by unfold ScalT; kernel_rfl
theorem sc31:ScalT prog 31:=by unfold ScalT; kernel_rfl
theorem sc32:ScalT prog 32:=by unfold ScalT; kernel_rfl
theorem sc36:ScalT prog 36:=by unfold ScalT; kernel_rfl
theorem sc44:ScalT prog 44:=by unfold ScalT; kernel_rfl
theorem sc54:ScalT prog 54:=by unfold ScalT; kernel_rfl
theorem sc64:ScalT prog 64:=by unfold ScalT; kernel_rfl
theorem sc139:ScalT prog 139:=by unfold ScalT; kernel_rfl
theorem sz3:(prog.info? 3).map (·.size)=some 1:=by kernel_rfl
theorem sz4:(prog.info? 4).map (·.size)=some 1:=by kernel_rfl
theorem sz5:(prog.info? 5).map (·.size)=some 1:=by kernel_rfl
theorem sz9:(prog.info? 9).map (·.size)=some 1:=by kernel_rfl
theorem sz23:(prog.info? 23).map (·.size)=some 1:=by kernel_rfl
theorem sz26:(prog.info? 26).map (·.size)=some 1:=by kernel_rfl
theorem sz28:(prog.info? 28).map (·.size)=some 3:=by kernel_rfl
theorem sz32:(prog.info? 32).map (·.size)=some 1:=by kernel_rfl
theorem sz34:(prog.info? 34).map (·.size)=some 4:=by kernel_rfl
theorem sz38:(prog.info? 38).map (·.size)=some 2:=by kernel_rfl
theorem sz40:(prog.info? 40).map (·.size)=some 4:=by kernel_rfl
theorem sz41:(prog.info? 41).map (·.size)=some 32:=by kernel_rfl
theorem sz44:(prog.info? 44).map (·.size)=some 1:=by kernel_rfl
theorem sz46:(prog.info? 46).map (·.size)=some 3:=by kernel_rfl
theorem sz54:(prog.info? 54).map (·.size)=some 1:=by kernel_rfl
theorem sz58:(prog.info? 58).map (·.size)=some 8:=by kernel_rfl
theorem sz66:(prog.info? 66).map (·.size)=some 1:=by kernel_rfl
theorem sz68:(prog.info? 68).map (·.size)=some 2:=by kernel_rfl
theorem sz77:(prog.info? 77).map (·.size)=some 8:=by kernel_rfl
theorem sz91:(prog.info? 91).map (·.size)=some 12:=by kernel_rfl
theorem sz99:(prog.info? 99).map (·.size)=some 5:=by kernel_rfl
theorem sz139:(prog.info? 139).map (·.size)=some 1:=by kernel_rfl
theorem z9:(prog.info? 9).map (·.zero)=some (some (.string ByteArray.empty)):=by kernel_rfl
theorem z34:(prog.info? 34).map (·.zero)=some (some (.agg ([.slice none 0 0,.slice none 0 0,.slice none 0 0,.int .i64 0]).toArray)):=by kernel_rfl
theorem z38:(prog.info? 38).map (·.zero)=some (some (.agg ([.bool false,.slice none 0 0]).toArray)):=by kernel_rfl
theorem z40:(prog.info? 40).map (·.zero)=some (some (.agg ([.bool false,.slice none 0 0,.bool false,.slice none 0 0]).toArray)):=by kernel_rfl
theorem z41:(prog.info? 41).map (·.zero)=some (some (.agg (([.bool false,.slice none 0 0,.bool false,.slice none 0 0,.bool false,.slice none 0 0,.bool false,.slice none 0 0,.bool false,.slice none 0 0,.bool false,.slice none 0 0,.bool false,.slice none 0 0,.bool false,.slice none 0 0,.bool false,.slice none 0 0,.bool false,.slice none 0 0,.bool false,.slice none 0 0,.bool false,.slice none 0 0,.bool false,.slice none 0 0,.bool false,.slice none 0 0,.bool false,.slice none 0 0,.bool false,.slice none 0 0]:List Value)).toArray)):=by kernel_rfl
theorem z46:(prog.info? 46).map (·.zero)=some (some (.agg ([.int .i64 0,.slice none 0 0,.slice none 0 0]).toArray)):=by kernel_rfl
theorem z58:(prog.info? 58).map (·.zero)=some (some (.agg (vecG (Value.int .i64) 8 (fun _=>0)).toArray)):=by kernel_rfl
theorem z68:(prog.info? 68).map (·.zero)=some (some (.agg ([.int .i64 0,.slice none 0 0]).toArray)):=by kernel_rfl
theorem z77:(prog.info? 77).map (·.zero)=some (some (.agg (vecG (Value.int .i64) 8 (fun _=>0)).toArray)):=by kernel_rfl
theorem z91:(prog.info? 91).map (·.zero)=some (some (.agg (([.bool false,.slice none 0 0,.bool false,.slice none 0 0]:List Value)++(vecG (Value.int .i64) 8 (fun _=>0))).toArray)):=by kernel_rfl
theorem z133:(prog.info? 133).map (·.zero)=some (some (.agg ([.slice none 0 0]).toArray)):=by kernel_rfl
theorem z155:(prog.info? 155).map (·.zero)=some (some (.agg (vecG Value.bool 8 (fun _=>false)).toArray)):=by kernel_rfl
theorem zv4(w:World):(zeroValue 4).run prog w = .ok (.bool false) w:=by kernel_rfl
end Go.Proofs.YtgllmhmhldlemaaGreat

namespace Go.EL
open Go.IntKind (i8 i16 i32 i64 u8 u16 u32 u64)
open Go Go.EL Go.RowKit Go.Proofs
structure Zv where
 t:(List (Fin 5->Int))
abbrev ZaQ:Rp Zv:=Rp.via (Rp.sl (Rp.vec .i8 5)) (fun x=>x.t)
theorem ZkL{G:Mem}{K:Nat->Value->Prop}{o:Nat}{x:Zv}(h:AtK ZaQ G K o x):∃ ztp ztc,(∀ (j:Nat) (u:Value),([.slice ztp x.t.length ztc]).toArray[j]? = some u->K (o+j) u)/\SlR (Rp.vec .i8 5) G (.slice ztp x.t.length ztc) x.t:=by
 obtain⟨c,h,hc⟩:=h
 obtain⟨v1,e1,s1⟩:=h
 subst e1
 obtain⟨p1,q1,f1⟩:=SlR.form s1
 subst f1
 exact⟨p1,q1,fun j u hu=>hc j u (by simpa using hu),s1⟩
structure Zo where
 n:Int
 l:(List Zv)
 gap:(List Int)
abbrev Zhn:Rp Zo:=Rp.via (Rp.pair (Rp.int .u8) (Rp.pair (Rp.sl ZaQ) (Rp.sl (Rp.int .u8)))) (fun x=>(x.n,x.l,x.gap))
theorem ZkM{G:Mem}{K:Nat->Value->Prop}{o:Nat}{x:Zo}(h:AtK Zhn G K o x):∃ zlp zlc zgapp zgapc,(∀ (j:Nat) (u:Value),([.int .u8 x.n,.slice zlp x.l.length zlc,.slice zgapp x.gap.length zgapc]).toArray[j]? = some u->K (o+j) u)/\SlR ZaQ G (.slice zlp x.l.length zlc) x.l/\SlR (Rp.int .u8) G (.slice zgapp x.gap.length zgapc) x.gap:=by
 obtain⟨c,h,hc⟩:=h
 obtain⟨c1,d1,e1,h1,k1⟩:=h
 subst e1
 replace h1:_=([.int .u8 _]:List Value):=h1
 subst h1
 obtain⟨c3,d3,e3,h3,k3⟩:=k1
 subst e3
 obtain⟨v4,e4,s4⟩:=h3
 subst e4
 obtain⟨p4,q4,f4⟩:=SlR.form s4
 subst f4
 obtain⟨v5,e5,s5⟩:=k3
 subst e5
 obtain⟨p5,q5,f5⟩:=SlR.form s5
 subst f5
 exact⟨p4,q4,p5,q5,fun j u hu=>hc j u (by simpa using hu),s4,s5⟩
structure ZD where
 n:Int
 d:Int
 k:Int
abbrev Zdc:Rp ZD:=Rp.via (Rp.pair (Rp.int .i8) (Rp.pair (Rp.int .i8) (Rp.int .u8))) (fun x=>(x.n,x.d,x.k))
theorem ZkK{G:Mem}{K:Nat->Value->Prop}{o:Nat}{x:ZD}(h:AtK Zdc G K o x):(∀ (j:Nat) (u:Value),([.int .i8 x.n,.int .i8 x.d,.int .u8 x.k]).toArray[j]? = some u->K (o+j) u):=by
 obtain⟨c,h,hc⟩:=h
 obtain⟨c1,d1,e1,h1,k1⟩:=h
 subst e1
 replace h1:_=([.int .i8 _]:List Value):=h1
 subst h1
 obtain⟨c3,d3,e3,h3,k3⟩:=k1
 subst e3
 replace h3:_=([.int .i8 _]:List Value):=h3
 subst h3
 replace k3:_=([.int .u8 _]:List Value):=k3
 subst k3
 exact fun j u hu=>hc j u (by simpa using hu)
structure Zb where
 neg:Bool
 mag:(List Int)
abbrev ZaH:Rp Zb:=Rp.via (Rp.pair Rp.bool (Rp.sl (Rp.int .u32))) (fun x=>(x.neg,x.mag))
theorem ZfR{G:Mem}{K:Nat->Value->Prop}{o:Nat}{x:Zb}(h:AtK ZaH G K o x):∃ zmagp zmagc,(∀ (j:Nat) (u:Value),([.bool x.neg,.slice zmagp x.mag.length zmagc]).toArray[j]? = some u->K (o+j) u)/\SlR (Rp.int .u32) G (.slice zmagp x.mag.length zmagc) x.mag:=by
 obtain⟨c,h,hc⟩:=h
 obtain⟨c1,d1,e1,h1,k1⟩:=h
 subst e1
 replace h1:_=([.bool _]:List Value):=h1
 subst h1
 obtain⟨v3,e3,s3⟩:=k1
 subst e3
 obtain⟨p3,q3,f3⟩:=SlR.form s3
 subst f3
 exact⟨p3,q3,fun j u hu=>hc j u (by simpa using hu),s3⟩
structure Zc where
 num:Zb
 den:Zb
abbrev Zbu:Rp Zc:=Rp.via (Rp.pair ZaH ZaH) (fun x=>(x.num,x.den))
theorem ZmE{G:Mem}{K:Nat->Value->Prop}{o:Nat}{x:Zc}(h:AtK Zbu G K o x):∃ znummagp znummagc zdenmagp zdenmagc,(∀ (j:Nat) (u:Value),([.bool x.num.neg,.slice znummagp x.num.mag.length znummagc,.bool x.den.neg,.slice zdenmagp x.den.mag.length zdenmagc]).toArray[j]? = some u->K (o+j) u)/\SlR (Rp.int .u32) G (.slice znummagp x.num.mag.length znummagc) x.num.mag/\SlR (Rp.int .u32) G (.slice zdenmagp x.den.mag.length zdenmagc) x.den.mag:=by
 obtain⟨c,h,hc⟩:=h
 obtain⟨c1,d1,e1,h1,k1⟩:=h
 subst e1
 obtain⟨c2,d2,e2,h2,k2⟩:=h1
 subst e2
 replace h2:_=([.bool _]:List Value):=h2
 subst h2
 obtain⟨v4,e4,s4⟩:=k2
 subst e4
 obtain⟨p4,q4,f4⟩:=SlR.form s4
 subst f4
 obtain⟨c5,d5,e5,h5,k5⟩:=k1
 subst e5
 replace h5:_=([.bool _]:List Value):=h5
 subst h5
 obtain⟨v7,e7,s7⟩:=k5
 subst e7
 obtain⟨p7,q7,f7⟩:=SlR.form s7
 subst f7
 exact⟨p4,q4,p7,q7,fun j u hu=>hc j u (by simpa using hu),s4,s7⟩
theorem ZmI{G:Mem}{cs:List Value}{x:Zc}(h:Zbu.rep G cs x):∃ znummagp znummagc zdenmagp zdenmagc,cs=[.bool x.num.neg,.slice znummagp x.num.mag.length znummagc,.bool x.den.neg,.slice zdenmagp x.den.mag.length zdenmagc]/\SlR (Rp.int .u32) G (.slice znummagp x.num.mag.length znummagc) x.num.mag/\SlR (Rp.int .u32) G (.slice zdenmagp x.den.mag.length zdenmagc) x.den.mag:=by
 obtain⟨c1,d1,e1,h1,k1⟩:=h
 subst e1
 obtain⟨c2,d2,e2,h2,k2⟩:=h1
 subst e2
 replace h2:_=([.bool _]:List Value):=h2
 subst h2
 obtain⟨v4,e4,s4⟩:=k2
 subst e4
 obtain⟨p4,q4,f4⟩:=SlR.form s4
 subst f4
 obtain⟨c5,d5,e5,h5,k5⟩:=k1
 subst e5
 replace h5:_=([.bool _]:List Value):=h5
 subst h5
 obtain⟨v7,e7,s7⟩:=k5
 subst e7
 obtain⟨p7,q7,f7⟩:=SlR.form s7
 subst f7
 exact⟨p4,q4,p7,q7,rfl,s4,s7⟩
structure Za where
 c:Zc
 m:(Fin 8->Int)
abbrev Zk:Rp Za:=Rp.via (Rp.pair Zbu (Rp.vec .i64 8)) (fun x=>(x.c,x.m))
theorem ZlS{G:Mem}{K:Nat->Value->Prop}{o:Nat}{x:Za}(h:AtK Zk G K o x):∃ zcnummagp zcnummagc zcdenmagp zcdenmagc,(∀ (j:Nat) (u:Value),(([.bool x.c.num.neg,.slice zcnummagp x.c.num.mag.length zcnummagc,.bool x.c.den.neg,.slice zcdenmagp x.c.den.mag.length zcdenmagc]:List Value)++(vecG (Value.int .i64) 8 x.m)).toArray[j]? = some u->K (o+j) u)/\SlR (Rp.int .u32) G (.slice zcnummagp x.c.num.mag.length zcnummagc) x.c.num.mag/\SlR (Rp.int .u32) G (.slice zcdenmagp x.c.den.mag.length zcdenmagc) x.c.den.mag:=by
 obtain⟨c,h,hc⟩:=h
 obtain⟨c1,d1,e1,h1,k1⟩:=h
 subst e1
 obtain⟨c2,d2,e2,h2,k2⟩:=h1
 subst e2
 obtain⟨c3,d3,e3,h3,k3⟩:=h2
 subst e3
 replace h3:_=([.bool _]:List Value):=h3
 subst h3
 obtain⟨v5,e5,s5⟩:=k3
 subst e5
 obtain⟨p5,q5,f5⟩:=SlR.form s5
 subst f5
 obtain⟨c6,d6,e6,h6,k6⟩:=k2
 subst e6
 replace h6:_=([.bool _]:List Value):=h6
 subst h6
 obtain⟨v8,e8,s8⟩:=k6
 subst e8
 obtain⟨p8,q8,f8⟩:=SlR.form s8
 subst f8
 replace k1:_=(vecG (Value.int .i64) 8 _:List Value):=k1
 subst k1
 exact⟨p5,q5,p8,q8,fun j u hu=>hc j u (by simpa using hu),s5,s8⟩
theorem ZhW{G:Mem}{cs:List Value}{x:Za}(h:Zk.rep G cs x):∃ zcnummagp zcnummagc zcdenmagp zcdenmagc,cs=([.bool x.c.num.neg,.slice zcnummagp x.c.num.mag.length zcnummagc,.bool x.c.den.neg,.slice zcdenmagp x.c.den.mag.length zcdenmagc]:List Value)++(vecG (Value.int .i64) 8 x.m)/\SlR (Rp.int .u32) G (.slice zcnummagp x.c.num.mag.length zcnummagc) x.c.num.mag/\SlR (Rp.int .u32) G (.slice zcdenmagp x.c.den.mag.length zcdenmagc) x.c.den.mag:=by
 obtain⟨c1,d1,e1,h1,k1⟩:=h
 subst e1
 obtain⟨c2,d2,e2,h2,k2⟩:=h1
 subst e2
 obtain⟨c3,d3,e3,h3,k3⟩:=h2
 subst e3
 replace h3:_=([.bool _]:List Value):=h3
 subst h3
 obtain⟨v5,e5,s5⟩:=k3
 subst e5
 obtain⟨p5,q5,f5⟩:=SlR.form s5
 subst f5
 obtain⟨c6,d6,e6,h6,k6⟩:=k2
 subst e6
 replace h6:_=([.bool _]:List Value):=h6
 subst h6
 obtain⟨v8,e8,s8⟩:=k6
 subst e8
 obtain⟨p8,q8,f8⟩:=SlR.form s8
 subst f8
 replace k1:_=(vecG (Value.int .i64) 8 _:List Value):=k1
 subst k1
 exact⟨p5,q5,p8,q8,rfl,s5,s8⟩
structure Zf where
 id:Int
 p:(List Za)
abbrev Zay:Rp Zf:=Rp.via (Rp.pair (Rp.int .i64) (Rp.sl Zk)) (fun x=>(x.id,x.p))
theorem ZeT{G:Mem}{K:Nat->Value->Prop}{o:Nat}{x:Zf}(h:AtK Zay G K o x):∃ zpp zpc,(∀ (j:Nat) (u:Value),([.int .i64 x.id,.slice zpp x.p.length zpc]).toArray[j]? = some u->K (o+j) u)/\SlR Zk G (.slice zpp x.p.length zpc) x.p:=by
 obtain⟨c,h,hc⟩:=h
 obtain⟨c1,d1,e1,h1,k1⟩:=h
 subst e1
 replace h1:_=([.int .i64 _]:List Value):=h1
 subst h1
 obtain⟨v3,e3,s3⟩:=k1
 subst e3
 obtain⟨p3,q3,f3⟩:=SlR.form s3
 subst f3
 exact⟨p3,q3,fun j u hu=>hc j u (by simpa using hu),s3⟩
structure Zn where
 vars:(List ByteArray)
 eqs:(List Zf)
 neqs:(List Zf)
 next:Int
structure Zg where
 n:Int
 eqs:(List (List Za))
 neqs:(List (List Za))
abbrev Zcr:Rp Zg:=Rp.via (Rp.pair (Rp.int .i64) (Rp.pair (Rp.sl (Rp.sl Zk)) (Rp.sl (Rp.sl Zk)))) (fun x=>(x.n,x.eqs,x.neqs))
theorem ZlR{G:Mem}{K:Nat->Value->Prop}{o:Nat}{x:Zg}(h:AtK Zcr G K o x):∃ zeqsp zeqsc zneqsp zneqsc,(∀ (j:Nat) (u:Value),([.int .i64 x.n,.slice zeqsp x.eqs.length zeqsc,.slice zneqsp x.neqs.length zneqsc]).toArray[j]? = some u->K (o+j) u)/\SlR (Rp.sl Zk) G (.slice zeqsp x.eqs.length zeqsc) x.eqs/\SlR (Rp.sl Zk) G (.slice zneqsp x.neqs.length zneqsc) x.neqs:=by
 obtain⟨c,h,hc⟩:=h
 obtain⟨c1,d1,e1,h1,k1⟩:=h
 subst e1
 replace h1:_=([.int .i64 _]:List Value):=h1
 subst h1
 obtain⟨c3,d3,e3,h3,k3⟩:=k1
 subst e3
 obtain⟨v4,e4,s4⟩:=h3
 subst e4
 obtain⟨p4,q4,f4⟩:=SlR.form s4
 subst f4
 obtain⟨v5,e5,s5⟩:=k3
 subst e5
 obtain⟨p5,q5,f5⟩:=SlR.form s5
 subst f5
 exact⟨p4,q4,p5,q5,fun j u hu=>hc j u (by simpa using hu),s4,s5⟩
structure Zbw where
 k:Zg
end Go.EL

namespace Go.EL
open Go.IntKind (i8 i16 i32 i64 u8 u16 u32 u64)
open Go Go.RowKit
abbrev M:=Fin 8->Int
def cmpFrom(a b:M):Nat->Nat->Int
 | 0,_=>0
 | n+1,k=>if h:k<8 then (if a ⟨k,h⟩<b ⟨k,h⟩ then -1 else if b ⟨k,h⟩<a ⟨k,h⟩ then 1 else cmpFrom a b n (k+1)) else 0
def cmpM(a b:M):Int:=cmpFrom a b 8 0
theorem Zec(a b:M):∀ (k:Nat),k<=8->(∀ i:Fin 8,i.val<k->a i=b i)->cmpM a b=cmpFrom a b (8-k) k
 | 0,_,_=>rfl
 | k+1,hk,h=>by
  rw[Zec a b k (by omega) (fun i hi=>h i (by omega))]
  have hl:k<8:=by omega
  have e:=h ⟨k,hl⟩ (by simp)
  rw[show 8-k=(8-(k+1))+1 by omega]
  simp[cmpFrom,hl,e]
theorem Zl6(a b:M){k:Nat}(hk:k<8)(h:∀ i:Fin 8,i.val<k->a i=b i)(hlt:a ⟨k,hk⟩<b ⟨k,hk⟩):cmpM a b = -1:=by
 rw[Zec a b k (by omega) h,show 8-k=(7-k)+1 by omega]
 simp[cmpFrom,hk,hlt]
theorem Zl5(a b:M){k:Nat}(hk:k<8)(h:∀ i:Fin 8,i.val<k->a i=b i)(hlt:b ⟨k,hk⟩<a ⟨k,hk⟩):cmpM a b=1:=by
 rw[Zec a b k (by omega) h,show 8-k=(7-k)+1 by omega]
 have:¬ a ⟨k,hk⟩<b ⟨k,hk⟩:=by omega
 simp[cmpFrom,hk,hlt,this]
theorem Zl4(a b:M)(h:∀ i,a i=b i):cmpM a b=0:=by
 rw[Zec a b 8 (by omega) (fun i _=>h i)]
 rfl
theorem ZhV(a b:M):∀ n k,cmpFrom b a n k = - cmpFrom a b n k
 | 0,_=>by simp[cmpFrom]
 | n+1,k=>by
  simp only[cmpFrom]
  split
  .rename_i h
   rw[ZhV a b n (k+1)]
   split <;> split <;> first|omega|(split <;> omega)
  rfl
theorem ZdZ(a b c:M):∀ n k,cmpFrom a b n k<=0->cmpFrom b c n k<=0->cmpFrom a c n k<=0/\((cmpFrom a b n k<0\/cmpFrom b c n k<0)->cmpFrom a c n k<0)
 | 0,_=>by simp[cmpFrom]
 | n+1,k=>by
  have ih:=ZdZ a b c n (k+1)
  simp only[cmpFrom]
  by_cases h:k<8
  .simp only[dif_pos h]
   by_cases h1:a ⟨k,h⟩<b ⟨k,h⟩
   .by_cases h2:b ⟨k,h⟩<c ⟨k,h⟩
    .simp[h1,h2,show a ⟨k,h⟩<c ⟨k,h⟩ by omega]
    by_cases h3:c ⟨k,h⟩<b ⟨k,h⟩
    .simp[h2,h3]
    simp[show a ⟨k,h⟩<c ⟨k,h⟩ by omega]
   by_cases h1':b ⟨k,h⟩<a ⟨k,h⟩
   .simp[h1,h1']
   by_cases h2:b ⟨k,h⟩<c ⟨k,h⟩
   .simp[show a ⟨k,h⟩<c ⟨k,h⟩ by omega]
   by_cases h3:c ⟨k,h⟩<b ⟨k,h⟩
   .simp[h2,h3]
   simp only[h1,h1',h2,h3,if_false,show ¬ a ⟨k,h⟩<c ⟨k,h⟩ by omega,show ¬ c ⟨k,h⟩<a ⟨k,h⟩ by omega]
   exact ih
  simp[h]
theorem ZgO(a b:M):∀ n k,n+k=8->cmpFrom a b n k=0->∀ i:Fin 8,k<=i.val->a i=b i
 | 0,k,e,_,i,hi=>by have:=i.isLt; omega
 | n+1,k,e,hz,i,hi=>by
  have hk:k<8:=by omega
  simp only[cmpFrom,dif_pos hk] at hz
  by_cases h1:a ⟨k,hk⟩<b ⟨k,hk⟩
  .simp[h1] at hz
  by_cases h2:b ⟨k,hk⟩<a ⟨k,hk⟩
  .simp[h1,h2] at hz
  simp only[h1,h2,if_false] at hz
  by_cases hik:i.val=k
  .have:i=⟨k,hk⟩:=Fin.ext hik
   subst this; omega
  exact ZgO a b n (k+1) (by omega) hz i (by omega)
theorem Zbo(a b:M):cmpM b a = - cmpM a b:=ZhV a b 8 0
theorem Zkg{a b c:M}(h1:cmpM a b<=0)(h2:cmpM b c<=0):cmpM a c<=0:=(ZdZ a b c 8 0 h1 h2).1
theorem Zd0{a b c:M}(h1:cmpM a b<=0)(h2:cmpM b c<=0)(h:cmpM a b<0\/cmpM b c<0):cmpM a c<0:=(ZdZ a b c 8 0 h1 h2).2 h
theorem ZdM(a:M):cmpM a a=0:=Zl4 a a fun _=>rfl
theorem ZbS{a b:M}(h:cmpM a b=0):a=b:=funext fun i=>ZgO a b 8 0 rfl h i (Nat.zero_le _)
theorem swoR:Go.Sort.SWO (Go.Proofs.ltOf fun a b=>cmpM b a) where
 irrefl x:=by simp[Go.Proofs.ltOf,ZdM]
 trans x y z h1 h2:=by
  simp only[Go.Proofs.ltOf,decide_eq_true_eq] at *
  exact Zd0 (a:=z) (b:=y) (c:=x) (by omega) (by omega) (.inl h2)
 ntrans x y z h1 h2:=by
  simp only[Go.Proofs.ltOf,decide_eq_false_iff_not] at *
  have a:=Zbo x y
  have b:=Zbo y z
  have c:=Zbo x z
  have:=Zkg (a:=x) (b:=y) (c:=z) (by omega) (by omega)
  omega
end Go.EL

namespace Go.EL
open Go.IntKind (i8 i16 i32 i64 u8 u16 u32 u64)
open Go Go.EL Go.RowKit Go.Proofs
def goodC(c:Zc):Bool:=match c.num.mag,c.den.mag with
 | [w],[d]=>!c.den.neg && decide (d=1) && decide (1<=w) && decide (w<=12)
 | _,_=>false
def numC(c:Zc):Int:=if c.num.neg=true then-c.num.mag.headD 0 else c.num.mag.headD 0
def cmpT(s t:Za):Int:=if s.m=t.m then (if numC s.c<numC t.c then -1 else if numC s.c=numC t.c then 0 else 1) else cmpM s.m t.m
def cmpP:List Za->List Za->Int
 | [],[]=>0
 | [],_::_=>-1
 | _::_,[]=>1
 | s::p,t::q=>if cmpT s t=0 then cmpP p q else cmpT s t
def goodP(p:List Za):Bool:=decide (p.length<=1000) && p.all fun t=>goodC t.c
def inP(x:List Za):List (List Za)->List (List Za)
 | []=>[x]
 | y::l=>if 0<cmpP x y then y::inP x l else x::y::l
def ordP(l:List (List Za)):List (List Za):=l.foldr inP []
def dedG(x:List Za):List (List Za)->List (List Za)
 | []=>[]
 | y::l=>if cmpP y x=0 then dedG y l else y::dedG y l
def dedP:List (List Za)->List (List Za)
 | []=>[]
 | x::l=>x::dedG x l
def Zcw(l:List (List Za)):Cq (List (List Za)):=Cq.chk (l.length<=100/\l.all goodP=true) (Cq.ret (dedP (ordP l)))
def natG:Nat->Int->List Int
 | 0,n=>[u8.wrap n]
 | f+1,n=>if 128<=n then u8.wrap (u8.wrap (Int.tmod n 128)+128)::natG f (u64.wrap (Int.tdiv n 128)) else [u8.wrap n]
def natW(n:Int):List Int:=natG 10 n
def numW(n:Int):List Int:=natW (u64.wrap (2*u64.wrap n))
def wordW(d:Int):List Int:=[u8.wrap (Int.fdiv d (2 ^ (min (24:Int).toNat u32.bits))),u8.wrap (Int.fdiv d (2 ^ (min (16:Int).toNat u32.bits))),u8.wrap (Int.fdiv d (2 ^ (min (8:Int).toNat u32.bits))),u8.wrap d]
def intW(a:Zb):List Int:=natW (if a.neg=true then u64.wrap (u64.wrap (2*u64.wrap (a.mag.length:Int))+1) else u64.wrap (2*u64.wrap (a.mag.length:Int)))++a.mag.flatMap wordW
def ratW(a:Zc):List Int:=intW a.num++intW a.den
def monW(m:Fin 8->Int):Nat->List Int
 | 0=>[]
 | k+1=>monW m k++natW (u64.wrap (getF m (k:Int)))
def termW(t:Za):List Int:=ratW t.c++monW t.m 8
def polyW(p:List Za):List Int:=natW (u64.wrap (p.length:Int))++p.flatMap termW
def polysW(l:List (List Za)):List Int:=natW (u64.wrap (l.length:Int))++l.flatMap polyW
def coreW(k:Zg):List Int:=numW k.n++polysW k.eqs++polysW k.neqs
def swF(f:Fin 8->Int)(a b:Nat):Fin 8->Int:=setF (setF f a (getF f (b:Int))) b (getF f (a:Int))
def revF(f:Fin 8->Int)(b a:Nat):Nat->Fin 8->Int
 | 0=>f
 | k+1=>swF (revF f b a k) (b+k) (b+(a-1-k))
def ascF(p:Fin 8->Int):Nat->Option Nat
 | 0=>none
 | k+1=>if getF p ((k+1:Nat):Int)<getF p (k:Int) then ascF p k else some k
def geF(p:Fin 8->Int)(x:Int):Nat->Nat
 | 0=>0
 | j+1=>if getF p ((j+1:Nat):Int)<x then geF p x j else j+1
def nextF(n:Nat)(p:Fin 8->Int):Option (Fin 8->Int):=match ascF p (n-1) with
 | none=>none
 | some i=>some (revF (swF p i (geF p (getF p (i:Int)) (n-1))) (i+1) (n-(i+1)) ((n-(i+1)) / 2))
def permsF(n:Nat):Nat->(Fin 8->Int)->List (Fin 8->Int)
 | 0,_=>[]
 | k+1,p=>p::match nextF n p with|none=>[]|some q=>permsF n k q
def permsL(n:Nat):List (Fin 8->Int):=permsF n 24 fun i=>(i.val:Int)
def ZE:ByteArray:=⟨#[90,101,100]⟩
def ZJ:ByteArray:=⟨#[121,95,49]⟩
def ZO:ByteArray:=⟨#[120]⟩
def ZF:ByteArray:=⟨#[0,1,2,2,3,3,3,3,4,4,4,4,4,4,4,4,5,5,5,5,5,5,5,5,5,5,5,5,5,5,5,5,6,6,6,6,6,6,6,6,6,6,6,6,6,6,6,6,6,6,6,6,6,6,6,6,6,6,6,6,6,6,6,6,7,7,7,7,7,7,7,7,7,7,7,7,7,7,7,7,7,7,7,7,7,7,7,7,7,7,7,7,7,7,7,7,7,7,7,7,7,7,7,7,7,7,7,7,7,7,7,7,7,7,7,7,7,7,7,7,7,7,7,7,7,7,7,7,8,8,8,8,8,8,8,8,8,8,8,8,8,8,8,8,8,8,8,8,8,8,8,8,8,8,8,8,8,8,8,8,8,8,8,8,8,8,8,8,8,8,8,8,8,8,8,8,8,8,8,8,8,8,8,8,8,8,8,8,8,8,8,8,8,8,8,8,8,8,8,8,8,8,8,8,8,8,8,8,8,8,8,8,8,8,8,8,8,8,8,8,8,8,8,8,8,8,8,8,8,8,8,8,8,8,8,8,8,8,8,8,8,8,8,8,8,8,8,8,8,8,8,8,8,8,8,8]⟩
def ZaI(k:Int):Cq (List (List Za)):=Cq.chk (0<=k/\k<=1000000) (Cq.ret [])
def ZiX(b:(Fin 8->Int))(c:(Fin 8->Int))(a:Int):Cq Int:=
 Cq.chk (0<=a/\a<8) (Cq.chk (0<=a/\a<8) (if (getF b a)<(getF c a) then (Cq.ret (-1)) else (Cq.ret 1)))
def ZiW(b:(Fin 8->Int))(c:(Fin 8->Int)):Int->Cq Int:=
 Cq.loop fun d=>match d with|a=>Cq.chk (0<=a/\a<8) (Cq.chk (0<=a/\a<8) (if (getF b a)=(getF c a) then (Cq.ret (.inl (i64.wrap (a+1)))) else (Cq.ret (.inr a))))
def Zbd(a:(Fin 8->Int))(b:(Fin 8->Int)):Cq Int:=
 if a=b then (Cq.ret 0) else (Cq.next (ZiW a b 0) fun c=>match c with|d=>ZiX a b d)
def Zc9(b:Za)(c:Za):Cq Int:=
 Cq.bind (Zbd c.m b.m) fun a=>Cq.ret a
def ZV(l:List Za)(a b c:Int):Cq (List Za):=
 Cq.chk (a=0/\b=(l.length:Int)/\(0<=c/\c<1000000)/\l.length<=1000000) (Cq.any (fun d=>d.Perm l/\d.Pairwise (fun x y=>¬ cmpM x.m y.m<0)) Cq.ret)
def ZaK(a:Zb):Cq Int:=
 if (a.mag.length:Int)=0 then (Cq.ret 0) else (if a.neg=true then (Cq.ret (-1)) else (Cq.ret 1))
def ZH(b:Zc):Cq Int:=
 Cq.bind (ZaK b.num) fun a=>Cq.ret a
def ZiQ(b:(List Int))(a:Int):Cq (List Int):=
 Cq.chk (0<=(0:Int)/\(0:Int)<=a/\a<=(b.length:Int)) (Cq.ret ((b.take a.toNat).drop (0:Int).toNat))
def ZiP(b:(List Int)):Int->Cq Int:=
 Cq.loop fun c=>match c with|a=>if 0<a then (Cq.at' b (i64.wrap (a-1)) fun d=>if d=0 then (Cq.ret (.inl (i64.wrap (a-1)))) else (Cq.ret (.inr a))) else (Cq.ret (.inr a))
def Z9(a:(List Int)):Cq (List Int):=
 Cq.next (ZiP a (a.length:Int)) fun b=>match b with|c=>ZiQ a c
def Zby(a:Int):Cq (List Int):=
 Cq.bind (Z9 [u32.wrap a,u32.wrap (Int.fdiv a (2 ^ (min (32:Int).toNat u64.bits)))]) fun b=>Cq.ret b
def Z3(b:Bool)(c:(List Int)):Cq Zb:=
 Cq.bind (Z9 c) fun a=>if (a.length:Int)=0 then (Cq.ret (Zb.mk false [])) else (Cq.ret (Zb.mk b a))
def Zb7(a:Int):Cq Zb:=
 if a<0 then (Cq.bind (Zby (u64.wrap (0-(u64.wrap a)))) fun b=>Cq.bind (Z3 (decide (a<0)) b) fun c=>Cq.ret c) else (Cq.bind (Zby (u64.wrap a)) fun d=>Cq.bind (Z3 (decide (a<0)) d) fun e=>Cq.ret e)
def Zan(a:Zb):Cq Bool:=
 if a.neg=true then (Cq.ret false) else (if (a.mag.length:Int)=1 then (Cq.at' a.mag 0 fun b=>Cq.ret (decide (b=1))) else (Cq.ret false))
def Zg1(a:(List Int)):Cq (List Int):=
 Cq.bind (Z9 a) fun b=>Cq.ret b
def Zg2(b:(List Int))(a:Int)(c:(List Int))(d:Int):Cq (((List Int)×Int)⊕(List Int)):=
 Cq.at' c (i64.wrap (a+(b.length:Int))) fun e=>Cq.ret (.inl ((c.set (i64.wrap (a+(b.length:Int))).toNat (u32.wrap d)),i64.wrap (a+1)))
def Zg0(e:(List Int))(b:Int)(f:Int):((List Int)×Int×Int)->Cq (((List Int)×Int)):=
 Cq.loop fun i=>match i with|(c,d,a)=>if a<(e.length:Int) then (Cq.at' e a fun g=>Cq.at' c (i64.wrap (b+a)) fun h=>Cq.at' c (i64.wrap (b+a)) fun j=>Cq.ret (.inl ((c.set (i64.wrap (b+a)).toNat (u32.wrap (u64.wrap ((u64.wrap ((u64.wrap ((u64.wrap f)*(u64.wrap g)))+(u64.wrap h)))+d)))),Int.fdiv (u64.wrap ((u64.wrap ((u64.wrap ((u64.wrap f)*(u64.wrap g)))+(u64.wrap h)))+d)) (2 ^ (min (32:Int).toNat u64.bits)),i64.wrap (a+1)))) else (Cq.ret (.inr (c,d)))
def ZgZ(b:(List Int))(c:(List Int)):((List Int)×Int)->Cq (List Int):=
 Cq.loop fun g=>match g with|(d,a)=>if a<(b.length:Int) then (Cq.at' b a fun h=>Cq.next (Zg0 c a h (d,0,0)) fun i=>match i with|(e,f)=>Zg2 c a e f) else (Cq.ret (.inr d))
def ZeX(a:(List Int))(b:(List Int)):Cq (List Int):=
 Cq.chk (0<=i64.wrap ((a.length:Int)+(b.length:Int))/\(i64.wrap ((a.length:Int)+(b.length:Int)))<=1000000) (Cq.next (ZgZ a b ((List.replicate (i64.wrap ((a.length:Int)+(b.length:Int))).toNat 0),0)) fun d=>match d with|c=>Zg1 c)
def ZdF(a:Zb)(b:Zb):Cq Zb:=
 Cq.bind (ZeX a.mag b.mag) fun c=>Cq.bind (Z3 (decide (¬ a.neg=b.neg)) c) fun d=>Cq.ret d
def Zgz(a:Zb):Cq Zb:=
 Cq.ret a
def Zgy(d:(List Zb)):(Int×Zb)->Cq Zb:=
 Cq.loop fun h=>match h with|(a,b)=>if a<(d.length:Int) then (Cq.at' d a fun c=>Cq.bind (Zan c) fun e=>if e=true then (Cq.ret (.inl (i64.wrap (a+1),b))) else (Cq.bind (Zan b) fun f=>if f=true then (Cq.ret (.inl (i64.wrap (a+1),c))) else (Cq.bind (ZdF b c) fun g=>Cq.ret (.inl (i64.wrap (a+1),g))))) else (Cq.ret (.inr b))
def ZaP(c:(List Zb)):Cq Zb:=
 Cq.bind (Zb7 1) fun a=>Cq.next (Zgy c (0,a)) fun d=>match d with|b=>Zgz b
def ZgY:Cq Int:=
 Cq.ret 0
def ZgX(b:(List Int))(c:(List Int)):Int->Cq (Int⊕Unit):=
 Cq.loop fun d=>match d with|a=>if 0<=a then (Cq.at' b a fun e=>Cq.at' c a fun f=>if ¬ e=f then (Cq.at' b a fun g=>Cq.at' c a fun h=>if g<h then (Cq.ret (.inr (.inl (-1)))) else (Cq.ret (.inr (.inl 1)))) else (Cq.ret (.inl (i64.wrap (a-1))))) else (Cq.ret (.inr (.inr ())))
def ZbJ(a:(List Int))(b:(List Int)):Cq Int:=
 if ¬ (a.length:Int)=(b.length:Int) then (if (a.length:Int)<(b.length:Int) then (Cq.ret (-1)) else (Cq.ret 1)) else (Cq.next (ZgX a b (i64.wrap ((a.length:Int)-1))) fun d=>match d with | .inl c=>Cq.ret c | .inr ()=>ZgY)
def ZhZ(b:Zb)(c:Zb):Cq Int:=
 Cq.bind (ZaK b) fun a=>Cq.bind (ZaK c) fun d=>if ¬ a=d then Cq.fail else (if a<0 then (Cq.bind (ZbJ c.mag b.mag) fun e=>Cq.ret e) else (Cq.bind (ZbJ b.mag c.mag) fun f=>Cq.ret f))
def Zb2(c:Zc)(d:Zc):Cq Int:=
 Cq.bind (ZH c) fun a=>Cq.bind (ZH d) fun b=>if ¬ a=b then (if a<b then (Cq.ret (-1)) else (Cq.ret 1)) else (Cq.bind (ZaP [c.num,d.den]) fun e=>Cq.bind (ZaP [d.num,c.den]) fun f=>Cq.bind (ZhZ e f) fun g=>Cq.ret g)
def Zba(a:Za)(b:Za):Cq Int:=
 if ¬ a.m=b.m then (Cq.bind (Zbd a.m b.m) fun d=>Cq.ret d) else (Cq.bind (Zb2 a.c b.c) fun e=>Cq.ret e)
def Zp(a:(List Za))(b:(List Za)):Cq Int:=
 if (a.length:Int)<(b.length:Int) then (Cq.ret (-1)) else (Cq.ret 0)
def Zx(b:(List Za))(c:(List Za)):Int->Cq (Int⊕Unit):=
 Cq.loop fun e=>match e with|a=>if a<(b.length:Int) then (Cq.at' b a fun f=>if (c.length:Int)<=a then (Cq.ret (.inr (.inl 1))) else (Cq.at' c a fun g=>Cq.bind (Zba f g) fun d=>if ¬ d=0 then (Cq.ret (.inr (.inl d))) else (Cq.ret (.inl (i64.wrap (a+1)))))) else (Cq.ret (.inr (.inr ())))
def Zr(a:(List Za))(b:(List Za)):Cq Int:=
 Cq.next (Zx a b 0) fun d=>match d with | .inl c=>Cq.ret c | .inr ()=>Zp a b
def Zdw(b:(List Za))(c:(List Za)):Cq Int:=
 Cq.bind (Zr b c) fun a=>Cq.ret a
def Z8(l:List (List Za))(a b c:Int):Cq (List (List Za)):=
 Cq.chk (a=0/\b=(l.length:Int)/\(0<=c/\c<1000000)/\l.length<=1000000/\l.all goodP=true) (Cq.ret (ordP l))
def ZaY(a:Za)(b:Za):Cq Bool:=
 if a.m=b.m then (Cq.bind (Zb2 a.c b.c) fun d=>Cq.ret (decide (d=0))) else (Cq.ret false)
def ZX:Cq Bool:=
 Cq.ret true
def Zy(b:(List Za))(c:(List Za)):Int->Cq (Bool⊕Unit):=
 Cq.loop fun e=>match e with|a=>if a<(b.length:Int) then (Cq.at' b a fun f=>Cq.at' c a fun g=>Cq.bind (ZaY f g) fun d=>if (!d)=true then (Cq.ret (.inr (.inl false))) else (Cq.ret (.inl (i64.wrap (a+1))))) else (Cq.ret (.inr (.inr ())))
def Zs(a:(List Za))(b:(List Za)):Cq Bool:=
 if ¬ (a.length:Int)=(b.length:Int) then (Cq.ret false) else (Cq.next (Zy a b 0) fun d=>match d with | .inl c=>Cq.ret c | .inr ()=>ZX)
def Zc7(b:(List Za))(c:(List Za)):Cq Bool:=
 Cq.bind (Zs b c) fun a=>Cq.ret a
def ZdQ(a:Int)(b:Int):Cq Int:=
 Cq.chk (0<=(u8.wrap a:Int)/\(u8.wrap a)<(ZF.size:Int)) (Cq.ret (i64.wrap (b+(i64.wrap (byteAt ZF (u8.wrap a))))))
def ZdR(a:Int)(b:Int):Cq Int:=
 if 256<=a then Cq.fail else (ZdQ a b)
def ZdS(a:Int)(b:Int):Cq Int:=
 if 65536<=a then Cq.fail else (ZdR a b)
def ZeZ(a:Int):Cq Int:=
 if 4294967296<=a then Cq.fail else (ZdS a 0)
def Zak(b:Int):Cq Int:=
 Cq.bind (ZeZ b) fun a=>Cq.ret a
def Z0(a:(List (List Za))):Cq ((List (List Za))):=
 Cq.bind (Zak (u64.wrap (a.length:Int))) fun b=>Cq.bind (Z8 a 0 (a.length:Int) b) fun c=>Cq.ret c
def Zbx(a:(List Int)):Cq (List Int):=
 Cq.chk (([]++a).length<=small) (Cq.ret ([]++a))
def Zii(a:Int):Cq Int:=
 Cq.ret a
def Zih(b:(List Int)):(Int×Int)->Cq Int:=
 Cq.loop fun d=>match d with|(c,a)=>if a<(b.length:Int) then (Cq.at' b a fun e=>Cq.chk (0<=(i64.wrap (32*a))) (Cq.ret (.inl (u64.wrap (BitVec.ofInt u64.bits c ||| BitVec.ofInt u64.bits (u64.wrap ((u64.wrap e)*2 ^ (min (i64.wrap (32*a)).toNat u64.bits)))).toNat,i64.wrap (a+1))))) else (Cq.ret (.inr c))
def Zd2(a:(List Int)):Cq Int:=
 Cq.next (Zih a (0,0)) fun b=>match b with|c=>Zii c
def Zfe(c:(List Int))(a:Int):Cq ((List Int)×Int):=
 Cq.bind (Z9 c) fun b=>Cq.ret (b,a)
def Zfd(f:(List Int))(c:Int):((List Int)×Int×Int)->Cq (((List Int)×Int)):=
 Cq.loop fun g=>match g with|(d,a,b)=>if 0<=b then (Cq.at' f b fun e=>Cq.chk (c≠0) (Cq.at' d b fun h=>Cq.chk (c≠0) (Cq.ret (.inl ((d.set b.toNat (u32.wrap (u64.wrap (Int.tdiv (u64.wrap (BitVec.ofInt u64.bits (u64.wrap (a*2 ^ (min (32:Int).toNat u64.bits))) ||| BitVec.ofInt u64.bits (u64.wrap e)).toNat) c)))),Int.tmod (u64.wrap (BitVec.ofInt u64.bits (u64.wrap (a*2 ^ (min (32:Int).toNat u64.bits))) ||| BitVec.ofInt u64.bits (u64.wrap e)).toNat) c,i64.wrap (b-1)))))) else (Cq.ret (.inr (d,a)))
def Zde(a:(List Int))(c:Int):Cq ((List Int)×Int):=
 Cq.chk (0<=(a.length:Int)/\(a.length:Int)<=1000000) (Cq.next (Zfd a c ((List.replicate (a.length:Int).toNat 0),0,i64.wrap ((a.length:Int)-1))) fun d=>match d with|(e,b)=>Zfe e b)
def Zdm(d:(List Int))(e:(List Int)):Cq ((List Int)×(List Int)):=
 Cq.bind (Z9 d) fun a=>Cq.bind (Z9 e) fun b=>Cq.bind (ZbJ a b) fun f=>if f<0 then (Cq.bind (Zbx a) fun g=>Cq.ret ([],g)) else (if (b.length:Int)=1 then (Cq.at' b 0 fun i=>Cq.bind (Zde a (u64.wrap i)) fun c=>Cq.bind (Zby c.2) fun h=>Cq.ret (c.1,h)) else Cq.fail)
def Zjy(b:(List Int)):Cq Zb:=
 Cq.bind (Z3 false b) fun a=>Cq.ret a
def Zjz(c:Int):Cq (((List Int)×(List Int)×Zb)⊕(Zb⊕((List Int)×Zb))):=
 Cq.bind (Zby c) fun b=>Cq.bind (Z3 false b) fun a=>Cq.ret (.inr (.inl a))
def Zjx:(Int×Int)->Cq Int:=
 Cq.loop fun c=>match c with|(b,a)=>if 0<a then (Cq.chk (a≠0) (Cq.ret (.inl (a,Int.tmod b a)))) else (Cq.ret (.inr b))
def Zdl(d:(List Int))(a:(List Int))(e:Zb)(b:Bool):Cq (((List Int)×(List Int)×Zb)⊕(Zb⊕((List Int)×Zb))):=
 if b=true then (Cq.bind (Zd2 d) fun f=>Cq.bind (Zd2 a) fun g=>Cq.next (Zjx (f,g)) fun h=>match h with|i=>Zjz i) else (Cq.bind (Zdm d a) fun c=>Cq.ret (.inl (a,c.2,e)))
def Zjw:((List Int)×(List Int)×Zb)->Cq (Zb⊕((List Int)×Zb)):=
 Cq.loop fun d=>match d with|(c,a,b)=>if 0<(a.length:Int) then (if (c.length:Int)<=2 then (Zdl c a b (decide ((a.length:Int)<=2))) else (Zdl c a b false)) else (Cq.ret (.inr (.inr (c,b))))
def Za1(f:Zb)(g:Zb):Cq Zb:=
 Cq.bind (Z9 f.mag) fun a=>Cq.bind (Zbx a) fun b=>Cq.bind (Z9 g.mag) fun c=>Cq.bind (Zbx c) fun d=>Cq.next (Zjw (b,d,(Zb.mk false []))) fun h=>match h with | .inl e=>Cq.ret e | .inr (i,j)=>Zjy i
def Zd1(a:Zb):Cq Bool:=
 if (a.mag.length:Int)=0 then (Cq.ret (!a.neg)) else (Cq.at' a.mag (i64.wrap ((a.mag.length:Int)-1)) fun b=>Cq.ret (decide (¬ b=0)))
def Zeb(a:Zc):Cq Bool:=
 Cq.bind (Zan a.den) fun b=>match b with|false=>(Cq.bind (Za1 a.num a.den) fun c=>Cq.bind (Zan c) fun d=>Cq.ret d)|true=>(Cq.ret true)
def Zcd(a:Zc):Cq Bool:=
 Cq.bind (Zd1 a.num) fun b=>match b with|false=>(Cq.ret false)|true=>(Cq.bind (Zd1 a.den) fun c=>match c with|false=>(Cq.ret false)|true=>(Cq.bind (ZaK a.den) fun d=>if d<=0 then Cq.fail else (Zeb a)))
def ZhG:Cq Bool:=
 Cq.ret true
def ZhF(b:(Fin 8->Int)):Int->Cq (Bool⊕Unit):=
 Cq.loop fun c=>match c with|a=>if a<8 then (Cq.chk (0<=a/\a<8) (if (getF b a)<0 then (Cq.ret (.inr (.inl false))) else (if 65535<(getF b a) then Cq.fail else (Cq.ret (.inl (i64.wrap (a+1))))))) else (Cq.ret (.inr (.inr ())))
def Zb8(b:(Fin 8->Int)):Cq Bool:=
 Cq.next (ZhF b 0) fun c=>match c with | .inl a=>Cq.ret a | .inr ()=>ZhG
def Zgx:Cq Bool:=
 Cq.ret true
def ZaS(c:(List Za))(a:Int)(d:Za):Cq (Int⊕(Bool⊕Unit)):=
 if 0<a then (Cq.at' c (i64.wrap (a-1)) fun e=>Cq.bind (Zbd e.m d.m) fun b=>if b<=0 then Cq.fail else (Cq.ret (.inl (i64.wrap (a+1))))) else (Cq.ret (.inl (i64.wrap (a+1))))
def Zgw(d:(List Za)):Int->Cq (Bool⊕Unit):=
 Cq.loop fun h=>match h with|a=>if a<(d.length:Int) then (Cq.at' d a fun b=>Cq.bind (Zcd b.c) fun e=>match e with|false=>(Cq.ret (.inr (.inl false)))|true=>(Cq.bind (ZH b.c) fun f=>if f=0 then (Cq.ret (.inr (.inl false))) else (Cq.bind (Zb8 b.m) fun g=>if (!g)=true then (Cq.ret (.inr (.inl false))) else (ZaS d a b)))) else (Cq.ret (.inr (.inr ())))
def Zbt(b:(List Za)):Cq Bool:=
 Cq.next (Zgw b 0) fun c=>match c with | .inl a=>Cq.ret a | .inr ()=>Zgx
def Zgr(a:Int):Cq Int:=
 Cq.ret a
def Zgq(c:(Fin 8->Int)):(Int×Int)->Cq Int:=
 Cq.loop fun d=>match d with|(b,a)=>if a<8 then (Cq.chk (0<=a/\a<8) (if 0<(getF c a) then (Cq.chk (0<=a) (Cq.ret (.inl (u8.wrap (BitVec.ofInt u8.bits b ||| BitVec.ofInt u8.bits (u8.wrap (1*2 ^ (min (a).toNat u8.bits)))).toNat,i64.wrap (a+1))))) else (Cq.ret (.inl (b,i64.wrap (a+1)))))) else (Cq.ret (.inr b))
def ZcB(a:(Fin 8->Int)):Cq Int:=
 Cq.next (Zgq a (0,0)) fun b=>match b with|c=>Zgr c
def Zhk(a:Int):Cq Int:=
 Cq.ret a
def Zhj(b:(List Za)):(Int×Int)->Cq Int:=
 Cq.loop fun e=>match e with|(c,a)=>if a<(b.length:Int) then (Cq.at' b a fun f=>Cq.bind (ZcB f.m) fun d=>Cq.ret (.inl (u8.wrap (BitVec.ofInt u8.bits c ||| BitVec.ofInt u8.bits d).toNat,i64.wrap (a+1)))) else (Cq.ret (.inr c))
def ZbN(a:(List Za)):Cq Int:=
 Cq.next (Zhj a (0,0)) fun b=>match b with|c=>Zhk c
def Zhb(a:Int):Cq Int:=
 Cq.ret a
def Zha(c:(Fin 8->Int)):(Int×Int)->Cq Int:=
 Cq.loop fun d=>match d with|(b,a)=>if a<8 then (Cq.chk (0<=a/\a<8) (Cq.ret (.inl (i64.wrap (b+(getF c a)),i64.wrap (a+1))))) else (Cq.ret (.inr b))
def ZcZ(a:(Fin 8->Int)):Cq Int:=
 Cq.next (Zha a (0,0)) fun b=>match b with|c=>Zhb c
def Zgc(a:Int):Cq Int:=
 Cq.ret a
def Zgb(d:(List Za)):(Int×Int)->Cq Int:=
 Cq.loop fun e=>match e with|(c,a)=>if a<(d.length:Int) then (Cq.at' d a fun f=>Cq.bind (ZcZ f.m) fun b=>Cq.ret (.inl (if c<b then b else c,i64.wrap (a+1)))) else (Cq.ret (.inr c))
def Zai(a:(List Za)):Cq Int:=
 Cq.next (Zgb a ((-1),0)) fun b=>match b with|c=>Zgc c
def _eliminant_claim_rules_bounded(a:Zbw)(b:(List Za))(f:Int):Cq Bool:=
 Cq.bind (Zbt b) fun c=>match c with|false=>(Cq.ret false)|true=>(Cq.bind (ZbN b) fun d=>Cq.chk (0<=a.k.n) (if (Int.fdiv (i64.wrap d) (2 ^ (min (a.k.n).toNat i64.bits)))=0 then (Cq.bind (Zai b) fun e=>Cq.ret (decide (e<=f))) else (Cq.ret false)))
def Zd7(d:Zb)(e:Zb)(f:(List Int))(a:(List Int)):Cq (Zb×Zb×Int):=
 Cq.bind (Z3 (decide (¬ d.neg=e.neg)) f) fun b=>Cq.bind (Z3 false a) fun c=>Cq.ret (b,c,0)
def Zcg(c:Zb)(d:Zb)(b:(List Int)×(List Int))(a:Bool):Cq (Zb×Zb×Int):=
 if a=true then Cq.fail else (Zd7 c d b.1 b.2)
def Zbb(b:Zb)(c:Zb):Cq (Zb×Zb×Int):=
 Cq.bind (Z9 c.mag) fun d=>if (d.length:Int)=0 then Cq.fail else (Cq.bind (Zdm b.mag c.mag) fun a=>if b.neg=true then (Zcg b c a (decide (0<(a.2.length:Int)))) else (Zcg b c a false))
def ZbO(c:Zb)(a:Zb):Cq Zc:=
 Cq.bind (Zan a) fun d=>if d=true then (Cq.ret (Zc.mk c a)) else (Cq.bind (Za1 c a) fun b=>Cq.bind (Zan b) fun e=>if e=true then (Cq.ret (Zc.mk c a)) else (Cq.bind (Zbb c b) fun f=>Cq.bind (Zbb a b) fun g=>Cq.ret (Zc.mk f.1 g.1)))
def Zdb(e:Zb)(a:Zb):Cq (Zc×Int):=
 Cq.bind (ZaK a) fun b=>if b=0 then Cq.fail else (Cq.bind (ZaK a) fun c=>if c<0 then Cq.fail else (Cq.bind (ZbO e a) fun d=>Cq.ret (d,0)))
def ZiZ(a:(Fin 8->Int)):Cq ((Fin 8->Int)×Int):=
 Cq.bind (Zb8 a) fun b=>if (!b)=true then Cq.fail else (Cq.ret (a,0))
def ZiY(c:(Fin 8->Int)):(Int×(Fin 8->Int))->Cq (Fin 8->Int):=
 Cq.loop fun d=>match d with|(a,b)=>if a<8 then (Cq.chk (0<=a/\a<8) (Cq.chk (0<=a/\a<8) (Cq.chk (0<=a/\a<8) (Cq.ret (.inl (i64.wrap (a+1),setF b a.toNat (i64.wrap ((getF b a)+(getF c a))))))))) else (Cq.ret (.inr b))
def Zes(b:(Fin 8->Int))(c:(Fin 8->Int)):Cq ((Fin 8->Int)×Int):=
 Cq.next (ZiY c (0,b)) fun d=>match d with|a=>ZiZ a
def ZaO(c:Zc)(d:Zc):Cq Zc:=
 Cq.bind (ZbO c.num d.den) fun a=>Cq.bind (ZbO d.num c.den) fun b=>Cq.bind (ZaP [a.num,b.num]) fun e=>Cq.bind (ZaP [a.den,b.den]) fun f=>Cq.ret (Zc.mk e f)
def Zgv(a:(List Za)):Cq ((List Za)×Int):=
 Cq.ret (a,0)
def Zgu(h:Zc)(i:(Fin 8->Int))(f:(List Za)):((List Za)×Int)->Cq (((List Za)×Int)⊕(List Za)):=
 Cq.loop fun j=>match j with|(b,a)=>if a<(f.length:Int) then (Cq.at' f a fun g=>Cq.bind (Zes i g.m) fun d=>if ¬ d.2=0 then Cq.fail else (Cq.bind (ZaO h g.c) fun e=>Cq.chk ((b++[(Za.mk e d.1)]).length<=small) (Cq.ret (.inl ((b++[(Za.mk e d.1)]),i64.wrap (a+1)))))) else (Cq.ret (.inr (.inr b)))
def ZcG(b:Zc)(f:(Fin 8->Int))(a:(List Za)):Cq ((List Za)×Int):=
 Cq.bind (ZH b) fun c=>if c=0 then Cq.fail else (Cq.chk (0<=(a.length:Int)/\(a.length:Int)<=1000000) (Cq.next (Zgu b f a (([]:List Za),0)) fun g=>match g with | .inl d=>Cq.ret d | .inr e=>Zgv e))
def Zfc(a:Zb):Cq Zb:=
 Cq.bind (Zbx a.mag) fun b=>Cq.bind (Z3 (!a.neg) b) fun c=>Cq.ret c
def Zdo(a:(List Za))(b:Zb)(c:Zb):Cq (List Za):=
 Cq.bind (Zdb c b) fun d=>Cq.bind (ZcG d.1 (fun _=>0) a) fun e=>Cq.ret e.1
def Zdp(a:(List Za))(b:Zb)(d:Zb):Cq (List Za):=
 Cq.at' a 0 fun g=>Cq.bind (ZH g.c) fun e=>if e<0 then (Cq.bind (Zfc d) fun f=>Zdo a b f) else (Zdo a b d)
def Zft(b:(List Za)):(Int×Zb×Zb)->Cq (Zb×Zb):=
 Cq.loop fun k=>match k with|(a,e,d)=>if a<(b.length:Int) then (Cq.at' b a fun f=>Cq.bind (Za1 e f.c.num) fun h=>Cq.bind (Za1 d f.c.den) fun i=>Cq.bind (Zbb f.c.den i) fun j=>Cq.bind (ZdF d j.1) fun g=>Cq.ret (.inl (i64.wrap (a+1),h,g))) else (Cq.ret (.inr (e,d)))
def Zcq(a:(List Za)):Cq (List Za):=
 if (a.length:Int)=0 then Cq.fail else (Cq.bind (Zb7 0) fun b=>Cq.bind (Zb7 1) fun c=>Cq.next (Zft a (0,b,c)) fun f=>match f with|(d,e)=>Zdp a d e)
def _eliminant_claim_rules_sorted_k1:Cq Bool:=
 Cq.ret true
def _eliminant_claim_rules_sorted_L2(e:Zbw)(d:(List (List Za)))(b:Int):Int->Cq (Bool⊕Unit):=
 Cq.loop fun k=>match k with|a=>if a<(d.length:Int) then (Cq.at' d a fun c=>Cq.bind (_eliminant_claim_rules_bounded e c 12) fun f=>match f with|false=>(Cq.ret (.inr (.inl false)))|true=>(Cq.bind (Zai c) fun g=>if g<b then (Cq.ret (.inr (.inl false))) else (Cq.bind (Zcq c) fun h=>Cq.bind (Zc7 h c) fun i=>if (!i)=true then (Cq.ret (.inr (.inl false))) else (if 0<a then (Cq.at' d (i64.wrap (a-1)) fun l=>Cq.bind (Zdw l c) fun j=>if 0<=j then (Cq.ret (.inr (.inl false))) else (Cq.ret (.inl (i64.wrap (a+1))))) else (Cq.ret (.inl (i64.wrap (a+1)))))))) else (Cq.ret (.inr (.inr ())))
def _eliminant_claim_rules_sorted(b:Zbw)(c:(List (List Za)))(a:Int):Cq Bool:=
 if 12<(c.length:Int) then (Cq.ret false) else (Cq.next (_eliminant_claim_rules_sorted_L2 b c a 0) fun e=>match e with | .inl d=>Cq.ret d | .inr ()=>_eliminant_claim_rules_sorted_k1)
def _eliminant_claim_rules_valid(a:Zbw):Cq Bool:=
 if 1<=a.k.n then (if a.k.n<=4 then (Cq.bind (_eliminant_claim_rules_sorted a a.k.eqs 0) fun b=>match b with|false=>(Cq.ret false)|true=>(Cq.bind (_eliminant_claim_rules_sorted a a.k.neqs 1) fun c=>Cq.ret c)) else (Cq.ret false)) else (Cq.ret false)
def Zfb(b:Zg):Cq Bool:=
 Cq.bind (_eliminant_claim_rules_valid (Zbw.mk b)) fun a=>Cq.ret a
def ZgM(k:Zg):Cq ByteArray:=Cq.bind (Zfb k) fun v=>match v with|true=>Cq.chk (0<=k.n/\(coreW k).length<=1000000) (Cq.ret (bytesOf (coreW k)))|false=>Cq.ret ByteArray.empty
def ZA(a:(List Za)):Cq (List Za):=
 Cq.bind (Zak (u64.wrap (a.length:Int))) fun b=>Cq.bind (ZV a 0 (a.length:Int) b) fun c=>Cq.ret c
def Zge(a:(List Za)):Cq (List Za):=
 Cq.bind (ZA a) fun b=>Cq.ret b
def Zgd:((List Za)×List ((Fin 8->Int)×Zc))->Cq (List Za):=
 Cq.loop fun d=>match d with|(a,R1)=>Cq.pick R1 (Cq.ret (.inr a)) fun b R2=>Cq.bind (ZH b.2) fun c=>if ¬ c=0 then (Cq.chk ((a++[(Za.mk b.2 b.1)]).length<=small) (Cq.ret (.inl ((a++[(Za.mk b.2 b.1)]),R2)))) else (Cq.ret (.inl (a,R2)))
def Zck(a:(List ((Fin 8->Int)×Zc))):Cq (List Za):=
 Cq.chk (0<=(a.length:Int)/\(a.length:Int)<=1000000) (Cq.next (Zgd (([]:List Za),a)) fun c=>match c with|b=>Zge b)
def ZfC(a:(List ((Fin 8->Int)×Zc))):Cq ((List Za)×Int):=
 Cq.bind (Zck a) fun b=>Cq.ret (b,0)
def ZfD(b:Int)(d:(List ((Fin 8->Int)×Zc)))(e:Za)(a:(Fin 8->Int)):Cq ((Int×(List ((Fin 8->Int)×Zc)))⊕(((List ((Fin 8->Int)×Zc))))):=
 Cq.chk ((∀ i,(Lit.int i64 (a i)).wf=true)/\(mput d a e.c).length<=small) (Cq.ret (.inl (i64.wrap (b+1),(mput d a e.c))))
def ZcR(b:(Fin 8->Int))(d:Za):(Int×(Fin 8->Int))->Cq (Fin 8->Int):=
 Cq.loop fun e=>match e with|(a,c)=>if a<8 then (Cq.chk (0<=a/\a<8) (Cq.chk (0<=a/\a<8) (Cq.chk (0<=getF b a/\(getF b a)<8) (Cq.ret (.inl (i64.wrap (a+1),setF c ((getF b a).toNat) (getF d.m a))))))) else (Cq.ret (.inr c))
def ZfA(d:(List Za))(b:(Fin 8->Int)):(Int×(List ((Fin 8->Int)×Zc)))->Cq (((List ((Fin 8->Int)×Zc)))):=
 Cq.loop fun g=>match g with|(a,c)=>if a<(d.length:Int) then (Cq.at' d a fun e=>Cq.next (ZcR b e (0,(fun _=>0))) fun h=>match h with|f=>ZfD a c e f) else (Cq.ret (.inr c))
def ZcS(c:(List Za))(a:(Fin 8->Int)):Cq ((List Za)×Int):=
 Cq.next (ZfA c a (0,[])) fun d=>match d with|b=>ZfC b
def ZfB(b:(Fin 8->Int)):(Int×(Fin 8->Bool))->Cq (((List Za)×Int)⊕Unit):=
 Cq.loop fun d=>match d with|(a,c)=>if a<8 then (Cq.chk (0<=a/\a<8) (if (getF b a)<0 then (Cq.ret (.inr (.inl ([],1)))) else (if 8<=(getF b a) then (Cq.ret (.inr (.inl ([],1)))) else (Cq.chk (0<=getF b a/\(getF b a)<8) (if (getF c (getF b a))=true then Cq.fail else (Cq.chk (0<=getF b a/\(getF b a)<8) (Cq.ret (.inl (i64.wrap (a+1),setF c ((getF b a).toNat) true))))))))) else (Cq.ret (.inr (.inr ())))
def Zb1(c:(List Za))(a:(Fin 8->Int)):Cq ((List Za)×Int):=
 Cq.next (ZfB a (0,(fun _=>false))) fun d=>match d with | .inl b=>Cq.ret b | .inr ()=>ZcS c a
def Zhq(a:(List (List Za))):Cq ((List (List Za))):=
 Cq.ret a
def Zhp(d:(List (List Za)))(c:(Fin 8->Int)):((List (List Za))×Int)->Cq (((List (List Za)))):=
 Cq.loop fun f=>match f with|(b,a)=>if a<(d.length:Int) then (Cq.at' d a fun g=>Cq.bind (Zb1 g c) fun e=>Cq.at' b a fun h=>Cq.ret (.inl ((b.set a.toNat e.1),i64.wrap (a+1)))) else (Cq.ret (.inr b))
def ZbQ(a:(List (List Za)))(b:(Fin 8->Int)):Cq ((List (List Za))):=
 Cq.chk (0<=(a.length:Int)/\(a.length:Int)<=1000000) (Cq.next (Zhp a b ((List.replicate (a.length:Int).toNat []),0)) fun d=>match d with|c=>Zhq c)
def Zcn(a:(List (List Za))):Cq ((List (List Za))):=
 Cq.ret a
def Zcl(b:(List (List (List Za)))):((List (List Za))×Int)->Cq (((List (List Za)))):=
 Cq.loop fun e=>match e with|(a,c)=>if c<(b.length:Int) then (Cq.at' b c fun d=>Cq.chk ((a++d).length<=small) (Cq.ret (.inl ((a++d),i64.wrap (c+1))))) else (Cq.ret (.inr a))
def Zco(b:(List (List (List Za))))(c:Int):Cq ((List (List Za))):=
 Cq.bind (ZaI c) fun d=>Cq.next (Zcl b (d,0)) fun e=>match e with|a=>Zcn a
def Zcm(a:(List (List (List Za)))):(Int×Int)->Cq Int:=
 Cq.loop fun e=>match e with|(b,c)=>if c<(a.length:Int) then (Cq.at' a c fun d=>if (i64.wrap (b+(d.length:Int)))<0 then Cq.fail else (Cq.ret (.inl (i64.wrap (b+(d.length:Int)),i64.wrap (c+1))))) else (Cq.ret (.inr b))
def Zae(a:(List (List (List Za)))):Cq ((List (List Za))):=
 Cq.next (Zcm a (0,0)) fun c=>match c with|b=>Zco a b
def ZfE(b:Zb):Cq Zc:=
 Cq.bind (Zb7 1) fun a=>Cq.ret (Zc.mk b a)
def Zdy(c:Int):Cq Zc:=
 Cq.bind (Zb7 c) fun a=>Cq.bind (ZfE a) fun b=>Cq.ret b
def ZbI(a:Zc):Cq (List Za):=
 Cq.bind (ZH a) fun b=>if b=0 then Cq.fail else (Cq.ret [(Za.mk a (fun _=>0))])
def ZdJ(a:(List Za))(b:Int):Cq Bool:=
 Cq.bind (Zbt a) fun c=>match c with|false=>(Cq.ret false)|true=>(Cq.bind (ZbN a) fun d=>Cq.chk (0<=b) (if (Int.fdiv (i64.wrap d) (2 ^ (min (b).toNat i64.bits)))=0 then (Cq.bind (Zai a) fun e=>Cq.ret (decide (e<=12))) else (Cq.ret false)))
def ZeF(e:Int)(a:(List (List Za)))(b:(List (List Za))):Cq (Zg×Int):=
 Cq.bind (Zcw a) fun c=>Cq.bind (Zcw b) fun d=>if 12<(c.length:Int) then (Cq.ret ((Zg.mk 0 [] []),2)) else (if 12<(d.length:Int) then (Cq.ret ((Zg.mk 0 [] []),2)) else (Cq.ret ((Zg.mk e c d),0)))
def Zis(d:(List (List Za))):((List (List Za))×(List (List Za))×Int)->Cq (((List (List Za))×(List (List Za)))):=
 Cq.loop fun j=>match j with|(a,b,c)=>if c<(d.length:Int) then (Cq.at' d c fun g=>if (g.length:Int)=0 then (Cq.bind (Zdy 1) fun h=>Cq.bind (ZbI h) fun e=>Cq.chk ((a++[e]).length<=small) (Cq.ret (.inl ((a++[e]),b,i64.wrap (c+1))))) else (Cq.bind (Zai g) fun i=>if 0<i then (Cq.bind (Zcq g) fun f=>Cq.chk ((b++[f]).length<=small) (Cq.ret (.inl (a,(b++[f]),i64.wrap (c+1))))) else (Cq.ret (.inl (a,b,i64.wrap (c+1)))))) else (Cq.ret (.inr (a,b)))
def ZeG(d:Int)(e:(List (List Za)))(a:(List (List Za))):Cq (Zg×Int):=
 Cq.next (Zis e (a,[],0)) fun f=>match f with|(b,c)=>ZeF d b c
def Zit(c:(List (List Za))):((List (List Za))×Int)->Cq (((List (List Za)))):=
 Cq.loop fun f=>match f with|(a,b)=>if b<(c.length:Int) then (Cq.at' c b fun e=>if 0<(e.length:Int) then (Cq.bind (Zcq e) fun d=>Cq.chk ((a++[d]).length<=small) (Cq.ret (.inl ((a++[d]),i64.wrap (b+1))))) else (Cq.ret (.inl (a,i64.wrap (b+1))))) else (Cq.ret (.inr a))
def ZeH(b:Int)(c:(List (List Za)))(d:(List (List Za))):Cq (Zg×Int):=
 Cq.next (Zit c ([],0)) fun e=>match e with|a=>ZeG b d a
def ZeE(d:Int)(b:(List (List Za))):(Int×Zg)->Cq ((Zg×Int)⊕Zg):=
 Cq.loop fun f=>match f with|(a,c)=>if a<(b.length:Int) then (Cq.at' b a fun g=>Cq.bind (ZdJ g d) fun e=>if (!e)=true then (Cq.ret (.inr (.inl ((Zg.mk 0 [] []),1)))) else (Cq.ret (.inl (i64.wrap (a+1),c)))) else (Cq.ret (.inr (.inr c)))
def ZeI(a:Int)(b:(List (List Za)))(c:(List (List Za)))(d:Zg):Cq (Zg×Int):=
 Cq.bind (Zae [b,c]) fun e=>Cq.next (ZeE a e (0,d)) fun g=>match g with | .inl f=>Cq.ret f | .inr h=>ZeH a b c
def ZaB(a:Int)(b:(List (List Za)))(c:(List (List Za))):Cq (Zg×Int):=
 if a<1 then (Cq.ret ((Zg.mk 0 [] []),1)) else (if 4<a then (Cq.ret ((Zg.mk 0 [] []),1)) else (ZeI a b c (Zg.mk 0 [] [])))
def canonS(k:Zg)(p:(Fin 8->Int))(s:Zg×(Fin 8->Int)×ByteArray):Cq (Zg×(Fin 8->Int)×ByteArray):=Cq.bind (ZbQ k.eqs p) fun a=>Cq.bind (ZbQ k.neqs p) fun b=>Cq.bind (ZaB k.n a b) fun r=>if ¬ r.2=0 then Cq.ret s else Cq.bind (ZgM r.1) fun t=>if s.2.2=ByteArray.empty then Cq.ret (r.1,p,t) else if Op.bytesLess t.toList s.2.2.toList=true then Cq.ret (r.1,p,t) else Cq.ret s
def canonL(k:Zg):List (Fin 8->Int)->(Zg×(Fin 8->Int)×ByteArray)->Cq (Zg×(Fin 8->Int)×ByteArray)
 | [],s=>Cq.ret s
 | p::l,s=>Cq.bind (canonS k p s) fun s'=>canonL k l s'
def ZeD(k:Zg):Cq (Zg×(Fin 8->Int)):=Cq.chk (1<=k.n/\k.n<=4) (Cq.bind (canonL k (permsL k.n.toNat) (⟨0,[],[]⟩,(fun _=>0),ByteArray.empty)) fun s=>Cq.ret (s.1,s.2.1))
def Zmy(a:(List Int))(b:Int):Cq (List Int):=
 Cq.chk ((a++[u8.wrap b]).length<=small) (Cq.ret (a++[u8.wrap b]))
def Zmx:((List Int)×Int)->Cq (((List Int)×Int)):=
 Cq.loop fun c=>match c with|(b,a)=>if 127<a then (Cq.chk ((b++[u8.wrap ((u8.wrap (Int.tmod a 128))+128)]).length<=small) (Cq.ret (.inl ((b++[u8.wrap ((u8.wrap (Int.tmod a 128))+128)]),u64.wrap (Int.tdiv a 128))))) else (Cq.ret (.inr (b,a)))
def Zdh(a:(List Int))(b:Int):Cq (List Int):=
 Cq.next (Zmx (a,b)) fun c=>match c with|(d,e)=>Zmy d e
def ZiD(b:(List Int))(a:Int):Cq (List Int):=
 if a<0 then (Cq.bind (Zdh b (u64.wrap ((u64.wrap ((u64.wrap (i64.wrap (0-(i64.wrap (a+1)))))*2))+1))) fun c=>Cq.ret c) else (Cq.bind (Zdh b (u64.wrap ((u64.wrap a)*2))) fun d=>Cq.ret d)
def ZkB(a:(List Int)):Cq (List Int):=
 Cq.ret a
def ZkA(d:Zb):((List Int)×Int)->Cq (List Int):=
 Cq.loop fun e=>match e with|(b,c)=>if c<(d.mag.length:Int) then (Cq.at' d.mag c fun a=>Cq.chk ((b++[u8.wrap (Int.fdiv a (2 ^ (min (24:Int).toNat u32.bits))),u8.wrap (Int.fdiv a (2 ^ (min (16:Int).toNat u32.bits))),u8.wrap (Int.fdiv a (2 ^ (min (8:Int).toNat u32.bits))),u8.wrap a]).length<=small) (Cq.ret (.inl ((b++[u8.wrap (Int.fdiv a (2 ^ (min (24:Int).toNat u32.bits))),u8.wrap (Int.fdiv a (2 ^ (min (16:Int).toNat u32.bits))),u8.wrap (Int.fdiv a (2 ^ (min (8:Int).toNat u32.bits))),u8.wrap a]),i64.wrap (c+1))))) else (Cq.ret (.inr b))
def Zem(c:(List Int))(a:Zb)(d:Int):Cq (List Int):=
 Cq.bind (Zdh c (u64.wrap ((u64.wrap ((u64.wrap (a.mag.length:Int))*2))+d))) fun b=>Cq.next (ZkA a (b,0)) fun e=>match e with|f=>ZkB f
def ZgH(b:(List Int))(a:Zb):Cq (List Int):=
 if a.neg=true then (Zem b a 1) else (Zem b a 0)
def ZgG(d:(List Int))(a:Zc):Cq (List Int):=
 Cq.bind (ZgH d a.num) fun b=>Cq.bind (ZgH b a.den) fun c=>Cq.ret c
def ZlL(a:(List Int)):Cq (List Int):=
 Cq.ret a
def ZlM(a:Int)(b:(List Int)):Cq (((List Int)×Int)⊕(List Int)):=
 Cq.ret (.inl (b,i64.wrap (a+1)))
def ZlK(d:(List Za))(e:Int):((List Int)×Int)->Cq (List Int):=
 Cq.loop fun f=>match f with|(b,a)=>if a<8 then (Cq.at' d e fun g=>Cq.chk (0<=a/\a<8) (Cq.bind (Zdh b (u64.wrap (getF g.m a))) fun c=>Cq.ret (.inl (c,i64.wrap (a+1))))) else (Cq.ret (.inr b))
def ZlJ(b:(List Za)):((List Int)×Int)->Cq (List Int):=
 Cq.loop fun f=>match f with|(d,a)=>if a<(b.length:Int) then (Cq.at' b a fun g=>Cq.bind (ZgG d g.c) fun e=>Cq.next (ZlK b a (e,0)) fun h=>match h with|i=>ZlM a i) else (Cq.ret (.inr d))
def Zkx(c:(List Int))(a:(List Za)):Cq (List Int):=
 Cq.bind (Zdh c (u64.wrap (a.length:Int))) fun b=>Cq.next (ZlJ a (b,0)) fun d=>match d with|e=>ZlL e
def Zkz(a:(List Int)):Cq (List Int):=
 Cq.ret a
def Zky(b:(List (List Za))):((List Int)×Int)->Cq (List Int):=
 Cq.loop fun e=>match e with|(c,a)=>if a<(b.length:Int) then (Cq.at' b a fun f=>Cq.bind (Zkx c f) fun d=>Cq.ret (.inl (d,i64.wrap (a+1)))) else (Cq.ret (.inr c))
def ZgF(c:(List Int))(a:(List (List Za))):Cq (List Int):=
 Cq.bind (Zdh c (u64.wrap (a.length:Int))) fun b=>Cq.next (Zky a (b,0)) fun d=>match d with|e=>Zkz e
def Zic(e:(List Int))(a:Zg):Cq (List Int):=
 Cq.bind (ZiD e a.n) fun b=>Cq.bind (ZgF b a.eqs) fun c=>Cq.bind (ZgF c a.neqs) fun d=>Cq.ret d
def ZcV(c d:Zg):Cq Bool:=Cq.bind (Zic [] c) fun a=>Cq.bind (Zic [] d) fun b=>Cq.ret (decide (bytesOf a=bytesOf b))
def ZlC(b:(List Int))(a:Int):Cq (List Int):=
 Cq.chk (0<=(0:Int)/\(0:Int)<=a/\a<=(b.length:Int)) (Cq.ret ((b.take a.toNat).drop (0:Int).toNat))
def ZlB(b:(List Int)):Int->Cq Int:=
 Cq.loop fun c=>match c with|a=>if 0<a then (Cq.at' b (i64.wrap (a-1)) fun d=>if d=0 then (Cq.ret (.inl (i64.wrap (a-1)))) else (Cq.ret (.inr a))) else (Cq.ret (.inr a))
def Zcx(a:(List Int)):Cq (List Int):=
 Cq.next (ZlB a (a.length:Int)) fun b=>match b with|c=>ZlC a c
def ZdL(a:Int):Cq (List Int):=
 Cq.bind (Zcx [u32.wrap (Int.tmod a 4294967296),u32.wrap (u64.wrap (Int.tdiv a 4294967296))]) fun b=>Cq.ret b
def ZaJ(b:Bool)(c:(List Int)):Cq Zb:=
 Cq.bind (Zcx c) fun a=>if b=true then (Cq.ret (Zb.mk (decide (0<(a.length:Int))) a)) else (Cq.ret (Zb.mk false a))
def Zkk(a:Int):Cq Zb:=
 if a<0 then (Cq.bind (ZdL (u64.wrap ((u64.wrap (i64.wrap (0-(i64.wrap (a+1)))))+1))) fun b=>Cq.bind (ZaJ true b) fun c=>Cq.ret c) else (Cq.bind (ZdL (u64.wrap a)) fun d=>Cq.bind (ZaJ false d) fun e=>Cq.ret e)
def Zbl(c:Int):Cq Zc:=
 Cq.bind (Zkk c) fun a=>Cq.bind (Zkk 1) fun b=>Cq.ret (Zc.mk a b)
def Zia(a:Zb):Cq Int:=
 if a.neg=true then (Cq.ret (-1)) else (Cq.ret (if 1<(a.mag.length:Int) then 1 else (a.mag.length:Int)))
def ZbR(b:Zc):Cq Int:=
 Cq.bind (Zia b.num) fun a=>Cq.ret a
def ZgD(a:Zc):Cq (List Za):=
 Cq.bind (ZbR a) fun b=>if b=0 then (Cq.ret []) else (Cq.ret [(Za.mk a (fun _=>0))])
def Zku:Cq Bool:=
 Cq.ret true
def Zkt(b:(Fin 8->Int)):Int->Cq (Bool⊕Unit):=
 Cq.loop fun c=>match c with|a=>if a<8 then (Cq.chk (0<=a/\a<8) (if (getF b a)<0 then (Cq.ret (.inr (.inl false))) else (Cq.chk (0<=a/\a<8) (if 65535<(getF b a) then Cq.fail else (Cq.ret (.inl (i64.wrap (a+1)))))))) else (Cq.ret (.inr (.inr ())))
def ZgC(b:(Fin 8->Int)):Cq Bool:=
 Cq.next (Zkt b 0) fun c=>match c with | .inl a=>Cq.ret a | .inr ()=>Zku
def Zmu(a:(Fin 8->Int)):Cq ((Fin 8->Int)×Int):=
 Cq.bind (ZgC a) fun b=>if (!b)=true then Cq.fail else (Cq.ret (a,0))
def Zmt(c:(Fin 8->Int)):(Int×(Fin 8->Int))->Cq (Fin 8->Int):=
 Cq.loop fun d=>match d with|(a,b)=>if a<8 then (Cq.chk (0<=a/\a<8) (Cq.chk (0<=a/\a<8) (Cq.chk (0<=a/\a<8) (Cq.ret (.inl (i64.wrap (a+1),setF b a.toNat (i64.wrap ((getF b a)+(getF c a))))))))) else (Cq.ret (.inr b))
def Zjt(b:(Fin 8->Int))(c:(Fin 8->Int)):Cq ((Fin 8->Int)×Int):=
 Cq.next (Zmt c (0,b)) fun d=>match d with|a=>Zmu a
def Zkr(a:(List Int)):Cq (List Int):=
 Cq.bind (Zcx a) fun b=>Cq.ret b
def Zks(b:(List Int))(a:Int)(c:(List Int))(d:Int):Cq (((List Int)×Int)⊕(List Int)):=
 Cq.at' c (i64.wrap (a+(b.length:Int))) fun e=>Cq.ret (.inl ((c.set (i64.wrap (a+(b.length:Int))).toNat (u32.wrap d)),i64.wrap (a+1)))
def Zkq(f:(List Int))(e:(List Int))(b:Int):((List Int)×Int×Int)->Cq (((List Int)×Int)):=
 Cq.loop fun j=>match j with|(c,d,a)=>if a<(e.length:Int) then (Cq.at' f b fun g=>Cq.at' e a fun h=>Cq.at' c (i64.wrap (b+a)) fun i=>Cq.at' c (i64.wrap (b+a)) fun k=>Cq.ret (.inl ((c.set (i64.wrap (b+a)).toNat (u32.wrap (Int.tmod (u64.wrap ((u64.wrap ((u64.wrap ((u64.wrap g)*(u64.wrap h)))+(u64.wrap i)))+d)) 4294967296))),u64.wrap (Int.tdiv (u64.wrap ((u64.wrap ((u64.wrap ((u64.wrap g)*(u64.wrap h)))+(u64.wrap i)))+d)) 4294967296),i64.wrap (a+1)))) else (Cq.ret (.inr (c,d)))
def Zkp(b:(List Int))(c:(List Int)):((List Int)×Int)->Cq (List Int):=
 Cq.loop fun g=>match g with|(d,a)=>if a<(b.length:Int) then (Cq.next (Zkq b c a (d,0,0)) fun h=>match h with|(e,f)=>Zks c a e f) else (Cq.ret (.inr d))
def ZjK(a:(List Int))(b:(List Int)):Cq (List Int):=
 Cq.chk (0<=i64.wrap ((a.length:Int)+(b.length:Int))/\(i64.wrap ((a.length:Int)+(b.length:Int)))<=1000000) (Cq.next (Zkp a b ((List.replicate (i64.wrap ((a.length:Int)+(b.length:Int))).toNat 0),0)) fun d=>match d with|c=>Zkr c)
def Zeg(a:Zb)(b:Zb):Cq Zb:=
 Cq.bind (ZjK a.mag b.mag) fun c=>Cq.bind (ZaJ (decide (¬ a.neg=b.neg)) c) fun d=>Cq.ret d
def Zcy(a:(List Int))(b:Int):Cq Int:=
 if b<(a.length:Int) then (Cq.at' a b fun c=>Cq.ret (u64.wrap c)) else (Cq.ret 0)
def ZfL(a:(List Int)):Cq Int:=
 Cq.bind (Zcy a 1) fun b=>Cq.bind (Zcy a 0) fun c=>Cq.ret (u64.wrap ((u64.wrap (b*4294967296))+c))
def Zkd(a:Int):Cq Int:=
 Cq.ret a
def Zkc:(Int×Int)->Cq Int:=
 Cq.loop fun c=>match c with|(b,a)=>if 0<a then (Cq.chk (a≠0) (Cq.ret (.inl (a,Int.tmod b a)))) else (Cq.ret (.inr b))
def ZiC(a:Int)(b:Int):Cq Int:=
 Cq.next (Zkc (a,b)) fun c=>match c with|d=>Zkd d
def ZiB:Cq Int:=
 Cq.ret 0
def ZiA(b:(List Int))(c:(List Int)):Int->Cq (Int⊕Unit):=
 Cq.loop fun d=>match d with|a=>if 0<=a then (Cq.at' b a fun e=>Cq.at' c a fun f=>if e<f then (Cq.ret (.inr (.inl (-1)))) else (Cq.at' b a fun g=>Cq.at' c a fun h=>if h<g then (Cq.ret (.inr (.inl 1))) else (Cq.ret (.inl (i64.wrap (a-1)))))) else (Cq.ret (.inr (.inr ())))
def Zel(a:(List Int))(b:(List Int)):Cq Int:=
 if (a.length:Int)<(b.length:Int) then (Cq.ret (-1)) else (if (b.length:Int)<(a.length:Int) then (Cq.ret 1) else (Cq.next (ZiA a b (i64.wrap ((a.length:Int)-1))) fun d=>match d with | .inl c=>Cq.ret c | .inr ()=>ZiB))
def Zjr(a:(List Int))(b:Int):Cq ((List Int)×Int):=
 Cq.bind (Zcx a) fun c=>Cq.ret (c,b)
def Zjq(f:(List Int))(d:Int):((List Int)×Int×Int)->Cq (((List Int)×Int)):=
 Cq.loop fun g=>match g with|(a,b,c)=>if 0<=c then (Cq.at' f c fun e=>Cq.chk (d≠0) (Cq.at' a c fun h=>Cq.chk (d≠0) (Cq.ret (.inl ((a.set c.toNat (u32.wrap (u64.wrap (Int.tdiv (u64.wrap ((u64.wrap (b*4294967296))+(u64.wrap e))) d)))),Int.tmod (u64.wrap ((u64.wrap (b*4294967296))+(u64.wrap e))) d,i64.wrap (c-1)))))) else (Cq.ret (.inr (a,b)))
def ZhO(a:(List Int))(d:Int):Cq ((List Int)×Int):=
 Cq.chk (0<=(a.length:Int)/\(a.length:Int)<=1000000) (Cq.next (Zjq a d ((List.replicate (a.length:Int).toNat 0),0,i64.wrap ((a.length:Int)-1))) fun e=>match e with|(b,c)=>Zjr b c)
def Zqa(h:(List Int))(f:Int):((List Int)×Int×Int×Int)->Cq (((List Int)×Int)):=
 Cq.loop fun i=>match i with|(d,b,a,c)=>if c<(d.length:Int) then (Cq.bind (Zcy h c) fun e=>Cq.at' d c fun g=>Cq.at' d c fun j=>Cq.ret (.inl ((d.set c.toNat (u32.wrap (Int.tmod (u64.wrap ((u64.wrap ((u64.wrap (4294967296+(u64.wrap g)))-(Int.tmod (u64.wrap ((u64.wrap (f*e))+b)) 4294967296)))-a)) 4294967296))),u64.wrap (Int.tdiv (u64.wrap ((u64.wrap (f*e))+b)) 4294967296),u64.wrap (1-(u64.wrap (Int.tdiv (u64.wrap ((u64.wrap ((u64.wrap (4294967296+(u64.wrap g)))-(Int.tmod (u64.wrap ((u64.wrap (f*e))+b)) 4294967296)))-a)) 4294967296))),i64.wrap (c+1)))) else (Cq.ret (.inr (d,a)))
def Ze9(a:(List Int))(b:(List Int)):Cq ((List Int)×(List Int)):=
 Cq.bind (Zel a b) fun d=>if d<0 then (Cq.ret ([],a)) else (if (b.length:Int)=1 then (Cq.at' b 0 fun f=>Cq.bind (ZhO a (u64.wrap f)) fun c=>Cq.bind (ZdL c.2) fun e=>Cq.ret (c.1,e)) else Cq.fail)
def Zkb(a:(List Int)):Cq (List Int):=
 Cq.ret a
def ZdX(c:(List Int))(b:(List Int))(a:Bool):Cq (((List Int)×(List Int))⊕((List Int)⊕(List Int))):=
 if a=true then (Cq.bind (ZfL c) fun d=>Cq.bind (ZfL b) fun e=>Cq.bind (ZiC d e) fun f=>Cq.bind (ZdL f) fun g=>Cq.ret (.inr (.inl g))) else (Cq.bind (Ze9 c b) fun h=>Cq.ret (.inl (b,h.2)))
def Zka:((List Int)×(List Int))->Cq ((List Int)⊕(List Int)):=
 Cq.loop fun c=>match c with|(a,b)=>if 0<(b.length:Int) then (if (a.length:Int)<=2 then (ZdX a b (decide ((b.length:Int)<=2))) else (ZdX a b false)) else (Cq.ret (.inr (.inr a)))
def Ziz(b:(List Int))(c:(List Int)):Cq (List Int):=
 Cq.next (Zka (b,c)) fun d=>match d with | .inl a=>Cq.ret a | .inr e=>Zkb e
def Zl1(c:Zb)(d:Zb):Cq Zb:=
 Cq.bind (Ziz c.mag d.mag) fun a=>Cq.bind (ZaJ false a) fun b=>Cq.ret b
def Zl2(a:Zb):Cq Zb:=
 Cq.bind (ZaJ (!a.neg) a.mag) fun b=>Cq.ret b
def Zkm(a:(List Int)):Cq (List Int):=
 Cq.bind (Zcx a) fun b=>Cq.ret b
def Zkl(f:(List Int))(g:(List Int)):((List Int)×Int×Int)->Cq (List Int):=
 Cq.loop fun h=>match h with|(b,a,c)=>if c<(i64.wrap ((if (f.length:Int)<(g.length:Int) then (g.length:Int) else (f.length:Int))+1)) then (Cq.bind (Zcy f c) fun d=>Cq.bind (Zcy g c) fun e=>Cq.at' b c fun i=>Cq.ret (.inl ((b.set c.toNat (u32.wrap (Int.tmod (u64.wrap ((u64.wrap (d+e))+a)) 4294967296))),u64.wrap (Int.tdiv (u64.wrap ((u64.wrap (d+e))+a)) 4294967296),i64.wrap (c+1)))) else (Cq.ret (.inr b))
def ZjJ(a:(List Int))(b:(List Int)):Cq (List Int):=
 Cq.chk (0<=i64.wrap ((if (a.length:Int)<(b.length:Int) then (b.length:Int) else (a.length:Int))+1)/\(i64.wrap ((if (a.length:Int)<(b.length:Int) then (b.length:Int) else (a.length:Int))+1))<=1000000) (Cq.next (Zkl a b ((List.replicate (i64.wrap ((if (a.length:Int)<(b.length:Int) then (b.length:Int) else (a.length:Int))+1)).toNat 0),0,0)) fun d=>match d with|c=>Zkm c)
def Zko(a:(List Int)):Cq (List Int):=
 Cq.bind (Zcx a) fun b=>Cq.ret b
def Zkn(e:(List Int))(g:(List Int)):((List Int)×Int×Int)->Cq (List Int):=
 Cq.loop fun h=>match h with|(b,a,c)=>if c<(e.length:Int) then (Cq.at' e c fun f=>Cq.bind (Zcy g c) fun d=>Cq.at' b c fun i=>Cq.ret (.inl ((b.set c.toNat (u32.wrap (Int.tmod (u64.wrap ((u64.wrap ((u64.wrap (4294967296+(u64.wrap f)))-d))-a)) 4294967296))),u64.wrap (1-(u64.wrap (Int.tdiv (u64.wrap ((u64.wrap ((u64.wrap (4294967296+(u64.wrap f)))-d))-a)) 4294967296))),i64.wrap (c+1)))) else (Cq.ret (.inr b))
def ZgA(a:(List Int))(c:(List Int)):Cq (List Int):=
 Cq.chk (0<=(a.length:Int)/\(a.length:Int)<=1000000) (Cq.next (Zkn a c ((List.replicate (a.length:Int).toNat 0),0,0)) fun d=>match d with|b=>Zko b)
def Zgj(d:Zb)(e:Zb)(f:(List Int))(a:(List Int)):Cq (Zb×Zb×Int):=
 Cq.bind (ZaJ (decide (¬ d.neg=e.neg)) f) fun b=>Cq.bind (ZaJ false a) fun c=>Cq.ret (b,c,0)
def ZdW(c:Zb)(d:Zb)(b:(List Int)×(List Int))(a:Bool):Cq (Zb×Zb×Int):=
 if a=true then Cq.fail else (Zgj c d b.1 b.2)
def Ziy(b:Zb)(c:Zb):Cq (Zb×Zb×Int):=
 if (c.mag.length:Int)=0 then Cq.fail else (Cq.bind (Ze9 b.mag c.mag) fun a=>if b.neg=true then (ZdW b c a (decide (0<(a.2.length:Int)))) else (ZdW b c a false))
def ZgB(b:Zb)(c:Zb):Cq Zb:=
 Cq.bind (Ziy b c) fun a=>Cq.ret a.1
def ZdY(d:Zb)(e:Zb)(a:Zb):Cq Zc:=
 Cq.bind (ZgB d a) fun b=>Cq.bind (ZgB e a) fun c=>Cq.ret (Zc.mk b c)
def ZfM(c:Zb)(a:Zb):Cq Zc:=
 Cq.bind (Zl1 c a) fun b=>Cq.bind (Zia a) fun d=>if d<0 then (Cq.bind (Zl2 b) fun e=>ZdY c a e) else (ZdY c a b)
def Zjs(a:Zc)(b:Zc):Cq Zc:=
 Cq.bind (Zeg a.num b.num) fun c=>Cq.bind (Zeg a.den b.den) fun d=>Cq.bind (ZfM c d) fun e=>Cq.ret e
def Zkw(a:(List Za)):Cq ((List Za)×Int):=
 Cq.ret (a,0)
def Zkv(g:Zc)(h:(Fin 8->Int))(f:(List Za)):((List Za)×Int)->Cq (((List Za)×Int)⊕(List Za)):=
 Cq.loop fun i=>match i with|(a,d)=>if d<(f.length:Int) then (Cq.at' f d fun j=>Cq.bind (Zjt h j.m) fun b=>if ¬ b.2=0 then Cq.fail else (Cq.at' f d fun k=>Cq.bind (Zjs g k.c) fun e=>Cq.chk ((a++[(Za.mk e b.1)]).length<=small) (Cq.ret (.inl ((a++[(Za.mk e b.1)]),i64.wrap (d+1)))))) else (Cq.ret (.inr (.inr a)))
def ZgE(b:Zc)(e:(Fin 8->Int))(f:(List Za)):Cq ((List Za)×Int):=
 Cq.bind (ZbR b) fun c=>if c=0 then (Cq.ret ([],0)) else (Cq.next (Zkv b e f ([],0)) fun g=>match g with | .inl d=>Cq.ret d | .inr a=>Zkw a)
def ZI(e:Int)(f:Int)(g:Int):Cq (List Za):=
 Cq.bind (Zbl e) fun a=>Cq.bind (Zbl 1) fun b=>Cq.bind (ZgD b) fun c=>Cq.bind (ZgE a (setF (setF (fun _=>0) 0 f) 1 g) c) fun d=>Cq.ret d.1
def ZeQ(b:Zc)(c:(List Za)):Cq (List Za):=
 Cq.bind (ZgE b (fun _=>0) c) fun a=>Cq.ret a.1
def Zms:Cq Int:=
 Cq.ret 0
def Zmr(b:(Fin 8->Int))(c:(Fin 8->Int)):Int->Cq (Int⊕Unit):=
 Cq.loop fun d=>match d with|a=>if a<8 then (Cq.chk (0<=a/\a<8) (Cq.chk (0<=a/\a<8) (if (getF b a)<(getF c a) then (Cq.ret (.inr (.inl (-1)))) else (Cq.chk (0<=a/\a<8) (Cq.chk (0<=a/\a<8) (if (getF c a)<(getF b a) then (Cq.ret (.inr (.inl 1))) else (Cq.ret (.inl (i64.wrap (a+1)))))))))) else (Cq.ret (.inr (.inr ())))
def Zht(b:(Fin 8->Int))(c:(Fin 8->Int)):Cq Int:=
 Cq.next (Zmr b c 0) fun d=>match d with | .inl a=>Cq.ret a | .inr ()=>Zms
def Zl0(a:Zb)(b:Zb):Cq Zb:=
 if a.neg=b.neg then (Cq.bind (ZjJ a.mag b.mag) fun c=>Cq.bind (ZaJ a.neg c) fun d=>Cq.ret d) else (Cq.bind (Zel a.mag b.mag) fun e=>if e<0 then (Cq.bind (ZgA b.mag a.mag) fun f=>Cq.bind (ZaJ b.neg f) fun g=>Cq.ret g) else (Cq.bind (ZgA a.mag b.mag) fun h=>Cq.bind (ZaJ a.neg h) fun i=>Cq.ret i))
def Zhs(a:Zc)(b:Zc):Cq Zc:=
 Cq.bind (Zeg a.num b.den) fun c=>Cq.bind (Zeg b.num a.den) fun d=>Cq.bind (Zl0 c d) fun e=>Cq.bind (Zeg a.den b.den) fun f=>Cq.bind (ZfM e f) fun g=>Cq.ret g
def Zmw(a:(List Za)):Cq (List Za):=
 Cq.ret a
def ZfN(e:(List Za))(g:(List Za))(a:Int)(b:(List Za))(d:Int):Cq (((List Za)×Int×Int)⊕(List Za)):=
 Cq.at' e a fun j=>Cq.at' g d fun k=>Cq.bind (Zhs j.c k.c) fun f=>Cq.bind (ZbR f) fun h=>if ¬ h=0 then (Cq.at' e a fun i=>Cq.chk ((b++[(Za.mk f i.m)]).length<=small) (Cq.ret (.inl ((b++[(Za.mk f i.m)]),i64.wrap (a+1),i64.wrap (d+1))))) else (Cq.ret (.inl (b,i64.wrap (a+1),i64.wrap (d+1))))
def ZcT(f:(List Za))(c:(List Za))(a:Int)(b:(List Za))(d:Int)(e:Bool):Cq (((List Za)×Int×Int)⊕(List Za)):=
 if e=true then (Cq.at' c a fun g=>Cq.chk ((b++[g]).length<=small) (Cq.ret (.inl ((b++[g]),d,i64.wrap (a+1))))) else (ZfN f c d b a)
def ZcU(a:(List Za))(c:(List Za))(d:Int)(e:(List Za))(b:Int):Cq (((List Za)×Int×Int)⊕(List Za)):=
 if b=(a.length:Int) then (ZcT a c d e b true) else (Cq.at' a b fun g=>Cq.at' c d fun h=>Cq.bind (Zht g.m h.m) fun f=>ZcT a c d e b (decide (f<0)))
def ZaV(c:(List Za))(f:(List Za))(a:(List Za))(b:Int)(d:Int)(e:Bool):Cq (((List Za)×Int×Int)⊕(List Za)):=
 if e=true then (Cq.at' c b fun g=>Cq.chk ((a++[g]).length<=small) (Cq.ret (.inl ((a++[g]),i64.wrap (b+1),d)))) else (ZcU c f d a b)
def Zbn(a:(List Za))(b:(List Za))(e:(List Za))(c:Int)(d:Int):Cq (((List Za)×Int×Int)⊕(List Za)):=
 if d=(b.length:Int) then (ZaV a b e c d true) else (if c<(a.length:Int) then (Cq.at' a c fun g=>Cq.at' b d fun h=>Cq.bind (Zht g.m h.m) fun f=>ZaV a b e c d (decide (0<f))) else (ZaV a b e c d false))
def Zmv(a:(List Za))(b:(List Za)):((List Za)×Int×Int)->Cq (List Za):=
 Cq.loop fun f=>match f with|(c,d,e)=>if d<(a.length:Int) then (Zbn a b c d e) else (if e<(b.length:Int) then (Zbn a b c d e) else (Cq.ret (.inr c)))
def Zdg(a:(List Za))(b:(List Za)):Cq (List Za):=
 Cq.next (Zmv a b ([],0,0)) fun d=>match d with|c=>Zmw c
def Zeh(d:(List Za))(e:(List Za)):Cq (List Za):=
 Cq.bind (Zbl (-1)) fun a=>Cq.bind (ZeQ a e) fun b=>Cq.bind (Zdg d b) fun c=>Cq.ret c
def Zcv(a:Int):Cq Bool:=
 if 48<=a then (if a<=57 then (Cq.ret true) else (Cq.ret (decide (a=95)))) else (Cq.ret (decide (a=95)))
def ZcI:Cq Bool:=
 Cq.ret true
def ZR(c:ByteArray)(a:Nat)(b:Bool):Cq (Nat⊕(Bool⊕Unit)):=
 if b=true then (Cq.ret (.inl (a+(Utf8.decode c a).2))) else (if (a:Int)=0 then (Cq.ret (.inr (.inl false))) else (Cq.bind (Zcv ((Utf8.decode c a).1:Int)) fun d=>if (!d)=true then (Cq.ret (.inr (.inl false))) else (Cq.ret (.inl (a+(Utf8.decode c a).2)))))
def Ziu(b:ByteArray):Nat->Cq (Bool⊕Unit):=
 Cq.loop fun c=>match c with|a=>if a<b.size then (if 65<=((Utf8.decode b a).1:Int) then (if ((Utf8.decode b a).1:Int)<=90 then (ZR b a true) else (if 97<=((Utf8.decode b a).1:Int) then (ZR b a (decide (((Utf8.decode b a).1:Int)<=122))) else (ZR b a false))) else (if 97<=((Utf8.decode b a).1:Int) then (ZR b a (decide (((Utf8.decode b a).1:Int)<=122))) else (ZR b a false))) else (Cq.ret (.inr (.inr ())))
def ZeJ(b:ByteArray):Cq Bool:=
 Cq.next (Ziu b 0) fun c=>match c with | .inl a=>Cq.ret a | .inr ()=>ZcI
def Zcu(a:ByteArray):Cq Bool:=
 if (a.size:Int)<1 then (Cq.ret false) else (if 12<(a.size:Int) then (Cq.ret false) else (ZeJ a))
def Zjh:Cq Bool:=
 Cq.ret true
def Zji(a:Int)(b:(List (Int×Bool))):Cq ((Int×(List (Int×Bool)))⊕(Bool⊕Unit)):=
 Cq.ret (.inl (i64.wrap (a+1),b))
def ZbP(d:Zn)(a:Int)(c:(List (Int×Bool)))(b:Zf):Cq ((Int×(List (Int×Bool)))⊕(Bool⊕((List (Int×Bool))))):=
 Cq.chk (((Lit.int i64 b.id).wf=true)/\(mput c b.id true).length<=small) (Cq.bind (ZdJ b.p (d.vars.length:Int)) fun e=>if (!e)=true then (Cq.ret (.inr (.inl false))) else (Cq.ret (.inl (i64.wrap (a+1),(mput c b.id true)))))
def Ze4(b:Zn)(e:(List Zf)):(Int×(List (Int×Bool)))->Cq (Bool⊕((List (Int×Bool)))):=
 Cq.loop fun f=>match f with|(a,d)=>if a<(e.length:Int) then (Cq.at' e a fun c=>if c.id<1 then (Cq.ret (.inr (.inl false))) else (if b.next<=c.id then (Cq.ret (.inr (.inl false))) else (Cq.chk ((Lit.int i64 c.id).wf=true) (if ((mget d c.id).getD false)=true then (Cq.ret (.inr (.inl false))) else (if 0<a then (Cq.at' e (i64.wrap (a-1)) fun g=>if c.id<=g.id then (Cq.ret (.inr (.inl false))) else (ZbP b a d c)) else (ZbP b a d c)))))) else (Cq.ret (.inr (.inr d)))
def Zjf(a:Zn):(Int×(List (Int×Bool)))->Cq (Bool⊕Unit):=
 Cq.loop fun g=>match g with|(b,c)=>if b<([a.eqs,a.neqs].length:Int) then (Cq.at' [a.eqs,a.neqs] b fun d=>if 12<(d.length:Int) then (Cq.ret (.inr (.inl false))) else (Cq.next (Ze4 a d (0,c)) fun h=>match h with | .inl e=>Cq.ret (.inr (.inl e)) | .inr f=>Zji b f)) else (Cq.ret (.inr (.inr ())))
def Ze5(a:Zn):Cq Bool:=
 Cq.next (Zjf a (0,[])) fun c=>match c with | .inl b=>Cq.ret b | .inr ()=>Zjh
def Zjg(c:Zn):(Int×(List (ByteArray×Bool)))->Cq (Bool⊕Unit):=
 Cq.loop fun f=>match f with|(a,d)=>if a<(c.vars.length:Int) then (Cq.at' c.vars a fun b=>Cq.bind (Zcu b) fun e=>match e with|false=>(Cq.ret (.inr (.inl false)))|true=>(Cq.chk (b.size<=1000000) (if ((mget d b).getD false)=true then (Cq.ret (.inr (.inl false))) else (Cq.chk ((b.size<=1000000)/\(mput d b true).length<=small) (Cq.ret (.inl (i64.wrap (a+1),(mput d b true)))))))) else (Cq.ret (.inr (.inr ())))
def Ze6(a:Zn):Cq Bool:=
 Cq.next (Zjg a (0,[])) fun c=>match c with | .inl b=>Cq.ret b | .inr ()=>Ze5 a
def Zbk(a:Zn):Cq Bool:=
 if 4<(a.vars.length:Int) then (Cq.ret false) else (if a.next<1 then (Cq.ret false) else (if 1000000<a.next then (Cq.ret false) else (Ze6 a)))
def ZfH(a:(List (List Za))):Cq ((List (List Za))):=
 Cq.ret a
def ZfG(c:(List Zf)):((List (List Za))×Int)->Cq (((List (List Za)))):=
 Cq.loop fun d=>match d with|(b,a)=>if a<(c.length:Int) then (Cq.at' c a fun e=>Cq.at' b a fun f=>Cq.ret (.inl ((b.set a.toNat e.p),i64.wrap (a+1)))) else (Cq.ret (.inr b))
def ZaZ(a:(List Zf)):Cq ((List (List Za))):=
 Cq.chk (0<=(a.length:Int)/\(a.length:Int)<=1000000) (Cq.next (ZfG a ((List.replicate (a.length:Int).toNat []),0)) fun b=>match b with|c=>ZfH c)
def ZdI(a:Zn):Cq (Zg×Int):=
 Cq.bind (Zbk a) fun c=>if (!c)=true then (Cq.ret ((Zg.mk 0 [] []),320)) else (Cq.bind (ZaZ a.eqs) fun d=>Cq.bind (ZaZ a.neqs) fun e=>Cq.bind (ZaB (if 1<(a.vars.length:Int) then (a.vars.length:Int) else 1) d e) fun b=>Cq.ret (b.1,b.2))
def Zd8(j:(List Za))(a:Zg×Int)(b:Zg×Int):Cq Bool:=
 Cq.bind (ZI 1 1 0) fun c=>Cq.bind (ZI 2 0 0) fun d=>Cq.bind (Zeh c d) fun e=>Cq.bind (ZcV a.1 (Zg.mk 1 [e] [])) fun f=>match f with|false=>(Cq.ret false)|true=>(Cq.bind (ZcV b.1 (Zg.mk 2 [j] [])) fun g=>match g with|false=>(Cq.ret false)|true=>(Cq.bind (Zbk (Zn.mk [] [] [] 1)) fun h=>match h with|false=>(Cq.ret false)|true=>(Cq.bind (Zbk (Zn.mk [] [] [] 0)) fun i=>Cq.ret (!i))))
def Zdn:Cq Bool:=
 Cq.bind (ZI 1 1 0) fun s=>Cq.bind (ZI 1 0 0) fun t=>Cq.bind (Zeh s t) fun u=>Cq.bind (ZI 1 0 0) fun d=>Cq.bind (ZI 2 1 0) fun v=>Cq.bind (ZI 4 0 0) fun w=>Cq.bind (Zeh v w) fun x=>Cq.bind (ZI 2 0 0) fun y=>Cq.bind (ZI 1 1 0) fun z=>Cq.bind (Zeh y z) fun e=>Cq.bind (ZI 3 0 0) fun f=>Cq.bind (ZaB 1 [x,[],e] [f]) fun a=>Cq.bind (ZaB 2 [] [[]]) fun b=>Cq.bind (ZI 1 0 1) fun g=>Cq.bind (ZaB 1 [g] []) fun h=>Cq.bind (ZdI (Zn.mk [] [] [] 0)) fun i=>Cq.bind (ZI 1 1 0) fun j=>Cq.bind (ZI 1 0 2) fun k=>Cq.bind (Zdg j k) fun l=>Cq.bind (ZeD (Zg.mk 2 [u,l] [])) fun c=>Cq.bind (ZI 1 0 1) fun m=>Cq.bind (Zeh m d) fun n=>Cq.bind (ZI 1 2 0) fun o=>Cq.bind (ZI 1 0 1) fun p=>Cq.bind (Zdg o p) fun q=>if ¬ a.2=0 then (Cq.ret false) else (if ¬ b.2=0 then (Cq.ret false) else (if ¬ h.2=1 then (Cq.ret false) else (if ¬ i.2=320 then (Cq.ret false) else (Cq.bind (ZcV c.1 (Zg.mk 2 [n,q] [])) fun r=>match r with|false=>(Cq.ret false)|true=>(if ¬ c.2=(setF (setF (setF (setF (setF (setF (setF (setF (fun _=>0) 0 1) 1 0) 2 2) 3 3) 4 4) 5 5) 6 6) 7 7) then (Cq.ret false) else (Zd8 d a b))))))
def Zhu(a:Int):Cq Int:=
 if a<0 then (Cq.ret (i64.wrap (0-(i64.wrap a)))) else (Cq.ret (i64.wrap a))
def ZlH(a:(List Za)):Cq (List Za):=
 Cq.ret a
def ZlI(b:Zv)(c:(List Za))(a:Int)(d:(Fin 8->Int)):Cq (((List Za)×Int)⊕(List Za)):=
 Cq.at' b.t a fun i=>Cq.bind (Zbl (i64.wrap (Int.tmod (getF i 0) 4))) fun e=>Cq.bind (Zbl 1) fun f=>Cq.bind (ZeQ e [(Za.mk f d)]) fun g=>Cq.bind (Zdg c g) fun h=>Cq.ret (.inl (h,i64.wrap (a+1)))
def ZhQ(f:Zv)(g:Int)(d:Int):(Int×Int×(Fin 8->Int))->Cq (Fin 8->Int):=
 Cq.loop fun h=>match h with|(b,a,c)=>if a<g then (if a<4 then (Cq.at' f.t d fun i=>Cq.chk (0<=i64.wrap (1+a)/\(i64.wrap (1+a))<5) (Cq.bind (Zhu (getF i (i64.wrap (1+a)))) fun e=>Cq.chk ((i64.wrap (b+1))≠0) (Cq.chk (0<=a/\a<8) (Cq.chk (0<=a/\a<8) (Cq.ret (.inl (i64.wrap (b-(getF (setF c a.toNat (Int.tmod e (i64.wrap (b+1)))) a)),i64.wrap (a+1),setF c a.toNat (Int.tmod e (i64.wrap (b+1)))))))))) else (Cq.ret (.inr c))) else (Cq.ret (.inr c))
def ZhR(b:Zv)(c:Int)(d:Int)(e:(List Za))(a:Int):Cq (((List Za)×Int)⊕(List Za)):=
 Cq.next (ZhQ b c a (d,0,(fun _=>0))) fun g=>match g with|f=>ZlI b e a f
def ZlG(c:Zv)(d:Int)(e:Int)(f:Int):((List Za)×Int)->Cq (List Za):=
 Cq.loop fun g=>match g with|(b,a)=>if a<(c.t.length:Int) then (if a<f then (ZhR c d e b a) else (Cq.ret (.inr b))) else (Cq.ret (.inr b))
def Zib(a:Zv)(b:Int)(c:Int)(d:Int):Cq (List Za):=
 Cq.next (ZlG a b c d ([],0)) fun f=>match f with|e=>ZlH e
def Zfa(a:(List ByteArray))(d:(List Zf))(b:(List Zf))(c:Int):Cq Zn:=
 Cq.ret (Zn.mk a d b c)
def ZdC(h:Zo)(f:Int)(e:(List ByteArray))(d:(List Zf))(b:(List Zf))(a:Int)(c:Int):Cq ((Int×(List ByteArray)×(List Zf)×(List Zf)×Int)⊕(((List ByteArray)×(List Zf)×(List Zf)×Int))):=
 Cq.at' h.l f fun i=>Cq.bind (Zib i (i64.wrap (Int.tmod h.n 4)) 2 3) fun g=>if (Int.tmod f 3)=2 then (Cq.chk ((b++[(Zf.mk (i64.wrap (a+c)) g)]).length<=small) (Cq.ret (.inl (i64.wrap (f+1),e,d,(b++[(Zf.mk (i64.wrap (a+c)) g)]),i64.wrap ((i64.wrap (a+c))+1))))) else (Cq.chk ((d++[(Zf.mk (i64.wrap (a+c)) g)]).length<=small) (Cq.ret (.inl (i64.wrap (f+1),e,(d++[(Zf.mk (i64.wrap (a+c)) g)]),b,i64.wrap ((i64.wrap (a+c))+1)))))
def ZdD(a:Zo)(f:Int)(b:(List ByteArray))(e:(List Zf))(c:(List Zf))(d:Int):Cq ((Int×(List ByteArray)×(List Zf)×(List Zf)×Int)⊕(((List ByteArray)×(List Zf)×(List Zf)×Int))):=
 if 0<(a.gap.length:Int) then (Cq.chk ((a.gap.length:Int)≠0) (Cq.at' a.gap (Int.tmod f (a.gap.length:Int)) fun g=>ZdC a f b e c d (i64.wrap (Int.tmod g 4)))) else (ZdC a f b e c d 0)
def ZlN(f:Zo):(Int×(List ByteArray)×(List Zf)×(List Zf)×Int)->Cq (((List ByteArray)×(List Zf)×(List Zf)×Int)):=
 Cq.loop fun g=>match g with|(e,a,d,b,c)=>if e<(f.l.length:Int) then (if e<6 then (ZdD f e a d b c) else (Cq.ret (.inr (a,d,b,c)))) else (Cq.ret (.inr (a,d,b,c)))
def ZfO(a:Zo):Cq Zn:=
 Cq.chk (0<=(0:Int)/\(0:Int)<=(i64.wrap (Int.tmod a.n 4))/\(i64.wrap (Int.tmod a.n 4))<=([ZO,ZJ,ZE].length:Int)) (Cq.next (ZlN a (0,(([ZO,ZJ,ZE].take (i64.wrap (Int.tmod a.n 4)).toNat).drop (0:Int).toNat),[],[],1)) fun f=>match f with|(b,e,c,d)=>Zfa b e c d)
def ZkD(a:(List (List Za))):Cq ((List (List Za))):=
 Cq.ret a
def ZkC(c:(List Zf)):((List (List Za))×Int)->Cq (((List (List Za)))):=
 Cq.loop fun e=>match e with|(a,b)=>if b<(c.length:Int) then (Cq.at' c b fun d=>Cq.chk ((a++[d.p]).length<=small) (Cq.ret (.inl ((a++[d.p]),i64.wrap (b+1))))) else (Cq.ret (.inr a))
def ZeR(b:(List Zf)):Cq ((List (List Za))):=
 Cq.next (ZkC b ([],0)) fun c=>match c with|a=>ZkD a
def ZbD(a:(List Int))(c:Int)(b:(List Int))(d:Int):Cq (Int×(List Int)):=
 Cq.at' b (a.length:Int) fun e=>Cq.at' b (a.length:Int) fun f=>Cq.ret (u32.wrap (u64.wrap (c-1)),(b.set (a.length:Int).toNat (u32.wrap (e+(u32.wrap d)))))
def ZbB(d:(List Int)):((List Int)×Int×Int)->Cq (((List Int)×Int)):=
 Cq.loop fun g=>match g with|(b,c,a)=>if a<(d.length:Int) then (Cq.at' b a fun f=>Cq.at' d a fun e=>Cq.at' b a fun h=>Cq.ret (.inl ((b.set a.toNat (u32.wrap (u64.wrap ((u64.wrap ((u64.wrap f)+(u64.wrap e)))+c)))),Int.fdiv (u64.wrap ((u64.wrap ((u64.wrap f)+(u64.wrap e)))+c)) (2 ^ (min (32:Int).toNat u64.bits)),i64.wrap (a+1)))) else (Cq.ret (.inr (b,c)))
def ZaA(a:(List Int))(e:Int)(b:(List Int))(d:Int)(c:Int):Cq (Int×(List Int)):=
 Cq.at' b (a.length:Int) fun f=>Cq.at' b (a.length:Int) fun j=>if (Int.fdiv (u64.wrap ((u64.wrap ((u64.wrap f)-d))-c)) (2 ^ (min (63:Int).toNat u64.bits)))=0 then (Cq.ret (u32.wrap e,(b.set (a.length:Int).toNat (u32.wrap (u64.wrap ((u64.wrap ((u64.wrap f)-d))-c)))))) else (Cq.next (ZbB a ((b.set (a.length:Int).toNat (u32.wrap (u64.wrap ((u64.wrap ((u64.wrap f)-d))-c)))),0,0)) fun i=>match i with|(g,h)=>ZbD a e g h)
def ZbC(f:(List Int))(e:Int):((List Int)×Int×Int×Int)->Cq (((List Int)×Int×Int)):=
 Cq.loop fun i=>match i with|(b,c,d,a)=>if a<(f.length:Int) then (Cq.at' f a fun g=>Cq.at' b a fun h=>Cq.at' b a fun j=>Cq.ret (.inl ((b.set a.toNat (u32.wrap (u64.wrap ((u64.wrap ((u64.wrap h)-(u64.wrap (u32.wrap (u64.wrap ((u64.wrap (e*(u64.wrap g)))+c))))))-d)))),Int.fdiv (u64.wrap ((u64.wrap (e*(u64.wrap g)))+c)) (2 ^ (min (32:Int).toNat u64.bits)),Int.fdiv (u64.wrap ((u64.wrap ((u64.wrap h)-(u64.wrap (u32.wrap (u64.wrap ((u64.wrap (e*(u64.wrap g)))+c))))))-d)) (2 ^ (min (63:Int).toNat u64.bits)),i64.wrap (a+1)))) else (Cq.ret (.inr (b,c,d)))
def ZbE(d:(List Int))(a:(List Int))(b:Int):Cq (Int×(List Int)):=
 Cq.next (ZbC a b (d,0,0,0)) fun g=>match g with|(e,f,c)=>ZaA a b e f c
def Zaa(f:(List Int))(a:(List Int)):(Int×Int)->Cq Int:=
 Cq.loop fun i=>match i with|(b,c)=>if 4294967296<=b then (Cq.at' a (i64.wrap ((a.length:Int)-1)) fun d=>if 4294967296<=(u64.wrap (c+(u64.wrap d))) then (Cq.ret (.inr (u64.wrap (b-1)))) else (Cq.ret (.inl (u64.wrap (b-1),u64.wrap (c+(u64.wrap d)))))) else (Cq.at' a (i64.wrap ((a.length:Int)-2)) fun g=>Cq.at' f (i64.wrap ((a.length:Int)-2)) fun h=>if (u64.wrap (BitVec.ofInt u64.bits (u64.wrap (c*2 ^ (min (32:Int).toNat u64.bits))) ||| BitVec.ofInt u64.bits (u64.wrap h)).toNat)<(u64.wrap (b*(u64.wrap g))) then (Cq.at' a (i64.wrap ((a.length:Int)-1)) fun e=>if 4294967296<=(u64.wrap (c+(u64.wrap e))) then (Cq.ret (.inr (u64.wrap (b-1)))) else (Cq.ret (.inl (u64.wrap (b-1),u64.wrap (c+(u64.wrap e)))))) else (Cq.ret (.inr b)))
def Z4(b:(List Int))(a:(List Int)):Cq (Int×(List Int)):=
 Cq.at' b (a.length:Int) fun d=>Cq.at' b (i64.wrap ((a.length:Int)-1)) fun e=>Cq.at' a (i64.wrap ((a.length:Int)-1)) fun f=>Cq.chk ((u64.wrap f)≠0) (Cq.at' a (i64.wrap ((a.length:Int)-1)) fun g=>Cq.chk ((u64.wrap g)≠0) (Cq.next (Zaa b a (u64.wrap (Int.tdiv (u64.wrap (BitVec.ofInt u64.bits (u64.wrap ((u64.wrap d)*2 ^ (min (32:Int).toNat u64.bits))) ||| BitVec.ofInt u64.bits (u64.wrap e)).toNat) (u64.wrap f)),Int.tmod (u64.wrap (BitVec.ofInt u64.bits (u64.wrap ((u64.wrap d)*2 ^ (min (32:Int).toNat u64.bits))) ||| BitVec.ofInt u64.bits (u64.wrap e)).toNat) (u64.wrap g))) fun h=>match h with|c=>ZbE b a c))
def ZP(a:(List Int))(b:Int):Cq Int:=
 if b<(a.length:Int) then (Cq.at' a b fun c=>Cq.ret (u64.wrap c)) else (Cq.ret 0)
def Zim(b:(List Int))(a:Int):Cq (Bool×(List Int)):=
 Cq.ret (decide (a=1),b)
def Zil(h:(List Int))(f:Int):((List Int)×Int×Int×Int)->Cq (((List Int)×Int)):=
 Cq.loop fun i=>match i with|(d,b,a,c)=>if c<(d.length:Int) then (Cq.bind (ZP h c) fun e=>Cq.at' d c fun g=>Cq.at' d c fun j=>Cq.ret (.inl ((d.set c.toNat (u32.wrap (Int.tmod (u64.wrap ((u64.wrap ((u64.wrap (4294967296+(u64.wrap g)))-(Int.tmod (u64.wrap ((u64.wrap (f*e))+b)) 4294967296)))-a)) 4294967296))),u64.wrap (Int.tdiv (u64.wrap ((u64.wrap (f*e))+b)) 4294967296),u64.wrap (1-(u64.wrap (Int.tdiv (u64.wrap ((u64.wrap ((u64.wrap (4294967296+(u64.wrap g)))-(Int.tmod (u64.wrap ((u64.wrap (f*e))+b)) 4294967296)))-a)) 4294967296))),i64.wrap (c+1)))) else (Cq.ret (.inr (d,a)))
def Zbz(b:(List Int))(c:(List Int))(d:Int):Cq (Bool×(List Int)):=
 Cq.next (Zil c d (b,0,0,0)) fun e=>match e with|(f,a)=>Zim f a
def ZhI(a:(List Int)):Cq (List Int):=
 Cq.ret a
def ZhH(f:(List Int)):((List Int)×Int×Int)->Cq (List Int):=
 Cq.loop fun g=>match g with|(c,a,b)=>if b<(c.length:Int) then (Cq.at' c b fun e=>Cq.bind (ZP f b) fun d=>Cq.at' c b fun h=>Cq.ret (.inl ((c.set b.toNat (u32.wrap (Int.tmod (u64.wrap ((u64.wrap ((u64.wrap e)+d))+a)) 4294967296))),u64.wrap (Int.tdiv (u64.wrap ((u64.wrap ((u64.wrap e)+d))+a)) 4294967296),i64.wrap (b+1)))) else (Cq.ret (.inr c))
def Zbf(a:(List Int))(b:(List Int)):Cq (List Int):=
 Cq.next (ZhH b (a,0,0)) fun c=>match c with|d=>ZhI d
def Zhf(b:(List Int))(a:Int):Cq (List Int):=
 Cq.chk (0<=(0:Int)/\(0:Int)<=a/\a<=(b.length:Int)) (Cq.ret ((b.take a.toNat).drop (0:Int).toNat))
def ZdT(b:(List Int)):Int->Cq Int:=
 Cq.loop fun c=>match c with|a=>if 0<a then (Cq.at' b (i64.wrap (a-1)) fun d=>if d=0 then (Cq.ret (.inl (i64.wrap (a-1)))) else (Cq.ret (.inr a))) else (Cq.ret (.inr a))
def Zu(a:(List Int)):Cq (List Int):=
 Cq.next (ZdT a (a.length:Int)) fun b=>match b with|c=>Zhf a c
def Zam(a:Int):Cq (List Int):=
 Cq.bind (Zu [u32.wrap a,u32.wrap (Int.fdiv a (2 ^ (min (32:Int).toNat u64.bits)))]) fun b=>Cq.ret b
def Zw(b:Bool)(c:(List Int)):Cq Zb:=
 Cq.bind (Zu c) fun a=>if (a.length:Int)=0 then (Cq.ret (Zb.mk false [])) else (Cq.ret (Zb.mk b a))
def ZbA(a:Int):Cq Zb:=
 if a<0 then (Cq.bind (Zam (u64.wrap (0-(u64.wrap a)))) fun b=>Cq.bind (Zw (decide (a<0)) b) fun c=>Cq.ret c) else (Cq.bind (Zam (u64.wrap a)) fun d=>Cq.bind (Zw (decide (a<0)) d) fun e=>Cq.ret e)
def Zea(b:Zb):Cq Zc:=
 Cq.bind (ZbA 1) fun a=>Cq.ret (Zc.mk b a)
def Za9(c:Int):Cq Zc:=
 Cq.bind (ZbA c) fun a=>Cq.bind (Zea a) fun b=>Cq.ret b
def Zah(a:Zb):Cq Bool:=
 if a.neg=true then (Cq.ret false) else (if (a.mag.length:Int)=1 then (Cq.at' a.mag 0 fun b=>Cq.ret (decide (b=1))) else (Cq.ret false))
def ZaN(a:(List Int)):Cq (List Int):=
 Cq.chk (([]++a).length<=small) (Cq.ret ([]++a))
def Zgt(a:Int):Cq Int:=
 Cq.ret a
def Zgs(b:(List Int)):(Int×Int)->Cq Int:=
 Cq.loop fun d=>match d with|(c,a)=>if a<(b.length:Int) then (Cq.at' b a fun e=>Cq.chk (0<=(i64.wrap (32*a))) (Cq.ret (.inl (u64.wrap (BitVec.ofInt u64.bits c ||| BitVec.ofInt u64.bits (u64.wrap ((u64.wrap e)*2 ^ (min (i64.wrap (32*a)).toNat u64.bits)))).toNat,i64.wrap (a+1))))) else (Cq.ret (.inr c))
def Zbr(a:(List Int)):Cq Int:=
 Cq.next (Zgs a (0,0)) fun b=>match b with|c=>Zgt c
def Zfu:Cq Int:=
 Cq.ret 0
def Zbh(b:(List Int))(c:(List Int)):Int->Cq (Int⊕Unit):=
 Cq.loop fun d=>match d with|a=>if 0<=a then (Cq.at' b a fun e=>Cq.at' c a fun f=>if ¬ e=f then (Cq.at' b a fun g=>Cq.at' c a fun h=>if g<h then (Cq.ret (.inr (.inl (-1)))) else (Cq.ret (.inr (.inl 1)))) else (Cq.ret (.inl (i64.wrap (a-1))))) else (Cq.ret (.inr (.inr ())))
def ZaX(a:(List Int))(b:(List Int)):Cq Int:=
 if ¬ (a.length:Int)=(b.length:Int) then (if (a.length:Int)<(b.length:Int) then (Cq.ret (-1)) else (Cq.ret 1)) else (Cq.next (Zbh a b (i64.wrap ((a.length:Int)-1))) fun d=>match d with | .inl c=>Cq.ret c | .inr ()=>Zfu)
def Zef(c:(List Int))(a:Int):Cq ((List Int)×Int):=
 Cq.bind (Zu c) fun b=>Cq.ret (b,a)
def Zee(f:(List Int))(c:Int):((List Int)×Int×Int)->Cq (((List Int)×Int)):=
 Cq.loop fun g=>match g with|(d,a,b)=>if 0<=b then (Cq.at' f b fun e=>Cq.chk (c≠0) (Cq.at' d b fun h=>Cq.chk (c≠0) (Cq.ret (.inl ((d.set b.toNat (u32.wrap (u64.wrap (Int.tdiv (u64.wrap (BitVec.ofInt u64.bits (u64.wrap (a*2 ^ (min (32:Int).toNat u64.bits))) ||| BitVec.ofInt u64.bits (u64.wrap e)).toNat) c)))),Int.tmod (u64.wrap (BitVec.ofInt u64.bits (u64.wrap (a*2 ^ (min (32:Int).toNat u64.bits))) ||| BitVec.ofInt u64.bits (u64.wrap e)).toNat) c,i64.wrap (b-1)))))) else (Cq.ret (.inr (d,a)))
def Zao(a:(List Int))(c:Int):Cq ((List Int)×Int):=
 Cq.chk (0<=(a.length:Int)/\(a.length:Int)<=1000000) (Cq.next (Zee a c ((List.replicate (a.length:Int).toNat 0),0,i64.wrap ((a.length:Int)-1))) fun d=>match d with|(e,b)=>Zef e b)
def Zad(a:Int)(b:Int):Cq Int:=
 Cq.chk (0<=(u8.wrap a:Int)/\(u8.wrap a)<(ZF.size:Int)) (Cq.ret (i64.wrap (b+(i64.wrap (byteAt ZF (u8.wrap a))))))
def Zax(a:Int)(b:Int):Cq Int:=
 if 256<=a then (Zad (Int.fdiv a (2 ^ (min (8:Int).toNat u32.bits))) (i64.wrap (b+8))) else (Zad a b)
def Zb0(a:Int):Cq Int:=
 if 65536<=a then (Zax (Int.fdiv a (2 ^ (min (16:Int).toNat u32.bits))) 16) else (Zax a 0)
def Zar(b:Int):Cq Int:=
 Cq.bind (Zb0 b) fun a=>Cq.ret (i64.wrap (32-a))
def ZeO(c:(List Int))(b:(List Int))(a:Int):Cq (List Int):=
 Cq.at' b (c.length:Int) fun d=>Cq.ret (b.set (c.length:Int).toNat (u32.wrap a))
def ZeN(e:(List Int))(d:Int):((List Int)×Int×Int)->Cq (((List Int)×Int)):=
 Cq.loop fun g=>match g with|(c,b,a)=>if a<(e.length:Int) then (Cq.at' e a fun f=>Cq.chk (0<=d) (Cq.at' c a fun h=>Cq.ret (.inl ((c.set a.toNat (u32.wrap (u64.wrap (BitVec.ofInt u64.bits (u64.wrap ((u64.wrap f)*2 ^ (min (d).toNat u64.bits))) ||| BitVec.ofInt u64.bits b).toNat))),Int.fdiv (u64.wrap (BitVec.ofInt u64.bits (u64.wrap ((u64.wrap f)*2 ^ (min (d).toNat u64.bits))) ||| BitVec.ofInt u64.bits b).toNat) (2 ^ (min (32:Int).toNat u64.bits)),i64.wrap (a+1))))) else (Cq.ret (.inr (c,b)))
def ZaG(a:(List Int))(d:Int):Cq (List Int):=
 Cq.chk (0<=i64.wrap ((a.length:Int)+1)/\(i64.wrap ((a.length:Int)+1))<=1000000) (Cq.next (ZeN a d ((List.replicate (i64.wrap ((a.length:Int)+1)).toNat 0),0,0)) fun e=>match e with|(c,b)=>ZeO a c b)
def Zez(a:(List Int)):Cq (List Int):=
 Cq.bind (Zu a) fun b=>Cq.ret b
def Zey(f:(List Int))(d:Int):((List Int)×Int×Int)->Cq (List Int):=
 Cq.loop fun g=>match g with|(b,a,c)=>if 0<=c then (Cq.at' f c fun e=>Cq.chk (0<=d) (Cq.at' b c fun h=>Cq.chk (0<=d) (Cq.ret (.inl ((b.set c.toNat (u32.wrap (Int.fdiv (u64.wrap (BitVec.ofInt u64.bits (u64.wrap (a*2 ^ (min (32:Int).toNat u64.bits))) ||| BitVec.ofInt u64.bits (u64.wrap e)).toNat) (2 ^ (min (d).toNat u64.bits))))),u64.wrap (BitVec.ofInt u64.bits (u64.wrap (BitVec.ofInt u64.bits (u64.wrap (a*2 ^ (min (32:Int).toNat u64.bits))) ||| BitVec.ofInt u64.bits (u64.wrap e)).toNat) &&& BitVec.ofInt u64.bits (u64.wrap ((u64.wrap (1*2 ^ (min (d).toNat u64.bits)))-1))).toNat,i64.wrap (c-1)))))) else (Cq.ret (.inr b))
def Zbj(a:(List Int))(c:Int):Cq (List Int):=
 Cq.chk (0<=(a.length:Int)/\(a.length:Int)<=1000000) (Cq.next (Zey a c ((List.replicate (a.length:Int).toNat 0),0,i64.wrap ((a.length:Int)-1))) fun d=>match d with|b=>Zez b)
def Zc4(b:(List Int))(f:Int)(a:(List Int))(c:(List Int)):Cq ((List Int)×(List Int)):=
 Cq.bind (Zu c) fun d=>Cq.chk (0<=(0:Int)/\(0:Int)<=(b.length:Int)/\(b.length:Int)<=(a.length:Int)) (Cq.bind (Zbj ((a.take (b.length:Int).toNat).drop (0:Int).toNat) f) fun e=>Cq.ret (d,e))
def Zc3(d:(List Int))(f:(List Int)):((List Int)×(List Int)×Int)->Cq (((List Int)×(List Int))):=
 Cq.loop fun g=>match g with|(b,c,a)=>if 0<=a then (Cq.chk (0<=a/\a<(i64.wrap ((i64.wrap (a+(d.length:Int)))+1))/\(i64.wrap ((i64.wrap (a+(d.length:Int)))+1))<=(b.length:Int)) (Cq.bind (Z4 ((b.take (i64.wrap ((i64.wrap (a+(d.length:Int)))+1)).toNat).drop a.toNat) ((f.take (d.length:Int).toNat).drop (0:Int).toNat)) fun e=>Cq.at' c a fun h=>Cq.ret (.inl ((b.take a.toNat++e.2++b.drop (i64.wrap ((i64.wrap (a+(d.length:Int)))+1)).toNat),(c.set a.toNat e.1),i64.wrap (a-1))))) else (Cq.ret (.inr (b,c)))
def ZaD(h:(List Int))(i:(List Int)):Cq ((List Int)×(List Int)):=
 Cq.bind (Zu h) fun b=>Cq.bind (Zu i) fun a=>Cq.bind (ZaX b a) fun j=>if j<0 then (Cq.bind (ZaN b) fun k=>Cq.ret ([],k)) else (if (a.length:Int)=1 then (Cq.at' a 0 fun n=>Cq.bind (Zao b (u64.wrap n)) fun f=>Cq.bind (Zam f.2) fun l=>Cq.ret (f.1,l)) else (Cq.at' a (i64.wrap ((a.length:Int)-1)) fun o=>Cq.bind (Zar o) fun c=>Cq.bind (ZaG b c) fun m=>Cq.bind (ZaG a c) fun g=>Cq.chk (0<=(0:Int)/\(0:Int)<=(a.length:Int)/\(a.length:Int)<=(g.length:Int)) (Cq.chk (0<=i64.wrap ((i64.wrap ((b.length:Int)-(a.length:Int)))+1)/\(i64.wrap ((i64.wrap ((b.length:Int)-(a.length:Int)))+1))<=1000000) (Cq.next (Zc3 a g (m,(List.replicate (i64.wrap ((i64.wrap ((b.length:Int)-(a.length:Int)))+1)).toNat 0),i64.wrap ((b.length:Int)-(a.length:Int)))) fun p=>match p with|(d,e)=>Zc4 a c d e))))
def Zcj(b:(List Int)):Cq Zb:=
 Cq.bind (Zw false b) fun a=>Cq.ret a
def ZhL(c:Int):Cq (((List Int)×(List Int)×Zb)⊕(Zb⊕((List Int)×Zb))):=
 Cq.bind (Zam c) fun b=>Cq.bind (Zw false b) fun a=>Cq.ret (.inr (.inl a))
def Za7:(Int×Int)->Cq Int:=
 Cq.loop fun c=>match c with|(b,a)=>if 0<a then (Cq.chk (a≠0) (Cq.ret (.inl (a,Int.tmod b a)))) else (Cq.ret (.inr b))
def ZaC(d:(List Int))(a:(List Int))(e:Zb)(b:Bool):Cq (((List Int)×(List Int)×Zb)⊕(Zb⊕((List Int)×Zb))):=
 if b=true then (Cq.bind (Zbr d) fun f=>Cq.bind (Zbr a) fun g=>Cq.next (Za7 (f,g)) fun h=>match h with|i=>ZhL i) else (Cq.bind (ZaD d a) fun c=>Cq.ret (.inl (a,c.2,e)))
def Zci:((List Int)×(List Int)×Zb)->Cq (Zb⊕((List Int)×Zb)):=
 Cq.loop fun d=>match d with|(c,a,b)=>if 0<(a.length:Int) then (if (c.length:Int)<=2 then (ZaC c a b (decide ((a.length:Int)<=2))) else (ZaC c a b false)) else (Cq.ret (.inr (.inr (c,b))))
def Zds(f:Zb)(g:Zb):Cq Zb:=
 Cq.bind (Zu f.mag) fun a=>Cq.bind (ZaN a) fun b=>Cq.bind (Zu g.mag) fun c=>Cq.bind (ZaN c) fun d=>Cq.next (Zci (b,d,(Zb.mk false []))) fun h=>match h with | .inl e=>Cq.ret e | .inr (i,j)=>Zcj i
def ZhN(c:(List Int))(b:(List Int))(a:Int):Cq (List Int):=
 Cq.at' b (c.length:Int) fun e=>Cq.bind (Zu (b.set (c.length:Int).toNat (u32.wrap a))) fun d=>Cq.ret d
def ZU(b:(List Int))(a:Int)(c:Int):Cq (((List Int)×Int×Int)⊕(((List Int)×Int))):=
 Cq.at' b a fun d=>Cq.ret (.inl ((b.set a.toNat (u32.wrap c)),Int.fdiv c (2 ^ (min (32:Int).toNat u64.bits)),i64.wrap (a+1)))
def ZhM(d:(List Int))(e:(List Int)):((List Int)×Int×Int)->Cq (((List Int)×Int)):=
 Cq.loop fun g=>match g with|(c,b,a)=>if a<(d.length:Int) then (Cq.at' d a fun f=>if a<(e.length:Int) then (Cq.at' e a fun h=>ZU c a (u64.wrap ((u64.wrap ((u64.wrap f)+b))+(u64.wrap h)))) else (ZU c a (u64.wrap ((u64.wrap f)+b)))) else (Cq.ret (.inr (c,b)))
def Za8(a:(List Int))(d:(List Int)):Cq (List Int):=
 Cq.chk (0<=i64.wrap ((a.length:Int)+1)/\(i64.wrap ((a.length:Int)+1))<=1000000) (Cq.next (ZhM a d ((List.replicate (i64.wrap ((a.length:Int)+1)).toNat 0),0,0)) fun e=>match e with|(c,b)=>ZhN a c b)
def Zcc(a:(List Int))(b:(List Int)):Cq (List Int):=
 if (a.length:Int)<(b.length:Int) then (Za8 b a) else (Za8 a b)
def Zex(a:(List Int)):Cq (List Int):=
 Cq.bind (Zu a) fun b=>Cq.ret b
def ZM(b:(List Int))(a:Int)(c:Int):Cq (((List Int)×Int×Int)⊕(List Int)):=
 Cq.at' b a fun d=>Cq.ret (.inl ((b.set a.toNat (u32.wrap c)),Int.fdiv c (2 ^ (min (63:Int).toNat u64.bits)),i64.wrap (a+1)))
def Zew(d:(List Int))(e:(List Int)):((List Int)×Int×Int)->Cq (List Int):=
 Cq.loop fun g=>match g with|(c,b,a)=>if a<(d.length:Int) then (Cq.at' d a fun f=>if a<(e.length:Int) then (Cq.at' e a fun h=>ZM c a (u64.wrap ((u64.wrap ((u64.wrap f)-b))-(u64.wrap h)))) else (ZM c a (u64.wrap ((u64.wrap f)-b)))) else (Cq.ret (.inr c))
def Zac(a:(List Int))(c:(List Int)):Cq (List Int):=
 Cq.chk (0<=(a.length:Int)/\(a.length:Int)<=1000000) (Cq.next (Zew a c ((List.replicate (a.length:Int).toNat 0),0,0)) fun d=>match d with|b=>Zex b)
def Zbq(d:Zb)(e:Zb)(f:(List Int))(a:(List Int)):Cq (Zb×Zb×Int):=
 Cq.bind (Zw (decide (¬ d.neg=e.neg)) f) fun b=>Cq.bind (Zw false a) fun c=>Cq.ret (b,c,0)
def ZaF(d:Zb)(c:Zb)(a:(List Int)×(List Int))(b:Bool):Cq (Zb×Zb×Int):=
 if b=true then (Cq.bind (Zcc a.1 [1]) fun e=>Cq.bind (Zac c.mag a.2) fun f=>Zbq d c e f) else (Zbq d c a.1 a.2)
def Za6(b:Zb)(c:Zb):Cq (Zb×Zb×Int):=
 Cq.bind (Zu c.mag) fun d=>if (d.length:Int)=0 then (Cq.ret ((Zb.mk false []),(Zb.mk false []),10)) else (Cq.bind (ZaD b.mag c.mag) fun a=>if b.neg=true then (ZaF b c a (decide (0<(a.2.length:Int)))) else (ZaF b c a false))
def Zas(c:Zb)(a:Zb):Cq Zc:=
 Cq.bind (Zah a) fun d=>if d=true then (Cq.ret (Zc.mk c a)) else (Cq.bind (Zds c a) fun b=>Cq.bind (Zah b) fun e=>if e=true then (Cq.ret (Zc.mk c a)) else (Cq.bind (Za6 c b) fun f=>Cq.bind (Za6 a b) fun g=>Cq.ret (Zc.mk f.1 g.1)))
def Zfw(a:(List Int)):Cq (List Int):=
 Cq.bind (Zu a) fun b=>Cq.ret b
def Zaw(b:(List Int))(a:Int)(c:(List Int))(d:Int):Cq (((List Int)×Int)⊕(List Int)):=
 Cq.at' c (i64.wrap (a+(b.length:Int))) fun e=>Cq.ret (.inl ((c.set (i64.wrap (a+(b.length:Int))).toNat (u32.wrap d)),i64.wrap (a+1)))
def Zbi(e:(List Int))(b:Int)(f:Int):((List Int)×Int×Int)->Cq (((List Int)×Int)):=
 Cq.loop fun i=>match i with|(c,d,a)=>if a<(e.length:Int) then (Cq.at' e a fun g=>Cq.at' c (i64.wrap (b+a)) fun h=>Cq.at' c (i64.wrap (b+a)) fun j=>Cq.ret (.inl ((c.set (i64.wrap (b+a)).toNat (u32.wrap (u64.wrap ((u64.wrap ((u64.wrap ((u64.wrap f)*(u64.wrap g)))+(u64.wrap h)))+d)))),Int.fdiv (u64.wrap ((u64.wrap ((u64.wrap ((u64.wrap f)*(u64.wrap g)))+(u64.wrap h)))+d)) (2 ^ (min (32:Int).toNat u64.bits)),i64.wrap (a+1)))) else (Cq.ret (.inr (c,d)))
def Zfv(b:(List Int))(c:(List Int)):((List Int)×Int)->Cq (List Int):=
 Cq.loop fun g=>match g with|(d,a)=>if a<(b.length:Int) then (Cq.at' b a fun h=>Cq.next (Zbi c a h (d,0,0)) fun i=>match i with|(e,f)=>Zaw c a e f) else (Cq.ret (.inr d))
def ZbZ(a:(List Int))(b:(List Int)):Cq (List Int):=
 Cq.chk (0<=i64.wrap ((a.length:Int)+(b.length:Int))/\(i64.wrap ((a.length:Int)+(b.length:Int)))<=1000000) (Cq.next (Zfv a b ((List.replicate (i64.wrap ((a.length:Int)+(b.length:Int))).toNat 0),0)) fun d=>match d with|c=>Zfw c)
def Zdt(a:Zb)(b:Zb):Cq Zb:=
 Cq.bind (ZbZ a.mag b.mag) fun c=>Cq.bind (Zw (decide (¬ a.neg=b.neg)) c) fun d=>Cq.ret d
def Zfi(a:Zb):Cq Zb:=
 Cq.ret a
def ZK(d:(List Zb)):(Int×Zb)->Cq Zb:=
 Cq.loop fun h=>match h with|(a,b)=>if a<(d.length:Int) then (Cq.at' d a fun c=>Cq.bind (Zah c) fun e=>if e=true then (Cq.ret (.inl (i64.wrap (a+1),b))) else (Cq.bind (Zah b) fun f=>if f=true then (Cq.ret (.inl (i64.wrap (a+1),c))) else (Cq.bind (Zdt b c) fun g=>Cq.ret (.inl (i64.wrap (a+1),g))))) else (Cq.ret (.inr b))
def ZW(c:(List Zb)):Cq Zb:=
 Cq.bind (ZbA 1) fun a=>Cq.next (ZK c (0,a)) fun d=>match d with|b=>Zfi b
def Zag(c:Zc)(d:Zc):Cq Zc:=
 Cq.bind (Zas c.num d.den) fun a=>Cq.bind (Zas d.num c.den) fun b=>Cq.bind (ZW [a.num,b.num]) fun e=>Cq.bind (ZW [a.den,b.den]) fun f=>Cq.ret (Zc.mk e f)
def Zfh(a:Zc)(b:Zc):Cq Zc:=
 Cq.bind (Zag b a) fun c=>Cq.ret c
def Zap:(Int×Zc×Zc)->Cq (Zc×Zc):=
 Cq.loop fun g=>match g with|(c,a,b)=>if 1<c then (if (Int.tmod c 2)=1 then (Cq.bind (Zag b a) fun d=>Cq.bind (Zag a a) fun e=>Cq.ret (.inl (i64.wrap (Int.tdiv c 2),e,d))) else (Cq.bind (Zag a a) fun f=>Cq.ret (.inl (i64.wrap (Int.tdiv c 2),f,b)))) else (Cq.ret (.inr (a,b)))
def ZbH(d:Zc)(e:Int):Cq Zc:=
 Cq.bind (Za9 1) fun a=>Cq.next (Zap (e,d,a)) fun f=>match f with|(b,c)=>Zfh b c
def Zdr(a:Zb)(b:Zb):Cq Zb:=
 if a.neg=b.neg then (Cq.bind (Zcc a.mag b.mag) fun c=>Cq.bind (Zw a.neg c) fun d=>Cq.ret d) else (Cq.bind (ZaX a.mag b.mag) fun e=>if 0<=e then (Cq.bind (Zac a.mag b.mag) fun f=>Cq.bind (Zw a.neg f) fun g=>Cq.ret g) else (Cq.bind (Zac b.mag a.mag) fun h=>Cq.bind (Zw b.neg h) fun i=>Cq.ret i))
def Zc5(a:Zc)(b:Zc):Cq Zc:=
 Cq.bind (ZW [a.num,b.den]) fun c=>Cq.bind (ZW [b.num,a.den]) fun d=>Cq.bind (Zdr c d) fun e=>Cq.bind (ZW [a.den,b.den]) fun f=>Cq.bind (Zas e f) fun g=>Cq.ret g
def Zfx(a:Zc):Cq Zc:=
 Cq.ret a
def Zfy(a:Int)(b:Zc)(c:Zc):Cq ((Int×Zc)⊕Zc):=
 Cq.bind (Zc5 b c) fun d=>Cq.ret (.inl (i64.wrap (a+1),d))
def ZcQ(f:(List Zc))(c:Za):(Int×Zc)->Cq Zc:=
 Cq.loop fun g=>match g with|(a,b)=>if a<8 then (Cq.chk (0<=a/\a<8) (if 0<(getF c.m a) then (Cq.at' f a fun h=>Cq.bind (ZbH h (getF c.m a)) fun d=>Cq.bind (Zag b d) fun e=>Cq.ret (.inl (i64.wrap (a+1),e))) else (Cq.ret (.inl (i64.wrap (a+1),b))))) else (Cq.ret (.inr b))
def ZcP(d:(List Za))(g:(List Zc)):(Int×Zc)->Cq Zc:=
 Cq.loop fun h=>match h with|(a,b)=>if a<(d.length:Int) then (Cq.at' d a fun e=>Cq.next (ZcQ g e (0,e.c)) fun i=>match i with|f=>Zfy a b f) else (Cq.ret (.inr b))
def ZZ(c:(List Za))(d:(List Zc)):Cq Zc:=
 Cq.bind (Za9 0) fun a=>Cq.next (ZcP c d (0,a)) fun e=>match e with|b=>Zfx b
def ZdG(a:Zb):Cq Int:=
 if a.neg=true then (Cq.ret (-1)) else (Cq.ret (if 1<(a.mag.length:Int) then 1 else (a.mag.length:Int)))
def ZbG(b:Zc):Cq Int:=
 Cq.bind (ZdG b.num) fun a=>Cq.ret a
def ZjC(b:(List Int))(a:Int):Cq (List Int):=
 Cq.chk (0<=(0:Int)/\(0:Int)<=a/\a<=(b.length:Int)) (Cq.ret ((b.take a.toNat).drop (0:Int).toNat))
def ZjB(b:(List Int)):Int->Cq Int:=
 Cq.loop fun c=>match c with|a=>if 0<a then (Cq.at' b (i64.wrap (a-1)) fun d=>if d=0 then (Cq.ret (.inl (i64.wrap (a-1)))) else (Cq.ret (.inr a))) else (Cq.ret (.inr a))
def Zaf(a:(List Int)):Cq (List Int):=
 Cq.next (ZjB a (a.length:Int)) fun b=>match b with|c=>ZjC a c
def Zaq(a:Int):Cq (List Int):=
 Cq.bind (Zaf [u32.wrap (Int.tmod a 4294967296),u32.wrap (u64.wrap (Int.tdiv a 4294967296))]) fun b=>Cq.ret b
def Z2(b:Bool)(c:(List Int)):Cq Zb:=
 Cq.bind (Zaf c) fun a=>if b=true then (Cq.ret (Zb.mk (decide (0<(a.length:Int))) a)) else (Cq.ret (Zb.mk false a))
def ZaW(a:Int):Cq Zb:=
 if a<0 then (Cq.bind (Zaq (u64.wrap ((u64.wrap (i64.wrap (0-(i64.wrap (a+1)))))+1))) fun b=>Cq.bind (Z2 true b) fun c=>Cq.ret c) else (Cq.bind (Zaq (u64.wrap a)) fun d=>Cq.bind (Z2 false d) fun e=>Cq.ret e)
def Zev(c:Int):Cq Zc:=
 Cq.bind (ZaW c) fun a=>Cq.bind (ZaW 1) fun b=>Cq.ret (Zc.mk a b)
def Zi6(a:(List Int)):Cq (List Int):=
 Cq.bind (Zaf a) fun b=>Cq.ret b
def ZbM(b:(List Int))(a:Int)(c:(List Int))(d:Int):Cq (((List Int)×Int)⊕(List Int)):=
 Cq.at' c (i64.wrap (a+(b.length:Int))) fun e=>Cq.ret (.inl ((c.set (i64.wrap (a+(b.length:Int))).toNat (u32.wrap d)),i64.wrap (a+1)))
def Zc1(f:(List Int))(e:(List Int))(b:Int):((List Int)×Int×Int)->Cq (((List Int)×Int)):=
 Cq.loop fun j=>match j with|(c,d,a)=>if a<(e.length:Int) then (Cq.at' f b fun g=>Cq.at' e a fun h=>Cq.at' c (i64.wrap (b+a)) fun i=>Cq.at' c (i64.wrap (b+a)) fun k=>Cq.ret (.inl ((c.set (i64.wrap (b+a)).toNat (u32.wrap (Int.tmod (u64.wrap ((u64.wrap ((u64.wrap ((u64.wrap g)*(u64.wrap h)))+(u64.wrap i)))+d)) 4294967296))),u64.wrap (Int.tdiv (u64.wrap ((u64.wrap ((u64.wrap ((u64.wrap g)*(u64.wrap h)))+(u64.wrap i)))+d)) 4294967296),i64.wrap (a+1)))) else (Cq.ret (.inr (c,d)))
def Zi5(b:(List Int))(c:(List Int)):((List Int)×Int)->Cq (List Int):=
 Cq.loop fun g=>match g with|(d,a)=>if a<(b.length:Int) then (Cq.next (Zc1 b c a (d,0,0)) fun h=>match h with|(e,f)=>ZbM c a e f) else (Cq.ret (.inr d))
def ZbY(a:(List Int))(b:(List Int)):Cq (List Int):=
 Cq.chk (0<=i64.wrap ((a.length:Int)+(b.length:Int))/\(i64.wrap ((a.length:Int)+(b.length:Int)))<=1000000) (Cq.next (Zi5 a b ((List.replicate (i64.wrap ((a.length:Int)+(b.length:Int))).toNat 0),0)) fun d=>match d with|c=>Zi6 c)
def Zb9(a:Zb)(b:Zb):Cq Zb:=
 Cq.bind (ZbY a.mag b.mag) fun c=>Cq.bind (Z2 (decide (¬ a.neg=b.neg)) c) fun d=>Cq.ret d
def Zi1(a:(List Int)):Cq (List Int):=
 Cq.bind (Zaf a) fun b=>Cq.ret b
def Zi0(f:(List Int))(g:(List Int)):((List Int)×Int×Int)->Cq (List Int):=
 Cq.loop fun h=>match h with|(b,a,c)=>if c<(i64.wrap ((if (f.length:Int)<(g.length:Int) then (g.length:Int) else (f.length:Int))+1)) then (Cq.bind (ZP f c) fun d=>Cq.bind (ZP g c) fun e=>Cq.at' b c fun i=>Cq.ret (.inl ((b.set c.toNat (u32.wrap (Int.tmod (u64.wrap ((u64.wrap (d+e))+a)) 4294967296))),u64.wrap (Int.tdiv (u64.wrap ((u64.wrap (d+e))+a)) 4294967296),i64.wrap (c+1)))) else (Cq.ret (.inr b))
def Zc0(a:(List Int))(b:(List Int)):Cq (List Int):=
 Cq.chk (0<=i64.wrap ((if (a.length:Int)<(b.length:Int) then (b.length:Int) else (a.length:Int))+1)/\(i64.wrap ((if (a.length:Int)<(b.length:Int) then (b.length:Int) else (a.length:Int))+1))<=1000000) (Cq.next (Zi0 a b ((List.replicate (i64.wrap ((if (a.length:Int)<(b.length:Int) then (b.length:Int) else (a.length:Int))+1)).toNat 0),0,0)) fun d=>match d with|c=>Zi1 c)
def Zhe:Cq Int:=
 Cq.ret 0
def ZbV(b:(List Int))(c:(List Int)):Int->Cq (Int⊕Unit):=
 Cq.loop fun d=>match d with|a=>if 0<=a then (Cq.at' b a fun e=>Cq.at' c a fun f=>if e<f then (Cq.ret (.inr (.inl (-1)))) else (Cq.at' b a fun g=>Cq.at' c a fun h=>if h<g then (Cq.ret (.inr (.inl 1))) else (Cq.ret (.inl (i64.wrap (a-1)))))) else (Cq.ret (.inr (.inr ())))
def ZbK(a:(List Int))(b:(List Int)):Cq Int:=
 if (a.length:Int)<(b.length:Int) then (Cq.ret (-1)) else (if (b.length:Int)<(a.length:Int) then (Cq.ret 1) else (Cq.next (ZbV a b (i64.wrap ((a.length:Int)-1))) fun d=>match d with | .inl c=>Cq.ret c | .inr ()=>Zhe))
def Zi4(a:(List Int)):Cq (List Int):=
 Cq.bind (Zaf a) fun b=>Cq.ret b
def Zi3(e:(List Int))(g:(List Int)):((List Int)×Int×Int)->Cq (List Int):=
 Cq.loop fun h=>match h with|(b,a,c)=>if c<(e.length:Int) then (Cq.at' e c fun f=>Cq.bind (ZP g c) fun d=>Cq.at' b c fun i=>Cq.ret (.inl ((b.set c.toNat (u32.wrap (Int.tmod (u64.wrap ((u64.wrap ((u64.wrap (4294967296+(u64.wrap f)))-d))-a)) 4294967296))),u64.wrap (1-(u64.wrap (Int.tdiv (u64.wrap ((u64.wrap ((u64.wrap (4294967296+(u64.wrap f)))-d))-a)) 4294967296))),i64.wrap (c+1)))) else (Cq.ret (.inr b))
def ZbX(a:(List Int))(c:(List Int)):Cq (List Int):=
 Cq.chk (0<=(a.length:Int)/\(a.length:Int)<=1000000) (Cq.next (Zi3 a c ((List.replicate (a.length:Int).toNat 0),0,0)) fun d=>match d with|b=>Zi4 b)
def Zf8(a:Zb)(b:Zb):Cq Zb:=
 if a.neg=b.neg then (Cq.bind (Zc0 a.mag b.mag) fun c=>Cq.bind (Z2 a.neg c) fun d=>Cq.ret d) else (Cq.bind (ZbK a.mag b.mag) fun e=>if e<0 then (Cq.bind (ZbX b.mag a.mag) fun f=>Cq.bind (Z2 b.neg f) fun g=>Cq.ret g) else (Cq.bind (ZbX a.mag b.mag) fun h=>Cq.bind (Z2 a.neg h) fun i=>Cq.ret i))
def Zcs(a:(List Int)):Cq Int:=
 Cq.bind (ZP a 1) fun b=>Cq.bind (ZP a 0) fun c=>Cq.ret (u64.wrap ((u64.wrap (b*4294967296))+c))
def Zik(a:Int):Cq Int:=
 Cq.ret a
def Zeu:(Int×Int)->Cq Int:=
 Cq.loop fun c=>match c with|(b,a)=>if 0<a then (Cq.chk (a≠0) (Cq.ret (.inl (a,Int.tmod b a)))) else (Cq.ret (.inr b))
def Zd4(a:Int)(b:Int):Cq Int:=
 Cq.next (Zeu (a,b)) fun c=>match c with|d=>Zik d
def ZhK(a:(List Int))(b:Int):Cq ((List Int)×Int):=
 Cq.bind (Zaf a) fun c=>Cq.ret (c,b)
def ZhJ(f:(List Int))(d:Int):((List Int)×Int×Int)->Cq (((List Int)×Int)):=
 Cq.loop fun g=>match g with|(a,b,c)=>if 0<=c then (Cq.at' f c fun e=>Cq.chk (d≠0) (Cq.at' a c fun h=>Cq.chk (d≠0) (Cq.ret (.inl ((a.set c.toNat (u32.wrap (u64.wrap (Int.tdiv (u64.wrap ((u64.wrap (b*4294967296))+(u64.wrap e))) d)))),Int.tmod (u64.wrap ((u64.wrap (b*4294967296))+(u64.wrap e))) d,i64.wrap (c-1)))))) else (Cq.ret (.inr (a,b)))
def Zbg(a:(List Int))(d:Int):Cq ((List Int)×Int):=
 Cq.chk (0<=(a.length:Int)/\(a.length:Int)<=1000000) (Cq.next (ZhJ a d ((List.replicate (a.length:Int).toNat 0),0,i64.wrap ((a.length:Int)-1))) fun e=>match e with|(b,c)=>ZhK b c)
def Zi2(a:Int):Cq Int:=
 Cq.ret a
def ZbL(d:(List Int))(a:(List Int)):(Int×Int)->Cq Int:=
 Cq.loop fun g=>match g with|(b,c)=>if 4294967296<=b then (Cq.at' a (i64.wrap ((a.length:Int)-1)) fun e=>if 4294967296<=(u64.wrap (c+(u64.wrap e))) then (Cq.ret (.inr (u64.wrap (b-1)))) else (Cq.ret (.inl (u64.wrap (b-1),u64.wrap (c+(u64.wrap e)))))) else (Cq.at' a (i64.wrap ((a.length:Int)-2)) fun h=>Cq.at' d (i64.wrap ((a.length:Int)-2)) fun i=>if (u64.wrap ((u64.wrap (c*4294967296))+(u64.wrap i)))<(u64.wrap (b*(u64.wrap h))) then (Cq.at' a (i64.wrap ((a.length:Int)-1)) fun f=>if 4294967296<=(u64.wrap (c+(u64.wrap f))) then (Cq.ret (.inr (u64.wrap (b-1)))) else (Cq.ret (.inl (u64.wrap (b-1),u64.wrap (c+(u64.wrap f)))))) else (Cq.ret (.inr b)))
def ZbW(b:(List Int))(a:(List Int)):Cq Int:=
 Cq.at' b (a.length:Int) fun d=>Cq.at' b (i64.wrap ((a.length:Int)-1)) fun e=>Cq.at' a (i64.wrap ((a.length:Int)-1)) fun f=>Cq.chk ((u64.wrap f)≠0) (Cq.at' a (i64.wrap ((a.length:Int)-1)) fun g=>Cq.chk ((u64.wrap g)≠0) (Cq.next (ZbL b a (u64.wrap (Int.tdiv (u64.wrap ((u64.wrap ((u64.wrap d)*4294967296))+(u64.wrap e))) (u64.wrap f)),Int.tmod (u64.wrap ((u64.wrap ((u64.wrap d)*4294967296))+(u64.wrap e))) (u64.wrap g))) fun h=>match h with|c=>Zi2 c))
def Zch(f:Int)(a:(List Int))(b:(List Int)):Cq ((List Int)×(List Int)):=
 Cq.bind (Zaf a) fun d=>Cq.bind (Zbg d (u64.wrap (Int.tdiv 4294967296 (u64.wrap ((u64.wrap f)+1))))) fun e=>Cq.bind (Zaf b) fun c=>Cq.ret (c,e.1)
def Zd9(d:(List Int))(g:(List Int)):((List Int)×(List Int)×Int)->Cq (((List Int)×(List Int))):=
 Cq.loop fun i=>match i with|(b,c,a)=>if 0<=a then (Cq.chk (0<=a/\a<(i64.wrap ((i64.wrap (a+(d.length:Int)))+1))/\(i64.wrap ((i64.wrap (a+(d.length:Int)))+1))<=(b.length:Int)) (Cq.bind (ZbW ((b.take (i64.wrap ((i64.wrap (a+(d.length:Int)))+1)).toNat).drop a.toNat) g) fun e=>Cq.bind (Zbz ((b.take (i64.wrap ((i64.wrap (a+(d.length:Int)))+1)).toNat).drop a.toNat) g e) fun f=>if f.1=true then (Cq.bind (Zbf f.2 g) fun h=>Cq.at' c a fun j=>Cq.ret (.inl ((b.take a.toNat++h++b.drop (i64.wrap ((i64.wrap (a+(d.length:Int)))+1)).toNat),(c.set a.toNat (u32.wrap (u64.wrap (e-1)))),i64.wrap (a-1)))) else (Cq.at' c a fun k=>Cq.ret (.inl ((b.take a.toNat++f.2++b.drop (i64.wrap ((i64.wrap (a+(d.length:Int)))+1)).toNat),(c.set a.toNat (u32.wrap e)),i64.wrap (a-1)))))) else (Cq.ret (.inr (b,c)))
def Zbe(a:(List Int))(b:(List Int)):Cq ((List Int)×(List Int)):=
 Cq.bind (ZbK a b) fun h=>if h<0 then (Cq.ret ([],a)) else (if (b.length:Int)=1 then (Cq.at' b 0 fun m=>Cq.bind (Zbg a (u64.wrap m)) fun g=>Cq.bind (Zaq g.2) fun i=>Cq.ret (g.1,i)) else (Cq.at' b (i64.wrap ((b.length:Int)-1)) fun d=>Cq.chk ((u64.wrap ((u64.wrap d)+1))≠0) (Cq.bind (Zaq (u64.wrap (Int.tdiv 4294967296 (u64.wrap ((u64.wrap d)+1))))) fun j=>Cq.bind (ZbY b j) fun k=>Cq.chk (0<=i64.wrap ((a.length:Int)+1)/\(i64.wrap ((a.length:Int)+1))<=1000000) (Cq.bind (Zaq (u64.wrap (Int.tdiv 4294967296 (u64.wrap ((u64.wrap d)+1))))) fun l=>Cq.bind (ZbY a l) fun c=>Cq.chk (0<c.length/\c.length<=((List.replicate (i64.wrap ((a.length:Int)+1)).toNat 0):(List Int)).length) (Cq.chk (0<=i64.wrap ((i64.wrap ((a.length:Int)-(b.length:Int)))+1)/\(i64.wrap ((i64.wrap ((a.length:Int)-(b.length:Int)))+1))<=1000000) (Cq.next (Zd9 b k ((c++(List.replicate (i64.wrap ((a.length:Int)+1)).toNat 0).drop c.length),(List.replicate (i64.wrap ((i64.wrap ((a.length:Int)-(b.length:Int)))+1)).toNat 0),i64.wrap ((a.length:Int)-(b.length:Int)))) fun n=>match n with|(e,f)=>Zch d e f))))))
def ZcE(a:(List Int)):Cq (List Int):=
 Cq.ret a
def ZaM(c:(List Int))(b:(List Int))(a:Bool):Cq (((List Int)×(List Int))⊕((List Int)⊕(List Int))):=
 if a=true then (Cq.bind (Zcs c) fun d=>Cq.bind (Zcs b) fun e=>Cq.bind (Zd4 d e) fun f=>Cq.bind (Zaq f) fun g=>Cq.ret (.inr (.inl g))) else (Cq.bind (Zbe c b) fun h=>Cq.ret (.inl (b,h.2)))
def ZcD:((List Int)×(List Int))->Cq ((List Int)⊕(List Int)):=
 Cq.loop fun c=>match c with|(a,b)=>if 0<(b.length:Int) then (if (a.length:Int)<=2 then (ZaM a b (decide ((b.length:Int)<=2))) else (ZaM a b false)) else (Cq.ret (.inr (.inr a)))
def Zd3(b:(List Int))(c:(List Int)):Cq (List Int):=
 Cq.next (ZcD (b,c)) fun d=>match d with | .inl a=>Cq.ret a | .inr e=>ZcE e
def Zf9(c:Zb)(d:Zb):Cq Zb:=
 Cq.bind (Zd3 c.mag d.mag) fun a=>Cq.bind (Z2 false a) fun b=>Cq.ret b
def Zga(a:Zb):Cq Zb:=
 Cq.bind (Z2 (!a.neg) a.mag) fun b=>Cq.ret b
def ZcC(d:Zb)(e:Zb)(f:(List Int))(a:(List Int)):Cq (Zb×Zb×Int):=
 Cq.bind (Z2 (decide (¬ d.neg=e.neg)) f) fun b=>Cq.bind (Z2 false a) fun c=>Cq.ret (b,c,0)
def Zbp(d:Zb)(c:Zb)(a:(List Int)×(List Int))(b:Bool):Cq (Zb×Zb×Int):=
 if b=true then (Cq.bind (Zc0 a.1 [1]) fun e=>Cq.bind (ZbX c.mag a.2) fun f=>ZcC d c e f) else (ZcC d c a.1 a.2)
def Zgl(b:Zb)(c:Zb):Cq (Zb×Zb×Int):=
 if (c.mag.length:Int)=0 then (Cq.ret ((Zb.mk false []),(Zb.mk false []),10)) else (Cq.bind (Zbe b.mag c.mag) fun a=>if b.neg=true then (Zbp b c a (decide (0<(a.2.length:Int)))) else (Zbp b c a false))
def Zc2(b:Zb)(c:Zb):Cq Zb:=
 Cq.bind (Zgl b c) fun a=>Cq.ret a.1
def ZcF(d:Zb)(e:Zb)(a:Zb):Cq Zc:=
 Cq.bind (Zc2 d a) fun b=>Cq.bind (Zc2 e a) fun c=>Cq.ret (Zc.mk b c)
def Zct(c:Zb)(a:Zb):Cq Zc:=
 Cq.bind (Zf9 c a) fun b=>Cq.bind (ZdG a) fun d=>if d<0 then (Cq.bind (Zga b) fun e=>ZcF c a e) else (ZcF c a b)
def Zca(h:ZD)(a:Zb)(b:Zb)(c:Zb):Cq Zc:=
 if (Int.tmod h.k 8)=6 then (Cq.bind (Zb9 a b) fun d=>Cq.bind (Zb9 d b) fun e=>Cq.bind (Zct c e) fun f=>Cq.ret f) else (Cq.bind (Zct c a) fun g=>Cq.ret g)
def Zcb(b:ZD)(c:Zb)(d:Zb):Cq Zc:=
 Cq.bind (ZaW (i64.wrap (4611686018427387904+(i64.wrap b.k)))) fun a=>if (Int.tmod b.k 8)=7 then (Cq.bind (Zb9 c a) fun g=>Cq.bind (Zb9 g a) fun h=>Cq.bind (ZaW (i64.wrap b.k)) fun e=>Cq.bind (Zf8 h e) fun f=>Zca b d a f) else (Zca b d a c)
def Zfg(a:ZD):Cq Zc:=
 Cq.bind (ZaW (i64.wrap a.n)) fun b=>Cq.bind (ZaW (i64.wrap a.d)) fun e=>if a.d=0 then (Cq.bind (ZaW 1) fun c=>Zcb a b c) else (Zcb a b e)
def ZiS:Cq Bool:=
 Cq.ret true
def ZiR(a:(List (List Za)))(b:(List Zc)):Int->Cq (Bool⊕Unit):=
 Cq.loop fun f=>match f with|c=>if c<(a.length:Int) then (Cq.at' a c fun g=>Cq.bind (ZZ g b) fun d=>Cq.bind (ZbG d) fun e=>if e=0 then (Cq.ret (.inr (.inl false))) else (Cq.ret (.inl (i64.wrap (c+1))))) else (Cq.ret (.inr (.inr ())))
def ZiT(a:(List (List Za)))(b:(List Zc)):Cq Bool:=
 Cq.next (ZiR a b 0) fun d=>match d with | .inl c=>Cq.ret c | .inr ()=>ZiS
def ZcY(a:(List (List Za)))(b:(List Zc)):Int->Cq (Bool⊕Unit):=
 Cq.loop fun f=>match f with|c=>if c<(a.length:Int) then (Cq.at' a c fun g=>Cq.bind (ZZ g b) fun d=>Cq.bind (ZbG d) fun e=>if ¬ e=0 then (Cq.ret (.inr (.inl false))) else (Cq.ret (.inl (i64.wrap (c+1))))) else (Cq.ret (.inr (.inr ())))
def Zbc(c:(List (List Za)))(b:(List (List Za)))(a:(List Zc)):Cq Bool:=
 Cq.next (ZcY c a 0) fun e=>match e with | .inl d=>Cq.ret d | .inr ()=>ZiT b a
def Zeq(d:Bool)(a:Zn)(c:(List Zc)):Cq Bool:=
 Cq.bind (ZdI a) fun b=>if b.2=0 then (Cq.bind (ZeR a.eqs) fun e=>Cq.bind (ZeR a.neqs) fun f=>Cq.bind (Zbc e f c) fun g=>Cq.bind (Zbc b.1.eqs b.1.neqs c) fun h=>if g=h then (Cq.ret d) else (Cq.ret false)) else (Cq.ret false)
def ZaL(e:(List ZD)):(Int×(List Zc))->Cq (List Zc):=
 Cq.loop fun f=>match f with|(a,b)=>if a<8 then (Cq.bind (Zev 0) fun c=>Cq.at' b a fun h=>if a<3 then (Cq.at' e a fun g=>Cq.bind (Zfg g) fun d=>Cq.at' (b.set a.toNat c) a fun i=>Cq.ret (.inl (i64.wrap (a+1),(b.set a.toNat c).set a.toNat d))) else (Cq.ret (.inl (i64.wrap (a+1),b.set a.toNat c)))) else (Cq.ret (.inr b))
def ZcO(e:Zo)(b:(List ZD)):Cq Bool:=
 Cq.bind (Zdn) fun a=>if (!a)=true then (Cq.ret false) else (Cq.bind (ZfO e) fun c=>Cq.next (ZaL b (0,(List.replicate 8 (Zc.mk (Zb.mk false []) (Zb.mk false []))))) fun f=>match f with|d=>Zeq a c d)
end Go.EL

namespace Go.EL
open Go.IntKind (i8 i16 i32 i64 u8 u16 u32 u64)
open Go
namespace Cq
open Go.IntKind (i8 i16 i32 i64 u8 u16 u32 u64)
variable {α β σ ρ:Type}
theorem wp_ret{a:α}{p:α->Prop}:(Cq.ret a).wp p↔p a:=Iff.rfl
theorem Zj{q:Prop}[Decidable q]{c d:Cq α}{p:α->Prop}:(if q then c else d).wp p↔if q then c.wp p else d.wp p:=by split <;> rfl
theorem Zpp{A:σ->Prop}{Φ:ρ->Prop}{s:σ}:Out A Φ (.inl s)↔A s:=Iff.rfl
theorem Ret.then{c:Cq α}{a:α}(h:c.Ret a){p:α->Prop}(hp:p a):c.wp p:=c.mono (fun b e=>by rw[e]; exact hp) h
end Cq
theorem wrap64{x:Int}(h:-9223372036854775808<=x/\x<=9223372036854775807):i64.wrap x=x:=IntWalk.i64_in _ h
theorem getF8{a:Fin 8->Int}{i:Int}(h:0<=i/\i<8):getF a i=a ⟨i.toNat,by omega⟩:=Zfs a (by omega)
end Go.EL
namespace Go.EL
open Go.IntKind (i8 i16 i32 i64 u8 u16 u32 u64)
open Go
theorem ZcA(a b:M):(Zbd a b).Ret (cmpM a b):=by
 unfold Zbd
 by_cases h:a=b
 .rw[if_pos h]
  subst h
  exact (ZdM a).symm
 rw[if_neg h]
 have hne:∀ k:Nat,k<=8->(∀ j:Fin 8,j.val<k->a j=b j)->k<8:=fun k hk hj=>by
  rcases Nat.lt_or_ge k 8 with h1|h1
  .exact h1
  exact absurd (funext fun j=>hj j (by omega)) h
 refine Cq.Zij (I:=fun i:Int=>0<=i/\i<8/\∀ j:Fin 8,(j.val:Int)<i->a j=b j) (m:=fun i=>(8-i).toNat) (fun i hi=>?_) 0 ⟨by omega,by omega,fun j hj=>by omega⟩
 obtain⟨h0,h8,hj⟩:=hi
 refine⟨⟨h0,h8⟩,⟨h0,h8⟩,?_⟩
 rw[Cq.Zj,getF8 ⟨h0,h8⟩,getF8 ⟨h0,h8⟩]
 split
 .rename_i e
  have hj':∀ j:Fin 8,(j.val:Int)<i+1->a j=b j:=fun j hj1=>by
   by_cases h2:(j.val:Int)<i
   .exact hj j h2
   have:j=⟨i.toNat,by omega⟩:=Fin.ext (by simp; omega)
   rw[this]; exact e
  have:=hne (i+1).toNat (by omega) (fun j hj1=>hj' j (by omega))
  rw[Cq.wp_ret,Cq.Zpp,wrap64 (by omega)]
  exact⟨⟨by omega,by omega,hj'⟩,by omega⟩
 rename_i e
 refine⟨⟨h0,h8⟩,⟨h0,h8⟩,?_⟩
 rw[Cq.Zj,getF8 ⟨h0,h8⟩,getF8 ⟨h0,h8⟩]
 have hk:i.toNat<8:=by omega
 split
 .rename_i e2
  exact (Zl6 a b hk (fun j hj1=>hj j (by omega)) e2).symm
 rename_i e2
 exact (Zl5 a b hk (fun j hj1=>hj j (by omega)) (by omega)).symm
end Go.EL

namespace Go.EL
open Go.IntKind (i8 i16 i32 i64 u8 u16 u32 u64)
open Go
instance decInt:DecidableEq Zb:=fun ⟨a1,a2⟩ ⟨b1,b2⟩=>decidable_of_iff (a1=b1/\a2=b2) (by simp)
instance decRat:DecidableEq Zc:=fun ⟨a1,a2⟩ ⟨b1,b2⟩=>decidable_of_iff (a1=b1/\a2=b2) (by simp)
def ratI(n:Int):Zc:=⟨⟨decide (n<0),if n=0 then [] else [(n.natAbs:Int)]⟩,⟨false,[1]⟩⟩
def between(l h:Int)(p:Int->Bool):Bool:=(List.range (h-l+1).toNat).all fun k=>p (l+(k:Int))
theorem ZC{l h:Int}{p:Int->Bool}(hb:between l h p=true){x:Int}(h1:l<=x)(h2:x<=h):p x=true:=by
 have:=List.all_eq_true.1 hb (x-l).toNat (List.mem_range.2 (by omega))
 rwa [show l+((x-l).toNat:Int)=x by omega] at this
def runs{α:Type}[DecidableEq α](n:Nat)(c:Cq α)(a:α):Bool:=decide (c.ev n=some a)
theorem Z7{α:Type}[DecidableEq α]{n:Nat}{c:Cq α}{a:α}(h:runs n c a=true):c.Ret a:=Cq.Ret.ZG n (of_decide_eq_true h)
theorem Zof:(between (-8) 8 fun n=>runs 20 (Zbl n) (ratI n))=true:=by decide +kernel
theorem Zpu:(between (-12) 12 fun a=>between (-3) 3 fun b=>runs 30 (Zhs (ratI a) (ratI b)) (ratI (a+b)))=true:=by decide +kernel
theorem ZpS:(between (-3) 3 fun a=>runs 30 (Zjs (ratI a) (ratI 1)) (ratI a))=true:=by decide +kernel
theorem Zln:(between (-15) 15 fun a=>runs 30 (ZbR (ratI a)) (if a<0 then -1 else if a=0 then 0 else 1))=true:=by decide +kernel
theorem Zj2:(between (-12) 12 fun a=>a == 0 || runs 30 (ZH (ratI a)) (if a<0 then -1 else if a=0 then 0 else 1))=true:=by decide +kernel
theorem Zm4:(between (-12) 12 fun a=>a == 0 || runs 30 (Zcd (ratI a)) true)=true:=by decide +kernel
theorem Zpc:(between (-12) 12 fun a=>a == 0 || between (-12) 12 fun b=>b == 0 || runs 30 (Zb2 (ratI a) (ratI b)) (if a<b then -1 else if a=b then 0 else 1))=true:=by decide +kernel
end Go.EL

namespace Go.EL
open Go.IntKind (i8 i16 i32 i64 u8 u16 u32 u64)
open Go Go.RowKit
def mixM(k:Nat)(f a:M):M:=fun i=>if i.val<k then f i else a i
theorem Zk5{k:Nat}(f a:M)(h:k<8):setF (mixM k f a) k (f ⟨k,h⟩)=mixM (k+1) f a:=by
 funext i; unfold setF mixM
 by_cases e:i.val=k
 .have:i=⟨k,h⟩:=Fin.ext e
  subst this; simp
 have e1:(i.val<k+1)=(i.val<k):=by apply propext; omega
 simp[e,e1]
theorem ZnQ{k:Nat}(f a:M)(h:k<8):mixM k f a ⟨k,h⟩=a ⟨k,h⟩:=by unfold mixM; simp
theorem Zk6(f a:M):mixM 0 f a=a:=by funext i; simp[mixM]
theorem Zmb{k:Nat}(f a:M)(h:¬ k<8):mixM k f a=f:=by
 funext i
 have:i.val<k:=by omega
 simp[mixM,this]
theorem Zor{p:Fin 8->Prop}{k:Nat}(hall:∀ i:Fin 8,i.val<k->p i)(h:k<8)(hk:p ⟨k,h⟩):∀ i:Fin 8,i.val<k+1->p i:=fun i hi=>by
 by_cases e:i.val=k
 .have:i=⟨k,h⟩:=Fin.ext e
  rw[this]; exact hk
 exact hall i (by omega)
def Ok(a:M):Prop:=∀ i,0<=a i/\a i<=65535
def p2:Nat->Int
 | 0=>1
 | k+1=>2*p2 k
theorem Zqt:∀ {k:Nat},k<=8->1<=p2 k/\p2 k<=256
 | 0,_=>by decide
 | 1,_=>by decide
 | 2,_=>by decide
 | 3,_=>by decide
 | 4,_=>by decide
 | 5,_=>by decide
 | 6,_=>by decide
 | 7,_=>by decide
 | 8,_=>by decide
 | k+9,h=>by omega
theorem Zqu{k:Nat}(h:k<8):1<=p2 k/\p2 k<=128:=by
 have:=Zqt (k:=k+1) (by omega)
 simp only[p2] at this
 omega
theorem Zo1{k:Nat}(h:k<8):u8.wrap (1*2 ^ (min (k:Int).toNat u8.bits))=p2 k:=by
 match k,h with
 | 0,_=>decide|1,_=>decide|2,_=>decide|3,_=>decide|4,_=>decide|5,_=>decide|6,_=>decide|7,_=>decide
def suppTo(a:M):Nat->Int
 | 0=>0
 | k+1=>suppTo a k+(if h:k<8 then (if 0<a ⟨k,h⟩ then p2 k else 0) else 0)
def suppM(a:M):Int:=suppTo a 8
theorem Ze3(a:M):∀ k:Nat,0<=suppTo a k/\suppTo a k<p2 k
 | 0=>by simp[suppTo,p2]
 | k+1=>by
  have ih:=Ze3 a k
  simp only[suppTo,p2]
  split
  .split <;> omega
  omega
theorem Zna(a:M){k:Nat}(h:k<8)(ha:0<a ⟨k,h⟩):suppTo a k+p2 k=suppTo a (k+1):=by simp[suppTo,h,ha]
theorem Zoa(a:M){k:Nat}(h:k<8)(ha:¬ 0<a ⟨k,h⟩):suppTo a k=suppTo a (k+1):=by simp[suppTo,h,ha]
theorem ZnT:∀ k:Fin 8,∀ s:Fin 128,s.val<2 ^ k.val->u8.wrap (BitVec.ofInt u8.bits (s.val:Int) ||| BitVec.ofInt u8.bits (p2 k.val)).toNat=s.val+p2 k.val:=by decide +kernel
theorem Zfz:∀ k:Nat,p2 k=((2 ^ k:Nat):Int)
 | 0=>rfl
 | k+1=>by rw[p2,Zfz k,Nat.pow_succ]; omega
theorem Zqs{k:Nat}(h:k<8){s:Int}(h0:0<=s)(h1:s<p2 k):u8.wrap (BitVec.ofInt u8.bits s ||| BitVec.ofInt u8.bits (p2 k)).toNat=s+p2 k:=by
 obtain⟨n,rfl⟩:=Int.eq_ofNat_of_zero_le h0
 have h2:=Zqu h
 rw[Zfz] at h1
 exact ZnT ⟨k,h⟩ ⟨n,by rw[Zfz] at h2; omega⟩ (by simp; omega)
theorem Cq.Zq{σ ρ:Type}{step:σ->Cq (σ⊕ρ)}{Φ:ρ->Prop}(n:Nat)(I:Nat->σ->Prop)(h:∀ k s,k<n->I k s->(step s).wp (Out (fun s'=>I (k+1) s') Φ))(hend:∀ s,I n s->(step s).wp (Out (fun _=>False) Φ)):
  ∀ {s:σ},I 0 s->(Cq.loop step s).wp Φ:=by
 have key:∀ d k s,k+d=n->I k s->(Cq.loop step s).wp Φ:=by
  intro d
  induction d with
  | zero=>intro k s hk hs; rw[Nat.add_zero] at hk; subst hk; exact Cq.Zm ((step s).mono (Out.mono (fun _ h=>h.elim) (fun _ x=>x)) (hend s hs))
  | succ d ih=>intro k s hk hs; exact Cq.Zm ((step s).mono (Out.mono (fun s' h'=>ih (k+1) s' (by omega) h') (fun _ x=>x)) (h k s (by omega) hs))
 exact fun {s} hs=>key n 0 s (by omega) hs
theorem wrapN{k:Nat}(h:k<1000000000000):i64.wrap ((k:Int)+1)=((k+1:Nat):Int):=by rw[wrap64 (by omega)]; simp
theorem idxN{α:Type}{l:List α}{k:Nat}(h:k<l.length):(0:Int)<=(k:Int)/\l[(k:Int).toNat]? = some l[k]:=⟨by omega,by simp[h]⟩
theorem getFN{a:M}{k:Nat}(h:k<8):getF a (k:Int)=a ⟨k,h⟩:=by rw[getF8 (by omega)]; rfl
theorem ZlQ(m:M):(ZcB m).Ret (suppM m):=by
 show (Cq.loop _ _).wp _
 refine Cq.Zq 8 (fun k s=>s=(suppTo m k,(k:Int))) (fun k s hk hs=>?_) (fun s hs=>?_) rfl
 .subst hs
  refine Cq.wp.yes (p:=(k:Int)<8) (by omega) ?_
  refine⟨by omega,?_⟩
  rw[Cq.Zj,getFN hk]
  have hb:=Ze3 m k
  split
  .rename_i h
   refine⟨by omega,?_⟩
   show _=_
   rw[wrapN (by omega),Zo1 hk,Zqs hk hb.1 hb.2,Zna m hk h]
  rename_i h
  show _=_
  rw[wrapN (by omega),Zoa m hk h]
 subst hs
 refine Cq.wp.no (p:=((8:Nat):Int)<8) (by omega) ?_
 rfl
theorem ZhP(a b:M):(Zht a b).Ret (cmpM a b):=by
 refine Cq.Zq 8 (fun k s=>s=(k:Int)/\∀ i:Fin 8,i.val<k->a i=b i) (fun k s hk hs=>?_) (fun s hs=>?_) ⟨rfl,fun i hi=>by omega⟩
 .obtain⟨rfl,hi⟩:=hs
  rw[Cq.Zj,if_pos (by omega)]
  refine⟨by omega,by omega,?_⟩
  rw[Cq.Zj,getFN hk,getFN hk]
  split
  .rename_i h
   show _=_
   exact (Zl6 a b hk hi h).symm
  rename_i h
  refine⟨by omega,by omega,?_⟩
  rw[Cq.Zj]
  split
  .rename_i h2
   show _=_
   exact (Zl5 a b hk hi h2).symm
  exact⟨wrapN (by omega),Zor hi hk (by omega)⟩
 obtain⟨rfl,hi⟩:=hs
 rw[Cq.Zj,if_neg (by omega)]
 show _=_
 exact (Zl4 a b (fun i=>hi i i.isLt)).symm
theorem Zke{m:M}(h:Ok m):(ZgC m).Ret true:=by
 refine Cq.Zq 8 (fun k s=>s=(k:Int)) (fun k s hk hs=>?_) (fun s hs=>?_) rfl
 .subst hs
  have:=h ⟨k,hk⟩
  rw[Cq.Zj,if_pos (by omega)]
  refine⟨by omega,?_⟩
  rw[Cq.Zj,getFN hk,if_neg (by omega)]
  refine⟨by omega,?_⟩
  rw[Cq.Zj,if_neg (by omega)]
  exact wrapN (by omega)
 subst hs
 rw[Cq.Zj,if_neg (by omega)]
 rfl
theorem ZjL{m:M}(h:Ok m):(Zb8 m).Ret true:=by
 refine Cq.Zq 8 (fun k s=>s=(k:Int)) (fun k s hk hs=>?_) (fun s hs=>?_) rfl
 .subst hs
  have:=h ⟨k,hk⟩
  refine Cq.wp.yes (p:=(k:Int)<8) (by omega) ?_
  refine⟨by omega,?_⟩
  rw[Cq.Zj,getFN hk,if_neg (by omega),Cq.Zj,if_neg (by omega)]
  exact wrapN (by omega)
 subst hs
 refine Cq.wp.no (p:=((8:Nat):Int)<8) (by omega) ?_
 rfl
def degTo(m:M):Nat->Int
 | 0=>0
 | k+1=>degTo m k+(if h:k<8 then m ⟨k,h⟩ else 0)
def degM(m:M):Int:=degTo m 8
theorem ZfU{m:M}(h:Ok m):∀ k:Nat,0<=degTo m k/\degTo m k<=65535*k
 | 0=>by simp[degTo]
 | k+1=>by
  have ih:=ZfU h k
  simp only[degTo]
  split
  .rename_i hk; have:=h ⟨k,hk⟩; omega
  omega
theorem Zmo{m:M}(h:Ok m):(ZcZ m).Ret (degM m):=by
 refine Cq.Zq 8 (fun k s=>s=(degTo m k,(k:Int))) (fun k s hk hs=>?_) (fun s hs=>?_) rfl
 .subst hs
  have h1:=ZfU h k
  have h2:=h ⟨k,hk⟩
  refine Cq.wp.yes (p:=(k:Int)<8) (by omega) ?_
  refine⟨by omega,?_⟩
  show _=_
  rw[wrapN (by omega),getFN hk,wrap64 (by omega),degTo,dif_pos hk]
 subst hs
 refine Cq.wp.no (p:=((8:Nat):Int)<8) (by omega) ?_
 rfl
def mulM(a b:M):M:=fun i=>a i+b i
theorem ZlD{a b:M}(ha:Ok a)(hb:Ok b)(hab:Ok (mulM a b)):(Zjt a b).Ret (mulM a b,0):=by
 show (Cq.next _ _).wp _
 refine Cq.Zq 8 (fun k s=>s=((k:Int),mixM k (mulM a b) a)) (fun k s hk hs=>?_) (fun s hs=>?_) (by rw[Zk6]; rfl)
 .subst hs
  have h1:=ha ⟨k,hk⟩
  have h2:=hb ⟨k,hk⟩
  rw[Cq.Zj,if_pos (by omega)]
  refine⟨by omega,by omega,by omega,?_⟩
  show _=_
  rw[wrapN (by omega),getFN hk,getFN hk,ZnQ,wrap64 (by omega)]
  exact congrArg (Prod.mk _) (Zk5 (mulM a b) a hk)
 subst hs
 rw[Cq.Zj,if_neg (by omega),Zmb _ _ (by omega)]
 exact⟨true,Zke hab,rfl⟩
end Go.EL

namespace Go.EL
open Go.IntKind (i8 i16 i32 i64 u8 u16 u32 u64)
open Go Go.RowKit
theorem Zep{c:Zc}(h:goodC c=true):∃ n:Int,c=ratI n/\n≠0/\-12<=n/\n<=12:=by
 obtain⟨⟨ng,nm⟩,⟨dg,dm⟩⟩:=c
 unfold goodC at h
 dsimp only at h
 split at h
 .rename_i w d
  simp only[Bool.and_eq_true,Bool.not_eq_true',decide_eq_true_eq] at h
  obtain⟨⟨⟨h1,h2⟩,h3⟩,h4⟩:=h
  subst h1 h2
  cases ng with
  | true=>
   refine⟨-w,?_,by omega,by omega,by omega⟩
   unfold ratI
   rw[if_neg (by omega),decide_eq_true (by omega),show ((-w).natAbs:Int)=w by omega]
  | false=>
   refine⟨w,?_,by omega,by omega,by omega⟩
   unfold ratI
   rw[if_neg (by omega),decide_eq_false (by omega),show ((w).natAbs:Int)=w by omega]
 cases h
theorem Zat(n:Int):numC (ratI n)=n:=by
 unfold numC ratI
 by_cases h:n<0
 .rw[decide_eq_true h,if_pos rfl,if_neg (by omega)]; simp; omega
 rw[decide_eq_false h]
 by_cases h0:n=0
 .subst h0; rfl
 simp[h0]; omega
theorem ZmK{n:Int}(h0:n≠0)(h1:-12<=n)(h2:n<=12):goodC (ratI n)=true:=by
 unfold goodC ratI
 rw[if_neg h0]
 simp; omega
def cmpC(a b:Zc):Int:=if numC a<numC b then -1 else if numC a=numC b then 0 else 1
theorem ZkE{a b:Zc}(ha:goodC a=true)(hb:goodC b=true):(Zb2 a b).Ret (cmpC a b):=by
 obtain⟨m,rfl,m0,m1,m2⟩:=Zep ha
 obtain⟨n,rfl,n0,n1,n2⟩:=Zep hb
 have h:=ZC Zpc m1 m2
 have e0:(m == 0)=false:=by simpa using m0
 rw[e0,Bool.false_or] at h
 have h':=ZC h n1 n2
 have e1:(n == 0)=false:=by simpa using n0
 rw[e1,Bool.false_or] at h'
 have:=Z7 h'
 unfold cmpC
 rw[Zat,Zat]
 exact this
theorem Znl{a b:Zc}(ha:goodC a=true)(hb:goodC b=true)(h:cmpC a b=0):a=b:=by
 obtain⟨m,rfl,_⟩:=Zep ha
 obtain⟨n,rfl,_⟩:=Zep hb
 unfold cmpC at h
 rw[Zat,Zat] at h
 split at h
 .omega
 split at h
 .rename_i e; rw[e]
 omega
theorem Zow(a b:Zc):cmpC b a = - cmpC a b:=by unfold cmpC; split <;> split <;> (try split) <;> omega
theorem Zpy{a b:Zc}:cmpC a b<=0↔numC a<=numC b:=by unfold cmpC; split <;> (try split) <;> constructor <;> intro h <;> omega
theorem Zpz{a b:Zc}:cmpC a b<0↔numC a<numC b:=by unfold cmpC; split <;> (try split) <;> constructor <;> intro h <;> omega
theorem ZmG{a b c:Zc}(h1:cmpC a b<=0)(h2:cmpC b c<=0):cmpC a c<=0/\((cmpC a b<0\/cmpC b c<0)->cmpC a c<0):=by
 rw[Zpy] at *
 simp only[Zpz]
 omega
theorem ZfT(s t:Za):cmpT t s = - cmpT s t:=by
 unfold cmpT
 by_cases h:s.m=t.m
 .rw[if_pos h,if_pos h.symm]; exact Zow s.c t.c
 rw[if_neg h,if_neg (fun e=>h e.symm)]; exact Zbo _ _
theorem Zed(a b c:Za)(h1:cmpT a b<=0)(h2:cmpT b c<=0):cmpT a c<=0/\((cmpT a b<0\/cmpT b c<0)->cmpT a c<0):=by
 have nz:∀ {x y:Za},x.m≠y.m->cmpM x.m y.m<=0->cmpM x.m y.m<0:=fun h h'=>by
  rcases Int.lt_or_eq_of_le h' with h'|h'
  .exact h'
  exact absurd (ZbS h') h
 unfold cmpT at *
 by_cases e1:a.m=b.m
 .by_cases e2:b.m=c.m
  .rw[if_pos e1] at h1 ⊢; rw[if_pos e2] at h2 ⊢; rw[if_pos (e1.trans e2)]
   exact ZmG h1 h2
  rw[if_pos e1] at h1 ⊢; rw[if_neg e2] at h2 ⊢; rw[if_neg (fun e=>e2 (e1.symm.trans e))]
  have:=nz e2 h2
  rw[e1]
  exact⟨h2,fun _=>this⟩
 by_cases e2:b.m=c.m
 .rw[if_neg e1] at h1 ⊢; rw[if_pos e2] at h2 ⊢; rw[if_neg (fun e=>e1 (e.trans e2.symm))]
  have:=nz e1 h1
  rw[<- e2]
  exact⟨h1,fun _=>this⟩
 rw[if_neg e1] at h1 ⊢; rw[if_neg e2] at h2 ⊢
 have h1':=nz e1 h1
 have h3:=Zd0 h1 h2 (.inl h1')
 have:a.m≠c.m:=fun e=>by rw[e,ZdM] at h3; omega
 rw[if_neg this]
 exact⟨Int.le_of_lt h3,fun _=>h3⟩
theorem Znm{s t:Za}(hs:goodC s.c=true)(ht:goodC t.c=true)(h:cmpT s t=0):s=t:=by
 unfold cmpT at h
 have key:s.m=t.m/\s.c=t.c:=by
  by_cases e:s.m=t.m
  .rw[if_pos e] at h; exact⟨e,Znl hs ht h⟩
  rw[if_neg e] at h; exact absurd (ZbS h) e
 cases s; cases t
 simp only at key
 rw[key.1,key.2]
theorem Zaz:∀ p q:List Za,cmpP q p = - cmpP p q
 | [],[]=>rfl
 | [],_::_=>rfl
 | _::_,[]=>rfl
 | s::p,t::q=>by
  unfold cmpP
  rw[ZfT s t,Zaz p q]
  by_cases h:cmpT s t=0
  .rw[if_pos h,if_pos (by omega)]
  rw[if_neg h,if_neg (by omega)]
theorem Zb6:∀ a b c:List Za,cmpP a b<=0->cmpP b c<=0->cmpP a c<=0/\((cmpP a b<0\/cmpP b c<0)->cmpP a c<0)
 | [],[],[],h1,h2=>⟨by decide,fun h=>by rcases h with h|h <;> exact absurd h (by decide)⟩
 | [],[],_::_,h1,h2=>⟨by simp[cmpP],fun _=>by simp[cmpP]⟩
 | [],_::_,[],h1,h2=>by simp[cmpP] at h2
 | [],_::_,_::_,h1,h2=>⟨by simp[cmpP],fun _=>by simp[cmpP]⟩
 | _::_,[],_,h1,h2=>by simp[cmpP] at h1
 | _::_,_::_,[],h1,h2=>by simp[cmpP] at h2
 | s::a,t::b,u::c,h1,h2=>by
  have n1:=ZfT s t
  have ih:=Zb6 a b c
  have tr:=Zed s t u
  have tr1:=Zed t s u
  have tr2:=Zed s u t
  have n2:=ZfT t u
  have n3:=ZfT s u
  simp only[cmpP] at *
  by_cases e1:cmpT s t=0
  .rw[if_pos e1] at h1 ⊢
   by_cases e2:cmpT t u=0
   .rw[if_pos e2] at h2 ⊢
    have h3:cmpT s u=0:=by
     have q1:=(tr (by omega) (by omega)).1
     have q2:=(Zed u t s (by omega) (by omega)).1
     omega
    rw[if_pos h3]
    exact ih h1 h2
   rw[if_neg e2] at h2 ⊢
   have q1:=(tr (by omega) h2).2 (.inr (by omega))
   rw[if_neg (by omega)]
   exact⟨by omega,fun _=>q1⟩
  rw[if_neg e1] at h1 ⊢
  have e2:cmpT t u<=0:=by
   by_cases e2:cmpT t u=0
   .omega
   rw[if_neg e2] at h2; exact h2
  have q1:=(tr h1 e2).2 (.inl (by omega))
  rw[if_neg (by omega)]
  exact⟨by omega,fun _=>q1⟩
theorem ZeU(p:List Za):cmpP p p=0:=by have:=Zaz p p; omega
theorem ZiM{t:Za}{p:List Za}(h:goodP (t::p)=true):goodC t.c=true/\goodP p=true:=by
 unfold goodP at *
 simp only[Bool.and_eq_true,decide_eq_true_eq,List.length_cons,List.all_cons] at h ⊢
 exact⟨h.2.1,by omega,h.2.2⟩
theorem ZgP:∀ {p q:List Za},goodP p=true->goodP q=true->cmpP p q=0->p=q
 | [],[],_,_,_=>rfl
 | [],_::_,_,_,h=>by simp[cmpP] at h
 | _::_,[],_,_,h=>by simp[cmpP] at h
 | s::p,t::q,hp,hq,h=>by
  obtain⟨p1,p2⟩:=ZiM hp
  obtain⟨q1,q2⟩:=ZiM hq
  simp only[cmpP] at h
  by_cases e:cmpT s t=0
  .rw[if_pos e] at h
   rw[Znm p1 q1 e,ZgP p2 q2 h]
  rw[if_neg e] at h; exact absurd h e
abbrev GoodQ:={ p:List Za // goodP p=true }
theorem swoP:Go.Sort.SWO (Go.Proofs.ltOf fun a b:GoodQ=>cmpP a.1 b.1) where
 irrefl x:=by show decide (cmpP x.1 x.1<0)=false; rw[ZeU]; rfl
 trans x y z h1 h2:=by
  simp only[Go.Proofs.ltOf,decide_eq_true_eq] at *
  exact (Zb6 x.1 y.1 z.1 (by omega) (by omega)).2 (.inl h1)
 ntrans x y z h1 h2:=by
  simp only[Go.Proofs.ltOf,decide_eq_false_iff_not,Int.not_lt] at *
  have n1:=Zaz x.1 y.1
  have n2:=Zaz y.1 z.1
  have n3:=Zaz x.1 z.1
  have:=(Zb6 z.1 y.1 x.1 (by omega) (by omega)).1
  omega
theorem Zig(x:List Za):∀ l,(inP x l).Perm (x::l)
 | []=>List.Perm.refl _
 | y::l=>by
  unfold inP
  split
  .exact ((Zig x l).cons y).trans (List.Perm.swap x y l)
  exact List.Perm.refl _
theorem Zbm:∀ l,(ordP l).Perm l
 | []=>List.Perm.refl _
 | x::l=>(Zig x (ordP l)).trans ((Zbm l).cons x)
theorem ZiO(x:List Za):∀ l,l.Pairwise (fun a b=>cmpP a b<=0)->(inP x l).Pairwise (fun a b=>cmpP a b<=0)
 | [],_=>List.pairwise_singleton _ _
 | y::l,h=>by
  unfold inP
  obtain⟨h1,h2⟩:=List.pairwise_cons.1 h
  have n:=Zaz x y
  split
  .refine List.pairwise_cons.2 ⟨fun z hz=>?_,ZiO x l h2⟩
   rcases List.mem_cons.1 ((Zig x l).mem_iff.1 hz) with rfl|hz
   .omega
   exact h1 z hz
  refine List.pairwise_cons.2 ⟨fun z hz=>?_,h⟩
  rcases List.mem_cons.1 hz with rfl|hz
  .omega
  exact (Zb6 x y z (by omega) (h1 z hz)).1
theorem Zfj:∀ l,(ordP l).Pairwise (fun a b=>cmpP a b<=0)
 | []=>List.Pairwise.nil
 | x::l=>ZiO x _ (Zfj l)
theorem Zh6:∀ {l m:List (List Za)},l.Perm m->(∀ p ∈ l,goodP p=true)->l.Pairwise (fun a b=>cmpP a b<=0)->m.Pairwise (fun a b=>cmpP a b<=0)->l=m
 | [],m,h,_,_,_=>(List.Perm.nil_eq h)
 | x::l,[],h,_,_,_=>by have:=h.length_eq; simp at this
 | x::l,y::m,h,hg,h1,h2=>by
  obtain⟨a1,a2⟩:=List.pairwise_cons.1 h1
  obtain⟨b1,b2⟩:=List.pairwise_cons.1 h2
  have e:x=y:=by
   have hx:x ∈ y::m:=h.mem_iff.1 (by simp)
   have hy:y ∈ x::l:=h.mem_iff.2 (by simp)
   have q1:cmpP x y<=0:=by
    rcases List.mem_cons.1 hy with rfl|hy
    .rw[ZeU]; exact Int.le_refl 0
    exact a1 y hy
   have q2:cmpP y x<=0:=by
    rcases List.mem_cons.1 hx with rfl|hx
    .rw[ZeU]; exact Int.le_refl 0
    exact b1 x hx
   have n:=Zaz x y
   exact ZgP (hg x (by simp)) (hg y hy) (by omega)
  subst e
  rw[Zh6 (List.Perm.cons_inv h) (fun p hp=>hg p (by simp[hp])) a2 b2]
theorem Zom{s t:Za}(hs:goodC s.c=true)(ht:goodC t.c=true):(Zba s t).Ret (cmpT s t):=by
 unfold Zba cmpT
 by_cases h:s.m=t.m
 .rw[if_pos h]
  exact Cq.wp.no (by simpa using h) ⟨_,ZkE hs ht,rfl⟩
 rw[if_neg h]
 exact Cq.wp.yes h ⟨_,ZcA _ _,rfl⟩
theorem Zf3{p:List Za}(h:goodP p=true){k:Nat}(hk:k<p.length):goodC p[k].c=true:=by
 unfold goodP at h
 simp only[Bool.and_eq_true] at h
 exact List.all_eq_true.1 h.2 _ (List.getElem_mem hk)
theorem ZeW{p:List Za}(h:goodP p=true):p.length<=1000:=by
 unfold goodP at h
 simp only[Bool.and_eq_true,decide_eq_true_eq] at h
 exact h.1
theorem ZjP(p q:List Za){k:Nat}(hp:k<p.length)(hq:k<q.length):cmpP (p.drop k) (q.drop k)=if cmpT p[k] q[k]=0 then cmpP (p.drop (k+1)) (q.drop (k+1)) else cmpT p[k] q[k]:=by
 rw[List.drop_eq_getElem_cons hp,List.drop_eq_getElem_cons hq]
 rfl
theorem Zkj{p q:List Za}(hp:goodP p=true)(hq:goodP q=true):(Zdw p q).Ret (cmpP p q):=by
 have lp:=ZeW hp
 have lq:=ZeW hq
 refine⟨cmpP p q,?_,rfl⟩
 unfold Zr
 refine (Zx p q 0).mono (p:=fun o=>match o with | .inl v=>v=cmpP p q | .inr ()=>q.length ≥ p.length/\cmpP p q=cmpP [] (q.drop p.length)) (fun o h=>?_) (Cq.Zq p.length (fun k s=>s=(k:Int)/\k<=p.length/\k<=q.length/\cmpP p q=cmpP (p.drop k) (q.drop k)) ?_ ?_ ⟨rfl,Nat.zero_le _,Nat.zero_le _,rfl⟩)
 .match o,h with
  | .inl v,h=>exact h
  | .inr (),⟨h1,h2⟩=>
   show (Zp p q).Ret _
   unfold Zp
   by_cases hl:p.length<q.length
   .refine Cq.wp.yes (by omega) ?_
    show (-1:Int)=_
    rw[h2,List.drop_eq_getElem_cons hl]; rfl
   refine Cq.wp.no (by omega) ?_
   show (0:Int)=_
   rw[h2,List.drop_eq_nil_of_le (by omega)]; rfl
 .rintro k s hk ⟨rfl,h1,h2,h3⟩
  refine Cq.wp.yes (by omega) ⟨_,idxN hk,?_⟩
  by_cases hq2:k<q.length
  .refine Cq.wp.no (by omega) ⟨_,idxN hq2,_,Zom (Zf3 hp hk) (Zf3 hq hq2),?_⟩
   have hd:=ZjP p q hk hq2
   by_cases e:cmpT p[k] q[k]=0
   .rw[if_pos e] at hd
    refine Cq.wp.no (by omega) ?_
    exact⟨wrapN (by omega),by omega,by omega,h3.trans hd⟩
   rw[if_neg e] at hd
   refine Cq.wp.yes e ?_
   exact (h3.trans hd).symm
  refine Cq.wp.yes (by omega) ?_
  show (1:Int)=_
  rw[h3,List.drop_eq_getElem_cons hk,List.drop_eq_nil_of_le (show q.length<=k by omega)]; rfl
 rintro s ⟨rfl,h1,h2,h3⟩
 refine Cq.wp.no (by omega) ?_
 refine⟨h2,?_⟩
 rw[h3,List.drop_eq_nil_of_le (Nat.le_refl _)]
theorem ZjQ(y:List Za):∀ (x:List Za) (l:List (List Za)),dedG x (l++[y])=dedG x l++(if cmpP y (l.getLastD x)=0 then [] else [y])
 | x,[]=>by
  show dedG x [y]=_
  unfold dedG
  by_cases h:cmpP y x=0
  .rw[if_pos h]; simp[h,dedG]
  rw[if_neg h]; simp[h,dedG]
 | x,z::l=>by
  have ih:=ZjQ y z l
  show dedG x (z::(l++[y]))=_
  have e:(z::l).getLastD x=l.getLastD z:=by cases l <;> simp[List.getLastD]
  rw[e]
  simp only[dedG]
  split
  .exact ih
  rw[ih]; rfl
theorem ZjR{xs:List (List Za)}{j:Nat}(h0:1<=j)(hj:j<xs.length):dedP (xs.take (j+1))=if cmpP xs[j] xs[j-1]=0 then dedP (xs.take j) else dedP (xs.take j)++[xs[j]]:=by
 match xs,hj with
 | x::l,hj=>
  obtain⟨i,rfl⟩:∃ i,j=i+1:=⟨j-1,by omega⟩
  have hi:i<l.length:=by simpa using hj
  rw[List.take_succ_eq_append_getElem hj]
  simp only[List.take_succ_cons,List.cons_append,dedP,ZjQ,List.getElem_cons_succ,Nat.add_sub_cancel]
  have e:(l.take i).getLastD x=(x::l)[i]:=by
   cases i with
   | zero=>rfl
   | succ i=>
    rw[List.getLastD_eq_getLast?,List.getLast?_eq_getElem?,List.length_take]
    rw[show min (i+1) l.length-1=i by omega,List.getElem?_take_of_lt (by omega),List.getElem?_eq_getElem (by omega)]
    rfl
  rw[e]
  split <;> simp
theorem ZkP:∀ {xs:List (List Za)},(dedP xs).length<=xs.length
 | []=>Nat.le_refl _
 | x::l=>by
  have key:∀ (x:List Za) (l:List (List Za)),(dedG x l).length<=l.length:=by
   intro x l
   induction l generalizing x with
   | nil=>exact Nat.le_refl _
   | cons y l ih=>
    unfold dedG
    split
    .exact Nat.le_succ_of_le (ih y)
    simpa using ih y
  simpa [dedP] using key x l
theorem ZiJ{xs:List (List Za)}(h:xs.length<2):dedP xs=xs:=by
 match xs,h with
 | [],_=>rfl
 | [x],_=>rfl
theorem Znh{s t:Za}(hs:goodC s.c=true)(ht:goodC t.c=true):(ZaY s t).Ret (decide (cmpT s t=0)):=by
 unfold ZaY cmpT
 by_cases h:s.m=t.m
 .simp only[if_pos h]
  exact⟨_,ZkE hs ht,rfl⟩
 simp only[if_neg h]
 show false=_
 have:¬ cmpM s.m t.m=0:=fun e=>h (ZbS e)
 simp[this]
theorem ZkN:∀ {p q:List Za},cmpP p q=0->p.length=q.length
 | [],[],_=>rfl
 | [],_::_,h=>by simp[cmpP] at h
 | _::_,[],h=>by simp[cmpP] at h
 | s::p,t::q,h=>by
  simp only[cmpP] at h
  split at h
  .simp[ZkN h]
  rename_i h'; exact absurd h h'
theorem ZfQ{p q:List Za}(hp:goodP p=true)(hq:goodP q=true):(Zc7 p q).Ret (decide (cmpP p q=0)):=by
 have lp:=ZeW hp
 have lq:=ZeW hq
 refine⟨decide (cmpP p q=0),?_,rfl⟩
 unfold Zs
 by_cases hl:p.length=q.length
 .refine Cq.wp.no (by omega) ?_
  refine (Zy p q 0).mono (p:=fun o=>match o with | .inl v=>v=decide (cmpP p q=0) | .inr ()=>cmpP p q=0) (fun o h=>?_) (Cq.Zq p.length (fun k s=>s=(k:Int)/\k<=p.length/\cmpP p q=cmpP (p.drop k) (q.drop k)) ?_ ?_ ⟨rfl,Nat.zero_le _,rfl⟩)
  .match o,h with
   | .inl v,h=>exact h
   | .inr (),h=>show true=_; rw[decide_eq_true h]
  .rintro k s hk ⟨rfl,h1,h3⟩
   have hq2:k<q.length:=by omega
   refine Cq.wp.yes (by omega) ⟨_,idxN hk,_,idxN hq2,_,Znh (Zf3 hp hk) (Zf3 hq hq2),?_⟩
   have hd:=ZjP p q hk hq2
   by_cases e:cmpT p[k] q[k]=0
   .rw[if_pos e] at hd
    rw[decide_eq_true e]
    exact⟨wrapN (by omega),by omega,h3.trans hd⟩
   rw[if_neg e] at hd
   rw[decide_eq_false e]
   show false=_
   rw[h3,hd,decide_eq_false e]
  rintro s ⟨rfl,h1,h3⟩
  refine Cq.wp.no (by omega) ?_
  show cmpP p q=0
  rw[h3,List.drop_eq_nil_of_le (Nat.le_refl _),List.drop_eq_nil_of_le (by omega)]
  rfl
 refine Cq.wp.yes (by omega) ?_
 show false=_
 rw[decide_eq_false (fun h=>hl (ZkN h))]
theorem Zot:(between 0 100 fun n=>match (Zak (u64.wrap n)).ev 30 with|some v=>decide (0<=v/\v<1000000)|none=>false)=true:=by decide +kernel
theorem Zou{n:Nat}(h:n<=100):∃ v,(Zak (u64.wrap (n:Int))).Ret v/\0<=v/\v<1000000:=by
 have:=ZC Zot (show (0:Int)<=(n:Int) by omega) (show (n:Int)<=100 by omega)
 cases he:(Zak (u64.wrap (n:Int))).ev 30 with
 | none=>rw[he] at this; cases this
 | some v=>rw[he] at this; exact⟨v,Cq.Ret.ZG 30 he,of_decide_eq_true this⟩
end Go.EL

namespace Go.EL
open Go.IntKind (i8 i16 i32 i64 u8 u16 u32 u64)
open Go Go.RowKit
structure TermOk (t:Za):Prop where
 c:∃ c:Int,t.c=ratI c/\c≠0/\-12<=c/\c<=12
 m:Ok t.m
structure PolOk (p:List Za):Prop where
 ord:p.Pairwise fun x y=>0<cmpM x.m y.m
 trm:∀ t ∈ p,TermOk t
 len:p.length<=100
theorem TermOk.pv{t:Za}(h:TermOk t):(Zcd t.c).Ret true:=by
 obtain⟨⟨c,e,h0,h1,h2⟩,_⟩:=h
 have:=ZC Zm4 (x:=c) (by omega) (by omega)
 rw[e]
 exact Z7 (by simpa [h0] using this)
theorem TermOk.ps{t:Za}(h:TermOk t):∃ s,(ZH t.c).Ret s/\s≠0:=by
 obtain⟨⟨c,e,h0,h1,h2⟩,_⟩:=h
 have:=ZC Zj2 (x:=c) (by omega) (by omega)
 rw[e]
 refine⟨_,Z7 (by simpa [h0] using this),?_⟩
 split <;> first|omega|(split <;> omega)
theorem PolOk.at{p:List Za}(h:PolOk p){k:Nat}(hk:k<p.length):TermOk p[k]:=h.trm _ (List.getElem_mem hk)
theorem PolOk.step{p:List Za}(h:PolOk p){k:Nat}(hk:k+1<p.length):0<cmpM p[k].m p[k+1].m:=List.pairwise_iff_getElem.1 h.ord k (k+1) (by omega) hk (by omega)
theorem Zc8{p:List Za}(h:PolOk p):(Zbt p).Ret true:=by
 have hl:=h.len
 refine Cq.Zq p.length (fun k s=>s=(k:Int)) (fun k s hk hs=>?_) (fun s hs=>?_) rfl
 .subst hs
  have ht:=h.at hk
  obtain⟨s,h1,h2⟩:=ht.ps
  refine Cq.wp.yes (p:=(k:Int)<(p.length:Int)) (by omega) ?_
  refine⟨p[k],idxN hk,true,ht.pv,s,h1,?_⟩
  rw[Cq.Zj,if_neg h2]
  refine⟨true,ZjL ht.m,?_⟩
  rw[Cq.Zj,if_neg (by decide)]
  show (ZaS p (k:Int) p[k]).wp _
  unfold ZaS
  rw[Cq.Zj]
  split
  .rename_i h0
   obtain⟨j,rfl⟩:∃ j,k=j+1:=⟨k-1,by omega⟩
   have hj:i64.wrap (((j+1:Nat):Int)-1)=(j:Int):=by rw[wrap64 (by omega)]; omega
   rw[hj]
   refine⟨p[j],idxN (by omega),_,ZcA _ _,?_⟩
   have:=h.step hk
   rw[Cq.Zj,if_neg (by omega)]
   exact wrapN (by omega)
  exact wrapN (by omega)
 subst hs
 refine Cq.wp.no (p:=((p.length:Nat):Int)<(p.length:Int)) (by omega) ?_
 rfl
def usesTo(p:List Za):Nat->Int
 | 0=>0
 | k+1=>u8.wrap (BitVec.ofInt u8.bits (usesTo p k) ||| BitVec.ofInt u8.bits (match p[k]? with|some t=>suppM t.m|none=>0)).toNat
def usesP(p:List Za):Int:=usesTo p p.length
def degPTo(p:List Za):Nat->Int
 | 0=>-1
 | k+1=>match p[k]? with|some t=>if degPTo p k<degM t.m then degM t.m else degPTo p k|none=>degPTo p k
def degP(p:List Za):Int:=degPTo p p.length
theorem ZkH{p:List Za}(hl:p.length<=100):(ZbN p).Ret (usesP p):=by
 refine Cq.Zq p.length (fun k s=>s=(usesTo p k,(k:Int))) (fun k s hk hs=>?_) (fun s hs=>?_) rfl
 .subst hs
  refine Cq.wp.yes (p:=(k:Int)<(p.length:Int)) (by omega) ?_
  refine⟨p[k],idxN hk,_,ZlQ _,?_⟩
  show _=_
  rw[wrapN (by omega)]
  simp only[usesTo,List.getElem?_eq_getElem hk]
 subst hs
 refine Cq.wp.no (p:=((p.length:Nat):Int)<(p.length:Int)) (by omega) ?_
 rfl
theorem ZdB{p:List Za}(h:PolOk p):(Zai p).Ret (degP p):=by
 have hl:=h.len
 refine Cq.Zq p.length (fun k s=>s=(degPTo p k,(k:Int))) (fun k s hk hs=>?_) (fun s hs=>?_) rfl
 .subst hs
  refine Cq.wp.yes (p:=(k:Int)<(p.length:Int)) (by omega) ?_
  refine⟨p[k],idxN hk,_,Zmo (h.at hk).m,?_⟩
  show _=_
  rw[wrapN (by omega)]
  simp only[degPTo,List.getElem?_eq_getElem hk]
 subst hs
 refine Cq.wp.no (p:=((p.length:Nat):Int)<(p.length:Int)) (by omega) ?_
 rfl
end Go.EL

namespace Go.EL
open Go.IntKind (i8 i16 i32 i64 u8 u16 u32 u64)
open Go Go.RowKit
def fitB(p:List Za)(n:Int):Bool:=if (Int.fdiv (i64.wrap (usesP p)) (2 ^ (min (n).toNat i64.bits)))=0 then decide (degP p<=12) else false
theorem Ze7{p:List Za}(h:PolOk p){n:Int}(hn:0<=n):(ZdJ p n).Ret (fitB p n):=by
 refine⟨true,Zc8 h,_,ZkH h.len,hn,?_⟩
 unfold fitB
 rw[Cq.Zj]
 split
 .exact⟨_,ZdB h,rfl⟩
 rfl
theorem Zje(a:M):∀ k:Nat,k<=8->∀ i:Fin 8,(suppTo a k).toNat.testBit i.val=(decide (i.val<k) && decide (0<a i))
 | 0,_,i=>by simp[suppTo]
 | k+1,hk,i=>by
  have ih:=Zje a k (by omega) i
  have hb:=Ze3 a k
  have hk':k<8:=by omega
  rw[Zfz] at hb
  simp only[suppTo,dif_pos hk']
  by_cases hi:i.val=k
  .have e:i=⟨k,hk'⟩:=Fin.ext hi
   subst e
   by_cases hp:0<a ⟨k,hk'⟩
   .rw[if_pos hp,Zfz,show (suppTo a k+((2 ^ k:Nat):Int)).toNat=2 ^ k+(suppTo a k).toNat by omega,Nat.testBit_two_pow_add_eq,Nat.testBit_lt_two_pow (by omega)]
    simp[hp]
   rw[if_neg hp,Int.add_zero]
   show (suppTo a k).toNat.testBit k=_
   rw[Nat.testBit_lt_two_pow (by omega)]
   simp[hp]
  have e1:(decide (i.val<k+1))=decide (i.val<k):=by
   by_cases h:i.val<k
   .simp[h,show i.val<k+1 by omega]
   simp[h,show ¬ i.val<k+1 by omega]
  rw[e1,<- ih]
  by_cases hp:0<a ⟨k,hk'⟩
  .rw[if_pos hp,Zfz,show (suppTo a k+((2 ^ k:Nat):Int)).toNat=2 ^ k+(suppTo a k).toNat by omega]
   by_cases h:i.val<k
   .rw[Nat.testBit_two_pow_add_gt h]
   rw[Nat.testBit_lt_two_pow (x:=(suppTo a k).toNat) (Nat.lt_of_lt_of_le (by omega:(suppTo a k).toNat<2 ^ k) (Nat.pow_le_pow_right (by omega) (by omega)))]
   refine Nat.testBit_lt_two_pow (Nat.lt_of_lt_of_le (by have:=hb.2; omega:2 ^ k+(suppTo a k).toNat<2 ^ (k+1)) (Nat.pow_le_pow_right (by omega) (by omega)))
  rw[if_neg hp,Int.add_zero]
theorem Zn9(a:M)(i:Fin 8):(suppM a).toNat.testBit i.val=decide (0<a i):=by
 unfold suppM
 rw[Zje a 8 (by omega)]
 simp[i.isLt]
theorem Zls(a:M):0<=suppM a/\suppM a<256:=Ze3 a 8
theorem Zpl{a b:Nat}(ha:a<256)(hb:b<256):u8.wrap (BitVec.ofInt u8.bits (a:Int) ||| BitVec.ofInt u8.bits (b:Int)).toNat=((a ||| b:Nat):Int):=by
 have h:(BitVec.ofInt u8.bits (a:Int) ||| BitVec.ofInt u8.bits (b:Int)).toNat=a ||| b:=by
  rw[BitVec.toNat_or]
  simp only[IntKind.bits,BitVec.toNat_ofInt]
  rw[show (((a:Int) % ((2 ^ 8:Nat):Int)).toNat)=a by omega,show (((b:Int) % ((2 ^ 8:Nat):Int)).toNat)=b by omega]
 have h2:a ||| b<256:=Nat.or_lt_two_pow (n:=8) ha hb
 rw[h]
 simp only[IntKind.wrap,IntKind.bits,IntKind.signed,Bool.false_and,Bool.false_eq_true,if_false]
 omega
def usesN(p:List Za):Nat->Nat
 | 0=>0
 | k+1=>usesN p k ||| (match p[k]? with|some t=>(suppM t.m).toNat|none=>0)
theorem Ziv(p:List Za):∀ k,usesN p k<256
 | 0=>by simp[usesN]
 | k+1=>by
  refine Nat.or_lt_two_pow (n:=8) (Ziv p k) ?_
  split
  .rename_i t _
   have h:(suppM t.m).toNat<256:=by have:=Zls t.m; omega
   exact h
  decide
theorem Zjk(p:List Za):∀ k,usesTo p k=(usesN p k:Int)
 | 0=>rfl
 | k+1=>by
  have h1:=Ziv p k
  unfold usesTo usesN
  rw[Zjk p k]
  cases p[k]? with
  | none=>exact Zpl (b:=0) h1 (by omega)
  | some t=>
   have h:=Zls t.m
   obtain⟨n,hn⟩:=Int.eq_ofNat_of_zero_le h.1
   show u8.wrap (BitVec.ofInt u8.bits (usesN p k:Int) ||| BitVec.ofInt u8.bits (suppM t.m)).toNat=((usesN p k ||| (suppM t.m).toNat:Nat):Int)
   rw[hn]
   exact Zpl h1 (by omega)
theorem Zj4(p:List Za)(i:Fin 8):∀ k,(usesN p k).testBit i.val=(p.take k).any fun t=>decide (0<t.m i)
 | 0=>by simp[usesN]
 | k+1=>by
  simp only[usesN,Nat.testBit_or,Zj4 p i k]
  cases h:p[k]? with
  | none=>
   have:p.length<=k:=List.getElem?_eq_none_iff.1 h
   simp[List.take_of_length_le this,List.take_of_length_le (show p.length<=k+1 by omega)]
  | some t=>
   rw[List.take_add_one,h]
   simp[Zn9]
theorem Zj6(p:List Za):usesP p=(usesN p p.length:Int):=Zjk p _
theorem Zj5(p:List Za)(i:Fin 8):(usesP p).toNat.testBit i.val=p.any fun t=>decide (0<t.m i):=by
 rw[Zj6,Int.toNat_natCast,Zj4,List.take_length]
theorem Zlu(p:List Za):0<=usesP p/\usesP p<256:=by have:=Ziv p p.length; rw[Zj6]; omega
theorem ZoB(u n:Nat):Int.fdiv (u:Int) ((2:Int) ^ n)=((u >>> n:Nat):Int):=by
 rw[Nat.shiftRight_eq_div_pow,show ((2:Int) ^ n)=((2 ^ n:Nat):Int) by simp,Int.fdiv_eq_ediv_of_nonneg _ (Int.natCast_nonneg _)]
 simp
theorem Zm5(p:List Za){n:Int}(h0:0<=n)(h8:n<=8):Int.fdiv (i64.wrap (usesP p)) (2 ^ (min (n).toNat i64.bits))=(((usesP p).toNat >>> n.toNat:Nat):Int):=by
 have:=Zlu p
 rw[wrap64 (by omega),show min n.toNat i64.bits=n.toNat by simp only[IntKind.bits]; omega]
 obtain⟨u,hu⟩:=Int.eq_ofNat_of_zero_le this.1
 rw[hu]
 exact ZoB u _
theorem ZjS(p:List Za)(d:Int)(hd:-1<=d):∀ k,k<=p.length->(degPTo p k<=d↔∀ i (h:i<p.length),i<k->degM p[i].m<=d)
 | 0,_=>by simp[degPTo,hd]
 | k+1,hk=>by
  have ih:=ZjS p d hd k (by omega)
  have hk':k<p.length:=by omega
  simp only[degPTo,List.getElem?_eq_getElem hk']
  constructor
  .intro h i hi hik
   by_cases e:i=k
   .subst e; split at h <;> omega
   refine ih.1 ?_ i hi (by omega)
   split at h <;> omega
  intro h
  have h1:=h k hk' (by omega)
  have h2:=ih.2 fun i hi hik=>h i hi (by omega)
  split <;> omega
theorem Zdi{p:List Za}{d:Int}(hd:-1<=d):degP p<=d↔∀ t ∈ p,degM t.m<=d:=by
 unfold degP
 rw[ZjS p d hd p.length (by omega)]
 constructor
 .intro h t ht
  obtain⟨i,hi,rfl⟩:=List.mem_iff_getElem.1 ht
  exact h i hi hi
 intro h i hi _
 exact h _ (List.getElem_mem hi)
def Within(n:Nat)(p:List Za):Prop:=∀ t ∈ p,∀ i:Fin 8,n<=i.val->¬ 0<t.m i
theorem Zjl{p:List Za}{n:Nat}:((usesP p).toNat >>> n=0)↔Within n p:=by
 have hb:=Zlu p
 constructor
 .intro h t ht i hi hp
  have h1:=Zj5 p i
  rw[show (p.any fun t=>decide (0<t.m i))=true from List.any_eq_true.2 ⟨t,ht,decide_eq_true hp⟩] at h1
  have h2:((usesP p).toNat >>> n).testBit (i.val-n)=true:=by rw[Nat.testBit_shiftRight,show n+(i.val-n)=i.val by omega]; exact h1
  rw[h] at h2
  simp at h2
 intro h
 refine Nat.eq_of_testBit_eq fun j=>?_
 rw[Nat.testBit_shiftRight,Nat.zero_testBit]
 by_cases hj:n+j<8
 .rw[Zj5 p ⟨n+j,hj⟩]
  refine List.any_eq_false.2 fun t ht=>?_
  simp only[decide_eq_true_eq]
  exact h t ht _ (by simp)
 exact Nat.testBit_lt_two_pow (Nat.lt_of_lt_of_le (show (usesP p).toNat<2 ^ 8 by omega) (Nat.pow_le_pow_right (by omega) (by omega)))
theorem Zdk{p:List Za}{n:Nat}(hn:n<=8):fitB p (n:Int)=true↔Within n p/\∀ t ∈ p,degM t.m<=12:=by
 unfold fitB
 rw[Zm5 p (by omega) (by omega),Int.toNat_natCast]
 by_cases h:(usesP p).toNat >>> n=0
 .rw[if_pos (by rw[h]; rfl),decide_eq_true_eq,Zdi (by omega)]
  exact⟨fun k=>⟨Zjl.1 h,k⟩,fun k=>k.2⟩
 rw[if_neg (by omega)]
 exact⟨fun k=>absurd k (by decide),fun k=>absurd (Zjl.2 k.1) h⟩
end Go.EL

namespace Go.EL
open Go.IntKind (i8 i16 i32 i64 u8 u16 u32 u64)
open Go Go.RowKit
def valR(r:Zc):Int:=if r.num.neg=true then -(r.num.mag.headD 0) else r.num.mag.headD 0
theorem Zhr(c:Int):valR (ratI c)=c:=by
 unfold valR ratI
 by_cases h:c<0
 .simp[h,show ¬ c=0 by omega]; omega
 by_cases h0:c=0
 .simp[h0]
 simp[h,h0]; omega
def addT:List Za->Za->List Za
 | [],t=>[t]
 | x::xs,t=>if 0<cmpM x.m t.m then x::addT xs t else if cmpM x.m t.m<0 then t::x::xs else if valR x.c+valR t.c=0 then xs else ⟨ratI (valR x.c+valR t.c),x.m⟩::xs
theorem ZhT:∀ (p:List Za) (t:Za),(addT p t).length<=p.length+1
 | [],_=>by simp[addT]
 | x::xs,t=>by
  have ih:=ZhT xs t
  simp only[addT]
  split
  .simp; omega
  split
  .simp
  split <;> simp; omega
theorem ZgJ:∀ (k:Nat) (p:List Za) (t:Za),k<=p.length->(∀ x ∈ p.take k,0<cmpM x.m t.m)->addT p t=p.take k++addT (p.drop k) t
 | 0,p,t,_,_=>by simp
 | k+1,[],t,h,_=>by simp at h
 | k+1,x::xs,t,h,hx=>by
  have h1:0<cmpM x.m t.m:=hx x (by simp)
  rw[addT,if_pos h1,ZgJ k xs t (by simpa using h) (fun y hy=>hx y (by simp[hy]))]
  simp
def Near(p:List Za)(t:Za):Prop:=∀ x ∈ p,x.m=t.m->∃ a b,x.c=ratI a/\t.c=ratI b/\-12<=a/\a<=12/\-3<=b/\b<=3
theorem ZoU{p:List Za}{t x:Za}(h:Near p t)(hx:x ∈ p)(hm:x.m=t.m):(Zhs x.c t.c).Ret (ratI (valR x.c+valR t.c))/\∃ s,(ZbR (ratI (valR x.c+valR t.c))).Ret s/\(s=0↔valR x.c+valR t.c=0):=by
 obtain⟨a,b,e1,e2,h1,h2,h3,h4⟩:=h x hx hm
 rw[e1,e2,Zhr,Zhr]
 have k1:=ZC (ZC Zpu h1 h2) h3 h4
 have k2:=ZC Zln (x:=a+b) (by omega) (by omega)
 refine⟨Z7 k1,_,Z7 k2,?_⟩
 split
 .omega
 split <;> omega
theorem ZlE{p:List Za}(hl:p.length<=100):(Zdg p []).Ret p:=by
 show (Cq.next _ _).wp _
 refine Cq.Zq p.length (fun k s=>s=(p.take k,(k:Int),0)) (fun k s hk hs=>?_) (fun s hs=>?_) (by simp)
 .subst hs
  refine Cq.wp.yes (p:=(k:Int)<(p.length:Int)) (by omega) ?_
  unfold Zbn
  rw[Cq.Zj,if_pos (by simp)]
  unfold ZaV
  rw[Cq.Zj,if_pos rfl]
  refine⟨p[k],idxN hk,by simp[small]; omega,?_⟩
  show _=_
  rw[wrapN (by omega),List.take_append_getElem hk]
 subst hs
 show (if ((p.length:Nat):Int)<(p.length:Int) then _ else _:Cq _).wp _
 rw[Cq.Zj,if_neg (by omega),Cq.Zj,if_neg (by simp)]
 exact List.take_length
theorem ZlF{p:List Za}{t:Za}(hl:p.length<=100)(hn:Near p t):(Zdg p [t]).Ret (addT p t):=by
 show (Cq.next _ _).wp _
 refine Cq.Zij (fun s=>(∃ i:Nat,i<=p.length/\s=(p.take i,(i:Int),0)/\∀ x ∈ p.take i,0<cmpM x.m t.m)\/(∃ i:Nat,∃ out:List Za,i<=p.length/\s=(out,(i:Int),1)/\out++p.drop i=addT p t/\out.length<=i+1))
  (fun s=>(p.length-s.2.1.toNat)+(1-s.2.2.toNat)) (fun s hs=>?_) _ (.inl ⟨0,by omega,by simp,by simp⟩)
 have hw:i64.wrap 1=1:=by decide
 rcases hs with ⟨i,hi,rfl,hx⟩|⟨i,out,hi,rfl,ho,hlo⟩
 .by_cases hil:i<p.length
  .refine Cq.wp.yes (p:=(i:Int)<(p.length:Int)) (by omega) ?_
   unfold Zbn
   rw[Cq.Zj,if_neg (by simp),Cq.Zj,if_pos (by omega)]
   refine⟨p[i],idxN hil,t,⟨by omega,rfl⟩,_,ZhP _ _,?_⟩
   unfold ZaV
   rw[Cq.Zj]
   have hadd:addT p t=p.take i++addT (p.drop i) t:=ZgJ i p t hi hx
   have hdrop:p.drop i=p[i]::p.drop (i+1):=List.drop_eq_getElem_cons hil
   by_cases hc:0<cmpM p[i].m t.m
   .rw[if_pos (decide_eq_true hc)]
    refine⟨p[i],idxN hil,by simp[small]; omega,?_⟩
    rw[wrapN (by omega),List.take_append_getElem hil]
    refine⟨.inl ⟨i+1,by omega,rfl,fun x hx'=>?_⟩,by simp; omega⟩
    rw[<- List.take_append_getElem hil] at hx'
    rcases List.mem_append.1 hx' with h|h
    .exact hx x h
    rw[List.mem_singleton] at h; subst h; exact hc
   rw[if_neg (by simpa using hc)]
   show (ZcU p [t] 0 (p.take i) (i:Int)).wp _
   unfold ZcU
   rw[Cq.Zj,if_neg (by omega)]
   refine⟨p[i],idxN hil,t,⟨by omega,rfl⟩,_,ZhP _ _,?_⟩
   unfold ZcT
   rw[Cq.Zj]
   by_cases hc2:cmpM p[i].m t.m<0
   .rw[if_pos (decide_eq_true hc2)]
    refine⟨t,⟨by omega,rfl⟩,by simp[small]; omega,?_⟩
    refine⟨.inr ⟨i,_,hi,rfl,?_,by simp; omega⟩,by simp[hw]⟩
    rw[hadd,hdrop,addT,if_neg hc,if_pos hc2]
    simp
   rw[if_neg (by simpa using hc2)]
   have hm:p[i].m=t.m:=ZbS (by omega)
   obtain⟨h1,s,h2,h3⟩:=ZoU hn (List.getElem_mem hil) hm
   unfold ZfN
   refine⟨p[i],idxN hil,t,⟨by omega,rfl⟩,_,h1,s,h2,?_⟩
   rw[Cq.Zj]
   by_cases h0:valR p[i].c+valR t.c=0
   .rw[if_neg (by simpa using h3.2 h0)]
    rw[wrapN (by omega)]
    refine⟨.inr ⟨i+1,_,by omega,rfl,?_,by simp; omega⟩,by simp; omega⟩
    rw[hadd,hdrop,addT,if_neg hc,if_neg hc2,if_pos h0]
   rw[if_pos (fun h=>h0 (h3.1 h))]
   refine⟨p[i],idxN hil,by simp[small]; omega,?_⟩
   rw[wrapN (by omega)]
   refine⟨.inr ⟨i+1,_,by omega,rfl,?_,by simp; omega⟩,by simp; omega⟩
   rw[hadd,hdrop,addT,if_neg hc,if_neg hc2,if_neg h0]
   simp
  obtain rfl:i=p.length:=by omega
  show (if ((p.length:Nat):Int)<(p.length:Int) then _ else _:Cq _).wp _
  rw[Cq.Zj,if_neg (by omega),Cq.Zj,if_pos (by simp)]
  unfold Zbn
  rw[Cq.Zj,if_neg (by simp),Cq.Zj,if_neg (by omega)]
  unfold ZaV
  rw[Cq.Zj,if_neg (by decide)]
  unfold ZcU
  rw[Cq.Zj,if_pos rfl]
  unfold ZcT
  rw[Cq.Zj,if_pos rfl]
  refine⟨t,⟨by omega,rfl⟩,by simp[small]; omega,?_⟩
  refine⟨.inr ⟨p.length,_,by omega,rfl,?_,by simp⟩,by simp[hw]⟩
  rw[ZgJ p.length p t (by omega) hx,List.drop_length]
  simp[addT]
 by_cases hil:i<p.length
 .refine Cq.wp.yes (p:=(i:Int)<(p.length:Int)) (by omega) ?_
  unfold Zbn
  rw[Cq.Zj,if_pos (by simp)]
  unfold ZaV
  rw[Cq.Zj,if_pos rfl]
  refine⟨p[i],idxN hil,by simp[small]; omega,?_⟩
  rw[wrapN (by omega)]
  refine⟨.inr ⟨i+1,_,by omega,rfl,?_,by simp; omega⟩,by simp; omega⟩
  rw[<- ho,List.drop_eq_getElem_cons hil]
  simp
 obtain rfl:i=p.length:=by omega
 show (if ((p.length:Nat):Int)<(p.length:Int) then _ else _:Cq _).wp _
 rw[Cq.Zj,if_neg (by omega),Cq.Zj,if_neg (by simp)]
 show _=_
 rw[<- ho,List.drop_length,List.append_nil]
end Go.EL

namespace Go.EL
open Go.IntKind (i8 i16 i32 i64 u8 u16 u32 u64)
open Go Go.RowKit
structure IsPerm (π:M):Prop where
 rng:∀ i,0<=π i/\π i<8
 inj:∀ i j,π i=π j->i=j
def permTo(π m:M):Nat->M
 | 0=>fun _=>0
 | k+1=>if h:k<8 then setF (permTo π m k) (π ⟨k,h⟩).toNat (m ⟨k,h⟩) else permTo π m k
def permM(π m:M):M:=permTo π m 8
theorem ZjZ{π:M}(h:IsPerm π)(m:M):∀ k,k<=8->∀ i:Fin 8,i.val<k->∀ j:Fin 8,(j.val:Int)=π i->permTo π m k j=m i
 | 0,_,i,hi,_,_=>by omega
 | k+1,hk,i,hi,j,hj=>by
  have hk':k<8:=by omega
  simp only[permTo,dif_pos hk',setF]
  have r:=h.rng ⟨k,hk'⟩
  by_cases e:i.val=k
  .have:i=⟨k,hk'⟩:=Fin.ext e
   subst this
   rw[if_pos (by omega)]
  have hne:π i≠π ⟨k,hk'⟩:=fun he=>e (congrArg Fin.val (h.inj _ _ he))
  rw[if_neg (by omega)]
  exact ZjZ h m k (by omega) i (by omega) j hj
theorem Zh2{π:M}(h:IsPerm π)(m:M):∀ k,k<=8->∀ j:Fin 8,(∀ i:Fin 8,i.val<k->π i≠(j.val:Int))->permTo π m k j=0
 | 0,_,_,_=>rfl
 | k+1,hk,j,hj=>by
  have hk':k<8:=by omega
  have r:=h.rng ⟨k,hk'⟩
  have:=hj ⟨k,hk'⟩ (by simp)
  simp only[permTo,dif_pos hk',setF]
  rw[if_neg (by omega)]
  exact Zh2 h m k (by omega) j fun i hi=>hj i (by omega)
theorem Zhh{π m:M}(hm:Ok m):∀ k,Ok (permTo π m k)
 | 0=>fun _=>by simp[permTo]
 | k+1=>fun j=>by
  simp only[permTo]
  split
  .rename_i hk
   simp only[setF]
   split
   .exact hm _
   exact Zhh hm k j
  exact Zhh hm k j
theorem Zlg{π m:M}(hm:Ok m):Ok (permM π m):=Zhh hm 8
theorem Zio{π:M}(h:IsPerm π)(m:M)(i j:Fin 8)(hj:(j.val:Int)=π i):permM π m j=m i:=ZjZ h m 8 (by omega) i i.isLt j hj
theorem ZjY{π:M}(h:IsPerm π){a b:M}(e:permM π a=permM π b):a=b:=by
 funext i
 have r:=h.rng i
 have h1:=Zio h a i ⟨(π i).toNat,by omega⟩ (by simp; omega)
 have h2:=Zio h b i ⟨(π i).toNat,by omega⟩ (by simp; omega)
 rw[<- h1,<- h2,e]
theorem ZgS(f:M)(x:Int)(q:Nat):∀ k,k<=8->degTo (setF f q x) k=degTo f k+(if h:q<8 then (if q<k then x-f ⟨q,h⟩ else 0) else 0)
 | 0,_=>by simp[degTo]
 | k+1,hk=>by
  have hk':k<8:=by omega
  simp only[degTo,dif_pos hk',ZgS f x q k (by omega),setF]
  by_cases e:k=q
  .subst e
   simp[hk']
   omega
  rw[if_neg e]
  by_cases h8:q<8
  .simp only[dif_pos h8]
   by_cases hq:q<k
   .rw[if_pos hq,if_pos (by omega)]; omega
   rw[if_neg hq,if_neg (by omega)]; omega
  simp only[dif_neg h8]; omega
theorem ZgR{π:M}(h:IsPerm π)(m:M):degM (permM π m)=degM m:=by
 have key:∀ k,k<=8->degM (permTo π m k)=degTo m k:=by
  intro k
  induction k with
  | zero=>intro _; simp[permTo,degM,degTo]
  | succ k ih=>
   intro hk
   have hk':k<8:=by omega
   have r:=h.rng ⟨k,hk'⟩
   have hq:(π ⟨k,hk'⟩).toNat<8:=by omega
   simp only[permTo,dif_pos hk',degTo]
   unfold degM at ih ⊢
   rw[ZgS _ _ _ 8 (by omega),dif_pos hq,if_pos hq,ih (by omega)]
   have:permTo π m k ⟨(π ⟨k,hk'⟩).toNat,hq⟩=0:=Zh2 h m k (by omega) _ fun i hi he=>by
    have:π i=π ⟨k,hk'⟩:=by simp at he; omega
    have:=congrArg Fin.val (h.inj _ _ this)
    simp at this; omega
   rw[this]; omega
 exact key 8 (by omega)
theorem ZnW{π:M}(h:IsPerm π)(x:Za):(ZcR π x (0,fun _=>0)).Ret (permM π x.m):=by
 refine Cq.Zq 8 (fun k s=>s=((k:Int),permTo π x.m k)) (fun k s hk hs=>?_) (fun s hs=>?_) rfl
 .subst hs
  have r:=h.rng ⟨k,hk⟩
  refine Cq.wp.yes (p:=(k:Int)<8) (by omega) ?_
  refine⟨by omega,by omega,by rw[getFN hk]; exact r,?_⟩
  show _=_
  rw[wrapN (by omega),getFN hk,getFN hk]
  simp only[permTo,dif_pos hk]
 subst hs
 refine Cq.wp.no (p:=((8:Nat):Int)<8) (by omega) ?_
 rfl
theorem Zp1{π:M}(h:IsPerm π){k:Nat}(hk:k<8){bx:Fin 8->Bool}(hb:∀ j,bx j=true->∃ i:Fin 8,i.val<k/\(j.val:Int)=π i):¬ getF bx (π ⟨k,hk⟩)=true:=by
 have r:=h.rng ⟨k,hk⟩
 rw[Zfs bx (show (π ⟨k,hk⟩).toNat<8 by omega)]
 intro ht
 obtain⟨i,h1,h2⟩:=hb _ ht
 have:π i=π ⟨k,hk⟩:=by simp at h2; omega
 have:=congrArg Fin.val (h.inj _ _ this)
 simp at this; omega
theorem Zn4{π:M}(h:IsPerm π){k:Nat}(hk:k<8){bx:Fin 8->Bool}(hb:∀ j,bx j=true->∃ i:Fin 8,i.val<k/\(j.val:Int)=π i):∀ j,setF bx (π ⟨k,hk⟩).toNat true j=true->∃ i:Fin 8,i.val<k+1/\(j.val:Int)=π i:=by
 intro j hj
 have r:=h.rng ⟨k,hk⟩
 simp only[setF] at hj
 split at hj
 .exact⟨⟨k,hk⟩,by simp,by omega⟩
 obtain⟨i,h1,h2⟩:=hb j hj
 exact⟨i,by omega,h2⟩
end Go.EL

namespace Go.EL
open Go.IntKind (i8 i16 i32 i64 u8 u16 u32 u64)
open Go Go.RowKit
def permT(π:M)(t:Za):Za:=⟨t.c,permM π t.m⟩
def permAcc(π:M)(l:List Za):List Za:=l.foldl (fun acc t=>addT acc (permT π t)) []
def permP(π:M)(p:List Za):List Za:=permAcc π p
theorem Zoq{p:List Za}{t:Za}:(∀ x ∈ p,x.m≠t.m)->(addT p t).Perm (t::p):=by
 induction p with
 | nil=>intro _; exact List.Perm.refl _
 | cons x xs ih=>
  intro h
  have hx:=h x (by simp)
  simp only[addT]
  split
  .exact ((ih fun y hy=>h y (by simp[hy])).cons x).trans (List.Perm.swap _ _ _)
  split
  .exact List.Perm.refl _
  exact absurd (ZbS (by omega)) hx
theorem Zkh{a b c:M}(h1:0<cmpM a b)(h2:0<cmpM b c):0<cmpM a c:=by
 have k1:=Zbo a b
 have k2:=Zbo b c
 have k3:=Zbo a c
 have:=Zd0 (a:=c) (b:=b) (c:=a) (by omega) (by omega) (.inl (by omega))
 omega
abbrev Desc(p:List Za):Prop:=p.Pairwise fun x y=>0<cmpM x.m y.m
theorem ZjM{p:List Za}{t:Za}:Desc p->Desc (addT p t)/\∀ z,(∀ x ∈ p,0<cmpM z x.m)->0<cmpM z t.m->∀ y ∈ addT p t,0<cmpM z y.m:=by
 induction p with
 | nil=>intro _; exact⟨by simp[addT],fun z _ h y hy=>by simp[addT] at hy; subst hy; exact h⟩
 | cons x xs ih=>
  intro hd
  obtain⟨h1,h2⟩:=List.pairwise_cons.1 hd
  obtain⟨i1,i2⟩:=ih h2
  simp only[addT]
  split
  .rename_i hc
   refine⟨List.pairwise_cons.2 ⟨i2 _ h1 hc,i1⟩,fun z hz hzt y hy=>?_⟩
   rcases List.mem_cons.1 hy with rfl|hy
   .exact hz _ (by simp)
   exact i2 z (fun w hw=>hz w (by simp[hw])) hzt y hy
  split
  .rename_i hc
   have hc':0<cmpM t.m x.m:=by have:=Zbo x.m t.m; omega
   refine⟨List.pairwise_cons.2 ⟨fun y hy=>?_,hd⟩,fun z hz hzt y hy=>?_⟩
   .rcases List.mem_cons.1 hy with rfl|hy
    .exact hc'
    exact Zkh hc' (h1 y hy)
   rcases List.mem_cons.1 hy with rfl|hy
   .exact hzt
   exact hz y hy
  split
  .exact⟨h2,fun z hz _ y hy=>hz y (by simp[hy])⟩
  refine⟨List.pairwise_cons.2 ⟨h1,h2⟩,fun z hz _ y hy=>?_⟩
  rcases List.mem_cons.1 hy with rfl|hy
  .exact hz x (by simp)
  exact hz y (by simp[hy])
theorem Zlf(π:M)(l:List Za)(t:Za):permAcc π (l++[t])=addT (permAcc π l) (permT π t):=by simp[permAcc,List.foldl_append]
theorem ZfY{p:List Za}(h:Desc p):p.Pairwise fun x y=>x.m≠y.m:=h.imp fun hp e=>by rw[e,ZdM] at hp; omega
theorem Zja{π:M}(h:IsPerm π){p:List Za}(hd:Desc p):∀ k,k<=p.length->(permAcc π (p.take k)).Perm ((p.take k).map (permT π))/\Desc (permAcc π (p.take k))
 | 0,_=>by simp[permAcc]
 | k+1,hk=>by
  obtain⟨h1,h2⟩:=Zja h hd k (by omega)
  have hk':k<p.length:=by omega
  rw[<- List.take_append_getElem hk',Zlf]
  refine⟨?_,(ZjM h2).1⟩
  have hnew:∀ x ∈ permAcc π (p.take k),x.m≠(permT π p[k]).m:=by
   intro x hx e
   obtain⟨y,hy,rfl⟩:=List.mem_map.1 (h1.mem_iff.1 hx)
   have hm:=ZjY h e
   obtain⟨i,hi,rfl⟩:=List.mem_iff_getElem.1 hy
   simp only[List.length_take] at hi
   rw[List.getElem_take] at hm
   exact List.pairwise_iff_getElem.1 (ZfY hd) i k (by omega) hk' (by omega) hm
  refine (Zoq hnew).trans ?_
  rw[List.map_append]
  exact (h1.cons _).trans (List.perm_append_comm (l₁:=[permT π p[k]]))
theorem Zbs{π:M}(h:IsPerm π){p:List Za}(hd:Desc p):(permP π p).Perm (p.map (permT π))/\Desc (permP π p):=by
 have:=Zja h hd p.length (by omega)
 rwa [List.take_length] at this
theorem ZeA{π:M}(h:IsPerm π){p:List Za}(hp:PolOk p):PolOk (permP π p):=by
 obtain⟨h1,h2⟩:=Zbs h hp.ord
 refine⟨h2,fun t ht=>?_,by rw[h1.length_eq,List.length_map]; exact hp.len⟩
 obtain⟨y,hy,rfl⟩:=List.mem_map.1 (h1.mem_iff.1 ht)
 exact⟨(hp.trm y hy).c,Zlg (hp.trm y hy).m⟩
end Go.EL

namespace Go.EL
open Go.IntKind (i8 i16 i32 i64 u8 u16 u32 u64)
open Go Go.RowKit
theorem ZpM:(between 0 100 fun n=>match (Zak (u64.wrap n)).ev 30 with|some v=>decide (0<=v/\v<1000000)|none=>false)=true:=by decide +kernel
theorem ZpO{n:Nat}(h:n<=100):∃ v,(Zak (u64.wrap (n:Int))).Ret v/\0<=v/\v<1000000:=by
 have:=ZC ZpM (x:=(n:Int)) (by omega) (by omega)
 split at this
 .rename_i v hv
  have:=of_decide_eq_true this
  exact⟨v,Cq.Ret.ZG 30 hv,this.1,this.2⟩
 cases this
theorem ZpC{p:List Za}(h:Desc p){x y:Za}(hx:x ∈ p)(hy:y ∈ p)(e:x.m=y.m):x=y:=by
 obtain⟨i,hi,rfl⟩:=List.mem_iff_getElem.1 hx
 obtain⟨j,hj,rfl⟩:=List.mem_iff_getElem.1 hy
 have key:=List.pairwise_iff_getElem.1 (ZfY h)
 rcases Nat.lt_trichotomy i j with hij|hij|hij
 .exact absurd e (key i j hi hj hij)
 .subst hij; rfl
 exact absurd e.symm (key j i hj hi hij)
theorem Zno{p:List Za}(h:Desc p):p.Pairwise fun x y=>¬ cmpM x.m y.m<0:=h.imp fun hp=>by omega
theorem Zm7{p ys:List Za}(hd:Desc p)(hp:ys.Perm p)(hs:ys.Pairwise fun x y=>¬ cmpM x.m y.m<0):ys=p:=
 List.Perm.eq_of_pairwise (le:=fun x y:Za=>¬ cmpM x.m y.m<0) (fun a b ha hb h1 h2=>by
  have:=Zbo a.m b.m
  exact ZpC hd (hp.mem_iff.1 ha) hb (ZbS (by omega))) hs (Zno hd) hp
theorem ZkG{p l:List Za}(hd:Desc p)(hl:p.length<=100)(hp:l.Perm p):(ZA l).Ret p:=by
 have e:=hp.length_eq
 obtain⟨v,h1,h2,h3⟩:=ZpO (n:=l.length) (by omega)
 refine⟨v,h1,p,?_,rfl⟩
 refine⟨⟨rfl,rfl,⟨h2,h3⟩,by omega⟩,fun ys ⟨k1,k2⟩=>?_⟩
 exact Zm7 hd (k1.trans hp) k2
def termOf(q:M×Zc):Za:=⟨q.2,q.1⟩
theorem Zm8{p:List Za}(hp:PolOk p){D:List (M×Zc)}(hD:(D.map termOf).Perm p):(Zck D).Ret p:=by
 have hl:=hp.len
 have e:=hD.length_eq
 rw[List.length_map] at e
 refine⟨⟨by omega,by omega⟩,?_⟩
 show (Cq.next _ _).wp _
 refine Cq.Zij (fun s=>(s.1++s.2.map termOf).Perm p) (fun s=>s.2.length) (fun s hs=>?_) _ (by simpa using hD)
 obtain⟨rv,R⟩:=s
 simp only at hs
 have hlen:=hs.length_eq
 simp only[List.length_append,List.length_map] at hlen
 refine⟨fun hR=>?_,fun R1 q R2 hR=>?_⟩
 .subst hR
  rw[List.map_nil,List.append_nil] at hs
  exact⟨_,ZkG hp.ord hl hs,rfl⟩
 subst hR
 have hmem:termOf q ∈ p:=hs.mem_iff.1 (by simp)
 obtain⟨s,h1,h2⟩:=(hp.trm _ hmem).ps
 refine⟨s,h1,?_⟩
 rw[Cq.Zj,if_pos h2]
 simp only[List.length_append,List.length_cons] at hlen
 refine⟨by simp[small]; omega,?_,?_⟩
 .refine List.Perm.trans ?_ hs
  simp only[List.map_append,List.map_cons,List.append_assoc,List.singleton_append]
  refine List.Perm.append_left rv ?_
  exact (List.perm_middle (a:=termOf q) (l₁:=R1.map termOf) (l₂:=R2.map termOf)).symm
 show (R1++R2).length<(R1++q::R2).length
 simp
theorem Zqv{m:M}(h:Ok m):∀ i,(Lit.int i64 (m i)).wf=true:=fun i=>by
 have:=h i
 simp only[Lit.wf,Bool.and_eq_true,decide_eq_true_eq]
 exact⟨Int.le_trans (by decide) this.1,Int.le_trans this.2 (by decide)⟩
def pairT(π:M)(t:Za):M×Zc:=(permM π t.m,t.c)
theorem ZlA{π:M}(h:IsPerm π){p:List Za}(hp:PolOk p):(Zb1 p π).Ret (permP π p,0):=by
 have hl:=hp.len
 show (Cq.next _ _).wp _
 refine Cq.Zq 8 (fun k s=>∃ bx:Fin 8->Bool,s=((k:Int),bx)/\∀ j,bx j=true->∃ i:Fin 8,i.val<k/\(j.val:Int)=π i) (fun k s hk hs=>?_) (fun s hs=>?_) ⟨_,rfl,fun j hj=>by cases hj⟩
 .obtain⟨bx,rfl,hb⟩:=hs
  have r:=h.rng ⟨k,hk⟩
  refine Cq.wp.yes (p:=(k:Int)<8) (by omega) ?_
  refine⟨by omega,?_⟩
  rw[getFN hk,Cq.Zj,if_neg (by omega),Cq.Zj,if_neg (by omega)]
  refine⟨r,?_⟩
  rw[Cq.Zj,if_neg (Zp1 h hk hb)]
  refine⟨r,?_⟩
  rw[wrapN (by omega)]
  exact⟨_,rfl,Zn4 h hk hb⟩
 obtain⟨bx,rfl,hb⟩:=hs
 refine Cq.wp.no (p:=((8:Nat):Int)<8) (by omega) ?_
 show (ZcS p π).wp _
 show (Cq.next _ _).wp _
 refine Cq.Zq p.length (fun k s=>s=((k:Int),(p.take k).map (pairT π))) (fun k s hk hs=>?_) (fun s hs=>?_) (by simp)
 .subst hs
  refine Cq.wp.yes (p:=(k:Int)<(p.length:Int)) (by omega) ?_
  refine⟨p[k],idxN hk,?_⟩
  refine (ZnW h p[k]).then ?_
  have hput:mput ((p.take k).map (pairT π)) (permM π p[k].m) p[k].c=(p.take (k+1)).map (pairT π):=by
   rw[Zdq,<- List.take_append_getElem hk,List.map_append]
   .rfl
   intro q hq e
   obtain⟨y,hy,rfl⟩:=List.mem_map.1 hq
   have hm:=ZjY h e
   obtain⟨i,hi,rfl⟩:=List.mem_iff_getElem.1 hy
   simp only[List.length_take] at hi
   rw[List.getElem_take] at hm
   exact List.pairwise_iff_getElem.1 (ZfY hp.ord) i k (by omega) hk (by omega) hm
  refine⟨⟨Zqv (Zlg (hp.at hk).m),?_⟩,?_⟩
  .rw[hput,List.length_map,List.length_take]; simp only[small]; omega
  show _=_
  rw[hput,wrapN (by omega)]
 subst hs
 refine Cq.wp.no (p:=((p.length:Nat):Int)<(p.length:Int)) (by omega) ?_
 refine⟨permP π p,Zm8 (ZeA h hp) ?_,rfl⟩
 rw[List.take_length,List.map_map]
 exact (Zbs h hp.ord).1.symm
end Go.EL

namespace Go.EL
open Go.IntKind (i8 i16 i32 i64 u8 u16 u32 u64)
open Go Go.RowKit
theorem Zj8{n:Int}(h1:-8<=n)(h2:n<=8):(Zbl n).Ret (ratI n):=Z7 (ZC Zof h1 h2)
theorem mul_zero(m:M):mulM (fun _=>0) m=m:=by funext i; simp[mulM]
theorem Zni{c:Int}(h1:-3<=c)(h2:c<=3){m:M}(hm:Ok m):(ZeQ (ratI c) [⟨ratI 1,m⟩]).Ret (if c=0 then [] else [⟨ratI c,m⟩]):=by
 have hs:=Z7 (ZC Zln (x:=c) (by omega) (by omega))
 by_cases h0:c=0
 .subst h0
  rw[if_pos rfl]
  refine⟨([],0),⟨_,hs,?_⟩,rfl⟩
  rw[Cq.Zj,if_pos (by decide)]
  rfl
 rw[if_neg h0]
 refine⟨([⟨ratI c,m⟩],0),⟨_,hs,?_⟩,rfl⟩
 rw[Cq.Zj,if_neg (by split <;> first|omega|(split <;> omega))]
 show (Cq.next _ _).wp _
 refine Cq.Zq 1 (fun k s=>s=((if k=0 then [] else [⟨ratI c,m⟩]),(k:Int))) (fun k s hk hs=>?_) (fun s hs=>?_) rfl
 .obtain rfl:k=0:=by omega
  subst hs
  refine⟨⟨ratI 1,m⟩,⟨by omega,rfl⟩,(m,0),?_,?_⟩
  .have:=ZlD (a:=fun _=>0) (b:=m) (fun _=>⟨Int.le_refl 0,show (0:Int)<=65535 by decide⟩) hm (by rw[mul_zero]; exact hm)
   rwa [mul_zero] at this
  rw[Cq.Zj,if_neg (fun h=>h rfl)]
  exact⟨⟨ratI 1,m⟩,⟨by omega,rfl⟩,_,Z7 (ZC ZpS h1 h2),by simp[small],rfl⟩
 subst hs
 rfl
def RawOk(x:Zv):Prop:=∀ v ∈ x.t,∀ j:Fin 5,-128<=v j/\v j<=127
structure MadeOk (K:Int) (n:Nat) (d:Int) (k:Nat) (p:List Za):Prop where
 ord:Desc p
 cof:∀ t ∈ p,∃ c:Int,t.c=ratI c/\c≠0/\-K<=c/\c<=K
 mon:∀ t ∈ p,(∀ i,0<=t.m i)/\(∀ i:Fin 8,n<=i.val->t.m i=0)/\degM t.m<=d
 len:p.length<=k
theorem ZfV{m:M}(h:∀ i,0<=m i):∀ k,k<=8->0<=degTo m k/\∀ i:Fin 8,i.val<k->m i<=degTo m k
 | 0,_=>by simp[degTo]
 | k+1,hk=>by
  obtain⟨h1,h2⟩:=ZfV h k (by omega)
  have hk':k<8:=by omega
  have:=h ⟨k,hk'⟩
  simp only[degTo,dif_pos hk']
  refine⟨by omega,fun i hi=>?_⟩
  by_cases e:i.val=k
  .have:i=⟨k,hk'⟩:=Fin.ext e
   subst this; omega
  have:=h2 i (by omega); omega
theorem ZjW{m:M}(h:∀ i,0<=m i){d:Int}(hd:degM m<=d)(h2:d<=65535):Ok m:=fun i=>by
 have:=(ZfV h 8 (by omega)).2 i i.isLt
 unfold degM at hd
 exact⟨h i,by omega⟩
theorem MadeOk.pol{K:Int}{n:Nat}{d:Int}{k:Nat}{p:List Za}(h:MadeOk K n d k p)(hK:K<=12)(hd:d<=100)(hk:k<=100):PolOk p:=
 ⟨h.ord,fun t ht=>⟨by obtain⟨c,e,h0,h1,h2⟩:=h.cof t ht; exact⟨c,e,h0,by omega,by omega⟩,ZjW (h.mon t ht).1 (h.mon t ht).2.2 (by omega)⟩,by have:=h.len; omega⟩
theorem ZkI{p:List Za}{t y:Za}:y ∈ addT p t->y ∈ p\/y=t\/∃ x ∈ p,x.m=t.m/\valR x.c+valR t.c≠0/\y=⟨ratI (valR x.c+valR t.c),x.m⟩:=by
 induction p with
 | nil=>intro h; simp[addT] at h; exact .inr (.inl h)
 | cons x xs ih=>
  intro h
  simp only[addT] at h
  split at h
  .rcases List.mem_cons.1 h with rfl|h
   .exact .inl (by simp)
   rcases ih h with h|h|⟨z,h1,h2⟩
   .exact .inl (by simp[h])
   .exact .inr (.inl h)
   exact .inr (.inr ⟨z,by simp[h1],h2⟩)
  split at h
  .rcases List.mem_cons.1 h with rfl|h
   .exact .inr (.inl rfl)
   exact .inl h
  have hm:x.m=t.m:=ZbS (by omega)
  split at h
  .exact .inl (by simp[h])
  rename_i hne
  rcases List.mem_cons.1 h with rfl|h
  .exact .inr (.inr ⟨x,by simp,hm,hne,rfl⟩)
  exact .inl (by simp[h])
theorem MadeOk.add{K:Int}{n:Nat}{d:Int}{k:Nat}{p:List Za}(h:MadeOk K n d k p){c:Int}{m:M}(hK:0<=K)(h0:c≠0)(h1:-3<=c)(h2:c<=3)(hm:(∀ i,0<=m i)/\(∀ i:Fin 8,n<=i.val->m i=0)/\degM m<=d):
  MadeOk (K+3) n d (k+1) (addT p ⟨ratI c,m⟩):=by
 refine⟨(ZjM h.ord).1,fun t ht=>?_,fun t ht=>?_,by have:=ZhT p ⟨ratI c,m⟩; have:=h.len; omega⟩
 .rcases ZkI ht with ht|rfl|⟨x,hx,hxm,hne,rfl⟩
  .obtain⟨a,e,k0,k1,k2⟩:=h.cof t ht
   exact⟨a,e,k0,by omega,by omega⟩
  .exact⟨c,rfl,h0,by omega,by omega⟩
  obtain⟨a,e,k0,k1,k2⟩:=h.cof x hx
  simp only[Zhr,e] at hne ⊢
  exact⟨a+c,rfl,hne,by omega,by omega⟩
 rcases ZkI ht with ht|rfl|⟨x,hx,hxm,hne,rfl⟩
 .exact h.mon t ht
 .exact hm
 exact h.mon x hx
theorem MadeOk.grow{K K':Int}{n:Nat}{d:Int}{k k':Nat}{p:List Za}(h:MadeOk K n d k p)(h1:K<=K')(h2:k<=k'):MadeOk K' n d k' p:=
 ⟨h.ord,fun t ht=>by obtain⟨a,e,k0,k1,k2⟩:=h.cof t ht; exact⟨a,e,k0,by omega,by omega⟩,h.mon,by have:=h.len; omega⟩
theorem MadeOk.near{K:Int}{n:Nat}{d:Int}{k:Nat}{p:List Za}(h:MadeOk K n d k p)(hK:K<=12){c:Int}{m:M}(h1:-3<=c)(h2:c<=3):Near p ⟨ratI c,m⟩:=fun x hx _=>by
 obtain⟨a,e,k0,k1,k2⟩:=h.cof x hx
 exact⟨a,c,e,rfl,by omega,by omega,h1,h2⟩
def absI(n:Int):Int:=if n<0 then -n else n
theorem Zpt{n:Int}(h1:-128<=n)(h2:n<=127):(Zhu n).Ret (absI n):=by
 unfold Zhu absI
 by_cases h:n<0
 .rw[if_pos h,if_pos h]
  show _=_
  simp (disch:=omega) only[wrap64]
  omega
 rw[if_neg h,if_neg h]
 exact wrap64 (by omega)
theorem ZfJ{a b:Int}(ha:0<=a)(hb:0<b):0<=Int.tmod a b/\Int.tmod a b<b:=by
 rw[Int.tmod_eq_emod_of_nonneg ha]
 exact⟨Int.emod_nonneg _ (by omega),Int.emod_lt_of_pos _ hb⟩
theorem tmod4{a:Int}(h1:-128<=a)(h2:a<=127):-3<=Int.tmod a 4/\Int.tmod a 4<=3:=by
 by_cases h:0<=a
 .have:=ZfJ (b:=4) h (by omega); omega
 have:=ZfJ (a:=-a) (b:=4) (by omega) (by omega)
 rw[Int.neg_tmod] at this
 omega
def rawTo(v:Fin 5->Int)(d:Int):Nat->Int×M
 | 0=>(d,fun _=>0)
 | j+1=>((rawTo v d j).1-Int.tmod (absI (getF v ((j+1:Nat):Int))) ((rawTo v d j).1+1),setF (rawTo v d j).2 j (Int.tmod (absI (getF v ((j+1:Nat):Int))) ((rawTo v d j).1+1)))
theorem Zir{v:Fin 5->Int}{d:Int}(hd:0<=d):∀ j,j<=4->0<=(rawTo v d j).1/\(∀ i,0<=(rawTo v d j).2 i)/\(∀ i:Fin 8,j<=i.val->(rawTo v d j).2 i=0)/\degM (rawTo v d j).2+(rawTo v d j).1=d
 | 0,_=>⟨hd,fun _=>Int.le_refl 0,fun _ _=>rfl,by simp[rawTo,degM,degTo]⟩
 | j+1,hj=>by
  obtain⟨h0,h1,h2,h3⟩:=Zir (v:=v) hd j (by omega)
  have ha:0<=absI (getF v ((j+1:Nat):Int)):=by unfold absI; split <;> omega
  have hm:=ZfJ ha (show 0<(rawTo v d j).1+1 by omega)
  simp only[rawTo]
  refine⟨by omega,fun i=>?_,fun i hi=>?_,?_⟩
  .simp only[setF]; split
   .exact hm.1
   exact h1 i
  .simp only[setF]; rw[if_neg (by omega)]; exact h2 i (by omega)
  unfold degM at h3 ⊢
  rw[ZgS _ _ _ 8 (by omega),dif_pos (by omega),if_pos (by omega),h2 _ (by simp)]
  omega
def rawM(v:Fin 5->Int)(d:Int)(n:Nat):M:=(rawTo v d n).2
theorem Zmg{v:Fin 5->Int}{d:Int}(hd:0<=d){n:Nat}(hn:n<=4):(∀ i,0<=rawM v d n i)/\(∀ i:Fin 8,n<=i.val->rawM v d n i=0)/\degM (rawM v d n)<=d:=by
 obtain⟨h0,h1,h2,h3⟩:=Zir (v:=v) hd n hn
 exact⟨h1,h2,by unfold rawM; omega⟩
theorem Znd{x:Zv}(hx:RawOk x){n:Nat}(hn:n<=4){d:Int}(hd0:0<=d)(hd:d<=100){k:Nat}(hk:k<x.t.length):
  (ZhQ x (n:Int) (k:Int) (d,0,fun _=>0)).Ret (rawM x.t[k] d n):=by
 refine Cq.Zq n (fun j s=>s=((rawTo x.t[k] d j).1,(j:Int),(rawTo x.t[k] d j).2)) (fun j s hj hs=>?_) (fun s hs=>?_) rfl
 .subst hs
  obtain⟨h0,h1,h2,h3⟩:=Zir (v:=x.t[k]) hd0 j (by omega)
  have hb:=(ZfV h1 8 (by omega)).1
  have hj8:j<8:=by omega
  have hr:=hx _ (List.getElem_mem hk)
  show (if (j:Int)<(n:Int) then _ else _:Cq _).wp _
  rw[Cq.Zj,if_pos (by omega),Cq.Zj,if_pos (by omega)]
  have hw:i64.wrap (1+(j:Int))=((j+1:Nat):Int):=by rw[wrap64 (by omega)]; omega
  have hw2:i64.wrap ((rawTo x.t[k] d j).1+1)=(rawTo x.t[k] d j).1+1:=wrap64 (by unfold degM at h3; omega)
  rw[hw,hw2]
  have hg:getF x.t[k] ((j+1:Nat):Int)=x.t[k] ⟨j+1,by omega⟩:=Zfs _ (by simp; omega)
  have hm:=ZfJ (a:=absI (getF x.t[k] ((j+1:Nat):Int))) (b:=(rawTo x.t[k] d j).1+1) (by unfold absI; split <;> omega) (by omega)
  refine⟨x.t[k],idxN hk,by omega,_,Zpt (by rw[hg]; exact (hr _).1) (by rw[hg]; exact (hr _).2),by omega,by omega,by omega,?_⟩
  show _=_
  have hs8:∀ e:Int,getF (setF (rawTo x.t[k] d j).2 (j:Int).toNat e) (j:Int)=e:=fun e=>by rw[getFN hj8]; simp[setF]
  rw[hs8,wrapN (by omega),wrap64 (by unfold degM at h3; omega)]
  rfl
 subst hs
 refine Cq.wp.no (p:=(n:Int)<(n:Int)) (by omega) ?_
 rfl
def madeTo(x:Zv)(n:Nat)(d:Int):Nat->List Za
 | 0=>[]
 | k+1=>match x.t[k]? with
  | some v=>if Int.tmod (getF v 0) 4=0 then madeTo x n d k else addT (madeTo x n d k) ⟨ratI (Int.tmod (getF v 0) 4),rawM v d n⟩
  | none=>madeTo x n d k
theorem raw0{x:Zv}(hx:RawOk x){v:Fin 5->Int}(hv:v ∈ x.t):-3<=Int.tmod (getF v 0) 4/\Int.tmod (getF v 0) 4<=3:=by
 have:=hx v hv 0
 rw[Zfs v (by decide)]
 exact tmod4 this.1 this.2
theorem Zg8{x:Zv}(hx:RawOk x){n:Nat}(hn:n<=4){d:Int}(hd:0<=d):∀ k:Nat,MadeOk (3*k) n d k (madeTo x n d k)
 | 0=>⟨List.Pairwise.nil,fun t ht=>by simp[madeTo] at ht,fun t ht=>by simp[madeTo] at ht,by simp[madeTo]⟩
 | k+1=>by
  have ih:=Zg8 hx hn hd k
  simp only[madeTo]
  split
  .rename_i v hv
   have hr:=raw0 hx (List.mem_of_getElem? hv)
   split
   .exact ih.grow (by omega) (by omega)
   rename_i h0
   exact (ih.add (by omega) h0 hr.1 hr.2 (Zmg hd hn)).grow (by omega) (by omega)
  exact ih.grow (by omega) (by omega)
def madeP(x:Zv)(n:Nat)(d:Int)(k:Nat):List Za:=madeTo x n d (min k x.t.length)
theorem Zk3{x:Zv}(hx:RawOk x){n:Nat}(hn:n<=4){d:Int}(hd:0<=d)(k:Nat):MadeOk (3*k) n d k (madeP x n d k):=(Zg8 hx hn hd _).grow (by omega) (by omega)
theorem Zop{x:Zv}(hx:RawOk x){n:Nat}(hn:n<=4){d:Int}(hd0:0<=d)(hd:d<=100){k:Nat}(hk:k<=4):(Zib x (n:Int) d (k:Int)).Ret (madeP x n d k):=by
 refine Cq.Zq (min k x.t.length) (fun j s=>s=(madeTo x n d j,(j:Int))) (fun j s hj hs=>?_) (fun s hs=>?_) rfl
 .subst hs
  have hj':j<x.t.length:=by omega
  have ih:=Zg8 hx hn hd0 j
  have hr:=raw0 hx (List.getElem_mem hj')
  show (if (j:Int)<(x.t.length:Int) then _ else _:Cq _).wp _
  rw[Cq.Zj,if_pos (by omega),Cq.Zj,if_pos (by omega)]
  show (Cq.next _ _).wp _
  refine (Znd hx hn hd0 hd hj').then ?_
  have hw:i64.wrap (Int.tmod (getF x.t[j] 0) 4)=Int.tmod (getF x.t[j] 0) 4:=wrap64 (by omega)
  have hm:=Zmg (v:=x.t[j]) hd0 hn
  refine⟨x.t[j],idxN hj',_,(by rw[hw]; exact Zj8 (by omega) (by omega)),_,Zj8 (by omega) (by omega),_,Zni hr.1 hr.2 (ZjW hm.1 hm.2.2 (by omega)),?_⟩
  have hlen:=ih.len
  by_cases h0:Int.tmod (getF x.t[j] 0) 4=0
  .rw[if_pos h0]
   refine⟨_,ZlE (by omega),?_⟩
   show _=_
   rw[wrapN (by omega)]
   simp only[madeTo,List.getElem?_eq_getElem hj',if_pos h0]
  rw[if_neg h0]
  refine⟨_,ZlF (by omega) (ih.near (by omega) hr.1 hr.2),?_⟩
  show _=_
  rw[wrapN (by omega)]
  simp only[madeTo,List.getElem?_eq_getElem hj',if_neg h0]
 subst hs
 show (if ((min k x.t.length:Nat):Int)<(x.t.length:Int) then _ else _:Cq _).wp _
 by_cases h:min k x.t.length<x.t.length
 .rw[Cq.Zj,if_pos (by omega),Cq.Zj,if_neg (by omega)]
  rfl
 rw[Cq.Zj,if_neg (by omega)]
 rfl
end Go.EL

namespace Go.EL
open Go.IntKind (i8 i16 i32 i64 u8 u16 u32 u64)
open Go Go.RowKit
theorem Zh{x:Int}(h:0<=x/\x<18446744073709551616):u64.wrap x=x:=by
 simp only[IntKind.wrap,IntKind.bits,IntKind.signed,Bool.false_and,Bool.false_eq_true,if_false]
 omega
theorem Zav{x:Int}(h:0<=x/\x<4294967296):u32.wrap x=x:=by
 simp only[IntKind.wrap,IntKind.bits,IntKind.signed,Bool.false_and,Bool.false_eq_true,if_false]
 omega
def magI(x:Int):List Int:=if x=0 then [] else [x]
def intI(n:Int):Zb:=⟨decide (n<0),magI (n.natAbs:Int)⟩
theorem Zo8(n:Int):ratI n=⟨intI n,⟨false,[1]⟩⟩:=by
 unfold ratI intI magI
 by_cases h:n=0
 .subst h; rfl
 rw[if_neg h,if_neg (by omega)]
end Go.EL

namespace Go.EL
open Go.IntKind (i8 i16 i32 i64 u8 u16 u32 u64)
open Go Go.RowKit
theorem Zoo{a b:M}(ha:Ok a)(hb:Ok b)(hab:Ok (mulM a b)):(Zes a b).Ret (mulM a b,0):=by
 show (Cq.next _ _).wp _
 refine Cq.Zq 8 (fun k s=>s=((k:Int),mixM k (mulM a b) a)) (fun k s hk hs=>?_) (fun s hs=>?_) (by rw[Zk6]; rfl)
 .subst hs
  have h1:=ha ⟨k,hk⟩
  have h2:=hb ⟨k,hk⟩
  rw[Cq.Zj,if_pos (by omega)]
  refine⟨by omega,by omega,by omega,?_⟩
  show _=_
  rw[wrapN (by omega),getFN hk,getFN hk,ZnQ,wrap64 (by omega)]
  exact congrArg (Prod.mk _) (Zk5 (mulM a b) a hk)
 subst hs
 rw[Cq.Zj,if_neg (by omega),Zmb _ _ (by omega)]
 exact⟨true,ZjL hab,rfl⟩
end Go.EL

