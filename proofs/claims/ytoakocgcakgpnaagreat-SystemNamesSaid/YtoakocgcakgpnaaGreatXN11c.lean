/- The law SystemNames holds for every input: a part of its proof (what the code does, plain models, and what they return). No condition. -/
import Derived.Test.YtoakocgcakgpnaaGreatRows
import Derived.Test.YtoakocgcakgpnaaGreatXN11b
import Derived.Test.YtoakocgcakgpnaaGreatXN11a
import Derived.RangeFuncGives
import Derived.RangeFuncIn
import Derived.RangeFuncLeaves
import Derived.Maps.RangeRun
import Derived.TacticsIn
import Derived.OwnWalkIn
import Derived.DeepKeys4
import Derived.Shelf.SortG.Plain
import Derived.Shelf.SortG.SortNone
import Derived.OrdersIn
import Derived.Shelf.SlLaysF
import Derived.Shelf.SlSortCmp.Pdq1
import Derived.Test.YtoakocgcakgpnaaGreatProg
import Derived.Shelf.SlGeneric
import Derived.Shelf.SlLaysF0
import Derived.Ground.SlsfProg
set_option linter.unusedVariables false
set_option linter.unusedSimpArgs false
namespace Go.Proofs.YtoakocgcakgpnaaGreat
open Go.IntKind (i8 i16 i32 i64 u8 u16 u32 u64)
open Go.Proofs.Tryz
open Go Go.EL Go.RowKit Go.Proofs
theorem ownK:ownKnob prog.godebug=none:=by kernel_rfl
theorem laidK:laidOutB prog=true:=by kernel_rfl
end Go.Proofs.YtoakocgcakgpnaaGreat

namespace Go.EL
open Go.IntKind (i8 i16 i32 i64 u8 u16 u32 u64)
open Go Go.RowKit Go.Proofs Go.MapKept
theorem ZhM{P:Program}{o:Oper}{a:Act}{w:World}{K K':Act->World->Prop}{Q:Post}{n l:Nat}(hd:∀ c,o.op≠.defer c)(hK:∀ a w,K a w->K' a w)(h:o.wp P a w K Q):o.wpIn (Fence.wide.inRound l) n P a w K' Q:=by
 refine⟨fun _ _=>trivial,?_⟩
 rw[Oper.semAt_plain _ _ _ hd]
 unfold Oper.wp at h
 generalize (execOp a.eval o).run P w=res at h ⊢
 cases res with
 | ok nx w'=>
  cases nx <;> simp only[Oper.upon] at h <;> simp only[Oper.uponIn]
  case value v=>exact hK _ _ h
  case skip=>exact hK _ _ h
  case defer d=>exact hK _ _ h
  case enter f args=>exact⟨fun h=>by simp[Fence.inRound,Fence.wide] at h,(callsIn_wide (n:=n-1)).2 (h.mono fun e w'' he=>by cases e <;> first|exact hK _ _ he|exact he)⟩
  case row row args=>exact⟨fun h=>by simp[Fence.inRound,Fence.wide] at h,fun c cs _=>let ⟨v,w',r,s⟩:=h c cs; ⟨v,w',hK _ _ r,stepsIn_wide.2 s⟩⟩
 | halt x w'=>cases x <;> first|exact h.elim|exact h
theorem Zdm{P:Program}{ops:Array Oper}{Q:Post}{n r:Nat}(hQ:¬ LetsOut Q):∀ {l:List Oper}{a:Act}{w:World},(∀ o ∈ l,∀ c,o.op≠.defer c)->wpList P ops Q l a w->wpListIn (Fence.wide.inRound r) n P ops Q l a w
 | [],_,_,_,h=>h
 | o::l,a,w,hd,h=>by
  unfold wpList at h
  unfold wpListIn
  split at h
  .rename_i hw
   rw[if_pos hw]
   rcases h with h|h
   .exact ZhM (hd o (by simp)) (fun a w h'=>Zdm hQ (fun o' ho'=>hd o' (by simp[ho'])) h') h
   exact absurd h.2 hQ
  rename_i hw
  rw[if_neg hw]
  exact⟨fun _ _=>trivial,Zdm hQ (fun o' ho'=>hd o' (by simp[ho'])) h⟩
theorem ZfZ{P:Program}{l:List Oper}{id n r:Nat}{Q:Post}{a:Act}{w:World}(hQ:¬ LetsOut Q)(hd:∀ o ∈ l,∀ c,o.op≠.defer c)(h:wpList P l.toArray Q l a w):(Code.region id l.toArray false).wpIn (Fence.wide.inRound r) n P Q a w:=by
 refine wpIn_region ?_
 have:=wpOpsIn_eq_wpListIn (F:=Fence.wide.inRound r) (n:=n) (P:=P) (ops:=l.toArray) (Q:=Q) l 0 (fun j=>by simp)
 rw[List.range_eq_range',List.size_toArray,this]
 exact Zdm hQ hd h
section
variable {P:Program}{N:Nat}{w0:Bs}{G0 G:Mem}{L:Lo}
theorem St.putLoop{w:World}{l key:Nat}{r r':Loop}(hs:St w0 G0 G L w)(hl:L.get key=some ⟨l,.loop r,0⟩):St w0 G0 G ((key,some ⟨l,.loop r',0⟩)::L) (w.putObj l (.loop r')):=by
 have hb:=(hs.loc key _ hl).1
 have hlt:=(Array.getElem?_eq_some_iff.1 hb).1
 exact hs.upd hl (World.putObj_heap_same hlt) (Nat.le_refl _) (fun k _ hk=>absurd hk (Nat.not_lt_zero k)) (fun k hk=>World.putObj_heap_other hk) rfl rfl rfl rfl (by simp)
end
structure Stp (B:Nat) (W W':World):Prop where
 os:W'.os=W.os
 tape:W'.tape=W.tape
 output:W'.output=W.output
 drawn:W.drawn<=W'.drawn
 size:W.heap.size<=W'.heap.size
 block:∀ (k:Nat) (o:Obj),W.heap[k]? = some o->(k<B\/o.isWalk=false)->W'.heap[k]? = some o
theorem Stp.trans{B:Nat}{W W' W'':World}(h:Stp B W W')(k:Stp B W' W''):Stp B W W'':=
 ⟨k.os.trans h.os,k.tape.trans h.tape,k.output.trans h.output,Nat.le_trans h.drawn k.drawn,Nat.le_trans h.size k.size,fun j o e1 e2=>k.block j o (h.block j o e1 e2) e2⟩
theorem Stp.alloc(B:Nat)(W:World)(o:Obj):Stp B W (W.alloc o):=
 ⟨rfl,rfl,rfl,Nat.le_refl _,by simp,fun k o' h _=>(Below.heap_alloc W o k (Array.getElem?_eq_some_iff.1 h).1).trans h⟩
structure Rng (b r:Nat) (es:Array MapEntry) (clock:Nat) (cons:List MapEntry) (left:Nat) (w:World):Prop where
 map:w.heap[b]? = some (.map es clock)
 iter:∃ seen c0,w.heap[r]? = some (.mapIter (some b) clock seen c0)/\clock<=c0/\(leftOf es seen).size=left/\∀ x,x ∈ cons↔x ∈ es.toList/\seen.contains x.born=true
 nodup:cons.Nodup
theorem born_inj{es:Array MapEntry}{clock:Nat}(h:Stamped es clock){x y:MapEntry}(hx:x ∈ es.toList)(hy:y ∈ es.toList)(e:x.born=y.born):x=y:=by
 have hn:=h.2.1
 have:∀ (l:List MapEntry),(l.map (·.born)).Nodup->x ∈ l->y ∈ l->x=y:=by
  intro l
  induction l with
  | nil=>intro _ hx; cases hx
  | cons z l ih=>
   intro hn hx hy
   simp only[List.map_cons,List.nodup_cons,List.mem_map,not_exists,not_and] at hn
   rcases List.mem_cons.1 hx with h1|h1 <;> rcases List.mem_cons.1 hy with h2|h2
   .rw[h1,h2]
   .exact absurd (by rw[<- e,h1]) (hn.1 y h2)
   .exact absurd (by rw[e,h2]) (hn.1 x h1)
   exact ih hn.2 h1 h2
 exact this _ hn hx hy
section
variable {P:Program}{b r:Nat}{es:Array MapEntry}{clock:Nat}{cons:List MapEntry}{left:Nat}{w:World}
theorem Rng.next(h:Rng b r es clock cons left w)(hS:Stamped es clock)(ty:TypeId):
  (left=0/\(Instr.next (.pointer (some ⟨r,0,none⟩)) false ty).run P w = .ok (.tuple #[.bool false]) w)\/
  ∃ e ∈ es.toList,∃ w' left',(¬ e ∈ cons)/\(Instr.next (.pointer (some ⟨r,0,none⟩)) false ty).run P w = .ok (.tuple #[.bool true,e.key,e.val]) w'/\Rng b r es clock (cons++[e]) left' w'/\left'<left/\
   (Instr.entry (.pointer (some ⟨r,0,none⟩))).run P w' = .ok (.tuple #[e.key,e.val]) w'/\∀ B,B<=r->Stp B w w':=by
 obtain⟨seen,c0,hr,hc,hl,hm⟩:=h.iter
 rcases run_next_at (P:=P) w ty r b clock c0 seen es clock hr h.map hS.1 hc with ⟨h0,h1⟩|⟨e,he,w1,hw1,h1⟩
 .exact .inl ⟨by omega,h1⟩
 have he':e ∈ es.toList/\seen.contains e.born=false:=by
  simp only[leftOf,Array.toList_filter,List.mem_filter,Bool.not_eq_true'] at he
  exact he
 have hrb:r≠b:=fun e'=>by subst e'; have:=h.map; rw[hr] at this; cases this
 have hrl:r<w.heap.size:=(Array.getElem?_eq_some_iff.1 hr).1
 have hsame:w1.heap=w.heap:=by rcases hw1 with rfl|rfl <;> rfl
 have hdr:w.drawn<=w1.drawn:=by rcases hw1 with rfl|rfl; exact Nat.le_refl _; exact Nat.le_succ _
 have hor:w1.os=w.os/\w1.tape=w.tape/\w1.output=w.output:=by rcases hw1 with rfl|rfl <;> exact⟨rfl,rfl,rfl⟩
 have hn1:(ChangeMaps.setBlock w1 r (.mapIter (some b) clock (seen.push e.born) clock)).heap[r]? = some (.mapIter (some b) clock (seen.push e.born) clock):=by
  simp[ChangeMaps.setBlock,hsame,hrl]
 have hn2:∀ k,k≠r->(ChangeMaps.setBlock w1 r (.mapIter (some b) clock (seen.push e.born) clock)).heap[k]? = w.heap[k]?:=fun k hk=>by
  simp[ChangeMaps.setBlock,hsame,Array.getElem?_setIfInBounds,Ne.symm hk]
 refine .inr ⟨e,he'.1,ChangeMaps.setBlock w1 r (.mapIter (some b) clock (seen.push e.born) clock),(leftOf es (seen.push e.born)).size,fun hc'=>by { have:=((hm e).1 hc').2; rw[he'.2] at this; cases this },h1,⟨(hn2 b (Ne.symm hrb)).trans h.map,⟨_,clock,hn1,Nat.le_refl _,rfl,fun x=>?_⟩,?_⟩,?_,?_,fun B hB=>⟨hor.1,hor.2.1,hor.2.2,hdr,by simp[ChangeMaps.setBlock,hsame],fun k o hk ho=>?_⟩⟩
 .simp only[List.mem_append,List.mem_singleton,Array.contains_push,Bool.or_eq_true,beq_iff_eq]
  constructor
  .rintro (hx|rfl)
   .exact⟨((hm x).1 hx).1,.inl ((hm x).1 hx).2⟩
   exact⟨he'.1,.inr rfl⟩
  rintro⟨hx,hx'|hx'⟩
  .exact .inl ((hm x).2 ⟨hx,hx'⟩)
  exact .inr (born_inj hS hx he'.1 hx')
 .refine List.nodup_append.2 ⟨h.nodup,by simp,fun a ha c hc'=>?_⟩
  simp only[List.mem_singleton] at hc'
  subst hc'
  intro e'
  subst e'
  have:=((hm a).1 ha).2
  rw[he'.2] at this; cases this
 .have hsub:leftOf es (seen.push e.born)=(leftOf es seen).filter fun x=>x.born != e.born:=by
   simp only[leftOf,Array.filter_filter,Array.contains_push,Bool.not_or]
   congr 1
   funext x
   rw[Bool.and_comm]; rfl
  rw[hsub,<- hl]
  have:∀ (l:List MapEntry),e ∈ l->(l.filter fun x=>x.born != e.born).length<l.length:=by
   intro l hl'
   have h1:=List.length_filter_le (fun x:MapEntry=>x.born != e.born) l
   rcases Nat.lt_or_ge (l.filter fun x=>x.born != e.born).length l.length with h2|h2
   .exact h2
   have:=List.length_filter_eq_length_iff.1 (Nat.le_antisymm h1 h2) e hl'
   simp at this
  have:=this (leftOf es seen).toList he
  have e2:((leftOf es seen).filter fun x=>x.born != e.born).size=((leftOf es seen).toList.filter fun x=>x.born != e.born).length:=by
   rw[<- Array.toList_filter,Array.length_toList]
  rw[e2,<- Array.length_toList (xs:=leftOf es seen)]
  exact this
 .exact run_entry_at _ r b clock seen es clock e hn1 ((hn2 b (Ne.symm hrb)).trans h.map) he'.1 hS.2.1
 by_cases hkr:k=r
 .subst hkr
  rw[hr] at hk; cases hk
  rcases ho with ho|ho
  .omega
  cases ho
 rw[hn2 k hkr]; exact hk
end
end Go.EL
namespace Go.EL
open Go.IntKind (i8 i16 i32 i64 u8 u16 u32 u64)
open Go Go.RowKit Go.Proofs Go.MapKept
section
variable {P:Program}{N:Nat}{Q:Post}{fr:Fr}{S:Asrt}{ops:Array Oper}{l:List Oper}{dst:Option Nat}{ty:TypeId}{pos:String}{af:Array Edge}{g:Option (Nat×Bool)}
def WLI(P:Program)(N:Nat)(ops:Array Oper)(Q:Post)(l:List Oper)(fr:Fr)(S:Asrt):Prop:=∀ a w,Rel N fr a->S w->wpListIn Fence.wide 0 P ops Q l a w
theorem WLI.nil(h:WE N Q .normal fr S):WLI P N ops Q [] fr S:=h
theorem WLI.y0{op:Op}{v:Value}(hg:guardOK ops fr ⟨dst,op,ty,pos,af,g⟩ true)(h:Y0 P N ⟨dst,op,ty,pos,af,g⟩ fr S v)(hn:∀ c,op≠.defer c)(hd:dstOK N dst)(k:WLI P N ops Q l (putFr dst v fr) S):WLI P N ops Q (⟨dst,op,ty,pos,af,g⟩::l) fr S:=fun a w ha hs=>by
 unfold wpListIn
 rw[if_pos (ha.wanted hg)]
 refine⟨fun _ _=>trivial,?_⟩
 rw[Oper.semAt_plain _ _ _ hn,h a w ha hs]
 exact k _ w (ha.putFr v hd) hs
theorem WLI.yield{x y:Operand}{ts:Array TypeId}{loop:Nat}{u:Value}{Φ:Value->Asrt}(hg:guardOK ops fr ⟨dst,.call ⟨.value x,#[y],ts⟩,ty,pos,af,g⟩ true)(hd:dstOK N dst)(hx:fr.ev x=some (.func (.yield loop) #[] #[]))(hy:fr.ev y=some u)
  (hY:∀ w,S w->YieldAt Fence.wide 0 P loop #[u] w fun e w'=>∃ v,e = .returned v/\Φ v w') (k:∀ v,WLI P N ops Q l (putFr dst v fr) (Φ v)):WLI P N ops Q (⟨dst,.call ⟨.value x,#[y],ts⟩,ty,pos,af,g⟩::l) fr S:=fun a w ha hs=>by
 unfold wpListIn
 rw[if_pos (ha.wanted hg)]
 refine⟨fun _ _=>trivial,?_⟩
 rw[Oper.semAt_plain _ _ _ (fun c h=>by cases h)]
 obtain⟨fn,tmps,assign,body,h1,h2⟩:=hY w hs
 have:(execOp a.eval ⟨dst,.call ⟨.value x,#[y],ts⟩,ty,pos,af,g⟩).run P w = .ok (.round loop fn tmps assign body) w:=by
  simp[execOp,resolve,ha.ev hx,ha.ev hy,Deferred.ofValue,invoke,h1]
 rw[this]
 refine⟨fun h=>by simp[Fence.wide] at h,h2.mono fun e w' ⟨v,e1,e2⟩=>?_⟩
 subst e1
 exact k v _ w' (ha.putFr v hd) e2
theorem WC.regionI{id:Nat}{l:List Oper}(h:WLI P N l.toArray Q l fr S):WC P N (.region id l.toArray false) Q fr S:=fun a w ha hs=>by
 refine (wpIn_wide (n:=0)).1 (wpIn_region ?_)
 have:=wpOpsIn_eq_wpListIn (F:=Fence.wide) (n:=0) (P:=P) (ops:=l.toArray) (Q:=Q) l 0 (fun j=>by simp)
 rw[List.range_eq_range',List.size_toArray,this]
 exact h a w ha hs
end
end Go.EL
namespace Go.EL
open Go.IntKind (i8 i16 i32 i64 u8 u16 u32 u64)
open Go Go.RowKit Go.Proofs Go.MapKept
end Go.EL
namespace Go.EL
open Go.IntKind (i8 i16 i32 i64 u8 u16 u32 u64)
open Go Go.RowKit Go.Proofs Go.MapKept
theorem MapL.keys{K V:Type}{enc:K->Value}{Rv:K->Value->V->Prop}:∀ {es:List MapEntry}{D:List (K×V)},MapL enc Rv es D->es.map (·.key)=(D.map (·.1)).map enc
 | [],[],_=>rfl
 | _::_,_::_,h=>by simp only[List.map_cons,List.cons.injEq]; exact⟨h.1,MapL.keys h.2.2⟩
 | [],_::_,h=>by cases h
 | _::_,[],h=>by cases h
end Go.EL
namespace Go.EL
open Go.IntKind (i8 i16 i32 i64 u8 u16 u32 u64)
open Go Go.RowKit Go.Proofs
end Go.EL
namespace Go.EL
open Go.IntKind (i8 i16 i32 i64 u8 u16 u32 u64)
open Go Go.RowKit Go.Proofs
theorem Lo.Zjt{R L:Lo}{i:Nat}{x:Ow}(h:R.get i=some x):Lo.get (R++L) i=some x:=by
 induction R with
 | nil=>simp[Lo.get] at h
 | cons p R ih=>
  obtain⟨k,q⟩:=p
  simp only[List.cons_append]
  rw[Lo.Zg] at h ⊢
  split at h
  .rename_i e; rw[if_pos e]; exact h
  rename_i e; rw[if_neg e]; exact ih h
theorem Lo.ZiC{R L:Lo}{i:Nat}(h:i ∉ R.map (·.1)):Lo.get (R++L) i=L.get i:=by
 induction R with
 | nil=>rfl
 | cons p R ih=>
  obtain⟨k,q⟩:=p
  simp only[List.map_cons,List.mem_cons,not_or] at h
  simp only[List.cons_append]
  rw[Lo.Zg,if_neg (fun e=>h.1 e.symm)]
  exact ih h.2
theorem Lo.ZhJ{R:Lo}{i:Nat}{x:Ow}(h:R.get i=some x):i ∈ R.map (·.1):=by
 induction R with
 | nil=>simp[Lo.get] at h
 | cons p R ih=>
  obtain⟨k,q⟩:=p
  rw[Lo.Zg] at h
  split at h
  .rename_i e; simp[e]
  simp only[List.map_cons,List.mem_cons]; exact .inr (ih h)
def YCtr(P:Program)(l:Nat)(u:Value)(L1:Lo)(pre:Mem->Prop)(post:Mem->Lo->Bool->Prop):Prop:=
 ∀ w G,Hp G L1 w->pre G->YieldAt Fence.wide 0 P l #[u] w fun e w'=>∃ b G' L',e = .returned (.bool b)/\Ext w G L1 w' G' L'/\post G' L' b
section
variable {P:Program}{N:Nat}{Q:Post}{fr:Fr}{S:Asrt}{ops:Array Oper}{l:List Oper}{dst:Option Nat}{ty:TypeId}{pos:String}{af:Array Edge}{g:Option (Nat×Bool)}
variable {w0:Bs}{G0 G:Mem}{L:Lo}
def WCI(P:Program)(N l:Nat)(c:Code)(Q:Post)(fr:Fr)(S:Asrt):Prop:=∀ a w,Rel N fr a->S w->c.wpIn (Fence.wide.inRound l) 0 P Q a w
theorem Zbx{K:Act->World->Prop}(h:¬ LetsOut Q):¬ LetsOut (Exit.then K Q):=fun ⟨a,w,h'⟩=>h ⟨a,w,h'⟩
theorem Zaa{id:Nat}(h:¬ LetsOut Q):¬ LetsOut (Exit.inBlock id Q):=fun ⟨a,w,h'⟩=>h ⟨a,w,h'⟩
section
variable {r:Nat}
theorem WCI.seq{x y:Code}(h:WCI P N r x (Exit.then (y.wpIn (Fence.wide.inRound r) 0 P Q) Q) fr S):WCI P N r (.seq x y) Q fr S:=fun a w ha hs=>wpIn_seq (h a w ha hs)
theorem WCI.then{c:Code}(h:WCI P N r c Q fr S):WE N (Exit.then (c.wpIn (Fence.wide.inRound r) 0 P Q) Q) .normal fr S:=h
theorem WCI.skip(h:WE N Q .normal fr S):WCI P N r .skip Q fr S:=fun a w ha hs=>wpIn_skip (h a w ha hs)
theorem WCI.exit{id:Nat}(h:WE N Q (.exit id) fr S):WCI P N r (.exit id) Q fr S:=fun a w ha hs=>wpIn_exit (h a w ha hs)
theorem WCI.block{id:Nat}{c:Code}(h:WCI P N r c (Exit.inBlock id Q) fr S):WCI P N r (.block id c) Q fr S:=fun a w ha hs=>wpIn_block (h a w ha hs)
theorem WCI.region{id:Nat}{l:List Oper}(hQ:¬ LetsOut Q)(hd:l.all (fun o=>match o.op with | .defer _=>false|_=>true)=true)(h:WL P N l.toArray Q l fr S):WCI P N r (.region id l.toArray false) Q fr S:=fun a w ha hs=>
 ZfZ hQ (fun o ho c e=>by have:=List.all_eq_true.1 hd o ho; rw[e] at this; cases this) (h a w ha hs)
theorem WCI.condD{c:Operand}{x y:Code}{p:Prop}[Decidable p](hc:fr.ev c=some (.bool (decide p)))(ht:p->WCI P N r x Q fr S)(hf:¬ p->WCI P N r y Q fr S):WCI P N r (.cond c x y) Q fr S:=fun a w ha hs=>by
 by_cases h:p
 .exact wpIn_cond_true (by rw[ha.ev hc,decide_eq_true h]) (ht h a w ha hs)
 exact wpIn_cond_false (by rw[ha.ev hc,decide_eq_false h]) (hf h a w ha hs)
end
theorem Ext.weaken{w w':World}{G':Mem}{L1 L2 L3:Lo}(h:Ext w G L1 w' G' L2)(hs:Lo.sub L3 L2):Ext w G L1 w' G' L3:=
 { h with loc:=fun i x hx=>h.loc i x (hs i x hx),dist:=fun i j x y hne e1 e2=>h.dist i j x y hne (hs _ _ e1) (hs _ _ e2) }
def RoundQ(w0:Bs)(G:Mem)(l:Nat)(r:Loop)(post:Mem->Lo->Bool->Prop):Post:=fun e _ w=>match e with
 | .normal=>∃ G2 L2 L3,St w0 G G2 L2 w/\L2.get 8001=some ⟨l,.loop { r with state:=.busy },0⟩/\Lo.sub L3 ((8001,some ⟨l,.loop r,0⟩)::L2)/\post G2 L3 true
 | .ret=>∃ G2 L2 L3,St w0 G G2 L2 w/\L2.get 8001=some ⟨l,.loop { r with state:=.busy },0⟩/\Lo.sub L3 ((8001,some ⟨l,.loop { r with state:=.done,pending:=some .ret },0⟩)::L2)/\post G2 L3 false
 | _=>False
theorem Zab{l:Nat}{r:Loop}{post:Mem->Lo->Bool->Prop}:¬ LetsOut (RoundQ w0 G l r post):=fun ⟨_,_,h⟩=>h
theorem ZeV{K:Act->World->Prop}:¬ LetsOut (Exit.then K fun _ _ _=>False):=fun ⟨_,_,h⟩=>h
theorem YCtr.Zg6{r:Loop}{l t:Nat}{u:Value}{Lc:Lo}{pre:Mem->Prop}{post:Mem->Lo->Bool->Prop}(hl:Lc.get 8001=some ⟨l,.loop r,0⟩)(hst:r.state = .ready)(hpe:r.pending=none)(hps:r.params = #[t])(hrel:Rel N fr ⟨r.tmps.setIfInBounds t u,[]⟩)
  (h:∀ w0 G,w0.L=Lc->pre G->WCI P N l r.assign (Exit.then (fun a w=>∃ fr1 G1 L1,Rel N fr1 a/\St w0 G G1 L1 w/\L1.get 8001=some ⟨l,.loop r,0⟩/\
   WCI P N l r.body (RoundQ w0 G l r post) fr1 (St w0 G G1 ((8001,some ⟨l,.loop { r with state:=.busy },0⟩)::L1))) fun _ _ _=>False) fr (St w0 G G Lc)):YCtr P l u Lc pre post:=by
 intro w G hH hp
 have hb:=(hH.loc 8001 _ hl).1
 refine⟨r.fn,r.tmps.setIfInBounds t u,r.assign,r.body,?_,?_⟩
 .have:=run_yield (P:=P) (args:=#[u]) hb (by rw[hps]; rfl)
  rw[hps] at this
  simpa using this
 refine roundIn_of_wpIn trivial (Code.wpIn_mono (fun e a w' hq=>?_) (h ⟨w,Lc⟩ G rfl hp _ w hrel hH.st))
 cases e with
 | normal=>
  obtain⟨fr1,G1,L1,ha1,hs1,hl1,hw⟩:=hq
  have hb1:=(hs1.loc 8001 _ hl1).1
  refine⟨_,run_beginRound hb1 hst,?_⟩
  have hs2:=hs1.putLoop (r':={ r with state:=.busy }) hl1
  refine Code.wpIn_mono (fun e a w' hq=>?_) (hw a _ ha1 hs2)
  cases e with
  | normal=>
   obtain⟨G2,L2,L3,hs3,hl3,hsub,hpost⟩:=hq
   have hb3:=(hs3.loc 8001 _ hl3).1
   refine⟨_,_,run_endRound none hb3,true,G2,L3,rfl,?_,hpost⟩
   have hs4:=hs3.putLoop (r':={ { r with state:=.busy } with state:=if (none:Option Code).isNone then .ready else .done,pending:=none }) hl3
   have e1:({ { r with state:=.busy } with state:=if (none:Option Code).isNone then .ready else .done,pending:=none }:Loop)=r:=by
    obtain⟨s,p,f,t,ps,as1,bo,d⟩:=r
    simp only at hst hpe
    subst hst hpe
    rfl
   rw[e1] at hs4 ⊢
   exact hs4.toExt.weaken hsub
  | ret=>
   obtain⟨G2,L2,L3,hs3,hl3,hsub,hpost⟩:=hq
   have hb3:=(hs3.loc 8001 _ hl3).1
   refine⟨_,_,run_endRound (some .ret) hb3,false,G2,L3,rfl,?_,hpost⟩
   have hs4:=hs3.putLoop (r':={ { r with state:=.busy } with state:=if (some Code.ret).isNone then .ready else .done,pending:=some .ret }) hl3
   exact hs4.toExt.weaken hsub
  | exit id=>exact hq.elim
  | goto t=>exact hq.elim
  | panic c=>exact hq.elim
  | outgrown=>exact hq.elim
 | ret=>exact hq.elim
 | exit id=>exact hq.elim
 | goto t=>exact hq.elim
 | panic c=>exact hq.elim
 | outgrown=>exact hq.elim
end
end Go.EL
namespace Go.EL
open Go.IntKind (i8 i16 i32 i64 u8 u16 u32 u64)
open Go Go.RowKit Go.Proofs
section
variable {P:Program}{N:Nat}{Q:Post}{fr:Fr}{ops:Array Oper}{l:List Oper}{fn:Func}{w0:Bs}{G0 G:Mem}{L:Lo}{ty:TypeId}{pos:String}{af:Array Edge}{g:Option (Nat×Bool)}{S:Asrt}
def WLD(P:Program)(N:Nat)(D:List Deferred)(ops:Array Oper)(Q:Post)(l:List Oper)(fr:Fr)(S:Asrt):Prop:=∀ a w,Rel N fr a->S w->wpList P ops Q l { a with defers:=D } w
theorem WLD.nil{D:List Deferred}(h:∀ a w,Rel N fr a->S w->Q .normal { a with defers:=D } w):WLD P N D ops Q [] fr S:=h
def RetD(fn:Func)(P:Program)(w0:Bs)(G0:Mem)(d:Nat)(post:Mem->Value->Prop)(tmps:Array Value)(w:World):Prop:=
 ∃ G2 L2 v,St w0 G0 G2 L2 w/\L2.get 8002=some ⟨d,.deferred (some []),0⟩/\(∀ w',St w0 G0 G2 ((8002,some ⟨d,.deferred none,0⟩)::L2) w'->(results fn tmps).run P w' = .ok v w')/\post G2 v
theorem RetD.of{rvs:List ResultVar}{d:Nat}{post:Mem->Value->Prop}{a:Act}{w:World}(vs:List Value)(hr:fn.results=rvs.toArray)(hl:rvs.length=vs.length)(hs:St w0 G0 G L w)(ha:Rel N fr a)(hd:L.get 8002=some ⟨d,.deferred (some []),0⟩)
  (h:∀ (i:Nat) (rv:ResultVar) (v:Value),rvs[i]? = some rv->vs[i]? = some v->RV P fr ((8002,some ⟨d,.deferred none,0⟩)::L) rv v) (hp:post G (if h:vs.toArray.size=1 then vs.toArray[0] else .tuple vs.toArray)):RetD fn P w0 G0 d post a.tmps w:=
 ⟨G,L,_,hs,hd,fun _ hs'=>Zdk hr hl (fun i rv v e1 e2=>(h i rv v e1 e2).run ha hs'),hp⟩
theorem Rel.round{a:Act}{t:Nat}{u:Value}(ha:Rel N fr a)(ht:t<N):Rel N ((t,u)::fr) ⟨a.tmps.setIfInBounds t u,[]⟩:=by
 have h:=ha.put u ht
 have e:a.put (some t) u=⟨a.tmps.setIfInBounds t u,[]⟩:=by simp[Act.put,ha.defers]
 rw[e] at h
 exact h
end
end Go.EL
namespace Go.EL
open Go.IntKind (i8 i16 i32 i64 u8 u16 u32 u64)
open Go Go.RowKit Go.Proofs
section
variable {P:Program}{N:Nat}{Q:Post}{fr:Fr}{Bt:Asrt}{w0:Bs}{G0 G:Mem}{L:Lo}{ops:Array Oper}{fs:List Bool}{l:List Oper}{det:Fr}{und:Und}
def RowM{α:Type}(r:Rp α)(e:TypeId)(mk:Option Addr->Nat->Value)(d:Nat)(xs:List α):Value->Gx->Prop:=fun v g=>∃ p c tk,v=mk p c/\RowR r e g.m (.slice p xs.length c) xs tk/\∀ y,tk=some y->g.x y.b=some (d,y.o)
variable {α:Type}{r:Rp α}{e:TypeId}{mk:Option Addr->Nat->Value}{d:Nat}{xs:List α}
theorem RowM.mono{v:Value}{g g':Gx}(hle:Gx.leE d g g'):RowM r e mk d xs v g->RowM r e mk d xs v g':=fun ⟨p,c,tk,h1,h2,h3⟩=>⟨p,c,tk,h1,h2.mono hle.1,fun y hy=>hle.2 _ _ (h3 y hy)⟩
theorem RowM.drop{d':Nat}{v:Value}{g:Gx}{tk:Option Ow}(h:RowM r e mk d xs v g)(hne:Nat.beq d d'=false)(ht:∀ y,tk=some y->g.x y.b=some (d',y.o)):RowM r e mk d xs v (g.drop tk):=by
 obtain⟨p,c,tk',h1,h2,h3⟩:=h
 obtain⟨p',c',tk2,k1,k2,k3⟩:=RowX.drop (v:=.slice p xs.length c) ⟨p,c,tk',rfl,h2,h3⟩ hne ht
 cases k1
 exact⟨p,c,tk2,h1,k2,k3⟩
end
end Go.EL
namespace Go.EL
open Go.IntKind (i8 i16 i32 i64 u8 u16 u32 u64)
open Go Go.RowKit Go.Proofs
section
variable {P:Program}{N:Nat}{Q:Post}{fr:Fr}{S:Asrt}{ops:Array Oper}{l:List Oper}
def skB(ops:Array Oper)(fr:Fr)(N j:Nat)(c:Bool)(ds:List (Option Nat)):Bool:=
 match (ops[j]?).bind (·.dst) with
 | some d=>(match fr.get d with|some (.bool v)=>v == !c|_=>false) && ds.all fun x=>match x with|some t=>Nat.blt t N && !(Nat.beq t d)|none=>true
 | none=>false
theorem ZjP{j:Nat}{c:Bool}{ds:List (Option Nat)}(h:skB ops fr N j c ds=true):∃ d,(ops[j]?).bind (·.dst)=some d/\fr.get d=some (.bool (!c))/\∀ x ∈ ds,dstOK N x/\x≠some d:=by
 unfold skB at h
 split at h
 .rename_i d hd
  rw[Bool.and_eq_true,List.all_eq_true] at h
  refine⟨d,hd,?_,fun x hx=>?_⟩
  .have h1:=h.1
   split at h1
   .rename_i v hv
    rw[hv,beq_iff_eq.1 h1]
   cases h1
  have h2:=h.2 x hx
  cases x with
  | none=>exact⟨trivial,by simp⟩
  | some t=>
   rw[Bool.and_eq_true] at h2
   refine⟨h2.1,fun e=>?_⟩
   cases e
   have:=h2.2
   simp at this
 cases h
theorem Zkl{d:Nat}{x:Option Nat}{v:Value}(h:x≠some d):(putFr x v fr).get d=fr.get d:=by
 cases x with
 | none=>rfl
 | some t=>
  show (bif Nat.beq t d then some v else fr.get d)=_
  have:Nat.beq t d=false:=by
   cases hb:Nat.beq t d with
   | false=>rfl
   | true=>exact absurd (by rw[Nat.eq_of_beq_eq_true hb]) h
  rw[this]; rfl
theorem skStep{j d:Nat}{c:Bool}{dst:Option Nat}{op:Op}{ty:TypeId}{pos:String}{af:Array Edge}(h1:(ops[j]?).bind (·.dst)=some d)(h2:fr.get d=some (.bool (!c)))(hd:dstOK N dst)(k:WL P N ops Q l (putFr dst undef fr) S):WL P N ops Q (⟨dst,op,ty,pos,af,some (j,c)⟩::l) fr S:=WL.skip (Zjv h1 h2) hd k
theorem skCons{j:Nat}{c:Bool}{x:Option Nat}{ds:List (Option Nat)}{op:Op}{ty:TypeId}{pos:String}{af:Array Edge}(h:skB ops fr N j c (x::ds)=true)(k:skB ops (putFr x undef fr) N j c ds=true->WL P N ops Q l (putFr x undef fr) S):WL P N ops Q (⟨x,op,ty,pos,af,some (j,c)⟩::l) fr S:=by
 obtain⟨d,h1,h2,h3⟩:=ZjP h
 have hx:=h3 x (by simp)
 refine skStep h1 h2 hx.1 (k ?_)
 unfold skB at h ⊢
 rw[h1] at h ⊢
 simp only[List.all_cons,Bool.and_eq_true] at h ⊢
 rw[Zkl hx.2]
 exact⟨h.1,h.2.2⟩
variable {j:Nat}{c:Bool}{d0 d1 d2 d3 d4 d5 d6 d7 d8:Option Nat}{o0 o1 o2 o3 o4 o5 o6 o7 o8:Op}{t0 t1 t2 t3 t4 t5 t6 t7 t8:TypeId}{p0 p1 p2 p3 p4 p5 p6 p7 p8:String}{a0 a1 a2 a3 a4 a5 a6 a7 a8:Array Edge}
theorem sn2(h:skB ops fr N j c [d0,d1]=true)(k:WL P N ops Q l (putFr d1 undef (putFr d0 undef fr)) S):WL P N ops Q (⟨d0,o0,t0,p0,a0,some (j,c)⟩::⟨d1,o1,t1,p1,a1,some (j,c)⟩::l) fr S:=skCons h fun h=>skCons h fun _=>k
theorem sn3(h:skB ops fr N j c [d0,d1,d2]=true)(k:WL P N ops Q l (putFr d2 undef (putFr d1 undef (putFr d0 undef fr))) S):WL P N ops Q (⟨d0,o0,t0,p0,a0,some (j,c)⟩::⟨d1,o1,t1,p1,a1,some (j,c)⟩::⟨d2,o2,t2,p2,a2,some (j,c)⟩::l) fr S:=skCons h fun h=>sn2 h k
theorem sn4(h:skB ops fr N j c [d0,d1,d2,d3]=true)(k:WL P N ops Q l (putFr d3 undef (putFr d2 undef (putFr d1 undef (putFr d0 undef fr)))) S):WL P N ops Q (⟨d0,o0,t0,p0,a0,some (j,c)⟩::⟨d1,o1,t1,p1,a1,some (j,c)⟩::⟨d2,o2,t2,p2,a2,some (j,c)⟩::⟨d3,o3,t3,p3,a3,some (j,c)⟩::l) fr S:=skCons h fun h=>sn3 h k
theorem sn5(h:skB ops fr N j c [d0,d1,d2,d3,d4]=true)(k:WL P N ops Q l (putFr d4 undef (putFr d3 undef (putFr d2 undef (putFr d1 undef (putFr d0 undef fr))))) S):WL P N ops Q (⟨d0,o0,t0,p0,a0,some (j,c)⟩::⟨d1,o1,t1,p1,a1,some (j,c)⟩::⟨d2,o2,t2,p2,a2,some (j,c)⟩::⟨d3,o3,t3,p3,a3,some (j,c)⟩::⟨d4,o4,t4,p4,a4,some (j,c)⟩::l) fr S:=skCons h fun h=>sn4 h k
theorem sn6(h:skB ops fr N j c [d0,d1,d2,d3,d4,d5]=true)(k:WL P N ops Q l (putFr d5 undef (putFr d4 undef (putFr d3 undef (putFr d2 undef (putFr d1 undef (putFr d0 undef fr)))))) S):WL P N ops Q (⟨d0,o0,t0,p0,a0,some (j,c)⟩::⟨d1,o1,t1,p1,a1,some (j,c)⟩::⟨d2,o2,t2,p2,a2,some (j,c)⟩::⟨d3,o3,t3,p3,a3,some (j,c)⟩::⟨d4,o4,t4,p4,a4,some (j,c)⟩::⟨d5,o5,t5,p5,a5,some (j,c)⟩::l) fr S:=skCons h fun h=>sn5 h k
theorem sn7(h:skB ops fr N j c [d0,d1,d2,d3,d4,d5,d6]=true)(k:WL P N ops Q l (putFr d6 undef (putFr d5 undef (putFr d4 undef (putFr d3 undef (putFr d2 undef (putFr d1 undef (putFr d0 undef fr))))))) S):WL P N ops Q (⟨d0,o0,t0,p0,a0,some (j,c)⟩::⟨d1,o1,t1,p1,a1,some (j,c)⟩::⟨d2,o2,t2,p2,a2,some (j,c)⟩::⟨d3,o3,t3,p3,a3,some (j,c)⟩::⟨d4,o4,t4,p4,a4,some (j,c)⟩::⟨d5,o5,t5,p5,a5,some (j,c)⟩::⟨d6,o6,t6,p6,a6,some (j,c)⟩::l) fr S:=skCons h fun h=>sn6 h k
theorem sn8(h:skB ops fr N j c [d0,d1,d2,d3,d4,d5,d6,d7]=true)(k:WL P N ops Q l (putFr d7 undef (putFr d6 undef (putFr d5 undef (putFr d4 undef (putFr d3 undef (putFr d2 undef (putFr d1 undef (putFr d0 undef fr)))))))) S):WL P N ops Q (⟨d0,o0,t0,p0,a0,some (j,c)⟩::⟨d1,o1,t1,p1,a1,some (j,c)⟩::⟨d2,o2,t2,p2,a2,some (j,c)⟩::⟨d3,o3,t3,p3,a3,some (j,c)⟩::⟨d4,o4,t4,p4,a4,some (j,c)⟩::⟨d5,o5,t5,p5,a5,some (j,c)⟩::⟨d6,o6,t6,p6,a6,some (j,c)⟩::⟨d7,o7,t7,p7,a7,some (j,c)⟩::l) fr S:=skCons h fun h=>sn7 h k
end
end Go.EL
namespace Go.EL
open Go.IntKind (i8 i16 i32 i64 u8 u16 u32 u64)
open Go Go.RowKit Go.Proofs
end Go.EL
namespace Go.EL
open Go.IntKind (i8 i16 i32 i64 u8 u16 u32 u64)
open Go Go.RowKit Go.Proofs Go.MapKept
section
variable {P:Program}{N:Nat}{Q:Post}{fr:Fr}{S:Asrt}{ops:Array Oper}{l:List Oper}{dst:Option Nat}{ty:TypeId}{pos:String}{af:Array Edge}{g:Option (Nat×Bool)}{w0:Bs}{G0 G:Mem}{L:Lo}
theorem YC.ofB{f:FuncId}{x:Operand}{args:Array Operand}{ats:Array TypeId}{vs:List Value}{rc:Value}(he:Enters P f)(hx:fr.ev x=some (.func (.func f) #[rc] #[]))(hv:fr.evs args.toList=some vs):
  YC P N ⟨dst,.call ⟨.value x,args,ats⟩,ty,pos,af,g⟩ fr S f (rc::vs).toArray:=fun a w ha _=>by
 have e1:args.map a.eval=vs.toArray:=by apply Array.ext'; simpa using ha.evs _ _ hv
 simpa [execOp,resolve,e1,ha.ev hx,Deferred.ofValue,invoke] using he (rc::vs).toArray w
end
section
variable {P:Program}{kt:TypeId}{K V:Type} [DecidableEq K] {ky:Ky P kt K}{r:Rp V}
variable {N:Nat}{Q:Post}{fr:Fr}{S:Asrt}{ops:Array Oper}{l:List Oper}{dst:Option Nat}{ty:TypeId}{pos:String}{af:Array Edge}{g:Option (Nat×Bool)}{w0:Bs}{G0 G:Mem}{L:Lo}
variable {fs:List Bool}{det:Fr}{und:Und}{d:Nat}{op:Op}
def MapG(ky:Ky P kt K)(r:Rp V)(d:Nat)(D:List (K×V)):Value->Gx->Prop:=fun v g=>∃ b tk,v = .map (some b)/\MapR ky (RvA r g.m) (.map (some b)) D tk/\∀ y,tk=some y->g.x y.b=some (d,y.o)
omit [DecidableEq K] in
theorem MapG.mono{v:Value}{D:List (K×V)}{g g':Gx}(hle:Gx.leE d g g'):MapG ky r d D v g->MapG ky r d D v g':=fun ⟨b,tk,h1,h2,h3⟩=>⟨b,tk,h1,h2.monoA hle.1,fun y hy=>hle.2 _ _ (h3 y hy)⟩
omit [DecidableEq K] in
theorem MapG.drop{d':Nat}{v:Value}{D:List (K×V)}{g:Gx}{tk:Option Ow}(h:MapG ky r d D v g)(hne:Nat.beq d d'=false)(ht:∀ y,tk=some y->g.x y.b=some (d',y.o)):MapG ky r d D v (g.drop tk):=
 h.mono (g':=g.drop tk) ⟨(fun _ _ _ h=>h:Mem.le g.m g.m),fun b o hb=>by
  have hn:¬ tk.any (fun y=>Nat.beq y.b b)=true:=fun ha=>by
   obtain⟨y,h1,h2⟩:=ZeD.1 ha
   have:=ht y h1
   rw[h2,hb] at this
   cases this
   simp at hne
  simp only[Gx.drop,if_neg hn]
  exact hb⟩
omit [DecidableEq K] in
omit [DecidableEq K] in
end
end Go.EL
namespace Go.EL
open Go.IntKind (i8 i16 i32 i64 u8 u16 u32 u64)
open Go Go.RowKit Go.Proofs Go.MapKept
theorem CtrL.absurd{P:Program}{f:FuncId}{args:Array Value}{L0:Lo}{pre:Mem->Prop}{post:Mem->Lo->Value->Prop}(h:∀ G,pre G->False):CtrL P f args L0 pre post:=fun _ G _ hp=>(h G hp).elim
end Go.EL
namespace Go.EL
open Go.IntKind (i8 i16 i32 i64 u8 u16 u32 u64)
open Go Go.RowKit Go.Proofs Go.MapKept
def wrow{α:Type}(W:Nat->Nat->α)(i n:Nat):List α:=(List.range n).map fun k=>W i (k+1)
structure PwN {α:Type}(r:Rp α) (e tk tq:TypeId) (W:Nat->Nat->α) (q:List α) (Nf:Nat->Nat) (G:Mem) (T:Lo) (kb qb:Nat):Prop where
 keys:∀ p ∈ T,8000000<=p.1
 zero:T.zero
 known:∃ cs:List Value,T.get 8000101=some ⟨kb,.cells cs.toArray tk (0,0),0⟩/\cs.length=8/\∀ i,i<8->∃ p c,cs[i]? = some (.slice p (Nf i) c)/\RowR r e G (.slice p (Nf i) c) (wrow W i (Nf i)) (T.get (kcode (i:Int)))
 box:∃ cs u,T.get 8000103=some ⟨qb,.cells cs.toArray tq (0,0),0⟩/\ArRd r 8 G cs u q
def PwR{α:Type}(r:Rp α)(e tk tq:TypeId)(W:Nat->Nat->α)(q:List α)(G:Mem)(T:Lo)(kb qb:Nat):Prop:=∃ Nf,PwN r e tk tq W q Nf G T kb qb
theorem Zb3(i:Nat):kcode (i:Int)=8000000+2*i:=by simp[kcode]
theorem Lo.Zju{T L:Lo}(hT:∀ p ∈ T,8000000<=p.1){i:Nat}(hi:i<8000000):(T++L).get i=L.get i:=by
 induction T with
 | nil=>rfl
 | cons p T ih=>
  have:=hT p (by simp)
  obtain⟨j,x⟩:=p
  rw[List.cons_append,Lo.Zg,if_neg (by simp only at this; omega)]
  exact ih fun q hq=>hT q (by simp[hq])
theorem Lo.Zjs{T:Lo}(hT:∀ p ∈ T,8000000<=p.1)(i:Nat)(x:Ow)(h:T.get i=some x):8000000<=i:=by
 by_cases hi:i<8000000
 .have:=Lo.Zju (L:=[]) hT hi
  rw[List.append_nil] at this
  rw[this] at h; simp[Lo.get] at h
 omega
section
variable {α:Type}{r:Rp α}{e tk tq:TypeId}{W:Nat->Nat->α}{q:List α}{Nf:Nat->Nat}{G G':Mem}{T:Lo}{kb qb:Nat}
theorem PwN.mono(h:PwN r e tk tq W q Nf G T kb qb)(hle:Mem.le G G'):PwN r e tk tq W q Nf G' T kb qb:=
 ⟨h.keys,h.zero,by
  obtain⟨cs,h1,h2,h3⟩:=h.known
  exact⟨cs,h1,h2,fun i hi=>by obtain⟨p,c,q1,q2⟩:=h3 i hi; exact⟨p,c,q1,q2.mono hle⟩⟩,by
  obtain⟨cs,u,h1,h2⟩:=h.box
  exact⟨cs,u,h1,h2.mono hle⟩⟩
theorem PwR.mono(h:PwR r e tk tq W q G T kb qb)(hle:Mem.le G G'):PwR r e tk tq W q G' T kb qb:=let ⟨Nf,h⟩:=h; ⟨Nf,h.mono hle⟩
theorem PwR.keys(h:PwR r e tk tq W q G T kb qb):∀ p ∈ T,8000000<=p.1:=let ⟨_,h⟩:=h; h.keys
theorem PwR.high(h:PwR r e tk tq W q G T kb qb):∀ i x,T.get i=some x->8000000<=i:=fun i x=>Lo.Zjs h.keys i x
theorem PwN.put(h:PwN r e tk tq W q Nf G T kb qb){cs:List Value}(hcs:T.get 8000101=some ⟨kb,.cells cs.toArray tk (0,0),0⟩){j n:Nat}{p:Option Addr}{c:Nat}{t':Option Ow}(hj:j<8)(hrow:RowR r e G (.slice p n c) (wrow W j n) t'):
  PwN r e tk tq W q (fun i=>if i=j then n else Nf i) G ((8000101,some ⟨kb,.cells (cs.set j (.slice p n c)).toArray tk (0,0),0⟩)::(kcode (j:Int),t')::T) kb qb:=by
 obtain⟨cs',h1,h2,h3⟩:=h.known
 have hc:cs'=cs:=by rw[h1] at hcs; simpa using hcs
 subst hc
 refine⟨fun p hp=>?_,fun p hp x hx=>?_,⟨_,by rw[Lo.Zg,if_pos rfl],by rw[List.length_set,h2],fun i hi=>?_⟩,?_⟩
 .rcases List.mem_cons.1 hp with rfl|hp
  .show 8000000<=8000101; omega
  rcases List.mem_cons.1 hp with rfl|hp
  .exact ZgZ _
  exact h.keys p hp
 .rcases List.mem_cons.1 hp with rfl|hp
  .cases hx; rfl
  rcases List.mem_cons.1 hp with rfl|hp
  .exact hrow.zero hx
  exact h.zero p hp x hx
 .by_cases hij:i=j
  .subst hij
   refine⟨p,c,?_,?_⟩
   .rw[List.getElem?_set,if_pos rfl,if_pos (by omega),if_pos rfl]
   rw[if_pos rfl,Lo.Zg,if_neg (by rw[Zb3]; omega),Lo.Zg,if_pos rfl]
   exact hrow
  obtain⟨p',c',q1,q2⟩:=h3 i hi
  refine⟨p',c',?_,?_⟩
  .rw[List.getElem?_set,if_neg (fun e=>hij e.symm),if_neg hij]; exact q1
  rw[if_neg hij,Lo.Zg,if_neg (by rw[Zb3]; omega),Lo.Zg,if_neg (by rw[Zb3,Zb3]; omega)]
  exact q2
 obtain⟨bs,u,q1,q2⟩:=h.box
 refine⟨bs,u,?_,q2⟩
 rw[Lo.Zg,if_neg (by decide),Lo.Zg,if_neg (by rw[Zb3]; omega)]
 exact q1
end
end Go.EL
namespace Go.EL
open Go.IntKind (i8 i16 i32 i64 u8 u16 u32 u64)
open Go Go.RowKit Go.Proofs Go.MapKept
end Go.EL
namespace Go.EL
open Go.IntKind (i8 i16 i32 i64 u8 u16 u32 u64)
open Go Go.RowKit Go.Proofs Go.MapKept
end Go.EL
namespace Go.EL
open Go.IntKind (i8 i16 i32 i64 u8 u16 u32 u64)
open Go Go.RowKit Go.Proofs Go.MapKept
section
variable {P:Program}{Q:Post}{md:Region.Mode}
def SameOp(o o':Oper):Prop:=o'.dst=o.dst/\o'.op=o.op/\o'.type=o.type/\o'.pos=o.pos/\o.guard=none/\o'.guard=none
theorem SameOp.wp{o o':Oper}(h:SameOp o o'){a:Act}{w:World}{K K':Act->World->Prop}(hK:∀ a w,K' a w->K a w)(k:o'.wp P a w K' Q):o.wp P a w K Q:=by
 obtain⟨d,op,ty,pos,af,g⟩:=o
 obtain⟨d',op',ty',pos',af',g'⟩:=o'
 obtain⟨h1,h2,h3,h4,h5,h6⟩:=h
 simp only at h1 h2 h3 h4 h5 h6
 subst h1 h2 h3 h4 h5 h6
 exact Oper.Zhj hK k
theorem SameOp.asks{o o':Oper}(h:SameOp o o'){a:Act}{w:World}(k:o'.asks P a w):o.asks P a w:=by
 obtain⟨d,op,ty,pos,af,g⟩:=o
 obtain⟨d',op',ty',pos',af',g'⟩:=o'
 obtain⟨h1,h2,h3,h4,h5,h6⟩:=h
 simp only at h1 h2 h3 h4 h5 h6
 subst h1 h2 h3 h4 h5 h6
 exact k
structure Turned (md:Region.Mode) (l l':Array Oper) (σ τ:Nat->Nat):Prop where
 size:l'.size=l.size
 lt:∀ i,i<l.size->σ i<l.size
 lt':∀ j,j<l.size->τ j<l.size
 st:∀ j,j<l.size->σ (τ j)=j
 inj:∀ i k,i<l.size->k<l.size->σ i=σ k->i=k
 op:∀ i o,l[i]? = some o->∃ o',l'[σ i]? = some o'/\SameOp o o'/\(∀ e ∈ o.after,Region.binds md e=true->e.on<l.size/\∃ e' ∈ o'.after,Region.binds md e'=true/\e'.on=σ e.on)/\∀ e' ∈ o'.after,Region.binds md e'=true->∃ e ∈ o.after,Region.binds md e=true/\e'.on=σ e.on
theorem Turned.any{l l':Array Oper}{σ τ:Nat->Nat}(h:Turned md l l' σ τ):∀ (fuel:Nat) (m m':Array Bool) (a:Act) (w:World),m.size=l.size->m'.size=l.size->(∀ i,i<l.size->m'[σ i]? = m[i]?)->
  wpAny P md l' Q fuel m' a w->wpAny P md l Q fuel m a w:=by
 have at':∀ (m m':Array Bool),m.size=l.size->m'.size=l.size->(∀ i,i<l.size->m'[σ i]? = m[i]?)->∀ i,i<l.size->(i ∈ Region.ready md l m↔σ i ∈ Region.ready md l' m'):=by
  intro m m' hm hm' hmm i hi
  rw[mem_ready,mem_ready]
  have hb:∀ k d,k<l.size->m'.getD (σ k) d=m.getD k d:=fun k d hk=>by rw[Array.getD_eq_getD_getElem?,Array.getD_eq_getD_getElem?,hmm k hk]
  rw[hb i true hi]
  constructor
  .rintro⟨h1,o,ho,h2⟩
   obtain⟨o',ho',_,e1,e2⟩:=h.op i o ho
   refine⟨h1,o',ho',fun e' he' hb'=>?_⟩
   obtain⟨e,he,hbe,eq⟩:=e2 e' he' hb'
   rw[eq,hb e.on false (e1 e he hbe).1]
   exact h2 e he hbe
  rintro⟨h1,o',ho',h2⟩
  obtain⟨o,ho⟩:∃ o,l[i]? = some o:=⟨_,Array.getElem?_eq_getElem hi⟩
  obtain⟨o2,ho2,_,e1,e2⟩:=h.op i o ho
  rw[ho'] at ho2
  cases ho2
  refine⟨h1,o,ho,fun e he hbe=>?_⟩
  obtain⟨q1,e',he',hb',eq⟩:=e1 e he hbe
  rw[<- hb e.on false q1,<- eq]
  exact h2 e' he' hb'
 have inl:∀ (m:Array Bool) i,i ∈ Region.ready md l m->i<l.size:=fun m i hi=>by
  obtain⟨_,o,ho,_⟩:=mem_ready.1 hi
  exact (Array.getElem?_eq_some_iff.1 ho).1
 have inl':∀ (m:Array Bool) i,i ∈ Region.ready md l' m->i<l.size:=fun m i hi=>by
  obtain⟨_,o,ho,_⟩:=mem_ready.1 hi
  have:=(Array.getElem?_eq_some_iff.1 ho).1
  rw[h.size] at this
  exact this
 have none':∀ (m m':Array Bool),m.size=l.size->m'.size=l.size->(∀ i,i<l.size->m'[σ i]? = m[i]?)->Region.ready md l m=[]->Region.ready md l' m'=[]:=by
  intro m m' hm hm' hmm h0
  refine List.eq_nil_iff_forall_not_mem.2 fun j hj=>?_
  have hjl:=inl' m' j hj
  have:=(at' m m' hm hm' hmm (τ j) (h.lt' j hjl)).2 (by rw[h.st j hjl]; exact hj)
  rw[h0] at this
  cases this
 intro fuel
 induction fuel with
 | zero=>
  intro m m' a w hm hm' hmm k
  refine⟨?_,k.2⟩
  refine List.eq_nil_iff_forall_not_mem.2 fun i hi=>?_
  have:=(at' m m' hm hm' hmm i (inl m i hi)).1 hi
  rw[k.1] at this
  cases this
 | succ fuel ih=>
  intro m m' a w hm hm' hmm k
  refine⟨fun h0=>k.1 (none' m m' hm hm' hmm h0),fun i hi=>?_⟩
  have hil:=inl m i hi
  have hk:=k.2 (σ i) ((at' m m' hm hm' hmm i hil).1 hi)
  obtain⟨o,ho⟩:∃ o,l[i]? = some o:=⟨_,Array.getElem?_eq_getElem hil⟩
  obtain⟨o',ho',hs,_⟩:=h.op i o ho
  have next:∀ a w,wpAny P md l' Q fuel (m'.setIfInBounds (σ i) true) a w->wpAny P md l Q fuel (m.setIfInBounds i true) a w:=fun a w=>by
   refine ih _ _ a w (by simpa using hm) (by simpa using hm') fun q hq=>?_
   rw[Array.getElem?_setIfInBounds,Array.getElem?_setIfInBounds]
   by_cases e:i=q
   .subst e
    rw[if_pos rfl,if_pos rfl,hm,hm',if_pos hil,if_pos (h.lt i hil)]
   rw[if_neg e,if_neg fun e2=>e (h.inj i q hil hq e2)]
   exact hmm q hq
  unfold wpOp at hk ⊢
  rw[ho'] at hk
  rw[ho]
  simp only at hk ⊢
  have w1:Region.wanted o' (yielded l' a.tmps)=true:=by unfold Region.wanted; rw[hs.2.2.2.2.2]
  have w2:Region.wanted o (yielded l a.tmps)=true:=by unfold Region.wanted; rw[hs.2.2.2.2.1]
  rw[if_pos w1] at hk
  rw[if_pos w2]
  exact hk.imp (fun q=>hs.wp next q) fun q=>⟨hs.asks q.1,q.2⟩
end
end Go.EL
namespace Go.EL
open Go.IntKind (i8 i16 i32 i64 u8 u16 u32 u64)
open Go Go.RowKit Go.Proofs Go.MapKept
section
variable {P:Program}{N:Nat}{Q:Post}{fr:Fr}{w0:Bs}{G0 G:Mem}{L:Lo}{l l0:List Oper}{σ τ:Nat->Nat}
theorem WC.drawnTP{id:Nat}{Bt:Asrt}(ht:Turned .any l0.toArray l.toArray σ τ)(hBt:Mem.le G0 G->∀ (X:Gx) w,Gx.le (Gx.of G) X->StX w0 G0 X L w->Bt w)(fl:List Bool)(hm:P.follows .mixedOrders=true)(hB:drawB N l fl=true)(h:Mem.le G0 G->Chain P N Q fr w0 G0 G L l.toArray Bt fl l [] []):
  WC P N (.region id l0.toArray true) Q fr (St w0 G0 G L):=
 WC.drawnG (fun a w k=>wp_region_any hm (by
  have hs:=ht.size
  rw[hs] at k
  refine ht.any _ _ _ a _ (by simp) (by simp) (fun i hi=>?_) k
  have:=ht.lt i hi
  simp only[Array.getElem?_replicate,hs,if_pos hi,if_pos this])) hBt fl hB h
theorem WC.drawnBP{id:Nat}(ht:Turned .any l0.toArray l.toArray σ τ)(LF:Lo)(hsub:Lo.sub LF L)(fl:List Bool)(hm:P.follows .mixedOrders=true)(hB:drawB N l fl=true)(h:Mem.le G0 G->Chain P N Q fr w0 G0 G L l.toArray (St w0 G0 G LF) fl l [] []):
  WC P N (.region id l0.toArray true) Q fr (St w0 G0 G L):=WC.drawnTP ht (fun hb _ _ hle hs=>(hs.st.memLe hb hle.1).weaken hsub) fl hm hB h
end
end Go.EL
namespace Go.EL
open Go.IntKind (i8 i16 i32 i64 u8 u16 u32 u64)
open Go Go.RowKit Go.Proofs Go.MapKept
def renum(σ:Nat->Nat)(o:Oper):Oper:={ o with after:=o.after.map fun e=>{ e with on:=σ e.on } }
def permOps(p:List Nat)(l:List Oper):List Oper:=p.map fun i=>renum (fun j=>p.idxOf j) (l.getD i default)
def permB(p:List Nat)(l:List Oper):Bool:=decide (p.Nodup) && Nat.beq p.length l.length && (List.range l.length).all (fun i=>p.contains i) && p.all (fun i=>Nat.blt i l.length) && l.all fun o=>o.guard.isNone && o.after.toList.all fun e=>!Region.binds .any e || Nat.blt e.on l.length
theorem Zgq{p:List Nat}{l:List Oper}(h:permB p l=true):Turned .any l.toArray (permOps p l).toArray (fun i=>p.idxOf i) (fun j=>p.getD j 0):=by
 simp only[permB,Bool.and_eq_true,decide_eq_true_eq,List.all_eq_true,List.mem_range,List.contains_iff_mem,Nat.blt_eq,Bool.or_eq_true,Bool.not_eq_true'] at h
 obtain⟨⟨⟨⟨h1,h2⟩,h3⟩,h4⟩,h5⟩:=h
 have h2:p.length=l.length:=Nat.eq_of_beq_eq_true h2
 have hlt:∀ i,i<l.length->p.idxOf i<p.length:=fun i hi=>List.idxOf_lt_length_iff.2 (h3 i hi)
 have hat:∀ i (hi:i<l.length),p[p.idxOf i]'(hlt i hi)=i:=fun i hi=>List.getElem_idxOf (hlt i hi)
 refine⟨by simp[permOps,h2],fun i hi=>?_,fun j hj=>?_,fun j hj=>?_,fun i k hi hk e=>?_,fun i o ho=>?_⟩
 .have hi:i<l.length:=by simpa using hi
  show p.idxOf i<_
  have:=hlt i hi
  simp only[List.size_toArray]; omega
 .have hj:j<l.length:=by simpa using hj
  show p.getD j 0<_
  rw[List.getD_eq_getElem?_getD,List.getElem?_eq_getElem (by omega)]
  simpa using h4 _ (List.getElem_mem (by omega))
 .have hj:j<l.length:=by simpa using hj
  show p.idxOf (p.getD j 0)=j
  rw[List.getD_eq_getElem?_getD,List.getElem?_eq_getElem (by omega)]
  exact h1.idxOf_getElem j (by omega)
 .have hi:i<l.length:=by simpa using hi
  have hk:k<l.length:=by simpa using hk
  have e:p.idxOf i=p.idxOf k:=e
  rw[<- hat i hi,<- hat k hk]
  simp only[e]
 have hil:i<l.length:=by
  have:=(Array.getElem?_eq_some_iff.1 ho).1
  simpa using this
 have ho:l[i]? = some o:=by simpa using ho
 have hmem:o ∈ l:=List.mem_of_getElem? ho
 obtain⟨q1,q2⟩:=h5 o hmem
 have hg:o.guard=none:=by cases hg:o.guard with
  | none=>rfl
  | some x=>rw[hg] at q1; cases q1
 refine⟨renum (fun j=>p.idxOf j) o,?_,⟨rfl,rfl,rfl,rfl,hg,hg⟩,fun e he hb=>⟨?_,{ e with on:=p.idxOf e.on },?_,?_,rfl⟩,fun e' he' hb=>?_⟩
 .show (permOps p l).toArray[p.idxOf i]? = _
  simp only[permOps,List.getElem?_toArray,List.getElem?_map]
  rw[List.getElem?_eq_getElem (hlt i hil),hat i hil]
  simp only[Option.map_some,List.getD_eq_getElem?_getD,ho,Option.getD_some]
 .have:=q2 e (by simpa using he)
  rcases this with h|h
  .rw[h] at hb; cases hb
  simpa using h
 .simp only[renum,Array.mem_map]
  exact⟨e,he,rfl⟩
 .cases e; exact hb
 simp only[renum,Array.mem_map] at he'
 obtain⟨e,he,rfl⟩:=he'
 exact⟨e,he,by cases e; exact hb,rfl⟩
end Go.EL
namespace Go.EL
open Go.IntKind (i8 i16 i32 i64 u8 u16 u32 u64)
open Go Go.RowKit Go.Proofs Go.MapKept
section
variable {P:Program}{N:Nat}{Q Q':Post}{md:Region.Mode}{ops:Array Oper}
theorem Zjc{n r i:Nat}{K K':Act->World->Prop}{a:Act}{w:World}(hQ:¬ LetsOut Q)(hd:∀ (i:Nat) (o:Oper),ops[i]? = some o->∀ c,o.op≠.defer c)(hK:∀ a w,K a w->K' a w)(h:wpOp P ops Q i K a w):wpOpIn (Fence.wide.inRound r) n P ops Q i K' a w:=by
 unfold wpOp at h
 unfold wpOpIn
 cases e:ops[i]? with
 | none=>rw[e] at h; exact hK _ _ h
 | some o=>
  rw[e] at h
  dsimp only at h ⊢
  split at h
  .rename_i hw
   rw[if_pos hw]
   rcases h with h|h
   .exact ZhM (hd i o e) hK h
   exact absurd h.2 hQ
  rename_i hw
  rw[if_neg hw]
  exact⟨fun _ _=>trivial,hK _ _ h⟩
theorem ZdV{n r:Nat}(hQ:¬ LetsOut Q)(hd:∀ (i:Nat) (o:Oper),ops[i]? = some o->∀ c,o.op≠.defer c):∀ (fuel:Nat) (m:Array Bool) (a:Act) (w:World),wpAny P md ops Q fuel m a w->wpAnyIn (Fence.wide.inRound r) n P md ops Q fuel m a w
 | 0,_,_,_,h=>h
 | fuel+1,_,_,_,h=>⟨h.1,fun i hi=>Zjc hQ hd (fun a w=>ZdV hQ hd fuel _ a w) (h.2 i hi)⟩
def plus(a:Act)(D:List Deferred):Act:={ a with defers:=a.defers++D }
theorem ZbU(a:Act)(D:List Deferred)(d:Option Nat)(v:Value):(plus a D).put d v=plus (a.put d v) D:=by cases d <;> rfl
variable {D:List Deferred}
theorem ZhT{o:Oper}{a:Act}{w:World}{K K':Act->World->Prop}(hK:∀ a w,K a w->K' (plus a D) w)(hQ:∀ e a w,Q e a w->Q' e (plus a D) w)(h:o.wp P a w K Q):o.wp P (plus a D) w K' Q':=by
 have e1:(plus a D).eval=a.eval:=rfl
 unfold Oper.wp at *
 rw[e1]
 generalize (execOp a.eval o).run P w=r at *
 cases r with
 | ok nx w'=>
  cases nx <;> simp only[Oper.upon] at h ⊢
  case value v=>rw[ZbU]; exact hK _ _ h
  case skip=>rw[ZbU]; exact hK _ _ h
  case defer d=>
   have e2:({ plus a D with defers:=d::(plus a D).defers }:Act).put o.dst undef=plus (({ a with defers:=d::a.defers }:Act).put o.dst undef) D:=by cases o.dst <;> rfl
   rw[e2]; exact hK _ _ h
  case enter f args=>
   refine Calls.mono h fun e w'' he=>?_
   cases e with
   | returned v=>show K' ((plus a D).put o.dst v) w''; rw[ZbU]; exact hK _ _ he
   | panicked c=>exact hQ _ _ _ he
   | outgrown=>obtain⟨a',w',he⟩:=he; exact⟨_,_,hQ _ _ _ he⟩
  case row row args=>exact fun c cs=>let ⟨v,w',r,s⟩:=h c cs; ⟨v,w',by show K' ((plus a D).put o.dst v) w'; rw[ZbU]; exact hK _ _ r,s⟩
 | halt x w'=>cases x <;> first|exact h.elim|exact hQ _ _ _ h
theorem Zer(hQ:∀ e a w,Q e a w->Q' e (plus a D) w):LetsOut Q->LetsOut Q':=fun ⟨a,w,h⟩=>⟨_,_,hQ _ a w h⟩
theorem Zjd{i:Nat}{a:Act}{w:World}{K K':Act->World->Prop}(hK:∀ a w,K a w->K' (plus a D) w)(hQ:∀ e a w,Q e a w->Q' e (plus a D) w)(h:wpOp P ops Q i K a w):wpOp P ops Q' i K' (plus a D) w:=by
 unfold wpOp at *
 cases e:ops[i]? with
 | none=>rw[e] at h; exact hK _ _ h
 | some o=>
  rw[e] at h
  have e1:(plus a D).tmps=a.tmps:=rfl
  dsimp only at h ⊢
  rw[e1]
  split at h
  .rename_i hw
   rw[if_pos hw]
   exact h.imp (ZhT hK hQ) (fun ⟨h1,h2⟩=>⟨h1,Zer hQ h2⟩)
  rename_i hw
  rw[if_neg hw,ZbU]
  exact hK _ _ h
theorem ZfN(hQ:∀ e a w,Q e a w->Q' e (plus a D) w):∀ (fuel:Nat) (m:Array Bool) (a:Act) (w:World),wpAny P md ops Q fuel m a w->wpAny P md ops Q' fuel m (plus a D) w
 | 0,_,a,w,h=>⟨h.1,hQ _ a w h.2⟩
 | fuel+1,_,a,w,h=>⟨fun e=>hQ _ a w (h.1 e),fun i hi=>Zjd (fun a w=>ZfN hQ fuel _ a w) hQ (h.2 i hi)⟩
theorem Zdn(hQ:∀ e a w,Q e a w->Q' e (plus a D) w):∀ {l:List Oper}{a:Act}{w:World},wpList P ops Q l a w->wpList P ops Q' l (plus a D) w
 | [],a,w,h=>hQ _ a w h
 | o::l,a,w,h=>by
  unfold wpList at h ⊢
  have e1:(plus a D).tmps=a.tmps:=rfl
  rw[e1]
  split at h
  .rename_i hw
   rw[if_pos hw]
   exact h.imp (ZhT (fun a w h=>Zdn hQ h) hQ) (fun ⟨h1,h2⟩=>⟨h1,Zer hQ h2⟩)
  rename_i hw
  rw[if_neg hw,ZbU]
  exact Zdn hQ h
def PQ(D:List Deferred)(Q:Post):Post:=fun e a w=>Q e (plus a D) w
def WCD(P:Program)(N:Nat)(D:List Deferred)(c:Code)(Q:Post)(fr:Fr)(S:Asrt):Prop:=∀ a w,Rel N fr a->S w->c.wp P Q (plus a D) w
variable {fr:Fr}{S:Asrt}
theorem WCD.seq{x y:Code}(h:WCD P N D x (Exit.then (y.wp P Q) Q) fr S):WCD P N D (.seq x y) Q fr S:=fun a w ha hs=>wp_seq (h a w ha hs)
theorem WCD.then{c:Code}(h:WCD P N D c Q fr S):WE N (PQ D (Exit.then (c.wp P Q) Q)) .normal fr S:=h
theorem WCD.region{id:Nat}{l:List Oper}(h:WL P N l.toArray (PQ D Q) l fr S):WCD P N D (.region id l.toArray false) Q fr S:=fun a w ha hs=>wp_region_lit (Zdn (fun _ _ _ h=>h) (h a w ha hs))
theorem WCD.ret(h:WE N (PQ D Q) .ret fr S):WCD P N D .ret Q fr S:=fun a w ha hs=>wp_ret (h a w ha hs)
end
section
variable {P:Program}{N:Nat}{Q:Post}{fr:Fr}{w0:Bs}{G0 G:Mem}{L:Lo}{l l0:List Oper}{σ τ:Nat->Nat}{D:List Deferred}{r id:Nat}
theorem WCD.drawnB(LF:Lo)(hsub:Lo.sub LF L)(fl:List Bool)(hm:P.follows .mixedOrders=true)(hB:drawB N l fl=true)(h:Mem.le G0 G->Chain P N (PQ D Q) fr w0 G0 G L l.toArray (St w0 G0 G LF) fl l [] []):
  WCD P N D (.region id l.toArray true) Q fr (St w0 G0 G L):=fun a w ha hs=>
 drawnR (Q:=PQ D Q) (R:=fun a w=>(Code.region id l.toArray true).wp P Q (plus a D) w) (fun a _ k=>wp_region_any hm (ZfN (fun _ _ _ h=>h) _ _ a _ k)) (fun hb _ _ hle hs=>(hs.st.memLe hb hle.1).weaken hsub) fl hB h a w ha hs
theorem nodefer{l:List Oper}(hd:l.all (fun o=>match o.op with | .defer _=>false|_=>true)=true):∀ (i:Nat) (o:Oper),l.toArray[i]? = some o->∀ c,o.op≠.defer c:=fun i o ho c e=>by
 rw[List.getElem?_toArray] at ho
 have:=List.all_eq_true.1 hd o (List.mem_of_getElem? ho)
 rw[e] at this; cases this
theorem WCI.drawn(hQ:¬ LetsOut Q)(hd:l.all (fun o=>match o.op with | .defer _=>false|_=>true)=true)(fl:List Bool)(hm:P.follows .mixedOrders=true)(hB:drawB N l fl=true)(h:Mem.le G0 G->Chain P N Q fr w0 G0 G L l.toArray (fun _=>True) fl l [] []):
  WCI P N r (.region id l.toArray true) Q fr (St w0 G0 G L):=
 drawnR (fun a _ k=>wpIn_region_any hm (ZdV hQ (nodefer hd) _ _ a _ k)) (fun _ _ _ _ _=>trivial) fl hB h
theorem WCI.drawnB(hQ:¬ LetsOut Q)(hd:l.all (fun o=>match o.op with | .defer _=>false|_=>true)=true)(LF:Lo)(hsub:Lo.sub LF L)(fl:List Bool)(hm:P.follows .mixedOrders=true)(hB:drawB N l fl=true)(h:Mem.le G0 G->Chain P N Q fr w0 G0 G L l.toArray (St w0 G0 G LF) fl l [] []):
  WCI P N r (.region id l.toArray true) Q fr (St w0 G0 G L):=
 drawnR (fun a _ k=>wpIn_region_any hm (ZdV hQ (nodefer hd) _ _ a _ k)) (fun hb _ _ hle hs=>(hs.st.memLe hb hle.1).weaken hsub) fl hB h
end
def IterOk(P:Program)(f:FuncId)(lb:Array Value)(len:Nat)(E:Nat->Value->Mem->Prop)(preI:Mem->Prop):Prop:=
 ∀ {σ:Type}(l:Nat) (I:Nat->σ->Prop) (Lc:σ->Lo) (pre:σ->Mem->Prop),(∀ s i,9000<=i->(Lc s).get i=none)->(∀ G G' s,Mem.le G G'->pre s G->pre s G')->
  (∀ (j:Nat) (u:Value) (s:σ),j<len->I j s->YCtr P l u (Lc s) (fun G=>pre s G/\E j u G) (fun G L b=>b=true/\∃ s',I (j+1) s'/\L=Lc s'/\pre s' G))->
  ∀ s0,I 0 s0->(Lc s0).zero->CtrL P f (#[.func (.yield l) #[] #[]]++lb) (Lc s0) (fun G=>preI G/\pre s0 G) (fun G L u=>u = .tuple #[]/\∃ s',I len s'/\L=Lc s'/\pre s' G)
section
variable {P:Program}{N:Nat}{Q:Post}{fr:Fr}{S:Asrt}{ops:Array Oper}{l:List Oper}{dst:Option Nat}{ty:TypeId}{pos:String}{af:Array Edge}{g:Option (Nat×Bool)}
variable {w0:Bs}{G0 G:Mem}{L:Lo}
theorem WLI.callZ{x y:Operand}{ts:Array TypeId}{loop:Nat}{u:Value}{R Lc:Lo}{pre:Mem->Prop}{post:Mem->Lo->Bool->Prop}(hg:guardOK ops fr ⟨dst,.call ⟨.value x,#[y],ts⟩,ty,pos,af,g⟩ true)(hd:dstOK N dst)
  (hx:fr.ev x=some (.func (.yield loop) #[] #[])) (hy:fr.ev y=some u) (hY:YCtr P loop u Lc pre post) (hp:pre G) (hw:w0.L.zero) (hR:∀ i,i ∈ R.map (·.1)->Lc.get i=none)
  (k:∀ b G' L',Mem.le G G'->post G' L' b->WLI P N ops Q l (putFr dst (.bool b) fr) (St w0 G0 G' (R++L'))) :
  WLI P N ops Q (⟨dst,.call ⟨.value x,#[y],ts⟩,ty,pos,af,g⟩::l) fr (St w0 G0 G (R++Lc)):=by
 have h1:Lo.sub Lc (R++Lc):=fun i z hz=>by
  rw[Lo.ZiC (fun hi=>by rw[hR i hi] at hz; cases hz)]; exact hz
 refine WLI.yield (Φ:=fun v w=>∃ b G' L',v = .bool b/\Mem.le G G'/\post G' L' b/\St w0 G0 G' (R++L') w) hg hd hx hy (fun w hs=>?_) (fun v a w ha hs=>?_)
 .obtain⟨fn,tm,as1,bo,q1,q2⟩:=hY w G (hs.hp h1) hp
  refine⟨fn,tm,as1,bo,q1,q2.mono fun e w' ⟨b,G',L',e1,e2,e3⟩=>⟨.bool b,e1,b,G',L',rfl,e2.le,e3,?_⟩⟩
  refine hs.ext (R:=R) e2 h1 (fun i z hz=>Lo.Zjt hz) (fun i z hz=>hR i (Lo.ZhJ hz)) (fun i z z' hi hj t ht=>?_) (fun i z hz=>(Lo.get_append _ _ i z hz).symm)
  rw[Lo.ZcR hw ht]
  exact Nat.zero_le _
 obtain⟨b,G',L',rfl,h2,h3,h4⟩:=hs
 exact k b G' L' h2 h3 a w ha h4
end
section
variable {P:Program}{N:Nat}{Q:Post}{fr:Fr}{fn:Func}{w0:Bs}{G0 G:Mem}{L:Lo}
theorem WE.retD{rvs:List ResultVar}{d:Nat}{post:Mem->Lo->Value->Prop}(L3:Lo)(vs:List Value)(hr:fn.results=rvs.toArray)(hl:rvs.length=vs.length)(hd:L.get 8002=some ⟨d,.deferred (some []),0⟩)
  (h:∀ (i:Nat) (rv:ResultVar) (v:Value),rvs[i]? = some rv->vs[i]? = some v->RV P fr ((8002,some ⟨d,.deferred none,0⟩)::L) rv v) (h3:Lo.sub L3 ((8002,some ⟨d,.deferred none,0⟩)::L)) (hp:post G L3 (if h:vs.toArray.size=1 then vs.toArray[0] else .tuple vs.toArray)) :
  WE N (PQ [{ target:=.collected d,args:=#[] }] (bodyPostM Fence.wide 0 P fn (RetL w0 G0 post))) .ret fr (St w0 G0 G L):=by
 intro a w ha hs
 show LeavesInM Fence.wide 0 P fn a.tmps (RetL w0 G0 post) (a.defers++[{ target:=.collected d,args:=#[] }]) .returning w
 rw[ha.defers]
 have hb:=(hs.loc 8002 _ hd).1
 have hdl:=(Array.getElem?_eq_some_iff.1 hb).1
 have h5:=hs.upd (i:=8002) (m':=0) (w':=World.putObj _ d (.deferred none)) hd (World.putObj_heap_same hdl) (Nat.le_refl _) (fun k _ hk=>absurd hk (Nat.not_lt_zero k)) (fun k hk=>World.putObj_heap_other hk) rfl rfl rfl rfl (by simp)
 refine⟨by simp,.inl ⟨_,_,rfl,run_takeDeferred hb,⟨_,Zdk hr hl (fun i rv v e1 e2=>(h i rv v e1 e2).run ha h5),?_⟩⟩⟩
 exact⟨_,G,L3,rfl,(⟨h5.os,h5.tape,h5.output,h5.drawn,h5.size,h5.block,h5.base,h5.imm,h5.fresh,h5.loc,h5.dist⟩:Ext w0.w G0 w0.L _ G _).weaken h3,hp⟩
theorem WC.rangeAll{gop:Operand}{t b0 f:Nat}{assign body c2:Code}{lb:Array Value}(hgop:fr.ev gop=some (.func (.func f) #[] lb))(henter:Enters P f)
  (h:∀ (a:Act) (d lp:Nat) (r:Loop),Rel N fr a->r.state = .ready->r.pending=none->r.tmps=a.tmps->r.params = #[t]->r.assign=assign->r.body=body->∃ (pre:Mem->Prop) (Lc:Lo) (post:Mem->Lo->Value->Prop),
   Lo.sub Lc ((8001,some ⟨lp,.loop r,0⟩)::(8002,some ⟨d,.deferred (some []),0⟩)::L)/\
   (∀ i,i ∈ Lc.map (·.1)->w0.L.get i=none)/\CtrL P f (#[.func (.yield lp) #[] #[]]++lb) Lc pre post/\pre G/\
   ∀ G' L' v,Mem.le G G'->post G' L' v->L'.get 8001=some ⟨lp,.loop r,0⟩/\WCD P N [{ target:=.collected d,args:=#[] }] c2 Q fr (St w0 G0 G' ((8001,some ⟨lp,.loop { r with state:=.exhausted },0⟩)::L'))) :
  WC P N (.block b0 (.rangeFunc gop #[t] assign body)) (Exit.then (c2.wp P Q) Q) fr (St w0 G0 G L):=by
 refine WC.block ?_
 intro a w ha hs
 refine (wpIn_wide (n:=0)).1 (wpIn_rangeFunc ?_)
 intro fnid _
 let r:Loop:={ state:=.ready,pending:=none,fn:=fnid,tmps:=a.tmps,params:=#[t],assign:=assign,body:=body,defers:=w.heap.size }
 obtain⟨pre,Lc,post,hsub,hno,hctr,hpre,hk⟩:=h a w.heap.size (w.heap.size+1) r ha rfl rfl rfl rfl rfl rfl
 have hs1:St w0 G0 G _ ((w.alloc (.deferred (some []))).alloc (.loop r)):=(hs.push 8002 (.deferred (some []))).push 8001 (.loop r)
 have hl1:(w.alloc (.deferred (some []))).heap.size=w.heap.size+1:=by simp
 rw[hl1] at hs1
 refine⟨w.heap.size+1,[{ target:=.collected w.heap.size,args:=#[] }],((w.alloc (.deferred (some []))).alloc (.loop r)),{ target:=.fn (.func f) lb,args:=#[.func (.yield (w.heap.size+1)) #[] #[]] },((w.alloc (.deferred (some []))).alloc (.loop r)),f,#[.func (.yield (w.heap.size+1)) #[] #[]]++lb,((w.alloc (.deferred (some []))).alloc (.loop r)),run_enterLoop_outer _ _ _ _ _,?_,fun _ _=>trivial,?_,fun h=>by simp[Fence.wide] at h,?_⟩
 .have e6:=ha.ev hgop
  have e7:a.eval (.const (.func (.yield (w.heap.size+1)) #[] #[])) = .func (.yield (w.heap.size+1)) #[] #[]:=rfl
  simp[resolve,Deferred.ofValue,e6,e7]
 .simpa [invoke] using henter _ _
 refine (callsIn_wide (n:=0)).2 ?_
 refine (hctr _ G (hs1.hp hsub) hpre).mono fun e w2 ⟨v,G',L',he,hext,hpost⟩=>?_
 subst he
 obtain⟨hl',hw⟩:=hk G' L' v hext.le hpost
 have hs2:St w0 G0 G' L' w2:=hs1.ext (R:=[]) hext hsub (Lo.Zp _) (fun i x hx=>by simp[Lo.get] at hx) (fun i x y hi _ z hz=>by rw[hno i (Lo.ZhJ hi)] at hz; cases hz) (fun i x hx=>.inl hx)
 have hb:=(hs2.loc 8001 _ hl').1
 refine⟨r.pending,_,run_endLoop hb (by show LoopState.ready≠_; simp),?_⟩
 have hs3:=hs2.putLoop (r':={ r with state:=.exhausted }) hl'
 have h9:=hw a _ ha hs3
 have e9:plus a [({ target:=.collected w.heap.size,args:=#[] }:Deferred)] = { a with defers:=[({ target:=.collected w.heap.size,args:=#[] }:Deferred)]++a.defers }:=by unfold plus; rw[ha.defers]; rfl
 rw[e9] at h9
 exact h9
theorem CtrL.enterM{f:FuncId}{c:Code}{args:List Value}{L0:Lo}{pre:Mem->Prop}{post:Mem->Lo->Value->Prop}(hf:P.funcs[f]? = some fn)(hb:fn.body=some c)(hN:fn.ntmps=N)(ha:Nat.ble args.length N=true)
  (h:∀ w0 G0,w0.L=L0->pre G0->WC P N c (bodyPostM Fence.wide 0 P fn (RetL w0 G0 post)) (argFr args 0) (St w0 G0 G0 L0)):CtrL P f args.toArray L0 pre post:=by
 intro w G hi hp
 refine (callsIn_wide (n:=0)).1 (callsIn_of_wp_marks hf hb trivial ((wpIn_wide (n:=0)).2 ?_))
 refine h ⟨w,L0⟩ G rfl hp _ w ⟨rfl,?_,fun t v hv=>?_⟩ hi.st
 .have:=Nat.le_of_ble_eq_true ha
  simp only[Array.size_append,List.size_toArray,Array.size_replicate]
  omega
 obtain⟨_,h2⟩:=Zeg args 0 t v hv
 simp only[Nat.sub_zero] at h2
 have hlt:=(List.getElem?_eq_some_iff.1 h2).1
 rw[Array.getElem?_append_left (by simpa using hlt)]
 simpa using h2
theorem WCI.cond{r:Nat}{c:Operand}{x y:Code}{b:Bool}{S:Asrt}(hc:fr.ev c=some (.bool b))(ht:b=true->WCI P N r x Q fr S)(hf:b=false->WCI P N r y Q fr S):WCI P N r (.cond c x y) Q fr S:=fun a w ha hs=>by
 cases b with
 | true=>exact wpIn_cond_true (by rw[ha.ev hc]) (ht rfl a w ha hs)
 | false=>exact wpIn_cond_false (by rw[ha.ev hc]) (hf rfl a w ha hs)
theorem ZfM{l:Nat}{c c2:Code}{S:Asrt}(e:c=c2)(h:WCI P N l c2 Q fr S):WCI P N l c Q fr S:=by rw[e]; exact h
end
end Go.EL
namespace Go.EL
open Go.IntKind (i8 i16 i32 i64 u8 u16 u32 u64)
open Go Go.RowKit
section
variable {α:Type}{r:Rp α}{G:Mem}
def Elt.enc1(a:Elt r G):Value:=a.1.1.headD Value.nilFunc
theorem Elt.Zj8{a:Elt r G}(h:(Elt.enc a).length=1):Elt.enc a=[Elt.enc1 a]:=by
 obtain⟨⟨cs,x⟩,hx⟩:=a
 change cs.length=1 at h
 change cs=[cs.headD Value.nilFunc]
 match cs,h with
 | [u],_=>rfl
end
variable {P:Program}{ρ:Go.Shelf.Ren}
set_option maxHeartbeats 1000000 in
theorem pdqQ{α:Type}{r:Rp α}(hrz:r.size=1){cmp:α->α->Int}(swo:Go.Sort.SWO (Go.Proofs.ltOf cmp))(S:Go.Proofs.SlLaysF.n14 P ρ){f g:Nat}(hf:ρ.f 14=f)
  (hg:∀ (x y:α) (u v:Value),Ctr P g #[u,v] (fun G=>r.rep G [u] x/\r.rep G [v] y) (fun _ v=>v = .int .i64 (cmp x y))) (eg:∀ args w,(callFunc g args).run P w = .ok (.enter g args) w)
  (e:TypeId) (p:Option Addr) (n c:Nat) (l:List α) (tk:Option Ow) (lim:Nat) (hlim:lim<4611686018427387904) (hlen:l.length<=1000000000) :
  CtrL P f #[.slice p n c,.int .i64 0,.int .i64 (l.length:Int),.int .i64 (lim:Int),.func (.func g) #[] #[]] [(5000,tk)] (fun G=>RowR r e G (.slice p n c) l tk)
   (fun G L v=>∃ ys tk',L=[(5000,tk')]/\v = .tuple #[]/\RowR r e G (.slice p n c) ys tk'/\ys.Perm l/\ys.Pairwise (fun a b=>Go.Proofs.ltOf cmp b a=false)):=by
 subst hf
 intro w G hi hrow
 by_cases hnil:l=[]
 .subst hnil
  obtain⟨p',c',hv⟩:=hrow.form
  cases hv
  refine (Go.Proofs.AnyF.pdqsortCmpFunc_none { S with } p c (lim:Int) _ w).mono ?_
  rintro en w' ⟨rfl,rfl⟩
  exact⟨_,G,[(5000,tk)],rfl,hi.st.toExt,[],tk,rfl,rfl,hrow,List.Perm.refl _,List.Pairwise.nil⟩
 cases tk with
 | none=>exact absurd hrow.1 hnil
 | some y=>
  obtain⟨cap,cs,rest,h1,h2,h3,h4,h5,h6,h7⟩:=hrow
  obtain⟨b,o,m⟩:=y
  dsimp only at h1 h2 h3
  subst h2 h3
  cases h1
  obtain⟨d,hcs,hd⟩:=RepL.elts h4
  subst hcs
  have hdl:d.length=l.length:=by rw[<- hd,List.length_map]
  haveI:Inhabited (Elt r G):=⟨d[0]'(by have:=List.length_pos_iff.2 hnil; omega)⟩
  have hl:∀ x:Elt r G,(Elt.enc x).length=1:=fun x=>by rw[<- hrz]; exact r.len x.2
  have he1:∀ x:Elt r G,Elt.enc x=[Elt.enc1 x]:=fun x=>Elt.Zj8 (hl x)
  have hfm:∀ d:List (Elt r G),d.flatMap Elt.enc=d.map Elt.enc1:=fun d=>by
   induction d with
   | nil=>rfl
   | cons a d ih=>rw[List.flatMap_cons,he1,ih]; rfl
  have hone:∀ x:Elt r G,∀ v ∈ Elt.enc x,v.oneCell'=true:=fun x=>r.one x.2
  let cf:Elt r G->Elt r G->Int:=fun x y=>cmp x.1.2 y.1.2
  have hO:Go.Sort.SWO (Go.Proofs.ltOf cf):=⟨fun x=>swo.irrefl x.1.2,fun x y z=>swo.trans x.1.2 y.1.2 z.1.2,fun x y z=>swo.ntrans x.1.2 y.1.2 z.1.2⟩
  have hget:Lo.get [(5000,some ⟨b,Obj.cells (d.flatMap Elt.enc++rest).toArray e (0,0),0⟩)] 5000=some ⟨b,.cells (d.flatMap Elt.enc++rest).toArray e (0,0),0⟩:=by simp[Lo.get]
  obtain⟨hb,hGb⟩:=hi.loc 5000 _ hget
  dsimp only at hb hGb
  have hbs:b<w.heap.size:=(Array.getElem?_eq_some_iff.1 hb).1
  have himm:∀ (m:Nat) (os:Array Obj) (dk:Array (Elt r G)),Imm G (Go.Proofs.sortWorld Elt.enc1 w b 0 m dk os):=by
   intro m os dk b' o' v hv
   have hne:b'≠b:=fun e=>by subst e; rw[hGb o' (Nat.zero_le _)] at hv; cases hv
   have hc:=hi.imm b' o' v hv
   have hlt:b'<w.heap.size:=Imm.lt hi.imm hv
   have hh:(Go.Proofs.sortWorld Elt.enc1 w b 0 m dk os).heap[b']? = w.heap[b']?:=by
    simp only[Go.Proofs.sortWorld,Go.Sort.grow,Go.Sort.putRow,Go.Sort.mapBlock,Go.Sort.ahead]
    rw[Array.getElem?_append_left (by simpa using hlt),Array.getElem?_modify,if_neg (fun e=>hne e.symm)]
   unfold World.cell? at hc ⊢
   dsimp only at hc ⊢
   rw[hh]; exact hc
  have hc:Go.Proofs.CmpLays1 P g #[] Elt.enc1 cf b 0 d.toArray.size w:=by
   intro m os dk _ x y
   refine (hg x.1.2 y.1.2 (Elt.enc1 x) (Elt.enc1 y) _ G ⟨himm m os dk,fun i x hx=>by simp[Lo.get] at hx,fun i j x y _ hx=>by simp[Lo.get] at hx⟩ ⟨by rw[<- he1]; exact x.2,by rw[<- he1]; exact y.2⟩).mono ?_
   rintro en w' ⟨r',G',L',he,hx,rfl⟩
   exact⟨he,ZeO hx.os hx.tape hx.output hx.drawn hx.size fun k hk=>hx.block k hk (fun _ _ h=>by simp[Lo.get] at h)⟩
  have hH:Go.Sort.Holds Elt.enc1 w b 0 d.toArray:=by
   intro j hj
   simp only[List.size_toArray] at hj
   have h1:(d.flatMap Elt.enc)[j]? = some (Elt.enc1 d[j]):=by rw[hfm,List.getElem?_map,List.getElem?_eq_getElem hj]; rfl
   constructor
   .simp only[World.cell?,hb,Nat.zero_add,Option.isSome_none,Bool.false_eq_true,if_false,List.getElem?_toArray]
    rw[List.getElem?_append_left (by rw[hfm,List.length_map]; exact hj),h1]
    rw[getElem!_pos _ _ (by simpa using hj)]; simp
   simp[World.frozen?,hb]
  have hone1:Go.Proofs.OneCell (Elt.enc1 (r:=r) (G:=G)):=fun x=>hone x _ (by rw[he1]; simp)
  have hS:=Go.Proofs.Any.pdqsortCmpFunc_all S Elt.enc1 cf g #[] hO b 0 c d.toArray w eg hc ⟨hone1,hH,hbs⟩ (d.toArray.size+1) 0 d.toArray.size lim d.toArray w (by omega) rfl (Go.Proofs.SW.start hH) (Nat.zero_le _) (Nat.le_refl _) (by simp; omega) hlim (Or.inl rfl)
  have hsorts:=Go.Sort.pdq_sorts (Go.Proofs.ltOf cf) hO d.toArray 0 d.toArray.size lim true true (Nat.zero_le _) (Nat.le_refl _) (Or.inl rfl)
  generalize Go.Sort.pdq (Go.Proofs.ltOf cf) d.toArray 0 d.toArray.size lim true true=d' at hS hsorts
  obtain⟨⟨hsz',_,hperm⟩,hsorted⟩:=hsorts
  have hperm':d'.toList.Perm d:=by
   have e1:(d'.extract 0 d.toArray.size).toList=d'.toList:=by rw[<- hsz',Array.extract_size]
   have e2:(d.toArray.extract 0 d.toArray.size).toList=d:=by simp
   rw[e1,e2] at hperm; exact hperm
  rw[show (d.toArray.size:Nat)=l.length by simpa using hdl] at hS
  refine Calls.mono (by simpa using hS) ?_
  rintro en w' ⟨rfl,n,os,hw⟩
  have hd'l:d'.toList.length=d.length:=hperm'.length_eq
  have hw':w'=Go.Sort.grow (Go.Sort.putRow Elt.enc1 (Go.Sort.ahead w n) b 0 d') os:=hw
  have hother:∀ k,k<w.heap.size->k≠b->w'.heap[k]? = w.heap[k]?:=by
   intro k hk hne
   rw[hw']
   simp only[Go.Sort.grow,Go.Sort.putRow,Go.Sort.mapBlock,Go.Sort.ahead]
   rw[Array.getElem?_append_left (by simpa using hk),Array.getElem?_modify,if_neg (fun e=>hne e.symm)]
  have hfl:(d'.toList.flatMap Elt.enc).length=(d.flatMap Elt.enc).length:=by rw[ZaI hl,ZaI hl,hd'l]
  have hrow:w'.heap[b]? = some (.cells (d'.toList.flatMap Elt.enc++rest).toArray e (0,0)):=by
   rw[hw']
   simp only[Go.Sort.grow,Go.Sort.putRow,Go.Sort.mapBlock,Go.Sort.ahead]
   rw[Array.getElem?_append_left (by simpa using hbs),Array.getElem?_modify,if_pos rfl,hb]
   simp only[Option.map_some,Go.Sort.onCells,Option.some.injEq,Obj.cells.injEq,and_true]
   apply Array.ext_getElem?
   intro k
   simp only[Go.Sort.putCells,Array.getElem?_mapIdx,List.getElem?_toArray,Nat.zero_le,true_and,Nat.zero_add,Nat.sub_zero]
   by_cases hk:k<(d.flatMap Elt.enc).length
   .rw[List.getElem?_append_left hk,List.getElem?_append_left (by omega),List.getElem?_eq_getElem hk,List.getElem?_eq_getElem (by omega:k<(d'.toList.flatMap Elt.enc).length)]
    have hkd:k<d'.size:=by rw[hfm,List.length_map] at hk; rw[<- Array.length_toList]; omega
    simp only[Option.map_some,if_pos hkd]
    rw[getElem!_pos d' k hkd]
    simp only[hfm,List.getElem_map,Array.getElem_toList]
   rw[List.getElem?_append_right (by omega),List.getElem?_append_right (by omega),hfl]
   cases rest[k-(d.flatMap Elt.enc).length]? with
   | none=>rfl
   | some v=>
    have hkd:¬ k<d'.size:=by rw[hfm,List.length_map] at hk; rw[<- Array.length_toList]; omega
    simp only[Option.map_some,if_neg hkd]
  have hsz:w.heap.size<=w'.heap.size:=by
   rw[hw']; simp[Go.Sort.grow,Go.Sort.putRow,Go.Sort.mapBlock,Go.Sort.ahead]
  have one:∀ j x,Lo.get [(5000,some (⟨b,Obj.cells (d'.toList.flatMap Elt.enc++rest).toArray e (0,0),0⟩:Ow))] j=some x->x=⟨b,Obj.cells (d'.toList.flatMap Elt.enc++rest).toArray e (0,0),0⟩/\5000=j:=by
   intro j x hx
   rw[Lo.Zg] at hx
   split at hx
   .rename_i e'; cases hx; exact⟨rfl,e'⟩
   simp[Lo.get] at hx
  have hml:(d'.toList.map (fun a=>a.1.2)).length=l.length:=by rw[List.length_map,hd'l,hdl]
  refine⟨_,G,[(5000,some ⟨b,.cells (d'.toList.flatMap Elt.enc++rest).toArray e (0,0),0⟩)],rfl,⟨by rw[hw']; rfl,by rw[hw']; rfl,by rw[hw']; rfl,by rw[hw']; simp[Go.Sort.grow,Go.Sort.putRow,Go.Sort.mapBlock,Go.Sort.ahead],hsz,?_,Mem.le_refl _,?_,fun _ _ _ h=>.inl h,?_,?_⟩,d'.toList.map (fun a=>a.1.2),_,rfl,rfl,?_,?_,?_⟩
  .intro k hk hn
   exact hother k hk fun e=>by subst e; exact hn 5000 _ hget rfl
  .intro k o v hv
   have hc:=hi.imm k o v hv
   have hne:k≠b:=fun e=>by subst e; rw[hGb o (Nat.zero_le _)] at hv; cases hv
   have hk:k<w.heap.size:=World.block_lt_of_cell? w _ hc
   simp only[World.cell?,hother k hk hne] at hc ⊢
   exact hc
  .intro j x hj
   obtain⟨rfl,rfl⟩:=one j x hj
   exact⟨hrow,.inl ⟨_,hget,rfl⟩,hGb⟩
  .intro j k x y hne h1 h2
   exact absurd ((one j x h1).2.symm.trans (one k y h2).2) hne
  .refine⟨c,d'.toList.flatMap Elt.enc,rest,by rw[hml],rfl,rfl,RepL.ofElts _,?_,h6,by rw[hml]; exact h7⟩
   rw[List.length_append,hfl,<- List.length_append]; exact h5
  .have:=hperm'.map (fun a=>a.1.2)
   rwa [hd] at this
  rw[List.pairwise_map]
  rw[List.pairwise_iff_getElem]
  intro i j hi' hj' hij
  have hs:=hsorted i j (Nat.zero_le _) hij (by simp only[Array.length_toList] at hj'; omega)
  rw[getElem!_pos _ _ (by simpa using hj'),getElem!_pos _ _ (by simpa using hi')] at hs
  simp only[Array.getElem_toList]
  exact hs
end Go.EL
namespace Go.EL
open Go.IntKind (i8 i16 i32 i64 u8 u16 u32 u64)
open Go Go.RowKit
section
variable {α β:Type}{r:Rp α}{f:β->α}{G:Mem}{e:TypeId}
theorem RepL.via:∀ {l:List β}{cs:List Value},RepL (r.via f) G cs l↔RepL r G cs (l.map f)
 | [],_=>Iff.rfl
 | x::l,cs=>by
  constructor
  .rintro⟨c,d,h1,h2,h3⟩; exact⟨c,d,h1,h2,RepL.via.1 h3⟩
  rintro⟨c,d,h1,h2,h3⟩; exact⟨c,d,h1,h2,RepL.via.2 h3⟩
theorem RowR.via{v:Value}{l:List β}{tk:Option Ow}:RowR (r.via f) e G v l tk↔RowR r e G v (l.map f) tk:=by
 cases tk with
 | none=>
  constructor
  .rintro⟨rfl,h⟩; exact⟨rfl,h⟩
  rintro⟨h1,h⟩; exact⟨List.map_eq_nil_iff.1 h1,h⟩
 | some x=>
  constructor
  .rintro⟨cap,cs,rest,h1,h2,h3,h4,h5,h6,h7⟩
   exact⟨cap,cs,rest,by rw[List.length_map]; exact h1,h2,h3,RepL.via.1 h4,h5,h6,by rw[List.length_map]; exact h7⟩
  rintro⟨cap,cs,rest,h1,h2,h3,h4,h5,h6,h7⟩
  rw[List.length_map] at h1 h7
  exact⟨cap,cs,rest,h1,h2,h3,RepL.via.2 h4,h5,h6,h7⟩
end
end Go.EL
namespace Go.EL
open Go.IntKind (i8 i16 i32 i64 u8 u16 u32 u64)
open Go Go.RowKit
theorem Y0.slArr{P:Program}{N:Nat}{fr:Fr}{S:Asrt}{dst:Option Nat}{ty:TypeId}{pos:String}{af:Array Edge}{g:Option (Nat×Bool)}{t e:TypeId}{x y1 y2:Operand}{b n lo hi:Nat}{k1 k2:IntKind}(ht:P.underlying t=some (.array n e))(hsz:(P.info? e).map (·.size)=some 1)
  (hx:fr.ev x=some (.pointer (some ⟨b,0,none⟩))) (h1:fr.ev y1=some (.int k1 (lo:Int))) (h2:fr.ev y2=some (.int k2 (hi:Int))) (hlo:lo<n) (hh:lo<=hi) (hn:hi<=n) :
  Y0 P N ⟨dst,.slice t x (some y1) (some y2) none,ty,pos,af,g⟩ fr S (.slice (some ⟨b,lo,none⟩) (hi-lo) (n-lo)):=fun a w ha _=>by
 have i3:¬ n=lo:=by omega
 simp only[execOp,ha.ev hx,ha.ev h1,ha.ev h2,Option.map_none,Option.map_some]
 simp[Instr.sliceAt,run_underlying ht,Instr.sureAddr,Instr.sliceBounds,Instr.sliceBound,asIntOf,run_sizeOf hsz,ZO,hh,hn,i3]
end Go.EL
namespace Go.EL
open Go.IntKind (i8 i16 i32 i64 u8 u16 u32 u64)
open Go Go.RowKit
theorem Y0.lssS{P:Program}{N:Nat}{fr:Fr}{S:Asrt}{dst:Option Nat}{ty:TypeId}{pos:String}{af:Array Edge}{g:Option (Nat×Bool)}{t b:TypeId}{x y:Operand}{s u:ByteArray}(hx:fr.ev x=some (.string s))(hy:fr.ev y=some (.string u)):
  Y0 P N ⟨dst,.binOp .lss t x y b,ty,pos,af,g⟩ fr S (.bool (Op.bytesLess s.toList u.toList)):=
 Y0.bin hx hy (ZcG _ _ _ _ _ _) fun w=>by simp[binOp,Op.stringOp]
end Go.EL
namespace Go.EL
open Go.IntKind (i8 i16 i32 i64 u8 u16 u32 u64)
open Go Go.RowKit Go.Proofs
section
variable {P:Program}{N:Nat}{Q:Post}{fr:Fr}{w0:Bs}{G0 G:Mem}{L:Lo}{ops:Array Oper}{ty:TypeId}{pos:String}{af:Array Edge}{g:Option (Nat×Bool)}{fs:List Bool}{l:List Oper}{det:Fr}{und:Und}{d:Nat}{op:Op}
variable {α β:Type}{r:Rp α}{e:TypeId}{r':Rp β}{e':TypeId}
def SlX(r:Rp β)(ys:List β):Mem->Value->Prop:=fun G v=>∃ p c,v = .slice p ys.length c/\SlR r G (.slice p ys.length c) ys
theorem Chain.callEatR{Bt:Asrt}{f:FuncId}{kk:Nat}{xs:List α}(ys:List β)(hg:∀ u,guardOK ops (undFr und u++(det++fr)) ⟨some d,op,ty,pos,af,g⟩ true)
  (hk:und.any (fun p=>Nat.beq p.1 kk)=true) (hl:((⟨some d,op,ty,pos,af,g⟩:Oper).looksAt ops).contains kk=true) (hso:soleB ops kk=true)
  (h:∀ u (G':Gx),Mem.le G G'.m->undLook ops ⟨some d,op,ty,pos,af,g⟩ und u G'->∃ v,RowX r e kk xs v G'/\∀ p c tk,v = .slice p xs.length c->RowR r e G'.m (.slice p xs.length c) xs tk->∃ args args' pre,(∀ S,YC P N ⟨some d,op,ty,pos,af,g⟩ (undFr und u++(det++fr)) S f args')/\
   CtrL P f args [(5000,tk)] pre (fun G L v=>∃ zp zc ztk,L=[(5000,ztk)]/\v = .slice zp ys.length zc/\RowR r' e' G (.slice zp ys.length zc) ys ztk)/\args'=args/\pre G'.m)
  (k:Chain P N Q fr w0 G0 G L ops Bt fs l det ((d,fun v g=>SlX r' ys g.m v)::eatO (some kk) und)):Chain P N Q fr w0 G0 G L ops Bt (false::fs) (⟨some d,op,ty,pos,af,g⟩::l) det und:=
 Chain.ceat d kk (fun v g=>SlX r' ys g.m v) rfl hk hl hso (fun v _ _ h hh=>by obtain⟨p,c,h1,h2⟩:=hh; exact⟨p,c,h1,h2.mono h.1⟩) (fun u G' hle hu=>by
  obtain⟨v,⟨p,c,tk,h1,h2,h3⟩,h4⟩:=h u G' hle.1 hu
  refine .inr ⟨hg u,fun a w ha hs=>?_⟩
  have s1:St ⟨w,[(5000,tk)]⟩ G'.m G'.m [(5000,tk)] w:=Hp.st ⟨hs.st.imm,fun i y hi=>by
   rw[Lo.Zg] at hi
   split at hi
   .obtain⟨q1,q2,q3,q4⟩:=hs.own _ _ _ (h3 y hi)
    exact⟨q1,fun k _=>q3 k⟩
   .simp[Lo.get] at hi,fun i j y y' hne h1 h2=>by
   rw[Lo.Zg] at h1 h2
   split at h1
   .split at h2
    .omega
    simp[Lo.get] at h2
   simp[Lo.get] at h1⟩
  have hzero:Lo.zero [(5000,tk)]:=fun q hq y hy=>by
   rw[List.mem_singleton] at hq
   subst hq
   exact h2.zero hy
  obtain⟨args,args',pre,q1,q2,q3,q4⟩:=h4 p c tk h1 h2
  rw[q1 _ a w ha hs]
  subst q3
  refine (q2 w G'.m (s1.hp (Lo.Zbk _)) q4).mono fun e' w' ⟨rv,G2,L2,p1,p2,zp,zc,ztk,p3,p4,p5⟩=>⟨rv,p1,?_⟩
  subst p3
  have s2:St ⟨w,[(5000,tk)]⟩ G'.m G2 [(5000,ztk)] w':=s1.ext (R:=[]) p2 (Lo.Zbk _) (Lo.Zp _) (fun i x hx=>by simp[Lo.get] at hx) (fun i x y hi _ z hz=>by rw[show x=z from Option.some.inj (hi.symm.trans hz)]; exact Nat.le_refl _) (fun i x hx=>.inl hx)
  obtain⟨Gf,tk',f1,f2,_,f4,_⟩:=p5.freezeZ (w0:=⟨w,[(5000,tk)]⟩) (key:=5000) (by simp[Lo.Zg]) hzero s2
  have s3:St ⟨w,[(5000,tk)]⟩ G'.m Gf [(5000,none)] w':=f4.weaken (fun i x hx=>by
   rw[Lo.Zg] at hx
   split at hx
   .cases hx
   simp[Lo.get] at hx)
  obtain⟨s4,s5⟩:=hs.extO (d:=d) (k:=some kk) (i0:=5000) (tk:=none) s3.toExt (fun i y hi=>by
   rw[Lo.Zg] at hi
   split at hi
   .exact⟨kk,y.o,rfl,h3 y hi⟩
   simp[Lo.get] at hi) (fun y hy=>by cases hy)
  exact⟨_,s5,s4,zp,zc,p4,f2⟩) k
end
end Go.EL

namespace Go.Proofs.YtoakocgcakgpnaaGreat
open Go.IntKind (i8 i16 i32 i64 u8 u16 u32 u64)
open Go.Proofs.Tryz
open Go Go.EL Go.RowKit Go.Proofs
theorem mix:prog.follows .mixedOrders=true:=by kernel_rfl
def FaP(t i k:Nat):Prop:=∀ ⦃N:Nat⦄ ⦃dst:Option Nat⦄ ⦃ty:TypeId⦄ ⦃pos:String⦄ ⦃af:Array Edge⦄ ⦃g:Option (Nat×Bool)⦄ ⦃fr:Fr⦄ ⦃S:Asrt⦄ ⦃x:Operand⦄ ⦃b off:Nat⦄,fr.ev x=some (.pointer (some ⟨b,off,none⟩))->Y0 prog N ⟨dst,.fieldAddr t x i,ty,pos,af,g⟩ fr S (.pointer (some ⟨b,off+k,none⟩))
theorem faP{t i k:Nat}{fs:Array Field}{fd:Field}(hs:prog.underlying t=some (.struct fs))(hf:fs[i]? = some fd)(hk:fd.offset=k)(hp:∀ b off w,(fieldPlace ⟨b,off,none⟩ fd).run prog w = .ok ⟨b,off+fd.offset,none⟩ w):FaP t i k:=by
 intro N dst ty pos af g fr S x b off hx
 subst hk
 exact Y0.fieldAddr hs hf (hp b off) hx
abbrev En:=Enters prog
abbrev eo:=@enters_of
theorem E10:En 10:=eo func10 (by kernel_rfl) rfl
theorem E12:En 12:=eo func12 (by kernel_rfl) rfl
theorem E15:En 15:=eo func15 (by kernel_rfl) rfl
theorem E18:En 18:=eo func18 (by kernel_rfl) rfl
theorem E20:En 20:=eo func20 (by kernel_rfl) rfl
theorem E21:En 21:=eo func21 (by kernel_rfl) rfl
theorem E26:En 26:=eo func26 (by kernel_rfl) rfl
theorem E27:En 27:=eo func27 (by kernel_rfl) rfl
theorem E28:En 28:=eo func28 (by kernel_rfl) rfl
theorem E29:En 29:=eo func29 (by kernel_rfl) rfl
theorem E39:En 39:=eo func39 (by kernel_rfl) rfl
theorem E40:En 40:=eo func40 (by kernel_rfl) rfl
theorem E41:En 41:=eo func41 (by kernel_rfl) rfl
theorem E43:En 43:=eo func43 (by kernel_rfl) rfl
theorem E44:En 44:=eo func44 (by kernel_rfl) rfl
theorem E45:En 45:=eo func45 (by kernel_rfl) rfl
theorem E46:En 46:=eo func46 (by kernel_rfl) rfl
theorem E47:En 47:=eo func47 (by kernel_rfl) rfl
theorem E48:En 48:=eo func48 (by kernel_rfl) rfl
theorem E49:En 49:=eo func49 (by kernel_rfl) rfl
theorem E51:En 51:=eo func51 (by kernel_rfl) rfl
theorem E53:En 53:=eo func53 (by kernel_rfl) rfl
theorem E54:En 54:=eo func54 (by kernel_rfl) rfl
theorem E55:En 55:=eo func55 (by kernel_rfl) rfl
theorem E56:En 56:=eo func56 (by kernel_rfl) rfl
theorem E58:En 58:=eo func58 (by kernel_rfl) rfl
theorem E59:En 59:=eo func59 (by kernel_rfl) rfl
theorem E61:En 61:=eo func61 (by kernel_rfl) rfl
theorem E62:En 62:=eo func62 (by kernel_rfl) rfl
theorem E63:En 63:=eo func63 (by kernel_rfl) rfl
theorem E64:En 64:=eo func64 (by kernel_rfl) rfl
theorem E65:En 65:=eo func65 (by kernel_rfl) rfl
theorem E66:En 66:=eo func66 (by kernel_rfl) rfl
theorem E67:En 67:=eo func67 (by kernel_rfl) rfl
theorem E68:En 68:=eo func68 (by kernel_rfl) rfl
theorem E69:En 69:=eo func69 (by kernel_rfl) rfl
theorem E75:En 75:=eo func75 (by kernel_rfl) rfl
theorem E80:En 80:=eo func80 (by kernel_rfl) rfl
theorem E81:En 81:=eo func81 (by kernel_rfl) rfl
theorem E82:En 82:=eo func82 (by kernel_rfl) rfl
theorem E84:En 84:=eo func84 (by kernel_rfl) rfl
theorem E85:En 85:=eo func85 (by kernel_rfl) rfl
theorem E86:En 86:=eo func86 (by kernel_rfl) rfl
theorem E87:En 87:=eo func87 (by kernel_rfl) rfl
theorem E88:En 88:=eo func88 (by kernel_rfl) rfl
theorem E89:En 89:=eo func89 (by kernel_rfl) rfl
theorem E90:En 90:=eo func90 (by kernel_rfl) rfl
theorem E91:En 91:=eo func91 (by kernel_rfl) rfl
theorem E92:En 92:=eo func92 (by kernel_rfl) rfl
theorem E93:En 93:=eo func93 (by kernel_rfl) rfl
theorem E94:En 94:=eo func94 (by kernel_rfl) rfl
theorem E95:En 95:=eo func95 (by kernel_rfl) rfl
theorem E96:En 96:=eo func96 (by kernel_rfl) rfl
theorem E97:En 97:=eo func97 (by kernel_rfl) rfl
theorem E98:En 98:=eo func98 (by kernel_rfl) rfl
theorem E99:En 99:=eo func99 (by kernel_rfl) rfl
theorem E100:En 100:=eo func100 (by kernel_rfl) rfl
theorem E105:En 105:=eo func105 (by kernel_rfl) rfl
theorem E106:En 106:=eo func106 (by kernel_rfl) rfl
theorem E107:En 107:=eo func107 (by kernel_rfl) rfl
theorem E108:En 108:=eo func108 (by kernel_rfl) rfl
theorem E109:En 109:=eo func109 (by kernel_rfl) rfl
theorem E111:En 111:=eo func111 (by kernel_rfl) rfl
theorem E112:En 112:=eo func112 (by kernel_rfl) rfl
theorem E114:En 114:=eo func114 (by kernel_rfl) rfl
theorem E115:En 115:=eo func115 (by kernel_rfl) rfl
theorem E116:En 116:=eo func116 (by kernel_rfl) rfl
theorem E117:En 117:=eo func117 (by kernel_rfl) rfl
theorem E118:En 118:=eo func118 (by kernel_rfl) rfl
theorem E119:En 119:=eo func119 (by kernel_rfl) rfl
theorem E120:En 120:=eo func120 (by kernel_rfl) rfl
theorem E121:En 121:=eo func121 (by kernel_rfl) rfl
theorem E123:En 123:=eo func123 (by kernel_rfl) rfl
theorem E124:En 124:=eo func124 (by kernel_rfl) rfl
theorem E125:En 125:=eo func125 (by kernel_rfl) rfl
theorem E129:En 129:=eo func129 (by kernel_rfl) rfl
theorem E130:En 130:=eo func130 (by kernel_rfl) rfl
theorem E131:En 131:=eo func131 (by kernel_rfl) rfl
theorem E132:En 132:=eo func132 (by kernel_rfl) rfl
theorem E135:En 135:=eo func135 (by kernel_rfl) rfl
theorem E136:En 136:=eo func136 (by kernel_rfl) rfl
theorem E137:En 137:=eo func137 (by kernel_rfl) rfl
theorem E138:En 138:=eo func138 (by kernel_rfl) rfl
theorem E139:En 139:=eo func139 (by kernel_rfl) rfl
theorem E140:En 140:=eo func140 (by kernel_rfl) rfl
theorem E141:En 141:=eo func141 (by kernel_rfl) rfl
theorem E142:En 142:=eo func142 (by kernel_rfl) rfl
theorem E143:En 143:=eo func143 (by kernel_rfl) rfl
theorem E144:En 144:=eo func144 (by kernel_rfl) rfl
theorem E147:En 147:=eo func147 (by kernel_rfl) rfl
theorem E148:En 148:=eo func148 (by kernel_rfl) rfl
theorem E149:En 149:=eo func149 (by kernel_rfl) rfl
theorem E150:En 150:=eo func150 (by kernel_rfl) rfl
theorem E151:En 151:=eo func151 (by kernel_rfl) rfl
theorem E152:En 152:=eo func152 (by kernel_rfl) rfl
theorem E153:En 153:=eo func153 (by kernel_rfl) rfl
theorem E154:En 154:=eo func154 (by kernel_rfl) rfl
theorem E155:En 155:=eo func155 (by kernel_rfl) rfl
theorem E158:En 158:=eo func158 (by kernel_rfl) rfl
theorem E163:En 163:=eo func163 (by kernel_rfl) rfl
theorem E164:En 164:=eo func164 (by kernel_rfl) rfl
theorem E165:En 165:=eo func165 (by kernel_rfl) rfl
theorem E166:En 166:=eo func166 (by kernel_rfl) rfl
theorem E168:En 168:=eo func168 (by kernel_rfl) rfl
theorem E169:En 169:=eo func169 (by kernel_rfl) rfl
theorem E170:En 170:=eo func170 (by kernel_rfl) rfl
theorem E171:En 171:=eo func171 (by kernel_rfl) rfl
theorem E172:En 172:=eo func172 (by kernel_rfl) rfl
theorem E174:En 174:=eo func174 (by kernel_rfl) rfl
theorem E175:En 175:=eo func175 (by kernel_rfl) rfl
theorem E177:En 177:=eo func177 (by kernel_rfl) rfl
theorem E178:En 178:=eo func178 (by kernel_rfl) rfl
theorem E179:En 179:=eo func179 (by kernel_rfl) rfl
theorem E180:En 180:=eo func180 (by kernel_rfl) rfl
theorem E185:En 185:=eo func185 (by kernel_rfl) rfl
theorem E186:En 186:=eo func186 (by kernel_rfl) rfl
theorem E187:En 187:=eo func187 (by kernel_rfl) rfl
theorem E190:En 190:=eo func190 (by kernel_rfl) rfl
theorem E192:En 192:=eo func192 (by kernel_rfl) rfl
theorem E193:En 193:=eo func193 (by kernel_rfl) rfl
theorem E194:En 194:=eo func194 (by kernel_rfl) rfl
theorem E195:En 195:=eo func195 (by kernel_rfl) rfl
theorem E196:En 196:=eo func196 (by kernel_rfl) rfl
theorem E198:En 198:=eo func198 (by kernel_rfl) rfl
theorem E199:En 199:=eo func199 (by kernel_rfl) rfl
theorem E200:En 200:=eo func200 (by kernel_rfl) rfl
theorem E210:En 210:=eo func210 (by kernel_rfl) rfl
theorem E213:En 213:=eo func213 (by kernel_rfl) rfl
theorem E217:En 217:=eo func217 (by kernel_rfl) rfl
theorem E218:En 218:=eo func218 (by kernel_rfl) rfl
theorem E219:En 219:=eo func219 (by kernel_rfl) rfl
theorem E220:En 220:=eo func220 (by kernel_rfl) rfl
theorem E234:En 234:=eo func234 (by kernel_rfl) rfl
theorem E239:En 239:=eo func239 (by kernel_rfl) rfl
theorem ag28:AggT prog 28 3:=⟨by kernel_rfl,by kernel_rfl⟩
theorem ag42:AggT prog 42 4:=⟨by kernel_rfl,by kernel_rfl⟩
theorem ag44:AggT prog 44 8:=⟨by kernel_rfl,by kernel_rfl⟩
theorem ag57:AggT prog 57 2:=⟨by kernel_rfl,by kernel_rfl⟩
theorem ag59:AggT prog 59 4:=⟨by kernel_rfl,by kernel_rfl⟩
theorem ag68:AggT prog 68 8:=⟨by kernel_rfl,by kernel_rfl⟩
theorem ag70:AggT prog 70 2:=⟨by kernel_rfl,by kernel_rfl⟩
theorem ag103:AggT prog 103 3:=⟨by kernel_rfl,by kernel_rfl⟩
theorem ag119:AggT prog 119 12:=⟨by kernel_rfl,by kernel_rfl⟩
theorem eg44:prog.eqGuardType prog.depth 44=false:=by kernel_rfl
theorem eg68:prog.eqGuardType prog.depth 68=false:=by kernel_rfl
theorem el5:ElT prog 5 (.int .u8 0) 1 1:=by unfold ElT; kernel_rfl
theorem el65:ElT prog 65 (.slice none 0 0) 1 24:=by unfold ElT; kernel_rfl
theorem el119:ElT prog 119 (.agg (([.bool false,.slice none 0 0,.bool false,.slice none 0 0]:List Value)++(vecG (Value.int .i64) 8 (fun _=>0))).toArray) 12 128:=by unfold ElT; kernel_rfl
theorem el182:ElT prog 182 (.int .u32 0) 1 4:=by unfold ElT; kernel_rfl
theorem Y0.Zfx:FaP 28 0 0:=faP underlying28 rfl rfl (fun _ _ _=>by kernel_rfl)
theorem Y0.ZgU:FaP 28 1 1:=faP underlying28 rfl rfl (fun _ _ _=>by kernel_rfl)
theorem Y0.ZgV:FaP 28 2 2:=faP underlying28 rfl rfl (fun _ _ _=>by kernel_rfl)
theorem Y0.Zku:FaP 42 0 0:=faP underlying42 rfl rfl (fun _ _ _=>by kernel_rfl)
theorem Y0.Zkv:FaP 42 1 1:=faP underlying42 rfl rfl (fun _ _ _=>by kernel_rfl)
theorem Y0.Zkw:FaP 42 2 2:=faP underlying42 rfl rfl (fun _ _ _=>by kernel_rfl)
theorem Y0.Zkx:FaP 42 3 3:=faP underlying42 rfl rfl (fun _ _ _=>by kernel_rfl)
theorem Y0.Ziw:FaP 57 0 0:=faP underlying57 rfl rfl (fun _ _ _=>by kernel_rfl)
theorem Y0.ZgW:FaP 57 1 1:=faP underlying57 rfl rfl (fun _ _ _=>by kernel_rfl)
theorem Y0.Zix:FaP 59 0 0:=faP underlying59 rfl rfl (fun _ _ _=>by kernel_rfl)
theorem Y0.Ziy:FaP 59 1 2:=faP underlying59 rfl rfl (fun _ _ _=>by kernel_rfl)
theorem Y0.Zky:FaP 70 0 0:=faP underlying70 rfl rfl (fun _ _ _=>by kernel_rfl)
theorem Y0.Zkz:FaP 70 1 1:=faP underlying70 rfl rfl (fun _ _ _=>by kernel_rfl)
theorem Y0.Zka:FaP 103 0 0:=faP underlying103 rfl rfl (fun _ _ _=>by kernel_rfl)
theorem Y0.ZhG:FaP 119 0 0:=faP underlying119 rfl rfl (fun _ _ _=>by kernel_rfl)
theorem Y0.ZhH:FaP 119 1 4:=faP underlying119 rfl rfl (fun _ _ _=>by kernel_rfl)
theorem Y0.ZbM:FaP 158 0 0:=faP underlying158 rfl rfl (fun _ _ _=>by kernel_rfl)
def ky3:Ky prog 3 Int:=Ky.int underlying3
def ky9:Ky prog 9 ByteArray:=Ky.str underlying9
theorem laid68:laidOutB prog=true:=by kernel_rfl
def ky68:Ky prog 68 (Fin 8->Int):=Ky.arr underlying68 underlying3 (by kernel_rfl) (by kernel_rfl) (by kernel_rfl) laid68 (of_decide_eq_true (by kernel_rfl)) (by kernel_rfl)
theorem sc3:ScalT prog 3:=by unfold ScalT; kernel_rfl
theorem sc4:ScalT prog 4:=by unfold ScalT; kernel_rfl
theorem sc9:ScalT prog 9:=by unfold ScalT; kernel_rfl
theorem sc25:ScalT prog 25:=by unfold ScalT; kernel_rfl
theorem sc35:ScalT prog 35:=by unfold ScalT; kernel_rfl
theorem sc39:ScalT prog 39:=by unfold ScalT; kernel_rfl
theorem sc40:ScalT prog 40:=by unfold ScalT; kernel_rfl
theorem sc55:ScalT prog 55:=by unfold ScalT; kernel_rfl
theorem sc65:ScalT prog 65:=by unfold ScalT; kernel_rfl
theorem sc182:ScalT prog 182:=by unfold ScalT; kernel_rfl
theorem sz3:(prog.info? 3).map (·.size)=some 1:=by kernel_rfl
theorem sz4:(prog.info? 4).map (·.size)=some 1:=by kernel_rfl
theorem sz9:(prog.info? 9).map (·.size)=some 1:=by kernel_rfl
theorem sz25:(prog.info? 25).map (·.size)=some 1:=by kernel_rfl
theorem sz28:(prog.info? 28).map (·.size)=some 3:=by kernel_rfl
theorem sz35:(prog.info? 35).map (·.size)=some 1:=by kernel_rfl
theorem sz40:(prog.info? 40).map (·.size)=some 1:=by kernel_rfl
theorem sz44:(prog.info? 44).map (·.size)=some 8:=by kernel_rfl
theorem sz57:(prog.info? 57).map (·.size)=some 2:=by kernel_rfl
theorem sz59:(prog.info? 59).map (·.size)=some 4:=by kernel_rfl
theorem sz65:(prog.info? 65).map (·.size)=some 1:=by kernel_rfl
theorem sz68:(prog.info? 68).map (·.size)=some 8:=by kernel_rfl
theorem sz70:(prog.info? 70).map (·.size)=some 2:=by kernel_rfl
theorem sz119:(prog.info? 119).map (·.size)=some 12:=by kernel_rfl
theorem sz182:(prog.info? 182).map (·.size)=some 1:=by kernel_rfl
theorem z9:(prog.info? 9).map (·.zero)=some (some (.string ByteArray.empty)):=by kernel_rfl
theorem z28:(prog.info? 28).map (·.zero)=some (some (.agg ([.int .i64 0,.slice none 0 0,.slice none 0 0]).toArray)):=by kernel_rfl
theorem z44:(prog.info? 44).map (·.zero)=some (some (.agg (vecG (Value.int .i64) 8 (fun _=>0)).toArray)):=by kernel_rfl
theorem z57:(prog.info? 57).map (·.zero)=some (some (.agg ([.bool false,.slice none 0 0]).toArray)):=by kernel_rfl
theorem z59:(prog.info? 59).map (·.zero)=some (some (.agg ([.bool false,.slice none 0 0,.bool false,.slice none 0 0]).toArray)):=by kernel_rfl
theorem z68:(prog.info? 68).map (·.zero)=some (some (.agg (vecG (Value.int .i64) 8 (fun _=>0)).toArray)):=by kernel_rfl
theorem z70:(prog.info? 70).map (·.zero)=some (some (.agg ([.int .i64 0,.slice none 0 0]).toArray)):=by kernel_rfl
theorem z111:(prog.info? 111).map (·.zero)=some (some (.agg (vecG Value.bool 8 (fun _=>false)).toArray)):=by kernel_rfl
theorem z119:(prog.info? 119).map (·.zero)=some (some (.agg (([.bool false,.slice none 0 0,.bool false,.slice none 0 0]:List Value)++(vecG (Value.int .i64) 8 (fun _=>0))).toArray)):=by kernel_rfl
theorem z158:(prog.info? 158).map (·.zero)=some (some (.agg ([.slice none 0 0]).toArray)):=by kernel_rfl
theorem zv4(w:World):(zeroValue 4).run prog w = .ok (.bool false) w:=by kernel_rfl
end Go.Proofs.YtoakocgcakgpnaaGreat

namespace Go.EL
open Go.IntKind (i8 i16 i32 i64 u8 u16 u32 u64)
open Go Go.EL Go.RowKit Go.Proofs
structure Zb where
 neg:Bool
 mag:(List Int)
abbrev ZU:Rp Zb:=Rp.via (Rp.pair Rp.bool (Rp.sl (Rp.int .u32))) (fun x=>(x.neg,x.mag))
theorem Zfu{G:Mem}{K:Nat->Value->Prop}{o:Nat}{x:Zb}(h:AtK ZU G K o x):∃ zmagp zmagc,(∀ (j:Nat) (u:Value),([.bool x.neg,.slice zmagp x.mag.length zmagc]).toArray[j]? = some u->K (o+j) u)/\SlR (Rp.int .u32) G (.slice zmagp x.mag.length zmagc) x.mag:=by
 obtain⟨c,h,hc⟩:=h
 obtain⟨c1,d1,e1,h1,k1⟩:=h
 subst e1
 replace h1:_=([.bool _]:List Value):=h1
 subst h1
 obtain⟨v3,e3,s3⟩:=k1
 subst e3
 obtain⟨p3,q3,f3⟩:=SlR.form s3
 subst f3
 exact⟨p3,q3,fun j u hu=>hc j u (by simpa using hu),s3⟩
structure Zf where
 num:Zb
 den:Zb
abbrev Zap:Rp Zf:=Rp.via (Rp.pair ZU ZU) (fun x=>(x.num,x.den))
theorem Zh0{G:Mem}{K:Nat->Value->Prop}{o:Nat}{x:Zf}(h:AtK Zap G K o x):∃ znummagp znummagc zdenmagp zdenmagc,(∀ (j:Nat) (u:Value),([.bool x.num.neg,.slice znummagp x.num.mag.length znummagc,.bool x.den.neg,.slice zdenmagp x.den.mag.length zdenmagc]).toArray[j]? = some u->K (o+j) u)/\SlR (Rp.int .u32) G (.slice znummagp x.num.mag.length znummagc) x.num.mag/\SlR (Rp.int .u32) G (.slice zdenmagp x.den.mag.length zdenmagc) x.den.mag:=by
 obtain⟨c,h,hc⟩:=h
 obtain⟨c1,d1,e1,h1,k1⟩:=h
 subst e1
 obtain⟨c2,d2,e2,h2,k2⟩:=h1
 subst e2
 replace h2:_=([.bool _]:List Value):=h2
 subst h2
 obtain⟨v4,e4,s4⟩:=k2
 subst e4
 obtain⟨p4,q4,f4⟩:=SlR.form s4
 subst f4
 obtain⟨c5,d5,e5,h5,k5⟩:=k1
 subst e5
 replace h5:_=([.bool _]:List Value):=h5
 subst h5
 obtain⟨v7,e7,s7⟩:=k5
 subst e7
 obtain⟨p7,q7,f7⟩:=SlR.form s7
 subst f7
 exact⟨p4,q4,p7,q7,fun j u hu=>hc j u (by simpa using hu),s4,s7⟩
theorem Zh4{G:Mem}{cs:List Value}{x:Zf}(h:Zap.rep G cs x):∃ znummagp znummagc zdenmagp zdenmagc,cs=[.bool x.num.neg,.slice znummagp x.num.mag.length znummagc,.bool x.den.neg,.slice zdenmagp x.den.mag.length zdenmagc]/\SlR (Rp.int .u32) G (.slice znummagp x.num.mag.length znummagc) x.num.mag/\SlR (Rp.int .u32) G (.slice zdenmagp x.den.mag.length zdenmagc) x.den.mag:=by
 obtain⟨c1,d1,e1,h1,k1⟩:=h
 subst e1
 obtain⟨c2,d2,e2,h2,k2⟩:=h1
 subst e2
 replace h2:_=([.bool _]:List Value):=h2
 subst h2
 obtain⟨v4,e4,s4⟩:=k2
 subst e4
 obtain⟨p4,q4,f4⟩:=SlR.form s4
 subst f4
 obtain⟨c5,d5,e5,h5,k5⟩:=k1
 subst e5
 replace h5:_=([.bool _]:List Value):=h5
 subst h5
 obtain⟨v7,e7,s7⟩:=k5
 subst e7
 obtain⟨p7,q7,f7⟩:=SlR.form s7
 subst f7
 exact⟨p4,q4,p7,q7,rfl,s4,s7⟩
structure Za where
 c:Zf
 m:(Fin 8->Int)
abbrev Zh:Rp Za:=Rp.via (Rp.pair Zap (Rp.vec .i64 8)) (fun x=>(x.c,x.m))
theorem Zhu{G:Mem}{K:Nat->Value->Prop}{o:Nat}{x:Za}(h:AtK Zh G K o x):∃ zcnummagp zcnummagc zcdenmagp zcdenmagc,(∀ (j:Nat) (u:Value),(([.bool x.c.num.neg,.slice zcnummagp x.c.num.mag.length zcnummagc,.bool x.c.den.neg,.slice zcdenmagp x.c.den.mag.length zcdenmagc]:List Value)++(vecG (Value.int .i64) 8 x.m)).toArray[j]? = some u->K (o+j) u)/\SlR (Rp.int .u32) G (.slice zcnummagp x.c.num.mag.length zcnummagc) x.c.num.mag/\SlR (Rp.int .u32) G (.slice zcdenmagp x.c.den.mag.length zcdenmagc) x.c.den.mag:=by
 obtain⟨c,h,hc⟩:=h
 obtain⟨c1,d1,e1,h1,k1⟩:=h
 subst e1
 obtain⟨c2,d2,e2,h2,k2⟩:=h1
 subst e2
 obtain⟨c3,d3,e3,h3,k3⟩:=h2
 subst e3
 replace h3:_=([.bool _]:List Value):=h3
 subst h3
 obtain⟨v5,e5,s5⟩:=k3
 subst e5
 obtain⟨p5,q5,f5⟩:=SlR.form s5
 subst f5
 obtain⟨c6,d6,e6,h6,k6⟩:=k2
 subst e6
 replace h6:_=([.bool _]:List Value):=h6
 subst h6
 obtain⟨v8,e8,s8⟩:=k6
 subst e8
 obtain⟨p8,q8,f8⟩:=SlR.form s8
 subst f8
 replace k1:_=(vecG (Value.int .i64) 8 _:List Value):=k1
 subst k1
 exact⟨p5,q5,p8,q8,fun j u hu=>hc j u (by simpa using hu),s5,s8⟩
theorem ZeQ{G:Mem}{cs:List Value}{x:Za}(h:Zh.rep G cs x):∃ zcnummagp zcnummagc zcdenmagp zcdenmagc,cs=([.bool x.c.num.neg,.slice zcnummagp x.c.num.mag.length zcnummagc,.bool x.c.den.neg,.slice zcdenmagp x.c.den.mag.length zcdenmagc]:List Value)++(vecG (Value.int .i64) 8 x.m)/\SlR (Rp.int .u32) G (.slice zcnummagp x.c.num.mag.length zcnummagc) x.c.num.mag/\SlR (Rp.int .u32) G (.slice zcdenmagp x.c.den.mag.length zcdenmagc) x.c.den.mag:=by
 obtain⟨c1,d1,e1,h1,k1⟩:=h
 subst e1
 obtain⟨c2,d2,e2,h2,k2⟩:=h1
 subst e2
 obtain⟨c3,d3,e3,h3,k3⟩:=h2
 subst e3
 replace h3:_=([.bool _]:List Value):=h3
 subst h3
 obtain⟨v5,e5,s5⟩:=k3
 subst e5
 obtain⟨p5,q5,f5⟩:=SlR.form s5
 subst f5
 obtain⟨c6,d6,e6,h6,k6⟩:=k2
 subst e6
 replace h6:_=([.bool _]:List Value):=h6
 subst h6
 obtain⟨v8,e8,s8⟩:=k6
 subst e8
 obtain⟨p8,q8,f8⟩:=SlR.form s8
 subst f8
 replace k1:_=(vecG (Value.int .i64) 8 _:List Value):=k1
 subst k1
 exact⟨p5,q5,p8,q8,rfl,s5,s8⟩
structure Ze where
 n:Int
 eqs:(List (List Za))
 neqs:(List (List Za))
abbrev Za6:Rp Ze:=Rp.via (Rp.pair (Rp.int .i64) (Rp.pair (Rp.sl (Rp.sl Zh)) (Rp.sl (Rp.sl Zh)))) (fun x=>(x.n,x.eqs,x.neqs))
theorem Zht{G:Mem}{K:Nat->Value->Prop}{o:Nat}{x:Ze}(h:AtK Za6 G K o x):∃ zeqsp zeqsc zneqsp zneqsc,(∀ (j:Nat) (u:Value),([.int .i64 x.n,.slice zeqsp x.eqs.length zeqsc,.slice zneqsp x.neqs.length zneqsc]).toArray[j]? = some u->K (o+j) u)/\SlR (Rp.sl Zh) G (.slice zeqsp x.eqs.length zeqsc) x.eqs/\SlR (Rp.sl Zh) G (.slice zneqsp x.neqs.length zneqsc) x.neqs:=by
 obtain⟨c,h,hc⟩:=h
 obtain⟨c1,d1,e1,h1,k1⟩:=h
 subst e1
 replace h1:_=([.int .i64 _]:List Value):=h1
 subst h1
 obtain⟨c3,d3,e3,h3,k3⟩:=k1
 subst e3
 obtain⟨v4,e4,s4⟩:=h3
 subst e4
 obtain⟨p4,q4,f4⟩:=SlR.form s4
 subst f4
 obtain⟨v5,e5,s5⟩:=k3
 subst e5
 obtain⟨p5,q5,f5⟩:=SlR.form s5
 subst f5
 exact⟨p4,q4,p5,q5,fun j u hu=>hc j u (by simpa using hu),s4,s5⟩
structure Zn where
 id:Int
 p:(List Za)
abbrev ZaD:Rp Zn:=Rp.via (Rp.pair (Rp.int .i64) (Rp.sl Zh)) (fun x=>(x.id,x.p))
theorem Zft{G:Mem}{K:Nat->Value->Prop}{o:Nat}{x:Zn}(h:AtK ZaD G K o x):∃ zpp zpc,(∀ (j:Nat) (u:Value),([.int .i64 x.id,.slice zpp x.p.length zpc]).toArray[j]? = some u->K (o+j) u)/\SlR Zh G (.slice zpp x.p.length zpc) x.p:=by
 obtain⟨c,h,hc⟩:=h
 obtain⟨c1,d1,e1,h1,k1⟩:=h
 subst e1
 replace h1:_=([.int .i64 _]:List Value):=h1
 subst h1
 obtain⟨v3,e3,s3⟩:=k1
 subst e3
 obtain⟨p3,q3,f3⟩:=SlR.form s3
 subst f3
 exact⟨p3,q3,fun j u hu=>hc j u (by simpa using hu),s3⟩
structure Zo where
 vars:(List ByteArray)
 eqs:(List Zn)
 neqs:(List Zn)
 next:Int
structure Zau where
 k:Ze
end Go.EL

namespace Go.EL
open Go.IntKind (i8 i16 i32 i64 u8 u16 u32 u64)
open Go Go.RowKit
abbrev M:=Fin 8->Int
def cmpFrom(a b:M):Nat->Nat->Int
 | 0,_=>0
 | n+1,k=>if h:k<8 then (if a ⟨k,h⟩<b ⟨k,h⟩ then -1 else if b ⟨k,h⟩<a ⟨k,h⟩ then 1 else cmpFrom a b n (k+1)) else 0
def cmpM(a b:M):Int:=cmpFrom a b 8 0
theorem Zcm(a b:M):∀ (k:Nat),k<=8->(∀ i:Fin 8,i.val<k->a i=b i)->cmpM a b=cmpFrom a b (8-k) k
 | 0,_,_=>rfl
 | k+1,hk,h=>by
  rw[Zcm a b k (by omega) (fun i hi=>h i (by omega))]
  have hl:k<8:=by omega
  have e:=h ⟨k,hl⟩ (by simp)
  rw[show 8-k=(8-(k+1))+1 by omega]
  simp[cmpFrom,hl,e]
theorem Zj4(a b:M){k:Nat}(hk:k<8)(h:∀ i:Fin 8,i.val<k->a i=b i)(hlt:a ⟨k,hk⟩<b ⟨k,hk⟩):cmpM a b = -1:=by
 rw[Zcm a b k (by omega) h,show 8-k=(7-k)+1 by omega]
 simp[cmpFrom,hk,hlt]
theorem Zj3(a b:M){k:Nat}(hk:k<8)(h:∀ i:Fin 8,i.val<k->a i=b i)(hlt:b ⟨k,hk⟩<a ⟨k,hk⟩):cmpM a b=1:=by
 rw[Zcm a b k (by omega) h,show 8-k=(7-k)+1 by omega]
 have:¬ a ⟨k,hk⟩<b ⟨k,hk⟩:=by omega
 simp[cmpFrom,hk,hlt,this]
theorem Zj2(a b:M)(h:∀ i,a i=b i):cmpM a b=0:=by
 rw[Zcm a b 8 (by omega) (fun i _=>h i)]
 rfl
theorem ZeP(a b:M):∀ n k,cmpFrom b a n k = - cmpFrom a b n k
 | 0,_=>by simp[cmpFrom]
 | n+1,k=>by
  simp only[cmpFrom]
  split
  .rename_i h
   rw[ZeP a b n (k+1)]
   split <;> split <;> first|omega|(split <;> omega)
  rfl
theorem Zcb(a b c:M):∀ n k,cmpFrom a b n k<=0->cmpFrom b c n k<=0->cmpFrom a c n k<=0/\((cmpFrom a b n k<0\/cmpFrom b c n k<0)->cmpFrom a c n k<0)
 | 0,_=>by simp[cmpFrom]
 | n+1,k=>by
  have ih:=Zcb a b c n (k+1)
  simp only[cmpFrom]
  by_cases h:k<8
  .simp only[dif_pos h]
   by_cases h1:a ⟨k,h⟩<b ⟨k,h⟩
   .by_cases h2:b ⟨k,h⟩<c ⟨k,h⟩
    .simp[h1,h2,show a ⟨k,h⟩<c ⟨k,h⟩ by omega]
    by_cases h3:c ⟨k,h⟩<b ⟨k,h⟩
    .simp[h2,h3]
    simp[show a ⟨k,h⟩<c ⟨k,h⟩ by omega]
   by_cases h1':b ⟨k,h⟩<a ⟨k,h⟩
   .simp[h1,h1']
   by_cases h2:b ⟨k,h⟩<c ⟨k,h⟩
   .simp[show a ⟨k,h⟩<c ⟨k,h⟩ by omega]
   by_cases h3:c ⟨k,h⟩<b ⟨k,h⟩
   .simp[h2,h3]
   simp only[h1,h1',h2,h3,if_false,show ¬ a ⟨k,h⟩<c ⟨k,h⟩ by omega,show ¬ c ⟨k,h⟩<a ⟨k,h⟩ by omega]
   exact ih
  simp[h]
theorem Zei(a b:M):∀ n k,n+k=8->cmpFrom a b n k=0->∀ i:Fin 8,k<=i.val->a i=b i
 | 0,k,e,_,i,hi=>by have:=i.isLt; omega
 | n+1,k,e,hz,i,hi=>by
  have hk:k<8:=by omega
  simp only[cmpFrom,dif_pos hk] at hz
  by_cases h1:a ⟨k,hk⟩<b ⟨k,hk⟩
  .simp[h1] at hz
  by_cases h2:b ⟨k,hk⟩<a ⟨k,hk⟩
  .simp[h1,h2] at hz
  simp only[h1,h2,if_false] at hz
  by_cases hik:i.val=k
  .have:i=⟨k,hk⟩:=Fin.ext hik
   subst this; omega
  exact Zei a b n (k+1) (by omega) hz i (by omega)
theorem Zal(a b:M):cmpM b a = - cmpM a b:=ZeP a b 8 0
theorem Zgy{a b c:M}(h1:cmpM a b<=0)(h2:cmpM b c<=0):cmpM a c<=0:=(Zcb a b c 8 0 h1 h2).1
theorem Zcc{a b c:M}(h1:cmpM a b<=0)(h2:cmpM b c<=0)(h:cmpM a b<0\/cmpM b c<0):cmpM a c<0:=(Zcb a b c 8 0 h1 h2).2 h
theorem ZcU(a:M):cmpM a a=0:=Zj2 a a fun _=>rfl
theorem Zbn{a b:M}(h:cmpM a b=0):a=b:=funext fun i=>Zei a b 8 0 rfl h i (Nat.zero_le _)
theorem swoR:Go.Sort.SWO (Go.Proofs.ltOf fun a b=>cmpM b a) where
 irrefl x:=by simp[Go.Proofs.ltOf,ZcU]
 trans x y z h1 h2:=by
  simp only[Go.Proofs.ltOf,decide_eq_true_eq] at *
  exact Zcc (a:=z) (b:=y) (c:=x) (by omega) (by omega) (.inl h2)
 ntrans x y z h1 h2:=by
  simp only[Go.Proofs.ltOf,decide_eq_false_iff_not] at *
  have a:=Zal x y
  have b:=Zal y z
  have c:=Zal x z
  have:=Zgy (a:=x) (b:=y) (c:=z) (by omega) (by omega)
  omega
end Go.EL

namespace Go.EL
open Go.IntKind (i8 i16 i32 i64 u8 u16 u32 u64)
open Go Go.EL Go.RowKit Go.Proofs
def goodC(c:Zf):Bool:=match c.num.mag,c.den.mag with
 | [w],[d]=>!c.den.neg && decide (d=1) && decide (1<=w) && decide (w<=12)
 | _,_=>false
def numC(c:Zf):Int:=if c.num.neg=true then-c.num.mag.headD 0 else c.num.mag.headD 0
def cmpT(s t:Za):Int:=if s.m=t.m then (if numC s.c<numC t.c then -1 else if numC s.c=numC t.c then 0 else 1) else cmpM s.m t.m
def cmpP:List Za->List Za->Int
 | [],[]=>0
 | [],_::_=>-1
 | _::_,[]=>1
 | s::p,t::q=>if cmpT s t=0 then cmpP p q else cmpT s t
def goodP(p:List Za):Bool:=decide (p.length<=1000) && p.all fun t=>goodC t.c
def inP(x:List Za):List (List Za)->List (List Za)
 | []=>[x]
 | y::l=>if 0<cmpP x y then y::inP x l else x::y::l
def ordP(l:List (List Za)):List (List Za):=l.foldr inP []
def dedG(x:List Za):List (List Za)->List (List Za)
 | []=>[]
 | y::l=>if cmpP y x=0 then dedG y l else y::dedG y l
def dedP:List (List Za)->List (List Za)
 | []=>[]
 | x::l=>x::dedG x l
def Zbc(l:List (List Za)):Cq (List (List Za)):=Cq.chk (l.length<=100/\l.all goodP=true) (Cq.ret (dedP (ordP l)))
def natG:Nat->Int->List Int
 | 0,n=>[u8.wrap n]
 | f+1,n=>if 128<=n then u8.wrap (u8.wrap (Int.tmod n 128)+128)::natG f (u64.wrap (Int.tdiv n 128)) else [u8.wrap n]
def natW(n:Int):List Int:=natG 10 n
def numW(n:Int):List Int:=natW (u64.wrap (2*u64.wrap n))
def wordW(d:Int):List Int:=[u8.wrap (Int.fdiv d (2 ^ (min (24:Int).toNat u32.bits))),u8.wrap (Int.fdiv d (2 ^ (min (16:Int).toNat u32.bits))),u8.wrap (Int.fdiv d (2 ^ (min (8:Int).toNat u32.bits))),u8.wrap d]
def intW(a:Zb):List Int:=natW (if a.neg=true then u64.wrap (u64.wrap (2*u64.wrap (a.mag.length:Int))+1) else u64.wrap (2*u64.wrap (a.mag.length:Int)))++a.mag.flatMap wordW
def ratW(a:Zf):List Int:=intW a.num++intW a.den
def monW(m:Fin 8->Int):Nat->List Int
 | 0=>[]
 | k+1=>monW m k++natW (u64.wrap (getF m (k:Int)))
def termW(t:Za):List Int:=ratW t.c++monW t.m 8
def polyW(p:List Za):List Int:=natW (u64.wrap (p.length:Int))++p.flatMap termW
def polysW(l:List (List Za)):List Int:=natW (u64.wrap (l.length:Int))++l.flatMap polyW
def coreW(k:Ze):List Int:=numW k.n++polysW k.eqs++polysW k.neqs
def swF(f:Fin 8->Int)(a b:Nat):Fin 8->Int:=setF (setF f a (getF f (b:Int))) b (getF f (a:Int))
def revF(f:Fin 8->Int)(b a:Nat):Nat->Fin 8->Int
 | 0=>f
 | k+1=>swF (revF f b a k) (b+k) (b+(a-1-k))
def ascF(p:Fin 8->Int):Nat->Option Nat
 | 0=>none
 | k+1=>if getF p ((k+1:Nat):Int)<getF p (k:Int) then ascF p k else some k
def geF(p:Fin 8->Int)(x:Int):Nat->Nat
 | 0=>0
 | j+1=>if getF p ((j+1:Nat):Int)<x then geF p x j else j+1
def nextF(n:Nat)(p:Fin 8->Int):Option (Fin 8->Int):=match ascF p (n-1) with
 | none=>none
 | some i=>some (revF (swF p i (geF p (getF p (i:Int)) (n-1))) (i+1) (n-(i+1)) ((n-(i+1)) / 2))
def permsF(n:Nat):Nat->(Fin 8->Int)->List (Fin 8->Int)
 | 0,_=>[]
 | k+1,p=>p::match nextF n p with|none=>[]|some q=>permsF n k q
def permsL(n:Nat):List (Fin 8->Int):=permsF n 24 fun i=>(i.val:Int)
def ZcL:ByteArray:=⟨#[0,1,2,2,3,3,3,3,4,4,4,4,4,4,4,4,5,5,5,5,5,5,5,5,5,5,5,5,5,5,5,5,6,6,6,6,6,6,6,6,6,6,6,6,6,6,6,6,6,6,6,6,6,6,6,6,6,6,6,6,6,6,6,6,7,7,7,7,7,7,7,7,7,7,7,7,7,7,7,7,7,7,7,7,7,7,7,7,7,7,7,7,7,7,7,7,7,7,7,7,7,7,7,7,7,7,7,7,7,7,7,7,7,7,7,7,7,7,7,7,7,7,7,7,7,7,7,7,8,8,8,8,8,8,8,8,8,8,8,8,8,8,8,8,8,8,8,8,8,8,8,8,8,8,8,8,8,8,8,8,8,8,8,8,8,8,8,8,8,8,8,8,8,8,8,8,8,8,8,8,8,8,8,8,8,8,8,8,8,8,8,8,8,8,8,8,8,8,8,8,8,8,8,8,8,8,8,8,8,8,8,8,8,8,8,8,8,8,8,8,8,8,8,8,8,8,8,8,8,8,8,8,8,8,8,8,8,8,8,8,8,8,8,8,8,8,8,8,8,8,8,8,8,8,8,8]⟩
def ZV(k:Int):Cq (List (List Za)):=Cq.chk (0<=k/\k<=1000000) (Cq.ret [])
def Zbu(b:(Fin 8->Int))(c:(Fin 8->Int))(a:Int):Cq Int:=
 Cq.chk (0<=a/\a<8) (Cq.chk (0<=a/\a<8) (if (getF b a)<(getF c a) then (Cq.ret (-1)) else (Cq.ret 1)))
def ZfD(b:(Fin 8->Int))(c:(Fin 8->Int)):Int->Cq Int:=
 Cq.loop fun d=>match d with|a=>Cq.chk (0<=a/\a<8) (Cq.chk (0<=a/\a<8) (if (getF b a)=(getF c a) then (Cq.ret (.inl (i64.wrap (a+1)))) else (Cq.ret (.inr a))))
def Zaf(a:(Fin 8->Int))(b:(Fin 8->Int)):Cq Int:=
 if a=b then (Cq.ret 0) else (Cq.next (ZfD a b 0) fun c=>match c with|d=>Zbu a b d)
def ZbA(b:Za)(c:Za):Cq Int:=
 Cq.bind (Zaf c.m b.m) fun a=>Cq.ret a
def Zz(l:List Za)(a b c:Int):Cq (List Za):=
 Cq.chk (a=0/\b=(l.length:Int)/\(0<=c/\c<1000000)/\l.length<=1000000) (Cq.any (fun d=>d.Perm l/\d.Pairwise (fun x y=>¬ cmpM x.m y.m<0)) Cq.ret)
def ZW(a:Zb):Cq Int:=
 if (a.mag.length:Int)=0 then (Cq.ret 0) else (if a.neg=true then (Cq.ret (-1)) else (Cq.ret 1))
def Zw(b:Zf):Cq Int:=
 Cq.bind (ZW b.num) fun a=>Cq.ret a
def Zbs(b:(List Int))(a:Int):Cq (List Int):=
 Cq.chk (0<=(0:Int)/\(0:Int)<=a/\a<=(b.length:Int)) (Cq.ret ((b.take a.toNat).drop (0:Int).toNat))
def ZfB(b:(List Int)):Int->Cq Int:=
 Cq.loop fun c=>match c with|a=>if 0<a then (Cq.at' b (i64.wrap (a-1)) fun d=>if d=0 then (Cq.ret (.inl (i64.wrap (a-1)))) else (Cq.ret (.inr a))) else (Cq.ret (.inr a))
def ZI(a:(List Int)):Cq (List Int):=
 Cq.next (ZfB a (a.length:Int)) fun b=>match b with|c=>Zbs a c
def Za9(a:Int):Cq (List Int):=
 Cq.bind (ZI [u32.wrap a,u32.wrap (Int.fdiv a (2 ^ (min (32:Int).toNat u64.bits)))]) fun b=>Cq.ret b
def ZJ(b:Bool)(c:(List Int)):Cq Zb:=
 Cq.bind (ZI c) fun a=>if (a.length:Int)=0 then (Cq.ret (Zb.mk false [])) else (Cq.ret (Zb.mk b a))
def ZaU(a:Int):Cq Zb:=
 if a<0 then Cq.fail else (Cq.bind (Za9 (u64.wrap a)) fun b=>Cq.bind (ZJ (decide (a<0)) b) fun c=>Cq.ret c)
def ZP(a:Zb):Cq Bool:=
 if a.neg=true then (Cq.ret false) else (if (a.mag.length:Int)=1 then (Cq.at' a.mag 0 fun b=>Cq.ret (decide (b=1))) else (Cq.ret false))
def ZaK(a:(List Int)):Cq (List Int):=
 Cq.bind (ZI a) fun b=>Cq.ret b
def ZaL(b:(List Int))(a:Int)(c:(List Int))(d:Int):Cq (((List Int)×Int)⊕(List Int)):=
 Cq.at' c (i64.wrap (a+(b.length:Int))) fun e=>Cq.ret (.inl ((c.set (i64.wrap (a+(b.length:Int))).toNat (u32.wrap d)),i64.wrap (a+1)))
def Zep(e:(List Int))(b:Int)(f:Int):((List Int)×Int×Int)->Cq (((List Int)×Int)):=
 Cq.loop fun i=>match i with|(c,d,a)=>if a<(e.length:Int) then (Cq.at' e a fun g=>Cq.at' c (i64.wrap (b+a)) fun h=>Cq.at' c (i64.wrap (b+a)) fun j=>Cq.ret (.inl ((c.set (i64.wrap (b+a)).toNat (u32.wrap (u64.wrap ((u64.wrap ((u64.wrap ((u64.wrap f)*(u64.wrap g)))+(u64.wrap h)))+d)))),Int.fdiv (u64.wrap ((u64.wrap ((u64.wrap ((u64.wrap f)*(u64.wrap g)))+(u64.wrap h)))+d)) (2 ^ (min (32:Int).toNat u64.bits)),i64.wrap (a+1)))) else (Cq.ret (.inr (c,d)))
def Zeo(b:(List Int))(c:(List Int)):((List Int)×Int)->Cq (List Int):=
 Cq.loop fun g=>match g with|(d,a)=>if a<(b.length:Int) then (Cq.at' b a fun h=>Cq.next (Zep c a h (d,0,0)) fun i=>match i with|(e,f)=>ZaL c a e f) else (Cq.ret (.inr d))
def Zc0(a:(List Int))(b:(List Int)):Cq (List Int):=
 Cq.chk (0<=i64.wrap ((a.length:Int)+(b.length:Int))/\(i64.wrap ((a.length:Int)+(b.length:Int)))<=1000000) (Cq.next (Zeo a b ((List.replicate (i64.wrap ((a.length:Int)+(b.length:Int))).toNat 0),0)) fun d=>match d with|c=>ZaK c)
def Zb1(a:Zb)(b:Zb):Cq Zb:=
 Cq.bind (Zc0 a.mag b.mag) fun c=>Cq.bind (ZJ (decide (¬ a.neg=b.neg)) c) fun d=>Cq.ret d
def Zaz(a:Zb):Cq Zb:=
 Cq.ret a
def Zd6(d:(List Zb)):(Int×Zb)->Cq Zb:=
 Cq.loop fun h=>match h with|(a,b)=>if a<(d.length:Int) then (Cq.at' d a fun c=>Cq.bind (ZP c) fun e=>if e=true then (Cq.ret (.inl (i64.wrap (a+1),b))) else (Cq.bind (ZP b) fun f=>if f=true then (Cq.ret (.inl (i64.wrap (a+1),c))) else (Cq.bind (Zb1 b c) fun g=>Cq.ret (.inl (i64.wrap (a+1),g))))) else (Cq.ret (.inr b))
def ZZ(c:(List Zb)):Cq Zb:=
 Cq.bind (ZaU 1) fun a=>Cq.next (Zd6 c (0,a)) fun d=>match d with|b=>Zaz b
def ZaJ:Cq Int:=
 Cq.ret 0
def Zen(b:(List Int))(c:(List Int)):Int->Cq (Int⊕Unit):=
 Cq.loop fun d=>match d with|a=>if 0<=a then (Cq.at' b a fun e=>Cq.at' c a fun f=>if ¬ e=f then (Cq.at' b a fun g=>Cq.at' c a fun h=>if g<h then (Cq.ret (.inr (.inl (-1)))) else (Cq.ret (.inr (.inl 1)))) else (Cq.ret (.inl (i64.wrap (a-1))))) else (Cq.ret (.inr (.inr ())))
def ZaA(a:(List Int))(b:(List Int)):Cq Int:=
 if ¬ (a.length:Int)=(b.length:Int) then Cq.fail else (Cq.next (Zen a b (i64.wrap ((a.length:Int)-1))) fun d=>match d with | .inl c=>Cq.ret c | .inr ()=>ZaJ)
def ZeT(b:Zb)(c:Zb):Cq Int:=
 Cq.bind (ZW b) fun a=>Cq.bind (ZW c) fun d=>if ¬ a=d then Cq.fail else (if a<0 then (Cq.bind (ZaA c.mag b.mag) fun e=>Cq.ret e) else (Cq.bind (ZaA b.mag c.mag) fun f=>Cq.ret f))
def ZaP(c:Zf)(d:Zf):Cq Int:=
 Cq.bind (Zw c) fun a=>Cq.bind (Zw d) fun b=>if ¬ a=b then (if a<b then (Cq.ret (-1)) else (Cq.ret 1)) else (Cq.bind (ZZ [c.num,d.den]) fun e=>Cq.bind (ZZ [d.num,c.den]) fun f=>Cq.bind (ZeT e f) fun g=>Cq.ret g)
def Zac(a:Za)(b:Za):Cq Int:=
 if ¬ a.m=b.m then (Cq.bind (Zaf a.m b.m) fun d=>Cq.ret d) else (Cq.bind (ZaP a.c b.c) fun e=>Cq.ret e)
def Zi(a:(List Za))(b:(List Za)):Cq Int:=
 if (a.length:Int)<(b.length:Int) then (Cq.ret (-1)) else (Cq.ret 0)
def Zq(b:(List Za))(c:(List Za)):Int->Cq (Int⊕Unit):=
 Cq.loop fun e=>match e with|a=>if a<(b.length:Int) then (Cq.at' b a fun f=>if (c.length:Int)<=a then (Cq.ret (.inr (.inl 1))) else (Cq.at' c a fun g=>Cq.bind (Zac f g) fun d=>if ¬ d=0 then (Cq.ret (.inr (.inl d))) else (Cq.ret (.inl (i64.wrap (a+1)))))) else (Cq.ret (.inr (.inr ())))
def Zl(a:(List Za))(b:(List Za)):Cq Int:=
 Cq.next (Zq a b 0) fun d=>match d with | .inl c=>Cq.ret c | .inr ()=>Zi a b
def ZbV(b:(List Za))(c:(List Za)):Cq Int:=
 Cq.bind (Zl b c) fun a=>Cq.ret a
def ZH(l:List (List Za))(a b c:Int):Cq (List (List Za)):=
 Cq.chk (a=0/\b=(l.length:Int)/\(0<=c/\c<1000000)/\l.length<=1000000/\l.all goodP=true) (Cq.ret (ordP l))
def Z5(a:Za)(b:Za):Cq Bool:=
 if a.m=b.m then (Cq.bind (ZaP a.c b.c) fun d=>Cq.ret (decide (d=0))) else (Cq.ret false)
def Zk:Cq Bool:=
 Cq.ret true
def Zr(b:(List Za))(c:(List Za)):Int->Cq (Bool⊕Unit):=
 Cq.loop fun e=>match e with|a=>if a<(b.length:Int) then (Cq.at' b a fun f=>Cq.at' c a fun g=>Cq.bind (Z5 f g) fun d=>if (!d)=true then (Cq.ret (.inr (.inl false))) else (Cq.ret (.inl (i64.wrap (a+1))))) else (Cq.ret (.inr (.inr ())))
def Zm(a:(List Za))(b:(List Za)):Cq Bool:=
 if ¬ (a.length:Int)=(b.length:Int) then (Cq.ret false) else (Cq.next (Zr a b 0) fun d=>match d with | .inl c=>Cq.ret c | .inr ()=>Zk)
def Zby(b:(List Za))(c:(List Za)):Cq Bool:=
 Cq.bind (Zm b c) fun a=>Cq.ret a
def Zb4(a:Int)(b:Int):Cq Int:=
 Cq.chk (0<=(u8.wrap a:Int)/\(u8.wrap a)<(ZcL.size:Int)) (Cq.ret (i64.wrap (b+(i64.wrap (byteAt ZcL (u8.wrap a))))))
def Zb5(a:Int)(b:Int):Cq Int:=
 if 256<=a then Cq.fail else (Zb4 a b)
def Zb6(a:Int)(b:Int):Cq Int:=
 if 65536<=a then Cq.fail else (Zb5 a b)
def Zc1(a:Int):Cq Int:=
 if 4294967296<=a then Cq.fail else (Zb6 a 0)
def ZN(b:Int):Cq Int:=
 Cq.bind (Zc1 b) fun a=>Cq.ret a
def ZA(a:(List (List Za))):Cq ((List (List Za))):=
 Cq.bind (ZN (u64.wrap (a.length:Int))) fun b=>Cq.bind (ZH a 0 (a.length:Int) b) fun c=>Cq.ret c
def Za8(a:(List Int)):Cq (List Int):=
 Cq.chk (([]++a).length<=small) (Cq.ret ([]++a))
def Zbe(a:Int):Cq Int:=
 Cq.ret a
def Zfc(b:(List Int)):(Int×Int)->Cq Int:=
 Cq.loop fun d=>match d with|(c,a)=>if a<(b.length:Int) then (Cq.at' b a fun e=>Cq.chk (0<=(i64.wrap (32*a))) (Cq.ret (.inl (u64.wrap (BitVec.ofInt u64.bits c ||| BitVec.ofInt u64.bits (u64.wrap ((u64.wrap e)*2 ^ (min (i64.wrap (32*a)).toNat u64.bits)))).toNat,i64.wrap (a+1))))) else (Cq.ret (.inr c))
def Zce(a:(List Int)):Cq Int:=
 Cq.next (Zfc a (0,0)) fun b=>match b with|c=>Zbe c
def Z9(c:(List Int))(a:Int):Cq ((List Int)×Int):=
 Cq.bind (ZI c) fun b=>Cq.ret (b,a)
def Zdh(f:(List Int))(c:Int):((List Int)×Int×Int)->Cq (((List Int)×Int)):=
 Cq.loop fun g=>match g with|(d,a,b)=>if 0<=b then (Cq.at' f b fun e=>Cq.chk (c≠0) (Cq.at' d b fun h=>Cq.chk (c≠0) (Cq.ret (.inl ((d.set b.toNat (u32.wrap (u64.wrap (Int.tdiv (u64.wrap (BitVec.ofInt u64.bits (u64.wrap (a*2 ^ (min (32:Int).toNat u64.bits))) ||| BitVec.ofInt u64.bits (u64.wrap e)).toNat) c)))),Int.tmod (u64.wrap (BitVec.ofInt u64.bits (u64.wrap (a*2 ^ (min (32:Int).toNat u64.bits))) ||| BitVec.ofInt u64.bits (u64.wrap e)).toNat) c,i64.wrap (b-1)))))) else (Cq.ret (.inr (d,a)))
def ZbF(a:(List Int))(c:Int):Cq ((List Int)×Int):=
 Cq.chk (0<=(a.length:Int)/\(a.length:Int)<=1000000) (Cq.next (Zdh a c ((List.replicate (a.length:Int).toNat 0),0,i64.wrap ((a.length:Int)-1))) fun d=>match d with|(e,b)=>Z9 e b)
def ZbQ(d:(List Int))(e:(List Int)):Cq ((List Int)×(List Int)):=
 Cq.bind (ZI d) fun b=>Cq.bind (ZI e) fun a=>Cq.bind (ZaA b a) fun f=>if f<0 then Cq.fail else (if (a.length:Int)=1 then (Cq.at' a 0 fun h=>Cq.bind (ZbF b (u64.wrap h)) fun c=>Cq.bind (Za9 c.2) fun g=>Cq.ret (c.1,g)) else Cq.fail)
def ZbN(b:(List Int)):Cq Zb:=
 Cq.bind (ZJ false b) fun a=>Cq.ret a
def ZbO(c:Int):Cq (((List Int)×(List Int)×Zb)⊕(Zb⊕((List Int)×Zb))):=
 Cq.bind (Za9 c) fun b=>Cq.bind (ZJ false b) fun a=>Cq.ret (.inr (.inl a))
def ZfV:(Int×Int)->Cq Int:=
 Cq.loop fun c=>match c with|(b,a)=>if 0<a then (Cq.chk (a≠0) (Cq.ret (.inl (a,Int.tmod b a)))) else (Cq.ret (.inr b))
def ZbP(d:(List Int))(a:(List Int))(e:Zb)(b:Bool):Cq (((List Int)×(List Int)×Zb)⊕(Zb⊕((List Int)×Zb))):=
 if b=true then (Cq.bind (Zce d) fun f=>Cq.bind (Zce a) fun g=>Cq.next (ZfV (f,g)) fun h=>match h with|i=>ZbO i) else (Cq.bind (ZbQ d a) fun c=>Cq.ret (.inl (a,c.2,e)))
def ZfU:((List Int)×(List Int)×Zb)->Cq (Zb⊕((List Int)×Zb)):=
 Cq.loop fun d=>match d with|(c,a,b)=>if 0<(a.length:Int) then (if (c.length:Int)<=2 then (ZbP c a b (decide ((a.length:Int)<=2))) else (ZbP c a b false)) else (Cq.ret (.inr (.inr (c,b))))
def Z8(f:Zb)(g:Zb):Cq Zb:=
 Cq.bind (ZI f.mag) fun a=>Cq.bind (Za8 a) fun b=>Cq.bind (ZI g.mag) fun c=>Cq.bind (Za8 c) fun d=>Cq.next (ZfU (b,d,(Zb.mk false []))) fun h=>match h with | .inl e=>Cq.ret e | .inr (i,j)=>ZbN i
def Zcd(a:Zb):Cq Bool:=
 if (a.mag.length:Int)=0 then (Cq.ret (!a.neg)) else (Cq.at' a.mag (i64.wrap ((a.mag.length:Int)-1)) fun b=>Cq.ret (decide (¬ b=0)))
def Zck(a:Zf):Cq Bool:=
 Cq.bind (ZP a.den) fun b=>match b with|false=>(Cq.bind (Z8 a.num a.den) fun c=>Cq.bind (ZP c) fun d=>Cq.ret d)|true=>(Cq.ret true)
def ZaW(a:Zf):Cq Bool:=
 Cq.bind (Zcd a.num) fun b=>match b with|false=>(Cq.ret false)|true=>(Cq.bind (Zcd a.den) fun c=>match c with|false=>(Cq.ret false)|true=>(Cq.bind (ZW a.den) fun d=>if d<=0 then Cq.fail else (Zck a)))
def Za0:Cq Bool:=
 Cq.ret true
def ZeK(b:(Fin 8->Int)):Int->Cq (Bool⊕Unit):=
 Cq.loop fun c=>match c with|a=>if a<8 then (Cq.chk (0<=a/\a<8) (if (getF b a)<0 then (Cq.ret (.inr (.inl false))) else (if 65535<(getF b a) then Cq.fail else (Cq.ret (.inl (i64.wrap (a+1))))))) else (Cq.ret (.inr (.inr ())))
def ZaV(b:(Fin 8->Int)):Cq Bool:=
 Cq.next (ZeK b 0) fun c=>match c with | .inl a=>Cq.ret a | .inr ()=>Za0
def Zay:Cq Bool:=
 Cq.ret true
def Z2(c:(List Za))(a:Int)(d:Za):Cq (Int⊕(Bool⊕Unit)):=
 if 0<a then (Cq.at' c (i64.wrap (a-1)) fun e=>Cq.bind (Zaf e.m d.m) fun b=>if b<=0 then Cq.fail else (Cq.ret (.inl (i64.wrap (a+1))))) else (Cq.ret (.inl (i64.wrap (a+1))))
def Zd5(d:(List Za)):Int->Cq (Bool⊕Unit):=
 Cq.loop fun h=>match h with|a=>if a<(d.length:Int) then (Cq.at' d a fun b=>Cq.bind (ZaW b.c) fun e=>match e with|false=>(Cq.ret (.inr (.inl false)))|true=>(Cq.bind (Zw b.c) fun f=>if f=0 then (Cq.ret (.inr (.inl false))) else (Cq.bind (ZaV b.m) fun g=>if (!g)=true then (Cq.ret (.inr (.inl false))) else (Z2 d a b)))) else (Cq.ret (.inr (.inr ())))
def ZX(b:(List Za)):Cq Bool:=
 Cq.next (Zd5 b 0) fun c=>match c with | .inl a=>Cq.ret a | .inr ()=>Zay
def Zav(a:Int):Cq Int:=
 Cq.ret a
def Zd3(c:(Fin 8->Int)):(Int×Int)->Cq Int:=
 Cq.loop fun d=>match d with|(b,a)=>if a<8 then (Cq.chk (0<=a/\a<8) (if 0<(getF c a) then (Cq.chk (0<=a) (Cq.ret (.inl (u8.wrap (BitVec.ofInt u8.bits b ||| BitVec.ofInt u8.bits (u8.wrap (1*2 ^ (min (a).toNat u8.bits)))).toNat,i64.wrap (a+1))))) else (Cq.ret (.inl (b,i64.wrap (a+1)))))) else (Cq.ret (.inr b))
def Zbh(a:(Fin 8->Int)):Cq Int:=
 Cq.next (Zd3 a (0,0)) fun b=>match b with|c=>Zav c
def ZaO(a:Int):Cq Int:=
 Cq.ret a
def Zey(b:(List Za)):(Int×Int)->Cq Int:=
 Cq.loop fun e=>match e with|(c,a)=>if a<(b.length:Int) then (Cq.at' b a fun f=>Cq.bind (Zbh f.m) fun d=>Cq.ret (.inl (u8.wrap (BitVec.ofInt u8.bits c ||| BitVec.ofInt u8.bits d).toNat,i64.wrap (a+1)))) else (Cq.ret (.inr c))
def ZaB(a:(List Za)):Cq Int:=
 Cq.next (Zey a (0,0)) fun b=>match b with|c=>ZaO c
def ZaM(a:Int):Cq Int:=
 Cq.ret a
def Zev(c:(Fin 8->Int)):(Int×Int)->Cq Int:=
 Cq.loop fun d=>match d with|(b,a)=>if a<8 then (Cq.chk (0<=a/\a<8) (Cq.ret (.inl (i64.wrap (b+(getF c a)),i64.wrap (a+1))))) else (Cq.ret (.inr b))
def Zbv(a:(Fin 8->Int)):Cq Int:=
 Cq.next (Zev a (0,0)) fun b=>match b with|c=>ZaM c
def Zan(a:Int):Cq Int:=
 Cq.ret a
def ZdR(d:(List Za)):(Int×Int)->Cq Int:=
 Cq.loop fun e=>match e with|(c,a)=>if a<(d.length:Int) then (Cq.at' d a fun f=>Cq.bind (Zbv f.m) fun b=>Cq.ret (.inl (if c<b then b else c,i64.wrap (a+1)))) else (Cq.ret (.inr c))
def ZL(a:(List Za)):Cq Int:=
 Cq.next (ZdR a ((-1),0)) fun b=>match b with|c=>Zan c
def _eliminant_claim_rules_bounded(a:Zau)(b:(List Za))(f:Int):Cq Bool:=
 Cq.bind (ZX b) fun c=>match c with|false=>(Cq.ret false)|true=>(Cq.bind (ZaB b) fun d=>Cq.chk (0<=a.k.n) (if (Int.fdiv (i64.wrap d) (2 ^ (min (a.k.n).toNat i64.bits)))=0 then (Cq.bind (ZL b) fun e=>Cq.ret (decide (e<=f))) else (Cq.ret false)))
def Zch(d:Zb)(e:Zb)(f:(List Int))(a:(List Int)):Cq (Zb×Zb×Int):=
 Cq.bind (ZJ (decide (¬ d.neg=e.neg)) f) fun b=>Cq.bind (ZJ false a) fun c=>Cq.ret (b,c,0)
def ZaZ(c:Zb)(d:Zb)(b:(List Int)×(List Int))(a:Bool):Cq (Zb×Zb×Int):=
 if a=true then Cq.fail else (Zch c d b.1 b.2)
def Zad(b:Zb)(c:Zb):Cq (Zb×Zb×Int):=
 Cq.bind (ZI c.mag) fun d=>if (d.length:Int)=0 then Cq.fail else (Cq.bind (ZbQ b.mag c.mag) fun a=>if b.neg=true then (ZaZ b c a (decide (0<(a.2.length:Int)))) else (ZaZ b c a false))
def ZaC(c:Zb)(a:Zb):Cq Zf:=
 Cq.bind (ZP a) fun d=>if d=true then (Cq.ret (Zf.mk c a)) else (Cq.bind (Z8 c a) fun b=>Cq.bind (ZP b) fun e=>if e=true then (Cq.ret (Zf.mk c a)) else (Cq.bind (Zad c b) fun f=>Cq.bind (Zad a b) fun g=>Cq.ret (Zf.mk f.1 g.1)))
def ZbB(e:Zb)(a:Zb):Cq (Zf×Int):=
 Cq.bind (ZW a) fun b=>if b=0 then Cq.fail else (Cq.bind (ZW a) fun c=>if c<0 then Cq.fail else (Cq.bind (ZaC e a) fun d=>Cq.ret (d,0)))
def Zbw(a:(Fin 8->Int)):Cq ((Fin 8->Int)×Int):=
 Cq.bind (ZaV a) fun b=>if (!b)=true then Cq.fail else (Cq.ret (a,0))
def ZfE(c:(Fin 8->Int)):(Int×(Fin 8->Int))->Cq (Fin 8->Int):=
 Cq.loop fun d=>match d with|(a,b)=>if a<8 then (Cq.chk (0<=a/\a<8) (Cq.chk (0<=a/\a<8) (Cq.chk (0<=a/\a<8) (Cq.ret (.inl (i64.wrap (a+1),setF b a.toNat (i64.wrap ((getF b a)+(getF c a))))))))) else (Cq.ret (.inr b))
def ZcI(b:(Fin 8->Int))(c:(Fin 8->Int)):Cq ((Fin 8->Int)×Int):=
 Cq.next (ZfE c (0,b)) fun d=>match d with|a=>Zbw a
def ZY(c:Zf)(d:Zf):Cq Zf:=
 Cq.bind (ZaC c.num d.den) fun a=>Cq.bind (ZaC d.num c.den) fun b=>Cq.bind (ZZ [a.num,b.num]) fun e=>Cq.bind (ZZ [a.den,b.den]) fun f=>Cq.ret (Zf.mk e f)
def Zax(a:(List Za)):Cq ((List Za)×Int):=
 Cq.ret (a,0)
def Zd4(h:Zf)(i:(Fin 8->Int))(f:(List Za)):((List Za)×Int)->Cq (((List Za)×Int)⊕(List Za)):=
 Cq.loop fun j=>match j with|(b,a)=>if a<(f.length:Int) then (Cq.at' f a fun g=>Cq.bind (ZcI i g.m) fun d=>if ¬ d.2=0 then Cq.fail else (Cq.bind (ZY h g.c) fun e=>Cq.chk ((b++[(Za.mk e d.1)]).length<=small) (Cq.ret (.inl ((b++[(Za.mk e d.1)]),i64.wrap (a+1)))))) else (Cq.ret (.inr (.inr b)))
def Zbi(b:Zf)(f:(Fin 8->Int))(a:(List Za)):Cq ((List Za)×Int):=
 Cq.bind (Zw b) fun c=>if c=0 then Cq.fail else (Cq.chk (0<=(a.length:Int)/\(a.length:Int)<=1000000) (Cq.next (Zd4 b f a (([]:List Za),0)) fun g=>match g with | .inl d=>Cq.ret d | .inr e=>Zax e))
def Zdg(a:Zb):Cq Zb:=
 Cq.bind (Za8 a.mag) fun b=>Cq.bind (ZJ (!a.neg) b) fun c=>Cq.ret c
def ZbS(a:(List Za))(b:Zb)(c:Zb):Cq (List Za):=
 Cq.bind (ZbB c b) fun d=>Cq.bind (Zbi d.1 (fun _=>0) a) fun e=>Cq.ret e.1
def Zae(a:(List Za))(b:Zb)(d:Zb):Cq (List Za):=
 Cq.at' a 0 fun g=>Cq.bind (Zw g.c) fun e=>if e<0 then (Cq.bind (Zdg d) fun f=>ZbS a b f) else (ZbS a b d)
def Zdo(b:(List Za)):(Int×Zb×Zb)->Cq (Zb×Zb):=
 Cq.loop fun k=>match k with|(a,e,d)=>if a<(b.length:Int) then (Cq.at' b a fun f=>Cq.bind (Z8 e f.c.num) fun h=>Cq.bind (Z8 d f.c.den) fun i=>Cq.bind (Zad f.c.den i) fun j=>Cq.bind (Zb1 d j.1) fun g=>Cq.ret (.inl (i64.wrap (a+1),h,g))) else (Cq.ret (.inr (e,d)))
def Za5(a:(List Za)):Cq (List Za):=
 if (a.length:Int)=0 then Cq.fail else (Cq.bind (ZaU 0) fun b=>Cq.bind (ZaU 1) fun c=>Cq.next (Zdo a (0,b,c)) fun f=>match f with|(d,e)=>Zae a d e)
def _eliminant_claim_rules_sorted_k1:Cq Bool:=
 Cq.ret true
def _eliminant_claim_rules_sorted_L2(e:Zau)(d:(List (List Za)))(b:Int):Int->Cq (Bool⊕Unit):=
 Cq.loop fun k=>match k with|a=>if a<(d.length:Int) then (Cq.at' d a fun c=>Cq.bind (_eliminant_claim_rules_bounded e c 12) fun f=>match f with|false=>(Cq.ret (.inr (.inl false)))|true=>(Cq.bind (ZL c) fun g=>if g<b then (Cq.ret (.inr (.inl false))) else (Cq.bind (Za5 c) fun h=>Cq.bind (Zby h c) fun i=>if (!i)=true then (Cq.ret (.inr (.inl false))) else (if 0<a then (Cq.at' d (i64.wrap (a-1)) fun l=>Cq.bind (ZbV l c) fun j=>if 0<=j then (Cq.ret (.inr (.inl false))) else (Cq.ret (.inl (i64.wrap (a+1))))) else (Cq.ret (.inl (i64.wrap (a+1)))))))) else (Cq.ret (.inr (.inr ())))
def _eliminant_claim_rules_sorted(b:Zau)(c:(List (List Za)))(a:Int):Cq Bool:=
 if 12<(c.length:Int) then (Cq.ret false) else (Cq.next (_eliminant_claim_rules_sorted_L2 b c a 0) fun e=>match e with | .inl d=>Cq.ret d | .inr ()=>_eliminant_claim_rules_sorted_k1)
def _eliminant_claim_rules_valid(a:Zau):Cq Bool:=
 if 1<=a.k.n then (if a.k.n<=4 then (Cq.bind (_eliminant_claim_rules_sorted a a.k.eqs 0) fun b=>match b with|false=>(Cq.ret false)|true=>(Cq.bind (_eliminant_claim_rules_sorted a a.k.neqs 1) fun c=>Cq.ret c)) else (Cq.ret false)) else (Cq.ret false)
def Zdf(b:Ze):Cq Bool:=
 Cq.bind (_eliminant_claim_rules_valid (Zau.mk b)) fun a=>Cq.ret a
def Zeh(k:Ze):Cq ByteArray:=Cq.bind (Zdf k) fun v=>match v with|true=>Cq.chk (0<=k.n/\(coreW k).length<=1000000) (Cq.ret (bytesOf (coreW k)))|false=>Cq.ret ByteArray.empty
def Zt(a:(List Za)):Cq (List Za):=
 Cq.bind (ZN (u64.wrap (a.length:Int))) fun b=>Cq.bind (Zz a 0 (a.length:Int) b) fun c=>Cq.ret c
def Zao(a:(List Za)):Cq (List Za):=
 Cq.bind (Zt a) fun b=>Cq.ret b
def ZdS:((List Za)×List ((Fin 8->Int)×Zf))->Cq (List Za):=
 Cq.loop fun d=>match d with|(a,R1)=>Cq.pick R1 (Cq.ret (.inr a)) fun b R2=>Cq.bind (Zw b.2) fun c=>if ¬ c=0 then (Cq.chk ((a++[(Za.mk b.2 b.1)]).length<=small) (Cq.ret (.inl ((a++[(Za.mk b.2 b.1)]),R2)))) else (Cq.ret (.inl (a,R2)))
def Za1(a:(List ((Fin 8->Int)×Zf))):Cq (List Za):=
 Cq.chk (0<=(a.length:Int)/\(a.length:Int)<=1000000) (Cq.next (ZdS (([]:List Za),a)) fun c=>match c with|b=>Zao b)
def Zag(a:(List ((Fin 8->Int)×Zf))):Cq ((List Za)×Int):=
 Cq.bind (Za1 a) fun b=>Cq.ret (b,0)
def Zah(b:Int)(d:(List ((Fin 8->Int)×Zf)))(e:Za)(a:(Fin 8->Int)):Cq ((Int×(List ((Fin 8->Int)×Zf)))⊕(((List ((Fin 8->Int)×Zf))))):=
 Cq.chk ((∀ i,(Lit.int i64 (a i)).wf=true)/\(mput d a e.c).length<=small) (Cq.ret (.inl (i64.wrap (b+1),(mput d a e.c))))
def Zbo(b:(Fin 8->Int))(d:Za):(Int×(Fin 8->Int))->Cq (Fin 8->Int):=
 Cq.loop fun e=>match e with|(a,c)=>if a<8 then (Cq.chk (0<=a/\a<8) (Cq.chk (0<=a/\a<8) (Cq.chk (0<=getF b a/\(getF b a)<8) (Cq.ret (.inl (i64.wrap (a+1),setF c ((getF b a).toNat) (getF d.m a))))))) else (Cq.ret (.inr c))
def Zdq(d:(List Za))(b:(Fin 8->Int)):(Int×(List ((Fin 8->Int)×Zf)))->Cq (((List ((Fin 8->Int)×Zf)))):=
 Cq.loop fun g=>match g with|(a,c)=>if a<(d.length:Int) then (Cq.at' d a fun e=>Cq.next (Zbo b e (0,(fun _=>0))) fun h=>match h with|f=>Zah a c e f) else (Cq.ret (.inr c))
def ZQ(c:(List Za))(a:(Fin 8->Int)):Cq ((List Za)×Int):=
 Cq.next (Zdq c a (0,[])) fun d=>match d with|b=>Zag b
def Zdr(b:(Fin 8->Int)):(Int×(Fin 8->Bool))->Cq (((List Za)×Int)⊕Unit):=
 Cq.loop fun d=>match d with|(a,c)=>if a<8 then (Cq.chk (0<=a/\a<8) (if (getF b a)<0 then (Cq.ret (.inr (.inl ([],1)))) else (if 8<=(getF b a) then (Cq.ret (.inr (.inl ([],1)))) else (Cq.chk (0<=getF b a/\(getF b a)<8) (if (getF c (getF b a))=true then Cq.fail else (Cq.chk (0<=getF b a/\(getF b a)<8) (Cq.ret (.inl (i64.wrap (a+1),setF c ((getF b a).toNat) true))))))))) else (Cq.ret (.inr (.inr ())))
def ZaN(c:(List Za))(a:(Fin 8->Int)):Cq ((List Za)×Int):=
 Cq.next (Zdr a (0,(fun _=>false))) fun d=>match d with | .inl b=>Cq.ret b | .inr ()=>ZQ c a
def ZaQ(a:(List (List Za))):Cq ((List (List Za))):=
 Cq.ret a
def ZeB(d:(List (List Za)))(c:(Fin 8->Int)):((List (List Za))×Int)->Cq (((List (List Za)))):=
 Cq.loop fun f=>match f with|(b,a)=>if a<(d.length:Int) then (Cq.at' d a fun g=>Cq.bind (ZaN g c) fun e=>Cq.at' b a fun h=>Cq.ret (.inl ((b.set a.toNat e.1),i64.wrap (a+1)))) else (Cq.ret (.inr b))
def ZaH(a:(List (List Za)))(b:(Fin 8->Int)):Cq ((List (List Za))):=
 Cq.chk (0<=(a.length:Int)/\(a.length:Int)<=1000000) (Cq.next (ZeB a b ((List.replicate (a.length:Int).toNat []),0)) fun d=>match d with|c=>ZaQ c)
def ZE(a:(List (List Za))):Cq ((List (List Za))):=
 Cq.ret a
def Za2(b:(List (List (List Za)))):((List (List Za))×Int)->Cq (((List (List Za)))):=
 Cq.loop fun e=>match e with|(a,c)=>if c<(b.length:Int) then (Cq.at' b c fun d=>Cq.chk ((a++d).length<=small) (Cq.ret (.inl ((a++d),i64.wrap (c+1))))) else (Cq.ret (.inr a))
def ZF(b:(List (List (List Za))))(c:Int):Cq ((List (List Za))):=
 Cq.bind (ZV c) fun d=>Cq.next (Za2 b (d,0)) fun e=>match e with|a=>ZE a
def Za3(a:(List (List (List Za)))):(Int×Int)->Cq Int:=
 Cq.loop fun e=>match e with|(b,c)=>if c<(a.length:Int) then (Cq.at' a c fun d=>if (i64.wrap (b+(d.length:Int)))<0 then Cq.fail else (Cq.ret (.inl (i64.wrap (b+(d.length:Int)),i64.wrap (c+1))))) else (Cq.ret (.inr b))
def ZK(a:(List (List (List Za)))):Cq ((List (List Za))):=
 Cq.next (Za3 a (0,0)) fun c=>match c with|b=>ZF a b
def Zds(b:Zb):Cq Zf:=
 Cq.bind (ZaU 1) fun a=>Cq.ret (Zf.mk b a)
def ZbX(c:Int):Cq Zf:=
 Cq.bind (ZaU c) fun a=>Cq.bind (Zds a) fun b=>Cq.ret b
def Zaw(a:Zf):Cq (List Za):=
 Cq.bind (Zw a) fun b=>if b=0 then Cq.fail else (Cq.ret [(Za.mk a (fun _=>0))])
def Za7(a:(List Za))(b:Int):Cq Bool:=
 Cq.bind (ZX a) fun c=>match c with|false=>(Cq.ret false)|true=>(Cq.bind (ZaB a) fun d=>Cq.chk (0<=b) (if (Int.fdiv (i64.wrap d) (2 ^ (min (b).toNat i64.bits)))=0 then (Cq.bind (ZL a) fun e=>Cq.ret (decide (e<=12))) else (Cq.ret false)))
def Zar(e:Int)(a:(List (List Za)))(b:(List (List Za))):Cq (Ze×Int):=
 Cq.bind (Zbc a) fun c=>Cq.bind (Zbc b) fun d=>if 12<(c.length:Int) then (Cq.ret ((Ze.mk 0 [] []),2)) else (if 12<(d.length:Int) then (Cq.ret ((Ze.mk 0 [] []),2)) else (Cq.ret ((Ze.mk e c d),0)))
def Zff(d:(List (List Za))):((List (List Za))×(List (List Za))×Int)->Cq (((List (List Za))×(List (List Za)))):=
 Cq.loop fun j=>match j with|(a,b,c)=>if c<(d.length:Int) then (Cq.at' d c fun g=>if (g.length:Int)=0 then (Cq.bind (ZbX 1) fun h=>Cq.bind (Zaw h) fun e=>Cq.chk ((a++[e]).length<=small) (Cq.ret (.inl ((a++[e]),b,i64.wrap (c+1))))) else (Cq.bind (ZL g) fun i=>if 0<i then (Cq.bind (Za5 g) fun f=>Cq.chk ((b++[f]).length<=small) (Cq.ret (.inl (a,(b++[f]),i64.wrap (c+1))))) else (Cq.ret (.inl (a,b,i64.wrap (c+1)))))) else (Cq.ret (.inr (a,b)))
def Zas(d:Int)(e:(List (List Za)))(a:(List (List Za))):Cq (Ze×Int):=
 Cq.next (Zff e (a,[],0)) fun f=>match f with|(b,c)=>Zar d b c
def Zfg(c:(List (List Za))):((List (List Za))×Int)->Cq (((List (List Za)))):=
 Cq.loop fun f=>match f with|(a,b)=>if b<(c.length:Int) then (Cq.at' c b fun e=>if 0<(e.length:Int) then (Cq.bind (Za5 e) fun d=>Cq.chk ((a++[d]).length<=small) (Cq.ret (.inl ((a++[d]),i64.wrap (b+1))))) else (Cq.ret (.inl (a,i64.wrap (b+1))))) else (Cq.ret (.inr a))
def Zat(b:Int)(c:(List (List Za)))(d:(List (List Za))):Cq (Ze×Int):=
 Cq.next (Zfg c ([],0)) fun e=>match e with|a=>Zas b d a
def ZcN(d:Int)(b:(List (List Za))):(Int×Ze)->Cq ((Ze×Int)⊕Ze):=
 Cq.loop fun f=>match f with|(a,c)=>if a<(b.length:Int) then (Cq.at' b a fun g=>Cq.bind (Za7 g d) fun e=>if (!e)=true then (Cq.ret (.inr (.inl ((Ze.mk 0 [] []),1)))) else (Cq.ret (.inl (i64.wrap (a+1),c)))) else (Cq.ret (.inr (.inr c)))
def ZcO(a:Int)(b:(List (List Za)))(c:(List (List Za)))(d:Ze):Cq (Ze×Int):=
 Cq.bind (ZK [b,c]) fun e=>Cq.next (ZcN a e (0,d)) fun g=>match g with | .inl f=>Cq.ret f | .inr h=>Zat a b c
def ZS(a:Int)(b:(List (List Za)))(c:(List (List Za))):Cq (Ze×Int):=
 if a<1 then (Cq.ret ((Ze.mk 0 [] []),1)) else (if 4<a then (Cq.ret ((Ze.mk 0 [] []),1)) else (ZcO a b c (Ze.mk 0 [] [])))
def canonS(k:Ze)(p:(Fin 8->Int))(s:Ze×(Fin 8->Int)×ByteArray):Cq (Ze×(Fin 8->Int)×ByteArray):=Cq.bind (ZaH k.eqs p) fun a=>Cq.bind (ZaH k.neqs p) fun b=>Cq.bind (ZS k.n a b) fun r=>if ¬ r.2=0 then Cq.ret s else Cq.bind (Zeh r.1) fun t=>if s.2.2=ByteArray.empty then Cq.ret (r.1,p,t) else if Op.bytesLess t.toList s.2.2.toList=true then Cq.ret (r.1,p,t) else Cq.ret s
def canonL(k:Ze):List (Fin 8->Int)->(Ze×(Fin 8->Int)×ByteArray)->Cq (Ze×(Fin 8->Int)×ByteArray)
 | [],s=>Cq.ret s
 | p::l,s=>Cq.bind (canonS k p s) fun s'=>canonL k l s'
def ZcM(k:Ze):Cq (Ze×(Fin 8->Int)):=Cq.chk (1<=k.n/\k.n<=4) (Cq.bind (canonL k (permsL k.n.toNat) (⟨0,[],[]⟩,(fun _=>0),ByteArray.empty)) fun s=>Cq.ret (s.1,s.2.1))
def ZdF(a:(List Int))(b:Int):Cq (List Int):=
 Cq.chk ((a++[u8.wrap b]).length<=small) (Cq.ret (a++[u8.wrap b]))
def ZhY:((List Int)×Int)->Cq (((List Int)×Int)):=
 Cq.loop fun c=>match c with|(b,a)=>if 127<a then (Cq.chk ((b++[u8.wrap ((u8.wrap (Int.tmod a 128))+128)]).length<=small) (Cq.ret (.inl ((b++[u8.wrap ((u8.wrap (Int.tmod a 128))+128)]),u64.wrap (Int.tdiv a 128))))) else (Cq.ret (.inr (b,a)))
def Zcr(a:(List Int))(b:Int):Cq (List Int):=
 Cq.next (ZhY (a,b)) fun c=>match c with|(d,e)=>ZdF d e
def Zfr(c:(List Int))(a:Int):Cq (List Int):=
 if a<0 then Cq.fail else (Cq.bind (Zcr c (u64.wrap ((u64.wrap a)*2))) fun b=>Cq.ret b)
def ZcD(a:(List Int)):Cq (List Int):=
 Cq.ret a
def ZgL(d:Zb):((List Int)×Int)->Cq (List Int):=
 Cq.loop fun e=>match e with|(b,c)=>if c<(d.mag.length:Int) then (Cq.at' d.mag c fun a=>Cq.chk ((b++[u8.wrap (Int.fdiv a (2 ^ (min (24:Int).toNat u32.bits))),u8.wrap (Int.fdiv a (2 ^ (min (16:Int).toNat u32.bits))),u8.wrap (Int.fdiv a (2 ^ (min (8:Int).toNat u32.bits))),u8.wrap a]).length<=small) (Cq.ret (.inl ((b++[u8.wrap (Int.fdiv a (2 ^ (min (24:Int).toNat u32.bits))),u8.wrap (Int.fdiv a (2 ^ (min (16:Int).toNat u32.bits))),u8.wrap (Int.fdiv a (2 ^ (min (8:Int).toNat u32.bits))),u8.wrap a]),i64.wrap (c+1))))) else (Cq.ret (.inr b))
def ZcE(c:(List Int))(a:Zb)(d:Int):Cq (List Int):=
 Cq.bind (Zcr c (u64.wrap ((u64.wrap ((u64.wrap (a.mag.length:Int))*2))+d))) fun b=>Cq.next (ZgL a (b,0)) fun e=>match e with|f=>ZcD f
def Zee(b:(List Int))(a:Zb):Cq (List Int):=
 if a.neg=true then (ZcE b a 1) else (ZcE b a 0)
def Zed(d:(List Int))(a:Zf):Cq (List Int):=
 Cq.bind (Zee d a.num) fun b=>Cq.bind (Zee b a.den) fun c=>Cq.ret c
def Zdc(a:(List Int)):Cq (List Int):=
 Cq.ret a
def Zdd(a:Int)(b:(List Int)):Cq (((List Int)×Int)⊕(List Int)):=
 Cq.ret (.inl (b,i64.wrap (a+1)))
def Zhp(d:(List Za))(e:Int):((List Int)×Int)->Cq (List Int):=
 Cq.loop fun f=>match f with|(b,a)=>if a<8 then (Cq.at' d e fun g=>Cq.chk (0<=a/\a<8) (Cq.bind (Zcr b (u64.wrap (getF g.m a))) fun c=>Cq.ret (.inl (c,i64.wrap (a+1))))) else (Cq.ret (.inr b))
def Zho(b:(List Za)):((List Int)×Int)->Cq (List Int):=
 Cq.loop fun f=>match f with|(d,a)=>if a<(b.length:Int) then (Cq.at' b a fun g=>Cq.bind (Zed d g.c) fun e=>Cq.next (Zhp b a (e,0)) fun h=>match h with|i=>Zdd a i) else (Cq.ret (.inr d))
def ZgJ(c:(List Int))(a:(List Za)):Cq (List Int):=
 Cq.bind (Zcr c (u64.wrap (a.length:Int))) fun b=>Cq.next (Zho a (b,0)) fun d=>match d with|e=>Zdc e
def ZcC(a:(List Int)):Cq (List Int):=
 Cq.ret a
def ZgK(b:(List (List Za))):((List Int)×Int)->Cq (List Int):=
 Cq.loop fun e=>match e with|(c,a)=>if a<(b.length:Int) then (Cq.at' b a fun f=>Cq.bind (ZgJ c f) fun d=>Cq.ret (.inl (d,i64.wrap (a+1)))) else (Cq.ret (.inr c))
def Zec(c:(List Int))(a:(List (List Za))):Cq (List Int):=
 Cq.bind (Zcr c (u64.wrap (a.length:Int))) fun b=>Cq.next (ZgK a (b,0)) fun d=>match d with|e=>ZcC e
def Ze6(e:(List Int))(a:Ze):Cq (List Int):=
 Cq.bind (Zfr e a.n) fun b=>Cq.bind (Zec b a.eqs) fun c=>Cq.bind (Zec c a.neqs) fun d=>Cq.ret d
def Zbq(c d:Ze):Cq Bool:=Cq.bind (Ze6 [] c) fun a=>Cq.bind (Ze6 [] d) fun b=>Cq.ret (decide (bytesOf a=bytesOf b))
def Zdb(b:(List Int))(a:Int):Cq (List Int):=
 Cq.chk (0<=(0:Int)/\(0:Int)<=a/\a<=(b.length:Int)) (Cq.ret ((b.take a.toNat).drop (0:Int).toNat))
def Zhn(b:(List Int)):Int->Cq Int:=
 Cq.loop fun c=>match c with|a=>if 0<a then (Cq.at' b (i64.wrap (a-1)) fun d=>if d=0 then (Cq.ret (.inl (i64.wrap (a-1)))) else (Cq.ret (.inr a))) else (Cq.ret (.inr a))
def Zbd(a:(List Int)):Cq (List Int):=
 Cq.next (Zhn a (a.length:Int)) fun b=>match b with|c=>Zdb a c
def Zb2(a:Int):Cq (List Int):=
 Cq.bind (Zbd [u32.wrap (Int.tmod a 4294967296),u32.wrap (u64.wrap (Int.tdiv a 4294967296))]) fun b=>Cq.ret b
def Z6(b:Bool)(c:(List Int)):Cq Zb:=
 Cq.bind (Zbd c) fun a=>if b=true then (Cq.ret (Zb.mk (decide (0<(a.length:Int))) a)) else (Cq.ret (Zb.mk false a))
def ZgC(a:Int):Cq Zb:=
 if a<0 then (Cq.bind (Zb2 (u64.wrap ((u64.wrap (i64.wrap (0-(i64.wrap (a+1)))))+1))) fun b=>Cq.bind (Z6 true b) fun c=>Cq.ret c) else (Cq.bind (Zb2 (u64.wrap a)) fun d=>Cq.bind (Z6 false d) fun e=>Cq.ret e)
def ZcT(c:Int):Cq Zf:=
 Cq.bind (ZgC c) fun a=>Cq.bind (ZgC 1) fun b=>Cq.ret (Zf.mk a b)
def Ze5(a:Zb):Cq Int:=
 if a.neg=true then (Cq.ret (-1)) else (Cq.ret (if 1<(a.mag.length:Int) then 1 else (a.mag.length:Int)))
def ZbJ(b:Zf):Cq Int:=
 Cq.bind (Ze5 b.num) fun a=>Cq.ret a
def Zea(a:Zf):Cq (List Za):=
 Cq.bind (ZbJ a) fun b=>if b=0 then (Cq.ret []) else (Cq.ret [(Za.mk a (fun _=>0))])
def ZcA:Cq Bool:=
 Cq.ret true
def ZgH(b:(Fin 8->Int)):Int->Cq (Bool⊕Unit):=
 Cq.loop fun c=>match c with|a=>if a<8 then (Cq.chk (0<=a/\a<8) (if (getF b a)<0 then (Cq.ret (.inr (.inl false))) else (Cq.chk (0<=a/\a<8) (if 65535<(getF b a) then Cq.fail else (Cq.ret (.inl (i64.wrap (a+1)))))))) else (Cq.ret (.inr (.inr ())))
def Zf2(b:(Fin 8->Int)):Cq Bool:=
 Cq.next (ZgH b 0) fun c=>match c with | .inl a=>Cq.ret a | .inr ()=>ZcA
def ZdB(a:(Fin 8->Int)):Cq ((Fin 8->Int)×Int):=
 Cq.bind (Zf2 a) fun b=>if (!b)=true then Cq.fail else (Cq.ret (a,0))
def ZhW(c:(Fin 8->Int)):(Int×(Fin 8->Int))->Cq (Fin 8->Int):=
 Cq.loop fun d=>match d with|(a,b)=>if a<8 then (Cq.chk (0<=a/\a<8) (Cq.chk (0<=a/\a<8) (Cq.chk (0<=a/\a<8) (Cq.ret (.inl (i64.wrap (a+1),setF b a.toNat (i64.wrap ((getF b a)+(getF c a))))))))) else (Cq.ret (.inr b))
def ZhD(b:(Fin 8->Int))(c:(Fin 8->Int)):Cq ((Fin 8->Int)×Int):=
 Cq.next (ZhW c (0,b)) fun d=>match d with|a=>ZdB a
def Zcy(a:(List Int)):Cq (List Int):=
 Cq.bind (Zbd a) fun b=>Cq.ret b
def Zcz(b:(List Int))(a:Int)(c:(List Int))(d:Int):Cq (((List Int)×Int)⊕(List Int)):=
 Cq.at' c (i64.wrap (a+(b.length:Int))) fun e=>Cq.ret (.inl ((c.set (i64.wrap (a+(b.length:Int))).toNat (u32.wrap d)),i64.wrap (a+1)))
def ZgG(f:(List Int))(e:(List Int))(b:Int):((List Int)×Int×Int)->Cq (((List Int)×Int)):=
 Cq.loop fun j=>match j with|(c,d,a)=>if a<(e.length:Int) then (Cq.at' f b fun g=>Cq.at' e a fun h=>Cq.at' c (i64.wrap (b+a)) fun i=>Cq.at' c (i64.wrap (b+a)) fun k=>Cq.ret (.inl ((c.set (i64.wrap (b+a)).toNat (u32.wrap (Int.tmod (u64.wrap ((u64.wrap ((u64.wrap ((u64.wrap g)*(u64.wrap h)))+(u64.wrap i)))+d)) 4294967296))),u64.wrap (Int.tdiv (u64.wrap ((u64.wrap ((u64.wrap ((u64.wrap g)*(u64.wrap h)))+(u64.wrap i)))+d)) 4294967296),i64.wrap (a+1)))) else (Cq.ret (.inr (c,d)))
def ZgF(b:(List Int))(c:(List Int)):((List Int)×Int)->Cq (List Int):=
 Cq.loop fun g=>match g with|(d,a)=>if a<(b.length:Int) then (Cq.next (ZgG b c a (d,0,0)) fun h=>match h with|(e,f)=>Zcz c a e f) else (Cq.ret (.inr d))
def Zf1(a:(List Int))(b:(List Int)):Cq (List Int):=
 Cq.chk (0<=i64.wrap ((a.length:Int)+(b.length:Int))/\(i64.wrap ((a.length:Int)+(b.length:Int)))<=1000000) (Cq.next (ZgF a b ((List.replicate (i64.wrap ((a.length:Int)+(b.length:Int))).toNat 0),0)) fun d=>match d with|c=>Zcy c)
def Zcp(a:Zb)(b:Zb):Cq Zb:=
 Cq.bind (Zf1 a.mag b.mag) fun c=>Cq.bind (Z6 (decide (¬ a.neg=b.neg)) c) fun d=>Cq.ret d
def ZbI(a:(List Int))(b:Int):Cq Int:=
 if b<(a.length:Int) then (Cq.at' a b fun c=>Cq.ret (u64.wrap c)) else (Cq.ret 0)
def Zdy(a:(List Int)):Cq Int:=
 Cq.bind (ZbI a 1) fun b=>Cq.bind (ZbI a 0) fun c=>Cq.ret (u64.wrap ((u64.wrap (b*4294967296))+c))
def Zca(a:Int):Cq Int:=
 Cq.ret a
def Zgx:(Int×Int)->Cq Int:=
 Cq.loop fun c=>match c with|(b,a)=>if 0<a then (Cq.chk (a≠0) (Cq.ret (.inl (a,Int.tmod b a)))) else (Cq.ret (.inr b))
def Zfo(a:Int)(b:Int):Cq Int:=
 Cq.next (Zgx (a,b)) fun c=>match c with|d=>Zca d
def Zbp:Cq Int:=
 Cq.ret 0
def Zfn(b:(List Int))(c:(List Int)):Int->Cq (Int⊕Unit):=
 Cq.loop fun d=>match d with|a=>if 0<=a then (Cq.at' b a fun e=>Cq.at' c a fun f=>if e<f then (Cq.ret (.inr (.inl (-1)))) else (Cq.at' b a fun g=>Cq.at' c a fun h=>if h<g then (Cq.ret (.inr (.inl 1))) else (Cq.ret (.inl (i64.wrap (a-1)))))) else (Cq.ret (.inr (.inr ())))
def Zcw(a:(List Int))(b:(List Int)):Cq Int:=
 if (a.length:Int)<(b.length:Int) then (Cq.ret (-1)) else (if (b.length:Int)<(a.length:Int) then (Cq.ret 1) else (Cq.next (Zfn a b (i64.wrap ((a.length:Int)-1))) fun d=>match d with | .inl c=>Cq.ret c | .inr ()=>Zbp))
def ZbH(a:(List Int))(b:Int):Cq ((List Int)×Int):=
 Cq.bind (Zbd a) fun c=>Cq.ret (c,b)
def ZfQ(f:(List Int))(d:Int):((List Int)×Int×Int)->Cq (((List Int)×Int)):=
 Cq.loop fun g=>match g with|(a,b,c)=>if 0<=c then (Cq.at' f c fun e=>Cq.chk (d≠0) (Cq.at' a c fun h=>Cq.chk (d≠0) (Cq.ret (.inl ((a.set c.toNat (u32.wrap (u64.wrap (Int.tdiv (u64.wrap ((u64.wrap (b*4294967296))+(u64.wrap e))) d)))),Int.tmod (u64.wrap ((u64.wrap (b*4294967296))+(u64.wrap e))) d,i64.wrap (c-1)))))) else (Cq.ret (.inr (a,b)))
def ZeL(a:(List Int))(d:Int):Cq ((List Int)×Int):=
 Cq.chk (0<=(a.length:Int)/\(a.length:Int)<=1000000) (Cq.next (ZfQ a d ((List.replicate (a.length:Int).toNat 0),0,i64.wrap ((a.length:Int)-1))) fun e=>match e with|(b,c)=>ZbH b c)
def Zda(a:(List Int))(b:(List Int)):Cq ((List Int)×(List Int)):=
 Cq.bind (Zcw a b) fun d=>if d<0 then (Cq.ret ([],a)) else (if (b.length:Int)=1 then (Cq.at' b 0 fun f=>Cq.bind (ZeL a (u64.wrap f)) fun c=>Cq.bind (Zb2 c.2) fun e=>Cq.ret (c.1,e)) else Cq.fail)
def Zb8(a:(List Int)):Cq (List Int):=
 Cq.ret a
def Zb9(c:(List Int))(b:(List Int))(a:Bool):Cq (((List Int)×(List Int))⊕((List Int)⊕(List Int))):=
 if a=true then (Cq.bind (Zdy c) fun d=>Cq.bind (Zdy b) fun e=>Cq.bind (Zfo d e) fun f=>Cq.bind (Zb2 f) fun g=>Cq.ret (.inr (.inl g))) else (Cq.bind (Zda c b) fun h=>Cq.ret (.inl (b,h.2)))
def Zgw:((List Int)×(List Int))->Cq ((List Int)⊕(List Int)):=
 Cq.loop fun c=>match c with|(a,b)=>if 0<(b.length:Int) then (if (a.length:Int)<=2 then (Zb9 a b (decide ((b.length:Int)<=2))) else (Zb9 a b false)) else (Cq.ret (.inr (.inr a)))
def Zfm(b:(List Int))(c:(List Int)):Cq (List Int):=
 Cq.next (Zgw (b,c)) fun d=>match d with | .inl a=>Cq.ret a | .inr e=>Zb8 e
def ZhA(c:Zb)(d:Zb):Cq Zb:=
 Cq.bind (Zfm c.mag d.mag) fun a=>Cq.bind (Z6 false a) fun b=>Cq.ret b
def Zcv(a:(List Int)):Cq (List Int):=
 Cq.bind (Zbd a) fun b=>Cq.ret b
def ZgD(f:(List Int))(g:(List Int)):((List Int)×Int×Int)->Cq (List Int):=
 Cq.loop fun h=>match h with|(b,a,c)=>if c<(i64.wrap ((if (f.length:Int)<(g.length:Int) then (g.length:Int) else (f.length:Int))+1)) then (Cq.bind (ZbI f c) fun d=>Cq.bind (ZbI g c) fun e=>Cq.at' b c fun i=>Cq.ret (.inl ((b.set c.toNat (u32.wrap (Int.tmod (u64.wrap ((u64.wrap (d+e))+a)) 4294967296))),u64.wrap (Int.tdiv (u64.wrap ((u64.wrap (d+e))+a)) 4294967296),i64.wrap (c+1)))) else (Cq.ret (.inr b))
def Zf0(a:(List Int))(b:(List Int)):Cq (List Int):=
 Cq.chk (0<=i64.wrap ((if (a.length:Int)<(b.length:Int) then (b.length:Int) else (a.length:Int))+1)/\(i64.wrap ((if (a.length:Int)<(b.length:Int) then (b.length:Int) else (a.length:Int))+1))<=1000000) (Cq.next (ZgD a b ((List.replicate (i64.wrap ((if (a.length:Int)<(b.length:Int) then (b.length:Int) else (a.length:Int))+1)).toNat 0),0,0)) fun d=>match d with|c=>Zcv c)
def Zcx(a:(List Int)):Cq (List Int):=
 Cq.bind (Zbd a) fun b=>Cq.ret b
def ZgE(e:(List Int))(g:(List Int)):((List Int)×Int×Int)->Cq (List Int):=
 Cq.loop fun h=>match h with|(b,a,c)=>if c<(e.length:Int) then (Cq.at' e c fun f=>Cq.bind (ZbI g c) fun d=>Cq.at' b c fun i=>Cq.ret (.inl ((b.set c.toNat (u32.wrap (Int.tmod (u64.wrap ((u64.wrap ((u64.wrap (4294967296+(u64.wrap f)))-d))-a)) 4294967296))),u64.wrap (1-(u64.wrap (Int.tdiv (u64.wrap ((u64.wrap ((u64.wrap (4294967296+(u64.wrap f)))-d))-a)) 4294967296))),i64.wrap (c+1)))) else (Cq.ret (.inr b))
def Zd8(a:(List Int))(c:(List Int)):Cq (List Int):=
 Cq.chk (0<=(a.length:Int)/\(a.length:Int)<=1000000) (Cq.next (ZgE a c ((List.replicate (a.length:Int).toNat 0),0,0)) fun d=>match d with|b=>Zcx b)
def ZdX(d:Zb)(e:Zb)(f:(List Int))(a:(List Int)):Cq (Zb×Zb×Int):=
 Cq.bind (Z6 (decide (¬ d.neg=e.neg)) f) fun b=>Cq.bind (Z6 false a) fun c=>Cq.ret (b,c,0)
def Zb7(c:Zb)(d:Zb)(b:(List Int)×(List Int))(a:Bool):Cq (Zb×Zb×Int):=
 if a=true then Cq.fail else (ZdX c d b.1 b.2)
def Zfl(b:Zb)(c:Zb):Cq (Zb×Zb×Int):=
 if (c.mag.length:Int)=0 then Cq.fail else (Cq.bind (Zda b.mag c.mag) fun a=>if b.neg=true then (Zb7 b c a (decide (0<(a.2.length:Int)))) else (Zb7 b c a false))
def Zd9(b:Zb)(c:Zb):Cq Zb:=
 Cq.bind (Zfl b c) fun a=>Cq.ret a.1
def ZdY(d:Zb)(e:Zb)(a:Zb):Cq Zf:=
 Cq.bind (Zd9 d a) fun b=>Cq.bind (Zd9 e a) fun c=>Cq.ret (Zf.mk b c)
def Zdz(b:Zb)(a:Zb):Cq Zf:=
 Cq.bind (ZhA b a) fun c=>Cq.bind (Ze5 a) fun d=>if d<0 then Cq.fail else (ZdY b a c)
def ZhC(a:Zf)(b:Zf):Cq Zf:=
 Cq.bind (Zcp a.num b.num) fun c=>Cq.bind (Zcp a.den b.den) fun d=>Cq.bind (Zdz c d) fun e=>Cq.ret e
def ZcB(a:(List Za)):Cq ((List Za)×Int):=
 Cq.ret (a,0)
def ZgI(g:Zf)(h:(Fin 8->Int))(f:(List Za)):((List Za)×Int)->Cq (((List Za)×Int)⊕(List Za)):=
 Cq.loop fun i=>match i with|(a,d)=>if d<(f.length:Int) then (Cq.at' f d fun j=>Cq.bind (ZhD h j.m) fun b=>if ¬ b.2=0 then Cq.fail else (Cq.at' f d fun k=>Cq.bind (ZhC g k.c) fun e=>Cq.chk ((a++[(Za.mk e b.1)]).length<=small) (Cq.ret (.inl ((a++[(Za.mk e b.1)]),i64.wrap (d+1)))))) else (Cq.ret (.inr (.inr a)))
def Zeb(b:Zf)(e:(Fin 8->Int))(f:(List Za)):Cq ((List Za)×Int):=
 Cq.bind (ZbJ b) fun c=>if c=0 then (Cq.ret ([],0)) else (Cq.next (ZgI b e f ([],0)) fun g=>match g with | .inl d=>Cq.ret d | .inr a=>ZcB a)
def Zx(e:Int)(f:Int)(g:Int):Cq (List Za):=
 Cq.bind (ZcT e) fun a=>Cq.bind (ZcT 1) fun b=>Cq.bind (Zea b) fun c=>Cq.bind (Zeb a (setF (setF (fun _=>0) 0 f) 1 g) c) fun d=>Cq.ret d.1
def Zf3(b:Zf)(c:(List Za)):Cq (List Za):=
 Cq.bind (Zeb b (fun _=>0) c) fun a=>Cq.ret a.1
def ZdA:Cq Int:=
 Cq.ret 0
def ZhV(b:(Fin 8->Int))(c:(Fin 8->Int)):Int->Cq (Int⊕Unit):=
 Cq.loop fun d=>match d with|a=>if a<8 then (Cq.chk (0<=a/\a<8) (Cq.chk (0<=a/\a<8) (if (getF b a)<(getF c a) then (Cq.ret (.inr (.inl (-1)))) else (Cq.chk (0<=a/\a<8) (Cq.chk (0<=a/\a<8) (if (getF c a)<(getF b a) then (Cq.ret (.inr (.inl 1))) else (Cq.ret (.inl (i64.wrap (a+1)))))))))) else (Cq.ret (.inr (.inr ())))
def ZfR(b:(Fin 8->Int))(c:(Fin 8->Int)):Cq Int:=
 Cq.next (ZhV b c 0) fun d=>match d with | .inl a=>Cq.ret a | .inr ()=>ZdA
def Zhz(a:Zb)(b:Zb):Cq Zb:=
 if a.neg=b.neg then (Cq.bind (Zf0 a.mag b.mag) fun c=>Cq.bind (Z6 a.neg c) fun d=>Cq.ret d) else (Cq.bind (Zcw a.mag b.mag) fun e=>if e<0 then (Cq.bind (Zd8 b.mag a.mag) fun f=>Cq.bind (Z6 b.neg f) fun g=>Cq.ret g) else (Cq.bind (Zd8 a.mag b.mag) fun h=>Cq.bind (Z6 a.neg h) fun i=>Cq.ret i))
def ZhB(a:Zf)(b:Zf):Cq Zf:=
 Cq.bind (Zcp a.num b.den) fun c=>Cq.bind (Zcp b.num a.den) fun d=>Cq.bind (Zhz c d) fun e=>Cq.bind (Zcp a.den b.den) fun f=>Cq.bind (Zdz e f) fun g=>Cq.ret g
def ZdC(a:(List Za)):Cq (List Za):=
 Cq.ret a
def Zfp(e:(List Za))(g:(List Za))(a:Int)(b:(List Za))(d:Int):Cq (((List Za)×Int×Int)⊕(List Za)):=
 Cq.at' e a fun j=>Cq.at' g d fun k=>Cq.bind (ZhB j.c k.c) fun f=>Cq.bind (ZbJ f) fun h=>if ¬ h=0 then (Cq.at' e a fun i=>Cq.chk ((b++[(Za.mk f i.m)]).length<=small) (Cq.ret (.inl ((b++[(Za.mk f i.m)]),i64.wrap (a+1),i64.wrap (d+1))))) else (Cq.ret (.inl (b,i64.wrap (a+1),i64.wrap (d+1))))
def ZdD(f:(List Za))(c:(List Za))(a:Int)(b:(List Za))(d:Int)(e:Bool):Cq (((List Za)×Int×Int)⊕(List Za)):=
 if e=true then (Cq.at' c a fun g=>Cq.chk ((b++[g]).length<=small) (Cq.ret (.inl ((b++[g]),d,i64.wrap (a+1))))) else (Zfp f c d b a)
def Zfq(a:(List Za))(c:(List Za))(d:Int)(e:(List Za))(b:Int):Cq (((List Za)×Int×Int)⊕(List Za)):=
 if b=(a.length:Int) then (ZdD a c d e b true) else (Cq.at' a b fun g=>Cq.at' c d fun h=>Cq.bind (ZfR g.m h.m) fun f=>ZdD a c d e b (decide (f<0)))
def Zcl(c:(List Za))(f:(List Za))(a:(List Za))(b:Int)(d:Int)(e:Bool):Cq (((List Za)×Int×Int)⊕(List Za)):=
 if e=true then (Cq.at' c b fun g=>Cq.chk ((a++[g]).length<=small) (Cq.ret (.inl ((a++[g]),i64.wrap (b+1),d)))) else (Zfq c f d a b)
def ZdE(a:(List Za))(b:(List Za))(e:(List Za))(c:Int)(d:Int):Cq (((List Za)×Int×Int)⊕(List Za)):=
 if d=(b.length:Int) then (Zcl a b e c d true) else (if c<(a.length:Int) then (Cq.at' a c fun g=>Cq.at' b d fun h=>Cq.bind (ZfR g.m h.m) fun f=>Zcl a b e c d (decide (0<f))) else (Zcl a b e c d false))
def ZhX(a:(List Za))(b:(List Za)):((List Za)×Int×Int)->Cq (List Za):=
 Cq.loop fun f=>match f with|(c,d,e)=>if d<(a.length:Int) then (ZdE a b c d e) else (if e<(b.length:Int) then (ZdE a b c d e) else (Cq.ret (.inr c)))
def ZeC(a:(List Za))(b:(List Za)):Cq (List Za):=
 Cq.next (ZhX a b ([],0,0)) fun d=>match d with|c=>ZdC c
def Zcq(d:(List Za))(e:(List Za)):Cq (List Za):=
 Cq.bind (ZcT (-1)) fun a=>Cq.bind (Zf3 a e) fun b=>Cq.bind (ZeC d b) fun c=>Cq.ret c
def Zbb(a:Int):Cq Bool:=
 if 48<=a then (if a<=57 then (Cq.ret true) else (Cq.ret (decide (a=95)))) else (Cq.ret (decide (a=95)))
def Z1:Cq Bool:=
 Cq.ret true
def Zy(c:ByteArray)(a:Nat)(b:Bool):Cq (Nat⊕(Bool⊕Unit)):=
 if b=true then (Cq.ret (.inl (a+(Utf8.decode c a).2))) else (if (a:Int)=0 then (Cq.ret (.inr (.inl false))) else (Cq.bind (Zbb ((Utf8.decode c a).1:Int)) fun d=>if (!d)=true then (Cq.ret (.inr (.inl false))) else (Cq.ret (.inl (a+(Utf8.decode c a).2)))))
def Zfh(b:ByteArray):Nat->Cq (Bool⊕Unit):=
 Cq.loop fun c=>match c with|a=>if a<b.size then (if 65<=((Utf8.decode b a).1:Int) then (if ((Utf8.decode b a).1:Int)<=90 then (Zy b a true) else (if 97<=((Utf8.decode b a).1:Int) then (Zy b a (decide (((Utf8.decode b a).1:Int)<=122))) else (Zy b a false))) else (if 97<=((Utf8.decode b a).1:Int) then (Zy b a (decide (((Utf8.decode b a).1:Int)<=122))) else (Zy b a false))) else (Cq.ret (.inr (.inr ())))
def ZcP(b:ByteArray):Cq Bool:=
 Cq.next (Zfh b 0) fun c=>match c with | .inl a=>Cq.ret a | .inr ()=>Z1
def Zba(a:ByteArray):Cq Bool:=
 if (a.size:Int)<1 then (Cq.ret false) else (if 12<(a.size:Int) then (Cq.ret false) else (ZcP a))
def ZbC:Cq Bool:=
 Cq.ret true
def ZbD(a:Int)(b:(List (Int×Bool))):Cq ((Int×(List (Int×Bool)))⊕(Bool⊕Unit)):=
 Cq.ret (.inl (i64.wrap (a+1),b))
def ZaF(d:Zo)(a:Int)(c:(List (Int×Bool)))(b:Zn):Cq ((Int×(List (Int×Bool)))⊕(Bool⊕((List (Int×Bool))))):=
 Cq.chk (((Lit.int i64 b.id).wf=true)/\(mput c b.id true).length<=small) (Cq.bind (Za7 b.p (d.vars.length:Int)) fun e=>if (!e)=true then (Cq.ret (.inr (.inl false))) else (Cq.ret (.inl (i64.wrap (a+1),(mput c b.id true)))))
def ZaE(b:Zo)(e:(List Zn)):(Int×(List (Int×Bool)))->Cq (Bool⊕((List (Int×Bool)))):=
 Cq.loop fun f=>match f with|(a,d)=>if a<(e.length:Int) then (Cq.at' e a fun c=>if c.id<1 then (Cq.ret (.inr (.inl false))) else (if b.next<=c.id then (Cq.ret (.inr (.inl false))) else (Cq.chk ((Lit.int i64 c.id).wf=true) (if ((mget d c.id).getD false)=true then (Cq.ret (.inr (.inl false))) else (if 0<a then (Cq.at' e (i64.wrap (a-1)) fun g=>if c.id<=g.id then (Cq.ret (.inr (.inl false))) else (ZaF b a d c)) else (ZaF b a d c)))))) else (Cq.ret (.inr (.inr d)))
def Zc6(a:Zo):(Int×(List (Int×Bool)))->Cq (Bool⊕Unit):=
 Cq.loop fun g=>match g with|(b,c)=>if b<([a.eqs,a.neqs].length:Int) then (Cq.at' [a.eqs,a.neqs] b fun d=>if 12<(d.length:Int) then (Cq.ret (.inr (.inl false))) else (Cq.next (ZaE a d (0,c)) fun h=>match h with | .inl e=>Cq.ret (.inr (.inl e)) | .inr f=>ZbD b f)) else (Cq.ret (.inr (.inr ())))
def ZaG(a:Zo):Cq Bool:=
 Cq.next (Zc6 a (0,[])) fun c=>match c with | .inl b=>Cq.ret b | .inr ()=>ZbC
def Zc7(c:Zo):(Int×(List (ByteArray×Bool)))->Cq (Bool⊕Unit):=
 Cq.loop fun f=>match f with|(a,d)=>if a<(c.vars.length:Int) then (Cq.at' c.vars a fun b=>Cq.bind (Zba b) fun e=>match e with|false=>(Cq.ret (.inr (.inl false)))|true=>(Cq.chk (b.size<=1000000) (if ((mget d b).getD false)=true then (Cq.ret (.inr (.inl false))) else (Cq.chk ((b.size<=1000000)/\(mput d b true).length<=small) (Cq.ret (.inl (i64.wrap (a+1),(mput d b true)))))))) else (Cq.ret (.inr (.inr ())))
def Zc8(a:Zo):Cq Bool:=
 Cq.next (Zc7 a (0,[])) fun c=>match c with | .inl b=>Cq.ret b | .inr ()=>ZaG a
def ZB(a:Zo):Cq Bool:=
 if 4<(a.vars.length:Int) then (Cq.ret false) else (if a.next<1 then (Cq.ret false) else (if 1000000<a.next then (Cq.ret false) else (Zc8 a)))
def Zai(a:(List (List Za))):Cq ((List (List Za))):=
 Cq.ret a
def Zdv(c:(List Zn)):((List (List Za))×Int)->Cq (((List (List Za)))):=
 Cq.loop fun d=>match d with|(b,a)=>if a<(c.length:Int) then (Cq.at' c a fun e=>Cq.at' b a fun f=>Cq.ret (.inl ((b.set a.toNat e.p),i64.wrap (a+1)))) else (Cq.ret (.inr b))
def ZaR(a:(List Zn)):Cq ((List (List Za))):=
 Cq.chk (0<=(a.length:Int)/\(a.length:Int)<=1000000) (Cq.next (Zdv a ((List.replicate (a.length:Int).toNat []),0)) fun b=>match b with|c=>Zai c)
def Ze1(a:Zo):Cq (Ze×Int):=
 Cq.bind (ZB a) fun c=>if (!c)=true then (Cq.ret ((Ze.mk 0 [] []),320)) else (Cq.bind (ZaR a.eqs) fun d=>Cq.bind (ZaR a.neqs) fun e=>Cq.bind (ZS (if 1<(a.vars.length:Int) then (a.vars.length:Int) else 1) d e) fun b=>Cq.ret (b.1,b.2))
def Zcj(j:(List Za))(a:Ze×Int)(b:Ze×Int):Cq Bool:=
 Cq.bind (Zx 1 1 0) fun c=>Cq.bind (Zx 2 0 0) fun d=>Cq.bind (Zcq c d) fun e=>Cq.bind (Zbq a.1 (Ze.mk 1 [e] [])) fun f=>match f with|false=>(Cq.ret false)|true=>(Cq.bind (Zbq b.1 (Ze.mk 2 [j] [])) fun g=>match g with|false=>(Cq.ret false)|true=>(Cq.bind (ZB (Zo.mk [] [] [] 1)) fun h=>match h with|false=>(Cq.ret false)|true=>(Cq.bind (ZB (Zo.mk [] [] [] 0)) fun i=>Cq.ret (!i))))
def ZbR:Cq Bool:=
 Cq.bind (Zx 1 1 0) fun s=>Cq.bind (Zx 1 0 0) fun t=>Cq.bind (Zcq s t) fun u=>Cq.bind (Zx 1 0 0) fun d=>Cq.bind (Zx 2 1 0) fun v=>Cq.bind (Zx 4 0 0) fun w=>Cq.bind (Zcq v w) fun x=>Cq.bind (Zx 2 0 0) fun y=>Cq.bind (Zx 1 1 0) fun z=>Cq.bind (Zcq y z) fun e=>Cq.bind (Zx 3 0 0) fun f=>Cq.bind (ZS 1 [x,[],e] [f]) fun a=>Cq.bind (ZS 2 [] [[]]) fun b=>Cq.bind (Zx 1 0 1) fun g=>Cq.bind (ZS 1 [g] []) fun h=>Cq.bind (Ze1 (Zo.mk [] [] [] 0)) fun i=>Cq.bind (Zx 1 1 0) fun j=>Cq.bind (Zx 1 0 2) fun k=>Cq.bind (ZeC j k) fun l=>Cq.bind (ZcM (Ze.mk 2 [u,l] [])) fun c=>Cq.bind (Zx 1 0 1) fun m=>Cq.bind (Zcq m d) fun n=>Cq.bind (Zx 1 2 0) fun o=>Cq.bind (Zx 1 0 1) fun p=>Cq.bind (ZeC o p) fun q=>if ¬ a.2=0 then (Cq.ret false) else (if ¬ b.2=0 then (Cq.ret false) else (if ¬ h.2=1 then (Cq.ret false) else (if ¬ i.2=320 then (Cq.ret false) else (Cq.bind (Zbq c.1 (Ze.mk 2 [n,q] [])) fun r=>match r with|false=>(Cq.ret false)|true=>(if ¬ c.2=(setF (setF (setF (setF (setF (setF (setF (setF (fun _=>0) 0 1) 1 0) 2 2) 3 3) 4 4) 5 5) 6 6) 7 7) then Cq.fail else (Zcj d a b))))))
def Zbr(a:Int):Cq Bool:=
 if 65<=a then (if a<=90 then (Cq.ret true) else (if 97<=a then (Cq.ret (decide (a<=122))) else (Cq.ret false))) else (if 97<=a then (Cq.ret (decide (a<=122))) else (Cq.ret false))
def Zde:Cq Bool:=
 Cq.ret true
def Zhq(b:ByteArray):Int->Cq (Bool⊕Unit):=
 Cq.loop fun d=>match d with|a=>if a<(b.size:Int) then (Cq.chk (0<=(a:Int)/\a<(b.size:Int)) (Cq.bind (Zbr (byteAt b a)) fun c=>match c with|false=>(Cq.chk (0<=(a:Int)/\a<(b.size:Int)) (if 48<=(byteAt b a) then (Cq.chk (0<=(a:Int)/\a<(b.size:Int)) (if (byteAt b a)<=57 then (Cq.ret (.inl (i64.wrap (a+1)))) else (Cq.chk (0<=(a:Int)/\a<(b.size:Int)) (if ¬ (byteAt b a)=95 then (Cq.ret (.inr (.inl false))) else (Cq.ret (.inl (i64.wrap (a+1)))))))) else (Cq.chk (0<=(a:Int)/\a<(b.size:Int)) (if ¬ (byteAt b a)=95 then (Cq.ret (.inr (.inl false))) else (Cq.ret (.inl (i64.wrap (a+1))))))))|true=>(Cq.ret (.inl (i64.wrap (a+1)))))) else (Cq.ret (.inr (.inr ())))
def ZeM(b:ByteArray):Cq Bool:=
 Cq.next (Zhq b 1) fun c=>match c with | .inl a=>Cq.ret a | .inr ()=>Zde
def ZbK(a:ByteArray):Cq Bool:=
 if (a.size:Int)<1 then (Cq.ret false) else (if 12<(a.size:Int) then (Cq.ret false) else (Cq.chk (0<=(0:Int)/\0<(a.size:Int)) (Cq.bind (Zbr (byteAt a 0)) fun b=>if (!b)=true then (Cq.ret false) else (ZeM a))))
def Zbt(a:ByteArray)(e:ByteArray)(b:Bool):Cq Bool:=
 Cq.bind (ZB (Zo.mk [a] [] [] 1)) fun f=>Cq.bind (ZB (Zo.mk [a,e] [] [] 1)) fun c=>Cq.bind (ZB (Zo.mk [a,a] [] [] 1)) fun d=>Cq.bind (ZbK a) fun g=>if f=g then (Cq.bind (ZbK a) fun h=>match h with|false=>(if c=false then (if d=true then (Cq.ret false) else (Cq.ret b)) else (Cq.ret false))|true=>(Cq.bind (ZbK e) fun i=>match i with|false=>(if c=false then (if d=true then (Cq.ret false) else (Cq.ret b)) else (Cq.ret false))|true=>(if c=(decide (¬ a=e)) then (if d=true then (Cq.ret false) else (Cq.ret b)) else (Cq.ret false)))) else (Cq.ret false)
def Zci(b:ByteArray)(c:ByteArray):Cq Bool:=
 Cq.bind (ZbR) fun a=>if (!a)=true then Cq.fail else (if 20<(b.size:Int) then (Cq.ret a) else (if 20<(c.size:Int) then (Cq.ret a) else (Zbt b c a)))
end Go.EL

namespace Go.EL
open Go.IntKind (i8 i16 i32 i64 u8 u16 u32 u64)
open Go
namespace Cq
open Go.IntKind (i8 i16 i32 i64 u8 u16 u32 u64)
variable {α β σ ρ:Type}
theorem wp_ret{a:α}{p:α->Prop}:(Cq.ret a).wp p↔p a:=Iff.rfl
theorem Zj{q:Prop}[Decidable q]{c d:Cq α}{p:α->Prop}:(if q then c else d).wp p↔if q then c.wp p else d.wp p:=by split <;> rfl
theorem ZjY{A:σ->Prop}{Φ:ρ->Prop}{s:σ}:Out A Φ (.inl s)↔A s:=Iff.rfl
theorem Ret.then{c:Cq α}{a:α}(h:c.Ret a){p:α->Prop}(hp:p a):c.wp p:=c.mono (fun b e=>by rw[e]; exact hp) h
end Cq
theorem wrap64{x:Int}(h:-9223372036854775808<=x/\x<=9223372036854775807):i64.wrap x=x:=IntWalk.i64_in _ h
theorem getF8{a:Fin 8->Int}{i:Int}(h:0<=i/\i<8):getF a i=a ⟨i.toNat,by omega⟩:=ZfS a (by omega)
end Go.EL
namespace Go.EL
open Go.IntKind (i8 i16 i32 i64 u8 u16 u32 u64)
open Go
theorem Zbg(a b:M):(Zaf a b).Ret (cmpM a b):=by
 unfold Zaf
 by_cases h:a=b
 .rw[if_pos h]
  subst h
  exact (ZcU a).symm
 rw[if_neg h]
 have hne:∀ k:Nat,k<=8->(∀ j:Fin 8,j.val<k->a j=b j)->k<8:=fun k hk hj=>by
  rcases Nat.lt_or_ge k 8 with h1|h1
  .exact h1
  exact absurd (funext fun j=>hj j (by omega)) h
 refine Cq.Zg1 (I:=fun i:Int=>0<=i/\i<8/\∀ j:Fin 8,(j.val:Int)<i->a j=b j) (m:=fun i=>(8-i).toNat) (fun i hi=>?_) 0 ⟨by omega,by omega,fun j hj=>by omega⟩
 obtain⟨h0,h8,hj⟩:=hi
 refine⟨⟨h0,h8⟩,⟨h0,h8⟩,?_⟩
 rw[Cq.Zj,getF8 ⟨h0,h8⟩,getF8 ⟨h0,h8⟩]
 split
 .rename_i e
  have hj':∀ j:Fin 8,(j.val:Int)<i+1->a j=b j:=fun j hj1=>by
   by_cases h2:(j.val:Int)<i
   .exact hj j h2
   have:j=⟨i.toNat,by omega⟩:=Fin.ext (by simp; omega)
   rw[this]; exact e
  have:=hne (i+1).toNat (by omega) (fun j hj1=>hj' j (by omega))
  rw[Cq.wp_ret,Cq.ZjY,wrap64 (by omega)]
  exact⟨⟨by omega,by omega,hj'⟩,by omega⟩
 rename_i e
 refine⟨⟨h0,h8⟩,⟨h0,h8⟩,?_⟩
 rw[Cq.Zj,getF8 ⟨h0,h8⟩,getF8 ⟨h0,h8⟩]
 have hk:i.toNat<8:=by omega
 split
 .rename_i e2
  exact (Zj4 a b hk (fun j hj1=>hj j (by omega)) e2).symm
 rename_i e2
 exact (Zj3 a b hk (fun j hj1=>hj j (by omega)) (by omega)).symm
end Go.EL

namespace Go.EL
open Go.IntKind (i8 i16 i32 i64 u8 u16 u32 u64)
open Go
instance decInt:DecidableEq Zb:=fun ⟨a1,a2⟩ ⟨b1,b2⟩=>decidable_of_iff (a1=b1/\a2=b2) (by simp)
instance decRat:DecidableEq Zf:=fun ⟨a1,a2⟩ ⟨b1,b2⟩=>decidable_of_iff (a1=b1/\a2=b2) (by simp)
def ratI(n:Int):Zf:=⟨⟨decide (n<0),if n=0 then [] else [(n.natAbs:Int)]⟩,⟨false,[1]⟩⟩
def between(l h:Int)(p:Int->Bool):Bool:=(List.range (h-l+1).toNat).all fun k=>p (l+(k:Int))
theorem ZD{l h:Int}{p:Int->Bool}(hb:between l h p=true){x:Int}(h1:l<=x)(h2:x<=h):p x=true:=by
 have:=List.all_eq_true.1 hb (x-l).toNat (List.mem_range.2 (by omega))
 rwa [show l+((x-l).toNat:Int)=x by omega] at this
def runs{α:Type}[DecidableEq α](n:Nat)(c:Cq α)(a:α):Bool:=decide (c.ev n=some a)
theorem Z0{α:Type}[DecidableEq α]{n:Nat}{c:Cq α}{a:α}(h:runs n c a=true):c.Ret a:=Cq.Ret.Zv n (of_decide_eq_true h)
theorem Zgp:(between (-12) 12 fun a=>a == 0 || runs 30 (Zw (ratI a)) (if a<0 then -1 else if a=0 then 0 else 1))=true:=by decide +kernel
theorem Zii:(between (-12) 12 fun a=>a == 0 || runs 30 (ZaW (ratI a)) true)=true:=by decide +kernel
theorem ZjN:(between (-12) 12 fun a=>a == 0 || between (-12) 12 fun b=>b == 0 || runs 30 (ZaP (ratI a) (ratI b)) (if a<b then -1 else if a=b then 0 else 1))=true:=by decide +kernel
end Go.EL

namespace Go.EL
open Go.IntKind (i8 i16 i32 i64 u8 u16 u32 u64)
open Go Go.RowKit
instance inhM:Inhabited M:=⟨fun _=>0⟩
def mixM(k:Nat)(f a:M):M:=fun i=>if i.val<k then f i else a i
theorem ZjA{k:Nat}(f a:M)(h:k<8):setF (mixM k f a) k (f ⟨k,h⟩)=mixM (k+1) f a:=by
 funext i; unfold setF mixM
 by_cases e:i.val=k
 .have:i=⟨k,h⟩:=Fin.ext e
  subst this; simp
 have e1:(i.val<k+1)=(i.val<k):=by apply propext; omega
 simp[e,e1]
theorem ZkB{k:Nat}(f a:M)(h:k<8):mixM k f a ⟨k,h⟩=a ⟨k,h⟩:=by unfold mixM; simp
theorem ZjB(f a:M):mixM 0 f a=a:=by funext i; simp[mixM]
theorem Zkf{k:Nat}(f a:M)(h:¬ k<8):mixM k f a=f:=by
 funext i
 have:i.val<k:=by omega
 simp[mixM,this]
def Ok(a:M):Prop:=∀ i,0<=a i/\a i<=65535
instance decOk (a:M):Decidable (Ok a):=inferInstanceAs (Decidable (∀ i,0<=a i/\a i<=65535))
def p2:Nat->Int
 | 0=>1
 | k+1=>2*p2 k
theorem ZkH:∀ {k:Nat},k<=8->1<=p2 k/\p2 k<=256
 | 0,_=>by decide
 | 1,_=>by decide
 | 2,_=>by decide
 | 3,_=>by decide
 | 4,_=>by decide
 | 5,_=>by decide
 | 6,_=>by decide
 | 7,_=>by decide
 | 8,_=>by decide
 | k+9,h=>by omega
theorem ZkI{k:Nat}(h:k<8):1<=p2 k/\p2 k<=128:=by
 have:=ZkH (k:=k+1) (by omega)
 simp only[p2] at this
 omega
theorem ZjF{k:Nat}(h:k<8):u8.wrap (1*2 ^ (min (k:Int).toNat u8.bits))=p2 k:=by
 match k,h with
 | 0,_=>decide|1,_=>decide|2,_=>decide|3,_=>decide|4,_=>decide|5,_=>decide|6,_=>decide|7,_=>decide
def suppTo(a:M):Nat->Int
 | 0=>0
 | k+1=>suppTo a k+(if h:k<8 then (if 0<a ⟨k,h⟩ then p2 k else 0) else 0)
def suppM(a:M):Int:=suppTo a 8
theorem Zc5(a:M):∀ k:Nat,0<=suppTo a k/\suppTo a k<p2 k
 | 0=>by simp[suppTo,p2]
 | k+1=>by
  have ih:=Zc5 a k
  simp only[suppTo,p2]
  split
  .split <;> omega
  omega
theorem Zin(a:M){k:Nat}(h:k<8)(ha:0<a ⟨k,h⟩):suppTo a k+p2 k=suppTo a (k+1):=by simp[suppTo,h,ha]
theorem Zi5(a:M){k:Nat}(h:k<8)(ha:¬ 0<a ⟨k,h⟩):suppTo a k=suppTo a (k+1):=by simp[suppTo,h,ha]
theorem ZiP:∀ k:Fin 8,∀ s:Fin 128,s.val<2 ^ k.val->u8.wrap (BitVec.ofInt u8.bits (s.val:Int) ||| BitVec.ofInt u8.bits (p2 k.val)).toNat=s.val+p2 k.val:=by decide +kernel
theorem Zdp:∀ k:Nat,p2 k=((2 ^ k:Nat):Int)
 | 0=>rfl
 | k+1=>by rw[p2,Zdp k,Nat.pow_succ]; omega
theorem ZkG{k:Nat}(h:k<8){s:Int}(h0:0<=s)(h1:s<p2 k):u8.wrap (BitVec.ofInt u8.bits s ||| BitVec.ofInt u8.bits (p2 k)).toNat=s+p2 k:=by
 obtain⟨n,rfl⟩:=Int.eq_ofNat_of_zero_le h0
 have h2:=ZkI h
 rw[Zdp] at h1
 exact ZiP ⟨k,h⟩ ⟨n,by rw[Zdp] at h2; omega⟩ (by simp; omega)
theorem Cq.Zs{σ ρ:Type}{step:σ->Cq (σ⊕ρ)}{Φ:ρ->Prop}(n:Nat)(I:Nat->σ->Prop)(h:∀ k s,k<n->I k s->(step s).wp (Out (fun s'=>I (k+1) s') Φ))(hend:∀ s,I n s->(step s).wp (Out (fun _=>False) Φ)):
  ∀ {s:σ},I 0 s->(Cq.loop step s).wp Φ:=by
 have key:∀ d k s,k+d=n->I k s->(Cq.loop step s).wp Φ:=by
  intro d
  induction d with
  | zero=>intro k s hk hs; rw[Nat.add_zero] at hk; subst hk; exact Cq.Zet ((step s).mono (Out.mono (fun _ h=>h.elim) (fun _ x=>x)) (hend s hs))
  | succ d ih=>intro k s hk hs; exact Cq.Zet ((step s).mono (Out.mono (fun s' h'=>ih (k+1) s' (by omega) h') (fun _ x=>x)) (h k s (by omega) hs))
 exact fun {s} hs=>key n 0 s (by omega) hs
theorem wrapN{k:Nat}(h:k<1000000000000):i64.wrap ((k:Int)+1)=((k+1:Nat):Int):=by rw[wrap64 (by omega)]; simp
theorem idxN{α:Type}{l:List α}{k:Nat}(h:k<l.length):(0:Int)<=(k:Int)/\l[(k:Int).toNat]? = some l[k]:=⟨by omega,by simp[h]⟩
theorem getFN{a:M}{k:Nat}(h:k<8):getF a (k:Int)=a ⟨k,h⟩:=by rw[getF8 (by omega)]; rfl
theorem Zhs(m:M):(Zbh m).Ret (suppM m):=by
 show (Cq.loop _ _).wp _
 refine Cq.Zs 8 (fun k s=>s=(suppTo m k,(k:Int))) (fun k s hk hs=>?_) (fun s hs=>?_) rfl
 .subst hs
  refine Cq.wp.yes (p:=(k:Int)<8) (by omega) ?_
  refine⟨by omega,?_⟩
  rw[Cq.Zj,getFN hk]
  have hb:=Zc5 m k
  split
  .rename_i h
   refine⟨by omega,?_⟩
   show _=_
   rw[wrapN (by omega),ZjF hk,ZkG hk hb.1 hb.2,Zin m hk h]
  rename_i h
  show _=_
  rw[wrapN (by omega),Zi5 m hk h]
 subst hs
 refine Cq.wp.no (p:=((8:Nat):Int)<8) (by omega) ?_
 rfl
theorem Zf6{m:M}(h:Ok m):(ZaV m).Ret true:=by
 refine Cq.Zs 8 (fun k s=>s=(k:Int)) (fun k s hk hs=>?_) (fun s hs=>?_) rfl
 .subst hs
  have:=h ⟨k,hk⟩
  refine Cq.wp.yes (p:=(k:Int)<8) (by omega) ?_
  refine⟨by omega,?_⟩
  rw[Cq.Zj,getFN hk,if_neg (by omega),Cq.Zj,if_neg (by omega)]
  exact wrapN (by omega)
 subst hs
 refine Cq.wp.no (p:=((8:Nat):Int)<8) (by omega) ?_
 rfl
def degTo(m:M):Nat->Int
 | 0=>0
 | k+1=>degTo m k+(if h:k<8 then m ⟨k,h⟩ else 0)
def degM(m:M):Int:=degTo m 8
theorem Ze7{m:M}(h:Ok m):∀ k:Nat,0<=degTo m k/\degTo m k<=65535*k
 | 0=>by simp[degTo]
 | k+1=>by
  have ih:=Ze7 h k
  simp only[degTo]
  split
  .rename_i hk; have:=h ⟨k,hk⟩; omega
  omega
theorem ZhU{m:M}(h:Ok m):(Zbv m).Ret (degM m):=by
 refine Cq.Zs 8 (fun k s=>s=(degTo m k,(k:Int))) (fun k s hk hs=>?_) (fun s hs=>?_) rfl
 .subst hs
  have h1:=Ze7 h k
  have h2:=h ⟨k,hk⟩
  refine Cq.wp.yes (p:=(k:Int)<8) (by omega) ?_
  refine⟨by omega,?_⟩
  show _=_
  rw[wrapN (by omega),getFN hk,wrap64 (by omega),degTo,dif_pos hk]
 subst hs
 refine Cq.wp.no (p:=((8:Nat):Int)<8) (by omega) ?_
 rfl
def mulM(a b:M):M:=fun i=>a i+b i
end Go.EL

namespace Go.EL
open Go.IntKind (i8 i16 i32 i64 u8 u16 u32 u64)
open Go Go.RowKit
theorem ZcF{c:Zf}(h:goodC c=true):∃ n:Int,c=ratI n/\n≠0/\-12<=n/\n<=12:=by
 obtain⟨⟨ng,nm⟩,⟨dg,dm⟩⟩:=c
 unfold goodC at h
 dsimp only at h
 split at h
 .rename_i w d
  simp only[Bool.and_eq_true,Bool.not_eq_true',decide_eq_true_eq] at h
  obtain⟨⟨⟨h1,h2⟩,h3⟩,h4⟩:=h
  subst h1 h2
  cases ng with
  | true=>
   refine⟨-w,?_,by omega,by omega,by omega⟩
   unfold ratI
   rw[if_neg (by omega),decide_eq_true (by omega),show ((-w).natAbs:Int)=w by omega]
  | false=>
   refine⟨w,?_,by omega,by omega,by omega⟩
   unfold ratI
   rw[if_neg (by omega),decide_eq_false (by omega),show ((w).natAbs:Int)=w by omega]
 cases h
theorem Zaj(n:Int):numC (ratI n)=n:=by
 unfold numC ratI
 by_cases h:n<0
 .rw[decide_eq_true h,if_pos rfl,if_neg (by omega)]; simp; omega
 rw[decide_eq_false h]
 by_cases h0:n=0
 .subst h0; rfl
 simp[h0]; omega
theorem Zh6{n:Int}(h0:n≠0)(h1:-12<=n)(h2:n<=12):goodC (ratI n)=true:=by
 unfold goodC ratI
 rw[if_neg h0]
 simp; omega
def cmpC(a b:Zf):Int:=if numC a<numC b then -1 else if numC a=numC b then 0 else 1
theorem ZgM{a b:Zf}(ha:goodC a=true)(hb:goodC b=true):(ZaP a b).Ret (cmpC a b):=by
 obtain⟨m,rfl,m0,m1,m2⟩:=ZcF ha
 obtain⟨n,rfl,n0,n1,n2⟩:=ZcF hb
 have h:=ZD ZjN m1 m2
 have e0:(m == 0)=false:=by simpa using m0
 rw[e0,Bool.false_or] at h
 have h':=ZD h n1 n2
 have e1:(n == 0)=false:=by simpa using n0
 rw[e1,Bool.false_or] at h'
 have:=Z0 h'
 unfold cmpC
 rw[Zaj,Zaj]
 exact this
theorem Zis{a b:Zf}(ha:goodC a=true)(hb:goodC b=true)(h:cmpC a b=0):a=b:=by
 obtain⟨m,rfl,_⟩:=ZcF ha
 obtain⟨n,rfl,_⟩:=ZcF hb
 unfold cmpC at h
 rw[Zaj,Zaj] at h
 split at h
 .omega
 split at h
 .rename_i e; rw[e]
 omega
theorem Zjl(a b:Zf):cmpC b a = - cmpC a b:=by unfold cmpC; split <;> split <;> (try split) <;> omega
theorem Zj0{a b:Zf}:cmpC a b<=0↔numC a<=numC b:=by unfold cmpC; split <;> (try split) <;> constructor <;> intro h <;> omega
theorem Zj1{a b:Zf}:cmpC a b<0↔numC a<numC b:=by unfold cmpC; split <;> (try split) <;> constructor <;> intro h <;> omega
theorem Zh2{a b c:Zf}(h1:cmpC a b<=0)(h2:cmpC b c<=0):cmpC a c<=0/\((cmpC a b<0\/cmpC b c<0)->cmpC a c<0):=by
 rw[Zj0] at *
 simp only[Zj1]
 omega
theorem ZdH(s t:Za):cmpT t s = - cmpT s t:=by
 unfold cmpT
 by_cases h:s.m=t.m
 .rw[if_pos h,if_pos h.symm]; exact Zjl s.c t.c
 rw[if_neg h,if_neg (fun e=>h e.symm)]; exact Zal _ _
theorem Zcn(a b c:Za)(h1:cmpT a b<=0)(h2:cmpT b c<=0):cmpT a c<=0/\((cmpT a b<0\/cmpT b c<0)->cmpT a c<0):=by
 have nz:∀ {x y:Za},x.m≠y.m->cmpM x.m y.m<=0->cmpM x.m y.m<0:=fun h h'=>by
  rcases Int.lt_or_eq_of_le h' with h'|h'
  .exact h'
  exact absurd (Zbn h') h
 unfold cmpT at *
 by_cases e1:a.m=b.m
 .by_cases e2:b.m=c.m
  .rw[if_pos e1] at h1 ⊢; rw[if_pos e2] at h2 ⊢; rw[if_pos (e1.trans e2)]
   exact Zh2 h1 h2
  rw[if_pos e1] at h1 ⊢; rw[if_neg e2] at h2 ⊢; rw[if_neg (fun e=>e2 (e1.symm.trans e))]
  have:=nz e2 h2
  rw[e1]
  exact⟨h2,fun _=>this⟩
 by_cases e2:b.m=c.m
 .rw[if_neg e1] at h1 ⊢; rw[if_pos e2] at h2 ⊢; rw[if_neg (fun e=>e1 (e.trans e2.symm))]
  have:=nz e1 h1
  rw[<- e2]
  exact⟨h1,fun _=>this⟩
 rw[if_neg e1] at h1 ⊢; rw[if_neg e2] at h2 ⊢
 have h1':=nz e1 h1
 have h3:=Zcc h1 h2 (.inl h1')
 have:a.m≠c.m:=fun e=>by rw[e,ZcU] at h3; omega
 rw[if_neg this]
 exact⟨Int.le_of_lt h3,fun _=>h3⟩
theorem Zit{s t:Za}(hs:goodC s.c=true)(ht:goodC t.c=true)(h:cmpT s t=0):s=t:=by
 unfold cmpT at h
 have key:s.m=t.m/\s.c=t.c:=by
  by_cases e:s.m=t.m
  .rw[if_pos e] at h; exact⟨e,Zis hs ht h⟩
  rw[if_neg e] at h; exact absurd (Zbn h) e
 cases s; cases t
 simp only at key
 rw[key.1,key.2]
theorem ZR:∀ p q:List Za,cmpP q p = - cmpP p q
 | [],[]=>rfl
 | [],_::_=>rfl
 | _::_,[]=>rfl
 | s::p,t::q=>by
  unfold cmpP
  rw[ZdH s t,ZR p q]
  by_cases h:cmpT s t=0
  .rw[if_pos h,if_pos (by omega)]
  rw[if_neg h,if_neg (by omega)]
theorem ZaT:∀ a b c:List Za,cmpP a b<=0->cmpP b c<=0->cmpP a c<=0/\((cmpP a b<0\/cmpP b c<0)->cmpP a c<0)
 | [],[],[],h1,h2=>⟨by decide,fun h=>by rcases h with h|h <;> exact absurd h (by decide)⟩
 | [],[],_::_,h1,h2=>⟨by simp[cmpP],fun _=>by simp[cmpP]⟩
 | [],_::_,[],h1,h2=>by simp[cmpP] at h2
 | [],_::_,_::_,h1,h2=>⟨by simp[cmpP],fun _=>by simp[cmpP]⟩
 | _::_,[],_,h1,h2=>by simp[cmpP] at h1
 | _::_,_::_,[],h1,h2=>by simp[cmpP] at h2
 | s::a,t::b,u::c,h1,h2=>by
  have n1:=ZdH s t
  have ih:=ZaT a b c
  have tr:=Zcn s t u
  have tr1:=Zcn t s u
  have tr2:=Zcn s u t
  have n2:=ZdH t u
  have n3:=ZdH s u
  simp only[cmpP] at *
  by_cases e1:cmpT s t=0
  .rw[if_pos e1] at h1 ⊢
   by_cases e2:cmpT t u=0
   .rw[if_pos e2] at h2 ⊢
    have h3:cmpT s u=0:=by
     have q1:=(tr (by omega) (by omega)).1
     have q2:=(Zcn u t s (by omega) (by omega)).1
     omega
    rw[if_pos h3]
    exact ih h1 h2
   rw[if_neg e2] at h2 ⊢
   have q1:=(tr (by omega) h2).2 (.inr (by omega))
   rw[if_neg (by omega)]
   exact⟨by omega,fun _=>q1⟩
  rw[if_neg e1] at h1 ⊢
  have e2:cmpT t u<=0:=by
   by_cases e2:cmpT t u=0
   .omega
   rw[if_neg e2] at h2; exact h2
  have q1:=(tr h1 e2).2 (.inl (by omega))
  rw[if_neg (by omega)]
  exact⟨by omega,fun _=>q1⟩
theorem ZcV(p:List Za):cmpP p p=0:=by have:=ZR p p; omega
theorem Zfy{t:Za}{p:List Za}(h:goodP (t::p)=true):goodC t.c=true/\goodP p=true:=by
 unfold goodP at *
 simp only[Bool.and_eq_true,decide_eq_true_eq,List.length_cons,List.all_cons] at h ⊢
 exact⟨h.2.1,by omega,h.2.2⟩
theorem Zej:∀ {p q:List Za},goodP p=true->goodP q=true->cmpP p q=0->p=q
 | [],[],_,_,_=>rfl
 | [],_::_,_,_,h=>by simp[cmpP] at h
 | _::_,[],_,_,h=>by simp[cmpP] at h
 | s::p,t::q,hp,hq,h=>by
  obtain⟨p1,p2⟩:=Zfy hp
  obtain⟨q1,q2⟩:=Zfy hq
  simp only[cmpP] at h
  by_cases e:cmpT s t=0
  .rw[if_pos e] at h
   rw[Zit p1 q1 e,Zej p2 q2 h]
  rw[if_neg e] at h; exact absurd h e
abbrev GoodQ:={ p:List Za // goodP p=true }
theorem swoP:Go.Sort.SWO (Go.Proofs.ltOf fun a b:GoodQ=>cmpP a.1 b.1) where
 irrefl x:=by show decide (cmpP x.1 x.1<0)=false; rw[ZcV]; rfl
 trans x y z h1 h2:=by
  simp only[Go.Proofs.ltOf,decide_eq_true_eq] at *
  exact (ZaT x.1 y.1 z.1 (by omega) (by omega)).2 (.inl h1)
 ntrans x y z h1 h2:=by
  simp only[Go.Proofs.ltOf,decide_eq_false_iff_not,Int.not_lt] at *
  have n1:=ZR x.1 y.1
  have n2:=ZR y.1 z.1
  have n3:=ZR x.1 z.1
  have:=(ZaT z.1 y.1 x.1 (by omega) (by omega)).1
  omega
theorem Zfb(x:List Za):∀ l,(inP x l).Perm (x::l)
 | []=>List.Perm.refl _
 | y::l=>by
  unfold inP
  split
  .exact ((Zfb x l).cons y).trans (List.Perm.swap x y l)
  exact List.Perm.refl _
theorem Zak:∀ l,(ordP l).Perm l
 | []=>List.Perm.refl _
 | x::l=>(Zfb x (ordP l)).trans ((Zak l).cons x)
theorem ZfA(x:List Za):∀ l,l.Pairwise (fun a b=>cmpP a b<=0)->(inP x l).Pairwise (fun a b=>cmpP a b<=0)
 | [],_=>List.pairwise_singleton _ _
 | y::l,h=>by
  unfold inP
  obtain⟨h1,h2⟩:=List.pairwise_cons.1 h
  have n:=ZR x y
  split
  .refine List.pairwise_cons.2 ⟨fun z hz=>?_,ZfA x l h2⟩
   rcases List.mem_cons.1 ((Zfb x l).mem_iff.1 hz) with rfl|hz
   .omega
   exact h1 z hz
  refine List.pairwise_cons.2 ⟨fun z hz=>?_,h⟩
  rcases List.mem_cons.1 hz with rfl|hz
  .omega
  exact (ZaT x y z (by omega) (h1 z hz)).1
theorem Zdj:∀ l,(ordP l).Pairwise (fun a b=>cmpP a b<=0)
 | []=>List.Pairwise.nil
 | x::l=>ZfA x _ (Zdj l)
theorem Ze0:∀ {l m:List (List Za)},l.Perm m->(∀ p ∈ l,goodP p=true)->l.Pairwise (fun a b=>cmpP a b<=0)->m.Pairwise (fun a b=>cmpP a b<=0)->l=m
 | [],m,h,_,_,_=>(List.Perm.nil_eq h)
 | x::l,[],h,_,_,_=>by have:=h.length_eq; simp at this
 | x::l,y::m,h,hg,h1,h2=>by
  obtain⟨a1,a2⟩:=List.pairwise_cons.1 h1
  obtain⟨b1,b2⟩:=List.pairwise_cons.1 h2
  have e:x=y:=by
   have hx:x ∈ y::m:=h.mem_iff.1 (by simp)
   have hy:y ∈ x::l:=h.mem_iff.2 (by simp)
   have q1:cmpP x y<=0:=by
    rcases List.mem_cons.1 hy with rfl|hy
    .rw[ZcV]; exact Int.le_refl 0
    exact a1 y hy
   have q2:cmpP y x<=0:=by
    rcases List.mem_cons.1 hx with rfl|hx
    .rw[ZcV]; exact Int.le_refl 0
    exact b1 x hx
   have n:=ZR x y
   exact Zej (hg x (by simp)) (hg y hy) (by omega)
  subst e
  rw[Ze0 (List.Perm.cons_inv h) (fun p hp=>hg p (by simp[hp])) a2 b2]
theorem Zjg{s t:Za}(hs:goodC s.c=true)(ht:goodC t.c=true):(Zac s t).Ret (cmpT s t):=by
 unfold Zac cmpT
 by_cases h:s.m=t.m
 .rw[if_pos h]
  exact Cq.wp.no (by simpa using h) ⟨_,ZgM hs ht,rfl⟩
 rw[if_neg h]
 exact Cq.wp.yes h ⟨_,Zbg _ _,rfl⟩
theorem ZdM{p:List Za}(h:goodP p=true){k:Nat}(hk:k<p.length):goodC p[k].c=true:=by
 unfold goodP at h
 simp only[Bool.and_eq_true] at h
 exact List.all_eq_true.1 h.2 _ (List.getElem_mem hk)
theorem ZcZ{p:List Za}(h:goodP p=true):p.length<=1000:=by
 unfold goodP at h
 simp only[Bool.and_eq_true,decide_eq_true_eq] at h
 exact h.1
theorem Zga(p q:List Za){k:Nat}(hp:k<p.length)(hq:k<q.length):cmpP (p.drop k) (q.drop k)=if cmpT p[k] q[k]=0 then cmpP (p.drop (k+1)) (q.drop (k+1)) else cmpT p[k] q[k]:=by
 rw[List.drop_eq_getElem_cons hp,List.drop_eq_getElem_cons hq]
 rfl
theorem ZgB{p q:List Za}(hp:goodP p=true)(hq:goodP q=true):(ZbV p q).Ret (cmpP p q):=by
 have lp:=ZcZ hp
 have lq:=ZcZ hq
 refine⟨cmpP p q,?_,rfl⟩
 unfold Zl
 refine (Zq p q 0).mono (p:=fun o=>match o with | .inl v=>v=cmpP p q | .inr ()=>q.length ≥ p.length/\cmpP p q=cmpP [] (q.drop p.length)) (fun o h=>?_) (Cq.Zs p.length (fun k s=>s=(k:Int)/\k<=p.length/\k<=q.length/\cmpP p q=cmpP (p.drop k) (q.drop k)) ?_ ?_ ⟨rfl,Nat.zero_le _,Nat.zero_le _,rfl⟩)
 .match o,h with
  | .inl v,h=>exact h
  | .inr (),⟨h1,h2⟩=>
   show (Zi p q).Ret _
   unfold Zi
   by_cases hl:p.length<q.length
   .refine Cq.wp.yes (by omega) ?_
    show (-1:Int)=_
    rw[h2,List.drop_eq_getElem_cons hl]; rfl
   refine Cq.wp.no (by omega) ?_
   show (0:Int)=_
   rw[h2,List.drop_eq_nil_of_le (by omega)]; rfl
 .rintro k s hk ⟨rfl,h1,h2,h3⟩
  refine Cq.wp.yes (by omega) ⟨_,idxN hk,?_⟩
  by_cases hq2:k<q.length
  .refine Cq.wp.no (by omega) ⟨_,idxN hq2,_,Zjg (ZdM hp hk) (ZdM hq hq2),?_⟩
   have hd:=Zga p q hk hq2
   by_cases e:cmpT p[k] q[k]=0
   .rw[if_pos e] at hd
    refine Cq.wp.no (by omega) ?_
    exact⟨wrapN (by omega),by omega,by omega,h3.trans hd⟩
   rw[if_neg e] at hd
   refine Cq.wp.yes e ?_
   exact (h3.trans hd).symm
  refine Cq.wp.yes (by omega) ?_
  show (1:Int)=_
  rw[h3,List.drop_eq_getElem_cons hk,List.drop_eq_nil_of_le (show q.length<=k by omega)]; rfl
 rintro s ⟨rfl,h1,h2,h3⟩
 refine Cq.wp.no (by omega) ?_
 refine⟨h2,?_⟩
 rw[h3,List.drop_eq_nil_of_le (Nat.le_refl _)]
theorem Zgb(y:List Za):∀ (x:List Za) (l:List (List Za)),dedG x (l++[y])=dedG x l++(if cmpP y (l.getLastD x)=0 then [] else [y])
 | x,[]=>by
  show dedG x [y]=_
  unfold dedG
  by_cases h:cmpP y x=0
  .rw[if_pos h]; simp[h,dedG]
  rw[if_neg h]; simp[h,dedG]
 | x,z::l=>by
  have ih:=Zgb y z l
  show dedG x (z::(l++[y]))=_
  have e:(z::l).getLastD x=l.getLastD z:=by cases l <;> simp[List.getLastD]
  rw[e]
  simp only[dedG]
  split
  .exact ih
  rw[ih]; rfl
theorem Zgc{xs:List (List Za)}{j:Nat}(h0:1<=j)(hj:j<xs.length):dedP (xs.take (j+1))=if cmpP xs[j] xs[j-1]=0 then dedP (xs.take j) else dedP (xs.take j)++[xs[j]]:=by
 match xs,hj with
 | x::l,hj=>
  obtain⟨i,rfl⟩:∃ i,j=i+1:=⟨j-1,by omega⟩
  have hi:i<l.length:=by simpa using hj
  rw[List.take_succ_eq_append_getElem hj]
  simp only[List.take_succ_cons,List.cons_append,dedP,Zgb,List.getElem_cons_succ,Nat.add_sub_cancel]
  have e:(l.take i).getLastD x=(x::l)[i]:=by
   cases i with
   | zero=>rfl
   | succ i=>
    rw[List.getLastD_eq_getLast?,List.getLast?_eq_getElem?,List.length_take]
    rw[show min (i+1) l.length-1=i by omega,List.getElem?_take_of_lt (by omega),List.getElem?_eq_getElem (by omega)]
    rfl
  rw[e]
  split <;> simp
theorem ZgR:∀ {xs:List (List Za)},(dedP xs).length<=xs.length
 | []=>Nat.le_refl _
 | x::l=>by
  have key:∀ (x:List Za) (l:List (List Za)),(dedG x l).length<=l.length:=by
   intro x l
   induction l generalizing x with
   | nil=>exact Nat.le_refl _
   | cons y l ih=>
    unfold dedG
    split
    .exact Nat.le_succ_of_le (ih y)
    simpa using ih y
  simpa [dedP] using key x l
theorem Zfw{xs:List (List Za)}(h:xs.length<2):dedP xs=xs:=by
 match xs,h with
 | [],_=>rfl
 | [x],_=>rfl
theorem Zir{s t:Za}(hs:goodC s.c=true)(ht:goodC t.c=true):(Z5 s t).Ret (decide (cmpT s t=0)):=by
 unfold Z5 cmpT
 by_cases h:s.m=t.m
 .simp only[if_pos h]
  exact⟨_,ZgM hs ht,rfl⟩
 simp only[if_neg h]
 show false=_
 have:¬ cmpM s.m t.m=0:=fun e=>h (Zbn e)
 simp[this]
theorem ZgQ:∀ {p q:List Za},cmpP p q=0->p.length=q.length
 | [],[],_=>rfl
 | [],_::_,h=>by simp[cmpP] at h
 | _::_,[],h=>by simp[cmpP] at h
 | s::p,t::q,h=>by
  simp only[cmpP] at h
  split at h
  .simp[ZgQ h]
  rename_i h'; exact absurd h h'
theorem Zd7{p q:List Za}(hp:goodP p=true)(hq:goodP q=true):(Zby p q).Ret (decide (cmpP p q=0)):=by
 have lp:=ZcZ hp
 have lq:=ZcZ hq
 refine⟨decide (cmpP p q=0),?_,rfl⟩
 unfold Zm
 by_cases hl:p.length=q.length
 .refine Cq.wp.no (by omega) ?_
  refine (Zr p q 0).mono (p:=fun o=>match o with | .inl v=>v=decide (cmpP p q=0) | .inr ()=>cmpP p q=0) (fun o h=>?_) (Cq.Zs p.length (fun k s=>s=(k:Int)/\k<=p.length/\cmpP p q=cmpP (p.drop k) (q.drop k)) ?_ ?_ ⟨rfl,Nat.zero_le _,rfl⟩)
  .match o,h with
   | .inl v,h=>exact h
   | .inr (),h=>show true=_; rw[decide_eq_true h]
  .rintro k s hk ⟨rfl,h1,h3⟩
   have hq2:k<q.length:=by omega
   refine Cq.wp.yes (by omega) ⟨_,idxN hk,_,idxN hq2,_,Zir (ZdM hp hk) (ZdM hq hq2),?_⟩
   have hd:=Zga p q hk hq2
   by_cases e:cmpT p[k] q[k]=0
   .rw[if_pos e] at hd
    rw[decide_eq_true e]
    exact⟨wrapN (by omega),by omega,h3.trans hd⟩
   rw[if_neg e] at hd
   rw[decide_eq_false e]
   show false=_
   rw[h3,hd,decide_eq_false e]
  rintro s ⟨rfl,h1,h3⟩
  refine Cq.wp.no (by omega) ?_
  show cmpP p q=0
  rw[h3,List.drop_eq_nil_of_le (Nat.le_refl _),List.drop_eq_nil_of_le (by omega)]
  rfl
 refine Cq.wp.yes (by omega) ?_
 show false=_
 rw[decide_eq_false (fun h=>hl (ZgQ h))]
theorem Zjj:(between 0 100 fun n=>match (ZN (u64.wrap n)).ev 30 with|some v=>decide (0<=v/\v<1000000)|none=>false)=true:=by decide +kernel
theorem Zjk{n:Nat}(h:n<=100):∃ v,(ZN (u64.wrap (n:Int))).Ret v/\0<=v/\v<1000000:=by
 have:=ZD Zjj (show (0:Int)<=(n:Int) by omega) (show (n:Int)<=100 by omega)
 cases he:(ZN (u64.wrap (n:Int))).ev 30 with
 | none=>rw[he] at this; cases this
 | some v=>rw[he] at this; exact⟨v,Cq.Ret.Zv 30 he,of_decide_eq_true this⟩
end Go.EL

namespace Go.EL
open Go.IntKind (i8 i16 i32 i64 u8 u16 u32 u64)
open Go Go.RowKit
structure TermOk (t:Za):Prop where
 c:∃ c:Int,t.c=ratI c/\c≠0/\-12<=c/\c<=12
 m:Ok t.m
structure PolOk (p:List Za):Prop where
 ord:p.Pairwise fun x y=>0<cmpM x.m y.m
 trm:∀ t ∈ p,TermOk t
 len:p.length<=100
theorem TermOk.pv{t:Za}(h:TermOk t):(ZaW t.c).Ret true:=by
 obtain⟨⟨c,e,h0,h1,h2⟩,_⟩:=h
 have:=ZD Zii (x:=c) (by omega) (by omega)
 rw[e]
 exact Z0 (by simpa [h0] using this)
theorem TermOk.ps{t:Za}(h:TermOk t):∃ s,(Zw t.c).Ret s/\s≠0:=by
 obtain⟨⟨c,e,h0,h1,h2⟩,_⟩:=h
 have:=ZD Zgp (x:=c) (by omega) (by omega)
 rw[e]
 refine⟨_,Z0 (by simpa [h0] using this),?_⟩
 split <;> first|omega|(split <;> omega)
theorem PolOk.at{p:List Za}(h:PolOk p){k:Nat}(hk:k<p.length):TermOk p[k]:=h.trm _ (List.getElem_mem hk)
theorem PolOk.step{p:List Za}(h:PolOk p){k:Nat}(hk:k+1<p.length):0<cmpM p[k].m p[k+1].m:=List.pairwise_iff_getElem.1 h.ord k (k+1) (by omega) hk (by omega)
theorem Zbz{p:List Za}(h:PolOk p):(ZX p).Ret true:=by
 have hl:=h.len
 refine Cq.Zs p.length (fun k s=>s=(k:Int)) (fun k s hk hs=>?_) (fun s hs=>?_) rfl
 .subst hs
  have ht:=h.at hk
  obtain⟨s,h1,h2⟩:=ht.ps
  refine Cq.wp.yes (p:=(k:Int)<(p.length:Int)) (by omega) ?_
  refine⟨p[k],idxN hk,true,ht.pv,s,h1,?_⟩
  rw[Cq.Zj,if_neg h2]
  refine⟨true,Zf6 ht.m,?_⟩
  rw[Cq.Zj,if_neg (by decide)]
  show (Z2 p (k:Int) p[k]).wp _
  unfold Z2
  rw[Cq.Zj]
  split
  .rename_i h0
   obtain⟨j,rfl⟩:∃ j,k=j+1:=⟨k-1,by omega⟩
   have hj:i64.wrap (((j+1:Nat):Int)-1)=(j:Int):=by rw[wrap64 (by omega)]; omega
   rw[hj]
   refine⟨p[j],idxN (by omega),_,Zbg _ _,?_⟩
   have:=h.step hk
   rw[Cq.Zj,if_neg (by omega)]
   exact wrapN (by omega)
  exact wrapN (by omega)
 subst hs
 refine Cq.wp.no (p:=((p.length:Nat):Int)<(p.length:Int)) (by omega) ?_
 rfl
def usesTo(p:List Za):Nat->Int
 | 0=>0
 | k+1=>u8.wrap (BitVec.ofInt u8.bits (usesTo p k) ||| BitVec.ofInt u8.bits (match p[k]? with|some t=>suppM t.m|none=>0)).toNat
def usesP(p:List Za):Int:=usesTo p p.length
def degPTo(p:List Za):Nat->Int
 | 0=>-1
 | k+1=>match p[k]? with|some t=>if degPTo p k<degM t.m then degM t.m else degPTo p k|none=>degPTo p k
def degP(p:List Za):Int:=degPTo p p.length
theorem ZgO{p:List Za}(hl:p.length<=100):(ZaB p).Ret (usesP p):=by
 refine Cq.Zs p.length (fun k s=>s=(usesTo p k,(k:Int))) (fun k s hk hs=>?_) (fun s hs=>?_) rfl
 .subst hs
  refine Cq.wp.yes (p:=(k:Int)<(p.length:Int)) (by omega) ?_
  refine⟨p[k],idxN hk,_,Zhs _,?_⟩
  show _=_
  rw[wrapN (by omega)]
  simp only[usesTo,List.getElem?_eq_getElem hk]
 subst hs
 refine Cq.wp.no (p:=((p.length:Nat):Int)<(p.length:Int)) (by omega) ?_
 rfl
theorem Zb0{p:List Za}(h:PolOk p):(ZL p).Ret (degP p):=by
 have hl:=h.len
 refine Cq.Zs p.length (fun k s=>s=(degPTo p k,(k:Int))) (fun k s hk hs=>?_) (fun s hs=>?_) rfl
 .subst hs
  refine Cq.wp.yes (p:=(k:Int)<(p.length:Int)) (by omega) ?_
  refine⟨p[k],idxN hk,_,ZhU (h.at hk).m,?_⟩
  show _=_
  rw[wrapN (by omega)]
  simp only[degPTo,List.getElem?_eq_getElem hk]
 subst hs
 refine Cq.wp.no (p:=((p.length:Nat):Int)<(p.length:Int)) (by omega) ?_
 rfl
end Go.EL

namespace Go.EL
open Go.IntKind (i8 i16 i32 i64 u8 u16 u32 u64)
open Go Go.RowKit
def fitB(p:List Za)(n:Int):Bool:=if (Int.fdiv (i64.wrap (usesP p)) (2 ^ (min (n).toNat i64.bits)))=0 then decide (degP p<=12) else false
theorem Zc9{p:List Za}(h:PolOk p){n:Int}(hn:0<=n):(Za7 p n).Ret (fitB p n):=by
 refine⟨true,Zbz h,_,ZgO h.len,hn,?_⟩
 unfold fitB
 rw[Cq.Zj]
 split
 .exact⟨_,Zb0 h,rfl⟩
 rfl
theorem ZfJ(a:M):∀ k:Nat,k<=8->∀ i:Fin 8,(suppTo a k).toNat.testBit i.val=(decide (i.val<k) && decide (0<a i))
 | 0,_,i=>by simp[suppTo]
 | k+1,hk,i=>by
  have ih:=ZfJ a k (by omega) i
  have hb:=Zc5 a k
  have hk':k<8:=by omega
  rw[Zdp] at hb
  simp only[suppTo,dif_pos hk']
  by_cases hi:i.val=k
  .have e:i=⟨k,hk'⟩:=Fin.ext hi
   subst e
   by_cases hp:0<a ⟨k,hk'⟩
   .rw[if_pos hp,Zdp,show (suppTo a k+((2 ^ k:Nat):Int)).toNat=2 ^ k+(suppTo a k).toNat by omega,Nat.testBit_two_pow_add_eq,Nat.testBit_lt_two_pow (by omega)]
    simp[hp]
   rw[if_neg hp,Int.add_zero]
   show (suppTo a k).toNat.testBit k=_
   rw[Nat.testBit_lt_two_pow (by omega)]
   simp[hp]
  have e1:(decide (i.val<k+1))=decide (i.val<k):=by
   by_cases h:i.val<k
   .simp[h,show i.val<k+1 by omega]
   simp[h,show ¬ i.val<k+1 by omega]
  rw[e1,<- ih]
  by_cases hp:0<a ⟨k,hk'⟩
  .rw[if_pos hp,Zdp,show (suppTo a k+((2 ^ k:Nat):Int)).toNat=2 ^ k+(suppTo a k).toNat by omega]
   by_cases h:i.val<k
   .rw[Nat.testBit_two_pow_add_gt h]
   rw[Nat.testBit_lt_two_pow (x:=(suppTo a k).toNat) (Nat.lt_of_lt_of_le (by omega:(suppTo a k).toNat<2 ^ k) (Nat.pow_le_pow_right (by omega) (by omega)))]
   refine Nat.testBit_lt_two_pow (Nat.lt_of_lt_of_le (by have:=hb.2; omega:2 ^ k+(suppTo a k).toNat<2 ^ (k+1)) (Nat.pow_le_pow_right (by omega) (by omega)))
  rw[if_neg hp,Int.add_zero]
theorem Zi4(a:M)(i:Fin 8):(suppM a).toNat.testBit i.val=decide (0<a i):=by
 unfold suppM
 rw[ZfJ a 8 (by omega)]
 simp[i.isLt]
theorem Zhg(a:M):0<=suppM a/\suppM a<256:=Zc5 a 8
theorem ZjW{a b:Nat}(ha:a<256)(hb:b<256):u8.wrap (BitVec.ofInt u8.bits (a:Int) ||| BitVec.ofInt u8.bits (b:Int)).toNat=((a ||| b:Nat):Int):=by
 have h:(BitVec.ofInt u8.bits (a:Int) ||| BitVec.ofInt u8.bits (b:Int)).toNat=a ||| b:=by
  rw[BitVec.toNat_or]
  simp only[IntKind.bits,BitVec.toNat_ofInt]
  rw[show (((a:Int) % ((2 ^ 8:Nat):Int)).toNat)=a by omega,show (((b:Int) % ((2 ^ 8:Nat):Int)).toNat)=b by omega]
 have h2:a ||| b<256:=Nat.or_lt_two_pow (n:=8) ha hb
 rw[h]
 simp only[IntKind.wrap,IntKind.bits,IntKind.signed,Bool.false_and,Bool.false_eq_true,if_false]
 omega
def usesN(p:List Za):Nat->Nat
 | 0=>0
 | k+1=>usesN p k ||| (match p[k]? with|some t=>(suppM t.m).toNat|none=>0)
theorem Zfi(p:List Za):∀ k,usesN p k<256
 | 0=>by simp[usesN]
 | k+1=>by
  refine Nat.or_lt_two_pow (n:=8) (Zfi p k) ?_
  split
  .rename_i t _
   have h:(suppM t.m).toNat<256:=by have:=Zhg t.m; omega
   exact h
  decide
theorem ZfK(p:List Za):∀ k,usesTo p k=(usesN p k:Int)
 | 0=>rfl
 | k+1=>by
  have h1:=Zfi p k
  unfold usesTo usesN
  rw[ZfK p k]
  cases p[k]? with
  | none=>exact ZjW (b:=0) h1 (by omega)
  | some t=>
   have h:=Zhg t.m
   obtain⟨n,hn⟩:=Int.eq_ofNat_of_zero_le h.1
   show u8.wrap (BitVec.ofInt u8.bits (usesN p k:Int) ||| BitVec.ofInt u8.bits (suppM t.m)).toNat=((usesN p k ||| (suppM t.m).toNat:Nat):Int)
   rw[hn]
   exact ZjW h1 (by omega)
theorem Zgs(p:List Za)(i:Fin 8):∀ k,(usesN p k).testBit i.val=(p.take k).any fun t=>decide (0<t.m i)
 | 0=>by simp[usesN]
 | k+1=>by
  simp only[usesN,Nat.testBit_or,Zgs p i k]
  cases h:p[k]? with
  | none=>
   have:p.length<=k:=List.getElem?_eq_none_iff.1 h
   simp[List.take_of_length_le this,List.take_of_length_le (show p.length<=k+1 by omega)]
  | some t=>
   rw[List.take_add_one,h]
   simp[Zi4]
theorem Zgu(p:List Za):usesP p=(usesN p p.length:Int):=ZfK p _
theorem Zgt(p:List Za)(i:Fin 8):(usesP p).toNat.testBit i.val=p.any fun t=>decide (0<t.m i):=by
 rw[Zgu,Int.toNat_natCast,Zgs,List.take_length]
theorem Zhi(p:List Za):0<=usesP p/\usesP p<256:=by have:=Zfi p p.length; rw[Zgu]; omega
theorem Zjp(u n:Nat):Int.fdiv (u:Int) ((2:Int) ^ n)=((u >>> n:Nat):Int):=by
 rw[Nat.shiftRight_eq_div_pow,show ((2:Int) ^ n)=((2 ^ n:Nat):Int) by simp,Int.fdiv_eq_ediv_of_nonneg _ (Int.natCast_nonneg _)]
 simp
theorem Zij(p:List Za){n:Int}(h0:0<=n)(h8:n<=8):Int.fdiv (i64.wrap (usesP p)) (2 ^ (min (n).toNat i64.bits))=(((usesP p).toNat >>> n.toNat:Nat):Int):=by
 have:=Zhi p
 rw[wrap64 (by omega),show min n.toNat i64.bits=n.toNat by simp only[IntKind.bits]; omega]
 obtain⟨u,hu⟩:=Int.eq_ofNat_of_zero_le this.1
 rw[hu]
 exact Zjp u _
theorem Zgd(p:List Za)(d:Int)(hd:-1<=d):∀ k,k<=p.length->(degPTo p k<=d↔∀ i (h:i<p.length),i<k->degM p[i].m<=d)
 | 0,_=>by simp[degPTo,hd]
 | k+1,hk=>by
  have ih:=Zgd p d hd k (by omega)
  have hk':k<p.length:=by omega
  simp only[degPTo,List.getElem?_eq_getElem hk']
  constructor
  .intro h i hi hik
   by_cases e:i=k
   .subst e; split at h <;> omega
   refine ih.1 ?_ i hi (by omega)
   split at h <;> omega
  intro h
  have h1:=h k hk' (by omega)
  have h2:=ih.2 fun i hi hik=>h i hi (by omega)
  split <;> omega
theorem Zcs{p:List Za}{d:Int}(hd:-1<=d):degP p<=d↔∀ t ∈ p,degM t.m<=d:=by
 unfold degP
 rw[Zgd p d hd p.length (by omega)]
 constructor
 .intro h t ht
  obtain⟨i,hi,rfl⟩:=List.mem_iff_getElem.1 ht
  exact h i hi hi
 intro h i hi _
 exact h _ (List.getElem_mem hi)
def Within(n:Nat)(p:List Za):Prop:=∀ t ∈ p,∀ i:Fin 8,n<=i.val->¬ 0<t.m i
theorem ZfL{p:List Za}{n:Nat}:((usesP p).toNat >>> n=0)↔Within n p:=by
 have hb:=Zhi p
 constructor
 .intro h t ht i hi hp
  have h1:=Zgt p i
  rw[show (p.any fun t=>decide (0<t.m i))=true from List.any_eq_true.2 ⟨t,ht,decide_eq_true hp⟩] at h1
  have h2:((usesP p).toNat >>> n).testBit (i.val-n)=true:=by rw[Nat.testBit_shiftRight,show n+(i.val-n)=i.val by omega]; exact h1
  rw[h] at h2
  simp at h2
 intro h
 refine Nat.eq_of_testBit_eq fun j=>?_
 rw[Nat.testBit_shiftRight,Nat.zero_testBit]
 by_cases hj:n+j<8
 .rw[Zgt p ⟨n+j,hj⟩]
  refine List.any_eq_false.2 fun t ht=>?_
  simp only[decide_eq_true_eq]
  exact h t ht _ (by simp)
 exact Nat.testBit_lt_two_pow (Nat.lt_of_lt_of_le (show (usesP p).toNat<2 ^ 8 by omega) (Nat.pow_le_pow_right (by omega) (by omega)))
theorem Ze9{p:List Za}{n:Nat}(hn:n<=8):fitB p (n:Int)=true↔Within n p/\∀ t ∈ p,degM t.m<=12:=by
 unfold fitB
 rw[Zij p (by omega) (by omega),Int.toNat_natCast]
 by_cases h:(usesP p).toNat >>> n=0
 .rw[if_pos (by rw[h]; rfl),decide_eq_true_eq,Zcs (by omega)]
  exact⟨fun k=>⟨ZfL.1 h,k⟩,fun k=>k.2⟩
 rw[if_neg (by omega)]
 exact⟨fun k=>absurd k (by decide),fun k=>absurd (ZfL.2 k.1) h⟩
end Go.EL

namespace Go.EL
open Go.IntKind (i8 i16 i32 i64 u8 u16 u32 u64)
open Go Go.RowKit
def valR(r:Zf):Int:=if r.num.neg=true then -(r.num.mag.headD 0) else r.num.mag.headD 0
theorem Zi9(c:Int):valR (ratI c)=c:=by
 unfold valR ratI
 by_cases h:c<0
 .simp[h,show ¬ c=0 by omega]; omega
 by_cases h0:c=0
 .simp[h0]
 simp[h,h0]; omega
def addT:List Za->Za->List Za
 | [],t=>[t]
 | x::xs,t=>if 0<cmpM x.m t.m then x::addT xs t else if cmpM x.m t.m<0 then t::x::xs else if valR x.c+valR t.c=0 then xs else ⟨ratI (valR x.c+valR t.c),x.m⟩::xs
theorem ZeN:∀ (p:List Za) (t:Za),(addT p t).length<=p.length+1
 | [],_=>by simp[addT]
 | x::xs,t=>by
  have ih:=ZeN xs t
  simp only[addT]
  split
  .simp; omega
  split
  .simp
  split <;> simp; omega
end Go.EL

namespace Go.EL
open Go.IntKind (i8 i16 i32 i64 u8 u16 u32 u64)
open Go Go.RowKit
structure IsPerm (π:M):Prop where
 rng:∀ i,0<=π i/\π i<8
 inj:∀ i j,π i=π j->i=j
def permTo(π m:M):Nat->M
 | 0=>fun _=>0
 | k+1=>if h:k<8 then setF (permTo π m k) (π ⟨k,h⟩).toNat (m ⟨k,h⟩) else permTo π m k
def permM(π m:M):M:=permTo π m 8
theorem Zgn{π:M}(h:IsPerm π)(m:M):∀ k,k<=8->∀ i:Fin 8,i.val<k->∀ j:Fin 8,(j.val:Int)=π i->permTo π m k j=m i
 | 0,_,i,hi,_,_=>by omega
 | k+1,hk,i,hi,j,hj=>by
  have hk':k<8:=by omega
  simp only[permTo,dif_pos hk',setF]
  have r:=h.rng ⟨k,hk'⟩
  by_cases e:i.val=k
  .have:i=⟨k,hk'⟩:=Fin.ext e
   subst this
   rw[if_pos (by omega)]
  have hne:π i≠π ⟨k,hk'⟩:=fun he=>e (congrArg Fin.val (h.inj _ _ he))
  rw[if_neg (by omega)]
  exact Zgn h m k (by omega) i (by omega) j hj
theorem ZeW{π:M}(h:IsPerm π)(m:M):∀ k,k<=8->∀ j:Fin 8,(∀ i:Fin 8,i.val<k->π i≠(j.val:Int))->permTo π m k j=0
 | 0,_,_,_=>rfl
 | k+1,hk,j,hj=>by
  have hk':k<8:=by omega
  have r:=h.rng ⟨k,hk'⟩
  have:=hj ⟨k,hk'⟩ (by simp)
  simp only[permTo,dif_pos hk',setF]
  rw[if_neg (by omega)]
  exact ZeW h m k (by omega) j fun i hi=>hj i (by omega)
theorem Zew{π m:M}(hm:Ok m):∀ k,Ok (permTo π m k)
 | 0=>fun _=>by simp[permTo]
 | k+1=>fun j=>by
  simp only[permTo]
  split
  .rename_i hk
   simp only[setF]
   split
   .exact hm _
   exact Zew hm k j
  exact Zew hm k j
theorem Zhb{π m:M}(hm:Ok m):Ok (permM π m):=Zew hm 8
theorem Zfd{π:M}(h:IsPerm π)(m:M)(i j:Fin 8)(hj:(j.val:Int)=π i):permM π m j=m i:=Zgn h m 8 (by omega) i i.isLt j hj
theorem Zgm{π:M}(h:IsPerm π){a b:M}(e:permM π a=permM π b):a=b:=by
 funext i
 have r:=h.rng i
 have h1:=Zfd h a i ⟨(π i).toNat,by omega⟩ (by simp; omega)
 have h2:=Zfd h b i ⟨(π i).toNat,by omega⟩ (by simp; omega)
 rw[<- h1,<- h2,e]
theorem Zge(f:M)(x:Int)(q:Nat):∀ k,k<=8->degTo (setF f q x) k=degTo f k+(if h:q<8 then (if q<k then x-f ⟨q,h⟩ else 0) else 0)
 | 0,_=>by simp[degTo]
 | k+1,hk=>by
  have hk':k<8:=by omega
  simp only[degTo,dif_pos hk',Zge f x q k (by omega),setF]
  by_cases e:k=q
  .subst e
   simp[hk']
   omega
  rw[if_neg e]
  by_cases h8:q<8
  .simp only[dif_pos h8]
   by_cases hq:q<k
   .rw[if_pos hq,if_pos (by omega)]; omega
   rw[if_neg hq,if_neg (by omega)]; omega
  simp only[dif_neg h8]; omega
theorem Zek{π:M}(h:IsPerm π)(m:M):degM (permM π m)=degM m:=by
 have key:∀ k,k<=8->degM (permTo π m k)=degTo m k:=by
  intro k
  induction k with
  | zero=>intro _; simp[permTo,degM,degTo]
  | succ k ih=>
   intro hk
   have hk':k<8:=by omega
   have r:=h.rng ⟨k,hk'⟩
   have hq:(π ⟨k,hk'⟩).toNat<8:=by omega
   simp only[permTo,dif_pos hk',degTo]
   unfold degM at ih ⊢
   rw[Zge _ _ _ 8 (by omega),dif_pos hq,if_pos hq,ih (by omega)]
   have:permTo π m k ⟨(π ⟨k,hk'⟩).toNat,hq⟩=0:=ZeW h m k (by omega) _ fun i hi he=>by
    have:π i=π ⟨k,hk'⟩:=by simp at he; omega
    have:=congrArg Fin.val (h.inj _ _ this)
    simp at this; omega
   rw[this]; omega
 exact key 8 (by omega)
theorem ZiS{π:M}(h:IsPerm π)(x:Za):(Zbo π x (0,fun _=>0)).Ret (permM π x.m):=by
 refine Cq.Zs 8 (fun k s=>s=((k:Int),permTo π x.m k)) (fun k s hk hs=>?_) (fun s hs=>?_) rfl
 .subst hs
  have r:=h.rng ⟨k,hk⟩
  refine Cq.wp.yes (p:=(k:Int)<8) (by omega) ?_
  refine⟨by omega,by omega,by rw[getFN hk]; exact r,?_⟩
  show _=_
  rw[wrapN (by omega),getFN hk,getFN hk]
  simp only[permTo,dif_pos hk]
 subst hs
 refine Cq.wp.no (p:=((8:Nat):Int)<8) (by omega) ?_
 rfl
theorem Zko{π:M}(h:IsPerm π){k:Nat}(hk:k<8){bx:Fin 8->Bool}(hb:∀ j,bx j=true->∃ i:Fin 8,i.val<k/\(j.val:Int)=π i):¬ getF bx (π ⟨k,hk⟩)=true:=by
 have r:=h.rng ⟨k,hk⟩
 rw[ZfS bx (show (π ⟨k,hk⟩).toNat<8 by omega)]
 intro ht
 obtain⟨i,h1,h2⟩:=hb _ ht
 have:π i=π ⟨k,hk⟩:=by simp at h2; omega
 have:=congrArg Fin.val (h.inj _ _ this)
 simp at this; omega
theorem ZiY{π:M}(h:IsPerm π){k:Nat}(hk:k<8){bx:Fin 8->Bool}(hb:∀ j,bx j=true->∃ i:Fin 8,i.val<k/\(j.val:Int)=π i):∀ j,setF bx (π ⟨k,hk⟩).toNat true j=true->∃ i:Fin 8,i.val<k+1/\(j.val:Int)=π i:=by
 intro j hj
 have r:=h.rng ⟨k,hk⟩
 simp only[setF] at hj
 split at hj
 .exact⟨⟨k,hk⟩,by simp,by omega⟩
 obtain⟨i,h1,h2⟩:=hb j hj
 exact⟨i,by omega,h2⟩
end Go.EL

namespace Go.EL
open Go.IntKind (i8 i16 i32 i64 u8 u16 u32 u64)
open Go Go.RowKit
def permT(π:M)(t:Za):Za:=⟨t.c,permM π t.m⟩
def permAcc(π:M)(l:List Za):List Za:=l.foldl (fun acc t=>addT acc (permT π t)) []
def permP(π:M)(p:List Za):List Za:=permAcc π p
theorem Zji{p:List Za}{t:Za}:(∀ x ∈ p,x.m≠t.m)->(addT p t).Perm (t::p):=by
 induction p with
 | nil=>intro _; exact List.Perm.refl _
 | cons x xs ih=>
  intro h
  have hx:=h x (by simp)
  simp only[addT]
  split
  .exact ((ih fun y hy=>h y (by simp[hy])).cons x).trans (List.Perm.swap _ _ _)
  split
  .exact List.Perm.refl _
  exact absurd (Zbn (by omega)) hx
theorem Zgz{a b c:M}(h1:0<cmpM a b)(h2:0<cmpM b c):0<cmpM a c:=by
 have k1:=Zal a b
 have k2:=Zal b c
 have k3:=Zal a c
 have:=Zcc (a:=c) (b:=b) (c:=a) (by omega) (by omega) (.inl (by omega))
 omega
abbrev Desc(p:List Za):Prop:=p.Pairwise fun x y=>0<cmpM x.m y.m
theorem Zf7{p:List Za}{t:Za}:Desc p->Desc (addT p t)/\∀ z,(∀ x ∈ p,0<cmpM z x.m)->0<cmpM z t.m->∀ y ∈ addT p t,0<cmpM z y.m:=by
 induction p with
 | nil=>intro _; exact⟨by simp[addT],fun z _ h y hy=>by simp[addT] at hy; subst hy; exact h⟩
 | cons x xs ih=>
  intro hd
  obtain⟨h1,h2⟩:=List.pairwise_cons.1 hd
  obtain⟨i1,i2⟩:=ih h2
  simp only[addT]
  split
  .rename_i hc
   refine⟨List.pairwise_cons.2 ⟨i2 _ h1 hc,i1⟩,fun z hz hzt y hy=>?_⟩
   rcases List.mem_cons.1 hy with rfl|hy
   .exact hz _ (by simp)
   exact i2 z (fun w hw=>hz w (by simp[hw])) hzt y hy
  split
  .rename_i hc
   have hc':0<cmpM t.m x.m:=by have:=Zal x.m t.m; omega
   refine⟨List.pairwise_cons.2 ⟨fun y hy=>?_,hd⟩,fun z hz hzt y hy=>?_⟩
   .rcases List.mem_cons.1 hy with rfl|hy
    .exact hc'
    exact Zgz hc' (h1 y hy)
   rcases List.mem_cons.1 hy with rfl|hy
   .exact hzt
   exact hz y hy
  split
  .exact⟨h2,fun z hz _ y hy=>hz y (by simp[hy])⟩
  refine⟨List.pairwise_cons.2 ⟨h1,h2⟩,fun z hz _ y hy=>?_⟩
  rcases List.mem_cons.1 hy with rfl|hy
  .exact hz x (by simp)
  exact hz y (by simp[hy])
theorem Zha(π:M)(l:List Za)(t:Za):permAcc π (l++[t])=addT (permAcc π l) (permT π t):=by simp[permAcc,List.foldl_append]
theorem ZdJ{p:List Za}(h:Desc p):p.Pairwise fun x y=>x.m≠y.m:=h.imp fun hp e=>by rw[e,ZcU] at hp; omega
theorem ZfG{π:M}(h:IsPerm π){p:List Za}(hd:Desc p):∀ k,k<=p.length->(permAcc π (p.take k)).Perm ((p.take k).map (permT π))/\Desc (permAcc π (p.take k))
 | 0,_=>by simp[permAcc]
 | k+1,hk=>by
  obtain⟨h1,h2⟩:=ZfG h hd k (by omega)
  have hk':k<p.length:=by omega
  rw[<- List.take_append_getElem hk',Zha]
  refine⟨?_,(Zf7 h2).1⟩
  have hnew:∀ x ∈ permAcc π (p.take k),x.m≠(permT π p[k]).m:=by
   intro x hx e
   obtain⟨y,hy,rfl⟩:=List.mem_map.1 (h1.mem_iff.1 hx)
   have hm:=Zgm h e
   obtain⟨i,hi,rfl⟩:=List.mem_iff_getElem.1 hy
   simp only[List.length_take] at hi
   rw[List.getElem_take] at hm
   exact List.pairwise_iff_getElem.1 (ZdJ hd) i k (by omega) hk' (by omega) hm
  refine (Zji hnew).trans ?_
  rw[List.map_append]
  exact (h1.cons _).trans (List.perm_append_comm (l₁:=[permT π p[k]]))
theorem Zam{π:M}(h:IsPerm π){p:List Za}(hd:Desc p):(permP π p).Perm (p.map (permT π))/\Desc (permP π p):=by
 have:=ZfG h hd p.length (by omega)
 rwa [List.take_length] at this
theorem ZcK{π:M}(h:IsPerm π){p:List Za}(hp:PolOk p):PolOk (permP π p):=by
 obtain⟨h1,h2⟩:=Zam h hp.ord
 refine⟨h2,fun t ht=>?_,by rw[h1.length_eq,List.length_map]; exact hp.len⟩
 obtain⟨y,hy,rfl⟩:=List.mem_map.1 (h1.mem_iff.1 ht)
 exact⟨(hp.trm y hy).c,Zhb (hp.trm y hy).m⟩
end Go.EL

namespace Go.EL
open Go.IntKind (i8 i16 i32 i64 u8 u16 u32 u64)
open Go Go.RowKit
theorem Zkd:(between 0 100 fun n=>match (ZN (u64.wrap n)).ev 30 with|some v=>decide (0<=v/\v<1000000)|none=>false)=true:=by decide +kernel
theorem Zke{n:Nat}(h:n<=100):∃ v,(ZN (u64.wrap (n:Int))).Ret v/\0<=v/\v<1000000:=by
 have:=ZD Zkd (x:=(n:Int)) (by omega) (by omega)
 split at this
 .rename_i v hv
  have:=of_decide_eq_true this
  exact⟨v,Cq.Ret.Zv 30 hv,this.1,this.2⟩
 cases this
theorem Zj7{p:List Za}(h:Desc p){x y:Za}(hx:x ∈ p)(hy:y ∈ p)(e:x.m=y.m):x=y:=by
 obtain⟨i,hi,rfl⟩:=List.mem_iff_getElem.1 hx
 obtain⟨j,hj,rfl⟩:=List.mem_iff_getElem.1 hy
 have key:=List.pairwise_iff_getElem.1 (ZdJ h)
 rcases Nat.lt_trichotomy i j with hij|hij|hij
 .exact absurd e (key i j hi hj hij)
 .subst hij; rfl
 exact absurd e.symm (key j i hj hi hij)
theorem Ziv{p:List Za}(h:Desc p):p.Pairwise fun x y=>¬ cmpM x.m y.m<0:=h.imp fun hp=>by omega
theorem Zik{p ys:List Za}(hd:Desc p)(hp:ys.Perm p)(hs:ys.Pairwise fun x y=>¬ cmpM x.m y.m<0):ys=p:=
 List.Perm.eq_of_pairwise (le:=fun x y:Za=>¬ cmpM x.m y.m<0) (fun a b ha hb h1 h2=>by
  have:=Zal a.m b.m
  exact Zj7 hd (hp.mem_iff.1 ha) hb (Zbn (by omega))) hs (Ziv hd) hp
theorem ZgN{p l:List Za}(hd:Desc p)(hl:p.length<=100)(hp:l.Perm p):(Zt l).Ret p:=by
 have e:=hp.length_eq
 obtain⟨v,h1,h2,h3⟩:=Zke (n:=l.length) (by omega)
 refine⟨v,h1,p,?_,rfl⟩
 refine⟨⟨rfl,rfl,⟨h2,h3⟩,by omega⟩,fun ys ⟨k1,k2⟩=>?_⟩
 exact Zik hd (k1.trans hp) k2
def termOf(q:M×Zf):Za:=⟨q.2,q.1⟩
theorem Zil{p:List Za}(hp:PolOk p){D:List (M×Zf)}(hD:(D.map termOf).Perm p):(Za1 D).Ret p:=by
 have hl:=hp.len
 have e:=hD.length_eq
 rw[List.length_map] at e
 refine⟨⟨by omega,by omega⟩,?_⟩
 show (Cq.next _ _).wp _
 refine Cq.Zg1 (fun s=>(s.1++s.2.map termOf).Perm p) (fun s=>s.2.length) (fun s hs=>?_) _ (by simpa using hD)
 obtain⟨rv,R⟩:=s
 simp only at hs
 have hlen:=hs.length_eq
 simp only[List.length_append,List.length_map] at hlen
 refine⟨fun hR=>?_,fun R1 q R2 hR=>?_⟩
 .subst hR
  rw[List.map_nil,List.append_nil] at hs
  exact⟨_,ZgN hp.ord hl hs,rfl⟩
 subst hR
 have hmem:termOf q ∈ p:=hs.mem_iff.1 (by simp)
 obtain⟨s,h1,h2⟩:=(hp.trm _ hmem).ps
 refine⟨s,h1,?_⟩
 rw[Cq.Zj,if_pos h2]
 simp only[List.length_append,List.length_cons] at hlen
 refine⟨by simp[small]; omega,?_,?_⟩
 .refine List.Perm.trans ?_ hs
  simp only[List.map_append,List.map_cons,List.append_assoc,List.singleton_append]
  refine List.Perm.append_left rv ?_
  exact (List.perm_middle (a:=termOf q) (l₁:=R1.map termOf) (l₂:=R2.map termOf)).symm
 show (R1++R2).length<(R1++q::R2).length
 simp
theorem ZkJ{m:M}(h:Ok m):∀ i,(Lit.int i64 (m i)).wf=true:=fun i=>by
 have:=h i
 simp only[Lit.wf,Bool.and_eq_true,decide_eq_true_eq]
 exact⟨Int.le_trans (by decide) this.1,Int.le_trans this.2 (by decide)⟩
def pairT(π:M)(t:Za):M×Zf:=(permM π t.m,t.c)
theorem Zhm{π:M}(h:IsPerm π){p:List Za}(hp:PolOk p):(ZaN p π).Ret (permP π p,0):=by
 have hl:=hp.len
 show (Cq.next _ _).wp _
 refine Cq.Zs 8 (fun k s=>∃ bx:Fin 8->Bool,s=((k:Int),bx)/\∀ j,bx j=true->∃ i:Fin 8,i.val<k/\(j.val:Int)=π i) (fun k s hk hs=>?_) (fun s hs=>?_) ⟨_,rfl,fun j hj=>by cases hj⟩
 .obtain⟨bx,rfl,hb⟩:=hs
  have r:=h.rng ⟨k,hk⟩
  refine Cq.wp.yes (p:=(k:Int)<8) (by omega) ?_
  refine⟨by omega,?_⟩
  rw[getFN hk,Cq.Zj,if_neg (by omega),Cq.Zj,if_neg (by omega)]
  refine⟨r,?_⟩
  rw[Cq.Zj,if_neg (Zko h hk hb)]
  refine⟨r,?_⟩
  rw[wrapN (by omega)]
  exact⟨_,rfl,ZiY h hk hb⟩
 obtain⟨bx,rfl,hb⟩:=hs
 refine Cq.wp.no (p:=((8:Nat):Int)<8) (by omega) ?_
 show (ZQ p π).wp _
 show (Cq.next _ _).wp _
 refine Cq.Zs p.length (fun k s=>s=((k:Int),(p.take k).map (pairT π))) (fun k s hk hs=>?_) (fun s hs=>?_) (by simp)
 .subst hs
  refine Cq.wp.yes (p:=(k:Int)<(p.length:Int)) (by omega) ?_
  refine⟨p[k],idxN hk,?_⟩
  refine (ZiS h p[k]).then ?_
  have hput:mput ((p.take k).map (pairT π)) (permM π p[k].m) p[k].c=(p.take (k+1)).map (pairT π):=by
   rw[ZbT,<- List.take_append_getElem hk,List.map_append]
   .rfl
   intro q hq e
   obtain⟨y,hy,rfl⟩:=List.mem_map.1 hq
   have hm:=Zgm h e
   obtain⟨i,hi,rfl⟩:=List.mem_iff_getElem.1 hy
   simp only[List.length_take] at hi
   rw[List.getElem_take] at hm
   exact List.pairwise_iff_getElem.1 (ZdJ hp.ord) i k (by omega) hk (by omega) hm
  refine⟨⟨ZkJ (Zhb (hp.at hk).m),?_⟩,?_⟩
  .rw[hput,List.length_map,List.length_take]; simp only[small]; omega
  show _=_
  rw[hput,wrapN (by omega)]
 subst hs
 refine Cq.wp.no (p:=((p.length:Nat):Int)<(p.length:Int)) (by omega) ?_
 refine⟨permP π p,Zil (ZcK h hp) ?_,rfl⟩
 rw[List.take_length,List.map_map]
 exact (Zam h hp.ord).1.symm
end Go.EL

namespace Go.EL
open Go.IntKind (i8 i16 i32 i64 u8 u16 u32 u64)
open Go Go.RowKit
theorem mul_zero(m:M):mulM (fun _=>0) m=m:=by funext i; simp[mulM]
structure MadeOk (K:Int) (n:Nat) (d:Int) (k:Nat) (p:List Za):Prop where
 ord:Desc p
 cof:∀ t ∈ p,∃ c:Int,t.c=ratI c/\c≠0/\-K<=c/\c<=K
 mon:∀ t ∈ p,(∀ i,0<=t.m i)/\(∀ i:Fin 8,n<=i.val->t.m i=0)/\degM t.m<=d
 len:p.length<=k
theorem ZgP{p:List Za}{t y:Za}:y ∈ addT p t->y ∈ p\/y=t\/∃ x ∈ p,x.m=t.m/\valR x.c+valR t.c≠0/\y=⟨ratI (valR x.c+valR t.c),x.m⟩:=by
 induction p with
 | nil=>intro h; simp[addT] at h; exact .inr (.inl h)
 | cons x xs ih=>
  intro h
  simp only[addT] at h
  split at h
  .rcases List.mem_cons.1 h with rfl|h
   .exact .inl (by simp)
   rcases ih h with h|h|⟨z,h1,h2⟩
   .exact .inl (by simp[h])
   .exact .inr (.inl h)
   exact .inr (.inr ⟨z,by simp[h1],h2⟩)
  split at h
  .rcases List.mem_cons.1 h with rfl|h
   .exact .inr (.inl rfl)
   exact .inl h
  have hm:x.m=t.m:=Zbn (by omega)
  split at h
  .exact .inl (by simp[h])
  rename_i hne
  rcases List.mem_cons.1 h with rfl|h
  .exact .inr (.inr ⟨x,by simp,hm,hne,rfl⟩)
  exact .inl (by simp[h])
theorem MadeOk.add{K:Int}{n:Nat}{d:Int}{k:Nat}{p:List Za}(h:MadeOk K n d k p){c:Int}{m:M}(hK:0<=K)(h0:c≠0)(h1:-3<=c)(h2:c<=3)(hm:(∀ i,0<=m i)/\(∀ i:Fin 8,n<=i.val->m i=0)/\degM m<=d):
  MadeOk (K+3) n d (k+1) (addT p ⟨ratI c,m⟩):=by
 refine⟨(Zf7 h.ord).1,fun t ht=>?_,fun t ht=>?_,by have:=ZeN p ⟨ratI c,m⟩; have:=h.len; omega⟩
 .rcases ZgP ht with ht|rfl|⟨x,hx,hxm,hne,rfl⟩
  .obtain⟨a,e,k0,k1,k2⟩:=h.cof t ht
   exact⟨a,e,k0,by omega,by omega⟩
  .exact⟨c,rfl,h0,by omega,by omega⟩
  obtain⟨a,e,k0,k1,k2⟩:=h.cof x hx
  simp only[Zi9,e] at hne ⊢
  exact⟨a+c,rfl,hne,by omega,by omega⟩
 rcases ZgP ht with ht|rfl|⟨x,hx,hxm,hne,rfl⟩
 .exact h.mon t ht
 .exact hm
 exact h.mon x hx
theorem MadeOk.grow{K K':Int}{n:Nat}{d:Int}{k k':Nat}{p:List Za}(h:MadeOk K n d k p)(h1:K<=K')(h2:k<=k'):MadeOk K' n d k' p:=
 ⟨h.ord,fun t ht=>by obtain⟨a,e,k0,k1,k2⟩:=h.cof t ht; exact⟨a,e,k0,by omega,by omega⟩,h.mon,by have:=h.len; omega⟩
end Go.EL

namespace Go.EL
open Go.IntKind (i8 i16 i32 i64 u8 u16 u32 u64)
open Go Go.RowKit
def magI(x:Int):List Int:=if x=0 then [] else [x]
def intI(n:Int):Zb:=⟨decide (n<0),magI (n.natAbs:Int)⟩
theorem ZjL(n:Int):ratI n=⟨intI n,⟨false,[1]⟩⟩:=by
 unfold ratI intI magI
 by_cases h:n=0
 .subst h; rfl
 rw[if_neg h,if_neg (by omega)]
end Go.EL

namespace Go.EL
open Go.IntKind (i8 i16 i32 i64 u8 u16 u32 u64)
open Go Go.RowKit
theorem Zjh{a b:M}(ha:Ok a)(hb:Ok b)(hab:Ok (mulM a b)):(ZcI a b).Ret (mulM a b,0):=by
 show (Cq.next _ _).wp _
 refine Cq.Zs 8 (fun k s=>s=((k:Int),mixM k (mulM a b) a)) (fun k s hk hs=>?_) (fun s hs=>?_) (by rw[ZjB]; rfl)
 .subst hs
  have h1:=ha ⟨k,hk⟩
  have h2:=hb ⟨k,hk⟩
  rw[Cq.Zj,if_pos (by omega)]
  refine⟨by omega,by omega,by omega,?_⟩
  show _=_
  rw[wrapN (by omega),getFN hk,getFN hk,ZkB,wrap64 (by omega)]
  exact congrArg (Prod.mk _) (ZjA (mulM a b) a hk)
 subst hs
 rw[Cq.Zj,if_neg (by omega),Zkf _ _ (by omega)]
 exact⟨true,Zf6 hab,rfl⟩
end Go.EL

namespace Go.EL
open Go.IntKind (i8 i16 i32 i64 u8 u16 u32 u64)
open Go Go.RowKit
def gcdTo:List Za->Nat
 | []=>0
 | t::p=>Nat.gcd (numC t.c).natAbs (gcdTo p)
def sgnP(p:List Za):Int:=match p with
 | []=>1
 | t::_=>if numC t.c<0 then -1 else 1
def quoC(s:Int)(g:Nat)(c:Zf):Zf:=ratI (s*(numC c / (g:Int)))
def primP(p:List Za):List Za:=p.map fun t=>⟨quoC (sgnP p) (gcdTo p) t.c,t.m⟩
theorem Zjy:(between 0 12 fun a=>between (-12) 12 fun b=>runs 60 (Z8 (intI a) (intI b)) (intI (Nat.gcd a.natAbs b.natAbs:Nat)))=true:=by decide +kernel
theorem Zjz:(between 1 12 fun g=>runs 60 (ZbB (intI 1) (intI g)) (⟨intI 1,intI g⟩,0) && runs 60 (ZbB (intI (-1)) (intI g)) (⟨intI (-1),intI g⟩,0))=true:=by decide +kernel
theorem ZiG:(between 1 12 fun g=>between (-12) 12 fun n=>n == 0 || n % g != 0 || (runs 60 (ZY ⟨intI 1,intI g⟩ (ratI n)) (ratI (1*(n / g))) && runs 60 (ZY ⟨intI (-1),intI g⟩ (ratI n)) (ratI (-1*(n / g)))))=true:=by decide +kernel
theorem ZdN:(Z8 (intI 1) ⟨false,[1]⟩).Ret (intI 1)/\(Zad ⟨false,[1]⟩ (intI 1)).Ret (intI 1,intI 0,0)/\(Zb1 (intI 1) (intI 1)).Ret (intI 1)/\(Zdg (intI 1)).Ret (intI (-1)):=⟨Cq.Ret.Zv 60 (by decide +kernel),Cq.Ret.Zv 60 (by decide +kernel),Cq.Ret.Zv 60 (by decide +kernel),Cq.Ret.Zv 60 (by decide +kernel)⟩
theorem ZjO:(between 1 12 fun g=>runs 60 (Zw ⟨intI 1,intI g⟩) 1 && runs 60 (Zw ⟨intI (-1),intI g⟩) (-1) && runs 60 (ZbJ ⟨intI 1,intI g⟩) 1 && runs 60 (ZbJ ⟨intI (-1),intI g⟩) (-1))=true:=by decide +kernel
theorem PolOk.num{p:List Za}(h:PolOk p){t:Za}(ht:t ∈ p):t.c=ratI (numC t.c)/\numC t.c≠0/\-12<=numC t.c/\numC t.c<=12:=by
 obtain⟨⟨n,e,h0,h1,h2⟩,_⟩:=h.trm t ht
 have:numC t.c=n:=by rw[e,Zaj]
 rw[this]
 exact⟨e,h0,h1,h2⟩
theorem PolOk.parts{p:List Za}(h:PolOk p){t:Za}(ht:t ∈ p):t.c.num=intI (numC t.c)/\t.c.den=⟨false,[1]⟩:=by
 obtain⟨⟨n,e,_⟩,_⟩:=h.trm t ht
 have:numC t.c=n:=by rw[e,Zaj]
 rw[this,e,ZjL]
 exact⟨rfl,rfl⟩
theorem PolOk.good{p:List Za}(h:PolOk p):goodP p=true:=by
 have hl:=h.len
 unfold goodP
 rw[Bool.and_eq_true]
 refine⟨decide_eq_true (by omega),List.all_eq_true.2 fun t ht=>?_⟩
 obtain⟨e,h0,h1,h2⟩:=h.num ht
 rw[e]
 exact Zh6 h0 h1 h2
theorem ZcX:∀ {p:List Za}{t:Za},t ∈ p->gcdTo p ∣ (numC t.c).natAbs
 | x::p,t,h=>by
  rcases List.mem_cons.1 h with rfl|h
  .exact Nat.gcd_dvd_left _ _
  exact Nat.dvd_trans (Nat.gcd_dvd_right _ _) (ZcX h)
theorem ZcY{p:List Za}(h:PolOk p)(hne:p≠[]):1<=gcdTo p/\gcdTo p<=12:=by
 match p,hne with
 | t::p,_=>
  have hd:=ZcX (p:=t::p) (t:=t) (by simp)
  obtain⟨e,h0,h1,h2⟩:=h.num (t:=t) (by simp)
  have:=Nat.le_of_dvd (by omega) hd
  have:=Nat.pos_of_dvd_of_pos hd (by omega)
  omega
theorem ZeG{p:List Za}{t:Za}(ht:t ∈ p):numC t.c % (gcdTo p:Int)=0:=Int.emod_eq_zero_of_dvd (Int.ofNat_dvd_left.2 (ZcX ht))
theorem ZhQ(p:List Za):sgnP p=1\/sgnP p = -1:=by
 unfold sgnP
 split
 .exact .inl rfl
 split
 .exact .inr rfl
 exact .inl rfl
theorem Zjr(p:List Za)(k:Nat)(h:k<p.length):gcdTo (p.take (k+1))=Nat.gcd (gcdTo (p.take k)) (numC p[k].c).natAbs:=by
 rw[List.take_succ_eq_append_getElem h]
 generalize p.take k=l
 generalize p[k]=t
 induction l with
 | nil=>simp[gcdTo]
 | cons x l ih=>simp only[List.cons_append,gcdTo,ih]; rw[Nat.gcd_assoc]
theorem Zjq{p:List Za}(h:PolOk p)(k:Nat):gcdTo (p.take k)<=12:=by
 by_cases he:p.take k=[]
 .rw[he]; exact Nat.zero_le _
 have hk:∃ t,t ∈ p.take k:=List.exists_mem_of_ne_nil _ he
 obtain⟨t,ht⟩:=hk
 have hd:=ZcX ht
 obtain⟨_,h0,h1,h2⟩:=h.num (List.mem_of_mem_take ht)
 have:=Nat.le_of_dvd (by omega) hd
 omega
theorem Zkg{m:M}(h:Ok m):Ok (mulM (fun _=>0) m):=by rw[mul_zero]; exact h
theorem ok0:Ok fun _=>0:=fun _=>⟨Int.le_refl 0,(by decide:(0:Int)<=65535)⟩
theorem Zfk{c:Zf}{f:Zf->Zf}{p:List Za}(hl:p.length<=100)(hm:∀ t ∈ p,Ok t.m){s:Int}(hs:(Zw c).Ret s)(h0:s≠0)(hf:∀ t ∈ p,(ZY c t.c).Ret (f t.c)):
  (Zbi c (fun _=>0) p).Ret (p.map fun t=>⟨f t.c,t.m⟩,0):=by
 refine⟨s,hs,Cq.wp.no h0 ⟨⟨by omega,by omega⟩,?_⟩⟩
 refine Cq.Zs p.length (fun k s=>s=((p.take k).map fun t=>⟨f t.c,t.m⟩,(k:Int))) (fun k s hk hs=>?_) (fun s hs=>?_) rfl
 .subst hs
  refine Cq.wp.yes (by omega) ⟨p[k],idxN hk,_,Zjh ok0 (hm _ (List.getElem_mem hk)) (Zkg (hm _ (List.getElem_mem hk))),Cq.wp.no (fun h=>h rfl) ⟨_,hf _ (List.getElem_mem hk),?_,?_⟩⟩
  .simp only[List.length_append,List.length_map,List.length_take,List.length_singleton,small]; omega
  show _=_
  rw[wrapN (by omega),mul_zero,List.take_succ_eq_append_getElem hk,List.map_append]
  rfl
 subst hs
 refine Cq.wp.no (by omega) ?_
 show _=_
 rw[List.take_of_length_le (Nat.le_refl _)]
theorem PolOk.mono{p:List Za}(h:PolOk p):∀ t ∈ p,Ok t.m:=fun t ht=>(h.trm t ht).m
theorem Zjw{p:List Za}(hne:0<p.length):(p[0]'hne) ∈ p:=List.getElem_mem hne
theorem ZiZ{p:List Za}(hne:0<p.length):sgnP p=if numC (p[0]'hne).c<0 then -1 else 1:=by
 match p,hne with
 | t::p,_=>rfl
theorem Zdx{p:List Za}(h:PolOk p)(hne:p≠[]):(Za5 p).Ret (primP p):=by
 have hl:=h.len
 have h0:0<p.length:=List.length_pos_iff.2 hne
 obtain⟨g1,g2⟩:=ZcY h hne
 refine Cq.wp.no (by omega) ⟨intI 0,Cq.Ret.Zv 20 (by decide +kernel),intI 1,Cq.Ret.Zv 20 (by decide +kernel),?_⟩
 show (Zdo p (0,intI 0,intI 1)).wp _
 refine Cq.Zs p.length (fun k s=>s=((k:Int),intI (gcdTo (p.take k):Int),intI 1)) (fun k s hk hs=>?_) (fun s hs=>?_) rfl
 .subst hs
  obtain⟨e,n0,n1,n2⟩:=h.num (List.getElem_mem hk)
  obtain⟨en,ed⟩:=h.parts (List.getElem_mem hk)
  have hg:=Zjq h k
  have hr:=ZD (ZD Zjy (x:=(gcdTo (p.take k):Int)) (by omega) (by omega)) n1 n2
  refine Cq.wp.yes (by omega) ⟨p[k],idxN hk,intI (Nat.gcd (gcdTo (p.take k):Int).natAbs (numC p[k].c).natAbs:Nat),(by rw[en]; exact Z0 hr),intI 1,(by rw[ed]; exact ZdN.1),(intI 1,intI 0,0),(by rw[ed]; exact ZdN.2.1),intI 1,ZdN.2.2.1,?_⟩
  show _=_
  rw[wrapN (by omega),Zjr p k hk]
  simp only[Int.natAbs_natCast]
 subst hs
 refine Cq.wp.no (by omega) ?_
 rw[List.take_of_length_le (Nat.le_refl _)]
 show (Zae p (intI (gcdTo p:Int)) (intI 1)).Ret _
 unfold Zae
 obtain⟨e,n0,n1,n2⟩:=h.num (Zjw h0)
 have hs:=ZD Zgp n1 n2
 rw[show (numC p[0].c == 0)=false by simpa using n0,Bool.false_or] at hs
 have hn:=ZD Zjz (x:=(gcdTo p:Int)) (by omega) (by omega)
 have hq:=ZD ZjO (x:=(gcdTo p:Int)) (by omega) (by omega)
 simp only[Bool.and_eq_true] at hn hq
 have hm:∀ t ∈ p,(ZY ⟨intI 1,intI (gcdTo p:Int)⟩ t.c).Ret (quoC 1 (gcdTo p) t.c)/\(ZY ⟨intI (-1),intI (gcdTo p:Int)⟩ t.c).Ret (quoC (-1) (gcdTo p) t.c):=fun t ht=>by
  obtain⟨e,n0,n1,n2⟩:=h.num ht
  have:=ZD (ZD ZiG (x:=(gcdTo p:Int)) (by omega) (by omega)) n1 n2
  rw[show (numC t.c == 0)=false by simpa using n0,show (numC t.c % (gcdTo p:Int) != 0)=false by simpa using ZeG ht,Bool.false_or,Bool.false_or,Bool.and_eq_true] at this
  unfold quoC
  rw[e,Zaj]
  exact⟨Z0 this.1,Z0 this.2⟩
 refine⟨p[0],⟨by omega,by simp[h0]⟩,_,(by rw[e]; exact Z0 hs),?_⟩
 unfold primP
 rw[ZiZ h0]
 by_cases hneg:numC p[0].c<0
 .rw[if_pos hneg,if_pos hneg]
  refine Cq.wp.yes (by decide) ⟨_,ZdN.2.2.2,?_⟩
  exact⟨_,Z0 hn.2,_,Zfk hl h.mono (Z0 hq.1.1.2) (by decide) (fun t ht=>(hm t ht).2),rfl⟩
 rw[if_neg hneg,if_neg hneg,if_neg n0]
 refine Cq.wp.no (by decide) ?_
 exact⟨_,Z0 hn.1,_,Zfk hl h.mono (Z0 hq.1.1.1) (by decide) (fun t ht=>(hm t ht).1),rfl⟩
end Go.EL

namespace Go.EL
open Go.IntKind (i8 i16 i32 i64 u8 u16 u32 u64)
open Go Go.RowKit
theorem Zg5(s:Int)(g:Nat)(c:Zf):numC (quoC s g c)=s*(numC c / (g:Int)):=Zaj _
theorem ZiW{n:Int}{g:Nat}(hg:1<=g)(hd:n % (g:Int)=0)(h0:n≠0):n / (g:Int)≠0:=fun h=>by
 have:=Int.mul_ediv_add_emod n g
 rw[h,hd] at this
 simp at this
 exact h0 this.symm
theorem ZkC{n:Int}{g:Nat}(hg:1<=g)(h1:-12<=n)(h2:n<=12):-12<=n / (g:Int)/\n / (g:Int)<=12:=by
 refine⟨(Int.le_ediv_iff_mul_le (by omega)).2 ?_,Int.le_trans (Int.ediv_le_ediv (by omega) h2) (Int.ediv_le_self _ (by decide))⟩
 have:(g:Int)*12 ≥ 12:=by omega
 omega
theorem Zfe(p:List Za):(primP p).length=p.length:=List.length_map _
theorem ZdT{p:List Za}:primP p=[]↔p=[]:=by unfold primP; simp
theorem ZjJ{p:List Za}{t:Za}(h:t ∈ primP p):∃ x ∈ p,t=⟨quoC (sgnP p) (gcdTo p) x.c,x.m⟩:=by
 obtain⟨x,h1,h2⟩:=List.mem_map.1 h
 exact⟨x,h1,h2.symm⟩
theorem ZeF{p:List Za}(h:PolOk p):PolOk (primP p) where
 ord:=by
  unfold primP
  rw[List.pairwise_map]
  exact h.ord
 trm:=fun t ht=>by
  obtain⟨x,hx,rfl⟩:=ZjJ ht
  have hne:p≠[]:=fun e=>by rw[e] at hx; cases hx
  obtain⟨g1,g2⟩:=ZcY h hne
  obtain⟨e,n0,n1,n2⟩:=h.num hx
  have q0:=ZiW g1 (ZeG hx) n0
  obtain⟨q1,q2⟩:=ZkC (g:=gcdTo p) g1 n1 n2
  refine⟨⟨_,rfl,?_,?_,?_⟩,h.mono x hx⟩
  all_goals rcases ZhQ p with s|s <;> rw[s] <;> omega
 len:=by rw[Zfe]; exact h.len
theorem ZfI(p:List Za):∀ k,degPTo (primP p) k=degPTo p k
 | 0=>rfl
 | k+1=>by
  unfold degPTo
  rw[ZfI p k]
  unfold primP
  rw[List.getElem?_map]
  cases p[k]? <;> rfl
theorem ZbW(p:List Za):degP (primP p)=degP p:=by unfold degP; rw[Zfe,ZfI]
theorem ZeX(p:List Za):∀ k,usesTo (primP p) k=usesTo p k
 | 0=>rfl
 | k+1=>by
  unfold usesTo
  rw[ZeX p k]
  unfold primP
  rw[List.getElem?_map]
  cases p[k]? <;> rfl
theorem ZiV(p:List Za):usesP (primP p)=usesP p:=by unfold usesP; rw[Zfe,ZeX]
theorem Zhc(p:List Za)(n:Int):fitB (primP p) n=fitB p n:=by unfold fitB; rw[ZiV,ZbW]
theorem Zgf{s:Int}(hs:s=1\/s = -1){g:Nat}(hg:1<=g):∀ {p:List Za},(∀ t ∈ p,numC t.c % (g:Int)=0)->gcdTo (p.map fun t=>⟨quoC s g t.c,t.m⟩)*g=gcdTo p
 | [],_=>Nat.zero_mul _
 | t::p,h=>by
  have ih:=Zgf hs hg (p:=p) (fun x hx=>h x (by simp[hx]))
  have ht:=h t (by simp)
  simp only[List.map_cons,gcdTo]
  rw[<- ih,<- Nat.gcd_mul_right,Zg5]
  congr 1
  have e1:(s*(numC t.c / (g:Int))).natAbs=(numC t.c / (g:Int)).natAbs:=by rcases hs with rfl|rfl <;> simp
  rw[e1]
  have e2:=Int.mul_ediv_add_emod (numC t.c) g
  rw[ht,Int.add_zero] at e2
  rw[<- e2,Int.natAbs_mul,e2,Int.natAbs_natCast,Nat.mul_comm]
theorem ZjI{p:List Za}(h:PolOk p)(hne:p≠[]):gcdTo (primP p)=1:=by
 obtain⟨g1,g2⟩:=ZcY h hne
 have:=Zgf (ZhQ p) g1 (p:=p) (fun t ht=>ZeG ht)
 exact Nat.eq_of_mul_eq_mul_right g1 (by rw[Nat.one_mul]; exact this)
theorem ZjK{p:List Za}(h:PolOk p):sgnP (primP p)=1:=by
 match p,h with
 | [],_=>rfl
 | t::q,h=>
  obtain⟨e,n0,n1,n2⟩:=h.num (t:=t) (by simp)
  obtain⟨g1,g2⟩:=ZcY h (by simp)
  have hd:=ZeG (p:=t::q) (t:=t) (by simp)
  show (if numC (quoC _ _ t.c)<0 then (-1:Int) else 1)=1
  rw[Zg5,if_neg]
  have q0:=ZiW g1 hd n0
  have e2:=Int.mul_ediv_add_emod (numC t.c) (gcdTo (t::q))
  rw[hd,Int.add_zero] at e2
  unfold sgnP
  dsimp only
  generalize gcdTo (t::q)=g at *
  generalize numC t.c / (g:Int)=z at *
  by_cases hn:numC t.c<0
  .rw[if_pos hn]
   have:¬ 0<z:=fun hz=>by
    have:=Int.mul_pos (show (0:Int)<(g:Int) by omega) hz
    omega
   omega
  rw[if_neg hn]
  have:¬ z<0:=fun hz=>by
   have:=Int.mul_neg_of_pos_of_neg (show (0:Int)<(g:Int) by omega) hz
   omega
  omega
theorem Zkm{p:List Za}(h:PolOk p){t:Za}(ht:t ∈ p):quoC 1 1 t.c=t.c:=by
 obtain⟨e,_⟩:=h.num ht
 unfold quoC
 rw[Int.one_mul,Int.natCast_one,Int.ediv_one]
 exact e.symm
theorem Zgo{p:List Za}(h:PolOk p):primP (primP p)=primP p:=by
 by_cases hne:p=[]
 .subst hne; rfl
 have ho:=ZeF h
 show (primP p).map (fun t=>(⟨quoC (sgnP (primP p)) (gcdTo (primP p)) t.c,t.m⟩:Za))=primP p
 rw[ZjI h hne,ZjK h]
 refine (List.map_congr_left fun t ht=>?_).trans (List.map_id _)
 rw[Zkm ho ht]
 rfl
def Strict(l:List (List Za)):Prop:=l.Pairwise fun a b=>cmpP a b<0
theorem ZgS:∀ {l:List (List Za)}{x:List Za},(x::l).Pairwise (fun a b=>cmpP a b<=0)->(∀ p ∈ x::l,goodP p=true)->Strict (x::dedG x l)/\∀ z,z ∈ x::dedG x l↔z ∈ x::l
 | [],x,_,_=>⟨List.pairwise_singleton _ _,fun _=>Iff.rfl⟩
 | y::l,x,h,hg=>by
  obtain⟨a1,a2⟩:=List.pairwise_cons.1 h
  obtain⟨i1,i2⟩:=ZgS a2 (fun p hp=>hg p (by simp at hp ⊢; exact .inr hp))
  unfold dedG
  by_cases e:cmpP y x=0
  .rw[if_pos e]
   have:y=x:=Zej (hg y (by simp)) (hg x (by simp)) e
   subst this
   refine⟨i1,fun z=>?_⟩
   rw[i2 z]
   simp
  rw[if_neg e]
  have hxy:cmpP x y<0:=by
   have:=a1 y (by simp)
   have:=ZR x y
   omega
  refine⟨List.pairwise_cons.2 ⟨fun z hz=>?_,i1⟩,fun z=>?_⟩
  .rcases List.mem_cons.1 hz with rfl|hz'
   .exact hxy
   exact (ZaT x y z (by omega) (by have:=(List.pairwise_cons.1 i1).1 z hz'; omega)).2 (.inl hxy)
  have:=i2 z
  simp only[List.mem_cons] at this ⊢
  rw[this]
def srtP(l:List (List Za)):List (List Za):=dedP (ordP l)
theorem ZjQ{l:List (List Za)}(hg:∀ p ∈ l,goodP p=true):Strict (srtP l)/\∀ z,z ∈ srtP l↔z ∈ l:=by
 have hm:∀ z,z ∈ ordP l↔z ∈ l:=fun z=>(Zak l).mem_iff
 have hs:=Zdj l
 unfold srtP
 generalize ordP l=m at *
 match m,hm,hs with
 | [],hm,_=>exact⟨List.Pairwise.nil,hm⟩
 | x::m,hm,hs=>
  obtain⟨q1,q2⟩:=ZgS hs (fun p hp=>hg p ((hm p).1 hp))
  exact⟨q1,fun z=>(q2 z).trans (hm z)⟩
theorem ZhR(l:List (List Za)):(srtP l).length<=l.length:=Nat.le_trans ZgR (Nat.le_of_eq (Zak l).length_eq)
end Go.EL

namespace Go.EL
open Go.IntKind (i8 i16 i32 i64 u8 u16 u32 u64)
open Go Go.RowKit
def keepP(plain:Bool)(q:List Za):Bool:=!q.isEmpty && !(plain && decide (degP q=0))
theorem Zim{v:List (List Za)}{y:List Za}(hs:Strict v){k:Nat}(hk:k<=v.length)(h1:∀ i (h:i<v.length),i<k->cmpP v[i] y<0)(h2:∀ h:k<v.length,0<cmpP v[k] y):
  Strict (v.take k++([y]++v.drop k))/\∀ z,z ∈ v.take k++([y]++v.drop k)↔z ∈ v\/z=y:=by
 have hd:∀ z ∈ v.drop k,0<cmpP z y:=fun z hz=>by
  obtain⟨j,hj,rfl⟩:=List.getElem_of_mem hz
  rw[List.length_drop] at hj
  have hk':k<v.length:=by omega
  rw[List.getElem_drop]
  have q:=h2 hk'
  by_cases e:j=0
  .subst e; exact q
  have:=List.pairwise_iff_getElem.1 hs k (k+j) hk' (by omega) (by omega)
  have n1:=ZR v[k] y
  have n2:=ZR v[k+j] y
  have:=(ZaT y v[k] v[k+j] (by omega) (by omega)).2 (.inl (by omega))
  omega
 refine⟨?_,fun z=>?_⟩
 .unfold Strict
  rw[List.pairwise_append]
  have hs':((v.take k)++v.drop k).Pairwise fun a b=>cmpP a b<0:=by rw[List.take_append_drop]; exact hs
  obtain⟨q1,q2,q3⟩:=List.pairwise_append.1 hs'
  refine⟨q1,?_,fun a ha b hb=>?_⟩
  .refine List.pairwise_cons.2 ⟨fun z hz=>?_,q2⟩
   have:=hd z hz
   have:=ZR z y
   omega
  rcases List.mem_cons.1 hb with rfl|hb
  .obtain⟨j,hj,rfl⟩:=List.getElem_of_mem ha
   rw[List.length_take] at hj
   rw[List.getElem_take]
   exact h1 j (by omega) (by omega)
  exact q3 a ha b hb
 have:z ∈ v↔z ∈ v.take k\/z ∈ v.drop k:=by rw[<- List.mem_append,List.take_append_drop]
 rw[this]
 simp only[List.mem_append,List.mem_cons,List.not_mem_nil,or_false,List.singleton_append]
 constructor
 .rintro (h|h|h)
  .exact .inl (.inl h)
  .exact .inr h
  exact .inl (.inr h)
 rintro ((h|h)|h)
 .exact .inl h
 .exact .inr (.inr h)
 exact .inr (.inl h)
def kept(l:List (List Za))(plain:Bool):List (List Za):=(l.map primP).filter (keepP plain)
theorem Zgj{l:List (List Za)}(h:∀ p ∈ l,PolOk p){plain:Bool}:∀ q ∈ kept l plain,PolOk q:=fun q hq=>by
 obtain⟨p,hp,rfl⟩:=List.mem_map.1 (List.mem_filter.1 hq).1
 exact ZeF (h p hp)
theorem Zeq(l:List (List Za))(plain:Bool){k:Nat}(hk:k<l.length):kept (l.take (k+1)) plain=kept (l.take k) plain++(if keepP plain (primP l[k])=true then [primP l[k]] else []):=by
 unfold kept
 rw[List.take_succ_eq_append_getElem hk,List.map_append,List.filter_append]
 congr 1
 simp only[List.map_cons,List.map_nil,List.filter_cons,List.filter_nil]
structure SrtI (l:List (List Za)) (plain:Bool) (k:Nat) (v:List (List Za)):Prop where
 st:Strict v
 mem:∀ z,z ∈ v↔z ∈ kept (l.take k) plain
 len:v.length<=k
theorem SrtI.put{l:List (List Za)}{plain:Bool}{k:Nat}{v:List (List Za)}(h:SrtI l plain k v)(hk:k<l.length)(hn:keepP plain (primP l[k])=true){j:Nat}(hj:j<=v.length)(h1:∀ i (h:i<v.length),i<j->cmpP v[i] (primP l[k])<0)(h2:∀ h:j<v.length,0<cmpP v[j] (primP l[k])):
  SrtI l plain (k+1) (v.take j++([primP l[k]]++v.drop j)):=by
 obtain⟨q1,q2⟩:=Zim h.st hj h1 h2
 refine⟨q1,fun z=>?_,?_⟩
 .rw[q2 z,h.mem z,Zeq l plain hk,hn,if_pos rfl,List.mem_append,List.mem_singleton]
 have:=h.len
 simp only[List.length_append,List.length_take,List.length_drop,List.length_singleton]
 omega
end Go.EL

namespace Go.EL
open Go.IntKind (i8 i16 i32 i64 u8 u16 u32 u64)
open Go Go.RowKit
def letterB(b:Int):Bool:=decide (65<=b/\b<=90) || decide (97<=b/\b<=122)
def restB(b:Int):Bool:=decide (48<=b/\b<=57) || decide (b=95)
def charB(i:Nat)(b:Int):Bool:=letterB b || (decide (0<i) && restB b)
def nameB(s:ByteArray):Bool:=decide (1<=s.size/\s.size<=12) && (List.range s.size).all fun i=>charB i (byteAt s (i:Int))
theorem ZeE{s:ByteArray}{i:Nat}(hi:i<s.size)(h:charB i (byteAt s (i:Int))=false):nameB s=false:=by
 unfold nameB
 rw[Bool.and_eq_false_iff]
 right
 rw[List.all_eq_false]
 exact⟨i,List.mem_range.2 hi,by rw[h]; decide⟩
theorem Zg3{s:ByteArray}(h1:1<=s.size/\s.size<=12)(h:∀ i,i<s.size->charB i (byteAt s (i:Int))=true):nameB s=true:=by
 unfold nameB
 rw[decide_eq_true h1,Bool.true_and,List.all_eq_true]
 exact fun i hi=>h i (List.mem_range.1 hi)
theorem ZfC(b:Int):(Zbr b).Ret (letterB b):=by
 unfold Zbr letterB
 by_cases h1:65<=b <;> by_cases h2:b<=90 <;> by_cases h3:97<=b <;> simp[h1,h2,h3] <;> first|rfl|omega
theorem Zib(b:Int):(Zbb b).Ret (restB b):=by
 unfold Zbb restB
 by_cases h1:48<=b <;> by_cases h2:b<=57 <;> simp[h1,h2] <;> first|rfl|omega
theorem Ze4(s:ByteArray):(ZbK s).Ret (nameB s):=by
 unfold ZbK
 by_cases h1:(s.size:Int)<1
 .rw[if_pos h1]
  show false=nameB s
  unfold nameB
  rw[decide_eq_false (by omega),Bool.false_and]
 rw[if_neg h1]
 by_cases h2:12<(s.size:Int)
 .rw[if_pos h2]
  show false=nameB s
  unfold nameB
  rw[decide_eq_false (by omega),Bool.false_and]
 rw[if_neg h2]
 refine⟨by omega,_,ZfC _,?_⟩
 rw[Cq.Zj]
 cases h3:letterB (byteAt s 0) with
 | false=>
  rw[if_pos (by decide)]
  exact (ZeE (i:=0) (by omega) (by unfold charB; rw[show ((0:Nat):Int)=0 from rfl,h3]; simp)).symm
 | true=>
  rw[if_neg (by decide)]
  show (Cq.next _ _).wp _
  refine Cq.Zs (s.size-1) (fun k st=>st=((k+1:Nat):Int)/\∀ i,i<k+1->charB i (byteAt s (i:Int))=true) (fun k st hk hs=>?_) (fun st hs=>?_) ⟨rfl,fun i hi=>?_⟩
  .obtain⟨rfl,hi⟩:=hs
   have hstep:∀ {b:Int},b=byteAt s ((k+1:Nat):Int)->charB (k+1) b=true->∀ i,i<k+1+1->charB i (byteAt s (i:Int))=true:=by
    intro b hb hc i hik
    by_cases e:i=k+1
    .subst e; rw[<- hb]; exact hc
    exact hi i (by omega)
   rw[Cq.Zj,if_pos (by omega)]
   refine⟨by omega,_,ZfC _,?_⟩
   cases h4:letterB (byteAt s ((k+1:Nat):Int)) with
   | true=>exact⟨wrapN (by omega),hstep rfl (by unfold charB; rw[h4]; rfl)⟩
   | false=>
    have hno:restB (byteAt s ((k+1:Nat):Int))=false->false=nameB s:=fun h=>(ZeE (i:=k+1) (by omega) (by unfold charB; rw[h4,h]; simp)).symm
    have hyes:restB (byteAt s ((k+1:Nat):Int))=true->∀ i,i<k+1+1->charB i (byteAt s (i:Int))=true:=fun h=>hstep rfl (by unfold charB; rw[h4,h]; simp)
    refine⟨by omega,?_⟩
    rw[Cq.Zj]
    unfold restB at hno hyes
    split
    .refine⟨by omega,?_⟩
     rw[Cq.Zj]
     split
     .rename_i a b
      exact⟨wrapN (by omega),hyes (by rw[decide_eq_true ⟨a,b⟩]; rfl)⟩
     rename_i a b
     refine⟨by omega,?_⟩
     rw[Cq.Zj]
     split
     .rename_i c
      exact hno (by rw[decide_eq_false (fun h=>b h.2),decide_eq_false c]; rfl)
     rename_i c
     exact⟨wrapN (by omega),hyes (by rw[decide_eq_true (Classical.not_not.1 c)]; simp)⟩
    rename_i a
    refine⟨by omega,?_⟩
    rw[Cq.Zj]
    split
    .rename_i c
     exact hno (by rw[decide_eq_false (fun h=>a h.1),decide_eq_false c]; rfl)
    rename_i c
    exact⟨wrapN (by omega),hyes (by rw[decide_eq_true (Classical.not_not.1 c)]; simp)⟩
  .obtain⟨rfl,hi⟩:=hs
   rw[Cq.Zj,if_neg (by omega)]
   exact (Zg3 (by omega) fun i hik=>hi i (by omega)).symm
  obtain rfl:i=0:=by omega
  unfold charB
  rw[show ((0:Nat):Int)=0 from rfl,h3]; rfl
theorem ZgX(s:ByteArray)(i:Nat):((s.get! i).toNat:Int)=byteAt s (i:Int):=by
 unfold byteAt
 simp only[Int.toNat_natCast]
 congr 2
theorem Zh5{s:ByteArray}{p:Nat}(h:byteAt s (p:Int)<128):((Utf8.decode s p).1:Int)=byteAt s (p:Int)/\(Utf8.decode s p).2=1:=by
 have hb:=ZgX s p
 unfold Utf8.decode
 simp only[Nat.add_zero]
 rw[if_pos (by omega)]
 exact⟨hb,rfl⟩
theorem decode_high{s:ByteArray}{p:Nat}(h:128<=byteAt s (p:Int)):128<=((Utf8.decode s p).1:Int):=by
 have hb:=ZgX s p
 unfold Utf8.decode
 simp only[Nat.add_zero,Utf8.runeError]
 rw[if_neg (by omega)]
 split
 .split
  .rename_i h; omega
  omega
 split
 .split
  .rename_i h; simp at h; omega
  omega
 split
 .split
  .rename_i h; simp at h; omega
  omega
 omega
theorem Zdi{b:Int}(h:128<=b):letterB b=false:=by unfold letterB; rw[decide_eq_false (by omega),decide_eq_false (by omega)]; rfl
theorem Zez{b:Int}(h:128<=b):restB b=false:=by unfold restB; rw[decide_eq_false (by omega),decide_eq_false (by omega)]; rfl
theorem Zia(s:ByteArray):(Zba s).Ret (nameB s):=by
 unfold Zba
 by_cases h1:(s.size:Int)<1
 .rw[if_pos h1]
  show false=nameB s
  unfold nameB
  rw[decide_eq_false (by omega),Bool.false_and]
 rw[if_neg h1]
 by_cases h2:12<(s.size:Int)
 .rw[if_pos h2]
  show false=nameB s
  unfold nameB
  rw[decide_eq_false (by omega),Bool.false_and]
 rw[if_neg h2]
 show (Cq.next _ _).wp _
 refine Cq.Zs s.size (fun k st=>st=k/\∀ i,i<k->charB i (byteAt s (i:Int))=true) (fun k st hk hs=>?_) (fun st hs=>?_) ⟨rfl,fun i hi=>by omega⟩
 .obtain⟨rfl,hi⟩:=hs
  have hstep:charB st (byteAt s (st:Int))=true->∀ i,i<st+1->charB i (byteAt s (i:Int))=true:=by
   intro hc i hik
   by_cases e:i=st
   .subst e; exact hc
   exact hi i (by omega)
  have hrune:letterB ((Utf8.decode s st).1:Int)=letterB (byteAt s (st:Int))/\restB ((Utf8.decode s st).1:Int)=restB (byteAt s (st:Int))/\(byteAt s (st:Int)<128->(Utf8.decode s st).2=1):=by
   by_cases hb:byteAt s (st:Int)<128
   .obtain⟨e1,e2⟩:=Zh5 hb
    rw[e1]; exact⟨rfl,rfl,fun _=>e2⟩
   have hd:=decode_high (s:=s) (p:=st) (by omega)
   rw[Zdi hd,Zez hd,Zdi (by omega),Zez (by omega)]
   exact⟨rfl,rfl,fun h=>absurd h hb⟩
  obtain⟨e1,e2,e3⟩:=hrune
  have hk3:(Zy s st (letterB ((Utf8.decode s st).1:Int))).wp (Out (fun s'=>s'=st+1/\∀ i,i<st+1->charB i (byteAt s (i:Int))=true) (fun ov=>(match ov with | .inl rv1=>Cq.ret rv1 | .inr ()=>Z1:Cq Bool).wp fun a=>a=nameB s)):=by
   unfold Zy
   rw[e1]
   have hlow:letterB (byteAt s (st:Int))=true\/restB (byteAt s (st:Int))=true->(Utf8.decode s st).2=1:=fun h=>e3 (by
    by_cases hb:byteAt s (st:Int)<128
    .exact hb
    rw[Zdi (by omega),Zez (by omega)] at h; simp at h)
   cases hl:letterB (byteAt s (st:Int)) with
   | true=>
    rw[if_pos rfl]
    exact⟨by rw[hlow (.inl hl)],hstep (by unfold charB; rw[hl]; rfl)⟩
   | false=>
    rw[if_neg (by decide),Cq.Zj]
    split
    .rename_i h0
     obtain rfl:st=0:=by omega
     exact (ZeE (i:=0) (by omega) (by unfold charB; rw[hl]; simp)).symm
    rename_i h0
    refine⟨_,Zib _,?_⟩
    rw[e2,Cq.Zj]
    cases hr:restB (byteAt s (st:Int)) with
    | false=>
     rw[if_pos (by decide)]
     exact (ZeE (i:=st) hk (by unfold charB; rw[hl,hr]; simp)).symm
    | true=>
     rw[if_neg (by decide)]
     exact⟨by rw[hlow (.inr hr)],hstep (by unfold charB; rw[hl,hr,decide_eq_true (by omega)]; rfl)⟩
  have hlet:∀ {b:Bool},letterB ((Utf8.decode s st).1:Int)=b->(Zy s st b).wp (Out (fun s'=>s'=st+1/\∀ i,i<st+1->charB i (byteAt s (i:Int))=true) (fun ov=>(match ov with | .inl rv1=>Cq.ret rv1 | .inr ()=>Z1:Cq Bool).wp fun a=>a=nameB s)):=fun h=>by subst h; exact hk3
  show (if st<s.size then _ else _:Cq _).wp _
  rw[Cq.Zj,if_pos hk]
  generalize ((Utf8.decode s st).1:Int)=c at *
  rw[Cq.Zj]
  split
  .rename_i a
   rw[Cq.Zj]
   split
   .rename_i b
    exact hlet (by unfold letterB; rw[decide_eq_true ⟨a,b⟩]; rfl)
   rename_i b
   rw[Cq.Zj]
   split
   .rename_i d
    refine hlet ?_
    unfold letterB
    rw[decide_eq_false (fun h=>b h.2),Bool.false_or]
    exact decide_eq_decide.2 ⟨fun h=>h.2,fun h=>⟨d,h⟩⟩
   rename_i d
   exact hlet (by unfold letterB; rw[decide_eq_false (fun h=>b h.2),decide_eq_false (fun h=>d h.1)]; rfl)
  rename_i a
  rw[Cq.Zj]
  split
  .rename_i d
   omega
  rename_i d
  exact hlet (by unfold letterB; rw[decide_eq_false (fun h=>a h.1),decide_eq_false (fun h=>d h.1)]; rfl)
 obtain⟨rfl,hi⟩:=hs
 refine Cq.wp.no (p:=s.size<s.size) (by omega) ?_
 exact (Zg3 (by omega) hi).symm
end Go.EL

namespace Go.EL
open Go.IntKind (i8 i16 i32 i64 u8 u16 u32 u64)
open Go Go.RowKit
structure EqsOk (n:Nat) (next:Int) (l:List Zn):Prop where
 len:l.length<=12
 ids:∀ q ∈ l,1<=q.id/\q.id<next
 inc:l.Pairwise fun a b=>a.id<b.id
 pol:∀ q ∈ l,PolOk q.p/\fitB q.p (n:Int)=true
structure Good (s:Zo):Prop where
 vars:s.vars.length<=4
 name:∀ v ∈ s.vars,nameB v=true
 diff:s.vars.Pairwise fun a b=>a≠b
 next:1<=s.next/\s.next<=1000000
 eqs:EqsOk s.vars.length s.next s.eqs
 neqs:EqsOk s.vars.length s.next s.neqs
 apart:∀ a ∈ s.eqs,∀ b ∈ s.neqs,a.id≠b.id
def idKey(l:List Int):List (Int×Bool):=l.map fun i=>(i,true)
theorem Zgi{l:List Int}{i:Int}(h:i ∉ l):mput (idKey l) i true=idKey (l++[i])/\mget (idKey l) i=none:=by
 have hn:∀ p ∈ idKey l,p.1≠i:=fun p hp e=>by
  obtain⟨j,hj,rfl⟩:=List.mem_map.1 hp
  exact h (e ▸ hj)
 exact⟨by rw[ZbT hn]; simp[idKey],ZdQ hn⟩
def idsOf(l:List Zn):List Int:=l.map (·.id)
theorem ZfT{l:List Zn}(h:l.Pairwise fun a b=>a.id<b.id){k:Nat}(hk:k<l.length):l[k].id ∉ idsOf (l.take k):=fun hm=>by
 obtain⟨q,hq,e⟩:=List.mem_map.1 hm
 obtain⟨i,hi,rfl⟩:=List.mem_iff_getElem.1 hq
 simp only[List.length_take] at hi
 rw[List.getElem_take] at e
 have:=List.pairwise_iff_getElem.1 h i k (by omega) hk (by omega)
 omega
def nameKey(l:List ByteArray):List (ByteArray×Bool):=l.map fun i=>(i,true)
theorem Zhv{l:List ByteArray}{i:ByteArray}(h:i ∉ l):mput (nameKey l) i true=nameKey (l++[i])/\mget (nameKey l) i=none:=by
 have hn:∀ p ∈ nameKey l,p.1≠i:=fun p hp e=>by
  obtain⟨j,hj,rfl⟩:=List.mem_map.1 hp
  exact h (e ▸ hj)
 exact⟨by rw[ZbT hn]; simp[nameKey],ZdQ hn⟩
theorem ZiL{v:ByteArray}(h:nameB v=true):v.size<=12:=by
 unfold nameB at h
 rw[Bool.and_eq_true,decide_eq_true_eq] at h
 exact h.1.2
end Go.EL

namespace Go.EL
open Go.IntKind (i8 i16 i32 i64 u8 u16 u32 u64)
open Go Go.RowKit
abbrev Pol:=List Za
instance decTermS:DecidableEq Za:=fun ⟨a1,a2⟩ ⟨b1,b2⟩=>decidable_of_iff (a1=b1/\a2=b2) (by simp)
def oneP:Pol:=[⟨ratI 1,fun _=>0⟩]
def zeroK:Ze:=⟨0,[],[]⟩
def onesF(l:List Pol):List Pol:=(l.filter fun p=>p.isEmpty).map fun _=>oneP
def eqsF(eqs neqs:List Pol):List Pol:=kept eqs false++onesF neqs
def normF(n:Int)(eqs neqs:List Pol):Ze×Int:=
 if 1<=n/\n<=4 then
  if (eqs++neqs).all (fun p=>fitB p n)=true then
   if 12<(srtP (eqsF eqs neqs)).length then (zeroK,2)
   else if 12<(srtP (kept neqs true)).length then (zeroK,2)
   else (⟨n,srtP (eqsF eqs neqs),srtP (kept neqs true)⟩,0)
  else (zeroK,1)
 else (zeroK,1)
theorem ZiN:PolOk oneP where
 ord:=List.pairwise_singleton _ _
 trm:=fun t ht=>by rw[oneP,List.mem_singleton] at ht; subst ht; exact⟨⟨1,rfl,by decide,by decide,by decide⟩,ok0⟩
 len:=by decide
theorem ZjD:primP oneP=oneP:=by decide +kernel
theorem Zg8{l:List Pol}:∀ p ∈ onesF l,p=oneP:=fun p hp=>by
 obtain⟨_,_,h⟩:=List.mem_map.1 hp
 exact h.symm
theorem Zg7(l:List Pol):(onesF l).length<=l.length:=by unfold onesF; rw[List.length_map]; exact List.length_filter_le _ _
theorem Zbf(l:List Pol)(plain:Bool):(kept l plain).length<=l.length:=by unfold kept; exact Nat.le_trans (List.length_filter_le _ _) (Nat.le_of_eq (List.length_map _))
theorem Zjn(a b:List Pol):(eqsF a b).length<=a.length+b.length:=by
 have:=Zbf a false
 have:=Zg7 b
 unfold eqsF
 rw[List.length_append]
 omega
theorem Zj9{a b:List Pol}(ha:∀ p ∈ a,PolOk p):∀ p ∈ eqsF a b,PolOk p:=fun p hp=>by
 rcases List.mem_append.1 hp with h|h
 .exact Zgj ha p h
 rw[Zg8 p h]; exact ZiN
theorem ZdI{p:Pol}(h:PolOk p)(hne:p≠[]):0<=degP p:=by
 obtain⟨t,ht⟩:=List.exists_mem_of_ne_nil _ hne
 by_cases hd:degP p<=-1
 .have:=(Zcs (by decide)).1 hd t ht
  have h0:=(Ze7 (h.trm t ht).m 8).1
  unfold degM at this
  omega
 omega
theorem Zh3{a b:List Pol}(ha:a.length<=100)(hb:b.length<=100):(ZK [a,b]).Ret (a++b):=by
 refine Cq.Zs 2 (fun k s=>s=(if k=0 then 0 else if k=1 then (a.length:Int) else (a.length:Int)+(b.length:Int),(k:Int))) (fun k s hk hs=>?_) (fun s hs=>?_) rfl
 .subst hs
  have e:k=0\/k=1:=by omega
  rcases e with rfl|rfl
  .refine Cq.wp.yes (by show (0:Int)<2; decide) ⟨a,⟨by decide,rfl⟩,?_⟩
   have:i64.wrap (0+(a.length:Int))=(a.length:Int):=by rw[wrap64 (by omega)]; omega
   refine Cq.wp.no (by rw[if_pos rfl,this]; omega) ?_
   show _=_
   rw[if_pos rfl,this]; rfl
  refine Cq.wp.yes (by show (1:Int)<2; decide) ⟨b,⟨by decide,rfl⟩,?_⟩
  have:i64.wrap ((a.length:Int)+(b.length:Int))=(a.length:Int)+(b.length:Int):=by rw[wrap64 (by omega)]
  refine Cq.wp.no (by rw[if_neg (by decide),if_pos rfl,this]; omega) ?_
  show _=_
  rw[if_neg (by decide),if_pos rfl,this]; rfl
 subst hs
 refine Cq.wp.no (by show ¬ (2:Int)<2; decide) ?_
 refine⟨[],⟨⟨?_,?_⟩,rfl⟩,?_⟩
 .rw[if_neg (by decide),if_neg (by decide)]; omega
 .rw[if_neg (by decide),if_neg (by decide)]; omega
 refine Cq.Zs 2 (fun k s=>s=(if k=0 then [] else if k=1 then a else a++b,(k:Int))) (fun k s hk hs=>?_) (fun s hs=>?_) rfl
 .subst hs
  have e:k=0\/k=1:=by omega
  rcases e with rfl|rfl
  .refine Cq.wp.yes (by show (0:Int)<2; decide) ⟨a,⟨by decide,rfl⟩,?_,?_⟩
   .rw[if_pos rfl,List.nil_append]; simp only[small]; omega
   show _=_
   rw[if_pos rfl,List.nil_append]; rfl
  refine Cq.wp.yes (by show (1:Int)<2; decide) ⟨b,⟨by decide,rfl⟩,?_,?_⟩
  .rw[if_neg (by decide),if_pos rfl,List.length_append]; simp only[small]; omega
  show _=_
  rw[if_neg (by decide),if_pos rfl]; rfl
 subst hs
 refine Cq.wp.no (by show ¬ (2:Int)<2; decide) ?_
 show _=_
 rw[if_neg (by decide),if_neg (by decide)]
theorem ZiM{n:Int}(h:1<=n/\n<=4):∃ m:Nat,n=(m:Int)/\1<=m/\m<=4:=⟨n.toNat,by omega,by omega,by omega⟩
theorem pWhole1:(ZbX 1).Ret (ratI 1):=Cq.Ret.Zv 20 (by decide +kernel)
theorem pConst1:(Zaw (ratI 1)).Ret oneP:=Cq.Ret.Zv 20 (by decide +kernel)
theorem ZeZ{l:List Pol}(hl:l.length<=100)(h:∀ p ∈ l,PolOk p):(Zbc l).Ret (srtP l):=⟨⟨hl,List.all_eq_true.2 fun p hp=>(h p hp).good⟩,rfl⟩
theorem Zid(l:List Pol){k:Nat}(hk:k<l.length):onesF (l.take (k+1))=onesF (l.take k)++(if l[k]=[] then [oneP] else []):=by
 unfold onesF
 rw[List.take_succ_eq_append_getElem hk,List.filter_append,List.map_append]
 congr 1
 rw[List.filter_cons]
 by_cases h:l[k]=[]
 .rw[if_pos (by simpa using h),if_pos h]; rfl
 rw[if_neg (by simpa using h),if_neg h]; rfl
theorem Zhr{n:Int}{eqs neqs:List Pol}(le:eqs.length<=40)(ln:neqs.length<=40)(he:∀ p ∈ eqs,PolOk p)(hn:∀ p ∈ neqs,PolOk p):(ZS n eqs neqs).Ret (normF n eqs neqs):=by
 unfold normF
 by_cases h1:n<1
 .rw[if_neg (show ¬(1<=n/\n<=4) by omega)]; exact Cq.wp.yes h1 rfl
 refine Cq.wp.no h1 ?_
 by_cases h4:4<n
 .rw[if_neg (show ¬(1<=n/\n<=4) by omega)]; exact Cq.wp.yes h4 rfl
 refine Cq.wp.no h4 ?_
 rw[if_pos ⟨by omega,by omega⟩]
 obtain⟨m,rfl,m1,m4⟩:=ZiM ⟨show 1<=n by omega,by omega⟩
 have hall:∀ p ∈ eqs++neqs,PolOk p:=fun p hp=>(List.mem_append.1 hp).elim (he p) (hn p)
 refine⟨eqs++neqs,Zh3 (by omega) (by omega),?_⟩
 have hlen:(eqs++neqs).length<=100:=by rw[List.length_append]; omega
 generalize hl:eqs++neqs=l at *
 refine (ZcN (m:Int) l (0,zeroK)).mono (p:=fun o=>match o with | .inl v=>v=(zeroK,1)/\(l.all fun p=>fitB p (m:Int))=false | .inr _=>(l.all fun p=>fitB p (m:Int))=true) (fun o h=>?_) (Cq.Zs l.length (fun k s=>s=((k:Int),zeroK)/\∀ i (h:i<l.length),i<k->fitB l[i] (m:Int)=true) ?_ ?_ ⟨rfl,fun i _ h=>absurd h (Nat.not_lt_zero _)⟩)
 rotate_left
 .rintro k s hk ⟨rfl,h1⟩
  refine Cq.wp.yes (by omega) ⟨_,idxN hk,_,Zc9 (hall _ (List.getElem_mem hk)) (by omega),?_⟩
  by_cases hf:fitB l[k] (m:Int)=true
  .rw[hf]
   refine Cq.wp.no (by decide) ⟨by rw[wrapN (by omega)],fun i hi hik=>?_⟩
   by_cases e:i=k
   .subst e; exact hf
   exact h1 i hi (by omega)
  rw[Bool.eq_false_iff.2 hf]
  refine Cq.wp.yes (by decide) ⟨rfl,Bool.eq_false_iff.2 fun ha=>?_⟩
  exact hf (List.all_eq_true.1 ha _ (List.getElem_mem hk))
 .rintro s ⟨rfl,h1⟩
  refine Cq.wp.no (by omega) ?_
  refine List.all_eq_true.2 fun p hp=>?_
  obtain⟨i,hi,rfl⟩:=List.getElem_of_mem hp
  exact h1 i hi hi
 match o,h with
 | .inl v,⟨hv,hf⟩=>rw[hf,if_neg (by decide)]; exact hv
 | .inr _,ha=>
  rw[if_pos ha]
  show (Zat (m:Int) eqs neqs).Ret _
  refine Cq.Zs eqs.length (fun k s=>s=(kept (eqs.take k) false,(k:Int))) (fun k s hk hs=>?_) (fun s hs=>?_) rfl
  .subst hs
   refine Cq.wp.yes (by omega) ⟨_,idxN hk,?_⟩
   have hs:=Zeq eqs false hk
   have:=Zbf (eqs.take k) false
   rw[List.length_take] at this
   by_cases h0:eqs[k]=[]
   .refine Cq.wp.no (by rw[h0]; decide) ?_
    show _=_
    rw[hs,h0,if_neg (by decide),List.append_nil,wrapN (by omega)]
   have hp:0<eqs[k].length:=List.length_pos_iff.2 h0
   refine Cq.wp.yes (by omega) ⟨_,Zdx (he _ (List.getElem_mem hk)) h0,?_,?_⟩
   .rw[List.length_append,List.length_singleton]; simp only[small]; omega
   show _=_
   have hk:keepP false (primP eqs[k])=true:=by
    have:(primP eqs[k]).isEmpty=false:=by simpa using fun e=>h0 (ZdT.1 e)
    unfold keepP; rw[this]; rfl
   rw[hs,hk,if_pos rfl,wrapN (by omega)]
  subst hs
  refine Cq.wp.no (by omega) ?_
  rw[List.take_of_length_le (Nat.le_refl _)]
  show (Zas (m:Int) neqs (kept eqs false)).Ret _
  refine Cq.Zs neqs.length (fun k s=>s=(kept eqs false++onesF (neqs.take k),kept (neqs.take k) true,(k:Int))) (fun k s hk hs=>?_) (fun s hs=>?_) (by show _=_; rw[List.take_zero]; show _=(kept eqs false++[],_,_); rw[List.append_nil]; rfl)
  .subst hs
   have hs:=Zeq neqs true hk
   have ho:=Zid neqs hk
   have l1:=Zbf (neqs.take k) true
   have l2:=Zbf eqs false
   have l3:=Zg7 (neqs.take k)
   rw[List.length_take] at l1 l3
   refine Cq.wp.yes (by omega) ⟨_,idxN hk,?_⟩
   by_cases h0:neqs[k]=[]
   .refine Cq.wp.yes (by rw[h0]; rfl) ⟨_,pWhole1,_,pConst1,?_,?_⟩
    .rw[List.length_append,List.length_append,List.length_singleton]; simp only[small]; omega
    show _=_
    rw[hs,ho,h0,if_pos rfl,if_neg (by decide),List.append_nil,wrapN (by omega),List.append_assoc]
   have hp:0<neqs[k].length:=List.length_pos_iff.2 h0
   have hok:=hn _ (List.getElem_mem hk)
   have hne:(primP neqs[k]).isEmpty=false:=by simpa using fun e=>h0 (ZdT.1 e)
   have hnn:=ZdI hok h0
   refine Cq.wp.no (by omega) ⟨_,Zb0 hok,?_⟩
   by_cases hd:0<degP neqs[k]
   .refine Cq.wp.yes hd ⟨_,Zdx hok h0,?_,?_⟩
    .rw[List.length_append,List.length_singleton]; simp only[small]; omega
    show _=_
    have hk:keepP true (primP neqs[k])=true:=by unfold keepP; rw[hne,ZbW,decide_eq_false (by omega)]; rfl
    rw[hs,ho,if_neg h0,hk,if_pos rfl,wrapN (by omega),List.append_nil]
   refine Cq.wp.no hd ?_
   show _=_
   have hk:keepP true (primP neqs[k])=false:=by unfold keepP; rw[ZbW,decide_eq_true (by omega)]; simp
   rw[hs,ho,if_neg h0,hk,if_neg (by decide),wrapN (by omega),List.append_nil,List.append_nil]
  subst hs
  refine Cq.wp.no (by omega) ?_
  rw[List.take_of_length_le (Nat.le_refl _)]
  show (Zar (m:Int) (eqsF eqs neqs) (kept neqs true)).Ret _
  have l1:=Zjn eqs neqs
  have l2:=Zbf neqs true
  refine⟨_,ZeZ (by omega) (Zj9 he),_,ZeZ (by omega) (Zgj hn),?_⟩
  by_cases q1:12<(srtP (eqsF eqs neqs)).length
  .rw[if_pos q1]; exact Cq.wp.yes (by omega) rfl
  rw[if_neg q1]
  refine Cq.wp.no (by omega) ?_
  by_cases q2:12<(srtP (kept neqs true)).length
  .rw[if_pos q2]; exact Cq.wp.yes (by omega) rfl
  rw[if_neg q2]; exact Cq.wp.no (by omega) rfl
end Go.EL

namespace Go.EL
open Go.IntKind (i8 i16 i32 i64 u8 u16 u32 u64)
open Go Go.RowKit
theorem Zg4:∀ (f:Nat) (n:Int),(natG f n).length<=f+1
 | 0,_=>by simp[natG]
 | f+1,n=>by
  unfold natG
  split
  .have:=Zg4 f (u64.wrap (Int.tdiv n 128)); rw[List.length_cons]; omega
  simp
theorem ZcJ(n:Int):(natW n).length<=11:=Zg4 10 n
theorem Zja(d:Int):(wordW d).length=4:=rfl
theorem ZdL{α:Type}{f:α->List Int}{K:Nat}:∀ {l:List α},(∀ x ∈ l,(f x).length<=K)->(l.flatMap f).length<=K*l.length
 | [],_=>Nat.le_refl _
 | x::l,h=>by
  have h1:=h x (by simp)
  have h2:=ZdL (l:=l) (fun y hy=>h y (by simp[hy]))
  rw[List.flatMap_cons,List.length_append,List.length_cons,Nat.mul_succ]
  omega
theorem ZgY{a:Zb}(h:a.mag.length<=1):(intW a).length<=15:=by
 unfold intW
 rw[List.length_append]
 have h1:=ZcJ (if a.neg=true then u64.wrap (u64.wrap (2*u64.wrap (a.mag.length:Int))+1) else u64.wrap (2*u64.wrap (a.mag.length:Int)))
 have h2:=ZdL (K:=4) (l:=a.mag) (f:=wordW) (fun x _=>Nat.le_of_eq (Zja x))
 omega
theorem PolOk.mags{p:Pol}(h:PolOk p){t:Za}(ht:t ∈ p):t.c.num.mag.length<=1/\t.c.den.mag.length<=1:=by
 obtain⟨e1,e2⟩:=h.parts ht
 rw[e1,e2]
 refine⟨?_,Nat.le_refl 1⟩
 show (magI _).length<=1
 unfold magI
 split <;> simp
theorem ZjM{p:Pol}(h:PolOk p){t:Za}(ht:t ∈ p):(ratW t.c).length<=30:=by
 obtain⟨h1,h2⟩:=h.mags ht
 have:=ZgY h1
 have:=ZgY h2
 unfold ratW
 rw[List.length_append]
 omega
theorem Zg2(m:M):∀ k,(monW m k).length<=11*k
 | 0=>Nat.le_refl _
 | k+1=>by
  have:=Zg2 m k
  have:=ZcJ (u64.wrap (getF m (k:Int)))
  unfold monW
  rw[List.length_append]
  omega
theorem Zi6{p:Pol}(h:PolOk p){t:Za}(ht:t ∈ p):(termW t).length<=118:=by
 have:=ZjM h ht
 have:=Zg2 t.m 8
 unfold termW
 rw[List.length_append]
 omega
theorem ZiU{p:Pol}(h:PolOk p):(polyW p).length<=11811:=by
 have h1:=ZcJ (u64.wrap (p.length:Int))
 have h2:=ZdL (f:=termW) (K:=118) (fun t ht=>Zi6 h ht)
 have h3:=h.len
 have:118*p.length<=11800:=by omega
 unfold polyW
 rw[List.length_append]
 omega
theorem ZfH{l:List Pol}(h:∀ p ∈ l,PolOk p)(hl:l.length<=12):(polysW l).length<=150000:=by
 have h1:=ZcJ (u64.wrap (l.length:Int))
 have h2:=ZdL (f:=polyW) (K:=11811) (fun p hp=>ZiU (h p hp))
 have:11811*l.length<=141732:=by omega
 unfold polysW
 rw[List.length_append]
 omega
structure PartOk (n:Int) (least:Int) (l:List Pol):Prop where
 len:l.length<=12
 pol:∀ p ∈ l,PolOk p/\fitB p n=true/\p≠[]/\primP p=p/\least<=degP p
 st:Strict l
structure CoreOk (k:Ze):Prop where
 n:1<=k.n/\k.n<=4
 eqs:PartOk k.n 0 k.eqs
 neqs:PartOk k.n 1 k.neqs
theorem ZjC(n:Int):(numW n).length<=11:=ZcJ _
theorem Ziu{k:Ze}(h:CoreOk k):(coreW k).length<=1000000:=by
 have h1:=ZjC k.n
 have h2:=ZfH (fun p hp=>(h.eqs.pol p hp).1) h.eqs.len
 have h3:=ZfH (fun p hp=>(h.neqs.pol p hp).1) h.neqs.len
 unfold coreW
 simp only[List.length_append]
 omega
theorem Ziz{p:Pol}{n:Int}(h:fitB p n=true):(Int.fdiv (i64.wrap (usesP p)) (2 ^ (min n.toNat i64.bits)))=0/\degP p<=12:=by
 unfold fitB at h
 split at h
 .exact⟨‹_›,of_decide_eq_true h⟩
 cases h
theorem Zi2{l:List Pol}(h:Strict l){k:Nat}(hk:k+1<l.length):cmpP l[k] l[k+1]<0:=List.pairwise_iff_getElem.1 h k (k+1) (by omega) hk (by omega)
theorem ZeY{k:Ze}(hn:1<=k.n/\k.n<=4){least:Int}{l:List Pol}(h:PartOk k.n least l):(_eliminant_claim_rules_sorted ⟨k⟩ l least).Ret true:=by
 have hl:=h.len
 refine Cq.wp.no (by omega) ?_
 refine Cq.Zs l.length (fun j s=>s=(j:Int)) (fun j s hj hs=>?_) (fun s hs=>?_) rfl
 .subst hs
  obtain⟨q1,q2,q3,q4,q5⟩:=h.pol _ (List.getElem_mem hj)
  obtain⟨f1,f2⟩:=Ziz q2
  refine Cq.wp.yes (by omega) ⟨_,idxN hj,true,⟨true,Zbz q1,_,ZgO q1.len,by show 0<=k.n; omega,Cq.wp.yes f1 ⟨_,Zb0 q1,decide_eq_true f2⟩⟩,_,Zb0 q1,Cq.wp.no (by omega) ⟨_,Zdx q1 q3,true,?_,Cq.wp.no (by decide) ?_⟩⟩
  .rw[q4]
   have:=Zd7 q1.good q1.good
   rw[ZcV] at this
   exact this
  by_cases h0:(0:Int)<(j:Int)
  .obtain⟨i,rfl⟩:∃ i,j=i+1:=⟨j-1,by omega⟩
   have hi:i64.wrap (((i+1:Nat):Int)-1)=(i:Int):=by rw[wrap64 (by omega)]; omega
   have hc:=Zi2 h.st hj
   refine Cq.wp.yes h0 ?_
   rw[hi]
   refine⟨_,idxN (by omega),_,ZgB (h.pol _ (List.getElem_mem (by omega))).1.good q1.good,Cq.wp.no (by omega) ?_⟩
   exact wrapN (by omega)
  exact Cq.wp.no h0 (wrapN (by omega))
 subst hs
 exact Cq.wp.no (by omega) rfl
theorem ZhZ{k:Ze}(h:CoreOk k):(Zdf k).Ret true:=
 ⟨true,Cq.wp.yes h.n.1 (Cq.wp.yes h.n.2 ⟨true,ZeY h.n h.eqs,true,ZeY h.n h.neqs,rfl⟩),rfl⟩
def keyB(k:Ze):ByteArray:=bytesOf (coreW k)
theorem ZjX{k:Ze}(h:CoreOk k):(Zeh k).Ret (keyB k):=⟨true,ZhZ h,⟨by have:=h.n; omega,Ziu h⟩,rfl⟩
end Go.EL

namespace Go.EL
open Go.IntKind (i8 i16 i32 i64 u8 u16 u32 u64)
open Go Go.RowKit
structure PermN (n:Nat) (π:M):Prop where
 perm:IsPerm π
 fix:∀ i:Fin 8,n<=i.val->π i=(i.val:Int)
def permNB(n:Nat)(π:M):Bool:=decide (∀ i,0<=π i/\π i<8) && decide (∀ i j,π i=π j->i=j) && decide (∀ i:Fin 8,n<=i.val->π i=(i.val:Int))
theorem PermN.of{n:Nat}{π:M}(h:permNB n π=true):PermN n π:=by
 unfold permNB at h
 simp only[Bool.and_eq_true,decide_eq_true_eq] at h
 exact⟨⟨h.1.1,h.1.2⟩,h.2⟩
theorem ZiT:((permsL 1).all (permNB 1) && (permsL 2).all (permNB 2) && (permsL 3).all (permNB 3) && (permsL 4).all (permNB 4))=true:=by decide +kernel
theorem ZjH{n:Nat}(h:1<=n/\n<=4){π:M}(hp:π ∈ permsL n):PermN n π:=by
 have:=ZiT
 simp only[Bool.and_eq_true,List.all_eq_true] at this
 obtain⟨⟨⟨h1,h2⟩,h3⟩,h4⟩:=this
 have hn:n=1\/n=2\/n=3\/n=4:=by omega
 rcases hn with rfl|rfl|rfl|rfl
 .exact .of (h1 π hp)
 .exact .of (h2 π hp)
 .exact .of (h3 π hp)
 exact .of (h4 π hp)
theorem Zif{n:Nat}:permsL n=(fun i:Fin 8=>(i.val:Int))::(permsL n).tail:=rfl
theorem ZiA{n:Nat}(hn:n<=8){π:M}(h:PermN n π){p:Pol}(hp:PolOk p)(hf:fitB p (n:Int)=true):fitB (permP π p) (n:Int)=true:=by
 obtain⟨h1,h2⟩:=(Ze9 hn).1 hf
 refine (Ze9 hn).2 ⟨fun t ht i hi=>?_,fun t ht=>?_⟩
 .obtain⟨y,hy,rfl⟩:=List.mem_map.1 ((Zam h.perm hp.ord).1.mem_iff.1 ht)
  show ¬ 0<permM π y.m i
  rw[Zfd h.perm y.m i i (h.fix i hi).symm]
  exact h1 y hy i hi
 obtain⟨y,hy,rfl⟩:=List.mem_map.1 ((Zam h.perm hp.ord).1.mem_iff.1 ht)
 show degM (permM π y.m)<=12
 rw[Zek h.perm]
 exact h2 y hy
theorem ZiR{π:M}(h:IsPerm π){p:Pol}(hp:PolOk p):(permP π p).length=p.length:=by
 rw[(Zam h hp.ord).1.length_eq,List.length_map]
theorem ZjG{π:M}(h:IsPerm π){p:Pol}(hp:PolOk p)(hne:p≠[]):permP π p≠[]:=fun e=>by
 have:=ZiR h hp
 rw[e] at this
 exact hne (List.length_eq_zero_iff.1 this.symm)
theorem Zj6{p q:Pol}(hp:PolOk p)(hq:PolOk q)(h:∀ d,-1<=d->((∀ t ∈ p,degM t.m<=d)↔∀ t ∈ q,degM t.m<=d)):degP p=degP q:=by
 have low:∀ r:Pol,-1<=degP r:=fun r=>by
  have key:∀ k,-1<=degPTo r k:=by
   intro k
   induction k with
   | zero=>exact Int.le_refl _
   | succ k ih=>
    unfold degPTo
    split
    .split <;> omega
    exact ih
  exact key _
 have h1:=(Zcs (low q)).2 ((h _ (low q)).2 ((Zcs (low q)).1 (Int.le_refl _)))
 have h2:=(Zcs (low p)).2 ((h _ (low p)).1 ((Zcs (low p)).1 (Int.le_refl _)))
 omega
theorem ZiQ{π:M}(h:IsPerm π){p:Pol}(hp:PolOk p):degP (permP π p)=degP p:=by
 refine Zj6 (ZcK h hp) hp (fun d _=>⟨fun hd t ht=>?_,fun hd t ht=>?_⟩)
 .have:=hd (permT π t) ((Zam h hp.ord).1.mem_iff.2 (List.mem_map.2 ⟨t,ht,rfl⟩))
  have e:degM (permT π t).m=degM t.m:=Zek h t.m
  omega
 obtain⟨y,hy,rfl⟩:=List.mem_map.1 ((Zam h hp.ord).1.mem_iff.1 ht)
 have:=hd y hy
 have e:degM (permT π y).m=degM y.m:=Zek h y.m
 omega
theorem Zki{n:Nat}(h:n<=4):fitB oneP (n:Int)=true:=(Ze9 (by omega)).2 ⟨fun t ht i _=>by rw[oneP,List.mem_singleton] at ht; subst ht; exact Int.lt_irrefl 0,fun t ht=>by rw[oneP,List.mem_singleton] at ht; subst ht; decide⟩
theorem Zkh:degP oneP=0:=by decide
theorem Zg0{l:List Pol}{plain:Bool}{q:Pol}(h:q ∈ kept l plain):∃ p ∈ l,q=primP p/\p≠[]/\(plain=true->degP p≠0):=by
 obtain⟨h1,h2⟩:=List.mem_filter.1 h
 obtain⟨p,hp,rfl⟩:=List.mem_map.1 h1
 unfold keepP at h2
 simp only[Bool.and_eq_true,Bool.not_eq_true',Bool.and_eq_false_iff] at h2
 refine⟨p,hp,rfl,fun e=>?_,fun e=>?_⟩
 .rw[e] at h2; cases h2.1
 rcases h2.2 with h2|h2
 .rw[e] at h2; cases h2
 rw[ZbW] at h2; exact of_decide_eq_false h2
theorem ZhN{n:Nat}(hn:n<=4){least:Int}{l:List Pol}(hl:(srtP l).length<=12)(h:∀ p ∈ l,PolOk p/\fitB p (n:Int)=true/\p≠[]/\primP p=p/\least<=degP p):PartOk (n:Int) least (srtP l):=by
 obtain⟨s1,s2⟩:=ZjQ (l:=l) (fun p hp=>(h p hp).1.good)
 exact⟨hl,fun p hp=>h p ((s2 p).1 hp),s1⟩
theorem Zj5{n:Nat}(hn:1<=n/\n<=4){eqs neqs:List Pol}(he:∀ p ∈ eqs,PolOk p/\fitB p (n:Int)=true)(hi:∀ p ∈ neqs,PolOk p/\fitB p (n:Int)=true)(l1:(srtP (eqsF eqs neqs)).length<=12)(l2:(srtP (kept neqs true)).length<=12):
  CoreOk ⟨(n:Int),srtP (eqsF eqs neqs),srtP (kept neqs true)⟩ where
 n:=by show 1<=(n:Int)/\(n:Int)<=4; omega
 eqs:=ZhN hn.2 l1 fun p hp=>by
  rcases List.mem_append.1 hp with h|h
  .obtain⟨q,hq,rfl,h0,_⟩:=Zg0 h
   have ho:=(he q hq).1
   exact⟨ZeF ho,by rw[Zhc]; exact (he q hq).2,fun e=>h0 (ZdT.1 e),Zgo ho,by rw[ZbW]; exact ZdI ho h0⟩
  rw[Zg8 p h]
  exact⟨ZiN,Zki hn.2,by decide,ZjD,by rw[Zkh]; decide⟩
 neqs:=ZhN hn.2 l2 fun p hp=>by
  obtain⟨q,hq,rfl,h0,h1⟩:=Zg0 hp
  have ho:=(hi q hq).1
  have:=ZdI ho h0
  have:=h1 rfl
  exact⟨ZeF ho,by rw[Zhc]; exact (hi q hq).2,fun e=>h0 (ZdT.1 e),Zgo ho,by rw[ZbW]; omega⟩
def permK(k:Ze)(π:M):Ze:=(normF k.n (k.eqs.map (permP π)) (k.neqs.map (permP π))).1
theorem Zgl{l:List Pol}(h:∀ p ∈ l,p≠[]):onesF l=[]:=by
 unfold onesF
 rw[List.filter_eq_nil_iff.2 fun p hp=>by simpa using h p hp]
 rfl
structure Perm1 (k:Ze) (π:M):Prop where
 norm:normF k.n (k.eqs.map (permP π)) (k.neqs.map (permP π))=(permK k π,0)
 eq:permK k π=⟨k.n,srtP (eqsF (k.eqs.map (permP π)) (k.neqs.map (permP π))),srtP (kept (k.neqs.map (permP π)) true)⟩
 core:CoreOk (permK k π)
theorem ZiK{l:List Pol}{n:Nat}{least:Int}(hn:n<=4)(h:PartOk (n:Int) least l){π:M}(hπ:PermN n π):∀ p ∈ l.map (permP π),PolOk p/\fitB p (n:Int)=true/\p≠[]/\least<=degP p:=fun p hp=>by
 obtain⟨q,hq,rfl⟩:=List.mem_map.1 hp
 obtain⟨q1,q2,q3,q4,q5⟩:=h.pol q hq
 exact⟨ZcK hπ.perm q1,ZiA (by omega) hπ q1 q2,ZjG hπ.perm q1 q3,by rw[ZiQ hπ.perm q1]; exact q5⟩
theorem perm1{k:Ze}(h:CoreOk k){π:M}(hπ:PermN k.n.toNat π):Perm1 k π:=by
 obtain⟨n,eqs,neqs⟩:=k
 obtain⟨m,rfl,m1,m4⟩:=ZiM h.n
 dsimp only at hπ ⊢
 rw[Int.toNat_natCast] at hπ
 have he:=ZiK m4 h.eqs hπ
 have hi:=ZiK m4 h.neqs hπ
 have l1:(srtP (eqsF (eqs.map (permP π)) (neqs.map (permP π)))).length<=12:=by
  have q1:=ZhR (eqsF (eqs.map (permP π)) (neqs.map (permP π)))
  have q2:=Zbf (eqs.map (permP π)) false
  have q3:=h.eqs.len
  unfold eqsF at q1
  rw[Zgl (fun p hp=>(hi p hp).2.2.1),List.append_nil] at q1
  unfold eqsF
  rw[Zgl (fun p hp=>(hi p hp).2.2.1),List.append_nil]
  rw[List.length_map] at q2
  dsimp only at q3
  omega
 have l2:(srtP (kept (neqs.map (permP π)) true)).length<=12:=by
  have q1:=ZhR (kept (neqs.map (permP π)) true)
  have q2:=Zbf (neqs.map (permP π)) true
  have q3:=h.neqs.len
  rw[List.length_map] at q2
  dsimp only at q3
  omega
 have hc:=Zj5 ⟨m1,m4⟩ (fun p hp=>⟨(he p hp).1,(he p hp).2.1⟩) (fun p hp=>⟨(hi p hp).1,(hi p hp).2.1⟩) l1 l2
 have hall:(eqs.map (permP π)++neqs.map (permP π)).all (fun p=>fitB p (m:Int))=true:=List.all_eq_true.2 fun p hp=>(List.mem_append.1 hp).elim (fun h=>(he p h).2.1) (fun h=>(hi p h).2.1)
 have hN:normF (m:Int) (eqs.map (permP π)) (neqs.map (permP π))=(⟨(m:Int),srtP (eqsF (eqs.map (permP π)) (neqs.map (permP π))),srtP (kept (neqs.map (permP π)) true)⟩,0):=by
  unfold normF
  rw[if_pos ⟨by omega,by omega⟩,if_pos hall,if_neg (by omega),if_neg (by omega)]
 have hE:permK ⟨(m:Int),eqs,neqs⟩ π=⟨(m:Int),srtP (eqsF (eqs.map (permP π)) (neqs.map (permP π))),srtP (kept (neqs.map (permP π)) true)⟩:=by
  unfold permK
  dsimp only
  rw[hN]
 exact⟨by rw[hN,hE],hE,by rw[hE]; exact hc⟩
theorem Zex{l:List Pol}(hl:l.length<=100)(h:∀ p ∈ l,PolOk p){π:M}(hπ:IsPerm π):(ZaH l π).Ret (l.map (permP π)):=by
 refine⟨⟨by omega,by omega⟩,?_⟩
 refine Cq.Zs l.length (fun k s=>s=((l.take k).map (permP π)++List.replicate (l.length-k) [],(k:Int))) (fun k s hk hs=>?_) (fun s hs=>?_) (by show _=_; simp)
 .subst hs
  have hlen:((l.take k).map (permP π)++List.replicate (l.length-k) ([]:Pol)).length=l.length:=by simp; omega
  refine Cq.wp.yes (by omega) ⟨_,idxN hk,_,Zhm hπ (h _ (List.getElem_mem hk)),_,idxN (by rw[hlen]; exact hk),?_⟩
  show _=_
  rw[wrapN (by omega),Int.toNat_natCast,List.take_succ_eq_append_getElem hk,List.map_append,List.map_singleton]
  congr 1
  rw[List.set_append,if_neg (by rw[List.length_map,List.length_take]; omega)]
  have e:l.length-k=(l.length-(k+1))+1:=by omega
  have hk2:k-((l.take k).map (permP π)).length=0:=by simp; omega
  rw[hk2,e,List.replicate_succ,List.set_cons_zero,List.append_assoc]
  rfl
 subst hs
 refine Cq.wp.no (by omega) ?_
 show _=_
 rw[List.take_of_length_le (Nat.le_refl _)]
 simp
def bestF(k:Ze):List M->Ze×M->Ze×M
 | [],s=>s
 | π::l,s=>bestF k l (if Op.bytesLess (keyB (permK k π)).toList (keyB s.1).toList=true then (permK k π,π) else s)
def canonF(k:Ze):Ze×M:=bestF k (permsL k.n.toNat).tail (permK k (fun i=>(i.val:Int)),fun i=>(i.val:Int))
theorem Zh1(l:List Int):(bytesOf l).size=l.length:=by
 have key:∀ (l:List Int) (b:ByteArray),(l.foldl (fun r n=>r.push (UInt8.ofNat n.toNat)) b).size=b.size+l.length:=by
  intro l
  induction l with
  | nil=>intro b; rfl
  | cons x l ih=>intro b; rw[List.foldl_cons,ih,ByteArray.size_push,List.length_cons]; omega
 have:=key l ByteArray.empty
 unfold bytesOf
 rw[this]
 simp
theorem ZkA(k:Ze):keyB k≠ByteArray.empty:=fun e=>by
 have h1:=Zh1 (coreW k)
 have h2:(keyB k).size=0:=by rw[e]; rfl
 unfold keyB at h2
 rw[h1] at h2
 have:1<=(numW k.n).length:=by
  unfold numW natW natG
  split <;> simp
 unfold coreW at h2
 simp only[List.length_append] at h2
 omega
theorem Zfv{k:Ze}(h:CoreOk k){π:M}(hπ:PermN k.n.toNat π){s:Ze×M×ByteArray}:
  (canonS k π s).Ret (if s.2.2=ByteArray.empty then (permK k π,π,keyB (permK k π)) else if Op.bytesLess (keyB (permK k π)).toList s.2.2.toList=true then (permK k π,π,keyB (permK k π)) else s):=by
 have l1:=h.eqs.len
 have l2:=h.neqs.len
 have hp:=perm1 h hπ
 refine⟨_,Zex (by omega) (fun p hp=>(h.eqs.pol p hp).1) hπ.perm,_,Zex (by omega) (fun p hp=>(h.neqs.pol p hp).1) hπ.perm,(permK k π,0),?_,Cq.wp.no (fun h=>h rfl) ⟨_,ZjX hp.core,?_⟩⟩
 .rw[<- hp.norm]
  refine Zhr (by rw[List.length_map]; omega) (by rw[List.length_map]; omega) (fun p hp=>?_) (fun p hp=>?_)
  .obtain⟨q,hq,rfl⟩:=List.mem_map.1 hp
   exact ZcK hπ.perm (h.eqs.pol q hq).1
  obtain⟨q,hq,rfl⟩:=List.mem_map.1 hp
  exact ZcK hπ.perm (h.neqs.pol q hq).1
 by_cases h1:s.2.2=ByteArray.empty
 .rw[if_pos h1]; exact Cq.wp.yes h1 rfl
 rw[if_neg h1]
 refine Cq.wp.no h1 ?_
 by_cases h2:Op.bytesLess (keyB (permK k π)).toList s.2.2.toList=true
 .refine Cq.wp.yes h2 ?_
  show _=_
  rw[if_pos h2]
 refine Cq.wp.no h2 ?_
 show _=_
 rw[if_neg h2]
theorem ZdG{k:Ze}(h:CoreOk k):∀ {l:List M}{c:Ze}{f:M},(∀ π ∈ l,PermN k.n.toNat π)->(canonL k l (c,f,keyB c)).Ret ((bestF k l (c,f)).1,(bestF k l (c,f)).2,keyB (bestF k l (c,f)).1)
 | [],_,_,_=>rfl
 | π::l,c,f,hl=>by
  refine⟨_,Zfv h (hl π (by simp)),?_⟩
  dsimp only
  rw[if_neg (ZkA c)]
  unfold bestF
  split
  .exact ZdG h (fun x hx=>hl x (by simp[hx]))
  exact ZdG h (fun x hx=>hl x (by simp[hx]))
theorem permsN{k:Ze}(h:CoreOk k):∀ π ∈ permsL k.n.toNat,PermN k.n.toNat π:=fun _ hp=>ZjH (by have:=h.n; omega) hp
theorem Ziq{k:Ze}(h:CoreOk k):(ZcM k).Ret (canonF k):=by
 refine⟨h.n,((canonF k).1,(canonF k).2,keyB (canonF k).1),?_,rfl⟩
 have hp:=permsN h
 rw[Zif] at hp ⊢
 refine⟨_,Zfv h (hp _ (by simp)),?_⟩
 rw[if_pos rfl]
 exact ZdG h (fun x hx=>hp x (by simp[hx]))
end Go.EL

namespace Go.EL
open Go.IntKind (i8 i16 i32 i64 u8 u16 u32 u64)
open Go Go.RowKit
def polB(p:Pol):Bool:=decide (p.Pairwise fun x y=>0<cmpM x.m y.m) && p.all (fun t=>goodC t.c && decide (∀ i,0<=t.m i/\t.m i<=65535)) && decide (p.length<=100)
theorem PolOk.of{p:Pol}(h:polB p=true):PolOk p:=by
 unfold polB at h
 simp only[Bool.and_eq_true,decide_eq_true_eq,List.all_eq_true] at h
 obtain⟨⟨h1,h2⟩,h3⟩:=h
 refine⟨h1,fun t ht=>⟨?_,(h2 t ht).2⟩,h3⟩
 obtain⟨n,e,n0,n1,n2⟩:=ZcF (h2 t ht).1
 exact⟨n,e,n0,n1,n2⟩
instance decStrict (l:List Pol):Decidable (Strict l):=inferInstanceAs (Decidable (l.Pairwise fun a b=>cmpP a b<0))
def partB(n least:Int)(l:List Pol):Bool:=decide (l.length<=12) && l.all (fun p=>polB p && fitB p n && !p.isEmpty && decide (primP p=p) && decide (least<=degP p)) && decide (Strict l)
theorem PartOk.of{n least:Int}{l:List Pol}(h:partB n least l=true):PartOk n least l:=by
 unfold partB at h
 simp only[Bool.and_eq_true,decide_eq_true_eq,List.all_eq_true,Bool.not_eq_true'] at h
 obtain⟨⟨h1,h2⟩,h3⟩:=h
 refine⟨h1,fun p hp=>?_,h3⟩
 obtain⟨⟨⟨⟨q1,q2⟩,q3⟩,q4⟩,q5⟩:=h2 p hp
 exact⟨.of q1,q2,by simpa using q3,q4,q5⟩
def coreB(k:Ze):Bool:=decide (1<=k.n/\k.n<=4) && partB k.n 0 k.eqs && partB k.n 1 k.neqs
theorem CoreOk.of{k:Ze}(h:coreB k=true):CoreOk k:=by
 unfold coreB at h
 simp only[Bool.and_eq_true,decide_eq_true_eq] at h
 exact⟨h.1.1,.of h.1.2,.of h.2⟩
def vM(a b:Int):M:=fun i=>if i.val=0 then a else if i.val=1 then b else 0
def tP(c a b:Int):Pol:=[⟨ratI c,vM a b⟩]
def lessP:Pol:=[⟨ratI 1,vM 1 0⟩,⟨ratI (-1),vM 0 0⟩]
def exK:Ze:=⟨2,[lessP,[⟨ratI 1,vM 1 0⟩,⟨ratI 1,vM 0 2⟩]],[]⟩
def exL':List Pol:=[[⟨ratI 1,vM 0 1⟩,⟨ratI (-1),vM 0 0⟩],[⟨ratI 1,vM 2 0⟩,⟨ratI 1,vM 0 1⟩]]
def swapM:M:=fun i=>if i.val=0 then 1 else if i.val=1 then 0 else (i.val:Int)
theorem ZkE:CoreOk exK:=.of (by decide +kernel)
instance decCoreT:DecidableEq Ze:=fun ⟨a1,a2,a3⟩ ⟨b1,b2,b3⟩=>decidable_of_iff (a1=b1/\a2=b2/\a3=b3) (by simp)
theorem Zjo:canonF exK=(⟨2,exL',[]⟩,swapM):=by decide +kernel
def exM:Ze:=⟨1,[[⟨ratI 1,vM 1 0⟩,⟨ratI (-2),vM 0 0⟩]],[]⟩
theorem ZgT:ZbR.Ret true:=by
 refine⟨tP 1 1 0,Cq.Ret.Zv 100 (by decide +kernel),tP 1 0 0,Cq.Ret.Zv 100 (by decide +kernel),lessP,Cq.Ret.Zv 100 (by decide +kernel),tP 1 0 0,Cq.Ret.Zv 100 (by decide +kernel),tP 2 1 0,Cq.Ret.Zv 100 (by decide +kernel),tP 4 0 0,Cq.Ret.Zv 100 (by decide +kernel),[⟨ratI 2,vM 1 0⟩,⟨ratI (-4),vM 0 0⟩],Cq.Ret.Zv 100 (by decide +kernel),tP 2 0 0,Cq.Ret.Zv 100 (by decide +kernel),tP 1 1 0,Cq.Ret.Zv 100 (by decide +kernel),[⟨ratI (-1),vM 1 0⟩,⟨ratI 2,vM 0 0⟩],Cq.Ret.Zv 100 (by decide +kernel),tP 3 0 0,Cq.Ret.Zv 100 (by decide +kernel),(exM,0),Cq.Ret.Zv 100 (by decide +kernel),(⟨2,[tP 1 0 0],[]⟩,0),Cq.Ret.Zv 100 (by decide +kernel),tP 1 0 1,Cq.Ret.Zv 100 (by decide +kernel),(zeroK,1),Cq.Ret.Zv 100 (by decide +kernel),(zeroK,320),Cq.Ret.Zv 100 (by decide +kernel),tP 1 1 0,Cq.Ret.Zv 100 (by decide +kernel),tP 1 0 2,Cq.Ret.Zv 100 (by decide +kernel),[⟨ratI 1,vM 1 0⟩,⟨ratI 1,vM 0 2⟩],Cq.Ret.Zv 100 (by decide +kernel),(⟨2,exL',[]⟩,swapM),(by rw[<- Zjo]; exact Ziq ZkE),tP 1 0 1,Cq.Ret.Zv 100 (by decide +kernel),[⟨ratI 1,vM 0 1⟩,⟨ratI (-1),vM 0 0⟩],Cq.Ret.Zv 100 (by decide +kernel),tP 1 2 0,Cq.Ret.Zv 100 (by decide +kernel),tP 1 0 1,Cq.Ret.Zv 100 (by decide +kernel),[⟨ratI 1,vM 2 0⟩,⟨ratI 1,vM 0 1⟩],Cq.Ret.Zv 100 (by decide +kernel),?_⟩
 refine Cq.wp.no (fun h=>h rfl) (Cq.wp.no (fun h=>h rfl) (Cq.wp.no (fun h=>h rfl) (Cq.wp.no (fun h=>h rfl) ⟨true,Cq.Ret.Zv 100 (by decide +kernel),Cq.wp.no (fun h=>h (by decide +kernel)) ?_⟩)))
 exact Cq.Ret.Zv 100 (by decide +kernel)
end Go.EL

namespace Go.EL
open Go.IntKind (i8 i16 i32 i64 u8 u16 u32 u64)
open Go Go.RowKit
def badP:Pol:=[⟨ratI 0,fun _=>0⟩]
def PolX(p:Pol):Prop:=PolOk p\/p=badP
theorem Zkt:¬ PolOk badP:=fun h=>by
 obtain⟨_,h0,_⟩:=h.num (t:=⟨ratI 0,fun _=>0⟩) (by simp[badP])
 exact h0 (by decide)
theorem ZkD:(ZX badP).Ret false:=Cq.Ret.Zv 40 (by decide +kernel)
theorem ZhO{c:Cq Bool}{P:Prop}(h:c.wp fun b=>(b=true↔P)):(P/\c.Ret true)\/(¬ P/\c.Ret false):=by
 by_cases hp:P
 .exact .inl ⟨hp,c.mono (fun b hb=>hb.2 hp) h⟩
 exact .inr ⟨hp,c.mono (fun b hb=>by cases b with
  | true=>exact absurd (hb.1 rfl) hp
  | false=>rfl) h⟩
theorem fitsX{p:Pol}(h:PolX p){n:Nat}:(∃ b,(Za7 p (n:Int)).Ret b/\(b=true↔PolOk p/\fitB p (n:Int)=true)):=by
 rcases h with h|rfl
 .exact⟨_,Zc9 h (by omega),⟨fun e=>⟨h,e⟩,fun e=>e.2⟩⟩
 exact⟨false,⟨false,ZkD,rfl⟩,⟨(fun e=>by cases e),fun e=>absurd e.1 Zkt⟩⟩
structure PrefE (n:Nat) (next:Int) (l:List Zn) (k:Nat):Prop where
 ids:∀ i (h:i<l.length),i<k->1<=l[i].id/\l[i].id<next
 inc:∀ i (h:i+1<l.length),i+1<k->l[i].id<l[i+1].id
 pol:∀ i (h:i<l.length),i<k->PolOk l[i].p/\fitB l[i].p (n:Int)=true
theorem ZjZ{l:List Zn}(h:∀ i (h:i+1<l.length),l[i].id<l[i+1].id):l.Pairwise fun a b=>a.id<b.id:=by
 have key:∀ d i (hd:i+d+1<l.length),l[i].id<l[i+d+1].id:=by
  intro d
  induction d with
  | zero=>intro i hd; exact h i hd
  | succ d ih=>
   intro i hd
   have h1:=ih i (by omega)
   have h2:=h (i+d+1) (by omega)
   have e:l[i+(d+1)+1]=l[i+d+1+1]:=rfl
   rw[e]
   omega
 refine List.pairwise_iff_getElem.2 fun i j hi hj hij=>?_
 have:=key (j-i-1) i (by omega)
 have e:i+(j-i-1)+1=j:=by omega
 simp only[e] at this
 exact this
theorem PrefE.all{n:Nat}{next:Int}{l:List Zn}(h:PrefE n next l l.length)(hl:l.length<=12):EqsOk n next l where
 len:=hl
 ids:=fun q hq=>by
  obtain⟨i,hi,rfl⟩:=List.getElem_of_mem hq
  exact h.ids i hi hi
 inc:=ZjZ fun i hi=>h.inc i hi hi
 pol:=fun q hq=>by
  obtain⟨i,hi,rfl⟩:=List.getElem_of_mem hq
  exact h.pol i hi hi
theorem PrefE.step{n:Nat}{next:Int}{l:List Zn}{k:Nat}(h:PrefE n next l k)(hk:k<l.length)(h1:1<=l[k].id/\l[k].id<next)(h2:∀ j (hj:j+1=k),l[j].id<l[k].id)(h3:PolOk l[k].p/\fitB l[k].p (n:Int)=true):PrefE n next l (k+1) where
 ids:=fun i hi hik=>by
  by_cases e:i=k
  .subst e; exact h1
  exact h.ids i hi (by omega)
 inc:=fun i hi hik=>by
  by_cases e:i+1=k
  .have:=h2 i e
   subst e
   exact this
  exact h.inc i hi (by omega)
 pol:=fun i hi hik=>by
  by_cases e:i=k
  .subst e; exact h3
  exact h.pol i hi (by omega)
theorem PrefE.zero(n:Nat)(next:Int)(l:List Zn):PrefE n next l 0:=⟨fun _ _ h=>absurd h (Nat.not_lt_zero _),fun _ _ h=>absurd h (Nat.not_lt_zero _),fun _ _ h=>absurd h (Nat.not_lt_zero _)⟩
theorem wrapP{j:Nat}(h:j<1000000000):i64.wrap (((j+1:Nat):Int)-1)=(j:Int):=by rw[wrap64 (by omega)]; omega
structure SysX (s:Zo):Prop where
 eqs:s.eqs.length<=1000/\∀ q ∈ s.eqs,PolX q.p
 neqs:s.neqs.length<=1000/\∀ q ∈ s.neqs,PolX q.p
end Go.EL

namespace Go.EL
open Go.IntKind (i8 i16 i32 i64 u8 u16 u32 u64)
open Go Go.RowKit
theorem Zgh:∀ {l:List Int}{i:Int},i ∈ l->mget (idKey l) i=some true
 | x::l,i,h=>by
  show (if x=i then some true else mget (idKey l) i)=some true
  by_cases e:x=i
  .rw[if_pos e]
  rw[if_neg e]
  exact Zgh ((List.mem_cons.1 h).resolve_left fun e'=>e e'.symm)
theorem ZeU:∀ {l:List ByteArray}{i:ByteArray},i ∈ l->mget (nameKey l) i=some true
 | x::l,i,h=>by
  show (if x=i then some true else mget (nameKey l) i)=some true
  by_cases e:x=i
  .rw[if_pos e]
  rw[if_neg e]
  exact ZeU ((List.mem_cons.1 h).resolve_left fun e'=>e e'.symm)
theorem Zf5{s:Zo}(hv:s.vars.length<=4)(hnx:s.next<=1000000){l:List Zn}(hl:l.length<=12)(hx:∀ q ∈ l,PolX q.p){m:List Int}(hml:m.length<=100):
  (ZaE s l (0,idKey m)).wp fun o=>match o with | .inl v=>v=false/\¬ (EqsOk s.vars.length s.next l/\∀ q ∈ l,q.id ∉ m) | .inr mp=>mp=idKey (m++idsOf l)/\EqsOk s.vars.length s.next l/\∀ q ∈ l,q.id ∉ m:=by
 refine Cq.Zs l.length (fun k st=>st=((k:Int),idKey (m++idsOf (l.take k)))/\PrefE s.vars.length s.next l k/\∀ i (h:i<l.length),i<k->l[i].id ∉ m) ?_ ?_ ⟨by simp[idsOf],PrefE.zero _ _ _,fun _ _ h=>absurd h (Nat.not_lt_zero _)⟩
 .rintro k st hk ⟨rfl,hp,hm⟩
  have hq:=List.getElem_mem hk
  refine Cq.wp.yes (by omega) ⟨_,idxN hk,?_⟩
  by_cases h1:l[k].id<1
  .exact Cq.wp.yes h1 ⟨rfl,fun h=>absurd (h.1.ids _ hq).1 (by omega)⟩
  refine Cq.wp.no h1 ?_
  by_cases h2:s.next<=l[k].id
  .exact Cq.wp.yes h2 ⟨rfl,fun h=>absurd (h.1.ids _ hq).2 (by omega)⟩
  refine Cq.wp.no h2 ?_
  have hwf:(Lit.int i64 l[k].id).wf=true:=by
   simp only[Lit.wf,Bool.and_eq_true,decide_eq_true_eq]
   exact⟨Int.le_trans (by decide) (show (1:Int)<=l[k].id by omega),Int.le_trans (show l[k].id<=1000000 by omega) (by decide)⟩
  refine⟨hwf,?_⟩
  have fin:(∀ j (hj:j+1=k),l[j].id<l[k].id)->l[k].id ∉ m->(ZaF s (k:Int) (idKey (m++idsOf (l.take k))) l[k]).wp (Out (fun st=>st=(((k+1:Nat):Int),idKey (m++idsOf (l.take (k+1))))/\PrefE s.vars.length s.next l (k+1)/\∀ i (h:i<l.length),i<k+1->l[i].id ∉ m) fun o=>match o with | .inl v=>v=false/\¬ (EqsOk s.vars.length s.next l/\∀ q ∈ l,q.id ∉ m) | .inr mp=>mp=idKey (m++idsOf l)/\EqsOk s.vars.length s.next l/\∀ q ∈ l,q.id ∉ m):=fun h3 h4=>by
   have hnew:l[k].id ∉ m++idsOf (l.take k):=fun hh=>by
    rcases List.mem_append.1 hh with hh|hh
    .exact h4 hh
    obtain⟨q,hq,e⟩:=List.mem_map.1 hh
    obtain⟨i,hi,rfl⟩:=List.mem_iff_getElem.1 hq
    simp only[List.length_take] at hi
    rw[List.getElem_take] at e
    have key:∀ d (hd:i+d<k),l[i].id<=(l[i+d]'(by omega)).id:=by
     intro d
     induction d with
     | zero=>intro _; exact Int.le_refl _
     | succ d ih=>
      intro hd
      have q1:=ih (by omega)
      have q2:=hp.inc (i+d) (by omega) (by omega)
      have e:l[i+(d+1)]'(by omega)=l[i+d+1]'(by omega):=rfl
      rw[e]
      omega
    have q1:=key (k-1-i) (by omega)
    have q2:=h3 (k-1) (by omega)
    have e2:i+(k-1-i)=k-1:=by omega
    simp only[e2] at q1
    omega
   obtain⟨hput,hget⟩:=Zgi hnew
   obtain⟨b,hb,hi⟩:=fitsX (hx _ hq) (n:=s.vars.length)
   refine⟨⟨hwf,?_⟩,b,hb,?_⟩
   .rw[hput]
    simp[idKey,idsOf,small]; omega
   cases b with
   | false=>exact Cq.wp.yes (by decide) ⟨rfl,fun h=>by have:=hi.2 (h.1.pol _ hq); cases this⟩
   | true=>
    refine Cq.wp.no (by decide) ⟨?_,hp.step hk ⟨by omega,by omega⟩ h3 (hi.1 rfl),fun i hi hik=>?_⟩
    .show _=_
     have e:idsOf (l.take (k+1))=idsOf (l.take k)++[l[k].id]:=by
      unfold idsOf
      rw[<- List.take_append_getElem hk,List.map_append]
      rfl
     rw[hput,wrapN (by omega),List.append_assoc,e]
    by_cases e:i=k
    .subst e; exact h4
    exact hm i hi (by omega)
  by_cases hseen:l[k].id ∈ m++idsOf (l.take k)
  .rw[Zgh hseen]
   refine Cq.wp.yes rfl ⟨rfl,fun h=>?_⟩
   rcases List.mem_append.1 hseen with hh|hh
   .exact h.2 _ hq hh
   exact ZfT h.1.inc hk hh
  rw[(Zgi hseen).2]
  refine Cq.wp.no (by decide) ?_
  have h4:l[k].id ∉ m:=fun h=>hseen (List.mem_append.2 (.inl h))
  by_cases h0:(0:Int)<(k:Int)
  .obtain⟨j,rfl⟩:∃ j,k=j+1:=⟨k-1,by omega⟩
   refine Cq.wp.yes h0 ?_
   rw[wrapP (by omega)]
   refine⟨_,idxN (by omega),?_⟩
   by_cases h3:l[j+1].id<=l[j].id
   .refine Cq.wp.yes h3 ⟨rfl,fun h=>?_⟩
    have:=List.pairwise_iff_getElem.1 h.1.inc j (j+1) (by omega) hk (by omega)
    omega
   refine Cq.wp.no h3 (fin (fun i hi=>?_) h4)
   have:i=j:=by omega
   subst this; omega
  exact Cq.wp.no h0 (fin (fun i hi=>by omega) h4)
 rintro st ⟨rfl,hp,hm⟩
 refine Cq.wp.no (by omega) ⟨by rw[List.take_length],hp.all hl,fun q hq=>?_⟩
 obtain⟨i,hi,rfl⟩:=List.getElem_of_mem hq
 exact hm i hi hi
theorem Zf4{s:Zo}(hx:SysX s):(ZB s).wp fun b=>(b=true↔Good s):=by
 have no:∀ {P:Prop},¬ P->((false=true)↔P):=fun h=>⟨fun e=>(by cases e),fun e=>absurd e h⟩
 by_cases hv:4<s.vars.length
 .exact Cq.wp.yes (by omega) (no fun h=>absurd h.vars (by omega))
 refine Cq.wp.no (by omega) ?_
 by_cases h1:s.next<1
 .exact Cq.wp.yes h1 (no fun h=>absurd h.next (by omega))
 refine Cq.wp.no h1 ?_
 by_cases h2:1000000<s.next
 .exact Cq.wp.yes h2 (no fun h=>absurd h.next (by omega))
 refine Cq.wp.no h2 ?_
 refine (Zc7 s (0,[])).mono (p:=fun o=>match o with | .inl v=>v=false/\¬ Good s | .inr ()=>(∀ v ∈ s.vars,nameB v=true)/\s.vars.Pairwise fun a b=>a≠b) (fun o h=>?_) (Cq.Zs s.vars.length (fun k st=>st=((k:Int),nameKey (s.vars.take k))/\(∀ i (h:i<s.vars.length),i<k->nameB s.vars[i]=true)/\∀ i j (hi:i<s.vars.length) (hj:j<s.vars.length),i<j->j<k->s.vars[i]≠s.vars[j]) ?_ ?_ ⟨rfl,fun _ _ h=>absurd h (Nat.not_lt_zero _),fun _ _ _ _ _ h=>absurd h (Nat.not_lt_zero _)⟩)
 .match o,h with
  | .inl v,⟨hv,h⟩=>exact⟨fun e=>absurd (hv ▸ e) (by decide),fun e=>absurd e h⟩
  | .inr (),⟨hnm,hdf⟩=>
   show (ZaG s).wp _
   refine (Zc6 s (0,[])).mono (p:=fun o=>match o with | .inl v=>v=false/\¬ Good s | .inr ()=>Good s) (fun o h=>?_) (Cq.Zs 2 (fun k st=>(k<=1/\st=((k:Int),idKey (if k=0 then [] else idsOf s.eqs))/\(1<=k->EqsOk s.vars.length s.next s.eqs))\/(k=2/\st.1=2/\Good s)) ?_ ?_ (.inl ⟨by omega,rfl,fun h=>absurd h (by omega)⟩))
   .match o,h with
    | .inl v,⟨hv,h⟩=>exact⟨fun e=>absurd (hv ▸ e) (by decide),fun e=>absurd e h⟩
    | .inr (),h=>exact⟨fun _=>h,fun _=>rfl⟩
   .rintro k st hk (⟨_,rfl,he⟩|⟨h2,_⟩)
    rotate_left
    .omega
    rcases (show k=0\/k=1 by omega) with rfl|rfl
    .refine Cq.wp.yes (by show (0:Int)<2; decide) ⟨s.eqs,⟨by omega,rfl⟩,?_⟩
     by_cases h12:12<s.eqs.length
     .exact Cq.wp.yes (by omega) ⟨rfl,fun h=>absurd h.eqs.len (by omega)⟩
     refine Cq.wp.no (by omega) ?_
     refine (ZaE s s.eqs (0,idKey [])).mono (fun o h=>?_) (Zf5 (by omega) (by omega) (by omega) hx.eqs.2 (m:=[]) (by simp))
     match o,h with
     | .inl v,⟨hv,h⟩=>exact⟨hv,fun hg=>h ⟨hg.eqs,fun _ _=>by simp⟩⟩
     | .inr mp,⟨hm,he,_⟩=>exact .inl ⟨Nat.le_refl 1,by rw[hm]; rfl,fun _=>he⟩
    have he:=he (Nat.le_refl 1)
    have hl:=he.len
    refine Cq.wp.yes (by show (1:Int)<2; decide) ⟨s.neqs,⟨by omega,rfl⟩,?_⟩
    by_cases h12:12<s.neqs.length
    .exact Cq.wp.yes (by omega) ⟨rfl,fun h=>absurd h.neqs.len (by omega)⟩
    refine Cq.wp.no (by omega) ?_
    refine (ZaE s s.neqs (0,idKey (idsOf s.eqs))).mono (fun o h=>?_) (Zf5 (by omega) (by omega) (by omega) hx.neqs.2 (m:=idsOf s.eqs) (by simp[idsOf]; omega))
    match o,h with
    | .inl v,⟨hv,h⟩=>
     refine⟨hv,fun hg=>h ⟨hg.neqs,fun q hq hm=>?_⟩⟩
     obtain⟨a,ha,e⟩:=List.mem_map.1 hm
     exact hg.apart a ha q hq e
    | .inr mp,⟨hm,hn,ha⟩=>
     exact .inr ⟨rfl,rfl,by omega,hnm,hdf,⟨by omega,by omega⟩,he,hn,fun a h1 b h2 e=>ha b h2 (List.mem_map.2 ⟨a,h1,e⟩)⟩
   rintro st (⟨hbad,_⟩|⟨h2,h3,hg⟩)
   .omega
   obtain⟨i,mp⟩:=st
   dsimp only at h3
   subst h3
   exact Cq.wp.no (by show ¬ (2:Int)<2; decide) hg
 .rintro k st hk ⟨rfl,hnm,hdf⟩
  refine Cq.wp.yes (by omega) ⟨_,idxN hk,_,Zia _,?_⟩
  cases hb:nameB s.vars[k] with
  | false=>exact⟨rfl,fun h=>by rw[h.name _ (List.getElem_mem hk)] at hb; cases hb⟩
  | true=>
   have hsz:=ZiL hb
   refine⟨by omega,?_⟩
   by_cases hseen:s.vars[k] ∈ s.vars.take k
   .rw[ZeU hseen]
    refine Cq.wp.yes rfl ⟨rfl,fun h=>?_⟩
    obtain⟨i,hi,e⟩:=List.mem_iff_getElem.1 hseen
    simp only[List.length_take] at hi
    rw[List.getElem_take] at e
    exact List.pairwise_iff_getElem.1 h.diff i k (by omega) hk (by omega) e
   obtain⟨hput,hget⟩:=Zhv hseen
   rw[hget]
   refine Cq.wp.no (by decide) ?_
   rw[hput]
   refine⟨⟨by omega,by simp[nameKey,small]; omega⟩,?_,fun i hi hik=>?_,fun i j hi hj hij hjk=>?_⟩
   .rw[wrapN (by omega),List.take_append_getElem hk]
   .by_cases e:i=k
    .subst e; exact hb
    exact hnm i hi (by omega)
   by_cases e:j=k
   .subst e
    exact fun e=>hseen (List.mem_iff_getElem.2 ⟨i,by rw[List.length_take]; omega,by rw[List.getElem_take]; exact e⟩)
   exact hdf i j hi hj hij (by omega)
 rintro st ⟨rfl,hnm,hdf⟩
 refine Cq.wp.no (by omega) ⟨fun v hv=>?_,List.pairwise_iff_getElem.2 fun i j hi hj hij=>hdf i j hi hj hij hj⟩
 obtain⟨i,hi,rfl⟩:=List.getElem_of_mem hv
 exact hnm i hi hi
end Go.EL

namespace Go.EL
open Go.IntKind (i8 i16 i32 i64 u8 u16 u32 u64)
open Go Go.RowKit
theorem ZhL(n:Nat)(next:Int):EqsOk n next []:=⟨by simp,fun q hq=>absurd hq List.not_mem_nil,List.Pairwise.nil,fun q hq=>absurd hq List.not_mem_nil⟩
theorem Zco{l:List ByteArray}(hl:l.length<=4):Good ⟨l,[],[],1⟩↔(∀ v ∈ l,nameB v=true)/\l.Pairwise fun a b=>a≠b:=
 ⟨fun h=>⟨h.name,h.diff⟩,fun h=>⟨hl,h.1,h.2,⟨Int.le_refl 1,(by decide:(1:Int)<=1000000)⟩,ZhL _ _,ZhL _ _,fun a ha=>absurd ha List.not_mem_nil⟩⟩
theorem ZhK(l:List ByteArray):SysX ⟨l,[],[],1⟩:=⟨⟨by simp,fun q hq=>absurd hq List.not_mem_nil⟩,⟨by simp,fun q hq=>absurd hq List.not_mem_nil⟩⟩
theorem ZiO(a:ByteArray):(ZB ⟨[a],[],[],1⟩).Ret (nameB a):=by
 rcases ZhO (Zf4 (ZhK [a])) with ⟨h,hr⟩|⟨h,hr⟩
 .rw[((Zco (by simp)).1 h).1 a (by simp)]; exact hr
 cases hb:nameB a with
 | false=>exact hr
 | true=>exact absurd ((Zco (by simp)).2 ⟨fun v hv=>by rw[List.mem_singleton] at hv; subst hv; exact hb,List.pairwise_singleton _ _⟩) h
theorem Zgr(a b:ByteArray):(ZB ⟨[a,b],[],[],1⟩).Ret (nameB a && nameB b && decide (¬ a=b)):=by
 rcases ZhO (Zf4 (ZhK [a,b])) with ⟨h,hr⟩|⟨h,hr⟩
 .obtain⟨h1,h2⟩:=(Zco (by simp)).1 h
  rw[h1 a (by simp),h1 b (by simp),show decide (¬ a=b)=true from decide_eq_true (fun e=>(List.pairwise_cons.1 h2).1 b (by simp) e)]
  exact hr
 have e:(nameB a && nameB b && decide (¬ a=b))=false:=by
  refine Bool.eq_false_iff.2 fun e=>h ((Zco (by simp)).2 ?_)
  simp only[Bool.and_eq_true,decide_eq_true_eq] at e
  refine⟨fun v hv=>?_,?_⟩
  .rcases List.mem_cons.1 hv with rfl|hv
   .exact e.1.1
   rw[List.mem_singleton] at hv; subst hv; exact e.1.2
  refine List.pairwise_cons.2 ⟨fun v hv=>?_,List.pairwise_singleton _ _⟩
  rw[List.mem_singleton] at hv; subst hv
  exact e.2
 rw[e]; exact hr
theorem Zhw(a:ByteArray):(ZB ⟨[a,a],[],[],1⟩).Ret false:=by
 have:=Zgr a a
 rw[show (nameB a && nameB a && decide (¬ a=a))=false by simp] at this
 exact this
theorem Zfs(a b:ByteArray):(Zci a b).Ret true:=by
 refine⟨true,ZgT,Cq.wp.no (by decide) ?_⟩
 by_cases ha:20<(a.size:Int)
 .exact Cq.wp.yes ha rfl
 refine Cq.wp.no ha ?_
 by_cases hb:20<(b.size:Int)
 .exact Cq.wp.yes hb rfl
 refine Cq.wp.no hb ?_
 refine⟨_,ZiO a,_,Zgr a b,_,Zhw a,_,Ze4 a,Cq.wp.yes rfl ⟨_,Ze4 a,?_⟩⟩
 cases h1:nameB a with
 | false=>exact Cq.wp.yes (by simp) (Cq.wp.no (by decide) rfl)
 | true=>
  refine⟨_,Ze4 b,?_⟩
  cases h2:nameB b with
  | false=>exact Cq.wp.yes (by simp) (Cq.wp.no (by decide) rfl)
  | true=>exact Cq.wp.yes (by simp) (Cq.wp.no (by decide) rfl)
end Go.EL

namespace Go.EL
open Go.IntKind (i8 i16 i32 i64 u8 u16 u32 u64)
open Go Go.RowKit
end Go.EL

namespace Go.Proofs.YtoakocgcakgpnaaGreat
open Go.IntKind (i8 i16 i32 i64 u8 u16 u32 u64)
open Go.Proofs.Tryz
open Go Go.EL Go.RowKit Go.Proofs
set_option maxRecDepth 100000 in
theorem Zg9{W:World}{base:Nat}{v:Value}(hok:Value.okWide prog W .any base 9 v):∃ s,v = .string s:=Go.WideShapes.okWide_string underlying9 hok
end Go.Proofs.YtoakocgcakgpnaaGreat

namespace Go.Proofs
open Go.IntKind (i8 i16 i32 i64 u8 u16 u32 u64)
open Go.Shelf
def Tryz.Zi0:Go.Shelf.Ren:=⟨fun|14=>217|20=>226|21=>227|22=>228|23=>229|24=>230|25=>231|26=>232|27=>233|46=>236|47=>222|48=>223|49=>237|50=>238|15=>187|57=>240|28=>201|29=>210|n=>n,fun|24=>119|22=>64|3=>3|25=>186|4=>4|0=>0|46=>219|45=>218|50=>223|66=>234|39=>187|55=>164|70=>238|76=>246|77=>247|53=>182|5=>5|9=>9|n=>n,fun|n=>n⟩
theorem Tryz.sortL:Go.Proofs.SlLaysF0.n14 Tryz.prog Tryz.Zi0:={
 mixed:=by kernel_rfl
 f14:=⟨Tryz.f217.name,by decide,Tryz.func217.trans (congrArg some (by kernel_rfl))⟩
 f15:=Tryz.func187.trans (congrArg some (by kernel_rfl))
 f20:=⟨Tryz.f226.name,by decide,Tryz.func226.trans (congrArg some (by kernel_rfl))⟩
 f21:=⟨Tryz.f227.name,by decide,Tryz.func227.trans (congrArg some (by kernel_rfl))⟩
 f22:=⟨Tryz.f228.name,by decide,Tryz.func228.trans (congrArg some (by kernel_rfl))⟩
 f23:=⟨Tryz.f229.name,by decide,Tryz.func229.trans (congrArg some (by kernel_rfl))⟩
 f24:=⟨Tryz.f230.name,by decide,Tryz.func230.trans (congrArg some (by kernel_rfl))⟩
 f25:=⟨Tryz.f231.name,by decide,Tryz.func231.trans (congrArg some (by kernel_rfl))⟩
 f26:=⟨Tryz.f232.name,by decide,Tryz.func232.trans (congrArg some (by kernel_rfl))⟩
 f27:=⟨Tryz.f233.name,by decide,Tryz.func233.trans (congrArg some (by kernel_rfl))⟩
 f28:=Tryz.func201.trans (congrArg some (by kernel_rfl))
 f29:=Tryz.func210.trans (congrArg some (by kernel_rfl))
 f46:=⟨Tryz.f236.name,by decide,Tryz.func236.trans (congrArg some (by kernel_rfl))⟩
 f47:=Tryz.func222.trans (congrArg some (by kernel_rfl))
 f48:=Tryz.func223.trans (congrArg some (by kernel_rfl))
 f49:=⟨Tryz.f237.name,by decide,Tryz.func237.trans (congrArg some (by kernel_rfl))⟩
 f50:=⟨Tryz.f238.name,by decide,Tryz.func238.trans (congrArg some (by kernel_rfl))⟩
 f57:=⟨Tryz.f240.name,by decide,Tryz.func240.trans (congrArg some (by kernel_rfl))⟩
 t0:=Tryz.underlying0
 a0:=Tryz.isAgg0
 z0:=Tryz.sizeOf0
 v0:=Tryz.zeroValue0
 t3:=Tryz.underlying3
 a3:=Tryz.isAgg3
 z3:=Tryz.sizeOf3
 v3:=Tryz.zeroValue3
 t4:=Tryz.underlying4
 a4:=Tryz.isAgg4
 z4:=Tryz.sizeOf4
 v4:=Tryz.zeroValue4
 t5:=Tryz.underlying5
 a5:=Tryz.isAgg5
 z5:=Tryz.sizeOf5
 v5:=Tryz.zeroValue5
 t9:=Tryz.underlying9
 a9:=Tryz.isAgg9
 z9:=Tryz.sizeOf9
 v9:=Tryz.zeroValue9
 t22:=Tryz.underlying64
 a22:=Tryz.isAgg64
 z22:=Tryz.sizeOf64
 v22:=Tryz.zeroValue64
 t25:=Tryz.underlying186
 a25:=Tryz.isAgg186
 z25:=Tryz.sizeOf186
 v25:=Tryz.zeroValue186
 t39:=Tryz.underlying187
 a39:=Tryz.isAgg187
 z39:=Tryz.sizeOf187
 v39:=Tryz.zeroValue187
 t45:=Tryz.underlying218
 a45:=Tryz.isAgg218
 z45:=Tryz.sizeOf218
 v45:=Tryz.zeroValue218
 t46:=Tryz.underlying219
 a46:=Tryz.isAgg219
 z46:=Tryz.sizeOf219
 v46:=Tryz.zeroValue219
 t50:=Tryz.underlying223
 a50:=Tryz.isAgg223
 z50:=Tryz.sizeOf223
 v50:=Tryz.zeroValue223
 t53:=Tryz.underlying182
 a53:=Tryz.isAgg182
 z53:=Tryz.sizeOf182
 v53:=Tryz.zeroValue182
 t55:=Tryz.underlying164
 a55:=Tryz.isAgg164
 z55:=Tryz.sizeOf164
 v55:=Tryz.zeroValue164
 t66:=Tryz.underlying234
 a66:=Tryz.isAgg234
 z66:=Tryz.sizeOf234
 v66:=Tryz.zeroValue234
 t70:=Tryz.underlying238
 a70:=Tryz.isAgg238
 z70:=Tryz.sizeOf238
 v70:=Tryz.zeroValue238
 t76:=Tryz.underlying246
 a76:=Tryz.isAgg246
 z76:=Tryz.sizeOf246
 v76:=Tryz.zeroValue246
 t77:=Tryz.underlying247
 a77:=Tryz.isAgg247
 z77:=Tryz.sizeOf247
 v77:=Tryz.zeroValue247 }
def Tryz.Zi1:Go.Shelf.Ren:=⟨fun|14=>186|20=>202|21=>203|22=>204|23=>205|24=>206|25=>207|26=>208|27=>209|46=>221|47=>222|48=>223|49=>224|50=>225|15=>187|57=>235|28=>201|29=>210|n=>n,fun|24=>65|22=>25|3=>3|25=>153|4=>4|0=>0|46=>219|45=>218|50=>223|66=>234|39=>187|55=>164|70=>238|76=>246|77=>247|53=>182|5=>5|9=>9|n=>n,fun|n=>n⟩
theorem Tryz.sortQ:Go.Proofs.SlLaysF.n14 Tryz.prog Tryz.Zi1:={
 mixed:=by kernel_rfl
 f14:=⟨Tryz.f186.name,by decide,Tryz.func186.trans (congrArg some (by kernel_rfl))⟩
 f15:=Tryz.func187.trans (congrArg some (by kernel_rfl))
 f20:=⟨Tryz.f202.name,by decide,Tryz.func202.trans (congrArg some (by kernel_rfl))⟩
 f21:=⟨Tryz.f203.name,by decide,Tryz.func203.trans (congrArg some (by kernel_rfl))⟩
 f22:=⟨Tryz.f204.name,by decide,Tryz.func204.trans (congrArg some (by kernel_rfl))⟩
 f23:=⟨Tryz.f205.name,by decide,Tryz.func205.trans (congrArg some (by kernel_rfl))⟩
 f24:=⟨Tryz.f206.name,by decide,Tryz.func206.trans (congrArg some (by kernel_rfl))⟩
 f25:=⟨Tryz.f207.name,by decide,Tryz.func207.trans (congrArg some (by kernel_rfl))⟩
 f26:=⟨Tryz.f208.name,by decide,Tryz.func208.trans (congrArg some (by kernel_rfl))⟩
 f27:=⟨Tryz.f209.name,by decide,Tryz.func209.trans (congrArg some (by kernel_rfl))⟩
 f28:=Tryz.func201.trans (congrArg some (by kernel_rfl))
 f29:=Tryz.func210.trans (congrArg some (by kernel_rfl))
 f46:=⟨Tryz.f221.name,by decide,Tryz.func221.trans (congrArg some (by kernel_rfl))⟩
 f47:=Tryz.func222.trans (congrArg some (by kernel_rfl))
 f48:=Tryz.func223.trans (congrArg some (by kernel_rfl))
 f49:=⟨Tryz.f224.name,by decide,Tryz.func224.trans (congrArg some (by kernel_rfl))⟩
 f50:=⟨Tryz.f225.name,by decide,Tryz.func225.trans (congrArg some (by kernel_rfl))⟩
 f57:=⟨Tryz.f235.name,by decide,Tryz.func235.trans (congrArg some (by kernel_rfl))⟩
 t0:=Tryz.underlying0
 a0:=Tryz.isAgg0
 z0:=Tryz.sizeOf0
 v0:=Tryz.zeroValue0
 t3:=Tryz.underlying3
 a3:=Tryz.isAgg3
 z3:=Tryz.sizeOf3
 v3:=Tryz.zeroValue3
 t4:=Tryz.underlying4
 a4:=Tryz.isAgg4
 z4:=Tryz.sizeOf4
 v4:=Tryz.zeroValue4
 t5:=Tryz.underlying5
 a5:=Tryz.isAgg5
 z5:=Tryz.sizeOf5
 v5:=Tryz.zeroValue5
 t9:=Tryz.underlying9
 a9:=Tryz.isAgg9
 z9:=Tryz.sizeOf9
 v9:=Tryz.zeroValue9
 t22:=Tryz.underlying25
 a22:=Tryz.isAgg25
 z22:=Tryz.sizeOf25
 v22:=Tryz.zeroValue25
 a24:=Tryz.isAgg65
 z24:=Tryz.sizeOf65
 t25:=Tryz.underlying153
 a25:=Tryz.isAgg153
 z25:=Tryz.sizeOf153
 v25:=Tryz.zeroValue153
 t39:=Tryz.underlying187
 a39:=Tryz.isAgg187
 z39:=Tryz.sizeOf187
 v39:=Tryz.zeroValue187
 t45:=Tryz.underlying218
 a45:=Tryz.isAgg218
 z45:=Tryz.sizeOf218
 v45:=Tryz.zeroValue218
 t46:=Tryz.underlying219
 a46:=Tryz.isAgg219
 z46:=Tryz.sizeOf219
 v46:=Tryz.zeroValue219
 t50:=Tryz.underlying223
 a50:=Tryz.isAgg223
 z50:=Tryz.sizeOf223
 v50:=Tryz.zeroValue223
 t53:=Tryz.underlying182
 a53:=Tryz.isAgg182
 z53:=Tryz.sizeOf182
 v53:=Tryz.zeroValue182
 t55:=Tryz.underlying164
 a55:=Tryz.isAgg164
 z55:=Tryz.sizeOf164
 v55:=Tryz.zeroValue164
 t66:=Tryz.underlying234
 a66:=Tryz.isAgg234
 z66:=Tryz.sizeOf234
 v66:=Tryz.zeroValue234
 t70:=Tryz.underlying238
 a70:=Tryz.isAgg238
 z70:=Tryz.sizeOf238
 v70:=Tryz.zeroValue238
 t76:=Tryz.underlying246
 a76:=Tryz.isAgg246
 z76:=Tryz.sizeOf246
 v76:=Tryz.zeroValue246
 t77:=Tryz.underlying247
 a77:=Tryz.isAgg247
 z77:=Tryz.sizeOf247
 v77:=Tryz.zeroValue247 }
end Go.Proofs

