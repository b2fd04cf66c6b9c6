/- The law SystemCores holds for every input: a part of its proof (what the code does, plain models, and what they return). No condition. -/
import Derived.Test.YtoakocgcakgpnaaGreatRows
import Derived.Test.YtoakocgcakgpnaaGreatXC11b
import Derived.Test.YtoakocgcakgpnaaGreatXC11a
import Derived.RangeFuncGives
import Derived.RangeFuncIn
import Derived.RangeFuncLeaves
import Derived.Maps.RangeRun
import Derived.TacticsIn
import Derived.OwnWalkIn
import Derived.DeepKeys4
import Derived.Shelf.SortG.Plain
import Derived.Shelf.SortG.SortNone
import Derived.OrdersIn
import Derived.Shelf.SlLaysF
import Derived.Shelf.SlSortCmp.Pdq1
import Derived.Test.YtoakocgcakgpnaaGreatProg
set_option linter.unusedVariables false
set_option linter.unusedSimpArgs false
namespace Go.Proofs.YtoakocgcakgpnaaGreat
open Go.IntKind (i8 i16 i32 i64 u8 u16 u32 u64)
open Go.Proofs.Tryz
open Go Go.EL Go.RowKit Go.Proofs
theorem ownK:ownKnob prog.godebug=none:=by kernel_rfl
theorem laidK:laidOutB prog=true:=by kernel_rfl
end Go.Proofs.YtoakocgcakgpnaaGreat

namespace Go.EL
open Go.IntKind (i8 i16 i32 i64 u8 u16 u32 u64)
open Go Go.RowKit Go.Proofs Go.MapKept
theorem ZjT{P:Program}{o:Oper}{a:Act}{w:World}{K K':Act->World->Prop}{Q:Post}{n l:Nat}(hd:∀ c,o.op≠.defer c)(hK:∀ a w,K a w->K' a w)(h:o.wp P a w K Q):o.wpIn (Fence.wide.inRound l) n P a w K' Q:=by
 refine⟨fun _ _=>trivial,?_⟩
 rw[Oper.semAt_plain _ _ _ hd]
 unfold Oper.wp at h
 generalize (execOp a.eval o).run P w=res at h ⊢
 cases res with
 | ok nx w'=>
  cases nx <;> simp only[Oper.upon] at h <;> simp only[Oper.uponIn]
  case value v=>exact hK _ _ h
  case skip=>exact hK _ _ h
  case defer d=>exact hK _ _ h
  case enter f args=>exact⟨fun h=>by simp[Fence.inRound,Fence.wide] at h,(callsIn_wide (n:=n-1)).2 (h.mono fun e w'' he=>by cases e <;> first|exact hK _ _ he|exact he)⟩
  case row row args=>exact⟨fun h=>by simp[Fence.inRound,Fence.wide] at h,fun c cs _=>let ⟨v,w',r,s⟩:=h c cs; ⟨v,w',hK _ _ r,stepsIn_wide.2 s⟩⟩
 | halt x w'=>cases x <;> first|exact h.elim|exact h
theorem Zek{P:Program}{ops:Array Oper}{Q:Post}{n r:Nat}(hQ:¬ LetsOut Q):∀ {l:List Oper}{a:Act}{w:World},(∀ o ∈ l,∀ c,o.op≠.defer c)->wpList P ops Q l a w->wpListIn (Fence.wide.inRound r) n P ops Q l a w
 | [],_,_,_,h=>h
 | o::l,a,w,hd,h=>by
  unfold wpList at h
  unfold wpListIn
  split at h
  .rename_i hw
   rw[if_pos hw]
   rcases h with h|h
   .exact ZjT (hd o (by simp)) (fun a w h'=>Zek hQ (fun o' ho'=>hd o' (by simp[ho'])) h') h
   exact absurd h.2 hQ
  rename_i hw
  rw[if_neg hw]
  exact⟨fun _ _=>trivial,Zek hQ (fun o' ho'=>hd o' (by simp[ho'])) h⟩
theorem ZhG{P:Program}{l:List Oper}{id n r:Nat}{Q:Post}{a:Act}{w:World}(hQ:¬ LetsOut Q)(hd:∀ o ∈ l,∀ c,o.op≠.defer c)(h:wpList P l.toArray Q l a w):(Code.region id l.toArray false).wpIn (Fence.wide.inRound r) n P Q a w:=by
 refine wpIn_region ?_
 have:=wpOpsIn_eq_wpListIn (F:=Fence.wide.inRound r) (n:=n) (P:=P) (ops:=l.toArray) (Q:=Q) l 0 (fun j=>by simp)
 rw[List.range_eq_range',List.size_toArray,this]
 exact Zek hQ hd h
section
variable {P:Program}{N:Nat}{w0:Bs}{G0 G:Mem}{L:Lo}
theorem St.putLoop{w:World}{l key:Nat}{r r':Loop}(hs:St w0 G0 G L w)(hl:L.get key=some ⟨l,.loop r,0⟩):St w0 G0 G ((key,some ⟨l,.loop r',0⟩)::L) (w.putObj l (.loop r')):=by
 have hb:=(hs.loc key _ hl).1
 have hlt:=(Array.getElem?_eq_some_iff.1 hb).1
 exact hs.upd hl (World.putObj_heap_same hlt) (Nat.le_refl _) (fun k _ hk=>absurd hk (Nat.not_lt_zero k)) (fun k hk=>World.putObj_heap_other hk) rfl rfl rfl rfl (by simp)
end
structure Stp (B:Nat) (W W':World):Prop where
 os:W'.os=W.os
 tape:W'.tape=W.tape
 output:W'.output=W.output
 drawn:W.drawn<=W'.drawn
 size:W.heap.size<=W'.heap.size
 block:∀ (k:Nat) (o:Obj),W.heap[k]? = some o->(k<B\/o.isWalk=false)->W'.heap[k]? = some o
theorem Stp.trans{B:Nat}{W W' W'':World}(h:Stp B W W')(k:Stp B W' W''):Stp B W W'':=
 ⟨k.os.trans h.os,k.tape.trans h.tape,k.output.trans h.output,Nat.le_trans h.drawn k.drawn,Nat.le_trans h.size k.size,fun j o e1 e2=>k.block j o (h.block j o e1 e2) e2⟩
theorem Stp.alloc(B:Nat)(W:World)(o:Obj):Stp B W (W.alloc o):=
 ⟨rfl,rfl,rfl,Nat.le_refl _,by simp,fun k o' h _=>(Below.heap_alloc W o k (Array.getElem?_eq_some_iff.1 h).1).trans h⟩
structure Rng (b r:Nat) (es:Array MapEntry) (clock:Nat) (cons:List MapEntry) (left:Nat) (w:World):Prop where
 map:w.heap[b]? = some (.map es clock)
 iter:∃ seen c0,w.heap[r]? = some (.mapIter (some b) clock seen c0)/\clock<=c0/\(leftOf es seen).size=left/\∀ x,x ∈ cons↔x ∈ es.toList/\seen.contains x.born=true
 nodup:cons.Nodup
theorem born_inj{es:Array MapEntry}{clock:Nat}(h:Stamped es clock){x y:MapEntry}(hx:x ∈ es.toList)(hy:y ∈ es.toList)(e:x.born=y.born):x=y:=by
 have hn:=h.2.1
 have:∀ (l:List MapEntry),(l.map (·.born)).Nodup->x ∈ l->y ∈ l->x=y:=by
  intro l
  induction l with
  | nil=>intro _ hx; cases hx
  | cons z l ih=>
   intro hn hx hy
   simp only[List.map_cons,List.nodup_cons,List.mem_map,not_exists,not_and] at hn
   rcases List.mem_cons.1 hx with h1|h1 <;> rcases List.mem_cons.1 hy with h2|h2
   .rw[h1,h2]
   .exact absurd (by rw[<- e,h1]) (hn.1 y h2)
   .exact absurd (by rw[e,h2]) (hn.1 x h1)
   exact ih hn.2 h1 h2
 exact this _ hn hx hy
section
variable {P:Program}{b r:Nat}{es:Array MapEntry}{clock:Nat}{cons:List MapEntry}{left:Nat}{w:World}
theorem Rng.next(h:Rng b r es clock cons left w)(hS:Stamped es clock)(ty:TypeId):
  (left=0/\(Instr.next (.pointer (some ⟨r,0,none⟩)) false ty).run P w = .ok (.tuple #[.bool false]) w)\/
  ∃ e ∈ es.toList,∃ w' left',(¬ e ∈ cons)/\(Instr.next (.pointer (some ⟨r,0,none⟩)) false ty).run P w = .ok (.tuple #[.bool true,e.key,e.val]) w'/\Rng b r es clock (cons++[e]) left' w'/\left'<left/\
   (Instr.entry (.pointer (some ⟨r,0,none⟩))).run P w' = .ok (.tuple #[e.key,e.val]) w'/\∀ B,B<=r->Stp B w w':=by
 obtain⟨seen,c0,hr,hc,hl,hm⟩:=h.iter
 rcases run_next_at (P:=P) w ty r b clock c0 seen es clock hr h.map hS.1 hc with ⟨h0,h1⟩|⟨e,he,w1,hw1,h1⟩
 .exact .inl ⟨by omega,h1⟩
 have he':e ∈ es.toList/\seen.contains e.born=false:=by
  simp only[leftOf,Array.toList_filter,List.mem_filter,Bool.not_eq_true'] at he
  exact he
 have hrb:r≠b:=fun e'=>by subst e'; have:=h.map; rw[hr] at this; cases this
 have hrl:r<w.heap.size:=(Array.getElem?_eq_some_iff.1 hr).1
 have hsame:w1.heap=w.heap:=by rcases hw1 with rfl|rfl <;> rfl
 have hdr:w.drawn<=w1.drawn:=by rcases hw1 with rfl|rfl; exact Nat.le_refl _; exact Nat.le_succ _
 have hor:w1.os=w.os/\w1.tape=w.tape/\w1.output=w.output:=by rcases hw1 with rfl|rfl <;> exact⟨rfl,rfl,rfl⟩
 have hn1:(ChangeMaps.setBlock w1 r (.mapIter (some b) clock (seen.push e.born) clock)).heap[r]? = some (.mapIter (some b) clock (seen.push e.born) clock):=by
  simp[ChangeMaps.setBlock,hsame,hrl]
 have hn2:∀ k,k≠r->(ChangeMaps.setBlock w1 r (.mapIter (some b) clock (seen.push e.born) clock)).heap[k]? = w.heap[k]?:=fun k hk=>by
  simp[ChangeMaps.setBlock,hsame,Array.getElem?_setIfInBounds,Ne.symm hk]
 refine .inr ⟨e,he'.1,ChangeMaps.setBlock w1 r (.mapIter (some b) clock (seen.push e.born) clock),(leftOf es (seen.push e.born)).size,fun hc'=>by { have:=((hm e).1 hc').2; rw[he'.2] at this; cases this },h1,⟨(hn2 b (Ne.symm hrb)).trans h.map,⟨_,clock,hn1,Nat.le_refl _,rfl,fun x=>?_⟩,?_⟩,?_,?_,fun B hB=>⟨hor.1,hor.2.1,hor.2.2,hdr,by simp[ChangeMaps.setBlock,hsame],fun k o hk ho=>?_⟩⟩
 .simp only[List.mem_append,List.mem_singleton,Array.contains_push,Bool.or_eq_true,beq_iff_eq]
  constructor
  .rintro (hx|rfl)
   .exact⟨((hm x).1 hx).1,.inl ((hm x).1 hx).2⟩
   exact⟨he'.1,.inr rfl⟩
  rintro⟨hx,hx'|hx'⟩
  .exact .inl ((hm x).2 ⟨hx,hx'⟩)
  exact .inr (born_inj hS hx he'.1 hx')
 .refine List.nodup_append.2 ⟨h.nodup,by simp,fun a ha c hc'=>?_⟩
  simp only[List.mem_singleton] at hc'
  subst hc'
  intro e'
  subst e'
  have:=((hm a).1 ha).2
  rw[he'.2] at this; cases this
 .have hsub:leftOf es (seen.push e.born)=(leftOf es seen).filter fun x=>x.born != e.born:=by
   simp only[leftOf,Array.filter_filter,Array.contains_push,Bool.not_or]
   congr 1
   funext x
   rw[Bool.and_comm]; rfl
  rw[hsub,<- hl]
  have:∀ (l:List MapEntry),e ∈ l->(l.filter fun x=>x.born != e.born).length<l.length:=by
   intro l hl'
   have h1:=List.length_filter_le (fun x:MapEntry=>x.born != e.born) l
   rcases Nat.lt_or_ge (l.filter fun x=>x.born != e.born).length l.length with h2|h2
   .exact h2
   have:=List.length_filter_eq_length_iff.1 (Nat.le_antisymm h1 h2) e hl'
   simp at this
  have:=this (leftOf es seen).toList he
  have e2:((leftOf es seen).filter fun x=>x.born != e.born).size=((leftOf es seen).toList.filter fun x=>x.born != e.born).length:=by
   rw[<- Array.toList_filter,Array.length_toList]
  rw[e2,<- Array.length_toList (xs:=leftOf es seen)]
  exact this
 .exact run_entry_at _ r b clock seen es clock e hn1 ((hn2 b (Ne.symm hrb)).trans h.map) he'.1 hS.2.1
 by_cases hkr:k=r
 .subst hkr
  rw[hr] at hk; cases hk
  rcases ho with ho|ho
  .omega
  cases ho
 rw[hn2 k hkr]; exact hk
end
end Go.EL
namespace Go.EL
open Go.IntKind (i8 i16 i32 i64 u8 u16 u32 u64)
open Go Go.RowKit Go.Proofs Go.MapKept
section
variable {P:Program}{N:Nat}{Q:Post}{fr:Fr}{S:Asrt}{ops:Array Oper}{l:List Oper}{dst:Option Nat}{ty:TypeId}{pos:String}{af:Array Edge}{g:Option (Nat×Bool)}
def WLI(P:Program)(N:Nat)(ops:Array Oper)(Q:Post)(l:List Oper)(fr:Fr)(S:Asrt):Prop:=∀ a w,Rel N fr a->S w->wpListIn Fence.wide 0 P ops Q l a w
theorem WLI.nil(h:WE N Q .normal fr S):WLI P N ops Q [] fr S:=h
theorem WLI.y0{op:Op}{v:Value}(hg:guardOK ops fr ⟨dst,op,ty,pos,af,g⟩ true)(h:Y0 P N ⟨dst,op,ty,pos,af,g⟩ fr S v)(hn:∀ c,op≠.defer c)(hd:dstOK N dst)(k:WLI P N ops Q l (putFr dst v fr) S):WLI P N ops Q (⟨dst,op,ty,pos,af,g⟩::l) fr S:=fun a w ha hs=>by
 unfold wpListIn
 rw[if_pos (ha.wanted hg)]
 refine⟨fun _ _=>trivial,?_⟩
 rw[Oper.semAt_plain _ _ _ hn,h a w ha hs]
 exact k _ w (ha.putFr v hd) hs
theorem WLI.yield{x y:Operand}{ts:Array TypeId}{loop:Nat}{u:Value}{Φ:Value->Asrt}(hg:guardOK ops fr ⟨dst,.call ⟨.value x,#[y],ts⟩,ty,pos,af,g⟩ true)(hd:dstOK N dst)(hx:fr.ev x=some (.func (.yield loop) #[] #[]))(hy:fr.ev y=some u)
  (hY:∀ w,S w->YieldAt Fence.wide 0 P loop #[u] w fun e w'=>∃ v,e = .returned v/\Φ v w') (k:∀ v,WLI P N ops Q l (putFr dst v fr) (Φ v)):WLI P N ops Q (⟨dst,.call ⟨.value x,#[y],ts⟩,ty,pos,af,g⟩::l) fr S:=fun a w ha hs=>by
 unfold wpListIn
 rw[if_pos (ha.wanted hg)]
 refine⟨fun _ _=>trivial,?_⟩
 rw[Oper.semAt_plain _ _ _ (fun c h=>by cases h)]
 obtain⟨fn,tmps,assign,body,h1,h2⟩:=hY w hs
 have:(execOp a.eval ⟨dst,.call ⟨.value x,#[y],ts⟩,ty,pos,af,g⟩).run P w = .ok (.round loop fn tmps assign body) w:=by
  simp[execOp,resolve,ha.ev hx,ha.ev hy,Deferred.ofValue,invoke,h1]
 rw[this]
 refine⟨fun h=>by simp[Fence.wide] at h,h2.mono fun e w' ⟨v,e1,e2⟩=>?_⟩
 subst e1
 exact k v _ w' (ha.putFr v hd) e2
theorem WC.regionI{id:Nat}{l:List Oper}(h:WLI P N l.toArray Q l fr S):WC P N (.region id l.toArray false) Q fr S:=fun a w ha hs=>by
 refine (wpIn_wide (n:=0)).1 (wpIn_region ?_)
 have:=wpOpsIn_eq_wpListIn (F:=Fence.wide) (n:=0) (P:=P) (ops:=l.toArray) (Q:=Q) l 0 (fun j=>by simp)
 rw[List.range_eq_range',List.size_toArray,this]
 exact h a w ha hs
end
end Go.EL
namespace Go.EL
open Go.IntKind (i8 i16 i32 i64 u8 u16 u32 u64)
open Go Go.RowKit Go.Proofs Go.MapKept
end Go.EL
namespace Go.EL
open Go.IntKind (i8 i16 i32 i64 u8 u16 u32 u64)
open Go Go.RowKit Go.Proofs Go.MapKept
theorem MapL.keys{K V:Type}{enc:K->Value}{Rv:K->Value->V->Prop}:∀ {es:List MapEntry}{D:List (K×V)},MapL enc Rv es D->es.map (·.key)=(D.map (·.1)).map enc
 | [],[],_=>rfl
 | _::_,_::_,h=>by simp only[List.map_cons,List.cons.injEq]; exact⟨h.1,MapL.keys h.2.2⟩
 | [],_::_,h=>by cases h
 | _::_,[],h=>by cases h
end Go.EL
namespace Go.EL
open Go.IntKind (i8 i16 i32 i64 u8 u16 u32 u64)
open Go Go.RowKit Go.Proofs
end Go.EL
namespace Go.EL
open Go.IntKind (i8 i16 i32 i64 u8 u16 u32 u64)
open Go Go.RowKit Go.Proofs
theorem Lo.Zl8{R L:Lo}{i:Nat}{x:Ow}(h:R.get i=some x):Lo.get (R++L) i=some x:=by
 induction R with
 | nil=>simp[Lo.get] at h
 | cons p R ih=>
  obtain⟨k,q⟩:=p
  simp only[List.cons_append]
  rw[Lo.Zh] at h ⊢
  split at h
  .rename_i e; rw[if_pos e]; exact h
  rename_i e; rw[if_neg e]; exact ih h
theorem Lo.Zk2{R L:Lo}{i:Nat}(h:i ∉ R.map (·.1)):Lo.get (R++L) i=L.get i:=by
 induction R with
 | nil=>rfl
 | cons p R ih=>
  obtain⟨k,q⟩:=p
  simp only[List.map_cons,List.mem_cons,not_or] at h
  simp only[List.cons_append]
  rw[Lo.Zh,if_neg (fun e=>h.1 e.symm)]
  exact ih h.2
theorem Lo.ZjO{R:Lo}{i:Nat}{x:Ow}(h:R.get i=some x):i ∈ R.map (·.1):=by
 induction R with
 | nil=>simp[Lo.get] at h
 | cons p R ih=>
  obtain⟨k,q⟩:=p
  rw[Lo.Zh] at h
  split at h
  .rename_i e; simp[e]
  simp only[List.map_cons,List.mem_cons]; exact .inr (ih h)
def YCtr(P:Program)(l:Nat)(u:Value)(L1:Lo)(pre:Mem->Prop)(post:Mem->Lo->Bool->Prop):Prop:=
 ∀ w G,Hp G L1 w->pre G->YieldAt Fence.wide 0 P l #[u] w fun e w'=>∃ b G' L',e = .returned (.bool b)/\Ext w G L1 w' G' L'/\post G' L' b
section
variable {P:Program}{N:Nat}{Q:Post}{fr:Fr}{S:Asrt}{ops:Array Oper}{l:List Oper}{dst:Option Nat}{ty:TypeId}{pos:String}{af:Array Edge}{g:Option (Nat×Bool)}
variable {w0:Bs}{G0 G:Mem}{L:Lo}
def WCI(P:Program)(N l:Nat)(c:Code)(Q:Post)(fr:Fr)(S:Asrt):Prop:=∀ a w,Rel N fr a->S w->c.wpIn (Fence.wide.inRound l) 0 P Q a w
theorem Zct{K:Act->World->Prop}(h:¬ LetsOut Q):¬ LetsOut (Exit.then K Q):=fun ⟨a,w,h'⟩=>h ⟨a,w,h'⟩
theorem ZaD{id:Nat}(h:¬ LetsOut Q):¬ LetsOut (Exit.inBlock id Q):=fun ⟨a,w,h'⟩=>h ⟨a,w,h'⟩
section
variable {r:Nat}
theorem WCI.seq{x y:Code}(h:WCI P N r x (Exit.then (y.wpIn (Fence.wide.inRound r) 0 P Q) Q) fr S):WCI P N r (.seq x y) Q fr S:=fun a w ha hs=>wpIn_seq (h a w ha hs)
theorem WCI.then{c:Code}(h:WCI P N r c Q fr S):WE N (Exit.then (c.wpIn (Fence.wide.inRound r) 0 P Q) Q) .normal fr S:=h
theorem WCI.skip(h:WE N Q .normal fr S):WCI P N r .skip Q fr S:=fun a w ha hs=>wpIn_skip (h a w ha hs)
theorem WCI.exit{id:Nat}(h:WE N Q (.exit id) fr S):WCI P N r (.exit id) Q fr S:=fun a w ha hs=>wpIn_exit (h a w ha hs)
theorem WCI.block{id:Nat}{c:Code}(h:WCI P N r c (Exit.inBlock id Q) fr S):WCI P N r (.block id c) Q fr S:=fun a w ha hs=>wpIn_block (h a w ha hs)
theorem WCI.region{id:Nat}{l:List Oper}(hQ:¬ LetsOut Q)(hd:l.all (fun o=>match o.op with | .defer _=>false|_=>true)=true)(h:WL P N l.toArray Q l fr S):WCI P N r (.region id l.toArray false) Q fr S:=fun a w ha hs=>
 ZhG hQ (fun o ho c e=>by have:=List.all_eq_true.1 hd o ho; rw[e] at this; cases this) (h a w ha hs)
theorem WCI.condD{c:Operand}{x y:Code}{p:Prop}[Decidable p](hc:fr.ev c=some (.bool (decide p)))(ht:p->WCI P N r x Q fr S)(hf:¬ p->WCI P N r y Q fr S):WCI P N r (.cond c x y) Q fr S:=fun a w ha hs=>by
 by_cases h:p
 .exact wpIn_cond_true (by rw[ha.ev hc,decide_eq_true h]) (ht h a w ha hs)
 exact wpIn_cond_false (by rw[ha.ev hc,decide_eq_false h]) (hf h a w ha hs)
end
theorem Ext.weaken{w w':World}{G':Mem}{L1 L2 L3:Lo}(h:Ext w G L1 w' G' L2)(hs:Lo.sub L3 L2):Ext w G L1 w' G' L3:=
 { h with loc:=fun i x hx=>h.loc i x (hs i x hx),dist:=fun i j x y hne e1 e2=>h.dist i j x y hne (hs _ _ e1) (hs _ _ e2) }
def RoundQ(w0:Bs)(G:Mem)(l:Nat)(r:Loop)(post:Mem->Lo->Bool->Prop):Post:=fun e _ w=>match e with
 | .normal=>∃ G2 L2 L3,St w0 G G2 L2 w/\L2.get 8001=some ⟨l,.loop { r with state:=.busy },0⟩/\Lo.sub L3 ((8001,some ⟨l,.loop r,0⟩)::L2)/\post G2 L3 true
 | .ret=>∃ G2 L2 L3,St w0 G G2 L2 w/\L2.get 8001=some ⟨l,.loop { r with state:=.busy },0⟩/\Lo.sub L3 ((8001,some ⟨l,.loop { r with state:=.done,pending:=some .ret },0⟩)::L2)/\post G2 L3 false
 | _=>False
theorem ZaE{l:Nat}{r:Loop}{post:Mem->Lo->Bool->Prop}:¬ LetsOut (RoundQ w0 G l r post):=fun ⟨_,_,h⟩=>h
theorem Zge{K:Act->World->Prop}:¬ LetsOut (Exit.then K fun _ _ _=>False):=fun ⟨_,_,h⟩=>h
theorem YCtr.ZiV{r:Loop}{l t:Nat}{u:Value}{Lc:Lo}{pre:Mem->Prop}{post:Mem->Lo->Bool->Prop}(hl:Lc.get 8001=some ⟨l,.loop r,0⟩)(hst:r.state = .ready)(hpe:r.pending=none)(hps:r.params = #[t])(hrel:Rel N fr ⟨r.tmps.setIfInBounds t u,[]⟩)
  (h:∀ w0 G,w0.L=Lc->pre G->WCI P N l r.assign (Exit.then (fun a w=>∃ fr1 G1 L1,Rel N fr1 a/\St w0 G G1 L1 w/\L1.get 8001=some ⟨l,.loop r,0⟩/\
   WCI P N l r.body (RoundQ w0 G l r post) fr1 (St w0 G G1 ((8001,some ⟨l,.loop { r with state:=.busy },0⟩)::L1))) fun _ _ _=>False) fr (St w0 G G Lc)):YCtr P l u Lc pre post:=by
 intro w G hH hp
 have hb:=(hH.loc 8001 _ hl).1
 refine⟨r.fn,r.tmps.setIfInBounds t u,r.assign,r.body,?_,?_⟩
 .have:=run_yield (P:=P) (args:=#[u]) hb (by rw[hps]; rfl)
  rw[hps] at this
  simpa using this
 refine roundIn_of_wpIn trivial (Code.wpIn_mono (fun e a w' hq=>?_) (h ⟨w,Lc⟩ G rfl hp _ w hrel hH.st))
 cases e with
 | normal=>
  obtain⟨fr1,G1,L1,ha1,hs1,hl1,hw⟩:=hq
  have hb1:=(hs1.loc 8001 _ hl1).1
  refine⟨_,run_beginRound hb1 hst,?_⟩
  have hs2:=hs1.putLoop (r':={ r with state:=.busy }) hl1
  refine Code.wpIn_mono (fun e a w' hq=>?_) (hw a _ ha1 hs2)
  cases e with
  | normal=>
   obtain⟨G2,L2,L3,hs3,hl3,hsub,hpost⟩:=hq
   have hb3:=(hs3.loc 8001 _ hl3).1
   refine⟨_,_,run_endRound none hb3,true,G2,L3,rfl,?_,hpost⟩
   have hs4:=hs3.putLoop (r':={ { r with state:=.busy } with state:=if (none:Option Code).isNone then .ready else .done,pending:=none }) hl3
   have e1:({ { r with state:=.busy } with state:=if (none:Option Code).isNone then .ready else .done,pending:=none }:Loop)=r:=by
    obtain⟨s,p,f,t,ps,as1,bo,d⟩:=r
    simp only at hst hpe
    subst hst hpe
    rfl
   rw[e1] at hs4 ⊢
   exact hs4.toExt.weaken hsub
  | ret=>
   obtain⟨G2,L2,L3,hs3,hl3,hsub,hpost⟩:=hq
   have hb3:=(hs3.loc 8001 _ hl3).1
   refine⟨_,_,run_endRound (some .ret) hb3,false,G2,L3,rfl,?_,hpost⟩
   have hs4:=hs3.putLoop (r':={ { r with state:=.busy } with state:=if (some Code.ret).isNone then .ready else .done,pending:=some .ret }) hl3
   exact hs4.toExt.weaken hsub
  | exit id=>exact hq.elim
  | goto t=>exact hq.elim
  | panic c=>exact hq.elim
  | outgrown=>exact hq.elim
 | ret=>exact hq.elim
 | exit id=>exact hq.elim
 | goto t=>exact hq.elim
 | panic c=>exact hq.elim
 | outgrown=>exact hq.elim
end
end Go.EL
namespace Go.EL
open Go.IntKind (i8 i16 i32 i64 u8 u16 u32 u64)
open Go Go.RowKit Go.Proofs
section
variable {P:Program}{N:Nat}{Q:Post}{fr:Fr}{ops:Array Oper}{l:List Oper}{fn:Func}{w0:Bs}{G0 G:Mem}{L:Lo}{ty:TypeId}{pos:String}{af:Array Edge}{g:Option (Nat×Bool)}{S:Asrt}
def WLD(P:Program)(N:Nat)(D:List Deferred)(ops:Array Oper)(Q:Post)(l:List Oper)(fr:Fr)(S:Asrt):Prop:=∀ a w,Rel N fr a->S w->wpList P ops Q l { a with defers:=D } w
theorem WLD.nil{D:List Deferred}(h:∀ a w,Rel N fr a->S w->Q .normal { a with defers:=D } w):WLD P N D ops Q [] fr S:=h
def RetD(fn:Func)(P:Program)(w0:Bs)(G0:Mem)(d:Nat)(post:Mem->Value->Prop)(tmps:Array Value)(w:World):Prop:=
 ∃ G2 L2 v,St w0 G0 G2 L2 w/\L2.get 8002=some ⟨d,.deferred (some []),0⟩/\(∀ w',St w0 G0 G2 ((8002,some ⟨d,.deferred none,0⟩)::L2) w'->(results fn tmps).run P w' = .ok v w')/\post G2 v
theorem RetD.of{rvs:List ResultVar}{d:Nat}{post:Mem->Value->Prop}{a:Act}{w:World}(vs:List Value)(hr:fn.results=rvs.toArray)(hl:rvs.length=vs.length)(hs:St w0 G0 G L w)(ha:Rel N fr a)(hd:L.get 8002=some ⟨d,.deferred (some []),0⟩)
  (h:∀ (i:Nat) (rv:ResultVar) (v:Value),rvs[i]? = some rv->vs[i]? = some v->RV P fr ((8002,some ⟨d,.deferred none,0⟩)::L) rv v) (hp:post G (if h:vs.toArray.size=1 then vs.toArray[0] else .tuple vs.toArray)):RetD fn P w0 G0 d post a.tmps w:=
 ⟨G,L,_,hs,hd,fun _ hs'=>Zej hr hl (fun i rv v e1 e2=>(h i rv v e1 e2).run ha hs'),hp⟩
theorem Rel.round{a:Act}{t:Nat}{u:Value}(ha:Rel N fr a)(ht:t<N):Rel N ((t,u)::fr) ⟨a.tmps.setIfInBounds t u,[]⟩:=by
 have h:=ha.put u ht
 have e:a.put (some t) u=⟨a.tmps.setIfInBounds t u,[]⟩:=by simp[Act.put,ha.defers]
 rw[e] at h
 exact h
end
end Go.EL
namespace Go.EL
open Go.IntKind (i8 i16 i32 i64 u8 u16 u32 u64)
open Go Go.RowKit Go.Proofs
section
variable {P:Program}{N:Nat}{Q:Post}{fr:Fr}{Bt:Asrt}{w0:Bs}{G0 G:Mem}{L:Lo}{ops:Array Oper}{fs:List Bool}{l:List Oper}{det:Fr}{und:Und}
def RowM{α:Type}(r:Rp α)(e:TypeId)(mk:Option Addr->Nat->Value)(d:Nat)(xs:List α):Value->Gx->Prop:=fun v g=>∃ p c tk,v=mk p c/\RowR r e g.m (.slice p xs.length c) xs tk/\∀ y,tk=some y->g.x y.b=some (d,y.o)
variable {α:Type}{r:Rp α}{e:TypeId}{mk:Option Addr->Nat->Value}{d:Nat}{xs:List α}
theorem RowM.mono{v:Value}{g g':Gx}(hle:Gx.leE d g g'):RowM r e mk d xs v g->RowM r e mk d xs v g':=fun ⟨p,c,tk,h1,h2,h3⟩=>⟨p,c,tk,h1,h2.mono hle.1,fun y hy=>hle.2 _ _ (h3 y hy)⟩
theorem RowM.drop{d':Nat}{v:Value}{g:Gx}{tk:Option Ow}(h:RowM r e mk d xs v g)(hne:Nat.beq d d'=false)(ht:∀ y,tk=some y->g.x y.b=some (d',y.o)):RowM r e mk d xs v (g.drop tk):=by
 obtain⟨p,c,tk',h1,h2,h3⟩:=h
 obtain⟨p',c',tk2,k1,k2,k3⟩:=RowX.drop (v:=.slice p xs.length c) ⟨p,c,tk',rfl,h2,h3⟩ hne ht
 cases k1
 exact⟨p,c,tk2,h1,k2,k3⟩
end
end Go.EL
namespace Go.EL
open Go.IntKind (i8 i16 i32 i64 u8 u16 u32 u64)
open Go Go.RowKit Go.Proofs
section
variable {P:Program}{N:Nat}{Q:Post}{fr:Fr}{S:Asrt}{ops:Array Oper}{l:List Oper}
def skB(ops:Array Oper)(fr:Fr)(N j:Nat)(c:Bool)(ds:List (Option Nat)):Bool:=
 match (ops[j]?).bind (·.dst) with
 | some d=>(match fr.get d with|some (.bool v)=>v == !c|_=>false) && ds.all fun x=>match x with|some t=>Nat.blt t N && !(Nat.beq t d)|none=>true
 | none=>false
theorem ZmA{j:Nat}{c:Bool}{ds:List (Option Nat)}(h:skB ops fr N j c ds=true):∃ d,(ops[j]?).bind (·.dst)=some d/\fr.get d=some (.bool (!c))/\∀ x ∈ ds,dstOK N x/\x≠some d:=by
 unfold skB at h
 split at h
 .rename_i d hd
  rw[Bool.and_eq_true,List.all_eq_true] at h
  refine⟨d,hd,?_,fun x hx=>?_⟩
  .have h1:=h.1
   split at h1
   .rename_i v hv
    rw[hv,beq_iff_eq.1 h1]
   cases h1
  have h2:=h.2 x hx
  cases x with
  | none=>exact⟨trivial,by simp⟩
  | some t=>
   rw[Bool.and_eq_true] at h2
   refine⟨h2.1,fun e=>?_⟩
   cases e
   have:=h2.2
   simp at this
 cases h
theorem Zm3{d:Nat}{x:Option Nat}{v:Value}(h:x≠some d):(putFr x v fr).get d=fr.get d:=by
 cases x with
 | none=>rfl
 | some t=>
  show (bif Nat.beq t d then some v else fr.get d)=_
  have:Nat.beq t d=false:=by
   cases hb:Nat.beq t d with
   | false=>rfl
   | true=>exact absurd (by rw[Nat.eq_of_beq_eq_true hb]) h
  rw[this]; rfl
theorem skStep{j d:Nat}{c:Bool}{dst:Option Nat}{op:Op}{ty:TypeId}{pos:String}{af:Array Edge}(h1:(ops[j]?).bind (·.dst)=some d)(h2:fr.get d=some (.bool (!c)))(hd:dstOK N dst)(k:WL P N ops Q l (putFr dst undef fr) S):WL P N ops Q (⟨dst,op,ty,pos,af,some (j,c)⟩::l) fr S:=WL.skip (Zma h1 h2) hd k
theorem skCons{j:Nat}{c:Bool}{x:Option Nat}{ds:List (Option Nat)}{op:Op}{ty:TypeId}{pos:String}{af:Array Edge}(h:skB ops fr N j c (x::ds)=true)(k:skB ops (putFr x undef fr) N j c ds=true->WL P N ops Q l (putFr x undef fr) S):WL P N ops Q (⟨x,op,ty,pos,af,some (j,c)⟩::l) fr S:=by
 obtain⟨d,h1,h2,h3⟩:=ZmA h
 have hx:=h3 x (by simp)
 refine skStep h1 h2 hx.1 (k ?_)
 unfold skB at h ⊢
 rw[h1] at h ⊢
 simp only[List.all_cons,Bool.and_eq_true] at h ⊢
 rw[Zm3 hx.2]
 exact⟨h.1,h.2.2⟩
variable {j:Nat}{c:Bool}{d0 d1 d2 d3 d4 d5 d6 d7 d8:Option Nat}{o0 o1 o2 o3 o4 o5 o6 o7 o8:Op}{t0 t1 t2 t3 t4 t5 t6 t7 t8:TypeId}{p0 p1 p2 p3 p4 p5 p6 p7 p8:String}{a0 a1 a2 a3 a4 a5 a6 a7 a8:Array Edge}
theorem sn2(h:skB ops fr N j c [d0,d1]=true)(k:WL P N ops Q l (putFr d1 undef (putFr d0 undef fr)) S):WL P N ops Q (⟨d0,o0,t0,p0,a0,some (j,c)⟩::⟨d1,o1,t1,p1,a1,some (j,c)⟩::l) fr S:=skCons h fun h=>skCons h fun _=>k
theorem sn3(h:skB ops fr N j c [d0,d1,d2]=true)(k:WL P N ops Q l (putFr d2 undef (putFr d1 undef (putFr d0 undef fr))) S):WL P N ops Q (⟨d0,o0,t0,p0,a0,some (j,c)⟩::⟨d1,o1,t1,p1,a1,some (j,c)⟩::⟨d2,o2,t2,p2,a2,some (j,c)⟩::l) fr S:=skCons h fun h=>sn2 h k
theorem sn4(h:skB ops fr N j c [d0,d1,d2,d3]=true)(k:WL P N ops Q l (putFr d3 undef (putFr d2 undef (putFr d1 undef (putFr d0 undef fr)))) S):WL P N ops Q (⟨d0,o0,t0,p0,a0,some (j,c)⟩::⟨d1,o1,t1,p1,a1,some (j,c)⟩::⟨d2,o2,t2,p2,a2,some (j,c)⟩::⟨d3,o3,t3,p3,a3,some (j,c)⟩::l) fr S:=skCons h fun h=>sn3 h k
theorem sn5(h:skB ops fr N j c [d0,d1,d2,d3,d4]=true)(k:WL P N ops Q l (putFr d4 undef (putFr d3 undef (putFr d2 undef (putFr d1 undef (putFr d0 undef fr))))) S):WL P N ops Q (⟨d0,o0,t0,p0,a0,some (j,c)⟩::⟨d1,o1,t1,p1,a1,some (j,c)⟩::⟨d2,o2,t2,p2,a2,some (j,c)⟩::⟨d3,o3,t3,p3,a3,some (j,c)⟩::⟨d4,o4,t4,p4,a4,some (j,c)⟩::l) fr S:=skCons h fun h=>sn4 h k
theorem sn6(h:skB ops fr N j c [d0,d1,d2,d3,d4,d5]=true)(k:WL P N ops Q l (putFr d5 undef (putFr d4 undef (putFr d3 undef (putFr d2 undef (putFr d1 undef (putFr d0 undef fr)))))) S):WL P N ops Q (⟨d0,o0,t0,p0,a0,some (j,c)⟩::⟨d1,o1,t1,p1,a1,some (j,c)⟩::⟨d2,o2,t2,p2,a2,some (j,c)⟩::⟨d3,o3,t3,p3,a3,some (j,c)⟩::⟨d4,o4,t4,p4,a4,some (j,c)⟩::⟨d5,o5,t5,p5,a5,some (j,c)⟩::l) fr S:=skCons h fun h=>sn5 h k
theorem sn7(h:skB ops fr N j c [d0,d1,d2,d3,d4,d5,d6]=true)(k:WL P N ops Q l (putFr d6 undef (putFr d5 undef (putFr d4 undef (putFr d3 undef (putFr d2 undef (putFr d1 undef (putFr d0 undef fr))))))) S):WL P N ops Q (⟨d0,o0,t0,p0,a0,some (j,c)⟩::⟨d1,o1,t1,p1,a1,some (j,c)⟩::⟨d2,o2,t2,p2,a2,some (j,c)⟩::⟨d3,o3,t3,p3,a3,some (j,c)⟩::⟨d4,o4,t4,p4,a4,some (j,c)⟩::⟨d5,o5,t5,p5,a5,some (j,c)⟩::⟨d6,o6,t6,p6,a6,some (j,c)⟩::l) fr S:=skCons h fun h=>sn6 h k
theorem sn8(h:skB ops fr N j c [d0,d1,d2,d3,d4,d5,d6,d7]=true)(k:WL P N ops Q l (putFr d7 undef (putFr d6 undef (putFr d5 undef (putFr d4 undef (putFr d3 undef (putFr d2 undef (putFr d1 undef (putFr d0 undef fr)))))))) S):WL P N ops Q (⟨d0,o0,t0,p0,a0,some (j,c)⟩::⟨d1,o1,t1,p1,a1,some (j,c)⟩::⟨d2,o2,t2,p2,a2,some (j,c)⟩::⟨d3,o3,t3,p3,a3,some (j,c)⟩::⟨d4,o4,t4,p4,a4,some (j,c)⟩::⟨d5,o5,t5,p5,a5,some (j,c)⟩::⟨d6,o6,t6,p6,a6,some (j,c)⟩::⟨d7,o7,t7,p7,a7,some (j,c)⟩::l) fr S:=skCons h fun h=>sn7 h k
end
end Go.EL
namespace Go.EL
open Go.IntKind (i8 i16 i32 i64 u8 u16 u32 u64)
open Go Go.RowKit Go.Proofs
end Go.EL
namespace Go.EL
open Go.IntKind (i8 i16 i32 i64 u8 u16 u32 u64)
open Go Go.RowKit Go.Proofs Go.MapKept
section
variable {P:Program}{N:Nat}{Q:Post}{fr:Fr}{S:Asrt}{ops:Array Oper}{l:List Oper}{dst:Option Nat}{ty:TypeId}{pos:String}{af:Array Edge}{g:Option (Nat×Bool)}{w0:Bs}{G0 G:Mem}{L:Lo}
theorem YC.ofB{f:FuncId}{x:Operand}{args:Array Operand}{ats:Array TypeId}{vs:List Value}{rc:Value}(he:Enters P f)(hx:fr.ev x=some (.func (.func f) #[rc] #[]))(hv:fr.evs args.toList=some vs):
  YC P N ⟨dst,.call ⟨.value x,args,ats⟩,ty,pos,af,g⟩ fr S f (rc::vs).toArray:=fun a w ha _=>by
 have e1:args.map a.eval=vs.toArray:=by apply Array.ext'; simpa using ha.evs _ _ hv
 simpa [execOp,resolve,e1,ha.ev hx,Deferred.ofValue,invoke] using he (rc::vs).toArray w
end
section
variable {P:Program}{kt:TypeId}{K V:Type} [DecidableEq K] {ky:Ky P kt K}{r:Rp V}
variable {N:Nat}{Q:Post}{fr:Fr}{S:Asrt}{ops:Array Oper}{l:List Oper}{dst:Option Nat}{ty:TypeId}{pos:String}{af:Array Edge}{g:Option (Nat×Bool)}{w0:Bs}{G0 G:Mem}{L:Lo}
variable {fs:List Bool}{det:Fr}{und:Und}{d:Nat}{op:Op}
def MapG(ky:Ky P kt K)(r:Rp V)(d:Nat)(D:List (K×V)):Value->Gx->Prop:=fun v g=>∃ b tk,v = .map (some b)/\MapR ky (RvA r g.m) (.map (some b)) D tk/\∀ y,tk=some y->g.x y.b=some (d,y.o)
omit [DecidableEq K] in
theorem MapG.mono{v:Value}{D:List (K×V)}{g g':Gx}(hle:Gx.leE d g g'):MapG ky r d D v g->MapG ky r d D v g':=fun ⟨b,tk,h1,h2,h3⟩=>⟨b,tk,h1,h2.monoA hle.1,fun y hy=>hle.2 _ _ (h3 y hy)⟩
omit [DecidableEq K] in
theorem MapG.drop{d':Nat}{v:Value}{D:List (K×V)}{g:Gx}{tk:Option Ow}(h:MapG ky r d D v g)(hne:Nat.beq d d'=false)(ht:∀ y,tk=some y->g.x y.b=some (d',y.o)):MapG ky r d D v (g.drop tk):=
 h.mono (g':=g.drop tk) ⟨(fun _ _ _ h=>h:Mem.le g.m g.m),fun b o hb=>by
  have hn:¬ tk.any (fun y=>Nat.beq y.b b)=true:=fun ha=>by
   obtain⟨y,h1,h2⟩:=ZfQ.1 ha
   have:=ht y h1
   rw[h2,hb] at this
   cases this
   simp at hne
  simp only[Gx.drop,if_neg hn]
  exact hb⟩
omit [DecidableEq K] in
omit [DecidableEq K] in
end
end Go.EL
namespace Go.EL
open Go.IntKind (i8 i16 i32 i64 u8 u16 u32 u64)
open Go Go.RowKit Go.Proofs Go.MapKept
theorem CtrL.absurd{P:Program}{f:FuncId}{args:Array Value}{L0:Lo}{pre:Mem->Prop}{post:Mem->Lo->Value->Prop}(h:∀ G,pre G->False):CtrL P f args L0 pre post:=fun _ G _ hp=>(h G hp).elim
end Go.EL
namespace Go.EL
open Go.IntKind (i8 i16 i32 i64 u8 u16 u32 u64)
open Go Go.RowKit Go.Proofs Go.MapKept
def wrow{α:Type}(W:Nat->Nat->α)(i n:Nat):List α:=(List.range n).map fun k=>W i (k+1)
structure PwN {α:Type}(r:Rp α) (e tk tq:TypeId) (W:Nat->Nat->α) (q:List α) (Nf:Nat->Nat) (G:Mem) (T:Lo) (kb qb:Nat):Prop where
 keys:∀ p ∈ T,8000000<=p.1
 zero:T.zero
 known:∃ cs:List Value,T.get 8000101=some ⟨kb,.cells cs.toArray tk (0,0),0⟩/\cs.length=8/\∀ i,i<8->∃ p c,cs[i]? = some (.slice p (Nf i) c)/\RowR r e G (.slice p (Nf i) c) (wrow W i (Nf i)) (T.get (kcode (i:Int)))
 box:∃ cs u,T.get 8000103=some ⟨qb,.cells cs.toArray tq (0,0),0⟩/\ArRd r 8 G cs u q
def PwR{α:Type}(r:Rp α)(e tk tq:TypeId)(W:Nat->Nat->α)(q:List α)(G:Mem)(T:Lo)(kb qb:Nat):Prop:=∃ Nf,PwN r e tk tq W q Nf G T kb qb
theorem Zc3(i:Nat):kcode (i:Int)=8000000+2*i:=by simp[kcode]
theorem Lo.Zl9{T L:Lo}(hT:∀ p ∈ T,8000000<=p.1){i:Nat}(hi:i<8000000):(T++L).get i=L.get i:=by
 induction T with
 | nil=>rfl
 | cons p T ih=>
  have:=hT p (by simp)
  obtain⟨j,x⟩:=p
  rw[List.cons_append,Lo.Zh,if_neg (by simp only at this; omega)]
  exact ih fun q hq=>hT q (by simp[hq])
theorem Lo.Zl7{T:Lo}(hT:∀ p ∈ T,8000000<=p.1)(i:Nat)(x:Ow)(h:T.get i=some x):8000000<=i:=by
 by_cases hi:i<8000000
 .have:=Lo.Zl9 (L:=[]) hT hi
  rw[List.append_nil] at this
  rw[this] at h; simp[Lo.get] at h
 omega
section
variable {α:Type}{r:Rp α}{e tk tq:TypeId}{W:Nat->Nat->α}{q:List α}{Nf:Nat->Nat}{G G':Mem}{T:Lo}{kb qb:Nat}
theorem PwN.mono(h:PwN r e tk tq W q Nf G T kb qb)(hle:Mem.le G G'):PwN r e tk tq W q Nf G' T kb qb:=
 ⟨h.keys,h.zero,by
  obtain⟨cs,h1,h2,h3⟩:=h.known
  exact⟨cs,h1,h2,fun i hi=>by obtain⟨p,c,q1,q2⟩:=h3 i hi; exact⟨p,c,q1,q2.mono hle⟩⟩,by
  obtain⟨cs,u,h1,h2⟩:=h.box
  exact⟨cs,u,h1,h2.mono hle⟩⟩
theorem PwR.mono(h:PwR r e tk tq W q G T kb qb)(hle:Mem.le G G'):PwR r e tk tq W q G' T kb qb:=let ⟨Nf,h⟩:=h; ⟨Nf,h.mono hle⟩
theorem PwR.keys(h:PwR r e tk tq W q G T kb qb):∀ p ∈ T,8000000<=p.1:=let ⟨_,h⟩:=h; h.keys
theorem PwR.high(h:PwR r e tk tq W q G T kb qb):∀ i x,T.get i=some x->8000000<=i:=fun i x=>Lo.Zl7 h.keys i x
theorem PwN.put(h:PwN r e tk tq W q Nf G T kb qb){cs:List Value}(hcs:T.get 8000101=some ⟨kb,.cells cs.toArray tk (0,0),0⟩){j n:Nat}{p:Option Addr}{c:Nat}{t':Option Ow}(hj:j<8)(hrow:RowR r e G (.slice p n c) (wrow W j n) t'):
  PwN r e tk tq W q (fun i=>if i=j then n else Nf i) G ((8000101,some ⟨kb,.cells (cs.set j (.slice p n c)).toArray tk (0,0),0⟩)::(kcode (j:Int),t')::T) kb qb:=by
 obtain⟨cs',h1,h2,h3⟩:=h.known
 have hc:cs'=cs:=by rw[h1] at hcs; simpa using hcs
 subst hc
 refine⟨fun p hp=>?_,fun p hp x hx=>?_,⟨_,by rw[Lo.Zh,if_pos rfl],by rw[List.length_set,h2],fun i hi=>?_⟩,?_⟩
 .rcases List.mem_cons.1 hp with rfl|hp
  .show 8000000<=8000101; omega
  rcases List.mem_cons.1 hp with rfl|hp
  .exact ZiO _
  exact h.keys p hp
 .rcases List.mem_cons.1 hp with rfl|hp
  .cases hx; rfl
  rcases List.mem_cons.1 hp with rfl|hp
  .exact hrow.zero hx
  exact h.zero p hp x hx
 .by_cases hij:i=j
  .subst hij
   refine⟨p,c,?_,?_⟩
   .rw[List.getElem?_set,if_pos rfl,if_pos (by omega),if_pos rfl]
   rw[if_pos rfl,Lo.Zh,if_neg (by rw[Zc3]; omega),Lo.Zh,if_pos rfl]
   exact hrow
  obtain⟨p',c',q1,q2⟩:=h3 i hi
  refine⟨p',c',?_,?_⟩
  .rw[List.getElem?_set,if_neg (fun e=>hij e.symm),if_neg hij]; exact q1
  rw[if_neg hij,Lo.Zh,if_neg (by rw[Zc3]; omega),Lo.Zh,if_neg (by rw[Zc3,Zc3]; omega)]
  exact q2
 obtain⟨bs,u,q1,q2⟩:=h.box
 refine⟨bs,u,?_,q2⟩
 rw[Lo.Zh,if_neg (by decide),Lo.Zh,if_neg (by rw[Zc3]; omega)]
 exact q1
end
end Go.EL
namespace Go.EL
open Go.IntKind (i8 i16 i32 i64 u8 u16 u32 u64)
open Go Go.RowKit Go.Proofs Go.MapKept
section
variable {P:Program}{N:Nat}{Q:Post}{fr:Fr}{ops:Array Oper}{l:List Oper}{dst:Option Nat}{ty:TypeId}{pos:String}{af:Array Edge}{g:Option (Nat×Bool)}{w0:Bs}{G0 G:Mem}{L:Lo}{α:Type}{r:Rp α}
theorem Zku{t e:TypeId}{n cap sz:Nat}{p:Option Addr}{xs:List α}(ht:P.underlying t=some (.slice e))(hsz:(P.info? e).map (·.size)=some sz)(h:SlR r G (.slice p n cap) xs){k2 k3:IntKind}{hi:Int}(hb:0<=(0:Int)/\(0:Int)<=hi/\hi<=(xs.length:Int))(w:World):
  ∃ q,(Instr.slice t (.slice p n cap) none (some (.int k2 hi)) (some (.int k3 hi))).run P w = .ok (.slice q hi.toNat hi.toNat) w/\SlR r G (.slice q hi.toNat hi.toNat) ((xs.take hi.toNat).drop (0:Int).toNat):=by
 have hn:n=xs.length:=by obtain⟨p',cap',cs,h1,_⟩:=h; cases h1; rfl
 have hcap:n<=cap/\cap<=9223372036854775807:=by obtain⟨p',cap',cs,h1,h2,_⟩:=h; cases h1; exact h2
 have hspot:∀ a,p=some a->0<cap->a.spot=none:=by obtain⟨p',cap',cs,h1,_,h2,_⟩:=h; cases h1; exact h2
 have hbs:(Instr.sliceBounds true n cap none (some (.int k2 hi)) (some (.int k3 hi))).run P w = .ok (0,hi.toNat,hi.toNat) w:=by
  have h1:0<=hi/\hi<=(cap:Int):=by omega
  simp[Instr.sliceBounds,Instr.sliceBound,asIntOf,h1]
  intro h; omega
 refine⟨if hi.toNat=0 then p else p.map (·.add (0*sz)),?_,?_⟩
 .simp[Instr.slice,run_underlying ht,hbs,run_sizeOf hsz]
 have key:=h.take (lo:=0) (hi:=hi.toNat) (q:=if hi.toNat=0 then p else p.map (·.add (0*sz))) (c:=hi.toNat) (by omega) (by omega) (by
  by_cases hc:hi.toNat=0
  .right; rw[if_pos hc]; exact⟨by omega,rfl,by omega⟩
  left
  rw[if_neg hc]
  cases p with
  | none=>rfl
  | some a=>
   obtain⟨ab,ao,ap⟩:=a
   have:=hspot _ rfl (by omega)
   dsimp only at this
   subst this
   simp only[Option.map_some,Z1,Nat.zero_mul]) (by omega)
 exact key
theorem WL.slice3{t e:TypeId}{x x2 x3:Operand}{k2 k3:IntKind}{n cap sz:Nat}{p:Option Addr}{xs:List α}{hi:Int}(hg:guardOK ops fr ⟨dst,.slice t x none (some x2) (some x3),ty,pos,af,g⟩ true)(hd:dstOK N dst)
  (ht:P.underlying t=some (.slice e)) (hsz:(P.info? e).map (·.size)=some sz) (_:sz=r.size) (h:SlR r G (.slice p n cap) xs) (hx:fr.ev x=some (.slice p n cap)) (h2:fr.ev x2=some (.int k2 hi)) (h3:fr.ev x3=some (.int k3 hi)) (hb:0<=(0:Int)/\(0:Int)<=hi/\hi<=(xs.length:Int))
  (k:∀ p',SlR r G (.slice p' ((xs.take hi.toNat).drop (0:Int).toNat).length ((xs.take hi.toNat).drop (0:Int).toNat).length) ((xs.take hi.toNat).drop (0:Int).toNat)->WL P N ops Q l (putFr dst (.slice p' ((xs.take hi.toNat).drop (0:Int).toNat).length ((xs.take hi.toNat).drop (0:Int).toNat).length) fr) (St w0 G0 G L)) :
  WL P N ops Q (⟨dst,.slice t x none (some x2) (some x3),ty,pos,af,g⟩::l) fr (St w0 G0 G L):=by
 have hl:((xs.take hi.toNat).drop (0:Int).toNat).length=hi.toNat:=by simp; omega
 rw[hl] at k
 refine WL.yr (Φ:=fun v w=>(∃ q,v = .slice q hi.toNat hi.toNat/\SlR r G (.slice q hi.toNat hi.toNat) ((xs.take hi.toNat).drop (0:Int).toNat))/\St w0 G0 G L w) hg (fun a w ha hs=>?_) hd (fun v a w ha ⟨h1,h2⟩=>?_)
 .obtain⟨q,hr,hv⟩:=Zku (k2:=k2) (k3:=k3) ht hsz h hb w
  have:(execOp a.eval ⟨dst,.slice t x none (some x2) (some x3),ty,pos,af,g⟩).run P w = .ok (.value (.slice q hi.toNat hi.toNat)) w:=by
   simp only[execOp,ha.ev hx,ha.ev h2,ha.ev h3,Option.map_none,Option.map_some]
   simp[Instr.sliceAt,run_underlying ht,hr]
  rw[this]
  exact⟨⟨q,rfl,hv⟩,hs⟩
 obtain⟨q,rfl,hv⟩:=h1
 exact k q hv a w ha h2
end
end Go.EL
namespace Go.EL
open Go.IntKind (i8 i16 i32 i64 u8 u16 u32 u64)
open Go Go.RowKit Go.Proofs Go.MapKept
end Go.EL
namespace Go.EL
open Go.IntKind (i8 i16 i32 i64 u8 u16 u32 u64)
open Go Go.RowKit Go.Proofs Go.MapKept
section
variable {P:Program}{Q:Post}{md:Region.Mode}
def SameOp(o o':Oper):Prop:=o'.dst=o.dst/\o'.op=o.op/\o'.type=o.type/\o'.pos=o.pos/\o.guard=none/\o'.guard=none
theorem SameOp.wp{o o':Oper}(h:SameOp o o'){a:Act}{w:World}{K K':Act->World->Prop}(hK:∀ a w,K' a w->K a w)(k:o'.wp P a w K' Q):o.wp P a w K Q:=by
 obtain⟨d,op,ty,pos,af,g⟩:=o
 obtain⟨d',op',ty',pos',af',g'⟩:=o'
 obtain⟨h1,h2,h3,h4,h5,h6⟩:=h
 simp only at h1 h2 h3 h4 h5 h6
 subst h1 h2 h3 h4 h5 h6
 exact Oper.Zjf hK k
theorem SameOp.asks{o o':Oper}(h:SameOp o o'){a:Act}{w:World}(k:o'.asks P a w):o.asks P a w:=by
 obtain⟨d,op,ty,pos,af,g⟩:=o
 obtain⟨d',op',ty',pos',af',g'⟩:=o'
 obtain⟨h1,h2,h3,h4,h5,h6⟩:=h
 simp only at h1 h2 h3 h4 h5 h6
 subst h1 h2 h3 h4 h5 h6
 exact k
structure Turned (md:Region.Mode) (l l':Array Oper) (σ τ:Nat->Nat):Prop where
 size:l'.size=l.size
 lt:∀ i,i<l.size->σ i<l.size
 lt':∀ j,j<l.size->τ j<l.size
 st:∀ j,j<l.size->σ (τ j)=j
 inj:∀ i k,i<l.size->k<l.size->σ i=σ k->i=k
 op:∀ i o,l[i]? = some o->∃ o',l'[σ i]? = some o'/\SameOp o o'/\(∀ e ∈ o.after,Region.binds md e=true->e.on<l.size/\∃ e' ∈ o'.after,Region.binds md e'=true/\e'.on=σ e.on)/\∀ e' ∈ o'.after,Region.binds md e'=true->∃ e ∈ o.after,Region.binds md e=true/\e'.on=σ e.on
theorem Turned.any{l l':Array Oper}{σ τ:Nat->Nat}(h:Turned md l l' σ τ):∀ (fuel:Nat) (m m':Array Bool) (a:Act) (w:World),m.size=l.size->m'.size=l.size->(∀ i,i<l.size->m'[σ i]? = m[i]?)->
  wpAny P md l' Q fuel m' a w->wpAny P md l Q fuel m a w:=by
 have at':∀ (m m':Array Bool),m.size=l.size->m'.size=l.size->(∀ i,i<l.size->m'[σ i]? = m[i]?)->∀ i,i<l.size->(i ∈ Region.ready md l m↔σ i ∈ Region.ready md l' m'):=by
  intro m m' hm hm' hmm i hi
  rw[mem_ready,mem_ready]
  have hb:∀ k d,k<l.size->m'.getD (σ k) d=m.getD k d:=fun k d hk=>by rw[Array.getD_eq_getD_getElem?,Array.getD_eq_getD_getElem?,hmm k hk]
  rw[hb i true hi]
  constructor
  .rintro⟨h1,o,ho,h2⟩
   obtain⟨o',ho',_,e1,e2⟩:=h.op i o ho
   refine⟨h1,o',ho',fun e' he' hb'=>?_⟩
   obtain⟨e,he,hbe,eq⟩:=e2 e' he' hb'
   rw[eq,hb e.on false (e1 e he hbe).1]
   exact h2 e he hbe
  rintro⟨h1,o',ho',h2⟩
  obtain⟨o,ho⟩:∃ o,l[i]? = some o:=⟨_,Array.getElem?_eq_getElem hi⟩
  obtain⟨o2,ho2,_,e1,e2⟩:=h.op i o ho
  rw[ho'] at ho2
  cases ho2
  refine⟨h1,o,ho,fun e he hbe=>?_⟩
  obtain⟨q1,e',he',hb',eq⟩:=e1 e he hbe
  rw[<- hb e.on false q1,<- eq]
  exact h2 e' he' hb'
 have inl:∀ (m:Array Bool) i,i ∈ Region.ready md l m->i<l.size:=fun m i hi=>by
  obtain⟨_,o,ho,_⟩:=mem_ready.1 hi
  exact (Array.getElem?_eq_some_iff.1 ho).1
 have inl':∀ (m:Array Bool) i,i ∈ Region.ready md l' m->i<l.size:=fun m i hi=>by
  obtain⟨_,o,ho,_⟩:=mem_ready.1 hi
  have:=(Array.getElem?_eq_some_iff.1 ho).1
  rw[h.size] at this
  exact this
 have none':∀ (m m':Array Bool),m.size=l.size->m'.size=l.size->(∀ i,i<l.size->m'[σ i]? = m[i]?)->Region.ready md l m=[]->Region.ready md l' m'=[]:=by
  intro m m' hm hm' hmm h0
  refine List.eq_nil_iff_forall_not_mem.2 fun j hj=>?_
  have hjl:=inl' m' j hj
  have:=(at' m m' hm hm' hmm (τ j) (h.lt' j hjl)).2 (by rw[h.st j hjl]; exact hj)
  rw[h0] at this
  cases this
 intro fuel
 induction fuel with
 | zero=>
  intro m m' a w hm hm' hmm k
  refine⟨?_,k.2⟩
  refine List.eq_nil_iff_forall_not_mem.2 fun i hi=>?_
  have:=(at' m m' hm hm' hmm i (inl m i hi)).1 hi
  rw[k.1] at this
  cases this
 | succ fuel ih=>
  intro m m' a w hm hm' hmm k
  refine⟨fun h0=>k.1 (none' m m' hm hm' hmm h0),fun i hi=>?_⟩
  have hil:=inl m i hi
  have hk:=k.2 (σ i) ((at' m m' hm hm' hmm i hil).1 hi)
  obtain⟨o,ho⟩:∃ o,l[i]? = some o:=⟨_,Array.getElem?_eq_getElem hil⟩
  obtain⟨o',ho',hs,_⟩:=h.op i o ho
  have next:∀ a w,wpAny P md l' Q fuel (m'.setIfInBounds (σ i) true) a w->wpAny P md l Q fuel (m.setIfInBounds i true) a w:=fun a w=>by
   refine ih _ _ a w (by simpa using hm) (by simpa using hm') fun q hq=>?_
   rw[Array.getElem?_setIfInBounds,Array.getElem?_setIfInBounds]
   by_cases e:i=q
   .subst e
    rw[if_pos rfl,if_pos rfl,hm,hm',if_pos hil,if_pos (h.lt i hil)]
   rw[if_neg e,if_neg fun e2=>e (h.inj i q hil hq e2)]
   exact hmm q hq
  unfold wpOp at hk ⊢
  rw[ho'] at hk
  rw[ho]
  simp only at hk ⊢
  have w1:Region.wanted o' (yielded l' a.tmps)=true:=by unfold Region.wanted; rw[hs.2.2.2.2.2]
  have w2:Region.wanted o (yielded l a.tmps)=true:=by unfold Region.wanted; rw[hs.2.2.2.2.1]
  rw[if_pos w1] at hk
  rw[if_pos w2]
  exact hk.imp (fun q=>hs.wp next q) fun q=>⟨hs.asks q.1,q.2⟩
end
end Go.EL
namespace Go.EL
open Go.IntKind (i8 i16 i32 i64 u8 u16 u32 u64)
open Go Go.RowKit Go.Proofs Go.MapKept
section
variable {P:Program}{N:Nat}{Q:Post}{fr:Fr}{w0:Bs}{G0 G:Mem}{L:Lo}{l l0:List Oper}{σ τ:Nat->Nat}
theorem WC.drawnTP{id:Nat}{Bt:Asrt}(ht:Turned .any l0.toArray l.toArray σ τ)(hBt:Mem.le G0 G->∀ (X:Gx) w,Gx.le (Gx.of G) X->StX w0 G0 X L w->Bt w)(fl:List Bool)(hm:P.follows .mixedOrders=true)(hB:drawB N l fl=true)(h:Mem.le G0 G->Chain P N Q fr w0 G0 G L l.toArray Bt fl l [] []):
  WC P N (.region id l0.toArray true) Q fr (St w0 G0 G L):=
 WC.drawnG (fun a w k=>wp_region_any hm (by
  have hs:=ht.size
  rw[hs] at k
  refine ht.any _ _ _ a _ (by simp) (by simp) (fun i hi=>?_) k
  have:=ht.lt i hi
  simp only[Array.getElem?_replicate,hs,if_pos hi,if_pos this])) hBt fl hB h
theorem WC.drawnBP{id:Nat}(ht:Turned .any l0.toArray l.toArray σ τ)(LF:Lo)(hsub:Lo.sub LF L)(fl:List Bool)(hm:P.follows .mixedOrders=true)(hB:drawB N l fl=true)(h:Mem.le G0 G->Chain P N Q fr w0 G0 G L l.toArray (St w0 G0 G LF) fl l [] []):
  WC P N (.region id l0.toArray true) Q fr (St w0 G0 G L):=WC.drawnTP ht (fun hb _ _ hle hs=>(hs.st.memLe hb hle.1).weaken hsub) fl hm hB h
end
end Go.EL
namespace Go.EL
open Go.IntKind (i8 i16 i32 i64 u8 u16 u32 u64)
open Go Go.RowKit Go.Proofs Go.MapKept
def renum(σ:Nat->Nat)(o:Oper):Oper:={ o with after:=o.after.map fun e=>{ e with on:=σ e.on } }
def permOps(p:List Nat)(l:List Oper):List Oper:=p.map fun i=>renum (fun j=>p.idxOf j) (l.getD i default)
def permB(p:List Nat)(l:List Oper):Bool:=decide (p.Nodup) && Nat.beq p.length l.length && (List.range l.length).all (fun i=>p.contains i) && p.all (fun i=>Nat.blt i l.length) && l.all fun o=>o.guard.isNone && o.after.toList.all fun e=>!Region.binds .any e || Nat.blt e.on l.length
theorem Zh9{p:List Nat}{l:List Oper}(h:permB p l=true):Turned .any l.toArray (permOps p l).toArray (fun i=>p.idxOf i) (fun j=>p.getD j 0):=by
 simp only[permB,Bool.and_eq_true,decide_eq_true_eq,List.all_eq_true,List.mem_range,List.contains_iff_mem,Nat.blt_eq,Bool.or_eq_true,Bool.not_eq_true'] at h
 obtain⟨⟨⟨⟨h1,h2⟩,h3⟩,h4⟩,h5⟩:=h
 have h2:p.length=l.length:=Nat.eq_of_beq_eq_true h2
 have hlt:∀ i,i<l.length->p.idxOf i<p.length:=fun i hi=>List.idxOf_lt_length_iff.2 (h3 i hi)
 have hat:∀ i (hi:i<l.length),p[p.idxOf i]'(hlt i hi)=i:=fun i hi=>List.getElem_idxOf (hlt i hi)
 refine⟨by simp[permOps,h2],fun i hi=>?_,fun j hj=>?_,fun j hj=>?_,fun i k hi hk e=>?_,fun i o ho=>?_⟩
 .have hi:i<l.length:=by simpa using hi
  show p.idxOf i<_
  have:=hlt i hi
  simp only[List.size_toArray]; omega
 .have hj:j<l.length:=by simpa using hj
  show p.getD j 0<_
  rw[List.getD_eq_getElem?_getD,List.getElem?_eq_getElem (by omega)]
  simpa using h4 _ (List.getElem_mem (by omega))
 .have hj:j<l.length:=by simpa using hj
  show p.idxOf (p.getD j 0)=j
  rw[List.getD_eq_getElem?_getD,List.getElem?_eq_getElem (by omega)]
  exact h1.idxOf_getElem j (by omega)
 .have hi:i<l.length:=by simpa using hi
  have hk:k<l.length:=by simpa using hk
  have e:p.idxOf i=p.idxOf k:=e
  rw[<- hat i hi,<- hat k hk]
  simp only[e]
 have hil:i<l.length:=by
  have:=(Array.getElem?_eq_some_iff.1 ho).1
  simpa using this
 have ho:l[i]? = some o:=by simpa using ho
 have hmem:o ∈ l:=List.mem_of_getElem? ho
 obtain⟨q1,q2⟩:=h5 o hmem
 have hg:o.guard=none:=by cases hg:o.guard with
  | none=>rfl
  | some x=>rw[hg] at q1; cases q1
 refine⟨renum (fun j=>p.idxOf j) o,?_,⟨rfl,rfl,rfl,rfl,hg,hg⟩,fun e he hb=>⟨?_,{ e with on:=p.idxOf e.on },?_,?_,rfl⟩,fun e' he' hb=>?_⟩
 .show (permOps p l).toArray[p.idxOf i]? = _
  simp only[permOps,List.getElem?_toArray,List.getElem?_map]
  rw[List.getElem?_eq_getElem (hlt i hil),hat i hil]
  simp only[Option.map_some,List.getD_eq_getElem?_getD,ho,Option.getD_some]
 .have:=q2 e (by simpa using he)
  rcases this with h|h
  .rw[h] at hb; cases hb
  simpa using h
 .simp only[renum,Array.mem_map]
  exact⟨e,he,rfl⟩
 .cases e; exact hb
 simp only[renum,Array.mem_map] at he'
 obtain⟨e,he,rfl⟩:=he'
 exact⟨e,he,by cases e; exact hb,rfl⟩
end Go.EL
namespace Go.EL
open Go.IntKind (i8 i16 i32 i64 u8 u16 u32 u64)
open Go Go.RowKit Go.Proofs Go.MapKept
section
variable {P:Program}{N:Nat}{Q Q':Post}{md:Region.Mode}{ops:Array Oper}
theorem ZlI{n r i:Nat}{K K':Act->World->Prop}{a:Act}{w:World}(hQ:¬ LetsOut Q)(hd:∀ (i:Nat) (o:Oper),ops[i]? = some o->∀ c,o.op≠.defer c)(hK:∀ a w,K a w->K' a w)(h:wpOp P ops Q i K a w):wpOpIn (Fence.wide.inRound r) n P ops Q i K' a w:=by
 unfold wpOp at h
 unfold wpOpIn
 cases e:ops[i]? with
 | none=>rw[e] at h; exact hK _ _ h
 | some o=>
  rw[e] at h
  dsimp only at h ⊢
  split at h
  .rename_i hw
   rw[if_pos hw]
   rcases h with h|h
   .exact ZjT (hd i o e) hK h
   exact absurd h.2 hQ
  rename_i hw
  rw[if_neg hw]
  exact⟨fun _ _=>trivial,hK _ _ h⟩
theorem ZeW{n r:Nat}(hQ:¬ LetsOut Q)(hd:∀ (i:Nat) (o:Oper),ops[i]? = some o->∀ c,o.op≠.defer c):∀ (fuel:Nat) (m:Array Bool) (a:Act) (w:World),wpAny P md ops Q fuel m a w->wpAnyIn (Fence.wide.inRound r) n P md ops Q fuel m a w
 | 0,_,_,_,h=>h
 | fuel+1,_,_,_,h=>⟨h.1,fun i hi=>ZlI hQ hd (fun a w=>ZeW hQ hd fuel _ a w) (h.2 i hi)⟩
def plus(a:Act)(D:List Deferred):Act:={ a with defers:=a.defers++D }
theorem ZcN(a:Act)(D:List Deferred)(d:Option Nat)(v:Value):(plus a D).put d v=plus (a.put d v) D:=by cases d <;> rfl
variable {D:List Deferred}
theorem Zj0{o:Oper}{a:Act}{w:World}{K K':Act->World->Prop}(hK:∀ a w,K a w->K' (plus a D) w)(hQ:∀ e a w,Q e a w->Q' e (plus a D) w)(h:o.wp P a w K Q):o.wp P (plus a D) w K' Q':=by
 have e1:(plus a D).eval=a.eval:=rfl
 unfold Oper.wp at *
 rw[e1]
 generalize (execOp a.eval o).run P w=r at *
 cases r with
 | ok nx w'=>
  cases nx <;> simp only[Oper.upon] at h ⊢
  case value v=>rw[ZcN]; exact hK _ _ h
  case skip=>rw[ZcN]; exact hK _ _ h
  case defer d=>
   have e2:({ plus a D with defers:=d::(plus a D).defers }:Act).put o.dst undef=plus (({ a with defers:=d::a.defers }:Act).put o.dst undef) D:=by cases o.dst <;> rfl
   rw[e2]; exact hK _ _ h
  case enter f args=>
   refine Calls.mono h fun e w'' he=>?_
   cases e with
   | returned v=>show K' ((plus a D).put o.dst v) w''; rw[ZcN]; exact hK _ _ he
   | panicked c=>exact hQ _ _ _ he
   | outgrown=>obtain⟨a',w',he⟩:=he; exact⟨_,_,hQ _ _ _ he⟩
  case row row args=>exact fun c cs=>let ⟨v,w',r,s⟩:=h c cs; ⟨v,w',by show K' ((plus a D).put o.dst v) w'; rw[ZcN]; exact hK _ _ r,s⟩
 | halt x w'=>cases x <;> first|exact h.elim|exact hQ _ _ _ h
theorem Zfu(hQ:∀ e a w,Q e a w->Q' e (plus a D) w):LetsOut Q->LetsOut Q':=fun ⟨a,w,h⟩=>⟨_,_,hQ _ a w h⟩
theorem ZlJ{i:Nat}{a:Act}{w:World}{K K':Act->World->Prop}(hK:∀ a w,K a w->K' (plus a D) w)(hQ:∀ e a w,Q e a w->Q' e (plus a D) w)(h:wpOp P ops Q i K a w):wpOp P ops Q' i K' (plus a D) w:=by
 unfold wpOp at *
 cases e:ops[i]? with
 | none=>rw[e] at h; exact hK _ _ h
 | some o=>
  rw[e] at h
  have e1:(plus a D).tmps=a.tmps:=rfl
  dsimp only at h ⊢
  rw[e1]
  split at h
  .rename_i hw
   rw[if_pos hw]
   exact h.imp (Zj0 hK hQ) (fun ⟨h1,h2⟩=>⟨h1,Zfu hQ h2⟩)
  rename_i hw
  rw[if_neg hw,ZcN]
  exact hK _ _ h
theorem Zhu(hQ:∀ e a w,Q e a w->Q' e (plus a D) w):∀ (fuel:Nat) (m:Array Bool) (a:Act) (w:World),wpAny P md ops Q fuel m a w->wpAny P md ops Q' fuel m (plus a D) w
 | 0,_,a,w,h=>⟨h.1,hQ _ a w h.2⟩
 | fuel+1,_,a,w,h=>⟨fun e=>hQ _ a w (h.1 e),fun i hi=>ZlJ (fun a w=>Zhu hQ fuel _ a w) hQ (h.2 i hi)⟩
theorem Zel(hQ:∀ e a w,Q e a w->Q' e (plus a D) w):∀ {l:List Oper}{a:Act}{w:World},wpList P ops Q l a w->wpList P ops Q' l (plus a D) w
 | [],a,w,h=>hQ _ a w h
 | o::l,a,w,h=>by
  unfold wpList at h ⊢
  have e1:(plus a D).tmps=a.tmps:=rfl
  rw[e1]
  split at h
  .rename_i hw
   rw[if_pos hw]
   exact h.imp (Zj0 (fun a w h=>Zel hQ h) hQ) (fun ⟨h1,h2⟩=>⟨h1,Zfu hQ h2⟩)
  rename_i hw
  rw[if_neg hw,ZcN]
  exact Zel hQ h
def PQ(D:List Deferred)(Q:Post):Post:=fun e a w=>Q e (plus a D) w
def WCD(P:Program)(N:Nat)(D:List Deferred)(c:Code)(Q:Post)(fr:Fr)(S:Asrt):Prop:=∀ a w,Rel N fr a->S w->c.wp P Q (plus a D) w
variable {fr:Fr}{S:Asrt}
theorem WCD.seq{x y:Code}(h:WCD P N D x (Exit.then (y.wp P Q) Q) fr S):WCD P N D (.seq x y) Q fr S:=fun a w ha hs=>wp_seq (h a w ha hs)
theorem WCD.then{c:Code}(h:WCD P N D c Q fr S):WE N (PQ D (Exit.then (c.wp P Q) Q)) .normal fr S:=h
theorem WCD.region{id:Nat}{l:List Oper}(h:WL P N l.toArray (PQ D Q) l fr S):WCD P N D (.region id l.toArray false) Q fr S:=fun a w ha hs=>wp_region_lit (Zel (fun _ _ _ h=>h) (h a w ha hs))
theorem WCD.ret(h:WE N (PQ D Q) .ret fr S):WCD P N D .ret Q fr S:=fun a w ha hs=>wp_ret (h a w ha hs)
end
section
variable {P:Program}{N:Nat}{Q:Post}{fr:Fr}{w0:Bs}{G0 G:Mem}{L:Lo}{l l0:List Oper}{σ τ:Nat->Nat}{D:List Deferred}{r id:Nat}
theorem WCD.drawnB(LF:Lo)(hsub:Lo.sub LF L)(fl:List Bool)(hm:P.follows .mixedOrders=true)(hB:drawB N l fl=true)(h:Mem.le G0 G->Chain P N (PQ D Q) fr w0 G0 G L l.toArray (St w0 G0 G LF) fl l [] []):
  WCD P N D (.region id l.toArray true) Q fr (St w0 G0 G L):=fun a w ha hs=>
 drawnR (Q:=PQ D Q) (R:=fun a w=>(Code.region id l.toArray true).wp P Q (plus a D) w) (fun a _ k=>wp_region_any hm (Zhu (fun _ _ _ h=>h) _ _ a _ k)) (fun hb _ _ hle hs=>(hs.st.memLe hb hle.1).weaken hsub) fl hB h a w ha hs
theorem nodefer{l:List Oper}(hd:l.all (fun o=>match o.op with | .defer _=>false|_=>true)=true):∀ (i:Nat) (o:Oper),l.toArray[i]? = some o->∀ c,o.op≠.defer c:=fun i o ho c e=>by
 rw[List.getElem?_toArray] at ho
 have:=List.all_eq_true.1 hd o (List.mem_of_getElem? ho)
 rw[e] at this; cases this
theorem WCI.drawn(hQ:¬ LetsOut Q)(hd:l.all (fun o=>match o.op with | .defer _=>false|_=>true)=true)(fl:List Bool)(hm:P.follows .mixedOrders=true)(hB:drawB N l fl=true)(h:Mem.le G0 G->Chain P N Q fr w0 G0 G L l.toArray (fun _=>True) fl l [] []):
  WCI P N r (.region id l.toArray true) Q fr (St w0 G0 G L):=
 drawnR (fun a _ k=>wpIn_region_any hm (ZeW hQ (nodefer hd) _ _ a _ k)) (fun _ _ _ _ _=>trivial) fl hB h
theorem WCI.drawnB(hQ:¬ LetsOut Q)(hd:l.all (fun o=>match o.op with | .defer _=>false|_=>true)=true)(LF:Lo)(hsub:Lo.sub LF L)(fl:List Bool)(hm:P.follows .mixedOrders=true)(hB:drawB N l fl=true)(h:Mem.le G0 G->Chain P N Q fr w0 G0 G L l.toArray (St w0 G0 G LF) fl l [] []):
  WCI P N r (.region id l.toArray true) Q fr (St w0 G0 G L):=
 drawnR (fun a _ k=>wpIn_region_any hm (ZeW hQ (nodefer hd) _ _ a _ k)) (fun hb _ _ hle hs=>(hs.st.memLe hb hle.1).weaken hsub) fl hB h
end
def IterOk(P:Program)(f:FuncId)(lb:Array Value)(len:Nat)(E:Nat->Value->Mem->Prop)(preI:Mem->Prop):Prop:=
 ∀ {σ:Type}(l:Nat) (I:Nat->σ->Prop) (Lc:σ->Lo) (pre:σ->Mem->Prop),(∀ s i,9000<=i->(Lc s).get i=none)->(∀ G G' s,Mem.le G G'->pre s G->pre s G')->
  (∀ (j:Nat) (u:Value) (s:σ),j<len->I j s->YCtr P l u (Lc s) (fun G=>pre s G/\E j u G) (fun G L b=>b=true/\∃ s',I (j+1) s'/\L=Lc s'/\pre s' G))->
  ∀ s0,I 0 s0->(Lc s0).zero->CtrL P f (#[.func (.yield l) #[] #[]]++lb) (Lc s0) (fun G=>preI G/\pre s0 G) (fun G L u=>u = .tuple #[]/\∃ s',I len s'/\L=Lc s'/\pre s' G)
section
variable {P:Program}{N:Nat}{Q:Post}{fr:Fr}{S:Asrt}{ops:Array Oper}{l:List Oper}{dst:Option Nat}{ty:TypeId}{pos:String}{af:Array Edge}{g:Option (Nat×Bool)}
variable {w0:Bs}{G0 G:Mem}{L:Lo}
theorem WLI.callZ{x y:Operand}{ts:Array TypeId}{loop:Nat}{u:Value}{R Lc:Lo}{pre:Mem->Prop}{post:Mem->Lo->Bool->Prop}(hg:guardOK ops fr ⟨dst,.call ⟨.value x,#[y],ts⟩,ty,pos,af,g⟩ true)(hd:dstOK N dst)
  (hx:fr.ev x=some (.func (.yield loop) #[] #[])) (hy:fr.ev y=some u) (hY:YCtr P loop u Lc pre post) (hp:pre G) (hw:w0.L.zero) (hR:∀ i,i ∈ R.map (·.1)->Lc.get i=none)
  (k:∀ b G' L',Mem.le G G'->post G' L' b->WLI P N ops Q l (putFr dst (.bool b) fr) (St w0 G0 G' (R++L'))) :
  WLI P N ops Q (⟨dst,.call ⟨.value x,#[y],ts⟩,ty,pos,af,g⟩::l) fr (St w0 G0 G (R++Lc)):=by
 have h1:Lo.sub Lc (R++Lc):=fun i z hz=>by
  rw[Lo.Zk2 (fun hi=>by rw[hR i hi] at hz; cases hz)]; exact hz
 refine WLI.yield (Φ:=fun v w=>∃ b G' L',v = .bool b/\Mem.le G G'/\post G' L' b/\St w0 G0 G' (R++L') w) hg hd hx hy (fun w hs=>?_) (fun v a w ha hs=>?_)
 .obtain⟨fn,tm,as1,bo,q1,q2⟩:=hY w G (hs.hp h1) hp
  refine⟨fn,tm,as1,bo,q1,q2.mono fun e w' ⟨b,G',L',e1,e2,e3⟩=>⟨.bool b,e1,b,G',L',rfl,e2.le,e3,?_⟩⟩
  refine hs.ext (R:=R) e2 h1 (fun i z hz=>Lo.Zl8 hz) (fun i z hz=>hR i (Lo.ZjO hz)) (fun i z z' hi hj t ht=>?_) (fun i z hz=>(Lo.get_append _ _ i z hz).symm)
  rw[Lo.ZdT hw ht]
  exact Nat.zero_le _
 obtain⟨b,G',L',rfl,h2,h3,h4⟩:=hs
 exact k b G' L' h2 h3 a w ha h4
end
section
variable {P:Program}{N:Nat}{Q:Post}{fr:Fr}{fn:Func}{w0:Bs}{G0 G:Mem}{L:Lo}
theorem WE.retD{rvs:List ResultVar}{d:Nat}{post:Mem->Lo->Value->Prop}(L3:Lo)(vs:List Value)(hr:fn.results=rvs.toArray)(hl:rvs.length=vs.length)(hd:L.get 8002=some ⟨d,.deferred (some []),0⟩)
  (h:∀ (i:Nat) (rv:ResultVar) (v:Value),rvs[i]? = some rv->vs[i]? = some v->RV P fr ((8002,some ⟨d,.deferred none,0⟩)::L) rv v) (h3:Lo.sub L3 ((8002,some ⟨d,.deferred none,0⟩)::L)) (hp:post G L3 (if h:vs.toArray.size=1 then vs.toArray[0] else .tuple vs.toArray)) :
  WE N (PQ [{ target:=.collected d,args:=#[] }] (bodyPostM Fence.wide 0 P fn (RetL w0 G0 post))) .ret fr (St w0 G0 G L):=by
 intro a w ha hs
 show LeavesInM Fence.wide 0 P fn a.tmps (RetL w0 G0 post) (a.defers++[{ target:=.collected d,args:=#[] }]) .returning w
 rw[ha.defers]
 have hb:=(hs.loc 8002 _ hd).1
 have hdl:=(Array.getElem?_eq_some_iff.1 hb).1
 have h5:=hs.upd (i:=8002) (m':=0) (w':=World.putObj _ d (.deferred none)) hd (World.putObj_heap_same hdl) (Nat.le_refl _) (fun k _ hk=>absurd hk (Nat.not_lt_zero k)) (fun k hk=>World.putObj_heap_other hk) rfl rfl rfl rfl (by simp)
 refine⟨by simp,.inl ⟨_,_,rfl,run_takeDeferred hb,⟨_,Zej hr hl (fun i rv v e1 e2=>(h i rv v e1 e2).run ha h5),?_⟩⟩⟩
 exact⟨_,G,L3,rfl,(⟨h5.os,h5.tape,h5.output,h5.drawn,h5.size,h5.block,h5.base,h5.imm,h5.fresh,h5.loc,h5.dist⟩:Ext w0.w G0 w0.L _ G _).weaken h3,hp⟩
theorem WC.rangeAll{gop:Operand}{t b0 f:Nat}{assign body c2:Code}{lb:Array Value}(hgop:fr.ev gop=some (.func (.func f) #[] lb))(henter:Enters P f)
  (h:∀ (a:Act) (d lp:Nat) (r:Loop),Rel N fr a->r.state = .ready->r.pending=none->r.tmps=a.tmps->r.params = #[t]->r.assign=assign->r.body=body->∃ (pre:Mem->Prop) (Lc:Lo) (post:Mem->Lo->Value->Prop),
   Lo.sub Lc ((8001,some ⟨lp,.loop r,0⟩)::(8002,some ⟨d,.deferred (some []),0⟩)::L)/\
   (∀ i,i ∈ Lc.map (·.1)->w0.L.get i=none)/\CtrL P f (#[.func (.yield lp) #[] #[]]++lb) Lc pre post/\pre G/\
   ∀ G' L' v,Mem.le G G'->post G' L' v->L'.get 8001=some ⟨lp,.loop r,0⟩/\WCD P N [{ target:=.collected d,args:=#[] }] c2 Q fr (St w0 G0 G' ((8001,some ⟨lp,.loop { r with state:=.exhausted },0⟩)::L'))) :
  WC P N (.block b0 (.rangeFunc gop #[t] assign body)) (Exit.then (c2.wp P Q) Q) fr (St w0 G0 G L):=by
 refine WC.block ?_
 intro a w ha hs
 refine (wpIn_wide (n:=0)).1 (wpIn_rangeFunc ?_)
 intro fnid _
 let r:Loop:={ state:=.ready,pending:=none,fn:=fnid,tmps:=a.tmps,params:=#[t],assign:=assign,body:=body,defers:=w.heap.size }
 obtain⟨pre,Lc,post,hsub,hno,hctr,hpre,hk⟩:=h a w.heap.size (w.heap.size+1) r ha rfl rfl rfl rfl rfl rfl
 have hs1:St w0 G0 G _ ((w.alloc (.deferred (some []))).alloc (.loop r)):=(hs.push 8002 (.deferred (some []))).push 8001 (.loop r)
 have hl1:(w.alloc (.deferred (some []))).heap.size=w.heap.size+1:=by simp
 rw[hl1] at hs1
 refine⟨w.heap.size+1,[{ target:=.collected w.heap.size,args:=#[] }],((w.alloc (.deferred (some []))).alloc (.loop r)),{ target:=.fn (.func f) lb,args:=#[.func (.yield (w.heap.size+1)) #[] #[]] },((w.alloc (.deferred (some []))).alloc (.loop r)),f,#[.func (.yield (w.heap.size+1)) #[] #[]]++lb,((w.alloc (.deferred (some []))).alloc (.loop r)),run_enterLoop_outer _ _ _ _ _,?_,fun _ _=>trivial,?_,fun h=>by simp[Fence.wide] at h,?_⟩
 .have e6:=ha.ev hgop
  have e7:a.eval (.const (.func (.yield (w.heap.size+1)) #[] #[])) = .func (.yield (w.heap.size+1)) #[] #[]:=rfl
  simp[resolve,Deferred.ofValue,e6,e7]
 .simpa [invoke] using henter _ _
 refine (callsIn_wide (n:=0)).2 ?_
 refine (hctr _ G (hs1.hp hsub) hpre).mono fun e w2 ⟨v,G',L',he,hext,hpost⟩=>?_
 subst he
 obtain⟨hl',hw⟩:=hk G' L' v hext.le hpost
 have hs2:St w0 G0 G' L' w2:=hs1.ext (R:=[]) hext hsub (Lo.Zt _) (fun i x hx=>by simp[Lo.get] at hx) (fun i x y hi _ z hz=>by rw[hno i (Lo.ZjO hi)] at hz; cases hz) (fun i x hx=>.inl hx)
 have hb:=(hs2.loc 8001 _ hl').1
 refine⟨r.pending,_,run_endLoop hb (by show LoopState.ready≠_; simp),?_⟩
 have hs3:=hs2.putLoop (r':={ r with state:=.exhausted }) hl'
 have h9:=hw a _ ha hs3
 have e9:plus a [({ target:=.collected w.heap.size,args:=#[] }:Deferred)] = { a with defers:=[({ target:=.collected w.heap.size,args:=#[] }:Deferred)]++a.defers }:=by unfold plus; rw[ha.defers]; rfl
 rw[e9] at h9
 exact h9
theorem CtrL.enterM{f:FuncId}{c:Code}{args:List Value}{L0:Lo}{pre:Mem->Prop}{post:Mem->Lo->Value->Prop}(hf:P.funcs[f]? = some fn)(hb:fn.body=some c)(hN:fn.ntmps=N)(ha:Nat.ble args.length N=true)
  (h:∀ w0 G0,w0.L=L0->pre G0->WC P N c (bodyPostM Fence.wide 0 P fn (RetL w0 G0 post)) (argFr args 0) (St w0 G0 G0 L0)):CtrL P f args.toArray L0 pre post:=by
 intro w G hi hp
 refine (callsIn_wide (n:=0)).1 (callsIn_of_wp_marks hf hb trivial ((wpIn_wide (n:=0)).2 ?_))
 refine h ⟨w,L0⟩ G rfl hp _ w ⟨rfl,?_,fun t v hv=>?_⟩ hi.st
 .have:=Nat.le_of_ble_eq_true ha
  simp only[Array.size_append,List.size_toArray,Array.size_replicate]
  omega
 obtain⟨_,h2⟩:=Zff args 0 t v hv
 simp only[Nat.sub_zero] at h2
 have hlt:=(List.getElem?_eq_some_iff.1 h2).1
 rw[Array.getElem?_append_left (by simpa using hlt)]
 simpa using h2
theorem WCI.cond{r:Nat}{c:Operand}{x y:Code}{b:Bool}{S:Asrt}(hc:fr.ev c=some (.bool b))(ht:b=true->WCI P N r x Q fr S)(hf:b=false->WCI P N r y Q fr S):WCI P N r (.cond c x y) Q fr S:=fun a w ha hs=>by
 cases b with
 | true=>exact wpIn_cond_true (by rw[ha.ev hc]) (ht rfl a w ha hs)
 | false=>exact wpIn_cond_false (by rw[ha.ev hc]) (hf rfl a w ha hs)
theorem Zht{l:Nat}{c c2:Code}{S:Asrt}(e:c=c2)(h:WCI P N l c2 Q fr S):WCI P N l c Q fr S:=by rw[e]; exact h
end
end Go.EL
namespace Go.EL
open Go.IntKind (i8 i16 i32 i64 u8 u16 u32 u64)
open Go Go.RowKit
section
variable {α:Type}{r:Rp α}{G:Mem}
def Elt.enc1(a:Elt r G):Value:=a.1.1.headD Value.nilFunc
theorem Elt.ZmR{a:Elt r G}(h:(Elt.enc a).length=1):Elt.enc a=[Elt.enc1 a]:=by
 obtain⟨⟨cs,x⟩,hx⟩:=a
 change cs.length=1 at h
 change cs=[cs.headD Value.nilFunc]
 match cs,h with
 | [u],_=>rfl
end
variable {P:Program}{ρ:Go.Shelf.Ren}
set_option maxHeartbeats 1000000 in
theorem pdqQ{α:Type}{r:Rp α}(hrz:r.size=1){cmp:α->α->Int}(swo:Go.Sort.SWO (Go.Proofs.ltOf cmp))(S:Go.Proofs.SlLaysF.n14 P ρ){f g:Nat}(hf:ρ.f 14=f)
  (hg:∀ (x y:α) (u v:Value),Ctr P g #[u,v] (fun G=>r.rep G [u] x/\r.rep G [v] y) (fun _ v=>v = .int .i64 (cmp x y))) (eg:∀ args w,(callFunc g args).run P w = .ok (.enter g args) w)
  (e:TypeId) (p:Option Addr) (n c:Nat) (l:List α) (tk:Option Ow) (lim:Nat) (hlim:lim<4611686018427387904) (hlen:l.length<=1000000000) :
  CtrL P f #[.slice p n c,.int .i64 0,.int .i64 (l.length:Int),.int .i64 (lim:Int),.func (.func g) #[] #[]] [(5000,tk)] (fun G=>RowR r e G (.slice p n c) l tk)
   (fun G L v=>∃ ys tk',L=[(5000,tk')]/\v = .tuple #[]/\RowR r e G (.slice p n c) ys tk'/\ys.Perm l/\ys.Pairwise (fun a b=>Go.Proofs.ltOf cmp b a=false)):=by
 subst hf
 intro w G hi hrow
 by_cases hnil:l=[]
 .subst hnil
  obtain⟨p',c',hv⟩:=hrow.form
  cases hv
  refine (Go.Proofs.AnyF.pdqsortCmpFunc_none { S with } p c (lim:Int) _ w).mono ?_
  rintro en w' ⟨rfl,rfl⟩
  exact⟨_,G,[(5000,tk)],rfl,hi.st.toExt,[],tk,rfl,rfl,hrow,List.Perm.refl _,List.Pairwise.nil⟩
 cases tk with
 | none=>exact absurd hrow.1 hnil
 | some y=>
  obtain⟨cap,cs,rest,h1,h2,h3,h4,h5,h6,h7⟩:=hrow
  obtain⟨b,o,m⟩:=y
  dsimp only at h1 h2 h3
  subst h2 h3
  cases h1
  obtain⟨d,hcs,hd⟩:=RepL.elts h4
  subst hcs
  have hdl:d.length=l.length:=by rw[<- hd,List.length_map]
  haveI:Inhabited (Elt r G):=⟨d[0]'(by have:=List.length_pos_iff.2 hnil; omega)⟩
  have hl:∀ x:Elt r G,(Elt.enc x).length=1:=fun x=>by rw[<- hrz]; exact r.len x.2
  have he1:∀ x:Elt r G,Elt.enc x=[Elt.enc1 x]:=fun x=>Elt.ZmR (hl x)
  have hfm:∀ d:List (Elt r G),d.flatMap Elt.enc=d.map Elt.enc1:=fun d=>by
   induction d with
   | nil=>rfl
   | cons a d ih=>rw[List.flatMap_cons,he1,ih]; rfl
  have hone:∀ x:Elt r G,∀ v ∈ Elt.enc x,v.oneCell'=true:=fun x=>r.one x.2
  let cf:Elt r G->Elt r G->Int:=fun x y=>cmp x.1.2 y.1.2
  have hO:Go.Sort.SWO (Go.Proofs.ltOf cf):=⟨fun x=>swo.irrefl x.1.2,fun x y z=>swo.trans x.1.2 y.1.2 z.1.2,fun x y z=>swo.ntrans x.1.2 y.1.2 z.1.2⟩
  have hget:Lo.get [(5000,some ⟨b,Obj.cells (d.flatMap Elt.enc++rest).toArray e (0,0),0⟩)] 5000=some ⟨b,.cells (d.flatMap Elt.enc++rest).toArray e (0,0),0⟩:=by simp[Lo.get]
  obtain⟨hb,hGb⟩:=hi.loc 5000 _ hget
  dsimp only at hb hGb
  have hbs:b<w.heap.size:=(Array.getElem?_eq_some_iff.1 hb).1
  have himm:∀ (m:Nat) (os:Array Obj) (dk:Array (Elt r G)),Imm G (Go.Proofs.sortWorld Elt.enc1 w b 0 m dk os):=by
   intro m os dk b' o' v hv
   have hne:b'≠b:=fun e=>by subst e; rw[hGb o' (Nat.zero_le _)] at hv; cases hv
   have hc:=hi.imm b' o' v hv
   have hlt:b'<w.heap.size:=Imm.lt hi.imm hv
   have hh:(Go.Proofs.sortWorld Elt.enc1 w b 0 m dk os).heap[b']? = w.heap[b']?:=by
    simp only[Go.Proofs.sortWorld,Go.Sort.grow,Go.Sort.putRow,Go.Sort.mapBlock,Go.Sort.ahead]
    rw[Array.getElem?_append_left (by simpa using hlt),Array.getElem?_modify,if_neg (fun e=>hne e.symm)]
   unfold World.cell? at hc ⊢
   dsimp only at hc ⊢
   rw[hh]; exact hc
  have hc:Go.Proofs.CmpLays1 P g #[] Elt.enc1 cf b 0 d.toArray.size w:=by
   intro m os dk _ x y
   refine (hg x.1.2 y.1.2 (Elt.enc1 x) (Elt.enc1 y) _ G ⟨himm m os dk,fun i x hx=>by simp[Lo.get] at hx,fun i j x y _ hx=>by simp[Lo.get] at hx⟩ ⟨by rw[<- he1]; exact x.2,by rw[<- he1]; exact y.2⟩).mono ?_
   rintro en w' ⟨r',G',L',he,hx,rfl⟩
   exact⟨he,Zf7 hx.os hx.tape hx.output hx.drawn hx.size fun k hk=>hx.block k hk (fun _ _ h=>by simp[Lo.get] at h)⟩
  have hH:Go.Sort.Holds Elt.enc1 w b 0 d.toArray:=by
   intro j hj
   simp only[List.size_toArray] at hj
   have h1:(d.flatMap Elt.enc)[j]? = some (Elt.enc1 d[j]):=by rw[hfm,List.getElem?_map,List.getElem?_eq_getElem hj]; rfl
   constructor
   .simp only[World.cell?,hb,Nat.zero_add,Option.isSome_none,Bool.false_eq_true,if_false,List.getElem?_toArray]
    rw[List.getElem?_append_left (by rw[hfm,List.length_map]; exact hj),h1]
    rw[getElem!_pos _ _ (by simpa using hj)]; simp
   simp[World.frozen?,hb]
  have hone1:Go.Proofs.OneCell (Elt.enc1 (r:=r) (G:=G)):=fun x=>hone x _ (by rw[he1]; simp)
  have hS:=Go.Proofs.Any.pdqsortCmpFunc_all S Elt.enc1 cf g #[] hO b 0 c d.toArray w eg hc ⟨hone1,hH,hbs⟩ (d.toArray.size+1) 0 d.toArray.size lim d.toArray w (by omega) rfl (Go.Proofs.SW.start hH) (Nat.zero_le _) (Nat.le_refl _) (by simp; omega) hlim (Or.inl rfl)
  have hsorts:=Go.Sort.pdq_sorts (Go.Proofs.ltOf cf) hO d.toArray 0 d.toArray.size lim true true (Nat.zero_le _) (Nat.le_refl _) (Or.inl rfl)
  generalize Go.Sort.pdq (Go.Proofs.ltOf cf) d.toArray 0 d.toArray.size lim true true=d' at hS hsorts
  obtain⟨⟨hsz',_,hperm⟩,hsorted⟩:=hsorts
  have hperm':d'.toList.Perm d:=by
   have e1:(d'.extract 0 d.toArray.size).toList=d'.toList:=by rw[<- hsz',Array.extract_size]
   have e2:(d.toArray.extract 0 d.toArray.size).toList=d:=by simp
   rw[e1,e2] at hperm; exact hperm
  rw[show (d.toArray.size:Nat)=l.length by simpa using hdl] at hS
  refine Calls.mono (by simpa using hS) ?_
  rintro en w' ⟨rfl,n,os,hw⟩
  have hd'l:d'.toList.length=d.length:=hperm'.length_eq
  have hw':w'=Go.Sort.grow (Go.Sort.putRow Elt.enc1 (Go.Sort.ahead w n) b 0 d') os:=hw
  have hother:∀ k,k<w.heap.size->k≠b->w'.heap[k]? = w.heap[k]?:=by
   intro k hk hne
   rw[hw']
   simp only[Go.Sort.grow,Go.Sort.putRow,Go.Sort.mapBlock,Go.Sort.ahead]
   rw[Array.getElem?_append_left (by simpa using hk),Array.getElem?_modify,if_neg (fun e=>hne e.symm)]
  have hfl:(d'.toList.flatMap Elt.enc).length=(d.flatMap Elt.enc).length:=by rw[Zbi hl,Zbi hl,hd'l]
  have hrow:w'.heap[b]? = some (.cells (d'.toList.flatMap Elt.enc++rest).toArray e (0,0)):=by
   rw[hw']
   simp only[Go.Sort.grow,Go.Sort.putRow,Go.Sort.mapBlock,Go.Sort.ahead]
   rw[Array.getElem?_append_left (by simpa using hbs),Array.getElem?_modify,if_pos rfl,hb]
   simp only[Option.map_some,Go.Sort.onCells,Option.some.injEq,Obj.cells.injEq,and_true]
   apply Array.ext_getElem?
   intro k
   simp only[Go.Sort.putCells,Array.getElem?_mapIdx,List.getElem?_toArray,Nat.zero_le,true_and,Nat.zero_add,Nat.sub_zero]
   by_cases hk:k<(d.flatMap Elt.enc).length
   .rw[List.getElem?_append_left hk,List.getElem?_append_left (by omega),List.getElem?_eq_getElem hk,List.getElem?_eq_getElem (by omega:k<(d'.toList.flatMap Elt.enc).length)]
    have hkd:k<d'.size:=by rw[hfm,List.length_map] at hk; rw[<- Array.length_toList]; omega
    simp only[Option.map_some,if_pos hkd]
    rw[getElem!_pos d' k hkd]
    simp only[hfm,List.getElem_map,Array.getElem_toList]
   rw[List.getElem?_append_right (by omega),List.getElem?_append_right (by omega),hfl]
   cases rest[k-(d.flatMap Elt.enc).length]? with
   | none=>rfl
   | some v=>
    have hkd:¬ k<d'.size:=by rw[hfm,List.length_map] at hk; rw[<- Array.length_toList]; omega
    simp only[Option.map_some,if_neg hkd]
  have hsz:w.heap.size<=w'.heap.size:=by
   rw[hw']; simp[Go.Sort.grow,Go.Sort.putRow,Go.Sort.mapBlock,Go.Sort.ahead]
  have one:∀ j x,Lo.get [(5000,some (⟨b,Obj.cells (d'.toList.flatMap Elt.enc++rest).toArray e (0,0),0⟩:Ow))] j=some x->x=⟨b,Obj.cells (d'.toList.flatMap Elt.enc++rest).toArray e (0,0),0⟩/\5000=j:=by
   intro j x hx
   rw[Lo.Zh] at hx
   split at hx
   .rename_i e'; cases hx; exact⟨rfl,e'⟩
   simp[Lo.get] at hx
  have hml:(d'.toList.map (fun a=>a.1.2)).length=l.length:=by rw[List.length_map,hd'l,hdl]
  refine⟨_,G,[(5000,some ⟨b,.cells (d'.toList.flatMap Elt.enc++rest).toArray e (0,0),0⟩)],rfl,⟨by rw[hw']; rfl,by rw[hw']; rfl,by rw[hw']; rfl,by rw[hw']; simp[Go.Sort.grow,Go.Sort.putRow,Go.Sort.mapBlock,Go.Sort.ahead],hsz,?_,Mem.le_refl _,?_,fun _ _ _ h=>.inl h,?_,?_⟩,d'.toList.map (fun a=>a.1.2),_,rfl,rfl,?_,?_,?_⟩
  .intro k hk hn
   exact hother k hk fun e=>by subst e; exact hn 5000 _ hget rfl
  .intro k o v hv
   have hc:=hi.imm k o v hv
   have hne:k≠b:=fun e=>by subst e; rw[hGb o (Nat.zero_le _)] at hv; cases hv
   have hk:k<w.heap.size:=World.block_lt_of_cell? w _ hc
   simp only[World.cell?,hother k hk hne] at hc ⊢
   exact hc
  .intro j x hj
   obtain⟨rfl,rfl⟩:=one j x hj
   exact⟨hrow,.inl ⟨_,hget,rfl⟩,hGb⟩
  .intro j k x y hne h1 h2
   exact absurd ((one j x h1).2.symm.trans (one k y h2).2) hne
  .refine⟨c,d'.toList.flatMap Elt.enc,rest,by rw[hml],rfl,rfl,RepL.ofElts _,?_,h6,by rw[hml]; exact h7⟩
   rw[List.length_append,hfl,<- List.length_append]; exact h5
  .have:=hperm'.map (fun a=>a.1.2)
   rwa [hd] at this
  rw[List.pairwise_map]
  rw[List.pairwise_iff_getElem]
  intro i j hi' hj' hij
  have hs:=hsorted i j (Nat.zero_le _) hij (by simp only[Array.length_toList] at hj'; omega)
  rw[getElem!_pos _ _ (by simpa using hj'),getElem!_pos _ _ (by simpa using hi')] at hs
  simp only[Array.getElem_toList]
  exact hs
end Go.EL
namespace Go.EL
open Go.IntKind (i8 i16 i32 i64 u8 u16 u32 u64)
open Go Go.RowKit
section
variable {α β:Type}{r:Rp α}{f:β->α}{G:Mem}{e:TypeId}
theorem RepL.via:∀ {l:List β}{cs:List Value},RepL (r.via f) G cs l↔RepL r G cs (l.map f)
 | [],_=>Iff.rfl
 | x::l,cs=>by
  constructor
  .rintro⟨c,d,h1,h2,h3⟩; exact⟨c,d,h1,h2,RepL.via.1 h3⟩
  rintro⟨c,d,h1,h2,h3⟩; exact⟨c,d,h1,h2,RepL.via.2 h3⟩
theorem RowR.via{v:Value}{l:List β}{tk:Option Ow}:RowR (r.via f) e G v l tk↔RowR r e G v (l.map f) tk:=by
 cases tk with
 | none=>
  constructor
  .rintro⟨rfl,h⟩; exact⟨rfl,h⟩
  rintro⟨h1,h⟩; exact⟨List.map_eq_nil_iff.1 h1,h⟩
 | some x=>
  constructor
  .rintro⟨cap,cs,rest,h1,h2,h3,h4,h5,h6,h7⟩
   exact⟨cap,cs,rest,by rw[List.length_map]; exact h1,h2,h3,RepL.via.1 h4,h5,h6,by rw[List.length_map]; exact h7⟩
  rintro⟨cap,cs,rest,h1,h2,h3,h4,h5,h6,h7⟩
  rw[List.length_map] at h1 h7
  exact⟨cap,cs,rest,h1,h2,h3,RepL.via.2 h4,h5,h6,h7⟩
end
end Go.EL
namespace Go.EL
open Go.IntKind (i8 i16 i32 i64 u8 u16 u32 u64)
open Go Go.RowKit
theorem Y0.slArr{P:Program}{N:Nat}{fr:Fr}{S:Asrt}{dst:Option Nat}{ty:TypeId}{pos:String}{af:Array Edge}{g:Option (Nat×Bool)}{t e:TypeId}{x y1 y2:Operand}{b n lo hi:Nat}{k1 k2:IntKind}(ht:P.underlying t=some (.array n e))(hsz:(P.info? e).map (·.size)=some 1)
  (hx:fr.ev x=some (.pointer (some ⟨b,0,none⟩))) (h1:fr.ev y1=some (.int k1 (lo:Int))) (h2:fr.ev y2=some (.int k2 (hi:Int))) (hlo:lo<n) (hh:lo<=hi) (hn:hi<=n) :
  Y0 P N ⟨dst,.slice t x (some y1) (some y2) none,ty,pos,af,g⟩ fr S (.slice (some ⟨b,lo,none⟩) (hi-lo) (n-lo)):=fun a w ha _=>by
 have i3:¬ n=lo:=by omega
 simp only[execOp,ha.ev hx,ha.ev h1,ha.ev h2,Option.map_none,Option.map_some]
 simp[Instr.sliceAt,run_underlying ht,Instr.sureAddr,Instr.sliceBounds,Instr.sliceBound,asIntOf,run_sizeOf hsz,Z1,hh,hn,i3]
end Go.EL
namespace Go.EL
open Go.IntKind (i8 i16 i32 i64 u8 u16 u32 u64)
open Go Go.RowKit
theorem Y0.lssS{P:Program}{N:Nat}{fr:Fr}{S:Asrt}{dst:Option Nat}{ty:TypeId}{pos:String}{af:Array Edge}{g:Option (Nat×Bool)}{t b:TypeId}{x y:Operand}{s u:ByteArray}(hx:fr.ev x=some (.string s))(hy:fr.ev y=some (.string u)):
  Y0 P N ⟨dst,.binOp .lss t x y b,ty,pos,af,g⟩ fr S (.bool (Op.bytesLess s.toList u.toList)):=
 Y0.bin hx hy (Zfp _ _ _ _ _ _) fun w=>by simp[binOp,Op.stringOp]
end Go.EL
namespace Go.EL
open Go.IntKind (i8 i16 i32 i64 u8 u16 u32 u64)
open Go Go.RowKit Go.Proofs
section
variable {P:Program}{N:Nat}{Q:Post}{fr:Fr}{w0:Bs}{G0 G:Mem}{L:Lo}{ops:Array Oper}{ty:TypeId}{pos:String}{af:Array Edge}{g:Option (Nat×Bool)}{fs:List Bool}{l:List Oper}{det:Fr}{und:Und}{d:Nat}{op:Op}
variable {α β:Type}{r:Rp α}{e:TypeId}{r':Rp β}{e':TypeId}
def SlX(r:Rp β)(ys:List β):Mem->Value->Prop:=fun G v=>∃ p c,v = .slice p ys.length c/\SlR r G (.slice p ys.length c) ys
theorem Chain.callEatR{Bt:Asrt}{f:FuncId}{kk:Nat}{xs:List α}(ys:List β)(hg:∀ u,guardOK ops (undFr und u++(det++fr)) ⟨some d,op,ty,pos,af,g⟩ true)
  (hk:und.any (fun p=>Nat.beq p.1 kk)=true) (hl:((⟨some d,op,ty,pos,af,g⟩:Oper).looksAt ops).contains kk=true) (hso:soleB ops kk=true)
  (h:∀ u (G':Gx),Mem.le G G'.m->undLook ops ⟨some d,op,ty,pos,af,g⟩ und u G'->∃ v,RowX r e kk xs v G'/\∀ p c tk,v = .slice p xs.length c->RowR r e G'.m (.slice p xs.length c) xs tk->∃ args args' pre,(∀ S,YC P N ⟨some d,op,ty,pos,af,g⟩ (undFr und u++(det++fr)) S f args')/\
   CtrL P f args [(5000,tk)] pre (fun G L v=>∃ zp zc ztk,L=[(5000,ztk)]/\v = .slice zp ys.length zc/\RowR r' e' G (.slice zp ys.length zc) ys ztk)/\args'=args/\pre G'.m)
  (k:Chain P N Q fr w0 G0 G L ops Bt fs l det ((d,fun v g=>SlX r' ys g.m v)::eatO (some kk) und)):Chain P N Q fr w0 G0 G L ops Bt (false::fs) (⟨some d,op,ty,pos,af,g⟩::l) det und:=
 Chain.ceat d kk (fun v g=>SlX r' ys g.m v) rfl hk hl hso (fun v _ _ h hh=>by obtain⟨p,c,h1,h2⟩:=hh; exact⟨p,c,h1,h2.mono h.1⟩) (fun u G' hle hu=>by
  obtain⟨v,⟨p,c,tk,h1,h2,h3⟩,h4⟩:=h u G' hle.1 hu
  refine .inr ⟨hg u,fun a w ha hs=>?_⟩
  have s1:St ⟨w,[(5000,tk)]⟩ G'.m G'.m [(5000,tk)] w:=Hp.st ⟨hs.st.imm,fun i y hi=>by
   rw[Lo.Zh] at hi
   split at hi
   .obtain⟨q1,q2,q3,q4⟩:=hs.own _ _ _ (h3 y hi)
    exact⟨q1,fun k _=>q3 k⟩
   .simp[Lo.get] at hi,fun i j y y' hne h1 h2=>by
   rw[Lo.Zh] at h1 h2
   split at h1
   .split at h2
    .omega
    simp[Lo.get] at h2
   simp[Lo.get] at h1⟩
  have hzero:Lo.zero [(5000,tk)]:=fun q hq y hy=>by
   rw[List.mem_singleton] at hq
   subst hq
   exact h2.zero hy
  obtain⟨args,args',pre,q1,q2,q3,q4⟩:=h4 p c tk h1 h2
  rw[q1 _ a w ha hs]
  subst q3
  refine (q2 w G'.m (s1.hp (Lo.Zbu _)) q4).mono fun e' w' ⟨rv,G2,L2,p1,p2,zp,zc,ztk,p3,p4,p5⟩=>⟨rv,p1,?_⟩
  subst p3
  have s2:St ⟨w,[(5000,tk)]⟩ G'.m G2 [(5000,ztk)] w':=s1.ext (R:=[]) p2 (Lo.Zbu _) (Lo.Zt _) (fun i x hx=>by simp[Lo.get] at hx) (fun i x y hi _ z hz=>by rw[show x=z from Option.some.inj (hi.symm.trans hz)]; exact Nat.le_refl _) (fun i x hx=>.inl hx)
  obtain⟨Gf,tk',f1,f2,_,f4,_⟩:=p5.freezeZ (w0:=⟨w,[(5000,tk)]⟩) (key:=5000) (by simp[Lo.Zh]) hzero s2
  have s3:St ⟨w,[(5000,tk)]⟩ G'.m Gf [(5000,none)] w':=f4.weaken (fun i x hx=>by
   rw[Lo.Zh] at hx
   split at hx
   .cases hx
   simp[Lo.get] at hx)
  obtain⟨s4,s5⟩:=hs.extO (d:=d) (k:=some kk) (i0:=5000) (tk:=none) s3.toExt (fun i y hi=>by
   rw[Lo.Zh] at hi
   split at hi
   .exact⟨kk,y.o,rfl,h3 y hi⟩
   simp[Lo.get] at hi) (fun y hy=>by cases hy)
  exact⟨_,s5,s4,zp,zc,p4,f2⟩) k
end
end Go.EL

namespace Go.Proofs.YtoakocgcakgpnaaGreat
open Go.IntKind (i8 i16 i32 i64 u8 u16 u32 u64)
open Go.Proofs.Tryz
open Go Go.EL Go.RowKit Go.Proofs
theorem mix:prog.follows .mixedOrders=true:=by kernel_rfl
def FaP(t i k:Nat):Prop:=∀ ⦃N:Nat⦄ ⦃dst:Option Nat⦄ ⦃ty:TypeId⦄ ⦃pos:String⦄ ⦃af:Array Edge⦄ ⦃g:Option (Nat×Bool)⦄ ⦃fr:Fr⦄ ⦃S:Asrt⦄ ⦃x:Operand⦄ ⦃b off:Nat⦄,fr.ev x=some (.pointer (some ⟨b,off,none⟩))->Y0 prog N ⟨dst,.fieldAddr t x i,ty,pos,af,g⟩ fr S (.pointer (some ⟨b,off+k,none⟩))
theorem faP{t i k:Nat}{fs:Array Field}{fd:Field}(hs:prog.underlying t=some (.struct fs))(hf:fs[i]? = some fd)(hk:fd.offset=k)(hp:∀ b off w,(fieldPlace ⟨b,off,none⟩ fd).run prog w = .ok ⟨b,off+fd.offset,none⟩ w):FaP t i k:=by
 intro N dst ty pos af g fr S x b off hx
 subst hk
 exact Y0.fieldAddr hs hf (hp b off) hx
abbrev En:=Enters prog
abbrev eo:=@enters_of
theorem E10:En 10:=eo func10 (by kernel_rfl) rfl
theorem E12:En 12:=eo func12 (by kernel_rfl) rfl
theorem E15:En 15:=eo func15 (by kernel_rfl) rfl
theorem E17:En 17:=eo func17 (by kernel_rfl) rfl
theorem E18:En 18:=eo func18 (by kernel_rfl) rfl
theorem E20:En 20:=eo func20 (by kernel_rfl) rfl
theorem E21:En 21:=eo func21 (by kernel_rfl) rfl
theorem E25:En 25:=eo func25 (by kernel_rfl) rfl
theorem E26:En 26:=eo func26 (by kernel_rfl) rfl
theorem E27:En 27:=eo func27 (by kernel_rfl) rfl
theorem E28:En 28:=eo func28 (by kernel_rfl) rfl
theorem E39:En 39:=eo func39 (by kernel_rfl) rfl
theorem E40:En 40:=eo func40 (by kernel_rfl) rfl
theorem E41:En 41:=eo func41 (by kernel_rfl) rfl
theorem E42:En 42:=eo func42 (by kernel_rfl) rfl
theorem E43:En 43:=eo func43 (by kernel_rfl) rfl
theorem E44:En 44:=eo func44 (by kernel_rfl) rfl
theorem E45:En 45:=eo func45 (by kernel_rfl) rfl
theorem E46:En 46:=eo func46 (by kernel_rfl) rfl
theorem E47:En 47:=eo func47 (by kernel_rfl) rfl
theorem E48:En 48:=eo func48 (by kernel_rfl) rfl
theorem E49:En 49:=eo func49 (by kernel_rfl) rfl
theorem E51:En 51:=eo func51 (by kernel_rfl) rfl
theorem E53:En 53:=eo func53 (by kernel_rfl) rfl
theorem E54:En 54:=eo func54 (by kernel_rfl) rfl
theorem E55:En 55:=eo func55 (by kernel_rfl) rfl
theorem E56:En 56:=eo func56 (by kernel_rfl) rfl
theorem E58:En 58:=eo func58 (by kernel_rfl) rfl
theorem E59:En 59:=eo func59 (by kernel_rfl) rfl
theorem E61:En 61:=eo func61 (by kernel_rfl) rfl
theorem E62:En 62:=eo func62 (by kernel_rfl) rfl
theorem E63:En 63:=eo func63 (by kernel_rfl) rfl
theorem E64:En 64:=eo func64 (by kernel_rfl) rfl
theorem E65:En 65:=eo func65 (by kernel_rfl) rfl
theorem E66:En 66:=eo func66 (by kernel_rfl) rfl
theorem E67:En 67:=eo func67 (by kernel_rfl) rfl
theorem E68:En 68:=eo func68 (by kernel_rfl) rfl
theorem E75:En 75:=eo func75 (by kernel_rfl) rfl
theorem E80:En 80:=eo func80 (by kernel_rfl) rfl
theorem E81:En 81:=eo func81 (by kernel_rfl) rfl
theorem E82:En 82:=eo func82 (by kernel_rfl) rfl
theorem E83:En 83:=eo func83 (by kernel_rfl) rfl
theorem E84:En 84:=eo func84 (by kernel_rfl) rfl
theorem E85:En 85:=eo func85 (by kernel_rfl) rfl
theorem E86:En 86:=eo func86 (by kernel_rfl) rfl
theorem E87:En 87:=eo func87 (by kernel_rfl) rfl
theorem E88:En 88:=eo func88 (by kernel_rfl) rfl
theorem E89:En 89:=eo func89 (by kernel_rfl) rfl
theorem E90:En 90:=eo func90 (by kernel_rfl) rfl
theorem E91:En 91:=eo func91 (by kernel_rfl) rfl
theorem E92:En 92:=eo func92 (by kernel_rfl) rfl
theorem E93:En 93:=eo func93 (by kernel_rfl) rfl
theorem E94:En 94:=eo func94 (by kernel_rfl) rfl
theorem E95:En 95:=eo func95 (by kernel_rfl) rfl
theorem E96:En 96:=eo func96 (by kernel_rfl) rfl
theorem E97:En 97:=eo func97 (by kernel_rfl) rfl
theorem E98:En 98:=eo func98 (by kernel_rfl) rfl
theorem E99:En 99:=eo func99 (by kernel_rfl) rfl
theorem E100:En 100:=eo func100 (by kernel_rfl) rfl
theorem E105:En 105:=eo func105 (by kernel_rfl) rfl
theorem E106:En 106:=eo func106 (by kernel_rfl) rfl
theorem E107:En 107:=eo func107 (by kernel_rfl) rfl
theorem E108:En 108:=eo func108 (by kernel_rfl) rfl
theorem E109:En 109:=eo func109 (by kernel_rfl) rfl
theorem E111:En 111:=eo func111 (by kernel_rfl) rfl
theorem E112:En 112:=eo func112 (by kernel_rfl) rfl
theorem E114:En 114:=eo func114 (by kernel_rfl) rfl
theorem E115:En 115:=eo func115 (by kernel_rfl) rfl
theorem E116:En 116:=eo func116 (by kernel_rfl) rfl
theorem E117:En 117:=eo func117 (by kernel_rfl) rfl
theorem E118:En 118:=eo func118 (by kernel_rfl) rfl
theorem E119:En 119:=eo func119 (by kernel_rfl) rfl
theorem E120:En 120:=eo func120 (by kernel_rfl) rfl
theorem E121:En 121:=eo func121 (by kernel_rfl) rfl
theorem E123:En 123:=eo func123 (by kernel_rfl) rfl
theorem E124:En 124:=eo func124 (by kernel_rfl) rfl
theorem E125:En 125:=eo func125 (by kernel_rfl) rfl
theorem E129:En 129:=eo func129 (by kernel_rfl) rfl
theorem E130:En 130:=eo func130 (by kernel_rfl) rfl
theorem E131:En 131:=eo func131 (by kernel_rfl) rfl
theorem E132:En 132:=eo func132 (by kernel_rfl) rfl
theorem E135:En 135:=eo func135 (by kernel_rfl) rfl
theorem E136:En 136:=eo func136 (by kernel_rfl) rfl
theorem E137:En 137:=eo func137 (by kernel_rfl) rfl
theorem E138:En 138:=eo func138 (by kernel_rfl) rfl
theorem E139:En 139:=eo func139 (by kernel_rfl) rfl
theorem E140:En 140:=eo func140 (by kernel_rfl) rfl
theorem E141:En 141:=eo func141 (by kernel_rfl) rfl
theorem E142:En 142:=eo func142 (by kernel_rfl) rfl
theorem E143:En 143:=eo func143 (by kernel_rfl) rfl
theorem E144:En 144:=eo func144 (by kernel_rfl) rfl
theorem E147:En 147:=eo func147 (by kernel_rfl) rfl
theorem E148:En 148:=eo func148 (by kernel_rfl) rfl
theorem E149:En 149:=eo func149 (by kernel_rfl) rfl
theorem E150:En 150:=eo func150 (by kernel_rfl) rfl
theorem E151:En 151:=eo func151 (by kernel_rfl) rfl
theorem E152:En 152:=eo func152 (by kernel_rfl) rfl
theorem E153:En 153:=eo func153 (by kernel_rfl) rfl
theorem E154:En 154:=eo func154 (by kernel_rfl) rfl
theorem E155:En 155:=eo func155 (by kernel_rfl) rfl
theorem E158:En 158:=eo func158 (by kernel_rfl) rfl
theorem E163:En 163:=eo func163 (by kernel_rfl) rfl
theorem E164:En 164:=eo func164 (by kernel_rfl) rfl
theorem E165:En 165:=eo func165 (by kernel_rfl) rfl
theorem E166:En 166:=eo func166 (by kernel_rfl) rfl
theorem E168:En 168:=eo func168 (by kernel_rfl) rfl
theorem E169:En 169:=eo func169 (by kernel_rfl) rfl
theorem E170:En 170:=eo func170 (by kernel_rfl) rfl
theorem E171:En 171:=eo func171 (by kernel_rfl) rfl
theorem E172:En 172:=eo func172 (by kernel_rfl) rfl
theorem E174:En 174:=eo func174 (by kernel_rfl) rfl
theorem E175:En 175:=eo func175 (by kernel_rfl) rfl
theorem E177:En 177:=eo func177 (by kernel_rfl) rfl
theorem E178:En 178:=eo func178 (by kernel_rfl) rfl
theorem E179:En 179:=eo func179 (by kernel_rfl) rfl
theorem E180:En 180:=eo func180 (by kernel_rfl) rfl
theorem E185:En 185:=eo func185 (by kernel_rfl) rfl
theorem E186:En 186:=eo func186 (by kernel_rfl) rfl
theorem E187:En 187:=eo func187 (by kernel_rfl) rfl
theorem E190:En 190:=eo func190 (by kernel_rfl) rfl
theorem E192:En 192:=eo func192 (by kernel_rfl) rfl
theorem E193:En 193:=eo func193 (by kernel_rfl) rfl
theorem E194:En 194:=eo func194 (by kernel_rfl) rfl
theorem E195:En 195:=eo func195 (by kernel_rfl) rfl
theorem E196:En 196:=eo func196 (by kernel_rfl) rfl
theorem E198:En 198:=eo func198 (by kernel_rfl) rfl
theorem E199:En 199:=eo func199 (by kernel_rfl) rfl
theorem E200:En 200:=eo func200 (by kernel_rfl) rfl
theorem E210:En 210:=eo func210 (by kernel_rfl) rfl
theorem E213:En 213:=eo func213 (by kernel_rfl) rfl
theorem E217:En 217:=eo func217 (by kernel_rfl) rfl
theorem E218:En 218:=eo func218 (by kernel_rfl) rfl
theorem E219:En 219:=eo func219 (by kernel_rfl) rfl
theorem E220:En 220:=eo func220 (by kernel_rfl) rfl
theorem E234:En 234:=eo func234 (by kernel_rfl) rfl
theorem E239:En 239:=eo func239 (by kernel_rfl) rfl
theorem ag28:AggT prog 28 3:=⟨by kernel_rfl,by kernel_rfl⟩
theorem ag37:AggT prog 37 3:=⟨by kernel_rfl,by kernel_rfl⟩
theorem ag42:AggT prog 42 4:=⟨by kernel_rfl,by kernel_rfl⟩
theorem ag44:AggT prog 44 8:=⟨by kernel_rfl,by kernel_rfl⟩
theorem ag57:AggT prog 57 2:=⟨by kernel_rfl,by kernel_rfl⟩
theorem ag59:AggT prog 59 4:=⟨by kernel_rfl,by kernel_rfl⟩
theorem ag68:AggT prog 68 8:=⟨by kernel_rfl,by kernel_rfl⟩
theorem ag70:AggT prog 70 2:=⟨by kernel_rfl,by kernel_rfl⟩
theorem ag93:AggT prog 93 1:=⟨by kernel_rfl,by kernel_rfl⟩
theorem ag103:AggT prog 103 3:=⟨by kernel_rfl,by kernel_rfl⟩
theorem ag119:AggT prog 119 12:=⟨by kernel_rfl,by kernel_rfl⟩
theorem eg44:prog.eqGuardType prog.depth 44=false:=by kernel_rfl
theorem eg68:prog.eqGuardType prog.depth 68=false:=by kernel_rfl
theorem el5:ElT prog 5 (.int .u8 0) 1 1:=by unfold ElT; kernel_rfl
theorem el65:ElT prog 65 (.slice none 0 0) 1 24:=by unfold ElT; kernel_rfl
theorem el70:ElT prog 70 (.agg ([.int .i64 0,.slice none 0 0]).toArray) 2 32:=by unfold ElT; kernel_rfl
theorem el119:ElT prog 119 (.agg (([.bool false,.slice none 0 0,.bool false,.slice none 0 0]:List Value)++(vecG (Value.int .i64) 8 (fun _=>0))).toArray) 12 128:=by unfold ElT; kernel_rfl
theorem el182:ElT prog 182 (.int .u32 0) 1 4:=by unfold ElT; kernel_rfl
theorem Y0.Zg6:FaP 28 0 0:=faP underlying28 rfl rfl (fun _ _ _=>by kernel_rfl)
theorem Y0.ZiH:FaP 28 1 1:=faP underlying28 rfl rfl (fun _ _ _=>by kernel_rfl)
theorem Y0.ZiI:FaP 28 2 2:=faP underlying28 rfl rfl (fun _ _ _=>by kernel_rfl)
theorem Y0.Znb:FaP 37 0 0:=faP underlying37 rfl rfl (fun _ _ _=>by kernel_rfl)
theorem Y0.ZkR:FaP 37 1 1:=faP underlying37 rfl rfl (fun _ _ _=>by kernel_rfl)
theorem Y0.ZiJ:FaP 37 2 2:=faP underlying37 rfl rfl (fun _ _ _=>by kernel_rfl)
theorem Y0.Znc:FaP 42 0 0:=faP underlying42 rfl rfl (fun _ _ _=>by kernel_rfl)
theorem Y0.Znd:FaP 42 1 1:=faP underlying42 rfl rfl (fun _ _ _=>by kernel_rfl)
theorem Y0.Zne:FaP 42 2 2:=faP underlying42 rfl rfl (fun _ _ _=>by kernel_rfl)
theorem Y0.Znf:FaP 42 3 3:=faP underlying42 rfl rfl (fun _ _ _=>by kernel_rfl)
theorem Y0.ZkS:FaP 57 0 0:=faP underlying57 rfl rfl (fun _ _ _=>by kernel_rfl)
theorem Y0.ZiK:FaP 57 1 1:=faP underlying57 rfl rfl (fun _ _ _=>by kernel_rfl)
theorem Y0.ZkT:FaP 59 0 0:=faP underlying59 rfl rfl (fun _ _ _=>by kernel_rfl)
theorem Y0.ZkU:FaP 59 1 2:=faP underlying59 rfl rfl (fun _ _ _=>by kernel_rfl)
theorem Y0.Zng:FaP 62 0 0:=faP underlying62 rfl rfl (fun _ _ _=>by kernel_rfl)
theorem Y0.ZkV:FaP 62 1 1:=faP underlying62 rfl rfl (fun _ _ _=>by kernel_rfl)
theorem Y0.ZiL:FaP 62 2 2:=faP underlying62 rfl rfl (fun _ _ _=>by kernel_rfl)
theorem Y0.Znh:FaP 70 0 0:=faP underlying70 rfl rfl (fun _ _ _=>by kernel_rfl)
theorem Y0.Zni:FaP 70 1 1:=faP underlying70 rfl rfl (fun _ _ _=>by kernel_rfl)
theorem Y0.ZiM:FaP 93 0 0:=faP underlying93 rfl rfl (fun _ _ _=>by kernel_rfl)
theorem Y0.ZmS:FaP 103 0 0:=faP underlying103 rfl rfl (fun _ _ _=>by kernel_rfl)
theorem Y0.ZjJ:FaP 119 0 0:=faP underlying119 rfl rfl (fun _ _ _=>by kernel_rfl)
theorem Y0.ZjK:FaP 119 1 4:=faP underlying119 rfl rfl (fun _ _ _=>by kernel_rfl)
theorem Y0.ZcG:FaP 158 0 0:=faP underlying158 rfl rfl (fun _ _ _=>by kernel_rfl)
def ky3:Ky prog 3 Int:=Ky.int underlying3
def ky9:Ky prog 9 ByteArray:=Ky.str underlying9
theorem laid68:laidOutB prog=true:=by kernel_rfl
def ky68:Ky prog 68 (Fin 8->Int):=Ky.arr underlying68 underlying3 (by kernel_rfl) (by kernel_rfl) (by kernel_rfl) laid68 (of_decide_eq_true (by kernel_rfl)) (by kernel_rfl)
theorem sc3:ScalT prog 3:=by unfold ScalT; kernel_rfl
theorem sc4:ScalT prog 4:=by unfold ScalT; kernel_rfl
theorem sc5:ScalT prog 5:=by unfold ScalT; kernel_rfl
theorem sc9:ScalT prog 9:=by unfold ScalT; kernel_rfl
theorem sc22:ScalT prog 22:=by unfold ScalT; kernel_rfl
theorem sc25:ScalT prog 25:=by unfold ScalT; kernel_rfl
theorem sc35:ScalT prog 35:=by unfold ScalT; kernel_rfl
theorem sc39:ScalT prog 39:=by unfold ScalT; kernel_rfl
theorem sc40:ScalT prog 40:=by unfold ScalT; kernel_rfl
theorem sc54:ScalT prog 54:=by unfold ScalT; kernel_rfl
theorem sc55:ScalT prog 55:=by unfold ScalT; kernel_rfl
theorem sc65:ScalT prog 65:=by unfold ScalT; kernel_rfl
theorem sc91:ScalT prog 91:=by unfold ScalT; kernel_rfl
theorem sc182:ScalT prog 182:=by unfold ScalT; kernel_rfl
theorem sz3:(prog.info? 3).map (·.size)=some 1:=by kernel_rfl
theorem sz4:(prog.info? 4).map (·.size)=some 1:=by kernel_rfl
theorem sz5:(prog.info? 5).map (·.size)=some 1:=by kernel_rfl
theorem sz9:(prog.info? 9).map (·.size)=some 1:=by kernel_rfl
theorem sz25:(prog.info? 25).map (·.size)=some 1:=by kernel_rfl
theorem sz28:(prog.info? 28).map (·.size)=some 3:=by kernel_rfl
theorem sz35:(prog.info? 35).map (·.size)=some 1:=by kernel_rfl
theorem sz40:(prog.info? 40).map (·.size)=some 1:=by kernel_rfl
theorem sz42:(prog.info? 42).map (·.size)=some 4:=by kernel_rfl
theorem sz44:(prog.info? 44).map (·.size)=some 8:=by kernel_rfl
theorem sz54:(prog.info? 54).map (·.size)=some 1:=by kernel_rfl
theorem sz57:(prog.info? 57).map (·.size)=some 2:=by kernel_rfl
theorem sz59:(prog.info? 59).map (·.size)=some 4:=by kernel_rfl
theorem sz65:(prog.info? 65).map (·.size)=some 1:=by kernel_rfl
theorem sz68:(prog.info? 68).map (·.size)=some 8:=by kernel_rfl
theorem sz70:(prog.info? 70).map (·.size)=some 2:=by kernel_rfl
theorem sz93:(prog.info? 93).map (·.size)=some 1:=by kernel_rfl
theorem sz119:(prog.info? 119).map (·.size)=some 12:=by kernel_rfl
theorem sz137:(prog.info? 137).map (·.size)=some 5:=by kernel_rfl
theorem sz182:(prog.info? 182).map (·.size)=some 1:=by kernel_rfl
theorem z9:(prog.info? 9).map (·.zero)=some (some (.string ByteArray.empty)):=by kernel_rfl
theorem z28:(prog.info? 28).map (·.zero)=some (some (.agg ([.int .i64 0,.slice none 0 0,.slice none 0 0]).toArray)):=by kernel_rfl
theorem z42:(prog.info? 42).map (·.zero)=some (some (.agg ([.slice none 0 0,.slice none 0 0,.slice none 0 0,.int .i64 0]).toArray)):=by kernel_rfl
theorem z44:(prog.info? 44).map (·.zero)=some (some (.agg (vecG (Value.int .i64) 8 (fun _=>0)).toArray)):=by kernel_rfl
theorem z57:(prog.info? 57).map (·.zero)=some (some (.agg ([.bool false,.slice none 0 0]).toArray)):=by kernel_rfl
theorem z59:(prog.info? 59).map (·.zero)=some (some (.agg ([.bool false,.slice none 0 0,.bool false,.slice none 0 0]).toArray)):=by kernel_rfl
theorem z68:(prog.info? 68).map (·.zero)=some (some (.agg (vecG (Value.int .i64) 8 (fun _=>0)).toArray)):=by kernel_rfl
theorem z70:(prog.info? 70).map (·.zero)=some (some (.agg ([.int .i64 0,.slice none 0 0]).toArray)):=by kernel_rfl
theorem z111:(prog.info? 111).map (·.zero)=some (some (.agg (vecG Value.bool 8 (fun _=>false)).toArray)):=by kernel_rfl
theorem z119:(prog.info? 119).map (·.zero)=some (some (.agg (([.bool false,.slice none 0 0,.bool false,.slice none 0 0]:List Value)++(vecG (Value.int .i64) 8 (fun _=>0))).toArray)):=by kernel_rfl
theorem z158:(prog.info? 158).map (·.zero)=some (some (.agg ([.slice none 0 0]).toArray)):=by kernel_rfl
theorem zv4(w:World):(zeroValue 4).run prog w = .ok (.bool false) w:=by kernel_rfl
end Go.Proofs.YtoakocgcakgpnaaGreat

namespace Go.EL
open Go.IntKind (i8 i16 i32 i64 u8 u16 u32 u64)
open Go Go.EL Go.RowKit Go.Proofs
structure Zb where
 neg:Bool
 mag:(List Int)
abbrev Zai:Rp Zb:=Rp.via (Rp.pair Rp.bool (Rp.sl (Rp.int .u32))) (fun x=>(x.neg,x.mag))
theorem Zg1{G:Mem}{K:Nat->Value->Prop}{o:Nat}{x:Zb}(h:AtK Zai G K o x):∃ zmagp zmagc,(∀ (j:Nat) (u:Value),([.bool x.neg,.slice zmagp x.mag.length zmagc]).toArray[j]? = some u->K (o+j) u)/\SlR (Rp.int .u32) G (.slice zmagp x.mag.length zmagc) x.mag:=by
 obtain⟨c,h,hc⟩:=h
 obtain⟨c1,d1,e1,h1,k1⟩:=h
 subst e1
 replace h1:_=([.bool _]:List Value):=h1
 subst h1
 obtain⟨v3,e3,s3⟩:=k1
 subst e3
 obtain⟨p3,q3,f3⟩:=SlR.form s3
 subst f3
 exact⟨p3,q3,fun j u hu=>hc j u (by simpa using hu),s3⟩
structure Zf where
 num:Zb
 den:Zb
abbrev ZaY:Rp Zf:=Rp.via (Rp.pair Zai Zai) (fun x=>(x.num,x.den))
theorem Zj6{G:Mem}{K:Nat->Value->Prop}{o:Nat}{x:Zf}(h:AtK ZaY G K o x):∃ znummagp znummagc zdenmagp zdenmagc,(∀ (j:Nat) (u:Value),([.bool x.num.neg,.slice znummagp x.num.mag.length znummagc,.bool x.den.neg,.slice zdenmagp x.den.mag.length zdenmagc]).toArray[j]? = some u->K (o+j) u)/\SlR (Rp.int .u32) G (.slice znummagp x.num.mag.length znummagc) x.num.mag/\SlR (Rp.int .u32) G (.slice zdenmagp x.den.mag.length zdenmagc) x.den.mag:=by
 obtain⟨c,h,hc⟩:=h
 obtain⟨c1,d1,e1,h1,k1⟩:=h
 subst e1
 obtain⟨c2,d2,e2,h2,k2⟩:=h1
 subst e2
 replace h2:_=([.bool _]:List Value):=h2
 subst h2
 obtain⟨v4,e4,s4⟩:=k2
 subst e4
 obtain⟨p4,q4,f4⟩:=SlR.form s4
 subst f4
 obtain⟨c5,d5,e5,h5,k5⟩:=k1
 subst e5
 replace h5:_=([.bool _]:List Value):=h5
 subst h5
 obtain⟨v7,e7,s7⟩:=k5
 subst e7
 obtain⟨p7,q7,f7⟩:=SlR.form s7
 subst f7
 exact⟨p4,q4,p7,q7,fun j u hu=>hc j u (by simpa using hu),s4,s7⟩
theorem Zj9{G:Mem}{cs:List Value}{x:Zf}(h:ZaY.rep G cs x):∃ znummagp znummagc zdenmagp zdenmagc,cs=[.bool x.num.neg,.slice znummagp x.num.mag.length znummagc,.bool x.den.neg,.slice zdenmagp x.den.mag.length zdenmagc]/\SlR (Rp.int .u32) G (.slice znummagp x.num.mag.length znummagc) x.num.mag/\SlR (Rp.int .u32) G (.slice zdenmagp x.den.mag.length zdenmagc) x.den.mag:=by
 obtain⟨c1,d1,e1,h1,k1⟩:=h
 subst e1
 obtain⟨c2,d2,e2,h2,k2⟩:=h1
 subst e2
 replace h2:_=([.bool _]:List Value):=h2
 subst h2
 obtain⟨v4,e4,s4⟩:=k2
 subst e4
 obtain⟨p4,q4,f4⟩:=SlR.form s4
 subst f4
 obtain⟨c5,d5,e5,h5,k5⟩:=k1
 subst e5
 replace h5:_=([.bool _]:List Value):=h5
 subst h5
 obtain⟨v7,e7,s7⟩:=k5
 subst e7
 obtain⟨p7,q7,f7⟩:=SlR.form s7
 subst f7
 exact⟨p4,q4,p7,q7,rfl,s4,s7⟩
structure Za where
 c:Zf
 m:(Fin 8->Int)
abbrev Zj:Rp Za:=Rp.via (Rp.pair ZaY (Rp.vec .i64 8)) (fun x=>(x.c,x.m))
theorem Zju{G:Mem}{K:Nat->Value->Prop}{o:Nat}{x:Za}(h:AtK Zj G K o x):∃ zcnummagp zcnummagc zcdenmagp zcdenmagc,(∀ (j:Nat) (u:Value),(([.bool x.c.num.neg,.slice zcnummagp x.c.num.mag.length zcnummagc,.bool x.c.den.neg,.slice zcdenmagp x.c.den.mag.length zcdenmagc]:List Value)++(vecG (Value.int .i64) 8 x.m)).toArray[j]? = some u->K (o+j) u)/\SlR (Rp.int .u32) G (.slice zcnummagp x.c.num.mag.length zcnummagc) x.c.num.mag/\SlR (Rp.int .u32) G (.slice zcdenmagp x.c.den.mag.length zcdenmagc) x.c.den.mag:=by
 obtain⟨c,h,hc⟩:=h
 obtain⟨c1,d1,e1,h1,k1⟩:=h
 subst e1
 obtain⟨c2,d2,e2,h2,k2⟩:=h1
 subst e2
 obtain⟨c3,d3,e3,h3,k3⟩:=h2
 subst e3
 replace h3:_=([.bool _]:List Value):=h3
 subst h3
 obtain⟨v5,e5,s5⟩:=k3
 subst e5
 obtain⟨p5,q5,f5⟩:=SlR.form s5
 subst f5
 obtain⟨c6,d6,e6,h6,k6⟩:=k2
 subst e6
 replace h6:_=([.bool _]:List Value):=h6
 subst h6
 obtain⟨v8,e8,s8⟩:=k6
 subst e8
 obtain⟨p8,q8,f8⟩:=SlR.form s8
 subst f8
 replace k1:_=(vecG (Value.int .i64) 8 _:List Value):=k1
 subst k1
 exact⟨p5,q5,p8,q8,fun j u hu=>hc j u (by simpa using hu),s5,s8⟩
theorem Zga{G:Mem}{cs:List Value}{x:Za}(h:Zj.rep G cs x):∃ zcnummagp zcnummagc zcdenmagp zcdenmagc,cs=([.bool x.c.num.neg,.slice zcnummagp x.c.num.mag.length zcnummagc,.bool x.c.den.neg,.slice zcdenmagp x.c.den.mag.length zcdenmagc]:List Value)++(vecG (Value.int .i64) 8 x.m)/\SlR (Rp.int .u32) G (.slice zcnummagp x.c.num.mag.length zcnummagc) x.c.num.mag/\SlR (Rp.int .u32) G (.slice zcdenmagp x.c.den.mag.length zcdenmagc) x.c.den.mag:=by
 obtain⟨c1,d1,e1,h1,k1⟩:=h
 subst e1
 obtain⟨c2,d2,e2,h2,k2⟩:=h1
 subst e2
 obtain⟨c3,d3,e3,h3,k3⟩:=h2
 subst e3
 replace h3:_=([.bool _]:List Value):=h3
 subst h3
 obtain⟨v5,e5,s5⟩:=k3
 subst e5
 obtain⟨p5,q5,f5⟩:=SlR.form s5
 subst f5
 obtain⟨c6,d6,e6,h6,k6⟩:=k2
 subst e6
 replace h6:_=([.bool _]:List Value):=h6
 subst h6
 obtain⟨v8,e8,s8⟩:=k6
 subst e8
 obtain⟨p8,q8,f8⟩:=SlR.form s8
 subst f8
 replace k1:_=(vecG (Value.int .i64) 8 _:List Value):=k1
 subst k1
 exact⟨p5,q5,p8,q8,rfl,s5,s8⟩
structure Ze where
 n:Int
 eqs:(List (List Za))
 neqs:(List (List Za))
abbrev ZbT:Rp Ze:=Rp.via (Rp.pair (Rp.int .i64) (Rp.pair (Rp.sl (Rp.sl Zj)) (Rp.sl (Rp.sl Zj)))) (fun x=>(x.n,x.eqs,x.neqs))
theorem Zjt{G:Mem}{K:Nat->Value->Prop}{o:Nat}{x:Ze}(h:AtK ZbT G K o x):∃ zeqsp zeqsc zneqsp zneqsc,(∀ (j:Nat) (u:Value),([.int .i64 x.n,.slice zeqsp x.eqs.length zeqsc,.slice zneqsp x.neqs.length zneqsc]).toArray[j]? = some u->K (o+j) u)/\SlR (Rp.sl Zj) G (.slice zeqsp x.eqs.length zeqsc) x.eqs/\SlR (Rp.sl Zj) G (.slice zneqsp x.neqs.length zneqsc) x.neqs:=by
 obtain⟨c,h,hc⟩:=h
 obtain⟨c1,d1,e1,h1,k1⟩:=h
 subst e1
 replace h1:_=([.int .i64 _]:List Value):=h1
 subst h1
 obtain⟨c3,d3,e3,h3,k3⟩:=k1
 subst e3
 obtain⟨v4,e4,s4⟩:=h3
 subst e4
 obtain⟨p4,q4,f4⟩:=SlR.form s4
 subst f4
 obtain⟨v5,e5,s5⟩:=k3
 subst e5
 obtain⟨p5,q5,f5⟩:=SlR.form s5
 subst f5
 exact⟨p4,q4,p5,q5,fun j u hu=>hc j u (by simpa using hu),s4,s5⟩
structure Zv where
 t:(List (Fin 5->Int))
abbrev ZaL:Rp Zv:=Rp.via (Rp.sl (Rp.vec .i8 5)) (fun x=>x.t)
theorem ZiA{G:Mem}{K:Nat->Value->Prop}{o:Nat}{x:Zv}(h:AtK ZaL G K o x):∃ ztp ztc,(∀ (j:Nat) (u:Value),([.slice ztp x.t.length ztc]).toArray[j]? = some u->K (o+j) u)/\SlR (Rp.vec .i8 5) G (.slice ztp x.t.length ztc) x.t:=by
 obtain⟨c,h,hc⟩:=h
 obtain⟨v1,e1,s1⟩:=h
 subst e1
 obtain⟨p1,q1,f1⟩:=SlR.form s1
 subst f1
 exact⟨p1,q1,fun j u hu=>hc j u (by simpa using hu),s1⟩
structure Zp where
 n:Int
 l:(List Zv)
 gap:(List Int)
abbrev ZfH:Rp Zp:=Rp.via (Rp.pair (Rp.int .u8) (Rp.pair (Rp.sl ZaL) (Rp.sl (Rp.int .u8)))) (fun x=>(x.n,x.l,x.gap))
theorem ZiB{G:Mem}{K:Nat->Value->Prop}{o:Nat}{x:Zp}(h:AtK ZfH G K o x):∃ zlp zlc zgapp zgapc,(∀ (j:Nat) (u:Value),([.int .u8 x.n,.slice zlp x.l.length zlc,.slice zgapp x.gap.length zgapc]).toArray[j]? = some u->K (o+j) u)/\SlR ZaL G (.slice zlp x.l.length zlc) x.l/\SlR (Rp.int .u8) G (.slice zgapp x.gap.length zgapc) x.gap:=by
 obtain⟨c,h,hc⟩:=h
 obtain⟨c1,d1,e1,h1,k1⟩:=h
 subst e1
 replace h1:_=([.int .u8 _]:List Value):=h1
 subst h1
 obtain⟨c3,d3,e3,h3,k3⟩:=k1
 subst e3
 obtain⟨v4,e4,s4⟩:=h3
 subst e4
 obtain⟨p4,q4,f4⟩:=SlR.form s4
 subst f4
 obtain⟨v5,e5,s5⟩:=k3
 subst e5
 obtain⟨p5,q5,f5⟩:=SlR.form s5
 subst f5
 exact⟨p4,q4,p5,q5,fun j u hu=>hc j u (by simpa using hu),s4,s5⟩
structure Zg where
 id:Int
 p:(List Za)
abbrev Z9:Rp Zg:=Rp.via (Rp.pair (Rp.int .i64) (Rp.sl Zj)) (fun x=>(x.id,x.p))
theorem Zg0{G:Mem}{K:Nat->Value->Prop}{o:Nat}{x:Zg}(h:AtK Z9 G K o x):∃ zpp zpc,(∀ (j:Nat) (u:Value),([.int .i64 x.id,.slice zpp x.p.length zpc]).toArray[j]? = some u->K (o+j) u)/\SlR Zj G (.slice zpp x.p.length zpc) x.p:=by
 obtain⟨c,h,hc⟩:=h
 obtain⟨c1,d1,e1,h1,k1⟩:=h
 subst e1
 replace h1:_=([.int .i64 _]:List Value):=h1
 subst h1
 obtain⟨v3,e3,s3⟩:=k1
 subst e3
 obtain⟨p3,q3,f3⟩:=SlR.form s3
 subst f3
 exact⟨p3,q3,fun j u hu=>hc j u (by simpa using hu),s3⟩
structure Zm where
 vars:(List ByteArray)
 eqs:(List Zg)
 neqs:(List Zg)
 next:Int
structure ZbR where
 n:Int
 d:Int
 k:Int
structure Za0 where
 k:Ze
end Go.EL

namespace Go.EL
open Go.IntKind (i8 i16 i32 i64 u8 u16 u32 u64)
open Go Go.RowKit
abbrev M:=Fin 8->Int
def cmpFrom(a b:M):Nat->Nat->Int
 | 0,_=>0
 | n+1,k=>if h:k<8 then (if a ⟨k,h⟩<b ⟨k,h⟩ then -1 else if b ⟨k,h⟩<a ⟨k,h⟩ then 1 else cmpFrom a b n (k+1)) else 0
def cmpM(a b:M):Int:=cmpFrom a b 8 0
theorem Zdo(a b:M):∀ (k:Nat),k<=8->(∀ i:Fin 8,i.val<k->a i=b i)->cmpM a b=cmpFrom a b (8-k) k
 | 0,_,_=>rfl
 | k+1,hk,h=>by
  rw[Zdo a b k (by omega) (fun i hi=>h i (by omega))]
  have hl:k<8:=by omega
  have e:=h ⟨k,hl⟩ (by simp)
  rw[show 8-k=(8-(k+1))+1 by omega]
  simp[cmpFrom,hl,e]
theorem ZjG(a b:M){k:Nat}(hk:k<8)(h:∀ i:Fin 8,i.val<k->a i=b i)(hlt:a ⟨k,hk⟩<b ⟨k,hk⟩):cmpM a b = -1:=by
 rw[Zdo a b k (by omega) h,show 8-k=(7-k)+1 by omega]
 simp[cmpFrom,hk,hlt]
theorem ZjF(a b:M){k:Nat}(hk:k<8)(h:∀ i:Fin 8,i.val<k->a i=b i)(hlt:b ⟨k,hk⟩<a ⟨k,hk⟩):cmpM a b=1:=by
 rw[Zdo a b k (by omega) h,show 8-k=(7-k)+1 by omega]
 have:¬ a ⟨k,hk⟩<b ⟨k,hk⟩:=by omega
 simp[cmpFrom,hk,hlt,this]
theorem ZjE(a b:M)(h:∀ i,a i=b i):cmpM a b=0:=by
 rw[Zdo a b 8 (by omega) (fun i _=>h i)]
 rfl
theorem Zf8(a b:M):∀ n k,cmpFrom b a n k = - cmpFrom a b n k
 | 0,_=>by simp[cmpFrom]
 | n+1,k=>by
  simp only[cmpFrom]
  split
  .rename_i h
   rw[Zf8 a b n (k+1)]
   split <;> split <;> first|omega|(split <;> omega)
  rfl
theorem Zde(a b c:M):∀ n k,cmpFrom a b n k<=0->cmpFrom b c n k<=0->cmpFrom a c n k<=0/\((cmpFrom a b n k<0\/cmpFrom b c n k<0)->cmpFrom a c n k<0)
 | 0,_=>by simp[cmpFrom]
 | n+1,k=>by
  have ih:=Zde a b c n (k+1)
  simp only[cmpFrom]
  by_cases h:k<8
  .simp only[dif_pos h]
   by_cases h1:a ⟨k,h⟩<b ⟨k,h⟩
   .by_cases h2:b ⟨k,h⟩<c ⟨k,h⟩
    .simp[h1,h2,show a ⟨k,h⟩<c ⟨k,h⟩ by omega]
    by_cases h3:c ⟨k,h⟩<b ⟨k,h⟩
    .simp[h2,h3]
    simp[show a ⟨k,h⟩<c ⟨k,h⟩ by omega]
   by_cases h1':b ⟨k,h⟩<a ⟨k,h⟩
   .simp[h1,h1']
   by_cases h2:b ⟨k,h⟩<c ⟨k,h⟩
   .simp[show a ⟨k,h⟩<c ⟨k,h⟩ by omega]
   by_cases h3:c ⟨k,h⟩<b ⟨k,h⟩
   .simp[h2,h3]
   simp only[h1,h1',h2,h3,if_false,show ¬ a ⟨k,h⟩<c ⟨k,h⟩ by omega,show ¬ c ⟨k,h⟩<a ⟨k,h⟩ by omega]
   exact ih
  simp[h]
theorem Zfh(a b:M):∀ n k,n+k=8->cmpFrom a b n k=0->∀ i:Fin 8,k<=i.val->a i=b i
 | 0,k,e,_,i,hi=>by have:=i.isLt; omega
 | n+1,k,e,hz,i,hi=>by
  have hk:k<8:=by omega
  simp only[cmpFrom,dif_pos hk] at hz
  by_cases h1:a ⟨k,hk⟩<b ⟨k,hk⟩
  .simp[h1] at hz
  by_cases h2:b ⟨k,hk⟩<a ⟨k,hk⟩
  .simp[h1,h2] at hz
  simp only[h1,h2,if_false] at hz
  by_cases hik:i.val=k
  .have:i=⟨k,hk⟩:=Fin.ext hik
   subst this; omega
  exact Zfh a b n (k+1) (by omega) hz i (by omega)
theorem ZaR(a b:M):cmpM b a = - cmpM a b:=Zf8 a b 8 0
theorem Zij{a b c:M}(h1:cmpM a b<=0)(h2:cmpM b c<=0):cmpM a c<=0:=(Zde a b c 8 0 h1 h2).1
theorem Zdf{a b c:M}(h1:cmpM a b<=0)(h2:cmpM b c<=0)(h:cmpM a b<0\/cmpM b c<0):cmpM a c<0:=(Zde a b c 8 0 h1 h2).2 h
theorem ZdX(a:M):cmpM a a=0:=ZjE a a fun _=>rfl
theorem Zbh{a b:M}(h:cmpM a b=0):a=b:=funext fun i=>Zfh a b 8 0 rfl h i (Nat.zero_le _)
theorem swoR:Go.Sort.SWO (Go.Proofs.ltOf fun a b=>cmpM b a) where
 irrefl x:=by simp[Go.Proofs.ltOf,ZdX]
 trans x y z h1 h2:=by
  simp only[Go.Proofs.ltOf,decide_eq_true_eq] at *
  exact Zdf (a:=z) (b:=y) (c:=x) (by omega) (by omega) (.inl h2)
 ntrans x y z h1 h2:=by
  simp only[Go.Proofs.ltOf,decide_eq_false_iff_not] at *
  have a:=ZaR x y
  have b:=ZaR y z
  have c:=ZaR x z
  have:=Zij (a:=x) (b:=y) (c:=z) (by omega) (by omega)
  omega
end Go.EL

namespace Go.EL
open Go.IntKind (i8 i16 i32 i64 u8 u16 u32 u64)
open Go Go.EL Go.RowKit Go.Proofs
def goodC(c:Zf):Bool:=match c.num.mag,c.den.mag with
 | [w],[d]=>!c.den.neg && decide (d=1) && decide (1<=w) && decide (w<=12)
 | _,_=>false
def numC(c:Zf):Int:=if c.num.neg=true then-c.num.mag.headD 0 else c.num.mag.headD 0
def cmpT(s t:Za):Int:=if s.m=t.m then (if numC s.c<numC t.c then -1 else if numC s.c=numC t.c then 0 else 1) else cmpM s.m t.m
def cmpP:List Za->List Za->Int
 | [],[]=>0
 | [],_::_=>-1
 | _::_,[]=>1
 | s::p,t::q=>if cmpT s t=0 then cmpP p q else cmpT s t
def goodP(p:List Za):Bool:=decide (p.length<=1000) && p.all fun t=>goodC t.c
def inP(x:List Za):List (List Za)->List (List Za)
 | []=>[x]
 | y::l=>if 0<cmpP x y then y::inP x l else x::y::l
def ordP(l:List (List Za)):List (List Za):=l.foldr inP []
def dedG(x:List Za):List (List Za)->List (List Za)
 | []=>[]
 | y::l=>if cmpP y x=0 then dedG y l else y::dedG y l
def dedP:List (List Za)->List (List Za)
 | []=>[]
 | x::l=>x::dedG x l
def Zb0(l:List (List Za)):Cq (List (List Za)):=Cq.chk (l.length<=100/\l.all goodP=true) (Cq.ret (dedP (ordP l)))
def natG:Nat->Int->List Int
 | 0,n=>[u8.wrap n]
 | f+1,n=>if 128<=n then u8.wrap (u8.wrap (Int.tmod n 128)+128)::natG f (u64.wrap (Int.tdiv n 128)) else [u8.wrap n]
def natW(n:Int):List Int:=natG 10 n
def numW(n:Int):List Int:=natW (u64.wrap (2*u64.wrap n))
def wordW(d:Int):List Int:=[u8.wrap (Int.fdiv d (2 ^ (min (24:Int).toNat u32.bits))),u8.wrap (Int.fdiv d (2 ^ (min (16:Int).toNat u32.bits))),u8.wrap (Int.fdiv d (2 ^ (min (8:Int).toNat u32.bits))),u8.wrap d]
def intW(a:Zb):List Int:=natW (if a.neg=true then u64.wrap (u64.wrap (2*u64.wrap (a.mag.length:Int))+1) else u64.wrap (2*u64.wrap (a.mag.length:Int)))++a.mag.flatMap wordW
def ratW(a:Zf):List Int:=intW a.num++intW a.den
def monW(m:Fin 8->Int):Nat->List Int
 | 0=>[]
 | k+1=>monW m k++natW (u64.wrap (getF m (k:Int)))
def termW(t:Za):List Int:=ratW t.c++monW t.m 8
def polyW(p:List Za):List Int:=natW (u64.wrap (p.length:Int))++p.flatMap termW
def polysW(l:List (List Za)):List Int:=natW (u64.wrap (l.length:Int))++l.flatMap polyW
def coreW(k:Ze):List Int:=numW k.n++polysW k.eqs++polysW k.neqs
def swF(f:Fin 8->Int)(a b:Nat):Fin 8->Int:=setF (setF f a (getF f (b:Int))) b (getF f (a:Int))
def revF(f:Fin 8->Int)(b a:Nat):Nat->Fin 8->Int
 | 0=>f
 | k+1=>swF (revF f b a k) (b+k) (b+(a-1-k))
def ascF(p:Fin 8->Int):Nat->Option Nat
 | 0=>none
 | k+1=>if getF p ((k+1:Nat):Int)<getF p (k:Int) then ascF p k else some k
def geF(p:Fin 8->Int)(x:Int):Nat->Nat
 | 0=>0
 | j+1=>if getF p ((j+1:Nat):Int)<x then geF p x j else j+1
def nextF(n:Nat)(p:Fin 8->Int):Option (Fin 8->Int):=match ascF p (n-1) with
 | none=>none
 | some i=>some (revF (swF p i (geF p (getF p (i:Int)) (n-1))) (i+1) (n-(i+1)) ((n-(i+1)) / 2))
def permsF(n:Nat):Nat->(Fin 8->Int)->List (Fin 8->Int)
 | 0,_=>[]
 | k+1,p=>p::match nextF n p with|none=>[]|some q=>permsF n k q
def permsL(n:Nat):List (Fin 8->Int):=permsF n 24 fun i=>(i.val:Int)
def ZC:ByteArray:=⟨#[90,101,100]⟩
def ZF:ByteArray:=⟨#[121,95,49]⟩
def ZG:ByteArray:=⟨#[120]⟩
def ZdL:ByteArray:=⟨#[0,1,2,2,3,3,3,3,4,4,4,4,4,4,4,4,5,5,5,5,5,5,5,5,5,5,5,5,5,5,5,5,6,6,6,6,6,6,6,6,6,6,6,6,6,6,6,6,6,6,6,6,6,6,6,6,6,6,6,6,6,6,6,6,7,7,7,7,7,7,7,7,7,7,7,7,7,7,7,7,7,7,7,7,7,7,7,7,7,7,7,7,7,7,7,7,7,7,7,7,7,7,7,7,7,7,7,7,7,7,7,7,7,7,7,7,7,7,7,7,7,7,7,7,7,7,7,7,8,8,8,8,8,8,8,8,8,8,8,8,8,8,8,8,8,8,8,8,8,8,8,8,8,8,8,8,8,8,8,8,8,8,8,8,8,8,8,8,8,8,8,8,8,8,8,8,8,8,8,8,8,8,8,8,8,8,8,8,8,8,8,8,8,8,8,8,8,8,8,8,8,8,8,8,8,8,8,8,8,8,8,8,8,8,8,8,8,8,8,8,8,8,8,8,8,8,8,8,8,8,8,8,8,8,8,8,8,8,8,8,8,8,8,8,8,8,8,8,8,8,8,8,8,8,8,8]⟩
def Zak(k:Int):Cq (List (List Za)):=Cq.chk (0<=k/\k<=1000000) (Cq.ret [])
def Zcq(b:(Fin 8->Int))(c:(Fin 8->Int))(a:Int):Cq Int:=
 Cq.chk (0<=a/\a<8) (Cq.chk (0<=a/\a<8) (if (getF b a)<(getF c a) then (Cq.ret (-1)) else (Cq.ret 1)))
def Zhb(b:(Fin 8->Int))(c:(Fin 8->Int)):Int->Cq Int:=
 Cq.loop fun d=>match d with|a=>Cq.chk (0<=a/\a<8) (Cq.chk (0<=a/\a<8) (if (getF b a)=(getF c a) then (Cq.ret (.inl (i64.wrap (a+1)))) else (Cq.ret (.inr a))))
def ZaH(a:(Fin 8->Int))(b:(Fin 8->Int)):Cq Int:=
 if a=b then (Cq.ret 0) else (Cq.next (Zhb a b 0) fun c=>match c with|d=>Zcq a b d)
def Zcw(b:Za)(c:Za):Cq Int:=
 Cq.bind (ZaH c.m b.m) fun a=>Cq.ret a
def ZL(l:List Za)(a b c:Int):Cq (List Za):=
 Cq.chk (a=0/\b=(l.length:Int)/\(0<=c/\c<1000000)/\l.length<=1000000) (Cq.any (fun d=>d.Perm l/\d.Pairwise (fun x y=>¬ cmpM x.m y.m<0)) Cq.ret)
def ZN(a:Zb):Cq Int:=
 if (a.mag.length:Int)=0 then (Cq.ret 0) else (if a.neg=true then (Cq.ret (-1)) else (Cq.ret 1))
def ZA(b:Zf):Cq Int:=
 Cq.bind (ZN b.num) fun a=>Cq.ret a
def Zcm(b:(List Int))(a:Int):Cq (List Int):=
 Cq.chk (0<=(0:Int)/\(0:Int)<=a/\a<=(b.length:Int)) (Cq.ret ((b.take a.toNat).drop (0:Int).toNat))
def Zha(b:(List Int)):Int->Cq Int:=
 Cq.loop fun c=>match c with|a=>if 0<a then (Cq.at' b (i64.wrap (a-1)) fun d=>if d=0 then (Cq.ret (.inl (i64.wrap (a-1)))) else (Cq.ret (.inr a))) else (Cq.ret (.inr a))
def ZD(a:(List Int)):Cq (List Int):=
 Cq.next (Zha a (a.length:Int)) fun b=>match b with|c=>Zcm a c
def Za2(a:Int):Cq (List Int):=
 Cq.bind (ZD [u32.wrap a,u32.wrap (Int.fdiv a (2 ^ (min (32:Int).toNat u64.bits)))]) fun b=>Cq.ret b
def ZR(b:Bool)(c:(List Int)):Cq Zb:=
 Cq.bind (ZD c) fun a=>if (a.length:Int)=0 then (Cq.ret (Zb.mk false [])) else (Cq.ret (Zb.mk b a))
def ZbC(a:Int):Cq Zb:=
 if a<0 then Cq.fail else (Cq.bind (Za2 (u64.wrap a)) fun b=>Cq.bind (ZR (decide (a<0)) b) fun c=>Cq.ret c)
def ZS(a:Zb):Cq Bool:=
 if a.neg=true then (Cq.ret false) else (if (a.mag.length:Int)=1 then (Cq.at' a.mag 0 fun b=>Cq.ret (decide (b=1))) else (Cq.ret false))
def Zbl(a:(List Int)):Cq (List Int):=
 Cq.bind (ZD a) fun b=>Cq.ret b
def Zbm(b:(List Int))(a:Int)(c:(List Int))(d:Int):Cq (((List Int)×Int)⊕(List Int)):=
 Cq.at' c (i64.wrap (a+(b.length:Int))) fun e=>Cq.ret (.inl ((c.set (i64.wrap (a+(b.length:Int))).toNat (u32.wrap d)),i64.wrap (a+1)))
def Zft(e:(List Int))(b:Int)(f:Int):((List Int)×Int×Int)->Cq (((List Int)×Int)):=
 Cq.loop fun i=>match i with|(c,d,a)=>if a<(e.length:Int) then (Cq.at' e a fun g=>Cq.at' c (i64.wrap (b+a)) fun h=>Cq.at' c (i64.wrap (b+a)) fun j=>Cq.ret (.inl ((c.set (i64.wrap (b+a)).toNat (u32.wrap (u64.wrap ((u64.wrap ((u64.wrap ((u64.wrap f)*(u64.wrap g)))+(u64.wrap h)))+d)))),Int.fdiv (u64.wrap ((u64.wrap ((u64.wrap ((u64.wrap f)*(u64.wrap g)))+(u64.wrap h)))+d)) (2 ^ (min (32:Int).toNat u64.bits)),i64.wrap (a+1)))) else (Cq.ret (.inr (c,d)))
def Zfs(b:(List Int))(c:(List Int)):((List Int)×Int)->Cq (List Int):=
 Cq.loop fun g=>match g with|(d,a)=>if a<(b.length:Int) then (Cq.at' b a fun h=>Cq.next (Zft c a h (d,0,0)) fun i=>match i with|(e,f)=>Zbm c a e f) else (Cq.ret (.inr d))
def Zcl(a:(List Int))(b:(List Int)):Cq (List Int):=
 Cq.chk (0<=i64.wrap ((a.length:Int)+(b.length:Int))/\(i64.wrap ((a.length:Int)+(b.length:Int)))<=1000000) (Cq.next (Zfs a b ((List.replicate (i64.wrap ((a.length:Int)+(b.length:Int))).toNat 0),0)) fun d=>match d with|c=>Zbl c)
def Z7(a:Zb)(b:Zb):Cq Zb:=
 Cq.bind (Zcl a.mag b.mag) fun c=>Cq.bind (ZR (decide (¬ a.neg=b.neg)) c) fun d=>Cq.ret d
def Za9(a:Zb):Cq Zb:=
 Cq.ret a
def Za8(d:(List Zb)):(Int×Zb)->Cq Zb:=
 Cq.loop fun h=>match h with|(a,b)=>if a<(d.length:Int) then (Cq.at' d a fun c=>Cq.bind (ZS c) fun e=>if e=true then (Cq.ret (.inl (i64.wrap (a+1),b))) else (Cq.bind (ZS b) fun f=>if f=true then (Cq.ret (.inl (i64.wrap (a+1),c))) else (Cq.bind (Z7 b c) fun g=>Cq.ret (.inl (i64.wrap (a+1),g))))) else (Cq.ret (.inr b))
def Z6(c:(List Zb)):Cq Zb:=
 Cq.bind (ZbC 1) fun a=>Cq.next (Za8 c (0,a)) fun d=>match d with|b=>Za9 b
def Zbk:Cq Int:=
 Cq.ret 0
def Zfr(b:(List Int))(c:(List Int)):Int->Cq (Int⊕Unit):=
 Cq.loop fun d=>match d with|a=>if 0<=a then (Cq.at' b a fun e=>Cq.at' c a fun f=>if ¬ e=f then (Cq.at' b a fun g=>Cq.at' c a fun h=>if g<h then (Cq.ret (.inr (.inl (-1)))) else (Cq.ret (.inr (.inl 1)))) else (Cq.ret (.inl (i64.wrap (a-1))))) else (Cq.ret (.inr (.inr ())))
def Zau(a:(List Int))(b:(List Int)):Cq Int:=
 if ¬ (a.length:Int)=(b.length:Int) then Cq.fail else (Cq.next (Zfr a b (i64.wrap ((a.length:Int)-1))) fun d=>match d with | .inl c=>Cq.ret c | .inr ()=>Zbk)
def Zgd(b:Zb)(c:Zb):Cq Int:=
 Cq.bind (ZN b) fun a=>Cq.bind (ZN c) fun d=>if ¬ a=d then Cq.fail else (if a<0 then (Cq.bind (Zau c.mag b.mag) fun e=>Cq.ret e) else (Cq.bind (Zau b.mag c.mag) fun f=>Cq.ret f))
def Zbs(c:Zf)(d:Zf):Cq Int:=
 Cq.bind (ZA c) fun a=>Cq.bind (ZA d) fun b=>if ¬ a=b then (if a<b then (Cq.ret (-1)) else (Cq.ret 1)) else (Cq.bind (Z6 [c.num,d.den]) fun e=>Cq.bind (Z6 [d.num,c.den]) fun f=>Cq.bind (Zgd e f) fun g=>Cq.ret g)
def ZaF(a:Za)(b:Za):Cq Int:=
 if ¬ a.m=b.m then (Cq.bind (ZaH a.m b.m) fun d=>Cq.ret d) else (Cq.bind (Zbs a.c b.c) fun e=>Cq.ret e)
def Zl(a:(List Za))(b:(List Za)):Cq Int:=
 if (a.length:Int)<(b.length:Int) then (Cq.ret (-1)) else (Cq.ret 0)
def Zw(b:(List Za))(c:(List Za)):Int->Cq (Int⊕Unit):=
 Cq.loop fun e=>match e with|a=>if a<(b.length:Int) then (Cq.at' b a fun f=>if (c.length:Int)<=a then (Cq.ret (.inr (.inl 1))) else (Cq.at' c a fun g=>Cq.bind (ZaF f g) fun d=>if ¬ d=0 then (Cq.ret (.inr (.inl d))) else (Cq.ret (.inl (i64.wrap (a+1)))))) else (Cq.ret (.inr (.inr ())))
def Zr(a:(List Za))(b:(List Za)):Cq Int:=
 Cq.next (Zw a b 0) fun d=>match d with | .inl c=>Cq.ret c | .inr ()=>Zl a b
def ZcO(b:(List Za))(c:(List Za)):Cq Int:=
 Cq.bind (Zr b c) fun a=>Cq.ret a
def ZW(l:List (List Za))(a b c:Int):Cq (List (List Za)):=
 Cq.chk (a=0/\b=(l.length:Int)/\(0<=c/\c<1000000)/\l.length<=1000000/\l.all goodP=true) (Cq.ret (ordP l))
def Zav(a:Za)(b:Za):Cq Bool:=
 if a.m=b.m then (Cq.bind (Zbs a.c b.c) fun d=>Cq.ret (decide (d=0))) else (Cq.ret false)
def Zq:Cq Bool:=
 Cq.ret true
def Zx(b:(List Za))(c:(List Za)):Int->Cq (Bool⊕Unit):=
 Cq.loop fun e=>match e with|a=>if a<(b.length:Int) then (Cq.at' b a fun f=>Cq.at' c a fun g=>Cq.bind (Zav f g) fun d=>if (!d)=true then (Cq.ret (.inr (.inl false))) else (Cq.ret (.inl (i64.wrap (a+1))))) else (Cq.ret (.inr (.inr ())))
def Zs(a:(List Za))(b:(List Za)):Cq Bool:=
 if ¬ (a.length:Int)=(b.length:Int) then (Cq.ret false) else (Cq.next (Zx a b 0) fun d=>match d with | .inl c=>Cq.ret c | .inr ()=>Zq)
def Zcu(b:(List Za))(c:(List Za)):Cq Bool:=
 Cq.bind (Zs b c) fun a=>Cq.ret a
def Zc6(a:Int)(b:Int):Cq Int:=
 Cq.chk (0<=(u8.wrap a:Int)/\(u8.wrap a)<(ZdL.size:Int)) (Cq.ret (i64.wrap (b+(i64.wrap (byteAt ZdL (u8.wrap a))))))
def Zc7(a:Int)(b:Int):Cq Int:=
 if 256<=a then Cq.fail else (Zc6 a b)
def Zc8(a:Int)(b:Int):Cq Int:=
 if 65536<=a then Cq.fail else (Zc7 a b)
def Zd3(a:Int):Cq Int:=
 if 4294967296<=a then Cq.fail else (Zc8 a 0)
def Z3(b:Int):Cq Int:=
 Cq.bind (Zd3 b) fun a=>Cq.ret a
def ZO(a:(List (List Za))):Cq ((List (List Za))):=
 Cq.bind (Z3 (u64.wrap (a.length:Int))) fun b=>Cq.bind (ZW a 0 (a.length:Int) b) fun c=>Cq.ret c
def ZbW(a:(List Int)):Cq (List Int):=
 Cq.chk (([]++a).length<=small) (Cq.ret ([]++a))
def Zb3(a:Int):Cq Int:=
 Cq.ret a
def ZgB(b:(List Int)):(Int×Int)->Cq Int:=
 Cq.loop fun d=>match d with|(c,a)=>if a<(b.length:Int) then (Cq.at' b a fun e=>Cq.chk (0<=(i64.wrap (32*a))) (Cq.ret (.inl (u64.wrap (BitVec.ofInt u64.bits c ||| BitVec.ofInt u64.bits (u64.wrap ((u64.wrap e)*2 ^ (min (i64.wrap (32*a)).toNat u64.bits)))).toNat,i64.wrap (a+1))))) else (Cq.ret (.inr c))
def ZbX(a:(List Int)):Cq Int:=
 Cq.next (ZgB a (0,0)) fun b=>match b with|c=>Zb3 c
def ZaB(c:(List Int))(a:Int):Cq ((List Int)×Int):=
 Cq.bind (ZD c) fun b=>Cq.ret (b,a)
def Zeg(f:(List Int))(c:Int):((List Int)×Int×Int)->Cq (((List Int)×Int)):=
 Cq.loop fun g=>match g with|(d,a,b)=>if 0<=b then (Cq.at' f b fun e=>Cq.chk (c≠0) (Cq.at' d b fun h=>Cq.chk (c≠0) (Cq.ret (.inl ((d.set b.toNat (u32.wrap (u64.wrap (Int.tdiv (u64.wrap (BitVec.ofInt u64.bits (u64.wrap (a*2 ^ (min (32:Int).toNat u64.bits))) ||| BitVec.ofInt u64.bits (u64.wrap e)).toNat) c)))),Int.tmod (u64.wrap (BitVec.ofInt u64.bits (u64.wrap (a*2 ^ (min (32:Int).toNat u64.bits))) ||| BitVec.ofInt u64.bits (u64.wrap e)).toNat) c,i64.wrap (b-1)))))) else (Cq.ret (.inr (d,a)))
def ZcB(a:(List Int))(c:Int):Cq ((List Int)×Int):=
 Cq.chk (0<=(a.length:Int)/\(a.length:Int)<=1000000) (Cq.next (Zeg a c ((List.replicate (a.length:Int).toNat 0),0,i64.wrap ((a.length:Int)-1))) fun d=>match d with|(e,b)=>ZaB e b)
def ZbD(d:(List Int))(e:(List Int)):Cq ((List Int)×(List Int)):=
 Cq.bind (ZD d) fun b=>Cq.bind (ZD e) fun a=>Cq.bind (Zau b a) fun f=>if f<0 then Cq.fail else (if (a.length:Int)=1 then (Cq.at' a 0 fun h=>Cq.bind (ZcB b (u64.wrap h)) fun c=>Cq.bind (Za2 c.2) fun g=>Cq.ret (c.1,g)) else Cq.fail)
def ZbA(b:(List Int)):Cq Zb:=
 Cq.bind (ZR false b) fun a=>Cq.ret a
def ZcJ(c:Int):Cq (((List Int)×(List Int)×Zb)⊕(Zb⊕((List Int)×Zb))):=
 Cq.bind (Za2 c) fun b=>Cq.bind (ZR false b) fun a=>Cq.ret (.inr (.inl a))
def Zbz:(Int×Int)->Cq Int:=
 Cq.loop fun c=>match c with|(b,a)=>if 0<a then (Cq.chk (a≠0) (Cq.ret (.inl (a,Int.tmod b a)))) else (Cq.ret (.inr b))
def ZbB(d:(List Int))(a:(List Int))(e:Zb)(b:Bool):Cq (((List Int)×(List Int)×Zb)⊕(Zb⊕((List Int)×Zb))):=
 if b=true then (Cq.bind (ZbX d) fun f=>Cq.bind (ZbX a) fun g=>Cq.next (Zbz (f,g)) fun h=>match h with|i=>ZcJ i) else (Cq.bind (ZbD d a) fun c=>Cq.ret (.inl (a,c.2,e)))
def ZhB:((List Int)×(List Int)×Zb)->Cq (Zb⊕((List Int)×Zb)):=
 Cq.loop fun d=>match d with|(c,a,b)=>if 0<(a.length:Int) then (if (c.length:Int)<=2 then (ZbB c a b (decide ((a.length:Int)<=2))) else (ZbB c a b false)) else (Cq.ret (.inr (.inr (c,b))))
def ZJ(f:Zb)(g:Zb):Cq Zb:=
 Cq.bind (ZD f.mag) fun a=>Cq.bind (ZbW a) fun b=>Cq.bind (ZD g.mag) fun c=>Cq.bind (ZbW c) fun d=>Cq.next (ZhB (b,d,(Zb.mk false []))) fun h=>match h with | .inl e=>Cq.ret e | .inr (i,j)=>ZbA i
def Za1(a:Zb):Cq Bool:=
 if (a.mag.length:Int)=0 then (Cq.ret (!a.neg)) else (Cq.at' a.mag (i64.wrap ((a.mag.length:Int)-1)) fun b=>Cq.ret (decide (¬ b=0)))
def Zdk(a:Zf):Cq Bool:=
 Cq.bind (ZS a.den) fun b=>match b with|false=>(Cq.bind (ZJ a.num a.den) fun c=>Cq.bind (ZS c) fun d=>Cq.ret d)|true=>(Cq.ret true)
def ZaK(a:Zf):Cq Bool:=
 Cq.bind (Za1 a.num) fun b=>match b with|false=>(Cq.ret false)|true=>(Cq.bind (Za1 a.den) fun c=>match c with|false=>(Cq.ret false)|true=>(Cq.bind (ZN a.den) fun d=>if d<=0 then Cq.fail else (Zdk a)))
def ZbK:Cq Bool:=
 Cq.ret true
def ZfY(b:(Fin 8->Int)):Int->Cq (Bool⊕Unit):=
 Cq.loop fun c=>match c with|a=>if a<8 then (Cq.chk (0<=a/\a<8) (if (getF b a)<0 then (Cq.ret (.inr (.inl false))) else (if 65535<(getF b a) then Cq.fail else (Cq.ret (.inl (i64.wrap (a+1))))))) else (Cq.ret (.inr (.inr ())))
def ZbF(b:(Fin 8->Int)):Cq Bool:=
 Cq.next (ZfY b 0) fun c=>match c with | .inl a=>Cq.ret a | .inr ()=>ZbK
def Za7:Cq Bool:=
 Cq.ret true
def ZX(c:(List Za))(a:Int)(d:Za):Cq (Int⊕(Bool⊕Unit)):=
 if 0<a then (Cq.at' c (i64.wrap (a-1)) fun e=>Cq.bind (ZaH e.m d.m) fun b=>if b<=0 then Cq.fail else (Cq.ret (.inl (i64.wrap (a+1))))) else (Cq.ret (.inl (i64.wrap (a+1))))
def Ze6(d:(List Za)):Int->Cq (Bool⊕Unit):=
 Cq.loop fun h=>match h with|a=>if a<(d.length:Int) then (Cq.at' d a fun b=>Cq.bind (ZaK b.c) fun e=>match e with|false=>(Cq.ret (.inr (.inl false)))|true=>(Cq.bind (ZA b.c) fun f=>if f=0 then (Cq.ret (.inr (.inl false))) else (Cq.bind (ZbF b.m) fun g=>if (!g)=true then (Cq.ret (.inr (.inl false))) else (ZX d a b)))) else (Cq.ret (.inr (.inr ())))
def Zam(b:(List Za)):Cq Bool:=
 Cq.next (Ze6 b 0) fun c=>match c with | .inl a=>Cq.ret a | .inr ()=>Za7
def Za4(a:Int):Cq Int:=
 Cq.ret a
def Ze4(c:(Fin 8->Int)):(Int×Int)->Cq Int:=
 Cq.loop fun d=>match d with|(b,a)=>if a<8 then (Cq.chk (0<=a/\a<8) (if 0<(getF c a) then (Cq.chk (0<=a) (Cq.ret (.inl (u8.wrap (BitVec.ofInt u8.bits b ||| BitVec.ofInt u8.bits (u8.wrap (1*2 ^ (min (a).toNat u8.bits)))).toNat,i64.wrap (a+1))))) else (Cq.ret (.inl (b,i64.wrap (a+1)))))) else (Cq.ret (.inr b))
def Zb5(a:(Fin 8->Int)):Cq Int:=
 Cq.next (Ze4 a (0,0)) fun b=>match b with|c=>Za4 c
def Zbq(a:Int):Cq Int:=
 Cq.ret a
def ZfF(b:(List Za)):(Int×Int)->Cq Int:=
 Cq.loop fun e=>match e with|(c,a)=>if a<(b.length:Int) then (Cq.at' b a fun f=>Cq.bind (Zb5 f.m) fun d=>Cq.ret (.inl (u8.wrap (BitVec.ofInt u8.bits c ||| BitVec.ofInt u8.bits d).toNat,i64.wrap (a+1)))) else (Cq.ret (.inr c))
def Zba(a:(List Za)):Cq Int:=
 Cq.next (ZfF a (0,0)) fun b=>match b with|c=>Zbq c
def Zbn(a:Int):Cq Int:=
 Cq.ret a
def ZfA(c:(Fin 8->Int)):(Int×Int)->Cq Int:=
 Cq.loop fun d=>match d with|(b,a)=>if a<8 then (Cq.chk (0<=a/\a<8) (Cq.ret (.inl (i64.wrap (b+(getF c a)),i64.wrap (a+1))))) else (Cq.ret (.inr b))
def Zcr(a:(Fin 8->Int)):Cq Int:=
 Cq.next (ZfA a (0,0)) fun b=>match b with|c=>Zbn c
def ZaU(a:Int):Cq Int:=
 Cq.ret a
def ZeQ(d:(List Za)):(Int×Int)->Cq Int:=
 Cq.loop fun e=>match e with|(c,a)=>if a<(d.length:Int) then (Cq.at' d a fun f=>Cq.bind (Zcr f.m) fun b=>Cq.ret (.inl (if c<b then b else c,i64.wrap (a+1)))) else (Cq.ret (.inr c))
def ZK(a:(List Za)):Cq Int:=
 Cq.next (ZeQ a ((-1),0)) fun b=>match b with|c=>ZaU c
def _eliminant_claim_rules_bounded(a:Za0)(b:(List Za))(f:Int):Cq Bool:=
 Cq.bind (Zam b) fun c=>match c with|false=>(Cq.ret false)|true=>(Cq.bind (Zba b) fun d=>Cq.chk (0<=a.k.n) (if (Int.fdiv (i64.wrap d) (2 ^ (min (a.k.n).toNat i64.bits)))=0 then (Cq.bind (ZK b) fun e=>Cq.ret (decide (e<=f))) else (Cq.ret false)))
def ZbI(d:Zb)(e:Zb)(f:(List Int))(a:(List Int)):Cq (Zb×Zb×Int):=
 Cq.bind (ZR (decide (¬ d.neg=e.neg)) f) fun b=>Cq.bind (ZR false a) fun c=>Cq.ret (b,c,0)
def ZbJ(c:Zb)(d:Zb)(b:(List Int)×(List Int))(a:Bool):Cq (Zb×Zb×Int):=
 if a=true then Cq.fail else (ZbI c d b.1 b.2)
def ZI(b:Zb)(c:Zb):Cq (Zb×Zb×Int):=
 Cq.bind (ZD c.mag) fun d=>if (d.length:Int)=0 then Cq.fail else (Cq.bind (ZbD b.mag c.mag) fun a=>if b.neg=true then (ZbJ b c a (decide (0<(a.2.length:Int)))) else (ZbJ b c a false))
def Zaw(c:Zb)(a:Zb):Cq Zf:=
 Cq.bind (ZS a) fun d=>if d=true then (Cq.ret (Zf.mk c a)) else (Cq.bind (ZJ c a) fun b=>Cq.bind (ZS b) fun e=>if e=true then (Cq.ret (Zf.mk c a)) else (Cq.bind (ZI c b) fun f=>Cq.bind (ZI a b) fun g=>Cq.ret (Zf.mk f.1 g.1)))
def Zbt(e:Zb)(a:Zb):Cq (Zf×Int):=
 Cq.bind (ZN a) fun b=>if b=0 then Cq.fail else (Cq.bind (ZN a) fun c=>if c<0 then Cq.fail else (Cq.bind (Zaw e a) fun d=>Cq.ret (d,0)))
def Zcs(a:(Fin 8->Int)):Cq ((Fin 8->Int)×Int):=
 Cq.bind (ZbF a) fun b=>if (!b)=true then Cq.fail else (Cq.ret (a,0))
def Zhc(c:(Fin 8->Int)):(Int×(Fin 8->Int))->Cq (Fin 8->Int):=
 Cq.loop fun d=>match d with|(a,b)=>if a<8 then (Cq.chk (0<=a/\a<8) (Cq.chk (0<=a/\a<8) (Cq.chk (0<=a/\a<8) (Cq.ret (.inl (i64.wrap (a+1),setF b a.toNat (i64.wrap ((getF b a)+(getF c a))))))))) else (Cq.ret (.inr b))
def ZdJ(b:(Fin 8->Int))(c:(Fin 8->Int)):Cq ((Fin 8->Int)×Int):=
 Cq.next (Zhc c (0,b)) fun d=>match d with|a=>Zcs a
def ZY(c:Zf)(d:Zf):Cq Zf:=
 Cq.bind (Zaw c.num d.den) fun a=>Cq.bind (Zaw d.num c.den) fun b=>Cq.bind (Z6 [a.num,b.num]) fun e=>Cq.bind (Z6 [a.den,b.den]) fun f=>Cq.ret (Zf.mk e f)
def Za6(a:(List Za)):Cq ((List Za)×Int):=
 Cq.ret (a,0)
def Ze5(h:Zf)(i:(Fin 8->Int))(f:(List Za)):((List Za)×Int)->Cq (((List Za)×Int)⊕(List Za)):=
 Cq.loop fun j=>match j with|(b,a)=>if a<(f.length:Int) then (Cq.at' f a fun g=>Cq.bind (ZdJ i g.m) fun d=>if ¬ d.2=0 then Cq.fail else (Cq.bind (ZY h g.c) fun e=>Cq.chk ((b++[(Za.mk e d.1)]).length<=small) (Cq.ret (.inl ((b++[(Za.mk e d.1)]),i64.wrap (a+1)))))) else (Cq.ret (.inr (.inr b)))
def Zb6(b:Zf)(f:(Fin 8->Int))(a:(List Za)):Cq ((List Za)×Int):=
 Cq.bind (ZA b) fun c=>if c=0 then Cq.fail else (Cq.chk (0<=(a.length:Int)/\(a.length:Int)<=1000000) (Cq.next (Ze5 b f a (([]:List Za),0)) fun g=>match g with | .inl d=>Cq.ret d | .inr e=>Za6 e))
def Za3(a:Zb):Cq Zb:=
 Cq.bind (ZbW a.mag) fun b=>Cq.bind (ZR (!a.neg) b) fun c=>Cq.ret c
def ZbE(a:(List Za))(b:Zb)(c:Zb):Cq (List Za):=
 Cq.bind (Zbt c b) fun d=>Cq.bind (Zb6 d.1 (fun _=>0) a) fun e=>Cq.ret e.1
def Z5(a:(List Za))(b:Zb)(d:Zb):Cq (List Za):=
 Cq.at' a 0 fun g=>Cq.bind (ZA g.c) fun e=>if e<0 then (Cq.bind (Za3 d) fun f=>ZbE a b f) else (ZbE a b d)
def ZcL(b:(List Za)):(Int×Zb×Zb)->Cq (Zb×Zb):=
 Cq.loop fun k=>match k with|(a,e,d)=>if a<(b.length:Int) then (Cq.at' b a fun f=>Cq.bind (ZJ e f.c.num) fun h=>Cq.bind (ZJ d f.c.den) fun i=>Cq.bind (ZI f.c.den i) fun j=>Cq.bind (Z7 d j.1) fun g=>Cq.ret (.inl (i64.wrap (a+1),h,g))) else (Cq.ret (.inr (e,d)))
def ZaC(a:(List Za)):Cq (List Za):=
 if (a.length:Int)=0 then Cq.fail else (Cq.bind (ZbC 0) fun b=>Cq.bind (ZbC 1) fun c=>Cq.next (ZcL a (0,b,c)) fun f=>match f with|(d,e)=>Z5 a d e)
def _eliminant_claim_rules_sorted_k1:Cq Bool:=
 Cq.ret true
def _eliminant_claim_rules_sorted_L2(e:Za0)(d:(List (List Za)))(b:Int):Int->Cq (Bool⊕Unit):=
 Cq.loop fun k=>match k with|a=>if a<(d.length:Int) then (Cq.at' d a fun c=>Cq.bind (_eliminant_claim_rules_bounded e c 12) fun f=>match f with|false=>(Cq.ret (.inr (.inl false)))|true=>(Cq.bind (ZK c) fun g=>if g<b then (Cq.ret (.inr (.inl false))) else (Cq.bind (ZaC c) fun h=>Cq.bind (Zcu h c) fun i=>if (!i)=true then (Cq.ret (.inr (.inl false))) else (if 0<a then (Cq.at' d (i64.wrap (a-1)) fun l=>Cq.bind (ZcO l c) fun j=>if 0<=j then (Cq.ret (.inr (.inl false))) else (Cq.ret (.inl (i64.wrap (a+1))))) else (Cq.ret (.inl (i64.wrap (a+1)))))))) else (Cq.ret (.inr (.inr ())))
def _eliminant_claim_rules_sorted(b:Za0)(c:(List (List Za)))(a:Int):Cq Bool:=
 if 12<(c.length:Int) then (Cq.ret false) else (Cq.next (_eliminant_claim_rules_sorted_L2 b c a 0) fun e=>match e with | .inl d=>Cq.ret d | .inr ()=>_eliminant_claim_rules_sorted_k1)
def _eliminant_claim_rules_valid(a:Za0):Cq Bool:=
 if 1<=a.k.n then (if a.k.n<=4 then (Cq.bind (_eliminant_claim_rules_sorted a a.k.eqs 0) fun b=>match b with|false=>(Cq.ret false)|true=>(Cq.bind (_eliminant_claim_rules_sorted a a.k.neqs 1) fun c=>Cq.ret c)) else (Cq.ret false)) else (Cq.ret false)
def ZcU(b:Ze):Cq Bool:=
 Cq.bind (_eliminant_claim_rules_valid (Za0.mk b)) fun a=>Cq.ret a
def Zfg(k:Ze):Cq ByteArray:=Cq.bind (ZcU k) fun v=>match v with|true=>Cq.chk (0<=k.n/\(coreW k).length<=1000000) (Cq.ret (bytesOf (coreW k)))|false=>Cq.ret ByteArray.empty
def Zz(a:(List Za)):Cq (List Za):=
 Cq.bind (Z3 (u64.wrap (a.length:Int))) fun b=>Cq.bind (ZL a 0 (a.length:Int) b) fun c=>Cq.ret c
def ZaV(a:(List Za)):Cq (List Za):=
 Cq.bind (Zz a) fun b=>Cq.ret b
def ZeR:((List Za)×List ((Fin 8->Int)×Zf))->Cq (List Za):=
 Cq.loop fun d=>match d with|(a,R1)=>Cq.pick R1 (Cq.ret (.inr a)) fun b R2=>Cq.bind (ZA b.2) fun c=>if ¬ c=0 then (Cq.chk ((a++[(Za.mk b.2 b.1)]).length<=small) (Cq.ret (.inl ((a++[(Za.mk b.2 b.1)]),R2)))) else (Cq.ret (.inl (a,R2)))
def ZbL(a:(List ((Fin 8->Int)×Zf))):Cq (List Za):=
 Cq.chk (0<=(a.length:Int)/\(a.length:Int)<=1000000) (Cq.next (ZeR (([]:List Za),a)) fun c=>match c with|b=>ZaV b)
def ZaI(a:(List ((Fin 8->Int)×Zf))):Cq ((List Za)×Int):=
 Cq.bind (ZbL a) fun b=>Cq.ret (b,0)
def ZaJ(b:Int)(d:(List ((Fin 8->Int)×Zf)))(e:Za)(a:(Fin 8->Int)):Cq ((Int×(List ((Fin 8->Int)×Zf)))⊕(((List ((Fin 8->Int)×Zf))))):=
 Cq.chk ((∀ i,(Lit.int i64 (a i)).wf=true)/\(mput d a e.c).length<=small) (Cq.ret (.inl (i64.wrap (b+1),(mput d a e.c))))
def Zce(b:(Fin 8->Int))(d:Za):(Int×(Fin 8->Int))->Cq (Fin 8->Int):=
 Cq.loop fun e=>match e with|(a,c)=>if a<8 then (Cq.chk (0<=a/\a<8) (Cq.chk (0<=a/\a<8) (Cq.chk (0<=getF b a/\(getF b a)<8) (Cq.ret (.inl (i64.wrap (a+1),setF c ((getF b a).toNat) (getF d.m a))))))) else (Cq.ret (.inr c))
def Zep(d:(List Za))(b:(Fin 8->Int)):(Int×(List ((Fin 8->Int)×Zf)))->Cq (((List ((Fin 8->Int)×Zf)))):=
 Cq.loop fun g=>match g with|(a,c)=>if a<(d.length:Int) then (Cq.at' d a fun e=>Cq.next (Zce b e (0,(fun _=>0))) fun h=>match h with|f=>ZaJ a c e f) else (Cq.ret (.inr c))
def Z8(c:(List Za))(a:(Fin 8->Int)):Cq ((List Za)×Int):=
 Cq.next (Zep c a (0,[])) fun d=>match d with|b=>ZaI b
def Zeq(b:(Fin 8->Int)):(Int×(Fin 8->Bool))->Cq (((List Za)×Int)⊕Unit):=
 Cq.loop fun d=>match d with|(a,c)=>if a<8 then (Cq.chk (0<=a/\a<8) (if (getF b a)<0 then (Cq.ret (.inr (.inl ([],1)))) else (if 8<=(getF b a) then (Cq.ret (.inr (.inl ([],1)))) else (Cq.chk (0<=getF b a/\(getF b a)<8) (if (getF c (getF b a))=true then Cq.fail else (Cq.chk (0<=getF b a/\(getF b a)<8) (Cq.ret (.inl (i64.wrap (a+1),setF c ((getF b a).toNat) true))))))))) else (Cq.ret (.inr (.inr ())))
def Zbp(c:(List Za))(a:(Fin 8->Int)):Cq ((List Za)×Int):=
 Cq.next (Zeq a (0,(fun _=>false))) fun d=>match d with | .inl b=>Cq.ret b | .inr ()=>Z8 c a
def Zbv(a:(List (List Za))):Cq ((List (List Za))):=
 Cq.ret a
def ZfJ(d:(List (List Za)))(c:(Fin 8->Int)):((List (List Za))×Int)->Cq (((List (List Za)))):=
 Cq.loop fun f=>match f with|(b,a)=>if a<(d.length:Int) then (Cq.at' d a fun g=>Cq.bind (Zbp g c) fun e=>Cq.at' b a fun h=>Cq.ret (.inl ((b.set a.toNat e.1),i64.wrap (a+1)))) else (Cq.ret (.inr b))
def Zbd(a:(List (List Za)))(b:(Fin 8->Int)):Cq ((List (List Za))):=
 Cq.chk (0<=(a.length:Int)/\(a.length:Int)<=1000000) (Cq.next (ZfJ a b ((List.replicate (a.length:Int).toNat []),0)) fun d=>match d with|c=>Zbv c)
def ZT(a:(List (List Za))):Cq ((List (List Za))):=
 Cq.ret a
def ZbM(b:(List (List (List Za)))):((List (List Za))×Int)->Cq (((List (List Za)))):=
 Cq.loop fun e=>match e with|(a,c)=>if c<(b.length:Int) then (Cq.at' b c fun d=>Cq.chk ((a++d).length<=small) (Cq.ret (.inl ((a++d),i64.wrap (c+1))))) else (Cq.ret (.inr a))
def ZU(b:(List (List (List Za))))(c:Int):Cq ((List (List Za))):=
 Cq.bind (Zak c) fun d=>Cq.next (ZbM b (d,0)) fun e=>match e with|a=>ZT a
def ZbN(a:(List (List (List Za)))):(Int×Int)->Cq Int:=
 Cq.loop fun e=>match e with|(b,c)=>if c<(a.length:Int) then (Cq.at' a c fun d=>if (i64.wrap (b+(d.length:Int)))<0 then Cq.fail else (Cq.ret (.inl (i64.wrap (b+(d.length:Int)),i64.wrap (c+1))))) else (Cq.ret (.inr b))
def ZZ(a:(List (List (List Za)))):Cq ((List (List Za))):=
 Cq.next (ZbN a (0,0)) fun c=>match c with|b=>ZU a b
def Zet(b:Zb):Cq Zf:=
 Cq.bind (ZbC 1) fun a=>Cq.ret (Zf.mk b a)
def ZcQ(c:Int):Cq Zf:=
 Cq.bind (ZbC c) fun a=>Cq.bind (Zet a) fun b=>Cq.ret b
def Za5(a:Zf):Cq (List Za):=
 Cq.bind (ZA a) fun b=>if b=0 then Cq.fail else (Cq.ret [(Za.mk a (fun _=>0))])
def ZbU(a:(List Za))(b:Int):Cq Bool:=
 Cq.bind (Zam a) fun c=>match c with|false=>(Cq.ret false)|true=>(Cq.bind (Zba a) fun d=>Cq.chk (0<=b) (if (Int.fdiv (i64.wrap d) (2 ^ (min (b).toNat i64.bits)))=0 then (Cq.bind (ZK a) fun e=>Cq.ret (decide (e<=12))) else (Cq.ret false)))
def Zan(e:Int)(a:(List (List Za)))(b:(List (List Za))):Cq (Ze×Int):=
 Cq.bind (Zb0 a) fun c=>Cq.bind (Zb0 b) fun d=>if 12<(c.length:Int) then (Cq.ret ((Ze.mk 0 [] []),2)) else (if 12<(d.length:Int) then (Cq.ret ((Ze.mk 0 [] []),2)) else (Cq.ret ((Ze.mk e c d),0)))
def ZgK(d:(List (List Za))):((List (List Za))×(List (List Za))×Int)->Cq (((List (List Za))×(List (List Za)))):=
 Cq.loop fun j=>match j with|(a,b,c)=>if c<(d.length:Int) then (Cq.at' d c fun g=>if (g.length:Int)=0 then (Cq.bind (ZcQ 1) fun h=>Cq.bind (Za5 h) fun e=>Cq.chk ((a++[e]).length<=small) (Cq.ret (.inl ((a++[e]),b,i64.wrap (c+1))))) else (Cq.bind (ZK g) fun i=>if 0<i then (Cq.bind (ZaC g) fun f=>Cq.chk ((b++[f]).length<=small) (Cq.ret (.inl (a,(b++[f]),i64.wrap (c+1))))) else (Cq.ret (.inl (a,b,i64.wrap (c+1)))))) else (Cq.ret (.inr (a,b)))
def Zao(d:Int)(e:(List (List Za)))(a:(List (List Za))):Cq (Ze×Int):=
 Cq.next (ZgK e (a,[],0)) fun f=>match f with|(b,c)=>Zan d b c
def ZgL(c:(List (List Za))):((List (List Za))×Int)->Cq (((List (List Za)))):=
 Cq.loop fun f=>match f with|(a,b)=>if b<(c.length:Int) then (Cq.at' c b fun e=>if 0<(e.length:Int) then (Cq.bind (ZaC e) fun d=>Cq.chk ((a++[d]).length<=small) (Cq.ret (.inl ((a++[d]),i64.wrap (b+1))))) else (Cq.ret (.inl (a,i64.wrap (b+1))))) else (Cq.ret (.inr a))
def Zap(b:Int)(c:(List (List Za)))(d:(List (List Za))):Cq (Ze×Int):=
 Cq.next (ZgL c ([],0)) fun e=>match e with|a=>Zao b d a
def Zb8(d:Int)(b:(List (List Za))):(Int×Ze)->Cq ((Ze×Int)⊕Ze):=
 Cq.loop fun f=>match f with|(a,c)=>if a<(b.length:Int) then (Cq.at' b a fun g=>Cq.bind (ZbU g d) fun e=>if (!e)=true then (Cq.ret (.inr (.inl ((Ze.mk 0 [] []),1)))) else (Cq.ret (.inl (i64.wrap (a+1),c)))) else (Cq.ret (.inr (.inr c)))
def ZdN(a:Int)(b:(List (List Za)))(c:(List (List Za)))(d:Ze):Cq (Ze×Int):=
 Cq.bind (ZZ [b,c]) fun e=>Cq.next (Zb8 a e (0,d)) fun g=>match g with | .inl f=>Cq.ret f | .inr h=>Zap a b c
def ZQ(a:Int)(b:(List (List Za)))(c:(List (List Za))):Cq (Ze×Int):=
 if a<1 then (Cq.ret ((Ze.mk 0 [] []),1)) else (if 4<a then (Cq.ret ((Ze.mk 0 [] []),1)) else (ZdN a b c (Ze.mk 0 [] [])))
def canonS(k:Ze)(p:(Fin 8->Int))(s:Ze×(Fin 8->Int)×ByteArray):Cq (Ze×(Fin 8->Int)×ByteArray):=Cq.bind (Zbd k.eqs p) fun a=>Cq.bind (Zbd k.neqs p) fun b=>Cq.bind (ZQ k.n a b) fun r=>if ¬ r.2=0 then Cq.ret s else Cq.bind (Zfg r.1) fun t=>if s.2.2=ByteArray.empty then Cq.ret (r.1,p,t) else if Op.bytesLess t.toList s.2.2.toList=true then Cq.ret (r.1,p,t) else Cq.ret s
def canonL(k:Ze):List (Fin 8->Int)->(Ze×(Fin 8->Int)×ByteArray)->Cq (Ze×(Fin 8->Int)×ByteArray)
 | [],s=>Cq.ret s
 | p::l,s=>Cq.bind (canonS k p s) fun s'=>canonL k l s'
def ZdM(k:Ze):Cq (Ze×(Fin 8->Int)):=Cq.chk (1<=k.n/\k.n<=4) (Cq.bind (canonL k (permsL k.n.toNat) (⟨0,[],[]⟩,(fun _=>0),ByteArray.empty)) fun s=>Cq.ret (s.1,s.2.1))
def Zbw(a:(List Int))(b:Int):Cq (List Int):=
 Cq.chk ((a++[u8.wrap b]).length<=small) (Cq.ret (a++[u8.wrap b]))
def Zdn:((List Int)×Int)->Cq (((List Int)×Int)):=
 Cq.loop fun c=>match c with|(b,a)=>if 127<a then (Cq.chk ((b++[u8.wrap ((u8.wrap (Int.tmod a 128))+128)]).length<=small) (Cq.ret (.inl ((b++[u8.wrap ((u8.wrap (Int.tmod a 128))+128)]),u64.wrap (Int.tdiv a 128))))) else (Cq.ret (.inr (b,a)))
def ZcE(a:(List Int))(b:Int):Cq (List Int):=
 Cq.next (Zdn (a,b)) fun c=>match c with|(d,e)=>Zbw d e
def ZgU(c:(List Int))(a:Int):Cq (List Int):=
 if a<0 then Cq.fail else (Cq.bind (ZcE c (u64.wrap ((u64.wrap a)*2))) fun b=>Cq.ret b)
def ZdF(a:(List Int)):Cq (List Int):=
 Cq.ret a
def Ziv(d:Zb):((List Int)×Int)->Cq (List Int):=
 Cq.loop fun e=>match e with|(b,c)=>if c<(d.mag.length:Int) then (Cq.at' d.mag c fun a=>Cq.chk ((b++[u8.wrap (Int.fdiv a (2 ^ (min (24:Int).toNat u32.bits))),u8.wrap (Int.fdiv a (2 ^ (min (16:Int).toNat u32.bits))),u8.wrap (Int.fdiv a (2 ^ (min (8:Int).toNat u32.bits))),u8.wrap a]).length<=small) (Cq.ret (.inl ((b++[u8.wrap (Int.fdiv a (2 ^ (min (24:Int).toNat u32.bits))),u8.wrap (Int.fdiv a (2 ^ (min (16:Int).toNat u32.bits))),u8.wrap (Int.fdiv a (2 ^ (min (8:Int).toNat u32.bits))),u8.wrap a]),i64.wrap (c+1))))) else (Cq.ret (.inr b))
def Zck(c:(List Int))(a:Zb)(d:Int):Cq (List Int):=
 Cq.bind (ZcE c (u64.wrap ((u64.wrap ((u64.wrap (a.mag.length:Int))*2))+d))) fun b=>Cq.next (Ziv a (b,0)) fun e=>match e with|f=>ZdF f
def Zc0(b:(List Int))(a:Zb):Cq (List Int):=
 if a.neg=true then (Zck b a 1) else (Zck b a 0)
def Zfb(d:(List Int))(a:Zf):Cq (List Int):=
 Cq.bind (Zc0 d a.num) fun b=>Cq.bind (Zc0 b a.den) fun c=>Cq.ret c
def Zed(a:(List Int)):Cq (List Int):=
 Cq.ret a
def Zee(a:Int)(b:(List Int)):Cq (((List Int)×Int)⊕(List Int)):=
 Cq.ret (.inl (b,i64.wrap (a+1)))
def Zjp(d:(List Za))(e:Int):((List Int)×Int)->Cq (List Int):=
 Cq.loop fun f=>match f with|(b,a)=>if a<8 then (Cq.at' d e fun g=>Cq.chk (0<=a/\a<8) (Cq.bind (ZcE b (u64.wrap (getF g.m a))) fun c=>Cq.ret (.inl (c,i64.wrap (a+1))))) else (Cq.ret (.inr b))
def Zjo(b:(List Za)):((List Int)×Int)->Cq (List Int):=
 Cq.loop fun f=>match f with|(d,a)=>if a<(b.length:Int) then (Cq.at' b a fun g=>Cq.bind (Zfb d g.c) fun e=>Cq.next (Zjp b a (e,0)) fun h=>match h with|i=>Zee a i) else (Cq.ret (.inr d))
def Zgq(c:(List Int))(a:(List Za)):Cq (List Int):=
 Cq.bind (ZcE c (u64.wrap (a.length:Int))) fun b=>Cq.next (Zjo a (b,0)) fun d=>match d with|e=>Zed e
def ZdE(a:(List Int)):Cq (List Int):=
 Cq.ret a
def Ziu(b:(List (List Za))):((List Int)×Int)->Cq (List Int):=
 Cq.loop fun e=>match e with|(c,a)=>if a<(b.length:Int) then (Cq.at' b a fun f=>Cq.bind (Zgq c f) fun d=>Cq.ret (.inl (d,i64.wrap (a+1)))) else (Cq.ret (.inr c))
def ZdW(c:(List Int))(a:(List (List Za))):Cq (List Int):=
 Cq.bind (ZcE c (u64.wrap (a.length:Int))) fun b=>Cq.next (Ziu a (b,0)) fun d=>match d with|e=>ZdE e
def ZdD(e:(List Int))(a:Ze):Cq (List Int):=
 Cq.bind (ZgU e a.n) fun b=>Cq.bind (ZdW b a.eqs) fun c=>Cq.bind (ZdW c a.neqs) fun d=>Cq.ret d
def Zal(c d:Ze):Cq Bool:=Cq.bind (ZdD [] c) fun a=>Cq.bind (ZdD [] d) fun b=>Cq.ret (decide (bytesOf a=bytesOf b))
def Zea(b:(List Int))(a:Int):Cq (List Int):=
 Cq.chk (0<=(0:Int)/\(0:Int)<=a/\a<=(b.length:Int)) (Cq.ret ((b.take a.toNat).drop (0:Int).toNat))
def Zjk(b:(List Int)):Int->Cq Int:=
 Cq.loop fun c=>match c with|a=>if 0<a then (Cq.at' b (i64.wrap (a-1)) fun d=>if d=0 then (Cq.ret (.inl (i64.wrap (a-1)))) else (Cq.ret (.inr a))) else (Cq.ret (.inr a))
def Zab(a:(List Int)):Cq (List Int):=
 Cq.next (Zjk a (a.length:Int)) fun b=>match b with|c=>Zea a c
def Zbf(a:Int):Cq (List Int):=
 Cq.bind (Zab [u32.wrap (Int.tmod a 4294967296),u32.wrap (u64.wrap (Int.tdiv a 4294967296))]) fun b=>Cq.ret b
def Zaa(b:Bool)(c:(List Int)):Cq Zb:=
 Cq.bind (Zab c) fun a=>if b=true then (Cq.ret (Zb.mk (decide (0<(a.length:Int))) a)) else (Cq.ret (Zb.mk false a))
def Zem(a:Int):Cq Zb:=
 if a<0 then (Cq.bind (Zbf (u64.wrap ((u64.wrap (i64.wrap (0-(i64.wrap (a+1)))))+1))) fun b=>Cq.bind (Zaa true b) fun c=>Cq.ret c) else (Cq.bind (Zbf (u64.wrap a)) fun d=>Cq.bind (Zaa false d) fun e=>Cq.ret e)
def Zas(c:Int):Cq Zf:=
 Cq.bind (Zem c) fun a=>Cq.bind (Zem 1) fun b=>Cq.ret (Zf.mk a b)
def ZeA(a:Zb):Cq Int:=
 if a.neg=true then (Cq.ret (-1)) else (Cq.ret (if 1<(a.mag.length:Int) then 1 else (a.mag.length:Int)))
def Zaz(b:Zf):Cq Int:=
 Cq.bind (ZeA b.num) fun a=>Cq.ret a
def Zfa(a:Zf):Cq (List Za):=
 Cq.bind (Zaz a) fun b=>if b=0 then (Cq.ret []) else (Cq.ret [(Za.mk a (fun _=>0))])
def ZdB:Cq Bool:=
 Cq.ret true
def Zis(b:(Fin 8->Int)):Int->Cq (Bool⊕Unit):=
 Cq.loop fun c=>match c with|a=>if a<8 then (Cq.chk (0<=a/\a<8) (if (getF b a)<0 then (Cq.ret (.inr (.inl false))) else (Cq.chk (0<=a/\a<8) (if 65535<(getF b a) then Cq.fail else (Cq.ret (.inl (i64.wrap (a+1)))))))) else (Cq.ret (.inr (.inr ())))
def Ze9(b:(Fin 8->Int)):Cq Bool:=
 Cq.next (Zis b 0) fun c=>match c with | .inl a=>Cq.ret a | .inr ()=>ZdB
def ZeD(a:(Fin 8->Int)):Cq ((Fin 8->Int)×Int):=
 Cq.bind (Ze9 a) fun b=>if (!b)=true then Cq.fail else (Cq.ret (a,0))
def Zj3(c:(Fin 8->Int)):(Int×(Fin 8->Int))->Cq (Fin 8->Int):=
 Cq.loop fun d=>match d with|(a,b)=>if a<8 then (Cq.chk (0<=a/\a<8) (Cq.chk (0<=a/\a<8) (Cq.chk (0<=a/\a<8) (Cq.ret (.inl (i64.wrap (a+1),setF b a.toNat (i64.wrap ((getF b a)+(getF c a))))))))) else (Cq.ret (.inr b))
def Zhz(b:(Fin 8->Int))(c:(Fin 8->Int)):Cq ((Fin 8->Int)×Int):=
 Cq.next (Zj3 c (0,b)) fun d=>match d with|a=>ZeD a
def Zdz(a:(List Int)):Cq (List Int):=
 Cq.bind (Zab a) fun b=>Cq.ret b
def ZdA(b:(List Int))(a:Int)(c:(List Int))(d:Int):Cq (((List Int)×Int)⊕(List Int)):=
 Cq.at' c (i64.wrap (a+(b.length:Int))) fun e=>Cq.ret (.inl ((c.set (i64.wrap (a+(b.length:Int))).toNat (u32.wrap d)),i64.wrap (a+1)))
def Zir(f:(List Int))(e:(List Int))(b:Int):((List Int)×Int×Int)->Cq (((List Int)×Int)):=
 Cq.loop fun j=>match j with|(c,d,a)=>if a<(e.length:Int) then (Cq.at' f b fun g=>Cq.at' e a fun h=>Cq.at' c (i64.wrap (b+a)) fun i=>Cq.at' c (i64.wrap (b+a)) fun k=>Cq.ret (.inl ((c.set (i64.wrap (b+a)).toNat (u32.wrap (Int.tmod (u64.wrap ((u64.wrap ((u64.wrap ((u64.wrap g)*(u64.wrap h)))+(u64.wrap i)))+d)) 4294967296))),u64.wrap (Int.tdiv (u64.wrap ((u64.wrap ((u64.wrap ((u64.wrap g)*(u64.wrap h)))+(u64.wrap i)))+d)) 4294967296),i64.wrap (a+1)))) else (Cq.ret (.inr (c,d)))
def Ziq(b:(List Int))(c:(List Int)):((List Int)×Int)->Cq (List Int):=
 Cq.loop fun g=>match g with|(d,a)=>if a<(b.length:Int) then (Cq.next (Zir b c a (d,0,0)) fun h=>match h with|(e,f)=>ZdA c a e f) else (Cq.ret (.inr d))
def Zcc(a:(List Int))(b:(List Int)):Cq (List Int):=
 Cq.chk (0<=i64.wrap ((a.length:Int)+(b.length:Int))/\(i64.wrap ((a.length:Int)+(b.length:Int)))<=1000000) (Cq.next (Ziq a b ((List.replicate (i64.wrap ((a.length:Int)+(b.length:Int))).toNat 0),0)) fun d=>match d with|c=>Zdz c)
def Zcb(a:Zb)(b:Zb):Cq Zb:=
 Cq.bind (Zcc a.mag b.mag) fun c=>Cq.bind (Zaa (decide (¬ a.neg=b.neg)) c) fun d=>Cq.ret d
def Zay(a:(List Int))(b:Int):Cq Int:=
 if b<(a.length:Int) then (Cq.at' a b fun c=>Cq.ret (u64.wrap c)) else (Cq.ret 0)
def Zch(a:(List Int)):Cq Int:=
 Cq.bind (Zay a 1) fun b=>Cq.bind (Zay a 0) fun c=>Cq.ret (u64.wrap ((u64.wrap (b*4294967296))+c))
def Zdd(a:Int):Cq Int:=
 Cq.ret a
def Zdc:(Int×Int)->Cq Int:=
 Cq.loop fun c=>match c with|(b,a)=>if 0<a then (Cq.chk (a≠0) (Cq.ret (.inl (a,Int.tmod b a)))) else (Cq.ret (.inr b))
def ZeB(a:Int)(b:Int):Cq Int:=
 Cq.next (Zdc (a,b)) fun c=>match c with|d=>Zdd d
def Zcg:Cq Int:=
 Cq.ret 0
def ZgT(b:(List Int))(c:(List Int)):Int->Cq (Int⊕Unit):=
 Cq.loop fun d=>match d with|a=>if 0<=a then (Cq.at' b a fun e=>Cq.at' c a fun f=>if e<f then (Cq.ret (.inr (.inl (-1)))) else (Cq.at' b a fun g=>Cq.at' c a fun h=>if h<g then (Cq.ret (.inr (.inl 1))) else (Cq.ret (.inl (i64.wrap (a-1)))))) else (Cq.ret (.inr (.inr ())))
def Zbe(a:(List Int))(b:(List Int)):Cq Int:=
 if (a.length:Int)<(b.length:Int) then (Cq.ret (-1)) else (if (b.length:Int)<(a.length:Int) then (Cq.ret 1) else (Cq.next (ZgT a b (i64.wrap ((a.length:Int)-1))) fun d=>match d with | .inl c=>Cq.ret c | .inr ()=>Zcg))
def ZcC(a:(List Int))(b:Int):Cq ((List Int)×Int):=
 Cq.bind (Zab a) fun c=>Cq.ret (c,b)
def Zhy(f:(List Int))(d:Int):((List Int)×Int×Int)->Cq (((List Int)×Int)):=
 Cq.loop fun g=>match g with|(a,b,c)=>if 0<=c then (Cq.at' f c fun e=>Cq.chk (d≠0) (Cq.at' a c fun h=>Cq.chk (d≠0) (Cq.ret (.inl ((a.set c.toNat (u32.wrap (u64.wrap (Int.tdiv (u64.wrap ((u64.wrap (b*4294967296))+(u64.wrap e))) d)))),Int.tmod (u64.wrap ((u64.wrap (b*4294967296))+(u64.wrap e))) d,i64.wrap (c-1)))))) else (Cq.ret (.inr (a,b)))
def ZfZ(a:(List Int))(d:Int):Cq ((List Int)×Int):=
 Cq.chk (0<=(a.length:Int)/\(a.length:Int)<=1000000) (Cq.next (Zhy a d ((List.replicate (a.length:Int).toNat 0),0,i64.wrap ((a.length:Int)-1))) fun e=>match e with|(b,c)=>ZcC b c)
def ZbP(a:(List Int))(b:(List Int)):Cq ((List Int)×(List Int)):=
 Cq.bind (Zbe a b) fun d=>if d<0 then (Cq.ret ([],a)) else (if (b.length:Int)=1 then (Cq.at' b 0 fun f=>Cq.bind (ZfZ a (u64.wrap f)) fun c=>Cq.bind (Zbf c.2) fun e=>Cq.ret (c.1,e)) else Cq.fail)
def Zda(a:(List Int)):Cq (List Int):=
 Cq.ret a
def Zdb(c:(List Int))(b:(List Int))(a:Bool):Cq (((List Int)×(List Int))⊕((List Int)⊕(List Int))):=
 if a=true then (Cq.bind (Zch c) fun d=>Cq.bind (Zch b) fun e=>Cq.bind (ZeB d e) fun f=>Cq.bind (Zbf f) fun g=>Cq.ret (.inr (.inl g))) else (Cq.bind (ZbP c b) fun h=>Cq.ret (.inl (b,h.2)))
def Zig:((List Int)×(List Int))->Cq ((List Int)⊕(List Int)):=
 Cq.loop fun c=>match c with|(a,b)=>if 0<(b.length:Int) then (if (a.length:Int)<=2 then (Zdb a b (decide ((b.length:Int)<=2))) else (Zdb a b false)) else (Cq.ret (.inr (.inr a)))
def Zdm(b:(List Int))(c:(List Int)):Cq (List Int):=
 Cq.next (Zig (b,c)) fun d=>match d with | .inl a=>Cq.ret a | .inr e=>Zda e
def ZfM(c:Zb)(d:Zb):Cq Zb:=
 Cq.bind (Zdm c.mag d.mag) fun a=>Cq.bind (Zaa false a) fun b=>Cq.ret b
def Zdx(a:(List Int)):Cq (List Int):=
 Cq.bind (Zab a) fun b=>Cq.ret b
def Zin(f:(List Int))(g:(List Int)):((List Int)×Int×Int)->Cq (List Int):=
 Cq.loop fun h=>match h with|(b,a,c)=>if c<(i64.wrap ((if (f.length:Int)<(g.length:Int) then (g.length:Int) else (f.length:Int))+1)) then (Cq.bind (Zay f c) fun d=>Cq.bind (Zay g c) fun e=>Cq.at' b c fun i=>Cq.ret (.inl ((b.set c.toNat (u32.wrap (Int.tmod (u64.wrap ((u64.wrap (d+e))+a)) 4294967296))),u64.wrap (Int.tdiv (u64.wrap ((u64.wrap (d+e))+a)) 4294967296),i64.wrap (c+1)))) else (Cq.ret (.inr b))
def ZhH(a:(List Int))(b:(List Int)):Cq (List Int):=
 Cq.chk (0<=i64.wrap ((if (a.length:Int)<(b.length:Int) then (b.length:Int) else (a.length:Int))+1)/\(i64.wrap ((if (a.length:Int)<(b.length:Int) then (b.length:Int) else (a.length:Int))+1))<=1000000) (Cq.next (Zin a b ((List.replicate (i64.wrap ((if (a.length:Int)<(b.length:Int) then (b.length:Int) else (a.length:Int))+1)).toNat 0),0,0)) fun d=>match d with|c=>Zdx c)
def Zdy(a:(List Int)):Cq (List Int):=
 Cq.bind (Zab a) fun b=>Cq.ret b
def Zio(e:(List Int))(g:(List Int)):((List Int)×Int×Int)->Cq (List Int):=
 Cq.loop fun h=>match h with|(b,a,c)=>if c<(e.length:Int) then (Cq.at' e c fun f=>Cq.bind (Zay g c) fun d=>Cq.at' b c fun i=>Cq.ret (.inl ((b.set c.toNat (u32.wrap (Int.tmod (u64.wrap ((u64.wrap ((u64.wrap (4294967296+(u64.wrap f)))-d))-a)) 4294967296))),u64.wrap (1-(u64.wrap (Int.tdiv (u64.wrap ((u64.wrap ((u64.wrap (4294967296+(u64.wrap f)))-d))-a)) 4294967296))),i64.wrap (c+1)))) else (Cq.ret (.inr b))
def Ze8(a:(List Int))(c:(List Int)):Cq (List Int):=
 Cq.chk (0<=(a.length:Int)/\(a.length:Int)<=1000000) (Cq.next (Zio a c ((List.replicate (a.length:Int).toNat 0),0,0)) fun d=>match d with|b=>Zdy b)
def ZbV(d:Zb)(e:Zb)(f:(List Int))(a:(List Int)):Cq (Zb×Zb×Int):=
 Cq.bind (Zaa (decide (¬ d.neg=e.neg)) f) fun b=>Cq.bind (Zaa false a) fun c=>Cq.ret (b,c,0)
def Zc9(c:Zb)(d:Zb)(b:(List Int)×(List Int))(a:Bool):Cq (Zb×Zb×Int):=
 if a=true then Cq.fail else (ZbV c d b.1 b.2)
def ZgS(b:Zb)(c:Zb):Cq (Zb×Zb×Int):=
 if (c.mag.length:Int)=0 then Cq.fail else (Cq.bind (ZbP b.mag c.mag) fun a=>if b.neg=true then (Zc9 b c a (decide (0<(a.2.length:Int)))) else (Zc9 b c a false))
def ZcZ(b:Zb)(c:Zb):Cq Zb:=
 Cq.bind (ZgS b c) fun a=>Cq.ret a.1
def ZeZ(d:Zb)(e:Zb)(a:Zb):Cq Zf:=
 Cq.bind (ZcZ d a) fun b=>Cq.bind (ZcZ e a) fun c=>Cq.ret (Zf.mk b c)
def ZaP(b:Zb)(a:Zb):Cq Zf:=
 Cq.bind (ZfM b a) fun c=>Cq.bind (ZeA a) fun d=>if d<0 then Cq.fail else (ZeZ b a c)
def Zds(a:Zf)(b:Zf):Cq Zf:=
 Cq.bind (Zcb a.num b.num) fun c=>Cq.bind (Zcb a.den b.den) fun d=>Cq.bind (ZaP c d) fun e=>Cq.ret e
def ZdC(a:(List Za)):Cq ((List Za)×Int):=
 Cq.ret (a,0)
def Zit(g:Zf)(h:(Fin 8->Int))(f:(List Za)):((List Za)×Int)->Cq (((List Za)×Int)⊕(List Za)):=
 Cq.loop fun i=>match i with|(a,d)=>if d<(f.length:Int) then (Cq.at' f d fun j=>Cq.bind (Zhz h j.m) fun b=>if ¬ b.2=0 then Cq.fail else (Cq.at' f d fun k=>Cq.bind (Zds g k.c) fun e=>Cq.chk ((a++[(Za.mk e b.1)]).length<=small) (Cq.ret (.inl ((a++[(Za.mk e b.1)]),i64.wrap (d+1)))))) else (Cq.ret (.inr (.inr a)))
def Zbg(b:Zf)(e:(Fin 8->Int))(f:(List Za)):Cq ((List Za)×Int):=
 Cq.bind (Zaz b) fun c=>if c=0 then (Cq.ret ([],0)) else (Cq.next (Zit b e f ([],0)) fun g=>match g with | .inl d=>Cq.ret d | .inr a=>ZdC a)
def ZE(e:Int)(f:Int)(g:Int):Cq (List Za):=
 Cq.bind (Zas e) fun a=>Cq.bind (Zas 1) fun b=>Cq.bind (Zfa b) fun c=>Cq.bind (Zbg a (setF (setF (fun _=>0) 0 f) 1 g) c) fun d=>Cq.ret d.1
def ZdV(b:Zf)(c:(List Za)):Cq (List Za):=
 Cq.bind (Zbg b (fun _=>0) c) fun a=>Cq.ret a.1
def ZeC:Cq Int:=
 Cq.ret 0
def Zj2(b:(Fin 8->Int))(c:(Fin 8->Int)):Int->Cq (Int⊕Unit):=
 Cq.loop fun d=>match d with|a=>if a<8 then (Cq.chk (0<=a/\a<8) (Cq.chk (0<=a/\a<8) (if (getF b a)<(getF c a) then (Cq.ret (.inr (.inl (-1)))) else (Cq.chk (0<=a/\a<8) (Cq.chk (0<=a/\a<8) (if (getF c a)<(getF b a) then (Cq.ret (.inr (.inl 1))) else (Cq.ret (.inl (i64.wrap (a+1)))))))))) else (Cq.ret (.inr (.inr ())))
def ZfO(b:(Fin 8->Int))(c:(Fin 8->Int)):Cq Int:=
 Cq.next (Zj2 b c 0) fun d=>match d with | .inl a=>Cq.ret a | .inr ()=>ZeC
def ZjC(a:Zb)(b:Zb):Cq Zb:=
 if a.neg=b.neg then (Cq.bind (ZhH a.mag b.mag) fun c=>Cq.bind (Zaa a.neg c) fun d=>Cq.ret d) else (Cq.bind (Zbe a.mag b.mag) fun e=>if e<0 then (Cq.bind (Ze8 b.mag a.mag) fun f=>Cq.bind (Zaa b.neg f) fun g=>Cq.ret g) else (Cq.bind (Ze8 a.mag b.mag) fun h=>Cq.bind (Zaa a.neg h) fun i=>Cq.ret i))
def ZfN(a:Zf)(b:Zf):Cq Zf:=
 Cq.bind (Zcb a.num b.den) fun c=>Cq.bind (Zcb b.num a.den) fun d=>Cq.bind (ZjC c d) fun e=>Cq.bind (Zcb a.den b.den) fun f=>Cq.bind (ZaP e f) fun g=>Cq.ret g
def ZeE(a:(List Za)):Cq (List Za):=
 Cq.ret a
def ZeF(e:(List Za))(g:(List Za))(a:Int)(b:(List Za))(d:Int):Cq (((List Za)×Int×Int)⊕(List Za)):=
 Cq.at' e a fun j=>Cq.at' g d fun k=>Cq.bind (ZfN j.c k.c) fun f=>Cq.bind (Zaz f) fun h=>if ¬ h=0 then (Cq.at' e a fun i=>Cq.chk ((b++[(Za.mk f i.m)]).length<=small) (Cq.ret (.inl ((b++[(Za.mk f i.m)]),i64.wrap (a+1),i64.wrap (d+1))))) else (Cq.ret (.inl (b,i64.wrap (a+1),i64.wrap (d+1))))
def Zci(f:(List Za))(c:(List Za))(a:Int)(b:(List Za))(d:Int)(e:Bool):Cq (((List Za)×Int×Int)⊕(List Za)):=
 if e=true then (Cq.at' c a fun g=>Cq.chk ((b++[g]).length<=small) (Cq.ret (.inl ((b++[g]),d,i64.wrap (a+1))))) else (ZeF f c d b a)
def Zcj(a:(List Za))(c:(List Za))(d:Int)(e:(List Za))(b:Int):Cq (((List Za)×Int×Int)⊕(List Za)):=
 if b=(a.length:Int) then (Zci a c d e b true) else (Cq.at' a b fun g=>Cq.at' c d fun h=>Cq.bind (ZfO g.m h.m) fun f=>Zci a c d e b (decide (f<0)))
def Zat(c:(List Za))(f:(List Za))(a:(List Za))(b:Int)(d:Int)(e:Bool):Cq (((List Za)×Int×Int)⊕(List Za)):=
 if e=true then (Cq.at' c b fun g=>Cq.chk ((a++[g]).length<=small) (Cq.ret (.inl ((a++[g]),i64.wrap (b+1),d)))) else (Zcj c f d a b)
def ZaQ(a:(List Za))(b:(List Za))(e:(List Za))(c:Int)(d:Int):Cq (((List Za)×Int×Int)⊕(List Za)):=
 if d=(b.length:Int) then (Zat a b e c d true) else (if c<(a.length:Int) then (Cq.at' a c fun g=>Cq.at' b d fun h=>Cq.bind (ZfO g.m h.m) fun f=>Zat a b e c d (decide (0<f))) else (Zat a b e c d false))
def Zj4(a:(List Za))(b:(List Za)):((List Za)×Int×Int)->Cq (List Za):=
 Cq.loop fun f=>match f with|(c,d,e)=>if d<(a.length:Int) then (ZaQ a b c d e) else (if e<(b.length:Int) then (ZaQ a b c d e) else (Cq.ret (.inr c)))
def ZcD(a:(List Za))(b:(List Za)):Cq (List Za):=
 Cq.next (Zj4 a b ([],0,0)) fun d=>match d with|c=>ZeE c
def Zdt(d:(List Za))(e:(List Za)):Cq (List Za):=
 Cq.bind (Zas (-1)) fun a=>Cq.bind (ZdV a e) fun b=>Cq.bind (ZcD d b) fun c=>Cq.ret c
def ZbZ(a:Int):Cq Bool:=
 if 48<=a then (if a<=57 then (Cq.ret true) else (Cq.ret (decide (a=95)))) else (Cq.ret (decide (a=95)))
def Zaq:Cq Bool:=
 Cq.ret true
def ZH(c:ByteArray)(a:Nat)(b:Bool):Cq (Nat⊕(Bool⊕Unit)):=
 if b=true then (Cq.ret (.inl (a+(Utf8.decode c a).2))) else (if (a:Int)=0 then (Cq.ret (.inr (.inl false))) else (Cq.bind (ZbZ ((Utf8.decode c a).1:Int)) fun d=>if (!d)=true then (Cq.ret (.inr (.inl false))) else (Cq.ret (.inl (a+(Utf8.decode c a).2)))))
def ZgM(b:ByteArray):Nat->Cq (Bool⊕Unit):=
 Cq.loop fun c=>match c with|a=>if a<b.size then (if 65<=((Utf8.decode b a).1:Int) then (if ((Utf8.decode b a).1:Int)<=90 then (ZH b a true) else (if 97<=((Utf8.decode b a).1:Int) then (ZH b a (decide (((Utf8.decode b a).1:Int)<=122))) else (ZH b a false))) else (if 97<=((Utf8.decode b a).1:Int) then (ZH b a (decide (((Utf8.decode b a).1:Int)<=122))) else (ZH b a false))) else (Cq.ret (.inr (.inr ())))
def ZdO(b:ByteArray):Cq Bool:=
 Cq.next (ZgM b 0) fun c=>match c with | .inl a=>Cq.ret a | .inr ()=>Zaq
def ZbY(a:ByteArray):Cq Bool:=
 if (a.size:Int)<1 then (Cq.ret false) else (if 12<(a.size:Int) then (Cq.ret false) else (ZdO a))
def Zcx:Cq Bool:=
 Cq.ret true
def Zcy(a:Int)(b:(List (Int×Bool))):Cq ((Int×(List (Int×Bool)))⊕(Bool⊕Unit)):=
 Cq.ret (.inl (i64.wrap (a+1),b))
def Zbb(d:Zm)(a:Int)(c:(List (Int×Bool)))(b:Zg):Cq ((Int×(List (Int×Bool)))⊕(Bool⊕((List (Int×Bool))))):=
 Cq.chk (((Lit.int i64 b.id).wf=true)/\(mput c b.id true).length<=small) (Cq.bind (ZbU b.p (d.vars.length:Int)) fun e=>if (!e)=true then (Cq.ret (.inr (.inl false))) else (Cq.ret (.inl (i64.wrap (a+1),(mput c b.id true)))))
def Zd8(b:Zm)(e:(List Zg)):(Int×(List (Int×Bool)))->Cq (Bool⊕((List (Int×Bool)))):=
 Cq.loop fun f=>match f with|(a,d)=>if a<(e.length:Int) then (Cq.at' e a fun c=>if c.id<1 then (Cq.ret (.inr (.inl false))) else (if b.next<=c.id then (Cq.ret (.inr (.inl false))) else (Cq.chk ((Lit.int i64 c.id).wf=true) (if ((mget d c.id).getD false)=true then (Cq.ret (.inr (.inl false))) else (if 0<a then (Cq.at' e (i64.wrap (a-1)) fun g=>if c.id<=g.id then (Cq.ret (.inr (.inl false))) else (Zbb b a d c)) else (Zbb b a d c)))))) else (Cq.ret (.inr (.inr d)))
def Zhp(a:Zm):(Int×(List (Int×Bool)))->Cq (Bool⊕Unit):=
 Cq.loop fun g=>match g with|(b,c)=>if b<([a.eqs,a.neqs].length:Int) then (Cq.at' [a.eqs,a.neqs] b fun d=>if 12<(d.length:Int) then (Cq.ret (.inr (.inl false))) else (Cq.next (Zd8 a d (0,c)) fun h=>match h with | .inl e=>Cq.ret (.inr (.inl e)) | .inr f=>Zcy b f)) else (Cq.ret (.inr (.inr ())))
def Zbc(a:Zm):Cq Bool:=
 Cq.next (Zhp a (0,[])) fun c=>match c with | .inl b=>Cq.ret b | .inr ()=>Zcx
def Zhq(c:Zm):(Int×(List (ByteArray×Bool)))->Cq (Bool⊕Unit):=
 Cq.loop fun f=>match f with|(a,d)=>if a<(c.vars.length:Int) then (Cq.at' c.vars a fun b=>Cq.bind (ZbY b) fun e=>match e with|false=>(Cq.ret (.inr (.inl false)))|true=>(Cq.chk (b.size<=1000000) (if ((mget d b).getD false)=true then (Cq.ret (.inr (.inl false))) else (Cq.chk ((b.size<=1000000)/\(mput d b true).length<=small) (Cq.ret (.inl (i64.wrap (a+1),(mput d b true)))))))) else (Cq.ret (.inr (.inr ())))
def Zd9(a:Zm):Cq Bool:=
 Cq.next (Zhq a (0,[])) fun c=>match c with | .inl b=>Cq.ret b | .inr ()=>Zbc a
def ZaM(a:Zm):Cq Bool:=
 if 4<(a.vars.length:Int) then (Cq.ret false) else (if a.next<1 then (Cq.ret false) else (if 1000000<a.next then (Cq.ret false) else (Zd9 a)))
def ZaN(a:(List (List Za))):Cq ((List (List Za))):=
 Cq.ret a
def Zew(c:(List Zg)):((List (List Za))×Int)->Cq (((List (List Za)))):=
 Cq.loop fun d=>match d with|(b,a)=>if a<(c.length:Int) then (Cq.at' c a fun e=>Cq.at' b a fun f=>Cq.ret (.inl ((b.set a.toNat e.p),i64.wrap (a+1)))) else (Cq.ret (.inr b))
def Zax(a:(List Zg)):Cq ((List (List Za))):=
 Cq.chk (0<=(a.length:Int)/\(a.length:Int)<=1000000) (Cq.next (Zew a ((List.replicate (a.length:Int).toNat []),0)) fun b=>match b with|c=>ZaN c)
def ZcX(a:Zm):Cq (Ze×Int):=
 Cq.bind (ZaM a) fun c=>if (!c)=true then (Cq.ret ((Ze.mk 0 [] []),320)) else (Cq.bind (Zax a.eqs) fun d=>Cq.bind (Zax a.neqs) fun e=>Cq.bind (ZQ (if 1<(a.vars.length:Int) then (a.vars.length:Int) else 1) d e) fun b=>Cq.ret (b.1,b.2))
def Zdj(j:(List Za))(a:Ze×Int)(b:Ze×Int):Cq Bool:=
 Cq.bind (ZE 1 1 0) fun c=>Cq.bind (ZE 2 0 0) fun d=>Cq.bind (Zdt c d) fun e=>Cq.bind (Zal a.1 (Ze.mk 1 [e] [])) fun f=>match f with|false=>(Cq.ret false)|true=>(Cq.bind (Zal b.1 (Ze.mk 2 [j] [])) fun g=>match g with|false=>(Cq.ret false)|true=>(Cq.bind (ZaM (Zm.mk [] [] [] 1)) fun h=>match h with|false=>(Cq.ret false)|true=>(Cq.bind (ZaM (Zm.mk [] [] [] 0)) fun i=>Cq.ret (!i))))
def ZcK:Cq Bool:=
 Cq.bind (ZE 1 1 0) fun s=>Cq.bind (ZE 1 0 0) fun t=>Cq.bind (Zdt s t) fun u=>Cq.bind (ZE 1 0 0) fun d=>Cq.bind (ZE 2 1 0) fun v=>Cq.bind (ZE 4 0 0) fun w=>Cq.bind (Zdt v w) fun x=>Cq.bind (ZE 2 0 0) fun y=>Cq.bind (ZE 1 1 0) fun z=>Cq.bind (Zdt y z) fun e=>Cq.bind (ZE 3 0 0) fun f=>Cq.bind (ZQ 1 [x,[],e] [f]) fun a=>Cq.bind (ZQ 2 [] [[]]) fun b=>Cq.bind (ZE 1 0 1) fun g=>Cq.bind (ZQ 1 [g] []) fun h=>Cq.bind (ZcX (Zm.mk [] [] [] 0)) fun i=>Cq.bind (ZE 1 1 0) fun j=>Cq.bind (ZE 1 0 2) fun k=>Cq.bind (ZcD j k) fun l=>Cq.bind (ZdM (Ze.mk 2 [u,l] [])) fun c=>Cq.bind (ZE 1 0 1) fun m=>Cq.bind (Zdt m d) fun n=>Cq.bind (ZE 1 2 0) fun o=>Cq.bind (ZE 1 0 1) fun p=>Cq.bind (ZcD o p) fun q=>if ¬ a.2=0 then (Cq.ret false) else (if ¬ b.2=0 then (Cq.ret false) else (if ¬ h.2=1 then (Cq.ret false) else (if ¬ i.2=320 then (Cq.ret false) else (Cq.bind (Zal c.1 (Ze.mk 2 [n,q] [])) fun r=>match r with|false=>(Cq.ret false)|true=>(if ¬ c.2=(setF (setF (setF (setF (setF (setF (setF (setF (fun _=>0) 0 1) 1 0) 2 2) 3 3) 4 4) 5 5) 6 6) 7 7) then Cq.fail else (Zdj d a b))))))
def ZfP(a:Int):Cq Int:=
 if a<0 then (Cq.ret (i64.wrap (0-(i64.wrap a)))) else (Cq.ret (i64.wrap a))
def Zeb(a:(List Za)):Cq (List Za):=
 Cq.ret a
def Zec(b:Zv)(c:(List Za))(a:Int)(d:(Fin 8->Int)):Cq (((List Za)×Int)⊕(List Za)):=
 Cq.at' b.t a fun i=>Cq.bind (Zas (i64.wrap (Int.tmod (getF i 0) 4))) fun e=>Cq.bind (Zas 1) fun f=>Cq.bind (ZdV e [(Za.mk f d)]) fun g=>Cq.bind (ZcD c g) fun h=>Cq.ret (.inl (h,i64.wrap (a+1)))
def Zf4(f:Zv)(g:Int)(d:Int):(Int×Int×(Fin 8->Int))->Cq (Fin 8->Int):=
 Cq.loop fun h=>match h with|(b,a,c)=>if a<g then (if a<4 then (Cq.at' f.t d fun i=>Cq.chk (0<=i64.wrap (1+a)/\(i64.wrap (1+a))<5) (Cq.bind (ZfP (getF i (i64.wrap (1+a)))) fun e=>Cq.chk ((i64.wrap (b+1))≠0) (Cq.chk (0<=a/\a<8) (Cq.chk (0<=a/\a<8) (Cq.ret (.inl (i64.wrap (b-(getF (setF c a.toNat (Int.tmod e (i64.wrap (b+1)))) a)),i64.wrap (a+1),setF c a.toNat (Int.tmod e (i64.wrap (b+1)))))))))) else (Cq.ret (.inr c))) else (Cq.ret (.inr c))
def Zf5(b:Zv)(c:Int)(d:Int)(e:(List Za))(a:Int):Cq (((List Za)×Int)⊕(List Za)):=
 Cq.next (Zf4 b c a (d,0,(fun _=>0))) fun g=>match g with|f=>Zec b e a f
def Zjn(c:Zv)(d:Int)(e:Int)(f:Int):((List Za)×Int)->Cq (List Za):=
 Cq.loop fun g=>match g with|(b,a)=>if a<(c.t.length:Int) then (if a<f then (Zf5 c d e b a) else (Cq.ret (.inr b))) else (Cq.ret (.inr b))
def Zgp(a:Zv)(b:Int)(c:Int)(d:Int):Cq (List Za):=
 Cq.next (Zjn a b c d ([],0)) fun f=>match f with|e=>Zeb e
def ZbQ(a:(List ByteArray))(d:(List Zg))(b:(List Zg))(c:Int):Cq Zm:=
 Cq.ret (Zm.mk a d b c)
def ZcS(h:Zp)(f:Int)(e:(List ByteArray))(d:(List Zg))(b:(List Zg))(a:Int)(c:Int):Cq ((Int×(List ByteArray)×(List Zg)×(List Zg)×Int)⊕(((List ByteArray)×(List Zg)×(List Zg)×Int))):=
 Cq.at' h.l f fun i=>Cq.bind (Zgp i (i64.wrap (Int.tmod h.n 4)) 2 3) fun g=>if (Int.tmod f 3)=2 then (Cq.chk ((b++[(Zg.mk (i64.wrap (a+c)) g)]).length<=small) (Cq.ret (.inl (i64.wrap (f+1),e,d,(b++[(Zg.mk (i64.wrap (a+c)) g)]),i64.wrap ((i64.wrap (a+c))+1))))) else (Cq.chk ((d++[(Zg.mk (i64.wrap (a+c)) g)]).length<=small) (Cq.ret (.inl (i64.wrap (f+1),e,(d++[(Zg.mk (i64.wrap (a+c)) g)]),b,i64.wrap ((i64.wrap (a+c))+1)))))
def ZcT(a:Zp)(f:Int)(b:(List ByteArray))(e:(List Zg))(c:(List Zg))(d:Int):Cq ((Int×(List ByteArray)×(List Zg)×(List Zg)×Int)⊕(((List ByteArray)×(List Zg)×(List Zg)×Int))):=
 if 0<(a.gap.length:Int) then (Cq.chk ((a.gap.length:Int)≠0) (Cq.at' a.gap (Int.tmod f (a.gap.length:Int)) fun g=>ZcS a f b e c d (i64.wrap (Int.tmod g 4)))) else (ZcS a f b e c d 0)
def Zjq(f:Zp):(Int×(List ByteArray)×(List Zg)×(List Zg)×Int)->Cq (((List ByteArray)×(List Zg)×(List Zg)×Int)):=
 Cq.loop fun g=>match g with|(e,a,d,b,c)=>if e<(f.l.length:Int) then (if e<6 then (ZcT f e a d b c) else (Cq.ret (.inr (a,d,b,c)))) else (Cq.ret (.inr (a,d,b,c)))
def ZeG(a:Zp):Cq Zm:=
 Cq.chk (0<=(0:Int)/\(0:Int)<=(i64.wrap (Int.tmod a.n 4))/\(i64.wrap (Int.tmod a.n 4))<=([ZG,ZF,ZC].length:Int)) (Cq.next (Zjq a (0,(([ZG,ZF,ZC].take (i64.wrap (Int.tmod a.n 4)).toNat).drop (0:Int).toNat),[],[],1)) fun f=>match f with|(b,e,c,d)=>ZbQ b e c d)
def Zf0(d:ZbR)(a:Zb)(b:Zb):Cq Zf:=
 if (Int.tmod d.k 8)=6 then Cq.fail else (Cq.bind (ZaP b a) fun c=>Cq.ret c)
def Zf1(a:ZbR)(b:Zb)(c:Zb):Cq Zf:=
 Cq.bind (Zem (i64.wrap (4611686018427387904+(i64.wrap a.k)))) fun d=>if (Int.tmod a.k 8)=7 then Cq.fail else (Zf0 a c b)
def Zgo(a:ZbR):Cq Zf:=
 Cq.bind (Zem (i64.wrap a.n)) fun b=>Cq.bind (Zem (i64.wrap a.d)) fun c=>if a.d=0 then Cq.fail else (Zf1 a b c)
def Zaf(f:Bool)(a:Ze×Int)(d:Ze×Int)(b:(List (List Za)))(c:(List (List Za))):Cq Bool:=
 Cq.bind (ZQ a.1.n b c) fun e=>if d.2=0 then (if e.2=0 then (Cq.bind (Zal d.1 a.1) fun g=>match g with|false=>(Cq.ret false)|true=>(Cq.bind (Zal e.1 a.1) fun h=>match h with|false=>(Cq.ret false)|true=>(Cq.ret f))) else (Cq.ret false)) else (Cq.ret false)
def Zcn(d:Zm)(e:Zf):((List (List Za))×Int)->Cq (((List (List Za)))):=
 Cq.loop fun f=>match f with|(a,b)=>if 0<=b then (Cq.at' d.neqs b fun g=>Cq.bind (Zbg e (fun _=>0) g.p) fun c=>Cq.chk ((a++[c.1,c.1]).length<=small) (Cq.ret (.inl ((a++[c.1,c.1]),i64.wrap (b-1))))) else (Cq.ret (.inr a))
def Zag(d:Bool)(c:Zm)(e:Ze×Int)(f:Ze×Int)(g:Zf)(a:(List (List Za))):Cq Bool:=
 Cq.next (Zcn c g ([],i64.wrap ((c.neqs.length:Int)-1))) fun h=>match h with|b=>Zaf d e f a b
def Zco(d:Zm)(e:Zf):((List (List Za))×Int)->Cq (((List (List Za)))):=
 Cq.loop fun g=>match g with|(b,a)=>if 0<=a then (Cq.at' d.eqs a fun h=>Cq.bind (Zbg e (fun _=>0) h.p) fun c=>Cq.at' d.eqs a fun f=>Cq.chk ((b++[c.1,f.p]).length<=small) (Cq.ret (.inl ((b++[c.1,f.p]),i64.wrap (a-1))))) else (Cq.ret (.inr b))
def Zah(d:Bool)(a:Zm)(e:Ze×Int)(f:Ze×Int)(c:Zf):Cq Bool:=
 Cq.next (Zco a c ([],i64.wrap ((a.eqs.length:Int)-1))) fun g=>match g with|b=>Zag d a e f c b
def Zcp(b:Int)(c:Bool)(d:Zm)(a:Ze×Int):Cq Bool:=
 Cq.bind (ZQ a.1.n a.1.eqs a.1.neqs) fun e=>Cq.bind (Zgo (ZbR.mk b 3 0)) fun g=>if b=0 then (Cq.bind (Zas (-1)) fun f=>Zah c d a e f) else (Zah c d a e g)
def Zdi(d:Zp)(e:Int):Cq Bool:=
 Cq.bind (ZcK) fun b=>if (!b)=true then Cq.fail else (Cq.bind (ZeG d) fun c=>Cq.bind (ZcX c) fun a=>if ¬ a.2=0 then (Cq.ret false) else (Cq.bind (ZcU a.1) fun f=>if (!f)=true then Cq.fail else (Zcp e b c a)))
end Go.EL

namespace Go.EL
open Go.IntKind (i8 i16 i32 i64 u8 u16 u32 u64)
open Go
namespace Cq
open Go.IntKind (i8 i16 i32 i64 u8 u16 u32 u64)
variable {α β σ ρ:Type}
theorem wp_ret{a:α}{p:α->Prop}:(Cq.ret a).wp p↔p a:=Iff.rfl
theorem Zi{q:Prop}[Decidable q]{c d:Cq α}{p:α->Prop}:(if q then c else d).wp p↔if q then c.wp p else d.wp p:=by split <;> rfl
theorem ZmJ{A:σ->Prop}{Φ:ρ->Prop}{s:σ}:Out A Φ (.inl s)↔A s:=Iff.rfl
theorem Ret.then{c:Cq α}{a:α}(h:c.Ret a){p:α->Prop}(hp:p a):c.wp p:=c.mono (fun b e=>by rw[e]; exact hp) h
end Cq
theorem wrap64{x:Int}(h:-9223372036854775808<=x/\x<=9223372036854775807):i64.wrap x=x:=IntWalk.i64_in _ h
theorem getF8{a:Fin 8->Int}{i:Int}(h:0<=i/\i<8):getF a i=a ⟨i.toNat,by omega⟩:=Zen a (by omega)
end Go.EL
namespace Go.EL
open Go.IntKind (i8 i16 i32 i64 u8 u16 u32 u64)
open Go
theorem ZaS(a b:M):(ZaH a b).Ret (cmpM a b):=by
 unfold ZaH
 by_cases h:a=b
 .rw[if_pos h]
  subst h
  exact (ZdX a).symm
 rw[if_neg h]
 have hne:∀ k:Nat,k<=8->(∀ j:Fin 8,j.val<k->a j=b j)->k<8:=fun k hk hj=>by
  rcases Nat.lt_or_ge k 8 with h1|h1
  .exact h1
  exact absurd (funext fun j=>hj j (by omega)) h
 refine Cq.ZgC (I:=fun i:Int=>0<=i/\i<8/\∀ j:Fin 8,(j.val:Int)<i->a j=b j) (m:=fun i=>(8-i).toNat) (fun i hi=>?_) 0 ⟨by omega,by omega,fun j hj=>by omega⟩
 obtain⟨h0,h8,hj⟩:=hi
 refine⟨⟨h0,h8⟩,⟨h0,h8⟩,?_⟩
 rw[Cq.Zi,getF8 ⟨h0,h8⟩,getF8 ⟨h0,h8⟩]
 split
 .rename_i e
  have hj':∀ j:Fin 8,(j.val:Int)<i+1->a j=b j:=fun j hj1=>by
   by_cases h2:(j.val:Int)<i
   .exact hj j h2
   have:j=⟨i.toNat,by omega⟩:=Fin.ext (by simp; omega)
   rw[this]; exact e
  have:=hne (i+1).toNat (by omega) (fun j hj1=>hj' j (by omega))
  rw[Cq.wp_ret,Cq.ZmJ,wrap64 (by omega)]
  exact⟨⟨by omega,by omega,hj'⟩,by omega⟩
 rename_i e
 refine⟨⟨h0,h8⟩,⟨h0,h8⟩,?_⟩
 rw[Cq.Zi,getF8 ⟨h0,h8⟩,getF8 ⟨h0,h8⟩]
 have hk:i.toNat<8:=by omega
 split
 .rename_i e2
  exact (ZjG a b hk (fun j hj1=>hj j (by omega)) e2).symm
 rename_i e2
 exact (ZjF a b hk (fun j hj1=>hj j (by omega)) (by omega)).symm
end Go.EL

namespace Go.EL
open Go.IntKind (i8 i16 i32 i64 u8 u16 u32 u64)
open Go
instance decInt:DecidableEq Zb:=fun ⟨a1,a2⟩ ⟨b1,b2⟩=>decidable_of_iff (a1=b1/\a2=b2) (by simp)
instance decRat:DecidableEq Zf:=fun ⟨a1,a2⟩ ⟨b1,b2⟩=>decidable_of_iff (a1=b1/\a2=b2) (by simp)
def ratI(n:Int):Zf:=⟨⟨decide (n<0),if n=0 then [] else [(n.natAbs:Int)]⟩,⟨false,[1]⟩⟩
def between(l h:Int)(p:Int->Bool):Bool:=(List.range (h-l+1).toNat).all fun k=>p (l+(k:Int))
theorem Zy{l h:Int}{p:Int->Bool}(hb:between l h p=true){x:Int}(h1:l<=x)(h2:x<=h):p x=true:=by
 have:=List.all_eq_true.1 hb (x-l).toNat (List.mem_range.2 (by omega))
 rwa [show l+((x-l).toNat:Int)=x by omega] at this
def runs{α:Type}[DecidableEq α](n:Nat)(c:Cq α)(a:α):Bool:=decide (c.ev n=some a)
theorem ZM{α:Type}[DecidableEq α]{n:Nat}{c:Cq α}{a:α}(h:runs n c a=true):c.Ret a:=Cq.Ret.Zo n (of_decide_eq_true h)
theorem ZlG:(between (-8) 8 fun n=>runs 20 (Zas n) (ratI n))=true:=by decide +kernel
theorem ZmL:(between (-12) 12 fun a=>between (-3) 3 fun b=>runs 30 (ZfN (ratI a) (ratI b)) (ratI (a+b)))=true:=by decide +kernel
theorem ZmX:(between (-3) 3 fun a=>runs 30 (Zds (ratI a) (ratI 1)) (ratI a))=true:=by decide +kernel
theorem Zi9:(between (-15) 15 fun a=>runs 30 (Zaz (ratI a)) (if a<0 then -1 else if a=0 then 0 else 1))=true:=by decide +kernel
theorem Zh6:(between (-12) 12 fun a=>a == 0 || runs 30 (ZA (ratI a)) (if a<0 then -1 else if a=0 then 0 else 1))=true:=by decide +kernel
theorem Zkw:(between (-12) 12 fun a=>a == 0 || runs 30 (ZaK (ratI a)) true)=true:=by decide +kernel
theorem Zmw:(between (-12) 12 fun a=>a == 0 || between (-12) 12 fun b=>b == 0 || runs 30 (Zbs (ratI a) (ratI b)) (if a<b then -1 else if a=b then 0 else 1))=true:=by decide +kernel
end Go.EL

namespace Go.EL
open Go.IntKind (i8 i16 i32 i64 u8 u16 u32 u64)
open Go Go.RowKit
instance inhM:Inhabited M:=⟨fun _=>0⟩
def mixM(k:Nat)(f a:M):M:=fun i=>if i.val<k then f i else a i
theorem ZiQ{k:Nat}(f a:M)(h:k<8):setF (mixM k f a) k (f ⟨k,h⟩)=mixM (k+1) f a:=by
 funext i; unfold setF mixM
 by_cases e:i.val=k
 .have:i=⟨k,h⟩:=Fin.ext e
  subst this; simp
 have e1:(i.val<k+1)=(i.val<k):=by apply propext; omega
 simp[e,e1]
theorem Zld{k:Nat}(f a:M)(h:k<8):mixM k f a ⟨k,h⟩=a ⟨k,h⟩:=by unfold mixM; simp
theorem ZiR(f a:M):mixM 0 f a=a:=by funext i; simp[mixM]
theorem ZjP{k:Nat}(f a:M)(h:¬ k<8):mixM k f a=f:=by
 funext i
 have:i.val<k:=by omega
 simp[mixM,this]
theorem ZlT{p:Fin 8->Prop}{k:Nat}(hall:∀ i:Fin 8,i.val<k->p i)(h:k<8)(hk:p ⟨k,h⟩):∀ i:Fin 8,i.val<k+1->p i:=fun i hi=>by
 by_cases e:i.val=k
 .have:i=⟨k,h⟩:=Fin.ext e
  rw[this]; exact hk
 exact hall i (by omega)
def Ok(a:M):Prop:=∀ i,0<=a i/\a i<=65535
instance decOk (a:M):Decidable (Ok a):=inferInstanceAs (Decidable (∀ i,0<=a i/\a i<=65535))
def p2:Nat->Int
 | 0=>1
 | k+1=>2*p2 k
theorem Znp:∀ {k:Nat},k<=8->1<=p2 k/\p2 k<=256
 | 0,_=>by decide
 | 1,_=>by decide
 | 2,_=>by decide
 | 3,_=>by decide
 | 4,_=>by decide
 | 5,_=>by decide
 | 6,_=>by decide
 | 7,_=>by decide
 | 8,_=>by decide
 | k+9,h=>by omega
theorem Znq{k:Nat}(h:k<8):1<=p2 k/\p2 k<=128:=by
 have:=Znp (k:=k+1) (by omega)
 simp only[p2] at this
 omega
theorem Zmn{k:Nat}(h:k<8):u8.wrap (1*2 ^ (min (k:Int).toNat u8.bits))=p2 k:=by
 match k,h with
 | 0,_=>decide|1,_=>decide|2,_=>decide|3,_=>decide|4,_=>decide|5,_=>decide|6,_=>decide|7,_=>decide
def suppTo(a:M):Nat->Int
 | 0=>0
 | k+1=>suppTo a k+(if h:k<8 then (if 0<a ⟨k,h⟩ then p2 k else 0) else 0)
def suppM(a:M):Int:=suppTo a 8
theorem Zd7(a:M):∀ k:Nat,0<=suppTo a k/\suppTo a k<p2 k
 | 0=>by simp[suppTo,p2]
 | k+1=>by
  have ih:=Zd7 a k
  simp only[suppTo,p2]
  split
  .split <;> omega
  omega
theorem ZkD(a:M){k:Nat}(h:k<8)(ha:0<a ⟨k,h⟩):suppTo a k+p2 k=suppTo a (k+1):=by simp[suppTo,h,ha]
theorem ZlA(a:M){k:Nat}(h:k<8)(ha:¬ 0<a ⟨k,h⟩):suppTo a k=suppTo a (k+1):=by simp[suppTo,h,ha]
theorem Zli:∀ k:Fin 8,∀ s:Fin 128,s.val<2 ^ k.val->u8.wrap (BitVec.ofInt u8.bits (s.val:Int) ||| BitVec.ofInt u8.bits (p2 k.val)).toNat=s.val+p2 k.val:=by decide +kernel
theorem Zeo:∀ k:Nat,p2 k=((2 ^ k:Nat):Int)
 | 0=>rfl
 | k+1=>by rw[p2,Zeo k,Nat.pow_succ]; omega
theorem Zno{k:Nat}(h:k<8){s:Int}(h0:0<=s)(h1:s<p2 k):u8.wrap (BitVec.ofInt u8.bits s ||| BitVec.ofInt u8.bits (p2 k)).toNat=s+p2 k:=by
 obtain⟨n,rfl⟩:=Int.eq_ofNat_of_zero_le h0
 have h2:=Znq h
 rw[Zeo] at h1
 exact Zli ⟨k,h⟩ ⟨n,by rw[Zeo] at h2; omega⟩ (by simp; omega)
theorem Cq.Zn{σ ρ:Type}{step:σ->Cq (σ⊕ρ)}{Φ:ρ->Prop}(n:Nat)(I:Nat->σ->Prop)(h:∀ k s,k<n->I k s->(step s).wp (Out (fun s'=>I (k+1) s') Φ))(hend:∀ s,I n s->(step s).wp (Out (fun _=>False) Φ)):
  ∀ {s:σ},I 0 s->(Cq.loop step s).wp Φ:=by
 have key:∀ d k s,k+d=n->I k s->(Cq.loop step s).wp Φ:=by
  intro d
  induction d with
  | zero=>intro k s hk hs; rw[Nat.add_zero] at hk; subst hk; exact Cq.Zk ((step s).mono (Out.mono (fun _ h=>h.elim) (fun _ x=>x)) (hend s hs))
  | succ d ih=>intro k s hk hs; exact Cq.Zk ((step s).mono (Out.mono (fun s' h'=>ih (k+1) s' (by omega) h') (fun _ x=>x)) (h k s (by omega) hs))
 exact fun {s} hs=>key n 0 s (by omega) hs
theorem wrapN{k:Nat}(h:k<1000000000000):i64.wrap ((k:Int)+1)=((k+1:Nat):Int):=by rw[wrap64 (by omega)]; simp
theorem idxN{α:Type}{l:List α}{k:Nat}(h:k<l.length):(0:Int)<=(k:Int)/\l[(k:Int).toNat]? = some l[k]:=⟨by omega,by simp[h]⟩
theorem getFN{a:M}{k:Nat}(h:k<8):getF a (k:Int)=a ⟨k,h⟩:=by rw[getF8 (by omega)]; rfl
theorem Zjs(m:M):(Zb5 m).Ret (suppM m):=by
 show (Cq.loop _ _).wp _
 refine Cq.Zn 8 (fun k s=>s=(suppTo m k,(k:Int))) (fun k s hk hs=>?_) (fun s hs=>?_) rfl
 .subst hs
  refine Cq.wp.yes (p:=(k:Int)<8) (by omega) ?_
  refine⟨by omega,?_⟩
  rw[Cq.Zi,getFN hk]
  have hb:=Zd7 m k
  split
  .rename_i h
   refine⟨by omega,?_⟩
   show _=_
   rw[wrapN (by omega),Zmn hk,Zno hk hb.1 hb.2,ZkD m hk h]
  rename_i h
  show _=_
  rw[wrapN (by omega),ZlA m hk h]
 subst hs
 refine Cq.wp.no (p:=((8:Nat):Int)<8) (by omega) ?_
 rfl
theorem Zf2(a b:M):(ZfO a b).Ret (cmpM a b):=by
 refine Cq.Zn 8 (fun k s=>s=(k:Int)/\∀ i:Fin 8,i.val<k->a i=b i) (fun k s hk hs=>?_) (fun s hs=>?_) ⟨rfl,fun i hi=>by omega⟩
 .obtain⟨rfl,hi⟩:=hs
  rw[Cq.Zi,if_pos (by omega)]
  refine⟨by omega,by omega,?_⟩
  rw[Cq.Zi,getFN hk,getFN hk]
  split
  .rename_i h
   show _=_
   exact (ZjG a b hk hi h).symm
  rename_i h
  refine⟨by omega,by omega,?_⟩
  rw[Cq.Zi]
  split
  .rename_i h2
   show _=_
   exact (ZjF a b hk hi h2).symm
  exact⟨wrapN (by omega),ZlT hi hk (by omega)⟩
 obtain⟨rfl,hi⟩:=hs
 rw[Cq.Zi,if_neg (by omega)]
 show _=_
 exact (ZjE a b (fun i=>hi i i.isLt)).symm
theorem Zih{m:M}(h:Ok m):(Ze9 m).Ret true:=by
 refine Cq.Zn 8 (fun k s=>s=(k:Int)) (fun k s hk hs=>?_) (fun s hs=>?_) rfl
 .subst hs
  have:=h ⟨k,hk⟩
  rw[Cq.Zi,if_pos (by omega)]
  refine⟨by omega,?_⟩
  rw[Cq.Zi,getFN hk,if_neg (by omega)]
  refine⟨by omega,?_⟩
  rw[Cq.Zi,if_neg (by omega)]
  exact wrapN (by omega)
 subst hs
 rw[Cq.Zi,if_neg (by omega)]
 rfl
theorem Zfc{m:M}(h:Ok m):(ZbF m).Ret true:=by
 refine Cq.Zn 8 (fun k s=>s=(k:Int)) (fun k s hk hs=>?_) (fun s hs=>?_) rfl
 .subst hs
  have:=h ⟨k,hk⟩
  refine Cq.wp.yes (p:=(k:Int)<8) (by omega) ?_
  refine⟨by omega,?_⟩
  rw[Cq.Zi,getFN hk,if_neg (by omega),Cq.Zi,if_neg (by omega)]
  exact wrapN (by omega)
 subst hs
 refine Cq.wp.no (p:=((8:Nat):Int)<8) (by omega) ?_
 rfl
def degTo(m:M):Nat->Int
 | 0=>0
 | k+1=>degTo m k+(if h:k<8 then m ⟨k,h⟩ else 0)
def degM(m:M):Int:=degTo m 8
theorem Zgs{m:M}(h:Ok m):∀ k:Nat,0<=degTo m k/\degTo m k<=65535*k
 | 0=>by simp[degTo]
 | k+1=>by
  have ih:=Zgs h k
  simp only[degTo]
  split
  .rename_i hk; have:=h ⟨k,hk⟩; omega
  omega
theorem ZgQ{m:M}(h:Ok m):(Zcr m).Ret (degM m):=by
 refine Cq.Zn 8 (fun k s=>s=(degTo m k,(k:Int))) (fun k s hk hs=>?_) (fun s hs=>?_) rfl
 .subst hs
  have h1:=Zgs h k
  have h2:=h ⟨k,hk⟩
  refine Cq.wp.yes (p:=(k:Int)<8) (by omega) ?_
  refine⟨by omega,?_⟩
  show _=_
  rw[wrapN (by omega),getFN hk,wrap64 (by omega),degTo,dif_pos hk]
 subst hs
 refine Cq.wp.no (p:=((8:Nat):Int)<8) (by omega) ?_
 rfl
def mulM(a b:M):M:=fun i=>a i+b i
theorem Zf3{a b:M}(ha:Ok a)(hb:Ok b)(hab:Ok (mulM a b)):(Zhz a b).Ret (mulM a b,0):=by
 show (Cq.next _ _).wp _
 refine Cq.Zn 8 (fun k s=>s=((k:Int),mixM k (mulM a b) a)) (fun k s hk hs=>?_) (fun s hs=>?_) (by rw[ZiR]; rfl)
 .subst hs
  have h1:=ha ⟨k,hk⟩
  have h2:=hb ⟨k,hk⟩
  rw[Cq.Zi,if_pos (by omega)]
  refine⟨by omega,by omega,by omega,?_⟩
  show _=_
  rw[wrapN (by omega),getFN hk,getFN hk,Zld,wrap64 (by omega)]
  exact congrArg (Prod.mk _) (ZiQ (mulM a b) a hk)
 subst hs
 rw[Cq.Zi,if_neg (by omega),ZjP _ _ (by omega)]
 exact⟨true,Zih hab,rfl⟩
end Go.EL

namespace Go.EL
open Go.IntKind (i8 i16 i32 i64 u8 u16 u32 u64)
open Go Go.RowKit
theorem ZdH{c:Zf}(h:goodC c=true):∃ n:Int,c=ratI n/\n≠0/\-12<=n/\n<=12:=by
 obtain⟨⟨ng,nm⟩,⟨dg,dm⟩⟩:=c
 unfold goodC at h
 dsimp only at h
 split at h
 .rename_i w d
  simp only[Bool.and_eq_true,Bool.not_eq_true',decide_eq_true_eq] at h
  obtain⟨⟨⟨h1,h2⟩,h3⟩,h4⟩:=h
  subst h1 h2
  cases ng with
  | true=>
   refine⟨-w,?_,by omega,by omega,by omega⟩
   unfold ratI
   rw[if_neg (by omega),decide_eq_true (by omega),show ((-w).natAbs:Int)=w by omega]
  | false=>
   refine⟨w,?_,by omega,by omega,by omega⟩
   unfold ratI
   rw[if_neg (by omega),decide_eq_false (by omega),show ((w).natAbs:Int)=w by omega]
 cases h
theorem Zaj(n:Int):numC (ratI n)=n:=by
 unfold numC ratI
 by_cases h:n<0
 .rw[decide_eq_true h,if_pos rfl,if_neg (by omega)]; simp; omega
 rw[decide_eq_false h]
 by_cases h0:n=0
 .subst h0; rfl
 simp[h0]; omega
theorem Zkc{n:Int}(h0:n≠0)(h1:-12<=n)(h2:n<=12):goodC (ratI n)=true:=by
 unfold goodC ratI
 rw[if_neg h0]
 simp; omega
def cmpC(a b:Zf):Int:=if numC a<numC b then -1 else if numC a=numC b then 0 else 1
theorem Ziw{a b:Zf}(ha:goodC a=true)(hb:goodC b=true):(Zbs a b).Ret (cmpC a b):=by
 obtain⟨m,rfl,m0,m1,m2⟩:=ZdH ha
 obtain⟨n,rfl,n0,n1,n2⟩:=ZdH hb
 have h:=Zy Zmw m1 m2
 have e0:(m == 0)=false:=by simpa using m0
 rw[e0,Bool.false_or] at h
 have h':=Zy h n1 n2
 have e1:(n == 0)=false:=by simpa using n0
 rw[e1,Bool.false_or] at h'
 have:=ZM h'
 unfold cmpC
 rw[Zaj,Zaj]
 exact this
theorem ZkN{a b:Zf}(ha:goodC a=true)(hb:goodC b=true)(h:cmpC a b=0):a=b:=by
 obtain⟨m,rfl,_⟩:=ZdH ha
 obtain⟨n,rfl,_⟩:=ZdH hb
 unfold cmpC at h
 rw[Zaj,Zaj] at h
 split at h
 .omega
 split at h
 .rename_i e; rw[e]
 omega
theorem ZlY(a b:Zf):cmpC b a = - cmpC a b:=by unfold cmpC; split <;> split <;> (try split) <;> omega
theorem ZmN{a b:Zf}:cmpC a b<=0↔numC a<=numC b:=by unfold cmpC; split <;> (try split) <;> constructor <;> intro h <;> omega
theorem ZmO{a b:Zf}:cmpC a b<0↔numC a<numC b:=by unfold cmpC; split <;> (try split) <;> constructor <;> intro h <;> omega
theorem Zj8{a b c:Zf}(h1:cmpC a b<=0)(h2:cmpC b c<=0):cmpC a c<=0/\((cmpC a b<0\/cmpC b c<0)->cmpC a c<0):=by
 rw[ZmN] at *
 simp only[ZmO]
 omega
theorem ZeI(s t:Za):cmpT t s = - cmpT s t:=by
 unfold cmpT
 by_cases h:s.m=t.m
 .rw[if_pos h,if_pos h.symm]; exact ZlY s.c t.c
 rw[if_neg h,if_neg (fun e=>h e.symm)]; exact ZaR _ _
theorem Zdp(a b c:Za)(h1:cmpT a b<=0)(h2:cmpT b c<=0):cmpT a c<=0/\((cmpT a b<0\/cmpT b c<0)->cmpT a c<0):=by
 have nz:∀ {x y:Za},x.m≠y.m->cmpM x.m y.m<=0->cmpM x.m y.m<0:=fun h h'=>by
  rcases Int.lt_or_eq_of_le h' with h'|h'
  .exact h'
  exact absurd (Zbh h') h
 unfold cmpT at *
 by_cases e1:a.m=b.m
 .by_cases e2:b.m=c.m
  .rw[if_pos e1] at h1 ⊢; rw[if_pos e2] at h2 ⊢; rw[if_pos (e1.trans e2)]
   exact Zj8 h1 h2
  rw[if_pos e1] at h1 ⊢; rw[if_neg e2] at h2 ⊢; rw[if_neg (fun e=>e2 (e1.symm.trans e))]
  have:=nz e2 h2
  rw[e1]
  exact⟨h2,fun _=>this⟩
 by_cases e2:b.m=c.m
 .rw[if_neg e1] at h1 ⊢; rw[if_pos e2] at h2 ⊢; rw[if_neg (fun e=>e1 (e.trans e2.symm))]
  have:=nz e1 h1
  rw[<- e2]
  exact⟨h1,fun _=>this⟩
 rw[if_neg e1] at h1 ⊢; rw[if_neg e2] at h2 ⊢
 have h1':=nz e1 h1
 have h3:=Zdf h1 h2 (.inl h1')
 have:a.m≠c.m:=fun e=>by rw[e,ZdX] at h3; omega
 rw[if_neg this]
 exact⟨Int.le_of_lt h3,fun _=>h3⟩
theorem ZkO{s t:Za}(hs:goodC s.c=true)(ht:goodC t.c=true)(h:cmpT s t=0):s=t:=by
 unfold cmpT at h
 have key:s.m=t.m/\s.c=t.c:=by
  by_cases e:s.m=t.m
  .rw[if_pos e] at h; exact⟨e,ZkN hs ht h⟩
  rw[if_neg e] at h; exact absurd (Zbh h) e
 cases s; cases t
 simp only at key
 rw[key.1,key.2]
theorem Z4:∀ p q:List Za,cmpP q p = - cmpP p q
 | [],[]=>rfl
 | [],_::_=>rfl
 | _::_,[]=>rfl
 | s::p,t::q=>by
  unfold cmpP
  rw[ZeI s t,Z4 p q]
  by_cases h:cmpT s t=0
  .rw[if_pos h,if_pos (by omega)]
  rw[if_neg h,if_neg (by omega)]
theorem Zby:∀ a b c:List Za,cmpP a b<=0->cmpP b c<=0->cmpP a c<=0/\((cmpP a b<0\/cmpP b c<0)->cmpP a c<0)
 | [],[],[],h1,h2=>⟨by decide,fun h=>by rcases h with h|h <;> exact absurd h (by decide)⟩
 | [],[],_::_,h1,h2=>⟨by simp[cmpP],fun _=>by simp[cmpP]⟩
 | [],_::_,[],h1,h2=>by simp[cmpP] at h2
 | [],_::_,_::_,h1,h2=>⟨by simp[cmpP],fun _=>by simp[cmpP]⟩
 | _::_,[],_,h1,h2=>by simp[cmpP] at h1
 | _::_,_::_,[],h1,h2=>by simp[cmpP] at h2
 | s::a,t::b,u::c,h1,h2=>by
  have n1:=ZeI s t
  have ih:=Zby a b c
  have tr:=Zdp s t u
  have tr1:=Zdp t s u
  have tr2:=Zdp s u t
  have n2:=ZeI t u
  have n3:=ZeI s u
  simp only[cmpP] at *
  by_cases e1:cmpT s t=0
  .rw[if_pos e1] at h1 ⊢
   by_cases e2:cmpT t u=0
   .rw[if_pos e2] at h2 ⊢
    have h3:cmpT s u=0:=by
     have q1:=(tr (by omega) (by omega)).1
     have q2:=(Zdp u t s (by omega) (by omega)).1
     omega
    rw[if_pos h3]
    exact ih h1 h2
   rw[if_neg e2] at h2 ⊢
   have q1:=(tr (by omega) h2).2 (.inr (by omega))
   rw[if_neg (by omega)]
   exact⟨by omega,fun _=>q1⟩
  rw[if_neg e1] at h1 ⊢
  have e2:cmpT t u<=0:=by
   by_cases e2:cmpT t u=0
   .omega
   rw[if_neg e2] at h2; exact h2
  have q1:=(tr h1 e2).2 (.inl (by omega))
  rw[if_neg (by omega)]
  exact⟨by omega,fun _=>q1⟩
theorem Zc1(p:List Za):cmpP p p=0:=by have:=Z4 p p; omega
theorem Zg7{t:Za}{p:List Za}(h:goodP (t::p)=true):goodC t.c=true/\goodP p=true:=by
 unfold goodP at *
 simp only[Bool.and_eq_true,decide_eq_true_eq,List.length_cons,List.all_cons] at h ⊢
 exact⟨h.2.1,by omega,h.2.2⟩
theorem Zfi:∀ {p q:List Za},goodP p=true->goodP q=true->cmpP p q=0->p=q
 | [],[],_,_,_=>rfl
 | [],_::_,_,_,h=>by simp[cmpP] at h
 | _::_,[],_,_,h=>by simp[cmpP] at h
 | s::p,t::q,hp,hq,h=>by
  obtain⟨p1,p2⟩:=Zg7 hp
  obtain⟨q1,q2⟩:=Zg7 hq
  simp only[cmpP] at h
  by_cases e:cmpT s t=0
  .rw[if_pos e] at h
   rw[ZkO p1 q1 e,Zfi p2 q2 h]
  rw[if_neg e] at h; exact absurd h e
abbrev GoodQ:={ p:List Za // goodP p=true }
theorem swoP:Go.Sort.SWO (Go.Proofs.ltOf fun a b:GoodQ=>cmpP a.1 b.1) where
 irrefl x:=by show decide (cmpP x.1 x.1<0)=false; rw[Zc1]; rfl
 trans x y z h1 h2:=by
  simp only[Go.Proofs.ltOf,decide_eq_true_eq] at *
  exact (Zby x.1 y.1 z.1 (by omega) (by omega)).2 (.inl h1)
 ntrans x y z h1 h2:=by
  simp only[Go.Proofs.ltOf,decide_eq_false_iff_not,Int.not_lt] at *
  have n1:=Z4 x.1 y.1
  have n2:=Z4 y.1 z.1
  have n3:=Z4 x.1 z.1
  have:=(Zby z.1 y.1 x.1 (by omega) (by omega)).1
  omega
theorem Zgz(x:List Za):∀ l,(inP x l).Perm (x::l)
 | []=>List.Perm.refl _
 | y::l=>by
  unfold inP
  split
  .exact ((Zgz x l).cons y).trans (List.Perm.swap x y l)
  exact List.Perm.refl _
theorem ZaO:∀ l,(ordP l).Perm l
 | []=>List.Perm.refl _
 | x::l=>(Zgz x (ordP l)).trans ((ZaO l).cons x)
theorem Zg9(x:List Za):∀ l,l.Pairwise (fun a b=>cmpP a b<=0)->(inP x l).Pairwise (fun a b=>cmpP a b<=0)
 | [],_=>List.pairwise_singleton _ _
 | y::l,h=>by
  unfold inP
  obtain⟨h1,h2⟩:=List.pairwise_cons.1 h
  have n:=Z4 x y
  split
  .refine List.pairwise_cons.2 ⟨fun z hz=>?_,Zg9 x l h2⟩
   rcases List.mem_cons.1 ((Zgz x l).mem_iff.1 hz) with rfl|hz
   .omega
   exact h1 z hz
  refine List.pairwise_cons.2 ⟨fun z hz=>?_,h⟩
  rcases List.mem_cons.1 hz with rfl|hz
  .omega
  exact (Zby x y z (by omega) (h1 z hz)).1
theorem Zei:∀ l,(ordP l).Pairwise (fun a b=>cmpP a b<=0)
 | []=>List.Pairwise.nil
 | x::l=>Zg9 x _ (Zei l)
theorem Zgk:∀ {l m:List (List Za)},l.Perm m->(∀ p ∈ l,goodP p=true)->l.Pairwise (fun a b=>cmpP a b<=0)->m.Pairwise (fun a b=>cmpP a b<=0)->l=m
 | [],m,h,_,_,_=>(List.Perm.nil_eq h)
 | x::l,[],h,_,_,_=>by have:=h.length_eq; simp at this
 | x::l,y::m,h,hg,h1,h2=>by
  obtain⟨a1,a2⟩:=List.pairwise_cons.1 h1
  obtain⟨b1,b2⟩:=List.pairwise_cons.1 h2
  have e:x=y:=by
   have hx:x ∈ y::m:=h.mem_iff.1 (by simp)
   have hy:y ∈ x::l:=h.mem_iff.2 (by simp)
   have q1:cmpP x y<=0:=by
    rcases List.mem_cons.1 hy with rfl|hy
    .rw[Zc1]; exact Int.le_refl 0
    exact a1 y hy
   have q2:cmpP y x<=0:=by
    rcases List.mem_cons.1 hx with rfl|hx
    .rw[Zc1]; exact Int.le_refl 0
    exact b1 x hx
   have n:=Z4 x y
   exact Zfi (hg x (by simp)) (hg y hy) (by omega)
  subst e
  rw[Zgk (List.Perm.cons_inv h) (fun p hp=>hg p (by simp[hp])) a2 b2]
theorem ZlN{s t:Za}(hs:goodC s.c=true)(ht:goodC t.c=true):(ZaF s t).Ret (cmpT s t):=by
 unfold ZaF cmpT
 by_cases h:s.m=t.m
 .rw[if_pos h]
  exact Cq.wp.no (by simpa using h) ⟨_,Ziw hs ht,rfl⟩
 rw[if_neg h]
 exact Cq.wp.yes h ⟨_,ZaS _ _,rfl⟩
theorem ZeL{p:List Za}(h:goodP p=true){k:Nat}(hk:k<p.length):goodC p[k].c=true:=by
 unfold goodP at h
 simp only[Bool.and_eq_true] at h
 exact List.all_eq_true.1 h.2 _ (List.getElem_mem hk)
theorem Zd1{p:List Za}(h:goodP p=true):p.length<=1000:=by
 unfold goodP at h
 simp only[Bool.and_eq_true,decide_eq_true_eq] at h
 exact h.1
theorem ZhL(p q:List Za){k:Nat}(hp:k<p.length)(hq:k<q.length):cmpP (p.drop k) (q.drop k)=if cmpT p[k] q[k]=0 then cmpP (p.drop (k+1)) (q.drop (k+1)) else cmpT p[k] q[k]:=by
 rw[List.drop_eq_getElem_cons hp,List.drop_eq_getElem_cons hq]
 rfl
theorem Zim{p q:List Za}(hp:goodP p=true)(hq:goodP q=true):(ZcO p q).Ret (cmpP p q):=by
 have lp:=Zd1 hp
 have lq:=Zd1 hq
 refine⟨cmpP p q,?_,rfl⟩
 unfold Zr
 refine (Zw p q 0).mono (p:=fun o=>match o with | .inl v=>v=cmpP p q | .inr ()=>q.length ≥ p.length/\cmpP p q=cmpP [] (q.drop p.length)) (fun o h=>?_) (Cq.Zn p.length (fun k s=>s=(k:Int)/\k<=p.length/\k<=q.length/\cmpP p q=cmpP (p.drop k) (q.drop k)) ?_ ?_ ⟨rfl,Nat.zero_le _,Nat.zero_le _,rfl⟩)
 .match o,h with
  | .inl v,h=>exact h
  | .inr (),⟨h1,h2⟩=>
   show (Zl p q).Ret _
   unfold Zl
   by_cases hl:p.length<q.length
   .refine Cq.wp.yes (by omega) ?_
    show (-1:Int)=_
    rw[h2,List.drop_eq_getElem_cons hl]; rfl
   refine Cq.wp.no (by omega) ?_
   show (0:Int)=_
   rw[h2,List.drop_eq_nil_of_le (by omega)]; rfl
 .rintro k s hk ⟨rfl,h1,h2,h3⟩
  refine Cq.wp.yes (by omega) ⟨_,idxN hk,?_⟩
  by_cases hq2:k<q.length
  .refine Cq.wp.no (by omega) ⟨_,idxN hq2,_,ZlN (ZeL hp hk) (ZeL hq hq2),?_⟩
   have hd:=ZhL p q hk hq2
   by_cases e:cmpT p[k] q[k]=0
   .rw[if_pos e] at hd
    refine Cq.wp.no (by omega) ?_
    exact⟨wrapN (by omega),by omega,by omega,h3.trans hd⟩
   rw[if_neg e] at hd
   refine Cq.wp.yes e ?_
   exact (h3.trans hd).symm
  refine Cq.wp.yes (by omega) ?_
  show (1:Int)=_
  rw[h3,List.drop_eq_getElem_cons hk,List.drop_eq_nil_of_le (show q.length<=k by omega)]; rfl
 rintro s ⟨rfl,h1,h2,h3⟩
 refine Cq.wp.no (by omega) ?_
 refine⟨h2,?_⟩
 rw[h3,List.drop_eq_nil_of_le (Nat.le_refl _)]
theorem ZhM(y:List Za):∀ (x:List Za) (l:List (List Za)),dedG x (l++[y])=dedG x l++(if cmpP y (l.getLastD x)=0 then [] else [y])
 | x,[]=>by
  show dedG x [y]=_
  unfold dedG
  by_cases h:cmpP y x=0
  .rw[if_pos h]; simp[h,dedG]
  rw[if_neg h]; simp[h,dedG]
 | x,z::l=>by
  have ih:=ZhM y z l
  show dedG x (z::(l++[y]))=_
  have e:(z::l).getLastD x=l.getLastD z:=by cases l <;> simp[List.getLastD]
  rw[e]
  simp only[dedG]
  split
  .exact ih
  rw[ih]; rfl
theorem ZhN{xs:List (List Za)}{j:Nat}(h0:1<=j)(hj:j<xs.length):dedP (xs.take (j+1))=if cmpP xs[j] xs[j-1]=0 then dedP (xs.take j) else dedP (xs.take j)++[xs[j]]:=by
 match xs,hj with
 | x::l,hj=>
  obtain⟨i,rfl⟩:∃ i,j=i+1:=⟨j-1,by omega⟩
  have hi:i<l.length:=by simpa using hj
  rw[List.take_succ_eq_append_getElem hj]
  simp only[List.take_succ_cons,List.cons_append,dedP,ZhM,List.getElem_cons_succ,Nat.add_sub_cancel]
  have e:(l.take i).getLastD x=(x::l)[i]:=by
   cases i with
   | zero=>rfl
   | succ i=>
    rw[List.getLastD_eq_getLast?,List.getLast?_eq_getElem?,List.length_take]
    rw[show min (i+1) l.length-1=i by omega,List.getElem?_take_of_lt (by omega),List.getElem?_eq_getElem (by omega)]
    rfl
  rw[e]
  split <;> simp
theorem ZiD:∀ {xs:List (List Za)},(dedP xs).length<=xs.length
 | []=>Nat.le_refl _
 | x::l=>by
  have key:∀ (x:List Za) (l:List (List Za)),(dedG x l).length<=l.length:=by
   intro x l
   induction l generalizing x with
   | nil=>exact Nat.le_refl _
   | cons y l ih=>
    unfold dedG
    split
    .exact Nat.le_succ_of_le (ih y)
    simpa using ih y
  simpa [dedP] using key x l
theorem Zg5{xs:List (List Za)}(h:xs.length<2):dedP xs=xs:=by
 match xs,h with
 | [],_=>rfl
 | [x],_=>rfl
theorem ZkK{s t:Za}(hs:goodC s.c=true)(ht:goodC t.c=true):(Zav s t).Ret (decide (cmpT s t=0)):=by
 unfold Zav cmpT
 by_cases h:s.m=t.m
 .simp only[if_pos h]
  exact⟨_,Ziw hs ht,rfl⟩
 simp only[if_neg h]
 show false=_
 have:¬ cmpM s.m t.m=0:=fun e=>h (Zbh e)
 simp[this]
theorem ZiC:∀ {p q:List Za},cmpP p q=0->p.length=q.length
 | [],[],_=>rfl
 | [],_::_,h=>by simp[cmpP] at h
 | _::_,[],h=>by simp[cmpP] at h
 | s::p,t::q,h=>by
  simp only[cmpP] at h
  split at h
  .simp[ZiC h]
  rename_i h'; exact absurd h h'
theorem Ze7{p q:List Za}(hp:goodP p=true)(hq:goodP q=true):(Zcu p q).Ret (decide (cmpP p q=0)):=by
 have lp:=Zd1 hp
 have lq:=Zd1 hq
 refine⟨decide (cmpP p q=0),?_,rfl⟩
 unfold Zs
 by_cases hl:p.length=q.length
 .refine Cq.wp.no (by omega) ?_
  refine (Zx p q 0).mono (p:=fun o=>match o with | .inl v=>v=decide (cmpP p q=0) | .inr ()=>cmpP p q=0) (fun o h=>?_) (Cq.Zn p.length (fun k s=>s=(k:Int)/\k<=p.length/\cmpP p q=cmpP (p.drop k) (q.drop k)) ?_ ?_ ⟨rfl,Nat.zero_le _,rfl⟩)
  .match o,h with
   | .inl v,h=>exact h
   | .inr (),h=>show true=_; rw[decide_eq_true h]
  .rintro k s hk ⟨rfl,h1,h3⟩
   have hq2:k<q.length:=by omega
   refine Cq.wp.yes (by omega) ⟨_,idxN hk,_,idxN hq2,_,ZkK (ZeL hp hk) (ZeL hq hq2),?_⟩
   have hd:=ZhL p q hk hq2
   by_cases e:cmpT p[k] q[k]=0
   .rw[if_pos e] at hd
    rw[decide_eq_true e]
    exact⟨wrapN (by omega),by omega,h3.trans hd⟩
   rw[if_neg e] at hd
   rw[decide_eq_false e]
   show false=_
   rw[h3,hd,decide_eq_false e]
  rintro s ⟨rfl,h1,h3⟩
  refine Cq.wp.no (by omega) ?_
  show cmpP p q=0
  rw[h3,List.drop_eq_nil_of_le (Nat.le_refl _),List.drop_eq_nil_of_le (by omega)]
  rfl
 refine Cq.wp.yes (by omega) ?_
 show false=_
 rw[decide_eq_false (fun h=>hl (ZiC h))]
theorem ZlV:(between 0 100 fun n=>match (Z3 (u64.wrap n)).ev 30 with|some v=>decide (0<=v/\v<1000000)|none=>false)=true:=by decide +kernel
theorem ZlW{n:Nat}(h:n<=100):∃ v,(Z3 (u64.wrap (n:Int))).Ret v/\0<=v/\v<1000000:=by
 have:=Zy ZlV (show (0:Int)<=(n:Int) by omega) (show (n:Int)<=100 by omega)
 cases he:(Z3 (u64.wrap (n:Int))).ev 30 with
 | none=>rw[he] at this; cases this
 | some v=>rw[he] at this; exact⟨v,Cq.Ret.Zo 30 he,of_decide_eq_true this⟩
end Go.EL

namespace Go.EL
open Go.IntKind (i8 i16 i32 i64 u8 u16 u32 u64)
open Go Go.RowKit
structure TermOk (t:Za):Prop where
 c:∃ c:Int,t.c=ratI c/\c≠0/\-12<=c/\c<=12
 m:Ok t.m
structure PolOk (p:List Za):Prop where
 ord:p.Pairwise fun x y=>0<cmpM x.m y.m
 trm:∀ t ∈ p,TermOk t
 len:p.length<=100
theorem TermOk.pv{t:Za}(h:TermOk t):(ZaK t.c).Ret true:=by
 obtain⟨⟨c,e,h0,h1,h2⟩,_⟩:=h
 have:=Zy Zkw (x:=c) (by omega) (by omega)
 rw[e]
 exact ZM (by simpa [h0] using this)
theorem TermOk.ps{t:Za}(h:TermOk t):∃ s,(ZA t.c).Ret s/\s≠0:=by
 obtain⟨⟨c,e,h0,h1,h2⟩,_⟩:=h
 have:=Zy Zh6 (x:=c) (by omega) (by omega)
 rw[e]
 refine⟨_,ZM (by simpa [h0] using this),?_⟩
 split <;> first|omega|(split <;> omega)
theorem PolOk.at{p:List Za}(h:PolOk p){k:Nat}(hk:k<p.length):TermOk p[k]:=h.trm _ (List.getElem_mem hk)
theorem PolOk.step{p:List Za}(h:PolOk p){k:Nat}(hk:k+1<p.length):0<cmpM p[k].m p[k+1].m:=List.pairwise_iff_getElem.1 h.ord k (k+1) (by omega) hk (by omega)
theorem Zcv{p:List Za}(h:PolOk p):(Zam p).Ret true:=by
 have hl:=h.len
 refine Cq.Zn p.length (fun k s=>s=(k:Int)) (fun k s hk hs=>?_) (fun s hs=>?_) rfl
 .subst hs
  have ht:=h.at hk
  obtain⟨s,h1,h2⟩:=ht.ps
  refine Cq.wp.yes (p:=(k:Int)<(p.length:Int)) (by omega) ?_
  refine⟨p[k],idxN hk,true,ht.pv,s,h1,?_⟩
  rw[Cq.Zi,if_neg h2]
  refine⟨true,Zfc ht.m,?_⟩
  rw[Cq.Zi,if_neg (by decide)]
  show (ZX p (k:Int) p[k]).wp _
  unfold ZX
  rw[Cq.Zi]
  split
  .rename_i h0
   obtain⟨j,rfl⟩:∃ j,k=j+1:=⟨k-1,by omega⟩
   have hj:i64.wrap (((j+1:Nat):Int)-1)=(j:Int):=by rw[wrap64 (by omega)]; omega
   rw[hj]
   refine⟨p[j],idxN (by omega),_,ZaS _ _,?_⟩
   have:=h.step hk
   rw[Cq.Zi,if_neg (by omega)]
   exact wrapN (by omega)
  exact wrapN (by omega)
 subst hs
 refine Cq.wp.no (p:=((p.length:Nat):Int)<(p.length:Int)) (by omega) ?_
 rfl
def usesTo(p:List Za):Nat->Int
 | 0=>0
 | k+1=>u8.wrap (BitVec.ofInt u8.bits (usesTo p k) ||| BitVec.ofInt u8.bits (match p[k]? with|some t=>suppM t.m|none=>0)).toNat
def usesP(p:List Za):Int:=usesTo p p.length
def degPTo(p:List Za):Nat->Int
 | 0=>-1
 | k+1=>match p[k]? with|some t=>if degPTo p k<degM t.m then degM t.m else degPTo p k|none=>degPTo p k
def degP(p:List Za):Int:=degPTo p p.length
theorem Zgr{p:List Za}(hl:p.length<=100):(Zba p).Ret (usesP p):=by
 refine Cq.Zn p.length (fun k s=>s=(usesTo p k,(k:Int))) (fun k s hk hs=>?_) (fun s hs=>?_) rfl
 .subst hs
  refine Cq.wp.yes (p:=(k:Int)<(p.length:Int)) (by omega) ?_
  refine⟨p[k],idxN hk,_,Zjs _,?_⟩
  show _=_
  rw[wrapN (by omega)]
  simp only[usesTo,List.getElem?_eq_getElem hk]
 subst hs
 refine Cq.wp.no (p:=((p.length:Nat):Int)<(p.length:Int)) (by omega) ?_
 rfl
theorem ZbO{p:List Za}(h:PolOk p):(ZK p).Ret (degP p):=by
 have hl:=h.len
 refine Cq.Zn p.length (fun k s=>s=(degPTo p k,(k:Int))) (fun k s hk hs=>?_) (fun s hs=>?_) rfl
 .subst hs
  refine Cq.wp.yes (p:=(k:Int)<(p.length:Int)) (by omega) ?_
  refine⟨p[k],idxN hk,_,ZgQ (h.at hk).m,?_⟩
  show _=_
  rw[wrapN (by omega)]
  simp only[degPTo,List.getElem?_eq_getElem hk]
 subst hs
 refine Cq.wp.no (p:=((p.length:Nat):Int)<(p.length:Int)) (by omega) ?_
 rfl
end Go.EL

namespace Go.EL
open Go.IntKind (i8 i16 i32 i64 u8 u16 u32 u64)
open Go Go.RowKit
def fitB(p:List Za)(n:Int):Bool:=if (Int.fdiv (i64.wrap (usesP p)) (2 ^ (min (n).toNat i64.bits)))=0 then decide (degP p<=12) else false
theorem Zcz{p:List Za}(h:PolOk p){n:Int}(hn:0<=n):(ZbU p n).Ret (fitB p n):=by
 refine⟨true,Zcv h,_,Zgr h.len,hn,?_⟩
 unfold fitB
 rw[Cq.Zi]
 split
 .exact⟨_,ZbO h,rfl⟩
 rfl
theorem Zho(a:M):∀ k:Nat,k<=8->∀ i:Fin 8,(suppTo a k).toNat.testBit i.val=(decide (i.val<k) && decide (0<a i))
 | 0,_,i=>by simp[suppTo]
 | k+1,hk,i=>by
  have ih:=Zho a k (by omega) i
  have hb:=Zd7 a k
  have hk':k<8:=by omega
  rw[Zeo] at hb
  simp only[suppTo,dif_pos hk']
  by_cases hi:i.val=k
  .have e:i=⟨k,hk'⟩:=Fin.ext hi
   subst e
   by_cases hp:0<a ⟨k,hk'⟩
   .rw[if_pos hp,Zeo,show (suppTo a k+((2 ^ k:Nat):Int)).toNat=2 ^ k+(suppTo a k).toNat by omega,Nat.testBit_two_pow_add_eq,Nat.testBit_lt_two_pow (by omega)]
    simp[hp]
   rw[if_neg hp,Int.add_zero]
   show (suppTo a k).toNat.testBit k=_
   rw[Nat.testBit_lt_two_pow (by omega)]
   simp[hp]
  have e1:(decide (i.val<k+1))=decide (i.val<k):=by
   by_cases h:i.val<k
   .simp[h,show i.val<k+1 by omega]
   simp[h,show ¬ i.val<k+1 by omega]
  rw[e1,<- ih]
  by_cases hp:0<a ⟨k,hk'⟩
  .rw[if_pos hp,Zeo,show (suppTo a k+((2 ^ k:Nat):Int)).toNat=2 ^ k+(suppTo a k).toNat by omega]
   by_cases h:i.val<k
   .rw[Nat.testBit_two_pow_add_gt h]
   rw[Nat.testBit_lt_two_pow (x:=(suppTo a k).toNat) (Nat.lt_of_lt_of_le (by omega:(suppTo a k).toNat<2 ^ k) (Nat.pow_le_pow_right (by omega) (by omega)))]
   refine Nat.testBit_lt_two_pow (Nat.lt_of_lt_of_le (by have:=hb.2; omega:2 ^ k+(suppTo a k).toNat<2 ^ (k+1)) (Nat.pow_le_pow_right (by omega) (by omega)))
  rw[if_neg hp,Int.add_zero]
theorem Zlz(a:M)(i:Fin 8):(suppM a).toNat.testBit i.val=decide (0<a i):=by
 unfold suppM
 rw[Zho a 8 (by omega)]
 simp[i.isLt]
theorem Zjc(a:M):0<=suppM a/\suppM a<256:=Zd7 a 8
theorem ZmH{a b:Nat}(ha:a<256)(hb:b<256):u8.wrap (BitVec.ofInt u8.bits (a:Int) ||| BitVec.ofInt u8.bits (b:Int)).toNat=((a ||| b:Nat):Int):=by
 have h:(BitVec.ofInt u8.bits (a:Int) ||| BitVec.ofInt u8.bits (b:Int)).toNat=a ||| b:=by
  rw[BitVec.toNat_or]
  simp only[IntKind.bits,BitVec.toNat_ofInt]
  rw[show (((a:Int) % ((2 ^ 8:Nat):Int)).toNat)=a by omega,show (((b:Int) % ((2 ^ 8:Nat):Int)).toNat)=b by omega]
 have h2:a ||| b<256:=Nat.or_lt_two_pow (n:=8) ha hb
 rw[h]
 simp only[IntKind.wrap,IntKind.bits,IntKind.signed,Bool.false_and,Bool.false_eq_true,if_false]
 omega
def usesN(p:List Za):Nat->Nat
 | 0=>0
 | k+1=>usesN p k ||| (match p[k]? with|some t=>(suppM t.m).toNat|none=>0)
theorem ZgP(p:List Za):∀ k,usesN p k<256
 | 0=>by simp[usesN]
 | k+1=>by
  refine Nat.or_lt_two_pow (n:=8) (ZgP p k) ?_
  split
  .rename_i t _
   have h:(suppM t.m).toNat<256:=by have:=Zjc t.m; omega
   exact h
  decide
theorem Zhr(p:List Za):∀ k,usesTo p k=(usesN p k:Int)
 | 0=>rfl
 | k+1=>by
  have h1:=ZgP p k
  unfold usesTo usesN
  rw[Zhr p k]
  cases p[k]? with
  | none=>exact ZmH (b:=0) h1 (by omega)
  | some t=>
   have h:=Zjc t.m
   obtain⟨n,hn⟩:=Int.eq_ofNat_of_zero_le h.1
   show u8.wrap (BitVec.ofInt u8.bits (usesN p k:Int) ||| BitVec.ofInt u8.bits (suppM t.m)).toNat=((usesN p k ||| (suppM t.m).toNat:Nat):Int)
   rw[hn]
   exact ZmH h1 (by omega)
theorem Zib(p:List Za)(i:Fin 8):∀ k,(usesN p k).testBit i.val=(p.take k).any fun t=>decide (0<t.m i)
 | 0=>by simp[usesN]
 | k+1=>by
  simp only[usesN,Nat.testBit_or,Zib p i k]
  cases h:p[k]? with
  | none=>
   have:p.length<=k:=List.getElem?_eq_none_iff.1 h
   simp[List.take_of_length_le this,List.take_of_length_le (show p.length<=k+1 by omega)]
  | some t=>
   rw[List.take_add_one,h]
   simp[Zlz]
theorem Zid(p:List Za):usesP p=(usesN p p.length:Int):=Zhr p _
theorem Zic(p:List Za)(i:Fin 8):(usesP p).toNat.testBit i.val=p.any fun t=>decide (0<t.m i):=by
 rw[Zid,Int.toNat_natCast,Zib,List.take_length]
theorem Zje(p:List Za):0<=usesP p/\usesP p<256:=by have:=ZgP p p.length; rw[Zid]; omega
theorem Zl3(u n:Nat):Int.fdiv (u:Int) ((2:Int) ^ n)=((u >>> n:Nat):Int):=by
 rw[Nat.shiftRight_eq_div_pow,show ((2:Int) ^ n)=((2 ^ n:Nat):Int) by simp,Int.fdiv_eq_ediv_of_nonneg _ (Int.natCast_nonneg _)]
 simp
theorem Zkz(p:List Za){n:Int}(h0:0<=n)(h8:n<=8):Int.fdiv (i64.wrap (usesP p)) (2 ^ (min (n).toNat i64.bits))=(((usesP p).toNat >>> n.toNat:Nat):Int):=by
 have:=Zje p
 rw[wrap64 (by omega),show min n.toNat i64.bits=n.toNat by simp only[IntKind.bits]; omega]
 obtain⟨u,hu⟩:=Int.eq_ofNat_of_zero_le this.1
 rw[hu]
 exact Zl3 u _
theorem ZhO(p:List Za)(d:Int)(hd:-1<=d):∀ k,k<=p.length->(degPTo p k<=d↔∀ i (h:i<p.length),i<k->degM p[i].m<=d)
 | 0,_=>by simp[degPTo,hd]
 | k+1,hk=>by
  have ih:=ZhO p d hd k (by omega)
  have hk':k<p.length:=by omega
  simp only[degPTo,List.getElem?_eq_getElem hk']
  constructor
  .intro h i hi hik
   by_cases e:i=k
   .subst e; split at h <;> omega
   refine ih.1 ?_ i hi (by omega)
   split at h <;> omega
  intro h
  have h1:=h k hk' (by omega)
  have h2:=ih.2 fun i hi hik=>h i hi (by omega)
  split <;> omega
theorem Zdu{p:List Za}{d:Int}(hd:-1<=d):degP p<=d↔∀ t ∈ p,degM t.m<=d:=by
 unfold degP
 rw[ZhO p d hd p.length (by omega)]
 constructor
 .intro h t ht
  obtain⟨i,hi,rfl⟩:=List.mem_iff_getElem.1 ht
  exact h i hi hi
 intro h i hi _
 exact h _ (List.getElem_mem hi)
def Within(n:Nat)(p:List Za):Prop:=∀ t ∈ p,∀ i:Fin 8,n<=i.val->¬ 0<t.m i
theorem Zhs{p:List Za}{n:Nat}:((usesP p).toNat >>> n=0)↔Within n p:=by
 have hb:=Zje p
 constructor
 .intro h t ht i hi hp
  have h1:=Zic p i
  rw[show (p.any fun t=>decide (0<t.m i))=true from List.any_eq_true.2 ⟨t,ht,decide_eq_true hp⟩] at h1
  have h2:((usesP p).toNat >>> n).testBit (i.val-n)=true:=by rw[Nat.testBit_shiftRight,show n+(i.val-n)=i.val by omega]; exact h1
  rw[h] at h2
  simp at h2
 intro h
 refine Nat.eq_of_testBit_eq fun j=>?_
 rw[Nat.testBit_shiftRight,Nat.zero_testBit]
 by_cases hj:n+j<8
 .rw[Zic p ⟨n+j,hj⟩]
  refine List.any_eq_false.2 fun t ht=>?_
  simp only[decide_eq_true_eq]
  exact h t ht _ (by simp)
 exact Nat.testBit_lt_two_pow (Nat.lt_of_lt_of_le (show (usesP p).toNat<2 ^ 8 by omega) (Nat.pow_le_pow_right (by omega) (by omega)))
theorem ZcH{p:List Za}{n:Nat}(hn:n<=8):fitB p (n:Int)=true↔Within n p/\∀ t ∈ p,degM t.m<=12:=by
 unfold fitB
 rw[Zkz p (by omega) (by omega),Int.toNat_natCast]
 by_cases h:(usesP p).toNat >>> n=0
 .rw[if_pos (by rw[h]; rfl),decide_eq_true_eq,Zdu (by omega)]
  exact⟨fun k=>⟨Zhs.1 h,k⟩,fun k=>k.2⟩
 rw[if_neg (by omega)]
 exact⟨fun k=>absurd k (by decide),fun k=>absurd (Zhs.2 k.1) h⟩
end Go.EL

namespace Go.EL
open Go.IntKind (i8 i16 i32 i64 u8 u16 u32 u64)
open Go Go.RowKit
def valR(r:Zf):Int:=if r.num.neg=true then -(r.num.mag.headD 0) else r.num.mag.headD 0
theorem ZfL(c:Int):valR (ratI c)=c:=by
 unfold valR ratI
 by_cases h:c<0
 .simp[h,show ¬ c=0 by omega]; omega
 by_cases h0:c=0
 .simp[h0]
 simp[h,h0]; omega
def addT:List Za->Za->List Za
 | [],t=>[t]
 | x::xs,t=>if 0<cmpM x.m t.m then x::addT xs t else if cmpM x.m t.m<0 then t::x::xs else if valR x.c+valR t.c=0 then xs else ⟨ratI (valR x.c+valR t.c),x.m⟩::xs
theorem Zf6:∀ (p:List Za) (t:Za),(addT p t).length<=p.length+1
 | [],_=>by simp[addT]
 | x::xs,t=>by
  have ih:=Zf6 xs t
  simp only[addT]
  split
  .simp; omega
  split
  .simp
  split <;> simp; omega
theorem Zfd:∀ (k:Nat) (p:List Za) (t:Za),k<=p.length->(∀ x ∈ p.take k,0<cmpM x.m t.m)->addT p t=p.take k++addT (p.drop k) t
 | 0,p,t,_,_=>by simp
 | k+1,[],t,h,_=>by simp at h
 | k+1,x::xs,t,h,hx=>by
  have h1:0<cmpM x.m t.m:=hx x (by simp)
  rw[addT,if_pos h1,Zfd k xs t (by simpa using h) (fun y hy=>hx y (by simp[hy]))]
  simp
def Near(p:List Za)(t:Za):Prop:=∀ x ∈ p,x.m=t.m->∃ a b,x.c=ratI a/\t.c=ratI b/\-12<=a/\a<=12/\-3<=b/\b<=3
theorem Zmj{p:List Za}{t x:Za}(h:Near p t)(hx:x ∈ p)(hm:x.m=t.m):(ZfN x.c t.c).Ret (ratI (valR x.c+valR t.c))/\∃ s,(Zaz (ratI (valR x.c+valR t.c))).Ret s/\(s=0↔valR x.c+valR t.c=0):=by
 obtain⟨a,b,e1,e2,h1,h2,h3,h4⟩:=h x hx hm
 rw[e1,e2,ZfL,ZfL]
 have k1:=Zy (Zy ZmL h1 h2) h3 h4
 have k2:=Zy Zi9 (x:=a+b) (by omega) (by omega)
 refine⟨ZM k1,_,ZM k2,?_⟩
 split
 .omega
 split <;> omega
theorem Zjl{p:List Za}(hl:p.length<=100):(ZcD p []).Ret p:=by
 show (Cq.next _ _).wp _
 refine Cq.Zn p.length (fun k s=>s=(p.take k,(k:Int),0)) (fun k s hk hs=>?_) (fun s hs=>?_) (by simp)
 .subst hs
  refine Cq.wp.yes (p:=(k:Int)<(p.length:Int)) (by omega) ?_
  unfold ZaQ
  rw[Cq.Zi,if_pos (by simp)]
  unfold Zat
  rw[Cq.Zi,if_pos rfl]
  refine⟨p[k],idxN hk,by simp[small]; omega,?_⟩
  show _=_
  rw[wrapN (by omega),List.take_append_getElem hk]
 subst hs
 show (if ((p.length:Nat):Int)<(p.length:Int) then _ else _:Cq _).wp _
 rw[Cq.Zi,if_neg (by omega),Cq.Zi,if_neg (by simp)]
 exact List.take_length
theorem Zjm{p:List Za}{t:Za}(hl:p.length<=100)(hn:Near p t):(ZcD p [t]).Ret (addT p t):=by
 show (Cq.next _ _).wp _
 refine Cq.ZgC (fun s=>(∃ i:Nat,i<=p.length/\s=(p.take i,(i:Int),0)/\∀ x ∈ p.take i,0<cmpM x.m t.m)\/(∃ i:Nat,∃ out:List Za,i<=p.length/\s=(out,(i:Int),1)/\out++p.drop i=addT p t/\out.length<=i+1))
  (fun s=>(p.length-s.2.1.toNat)+(1-s.2.2.toNat)) (fun s hs=>?_) _ (.inl ⟨0,by omega,by simp,by simp⟩)
 have hw:i64.wrap 1=1:=by decide
 rcases hs with ⟨i,hi,rfl,hx⟩|⟨i,out,hi,rfl,ho,hlo⟩
 .by_cases hil:i<p.length
  .refine Cq.wp.yes (p:=(i:Int)<(p.length:Int)) (by omega) ?_
   unfold ZaQ
   rw[Cq.Zi,if_neg (by simp),Cq.Zi,if_pos (by omega)]
   refine⟨p[i],idxN hil,t,⟨by omega,rfl⟩,_,Zf2 _ _,?_⟩
   unfold Zat
   rw[Cq.Zi]
   have hadd:addT p t=p.take i++addT (p.drop i) t:=Zfd i p t hi hx
   have hdrop:p.drop i=p[i]::p.drop (i+1):=List.drop_eq_getElem_cons hil
   by_cases hc:0<cmpM p[i].m t.m
   .rw[if_pos (decide_eq_true hc)]
    refine⟨p[i],idxN hil,by simp[small]; omega,?_⟩
    rw[wrapN (by omega),List.take_append_getElem hil]
    refine⟨.inl ⟨i+1,by omega,rfl,fun x hx'=>?_⟩,by simp; omega⟩
    rw[<- List.take_append_getElem hil] at hx'
    rcases List.mem_append.1 hx' with h|h
    .exact hx x h
    rw[List.mem_singleton] at h; subst h; exact hc
   rw[if_neg (by simpa using hc)]
   show (Zcj p [t] 0 (p.take i) (i:Int)).wp _
   unfold Zcj
   rw[Cq.Zi,if_neg (by omega)]
   refine⟨p[i],idxN hil,t,⟨by omega,rfl⟩,_,Zf2 _ _,?_⟩
   unfold Zci
   rw[Cq.Zi]
   by_cases hc2:cmpM p[i].m t.m<0
   .rw[if_pos (decide_eq_true hc2)]
    refine⟨t,⟨by omega,rfl⟩,by simp[small]; omega,?_⟩
    refine⟨.inr ⟨i,_,hi,rfl,?_,by simp; omega⟩,by simp[hw]⟩
    rw[hadd,hdrop,addT,if_neg hc,if_pos hc2]
    simp
   rw[if_neg (by simpa using hc2)]
   have hm:p[i].m=t.m:=Zbh (by omega)
   obtain⟨h1,s,h2,h3⟩:=Zmj hn (List.getElem_mem hil) hm
   unfold ZeF
   refine⟨p[i],idxN hil,t,⟨by omega,rfl⟩,_,h1,s,h2,?_⟩
   rw[Cq.Zi]
   by_cases h0:valR p[i].c+valR t.c=0
   .rw[if_neg (by simpa using h3.2 h0)]
    rw[wrapN (by omega)]
    refine⟨.inr ⟨i+1,_,by omega,rfl,?_,by simp; omega⟩,by simp; omega⟩
    rw[hadd,hdrop,addT,if_neg hc,if_neg hc2,if_pos h0]
   rw[if_pos (fun h=>h0 (h3.1 h))]
   refine⟨p[i],idxN hil,by simp[small]; omega,?_⟩
   rw[wrapN (by omega)]
   refine⟨.inr ⟨i+1,_,by omega,rfl,?_,by simp; omega⟩,by simp; omega⟩
   rw[hadd,hdrop,addT,if_neg hc,if_neg hc2,if_neg h0]
   simp
  obtain rfl:i=p.length:=by omega
  show (if ((p.length:Nat):Int)<(p.length:Int) then _ else _:Cq _).wp _
  rw[Cq.Zi,if_neg (by omega),Cq.Zi,if_pos (by simp)]
  unfold ZaQ
  rw[Cq.Zi,if_neg (by simp),Cq.Zi,if_neg (by omega)]
  unfold Zat
  rw[Cq.Zi,if_neg (by decide)]
  unfold Zcj
  rw[Cq.Zi,if_pos rfl]
  unfold Zci
  rw[Cq.Zi,if_pos rfl]
  refine⟨t,⟨by omega,rfl⟩,by simp[small]; omega,?_⟩
  refine⟨.inr ⟨p.length,_,by omega,rfl,?_,by simp⟩,by simp[hw]⟩
  rw[Zfd p.length p t (by omega) hx,List.drop_length]
  simp[addT]
 by_cases hil:i<p.length
 .refine Cq.wp.yes (p:=(i:Int)<(p.length:Int)) (by omega) ?_
  unfold ZaQ
  rw[Cq.Zi,if_pos (by simp)]
  unfold Zat
  rw[Cq.Zi,if_pos rfl]
  refine⟨p[i],idxN hil,by simp[small]; omega,?_⟩
  rw[wrapN (by omega)]
  refine⟨.inr ⟨i+1,_,by omega,rfl,?_,by simp; omega⟩,by simp; omega⟩
  rw[<- ho,List.drop_eq_getElem_cons hil]
  simp
 obtain rfl:i=p.length:=by omega
 show (if ((p.length:Nat):Int)<(p.length:Int) then _ else _:Cq _).wp _
 rw[Cq.Zi,if_neg (by omega),Cq.Zi,if_neg (by simp)]
 show _=_
 rw[<- ho,List.drop_length,List.append_nil]
end Go.EL

namespace Go.EL
open Go.IntKind (i8 i16 i32 i64 u8 u16 u32 u64)
open Go Go.RowKit
structure IsPerm (π:M):Prop where
 rng:∀ i,0<=π i/\π i<8
 inj:∀ i j,π i=π j->i=j
def permTo(π m:M):Nat->M
 | 0=>fun _=>0
 | k+1=>if h:k<8 then setF (permTo π m k) (π ⟨k,h⟩).toNat (m ⟨k,h⟩) else permTo π m k
def permM(π m:M):M:=permTo π m 8
theorem ZhY{π:M}(h:IsPerm π)(m:M):∀ k,k<=8->∀ i:Fin 8,i.val<k->∀ j:Fin 8,(j.val:Int)=π i->permTo π m k j=m i
 | 0,_,i,hi,_,_=>by omega
 | k+1,hk,i,hi,j,hj=>by
  have hk':k<8:=by omega
  simp only[permTo,dif_pos hk',setF]
  have r:=h.rng ⟨k,hk'⟩
  by_cases e:i.val=k
  .have:i=⟨k,hk'⟩:=Fin.ext e
   subst this
   rw[if_pos (by omega)]
  have hne:π i≠π ⟨k,hk'⟩:=fun he=>e (congrArg Fin.val (h.inj _ _ he))
  rw[if_neg (by omega)]
  exact ZhY h m k (by omega) i (by omega) j hj
theorem Zgg{π:M}(h:IsPerm π)(m:M):∀ k,k<=8->∀ j:Fin 8,(∀ i:Fin 8,i.val<k->π i≠(j.val:Int))->permTo π m k j=0
 | 0,_,_,_=>rfl
 | k+1,hk,j,hj=>by
  have hk':k<8:=by omega
  have r:=h.rng ⟨k,hk'⟩
  have:=hj ⟨k,hk'⟩ (by simp)
  simp only[permTo,dif_pos hk',setF]
  rw[if_neg (by omega)]
  exact Zgg h m k (by omega) j fun i hi=>hj i (by omega)
theorem ZfD{π m:M}(hm:Ok m):∀ k,Ok (permTo π m k)
 | 0=>fun _=>by simp[permTo]
 | k+1=>fun j=>by
  simp only[permTo]
  split
  .rename_i hk
   simp only[setF]
   split
   .exact hm _
   exact ZfD hm k j
  exact ZfD hm k j
theorem ZiZ{π m:M}(hm:Ok m):Ok (permM π m):=ZfD hm 8
theorem ZgF{π:M}(h:IsPerm π)(m:M)(i j:Fin 8)(hj:(j.val:Int)=π i):permM π m j=m i:=ZhY h m 8 (by omega) i i.isLt j hj
theorem ZhX{π:M}(h:IsPerm π){a b:M}(e:permM π a=permM π b):a=b:=by
 funext i
 have r:=h.rng i
 have h1:=ZgF h a i ⟨(π i).toNat,by omega⟩ (by simp; omega)
 have h2:=ZgF h b i ⟨(π i).toNat,by omega⟩ (by simp; omega)
 rw[<- h1,<- h2,e]
theorem Zfl(f:M)(x:Int)(q:Nat):∀ k,k<=8->degTo (setF f q x) k=degTo f k+(if h:q<8 then (if q<k then x-f ⟨q,h⟩ else 0) else 0)
 | 0,_=>by simp[degTo]
 | k+1,hk=>by
  have hk':k<8:=by omega
  simp only[degTo,dif_pos hk',Zfl f x q k (by omega),setF]
  by_cases e:k=q
  .subst e
   simp[hk']
   omega
  rw[if_neg e]
  by_cases h8:q<8
  .simp only[dif_pos h8]
   by_cases hq:q<k
   .rw[if_pos hq,if_pos (by omega)]; omega
   rw[if_neg hq,if_neg (by omega)]; omega
  simp only[dif_neg h8]; omega
theorem Zfk{π:M}(h:IsPerm π)(m:M):degM (permM π m)=degM m:=by
 have key:∀ k,k<=8->degM (permTo π m k)=degTo m k:=by
  intro k
  induction k with
  | zero=>intro _; simp[permTo,degM,degTo]
  | succ k ih=>
   intro hk
   have hk':k<8:=by omega
   have r:=h.rng ⟨k,hk'⟩
   have hq:(π ⟨k,hk'⟩).toNat<8:=by omega
   simp only[permTo,dif_pos hk',degTo]
   unfold degM at ih ⊢
   rw[Zfl _ _ _ 8 (by omega),dif_pos hq,if_pos hq,ih (by omega)]
   have:permTo π m k ⟨(π ⟨k,hk'⟩).toNat,hq⟩=0:=Zgg h m k (by omega) _ fun i hi he=>by
    have:π i=π ⟨k,hk'⟩:=by simp at he; omega
    have:=congrArg Fin.val (h.inj _ _ this)
    simp at this; omega
   rw[this]; omega
 exact key 8 (by omega)
theorem Zll{π:M}(h:IsPerm π)(x:Za):(Zce π x (0,fun _=>0)).Ret (permM π x.m):=by
 refine Cq.Zn 8 (fun k s=>s=((k:Int),permTo π x.m k)) (fun k s hk hs=>?_) (fun s hs=>?_) rfl
 .subst hs
  have r:=h.rng ⟨k,hk⟩
  refine Cq.wp.yes (p:=(k:Int)<8) (by omega) ?_
  refine⟨by omega,by omega,by rw[getFN hk]; exact r,?_⟩
  show _=_
  rw[wrapN (by omega),getFN hk,getFN hk]
  simp only[permTo,dif_pos hk]
 subst hs
 refine Cq.wp.no (p:=((8:Nat):Int)<8) (by omega) ?_
 rfl
theorem Zm6{π:M}(h:IsPerm π){k:Nat}(hk:k<8){bx:Fin 8->Bool}(hb:∀ j,bx j=true->∃ i:Fin 8,i.val<k/\(j.val:Int)=π i):¬ getF bx (π ⟨k,hk⟩)=true:=by
 have r:=h.rng ⟨k,hk⟩
 rw[Zen bx (show (π ⟨k,hk⟩).toNat<8 by omega)]
 intro ht
 obtain⟨i,h1,h2⟩:=hb _ ht
 have:π i=π ⟨k,hk⟩:=by simp at h2; omega
 have:=congrArg Fin.val (h.inj _ _ this)
 simp at this; omega
theorem Zlv{π:M}(h:IsPerm π){k:Nat}(hk:k<8){bx:Fin 8->Bool}(hb:∀ j,bx j=true->∃ i:Fin 8,i.val<k/\(j.val:Int)=π i):∀ j,setF bx (π ⟨k,hk⟩).toNat true j=true->∃ i:Fin 8,i.val<k+1/\(j.val:Int)=π i:=by
 intro j hj
 have r:=h.rng ⟨k,hk⟩
 simp only[setF] at hj
 split at hj
 .exact⟨⟨k,hk⟩,by simp,by omega⟩
 obtain⟨i,h1,h2⟩:=hb j hj
 exact⟨i,by omega,h2⟩
end Go.EL

namespace Go.EL
open Go.IntKind (i8 i16 i32 i64 u8 u16 u32 u64)
open Go Go.RowKit
def permT(π:M)(t:Za):Za:=⟨t.c,permM π t.m⟩
def permAcc(π:M)(l:List Za):List Za:=l.foldl (fun acc t=>addT acc (permT π t)) []
def permP(π:M)(p:List Za):List Za:=permAcc π p
theorem ZlS{p:List Za}{t:Za}:(∀ x ∈ p,x.m≠t.m)->(addT p t).Perm (t::p):=by
 induction p with
 | nil=>intro _; exact List.Perm.refl _
 | cons x xs ih=>
  intro h
  have hx:=h x (by simp)
  simp only[addT]
  split
  .exact ((ih fun y hy=>h y (by simp[hy])).cons x).trans (List.Perm.swap _ _ _)
  split
  .exact List.Perm.refl _
  exact absurd (Zbh (by omega)) hx
theorem Zik{a b c:M}(h1:0<cmpM a b)(h2:0<cmpM b c):0<cmpM a c:=by
 have k1:=ZaR a b
 have k2:=ZaR b c
 have k3:=ZaR a c
 have:=Zdf (a:=c) (b:=b) (c:=a) (by omega) (by omega) (.inl (by omega))
 omega
abbrev Desc(p:List Za):Prop:=p.Pairwise fun x y=>0<cmpM x.m y.m
theorem ZhI{p:List Za}{t:Za}:Desc p->Desc (addT p t)/\∀ z,(∀ x ∈ p,0<cmpM z x.m)->0<cmpM z t.m->∀ y ∈ addT p t,0<cmpM z y.m:=by
 induction p with
 | nil=>intro _; exact⟨by simp[addT],fun z _ h y hy=>by simp[addT] at hy; subst hy; exact h⟩
 | cons x xs ih=>
  intro hd
  obtain⟨h1,h2⟩:=List.pairwise_cons.1 hd
  obtain⟨i1,i2⟩:=ih h2
  simp only[addT]
  split
  .rename_i hc
   refine⟨List.pairwise_cons.2 ⟨i2 _ h1 hc,i1⟩,fun z hz hzt y hy=>?_⟩
   rcases List.mem_cons.1 hy with rfl|hy
   .exact hz _ (by simp)
   exact i2 z (fun w hw=>hz w (by simp[hw])) hzt y hy
  split
  .rename_i hc
   have hc':0<cmpM t.m x.m:=by have:=ZaR x.m t.m; omega
   refine⟨List.pairwise_cons.2 ⟨fun y hy=>?_,hd⟩,fun z hz hzt y hy=>?_⟩
   .rcases List.mem_cons.1 hy with rfl|hy
    .exact hc'
    exact Zik hc' (h1 y hy)
   rcases List.mem_cons.1 hy with rfl|hy
   .exact hzt
   exact hz y hy
  split
  .exact⟨h2,fun z hz _ y hy=>hz y (by simp[hy])⟩
  refine⟨List.pairwise_cons.2 ⟨h1,h2⟩,fun z hz _ y hy=>?_⟩
  rcases List.mem_cons.1 hy with rfl|hy
  .exact hz x (by simp)
  exact hz y (by simp[hy])
theorem ZiY(π:M)(l:List Za)(t:Za):permAcc π (l++[t])=addT (permAcc π l) (permT π t):=by simp[permAcc,List.foldl_append]
theorem ZeJ{p:List Za}(h:Desc p):p.Pairwise fun x y=>x.m≠y.m:=h.imp fun hp e=>by rw[e,ZdX] at hp; omega
theorem Zhj{π:M}(h:IsPerm π){p:List Za}(hd:Desc p):∀ k,k<=p.length->(permAcc π (p.take k)).Perm ((p.take k).map (permT π))/\Desc (permAcc π (p.take k))
 | 0,_=>by simp[permAcc]
 | k+1,hk=>by
  obtain⟨h1,h2⟩:=Zhj h hd k (by omega)
  have hk':k<p.length:=by omega
  rw[<- List.take_append_getElem hk',ZiY]
  refine⟨?_,(ZhI h2).1⟩
  have hnew:∀ x ∈ permAcc π (p.take k),x.m≠(permT π p[k]).m:=by
   intro x hx e
   obtain⟨y,hy,rfl⟩:=List.mem_map.1 (h1.mem_iff.1 hx)
   have hm:=ZhX h e
   obtain⟨i,hi,rfl⟩:=List.mem_iff_getElem.1 hy
   simp only[List.length_take] at hi
   rw[List.getElem_take] at hm
   exact List.pairwise_iff_getElem.1 (ZeJ hd) i k (by omega) hk' (by omega) hm
  refine (ZlS hnew).trans ?_
  rw[List.map_append]
  exact (h1.cons _).trans (List.perm_append_comm (l₁:=[permT π p[k]]))
theorem ZaT{π:M}(h:IsPerm π){p:List Za}(hd:Desc p):(permP π p).Perm (p.map (permT π))/\Desc (permP π p):=by
 have:=Zhj h hd p.length (by omega)
 rwa [List.take_length] at this
theorem ZdK{π:M}(h:IsPerm π){p:List Za}(hp:PolOk p):PolOk (permP π p):=by
 obtain⟨h1,h2⟩:=ZaT h hp.ord
 refine⟨h2,fun t ht=>?_,by rw[h1.length_eq,List.length_map]; exact hp.len⟩
 obtain⟨y,hy,rfl⟩:=List.mem_map.1 (h1.mem_iff.1 ht)
 exact⟨(hp.trm y hy).c,ZiZ (hp.trm y hy).m⟩
end Go.EL

namespace Go.EL
open Go.IntKind (i8 i16 i32 i64 u8 u16 u32 u64)
open Go Go.RowKit
theorem ZmV:(between 0 100 fun n=>match (Z3 (u64.wrap n)).ev 30 with|some v=>decide (0<=v/\v<1000000)|none=>false)=true:=by decide +kernel
theorem ZmW{n:Nat}(h:n<=100):∃ v,(Z3 (u64.wrap (n:Int))).Ret v/\0<=v/\v<1000000:=by
 have:=Zy ZmV (x:=(n:Int)) (by omega) (by omega)
 split at this
 .rename_i v hv
  have:=of_decide_eq_true this
  exact⟨v,Cq.Ret.Zo 30 hv,this.1,this.2⟩
 cases this
theorem ZmQ{p:List Za}(h:Desc p){x y:Za}(hx:x ∈ p)(hy:y ∈ p)(e:x.m=y.m):x=y:=by
 obtain⟨i,hi,rfl⟩:=List.mem_iff_getElem.1 hx
 obtain⟨j,hj,rfl⟩:=List.mem_iff_getElem.1 hy
 have key:=List.pairwise_iff_getElem.1 (ZeJ h)
 rcases Nat.lt_trichotomy i j with hij|hij|hij
 .exact absurd e (key i j hi hj hij)
 .subst hij; rfl
 exact absurd e.symm (key j i hj hi hij)
theorem ZkQ{p:List Za}(h:Desc p):p.Pairwise fun x y=>¬ cmpM x.m y.m<0:=h.imp fun hp=>by omega
theorem ZkA{p ys:List Za}(hd:Desc p)(hp:ys.Perm p)(hs:ys.Pairwise fun x y=>¬ cmpM x.m y.m<0):ys=p:=
 List.Perm.eq_of_pairwise (le:=fun x y:Za=>¬ cmpM x.m y.m<0) (fun a b ha hb h1 h2=>by
  have:=ZaR a.m b.m
  exact ZmQ hd (hp.mem_iff.1 ha) hb (Zbh (by omega))) hs (ZkQ hd) hp
theorem Ziy{p l:List Za}(hd:Desc p)(hl:p.length<=100)(hp:l.Perm p):(Zz l).Ret p:=by
 have e:=hp.length_eq
 obtain⟨v,h1,h2,h3⟩:=ZmW (n:=l.length) (by omega)
 refine⟨v,h1,p,?_,rfl⟩
 refine⟨⟨rfl,rfl,⟨h2,h3⟩,by omega⟩,fun ys ⟨k1,k2⟩=>?_⟩
 exact ZkA hd (k1.trans hp) k2
def termOf(q:M×Zf):Za:=⟨q.2,q.1⟩
theorem ZkB{p:List Za}(hp:PolOk p){D:List (M×Zf)}(hD:(D.map termOf).Perm p):(ZbL D).Ret p:=by
 have hl:=hp.len
 have e:=hD.length_eq
 rw[List.length_map] at e
 refine⟨⟨by omega,by omega⟩,?_⟩
 show (Cq.next _ _).wp _
 refine Cq.ZgC (fun s=>(s.1++s.2.map termOf).Perm p) (fun s=>s.2.length) (fun s hs=>?_) _ (by simpa using hD)
 obtain⟨rv,R⟩:=s
 simp only at hs
 have hlen:=hs.length_eq
 simp only[List.length_append,List.length_map] at hlen
 refine⟨fun hR=>?_,fun R1 q R2 hR=>?_⟩
 .subst hR
  rw[List.map_nil,List.append_nil] at hs
  exact⟨_,Ziy hp.ord hl hs,rfl⟩
 subst hR
 have hmem:termOf q ∈ p:=hs.mem_iff.1 (by simp)
 obtain⟨s,h1,h2⟩:=(hp.trm _ hmem).ps
 refine⟨s,h1,?_⟩
 rw[Cq.Zi,if_pos h2]
 simp only[List.length_append,List.length_cons] at hlen
 refine⟨by simp[small]; omega,?_,?_⟩
 .refine List.Perm.trans ?_ hs
  simp only[List.map_append,List.map_cons,List.append_assoc,List.singleton_append]
  refine List.Perm.append_left rv ?_
  exact (List.perm_middle (a:=termOf q) (l₁:=R1.map termOf) (l₂:=R2.map termOf)).symm
 show (R1++R2).length<(R1++q::R2).length
 simp
theorem Znr{m:M}(h:Ok m):∀ i,(Lit.int i64 (m i)).wf=true:=fun i=>by
 have:=h i
 simp only[Lit.wf,Bool.and_eq_true,decide_eq_true_eq]
 exact⟨Int.le_trans (by decide) this.1,Int.le_trans this.2 (by decide)⟩
def pairT(π:M)(t:Za):M×Zf:=(permM π t.m,t.c)
theorem Zjj{π:M}(h:IsPerm π){p:List Za}(hp:PolOk p):(Zbp p π).Ret (permP π p,0):=by
 have hl:=hp.len
 show (Cq.next _ _).wp _
 refine Cq.Zn 8 (fun k s=>∃ bx:Fin 8->Bool,s=((k:Int),bx)/\∀ j,bx j=true->∃ i:Fin 8,i.val<k/\(j.val:Int)=π i) (fun k s hk hs=>?_) (fun s hs=>?_) ⟨_,rfl,fun j hj=>by cases hj⟩
 .obtain⟨bx,rfl,hb⟩:=hs
  have r:=h.rng ⟨k,hk⟩
  refine Cq.wp.yes (p:=(k:Int)<8) (by omega) ?_
  refine⟨by omega,?_⟩
  rw[getFN hk,Cq.Zi,if_neg (by omega),Cq.Zi,if_neg (by omega)]
  refine⟨r,?_⟩
  rw[Cq.Zi,if_neg (Zm6 h hk hb)]
  refine⟨r,?_⟩
  rw[wrapN (by omega)]
  exact⟨_,rfl,Zlv h hk hb⟩
 obtain⟨bx,rfl,hb⟩:=hs
 refine Cq.wp.no (p:=((8:Nat):Int)<8) (by omega) ?_
 show (Z8 p π).wp _
 show (Cq.next _ _).wp _
 refine Cq.Zn p.length (fun k s=>s=((k:Int),(p.take k).map (pairT π))) (fun k s hk hs=>?_) (fun s hs=>?_) (by simp)
 .subst hs
  refine Cq.wp.yes (p:=(k:Int)<(p.length:Int)) (by omega) ?_
  refine⟨p[k],idxN hk,?_⟩
  refine (Zll h p[k]).then ?_
  have hput:mput ((p.take k).map (pairT π)) (permM π p[k].m) p[k].c=(p.take (k+1)).map (pairT π):=by
   rw[ZcM,<- List.take_append_getElem hk,List.map_append]
   .rfl
   intro q hq e
   obtain⟨y,hy,rfl⟩:=List.mem_map.1 hq
   have hm:=ZhX h e
   obtain⟨i,hi,rfl⟩:=List.mem_iff_getElem.1 hy
   simp only[List.length_take] at hi
   rw[List.getElem_take] at hm
   exact List.pairwise_iff_getElem.1 (ZeJ hp.ord) i k (by omega) hk (by omega) hm
  refine⟨⟨Znr (ZiZ (hp.at hk).m),?_⟩,?_⟩
  .rw[hput,List.length_map,List.length_take]; simp only[small]; omega
  show _=_
  rw[hput,wrapN (by omega)]
 subst hs
 refine Cq.wp.no (p:=((p.length:Nat):Int)<(p.length:Int)) (by omega) ?_
 refine⟨permP π p,ZkB (ZdK h hp) ?_,rfl⟩
 rw[List.take_length,List.map_map]
 exact (ZaT h hp.ord).1.symm
end Go.EL

namespace Go.EL
open Go.IntKind (i8 i16 i32 i64 u8 u16 u32 u64)
open Go Go.RowKit
theorem Zie{n:Int}(h1:-8<=n)(h2:n<=8):(Zas n).Ret (ratI n):=ZM (Zy ZlG h1 h2)
theorem mul_zero(m:M):mulM (fun _=>0) m=m:=by funext i; simp[mulM]
theorem ZkL{c:Int}(h1:-3<=c)(h2:c<=3){m:M}(hm:Ok m):(ZdV (ratI c) [⟨ratI 1,m⟩]).Ret (if c=0 then [] else [⟨ratI c,m⟩]):=by
 have hs:=ZM (Zy Zi9 (x:=c) (by omega) (by omega))
 by_cases h0:c=0
 .subst h0
  rw[if_pos rfl]
  refine⟨([],0),⟨_,hs,?_⟩,rfl⟩
  rw[Cq.Zi,if_pos (by decide)]
  rfl
 rw[if_neg h0]
 refine⟨([⟨ratI c,m⟩],0),⟨_,hs,?_⟩,rfl⟩
 rw[Cq.Zi,if_neg (by split <;> first|omega|(split <;> omega))]
 show (Cq.next _ _).wp _
 refine Cq.Zn 1 (fun k s=>s=((if k=0 then [] else [⟨ratI c,m⟩]),(k:Int))) (fun k s hk hs=>?_) (fun s hs=>?_) rfl
 .obtain rfl:k=0:=by omega
  subst hs
  refine⟨⟨ratI 1,m⟩,⟨by omega,rfl⟩,(m,0),?_,?_⟩
  .have:=Zf3 (a:=fun _=>0) (b:=m) (fun _=>⟨Int.le_refl 0,show (0:Int)<=65535 by decide⟩) hm (by rw[mul_zero]; exact hm)
   rwa [mul_zero] at this
  rw[Cq.Zi,if_neg (fun h=>h rfl)]
  exact⟨⟨ratI 1,m⟩,⟨by omega,rfl⟩,_,ZM (Zy ZmX h1 h2),by simp[small],rfl⟩
 subst hs
 rfl
def RawOk(x:Zv):Prop:=∀ v ∈ x.t,∀ j:Fin 5,-128<=v j/\v j<=127
structure MadeOk (K:Int) (n:Nat) (d:Int) (k:Nat) (p:List Za):Prop where
 ord:Desc p
 cof:∀ t ∈ p,∃ c:Int,t.c=ratI c/\c≠0/\-K<=c/\c<=K
 mon:∀ t ∈ p,(∀ i,0<=t.m i)/\(∀ i:Fin 8,n<=i.val->t.m i=0)/\degM t.m<=d
 len:p.length<=k
theorem Zgt{m:M}(h:∀ i,0<=m i):∀ k,k<=8->0<=degTo m k/\∀ i:Fin 8,i.val<k->m i<=degTo m k
 | 0,_=>by simp[degTo]
 | k+1,hk=>by
  obtain⟨h1,h2⟩:=Zgt h k (by omega)
  have hk':k<8:=by omega
  have:=h ⟨k,hk'⟩
  simp only[degTo,dif_pos hk']
  refine⟨by omega,fun i hi=>?_⟩
  by_cases e:i.val=k
  .have:i=⟨k,hk'⟩:=Fin.ext e
   subst this; omega
  have:=h2 i (by omega); omega
theorem ZhV{m:M}(h:∀ i,0<=m i){d:Int}(hd:degM m<=d)(h2:d<=65535):Ok m:=fun i=>by
 have:=(Zgt h 8 (by omega)).2 i i.isLt
 unfold degM at hd
 exact⟨h i,by omega⟩
theorem MadeOk.pol{K:Int}{n:Nat}{d:Int}{k:Nat}{p:List Za}(h:MadeOk K n d k p)(hK:K<=12)(hd:d<=100)(hk:k<=100):PolOk p:=
 ⟨h.ord,fun t ht=>⟨by obtain⟨c,e,h0,h1,h2⟩:=h.cof t ht; exact⟨c,e,h0,by omega,by omega⟩,ZhV (h.mon t ht).1 (h.mon t ht).2.2 (by omega)⟩,by have:=h.len; omega⟩
theorem Ziz{p:List Za}{t y:Za}:y ∈ addT p t->y ∈ p\/y=t\/∃ x ∈ p,x.m=t.m/\valR x.c+valR t.c≠0/\y=⟨ratI (valR x.c+valR t.c),x.m⟩:=by
 induction p with
 | nil=>intro h; simp[addT] at h; exact .inr (.inl h)
 | cons x xs ih=>
  intro h
  simp only[addT] at h
  split at h
  .rcases List.mem_cons.1 h with rfl|h
   .exact .inl (by simp)
   rcases ih h with h|h|⟨z,h1,h2⟩
   .exact .inl (by simp[h])
   .exact .inr (.inl h)
   exact .inr (.inr ⟨z,by simp[h1],h2⟩)
  split at h
  .rcases List.mem_cons.1 h with rfl|h
   .exact .inr (.inl rfl)
   exact .inl h
  have hm:x.m=t.m:=Zbh (by omega)
  split at h
  .exact .inl (by simp[h])
  rename_i hne
  rcases List.mem_cons.1 h with rfl|h
  .exact .inr (.inr ⟨x,by simp,hm,hne,rfl⟩)
  exact .inl (by simp[h])
theorem MadeOk.add{K:Int}{n:Nat}{d:Int}{k:Nat}{p:List Za}(h:MadeOk K n d k p){c:Int}{m:M}(hK:0<=K)(h0:c≠0)(h1:-3<=c)(h2:c<=3)(hm:(∀ i,0<=m i)/\(∀ i:Fin 8,n<=i.val->m i=0)/\degM m<=d):
  MadeOk (K+3) n d (k+1) (addT p ⟨ratI c,m⟩):=by
 refine⟨(ZhI h.ord).1,fun t ht=>?_,fun t ht=>?_,by have:=Zf6 p ⟨ratI c,m⟩; have:=h.len; omega⟩
 .rcases Ziz ht with ht|rfl|⟨x,hx,hxm,hne,rfl⟩
  .obtain⟨a,e,k0,k1,k2⟩:=h.cof t ht
   exact⟨a,e,k0,by omega,by omega⟩
  .exact⟨c,rfl,h0,by omega,by omega⟩
  obtain⟨a,e,k0,k1,k2⟩:=h.cof x hx
  simp only[ZfL,e] at hne ⊢
  exact⟨a+c,rfl,hne,by omega,by omega⟩
 rcases Ziz ht with ht|rfl|⟨x,hx,hxm,hne,rfl⟩
 .exact h.mon t ht
 .exact hm
 exact h.mon x hx
theorem MadeOk.grow{K K':Int}{n:Nat}{d:Int}{k k':Nat}{p:List Za}(h:MadeOk K n d k p)(h1:K<=K')(h2:k<=k'):MadeOk K' n d k' p:=
 ⟨h.ord,fun t ht=>by obtain⟨a,e,k0,k1,k2⟩:=h.cof t ht; exact⟨a,e,k0,by omega,by omega⟩,h.mon,by have:=h.len; omega⟩
theorem MadeOk.near{K:Int}{n:Nat}{d:Int}{k:Nat}{p:List Za}(h:MadeOk K n d k p)(hK:K<=12){c:Int}{m:M}(h1:-3<=c)(h2:c<=3):Near p ⟨ratI c,m⟩:=fun x hx _=>by
 obtain⟨a,e,k0,k1,k2⟩:=h.cof x hx
 exact⟨a,c,e,rfl,by omega,by omega,h1,h2⟩
def absI(n:Int):Int:=if n<0 then -n else n
theorem ZmK{n:Int}(h1:-128<=n)(h2:n<=127):(ZfP n).Ret (absI n):=by
 unfold ZfP absI
 by_cases h:n<0
 .rw[if_pos h,if_pos h]
  show _=_
  simp (disch:=omega) only[wrap64]
  omega
 rw[if_neg h,if_neg h]
 exact wrap64 (by omega)
theorem Zey{a b:Int}(ha:0<=a)(hb:0<b):0<=Int.tmod a b/\Int.tmod a b<b:=by
 rw[Int.tmod_eq_emod_of_nonneg ha]
 exact⟨Int.emod_nonneg _ (by omega),Int.emod_lt_of_pos _ hb⟩
theorem tmod4{a:Int}(h1:-128<=a)(h2:a<=127):-3<=Int.tmod a 4/\Int.tmod a 4<=3:=by
 by_cases h:0<=a
 .have:=Zey (b:=4) h (by omega); omega
 have:=Zey (a:=-a) (b:=4) (by omega) (by omega)
 rw[Int.neg_tmod] at this
 omega
def rawTo(v:Fin 5->Int)(d:Int):Nat->Int×M
 | 0=>(d,fun _=>0)
 | j+1=>((rawTo v d j).1-Int.tmod (absI (getF v ((j+1:Nat):Int))) ((rawTo v d j).1+1),setF (rawTo v d j).2 j (Int.tmod (absI (getF v ((j+1:Nat):Int))) ((rawTo v d j).1+1)))
theorem ZgJ{v:Fin 5->Int}{d:Int}(hd:0<=d):∀ j,j<=4->0<=(rawTo v d j).1/\(∀ i,0<=(rawTo v d j).2 i)/\(∀ i:Fin 8,j<=i.val->(rawTo v d j).2 i=0)/\degM (rawTo v d j).2+(rawTo v d j).1=d
 | 0,_=>⟨hd,fun _=>Int.le_refl 0,fun _ _=>rfl,by simp[rawTo,degM,degTo]⟩
 | j+1,hj=>by
  obtain⟨h0,h1,h2,h3⟩:=ZgJ (v:=v) hd j (by omega)
  have ha:0<=absI (getF v ((j+1:Nat):Int)):=by unfold absI; split <;> omega
  have hm:=Zey ha (show 0<(rawTo v d j).1+1 by omega)
  simp only[rawTo]
  refine⟨by omega,fun i=>?_,fun i hi=>?_,?_⟩
  .simp only[setF]; split
   .exact hm.1
   exact h1 i
  .simp only[setF]; rw[if_neg (by omega)]; exact h2 i (by omega)
  unfold degM at h3 ⊢
  rw[Zfl _ _ _ 8 (by omega),dif_pos (by omega),if_pos (by omega),h2 _ (by simp)]
  omega
def rawM(v:Fin 5->Int)(d:Int)(n:Nat):M:=(rawTo v d n).2
theorem ZjV{v:Fin 5->Int}{d:Int}(hd:0<=d){n:Nat}(hn:n<=4):(∀ i,0<=rawM v d n i)/\(∀ i:Fin 8,n<=i.val->rawM v d n i=0)/\degM (rawM v d n)<=d:=by
 obtain⟨h0,h1,h2,h3⟩:=ZgJ (v:=v) hd n hn
 exact⟨h1,h2,by unfold rawM; omega⟩
theorem ZkH{x:Zv}(hx:RawOk x){n:Nat}(hn:n<=4){d:Int}(hd0:0<=d)(hd:d<=100){k:Nat}(hk:k<x.t.length):
  (Zf4 x (n:Int) (k:Int) (d,0,fun _=>0)).Ret (rawM x.t[k] d n):=by
 refine Cq.Zn n (fun j s=>s=((rawTo x.t[k] d j).1,(j:Int),(rawTo x.t[k] d j).2)) (fun j s hj hs=>?_) (fun s hs=>?_) rfl
 .subst hs
  obtain⟨h0,h1,h2,h3⟩:=ZgJ (v:=x.t[k]) hd0 j (by omega)
  have hb:=(Zgt h1 8 (by omega)).1
  have hj8:j<8:=by omega
  have hr:=hx _ (List.getElem_mem hk)
  show (if (j:Int)<(n:Int) then _ else _:Cq _).wp _
  rw[Cq.Zi,if_pos (by omega),Cq.Zi,if_pos (by omega)]
  have hw:i64.wrap (1+(j:Int))=((j+1:Nat):Int):=by rw[wrap64 (by omega)]; omega
  have hw2:i64.wrap ((rawTo x.t[k] d j).1+1)=(rawTo x.t[k] d j).1+1:=wrap64 (by unfold degM at h3; omega)
  rw[hw,hw2]
  have hg:getF x.t[k] ((j+1:Nat):Int)=x.t[k] ⟨j+1,by omega⟩:=Zen _ (by simp; omega)
  have hm:=Zey (a:=absI (getF x.t[k] ((j+1:Nat):Int))) (b:=(rawTo x.t[k] d j).1+1) (by unfold absI; split <;> omega) (by omega)
  refine⟨x.t[k],idxN hk,by omega,_,ZmK (by rw[hg]; exact (hr _).1) (by rw[hg]; exact (hr _).2),by omega,by omega,by omega,?_⟩
  show _=_
  have hs8:∀ e:Int,getF (setF (rawTo x.t[k] d j).2 (j:Int).toNat e) (j:Int)=e:=fun e=>by rw[getFN hj8]; simp[setF]
  rw[hs8,wrapN (by omega),wrap64 (by unfold degM at h3; omega)]
  rfl
 subst hs
 refine Cq.wp.no (p:=(n:Int)<(n:Int)) (by omega) ?_
 rfl
def madeTo(x:Zv)(n:Nat)(d:Int):Nat->List Za
 | 0=>[]
 | k+1=>match x.t[k]? with
  | some v=>if Int.tmod (getF v 0) 4=0 then madeTo x n d k else addT (madeTo x n d k) ⟨ratI (Int.tmod (getF v 0) 4),rawM v d n⟩
  | none=>madeTo x n d k
theorem raw0{x:Zv}(hx:RawOk x){v:Fin 5->Int}(hv:v ∈ x.t):-3<=Int.tmod (getF v 0) 4/\Int.tmod (getF v 0) 4<=3:=by
 have:=hx v hv 0
 rw[Zen v (by decide)]
 exact tmod4 this.1 this.2
theorem Zfx{x:Zv}(hx:RawOk x){n:Nat}(hn:n<=4){d:Int}(hd:0<=d):∀ k:Nat,MadeOk (3*k) n d k (madeTo x n d k)
 | 0=>⟨List.Pairwise.nil,fun t ht=>by simp[madeTo] at ht,fun t ht=>by simp[madeTo] at ht,by simp[madeTo]⟩
 | k+1=>by
  have ih:=Zfx hx hn hd k
  simp only[madeTo]
  split
  .rename_i v hv
   have hr:=raw0 hx (List.mem_of_getElem? hv)
   split
   .exact ih.grow (by omega) (by omega)
   rename_i h0
   exact (ih.add (by omega) h0 hr.1 hr.2 (ZjV hd hn)).grow (by omega) (by omega)
  exact ih.grow (by omega) (by omega)
def madeP(x:Zv)(n:Nat)(d:Int)(k:Nat):List Za:=madeTo x n d (min k x.t.length)
theorem Zmg{x:Zv}(hx:RawOk x){n:Nat}(hn:n<=4){d:Int}(hd:0<=d)(k:Nat):MadeOk (3*k) n d k (madeP x n d k):=(Zfx hx hn hd _).grow (by omega) (by omega)
theorem ZlQ{x:Zv}(hx:RawOk x){n:Nat}(hn:n<=4){d:Int}(hd0:0<=d)(hd:d<=100){k:Nat}(hk:k<=4):(Zgp x (n:Int) d (k:Int)).Ret (madeP x n d k):=by
 refine Cq.Zn (min k x.t.length) (fun j s=>s=(madeTo x n d j,(j:Int))) (fun j s hj hs=>?_) (fun s hs=>?_) rfl
 .subst hs
  have hj':j<x.t.length:=by omega
  have ih:=Zfx hx hn hd0 j
  have hr:=raw0 hx (List.getElem_mem hj')
  show (if (j:Int)<(x.t.length:Int) then _ else _:Cq _).wp _
  rw[Cq.Zi,if_pos (by omega),Cq.Zi,if_pos (by omega)]
  show (Cq.next _ _).wp _
  refine (ZkH hx hn hd0 hd hj').then ?_
  have hw:i64.wrap (Int.tmod (getF x.t[j] 0) 4)=Int.tmod (getF x.t[j] 0) 4:=wrap64 (by omega)
  have hm:=ZjV (v:=x.t[j]) hd0 hn
  refine⟨x.t[j],idxN hj',_,(by rw[hw]; exact Zie (by omega) (by omega)),_,Zie (by omega) (by omega),_,ZkL hr.1 hr.2 (ZhV hm.1 hm.2.2 (by omega)),?_⟩
  have hlen:=ih.len
  by_cases h0:Int.tmod (getF x.t[j] 0) 4=0
  .rw[if_pos h0]
   refine⟨_,Zjl (by omega),?_⟩
   show _=_
   rw[wrapN (by omega)]
   simp only[madeTo,List.getElem?_eq_getElem hj',if_pos h0]
  rw[if_neg h0]
  refine⟨_,Zjm (by omega) (ih.near (by omega) hr.1 hr.2),?_⟩
  show _=_
  rw[wrapN (by omega)]
  simp only[madeTo,List.getElem?_eq_getElem hj',if_neg h0]
 subst hs
 show (if ((min k x.t.length:Nat):Int)<(x.t.length:Int) then _ else _:Cq _).wp _
 by_cases h:min k x.t.length<x.t.length
 .rw[Cq.Zi,if_pos (by omega),Cq.Zi,if_neg (by omega)]
  rfl
 rw[Cq.Zi,if_neg (by omega)]
 rfl
end Go.EL

namespace Go.EL
open Go.IntKind (i8 i16 i32 i64 u8 u16 u32 u64)
open Go Go.RowKit
theorem Zu{x:Int}(h:0<=x/\x<18446744073709551616):u64.wrap x=x:=by
 simp only[IntKind.wrap,IntKind.bits,IntKind.signed,Bool.false_and,Bool.false_eq_true,if_false]
 omega
theorem ZdR{x:Int}(h:0<=x/\x<4294967296):u32.wrap x=x:=by
 simp only[IntKind.wrap,IntKind.bits,IntKind.signed,Bool.false_and,Bool.false_eq_true,if_false]
 omega
def magI(x:Int):List Int:=if x=0 then [] else [x]
theorem mag0:magI 0=[]:=rfl
theorem mag1{x:Int}(h:x≠0):magI x=[x]:=if_neg h
theorem ZgN:(Zab []).Ret []:=Cq.Ret.Zo 5 rfl
theorem le00:(0:Int)<=0:=Int.le_refl 0
theorem lt01:(0:Int)<1:=by decide
theorem le01:(0:Int)<=1:=by decide
theorem le02:(0:Int)<=2:=by decide
theorem nlt00:¬ (0:Int)<0:=by decide
theorem nlt11:¬ (1:Int)<1:=by decide
theorem ZdQ(x:Int):(Zab [x]).Ret (magI x):=by
 show (Cq.next _ _).wp _
 refine Cq.Zk (Cq.wp.yes lt01 ⟨x,⟨le00,rfl⟩,?_⟩)
 by_cases h:x=0
 .refine Cq.wp.yes h (Cq.Zk (Cq.wp.no nlt00 ?_))
  rw[h]
  exact⟨⟨le00,le00,le01⟩,rfl⟩
 refine Cq.wp.no h ?_
 rw[mag1 h]
 exact⟨⟨le00,le01,Int.le_refl 1⟩,rfl⟩
theorem ZgO(x:Int):(Zab [x,0]).Ret (magI x):=by
 show (Cq.next _ _).wp _
 refine Cq.Zk (Cq.wp.yes (by decide:(0:Int)<2) ⟨0,⟨le01,rfl⟩,Cq.wp.yes rfl (Cq.Zk (Cq.wp.yes lt01 ⟨x,⟨le00,rfl⟩,?_⟩))⟩)
 by_cases h:x=0
 .refine Cq.wp.yes h (Cq.Zk (Cq.wp.no nlt00 ?_))
  rw[h]
  exact⟨⟨le00,le00,le02⟩,rfl⟩
 refine Cq.wp.no h ?_
 rw[mag1 h]
 exact⟨⟨le00,le01,(by decide:(1:Int)<=2)⟩,rfl⟩
theorem ZdP(x:Int):(Zab (magI x)).Ret (magI x):=by
 by_cases h:x=0
 .subst h; exact ZgN
 rw[mag1 h]
 have:=ZdQ x
 rwa [mag1 h] at this
def intI(n:Int):Zb:=⟨decide (n<0),magI (n.natAbs:Int)⟩
theorem ZaX(n:Int):ratI n=⟨intI n,⟨false,[1]⟩⟩:=by
 unfold ratI intI magI
 by_cases h:n=0
 .subst h; rfl
 rw[if_neg h,if_neg (by omega)]
theorem Zb4(neg:Bool){x:Int}(h:0<=x){l:List Int}(hl:(Zab l).Ret (magI x)):(Zaa neg l).Ret (intI (if neg=true then -x else x)):=by
 refine⟨_,hl,?_⟩
 rw[Cq.Zi]
 cases neg with
 | true=>
  rw[if_pos rfl,if_pos rfl]
  show _=_
  unfold intI
  by_cases hx:x=0
  .subst hx; rfl
  rw[mag1 hx,mag1 (by omega:((-x).natAbs:Int)≠0),show ((-x).natAbs:Int)=x by omega,decide_eq_true (show -x<0 by omega)]
  rfl
 | false=>
  rw[if_neg (by decide),if_neg (by decide)]
  show _=_
  unfold intI
  rw[show ((x.natAbs:Nat):Int)=x by omega,decide_eq_false (show ¬ x<0 by omega)]
theorem Zac(n:Int):(intI n).neg=decide (n<0):=rfl
theorem Zbj(n:Int):(intI n).mag=magI (n.natAbs:Int):=rfl
theorem ZlC{a b:Int}(ha:1<=a/\a<4294967296)(hb:1<=b/\b<4294967296)(hab:0<=a*b/\a*b<4294967296):(Zcc [a] [b]).Ret (magI (a*b)):=by
 have w1:u64.wrap (u64.wrap (u64.wrap (u64.wrap a*u64.wrap b)+u64.wrap 0)+0)=a*b:=by
  rw[Zu (x:=a) (by omega),Zu (x:=b) (by omega),Zu (x:=0) (by omega)]
  simp only[Int.add_zero]
  rw[Zu (x:=a*b) (by omega),Zu (x:=a*b) (by omega),Zu (x:=a*b) (by omega)]
 have w2:u32.wrap (Int.tmod (a*b) 4294967296)=a*b:=by
  rw[Int.tmod_eq_emod_of_nonneg hab.1,Int.emod_eq_of_lt hab.1 hab.2,ZdR (by omega)]
 have w3:u64.wrap (Int.tdiv (a*b) 4294967296)=0:=by
  rw[Int.tdiv_eq_ediv_of_nonneg hab.1,Int.ediv_eq_zero_of_lt hab.1 hab.2]; rfl
 refine⟨⟨le02,(by decide:(2:Int)<=1000000)⟩,?_⟩
 show (Cq.next _ _).wp _
 refine Cq.Zk (Cq.wp.yes lt01 ?_)
 show (Cq.next _ _).wp _
 refine Cq.Zk (Cq.wp.yes lt01 ⟨a,⟨le00,rfl⟩,b,⟨le00,rfl⟩,0,⟨le00,rfl⟩,0,⟨le00,rfl⟩,?_⟩)
 show (Cq.loop _ _).wp _
 rw[w1,w2,w3]
 exact Cq.Zk (Cq.wp.no nlt11 ⟨0,⟨le01,rfl⟩,Cq.Zk (Cq.wp.no nlt11 ⟨_,ZgO (a*b),rfl⟩)⟩)
theorem ZlB(b:Int):(Zcc [] (magI b)).Ret []:=by
 by_cases h:b=0
 .subst h; exact Cq.Ret.Zo 5 rfl
 rw[mag1 h]
 refine⟨⟨le01,(by decide:(1:Int)<=1000000)⟩,?_⟩
 show (Cq.next _ _).wp _
 exact Cq.Zk (Cq.wp.no nlt00 ⟨_,ZdQ 0,rfl⟩)
theorem ZkE{a:Int}:(Zcc [a] []).Ret []:=by
 refine⟨⟨le01,(by decide:(1:Int)<=1000000)⟩,?_⟩
 show (Cq.next _ _).wp _
 refine Cq.Zk (Cq.wp.yes lt01 ?_)
 show (Cq.next _ _).wp _
 exact Cq.Zk (Cq.wp.no nlt00 ⟨0,⟨le00,rfl⟩,Cq.Zk (Cq.wp.no nlt11 ⟨_,ZdQ 0,rfl⟩)⟩)
theorem ZlD{a b:Int}(ha:0<=a/\a<4294967296)(hb:0<=b/\b<4294967296)(hab:a*b<4294967296):(Zcc (magI a) (magI b)).Ret (magI (a*b)):=by
 by_cases h1:a=0
 .subst h1; rw[Int.zero_mul]; exact ZlB b
 by_cases h2:b=0
 .subst h2; rw[Int.mul_zero,mag1 h1]; exact ZkE
 rw[mag1 h1,mag1 h2]
 exact ZlC (by omega) (by omega) ⟨Int.mul_nonneg ha.1 hb.1,hab⟩
theorem Zhx{a b:Int}(ha:a.natAbs<4294967296)(hb:b.natAbs<4294967296)(hab:(a*b).natAbs<4294967296):(Zcb (intI a) (intI b)).Ret (intI (a*b)):=by
 rw[Int.natAbs_mul] at hab
 have h1:((a.natAbs:Int)*(b.natAbs:Int))<4294967296:=by
  rw[<- Int.natCast_mul]; omega
 refine⟨_,ZlD (a:=(a.natAbs:Int)) (b:=(b.natAbs:Int)) (by omega) (by omega) h1,?_⟩
 refine⟨_,Zb4 _ (Int.mul_nonneg (by omega) (by omega)) (ZdP _),?_⟩
 show _=_
 congr 1
 rw[Zac,Zac]
 by_cases h2:a<0
 .by_cases h3:b<0
  .rw[decide_eq_true h2,decide_eq_true h3,if_neg (by decide),show (a.natAbs:Int) = -a by omega,show (b.natAbs:Int) = -b by omega,Int.neg_mul_neg]
  rw[decide_eq_true h2,decide_eq_false h3,if_pos (by decide),show (a.natAbs:Int) = -a by omega,show (b.natAbs:Int)=b by omega,Int.neg_mul,Int.neg_neg]
 by_cases h3:b<0
 .rw[decide_eq_false h2,decide_eq_true h3,if_pos (by decide),show (a.natAbs:Int)=a by omega,show (b.natAbs:Int) = -b by omega,Int.mul_neg,Int.neg_neg]
 rw[decide_eq_false h2,decide_eq_false h3,if_neg (by decide),show (a.natAbs:Int)=a by omega,show (b.natAbs:Int)=b by omega]
theorem word0{a:Int}(h:0<=a/\a<4294967296):(Zay (magI a) 0).Ret a:=by
 unfold Zay
 by_cases h1:a=0
 .subst h1; exact Cq.wp.no nlt00 rfl
 rw[mag1 h1]
 exact Cq.wp.yes lt01 ⟨a,⟨le00,rfl⟩,Zu (by omega)⟩
theorem word1(a:Int):(Zay (magI a) 1).Ret 0:=by
 unfold Zay
 by_cases h1:a=0
 .subst h1; exact Cq.wp.no (by decide:¬ (1:Int)<0) rfl
 rw[mag1 h1]
 exact Cq.wp.no nlt11 rfl
theorem Zfj{a b:Int}(ha:0<=a)(hb:0<=b):(Zbe (magI a) (magI b)).Ret (if a<b then -1 else if b<a then 1 else 0):=by
 unfold Zbe
 by_cases h1:a=0
 .rw[h1,mag0]
  by_cases h2:b=0
  .rw[h2,mag0]
   exact Cq.Ret.Zo 8 rfl
  rw[mag1 h2,if_pos (show 0<b by omega)]
  exact Cq.wp.yes lt01 rfl
 by_cases h2:b=0
 .rw[h2,mag0,mag1 h1,if_neg (show ¬ a<0 by omega),if_pos (show 0<a by omega)]
  exact Cq.wp.no (by decide:¬ (1:Int)<0) (Cq.wp.yes lt01 rfl)
 rw[mag1 h1,mag1 h2]
 refine Cq.wp.no nlt11 (Cq.wp.no nlt11 ?_)
 show (Cq.next _ _).wp _
 refine Cq.Zk (Cq.wp.yes le00 ⟨a,⟨le00,rfl⟩,b,⟨le00,rfl⟩,?_⟩)
 by_cases h3:a<b
 .rw[if_pos h3]
  exact Cq.wp.yes h3 rfl
 rw[if_neg h3]
 refine Cq.wp.no h3 ⟨a,⟨le00,rfl⟩,b,⟨le00,rfl⟩,?_⟩
 by_cases h4:b<a
 .rw[if_pos h4]
  exact Cq.wp.yes h4 rfl
 rw[if_neg h4]
 exact Cq.wp.no h4 (Cq.Zk (Cq.wp.no (by decide:¬ (0:Int)<=-1) rfl))
theorem tmod_one(a:Int):Int.tmod a 1=0:=by simp
theorem gcd_one{a:Int}(ha:a.natAbs<4294967296):(ZfM (intI a) (intI 1)).Ret (intI 1):=by
 have w:u64.wrap (u64.wrap (0*4294967296)+(a.natAbs:Int))=(a.natAbs:Int):=by
  rw[Int.zero_mul,Zu (x:=0) (by omega),Int.zero_add,Zu (by omega)]
 have hlen:((magI (a.natAbs:Int)).length:Int)<=2:=by
  unfold magI
  split
  .exact le02
  exact (by decide:(1:Int)<=2)
 have hnum:(Zch (magI (a.natAbs:Int))).Ret (a.natAbs:Int):=⟨_,word1 _,_,word0 ⟨by omega,by omega⟩,w⟩
 have he:(ZeB (a.natAbs:Int) 1).Ret 1:=by
  show (Cq.next _ _).wp _
  refine Cq.Zk (Cq.wp.yes lt01 ⟨by decide,?_⟩)
  show (Cq.loop _ _).wp _
  rw[tmod_one]
  exact Cq.Zk (Cq.wp.no nlt00 rfl)
 have hw:(Zbf 1).Ret [1]:=Cq.Ret.Zo 8 rfl
 have hc:(Zdm (magI (a.natAbs:Int)) [1]).Ret [1]:=by
  show (Cq.next _ _).wp _
  refine Cq.Zk (Cq.wp.yes lt01 (Cq.wp.yes hlen ?_))
  refine Cq.wp.yes rfl ⟨_,hnum,1,Cq.Ret.Zo 8 rfl,_,he,_,hw,?_⟩
  rfl
 exact⟨_,hc,_,Zb4 false (x:=1) (by decide) (ZdP 1),rfl⟩
theorem ZhQ{a:Int}(ha:a.natAbs<4294967296):(ZcZ (intI a) (intI 1)).Ret (intI a):=by
 have hd:(ZbP (magI (a.natAbs:Int)) [1]).Ret (magI (a.natAbs:Int),[]):=by
  have hc:=Zfj (a:=(a.natAbs:Int)) (b:=1) (by omega) (by omega)
  refine⟨_,hc,?_⟩
  by_cases h0:a=0
  .subst h0
   exact Cq.wp.yes (by decide:(-1:Int)<0) rfl
  have h1:¬ ((a.natAbs:Int)<1):=by omega
  rw[if_neg h1]
  refine Cq.wp.no (by split <;> omega) (Cq.wp.yes rfl ⟨1,⟨le00,rfl⟩,(magI (a.natAbs:Int),0),?_,[],?_,rfl⟩)
  .rw[mag1 (by omega:(a.natAbs:Int)≠0)]
   refine⟨⟨le01,(by decide:(1:Int)<=1000000)⟩,?_⟩
   show (Cq.next _ _).wp _
   refine Cq.Zk (Cq.wp.yes le00 ⟨_,⟨le00,rfl⟩,by decide,0,⟨le00,rfl⟩,by decide,?_⟩)
   have w:u64.wrap (u64.wrap (0*4294967296)+u64.wrap (a.natAbs:Int))=(a.natAbs:Int):=by
    rw[Int.zero_mul,Zu (x:=0) (by omega),Int.zero_add,Zu (x:=(a.natAbs:Int)) (by omega),Zu (by omega)]
   have w2:u32.wrap (u64.wrap (Int.tdiv (a.natAbs:Int) (u64.wrap 1)))=(a.natAbs:Int):=by
    rw[Zu (x:=1) (by omega),Int.tdiv_one,Zu (by omega),ZdR (by omega)]
   have w3:Int.tmod (a.natAbs:Int) (u64.wrap 1)=0:=tmod_one _
   show (Cq.loop _ _).wp _
   rw[w,w2,w3]
   refine Cq.Zk (Cq.wp.no (by decide:¬ (0:Int)<=-1) ⟨_,ZdQ _,?_⟩)
   rw[mag1 (by omega:(a.natAbs:Int)≠0)]
   rfl
  exact⟨_,ZgO 0,rfl⟩
 refine⟨(intI a,intI 0,0),?_,rfl⟩
 refine Cq.wp.no (by decide) ⟨_,hd,?_⟩
 have hm:(Zaa (decide (¬ (intI a).neg=(intI 1).neg)) (magI (a.natAbs:Int))).Ret (intI a):=by
  have:=Zb4 (decide (¬ (intI a).neg=(intI 1).neg)) (x:=(a.natAbs:Int)) (by omega) (ZdP _)
  rw[Zac] at this ⊢
  by_cases h2:a<0
  .rw[decide_eq_true h2] at this ⊢
   rw[if_pos (by decide),show -(a.natAbs:Int)=a by omega] at this
   exact this
  rw[decide_eq_false h2] at this ⊢
  rw[if_neg (by decide),show (a.natAbs:Int)=a by omega] at this
  rw[show (a.natAbs:Int)=a by omega]
  exact this
 have hk:(ZbV (intI a) (intI 1) (magI (a.natAbs:Int)) []).wp fun r=>r=(intI a,intI 0,0):=⟨_,hm,_,Zb4 false (x:=0) (by decide) ZgN,rfl⟩
 rw[Cq.Zi]
 split
 .exact Cq.wp.no (by decide:¬ decide ((0:Int)<0)=true) hk
 exact Cq.wp.no (by decide) hk
theorem Zkj{a:Int}(ha:a.natAbs<4294967296):(ZaP (intI a) (intI 1)).Ret (ratI a):=by
 refine⟨_,gcd_one ha,1,Cq.Ret.Zo 5 rfl,Cq.wp.no (by decide) ⟨_,ZhQ ha,_,ZhQ (a:=1) (by decide),?_⟩⟩
 show _=_
 rw[ZaX]
 rfl
theorem Zks{a b:Int}(ha:a.natAbs<65536)(hb:b.natAbs<65536):(Zds (ratI a) (ratI b)).Ret (ratI (a*b)):=by
 have hab:(a*b).natAbs<4294967296:=by
  rw[Int.natAbs_mul]
  exact Nat.lt_of_lt_of_le (Nat.mul_lt_mul'' ha hb) (by decide)
 rw[ZaX a,ZaX b]
 exact⟨_,Zhx (by omega) (by omega) hab,_,Zhx (a:=1) (b:=1) (by decide) (by decide) (by decide),_,Zkj hab,rfl⟩
end Go.EL

namespace Go.EL
open Go.IntKind (i8 i16 i32 i64 u8 u16 u32 u64)
open Go Go.RowKit
theorem ZlP{a b:M}(ha:Ok a)(hb:Ok b)(hab:Ok (mulM a b)):(ZdJ a b).Ret (mulM a b,0):=by
 show (Cq.next _ _).wp _
 refine Cq.Zn 8 (fun k s=>s=((k:Int),mixM k (mulM a b) a)) (fun k s hk hs=>?_) (fun s hs=>?_) (by rw[ZiR]; rfl)
 .subst hs
  have h1:=ha ⟨k,hk⟩
  have h2:=hb ⟨k,hk⟩
  rw[Cq.Zi,if_pos (by omega)]
  refine⟨by omega,by omega,by omega,?_⟩
  show _=_
  rw[wrapN (by omega),getFN hk,getFN hk,Zld,wrap64 (by omega)]
  exact congrArg (Prod.mk _) (ZiQ (mulM a b) a hk)
 subst hs
 rw[Cq.Zi,if_neg (by omega),ZjP _ _ (by omega)]
 exact⟨true,Zfc hab,rfl⟩
end Go.EL

namespace Go.EL
open Go.IntKind (i8 i16 i32 i64 u8 u16 u32 u64)
open Go Go.RowKit
def gcdTo:List Za->Nat
 | []=>0
 | t::p=>Nat.gcd (numC t.c).natAbs (gcdTo p)
def sgnP(p:List Za):Int:=match p with
 | []=>1
 | t::_=>if numC t.c<0 then -1 else 1
def quoC(s:Int)(g:Nat)(c:Zf):Zf:=ratI (s*(numC c / (g:Int)))
def primP(p:List Za):List Za:=p.map fun t=>⟨quoC (sgnP p) (gcdTo p) t.c,t.m⟩
theorem Zmd:(between 0 12 fun a=>between (-12) 12 fun b=>runs 60 (ZJ (intI a) (intI b)) (intI (Nat.gcd a.natAbs b.natAbs:Nat)))=true:=by decide +kernel
theorem Zme:(between 1 12 fun g=>runs 60 (Zbt (intI 1) (intI g)) (⟨intI 1,intI g⟩,0) && runs 60 (Zbt (intI (-1)) (intI g)) (⟨intI (-1),intI g⟩,0))=true:=by decide +kernel
theorem Zk7:(between 1 12 fun g=>between (-12) 12 fun n=>n == 0 || n % g != 0 || (runs 60 (ZY ⟨intI 1,intI g⟩ (ratI n)) (ratI (1*(n / g))) && runs 60 (ZY ⟨intI (-1),intI g⟩ (ratI n)) (ratI (-1*(n / g)))))=true:=by decide +kernel
theorem ZeM:(ZJ (intI 1) ⟨false,[1]⟩).Ret (intI 1)/\(ZI ⟨false,[1]⟩ (intI 1)).Ret (intI 1,intI 0,0)/\(Z7 (intI 1) (intI 1)).Ret (intI 1)/\(Za3 (intI 1)).Ret (intI (-1)):=⟨Cq.Ret.Zo 60 (by decide +kernel),Cq.Ret.Zo 60 (by decide +kernel),Cq.Ret.Zo 60 (by decide +kernel),Cq.Ret.Zo 60 (by decide +kernel)⟩
theorem Zmz:(between 1 12 fun g=>runs 60 (ZA ⟨intI 1,intI g⟩) 1 && runs 60 (ZA ⟨intI (-1),intI g⟩) (-1) && runs 60 (Zaz ⟨intI 1,intI g⟩) 1 && runs 60 (Zaz ⟨intI (-1),intI g⟩) (-1))=true:=by decide +kernel
theorem PolOk.num{p:List Za}(h:PolOk p){t:Za}(ht:t ∈ p):t.c=ratI (numC t.c)/\numC t.c≠0/\-12<=numC t.c/\numC t.c<=12:=by
 obtain⟨⟨n,e,h0,h1,h2⟩,_⟩:=h.trm t ht
 have:numC t.c=n:=by rw[e,Zaj]
 rw[this]
 exact⟨e,h0,h1,h2⟩
theorem PolOk.parts{p:List Za}(h:PolOk p){t:Za}(ht:t ∈ p):t.c.num=intI (numC t.c)/\t.c.den=⟨false,[1]⟩:=by
 obtain⟨⟨n,e,_⟩,_⟩:=h.trm t ht
 have:numC t.c=n:=by rw[e,Zaj]
 rw[this,e,ZaX]
 exact⟨rfl,rfl⟩
theorem PolOk.good{p:List Za}(h:PolOk p):goodP p=true:=by
 have hl:=h.len
 unfold goodP
 rw[Bool.and_eq_true]
 refine⟨decide_eq_true (by omega),List.all_eq_true.2 fun t ht=>?_⟩
 obtain⟨e,h0,h1,h2⟩:=h.num ht
 rw[e]
 exact Zkc h0 h1 h2
theorem Zd0:∀ {p:List Za}{t:Za},t ∈ p->gcdTo p ∣ (numC t.c).natAbs
 | x::p,t,h=>by
  rcases List.mem_cons.1 h with rfl|h
  .exact Nat.gcd_dvd_left _ _
  exact Nat.dvd_trans (Nat.gcd_dvd_right _ _) (Zd0 h)
theorem Zc2{p:List Za}(h:PolOk p)(hne:p≠[]):1<=gcdTo p/\gcdTo p<=12:=by
 match p,hne with
 | t::p,_=>
  have hd:=Zd0 (p:=t::p) (t:=t) (by simp)
  obtain⟨e,h0,h1,h2⟩:=h.num (t:=t) (by simp)
  have:=Nat.le_of_dvd (by omega) hd
  have:=Nat.pos_of_dvd_of_pos hd (by omega)
  omega
theorem Zer{p:List Za}{t:Za}(ht:t ∈ p):numC t.c % (gcdTo p:Int)=0:=Int.emod_eq_zero_of_dvd (Int.ofNat_dvd_left.2 (Zd0 ht))
theorem ZjY(p:List Za):sgnP p=1\/sgnP p = -1:=by
 unfold sgnP
 split
 .exact .inl rfl
 split
 .exact .inr rfl
 exact .inl rfl
theorem Zl6(p:List Za)(k:Nat)(h:k<p.length):gcdTo (p.take (k+1))=Nat.gcd (gcdTo (p.take k)) (numC p[k].c).natAbs:=by
 rw[List.take_succ_eq_append_getElem h]
 generalize p.take k=l
 generalize p[k]=t
 induction l with
 | nil=>simp[gcdTo]
 | cons x l ih=>simp only[List.cons_append,gcdTo,ih]; rw[Nat.gcd_assoc]
theorem Zl5{p:List Za}(h:PolOk p)(k:Nat):gcdTo (p.take k)<=12:=by
 by_cases he:p.take k=[]
 .rw[he]; exact Nat.zero_le _
 have hk:∃ t,t ∈ p.take k:=List.exists_mem_of_ne_nil _ he
 obtain⟨t,ht⟩:=hk
 have hd:=Zd0 ht
 obtain⟨_,h0,h1,h2⟩:=h.num (List.mem_of_mem_take ht)
 have:=Nat.le_of_dvd (by omega) hd
 omega
theorem ZjQ{m:M}(h:Ok m):Ok (mulM (fun _=>0) m):=by rw[mul_zero]; exact h
theorem ok0:Ok fun _=>0:=fun _=>⟨Int.le_refl 0,(by decide:(0:Int)<=65535)⟩
theorem Zez{c:Zf}{f:Zf->Zf}{p:List Za}(hl:p.length<=100)(hm:∀ t ∈ p,Ok t.m){s:Int}(hs:(ZA c).Ret s)(h0:s≠0)(hf:∀ t ∈ p,(ZY c t.c).Ret (f t.c)):
  (Zb6 c (fun _=>0) p).Ret (p.map fun t=>⟨f t.c,t.m⟩,0):=by
 refine⟨s,hs,Cq.wp.no h0 ⟨⟨by omega,by omega⟩,?_⟩⟩
 refine Cq.Zn p.length (fun k s=>s=((p.take k).map fun t=>⟨f t.c,t.m⟩,(k:Int))) (fun k s hk hs=>?_) (fun s hs=>?_) rfl
 .subst hs
  refine Cq.wp.yes (by omega) ⟨p[k],idxN hk,_,ZlP ok0 (hm _ (List.getElem_mem hk)) (ZjQ (hm _ (List.getElem_mem hk))),Cq.wp.no (fun h=>h rfl) ⟨_,hf _ (List.getElem_mem hk),?_,?_⟩⟩
  .simp only[List.length_append,List.length_map,List.length_take,List.length_singleton,small]; omega
  show _=_
  rw[wrapN (by omega),mul_zero,List.take_succ_eq_append_getElem hk,List.map_append]
  rfl
 subst hs
 refine Cq.wp.no (by omega) ?_
 show _=_
 rw[List.take_of_length_le (Nat.le_refl _)]
theorem Zj5{c:Zf}{f:Zf->Zf}{p:List Za}(hl:p.length<=100)(hm:∀ t ∈ p,Ok t.m){s:Int}(hs:(Zaz c).Ret s)(h0:s≠0)(hf:∀ t ∈ p,(Zds c t.c).Ret (f t.c)):
  (Zbg c (fun _=>0) p).Ret (p.map fun t=>⟨f t.c,t.m⟩,0):=by
 refine⟨s,hs,Cq.wp.no h0 ?_⟩
 refine Cq.Zn p.length (fun k s=>s=((p.take k).map fun t=>⟨f t.c,t.m⟩,(k:Int))) (fun k s hk hs=>?_) (fun s hs=>?_) rfl
 .subst hs
  refine Cq.wp.yes (by omega) ⟨p[k],idxN hk,_,Zf3 ok0 (hm _ (List.getElem_mem hk)) (ZjQ (hm _ (List.getElem_mem hk))),Cq.wp.no (fun h=>h rfl) ⟨p[k],idxN hk,_,hf _ (List.getElem_mem hk),?_,?_⟩⟩
  .simp only[List.length_append,List.length_map,List.length_take,List.length_singleton,small]; omega
  show _=_
  rw[wrapN (by omega),mul_zero,List.take_succ_eq_append_getElem hk,List.map_append]
  rfl
 subst hs
 refine Cq.wp.no (by omega) ?_
 show _=_
 rw[List.take_of_length_le (Nat.le_refl _)]
theorem PolOk.mono{p:List Za}(h:PolOk p):∀ t ∈ p,Ok t.m:=fun t ht=>(h.trm t ht).m
theorem Zmb{p:List Za}(hne:0<p.length):(p[0]'hne) ∈ p:=List.getElem_mem hne
theorem Zh7{p:List Za}(hne:0<p.length):sgnP p=if numC (p[0]'hne).c<0 then -1 else 1:=by
 match p,hne with
 | t::p,_=>rfl
theorem Zdl{p:List Za}(h:PolOk p)(hne:p≠[]):(ZaC p).Ret (primP p):=by
 have hl:=h.len
 have h0:0<p.length:=List.length_pos_iff.2 hne
 obtain⟨g1,g2⟩:=Zc2 h hne
 refine Cq.wp.no (by omega) ⟨intI 0,Cq.Ret.Zo 20 (by decide +kernel),intI 1,Cq.Ret.Zo 20 (by decide +kernel),?_⟩
 show (ZcL p (0,intI 0,intI 1)).wp _
 refine Cq.Zn p.length (fun k s=>s=((k:Int),intI (gcdTo (p.take k):Int),intI 1)) (fun k s hk hs=>?_) (fun s hs=>?_) rfl
 .subst hs
  obtain⟨e,n0,n1,n2⟩:=h.num (List.getElem_mem hk)
  obtain⟨en,ed⟩:=h.parts (List.getElem_mem hk)
  have hg:=Zl5 h k
  have hr:=Zy (Zy Zmd (x:=(gcdTo (p.take k):Int)) (by omega) (by omega)) n1 n2
  refine Cq.wp.yes (by omega) ⟨p[k],idxN hk,intI (Nat.gcd (gcdTo (p.take k):Int).natAbs (numC p[k].c).natAbs:Nat),(by rw[en]; exact ZM hr),intI 1,(by rw[ed]; exact ZeM.1),(intI 1,intI 0,0),(by rw[ed]; exact ZeM.2.1),intI 1,ZeM.2.2.1,?_⟩
  show _=_
  rw[wrapN (by omega),Zl6 p k hk]
  simp only[Int.natAbs_natCast]
 subst hs
 refine Cq.wp.no (by omega) ?_
 rw[List.take_of_length_le (Nat.le_refl _)]
 show (Z5 p (intI (gcdTo p:Int)) (intI 1)).Ret _
 unfold Z5
 obtain⟨e,n0,n1,n2⟩:=h.num (Zmb h0)
 have hs:=Zy Zh6 n1 n2
 rw[show (numC p[0].c == 0)=false by simpa using n0,Bool.false_or] at hs
 have hn:=Zy Zme (x:=(gcdTo p:Int)) (by omega) (by omega)
 have hq:=Zy Zmz (x:=(gcdTo p:Int)) (by omega) (by omega)
 simp only[Bool.and_eq_true] at hn hq
 have hm:∀ t ∈ p,(ZY ⟨intI 1,intI (gcdTo p:Int)⟩ t.c).Ret (quoC 1 (gcdTo p) t.c)/\(ZY ⟨intI (-1),intI (gcdTo p:Int)⟩ t.c).Ret (quoC (-1) (gcdTo p) t.c):=fun t ht=>by
  obtain⟨e,n0,n1,n2⟩:=h.num ht
  have:=Zy (Zy Zk7 (x:=(gcdTo p:Int)) (by omega) (by omega)) n1 n2
  rw[show (numC t.c == 0)=false by simpa using n0,show (numC t.c % (gcdTo p:Int) != 0)=false by simpa using Zer ht,Bool.false_or,Bool.false_or,Bool.and_eq_true] at this
  unfold quoC
  rw[e,Zaj]
  exact⟨ZM this.1,ZM this.2⟩
 refine⟨p[0],⟨by omega,by simp[h0]⟩,_,(by rw[e]; exact ZM hs),?_⟩
 unfold primP
 rw[Zh7 h0]
 by_cases hneg:numC p[0].c<0
 .rw[if_pos hneg,if_pos hneg]
  refine Cq.wp.yes (by decide) ⟨_,ZeM.2.2.2,?_⟩
  exact⟨_,ZM hn.2,_,Zez hl h.mono (ZM hq.1.1.2) (by decide) (fun t ht=>(hm t ht).2),rfl⟩
 rw[if_neg hneg,if_neg hneg,if_neg n0]
 refine Cq.wp.no (by decide) ?_
 exact⟨_,ZM hn.1,_,Zez hl h.mono (ZM hq.1.1.1) (by decide) (fun t ht=>(hm t ht).1),rfl⟩
end Go.EL

namespace Go.EL
open Go.IntKind (i8 i16 i32 i64 u8 u16 u32 u64)
open Go Go.RowKit
theorem ZiT(s:Int)(g:Nat)(c:Zf):numC (quoC s g c)=s*(numC c / (g:Int)):=Zaj _
theorem Zlq{n:Int}{g:Nat}(hg:1<=g)(hd:n % (g:Int)=0)(h0:n≠0):n / (g:Int)≠0:=fun h=>by
 have:=Int.mul_ediv_add_emod n g
 rw[h,hd] at this
 simp at this
 exact h0 this.symm
theorem Znk{n:Int}{g:Nat}(hg:1<=g)(h1:-12<=n)(h2:n<=12):-12<=n / (g:Int)/\n / (g:Int)<=12:=by
 refine⟨(Int.le_ediv_iff_mul_le (by omega)).2 ?_,Int.le_trans (Int.ediv_le_ediv (by omega) h2) (Int.ediv_le_self _ (by decide))⟩
 have:(g:Int)*12 ≥ 12:=by omega
 omega
theorem ZgI(p:List Za):(primP p).length=p.length:=List.length_map _
theorem ZcP{p:List Za}:primP p=[]↔p=[]:=by unfold primP; simp
theorem Zms{p:List Za}{t:Za}(h:t ∈ primP p):∃ x ∈ p,t=⟨quoC (sgnP p) (gcdTo p) x.c,x.m⟩:=by
 obtain⟨x,h1,h2⟩:=List.mem_map.1 h
 exact⟨x,h1,h2.symm⟩
theorem ZfS{p:List Za}(h:PolOk p):PolOk (primP p) where
 ord:=by
  unfold primP
  rw[List.pairwise_map]
  exact h.ord
 trm:=fun t ht=>by
  obtain⟨x,hx,rfl⟩:=Zms ht
  have hne:p≠[]:=fun e=>by rw[e] at hx; cases hx
  obtain⟨g1,g2⟩:=Zc2 h hne
  obtain⟨e,n0,n1,n2⟩:=h.num hx
  have q0:=Zlq g1 (Zer hx) n0
  obtain⟨q1,q2⟩:=Znk (g:=gcdTo p) g1 n1 n2
  refine⟨⟨_,rfl,?_,?_,?_⟩,h.mono x hx⟩
  all_goals rcases ZjY p with s|s <;> rw[s] <;> omega
 len:=by rw[ZgI]; exact h.len
theorem Zhk(p:List Za):∀ k,degPTo (primP p) k=degPTo p k
 | 0=>rfl
 | k+1=>by
  unfold degPTo
  rw[Zhk p k]
  unfold primP
  rw[List.getElem?_map]
  cases p[k]? <;> rfl
theorem Zbr(p:List Za):degP (primP p)=degP p:=by unfold degP; rw[ZgI,Zhk]
theorem Zgi(p:List Za):∀ k,usesTo (primP p) k=usesTo p k
 | 0=>rfl
 | k+1=>by
  unfold usesTo
  rw[Zgi p k]
  unfold primP
  rw[List.getElem?_map]
  cases p[k]? <;> rfl
theorem Zlo(p:List Za):usesP (primP p)=usesP p:=by unfold usesP; rw[ZgI,Zgi]
theorem Zi1(p:List Za)(n:Int):fitB (primP p) n=fitB p n:=by unfold fitB; rw[Zlo,Zbr]
theorem ZhR{s:Int}(hs:s=1\/s = -1){g:Nat}(hg:1<=g):∀ {p:List Za},(∀ t ∈ p,numC t.c % (g:Int)=0)->gcdTo (p.map fun t=>⟨quoC s g t.c,t.m⟩)*g=gcdTo p
 | [],_=>Nat.zero_mul _
 | t::p,h=>by
  have ih:=ZhR hs hg (p:=p) (fun x hx=>h x (by simp[hx]))
  have ht:=h t (by simp)
  simp only[List.map_cons,gcdTo]
  rw[<- ih,<- Nat.gcd_mul_right,ZiT]
  congr 1
  have e1:(s*(numC t.c / (g:Int))).natAbs=(numC t.c / (g:Int)).natAbs:=by rcases hs with rfl|rfl <;> simp
  rw[e1]
  have e2:=Int.mul_ediv_add_emod (numC t.c) g
  rw[ht,Int.add_zero] at e2
  rw[<- e2,Int.natAbs_mul,e2,Int.natAbs_natCast,Nat.mul_comm]
theorem Zmr{p:List Za}(h:PolOk p)(hne:p≠[]):gcdTo (primP p)=1:=by
 obtain⟨g1,g2⟩:=Zc2 h hne
 have:=ZhR (ZjY p) g1 (p:=p) (fun t ht=>Zer ht)
 exact Nat.eq_of_mul_eq_mul_right g1 (by rw[Nat.one_mul]; exact this)
theorem Zmt{p:List Za}(h:PolOk p):sgnP (primP p)=1:=by
 match p,h with
 | [],_=>rfl
 | t::q,h=>
  obtain⟨e,n0,n1,n2⟩:=h.num (t:=t) (by simp)
  obtain⟨g1,g2⟩:=Zc2 h (by simp)
  have hd:=Zer (p:=t::q) (t:=t) (by simp)
  show (if numC (quoC _ _ t.c)<0 then (-1:Int) else 1)=1
  rw[ZiT,if_neg]
  have q0:=Zlq g1 hd n0
  have e2:=Int.mul_ediv_add_emod (numC t.c) (gcdTo (t::q))
  rw[hd,Int.add_zero] at e2
  unfold sgnP
  dsimp only
  generalize gcdTo (t::q)=g at *
  generalize numC t.c / (g:Int)=z at *
  by_cases hn:numC t.c<0
  .rw[if_pos hn]
   have:¬ 0<z:=fun hz=>by
    have:=Int.mul_pos (show (0:Int)<(g:Int) by omega) hz
    omega
   omega
  rw[if_neg hn]
  have:¬ z<0:=fun hz=>by
   have:=Int.mul_neg_of_pos_of_neg (show (0:Int)<(g:Int) by omega) hz
   omega
  omega
theorem Zm4{p:List Za}(h:PolOk p){t:Za}(ht:t ∈ p):quoC 1 1 t.c=t.c:=by
 obtain⟨e,_⟩:=h.num ht
 unfold quoC
 rw[Int.one_mul,Int.natCast_one,Int.ediv_one]
 exact e.symm
theorem Zh2{p:List Za}(h:PolOk p):primP (primP p)=primP p:=by
 by_cases hne:p=[]
 .subst hne; rfl
 have ho:=ZfS h
 show (primP p).map (fun t=>(⟨quoC (sgnP (primP p)) (gcdTo (primP p)) t.c,t.m⟩:Za))=primP p
 rw[Zmr h hne,Zmt h]
 refine (List.map_congr_left fun t ht=>?_).trans (List.map_id _)
 rw[Zm4 ho ht]
 rfl
def Strict(l:List (List Za)):Prop:=l.Pairwise fun a b=>cmpP a b<0
theorem Zgl:∀ {l m:List (List Za)},Strict l->Strict m->(∀ x,x ∈ l↔x ∈ m)->l=m
 | [],[],_,_,_=>rfl
 | [],y::m,_,_,h=>by have:=(h y).2 (by simp); cases this
 | x::l,[],_,_,h=>by have:=(h x).1 (by simp); cases this
 | x::l,y::m,h1,h2,h=>by
  obtain⟨a1,a2⟩:=List.pairwise_cons.1 h1
  obtain⟨b1,b2⟩:=List.pairwise_cons.1 h2
  have e:x=y:=by
   rcases List.mem_cons.1 ((h x).1 (by simp)) with e|hx
   .exact e
   rcases List.mem_cons.1 ((h y).2 (by simp)) with e|hy
   .exact e.symm
   have q1:=b1 x hx
   have q2:=a1 y hy
   have:=Z4 x y
   omega
  subst e
  have ne:∀ {z:List Za}{k:List (List Za)},(∀ a ∈ k,cmpP z a<0)->z ∉ k:=fun hk hz=>by have:=hk _ hz; rw[Zc1] at this; omega
  rw[Zgl a2 b2 fun z=>⟨fun hz=>?_,fun hz=>?_⟩]
  .rcases List.mem_cons.1 ((h z).1 (by simp[hz])) with e|hz'
   .subst e; exact absurd hz (ne a1)
   exact hz'
  rcases List.mem_cons.1 ((h z).2 (by simp[hz])) with e|hz'
  .subst e; exact absurd hz (ne b1)
  exact hz'
theorem ZiE:∀ {l:List (List Za)}{x:List Za},(x::l).Pairwise (fun a b=>cmpP a b<=0)->(∀ p ∈ x::l,goodP p=true)->Strict (x::dedG x l)/\∀ z,z ∈ x::dedG x l↔z ∈ x::l
 | [],x,_,_=>⟨List.pairwise_singleton _ _,fun _=>Iff.rfl⟩
 | y::l,x,h,hg=>by
  obtain⟨a1,a2⟩:=List.pairwise_cons.1 h
  obtain⟨i1,i2⟩:=ZiE a2 (fun p hp=>hg p (by simp at hp ⊢; exact .inr hp))
  unfold dedG
  by_cases e:cmpP y x=0
  .rw[if_pos e]
   have:y=x:=Zfi (hg y (by simp)) (hg x (by simp)) e
   subst this
   refine⟨i1,fun z=>?_⟩
   rw[i2 z]
   simp
  rw[if_neg e]
  have hxy:cmpP x y<0:=by
   have:=a1 y (by simp)
   have:=Z4 x y
   omega
  refine⟨List.pairwise_cons.2 ⟨fun z hz=>?_,i1⟩,fun z=>?_⟩
  .rcases List.mem_cons.1 hz with rfl|hz'
   .exact hxy
   exact (Zby x y z (by omega) (by have:=(List.pairwise_cons.1 i1).1 z hz'; omega)).2 (.inl hxy)
  have:=i2 z
  simp only[List.mem_cons] at this ⊢
  rw[this]
def srtP(l:List (List Za)):List (List Za):=dedP (ordP l)
theorem ZeT{l:List (List Za)}(hg:∀ p ∈ l,goodP p=true):Strict (srtP l)/\∀ z,z ∈ srtP l↔z ∈ l:=by
 have hm:∀ z,z ∈ ordP l↔z ∈ l:=fun z=>(ZaO l).mem_iff
 have hs:=Zei l
 unfold srtP
 generalize ordP l=m at *
 match m,hm,hs with
 | [],hm,_=>exact⟨List.Pairwise.nil,hm⟩
 | x::m,hm,hs=>
  obtain⟨q1,q2⟩:=ZiE hs (fun p hp=>hg p ((hm p).1 hp))
  exact⟨q1,fun z=>(q2 z).trans (hm z)⟩
theorem Zja{l m:List (List Za)}(hg:∀ p ∈ l,goodP p=true)(hs:Strict m)(h:∀ z,z ∈ m↔z ∈ l):m=srtP l:=by
 obtain⟨q1,q2⟩:=ZeT hg
 exact Zgl hs q1 fun z=>(h z).trans (q2 z).symm
theorem ZfT(l:List (List Za)):(srtP l).length<=l.length:=Nat.le_trans ZiD (Nat.le_of_eq (ZaO l).length_eq)
end Go.EL

namespace Go.EL
open Go.IntKind (i8 i16 i32 i64 u8 u16 u32 u64)
open Go Go.RowKit
def keepP(plain:Bool)(q:List Za):Bool:=!q.isEmpty && !(plain && decide (degP q=0))
theorem ZkC{v:List (List Za)}{y:List Za}(hs:Strict v){k:Nat}(hk:k<=v.length)(h1:∀ i (h:i<v.length),i<k->cmpP v[i] y<0)(h2:∀ h:k<v.length,0<cmpP v[k] y):
  Strict (v.take k++([y]++v.drop k))/\∀ z,z ∈ v.take k++([y]++v.drop k)↔z ∈ v\/z=y:=by
 have hd:∀ z ∈ v.drop k,0<cmpP z y:=fun z hz=>by
  obtain⟨j,hj,rfl⟩:=List.getElem_of_mem hz
  rw[List.length_drop] at hj
  have hk':k<v.length:=by omega
  rw[List.getElem_drop]
  have q:=h2 hk'
  by_cases e:j=0
  .subst e; exact q
  have:=List.pairwise_iff_getElem.1 hs k (k+j) hk' (by omega) (by omega)
  have n1:=Z4 v[k] y
  have n2:=Z4 v[k+j] y
  have:=(Zby y v[k] v[k+j] (by omega) (by omega)).2 (.inl (by omega))
  omega
 refine⟨?_,fun z=>?_⟩
 .unfold Strict
  rw[List.pairwise_append]
  have hs':((v.take k)++v.drop k).Pairwise fun a b=>cmpP a b<0:=by rw[List.take_append_drop]; exact hs
  obtain⟨q1,q2,q3⟩:=List.pairwise_append.1 hs'
  refine⟨q1,?_,fun a ha b hb=>?_⟩
  .refine List.pairwise_cons.2 ⟨fun z hz=>?_,q2⟩
   have:=hd z hz
   have:=Z4 z y
   omega
  rcases List.mem_cons.1 hb with rfl|hb
  .obtain⟨j,hj,rfl⟩:=List.getElem_of_mem ha
   rw[List.length_take] at hj
   rw[List.getElem_take]
   exact h1 j (by omega) (by omega)
  exact q3 a ha b hb
 have:z ∈ v↔z ∈ v.take k\/z ∈ v.drop k:=by rw[<- List.mem_append,List.take_append_drop]
 rw[this]
 simp only[List.mem_append,List.mem_cons,List.not_mem_nil,or_false,List.singleton_append]
 constructor
 .rintro (h|h|h)
  .exact .inl (.inl h)
  .exact .inr h
  exact .inl (.inr h)
 rintro ((h|h)|h)
 .exact .inl h
 .exact .inr (.inr h)
 exact .inr (.inl h)
def kept(l:List (List Za))(plain:Bool):List (List Za):=(l.map primP).filter (keepP plain)
theorem Zc4{l:List (List Za)}(h:∀ p ∈ l,PolOk p){plain:Bool}:∀ q ∈ kept l plain,PolOk q:=fun q hq=>by
 obtain⟨p,hp,rfl⟩:=List.mem_map.1 (List.mem_filter.1 hq).1
 exact ZfS (h p hp)
theorem Zc5(l:List (List Za))(plain:Bool){k:Nat}(hk:k<l.length):kept (l.take (k+1)) plain=kept (l.take k) plain++(if keepP plain (primP l[k])=true then [primP l[k]] else []):=by
 unfold kept
 rw[List.take_succ_eq_append_getElem hk,List.map_append,List.filter_append]
 congr 1
 simp only[List.map_cons,List.map_nil,List.filter_cons,List.filter_nil]
structure SrtI (l:List (List Za)) (plain:Bool) (k:Nat) (v:List (List Za)):Prop where
 st:Strict v
 mem:∀ z,z ∈ v↔z ∈ kept (l.take k) plain
 len:v.length<=k
theorem SrtI.put{l:List (List Za)}{plain:Bool}{k:Nat}{v:List (List Za)}(h:SrtI l plain k v)(hk:k<l.length)(hn:keepP plain (primP l[k])=true){j:Nat}(hj:j<=v.length)(h1:∀ i (h:i<v.length),i<j->cmpP v[i] (primP l[k])<0)(h2:∀ h:j<v.length,0<cmpP v[j] (primP l[k])):
  SrtI l plain (k+1) (v.take j++([primP l[k]]++v.drop j)):=by
 obtain⟨q1,q2⟩:=ZkC h.st hj h1 h2
 refine⟨q1,fun z=>?_,?_⟩
 .rw[q2 z,h.mem z,Zc5 l plain hk,hn,if_pos rfl,List.mem_append,List.mem_singleton]
 have:=h.len
 simp only[List.length_append,List.length_take,List.length_drop,List.length_singleton]
 omega
end Go.EL

namespace Go.EL
open Go.IntKind (i8 i16 i32 i64 u8 u16 u32 u64)
open Go Go.RowKit
def letterB(b:Int):Bool:=decide (65<=b/\b<=90) || decide (97<=b/\b<=122)
def restB(b:Int):Bool:=decide (48<=b/\b<=57) || decide (b=95)
def charB(i:Nat)(b:Int):Bool:=letterB b || (decide (0<i) && restB b)
def nameB(s:ByteArray):Bool:=decide (1<=s.size/\s.size<=12) && (List.range s.size).all fun i=>charB i (byteAt s (i:Int))
theorem ZjR{s:ByteArray}{i:Nat}(hi:i<s.size)(h:charB i (byteAt s (i:Int))=false):nameB s=false:=by
 unfold nameB
 rw[Bool.and_eq_false_iff]
 right
 rw[List.all_eq_false]
 exact⟨i,List.mem_range.2 hi,by rw[h]; decide⟩
theorem Zmi{s:ByteArray}(h1:1<=s.size/\s.size<=12)(h:∀ i,i<s.size->charB i (byteAt s (i:Int))=true):nameB s=true:=by
 unfold nameB
 rw[decide_eq_true h1,Bool.true_and,List.all_eq_true]
 exact fun i hi=>h i (List.mem_range.1 hi)
theorem Zkh(b:Int):(ZbZ b).Ret (restB b):=by
 unfold ZbZ restB
 by_cases h1:48<=b <;> by_cases h2:b<=57 <;> simp[h1,h2] <;> first|rfl|omega
theorem ZiN(s:ByteArray)(i:Nat):((s.get! i).toNat:Int)=byteAt s (i:Int):=by
 unfold byteAt
 simp only[Int.toNat_natCast]
 congr 2
theorem Zka{s:ByteArray}{p:Nat}(h:byteAt s (p:Int)<128):((Utf8.decode s p).1:Int)=byteAt s (p:Int)/\(Utf8.decode s p).2=1:=by
 have hb:=ZiN s p
 unfold Utf8.decode
 simp only[Nat.add_zero]
 rw[if_pos (by omega)]
 exact⟨hb,rfl⟩
theorem decode_high{s:ByteArray}{p:Nat}(h:128<=byteAt s (p:Int)):128<=((Utf8.decode s p).1:Int):=by
 have hb:=ZiN s p
 unfold Utf8.decode
 simp only[Nat.add_zero,Utf8.runeError]
 rw[if_neg (by omega)]
 split
 .split
  .rename_i h; omega
  omega
 split
 .split
  .rename_i h; simp at h; omega
  omega
 split
 .split
  .rename_i h; simp at h; omega
  omega
 omega
theorem Zeh{b:Int}(h:128<=b):letterB b=false:=by unfold letterB; rw[decide_eq_false (by omega),decide_eq_false (by omega)]; rfl
theorem ZfG{b:Int}(h:128<=b):restB b=false:=by unfold restB; rw[decide_eq_false (by omega),decide_eq_false (by omega)]; rfl
theorem Zkg(s:ByteArray):(ZbY s).Ret (nameB s):=by
 unfold ZbY
 by_cases h1:(s.size:Int)<1
 .rw[if_pos h1]
  show false=nameB s
  unfold nameB
  rw[decide_eq_false (by omega),Bool.false_and]
 rw[if_neg h1]
 by_cases h2:12<(s.size:Int)
 .rw[if_pos h2]
  show false=nameB s
  unfold nameB
  rw[decide_eq_false (by omega),Bool.false_and]
 rw[if_neg h2]
 show (Cq.next _ _).wp _
 refine Cq.Zn s.size (fun k st=>st=k/\∀ i,i<k->charB i (byteAt s (i:Int))=true) (fun k st hk hs=>?_) (fun st hs=>?_) ⟨rfl,fun i hi=>by omega⟩
 .obtain⟨rfl,hi⟩:=hs
  have hstep:charB st (byteAt s (st:Int))=true->∀ i,i<st+1->charB i (byteAt s (i:Int))=true:=by
   intro hc i hik
   by_cases e:i=st
   .subst e; exact hc
   exact hi i (by omega)
  have hrune:letterB ((Utf8.decode s st).1:Int)=letterB (byteAt s (st:Int))/\restB ((Utf8.decode s st).1:Int)=restB (byteAt s (st:Int))/\(byteAt s (st:Int)<128->(Utf8.decode s st).2=1):=by
   by_cases hb:byteAt s (st:Int)<128
   .obtain⟨e1,e2⟩:=Zka hb
    rw[e1]; exact⟨rfl,rfl,fun _=>e2⟩
   have hd:=decode_high (s:=s) (p:=st) (by omega)
   rw[Zeh hd,ZfG hd,Zeh (by omega),ZfG (by omega)]
   exact⟨rfl,rfl,fun h=>absurd h hb⟩
  obtain⟨e1,e2,e3⟩:=hrune
  have hk3:(ZH s st (letterB ((Utf8.decode s st).1:Int))).wp (Out (fun s'=>s'=st+1/\∀ i,i<st+1->charB i (byteAt s (i:Int))=true) (fun ov=>(match ov with | .inl rv1=>Cq.ret rv1 | .inr ()=>Zaq:Cq Bool).wp fun a=>a=nameB s)):=by
   unfold ZH
   rw[e1]
   have hlow:letterB (byteAt s (st:Int))=true\/restB (byteAt s (st:Int))=true->(Utf8.decode s st).2=1:=fun h=>e3 (by
    by_cases hb:byteAt s (st:Int)<128
    .exact hb
    rw[Zeh (by omega),ZfG (by omega)] at h; simp at h)
   cases hl:letterB (byteAt s (st:Int)) with
   | true=>
    rw[if_pos rfl]
    exact⟨by rw[hlow (.inl hl)],hstep (by unfold charB; rw[hl]; rfl)⟩
   | false=>
    rw[if_neg (by decide),Cq.Zi]
    split
    .rename_i h0
     obtain rfl:st=0:=by omega
     exact (ZjR (i:=0) (by omega) (by unfold charB; rw[hl]; simp)).symm
    rename_i h0
    refine⟨_,Zkh _,?_⟩
    rw[e2,Cq.Zi]
    cases hr:restB (byteAt s (st:Int)) with
    | false=>
     rw[if_pos (by decide)]
     exact (ZjR (i:=st) hk (by unfold charB; rw[hl,hr]; simp)).symm
    | true=>
     rw[if_neg (by decide)]
     exact⟨by rw[hlow (.inr hr)],hstep (by unfold charB; rw[hl,hr,decide_eq_true (by omega)]; rfl)⟩
  have hlet:∀ {b:Bool},letterB ((Utf8.decode s st).1:Int)=b->(ZH s st b).wp (Out (fun s'=>s'=st+1/\∀ i,i<st+1->charB i (byteAt s (i:Int))=true) (fun ov=>(match ov with | .inl rv1=>Cq.ret rv1 | .inr ()=>Zaq:Cq Bool).wp fun a=>a=nameB s)):=fun h=>by subst h; exact hk3
  show (if st<s.size then _ else _:Cq _).wp _
  rw[Cq.Zi,if_pos hk]
  generalize ((Utf8.decode s st).1:Int)=c at *
  rw[Cq.Zi]
  split
  .rename_i a
   rw[Cq.Zi]
   split
   .rename_i b
    exact hlet (by unfold letterB; rw[decide_eq_true ⟨a,b⟩]; rfl)
   rename_i b
   rw[Cq.Zi]
   split
   .rename_i d
    refine hlet ?_
    unfold letterB
    rw[decide_eq_false (fun h=>b h.2),Bool.false_or]
    exact decide_eq_decide.2 ⟨fun h=>h.2,fun h=>⟨d,h⟩⟩
   rename_i d
   exact hlet (by unfold letterB; rw[decide_eq_false (fun h=>b h.2),decide_eq_false (fun h=>d h.1)]; rfl)
  rename_i a
  rw[Cq.Zi]
  split
  .rename_i d
   omega
  rename_i d
  exact hlet (by unfold letterB; rw[decide_eq_false (fun h=>a h.1),decide_eq_false (fun h=>d h.1)]; rfl)
 obtain⟨rfl,hi⟩:=hs
 refine Cq.wp.no (p:=s.size<s.size) (by omega) ?_
 exact (Zmi (by omega) hi).symm
end Go.EL

namespace Go.EL
open Go.IntKind (i8 i16 i32 i64 u8 u16 u32 u64)
open Go Go.RowKit
structure EqsOk (n:Nat) (next:Int) (l:List Zg):Prop where
 len:l.length<=12
 ids:∀ q ∈ l,1<=q.id/\q.id<next
 inc:l.Pairwise fun a b=>a.id<b.id
 pol:∀ q ∈ l,PolOk q.p/\fitB q.p (n:Int)=true
structure Good (s:Zm):Prop where
 vars:s.vars.length<=4
 name:∀ v ∈ s.vars,nameB v=true
 diff:s.vars.Pairwise fun a b=>a≠b
 next:1<=s.next/\s.next<=1000000
 eqs:EqsOk s.vars.length s.next s.eqs
 neqs:EqsOk s.vars.length s.next s.neqs
 apart:∀ a ∈ s.eqs,∀ b ∈ s.neqs,a.id≠b.id
def idKey(l:List Int):List (Int×Bool):=l.map fun i=>(i,true)
theorem Zk6{l:List Int}{i:Int}(h:i ∉ l):mput (idKey l) i true=idKey (l++[i])/\mget (idKey l) i=none:=by
 have hn:∀ p ∈ idKey l,p.1≠i:=fun p hp e=>by
  obtain⟨j,hj,rfl⟩:=List.mem_map.1 hp
  exact h (e ▸ hj)
 exact⟨by rw[ZcM hn]; simp[idKey],ZeP hn⟩
def idsOf(l:List Zg):List Int:=l.map (·.id)
theorem ZhA{l:List Zg}(h:l.Pairwise fun a b=>a.id<b.id){k:Nat}(hk:k<l.length):l[k].id ∉ idsOf (l.take k):=fun hm=>by
 obtain⟨q,hq,e⟩:=List.mem_map.1 hm
 obtain⟨i,hi,rfl⟩:=List.mem_iff_getElem.1 hq
 simp only[List.length_take] at hi
 rw[List.getElem_take] at e
 have:=List.pairwise_iff_getElem.1 h i k (by omega) hk (by omega)
 omega
theorem ZgZ{s:Zm}(hv:s.vars.length<=4)(hnx:s.next<=1000000){l:List Zg}(h:EqsOk s.vars.length s.next l){m:List Int}(hm:∀ q ∈ l,q.id ∉ m)(hml:m.length<=100):
  (Zd8 s l (0,idKey m)).Ret (.inr (idKey (m++idsOf l))):=by
 have hl:=h.len
 refine Cq.Zn l.length (fun k st=>st=((k:Int),idKey (m++idsOf (l.take k)))) (fun k st hk hs=>?_) (fun st hs=>?_) (by simp[idsOf])
 .subst hs
  have hid:=h.ids _ (List.getElem_mem hk)
  obtain⟨hp,hf⟩:=h.pol _ (List.getElem_mem hk)
  have hnew:l[k].id ∉ m++idsOf (l.take k):=fun hh=>by
   rcases List.mem_append.1 hh with hh|hh
   .exact hm _ (List.getElem_mem hk) hh
   exact ZhA h.inc hk hh
  obtain⟨hput,hget⟩:=Zk6 hnew
  have hwf:(Lit.int i64 l[k].id).wf=true:=by
   simp only[Lit.wf,Bool.and_eq_true,decide_eq_true_eq]
   exact⟨Int.le_trans (by decide) hid.1,Int.le_trans (Int.le_of_lt (Int.lt_of_lt_of_le hid.2 hnx)) (by decide)⟩
  have hk5:(Zbb s (k:Int) (idKey (m++idsOf (l.take k))) l[k]).wp (Out (fun s'=>s'=(((k+1:Nat):Int),idKey (m++idsOf (l.take (k+1))))) (fun a=>a=(.inr (idKey (m++idsOf l)):Bool⊕List (Int×Bool)))):=by
   refine⟨⟨hwf,?_⟩,true,Zcz hp (by omega) |> (hf ▸ ·),?_⟩
   .rw[hput]
    simp[idKey,idsOf,small]; omega
   rw[Cq.Zi,if_neg (by decide)]
   show _=_
   have e:idsOf (l.take (k+1))=idsOf (l.take k)++[l[k].id]:=by
    unfold idsOf
    rw[<- List.take_append_getElem hk,List.map_append]
    rfl
   rw[hput,wrapN (by omega),List.append_assoc,e]
  refine Cq.wp.yes (p:=(k:Int)<(l.length:Int)) (by omega) ?_
  refine⟨l[k],idxN hk,?_⟩
  rw[Cq.Zi,if_neg (by omega),Cq.Zi,if_neg (by omega)]
  refine⟨hwf,?_⟩
  rw[hget,Cq.Zi,if_neg (by simp),Cq.Zi]
  split
  .rename_i h0
   obtain⟨j,rfl⟩:∃ j,k=j+1:=⟨k-1,by omega⟩
   have hj:i64.wrap (((j+1:Nat):Int)-1)=(j:Int):=by rw[wrap64 (by omega)]; omega
   rw[hj]
   have:=List.pairwise_iff_getElem.1 h.inc j (j+1) (by omega) hk (by omega)
   refine⟨l[j],idxN (by omega),?_⟩
   rw[Cq.Zi,if_neg (by omega)]
   exact hk5
  exact hk5
 subst hs
 show (if ((l.length:Nat):Int)<(l.length:Int) then _ else _:Cq _).wp _
 rw[Cq.Zi,if_neg (by omega),List.take_length]
 rfl
def nameKey(l:List ByteArray):List (ByteArray×Bool):=l.map fun i=>(i,true)
theorem Zjw{l:List ByteArray}{i:ByteArray}(h:i ∉ l):mput (nameKey l) i true=nameKey (l++[i])/\mget (nameKey l) i=none:=by
 have hn:∀ p ∈ nameKey l,p.1≠i:=fun p hp e=>by
  obtain⟨j,hj,rfl⟩:=List.mem_map.1 hp
  exact h (e ▸ hj)
 exact⟨by rw[ZcM hn]; simp[nameKey],ZeP hn⟩
theorem Zlf{v:ByteArray}(h:nameB v=true):v.size<=12:=by
 unfold nameB at h
 rw[Bool.and_eq_true,decide_eq_true_eq] at h
 exact h.1.2
theorem ZkM{s:Zm}(h:Good s):(Zbc s).Ret true:=by
 have he:=h.eqs.len
 show (Cq.next _ _).wp _
 refine Cq.Zn 2 (fun k st=>st=((k:Int),idKey (if k=0 then [] else if k=1 then idsOf s.eqs else idsOf s.eqs++idsOf s.neqs))) (fun k st hk hs=>?_) (fun st hs=>?_) rfl
 .subst hs
  rcases (show k=0\/k=1 by omega) with rfl|rfl
  .refine⟨s.eqs,⟨by omega,rfl⟩,?_⟩
   rw[Cq.Zi,if_neg (by omega)]
   show (Cq.next _ _).wp _
   refine (ZgZ h.vars h.next.2 h.eqs (m:=[]) (fun _ _=>by simp) (by simp)).then ?_
   rfl
  have hne:=h.neqs.len
  refine⟨s.neqs,⟨by omega,rfl⟩,?_⟩
  rw[Cq.Zi,if_neg (by omega)]
  show (Cq.next _ _).wp _
  refine (ZgZ h.vars h.next.2 h.neqs (m:=idsOf s.eqs) (fun q hq hm=>?_) (by simp[idsOf]; omega)).then ?_
  .obtain⟨a,ha,e⟩:=List.mem_map.1 hm
   exact h.apart a ha q hq e
  rfl
 subst hs
 rfl
theorem Zii{s:Zm}(h:Good s):(ZaM s).Ret true:=by
 have hv:=h.vars
 have hn:=h.next
 unfold ZaM
 rw[if_neg (by omega),if_neg (by omega),if_neg (by omega)]
 show (Cq.next _ _).wp _
 refine Cq.Zn s.vars.length (fun k st=>st=((k:Int),nameKey (s.vars.take k))) (fun k st hk hs=>?_) (fun st hs=>?_) rfl
 .subst hs
  have hnew:s.vars[k] ∉ s.vars.take k:=fun hm=>by
   obtain⟨i,hi,e⟩:=List.mem_iff_getElem.1 hm
   simp only[List.length_take] at hi
   rw[List.getElem_take] at e
   exact List.pairwise_iff_getElem.1 h.diff i k (by omega) hk (by omega) e
  obtain⟨hput,hget⟩:=Zjw hnew
  have hnm:=h.name _ (List.getElem_mem hk)
  have hsz:=Zlf hnm
  refine Cq.wp.yes (p:=(k:Int)<(s.vars.length:Int)) (by omega) ?_
  refine⟨s.vars[k],idxN hk,true,hnm ▸ Zkg _,by omega,?_⟩
  rw[hget,Cq.Zi,if_neg (by simp),hput]
  refine⟨⟨by omega,by simp[nameKey,small]; omega⟩,?_⟩
  show _=_
  rw[wrapN (by omega),List.take_append_getElem hk]
 subst hs
 refine Cq.wp.no (p:=((s.vars.length:Nat):Int)<(s.vars.length:Int)) (by omega) ?_
 exact ZkM h
end Go.EL

namespace Go.EL
open Go.IntKind (i8 i16 i32 i64 u8 u16 u32 u64)
open Go Go.RowKit
abbrev Pol:=List Za
instance decTermS:DecidableEq Za:=fun ⟨a1,a2⟩ ⟨b1,b2⟩=>decidable_of_iff (a1=b1/\a2=b2) (by simp)
def oneP:Pol:=[⟨ratI 1,fun _=>0⟩]
def zeroK:Ze:=⟨0,[],[]⟩
def onesF(l:List Pol):List Pol:=(l.filter fun p=>p.isEmpty).map fun _=>oneP
def eqsF(eqs neqs:List Pol):List Pol:=kept eqs false++onesF neqs
def normF(n:Int)(eqs neqs:List Pol):Ze×Int:=
 if 1<=n/\n<=4 then
  if (eqs++neqs).all (fun p=>fitB p n)=true then
   if 12<(srtP (eqsF eqs neqs)).length then (zeroK,2)
   else if 12<(srtP (kept neqs true)).length then (zeroK,2)
   else (⟨n,srtP (eqsF eqs neqs),srtP (kept neqs true)⟩,0)
  else (zeroK,1)
 else (zeroK,1)
theorem Zlh:PolOk oneP where
 ord:=List.pairwise_singleton _ _
 trm:=fun t ht=>by rw[oneP,List.mem_singleton] at ht; subst ht; exact⟨⟨1,rfl,by decide,by decide,by decide⟩,ok0⟩
 len:=by decide
theorem Zml:primP oneP=oneP:=by decide +kernel
theorem ZiW{l:List Pol}:∀ p ∈ onesF l,p=oneP:=fun p hp=>by
 obtain⟨_,_,h⟩:=List.mem_map.1 hp
 exact h.symm
theorem ZgE(l:List Pol):(onesF l).length<=l.length:=by unfold onesF; rw[List.length_map]; exact List.length_filter_le _ _
theorem Zad(l:List Pol)(plain:Bool):(kept l plain).length<=l.length:=by unfold kept; exact Nat.le_trans (List.length_filter_le _ _) (Nat.le_of_eq (List.length_map _))
theorem Zgv(a b:List Pol):(eqsF a b).length<=a.length+b.length:=by
 have:=Zad a false
 have:=ZgE b
 unfold eqsF
 rw[List.length_append]
 omega
theorem ZfR{a b:List Pol}(ha:∀ p ∈ a,PolOk p):∀ p ∈ eqsF a b,PolOk p:=fun p hp=>by
 rcases List.mem_append.1 hp with h|h
 .exact Zc4 ha p h
 rw[ZiW p h]; exact Zlh
theorem Zdq{p:Pol}(h:PolOk p)(hne:p≠[]):0<=degP p:=by
 obtain⟨t,ht⟩:=List.exists_mem_of_ne_nil _ hne
 by_cases hd:degP p<=-1
 .have:=(Zdu (by decide)).1 hd t ht
  have h0:=(Zgs (h.trm t ht).m 8).1
  unfold degM at this
  omega
 omega
theorem Zg4{a b:List Pol}(ha:a.length<=100)(hb:b.length<=100):(ZZ [a,b]).Ret (a++b):=by
 refine Cq.Zn 2 (fun k s=>s=(if k=0 then 0 else if k=1 then (a.length:Int) else (a.length:Int)+(b.length:Int),(k:Int))) (fun k s hk hs=>?_) (fun s hs=>?_) rfl
 .subst hs
  have e:k=0\/k=1:=by omega
  rcases e with rfl|rfl
  .refine Cq.wp.yes (by show (0:Int)<2; decide) ⟨a,⟨by decide,rfl⟩,?_⟩
   have:i64.wrap (0+(a.length:Int))=(a.length:Int):=by rw[wrap64 (by omega)]; omega
   refine Cq.wp.no (by rw[if_pos rfl,this]; omega) ?_
   show _=_
   rw[if_pos rfl,this]; rfl
  refine Cq.wp.yes (by show (1:Int)<2; decide) ⟨b,⟨by decide,rfl⟩,?_⟩
  have:i64.wrap ((a.length:Int)+(b.length:Int))=(a.length:Int)+(b.length:Int):=by rw[wrap64 (by omega)]
  refine Cq.wp.no (by rw[if_neg (by decide),if_pos rfl,this]; omega) ?_
  show _=_
  rw[if_neg (by decide),if_pos rfl,this]; rfl
 subst hs
 refine Cq.wp.no (by show ¬ (2:Int)<2; decide) ?_
 refine⟨[],⟨⟨?_,?_⟩,rfl⟩,?_⟩
 .rw[if_neg (by decide),if_neg (by decide)]; omega
 .rw[if_neg (by decide),if_neg (by decide)]; omega
 refine Cq.Zn 2 (fun k s=>s=(if k=0 then [] else if k=1 then a else a++b,(k:Int))) (fun k s hk hs=>?_) (fun s hs=>?_) rfl
 .subst hs
  have e:k=0\/k=1:=by omega
  rcases e with rfl|rfl
  .refine Cq.wp.yes (by show (0:Int)<2; decide) ⟨a,⟨by decide,rfl⟩,?_,?_⟩
   .rw[if_pos rfl,List.nil_append]; simp only[small]; omega
   show _=_
   rw[if_pos rfl,List.nil_append]; rfl
  refine Cq.wp.yes (by show (1:Int)<2; decide) ⟨b,⟨by decide,rfl⟩,?_,?_⟩
  .rw[if_neg (by decide),if_pos rfl,List.length_append]; simp only[small]; omega
  show _=_
  rw[if_neg (by decide),if_pos rfl]; rfl
 subst hs
 refine Cq.wp.no (by show ¬ (2:Int)<2; decide) ?_
 show _=_
 rw[if_neg (by decide),if_neg (by decide)]
theorem Zhf{n:Int}(h:1<=n/\n<=4):∃ m:Nat,n=(m:Int)/\1<=m/\m<=4:=⟨n.toNat,by omega,by omega,by omega⟩
theorem pWhole1:(ZcQ 1).Ret (ratI 1):=Cq.Ret.Zo 20 (by decide +kernel)
theorem pConst1:(Za5 (ratI 1)).Ret oneP:=Cq.Ret.Zo 20 (by decide +kernel)
theorem ZcW{l:List Pol}(hl:l.length<=100)(h:∀ p ∈ l,PolOk p):(Zb0 l).Ret (srtP l):=⟨⟨hl,List.all_eq_true.2 fun p hp=>(h p hp).good⟩,rfl⟩
theorem Zhg(l:List Pol){k:Nat}(hk:k<l.length):onesF (l.take (k+1))=onesF (l.take k)++(if l[k]=[] then [oneP] else []):=by
 unfold onesF
 rw[List.take_succ_eq_append_getElem hk,List.filter_append,List.map_append]
 congr 1
 rw[List.filter_cons]
 by_cases h:l[k]=[]
 .rw[if_pos (by simpa using h),if_pos h]; rfl
 rw[if_neg (by simpa using h),if_neg h]; rfl
theorem Zef{n:Int}{eqs neqs:List Pol}(le:eqs.length<=40)(ln:neqs.length<=40)(he:∀ p ∈ eqs,PolOk p)(hn:∀ p ∈ neqs,PolOk p):(ZQ n eqs neqs).Ret (normF n eqs neqs):=by
 unfold normF
 by_cases h1:n<1
 .rw[if_neg (show ¬(1<=n/\n<=4) by omega)]; exact Cq.wp.yes h1 rfl
 refine Cq.wp.no h1 ?_
 by_cases h4:4<n
 .rw[if_neg (show ¬(1<=n/\n<=4) by omega)]; exact Cq.wp.yes h4 rfl
 refine Cq.wp.no h4 ?_
 rw[if_pos ⟨by omega,by omega⟩]
 obtain⟨m,rfl,m1,m4⟩:=Zhf ⟨show 1<=n by omega,by omega⟩
 have hall:∀ p ∈ eqs++neqs,PolOk p:=fun p hp=>(List.mem_append.1 hp).elim (he p) (hn p)
 refine⟨eqs++neqs,Zg4 (by omega) (by omega),?_⟩
 have hlen:(eqs++neqs).length<=100:=by rw[List.length_append]; omega
 generalize hl:eqs++neqs=l at *
 refine (Zb8 (m:Int) l (0,zeroK)).mono (p:=fun o=>match o with | .inl v=>v=(zeroK,1)/\(l.all fun p=>fitB p (m:Int))=false | .inr _=>(l.all fun p=>fitB p (m:Int))=true) (fun o h=>?_) (Cq.Zn l.length (fun k s=>s=((k:Int),zeroK)/\∀ i (h:i<l.length),i<k->fitB l[i] (m:Int)=true) ?_ ?_ ⟨rfl,fun i _ h=>absurd h (Nat.not_lt_zero _)⟩)
 rotate_left
 .rintro k s hk ⟨rfl,h1⟩
  refine Cq.wp.yes (by omega) ⟨_,idxN hk,_,Zcz (hall _ (List.getElem_mem hk)) (by omega),?_⟩
  by_cases hf:fitB l[k] (m:Int)=true
  .rw[hf]
   refine Cq.wp.no (by decide) ⟨by rw[wrapN (by omega)],fun i hi hik=>?_⟩
   by_cases e:i=k
   .subst e; exact hf
   exact h1 i hi (by omega)
  rw[Bool.eq_false_iff.2 hf]
  refine Cq.wp.yes (by decide) ⟨rfl,Bool.eq_false_iff.2 fun ha=>?_⟩
  exact hf (List.all_eq_true.1 ha _ (List.getElem_mem hk))
 .rintro s ⟨rfl,h1⟩
  refine Cq.wp.no (by omega) ?_
  refine List.all_eq_true.2 fun p hp=>?_
  obtain⟨i,hi,rfl⟩:=List.getElem_of_mem hp
  exact h1 i hi hi
 match o,h with
 | .inl v,⟨hv,hf⟩=>rw[hf,if_neg (by decide)]; exact hv
 | .inr _,ha=>
  rw[if_pos ha]
  show (Zap (m:Int) eqs neqs).Ret _
  refine Cq.Zn eqs.length (fun k s=>s=(kept (eqs.take k) false,(k:Int))) (fun k s hk hs=>?_) (fun s hs=>?_) rfl
  .subst hs
   refine Cq.wp.yes (by omega) ⟨_,idxN hk,?_⟩
   have hs:=Zc5 eqs false hk
   have:=Zad (eqs.take k) false
   rw[List.length_take] at this
   by_cases h0:eqs[k]=[]
   .refine Cq.wp.no (by rw[h0]; decide) ?_
    show _=_
    rw[hs,h0,if_neg (by decide),List.append_nil,wrapN (by omega)]
   have hp:0<eqs[k].length:=List.length_pos_iff.2 h0
   refine Cq.wp.yes (by omega) ⟨_,Zdl (he _ (List.getElem_mem hk)) h0,?_,?_⟩
   .rw[List.length_append,List.length_singleton]; simp only[small]; omega
   show _=_
   have hk:keepP false (primP eqs[k])=true:=by
    have:(primP eqs[k]).isEmpty=false:=by simpa using fun e=>h0 (ZcP.1 e)
    unfold keepP; rw[this]; rfl
   rw[hs,hk,if_pos rfl,wrapN (by omega)]
  subst hs
  refine Cq.wp.no (by omega) ?_
  rw[List.take_of_length_le (Nat.le_refl _)]
  show (Zao (m:Int) neqs (kept eqs false)).Ret _
  refine Cq.Zn neqs.length (fun k s=>s=(kept eqs false++onesF (neqs.take k),kept (neqs.take k) true,(k:Int))) (fun k s hk hs=>?_) (fun s hs=>?_) (by show _=_; rw[List.take_zero]; show _=(kept eqs false++[],_,_); rw[List.append_nil]; rfl)
  .subst hs
   have hs:=Zc5 neqs true hk
   have ho:=Zhg neqs hk
   have l1:=Zad (neqs.take k) true
   have l2:=Zad eqs false
   have l3:=ZgE (neqs.take k)
   rw[List.length_take] at l1 l3
   refine Cq.wp.yes (by omega) ⟨_,idxN hk,?_⟩
   by_cases h0:neqs[k]=[]
   .refine Cq.wp.yes (by rw[h0]; rfl) ⟨_,pWhole1,_,pConst1,?_,?_⟩
    .rw[List.length_append,List.length_append,List.length_singleton]; simp only[small]; omega
    show _=_
    rw[hs,ho,h0,if_pos rfl,if_neg (by decide),List.append_nil,wrapN (by omega),List.append_assoc]
   have hp:0<neqs[k].length:=List.length_pos_iff.2 h0
   have hok:=hn _ (List.getElem_mem hk)
   have hne:(primP neqs[k]).isEmpty=false:=by simpa using fun e=>h0 (ZcP.1 e)
   have hnn:=Zdq hok h0
   refine Cq.wp.no (by omega) ⟨_,ZbO hok,?_⟩
   by_cases hd:0<degP neqs[k]
   .refine Cq.wp.yes hd ⟨_,Zdl hok h0,?_,?_⟩
    .rw[List.length_append,List.length_singleton]; simp only[small]; omega
    show _=_
    have hk:keepP true (primP neqs[k])=true:=by unfold keepP; rw[hne,Zbr,decide_eq_false (by omega)]; rfl
    rw[hs,ho,if_neg h0,hk,if_pos rfl,wrapN (by omega),List.append_nil]
   refine Cq.wp.no hd ?_
   show _=_
   have hk:keepP true (primP neqs[k])=false:=by unfold keepP; rw[Zbr,decide_eq_true (by omega)]; simp
   rw[hs,ho,if_neg h0,hk,if_neg (by decide),wrapN (by omega),List.append_nil,List.append_nil]
  subst hs
  refine Cq.wp.no (by omega) ?_
  rw[List.take_of_length_le (Nat.le_refl _)]
  show (Zan (m:Int) (eqsF eqs neqs) (kept neqs true)).Ret _
  have l1:=Zgv eqs neqs
  have l2:=Zad neqs true
  refine⟨_,ZcW (by omega) (ZfR he),_,ZcW (by omega) (Zc4 hn),?_⟩
  by_cases q1:12<(srtP (eqsF eqs neqs)).length
  .rw[if_pos q1]; exact Cq.wp.yes (by omega) rfl
  rw[if_neg q1]
  refine Cq.wp.no (by omega) ?_
  by_cases q2:12<(srtP (kept neqs true)).length
  .rw[if_pos q2]; exact Cq.wp.yes (by omega) rfl
  rw[if_neg q2]; exact Cq.wp.no (by omega) rfl
end Go.EL

namespace Go.EL
open Go.IntKind (i8 i16 i32 i64 u8 u16 u32 u64)
open Go Go.RowKit
theorem ZiS:∀ (f:Nat) (n:Int),(natG f n).length<=f+1
 | 0,_=>by simp[natG]
 | f+1,n=>by
  unfold natG
  split
  .have:=ZiS f (u64.wrap (Int.tdiv n 128)); rw[List.length_cons]; omega
  simp
theorem Zbo(n:Int):(natW n).length<=11:=ZiS 10 n
theorem tdiv128{n:Int}(h0:0<=n):0<=Int.tdiv n 128/\Int.tdiv n 128=n / 128:=⟨Int.tdiv_nonneg h0 (by decide),Int.tdiv_eq_ediv_of_nonneg h0⟩
theorem Zix:∀ (f:Nat) (b:List Int) (n:Int),0<=n->n<128 ^ (f+1)->n<18446744073709551616->b.length+f+1<=1000000->(Zdn (b,n)).wp fun o=>(Zbw o.1 o.2).Ret (b++natG f n)
 | 0,b,n,h0,h1,h2,hb=>by
  refine Cq.Zk (Cq.wp.no (by omega) ?_)
  show (Zbw b n).Ret _
  refine⟨?_,rfl⟩
  rw[List.length_append,List.length_singleton]; simp only[small]; omega
 | f+1,b,n,h0,h1,h2,hb=>by
  by_cases h:127<n
  .refine Cq.Zk (Cq.wp.yes h ⟨?_,?_⟩)
   .rw[List.length_append,List.length_singleton]; simp only[small]; omega
   obtain⟨d0,d1⟩:=tdiv128 h0
   have hlt:n / 128<128 ^ (f+1):=Int.ediv_lt_of_lt_mul (by decide) (by rw[<- Int.pow_succ]; exact h1)
   have hw:u64.wrap (Int.tdiv n 128)=n / 128:=by rw[d1]; exact Zu ⟨by omega,by omega⟩
   show (Zdn _).wp _
   have ih:=Zix f (b++[u8.wrap (u8.wrap (Int.tmod n 128)+128)]) (u64.wrap (Int.tdiv n 128)) (by omega) (by rw[hw]; exact hlt) (by omega) (by rw[List.length_append,List.length_singleton]; omega)
   refine (Zdn _).mono (fun o ho=>?_) ih
   rw[List.append_assoc] at ho
   unfold natG
   rw[if_pos (show 128<=n by omega)]
   exact ho
  refine Cq.Zk (Cq.wp.no h ?_)
  show (Zbw b n).Ret _
  unfold natG
  rw[if_neg (show ¬ 128<=n by omega)]
  refine⟨?_,rfl⟩
  rw[List.length_append,List.length_singleton]; simp only[small]; omega
theorem p128:(128:Int) ^ (10+1)=151115727451828646838272:=by decide
theorem ZdG{b:List Int}{n:Int}(h:0<=n/\n<18446744073709551616)(hb:b.length<=900000):(ZcE b n).Ret (b++natW n):=by
 have h1:=p128
 exact Zix 10 b n h.1 (by omega) h.2 (by omega)
theorem ZfU{n:Nat}(h:n<=1000000):u64.wrap (n:Int)=(n:Int):=Zu ⟨by omega,by omega⟩
theorem Zif(d:Int):(wordW d).length=4:=rfl
theorem Zb2{α:Type}{f:α->List Int}{K:Nat}:∀ {l:List α},(∀ x ∈ l,(f x).length<=K)->(l.flatMap f).length<=K*l.length
 | [],_=>Nat.le_refl _
 | x::l,h=>by
  have h1:=h x (by simp)
  have h2:=Zb2 (l:=l) (fun y hy=>h y (by simp[hy]))
  rw[List.flatMap_cons,List.length_append,List.length_cons,Nat.mul_succ]
  omega
theorem Zfn{α:Type}(f:α->List Int)(l:List α){k:Nat}(hk:k<l.length):(l.take (k+1)).flatMap f=(l.take k).flatMap f++f l[k]:=by
 rw[List.take_succ_eq_append_getElem hk,List.flatMap_append]
 simp
theorem ZgA{a:Zb}(h:a.mag.length<=1):(intW a).length<=15:=by
 unfold intW
 rw[List.length_append]
 have h1:=Zbo (if a.neg=true then u64.wrap (u64.wrap (2*u64.wrap (a.mag.length:Int))+1) else u64.wrap (2*u64.wrap (a.mag.length:Int)))
 have h2:=Zb2 (K:=4) (l:=a.mag) (f:=wordW) (fun x _=>Nat.le_of_eq (Zif x))
 omega
theorem ZgW{b:List Int}{a:Zb}(h:a.mag.length<=1)(hb:b.length<=800000):(Zc0 b a).Ret (b++intW a):=by
 have key:∀ s:Int,0<=s->s<=1->(Zck b a s).Ret (b++(natW (u64.wrap (u64.wrap (u64.wrap (a.mag.length:Int)*2)+s))++a.mag.flatMap wordW)):=fun s s0 s1=>by
  have e1:=ZfU (n:=a.mag.length) (by omega)
  have e2:u64.wrap ((a.mag.length:Int)*2)=(a.mag.length:Int)*2:=Zu ⟨by omega,by omega⟩
  have e3:u64.wrap ((a.mag.length:Int)*2+s)=(a.mag.length:Int)*2+s:=Zu ⟨by omega,by omega⟩
  refine⟨_,ZdG (by rw[e1,e2,e3]; omega) (by omega),?_⟩
  have hn:=Zbo (u64.wrap (u64.wrap (u64.wrap (a.mag.length:Int)*2)+s))
  generalize natW (u64.wrap (u64.wrap (u64.wrap (a.mag.length:Int)*2)+s))=N at *
  refine Cq.Zn a.mag.length (fun k st=>st=(b++N++(a.mag.take k).flatMap wordW,(k:Int))) (fun k st hk hs=>?_) (fun st hs=>?_) (by show _=_; simp)
  .subst hs
   refine Cq.wp.yes (by omega) ⟨_,idxN hk,?_,?_⟩
   .have:=Zb2 (K:=4) (l:=a.mag.take k) (f:=wordW) (fun x _=>Nat.le_of_eq (Zif x))
    rw[List.length_take] at this
    simp only[List.length_append,List.length_cons,List.length_nil,small]; omega
   show _=_
   rw[wrapN (by omega),Zfn wordW a.mag hk,<- List.append_assoc]
   rfl
  subst hs
  refine Cq.wp.no (by omega) ?_
  rw[List.take_of_length_le (Nat.le_refl _)]
  show _=_
  rw[List.append_assoc]
 unfold Zc0
 have e1:=ZfU (n:=a.mag.length) (by omega)
 have e2:u64.wrap ((a.mag.length:Int)*2)=(a.mag.length:Int)*2:=Zu ⟨by omega,by omega⟩
 by_cases hn:a.neg=true
 .refine Cq.wp.yes hn ?_
  have:=key 1 (by decide) (by decide)
  unfold intW
  rw[if_pos hn,Int.mul_comm 2]
  exact this
 refine Cq.wp.no hn ?_
 have:=key 0 (by decide) (by decide)
 unfold intW
 rw[if_neg hn,Int.mul_comm 2]
 rw[Int.add_zero,e1,e2,e2] at this
 rw[e1,e2]
 exact this
theorem PolOk.mags{p:Pol}(h:PolOk p){t:Za}(ht:t ∈ p):t.c.num.mag.length<=1/\t.c.den.mag.length<=1:=by
 obtain⟨e1,e2⟩:=h.parts ht
 rw[e1,e2]
 refine⟨?_,Nat.le_refl 1⟩
 show (magI _).length<=1
 unfold magI
 split <;> simp
theorem Zi2{p:Pol}(h:PolOk p){t:Za}(ht:t ∈ p):(ratW t.c).length<=30:=by
 obtain⟨h1,h2⟩:=h.mags ht
 have:=ZgA h1
 have:=ZgA h2
 unfold ratW
 rw[List.length_append]
 omega
theorem ZgD(m:M):∀ k,(monW m k).length<=11*k
 | 0=>Nat.le_refl _
 | k+1=>by
  have:=ZgD m k
  have:=Zbo (u64.wrap (getF m (k:Int)))
  unfold monW
  rw[List.length_append]
  omega
theorem Zh8{p:Pol}(h:PolOk p){t:Za}(ht:t ∈ p):(termW t).length<=118:=by
 have:=Zi2 h ht
 have:=ZgD t.m 8
 unfold termW
 rw[List.length_append]
 omega
theorem ZhZ{p:Pol}(h:PolOk p):(polyW p).length<=11811:=by
 have h1:=Zbo (u64.wrap (p.length:Int))
 have h2:=Zb2 (f:=termW) (K:=118) (fun t ht=>Zh8 h ht)
 have h3:=h.len
 have:118*p.length<=11800:=by omega
 unfold polyW
 rw[List.length_append]
 omega
theorem ZeS{l:List Pol}(h:∀ p ∈ l,PolOk p)(hl:l.length<=12):(polysW l).length<=150000:=by
 have h1:=Zbo (u64.wrap (l.length:Int))
 have h2:=Zb2 (f:=polyW) (K:=11811) (fun p hp=>ZhZ (h p hp))
 have:11811*l.length<=141732:=by omega
 unfold polysW
 rw[List.length_append]
 omega
theorem ZkJ{b:List Int}{p:Pol}(h:PolOk p)(hb:b.length<=700000):(Zgq b p).Ret (b++polyW p):=by
 have hl:=h.len
 have e1:=ZfU (n:=p.length) (by omega)
 refine⟨_,ZdG (by rw[e1]; omega) (by omega),?_⟩
 unfold polyW
 have hn:=Zbo (u64.wrap (p.length:Int))
 generalize natW (u64.wrap (p.length:Int))=N at *
 refine Cq.Zn p.length (fun k st=>st=(b++N++(p.take k).flatMap termW,(k:Int))) (fun k st hk hs=>?_) (fun st hs=>?_) (by show _=_; simp)
 .subst hs
  have ht:=List.getElem_mem hk
  obtain⟨m1,m2⟩:=h.mags ht
  have hf:=Zb2 (K:=118) (l:=p.take k) (f:=termW) (fun x hx=>Zh8 h (List.mem_of_mem_take hx))
  rw[List.length_take] at hf
  have hf2:118*min k p.length<=11800:=by omega
  have hr:=Zi2 h ht
  refine Cq.wp.yes (by omega) ⟨_,idxN hk,b++N++(p.take k).flatMap termW++ratW p[k].c,⟨_,ZgW m1 (by simp only[List.length_append]; omega),_,ZgW m2 (by
   have:=ZgA m1
   simp only[List.length_append]; omega),?_⟩,?_⟩
  .show _=_
   unfold ratW
   simp only[List.append_assoc]
  generalize hB:b++N++(p.take k).flatMap termW++ratW p[k].c=B
  have hBl:B.length<=750000:=by rw[<- hB]; simp only[List.length_append]; omega
  refine Cq.Zn 8 (fun j st=>st=(B++monW p[k].m j,(j:Int))) (fun j st hj hs=>?_) (fun st hs=>?_) (by show _=_; simp[monW])
  .subst hs
   have hm:=(h.mono _ ht) ⟨j,hj⟩
   have hml:=ZgD p[k].m j
   have hu:u64.wrap (p[k].m ⟨j,hj⟩)=p[k].m ⟨j,hj⟩:=Zu ⟨by omega,by omega⟩
   refine Cq.wp.yes (by omega) ⟨_,idxN hk,⟨by omega,by omega⟩,B++monW p[k].m j++natW (u64.wrap (getF p[k].m (j:Int))),ZdG (by rw[getFN hj,hu]; omega) (by rw[List.length_append]; omega),?_⟩
   show _=_
   rw[wrapN (by omega),List.append_assoc]
   rfl
  subst hs
  refine Cq.wp.no (by decide) ?_
  show _=_
  rw[wrapN (by omega),Zfn termW p hk,<- hB]
  unfold termW
  simp only[List.append_assoc]
 subst hs
 refine Cq.wp.no (by omega) ?_
 rw[List.take_of_length_le (Nat.le_refl _)]
 show _=_
 rw[List.append_assoc]
theorem ZgV{b:List Int}{l:List Pol}(h:∀ p ∈ l,PolOk p)(hl:l.length<=12)(hb:b.length<=500000):(ZdW b l).Ret (b++polysW l):=by
 have e1:=ZfU (n:=l.length) (by omega)
 refine⟨_,ZdG (by rw[e1]; omega) (by omega),?_⟩
 unfold polysW
 have hn:=Zbo (u64.wrap (l.length:Int))
 generalize natW (u64.wrap (l.length:Int))=N at *
 refine Cq.Zn l.length (fun k st=>st=(b++N++(l.take k).flatMap polyW,(k:Int))) (fun k st hk hs=>?_) (fun st hs=>?_) (by show _=_; simp)
 .subst hs
  have hf:=Zb2 (K:=11811) (l:=l.take k) (f:=polyW) (fun x hx=>ZhZ (h x (List.mem_of_mem_take hx)))
  rw[List.length_take] at hf
  have hf2:11811*min k l.length<=141732:=by omega
  refine Cq.wp.yes (by omega) ⟨_,idxN hk,_,ZkJ (h _ (List.getElem_mem hk)) (by simp only[List.length_append]; omega),?_⟩
  show _=_
  rw[wrapN (by omega),Zfn polyW l hk]
  simp only[List.append_assoc]
 subst hs
 refine Cq.wp.no (by omega) ?_
 rw[List.take_of_length_le (Nat.le_refl _)]
 show _=_
 rw[List.append_assoc]
structure PartOk (n:Int) (least:Int) (l:List Pol):Prop where
 len:l.length<=12
 pol:∀ p ∈ l,PolOk p/\fitB p n=true/\p≠[]/\primP p=p/\least<=degP p
 st:Strict l
structure CoreOk (k:Ze):Prop where
 n:1<=k.n/\k.n<=4
 eqs:PartOk k.n 0 k.eqs
 neqs:PartOk k.n 1 k.neqs
theorem ZiU(n:Int):(numW n).length<=11:=Zbo _
theorem ZkI{k:Ze}(hn:0<=k.n/\k.n<=1000)(he:∀ p ∈ k.eqs,PolOk p)(hi:∀ p ∈ k.neqs,PolOk p)(le:k.eqs.length<=12)(li:k.neqs.length<=12):(ZdD [] k).Ret (coreW k):=by
 have hu:u64.wrap k.n=k.n:=Zu ⟨by omega,by omega⟩
 have hu2:u64.wrap (k.n*2)=k.n*2:=Zu ⟨by omega,by omega⟩
 have h1:=ZiU k.n
 have h2:=ZeS he le
 refine⟨numW k.n,Cq.wp.no (by omega) ⟨_,ZdG (b:=[]) (by rw[hu,hu2]; omega) (by simp),?_⟩,_,ZgV he le (by omega),_,ZgV hi li (by rw[List.length_append]; omega),?_⟩
 .show _=_
  unfold numW
  rw[Int.mul_comm 2]
  rfl
 rfl
theorem ZkP{k:Ze}(h:CoreOk k):(coreW k).length<=1000000:=by
 have h1:=ZiU k.n
 have h2:=ZeS (fun p hp=>(h.eqs.pol p hp).1) h.eqs.len
 have h3:=ZeS (fun p hp=>(h.neqs.pol p hp).1) h.neqs.len
 unfold coreW
 simp only[List.length_append]
 omega
theorem ZkW{p:Pol}{n:Int}(h:fitB p n=true):(Int.fdiv (i64.wrap (usesP p)) (2 ^ (min n.toNat i64.bits)))=0/\degP p<=12:=by
 unfold fitB at h
 split at h
 .exact⟨‹_›,of_decide_eq_true h⟩
 cases h
theorem Zly{l:List Pol}(h:Strict l){k:Nat}(hk:k+1<l.length):cmpP l[k] l[k+1]<0:=List.pairwise_iff_getElem.1 h k (k+1) (by omega) hk (by omega)
theorem Zgj{k:Ze}(hn:1<=k.n/\k.n<=4){least:Int}{l:List Pol}(h:PartOk k.n least l):(_eliminant_claim_rules_sorted ⟨k⟩ l least).Ret true:=by
 have hl:=h.len
 refine Cq.wp.no (by omega) ?_
 refine Cq.Zn l.length (fun j s=>s=(j:Int)) (fun j s hj hs=>?_) (fun s hs=>?_) rfl
 .subst hs
  obtain⟨q1,q2,q3,q4,q5⟩:=h.pol _ (List.getElem_mem hj)
  obtain⟨f1,f2⟩:=ZkW q2
  refine Cq.wp.yes (by omega) ⟨_,idxN hj,true,⟨true,Zcv q1,_,Zgr q1.len,by show 0<=k.n; omega,Cq.wp.yes f1 ⟨_,ZbO q1,decide_eq_true f2⟩⟩,_,ZbO q1,Cq.wp.no (by omega) ⟨_,Zdl q1 q3,true,?_,Cq.wp.no (by decide) ?_⟩⟩
  .rw[q4]
   have:=Ze7 q1.good q1.good
   rw[Zc1] at this
   exact this
  by_cases h0:(0:Int)<(j:Int)
  .obtain⟨i,rfl⟩:∃ i,j=i+1:=⟨j-1,by omega⟩
   have hi:i64.wrap (((i+1:Nat):Int)-1)=(i:Int):=by rw[wrap64 (by omega)]; omega
   have hc:=Zly h.st hj
   refine Cq.wp.yes h0 ?_
   rw[hi]
   refine⟨_,idxN (by omega),_,Zim (h.pol _ (List.getElem_mem (by omega))).1.good q1.good,Cq.wp.no (by omega) ?_⟩
   exact wrapN (by omega)
  exact Cq.wp.no h0 (wrapN (by omega))
 subst hs
 exact Cq.wp.no (by omega) rfl
theorem ZgY{k:Ze}(h:CoreOk k):(ZcU k).Ret true:=
 ⟨true,Cq.wp.yes h.n.1 (Cq.wp.yes h.n.2 ⟨true,Zgj h.n h.eqs,true,Zgj h.n h.neqs,rfl⟩),rfl⟩
def keyB(k:Ze):ByteArray:=bytesOf (coreW k)
theorem ZmI{k:Ze}(h:CoreOk k):(Zfg k).Ret (keyB k):=⟨true,ZgY h,⟨by have:=h.n; omega,ZkP h⟩,rfl⟩
end Go.EL

