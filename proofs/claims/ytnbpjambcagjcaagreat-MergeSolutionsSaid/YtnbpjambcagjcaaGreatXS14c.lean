/- The law MergeSolutions holds for every input: a part of its proof (what the code does, plain models, and what they return). No condition. -/
import Derived.Test.YtnbpjambcagjcaaGreatRows
import Derived.Test.YtnbpjambcagjcaaGreatXS14b
import Derived.Test.YtnbpjambcagjcaaGreatXS14a
import Derived.RangeFuncGives
import Derived.RangeFuncIn
import Derived.RangeFuncLeaves
import Derived.Maps.RangeRun
import Derived.TacticsIn
import Derived.OwnWalkIn
import Derived.DeepKeys4
import Derived.Shelf.SortG.Plain
import Derived.Shelf.SortG.SortNone
import Derived.Test.YtnbpjambcagjcaaGreatProg
set_option linter.unusedVariables false
set_option linter.unusedSimpArgs false
namespace Go.Proofs.YtnbpjambcagjcaaGreat
open Go.IntKind (i8 i16 i32 i64 u8 u16 u32 u64)
open Go.Proofs.Tryz
open Go Go.EL Go.RowKit Go.Proofs
theorem ownK:ownKnob prog.godebug=none:=by kernel_rfl
theorem laidK:laidOutB prog=true:=by kernel_rfl
end Go.Proofs.YtnbpjambcagjcaaGreat

namespace Go.EL
open Go.IntKind (i8 i16 i32 i64 u8 u16 u32 u64)
open Go Go.RowKit Go.Proofs Go.MapKept
theorem Zqy{P:Program}{o:Oper}{a:Act}{w:World}{K K':Act->World->Prop}{Q:Post}{n l:Nat}(hd:∀ c,o.op≠.defer c)(hK:∀ a w,K a w->K' a w)(h:o.wp P a w K Q):o.wpIn (Fence.wide.inRound l) n P a w K' Q:=by
 refine⟨fun _ _=>trivial,?_⟩
 rw[Oper.semAt_plain _ _ _ hd]
 unfold Oper.wp at h
 generalize (execOp a.eval o).run P w=res at h ⊢
 cases res with
 | ok nx w'=>
  cases nx <;> simp only[Oper.upon] at h <;> simp only[Oper.uponIn]
  case value v=>exact hK _ _ h
  case skip=>exact hK _ _ h
  case defer d=>exact hK _ _ h
  case enter f args=>exact⟨fun h=>by simp[Fence.inRound,Fence.wide] at h,(callsIn_wide (n:=n-1)).2 (h.mono fun e w'' he=>by cases e <;> first|exact hK _ _ he|exact he)⟩
  case row row args=>exact⟨fun h=>by simp[Fence.inRound,Fence.wide] at h,fun c cs _=>let ⟨v,w',r,s⟩:=h c cs; ⟨v,w',hK _ _ r,stepsIn_wide.2 s⟩⟩
 | halt x w'=>cases x <;> first|exact h.elim|exact h
theorem Zfo{P:Program}{ops:Array Oper}{Q:Post}{n r:Nat}(hQ:¬ LetsOut Q):∀ {l:List Oper}{a:Act}{w:World},(∀ o ∈ l,∀ c,o.op≠.defer c)->wpList P ops Q l a w->wpListIn (Fence.wide.inRound r) n P ops Q l a w
 | [],_,_,_,h=>h
 | o::l,a,w,hd,h=>by
  unfold wpList at h
  unfold wpListIn
  split at h
  .rename_i hw
   rw[if_pos hw]
   rcases h with h|h
   .exact Zqy (hd o (by simp)) (fun a w h'=>Zfo hQ (fun o' ho'=>hd o' (by simp[ho'])) h') h
   exact absurd h.2 hQ
  rename_i hw
  rw[if_neg hw]
  exact⟨fun _ _=>trivial,Zfo hQ (fun o' ho'=>hd o' (by simp[ho'])) h⟩
theorem ZfC{P:Program}{l:List Oper}{id n r:Nat}{Q:Post}{a:Act}{w:World}(hQ:¬ LetsOut Q)(hd:∀ o ∈ l,∀ c,o.op≠.defer c)(h:wpList P l.toArray Q l a w):(Code.region id l.toArray false).wpIn (Fence.wide.inRound r) n P Q a w:=by
 refine wpIn_region ?_
 have:=wpOpsIn_eq_wpListIn (F:=Fence.wide.inRound r) (n:=n) (P:=P) (ops:=l.toArray) (Q:=Q) l 0 (fun j=>by simp)
 rw[List.range_eq_range',List.size_toArray,this]
 exact Zfo hQ hd h
section
variable {P:Program}{N:Nat}{w0:Bs}{G0 G:Mem}{L:Lo}
theorem St.putLoop{w:World}{l key:Nat}{r r':Loop}(hs:St w0 G0 G L w)(hl:L.get key=some ⟨l,.loop r,0⟩):St w0 G0 G ((key,some ⟨l,.loop r',0⟩)::L) (w.putObj l (.loop r')):=by
 have hb:=(hs.loc key _ hl).1
 have hlt:=(Array.getElem?_eq_some_iff.1 hb).1
 exact hs.upd hl (World.putObj_heap_same hlt) (Nat.le_refl _) (fun k _ hk=>absurd hk (Nat.not_lt_zero k)) (fun k hk=>World.putObj_heap_other hk) rfl rfl rfl rfl (by simp)
theorem ZpI{opsA opsB:List Oper}{idA idB blk n l fn:Nat}{r:Loop}{tmps:Array Value}{fr:Fr}{W:World}{post:Mem->Lo->Prop}(hst:r.state = .ready)(hpe:r.pending=none)
  (hA:r.assign = .region idA opsA.toArray false) (hB:r.body = .block blk (.region idB opsB.toArray false)) (dA:∀ o ∈ opsA,∀ c,o.op≠.defer c) (dB:∀ o ∈ opsB,∀ c,o.op≠.defer c) (hrel:Rel N fr ⟨tmps,[]⟩) (hHp:Hp G L W) (hl:L.get 8001=some ⟨l,.loop r,0⟩)
  (h:WL P N opsA.toArray (fun e a w=>e = .normal/\∃ fr1 G1 L1,Rel N fr1 a/\St ⟨W,L⟩ G G1 L1 w/\L1.get 8001=some ⟨l,.loop r,0⟩/\
   WL P N opsB.toArray (fun e a w=>e = .normal/\∃ G2 L2,St ⟨W,L⟩ G G2 L2 w/\L2.get 8001=some ⟨l,.loop { r with state:=.busy },0⟩/\post G2 L2) opsB fr1 (St ⟨W,L⟩ G G1 ((8001,some ⟨l,.loop { r with state:=.busy },0⟩)::L1))) opsA fr (St ⟨W,L⟩ G G L)) :
  RoundIn Fence.wide n P l fn tmps r.assign r.body W (fun e W'=>e = .returned (.bool true)/\∃ G2 L2,Ext W G L W' G2 ((8001,some ⟨l,.loop r,0⟩)::L2)/\post G2 L2):=by
 refine roundIn_of_wpIn trivial ?_
 rw[hA,hB]
 have noOut:∀ (X:Act->World->Prop),¬ LetsOut (fun e a w=>e=Exit.normal/\X a w):=fun X ⟨a,w,h⟩=>by cases h.1
 have h1:=ZfC (id:=idA) (n:=n) (r:=l) (noOut _) dA (h _ W hrel hHp.st)
 refine Code.wpIn_mono (fun e a w hq=>?_) h1
 obtain⟨rfl,fr1,G1,L1,ha1,hs1,hl1,hw⟩:=hq
 have hb1:=(hs1.loc 8001 _ hl1).1
 refine⟨_,run_beginRound hb1 hst,?_⟩
 have hs2:=hs1.putLoop (r':={ r with state:=.busy }) hl1
 refine wpIn_block (Code.wpIn_mono (fun e a w hq=>?_) (ZfC (id:=idB) (n:=n) (r:=l) (noOut _) dB (hw a _ ha1 hs2)))
 obtain⟨rfl,G2,L2,hs3,hl3,hp⟩:=hq
 have hb3:=(hs3.loc 8001 _ hl3).1
 refine⟨_,_,run_endRound none hb3,rfl,G2,L2,?_,hp⟩
 have hs4:=hs3.putLoop (r':={ { r with state:=.busy } with state:=if (none:Option Code).isNone then .ready else .done,pending:=none }) hl3
 have e1:({ { r with state:=.busy } with state:=if (none:Option Code).isNone then .ready else .done,pending:=none }:Loop)=r:=by
  obtain⟨s,p,f,t,ps,as1,bo,d⟩:=r
  simp only at hst hpe
  subst hst hpe
  rfl
 rw[e1] at hs4 ⊢
 exact hs4.toExt
end
structure Stp (B:Nat) (W W':World):Prop where
 os:W'.os=W.os
 tape:W'.tape=W.tape
 output:W'.output=W.output
 drawn:W.drawn<=W'.drawn
 size:W.heap.size<=W'.heap.size
 block:∀ (k:Nat) (o:Obj),W.heap[k]? = some o->(k<B\/o.isWalk=false)->W'.heap[k]? = some o
theorem Stp.alloc(B:Nat)(W:World)(o:Obj):Stp B W (W.alloc o):=
 ⟨rfl,rfl,rfl,Nat.le_refl _,by simp,fun k o' h _=>(Below.heap_alloc W o k (Array.getElem?_eq_some_iff.1 h).1).trans h⟩
theorem St.stp{w0:Bs}{G0 G:Mem}{L:Lo}{B:Nat}{W W':World}(h:St w0 G0 G L W)(hs:Stp B W W')(hB:w0.w.heap.size<=B)(hL:∀ i x,L.get i=some x->x.o.isWalk=false):St w0 G0 G L W':=by
 refine⟨hs.os.trans h.os,hs.tape.trans h.tape,hs.output.trans h.output,Nat.le_trans h.drawn hs.drawn,Nat.le_trans h.size hs.size,fun k hk hn=>?_,h.base,fun b o v hv=>?_,h.fresh,fun i x hx=>⟨hs.block _ _ (h.loc i x hx).1 (.inr (hL i x hx)),(h.loc i x hx).2⟩,h.dist⟩
 .have h1:=h.block k hk hn
  have hk':k<W.heap.size:=Nat.lt_of_lt_of_le hk h.size
  rw[<- h1,Array.getElem?_eq_getElem hk']
  exact hs.block k _ (Array.getElem?_eq_getElem hk') (.inl (Nat.lt_of_lt_of_le hk hB))
 have hc:=h.imm b o v hv
 obtain⟨ob,h1,h2⟩:=not_walk_of_cell hc
 have h1':W'.heap[b]? = some ob:=hs.block b ob h1 (.inr h2)
 have h1:W.heap[b]? = some ob:=h1
 simp only[World.cell?,h1,h1'] at hc ⊢
 exact hc
structure Rng (b r:Nat) (es:Array MapEntry) (clock:Nat) (cons:List MapEntry) (left:Nat) (w:World):Prop where
 map:w.heap[b]? = some (.map es clock)
 iter:∃ seen c0,w.heap[r]? = some (.mapIter (some b) clock seen c0)/\clock<=c0/\(leftOf es seen).size=left/\∀ x,x ∈ cons↔x ∈ es.toList/\seen.contains x.born=true
 nodup:cons.Nodup
theorem born_inj{es:Array MapEntry}{clock:Nat}(h:Stamped es clock){x y:MapEntry}(hx:x ∈ es.toList)(hy:y ∈ es.toList)(e:x.born=y.born):x=y:=by
 have hn:=h.2.1
 have:∀ (l:List MapEntry),(l.map (·.born)).Nodup->x ∈ l->y ∈ l->x=y:=by
  intro l
  induction l with
  | nil=>intro _ hx; cases hx
  | cons z l ih=>
   intro hn hx hy
   simp only[List.map_cons,List.nodup_cons,List.mem_map,not_exists,not_and] at hn
   rcases List.mem_cons.1 hx with h1|h1 <;> rcases List.mem_cons.1 hy with h2|h2
   .rw[h1,h2]
   .exact absurd (by rw[<- e,h1]) (hn.1 y h2)
   .exact absurd (by rw[e,h2]) (hn.1 x h1)
   exact ih hn.2 h1 h2
 exact this _ hn hx hy
section
variable {P:Program}{b r:Nat}{es:Array MapEntry}{clock:Nat}{cons:List MapEntry}{left:Nat}{w:World}
theorem Rng.next(h:Rng b r es clock cons left w)(hS:Stamped es clock)(ty:TypeId):
  (left=0/\(Instr.next (.pointer (some ⟨r,0,none⟩)) false ty).run P w = .ok (.tuple #[.bool false]) w)\/
  ∃ e ∈ es.toList,∃ w' left',(¬ e ∈ cons)/\(Instr.next (.pointer (some ⟨r,0,none⟩)) false ty).run P w = .ok (.tuple #[.bool true,e.key,e.val]) w'/\Rng b r es clock (cons++[e]) left' w'/\left'<left/\
   (Instr.entry (.pointer (some ⟨r,0,none⟩))).run P w' = .ok (.tuple #[e.key,e.val]) w'/\∀ B,B<=r->Stp B w w':=by
 obtain⟨seen,c0,hr,hc,hl,hm⟩:=h.iter
 rcases run_next_at (P:=P) w ty r b clock c0 seen es clock hr h.map hS.1 hc with ⟨h0,h1⟩|⟨e,he,w1,hw1,h1⟩
 .exact .inl ⟨by omega,h1⟩
 have he':e ∈ es.toList/\seen.contains e.born=false:=by
  simp only[leftOf,Array.toList_filter,List.mem_filter,Bool.not_eq_true'] at he
  exact he
 have hrb:r≠b:=fun e'=>by subst e'; have:=h.map; rw[hr] at this; cases this
 have hrl:r<w.heap.size:=(Array.getElem?_eq_some_iff.1 hr).1
 have hsame:w1.heap=w.heap:=by rcases hw1 with rfl|rfl <;> rfl
 have hdr:w.drawn<=w1.drawn:=by rcases hw1 with rfl|rfl; exact Nat.le_refl _; exact Nat.le_succ _
 have hor:w1.os=w.os/\w1.tape=w.tape/\w1.output=w.output:=by rcases hw1 with rfl|rfl <;> exact⟨rfl,rfl,rfl⟩
 have hn1:(ChangeMaps.setBlock w1 r (.mapIter (some b) clock (seen.push e.born) clock)).heap[r]? = some (.mapIter (some b) clock (seen.push e.born) clock):=by
  simp[ChangeMaps.setBlock,hsame,hrl]
 have hn2:∀ k,k≠r->(ChangeMaps.setBlock w1 r (.mapIter (some b) clock (seen.push e.born) clock)).heap[k]? = w.heap[k]?:=fun k hk=>by
  simp[ChangeMaps.setBlock,hsame,Array.getElem?_setIfInBounds,Ne.symm hk]
 refine .inr ⟨e,he'.1,ChangeMaps.setBlock w1 r (.mapIter (some b) clock (seen.push e.born) clock),(leftOf es (seen.push e.born)).size,fun hc'=>by { have:=((hm e).1 hc').2; rw[he'.2] at this; cases this },h1,⟨(hn2 b (Ne.symm hrb)).trans h.map,⟨_,clock,hn1,Nat.le_refl _,rfl,fun x=>?_⟩,?_⟩,?_,?_,fun B hB=>⟨hor.1,hor.2.1,hor.2.2,hdr,by simp[ChangeMaps.setBlock,hsame],fun k o hk ho=>?_⟩⟩
 .simp only[List.mem_append,List.mem_singleton,Array.contains_push,Bool.or_eq_true,beq_iff_eq]
  constructor
  .rintro (hx|rfl)
   .exact⟨((hm x).1 hx).1,.inl ((hm x).1 hx).2⟩
   exact⟨he'.1,.inr rfl⟩
  rintro⟨hx,hx'|hx'⟩
  .exact .inl ((hm x).2 ⟨hx,hx'⟩)
  exact .inr (born_inj hS hx he'.1 hx')
 .refine List.nodup_append.2 ⟨h.nodup,by simp,fun a ha c hc'=>?_⟩
  simp only[List.mem_singleton] at hc'
  subst hc'
  intro e'
  subst e'
  have:=((hm a).1 ha).2
  rw[he'.2] at this; cases this
 .have hsub:leftOf es (seen.push e.born)=(leftOf es seen).filter fun x=>x.born != e.born:=by
   simp only[leftOf,Array.filter_filter,Array.contains_push,Bool.not_or]
   congr 1
   funext x
   rw[Bool.and_comm]; rfl
  rw[hsub,<- hl]
  have:∀ (l:List MapEntry),e ∈ l->(l.filter fun x=>x.born != e.born).length<l.length:=by
   intro l hl'
   have h1:=List.length_filter_le (fun x:MapEntry=>x.born != e.born) l
   rcases Nat.lt_or_ge (l.filter fun x=>x.born != e.born).length l.length with h2|h2
   .exact h2
   have:=List.length_filter_eq_length_iff.1 (Nat.le_antisymm h1 h2) e hl'
   simp at this
  have:=this (leftOf es seen).toList he
  have e2:((leftOf es seen).filter fun x=>x.born != e.born).size=((leftOf es seen).toList.filter fun x=>x.born != e.born).length:=by
   rw[<- Array.toList_filter,Array.length_toList]
  rw[e2,<- Array.length_toList (xs:=leftOf es seen)]
  exact this
 .exact run_entry_at _ r b clock seen es clock e hn1 ((hn2 b (Ne.symm hrb)).trans h.map) he'.1 hS.2.1
 by_cases hkr:k=r
 .subst hkr
  rw[hr] at hk; cases hk
  rcases ho with ho|ho
  .omega
  cases ho
 rw[hn2 k hkr]; exact hk
theorem Rng.stp{w':World}(h:Rng b r es clock cons left w)(hk:KeepsWalks w w'):Rng b r es clock cons left w':=by
 obtain⟨seen,c0,hr,rest⟩:=h.iter
 exact⟨hk.same b _ h.map rfl,⟨seen,c0,hk.same r _ hr rfl,rest⟩,h.nodup⟩
theorem Rng.done(h:Rng b r es clock cons 0 w)(hS:Stamped es clock):cons.Perm es.toList:=by
 obtain⟨seen,c0,hr,hc,hl,hm⟩:=h.iter
 have hn:es.toList.Nodup:=by
  have:=hS.2.1
  exact (List.pairwise_map.1 this).imp fun hne e=>hne (by rw[e])
 refine (List.perm_ext_iff_of_nodup h.nodup hn).2 fun x=>⟨fun hx=>((hm x).1 hx).1,fun hx=>(hm x).2 ⟨hx,?_⟩⟩
 have h0:leftOf es seen = #[]:=Array.eq_empty_of_size_eq_zero hl
 cases hs:seen.contains x.born with
 | true=>rfl
 | false=>
  have:x ∈ (leftOf es seen).toList:=by simp only[leftOf,Array.toList_filter,List.mem_filter,Bool.not_eq_true']; exact⟨hx,hs⟩
  rw[h0] at this; simp at this
end
def Gives{K:Type}(P:Program)(g:Nat)(lb:Array Value)(enc:K->Value)(ok:K->Prop)(S:List K->Prop)(n:Nat)(w:World):Prop:=
 ∀ (l:Nat) (J:List K->World->Prop) (W:World),(∀ (k:Nat) (o:Obj),w.heap[k]? = some o->W.heap[k]? = some o)->(∀ s W1 W2,J s W1->Stp W.heap.size W1 W2->J s W2)->
  (∀ pre x W1,J pre W1->ok x->pre.length<n->YieldAt Fence.wide 0 P l #[enc x] W1 fun e W2=>e = .returned (.bool true)/\J (pre++[x]) W2/\KeepsWalks W1 W2)->J [] W->
  Calls P g (#[.func (.yield l) #[] #[]]++lb) W fun e W'=>(∃ v,e = .returned v)/\∃ xs,S xs/\J xs W'
end Go.EL
namespace Go.EL
open Go.IntKind (i8 i16 i32 i64 u8 u16 u32 u64)
open Go Go.RowKit Go.Proofs Go.MapKept
section
variable {P:Program}{N:Nat}{Q:Post}{fr:Fr}{S:Asrt}{ops:Array Oper}{l:List Oper}{dst:Option Nat}{ty:TypeId}{pos:String}{af:Array Edge}{g:Option (Nat×Bool)}
def WLI(P:Program)(N:Nat)(ops:Array Oper)(Q:Post)(l:List Oper)(fr:Fr)(S:Asrt):Prop:=∀ a w,Rel N fr a->S w->wpListIn Fence.wide 0 P ops Q l a w
theorem WLI.nil(h:WE N Q .normal fr S):WLI P N ops Q [] fr S:=h
theorem WLI.y0{op:Op}{v:Value}(hg:guardOK ops fr ⟨dst,op,ty,pos,af,g⟩ true)(h:Y0 P N ⟨dst,op,ty,pos,af,g⟩ fr S v)(hn:∀ c,op≠.defer c)(hd:dstOK N dst)(k:WLI P N ops Q l (putFr dst v fr) S):WLI P N ops Q (⟨dst,op,ty,pos,af,g⟩::l) fr S:=fun a w ha hs=>by
 unfold wpListIn
 rw[if_pos (ha.wanted hg)]
 refine⟨fun _ _=>trivial,?_⟩
 rw[Oper.semAt_plain _ _ _ hn,h a w ha hs]
 exact k _ w (ha.putFr v hd) hs
theorem WLI.yield{x y:Operand}{ts:Array TypeId}{loop:Nat}{u:Value}{Φ:Value->Asrt}(hg:guardOK ops fr ⟨dst,.call ⟨.value x,#[y],ts⟩,ty,pos,af,g⟩ true)(hd:dstOK N dst)(hx:fr.ev x=some (.func (.yield loop) #[] #[]))(hy:fr.ev y=some u)
  (hY:∀ w,S w->YieldAt Fence.wide 0 P loop #[u] w fun e w'=>∃ v,e = .returned v/\Φ v w') (k:∀ v,WLI P N ops Q l (putFr dst v fr) (Φ v)):WLI P N ops Q (⟨dst,.call ⟨.value x,#[y],ts⟩,ty,pos,af,g⟩::l) fr S:=fun a w ha hs=>by
 unfold wpListIn
 rw[if_pos (ha.wanted hg)]
 refine⟨fun _ _=>trivial,?_⟩
 rw[Oper.semAt_plain _ _ _ (fun c h=>by cases h)]
 obtain⟨fn,tmps,assign,body,h1,h2⟩:=hY w hs
 have:(execOp a.eval ⟨dst,.call ⟨.value x,#[y],ts⟩,ty,pos,af,g⟩).run P w = .ok (.round loop fn tmps assign body) w:=by
  simp[execOp,resolve,ha.ev hx,ha.ev hy,Deferred.ofValue,invoke,h1]
 rw[this]
 refine⟨fun h=>by simp[Fence.wide] at h,h2.mono fun e w' ⟨v,e1,e2⟩=>?_⟩
 subst e1
 exact k v _ w' (ha.putFr v hd) e2
theorem WC.regionI{id:Nat}{l:List Oper}(h:WLI P N l.toArray Q l fr S):WC P N (.region id l.toArray false) Q fr S:=fun a w ha hs=>by
 refine (wpIn_wide (n:=0)).1 (wpIn_region ?_)
 have:=wpOpsIn_eq_wpListIn (F:=Fence.wide) (n:=0) (P:=P) (ops:=l.toArray) (Q:=Q) l 0 (fun j=>by simp)
 rw[List.range_eq_range',List.size_toArray,this]
 exact h a w ha hs
theorem Y0.loadW{t:TypeId}{x:Operand}{b off:Nat}{v:Value}(ht:ScalT P t)(hx:fr.ev x=some (.pointer (some ⟨b,off,none⟩)))(hv:∀ w,S w->w.cell? ⟨b,off,none⟩=some v):Y0 P N ⟨dst,.load t x,ty,pos,af,g⟩ fr S v:=fun a w ha hs=>by
 simp[execOp,ha.ev hx,Instr.loadAt,Instr.sureAddr,Zar ht (hv w hs)]
theorem WC.loopM{c:Code}{X:Type}(m:X->Nat)(F:X->Fr)(I:X->Asrt)(x₀:X)(hF:Fr.sub (F x₀) fr)(hI:∀ w,S w->I x₀ w)
  (round:∀ x,WC P N c (Exit.then (fun a w=>∃ x',m x'<m x/\Rel N (F x') a/\I x' w) Q) (F x) (I x)):WC P N (.loop c) Q fr S:=by
 have key:∀ n x,m x=n->∀ a w,Rel N (F x) a->I x w->LoopIn P c Q a w:=by
  intro n
  induction n using Nat.strongRecOn with
  | _ n ih=>
   intro x hx a w ha hI
   refine LoopIn.fold (Code.wp_mono (fun e a' w' hq=>?_) (round x a w ha hI))
   cases e <;> first|exact hq|skip
   obtain⟨x',h1,h2,h3⟩:=hq
   exact ih (m x') (by omega) x' rfl a' w' h2 h3
 exact fun a w ha hs=>(key _ x₀ rfl a w (ha.weaken hF) (hI w hs)).wp
end
theorem ZkJ{α:Type}:∀ {l m:List α},l.Nodup->(∀ x ∈ l,x ∈ m)->l.length<=m.length
 | [],m,_,_=>Nat.zero_le _
 | a::l,m,h,hs=>by
  obtain⟨s,t,rfl⟩:=List.append_of_mem (hs a (by simp))
  have h1:=List.nodup_cons.1 h
  have:=ZkJ (l:=l) (m:=s++t) h1.2 (fun x hx=>by
   have:=hs x (by simp[hx])
   simp only[List.mem_append,List.mem_cons] at this ⊢
   rcases this with h|rfl|h
   .exact .inl h
   .exact absurd hx h1.1
   exact .inr h)
  simp only[List.length_append,List.length_cons] at this ⊢
  omega
theorem Stp.Zq7{w w':World}{G0 G:Mem}{L:Lo}(h:St ⟨w,[]⟩ G0 G L w')(B:Nat):Stp B w w':=
 ⟨h.os,h.tape,h.output,h.drawn,h.size,fun k o hk _=>by rw[h.block k (Array.getElem?_eq_some_iff.1 hk).1 (fun _ _ e=>by simp[Lo.get] at e)]; exact hk⟩
end Go.EL
namespace Go.EL
open Go.IntKind (i8 i16 i32 i64 u8 u16 u32 u64)
open Go Go.RowKit Go.Proofs Go.MapKept
section
variable {P:Program}{K:Type}
theorem keysS{f:Nat}{fn:Func}{tM kt e:TypeId}{enc:K->Value}{ok:K->Prop}{i0 i1 i2 i3:Nat}{y4 y5 y6 y7 y8 y9 y3 y10 y11 y12 y13 tn:TypeId}{p4 p5 p6 p7 p8 p9 p3 p10 p11 p12 p13:String}{a4 a5 a6 a7 a8 a9 a3 a10 a11 a12 a13:Array Edge}{ts:Array TypeId}
  (hf:P.funcs[f]? = some fn)
  (hb:fn.body=some (.seq (.region i0 #[⟨some 4,.load tM (.tmp 1),y4,p4,a4,none⟩,⟨some 5,.range tM (.tmp 4),y5,p5,a5,none⟩] false)
   (.block 0 (.loop (.seq (.region i1 #[⟨some 6,.next (.tmp 5) false,y6,p6,a6,none⟩,⟨some 7,.extract (.tmp 6) 0,y7,p7,a7,none⟩] false)
    (.seq (.cond (.tmp 7) .skip (.exit 0)) (.block 1 (.seq (.region i2 #[⟨some 8,.entry (.tmp 5),y8,p8,a8,none⟩,⟨some 9,.extract (.tmp 8) 0,y9,p9,a9,none⟩,⟨some 3,.assign (.tmp 9),y3,p3,a3,none⟩] false)
     (.seq (.region i3 #[⟨some 10,.move (.tmp 0),y10,p10,a10,none⟩,⟨some 11,.move (.tmp 3),y11,p11,a11,none⟩,⟨some 12,.call ⟨.value (.tmp 10),#[.tmp 11],ts⟩,y12,p12,a12,none⟩,⟨some 13,.unOp .not tn (.tmp 12),y13,p13,a13,none⟩] false)
      (.cond (.tmp 13) .ret .skip))))))))))
  (hN:fn.ntmps=14) (hr:fn.results = #[]) (hM:ScalT P tM) (hu:P.underlying tM=some (.map kt e))
  {w:World}{Bm b:Nat}{es:Array MapEntry}{clock:Nat}(hcell:w.cell? ⟨Bm,0,none⟩=some (.map (some b))) (hmap:w.heap[b]? = some (.map es clock)) (hS:Stamped es clock) (hk:∀ en ∈ es.toList,∃ x,ok x/\en.key=enc x) :
  Gives P f #[.pointer (some ⟨Bm,0,none⟩)] (fun x=>enc x) ok (fun xs=>∃ cons:List MapEntry,cons.Perm es.toList/\cons.map (·.key)=xs.map fun x=>enc x) es.size w:=by
 intro l J W hW hA hY h0
 have hcW:W.cell? ⟨Bm,0,none⟩=some (.map (some b)):=by
  obtain⟨ob,h1,h2⟩:=not_walk_of_cell hcell
  have h1:w.heap[Bm]? = some ob:=h1
  have h1':=hW Bm ob h1
  simp only[World.cell?,h1] at hcell
  simp only[World.cell?,h1']
  exact hcell
 have hmW:=hW b _ hmap
 suffices hwc:WC P 14 _ (bodyPost P fn fun e W'=>(∃ v,e = .returned v)/\∃ xs:List K,(∃ cons:List MapEntry,cons.Perm es.toList/\cons.map (·.key)=xs.map fun x=>enc x)/\J xs W') (argFr [.func (.yield l) #[] #[],.pointer (some ⟨Bm,0,none⟩)] 0) (fun w=>w=W) by
  refine calls_of_wp hf hb (hwc _ W ⟨rfl,by rw[hN]; rfl,fun t v hv=>?_⟩ rfl)
  obtain⟨_,h2⟩:=ZeC _ 0 t v hv
  simp only[Nat.sub_zero] at h2
  have hlt:=(List.getElem?_eq_some_iff.1 h2).1
  rw[Array.getElem?_append_left (by simpa using hlt)]
  simpa using h2
 have hbl:b<W.heap.size:=(Array.getElem?_eq_some_iff.1 hmW).1
 let I:List K×List MapEntry×Nat->Asrt:=fun x w=>J x.1 w/\Rng b W.heap.size es clock x.2.1 x.2.2 w/\x.2.1.map (·.key)=x.1.map fun x=>enc x
 refine WC.seq (WC.region (WL.y0' Zn (Y0.loadW hM rfl (fun w hw=>by subst hw; exact hcW)) rfl ?_))
 refine WL.yr (Φ:=fun v w=>v = .pointer (some ⟨W.heap.size,0,none⟩)/\I ([],[],(leftOf es #[]).size) w) Zn (fun a w ha hs=>?_) rfl (fun v a w ha hs=>?_)
 .subst hs
  have:(execOp a.eval ⟨some 5,.range tM (.tmp 4),y5,p5,a5,none⟩).run P w = .ok (.value (.pointer (some ⟨w.heap.size,0,none⟩))) (w.alloc (.mapIter (some b) clock #[] clock)):=by
   simp[execOp,ha.ev (x:=.tmp 4) (v:=.map (some b)) rfl,Instr.range,run_underlying hu,MapKept.run_getObj_map hmW,Result.andThen,run_newObj_alloc]
  rw[this]
  refine⟨rfl,hA _ _ _ h0 (Stp.alloc _ _ _),⟨(Below.heap_alloc _ _ b hbl).trans hmW,⟨#[],clock,World.alloc_heap_new _ _,Nat.le_refl _,rfl,fun x=>?_⟩,List.nodup_nil⟩,rfl⟩
  simp
 obtain⟨rfl,hs⟩:=hs
 suffices hq:WL P 14 _ _ [] _ (I ([],[],(leftOf es #[]).size)) from hq a w ha hs
 refine WL.nil (WE.then (WC.block (WC.loopM (X:=List K×List MapEntry×Nat) (fun x=>x.2.2) (fun _=>[(0,.func (.yield l) #[] #[]),(5,.pointer (some ⟨W.heap.size,0,none⟩))]) I ([],[],(leftOf es #[]).size) (Fr.Zf rfl (Fr.Zf rfl (Fr.Zs _))) (fun _ h=>h) ?_)))
 rintro⟨ss,cons,left⟩
 refine WC.seq (WC.region ?_)
 refine WL.yr (Φ:=fun v w=>(v = .tuple #[.bool false]/\left=0/\I (ss,cons,left) w)\/∃ en ∈ es.toList,∃ left',v = .tuple #[.bool true,en.key,en.val]/\((¬ en ∈ cons)/\J ss w/\Rng b W.heap.size es clock (cons++[en]) left' w/\left'<left/\cons.map (·.key)=ss.map (fun x=>enc x)/\(Instr.entry (.pointer (some ⟨W.heap.size,0,none⟩))).run P w = .ok (.tuple #[en.key,en.val]) w)) Zn (fun a w ha hs=>?_) rfl (fun v a w ha hs=>?_)
 .obtain⟨hJ,hR,hc⟩:=hs
  rcases hR.next (P:=P) hS y6 with ⟨h1,h2⟩|⟨en,h1,w',left',h2,h3,h4,h5,h6,h7⟩
  .have:(execOp a.eval ⟨some 6,.next (.tmp 5) false,y6,p6,a6,none⟩).run P w = .ok (.value (.tuple #[.bool false])) w:=by
    simp[execOp,ha.ev (x:=.tmp 5) (v:=.pointer (some ⟨W.heap.size,0,none⟩)) rfl,h2]
   rw[this]
   exact .inl ⟨rfl,h1,hJ,hR,hc⟩
  have:(execOp a.eval ⟨some 6,.next (.tmp 5) false,y6,p6,a6,none⟩).run P w = .ok (.value (.tuple #[.bool true,en.key,en.val])) w':=by
   simp[execOp,ha.ev (x:=.tmp 5) (v:=.pointer (some ⟨W.heap.size,0,none⟩)) rfl,h3]
  rw[this]
  exact .inr ⟨en,h1,left',rfl,h2,hA _ _ _ hJ (h7 _ (Nat.le_refl _)),h4,h5,hc,h6⟩
 rcases hs with ⟨rfl,rfl,hs⟩|⟨en,hen',left',rfl,hs⟩
 .-- nothing is left
  suffices hq:WL P 14 _ _ _ _ (I (ss,cons,0)) from hq a w ha hs
  refine WL.y0' Zn (Y0.extract rfl rfl) rfl (WL.nil (WE.then (WC.seq (WC.condF rfl (WC.exit (WE.thenExit (WE.thenExit (WE.exitHere ?_))))))))
  rintro a w ha ⟨hJ,hR,hc⟩
  exact⟨ha.defers,.tuple #[],by simp[results,hr],⟨_,rfl⟩,ss,⟨cons,hR.done hS,hc⟩,hJ⟩
 suffices hq:WL P 14 _ _ _ _ (fun w=>(¬ en ∈ cons)/\J ss w/\Rng b W.heap.size es clock (cons++[en]) left' w/\left'<left/\cons.map (·.key)=ss.map (fun x=>enc x)/\(Instr.entry (.pointer (some ⟨W.heap.size,0,none⟩))).run P w = .ok (.tuple #[en.key,en.val]) w) from hq a w ha hs
 refine WL.y0' Zn (Y0.extract rfl rfl) rfl (WL.nil (WE.then (WC.seq (WC.condT rfl (WC.skip (WE.then (WC.block (WC.seq (WC.region ?_)))))))))
 obtain⟨x,hok,hkx⟩:=hk en hen'
 refine WL.y0' (v:=.tuple #[enc x,en.val]) Zn (fun a w ha hs=>?_) rfl (WL.y0' Zn (Y0.extract rfl rfl) rfl ?_)
 .simp[execOp,ha.ev (x:=.tmp 5) (v:=.pointer (some ⟨W.heap.size,0,none⟩)) rfl,hs.2.2.2.2.2,hkx]
 intro a w1 ha hs
 obtain⟨hnc,hJ,hR,hlt,hc,_⟩:=hs
 have hst:St ⟨w1,[]⟩ (fun _ _=>none) (fun _ _=>none) [] w1:=(Hp.empty w1).st
 revert a ha
 suffices h:WL P 14 _ _ _ _ (St ⟨w1,[]⟩ (fun _ _=>none) (fun _ _=>none) []) from fun a ha=>h a w1 ha hst
 refine WL.y0' Zn (Y0.assign rfl) rfl (WL.nil (WE.then (WC.seq (WC.regionI ?_))))
 refine WLI.y0 Zn (Y0.move rfl) (fun c h=>by cases h) rfl (WLI.y0 Zn (Y0.move rfl) (fun c h=>by cases h) rfl ?_)
 have hlen:ss.length<es.size:=by
  have h1:(cons++[en]).length<=es.toList.length:=by
   obtain⟨seen,c0,_,_,_,hm⟩:=hR.iter
   exact ZkJ hR.nodup (fun y hy=>((hm y).1 hy).1)
  have h2:cons.length=ss.length:=by have:=congrArg List.length hc; simpa using this
  simp only[List.length_append,List.length_cons,List.length_nil,Array.length_toList] at h1
  omega
 refine WLI.yield (Φ:=fun v w=>v = .bool true/\I (ss++[x],cons++[en],left') w) Zn rfl rfl rfl (fun w hs=>?_) (fun v=>?_)
 .have hstp:=Stp.Zq7 hs W.heap.size
  have hkw:KeepsWalks w1 w:=⟨hs.size,fun k o hk' _=>by rw[hs.block k (Array.getElem?_eq_some_iff.1 hk').1 (fun _ _ e=>by simp[Lo.get] at e)]; exact hk'⟩
  obtain⟨fn',tm,as1,bo,q1,q2⟩:=hY ss x w (hA _ _ _ hJ hstp) hok hlen
  refine⟨fn',tm,as1,bo,q1,q2.mono fun e w' ⟨e1,e2,e3⟩=>⟨_,e1,rfl,e2,(hR.stp hkw).stp e3,?_⟩⟩
  simp[hc,hkx]
 intro a w ha hs
 obtain⟨rfl,hs⟩:=hs
 suffices hq:WLI P 14 _ _ _ _ (I (ss++[x],cons++[en],left')) from hq a w ha hs
 refine WLI.y0 Zn (Y0.not rfl) (fun c h=>by cases h) rfl (WLI.nil (WE.then (WC.condF rfl (WC.skip (WE.inBlock ?_)))))
 exact fun a w ha hs=>⟨(ss++[x],cons++[en],left'),hlt,ha.weaken (Fr.Zf rfl (Fr.Zf rfl (Fr.Zs _))),hs⟩
theorem appS{f g:Nat}{fn:Func}{lb:Array Value}{tS e:TypeId}{bytes N:Nat}{z:Value}{enc:K->Value}{ok:K->Prop}{r:Rp K}{Sx:List K->Prop}{i0 i1 i2 i3 i4:Nat}{y2 y4 y6 y5 y8 y9 y10 y11 y13 y12 y14:TypeId}{p2 p4 p6 p5 p8 p9 p10 p11 p13 p12 p14:String}{a2 a4 a6 a5 a8 a9 a10 a11 a13 a12 a14:Array Edge}
  (hf:P.funcs[f]? = some fn)
  (hb:fn.body=some (.seq (.region i0 #[⟨some 2,.box tS (.tmp 0),y2,p2,a2,none⟩,⟨some 4,.assign (.const (.slice none 0 0)),y4,p4,a4,none⟩] false)
   (.seq (.seq (.region i1 #[⟨some 6,.move (.tmp 1),y6,p6,a6,none⟩] false) (.block 0 (.rangeFunc (.tmp 6) #[7] (.region i2 #[⟨some 5,.assign (.tmp 7),y5,p5,a5,none⟩] false) (.block 1 (.region i3 #[⟨some 8,.load tS (.tmp 2),y8,p8,a8,none⟩,⟨some 9,.move (.tmp 5),y9,p9,a9,none⟩,⟨some 10,.buildSlice tS 1 #[(0,.tmp 9)],y10,p10,a10,none⟩,⟨some 11,.call ⟨.builtin .append,#[.tmp 8,.tmp 10],#[tS,tS]⟩,y11,p11,a11,none⟩,⟨none,.store tS (.tmp 2) (.tmp 11),y13,p13,a13,none⟩] false)))))
    (.seq (.region i4 #[⟨some 12,.load tS (.tmp 2),y12,p12,a12,none⟩,⟨some 4,.assign (.tmp 12),y14,p14,a14,none⟩] false) .ret))))
  (hN:fn.ntmps=13) (hr:fn.results = #[.tmp 4]) (hS:ScalT P tS) (hSz:(P.info? tS).map (·.size)=some 1) (hu:P.underlying tS=some (.slice e)) (hE:ElT P e z r.size bytes) (hzs:z.cells.size=r.size) (hby:bytes<=100000) 
  (hrep:∀ G x,r.rep G [enc x] x) (hlit:∀ x w,(Instr.buildSlice tS 1 #[(0,enc x)]).run P w = .ok (.slice (some ⟨w.heap.size,0,none⟩) 1 1) (w.alloc (.cells [enc x].toArray e)))
  (hg:∀ args w,(callFunc g args).run P w = .ok (.enter g args) w) (hNs:N<=small) {w:World}{G:Mem}(hi:Imm G w) (hG:Gives P g lb (fun x=>enc x) ok Sx N w) :
  Calls P f #[.slice none 0 0,.func (.func g) #[] lb] w (RetL ⟨w,[]⟩ G (fun G' L' v=>∃ xs p c tk,L'=[(7000,tk)]/\v = .slice p xs.length c/\RowR r e G' v xs tk/\Sx xs)):=by
 refine (callsIn_wide (n:=0)).1 (callsIn_of_wp_marks hf hb trivial ((wpIn_wide (n:=0)).2 ?_))
 have hHp:Hp G [] w:=⟨hi,by intro _ _ h; simp[Lo.get] at h,by intro _ _ _ _ _ h; simp[Lo.get] at h⟩
 suffices hwc:WC P 13 _ (bodyPostM Fence.wide 0 P fn (RetL ⟨w,[]⟩ G (fun G' L' v=>∃ xs p c tk,L'=[(7000,tk)]/\v = .slice p xs.length c/\RowR r e G' v xs tk/\Sx xs))) (argFr [.slice none 0 0,.func (.func g) #[] lb] 0) (St ⟨w,[]⟩ G G []) by
  refine hwc _ w ⟨rfl,by rw[hN]; rfl,fun t v hv=>?_⟩ hHp.st
  obtain⟨_,h2⟩:=ZeC _ 0 t v hv
  simp only[Nat.sub_zero] at h2
  have hlt:=(List.getElem?_eq_some_iff.1 h2).1
  rw[Array.getElem?_append_left (by simpa using hlt)]
  simpa using h2
 refine WC.seq (WC.region (WL.box 2 Zn rfl rfl (fun B=>WL.y0' Zn (Y0.assign rfl) rfl (WL.nil (WE.then (WC.seq (WC.seq (WC.region (WL.y0' Zn (Y0.move rfl) rfl (WL.nil (WE.then (WC.block ?_)))))))))))) 
 intro a w1 ha hs
 refine (wpIn_wide (n:=0)).1 (wpIn_rangeFunc ?_)
 intro fnid _
 let rec':Loop:={ state:=.ready,pending:=none,fn:=fnid,tmps:=a.tmps,params:=#[7],assign:=.region i2 #[⟨some 5,.assign (.tmp 7),y5,p5,a5,none⟩] false,body:=.block 1 (.region i3 #[⟨some 8,.load tS (.tmp 2),y8,p8,a8,none⟩,⟨some 9,.move (.tmp 5),y9,p9,a9,none⟩,⟨some 10,.buildSlice tS 1 #[(0,.tmp 9)],y10,p10,a10,none⟩,⟨some 11,.call ⟨.builtin .append,#[.tmp 8,.tmp 10],#[tS,tS]⟩,y11,p11,a11,none⟩,⟨none,.store tS (.tmp 2) (.tmp 11),y13,p13,a13,none⟩] false),defers:=w1.heap.size }
 have hs1:St ⟨w,[]⟩ G G _ ((w1.alloc (.deferred (some []))).alloc (.loop rec')):=(hs.push 8002 (.deferred (some []))).push 8001 (.loop rec')
 have hl1:(w1.alloc (.deferred (some []))).heap.size=w1.heap.size+1:=by simp
 rw[hl1] at hs1
 refine⟨w1.heap.size+1,[{ target:=.collected w1.heap.size,args:=#[] }],((w1.alloc (.deferred (some []))).alloc (.loop rec')),{ target:=.fn (.func g) lb,args:=#[.func (.yield (w1.heap.size+1)) #[] #[]] },((w1.alloc (.deferred (some []))).alloc (.loop rec')),g,#[.func (.yield (w1.heap.size+1)) #[] #[]]++lb,((w1.alloc (.deferred (some []))).alloc (.loop rec')),run_enterLoop_outer _ _ _ _ _,?_,fun _ _=>trivial,?_,fun h=>by simp[Fence.wide] at h,?_⟩
 .have e6:=ha.here 6 (.func (.func g) #[] lb) rfl
  simp[resolve,rangeCall,Deferred.ofValue,Act.eval,e6]
 .simp[invoke,hg]
 refine (callsIn_wide (n:=0)).2 ?_
 let J:List K->World->Prop:=fun xs W=>∃ G' p c tk,St ⟨w,[]⟩ G G' [(8001,some ⟨w1.heap.size+1,.loop rec',0⟩),(8002,some ⟨w1.heap.size,.deferred (some []),0⟩),(2,some ⟨B,.cells #[.slice p xs.length c] tS (0,0),0⟩),(7000,tk)] W/\RowR r e G' (.slice p xs.length c) xs tk
 have hrn:RowR r e G (.slice none 0 0) ([]:List K) none:=RowR.nil
 refine Calls.mono (hG (w1.heap.size+1) J _ (fun k o hk=>?_) (fun xs W1 W2 hJ hst=>?_) (fun pre x W1 hJ hok hlen=>?_) ⟨G,none,0,none,hs1.weaken (Lo.Zf rfl (Lo.Zf rfl (Lo.Zf rfl (Lo.Zmf (Lo.Zs _))))),hrn⟩) (fun en W2 hq=>?_)
 .have hk':=(Array.getElem?_eq_some_iff.1 hk).1
  rw[hs1.block k hk' (fun _ _ h=>by simp[Lo.get] at h)]; exact hk
 .obtain⟨G',p,c,tk,h1,h2⟩:=hJ
  refine⟨G',p,c,tk,h1.stp hst ?_ (fun i x hx=>?_),h2⟩
  .have:=hs1.size; exact this
  simp only[Lo.Zl] at hx
  split at hx
  .cases hx; rfl
  split at hx
  .cases hx; rfl
  split at hx
  .cases hx; rfl
  split at hx
  .cases tk with
   | none=>cases hx
   | some y=>
    cases hx
    obtain⟨_,_,_,_,e2,_⟩:=h2
    rw[e2]; rfl
  simp[Lo.get] at hx
 .obtain⟨G1,p,c,tk,h1,h2⟩:=hJ
  have hlb:=(h1.loc 8001 _ rfl).1
  refine⟨fnid,a.tmps.setIfInBounds 7 (enc x),rec'.assign,rec'.body,(by simpa [rec'] using run_yield (P:=P) (args:=#[enc x]) hlb rfl),?_⟩
  let L1:Lo:=[(8001,some ⟨w1.heap.size+1,.loop rec',0⟩),(2,some ⟨B,.cells #[.slice p pre.length c] tS (0,0),0⟩),(7000,tk)]
  have hL1:Lo.sub L1 [(8001,some ⟨w1.heap.size+1,.loop rec',0⟩),(8002,some ⟨w1.heap.size,.deferred (some []),0⟩),(2,some ⟨B,.cells #[.slice p pre.length c] tS (0,0),0⟩),(7000,tk)]:=Lo.Zf rfl (Lo.Zf rfl (Lo.Zf rfl (Lo.Zs _)))
  have hrel:Rel 13 [(2,.pointer (some ⟨B,0,none⟩)),(7,enc x)] ⟨a.tmps.setIfInBounds 7 (enc x),[]⟩:=by
   refine⟨rfl,by simpa using ha.size,fun t v hv=>?_⟩
   rw[Fr.Zl] at hv
   split at hv
   .rename_i ht; subst ht; cases hv
    rw[Array.getElem?_setIfInBounds_ne (by decide)]
    exact ha.here 2 _ rfl
   rw[Fr.Zl] at hv
   split at hv
   .rename_i ht; subst ht; cases hv
    rw[Array.getElem?_setIfInBounds_self_of_lt (by rw[ha.size]; decide)]
   simp[Fr.get] at hv
  refine (ZpI (P:=P) (N:=13) (opsA:=[⟨some 5,.assign (.tmp 7),y5,p5,a5,none⟩]) (opsB:=[⟨some 8,.load tS (.tmp 2),y8,p8,a8,none⟩,⟨some 9,.move (.tmp 5),y9,p9,a9,none⟩,⟨some 10,.buildSlice tS 1 #[(0,.tmp 9)],y10,p10,a10,none⟩,⟨some 11,.call ⟨.builtin .append,#[.tmp 8,.tmp 10],#[tS,tS]⟩,y11,p11,a11,none⟩,⟨none,.store tS (.tmp 2) (.tmp 11),y13,p13,a13,none⟩]) (post:=fun G2 L2=>Mem.le G1 G2/\∃ p' c' tk',Lo.sub [(2,some ⟨B,.cells #[.slice p' (pre++[x]).length c'] tS (0,0),0⟩),(7000,tk')] L2/\RowR r e G2 (.slice p' (pre++[x]).length c') (pre++[x]) tk') rfl rfl rfl rfl ?_ ?_ hrel (h1.hp hL1) rfl ?_).mono ?_
  .intro o ho c'; simp only[List.mem_cons,List.not_mem_nil,or_false] at ho; subst ho; (intro h; cases h)
  .intro o ho c'; simp only[List.mem_cons,List.not_mem_nil,or_false] at ho; rcases ho with rfl|rfl|rfl|rfl|rfl <;> (intro h; cases h)
  .refine WL.y0' Zn (Y0.assign rfl) rfl (WL.nil ?_)
   intro a1 v1 ha1 hs2
   refine⟨rfl,_,_,_,ha1,hs2,rfl,?_⟩
   refine WL.y0' Zn (Y0.loadL 2 hS rfl rfl rfl) rfl (WL.y0' Zn (Y0.move rfl) rfl ?_)
   refine WL.litR (e:=e) (r:=r) (vs:=#[(0,enc x)]) (cs:=[enc x]) ([x]:List K) Zn rfl rfl rfl rfl (by decide) (fun w=>hlit x w) (RepL.single (hrep _ x)) (key:=999) rfl rfl (fun q G2 hle hq=>?_)
   refine WL.appendT (r:=r) (e:=e) 7000 Zn rfl hu hE hzs hby rfl rfl (h2.mono hle) rfl hq (by simp only[List.length_append,List.length_cons,List.length_nil]; omega) (fun p' c' tk' hrow=>?_)
   refine WL.storeL 2 #[.slice p' (pre++[x]).length c'] Zn hSz rfl rfl rfl (by simp) rfl rfl (WL.nil ?_)
   exact fun a2 v2 _ hs3=>⟨rfl,_,_,hs3,rfl,hle,p',c',tk',Lo.Zf rfl (Lo.Zf rfl (Lo.Zs _)),hrow⟩
  rintro e' W2 ⟨e1,G2,L2,hx,hle,p',c',tk',hsub,hrow⟩
  refine⟨e1,⟨G2,p',c',tk',?_,hrow⟩,⟨hx.size,fun k o hk ho=>?_⟩⟩
  .refine h1.ext (R:=[(8002,some ⟨w1.heap.size,.deferred (some []),0⟩)]) hx hL1 (Lo.Zf rfl (Lo.Zs _)) (fun i y hy=>?_) (fun _ _ _ _ _ z hz'=>by simp[Lo.get] at hz') (fun i y hy=>?_)
   .rw[Lo.Zl] at hy
    split at hy
    .rename_i hi'; subst hi'; rfl
    simp[Lo.get] at hy
   rw[Lo.Zl] at hy
   split at hy
   .rename_i hi'; subst hi'; left; rw[Lo.Zl,if_pos rfl]; exact hy
   rename_i hi1
   rw[Lo.Zl] at hy
   split at hy
   .rename_i hi2; right; rw[Lo.Zl,if_pos hi2]; exact hy
   left; rw[Lo.Zl,if_neg hi1]; exact hsub i y hy
  refine (hx.block k (Array.getElem?_eq_some_iff.1 hk).1 (fun i y hy hyk=>?_)).trans hk
  have hyo:=(h1.loc i y (hL1 i y hy)).1
  rw[hyk,hk] at hyo
  have hoo:y.o.isWalk=true:=by cases hyo; exact ho
  simp only[L1,Lo.Zl] at hy
  split at hy
  .cases hy; cases hoo
  split at hy
  .cases hy; cases hoo
  split at hy
  .cases tk with
   | none=>cases hy
   | some q=>
    cases hy
    obtain⟨_,_,_,_,e2,_⟩:=h2
    rw[e2] at hoo; cases hoo
  simp[Lo.get] at hy
 obtain⟨⟨v0,rfl⟩,xs,hSx,G',p,c,tk,h1,h2⟩:=hq
 have hend:=run_endLoop (P:=P) (h1.loc 8001 _ rfl).1 (by simp[rec'])
 have h3:=h1.putLoop (r':={ rec' with state:=.exhausted }) (key:=8001) rfl
 refine⟨none,_,hend,?_⟩
 refine wp_seq (wp_region_lit ?_)
 have hc:=cell_of_row _ B 0 _ tS (0,0) (h3.loc 2 _ rfl).1
 have hc':=Zar (P:=P) hS (hc.trans rfl)
 unfold wpList
 rw[if_pos (by rfl)]
 refine .inl ?_
 have r1:(execOp ({ a with defers:=[{ target:=.collected w1.heap.size,args:=#[] }]++a.defers }:Act).eval ⟨some 12,.load tS (.tmp 2),y12,p12,a12,none⟩).run P (W2.putObj (w1.heap.size+1) (.loop { rec' with state:=.exhausted })) = .ok (.value (.slice p xs.length c)) (W2.putObj (w1.heap.size+1) (.loop { rec' with state:=.exhausted })):=by
  have e9:=ha.here 2 (.pointer (some ⟨B,0,none⟩)) rfl
  simp[execOp,Act.eval,e9,Instr.loadAt,Instr.sureAddr,hc']
 unfold Oper.wp
 rw[r1]
 show wpList _ _ _ _ _ _
 unfold wpList
 rw[if_pos (by rfl)]
 refine .inl ?_
 have hsz:a.tmps.size=13:=ha.size
 have r2:(execOp ((({ a with defers:=[{ target:=.collected w1.heap.size,args:=#[] }]++a.defers }:Act).put (some 12) (.slice p xs.length c))).eval ⟨some 4,.assign (.tmp 12),y14,p14,a14,none⟩).run P (W2.putObj (w1.heap.size+1) (.loop { rec' with state:=.exhausted })) = .ok (.value (.slice p xs.length c)) (W2.putObj (w1.heap.size+1) (.loop { rec' with state:=.exhausted })):=by
  simp[execOp,Act.eval,Act.put,hsz]
 unfold Oper.wp
 rw[r2]
 refine wp_ret ?_
 show LeavesInM _ _ _ _ _ _ _ _ _
 have e3:((({ a with defers:=[{ target:=.collected w1.heap.size,args:=#[] }]++a.defers }:Act).put (some 12) (.slice p xs.length c)).put (some 4) (.slice p xs.length c)).defers=[{ target:=.collected w1.heap.size,args:=#[] }]:=by
  simp[Act.put,ha.defers]
 rw[e3]
 refine⟨by simp,.inl ⟨_,_,rfl,run_takeDeferred (h3.loc 8002 _ rfl).1,?_⟩⟩
 refine⟨.slice p xs.length c,?_,?_⟩
 .rw[results_tmp hr]
  simp[Act.put,hsz]
 refine⟨_,G',[(7000,tk)],rfl,?_,xs,p,c,tk,rfl,rfl,h2,hSx⟩
 have hdl:=(Array.getElem?_eq_some_iff.1 (h3.loc 8002 _ rfl).1).1
 have h4:=h3.upd (i:=8002) (m':=0) (w':=World.putObj _ w1.heap.size (.deferred none)) rfl (World.putObj_heap_same hdl) (Nat.le_refl _) (fun k _ hk=>absurd hk (Nat.not_lt_zero k)) (fun k hk=>World.putObj_heap_other hk) rfl rfl rfl rfl (by simp)
 exact (h4.weaken (Lo.Zf rfl (Lo.Zs _))).toExt
end
end Go.EL
namespace Go.EL
open Go.IntKind (i8 i16 i32 i64 u8 u16 u32 u64)
open Go Go.RowKit Go.Proofs Go.MapKept
theorem Ext.frame{w w':World}{G G':Mem}{L0 L':Lo}(h:Ext w G [] w' G' L')(hp:Hp G L0 w)(hd:∀ i x,L'.get i=some x->L0.get i=none):Ext w G L0 w' G' (L'++L0):=by
 have get:∀ i x,Lo.get (L'++L0) i=some x->L'.get i=some x\/L0.get i=some x:=fun i x hx=>Lo.get_append L' L0 i x hx
 have nb:∀ i x,L'.get i=some x->w.heap.size<=x.b:=fun i x hx=>by
  rcases (h.loc i x hx).2.1 with ⟨y,hy,_⟩|h'
  .simp[Lo.get] at hy
  exact h'
 have lt:∀ i x,L0.get i=some x->x.b<w.heap.size:=fun i x hx=>(Array.getElem?_eq_some_iff.1 (hp.loc i x hx).1).1
 refine⟨h.os,h.tape,h.output,h.drawn,h.size,fun k hk _=>h.block k hk (fun _ _ e=>by simp[Lo.get] at e),h.le,h.imm,fun b o v hv=>?_,fun i x hx=>?_,fun i j x y hne hx hy=>?_⟩
 .rcases h.fresh b o v hv with h'|h'|h'
  .exact .inl h'
  .exact .inr (.inl h')
  exact (Lo.Zkb h').elim
 .rcases get i x hx with hx|hx
  .exact⟨(h.loc i x hx).1,.inr (nb i x hx),(h.loc i x hx).2.2⟩
  refine⟨by rw[h.block x.b (lt i x hx) (fun _ _ e=>by simp[Lo.get] at e)]; exact (hp.loc i x hx).1,.inl ⟨x,hx,rfl⟩,fun k hk=>?_⟩
  cases hg:G' x.b k with
  | none=>rfl
  | some v=>
   rcases h.fresh x.b k v hg with h'|h'|h'
   .rw[(hp.loc i x hx).2 k hk] at h'; cases h'
   .have:=lt i x hx; omega
   exact (Lo.Zkb h').elim
 rcases get i x hx with hx|hx <;> rcases get j y hy with hy|hy
 .exact h.dist i j x y hne hx hy
 .have:=nb i x hx; have:=lt j y hy; omega
 .have:=lt i x hx; have:=nb j y hy; omega
 exact hp.dist i j x y hne hx hy
theorem ZmN{K V:Type}{enc:K->Value}(hinj:∀ {x y},enc x=enc y->x=y){xs ys:List K}(h:(xs.map enc).Perm (ys.map enc)):xs.Perm ys:=by
 classical
 let inv:Value->Option K:=fun v=>if h:∃ k,enc k=v then some h.choose else none
 have hi:∀ l:List K,(l.map enc).filterMap inv=l:=by
  intro l
  induction l with
  | nil=>rfl
  | cons x l ih=>
   have:inv (enc x)=some x:=by
    have hx:∃ k,enc k=enc x:=⟨x,rfl⟩
    simp only[inv,dif_pos hx]
    rw[hinj hx.choose_spec]
   simp only[List.map_cons,List.filterMap_cons,this,ih]
 have:=h.filterMap inv
 rwa [hi,hi] at this
theorem MapL.keys{K V:Type}{enc:K->Value}{Rv:K->Value->V->Prop}:∀ {es:List MapEntry}{D:List (K×V)},MapL enc Rv es D->es.map (·.key)=(D.map (·.1)).map enc
 | [],[],_=>rfl
 | _::_,_::_,h=>by simp only[List.map_cons,List.cons.injEq]; exact⟨h.1,MapL.keys h.2.2⟩
 | [],_::_,h=>by cases h
 | _::_,[],h=>by cases h
theorem Lo.Zni:∀ (A B:Lo),Lo.sub A (A++B)
 | [],_=>Lo.Zs _
 | p::A,B=>fun i x h=>by
  obtain⟨j,y⟩:=p
  rw[List.cons_append,Lo.Zl]
  rw[Lo.Zl] at h
  split at h
  .rename_i e; rw[if_pos e]; exact h
  rename_i e; rw[if_neg e]; exact Lo.Zni A B i x h
section
variable {P:Program}{K V:Type}{kt:TypeId}
def CollectsL(P:Program)(f:FuncId)(lead:Array Value)(g:FuncId)(ky:Ky P kt K)(r:Rp K)(e:TypeId):Prop:=
 ∀ {V:Type}(Rv:K->Value->V->Prop) (v:Value) (D:List (K×V)) (tk:Option Ow) (bm kk:Nat),kk≠7000/\kk≠5000->MapR ky Rv v D tk->
  CtrL P f (lead.push (.func (.func g) #[] #[.pointer (some ⟨bm,0,none⟩)])) [(kk,tk)] (fun G=>G bm 0=some v) (fun G L u=>∃ xs p c tk2,L=[(7000,tk2),(kk,tk)]/\u = .slice p xs.length c/\RowR r e G u xs tk2/\xs.Perm (D.map (·.1)))
theorem ZhZ{f g:FuncId}{ky:Ky P kt K}{r:Rp K}{e:TypeId}
  (happ:∀ {w:World}{G:Mem}{lb:Array Value}{Sx:List K->Prop}{N:Nat},N<=small->Imm G w->Gives P g lb ky.enc ky.ok Sx N w->Calls P f #[.slice none 0 0,.func (.func g) #[] lb] w (RetL ⟨w,[]⟩ G (fun G' L' v=>∃ xs p c tk,L'=[(7000,tk)]/\v = .slice p xs.length c/\RowR r e G' v xs tk/\Sx xs)))
  (hkeys:∀ {w:World}{Bm b:Nat}{es:Array MapEntry}{clock:Nat},w.cell? ⟨Bm,0,none⟩=some (.map (some b))->w.heap[b]? = some (.map es clock)->Stamped es clock->(∀ en ∈ es.toList,∃ x,ky.ok x/\en.key=ky.enc x)->
   Gives P g #[.pointer (some ⟨Bm,0,none⟩)] ky.enc ky.ok (fun xs=>∃ cons:List MapEntry,cons.Perm es.toList/\cons.map (·.key)=xs.map ky.enc) es.size w):CollectsL P f #[.slice none 0 0] g ky r e:=by
 intro V Rv v D tk bm kk hkk hmap w G hi hpre
 obtain⟨b,es,clock,rfl,rfl,h3,h4,h5,h6⟩:=hmap
 have hget:Lo.get [(kk,some (⟨b,.map es clock,0⟩:Ow))] kk=some ⟨b,.map es clock,0⟩:=by rw[Lo.Zl,if_pos rfl]
 have hb:=(hi.loc kk _ hget).1
 have hsz:es.size<=small:=by have:=h5.length; rw[Array.length_toList] at this; omega
 refine (happ hsz hi.imm (hkeys (hi.imm _ _ _ hpre) hb h3 (fun en hen=>?_))).mono ?_
 .obtain⟨p,hp,hk,_⟩:=h5.key en hen
  exact⟨p.1,h4 p hp,hk⟩
 rintro en w' ⟨u,G',L',e1,hx,xs,p,c,tk2,rfl,rfl,hrow,cons,hc1,hc2⟩
 refine⟨_,G',[(7000,tk2),(kk,_)],e1,hx.frame (L0:=[(kk,some ⟨b,.map es clock,0⟩)]) hi (fun i x hx'=>?_),xs,p,c,tk2,rfl,rfl,hrow,?_⟩
 .rw[Lo.Zl] at hx'
  split at hx'
  .rename_i e2; subst e2; rw[Lo.Zl,if_neg hkk.1]; rfl
  simp[Lo.get] at hx'
 refine ZmN (V:=V) (fun h=>ky.inj h) ?_
 rw[<- hc2,<- h5.keys]
 exact hc1.map _
theorem collect{f0 f g:FuncId}{fn:Func}{ky:Ky P kt K}{r:Rp K}{e:TypeId}{i0 i1:Nat}{y2 y3 y4 y5:TypeId}{p2 p3 p4 p5:String}{a2 a3 a4 a5:Array Edge}{ts:Array TypeId}(h:CollectsL P f0 #[.slice none 0 0] g ky r e)(hE:Enters P f0)
  (hf:P.funcs[f]? = some fn) (hb:fn.body=some (.seq (.region i0 #[⟨some 2,.assign (.const (.slice none 0 0)),y2,p2,a2,none⟩] false)
   (.seq (.region i1 #[⟨some 3,.move (.tmp 0),y3,p3,a3,none⟩,⟨some 4,.call ⟨.value (.func f0),#[.const (.slice none 0 0),.tmp 3],ts⟩,y4,p4,a4,none⟩,⟨some 2,.assign (.tmp 4),y5,p5,a5,none⟩] false) .ret)))
  (hN:fn.ntmps=5) (hr:fn.results = #[.tmp 2]):CollectsL P f #[] g ky r e:=by
 intro V Rv v D tk bm kk hkk hmap
 refine CtrL.enter (args:=[_]) (N:=5) hf hb hN rfl (fun w0 G0 hL0 hpre=>?_)
 have hz:w0.L.zero:=by rw[hL0]; intro p hp x hx; simp only[List.mem_singleton] at hp; subst hp; exact hmap.zero hx
 refine WC.seq (WC.region (WL.y0' Zn (Y0.assign rfl) rfl (WL.nil (WE.then (WC.seq (WC.region (WL.y0' Zn (Y0.move rfl) rfl ?_)))))))
 refine WL.callT Zn rfl (YC.of hE rfl) (h Rv v D tk bm kk hkk hmap) rfl hpre (Lo.Zcv _) hz (fun u G' L' hle hpost=>?_)
 obtain⟨xs,p,c,tk2,rfl,rfl,hrow,hperm⟩:=hpost
 refine WL.y0' Zn (Y0.assign rfl) rfl (WL.nil (WE.then (WC.ret ?_)))
 refine WE.conseq (S':=St w0 G0 G' [(7000,tk2),(kk,tk)]) (fun w hs=>hs.weaken (Lo.Zni _ _)) ?_
 exact WE.ret1 hr rfl ⟨xs,p,c,tk2,rfl,rfl,hrow,hperm⟩
theorem keysBox{f g:FuncId}{fn:Func}{tM:TypeId}{i0 i1:Nat}{y1 y2 y3 y4:TypeId}{p1 p2 p3 p4:String}{a1 a2 a3 a4:Array Edge}
  (hf:P.funcs[f]? = some fn) (hb:fn.body=some (.seq (.region i0 #[⟨some 1,.box tM (.tmp 0),y1,p1,a1,none⟩,⟨some 2,.assign (.const .nilFunc),y2,p2,a2,none⟩] false)
   (.seq (.region i1 #[⟨some 3,.makeFunc (.func g) #[] #[.tmp 1],y3,p3,a3,none⟩,⟨some 2,.assign (.tmp 3),y4,p4,a4,none⟩] false) .ret))) (hN:fn.ntmps=4) (hr:fn.results = #[.tmp 2]) (m:Option Nat) :
  Ctr P f #[.map m] (fun _=>True) (fun G u=>∃ bm,u = .func (.func g) #[] #[.pointer (some ⟨bm,0,none⟩)]/\G bm 0=some (.map m)):=by
 refine Ctr.enter (args:=[_]) (N:=4) hf hb hN rfl (fun w0 G0 hL0 _=>?_)
 refine WC.seq (WC.region (WL.box 1 Zn rfl rfl (fun bm=>WL.y0' Zn (Y0.assign rfl) rfl (WL.nil (WE.then (WC.seq (WC.region (WL.y0' Zn (Y0.makeFunc rfl rfl) rfl (WL.y0' Zn (Y0.assign rfl) rfl (WL.nil (WE.then (WC.ret ?_)))))))))))) 
 intro a w ha hs
 obtain⟨h1,h2⟩:=hs.know (i:=1) (n:=1) rfl (by rw[hL0]; rfl) (Nat.zero_le _)
 refine (?_:WE 4 _ .ret _ (St w0 G0 (Mem.row G0 bm #[Value.map m] 0 1) _)) a w ha h1
 exact WE.ret1 hr rfl ⟨bm,rfl,by rw[Mem.Zho (Nat.zero_le _) (by decide)]; rfl⟩
end
end Go.EL
namespace Go.EL
open Go.IntKind (i8 i16 i32 i64 u8 u16 u32 u64)
open Go Go.RowKit Go.Proofs
section
variable {P:Program}{K:Type}{kt:TypeId}
def SortedL(P:Program)(f g:FuncId)(ky:Ky P kt K)(r:Rp K)(e:TypeId)(sm:List K->Cq (List K)):Prop:=
 ∀ {V:Type}(Rv:K->Value->V->Prop) (v:Value) (D:List (K×V)) (tk:Option Ow) (bm kk:Nat) (Φ:List K->Prop),kk≠7000/\kk≠5000->MapR ky Rv v D tk->(∀ ks,ks.Perm (D.map (·.1))->∃ y,(sm ks).Ret y/\Φ y)->
  CtrL P f #[.func (.func g) #[] #[.pointer (some ⟨bm,0,none⟩)]] [(kk,tk)] (fun G=>G bm 0=some v) (fun G L u=>∃ y p c tk2,L=[(7000,tk2),(kk,tk)]/\u = .slice p y.length c/\RowR r e G u y tk2/\Φ y)
theorem sorted{f0 f1 f g:FuncId}{fn:Func}{ky:Ky P kt K}{r:Rp K}{e:TypeId}{sm:List K->Cq (List K)}{i0 i1 i2 i3:Nat}{y2 y4 y5 y3 y6 y7 y8 y9:TypeId}{p2 p4 p5 p3 p6 p7 p8 p9:String}{a2 a4 a5 a3 a6 a7 a8 a9:Array Edge}{ts tu:Array TypeId}(h:CollectsL P f0 #[] g ky r e)
  (hs:∀ xs p c tk y,(sm xs).Ret y->CtrL P f1 #[.slice p xs.length c] [(5000,tk)] (fun G=>RowR r e G (.slice p xs.length c) xs tk) (fun G L v=>∃ zk,L=[(5000,zk)]/\v = .tuple #[]/\RowR r e G (.slice p xs.length c) y zk)) (hE:Enters P f0) (hE1:Enters P f1)
  (hf:P.funcs[f]? = some fn) (hb:fn.body=some (.seq (.region i0 #[⟨some 2,.assign (.const (.slice none 0 0)),y2,p2,a2,none⟩] false)
   (.seq (.region i1 #[⟨some 4,.move (.tmp 0),y4,p4,a4,none⟩,⟨some 5,.call ⟨.value (.func f0),#[.tmp 4],ts⟩,y5,p5,a5,none⟩,⟨some 3,.assign (.tmp 5),y3,p3,a3,none⟩] false)
    (.seq (.region i2 #[⟨some 6,.move (.tmp 3),y6,p6,a6,none⟩,⟨some 7,.call ⟨.value (.func f1),#[.tmp 6],tu⟩,y7,p7,a7,none⟩] false)
     (.seq (.region i3 #[⟨some 8,.move (.tmp 3),y8,p8,a8,none⟩,⟨some 2,.assign (.tmp 8),y9,p9,a9,none⟩] false) .ret)))))
  (hN:fn.ntmps=9) (hr:fn.results = #[.tmp 2]):SortedL P f g ky r e sm:=by
 intro V Rv v D tk bm kk Φ hkk hmap hΦ
 refine CtrL.enter (args:=[_]) (N:=9) hf hb hN rfl (fun w0 G0 hL0 hpre=>?_)
 have hz:w0.L.zero:=by rw[hL0]; intro p hp x hx; simp only[List.mem_singleton] at hp; subst hp; exact hmap.zero hx
 refine WC.seq (WC.region (WL.y0' Zn (Y0.assign rfl) rfl (WL.nil (WE.then (WC.seq (WC.region (WL.y0' Zn (Y0.move rfl) rfl ?_)))))))
 refine WL.callT Zn rfl (YC.of hE rfl) (h Rv v D tk bm kk hkk hmap) rfl hpre (Lo.Zcv _) hz (fun u G' L' hle hpost=>?_)
 obtain⟨xs,p,c,tk2,rfl,rfl,hrow,hperm⟩:=hpost
 obtain⟨y,hy,hΦy⟩:=hΦ xs hperm
 refine WL.y0' Zn (Y0.assign rfl) rfl (WL.nil (WE.then (WC.seq (WC.region (WL.y0' Zn (Y0.move rfl) rfl ?_)))))
 have h7:w0.L.get 7000=none:=by rw[hL0,Lo.Zl,if_neg hkk.1]; rfl
 have h5:w0.L.get 5000=none:=by rw[hL0,Lo.Zl,if_neg hkk.2]; rfl
 refine WL.conseq (fun w hs=>hs.rekey (i:=7000) (j:=5000) rfl h7) ?_
 refine WL.callT Zn rfl (YC.of hE1 rfl) (hs xs p c tk2 y hy) rfl hrow (Lo.Zf rfl (Lo.Zs _)) hz (fun u G2 L2 hle2 hpost=>?_)
 obtain⟨zk,rfl,rfl,hrow2⟩:=hpost
 refine WL.nil (WE.then (WC.seq (WC.region (WL.y0' Zn (Y0.move rfl) rfl (WL.y0' Zn (Y0.assign rfl) rfl (WL.nil (WE.then (WC.ret ?_))))))))
 refine WE.conseq (S':=St w0 G0 G2 [(7000,zk),(kk,tk)]) (fun w hs=>(hs.rekey (i:=5000) (j:=7000) rfl h5).weaken (Lo.Zf rfl (Lo.Zf ?_ (Lo.Zs _)))) ?_
 .simp only[Lo.without,List.map_cons,List.map_nil,List.cons_append,List.nil_append,Lo.Zl,if_neg (Ne.symm hkk.1),if_neg (Ne.symm hkk.2),if_pos]
 exact WE.ret1 hr rfl ⟨y,p,c,zk,rfl,hrow2.eqv,hrow2,hΦy⟩
end
end Go.EL
namespace Go.EL
open Go.IntKind (i8 i16 i32 i64 u8 u16 u32 u64)
open Go Go.RowKit Go.Proofs
section
variable {P:Program}{N:Nat}{Q:Post}{fr:Fr}{S:Asrt}{ops:Array Oper}{l:List Oper}{dst:Option Nat}{ty:TypeId}{pos:String}{af:Array Edge}{g:Option (Nat×Bool)}
variable {w0:Bs}{G0 G:Mem}{L:Lo}
def WCI(P:Program)(N l:Nat)(c:Code)(Q:Post)(fr:Fr)(S:Asrt):Prop:=∀ a w,Rel N fr a->S w->c.wpIn (Fence.wide.inRound l) 0 P Q a w
section
variable {r:Nat}
theorem WCI.then{c:Code}(h:WCI P N r c Q fr S):WE N (Exit.then (c.wpIn (Fence.wide.inRound r) 0 P Q) Q) .normal fr S:=h
end
end
end Go.EL
namespace Go.EL
open Go.IntKind (i8 i16 i32 i64 u8 u16 u32 u64)
open Go Go.RowKit Go.Proofs
end Go.EL
namespace Go.EL
open Go.IntKind (i8 i16 i32 i64 u8 u16 u32 u64)
open Go Go.RowKit Go.Proofs
section
variable {P:Program}{N:Nat}{Q:Post}{fr:Fr}{Bt:Asrt}{w0:Bs}{G0 G:Mem}{L:Lo}{ops:Array Oper}{fs:List Bool}{l:List Oper}{det:Fr}{und:Und}
def RowM{α:Type}(r:Rp α)(e:TypeId)(mk:Option Addr->Nat->Value)(d:Nat)(xs:List α):Value->Gx->Prop:=fun v g=>∃ p c tk,v=mk p c/\RowR r e g.m (.slice p xs.length c) xs tk/\∀ y,tk=some y->g.x y.b=some (d,y.o)
variable {α:Type}{r:Rp α}{e:TypeId}{mk:Option Addr->Nat->Value}{d:Nat}{xs:List α}
theorem RowM.mono{v:Value}{g g':Gx}(hle:Gx.leE d g g'):RowM r e mk d xs v g->RowM r e mk d xs v g':=fun ⟨p,c,tk,h1,h2,h3⟩=>⟨p,c,tk,h1,h2.mono hle.1,fun y hy=>hle.2 _ _ (h3 y hy)⟩
theorem RowM.drop{d':Nat}{v:Value}{g:Gx}{tk:Option Ow}(h:RowM r e mk d xs v g)(hne:Nat.beq d d'=false)(ht:∀ y,tk=some y->g.x y.b=some (d',y.o)):RowM r e mk d xs v (g.drop tk):=by
 obtain⟨p,c,tk',h1,h2,h3⟩:=h
 obtain⟨p',c',tk2,k1,k2,k3⟩:=RowX.drop (v:=.slice p xs.length c) ⟨p,c,tk',rfl,h2,h3⟩ hne ht
 cases k1
 exact⟨p,c,tk2,h1,k2,k3⟩
end
end Go.EL
namespace Go.EL
open Go.IntKind (i8 i16 i32 i64 u8 u16 u32 u64)
open Go Go.RowKit Go.Proofs
section
variable {P:Program}{N:Nat}{Q:Post}{fr:Fr}{S:Asrt}{ops:Array Oper}{l:List Oper}
def skB(ops:Array Oper)(fr:Fr)(N j:Nat)(c:Bool)(ds:List (Option Nat)):Bool:=
 match (ops[j]?).bind (·.dst) with
 | some d=>(match fr.get d with|some (.bool v)=>v == !c|_=>false) && ds.all fun x=>match x with|some t=>Nat.blt t N && !(Nat.beq t d)|none=>true
 | none=>false
theorem ZpL{j:Nat}{c:Bool}{ds:List (Option Nat)}(h:skB ops fr N j c ds=true):∃ d,(ops[j]?).bind (·.dst)=some d/\fr.get d=some (.bool (!c))/\∀ x ∈ ds,dstOK N x/\x≠some d:=by
 unfold skB at h
 split at h
 .rename_i d hd
  rw[Bool.and_eq_true,List.all_eq_true] at h
  refine⟨d,hd,?_,fun x hx=>?_⟩
  .have h1:=h.1
   split at h1
   .rename_i v hv
    rw[hv,beq_iff_eq.1 h1]
   cases h1
  have h2:=h.2 x hx
  cases x with
  | none=>exact⟨trivial,by simp⟩
  | some t=>
   rw[Bool.and_eq_true] at h2
   refine⟨h2.1,fun e=>?_⟩
   cases e
   have:=h2.2
   simp at this
 cases h
theorem ZqB{d:Nat}{x:Option Nat}{v:Value}(h:x≠some d):(putFr x v fr).get d=fr.get d:=by
 cases x with
 | none=>rfl
 | some t=>
  show (bif Nat.beq t d then some v else fr.get d)=_
  have:Nat.beq t d=false:=by
   cases hb:Nat.beq t d with
   | false=>rfl
   | true=>exact absurd (by rw[Nat.eq_of_beq_eq_true hb]) h
  rw[this]; rfl
theorem skStep{j d:Nat}{c:Bool}{dst:Option Nat}{op:Op}{ty:TypeId}{pos:String}{af:Array Edge}(h1:(ops[j]?).bind (·.dst)=some d)(h2:fr.get d=some (.bool (!c)))(hd:dstOK N dst)(k:WL P N ops Q l (putFr dst undef fr) S):WL P N ops Q (⟨dst,op,ty,pos,af,some (j,c)⟩::l) fr S:=WL.skip (Zpm h1 h2) hd k
theorem skCons{j:Nat}{c:Bool}{x:Option Nat}{ds:List (Option Nat)}{op:Op}{ty:TypeId}{pos:String}{af:Array Edge}(h:skB ops fr N j c (x::ds)=true)(k:skB ops (putFr x undef fr) N j c ds=true->WL P N ops Q l (putFr x undef fr) S):WL P N ops Q (⟨x,op,ty,pos,af,some (j,c)⟩::l) fr S:=by
 obtain⟨d,h1,h2,h3⟩:=ZpL h
 have hx:=h3 x (by simp)
 refine skStep h1 h2 hx.1 (k ?_)
 unfold skB at h ⊢
 rw[h1] at h ⊢
 simp only[List.all_cons,Bool.and_eq_true] at h ⊢
 rw[ZqB hx.2]
 exact⟨h.1,h.2.2⟩
variable {j:Nat}{c:Bool}{d0 d1 d2 d3 d4 d5 d6 d7 d8:Option Nat}{o0 o1 o2 o3 o4 o5 o6 o7 o8:Op}{t0 t1 t2 t3 t4 t5 t6 t7 t8:TypeId}{p0 p1 p2 p3 p4 p5 p6 p7 p8:String}{a0 a1 a2 a3 a4 a5 a6 a7 a8:Array Edge}
theorem sn2(h:skB ops fr N j c [d0,d1]=true)(k:WL P N ops Q l (putFr d1 undef (putFr d0 undef fr)) S):WL P N ops Q (⟨d0,o0,t0,p0,a0,some (j,c)⟩::⟨d1,o1,t1,p1,a1,some (j,c)⟩::l) fr S:=skCons h fun h=>skCons h fun _=>k
theorem sn3(h:skB ops fr N j c [d0,d1,d2]=true)(k:WL P N ops Q l (putFr d2 undef (putFr d1 undef (putFr d0 undef fr))) S):WL P N ops Q (⟨d0,o0,t0,p0,a0,some (j,c)⟩::⟨d1,o1,t1,p1,a1,some (j,c)⟩::⟨d2,o2,t2,p2,a2,some (j,c)⟩::l) fr S:=skCons h fun h=>sn2 h k
theorem sn4(h:skB ops fr N j c [d0,d1,d2,d3]=true)(k:WL P N ops Q l (putFr d3 undef (putFr d2 undef (putFr d1 undef (putFr d0 undef fr)))) S):WL P N ops Q (⟨d0,o0,t0,p0,a0,some (j,c)⟩::⟨d1,o1,t1,p1,a1,some (j,c)⟩::⟨d2,o2,t2,p2,a2,some (j,c)⟩::⟨d3,o3,t3,p3,a3,some (j,c)⟩::l) fr S:=skCons h fun h=>sn3 h k
theorem sn5(h:skB ops fr N j c [d0,d1,d2,d3,d4]=true)(k:WL P N ops Q l (putFr d4 undef (putFr d3 undef (putFr d2 undef (putFr d1 undef (putFr d0 undef fr))))) S):WL P N ops Q (⟨d0,o0,t0,p0,a0,some (j,c)⟩::⟨d1,o1,t1,p1,a1,some (j,c)⟩::⟨d2,o2,t2,p2,a2,some (j,c)⟩::⟨d3,o3,t3,p3,a3,some (j,c)⟩::⟨d4,o4,t4,p4,a4,some (j,c)⟩::l) fr S:=skCons h fun h=>sn4 h k
theorem sn6(h:skB ops fr N j c [d0,d1,d2,d3,d4,d5]=true)(k:WL P N ops Q l (putFr d5 undef (putFr d4 undef (putFr d3 undef (putFr d2 undef (putFr d1 undef (putFr d0 undef fr)))))) S):WL P N ops Q (⟨d0,o0,t0,p0,a0,some (j,c)⟩::⟨d1,o1,t1,p1,a1,some (j,c)⟩::⟨d2,o2,t2,p2,a2,some (j,c)⟩::⟨d3,o3,t3,p3,a3,some (j,c)⟩::⟨d4,o4,t4,p4,a4,some (j,c)⟩::⟨d5,o5,t5,p5,a5,some (j,c)⟩::l) fr S:=skCons h fun h=>sn5 h k
theorem sn7(h:skB ops fr N j c [d0,d1,d2,d3,d4,d5,d6]=true)(k:WL P N ops Q l (putFr d6 undef (putFr d5 undef (putFr d4 undef (putFr d3 undef (putFr d2 undef (putFr d1 undef (putFr d0 undef fr))))))) S):WL P N ops Q (⟨d0,o0,t0,p0,a0,some (j,c)⟩::⟨d1,o1,t1,p1,a1,some (j,c)⟩::⟨d2,o2,t2,p2,a2,some (j,c)⟩::⟨d3,o3,t3,p3,a3,some (j,c)⟩::⟨d4,o4,t4,p4,a4,some (j,c)⟩::⟨d5,o5,t5,p5,a5,some (j,c)⟩::⟨d6,o6,t6,p6,a6,some (j,c)⟩::l) fr S:=skCons h fun h=>sn6 h k
end
end Go.EL
namespace Go.EL
open Go.IntKind (i8 i16 i32 i64 u8 u16 u32 u64)
open Go Go.RowKit Go.Proofs
end Go.EL
namespace Go.EL
open Go.IntKind (i8 i16 i32 i64 u8 u16 u32 u64)
open Go Go.RowKit Go.Proofs Go.MapKept
section
variable {P:Program}{N:Nat}{Q:Post}{fr:Fr}{S:Asrt}{ops:Array Oper}{l:List Oper}{dst:Option Nat}{ty:TypeId}{pos:String}{af:Array Edge}{g:Option (Nat×Bool)}{w0:Bs}{G0 G:Mem}{L:Lo}
theorem Zl9{t:TypeId}{fa fb:Field}{k:IntKind}(ht:P.underlying t=some (.struct #[fa,fb]))(sa:ScalT P fa.type)(sb:ScalT P fb.type)(ha:P.underlying fa.type=some (.int k))(hb:P.underlying fb.type=some .string)(hp:P.stoodInHeld t=false)
  (hn:(fa.name≠"_"/\fa.offset=0)/\fb.name≠"_"/\fb.offset=1) (i j:Int) (u v:ByteArray) (w:World) :
  (Op.equalIn (9999+1) t (.agg #[.int k i,.string u]) (.agg #[.int k j,.string v])).run P w = .ok (decide (i=j/\u=v)) w:=by
 have hf:P.fieldsOf t = #[fa,fb]:=by simp[Program.fieldsOf,ht]
 rw[run_equalIn_struct w 9999 t _ _ (by rw[hf]; exact ht) hp,hf]
 have p1:∀ i u,(part fa.type #[.int k i,.string u] fa.offset).run P w = .ok (.int k i) w:=fun i u=>Za9 sa (by rw[hn.1.2]; rfl) w
 have p2:∀ i u,(part fb.type #[.int k i,.string u] fb.offset).run P w = .ok (.string u) w:=fun i u=>Za9 sb (by rw[hn.2.2]; rfl) w
 have e1:=run_equalIn_int (P:=P) w 9998 fa.type k k i j ha
 have e2:=run_equalIn_string (P:=P) w 9998 fb.type u v hb
 rw[ZjV] at e2
 simp only[Op.eqFields,if_pos hn.1.1,if_pos hn.2.1,Sem.run_bind,p1,p2,Result.andThen_ok,e1,e2]
 have hne:(i == j)=decide (i=j):=Zna i j
 have e3:(Op.equalIn 9999 fb.type (.string u) (.string v)).run P w = .ok (decide (u=v)) w:=e2
 rw[hne]
 by_cases h1:i=j
 .simp only[h1,decide_true,Bool.not_true,Bool.false_eq_true,if_false,Sem.run_bind,p2,Result.andThen_ok,e3,true_and]
  by_cases h2:u=v
  .simp[h2]
  simp[h2]
 simp[h1]
theorem Y0.neqIS{t yt:TypeId}{x y:Operand}{fa fb:Field}{k:IntKind}{i j:Int}{u v:ByteArray}(ht:P.underlying t=some (.struct #[fa,fb]))(sa:ScalT P fa.type)(sb:ScalT P fb.type)(ha:P.underlying fa.type=some (.int k))(hb:P.underlying fb.type=some .string)(hp:P.stoodInHeld t=false)(hg:P.eqGuardType P.depth t=false)
  (hn:(fa.name≠"_"/\fa.offset=0)/\fb.name≠"_"/\fb.offset=1) (hx:fr.ev x=some (.agg #[.int k i,.string u])) (hy:fr.ev y=some (.agg #[.int k j,.string v])):Y0 P N ⟨dst,.binOp .neq t x y yt,ty,pos,af,g⟩ fr S (.bool (decide (¬ (i=j/\u=v)))):=
 Y0.bin hx hy (fun w=>run_eqGuard_agg w _ _ _ _ _ _ hg) fun w=>by
  rw[run_neq_struct,Zl9 ht sa sb ha hb hp hn]
  by_cases h1:i=j/\u=v <;> simp[h1,Result.andThen]
theorem WC.unroll{c:Code}(h:WC P N c (Exit.then (LoopIn P c Q) Q) fr S):WC P N (.loop c) Q fr S:=fun a w ha hs=>(LoopIn.fold (h a w ha hs)).wp
theorem WE.again{c:Code}(h:WC P N c (Exit.then (LoopIn P c Q) Q) fr S):WE N (Exit.then (LoopIn P c Q) Q) .normal fr S:=fun a w ha hs=>LoopIn.fold (h a w ha hs)
theorem YC.ofB{f:FuncId}{x:Operand}{args:Array Operand}{ats:Array TypeId}{vs:List Value}{rc:Value}(he:Enters P f)(hx:fr.ev x=some (.func (.func f) #[rc] #[]))(hv:fr.evs args.toList=some vs):
  YC P N ⟨dst,.call ⟨.value x,args,ats⟩,ty,pos,af,g⟩ fr S f (rc::vs).toArray:=fun a w ha _=>by
 have e1:args.map a.eval=vs.toArray:=by apply Array.ext'; simpa using ha.evs _ _ hv
 simpa [execOp,resolve,e1,ha.ev hx,Deferred.ofValue,invoke] using he (rc::vs).toArray w
end
section
variable {P:Program}{kt:TypeId}{K V:Type} [DecidableEq K] {ky:Ky P kt K}{r:Rp V}
variable {N:Nat}{Q:Post}{fr:Fr}{S:Asrt}{ops:Array Oper}{l:List Oper}{dst:Option Nat}{ty:TypeId}{pos:String}{af:Array Edge}{g:Option (Nat×Bool)}{w0:Bs}{G0 G:Mem}{L:Lo}
theorem WL.mapGetA{t et:TypeId}{m x:Operand}{v:Value}{zc:List Value}{z:V}{D:List (K×V)}{tk:Option Ow}{k:K}(key:Nat)(hg:guardOK ops fr ⟨dst,.lookup t m x false,ty,pos,af,g⟩ true)(hd:dstOK N dst)(ht:P.underlying t=some (.map kt et))(hz:∀ w,(zeroValue et).run P w = .ok (.agg zc.toArray) w)
  (hzr:r.rep G zc z) (h:MapR ky (RvA r G) v D tk) (hid:L.get key=tk) (hm:fr.ev m=some v) (hx:fr.ev x=some (ky.enc k)) (hk:ky.ok k)
  (kk:∀ cs,r.rep G cs ((mget D k).getD z)->WL P N ops Q l (putFr dst (.agg cs.toArray) fr) (St w0 G0 G L)):WL P N ops Q (⟨dst,.lookup t m x false,ty,pos,af,g⟩::l) fr (St w0 G0 G L):=by
 refine WL.mapGet (R:=fun u=>∃ cs,u = .agg cs.toArray/\r.rep G cs ((mget D k).getD z)) key false hg hd ht hz h hid hm hx hk (fun h0=>?_) (fun val y h1 h2=>?_) (fun u hu=>?_)
 .rw[h0]; exact⟨zc,rfl,hzr⟩
 .rw[h1]; obtain⟨cs,e,hr⟩:=h2; exact⟨cs,e,hr⟩
 obtain⟨cs,rfl,hr⟩:=hu; exact kk cs hr
theorem WL.mapGetB{t et:TypeId}{m x:Operand}{v:Value}{zc:List Value}{z:V}{D:List (K×V)}{tk:Option Ow}{k:K}(key:Nat)(hg:guardOK ops fr ⟨dst,.lookup t m x true,ty,pos,af,g⟩ true)(hd:dstOK N dst)(ht:P.underlying t=some (.map kt et))(hz:∀ w,(zeroValue et).run P w = .ok (.agg zc.toArray) w)
  (hzr:r.rep G zc z) (h:MapR ky (RvA r G) v D tk) (hid:L.get key=tk) (hm:fr.ev m=some v) (hx:fr.ev x=some (ky.enc k)) (hk:ky.ok k)
  (kk:∀ cs,r.rep G cs ((mget D k).getD z)->WL P N ops Q l (putFr dst (.tuple #[.agg cs.toArray,.bool (mget D k).isSome]) fr) (St w0 G0 G L)):WL P N ops Q (⟨dst,.lookup t m x true,ty,pos,af,g⟩::l) fr (St w0 G0 G L):=by
 refine WL.mapGet (R:=fun u=>∃ cs,u = .tuple #[.agg cs.toArray,.bool (mget D k).isSome]/\r.rep G cs ((mget D k).getD z)) key true hg hd ht hz h hid hm hx hk (fun h0=>?_) (fun val y h1 h2=>?_) (fun u hu=>?_)
 .rw[h0]; exact⟨zc,rfl,hzr⟩
 .rw[h1]; obtain⟨cs,e,hr⟩:=h2; exact⟨cs,by rw[e]; rfl,hr⟩
 obtain⟨cs,rfl,hr⟩:=hu; exact kk cs hr
variable {fs:List Bool}{det:Fr}{und:Und}{d:Nat}{op:Op}
def MapG(ky:Ky P kt K)(r:Rp V)(d:Nat)(D:List (K×V)):Value->Gx->Prop:=fun v g=>∃ b tk,v = .map (some b)/\MapR ky (RvA r g.m) (.map (some b)) D tk/\∀ y,tk=some y->g.x y.b=some (d,y.o)
omit [DecidableEq K] in
theorem MapG.mono{v:Value}{D:List (K×V)}{g g':Gx}(hle:Gx.leE d g g'):MapG ky r d D v g->MapG ky r d D v g':=fun ⟨b,tk,h1,h2,h3⟩=>⟨b,tk,h1,h2.monoA hle.1,fun y hy=>hle.2 _ _ (h3 y hy)⟩
omit [DecidableEq K] in
theorem MapG.drop{d':Nat}{v:Value}{D:List (K×V)}{g:Gx}{tk:Option Ow}(h:MapG ky r d D v g)(hne:Nat.beq d d'=false)(ht:∀ y,tk=some y->g.x y.b=some (d',y.o)):MapG ky r d D v (g.drop tk):=
 h.mono (g':=g.drop tk) ⟨(fun _ _ _ h=>h:Mem.le g.m g.m),fun b o hb=>by
  have hn:¬ tk.any (fun y=>Nat.beq y.b b)=true:=fun ha=>by
   obtain⟨y,h1,h2⟩:=ZeB.1 ha
   have:=ht y h1
   rw[h2,hb] at this
   cases this
   simp at hne
  simp only[Gx.drop,if_neg hn]
  exact hb⟩
omit [DecidableEq K] in
theorem Chain.callMapG{Bt:Asrt}{f:FuncId}(D:List (K×V))(hg:∀ u,guardOK ops (undFr und u++(det++fr)) ⟨some d,op,ty,pos,af,g⟩ true)
  (h:∀ u (G':Gx),Mem.le G G'.m->undLook ops ⟨some d,op,ty,pos,af,g⟩ und u G'->∃ args args' pre,(∀ S,YC P N ⟨some d,op,ty,pos,af,g⟩ (undFr und u++(det++fr)) S f args')/\CtrL P f args [] pre (fun G L v=>∃ b tk,L=[(7000,tk)]/\v = .map (some b)/\MapR ky (RvA r G) (.map (some b)) D tk)/\args'=args/\pre G'.m)
  (k:Chain P N Q fr w0 G0 G L ops Bt fs l det ((d,MapG ky r d D)::und)):Chain P N Q fr w0 G0 G L ops Bt (false::fs) (⟨some d,op,ty,pos,af,g⟩::l) det und:=
 Chain.cund d (MapG ky r d D) rfl (fun v _ _ h=>MapG.mono h) (fun u g hle hu=>by
  obtain⟨args,args',pre,h1,h2,h3,h4⟩:=h u g hle.1 hu
  subst h3
  refine .inr ⟨hg u,fun a w ha hs=>?_⟩
  rw[h1 _ a w ha hs]
  refine (h2 w g.m (hs.st.hp (Lo.Zs _)) h4).mono fun e' w' ⟨v,G',L',q1,q2,b,tk,q3,q5,q4⟩=>⟨v,q1,?_⟩
  subst q3
  have hz:∀ y,tk=some y->y.m=0:=fun y hy=>q4.zero hy
  obtain⟨s1,s2⟩:=hs.extO (d:=d) (k:=none) q2 (fun i y hi=>by simp[Lo.get] at hi) hz
  exact⟨_,s2.le,s1,b,tk,q5,q4,fun y hy=>by simp only[Gx.turn]; rw[if_pos (ZeB.2 ⟨y,hy,rfl⟩),hy]; rfl⟩) k
omit [DecidableEq K] in
theorem WL.adoptG{X:Gx}{v:Value}{D:List (K×V)}(h:MapG ky r d D v X)
  (k:∀ b tk,v = .map (some b)->MapR ky (RvA r X.m) (.map (some b)) D tk->(∀ y,tk=some y->X.x y.b=some (d,y.o))->WL P N ops Q l fr (StX w0 G0 (X.drop tk) ((d,tk)::L))):WL P N ops Q l fr (StX w0 G0 X L):=fun a w ha hs=>by
 obtain⟨b,tk,h1,h2,h3⟩:=h
 exact k b tk h1 h2 h3 a w ha (hs.adoptR (fun y hy=>h2.zero hy) h3)
end
end Go.EL
namespace Go.EL
open Go.IntKind (i8 i16 i32 i64 u8 u16 u32 u64)
open Go Go.RowKit Go.Proofs Go.MapKept
def Rp.mapv:Rp Nat:=⟨1,fun _ cs b=>cs=[.map (some b)],fun h=>by rw[h]; rfl,fun _ h=>h,fun h u hu=>by rw[h] at hu; simp at hu; subst hu; rfl⟩
theorem AtK.mapv{G:Mem}{K:Nat->Value->Prop}{o:Nat}{x:Nat}(h:AtK Rp.mapv G K o x):K o (.map (some x)):=by
 obtain⟨c,h1,h2⟩:=h
 have h1:c=[.map (some x)]:=h1
 subst h1
 exact h2 0 _ rfl
def setB{a:Nat}{α:Type}{n:Nat}(b:Nat)(f:Fin n->α)(i:Int)(x:Fin a->α)(h0:0<a:=by decide):Fin n->α:=fun j=>if j.val / b=i.toNat then x ⟨j.val % a,Nat.mod_lt _ h0⟩ else f j
theorem Znm{a b:Nat}{i:Int}(h:0<=i/\i<(a:Int)){α:Type}{mk:α->Value}{f:Fin (a*b)->α}:i.toNat*b+b<=(vecG mk (a*b) f).toArray.size:=by
 rw[List.size_toArray,Z5]
 have h1:i.toNat+1<=a:=by omega
 have:=Nat.mul_le_mul_right b h1
 rw[Nat.add_mul,Nat.one_mul] at this
 exact this
theorem ZpT{a b:Nat}{α:Type}(mk:α->Value)(f:Fin (a*b)->α)(x:Fin b->α){i:Int}(h:0<=i/\i<(a:Int))(h0:0<b:=by decide):
  ((vecG mk (a*b) f).toArray.toList.take (i.toNat*b)++(vecG mk b x).toArray.toList++(vecG mk (a*b) f).toArray.toList.drop (i.toNat*b+b)).toArray=(vecG mk (a*b) (setB b f i x h0)).toArray:=by
 have hle:i.toNat*b+b<=a*b:=by
  have:=Znm h (mk:=mk) (f:=f) (b:=b)
  rwa [List.size_toArray,Z5] at this
 have hl:((vecG mk (a*b) f).toArray.toList.take (i.toNat*b)).length=i.toNat*b:=by
  rw[List.length_take,Array.length_toList,List.size_toArray,Z5]
  exact Nat.min_eq_left (by omega)
 have hx:(vecG mk b x).toArray.toList.length=b:=by rw[Array.length_toList,List.size_toArray,Z5]
 have hd:((vecG mk (a*b) f).toArray.toList.drop (i.toNat*b+b)).length=a*b-(i.toNat*b+b):=by rw[List.length_drop,Array.length_toList,List.size_toArray,Z5]
 congr 1
 apply List.ext_getElem?
 intro j
 by_cases hj:j<a*b
 .rw[Zau mk _ _ hj]
  simp only[setB]
  by_cases h1:j<i.toNat*b
  .have hd:¬ j / b=i.toNat:=by
    intro e
    have:=(Nat.div_lt_iff_lt_mul h0).2 h1
    omega
   rw[List.append_assoc,List.getElem?_append_left (by rw[hl]; exact h1),List.getElem?_take,if_pos h1,if_neg hd]
   exact Zau mk _ _ hj
  by_cases h2:j<i.toNat*b+b
  .have hd:j / b=i.toNat:=by
    apply Nat.div_eq_of_lt_le
    .omega
    rw[Nat.add_mul,Nat.one_mul]; exact h2
   have hm:j % b=j-i.toNat*b:=by
    have:=Nat.div_add_mod j b
    rw[hd,Nat.mul_comm] at this
    omega
   rw[List.getElem?_append_left (by rw[List.length_append,hl,hx]; omega),List.getElem?_append_right (by rw[hl]; omega),hl,if_pos hd]
   exact (Zau mk b x (i:=j-i.toNat*b) (by omega)).trans (congrArg (fun z=>some (mk (x z))) (Fin.ext hm.symm))
  have hd:¬ j / b=i.toNat:=by
   intro e
   have:=Nat.div_add_mod j b
   have h3:=Nat.mod_lt j h0
   rw[e,Nat.mul_comm] at this
   omega
  rw[List.getElem?_append_right (by rw[List.length_append,hl,hx]; omega),if_neg hd,List.length_append,hl,hx,List.getElem?_drop,show i.toNat*b+b+(j-(i.toNat*b+b))=j by omega]
  exact Zau mk _ _ hj
 rw[List.getElem?_eq_none (by rw[List.length_append,List.length_append,hl,hx,hd]; omega),List.getElem?_eq_none (by rw[Z5]; omega)]
theorem ZpU{a b:Nat}{α:Type}[Inhabited α](mk:α->Value)(f:Fin (a*b)->α){i k:Int}(h:0<=i/\i<(a:Int))(hk:0<=k/\k<(b:Int)):(vecG mk (a*b) f).toArray[i.toNat*b+k.toNat]? = some (mk (getF f (i*b+k))):=by
 have h1:i.toNat+1<=a:=by omega
 have h2:=Nat.mul_le_mul_right b h1
 rw[Nat.add_mul,Nat.one_mul] at h2
 have e1:i*(b:Int)+k=((i.toNat*b+k.toNat:Nat):Int):=by
  rw[Int.natCast_add,Int.natCast_mul,Int.toNat_of_nonneg h.1,Int.toNat_of_nonneg hk.1]
 have:=Zkg mk (a*b) f (i:=i*(b:Int)+k) (by rw[e1]; omega)
 rwa [show (i*(b:Int)+k).toNat=i.toNat*b+k.toNat by rw[e1]; rfl] at this
section
variable {P:Program}{N:Nat}{fr:Fr}{S:Asrt}{dst:Option Nat}{ty:TypeId}{pos:String}{af:Array Edge}{g:Option (Nat×Bool)}
theorem Y0.idxArr0{t e:TypeId}{x y:Operand}{len b sz:Nat}{k:IntKind}{i:Int}(ht:P.underlying t=some (.array len e))(hsz:(P.info? e).map (·.size)=some sz)
  (hx:fr.ev x=some (.pointer (some ⟨b,0,none⟩))) (hy:fr.ev y=some (.int k i)) (hi:0<=i/\i<len):Y0 P N ⟨dst,.indexAddr t x y,ty,pos,af,g⟩ fr S (.pointer (some ⟨b,i.toNat*sz,none⟩)):=
 Y0.eq (Y0.idxArr ht hsz hx hy hi) (by rw[Nat.zero_add])
theorem Y0.idxArr1'{t e:TypeId}{x y:Operand}{len b off:Nat}{k:IntKind}{i:Int}(ht:P.underlying t=some (.array len e))(hsz:(P.info? e).map (·.size)=some 1)
  (hx:fr.ev x=some (.pointer (some ⟨b,off,none⟩))) (hy:fr.ev y=some (.int k i)) (hi:0<=i/\i<len):Y0 P N ⟨dst,.indexAddr t x y,ty,pos,af,g⟩ fr S (.pointer (some ⟨b,off+i.toNat,none⟩)):=
 Y0.eq (Y0.idxArr ht hsz hx hy hi) (by rw[Nat.mul_one])
end
def Cq.given{α β:Type}(q:α->Prop)(k:α->Cq β):Cq β:=⟨fun p=>∃ a,q a/\(k a).wp p,fun h ⟨a,h1,h2⟩=>⟨a,h1,(k a).mono h h2⟩,fun _=>none,fun _ _ h=>by cases h⟩
theorem CtrL.absurd{P:Program}{f:FuncId}{args:Array Value}{L0:Lo}{pre:Mem->Prop}{post:Mem->Lo->Value->Prop}(h:∀ G,pre G->False):CtrL P f args L0 pre post:=fun _ G _ hp=>(h G hp).elim
section
variable {P:Program}
set_option maxHeartbeats 1000000 in
theorem sortP{α β:Type}[Inhabited β]{r:Rp α}{enc:β->Value}{mk:α->Value}(hr1:∀ {G cs x},r.rep G cs x->cs=[mk x])(hr2:∀ {G x},r.rep G [mk x] x)(to:α->β)(un:β->α)(htu:∀ b,to (un b)=b)(henc:∀ a,enc (to a)=mk a)(srt:List β->List β)(hperm:∀ l,(srt l).Perm l){f:FuncId}
  (hS:∀ (b off cap:Nat) (zs:List β) (w:World),Go.Sort.Holds enc w b off zs.toArray->b<w.heap.size->zs.length<4611686018427387904->Calls P f #[.slice (some ⟨b,off,none⟩) zs.length cap] w fun e w'=>e = .returned (.tuple #[])/\∃ n os,w'=Go.Sort.grow (Go.Sort.putRow enc (Go.Sort.ahead w n) b off (srt zs).toArray) os)
  (hN:∀ (p:Option Addr) (cap:Nat) (w:World),Calls P f #[.slice p 0 cap] w fun e w'=>e = .returned (.tuple #[])/\w'=w)
  (e:TypeId) (p:Option Addr) (c:Nat) (l:List α) (tk:Option Ow) (hlen:l.length<=1000000000) :
  CtrL P f #[.slice p l.length c] [(5000,tk)] (fun G=>RowR r e G (.slice p l.length c) l tk)
   (fun G L v=>∃ tk',L=[(5000,tk')]/\v = .tuple #[]/\RowR r e G (.slice p l.length c) ((srt (l.map to)).map un) tk'):=by
 intro w G hi hrow
 by_cases hnil:l=[]
 .subst hnil
  have e0:(srt (([]:List α).map to)).map un=[]:=by rw[List.map_nil,(hperm []).eq_nil]; rfl
  refine (hN p c w).mono ?_
  rintro en w' ⟨rfl,rfl⟩
  exact⟨_,G,[(5000,tk)],rfl,hi.st.toExt,tk,rfl,rfl,by rw[e0]; exact hrow⟩
 cases tk with
 | none=>exact absurd hrow.1 hnil
 | some y=>
  obtain⟨cap,cs,rest,h1,h2,h3,h4,h5,h6,h7⟩:=hrow
  obtain⟨b,o,m⟩:=y
  dsimp only at h1 h2 h3
  subst h2 h3
  cases h1
  have hcs:cs=l.map mk:=by
   have:∀ {l:List α}{cs:List Value},RepL r G cs l->cs=l.map mk:=by
    intro l
    induction l with
    | nil=>intro cs h; exact h
    | cons x l ih=>
     intro cs h
     obtain⟨c1,c2,rfl,q1,q2⟩:=h
     rw[hr1 q1,ih q2]; rfl
   exact this h4
  subst hcs
  have hget:Lo.get [(5000,some ⟨b,Obj.cells (l.map mk++rest).toArray e (0,0),0⟩)] 5000=some ⟨b,.cells (l.map mk++rest).toArray e (0,0),0⟩:=by simp[Lo.get]
  obtain⟨hb,hGb⟩:=hi.loc 5000 _ hget
  dsimp only at hb hGb
  have hbs:b<w.heap.size:=(Array.getElem?_eq_some_iff.1 hb).1
  have hH:Go.Sort.Holds enc w b 0 (l.map to).toArray:=by
   intro j hj
   simp only[List.size_toArray,List.length_map] at hj
   have q:(l.map mk++rest)[j]? = some (mk l[j]):=by rw[List.getElem?_append_left (by simpa using hj)]; simp[hj]
   constructor
   .simp only[World.cell?,hb,Nat.zero_add,Option.isSome_none,Bool.false_eq_true,if_false,List.getElem?_toArray]
    rw[q,getElem!_pos _ _ (by simpa using hj)]; simp[henc]
   simp[World.frozen?,hb]
  have hSS:=hS b 0 c (l.map to) w hH hbs (by rw[List.length_map]; omega)
  rw[List.length_map] at hSS
  refine Calls.mono hSS ?_
  rintro en w' ⟨rfl,n,os,hw⟩
  have hsl:(srt (l.map to)).length=l.length:=by rw[(hperm _).length_eq,List.length_map]
  generalize hys:(srt (l.map to)).map un=ys
  have hyl:ys.length=l.length:=by rw[<- hys,List.length_map,hsl]
  have hye:(srt (l.map to)).map enc=ys.map mk:=by
   rw[<- hys,List.map_map]
   apply List.map_congr_left
   intro z _
   show enc z=mk (un z)
   rw[<- henc,htu]
  have hother:∀ k,k<w.heap.size->k≠b->w'.heap[k]? = w.heap[k]?:=by
   intro k hk hne
   rw[hw]
   simp only[Go.Sort.grow,Go.Sort.putRow,Go.Sort.mapBlock,Go.Sort.ahead]
   rw[Array.getElem?_append_left (by simpa using hk),Array.getElem?_modify,if_neg (fun e=>hne e.symm)]
  have hrow:w'.heap[b]? = some (.cells (ys.map mk++rest).toArray e (0,0)):=by
   rw[hw]
   simp only[Go.Sort.grow,Go.Sort.putRow,Go.Sort.mapBlock,Go.Sort.ahead]
   rw[Array.getElem?_append_left (by simpa using hbs),Array.getElem?_modify,if_pos rfl,hb]
   simp only[Option.map_some,Go.Sort.onCells,Option.some.injEq,Obj.cells.injEq,and_true]
   apply Array.ext_getElem?
   intro k
   simp only[Go.Sort.putCells,Array.getElem?_mapIdx,List.getElem?_toArray,Nat.zero_le,true_and,Nat.zero_add,Nat.sub_zero,List.size_toArray]
   by_cases hk:k<l.length
   .rw[List.getElem?_append_left (by simpa using hk),List.getElem?_append_left (by simp; omega),<- hye]
    have h1:k<(srt (l.map to)).length:=by omega
    simp only[List.getElem?_map,List.getElem?_eq_getElem hk,List.getElem?_eq_getElem h1,Option.map_some,if_pos h1]
    rw[getElem!_pos _ _ (by simpa using h1)]; simp
   rw[List.getElem?_append_right (by simp; omega),List.getElem?_append_right (by simp; omega),List.length_map,List.length_map,hyl]
   cases rest[k-l.length]? with
   | none=>rfl
   | some v=>simp only[Option.map_some,if_neg (show ¬ k<(srt (l.map to)).length by omega)]
  have hsz:w.heap.size<=w'.heap.size:=by
   rw[hw]; simp[Go.Sort.grow,Go.Sort.putRow,Go.Sort.mapBlock,Go.Sort.ahead]
  have one:∀ j x,Lo.get [(5000,some (⟨b,Obj.cells (ys.map mk++rest).toArray e (0,0),0⟩:Ow))] j=some x->x=⟨b,Obj.cells (ys.map mk++rest).toArray e (0,0),0⟩/\5000=j:=by
   intro j x hx
   rw[Lo.Zl] at hx
   split at hx
   .rename_i e'; cases hx; exact⟨rfl,e'⟩
   simp[Lo.get] at hx
  have hrep:∀ l:List α,RepL r G (l.map mk) l:=by
   intro l
   induction l with
   | nil=>exact rfl
   | cons x l ih=>exact⟨[mk x],l.map mk,rfl,hr2,ih⟩
  refine⟨_,G,[(5000,some ⟨b,.cells (ys.map mk++rest).toArray e (0,0),0⟩)],rfl,⟨by rw[hw]; rfl,by rw[hw]; rfl,by rw[hw]; rfl,by rw[hw]; simp[Go.Sort.grow,Go.Sort.putRow,Go.Sort.mapBlock,Go.Sort.ahead],hsz,?_,Mem.le_refl _,?_,fun _ _ _ h=>.inl h,?_,?_⟩,_,rfl,rfl,?_⟩
  .intro k hk hn
   exact hother k hk fun e=>by subst e; exact hn 5000 _ hget rfl
  .intro k o v hv
   have hc:=hi.imm k o v hv
   have hne:k≠b:=fun e=>by subst e; rw[hGb o (Nat.zero_le _)] at hv; cases hv
   have hk:k<w.heap.size:=World.block_lt_of_cell? w _ hc
   simp only[World.cell?,hother k hk hne] at hc ⊢
   exact hc
  .intro j x hj
   obtain⟨rfl,rfl⟩:=one j x hj
   exact⟨hrow,.inl ⟨_,hget,rfl⟩,hGb⟩
  .intro j k x y hne h1 h2
   exact absurd ((one j x h1).2.symm.trans (one k y h2).2) hne
  refine⟨c,ys.map mk,rest,by rw[hyl],rfl,rfl,hrep _,?_,h6,by rw[hyl]; exact h7⟩
  rw[List.length_append,List.length_map,hyl,<- h5,List.length_append,List.length_map]
def srtI(l:List Int):List Int:=l.mergeSort fun x y=>decide (x<=y)
def srtS(l:List ByteArray):List ByteArray:=((l.map fun s=>s.data.toList).mergeSort fun x y=>decide (x<=y)).map fun u=>⟨u.toArray⟩
theorem sortI{ρ:Go.Shelf.Ren}(Ly:SlLaysN.n53 P ρ){f:FuncId}(hf:ρ.f 53=f)(e:TypeId)(p:Option Addr)(c:Nat)(l:List Int)(tk:Option Ow)(hlen:l.length<=1000000000):
  CtrL P f #[.slice p l.length c] [(5000,tk)] (fun G=>RowR (Rp.int .i64) e G (.slice p l.length c) l tk) (fun G L v=>∃ tk',L=[(5000,tk')]/\v = .tuple #[]/\RowR (Rp.int .i64) e G (.slice p l.length c) (srtI l) tk'):=by
 subst hf
 have:=sortP (r:=Rp.int .i64) (enc:=Value.int .i64) (mk:=Value.int .i64) (fun h=>h) rfl id id (fun _=>rfl) (fun _=>rfl) (fun l=>l.mergeSort fun x y=>decide (x<=y)) (fun l=>List.mergeSort_perm l _) (fun b off cap zs w h1 h2 h3=>AnyG.slices_Sort_int Ly b off cap zs w h1 h2 h3) (fun p cap w=>AnyG.slices_Sort_int_none Ly p cap w) e p c l tk hlen
 simpa only[List.map_id,srtI] using this
theorem sortS{ρ:Go.Shelf.Ren}(Ly:SlLaysN.n54 P ρ){f:FuncId}(hf:ρ.f 54=f)(e:TypeId)(p:Option Addr)(c:Nat)(l:List ByteArray)(tk:Option Ow)(hlen:l.length<=1000000000):
  CtrL P f #[.slice p l.length c] [(5000,tk)] (fun G=>RowR Rp.str e G (.slice p l.length c) l tk) (fun G L v=>∃ tk',L=[(5000,tk')]/\v = .tuple #[]/\RowR Rp.str e G (.slice p l.length c) (srtS l) tk'):=by
 subst hf
 exact sortP (r:=Rp.str) (enc:=encStr) (mk:=Value.string) (fun h=>h) rfl (fun s=>s.data.toList) (fun u=>⟨u.toArray⟩) (fun _=>rfl) (fun _=>rfl) (fun l=>l.mergeSort fun x y=>decide (x<=y)) (fun l=>List.mergeSort_perm l _) (fun b off cap zs w h1 h2 h3=>AnyG.slices_Sort_string Ly b off cap zs w h1 h2 h3) (fun p cap w=>AnyG.slices_Sort_string_none Ly p cap w) e p c l tk hlen
end
end Go.EL
namespace Go.EL
open Go.IntKind (i8 i16 i32 i64 u8 u16 u32 u64)
open Go Go.RowKit Go.Proofs Go.MapKept
def PowOk{α:Type}(mul:α->α->Cq (α×Int))(q:List α)(W:Nat->Nat->α):Prop:=(∀ i,i<8->q[i]? = some (W i 1))/\∀ i,i<8->∀ k,1<=k->k<64->∃ e,(mul (W i k) (W i 1)).Ret (W i (k+1),e)
def wrow{α:Type}(W:Nat->Nat->α)(i n:Nat):List α:=(List.range n).map fun k=>W i (k+1)
theorem ZpZ{α:Type}(W:Nat->Nat->α)(i n:Nat):(wrow W i n).length=n:=by simp[wrow]
theorem Znn{α:Type}(W:Nat->Nat->α)(i:Nat){n k:Nat}(h:k<n):(wrow W i n)[k]? = some (W i (k+1)):=by simp[wrow,h]
theorem ZoY{α:Type}(W:Nat->Nat->α)(i n:Nat):wrow W i n++[W i (n+1)]=wrow W i (n+1):=by simp[wrow,List.range_succ]
structure PwN {α:Type}(r:Rp α) (e tk tq:TypeId) (W:Nat->Nat->α) (q:List α) (Nf:Nat->Nat) (G:Mem) (T:Lo) (kb qb:Nat):Prop where
 keys:∀ p ∈ T,8000000<=p.1
 zero:T.zero
 known:∃ cs:List Value,T.get 8000101=some ⟨kb,.cells cs.toArray tk (0,0),0⟩/\cs.length=8/\∀ i,i<8->∃ p c,cs[i]? = some (.slice p (Nf i) c)/\RowR r e G (.slice p (Nf i) c) (wrow W i (Nf i)) (T.get (kcode (i:Int)))
 box:∃ cs u,T.get 8000103=some ⟨qb,.cells cs.toArray tq (0,0),0⟩/\ArRd r 8 G cs u q
def PwR{α:Type}(r:Rp α)(e tk tq:TypeId)(W:Nat->Nat->α)(q:List α)(G:Mem)(T:Lo)(kb qb:Nat):Prop:=∃ Nf,PwN r e tk tq W q Nf G T kb qb
theorem ZaD(i:Nat):kcode (i:Int)=8000000+2*i:=by simp[kcode]
theorem Lo.Ziu{T L:Lo}(hT:∀ p ∈ T,8000000<=p.1){i:Nat}(hi:i<8000000):(T++L).get i=L.get i:=by
 induction T with
 | nil=>rfl
 | cons p T ih=>
  have:=hT p (by simp)
  obtain⟨j,x⟩:=p
  rw[List.cons_append,Lo.Zl,if_neg (by simp only at this; omega)]
  exact ih fun q hq=>hT q (by simp[hq])
theorem Lo.ZfZ{T:Lo}(hT:∀ p ∈ T,8000000<=p.1)(i:Nat)(x:Ow)(h:T.get i=some x):8000000<=i:=by
 by_cases hi:i<8000000
 .have:=Lo.Ziu (L:=[]) hT hi
  rw[List.append_nil] at this
  rw[this] at h; simp[Lo.get] at h
 omega
theorem Lo.Zpl{T L:Lo}{i:Nat}{x:Ow}(h:T.get i=some x):(T++L).get i=some x:=by
 induction T with
 | nil=>simp[Lo.get] at h
 | cons p T ih=>
  obtain⟨j,y⟩:=p
  rw[List.cons_append,Lo.Zl]
  rw[Lo.Zl] at h
  split at h
  .rename_i e; rw[if_pos e]; exact h
  rename_i e; rw[if_neg e]; exact ih h
theorem Lo.ZpO{A T T':Lo}(hA:A.all (fun p=>decide (p.1<8000000))=true)(hT:∀ p ∈ T,8000000<=p.1)(hT':∀ p ∈ T',8000000<=p.1):Lo.sub (A++T') (T'++(A++T).without (T.map (·.1))):=by
 intro i x h
 by_cases hi:i<8000000
 .have h1:Lo.get (A++T) i=some x:=Lo.ZlM (fun j y=>Lo.ZfZ hT' j y) hi h
  rw[Lo.Ziu hT' hi]
  unfold Lo.without
  rw[Lo.Ziu (fun p hp=>by
   obtain⟨k,hk,rfl⟩:=List.mem_map.1 hp
   obtain⟨q,hq,rfl⟩:=List.mem_map.1 hk
   exact hT q hq) hi]
  exact h1
 rw[Lo.Ziv hA (by omega)] at h
 exact Lo.Zpl h
section
variable {P:Program}{N:Nat}{Q:Post}{fr:Fr}{ops:Array Oper}{l:List Oper}{dst:Option Nat}{ty:TypeId}{pos:String}{af:Array Edge}{g:Option (Nat×Bool)}{w0:Bs}{G0 G:Mem}
theorem WL.callPw{A T:Lo}{op:Op}{f:FuncId}{args args':Array Value}{pre:Mem->Prop}{R:Mem->Lo->Value->Prop}(hA:A.all (fun p=>decide (p.1<8000000))=true)(hT:∀ p ∈ T,8000000<=p.1)(hR:∀ G L v,R G L v->∀ p ∈ L,8000000<=p.1)
  (hg:guardOK ops fr ⟨dst,op,ty,pos,af,g⟩ true) (hd:dstOK N dst) (h:YC P N ⟨dst,op,ty,pos,af,g⟩ fr (St w0 G0 G (A++T)) f args') (sp:CtrL P f args T pre R) (e:args'=args) (hp:pre G) (hz:w0.L.zero)
  (k:∀ v G' T',Mem.le G G'->R G' T' v->WL P N ops Q l (putFr dst v fr) (St w0 G0 G' (A++T'))):WL P N ops Q (⟨dst,op,ty,pos,af,g⟩::l) fr (St w0 G0 G (A++T)):=by
 refine WL.callT hg hd h sp e hp (fun i x hx=>?_) hz (fun v G' L' h1 h2=>WL.conseq (fun w hs=>hs.weaken (Lo.ZpO hA hT (hR _ _ _ h2))) (k v G' L' h1 h2))
 have:=Lo.ZfZ hT i x hx
 rw[Lo.Ziv hA this]; exact hx
end
section
variable {α:Type}{r:Rp α}{e tk tq:TypeId}{W:Nat->Nat->α}{q:List α}{Nf:Nat->Nat}{G G':Mem}{T:Lo}{kb qb:Nat}
theorem PwN.mono(h:PwN r e tk tq W q Nf G T kb qb)(hle:Mem.le G G'):PwN r e tk tq W q Nf G' T kb qb:=
 ⟨h.keys,h.zero,by
  obtain⟨cs,h1,h2,h3⟩:=h.known
  exact⟨cs,h1,h2,fun i hi=>by obtain⟨p,c,q1,q2⟩:=h3 i hi; exact⟨p,c,q1,q2.mono hle⟩⟩,by
  obtain⟨cs,u,h1,h2⟩:=h.box
  exact⟨cs,u,h1,h2.mono hle⟩⟩
theorem PwR.mono(h:PwR r e tk tq W q G T kb qb)(hle:Mem.le G G'):PwR r e tk tq W q G' T kb qb:=let ⟨Nf,h⟩:=h; ⟨Nf,h.mono hle⟩
theorem PwR.keys(h:PwR r e tk tq W q G T kb qb):∀ p ∈ T,8000000<=p.1:=let ⟨_,h⟩:=h; h.keys
theorem PwR.high(h:PwR r e tk tq W q G T kb qb):∀ i x,T.get i=some x->8000000<=i:=fun i x=>Lo.ZfZ h.keys i x
theorem PwN.low(h:PwN r e tk tq W q Nf G T kb qb){i:Nat}(hi:i<8000000):T.get i=none:=Lo.Zpw (fun i x=>Lo.ZfZ h.keys i x) hi
theorem PwN.put(h:PwN r e tk tq W q Nf G T kb qb){cs:List Value}(hcs:T.get 8000101=some ⟨kb,.cells cs.toArray tk (0,0),0⟩){j n:Nat}{p:Option Addr}{c:Nat}{t':Option Ow}(hj:j<8)(hrow:RowR r e G (.slice p n c) (wrow W j n) t'):
  PwN r e tk tq W q (fun i=>if i=j then n else Nf i) G ((8000101,some ⟨kb,.cells (cs.set j (.slice p n c)).toArray tk (0,0),0⟩)::(kcode (j:Int),t')::T) kb qb:=by
 obtain⟨cs',h1,h2,h3⟩:=h.known
 have hc:cs'=cs:=by rw[h1] at hcs; simpa using hcs
 subst hc
 refine⟨fun p hp=>?_,fun p hp x hx=>?_,⟨_,by rw[Lo.Zl,if_pos rfl],by rw[List.length_set,h2],fun i hi=>?_⟩,?_⟩
 .rcases List.mem_cons.1 hp with rfl|hp
  .show 8000000<=8000101; omega
  rcases List.mem_cons.1 hp with rfl|hp
  .exact ZiA _
  exact h.keys p hp
 .rcases List.mem_cons.1 hp with rfl|hp
  .cases hx; rfl
  rcases List.mem_cons.1 hp with rfl|hp
  .exact hrow.zero hx
  exact h.zero p hp x hx
 .by_cases hij:i=j
  .subst hij
   refine⟨p,c,?_,?_⟩
   .rw[List.getElem?_set,if_pos rfl,if_pos (by omega),if_pos rfl]
   rw[if_pos rfl,Lo.Zl,if_neg (by rw[ZaD]; omega),Lo.Zl,if_pos rfl]
   exact hrow
  obtain⟨p',c',q1,q2⟩:=h3 i hi
  refine⟨p',c',?_,?_⟩
  .rw[List.getElem?_set,if_neg (fun e=>hij e.symm),if_neg hij]; exact q1
  rw[if_neg hij,Lo.Zl,if_neg (by rw[ZaD]; omega),Lo.Zl,if_neg (by rw[ZaD,ZaD]; omega)]
  exact q2
 obtain⟨bs,u,q1,q2⟩:=h.box
 refine⟨bs,u,?_,q2⟩
 rw[Lo.Zl,if_neg (by decide),Lo.Zl,if_neg (by rw[ZaD]; omega)]
 exact q1
theorem PwN.start{cs:List Value}{u:Unit}(h:ArRd r 8 G cs u q):PwN r e tk tq W q (fun _=>0) G [(8000101,some ⟨kb,.cells (List.replicate 8 (Value.slice none 0 0)).toArray tk (0,0),0⟩),(8000103,some ⟨qb,.cells cs.toArray tq (0,0),0⟩)] kb qb:=by
 refine⟨fun p hp=>?_,fun p hp x hx=>?_,⟨_,by rw[Lo.Zl,if_pos rfl],by simp,fun i hi=>⟨none,0,by rw[List.getElem?_replicate,if_pos hi],?_⟩⟩,⟨cs,u,by rw[Lo.Zl,if_neg (by decide),Lo.Zl,if_pos rfl],h⟩⟩
 .simp only[List.mem_cons,List.not_mem_nil,or_false] at hp
  rcases hp with rfl|rfl
  .show 8000000<=8000101; omega
  show 8000000<=8000103; omega
 .simp only[List.mem_cons,List.not_mem_nil,or_false] at hp
  rcases hp with rfl|rfl <;> cases hx <;> rfl
 rw[Lo.Zl,if_neg (by rw[ZaD]; omega),Lo.Zl,if_neg (by rw[ZaD]; omega)]
 exact RowR.nil
end
end Go.EL

namespace Go.Proofs.YtnbpjambcagjcaaGreat
open Go.IntKind (i8 i16 i32 i64 u8 u16 u32 u64)
open Go.Proofs.Tryz
open Go Go.EL Go.RowKit Go.Proofs
theorem mix:prog.follows .mixedOrders=true:=by kernel_rfl
def FaP(t i k:Nat):Prop:=∀ ⦃N:Nat⦄ ⦃dst:Option Nat⦄ ⦃ty:TypeId⦄ ⦃pos:String⦄ ⦃af:Array Edge⦄ ⦃g:Option (Nat×Bool)⦄ ⦃fr:Fr⦄ ⦃S:Asrt⦄ ⦃x:Operand⦄ ⦃b off:Nat⦄,fr.ev x=some (.pointer (some ⟨b,off,none⟩))->Y0 prog N ⟨dst,.fieldAddr t x i,ty,pos,af,g⟩ fr S (.pointer (some ⟨b,off+k,none⟩))
theorem faP{t i k:Nat}{fs:Array Field}{fd:Field}(hs:prog.underlying t=some (.struct fs))(hf:fs[i]? = some fd)(hk:fd.offset=k)(hp:∀ b off w,(fieldPlace ⟨b,off,none⟩ fd).run prog w = .ok ⟨b,off+fd.offset,none⟩ w):FaP t i k:=by
 intro N dst ty pos af g fr S x b off hx
 subst hk
 exact Y0.fieldAddr hs hf (hp b off) hx
abbrev En:=Enters prog
abbrev eo:=@enters_of
theorem E7:En 7:=eo func7 (by kernel_rfl) rfl
theorem E8:En 8:=eo func8 (by kernel_rfl) rfl
theorem E9:En 9:=eo func9 (by kernel_rfl) rfl
theorem E10:En 10:=eo func10 (by kernel_rfl) rfl
theorem E11:En 11:=eo func11 (by kernel_rfl) rfl
theorem E16:En 16:=eo func16 (by kernel_rfl) rfl
theorem E17:En 17:=eo func17 (by kernel_rfl) rfl
theorem E18:En 18:=eo func18 (by kernel_rfl) rfl
theorem E19:En 19:=eo func19 (by kernel_rfl) rfl
theorem E20:En 20:=eo func20 (by kernel_rfl) rfl
theorem E21:En 21:=eo func21 (by kernel_rfl) rfl
theorem E22:En 22:=eo func22 (by kernel_rfl) rfl
theorem E23:En 23:=eo func23 (by kernel_rfl) rfl
theorem E24:En 24:=eo func24 (by kernel_rfl) rfl
theorem E25:En 25:=eo func25 (by kernel_rfl) rfl
theorem E26:En 26:=eo func26 (by kernel_rfl) rfl
theorem E27:En 27:=eo func27 (by kernel_rfl) rfl
theorem E28:En 28:=eo func28 (by kernel_rfl) rfl
theorem E29:En 29:=eo func29 (by kernel_rfl) rfl
theorem E30:En 30:=eo func30 (by kernel_rfl) rfl
theorem E31:En 31:=eo func31 (by kernel_rfl) rfl
theorem E32:En 32:=eo func32 (by kernel_rfl) rfl
theorem E33:En 33:=eo func33 (by kernel_rfl) rfl
theorem E36:En 36:=eo func36 (by kernel_rfl) rfl
theorem E38:En 38:=eo func38 (by kernel_rfl) rfl
theorem E39:En 39:=eo func39 (by kernel_rfl) rfl
theorem E40:En 40:=eo func40 (by kernel_rfl) rfl
theorem E41:En 41:=eo func41 (by kernel_rfl) rfl
theorem E42:En 42:=eo func42 (by kernel_rfl) rfl
theorem E43:En 43:=eo func43 (by kernel_rfl) rfl
theorem E44:En 44:=eo func44 (by kernel_rfl) rfl
theorem E45:En 45:=eo func45 (by kernel_rfl) rfl
theorem E46:En 46:=eo func46 (by kernel_rfl) rfl
theorem E47:En 47:=eo func47 (by kernel_rfl) rfl
theorem E48:En 48:=eo func48 (by kernel_rfl) rfl
theorem E49:En 49:=eo func49 (by kernel_rfl) rfl
theorem E50:En 50:=eo func50 (by kernel_rfl) rfl
theorem E51:En 51:=eo func51 (by kernel_rfl) rfl
theorem E52:En 52:=eo func52 (by kernel_rfl) rfl
theorem E53:En 53:=eo func53 (by kernel_rfl) rfl
theorem E54:En 54:=eo func54 (by kernel_rfl) rfl
theorem E55:En 55:=eo func55 (by kernel_rfl) rfl
theorem E56:En 56:=eo func56 (by kernel_rfl) rfl
theorem E57:En 57:=eo func57 (by kernel_rfl) rfl
theorem E58:En 58:=eo func58 (by kernel_rfl) rfl
theorem E59:En 59:=eo func59 (by kernel_rfl) rfl
theorem E60:En 60:=eo func60 (by kernel_rfl) rfl
theorem E61:En 61:=eo func61 (by kernel_rfl) rfl
theorem E62:En 62:=eo func62 (by kernel_rfl) rfl
theorem E63:En 63:=eo func63 (by kernel_rfl) rfl
theorem E64:En 64:=eo func64 (by kernel_rfl) rfl
theorem E65:En 65:=eo func65 (by kernel_rfl) rfl
theorem E66:En 66:=eo func66 (by kernel_rfl) rfl
theorem E67:En 67:=eo func67 (by kernel_rfl) rfl
theorem E69:En 69:=eo func69 (by kernel_rfl) rfl
theorem E72:En 72:=eo func72 (by kernel_rfl) rfl
theorem E73:En 73:=eo func73 (by kernel_rfl) rfl
theorem E74:En 74:=eo func74 (by kernel_rfl) rfl
theorem E75:En 75:=eo func75 (by kernel_rfl) rfl
theorem E76:En 76:=eo func76 (by kernel_rfl) rfl
theorem E77:En 77:=eo func77 (by kernel_rfl) rfl
theorem E78:En 78:=eo func78 (by kernel_rfl) rfl
theorem E79:En 79:=eo func79 (by kernel_rfl) rfl
theorem E80:En 80:=eo func80 (by kernel_rfl) rfl
theorem E81:En 81:=eo func81 (by kernel_rfl) rfl
theorem E82:En 82:=eo func82 (by kernel_rfl) rfl
theorem E83:En 83:=eo func83 (by kernel_rfl) rfl
theorem E84:En 84:=eo func84 (by kernel_rfl) rfl
theorem E85:En 85:=eo func85 (by kernel_rfl) rfl
theorem E86:En 86:=eo func86 (by kernel_rfl) rfl
theorem E87:En 87:=eo func87 (by kernel_rfl) rfl
theorem E88:En 88:=eo func88 (by kernel_rfl) rfl
theorem E89:En 89:=eo func89 (by kernel_rfl) rfl
theorem E90:En 90:=eo func90 (by kernel_rfl) rfl
theorem E91:En 91:=eo func91 (by kernel_rfl) rfl
theorem E92:En 92:=eo func92 (by kernel_rfl) rfl
theorem E93:En 93:=eo func93 (by kernel_rfl) rfl
theorem E94:En 94:=eo func94 (by kernel_rfl) rfl
theorem E95:En 95:=eo func95 (by kernel_rfl) rfl
theorem E96:En 96:=eo func96 (by kernel_rfl) rfl
theorem E97:En 97:=eo func97 (by kernel_rfl) rfl
theorem E98:En 98:=eo func98 (by kernel_rfl) rfl
theorem E99:En 99:=eo func99 (by kernel_rfl) rfl
theorem E100:En 100:=eo func100 (by kernel_rfl) rfl
theorem E101:En 101:=eo func101 (by kernel_rfl) rfl
theorem E102:En 102:=eo func102 (by kernel_rfl) rfl
theorem E103:En 103:=eo func103 (by kernel_rfl) rfl
theorem E104:En 104:=eo func104 (by kernel_rfl) rfl
theorem E105:En 105:=eo func105 (by kernel_rfl) rfl
theorem E106:En 106:=eo func106 (by kernel_rfl) rfl
theorem E108:En 108:=eo func108 (by kernel_rfl) rfl
theorem E109:En 109:=eo func109 (by kernel_rfl) rfl
theorem E110:En 110:=eo func110 (by kernel_rfl) rfl
theorem E111:En 111:=eo func111 (by kernel_rfl) rfl
theorem E114:En 114:=eo func114 (by kernel_rfl) rfl
theorem E115:En 115:=eo func115 (by kernel_rfl) rfl
theorem E116:En 116:=eo func116 (by kernel_rfl) rfl
theorem E117:En 117:=eo func117 (by kernel_rfl) rfl
theorem E118:En 118:=eo func118 (by kernel_rfl) rfl
theorem E119:En 119:=eo func119 (by kernel_rfl) rfl
theorem E120:En 120:=eo func120 (by kernel_rfl) rfl
theorem E121:En 121:=eo func121 (by kernel_rfl) rfl
theorem E122:En 122:=eo func122 (by kernel_rfl) rfl
theorem E123:En 123:=eo func123 (by kernel_rfl) rfl
theorem E124:En 124:=eo func124 (by kernel_rfl) rfl
theorem E125:En 125:=eo func125 (by kernel_rfl) rfl
theorem E126:En 126:=eo func126 (by kernel_rfl) rfl
theorem E127:En 127:=eo func127 (by kernel_rfl) rfl
theorem E128:En 128:=eo func128 (by kernel_rfl) rfl
theorem E129:En 129:=eo func129 (by kernel_rfl) rfl
theorem E130:En 130:=eo func130 (by kernel_rfl) rfl
theorem E131:En 131:=eo func131 (by kernel_rfl) rfl
theorem E132:En 132:=eo func132 (by kernel_rfl) rfl
theorem E133:En 133:=eo func133 (by kernel_rfl) rfl
theorem E134:En 134:=eo func134 (by kernel_rfl) rfl
theorem E135:En 135:=eo func135 (by kernel_rfl) rfl
theorem E136:En 136:=eo func136 (by kernel_rfl) rfl
theorem E137:En 137:=eo func137 (by kernel_rfl) rfl
theorem E138:En 138:=eo func138 (by kernel_rfl) rfl
theorem E139:En 139:=eo func139 (by kernel_rfl) rfl
theorem E140:En 140:=eo func140 (by kernel_rfl) rfl
theorem E141:En 141:=eo func141 (by kernel_rfl) rfl
theorem E142:En 142:=eo func142 (by kernel_rfl) rfl
theorem E144:En 144:=eo func144 (by kernel_rfl) rfl
theorem E145:En 145:=eo func145 (by kernel_rfl) rfl
theorem E146:En 146:=eo func146 (by kernel_rfl) rfl
theorem E147:En 147:=eo func147 (by kernel_rfl) rfl
theorem E148:En 148:=eo func148 (by kernel_rfl) rfl
theorem E159:En 159:=eo func159 (by kernel_rfl) rfl
theorem E160:En 160:=eo func160 (by kernel_rfl) rfl
theorem E161:En 161:=eo func161 (by kernel_rfl) rfl
theorem E162:En 162:=eo func162 (by kernel_rfl) rfl
theorem E163:En 163:=eo func163 (by kernel_rfl) rfl
theorem E164:En 164:=eo func164 (by kernel_rfl) rfl
theorem E165:En 165:=eo func165 (by kernel_rfl) rfl
theorem E166:En 166:=eo func166 (by kernel_rfl) rfl
theorem E167:En 167:=eo func167 (by kernel_rfl) rfl
theorem E169:En 169:=eo func169 (by kernel_rfl) rfl
theorem E170:En 170:=eo func170 (by kernel_rfl) rfl
theorem E171:En 171:=eo func171 (by kernel_rfl) rfl
theorem E172:En 172:=eo func172 (by kernel_rfl) rfl
theorem E173:En 173:=eo func173 (by kernel_rfl) rfl
theorem E175:En 175:=eo func175 (by kernel_rfl) rfl
theorem E176:En 176:=eo func176 (by kernel_rfl) rfl
theorem E177:En 177:=eo func177 (by kernel_rfl) rfl
theorem E178:En 178:=eo func178 (by kernel_rfl) rfl
theorem E179:En 179:=eo func179 (by kernel_rfl) rfl
theorem E180:En 180:=eo func180 (by kernel_rfl) rfl
theorem E181:En 181:=eo func181 (by kernel_rfl) rfl
theorem E182:En 182:=eo func182 (by kernel_rfl) rfl
theorem E194:En 194:=eo func194 (by kernel_rfl) rfl
theorem E201:En 201:=eo func201 (by kernel_rfl) rfl
theorem E202:En 202:=eo func202 (by kernel_rfl) rfl
theorem E203:En 203:=eo func203 (by kernel_rfl) rfl
theorem E204:En 204:=eo func204 (by kernel_rfl) rfl
theorem E205:En 205:=eo func205 (by kernel_rfl) rfl
theorem E224:En 224:=eo func224 (by kernel_rfl) rfl
theorem E225:En 225:=eo func225 (by kernel_rfl) rfl
theorem E226:En 226:=eo func226 (by kernel_rfl) rfl
theorem E227:En 227:=eo func227 (by kernel_rfl) rfl
theorem E228:En 228:=eo func228 (by kernel_rfl) rfl
theorem E229:En 229:=eo func229 (by kernel_rfl) rfl
theorem E230:En 230:=eo func230 (by kernel_rfl) rfl
theorem E235:En 235:=eo func235 (by kernel_rfl) rfl
theorem E236:En 236:=eo func236 (by kernel_rfl) rfl
theorem E240:En 240:=eo func240 (by kernel_rfl) rfl
theorem E241:En 241:=eo func241 (by kernel_rfl) rfl
theorem ag24:AggT prog 24 3:=⟨by kernel_rfl,by kernel_rfl⟩
theorem ag31:AggT prog 31 4:=⟨by kernel_rfl,by kernel_rfl⟩
theorem ag57:AggT prog 57 2:=⟨by kernel_rfl,by kernel_rfl⟩
theorem ag61:AggT prog 61 2:=⟨by kernel_rfl,by kernel_rfl⟩
theorem ag79:AggT prog 79 2:=⟨by kernel_rfl,by kernel_rfl⟩
theorem ag81:AggT prog 81 7:=⟨by kernel_rfl,by kernel_rfl⟩
theorem ag83:AggT prog 83 2:=⟨by kernel_rfl,by kernel_rfl⟩
theorem ag99:AggT prog 99 2:=⟨by kernel_rfl,by kernel_rfl⟩
theorem ag101:AggT prog 101 4:=⟨by kernel_rfl,by kernel_rfl⟩
theorem ag102:AggT prog 102 32:=⟨by kernel_rfl,by kernel_rfl⟩
theorem ag109:AggT prog 109 8:=⟨by kernel_rfl,by kernel_rfl⟩
theorem ag110:AggT prog 110 8:=⟨by kernel_rfl,by kernel_rfl⟩
theorem ag116:AggT prog 116 7:=⟨by kernel_rfl,by kernel_rfl⟩
theorem ag120:AggT prog 120 1:=⟨by kernel_rfl,by kernel_rfl⟩
theorem ag122:AggT prog 122 5:=⟨by kernel_rfl,by kernel_rfl⟩
theorem ag124:AggT prog 124 6:=⟨by kernel_rfl,by kernel_rfl⟩
theorem ag144:AggT prog 144 8:=⟨by kernel_rfl,by kernel_rfl⟩
theorem ag152:AggT prog 152 12:=⟨by kernel_rfl,by kernel_rfl⟩
theorem ag174:AggT prog 174 64:=⟨by kernel_rfl,by kernel_rfl⟩
theorem eg61:prog.eqGuardType prog.depth 61=false:=by kernel_rfl
theorem eg110:prog.eqGuardType prog.depth 110=false:=by kernel_rfl
theorem el3:ElT prog 3 (.int .i64 0) 1 8:=by unfold ElT; kernel_rfl
theorem el9:ElT prog 9 (.string ByteArray.empty) 1 16:=by unfold ElT; kernel_rfl
theorem el44:ElT prog 44 (.slice none 0 0) 1 24:=by unfold ElT; kernel_rfl
theorem el57:ElT prog 57 (.agg ([.int .i64 0,.slice none 0 0]).toArray) 2 32:=by unfold ElT; kernel_rfl
theorem el61:ElT prog 61 (.agg ([.int .i64 0,.string ByteArray.empty]).toArray) 2 24:=by unfold ElT; kernel_rfl
theorem el81:ElT prog 81 (.agg ([.int .i64 0,.slice none 0 0,.bool false,.slice none 0 0,.slice none 0 0,.slice none 0 0,.int .i64 0]).toArray) 7 120:=by unfold ElT; kernel_rfl
theorem el116:ElT prog 116 (.agg ([.int .i64 0,.string ByteArray.empty,.int .i64 0,.int .i64 0,.int .i64 0,.slice none 0 0,.bool false]).toArray) 7 80:=by unfold ElT; kernel_rfl
theorem el152:ElT prog 152 (.agg (([.bool false,.slice none 0 0,.bool false,.slice none 0 0]:List Value)++(vecG (Value.int .i64) 8 (fun _=>0))).toArray) 12 128:=by unfold ElT; kernel_rfl
theorem el225:ElT prog 225 (.int .u32 0) 1 4:=by unfold ElT; kernel_rfl
theorem Y0.ZqM:FaP 24 0 0:=faP underlying24 rfl rfl (fun _ _ _=>by kernel_rfl)
theorem Y0.ZqN:FaP 24 1 1:=faP underlying24 rfl rfl (fun _ _ _=>by kernel_rfl)
theorem Y0.ZqO:FaP 24 2 2:=faP underlying24 rfl rfl (fun _ _ _=>by kernel_rfl)
theorem Y0.ZqP:FaP 31 0 0:=faP underlying31 rfl rfl (fun _ _ _=>by kernel_rfl)
theorem Y0.ZqQ:FaP 31 1 1:=faP underlying31 rfl rfl (fun _ _ _=>by kernel_rfl)
theorem Y0.ZqR:FaP 31 2 2:=faP underlying31 rfl rfl (fun _ _ _=>by kernel_rfl)
theorem Y0.ZqS:FaP 31 3 3:=faP underlying31 rfl rfl (fun _ _ _=>by kernel_rfl)
theorem Y0.ZqT:FaP 57 0 0:=faP underlying57 rfl rfl (fun _ _ _=>by kernel_rfl)
theorem Y0.ZqU:FaP 57 1 1:=faP underlying57 rfl rfl (fun _ _ _=>by kernel_rfl)
theorem Y0.Zje:FaP 79 0 0:=faP underlying79 rfl rfl (fun _ _ _=>by kernel_rfl)
theorem Y0.ZlJ:FaP 79 1 1:=faP underlying79 rfl rfl (fun _ _ _=>by kernel_rfl)
theorem Y0.ZqV:FaP 81 0 0:=faP underlying81 rfl rfl (fun _ _ _=>by kernel_rfl)
theorem Y0.ZlK:FaP 81 1 1:=faP underlying81 rfl rfl (fun _ _ _=>by kernel_rfl)
theorem Y0.ZqW:FaP 81 2 3:=faP underlying81 rfl rfl (fun _ _ _=>by kernel_rfl)
theorem Y0.Zoc:FaP 83 0 0:=faP underlying83 rfl rfl (fun _ _ _=>by kernel_rfl)
theorem Y0.Zod:FaP 83 1 1:=faP underlying83 rfl rfl (fun _ _ _=>by kernel_rfl)
theorem Y0.ZqX:FaP 99 0 0:=faP underlying99 rfl rfl (fun _ _ _=>by kernel_rfl)
theorem Y0.ZqY:FaP 99 1 1:=faP underlying99 rfl rfl (fun _ _ _=>by kernel_rfl)
theorem Y0.Zqc:FaP 101 0 0:=faP underlying101 rfl rfl (fun _ _ _=>by kernel_rfl)
theorem Y0.Zqd:FaP 101 1 2:=faP underlying101 rfl rfl (fun _ _ _=>by kernel_rfl)
theorem Y0.Zqe:FaP 116 0 0:=faP underlying116 rfl rfl (fun _ _ _=>by kernel_rfl)
theorem Y0.Zqf:FaP 116 1 1:=faP underlying116 rfl rfl (fun _ _ _=>by kernel_rfl)
theorem Y0.Zqg:FaP 116 2 2:=faP underlying116 rfl rfl (fun _ _ _=>by kernel_rfl)
theorem Y0.Zqh:FaP 116 3 3:=faP underlying116 rfl rfl (fun _ _ _=>by kernel_rfl)
theorem Y0.Zqi:FaP 116 4 4:=faP underlying116 rfl rfl (fun _ _ _=>by kernel_rfl)
theorem Y0.ZhE:FaP 116 5 5:=faP underlying116 rfl rfl (fun _ _ _=>by kernel_rfl)
theorem Y0.ZhF:FaP 116 6 6:=faP underlying116 rfl rfl (fun _ _ _=>by kernel_rfl)
theorem Y0.ZjZ:FaP 120 0 0:=faP underlying120 rfl rfl (fun _ _ _=>by kernel_rfl)
theorem Y0.Zm5:FaP 122 0 0:=faP underlying122 rfl rfl (fun _ _ _=>by kernel_rfl)
theorem Y0.Zj0:FaP 122 1 1:=faP underlying122 rfl rfl (fun _ _ _=>by kernel_rfl)
theorem Y0.Zm6:FaP 122 2 2:=faP underlying122 rfl rfl (fun _ _ _=>by kernel_rfl)
theorem Y0.Zj1:FaP 122 3 3:=faP underlying122 rfl rfl (fun _ _ _=>by kernel_rfl)
theorem Y0.Zqj:FaP 122 4 4:=faP underlying122 rfl rfl (fun _ _ _=>by kernel_rfl)
theorem Y0.Zqk:FaP 124 0 0:=faP underlying124 rfl rfl (fun _ _ _=>by kernel_rfl)
theorem Y0.Zql:FaP 124 1 4:=faP underlying124 rfl rfl (fun _ _ _=>by kernel_rfl)
theorem Y0.Zqm:FaP 124 2 5:=faP underlying124 rfl rfl (fun _ _ _=>by kernel_rfl)
theorem Y0.Zqn:FaP 152 0 0:=faP underlying152 rfl rfl (fun _ _ _=>by kernel_rfl)
theorem Y0.Zqo:FaP 152 1 4:=faP underlying152 rfl rfl (fun _ _ _=>by kernel_rfl)
def ky3:Ky prog 3 Int:=Ky.int underlying3
def ky9:Ky prog 9 ByteArray:=Ky.str underlying9
theorem laid110:laidOutB prog=true:=by kernel_rfl
def ky110:Ky prog 110 (Fin 8->Int):=Ky.arr underlying110 underlying3 (by kernel_rfl) (by kernel_rfl) (by kernel_rfl) laid110 (of_decide_eq_true (by kernel_rfl)) (by kernel_rfl)
theorem sc3:ScalT prog 3:=by unfold ScalT; kernel_rfl
theorem sc4:ScalT prog 4:=by unfold ScalT; kernel_rfl
theorem sc5:ScalT prog 5:=by unfold ScalT; kernel_rfl
theorem sc9:ScalT prog 9:=by unfold ScalT; kernel_rfl
theorem sc22:ScalT prog 22:=by unfold ScalT; kernel_rfl
theorem sc28:ScalT prog 28:=by unfold ScalT; kernel_rfl
theorem sc29:ScalT prog 29:=by unfold ScalT; kernel_rfl
theorem sc37:ScalT prog 37:=by unfold ScalT; kernel_rfl
theorem sc44:ScalT prog 44:=by unfold ScalT; kernel_rfl
theorem sc49:ScalT prog 49:=by unfold ScalT; kernel_rfl
theorem sc67:ScalT prog 67:=by unfold ScalT; kernel_rfl
theorem sc97:ScalT prog 97:=by unfold ScalT; kernel_rfl
theorem sc104:ScalT prog 104:=by unfold ScalT; kernel_rfl
theorem sc118:ScalT prog 118:=by unfold ScalT; kernel_rfl
theorem sc134:ScalT prog 134:=by unfold ScalT; kernel_rfl
theorem sc210:ScalT prog 210:=by unfold ScalT; kernel_rfl
theorem sc225:ScalT prog 225:=by unfold ScalT; kernel_rfl
theorem sh61:prog.stoodInHeld 61=false:=by kernel_rfl
theorem sz3:(prog.info? 3).map (·.size)=some 1:=by kernel_rfl
theorem sz4:(prog.info? 4).map (·.size)=some 1:=by kernel_rfl
theorem sz9:(prog.info? 9).map (·.size)=some 1:=by kernel_rfl
theorem sz28:(prog.info? 28).map (·.size)=some 1:=by kernel_rfl
theorem sz29:(prog.info? 29).map (·.size)=some 1:=by kernel_rfl
theorem sz31:(prog.info? 31).map (·.size)=some 4:=by kernel_rfl
theorem sz44:(prog.info? 44).map (·.size)=some 1:=by kernel_rfl
theorem sz49:(prog.info? 49).map (·.size)=some 1:=by kernel_rfl
theorem sz57:(prog.info? 57).map (·.size)=some 2:=by kernel_rfl
theorem sz61:(prog.info? 61).map (·.size)=some 2:=by kernel_rfl
theorem sz79:(prog.info? 79).map (·.size)=some 2:=by kernel_rfl
theorem sz81:(prog.info? 81).map (·.size)=some 7:=by kernel_rfl
theorem sz83:(prog.info? 83).map (·.size)=some 2:=by kernel_rfl
theorem sz99:(prog.info? 99).map (·.size)=some 2:=by kernel_rfl
theorem sz101:(prog.info? 101).map (·.size)=some 4:=by kernel_rfl
theorem sz102:(prog.info? 102).map (·.size)=some 32:=by kernel_rfl
theorem sz104:(prog.info? 104).map (·.size)=some 1:=by kernel_rfl
theorem sz109:(prog.info? 109).map (·.size)=some 8:=by kernel_rfl
theorem sz110:(prog.info? 110).map (·.size)=some 8:=by kernel_rfl
theorem sz116:(prog.info? 116).map (·.size)=some 7:=by kernel_rfl
theorem sz122:(prog.info? 122).map (·.size)=some 5:=by kernel_rfl
theorem sz124:(prog.info? 124).map (·.size)=some 6:=by kernel_rfl
theorem sz134:(prog.info? 134).map (·.size)=some 1:=by kernel_rfl
theorem sz152:(prog.info? 152).map (·.size)=some 12:=by kernel_rfl
theorem sz203:(prog.info? 203).map (·.size)=some 5:=by kernel_rfl
theorem sz210:(prog.info? 210).map (·.size)=some 1:=by kernel_rfl
theorem sz225:(prog.info? 225).map (·.size)=some 1:=by kernel_rfl
theorem sz254:(prog.info? 254).map (·.size)=some 8:=by kernel_rfl
theorem z3:(prog.info? 3).map (·.zero)=some (some (.int .i64 0)):=by kernel_rfl
theorem z31:(prog.info? 31).map (·.zero)=some (some (.agg ([.slice none 0 0,.slice none 0 0,.slice none 0 0,.int .i64 0]).toArray)):=by kernel_rfl
theorem z57:(prog.info? 57).map (·.zero)=some (some (.agg ([.int .i64 0,.slice none 0 0]).toArray)):=by kernel_rfl
theorem z79:(prog.info? 79).map (·.zero)=some (some (.agg ([.slice none 0 0,.bool false]).toArray)):=by kernel_rfl
theorem z81:(prog.info? 81).map (·.zero)=some (some (.agg ([.int .i64 0,.slice none 0 0,.bool false,.slice none 0 0,.slice none 0 0,.slice none 0 0,.int .i64 0]).toArray)):=by kernel_rfl
theorem z83:(prog.info? 83).map (·.zero)=some (some (.agg ([.slice none 0 0,.slice none 0 0]).toArray)):=by kernel_rfl
theorem z99:(prog.info? 99).map (·.zero)=some (some (.agg ([.bool false,.slice none 0 0]).toArray)):=by kernel_rfl
theorem z101:(prog.info? 101).map (·.zero)=some (some (.agg ([.bool false,.slice none 0 0,.bool false,.slice none 0 0]).toArray)):=by kernel_rfl
theorem z102:(prog.info? 102).map (·.zero)=some (some (.agg (([.bool false,.slice none 0 0,.bool false,.slice none 0 0,.bool false,.slice none 0 0,.bool false,.slice none 0 0,.bool false,.slice none 0 0,.bool false,.slice none 0 0,.bool false,.slice none 0 0,.bool false,.slice none 0 0,.bool false,.slice none 0 0,.bool false,.slice none 0 0,.bool false,.slice none 0 0,.bool false,.slice none 0 0,.bool false,.slice none 0 0,.bool false,.slice none 0 0,.bool false,.slice none 0 0,.bool false,.slice none 0 0]:List Value)).toArray)):=by kernel_rfl
theorem z109:(prog.info? 109).map (·.zero)=some (some (.agg (vecG (Value.int .i64) 8 (fun _=>0)).toArray)):=by kernel_rfl
theorem z110:(prog.info? 110).map (·.zero)=some (some (.agg (vecG (Value.int .i64) 8 (fun _=>0)).toArray)):=by kernel_rfl
theorem z116:(prog.info? 116).map (·.zero)=some (some (.agg ([.int .i64 0,.string ByteArray.empty,.int .i64 0,.int .i64 0,.int .i64 0,.slice none 0 0,.bool false]).toArray)):=by kernel_rfl
theorem z124:(prog.info? 124).map (·.zero)=some (some (.agg ([.slice none 0 0,.slice none 0 0,.slice none 0 0,.int .i64 0,.int .i64 0,.int .i64 0]).toArray)):=by kernel_rfl
theorem z144:(prog.info? 144).map (·.zero)=some (some (.agg (([.slice none 0 0,.slice none 0 0,.slice none 0 0,.slice none 0 0,.slice none 0 0,.slice none 0 0,.slice none 0 0,.slice none 0 0]:List Value)).toArray)):=by kernel_rfl
theorem z152:(prog.info? 152).map (·.zero)=some (some (.agg (([.bool false,.slice none 0 0,.bool false,.slice none 0 0]:List Value)++(vecG (Value.int .i64) 8 (fun _=>0))).toArray)):=by kernel_rfl
theorem z174:(prog.info? 174).map (·.zero)=some (some (.agg (vecG (Value.int .i64) 64 (fun _=>0)).toArray)):=by kernel_rfl
theorem z211:(prog.info? 211).map (·.zero)=some (some (.agg (([.slice none 0 0,.slice none 0 0,.slice none 0 0,.slice none 0 0,.slice none 0 0,.slice none 0 0,.slice none 0 0,.slice none 0 0]:List Value)).toArray)):=by kernel_rfl
theorem z254:(prog.info? 254).map (·.zero)=some (some (.agg (vecG Value.bool 8 (fun _=>false)).toArray)):=by kernel_rfl
theorem zv4(w:World):(zeroValue 4).run prog w = .ok (.bool false) w:=by kernel_rfl
theorem zv79(w:World):(zeroValue 79).run prog w = .ok (.agg ([.slice none 0 0,.bool false]).toArray) w:=by kernel_rfl
theorem zv101(w:World):(zeroValue 101).run prog w = .ok (.agg ([.bool false,.slice none 0 0,.bool false,.slice none 0 0]).toArray) w:=by kernel_rfl
end Go.Proofs.YtnbpjambcagjcaaGreat

namespace Go.EL
open Go.IntKind (i8 i16 i32 i64 u8 u16 u32 u64)
open Go Go.EL Go.RowKit Go.Proofs
structure ZD where
 t:(List (Fin 5->Int))
abbrev Zhp:Rp ZD:=Rp.via (Rp.sl (Rp.vec .i8 5)) (fun x=>x.t)
structure Zv where
 kind:Int
 a:Int
 b:Int
 n:Int
 p:ZD
abbrev ZL:Rp Zv:=Rp.via (Rp.pair (Rp.int .u8) (Rp.pair (Rp.int .u8) (Rp.pair (Rp.int .u8) (Rp.pair (Rp.int .u8) Zhp)))) (fun x=>(x.kind,x.a,x.b,x.n,x.p))
theorem ZgV{G:Mem}{K:Nat->Value->Prop}{o:Nat}{x:Zv}(h:AtK ZL G K o x):∃ zptp zptc,(∀ (j:Nat) (u:Value),([.int .u8 x.kind,.int .u8 x.a,.int .u8 x.b,.int .u8 x.n,.slice zptp x.p.t.length zptc]).toArray[j]? = some u->K (o+j) u)/\SlR (Rp.vec .i8 5) G (.slice zptp x.p.t.length zptc) x.p.t:=by
 obtain⟨c,h,hc⟩:=h
 obtain⟨c1,d1,e1,h1,k1⟩:=h
 subst e1
 replace h1:_=([.int .u8 _]:List Value):=h1
 subst h1
 obtain⟨c3,d3,e3,h3,k3⟩:=k1
 subst e3
 replace h3:_=([.int .u8 _]:List Value):=h3
 subst h3
 obtain⟨c5,d5,e5,h5,k5⟩:=k3
 subst e5
 replace h5:_=([.int .u8 _]:List Value):=h5
 subst h5
 obtain⟨c7,d7,e7,h7,k7⟩:=k5
 subst e7
 replace h7:_=([.int .u8 _]:List Value):=h7
 subst h7
 obtain⟨v9,e9,s9⟩:=k7
 subst e9
 obtain⟨p9,q9,f9⟩:=SlR.form s9
 subst f9
 exact⟨p9,q9,fun j u hu=>hc j u (by simpa using hu),s9⟩
structure ZG where
 base:(List Zv)
 a:(List Zv)
 b:(List Zv)
abbrev Zfy:Rp ZG:=Rp.via (Rp.pair (Rp.sl ZL) (Rp.pair (Rp.sl ZL) (Rp.sl ZL))) (fun x=>(x.base,x.a,x.b))
theorem ZjU{G:Mem}{K:Nat->Value->Prop}{o:Nat}{x:ZG}(h:AtK Zfy G K o x):∃ zbasep zbasec zap zac zbp zbc,(∀ (j:Nat) (u:Value),([.slice zbasep x.base.length zbasec,.slice zap x.a.length zac,.slice zbp x.b.length zbc]).toArray[j]? = some u->K (o+j) u)/\SlR ZL G (.slice zbasep x.base.length zbasec) x.base/\SlR ZL G (.slice zap x.a.length zac) x.a/\SlR ZL G (.slice zbp x.b.length zbc) x.b:=by
 obtain⟨c,h,hc⟩:=h
 obtain⟨c1,d1,e1,h1,k1⟩:=h
 subst e1
 obtain⟨v2,e2,s2⟩:=h1
 subst e2
 obtain⟨p2,q2,f2⟩:=SlR.form s2
 subst f2
 obtain⟨c3,d3,e3,h3,k3⟩:=k1
 subst e3
 obtain⟨v4,e4,s4⟩:=h3
 subst e4
 obtain⟨p4,q4,f4⟩:=SlR.form s4
 subst f4
 obtain⟨v5,e5,s5⟩:=k3
 subst e5
 obtain⟨p5,q5,f5⟩:=SlR.form s5
 subst f5
 exact⟨p2,q2,p4,q4,p5,q5,fun j u hu=>hc j u (by simpa using hu),s2,s4,s5⟩
structure Zj where
 neg:Bool
 mag:(List Int)
abbrev ZdX:Rp Zj:=Rp.via (Rp.pair Rp.bool (Rp.sl (Rp.int .u32))) (fun x=>(x.neg,x.mag))
theorem ZnC{G:Mem}{K:Nat->Value->Prop}{o:Nat}{x:Zj}(h:AtK ZdX G K o x):∃ zmagp zmagc,(∀ (j:Nat) (u:Value),([.bool x.neg,.slice zmagp x.mag.length zmagc]).toArray[j]? = some u->K (o+j) u)/\SlR (Rp.int .u32) G (.slice zmagp x.mag.length zmagc) x.mag:=by
 obtain⟨c,h,hc⟩:=h
 obtain⟨c1,d1,e1,h1,k1⟩:=h
 subst e1
 replace h1:_=([.bool _]:List Value):=h1
 subst h1
 obtain⟨v3,e3,s3⟩:=k1
 subst e3
 obtain⟨p3,q3,f3⟩:=SlR.form s3
 subst f3
 exact⟨p3,q3,fun j u hu=>hc j u (by simpa using hu),s3⟩
structure Ze where
 num:Zj
 den:Zj
abbrev ZdY:Rp Ze:=Rp.via (Rp.pair ZdX ZdX) (fun x=>(x.num,x.den))
theorem ZnD{G:Mem}{K:Nat->Value->Prop}{o:Nat}{x:Ze}(h:AtK ZdY G K o x):∃ znummagp znummagc zdenmagp zdenmagc,(∀ (j:Nat) (u:Value),([.bool x.num.neg,.slice znummagp x.num.mag.length znummagc,.bool x.den.neg,.slice zdenmagp x.den.mag.length zdenmagc]).toArray[j]? = some u->K (o+j) u)/\SlR (Rp.int .u32) G (.slice znummagp x.num.mag.length znummagc) x.num.mag/\SlR (Rp.int .u32) G (.slice zdenmagp x.den.mag.length zdenmagc) x.den.mag:=by
 obtain⟨c,h,hc⟩:=h
 obtain⟨c1,d1,e1,h1,k1⟩:=h
 subst e1
 obtain⟨c2,d2,e2,h2,k2⟩:=h1
 subst e2
 replace h2:_=([.bool _]:List Value):=h2
 subst h2
 obtain⟨v4,e4,s4⟩:=k2
 subst e4
 obtain⟨p4,q4,f4⟩:=SlR.form s4
 subst f4
 obtain⟨c5,d5,e5,h5,k5⟩:=k1
 subst e5
 replace h5:_=([.bool _]:List Value):=h5
 subst h5
 obtain⟨v7,e7,s7⟩:=k5
 subst e7
 obtain⟨p7,q7,f7⟩:=SlR.form s7
 subst f7
 exact⟨p4,q4,p7,q7,fun j u hu=>hc j u (by simpa using hu),s4,s7⟩
theorem Zi9{G:Mem}{cs:List Value}{x:Ze}(h:ZdY.rep G cs x):∃ znummagp znummagc zdenmagp zdenmagc,cs=[.bool x.num.neg,.slice znummagp x.num.mag.length znummagc,.bool x.den.neg,.slice zdenmagp x.den.mag.length zdenmagc]/\SlR (Rp.int .u32) G (.slice znummagp x.num.mag.length znummagc) x.num.mag/\SlR (Rp.int .u32) G (.slice zdenmagp x.den.mag.length zdenmagc) x.den.mag:=by
 obtain⟨c1,d1,e1,h1,k1⟩:=h
 subst e1
 obtain⟨c2,d2,e2,h2,k2⟩:=h1
 subst e2
 replace h2:_=([.bool _]:List Value):=h2
 subst h2
 obtain⟨v4,e4,s4⟩:=k2
 subst e4
 obtain⟨p4,q4,f4⟩:=SlR.form s4
 subst f4
 obtain⟨c5,d5,e5,h5,k5⟩:=k1
 subst e5
 replace h5:_=([.bool _]:List Value):=h5
 subst h5
 obtain⟨v7,e7,s7⟩:=k5
 subst e7
 obtain⟨p7,q7,f7⟩:=SlR.form s7
 subst f7
 exact⟨p4,q4,p7,q7,rfl,s4,s7⟩
structure Zb where
 c:Ze
 m:(Fin 8->Int)
abbrev ZX:Rp Zb:=Rp.via (Rp.pair ZdY (Rp.vec .i64 8)) (fun x=>(x.c,x.m))
theorem ZmC{G:Mem}{K:Nat->Value->Prop}{o:Nat}{x:Zb}(h:AtK ZX G K o x):∃ zcnummagp zcnummagc zcdenmagp zcdenmagc,(∀ (j:Nat) (u:Value),(([.bool x.c.num.neg,.slice zcnummagp x.c.num.mag.length zcnummagc,.bool x.c.den.neg,.slice zcdenmagp x.c.den.mag.length zcdenmagc]:List Value)++(vecG (Value.int .i64) 8 x.m)).toArray[j]? = some u->K (o+j) u)/\SlR (Rp.int .u32) G (.slice zcnummagp x.c.num.mag.length zcnummagc) x.c.num.mag/\SlR (Rp.int .u32) G (.slice zcdenmagp x.c.den.mag.length zcdenmagc) x.c.den.mag:=by
 obtain⟨c,h,hc⟩:=h
 obtain⟨c1,d1,e1,h1,k1⟩:=h
 subst e1
 obtain⟨c2,d2,e2,h2,k2⟩:=h1
 subst e2
 obtain⟨c3,d3,e3,h3,k3⟩:=h2
 subst e3
 replace h3:_=([.bool _]:List Value):=h3
 subst h3
 obtain⟨v5,e5,s5⟩:=k3
 subst e5
 obtain⟨p5,q5,f5⟩:=SlR.form s5
 subst f5
 obtain⟨c6,d6,e6,h6,k6⟩:=k2
 subst e6
 replace h6:_=([.bool _]:List Value):=h6
 subst h6
 obtain⟨v8,e8,s8⟩:=k6
 subst e8
 obtain⟨p8,q8,f8⟩:=SlR.form s8
 subst f8
 replace k1:_=(vecG (Value.int .i64) 8 _:List Value):=k1
 subst k1
 exact⟨p5,q5,p8,q8,fun j u hu=>hc j u (by simpa using hu),s5,s8⟩
theorem Zh0{G:Mem}{cs:List Value}{x:Zb}(h:ZX.rep G cs x):∃ zcnummagp zcnummagc zcdenmagp zcdenmagc,cs=([.bool x.c.num.neg,.slice zcnummagp x.c.num.mag.length zcnummagc,.bool x.c.den.neg,.slice zcdenmagp x.c.den.mag.length zcdenmagc]:List Value)++(vecG (Value.int .i64) 8 x.m)/\SlR (Rp.int .u32) G (.slice zcnummagp x.c.num.mag.length zcnummagc) x.c.num.mag/\SlR (Rp.int .u32) G (.slice zcdenmagp x.c.den.mag.length zcdenmagc) x.c.den.mag:=by
 obtain⟨c1,d1,e1,h1,k1⟩:=h
 subst e1
 obtain⟨c2,d2,e2,h2,k2⟩:=h1
 subst e2
 obtain⟨c3,d3,e3,h3,k3⟩:=h2
 subst e3
 replace h3:_=([.bool _]:List Value):=h3
 subst h3
 obtain⟨v5,e5,s5⟩:=k3
 subst e5
 obtain⟨p5,q5,f5⟩:=SlR.form s5
 subst f5
 obtain⟨c6,d6,e6,h6,k6⟩:=k2
 subst e6
 replace h6:_=([.bool _]:List Value):=h6
 subst h6
 obtain⟨v8,e8,s8⟩:=k6
 subst e8
 obtain⟨p8,q8,f8⟩:=SlR.form s8
 subst f8
 replace k1:_=(vecG (Value.int .i64) 8 _:List Value):=k1
 subst k1
 exact⟨p5,q5,p8,q8,rfl,s5,s8⟩
structure Zc where
 id:Int
 p:(List Zb)
abbrev Zz:Rp Zc:=Rp.via (Rp.pair (Rp.int .i64) (Rp.sl ZX)) (fun x=>(x.id,x.p))
theorem Zi7{G:Mem}{K:Nat->Value->Prop}{o:Nat}{x:Zc}(h:AtK Zz G K o x):∃ zpp zpc,(∀ (j:Nat) (u:Value),([.int .i64 x.id,.slice zpp x.p.length zpc]).toArray[j]? = some u->K (o+j) u)/\SlR ZX G (.slice zpp x.p.length zpc) x.p:=by
 obtain⟨c,h,hc⟩:=h
 obtain⟨c1,d1,e1,h1,k1⟩:=h
 subst e1
 replace h1:_=([.int .i64 _]:List Value):=h1
 subst h1
 obtain⟨v3,e3,s3⟩:=k1
 subst e3
 obtain⟨p3,q3,f3⟩:=SlR.form s3
 subst f3
 exact⟨p3,q3,fun j u hu=>hc j u (by simpa using hu),s3⟩
structure Za where
 vars:(List ByteArray)
 eqs:(List Zc)
 neqs:(List Zc)
 next:Int
abbrev Zla:Rp Za:=Rp.via (Rp.pair (Rp.sl Rp.str) (Rp.pair (Rp.sl Zz) (Rp.pair (Rp.sl Zz) (Rp.int .i64)))) (fun x=>(x.vars,x.eqs,x.neqs,x.next))
structure Zk where
 id:Int
 name:ByteArray
abbrev ZeM:Rp Zk:=Rp.via (Rp.pair (Rp.int .i64) Rp.str) (fun x=>(x.id,x.name))
theorem ZeD{G:Mem}{K:Nat->Value->Prop}{o:Nat}{x:Zk}(h:AtK ZeM G K o x):(∀ (j:Nat) (u:Value),([.int .i64 x.id,.string x.name]).toArray[j]? = some u->K (o+j) u):=by
 obtain⟨c,h,hc⟩:=h
 obtain⟨c1,d1,e1,h1,k1⟩:=h
 subst e1
 replace h1:_=([.int .i64 _]:List Value):=h1
 subst h1
 replace k1:_=([.string _]:List Value):=k1
 subst k1
 exact fun j u hu=>hc j u (by simpa using hu)
structure Zi where
 p:(List Zb)
 neq:Bool
abbrev Zdr:Rp Zi:=Rp.via (Rp.pair (Rp.sl ZX) Rp.bool) (fun x=>(x.p,x.neq))
theorem Z2{G:Mem}{cs:List Value}{x:Zi}(h:Zdr.rep G cs x):∃ zpp zpc,cs=[.slice zpp x.p.length zpc,.bool x.neq]/\SlR ZX G (.slice zpp x.p.length zpc) x.p:=by
 obtain⟨c1,d1,e1,h1,k1⟩:=h
 subst e1
 obtain⟨v2,e2,s2⟩:=h1
 subst e2
 obtain⟨p2,q2,f2⟩:=SlR.form s2
 subst f2
 replace k1:_=([.bool _]:List Value):=k1
 subst k1
 exact⟨p2,q2,rfl,s2⟩
structure Zg where
 id:Int
 entry:Zi
 from':Za
abbrev ZeN:Rp Zg:=Rp.via (Rp.pair (Rp.int .i64) (Rp.pair Zdr Zla)) (fun x=>(x.id,x.entry,x.from'))
theorem Zi8{G:Mem}{K:Nat->Value->Prop}{o:Nat}{x:Zg}(h:AtK ZeN G K o x):∃ zentrypp zentrypc zfromvarsp zfromvarsc zfromeqsp zfromeqsc zfromneqsp zfromneqsc,(∀ (j:Nat) (u:Value),([.int .i64 x.id,.slice zentrypp x.entry.p.length zentrypc,.bool x.entry.neq,.slice zfromvarsp x.from'.vars.length zfromvarsc,.slice zfromeqsp x.from'.eqs.length zfromeqsc,.slice zfromneqsp x.from'.neqs.length zfromneqsc,.int .i64 x.from'.next]).toArray[j]? = some u->K (o+j) u)/\SlR ZX G (.slice zentrypp x.entry.p.length zentrypc) x.entry.p/\SlR Rp.str G (.slice zfromvarsp x.from'.vars.length zfromvarsc) x.from'.vars/\SlR Zz G (.slice zfromeqsp x.from'.eqs.length zfromeqsc) x.from'.eqs/\SlR Zz G (.slice zfromneqsp x.from'.neqs.length zfromneqsc) x.from'.neqs:=by
 obtain⟨c,h,hc⟩:=h
 obtain⟨c1,d1,e1,h1,k1⟩:=h
 subst e1
 replace h1:_=([.int .i64 _]:List Value):=h1
 subst h1
 obtain⟨c3,d3,e3,h3,k3⟩:=k1
 subst e3
 obtain⟨c4,d4,e4,h4,k4⟩:=h3
 subst e4
 obtain⟨v5,e5,s5⟩:=h4
 subst e5
 obtain⟨p5,q5,f5⟩:=SlR.form s5
 subst f5
 replace k4:_=([.bool _]:List Value):=k4
 subst k4
 obtain⟨c7,d7,e7,h7,k7⟩:=k3
 subst e7
 obtain⟨v8,e8,s8⟩:=h7
 subst e8
 obtain⟨p8,q8,f8⟩:=SlR.form s8
 subst f8
 obtain⟨c9,d9,e9,h9,k9⟩:=k7
 subst e9
 obtain⟨v10,e10,s10⟩:=h9
 subst e10
 obtain⟨p10,q10,f10⟩:=SlR.form s10
 subst f10
 obtain⟨c11,d11,e11,h11,k11⟩:=k9
 subst e11
 obtain⟨v12,e12,s12⟩:=h11
 subst e12
 obtain⟨p12,q12,f12⟩:=SlR.form s12
 subst f12
 replace k11:_=([.int .i64 _]:List Value):=k11
 subst k11
 exact⟨p5,q5,p8,q8,p10,q10,p12,q12,fun j u hu=>hc j u (by simpa using hu),s5,s8,s10,s12⟩
structure ZJ where
 from':(List ByteArray)
 to':(List ByteArray)
structure Zh where
 kind:Int
 name:ByteArray
 at':Int
 to':Int
 id:Int
 p:(List Zb)
 neq:Bool
abbrev Zib:Rp Zh:=Rp.via (Rp.pair (Rp.int .i64) (Rp.pair Rp.str (Rp.pair (Rp.int .i64) (Rp.pair (Rp.int .i64) (Rp.pair (Rp.int .i64) (Rp.pair (Rp.sl ZX) Rp.bool)))))) (fun x=>(x.kind,x.name,x.at',x.to',x.id,x.p,x.neq))
theorem ZmB{G:Mem}{K:Nat->Value->Prop}{o:Nat}{x:Zh}(h:AtK Zib G K o x):∃ zpp zpc,(∀ (j:Nat) (u:Value),([.int .i64 x.kind,.string x.name,.int .i64 x.at',.int .i64 x.to',.int .i64 x.id,.slice zpp x.p.length zpc,.bool x.neq]).toArray[j]? = some u->K (o+j) u)/\SlR ZX G (.slice zpp x.p.length zpc) x.p:=by
 obtain⟨c,h,hc⟩:=h
 obtain⟨c1,d1,e1,h1,k1⟩:=h
 subst e1
 replace h1:_=([.int .i64 _]:List Value):=h1
 subst h1
 obtain⟨c3,d3,e3,h3,k3⟩:=k1
 subst e3
 replace h3:_=([.string _]:List Value):=h3
 subst h3
 obtain⟨c5,d5,e5,h5,k5⟩:=k3
 subst e5
 replace h5:_=([.int .i64 _]:List Value):=h5
 subst h5
 obtain⟨c7,d7,e7,h7,k7⟩:=k5
 subst e7
 replace h7:_=([.int .i64 _]:List Value):=h7
 subst h7
 obtain⟨c9,d9,e9,h9,k9⟩:=k7
 subst e9
 replace h9:_=([.int .i64 _]:List Value):=h9
 subst h9
 obtain⟨c11,d11,e11,h11,k11⟩:=k9
 subst e11
 obtain⟨v12,e12,s12⟩:=h11
 subst e12
 obtain⟨p12,q12,f12⟩:=SlR.form s12
 subst f12
 replace k11:_=([.bool _]:List Value):=k11
 subst k11
 exact⟨p12,q12,fun j u hu=>hc j u (by simpa using hu),s12⟩
structure Zy where
 s:Za
 n:Int
 e:Int
end Go.EL

namespace Go.EL
open Go.IntKind (i8 i16 i32 i64 u8 u16 u32 u64)
open Go Go.RowKit
abbrev M:=Fin 8->Int
def cmpFrom(a b:M):Nat->Nat->Int
 | 0,_=>0
 | n+1,k=>if h:k<8 then (if a ⟨k,h⟩<b ⟨k,h⟩ then -1 else if b ⟨k,h⟩<a ⟨k,h⟩ then 1 else cmpFrom a b n (k+1)) else 0
def cmpM(a b:M):Int:=cmpFrom a b 8 0
theorem ZdU(a b:M):∀ (k:Nat),k<=8->(∀ i:Fin 8,i.val<k->a i=b i)->cmpM a b=cmpFrom a b (8-k) k
 | 0,_,_=>rfl
 | k+1,hk,h=>by
  rw[ZdU a b k (by omega) (fun i hi=>h i (by omega))]
  have hl:k<8:=by omega
  have e:=h ⟨k,hl⟩ (by simp)
  rw[show 8-k=(8-(k+1))+1 by omega]
  simp[cmpFrom,hl,e]
theorem Zm2(a b:M){k:Nat}(hk:k<8)(h:∀ i:Fin 8,i.val<k->a i=b i)(hlt:a ⟨k,hk⟩<b ⟨k,hk⟩):cmpM a b = -1:=by
 rw[ZdU a b k (by omega) h,show 8-k=(7-k)+1 by omega]
 simp[cmpFrom,hk,hlt]
theorem Zm1(a b:M){k:Nat}(hk:k<8)(h:∀ i:Fin 8,i.val<k->a i=b i)(hlt:b ⟨k,hk⟩<a ⟨k,hk⟩):cmpM a b=1:=by
 rw[ZdU a b k (by omega) h,show 8-k=(7-k)+1 by omega]
 have:¬ a ⟨k,hk⟩<b ⟨k,hk⟩:=by omega
 simp[cmpFrom,hk,hlt,this]
theorem Zm0(a b:M)(h:∀ i,a i=b i):cmpM a b=0:=by
 rw[ZdU a b 8 (by omega) (fun i _=>h i)]
 rfl
theorem ZhX(a b:M):∀ n k,cmpFrom b a n k = - cmpFrom a b n k
 | 0,_=>by simp[cmpFrom]
 | n+1,k=>by
  simp only[cmpFrom]
  split
  .rename_i h
   rw[ZhX a b n (k+1)]
   split <;> split <;> first|omega|(split <;> omega)
  rfl
theorem ZdO(a b c:M):∀ n k,cmpFrom a b n k<=0->cmpFrom b c n k<=0->cmpFrom a c n k<=0/\((cmpFrom a b n k<0\/cmpFrom b c n k<0)->cmpFrom a c n k<0)
 | 0,_=>by simp[cmpFrom]
 | n+1,k=>by
  have ih:=ZdO a b c n (k+1)
  simp only[cmpFrom]
  by_cases h:k<8
  .simp only[dif_pos h]
   by_cases h1:a ⟨k,h⟩<b ⟨k,h⟩
   .by_cases h2:b ⟨k,h⟩<c ⟨k,h⟩
    .simp[h1,h2,show a ⟨k,h⟩<c ⟨k,h⟩ by omega]
    by_cases h3:c ⟨k,h⟩<b ⟨k,h⟩
    .simp[h2,h3]
    simp[show a ⟨k,h⟩<c ⟨k,h⟩ by omega]
   by_cases h1':b ⟨k,h⟩<a ⟨k,h⟩
   .simp[h1,h1']
   by_cases h2:b ⟨k,h⟩<c ⟨k,h⟩
   .simp[show a ⟨k,h⟩<c ⟨k,h⟩ by omega]
   by_cases h3:c ⟨k,h⟩<b ⟨k,h⟩
   .simp[h2,h3]
   simp only[h1,h1',h2,h3,if_false,show ¬ a ⟨k,h⟩<c ⟨k,h⟩ by omega,show ¬ c ⟨k,h⟩<a ⟨k,h⟩ by omega]
   exact ih
  simp[h]
theorem ZgW(a b:M):∀ n k,n+k=8->cmpFrom a b n k=0->∀ i:Fin 8,k<=i.val->a i=b i
 | 0,k,e,_,i,hi=>by have:=i.isLt; omega
 | n+1,k,e,hz,i,hi=>by
  have hk:k<8:=by omega
  simp only[cmpFrom,dif_pos hk] at hz
  by_cases h1:a ⟨k,hk⟩<b ⟨k,hk⟩
  .simp[h1] at hz
  by_cases h2:b ⟨k,hk⟩<a ⟨k,hk⟩
  .simp[h1,h2] at hz
  simp only[h1,h2,if_false] at hz
  by_cases hik:i.val=k
  .have:i=⟨k,hk⟩:=Fin.ext hik
   subst this; omega
  exact ZgW a b n (k+1) (by omega) hz i (by omega)
theorem ZbA(a b:M):cmpM b a = - cmpM a b:=ZhX a b 8 0
theorem Zk8{a b c:M}(h1:cmpM a b<=0)(h2:cmpM b c<=0):cmpM a c<=0:=(ZdO a b c 8 0 h1 h2).1
theorem Zgn{a b c:M}(h1:cmpM a b<=0)(h2:cmpM b c<=0)(h:cmpM a b<0\/cmpM b c<0):cmpM a c<0:=(ZdO a b c 8 0 h1 h2).2 h
theorem ZgX(a:M):cmpM a a=0:=Zm0 a a fun _=>rfl
theorem ZeE{a b:M}(h:cmpM a b=0):a=b:=funext fun i=>ZgW a b 8 0 rfl h i (Nat.zero_le _)
theorem swoR:Go.Sort.SWO (Go.Proofs.ltOf fun a b=>cmpM b a) where
 irrefl x:=by simp[Go.Proofs.ltOf,ZgX]
 trans x y z h1 h2:=by
  simp only[Go.Proofs.ltOf,decide_eq_true_eq] at *
  exact Zgn (a:=z) (b:=y) (c:=x) (by omega) (by omega) (.inl h2)
 ntrans x y z h1 h2:=by
  simp only[Go.Proofs.ltOf,decide_eq_false_iff_not] at *
  have a:=ZbA x y
  have b:=ZbA y z
  have c:=ZbA x z
  have:=Zk8 (a:=x) (b:=y) (c:=z) (by omega) (by omega)
  omega
end Go.EL

namespace Go.EL
open Go.IntKind (i8 i16 i32 i64 u8 u16 u32 u64)
open Go Go.EL Go.RowKit Go.Proofs
def ZS:ByteArray:=⟨#[65,98,99]⟩
def ZZ:ByteArray:=⟨#[117,95,49]⟩
def Z6:ByteArray:=⟨#[119]⟩
def Zaf:ByteArray:=⟨#[122]⟩
def ZY:ByteArray:=⟨#[121]⟩
def Zp:ByteArray:=⟨#[120]⟩
def Zes:ByteArray:=⟨#[0,1,2,2,3,3,3,3,4,4,4,4,4,4,4,4,5,5,5,5,5,5,5,5,5,5,5,5,5,5,5,5,6,6,6,6,6,6,6,6,6,6,6,6,6,6,6,6,6,6,6,6,6,6,6,6,6,6,6,6,6,6,6,6,7,7,7,7,7,7,7,7,7,7,7,7,7,7,7,7,7,7,7,7,7,7,7,7,7,7,7,7,7,7,7,7,7,7,7,7,7,7,7,7,7,7,7,7,7,7,7,7,7,7,7,7,7,7,7,7,7,7,7,7,7,7,7,7,8,8,8,8,8,8,8,8,8,8,8,8,8,8,8,8,8,8,8,8,8,8,8,8,8,8,8,8,8,8,8,8,8,8,8,8,8,8,8,8,8,8,8,8,8,8,8,8,8,8,8,8,8,8,8,8,8,8,8,8,8,8,8,8,8,8,8,8,8,8,8,8,8,8,8,8,8,8,8,8,8,8,8,8,8,8,8,8,8,8,8,8,8,8,8,8,8,8,8,8,8,8,8,8,8,8,8,8,8,8,8,8,8,8,8,8,8,8,8,8,8,8,8,8,8,8,8,8]⟩
def Z4(l:List ByteArray):Cq (List ByteArray):=
 Cq.chk (l.length<=1000000) (Cq.ret (srtS l))
def ZV(l:List Int):Cq (List Int):=
 Cq.chk (l.length<=1000000) (Cq.ret (srtI l))
def ZcV(b:(Fin 8->Int))(c:(Fin 8->Int))(a:Int):Cq Int:=
 Cq.chk (0<=a/\a<8) (Cq.chk (0<=a/\a<8) (if (getF b a)<(getF c a) then (Cq.ret (-1)) else (Cq.ret 1)))
def Zjq(b:(Fin 8->Int))(c:(Fin 8->Int)):Int->Cq Int:=
 Cq.loop fun d=>match d with|a=>Cq.chk (0<=a/\a<8) (Cq.chk (0<=a/\a<8) (if (getF b a)=(getF c a) then (Cq.ret (.inl (i64.wrap (a+1)))) else (Cq.ret (.inr a))))
def ZbL(a:(Fin 8->Int))(b:(Fin 8->Int)):Cq Int:=
 if a=b then (Cq.ret 0) else (Cq.next (Zjq a b 0) fun c=>match c with|d=>ZcV a b d)
def Zc0(b:Zb)(c:Zb):Cq Int:=
 Cq.bind (ZbL c.m b.m) fun a=>Cq.ret a
def ZP(l:List Zb)(a b c:Int):Cq (List Zb):=
 Cq.chk (a=0/\b=(l.length:Int)/\(0<=c/\c<1000000)/\l.length<=1000000) (Cq.any (fun d=>d.Perm l/\d.Pairwise (fun x y=>¬ cmpM x.m y.m<0)) Cq.ret)
def Zdz(a:Int)(b:Int):Cq Int:=
 Cq.chk (0<=(u8.wrap a:Int)/\(u8.wrap a)<(Zes.size:Int)) (Cq.ret (i64.wrap (b+(i64.wrap (byteAt Zes (u8.wrap a))))))
def ZdA(a:Int)(b:Int):Cq Int:=
 if 256<=a then Cq.fail else (Zdz a b)
def ZdB(a:Int)(b:Int):Cq Int:=
 if 65536<=a then Cq.fail else (ZdA a b)
def ZeI(a:Int):Cq Int:=
 if 4294967296<=a then Cq.fail else (ZdB a 0)
def Zcf(b:Int):Cq Int:=
 Cq.bind (ZeI b) fun a=>Cq.ret a
def ZC(a:(List Zb)):Cq (List Zb):=
 Cq.bind (Zcf (u64.wrap (a.length:Int))) fun b=>Cq.bind (ZP a 0 (a.length:Int) b) fun c=>Cq.ret c
def ZbE(a:Zj):Cq Int:=
 if (a.mag.length:Int)=0 then Cq.fail else (if a.neg=true then (Cq.ret (-1)) else (Cq.ret 1))
def Z7(b:Ze):Cq Int:=
 Cq.bind (ZbE b.num) fun a=>Cq.ret a
def Za3(a:(List Zb)):Cq (List Zb):=
 Cq.bind (ZC a) fun b=>Cq.ret b
def Zf9:((List Zb)×List ((Fin 8->Int)×Ze))->Cq (List Zb):=
 Cq.loop fun d=>match d with|(a,R1)=>Cq.pick R1 (Cq.ret (.inr a)) fun b R2=>Cq.bind (Z7 b.2) fun c=>if ¬ c=0 then (Cq.chk ((a++[(Zb.mk b.2 b.1)]).length<=small) (Cq.ret (.inl ((a++[(Zb.mk b.2 b.1)]),R2)))) else (Cq.ret (.inl (a,R2)))
def ZaS(a:(List ((Fin 8->Int)×Ze))):Cq (List Zb):=
 Cq.chk (0<=(a.length:Int)/\(a.length:Int)<=1000000) (Cq.next (Zf9 (([]:List Zb),a)) fun c=>match c with|b=>Za3 b)
def Zb6:Cq Bool:=
 Cq.ret true
def ZhL(b:(Fin 8->Int)):Int->Cq (Bool⊕Unit):=
 Cq.loop fun c=>match c with|a=>if a<8 then (Cq.chk (0<=a/\a<8) (if (getF b a)<0 then (Cq.ret (.inr (.inl false))) else (if 65535<(getF b a) then Cq.fail else (Cq.ret (.inl (i64.wrap (a+1))))))) else (Cq.ret (.inr (.inr ())))
def Zb0(b:(Fin 8->Int)):Cq Bool:=
 Cq.next (ZhL b 0) fun c=>match c with | .inl a=>Cq.ret a | .inr ()=>Zb6
def ZcY(a:(Fin 8->Int)):Cq ((Fin 8->Int)×Int):=
 Cq.bind (Zb0 a) fun b=>if (!b)=true then Cq.fail else (Cq.ret (a,0))
def Zjs(c:(Fin 8->Int)):(Int×(Fin 8->Int))->Cq (Fin 8->Int):=
 Cq.loop fun d=>match d with|(a,b)=>if a<8 then (Cq.chk (0<=a/\a<8) (Cq.chk (0<=a/\a<8) (Cq.chk (0<=a/\a<8) (Cq.ret (.inl (i64.wrap (a+1),setF b a.toNat (i64.wrap ((getF b a)+(getF c a))))))))) else (Cq.ret (.inr b))
def Zep(b:(Fin 8->Int))(c:(Fin 8->Int)):Cq ((Fin 8->Int)×Int):=
 Cq.next (Zjs c (0,b)) fun d=>match d with|a=>ZcY a
def Zan(a:Zj):Cq Bool:=
 if a.neg=true then (Cq.ret false) else (if (a.mag.length:Int)=1 then (Cq.at' a.mag 0 fun b=>Cq.ret (decide (b=1))) else (Cq.ret false))
def ZcO(b:(List Int))(a:Int):Cq (List Int):=
 Cq.chk (0<=(0:Int)/\(0:Int)<=a/\a<=(b.length:Int)) (Cq.ret ((b.take a.toNat).drop (0:Int).toNat))
def Zjk(b:(List Int)):Int->Cq Int:=
 Cq.loop fun c=>match c with|a=>if 0<a then (Cq.at' b (i64.wrap (a-1)) fun d=>if d=0 then (Cq.ret (.inl (i64.wrap (a-1)))) else (Cq.ret (.inr a))) else (Cq.ret (.inr a))
def ZW(a:(List Int)):Cq (List Int):=
 Cq.next (Zjk a (a.length:Int)) fun b=>match b with|c=>ZcO a c
def ZdQ(a:(List Int)):Cq (List Int):=
 Cq.chk (([]++a).length<=small) (Cq.ret ([]++a))
def ZN(b:Bool)(c:(List Int)):Cq Zj:=
 Cq.bind (ZW c) fun a=>if (a.length:Int)=0 then (Cq.ret (Zj.mk false [])) else (Cq.ret (Zj.mk b a))
def Zdh(b:(List Int)):Cq Zj:=
 Cq.bind (ZN false b) fun a=>Cq.ret a
def Zj5:((List Int)×(List Int)×Zj)->Cq (Zj⊕((List Int)×Zj)):=
 Cq.loop fun c=>match c with|(d,a,b)=>if 0<(a.length:Int) then Cq.fail else (Cq.ret (.inr (.inr (d,b))))
def Zh4(f:Zj)(g:Zj):Cq Zj:=
 Cq.bind (ZW f.mag) fun a=>Cq.bind (ZdQ a) fun b=>Cq.bind (ZW g.mag) fun c=>Cq.bind (ZdQ c) fun d=>Cq.next (Zj5 (b,d,(Zj.mk false []))) fun h=>match h with | .inl e=>Cq.ret e | .inr (i,j)=>Zdh i
def ZaK(c:Zj)(a:Zj):Cq Ze:=
 Cq.bind (Zan a) fun b=>if b=true then (Cq.ret (Ze.mk c a)) else Cq.fail
def Zgp(a:Int):Cq (List Int):=
 Cq.bind (ZW [u32.wrap a,u32.wrap (Int.fdiv a (2 ^ (min (32:Int).toNat u64.bits)))]) fun b=>Cq.ret b
def ZdV(a:Int):Cq Zj:=
 if a<0 then Cq.fail else (Cq.bind (Zgp (u64.wrap a)) fun b=>Cq.bind (ZN (decide (a<0)) b) fun c=>Cq.ret c)
def ZbG(a:(List Int)):Cq (List Int):=
 Cq.bind (ZW a) fun b=>Cq.ret b
def ZbH(b:(List Int))(a:Int)(c:(List Int))(d:Int):Cq (((List Int)×Int)⊕(List Int)):=
 Cq.at' c (i64.wrap (a+(b.length:Int))) fun e=>Cq.ret (.inl ((c.set (i64.wrap (a+(b.length:Int))).toNat (u32.wrap d)),i64.wrap (a+1)))
def Zg8(e:(List Int))(b:Int)(f:Int):((List Int)×Int×Int)->Cq (((List Int)×Int)):=
 Cq.loop fun i=>match i with|(c,d,a)=>if a<(e.length:Int) then (Cq.at' e a fun g=>Cq.at' c (i64.wrap (b+a)) fun h=>Cq.at' c (i64.wrap (b+a)) fun j=>Cq.ret (.inl ((c.set (i64.wrap (b+a)).toNat (u32.wrap (u64.wrap ((u64.wrap ((u64.wrap ((u64.wrap f)*(u64.wrap g)))+(u64.wrap h)))+d)))),Int.fdiv (u64.wrap ((u64.wrap ((u64.wrap ((u64.wrap f)*(u64.wrap g)))+(u64.wrap h)))+d)) (2 ^ (min (32:Int).toNat u64.bits)),i64.wrap (a+1)))) else (Cq.ret (.inr (c,d)))
def Zg7(b:(List Int))(c:(List Int)):((List Int)×Int)->Cq (List Int):=
 Cq.loop fun g=>match g with|(d,a)=>if a<(b.length:Int) then (Cq.at' b a fun h=>Cq.next (Zg8 c a h (d,0,0)) fun i=>match i with|(e,f)=>ZbH c a e f) else (Cq.ret (.inr d))
def ZeG(a:(List Int))(b:(List Int)):Cq (List Int):=
 Cq.chk (0<=i64.wrap ((a.length:Int)+(b.length:Int))/\(i64.wrap ((a.length:Int)+(b.length:Int)))<=1000000) (Cq.next (Zg7 a b ((List.replicate (i64.wrap ((a.length:Int)+(b.length:Int))).toNat 0),0)) fun d=>match d with|c=>ZbG c)
def Zh5(a:Zj)(b:Zj):Cq Zj:=
 Cq.bind (ZeG a.mag b.mag) fun c=>Cq.bind (ZN (decide (¬ a.neg=b.neg)) c) fun d=>Cq.ret d
def Zbr(a:Zj):Cq Zj:=
 Cq.ret a
def ZgD(d:(List Zj)):(Int×Zj)->Cq Zj:=
 Cq.loop fun h=>match h with|(a,b)=>if a<(d.length:Int) then (Cq.at' d a fun c=>Cq.bind (Zan c) fun e=>if e=true then (Cq.ret (.inl (i64.wrap (a+1),b))) else (Cq.bind (Zan b) fun f=>if f=true then (Cq.ret (.inl (i64.wrap (a+1),c))) else (Cq.bind (Zh5 b c) fun g=>Cq.ret (.inl (i64.wrap (a+1),g))))) else (Cq.ret (.inr b))
def ZH(c:(List Zj)):Cq Zj:=
 Cq.bind (ZdV 1) fun a=>Cq.next (ZgD c (0,a)) fun d=>match d with|b=>Zbr b
def Zae(c:Ze)(d:Ze):Cq Ze:=
 Cq.bind (ZaK c.num d.den) fun a=>Cq.bind (ZaK d.num c.den) fun b=>Cq.bind (ZH [a.num,b.num]) fun e=>Cq.bind (ZH [a.den,b.den]) fun f=>Cq.ret (Ze.mk e f)
def ZaI(a:(List ((Fin 8->Int)×Ze)))(c:Ze)(b:(Fin 8->Int)):Cq ((List ((Fin 8->Int)×Ze))):=
 Cq.chk (∀ i,(Lit.int i64 (b i)).wf=true) (Cq.bind (Cq.ret ((mget a b).getD (Ze.mk (Zj.mk false []) (Zj.mk false [])))) fun d=>if ((mget a b).isSome)=true then Cq.fail else (Cq.chk ((∀ i,(Lit.int i64 (b i)).wf=true)/\(mput a b c).length<=small) (Cq.ret (mput a b c))))
def Zb7(a:(List ((Fin 8->Int)×Ze))):Cq ((List Zb)×Int):=
 Cq.bind (ZaS a) fun b=>Cq.ret (b,0)
def Zb8(a:Int)(b:(List ((Fin 8->Int)×Ze))):Cq ((Int×(List ((Fin 8->Int)×Ze)))⊕(((List Zb)×Int)⊕((List ((Fin 8->Int)×Ze))))):=
 Cq.ret (.inl (i64.wrap (a+1),b))
def ZhN(e:(List Zb))(f:Zb):(Int×(List ((Fin 8->Int)×Ze)))->Cq (((List Zb)×Int)⊕((List ((Fin 8->Int)×Ze)))):=
 Cq.loop fun j=>match j with|(a,b)=>if a<(e.length:Int) then (Cq.at' e a fun g=>Cq.bind (Zep f.m g.m) fun d=>if ¬ d.2=0 then Cq.fail else (Cq.bind (Zae f.c g.c) fun h=>Cq.bind (ZaI b h d.1) fun i=>Cq.ret (.inl (i64.wrap (a+1),i)))) else (Cq.ret (.inr (.inr b)))
def ZhM(c:(List Zb))(f:(List Zb)):(Int×(List ((Fin 8->Int)×Ze)))->Cq (((List Zb)×Int)⊕((List ((Fin 8->Int)×Ze)))):=
 Cq.loop fun g=>match g with|(a,b)=>if a<(c.length:Int) then (Cq.at' c a fun h=>Cq.next (ZhN f h (0,b)) fun i=>match i with | .inl d=>Cq.ret (.inr (.inl d)) | .inr e=>Zb8 a e) else (Cq.ret (.inr (.inr b)))
def Zab(c:(List Zb))(d:(List Zb)):Cq ((List Zb)×Int):=
 Cq.next (ZhM c d (0,[])) fun e=>match e with | .inl a=>Cq.ret a | .inr b=>Zb7 b
def ZeZ(b:(List Int))(a:Int):Cq (List Int):=
 Cq.chk (0<=(0:Int)/\(0:Int)<=a/\a<=(b.length:Int)) (Cq.ret ((b.take a.toNat).drop (0:Int).toNat))
def Zmm(b:(List Int)):Int->Cq Int:=
 Cq.loop fun c=>match c with|a=>if 0<a then (Cq.at' b (i64.wrap (a-1)) fun d=>if d=0 then (Cq.ret (.inl (i64.wrap (a-1)))) else (Cq.ret (.inr a))) else (Cq.ret (.inr a))
def Zci(a:(List Int)):Cq (List Int):=
 Cq.next (Zmm a (a.length:Int)) fun b=>match b with|c=>ZeZ a c
def Zdw(a:Int):Cq (List Int):=
 Cq.bind (Zci [u32.wrap (Int.tmod a 4294967296),u32.wrap (u64.wrap (Int.tdiv a 4294967296))]) fun b=>Cq.ret b
def ZaL(b:Bool)(c:(List Int)):Cq Zj:=
 Cq.bind (Zci c) fun a=>if b=true then (Cq.ret (Zj.mk (decide (0<(a.length:Int))) a)) else (Cq.ret (Zj.mk false a))
def ZiZ(a:Int):Cq Zj:=
 if a<0 then (Cq.bind (Zdw (u64.wrap ((u64.wrap (i64.wrap (0-(i64.wrap (a+1)))))+1))) fun b=>Cq.bind (ZaL true b) fun c=>Cq.ret c) else (Cq.bind (Zdw (u64.wrap a)) fun d=>Cq.bind (ZaL false d) fun e=>Cq.ret e)
def Zak(c:Int):Cq Ze:=
 Cq.bind (ZiZ c) fun a=>Cq.bind (ZiZ 1) fun b=>Cq.ret (Ze.mk a b)
def Zkm(a:Int)(b:Int):Cq (Fin 8->Int):=
 Cq.chk (0<=a/\a<8) (Cq.ret (setF (fun _=>0) a.toNat b))
def ZfF(a:Zj):Cq Int:=
 if a.neg=true then (Cq.ret (-1)) else (Cq.ret (if 1<(a.mag.length:Int) then 1 else (a.mag.length:Int)))
def Zah(b:Ze):Cq Int:=
 Cq.bind (ZfF b.num) fun a=>Cq.ret a
def ZgJ(a:Ze):Cq (List Zb):=
 Cq.bind (Zah a) fun b=>if b=0 then Cq.fail else (Cq.ret [(Zb.mk a (fun _=>0))])
def Zd8:Cq Bool:=
 Cq.ret true
def Zlq(b:(Fin 8->Int)):Int->Cq (Bool⊕Unit):=
 Cq.loop fun c=>match c with|a=>if a<8 then (Cq.chk (0<=a/\a<8) (if (getF b a)<0 then (Cq.ret (.inr (.inl false))) else (Cq.chk (0<=a/\a<8) (if 65535<(getF b a) then Cq.fail else (Cq.ret (.inl (i64.wrap (a+1)))))))) else (Cq.ret (.inr (.inr ())))
def Zex(b:(Fin 8->Int)):Cq Bool:=
 Cq.next (Zlq b 0) fun c=>match c with | .inl a=>Cq.ret a | .inr ()=>Zd8
def ZfL(a:(Fin 8->Int)):Cq ((Fin 8->Int)×Int):=
 Cq.bind (Zex a) fun b=>if (!b)=true then Cq.fail else (Cq.ret (a,0))
def Znz(c:(Fin 8->Int)):(Int×(Fin 8->Int))->Cq (Fin 8->Int):=
 Cq.loop fun d=>match d with|(a,b)=>if a<8 then (Cq.chk (0<=a/\a<8) (Cq.chk (0<=a/\a<8) (Cq.chk (0<=a/\a<8) (Cq.ret (.inl (i64.wrap (a+1),setF b a.toNat (i64.wrap ((getF b a)+(getF c a))))))))) else (Cq.ret (.inr b))
def ZjP(b:(Fin 8->Int))(c:(Fin 8->Int)):Cq ((Fin 8->Int)×Int):=
 Cq.next (Znz c (0,b)) fun d=>match d with|a=>ZfL a
def Zd6(a:(List Int)):Cq (List Int):=
 Cq.bind (Zci a) fun b=>Cq.ret b
def Zd7(b:(List Int))(a:Int)(c:(List Int))(d:Int):Cq (((List Int)×Int)⊕(List Int)):=
 Cq.at' c (i64.wrap (a+(b.length:Int))) fun e=>Cq.ret (.inl ((c.set (i64.wrap (a+(b.length:Int))).toNat (u32.wrap d)),i64.wrap (a+1)))
def Zlp(f:(List Int))(e:(List Int))(b:Int):((List Int)×Int×Int)->Cq (((List Int)×Int)):=
 Cq.loop fun j=>match j with|(c,d,a)=>if a<(e.length:Int) then (Cq.at' f b fun g=>Cq.at' e a fun h=>Cq.at' c (i64.wrap (b+a)) fun i=>Cq.at' c (i64.wrap (b+a)) fun k=>Cq.ret (.inl ((c.set (i64.wrap (b+a)).toNat (u32.wrap (Int.tmod (u64.wrap ((u64.wrap ((u64.wrap ((u64.wrap g)*(u64.wrap h)))+(u64.wrap i)))+d)) 4294967296))),u64.wrap (Int.tdiv (u64.wrap ((u64.wrap ((u64.wrap ((u64.wrap g)*(u64.wrap h)))+(u64.wrap i)))+d)) 4294967296),i64.wrap (a+1)))) else (Cq.ret (.inr (c,d)))
def Zlo(b:(List Int))(c:(List Int)):((List Int)×Int)->Cq (List Int):=
 Cq.loop fun g=>match g with|(d,a)=>if a<(b.length:Int) then (Cq.next (Zlp b c a (d,0,0)) fun h=>match h with|(e,f)=>Zd7 c a e f) else (Cq.ret (.inr d))
def Zkl(a:(List Int))(b:(List Int)):Cq (List Int):=
 Cq.chk (0<=i64.wrap ((a.length:Int)+(b.length:Int))/\(i64.wrap ((a.length:Int)+(b.length:Int)))<=1000000) (Cq.next (Zlo a b ((List.replicate (i64.wrap ((a.length:Int)+(b.length:Int))).toNat 0),0)) fun d=>match d with|c=>Zd6 c)
def ZdZ(a:Zj)(b:Zj):Cq Zj:=
 Cq.bind (Zkl a.mag b.mag) fun c=>Cq.bind (ZaL (decide (¬ a.neg=b.neg)) c) fun d=>Cq.ret d
def Zc7(a:(List Int))(b:Int):Cq Int:=
 if b<(a.length:Int) then (Cq.at' a b fun c=>Cq.ret (u64.wrap c)) else (Cq.ret 0)
def ZfG(a:(List Int)):Cq Int:=
 Cq.bind (Zc7 a 1) fun b=>Cq.bind (Zc7 a 0) fun c=>Cq.ret (u64.wrap ((u64.wrap (b*4294967296))+c))
def ZdL(a:Int):Cq Int:=
 Cq.ret a
def Zk4:(Int×Int)->Cq Int:=
 Cq.loop fun c=>match c with|(b,a)=>if 0<a then (Cq.chk (a≠0) (Cq.ret (.inl (a,Int.tmod b a)))) else (Cq.ret (.inr b))
def Zi2(a:Int)(b:Int):Cq Int:=
 Cq.next (Zk4 (a,b)) fun c=>match c with|d=>ZdL d
def ZcD:Cq Int:=
 Cq.ret 0
def Zi1(b:(List Int))(c:(List Int)):Int->Cq (Int⊕Unit):=
 Cq.loop fun d=>match d with|a=>if 0<=a then (Cq.at' b a fun e=>Cq.at' c a fun f=>if e<f then (Cq.ret (.inr (.inl (-1)))) else (Cq.at' b a fun g=>Cq.at' c a fun h=>if h<g then (Cq.ret (.inr (.inl 1))) else (Cq.ret (.inl (i64.wrap (a-1)))))) else (Cq.ret (.inr (.inr ())))
def Zao(a:(List Int))(b:(List Int)):Cq Int:=
 if (a.length:Int)<(b.length:Int) then (Cq.ret (-1)) else (if (b.length:Int)<(a.length:Int) then (Cq.ret 1) else (Cq.next (Zi1 a b (i64.wrap ((a.length:Int)-1))) fun d=>match d with | .inl c=>Cq.ret c | .inr ()=>ZcD))
def Zc6(a:(List Int))(b:Int):Cq ((List Int)×Int):=
 Cq.bind (Zci a) fun c=>Cq.ret (c,b)
def ZjL(f:(List Int))(d:Int):((List Int)×Int×Int)->Cq (((List Int)×Int)):=
 Cq.loop fun g=>match g with|(a,b,c)=>if 0<=c then (Cq.at' f c fun e=>Cq.chk (d≠0) (Cq.at' a c fun h=>Cq.chk (d≠0) (Cq.ret (.inl ((a.set c.toNat (u32.wrap (u64.wrap (Int.tdiv (u64.wrap ((u64.wrap (b*4294967296))+(u64.wrap e))) d)))),Int.tmod (u64.wrap ((u64.wrap (b*4294967296))+(u64.wrap e))) d,i64.wrap (c-1)))))) else (Cq.ret (.inr (a,b)))
def ZhP(a:(List Int))(d:Int):Cq ((List Int)×Int):=
 Cq.chk (0<=(a.length:Int)/\(a.length:Int)<=1000000) (Cq.next (ZjL a d ((List.replicate (a.length:Int).toNat 0),0,i64.wrap ((a.length:Int)-1))) fun e=>match e with|(b,c)=>Zc6 b c)
def ZeY(a:(List Int))(b:(List Int)):Cq ((List Int)×(List Int)):=
 Cq.bind (Zao a b) fun d=>if d<0 then (Cq.ret ([],a)) else (if (b.length:Int)=1 then (Cq.at' b 0 fun f=>Cq.bind (ZhP a (u64.wrap f)) fun c=>Cq.bind (Zdw c.2) fun e=>Cq.ret (c.1,e)) else Cq.fail)
def ZdJ(a:(List Int)):Cq (List Int):=
 Cq.ret a
def ZdK(c:(List Int))(b:(List Int))(a:Bool):Cq (((List Int)×(List Int))⊕((List Int)⊕(List Int))):=
 if a=true then (Cq.bind (ZfG c) fun d=>Cq.bind (ZfG b) fun e=>Cq.bind (Zi2 d e) fun f=>Cq.bind (Zdw f) fun g=>Cq.ret (.inr (.inl g))) else (Cq.bind (ZeY c b) fun h=>Cq.ret (.inl (b,h.2)))
def Zk3:((List Int)×(List Int))->Cq ((List Int)⊕(List Int)):=
 Cq.loop fun c=>match c with|(a,b)=>if 0<(b.length:Int) then (if (a.length:Int)<=2 then (ZdK a b (decide ((b.length:Int)<=2))) else (ZdK a b false)) else (Cq.ret (.inr (.inr a)))
def Zi0(b:(List Int))(c:(List Int)):Cq (List Int):=
 Cq.next (Zk3 (b,c)) fun d=>match d with | .inl a=>Cq.ret a | .inr e=>ZdJ e
def ZjK(c:Zj)(d:Zj):Cq Zj:=
 Cq.bind (Zi0 c.mag d.mag) fun a=>Cq.bind (ZaL false a) fun b=>Cq.ret b
def Zd4(a:(List Int)):Cq (List Int):=
 Cq.bind (Zci a) fun b=>Cq.ret b
def Zlm(f:(List Int))(g:(List Int)):((List Int)×Int×Int)->Cq (List Int):=
 Cq.loop fun h=>match h with|(b,a,c)=>if c<(i64.wrap ((if (f.length:Int)<(g.length:Int) then (g.length:Int) else (f.length:Int))+1)) then (Cq.bind (Zc7 f c) fun d=>Cq.bind (Zc7 g c) fun e=>Cq.at' b c fun i=>Cq.ret (.inl ((b.set c.toNat (u32.wrap (Int.tmod (u64.wrap ((u64.wrap (d+e))+a)) 4294967296))),u64.wrap (Int.tdiv (u64.wrap ((u64.wrap (d+e))+a)) 4294967296),i64.wrap (c+1)))) else (Cq.ret (.inr b))
def Zkk(a:(List Int))(b:(List Int)):Cq (List Int):=
 Cq.chk (0<=i64.wrap ((if (a.length:Int)<(b.length:Int) then (b.length:Int) else (a.length:Int))+1)/\(i64.wrap ((if (a.length:Int)<(b.length:Int) then (b.length:Int) else (a.length:Int))+1))<=1000000) (Cq.next (Zlm a b ((List.replicate (i64.wrap ((if (a.length:Int)<(b.length:Int) then (b.length:Int) else (a.length:Int))+1)).toNat 0),0,0)) fun d=>match d with|c=>Zd4 c)
def Zd5(a:(List Int)):Cq (List Int):=
 Cq.bind (Zci a) fun b=>Cq.ret b
def Zln(e:(List Int))(g:(List Int)):((List Int)×Int×Int)->Cq (List Int):=
 Cq.loop fun h=>match h with|(b,a,c)=>if c<(e.length:Int) then (Cq.at' e c fun f=>Cq.bind (Zc7 g c) fun d=>Cq.at' b c fun i=>Cq.ret (.inl ((b.set c.toNat (u32.wrap (Int.tmod (u64.wrap ((u64.wrap ((u64.wrap (4294967296+(u64.wrap f)))-d))-a)) 4294967296))),u64.wrap (1-(u64.wrap (Int.tdiv (u64.wrap ((u64.wrap ((u64.wrap (4294967296+(u64.wrap f)))-d))-a)) 4294967296))),i64.wrap (c+1)))) else (Cq.ret (.inr b))
def ZgG(a:(List Int))(c:(List Int)):Cq (List Int):=
 Cq.chk (0<=(a.length:Int)/\(a.length:Int)<=1000000) (Cq.next (Zln a c ((List.replicate (a.length:Int).toNat 0),0,0)) fun d=>match d with|b=>Zd5 b)
def Zgj(d:Zj)(e:Zj)(f:(List Int))(a:(List Int)):Cq (Zj×Zj×Int):=
 Cq.bind (ZaL (decide (¬ d.neg=e.neg)) f) fun b=>Cq.bind (ZaL false a) fun c=>Cq.ret (b,c,0)
def ZdI(c:Zj)(d:Zj)(b:(List Int)×(List Int))(a:Bool):Cq (Zj×Zj×Int):=
 if a=true then Cq.fail else (Zgj c d b.1 b.2)
def ZiY(b:Zj)(c:Zj):Cq (Zj×Zj×Int):=
 if (c.mag.length:Int)=0 then Cq.fail else (Cq.bind (ZeY b.mag c.mag) fun a=>if b.neg=true then (ZdI b c a (decide (0<(a.2.length:Int)))) else (ZdI b c a false))
def ZgI(b:Zj)(c:Zj):Cq Zj:=
 Cq.bind (ZiY b c) fun a=>Cq.ret a.1
def Zgk(d:Zj)(e:Zj)(a:Zj):Cq Ze:=
 Cq.bind (ZgI d a) fun b=>Cq.bind (ZgI e a) fun c=>Cq.ret (Ze.mk b c)
def ZfH(b:Zj)(a:Zj):Cq Ze:=
 Cq.bind (ZjK b a) fun c=>Cq.bind (ZfF a) fun d=>if d<0 then Cq.fail else (Zgk b a c)
def ZjM(a:Ze)(b:Ze):Cq Ze:=
 Cq.bind (ZdZ a.num b.num) fun c=>Cq.bind (ZdZ a.den b.den) fun d=>Cq.bind (ZfH c d) fun e=>Cq.ret e
def Zd9(a:(List Zb)):Cq ((List Zb)×Int):=
 Cq.ret (a,0)
def Zlr(g:Ze)(h:(Fin 8->Int))(f:(List Zb)):((List Zb)×Int)->Cq (((List Zb)×Int)⊕(List Zb)):=
 Cq.loop fun i=>match i with|(a,d)=>if d<(f.length:Int) then (Cq.at' f d fun j=>Cq.bind (ZjP h j.m) fun b=>if ¬ b.2=0 then Cq.fail else (Cq.at' f d fun k=>Cq.bind (ZjM g k.c) fun e=>Cq.chk ((a++[(Zb.mk e b.1)]).length<=small) (Cq.ret (.inl ((a++[(Zb.mk e b.1)]),i64.wrap (d+1)))))) else (Cq.ret (.inr (.inr a)))
def ZgL(b:Ze)(e:(Fin 8->Int))(f:(List Zb)):Cq ((List Zb)×Int):=
 Cq.bind (Zah b) fun c=>if c=0 then (Cq.ret ([],0)) else (Cq.next (Zlr b e f ([],0)) fun g=>match g with | .inl d=>Cq.ret d | .inr a=>Zd9 a)
def ZO(a:Int)(g:Int):Cq Zc:=
 Cq.bind (Zak 1) fun b=>Cq.bind (Zkm 0 g) fun c=>Cq.bind (Zak 1) fun d=>Cq.bind (ZgJ d) fun e=>Cq.bind (ZgL b c e) fun f=>Cq.ret (Zc.mk a f.1)
def ZbI(a:ByteArray)(c:(List Zc))(b:Int):Cq Za:=
 Cq.ret (Za.mk [a] c [] b)
def Zch(a:Int):Cq Bool:=
 if 48<=a then (if a<=57 then (Cq.ret true) else (Cq.ret (decide (a=95)))) else (Cq.ret (decide (a=95)))
def Zat:Cq Bool:=
 Cq.ret true
def ZK(c:ByteArray)(a:Nat)(b:Bool):Cq (Nat⊕(Bool⊕Unit)):=
 if b=true then (Cq.ret (.inl (a+(Utf8.decode c a).2))) else (if (a:Int)=0 then (Cq.ret (.inr (.inl false))) else (Cq.bind (Zch ((Utf8.decode c a).1:Int)) fun d=>if (!d)=true then (Cq.ret (.inr (.inl false))) else (Cq.ret (.inl (a+(Utf8.decode c a).2)))))
def ZiU(b:ByteArray):Nat->Cq (Bool⊕Unit):=
 Cq.loop fun c=>match c with|a=>if a<b.size then (if 65<=((Utf8.decode b a).1:Int) then (if ((Utf8.decode b a).1:Int)<=90 then (ZK b a true) else (if 97<=((Utf8.decode b a).1:Int) then (ZK b a (decide (((Utf8.decode b a).1:Int)<=122))) else (ZK b a false))) else (if 97<=((Utf8.decode b a).1:Int) then (ZK b a (decide (((Utf8.decode b a).1:Int)<=122))) else (ZK b a false))) else (Cq.ret (.inr (.inr ())))
def Zet(b:ByteArray):Cq Bool:=
 Cq.next (ZiU b 0) fun c=>match c with | .inl a=>Cq.ret a | .inr ()=>Zat
def Zcg(a:ByteArray):Cq Bool:=
 if (a.size:Int)<1 then (Cq.ret false) else (if 12<(a.size:Int) then (Cq.ret false) else (Zet a))
def ZdP(a:Zj):Cq Bool:=
 if (a.mag.length:Int)=0 then Cq.fail else (Cq.at' a.mag (i64.wrap ((a.mag.length:Int)-1)) fun b=>Cq.ret (decide (¬ b=0)))
def ZbF:Cq Int:=
 Cq.ret 0
def Zg6(b:(List Int))(c:(List Int)):Int->Cq (Int⊕Unit):=
 Cq.loop fun d=>match d with|a=>if 0<=a then (Cq.at' b a fun e=>Cq.at' c a fun f=>if ¬ e=f then (Cq.at' b a fun g=>Cq.at' c a fun h=>if g<h then (Cq.ret (.inr (.inl (-1)))) else (Cq.ret (.inr (.inl 1)))) else (Cq.ret (.inl (i64.wrap (a-1))))) else (Cq.ret (.inr (.inr ())))
def ZaB(a:(List Int))(b:(List Int)):Cq Int:=
 if ¬ (a.length:Int)=(b.length:Int) then (if (a.length:Int)<(b.length:Int) then (Cq.ret (-1)) else (Cq.ret 1)) else (Cq.next (Zg6 a b (i64.wrap ((a.length:Int)-1))) fun d=>match d with | .inl c=>Cq.ret c | .inr ()=>ZbF)
def ZdS(a:Ze):Cq Bool:=
 Cq.bind (Zan a.den) fun b=>match b with|false=>(Cq.bind (Zh4 a.num a.den) fun c=>Cq.bind (Zan c) fun d=>Cq.ret d)|true=>(Cq.ret true)
def Zb2(a:Ze):Cq Bool:=
 Cq.bind (ZdP a.num) fun b=>match b with|false=>(Cq.ret false)|true=>(Cq.bind (ZdP a.den) fun c=>match c with|false=>(Cq.ret false)|true=>(Cq.bind (ZbE a.den) fun d=>if d<=0 then Cq.fail else (ZdS a)))
def Zbp:Cq Bool:=
 Cq.ret true
def Zaw(c:(List Zb))(a:Int)(d:Zb):Cq (Int⊕(Bool⊕Unit)):=
 if 0<a then (Cq.at' c (i64.wrap (a-1)) fun e=>Cq.bind (ZbL e.m d.m) fun b=>if b<=0 then Cq.fail else (Cq.ret (.inl (i64.wrap (a+1))))) else (Cq.ret (.inl (i64.wrap (a+1))))
def ZgB(d:(List Zb)):Int->Cq (Bool⊕Unit):=
 Cq.loop fun h=>match h with|a=>if a<(d.length:Int) then (Cq.at' d a fun b=>Cq.bind (Zb2 b.c) fun e=>match e with|false=>(Cq.ret (.inr (.inl false)))|true=>(Cq.bind (Z7 b.c) fun f=>if f=0 then (Cq.ret (.inr (.inl false))) else (Cq.bind (Zb0 b.m) fun g=>if (!g)=true then Cq.fail else (Zaw d a b)))) else (Cq.ret (.inr (.inr ())))
def Zcr(b:(List Zb)):Cq Bool:=
 Cq.next (ZgB b 0) fun c=>match c with | .inl a=>Cq.ret a | .inr ()=>Zbp
def Zbi(a:Int):Cq Int:=
 Cq.ret a
def Zgx(c:(Fin 8->Int)):(Int×Int)->Cq Int:=
 Cq.loop fun d=>match d with|(b,a)=>if a<8 then (Cq.chk (0<=a/\a<8) (if 0<(getF c a) then (Cq.chk (0<=a) (Cq.ret (.inl (u8.wrap (BitVec.ofInt u8.bits b ||| BitVec.ofInt u8.bits (u8.wrap (1*2 ^ (min (a).toNat u8.bits)))).toNat,i64.wrap (a+1))))) else (Cq.ret (.inl (b,i64.wrap (a+1)))))) else (Cq.ret (.inr b))
def Zcp(a:(Fin 8->Int)):Cq Int:=
 Cq.next (Zgx a (0,0)) fun b=>match b with|c=>Zbi c
def ZbP(a:Int):Cq Int:=
 Cq.ret a
def Zhm(b:(List Zb)):(Int×Int)->Cq Int:=
 Cq.loop fun e=>match e with|(c,a)=>if a<(b.length:Int) then (Cq.at' b a fun f=>Cq.bind (Zcp f.m) fun d=>Cq.ret (.inl (u8.wrap (BitVec.ofInt u8.bits c ||| BitVec.ofInt u8.bits d).toNat,i64.wrap (a+1)))) else (Cq.ret (.inr c))
def Zbv(a:(List Zb)):Cq Int:=
 Cq.next (Zhm a (0,0)) fun b=>match b with|c=>ZbP c
def ZbM(a:Int):Cq Int:=
 Cq.ret a
def Zhd(c:(Fin 8->Int)):(Int×Int)->Cq Int:=
 Cq.loop fun d=>match d with|(b,a)=>if a<8 then (Cq.chk (0<=a/\a<8) (Cq.ret (.inl (i64.wrap (b+(getF c a)),i64.wrap (a+1))))) else (Cq.ret (.inr b))
def ZcW(a:(Fin 8->Int)):Cq Int:=
 Cq.next (Zhd a (0,0)) fun b=>match b with|c=>ZbM c
def Za2(a:Int):Cq Int:=
 Cq.ret a
def Zf7(d:(List Zb)):(Int×Int)->Cq Int:=
 Cq.loop fun e=>match e with|(c,a)=>if a<(d.length:Int) then (Cq.at' d a fun f=>Cq.bind (ZcW f.m) fun b=>Cq.ret (.inl (if c<b then b else c,i64.wrap (a+1)))) else (Cq.ret (.inr c))
def ZaR(a:(List Zb)):Cq Int:=
 Cq.next (Zf7 a ((-1),0)) fun b=>match b with|c=>Za2 c
def Zfn(a:(List Zb))(b:Int):Cq Bool:=
 Cq.bind (Zcr a) fun c=>match c with|false=>(Cq.ret false)|true=>(Cq.bind (Zbv a) fun d=>Cq.chk (0<=b) (if (Int.fdiv (i64.wrap d) (2 ^ (min (b).toNat i64.bits)))=0 then (Cq.bind (ZaR a) fun e=>Cq.ret (decide (e<=12))) else (Cq.ret false)))
def Zc1:Cq Bool:=
 Cq.ret true
def Zc2(a:Int)(b:(List (Int×Bool))):Cq ((Int×(List (Int×Bool)))⊕(Bool⊕Unit)):=
 Cq.ret (.inl (i64.wrap (a+1),b))
def Zbw(d:Za)(a:Int)(c:(List (Int×Bool)))(b:Zc):Cq ((Int×(List (Int×Bool)))⊕(Bool⊕((List (Int×Bool))))):=
 Cq.chk (((Lit.int i64 b.id).wf=true)/\(mput c b.id true).length<=small) (Cq.bind (Zfn b.p (d.vars.length:Int)) fun e=>if (!e)=true then (Cq.ret (.inr (.inl false))) else (Cq.ret (.inl (i64.wrap (a+1),(mput c b.id true)))))
def ZeR(b:Za)(e:(List Zc)):(Int×(List (Int×Bool)))->Cq (Bool⊕((List (Int×Bool)))):=
 Cq.loop fun f=>match f with|(a,d)=>if a<(e.length:Int) then (Cq.at' e a fun c=>if c.id<1 then (Cq.ret (.inr (.inl false))) else (if b.next<=c.id then (Cq.ret (.inr (.inl false))) else (Cq.chk ((Lit.int i64 c.id).wf=true) (if ((mget d c.id).getD false)=true then (Cq.ret (.inr (.inl false))) else (if 0<a then (Cq.at' e (i64.wrap (a-1)) fun g=>if c.id<=g.id then (Cq.ret (.inr (.inl false))) else (Zbw b a d c)) else (Zbw b a d c)))))) else (Cq.ret (.inr (.inr d)))
def ZjE(a:Za):(Int×(List (Int×Bool)))->Cq (Bool⊕Unit):=
 Cq.loop fun g=>match g with|(b,c)=>if b<([a.eqs,a.neqs].length:Int) then (Cq.at' [a.eqs,a.neqs] b fun d=>if 12<(d.length:Int) then (Cq.ret (.inr (.inl false))) else (Cq.next (ZeR a d (0,c)) fun h=>match h with | .inl e=>Cq.ret (.inr (.inl e)) | .inr f=>Zc2 b f)) else (Cq.ret (.inr (.inr ())))
def Zbx(a:Za):Cq Bool:=
 Cq.next (ZjE a (0,[])) fun c=>match c with | .inl b=>Cq.ret b | .inr ()=>Zc1
def ZjF(c:Za):(Int×(List (ByteArray×Bool)))->Cq (Bool⊕Unit):=
 Cq.loop fun f=>match f with|(a,d)=>if a<(c.vars.length:Int) then (Cq.at' c.vars a fun b=>Cq.bind (Zcg b) fun e=>match e with|false=>(Cq.ret (.inr (.inl false)))|true=>(Cq.chk (b.size<=1000000) (if ((mget d b).getD false)=true then (Cq.ret (.inr (.inl false))) else (Cq.chk ((b.size<=1000000)/\(mput d b true).length<=small) (Cq.ret (.inl (i64.wrap (a+1),(mput d b true)))))))) else (Cq.ret (.inr (.inr ())))
def ZeS(a:Za):Cq Bool:=
 Cq.next (ZjF a (0,[])) fun c=>match c with | .inl b=>Cq.ret b | .inr ()=>Zbx a
def Zas(a:Za):Cq Bool:=
 if 4<(a.vars.length:Int) then (Cq.ret false) else (if a.next<1 then (Cq.ret false) else (if 1000000<a.next then (Cq.ret false) else (ZeS a)))
def Zh3(b:Zj)(c:Zj):Cq Int:=
 Cq.bind (ZbE b) fun a=>Cq.bind (ZbE c) fun d=>if ¬ a=d then Cq.fail else (if a<0 then (Cq.bind (ZaB c.mag b.mag) fun e=>Cq.ret e) else (Cq.bind (ZaB b.mag c.mag) fun f=>Cq.ret f))
def ZbQ(c:Ze)(d:Ze):Cq Int:=
 Cq.bind (Z7 c) fun a=>Cq.bind (Z7 d) fun b=>if ¬ a=b then (if a<b then (Cq.ret (-1)) else (Cq.ret 1)) else (Cq.bind (ZH [c.num,d.den]) fun e=>Cq.bind (ZH [d.num,c.den]) fun f=>Cq.bind (Zh3 e f) fun g=>Cq.ret g)
def ZaH(a:Zb)(b:Zb):Cq Bool:=
 if a.m=b.m then (Cq.bind (ZbQ a.c b.c) fun d=>Cq.ret (decide (d=0))) else (Cq.ret false)
def Zu:Cq Bool:=
 Cq.ret true
def ZQ(b:(List Zb))(c:(List Zb)):Int->Cq (Bool⊕Unit):=
 Cq.loop fun e=>match e with|a=>if a<(b.length:Int) then (Cq.at' b a fun f=>Cq.at' c a fun g=>Cq.bind (ZaH f g) fun d=>if (!d)=true then (Cq.ret (.inr (.inl false))) else (Cq.ret (.inl (i64.wrap (a+1))))) else (Cq.ret (.inr (.inr ())))
def Zw(a:(List Zb))(b:(List Zb)):Cq Bool:=
 if ¬ (a.length:Int)=(b.length:Int) then (Cq.ret false) else (Cq.next (ZQ a b 0) fun d=>match d with | .inl c=>Cq.ret c | .inr ()=>Zu)
def ZaG(b:(List Zb))(c:(List Zb)):Cq Bool:=
 Cq.bind (Zw b c) fun a=>Cq.ret a
def Zb3(a:Zc)(b:Zc):Cq Bool:=
 if a.id=b.id then (Cq.bind (ZaG a.p b.p) fun c=>Cq.ret c) else (Cq.ret false)
def Z8:Cq Bool:=
 Cq.ret true
def Zc3(b:(List ByteArray))(c:(List ByteArray)):Int->Cq (Bool⊕Unit):=
 Cq.loop fun d=>match d with|a=>if a<(b.length:Int) then (Cq.at' b a fun e=>Cq.at' c a fun f=>if ¬ e=f then (Cq.ret (.inr (.inl false))) else (Cq.ret (.inl (i64.wrap (a+1))))) else (Cq.ret (.inr (.inr ())))
def ZM(a:(List ByteArray))(b:(List ByteArray)):Cq Bool:=
 if ¬ (a.length:Int)=(b.length:Int) then (Cq.ret false) else (Cq.next (Zc3 a b 0) fun d=>match d with | .inl c=>Cq.ret c | .inr ()=>Z8)
def Zt:Cq Bool:=
 Cq.ret true
def ZI(b:(List Zc))(c:(List Zc)):Int->Cq (Bool⊕Unit):=
 Cq.loop fun e=>match e with|a=>if a<(b.length:Int) then (Cq.at' b a fun f=>Cq.at' c a fun g=>Cq.bind (Zb3 f g) fun d=>if (!d)=true then (Cq.ret (.inr (.inl false))) else (Cq.ret (.inl (i64.wrap (a+1))))) else (Cq.ret (.inr (.inr ())))
def Zo(a:(List Zc))(b:(List Zc)):Cq Bool:=
 if ¬ (a.length:Int)=(b.length:Int) then (Cq.ret false) else (Cq.next (ZI a b 0) fun d=>match d with | .inl c=>Cq.ret c | .inr ()=>Zt)
def Zbe(a:Za)(b:Za):Cq Bool:=
 if a.next=b.next then (Cq.bind (ZM a.vars b.vars) fun c=>match c with|false=>(Cq.ret false)|true=>(Cq.bind (Zo a.eqs b.eqs) fun d=>match d with|false=>(Cq.ret false)|true=>(Cq.bind (Zo a.neqs b.neqs) fun e=>Cq.ret e))) else (Cq.ret false)
def Z9:Cq Int:=
 Cq.ret (-1)
def Zc4(b:(List ByteArray))(c:ByteArray):Int->Cq (Int⊕Unit):=
 Cq.loop fun d=>match d with|a=>if a<(b.length:Int) then (Cq.at' b a fun e=>if c=e then (Cq.ret (.inr (.inl a))) else (Cq.ret (.inl (i64.wrap (a+1))))) else (Cq.ret (.inr (.inr ())))
def Z0(b:(List ByteArray))(c:ByteArray):Cq Int:=
 Cq.next (Zc4 b c 0) fun d=>match d with | .inl a=>Cq.ret a | .inr ()=>Z9
def ZB(b:(List ByteArray))(c:ByteArray):Cq Bool:=
 Cq.bind (Z0 b c) fun a=>Cq.ret (decide (0<=a))
def ZbK(a:(List ByteArray)):Cq (List ByteArray):=
 Cq.ret a
def Zhb(c:(List ByteArray))(h:(List ByteArray))(e:(List ByteArray)):((List ByteArray)×Int)->Cq (List ByteArray):=
 Cq.loop fun i=>match i with|(b,a)=>if a<(e.length:Int) then (Cq.at' e a fun d=>Cq.bind (ZB h d) fun f=>match f with|false=>(Cq.bind (ZB c d) fun g=>if (!g)=true then (Cq.chk ((b++[d]).length<=small) (Cq.ret (.inl ((b++[d]),i64.wrap (a+1))))) else (Cq.ret (.inl (b,i64.wrap (a+1)))))|true=>(Cq.ret (.inl (b,i64.wrap (a+1))))) else (Cq.ret (.inr b))
def ZaF(a:(List ByteArray))(b:(List ByteArray))(c:(List ByteArray))(d:(List ByteArray)):Cq (List ByteArray):=
 Cq.next (Zhb a b c (d,0)) fun e=>match e with|f=>ZbK f
def Zhc(d:(List ByteArray))(e:(List ByteArray))(h:(List ByteArray)):((List ByteArray)×Int)->Cq (List ByteArray):=
 Cq.loop fun i=>match i with|(b,a)=>if a<(e.length:Int) then (Cq.at' e a fun c=>Cq.bind (ZB d c) fun f=>match f with|false=>(Cq.chk ((b++[c]).length<=small) (Cq.ret (.inl ((b++[c]),i64.wrap (a+1)))))|true=>(Cq.bind (ZB h c) fun g=>if g=true then (Cq.chk ((b++[c]).length<=small) (Cq.ret (.inl ((b++[c]),i64.wrap (a+1))))) else (Cq.ret (.inl (b,i64.wrap (a+1)))))) else (Cq.ret (.inr b))
def ZcU(a:(List ByteArray))(b:(List ByteArray))(c:(List ByteArray)):Cq (List ByteArray):=
 Cq.bind (ZM b a) fun d=>if d=true then (Cq.ret c) else (Cq.next (Zhc a b c ([],0)) fun e=>match e with|f=>ZaF a b c f)
def Zcm(a:(List (Int×Zi))):Cq ((List (Int×Zi))):=
 Cq.ret a
def ZiD(d:Za):(Int×(List (Int×Zi)))->Cq (((List (Int×Zi)))):=
 Cq.loop fun e=>match e with|(a,b)=>if a<(d.neqs.length:Int) then (Cq.at' d.neqs a fun c=>Cq.chk (((Lit.int i64 c.id).wf=true)/\(mput b c.id (Zi.mk c.p true)).length<=small) (Cq.ret (.inl (i64.wrap (a+1),(mput b c.id (Zi.mk c.p true)))))) else (Cq.ret (.inr b))
def Za1(c:Za)(a:(List (Int×Zi))):Cq ((List (Int×Zi))):=
 Cq.next (ZiD c (0,a)) fun d=>match d with|b=>Zcm b
def ZiE(d:Za):(Int×(List (Int×Zi)))->Cq (((List (Int×Zi)))):=
 Cq.loop fun e=>match e with|(a,b)=>if a<(d.eqs.length:Int) then (Cq.at' d.eqs a fun c=>Cq.chk (((Lit.int i64 c.id).wf=true)/\(mput b c.id (Zi.mk c.p false)).length<=small) (Cq.ret (.inl (i64.wrap (a+1),(mput b c.id (Zi.mk c.p false)))))) else (Cq.ret (.inr b))
def Zai(a:Za):Cq ((List (Int×Zi))):=
 Cq.next (ZiE a (0,[])) fun c=>match c with|b=>Za1 a b
def Zx(a:(List (Int×Zi))):Cq ((List (Int×Zi))):=
 Cq.ret a
def ZU:((List (Int×Zi))×List (Int×Zi))->Cq (((List (Int×Zi)))):=
 Cq.loop fun c=>match c with|(a,R1)=>Cq.pick R1 (Cq.ret (.inr a)) fun b R2=>Cq.chk (((Lit.int i64 b.1).wf=true)/\(mput a b.1 b.2).length<=small) (Cq.ret (.inl ((mput a b.1 b.2),R2)))
def Zq(a:(List (Int×Zi)))(b:(List (Int×Zi))):Cq ((List (Int×Zi))):=
 Cq.next (ZU (a,b)) fun d=>match d with|c=>Zx c
def _eliminant_merge_translation_missing_k1(a:(List ByteArray)):Cq (List ByteArray):=
 Cq.ret a
def _eliminant_merge_translation_missing_L2(c:ZJ)(g:(List Zb)):((List ByteArray)×Int)->Cq (List ByteArray):=
 Cq.loop fun h=>match h with|(b,a)=>if a<(c.from'.length:Int) then (Cq.at' c.from' a fun d=>Cq.bind (Zbv g) fun e=>Cq.chk (0<=a) (if ¬ (u8.wrap (BitVec.ofInt u8.bits e &&& BitVec.ofInt u8.bits (u8.wrap (1*2 ^ (min (a).toNat u8.bits)))).toNat)=0 then (Cq.bind (ZB c.to' d) fun f=>if (!f)=true then (Cq.chk ((b++[d]).length<=small) (Cq.ret (.inl ((b++[d]),i64.wrap (a+1))))) else (Cq.ret (.inl (b,i64.wrap (a+1))))) else (Cq.ret (.inl (b,i64.wrap (a+1)))))) else (Cq.ret (.inr b))
def _eliminant_merge_translation_missing(a:ZJ)(b:(List Zb)):Cq (List ByteArray):=
 Cq.next (_eliminant_merge_translation_missing_L2 a b ([],0)) fun c=>match c with|d=>_eliminant_merge_translation_missing_k1 d
def Zfx(b:Zj):Cq Ze:=
 Cq.bind (ZdV 1) fun a=>Cq.ret (Ze.mk b a)
def ZaV(c:Int):Cq Ze:=
 Cq.bind (ZdV c) fun a=>Cq.bind (Zfx a) fun b=>Cq.ret b
def Zb1(a:Int):Cq ((List Zb)×Int):=
 if a<0 then (Cq.ret ([],1)) else (if 8<=a then Cq.fail else (Cq.chk (0<=a/\a<8) (Cq.bind (ZaV 1) fun b=>Cq.ret ([(Zb.mk b (setF (fun _=>0) a.toNat 1))],0))))
def ZcX(a:(Fin 8->Int)):Cq (Fin 8->Int):=
 Cq.ret a
def Zjr(c:(Fin 8->Int)):(Int×(Fin 8->Int))->Cq (Fin 8->Int):=
 Cq.loop fun d=>match d with|(a,b)=>if a<8 then (Cq.chk (0<=a/\a<8) (Cq.chk (0<=a/\a<8) (Cq.chk (0<=a/\a<8) (Cq.ret (.inl (i64.wrap (a+1),setF b a.toNat (if (getF b a)<(getF c a) then (getF c a) else (getF b a)))))))) else (Cq.ret (.inr b))
def Zhe(b:(Fin 8->Int))(c:(Fin 8->Int)):Cq (Fin 8->Int):=
 Cq.next (Zjr c (0,b)) fun d=>match d with|a=>ZcX a
def ZaU(a:(Fin 8->Int)):Cq (Fin 8->Int):=
 Cq.ret a
def Zfw(c:(List Zb)):(Int×(Fin 8->Int))->Cq (Fin 8->Int):=
 Cq.loop fun e=>match e with|(a,b)=>if a<(c.length:Int) then (Cq.at' c a fun f=>Cq.bind (Zhe b f.m) fun d=>Cq.ret (.inl (i64.wrap (a+1),d))) else (Cq.ret (.inr b))
def ZaJ(b:(List Zb)):Cq (Fin 8->Int):=
 Cq.next (Zfw b (0,(fun _=>0))) fun c=>match c with|a=>ZaU a
def ZaQ:Cq Bool:=
 Cq.ret false
def Zfl(b:(Fin 8->Int))(c:(List (List Zb))):Int->Cq (Bool⊕Unit):=
 Cq.loop fun d=>match d with|a=>if a<8 then (Cq.chk (0<=a/\a<8) (if 0<(getF b a) then (Cq.at' c a fun e=>if (e.length:Int)=0 then Cq.fail else (Cq.ret (.inl (i64.wrap (a+1))))) else (Cq.ret (.inl (i64.wrap (a+1)))))) else (Cq.ret (.inr (.inr ())))
def Zax(b:(Fin 8->Int))(c:(List (List Zb))):Cq Bool:=
 Cq.next (Zfl b c 0) fun d=>match d with | .inl a=>Cq.ret a | .inr ()=>ZaQ
def Za4:Cq Bool:=
 Cq.ret false
def Za5(a:Int)(b:Int):Cq (Int⊕(Bool⊕Unit)):=
 if 65535<b then Cq.fail else (Cq.ret (.inl (i64.wrap (a+1))))
def Zgb(e:(Fin 8->Int))(c:(Fin 64->Int))(b:Int):(Int×Int)->Cq Int:=
 Cq.loop fun f=>match f with|(d,a)=>if a<8 then (Cq.chk (0<=a/\a<8) (Cq.chk (0<=a/\a<8) (Cq.chk (0<=b/\b<8) (Cq.ret (.inl (i64.wrap (d+(i64.wrap ((getF e a)*(getF c (a*8+b))))),i64.wrap (a+1))))))) else (Cq.ret (.inr d))
def Zga(d:(Fin 8->Int))(b:(Fin 64->Int)):Int->Cq (Bool⊕Unit):=
 Cq.loop fun e=>match e with|a=>if a<8 then (Cq.next (Zgb d b a (0,0)) fun f=>match f with|c=>Za5 a c) else (Cq.ret (.inr (.inr ())))
def Zb9(c:(Fin 8->Int))(a:(Fin 64->Int)):Cq Bool:=
 Cq.next (Zga c a 0) fun d=>match d with | .inl b=>Cq.ret b | .inr ()=>Za4
def Zdi(c:(List Int))(b:(List Int))(a:Int):Cq (List Int):=
 Cq.at' b (c.length:Int) fun e=>Cq.bind (ZW (b.set (c.length:Int).toNat (u32.wrap a))) fun d=>Cq.ret d
def ZbX(b:(List Int))(a:Int)(c:Int):Cq (((List Int)×Int×Int)⊕(((List Int)×Int))):=
 Cq.at' b a fun d=>Cq.ret (.inl ((b.set a.toNat (u32.wrap c)),Int.fdiv c (2 ^ (min (32:Int).toNat u64.bits)),i64.wrap (a+1)))
def Zfu(d:(List Int))(e:(List Int)):((List Int)×Int×Int)->Cq (((List Int)×Int)):=
 Cq.loop fun g=>match g with|(c,b,a)=>if a<(d.length:Int) then (Cq.at' d a fun f=>if a<(e.length:Int) then (Cq.at' e a fun h=>ZbX c a (u64.wrap ((u64.wrap ((u64.wrap f)+b))+(u64.wrap h)))) else (ZbX c a (u64.wrap ((u64.wrap f)+b)))) else (Cq.ret (.inr (c,b)))
def Zdj(a:(List Int))(d:(List Int)):Cq (List Int):=
 Cq.chk (0<=i64.wrap ((a.length:Int)+1)/\(i64.wrap ((a.length:Int)+1))<=1000000) (Cq.next (Zfu a d ((List.replicate (i64.wrap ((a.length:Int)+1)).toNat 0),0,0)) fun e=>match e with|(c,b)=>Zdi a c b)
def Zfh(a:(List Int))(b:(List Int)):Cq (List Int):=
 if (a.length:Int)<(b.length:Int) then (Zdj b a) else (Zdj a b)
def ZaT(a:(List Int)):Cq (List Int):=
 Cq.bind (ZW a) fun b=>Cq.ret b
def Zag(b:(List Int))(a:Int)(c:Int):Cq (((List Int)×Int×Int)⊕(List Int)):=
 Cq.at' b a fun d=>Cq.ret (.inl ((b.set a.toNat (u32.wrap c)),Int.fdiv c (2 ^ (min (63:Int).toNat u64.bits)),i64.wrap (a+1)))
def ZcA(d:(List Int))(e:(List Int)):((List Int)×Int×Int)->Cq (List Int):=
 Cq.loop fun g=>match g with|(c,b,a)=>if a<(d.length:Int) then (Cq.at' d a fun f=>if a<(e.length:Int) then (Cq.at' e a fun h=>Zag c a (u64.wrap ((u64.wrap ((u64.wrap f)-b))-(u64.wrap h)))) else (Zag c a (u64.wrap ((u64.wrap f)-b)))) else (Cq.ret (.inr c))
def ZaC(a:(List Int))(c:(List Int)):Cq (List Int):=
 Cq.chk (0<=(a.length:Int)/\(a.length:Int)<=1000000) (Cq.next (ZcA a c ((List.replicate (a.length:Int).toNat 0),0,0)) fun d=>match d with|b=>ZaT b)
def Zbc(a:Zj)(b:Zj):Cq Zj:=
 if a.neg=b.neg then (Cq.bind (Zfh a.mag b.mag) fun c=>Cq.bind (ZN a.neg c) fun d=>Cq.ret d) else (Cq.bind (ZaB a.mag b.mag) fun e=>if 0<=e then (Cq.bind (ZaC a.mag b.mag) fun f=>Cq.bind (ZN a.neg f) fun g=>Cq.ret g) else (Cq.bind (ZaC b.mag a.mag) fun h=>Cq.bind (ZN b.neg h) fun i=>Cq.ret i))
def Zer(a:Ze)(b:Ze):Cq Ze:=
 Cq.bind (ZH [a.num,b.den]) fun c=>Cq.bind (ZH [b.num,a.den]) fun d=>Cq.bind (Zbc c d) fun e=>Cq.bind (ZH [a.den,b.den]) fun f=>Cq.bind (ZaK e f) fun g=>Cq.ret g
def Zbj(a:Ze):Cq (List Zb):=
 Cq.bind (Z7 a) fun b=>if b=0 then Cq.fail else (Cq.ret [(Zb.mk a (fun _=>0))])
def Zbk(a:(List ((Fin 8->Int)×Ze))):Cq ((List Zb)×Int):=
 Cq.bind (ZaS a) fun b=>Cq.ret (b,0)
def Zbl(a:Int)(b:(List ((Fin 8->Int)×Ze))):Cq ((Int×(List ((Fin 8->Int)×Ze)))⊕(((List ((Fin 8->Int)×Ze))))):=
 Cq.ret (.inl (i64.wrap (a+1),b))
def Zgz(b:(List Zb)):(Int×(List ((Fin 8->Int)×Ze)))->Cq (((List ((Fin 8->Int)×Ze)))):=
 Cq.loop fun g=>match g with|(a,d)=>if a<(b.length:Int) then (Cq.at' b a fun e=>Cq.bind (ZaI d e.c e.m) fun f=>Cq.ret (.inl (i64.wrap (a+1),f))) else (Cq.ret (.inr d))
def Zbm(a:Int)(c:(List ((Fin 8->Int)×Ze)))(b:(List Zb)):Cq ((Int×(List ((Fin 8->Int)×Ze)))⊕(((List ((Fin 8->Int)×Ze))))):=
 Cq.next (Zgz b (0,c)) fun e=>match e with|d=>Zbl a d
def Zc5(W1:Nat->Nat->(List Zb))(c:Zb):((List Zb)×Int)->Cq (List Zb):=
 Cq.loop fun e=>match e with|(b,a)=>if a<8 then (Cq.chk (0<=a/\a<8) (if 0<(getF c.m a) then (Cq.chk ((0<=a/\a<8)/\1<=(getF c.m a)/\(getF c.m a)<=64) (Cq.bind (Zab b (W1 a.toNat (getF c.m a).toNat)) fun d=>Cq.ret (.inl (d.1,i64.wrap (a+1))))) else (Cq.ret (.inl (b,i64.wrap (a+1)))))) else (Cq.ret (.inr b))
def Zgy(b:(List Zb))(f:(List (List Zb)))(W1:Nat->Nat->(List Zb)):(Int×(List ((Fin 8->Int)×Ze)))->Cq (((List ((Fin 8->Int)×Ze)))):=
 Cq.loop fun j=>match j with|(a,d)=>if a<(b.length:Int) then (Cq.at' b a fun g=>Cq.bind (Zax g.m f) fun h=>if h=true then (Cq.ret (.inl (i64.wrap (a+1),d))) else (Cq.bind (Zbj g.c) fun i=>Cq.next (Zc5 W1 g (i,0)) fun k=>match k with|e=>Zbm a d e)) else (Cq.ret (.inr d))
def Zbn(b:(List Zb))(a:(List (List Zb))):Cq ((List Zb)×Int):=
 Cq.given (PowOk Zab a) fun W1=>Cq.next (Zgy b a W1 (0,[])) fun d=>match d with|c=>Zbk c
def ZgA(b:(List Zb))(c:(List (List Zb)))(e:(Fin 64->Int)):Int->Cq (((List Zb)×Int)⊕Unit):=
 Cq.loop fun h=>match h with|a=>if a<(b.length:Int) then (Cq.at' b a fun f=>Cq.bind (Zax f.m c) fun g=>match g with|false=>(Cq.bind (Zb9 f.m e) fun d=>if d=true then Cq.fail else (Cq.ret (.inl (i64.wrap (a+1)))))|true=>(Cq.ret (.inl (i64.wrap (a+1))))) else (Cq.ret (.inr (.inr ())))
def Zbo(a:(List Zb))(b:(List (List Zb)))(c:(Fin 64->Int)):Cq ((List Zb)×Int):=
 Cq.next (ZgA a b c 0) fun e=>match e with | .inl d=>Cq.ret d | .inr ()=>Zbn a b
def ZcZ(c:(List (List Zb))):(Int×(Fin 64->Int))->Cq (Fin 64->Int):=
 Cq.loop fun e=>match e with|(a,b)=>if a<8 then (Cq.at' c a fun f=>Cq.bind (ZaJ f) fun d=>Cq.chk (0<=a/\a<8) (Cq.ret (.inl (i64.wrap (a+1),setB 8 b a d)))) else (Cq.ret (.inr b))
def Zcq(a:(List Zb))(b:(List (List Zb))):Cq ((List Zb)×Int):=
 Cq.bind (ZaR a) fun c=>if 64<c then Cq.fail else (Cq.next (ZcZ b (0,(fun _=>0))) fun e=>match e with|d=>Zbo a b d)
def _eliminant_merge_translation_translate_k1(c:(List Zb))(b:(List (List Zb))):Cq ((List Zb)×Bool):=
 Cq.bind (Zcq c b) fun a=>Cq.ret (a.1,decide (a.2=0))
def _eliminant_merge_translation_translate_L2(d:ZJ):(Int×(List (List Zb)))->Cq (((List (List Zb)))):=
 Cq.loop fun f=>match f with|(a,b)=>if a<(d.from'.length:Int) then (Cq.at' d.from' a fun g=>Cq.bind (Z0 d.to' g) fun c=>if 0<=c then (Cq.bind (Zb1 c) fun e=>Cq.at' b a fun h=>Cq.ret (.inl (i64.wrap (a+1),b.set a.toNat e.1))) else (Cq.ret (.inl (i64.wrap (a+1),b)))) else (Cq.ret (.inr b))
def _eliminant_merge_translation_translate(a:ZJ)(b:(List Zb)):Cq ((List Zb)×Bool):=
 Cq.bind (_eliminant_merge_translation_missing a b) fun c=>if 0<(c.length:Int) then (Cq.ret ([],false)) else (Cq.next (_eliminant_merge_translation_translate_L2 a (0,(List.replicate 8 []))) fun e=>match e with|d=>_eliminant_merge_translation_translate_k1 b d)
def Zcd(b:Za)(c:Za)(d:Zi)(e:Zi):Cq Bool:=
 Cq.bind (_eliminant_merge_translation_translate (ZJ.mk b.vars c.vars) d.p) fun a=>if d.neq=e.neq then (if a.2=true then (Cq.bind (ZaG a.1 e.p) fun f=>Cq.ret f) else (Cq.ret false)) else (Cq.ret false)
def Zaa(d:Za)(b:(List (Int×Zi)))(e:Za)(c:(List (Int×Zi)))(a:Int):Cq Bool:=
 Cq.chk ((Lit.int i64 a).wf=true) (Cq.bind (Cq.ret ((mget b a).getD (Zi.mk [] false))) fun f=>Cq.chk ((Lit.int i64 a).wf=true) (Cq.bind (Cq.ret ((mget c a).getD (Zi.mk [] false))) fun g=>if ((mget b a).isSome)=true then (if (!((mget c a).isSome))=true then (Cq.ret (decide (((mget b a).isSome)=((mget c a).isSome)))) else (Zcd d e f g)) else (Cq.ret (decide (((mget b a).isSome)=((mget c a).isSome))))))
def Zbh(a:(List Zg))(b:(List Zk)):Cq ((List Zg)×(List Zk)):=
 Cq.ret (a,b)
def Zgw(h:Za)(e:Za)(g:Za)(j:(List (Int×Zi)))(f:(List (Int×Zi)))(i:(List (Int×Zi)))(k:List Int):((List Zg)×(List Zk)×Int)->Cq (((List Zg)×(List Zk))):=
 Cq.loop fun r=>match r with|(a,b,c)=>if c<(k.length:Int) then (Cq.at' k c fun d=>if h.next<=d then (Cq.ret (.inr (a,b))) else (Cq.bind (Zaa e f h j d) fun m=>if m=true then (Cq.chk ((Lit.int i64 d).wf=true) (Cq.bind (Cq.ret ((mget i d).getD (Zi.mk [] false))) fun n=>if ((mget i d).isSome)=true then (Cq.chk ((a++[(Zg.mk d n g)]).length<=small) (Cq.ret (.inl ((a++[(Zg.mk d n g)]),b,i64.wrap (c+1))))) else (Cq.ret (.inl (a,b,i64.wrap (c+1)))))) else (Cq.bind (Zaa g i h j d) fun l=>if l=true then (if l=true then (Cq.chk ((Lit.int i64 d).wf=true) (Cq.bind (Cq.ret ((mget f d).getD (Zi.mk [] false))) fun o=>if ((mget f d).isSome)=true then (Cq.chk ((a++[(Zg.mk d o e)]).length<=small) (Cq.ret (.inl ((a++[(Zg.mk d o e)]),b,i64.wrap (c+1))))) else (Cq.ret (.inl (a,b,i64.wrap (c+1)))))) else (Cq.chk ((b++[(Zk.mk d ByteArray.empty)]).length<=small) (Cq.ret (.inl (a,(b++[(Zk.mk d ByteArray.empty)]),i64.wrap (c+1)))))) else (Cq.bind (Zaa e f g i d) fun p=>if p=true then (Cq.chk ((Lit.int i64 d).wf=true) (Cq.bind (Cq.ret ((mget f d).getD (Zi.mk [] false))) fun q=>if ((mget f d).isSome)=true then (Cq.chk ((a++[(Zg.mk d q e)]).length<=small) (Cq.ret (.inl ((a++[(Zg.mk d q e)]),b,i64.wrap (c+1))))) else (Cq.ret (.inl (a,b,i64.wrap (c+1)))))) else (Cq.chk ((b++[(Zk.mk d ByteArray.empty)]).length<=small) (Cq.ret (.inl (a,(b++[(Zk.mk d ByteArray.empty)]),i64.wrap (c+1))))))))) else (Cq.ret (.inr (a,b)))
def Zco(a:Za)(b:Za)(c:Za):Cq ((List Zg)×(List Zk)):=
 Cq.bind (Zai a) fun f=>Cq.bind (Zai b) fun g=>Cq.bind (Zai c) fun h=>Cq.next (Zq [] f) fun j=>Cq.next (Zq j g) fun k=>Cq.next (Zq k h) fun l=>Cq.any (fun i:List Int=>i.Perm (l.map (·.1))) fun i=>Cq.bind (ZV i) fun m=>Cq.next (Zgw a b c f g h m ([],[],0)) fun n=>match n with|(d,e)=>Zbh d e
def Zbg(b:(List Zg))(a:Int):Cq ((List Zg)×Int):=
 Cq.ret (b,a)
def Zgu(f:Za)(d:Za)(h:(List (Int×Zi)))(e:List Int):((List Zg)×Int×Int)->Cq (((List Zg)×Int)):=
 Cq.loop fun j=>match j with|(c,a,b)=>if b<(e.length:Int) then (Cq.at' e b fun g=>if f.next<=g then (Cq.chk ((Lit.int i64 g).wf=true) (Cq.bind (Cq.ret ((mget h g).getD (Zi.mk [] false))) fun i=>Cq.chk ((c++[(Zg.mk a i d)]).length<=small) (Cq.ret (.inl ((c++[(Zg.mk a i d)]),i64.wrap (a+1),i64.wrap (b+1)))))) else (Cq.ret (.inl (c,a,i64.wrap (b+1))))) else (Cq.ret (.inr (c,a)))
def Zav(a:Za)(b:Za)(e:Za)(d:(List (Int×Zi)))(f:(List Zg)):Cq ((List Zg)×Int):=
 Cq.any (fun g:List Int=>g.Perm (d.map (·.1))) fun g=>Cq.bind (ZV g) fun i=>Cq.next (Zgu a e d i (f,if b.next<a.next then a.next else b.next,0)) fun j=>match j with|(h,c)=>Zbg h c
def Zgv(f:Za)(c:Za)(g:(List (Int×Zi)))(e:List Int):((List Zg)×Int)->Cq (List Zg):=
 Cq.loop fun i=>match i with|(b,a)=>if a<(e.length:Int) then (Cq.at' e a fun d=>if f.next<=d then (Cq.chk ((Lit.int i64 d).wf=true) (Cq.bind (Cq.ret ((mget g d).getD (Zi.mk [] false))) fun h=>Cq.chk ((b++[(Zg.mk d h c)]).length<=small) (Cq.ret (.inl ((b++[(Zg.mk d h c)]),i64.wrap (a+1)))))) else (Cq.ret (.inl (b,i64.wrap (a+1))))) else (Cq.ret (.inr b))
def Zcn(b:Za)(a:Za)(c:Za):Cq ((List Zg)×Int):=
 Cq.bind (Zai a) fun d=>Cq.bind (Zai c) fun g=>Cq.any (fun e:List Int=>e.Perm (d.map (·.1))) fun e=>Cq.bind (ZV e) fun h=>Cq.next (Zgv b a d h ([],0)) fun i=>match i with|f=>Zav b a c g f
def Zdl(g:(List ByteArray))(f:(List Zg)×(List Zk))(h:(List Zg)×Int)(d:(List ByteArray))(c:(List Zc))(a:(List Zc))(e:Int)(b:(List Zk)):Cq (Za×(List Zk)×Int):=
 Cq.chk ((b++f.2).length<=small) (if 0<((b++f.2).length:Int) then (Cq.ret ((Za.mk [] [] [] 0),(b++f.2),350)) else (if 4<(g.length:Int) then (Cq.ret ((Za.mk [] [] [] 0),[],2)) else (if 12<(c.length:Int) then (Cq.ret ((Za.mk [] [] [] 0),[],2)) else (if 12<(a.length:Int) then (Cq.ret ((Za.mk [] [] [] 0),[],2)) else (if 1000000<h.2 then (Cq.ret ((Za.mk [] [] [] 0),[],2)) else (Cq.ret ((Za.mk d c a e),[],0)))))))
def Zj6(c:List ByteArray):((List Zk)×Int)->Cq (List Zk):=
 Cq.loop fun e=>match e with|(b,a)=>if a<(c.length:Int) then (Cq.at' c a fun d=>Cq.chk ((b++[(Zk.mk 0 d)]).length<=small) (Cq.ret (.inl ((b++[(Zk.mk 0 d)]),i64.wrap (a+1))))) else (Cq.ret (.inr b))
def ZbY(g:(List ByteArray))(h:(List Zg)×(List Zk))(i:(List Zg)×Int)(a:(List ByteArray))(d:(List Zc))(b:(List Zc))(c:Int)(j:(List (ByteArray×Bool))):Cq (Za×(List Zk)×Int):=
 Cq.any (fun f:List ByteArray=>f.Perm (j.map (·.1))) fun f=>Cq.bind (Z4 f) fun k=>Cq.next (Zj6 k ([],0)) fun l=>match l with|e=>Zdl g h i a d b c e
def ZbZ(i:(List ByteArray))(f:Int)(c:(List ByteArray))(b:(List Zc))(a:(List Zc))(d:Int)(e:Zg)(h:(List (ByteArray×Bool))):Cq ((Int×(List ByteArray)×(List Zc)×(List Zc)×Int×(List (ByteArray×Bool)))⊕(((List ByteArray)×(List Zc)×(List Zc)×Int×(List (ByteArray×Bool))))):=
 Cq.bind (_eliminant_merge_translation_translate (ZJ.mk e.from'.vars i) e.entry.p) fun g=>if e.entry.neq=true then (Cq.chk ((a++[(Zc.mk e.id g.1)]).length<=small) (Cq.ret (.inl (i64.wrap (f+1),c,b,(a++[(Zc.mk e.id g.1)]),d,h)))) else (Cq.chk ((b++[(Zc.mk e.id g.1)]).length<=small) (Cq.ret (.inl (i64.wrap (f+1),c,(b++[(Zc.mk e.id g.1)]),a,d,h))))
def Zfv(c:(List ByteArray)):(Int×(List (ByteArray×Bool)))->Cq (((List (ByteArray×Bool)))):=
 Cq.loop fun e=>match e with|(a,b)=>if a<(c.length:Int) then (Cq.at' c a fun d=>Cq.chk ((d.size<=1000000)/\(mput b d true).length<=small) (Cq.ret (.inl (i64.wrap (a+1),(mput b d true))))) else (Cq.ret (.inr b))
def Zj7(f:(List ByteArray))(g:(List Zg)×(List Zk))(h:(List Zg)×Int):(Int×(List ByteArray)×(List Zc)×(List Zc)×Int×(List (ByteArray×Bool)))->Cq (((List ByteArray)×(List Zc)×(List Zc)×Int×(List (ByteArray×Bool)))):=
 Cq.loop fun m=>match m with|(d,a,e,b,c,i)=>if d<((g.1++h.1).length:Int) then (Cq.at' (g.1++h.1) d fun j=>Cq.bind (_eliminant_merge_translation_missing (ZJ.mk j.from'.vars f) j.entry.p) fun k=>Cq.next (Zfv k (0,i)) fun n=>match n with|l=>ZbZ f d a e b c j l) else (Cq.ret (.inr (a,e,b,c,i)))
def Zdm(a:Za)(b:Za)(c:Za):Cq (Za×(List Zk)×Int):=
 Cq.bind (ZcU a.vars b.vars c.vars) fun h=>Cq.bind (Zco a b c) fun i=>Cq.bind (Zcn a b c) fun d=>Cq.chk ((i.1++d.1).length<=small) (Cq.next (Zj7 h i d (0,h,[],[],d.2,[])) fun l=>match l with|(e,j,f,g,k)=>ZbY h i d e j f g k)
def Zam(c:Za)(a:Za)(b:Za)(d:Bool):Cq (Za×(List Zk)×Int):=
 if d=true then (Cq.ret ((Za.mk [] [] [] 0),[],320)) else (Cq.bind (Zbe a c) fun e=>if e=true then (Cq.ret (b,[],0)) else (Cq.bind (Zbe b c) fun f=>match f with|false=>(Cq.bind (Zbe b a) fun g=>if g=true then (Cq.ret (a,[],0)) else (Zdm c a b))|true=>(Cq.ret (a,[],0))))
def Zac(a:Za)(b:Za)(c:Za):Cq (Za×(List Zk)×Int):=
 Cq.bind (Zas a) fun f=>match f with|false=>(Zam a b c true)|true=>(Cq.bind (Zas b) fun d=>match d with|false=>(Zam a b c true)|true=>(Cq.bind (Zas c) fun e=>Zam a b c (!e)))
def Ze0:Cq Bool:=
 Cq.ret true
def Zmn(b:Zj)(c:Zj):Int->Cq (Bool⊕Unit):=
 Cq.loop fun d=>match d with|a=>if a<(b.mag.length:Int) then (Cq.at' b.mag a fun e=>Cq.at' c.mag a fun f=>if ¬ e=f then (Cq.ret (.inr (.inl false))) else (Cq.ret (.inl (i64.wrap (a+1))))) else (Cq.ret (.inr (.inr ())))
def Zih(a:Zj)(b:Zj):Cq Bool:=
 if ¬ a.neg=b.neg then (Cq.ret false) else (if ¬ (a.mag.length:Int)=(b.mag.length:Int) then (Cq.ret false) else (Cq.next (Zmn a b 0) fun d=>match d with | .inl c=>Cq.ret c | .inr ()=>Ze0))
def Zig(a:Ze)(b:Ze):Cq Bool:=
 Cq.bind (Zih a.num b.num) fun c=>match c with|false=>(Cq.ret false)|true=>(Cq.bind (Zih a.den b.den) fun d=>Cq.ret d)
def ZcG(a:Zb)(b:Zb):Cq Bool:=
 if a.m=b.m then (Cq.bind (Zig a.c b.c) fun d=>Cq.ret d) else (Cq.ret false)
def Ze6:Cq Bool:=
 Cq.ret true
def Zms(b:(List Zb))(d:(List Zb)):Int->Cq (Bool⊕Unit):=
 Cq.loop fun e=>match e with|a=>if a<(b.length:Int) then (Cq.at' b a fun f=>Cq.at' d a fun g=>Cq.bind (ZcG f g) fun c=>if (!c)=true then (Cq.ret (.inr (.inl false))) else (Cq.ret (.inl (i64.wrap (a+1))))) else (Cq.ret (.inr (.inr ())))
def ZfQ(a:(List Zb))(b:(List Zb)):Cq Bool:=
 if ¬ (a.length:Int)=(b.length:Int) then (Cq.ret false) else (Cq.next (Zms a b 0) fun d=>match d with | .inl c=>Cq.ret c | .inr ()=>Ze6)
def ZcI:Cq Bool:=
 Cq.ret true
def Zi5(b:(List Zc))(c:(List Zc)):Int->Cq (Bool⊕Unit):=
 Cq.loop fun e=>match e with|a=>if a<(b.length:Int) then (Cq.at' b a fun f=>Cq.at' c a fun g=>if ¬ f.id=g.id then (Cq.ret (.inr (.inl false))) else (Cq.at' b a fun h=>Cq.at' c a fun i=>Cq.bind (ZfQ h.p i.p) fun d=>if (!d)=true then (Cq.ret (.inr (.inl false))) else (Cq.ret (.inl (i64.wrap (a+1)))))) else (Cq.ret (.inr (.inr ())))
def Zbz(a:(List Zc))(b:(List Zc)):Cq Bool:=
 if ¬ (a.length:Int)=(b.length:Int) then (Cq.ret false) else (Cq.next (Zi5 a b 0) fun d=>match d with | .inl c=>Cq.ret c | .inr ()=>ZcI)
def Ze9:Cq Bool:=
 Cq.ret true
def Zmv(b:Za)(c:Za):Int->Cq (Bool⊕Unit):=
 Cq.loop fun d=>match d with|a=>if a<(b.vars.length:Int) then (Cq.at' b.vars a fun e=>Cq.at' c.vars a fun f=>if ¬ e=f then (Cq.ret (.inr (.inl false))) else (Cq.ret (.inl (i64.wrap (a+1))))) else (Cq.ret (.inr (.inr ())))
def ZhU(b:Za)(c:Za):Cq Bool:=
 Cq.next (Zmv b c 0) fun d=>match d with | .inl a=>Cq.ret a | .inr ()=>Ze9
def Zee(a:Za)(b:Za):Cq Bool:=
 if ¬ (a.vars.length:Int)=(b.vars.length:Int) then (Cq.ret false) else (if ¬ a.next=b.next then (Cq.ret false) else (Cq.bind (Zbz a.eqs b.eqs) fun c=>match c with|false=>(Cq.ret false)|true=>(Cq.bind (Zbz a.neqs b.neqs) fun d=>if (!d)=true then (Cq.ret false) else (ZhU a b))))
def ZaZ:Cq Bool:=
 Cq.ret true
def ZfT(b:(List Zk))(e:(List Zk)):Int->Cq (Bool⊕Unit):=
 Cq.loop fun f=>match f with|a=>if a<(b.length:Int) then (Cq.at' b a fun c=>Cq.at' e a fun d=>if ¬ (c.id=d.id/\c.name=d.name) then (Cq.ret (.inr (.inl false))) else (Cq.ret (.inl (i64.wrap (a+1))))) else (Cq.ret (.inr (.inr ())))
def Zaj(a:(List Zk))(b:(List Zk)):Cq Bool:=
 if ¬ (a.length:Int)=(b.length:Int) then (Cq.ret false) else (Cq.next (ZfT a b 0) fun d=>match d with | .inl c=>Cq.ret c | .inr ()=>ZaZ)
def ZdR(j:Za×(List Zk)×Int)(a:Za×(List Zk)×Int)(b:Za×(List Zk)×Int):Cq Bool:=
 Cq.bind (Zaj a.2.1 [(Zk.mk 1 ByteArray.empty)]) fun c=>match c with|false=>(Cq.ret false)|true=>(Cq.bind (Zaj b.2.1 [(Zk.mk 0 Zp)]) fun d=>match d with|false=>(Cq.ret false)|true=>(Cq.bind (ZO 1 1) fun e=>Cq.bind (ZO 2 2) fun f=>Cq.bind (ZO 3 3) fun g=>Cq.bind (ZbI Zp [e,f,g] 4) fun h=>Cq.bind (Zee j.1 h) fun i=>Cq.ret i))
def Zdk:Cq Bool:=
 Cq.bind (ZO 1 1) fun o=>Cq.bind (ZbI Zp [o] 2) fun a=>Cq.bind (ZO 1 1) fun p=>Cq.bind (ZO 2 2) fun q=>Cq.bind (ZbI Zp [p,q] 3) fun b=>Cq.bind (ZO 1 1) fun r=>Cq.bind (ZO 2 3) fun s=>Cq.bind (ZbI Zp [r,s] 3) fun c=>Cq.bind (Zac a b c) fun d=>Cq.bind (ZbI Zp [] 2) fun h=>Cq.bind (ZO 1 2) fun i=>Cq.bind (ZbI Zp [i] 2) fun j=>Cq.bind (Zac a h j) fun e=>Cq.bind (ZO 1 1) fun k=>Cq.bind (ZbI ZY [k] 2) fun l=>Cq.bind (Zac a l b) fun f=>Cq.bind (Zac a (Za.mk [] [] [] 0) b) fun m=>Cq.bind (Zac a a c) fun g=>if ¬ d.2.2=0 then (Cq.ret false) else (if ¬ (d.2.1.length:Int)=0 then (Cq.ret false) else (if ¬ e.2.2=350 then (Cq.ret false) else (if ¬ f.2.2=350 then (Cq.ret false) else (if ¬ m.2.2=320 then (Cq.ret false) else (if ¬ g.2.2=0 then (Cq.ret false) else (Cq.bind (Zee g.1 c) fun n=>if (!n)=true then (Cq.ret false) else (ZdR d e f)))))))
def Zkn:Cq (List ByteArray):=
 Cq.ret [Zp,ZY,Zaf,Z6,ZZ,ZS]
def ZhA(a:Int):Cq Int:=
 if a<0 then (Cq.ret (i64.wrap (0-(i64.wrap a)))) else (Cq.ret (i64.wrap a))
def ZgK(b:Ze)(c:(List Zb)):Cq (List Zb):=
 Cq.bind (ZgL b (fun _=>0) c) fun a=>Cq.ret a.1
def ZfJ:Cq Int:=
 Cq.ret 0
def Zny(b:(Fin 8->Int))(c:(Fin 8->Int)):Int->Cq (Int⊕Unit):=
 Cq.loop fun d=>match d with|a=>if a<8 then (Cq.chk (0<=a/\a<8) (Cq.chk (0<=a/\a<8) (if (getF b a)<(getF c a) then (Cq.ret (.inr (.inl (-1)))) else (Cq.chk (0<=a/\a<8) (Cq.chk (0<=a/\a<8) (if (getF c a)<(getF b a) then (Cq.ret (.inr (.inl 1))) else (Cq.ret (.inl (i64.wrap (a+1)))))))))) else (Cq.ret (.inr (.inr ())))
def Zfq(b:(Fin 8->Int))(c:(Fin 8->Int)):Cq Int:=
 Cq.next (Zny b c 0) fun d=>match d with | .inl a=>Cq.ret a | .inr ()=>ZfJ
def ZmU(a:Zj)(b:Zj):Cq Zj:=
 if a.neg=b.neg then (Cq.bind (Zkk a.mag b.mag) fun c=>Cq.bind (ZaL a.neg c) fun d=>Cq.ret d) else (Cq.bind (Zao a.mag b.mag) fun e=>if e<0 then (Cq.bind (ZgG b.mag a.mag) fun f=>Cq.bind (ZaL b.neg f) fun g=>Cq.ret g) else (Cq.bind (ZgG a.mag b.mag) fun h=>Cq.bind (ZaL a.neg h) fun i=>Cq.ret i))
def Zhz(a:Ze)(b:Ze):Cq Ze:=
 Cq.bind (ZdZ a.num b.den) fun c=>Cq.bind (ZdZ b.num a.den) fun d=>Cq.bind (ZmU c d) fun e=>Cq.bind (ZdZ a.den b.den) fun f=>Cq.bind (ZfH e f) fun g=>Cq.ret g
def ZfM(a:(List Zb)):Cq (List Zb):=
 Cq.ret a
def ZfN(e:(List Zb))(g:(List Zb))(a:Int)(b:(List Zb))(d:Int):Cq (((List Zb)×Int×Int)⊕(List Zb)):=
 Cq.at' e a fun j=>Cq.at' g d fun k=>Cq.bind (Zhz j.c k.c) fun f=>Cq.bind (Zah f) fun h=>if ¬ h=0 then (Cq.at' e a fun i=>Cq.chk ((b++[(Zb.mk f i.m)]).length<=small) (Cq.ret (.inl ((b++[(Zb.mk f i.m)]),i64.wrap (a+1),i64.wrap (d+1))))) else (Cq.ret (.inl (b,i64.wrap (a+1),i64.wrap (d+1))))
def ZcE(f:(List Zb))(c:(List Zb))(a:Int)(b:(List Zb))(d:Int)(e:Bool):Cq (((List Zb)×Int×Int)⊕(List Zb)):=
 if e=true then (Cq.at' c a fun g=>Cq.chk ((b++[g]).length<=small) (Cq.ret (.inl ((b++[g]),d,i64.wrap (a+1))))) else (ZfN f c d b a)
def ZcF(a:(List Zb))(c:(List Zb))(d:Int)(e:(List Zb))(b:Int):Cq (((List Zb)×Int×Int)⊕(List Zb)):=
 if b=(a.length:Int) then (ZcE a c d e b true) else (Cq.at' a b fun g=>Cq.at' c d fun h=>Cq.bind (Zfq g.m h.m) fun f=>ZcE a c d e b (decide (f<0)))
def Zaz(c:(List Zb))(f:(List Zb))(a:(List Zb))(b:Int)(d:Int)(e:Bool):Cq (((List Zb)×Int×Int)⊕(List Zb)):=
 if e=true then (Cq.at' c b fun g=>Cq.chk ((a++[g]).length<=small) (Cq.ret (.inl ((a++[g]),i64.wrap (b+1),d)))) else (ZcF c f d a b)
def ZaX(a:(List Zb))(b:(List Zb))(e:(List Zb))(c:Int)(d:Int):Cq (((List Zb)×Int×Int)⊕(List Zb)):=
 if d=(b.length:Int) then (Zaz a b e c d true) else (if c<(a.length:Int) then (Cq.at' a c fun g=>Cq.at' b d fun h=>Cq.bind (Zfq g.m h.m) fun f=>Zaz a b e c d (decide (0<f))) else (Zaz a b e c d false))
def ZnA(a:(List Zb))(b:(List Zb)):((List Zb)×Int×Int)->Cq (List Zb):=
 Cq.loop fun f=>match f with|(c,d,e)=>if d<(a.length:Int) then (ZaX a b c d e) else (if e<(b.length:Int) then (ZaX a b c d e) else (Cq.ret (.inr c)))
def Zfr(a:(List Zb))(b:(List Zb)):Cq (List Zb):=
 Cq.next (ZnA a b ([],0,0)) fun d=>match d with|c=>ZfM c
def Ze3(a:(List Zb)):Cq (List Zb):=
 Cq.ret a
def Ze4(b:ZD)(c:(List Zb))(a:Int)(d:(Fin 8->Int)):Cq (((List Zb)×Int)⊕(List Zb)):=
 Cq.at' b.t a fun i=>Cq.bind (Zak (i64.wrap (Int.tmod (getF i 0) 4))) fun e=>Cq.bind (Zak 1) fun f=>Cq.bind (ZgK e [(Zb.mk f d)]) fun g=>Cq.bind (Zfr c g) fun h=>Cq.ret (.inl (h,i64.wrap (a+1)))
def ZhR(f:ZD)(g:Int)(d:Int):(Int×Int×(Fin 8->Int))->Cq (Fin 8->Int):=
 Cq.loop fun h=>match h with|(b,a,c)=>if a<g then (if a<4 then (Cq.at' f.t d fun i=>Cq.chk (0<=i64.wrap (1+a)/\(i64.wrap (1+a))<5) (Cq.bind (ZhA (getF i (i64.wrap (1+a)))) fun e=>Cq.chk ((i64.wrap (b+1))≠0) (Cq.chk (0<=a/\a<8) (Cq.chk (0<=a/\a<8) (Cq.ret (.inl (i64.wrap (b-(getF (setF c a.toNat (Int.tmod e (i64.wrap (b+1)))) a)),i64.wrap (a+1),setF c a.toNat (Int.tmod e (i64.wrap (b+1)))))))))) else (Cq.ret (.inr c))) else (Cq.ret (.inr c))
def ZhS(b:ZD)(c:Int)(d:Int)(e:(List Zb))(a:Int):Cq (((List Zb)×Int)⊕(List Zb)):=
 Cq.next (ZhR b c a (d,0,(fun _=>0))) fun g=>match g with|f=>Ze4 b e a f
def Zmr(c:ZD)(d:Int)(e:Int)(f:Int):((List Zb)×Int)->Cq (List Zb):=
 Cq.loop fun g=>match g with|(b,a)=>if a<(c.t.length:Int) then (if a<f then (ZhS c d e b a) else (Cq.ret (.inr b))) else (Cq.ret (.inr b))
def Zii(a:ZD)(b:Int)(c:Int)(d:Int):Cq (List Zb):=
 Cq.next (Zmr a b c d ([],0)) fun f=>match f with|e=>Ze3 e
def Zca(b:Za)(c:Zv)(a:Zh):Cq Zh:=
 Cq.bind (Zii c.p (if 3<(b.vars.length:Int) then 3 else (b.vars.length:Int)) 2 3) fun d=>Cq.ret (Zh.mk a.kind a.name a.at' a.to' a.id d a.neq)
def ZaM(c:Za)(b:Zv)(a:Zh):Cq Zh:=
 if a.kind=5 then (if 0<(Int.tmod b.n 4) then (Zca c b (Zh.mk a.kind a.name a.at' a.to' 0 a.p a.neq)) else (Zca c b a)) else (Zca c b a)
def Zef(d:Za)(c:Zv):Cq Zh:=
 Cq.chk ((i64.wrap ((d.vars.length:Int)+1))≠0) (Cq.chk ((i64.wrap ((d.vars.length:Int)+1))≠0) (Cq.chk ((i64.wrap (d.next+1))≠0) (Cq.bind (Zkn) fun f=>Cq.at' f (Int.tmod c.n 6) fun e=>if 8<=(Int.tmod c.kind 16) then (if (Int.tmod c.a 8)<5 then (ZaM d c (Zh.mk 5 e (Int.tmod (i64.wrap c.a) (i64.wrap ((d.vars.length:Int)+1))) (Int.tmod (i64.wrap c.b) (i64.wrap ((d.vars.length:Int)+1))) (Int.tmod (i64.wrap c.n) (i64.wrap (d.next+1))) [] (decide ((Int.tmod c.b 4)=3)))) else (ZaM d c (Zh.mk (i64.wrap (5+(i64.wrap (Int.tmod c.a 4)))) e (Int.tmod (i64.wrap c.a) (i64.wrap ((d.vars.length:Int)+1))) (Int.tmod (i64.wrap c.b) (i64.wrap ((d.vars.length:Int)+1))) (Int.tmod (i64.wrap c.n) (i64.wrap (d.next+1))) [] (decide ((Int.tmod c.b 4)=3))))) else (ZaM d c (Zh.mk (i64.wrap (1+(i64.wrap (Int.tmod c.kind 16)))) e (Int.tmod (i64.wrap c.a) (i64.wrap ((d.vars.length:Int)+1))) (Int.tmod (i64.wrap c.b) (i64.wrap ((d.vars.length:Int)+1))) (Int.tmod (i64.wrap c.n) (i64.wrap (d.next+1))) [] (decide ((Int.tmod c.b 4)=3)))))))
def ZcJ(a:Int):Cq Bool:=
 if 65<=a then (if a<=90 then (Cq.ret true) else (if 97<=a then (Cq.ret (decide (a<=122))) else (Cq.ret false))) else (if 97<=a then (Cq.ret (decide (a<=122))) else (Cq.ret false))
def Ze8:Cq Bool:=
 Cq.ret true
def Zmu(b:ByteArray):Int->Cq (Bool⊕Unit):=
 Cq.loop fun d=>match d with|a=>if a<(b.size:Int) then (Cq.chk (0<=(a:Int)/\a<(b.size:Int)) (Cq.bind (ZcJ (byteAt b a)) fun c=>match c with|false=>(Cq.chk (0<=(a:Int)/\a<(b.size:Int)) (if 48<=(byteAt b a) then (Cq.chk (0<=(a:Int)/\a<(b.size:Int)) (if (byteAt b a)<=57 then (Cq.ret (.inl (i64.wrap (a+1)))) else (Cq.chk (0<=(a:Int)/\a<(b.size:Int)) (if ¬ (byteAt b a)=95 then (Cq.ret (.inr (.inl false))) else (Cq.ret (.inl (i64.wrap (a+1)))))))) else (Cq.chk (0<=(a:Int)/\a<(b.size:Int)) (if ¬ (byteAt b a)=95 then (Cq.ret (.inr (.inl false))) else (Cq.ret (.inl (i64.wrap (a+1))))))))|true=>(Cq.ret (.inl (i64.wrap (a+1)))))) else (Cq.ret (.inr (.inr ())))
def ZhT(b:ByteArray):Cq Bool:=
 Cq.next (Zmu b 1) fun c=>match c with | .inl a=>Cq.ret a | .inr ()=>Ze8
def Zed(a:ByteArray):Cq Bool:=
 if (a.size:Int)<1 then (Cq.ret false) else (if 12<(a.size:Int) then (Cq.ret false) else (Cq.chk (0<=(0:Int)/\0<(a.size:Int)) (Cq.bind (ZcJ (byteAt a 0)) fun b=>if (!b)=true then (Cq.ret false) else (ZhT a))))
def Zeh:Cq Int:=
 Cq.ret (-1)
def Zlu(c:Za)(a:ByteArray):Int->Cq (Int⊕Unit):=
 Cq.loop fun d=>match d with|b=>if b<(c.vars.length:Int) then (Cq.at' c.vars b fun e=>if e=a then (Cq.ret (.inr (.inl b))) else (Cq.ret (.inl (i64.wrap (b+1))))) else (Cq.ret (.inr (.inr ())))
def ZeA(c:Za)(a:ByteArray):Cq Int:=
 Cq.next (Zlu c a 0) fun d=>match d with | .inl b=>Cq.ret b | .inr ()=>Zeh
def Zei(b:Za)(a:Int):Cq Bool:=
 if 0<=a then (Cq.ret (decide (a<(b.vars.length:Int)))) else (Cq.ret false)
def ZfI(a:Int):Cq Int:=
 Cq.ret (u8.wrap a)
def Znx(c:Int):(Int×Int)->Cq Int:=
 Cq.loop fun d=>match d with|(a,b)=>if b<c then (Cq.ret (.inl (i64.wrap (2*a),i64.wrap (b+1)))) else (Cq.ret (.inr a))
def ZjN(a:Int):Cq Int:=
 Cq.next (Znx a (1,0)) fun b=>match b with|c=>ZfI c
def Zc8(a:Int):Cq Int:=
 Cq.ret a
def ZjQ(d:(Fin 8->Int)):(Int×Int)->Cq Int:=
 Cq.loop fun e=>match e with|(b,a)=>if a<8 then (Cq.chk (0<=a/\a<8) (if 0<(getF d a) then (Cq.bind (ZjN a) fun c=>Cq.ret (.inl (u8.wrap (b+c),i64.wrap (a+1)))) else (Cq.ret (.inl (b,i64.wrap (a+1)))))) else (Cq.ret (.inr b))
def Ze2(a:(Fin 8->Int)):Cq Int:=
 Cq.next (ZjQ a (0,0)) fun b=>match b with|c=>Zc8 c
def Ze7(a:Int):Cq Int:=
 Cq.ret a
def Zmt(c:(List Zb)):(Int×Int)->Cq Int:=
 Cq.loop fun e=>match e with|(a,b)=>if b<(c.length:Int) then (Cq.at' c b fun f=>Cq.bind (Ze2 f.m) fun d=>Cq.ret (.inl (u8.wrap (BitVec.ofInt u8.bits a ||| BitVec.ofInt u8.bits d).toNat,i64.wrap (b+1)))) else (Cq.ret (.inr a))
def Zea(b:(List Zb)):Cq Int:=
 Cq.next (Zmt b (0,0)) fun c=>match c with|a=>Ze7 a
def Zfd:Cq Bool:=
 Cq.ret false
def Zmy(c:Za)(a:Int):Int->Cq (Bool⊕Unit):=
 Cq.loop fun e=>match e with|b=>if b<(c.neqs.length:Int) then (Cq.at' c.neqs b fun f=>Cq.bind (Zea f.p) fun d=>Cq.chk (0<=a) (if (Int.tmod (Int.fdiv (i64.wrap d) (2 ^ (min (a).toNat i64.bits))) 2)=1 then (Cq.ret (.inr (.inl true))) else (Cq.ret (.inl (i64.wrap (b+1)))))) else (Cq.ret (.inr (.inr ())))
def Zds(c:Za)(a:Int):Cq Bool:=
 Cq.next (Zmy c a 0) fun d=>match d with | .inl b=>Cq.ret b | .inr ()=>Zfd
def Zmz(c:Za)(a:Int):Int->Cq (Bool⊕Unit):=
 Cq.loop fun e=>match e with|b=>if b<(c.eqs.length:Int) then (Cq.at' c.eqs b fun f=>Cq.bind (Zea f.p) fun d=>Cq.chk (0<=a) (if (Int.tmod (Int.fdiv (i64.wrap d) (2 ^ (min (a).toNat i64.bits))) 2)=1 then (Cq.ret (.inr (.inl true))) else (Cq.ret (.inl (i64.wrap (b+1)))))) else (Cq.ret (.inr (.inr ())))
def Zik(b:Za)(a:Int):Cq Bool:=
 Cq.next (Zmz b a 0) fun d=>match d with | .inl c=>Cq.ret c | .inr ()=>Zds b a
def Zfc:Cq Int:=
 Cq.ret (-1)
def Zmx(b:(List Zc))(c:Int):Int->Cq (Int⊕Unit):=
 Cq.loop fun d=>match d with|a=>if a<(b.length:Int) then (Cq.at' b a fun e=>if e.id=c then (Cq.ret (.inr (.inl a))) else (Cq.ret (.inl (i64.wrap (a+1))))) else (Cq.ret (.inr (.inr ())))
def Zcj(c:(List Zc))(a:Int):Cq Int:=
 Cq.next (Zmx c a 0) fun d=>match d with | .inl b=>Cq.ret b | .inr ()=>Zfc
def ZhC(b:Za)(a:Int):Cq Bool:=
 Cq.bind (Zcj b.eqs a) fun c=>if 0<=c then (Cq.ret true) else (Cq.bind (Zcj b.neqs a) fun d=>Cq.ret (decide (0<=d)))
def ZgF(a:Zj):Cq Bool:=
 if (a.mag.length:Int)=0 then Cq.fail else (Cq.at' a.mag (i64.wrap ((a.mag.length:Int)-1)) fun b=>Cq.ret (decide (¬ b=0)))
def ZmV(a:Zj)(b:Zj):Cq Int:=
 if a.neg=true then (if (!b.neg)=true then Cq.fail else (if a.neg=true then (if a.neg=true then Cq.fail else (Cq.bind (Zao a.mag b.mag) fun c=>Cq.ret c)) else (if b.neg=true then Cq.fail else (if a.neg=true then Cq.fail else (Cq.bind (Zao a.mag b.mag) fun d=>Cq.ret d))))) else (if a.neg=true then (if a.neg=true then Cq.fail else (Cq.bind (Zao a.mag b.mag) fun e=>Cq.ret e)) else (if b.neg=true then Cq.fail else (if a.neg=true then Cq.fail else (Cq.bind (Zao a.mag b.mag) fun f=>Cq.ret f))))
def ZgH(a:Ze):Cq Bool:=
 Cq.bind (ZjK a.num a.den) fun b=>Cq.bind (ZiZ 1) fun c=>Cq.bind (ZmV b c) fun d=>Cq.ret (decide (d=0))
def Zew(a:Ze):Cq Bool:=
 Cq.bind (ZgF a.num) fun b=>match b with|false=>(Cq.ret false)|true=>(Cq.bind (ZgF a.den) fun c=>match c with|false=>(Cq.ret false)|true=>(Cq.bind (ZfF a.den) fun d=>if d<1 then Cq.fail else (ZgH a)))
def Zec:Cq Bool:=
 Cq.ret true
def ZcH(b:(List Zb))(a:Int):Cq (Int⊕(Bool⊕Unit)):=
 if 0<a then (Cq.at' b (i64.wrap (a-1)) fun d=>Cq.at' b a fun e=>Cq.bind (Zfq d.m e.m) fun c=>if c<=0 then Cq.fail else (Cq.ret (.inl (i64.wrap (a+1))))) else (Cq.ret (.inl (i64.wrap (a+1))))
def Zls(a:(List Zb)):Int->Cq (Bool⊕Unit):=
 Cq.loop fun g=>match g with|b=>if b<(a.length:Int) then (Cq.at' a b fun h=>Cq.bind (Zew h.c) fun d=>match d with|false=>(Cq.ret (.inr (.inl false)))|true=>(Cq.at' a b fun i=>Cq.bind (Zah i.c) fun e=>if e=0 then (Cq.ret (.inr (.inl false))) else (Cq.at' a b fun j=>Cq.bind (Zex j.m) fun f=>if (!f)=true then Cq.fail else (ZcH a b)))) else (Cq.ret (.inr (.inr ())))
def ZgM(b:(List Zb)):Cq Bool:=
 Cq.next (Zls b 0) fun c=>match c with | .inl a=>Cq.ret a | .inr ()=>Zec
def ZdM(a:Int):Cq Int:=
 Cq.ret a
def Zk5(c:(Fin 8->Int)):(Int×Int)->Cq Int:=
 Cq.loop fun d=>match d with|(b,a)=>if a<8 then (Cq.chk (0<=a/\a<8) (Cq.ret (.inl (i64.wrap (b+(getF c a)),i64.wrap (a+1))))) else (Cq.ret (.inr b))
def ZfK(a:(Fin 8->Int)):Cq Int:=
 Cq.next (Zk5 a (0,0)) fun b=>match b with|c=>ZdM c
def ZdN(a:Int):Cq Int:=
 Cq.ret a
def Zk6(d:(List Zb)):(Int×Int)->Cq Int:=
 Cq.loop fun e=>match e with|(b,c)=>if c<(d.length:Int) then (Cq.at' d c fun f=>Cq.bind (ZfK f.m) fun a=>Cq.ret (.inl (if b<a then a else b,i64.wrap (c+1)))) else (Cq.ret (.inr b))
def ZfO(a:(List Zb)):Cq Int:=
 Cq.next (Zk6 a ((-1),0)) fun b=>match b with|c=>ZdN c
def ZfR(a:(List Zb))(b:Int):Cq Bool:=
 Cq.bind (ZgM a) fun c=>match c with|false=>(Cq.ret false)|true=>(Cq.bind (Zea a) fun d=>Cq.chk (0<=b) (if (Int.fdiv (i64.wrap d) (2 ^ (min (b).toNat i64.bits)))=0 then (Cq.bind (ZfO a) fun e=>Cq.ret (decide (e<=12))) else (Cq.ret false)))
def ZE(c:Za)(a:Zh):Cq Int:=
 Cq.bind (ZfR a.p (c.vars.length:Int)) fun b=>if (!b)=true then (Cq.ret 320) else (Cq.ret 0)
def ZaA(b:Za)(a:Zh):Cq Int:=
 if a.neq=true then (if a.neq=true then (if 12<=(b.neqs.length:Int) then (Cq.ret 2) else (if a.id=0 then (if 1000000<=b.next then (Cq.ret 2) else (ZE b a)) else (ZE b a))) else (if a.id=0 then (if 1000000<=b.next then (Cq.ret 2) else (ZE b a)) else (ZE b a))) else (if 12<=(b.eqs.length:Int) then (Cq.ret 2) else (if a.neq=true then (if 12<=(b.neqs.length:Int) then (Cq.ret 2) else (if a.id=0 then (if 1000000<=b.next then (Cq.ret 2) else (ZE b a)) else (ZE b a))) else (if a.id=0 then (if 1000000<=b.next then (Cq.ret 2) else (ZE b a)) else (ZE b a))))
def ZcK(b:Za)(a:Zh):Cq Int:=
 if a.id<0 then (Cq.ret 332) else (if 999999<a.id then (Cq.ret 332) else (if 0<a.id then (Cq.bind (ZhC b a.id) fun c=>if c=true then (Cq.ret 332) else (ZaA b a)) else (ZaA b a)))
def ZbT(b:Za)(c:Zh):Cq Int:=
 Cq.bind (Zcj b.eqs c.id) fun a=>if c.kind=8 then (if 0<=a then (if 12<=(b.neqs.length:Int) then (Cq.ret 2) else (if 0<=a then (Cq.ret 0) else (if 12<=(b.eqs.length:Int) then (Cq.ret 2) else (Cq.ret 0)))) else (if 0<=a then (Cq.ret 0) else (if 12<=(b.eqs.length:Int) then (Cq.ret 2) else (Cq.ret 0)))) else (Cq.ret 0)
def Zba(b:Za)(a:Zh):Cq Int:=
 Cq.bind (ZhC b a.id) fun c=>if (!c)=true then (Cq.ret 332) else (if a.kind=7 then (Cq.bind (ZfR a.p (b.vars.length:Int)) fun d=>if (!d)=true then (Cq.ret 320) else (ZbT b a)) else (ZbT b a))
def Zey(b:Za)(a:Zh):Cq Int:=
 if a.kind=1 then (if 4<=(b.vars.length:Int) then (Cq.ret 2) else (if a.at'<0 then (Cq.ret 330) else (if (b.vars.length:Int)<a.at' then (Cq.ret 330) else (Cq.bind (Zed a.name) fun h=>match h with|false=>(Cq.ret 331)|true=>(Cq.bind (ZeA b a.name) fun i=>if 0<=i then (Cq.ret 331) else (Cq.ret 0)))))) else (if a.kind=2 then (Cq.bind (Zei b a.at') fun j=>if (!j)=true then (Cq.ret 330) else (Cq.bind (Zik b a.at') fun k=>if k=true then (Cq.ret 333) else (Cq.ret 0))) else (if a.kind=3 then (Cq.bind (Zei b a.at') fun l=>if (!l)=true then (Cq.ret 330) else (Cq.bind (ZeA b a.name) fun c=>Cq.bind (Zed a.name) fun m=>match m with|false=>(Cq.ret 331)|true=>(if 0<=c then (if ¬ c=a.at' then (Cq.ret 331) else (Cq.ret 0)) else (Cq.ret 0)))) else (if a.kind=4 then (Cq.bind (Zei b a.at') fun n=>match n with|false=>(Cq.ret 330)|true=>(Cq.bind (Zei b a.to') fun o=>if (!o)=true then (Cq.ret 330) else (Cq.ret 0))) else (if a.kind=5 then (Cq.bind (ZcK b a) fun d=>Cq.ret d) else (if a.kind=6 then (if a.kind=6 then (Cq.bind (Zba b a) fun e=>Cq.ret e) else (Cq.ret 1)) else (if a.kind=7 then (if a.kind=7 then (Cq.bind (Zba b a) fun f=>Cq.ret f) else (Cq.ret 1)) else (if a.kind=8 then (Cq.bind (Zba b a) fun g=>Cq.ret g) else (Cq.ret 1))))))))
def Zdc(a:Int)(b:Int)(c:(Fin 8->Int)):Cq (Fin 8->Int):=
 Cq.chk (0<=a/\a<8) (Cq.ret (setF c a.toNat b))
def ZbU(b:Int)(d:Int)(a:Int)(c:(Fin 8->Int)):Cq ((Int×(Fin 8->Int))⊕(Fin 8->Int)):=
 if a<b then (if d<=a then (Cq.chk (0<=a/\a<8) (Cq.ret (.inl (i64.wrap (a+1),setF c a.toNat (i64.wrap (a+1)))))) else (Cq.ret (.inl (i64.wrap (a+1),c)))) else (Cq.ret (.inl (i64.wrap (a+1),c)))
def ZjT(b:Int)(c:Int):(Int×(Fin 8->Int))->Cq (Fin 8->Int):=
 Cq.loop fun e=>match e with|(a,d)=>if a<8 then (Cq.chk (0<=a/\a<8) (if b<a then (if a<=c then (Cq.chk (0<=a/\a<8) (ZbU b c a (setF (setF d a.toNat a) a.toNat (i64.wrap (a-1))))) else (ZbU b c a (setF d a.toNat a))) else (ZbU b c a (setF d a.toNat a)))) else (Cq.ret (.inr d))
def Zal(a:Int)(b:Int):Cq (Fin 8->Int):=
 Cq.next (ZjT a b (0,(fun _=>0))) fun d=>match d with|c=>Zdc a b c
def ZaY:Cq Bool:=
 Cq.ret true
def ZfP(a:(Fin 8->Int)):(Int×(Fin 8->Bool))->Cq (Bool⊕Unit):=
 Cq.loop fun d=>match d with|(b,c)=>if b<8 then (Cq.chk (0<=b/\b<8) (if (getF a b)<0 then (Cq.ret (.inr (.inl false))) else (Cq.chk (0<=b/\b<8) (if 8<=(getF a b) then (Cq.ret (.inr (.inl false))) else (Cq.chk (0<=b/\b<8) (Cq.chk (0<=getF a b/\(getF a b)<8) (if (getF c (getF a b))=true then Cq.fail else (Cq.chk (0<=b/\b<8) (Cq.chk (0<=getF a b/\(getF a b)<8) (Cq.ret (.inl (i64.wrap (b+1),setF c ((getF a b).toNat) true)))))))))))) else (Cq.ret (.inr (.inr ())))
def Zb5(a:(Fin 8->Int)):Cq Bool:=
 Cq.next (ZfP a (0,(fun _=>false))) fun c=>match c with | .inl b=>Cq.ret b | .inr ()=>ZaY
def Zc9(a:(List Zb)):Cq ((List Zb)×Int):=
 Cq.ret (a,0)
def Zda(f:(List Zb))(a:(List Zb))(b:Int)(d:(Fin 8->Int)):Cq (((List Zb)×Int)⊕(List Zb)):=
 Cq.at' f b fun g=>Cq.bind (Zfr a [(Zb.mk g.c d)]) fun e=>Cq.ret (.inl (e,i64.wrap (b+1)))
def Zfs(d:(List Zb))(b:(Fin 8->Int))(e:Int):(Int×(Fin 8->Int))->Cq (Fin 8->Int):=
 Cq.loop fun f=>match f with|(a,c)=>if a<8 then (Cq.chk (0<=a/\a<8) (Cq.at' d e fun g=>Cq.chk (0<=a/\a<8) (Cq.chk (0<=getF b a/\(getF b a)<8) (Cq.ret (.inl (i64.wrap (a+1),setF c ((getF b a).toNat) (getF g.m a))))))) else (Cq.ret (.inr c))
def ZjS(c:(List Zb))(b:(Fin 8->Int)):((List Zb)×Int)->Cq (List Zb):=
 Cq.loop fun f=>match f with|(a,d)=>if d<(c.length:Int) then (Cq.next (Zfs c b d (0,(fun _=>0))) fun g=>match g with|e=>Zda c a d e) else (Cq.ret (.inr a))
def Ze5(d:(List Zb))(a:(Fin 8->Int)):Cq ((List Zb)×Int):=
 Cq.bind (Zb5 a) fun c=>if (!c)=true then Cq.fail else (Cq.next (ZjS d a ([],0)) fun e=>match e with|b=>Zc9 b)
def Zej(a:(List Zc)):Cq (List Zc):=
 Cq.ret a
def Zlv(e:(List Zc))(b:(Fin 8->Int)):((List Zc)×Int)->Cq (List Zc):=
 Cq.loop fun g=>match g with|(a,c)=>if c<(e.length:Int) then (Cq.at' e c fun h=>Cq.bind (Ze5 h.p b) fun d=>Cq.at' e c fun f=>Cq.chk ((a++[(Zc.mk f.id d.1)]).length<=small) (Cq.ret (.inl ((a++[(Zc.mk f.id d.1)]),i64.wrap (c+1))))) else (Cq.ret (.inr a))
def ZaW(c:(List Zc))(a:(Fin 8->Int)):Cq (List Zc):=
 Cq.next (Zlv c a ([],0)) fun d=>match d with|b=>Zej b
def ZfS(c:Zc)(a:(List Zc))(b:Bool):Cq (List Zc):=
 if (!b)=true then (Cq.chk ((a++[c]).length<=small) (Cq.ret (a++[c]))) else (Cq.ret a)
def ZdT(d:(List Zc))(f:Zc)(c:Int)(a:(List Zc))(b:Bool):Cq (((List Zc)×Bool×Int)⊕(((List Zc)×Bool))):=
 Cq.at' d c fun g=>if ¬ g.id=f.id then (Cq.at' d c fun e=>Cq.chk ((a++[e]).length<=small) (Cq.ret (.inl ((a++[e]),b,i64.wrap (c+1))))) else (Cq.ret (.inl (a,b,i64.wrap (c+1))))
def ZnB(d:(List Zc))(c:Zc):((List Zc)×Bool×Int)->Cq (((List Zc)×Bool)):=
 Cq.loop fun f=>match f with|(b,a,e)=>if e<(d.length:Int) then (if a=true then (ZdT d c e b a) else (Cq.at' d e fun g=>if c.id<=g.id then (Cq.chk ((b++[c]).length<=small) (ZdT d c e (b++[c]) true)) else (ZdT d c e b a))) else (Cq.ret (.inr (b,a)))
def Zcy(d:(List Zc))(c:Zc):Cq (List Zc):=
 Cq.next (ZnB d c ([],false,0)) fun e=>match e with|(b,a)=>ZfS c b a
def Zfb(a:(List Zc)):Cq (List Zc):=
 Cq.ret a
def Zmw(c:(List Zc))(d:Int):((List Zc)×Int)->Cq (List Zc):=
 Cq.loop fun f=>match f with|(a,b)=>if b<(c.length:Int) then (Cq.at' c b fun g=>if ¬ g.id=d then (Cq.at' c b fun e=>Cq.chk ((a++[e]).length<=small) (Cq.ret (.inl ((a++[e]),i64.wrap (b+1))))) else (Cq.ret (.inl (a,i64.wrap (b+1))))) else (Cq.ret (.inr a))
def Zdb(c:(List Zc))(b:Int):Cq (List Zc):=
 Cq.next (Zmw c b ([],0)) fun d=>match d with|a=>Zfb a
def Zap(a:Za)(c:Zh)(b:Zc):Cq Za:=
 if c.neq=true then (Cq.bind (Zcy a.neqs b) fun d=>Cq.ret (Za.mk a.vars a.eqs d (if a.next<(i64.wrap (b.id+1)) then (i64.wrap (b.id+1)) else a.next))) else (Cq.bind (Zcy a.eqs b) fun e=>Cq.ret (Za.mk a.vars e a.neqs (if a.next<(i64.wrap (b.id+1)) then (i64.wrap (b.id+1)) else a.next)))
def Zgm(a:Za)(b:Zh):Cq Za:=
 Cq.bind (Zcj a.eqs b.id) fun c=>Cq.bind (Zcj a.neqs b.id) fun g=>if b.kind=5 then (if b.id=0 then (Zap a b (Zc.mk a.next b.p)) else (Zap a b (Zc.mk b.id b.p))) else (if b.kind=6 then (Cq.bind (Zdb a.eqs b.id) fun h=>Cq.bind (Zdb a.neqs b.id) fun i=>Cq.ret (Za.mk a.vars h i a.next)) else (if b.kind=7 then (if 0<=c then (Cq.bind (Zcy a.eqs (Zc.mk b.id b.p)) fun j=>Cq.ret (Za.mk a.vars j a.neqs a.next)) else (Cq.bind (Zcy a.neqs (Zc.mk b.id b.p)) fun k=>Cq.ret (Za.mk a.vars a.eqs k a.next))) else (if b.kind=8 then (Cq.bind (Zdb a.eqs b.id) fun l=>Cq.bind (Zdb a.neqs b.id) fun d=>if 0<=c then (Cq.at' a.eqs c fun m=>Cq.bind (Zcy a.neqs m) fun e=>Cq.ret (Za.mk a.vars l e a.next)) else (Cq.at' a.neqs g fun n=>Cq.bind (Zcy a.eqs n) fun f=>Cq.ret (Za.mk a.vars f d a.next))) else (Cq.ret a))))
def Z1(b:Za)(a:Zh):Cq (Za×Int):=
 Cq.bind (Zey b a) fun d=>if ¬ d=0 then (Cq.ret ((Za.mk [] [] [] 0),d)) else (Cq.chk (([]++b.vars).length<=small) (if a.kind=1 then (Cq.chk (0<=(0:Int)/\(0:Int)<=a.at'/\a.at'<=(b.vars.length:Int)) (Cq.chk ((([]:List ByteArray)++((b.vars.take a.at'.toNat).drop (0:Int).toNat)).length<=small) (Cq.chk (((([]:List ByteArray)++((b.vars.take a.at'.toNat).drop (0:Int).toNat))++[a.name]).length<=small) (Cq.chk (0<=a.at'/\a.at'<=(b.vars.length:Int)/\(b.vars.length:Int)<=(b.vars.length:Int)) (Cq.chk ((((([]:List ByteArray)++((b.vars.take a.at'.toNat).drop (0:Int).toNat))++[a.name])++((b.vars.take (b.vars.length:Int).toNat).drop a.at'.toNat)).length<=small) (Cq.bind (Zal (b.vars.length:Int) a.at') fun l=>Cq.bind (ZaW b.eqs l) fun m=>Cq.bind (Zal (b.vars.length:Int) a.at') fun n=>Cq.bind (ZaW b.neqs n) fun o=>Cq.ret ((Za.mk (((([]:List ByteArray)++((b.vars.take a.at'.toNat).drop (0:Int).toNat))++[a.name])++((b.vars.take (b.vars.length:Int).toNat).drop a.at'.toNat)) m o b.next),0))))))) else (if a.kind=2 then (Cq.chk (0<=(0:Int)/\(0:Int)<=a.at'/\a.at'<=(b.vars.length:Int)) (Cq.chk ((([]:List ByteArray)++((b.vars.take a.at'.toNat).drop (0:Int).toNat)).length<=small) (Cq.chk (0<=i64.wrap (a.at'+1)/\(i64.wrap (a.at'+1))<=(b.vars.length:Int)/\(b.vars.length:Int)<=(b.vars.length:Int)) (Cq.chk (((([]:List ByteArray)++((b.vars.take a.at'.toNat).drop (0:Int).toNat))++((b.vars.take (b.vars.length:Int).toNat).drop (i64.wrap (a.at'+1)).toNat)).length<=small) (Cq.bind (Zal a.at' (i64.wrap ((b.vars.length:Int)-1))) fun e=>Cq.bind (ZaW b.eqs e) fun f=>Cq.bind (Zal a.at' (i64.wrap ((b.vars.length:Int)-1))) fun g=>Cq.bind (ZaW b.neqs g) fun h=>Cq.ret ((Za.mk ((([]:List ByteArray)++((b.vars.take a.at'.toNat).drop (0:Int).toNat))++((b.vars.take (b.vars.length:Int).toNat).drop (i64.wrap (a.at'+1)).toNat)) f h b.next),0)))))) else (if a.kind=3 then (Cq.at' ([]++b.vars) a.at' fun r=>Cq.ret ((Za.mk (([]++b.vars).set a.at'.toNat a.name) b.eqs b.neqs b.next),0)) else (if a.kind=4 then (Cq.bind (Zal 0 0) fun c=>Cq.chk (0<=a.at'/\a.at'<8) (Cq.chk (0<=a.to'/\a.to'<8) (Cq.at' b.vars a.to' fun p=>Cq.at' ([]++b.vars) a.at' fun s=>Cq.at' b.vars a.at' fun q=>Cq.at' (([]++b.vars).set a.at'.toNat p) a.to' fun t=>Cq.bind (ZaW b.eqs (setF (setF c a.at'.toNat a.to') a.to'.toNat a.at')) fun i=>Cq.bind (ZaW b.neqs (setF (setF c a.at'.toNat a.to') a.to'.toNat a.at')) fun j=>Cq.ret ((Za.mk ((([]++b.vars).set a.at'.toNat p).set a.to'.toNat q) i j b.next),0)))) else (Cq.bind (Zgm b a) fun k=>Cq.ret (k,0)))))))
def Zfa(a:Za):Cq Za:=
 Cq.ret a
def ZhV(e:(List Zv))(c:Int):(Int×Za)->Cq Za:=
 Cq.loop fun g=>match g with|(b,a)=>if b<(e.length:Int) then (if b<c then (Cq.at' e b fun h=>Cq.bind (Zef a h) fun f=>Cq.bind (Z1 a f) fun d=>if d.2=0 then (Cq.ret (.inl (i64.wrap (b+1),d.1))) else (Cq.ret (.inl (i64.wrap (b+1),a)))) else (Cq.ret (.inr a))) else (Cq.ret (.inr a))
def Zij(c:(List Zv))(a:Int):Cq Za:=
 Cq.next (ZhV c a (0,(Za.mk [] [] [] 1))) fun d=>match d with|b=>Zfa b
def Zeg(a:(List Zh)):Cq (List Zh):=
 Cq.ret a
def ZgP(f:(List Zv))(a:(List Zh))(e:Int)(b:Za):Cq (((List Zh)×Int×Za)⊕(List Zh)):=
 Cq.at' f e fun g=>Cq.bind (Zef b g) fun c=>Cq.bind (Z1 b c) fun d=>if d.2=0 then (Cq.chk ((a++[c]).length<=small) (Cq.ret (.inl ((a++[c]),i64.wrap (e+1),d.1)))) else (Cq.ret (.inl (a,i64.wrap (e+1),b)))
def ZgO(d:(List Zv))(b:Int):((List Zh)×Int×Za)->Cq (List Zh):=
 Cq.loop fun f=>match f with|(a,c,e)=>if c<(d.length:Int) then (if c<b then (ZgP d a c e) else (Cq.ret (.inr a))) else (Cq.ret (.inr a))
def Zez(c:Za)(d:(List Zv))(a:Int):Cq (List Zh):=
 Cq.next (ZgO d a ([],0,c)) fun e=>match e with|b=>Zeg b
def ZgN(b:(List Zh))(a:Za):Cq Zy:=
 Cq.ret (Zy.mk a (b.length:Int) 0)
def ZnZ(e:(List Zh)):(Int×Za×Zy)->Cq (Zy⊕(Za×Zy)):=
 Cq.loop fun f=>match f with|(b,c,d)=>if b<(e.length:Int) then (Cq.at' e b fun g=>Cq.bind (Z1 c g) fun a=>if ¬ a.2=0 then (Cq.ret (.inr (.inl (Zy.mk (Za.mk [] [] [] 0) b a.2)))) else (Cq.ret (.inl (i64.wrap (b+1),a.1,d)))) else (Cq.ret (.inr (.inr (c,d))))
def Zlt(d:Za)(a:(List Zh)):Cq Zy:=
 Cq.next (ZnZ a (0,d,(Zy.mk (Za.mk [] [] [] 0) 0 0))) fun e=>match e with | .inl b=>Cq.ret b | .inr (c,f)=>ZgN a c
def ZhB(b:Za)(c:(List Zh)):Cq (Za×Int×Int):=
 Cq.bind (Zlt b c) fun a=>Cq.ret (a.s,a.n,a.e)
def Zil(d:ZG):Cq (Za×Za×Za):=
 Cq.bind (Zij d.base 8) fun c=>Cq.bind (Zez c d.a 4) fun e=>Cq.bind (ZhB c e) fun f=>Cq.bind (Zez c d.b 4) fun g=>Cq.bind (ZhB c g) fun h=>Cq.ret (c,f.1,h.1)
def Zbq(a:Ze)(b:Ze):Cq Ze:=
 Cq.bind (Zae b a) fun c=>Cq.ret c
def ZgC:(Int×Ze×Ze)->Cq (Ze×Ze):=
 Cq.loop fun e=>match e with|(c,a,b)=>if 1<c then (if (Int.tmod c 2)=1 then Cq.fail else (Cq.bind (Zae a a) fun d=>Cq.ret (.inl (i64.wrap (Int.tdiv c 2),d,b)))) else (Cq.ret (.inr (a,b)))
def Zcs(d:Ze)(e:Int):Cq Ze:=
 Cq.bind (ZaV 1) fun a=>Cq.next (ZgC (e,d,a)) fun f=>match f with|(b,c)=>Zbq b c
def ZbN(a:Ze):Cq Ze:=
 Cq.ret a
def ZbO(a:Int)(b:Ze)(c:Ze):Cq ((Int×Ze)⊕Ze):=
 Cq.bind (Zer b c) fun d=>Cq.ret (.inl (i64.wrap (a+1),d))
def ZdE(f:(List Ze))(c:Zb):(Int×Ze)->Cq Ze:=
 Cq.loop fun g=>match g with|(a,b)=>if a<8 then (Cq.chk (0<=a/\a<8) (if 0<(getF c.m a) then (Cq.at' f a fun h=>Cq.bind (Zcs h (getF c.m a)) fun d=>Cq.bind (Zae b d) fun e=>Cq.ret (.inl (i64.wrap (a+1),e))) else (Cq.ret (.inl (i64.wrap (a+1),b))))) else (Cq.ret (.inr b))
def Zhl(d:(List Zb))(g:(List Ze)):(Int×Ze)->Cq Ze:=
 Cq.loop fun h=>match h with|(a,b)=>if a<(d.length:Int) then (Cq.at' d a fun e=>Cq.next (ZdE g e (0,e.c)) fun i=>match i with|f=>ZbO a b f) else (Cq.ret (.inr b))
def Zbu(c:(List Zb))(d:(List Ze)):Cq Ze:=
 Cq.bind (ZaV 0) fun a=>Cq.next (Zhl c d (0,a)) fun e=>match e with|b=>ZbN b
def ZcR:Cq Bool:=
 Cq.ret true
def Zjm(b:Za)(c:(List Ze)):Int->Cq (Bool⊕Unit):=
 Cq.loop fun f=>match f with|a=>if a<(b.neqs.length:Int) then (Cq.at' b.neqs a fun g=>Cq.bind (Zbu g.p c) fun d=>Cq.bind (Zah d) fun e=>if e=0 then (Cq.ret (.inr (.inl false))) else (Cq.ret (.inl (i64.wrap (a+1))))) else (Cq.ret (.inr (.inr ())))
def Zbs(a:Za)(b:(List Ze)):Cq Bool:=
 Cq.next (Zjm a b 0) fun d=>match d with | .inl c=>Cq.ret c | .inr ()=>ZcR
def Zjn(b:Za)(c:(List Ze)):Int->Cq (Bool⊕Unit):=
 Cq.loop fun f=>match f with|a=>if a<(b.eqs.length:Int) then (Cq.at' b.eqs a fun g=>Cq.bind (Zbu g.p c) fun d=>Cq.bind (Zah d) fun e=>if ¬ e=0 then (Cq.ret (.inr (.inl false))) else (Cq.ret (.inl (i64.wrap (a+1))))) else (Cq.ret (.inr (.inr ())))
def ZcS(a:Za)(b:(List Ze)):Cq Bool:=
 Cq.next (Zjn a b 0) fun d=>match d with | .inl c=>Cq.ret c | .inr ()=>Zbs a b
def ZcT(b:(List Int))(a:Int)(c:(List Ze))(d:Ze)(e:Int):Cq ((Int×(List Ze))⊕(List Ze)):=
 Cq.chk ((b.length:Int)≠0) (Cq.at' b (Int.tmod e (b.length:Int)) fun g=>Cq.bind (Zak (i64.wrap (Int.tmod g 4))) fun f=>Cq.at' (c.set a.toNat d) a fun h=>Cq.ret (.inl (i64.wrap (a+1),(c.set a.toNat d).set a.toNat f)))
def ZeH(b:Za)(c:Int):(Int×Int)->Cq Int:=
 Cq.loop fun f=>match f with|(d,a)=>Cq.at' b.vars c fun g=>if a<(g.size:Int) then (Cq.at' b.vars c fun e=>Cq.chk (0<=(a:Int)/\a<(e.size:Int)) (Cq.ret (.inl (i64.wrap (d+(i64.wrap (byteAt e a))),i64.wrap (a+1))))) else (Cq.ret (.inr d))
def Zbt(e:Za)(f:(List Int))(a:Int)(c:(List Ze))(d:Ze)(b:Bool):Cq ((Int×(List Ze))⊕(List Ze)):=
 if b=true then (Cq.next (ZeH e a (0,0)) fun h=>match h with|g=>ZcT f a c d g) else (Cq.ret (.inl (i64.wrap (a+1),c.set a.toNat d)))
def ZcQ(b:Za)(c:(List Int)):(Int×(List Ze))->Cq (List Ze):=
 Cq.loop fun f=>match f with|(a,d)=>if a<8 then (Cq.bind (Zak 0) fun e=>Cq.at' d a fun g=>if a<(b.vars.length:Int) then (Zbt b c a d e (decide (0<(c.length:Int)))) else (Zbt b c a d e false)) else (Cq.ret (.inr d))
def ZbJ(a:Za)(b:(List Int)):Cq Bool:=
 Cq.next (ZcQ a b (0,(List.replicate 8 (Ze.mk (Zj.mk false []) (Zj.mk false []))))) fun d=>match d with|c=>ZcS a c
def Zb4(d:(List Int))(a:Bool)(b:Za×(List Zk)×Int):Cq Bool:=
 Cq.bind (ZbJ b.1 d) fun c=>match c with|false=>(Cq.ret false)|true=>(Cq.ret a)
def ZcP(g:ZG)(d:(List Int)):Cq Bool:=
 Cq.bind (Zdk) fun a=>if (!a)=true then (Cq.ret false) else (Cq.bind (Zil g) fun b=>Cq.bind (Zac b.1 b.2.1 b.2.2) fun c=>if ¬ c.2.2=0 then (Cq.ret a) else (Cq.bind (ZbJ b.2.1 d) fun e=>match e with|false=>(Cq.ret a)|true=>(Cq.bind (ZbJ b.2.2 d) fun f=>if (!f)=true then (Cq.ret a) else (Zb4 d a c))))
end Go.EL

namespace Go.EL
open Go.IntKind (i8 i16 i32 i64 u8 u16 u32 u64)
open Go
namespace Cq
open Go.IntKind (i8 i16 i32 i64 u8 u16 u32 u64)
variable {α β σ ρ:Type}
theorem wp_ret{a:α}{p:α->Prop}:(Cq.ret a).wp p↔p a:=Iff.rfl
theorem Zd{q:Prop}[Decidable q]{c d:Cq α}{p:α->Prop}:(if q then c else d).wp p↔if q then c.wp p else d.wp p:=by split <;> rfl
theorem Zp5{A:σ->Prop}{Φ:ρ->Prop}{s:σ}:Out A Φ (.inl s)↔A s:=Iff.rfl
theorem Ret.then{c:Cq α}{a:α}(h:c.Ret a){p:α->Prop}(hp:p a):c.wp p:=c.mono (fun b e=>by rw[e]; exact hp) h
end Cq
theorem wrap64{x:Int}(h:-9223372036854775808<=x/\x<=9223372036854775807):i64.wrap x=x:=IntWalk.i64_in _ h
theorem getF8{a:Fin 8->Int}{i:Int}(h:0<=i/\i<8):getF a i=a ⟨i.toNat,by omega⟩:=Zft a (by omega)
end Go.EL
namespace Go.EL
open Go.IntKind (i8 i16 i32 i64 u8 u16 u32 u64)
open Go
theorem Zeo(a b:M):(ZbL a b).Ret (cmpM a b):=by
 unfold ZbL
 by_cases h:a=b
 .rw[if_pos h]
  subst h
  exact (ZgX a).symm
 rw[if_neg h]
 have hne:∀ k:Nat,k<=8->(∀ j:Fin 8,j.val<k->a j=b j)->k<8:=fun k hk hj=>by
  rcases Nat.lt_or_ge k 8 with h1|h1
  .exact h1
  exact absurd (funext fun j=>hj j (by omega)) h
 refine Cq.Zf2 (I:=fun i:Int=>0<=i/\i<8/\∀ j:Fin 8,(j.val:Int)<i->a j=b j) (m:=fun i=>(8-i).toNat) (fun i hi=>?_) 0 ⟨by omega,by omega,fun j hj=>by omega⟩
 obtain⟨h0,h8,hj⟩:=hi
 refine⟨⟨h0,h8⟩,⟨h0,h8⟩,?_⟩
 rw[Cq.Zd,getF8 ⟨h0,h8⟩,getF8 ⟨h0,h8⟩]
 split
 .rename_i e
  have hj':∀ j:Fin 8,(j.val:Int)<i+1->a j=b j:=fun j hj1=>by
   by_cases h2:(j.val:Int)<i
   .exact hj j h2
   have:j=⟨i.toNat,by omega⟩:=Fin.ext (by simp; omega)
   rw[this]; exact e
  have:=hne (i+1).toNat (by omega) (fun j hj1=>hj' j (by omega))
  rw[Cq.wp_ret,Cq.Zp5,wrap64 (by omega)]
  exact⟨⟨by omega,by omega,hj'⟩,by omega⟩
 rename_i e
 refine⟨⟨h0,h8⟩,⟨h0,h8⟩,?_⟩
 rw[Cq.Zd,getF8 ⟨h0,h8⟩,getF8 ⟨h0,h8⟩]
 have hk:i.toNat<8:=by omega
 split
 .rename_i e2
  exact (Zm2 a b hk (fun j hj1=>hj j (by omega)) e2).symm
 rename_i e2
 exact (Zm1 a b hk (fun j hj1=>hj j (by omega)) (by omega)).symm
end Go.EL

namespace Go.EL
open Go.IntKind (i8 i16 i32 i64 u8 u16 u32 u64)
open Go
instance decInt:DecidableEq Zj:=fun ⟨a1,a2⟩ ⟨b1,b2⟩=>decidable_of_iff (a1=b1/\a2=b2) (by simp)
instance decRat:DecidableEq Ze:=fun ⟨a1,a2⟩ ⟨b1,b2⟩=>decidable_of_iff (a1=b1/\a2=b2) (by simp)
def ratI(n:Int):Ze:=⟨⟨decide (n<0),if n=0 then [] else [(n.natAbs:Int)]⟩,⟨false,[1]⟩⟩
def between(l h:Int)(p:Int->Bool):Bool:=(List.range (h-l+1).toNat).all fun k=>p (l+(k:Int))
theorem Zr{l h:Int}{p:Int->Bool}(hb:between l h p=true){x:Int}(h1:l<=x)(h2:x<=h):p x=true:=by
 have:=List.all_eq_true.1 hb (x-l).toNat (List.mem_range.2 (by omega))
 rwa [show l+((x-l).toNat:Int)=x by omega] at this
def runs{α:Type}[DecidableEq α](n:Nat)(c:Cq α)(a:α):Bool:=decide (c.ev n=some a)
theorem ZA{α:Type}[DecidableEq α]{n:Nat}{c:Cq α}{a:α}(h:runs n c a=true):c.Ret a:=Cq.Ret.Zdt n (of_decide_eq_true h)
theorem ZoW:(between (-8) 8 fun n=>runs 20 (Zak n) (ratI n))=true:=by decide +kernel
theorem Zp9:(between (-12) 12 fun a=>between (-3) 3 fun b=>runs 30 (Zhz (ratI a) (ratI b)) (ratI (a+b)))=true:=by decide +kernel
theorem Zqu:(between (-3) 3 fun a=>runs 30 (ZjM (ratI a) (ratI 1)) (ratI a))=true:=by decide +kernel
theorem ZiS:(between (-15) 15 fun a=>runs 30 (Zah (ratI a)) (if a<0 then -1 else if a=0 then 0 else 1))=true:=by decide +kernel
theorem ZoS:(between (-15) 15 fun a=>a == 0 || runs 30 (Zew (ratI a)) true)=true:=by decide +kernel
theorem ZpJ:(between (-12) 12 fun a=>a == 0 || runs 30 (Zig (ratI a) (ratI a)) true)=true:=by decide +kernel
theorem ZkP:(between (-12) 12 fun a=>a == 0 || runs 30 (Z7 (ratI a)) (if a<0 then -1 else if a=0 then 0 else 1))=true:=by decide +kernel
theorem ZnT:(between (-12) 12 fun a=>a == 0 || runs 30 (Zb2 (ratI a)) true)=true:=by decide +kernel
theorem ZpG:(between (-12) 12 fun a=>a == 0 || between (-12) 12 fun b=>b == 0 || runs 30 (ZbQ (ratI a) (ratI b)) (if a<b then -1 else if a=b then 0 else 1))=true:=by decide +kernel
end Go.EL

namespace Go.EL
open Go.IntKind (i8 i16 i32 i64 u8 u16 u32 u64)
open Go Go.RowKit
instance inhM:Inhabited M:=⟨fun _=>0⟩
def mixM(k:Nat)(f a:M):M:=fun i=>if i.val<k then f i else a i
theorem ZlV{k:Nat}(f a:M)(h:k<8):setF (mixM k f a) k (f ⟨k,h⟩)=mixM (k+1) f a:=by
 funext i; unfold setF mixM
 by_cases e:i.val=k
 .have:i=⟨k,h⟩:=Fin.ext e
  subst this; simp
 have e1:(i.val<k+1)=(i.val<k):=by apply propext; omega
 simp[e,e1]
theorem Zon{k:Nat}(f a:M)(h:k<8):mixM k f a ⟨k,h⟩=a ⟨k,h⟩:=by unfold mixM; simp
theorem ZlW(f a:M):mixM 0 f a=a:=by funext i; simp[mixM]
theorem Znb{k:Nat}(f a:M)(h:¬ k<8):mixM k f a=f:=by
 funext i
 have:i.val<k:=by omega
 simp[mixM,this]
theorem Zo3{p:Fin 8->Prop}{k:Nat}(hall:∀ i:Fin 8,i.val<k->p i)(h:k<8)(hk:p ⟨k,h⟩):∀ i:Fin 8,i.val<k+1->p i:=fun i hi=>by
 by_cases e:i.val=k
 .have:i=⟨k,h⟩:=Fin.ext e
  rw[this]; exact hk
 exact hall i (by omega)
def Ok(a:M):Prop:=∀ i,0<=a i/\a i<=65535
instance decOk (a:M):Decidable (Ok a):=inferInstanceAs (Decidable (∀ i,0<=a i/\a i<=65535))
def p2:Nat->Int
 | 0=>1
 | k+1=>2*p2 k
theorem Zq9:∀ {k:Nat},k<=8->1<=p2 k/\p2 k<=256
 | 0,_=>by decide
 | 1,_=>by decide
 | 2,_=>by decide
 | 3,_=>by decide
 | 4,_=>by decide
 | 5,_=>by decide
 | 6,_=>by decide
 | 7,_=>by decide
 | 8,_=>by decide
 | k+9,h=>by omega
theorem Zlg{k:Nat}(h:k<8):1<=p2 k/\p2 k<=128:=by
 have:=Zq9 (k:=k+1) (by omega)
 simp only[p2] at this
 omega
theorem Zl2{k:Nat}(h:k<8):u8.wrap (1*2 ^ (min (k:Int).toNat u8.bits))=p2 k:=by
 match k,h with
 | 0,_=>decide|1,_=>decide|2,_=>decide|3,_=>decide|4,_=>decide|5,_=>decide|6,_=>decide|7,_=>decide
theorem Zqz{k:Nat}(h:k<8):u8.wrap (p2 k)=p2 k:=by
 match k,h with
 | 0,_=>decide|1,_=>decide|2,_=>decide|3,_=>decide|4,_=>decide|5,_=>decide|6,_=>decide|7,_=>decide
def suppTo(a:M):Nat->Int
 | 0=>0
 | k+1=>suppTo a k+(if h:k<8 then (if 0<a ⟨k,h⟩ then p2 k else 0) else 0)
def suppM(a:M):Int:=suppTo a 8
theorem ZdF(a:M):∀ k:Nat,0<=suppTo a k/\suppTo a k<p2 k
 | 0=>by simp[suppTo,p2]
 | k+1=>by
  have ih:=ZdF a k
  simp only[suppTo,p2]
  split
  .split <;> omega
  omega
theorem ZjD(a:M){k:Nat}(h:k<8)(ha:0<a ⟨k,h⟩):suppTo a k+p2 k=suppTo a (k+1):=by simp[suppTo,h,ha]
theorem ZkS(a:M){k:Nat}(h:k<8)(ha:¬ 0<a ⟨k,h⟩):suppTo a k=suppTo a (k+1):=by simp[suppTo,h,ha]
theorem Zos:∀ k:Fin 8,∀ s:Fin 128,s.val<2 ^ k.val->u8.wrap (BitVec.ofInt u8.bits (s.val:Int) ||| BitVec.ofInt u8.bits (p2 k.val)).toNat=s.val+p2 k.val:=by decide +kernel
theorem ZdC:∀ k:Nat,p2 k=((2 ^ k:Nat):Int)
 | 0=>rfl
 | k+1=>by rw[p2,ZdC k,Nat.pow_succ]; omega
theorem Zq8{k:Nat}(h:k<8){s:Int}(h0:0<=s)(h1:s<p2 k):u8.wrap (BitVec.ofInt u8.bits s ||| BitVec.ofInt u8.bits (p2 k)).toNat=s+p2 k:=by
 obtain⟨n,rfl⟩:=Int.eq_ofNat_of_zero_le h0
 have h2:=Zlg h
 rw[ZdC] at h1
 exact Zos ⟨k,h⟩ ⟨n,by rw[ZdC] at h2; omega⟩ (by simp; omega)
theorem ZqK{k:Nat}(h:k<8){s:Int}(h0:0<=s)(h1:s<p2 k):u8.wrap (s+p2 k)=s+p2 k:=by
 have h2:=Zlg h
 simp only[IntKind.wrap,IntKind.bits,IntKind.signed,Bool.false_and,Bool.false_eq_true,if_false]
 omega
theorem Cq.Zm{σ ρ:Type}{step:σ->Cq (σ⊕ρ)}{Φ:ρ->Prop}(n:Nat)(I:Nat->σ->Prop)(h:∀ k s,k<n->I k s->(step s).wp (Out (fun s'=>I (k+1) s') Φ))(hend:∀ s,I n s->(step s).wp (Out (fun _=>False) Φ)):
  ∀ {s:σ},I 0 s->(Cq.loop step s).wp Φ:=by
 have key:∀ d k s,k+d=n->I k s->(Cq.loop step s).wp Φ:=by
  intro d
  induction d with
  | zero=>intro k s hk hs; rw[Nat.add_zero] at hk; subst hk; exact Cq.Zad ((step s).mono (Out.mono (fun _ h=>h.elim) (fun _ x=>x)) (hend s hs))
  | succ d ih=>intro k s hk hs; exact Cq.Zad ((step s).mono (Out.mono (fun s' h'=>ih (k+1) s' (by omega) h') (fun _ x=>x)) (h k s (by omega) hs))
 exact fun {s} hs=>key n 0 s (by omega) hs
theorem wrapN{k:Nat}(h:k<1000000000000):i64.wrap ((k:Int)+1)=((k+1:Nat):Int):=by rw[wrap64 (by omega)]; simp
theorem idxN{α:Type}{l:List α}{k:Nat}(h:k<l.length):(0:Int)<=(k:Int)/\l[(k:Int).toNat]? = some l[k]:=⟨by omega,by simp[h]⟩
theorem getFN{a:M}{k:Nat}(h:k<8):getF a (k:Int)=a ⟨k,h⟩:=by rw[getF8 (by omega)]; rfl
theorem ZmA(m:M):(Zcp m).Ret (suppM m):=by
 show (Cq.loop _ _).wp _
 refine Cq.Zm 8 (fun k s=>s=(suppTo m k,(k:Int))) (fun k s hk hs=>?_) (fun s hs=>?_) rfl
 .subst hs
  refine Cq.wp.yes (p:=(k:Int)<8) (by omega) ?_
  refine⟨by omega,?_⟩
  rw[Cq.Zd,getFN hk]
  have hb:=ZdF m k
  split
  .rename_i h
   refine⟨by omega,?_⟩
   show _=_
   rw[wrapN (by omega),Zl2 hk,Zq8 hk hb.1 hb.2,ZjD m hk h]
  rename_i h
  show _=_
  rw[wrapN (by omega),ZkS m hk h]
 subst hs
 refine Cq.wp.no (p:=((8:Nat):Int)<8) (by omega) ?_
 rfl
theorem Ze1(a b:M):(Zfq a b).Ret (cmpM a b):=by
 refine Cq.Zm 8 (fun k s=>s=(k:Int)/\∀ i:Fin 8,i.val<k->a i=b i) (fun k s hk hs=>?_) (fun s hs=>?_) ⟨rfl,fun i hi=>by omega⟩
 .obtain⟨rfl,hi⟩:=hs
  rw[Cq.Zd,if_pos (by omega)]
  refine⟨by omega,by omega,?_⟩
  rw[Cq.Zd,getFN hk,getFN hk]
  split
  .rename_i h
   show _=_
   exact (Zm2 a b hk hi h).symm
  rename_i h
  refine⟨by omega,by omega,?_⟩
  rw[Cq.Zd]
  split
  .rename_i h2
   show _=_
   exact (Zm1 a b hk hi h2).symm
  exact⟨wrapN (by omega),Zo3 hi hk (by omega)⟩
 obtain⟨rfl,hi⟩:=hs
 rw[Cq.Zd,if_neg (by omega)]
 show _=_
 exact (Zm0 a b (fun i=>hi i i.isLt)).symm
theorem Zmo{i:Nat}(hi:i<8):(ZjN (i:Int)).Ret (p2 i):=by
 refine Cq.Zm i (fun k s=>s=(p2 k,(k:Int))) (fun k s hk hs=>?_) (fun s hs=>?_) rfl
 .subst hs
  show (if (k:Int)<(i:Int) then _ else _:Cq _).wp _
  have:=Zlg (k:=k) (by omega)
  rw[Cq.Zd,if_pos (by omega)]
  show _=_
  rw[wrapN (by omega),wrap64 (by omega)]; rfl
 subst hs
 refine Cq.wp.no (p:=(i:Int)<(i:Int)) (by omega) ?_
 exact Zqz hi
theorem Zi3(m:M):(Ze2 m).Ret (suppM m):=by
 refine Cq.Zm 8 (fun k s=>s=(suppTo m k,(k:Int))) (fun k s hk hs=>?_) (fun s hs=>?_) rfl
 .subst hs
  have h1:=ZdF m k
  refine Cq.wp.yes (p:=(k:Int)<8) (by omega) ?_
  refine⟨by omega,?_⟩
  rw[Cq.Zd,getFN hk]
  split
  .rename_i hp
   refine⟨_,Zmo hk,?_⟩
   show _=_
   rw[wrapN (by omega),ZqK hk h1.1 h1.2,ZjD m hk hp]
  rename_i hp
  show _=_
  rw[wrapN (by omega),ZkS m hk hp]
 subst hs
 refine Cq.wp.no (p:=((8:Nat):Int)<8) (by omega) ?_
 rfl
theorem Zgl{m:M}(h:Ok m):(Zex m).Ret true:=by
 refine Cq.Zm 8 (fun k s=>s=(k:Int)) (fun k s hk hs=>?_) (fun s hs=>?_) rfl
 .subst hs
  have:=h ⟨k,hk⟩
  rw[Cq.Zd,if_pos (by omega)]
  refine⟨by omega,?_⟩
  rw[Cq.Zd,getFN hk,if_neg (by omega)]
  refine⟨by omega,?_⟩
  rw[Cq.Zd,if_neg (by omega)]
  exact wrapN (by omega)
 subst hs
 rw[Cq.Zd,if_neg (by omega)]
 rfl
theorem Zko{m:M}(h:Ok m):(Zb0 m).Ret true:=by
 refine Cq.Zm 8 (fun k s=>s=(k:Int)) (fun k s hk hs=>?_) (fun s hs=>?_) rfl
 .subst hs
  have:=h ⟨k,hk⟩
  refine Cq.wp.yes (p:=(k:Int)<8) (by omega) ?_
  refine⟨by omega,?_⟩
  rw[Cq.Zd,getFN hk,if_neg (by omega),Cq.Zd,if_neg (by omega)]
  exact wrapN (by omega)
 subst hs
 refine Cq.wp.no (p:=((8:Nat):Int)<8) (by omega) ?_
 rfl
def degTo(m:M):Nat->Int
 | 0=>0
 | k+1=>degTo m k+(if h:k<8 then m ⟨k,h⟩ else 0)
def degM(m:M):Int:=degTo m 8
theorem ZfU{m:M}(h:Ok m):∀ k:Nat,0<=degTo m k/\degTo m k<=65535*k
 | 0=>by simp[degTo]
 | k+1=>by
  have ih:=ZfU h k
  simp only[degTo]
  split
  .rename_i hk; have:=h ⟨k,hk⟩; omega
  omega
theorem ZjO{m:M}(h:Ok m):(ZfK m).Ret (degM m):=by
 refine Cq.Zm 8 (fun k s=>s=(degTo m k,(k:Int))) (fun k s hk hs=>?_) (fun s hs=>?_) rfl
 .subst hs
  have h1:=ZfU h k
  have h2:=h ⟨k,hk⟩
  refine Cq.wp.yes (p:=(k:Int)<8) (by omega) ?_
  refine⟨by omega,?_⟩
  show _=_
  rw[wrapN (by omega),getFN hk,wrap64 (by omega),degTo,dif_pos hk]
 subst hs
 refine Cq.wp.no (p:=((8:Nat):Int)<8) (by omega) ?_
 rfl
theorem Znw{m:M}(h:Ok m):(ZcW m).Ret (degM m):=by
 refine Cq.Zm 8 (fun k s=>s=(degTo m k,(k:Int))) (fun k s hk hs=>?_) (fun s hs=>?_) rfl
 .subst hs
  have h1:=ZfU h k
  have h2:=h ⟨k,hk⟩
  refine Cq.wp.yes (p:=(k:Int)<8) (by omega) ?_
  refine⟨by omega,?_⟩
  show _=_
  rw[wrapN (by omega),getFN hk,wrap64 (by omega),degTo,dif_pos hk]
 subst hs
 refine Cq.wp.no (p:=((8:Nat):Int)<8) (by omega) ?_
 rfl
def mulM(a b:M):M:=fun i=>a i+b i
theorem Zmp{a b:M}(ha:Ok a)(hb:Ok b)(hab:Ok (mulM a b)):(ZjP a b).Ret (mulM a b,0):=by
 show (Cq.next _ _).wp _
 refine Cq.Zm 8 (fun k s=>s=((k:Int),mixM k (mulM a b) a)) (fun k s hk hs=>?_) (fun s hs=>?_) (by rw[ZlW]; rfl)
 .subst hs
  have h1:=ha ⟨k,hk⟩
  have h2:=hb ⟨k,hk⟩
  rw[Cq.Zd,if_pos (by omega)]
  refine⟨by omega,by omega,by omega,?_⟩
  show _=_
  rw[wrapN (by omega),getFN hk,getFN hk,Zon,wrap64 (by omega)]
  exact congrArg (Prod.mk _) (ZlV (mulM a b) a hk)
 subst hs
 rw[Cq.Zd,if_neg (by omega),Znb _ _ (by omega)]
 exact⟨true,Zgl hab,rfl⟩
end Go.EL

namespace Go.EL
open Go.IntKind (i8 i16 i32 i64 u8 u16 u32 u64)
open Go Go.RowKit
structure TermOk (t:Zb):Prop where
 c:∃ c:Int,t.c=ratI c/\c≠0/\-12<=c/\c<=12
 m:Ok t.m
structure PolOk (p:List Zb):Prop where
 ord:p.Pairwise fun x y=>0<cmpM x.m y.m
 trm:∀ t ∈ p,TermOk t
 len:p.length<=100
theorem TermOk.rv{t:Zb}(h:TermOk t):(Zew t.c).Ret true:=by
 obtain⟨⟨c,e,h0,h1,h2⟩,_⟩:=h
 have:=Zr ZoS (x:=c) (by omega) (by omega)
 rw[e]
 exact ZA (by simpa [h0] using this)
theorem TermOk.rs{t:Zb}(h:TermOk t):∃ s,(Zah t.c).Ret s/\s≠0:=by
 obtain⟨⟨c,e,h0,h1,h2⟩,_⟩:=h
 have:=Zr ZiS (x:=c) (by omega) (by omega)
 rw[e]
 exact⟨_,ZA this,by split <;> omega⟩
theorem TermOk.pv{t:Zb}(h:TermOk t):(Zb2 t.c).Ret true:=by
 obtain⟨⟨c,e,h0,h1,h2⟩,_⟩:=h
 have:=Zr ZnT (x:=c) (by omega) (by omega)
 rw[e]
 exact ZA (by simpa [h0] using this)
theorem TermOk.ps{t:Zb}(h:TermOk t):∃ s,(Z7 t.c).Ret s/\s≠0:=by
 obtain⟨⟨c,e,h0,h1,h2⟩,_⟩:=h
 have:=Zr ZkP (x:=c) (by omega) (by omega)
 rw[e]
 refine⟨_,ZA (by simpa [h0] using this),?_⟩
 split <;> first|omega|(split <;> omega)
theorem PolOk.at{p:List Zb}(h:PolOk p){k:Nat}(hk:k<p.length):TermOk p[k]:=h.trm _ (List.getElem_mem hk)
theorem PolOk.step{p:List Zb}(h:PolOk p){k:Nat}(hk:k+1<p.length):0<cmpM p[k].m p[k+1].m:=List.pairwise_iff_getElem.1 h.ord k (k+1) (by omega) hk (by omega)
theorem Zk7{p:List Zb}(h:PolOk p):(ZgM p).Ret true:=by
 have hl:=h.len
 refine Cq.Zm p.length (fun k s=>s=(k:Int)) (fun k s hk hs=>?_) (fun s hs=>?_) rfl
 .subst hs
  have ht:=h.at hk
  obtain⟨s,h1,h2⟩:=ht.rs
  rw[Cq.Zd,if_pos (by omega)]
  refine⟨p[k],idxN hk,true,ht.rv,p[k],idxN hk,s,h1,?_⟩
  rw[Cq.Zd,if_neg h2]
  refine⟨p[k],idxN hk,true,Zgl ht.m,?_⟩
  rw[Cq.Zd,if_neg (by decide)]
  show (ZcH p (k:Int)).wp _
  unfold ZcH
  rw[Cq.Zd]
  split
  .rename_i h0
   obtain⟨j,rfl⟩:∃ j,k=j+1:=⟨k-1,by omega⟩
   have hj:i64.wrap (((j+1:Nat):Int)-1)=(j:Int):=by rw[wrap64 (by omega)]; omega
   rw[hj]
   refine⟨p[j],idxN (by omega),p[j+1],idxN hk,_,Ze1 _ _,?_⟩
   have:=h.step hk
   rw[Cq.Zd,if_neg (by omega)]
   exact wrapN (by omega)
  exact wrapN (by omega)
 subst hs
 rw[Cq.Zd,if_neg (by omega)]
 rfl
theorem Zf8{p:List Zb}(h:PolOk p):(Zcr p).Ret true:=by
 have hl:=h.len
 refine Cq.Zm p.length (fun k s=>s=(k:Int)) (fun k s hk hs=>?_) (fun s hs=>?_) rfl
 .subst hs
  have ht:=h.at hk
  obtain⟨s,h1,h2⟩:=ht.ps
  refine Cq.wp.yes (p:=(k:Int)<(p.length:Int)) (by omega) ?_
  refine⟨p[k],idxN hk,true,ht.pv,s,h1,?_⟩
  rw[Cq.Zd,if_neg h2]
  refine⟨true,Zko ht.m,?_⟩
  rw[Cq.Zd,if_neg (by decide)]
  show (Zaw p (k:Int) p[k]).wp _
  unfold Zaw
  rw[Cq.Zd]
  split
  .rename_i h0
   obtain⟨j,rfl⟩:∃ j,k=j+1:=⟨k-1,by omega⟩
   have hj:i64.wrap (((j+1:Nat):Int)-1)=(j:Int):=by rw[wrap64 (by omega)]; omega
   rw[hj]
   refine⟨p[j],idxN (by omega),_,Zeo _ _,?_⟩
   have:=h.step hk
   rw[Cq.Zd,if_neg (by omega)]
   exact wrapN (by omega)
  exact wrapN (by omega)
 subst hs
 refine Cq.wp.no (p:=((p.length:Nat):Int)<(p.length:Int)) (by omega) ?_
 rfl
def usesTo(p:List Zb):Nat->Int
 | 0=>0
 | k+1=>u8.wrap (BitVec.ofInt u8.bits (usesTo p k) ||| BitVec.ofInt u8.bits (match p[k]? with|some t=>suppM t.m|none=>0)).toNat
def usesP(p:List Zb):Int:=usesTo p p.length
def degPTo(p:List Zb):Nat->Int
 | 0=>-1
 | k+1=>match p[k]? with|some t=>if degPTo p k<degM t.m then degM t.m else degPTo p k|none=>degPTo p k
def degP(p:List Zb):Int:=degPTo p p.length
theorem Zeb{p:List Zb}(hl:p.length<=100):(Zea p).Ret (usesP p):=by
 refine Cq.Zm p.length (fun k s=>s=(usesTo p k,(k:Int))) (fun k s hk hs=>?_) (fun s hs=>?_) rfl
 .subst hs
  refine Cq.wp.yes (p:=(k:Int)<(p.length:Int)) (by omega) ?_
  refine⟨p[k],idxN hk,_,Zi3 _,?_⟩
  show _=_
  rw[wrapN (by omega)]
  simp only[usesTo,List.getElem?_eq_getElem hk]
 subst hs
 refine Cq.wp.no (p:=((p.length:Nat):Int)<(p.length:Int)) (by omega) ?_
 rfl
theorem ZlA{p:List Zb}(hl:p.length<=100):(Zbv p).Ret (usesP p):=by
 refine Cq.Zm p.length (fun k s=>s=(usesTo p k,(k:Int))) (fun k s hk hs=>?_) (fun s hs=>?_) rfl
 .subst hs
  refine Cq.wp.yes (p:=(k:Int)<(p.length:Int)) (by omega) ?_
  refine⟨p[k],idxN hk,_,ZmA _,?_⟩
  show _=_
  rw[wrapN (by omega)]
  simp only[usesTo,List.getElem?_eq_getElem hk]
 subst hs
 refine Cq.wp.no (p:=((p.length:Nat):Int)<(p.length:Int)) (by omega) ?_
 rfl
theorem ZjR{p:List Zb}(h:PolOk p):(ZfO p).Ret (degP p):=by
 have hl:=h.len
 refine Cq.Zm p.length (fun k s=>s=(degPTo p k,(k:Int))) (fun k s hk hs=>?_) (fun s hs=>?_) rfl
 .subst hs
  refine Cq.wp.yes (p:=(k:Int)<(p.length:Int)) (by omega) ?_
  refine⟨p[k],idxN hk,_,ZjO (h.at hk).m,?_⟩
  show _=_
  rw[wrapN (by omega)]
  simp only[degPTo,List.getElem?_eq_getElem hk]
 subst hs
 refine Cq.wp.no (p:=((p.length:Nat):Int)<(p.length:Int)) (by omega) ?_
 rfl
theorem ZhO{p:List Zb}(h:PolOk p):(ZaR p).Ret (degP p):=by
 have hl:=h.len
 refine Cq.Zm p.length (fun k s=>s=(degPTo p k,(k:Int))) (fun k s hk hs=>?_) (fun s hs=>?_) rfl
 .subst hs
  refine Cq.wp.yes (p:=(k:Int)<(p.length:Int)) (by omega) ?_
  refine⟨p[k],idxN hk,_,Znw (h.at hk).m,?_⟩
  show _=_
  rw[wrapN (by omega)]
  simp only[degPTo,List.getElem?_eq_getElem hk]
 subst hs
 refine Cq.wp.no (p:=((p.length:Nat):Int)<(p.length:Int)) (by omega) ?_
 rfl
end Go.EL

namespace Go.EL
open Go.IntKind (i8 i16 i32 i64 u8 u16 u32 u64)
open Go Go.RowKit
def fitB(p:List Zb)(n:Int):Bool:=if (Int.fdiv (i64.wrap (usesP p)) (2 ^ (min (n).toNat i64.bits)))=0 then decide (degP p<=12) else false
theorem ZgQ{p:List Zb}(h:PolOk p){n:Int}(hn:0<=n):(ZfR p n).Ret (fitB p n):=by
 refine⟨true,Zk7 h,_,Zeb h.len,hn,?_⟩
 unfold fitB
 rw[Cq.Zd]
 split
 .exact⟨_,ZjR h,rfl⟩
 rfl
theorem ZjG{p:List Zb}(h:PolOk p){n:Int}(hn:0<=n):(Zfn p n).Ret (fitB p n):=by
 refine⟨true,Zf8 h,_,ZlA h.len,hn,?_⟩
 unfold fitB
 rw[Cq.Zd]
 split
 .exact⟨_,ZhO h,rfl⟩
 rfl
theorem ZjC(a:M):∀ k:Nat,k<=8->∀ i:Fin 8,(suppTo a k).toNat.testBit i.val=(decide (i.val<k) && decide (0<a i))
 | 0,_,i=>by simp[suppTo]
 | k+1,hk,i=>by
  have ih:=ZjC a k (by omega) i
  have hb:=ZdF a k
  have hk':k<8:=by omega
  rw[ZdC] at hb
  simp only[suppTo,dif_pos hk']
  by_cases hi:i.val=k
  .have e:i=⟨k,hk'⟩:=Fin.ext hi
   subst e
   by_cases hp:0<a ⟨k,hk'⟩
   .rw[if_pos hp,ZdC,show (suppTo a k+((2 ^ k:Nat):Int)).toNat=2 ^ k+(suppTo a k).toNat by omega,Nat.testBit_two_pow_add_eq,Nat.testBit_lt_two_pow (by omega)]
    simp[hp]
   rw[if_neg hp,Int.add_zero]
   show (suppTo a k).toNat.testBit k=_
   rw[Nat.testBit_lt_two_pow (by omega)]
   simp[hp]
  have e1:(decide (i.val<k+1))=decide (i.val<k):=by
   by_cases h:i.val<k
   .simp[h,show i.val<k+1 by omega]
   simp[h,show ¬ i.val<k+1 by omega]
  rw[e1,<- ih]
  by_cases hp:0<a ⟨k,hk'⟩
  .rw[if_pos hp,ZdC,show (suppTo a k+((2 ^ k:Nat):Int)).toNat=2 ^ k+(suppTo a k).toNat by omega]
   by_cases h:i.val<k
   .rw[Nat.testBit_two_pow_add_gt h]
   rw[Nat.testBit_lt_two_pow (x:=(suppTo a k).toNat) (Nat.lt_of_lt_of_le (by omega:(suppTo a k).toNat<2 ^ k) (Nat.pow_le_pow_right (by omega) (by omega)))]
   refine Nat.testBit_lt_two_pow (Nat.lt_of_lt_of_le (by have:=hb.2; omega:2 ^ k+(suppTo a k).toNat<2 ^ (k+1)) (Nat.pow_le_pow_right (by omega) (by omega)))
  rw[if_neg hp,Int.add_zero]
theorem ZoJ(a:M)(i:Fin 8):(suppM a).toNat.testBit i.val=decide (0<a i):=by
 unfold suppM
 rw[ZjC a 8 (by omega)]
 simp[i.isLt]
theorem Zmg(a:M):0<=suppM a/\suppM a<256:=ZdF a 8
theorem Zp1{a b:Nat}(ha:a<256)(hb:b<256):u8.wrap (BitVec.ofInt u8.bits (a:Int) ||| BitVec.ofInt u8.bits (b:Int)).toNat=((a ||| b:Nat):Int):=by
 have h:(BitVec.ofInt u8.bits (a:Int) ||| BitVec.ofInt u8.bits (b:Int)).toNat=a ||| b:=by
  rw[BitVec.toNat_or]
  simp only[IntKind.bits,BitVec.toNat_ofInt]
  rw[show (((a:Int) % ((2 ^ 8:Nat):Int)).toNat)=a by omega,show (((b:Int) % ((2 ^ 8:Nat):Int)).toNat)=b by omega]
 have h2:a ||| b<256:=Nat.or_lt_two_pow (n:=8) ha hb
 rw[h]
 simp only[IntKind.wrap,IntKind.bits,IntKind.signed,Bool.false_and,Bool.false_eq_true,if_false]
 omega
def usesN(p:List Zb):Nat->Nat
 | 0=>0
 | k+1=>usesN p k ||| (match p[k]? with|some t=>(suppM t.m).toNat|none=>0)
theorem ZiV(p:List Zb):∀ k,usesN p k<256
 | 0=>by simp[usesN]
 | k+1=>by
  refine Nat.or_lt_two_pow (n:=8) (ZiV p k) ?_
  split
  .rename_i t _
   have h:(suppM t.m).toNat<256:=by have:=Zmg t.m; omega
   exact h
  decide
theorem ZjH(p:List Zb):∀ k,usesTo p k=(usesN p k:Int)
 | 0=>rfl
 | k+1=>by
  have h1:=ZiV p k
  unfold usesTo usesN
  rw[ZjH p k]
  cases p[k]? with
  | none=>exact Zp1 (b:=0) h1 (by omega)
  | some t=>
   have h:=Zmg t.m
   obtain⟨n,hn⟩:=Int.eq_ofNat_of_zero_le h.1
   show u8.wrap (BitVec.ofInt u8.bits (usesN p k:Int) ||| BitVec.ofInt u8.bits (suppM t.m)).toNat=((usesN p k ||| (suppM t.m).toNat:Nat):Int)
   rw[hn]
   exact Zp1 h1 (by omega)
theorem ZkZ(p:List Zb)(i:Fin 8):∀ k,(usesN p k).testBit i.val=(p.take k).any fun t=>decide (0<t.m i)
 | 0=>by simp[usesN]
 | k+1=>by
  simp only[usesN,Nat.testBit_or,ZkZ p i k]
  cases h:p[k]? with
  | none=>
   have:p.length<=k:=List.getElem?_eq_none_iff.1 h
   simp[List.take_of_length_le this,List.take_of_length_le (show p.length<=k+1 by omega)]
  | some t=>
   rw[List.take_add_one,h]
   simp[ZoJ]
theorem Zk0(p:List Zb):usesP p=(usesN p p.length:Int):=ZjH p _
theorem ZeT(p:List Zb)(i:Fin 8):(usesP p).toNat.testBit i.val=p.any fun t=>decide (0<t.m i):=by
 rw[Zk0,Int.toNat_natCast,ZkZ,List.take_length]
theorem ZiW(p:List Zb):0<=usesP p/\usesP p<256:=by have:=ZiV p p.length; rw[Zk0]; omega
theorem Zpj(u n:Nat):Int.fdiv (u:Int) ((2:Int) ^ n)=((u >>> n:Nat):Int):=by
 rw[Nat.shiftRight_eq_div_pow,show ((2:Int) ^ n)=((2 ^ n:Nat):Int) by simp,Int.fdiv_eq_ediv_of_nonneg _ (Int.natCast_nonneg _)]
 simp
theorem Zjz(p:List Zb){n:Int}(h0:0<=n)(h8:n<=8):Int.fdiv (i64.wrap (usesP p)) (2 ^ (min (n).toNat i64.bits))=(((usesP p).toNat >>> n.toNat:Nat):Int):=by
 have:=ZiW p
 rw[wrap64 (by omega),show min n.toNat i64.bits=n.toNat by simp only[IntKind.bits]; omega]
 obtain⟨u,hu⟩:=Int.eq_ofNat_of_zero_le this.1
 rw[hu]
 exact Zpj u _
theorem Zkr(p:List Zb)(d:Int)(hd:-1<=d):∀ k,k<=p.length->(degPTo p k<=d↔∀ i (h:i<p.length),i<k->degM p[i].m<=d)
 | 0,_=>by simp[degPTo,hd]
 | k+1,hk=>by
  have ih:=Zkr p d hd k (by omega)
  have hk':k<p.length:=by omega
  simp only[degPTo,List.getElem?_eq_getElem hk']
  constructor
  .intro h i hi hik
   by_cases e:i=k
   .subst e; split at h <;> omega
   refine ih.1 ?_ i hi (by omega)
   split at h <;> omega
  intro h
  have h1:=h k hk' (by omega)
  have h2:=ih.2 fun i hi hik=>h i hi (by omega)
  split <;> omega
theorem Zm3{p:List Zb}{d:Int}(hd:-1<=d):degP p<=d↔∀ t ∈ p,degM t.m<=d:=by
 unfold degP
 rw[Zkr p d hd p.length (by omega)]
 constructor
 .intro h t ht
  obtain⟨i,hi,rfl⟩:=List.mem_iff_getElem.1 ht
  exact h i hi hi
 intro h i hi _
 exact h _ (List.getElem_mem hi)
def Within(n:Nat)(p:List Zb):Prop:=∀ t ∈ p,∀ i:Fin 8,n<=i.val->¬ 0<t.m i
theorem ZjI{p:List Zb}{n:Nat}:((usesP p).toNat >>> n=0)↔Within n p:=by
 have hb:=ZiW p
 constructor
 .intro h t ht i hi hp
  have h1:=ZeT p i
  rw[show (p.any fun t=>decide (0<t.m i))=true from List.any_eq_true.2 ⟨t,ht,decide_eq_true hp⟩] at h1
  have h2:((usesP p).toNat >>> n).testBit (i.val-n)=true:=by rw[Nat.testBit_shiftRight,show n+(i.val-n)=i.val by omega]; exact h1
  rw[h] at h2
  simp at h2
 intro h
 refine Nat.eq_of_testBit_eq fun j=>?_
 rw[Nat.testBit_shiftRight,Nat.zero_testBit]
 by_cases hj:n+j<8
 .rw[ZeT p ⟨n+j,hj⟩]
  refine List.any_eq_false.2 fun t ht=>?_
  simp only[decide_eq_true_eq]
  exact h t ht _ (by simp)
 exact Nat.testBit_lt_two_pow (Nat.lt_of_lt_of_le (show (usesP p).toNat<2 ^ 8 by omega) (Nat.pow_le_pow_right (by omega) (by omega)))
theorem Zde{p:List Zb}{n:Nat}(hn:n<=8):fitB p (n:Int)=true↔Within n p/\∀ t ∈ p,degM t.m<=12:=by
 unfold fitB
 rw[Zjz p (by omega) (by omega),Int.toNat_natCast]
 by_cases h:(usesP p).toNat >>> n=0
 .rw[if_pos (by rw[h]; rfl),decide_eq_true_eq,Zm3 (by omega)]
  exact⟨fun k=>⟨ZjI.1 h,k⟩,fun k=>k.2⟩
 rw[if_neg (by omega)]
 exact⟨fun k=>absurd k (by decide),fun k=>absurd (ZjI.2 k.1) h⟩
def Occurs(i:Fin 8)(p:List Zb):Bool:=p.any fun t=>decide (0<t.m i)
theorem Zgh(p:List Zb)(i:Fin 8):(Int.tmod (Int.fdiv (i64.wrap (usesP p)) (2 ^ (min ((i.val:Int)).toNat i64.bits))) 2=1)↔Occurs i p=true:=by
 have:=i.isLt
 rw[Zjz p (by omega) (by omega),Int.toNat_natCast]
 have h:=ZeT p i
 rw[Nat.testBit_eq_decide_div_mod_eq,<- Nat.shiftRight_eq_div_pow] at h
 unfold Occurs
 rw[<- h,decide_eq_true_eq]
 generalize (usesP p).toNat >>> i.val=z
 rw[Int.tmod_eq_emod_of_nonneg (Int.natCast_nonneg z)]
 omega
theorem ZqL{a b:Nat}(ha:a<256)(hb:b<256):u8.wrap (BitVec.ofInt u8.bits (a:Int) &&& BitVec.ofInt u8.bits (b:Int)).toNat=((a &&& b:Nat):Int):=by
 have h:(BitVec.ofInt u8.bits (a:Int) &&& BitVec.ofInt u8.bits (b:Int)).toNat=a &&& b:=by
  rw[BitVec.toNat_and]
  simp only[IntKind.bits,BitVec.toNat_ofInt]
  rw[show (((a:Int) % ((2 ^ 8:Nat):Int)).toNat)=a by omega,show (((b:Int) % ((2 ^ 8:Nat):Int)).toNat)=b by omega]
 have h2:a &&& b<=a:=Nat.and_le_left
 rw[h]
 simp only[IntKind.wrap,IntKind.bits,IntKind.signed,Bool.false_and,Bool.false_eq_true,if_false]
 omega
theorem ZoR(p:List Zb)(i:Fin 8):(¬ (u8.wrap (BitVec.ofInt u8.bits (usesP p) &&& BitVec.ofInt u8.bits (u8.wrap (1*2 ^ (min ((i.val:Int)).toNat u8.bits)))).toNat)=0)↔Occurs i p=true:=by
 have hb:=ZiW p
 have hi:=i.isLt
 have h2:=Zlg hi
 rw[Zl2 hi,ZdC]
 obtain⟨u,hu⟩:=Int.eq_ofNat_of_zero_le hb.1
 have h:=ZeT p i
 rw[hu,Int.toNat_natCast] at h
 rw[ZdC] at h2
 rw[hu,ZqL (by omega) (by omega)]
 unfold Occurs
 rw[<- h]
 constructor
 .intro hn
  cases hb:u.testBit i.val with
  | true=>rfl
  | false=>
   exfalso
   apply hn
   have:u &&& 2 ^ i.val=0:=by
    refine Nat.eq_of_testBit_eq fun j=>?_
    rw[Nat.testBit_and,Nat.testBit_two_pow,Nat.zero_testBit]
    by_cases e:i.val=j
    .subst e; simp[hb]
    simp[e]
   rw[this]; rfl
 intro ht hn
 have h3:u &&& 2 ^ i.val=0:=by omega
 have h4:(u &&& 2 ^ i.val).testBit i.val=true:=by rw[Nat.testBit_and,ht,Nat.testBit_two_pow_self]; rfl
 rw[h3] at h4
 simp at h4
end Go.EL

namespace Go.EL
open Go.IntKind (i8 i16 i32 i64 u8 u16 u32 u64)
open Go Go.RowKit
def valR(r:Ze):Int:=if r.num.neg=true then -(r.num.mag.headD 0) else r.num.mag.headD 0
theorem ZbS(c:Int):valR (ratI c)=c:=by
 unfold valR ratI
 by_cases h:c<0
 .simp[h,show ¬ c=0 by omega]; omega
 by_cases h0:c=0
 .simp[h0]
 simp[h,h0]; omega
theorem Zl4{a b:Int}(h:ratI a=ratI b):a=b:=by rw[<- ZbS a,<- ZbS b,h]
def addT:List Zb->Zb->List Zb
 | [],t=>[t]
 | x::xs,t=>if 0<cmpM x.m t.m then x::addT xs t else if cmpM x.m t.m<0 then t::x::xs else if valR x.c+valR t.c=0 then xs else ⟨ratI (valR x.c+valR t.c),x.m⟩::xs
theorem ZhW:∀ (p:List Zb) (t:Zb),(addT p t).length<=p.length+1
 | [],_=>by simp[addT]
 | x::xs,t=>by
  have ih:=ZhW xs t
  simp only[addT]
  split
  .simp; omega
  split
  .simp
  split <;> simp; omega
theorem ZgT:∀ (k:Nat) (p:List Zb) (t:Zb),k<=p.length->(∀ x ∈ p.take k,0<cmpM x.m t.m)->addT p t=p.take k++addT (p.drop k) t
 | 0,p,t,_,_=>by simp
 | k+1,[],t,h,_=>by simp at h
 | k+1,x::xs,t,h,hx=>by
  have h1:0<cmpM x.m t.m:=hx x (by simp)
  rw[addT,if_pos h1,ZgT k xs t (by simpa using h) (fun y hy=>hx y (by simp[hy]))]
  simp
def Near(p:List Zb)(t:Zb):Prop:=∀ x ∈ p,x.m=t.m->∃ a b,x.c=ratI a/\t.c=ratI b/\-12<=a/\a<=12/\-3<=b/\b<=3
theorem Zpu{p:List Zb}{t x:Zb}(h:Near p t)(hx:x ∈ p)(hm:x.m=t.m):(Zhz x.c t.c).Ret (ratI (valR x.c+valR t.c))/\∃ s,(Zah (ratI (valR x.c+valR t.c))).Ret s/\(s=0↔valR x.c+valR t.c=0):=by
 obtain⟨a,b,e1,e2,h1,h2,h3,h4⟩:=h x hx hm
 rw[e1,e2,ZbS,ZbS]
 have k1:=Zr (Zr Zp9 h1 h2) h3 h4
 have k2:=Zr ZiS (x:=a+b) (by omega) (by omega)
 refine⟨ZA k1,_,ZA k2,?_⟩
 split
 .omega
 split <;> omega
theorem Zmq{p:List Zb}(hl:p.length<=100):(Zfr p []).Ret p:=by
 show (Cq.next _ _).wp _
 refine Cq.Zm p.length (fun k s=>s=(p.take k,(k:Int),0)) (fun k s hk hs=>?_) (fun s hs=>?_) (by simp)
 .subst hs
  refine Cq.wp.yes (p:=(k:Int)<(p.length:Int)) (by omega) ?_
  unfold ZaX
  rw[Cq.Zd,if_pos (by simp)]
  unfold Zaz
  rw[Cq.Zd,if_pos rfl]
  refine⟨p[k],idxN hk,by simp[small]; omega,?_⟩
  show _=_
  rw[wrapN (by omega),List.take_append_getElem hk]
 subst hs
 show (if ((p.length:Nat):Int)<(p.length:Int) then _ else _:Cq _).wp _
 rw[Cq.Zd,if_neg (by omega),Cq.Zd,if_neg (by simp)]
 exact List.take_length
theorem ZhQ{p:List Zb}{t:Zb}(hl:p.length<=100)(hn:Near p t):(Zfr p [t]).Ret (addT p t):=by
 show (Cq.next _ _).wp _
 refine Cq.Zf2 (fun s=>(∃ i:Nat,i<=p.length/\s=(p.take i,(i:Int),0)/\∀ x ∈ p.take i,0<cmpM x.m t.m)\/(∃ i:Nat,∃ out:List Zb,i<=p.length/\s=(out,(i:Int),1)/\out++p.drop i=addT p t/\out.length<=i+1))
  (fun s=>(p.length-s.2.1.toNat)+(1-s.2.2.toNat)) (fun s hs=>?_) _ (.inl ⟨0,by omega,by simp,by simp⟩)
 have hw:i64.wrap 1=1:=by decide
 rcases hs with ⟨i,hi,rfl,hx⟩|⟨i,out,hi,rfl,ho,hlo⟩
 .by_cases hil:i<p.length
  .refine Cq.wp.yes (p:=(i:Int)<(p.length:Int)) (by omega) ?_
   unfold ZaX
   rw[Cq.Zd,if_neg (by simp),Cq.Zd,if_pos (by omega)]
   refine⟨p[i],idxN hil,t,⟨by omega,rfl⟩,_,Ze1 _ _,?_⟩
   unfold Zaz
   rw[Cq.Zd]
   have hadd:addT p t=p.take i++addT (p.drop i) t:=ZgT i p t hi hx
   have hdrop:p.drop i=p[i]::p.drop (i+1):=List.drop_eq_getElem_cons hil
   by_cases hc:0<cmpM p[i].m t.m
   .rw[if_pos (decide_eq_true hc)]
    refine⟨p[i],idxN hil,by simp[small]; omega,?_⟩
    rw[wrapN (by omega),List.take_append_getElem hil]
    refine⟨.inl ⟨i+1,by omega,rfl,fun x hx'=>?_⟩,by simp; omega⟩
    rw[<- List.take_append_getElem hil] at hx'
    rcases List.mem_append.1 hx' with h|h
    .exact hx x h
    rw[List.mem_singleton] at h; subst h; exact hc
   rw[if_neg (by simpa using hc)]
   show (ZcF p [t] 0 (p.take i) (i:Int)).wp _
   unfold ZcF
   rw[Cq.Zd,if_neg (by omega)]
   refine⟨p[i],idxN hil,t,⟨by omega,rfl⟩,_,Ze1 _ _,?_⟩
   unfold ZcE
   rw[Cq.Zd]
   by_cases hc2:cmpM p[i].m t.m<0
   .rw[if_pos (decide_eq_true hc2)]
    refine⟨t,⟨by omega,rfl⟩,by simp[small]; omega,?_⟩
    refine⟨.inr ⟨i,_,hi,rfl,?_,by simp; omega⟩,by simp[hw]⟩
    rw[hadd,hdrop,addT,if_neg hc,if_pos hc2]
    simp
   rw[if_neg (by simpa using hc2)]
   have hm:p[i].m=t.m:=ZeE (by omega)
   obtain⟨h1,s,h2,h3⟩:=Zpu hn (List.getElem_mem hil) hm
   unfold ZfN
   refine⟨p[i],idxN hil,t,⟨by omega,rfl⟩,_,h1,s,h2,?_⟩
   rw[Cq.Zd]
   by_cases h0:valR p[i].c+valR t.c=0
   .rw[if_neg (by simpa using h3.2 h0)]
    rw[wrapN (by omega)]
    refine⟨.inr ⟨i+1,_,by omega,rfl,?_,by simp; omega⟩,by simp; omega⟩
    rw[hadd,hdrop,addT,if_neg hc,if_neg hc2,if_pos h0]
   rw[if_pos (fun h=>h0 (h3.1 h))]
   refine⟨p[i],idxN hil,by simp[small]; omega,?_⟩
   rw[wrapN (by omega)]
   refine⟨.inr ⟨i+1,_,by omega,rfl,?_,by simp; omega⟩,by simp; omega⟩
   rw[hadd,hdrop,addT,if_neg hc,if_neg hc2,if_neg h0]
   simp
  obtain rfl:i=p.length:=by omega
  show (if ((p.length:Nat):Int)<(p.length:Int) then _ else _:Cq _).wp _
  rw[Cq.Zd,if_neg (by omega),Cq.Zd,if_pos (by simp)]
  unfold ZaX
  rw[Cq.Zd,if_neg (by simp),Cq.Zd,if_neg (by omega)]
  unfold Zaz
  rw[Cq.Zd,if_neg (by decide)]
  unfold ZcF
  rw[Cq.Zd,if_pos rfl]
  unfold ZcE
  rw[Cq.Zd,if_pos rfl]
  refine⟨t,⟨by omega,rfl⟩,by simp[small]; omega,?_⟩
  refine⟨.inr ⟨p.length,_,by omega,rfl,?_,by simp⟩,by simp[hw]⟩
  rw[ZgT p.length p t (by omega) hx,List.drop_length]
  simp[addT]
 by_cases hil:i<p.length
 .refine Cq.wp.yes (p:=(i:Int)<(p.length:Int)) (by omega) ?_
  unfold ZaX
  rw[Cq.Zd,if_pos (by simp)]
  unfold Zaz
  rw[Cq.Zd,if_pos rfl]
  refine⟨p[i],idxN hil,by simp[small]; omega,?_⟩
  rw[wrapN (by omega)]
  refine⟨.inr ⟨i+1,_,by omega,rfl,?_,by simp; omega⟩,by simp; omega⟩
  rw[<- ho,List.drop_eq_getElem_cons hil]
  simp
 obtain rfl:i=p.length:=by omega
 show (if ((p.length:Nat):Int)<(p.length:Int) then _ else _:Cq _).wp _
 rw[Cq.Zd,if_neg (by omega),Cq.Zd,if_neg (by simp)]
 show _=_
 rw[<- ho,List.drop_length,List.append_nil]
end Go.EL

namespace Go.EL
open Go.IntKind (i8 i16 i32 i64 u8 u16 u32 u64)
open Go Go.RowKit
structure IsPerm (π:M):Prop where
 rng:∀ i,0<=π i/\π i<8
 inj:∀ i j,π i=π j->i=j
def permTo(π m:M):Nat->M
 | 0=>fun _=>0
 | k+1=>if h:k<8 then setF (permTo π m k) (π ⟨k,h⟩).toNat (m ⟨k,h⟩) else permTo π m k
def permM(π m:M):M:=permTo π m 8
theorem ZkN{π:M}(h:IsPerm π)(m:M):∀ k,k<=8->∀ i:Fin 8,i.val<k->∀ j:Fin 8,(j.val:Int)=π i->permTo π m k j=m i
 | 0,_,i,hi,_,_=>by omega
 | k+1,hk,i,hi,j,hj=>by
  have hk':k<8:=by omega
  simp only[permTo,dif_pos hk',setF]
  have r:=h.rng ⟨k,hk'⟩
  by_cases e:i.val=k
  .have:i=⟨k,hk'⟩:=Fin.ext e
   subst this
   rw[if_pos (by omega)]
  have hne:π i≠π ⟨k,hk'⟩:=fun he=>e (congrArg Fin.val (h.inj _ _ he))
  rw[if_neg (by omega)]
  exact ZkN h m k (by omega) i (by omega) j hj
theorem Zh9{π:M}(h:IsPerm π)(m:M):∀ k,k<=8->∀ j:Fin 8,(∀ i:Fin 8,i.val<k->π i≠(j.val:Int))->permTo π m k j=0
 | 0,_,_,_=>rfl
 | k+1,hk,j,hj=>by
  have hk':k<8:=by omega
  have r:=h.rng ⟨k,hk'⟩
  have:=hj ⟨k,hk'⟩ (by simp)
  simp only[permTo,dif_pos hk',setF]
  rw[if_neg (by omega)]
  exact Zh9 h m k (by omega) j fun i hi=>hj i (by omega)
theorem Zhk{π m:M}(hm:Ok m):∀ k,Ok (permTo π m k)
 | 0=>fun _=>by simp[permTo]
 | k+1=>fun j=>by
  simp only[permTo]
  split
  .rename_i hk
   simp only[setF]
   split
   .exact hm _
   exact Zhk hm k j
  exact Zhk hm k j
theorem Zpz{π m:M}(hm:Ok m):Ok (permM π m):=Zhk hm 8
theorem ZiK{π:M}(h:IsPerm π)(m:M)(i j:Fin 8)(hj:(j.val:Int)=π i):permM π m j=m i:=ZkN h m 8 (by omega) i i.isLt j hj
theorem ZkM{π:M}(h:IsPerm π){a b:M}(e:permM π a=permM π b):a=b:=by
 funext i
 have r:=h.rng i
 have h1:=ZiK h a i ⟨(π i).toNat,by omega⟩ (by simp; omega)
 have h2:=ZiK h b i ⟨(π i).toNat,by omega⟩ (by simp; omega)
 rw[<- h1,<- h2,e]
theorem ZgZ(f:M)(x:Int)(q:Nat):∀ k,k<=8->degTo (setF f q x) k=degTo f k+(if h:q<8 then (if q<k then x-f ⟨q,h⟩ else 0) else 0)
 | 0,_=>by simp[degTo]
 | k+1,hk=>by
  have hk':k<8:=by omega
  simp only[degTo,dif_pos hk',ZgZ f x q k (by omega),setF]
  by_cases e:k=q
  .subst e
   simp[hk']
   omega
  rw[if_neg e]
  by_cases h8:q<8
  .simp only[dif_pos h8]
   by_cases hq:q<k
   .rw[if_pos hq,if_pos (by omega)]; omega
   rw[if_neg hq,if_neg (by omega)]; omega
  simp only[dif_neg h8]; omega
theorem Zkq{π:M}(h:IsPerm π)(m:M):degM (permM π m)=degM m:=by
 have key:∀ k,k<=8->degM (permTo π m k)=degTo m k:=by
  intro k
  induction k with
  | zero=>intro _; simp[permTo,degM,degTo]
  | succ k ih=>
   intro hk
   have hk':k<8:=by omega
   have r:=h.rng ⟨k,hk'⟩
   have hq:(π ⟨k,hk'⟩).toNat<8:=by omega
   simp only[permTo,dif_pos hk',degTo]
   unfold degM at ih ⊢
   rw[ZgZ _ _ _ 8 (by omega),dif_pos hq,if_pos hq,ih (by omega)]
   have:permTo π m k ⟨(π ⟨k,hk'⟩).toNat,hq⟩=0:=Zh9 h m k (by omega) _ fun i hi he=>by
    have:π i=π ⟨k,hk'⟩:=by simp at he; omega
    have:=congrArg Fin.val (h.inj _ _ this)
    simp at this; omega
   rw[this]; omega
 exact key 8 (by omega)
theorem ZnO{π:M}(h:IsPerm π){p:List Zb}{k:Nat}(hk:k<p.length):(Zfs p π (k:Int) (0,fun _=>0)).Ret (permM π p[k].m):=by
 refine Cq.Zm 8 (fun j s=>s=((j:Int),permTo π p[k].m j)) (fun j s hj hs=>?_) (fun s hs=>?_) rfl
 .subst hs
  have r:=h.rng ⟨j,hj⟩
  refine Cq.wp.yes (p:=(j:Int)<8) (by omega) ?_
  refine⟨by omega,p[k],idxN hk,by omega,by rw[getFN hj]; exact r,?_⟩
  show _=_
  rw[wrapN (by omega),getFN hj,getFN hj]
  simp only[permTo,dif_pos hj]
 subst hs
 refine Cq.wp.no (p:=((8:Nat):Int)<8) (by omega) ?_
 rfl
theorem ZqD{π:M}(h:IsPerm π){k:Nat}(hk:k<8){bx:Fin 8->Bool}(hb:∀ j,bx j=true->∃ i:Fin 8,i.val<k/\(j.val:Int)=π i):¬ getF bx (π ⟨k,hk⟩)=true:=by
 have r:=h.rng ⟨k,hk⟩
 rw[Zft bx (show (π ⟨k,hk⟩).toNat<8 by omega)]
 intro ht
 obtain⟨i,h1,h2⟩:=hb _ ht
 have:π i=π ⟨k,hk⟩:=by simp at h2; omega
 have:=congrArg Fin.val (h.inj _ _ this)
 simp at this; omega
theorem ZoA{π:M}(h:IsPerm π){k:Nat}(hk:k<8){bx:Fin 8->Bool}(hb:∀ j,bx j=true->∃ i:Fin 8,i.val<k/\(j.val:Int)=π i):∀ j,setF bx (π ⟨k,hk⟩).toNat true j=true->∃ i:Fin 8,i.val<k+1/\(j.val:Int)=π i:=by
 intro j hj
 have r:=h.rng ⟨k,hk⟩
 simp only[setF] at hj
 split at hj
 .exact⟨⟨k,hk⟩,by simp,by omega⟩
 obtain⟨i,h1,h2⟩:=hb j hj
 exact⟨i,by omega,h2⟩
theorem ZhK{π:M}(h:IsPerm π):(Zb5 π).Ret true:=by
 show (Cq.next _ _).wp _
 refine Cq.Zm 8 (fun k s=>∃ bx:Fin 8->Bool,s=((k:Int),bx)/\∀ j,bx j=true->∃ i:Fin 8,i.val<k/\(j.val:Int)=π i) (fun k s hk hs=>?_) (fun s hs=>?_) ⟨_,rfl,fun j hj=>by cases hj⟩
 .obtain⟨bx,rfl,hb⟩:=hs
  have r:=h.rng ⟨k,hk⟩
  refine Cq.wp.yes (p:=(k:Int)<8) (by omega) ?_
  refine⟨by omega,?_⟩
  rw[getFN hk,Cq.Zd,if_neg (by omega)]
  refine⟨by omega,?_⟩
  rw[Cq.Zd,if_neg (by omega)]
  refine⟨by omega,r,?_⟩
  rw[Cq.Zd,if_neg (ZqD h hk hb)]
  refine⟨by omega,r,?_⟩
  rw[wrapN (by omega)]
  exact⟨_,rfl,ZoA h hk hb⟩
 obtain⟨bx,rfl,hb⟩:=hs
 refine Cq.wp.no (p:=((8:Nat):Int)<8) (by omega) ?_
 rfl
end Go.EL

namespace Go.EL
open Go.IntKind (i8 i16 i32 i64 u8 u16 u32 u64)
open Go Go.RowKit
def permT(π:M)(t:Zb):Zb:=⟨t.c,permM π t.m⟩
def permAcc(π:M)(l:List Zb):List Zb:=l.foldl (fun acc t=>addT acc (permT π t)) []
def permP(π:M)(p:List Zb):List Zb:=permAcc π p
theorem ZlC{p:List Zb}{t:Zb}:(∀ x ∈ p,x.m≠t.m)->(addT p t).Perm (t::p):=by
 induction p with
 | nil=>intro _; exact List.Perm.refl _
 | cons x xs ih=>
  intro h
  have hx:=h x (by simp)
  simp only[addT]
  split
  .exact ((ih fun y hy=>h y (by simp[hy])).cons x).trans (List.Perm.swap _ _ _)
  split
  .exact List.Perm.refl _
  exact absurd (ZeE (by omega)) hx
theorem Zk9{a b c:M}(h1:0<cmpM a b)(h2:0<cmpM b c):0<cmpM a c:=by
 have k1:=ZbA a b
 have k2:=ZbA b c
 have k3:=ZbA a c
 have:=Zgn (a:=c) (b:=b) (c:=a) (by omega) (by omega) (.inl (by omega))
 omega
abbrev Desc(p:List Zb):Prop:=p.Pairwise fun x y=>0<cmpM x.m y.m
theorem ZgS{p:List Zb}{t:Zb}:Desc p->Desc (addT p t)/\∀ z,(∀ x ∈ p,0<cmpM z x.m)->0<cmpM z t.m->∀ y ∈ addT p t,0<cmpM z y.m:=by
 induction p with
 | nil=>intro _; exact⟨by simp[addT],fun z _ h y hy=>by simp[addT] at hy; subst hy; exact h⟩
 | cons x xs ih=>
  intro hd
  obtain⟨h1,h2⟩:=List.pairwise_cons.1 hd
  obtain⟨i1,i2⟩:=ih h2
  simp only[addT]
  split
  .rename_i hc
   refine⟨List.pairwise_cons.2 ⟨i2 _ h1 hc,i1⟩,fun z hz hzt y hy=>?_⟩
   rcases List.mem_cons.1 hy with rfl|hy
   .exact hz _ (by simp)
   exact i2 z (fun w hw=>hz w (by simp[hw])) hzt y hy
  split
  .rename_i hc
   have hc':0<cmpM t.m x.m:=by have:=ZbA x.m t.m; omega
   refine⟨List.pairwise_cons.2 ⟨fun y hy=>?_,hd⟩,fun z hz hzt y hy=>?_⟩
   .rcases List.mem_cons.1 hy with rfl|hy
    .exact hc'
    exact Zk9 hc' (h1 y hy)
   rcases List.mem_cons.1 hy with rfl|hy
   .exact hzt
   exact hz y hy
  split
  .exact⟨h2,fun z hz _ y hy=>hz y (by simp[hy])⟩
  refine⟨List.pairwise_cons.2 ⟨h1,h2⟩,fun z hz _ y hy=>?_⟩
  rcases List.mem_cons.1 hy with rfl|hy
  .exact hz x (by simp)
  exact hz y (by simp[hy])
theorem Zhj(π:M)(l:List Zb)(t:Zb):permAcc π (l++[t])=addT (permAcc π l) (permT π t):=by simp[permAcc,List.foldl_append]
theorem Za0{p:List Zb}(h:Desc p):p.Pairwise fun x y=>x.m≠y.m:=h.imp fun hp e=>by rw[e,ZgX] at hp; omega
theorem Zf6{π:M}(h:IsPerm π){p:List Zb}(hd:Desc p):∀ k,k<=p.length->(permAcc π (p.take k)).Perm ((p.take k).map (permT π))/\Desc (permAcc π (p.take k))
 | 0,_=>by simp[permAcc]
 | k+1,hk=>by
  obtain⟨h1,h2⟩:=Zf6 h hd k (by omega)
  have hk':k<p.length:=by omega
  rw[<- List.take_append_getElem hk',Zhj]
  refine⟨?_,(ZgS h2).1⟩
  have hnew:∀ x ∈ permAcc π (p.take k),x.m≠(permT π p[k]).m:=by
   intro x hx e
   obtain⟨y,hy,rfl⟩:=List.mem_map.1 (h1.mem_iff.1 hx)
   have hm:=ZkM h e
   obtain⟨i,hi,rfl⟩:=List.mem_iff_getElem.1 hy
   simp only[List.length_take] at hi
   rw[List.getElem_take] at hm
   exact List.pairwise_iff_getElem.1 (Za0 hd) i k (by omega) hk' (by omega) hm
  refine (ZlC hnew).trans ?_
  rw[List.map_append]
  exact (h1.cons _).trans (List.perm_append_comm (l₁:=[permT π p[k]]))
theorem ZdW{π:M}(h:IsPerm π){p:List Zb}(hd:Desc p):(permP π p).Perm (p.map (permT π))/\Desc (permP π p):=by
 have:=Zf6 h hd p.length (by omega)
 rwa [List.take_length] at this
theorem ZpA{π:M}(h:IsPerm π){p:List Zb}(hp:PolOk p):PolOk (permP π p):=by
 obtain⟨h1,h2⟩:=ZdW h hp.ord
 refine⟨h2,fun t ht=>?_,by rw[h1.length_eq,List.length_map]; exact hp.len⟩
 obtain⟨y,hy,rfl⟩:=List.mem_map.1 (h1.mem_iff.1 ht)
 exact⟨(hp.trm y hy).c,Zpz (hp.trm y hy).m⟩
theorem Zi4{π:M}(h:IsPerm π){p:List Zb}(hp:PolOk p):(Ze5 p π).Ret (permP π p,0):=by
 have hl:=hp.len
 refine⟨true,ZhK h,?_⟩
 show (Cq.next _ _).wp _
 refine Cq.Zm p.length (fun k s=>s=(permAcc π (p.take k),(k:Int))) (fun k s hk hs=>?_) (fun s hs=>?_) (by simp[permAcc])
 .subst hs
  obtain⟨h1,h2⟩:=Zf6 h hp.ord k (by omega)
  refine Cq.wp.yes (p:=(k:Int)<(p.length:Int)) (by omega) ?_
  refine (ZnO h hk).then ?_
  refine⟨p[k],idxN hk,_,ZhQ (by rw[h1.length_eq,List.length_map,List.length_take]; omega) (fun x hx e=>?_),?_⟩
  .obtain⟨y,hy,rfl⟩:=List.mem_map.1 (h1.mem_iff.1 hx)
   have hm:=ZkM h e
   obtain⟨i,hi,rfl⟩:=List.mem_iff_getElem.1 hy
   simp only[List.length_take] at hi
   rw[List.getElem_take] at hm
   exact absurd hm (List.pairwise_iff_getElem.1 (Za0 hp.ord) i k (by omega) hk (by omega))
  show _=_
  rw[wrapN (by omega),<- List.take_append_getElem hk,Zhj]
  rfl
 subst hs
 refine Cq.wp.no (p:=((p.length:Nat):Int)<(p.length:Int)) (by omega) ?_
 show _=_
 rw[List.take_length]; rfl
end Go.EL

namespace Go.EL
open Go.IntKind (i8 i16 i32 i64 u8 u16 u32 u64)
open Go Go.RowKit
theorem Zqr:(between 0 100 fun n=>match (Zcf (u64.wrap n)).ev 30 with|some v=>decide (0<=v/\v<1000000)|none=>false)=true:=by decide +kernel
theorem Zqs{n:Nat}(h:n<=100):∃ v,(Zcf (u64.wrap (n:Int))).Ret v/\0<=v/\v<1000000:=by
 have:=Zr Zqr (x:=(n:Int)) (by omega) (by omega)
 split at this
 .rename_i v hv
  have:=of_decide_eq_true this
  exact⟨v,Cq.Ret.Zdt 30 hv,this.1,this.2⟩
 cases this
theorem Zqb{p:List Zb}(h:Desc p){x y:Zb}(hx:x ∈ p)(hy:y ∈ p)(e:x.m=y.m):x=y:=by
 obtain⟨i,hi,rfl⟩:=List.mem_iff_getElem.1 hx
 obtain⟨j,hj,rfl⟩:=List.mem_iff_getElem.1 hy
 have key:=List.pairwise_iff_getElem.1 (Za0 h)
 rcases Nat.lt_trichotomy i j with hij|hij|hij
 .exact absurd e (key i j hi hj hij)
 .subst hij; rfl
 exact absurd e.symm (key j i hj hi hij)
theorem Zkt{p:List Zb}(h:Desc p):p.Pairwise fun x y=>¬ cmpM x.m y.m<0:=h.imp fun hp=>by omega
theorem ZjB{p ys:List Zb}(hd:Desc p)(hp:ys.Perm p)(hs:ys.Pairwise fun x y=>¬ cmpM x.m y.m<0):ys=p:=
 List.Perm.eq_of_pairwise (le:=fun x y:Zb=>¬ cmpM x.m y.m<0) (fun a b ha hb h1 h2=>by
  have:=ZbA a.m b.m
  exact Zqb hd (hp.mem_iff.1 ha) hb (ZeE (by omega))) hs (Zkt hd) hp
theorem Zlz{p l:List Zb}(hd:Desc p)(hl:p.length<=100)(hp:l.Perm p):(ZC l).Ret p:=by
 have e:=hp.length_eq
 obtain⟨v,h1,h2,h3⟩:=Zqs (n:=l.length) (by omega)
 refine⟨v,h1,p,?_,rfl⟩
 refine⟨⟨rfl,rfl,⟨h2,h3⟩,by omega⟩,fun ys ⟨k1,k2⟩=>?_⟩
 exact ZjB hd (k1.trans hp) k2
def termOf(q:M×Ze):Zb:=⟨q.2,q.1⟩
theorem Zgf{p:List Zb}(hp:PolOk p){D:List (M×Ze)}(hD:(D.map termOf).Perm p):(ZaS D).Ret p:=by
 have hl:=hp.len
 have e:=hD.length_eq
 rw[List.length_map] at e
 refine⟨⟨by omega,by omega⟩,?_⟩
 show (Cq.next _ _).wp _
 refine Cq.Zf2 (fun s=>(s.1++s.2.map termOf).Perm p) (fun s=>s.2.length) (fun s hs=>?_) _ (by simpa using hD)
 obtain⟨rv,R⟩:=s
 simp only at hs
 have hlen:=hs.length_eq
 simp only[List.length_append,List.length_map] at hlen
 refine⟨fun hR=>?_,fun R1 q R2 hR=>?_⟩
 .subst hR
  rw[List.map_nil,List.append_nil] at hs
  exact⟨_,Zlz hp.ord hl hs,rfl⟩
 subst hR
 have hmem:termOf q ∈ p:=hs.mem_iff.1 (by simp)
 obtain⟨s,h1,h2⟩:=(hp.trm _ hmem).ps
 refine⟨s,h1,?_⟩
 rw[Cq.Zd,if_pos h2]
 simp only[List.length_append,List.length_cons] at hlen
 refine⟨by simp[small]; omega,?_,?_⟩
 .refine List.Perm.trans ?_ hs
  simp only[List.map_append,List.map_cons,List.append_assoc,List.singleton_append]
  refine List.Perm.append_left rv ?_
  exact (List.perm_middle (a:=termOf q) (l₁:=R1.map termOf) (l₂:=R2.map termOf)).symm
 show (R1++R2).length<(R1++q::R2).length
 simp
theorem Zp2{m:M}(h:Ok m):∀ i,(Lit.int i64 (m i)).wf=true:=fun i=>by
 have:=h i
 simp only[Lit.wf,Bool.and_eq_true,decide_eq_true_eq]
 exact⟨Int.le_trans (by decide) this.1,Int.le_trans this.2 (by decide)⟩
end Go.EL

namespace Go.EL
open Go.IntKind (i8 i16 i32 i64 u8 u16 u32 u64)
open Go Go.RowKit
theorem ZeV{n:Int}(h1:-8<=n)(h2:n<=8):(Zak n).Ret (ratI n):=ZA (Zr ZoW h1 h2)
theorem mul_zero(m:M):mulM (fun _=>0) m=m:=by funext i; simp[mulM]
theorem Zn1{c:Int}(h1:-3<=c)(h2:c<=3){m:M}(hm:Ok m):(ZgK (ratI c) [⟨ratI 1,m⟩]).Ret (if c=0 then [] else [⟨ratI c,m⟩]):=by
 have hs:=ZA (Zr ZiS (x:=c) (by omega) (by omega))
 by_cases h0:c=0
 .subst h0
  rw[if_pos rfl]
  refine⟨([],0),⟨_,hs,?_⟩,rfl⟩
  rw[Cq.Zd,if_pos (by decide)]
  rfl
 rw[if_neg h0]
 refine⟨([⟨ratI c,m⟩],0),⟨_,hs,?_⟩,rfl⟩
 rw[Cq.Zd,if_neg (by split <;> first|omega|(split <;> omega))]
 show (Cq.next _ _).wp _
 refine Cq.Zm 1 (fun k s=>s=((if k=0 then [] else [⟨ratI c,m⟩]),(k:Int))) (fun k s hk hs=>?_) (fun s hs=>?_) rfl
 .obtain rfl:k=0:=by omega
  subst hs
  refine⟨⟨ratI 1,m⟩,⟨by omega,rfl⟩,(m,0),?_,?_⟩
  .have:=Zmp (a:=fun _=>0) (b:=m) (fun _=>⟨Int.le_refl 0,show (0:Int)<=65535 by decide⟩) hm (by rw[mul_zero]; exact hm)
   rwa [mul_zero] at this
  rw[Cq.Zd,if_neg (fun h=>h rfl)]
  exact⟨⟨ratI 1,m⟩,⟨by omega,rfl⟩,_,ZA (Zr Zqu h1 h2),by simp[small],rfl⟩
 subst hs
 rfl
def RawOk(x:ZD):Prop:=∀ v ∈ x.t,∀ j:Fin 5,-128<=v j/\v j<=127
structure MadeOk (K:Int) (n:Nat) (d:Int) (k:Nat) (p:List Zb):Prop where
 ord:Desc p
 cof:∀ t ∈ p,∃ c:Int,t.c=ratI c/\c≠0/\-K<=c/\c<=K
 mon:∀ t ∈ p,(∀ i,0<=t.m i)/\(∀ i:Fin 8,n<=i.val->t.m i=0)/\degM t.m<=d
 len:p.length<=k
theorem Zek{m:M}(h:∀ i,0<=m i):∀ k,k<=8->0<=degTo m k/\∀ i:Fin 8,i.val<k->m i<=degTo m k
 | 0,_=>by simp[degTo]
 | k+1,hk=>by
  obtain⟨h1,h2⟩:=Zek h k (by omega)
  have hk':k<8:=by omega
  have:=h ⟨k,hk'⟩
  simp only[degTo,dif_pos hk']
  refine⟨by omega,fun i hi=>?_⟩
  by_cases e:i.val=k
  .have:i=⟨k,hk'⟩:=Fin.ext e
   subst this; omega
  have:=h2 i (by omega); omega
theorem Zhi{m:M}(h:∀ i,0<=m i){d:Int}(hd:degM m<=d)(h2:d<=65535):Ok m:=fun i=>by
 have:=(Zek h 8 (by omega)).2 i i.isLt
 unfold degM at hd
 exact⟨h i,by omega⟩
theorem MadeOk.pol{K:Int}{n:Nat}{d:Int}{k:Nat}{p:List Zb}(h:MadeOk K n d k p)(hK:K<=12)(hd:d<=100)(hk:k<=100):PolOk p:=
 ⟨h.ord,fun t ht=>⟨by obtain⟨c,e,h0,h1,h2⟩:=h.cof t ht; exact⟨c,e,h0,by omega,by omega⟩,Zhi (h.mon t ht).1 (h.mon t ht).2.2 (by omega)⟩,by have:=h.len; omega⟩
theorem ZlB{p:List Zb}{t y:Zb}:y ∈ addT p t->y ∈ p\/y=t\/∃ x ∈ p,x.m=t.m/\valR x.c+valR t.c≠0/\y=⟨ratI (valR x.c+valR t.c),x.m⟩:=by
 induction p with
 | nil=>intro h; simp[addT] at h; exact .inr (.inl h)
 | cons x xs ih=>
  intro h
  simp only[addT] at h
  split at h
  .rcases List.mem_cons.1 h with rfl|h
   .exact .inl (by simp)
   rcases ih h with h|h|⟨z,h1,h2⟩
   .exact .inl (by simp[h])
   .exact .inr (.inl h)
   exact .inr (.inr ⟨z,by simp[h1],h2⟩)
  split at h
  .rcases List.mem_cons.1 h with rfl|h
   .exact .inr (.inl rfl)
   exact .inl h
  have hm:x.m=t.m:=ZeE (by omega)
  split at h
  .exact .inl (by simp[h])
  rename_i hne
  rcases List.mem_cons.1 h with rfl|h
  .exact .inr (.inr ⟨x,by simp,hm,hne,rfl⟩)
  exact .inl (by simp[h])
theorem MadeOk.add{K:Int}{n:Nat}{d:Int}{k:Nat}{p:List Zb}(h:MadeOk K n d k p){c:Int}{m:M}(hK:0<=K)(h0:c≠0)(h1:-3<=c)(h2:c<=3)(hm:(∀ i,0<=m i)/\(∀ i:Fin 8,n<=i.val->m i=0)/\degM m<=d):
  MadeOk (K+3) n d (k+1) (addT p ⟨ratI c,m⟩):=by
 refine⟨(ZgS h.ord).1,fun t ht=>?_,fun t ht=>?_,by have:=ZhW p ⟨ratI c,m⟩; have:=h.len; omega⟩
 .rcases ZlB ht with ht|rfl|⟨x,hx,hxm,hne,rfl⟩
  .obtain⟨a,e,k0,k1,k2⟩:=h.cof t ht
   exact⟨a,e,k0,by omega,by omega⟩
  .exact⟨c,rfl,h0,by omega,by omega⟩
  obtain⟨a,e,k0,k1,k2⟩:=h.cof x hx
  simp only[ZbS,e] at hne ⊢
  exact⟨a+c,rfl,hne,by omega,by omega⟩
 rcases ZlB ht with ht|rfl|⟨x,hx,hxm,hne,rfl⟩
 .exact h.mon t ht
 .exact hm
 exact h.mon x hx
theorem MadeOk.grow{K K':Int}{n:Nat}{d:Int}{k k':Nat}{p:List Zb}(h:MadeOk K n d k p)(h1:K<=K')(h2:k<=k'):MadeOk K' n d k' p:=
 ⟨h.ord,fun t ht=>by obtain⟨a,e,k0,k1,k2⟩:=h.cof t ht; exact⟨a,e,k0,by omega,by omega⟩,h.mon,by have:=h.len; omega⟩
theorem MadeOk.near{K:Int}{n:Nat}{d:Int}{k:Nat}{p:List Zb}(h:MadeOk K n d k p)(hK:K<=12){c:Int}{m:M}(h1:-3<=c)(h2:c<=3):Near p ⟨ratI c,m⟩:=fun x hx _=>by
 obtain⟨a,e,k0,k1,k2⟩:=h.cof x hx
 exact⟨a,c,e,rfl,by omega,by omega,h1,h2⟩
def absI(n:Int):Int:=if n<0 then -n else n
theorem Zp8{n:Int}(h1:-128<=n)(h2:n<=127):(ZhA n).Ret (absI n):=by
 unfold ZhA absI
 by_cases h:n<0
 .rw[if_pos h,if_pos h]
  show _=_
  simp (disch:=omega) only[wrap64]
  omega
 rw[if_neg h,if_neg h]
 exact wrap64 (by omega)
theorem Zbf{a b:Int}(ha:0<=a)(hb:0<b):0<=Int.tmod a b/\Int.tmod a b<b:=by
 rw[Int.tmod_eq_emod_of_nonneg ha]
 exact⟨Int.emod_nonneg _ (by omega),Int.emod_lt_of_pos _ hb⟩
theorem tmod4{a:Int}(h1:-128<=a)(h2:a<=127):-3<=Int.tmod a 4/\Int.tmod a 4<=3:=by
 by_cases h:0<=a
 .have:=Zbf (b:=4) h (by omega); omega
 have:=Zbf (a:=-a) (b:=4) (by omega) (by omega)
 rw[Int.neg_tmod] at this
 omega
def rawTo(v:Fin 5->Int)(d:Int):Nat->Int×M
 | 0=>(d,fun _=>0)
 | j+1=>((rawTo v d j).1-Int.tmod (absI (getF v ((j+1:Nat):Int))) ((rawTo v d j).1+1),setF (rawTo v d j).2 j (Int.tmod (absI (getF v ((j+1:Nat):Int))) ((rawTo v d j).1+1)))
theorem ZiQ{v:Fin 5->Int}{d:Int}(hd:0<=d):∀ j,j<=4->0<=(rawTo v d j).1/\(∀ i,0<=(rawTo v d j).2 i)/\(∀ i:Fin 8,j<=i.val->(rawTo v d j).2 i=0)/\degM (rawTo v d j).2+(rawTo v d j).1=d
 | 0,_=>⟨hd,fun _=>Int.le_refl 0,fun _ _=>rfl,by simp[rawTo,degM,degTo]⟩
 | j+1,hj=>by
  obtain⟨h0,h1,h2,h3⟩:=ZiQ (v:=v) hd j (by omega)
  have ha:0<=absI (getF v ((j+1:Nat):Int)):=by unfold absI; split <;> omega
  have hm:=Zbf ha (show 0<(rawTo v d j).1+1 by omega)
  simp only[rawTo]
  refine⟨by omega,fun i=>?_,fun i hi=>?_,?_⟩
  .simp only[setF]; split
   .exact hm.1
   exact h1 i
  .simp only[setF]; rw[if_neg (by omega)]; exact h2 i (by omega)
  unfold degM at h3 ⊢
  rw[ZgZ _ _ _ 8 (by omega),dif_pos (by omega),if_pos (by omega),h2 _ (by simp)]
  omega
def rawM(v:Fin 5->Int)(d:Int)(n:Nat):M:=(rawTo v d n).2
theorem Znf{v:Fin 5->Int}{d:Int}(hd:0<=d){n:Nat}(hn:n<=4):(∀ i,0<=rawM v d n i)/\(∀ i:Fin 8,n<=i.val->rawM v d n i=0)/\degM (rawM v d n)<=d:=by
 obtain⟨h0,h1,h2,h3⟩:=ZiQ (v:=v) hd n hn
 exact⟨h1,h2,by unfold rawM; omega⟩
theorem ZnY{x:ZD}(hx:RawOk x){n:Nat}(hn:n<=4){d:Int}(hd0:0<=d)(hd:d<=100){k:Nat}(hk:k<x.t.length):
  (ZhR x (n:Int) (k:Int) (d,0,fun _=>0)).Ret (rawM x.t[k] d n):=by
 refine Cq.Zm n (fun j s=>s=((rawTo x.t[k] d j).1,(j:Int),(rawTo x.t[k] d j).2)) (fun j s hj hs=>?_) (fun s hs=>?_) rfl
 .subst hs
  obtain⟨h0,h1,h2,h3⟩:=ZiQ (v:=x.t[k]) hd0 j (by omega)
  have hb:=(Zek h1 8 (by omega)).1
  have hj8:j<8:=by omega
  have hr:=hx _ (List.getElem_mem hk)
  show (if (j:Int)<(n:Int) then _ else _:Cq _).wp _
  rw[Cq.Zd,if_pos (by omega),Cq.Zd,if_pos (by omega)]
  have hw:i64.wrap (1+(j:Int))=((j+1:Nat):Int):=by rw[wrap64 (by omega)]; omega
  have hw2:i64.wrap ((rawTo x.t[k] d j).1+1)=(rawTo x.t[k] d j).1+1:=wrap64 (by unfold degM at h3; omega)
  rw[hw,hw2]
  have hg:getF x.t[k] ((j+1:Nat):Int)=x.t[k] ⟨j+1,by omega⟩:=Zft _ (by simp; omega)
  have hm:=Zbf (a:=absI (getF x.t[k] ((j+1:Nat):Int))) (b:=(rawTo x.t[k] d j).1+1) (by unfold absI; split <;> omega) (by omega)
  refine⟨x.t[k],idxN hk,by omega,_,Zp8 (by rw[hg]; exact (hr _).1) (by rw[hg]; exact (hr _).2),by omega,by omega,by omega,?_⟩
  show _=_
  have hs8:∀ e:Int,getF (setF (rawTo x.t[k] d j).2 (j:Int).toNat e) (j:Int)=e:=fun e=>by rw[getFN hj8]; simp[setF]
  rw[hs8,wrapN (by omega),wrap64 (by unfold degM at h3; omega)]
  rfl
 subst hs
 refine Cq.wp.no (p:=(n:Int)<(n:Int)) (by omega) ?_
 rfl
def madeTo(x:ZD)(n:Nat)(d:Int):Nat->List Zb
 | 0=>[]
 | k+1=>match x.t[k]? with
  | some v=>if Int.tmod (getF v 0) 4=0 then madeTo x n d k else addT (madeTo x n d k) ⟨ratI (Int.tmod (getF v 0) 4),rawM v d n⟩
  | none=>madeTo x n d k
theorem raw0{x:ZD}(hx:RawOk x){v:Fin 5->Int}(hv:v ∈ x.t):-3<=Int.tmod (getF v 0) 4/\Int.tmod (getF v 0) 4<=3:=by
 have:=hx v hv 0
 rw[Zft v (by decide)]
 exact tmod4 this.1 this.2
theorem Zha{x:ZD}(hx:RawOk x){n:Nat}(hn:n<=4){d:Int}(hd:0<=d):∀ k:Nat,MadeOk (3*k) n d k (madeTo x n d k)
 | 0=>⟨List.Pairwise.nil,fun t ht=>by simp[madeTo] at ht,fun t ht=>by simp[madeTo] at ht,by simp[madeTo]⟩
 | k+1=>by
  have ih:=Zha hx hn hd k
  simp only[madeTo]
  split
  .rename_i v hv
   have hr:=raw0 hx (List.mem_of_getElem? hv)
   split
   .exact ih.grow (by omega) (by omega)
   rename_i h0
   exact (ih.add (by omega) h0 hr.1 hr.2 (Znf hd hn)).grow (by omega) (by omega)
  exact ih.grow (by omega) (by omega)
def madeP(x:ZD)(n:Nat)(d:Int)(k:Nat):List Zb:=madeTo x n d (min k x.t.length)
theorem Zpo{x:ZD}(hx:RawOk x){n:Nat}(hn:n<=4){d:Int}(hd:0<=d)(k:Nat):MadeOk (3*k) n d k (madeP x n d k):=(Zha hx hn hd _).grow (by omega) (by omega)
theorem Zo0{x:ZD}(hx:RawOk x){n:Nat}(hn:n<=4){d:Int}(hd0:0<=d)(hd:d<=100){k:Nat}(hk:k<=4):(Zii x (n:Int) d (k:Int)).Ret (madeP x n d k):=by
 refine Cq.Zm (min k x.t.length) (fun j s=>s=(madeTo x n d j,(j:Int))) (fun j s hj hs=>?_) (fun s hs=>?_) rfl
 .subst hs
  have hj':j<x.t.length:=by omega
  have ih:=Zha hx hn hd0 j
  have hr:=raw0 hx (List.getElem_mem hj')
  show (if (j:Int)<(x.t.length:Int) then _ else _:Cq _).wp _
  rw[Cq.Zd,if_pos (by omega),Cq.Zd,if_pos (by omega)]
  show (Cq.next _ _).wp _
  refine (ZnY hx hn hd0 hd hj').then ?_
  have hw:i64.wrap (Int.tmod (getF x.t[j] 0) 4)=Int.tmod (getF x.t[j] 0) 4:=wrap64 (by omega)
  have hm:=Znf (v:=x.t[j]) hd0 hn
  refine⟨x.t[j],idxN hj',_,(by rw[hw]; exact ZeV (by omega) (by omega)),_,ZeV (by omega) (by omega),_,Zn1 hr.1 hr.2 (Zhi hm.1 hm.2.2 (by omega)),?_⟩
  have hlen:=ih.len
  by_cases h0:Int.tmod (getF x.t[j] 0) 4=0
  .rw[if_pos h0]
   refine⟨_,Zmq (by omega),?_⟩
   show _=_
   rw[wrapN (by omega)]
   simp only[madeTo,List.getElem?_eq_getElem hj',if_pos h0]
  rw[if_neg h0]
  refine⟨_,ZhQ (by omega) (ih.near (by omega) hr.1 hr.2),?_⟩
  show _=_
  rw[wrapN (by omega)]
  simp only[madeTo,List.getElem?_eq_getElem hj',if_neg h0]
 subst hs
 show (if ((min k x.t.length:Nat):Int)<(x.t.length:Int) then _ else _:Cq _).wp _
 by_cases h:min k x.t.length<x.t.length
 .rw[Cq.Zd,if_pos (by omega),Cq.Zd,if_neg (by omega)]
  rfl
 rw[Cq.Zd,if_neg (by omega)]
 rfl
end Go.EL

namespace Go.EL
open Go.IntKind (i8 i16 i32 i64 u8 u16 u32 u64)
open Go Go.RowKit
def letterB(b:Int):Bool:=decide (65<=b/\b<=90) || decide (97<=b/\b<=122)
def restB(b:Int):Bool:=decide (48<=b/\b<=57) || decide (b=95)
def charB(i:Nat)(b:Int):Bool:=letterB b || (decide (0<i) && restB b)
def nameB(s:ByteArray):Bool:=decide (1<=s.size/\s.size<=12) && (List.range s.size).all fun i=>charB i (byteAt s (i:Int))
theorem ZhG{s:ByteArray}{i:Nat}(hi:i<s.size)(h:charB i (byteAt s (i:Int))=false):nameB s=false:=by
 unfold nameB
 rw[Bool.and_eq_false_iff]
 right
 rw[List.all_eq_false]
 exact⟨i,List.mem_range.2 hi,by rw[h]; decide⟩
theorem ZlX{s:ByteArray}(h1:1<=s.size/\s.size<=12)(h:∀ i,i<s.size->charB i (byteAt s (i:Int))=true):nameB s=true:=by
 unfold nameB
 rw[decide_eq_true h1,Bool.true_and,List.all_eq_true]
 exact fun i hi=>h i (List.mem_range.1 hi)
theorem Zjo(b:Int):(ZcJ b).Ret (letterB b):=by
 unfold ZcJ letterB
 by_cases h1:65<=b <;> by_cases h2:b<=90 <;> by_cases h3:97<=b <;> simp[h1,h2,h3] <;> first|rfl|omega
theorem ZnH(b:Int):(Zch b).Ret (restB b):=by
 unfold Zch restB
 by_cases h1:48<=b <;> by_cases h2:b<=57 <;> simp[h1,h2] <;> first|rfl|omega
theorem Zll(s:ByteArray):(Zed s).Ret (nameB s):=by
 unfold Zed
 by_cases h1:(s.size:Int)<1
 .rw[if_pos h1]
  show false=nameB s
  unfold nameB
  rw[decide_eq_false (by omega),Bool.false_and]
 rw[if_neg h1]
 by_cases h2:12<(s.size:Int)
 .rw[if_pos h2]
  show false=nameB s
  unfold nameB
  rw[decide_eq_false (by omega),Bool.false_and]
 rw[if_neg h2]
 refine⟨by omega,_,Zjo _,?_⟩
 rw[Cq.Zd]
 cases h3:letterB (byteAt s 0) with
 | false=>
  rw[if_pos (by decide)]
  exact (ZhG (i:=0) (by omega) (by unfold charB; rw[show ((0:Nat):Int)=0 from rfl,h3]; simp)).symm
 | true=>
  rw[if_neg (by decide)]
  show (Cq.next _ _).wp _
  refine Cq.Zm (s.size-1) (fun k st=>st=((k+1:Nat):Int)/\∀ i,i<k+1->charB i (byteAt s (i:Int))=true) (fun k st hk hs=>?_) (fun st hs=>?_) ⟨rfl,fun i hi=>?_⟩
  .obtain⟨rfl,hi⟩:=hs
   have hstep:∀ {b:Int},b=byteAt s ((k+1:Nat):Int)->charB (k+1) b=true->∀ i,i<k+1+1->charB i (byteAt s (i:Int))=true:=by
    intro b hb hc i hik
    by_cases e:i=k+1
    .subst e; rw[<- hb]; exact hc
    exact hi i (by omega)
   rw[Cq.Zd,if_pos (by omega)]
   refine⟨by omega,_,Zjo _,?_⟩
   cases h4:letterB (byteAt s ((k+1:Nat):Int)) with
   | true=>exact⟨wrapN (by omega),hstep rfl (by unfold charB; rw[h4]; rfl)⟩
   | false=>
    have hno:restB (byteAt s ((k+1:Nat):Int))=false->false=nameB s:=fun h=>(ZhG (i:=k+1) (by omega) (by unfold charB; rw[h4,h]; simp)).symm
    have hyes:restB (byteAt s ((k+1:Nat):Int))=true->∀ i,i<k+1+1->charB i (byteAt s (i:Int))=true:=fun h=>hstep rfl (by unfold charB; rw[h4,h]; simp)
    refine⟨by omega,?_⟩
    rw[Cq.Zd]
    unfold restB at hno hyes
    split
    .refine⟨by omega,?_⟩
     rw[Cq.Zd]
     split
     .rename_i a b
      exact⟨wrapN (by omega),hyes (by rw[decide_eq_true ⟨a,b⟩]; rfl)⟩
     rename_i a b
     refine⟨by omega,?_⟩
     rw[Cq.Zd]
     split
     .rename_i c
      exact hno (by rw[decide_eq_false (fun h=>b h.2),decide_eq_false c]; rfl)
     rename_i c
     exact⟨wrapN (by omega),hyes (by rw[decide_eq_true (Classical.not_not.1 c)]; simp)⟩
    rename_i a
    refine⟨by omega,?_⟩
    rw[Cq.Zd]
    split
    .rename_i c
     exact hno (by rw[decide_eq_false (fun h=>a h.1),decide_eq_false c]; rfl)
    rename_i c
    exact⟨wrapN (by omega),hyes (by rw[decide_eq_true (Classical.not_not.1 c)]; simp)⟩
  .obtain⟨rfl,hi⟩:=hs
   rw[Cq.Zd,if_neg (by omega)]
   exact (ZlX (by omega) fun i hik=>hi i (by omega)).symm
  obtain rfl:i=0:=by omega
  unfold charB
  rw[show ((0:Nat):Int)=0 from rfl,h3]; rfl
theorem Zit(s:ByteArray)(i:Nat):((s.get! i).toNat:Int)=byteAt s (i:Int):=by
 unfold byteAt
 simp only[Int.toNat_natCast]
 congr 2
theorem ZnF{s:ByteArray}{p:Nat}(h:byteAt s (p:Int)<128):((Utf8.decode s p).1:Int)=byteAt s (p:Int)/\(Utf8.decode s p).2=1:=by
 have hb:=Zit s p
 unfold Utf8.decode
 simp only[Nat.add_zero]
 rw[if_pos (by omega)]
 exact⟨hb,rfl⟩
theorem decode_high{s:ByteArray}{p:Nat}(h:128<=byteAt s (p:Int)):128<=((Utf8.decode s p).1:Int):=by
 have hb:=Zit s p
 unfold Utf8.decode
 simp only[Nat.add_zero,Utf8.runeError]
 rw[if_neg (by omega)]
 split
 .split
  .rename_i h; omega
  omega
 split
 .split
  .rename_i h; simp at h; omega
  omega
 split
 .split
  .rename_i h; simp at h; omega
  omega
 omega
theorem Zfi{b:Int}(h:128<=b):letterB b=false:=by unfold letterB; rw[decide_eq_false (by omega),decide_eq_false (by omega)]; rfl
theorem Zhn{b:Int}(h:128<=b):restB b=false:=by unfold restB; rw[decide_eq_false (by omega),decide_eq_false (by omega)]; rfl
theorem ZnG(s:ByteArray):(Zcg s).Ret (nameB s):=by
 unfold Zcg
 by_cases h1:(s.size:Int)<1
 .rw[if_pos h1]
  show false=nameB s
  unfold nameB
  rw[decide_eq_false (by omega),Bool.false_and]
 rw[if_neg h1]
 by_cases h2:12<(s.size:Int)
 .rw[if_pos h2]
  show false=nameB s
  unfold nameB
  rw[decide_eq_false (by omega),Bool.false_and]
 rw[if_neg h2]
 show (Cq.next _ _).wp _
 refine Cq.Zm s.size (fun k st=>st=k/\∀ i,i<k->charB i (byteAt s (i:Int))=true) (fun k st hk hs=>?_) (fun st hs=>?_) ⟨rfl,fun i hi=>by omega⟩
 .obtain⟨rfl,hi⟩:=hs
  have hstep:charB st (byteAt s (st:Int))=true->∀ i,i<st+1->charB i (byteAt s (i:Int))=true:=by
   intro hc i hik
   by_cases e:i=st
   .subst e; exact hc
   exact hi i (by omega)
  have hrune:letterB ((Utf8.decode s st).1:Int)=letterB (byteAt s (st:Int))/\restB ((Utf8.decode s st).1:Int)=restB (byteAt s (st:Int))/\(byteAt s (st:Int)<128->(Utf8.decode s st).2=1):=by
   by_cases hb:byteAt s (st:Int)<128
   .obtain⟨e1,e2⟩:=ZnF hb
    rw[e1]; exact⟨rfl,rfl,fun _=>e2⟩
   have hd:=decode_high (s:=s) (p:=st) (by omega)
   rw[Zfi hd,Zhn hd,Zfi (by omega),Zhn (by omega)]
   exact⟨rfl,rfl,fun h=>absurd h hb⟩
  obtain⟨e1,e2,e3⟩:=hrune
  have hk3:(ZK s st (letterB ((Utf8.decode s st).1:Int))).wp (Out (fun s'=>s'=st+1/\∀ i,i<st+1->charB i (byteAt s (i:Int))=true) (fun ov=>(match ov with | .inl rv1=>Cq.ret rv1 | .inr ()=>Zat:Cq Bool).wp fun a=>a=nameB s)):=by
   unfold ZK
   rw[e1]
   have hlow:letterB (byteAt s (st:Int))=true\/restB (byteAt s (st:Int))=true->(Utf8.decode s st).2=1:=fun h=>e3 (by
    by_cases hb:byteAt s (st:Int)<128
    .exact hb
    rw[Zfi (by omega),Zhn (by omega)] at h; simp at h)
   cases hl:letterB (byteAt s (st:Int)) with
   | true=>
    rw[if_pos rfl]
    exact⟨by rw[hlow (.inl hl)],hstep (by unfold charB; rw[hl]; rfl)⟩
   | false=>
    rw[if_neg (by decide),Cq.Zd]
    split
    .rename_i h0
     obtain rfl:st=0:=by omega
     exact (ZhG (i:=0) (by omega) (by unfold charB; rw[hl]; simp)).symm
    rename_i h0
    refine⟨_,ZnH _,?_⟩
    rw[e2,Cq.Zd]
    cases hr:restB (byteAt s (st:Int)) with
    | false=>
     rw[if_pos (by decide)]
     exact (ZhG (i:=st) hk (by unfold charB; rw[hl,hr]; simp)).symm
    | true=>
     rw[if_neg (by decide)]
     exact⟨by rw[hlow (.inr hr)],hstep (by unfold charB; rw[hl,hr,decide_eq_true (by omega)]; rfl)⟩
  have hlet:∀ {b:Bool},letterB ((Utf8.decode s st).1:Int)=b->(ZK s st b).wp (Out (fun s'=>s'=st+1/\∀ i,i<st+1->charB i (byteAt s (i:Int))=true) (fun ov=>(match ov with | .inl rv1=>Cq.ret rv1 | .inr ()=>Zat:Cq Bool).wp fun a=>a=nameB s)):=fun h=>by subst h; exact hk3
  show (if st<s.size then _ else _:Cq _).wp _
  rw[Cq.Zd,if_pos hk]
  generalize ((Utf8.decode s st).1:Int)=c at *
  rw[Cq.Zd]
  split
  .rename_i a
   rw[Cq.Zd]
   split
   .rename_i b
    exact hlet (by unfold letterB; rw[decide_eq_true ⟨a,b⟩]; rfl)
   rename_i b
   rw[Cq.Zd]
   split
   .rename_i d
    refine hlet ?_
    unfold letterB
    rw[decide_eq_false (fun h=>b h.2),Bool.false_or]
    exact decide_eq_decide.2 ⟨fun h=>h.2,fun h=>⟨d,h⟩⟩
   rename_i d
   exact hlet (by unfold letterB; rw[decide_eq_false (fun h=>b h.2),decide_eq_false (fun h=>d h.1)]; rfl)
  rename_i a
  rw[Cq.Zd]
  split
  .rename_i d
   omega
  rename_i d
  exact hlet (by unfold letterB; rw[decide_eq_false (fun h=>a h.1),decide_eq_false (fun h=>d h.1)]; rfl)
 obtain⟨rfl,hi⟩:=hs
 refine Cq.wp.no (p:=s.size<s.size) (by omega) ?_
 exact (ZlX (by omega) hi).symm
end Go.EL

namespace Go.EL
open Go.IntKind (i8 i16 i32 i64 u8 u16 u32 u64)
open Go Go.RowKit
structure EqsOk (n:Nat) (next:Int) (l:List Zc):Prop where
 len:l.length<=12
 ids:∀ q ∈ l,1<=q.id/\q.id<next
 inc:l.Pairwise fun a b=>a.id<b.id
 pol:∀ q ∈ l,PolOk q.p/\fitB q.p (n:Int)=true
structure Good (s:Za):Prop where
 vars:s.vars.length<=4
 name:∀ v ∈ s.vars,nameB v=true
 diff:s.vars.Pairwise fun a b=>a≠b
 next:1<=s.next/\s.next<=1000000
 eqs:EqsOk s.vars.length s.next s.eqs
 neqs:EqsOk s.vars.length s.next s.neqs
 apart:∀ a ∈ s.eqs,∀ b ∈ s.neqs,a.id≠b.id
def idKey(l:List Int):List (Int×Bool):=l.map fun i=>(i,true)
theorem Zog{l:List Int}{i:Int}(h:i ∉ l):mput (idKey l) i true=idKey (l++[i])/\mget (idKey l) i=none:=by
 have hn:∀ p ∈ idKey l,p.1≠i:=fun p hp e=>by
  obtain⟨j,hj,rfl⟩:=List.mem_map.1 hp
  exact h (e ▸ hj)
 exact⟨by rw[ZaP hn]; simp[idKey],Zdn hn⟩
def idsOf(l:List Zc):List Int:=l.map (·.id)
theorem Zdf{l:List Zc}(h:l.Pairwise fun a b=>a.id<b.id){k:Nat}(hk:k<l.length):l[k].id ∉ idsOf (l.take k):=fun hm=>by
 obtain⟨q,hq,e⟩:=List.mem_map.1 hm
 obtain⟨i,hi,rfl⟩:=List.mem_iff_getElem.1 hq
 simp only[List.length_take] at hi
 rw[List.getElem_take] at e
 have:=List.pairwise_iff_getElem.1 h i k (by omega) hk (by omega)
 omega
theorem Zi6{s:Za}(hv:s.vars.length<=4)(hnx:s.next<=1000000){l:List Zc}(h:EqsOk s.vars.length s.next l){m:List Int}(hm:∀ q ∈ l,q.id ∉ m)(hml:m.length<=100):
  (ZeR s l (0,idKey m)).Ret (.inr (idKey (m++idsOf l))):=by
 have hl:=h.len
 refine Cq.Zm l.length (fun k st=>st=((k:Int),idKey (m++idsOf (l.take k)))) (fun k st hk hs=>?_) (fun st hs=>?_) (by simp[idsOf])
 .subst hs
  have hid:=h.ids _ (List.getElem_mem hk)
  obtain⟨hp,hf⟩:=h.pol _ (List.getElem_mem hk)
  have hnew:l[k].id ∉ m++idsOf (l.take k):=fun hh=>by
   rcases List.mem_append.1 hh with hh|hh
   .exact hm _ (List.getElem_mem hk) hh
   exact Zdf h.inc hk hh
  obtain⟨hput,hget⟩:=Zog hnew
  have hwf:(Lit.int i64 l[k].id).wf=true:=by
   simp only[Lit.wf,Bool.and_eq_true,decide_eq_true_eq]
   exact⟨Int.le_trans (by decide) hid.1,Int.le_trans (Int.le_of_lt (Int.lt_of_lt_of_le hid.2 hnx)) (by decide)⟩
  have hk5:(Zbw s (k:Int) (idKey (m++idsOf (l.take k))) l[k]).wp (Out (fun s'=>s'=(((k+1:Nat):Int),idKey (m++idsOf (l.take (k+1))))) (fun a=>a=(.inr (idKey (m++idsOf l)):Bool⊕List (Int×Bool)))):=by
   refine⟨⟨hwf,?_⟩,true,ZjG hp (by omega) |> (hf ▸ ·),?_⟩
   .rw[hput]
    simp[idKey,idsOf,small]; omega
   rw[Cq.Zd,if_neg (by decide)]
   show _=_
   have e:idsOf (l.take (k+1))=idsOf (l.take k)++[l[k].id]:=by
    unfold idsOf
    rw[<- List.take_append_getElem hk,List.map_append]
    rfl
   rw[hput,wrapN (by omega),List.append_assoc,e]
  refine Cq.wp.yes (p:=(k:Int)<(l.length:Int)) (by omega) ?_
  refine⟨l[k],idxN hk,?_⟩
  rw[Cq.Zd,if_neg (by omega),Cq.Zd,if_neg (by omega)]
  refine⟨hwf,?_⟩
  rw[hget,Cq.Zd,if_neg (by simp),Cq.Zd]
  split
  .rename_i h0
   obtain⟨j,rfl⟩:∃ j,k=j+1:=⟨k-1,by omega⟩
   have hj:i64.wrap (((j+1:Nat):Int)-1)=(j:Int):=by rw[wrap64 (by omega)]; omega
   rw[hj]
   have:=List.pairwise_iff_getElem.1 h.inc j (j+1) (by omega) hk (by omega)
   refine⟨l[j],idxN (by omega),?_⟩
   rw[Cq.Zd,if_neg (by omega)]
   exact hk5
  exact hk5
 subst hs
 show (if ((l.length:Nat):Int)<(l.length:Int) then _ else _:Cq _).wp _
 rw[Cq.Zd,if_neg (by omega),List.take_length]
 rfl
def nameKey(l:List ByteArray):List (ByteArray×Bool):=l.map fun i=>(i,true)
theorem ZmK{l:List ByteArray}{i:ByteArray}(h:i ∉ l):mput (nameKey l) i true=nameKey (l++[i])/\mget (nameKey l) i=none:=by
 have hn:∀ p ∈ nameKey l,p.1≠i:=fun p hp e=>by
  obtain⟨j,hj,rfl⟩:=List.mem_map.1 hp
  exact h (e ▸ hj)
 exact⟨by rw[ZaP hn]; simp[nameKey],Zdn hn⟩
theorem Zhh{v:ByteArray}(h:nameB v=true):v.size<=12:=by
 unfold nameB at h
 rw[Bool.and_eq_true,decide_eq_true_eq] at h
 exact h.1.2
theorem Zn3{s:Za}(h:Good s):(Zbx s).Ret true:=by
 have he:=h.eqs.len
 show (Cq.next _ _).wp _
 refine Cq.Zm 2 (fun k st=>st=((k:Int),idKey (if k=0 then [] else if k=1 then idsOf s.eqs else idsOf s.eqs++idsOf s.neqs))) (fun k st hk hs=>?_) (fun st hs=>?_) rfl
 .subst hs
  rcases (show k=0\/k=1 by omega) with rfl|rfl
  .refine⟨s.eqs,⟨by omega,rfl⟩,?_⟩
   rw[Cq.Zd,if_neg (by omega)]
   show (Cq.next _ _).wp _
   refine (Zi6 h.vars h.next.2 h.eqs (m:=[]) (fun _ _=>by simp) (by simp)).then ?_
   rfl
  have hne:=h.neqs.len
  refine⟨s.neqs,⟨by omega,rfl⟩,?_⟩
  rw[Cq.Zd,if_neg (by omega)]
  show (Cq.next _ _).wp _
  refine (Zi6 h.vars h.next.2 h.neqs (m:=idsOf s.eqs) (fun q hq hm=>?_) (by simp[idsOf]; omega)).then ?_
  .obtain⟨a,ha,e⟩:=List.mem_map.1 hm
   exact h.apart a ha q hq e
  rfl
 subst hs
 rfl
theorem Zce{s:Za}(h:Good s):(Zas s).Ret true:=by
 have hv:=h.vars
 have hn:=h.next
 unfold Zas
 rw[if_neg (by omega),if_neg (by omega),if_neg (by omega)]
 show (Cq.next _ _).wp _
 refine Cq.Zm s.vars.length (fun k st=>st=((k:Int),nameKey (s.vars.take k))) (fun k st hk hs=>?_) (fun st hs=>?_) rfl
 .subst hs
  have hnew:s.vars[k] ∉ s.vars.take k:=fun hm=>by
   obtain⟨i,hi,e⟩:=List.mem_iff_getElem.1 hm
   simp only[List.length_take] at hi
   rw[List.getElem_take] at e
   exact List.pairwise_iff_getElem.1 h.diff i k (by omega) hk (by omega) e
  obtain⟨hput,hget⟩:=ZmK hnew
  have hnm:=h.name _ (List.getElem_mem hk)
  have hsz:=Zhh hnm
  refine Cq.wp.yes (p:=(k:Int)<(s.vars.length:Int)) (by omega) ?_
  refine⟨s.vars[k],idxN hk,true,hnm ▸ ZnG _,by omega,?_⟩
  rw[hget,Cq.Zd,if_neg (by simp),hput]
  refine⟨⟨by omega,by simp[nameKey,small]; omega⟩,?_⟩
  show _=_
  rw[wrapN (by omega),List.take_append_getElem hk]
 subst hs
 refine Cq.wp.no (p:=((s.vars.length:Nat):Int)<(s.vars.length:Int)) (by omega) ?_
 exact Zn3 h
end Go.EL

namespace Go.EL
open Go.IntKind (i8 i16 i32 i64 u8 u16 u32 u64)
open Go Go.RowKit
def findFrom(id:Int):List Zc->Nat->Int
 | [],_=>-1
 | x::xs,k=>if x.id=id then (k:Int) else findFrom id xs (k+1)
def findI(l:List Zc)(id:Int):Int:=findFrom id l 0
theorem Zaq{l:List Zc}(hl:l.length<=100)(id:Int):(Zcj l id).Ret (findI l id):=by
 refine Cq.Zm l.length (fun k s=>s=(k:Int)/\findI l id=findFrom id (l.drop k) k) (fun k s hk hs=>?_) (fun s hs=>?_) ⟨rfl,rfl⟩
 .obtain⟨rfl,he⟩:=hs
  rw[List.drop_eq_getElem_cons hk] at he
  simp only[findFrom] at he
  rw[Cq.Zd,if_pos (by omega)]
  refine⟨l[k],idxN hk,?_⟩
  rw[Cq.Zd]
  split
  .rename_i h
   rw[if_pos h] at he
   exact he.symm
  rename_i h
  rw[if_neg h] at he
  exact⟨wrapN (by omega),he⟩
 obtain⟨rfl,he⟩:=hs
 rw[Cq.Zd,if_neg (by omega)]
 rw[List.drop_length] at he
 exact he.symm
def idxFrom(v:ByteArray):List ByteArray->Nat->Int
 | [],_=>-1
 | x::xs,k=>if x=v then (k:Int) else idxFrom v xs (k+1)
def idxI(l:List ByteArray)(v:ByteArray):Int:=idxFrom v l 0
theorem ZkA{s:Za}(hl:s.vars.length<=100)(v:ByteArray):(ZeA s v).Ret (idxI s.vars v):=by
 refine Cq.Zm s.vars.length (fun k st=>st=(k:Int)/\idxI s.vars v=idxFrom v (s.vars.drop k) k) (fun k st hk hs=>?_) (fun st hs=>?_) ⟨rfl,rfl⟩
 .obtain⟨rfl,he⟩:=hs
  rw[List.drop_eq_getElem_cons hk] at he
  simp only[idxFrom] at he
  rw[Cq.Zd,if_pos (by omega)]
  refine⟨s.vars[k],idxN hk,?_⟩
  rw[Cq.Zd]
  split
  .rename_i h
   rw[if_pos h] at he
   exact he.symm
  rename_i h
  rw[if_neg h] at he
  exact⟨wrapN (by omega),he⟩
 obtain⟨rfl,he⟩:=hs
 rw[Cq.Zd,if_neg (by omega)]
 rw[List.drop_length] at he
 exact he.symm
theorem Zki{l:List ByteArray}(hl:l.length<=100)(v:ByteArray):(Z0 l v).Ret (idxI l v):=by
 refine Cq.Zm l.length (fun k st=>st=(k:Int)/\idxI l v=idxFrom v (l.drop k) k) (fun k st hk hs=>?_) (fun st hs=>?_) ⟨rfl,rfl⟩
 .obtain⟨rfl,he⟩:=hs
  rw[List.drop_eq_getElem_cons hk] at he
  simp only[idxFrom] at he
  rw[Cq.Zd,if_pos (by omega)]
  refine⟨l[k],idxN hk,?_⟩
  rw[Cq.Zd]
  split
  .rename_i h
   rw[if_pos h.symm] at he
   exact he.symm
  rename_i h
  rw[if_neg (fun e=>h e.symm)] at he
  exact⟨wrapN (by omega),he⟩
 obtain⟨rfl,he⟩:=hs
 rw[Cq.Zd,if_neg (by omega)]
 rw[List.drop_length] at he
 exact he.symm
theorem Zby{l:List ByteArray}(hl:l.length<=100)(v:ByteArray):(ZB l v).Ret (decide (0<=idxI l v)):=⟨_,Zki hl v,rfl⟩
def dropL(l:List Zc)(id:Int):List Zc:=l.filter fun q=>decide (¬ q.id=id)
theorem ZF{α:Type}{l:List α}{k:Nat}(hk:k<l.length)(p:α->Bool):(l.take (k+1)).filter p=(l.take k).filter p++(if p l[k]=true then [l[k]] else []):=by
 rw[<- List.take_append_getElem hk,List.filter_append]
 congr 1
 by_cases h:p l[k]=true <;> simp[h]
theorem ZfV{l:List Zc}(hl:l.length<=100)(id:Int):(Zdb l id).Ret (dropL l id):=by
 show (Cq.next _ _).wp _
 refine Cq.Zm l.length (fun k s=>s=(dropL (l.take k) id,(k:Int))) (fun k s hk hs=>?_) (fun s hs=>?_) rfl
 .subst hs
  have e:=ZF hk fun q=>decide (¬ q.id=id)
  have hlen:(dropL (l.take k) id).length<=k:=Nat.le_trans (List.length_filter_le _ _) (by simp; omega)
  refine Cq.wp.yes (p:=(k:Int)<(l.length:Int)) (by omega) ?_
  refine⟨l[k],idxN hk,?_⟩
  rw[Cq.Zd]
  split
  .rename_i h
   refine⟨l[k],idxN hk,by simp[small]; omega,?_⟩
   show _=_
   rw[wrapN (by omega)]
   unfold dropL at *
   rw[e,if_pos (decide_eq_true h)]
  rename_i h
  show _=_
  rw[wrapN (by omega)]
  unfold dropL at *
  rw[e,if_neg (by simpa using h),List.append_nil]
 subst hs
 show (if ((l.length:Nat):Int)<(l.length:Int) then _ else _:Cq _).wp _
 rw[Cq.Zd,if_neg (by omega),List.take_length]
 rfl
def putL(l:List Zc)(x:Zc):List Zc:=l.filter (fun q=>decide (q.id<x.id))++x::l.filter fun q=>decide (x.id<q.id)
theorem filter_all{l:List Zc}{p:Zc->Bool}(h:∀ q ∈ l,p q=true):l.filter p=l:=List.filter_eq_self.2 h
theorem filter_none{l:List Zc}{p:Zc->Bool}(h:∀ q ∈ l,p q=false):l.filter p=[]:=List.filter_eq_nil_iff.2 fun q hq=>by rw[h q hq]; decide
theorem Zd1{l:List Zc}(hl:l.length<=100)(hi:l.Pairwise fun a b=>a.id<b.id)(x:Zc):(Zcy l x).Ret (putL l x):=by
 show (Cq.next _ _).wp _
 refine Cq.Zm l.length (fun k s=>(s=(l.take k,false,(k:Int))/\∀ q ∈ l.take k,q.id<x.id)\/(s=(putL (l.take k) x,true,(k:Int))/\∃ q ∈ l.take k,x.id<=q.id)) (fun k s hk hs=>?_) (fun s hs=>?_) (.inl ⟨rfl,by simp⟩)
 .have elt:=ZF hk fun q=>decide (q.id<x.id)
  have egt:=ZF hk fun q=>decide (x.id<q.id)
  have hlen:(putL (l.take k) x).length<=2*k+1:=by
   unfold putL
   have h1:=List.length_filter_le (fun q:Zc=>decide (q.id<x.id)) (l.take k)
   have h2:=List.length_filter_le (fun q:Zc=>decide (x.id<q.id)) (l.take k)
   simp only[List.length_append,List.length_cons,List.length_take] at *
   omega
  have hmem:l[k] ∈ l.take (k+1):=by rw[<- List.take_append_getElem hk]; exact List.mem_append_right _ (List.mem_singleton.2 rfl)
  rcases hs with ⟨rfl,hs⟩|⟨rfl,q,hq,hqx⟩
  .rw[Cq.Zd,if_pos (by omega),Cq.Zd,if_neg (by decide)]
   refine⟨l[k],idxN hk,?_⟩
   have e1:(l.take k).filter (fun q=>decide (q.id<x.id))=l.take k:=filter_all fun q hq=>decide_eq_true (hs q hq)
   have e2:(l.take k).filter (fun q=>decide (x.id<q.id))=[]:=filter_none fun q hq=>decide_eq_false (by have:=hs q hq; omega)
   rw[Cq.Zd]
   split
   .rename_i hx
    refine⟨by simp[small]; omega,l[k],idxN hk,?_⟩
    rw[Cq.Zd]
    split
    .rename_i hne
     refine⟨l[k],idxN hk,by simp[small]; omega,.inr ⟨?_,l[k],hmem,hx⟩⟩
     rw[wrapN (by omega)]
     unfold putL
     rw[elt,egt,e1,e2,if_neg (by simp; omega),if_pos (by simp; omega)]
     simp
    rename_i hne
    refine .inr ⟨?_,l[k],hmem,hx⟩
    rw[wrapN (by omega)]
    unfold putL
    rw[elt,egt,e1,e2,if_neg (by simp; omega),if_neg (by simp; omega)]
    simp
   rename_i hx
   refine⟨l[k],idxN hk,?_⟩
   rw[Cq.Zd,if_pos (by omega)]
   refine⟨l[k],idxN hk,by simp[small]; omega,.inl ⟨by rw[wrapN (by omega),List.take_append_getElem hk],fun q hq=>?_⟩⟩
   rw[<- List.take_append_getElem hk] at hq
   rcases List.mem_append.1 hq with hq|hq
   .exact hs q hq
   rw[List.mem_singleton] at hq; subst hq; omega
  have hgt:x.id<l[k].id:=by
   obtain⟨i,hi',rfl⟩:=List.mem_iff_getElem.1 hq
   simp only[List.length_take] at hi'
   rw[List.getElem_take] at hqx
   have:=List.pairwise_iff_getElem.1 hi i k (by omega) hk (by omega)
   omega
  rw[Cq.Zd,if_pos (by omega),Cq.Zd,if_pos rfl]
  refine⟨l[k],idxN hk,?_⟩
  rw[Cq.Zd,if_pos (by omega)]
  refine⟨l[k],idxN hk,by simp[small]; omega,.inr ⟨?_,l[k],hmem,by omega⟩⟩
  rw[wrapN (by omega)]
  unfold putL
  rw[elt,egt,if_neg (by simp; omega),if_pos (by simp; omega)]
  simp
 rcases hs with ⟨rfl,hs⟩|⟨rfl,q,hq,hqx⟩
 .rw[Cq.Zd,if_neg (by omega)]
  rw[List.take_length] at hs ⊢
  refine⟨by simp[small]; omega,?_⟩
  show _=putL l x
  unfold putL
  rw[filter_all fun q hq=>decide_eq_true (hs q hq),filter_none fun q hq=>decide_eq_false (by have:=hs q hq; omega)]
 rw[Cq.Zd,if_neg (by omega),List.take_length]
 rfl
def movedL(π:M)(l:List Zc):List Zc:=l.map fun q=>⟨q.id,permP π q.p⟩
theorem ZcB{π:M}(h:IsPerm π){l:List Zc}(hl:l.length<=100)(hp:∀ q ∈ l,PolOk q.p):(ZaW l π).Ret (movedL π l):=by
 show (Cq.next _ _).wp _
 refine Cq.Zm l.length (fun k s=>s=(movedL π (l.take k),(k:Int))) (fun k s hk hs=>?_) (fun s hs=>?_) rfl
 .subst hs
  refine Cq.wp.yes (p:=(k:Int)<(l.length:Int)) (by omega) ?_
  refine⟨l[k],idxN hk,_,Zi4 h (hp _ (List.getElem_mem hk)),l[k],idxN hk,by simp[movedL,small]; omega,?_⟩
  show _=_
  rw[wrapN (by omega)]
  unfold movedL
  rw[<- List.take_append_getElem hk,List.map_append]
  rfl
 subst hs
 show (if ((l.length:Nat):Int)<(l.length:Int) then _ else _:Cq _).wp _
 rw[Cq.Zd,if_neg (by omega),List.take_length]
 rfl
end Go.EL

namespace Go.EL
open Go.IntKind (i8 i16 i32 i64 u8 u16 u32 u64)
open Go Go.RowKit
def idM:M:=fun i=>(i.val:Int)
def rotF(a b:Nat):M:=fun i=>if i.val=a then (b:Int) else if a<i.val/\i.val<=b then (i.val:Int)-1 else if i.val<a/\b<=i.val then (i.val:Int)+1 else (i.val:Int)
def swapF(a b:Nat):M:=setF (setF idM a (b:Int)) b (a:Int)
theorem ZmO:(between 0 4 fun a=>between 0 4 fun b=>runs 30 (Zal a b) (rotF a.toNat b.toNat))=true:=by decide +kernel
theorem Zfm{a b:Nat}(ha:a<=4)(hb:b<=4):(Zal (a:Int) (b:Int)).Ret (rotF a b):=by
 have:=Zr (Zr ZmO (x:=(a:Int)) (by omega) (by omega)) (x:=(b:Int)) (by omega) (by omega)
 exact ZA (by simpa using this)
theorem Zl6:∀ a b:Fin 5,(∀ i:Fin 8,0<=rotF a.val b.val i/\rotF a.val b.val i<8)/\∀ i j:Fin 8,rotF a.val b.val i=rotF a.val b.val j->i=j:=by decide +kernel
theorem Zdq{a b:Nat}(ha:a<=4)(hb:b<=4):IsPerm (rotF a b):=by
 obtain⟨h1,h2⟩:=Zl6 ⟨a,by omega⟩ ⟨b,by omega⟩
 exact⟨h1,h2⟩
theorem Zlc:∀ a b:Fin 5,(∀ i:Fin 8,0<=swapF a.val b.val i/\swapF a.val b.val i<8)/\∀ i j:Fin 8,swapF a.val b.val i=swapF a.val b.val j->i=j:=by decide +kernel
theorem swap_perm{a b:Nat}(ha:a<=4)(hb:b<=4):IsPerm (swapF a b):=by
 obtain⟨h1,h2⟩:=Zlc ⟨a,by omega⟩ ⟨b,by omega⟩
 exact⟨h1,h2⟩
theorem ZpH:rotF 0 0=idM:=by decide +kernel
end Go.EL

namespace Go.EL
open Go.IntKind (i8 i16 i32 i64 u8 u16 u32 u64)
open Go Go.RowKit
def usedL(i:Fin 8)(l:List Zc):Bool:=l.any fun q=>Occurs i q.p
def usedS(i:Fin 8)(s:Za):Bool:=usedL i s.eqs || usedL i s.neqs
theorem Zmj{i:Fin 8}{l:List Zc}(h:∀ k (hk:k<l.length),Occurs i l[k].p=false):usedL i l=false:=by
 unfold usedL
 rw[List.any_eq_false]
 intro q hq
 obtain⟨k,hk,rfl⟩:=List.mem_iff_getElem.1 hq
 rw[h k hk]; decide
theorem ZkY{i:Fin 8}{l:List Zc}{k:Nat}(hk:k<l.length)(h:Occurs i l[k].p=true):usedL i l=true:=by
 unfold usedL
 rw[List.any_eq_true]
 exact⟨_,List.getElem_mem hk,h⟩
theorem ZpS{s:Za}(h:Good s)(i:Fin 8):(Zik s (i.val:Int)).Ret (usedS i s):=by
 have he:=h.eqs.len
 have hn:=h.neqs.len
 show (Cq.next _ _).wp _
 refine Cq.Zm s.eqs.length (fun k st=>st=(k:Int)/\∀ j (hj:j<s.eqs.length),j<k->Occurs i s.eqs[j].p=false) (fun k st hk hs=>?_) (fun st hs=>?_) ⟨rfl,fun j _ hj=>by omega⟩
 .obtain⟨rfl,hi⟩:=hs
  have hp:=(h.eqs.pol _ (List.getElem_mem hk)).1
  rw[Cq.Zd,if_pos (by omega)]
  refine⟨s.eqs[k],idxN hk,_,Zeb hp.len,by omega,?_⟩
  rw[Cq.Zd]
  split
  .rename_i hu
   show true=usedS i s
   unfold usedS
   rw[ZkY hk ((Zgh _ i).1 hu)]; rfl
  rename_i hu
  refine⟨wrapN (by omega),fun j hj hjk=>?_⟩
  by_cases e:j=k
  .subst e
   exact Bool.eq_false_iff.2 fun ho=>hu ((Zgh _ i).2 ho)
  exact hi j hj (by omega)
 obtain⟨rfl,hi⟩:=hs
 have e1:=Zmj (i:=i) fun j hj=>hi j hj hj
 rw[Cq.Zd,if_neg (by omega)]
 show (Zds s (i.val:Int)).wp _
 show (Cq.next _ _).wp _
 refine Cq.Zm s.neqs.length (fun k st=>st=(k:Int)/\∀ j (hj:j<s.neqs.length),j<k->Occurs i s.neqs[j].p=false) (fun k st hk hs=>?_) (fun st hs=>?_) ⟨rfl,fun j _ hj=>by omega⟩
 .obtain⟨rfl,hi⟩:=hs
  have hp:=(h.neqs.pol _ (List.getElem_mem hk)).1
  rw[Cq.Zd,if_pos (by omega)]
  refine⟨s.neqs[k],idxN hk,_,Zeb hp.len,by omega,?_⟩
  rw[Cq.Zd]
  split
  .rename_i hu
   show true=usedS i s
   unfold usedS
   rw[ZkY hk ((Zgh _ i).1 hu),Bool.or_true]
  rename_i hu
  refine⟨wrapN (by omega),fun j hj hjk=>?_⟩
  by_cases e:j=k
  .subst e
   exact Bool.eq_false_iff.2 fun ho=>hu ((Zgh _ i).2 ho)
  exact hi j hj (by omega)
 obtain⟨rfl,hi⟩:=hs
 rw[Cq.Zd,if_neg (by omega)]
 show false=usedS i s
 unfold usedS
 rw[e1,Zmj fun j hj=>hi j hj hj]; rfl
end Go.EL

