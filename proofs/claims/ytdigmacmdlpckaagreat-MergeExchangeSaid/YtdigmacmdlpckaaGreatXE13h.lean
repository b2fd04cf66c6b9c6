/- The law MergeExchange holds for every input: a part of its proof (what the code does, plain models, and what they return). No condition. -/
import Derived.Test.YtdigmacmdlpckaaGreatXE13g
set_option linter.unusedVariables false
set_option linter.unusedSimpArgs false
namespace Go.EL
open Go.IntKind (i8 i16 i32 i64 u8 u16 u32 u64)
open Go Go.RowKit
def pz(a b c d:Fin 4):M:=λi=>if i.val=0 then (a.val:Int) else if i.val=1 then (b.val:Int) else if i.val=2 then (c.val:Int) else if i.val=3 then (d.val:Int) else (i.val:Int)
def pA(n:Nat):Bool:=decide (∀ a b c d:Fin 4,lf n (pz a b c d)=true->(Λ n).any (λπ=>decide (π=pz a b c d))=true)
theorem Ztm:(pA 1 && pA 2 && pA 3 && pA 4)=true:=by decide +kernel
theorem jS.b{n:Nat}{π:M}(h:jS n π):lf n π=true:=by
 unfold lf
 simp only[Ē,Ģ]
 exact⟨⟨h.perm.pC,h.perm.inj⟩,h.fix⟩
theorem YL{n:Nat}(K:1<=n/\n<=4){π:M}(h:jS n π):π ∈ Λ n:=by
 have j:∀ i:Fin 8,i.val<4->0<=π i/\π i<4:=λi hi=>by
  have r:=h.perm.pC i
  refine⟨r.1,?_⟩
  by_cases l:π i<4
  .exact l
  have A:=h.fix ⟨(π i).toNat,by omega⟩ (by show n<=(π i).toNat; omega)
  have:=h.perm.inj ⟨(π i).toNat,by omega⟩ i (by rw[A]; show ((π i).toNat:Int)=π i; omega)
  have e:(π i).toNat=i.val:=ć Fin.val this
  omega
 have G:=j 0 (by decide)
 have H:=j 1 (by decide)
 have I:=j 2 (by decide)
 have J:=j 3 (by decide)
 have e:π=pz ⟨(π 0).toNat,by omega⟩ ⟨(π 1).toNat,by omega⟩ ⟨(π 2).toNat,by omega⟩ ⟨(π 3).toNat,by omega⟩:=by
  funext i
  unfold pz
  by_cases i0:i.val=0
  .rw[Ă i0,show i=0 from gg i0]; show π 0=((π 0).toNat:Int); omega
  rw[Ā i0]
  by_cases q:i.val=1
  .rw[Ă q,show i=1 from gg q]; show π 1=((π 1).toNat:Int); omega
  rw[Ā q]
  by_cases s:i.val=2
  .rw[Ă s,show i=2 from gg s]; show π 2=((π 2).toNat:Int); omega
  rw[Ā s]
  by_cases t:i.val=3
  .rw[Ă t,show i=3 from gg t]; show π 3=((π 3).toNat:Int); omega
  rw[Ā t]
  exact h.fix i (by omega)
 have v:=h.b
 have key:∀ m,pA m=true->∀ a b c d:Fin 4,lf m (pz a b c d)=true->(Λ m).any (λπ=>decide (π=pz a b c d))=true:=λm B=>Ĝ B
 have f:=Ztm
 simp only[Ē] at f
 obtain⟨⟨⟨C,D⟩,E⟩,F⟩:=f
 have g:pA n=true:=by
  have p:n=1\/n=2\/n=3\/n=4:=by omega
  rcases p with rfl|rfl|rfl|rfl
  .exact C
  .exact D
  .exact E
  exact F
 rw[e] at v
 obtain⟨ρ,w,y⟩:=ŕ.1 (key n g _ _ _ _ v)
 have u:=Ĝ y
 rw[<- e] at u
 rw[<- u]; exact w
theorem HX{π:M}(h:Ê π){p:im}(hp:ν p):Ε π p=[]↔p=[]:=
 ⟨λe=>by by_cases h':p=[]; exact h'; exact absurd e (JO h hp h'),λe=>by rw[e]; rfl⟩
theorem Qt{n:Nat}(a:1<=n/\n<=4){π:M}(h:π ∈ Λ n):Ε π mX=mX:=by
 have hp:=(ZN a h).perm
 refine Ei hp Ft.ord Ft.ord (aaV ?_)
 show mX=[kW π ⟨ð 1,λ_=>0⟩]
 unfold kW mX
 have:iH π (λ_=>0)=λ_=>0:=by
  funext j
  obtain⟨i,hi⟩:=yN a h j
  exact uH hp _ i j hi.symm
 rw[this]
theorem O1{n:Nat}(j:1<=n/\n<=4){π:M}(h:π ∈ Λ n){l:Ŀ im}(i:∀ p ∈ l,ν p){plain:Bool}{z:im}:z ∈ kept (l.map (Ε π)) plain↔∃ q ∈ kept l plain,z=á (Ε π q):=by
 have hp:=(ZN j h).perm
 constructor
 .intro m
  obtain⟨q,g,rfl,d,f⟩:=zD m
  obtain⟨p,a,rfl⟩:=ă.1 g
  have c:=i p a
  refine⟨á p,Kd a (λe=>d ((HX hp c).2 e)) (λe=>by have:=f e; rw[IS hp c] at this; exact this),?_⟩
  rw[Bp hp c]
 rintro⟨q,g,rfl⟩
 obtain⟨p,a,rfl,d,f⟩:=zD g
 have c:=i p a
 rw[Bp hp c]
 exact Kd (ă.2 ⟨p,a,rfl⟩) (JO hp c d) (λe=>by rw[IS hp c]; exact f e)
theorem Ztg{n:Nat}(f:1<=n/\n<=4){π:M}(h:π ∈ Λ n){a b:Ŀ im}(l:∀ p ∈ a,ν p)(i:∀ p ∈ b,ν p){z:im}:z ∈ iV (a.map (Ε π)) (b.map (Ε π))↔∃ q ∈ iV a b,z=á (Ε π q):=by
 have hp:=(ZN f h).perm
 unfold iV
 rw[ĉ,O1 f h l]
 have m:z ∈ km (b.map (Ε π))↔z ∈ km b:=by
  unfold km
  simp only[ă,Ė,List.isEmpty_iff]
  constructor
  .rintro⟨x,⟨⟨p,c,rfl⟩,g⟩,e⟩
   exact⟨p,⟨c,(HX hp (i p c)).1 g⟩,e⟩
  rintro⟨p,⟨c,g⟩,e⟩
  exact⟨Ε π p,⟨⟨p,c,rfl⟩,(HX hp (i p c)).2 g⟩,e⟩
 rw[m]
 constructor
 .rintro (⟨q,d,rfl⟩|j)
  .exact⟨q,ĉ.2 (.inl d),rfl⟩
  refine⟨z,ĉ.2 (.inr j),?_⟩
  rw[Bx z j,Qt f h,EN]
 rintro⟨q,d,rfl⟩
 rcases ĉ.1 d with d|d
 .exact .inl ⟨q,d,rfl⟩
 refine .inr ?_
 have e:=Bx q d
 rw[e] at d ⊢
 rw[Qt f h,EN]
 exact d
theorem I0{n:Nat}(j:1<=n/\n<=4){π:M}(h:π ∈ Λ n){l m:Ŀ im}(d:∀ p ∈ l,ν p)(f:∀ z,z ∈ m↔∃ q ∈ l,z=á (Ε π q)):Ð m=Ð (mY π (Ð l)):=by
 have hp:=(ZN j h).perm
 obtain⟨a1,a2⟩:=wg (l:=l) λp hp=>(d p hp).ku
 have e:∀ p ∈ m,ν p:=λz c=>by
  obtain⟨q,a,rfl⟩:=(f z).1 c
  exact ti (ZM hp (d q a))
 obtain⟨g,i⟩:=wg (l:=m) λp hp=>(e p hp).ku
 refine Fk (λz c=>?_) g λz=>?_
 .obtain⟨q,a,rfl⟩:=ă.1 c
  exact (ti (ZM hp (d q ((a2 q).1 a)))).ku
 rw[i z,f z]
 constructor
 .rintro⟨q,a,rfl⟩; exact ă.2 ⟨q,(a2 q).2 a,rfl⟩
 intro c
 obtain⟨q,a,rfl⟩:=ă.1 c
 exact⟨q,(a2 q).1 a,rfl⟩
theorem El{n:Nat}(d:1<=n/\n<=4){π:M}(h:π ∈ Λ n){l m:Ŀ im}(a:∀ p ∈ l,ν p)(c:∀ z,z ∈ m↔∃ q ∈ l,z=á (Ε π q)):(Ð m).length<=(Ð l).length:=by
 rw[I0 d h a c]
 refine ł (J2 _) (aa1 ?_)
 unfold mY
 exact Č _
theorem Zvp{n:Nat}(a:1<=n/\n<=4){π:M}(h:π ∈ Λ n):∃ ρ ∈ Λ n,kh ρ π=λi=>(i.val:Int):=
 (oL a h).2 _ (by rw[A6]; exact aau)
theorem P3{n:Nat}(a:1<=n/\n<=4){p:im}(hp:ν p):Ε (λi=>(i.val:Int)) p=p:=by
 have hi:=(ZuX a).perm
 refine Ei hi hp.ord hp.ord (aaV ?_)
 refine ((Ş λt _=>?_).trans (List.map_id _)).symm
 show kW _ t=t
 unfold kW
 have:iH (λi:Fin 8=>(i.val:Int)) t.m=t.m:=by
  funext j
  exact uH hi _ j j rfl
 rw[this]
theorem O0{n:Nat}(c:1<=n/\n<=4){π ρ:M}(h:π ∈ Λ n)(a:ρ ∈ Λ n)(u:kh ρ π=λi=>(i.val:Int)){l m:Ŀ im}(v:∀ p ∈ l,ν p/\á p=p)(g:∀ z,z ∈ m↔∃ q ∈ l,z=á (Ε π q)):∀ z,z ∈ l↔∃ q ∈ m,z=á (Ε ρ q):=λz=>by
 have s:=(ZN c h).perm
 have t:=(ZN c a).perm
 have back:∀ q ∈ l,á (Ε ρ (á (Ε π q)))=q:=λq f=>by
  obtain⟨d,e⟩:=v q f
  rw[Bp t (ZM s d),Eh c a h d,u,P3 c d,e]
 constructor
 .intro r
  exact⟨_,(g _).2 ⟨z,r,rfl⟩,(back z r).symm⟩
 rintro⟨q,f,rfl⟩
 obtain⟨y,j,rfl⟩:=(g q).1 f
 rw[back y j]
 exact j
theorem D3{a b:Ŀ im}(c:∀ p ∈ a,ν p):∀ p ∈ iV a b,ν p/\á p=p:=λp hp=>by
 refine⟨E1 c p hp,?_⟩
 rcases ĉ.1 hp with h|h
 .obtain⟨q,d,rfl,_⟩:=zD h
  exact Es (c q d)
 rw[Bx p h]; exact EN
theorem Eo{a:Ŀ im}{plain:Bool}(c:∀ p ∈ a,ν p):∀ p ∈ kept a plain,ν p/\á p=p:=λp hp=>by
 obtain⟨q,d,rfl,_⟩:=zD hp
 exact⟨ti (c q d),Es (c q d)⟩
theorem Zsn{n:Nat}(d:1<=n/\n<=4){π:M}(h:π ∈ Λ n){a b:Ŀ im}(i:∀ p ∈ a,ν p)(f:∀ p ∈ b,ν p):
  (Ô (n:Int) (a.map (Ε π)) (b.map (Ε π))).2=(Ô (n:Int) a b).2/\((Ô (n:Int) a b).2=0->(Ô (n:Int) (a.map (Ε π)) (b.map (Ε π))).1=Ú (Ô (n:Int) a b).1 π):=by
 have y:=ZN d h
 obtain⟨ρ,s,E⟩:=Zvp d h
 have v:=@Ztg n d π h a b i f
 have w:=@O1 n d π h b f true
 have D:(Ð (iV (a.map (Ε π)) (b.map (Ε π)))).length=(Ð (iV a b)).length:=by
  refine abB (El d h (λp hp=>(D3 i p hp).1) (λz=>v)) ?_
  refine El d s (λz C=>?_) (O0 d h s E (D3 i) (λz=>v))
  obtain⟨q,B,rfl⟩:=v.1 C
  exact ti (ZM y.perm (D3 i q B).1)
 have G:(Ð (kept (b.map (Ε π)) true)).length=(Ð (kept b true)).length:=by
  refine abB (El d h (λp hp=>(Eo f p hp).1) (λz=>w)) ?_
  refine El d s (λz C=>?_) (O0 d h s E (Eo f) (λz=>w))
  obtain⟨q,B,rfl⟩:=w.1 C
  exact ti (ZM y.perm (Eo f q B).1)
 have g:∀ p,ν p->Í (Ε π p) (n:Int)=Í p (n:Int):=λp hp=>by
  rw[abC]
  refine⟨λt=>?_,D4 (by omega) y hp⟩
  have:=D4 (by omega) (ZN d s) (ZM y.perm hp) t
  rw[Eh d s h hp,E,P3 d hp] at this
  exact this
 have A:(a.map (Ε π)++b.map (Ε π)).all (λp=>Í p (n:Int))=(a++b).all (λp=>Í p (n:Int)):=by
  rw[<- ķ,List.all_map]
  have:∀ l:Ŀ im,(∀ p ∈ l,ν p)->(l.all ((λp=>Í p (n:Int)) ∘ Ε π))=l.all λp=>Í p (n:Int):=λl F=>by
   rw[abC,Ĕ,Ĕ]
   exact⟨λt p hp=>by rw[<- g p (F p hp)]; exact t p hp,λt p hp=>by show Í (Ε π p) _=true; rw[g p (F p hp)]; exact t p hp⟩
  exact this _ λp hp=>(ĉ.1 hp).elim (i p) (f p)
 have c:1<=(n:Int)/\(n:Int)<=4:=by omega
 by_cases e:(a++b).all (λp=>Í p (n:Int))=true
 .by_cases r:12<(Ð (iV a b)).length
  .have j:Ô (n:Int) (a.map (Ε π)) (b.map (Ε π))=(lG,2):=by unfold Ô; rw[if_pos c,A,if_pos e,D,if_pos r]
   have m:Ô (n:Int) a b=(lG,2):=by unfold Ô; rw[if_pos c,if_pos e,if_pos r]
   rw[j,m]; exact⟨rfl,λh=>absurd h (by decide)⟩
  by_cases u:12<(Ð (kept b true)).length
  .have j:Ô (n:Int) (a.map (Ε π)) (b.map (Ε π))=(lG,2):=by unfold Ô; rw[if_pos c,A,if_pos e,D,if_neg r,G,if_pos u]
   have m:Ô (n:Int) a b=(lG,2):=by unfold Ô; rw[if_pos c,if_pos e,if_neg r,if_pos u]
   rw[j,m]; exact⟨rfl,λh=>absurd h (by decide)⟩
  have j:Ô (n:Int) (a.map (Ε π)) (b.map (Ε π))=(⟨(n:Int),Ð (iV (a.map (Ε π)) (b.map (Ε π))),Ð (kept (b.map (Ε π)) true)⟩,0):=by unfold Ô; rw[if_pos c,A,if_pos e,D,if_neg r,G,if_neg u]
  have m:Ô (n:Int) a b=(⟨(n:Int),Ð (iV a b),Ð (kept b true)⟩,0):=by unfold Ô; rw[if_pos c,if_pos e,if_neg r,if_neg u]
  rw[List.all_append,Ē] at e
  have H:=J4 d (λp hp=>⟨i p hp,Ĕ.1 e.1 p hp⟩) (λp hp=>⟨f p hp,Ĕ.1 e.2 p hp⟩) (by omega) (by omega)
  have I:=By H (π:=π) h
  rw[j,m]
  refine⟨rfl,λ_=>?_⟩
  dsimp only
  rw[I]
  dsimp only
  rw[I0 d h (λp hp=>(D3 i p hp).1) (λz=>v),I0 d h (λp hp=>(Eo f p hp).1) (λz=>w)]
 have j:Ô (n:Int) (a.map (Ε π)) (b.map (Ε π))=(lG,1):=by unfold Ô; rw[if_pos c,A,if_neg e]
 have m:Ô (n:Int) a b=(lG,1):=by unfold Ô; rw[if_pos c,if_neg e]
 rw[j,m]; exact⟨rfl,λh=>absurd h (by decide)⟩
end Go.EL

namespace Go.EL
open Go.IntKind (i8 i16 i32 i64 u8 u16 u32 u64)
open Go Go.RowKit
theorem Zso{n:Int}{a b a' b':Ŀ im}(m:∀ p ∈ a,ν p)(q:∀ p ∈ b,ν p)(d:∀ p,p ∈ a'↔p ∈ a)(c:∀ p,p ∈ b'↔p ∈ b):Ô n a' b'=Ô n a b:=by
 have r:∀ {x y:Ŀ im}{plain:Bool},(∀ p,p ∈ x↔p ∈ y)->∀ z,z ∈ kept x plain↔z ∈ kept y plain:=λ{x y plain} h z=>by
  unfold kept
  simp only[Ė,ă]
  constructor
  .rintro⟨⟨p,hp,rfl⟩,h'⟩; exact⟨⟨p,(h p).1 hp,rfl⟩,h'⟩
  rintro⟨⟨p,hp,rfl⟩,h'⟩; exact⟨⟨p,(h p).2 hp,rfl⟩,h'⟩
 have s:∀ z,z ∈ km b'↔z ∈ km b:=λz=>by
  unfold km
  simp only[ă,Ė]
  constructor
  .rintro⟨p,⟨hp,h'⟩,e⟩; exact⟨p,⟨(c p).1 hp,h'⟩,e⟩
  rintro⟨p,⟨hp,h'⟩,e⟩; exact⟨p,⟨(c p).2 hp,h'⟩,e⟩
 have f:∀ p ∈ a',ν p:=λp hp=>m p ((d p).1 hp)
 have g:∀ p ∈ b',ν p:=λp hp=>q p ((c p).1 hp)
 have t:Ð (iV a' b')=Ð (iV a b):=by
  obtain⟨i,j⟩:=wg (l:=iV a' b') λp hp=>(E1 f p hp).ku
  refine Fk (λp hp=>(E1 m p hp).ku) i λz=>?_
  rw[j z]
  unfold iV
  rw[ĉ,ĉ,r d z,s z]
 have u:Ð (kept b' true)=Ð (kept b true):=by
  obtain⟨i,j⟩:=wg (l:=kept b' true) λp hp=>(Em g p hp).ku
  refine Fk (λp hp=>(Em q p hp).ku) i λz=>?_
  rw[j z,r c z]
 have v:(a'++b').all (λp=>Í p n)=(a++b).all (λp=>Í p n):=by
  rw[abC,Ĕ,Ĕ]
  simp only[ĉ]
  constructor
  .intro h p hp; exact h p (hp.elim (λx=>.inl ((d p).2 x)) (λx=>.inr ((c p).2 x)))
  intro h p hp; exact h p (hp.elim (λx=>.inl ((d p).1 x)) (λx=>.inr ((c p).1 x)))
 unfold Ô
 rw[t,u,v]
def kI(fr a:Ŀ Ĳ):M:=λi=>match fr[i.val]? with
 | some v=>Õ a v
 | none=>(i.val:Int)
section
variable {s t:Zb}
theorem ZvB(a:Good s){i:Fin 8}(hi:i.val<s.vars.length):kI s.vars t.vars i=Õ t.vars s.vars[i.val]:=by
 unfold kI
 rw[Ą hi]
theorem zN{i:Fin 8}(hi:s.vars.length<=i.val):kI s.vars t.vars i=(i.val:Int):=by
 unfold kI
 rw[Ĺ hi]
theorem BV(d:Good s)(f:∀ v,v ∈ s.vars↔v ∈ t.vars){i:Fin 8}(hi:i.val<s.vars.length):∃ (j:Nat) (a:j<t.vars.length),kI s.vars t.vars i=(j:Int)/\t.vars[j]=s.vars[i.val]:=by
 rw[ZvB d hi]
 have g:0<=Õ t.vars s.vars[i.val]:=zO.2 ((f _).1 (Ċ hi))
 have c:=BT (l:=t.vars) (v:=s.vars[i.val]) (k:=(Õ t.vars s.vars[i.val]).toNat) (by omega)
 obtain⟨a,e⟩:=Ć.1 c
 exact⟨_,a,by omega,e⟩
theorem Rw(f:Good s)(q:Good t)(h:jN s t){n:Nat}(w:s.vars.length<=n):jS n (kI s.vars t.vars):=by
 have v:=h.len
 have lt:=q.vars
 refine⟨⟨λi=>?_,λi j e=>?_⟩,λi hi=>zN (by omega)⟩
 .by_cases hi:i.val<s.vars.length
  .obtain⟨j,d,e,_⟩:=BV f h.vars hi
   rw[e]; omega
  rw[zN (by omega)]; omega
 by_cases hi:i.val<s.vars.length
 .obtain⟨a,u,l,r⟩:=BV f h.vars hi
  by_cases d:j.val<s.vars.length
  .obtain⟨b,p,g,m⟩:=BV f h.vars d
   have:a=b:=by rw[l,g] at e; omega
   subst this
   rw[r] at m
   by_cases c:i.val=j.val
   .exact gg c
   exact absurd m (uJ f.diff hi d c)
  rw[l,zN (by omega)] at e; omega
 by_cases d:j.val<s.vars.length
 .obtain⟨b,p,g,_⟩:=BV f h.vars d
  rw[g,zN (by omega)] at e; omega
 rw[zN (by omega),zN (by omega)] at e
 exact gg (by omega)
theorem Rx(f:Good s)(g:Good t)(h:jN s t){p r:im}(hp:gU s.vars.length p)(B:gU t.vars.length r)(e:ö s.vars p t.vars r):Ε (kI s.vars t.vars) p=r:=by
 have d:=Rw f g h (č _)
 have A:=h.len
 have D:=f.vars
 have lt:=g.vars
 refine O9 g.diff (by omega) ⟨ZM d.perm hp.1,?_⟩ B (ö.trans ?_ e)
 .have:=D4 (by omega) d hp.1 hp.2
  rwa [A] at this
 have key:∀ u ∈ p,nm t.vars (iH (kI s.vars t.vars) u.m)=nm s.vars u.m:=λu a=>by
  funext v
  by_cases l:v ∈ s.vars
  .obtain⟨i,hi,rfl⟩:=Ĩ.1 l
   obtain⟨j,y,n,q⟩:=BV (i:=⟨i,by omega⟩) f h.vars hi
   rw[uL f.diff (i:=⟨i,by omega⟩) u.m hi,<- q,uL g.diff (i:=⟨j,by omega⟩) _ y]
   exact uH d.perm u.m ⟨i,by omega⟩ ⟨j,by omega⟩ n.symm
  rw[yb _ l,yb _ λc=>l ((h.vars v).2 c)]
 have m:=(ZR d.perm hp.1.ord).1
 intro z
 unfold named
 rw[ă,ă]
 constructor
 .rintro⟨w,C,rfl⟩
  obtain⟨u,a,rfl⟩:=ă.1 (m.mem_iff.1 C)
  exact⟨u,a,by rw[<- key u a]; rfl⟩
 rintro⟨u,a,rfl⟩
 exact⟨_,m.mem_iff.2 (ă.2 ⟨u,a,rfl⟩),by rw[<- key u a]; rfl⟩
theorem EV(s:Zb):vS s=((max s.vars.length 1:Nat):Int):=by unfold vS; split <;> omega
theorem Ia(f:Good s)(a:(ki s).2=0):gT (ki s).1:=by
 have i:=f.vars
 obtain⟨p1,p2⟩:=f.ue
 have h:1<=max s.vars.length 1/\max s.vars.length 1<=4:=by omega
 have g:1<=((max s.vars.length 1:Nat):Int)/\((max s.vars.length 1:Nat):Int)<=4:=by omega
 unfold ki at a ⊢
 rw[EV] at a ⊢
 unfold Ô at a ⊢
 rw[Ă g] at a ⊢
 by_cases c:(s.eqs.map (·.p)++s.ζ.map (·.p)).all (λp=>Í p ((max s.vars.length 1:Nat):Int))=true
 .rw[Ă c] at a ⊢
  by_cases d:12<(Ð (iV (s.eqs.map (·.p)) (s.ζ.map (·.p)))).length
  .rw[Ă d] at a; cases a
  rw[Ā d] at a ⊢
  by_cases e:12<(Ð (kept (s.ζ.map (·.p)) true)).length
  .rw[Ă e] at a; cases a
  rw[Ā e]
  rw[List.all_append,Ē] at c
  exact J4 h (λp hp=>⟨p1 p hp,Ĕ.1 c.1 p hp⟩) (λp hp=>⟨p2 p hp,Ĕ.1 c.2 p hp⟩) (by omega) (by omega)
 rw[Ā c] at a; cases a
theorem Zuv(g:Good s)(a:(ki s).2=0):(ki s).1.n=((max s.vars.length 1:Nat):Int):=by
 have h:=g.vars
 have f:1<=((max s.vars.length 1:Nat):Int)/\((max s.vars.length 1:Nat):Int)<=4:=by omega
 unfold ki at a ⊢
 rw[EV] at a ⊢
 unfold Ô at a ⊢
 rw[Ă f] at a ⊢
 split at a
 .split at a
  .cases a
  split at a
  .cases a
  rename_i c d e
  rw[Ă c,Ā d,Ā e]
 cases a
theorem Yl(c:Good s)(i:Good t)(h:jN s t)(h':jN t s):(ki t).2=(ki s).2/\((ki s).2=0->jr (jn (ki s).1).1=jr (jn (ki t).1).1):=by
 have F:=c.vars
 have u:1<=max s.vars.length 1/\max s.vars.length 1<=4:=by omega
 obtain⟨p1,p2⟩:=c.ue
 have f:=YL u (Rw c i h (n:=max s.vars.length 1) (by omega))
 have d:∀ {l m:Ŀ Zc},(∀ q ∈ l,gU s.vars.length q.p)->(∀ q ∈ m,gU t.vars.length q.p)->(∀ q ∈ l,∃ r ∈ m,ö s.vars q.p t.vars r.p)->(∀ q ∈ m,∃ r ∈ l,ö t.vars q.p s.vars r.p)->∀ p,p ∈ m.map (·.p)↔p ∈ (l.map (·.p)).map (Ε (kI s.vars t.vars)):=λ{l m} f1 f2 B C p=>by
  rw[ă,Ţ,ă]
  constructor
  .rintro⟨q,a,rfl⟩
   obtain⟨r,g,e⟩:=C q a
   exact⟨r,g,Rx c i h (f1 r g) (f2 q a) e.symm⟩
  rintro⟨q,a,rfl⟩
  obtain⟨r,g,e⟩:=B q a
  exact⟨r,g,(Rx c i h (f1 q a) (f2 r g) e).symm⟩
 have D:=d c.eqs.iF i.eqs.iF h.eqs h'.eqs
 have E:=d c.ζ.iF i.ζ.iF h.ζ h'.ζ
 have y:=(ZN u f).perm
 have e:ki t=Ô ((max s.vars.length 1:Nat):Int) ((s.eqs.map (·.p)).map (Ε (kI s.vars t.vars))) ((s.ζ.map (·.p)).map (Ε (kI s.vars t.vars))):=by
  show Ô (vS t) _ _=_
  rw[EV,<- h.len]
  refine Zso (λp hp=>?_) (λp hp=>?_) D E
  .obtain⟨q,a,rfl⟩:=ă.1 hp
   exact ZM y (p1 q a)
  obtain⟨q,a,rfl⟩:=ă.1 hp
  exact ZM y (p2 q a)
 obtain⟨v,w⟩:=Zsn u f p1 p2
 have A:ki s=Ô ((max s.vars.length 1:Nat):Int) (s.eqs.map (·.p)) (s.ζ.map (·.p)):=by unfold ki; rw[EV]
 rw[<- A] at v w
 rw[<- e] at v w
 refine⟨v,λj=>?_⟩
 rw[w j]
 refine Yf (Ia c j) ?_
 rw[Zuv c j,ģ]
 exact f
end
end Go.EL

namespace Go.EL
open Go.IntKind (i8 i16 i32 i64 u8 u16 u32 u64)
open Go Go.RowKit
theorem Jv:∀ {l:Ŀ Zh}{s:Zb},nz s l->(qj s l).next<=s.next+(l.length:Int)
 | [],s,_=>by show s.next<=s.next+((0:Nat):Int); omega
 | e::l,s,⟨a,_,c⟩=>by
  have d:=PD a
  have f:=Jv c
  show (qj (ni s e) l).next<=s.next+((l.length+1:Nat):Int)
  omega
theorem Xi{x:ZK}(h:ox x):∃ s a b,(Js x).ο (s,a,b)/\Good s/\Good a/\Good b/\s.next<=1000/\a.next<=1000/\b.next<=1000:=by
 obtain⟨s,f,c,j⟩:=Zuj h.base.ok (m:=8) (by decide)
 obtain⟨r,g,l,d⟩:=Pz h.a.ok (m:=4) (by decide) c
 obtain⟨t,i,q,e⟩:=Pz h.b.ok (m:=4) (by decide) c
 have n:=Jv d
 have p:=Jv e
 exact⟨s,qj s r,qj s t,⟨s,f,r,g,_,Qv c (by omega) d,t,i,_,Qv c (by omega) e,rfl⟩,c,Ju c d,Ju c e,by omega,by omega,by omega⟩
theorem OW{V:Ŀ Ĳ}:∀ {P:Ŀ Zg},(∀ y ∈ P,mb y)->(iu V P).length<=4*P.length
 | [],_=>č 0
 | y::P,h=>by
  have c:=OW (V:=V) (P:=P) λz a=>h z (by simp[a])
  have d:=Eg y.à.vars V y.entry.p y.à.vars.length
  have f:=(h y (by simp)).à.vars
  have e:iu V (y::P)=kl y.à.vars V y.entry.p++iu V P:=rfl
  unfold kl at e
  rw[e,ā,Ġ]
  omega
theorem Ztd{a0 a1 a2:Zb}(f:Good a0)(a:Good a1)(c:Good a2):(Ù a0 a1 a2).2.1.length<=1000:=by
 have key:(lX a0 a1 a2).length<=1000:=by
  have g:=Qs f a c
  have h:=Qm (a0:=a0) a c
  have i:=OW (V:=Θ a0.vars a1.vars a2.vars) (ET (a0:=a0) a c)
  have d:=Zt3 (iu (Θ a0.vars a1.vars a2.vars) (iJ a0 a1 a2))
  have e:(iJ a0 a1 a2).length=(kJ a0 a1 a2).1.length+(la a0 a1 a2).1.length:=ā
  unfold lX
  rw[ā,Č]
  have d:(oc (iu (Θ a0.vars a1.vars a2.vars) ((kJ a0 a1 a2).1++(la a0 a1 a2).1))).length<=_:=d
  omega
 unfold Ù
 split
 .exact ġ _
 split
 .exact ġ _
 split
 .exact ġ _
 unfold kH
 split
 .exact key
 split
 .exact ġ _
 exact ġ _
theorem Wt{c:Ŀ Zk}(h:c.length<=1000):(Z3 c c).ο true:=by
 refine Cq.wp.no (λh=>h rfl) ?_
 show (Cq.next _ _).wp _
 refine Cq.Zp c.length (λk s=>s=(k:Int)) (λk s d a=>?_) (λs a=>?_) rfl
 .subst a
  refine Cq.wp.yes (by omega) ⟨c[k],â d,c[k],â d,Cq.wp.no (λh=>h ⟨rfl,rfl⟩) ?_⟩
  exact Β (by omega)
 subst a
 exact Cq.wp.no (by omega) rfl
theorem UN{x:ZK}(h:ox x):(Mw x).ο true:=by
 obtain⟨s,a,b,r,g,d,f,v,w,y⟩:=Xi h
 obtain⟨e,t⟩:=Yz g d f v w y
 have q:(Ù s a b).2.1=(Ù s b a).2.1:=by rw[e]
 have m:(Ù s a b).2.2=(Ù s b a).2.2:=by rw[e]
 refine⟨true,Wj,Cq.wp.no (by decide) ⟨_,r,_,zn g d f,_,zn g f d,Cq.wp.no (λc=>c m) ⟨true,by rw[<- q]; exact Wt (Ztd g d f),Cq.wp.no (by decide) ?_⟩⟩⟩
 by_cases i:(Ù s a b).2.2=0
 .refine Cq.wp.no (λc=>c i) ?_
  obtain⟨n,u⟩:=t i
  have j:=(Qh g d f i).ku
  have l:=(Qh g f d (by rw[<- m]; exact i)).ku
  obtain⟨p,A⟩:=Yl j l n u
  refine⟨_,Py j,_,Py l,Cq.wp.no (λc=>c p.symm) ?_⟩
  by_cases c0:(ki (Ù s a b).1).2=0
  .refine Cq.wp.no (λc=>c c0) ?_
   have o1:=Ia j c0
   have o2:=Ia l (by rw[p]; exact c0)
   refine⟨_,Pa o1,_,Pa o2,true,ZtS (Oi o1).Db (Oi o2).Db (A c0),Cq.wp.yes (by rw[n.len]) rfl⟩
  exact Cq.wp.yes c0 rfl
 exact Cq.wp.yes i rfl
end Go.EL

