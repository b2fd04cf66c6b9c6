/- The law MergeSolutions holds for every input: a part of its proof (what the code does, plain models, and what they return). No condition. -/
import Derived.Test.YtnbpjambcagjcaaGreatXS14e
set_option linter.unusedVariables false
set_option linter.unusedSimpArgs false
namespace Go.Proofs.YtnbpjambcagjcaaGreat
open Go.IntKind (i8 i16 i32 i64 u8 u16 u32 u64)
open Go.Proofs.Tryz
open Go Go.EL Go.RowKit Go.Proofs
set_option maxHeartbeats 2000000 in
theorem eQ'{c P E H q bz r}(hr:(Zcq c P).Ret r):Ctr prog 63 #[.slice E c.length H,.agg (q).toArray] (fun G=>sl r' G E H c/\ArRd (Rp.sl r') 8 G q bz P) (wlt' r' r):=by
 refine A' (args:=[_,_]) (N:=100) func63 z z z (fun w0 G0 a1 bZ=>?_)
 obtain⟨ac,S⟩:=bZ
 have hz:w0.L.zero:=by rw[a1]; intro p hp; simp at hp
 refine sr<|Y' 3 z z z fun Q=>sg z z<|sx0 z z<|c'<|sr<|mv z z ?_
 obtain⟨cQ,bT,hr⟩:=hr
 refine B' z z (u' E50 z) (dS' bT) z (ac)<|yy (aZ' z z) z<|nx<|E' hr z (fun ct hr=>?_) (fun ct hr=>?_)
 .exact (show False from hr).elim
 refine l'<|a'<|sr<|O' 6 z z174 z fun b2=>nx<|c'<|sr<|mv z z<|nx<|R' (fun (⟨aF,aG⟩:(Fin 64->Int)×Mem)=>[(0,.slice E c.length H),(3,pt0 Q),(6,pt0 b2)]) (fun ⟨aF,aG⟩=>Mem.le G0 aG/\(Zbo c P aF).Ret r) (fun ⟨aF,aG⟩=>St w0 G0 aG [(3,bk0 Q (q) 144),(6,bk0 b2 (vecG (Value.int .i64) 64 aF) 174)]) ?_ ?_
 .refine s' ?_
  let bk:(Fin 64->Int)->Prop:=fun oo=>((fun ov=>match ov with|aF=>Zbo c P aF:(Fin 64->Int)->Cq ((List Zb)×Int)) oo).wp (fun a=>a=r)
  replace hr:(Cq.loop _ _).wp bk:=hr
  refine T' (Φ:=bk) (fun (⟨M,aA,al⟩:Int×(Fin 64->Int)×Mem)=>((M,aA):Int×(Fin 64->Int))) (fun ⟨M,aA,al⟩=>[(0,.slice E c.length H),(3,pt0 Q),(6,pt0 b2),(22,i' M)]) (fun ⟨M,aA,al⟩=>Mem.le G0 al) (fun ⟨M,aA,al⟩=>St w0 G0 al [(3,bk0 Q (q) 144),(6,bk0 b2 (vecG (Value.int .i64) 64 aA) 174)]) ⟨0,(fun _=>0),G0⟩ hr (f4 z z z z) mr (w2 z z) ?_
  .intro cS k hx hr
   obtain⟨M,aA,al⟩:=k
   have ar:=hx
   refine sr<|yy (V' z z) z<|nx<|c'<|E' hr z (fun cf hr=>?_) (fun cf hr=>?_)
   .refine l'<|a'<|c'<|s'<|sr<|mv z z<|sx0 z z<|n'<|mv z z<|mv z z ?_
    obtain⟨x4,bE,hr⟩:=hr
    refine yy (dh' cz' sz44 z z (dI' (S.mono ar) bE)) z ?_
    obtain⟨p1,cT,cd,cj⟩:=dg' (ArRd.at (S.mono ar) bE)
    refine yy (g' 3 sc44 z z cd) z ?_
    obtain⟨br,bA,hr⟩:=hr
    refine B' z z (u' E98 z) (eG' bA) z (cj) ?_
    obtain⟨bj,hr⟩:=hr
    refine yy (Y0.idxArr0 underlying174 sz109 z z bj) z<|WL.storeLP 6 (vecG (Value.int .i64) 64 (setB 8 aA M br)).toArray z sz109 z z z (M' _ _ _) (Znm (a:=8) (b:=8) bj) (Zml _ _ _ (fun _=>z)) (ZpT (a:=8) (b:=8) _ _ _ bj)<|o'<|v'<|a'<|n'<|yy (I' z z) z<|mv z z<|o'<|C' ⟨i64.wrap (M+1),setB 8 aA M br,al⟩ hr ar (f4 z z z z) (w2 z z)
   refine U'<|h'<|h'<|y'<|W' ⟨aA,al⟩ ⟨ar,hr⟩ (f3 z z z) (w2 z z)
 rintro⟨aF,aG⟩ ⟨F,hr⟩
 refine a'<|c'<|sr<|mv z z<|yy (K' F' (ac.mono F) z) z<|mv z z<|nx<|R' (fun (k:Mem)=>match k with|aR=>[(0,.slice E c.length H),(3,pt0 Q)]) (fun (k:Mem)=>match k with|aR=>Mem.le aG aR/\(Zbn c P).Ret r) (fun (k:Mem)=>match k with|aR=>St w0 G0 aR [(3,bk0 Q (q) 144)]) ?_ ?_
 .refine s' ?_
  let bl:(((List Zb)×Int)⊕Unit)->Prop:=fun oo=>((fun ov=>match ov with | .inl rv1=>Cq.ret rv1 | .inr ()=>Zbn c P:(((List Zb)×Int)⊕Unit)->Cq ((List Zb)×Int)) oo).wp (fun a=>a=r)
  replace hr:(Cq.loop _ _).wp bl:=hr
  refine T' (Φ:=bl) (fun (⟨R,ap⟩:Int×Mem)=>(R:Int)) (fun ⟨R,ap⟩=>[(0,.slice E c.length H),(3,pt0 Q),(6,pt0 b2),(32,.slice E c.length H),(33,i' (c.length:Int)),(34,i' R)]) (fun ⟨R,ap⟩=>Mem.le aG ap) (fun ⟨R,ap⟩=>St w0 G0 ap [(3,bk0 Q (q) 144),(6,bk0 b2 (vecG (Value.int .i64) 64 aF) 174)]) ⟨0,aG⟩ hr (f6 z z z z z z) mr (w2 z z) ?_
  .intro cR k hx hr
   obtain⟨R,ap⟩:=k
   have ab:=hx
   refine sr<|yy (V' z z) z<|nx<|c'<|E' hr z (fun ca hr=>?_) (fun ca hr=>?_)
   .refine l'<|a'<|c'<|s'<|sr ?_
    obtain⟨x3,bG,hr⟩:=hr
    refine yy (P' F' bh' (ac.mono (mx F ab)) z z bG) z ?_
    obtain⟨y,t,B,C,cc,aS,aV⟩:=bI' (H' (X' ac bG) (mx F ab))
    refine yy (as' _ cM' z z cc) z<|O' 9 z z152 z fun b5=>x' 9 z bh' z z z z z (fun u hu=>Rp.one r' (G:=ap) (x:=x3) (cs:=((v101' x3.c y t B C):List Value)++(vecG (Value.int .i64) 8 x3.m)) ⟨(v101' x3.c y t B C),vecG (Value.int .i64) 8 x3.m,z,⟨(v99' x3.c.num y t),(v99' x3.c.den B C),z,⟨[.bool x3.c.num.neg],[.slice y x3.c.num.mag.length t],z,z,⟨_,z,aS⟩⟩,⟨[.bool x3.c.den.neg],[.slice B x3.c.den.mag.length C],z,z,⟨_,z,aV⟩⟩⟩,z⟩ u (by first|simpa using hu|simpa [Value.cells] using hu))<|nr<|yy (aL' z) z<|yy (aj' (vecG (Value.int .i64) 8 x3.m).toArray 9 aT' z z (M' _ _ _) (aq' ((v101' x3.c y t B C)) (vecG (Value.int .i64) 8 x3.m) ([]))) z<|yy (m' 3 ag144 z z (cA' (S.mono (mx F ab)))) z ?_
    obtain⟨co,bS,hr⟩:=hr
    refine B' z z (u' E99 z) (dH' bS) z ((S.mono (mx F ab))) ?_
    cases co
    .refine yy (an' z) z<|mv z z<|gy z z (aL' z) z<|gy z z (aj' (vecG (Value.int .i64) 8 x3.m).toArray 9 aT' z z (M' _ _ _) (aq' ((v101' x3.c y t B C)) (vecG (Value.int .i64) 8 x3.m) ([]))) z<|gy z z (m' 6 ag174 z z (M' _ _ _)) z ?_
     obtain⟨cF,bB,hr⟩:=hr
     refine B' (D' z z) z (u' E100 z) (eK' bB) z (trivial)<|yy (t' z z) z<|nx<|ay' hr z (fun ci hr=>?_) (fun ci hr=>?_)
     .exact (show False from hr).elim
     refine l'<|v'<|a'<|n'<|yy (I' z z) z<|mv z z<|o'<|C' ⟨i64.wrap (R+1),ap⟩ hr ab (f6 z z z z z z) (w2 z z)
    refine yy (an' z) z<|mv z z<|sn4 z<|yy (p' z z) z<|nx<|aK' z<|l'<|v'<|a'<|n'<|yy (I' z z) z<|mv z z<|o'<|C' ⟨i64.wrap (R+1),ap⟩ hr ab (f6 z z z z z z) (w2 z z)
   refine U'<|h'<|h'<|y'<|W' ap ⟨ab,hr⟩ (f2 z z) (w1 z)
 rintro aR ⟨aa,hr⟩
 refine a'<|sr<|yy (m' 3 ag144 z z (cA' (S.mono (mx F aa)))) z ?_
 obtain⟨W1,cm,hr⟩:=hr
 refine aC' (S':=St w0 G0 aR [(3,bk0 Q (q) 144)]) (fun w hs=>hs.weaken (lc z ln))<|WL.callPw (A:=[(3,bk0 Q (q) 144)]) (T:=[]) z (fun p hp=>absurd hp (List.not_mem_nil)) (fun G L v ⟨_,_,_,h⟩=>h.keys) z z (u' E101 z) (eJ' W1 P _ _) z (S.mono (mx F aa)) hz (fun cG a7 T1 av bh=>?_)
 obtain⟨ak,af,rfl,bH⟩:=bh
 refine sg z z<|nr<|dq' (ky:=ky110) (Rv:=RvA bd' a7) 4052 z z fun ao bC bN=>sx0 z z<|c'<|sr<|mv z z<|yy (K' F' (ac.mono (mx (mx F aa) av)) z) z<|mv z z<|nx<|R' (fun (k:(List ((Fin 8->Int)×Ze))×Option Ow×Mem)=>match k with|⟨aO,ax,aQ⟩=>[(11,.map (some ao))]) (fun (k:(List ((Fin 8->Int)×Ze))×Option Ow×Mem)=>match k with|⟨aO,ax,aQ⟩=>Mem.le a7 aQ/\MapR ky110 (RvA bd' aQ) (.map (some ao)) aO ax/\(Zbk aO).Ret r) (fun (k:(List ((Fin 8->Int)×Ze))×Option Ow×Mem)=>match k with|⟨aO,ax,aQ⟩=>St w0 G0 aQ [(4052,ax)]) ?_ ?_
 .refine s' ?_
  let aC:(((List ((Fin 8->Int)×Ze))))->Prop:=fun oo=>((fun ov=>match ov with|aO=>Zbk aO:(((List ((Fin 8->Int)×Ze))))->Cq ((List Zb)×Int)) oo).wp (fun a=>a=r)
  replace hr:(Cq.loop _ _).wp aC:=hr
  refine T' (Φ:=aC) (fun (k:Int×(List ((Fin 8->Int)×Ze))×Option Ow×Lo×Mem)=>match k with|⟨l,ai,D,T2,ag⟩=>((l,ai):Int×(List ((Fin 8->Int)×Ze)))) (fun (k:Int×(List ((Fin 8->Int)×Ze))×Option Ow×Lo×Mem)=>match k with|⟨l,ai,D,T2,ag⟩=>[(3,pt0 Q),(53,.slice E c.length H),(54,i' (c.length:Int)),(55,i' l),(11,.map (some ao)),(10,.func (.func 145) #[] #[pt0 ak,pt0 af])]) (fun (k:Int×(List ((Fin 8->Int)×Ze))×Option Ow×Lo×Mem)=>match k with|⟨l,ai,D,T2,ag⟩=>Mem.le a7 ag/\MapR ky110 (RvA bd' ag) (.map (some ao)) ai D/\PwR (Rp.sl r') 44 211 144 W1 P ag T2 ak af) (fun (k:Int×(List ((Fin 8->Int)×Ze))×Option Ow×Lo×Mem)=>match k with|⟨l,ai,D,T2,ag⟩=>St w0 G0 ag ((3,bk0 Q (q) 144)::(4052,D)::T2)) ⟨0,[],bC,T1,a7⟩ hr (f6 z z z z z z) ⟨mr,bN,bH⟩ (wk (lc z (lc z ((by (try simp only[Lo.without,List.map_cons,List.map_nil,List.cons_append,List.nil_append]); repeat (first|exact cn' _|refine cx' bH.high (by decide) ?_)))))) ?_
  .intro a6 k hx hr
   obtain⟨l,ai,D,T2,ag⟩:=k
   obtain⟨ad,a4,a9⟩:=hx
   refine sr<|yy (V' z z) z<|nx<|c'<|E' hr z (fun ch hr=>?_) (fun ch hr=>?_)
   .refine l'<|a'<|c'<|s'<|sr ?_
    obtain⟨V,bJ,hr⟩:=hr
    refine yy (P' F' bh' (ac.mono (mx (mx (mx F aa) av) ad)) z z bJ) z ?_
    obtain⟨d,f,g,e,cb,ay,aB⟩:=bI' (H' (X' ac bJ) (mx (mx (mx F aa) av) ad))
    refine yy (as' _ cM' z z cb) z<|O' 13 z z152 z fun b3=>x' 13 z bh' z z z z z (fun u hu=>Rp.one r' (G:=ag) (x:=V) (cs:=((v101' V.c d f g e):List Value)++(vecG (Value.int .i64) 8 V.m)) ⟨(v101' V.c d f g e),vecG (Value.int .i64) 8 V.m,z,⟨(v99' V.c.num d f),(v99' V.c.den g e),z,⟨[.bool V.c.num.neg],[.slice d V.c.num.mag.length f],z,z,⟨_,z,ay⟩⟩,⟨[.bool V.c.den.neg],[.slice g V.c.den.mag.length e],z,z,⟨_,z,aB⟩⟩⟩,z⟩ u (by first|simpa using hu|simpa [Value.cells] using hu))<|nx<|c'<|sr<|yy (aL' z) z<|yy (aj' (vecG (Value.int .i64) 8 V.m).toArray 13 aT' z z (M' _ _ _) (aq' ((v101' V.c d f g e)) (vecG (Value.int .i64) 8 V.m) ([]))) z<|yy (m' 3 ag144 z z (cA' (S.mono (mx (mx (mx F aa) av) ad)))) z ?_
    obtain⟨cK,bL,hr⟩:=hr
    refine B' z z (u' E99 z) (dH' bL) z ((S.mono (mx (mx (mx F aa) av) ad)))<|nx<|ay' hr z (fun cl hr=>?_) (fun cl hr=>?_)
    .refine U'<|h'<|y'<|a'<|n'<|yy (I' z z) z<|mv z z<|o'<|C' ⟨i64.wrap (l+1),ai,D,T2,ag⟩ hr ⟨ad,a4,a9⟩ (f6 z z z z z z) (wk (lc z (lc z ((by (try simp only[Lo.without,List.map_cons,List.map_nil,List.cons_append,List.nil_append]); repeat (first|exact cn' _|refine cx' a9.high (by decide) ?_))))))
    refine l'<|a'<|sr<|yy (bB' z) z<|yy (aj' ((v101' V.c d f g e)).toArray 13 bg' z z z (aq' ([]) ((v101' V.c d f g e)) ((vecG (Value.int .i64) 8 V.m)))) z ?_
    obtain⟨cq,bW,hr⟩:=hr
    refine Q' z z (u' E102 z) (eC' bW) z (⟨ay,aB⟩) (fun cA bs aW be=>?_)
    obtain⟨bQ,b0,rfl,bO⟩:=be
    refine sx0 z z<|c'<|sr<|yy (aL' z) z<|yy (aj' (vecG (Value.int .i64) 8 V.m).toArray 13 aT' z z (M' _ _ _) (aq' ((v101' V.c d f g e)) (vecG (Value.int .i64) 8 V.m) ([]))) z<|mv z z<|nx<|R' (fun (⟨I,W,X,T3,an⟩:(List Zb)×Option Addr×Nat×Lo×Mem)=>[(3,pt0 Q),(14,.slice W I.length X),(53,.slice E c.length H),(54,i' (c.length:Int)),(55,i' l),(11,.map (some ao)),(10,.func (.func 145) #[] #[pt0 ak,pt0 af])]) (fun ⟨I,W,X,T3,an⟩=>Mem.le bs an/\sl r' an W X I/\PwR (Rp.sl r') 44 211 144 W1 P an T3 ak af/\(Zbm l ai I).wp (Out a6 aC)) (fun ⟨I,W,X,T3,an⟩=>St w0 G0 an ((3,bk0 Q (q) 144)::(4052,D)::T3)) ?_ ?_
    .refine s' ?_
     let bq:(List Zb)->Prop:=fun oo=>((fun ov=>match ov with|I=>Zbm l ai I:(List Zb)->Cq ((Int×(List ((Fin 8->Int)×Ze)))⊕(((List ((Fin 8->Int)×Ze)))))) oo).wp (Out a6 aC)
     replace hr:(Cq.loop _ _).wp bq:=hr
     refine T' (Φ:=bq) (fun (⟨O,J,K,U,T4,ah⟩:(List Zb)×Option Addr×Nat×Int×Lo×Mem)=>((O,U):(List Zb)×Int)) (fun ⟨O,J,K,U,T4,ah⟩=>[(3,pt0 Q),(14,.slice J O.length K),(53,.slice E c.length H),(54,i' (c.length:Int)),(55,i' l),(67,.agg (vecG (Value.int .i64) 8 V.m).toArray),(68,i' U),(11,.map (some ao)),(10,.func (.func 145) #[] #[pt0 ak,pt0 af])]) (fun ⟨O,J,K,U,T4,ah⟩=>Mem.le bs ah/\sl r' ah J K O/\PwR (Rp.sl r') 44 211 144 W1 P ah T4 ak af) (fun ⟨O,J,K,U,T4,ah⟩=>St w0 G0 ah ((3,bk0 Q (q) 144)::(4052,D)::T4)) ⟨cq,bQ,b0,0,T2,bs⟩ hr (f9 z z z z z z z z z) ⟨mr,bO,(a9.mono aW)⟩ (wk (lc z (lc z ((by (try simp only[Lo.without,List.map_cons,List.map_nil,List.cons_append,List.nil_append]); repeat (first|exact cn' _|refine cx' a9.high (by decide) ?_)))))) ?_
     .intro cP k hx hr
      obtain⟨O,J,K,U,T4,ah⟩:=k
      obtain⟨aT,aJ,aI⟩:=hx
      refine sr<|yy (V' z z) z<|nx<|c'<|E' hr z (fun cp hr=>?_) (fun cp hr=>?_)
      .refine l'<|a'<|c'<|s'<|sr<|mv z z ?_
       obtain⟨bF,hr⟩:=hr
       refine yy (dV' ag' sc3 sz3 z z bF (bo' _ _ _ bF)) z<|sg z z<|sg z z<|nr<|mv z z<|yy (aZ' z z) z<|nx<|E' hr z (fun ck hr=>?_) (fun ck hr=>?_)
       .refine n'<|mv z z<|mv z z<|mv z z<|mv z z ?_
        obtain⟨bI,hr⟩:=hr
        refine aC' (S':=St w0 G0 ah ((3,bk0 Q (q) 144)::(4052,D)::T4)) (fun w hs=>hs.weaken (lc z (lc z ((by (try simp only[Lo.without,List.map_cons,List.map_nil,List.cons_append,List.nil_append]); repeat (first|exact cn' _|refine cx' aI.high (by decide) ?_)))))) ?_
        refine WL.callPw (A:=[(3,bk0 Q (q) 144),(4052,D)]) (T:=T4) z (PwR.keys aI) (fun G L v h=>h.2.keys) z z (YC.ofV E145 z z) (ZeX W1 P _ _ _ _ _ cm bI.1 bI.2) z aI hz (fun cC cM T5 bb bi=>?_)
        obtain⟨⟨cH,cw,rfl,bV⟩,bK⟩:=bi
        obtain⟨b8,b6,hr⟩:=hr
        refine Q' z z (u' E103 z) (Zd3 _ _ _ _ _ _ _ b6) z (⟨(aJ.mono bb),bV⟩) (fun cx ce a5 bd=>?_)
        obtain⟨bv,bt,rfl,bn⟩:=bd
        refine mv z z<|yy (L' z z) z<|yy (L' z z) z<|sg z z<|o'<|v'<|a'<|n'<|yy (I' z z) z<|mv z z<|o'<|C' ⟨b8.1,bv,bt,i64.wrap (U+1),T5,ce⟩ hr ⟨(mx (mx aT bb) a5),bn,(bK.mono a5)⟩ (f9 z z z z z z z z z) (wk (lc z (lc z ((by (try simp only[Lo.without,List.map_cons,List.map_nil,List.cons_append,List.nil_append]); repeat (first|exact cn' _|refine cx' bK.high (by decide) ?_))))))
       refine l'<|v'<|a'<|n'<|yy (I' z z) z<|mv z z<|o'<|C' ⟨O,J,K,i64.wrap (U+1),T4,ah⟩ hr ⟨aT,aJ,aI⟩ (f9 z z z z z z z z z) (wk (lc z (lc z ((by (try simp only[Lo.without,List.map_cons,List.map_nil,List.cons_append,List.nil_append]); repeat (first|exact cn' _|refine cx' aI.high (by decide) ?_))))))
      refine U'<|h'<|h'<|y'<|W' ⟨O,J,K,T4,ah⟩ ⟨aT,aJ,aI,hr⟩ (f7 z z z z z z z) (wk (lc z (lc z ((by (try simp only[Lo.without,List.map_cons,List.map_nil,List.cons_append,List.nil_append]); repeat (first|exact cn' _|refine cx' aI.high (by decide) ?_))))))
    rintro⟨I,W,X,T3,an⟩ ⟨a8,aM,aZ,hr⟩
    refine a'<|sr<|mv z z<|yy (K' F' aM z) z<|mv z z<|nx<|R' (fun (k:(List ((Fin 8->Int)×Ze))×Option Ow×Mem)=>match k with|⟨aE,am,aN⟩=>[(3,pt0 Q),(53,.slice E c.length H),(54,i' (c.length:Int)),(55,i' l),(11,.map (some ao)),(10,.func (.func 145) #[] #[pt0 ak,pt0 af])]) (fun (k:(List ((Fin 8->Int)×Ze))×Option Ow×Mem)=>match k with|⟨aE,am,aN⟩=>Mem.le an aN/\MapR ky110 (RvA bd' aN) (.map (some ao)) aE am/\(Zbl l aE).wp (Out a6 aC)) (fun (k:(List ((Fin 8->Int)×Ze))×Option Ow×Mem)=>match k with|⟨aE,am,aN⟩=>St w0 G0 aN ((3,bk0 Q (q) 144)::(4052,am)::T3)) ?_ ?_
    .refine s' ?_
     let bo:(((List ((Fin 8->Int)×Ze))))->Prop:=fun oo=>((fun ov=>match ov with|aE=>Zbl l aE:(((List ((Fin 8->Int)×Ze))))->Cq ((Int×(List ((Fin 8->Int)×Ze)))⊕(((List ((Fin 8->Int)×Ze)))))) oo).wp (Out a6 aC)
     replace hr:(Cq.loop _ _).wp bo:=hr
     refine T' (Φ:=bo) (fun (k:Int×(List ((Fin 8->Int)×Ze))×Option Ow×Mem)=>match k with|⟨Y,aK,Z,az⟩=>((Y,aK):Int×(List ((Fin 8->Int)×Ze)))) (fun (k:Int×(List ((Fin 8->Int)×Ze))×Option Ow×Mem)=>match k with|⟨Y,aK,Z,az⟩=>[(3,pt0 Q),(53,.slice E c.length H),(54,i' (c.length:Int)),(55,i' l),(84,.slice W I.length X),(85,i' (I.length:Int)),(86,i' Y),(11,.map (some ao)),(10,.func (.func 145) #[] #[pt0 ak,pt0 af])]) (fun (k:Int×(List ((Fin 8->Int)×Ze))×Option Ow×Mem)=>match k with|⟨Y,aK,Z,az⟩=>Mem.le an az/\MapR ky110 (RvA bd' az) (.map (some ao)) aK Z) (fun (k:Int×(List ((Fin 8->Int)×Ze))×Option Ow×Mem)=>match k with|⟨Y,aK,Z,az⟩=>St w0 G0 az ((3,bk0 Q (q) 144)::(4052,Z)::T3)) ⟨0,ai,D,an⟩ hr (f9 z z z z z z z z z) ⟨mr,(bx' a4 (mx aW a8))⟩ (wk (lc z (lc z ((by (try simp only[Lo.without,List.map_cons,List.map_nil,List.cons_append,List.nil_append]); repeat (first|exact cn' _|refine cx' aZ.high (by decide) ?_)))))) ?_
     .intro cL k hx hr
      obtain⟨Y,aK,Z,az⟩:=k
      obtain⟨aH,bp⟩:=hx
      refine sr<|yy (V' z z) z<|nx<|c'<|E' hr z (fun cg hr=>?_) (fun cg hr=>?_)
      .refine l'<|a'<|c'<|s'<|sr ?_
       obtain⟨x2,bD,hr⟩:=hr
       refine yy (P' F' bh' (aM.mono aH) z z bD) z ?_
       obtain⟨m,n,o,s,b7,aw,au⟩:=bI' (H' (X' aM bD) aH)
       refine yy (as' _ cM' z z b7) z<|O' 18 z z152 z fun b4=>x' 18 z bh' z z z z z (fun u hu=>Rp.one r' (G:=az) (x:=x2) (cs:=((v101' x2.c m n o s):List Value)++(vecG (Value.int .i64) 8 x2.m)) ⟨(v101' x2.c m n o s),vecG (Value.int .i64) 8 x2.m,z,⟨(v99' x2.c.num m n),(v99' x2.c.den o s),z,⟨[.bool x2.c.num.neg],[.slice m x2.c.num.mag.length n],z,z,⟨_,z,aw⟩⟩,⟨[.bool x2.c.den.neg],[.slice o x2.c.den.mag.length s],z,z,⟨_,z,au⟩⟩⟩,z⟩ u (by first|simpa using hu|simpa [Value.cells] using hu))<|nx<|n'<|mv z z<|yy (bB' z) z<|yy (aj' ((v101' x2.c m n o s)).toArray 18 bg' z z z (aq' ([]) ((v101' x2.c m n o s)) ((vecG (Value.int .i64) 8 x2.m)))) z<|yy (aL' z) z<|yy (aj' (vecG (Value.int .i64) 8 x2.m).toArray 18 aT' z z (M' _ _ _) (aq' ((v101' x2.c m n o s)) (vecG (Value.int .i64) 8 x2.m) ([]))) z ?_
       obtain⟨b9,bM,hr⟩:=hr
       refine aC' (fun w hs=>hs.rekey (i:=4052) (j:=5500) z (by rw[a1]; rfl))<|ci' z z (u' E104 z) (dN' bM) z (⟨bp,aw,au⟩) (lc z ln) hz (fun cy cr cE bx bc=>?_)
       obtain⟨bw,rfl,rfl,bm⟩:=bc
       refine aC' (fun w hs=>hs.rekey (i:=5500) (j:=4052) z (by rw[a1]; rfl))<|o'<|v'<|a'<|n'<|yy (I' z z) z<|mv z z<|o'<|C' ⟨i64.wrap (Y+1),b9,bw,cr⟩ hr ⟨(mx aH bx),bm⟩ (f9 z z z z z z z z z) (wk (lc z (lc z ((by (try simp only[Lo.without,List.map_cons,List.map_nil,List.cons_append,List.nil_append]); repeat (first|exact cn' _|refine cx' aZ.high (by decide) ?_))))))
      refine U'<|h'<|h'<|y'<|W' ⟨aK,Z,az⟩ ⟨aH,bp,hr⟩ (f6 z z z z z z) (wk (lc z (lc z ((by (try simp only[Lo.without,List.map_cons,List.map_nil,List.cons_append,List.nil_append]); repeat (first|exact cn' _|refine cx' aZ.high (by decide) ?_))))))
    rintro⟨aE,am,aN⟩ ⟨ba,bR,hr⟩
    refine v'<|a'<|n'<|yy (I' z z) z<|mv z z<|o'<|C' ⟨i64.wrap (l+1),aE,am,T3,aN⟩ hr ⟨(mx (mx (mx ad aW) a8) ba),bR,(aZ.mono ba)⟩ (f6 z z z z z z) (wk (lc z (lc z ((by (try simp only[Lo.without,List.map_cons,List.map_nil,List.cons_append,List.nil_append]); repeat (first|exact cn' _|refine cx' aZ.high (by decide) ?_))))))
   refine U'<|h'<|h'<|y'<|W' ⟨ai,D,ag⟩ ⟨ad,a4,hr⟩ (f1 z) (w1 z)
 rintro⟨aO,ax,aQ⟩ ⟨cu,bU,hr⟩
 refine a'<|sr<|mv z z ?_
 obtain⟨cN,bX,hr⟩:=hr
 refine aC' (fun w hs=>hs.rekey (i:=4052) (j:=5500) z (by rw[a1]; rfl))<|WL.callRO z z (u' E105 z) (dR' bX) z (bU) (lc z ln) (fun i hi=>by simp only[List.map_cons,List.map_nil,List.mem_cons,List.not_mem_nil,or_false] at hi; subst hi; exact z) hz (fun cB cO cv bf=>?_)
 obtain⟨cz,cJ,rfl,bP⟩:=bf
 refine aC' (fun w hs=>hs.rekey (i:=5500) (j:=4052) z (by rw[a1]; rfl))<|sg z z<|sx0 z z<|k' ?_
 obtain rfl:_=r:=hr
 exact bE' z z z ⟨_,_,z,bP⟩
theorem cq'{A B f i u q D E r}(hr:(_eliminant_merge_translation_translate A B).Ret r):Ctr prog 30 #[.agg ((v83' A f i u q)).toArray,.slice D B.length E] (fun G=>sl Rp.str G f i A.from'/\sl Rp.str G u q A.to'/\sl r' G D E B) (fun G v=>∃ R M,v = .tuple #[.slice R r.1.length M,.bool r.2]/\sl r' G R M r.1):=by
 refine A' (args:=[_,_]) (N:=48) func30 z z z (fun w0 G0 aD ad=>?_)
 obtain⟨h,C,W⟩:=ad
 refine sr<|Y' 2 z z z fun b1=>sg z z<|sx0 z z<|c'<|sr<|yy (m' 2 ag83 z z z) z<|mv z z ?_
 obtain⟨aG,Z,hr⟩:=hr
 refine Q' z z (u' E29 z) (cr' Z) z (⟨h,C,W⟩) (fun ay y l F=>?_)
 obtain⟨az,ap,rfl,ab⟩:=F
 refine yy (K' J' ab z) z<|yy (aZ' z z) z<|nx<|E' hr z (fun an hr=>?_) (fun an hr=>?_)
 .refine sr<|sg z z<|sx0 z z<|k'<|b' ?_
  obtain rfl:_=r:=hr
  exact bE' z z z ⟨_,_,z,(ah' r' _)⟩
 refine l'<|a'<|sr<|O' 6 z z144 z fun U=>nx<|c'<|sr<|yy (Y0.Zoc z) z<|yy (g' 2 bF' z z z) z<|yy (K' J' (h.mono l) z) z<|mv z z<|nx<|R' (fun (⟨m,o,x,p⟩:(List (List Zb))×List Value×Unit×Mem)=>[(1,.slice D B.length E),(6,pt0 U)]) (fun ⟨m,o,x,p⟩=>Mem.le y p/\ArRd (Rp.sl r') 8 p o x m/\(_eliminant_merge_translation_translate_k1 B m).Ret r) (fun ⟨m,o,x,p⟩=>St w0 G0 p [(6,bk0 U (o) 144)]) ?_ ?_
 .refine s' ?_
  let P:(((List (List Zb))))->Prop:=fun oo=>((fun ov=>match ov with|m=>_eliminant_merge_translation_translate_k1 B m:(((List (List Zb))))->Cq ((List Zb)×Bool)) oo).wp (fun a=>a=r)
  replace hr:(Cq.loop _ _).wp P:=hr
  refine T' (Φ:=P) (fun (⟨c,j,d,e,k⟩:Int×(List (List Zb))×List Value×Unit×Mem)=>((c,j):Int×(List (List Zb)))) (fun ⟨c,j,d,e,k⟩=>[(1,.slice D B.length E),(2,pt0 b1),(6,pt0 U),(18,.slice f A.from'.length i),(19,i' (A.from'.length:Int)),(20,i' c)]) (fun ⟨c,j,d,e,k⟩=>Mem.le y k/\ArRd (Rp.sl r') 8 k d e j) (fun ⟨c,j,d,e,k⟩=>St w0 G0 k [(2,bk0 b1 (v83' A f i u q) 83),(6,bk0 U (d) 144)]) ⟨0,(List.replicate 8 []),([.slice none 0 0,.slice none 0 0,.slice none 0 0,.slice none 0 0,.slice none 0 0,.slice none 0 0,.slice none 0 0,.slice none 0 0]:List Value),(),y⟩ hr (f6 z z z z z z) ⟨mr,(show ArRd (Rp.sl r') 8 y ([.slice none 0 0,.slice none 0 0,.slice none 0 0,.slice none 0 0,.slice none 0 0,.slice none 0 0,.slice none 0 0,.slice none 0 0]:List Value) () _ from cU' (G:=y) (r:=(Rp.sl r')) (n:=8) (zc:=[.slice none 0 0]) (z:=[]) ⟨_,z,(ah' _ _)⟩)⟩ (w2 z z) ?_
  .intro aB gx hx hr
   obtain⟨c,j,d,e,k⟩:=gx
   obtain⟨g,t⟩:=hx
   refine sr<|yy (V' z z) z<|nx<|c'<|E' hr z (fun ai hr=>?_) (fun ai hr=>?_)
   .refine l'<|a'<|c'<|s'<|sr<|mv z z ?_
    obtain⟨x1,X,hr⟩:=hr
    refine yy (P' J' sz9 (h.mono (mx l g)) z z X) z<|yy (ae' sc9 z (bT' (H' (X' h X) (mx l g)))) z<|sg z z<|sg z z<|nr<|yy (Y0.Zod z) z<|yy (g' 2 bF' z z z) z<|mv z z ?_
    obtain⟨aF,ac,hr⟩:=hr
    refine B' z z (u' E61 z) (cR' ac) z ((C.mono (mx l g)))<|sg z z<|nr<|mv z z<|yy (aV' z z) z<|nx<|E' hr z (fun aj hr=>?_) (fun aj hr=>?_)
    .refine n'<|mv z z<|mv z z ?_
     obtain⟨L,Y,hr⟩:=hr
     refine Q' z z (u' E62 z) (fn' Y) z (trivial) (fun av af s H=>?_)
     obtain⟨S,Q,rfl,J⟩:=H
     refine mv z z<|yy (L' z z) z<|yy (L' z z) z ?_
     obtain⟨x2,V,hr⟩:=hr
     refine yy (dh' cz' sz44 z z (dI' (t.mono s) V)) z<|WL.storeAy (cs':=[.slice S L.1.length Q]) (z':=L.1) 6 z sz44 z (by decide) (t.mono s) z z z z ⟨_,z,J⟩ V fun d1 ah=>o'<|v'<|a'<|n'<|yy (I' z z) z<|mv z z<|o'<|C' ⟨i64.wrap (c+1),j.set c.toNat L.1,d1,e,af⟩ hr ⟨(mx g s),ah⟩ (f6 z z z z z z) (w2 z z)
    refine l'<|v'<|a'<|n'<|yy (I' z z) z<|mv z z<|o'<|C' ⟨i64.wrap (c+1),j,d,e,k⟩ hr ⟨g,t⟩ (f6 z z z z z z) (w2 z z)
   refine U'<|h'<|h'<|y'<|W' ⟨j,d,e,k⟩ ⟨g,t,hr⟩ (f2 z z) (w1 z)
 rintro⟨m,o,x,p⟩ ⟨T,K,hr⟩
 refine a'<|sr<|mv z z<|yy (m' 6 ag144 z z (cA' K)) z ?_
 obtain⟨aE,aa,hr⟩:=hr
 refine Q' z z (u' E63 z) (eQ' aa) z (⟨(W.mono (mx l T)),K⟩) (fun ax aC ao I=>?_)
 obtain⟨al,ae,rfl,O⟩:=I
 refine mv z z<|yy (L' z z) z<|yy (L' z z) z<|sg z z<|sg z z<|nr<|mv z z<|mv z z<|yy (au' z z) z<|sg z z<|sx0 z z<|k' ?_
 obtain rfl:_=r:=hr
 exact bE' z z z ⟨_,_,z,O⟩
theorem cS'{j O l Q i h g t s p o C d e f u q m n B c A r}(hr:(Zaa j O l Q i).Ret r):CtrL prog 60 #[.agg ((v31' j h g t s p o)).toArray,.map (some C),.agg ((v31' l e f u q m n)).toArray,.map (some B),pt0 A] [(5501,d),(5503,c),(105417,bk0 A ([i' i]) 3)] (fun G=>sl Rp.str G h g j.vars/\sl e' G t s j.eqs/\sl e' G p o j.neqs/\MapR ky3 (RvA aE' G) (.map (some C)) O d/\sl Rp.str G e f l.vars/\sl e' G u q l.eqs/\sl e' G m n l.neqs/\MapR ky3 (RvA aE' G) (.map (some B)) Q c) (fun G L v=>L=[(5501,d),(5503,c),(105417,bk0 A ([i' i]) 3)]/\v = .bool r):=by
 refine ca' (args:=[_,_,_,_,_]) (N:=65) func60 z z z (fun I y aF ad=>?_)
 obtain⟨D,ac,X,S,E,ae,Z,U⟩:=ad
 refine sr<|Y' 5 z z z fun b2=>Y' 7 z z z fun b3=>sg z z<|nr<|mv z z<|yy (g' 105417 sc3 z z z) z ?_
 obtain⟨ap,hr⟩:=hr
 obtain⟨V,K,hr⟩:=hr
 replace K:_=V:=K
 refine WL.mapGetB (r:=aE') (k:=i) (zc:=[.slice none 0 0,.bool false]) (z:=(Zi.mk [] false)) 5501 z z bq' zv79 ⟨[.slice none 0 0],[.bool false],z,⟨_,z,(ah' _ _)⟩,z⟩ S z z z ap (fun aE aa=>?_)
 rw[K] at aa
 obtain⟨ag,ah,rfl,aj⟩:=Z2 aa
 refine mv z z<|yy (L' z z) z<|yy (L' z z) z<|O' 10 z z79 z fun b4=>x' 10 z sz79 z z z z z (List.all_eq_true.1 z)<|sg z z<|nr<|mv z z<|yy (g' 105417 sc3 z z z) z ?_
 obtain⟨am,hr⟩:=hr
 obtain⟨T,R,hr⟩:=hr
 replace R:_=T:=R
 refine WL.mapGetB (r:=aE') (k:=i) (zc:=[.slice none 0 0,.bool false]) (z:=(Zi.mk [] false)) 5503 z z bq' zv79 ⟨[.slice none 0 0],[.bool false],z,⟨_,z,(ah' _ _)⟩,z⟩ U z z z am (fun aD Y=>?_)
 rw[R] at Y
 obtain⟨ai,ak,rfl,af⟩:=Z2 Y
 refine mv z z<|yy (L' z z) z<|yy (L' z z) z<|O' 12 z z79 z fun b5=>x' 12 z sz79 z z z z z (List.all_eq_true.1 z)<|sx0 z z<|aP' (fun (P:Mem)=>match P with|F=>[(5,pt0 b2),(7,pt0 b3),(10,pt0 b4),(12,pt0 b5),(1,.map (some C)),(3,.map (some B))]) (fun (P:Mem)=>match P with|F=>Mem.le y F/\(Zcd j l V T).Ret r) (fun (P:Mem)=>match P with|F=>St I y F [(105417,bk0 A ([i' i]) 3),(5,bk0 b2 (v31' j h g t s p o) 31),(7,bk0 b3 (v31' l e f u q m n) 31),(10,bk0 b4 ([.slice ag V.p.length ah,.bool V.neq]) 79),(12,bk0 b5 ([.slice ai T.p.length ak,.bool T.neq]) 79),(5501,d),(5503,c)]) ?_ ?_
 .refine sr<|ao' hr z (cp' (f' z) (congrArg Value.bool (bdec _))) z (fun ay hr=>?_) (fun ay hr=>?_)
  .refine yy (an' z) z<|mv z z<|gy z z (f' z) z<|gy z z (an' z) z<|yy (p' z z) z<|nx<|ay' hr z (fun az hr=>?_) (fun az hr=>?_)
   .refine sr<|mv z z<|mv z z<|yy (dW' bA' z z) z<|sx0 z z<|k'<|b' ?_
    obtain rfl:_=r:=hr
    refine bM' (S':=St I y y [(5501,d),(5503,c),(105417,bk0 A ([i' i]) 3)]) (w3 z z z)<|j' z z ⟨z,z⟩
   refine l'<|al' y ⟨mr,hr⟩ (f6 z z z z z z) (w7 z z z z z z z)
  refine yy (an' z) z<|mv z z<|sn2 z<|yy (t' z z) z<|nx<|av' z<|sr<|mv z z<|mv z z<|yy (dW' bA' z z) z<|sx0 z z<|k'<|b' ?_
  obtain rfl:_=r:=hr
  refine bM' (S':=St I y y [(5501,d),(5503,c),(105417,bk0 A ([i' i]) 3)]) (w3 z z z)<|j' z z ⟨z,z⟩
 rintro F ⟨x,hr⟩
 refine sr<|yy (aH' z) z<|yy (g' 5 bF' z z z) z<|yy (aH' z) z<|yy (g' 7 bF' z z z) z<|yy (at' (vs:=#[(0,.slice h j.vars.length g),(1,.slice e l.vars.length f)]) (v:=.agg ([.slice h j.vars.length g,.slice e l.vars.length f]).toArray) z z (fun _=>by kernel_rfl)) z<|yy (Y0.makeFunc z z) z<|sg z z<|nr<|mv z z<|yy (Y0.Zje z) z<|yy (g' 10 sc44 z z z) z ?_
 obtain⟨aC,al,hr⟩:=hr
 refine Q' z z (YC.ofB E30 z z) (cq' al) z (⟨(D.mono x),(E.mono x),(aj.mono x)⟩) (fun aA J W H=>?_)
 obtain⟨aq,an,rfl,M⟩:=H
 refine mv z z<|yy (L' z z) z<|yy (L' z z) z<|sg z z<|sg z z<|nr<|yy (Y0.ZlJ z) z<|yy (g' 10 sc4 z z z) z<|yy (Y0.ZlJ z) z<|yy (g' 12 sc4 z z z) z<|ao' hr z (dW' bA' z z) z (fun ax hr=>?_) (fun ax hr=>?_)
 .refine mv z z<|ao' hr (D' z z) (cp' (f' z) (congrArg Value.bool (bdec _))) z (fun aw hr=>?_) (fun aw hr=>?_)
  .refine yy (t' z z) z<|mv z z<|gy z z (f' z) z<|gy z z (Y0.Zje z) z<|gy z z (g' 12 sc44 z z z) z ?_
   obtain⟨aB,ab,hr⟩:=hr
   refine B' (D' z z) z (u' E52 z) (ej' ab) z (⟨M,(af.mono (mx x W))⟩)<|yy (t' z z) z<|sx0 z z<|k' ?_
   obtain rfl:_=r:=hr
   refine bM' (S':=St I y J [(5501,d),(5503,c),(105417,bk0 A ([i' i]) 3)]) (w3 z z z)<|j' z z ⟨z,z⟩
  refine yy (t' z z) z<|mv z z<|sn4 z<|yy (p' z z) z<|sx0 z z<|k' ?_
  obtain rfl:_=r:=hr
  refine bM' (S':=St I y J [(5501,d),(5503,c),(105417,bk0 A ([i' i]) 3)]) (w3 z z z)<|j' z z ⟨z,z⟩
 refine mv z z<|sk z z z<|yy (p' z z) z<|mv z z<|sn4 z<|yy (p' z z) z<|sx0 z z<|k' ?_
 obtain rfl:_=r:=hr
 refine bM' (S':=St I y J [(5501,d),(5503,c),(105417,bk0 A ([i' i]) 3)]) (w3 z z z)<|j' z z ⟨z,z⟩
theorem gv':CollectsL prog 95 #[] 97 ky3 (Rp.int .i64) 3:=
 collect (ZhZ (fun i g h=>appS (ok:=ky3.ok) (enc:=fun x=>(Value.int .i64) x) func142 z z z sc49 sz49 aN' el3 z (by decide) (fun _ _=>z) (fun _ _=>by kernel_rfl) E97 i g h) (fun e c f d=>keysS (ok:=ky3.ok) (enc:=fun x=>(Value.int .i64) x) func97 z z z sc134 bq' e c f d)) E142 func95 z z z
theorem fo':SortedL prog 58 97 ky3 (Rp.int .i64) 3 ZV:=
 sorted gv' (fun d p c e y h=>Zfp d p c d.length e y h) E95 E96 func58 z z z
set_option maxHeartbeats 2000000 in
theorem eR'{aW d H aO aN aT aU aK aH C D E F n m Q P T S K J r}(hr:(Zco aW d H).Ret r):CtrL prog 27 #[.agg ((v31' aW aO aN aT aU aK aH)).toArray,.agg ((v31' d C D E F n m)).toArray,.agg ((v31' H Q P T S K J)).toArray] [] (fun G=>sl Rp.str G aO aN aW.vars/\sl e' G aT aU aW.eqs/\sl e' G aK aH aW.neqs/\sl Rp.str G C D d.vars/\sl e' G E F d.eqs/\sl e' G n m d.neqs/\y31' G Q P T S K J H) (fun G L v=>∃ bf bc bv bA bO,L=[(7000,bO)]/\v = .tuple #[.slice bf r.1.length bc,.slice bv r.2.length bA]/\sl ba' G bf bc r.1/\sl ab' G bv bA r.2/\Tok 7 81 (.slice bf r.1.length bc) r.1.length bO):=by
 refine ca' (args:=[_,_,_]) (N:=102) func27 z z z (fun w0 G0 I cD=>?_)
 obtain⟨aM,aS,aE,an,aq,ao,ar,aC,au⟩:=cD
 have hz:w0.L.zero:=by rw[I]; intro p hp; simp at hp
 refine sr<|Y' 3 z z z fun b1=>Y' 4 z z z fun b2=>Y' 5 z z z fun b3=>sg z z<|sx0 z z<|c'<|ad' [ff,ff,ff,ff,ff] mix (by kernel_rfl) fun hb=>cn (fun _ aQ=>m' 3 ai' z z z) ?_
 obtain⟨c6,ce,hr⟩:=hr
 refine Chain.callMapG (f:=56) (ky:=ky3) (r:=aE') c6 (fun _=>z) (fun u G' aQ hu=>?_) ?_
 .exact⟨_,_,_,fun _=>u' E56 z,cO' ce,z,⟨(aM.mono aQ),(aS.mono aQ),(aE.mono aQ)⟩⟩
 refine cu (fun _ _ aQ=>m' 4 ai' z z z) ?_
 obtain⟨cV,cg,hr⟩:=hr
 refine Chain.callMapG (f:=56) (ky:=ky3) (r:=aE') cV (fun _=>z) (fun u G' aQ hu=>?_) ?_
 .exact⟨_,_,_,fun _=>u' E56 z,cO' cg,z,⟨(an.mono aQ),(aq.mono aQ),(ao.mono aQ)⟩⟩
 refine cu (fun _ _ aQ=>m' 5 ai' z z z)<|Chain.tailX2 fun dE dI X1 M bp aV=>WL.adoptG bp (fun aj bH bV a4 cf=>?_)
 subst bV
 replace aV:=MapG.drop aV (by decide) cf
 refine WL.adoptG aV (fun ak bG cx be dR=>?_)
 subst cx
 refine cJ' (show WL _ _ _ _ _ _ (St w0 G0 X1.m _) from ?_)
 refine aC' (fun w O=>O.rekey (i:=26) (j:=4026) z (by rw[I]; rfl))<|aC' (fun w O=>O.rekey (i:=24) (j:=4024) z (by rw[I]; rfl)) ?_
 obtain⟨d5,cz,hr⟩:=hr
 refine ci' z z (u' E56 z) (cO' cz) z (⟨(ar.mono M),(aC.mono M),(au.mono M)⟩) ln hz (fun dv c1 dK B bo=>?_)
 obtain⟨ai,bJ,rfl,rfl,a5⟩:=bo
 refine aC' (fun w O=>O.rekey (i:=7000) (j:=4028) z (by rw[I]; rfl))<|sg z z<|sg z z<|sg z z<|o'<|am'<|a'<|sr<|dq' (ky:=ky3) (Rv:=RvA aE' c1) 4029 z z fun c9 dm bR=>sx0 z z<|c'<|sr<|mv z z<|mv z z<|mv z z<|aD' (e:=134) (r:=Rp.mapv) (vs:=#[(0,.map (some ak)),(1,.map (some aj)),(2,.map (some ai))]) (cs:=[.map (some ak)]++([.map (some aj)]++([.map (some ai)]++([])))) ([ak,aj,ai]:List Nat) z z z z z (by decide) (fun _=>by kernel_rfl) ⟨[.map (some ak)],[.map (some aj)]++([.map (some ai)]++([])),z,z,⟨[.map (some aj)],[.map (some ai)]++([]),z,z,⟨[.map (some ai)],[],z,z,z⟩⟩⟩ (key:=999) z (by rw[I]; rfl) fun p1 d1 s a1=>yy (cp' (K' dj' a1 z) (show Value.int .i64 _=i' 3 from z)) z<|mv z z<|nx<|s'<|WC.unroll<|sr<|yy (cp' (V' z z) (congrArg Value.bool (decide_eq_true (by decide)))) z<|nx<|c'<|av' z<|l'<|a'<|c'<|s'<|sr<|yy (P' dj' sz134 a1 z z (show (0:Int)<=0/\([ak,aj,ai]:List Nat)[((0:Int)).toNat]? = some ak from ⟨by decide,z⟩)) z<|yy (ae' sc134 z (AtK.mapv (X' a1 (show (0:Int)<=0/\([ak,aj,ai]:List Nat)[((0:Int)).toNat]? = some ak from ⟨by decide,z⟩)))) z<|sx0 z z<|n'<|mv z z<|mv z z<|aC' (fun w O=>O.rekey (i:=4029) (j:=5500) z (by rw[I]; rfl))<|aC' (fun w O=>O.rekey (i:=4024) (j:=5501) z (by rw[I]; rfl))<|ci' z z (u' E57 z) (bf' hr) z (⟨(bx' bR s),(bx' be (mx B s))⟩) (lc z (lc z ln)) hz (fun dB d8 dV o bi=>?_)
 clear hr
 obtain⟨dY,dl,rfl,rfl,hr,bt⟩:=bi
 refine aC' (fun w O=>O.rekey (i:=5500) (j:=4029) z (by rw[I]; rfl))<|aC' (fun w O=>O.rekey (i:=5501) (j:=4024) z (by rw[I]; rfl))<|o'<|v'<|a'<|n'<|yy (cp' (I' z z) (congrArg (Value.int .i64) (show i64.wrap ((0:Int)+1)=1 by decide))) z<|mv z z<|o'<|WE.again<|sr<|yy (cp' (V' z z) (congrArg Value.bool (decide_eq_true (by decide)))) z<|nx<|c'<|av' z<|l'<|a'<|c'<|s'<|sr<|yy (P' dj' sz134 (a1.mono o) z z (show (0:Int)<=1/\([ak,aj,ai]:List Nat)[((1:Int)).toNat]? = some aj from ⟨by decide,z⟩)) z<|yy (ae' sc134 z (AtK.mapv (H' (X' a1 (show (0:Int)<=1/\([ak,aj,ai]:List Nat)[((1:Int)).toNat]? = some aj from ⟨by decide,z⟩)) o))) z<|sx0 z z<|n'<|mv z z<|mv z z<|aC' (fun w O=>O.rekey (i:=4029) (j:=5500) z (by rw[I]; rfl))<|aC' (fun w O=>O.rekey (i:=4026) (j:=5501) z (by rw[I]; rfl))<|ci' z z (u' E57 z) (bf' hr) z (⟨bt,(bx' a4 (mx (mx B s) o))⟩) (lc z (lc z ln)) hz (fun du ee ds t bk=>?_)
 clear hr
 obtain⟨ed,dh,rfl,rfl,hr,bE⟩:=bk
 refine aC' (fun w O=>O.rekey (i:=5500) (j:=4029) z (by rw[I]; rfl))<|aC' (fun w O=>O.rekey (i:=5501) (j:=4026) z (by rw[I]; rfl))<|o'<|v'<|a'<|n'<|yy (cp' (I' z z) (congrArg (Value.int .i64) (show i64.wrap ((1:Int)+1)=2 by decide))) z<|mv z z<|o'<|WE.again<|sr<|yy (cp' (V' z z) (congrArg Value.bool (decide_eq_true (by decide)))) z<|nx<|c'<|av' z<|l'<|a'<|c'<|s'<|sr<|yy (P' dj' sz134 (a1.mono (mx o t)) z z (show (0:Int)<=2/\([ak,aj,ai]:List Nat)[((2:Int)).toNat]? = some ai from ⟨by decide,z⟩)) z<|yy (ae' sc134 z (AtK.mapv (H' (X' a1 (show (0:Int)<=2/\([ak,aj,ai]:List Nat)[((2:Int)).toNat]? = some ai from ⟨by decide,z⟩)) (mx o t)))) z<|sx0 z z<|n'<|mv z z<|mv z z<|aC' (fun w O=>O.rekey (i:=4029) (j:=5500) z (by rw[I]; rfl))<|aC' (fun w O=>O.rekey (i:=4028) (j:=5501) z (by rw[I]; rfl))<|ci' z z (u' E57 z) (bf' hr) z (⟨bE,(bx' a5 (mx (mx s o) t))⟩) (lc z (lc z ln)) hz (fun dr d3 dC y bh=>?_)
 clear hr
 obtain⟨d2,dg,rfl,rfl,hr,bu⟩:=bh
 refine aC' (fun w O=>O.rekey (i:=5500) (j:=4029) z (by rw[I]; rfl))<|aC' (fun w O=>O.rekey (i:=5501) (j:=4028) z (by rw[I]; rfl))<|o'<|v'<|a'<|n'<|yy (cp' (I' z z) (congrArg (Value.int .i64) (show i64.wrap ((2:Int)+1)=3 by decide))) z<|mv z z<|o'<|WE.again<|sr<|yy (cp' (V' z z) (congrArg Value.bool (decide_eq_false (by decide)))) z<|nx<|c'<|aK' z<|U'<|h'<|h'<|y'<|a'<|sr<|sg z z<|nr<|sx0 z z<|c'<|sr<|mv z z<|Q' z z (u' E59 z) (keysBox func59 z z z (some c9)) z trivial (fun dO d4 x bn=>?_)
 obtain⟨d6,rfl,ct⟩:=bn
 refine ci' z z (u' E58 z) (fo' _ _ _ _ _ 4029 _ (by decide) (bx' bu x) hr) z ct (lc z ln) hz (fun dt d7 dM A br=>?_)
 clear hr
 obtain⟨bM,ca,b9,dj,rfl,rfl,cC,hr⟩:=br
 refine aC' (fun w O=>O.rekey (i:=7000) (j:=4045) z (by rw[I]; rfl))<|bQ' (r:=(Rp.int .i64)) (e:=3) 4045 cC z (by rw[I]; rfl) fun cJ bd l bg dk=>yy (K' aN' bg z) z<|mv z z<|nx<|R' (fun (⟨al,ax,ay,ap,am,az,av,aw,aX⟩:(List Zg)×Option Addr×Nat×Option Ow×(List Zk)×Option Addr×Nat×Option Ow×Mem)=>[(14,.slice ax al.length ay),(15,.slice az am.length av)]) (fun ⟨al,ax,ay,ap,am,az,av,aw,aX⟩=>Mem.le bd aX/\sl ba' aX ax ay al/\Tok 7 81 (.slice ax al.length ay) al.length ap/\sl ab' aX az av am/\Tok 2 61 (.slice az am.length av) am.length aw/\(Zbh al am).Ret r) (fun ⟨al,ax,ay,ap,am,az,av,aw,aX⟩=>St w0 G0 aX [(1014,ap),(1015,aw)]) ?_ ?_
 .refine s' ?_
  let bx:(((List Zg)×(List Zk)))->Prop:=fun oo=>((fun ov=>match ov with|(al,am)=>Zbh al am:(((List Zg)×(List Zk)))->Cq ((List Zg)×(List Zk))) oo).wp (fun a=>a=r)
  replace hr:(Cq.loop _ _).wp bx:=hr
  refine T' (Φ:=bx) (fun (⟨V,Z,aa,W,U,Y,X,R,af,aR⟩:(List Zg)×Option Addr×Nat×Option Ow×(List Zk)×Option Addr×Nat×Option Ow×Int×Mem)=>((V,U,af):(List Zg)×(List Zk)×Int)) (fun ⟨V,Z,aa,W,U,Y,X,R,af,aR⟩=>[(3,pt0 b1),(4,pt0 b2),(5,pt0 b3),(14,.slice Z V.length aa),(15,.slice Y U.length X),(45,.slice ca bM.length b9),(46,i' (bM.length:Int)),(47,i' af),(8,.map (some ak)),(9,.map (some aj)),(10,.map (some ai))]) (fun ⟨V,Z,aa,W,U,Y,X,R,af,aR⟩=>Mem.le bd aR/\sl ba' aR Z aa V/\Tok 7 81 (.slice Z V.length aa) V.length W/\sl ab' aR Y X U/\Tok 2 61 (.slice Y U.length X) U.length R) (fun ⟨V,Z,aa,W,U,Y,X,R,af,aR⟩=>St w0 G0 aR [(3,bk0 b1 (v31' aW aO aN aT aU aK aH) 31),(4,bk0 b2 (v31' d C D E F n m) 31),(5,bk0 b3 (v31' H Q P T S K J) 31),(4045,cJ),(1014,W),(1015,R),(4024,bG),(4026,bH),(4028,bJ)]) ⟨[],none,0,none,[],none,0,none,0,bd⟩ hr (f11 z z z z z z z z z z z) ⟨mr,(ah' _ _),cc',(ah' _ _),cc'⟩ (wk (lc z (lc z (lc z (lc z (lw (lw (lc z (lc z (lc z ln)))))))))) ?_
  .intro d0 gx hx hr
   obtain⟨V,Z,aa,W,U,Y,X,R,af,aR⟩:=gx
   obtain⟨g,ag,ad,ah,ae⟩:=hx
   refine sr<|yy (V' z z) z<|nx<|c'<|E' hr z (fun df hr=>?_) (fun df hr=>?_)
   .refine l'<|a'<|c'<|s'<|sr ?_
    obtain⟨x1,bP,hr⟩:=hr
    refine yy (P' aN' sz3 (bg.mono g) z z bP) z<|yy (ae' sc3 z (aA' (H' (X' bg bP) g))) z<|O' 105417 z z3 z fun b4=>aB' 105417 ([i' x1]).toArray z sz3 z z z (by first|decide|simp) z z<|nx<|c'<|sr<|yy (g' 105417 sc3 z z z) z<|yy (bt' z) z<|yy (g' 3 sc3 z z z) z<|yy (aV' z z) z<|nx<|E' hr z (fun cZ hr=>?_) (fun cZ hr=>?_)
    .refine U'<|h'<|em' z<|h'<|h'<|y'<|W' ⟨V,Z,aa,W,U,Y,X,R,aR⟩ ⟨g,ag,ad,ah,ae,hr⟩ (f2 z z) (w2 z z)
    refine l'<|a'<|sr<|yy (Y0.makeFunc z z) z<|sg z z<|nr<|yy (m' 4 ai' z z z) z<|mv z z<|O' 19 z z31 z fun b5=>x' 19 z aR' z z z z z (List.all_eq_true.1 z)<|sx0 z z<|c'<|s'<|sr<|mv z z<|yy (m' 4 ai' z z z) z<|mv z z<|yy (m' 3 ai' z z z) z<|mv z z ?_
    obtain⟨ec,cA,hr⟩:=hr
    have N1:=mx (mx (mx (mx (mx (mx (mx (mx (mx M B) s) o) t) y) x) A) l) g
    have N2:=mx (mx (mx (mx (mx (mx (mx (mx B s) o) t) y) x) A) l) g
    refine aC' (fun w O=>O.rekey (i:=4026) (j:=5501) z (by rw[I]; rfl))<|aC' (fun w O=>O.rekey (i:=4024) (j:=5503) z (by rw[I]; rfl))<|WL.callRO z z (YC.ofV E60 z z) (cS' cA) z (⟨(an.mono N1),(aq.mono N1),(ao.mono N1),(bx' a4 N2),(aM.mono N1),(aS.mono N1),(aE.mono N1),(bx' be N2)⟩) (lc z (lc z (lc z ln))) (fun i hi=>by simp only[List.map_cons,List.map_nil,List.mem_cons,List.not_mem_nil,or_false] at hi; rcases hi with h|h|h <;> subst h <;> exact z) hz (fun dA cv c bq=>?_)
    subst bq
    refine aC' (fun w O=>O.rekey (i:=5501) (j:=4026) z (by rw[I]; rfl))<|aC' (fun w O=>O.rekey (i:=5503) (j:=4024) z (by rw[I]; rfl))<|sx0 z z<|ay' hr z (fun c5 hr=>?_) (fun c5 hr=>?_)
    .refine n'<|yy (m' 5 ai' z z z) z<|mv z z<|x' 19 z aR' z z z z z (List.all_eq_true.1 z)<|sg z z<|o'<|v'<|a'<|sr<|mv z z<|yy (g' 105417 sc3 z z z) z ?_
     obtain⟨da,hr⟩:=hr
     obtain⟨u1,bz,hr⟩:=hr
     replace bz:_=u1:=bz
     have N3:=mx (mx (mx (mx (mx (mx (mx (mx s o) t) y) x) A) l) g) c
     refine WL.mapGetB (r:=aE') (k:=x1) (zc:=[.slice none 0 0,.bool false]) (z:=(Zi.mk [] false)) 4028 z z bq' zv79 ⟨[.slice none 0 0],[.bool false],z,⟨_,z,(ah' _ _)⟩,z⟩ (bx' a5 N3) z z z da (fun ea bQ=>?_)
     rw[bz] at bQ
     obtain⟨aP,aL,rfl,cH⟩:=Z2 bQ
     refine mv z z<|yy (L' z z) z<|yy (L' z z) z<|O' 21 z z79 z fun b6=>x' 21 z sz79 z z z z z (List.all_eq_true.1 z)<|sg z z<|nr<|mv z z<|nx<|ay' hr z (fun cY hr=>?_) (fun cY hr=>?_)
     .refine n'<|mv z z<|yy (g' 105417 sc3 z z z) z<|yy (m' 21 ag79 z z z) z<|yy (m' 19 ai' z z z) z<|yy (at' (vs:=#[(0,i' x1),(1,.agg ([.slice aP u1.p.length aL,.bool u1.neq]).toArray),(2,.agg ((v31' H Q P T S K J)).toArray)]) (v:=.agg ([i' x1,.slice aP u1.p.length aL,.bool u1.neq,.slice Q H.vars.length P,.slice T H.eqs.length S,.slice K H.neqs.length J,i' H.next]).toArray) z z (fun _=>by kernel_rfl)) z<|aD' (e:=81) (r:=ba') (vs:=#[(0,.agg ([i' x1,.slice aP u1.p.length aL,.bool u1.neq,.slice Q H.vars.length P,.slice T H.eqs.length S,.slice K H.neqs.length J,i' H.next]).toArray)]) (cs:=[i' x1,.slice aP u1.p.length aL,.bool u1.neq,.slice Q H.vars.length P,.slice T H.eqs.length S,.slice K H.neqs.length J,i' H.next]++([])) ([(Zg.mk x1 u1 H)]:List Zg) z z z z z (by decide) (fun _=>by kernel_rfl) ⟨[i' x1,.slice aP u1.p.length aL,.bool u1.neq,.slice Q H.vars.length P,.slice T H.eqs.length S,.slice K H.neqs.length J,i' H.next],[],z,⟨[i' x1],[.slice aP u1.p.length aL,.bool u1.neq,.slice Q H.vars.length P,.slice T H.eqs.length S,.slice K H.neqs.length J,i' H.next],z,z,⟨[.slice aP u1.p.length aL,.bool u1.neq],(v31' H Q P T S K J),z,⟨[.slice aP u1.p.length aL],[.bool u1.neq],z,⟨_,z,cH⟩,z⟩,⟨[.slice Q H.vars.length P],[.slice T H.eqs.length S,.slice K H.neqs.length J,i' H.next],z,⟨_,z,(ar.mono (mx N1 c))⟩,⟨[.slice T H.eqs.length S],[.slice K H.neqs.length J,i' H.next],z,⟨_,z,(aC.mono (mx N1 c))⟩,⟨[.slice K H.neqs.length J],[i' H.next],z,⟨_,z,(au.mono (mx N1 c))⟩,z⟩⟩⟩⟩⟩,z⟩ (key:=999) z (by rw[I]; rfl) (fun p2 dP aZ c4=>?_)
      obtain⟨bX,hr⟩:=hr
      refine aW' (r:=ba') 1014 z z cd' el81 z (by decide) z z (ag.mono (mx c aZ)) z (by rw[I]; rfl) ad c4 bX fun p3 cU bS bW a9 c3 b0=>sg z z<|o'<|v'<|a'<|n'<|yy (I' z z) z<|mv z z<|o'<|C' ⟨(V++[(Zg.mk x1 u1 H)]),p3,cU,bS,U,Y,X,R,i64.wrap (af+1),bW⟩ hr ⟨(mx (mx (mx g c) aZ) a9),c3,b0,(ah.mono (mx (mx c aZ) a9)),ae⟩ (f11 z z z z z z z z z z z) (wk (lc z (lc z (lc z (lc z (lc z (lc z (lc z (lc z (lc z ln))))))))))
     refine l'<|v'<|a'<|n'<|yy (I' z z) z<|mv z z<|o'<|C' ⟨V,Z,aa,W,U,Y,X,R,i64.wrap (af+1),cv⟩ hr ⟨(mx g c),(ag.mono c),ad,(ah.mono c),ae⟩ (f11 z z z z z z z z z z z) (wk (lc z (lc z (lc z (lc z (lc z (lc z (lc z (lc z (lc z ln))))))))))
    refine c'<|sr<|mv z z<|yy (m' 5 ai' z z z) z<|mv z z<|yy (m' 3 ai' z z z) z<|mv z z ?_
    obtain⟨dX,cG,hr⟩:=hr
    have N4:=mx (mx (mx (mx (mx (mx (mx (mx s o) t) y) x) A) l) g) c
    have N5:=mx N1 c
    refine aC' (fun w O=>O.rekey (i:=4028) (j:=5501) z (by rw[I]; rfl))<|aC' (fun w O=>O.rekey (i:=4024) (j:=5503) z (by rw[I]; rfl))<|WL.callRO z z (YC.ofV E60 z z) (cS' cG) z (⟨(ar.mono N5),(aC.mono N5),(au.mono N5),(bx' a5 N4),(aM.mono N5),(aS.mono N5),(aE.mono N5),(bx' be (mx N2 c))⟩) (lc z (lc z (lc z ln))) (fun i hi=>by simp only[List.map_cons,List.map_nil,List.mem_cons,List.not_mem_nil,or_false] at hi; rcases hi with h|h|h <;> subst h <;> exact z) hz (fun dq bZ q bj=>?_)
    subst bj
    refine aC' (fun w O=>O.rekey (i:=5501) (j:=4028) z (by rw[I]; rfl))<|aC' (fun w O=>O.rekey (i:=5503) (j:=4024) z (by rw[I]; rfl))<|sx0 z z<|ay' hr z (fun db hr=>?_) (fun db hr=>?_)
    .refine l'<|a'<|ay' hr z (fun c2 hr=>?_) (fun c2 hr=>?_)
     .refine l'<|v'<|a'<|sr<|mv z z<|yy (g' 105417 sc3 z z z) z ?_
      obtain⟨cT,hr⟩:=hr
      obtain⟨u2,bs,hr⟩:=hr
      replace bs:_=u2:=bs
      refine WL.mapGetB (r:=aE') (k:=x1) (zc:=[.slice none 0 0,.bool false]) (z:=(Zi.mk [] false)) 4026 z z bq' zv79 ⟨[.slice none 0 0],[.bool false],z,⟨_,z,(ah' _ _)⟩,z⟩ (bx' a4 (mx (mx N2 c) q)) z z z cT (fun d9 bL=>?_)
      rw[bs] at bL
      obtain⟨aI,aJ,rfl,cp⟩:=Z2 bL
      refine mv z z<|yy (L' z z) z<|yy (L' z z) z<|O' 21 z z79 z fun b7=>x' 21 z sz79 z z z z z (List.all_eq_true.1 z)<|sg z z<|nr<|mv z z<|nx<|ay' hr z (fun cP hr=>?_) (fun cP hr=>?_)
      .have N6:=mx (mx N1 c) q
       refine n'<|mv z z<|yy (g' 105417 sc3 z z z) z<|yy (m' 21 ag79 z z z) z<|yy (m' 19 ai' z z z) z<|yy (at' (vs:=#[(0,i' x1),(1,.agg ([.slice aI u2.p.length aJ,.bool u2.neq]).toArray),(2,.agg ((v31' d C D E F n m)).toArray)]) (v:=.agg ([i' x1,.slice aI u2.p.length aJ,.bool u2.neq,.slice C d.vars.length D,.slice E d.eqs.length F,.slice n d.neqs.length m,i' d.next]).toArray) z z (fun _=>by kernel_rfl)) z<|aD' (e:=81) (r:=ba') (vs:=#[(0,.agg ([i' x1,.slice aI u2.p.length aJ,.bool u2.neq,.slice C d.vars.length D,.slice E d.eqs.length F,.slice n d.neqs.length m,i' d.next]).toArray)]) (cs:=[i' x1,.slice aI u2.p.length aJ,.bool u2.neq,.slice C d.vars.length D,.slice E d.eqs.length F,.slice n d.neqs.length m,i' d.next]++([])) ([(Zg.mk x1 u2 d)]:List Zg) z z z z z (by decide) (fun _=>by kernel_rfl) ⟨[i' x1,.slice aI u2.p.length aJ,.bool u2.neq,.slice C d.vars.length D,.slice E d.eqs.length F,.slice n d.neqs.length m,i' d.next],[],z,⟨[i' x1],[.slice aI u2.p.length aJ,.bool u2.neq,.slice C d.vars.length D,.slice E d.eqs.length F,.slice n d.neqs.length m,i' d.next],z,z,⟨[.slice aI u2.p.length aJ,.bool u2.neq],(v31' d C D E F n m),z,⟨[.slice aI u2.p.length aJ],[.bool u2.neq],z,⟨_,z,cp⟩,z⟩,⟨[.slice C d.vars.length D],[.slice E d.eqs.length F,.slice n d.neqs.length m,i' d.next],z,⟨_,z,(an.mono N6)⟩,⟨[.slice E d.eqs.length F],[.slice n d.neqs.length m,i' d.next],z,⟨_,z,(aq.mono N6)⟩,⟨[.slice n d.neqs.length m],[i' d.next],z,⟨_,z,(ao.mono N6)⟩,z⟩⟩⟩⟩⟩,z⟩ (key:=999) z (by rw[I]; rfl) (fun p4 dL a2 cQ=>?_)
       obtain⟨cm,hr⟩:=hr
       refine aW' (r:=ba') 1014 z z cd' el81 z (by decide) z z (ag.mono (mx (mx c q) a2)) z (by rw[I]; rfl) ad cQ cm fun p5 cM cE ck a8 c8 cq=>sg z z<|o'<|v'<|a'<|n'<|yy (I' z z) z<|mv z z<|o'<|C' ⟨(V++[(Zg.mk x1 u2 d)]),p5,cM,cE,U,Y,X,R,i64.wrap (af+1),ck⟩ hr ⟨(mx (mx (mx (mx g c) q) a2) a8),c8,cq,(ah.mono (mx (mx (mx c q) a2) a8)),ae⟩ (f11 z z z z z z z z z z z) (wk (lc z (lc z (lc z (lc z (lc z (lc z (lc z (lc z (lc z ln))))))))))
      refine l'<|v'<|a'<|n'<|yy (I' z z) z<|mv z z<|o'<|C' ⟨V,Z,aa,W,U,Y,X,R,i64.wrap (af+1),bZ⟩ hr ⟨(mx (mx g c) q),(ag.mono (mx c q)),ad,(ah.mono (mx c q)),ae⟩ (f11 z z z z z z z z z z z) (wk (lc z (lc z (lc z (lc z (lc z (lc z (lc z (lc z (lc z ln))))))))))
     refine sr<|mv z z<|yy (g' 105417 sc3 z z z) z<|yy (at' (vs:=#[(0,i' x1)]) (v:=.agg ([i' x1,.string ByteArray.empty]).toArray) z z (fun _=>by kernel_rfl)) z<|aD' (e:=61) (r:=ab') (vs:=#[(0,.agg ([i' x1,.string ByteArray.empty]).toArray)]) (cs:=[i' x1,.string ByteArray.empty]++([])) ([(Zk.mk x1 ByteArray.empty)]:List Zk) z z z z z (by decide) (fun _=>by kernel_rfl) ⟨[i' x1,.string ByteArray.empty],[],z,⟨[i' x1],[.string ByteArray.empty],z,z,z⟩,z⟩ (key:=999) z (by rw[I]; rfl) (fun p6 dS aY cN=>?_)
     obtain⟨cb,hr⟩:=hr
     refine aW' (r:=ab') 1015 z z aU' el61 z (by decide) z z (ah.mono (mx (mx c q) aY)) z (by rw[I]; rfl) ae cN cb fun p7 dd bT cr bb cR ci=>sx0 z z<|U'<|em' z<|h'<|y'<|a'<|n'<|yy (I' z z) z<|mv z z<|o'<|C' ⟨V,Z,aa,W,(U++[(Zk.mk x1 ByteArray.empty)]),p7,dd,bT,i64.wrap (af+1),cr⟩ hr ⟨(mx (mx (mx (mx g c) q) aY) bb),(ag.mono (mx (mx (mx c q) aY) bb)),ad,cR,ci⟩ (f11 z z z z z z z z z z z) (wk (lc z (lc z (lc z (lc z (lc z (lc z (lc z (lc z (lc z ln))))))))))
    refine n'<|mv z z<|yy (m' 4 ai' z z z) z<|mv z z<|yy (m' 5 ai' z z z) z<|mv z z ?_
    obtain⟨eb,cd,hr⟩:=hr
    have N7:=mx (mx N1 c) q
    refine aC' (fun w O=>O.rekey (i:=4026) (j:=5501) z (by rw[I]; rfl))<|aC' (fun w O=>O.rekey (i:=4028) (j:=5503) z (by rw[I]; rfl))<|WL.callRO z z (YC.ofV E60 z z) (cS' cd) z (⟨(an.mono N7),(aq.mono N7),(ao.mono N7),(bx' a4 (mx (mx N2 c) q)),(ar.mono N7),(aC.mono N7),(au.mono N7),(bx' a5 (mx N4 q))⟩) (lc z (lc z (lc z ln))) (fun i hi=>by simp only[List.map_cons,List.map_nil,List.mem_cons,List.not_mem_nil,or_false] at hi; rcases hi with h|h|h <;> subst h <;> exact z) hz (fun dG cy ac bl=>?_)
    subst bl
    refine aC' (fun w O=>O.rekey (i:=5501) (j:=4026) z (by rw[I]; rfl))<|aC' (fun w O=>O.rekey (i:=5503) (j:=4028) z (by rw[I]; rfl))<|sx0 z z<|ay' hr z (fun c0 hr=>?_) (fun c0 hr=>?_)
    .refine l'<|v'<|a'<|sr<|mv z z<|yy (g' 105417 sc3 z z z) z ?_
     obtain⟨c7,hr⟩:=hr
     obtain⟨u3,bw,hr⟩:=hr
     replace bw:_=u3:=bw
     refine WL.mapGetB (r:=aE') (k:=x1) (zc:=[.slice none 0 0,.bool false]) (z:=(Zi.mk [] false)) 4026 z z bq' zv79 ⟨[.slice none 0 0],[.bool false],z,⟨_,z,(ah' _ _)⟩,z⟩ (bx' a4 (mx (mx (mx N2 c) q) ac)) z z z c7 (fun dW bN=>?_)
     rw[bw] at bN
     obtain⟨aF,aG,rfl,cj⟩:=Z2 bN
     refine mv z z<|yy (L' z z) z<|yy (L' z z) z<|O' 21 z z79 z fun b8=>x' 21 z sz79 z z z z z (List.all_eq_true.1 z)<|sg z z<|nr<|mv z z<|nx<|ay' hr z (fun cX hr=>?_) (fun cX hr=>?_)
     .have N8:=mx (mx (mx N1 c) q) ac
      refine n'<|mv z z<|yy (g' 105417 sc3 z z z) z<|yy (m' 21 ag79 z z z) z<|yy (m' 19 ai' z z z) z<|yy (at' (vs:=#[(0,i' x1),(1,.agg ([.slice aF u3.p.length aG,.bool u3.neq]).toArray),(2,.agg ((v31' d C D E F n m)).toArray)]) (v:=.agg ([i' x1,.slice aF u3.p.length aG,.bool u3.neq,.slice C d.vars.length D,.slice E d.eqs.length F,.slice n d.neqs.length m,i' d.next]).toArray) z z (fun _=>by kernel_rfl)) z<|aD' (e:=81) (r:=ba') (vs:=#[(0,.agg ([i' x1,.slice aF u3.p.length aG,.bool u3.neq,.slice C d.vars.length D,.slice E d.eqs.length F,.slice n d.neqs.length m,i' d.next]).toArray)]) (cs:=[i' x1,.slice aF u3.p.length aG,.bool u3.neq,.slice C d.vars.length D,.slice E d.eqs.length F,.slice n d.neqs.length m,i' d.next]++([])) ([(Zg.mk x1 u3 d)]:List Zg) z z z z z (by decide) (fun _=>by kernel_rfl) ⟨[i' x1,.slice aF u3.p.length aG,.bool u3.neq,.slice C d.vars.length D,.slice E d.eqs.length F,.slice n d.neqs.length m,i' d.next],[],z,⟨[i' x1],[.slice aF u3.p.length aG,.bool u3.neq,.slice C d.vars.length D,.slice E d.eqs.length F,.slice n d.neqs.length m,i' d.next],z,z,⟨[.slice aF u3.p.length aG,.bool u3.neq],(v31' d C D E F n m),z,⟨[.slice aF u3.p.length aG],[.bool u3.neq],z,⟨_,z,cj⟩,z⟩,⟨[.slice C d.vars.length D],[.slice E d.eqs.length F,.slice n d.neqs.length m,i' d.next],z,⟨_,z,(an.mono N8)⟩,⟨[.slice E d.eqs.length F],[.slice n d.neqs.length m,i' d.next],z,⟨_,z,(aq.mono N8)⟩,⟨[.slice n d.neqs.length m],[i' d.next],z,⟨_,z,(ao.mono N8)⟩,z⟩⟩⟩⟩⟩,z⟩ (key:=999) z (by rw[I]; rfl) (fun p8 dF a0 cK=>?_)
      obtain⟨cB,hr⟩:=hr
      refine aW' (r:=ba') 1014 z z cd' el81 z (by decide) z z (ag.mono (mx (mx (mx c q) ac) a0)) z (by rw[I]; rfl) ad cK cB fun p9 cW bY bU a7 cO ch=>sg z z<|o'<|v'<|a'<|n'<|yy (I' z z) z<|mv z z<|o'<|C' ⟨(V++[(Zg.mk x1 u3 d)]),p9,cW,bY,U,Y,X,R,i64.wrap (af+1),bU⟩ hr ⟨(mx (mx (mx (mx (mx g c) q) ac) a0) a7),cO,ch,(ah.mono (mx (mx (mx (mx c q) ac) a0) a7)),ae⟩ (f11 z z z z z z z z z z z) (wk (lc z (lc z (lc z (lc z (lc z (lc z (lc z (lc z (lc z ln))))))))))
     refine l'<|v'<|a'<|n'<|yy (I' z z) z<|mv z z<|o'<|C' ⟨V,Z,aa,W,U,Y,X,R,i64.wrap (af+1),cy⟩ hr ⟨(mx (mx (mx g c) q) ac),(ag.mono (mx (mx c q) ac)),ad,(ah.mono (mx (mx c q) ac)),ae⟩ (f11 z z z z z z z z z z z) (wk (lc z (lc z (lc z (lc z (lc z (lc z (lc z (lc z (lc z ln))))))))))
    refine sr<|mv z z<|yy (g' 105417 sc3 z z z) z<|yy (at' (vs:=#[(0,i' x1)]) (v:=.agg ([i' x1,.string ByteArray.empty]).toArray) z z (fun _=>by kernel_rfl)) z<|aD' (e:=61) (r:=ab') (vs:=#[(0,.agg ([i' x1,.string ByteArray.empty]).toArray)]) (cs:=[i' x1,.string ByteArray.empty]++([])) ([(Zk.mk x1 ByteArray.empty)]:List Zk) z z z z z (by decide) (fun _=>by kernel_rfl) ⟨[i' x1,.string ByteArray.empty],[],z,⟨[i' x1],[.string ByteArray.empty],z,z,z⟩,z⟩ (key:=999) z (by rw[I]; rfl) (fun dZ dH a3 cc=>?_)
    obtain⟨co,hr⟩:=hr
    have N9:=mx (mx (mx c q) ac) a3
    refine aW' (r:=ab') 1015 z z aU' el61 z (by decide) z z (ah.mono N9) z (by rw[I]; rfl) ae cc co fun dc cw bF cl a6 cF bK=>sx0 z z<|U'<|em' z<|h'<|y'<|a'<|n'<|yy (I' z z) z<|mv z z<|o'<|C' ⟨V,Z,aa,W,(U++[(Zk.mk x1 ByteArray.empty)]),dc,cw,bF,i64.wrap (af+1),cl⟩ hr ⟨(mx (mx (mx (mx (mx g c) q) ac) a3) a6),(ag.mono (mx N9 a6)),ad,cF,bK⟩ (f11 z z z z z z z z z z z) (wk (lc z (lc z (lc z (lc z (lc z (lc z (lc z (lc z (lc z ln))))))))))
   refine U'<|h'<|h'<|y'<|W' ⟨V,Z,aa,W,U,Y,X,R,aR⟩ ⟨g,ag,ad,ah,ae,hr⟩ (f2 z z) (w2 z z)
 rintro⟨al,ax,ay,ap,am,az,av,aw,aX⟩ ⟨di,bC,bm,bB,cI,hr⟩
 refine a'<|sr<|mv z z<|mv z z<|sg z z<|sx0 z z<|k' ?_
 obtain rfl:_=r:=hr
 refine bM' (S':=St w0 G0 aX [(7000,ap)]) ?_ ?_
 .intro w O
  have O:=O.rekey (i:=1014) (j:=7000) z (by rw[I]; rfl)
  exact O.weaken (lc z ln)
 exact bE' z z z ⟨_,_,_,_,_,z,z,bC,bB,bm⟩
theorem eS'{M c d J I W X E D t x y A m l o n s q h g r}(hr:(Zcn M c d).Ret r):Ctr prog 28 #[.agg ((v31' M J I W X E D)).toArray,.agg ((v31' c t x y A m l)).toArray,.agg ((v31' d o n s q h g)).toArray] (fun G=>sl Rp.str G J I M.vars/\sl e' G W X M.eqs/\sl e' G E D M.neqs/\sl Rp.str G t x c.vars/\sl e' G y A c.eqs/\sl e' G m l c.neqs/\y31' G o n s q h g d) (wlt' ba' r):=by
 refine A' (args:=[_,_,_]) (N:=73) func28 z z z (fun w0 G0 al bS=>?_)
 obtain⟨br,bu,bl,aA,aG,aD,aB,aH,aC⟩:=bS
 have hz:w0.L.zero:=by rw[al]; intro p hp; simp at hp
 refine sr<|Y' 3 z z z fun b1=>Y' 4 z z z fun b2=>Y' 5 z z z fun b3=>sg z z<|sg z z<|nr<|sx0 z z<|c'<|ad' [ff,ff,ff] mix (by kernel_rfl) fun hb=>cn (fun _ aP=>m' 4 ai' z z z) ?_
 obtain⟨b9,bG,hr⟩:=hr
 refine Chain.callMapG (f:=56) (ky:=ky3) (r:=aE') b9 (fun _=>z) (fun u G' aP hu=>?_) ?_
 .exact⟨_,_,_,fun _=>u' E56 z,cO' bG,z,⟨(aA.mono aP),(aG.mono aP),(aD.mono aP)⟩⟩
 refine cu (fun _ _ aP=>m' 5 ai' z z z)<|Chain.tailX1 fun cr X1 ah aY=>WL.adoptG aY (fun a6 bh bP be cB=>?_)
 subst bP
 refine cJ' (show WL _ _ _ _ _ _ (St w0 G0 X1.m _) from ?_)
 refine aC' (fun w hs=>hs.rekey (i:=17) (j:=4017) z (by rw[al]; rfl)) ?_
 obtain⟨bp,bI,hr⟩:=hr
 refine ci' z z (u' E56 z) (cO' bI) z (⟨(aB.mono ah),(aH.mono ah),(aC.mono ah)⟩) ln hz (fun cq cH co ab a2=>?_)
 obtain⟨aO,aM,rfl,rfl,bg⟩:=a2
 refine aC' (fun w hs=>hs.rekey (i:=7000) (j:=4019) z (by rw[al]; rfl))<|sg z z<|sg z z<|o'<|am'<|a'<|c'<|sr<|mv z z<|Q' z z (u' E59 z) (keysBox func59 z z z (some a6)) z trivial (fun cx cK C a0=>?_)
 obtain⟨cJ,rfl,bN⟩:=a0
 refine ci' z z (u' E58 z) (fo' _ _ _ _ _ 4017 _ (by decide) (bx' be (mx ab C)) hr) z bN (lc z ln) hz (fun cl cF cw T a3=>?_)
 clear hr
 obtain⟨bq,bE,bD,cg,rfl,rfl,bR,hr⟩:=a3
 refine aC' (fun w hs=>hs.rekey (i:=7000) (j:=4022) z (by rw[al]; rfl))<|bQ' (r:=(Rp.int .i64)) (e:=3) 4022 bR z (by rw[al]; rfl) fun bW bf Q aT ch=>yy (K' aN' aT z) z<|mv z z<|nx<|R' (fun (⟨Y,ag,aj,ad,aJ⟩:(List Zg)×Option Addr×Nat×Option Ow×Mem)=>[(3,pt0 b1),(4,pt0 b2),(5,pt0 b3),(8,.slice ag Y.length aj),(10,.map (some aO))]) (fun ⟨Y,ag,aj,ad,aJ⟩=>Mem.le bf aJ/\sl ba' aJ ag aj Y/\Tok 7 81 (.slice ag Y.length aj) Y.length ad/\(Zav M c d bp Y).Ret r) (fun ⟨Y,ag,aj,ad,aJ⟩=>St w0 G0 aJ [(3,bk0 b1 (v31' M J I W X E D) 31),(4,bk0 b2 (v31' c t x y A m l) 31),(5,bk0 b3 (v31' d o n s q h g) 31),(1008,ad),(4019,aM)]) ?_ ?_
 .refine s' ?_
  let bb:(List Zg)->Prop:=fun oo=>((fun ov=>match ov with|Y=>Zav M c d bp Y:(List Zg)->Cq ((List Zg)×Int)) oo).wp (fun a=>a=r)
  replace hr:(Cq.loop _ _).wp bb:=hr
  refine T' (Φ:=bb) (fun (⟨K,P,R,F,aa,ax⟩:(List Zg)×Option Addr×Nat×Option Ow×Int×Mem)=>((K,aa):(List Zg)×Int)) (fun ⟨K,P,R,F,aa,ax⟩=>[(3,pt0 b1),(4,pt0 b2),(5,pt0 b3),(8,.slice P K.length R),(22,.slice bE bq.length bD),(23,i' (bq.length:Int)),(24,i' aa),(9,.map (some a6)),(10,.map (some aO))]) (fun ⟨K,P,R,F,aa,ax⟩=>Mem.le bf ax/\sl ba' ax P R K/\Tok 7 81 (.slice P K.length R) K.length F) (fun ⟨K,P,R,F,aa,ax⟩=>St w0 G0 ax [(3,bk0 b1 (v31' M J I W X E D) 31),(4,bk0 b2 (v31' c t x y A m l) 31),(5,bk0 b3 (v31' d o n s q h g) 31),(4022,bW),(1008,F),(4017,bh),(4019,aM)]) ⟨[],none,0,none,0,bf⟩ hr (f9 z z z z z z z z z) ⟨mr,(ah' _ _),cc'⟩ (wk (lc z (lc z (lc z (lc z (lw (lc z (lc z ln)))))))) ?_
  .intro cD gx hx hr
   obtain⟨K,P,R,F,aa,ax⟩:=gx
   obtain⟨U,aN,aF⟩:=hx
   refine sr<|yy (V' z z) z<|nx<|c'<|E' hr z (fun b8 hr=>?_) (fun b8 hr=>?_)
   .refine l'<|a'<|c'<|s'<|sr ?_
    obtain⟨x2,bm,hr⟩:=hr
    refine yy (P' aN' sz3 (aT.mono U) z z bm) z<|yy (ae' sc3 z (aA' (H' (X' aT bm) U))) z<|sg z z<|nr<|mv z z<|yy (bt' z) z<|yy (g' 3 sc3 z z z) z<|yy (aV' z z) z<|nx<|E' hr z (fun b0 hr=>?_) (fun b0 hr=>?_)
    .refine n'<|mv z z<|mv z z<|mv z z<|mv z z ?_
     obtain⟨bY,hr⟩:=hr
     obtain⟨u2,a8,hr⟩:=hr
     replace a8:_=u2:=a8
     refine WL.mapGetA (r:=aE') (k:=x2) (zc:=[.slice none 0 0,.bool false]) (z:=(Zi.mk [] false)) 4017 z z bq' zv79 ⟨[.slice none 0 0],[.bool false],z,⟨_,z,(ah' _ _)⟩,z⟩ (bx' be (mx (mx (mx (mx ab C) T) Q) U)) z z z bY (fun cM bo=>?_)
     rw[a8] at bo
     obtain⟨am,an,rfl,bM⟩:=Z2 bo
     have N1:=mx (mx (mx (mx (mx ah ab) C) T) Q) U
     refine yy (m' 4 ai' z z z) z<|yy (at' (vs:=#[(0,i' x2),(1,.agg ([.slice am u2.p.length an,.bool u2.neq]).toArray),(2,.agg ((v31' c t x y A m l)).toArray)]) (v:=.agg ([i' x2,.slice am u2.p.length an,.bool u2.neq,.slice t c.vars.length x,.slice y c.eqs.length A,.slice m c.neqs.length l,i' c.next]).toArray) z z (fun _=>by kernel_rfl)) z<|aD' (e:=81) (r:=ba') (vs:=#[(0,.agg ([i' x2,.slice am u2.p.length an,.bool u2.neq,.slice t c.vars.length x,.slice y c.eqs.length A,.slice m c.neqs.length l,i' c.next]).toArray)]) (cs:=[i' x2,.slice am u2.p.length an,.bool u2.neq,.slice t c.vars.length x,.slice y c.eqs.length A,.slice m c.neqs.length l,i' c.next]++([])) ([(Zg.mk x2 u2 c)]:List Zg) z z z z z (by decide) (fun _=>by kernel_rfl) ⟨[i' x2,.slice am u2.p.length an,.bool u2.neq,.slice t c.vars.length x,.slice y c.eqs.length A,.slice m c.neqs.length l,i' c.next],[],z,⟨[i' x2],[.slice am u2.p.length an,.bool u2.neq,.slice t c.vars.length x,.slice y c.eqs.length A,.slice m c.neqs.length l,i' c.next],z,z,⟨[.slice am u2.p.length an,.bool u2.neq],(v31' c t x y A m l),z,⟨[.slice am u2.p.length an],[.bool u2.neq],z,⟨_,z,bM⟩,z⟩,⟨[.slice t c.vars.length x],[.slice y c.eqs.length A,.slice m c.neqs.length l,i' c.next],z,⟨_,z,(aA.mono N1)⟩,⟨[.slice y c.eqs.length A],[.slice m c.neqs.length l,i' c.next],z,⟨_,z,(aG.mono N1)⟩,⟨[.slice m c.neqs.length l],[i' c.next],z,⟨_,z,(aD.mono N1)⟩,z⟩⟩⟩⟩⟩,z⟩ (key:=999) z (by rw[al]; rfl) (fun p3 cA aQ b6=>?_)
     obtain⟨bK,hr⟩:=hr
     refine aW' (r:=ba') 1008 z z cd' el81 z (by decide) z z (aN.mono aQ) z (by rw[al]; rfl) aF b6 bK fun p4 bZ bV bL a7 bX bv=>sg z z<|o'<|v'<|a'<|n'<|yy (I' z z) z<|mv z z<|o'<|C' ⟨(K++[(Zg.mk x2 u2 c)]),p4,bZ,bV,i64.wrap (aa+1),bL⟩ hr ⟨(mx (mx U aQ) a7),bX,bv⟩ (f9 z z z z z z z z z) (w7 z z z z z z z)
    refine l'<|v'<|a'<|n'<|yy (I' z z) z<|mv z z<|o'<|C' ⟨K,P,R,F,i64.wrap (aa+1),ax⟩ hr ⟨U,aN,aF⟩ (f9 z z z z z z z z z) (w7 z z z z z z z)
   refine U'<|h'<|h'<|y'<|W' ⟨K,P,R,F,ax⟩ ⟨U,aN,aF,hr⟩ (f5 z z z z z) (w5 z z z z z)
 rintro⟨Y,ag,aj,ad,aJ⟩ ⟨ay,bj,a4,hr⟩
 refine a'<|sr<|yy (bt' z) z<|yy (g' 4 sc3 z z z) z<|yy (bt' z) z<|yy (g' 3 sc3 z z z) z<|yy (Y0.max2 z z) z<|sx0 z z<|c'<|sr<|mv z z<|Q' z z (u' E59 z) (keysBox func59 z z z (some aO)) z trivial (fun cv cO au aZ=>?_)
 obtain⟨cI,rfl,bw⟩:=aZ
 refine ci' z z (u' E58 z) (fo' _ _ _ _ _ 4019 _ (by decide) (bx' bg (mx (mx (mx (mx C T) Q) ay) au)) hr) z bw (lc z ln) hz (fun cy cG ct az aW=>?_)
 clear hr
 obtain⟨bn,bO,bz,ci,rfl,rfl,bH,hr⟩:=aW
 refine aC' (fun w hs=>hs.rekey (i:=7000) (j:=4049) z (by rw[al]; rfl))<|bQ' (r:=(Rp.int .i64)) (e:=3) 4049 bH z (by rw[al]; rfl) fun cd a9 av aS cj=>yy (K' aN' aS z) z<|mv z z<|nx<|R' (fun (⟨ac,aq,ar,ak,ae,aI⟩:(List Zg)×Option Addr×Nat×Option Ow×Int×Mem)=>[(8,.slice aq ac.length ar),(13,i' ae)]) (fun ⟨ac,aq,ar,ak,ae,aI⟩=>Mem.le a9 aI/\sl ba' aI aq ar ac/\Tok 7 81 (.slice aq ac.length ar) ac.length ak/\(Zbg ac ae).Ret r) (fun ⟨ac,aq,ar,ak,ae,aI⟩=>St w0 G0 aI [(1008,ak)]) ?_ ?_
 .refine s' ?_
  let ba:(((List Zg)×Int))->Prop:=fun oo=>((fun ov=>match ov with|(ac,ae)=>Zbg ac ae:(((List Zg)×Int))->Cq ((List Zg)×Int)) oo).wp (fun a=>a=r)
  replace hr:(Cq.loop _ _).wp ba:=hr
  refine T' (Φ:=ba) (fun (⟨L,S,V,H,B,Z,aw⟩:(List Zg)×Option Addr×Nat×Option Ow×Int×Int×Mem)=>((L,B,Z):(List Zg)×Int×Int)) (fun ⟨L,S,V,H,B,Z,aw⟩=>[(3,pt0 b1),(5,pt0 b3),(8,.slice S L.length V),(13,i' B),(49,.slice bO bn.length bz),(50,i' (bn.length:Int)),(51,i' Z),(10,.map (some aO))]) (fun ⟨L,S,V,H,B,Z,aw⟩=>Mem.le a9 aw/\sl ba' aw S V L/\Tok 7 81 (.slice S L.length V) L.length H) (fun ⟨L,S,V,H,B,Z,aw⟩=>St w0 G0 aw [(3,bk0 b1 (v31' M J I W X E D) 31),(5,bk0 b3 (v31' d o n s q h g) 31),(1008,H),(4049,cd),(4019,aM)]) ⟨Y,ag,aj,ad,if c.next<M.next then M.next else c.next,0,a9⟩ hr (f8 z z z z z z z z) ⟨mr,(bj.mono (mx (mx au az) av)),a4⟩ (w5 z z z z z) ?_
  .intro cE gx hx hr
   obtain⟨L,S,V,H,B,Z,aw⟩:=gx
   obtain⟨O,aL,aE⟩:=hx
   refine sr<|yy (V' z z) z<|nx<|c'<|E' hr z (fun ce hr=>?_) (fun ce hr=>?_)
   .refine l'<|a'<|c'<|s'<|sr ?_
    obtain⟨x1,bs,hr⟩:=hr
    refine yy (P' aN' sz3 (aS.mono O) z z bs) z<|yy (ae' sc3 z (aA' (H' (X' aS bs) O))) z<|sg z z<|nr<|mv z z<|yy (bt' z) z<|yy (g' 3 sc3 z z z) z<|yy (aV' z z) z<|nx<|E' hr z (fun b4 hr=>?_) (fun b4 hr=>?_)
    .refine sr<|mv z z<|mv z z<|mv z z<|mv z z ?_
     obtain⟨cc,hr⟩:=hr
     obtain⟨u1,bc,hr⟩:=hr
     replace bc:_=u1:=bc
     have N2:=mx (mx (mx (mx (mx (mx (mx C T) Q) ay) au) az) av) O
     refine WL.mapGetA (r:=aE') (k:=x1) (zc:=[.slice none 0 0,.bool false]) (z:=(Zi.mk [] false)) 4019 z z bq' zv79 ⟨[.slice none 0 0],[.bool false],z,⟨_,z,(ah' _ _)⟩,z⟩ (bx' bg N2) z z z cc (fun cN bt=>?_)
     rw[bc] at bt
     obtain⟨ap,ao,rfl,bU⟩:=Z2 bt
     have N3:=mx (mx (mx (mx (mx (mx (mx (mx (mx ah ab) C) T) Q) ay) au) az) av) O
     refine yy (m' 5 ai' z z z) z<|yy (at' (vs:=#[(0,i' B),(1,.agg ([.slice ap u1.p.length ao,.bool u1.neq]).toArray),(2,.agg ((v31' d o n s q h g)).toArray)]) (v:=.agg ([i' B,.slice ap u1.p.length ao,.bool u1.neq,.slice o d.vars.length n,.slice s d.eqs.length q,.slice h d.neqs.length g,i' d.next]).toArray) z z (fun _=>by kernel_rfl)) z<|aD' (e:=81) (r:=ba') (vs:=#[(0,.agg ([i' B,.slice ap u1.p.length ao,.bool u1.neq,.slice o d.vars.length n,.slice s d.eqs.length q,.slice h d.neqs.length g,i' d.next]).toArray)]) (cs:=[i' B,.slice ap u1.p.length ao,.bool u1.neq,.slice o d.vars.length n,.slice s d.eqs.length q,.slice h d.neqs.length g,i' d.next]++([])) ([(Zg.mk B u1 d)]:List Zg) z z z z z (by decide) (fun _=>by kernel_rfl) ⟨[i' B,.slice ap u1.p.length ao,.bool u1.neq,.slice o d.vars.length n,.slice s d.eqs.length q,.slice h d.neqs.length g,i' d.next],[],z,⟨[i' B],[.slice ap u1.p.length ao,.bool u1.neq,.slice o d.vars.length n,.slice s d.eqs.length q,.slice h d.neqs.length g,i' d.next],z,z,⟨[.slice ap u1.p.length ao,.bool u1.neq],(v31' d o n s q h g),z,⟨[.slice ap u1.p.length ao],[.bool u1.neq],z,⟨_,z,bU⟩,z⟩,⟨[.slice o d.vars.length n],[.slice s d.eqs.length q,.slice h d.neqs.length g,i' d.next],z,⟨_,z,(aB.mono N3)⟩,⟨[.slice s d.eqs.length q],[.slice h d.neqs.length g,i' d.next],z,⟨_,z,(aH.mono N3)⟩,⟨[.slice h d.neqs.length g],[i' d.next],z,⟨_,z,(aC.mono N3)⟩,z⟩⟩⟩⟩⟩,z⟩ (key:=999) z (by rw[al]; rfl) (fun p1 cL aU b5=>?_)
     obtain⟨bC,hr⟩:=hr
     refine aW' (r:=ba') 1008 z z cd' el81 z (by decide) z z (aL.mono aU) z (by rw[al]; rfl) aE b5 bC fun p2 ca bQ bx a5 b7 bJ=>sx0 z z<|n'<|mv z z<|yy (I' z z) z<|sg z z<|o'<|v'<|a'<|n'<|yy (I' z z) z<|mv z z<|o'<|C' ⟨(L++[(Zg.mk B u1 d)]),p2,ca,bQ,i64.wrap (B+1),i64.wrap (Z+1),bx⟩ hr ⟨(mx (mx O aU) a5),b7,bJ⟩ (f8 z z z z z z z z) (w5 z z z z z)
    refine l'<|v'<|a'<|n'<|yy (I' z z) z<|mv z z<|o'<|C' ⟨L,S,V,H,B,i64.wrap (Z+1),aw⟩ hr ⟨O,aL,aE⟩ (f8 z z z z z z z z) (w5 z z z z z)
   refine U'<|h'<|h'<|y'<|W' ⟨L,S,V,H,B,aw⟩ ⟨O,aL,aE,hr⟩ (f2 z z) (w1 z)
 rintro⟨ac,aq,ar,ak,ae,aI⟩ ⟨cf,bi,cb,hr⟩
 refine a'<|sr<|mv z z<|mv z z<|sg z z<|sx0 z z<|k' ?_
 obtain rfl:_=r:=hr
 exact bE' z z z ⟨_,_,z,bi⟩
theorem gx':CollectsL prog 64 #[] 66 ky9 Rp.str 9:=
 collect (ZhZ (fun i g h=>appS (ok:=ky9.ok) (enc:=fun x=>Value.string x) func106 z z z bF' sz28 J' el9 z (by decide) (fun _ _=>z) (fun _ _=>by kernel_rfl) E66 i g h) (fun e c f d=>keysS (ok:=ky9.ok) (enc:=fun x=>Value.string x) func66 z z z sc67 dv' e c f d)) E106 func64 z z z
theorem gF':SortedL prog 31 66 ky9 Rp.str 9 Z4:=
 sorted gx' (fun d p c e y h=>Zdu d p c d.length e y h) E64 E65 func31 z z z
set_option maxHeartbeats 2000000 in
theorem bR'{a0 a8 a1 aP aF a6 aZ aO aN aJ aQ aX a2 aL aD aE aK ba a5 aI aH r}(hr:(Zac a0 a8 a1).Ret r):Ctr prog 10 #[.agg ((v31' a0 aP aF a6 aZ aO aN)).toArray,.agg ((v31' a8 aJ aQ aX a2 aL aD)).toArray,.agg ((v31' a1 aE aK ba a5 aI aH)).toArray] (fun G=>sl Rp.str G aP aF a0.vars/\sl e' G a6 aZ a0.eqs/\sl e' G aO aN a0.neqs/\sl Rp.str G aJ aQ a8.vars/\sl e' G aX a2 a8.eqs/\sl e' G aL aD a8.neqs/\y31' G aE aK ba a5 aI aH a1) (fun G v=>∃ bQ bR bZ bU bS bT cx cG,v = .tuple #[.agg ((v31' r.1 bQ bR bZ bU bS bT)).toArray,.slice cx r.2.1.length cG,i' r.2.2]/\sl Rp.str G bQ bR r.1.vars/\sl e' G bZ bU r.1.eqs/\sl e' G bS bT r.1.neqs/\sl ab' G cx cG r.2.1):=by
 refine A' (args:=[_,_,_]) (N:=178) func10 z z z (fun w0 G0 bc dN=>?_)
 obtain⟨af,az,aw,M,ab,R,V,an,ag⟩:=dN
 have hz:w0.L.zero:=by rw[bc]; intro p hp; simp at hp
 refine sr<|Y' 3 z z z fun b1=>Y' 4 z z z fun b2=>Y' 5 z z z fun b3=>O' 6 z z31 z fun b4=>sg z z<|sx0 z z<|aP' (fun (⟨aS,A,x,L,K,B,y,bK⟩:Za×Option Addr×Nat×Option Addr×Nat×Option Addr×Nat×Mem)=>[(3,pt0 b1),(4,pt0 b2),(5,pt0 b3),(6,pt0 b4)]) (fun ⟨aS,A,x,L,K,B,y,bK⟩=>Mem.le G0 bK/\sl Rp.str bK A x aS.vars/\sl e' bK L K aS.eqs/\sl e' bK B y aS.neqs/\(Zdm a0 a8 a1).Ret r) (fun ⟨aS,A,x,L,K,B,y,bK⟩=>St w0 G0 bK [(3,bk0 b1 (v31' a0 aP aF a6 aZ aO aN) 31),(4,bk0 b2 (v31' a8 aJ aQ aX a2 aL aD) 31),(5,bk0 b3 (v31' a1 aE aK ba a5 aI aH) 31),(6,bk0 b4 (v31' aS A x L K B y) 31)]) ?_ ?_
 .refine s'<|aP' (fun (⟨bt,bX⟩:Bool×Mem)=>[(3,pt0 b1),(4,pt0 b2),(5,pt0 b3),(6,pt0 b4),(25,.bool bt)]) (fun ⟨bt,bX⟩=>Mem.le G0 bX/\(Zam a0 a8 a1 bt).Ret r) (fun ⟨bt,bX⟩=>St w0 G0 bX [(3,bk0 b1 (v31' a0 aP aF a6 aZ aO aN) 31),(4,bk0 b2 (v31' a8 aJ aQ aX a2 aL aD) 31),(5,bk0 b3 (v31' a1 aE aK ba a5 aI aH) 31),(6,bk0 b4 ([.slice none 0 0,.slice none 0 0,.slice none 0 0,i' 0]) 31)]) ?_ ?_
  .refine n'<|yy (m' 3 ai' z z z) z ?_
   obtain⟨d8,dr,hr⟩:=hr
   refine B' z z (u' E9 z) (cH' dr) z (⟨af,az,aw⟩) ?_
   cases d8
   .refine yy (an' z) z<|mv z z<|sn3 z<|yy (t' z z) z<|mv z z<|sn3 z<|yy (t' z z) z<|sg z z<|o'<|al' ⟨true,G0⟩ ⟨mr,hr⟩ (f5 z z z z z) (w4 z z z z)
   refine yy (an' z) z<|mv z z<|gy z z (m' 4 ai' z z z) z ?_
   obtain⟨dc,cX,hr⟩:=hr
   refine B' (D' z z) z (u' E9 z) (cH' cX) z (⟨M,ab,R⟩) ?_
   cases dc
   .refine gy z z (an' z) z<|yy (p' z z) z<|mv z z<|sn3 z<|yy (t' z z) z<|sg z z<|o'<|al' ⟨true,G0⟩ ⟨mr,hr⟩ (f5 z z z z z) (w4 z z z z)
   refine gy z z (an' z) z<|yy (p' z z) z<|mv z z<|gy z z (m' 5 ai' z z z) z ?_
   obtain⟨dH,cW,hr⟩:=hr
   refine B' (D' z z) z (u' E9 z) (cH' cW) z (⟨V,an,ag⟩)<|gy z z (an' z) z<|yy (p' z z) z<|sg z z<|o'<|al' ⟨!dH,G0⟩ ⟨mr,hr⟩ (f5 z z z z z) (w4 z z z z)
  rintro⟨bt,bX⟩ ⟨c,hr⟩
  refine ay' hr z (fun d4 hr=>?_) (fun d4 hr=>?_)
  .refine sr<|yy (at' (vs:=#[]) (v:=.agg ([.slice none 0 0,.slice none 0 0,.slice none 0 0,i' 0]).toArray) z z (fun _=>by kernel_rfl)) z<|x' 6 z aR' z z z z z (List.all_eq_true.1 z)<|sg z z<|sx0 z z<|k'<|w'<|b' ?_
   obtain rfl:_=r:=hr
   exact cv' z (ak' (i:=6) ai' z z z) z z ⟨_,_,_,_,_,_,_,_,z,(ah' Rp.str _),(ah' e' _),(ah' e' _),(ah' ab' _)⟩
  refine sr<|yy (m' 4 ai' z z z) z<|yy (m' 3 ai' z z z) z ?_
  obtain⟨eP,dl,hr⟩:=hr
  refine B' z z (u' E25 z) (eg' dl) z (⟨(M.mono c),(ab.mono c),(R.mono c),(af.mono c),(az.mono c),(aw.mono c)⟩)<|sx0 z z<|ay' hr z (fun dX hr=>?_) (fun dX hr=>?_)
  .refine sr<|yy (m' 5 ai' z z z) z<|x' 6 z aR' z z z z z (List.all_eq_true.1 z)<|sg z z<|sx0 z z<|k'<|w'<|b' ?_
   obtain rfl:_=r:=hr
   exact cv' z (ak' (i:=6) ai' z z z) z z ⟨_,_,_,_,_,_,_,_,z,(V.mono c),(an.mono c),(ag.mono c),(ah' ab' _)⟩
  refine sr<|yy (m' 5 ai' z z z) z<|yy (m' 3 ai' z z z) z ?_
  obtain⟨el,dL,hr⟩:=hr
  refine B' z z (u' E25 z) (eg' dL) z (⟨(V.mono c),(an.mono c),(ag.mono c),(af.mono c),(az.mono c),(aw.mono c)⟩) ?_
  cases el
  .refine mv z z<|gy z z (m' 5 ai' z z z) z<|gy z z (m' 4 ai' z z z) z ?_
   obtain⟨eH,dv,hr⟩:=hr
   refine B' (D' z z) z (u' E25 z) (eg' dv) z (⟨(V.mono c),(an.mono c),(ag.mono c),(M.mono c),(ab.mono c),(R.mono c)⟩)<|yy (p' z z) z<|sx0 z z<|ay' hr z (fun dS hr=>?_) (fun dS hr=>?_)
   .refine sr<|yy (m' 4 ai' z z z) z<|x' 6 z aR' z z z z z (List.all_eq_true.1 z)<|sg z z<|sx0 z z<|k'<|w'<|b' ?_
    obtain rfl:_=r:=hr
    exact cv' z (ak' (i:=6) ai' z z z) z z ⟨_,_,_,_,_,_,_,_,z,(M.mono c),(ab.mono c),(R.mono c),(ah' ab' _)⟩
   refine l'<|v'<|al' ⟨(Za.mk [] [] [] 0),none,0,none,0,none,0,bX⟩ ⟨c,(ah' _ _),(ah' _ _),(ah' _ _),hr⟩ (f4 z z z z) (w4 z z z z)
  refine mv z z<|sn3 z<|yy (t' z z) z<|sx0 z z<|av' z<|sr<|yy (m' 4 ai' z z z) z<|x' 6 z aR' z z z z z (List.all_eq_true.1 z)<|sg z z<|sx0 z z<|k'<|w'<|b' ?_
  obtain rfl:_=r:=hr
  exact cv' z (ak' (i:=6) ai' z z z) z z ⟨_,_,_,_,_,_,_,_,z,(M.mono c),(ab.mono c),(R.mono c),(ah' ab' _)⟩
 rintro⟨aS,A,x,L,K,B,y,bK⟩ ⟨o,dx,dQ,ds,hr⟩
 refine sr<|yy (aH' z) z<|yy (g' 3 bF' z z z) z<|yy (aH' z) z<|yy (g' 4 bF' z z z) z<|yy (aH' z) z<|yy (g' 5 bF' z z z) z ?_
 obtain⟨al,dd,hr⟩:=hr
 refine Q' z z (u' E26 z) (fb' dd) z (⟨(af.mono o),(M.mono o),(V.mono o)⟩) (fun eu eM C cn=>?_)
 obtain⟨ap,ao,rfl,b9⟩:=cn
 refine sg z z<|nr<|yy (m' 3 ai' z z z) z<|yy (m' 4 ai' z z z) z<|yy (m' 5 ai' z z z) z ?_
 obtain⟨ay,dA,hr⟩:=hr
 have N1:=mx o C
 refine ci' z z (u' E27 z) (eR' dA) z (⟨(af.mono N1),(az.mono N1),(aw.mono N1),(M.mono N1),(ab.mono N1),(R.mono N1),(V.mono N1),(an.mono N1),(ag.mono N1)⟩) ln hz (fun ey eQ ex W cv=>?_)
 obtain⟨eb,ec,aU,aW,en,rfl,rfl,cM,cw,cY⟩:=cv
 refine aC' (fun w hs=>hs.rekey (i:=7000) (j:=2066) z (by rw[bc]; rfl))<|mv z z<|yy (L' z z) z<|yy (L' z z) z<|sg z z<|sg z z<|nr<|yy (m' 3 ai' z z z) z<|yy (m' 4 ai' z z z) z<|yy (m' 5 ai' z z z) z ?_
 obtain⟨ak,du,hr⟩:=hr
 have N2:=mx N1 W
 refine Q' z z (u' E28 z) (eS' du) z (⟨(af.mono N2),(az.mono N2),(aw.mono N2),(M.mono N2),(ab.mono N2),(R.mono N2),(V.mono N2),(an.mono N2),(ag.mono N2)⟩) (fun eB eR bh co=>?_)
 obtain⟨ek,ed,rfl,cI⟩:=co
 refine mv z z<|yy (L' z z) z<|yy (L' z z) z<|sg z z<|sg z z<|nr<|mv z z<|mv z z ?_
 obtain⟨dy,hr⟩:=hr
 refine aW' (r:=ba') 2066 z z cd' el81 z (by decide) z z (cM.mono bh) z (by rw[bc]; rfl) cY cI dy fun p1 cH cg ck br cA ev=>sg z z<|nr<|dq' (ky:=ky9) (Rv:=RvS Rp.bool ck) 4079 z z fun bx cV dE=>sg z z<|nr<|mv z z<|mv z z<|yy (at' (vs:=#[(0,.slice ap al.length ao),(3,i' ak.2)]) (v:=.agg ([.slice ap al.length ao,.slice none 0 0,.slice none 0 0,i' ak.2]).toArray) z z (fun _=>by kernel_rfl)) z<|O' 15 z z31 z fun b5=>x' 15 z aR' z z z z z (List.all_eq_true.1 z)<|nx<|c'<|sr<|mv z z<|yy (K' cd' cA z) z<|mv z z<|nx<|R' (fun (⟨F,ac,Z,H,ae,ad,aa,q,U,T,S,J,bP,bA,bs⟩:(List ByteArray)×Option Addr×Nat×(List Zc)×Option Addr×Nat×Option Ow×(List Zc)×Option Addr×Nat×Option Ow×Int×(List (ByteArray×Bool))×Option Ow×Mem)=>[(6,pt0 b4),(9,.slice ap al.length ao),(11,.slice aU ay.2.length aW),(13,i' ak.2),(15,pt0 b5),(14,.map (some bx))]) (fun ⟨F,ac,Z,H,ae,ad,aa,q,U,T,S,J,bP,bA,bs⟩=>Mem.le ck bs/\sl Rp.str bs ac Z F/\sl e' bs ae ad H/\Tok 2 57 (.slice ae H.length ad) H.length aa/\sl e' bs U T q/\Tok 2 57 (.slice U q.length T) q.length S/\MapR ky9 (RvS Rp.bool bs) (.map (some bx)) bP bA/\(ZbY al ay ak F H q J bP).Ret r) (fun ⟨F,ac,Z,H,ae,ad,aa,q,U,T,S,J,bP,bA,bs⟩=>St w0 G0 bs [(6,bk0 b4 (v31' aS A x L K B y) 31),(15,bk0 b5 ([.slice ac F.length Z,.slice ae H.length ad,.slice U q.length T,i' J]) 31),(310151,aa),(310152,S),(4079,bA)]) ?_ ?_
 .refine s' ?_
  let ca:(((List ByteArray)×(List Zc)×(List Zc)×Int×(List (ByteArray×Bool))))->Prop:=fun oo=>((fun ov=>match ov with|(F,H,q,J,bP)=>ZbY al ay ak F H q J bP:(((List ByteArray)×(List Zc)×(List Zc)×Int×(List (ByteArray×Bool))))->Cq (Za×(List Zk)×Int)) oo).wp (fun a=>a=r)
  replace hr:(Cq.loop _ _).wp ca:=hr
  refine T' (Φ:=ca) (fun (⟨Y,f,m,n,g,D,E,I,d,t,s,u,l,bG,aG,bd⟩:Int×(List ByteArray)×Option Addr×Nat×(List Zc)×Option Addr×Nat×Option Ow×(List Zc)×Option Addr×Nat×Option Ow×Int×(List (ByteArray×Bool))×Option Ow×Mem)=>((Y,f,g,d,l,bG):Int×(List ByteArray)×(List Zc)×(List Zc)×Int×(List (ByteArray×Bool)))) (fun ⟨Y,f,m,n,g,D,E,I,d,t,s,u,l,bG,aG,bd⟩=>[(6,pt0 b4),(9,.slice ap al.length ao),(11,.slice aU ay.2.length aW),(13,i' ak.2),(15,pt0 b5),(83,.slice p1 (ay.1++ak.1).length cH),(84,i' ((ay.1++ak.1).length:Int)),(85,i' Y),(14,.map (some bx))]) (fun ⟨Y,f,m,n,g,D,E,I,d,t,s,u,l,bG,aG,bd⟩=>Mem.le ck bd/\sl Rp.str bd m n f/\sl e' bd D E g/\Tok 2 57 (.slice D g.length E) g.length I/\sl e' bd t s d/\Tok 2 57 (.slice t d.length s) d.length u/\MapR ky9 (RvS Rp.bool bd) (.map (some bx)) bG aG) (fun ⟨Y,f,m,n,g,D,E,I,d,t,s,u,l,bG,aG,bd⟩=>St w0 G0 bd [(6,bk0 b4 (v31' aS A x L K B y) 31),(15,bk0 b5 ([.slice m f.length n,.slice D g.length E,.slice t d.length s,i' l]) 31),(2066,cg),(310151,I),(310152,u),(4079,aG)]) ⟨0,al,ap,ao,[],none,0,none,[],none,0,none,ak.2,[],cV,ck⟩ hr (f9 z z z z z z z z z) ⟨mr,(b9.mono (mx (mx W bh) br)),(ah' _ _),cc',(ah' _ _),cc',dE⟩ (wk (lc z (lc z (lc z (lw (lw (lc z ln))))))) ?_
  .intro c1 gx hx hr
   obtain⟨Y,f,m,n,g,D,E,I,d,t,s,u,l,bG,aG,bd⟩:=gx
   obtain⟨aY,bo,bD,bq,bp,bf,cC⟩:=hx
   refine sr<|yy (V' z z) z<|nx<|c'<|E' hr z (fun ef hr=>?_) (fun ef hr=>?_)
   .refine l'<|a'<|c'<|s'<|sr ?_
    obtain⟨x2,c7,hr⟩:=hr
    refine yy (P' cd' sz81 (cA.mono aY) z z c7) z ?_
    obtain⟨bH,bF,P,Q,bz,bu,bn,bl,dR,bE,bm,cU,cP⟩:=Zi8 (H' (X' cA c7) aY)
    refine yy (as' _ ag81 z z dR) z<|O' 17 z z81 z fun b6=>x' 17 z sz81 z z z z z (List.all_eq_true.1 z)<|nr<|yy (Y0.ZqW z) z<|yy (aH' z) z<|yy (g' 17 bF' z z z) z<|mv z z<|yy (at' (vs:=#[(0,.slice P x2.from'.vars.length Q),(1,.slice ap al.length ao)]) (v:=.agg ([.slice P x2.from'.vars.length Q,.slice ap al.length ao]).toArray) z z (fun _=>by kernel_rfl)) z<|O' 18 z z83 z fun b7=>x' 18 z sz83 z z z z z (List.all_eq_true.1 z)<|nx<|c'<|sr<|yy (m' 18 ag83 z z z) z<|yy (Y0.ZlK z) z<|yy (Y0.Zje z) z<|yy (g' 17 sc44 z z z) z ?_
    obtain⟨c0,da,hr⟩:=hr
    refine Q' z z (u' E29 z) (cr' da) z (⟨bm,(b9.mono (mx (mx (mx W bh) br) aY)),bE⟩) (fun et cj O cr=>?_)
    obtain⟨dI,dg,rfl,cf⟩:=cr
    refine yy (K' J' cf z) z<|mv z z<|nx<|R' (fun (⟨bw,a3,b0⟩:(List (ByteArray×Bool))×Option Ow×Mem)=>[(6,pt0 b4),(9,.slice ap al.length ao),(11,.slice aU ay.2.length aW),(13,i' ak.2),(15,pt0 b5),(17,pt0 b6),(18,pt0 b7),(83,.slice p1 (ay.1++ak.1).length cH),(84,i' ((ay.1++ak.1).length:Int)),(85,i' Y),(14,.map (some bx))]) (fun ⟨bw,a3,b0⟩=>Mem.le cj b0/\MapR ky9 (RvS Rp.bool b0) (.map (some bx)) bw a3/\(ZbZ al Y f g d l x2 bw).wp (Out c1 ca)) (fun ⟨bw,a3,b0⟩=>St w0 G0 b0 [(6,bk0 b4 (v31' aS A x L K B y) 31),(15,bk0 b5 ([.slice m f.length n,.slice D g.length E,.slice t d.length s,i' l]) 31),(17,bk0 b6 (v81' x2 bH bF P Q bz bu bn bl) 81),(18,bk0 b7 ([.slice P x2.from'.vars.length Q,.slice ap al.length ao]) 83),(2066,cg),(310151,I),(310152,u),(4079,a3)]) ?_ ?_
    .refine s' ?_
     let cB:(((List (ByteArray×Bool))))->Prop:=fun oo=>((fun ov=>match ov with|bw=>ZbZ al Y f g d l x2 bw:(((List (ByteArray×Bool))))->Cq ((Int×(List ByteArray)×(List Zc)×(List Zc)×Int×(List (ByteArray×Bool)))⊕(((List ByteArray)×(List Zc)×(List Zc)×Int×(List (ByteArray×Bool)))))) oo).wp (Out c1 ca)
     replace hr:(Cq.loop _ _).wp cB:=hr
     refine T' (Φ:=cB) (fun (⟨aB,bI,a7,bk⟩:Int×(List (ByteArray×Bool))×Option Ow×Mem)=>((aB,bI):Int×(List (ByteArray×Bool)))) (fun ⟨aB,bI,a7,bk⟩=>[(6,pt0 b4),(9,.slice ap al.length ao),(11,.slice aU ay.2.length aW),(13,i' ak.2),(15,pt0 b5),(17,pt0 b6),(18,pt0 b7),(83,.slice p1 (ay.1++ak.1).length cH),(84,i' ((ay.1++ak.1).length:Int)),(85,i' Y),(98,.slice dI c0.length dg),(99,i' (c0.length:Int)),(100,i' aB),(14,.map (some bx))]) (fun ⟨aB,bI,a7,bk⟩=>Mem.le cj bk/\MapR ky9 (RvS Rp.bool bk) (.map (some bx)) bI a7) (fun ⟨aB,bI,a7,bk⟩=>St w0 G0 bk [(6,bk0 b4 (v31' aS A x L K B y) 31),(15,bk0 b5 ([.slice m f.length n,.slice D g.length E,.slice t d.length s,i' l]) 31),(17,bk0 b6 (v81' x2 bH bF P Q bz bu bn bl) 81),(18,bk0 b7 ([.slice P x2.from'.vars.length Q,.slice ap al.length ao]) 83),(2066,cg),(310151,I),(310152,u),(4079,a7)]) ⟨0,bG,aG,cj⟩ hr (f14 z z z z z z z z z z z z z z) ⟨mr,(dG' cC O)⟩ (w8 z z z z z z z z) ?_
     .intro eS gx hx hr
      obtain⟨aB,bI,a7,bk⟩:=gx
      obtain⟨bN,cF⟩:=hx
      refine sr<|yy (V' z z) z<|nx<|c'<|E' hr z (fun eh hr=>?_) (fun eh hr=>?_)
      .refine l'<|a'<|c'<|s'<|sr ?_
       obtain⟨x3,c6,hr⟩:=hr
       refine yy (P' J' sz9 (cf.mono bN) z z c6) z<|yy (ae' sc9 z (bT' (H' (X' cf c6) bN))) z<|sx0 z z<|n'<|mv z z<|mv z z ?_
       obtain⟨⟨d9,dD⟩,hr⟩:=hr
       refine dF' (Rv':=RvS Rp.bool bk) (k:=x3) (z:=true) 4079 z dv' cF z z z z d9 z (fun _ _ _ _ h=>h) dD fun ea de=>o'<|v'<|a'<|n'<|yy (I' z z) z<|mv z z<|o'<|C' ⟨i64.wrap (aB+1),(mput bI x3 true),ea,bk⟩ hr ⟨bN,de⟩ (f14 z z z z z z z z z z z z z z) (w8 z z z z z z z z)
      refine U'<|h'<|h'<|y'<|W' ⟨bI,a7,bk⟩ ⟨bN,cF,hr⟩ (f11 z z z z z z z z z z z) (w8 z z z z z z z z)
    rintro⟨bw,a3,b0⟩ ⟨am,cy,hr⟩
    refine a'<|sr<|yy (Y0.ZqV z) z<|yy (g' 17 sc3 z z z) z<|yy (at' (vs:=#[(0,i' x2.id)]) (v:=.agg ([i' x2.id,.slice none 0 0]).toArray) z z (fun _=>by kernel_rfl)) z<|O' 21 z z57 z fun b8=>x' 21 z bK' z z z z z (List.all_eq_true.1 z)<|nr<|yy (m' 18 ag83 z z z) z<|yy (Y0.ZlK z) z<|yy (Y0.Zje z) z<|yy (g' 17 sc44 z z z) z ?_
    obtain⟨aA,dt,hr⟩:=hr
    refine Q' z z (u' E30 z) (cq' dt) z (⟨(bm.mono (mx O am)),(b9.mono (mx (mx (mx (mx (mx W bh) br) aY) O) am)),(bE.mono (mx O am))⟩) (fun er ew X ct=>?_)
    obtain⟨ai,aj,rfl,ce⟩:=ct
    refine mv z z<|yy (L' z z) z<|yy (L' z z) z<|yy (ck' z) z<|aB' 21 ([i' x2.id,.slice ai aA.1.length aj]).toArray z sz44 z z z (show 1<2 by decide) z z<|nr<|yy (Y0.ZlK z) z<|yy (Y0.ZlJ z) z<|yy (g' 17 sc4 z z z) z<|nx<|ay' hr z (fun d0 hr=>?_) (fun d0 hr=>?_)
    .refine n'<|yy (aG' z) z<|yy (g' 15 bc' z z z) z<|yy (m' 21 ag57 z z z) z<|aD' (e:=57) (r:=e') (vs:=#[(0,.agg ([i' x2.id,.slice ai aA.1.length aj]).toArray)]) (cs:=[i' x2.id,.slice ai aA.1.length aj]++([])) ([(Zc.mk x2.id aA.1)]:List Zc) z z z z z (by decide) (fun _=>by kernel_rfl) ⟨[i' x2.id,.slice ai aA.1.length aj],[],z,⟨[i' x2.id],[.slice ai aA.1.length aj],z,z,⟨_,z,ce⟩⟩,z⟩ (key:=999) z (by rw[bc]; rfl) (fun p5 eF bg dY=>?_)
     obtain⟨dM,hr⟩:=hr
     have N3:=mx (mx (mx O am) X) bg
     refine aW' (r:=e') 310152 z z N' el57 z (by decide) z z (bp.mono N3) z (by rw[bc]; rfl) bf dY dM fun p6 c5 dp dn bv d3 dw=>yy (aG' z) z<|aB' 15 ([.slice m f.length n,.slice D g.length E,.slice p6 (d++[(Zc.mk x2.id aA.1)]).length c5,i' l]).toArray z sz29 z z z (show 2<4 by decide) z z<|o'<|v'<|a'<|n'<|yy (I' z z) z<|mv z z<|o'<|C' ⟨i64.wrap (Y+1),f,m,n,g,D,E,I,(d++[(Zc.mk x2.id aA.1)]),p6,c5,dp,l,bw,a3,dn⟩ hr ⟨(mx (mx (mx (mx (mx aY O) am) X) bg) bv),(bo.mono (mx N3 bv)),(bD.mono (mx N3 bv)),bq,d3,dw,(dG' cy (mx (mx X bg) bv))⟩ (f9 z z z z z z z z z) (w6 z z z z z z)
    refine n'<|yy (aF' z) z<|yy (g' 15 bc' z z z) z<|yy (m' 21 ag57 z z z) z<|aD' (e:=57) (r:=e') (vs:=#[(0,.agg ([i' x2.id,.slice ai aA.1.length aj]).toArray)]) (cs:=[i' x2.id,.slice ai aA.1.length aj]++([])) ([(Zc.mk x2.id aA.1)]:List Zc) z z z z z (by decide) (fun _=>by kernel_rfl) ⟨[i' x2.id,.slice ai aA.1.length aj],[],z,⟨[i' x2.id],[.slice ai aA.1.length aj],z,z,⟨_,z,ce⟩⟩,z⟩ (key:=999) z (by rw[bc]; rfl) (fun p7 eG be dV=>?_)
    obtain⟨dh,hr⟩:=hr
    have N4:=mx (mx (mx O am) X) be
    refine aW' (r:=e') 310151 z z N' el57 z (by decide) z z (bD.mono N4) z (by rw[bc]; rfl) bq dV dh fun p8 c9 dJ dP bB d2 dk=>yy (aF' z) z<|aB' 15 ([.slice m f.length n,.slice p8 (g++[(Zc.mk x2.id aA.1)]).length c9,.slice t d.length s,i' l]).toArray z sz29 z z z (show 1<4 by decide) z z<|o'<|v'<|a'<|n'<|yy (I' z z) z<|mv z z<|o'<|C' ⟨i64.wrap (Y+1),f,m,n,(g++[(Zc.mk x2.id aA.1)]),p8,c9,dJ,d,t,s,u,l,bw,a3,dP⟩ hr ⟨(mx (mx (mx (mx (mx aY O) am) X) be) bB),(bo.mono (mx N4 bB)),d2,dk,(bp.mono (mx N4 bB)),bf,(dG' cy (mx (mx X be) bB))⟩ (f9 z z z z z z z z z) (w6 z z z z z z)
   refine U'<|h'<|h'<|y'<|W' ⟨f,m,n,g,D,E,I,d,t,s,u,l,bG,aG,bd⟩ ⟨aY,bo,bD,bq,bp,bf,cC,hr⟩ (f6 z z z z z z) (w5 z z z z z)
 rintro⟨F,ac,Z,H,ae,ad,aa,q,U,T,S,J,bP,bA,bs⟩ ⟨cl,ch,bV,dj,bO,c3,dB,hr⟩
 refine a'<|sr<|sx0 z z<|c'<|sr<|mv z z<|Q' z z (u' E32 z) (keysBox func32 z z z (some bx)) z trivial (fun eE eN aM cu=>?_)
 obtain⟨eI,rfl,di⟩:=cu
 refine ci' z z (u' E31 z) (gF' _ _ _ _ _ 4079 _ (by decide) (dG' dB aM) hr) z di (lc z ln) hz (fun eq eO eD bb cq=>?_)
 clear hr
 obtain⟨c2,db,dz,eo,rfl,rfl,dC,hr⟩:=cq
 refine aC' (fun w hs=>hs.rekey (i:=7000) (j:=4137) z (by rw[bc]; rfl))<|bQ' (r:=Rp.str) (e:=9) 4137 dC z (by rw[bc]; rfl) fun d1 cJ a4 ci ep=>yy (K' J' ci z) z<|mv z z<|nx<|R' (fun (⟨ar,aT,aV,aR,bW⟩:(List Zk)×Option Addr×Nat×Option Ow×Mem)=>[(6,pt0 b4),(9,.slice ap al.length ao),(11,.slice aU ay.2.length aW),(13,i' ak.2),(15,pt0 b5),(22,.slice aT ar.length aV)]) (fun ⟨ar,aT,aV,aR,bW⟩=>Mem.le cJ bW/\sl ab' bW aT aV ar/\Tok 2 61 (.slice aT ar.length aV) ar.length aR/\(Zdl al ay ak F H q J ar).Ret r) (fun ⟨ar,aT,aV,aR,bW⟩=>St w0 G0 bW [(6,bk0 b4 (v31' aS A x L K B y) 31),(15,bk0 b5 ([.slice ac F.length Z,.slice ae H.length ad,.slice U q.length T,i' J]) 31),(310151,aa),(310152,S),(1022,aR)]) ?_ ?_
 .refine s' ?_
  let cN:(List Zk)->Prop:=fun oo=>((fun ov=>match ov with|ar=>Zdl al ay ak F H q J ar:(List Zk)->Cq (Za×(List Zk)×Int)) oo).wp (fun a=>a=r)
  replace hr:(Cq.loop _ _).wp cN:=hr
  refine T' (Φ:=cN) (fun (⟨ah,au,av,aq,aC,bJ⟩:(List Zk)×Option Addr×Nat×Option Ow×Int×Mem)=>((ah,aC):(List Zk)×Int)) (fun ⟨ah,au,av,aq,aC,bJ⟩=>[(6,pt0 b4),(9,.slice ap al.length ao),(11,.slice aU ay.2.length aW),(13,i' ak.2),(15,pt0 b5),(22,.slice au ah.length av),(137,.slice db c2.length dz),(138,i' (c2.length:Int)),(139,i' aC)]) (fun ⟨ah,au,av,aq,aC,bJ⟩=>Mem.le cJ bJ/\sl ab' bJ au av ah/\Tok 2 61 (.slice au ah.length av) ah.length aq) (fun ⟨ah,au,av,aq,aC,bJ⟩=>St w0 G0 bJ [(6,bk0 b4 (v31' aS A x L K B y) 31),(15,bk0 b5 ([.slice ac F.length Z,.slice ae H.length ad,.slice U q.length T,i' J]) 31),(310151,aa),(310152,S),(4137,d1),(1022,aq)]) ⟨[],none,0,none,0,cJ⟩ hr (f9 z z z z z z z z z) ⟨mr,(ah' _ _),cc'⟩ (wk (lc z (lc z (lc z (lc z (lc z (lw ln))))))) ?_
  .intro eK gx hx hr
   obtain⟨ah,au,av,aq,aC,bJ⟩:=gx
   obtain⟨bM,cc,bY⟩:=hx
   refine sr<|yy (V' z z) z<|nx<|c'<|E' hr z (fun d7 hr=>?_) (fun d7 hr=>?_)
   .refine l'<|a'<|c'<|s'<|sr ?_
    obtain⟨x1,c4,hr⟩:=hr
    refine yy (P' J' sz9 (ci.mono bM) z z c4) z<|yy (ae' sc9 z (bT' (H' (X' ci c4) bM))) z<|sx0 z z<|n'<|mv z z<|mv z z<|yy (at' (vs:=#[(1,.string x1)]) (v:=.agg ([i' 0,.string x1]).toArray) z z (fun _=>by kernel_rfl)) z<|aD' (e:=61) (r:=ab') (vs:=#[(0,.agg ([i' 0,.string x1]).toArray)]) (cs:=[i' 0,.string x1]++([])) ([(Zk.mk 0 x1)]:List Zk) z z z z z (by decide) (fun _=>by kernel_rfl) ⟨[i' 0,.string x1],[],z,⟨[i' 0],[.string x1],z,z,z⟩,z⟩ (key:=999) z (by rw[bc]; rfl) (fun p3 eJ cm ei=>?_)
    obtain⟨dq,hr⟩:=hr
    refine aW' (r:=ab') 1022 z z aU' el61 z (by decide) z z (cc.mono cm) z (by rw[bc]; rfl) bY ei dq fun p4 d5 dO dF cK ee dm=>sg z z<|o'<|v'<|a'<|n'<|yy (I' z z) z<|mv z z<|o'<|C' ⟨(ah++[(Zk.mk 0 x1)]),p4,d5,dO,i64.wrap (aC+1),dF⟩ hr ⟨(mx (mx bM cm) cK),ee,dm⟩ (f9 z z z z z z z z z) (w6 z z z z z z)
   refine U'<|h'<|h'<|y'<|W' ⟨ah,au,av,aq,bJ⟩ ⟨bM,cc,bY,hr⟩ (f6 z z z z z z) (w5 z z z z z)
 rintro⟨ar,aT,aV,aR,bW⟩ ⟨a9,cL,cp,hr⟩
 refine a'<|sr<|mv z z<|mv z z ?_
 obtain⟨df,hr⟩:=hr
 have N5:=mx (mx (mx (mx (mx (mx bh br) cl) aM) bb) a4) a9
 refine aW' (r:=ab') 1022 z z aU' el61 z (by decide) z z cL z (by rw[bc]; rfl) cp (cw.mono N5) df fun p2 eT eA eL bi c8 eC=>sx0 z z<|c'<|sr<|mv z z<|yy (K' aU' c8 z) z<|yy (aZ' z z) z<|nx<|E' hr z (fun dU hr=>?_) (fun dU hr=>?_)
 .refine sr<|yy (at' (vs:=#[]) (v:=.agg ([.slice none 0 0,.slice none 0 0,.slice none 0 0,i' 0]).toArray) z z (fun _=>by kernel_rfl)) z<|mv z z<|x' 6 z aR' z z z z z (List.all_eq_true.1 z)<|sg z z<|sx0 z z<|k'<|b' ?_
  obtain rfl:_=r:=hr
  exact cv' z (ak' (i:=6) ai' z z z) z z ⟨_,_,_,_,_,_,_,_,z,(ah' Rp.str _),(ah' e' _),(ah' e' _),c8⟩
 have N6:=mx (mx (mx (mx (mx (mx (mx (mx W bh) br) cl) aM) bb) a4) a9) bi
 refine l'<|a'<|c'<|sr<|mv z z<|yy (K' J' (b9.mono N6) z) z<|ao' hr z (aZ' z z) z (fun em hr=>?_) (fun em hr=>?_)
 .refine mv z z<|sn4 z<|yy (t' z z) z<|mv z z<|sn4 z<|yy (t' z z) z<|mv z z<|sn2 z<|yy (t' z z) z<|nx<|av' z<|sr<|yy (at' (vs:=#[]) (v:=.agg ([.slice none 0 0,.slice none 0 0,.slice none 0 0,i' 0]).toArray) z z (fun _=>by kernel_rfl)) z<|x' 6 z aR' z z z z z (List.all_eq_true.1 z)<|sg z z<|sx0 z z<|k'<|b' ?_
  obtain rfl:_=r:=hr
  exact cv' z (ak' (i:=6) ai' z z z) z z ⟨_,_,_,_,_,_,_,_,z,(ah' Rp.str _),(ah' e' _),(ah' e' _),(ah' ab' _)⟩
 refine mv z z<|gy z z (aF' z) z<|gy z z (g' 15 bc' z z z) z<|gy z z (K' N' (bV.mono (mx (mx (mx (mx aM bb) a4) a9) bi)) z) z<|ao' hr (D' z z) (aZ' z z) z (fun d6 hr=>?_) (fun d6 hr=>?_)
 .refine yy (p' z z) z<|mv z z<|sn4 z<|yy (t' z z) z<|mv z z<|sn2 z<|yy (t' z z) z<|nx<|av' z<|sr<|yy (at' (vs:=#[]) (v:=.agg ([.slice none 0 0,.slice none 0 0,.slice none 0 0,i' 0]).toArray) z z (fun _=>by kernel_rfl)) z<|x' 6 z aR' z z z z z (List.all_eq_true.1 z)<|sg z z<|sx0 z z<|k'<|b' ?_
  obtain rfl:_=r:=hr
  exact cv' z (ak' (i:=6) ai' z z z) z z ⟨_,_,_,_,_,_,_,_,z,(ah' Rp.str _),(ah' e' _),(ah' e' _),(ah' ab' _)⟩
 refine yy (p' z z) z<|mv z z<|gy z z (aG' z) z<|gy z z (g' 15 bc' z z z) z<|gy z z (K' N' (bO.mono (mx (mx (mx (mx aM bb) a4) a9) bi)) z) z<|ao' hr (D' z z) (aZ' z z) z (fun dT hr=>?_) (fun dT hr=>?_)
 .refine yy (p' z z) z<|mv z z<|sn2 z<|yy (t' z z) z<|nx<|av' z<|sr<|yy (at' (vs:=#[]) (v:=.agg ([.slice none 0 0,.slice none 0 0,.slice none 0 0,i' 0]).toArray) z z (fun _=>by kernel_rfl)) z<|x' 6 z aR' z z z z z (List.all_eq_true.1 z)<|sg z z<|sx0 z z<|k'<|b' ?_
  obtain rfl:_=r:=hr
  exact cv' z (ak' (i:=6) ai' z z z) z z ⟨_,_,_,_,_,_,_,_,z,(ah' Rp.str _),(ah' e' _),(ah' e' _),(ah' ab' _)⟩
 refine yy (p' z z) z<|mv z z<|gy z z (f' z) z<|gy z z (aZ' z z) z<|yy (p' z z) z<|nx<|E' hr z (fun eg hr=>?_) (fun eg hr=>?_)
 .refine sr<|yy (at' (vs:=#[]) (v:=.agg ([.slice none 0 0,.slice none 0 0,.slice none 0 0,i' 0]).toArray) z z (fun _=>by kernel_rfl)) z<|x' 6 z aR' z z z z z (List.all_eq_true.1 z)<|sg z z<|sx0 z z<|k'<|b' ?_
  obtain rfl:_=r:=hr
  exact cv' z (ak' (i:=6) ai' z z z) z z ⟨_,_,_,_,_,_,_,_,z,(ah' Rp.str _),(ah' e' _),(ah' e' _),(ah' ab' _)⟩
 refine l'<|a'<|sr<|yy (m' 15 ai' z z z) z<|x' 6 z aR' z z z z z (List.all_eq_true.1 z)<|sg z z<|sx0 z z<|k' ?_
 obtain rfl:_=r:=hr
 have N7:=mx (mx (mx (mx aM bb) a4) a9) bi
 exact cv' z (ak' (i:=6) ai' z z z) z z ⟨_,_,_,_,_,_,_,_,z,(ch.mono N7),(bV.mono N7),(bO.mono N7),(ah' ab' _)⟩
theorem fv'{s q k h i g r}(hr:(Zih s q).Ret r):Ctr prog 161 #[.agg ((v99' s k h)).toArray,.agg ((v99' q i g)).toArray] (fun G=>sl (Rp.int .u32) G k h s.mag/\sl (Rp.int .u32) G i g q.mag) (fun G v=>v = .bool r):=by
 refine A' (args:=[_,_]) (N:=38) func161 z z z (fun B o O x=>?_)
 obtain⟨e,j⟩:=x
 refine sr<|Y' 2 z z z fun C=>Y' 3 z z z fun y=>sx0 z z<|c'<|sr<|yy (aX' z) z<|yy (g' 2 sc4 z z z) z<|yy (aX' z) z<|yy (g' 3 sc4 z z z) z<|ao' hr z (Y0.neqB bA' z z) z (fun D hr=>?_) (fun D hr=>?_)
 .refine mv z z<|sn7 z<|yy (t' z z) z<|nx<|av' z<|sr<|sx0 z z<|k'<|b' (k0' hr z z)
 refine mv z z<|gy z z (ax' z) z<|gy z z (g' 2 bs' z z z) z<|gy z z (K' q' e z) z<|gy z z (ax' z) z<|gy z z (g' 3 bs' z z z) z<|gy z z (K' q' j z) z<|gy z z (bj' z z) z<|yy (p' z z) z<|nx<|E' hr z (fun F hr=>?_) (fun F hr=>?_)
 .refine sr<|sx0 z z<|k'<|b' (k0' hr z z)
 refine l'<|a'<|c'<|sr<|sx0 z z<|R' (fun (m:Mem)=>match m with|l=>[]) (fun (m:Mem)=>match m with|l=>Mem.le o l/\(Ze0).Ret r) (fun (m:Mem)=>match m with|l=>St B o l []) ?_ ?_
 .refine s' ?_
  let p:(Bool⊕Unit)->Prop:=fun K=>((fun J=>match J with | .inl rv1=>Cq.ret rv1 | .inr ()=>Ze0:(Bool⊕Unit)->Cq Bool) K).wp (fun a=>a=r)
  replace hr:(Cq.loop _ _).wp p:=hr
  refine T' (Φ:=p) (fun (⟨n,f⟩:Int×Mem)=>(n:Int)) (fun ⟨n,f⟩=>[(2,pt0 C),(3,pt0 y),(5,i' n)]) (fun ⟨n,f⟩=>Mem.le o f) (fun ⟨n,f⟩=>St B o f [(2,bk0 C (v99' s k h) 99),(3,bk0 y (v99' q i g) 99)]) ⟨0,o⟩ hr (f3 z z z) mr (w2 z z) ?_
  .intro M m L hr
   obtain⟨n,f⟩:=m
   have d:=L
   refine c'<|sr<|mv z z<|yy (ax' z) z<|yy (g' 2 bs' z z z) z<|yy (K' q' (e.mono d) z) z<|yy (V' z z) z<|nx<|E' hr z (fun A hr=>?_) (fun A hr=>?_)
   .refine l'<|a'<|c'<|s'<|c'<|ad' [ff,ff,ff,ff,ff,ff,ff,ff,ff,ff] mix (by kernel_rfl) fun I=>cn (fun _ c=>ax' z)<|cn (fun _ c=>g' 2 bs' z z z)<|cn (fun _ c=>f' z) ?_
    obtain⟨Q,u,hr⟩:=hr
    refine cn (fun _ c=>P' q' aM' ((e.mono d).mono c) z z u)<|cn (fun _ c=>ae' bu' z (aA' (H' (H' (X' e u) d) c)))<|cn (fun _ c=>ax' z)<|cn (fun _ c=>g' 3 bs' z z z)<|cn (fun _ c=>f' z) ?_
    obtain⟨P,t,hr⟩:=hr
    refine cn (fun _ c=>P' q' aM' ((j.mono d).mono c) z z t)<|cn (fun _ c=>ae' bu' z (aA' (H' (H' (X' j t) d) c)))<|af' I<|yy (bj' z z) z<|o'<|am'<|a'<|E' hr z (fun E hr=>?_) (fun E hr=>?_)
    .refine sr<|sx0 z z<|k'<|w'<|b'<|b'<|w'<|ap'<|b' (k0' hr z z)
    refine l'<|v'<|a'<|n'<|mv z z<|yy (I' z z) z<|sg z z<|o'<|C' ⟨i64.wrap (n+1),f⟩ hr d (f3 z z z) (w2 z z)
   refine U'<|h'<|h'<|y'<|W' f ⟨d,hr⟩ fn (wk ln)
 rintro l ⟨H,hr⟩
 refine a'<|sr<|sx0 z z<|k' (k0' hr z z)
theorem go'{l k j f h g i d c e r}(hr:(Zig l k).Ret r):Ctr prog 110 #[.agg ((v101' l j f h g)).toArray,.agg ((v101' k i d c e)).toArray] (fun G=>sl (Rp.int .u32) G j f l.num.mag/\sl (Rp.int .u32) G h g l.den.mag/\sl (Rp.int .u32) G i d k.num.mag/\sl (Rp.int .u32) G c e k.den.mag) (fun G v=>v = .bool r):=by
 refine A' (args:=[_,_]) (N:=17) func110 z z z (fun C B y s=>?_)
 obtain⟨p,m,n,o⟩:=s
 refine sr<|Y' 2 z z z fun D=>Y' 3 z z z fun A=>sg z z<|nr<|yy (bw' z) z<|yy (aj' ((v99' l.num j f)).toArray 2 aJ' z z z (aq' ([]) ((v99' l.num j f)) ((v99' l.den h g)))) z<|yy (bw' z) z<|yy (aj' ((v99' k.num i d)).toArray 3 aJ' z z z (aq' ([]) ((v99' k.num i d)) ((v99' k.den c e)))) z ?_
 obtain⟨u,t,hr⟩:=hr
 refine B' z z (u' E161 z) (fv' t) z (⟨p,n⟩) ?_
 cases u
 .refine mv z z<|sn5 z<|yy (p' z z) z<|sx0 z z<|k' (k0' hr z z)
 refine mv z z<|gy z z (bk' z) z<|gy z z (aj' ((v99' l.den h g)).toArray 2 aJ' z z z (aq' ((v99' l.num j f)) ((v99' l.den h g)) ([]))) z<|gy z z (bk' z) z<|gy z z (aj' ((v99' k.den c e)).toArray 3 aJ' z z z (aq' ((v99' k.num i d)) ((v99' k.den c e)) ([]))) z ?_
 obtain⟨x,q,hr⟩:=hr
 refine B' (D' z z) z (u' E161 z) (fv' q) z (⟨m,o⟩)<|yy (t' z z) z<|sx0 z z<|k' (k0' hr z z)
theorem fG'{l k j h g f i d c e r}(hr:(ZcG l k).Ret r):Ctr prog 69 #[.agg (((v101' l.c j h g f):List Value)++(vecG (Value.int .i64) 8 l.m)).toArray,.agg (((v101' k.c i d c e):List Value)++(vecG (Value.int .i64) 8 k.m)).toArray] (fun G=>sl (Rp.int .u32) G j h l.c.num.mag/\sl (Rp.int .u32) G g f l.c.den.mag/\sl (Rp.int .u32) G i d k.c.num.mag/\sl (Rp.int .u32) G c e k.c.den.mag) (fun G v=>v = .bool r):=by
 refine A' (args:=[_,_]) (N:=17) func69 z z z (fun B A x q=>?_)
 obtain⟨m,n,p,o⟩:=q
 refine sr<|Y' 2 z z z fun C=>Y' 3 z z z fun y=>sg z z<|nr<|yy (aL' z) z<|yy (aj' (vecG (Value.int .i64) 8 l.m).toArray 2 aT' z z (M' _ _ _) (aq' ((v101' l.c j h g f)) (vecG (Value.int .i64) 8 l.m) ([]))) z<|yy (aL' z) z<|yy (aj' (vecG (Value.int .i64) 8 k.m).toArray 3 aT' z z (M' _ _ _) (aq' ((v101' k.c i d c e)) (vecG (Value.int .i64) 8 k.m) ([]))) z<|ao' hr z (Y0.eqlV ag' aO' sc3 sz3 eg110 z z) z (fun t hr=>?_) (fun t hr=>?_)
 .refine mv z z<|gy z z (bB' z) z<|gy z z (aj' ((v101' l.c j h g f)).toArray 2 bg' z z z (aq' ([]) ((v101' l.c j h g f)) ((vecG (Value.int .i64) 8 l.m)))) z<|gy z z (bB' z) z<|gy z z (aj' ((v101' k.c i d c e)).toArray 3 bg' z z z (aq' ([]) ((v101' k.c i d c e)) ((vecG (Value.int .i64) 8 k.m)))) z ?_
  obtain⟨u,s,hr⟩:=hr
  refine B' (D' z z) z (u' E110 z) (go' s) z (⟨m,n,p,o⟩)<|yy (t' z z) z<|sx0 z z<|k' (k0' hr z z)
 refine mv z z<|sn5 z<|yy (p' z z) z<|sx0 z z<|k' (k0' hr z z)
theorem fw'{F B t s u p r}(hr:(ZfQ F B).Ret r):Ctr prog 36 #[.slice t F.length s,.slice u B.length p] (fun G=>sl r' G t s F/\sl r' G u p B) (fun G v=>v = .bool r):=by
 refine A' (args:=[_,_]) (N:=27) func36 z z z (fun T o ad M=>?_)
 obtain⟨n,q⟩:=M
 refine sr<|sx0 z z<|c'<|sr<|mv z z<|yy (K' F' n z) z<|mv z z<|yy (K' F' q z) z<|yy (bj' z z) z<|nx<|E' hr z (fun V hr=>?_) (fun V hr=>?_)
 .refine sr<|sx0 z z<|k'<|b' (k0' hr z z)
 refine l'<|a'<|c'<|sr<|sx0 z z<|R' (fun (l:Mem)=>match l with|k=>[]) (fun (l:Mem)=>match l with|k=>Mem.le o k/\(Ze6).Ret r) (fun (l:Mem)=>match l with|k=>St T o k []) ?_ ?_
 .refine s' ?_
  let x:(Bool⊕Unit)->Prop:=fun oo=>((fun Y=>match Y with | .inl rv1=>Cq.ret rv1 | .inr ()=>Ze6:(Bool⊕Unit)->Cq Bool) oo).wp (fun a=>a=r)
  replace hr:(Cq.loop _ _).wp x:=hr
  refine T' (Φ:=x) (fun (⟨m,e⟩:Int×Mem)=>(m:Int)) (fun ⟨m,e⟩=>[(0,.slice t F.length s),(1,.slice u B.length p),(5,i' m)]) (fun ⟨m,e⟩=>Mem.le o e) (fun ⟨m,e⟩=>St T o e []) ⟨0,o⟩ hr (f3 z z z) mr (wk ln) ?_
  .intro ac l Z hr
   obtain⟨m,e⟩:=l
   have c:=Z
   refine c'<|sr<|mv z z<|mv z z<|yy (K' F' (n.mono c) z) z<|yy (V' z z) z<|nx<|E' hr z (fun S hr=>?_) (fun S hr=>?_)
   .refine l'<|a'<|c'<|s'<|c'<|ad' [ff,ff,ff,ff,ff,ff,ff,ff] mix (by kernel_rfl) fun X=>cn (fun _ d=>f' z)<|cn (fun _ d=>f' z) ?_
    obtain⟨x1,L,hr⟩:=hr
    refine cn (fun _ d=>P' F' bh' ((n.mono c).mono d) z z L) ?_
    obtain⟨C,y,H,A,Q,i,f⟩:=bI' (H' (X' n L) c)
    refine cn (fun _ d=>as' _ cM' z z (fun j v O=>d _ _ _ (Q j v O)))<|cn (fun _ d=>f' z)<|cn (fun _ d=>f' z) ?_
    obtain⟨x2,K,hr⟩:=hr
    refine cn (fun _ d=>P' F' bh' ((q.mono c).mono d) z z K) ?_
    obtain⟨D,J,E,I,R,g,h⟩:=bI' (H' (X' q K) c)
    refine cn (fun _ d=>as' _ cM' z z (fun j v O=>d _ _ _ (R j v O)))<|af' X ?_
    obtain⟨ab,P,hr⟩:=hr
    refine B' z z (u' E69 z) (fG' P) z (⟨i,f,g,h⟩)<|yy (an' z) z<|o'<|am'<|a'<|ay' hr z (fun U hr=>?_) (fun U hr=>?_)
    .refine sr<|sx0 z z<|k'<|w'<|b'<|b'<|w'<|ap'<|b' (k0' hr z z)
    refine l'<|v'<|a'<|n'<|mv z z<|yy (I' z z) z<|sg z z<|o'<|C' ⟨i64.wrap (m+1),e⟩ hr c (f3 z z z) (wk ln)
   refine U'<|h'<|h'<|y'<|W' e ⟨c,hr⟩ fn (wk ln)
 rintro k ⟨W,hr⟩
 refine a'<|sr<|sx0 z z<|k' (k0' hr z z)
theorem eD'{s q m p k o r}(hr:(Zbz s q).Ret r):Ctr prog 33 #[.slice m s.length p,.slice k q.length o] (fun G=>sl e' G m p s/\sl e' G k o q) (fun G v=>v = .bool r):=by
 refine A' (args:=[_,_]) (N:=42) func33 z z z (fun F l W A=>?_)
 obtain⟨f,h⟩:=A
 refine sr<|sx0 z z<|c'<|sr<|mv z z<|yy (K' N' f z) z<|mv z z<|yy (K' N' h z) z<|yy (bj' z z) z<|nx<|E' hr z (fun M hr=>?_) (fun M hr=>?_)
 .refine sr<|sx0 z z<|k'<|b' (k0' hr z z)
 refine l'<|a'<|c'<|sr<|sx0 z z<|R' (fun (i:Mem)=>match i with|g=>[]) (fun (i:Mem)=>match i with|g=>Mem.le l g/\(ZcI).Ret r) (fun (i:Mem)=>match i with|g=>St F l g []) ?_ ?_
 .refine s' ?_
  let n:(Bool⊕Unit)->Prop:=fun R=>((fun P=>match P with | .inl rv1=>Cq.ret rv1 | .inr ()=>ZcI:(Bool⊕Unit)->Cq Bool) R).wp (fun a=>a=r)
  replace hr:(Cq.loop _ _).wp n:=hr
  refine T' (Φ:=n) (fun (⟨j,e⟩:Int×Mem)=>(j:Int)) (fun ⟨j,e⟩=>[(0,.slice m s.length p),(1,.slice k q.length o),(5,i' j)]) (fun ⟨j,e⟩=>Mem.le l e) (fun ⟨j,e⟩=>St F l e []) ⟨0,l⟩ hr (f3 z z z) mr (wk ln) ?_
  .intro U i Q hr
   obtain⟨j,e⟩:=i
   have d:=Q
   refine c'<|sr<|mv z z<|mv z z<|yy (K' N' (f.mono d) z) z<|yy (V' z z) z<|nx<|E' hr z (fun E hr=>?_) (fun E hr=>?_)
   .refine l'<|a'<|c'<|s'<|c'<|ad' [ff,ff,ff,ff,ff,ff,ff,ff,ff,ff,ff,ff,ff,ff,ff,ff,ff,ff,ff,ff,ff,ff] mix (by kernel_rfl) fun C=>cn (fun _ c=>f' z)<|cn (fun _ c=>f' z) ?_
    obtain⟨x1,y,hr⟩:=hr
    refine cn (fun _ c=>P' N' bK' ((f.mono d).mono c) z z y)<|cn (fun _ c=>bl' z)<|cn (fun _ c=>ae' sc3 z (aA' (H' (H' (bS' (aS' (X' f y))) d) c)))<|cn (fun _ c=>f' z)<|cn (fun _ c=>f' z) ?_
    obtain⟨x2,u,hr⟩:=hr
    refine cn (fun _ c=>P' N' bK' ((h.mono d).mono c) z z u)<|cn (fun _ c=>bl' z)<|cn (fun _ c=>ae' sc3 z (aA' (H' (H' (bS' (aS' (X' h u))) d) c)))<|bX' hr z (fun _ c=>bj' z z) (fun J hr=>?_) (fun J hr=>?_)
    .refine cn (fun _ c=>f' z)<|cf z z<|cf z z<|cf z z<|cf z z<|cf z z<|cf z z<|cf z z<|cf z z<|cf z z<|cf z z<|af' C<|sn2 z<|yy (t' z z) z<|o'<|am'<|a'<|av' z<|sr<|sx0 z z<|k'<|w'<|b'<|b'<|w'<|ap'<|b' (k0' hr z z)
    refine cn (fun _ c=>f' z)<|cy z z (fun _ c=>f' z)<|cy z z (fun _ c=>f' z) ?_
    obtain⟨Z,t,hr⟩:=hr
    refine cy z z (fun _ c=>P' N' bK' ((f.mono d).mono c) z z t)<|cy z z (fun _ c=>ck' z) ?_
    obtain⟨p1,V,D,I⟩:=dg' (H' (bP' (aS' (X' f t))) d)
    refine cy z z (fun _ c=>ae' sc44 z (c _ _ _ D))<|cy z z (fun _ c=>f' z)<|cy z z (fun _ c=>f' z) ?_
    obtain⟨Y,x,hr⟩:=hr
    refine cy z z (fun _ c=>P' N' bK' ((h.mono d).mono c) z z x)<|cy z z (fun _ c=>ck' z) ?_
    obtain⟨X,S,H,K⟩:=dg' (H' (bP' (aS' (X' h x))) d)
    refine cy z z (fun _ c=>ae' sc44 z (c _ _ _ H))<|af' C ?_
    obtain⟨T,B,hr⟩:=hr
    refine B' (D' z z) z (u' E36 z) (fw' B) z (⟨I,K⟩)<|gy z z (an' z) z<|yy (p' z z) z<|o'<|am'<|a'<|ay' hr z (fun L hr=>?_) (fun L hr=>?_)
    .refine sr<|sx0 z z<|k'<|w'<|b'<|b'<|w'<|ap'<|b' (k0' hr z z)
    refine l'<|v'<|a'<|n'<|mv z z<|yy (I' z z) z<|sg z z<|o'<|C' ⟨i64.wrap (j+1),e⟩ hr d (f3 z z z) (wk ln)
   refine U'<|h'<|h'<|y'<|W' e ⟨d,hr⟩ fn (wk ln)
 rintro g ⟨O,hr⟩
 refine a'<|sr<|sx0 z z<|k' (k0' hr z z)
theorem cD'{C A l k q o m i g e p s j h r}(hr:(Zee C A).Ret r):Ctr prog 11 #[.agg ((v31' C l k q o m i)).toArray,.agg ((v31' A g e p s j h)).toArray] (fun G=>sl Rp.str G l k C.vars/\sl e' G q o C.eqs/\sl e' G m i C.neqs/\y31' G g e p s j h A) (fun G v=>v = .bool r):=by
 refine A' (args:=[_,_]) (N:=54) func11 z z z (fun R H ah S=>?_)
 obtain⟨f,I,E,t,K,F⟩:=S
 refine sr<|Y' 2 z z z fun M=>Y' 3 z z z fun L=>sx0 z z<|aP' (fun (u:Mem)=>match u with|y=>[(2,pt0 M),(3,pt0 L)]) (fun (u:Mem)=>match u with|y=>Mem.le H y/\(ZhU C A).Ret r) (fun (u:Mem)=>match u with|y=>St R H y [(2,bk0 M (v31' C l k q o m i) 31),(3,bk0 L (v31' A g e p s j h) 31)]) ?_ ?_
 .refine sr<|yy (aH' z) z<|yy (g' 2 bF' z z z) z<|yy (K' J' f z) z<|yy (aH' z) z<|yy (g' 3 bF' z z z) z<|yy (K' J' t z) z<|ao' hr z (bj' z z) z (fun X hr=>?_) (fun X hr=>?_)
  .refine mv z z<|sn5 z<|yy (t' z z) z<|mv z z<|sn6 z<|yy (t' z z) z<|mv z z<|sn6 z<|yy (t' z z) z<|nx<|av' z<|sr<|sx0 z z<|k'<|b' (k0' hr z z)
  refine mv z z<|gy z z (bt' z) z<|gy z z (g' 2 sc3 z z z) z<|gy z z (bt' z) z<|gy z z (g' 3 sc3 z z z) z<|ao' hr (D' z z) (bj' z z) z (fun W hr=>?_) (fun W hr=>?_)
  .refine yy (p' z z) z<|mv z z<|sn6 z<|yy (t' z z) z<|mv z z<|sn6 z<|yy (t' z z) z<|nx<|av' z<|sr<|sx0 z z<|k'<|b' (k0' hr z z)
  refine yy (p' z z) z<|mv z z<|gy z z (aF' z) z<|gy z z (g' 2 bc' z z z) z<|gy z z (aF' z) z<|gy z z (g' 3 bc' z z z) z ?_
  obtain⟨U,T,hr⟩:=hr
  refine B' (D' z z) z (u' E33 z) (eD' T) z (⟨I,K⟩) ?_
  cases U
  .refine gy z z (an' z) z<|yy (p' z z) z<|mv z z<|sn6 z<|yy (t' z z) z<|nx<|av' z<|sr<|sx0 z z<|k'<|b' (k0' hr z z)
  refine gy z z (an' z) z<|yy (p' z z) z<|mv z z<|gy z z (aG' z) z<|gy z z (g' 2 bc' z z z) z<|gy z z (aG' z) z<|gy z z (g' 3 bc' z z z) z ?_
  obtain⟨af,Q,hr⟩:=hr
  refine B' (D' z z) z (u' E33 z) (eD' Q) z (⟨E,F⟩)<|gy z z (an' z) z<|yy (p' z z) z<|nx<|ay' hr z (fun Y hr=>?_) (fun Y hr=>?_)
  .refine sr<|sx0 z z<|k'<|b' (k0' hr z z)
  refine l'<|al' H ⟨mr,hr⟩ (f2 z z) (w2 z z)
 rintro y ⟨n,hr⟩
 refine c'<|sr<|sx0 z z<|R' (fun (u:Mem)=>match u with|B=>[]) (fun (u:Mem)=>match u with|B=>Mem.le y B/\(Ze9).Ret r) (fun (u:Mem)=>match u with|B=>St R H B []) ?_ ?_
 .refine s' ?_
  let J:(Bool⊕Unit)->Prop:=fun oo=>((fun ov=>match ov with | .inl rv1=>Cq.ret rv1 | .inr ()=>Ze9:(Bool⊕Unit)->Cq Bool) oo).wp (fun a=>a=r)
  replace hr:(Cq.loop _ _).wp J:=hr
  refine T' (Φ:=J) (fun (⟨D,x⟩:Int×Mem)=>(D:Int)) (fun ⟨D,x⟩=>[(2,pt0 M),(3,pt0 L),(5,i' D)]) (fun ⟨D,x⟩=>Mem.le y x) (fun ⟨D,x⟩=>St R H x [(2,bk0 M (v31' C l k q o m i) 31),(3,bk0 L (v31' A g e p s j h) 31)]) ⟨0,y⟩ hr (f3 z z z) mr (w2 z z) ?_
  .intro ag u hx hr
   obtain⟨D,x⟩:=u
   have d:=hx
   refine c'<|sr<|mv z z<|yy (aH' z) z<|yy (g' 2 bF' z z z) z<|yy (K' J' (f.mono (mx n d)) z) z<|yy (V' z z) z<|nx<|E' hr z (fun Z hr=>?_) (fun Z hr=>?_)
   .refine l'<|a'<|c'<|s'<|c'<|ad' [ff,ff,ff,ff,ff,ff,ff,ff,ff,ff] mix (by kernel_rfl) fun hb=>cn (fun _ c=>aH' z)<|cn (fun _ c=>g' 2 bF' z z z)<|cn (fun _ c=>f' z) ?_
    obtain⟨x1,P,hr⟩:=hr
    refine cn (fun _ c=>P' J' sz9 ((f.mono (mx n d)).mono c) z z P)<|cn (fun _ c=>ae' sc9 z (bT' (H' (H' (X' f P) (mx n d)) c)))<|cn (fun _ c=>aH' z)<|cn (fun _ c=>g' 3 bF' z z z)<|cn (fun _ c=>f' z) ?_
    obtain⟨x2,O,hr⟩:=hr
    refine cn (fun _ c=>P' J' sz9 ((t.mono (mx n d)).mono c) z z O)<|cn (fun _ c=>ae' sc9 z (bT' (H' (H' (X' t O) (mx n d)) c)))<|af' hb<|yy (Y0.neqS aI' z z) z<|o'<|am'<|a'<|E' hr z (fun V hr=>?_) (fun V hr=>?_)
    .refine sr<|sx0 z z<|k'<|w'<|b'<|b'<|w'<|ap'<|b' (k0' hr z z)
    refine l'<|v'<|a'<|n'<|mv z z<|yy (I' z z) z<|sg z z<|o'<|C' ⟨i64.wrap (D+1),x⟩ hr d (f3 z z z) (w2 z z)
   refine U'<|h'<|h'<|y'<|W' x ⟨d,hr⟩ fn (wk ln)
 rintro B ⟨aa,hr⟩
 refine a'<|sr<|sx0 z z<|k' (k0' hr z z)
theorem dT'{t s m p k o r}(hr:(Zaj t s).Ret r):Ctr prog 19 #[.slice m t.length p,.slice k s.length o] (fun G=>sl ab' G m p t/\sl ab' G k o s) (fun G v=>v = .bool r):=by
 refine A' (args:=[_,_]) (N:=26) func19 z z z (fun D l P y=>?_)
 obtain⟨i,q⟩:=y
 refine sr<|sx0 z z<|c'<|sr<|mv z z<|yy (K' aU' i z) z<|mv z z<|yy (K' aU' q z) z<|yy (bj' z z) z<|nx<|E' hr z (fun H hr=>?_) (fun H hr=>?_)
 .refine sr<|sx0 z z<|k'<|b' (k0' hr z z)
 refine l'<|a'<|c'<|sr<|sx0 z z<|R' (fun (g:Mem)=>match g with|f=>[]) (fun (g:Mem)=>match g with|f=>Mem.le l f/\(ZaZ).Ret r) (fun (g:Mem)=>match g with|f=>St D l f []) ?_ ?_
 .refine s' ?_
  let n:(Bool⊕Unit)->Prop:=fun L=>((fun K=>match K with | .inl rv1=>Cq.ret rv1 | .inr ()=>ZaZ:(Bool⊕Unit)->Cq Bool) L).wp (fun a=>a=r)
  replace hr:(Cq.loop _ _).wp n:=hr
  refine T' (Φ:=n) (fun (⟨h,e⟩:Int×Mem)=>(h:Int)) (fun ⟨h,e⟩=>[(0,.slice m t.length p),(1,.slice k s.length o),(5,i' h)]) (fun ⟨h,e⟩=>Mem.le l e) (fun ⟨h,e⟩=>St D l e []) ⟨0,l⟩ hr (f3 z z z) mr (wk ln) ?_
  .intro O g M hr
   obtain⟨h,e⟩:=g
   have c:=M
   refine c'<|sr<|mv z z<|mv z z<|yy (K' aU' (i.mono c) z) z<|yy (V' z z) z<|nx<|E' hr z (fun C hr=>?_) (fun C hr=>?_)
   .refine l'<|a'<|c'<|s'<|c'<|ad' [ff,ff,ff,ff,ff,ff,ff,ff] mix (by kernel_rfl) fun J=>cn (fun _ d=>f' z)<|cn (fun _ d=>f' z) ?_
    obtain⟨R,x,hr⟩:=hr
    refine cn (fun _ d=>P' aU' sz61 ((i.mono c).mono d) z z x) ?_
    have E:=ZeD (H' (X' i x) c)
    refine cn (fun _ d=>as' _ ag61 z z (fun j v A=>d _ _ _ (E j v A)))<|cn (fun _ d=>f' z)<|cn (fun _ d=>f' z) ?_
    obtain⟨Q,u,hr⟩:=hr
    refine cn (fun _ d=>P' aU' sz61 ((q.mono c).mono d) z z u) ?_
    have B:=ZeD (H' (X' q u) c)
    refine cn (fun _ d=>as' _ ag61 z z (fun j v A=>d _ _ _ (B j v A)))<|af' J<|yy (Y0.neqIS underlying61 sc3 sc9 aO' aI' sh61 eg61 (by decide) z z) z<|o'<|am'<|a'<|E' hr z (fun F hr=>?_) (fun F hr=>?_)
    .refine sr<|sx0 z z<|k'<|w'<|b'<|b'<|w'<|ap'<|b' (k0' hr z z)
    refine l'<|v'<|a'<|n'<|mv z z<|yy (I' z z) z<|sg z z<|o'<|C' ⟨i64.wrap (h+1),e⟩ hr c (f3 z z z) (wk ln)
   refine U'<|h'<|h'<|y'<|W' e ⟨c,hr⟩ fn (wk ln)
 rintro f ⟨I,hr⟩
 refine a'<|sr<|sx0 z z<|k' (k0' hr z z)
set_option maxHeartbeats 2000000 in
theorem cY'{r}(hr:(Zdk).Ret r):Ctr prog 7 #[] (fun G=>True) (fun G v=>v = .bool r):=by
 refine A' (args:=[]) (N:=122) func7 z z z fun w0 G0 de gs=>sr<|sg z z<|nr ?_
 obtain⟨bm,eG,hr⟩:=hr
 refine Q' z z (u' E18 z) (bY' eG) z (trivial) (fun f8 gD fX c2=>?_)
 obtain⟨bP,bN,rfl,eo⟩:=c2
 refine aD' (e:=57) (r:=e') (vs:=#[(0,.agg ((v57' bm.id bP bm.p bN)).toArray)]) (cs:=(v57' bm.id bP bm.p bN)++([])) ([bm]:List Zc) z z z z z (by decide) (fun _=>by kernel_rfl) ⟨(v57' bm.id bP bm.p bN),[],z,⟨[i' bm.id],[.slice bP bm.p.length bN],z,z,⟨_,z,eo⟩⟩,z⟩ (key:=999) z (by rw[de]; rfl) (fun p1 gI fI fp=>?_)
 obtain⟨gB,eW,hr⟩:=hr
 refine Q' z z (u' E17 z) (cX' eW) z (fp) (fun ge gJ fV da=>?_)
 obtain⟨eT,eO,fd,e4,eX,e2,rfl,aq,aH,ap⟩:=da
 refine O' 1 z z31 z fun b1=>x' 1 z aR' z z z z z (List.all_eq_true.1 z)<|nr ?_
 obtain⟨bl,eQ,hr⟩:=hr
 refine Q' z z (u' E18 z) (bY' eQ) z (trivial) (fun gh gA T c3=>?_)
 obtain⟨bM,bR,rfl,ee⟩:=c3
 obtain⟨aW,eD,hr⟩:=hr
 refine Q' z z (u' E18 z) (bY' eD) z (trivial) (fun f7 gE P c7=>?_)
 obtain⟨bi,bj,rfl,em⟩:=c7
 refine aD' (e:=57) (r:=e') (vs:=#[(0,.agg ((v57' bl.id bM bl.p bR)).toArray),(1,.agg ((v57' aW.id bi aW.p bj)).toArray)]) (cs:=(v57' bl.id bM bl.p bR)++((v57' aW.id bi aW.p bj)++([]))) ([bl,aW]:List Zc) z z z z z (by decide) (fun _=>by kernel_rfl) ⟨(v57' bl.id bM bl.p bR),(v57' aW.id bi aW.p bj)++([]),z,⟨[i' bl.id],[.slice bM bl.p.length bR],z,z,⟨_,z,(ee.mono P)⟩⟩,⟨(v57' aW.id bi aW.p bj),[],z,⟨[i' aW.id],[.slice bi aW.p.length bj],z,z,⟨_,z,em⟩⟩,z⟩⟩ (key:=999) z (by rw[de]; rfl) (fun p2 gF V fC=>?_)
 obtain⟨gz,eP,hr⟩:=hr
 refine Q' z z (u' E17 z) (cX' eP) z (fC) (fun f6 gH U c8=>?_)
 obtain⟨eM,eJ,fh,e8,eE,eV,rfl,bf,bt,bb⟩:=c8
 obtain⟨bo,eK,hr⟩:=hr
 refine Q' z z (u' E18 z) (bY' eK) z (trivial) (fun gb gC o c5=>?_)
 obtain⟨bO,bQ,rfl,ew⟩:=c5
 obtain⟨a5,e3,hr⟩:=hr
 refine Q' z z (u' E18 z) (bY' e3) z (trivial) (fun gj gv n c4=>?_)
 obtain⟨bn,bk,rfl,ea⟩:=c4
 refine aD' (e:=57) (r:=e') (vs:=#[(0,.agg ((v57' bo.id bO bo.p bQ)).toArray),(1,.agg ((v57' a5.id bn a5.p bk)).toArray)]) (cs:=(v57' bo.id bO bo.p bQ)++((v57' a5.id bn a5.p bk)++([]))) ([bo,a5]:List Zc) z z z z z (by decide) (fun _=>by kernel_rfl) ⟨(v57' bo.id bO bo.p bQ),(v57' a5.id bn a5.p bk)++([]),z,⟨[i' bo.id],[.slice bO bo.p.length bQ],z,z,⟨_,z,(ew.mono n)⟩⟩,⟨(v57' a5.id bn a5.p bk),[],z,⟨[i' a5.id],[.slice bn a5.p.length bk],z,z,⟨_,z,ea⟩⟩,z⟩⟩ (key:=999) z (by rw[de]; rfl) (fun p3 gm m fB=>?_)
 obtain⟨gu,eS,hr⟩:=hr
 refine Q' z z (u' E17 z) (cX' eS) z (fB) (fun gg gq k c6=>?_)
 obtain⟨e1,eR,e7,fe,eL,eH,rfl,be,bw,bd⟩:=c6
 refine O' 2 z z31 z fun b2=>O' 3 z z31 z fun b3=>x' 2 z aR' z z z z z (List.all_eq_true.1 z)<|x' 3 z aR' z z z z z (List.all_eq_true.1 z)<|nr<|yy (m' 1 ai' z z z) z<|yy (m' 2 ai' z z z) z<|yy (m' 3 ai' z z z) z ?_
 obtain⟨ez,eN,hr⟩:=hr
 have N1:=mx (mx (mx (mx (mx (mx (mx T P) V) U) o) n) m) k
 have N2:=mx (mx (mx o n) m) k
 refine Q' z z (u' E10 z) (bR' eN) z (⟨(aq.mono N1),(aH.mono N1),(ap.mono N1),(bf.mono N2),(bt.mono N2),(bb.mono N2),be,bw,bd⟩) (fun gf f9 l c9=>?_)
 obtain⟨ch,ci,cv,co,cg,ck,fz,ft,rfl,cm,cr,cl,dC⟩:=c9
 refine mv z z<|yy (L' z z) z<|yy (L' z z) z<|yy (L' z z) z<|O' 4 z z31 z fun b4=>x' 4 z aR' z z z z z (List.all_eq_true.1 z)<|sg z z<|sx0 z z<|c'<|ad' [ff,ff,ff,ff,ff,ff,ff,ff,tt,tt,ff] mix (by kernel_rfl) fun hb=>cn (fun _ g=>m' 1 ai' z z z) ?_
 obtain⟨dh,er,hr⟩:=hr
 refine aw' (post:=w31' dh) (fun _=>z) (fun _ _=>u' E17 z) (cX' er) z (fun W g=>(ah' e' _)) (fun v G1 G2 g h=>?_) ?_
 .obtain⟨bJ,bG,bY,b0,bB,bK,rfl,aM,aU,aN⟩:=h
  exact⟨_,_,_,_,_,_,z,aM.mono g,aU.mono g,aN.mono g⟩
 obtain⟨an,eq,hr⟩:=hr
 refine aw' (post:=fun G v=>∃ aa Z,v = .agg ((v57' an.id aa an.p Z)).toArray/\sl r' G aa Z an.p) (fun _=>z) (fun _ _=>u' E18 z) (bY' eq) z (fun W g=>trivial) (fun v G1 G2 g h=>?_) ?_
 .obtain⟨aa,Z,rfl,bg⟩:=h
  exact⟨_,_,z,bg.mono g⟩
 refine ch' (r:=e') (e:=57) ([an]:List Zc) (fun _=>z) z (by decide) (fun u W g hu=>?_) ?_
 .obtain⟨⟨aa,Z,dc,bg⟩,_,_⟩:=(show (fun G v=>∃ aa Z,v = .agg ((v57' an.id aa an.p Z)).toArray/\sl r' G aa Z an.p) W.m (u 41)/\True/\True from hu)
  simp only[undFr,dc]
  exact⟨#[(0,.agg ((v57' an.id aa an.p Z)).toArray)],(v57' an.id aa an.p Z)++([]),z,z,fun _=>by kernel_rfl,⟨(v57' an.id aa an.p Z),[],z,⟨[i' an.id],[.slice aa an.p.length Z],z,z,⟨_,z,bg⟩⟩,z⟩⟩
 obtain⟨dA,ev,hr⟩:=hr
 refine bz' (f:=17) (φ:=w31' dA) (fun _=>z) (fun v G1 G2 g h=>?_) (fun u W g hu=>?_) ?_
 .obtain⟨bF,bD,bW,bT,bE,bA,rfl,aL,aT,aQ⟩:=h
  exact⟨_,_,_,_,_,_,z,aL.mono g,aT.mono g,aQ.mono g⟩
 .obtain⟨⟨p4,dz,db,eA⟩,_,_,_⟩:=(show (fun G v=>∃ p4 dz,v = .slice p4 1 1/\SlRd e' G (.slice p4 1 1) dz [an]) W.m (u 42)/\True/\True/\True from hu)
  exact⟨_,_,_,fun _=>u' E17 z,cX' ev,(by simp only[db] <;> rfl),eA⟩
 obtain⟨j,el,hr⟩:=hr
 refine bz' (f:=10) (φ:=fun G v=>∃ s t L K y x aj ai,v = .tuple #[.agg ((v31' j.1 s t L K y x)).toArray,.slice aj j.2.1.length ai,i' j.2.2]/\sl Rp.str G s t j.1.vars/\sl e' G L K j.1.eqs/\sl e' G y x j.1.neqs/\sl ab' G aj ai j.2.1) (fun _=>z) (fun v G1 G2 g h=>?_) (fun u W g hu=>?_) ?_
 .obtain⟨s,t,L,K,y,x,aj,ai,rfl,ar,aG,au,a7⟩:=h
  exact⟨_,_,_,_,_,_,_,_,z,ar.mono g,aG.mono g,au.mono g,a7.mono g⟩
 .obtain⟨⟨bF,bD,bW,bT,bE,bA,dd,aL,aT,aQ⟩,_,_,⟨bJ,bG,bY,b0,bB,bK,dB,aM,aU,aN⟩,_⟩:=(show (w31' dA) W.m (u 43)/\True/\True/\(w31' dh) W.m (u 40)/\True from hu)
  exact⟨_,_,_,fun _=>u' E10 z,bR' el,(by simp only[dd,dB] <;> rfl),⟨((aq.mono (mx N1 l)).mono g),((aH.mono (mx N1 l)).mono g),((ap.mono (mx N1 l)).mono g),aM,aU,aN,aL,aT,aQ⟩⟩
 refine bC' (φ:=fun G v=>∃ p5 ax p6 aB p7 aA p8 aE,v = .tuple #[.agg ((v31' j.1 p5 ax p6 aB p7 aA)).toArray,.slice p8 j.2.1.length aE,i' j.2.2]/\sl Rp.str G p5 ax j.1.vars/\sl e' G p6 aB j.1.eqs/\sl e' G p7 aA j.1.neqs/\sl ab' G p8 aE j.2.1) (fun _=>z) (fun v G1 G2 g h=>?_) (fun u W g hu=>?_) ?_
 .obtain⟨p5,ax,p6,aB,p7,aA,p8,aE,rfl,cc,ce,cb,cd⟩:=h
  exact⟨_,_,_,_,_,_,_,_,z,cc.mono g,ce.mono g,cb.mono g,cd.mono g⟩
 .obtain⟨⟨s,t,L,K,y,x,aj,ai,dg,ar,aG,au,a7⟩,_,_,_,_,_⟩:=(show (fun G v=>∃ s t L K y x aj ai,v = .tuple #[.agg ((v31' j.1 s t L K y x)).toArray,.slice aj j.2.1.length ai,i' j.2.2]/\sl Rp.str G s t j.1.vars/\sl e' G L K j.1.eqs/\sl e' G y x j.1.neqs/\sl ab' G aj ai j.2.1) W.m (u 44)/\True/\True/\True/\True/\True from hu)
  simp only[undFr,dg]
  exact⟨_,f' z,s,t,L,K,y,x,aj,ai,z,ar,aG,au,a7⟩
 refine bC' (φ:=w31' j.1) (fun _=>z) (fun v G1 G2 g h=>?_) (fun u W g hu=>?_) ?_
 .obtain⟨p9,fv,fj,eC,fE,eI,rfl,ex,dp,dG⟩:=h
  exact⟨_,_,_,_,_,_,z,ex.mono g,dp.mono g,dG.mono g⟩
 .obtain⟨⟨p5,ax,p6,aB,p7,aA,p8,aE,aR,cc,ce,cb,cd⟩,_,_,_,_,_,_⟩:=(show (fun G v=>∃ p5 ax p6 aB p7 aA p8 aE,v = .tuple #[.agg ((v31' j.1 p5 ax p6 aB p7 aA)).toArray,.slice p8 j.2.1.length aE,i' j.2.2]/\sl Rp.str G p5 ax j.1.vars/\sl e' G p6 aB j.1.eqs/\sl e' G p7 aA j.1.neqs/\sl ab' G p8 aE j.2.1) W.m (u 38)/\True/\True/\True/\True/\True/\True from hu)
  simp only[undFr,aR]
  exact⟨_,L' z z,p5,ax,p6,aB,p7,aA,z,cc,ce,cb⟩
 refine Chain.floatEx (kk:=38) (φ:=wl' ab' j.2.1) (by kernel_rfl) (fun _=>z) (fun v G1 G2 g h=>?_) (fun u W g hu=>?_) ?_
 .obtain⟨eB,dM,rfl,cX⟩:=h
  exact⟨_,_,z,cX.mono g⟩
 .obtain⟨_,⟨p5,ax,p6,aB,p7,aA,p8,aE,aR,cc,ce,cb,cd⟩,_,_,_,_,_,_⟩:=(show True/\(fun G v=>∃ p5 ax p6 aB p7 aA p8 aE,v = .tuple #[.agg ((v31' j.1 p5 ax p6 aB p7 aA)).toArray,.slice p8 j.2.1.length aE,i' j.2.2]/\sl Rp.str G p5 ax j.1.vars/\sl e' G p6 aB j.1.eqs/\sl e' G p7 aA j.1.neqs/\sl ab' G p8 aE j.2.1) W.m (u 38)/\True/\True/\True/\True/\True/\True from hu)
  exact⟨_,_,aR,(by simp only[undFr,aR] <;> rfl),z,p8,aE,z,cd⟩
 refine bZ' (c:=i' j.2.2) (fun _=>z) (fun u W g hu=>?_) ?_
 .obtain⟨_,_,⟨p5,ax,p6,aB,p7,aA,p8,aE,aR,cc,ce,cb,cd⟩,_,_,_,_,_,_⟩:=(show True/\True/\(fun G v=>∃ p5 ax p6 aB p7 aA p8 aE,v = .tuple #[.agg ((v31' j.1 p5 ax p6 aB p7 aA)).toArray,.slice p8 j.2.1.length aE,i' j.2.2]/\sl Rp.str G p5 ax j.1.vars/\sl e' G p6 aB j.1.eqs/\sl e' G p7 aA j.1.neqs/\sl ab' G p8 aE j.2.1) W.m (u 38)/\True/\True/\True/\True/\True/\True from hu)
  simp only[undFr,aR]
  exact L' z z
 refine bJ' (fun _=>z) z31<|Chain.tailX9 (fun gw fT fJ fM fZ fN fH fL f0 X1 p dt cV cH cD cY cK cO cG cM=>?_)
 obtain⟨eB,dM,rfl,cX⟩:=cV
 obtain⟨p9,fv,fj,eC,fE,eI,rfl,ex,dp,dG⟩:=cH
 obtain⟨p5,ax,p6,aB,p7,aA,p8,aE,rfl,cc,ce,cb,cd⟩:=cD
 obtain⟨s,t,L,K,y,x,aj,ai,rfl,ar,aG,au,a7⟩:=cY
 obtain⟨bF,bD,bW,bT,bE,bA,rfl,aL,aT,aQ⟩:=cK
 obtain⟨p4,dz,rfl,eA⟩:=cO
 obtain⟨aa,Z,rfl,bg⟩:=cG
 obtain⟨bJ,bG,bY,b0,bB,bK,rfl,aM,aU,aN⟩:=cM
 refine ea' dt (fun b5 fA gK=>?_)
 subst fA
 refine cJ' (show WL _ _ _ _ _ _ (St w0 G0 X1.m _) from ?_)
 refine x' 7 z aR' z z z z z (List.all_eq_true.1 z)<|sg z z<|sg z z<|o'<|am'<|a'<|c'<|ad' [ff,ff,ff,ff,ff,ff,ff,ff,tt,tt,ff] mix (by kernel_rfl) fun hb=>cn (fun _ g=>m' 1 ai' z z z) ?_
 obtain⟨am,eu,hr⟩:=hr
 refine aw' (post:=fun G v=>∃ ab ac,v = .agg ((v57' am.id ab am.p ac)).toArray/\sl r' G ab ac am.p) (fun _=>z) (fun _ _=>u' E18 z) (bY' eu) z (fun W g=>trivial) (fun v G1 G2 g h=>?_) ?_
 .obtain⟨ab,ac,rfl,bp⟩:=h
  exact⟨_,_,z,bp.mono g⟩
 refine ch' (r:=e') (e:=57) ([am]:List Zc) (fun _=>z) z (by decide) (fun u W g hu=>?_) ?_
 .obtain⟨⟨ab,ac,ds,bp⟩,_⟩:=(show (fun G v=>∃ ab ac,v = .agg ((v57' am.id ab am.p ac)).toArray/\sl r' G ab ac am.p) W.m (u 50)/\True from hu)
  simp only[undFr,ds]
  exact⟨#[(0,.agg ((v57' am.id ab am.p ac)).toArray)],(v57' am.id ab am.p ac)++([]),z,z,fun _=>by kernel_rfl,⟨(v57' am.id ab am.p ac),[],z,⟨[i' am.id],[.slice ab am.p.length ac],z,z,⟨_,z,bp⟩⟩,z⟩⟩
 obtain⟨du,ef,hr⟩:=hr
 refine bz' (f:=17) (φ:=w31' du) (fun _=>z) (fun v G1 G2 g h=>?_) (fun u W g hu=>?_) ?_
 .obtain⟨bL,bI,bX,bZ,bH,bC,rfl,aO,aV,aP⟩:=h
  exact⟨_,_,_,_,_,_,z,aO.mono g,aV.mono g,aP.mono g⟩
 .obtain⟨⟨c1,cA,df,di⟩,_,_⟩:=(show (fun G v=>∃ c1 cA,v = .slice c1 1 1/\SlRd e' G (.slice c1 1 1) cA [am]) W.m (u 51)/\True/\True from hu)
  exact⟨_,_,_,fun _=>u' E17 z,cX' ef,(by simp only[df] <;> rfl),di⟩
 refine cu (fun _ _ g=>m' 2 ai' z z z) ?_
 obtain⟨i,ec,hr⟩:=hr
 refine bz' (f:=10) (φ:=fun G v=>∃ C A O J D B ak al,v = .tuple #[.agg ((v31' i.1 C A O J D B)).toArray,.slice ak i.2.1.length al,i' i.2.2]/\sl Rp.str G C A i.1.vars/\sl e' G O J i.1.eqs/\sl e' G D B i.1.neqs/\sl ab' G ak al i.2.1) (fun _=>z) (fun v G1 G2 g h=>?_) (fun u W g hu=>?_) ?_
 .obtain⟨C,A,O,J,D,B,ak,al,rfl,aw,aF,av,a6⟩:=h
  exact⟨_,_,_,_,_,_,_,_,z,aw.mono g,aF.mono g,av.mono g,a6.mono g⟩
 .obtain⟨⟨bL,bI,bX,bZ,bH,bC,dk,aO,aV,aP⟩,_,_,_⟩:=(show (w31' du) W.m (u 52)/\True/\True/\True from hu)
  have N3:=mx (mx N1 l) p
  have N4:=mx (mx N2 l) p
  exact⟨_,_,_,fun _=>u' E10 z,bR' ec,(by simp only[dk] <;> rfl),⟨((aq.mono N3).mono g),((aH.mono N3).mono g),((ap.mono N3).mono g),aO,aV,aP,((bf.mono N4).mono g),((bt.mono N4).mono g),((bb.mono N4).mono g)⟩⟩
 refine bC' (φ:=fun G v=>∃ ay ag az ae aD af aC ah,v = .tuple #[.agg ((v31' i.1 ay ag az ae aD af)).toArray,.slice aC i.2.1.length ah,i' i.2.2]/\sl Rp.str G ay ag i.1.vars/\sl e' G az ae i.1.eqs/\sl e' G aD af i.1.neqs/\sl ab' G aC ah i.2.1) (fun _=>z) (fun v G1 G2 g h=>?_) (fun u W g hu=>?_) ?_
 .obtain⟨ay,ag,az,ae,aD,af,aC,ah,rfl,bu,bz,bx,bv⟩:=h
  exact⟨_,_,_,_,_,_,_,_,z,bu.mono g,bz.mono g,bx.mono g,bv.mono g⟩
 .obtain⟨⟨C,A,O,J,D,B,ak,al,dE,aw,aF,av,a6⟩,_,_,_,_⟩:=(show (fun G v=>∃ C A O J D B ak al,v = .tuple #[.agg ((v31' i.1 C A O J D B)).toArray,.slice ak i.2.1.length al,i' i.2.2]/\sl Rp.str G C A i.1.vars/\sl e' G O J i.1.eqs/\sl e' G D B i.1.neqs/\sl ab' G ak al i.2.1) W.m (u 54)/\True/\True/\True/\True from hu)
  simp only[undFr,dE]
  exact⟨_,f' z,C,A,O,J,D,B,ak,al,z,aw,aF,av,a6⟩
 refine bC' (φ:=w31' i.1) (fun _=>z) (fun v G1 G2 g h=>?_) (fun u W g hu=>?_) ?_
 .obtain⟨fF,eZ,fu,eF,fq,eU,rfl,dy,dH,dm⟩:=h
  exact⟨_,_,_,_,_,_,z,dy.mono g,dH.mono g,dm.mono g⟩
 .obtain⟨⟨ay,ag,az,ae,aD,af,aC,ah,aS,bu,bz,bx,bv⟩,_,_,_,_,_⟩:=(show (fun G v=>∃ ay ag az ae aD af aC ah,v = .tuple #[.agg ((v31' i.1 ay ag az ae aD af)).toArray,.slice aC i.2.1.length ah,i' i.2.2]/\sl Rp.str G ay ag i.1.vars/\sl e' G az ae i.1.eqs/\sl e' G aD af i.1.neqs/\sl ab' G aC ah i.2.1) W.m (u 48)/\True/\True/\True/\True/\True from hu)
  simp only[undFr,aS]
  exact⟨_,L' z z,ay,ag,az,ae,aD,af,z,bu,bz,bx⟩
 refine Chain.floatEx (kk:=48) (φ:=wl' ab' i.2.1) (by kernel_rfl) (fun _=>z) (fun v G1 G2 g h=>?_) (fun u W g hu=>?_) ?_
 .obtain⟨ey,dF,rfl,cL⟩:=h
  exact⟨_,_,z,cL.mono g⟩
 .obtain⟨_,⟨ay,ag,az,ae,aD,af,aC,ah,aS,bu,bz,bx,bv⟩,_,_,_,_,_⟩:=(show True/\(fun G v=>∃ ay ag az ae aD af aC ah,v = .tuple #[.agg ((v31' i.1 ay ag az ae aD af)).toArray,.slice aC i.2.1.length ah,i' i.2.2]/\sl Rp.str G ay ag i.1.vars/\sl e' G az ae i.1.eqs/\sl e' G aD af i.1.neqs/\sl ab' G aC ah i.2.1) W.m (u 48)/\True/\True/\True/\True/\True from hu)
  exact⟨_,_,aS,(by simp only[undFr,aS] <;> rfl),z,aC,ah,z,bv⟩
 refine bZ' (c:=i' i.2.2) (fun _=>z) (fun u W g hu=>?_) ?_
 .obtain⟨_,_,⟨ay,ag,az,ae,aD,af,aC,ah,aS,bu,bz,bx,bv⟩,_,_,_,_,_⟩:=(show True/\True/\(fun G v=>∃ ay ag az ae aD af aC ah,v = .tuple #[.agg ((v31' i.1 ay ag az ae aD af)).toArray,.slice aC i.2.1.length ah,i' i.2.2]/\sl Rp.str G ay ag i.1.vars/\sl e' G az ae i.1.eqs/\sl e' G aD af i.1.neqs/\sl ab' G aC ah i.2.1) W.m (u 48)/\True/\True/\True/\True/\True from hu)
  simp only[undFr,aS]
  exact L' z z
 refine bJ' (fun _=>z) z31<|Chain.tailX8 (fun gL f3 f2 fW f4 fK fS fY X2 S dL cF cy cP cU cC cR cN=>?_)
 obtain⟨ey,dF,rfl,cL⟩:=cF
 obtain⟨fF,eZ,fu,eF,fq,eU,rfl,dy,dH,dm⟩:=cy
 obtain⟨ay,ag,az,ae,aD,af,aC,ah,rfl,bu,bz,bx,bv⟩:=cP
 obtain⟨C,A,O,J,D,B,ak,al,rfl,aw,aF,av,a6⟩:=cU
 obtain⟨bL,bI,bX,bZ,bH,bC,rfl,aO,aV,aP⟩:=cC
 obtain⟨c1,cA,rfl,di⟩:=cR
 obtain⟨ab,ac,rfl,bp⟩:=cN
 refine ea' dL (fun b6 fy gG=>?_)
 subst fy
 refine cJ' (show WL _ _ _ _ _ _ (St w0 G0 X2.m _) from ?_)
 refine x' 10 z aR' z z z z z (List.all_eq_true.1 z)<|sg z z<|sg z z<|o'<|am'<|a'<|sr<|yy (m' 1 ai' z z z) z<|yy (at' (vs:=#[]) (v:=.agg ([.slice none 0 0,.slice none 0 0,.slice none 0 0,i' 0]).toArray) z z (fun _=>by kernel_rfl)) z<|yy (m' 2 ai' z z z) z ?_
 obtain⟨gl,eb,hr⟩:=hr
 have N5:=mx (mx (mx N1 l) p) S
 have N6:=mx (mx (mx N2 l) p) S
 refine Q' z z (u' E10 z) (bR' eb) z (⟨(aq.mono N5),(aH.mono N5),(ap.mono N5),(ah' Rp.str _),(ah' e' _),(ah' e' _),(bf.mono N6),(bt.mono N6),(bb.mono N6)⟩) (fun fU gn q cE=>?_)
 obtain⟨dW,dO,ek,ed,dS,dU,fg,e9,rfl,dT,es,dP,e6⟩:=cE
 refine mv z z<|yy (L' z z) z<|yy (L' z z) z<|yy (L' z z) z<|O' 13 z z31 z fun b7=>x' 13 z aR' z z z z z (List.all_eq_true.1 z)<|sg z z<|sg z z<|nr<|yy (m' 1 ai' z z z) z<|yy (m' 1 ai' z z z) z<|yy (m' 3 ai' z z z) z ?_
 obtain⟨gk,eg,hr⟩:=hr
 have N7:=mx (mx (mx (mx N1 l) p) S) q
 have N8:=mx (mx (mx l p) S) q
 refine Q' z z (u' E10 z) (bR' eg) z (⟨(aq.mono N7),(aH.mono N7),(ap.mono N7),(aq.mono N7),(aH.mono N7),(ap.mono N7),(be.mono N8),(bw.mono N8),(bd.mono N8)⟩) (fun fQ dn ao cJ=>?_)
 obtain⟨dR,dQ,ep,d9,dV,dN,e5,fb,rfl,b9,cf,ca,fa⟩:=cJ
 refine mv z z<|yy (L' z z) z<|yy (L' z z) z<|yy (L' z z) z<|O' 16 z z31 z fun b8=>x' 16 z aR' z z z z z (List.all_eq_true.1 z)<|sg z z<|sx0 z z<|aP' (fun (gx:Mem)=>match gx with|cw=>[(4,pt0 b4),(8,.slice eB j.2.1.length dM),(11,.slice ey i.2.1.length dF)]) (fun (gx:Mem)=>match gx with|cw=>Mem.le dn cw/\(ZdR ez j i).Ret r) (fun (gx:Mem)=>match gx with|cw=>St w0 G0 cw [(4,bk0 b4 (v31' ez.1 ch ci cv co cg ck) 31)]) ?_ ?_
 .refine sr<|mv z z<|ao' hr z (bj' z z) z (fun fG hr=>?_) (fun fG hr=>?_)
  .refine mv z z<|sn3 z<|yy (t' z z) z<|mv z z<|sn2 z<|yy (t' z z) z<|mv z z<|sn2 z<|yy (t' z z) z<|mv z z<|sn2 z<|yy (t' z z) z<|mv z z<|sn2 z<|yy (t' z z) z<|mv z z<|sn4 z<|yy (t' z z) z<|nx<|av' z<|sr<|sx0 z z<|k'<|b' (k0' hr z z)
  refine mv z z<|gy z z (f' z) z<|gy z z (K' aU' (dC.mono (mx (mx (mx p S) q) ao)) z) z<|ao' hr (D' z z) (bj' z z) z (fun fw hr=>?_) (fun fw hr=>?_)
  .refine yy (p' z z) z<|mv z z<|sn2 z<|yy (t' z z) z<|mv z z<|sn2 z<|yy (t' z z) z<|mv z z<|sn2 z<|yy (t' z z) z<|mv z z<|sn2 z<|yy (t' z z) z<|mv z z<|sn4 z<|yy (t' z z) z<|nx<|av' z<|sr<|sx0 z z<|k'<|b' (k0' hr z z)
  refine yy (p' z z) z<|mv z z<|gy z z (f' z) z<|ao' hr (D' z z) (bj' z z) z (fun fk hr=>?_) (fun fk hr=>?_)
  .refine yy (p' z z) z<|mv z z<|sn2 z<|yy (t' z z) z<|mv z z<|sn2 z<|yy (t' z z) z<|mv z z<|sn2 z<|yy (t' z z) z<|mv z z<|sn4 z<|yy (t' z z) z<|nx<|av' z<|sr<|sx0 z z<|k'<|b' (k0' hr z z)
  refine yy (p' z z) z<|mv z z<|gy z z (f' z) z<|ao' hr (D' z z) (bj' z z) z (fun fx hr=>?_) (fun fx hr=>?_)
  .refine yy (p' z z) z<|mv z z<|sn2 z<|yy (t' z z) z<|mv z z<|sn2 z<|yy (t' z z) z<|mv z z<|sn4 z<|yy (t' z z) z<|nx<|av' z<|sr<|sx0 z z<|k'<|b' (k0' hr z z)
  refine yy (p' z z) z<|mv z z<|gy z z (f' z) z<|ao' hr (D' z z) (bj' z z) z (fun fl hr=>?_) (fun fl hr=>?_)
  .refine yy (p' z z) z<|mv z z<|sn2 z<|yy (t' z z) z<|mv z z<|sn4 z<|yy (t' z z) z<|nx<|av' z<|sr<|sx0 z z<|k'<|b' (k0' hr z z)
  refine yy (p' z z) z<|mv z z<|gy z z (f' z) z<|ao' hr (D' z z) (bj' z z) z (fun fs hr=>?_) (fun fs hr=>?_)
  .refine yy (p' z z) z<|mv z z<|sn4 z<|yy (t' z z) z<|nx<|av' z<|sr<|sx0 z z<|k'<|b' (k0' hr z z)
  refine yy (p' z z) z<|mv z z<|gy z z (m' 16 ai' z z z) z<|gy z z (m' 3 ai' z z z) z ?_
  obtain⟨ga,ej,hr⟩:=hr
  refine B' (D' z z) z (u' E11 z) (cD' ej) z (⟨b9,cf,ca,(be.mono (mx N8 ao)),(bw.mono (mx N8 ao)),(bd.mono (mx N8 ao))⟩)<|gy z z (an' z) z<|yy (p' z z) z<|nx<|ay' hr z (fun fo hr=>?_) (fun fo hr=>?_)
  .refine sr<|sx0 z z<|k'<|b' (k0' hr z z)
  refine l'<|al' dn ⟨mr,hr⟩ (f3 z z z) (w1 z)
 rintro cw ⟨bs,hr⟩
 refine c'<|ad' [ff,ff,ff,ff,ff,ff,ff,ff,ff,ff,ff,ff,ff,ff,ff,ff,ff] mix (by kernel_rfl) fun hb=>cn (fun _ g=>f' z)<|cn (fun _ g=>at' (vs:=#[(0,i' 1)]) (v:=.agg ([i' 1,.string ByteArray.empty]).toArray) z z (fun _=>by kernel_rfl))<|ch' (r:=ab') (e:=61) ([(Zk.mk 1 ByteArray.empty)]:List Zk) (fun _=>z) z (by decide) (fun u W g hu=>?_) ?_
 .exact⟨#[(0,.agg ([i' 1,.string ByteArray.empty]).toArray)],[i' 1,.string ByteArray.empty]++([]),z,z,fun _=>by kernel_rfl,⟨[i' 1,.string ByteArray.empty],[],z,⟨[i' 1],[.string ByteArray.empty],z,z,z⟩,z⟩⟩
 obtain⟨dD,eh,hr⟩:=hr
 refine Chain.callD (f:=19) (c:=.bool dD) (fun _=>z) (fun u W g hu=>?_) ?_
 .obtain⟨⟨aI,aJ,dK,cj⟩,_⟩:=(show (fun G v=>∃ aI aJ,v = .slice aI 1 1/\SlRd ab' G (.slice aI 1 1) aJ [(Zk.mk 1 ByteArray.empty)]) W.m (u 105)/\True from hu)
  exact⟨_,_,_,fun _=>u' E19 z,dT' eh,(by simp only[dK] <;> rfl),⟨((cX.mono (mx (mx (mx S q) ao) bs)).mono g),cj⟩⟩
 cases dD
 .refine cu (fun _ _ g=>f' z)<|bb' (fun _=>(bp' z z))<|bb' (fun _=>(bp' z z))<|bb' (fun _=>(bp' z z))<|bb' (fun _=>(bp' z z))<|cu (fun _ _ g=>p' z z)<|cu (fun _ _ g=>f' z)<|bb' (fun _=>(bp' z z))<|bb' (fun _=>(bp' z z))<|bb' (fun _=>(bp' z z))<|bb' (fun _=>(bp' z z))<|bb' (fun _=>(bp' z z))<|bb' (fun _=>(bp' z z))<|bn' (d:=105) (post:=fun G v=>∃ aI aJ,v = .slice aI 1 1/\SlRd ab' G (.slice aI 1 1) aJ [(Zk.mk 1 ByteArray.empty)]) (fun c0 go fr aK=>?_)
  obtain⟨aI,aJ,rfl,cj⟩:=aK
  refine sk z z z<|yy (p' z z) z<|sg z z<|o'<|am'<|a'<|k' (k0' hr z z)
 refine cu (fun _ _ g=>f' z)<|cf' (fun _=>(D' z z)) (fun _ _ g=>f' z)<|cf' (fun _=>(D' z z)) (fun _ _ g=>at' (vs:=#[(1,.string Zp)]) (v:=.agg ([i' 0,.string Zp]).toArray) z z (fun _=>by kernel_rfl))<|ch' (r:=ab') (e:=61) ([(Zk.mk 0 Zp)]:List Zk) (fun _=>(D' z z)) z (by decide) (fun u W g hu=>?_) ?_
 .exact⟨#[(0,.agg ([i' 0,.string Zp]).toArray)],[i' 0,.string Zp]++([]),z,z,fun _=>by kernel_rfl,⟨[i' 0,.string Zp],[],z,⟨[i' 0],[.string Zp],z,z,z⟩,z⟩⟩
 obtain⟨dr,et,hr⟩:=hr
 refine Chain.callD (f:=19) (c:=.bool dr) (fun _=>(D' z z)) (fun u W g hu=>?_) ?_
 .obtain⟨⟨aZ,a4,dw,cI⟩,_,_⟩:=(show (fun G v=>∃ aZ a4,v = .slice aZ 1 1/\SlRd ab' G (.slice aZ 1 1) a4 [(Zk.mk 0 Zp)]) W.m (u 110)/\True/\True from hu)
  exact⟨_,_,_,fun _=>u' E19 z,dT' et,(by simp only[dw] <;> rfl),⟨((cL.mono (mx (mx q ao) bs)).mono g),cI⟩⟩
 cases dr
 .refine cu (fun _ _ g=>t' z z)<|cu (fun _ _ g=>f' z)<|bb' (fun _=>(bp' z z))<|bb' (fun _=>(bp' z z))<|bb' (fun _=>(bp' z z))<|bb' (fun _=>(bp' z z))<|bb' (fun _=>(bp' z z))<|bb' (fun _=>(bp' z z))<|dL' (d:=110) (post:=fun G v=>∃ aZ a4,v = .slice aZ 1 1/\SlRd ab' G (.slice aZ 1 1) a4 [(Zk.mk 0 Zp)]) (d':=105) (post':=fun G v=>∃ aI aJ,v = .slice aI 1 1/\SlRd ab' G (.slice aI 1 1) aJ [(Zk.mk 1 ByteArray.empty)]) (fun dZ c0 gt fD bc aK=>?_)
  obtain⟨aZ,a4,rfl,cI⟩:=bc
  obtain⟨aI,aJ,rfl,cj⟩:=aK
  refine sk z z z<|yy (p' z z) z<|sg z z<|o'<|am'<|a'<|k' (k0' hr z z)
 refine cu (fun _ _ g=>t' z z)<|cu (fun _ _ g=>f' z)<|cf' (fun _=>(D' z z)) (fun _ _ g=>m' 4 ai' z z z) ?_
 obtain⟨Y,dX,hr⟩:=hr
 refine aw' (post:=fun G v=>∃ Q R,v = .agg ((v57' Y.id Q Y.p R)).toArray/\sl r' G Q R Y.p) (fun _=>(D' z z)) (fun _ _=>u' E18 z) (bY' dX) z (fun W g=>trivial) (fun v G1 G2 g h=>?_) ?_
 .obtain⟨Q,R,rfl,bq⟩:=h
  exact⟨_,_,z,bq.mono g⟩
 obtain⟨X,ei,hr⟩:=hr
 refine aw' (post:=fun G v=>∃ I H,v = .agg ((v57' X.id I X.p H)).toArray/\sl r' G I H X.p) (fun _=>(D' z z)) (fun _ _=>u' E18 z) (bY' ei) z (fun W g=>trivial) (fun v G1 G2 g h=>?_) ?_
 .obtain⟨I,H,rfl,br⟩:=h
  exact⟨_,_,z,br.mono g⟩
 obtain⟨M,en,hr⟩:=hr
 refine aw' (post:=fun G v=>∃ F E,v = .agg ((v57' M.id F M.p E)).toArray/\sl r' G F E M.p) (fun _=>(D' z z)) (fun _ _=>u' E18 z) (bY' en) z (fun W g=>trivial) (fun v G1 G2 g h=>?_) ?_
 .obtain⟨F,E,rfl,bh⟩:=h
  exact⟨_,_,z,bh.mono g⟩
 refine ch' (r:=e') (e:=57) ([Y,X,M]:List Zc) (fun _=>(D' z z)) z (by decide) (fun u W g hu=>?_) ?_
 .obtain⟨⟨F,E,dI,bh⟩,⟨I,H,dJ,br⟩,⟨Q,R,dl,bq⟩,_,_,_⟩:=(show (fun G v=>∃ F E,v = .agg ((v57' M.id F M.p E)).toArray/\sl r' G F E M.p) W.m (u 117)/\(fun G v=>∃ I H,v = .agg ((v57' X.id I X.p H)).toArray/\sl r' G I H X.p) W.m (u 116)/\(fun G v=>∃ Q R,v = .agg ((v57' Y.id Q Y.p R)).toArray/\sl r' G Q R Y.p) W.m (u 115)/\True/\True/\True from hu)
  simp only[undFr,dI,dJ,dl]
  exact⟨#[(0,.agg ((v57' Y.id Q Y.p R)).toArray),(1,.agg ((v57' X.id I X.p H)).toArray),(2,.agg ((v57' M.id F M.p E)).toArray)],(v57' Y.id Q Y.p R)++((v57' X.id I X.p H)++((v57' M.id F M.p E)++([]))),z,z,fun _=>by kernel_rfl,⟨(v57' Y.id Q Y.p R),(v57' X.id I X.p H)++((v57' M.id F M.p E)++([])),z,⟨[i' Y.id],[.slice Q Y.p.length R],z,z,⟨_,z,bq⟩⟩,⟨(v57' X.id I X.p H),(v57' M.id F M.p E)++([]),z,⟨[i' X.id],[.slice I X.p.length H],z,z,⟨_,z,br⟩⟩,⟨(v57' M.id F M.p E),[],z,⟨[i' M.id],[.slice F M.p.length E],z,z,⟨_,z,bh⟩⟩,z⟩⟩⟩⟩
 obtain⟨dq,dY,hr⟩:=hr
 refine bz' (f:=17) (φ:=w31' dq) (fun _=>(D' z z)) (fun v G1 G2 g h=>?_) (fun u W g hu=>?_) ?_
 .obtain⟨ct,cp,cW,cS,cq,cx,rfl,a1,ba,aY⟩:=h
  exact⟨_,_,_,_,_,_,z,a1.mono g,ba.mono g,aY.mono g⟩
 .obtain⟨⟨bV,bS,dj,dv⟩,_,_,_,_,_,_⟩:=(show (fun G v=>∃ bV bS,v = .slice bV 3 3/\SlRd e' G (.slice bV 3 3) bS [Y,X,M]) W.m (u 118)/\True/\True/\True/\True/\True/\True from hu)
  exact⟨_,_,_,fun _=>u' E17 z,cX' dY,(by simp only[dj] <;> rfl),dv⟩
 refine Chain.tailU7 (d0:=119) (post0:=w31' dq) (d1:=118) (post1:=fun G v=>∃ bV bS,v = .slice bV 3 3/\SlRd e' G (.slice bV 3 3) bS [Y,X,M]) (d2:=117) (post2:=fun G v=>∃ F E,v = .agg ((v57' M.id F M.p E)).toArray/\sl r' G F E M.p) (d3:=116) (post3:=fun G v=>∃ I H,v = .agg ((v57' X.id I X.p H)).toArray/\sl r' G I H X.p) (d4:=115) (post4:=fun G v=>∃ Q R,v = .agg ((v57' Y.id Q Y.p R)).toArray/\sl r' G Q R Y.p) (d5:=110) (post5:=fun G v=>∃ aZ a4,v = .slice aZ 1 1/\SlRd ab' G (.slice aZ 1 1) a4 [(Zk.mk 0 Zp)]) (d6:=105) (post6:=fun G v=>∃ aI aJ,v = .slice aI 1 1/\SlRd ab' G (.slice aI 1 1) aJ [(Zk.mk 1 ByteArray.empty)]) (fun fP f5 fO f1 fR dZ c0 gr bU cT cQ cB cz cZ bc aK=>?_)
 obtain⟨ct,cp,cW,cS,cq,cx,rfl,a1,ba,aY⟩:=cT
 obtain⟨bV,bS,rfl,dv⟩:=cQ
 obtain⟨F,E,rfl,bh⟩:=cB
 obtain⟨I,H,rfl,br⟩:=cz
 obtain⟨Q,R,rfl,bq⟩:=cZ
 obtain⟨aZ,a4,rfl,cI⟩:=bc
 obtain⟨aI,aJ,rfl,cj⟩:=aK
 obtain⟨gd,d8,hr⟩:=hr
 have N9:=mx (mx (mx (mx (mx p S) q) ao) bs) bU
 refine B' (D' z z) z (u' E11 z) (cD' d8) z (⟨(cm.mono N9),(cr.mono N9),(cl.mono N9),a1,ba,aY⟩)<|yy (t' z z) z<|sg z z<|o'<|am'<|a'<|k' (k0' hr z z)
theorem gh'{r}(hr:(Zkn).Ret r):Ctr prog 84 #[] (fun G=>True) (wl' Rp.str r):=by
 refine A' (args:=[]) (N:=2) func84 z z z fun j k c g=>sr<|sg z z<|nr<|aD' (e:=9) (r:=Rp.str) (vs:=#[(0,.string Zp),(1,.string ZY),(2,.string Zaf),(3,.string Z6),(4,.string ZZ),(5,.string ZS)]) (cs:=[.string Zp]++([.string ZY]++([.string Zaf]++([.string Z6]++([.string ZZ]++([.string ZS]++([]))))))) ([Zp,ZY,Zaf,Z6,ZZ,ZS]:List ByteArray) z z z z z (by decide) (fun _=>by kernel_rfl) ⟨[.string Zp],[.string ZY]++([.string Zaf]++([.string Z6]++([.string ZZ]++([.string ZS]++([]))))),z,z,⟨[.string ZY],[.string Zaf]++([.string Z6]++([.string ZZ]++([.string ZS]++([])))),z,z,⟨[.string Zaf],[.string Z6]++([.string ZZ]++([.string ZS]++([]))),z,z,⟨[.string Z6],[.string ZZ]++([.string ZS]++([])),z,z,⟨[.string ZZ],[.string ZS]++([]),z,z,⟨[.string ZS],[],z,z,z⟩⟩⟩⟩⟩⟩ (key:=999) z (by rw[c]; rfl) fun i h f d=>sx0 z z<|k' ?_
 obtain rfl:_=r:=hr
 exact j' z z ⟨_,_,z,d⟩
theorem gy'{c r}(hr:(ZhA c).Ret r):Ctr prog 135 #[.int .i8 c] (fun G=>True) (fun G v=>v=i' r):=by
 refine A' (args:=[_]) (N:=10) func135 z z z fun g h f e=>sr<|sx0 z z<|c'<|sr<|mv z z<|yy (V' z z) z<|nx<|E' hr z (fun d hr=>?_) (fun d hr=>?_)
 .refine sr<|mv z z<|yy (az' dl' aO' z) z<|yy (Y0.neg z) z<|sx0 z z<|k'<|b' (k0' hr z z)
 refine l'<|a'<|sr<|mv z z<|yy (az' dl' aO' z) z<|sx0 z z<|k' (k0' hr z z)
theorem gi'{k n f c d e m l r}(hr:(ZgK k n).Ret r):Ctr prog 136 #[.agg ((v101' k f c d e)).toArray,.slice m n.length l] (fun G=>sl (Rp.int .u32) G f c k.num.mag/\sl (Rp.int .u32) G d e k.den.mag/\sl r' G m l n) (wl' r' r):=by
 refine A' (args:=[_,_]) (N:=15) func136 z z z (fun E D B o=>?_)
 obtain⟨h,g,t⟩:=o
 refine sr<|Y' 2 z z z fun C=>sg z z<|nr<|yy (m' 2 bg' z z z) z<|yy (at' (vs:=#[]) (v:=.agg (vecG (Value.int .i64) 8 (fun _=>0)).toArray) z z (fun _=>by kernel_rfl)) z<|mv z z ?_
 obtain⟨A,p,hr⟩:=hr
 refine Q' z z (u' E41 z) (ey' p) z (⟨h,g,t⟩) (fun x y u i=>?_)
 obtain⟨s,q,rfl,j⟩:=i
 refine mv z z<|yy (L' z z) z<|yy (L' z z) z<|sg z z<|sg z z<|nr<|mv z z<|sx0 z z<|k' ?_
 obtain rfl:_=r:=hr
 exact j' z z ⟨_,_,z,j⟩
theorem eT'{q o r}(hr:(Zfq q o).Ret r):Ctr prog 163 #[.agg (vecG (Value.int .i64) 8 q).toArray,.agg (vecG (Value.int .i64) 8 o).toArray] (fun G=>True) (fun G v=>v=i' r):=by
 refine A' (args:=[_,_]) (N:=24) func163 z z z fun u i I D=>sr<|Y' 2 z z z fun x=>Y' 3 z z z fun s=>sx0 z z<|c'<|sr<|sx0 z z<|R' (fun (f:Mem)=>match f with|e=>[]) (fun (f:Mem)=>match f with|e=>Mem.le i e/\(ZfJ).Ret r) (fun (f:Mem)=>match f with|e=>St u i e []) ?_ ?_
 .refine s' ?_
  let j:(Int⊕Unit)->Prop:=fun E=>((fun C=>match C with | .inl rv1=>Cq.ret rv1 | .inr ()=>ZfJ:(Int⊕Unit)->Cq Int) E).wp (fun a=>a=r)
  replace hr:(Cq.loop _ _).wp j:=hr
  refine T' (Φ:=j) (fun (⟨g,d⟩:Int×Mem)=>(g:Int)) (fun ⟨g,d⟩=>[(2,pt0 x),(3,pt0 s),(5,i' g)]) (fun ⟨g,d⟩=>Mem.le i d) (fun ⟨g,d⟩=>St u i d [(2,bk0 x (vecG (Value.int .i64) 8 q) 110),(3,bk0 s (vecG (Value.int .i64) 8 o) 110)]) ⟨0,i⟩ hr (f3 z z z) mr (w2 z z) ?_
  .intro H f F hr
   obtain⟨g,d⟩:=f
   have h:=F
   refine c'<|sr<|mv z z<|yy (V' z z) z<|nx<|E' hr z (fun A hr=>?_) (fun A hr=>?_)
   .refine l'<|a'<|c'<|s'<|c'<|c'<|ad' [ff,ff,ff,ff,ff,ff] mix (by kernel_rfl) fun p=>cn (fun _ c=>f' z) ?_
    obtain⟨k,hr⟩:=hr
    refine cn (fun _ c=>aQ' ag' sz3 z z k)<|cn (fun _ c=>g' 2 sc3 z z (bo' _ _ _ k))<|cn (fun _ c=>f' z) ?_
    obtain⟨l,hr⟩:=hr
    refine cn (fun _ c=>aQ' ag' sz3 z z l)<|cn (fun _ c=>g' 3 sc3 z z (bo' _ _ _ l))<|af' p<|yy (V' z z) z<|o'<|am'<|a'<|E' hr z (fun t hr=>?_) (fun t hr=>?_)
    .refine sr<|sx0 z z<|k'<|b'<|w'<|b'<|b'<|w'<|ap'<|b' (k0' hr z z)
    refine l'<|a'<|c'<|ad' [ff,ff,ff,ff,ff,ff] mix (by kernel_rfl) fun p=>cn (fun _ c=>f' z) ?_
    obtain⟨n,hr⟩:=hr
    refine cn (fun _ c=>aQ' ag' sz3 z z n)<|cn (fun _ c=>g' 2 sc3 z z (bo' _ _ _ n))<|cn (fun _ c=>f' z) ?_
    obtain⟨m,hr⟩:=hr
    refine cn (fun _ c=>aQ' ag' sz3 z z m)<|cn (fun _ c=>g' 3 sc3 z z (bo' _ _ _ m))<|af' p<|yy (aZ' z z) z<|o'<|am'<|a'<|E' hr z (fun y hr=>?_) (fun y hr=>?_)
    .refine sr<|sx0 z z<|k'<|w'<|b'<|b'<|w'<|ap'<|b' (k0' hr z z)
    refine l'<|v'<|a'<|n'<|mv z z<|yy (I' z z) z<|sg z z<|o'<|C' ⟨i64.wrap (g+1),d⟩ hr h (f3 z z z) (w2 z z)
   refine U'<|h'<|h'<|y'<|W' d ⟨h,hr⟩ fn (wk ln)
 rintro e ⟨B,hr⟩
 refine a'<|sr<|sx0 z z<|k' (k0' hr z z)
theorem gz'{L K j g l k r}(hr:(ZmU L K).Ret r):Ctr prog 201 #[.agg ((v99' L j g)).toArray,.agg ((v99' K l k)).toArray] (fun G=>sl (Rp.int .u32) G j g L.mag/\sl (Rp.int .u32) G l k K.mag) (w99' r):=by
 refine A' (args:=[_,_]) (N:=40) func201 z z z (fun w0 G0 aA W=>?_)
 obtain⟨f,e⟩:=W
 refine sr<|Y' 2 z z z fun b2=>Y' 3 z z z fun b3=>O' 4 z z99 z fun b4=>nx<|c'<|sr<|yy (aX' z) z<|yy (g' 2 sc4 z z z) z<|yy (aX' z) z<|yy (g' 3 sc4 z z z) z<|yy (dW' bA' z z) z<|nx<|E' hr z (fun ai hr=>?_) (fun ai hr=>?_)
 .refine c'<|ad' [ff,ff,ff,ff,ff,ff,ff] mix (by kernel_rfl) fun hb=>cn (fun _ c=>aX' z)<|cn (fun _ c=>g' 2 sc4 z z z)<|cn (fun _ c=>ax' z)<|cn (fun _ c=>g' 2 bs' z z z)<|cn (fun _ c=>ax' z)<|cn (fun _ c=>g' 3 bs' z z z) ?_
  obtain⟨E,M,hr⟩:=hr
  refine aw' (post:=wl' (Rp.int .u32) E) (fun _=>z) (fun _ _=>u' E224 z) (gg' M) z (fun G' c=>⟨(f.mono c),(e.mono c)⟩) (fun v G1 G2 c h=>?_) ?_
  .obtain⟨U,I,rfl,m⟩:=h
   exact⟨_,_,z,m.mono c⟩
  refine bn' (d:=16) (post:=wl' (Rp.int .u32) E) (fun aw aD an s=>?_)
  obtain⟨U,I,rfl,m⟩:=s
  obtain⟨aB,O,hr⟩:=hr
  refine Q' z z (u' E115 z) (cw' O) z (m) (fun av az al B=>?_)
  obtain⟨Y,ac,rfl,x⟩:=B
  refine x' 4 z cl' z z z z z (List.all_eq_true.1 z)<|o'<|am'<|a'<|k'<|b' ?_
  obtain rfl:_=r:=hr
  exact j' z (ak' (i:=4) aJ' z z z) ⟨_,_,z,x⟩
 refine l'<|a'<|c'<|sr<|yy (ax' z) z<|yy (g' 2 bs' z z z) z<|yy (ax' z) z<|yy (g' 3 bs' z z z) z ?_
 obtain⟨aC,T,hr⟩:=hr
 refine B' z z (u' E225 z) (cF' T) z (⟨f,e⟩)<|yy (V' z z) z<|nx<|E' hr z (fun ag hr=>?_) (fun ag hr=>?_)
 .refine c'<|ad' [ff,ff,ff,ff,ff,ff,ff] mix (by kernel_rfl) fun hb=>cn (fun _ c=>aX' z)<|cn (fun _ c=>g' 3 sc4 z z z)<|cn (fun _ c=>ax' z)<|cn (fun _ c=>g' 3 bs' z z z)<|cn (fun _ c=>ax' z)<|cn (fun _ c=>g' 2 bs' z z z) ?_
  obtain⟨C,F,hr⟩:=hr
  refine aw' (post:=wl' (Rp.int .u32) C) (fun _=>z) (fun _ _=>u' E226 z) (fd' F) z (fun G' c=>⟨(e.mono c),(f.mono c)⟩) (fun v G1 G2 c h=>?_) ?_
  .obtain⟨R,P,rfl,n⟩:=h
   exact⟨_,_,z,n.mono c⟩
  refine bn' (d:=30) (post:=wl' (Rp.int .u32) C) (fun au ax am t=>?_)
  obtain⟨R,P,rfl,n⟩:=t
  obtain⟨aG,S,hr⟩:=hr
  refine Q' z z (u' E115 z) (cw' S) z (n) (fun aq aE ak u=>?_)
  obtain⟨ab,aa,rfl,y⟩:=u
  refine x' 4 z cl' z z z z z (List.all_eq_true.1 z)<|o'<|am'<|a'<|k'<|b' ?_
  obtain rfl:_=r:=hr
  exact j' z (ak' (i:=4) aJ' z z z) ⟨_,_,z,y⟩
 refine l'<|a'<|c'<|ad' [ff,ff,ff,ff,ff,ff,ff] mix (by kernel_rfl) fun hb=>cn (fun _ c=>aX' z)<|cn (fun _ c=>g' 2 sc4 z z z)<|cn (fun _ c=>ax' z)<|cn (fun _ c=>g' 2 bs' z z z)<|cn (fun _ c=>ax' z)<|cn (fun _ c=>g' 3 bs' z z z) ?_
 obtain⟨D,H,hr⟩:=hr
 refine aw' (post:=wl' (Rp.int .u32) D) (fun _=>z) (fun _ _=>u' E226 z) (fd' H) z (fun G' c=>⟨(f.mono c),(e.mono c)⟩) (fun v G1 G2 c h=>?_) ?_
 .obtain⟨Q,J,rfl,o⟩:=h
  exact⟨_,_,z,o.mono c⟩
 refine bn' (d:=38) (post:=wl' (Rp.int .u32) D) (fun ap aH aj p=>?_)
 obtain⟨Q,J,rfl,o⟩:=p
 obtain⟨aF,V,hr⟩:=hr
 refine Q' z z (u' E115 z) (cw' V) z (o) (fun ar ay ao A=>?_)
 obtain⟨Z,X,rfl,q⟩:=A
 refine x' 4 z cl' z z z z z (List.all_eq_true.1 z)<|o'<|am'<|a'<|k' ?_
 obtain rfl:_=r:=hr
 exact j' z (ak' (i:=4) aJ' z z z) ⟨_,_,z,q⟩
theorem gA'{t s m o e k l n g j r}(hr:(Zhz t s).Ret r):Ctr prog 164 #[.agg ((v101' t m o e k)).toArray,.agg ((v101' s l n g j)).toArray] (fun G=>sl (Rp.int .u32) G m o t.num.mag/\sl (Rp.int .u32) G e k t.den.mag/\sl (Rp.int .u32) G l n s.num.mag/\sl (Rp.int .u32) G g j s.den.mag) (w101' r):=by
 refine A' (args:=[_,_]) (N:=22) func164 z z z (fun w0 G0 aA ak=>?_)
 obtain⟨I,A,J,y⟩:=ak
 refine sr<|Y' 2 z z z fun b2=>Y' 3 z z z fun b3=>O' 4 z z101 z fun b4=>nx<|c'<|ad' [ff,ff,ff,ff,ff,ff,ff,ff,ff,ff,ff,ff,ff,ff,ff] mix (by kernel_rfl) fun hb=>cn (fun _ c=>bw' z)<|cn (fun _ c=>aj' ((v99' t.num m o)).toArray 2 aJ' z z z (aq' ([]) ((v99' t.num m o)) ((v99' t.den e k))))<|cn (fun _ c=>bk' z)<|cn (fun _ c=>aj' ((v99' s.den g j)).toArray 3 aJ' z z z (aq' ((v99' s.num l n)) ((v99' s.den g j)) ([]))) ?_
 obtain⟨V,ag,hr⟩:=hr
 refine aw' (post:=w99' V) (fun _=>z) (fun _ _=>u' E124 z) (dZ' ag) z (fun W c=>⟨(I.mono c),(y.mono c)⟩) (fun v G1 G2 c h=>?_) ?_
 .obtain⟨D,B,rfl,p⟩:=h
  exact⟨_,_,z,p.mono c⟩
 refine cu (fun _ _ c=>bw' z)<|cu (fun _ _ c=>aj' ((v99' s.num l n)).toArray 3 aJ' z z z (aq' ([]) ((v99' s.num l n)) ((v99' s.den g j))))<|cu (fun _ _ c=>bk' z)<|cu (fun _ _ c=>aj' ((v99' t.den e k)).toArray 2 aJ' z z z (aq' ((v99' t.num m o)) ((v99' t.den e k)) ([]))) ?_
 obtain⟨U,ah,hr⟩:=hr
 refine aw' (post:=w99' U) (fun _=>z) (fun _ _=>u' E124 z) (dZ' ah) z (fun W c=>⟨(J.mono c),(A.mono c)⟩) (fun v G1 G2 c h=>?_) ?_
 .obtain⟨C,E,rfl,q⟩:=h
  exact⟨_,_,z,q.mono c⟩
 obtain⟨ae,aj,hr⟩:=hr
 refine bz' (f:=201) (φ:=w99' ae) (fun _=>z) (fun v G1 G2 c h=>?_) (fun u W c hu=>?_) ?_
 .obtain⟨T,Q,rfl,x⟩:=h
  exact⟨_,_,z,x.mono c⟩
 .obtain⟨⟨C,E,Z,q⟩,⟨D,B,ac,p⟩,_⟩:=(show (w99' U) W.m (u 14)/\(w99' V) W.m (u 9)/\True from hu)
  exact⟨_,_,_,fun _=>u' E201 z,gz' aj,(by simp only[Z,ac] <;> rfl),⟨p,q⟩⟩
 refine cu (fun _ _ c=>bk' z)<|cu (fun _ _ c=>aj' ((v99' t.den e k)).toArray 2 aJ' z z z (aq' ((v99' t.num m o)) ((v99' t.den e k)) ([])))<|cu (fun _ _ c=>bk' z)<|cu (fun _ _ c=>aj' ((v99' s.den g j)).toArray 3 aJ' z z z (aq' ((v99' s.num l n)) ((v99' s.den g j)) ([])))<|dM' (d:=15) (post:=w99' ae) (d':=14) (post':=w99' U) (d'':=9) (post'':=w99' V) (fun ar av aw aC K R S M=>?_)
 obtain⟨T,Q,rfl,x⟩:=R
 obtain⟨C,E,rfl,q⟩:=S
 obtain⟨D,B,rfl,p⟩:=M
 obtain⟨ay,af,hr⟩:=hr
 refine Q' z z (u' E124 z) (dZ' af) z (⟨(A.mono K),(y.mono K)⟩) (fun au az ab O=>?_)
 obtain⟨al,am,rfl,L⟩:=O
 obtain⟨aD,ai,hr⟩:=hr
 refine Q' z z (u' E123 z) (eN' ai) z (⟨(x.mono ab),L⟩) (fun aq aB ap P=>?_)
 obtain⟨ad,X,Y,aa,rfl,F,H⟩:=P
 refine x' 4 z ce' z z z z z (List.all_eq_true.1 z)<|o'<|am'<|a'<|k' ?_
 obtain rfl:_=r:=hr
 exact j' z (ak' (i:=4) bg' z z z) ⟨_,_,_,_,z,F,H⟩
theorem ew'{I F S Y U V r}(hr:(Zfr I F).Ret r):Ctr prog 114 #[.slice S I.length Y,.slice U F.length V] (fun G=>sl r' G S Y I/\sl r' G U V F) (wl' r' r):=by
 refine A' (args:=[_,_]) (N:=109) func114 z z z (fun w0 G0 av bA=>?_)
 obtain⟨A,J⟩:=bA
 refine sr<|sg z z<|nr<|aD' (e:=152) (r:=r') (vs:=#[]) (cs:=[]) ([]:List Zb) z z z z z (by decide) (fun _=>by kernel_rfl) (z) (key:=999) z (by rw[av]; rfl) fun p1 aY g bS=>sg z z<|nr<|sg z z<|sx0 z z<|c'<|R' (fun (⟨aa,aj,ah,ae,az⟩:(List Zb)×Option Addr×Nat×Option Ow×Mem)=>[(5,.slice aj aa.length ah)]) (fun ⟨aa,aj,ah,ae,az⟩=>Mem.le aY az/\sl r' az aj ah aa/\Tok 12 152 (.slice aj aa.length ah) aa.length ae/\(ZfM aa).Ret r) (fun ⟨aa,aj,ah,ae,az⟩=>St w0 G0 az [(1005,ae)]) ?_ ?_
 .refine s' ?_
  let ao:(List Zb)->Prop:=fun oo=>((fun ov=>match ov with|aa=>ZfM aa:(List Zb)->Cq (List Zb)) oo).wp (fun a=>a=r)
  replace hr:(Cq.loop _ _).wp ao:=hr
  refine T' (Φ:=ao) (fun (⟨C,H,E,D,M,o,af⟩:(List Zb)×Option Addr×Nat×Option Ow×Int×Int×Mem)=>((C,M,o):(List Zb)×Int×Int)) (fun ⟨C,H,E,D,M,o,af⟩=>[(0,.slice S I.length Y),(1,.slice U F.length V),(5,.slice H C.length E),(6,i' M),(7,i' o)]) (fun ⟨C,H,E,D,M,o,af⟩=>Mem.le aY af/\sl r' af H E C/\Tok 12 152 (.slice H C.length E) C.length D) (fun ⟨C,H,E,D,M,o,af⟩=>St w0 G0 af [(1005,D)]) ⟨[],p1,0,none,0,0,aY⟩ hr (f5 z z z z z) ⟨mr,bS,cc'⟩ (wk (lw ln)) ?_
  .intro aI gx hx hr
   obtain⟨C,H,E,D,M,o,af⟩:=gx
   obtain⟨d,aE,aw⟩:=hx
   refine aP' (fun (gx:Mem)=>match gx with|am=>[(0,.slice S I.length Y),(1,.slice U F.length V),(5,.slice H C.length E),(6,i' M),(7,i' o)]) (fun (gx:Mem)=>match gx with|am=>Mem.le af am/\(ZaX I F C M o).wp (Out aI ao)) (fun (gx:Mem)=>match gx with|am=>St w0 G0 am [(1005,D)]) ?_ ?_
   .refine sr<|mv z z<|mv z z<|yy (K' F' (A.mono (mx g d)) z) z<|ao' hr z (V' z z) z (fun b3 hr=>?_) (fun b3 hr=>?_)
    .refine mv z z<|sn4 z<|yy (t' z z) z<|nx<|av' z<|l'<|al' af ⟨mr,hr⟩ (f5 z z z z z) (w1 z)
    refine mv z z<|gy z z (f' z) z<|gy z z (f' z) z<|gy z z (K' F' (J.mono (mx g d)) z) z<|gy z z (V' z z) z<|yy (p' z z) z<|nx<|E' hr z (fun bO hr=>?_) (fun bO hr=>?_)
    .refine l'<|al' af ⟨mr,hr⟩ (f5 z z z z z) (w1 z)
    refine U'<|h'<|h'<|y'<|W' ⟨C,H,E,D,af⟩ ⟨d,aE,aw,hr⟩ (f1 z) (w1 z)
   rintro am ⟨f,hr⟩
   refine s'<|aP' (fun (⟨L,W,X,R,K,an⟩:(List Zb)×Option Addr×Nat×Option Ow×Int×Mem)=>[(0,.slice S I.length Y),(1,.slice U F.length V),(5,.slice W L.length X),(6,i' K),(7,i' o)]) (fun ⟨L,W,X,R,K,an⟩=>Mem.le am an/\sl r' an W X L/\Tok 12 152 (.slice W L.length X) L.length R/\(ZcF I F o L K).wp (Out aI ao)) (fun ⟨L,W,X,R,K,an⟩=>St w0 G0 an [(1005,R)]) ?_ ?_
   .refine aP' (fun (⟨ar,ay⟩:Bool×Mem)=>[(0,.slice S I.length Y),(1,.slice U F.length V),(5,.slice H C.length E),(6,i' M),(7,i' o),(43,.bool ar)]) (fun ⟨ar,ay⟩=>Mem.le am ay/\(Zaz I F C M o ar).wp (Out aI ao)) (fun ⟨ar,ay⟩=>St w0 G0 ay [(1005,D)]) ?_ ?_
    .refine ad' [ff,ff,ff,ff,ff,ff,ff,ff,ff,ff,ff,ff,ff,ff,ff,ff,ff,ff,ff,ff] mix (by kernel_rfl) fun hb=>cn (fun _ c=>f' z)<|cn (fun _ c=>f' z)<|cn (fun _ c=>K' F' ((J.mono (mx (mx g d) f)).mono c) z)<|bX' hr z (fun _ c=>au' z z) (fun bR hr=>?_) (fun bR hr=>?_)
     .refine cn (fun _ c=>f' z)<|cf z z<|cf z z<|cf z z<|cf z z<|cf z z<|cs z z<|cs z z<|cs z z<|cs z z<|cs z z<|cs z z<|cs z z<|cs z z<|cs z z<|cs z z<|af' hb<|ar' (aa' z z) z<|ar' (aa' z z) z<|sf z z z<|yy (t' z z) z<|o'<|am'<|al' ⟨true,am⟩ ⟨mr,hr⟩ (f6 z z z z z z) (w1 z)
     refine cn (fun _ c=>f' z)<|cy z z (fun _ c=>f' z)<|cy z z (fun _ c=>f' z)<|cy z z (fun _ c=>K' F' ((A.mono (mx (mx g d) f)).mono c) z)<|bX' hr (D' z z) (fun _ c=>V' z z) (fun bV hr=>?_) (fun bV hr=>?_)
     .refine cy z z (fun _ c=>f' z)<|cy z z (fun _ c=>f' z)<|cy z z (fun _ c=>f' z) ?_
      obtain⟨x8,bj,hr⟩:=hr
      refine cy z z (fun _ c=>P' F' bh' ((A.mono (mx (mx g d) f)).mono c) z z bj)<|cy z z (fun _ c=>aL' z)<|cy z z (fun _ c=>as' _ aT' z (M' _ _ _) (cG' (H' (H' (bP' (aS' (X' A bj))) (mx (mx g d) f)) c)))<|cy z z (fun _ c=>f' z)<|cy z z (fun _ c=>f' z) ?_
      obtain⟨x9,bi,hr⟩:=hr
      refine cy z z (fun _ c=>P' F' bh' ((J.mono (mx (mx g d) f)).mono c) z z bi)<|cy z z (fun _ c=>aL' z)<|cy z z (fun _ c=>as' _ aT' z (M' _ _ _) (cG' (H' (H' (bP' (aS' (X' J bi))) (mx (mx g d) f)) c)))<|af' hb ?_
      obtain⟨bF,bl,hr⟩:=hr
      refine B' (D' z z) z (u' E163 z) (eT' bl) z (trivial)<|gy z z (aZ' z z) z<|gy z z (t' z z) z<|yy (p' z z) z<|o'<|am'<|al' ⟨decide (0<bF),am⟩ ⟨mr,hr⟩ (f6 z z z z z z) (w1 z)
     refine cy z z (fun _ c=>f' z)<|ct z z<|ct z z<|ct z z<|ct z z<|ct z z<|ct z z<|ct z z<|ct z z<|ct z z<|ct z z<|af' hb<|sn2 z<|gy z z (p' z z) z<|yy (p' z z) z<|o'<|am'<|al' ⟨false,am⟩ ⟨mr,hr⟩ (f6 z z z z z z) (w1 z)
    rintro⟨ar,ay⟩ ⟨ai,hr⟩
    refine ay' hr z (fun bW hr=>?_) (fun bW hr=>?_)
    .refine sr<|mv z z<|mv z z<|mv z z ?_
     obtain⟨x7,bh,hr⟩:=hr
     refine yy (P' F' bh' (A.mono (mx (mx (mx g d) f) ai)) z z bh) z ?_
     obtain⟨p,q,s,u,bN,aF,aG⟩:=bI' (H' (X' A bh) (mx (mx (mx g d) f) ai))
     refine yy (as' _ cM' z z bN) z<|aD' (e:=152) (r:=r') (vs:=#[(0,.agg (((v101' x7.c p q s u):List Value)++(vecG (Value.int .i64) 8 x7.m)).toArray)]) (cs:=(((v101' x7.c p q s u):List Value)++(vecG (Value.int .i64) 8 x7.m))++([])) ([x7]:List Zb) z z z z z (by decide) (fun _=>by kernel_rfl) ⟨((v101' x7.c p q s u):List Value)++(vecG (Value.int .i64) 8 x7.m),[],z,⟨(v101' x7.c p q s u),vecG (Value.int .i64) 8 x7.m,z,⟨(v99' x7.c.num p q),(v99' x7.c.den s u),z,⟨[.bool x7.c.num.neg],[.slice p x7.c.num.mag.length q],z,z,⟨_,z,aF⟩⟩,⟨[.bool x7.c.den.neg],[.slice s x7.c.den.mag.length u],z,z,⟨_,z,aG⟩⟩⟩,z⟩,z⟩ (key:=999) z (by rw[av]; rfl) (fun p6 ch aS bE=>?_)
     obtain⟨br,hr⟩:=hr
     refine aW' (r:=r') 1005 z z F' el152 z (by decide) z z (aE.mono (mx (mx f ai) aS)) z (by rw[av]; rfl) aw bE br fun p7 b2 bn bX a3 bK bu=>sg z z<|nr<|mv z z<|yy (I' z z) z<|sx0 z z<|U'<|h'<|y'<|C' ⟨(C++[x7]),p7,b2,bn,i64.wrap (M+1),o,bX⟩ hr ⟨(mx (mx (mx (mx d f) ai) aS) a3),bK,bu⟩ (f5 z z z z z) (w1 z)
    refine l'<|al' ⟨C,H,E,D,M,ay⟩ ⟨ai,(aE.mono (mx f ai)),aw,hr⟩ (f5 z z z z z) (w1 z)
   rintro⟨L,W,X,R,K,an⟩ ⟨n,aT,aH,hr⟩
   refine aP' (fun (⟨Z,ad,ac,ab,ap,ax⟩:(List Zb)×Option Addr×Nat×Option Ow×Int×Mem)=>[(0,.slice S I.length Y),(1,.slice U F.length V),(5,.slice ad Z.length ac),(6,i' K),(7,i' ap)]) (fun ⟨Z,ad,ac,ab,ap,ax⟩=>Mem.le an ax/\sl r' ax ad ac Z/\Tok 12 152 (.slice ad Z.length ac) Z.length ab/\(ZfN I F K Z ap).wp (Out aI ao)) (fun ⟨Z,ad,ac,ab,ap,ax⟩=>St w0 G0 ax [(1005,ab)]) ?_ ?_
   .refine aP' (fun (⟨aq,aA⟩:Bool×Mem)=>[(0,.slice S I.length Y),(1,.slice U F.length V),(5,.slice W L.length X),(6,i' K),(7,i' o),(70,.bool aq)]) (fun ⟨aq,aA⟩=>Mem.le an aA/\(ZcE I F o L K aq).wp (Out aI ao)) (fun ⟨aq,aA⟩=>St w0 G0 aA [(1005,R)]) ?_ ?_
    .refine ad' [ff,ff,ff,ff,ff,ff,ff,ff,ff,ff,ff,ff,ff,ff,ff] mix (by kernel_rfl) fun hb=>cn (fun _ c=>f' z)<|cn (fun _ c=>f' z)<|cn (fun _ c=>K' F' ((A.mono (mx (mx (mx g d) f) n)).mono c) z)<|bX' hr z (fun _ c=>au' z z) (fun b4 hr=>?_) (fun b4 hr=>?_)
     .refine cn (fun _ c=>f' z)<|cf z z<|cf z z<|cf z z<|cf z z<|cf z z<|cf z z<|cf z z<|cf z z<|cf z z<|cf z z<|af' hb<|sn2 z<|yy (t' z z) z<|o'<|am'<|al' ⟨true,an⟩ ⟨mr,hr⟩ (f6 z z z z z z) (w1 z)
     refine cn (fun _ c=>f' z)<|cy z z (fun _ c=>f' z)<|cy z z (fun _ c=>f' z) ?_
     obtain⟨x5,a6,hr⟩:=hr
     refine cy z z (fun _ c=>P' F' bh' ((A.mono (mx (mx (mx g d) f) n)).mono c) z z a6)<|cy z z (fun _ c=>aL' z)<|cy z z (fun _ c=>as' _ aT' z (M' _ _ _) (cG' (H' (H' (bP' (aS' (X' A a6))) (mx (mx (mx g d) f) n)) c)))<|cy z z (fun _ c=>f' z)<|cy z z (fun _ c=>f' z) ?_
     obtain⟨x6,be,hr⟩:=hr
     refine cy z z (fun _ c=>P' F' bh' ((J.mono (mx (mx (mx g d) f) n)).mono c) z z be)<|cy z z (fun _ c=>aL' z)<|cy z z (fun _ c=>as' _ aT' z (M' _ _ _) (cG' (H' (H' (bP' (aS' (X' J be))) (mx (mx (mx g d) f) n)) c)))<|af' hb ?_
     obtain⟨bQ,bz,hr⟩:=hr
     refine B' (D' z z) z (u' E163 z) (eT' bz) z (trivial)<|gy z z (V' z z) z<|yy (p' z z) z<|o'<|am'<|al' ⟨decide (bQ<0),an⟩ ⟨mr,hr⟩ (f6 z z z z z z) (w1 z)
    rintro⟨aq,aA⟩ ⟨ag,hr⟩
    refine ay' hr z (fun bP hr=>?_) (fun bP hr=>?_)
    .refine sr<|mv z z<|mv z z<|mv z z ?_
     obtain⟨x4,a5,hr⟩:=hr
     refine yy (P' F' bh' (J.mono (mx (mx (mx (mx g d) f) n) ag)) z z a5) z ?_
     obtain⟨x,t,y,B,bM,aC,aD⟩:=bI' (H' (X' J a5) (mx (mx (mx (mx g d) f) n) ag))
     refine yy (as' _ cM' z z bM) z<|aD' (e:=152) (r:=r') (vs:=#[(0,.agg (((v101' x4.c x t y B):List Value)++(vecG (Value.int .i64) 8 x4.m)).toArray)]) (cs:=(((v101' x4.c x t y B):List Value)++(vecG (Value.int .i64) 8 x4.m))++([])) ([x4]:List Zb) z z z z z (by decide) (fun _=>by kernel_rfl) ⟨((v101' x4.c x t y B):List Value)++(vecG (Value.int .i64) 8 x4.m),[],z,⟨(v101' x4.c x t y B),vecG (Value.int .i64) 8 x4.m,z,⟨(v99' x4.c.num x t),(v99' x4.c.den y B),z,⟨[.bool x4.c.num.neg],[.slice x x4.c.num.mag.length t],z,z,⟨_,z,aC⟩⟩,⟨[.bool x4.c.den.neg],[.slice y x4.c.den.mag.length B],z,z,⟨_,z,aD⟩⟩⟩,z⟩,z⟩ (key:=999) z (by rw[av]; rfl) (fun p4 cj aU bJ=>?_)
     obtain⟨bv,hr⟩:=hr
     refine aW' (r:=r') 1005 z z F' el152 z (by decide) z z (aT.mono (mx ag aU)) z (by rw[av]; rfl) aH bJ bv fun p5 bD bB b0 a0 bZ bw=>sg z z<|nr<|mv z z<|yy (I' z z) z<|sx0 z z<|U'<|h'<|y'<|C' ⟨(L++[x4]),p5,bD,bB,K,i64.wrap (o+1),b0⟩ hr ⟨(mx (mx (mx (mx (mx d f) n) ag) aU) a0),bZ,bw⟩ (f5 z z z z z) (w1 z)
    refine l'<|al' ⟨L,W,X,R,o,aA⟩ ⟨ag,(aT.mono ag),aH,hr⟩ (f5 z z z z z) (w1 z)
   rintro⟨Z,ad,ac,ab,ap,ax⟩ ⟨T,aV,aK,hr⟩
   refine c'<|ad' [ff,ff,ff,ff,ff,ff,ff,ff,ff,ff,ff,ff] mix (by kernel_rfl) fun hb=>cn (fun _ c=>f' z)<|cn (fun _ c=>f' z) ?_
   obtain⟨x1,bk,hr⟩:=hr
   refine cn (fun _ c=>P' F' bh' ((A.mono (mx (mx (mx (mx g d) f) n) T)).mono c) z z bk)<|cn (fun _ c=>bB' z) ?_
   obtain⟨ba,bf,bg,a8,bH,aP,aM⟩:=cN' (H' (bS' (aS' (X' A bk))) (mx (mx (mx (mx g d) f) n) T))
   refine cn (fun _ c=>as' _ bg' z z (fun j v hv=>c _ _ _ (bH j v hv)))<|cn (fun _ c=>f' z)<|cn (fun _ c=>f' z) ?_
   obtain⟨x2,a4,hr⟩:=hr
   refine cn (fun _ c=>P' F' bh' ((J.mono (mx (mx (mx (mx g d) f) n) T)).mono c) z z a4)<|cn (fun _ c=>bB' z) ?_
   obtain⟨a9,bb,bc,bd,bC,aJ,aO⟩:=cN' (H' (bS' (aS' (X' J a4))) (mx (mx (mx (mx g d) f) n) T))
   refine cn (fun _ c=>as' _ bg' z z (fun j v hv=>c _ _ _ (bC j v hv))) ?_
   obtain⟨Q,bs,hr⟩:=hr
   refine aw' (post:=w101' Q) (fun _=>z) (fun _ _=>u' E164 z) (gA' bs) z (fun G' c=>⟨(aP.mono c),(aM.mono c),(aJ.mono c),(aO.mono c)⟩) (fun v G1 G2 c h=>?_) ?_
   .obtain⟨m,l,i,k,rfl,P,O⟩:=h
    exact⟨_,_,_,_,z,P.mono c,O.mono c⟩
   refine bJ' (fun _=>z) z101<|Chain.tailX2 (fun ck cc X1 au aZ aX=>?_)
   obtain⟨b1,rfl,bp⟩:=aZ
   obtain⟨m,l,i,k,rfl,P,O⟩:=aX
   refine di' bp (cJ' (show WL _ _ _ _ _ _ (St w0 G0 X1.m _) from ?_))
   refine x' 8 z ce' z z z z z (List.all_eq_true.1 z)<|o'<|am'<|a'<|c'<|sr<|yy (m' 8 bg' z z z) z ?_
   obtain⟨cg,bt,hr⟩:=hr
   refine B' z z (u' E39 z) (ds' bt) z (⟨P,O⟩)<|yy (bj' z z) z<|nx<|E' hr z (fun b5 hr=>?_) (fun b5 hr=>?_)
   .refine ad' [tt,ff,ff,ff,ff,ff,ff] mix (by kernel_rfl) fun hb=>dA' z (f' z)<|cn (fun _ c=>m' 8 bg' z z z)<|cn (fun _ c=>f' z)<|cn (fun _ c=>f' z) ?_
    obtain⟨x3,a7,hr⟩:=hr
    have N1:=mx (mx (mx (mx (mx g d) f) n) T) au
    refine cn (fun _ c=>P' F' bh' ((A.mono N1).mono c) z z a7)<|cn (fun _ c=>aL' z)<|cn (fun _ c=>as' _ aT' z (M' _ _ _) (cG' (H' (H' (bP' (aS' (X' A a7))) N1) c)))<|af' hb<|yy (at' (vs:=#[(0,.agg ((v101' Q m l i k)).toArray),(1,.agg (vecG (Value.int .i64) 8 x3.m).toArray)]) (v:=.agg (((v101' Q m l i k):List Value)++(vecG (Value.int .i64) 8 x3.m)).toArray) z z (fun _=>by kernel_rfl)) z<|aD' (e:=152) (r:=r') (vs:=#[(0,.agg (((v101' Q m l i k):List Value)++(vecG (Value.int .i64) 8 x3.m)).toArray)]) (cs:=(((v101' Q m l i k):List Value)++(vecG (Value.int .i64) 8 x3.m))++([])) ([(Zb.mk Q x3.m)]:List Zb) z z z z z (by decide) (fun _=>by kernel_rfl) ⟨((v101' Q m l i k):List Value)++(vecG (Value.int .i64) 8 x3.m),[],z,⟨(v101' Q m l i k),vecG (Value.int .i64) 8 x3.m,z,⟨(v99' Q.num m l),(v99' Q.den i k),z,⟨[.bool Q.num.neg],[.slice m Q.num.mag.length l],z,z,⟨_,z,P⟩⟩,⟨[.bool Q.den.neg],[.slice i Q.den.mag.length k],z,z,⟨_,z,O⟩⟩⟩,z⟩,z⟩ (key:=999) z (by rw[av]; rfl) (fun p2 ci aW bT=>?_)
    obtain⟨bo,hr⟩:=hr
    refine aW' (r:=r') 1005 z z F' el152 z (by decide) z z (aV.mono (mx au aW)) z (by rw[av]; rfl) aK bT bo fun p3 bL bm bG a1 bU bq=>sg z z<|o'<|am'<|a'<|sr<|mv z z<|yy (I' z z) z<|sx0 z z<|n'<|mv z z<|yy (I' z z) z<|sg z z<|o'<|v'<|C' ⟨(Z++[(Zb.mk Q x3.m)]),p3,bL,bm,i64.wrap (K+1),i64.wrap (ap+1),bG⟩ hr ⟨(mx (mx (mx (mx (mx (mx d f) n) T) au) aW) a1),bU,bq⟩ (f5 z z z z z) (w1 z)
   refine l'<|a'<|sr<|mv z z<|yy (I' z z) z<|sx0 z z<|n'<|mv z z<|yy (I' z z) z<|sg z z<|o'<|v'<|C' ⟨Z,ad,ac,ab,i64.wrap (K+1),i64.wrap (ap+1),X1.m⟩ hr ⟨(mx (mx (mx (mx d f) n) T) au),(aV.mono au),aK⟩ (f5 z z z z z) (w1 z)
 rintro⟨aa,aj,ah,ae,az⟩ ⟨b6,a2,bY,hr⟩
 refine a'<|sr<|mv z z<|sx0 z z<|k' ?_
 obtain rfl:_=r:=hr
 exact j' z z ⟨_,_,z,a2⟩
theorem gp'{y O I V A B r}(hr:(Zii y O I V).Ret r):Ctr prog 85 #[.agg ([.slice A y.t.length B]).toArray,i' O,i' I,i' V] (fun G=>sl (cy' .i8 5) G A B y.t) (wl' r' r):=by
 refine A' (args:=[_,_,_,_]) (N:=74) func85 z z z (fun w0 G0 aB aQ=>?_)
 have H:=aQ
 refine sr<|Y' 4 z z z fun b1=>sg z z<|nr<|aD' (e:=152) (r:=r') (vs:=#[]) (cs:=[]) ([]:List Zb) z z z z z (by decide) (fun _=>by kernel_rfl) (z) (key:=999) z (by rw[aB]; rfl) fun p1 ap U aV=>sx0 z z<|c'<|sr<|sx0 z z<|R' (fun (⟨J,Q,T,Z⟩:(List Zb)×Option Addr×Nat×Mem)=>[(9,.slice Q J.length T)]) (fun ⟨J,Q,T,Z⟩=>Mem.le ap Z/\sl r' Z Q T J/\(Ze3 J).Ret r) (fun ⟨J,Q,T,Z⟩=>St w0 G0 Z []) ?_ ?_
 .refine s' ?_
  let Y:(List Zb)->Prop:=fun oo=>((fun ov=>match ov with|J=>Ze3 J:(List Zb)->Cq (List Zb)) oo).wp (fun a=>a=r)
  replace hr:(Cq.loop _ _).wp Y:=hr
  refine T' (Φ:=Y) (fun (⟨k,m,n,j,L⟩:(List Zb)×Option Addr×Nat×Int×Mem)=>((k,j):(List Zb)×Int)) (fun ⟨k,m,n,j,L⟩=>[(1,i' O),(2,i' I),(3,i' V),(4,pt0 b1),(9,.slice m k.length n),(10,i' j)]) (fun ⟨k,m,n,j,L⟩=>Mem.le ap L/\sl r' L m n k) (fun ⟨k,m,n,j,L⟩=>St w0 G0 L [(4,bk0 b1 ([.slice A y.t.length B]) 120)]) ⟨[],p1,0,0,ap⟩ hr (f6 z z z z z z) ⟨mr,aV⟩ (w1 z) ?_
  .intro ao gx hx hr
   obtain⟨k,m,n,j,L⟩:=gx
   obtain⟨s,af⟩:=hx
   refine aP' (fun (gx:Mem)=>match gx with|R=>[(1,i' O),(2,i' I),(3,i' V),(4,pt0 b1),(9,.slice m k.length n),(10,i' j)]) (fun (gx:Mem)=>match gx with|R=>Mem.le L R/\(ZhS y O I k j).wp (Out ao Y)) (fun (gx:Mem)=>match gx with|R=>St w0 G0 R [(4,bk0 b1 ([.slice A y.t.length B]) 120)]) ?_ ?_
   .refine sr<|mv z z<|yy (Y0.ZjZ z) z<|yy (g' 4 sc118 z z z) z<|yy (K' eb' (H.mono (mx U s)) z) z<|ao' hr z (V' z z) z (fun aU hr=>?_) (fun aU hr=>?_)
    .refine mv z z<|gy z z (f' z) z<|gy z z (f' z) z<|gy z z (V' z z) z<|yy (t' z z) z<|nx<|E' hr z (fun aT hr=>?_) (fun aT hr=>?_)
     .refine l'<|al' L ⟨mr,hr⟩ (f6 z z z z z z) (w1 z)
     refine U'<|h'<|h'<|y'<|W' ⟨k,m,n,L⟩ ⟨s,af,hr⟩ (f1 z) (wk ln)
    refine mv z z<|sn3 z<|yy (p' z z) z<|nx<|aK' z<|U'<|h'<|h'<|y'<|W' ⟨k,m,n,L⟩ ⟨s,af,hr⟩ (f1 z) (wk ln)
   rintro R ⟨M,hr⟩
   refine c'<|s'<|sr<|yy (at' (vs:=#[]) (v:=.agg (vecG (Value.int .i64) 8 (fun _=>0)).toArray) z z (fun _=>by kernel_rfl)) z<|O' 11 z z110 z fun b2=>x' 11 z sz110 z z z (M' _ _ _) (M' _ _ _) (fun u hu=>Rp.one (cy' .i64 8) (G:=R) (x:=(fun _=>0)) (cs:=vecG (Value.int .i64) 8 (fun _=>0)) z u (by first|simpa using hu|simpa [Value.cells] using hu))<|nr<|mv z z<|sx0 z z<|c'<|sr<|sx0 z z<|R' (fun (⟨t,ah⟩:(Fin 8->Int)×Mem)=>[(1,i' O),(2,i' I),(3,i' V),(4,pt0 b1),(9,.slice m k.length n),(10,i' j),(11,pt0 b2)]) (fun ⟨t,ah⟩=>Mem.le R ah/\(Ze4 y k j t).wp (Out ao Y)) (fun ⟨t,ah⟩=>St w0 G0 ah [(4,bk0 b1 ([.slice A y.t.length B]) 120),(11,bk0 b2 (vecG (Value.int .i64) 8 t) 110)]) ?_ ?_
   .refine s' ?_
    let aq:(Fin 8->Int)->Prop:=fun oo=>((fun ov=>match ov with|t=>Ze4 y k j t:(Fin 8->Int)->Cq (((List Zb)×Int)⊕(List Zb))) oo).wp (Out ao Y)
    replace hr:(Cq.loop _ _).wp aq:=hr
    refine T' (Φ:=aq) (fun (⟨p,l,K,P⟩:Int×Int×(Fin 8->Int)×Mem)=>((p,l,K):Int×Int×(Fin 8->Int))) (fun ⟨p,l,K,P⟩=>[(1,i' O),(2,i' I),(3,i' V),(4,pt0 b1),(9,.slice m k.length n),(10,i' j),(11,pt0 b2),(12,i' p),(13,i' l)]) (fun ⟨p,l,K,P⟩=>Mem.le R P) (fun ⟨p,l,K,P⟩=>St w0 G0 P [(4,bk0 b1 ([.slice A y.t.length B]) 120),(11,bk0 b2 (vecG (Value.int .i64) 8 K) 110)]) ⟨I,0,(fun _=>0),R⟩ hr (f9 z z z z z z z z z) mr (w2 z z) ?_
    .intro be gx hx hr
     obtain⟨p,l,K,P⟩:=gx
     have S:=hx
     refine c'<|sr<|mv z z<|mv z z<|ao' hr z (V' z z) z (fun a1 hr=>?_) (fun a1 hr=>?_)
     .refine mv z z<|gy z z (f' z) z<|gy z z (V' z z) z<|yy (t' z z) z<|nx<|E' hr z (fun a2 hr=>?_) (fun a2 hr=>?_)
      .refine l'<|a'<|c'<|s'<|sr<|mv z z<|yy (Y0.ZjZ z) z<|yy (g' 4 sc118 z z z) z<|mv z z<|mv z z<|yy (I' z z) z ?_
       obtain⟨x2,az,hr⟩:=hr
       refine yy (P' eb' sz203 (H.mono (mx (mx (mx U s) M) S)) z z az) z ?_
       obtain⟨aA,hr⟩:=hr
       refine yy (Y0.idxA underlying203 sz104 z z aA) z<|yy (ae' sc104 z (AtK.vecAt (H' (X' H az) (mx (mx (mx U s) M) S)) aA)) z ?_
       obtain⟨au,aO,hr⟩:=hr
       refine B' z z (u' E135 z) (gy' aO) z (trivial)<|mv z z<|yy (I' z z) z ?_
       obtain⟨aX,hr⟩:=hr
       refine yy (bL' z z aX) z ?_
       obtain⟨a0,hr⟩:=hr
       refine yy (aQ' ag' sz3 z z a0) z<|aB' 11 (vecG (Value.int .i64) 8 (setF K l.toNat (Int.tmod au (i64.wrap (p+1))))).toArray z sz3 z z z (by first|(rw[M']; omega)|(show _<(vecG _ _ _).toArray.size; rw[M']; omega)) z (co' _ _ _ _ _)<|nx<|n'<|mv z z<|mv z z ?_
       obtain⟨aC,hr⟩:=hr
       refine yy (aQ' ag' sz3 z z aC) z<|yy (g' 11 sc3 z z (bo' _ _ _ aC)) z<|yy (be' z z) z<|sg z z<|o'<|v'<|a'<|n'<|mv z z<|yy (I' z z) z<|sg z z<|o'<|C' ⟨i64.wrap (p-(getF (setF K l.toNat (Int.tmod au (i64.wrap (p+1)))) l)),i64.wrap (l+1),setF K l.toNat (Int.tmod au (i64.wrap (p+1))),P⟩ hr S (f9 z z z z z z z z z) (w2 z z)
      refine U'<|h'<|h'<|y'<|W' ⟨K,P⟩ ⟨S,hr⟩ (f7 z z z z z z z) (w2 z z)
     refine mv z z<|sn2 z<|yy (p' z z) z<|nx<|aK' z<|U'<|h'<|h'<|y'<|W' ⟨K,P⟩ ⟨S,hr⟩ (f7 z z z z z z z) (w2 z z)
   rintro⟨t,ah⟩ ⟨X,hr⟩
   refine a'<|ad' [tt,ff,ff,ff,ff,ff,ff,ff,ff,ff,ff,ff] mix (by kernel_rfl) fun hb=>dA' z (f' z)<|cn (fun _ o=>Y0.ZjZ z)<|cn (fun _ o=>g' 4 sc118 z z z)<|cn (fun _ o=>f' z) ?_
   obtain⟨x1,aE,hr⟩:=hr
   have N1:=mx (mx (mx U s) M) X
   refine cn (fun _ o=>P' eb' sz203 ((H.mono N1).mono o) z z aE)<|cn (fun _ o=>Y0.idxA underlying203 sz104 z z (by decide))<|cn (fun _ o=>ae' sc104 z (AtK.vecAt (H' (H' (X' H aE) N1) o) (by decide)))<|cn (fun _ o=>bL' z z (by decide))<|cn (fun _ o=>az' dl' cV' z) ?_
   obtain⟨aD,aJ,hr⟩:=hr
   refine aw' (post:=w101' aD) (fun _=>z) (fun _ _=>u' E38 z) (cP' aJ) z (fun G' o=>trivial) (fun v G1 G2 o h=>?_) ?_
   .obtain⟨ae,ad,aa,ac,rfl,D,C⟩:=h
    exact⟨_,_,_,_,z,D.mono o,C.mono o⟩
   obtain⟨q,aK,hr⟩:=hr
   refine aw' (post:=w101' q) (fun _=>z) (fun _ _=>u' E38 z) (cP' aK) z (fun G' o=>trivial) (fun v G1 G2 o h=>?_) ?_
   .obtain⟨c,g,f,i,rfl,F,E⟩:=h
    exact⟨_,_,_,_,z,F.mono o,E.mono o⟩
   refine cu (fun _ _ o=>m' 11 aT' z z (M' _ _ _))<|dL' (d:=67) (post:=w101' q) (d':=66) (post':=w101' aD) (fun a9 ba bg ai an ak=>?_)
   obtain⟨c,g,f,i,rfl,F,E⟩:=an
   obtain⟨ae,ad,aa,ac,rfl,D,C⟩:=ak
   refine yy (at' (vs:=#[(0,.agg ((v101' q c g f i)).toArray),(1,.agg (vecG (Value.int .i64) 8 t).toArray)]) (v:=.agg (((v101' q c g f i):List Value)++(vecG (Value.int .i64) 8 t)).toArray) z z (fun _=>by kernel_rfl)) z<|aD' (e:=152) (r:=r') (vs:=#[(0,.agg (((v101' q c g f i):List Value)++(vecG (Value.int .i64) 8 t)).toArray)]) (cs:=(((v101' q c g f i):List Value)++(vecG (Value.int .i64) 8 t))++([])) ([(Zb.mk q t)]:List Zb) z z z z z (by decide) (fun _=>by kernel_rfl) ⟨((v101' q c g f i):List Value)++(vecG (Value.int .i64) 8 t),[],z,⟨(v101' q c g f i),vecG (Value.int .i64) 8 t,z,⟨(v99' q.num c g),(v99' q.den f i),z,⟨[.bool q.num.neg],[.slice c q.num.mag.length g],z,z,⟨_,z,F⟩⟩,⟨[.bool q.den.neg],[.slice f q.den.mag.length i],z,z,⟨_,z,E⟩⟩⟩,z⟩,z⟩ (key:=999) z (by rw[aB]; rfl) (fun p2 bi W aW=>?_)
   obtain⟨bh,aP,hr⟩:=hr
   refine Q' z z (u' E136 z) (gi' aP) z (⟨(D.mono W),(C.mono W),aW⟩) (fun a6 bf aj am=>?_)
   obtain⟨a5,bb,rfl,aH⟩:=am
   obtain⟨aS,aF,hr⟩:=hr
   refine Q' z z (u' E114 z) (ew' aF) z (⟨(af.mono (mx (mx (mx (mx M X) ai) W) aj)),aH⟩) (fun a8 aZ aw al=>?_)
   obtain⟨aN,aM,rfl,aL⟩:=al
   have N2:=mx (mx (mx (mx (mx (mx s M) X) ai) W) aj) aw
   refine sg z z<|o'<|am'<|v'<|a'<|n'<|mv z z<|yy (I' z z) z<|sg z z<|o'<|C' ⟨aS,aN,aM,i64.wrap (j+1),aZ⟩ hr ⟨N2,aL⟩ (f6 z z z z z z) (w1 z)
 rintro⟨J,Q,T,Z⟩ ⟨a3,ax,hr⟩
 refine a'<|sr<|mv z z<|sx0 z z<|k' ?_
 obtain rfl:_=r:=hr
 exact j' z z ⟨_,_,z,ax⟩
theorem fx'{e d y x A B t s m l r}(hr:(Zef e d).Ret r):Ctr prog 45 #[.agg ((v31' e y x A B t s)).toArray,.agg ((v122' d m l)).toArray] (fun G=>sl Rp.str G y x e.vars/\sl e' G A B e.eqs/\sl e' G t s e.neqs/\sl (cy' .i8 5) G m l d.p.t) (w116' r):=by
 refine A' (args:=[_,_]) (N:=77) func45 z z z (fun w0 G0 aI aq=>?_)
 obtain⟨J,af,ad,P⟩:=aq
 refine sr<|Y' 2 z z z fun b1=>Y' 3 z z z fun b2=>O' 4 z z116 z fun W=>nr<|yy (aH' z) z<|yy (g' 2 bF' z z z) z<|yy (K' J' J z) z<|sx0 z z<|c'<|ad' [ff,ff,ff,ff,ff,ff,ff,ff,ff,ff,ff,ff,ff,ff,ff,ff,ff,ff,ff,ff,ff,ff,ff,ff,ff,ff,ff,ff,ff,ff,ff,ff,ff,ff,ff,ff] mix (by kernel_rfl) fun hb=>cn (fun _ f=>Y0.Zm5 z)<|cn (fun _ f=>g' 3 sc5 z z z)<|cn (fun _ f=>bL' z z (by decide))<|cn (fun _ f=>az' bm' aO' z)<|cn (fun _ f=>I' z z)<|cn (fun _ f=>Y0.Zj0 z)<|cn (fun _ f=>g' 3 sc5 z z z)<|cn (fun _ f=>az' bm' aO' z)<|cn (fun _ f=>f' z)<|cn (fun _ f=>I' z z) ?_
 obtain⟨ay,hr⟩:=hr
 refine cn (fun _ f=>bL' z z ay)<|cn (fun _ f=>Y0.Zm6 z)<|cn (fun _ f=>g' 3 sc5 z z z)<|cn (fun _ f=>az' bm' aO' z)<|cn (fun _ f=>f' z)<|cn (fun _ f=>I' z z) ?_
 obtain⟨ax,hr⟩:=hr
 refine cn (fun _ f=>bL' z z ax)<|cn (fun _ f=>Y0.Zj1 z)<|cn (fun _ f=>g' 3 sc5 z z z)<|cn (fun _ f=>az' bm' aO' z)<|cn (fun _ f=>bt' z)<|cn (fun _ f=>g' 2 sc3 z z z)<|cn (fun _ f=>I' z z) ?_
 obtain⟨ar,hr⟩:=hr
 refine cn (fun _ f=>bL' z z ar)<|cn (fun _ f=>Y0.Zm6 z)<|cn (fun _ f=>g' 3 sc5 z z z)<|cn (fun _ f=>bL' z z (by decide))<|cn (fun _ f=>au' z z) ?_
 obtain⟨O,aj,hr⟩:=hr
 refine aw' (post:=wl' Rp.str O) (fun _=>z) (fun _ _=>u' E84 z) (gh' aj) z (fun V f=>trivial) (fun v G1 G2 f h=>?_) ?_
 .obtain⟨L,K,rfl,C⟩:=h
  exact⟨_,_,z,C.mono f⟩
 refine cu (fun _ _ f=>Y0.Zj1 z)<|cu (fun _ _ f=>g' 3 sc5 z z z)<|cu (fun _ _ f=>bL' z z (by decide)) ?_
 obtain⟨I,ae,hr⟩:=hr
 refine bC' (φ:=fun G v=>∃ D F,v = .pointer (some ⟨pb D,po D+(Int.tmod d.n 6).toNat*1,none⟩)/\sl Rp.str G D F O) (fun _=>z) (fun v G1 G2 f h=>?_) (fun u V f hu=>?_) ?_
 .obtain⟨D,F,rfl,M⟩:=h
  exact⟨_,_,z,M.mono f⟩
 .obtain⟨⟨L,K,aa,C⟩,_⟩:=(show (wl' Rp.str O) V.m (u 38)/\True from hu)
  simp only[undFr,aa]
  exact⟨_,P' J' sz9 C z z ae,L,K,z,C⟩
 refine Chain.y0UD (c:=.string I) (fun _=>z) (fun u V f hu=>?_) ?_
 .obtain⟨⟨D,F,Y,M⟩,_,_⟩:=(show (fun G v=>∃ D F,v = .pointer (some ⟨pb D,po D+(Int.tmod d.n 6).toNat*1,none⟩)/\sl Rp.str G D F O) V.m (u 42)/\True/\True from hu)
  simp only[undFr,Y]
  exact ae' sc9 z (bT' (X' M ae))
 refine cu (fun _ _ f=>at' (vs:=#[(0,i' (i64.wrap (1+(i64.wrap (Int.tmod d.kind 16))))),(2,i' (Int.tmod (i64.wrap d.a) (i64.wrap ((e.vars.length:Int)+1)))),(3,i' (Int.tmod (i64.wrap d.b) (i64.wrap ((e.vars.length:Int)+1)))),(4,i' (Int.tmod (i64.wrap d.n) (i64.wrap (e.next+1)))),(6,.bool (decide ((Int.tmod d.b 4)=3))),(1,.string I)]) (v:=.agg ([i' (i64.wrap (1+(i64.wrap (Int.tmod d.kind 16)))),.string I,i' (Int.tmod (i64.wrap d.a) (i64.wrap ((e.vars.length:Int)+1))),i' (Int.tmod (i64.wrap d.b) (i64.wrap ((e.vars.length:Int)+1))),i' (Int.tmod (i64.wrap d.n) (i64.wrap (e.next+1))),.slice none 0 0,.bool (decide ((Int.tmod d.b 4)=3))]).toArray) z z (fun _=>by kernel_rfl))<|bJ' (fun _=>z) z116<|Chain.tailX3 (fun aK aF aG T am U S Q=>?_)
 obtain⟨b4,rfl,ah⟩:=U
 obtain⟨D,F,rfl,M⟩:=S
 obtain⟨L,K,rfl,C⟩:=Q
 refine di' ah (cJ' (show WL _ _ _ _ _ _ (St w0 G0 T.m _) from ?_))
 refine x' 6 z sz116 z z z z z (List.all_eq_true.1 z)<|o'<|am'<|a'<|aP' (fun (⟨g,j,k,o⟩:Zh×Option Addr×Nat×Mem)=>[(3,pt0 b2),(4,pt0 W),(5,i' (e.vars.length:Int)),(6,pt0 b4)]) (fun ⟨g,j,k,o⟩=>Mem.le T.m o/\sl r' o j k g.p/\(ZaM e d g).Ret r) (fun ⟨g,j,k,o⟩=>St w0 G0 o [(3,bk0 b2 (v122' d m l) 122),(4,bk0 W ([i' 0,.string ByteArray.empty,i' 0,i' 0,i' 0,.slice none 0 0,.bool false]) 116),(6,bk0 b4 (v116' g j k) 116)]) ?_ ?_
 .refine sr<|yy (Y0.Zm5 z) z<|yy (g' 3 sc5 z z z) z<|yy (bL' z z (by decide)) z<|yy (aV' z z) z<|nx<|E' hr z (fun au hr=>?_) (fun au hr=>?_)
  .refine sr<|yy (Y0.Zj0 z) z<|yy (g' 3 sc5 z z z) z<|yy (bL' z z (by decide)) z<|yy (az' bm' aO' z) z<|yy (I' z z) z<|yy (cZ' z) z<|aB' 6 ([i' (i64.wrap (5+(i64.wrap (Int.tmod d.a 4)))),.string I,i' (Int.tmod (i64.wrap d.a) (i64.wrap ((e.vars.length:Int)+1))),i' (Int.tmod (i64.wrap d.b) (i64.wrap ((e.vars.length:Int)+1))),i' (Int.tmod (i64.wrap d.n) (i64.wrap (e.next+1))),.slice none 0 0,.bool (decide ((Int.tmod d.b 4)=3))]).toArray z sz3 z z z (show 0<7 by decide) z z<|nr<|yy (Y0.Zj0 z) z<|yy (g' 3 sc5 z z z) z<|yy (bL' z z (by decide)) z<|yy (V' z z) z<|nx<|E' hr z (fun aw hr=>?_) (fun aw hr=>?_)
   .refine n'<|yy (cZ' z) z<|aB' 6 ([i' 5,.string I,i' (Int.tmod (i64.wrap d.a) (i64.wrap ((e.vars.length:Int)+1))),i' (Int.tmod (i64.wrap d.b) (i64.wrap ((e.vars.length:Int)+1))),i' (Int.tmod (i64.wrap d.n) (i64.wrap (e.next+1))),.slice none 0 0,.bool (decide ((Int.tmod d.b 4)=3))]).toArray z sz3 z z z (show 0<7 by decide) z z<|o'<|al' ⟨(Zh.mk 5 I (Int.tmod (i64.wrap d.a) (i64.wrap ((e.vars.length:Int)+1))) (Int.tmod (i64.wrap d.b) (i64.wrap ((e.vars.length:Int)+1))) (Int.tmod (i64.wrap d.n) (i64.wrap (e.next+1))) [] (decide ((Int.tmod d.b 4)=3))),none,0,T.m⟩ ⟨mr,(ah' _ _),hr⟩ (f4 z z z z) (w3 z z z)
   refine l'<|al' ⟨(Zh.mk (i64.wrap (5+(i64.wrap (Int.tmod d.a 4)))) I (Int.tmod (i64.wrap d.a) (i64.wrap ((e.vars.length:Int)+1))) (Int.tmod (i64.wrap d.b) (i64.wrap ((e.vars.length:Int)+1))) (Int.tmod (i64.wrap d.n) (i64.wrap (e.next+1))) [] (decide ((Int.tmod d.b 4)=3))),none,0,T.m⟩ ⟨mr,(ah' _ _),hr⟩ (f4 z z z z) (w3 z z z)
  refine l'<|al' ⟨(Zh.mk (i64.wrap (1+(i64.wrap (Int.tmod d.kind 16)))) I (Int.tmod (i64.wrap d.a) (i64.wrap ((e.vars.length:Int)+1))) (Int.tmod (i64.wrap d.b) (i64.wrap ((e.vars.length:Int)+1))) (Int.tmod (i64.wrap d.n) (i64.wrap (e.next+1))) [] (decide ((Int.tmod d.b 4)=3))),none,0,T.m⟩ ⟨mr,(ah' _ _),hr⟩ (f4 z z z z) (w3 z z z)
 rintro⟨g,j,k,o⟩ ⟨Z,H,hr⟩
 refine aP' (fun (⟨n,p,q,E⟩:Zh×Option Addr×Nat×Mem)=>[(3,pt0 b2),(4,pt0 W),(5,i' (e.vars.length:Int)),(6,pt0 b4)]) (fun ⟨n,p,q,E⟩=>Mem.le o E/\sl r' E p q n.p/\(Zca e d n).Ret r) (fun ⟨n,p,q,E⟩=>St w0 G0 E [(3,bk0 b2 (v122' d m l) 122),(4,bk0 W ([i' 0,.string ByteArray.empty,i' 0,i' 0,i' 0,.slice none 0 0,.bool false]) 116),(6,bk0 b4 (v116' n p q) 116)]) ?_ ?_
 .refine sr<|yy (cZ' z) z<|yy (g' 6 sc3 z z z) z<|ao' hr z (au' z z) z (fun az hr=>?_) (fun az hr=>?_)
  .refine mv z z<|gy z z (Y0.Zj1 z) z<|gy z z (g' 3 sc5 z z z) z<|gy z z (bL' z z (by decide)) z<|gy z z (aZ' z z) z<|yy (t' z z) z<|nx<|E' hr z (fun aA hr=>?_) (fun aA hr=>?_)
   .refine n'<|yy (bD' z) z<|aB' 6 ([i' g.kind,.string g.name,i' g.at',i' g.to',i' 0,.slice j g.p.length k,.bool g.neq]).toArray z sz3 z z z (show 4<7 by decide) z z<|o'<|al' ⟨(Zh.mk g.kind g.name g.at' g.to' 0 g.p g.neq),j,k,o⟩ ⟨mr,H,hr⟩ (f4 z z z z) (w3 z z z)
   refine l'<|al' ⟨g,j,k,o⟩ ⟨mr,H,hr⟩ (f4 z z z z) (w3 z z z)
  refine mv z z<|sn4 z<|yy (p' z z) z<|nx<|aK' z<|l'<|al' ⟨g,j,k,o⟩ ⟨mr,H,hr⟩ (f4 z z z z) (w3 z z z)
 rintro⟨n,p,q,E⟩ ⟨X,aB,hr⟩
 refine sr<|yy (Y0.Zqj z) z<|yy (aj' ([.slice m d.p.t.length l]).toArray 3 ag120 z z z (aq' ([.int .u8 d.kind,.int .u8 d.a,.int .u8 d.b,.int .u8 d.n]) ([.slice m d.p.t.length l]) ([]))) z<|mv z z<|yy (Y0.min2 z z) z ?_
 obtain⟨av,an,hr⟩:=hr
 refine Q' z z (u' E85 z) (gp' an) z ((P.mono (mx (mx am Z) X))) (fun aD aJ aC R=>?_)
 obtain⟨ag,ao,rfl,ai⟩:=R
 refine yy (Y0.ZhE z) z<|aB' 6 ([i' n.kind,.string n.name,i' n.at',i' n.to',i' n.id,.slice ag av.length ao,.bool n.neq]).toArray z sz44 z z z (show 5<7 by decide) z z<|nr<|yy (m' 6 ag116 z z z) z<|x' 4 z sz116 z z z z z (List.all_eq_true.1 z)<|nx<|k' ?_
 obtain rfl:_=r:=hr
 exact j' z (ak' (i:=4) ag116 z z z) ⟨_,_,z,ai⟩
theorem eU'{c r}(hr:(ZcJ c).Ret r):Ctr prog 177 #[.int .u8 c] (fun G=>True) (fun G v=>v = .bool r):=by
 refine A' (args:=[_]) (N:=17) func177 z z z fun j k i h=>sr<|sg z z<|nr<|mv z z<|ao' hr z (aV' z z) z (fun e hr=>?_) (fun e hr=>?_)
 .refine mv z z<|gy z z (f' z) z<|ao' hr (D' z z) (cb' z z) z (fun g hr=>?_) (fun g hr=>?_)
  .refine yy (t' z z) z<|mv z z<|sn3 z<|ar' (aa' z z) z<|ar' (aa' z z) z<|sf z z z<|yy (t' z z) z<|sx0 z z<|k' (k0' hr z z)
  refine yy (t' z z) z<|mv z z<|gy z z (f' z) z<|ao' hr (D' z z) (aV' z z) z (fun f hr=>?_) (fun f hr=>?_)
  .refine gy z z (f' z) z<|gy z z (f' z) z<|gy z z (cb' z z) z<|gy z z (t' z z) z<|yy (p' z z) z<|sx0 z z<|k' (k0' hr z z)
  refine gy z z (f' z) z<|sn2 z<|gy z z (p' z z) z<|yy (p' z z) z<|sx0 z z<|k' (k0' hr z z)
 refine mv z z<|sn2 z<|yy (p' z z) z<|mv z z<|gy z z (f' z) z<|ao' hr (D' z z) (aV' z z) z (fun d hr=>?_) (fun d hr=>?_)
 .refine gy z z (f' z) z<|gy z z (f' z) z<|gy z z (cb' z z) z<|gy z z (t' z z) z<|yy (p' z z) z<|sx0 z z<|k' (k0' hr z z)
 refine gy z z (f' z) z<|sn2 z<|gy z z (p' z z) z<|yy (p' z z) z<|sx0 z z<|k' (k0' hr z z)
theorem fy'{g r}(hr:(Zed g).Ret r):Ctr prog 125 #[.string g] (fun G=>True) (fun G v=>v = .bool r):=by
 refine A' (args:=[_]) (N:=48) func125 z z z fun m j S L=>sr<|sx0 z z<|aP' (fun (e:Mem)=>match e with|f=>[(0,.string g)]) (fun (e:Mem)=>match e with|f=>Mem.le j f/\(ZhT g).Ret r) (fun (e:Mem)=>match e with|f=>St m j f []) ?_ ?_
 .refine sr<|mv z z<|yy (Y0.lenS aI' z) z<|ao' hr z (V' z z) z (fun F hr=>?_) (fun F hr=>?_)
  .refine mv z z<|sn3 z<|yy (t' z z) z<|mv z z<|sn4 z<|yy (t' z z) z<|nx<|av' z<|sr<|sx0 z z<|k'<|b' (k0' hr z z)
  refine mv z z<|gy z z (f' z) z<|gy z z (Y0.lenS aI' z) z<|ao' hr (D' z z) (aZ' z z) z (fun C hr=>?_) (fun C hr=>?_)
  .refine yy (p' z z) z<|mv z z<|sn4 z<|yy (t' z z) z<|nx<|av' z<|sr<|sx0 z z<|k'<|b' (k0' hr z z)
  refine yy (p' z z) z<|mv z z<|gy z z (f' z) z ?_
  obtain⟨p,hr⟩:=hr
  refine gy z z (cT' (s:=g) aI' z z p) z ?_
  obtain⟨Q,l,hr⟩:=hr
  refine B' (D' z z) z (u' E177 z) (eU' l) z (trivial)<|gy z z (an' z) z<|yy (p' z z) z<|nx<|ay' hr z (fun y hr=>?_) (fun y hr=>?_)
  .refine sr<|sx0 z z<|k'<|b' (k0' hr z z)
  refine l'<|al' j ⟨mr,hr⟩ (f1 z) (wk ln)
 rintro f ⟨J,hr⟩
 refine c'<|sr<|sx0 z z<|R' (fun (e:Mem)=>match e with|i=>[]) (fun (e:Mem)=>match e with|i=>Mem.le f i/\(Ze8).Ret r) (fun (e:Mem)=>match e with|i=>St m j i []) ?_ ?_
 .refine s' ?_
  let k:(Bool⊕Unit)->Prop:=fun O=>((fun M=>match M with | .inl rv1=>Cq.ret rv1 | .inr ()=>Ze8:(Bool⊕Unit)->Cq Bool) O).wp (fun a=>a=r)
  replace hr:(Cq.loop _ _).wp k:=hr
  refine T' (Φ:=k) (fun (⟨h,c⟩:Int×Mem)=>(h:Int)) (fun ⟨h,c⟩=>[(0,.string g),(3,i' h)]) (fun ⟨h,c⟩=>Mem.le f c) (fun ⟨h,c⟩=>St m j c []) ⟨1,f⟩ hr (f2 z z) mr (wk ln) ?_
  .intro R e P hr
   obtain⟨h,c⟩:=e
   have d:=P
   refine c'<|sr<|mv z z<|mv z z<|yy (Y0.lenS aI' z) z<|yy (V' z z) z<|nx<|E' hr z (fun I hr=>?_) (fun I hr=>?_)
   .refine l'<|a'<|c'<|s'<|sr<|mv z z<|mv z z ?_
    obtain⟨o,hr⟩:=hr
    refine yy (cT' (s:=g) aI' z z o) z ?_
    obtain⟨u,n,hr⟩:=hr
    refine B' z z (u' E177 z) (eU' n) z (trivial) ?_
    cases u
    .refine yy (an' z) z<|mv z z<|gy z z (f' z) z<|gy z z (f' z) z ?_
     obtain⟨t,hr⟩:=hr
     refine gy z z (cT' (s:=g) aI' z z t) z<|ao' hr (D' z z) (aV' z z) z (fun E hr=>?_) (fun E hr=>?_)
     .refine gy z z (f' z) z<|gy z z (f' z) z<|gy z z (f' z) z ?_
      obtain⟨D,hr⟩:=hr
      refine gy z z (cT' (s:=g) aI' z z D) z<|ao' hr (D' z z) (cb' z z) z (fun B hr=>?_) (fun B hr=>?_)
      .refine gy z z (t' z z) z<|gy z z (an' z) z<|yy (t' z z) z<|mv z z<|sn4 z<|yy (p' z z) z<|nx<|aK' z<|l'<|v'<|a'<|n'<|mv z z<|yy (I' z z) z<|sg z z<|o'<|C' ⟨i64.wrap (h+1),c⟩ hr d (f2 z z) (wk ln)
      refine gy z z (t' z z) z<|gy z z (an' z) z<|yy (t' z z) z<|mv z z<|gy z z (f' z) z<|gy z z (f' z) z ?_
      obtain⟨x,hr⟩:=hr
      refine gy z z (cT' (s:=g) aI' z z x) z<|gy z z (bj' z z) z<|yy (t' z z) z<|nx<|E' hr z (fun A hr=>?_) (fun A hr=>?_)
      .refine sr<|sx0 z z<|k'<|w'<|b'<|b'<|w'<|ap'<|b' (k0' hr z z)
      refine l'<|v'<|a'<|n'<|mv z z<|yy (I' z z) z<|sg z z<|o'<|C' ⟨i64.wrap (h+1),c⟩ hr d (f2 z z) (wk ln)
     refine gy z z (f' z) z<|sn4 z<|gy z z (p' z z) z<|gy z z (an' z) z<|yy (t' z z) z<|mv z z<|gy z z (f' z) z<|gy z z (f' z) z ?_
     obtain⟨q,hr⟩:=hr
     refine gy z z (cT' (s:=g) aI' z z q) z<|gy z z (bj' z z) z<|yy (t' z z) z<|nx<|E' hr z (fun H hr=>?_) (fun H hr=>?_)
     .refine sr<|sx0 z z<|k'<|w'<|b'<|b'<|w'<|ap'<|b' (k0' hr z z)
     refine l'<|v'<|a'<|n'<|mv z z<|yy (I' z z) z<|sg z z<|o'<|C' ⟨i64.wrap (h+1),c⟩ hr d (f2 z z) (wk ln)
    refine yy (an' z) z<|mv z z<|sn5 z<|ar' (aa' z z) z<|ar' (aa' z z) z<|ar' (aa' z z) z<|ar' (aa' z z) z<|sn2 z<|yy (p' z z) z<|mv z z<|sn4 z<|yy (p' z z) z<|nx<|aK' z<|l'<|v'<|a'<|n'<|mv z z<|yy (I' z z) z<|sg z z<|o'<|C' ⟨i64.wrap (h+1),c⟩ hr d (f2 z z) (wk ln)
   refine U'<|h'<|h'<|y'<|W' c ⟨d,hr⟩ fn (wk ln)
 rintro i ⟨K,hr⟩
 refine a'<|sr<|sx0 z z<|k' (k0' hr z z)
theorem ff'{p l d e k j f h r}(hr:(ZeA p l).Ret r):Ctr prog 126 #[.agg ((v31' p d e k j f h)).toArray,.string l] (fun G=>y31' G d e k j f h p) (fun G v=>v=i' r):=by
 refine A' (args:=[_,_]) (N:=21) func126 z z z (fun C q K u=>?_)
 obtain⟨g,A,x⟩:=u
 refine sr<|Y' 2 z z z fun y=>sx0 z z<|c'<|sr<|sx0 z z<|R' (fun (n:Mem)=>match n with|m=>[]) (fun (n:Mem)=>match n with|m=>Mem.le q m/\(Zeh).Ret r) (fun (n:Mem)=>match n with|m=>St C q m []) ?_ ?_
 .refine s' ?_
  let s:(Int⊕Unit)->Prop:=fun H=>((fun F=>match F with | .inl rv1=>Cq.ret rv1 | .inr ()=>Zeh:(Int⊕Unit)->Cq Int) H).wp (fun a=>a=r)
  replace hr:(Cq.loop _ _).wp s:=hr
  refine T' (Φ:=s) (fun (⟨o,i⟩:Int×Mem)=>(o:Int)) (fun ⟨o,i⟩=>[(1,.string l),(2,pt0 y),(5,i' o)]) (fun ⟨o,i⟩=>Mem.le q i) (fun ⟨o,i⟩=>St C q i [(2,bk0 y (v31' p d e k j f h) 31)]) ⟨0,q⟩ hr (f3 z z z) mr (w1 z) ?_
  .intro J n I hr
   obtain⟨o,i⟩:=n
   have c:=I
   refine c'<|sr<|mv z z<|yy (aH' z) z<|yy (g' 2 bF' z z z) z<|yy (K' J' (g.mono c) z) z<|yy (V' z z) z<|nx<|E' hr z (fun D hr=>?_) (fun D hr=>?_)
   .refine l'<|a'<|c'<|s'<|sr<|yy (aH' z) z<|yy (g' 2 bF' z z z) z<|mv z z ?_
    obtain⟨L,t,hr⟩:=hr
    refine yy (P' J' sz9 (g.mono c) z z t) z<|yy (ae' sc9 z (bT' (H' (X' g t) c))) z<|mv z z<|yy (Y0.eqlS aI' z z) z<|nx<|E' hr z (fun B hr=>?_) (fun B hr=>?_)
    .refine sr<|mv z z<|sx0 z z<|k'<|w'<|b'<|b'<|w'<|ap'<|b' (k0' hr z z)
    refine l'<|v'<|a'<|n'<|mv z z<|yy (I' z z) z<|sg z z<|o'<|C' ⟨i64.wrap (o+1),i⟩ hr c (f3 z z z) (w1 z)
   refine U'<|h'<|h'<|y'<|W' i ⟨c,hr⟩ fn (wk ln)
 rintro m ⟨E,hr⟩
 refine a'<|sr<|sx0 z z<|k' (k0' hr z z)
theorem eH'{k j c d h g e f r}(hr:(Zei k j).Ret r):Ctr prog 127 #[.agg ((v31' k c d h g e f)).toArray,i' j] (fun G=>y31' G c d h g e f k) (fun G v=>v = .bool r):=by
 refine A' (args:=[_,_]) (N:=14) func127 z z z (fun t s p l=>?_)
 obtain⟨i,n,m⟩:=l
 refine sr<|Y' 2 z z z fun q=>sg z z<|nr<|mv z z<|ao' hr z (aV' z z) z (fun o hr=>?_) (fun o hr=>?_)
 .refine mv z z<|gy z z (f' z) z<|gy z z (aH' z) z<|gy z z (g' 2 bF' z z z) z<|gy z z (K' J' i z) z<|gy z z (V' z z) z<|yy (t' z z) z<|sx0 z z<|k' (k0' hr z z)
 refine mv z z<|sn5 z<|yy (p' z z) z<|sx0 z z<|k' (k0' hr z z)
theorem gB'{k r}(hr:(ZjN k).Ret r):Ctr prog 160 #[i' k] (fun G=>True) (fun G v=>v = .int .u8 r):=by
 refine A' (args:=[_]) (N:=14) func160 z z z fun l i x o=>sr<|sg z z<|nr<|sx0 z z<|c'<|sr<|sx0 z z<|R' (fun (⟨g,d⟩:Int×Mem)=>[(3,i' g)]) (fun ⟨g,d⟩=>Mem.le i d/\(ZfI g).Ret r) (fun ⟨g,d⟩=>St l i d []) ?_ ?_
 .refine s' ?_
  let j:Int->Prop:=fun s=>((fun p=>match p with|g=>ZfI g:Int->Cq Int) s).wp (fun a=>a=r)
  replace hr:(Cq.loop _ _).wp j:=hr
  refine T' (Φ:=j) (fun (⟨e,f,c⟩:Int×Int×Mem)=>((e,f):Int×Int)) (fun ⟨e,f,c⟩=>[(0,i' k),(3,i' e),(4,i' f)]) (fun ⟨e,f,c⟩=>Mem.le i c) (fun ⟨e,f,c⟩=>St l i c []) ⟨1,0,i⟩ hr (f3 z z z) mr (wk ln) ?_
  .intro u q t hr
   obtain⟨e,f,c⟩:=q
   have h:=t
   refine c'<|sr<|mv z z<|mv z z<|yy (V' z z) z<|nx<|E' hr z (fun m hr=>?_) (fun m hr=>?_)
   .refine l'<|a'<|c'<|s'<|n'<|mv z z<|yy (dy' z z) z<|sg z z<|o'<|v'<|a'<|n'<|mv z z<|yy (I' z z) z<|sg z z<|o'<|C' ⟨i64.wrap (2*e),i64.wrap (f+1),c⟩ hr h (f3 z z z) (wk ln)
   refine U'<|h'<|h'<|y'<|W' ⟨e,c⟩ ⟨h,hr⟩ (f1 z) (wk ln)
 rintro⟨g,d⟩ ⟨n,hr⟩
 refine a'<|sr<|mv z z<|yy (az' aO' bm' z) z<|sx0 z z<|k' (k0' hr z z)
theorem fW'{l r}(hr:(Ze2 l).Ret r):Ctr prog 109 #[.agg (vecG (Value.int .i64) 8 l).toArray] (fun G=>True) (fun G v=>v = .int .u8 r):=by
 refine A' (args:=[_]) (N:=18) func109 z z z fun q i D u=>sr<|Y' 1 z z z fun n=>sg z z<|nr<|sx0 z z<|c'<|sr<|sx0 z z<|R' (fun (⟨h,f⟩:Int×Mem)=>[(3,.int .u8 h)]) (fun ⟨h,f⟩=>Mem.le i f/\(Zc8 h).Ret r) (fun ⟨h,f⟩=>St q i f []) ?_ ?_
 .refine s' ?_
  let j:Int->Prop:=fun A=>((fun x=>match x with|h=>Zc8 h:Int->Cq Int) A).wp (fun a=>a=r)
  replace hr:(Cq.loop _ _).wp j:=hr
  refine T' (Φ:=j) (fun (⟨d,g,c⟩:Int×Int×Mem)=>((d,g):Int×Int)) (fun ⟨d,g,c⟩=>[(1,pt0 n),(3,.int .u8 d),(4,i' g)]) (fun ⟨d,g,c⟩=>Mem.le i c) (fun ⟨d,g,c⟩=>St q i c [(1,bk0 n (vecG (Value.int .i64) 8 l) 110)]) ⟨0,0,i⟩ hr (f3 z z z) mr (w1 z) ?_
  .intro C y B hr
   obtain⟨d,g,c⟩:=y
   have e:=B
   refine c'<|sr<|mv z z<|yy (V' z z) z<|nx<|E' hr z (fun s hr=>?_) (fun s hr=>?_)
   .refine l'<|a'<|c'<|s'<|sr<|mv z z ?_
    obtain⟨k,hr⟩:=hr
    refine yy (aQ' ag' sz3 z z k) z<|yy (g' 1 sc3 z z (bo' _ _ _ k)) z<|yy (aZ' z z) z<|nx<|E' hr z (fun p hr=>?_) (fun p hr=>?_)
    .refine n'<|mv z z<|mv z z ?_
     obtain⟨o,m,hr⟩:=hr
     refine B' z z (u' E160 z) (gB' m) z (trivial)<|yy (I' z z) z<|sg z z<|o'<|v'<|a'<|n'<|mv z z<|yy (I' z z) z<|sg z z<|o'<|C' ⟨u8.wrap (d+o),i64.wrap (g+1),c⟩ hr e (f3 z z z) (w1 z)
    refine l'<|v'<|a'<|n'<|mv z z<|yy (I' z z) z<|sg z z<|o'<|C' ⟨d,i64.wrap (g+1),c⟩ hr e (f3 z z z) (w1 z)
   refine U'<|h'<|h'<|y'<|W' ⟨d,c⟩ ⟨e,hr⟩ (f1 z) (wk ln)
 rintro⟨h,f⟩ ⟨t,hr⟩
 refine a'<|sr<|mv z z<|sx0 z z<|k' (k0' hr z z)
theorem en'{n k j r}(hr:(Zea n).Ret r):Ctr prog 67 #[.slice k n.length j] (fun G=>sl r' G k j n) (fun G v=>v = .int .u8 r):=by
 refine A' (args:=[_]) (N:=20) func67 z z z (fun t i E p=>?_)
 have l:=p
 refine sr<|sg z z<|nr<|sx0 z z<|c'<|sr<|sx0 z z<|R' (fun (⟨d,g⟩:Int×Mem)=>[(3,.int .u8 d)]) (fun ⟨d,g⟩=>Mem.le i g/\(Ze7 d).Ret r) (fun ⟨d,g⟩=>St t i g []) ?_ ?_
 .refine s' ?_
  let m:Int->Prop:=fun B=>((fun y=>match y with|d=>Ze7 d:Int->Cq Int) B).wp (fun a=>a=r)
  replace hr:(Cq.loop _ _).wp m:=hr
  refine T' (Φ:=m) (fun (⟨c,h,f⟩:Int×Int×Mem)=>((c,h):Int×Int)) (fun ⟨c,h,f⟩=>[(0,.slice k n.length j),(3,.int .u8 c),(4,i' h)]) (fun ⟨c,h,f⟩=>Mem.le i f) (fun ⟨c,h,f⟩=>St t i f []) ⟨0,0,i⟩ hr (f3 z z z) mr (wk ln) ?_
  .intro D A C hr
   obtain⟨c,h,f⟩:=A
   have e:=C
   refine c'<|sr<|mv z z<|mv z z<|yy (K' F' (l.mono e) z) z<|yy (V' z z) z<|nx<|E' hr z (fun u hr=>?_) (fun u hr=>?_)
   .refine l'<|a'<|c'<|s'<|n'<|mv z z<|mv z z<|mv z z ?_
    obtain⟨F,o,hr⟩:=hr
    refine yy (P' F' bh' (l.mono e) z z o) z<|yy (aL' z) z<|yy (as' _ aT' z (M' _ _ _) (cG' (H' (bP' (aS' (X' l o))) e))) z ?_
    obtain⟨s,q,hr⟩:=hr
    refine B' z z (u' E109 z) (fW' q) z (trivial)<|yy (Y0.or z z) z<|sg z z<|o'<|v'<|a'<|n'<|mv z z<|yy (I' z z) z<|sg z z<|o'<|C' ⟨u8.wrap (BitVec.ofInt u8.bits c ||| BitVec.ofInt u8.bits s).toNat,i64.wrap (h+1),f⟩ hr e (f3 z z z) (wk ln)
   refine U'<|h'<|h'<|y'<|W' ⟨c,f⟩ ⟨e,hr⟩ (f1 z) (wk ln)
 rintro⟨d,g⟩ ⟨x,hr⟩
 refine a'<|sr<|mv z z<|sx0 z z<|k' (k0' hr z z)
theorem gq'{s i c d h g e f r}(hr:(Zik s i).Ret r):Ctr prog 128 #[.agg ((v31' s c d h g e f)).toArray,i' i] (fun G=>y31' G c d h g e f s) (fun G v=>v = .bool r):=by
 refine A' (args:=[_,_]) (N:=45) func128 z z z (fun E y ah J=>?_)
 obtain⟨P,q,m⟩:=J
 refine sr<|Y' 2 z z z fun B=>sx0 z z<|c'<|sr<|sx0 z z<|R' (fun (j:Mem)=>match j with|p=>[(1,i' i),(2,pt0 B)]) (fun (j:Mem)=>match j with|p=>Mem.le y p/\(Zds s i).Ret r) (fun (j:Mem)=>match j with|p=>St E y p [(2,bk0 B (v31' s c d h g e f) 31)]) ?_ ?_
 .refine s' ?_
  let C:(Bool⊕Unit)->Prop:=fun M=>((fun K=>match K with | .inl rv2=>Cq.ret rv2 | .inr ()=>Zds s i:(Bool⊕Unit)->Cq Bool) M).wp (fun a=>a=r)
  replace hr:(Cq.loop _ _).wp C:=hr
  refine T' (Φ:=C) (fun (⟨x,o⟩:Int×Mem)=>(x:Int)) (fun ⟨x,o⟩=>[(1,i' i),(2,pt0 B),(5,i' x)]) (fun ⟨x,o⟩=>Mem.le y o) (fun ⟨x,o⟩=>St E y o [(2,bk0 B (v31' s c d h g e f) 31)]) ⟨0,y⟩ hr (f3 z z z) mr (w1 z) ?_
  .intro ae j L hr
   obtain⟨x,o⟩:=j
   have l:=L
   refine c'<|sr<|mv z z<|yy (aF' z) z<|yy (g' 2 bc' z z z) z<|yy (K' N' (q.mono l) z) z<|yy (V' z z) z<|nx<|E' hr z (fun Y hr=>?_) (fun Y hr=>?_)
   .refine l'<|a'<|c'<|s'<|sr<|yy (aF' z) z<|yy (g' 2 bc' z z z) z<|mv z z ?_
    obtain⟨x2,F,hr⟩:=hr
    refine yy (P' N' bK' (q.mono l) z z F) z<|yy (ck' z) z ?_
    obtain⟨p2,ac,V,X⟩:=dg' (H' (bP' (aS' (X' q F))) l)
    refine yy (ae' sc44 z (V)) z ?_
    obtain⟨ab,I,hr⟩:=hr
    refine B' z z (u' E67 z) (en' I) z (X)<|yy (az' bm' aO' z) z<|mv z z ?_
    obtain⟨Q,hr⟩:=hr
    refine yy (Y0.shr z z Q) z<|yy (bL' z z (by decide)) z<|yy (au' z z) z<|nx<|E' hr z (fun T hr=>?_) (fun T hr=>?_)
    .refine sr<|sx0 z z<|k'<|w'<|b'<|b'<|w'<|ap'<|b' (k0' hr z z)
    refine l'<|v'<|a'<|n'<|mv z z<|yy (I' z z) z<|sg z z<|o'<|C' ⟨i64.wrap (x+1),o⟩ hr l (f3 z z z) (w1 z)
   refine U'<|h'<|h'<|y'<|W' o ⟨l,hr⟩ (f2 z z) (w1 z)
 rintro p ⟨t,hr⟩
 refine a'<|c'<|sr<|sx0 z z<|R' (fun (j:Mem)=>match j with|u=>[]) (fun (j:Mem)=>match j with|u=>Mem.le p u/\(Zfd).Ret r) (fun (j:Mem)=>match j with|u=>St E y u []) ?_ ?_
 .refine s' ?_
  let D:(Bool⊕Unit)->Prop:=fun M=>((fun K=>match K with | .inl rv1=>Cq.ret rv1 | .inr ()=>Zfd:(Bool⊕Unit)->Cq Bool) M).wp (fun a=>a=r)
  replace hr:(Cq.loop _ _).wp D:=hr
  refine T' (Φ:=D) (fun (⟨A,n⟩:Int×Mem)=>(A:Int)) (fun ⟨A,n⟩=>[(1,i' i),(2,pt0 B),(6,i' A)]) (fun ⟨A,n⟩=>Mem.le p n) (fun ⟨A,n⟩=>St E y n [(2,bk0 B (v31' s c d h g e f) 31)]) ⟨0,p⟩ hr (f3 z z z) mr (w1 z) ?_
  .intro af j L hr
   obtain⟨A,n⟩:=j
   have k:=L
   refine c'<|sr<|mv z z<|yy (aG' z) z<|yy (g' 2 bc' z z z) z<|yy (K' N' (m.mono (mx t k)) z) z<|yy (V' z z) z<|nx<|E' hr z (fun Z hr=>?_) (fun Z hr=>?_)
   .refine l'<|a'<|c'<|s'<|sr<|yy (aG' z) z<|yy (g' 2 bc' z z z) z<|mv z z ?_
    obtain⟨x1,H,hr⟩:=hr
    refine yy (P' N' bK' (m.mono (mx t k)) z z H) z<|yy (ck' z) z ?_
    obtain⟨p1,ag,R,W⟩:=dg' (H' (bP' (aS' (X' m H))) (mx t k))
    refine yy (ae' sc44 z (R)) z ?_
    obtain⟨ad,O,hr⟩:=hr
    refine B' z z (u' E67 z) (en' O) z (W)<|yy (az' bm' aO' z) z<|mv z z ?_
    obtain⟨S,hr⟩:=hr
    refine yy (Y0.shr z z S) z<|yy (bL' z z (by decide)) z<|yy (au' z z) z<|nx<|E' hr z (fun U hr=>?_) (fun U hr=>?_)
    .refine sr<|sx0 z z<|k'<|w'<|b'<|b'<|w'<|ap'<|b' (k0' hr z z)
    refine l'<|v'<|a'<|n'<|mv z z<|yy (I' z z) z<|sg z z<|o'<|C' ⟨i64.wrap (A+1),n⟩ hr k (f3 z z z) (w1 z)
   refine U'<|h'<|h'<|y'<|W' n ⟨k,hr⟩ fn (wk ln)
 rintro u ⟨aa,hr⟩
 refine a'<|sr<|sx0 z z<|k' (k0' hr z z)
theorem dP'{n j m l r}(hr:(Zcj n j).Ret r):Ctr prog 132 #[.slice m n.length l,i' j] (fun G=>sl e' G m l n) (fun G v=>v=i' r):=by
 refine A' (args:=[_,_]) (N:=20) func132 z z z (fun s i C p=>?_)
 have h:=p
 refine sr<|sx0 z z<|c'<|sr<|sx0 z z<|R' (fun (f:Mem)=>match f with|e=>[]) (fun (f:Mem)=>match f with|e=>Mem.le i e/\(Zfc).Ret r) (fun (f:Mem)=>match f with|e=>St s i e []) ?_ ?_
 .refine s' ?_
  let k:(Int⊕Unit)->Prop:=fun y=>((fun x=>match x with | .inl rv1=>Cq.ret rv1 | .inr ()=>Zfc:(Int⊕Unit)->Cq Int) y).wp (fun a=>a=r)
  replace hr:(Cq.loop _ _).wp k:=hr
  refine T' (Φ:=k) (fun (⟨g,d⟩:Int×Mem)=>(g:Int)) (fun ⟨g,d⟩=>[(0,.slice m n.length l),(1,i' j),(5,i' g)]) (fun ⟨g,d⟩=>Mem.le i d) (fun ⟨g,d⟩=>St s i d []) ⟨0,i⟩ hr (f3 z z z) mr (wk ln) ?_
  .intro B f A hr
   obtain⟨g,d⟩:=f
   have c:=A
   refine c'<|sr<|mv z z<|mv z z<|yy (K' N' (h.mono c) z) z<|yy (V' z z) z<|nx<|E' hr z (fun t hr=>?_) (fun t hr=>?_)
   .refine l'<|a'<|c'<|s'<|sr<|mv z z<|mv z z ?_
    obtain⟨D,o,hr⟩:=hr
    refine yy (P' N' bK' (h.mono c) z z o) z<|yy (bl' z) z<|yy (ae' sc3 z (aA' (H' (bS' (aS' (X' h o))) c))) z<|mv z z<|yy (au' z z) z<|nx<|E' hr z (fun q hr=>?_) (fun q hr=>?_)
    .refine sr<|mv z z<|sx0 z z<|k'<|w'<|b'<|b'<|w'<|ap'<|b' (k0' hr z z)
    refine l'<|v'<|a'<|n'<|mv z z<|yy (I' z z) z<|sg z z<|o'<|C' ⟨i64.wrap (g+1),d⟩ hr c (f3 z z z) (wk ln)
   refine U'<|h'<|h'<|y'<|W' d ⟨c,hr⟩ fn (wk ln)
 rintro e ⟨u,hr⟩
 refine a'<|sr<|sx0 z z<|k' (k0' hr z z)
theorem fL'{k l c d h g e f r}(hr:(ZhC k l).Ret r):Ctr prog 178 #[.agg ((v31' k c d h g e f)).toArray,i' l] (fun G=>y31' G c d h g e f k) (fun G v=>v = .bool r):=by
 refine A' (args:=[_,_]) (N:=17) func178 z z z (fun A y u n=>?_)
 obtain⟨p,j,i⟩:=n
 refine sr<|Y' 2 z z z fun x=>sg z z<|nr<|yy (aF' z) z<|yy (g' 2 bc' z z z) z<|mv z z ?_
 obtain⟨t,o,hr⟩:=hr
 refine B' z z (u' E132 z) (dP' o) z (j)<|ao' hr z (aV' z z) z (fun q hr=>?_) (fun q hr=>?_)
 .refine mv z z<|sn5 z<|yy (t' z z) z<|sx0 z z<|k' (k0' hr z z)
 refine mv z z<|gy z z (aG' z) z<|gy z z (g' 2 bc' z z z) z<|gy z z (f' z) z ?_
 obtain⟨s,m,hr⟩:=hr
 refine B' (D' z z) z (u' E132 z) (dP' m) z (i)<|gy z z (aV' z z) z<|yy (p' z z) z<|sx0 z z<|k' (k0' hr z z)
theorem fg'{g e d r}(hr:(ZgF g).Ret r):Ctr prog 240 #[.agg ((v99' g e d)).toArray] (fun G=>sl (Rp.int .u32) G e d g.mag) (fun G v=>v = .bool r):=by
 refine A' (args:=[_]) (N:=19) func240 z z z (fun l n j h=>?_)
 have c:=h
 refine sr<|Y' 1 z z z fun k=>sg z z<|nr<|yy (ax' z) z<|yy (g' 1 bs' z z z) z<|yy (K' q' c z) z<|sx0 z z<|c'<|sr<|mv z z<|yy (au' z z) z<|nx<|E' hr z (fun i hr=>?_) (fun i hr=>?_)
 .exact (show False from hr).elim
 refine l'<|a'<|sr<|yy (ax' z) z<|yy (g' 1 bs' z z z) z<|mv z z<|yy (be' z z) z ?_
 obtain⟨m,f,hr⟩:=hr
 refine yy (P' q' aM' c z z f) z<|yy (ae' bu' z (aA' (X' c f))) z<|yy (bj' z z) z<|sx0 z z<|k' (k0' hr z z)
theorem gC'{n j h f g e r}(hr:(ZmV n j).Ret r):Ctr prog 241 #[.agg ((v99' n h f)).toArray,.agg ((v99' j g e)).toArray] (fun G=>sl (Rp.int .u32) G h f n.mag/\sl (Rp.int .u32) G g e j.mag) (fun G v=>v=i' r):=by
 refine A' (args:=[_,_]) (N:=31) func241 z z z (fun L K I m=>?_)
 obtain⟨c,d⟩:=m
 refine sr<|Y' 2 z z z fun M=>Y' 3 z z z fun J=>sx0 z z<|c'<|sr<|yy (aX' z) z<|ao' hr z (cp' (g' 2 sc4 z z z) (congrArg Value.bool (bdec _))) z (fun y hr=>?_) (fun y hr=>?_)
 .refine mv z z<|gy z z (aX' z) z<|gy z z (g' 3 sc4 z z z) z<|gy z z (an' z) z<|yy (t' z z) z<|nx<|ay' hr z (fun C hr=>?_) (fun C hr=>?_)
  .exact (show False from hr).elim
  refine l'<|a'<|c'<|sr<|yy (aX' z) z<|ao' hr z (cp' (g' 2 sc4 z z z) (congrArg Value.bool (bdec _))) z (fun u hr=>?_) (fun u hr=>?_)
  .refine yy (an' z) z<|mv z z<|sn2 z<|yy (p' z z) z<|nx<|aK' z<|l'<|a'<|c'<|sr<|yy (aX' z) z<|yy (g' 2 sc4 z z z) z<|nx<|ay' hr z (fun t hr=>?_) (fun t hr=>?_)
   .exact (show False from hr).elim
   refine l'<|a'<|sr<|yy (ax' z) z<|yy (g' 2 bs' z z z) z<|yy (ax' z) z<|yy (g' 3 bs' z z z) z ?_
   obtain⟨F,o,hr⟩:=hr
   refine B' z z (u' E225 z) (cF' o) z (⟨c,d⟩)<|sx0 z z<|k' (k0' hr z z)
  refine yy (an' z) z<|mv z z<|gy z z (aX' z) z<|gy z z (g' 3 sc4 z z z) z<|yy (t' z z) z<|nx<|ay' hr z (fun B hr=>?_) (fun B hr=>?_)
  .exact (show False from hr).elim
  refine l'<|a'<|c'<|sr<|yy (aX' z) z<|yy (g' 2 sc4 z z z) z<|nx<|ay' hr z (fun q hr=>?_) (fun q hr=>?_)
  .exact (show False from hr).elim
  refine l'<|a'<|sr<|yy (ax' z) z<|yy (g' 2 bs' z z z) z<|yy (ax' z) z<|yy (g' 3 bs' z z z) z ?_
  obtain⟨D,i,hr⟩:=hr
  refine B' z z (u' E225 z) (cF' i) z (⟨c,d⟩)<|sx0 z z<|k' (k0' hr z z)
 refine mv z z<|sn3 z<|yy (p' z z) z<|nx<|aK' z<|l'<|a'<|c'<|sr<|yy (aX' z) z<|ao' hr z (cp' (g' 2 sc4 z z z) (congrArg Value.bool (bdec _))) z (fun A hr=>?_) (fun A hr=>?_)
 .refine yy (an' z) z<|mv z z<|sn2 z<|yy (p' z z) z<|nx<|aK' z<|l'<|a'<|c'<|sr<|yy (aX' z) z<|yy (g' 2 sc4 z z z) z<|nx<|ay' hr z (fun p hr=>?_) (fun p hr=>?_)
  .exact (show False from hr).elim
  refine l'<|a'<|sr<|yy (ax' z) z<|yy (g' 2 bs' z z z) z<|yy (ax' z) z<|yy (g' 3 bs' z z z) z ?_
  obtain⟨H,l,hr⟩:=hr
  refine B' z z (u' E225 z) (cF' l) z (⟨c,d⟩)<|sx0 z z<|k' (k0' hr z z)
 refine yy (an' z) z<|mv z z<|gy z z (aX' z) z<|gy z z (g' 3 sc4 z z z) z<|yy (t' z z) z<|nx<|ay' hr z (fun x hr=>?_) (fun x hr=>?_)
 .exact (show False from hr).elim
 refine l'<|a'<|c'<|sr<|yy (aX' z) z<|yy (g' 2 sc4 z z z) z<|nx<|ay' hr z (fun s hr=>?_) (fun s hr=>?_)
 .exact (show False from hr).elim
 refine l'<|a'<|sr<|yy (ax' z) z<|yy (g' 2 bs' z z z) z<|yy (ax' z) z<|yy (g' 3 bs' z z z) z ?_
 obtain⟨E,k,hr⟩:=hr
 refine B' z z (u' E225 z) (cF' k) z (⟨c,d⟩)<|sx0 z z<|k' (k0' hr z z)
theorem gj'{g f e d c r}(hr:(Zew g).Ret r):Ctr prog 230 #[.agg ((v101' g f e d c)).toArray] (fun G=>sl (Rp.int .u32) G f e g.num.mag/\sl (Rp.int .u32) G d c g.den.mag) (fun G v=>v = .bool r):=by
 refine A' (args:=[_]) (N:=27) func230 z z z (fun P A X B=>?_)
 obtain⟨i,h⟩:=B
 refine sr<|Y' 1 z z z fun I=>sx0 z z<|aP' (fun (p:Mem)=>match p with|j=>[(1,pt0 I)]) (fun (p:Mem)=>match p with|j=>Mem.le A j/\(ZgH g).Ret r) (fun (p:Mem)=>match p with|j=>St P A j [(1,bk0 I (v101' g f e d c) 101)]) ?_ ?_
 .refine sr<|yy (bw' z) z<|yy (aj' ((v99' g.num f e)).toArray 1 aJ' z z z (aq' ([]) ((v99' g.num f e)) ((v99' g.den d c)))) z ?_
  obtain⟨J,u,hr⟩:=hr
  refine B' z z (u' E240 z) (fg' u) z (i) ?_
  cases J
  .refine yy (an' z) z<|mv z z<|sn4 z<|yy (t' z z) z<|mv z z<|sn4 z<|yy (t' z z) z<|nx<|av' z<|sr<|sx0 z z<|k'<|b' (k0' hr z z)
  refine yy (an' z) z<|mv z z<|gy z z (bk' z) z<|gy z z (aj' ((v99' g.den d c)).toArray 1 aJ' z z z (aq' ((v99' g.num f e)) ((v99' g.den d c)) ([]))) z ?_
  obtain⟨K,t,hr⟩:=hr
  refine B' (D' z z) z (u' E240 z) (fg' t) z (h) ?_
  cases K
  .refine gy z z (an' z) z<|yy (p' z z) z<|mv z z<|sn4 z<|yy (t' z z) z<|nx<|av' z<|sr<|sx0 z z<|k'<|b' (k0' hr z z)
  refine gy z z (an' z) z<|yy (p' z z) z<|mv z z<|gy z z (bk' z) z<|gy z z (aj' ((v99' g.den d c)).toArray 1 aJ' z z z (aq' ((v99' g.num f e)) ((v99' g.den d c)) ([]))) z ?_
  obtain⟨U,x,hr⟩:=hr
  refine B' (D' z z) z (u' E73 z) (eE' x) z (h)<|gy z z (V' z z) z<|yy (p' z z) z<|nx<|E' hr z (fun L hr=>?_) (fun L hr=>?_)
  .exact (show False from hr).elim
  refine l'<|al' A ⟨mr,hr⟩ (f1 z) (w1 z)
 rintro j ⟨k,hr⟩
 refine sr<|yy (bw' z) z<|yy (aj' ((v99' g.num f e)).toArray 1 aJ' z z z (aq' ([]) ((v99' g.num f e)) ((v99' g.den d c)))) z<|yy (bk' z) z<|yy (aj' ((v99' g.den d c)).toArray 1 aJ' z z z (aq' ((v99' g.num f e)) ((v99' g.den d c)) ([]))) z ?_
 obtain⟨T,C,hr⟩:=hr
 refine Q' z z (u' E173 z) (fJ' C) z (⟨(i.mono k),(h.mono k)⟩) (fun O R M l=>?_)
 obtain⟨D,E,rfl,n⟩:=l
 obtain⟨S,s,hr⟩:=hr
 refine Q' z z (u' E72 z) (fj' s) z (trivial) (fun Q W q o=>?_)
 obtain⟨H,F,rfl,m⟩:=o
 obtain⟨V,y,hr⟩:=hr
 refine B' z z (u' E241 z) (gC' y) z (⟨(n.mono q),m⟩)<|yy (au' z z) z<|sx0 z z<|k' (k0' hr z z)
theorem gk'{u s q r}(hr:(ZgM u).Ret r):Ctr prog 205 #[.slice s u.length q] (fun G=>sl r' G s q u) (fun G v=>v = .bool r):=by
 refine A' (args:=[_]) (N:=52) func205 z z z (fun Q t ak R=>?_)
 have e:=R
 refine sr<|sx0 z z<|c'<|sr<|sx0 z z<|R' (fun (h:Mem)=>match h with|n=>[]) (fun (h:Mem)=>match h with|n=>Mem.le t n/\(Zec).Ret r) (fun (h:Mem)=>match h with|n=>St Q t n []) ?_ ?_
 .refine s' ?_
  let p:(Bool⊕Unit)->Prop:=fun oo=>((fun ov=>match ov with | .inl rv1=>Cq.ret rv1 | .inr ()=>Zec:(Bool⊕Unit)->Cq Bool) oo).wp (fun a=>a=r)
  replace hr:(Cq.loop _ _).wp p:=hr
  refine T' (Φ:=p) (fun (⟨j,g⟩:Int×Mem)=>(j:Int)) (fun ⟨j,g⟩=>[(0,.slice s u.length q),(3,i' j)]) (fun ⟨j,g⟩=>Mem.le t g) (fun ⟨j,g⟩=>St Q t g []) ⟨0,t⟩ hr (f2 z z) mr (wk ln) ?_
  .intro W h hx hr
   obtain⟨j,g⟩:=h
   have c:=hx
   refine c'<|sr<|mv z z<|mv z z<|yy (K' F' (e.mono c) z) z<|yy (V' z z) z<|nx<|E' hr z (fun ac hr=>?_) (fun ac hr=>?_)
   .refine l'<|a'<|c'<|s'<|aP' (fun (h:Mem)=>match h with|i=>[(0,.slice s u.length q),(3,i' j)]) (fun (h:Mem)=>match h with|i=>Mem.le g i/\(ZcH u j).wp (Out W p)) (fun (h:Mem)=>match h with|i=>St Q t i []) ?_ ?_
    .refine sr<|mv z z<|mv z z ?_
     obtain⟨x3,x,hr⟩:=hr
     refine yy (P' F' bh' (e.mono c) z z x) z<|yy (bB' z) z ?_
     obtain⟨K,F,I,B,Z,l,m⟩:=cN' (H' (bS' (aS' (X' e x))) c)
     refine yy (as' _ bg' z z Z) z ?_
     obtain⟨U,M,hr⟩:=hr
     refine B' z z (u' E230 z) (gj' M) z (⟨l,m⟩) ?_
     cases U
     .refine yy (an' z) z<|mv z z<|sn7 z<|yy (t' z z) z<|mv z z<|sn7 z<|yy (t' z z) z<|nx<|av' z<|sr<|sx0 z z<|k'<|b'<|w'<|b'<|b'<|w'<|ap'<|b' (k0' hr z z)
     refine yy (an' z) z<|mv z z<|gy z z (f' z) z<|gy z z (f' z) z ?_
     obtain⟨x4,E,hr⟩:=hr
     refine gy z z (P' F' bh' (e.mono c) z z E) z<|gy z z (bB' z) z ?_
     obtain⟨C,L,y,D,T,k,o⟩:=cN' (H' (bS' (aS' (X' e E))) c)
     refine gy z z (as' _ bg' z z T) z ?_
     obtain⟨aj,P,hr⟩:=hr
     refine B' (D' z z) z (u' E39 z) (ds' P) z (⟨k,o⟩)<|ao' hr (D' z z) (au' z z) z (fun Y hr=>?_) (fun Y hr=>?_)
     .refine yy (p' z z) z<|mv z z<|sn7 z<|yy (t' z z) z<|nx<|av' z<|sr<|sx0 z z<|k'<|b'<|w'<|b'<|b'<|w'<|ap'<|b' (k0' hr z z)
     refine yy (p' z z) z<|mv z z<|gy z z (f' z) z<|gy z z (f' z) z ?_
     obtain⟨x5,J,hr⟩:=hr
     refine gy z z (P' F' bh' (e.mono c) z z J) z<|gy z z (aL' z) z<|gy z z (as' _ aT' z (M' _ _ _) (cG' (H' (bP' (aS' (X' e J))) c))) z ?_
     obtain⟨ah,O,hr⟩:=hr
     refine B' (D' z z) z (u' E122 z) (fc' O) z (trivial)<|gy z z (an' z) z<|yy (p' z z) z<|nx<|ay' hr z (fun ab hr=>?_) (fun ab hr=>?_)
     .exact (show False from hr).elim
     refine l'<|al' g ⟨mr,hr⟩ (f2 z z) (wk ln)
    rintro i ⟨f,hr⟩
    refine c'<|ad' [ff,ff,ff,ff,ff,ff,ff,ff,ff,ff,ff,ff,ff,ff] mix (by kernel_rfl) fun V=>cn (fun _ d=>f' z)<|bX' hr z (fun _ d=>aZ' z z) (fun aa hr=>?_) (fun aa hr=>?_)
    .refine cn (fun _ d=>f' z)<|cy z z (fun _ d=>f' z)<|cy z z (fun _ d=>f' z)<|cy z z (fun _ d=>be' z z) ?_
     obtain⟨x1,H,hr⟩:=hr
     refine cy z z (fun _ d=>P' F' bh' ((e.mono (mx c f)).mono d) z z H)<|cy z z (fun _ d=>aL' z)<|cy z z (fun _ d=>as' _ aT' z (M' _ _ _) (cG' (H' (H' (bP' (aS' (X' e H))) (mx c f)) d)))<|cy z z (fun _ d=>f' z)<|cy z z (fun _ d=>f' z) ?_
     obtain⟨x2,A,hr⟩:=hr
     refine cy z z (fun _ d=>P' F' bh' ((e.mono (mx c f)).mono d) z z A)<|cy z z (fun _ d=>aL' z)<|cy z z (fun _ d=>as' _ aT' z (M' _ _ _) (cG' (H' (H' (bP' (aS' (X' e A))) (mx c f)) d)))<|af' V ?_
     obtain⟨ai,S,hr⟩:=hr
     refine B' (D' z z) z (u' E163 z) (eT' S) z (trivial)<|gy z z (cb' z z) z<|yy (t' z z) z<|o'<|am'<|a'<|E' hr z (fun X hr=>?_) (fun X hr=>?_)
     .exact (show False from hr).elim
     refine l'<|v'<|a'<|n'<|mv z z<|yy (I' z z) z<|sg z z<|o'<|C' ⟨i64.wrap (j+1),i⟩ hr (mx c f) (f2 z z) (wk ln)
    refine cn (fun _ d=>f' z)<|ct z z<|ct z z<|ct z z<|ct z z<|ct z z<|ct z z<|ct z z<|ct z z<|ct z z<|ct z z<|ct z z<|af' V<|sn2 z<|yy (p' z z) z<|o'<|am'<|a'<|aK' z<|l'<|v'<|a'<|n'<|mv z z<|yy (I' z z) z<|sg z z<|o'<|C' ⟨i64.wrap (j+1),i⟩ hr (mx c f) (f2 z z) (wk ln)
   refine U'<|h'<|h'<|y'<|W' g ⟨c,hr⟩ fn (wk ln)
 rintro n ⟨ad,hr⟩
 refine a'<|sr<|sx0 z z<|k' (k0' hr z z)
theorem gd'{k r}(hr:(ZfK k).Ret r):Ctr prog 162 #[.agg (vecG (Value.int .i64) 8 k).toArray] (fun G=>True) (fun G v=>v=i' r):=by
 refine A' (args:=[_]) (N:=15) func162 z z z fun n i A q=>sr<|Y' 1 z z z fun m=>sg z z<|nr<|sx0 z z<|c'<|sr<|sx0 z z<|R' (fun (⟨g,e⟩:Int×Mem)=>[(3,i' g)]) (fun ⟨g,e⟩=>Mem.le i e/\(ZdM g).Ret r) (fun ⟨g,e⟩=>St n i e []) ?_ ?_
 .refine s' ?_
  let j:Int->Prop:=fun u=>((fun s=>match s with|g=>ZdM g:Int->Cq Int) u).wp (fun a=>a=r)
  replace hr:(Cq.loop _ _).wp j:=hr
  refine T' (Φ:=j) (fun (⟨d,f,c⟩:Int×Int×Mem)=>((d,f):Int×Int)) (fun ⟨d,f,c⟩=>[(1,pt0 m),(3,i' d),(4,i' f)]) (fun ⟨d,f,c⟩=>Mem.le i c) (fun ⟨d,f,c⟩=>St n i c [(1,bk0 m (vecG (Value.int .i64) 8 k) 110)]) ⟨0,0,i⟩ hr (f3 z z z) mr (w1 z) ?_
  .intro y t x hr
   obtain⟨d,f,c⟩:=t
   have h:=x
   refine c'<|sr<|mv z z<|yy (V' z z) z<|nx<|E' hr z (fun o hr=>?_) (fun o hr=>?_)
   .refine l'<|a'<|c'<|s'<|n'<|mv z z<|mv z z ?_
    obtain⟨l,hr⟩:=hr
    refine yy (aQ' ag' sz3 z z l) z<|yy (g' 1 sc3 z z (bo' _ _ _ l)) z<|yy (I' z z) z<|sg z z<|o'<|v'<|a'<|n'<|mv z z<|yy (I' z z) z<|sg z z<|o'<|C' ⟨i64.wrap (d+(getF k f)),i64.wrap (f+1),c⟩ hr h (f3 z z z) (w1 z)
   refine U'<|h'<|h'<|y'<|W' ⟨d,c⟩ ⟨h,hr⟩ (f1 z) (wk ln)
 rintro⟨g,e⟩ ⟨p,hr⟩
 refine a'<|sr<|mv z z<|sx0 z z<|k' (k0' hr z z)
theorem eV'{n k j r}(hr:(ZfO n).Ret r):Ctr prog 111 #[.slice k n.length j] (fun G=>sl r' G k j n) (fun G v=>v=i' r):=by
 refine A' (args:=[_]) (N:=20) func111 z z z (fun t i E q=>?_)
 have l:=q
 refine sr<|sg z z<|nr<|sx0 z z<|c'<|sr<|sx0 z z<|R' (fun (⟨g,f⟩:Int×Mem)=>[(3,i' g)]) (fun ⟨g,f⟩=>Mem.le i f/\(ZdN g).Ret r) (fun ⟨g,f⟩=>St t i f []) ?_ ?_
 .refine s' ?_
  let m:Int->Prop:=fun B=>((fun y=>match y with|g=>ZdN g:Int->Cq Int) B).wp (fun a=>a=r)
  replace hr:(Cq.loop _ _).wp m:=hr
  refine T' (Φ:=m) (fun (⟨e,h,d⟩:Int×Int×Mem)=>((e,h):Int×Int)) (fun ⟨e,h,d⟩=>[(0,.slice k n.length j),(3,i' e),(4,i' h)]) (fun ⟨e,h,d⟩=>Mem.le i d) (fun ⟨e,h,d⟩=>St t i d []) ⟨(-1),0,i⟩ hr (f3 z z z) mr (wk ln) ?_
  .intro D A C hr
   obtain⟨e,h,d⟩:=A
   have c:=C
   refine c'<|sr<|mv z z<|mv z z<|yy (K' F' (l.mono c) z) z<|yy (V' z z) z<|nx<|E' hr z (fun u hr=>?_) (fun u hr=>?_)
   .refine l'<|a'<|c'<|s'<|n'<|mv z z<|mv z z<|mv z z ?_
    obtain⟨F,p,hr⟩:=hr
    refine yy (P' F' bh' (l.mono c) z z p) z<|yy (aL' z) z<|yy (as' _ aT' z (M' _ _ _) (cG' (H' (bP' (aS' (X' l p))) c))) z ?_
    obtain⟨o,s,hr⟩:=hr
    refine B' z z (u' E162 z) (gd' s) z (trivial)<|yy (Y0.max2 z z) z<|sg z z<|o'<|v'<|a'<|n'<|mv z z<|yy (I' z z) z<|sg z z<|o'<|C' ⟨if e<o then o else e,i64.wrap (h+1),d⟩ hr c (f3 z z z) (wk ln)
   refine U'<|h'<|h'<|y'<|W' ⟨e,d⟩ ⟨c,hr⟩ (f1 z) (wk ln)
 rintro⟨g,f⟩ ⟨x,hr⟩
 refine a'<|sr<|mv z z<|sx0 z z<|k' (k0' hr z z)
theorem fz'{h m e d r}(hr:(ZfR h m).Ret r):Ctr prog 179 #[.slice e h.length d,i' m] (fun G=>sl r' G e d h) (fun G v=>v = .bool r):=by
 refine A' (args:=[_,_]) (N:=20) func179 z z z (fun t s q i=>?_)
 have c:=i
 refine sr<|sg z z<|nr<|mv z z ?_
 obtain⟨k,j,hr⟩:=hr
 refine B' z z (u' E205 z) (gk' j) z (c) ?_
 cases k
 .refine mv z z<|sn6 z<|yy (p' z z) z<|mv z z<|sn3 z<|yy (p' z z) z<|sx0 z z<|k' (k0' hr z z)
 refine mv z z<|gy z z (f' z) z ?_
 obtain⟨o,f,hr⟩:=hr
 refine B' (D' z z) z (u' E67 z) (en' f) z (c)<|gy z z (az' bm' aO' z) z<|gy z z (f' z) z ?_
 obtain⟨l,hr⟩:=hr
 refine gy z z (Y0.shr z z l) z<|ao' hr (D' z z) (au' z z) z (fun n hr=>?_) (fun n hr=>?_)
 .refine yy (t' z z) z<|mv z z<|gy z z (f' z) z ?_
  obtain⟨p,g,hr⟩:=hr
  refine B' (D' z z) z (u' E111 z) (eV' g) z (c)<|gy z z (cb' z z) z<|yy (t' z z) z<|sx0 z z<|k' (k0' hr z z)
 refine yy (t' z z) z<|mv z z<|sn3 z<|yy (p' z z) z<|sx0 z z<|k' (k0' hr z z)
theorem fH'{q n d e j i f g m l r}(hr:(ZcK q n).Ret r):Ctr prog 129 #[.agg ((v31' q d e j i f g)).toArray,.agg ((v116' n m l)).toArray] (fun G=>sl Rp.str G d e q.vars/\sl e' G j i q.eqs/\sl e' G f g q.neqs/\sl r' G m l n.p) (fun G v=>v=i' r):=by
 refine A' (args:=[_,_]) (N:=60) func129 z z z (fun R x ad F=>?_)
 obtain⟨p,s,k,B⟩:=F
 refine sr<|Y' 2 z z z fun y=>Y' 3 z z z fun A=>sx0 z z<|aP' (fun (o:Mem)=>match o with|c=>[(2,pt0 y),(3,pt0 A)]) (fun (o:Mem)=>match o with|c=>Mem.le x c/\(ZaA q n).Ret r) (fun (o:Mem)=>match o with|c=>St R x c [(2,bk0 y (v31' q d e j i f g) 31),(3,bk0 A (v116' n m l) 116)]) ?_ ?_
 .refine sr<|yy (bD' z) z<|yy (g' 3 sc3 z z z) z<|ao' hr z (V' z z) z (fun E hr=>?_) (fun E hr=>?_)
  .refine mv z z<|sn3 z<|yy (t' z z) z<|mv z z<|sn4 z<|ar' (aa' z z) z<|ar' (aa' z z) z<|ar' (aa' z z) z<|ar' (aa' z z) z<|sf z z z<|yy (t' z z) z<|nx<|av' z<|sr<|sx0 z z<|k'<|b' (k0' hr z z)
  refine mv z z<|gy z z (bD' z) z<|gy z z (g' 3 sc3 z z z) z<|ao' hr (D' z z) (aZ' z z) z (fun D hr=>?_) (fun D hr=>?_)
  .refine yy (p' z z) z<|mv z z<|sn4 z<|ar' (aa' z z) z<|ar' (aa' z z) z<|ar' (aa' z z) z<|ar' (aa' z z) z<|sf z z z<|yy (t' z z) z<|nx<|av' z<|sr<|sx0 z z<|k'<|b' (k0' hr z z)
  refine yy (p' z z) z<|mv z z<|gy z z (bD' z) z<|gy z z (g' 3 sc3 z z z) z<|ao' hr (D' z z) (aZ' z z) z (fun H hr=>?_) (fun H hr=>?_)
  .refine gy z z (f' z) z<|gy z z (m' 2 ai' z z z) z<|gy z z (bD' z) z<|gy z z (g' 3 sc3 z z z) z ?_
   obtain⟨ab,C,hr⟩:=hr
   refine B' (D' z z) z (u' E178 z) (fL' C) z (⟨p,s,k⟩)<|gy z z (t' z z) z<|yy (p' z z) z<|nx<|ay' hr z (fun W hr=>?_) (fun W hr=>?_)
   .refine sr<|sx0 z z<|k'<|b' (k0' hr z z)
   refine l'<|al' x ⟨mr,hr⟩ (f2 z z) (w2 z z)
  refine gy z z (f' z) z<|sn4 z<|gy z z (p' z z) z<|yy (p' z z) z<|nx<|aK' z<|l'<|al' x ⟨mr,hr⟩ (f2 z z) (w2 z z)
 rintro c ⟨h,hr⟩
 refine aP' (fun (o:Mem)=>match o with|t=>[(2,pt0 y),(3,pt0 A)]) (fun (o:Mem)=>match o with|t=>Mem.le c t/\(ZE q n).Ret r) (fun (o:Mem)=>match o with|t=>St R x t [(2,bk0 y (v31' q d e j i f g) 31),(3,bk0 A (v116' n m l) 116)]) ?_ ?_
 .refine sr<|yy (Y0.ZhF z) z<|ao' hr z (cp' (g' 3 sc4 z z z) (congrArg Value.bool (bdec _))) z (fun X hr=>?_) (fun X hr=>?_)
  .refine yy (an' z) z<|mv z z<|sn4 z<|yy (p' z z) z<|mv z z<|gy z z (Y0.ZhF z) z<|ao' hr (D' z z) (cp' (g' 3 sc4 z z z) (congrArg Value.bool (bdec _))) z (fun S hr=>?_) (fun S hr=>?_)
   .refine gy z z (f' z) z<|gy z z (aG' z) z<|gy z z (g' 2 bc' z z z) z<|gy z z (K' N' (k.mono h) z) z<|ao' hr (D' z z) (aV' z z) z (fun Y hr=>?_) (fun Y hr=>?_)
    .refine gy z z (t' z z) z<|yy (p' z z) z<|mv z z<|sn4 z<|ar' (aa' z z) z<|ar' (aa' z z) z<|ar' (aa' z z) z<|sf z z z<|yy (t' z z) z<|nx<|av' z<|sr<|sx0 z z<|k'<|b' (k0' hr z z)
    refine gy z z (t' z z) z<|yy (p' z z) z<|mv z z<|gy z z (bD' z) z<|gy z z (g' 3 sc3 z z z) z<|ao' hr (D' z z) (au' z z) z (fun V hr=>?_) (fun V hr=>?_)
    .refine gy z z (f' z) z<|gy z z (bt' z) z<|gy z z (g' 2 sc3 z z z) z<|gy z z (aV' z z) z<|gy z z (t' z z) z<|yy (p' z z) z<|nx<|E' hr z (fun Q hr=>?_) (fun Q hr=>?_)
     .refine sr<|sx0 z z<|k'<|b' (k0' hr z z)
     refine l'<|al' c ⟨mr,hr⟩ (f2 z z) (w2 z z)
    refine gy z z (f' z) z<|sn3 z<|gy z z (p' z z) z<|yy (p' z z) z<|nx<|aK' z<|l'<|al' c ⟨mr,hr⟩ (f2 z z) (w2 z z)
   refine gy z z (f' z) z<|sn4 z<|gy z z (p' z z) z<|yy (p' z z) z<|mv z z<|gy z z (bD' z) z<|gy z z (g' 3 sc3 z z z) z<|ao' hr (D' z z) (au' z z) z (fun O hr=>?_) (fun O hr=>?_)
   .refine gy z z (f' z) z<|gy z z (bt' z) z<|gy z z (g' 2 sc3 z z z) z<|gy z z (aV' z z) z<|gy z z (t' z z) z<|yy (p' z z) z<|nx<|E' hr z (fun Z hr=>?_) (fun Z hr=>?_)
    .refine sr<|sx0 z z<|k'<|b' (k0' hr z z)
    refine l'<|al' c ⟨mr,hr⟩ (f2 z z) (w2 z z)
   refine gy z z (f' z) z<|sn3 z<|gy z z (p' z z) z<|yy (p' z z) z<|nx<|aK' z<|l'<|al' c ⟨mr,hr⟩ (f2 z z) (w2 z z)
  refine yy (an' z) z<|mv z z<|gy z z (aF' z) z<|gy z z (g' 2 bc' z z z) z<|gy z z (K' N' (s.mono h) z) z<|ao' hr (D' z z) (aV' z z) z (fun L hr=>?_) (fun L hr=>?_)
  .refine yy (t' z z) z<|mv z z<|sn3 z<|ar' (aa' z z) z<|ar' (aa' z z) z<|ar' (aa' z z) z<|ar' (aa' z z) z<|sf z z z<|yy (t' z z) z<|mv z z<|sn4 z<|ar' (aa' z z) z<|ar' (aa' z z) z<|ar' (aa' z z) z<|sf z z z<|yy (t' z z) z<|nx<|av' z<|sr<|sx0 z z<|k'<|b' (k0' hr z z)
  refine yy (t' z z) z<|mv z z<|gy z z (Y0.ZhF z) z<|ao' hr (D' z z) (cp' (g' 3 sc4 z z z) (congrArg Value.bool (bdec _))) z (fun T hr=>?_) (fun T hr=>?_)
  .refine gy z z (f' z) z<|gy z z (aG' z) z<|gy z z (g' 2 bc' z z z) z<|gy z z (K' N' (k.mono h) z) z<|ao' hr (D' z z) (aV' z z) z (fun U hr=>?_) (fun U hr=>?_)
   .refine gy z z (t' z z) z<|yy (p' z z) z<|mv z z<|sn4 z<|ar' (aa' z z) z<|ar' (aa' z z) z<|ar' (aa' z z) z<|sf z z z<|yy (t' z z) z<|nx<|av' z<|sr<|sx0 z z<|k'<|b' (k0' hr z z)
   refine gy z z (t' z z) z<|yy (p' z z) z<|mv z z<|gy z z (bD' z) z<|gy z z (g' 3 sc3 z z z) z<|ao' hr (D' z z) (au' z z) z (fun M hr=>?_) (fun M hr=>?_)
   .refine gy z z (f' z) z<|gy z z (bt' z) z<|gy z z (g' 2 sc3 z z z) z<|gy z z (aV' z z) z<|gy z z (t' z z) z<|yy (p' z z) z<|nx<|E' hr z (fun P hr=>?_) (fun P hr=>?_)
    .refine sr<|sx0 z z<|k'<|b' (k0' hr z z)
    refine l'<|al' c ⟨mr,hr⟩ (f2 z z) (w2 z z)
   refine gy z z (f' z) z<|sn3 z<|gy z z (p' z z) z<|yy (p' z z) z<|nx<|aK' z<|l'<|al' c ⟨mr,hr⟩ (f2 z z) (w2 z z)
  refine gy z z (f' z) z<|sn4 z<|gy z z (p' z z) z<|yy (p' z z) z<|mv z z<|gy z z (bD' z) z<|gy z z (g' 3 sc3 z z z) z<|ao' hr (D' z z) (au' z z) z (fun J hr=>?_) (fun J hr=>?_)
  .refine gy z z (f' z) z<|gy z z (bt' z) z<|gy z z (g' 2 sc3 z z z) z<|gy z z (aV' z z) z<|gy z z (t' z z) z<|yy (p' z z) z<|nx<|E' hr z (fun K hr=>?_) (fun K hr=>?_)
   .refine sr<|sx0 z z<|k'<|b' (k0' hr z z)
   refine l'<|al' c ⟨mr,hr⟩ (f2 z z) (w2 z z)
  refine gy z z (f' z) z<|sn3 z<|gy z z (p' z z) z<|yy (p' z z) z<|nx<|aK' z<|l'<|al' c ⟨mr,hr⟩ (f2 z z) (w2 z z)
 rintro t ⟨u,hr⟩
 refine c'<|sr<|yy (Y0.ZhE z) z<|yy (g' 3 sc44 z z z) z<|yy (aH' z) z<|yy (g' 2 bF' z z z) z<|yy (K' J' (p.mono (mx h u)) z) z ?_
 obtain⟨ac,I,hr⟩:=hr
 refine B' z z (u' E179 z) (fz' I) z ((B.mono (mx h u)))<|yy (an' z) z<|nx<|ay' hr z (fun aa hr=>?_) (fun aa hr=>?_)
 .refine sr<|sx0 z z<|k'<|b' (k0' hr z z)
 refine l'<|a'<|sr<|sx0 z z<|k' (k0' hr z z)
theorem eh'{q o d e j i f g n m r}(hr:(Zba q o).Ret r):Ctr prog 130 #[.agg ((v31' q d e j i f g)).toArray,.agg ((v116' o n m)).toArray] (fun G=>sl Rp.str G d e q.vars/\sl e' G j i q.eqs/\sl e' G f g q.neqs/\sl r' G n m o.p) (fun G v=>v=i' r):=by
 refine A' (args:=[_,_]) (N:=51) func130 z z z (fun Q t U A=>?_)
 obtain⟨l,c,k,u⟩:=A
 refine sr<|Y' 2 z z z fun C=>Y' 3 z z z fun I=>sx0 z z<|c'<|sr<|yy (m' 2 ai' z z z) z<|yy (bD' z) z<|yy (g' 3 sc3 z z z) z ?_
 obtain⟨S,B,hr⟩:=hr
 refine B' z z (u' E178 z) (fL' B) z (⟨l,c,k⟩)<|yy (an' z) z<|nx<|ay' hr z (fun P hr=>?_) (fun P hr=>?_)
 .refine sr<|sx0 z z<|k'<|b' (k0' hr z z)
 refine l'<|a'<|aP' (fun (s:Mem)=>match s with|p=>[(2,pt0 C),(3,pt0 I)]) (fun (s:Mem)=>match s with|p=>Mem.le t p/\(ZbT q o).Ret r) (fun (s:Mem)=>match s with|p=>St Q t p [(2,bk0 C (v31' q d e j i f g) 31),(3,bk0 I (v116' o n m) 116)]) ?_ ?_
 .refine sr<|yy (cZ' z) z<|yy (g' 3 sc3 z z z) z<|ao' hr z (au' z z) z (fun D hr=>?_) (fun D hr=>?_)
  .refine mv z z<|gy z z (Y0.ZhE z) z<|gy z z (g' 3 sc44 z z z) z<|gy z z (aH' z) z<|gy z z (g' 2 bF' z z z) z<|gy z z (K' J' l z) z ?_
   obtain⟨T,y,hr⟩:=hr
   refine B' (D' z z) z (u' E179 z) (fz' y) z (u)<|gy z z (an' z) z<|yy (t' z z) z<|nx<|ay' hr z (fun F hr=>?_) (fun F hr=>?_)
   .refine sr<|sx0 z z<|k'<|b' (k0' hr z z)
   refine l'<|al' t ⟨mr,hr⟩ (f2 z z) (w2 z z)
  refine mv z z<|sn7 z<|yy (p' z z) z<|nx<|aK' z<|l'<|al' t ⟨mr,hr⟩ (f2 z z) (w2 z z)
 rintro p ⟨h,hr⟩
 refine sr<|yy (aF' z) z<|yy (g' 2 bc' z z z) z<|yy (bD' z) z<|yy (g' 3 sc3 z z z) z ?_
 obtain⟨R,x,hr⟩:=hr
 refine B' z z (u' E132 z) (dP' x) z ((c.mono h))<|yy (aV' z z) z<|sx0 z z<|c'<|sr<|yy (cZ' z) z<|yy (g' 3 sc3 z z z) z<|ao' hr z (au' z z) z (fun L hr=>?_) (fun L hr=>?_)
 .refine mv z z<|ao' hr (D' z z) (f' z) z (fun J hr=>?_) (fun J hr=>?_)
  .refine gy z z (f' z) z<|gy z z (aG' z) z<|gy z z (g' 2 bc' z z z) z<|gy z z (K' N' (k.mono h) z) z<|ao' hr (D' z z) (aV' z z) z (fun M hr=>?_) (fun M hr=>?_)
   .refine gy z z (t' z z) z<|gy z z (f' z) z<|sn3 z<|ar' (aa' z z) z<|ar' (aa' z z) z<|ar' (aa' z z) z<|ar' (aa' z z) z<|sf z z z<|gy z z (t' z z) z<|yy (t' z z) z<|nx<|av' z<|sr<|sx0 z z<|k'<|b' (k0' hr z z)
   refine gy z z (t' z z) z<|gy z z (f' z) z<|ao' hr (D' z z) (f' z) z (fun K hr=>?_) (fun K hr=>?_)
   .refine gy z z (an' z) z<|gy z z (f' z) z<|sn4 z<|gy z z (p' z z) z<|gy z z (p' z z) z<|yy (t' z z) z<|nx<|aK' z<|l'<|a'<|sr<|sx0 z z<|k' (k0' hr z z)
   refine gy z z (an' z) z<|gy z z (f' z) z<|gy z z (aF' z) z<|gy z z (g' 2 bc' z z z) z<|gy z z (K' N' (c.mono h) z) z<|gy z z (aV' z z) z<|gy z z (t' z z) z<|gy z z (p' z z) z<|yy (t' z z) z<|nx<|E' hr z (fun H hr=>?_) (fun H hr=>?_)
   .refine sr<|sx0 z z<|k'<|b' (k0' hr z z)
   refine l'<|a'<|sr<|sx0 z z<|k' (k0' hr z z)
  refine gy z z (f' z) z<|sn4 z<|gy z z (p' z z) z<|gy z z (f' z) z<|ao' hr (D' z z) (f' z) z (fun E hr=>?_) (fun E hr=>?_)
  .refine gy z z (an' z) z<|gy z z (f' z) z<|sn4 z<|gy z z (p' z z) z<|gy z z (p' z z) z<|yy (t' z z) z<|nx<|aK' z<|l'<|a'<|sr<|sx0 z z<|k' (k0' hr z z)
  refine gy z z (an' z) z<|gy z z (f' z) z<|gy z z (aF' z) z<|gy z z (g' 2 bc' z z z) z<|gy z z (K' N' (c.mono h) z) z<|gy z z (aV' z z) z<|gy z z (t' z z) z<|gy z z (p' z z) z<|yy (t' z z) z<|nx<|E' hr z (fun O hr=>?_) (fun O hr=>?_)
  .refine sr<|sx0 z z<|k'<|b' (k0' hr z z)
  refine l'<|a'<|sr<|sx0 z z<|k' (k0' hr z z)
 refine mv z z<|sn2 z<|ar' (aa' z z) z<|ar' (aa' z z) z<|ar' (aa' z z) z<|ar' (aa' z z) z<|sn2 z<|ar' (aa' z z) z<|ar' (aa' z z) z<|ar' (aa' z z) z<|ar' (aa' z z) z<|ar' (aa' z z) z<|ar' (aa' z z) z<|ar' (aa' z z) z<|ar' (aa' z z) z<|sk z z z<|yy (p' z z) z<|nx<|aK' z<|l'<|a'<|sr<|sx0 z z<|k' (k0' hr z z)
theorem gl'{m p h g l k j i o n r}(hr:(Zey m p).Ret r):Ctr prog 80 #[.agg ((v31' m h g l k j i)).toArray,.agg ((v116' p o n)).toArray] (fun G=>sl Rp.str G h g m.vars/\sl e' G l k m.eqs/\sl e' G j i m.neqs/\sl r' G o n p.p) (fun G v=>v=i' r):=by
 refine A' (args:=[_,_]) (N:=98) func80 z z z (fun w0 G0 aq O=>?_)
 obtain⟨c,e,d,f⟩:=O
 refine sr<|Y' 2 z z z fun b1=>Y' 3 z z z fun b2=>sg z z<|nr<|yy (aH' z) z<|yy (g' 2 bF' z z z) z<|yy (K' J' c z) z<|sx0 z z<|c'<|sr<|yy (cZ' z) z<|yy (g' 3 sc3 z z z) z<|nx<|s'<|sr<|yy (au' z z) z<|sx0 z z<|E' hr z (fun Y hr=>?_) (fun Y hr=>?_)
 .refine c'<|sr<|mv z z<|yy (aV' z z) z<|nx<|E' hr z (fun ac hr=>?_) (fun ac hr=>?_)
  .refine sr<|sx0 z z<|k'<|b'<|w'<|b' (k0' hr z z)
  refine l'<|a'<|c'<|sr<|yy (by' z) z<|yy (g' 3 sc3 z z z) z<|ao' hr z (V' z z) z (fun af hr=>?_) (fun af hr=>?_)
  .refine mv z z<|sn4 z<|yy (t' z z) z<|nx<|av' z<|sr<|sx0 z z<|k'<|b'<|w'<|b' (k0' hr z z)
  refine mv z z<|gy z z (by' z) z<|gy z z (g' 3 sc3 z z z) z<|gy z z (f' z) z<|gy z z (aZ' z z) z<|yy (p' z z) z<|nx<|E' hr z (fun T hr=>?_) (fun T hr=>?_)
  .refine sr<|sx0 z z<|k'<|b'<|w'<|b' (k0' hr z z)
  refine l'<|a'<|c'<|sr<|yy (dQ' z) z<|yy (g' 3 sc9 z z z) z ?_
  obtain⟨X,S,hr⟩:=hr
  refine B' z z (u' E125 z) (fy' S) z (trivial) ?_
  cases X
  .refine yy (an' z) z<|mv z z<|sn5 z<|yy (t' z z) z<|nx<|av' z<|sr<|sx0 z z<|k'<|b'<|w'<|b' (k0' hr z z)
  refine yy (an' z) z<|mv z z<|gy z z (m' 2 ai' z z z) z<|gy z z (dQ' z) z<|gy z z (g' 3 sc9 z z z) z ?_
  obtain⟨al,x,hr⟩:=hr
  refine B' (D' z z) z (u' E126 z) (ff' x) z (⟨c,e,d⟩)<|gy z z (aV' z z) z<|yy (p' z z) z<|nx<|E' hr z (fun Z hr=>?_) (fun Z hr=>?_)
  .refine sr<|sx0 z z<|k'<|b'<|w'<|b' (k0' hr z z)
  refine l'<|a'<|sr<|sx0 z z<|k'<|w'<|b' (k0' hr z z)
 refine sr<|yy (au' z z) z<|sx0 z z<|E' hr z (fun V hr=>?_) (fun V hr=>?_)
 .refine c'<|sr<|yy (m' 2 ai' z z z) z<|yy (by' z) z<|yy (g' 3 sc3 z z z) z ?_
  obtain⟨ap,D,hr⟩:=hr
  refine B' z z (u' E127 z) (eH' D) z (⟨c,e,d⟩)<|yy (an' z) z<|nx<|ay' hr z (fun ag hr=>?_) (fun ag hr=>?_)
  .refine sr<|sx0 z z<|k'<|b'<|w'<|b' (k0' hr z z)
  refine l'<|a'<|c'<|sr<|yy (m' 2 ai' z z z) z<|yy (by' z) z<|yy (g' 3 sc3 z z z) z ?_
  obtain⟨am,A,hr⟩:=hr
  refine B' z z (u' E128 z) (gq' A) z (⟨c,e,d⟩)<|nx<|ay' hr z (fun ab hr=>?_) (fun ab hr=>?_)
  .refine sr<|sx0 z z<|k'<|b'<|w'<|b' (k0' hr z z)
  refine l'<|a'<|sr<|sx0 z z<|k'<|w'<|b' (k0' hr z z)
 refine sr<|yy (au' z z) z<|sx0 z z<|E' hr z (fun ad hr=>?_) (fun ad hr=>?_)
 .refine c'<|sr<|yy (m' 2 ai' z z z) z<|yy (by' z) z<|yy (g' 3 sc3 z z z) z ?_
  obtain⟨an,y,hr⟩:=hr
  refine B' z z (u' E127 z) (eH' y) z (⟨c,e,d⟩)<|yy (an' z) z<|nx<|ay' hr z (fun aa hr=>?_) (fun aa hr=>?_)
  .refine sr<|sx0 z z<|k'<|b'<|w'<|b' (k0' hr z z)
  refine l'<|a'<|sr<|yy (m' 2 ai' z z z) z<|yy (dQ' z) z<|yy (g' 3 sc9 z z z) z ?_
  obtain⟨ao,B,hr⟩:=hr
  refine B' z z (u' E126 z) (ff' B) z (⟨c,e,d⟩)<|sx0 z z<|c'<|sr<|yy (dQ' z) z<|yy (g' 3 sc9 z z z) z ?_
  obtain⟨W,J,hr⟩:=hr
  refine B' z z (u' E125 z) (fy' J) z (trivial) ?_
  cases W
  .refine yy (an' z) z<|mv z z<|sn3 z<|ar' (aa' z z) z<|ar' (aa' z z) z<|ar' (aa' z z) z<|ar' (aa' z z) z<|sf z z z<|yy (t' z z) z<|nx<|av' z<|sr<|sx0 z z<|k'<|b'<|w'<|b' (k0' hr z z)
  refine yy (an' z) z<|mv z z<|gy z z (f' z) z<|ao' hr (D' z z) (aV' z z) z (fun ae hr=>?_) (fun ae hr=>?_)
  .refine gy z z (f' z) z<|gy z z (f' z) z<|gy z z (by' z) z<|gy z z (g' 3 sc3 z z z) z<|gy z z (bj' z z) z<|gy z z (t' z z) z<|yy (p' z z) z<|nx<|E' hr z (fun M hr=>?_) (fun M hr=>?_)
   .refine sr<|sx0 z z<|k'<|b'<|w'<|b' (k0' hr z z)
   refine l'<|a'<|sr<|sx0 z z<|k'<|w'<|b' (k0' hr z z)
  refine gy z z (f' z) z<|sn4 z<|gy z z (p' z z) z<|yy (p' z z) z<|nx<|aK' z<|l'<|a'<|sr<|sx0 z z<|k'<|w'<|b' (k0' hr z z)
 refine sr<|yy (au' z z) z<|sx0 z z<|E' hr z (fun K hr=>?_) (fun K hr=>?_)
 .refine c'<|sr<|yy (m' 2 ai' z z z) z<|yy (by' z) z<|yy (g' 3 sc3 z z z) z ?_
  obtain⟨U,Q,hr⟩:=hr
  refine B' z z (u' E127 z) (eH' Q) z (⟨c,e,d⟩) ?_
  cases U
  .refine yy (an' z) z<|mv z z<|sn5 z<|yy (t' z z) z<|nx<|av' z<|sr<|sx0 z z<|k'<|b'<|w'<|b' (k0' hr z z)
  refine yy (an' z) z<|mv z z<|gy z z (m' 2 ai' z z z) z<|gy z z (eo' z) z<|gy z z (g' 3 sc3 z z z) z ?_
  obtain⟨ar,R,hr⟩:=hr
  refine B' (D' z z) z (u' E127 z) (eH' R) z (⟨c,e,d⟩)<|gy z z (an' z) z<|yy (p' z z) z<|nx<|ay' hr z (fun P hr=>?_) (fun P hr=>?_)
  .refine sr<|sx0 z z<|k'<|b'<|w'<|b' (k0' hr z z)
  refine l'<|a'<|sr<|sx0 z z<|k'<|w'<|b' (k0' hr z z)
 refine sr<|yy (au' z z) z<|sx0 z z<|E' hr z (fun I hr=>?_) (fun I hr=>?_)
 .refine sr<|yy (m' 2 ai' z z z) z<|yy (m' 3 ag116 z z z) z ?_
  obtain⟨ai,q,hr⟩:=hr
  refine B' z z (u' E129 z) (fH' q) z (⟨c,e,d,f⟩)<|sx0 z z<|k'<|w'<|b' (k0' hr z z)
 refine c'<|sr<|yy (au' z z) z<|sx0 z z<|E' hr z (fun E hr=>?_) (fun E hr=>?_)
 .refine l'<|a'<|E' hr z (fun F hr=>?_) (fun F hr=>?_)
  .refine sr<|yy (m' 2 ai' z z z) z<|yy (m' 3 ag116 z z z) z ?_
   obtain⟨aj,u,hr⟩:=hr
   refine B' z z (u' E130 z) (eh' u) z (⟨c,e,d,f⟩)<|sx0 z z<|k'<|w'<|b' (k0' hr z z)
  refine l'<|v'<|a'<|sr<|sx0 z z<|k' (k0' hr z z)
 refine sr<|yy (au' z z) z<|sx0 z z<|E' hr z (fun L hr=>?_) (fun L hr=>?_)
 .refine l'<|a'<|E' hr z (fun H hr=>?_) (fun H hr=>?_)
  .refine sr<|yy (m' 2 ai' z z z) z<|yy (m' 3 ag116 z z z) z ?_
   obtain⟨ak,t,hr⟩:=hr
   refine B' z z (u' E130 z) (eh' t) z (⟨c,e,d,f⟩)<|sx0 z z<|k'<|w'<|b' (k0' hr z z)
  refine l'<|v'<|a'<|sr<|sx0 z z<|k' (k0' hr z z)
 refine n'<|yy (au' z z) z<|sx0 z z<|E' hr z (fun C hr=>?_) (fun C hr=>?_)
 .refine sr<|yy (m' 2 ai' z z z) z<|yy (m' 3 ag116 z z z) z ?_
  obtain⟨ah,s,hr⟩:=hr
  refine B' z z (u' E130 z) (eh' s) z (⟨c,e,d,f⟩)<|sx0 z z<|k'<|w'<|b' (k0' hr z z)
 refine l'<|v'<|a'<|sr<|sx0 z z<|k' (k0' hr z z)
theorem db'{c e r}(hr:(Zal c e).Ret r):Ctr prog 82 #[i' c,i' e] (fun G=>True) (fun G v=>v = .agg (vecG (Value.int .i64) 8 r).toArray):=by
 refine A' (args:=[_,_]) (N:=43) func82 z z z fun y o S M=>sr<|O' 4 z z109 z fun q=>nr<|yy (at' (vs:=#[]) (v:=.agg (vecG (Value.int .i64) 8 (fun _=>0)).toArray) z z (fun _=>by kernel_rfl)) z<|O' 5 z z109 z fun s=>x' 5 z sz109 z z z (M' _ _ _) (M' _ _ _) (fun u t=>Rp.one (cy' .i64 8) (G:=o) (x:=(fun _=>0)) (cs:=vecG (Value.int .i64) 8 (fun _=>0)) z u (by first|simpa using t|simpa [Value.cells] using t))<|nx<|c'<|sr<|sx0 z z<|R' (fun (⟨h,m⟩:(Fin 8->Int)×Mem)=>[(0,i' c),(1,i' e),(4,pt0 q),(5,pt0 s)]) (fun ⟨h,m⟩=>Mem.le o m/\(Zdc c e h).Ret r) (fun ⟨h,m⟩=>St y o m [(4,bk0 q (vecG (Value.int .i64) 8 (fun _=>0)) 109),(5,bk0 s (vecG (Value.int .i64) 8 h) 109)]) ?_ ?_
 .refine s' ?_
  let p:(Fin 8->Int)->Prop:=fun Q=>((fun O=>match O with|h=>Zdc c e h:(Fin 8->Int)->Cq (Fin 8->Int)) Q).wp (fun a=>a=r)
  replace hr:(Cq.loop _ _).wp p:=hr
  refine T' (Φ:=p) (fun (⟨d,f,g⟩:Int×(Fin 8->Int)×Mem)=>((d,f):Int×(Fin 8->Int))) (fun ⟨d,f,g⟩=>[(0,i' c),(1,i' e),(4,pt0 q),(5,pt0 s),(6,i' d)]) (fun ⟨d,f,g⟩=>Mem.le o g) (fun ⟨d,f,g⟩=>St y o g [(4,bk0 q (vecG (Value.int .i64) 8 (fun _=>0)) 109),(5,bk0 s (vecG (Value.int .i64) 8 f) 109)]) ⟨0,(fun _=>0),o⟩ hr (f5 z z z z z) mr (w2 z z) ?_
  .intro D P R hr
   obtain⟨d,f,g⟩:=P
   have l:=R
   refine c'<|sr<|mv z z<|yy (V' z z) z<|nx<|E' hr z (fun K hr=>?_) (fun K hr=>?_)
   .refine l'<|a'<|c'<|s'<|sr<|mv z z<|mv z z ?_
    obtain⟨B,hr⟩:=hr
    refine yy (aQ' br' sz3 z z B) z<|aB' 5 (vecG (Value.int .i64) 8 (setF f d.toNat d)).toArray z sz3 z z z (by first|(rw[M']; omega)|(show _<(vecG _ _ _).toArray.size; rw[M']; omega)) z (co' _ _ _ _ _)<|nx<|aP' (fun (⟨j,k⟩:(Fin 8->Int)×Mem)=>[(0,i' c),(1,i' e),(4,pt0 q),(5,pt0 s),(6,i' d)]) (fun ⟨j,k⟩=>Mem.le g k/\(ZbU c e d j).wp (Out D p)) (fun ⟨j,k⟩=>St y o k [(4,bk0 q (vecG (Value.int .i64) 8 (fun _=>0)) 109),(5,bk0 s (vecG (Value.int .i64) 8 j) 109)]) ?_ ?_
    .refine sr<|mv z z<|mv z z<|ao' hr z (aZ' z z) z (fun F hr=>?_) (fun F hr=>?_)
     .refine mv z z<|gy z z (f' z) z<|gy z z (f' z) z<|gy z z (cb' z z) z<|yy (t' z z) z<|nx<|E' hr z (fun J hr=>?_) (fun J hr=>?_)
      .refine n'<|mv z z<|mv z z<|yy (be' z z) z ?_
       obtain⟨C,hr⟩:=hr
       refine yy (aQ' br' sz3 z z C) z<|aB' 5 (vecG (Value.int .i64) 8 (setF (setF f d.toNat d) d.toNat (i64.wrap (d-1)))).toArray z sz3 z z z (by first|(rw[M']; omega)|(show _<(vecG _ _ _).toArray.size; rw[M']; omega)) z (co' _ _ _ _ _)<|o'<|al' ⟨setF (setF f d.toNat d) d.toNat (i64.wrap (d-1)),g⟩ ⟨mr,hr⟩ (f5 z z z z z) (w2 z z)
      refine l'<|al' ⟨setF f d.toNat d,g⟩ ⟨mr,hr⟩ (f5 z z z z z) (w2 z z)
     refine mv z z<|sn3 z<|yy (p' z z) z<|nx<|aK' z<|l'<|al' ⟨setF f d.toNat d,g⟩ ⟨mr,hr⟩ (f5 z z z z z) (w2 z z)
    rintro⟨j,k⟩ ⟨n,hr⟩
    refine sr<|mv z z<|mv z z<|ao' hr z (V' z z) z (fun I hr=>?_) (fun I hr=>?_)
    .refine mv z z<|gy z z (f' z) z<|gy z z (f' z) z<|gy z z (aV' z z) z<|yy (t' z z) z<|nx<|E' hr z (fun E hr=>?_) (fun E hr=>?_)
     .refine n'<|mv z z<|mv z z<|yy (I' z z) z ?_
      obtain⟨H,hr⟩:=hr
      refine yy (aQ' br' sz3 z z H) z<|aB' 5 (vecG (Value.int .i64) 8 (setF j d.toNat (i64.wrap (d+1)))).toArray z sz3 z z z (by first|(rw[M']; omega)|(show _<(vecG _ _ _).toArray.size; rw[M']; omega)) z (co' _ _ _ _ _)<|o'<|v'<|a'<|n'<|mv z z<|yy (I' z z) z<|sg z z<|o'<|C' ⟨i64.wrap (d+1),setF j d.toNat (i64.wrap (d+1)),k⟩ hr (mx l n) (f5 z z z z z) (w2 z z)
     refine l'<|v'<|a'<|n'<|mv z z<|yy (I' z z) z<|sg z z<|o'<|C' ⟨i64.wrap (d+1),j,k⟩ hr (mx l n) (f5 z z z z z) (w2 z z)
    refine mv z z<|sn3 z<|yy (p' z z) z<|nx<|aK' z<|l'<|v'<|a'<|n'<|mv z z<|yy (I' z z) z<|sg z z<|o'<|C' ⟨i64.wrap (d+1),j,k⟩ hr (mx l n) (f5 z z z z z) (w2 z z)
   refine U'<|h'<|h'<|y'<|W' ⟨f,g⟩ ⟨l,hr⟩ (f4 z z z z) (w2 z z)
 rintro⟨h,m⟩ ⟨L,hr⟩
 refine a'<|sr<|mv z z<|mv z z ?_
 obtain⟨A,hr⟩:=hr
 refine yy (aQ' br' sz3 z z A) z<|aB' 5 (vecG (Value.int .i64) 8 (setF h c.toNat e)).toArray z sz3 z z z (by first|(rw[M']; omega)|(show _<(vecG _ _ _).toArray.size; rw[M']; omega)) z (co' _ _ _ _ _)<|nr<|yy (m' 5 ag109 z z (M' _ _ _)) z<|x' 4 z sz109 z z z (M' _ _ _) (M' _ _ _) (fun u t=>Rp.one (cy' .i64 8) (G:=m) (x:=setF h c.toNat e) (cs:=vecG (Value.int .i64) 8 (setF h c.toNat e)) z u (by first|simpa using t|simpa [Value.cells] using t))<|nx<|k' ?_
 obtain rfl:_=r:=hr
 exact j' z (ak' (i:=4) ag109 z z (M' _ _ _)) z
theorem eL'{c r}(hr:(Zb5 c).Ret r):Ctr prog 180 #[.agg (vecG (Value.int .i64) 8 c).toArray] (fun G=>True) (fun G v=>v = .bool r):=by
 refine A' (args:=[_]) (N:=31) func180 z z z fun y j M H=>sr<|Y' 1 z z z fun q=>sg z z<|nr<|yy (at' (vs:=#[]) (v:=.agg (vecG Value.bool 8 (fun _=>false)).toArray) z z (fun _=>by kernel_rfl)) z<|O' 3 z z254 z fun B=>x' 3 z sz254 z z z (M' _ _ _) (M' _ _ _) (fun u A=>Rp.one (Rp.vecB 8) (G:=j) (x:=(fun _=>false)) (cs:=vecG Value.bool 8 (fun _=>false)) z u (by first|simpa using A|simpa [Value.cells] using A))<|nx<|c'<|sr<|sx0 z z<|R' (fun (h:Mem)=>match h with|g=>[]) (fun (h:Mem)=>match h with|g=>Mem.le j g/\(ZaY).Ret r) (fun (h:Mem)=>match h with|g=>St y j g []) ?_ ?_
 .refine s' ?_
  let k:(Bool⊕Unit)->Prop:=fun J=>((fun I=>match I with | .inl rv1=>Cq.ret rv1 | .inr ()=>ZaY:(Bool⊕Unit)->Cq Bool) J).wp (fun a=>a=r)
  replace hr:(Cq.loop _ _).wp k:=hr
  refine T' (Φ:=k) (fun (⟨f,d,e⟩:Int×(Fin 8->Bool)×Mem)=>((f,d):Int×(Fin 8->Bool))) (fun ⟨f,d,e⟩=>[(1,pt0 q),(3,pt0 B),(4,i' f)]) (fun ⟨f,d,e⟩=>Mem.le j e) (fun ⟨f,d,e⟩=>St y j e [(1,bk0 q (vecG (Value.int .i64) 8 c) 109),(3,bk0 B (vecG Value.bool 8 d) 254)]) ⟨0,(fun _=>false),j⟩ hr (f3 z z z) mr (w2 z z) ?_
  .intro L h K hr
   obtain⟨f,d,e⟩:=h
   have i:=K
   refine c'<|sr<|mv z z<|yy (V' z z) z<|nx<|E' hr z (fun E hr=>?_) (fun E hr=>?_)
   .refine l'<|a'<|c'<|s'<|c'<|sr<|mv z z ?_
    obtain⟨l,hr⟩:=hr
    refine yy (aQ' br' sz3 z z l) z<|yy (g' 1 sc3 z z (bo' _ _ _ l)) z<|ao' hr z (V' z z) z (fun D hr=>?_) (fun D hr=>?_)
    .refine mv z z<|sn4 z<|yy (t' z z) z<|mv z z<|sn5 z<|yy (t' z z) z<|nx<|av' z<|sr<|sx0 z z<|k'<|b'<|w'<|b'<|b'<|w'<|ap'<|b' (k0' hr z z)
    refine mv z z<|gy z z (f' z) z ?_
    obtain⟨n,hr⟩:=hr
    refine gy z z (aQ' br' sz3 z z n) z<|gy z z (g' 1 sc3 z z (bo' _ _ _ n)) z<|ao' hr (D' z z) (aV' z z) z (fun C hr=>?_) (fun C hr=>?_)
    .refine yy (p' z z) z<|mv z z<|sn5 z<|yy (t' z z) z<|nx<|av' z<|sr<|sx0 z z<|k'<|b'<|w'<|b'<|b'<|w'<|ap'<|b' (k0' hr z z)
    refine yy (p' z z) z<|mv z z<|gy z z (f' z) z ?_
    obtain⟨p,hr⟩:=hr
    refine gy z z (aQ' br' sz3 z z p) z<|gy z z (g' 1 sc3 z z (bo' _ _ _ p)) z ?_
    obtain⟨o,hr⟩:=hr
    refine gy z z (aQ' underlying254 sz4 z z o) z<|gy z z (g' 3 sc4 z z (bo' _ _ _ o)) z<|yy (p' z z) z<|nx<|ay' hr z (fun t hr=>?_) (fun t hr=>?_)
    .exact (show False from hr).elim
    refine l'<|a'<|n'<|mv z z ?_
    obtain⟨m,hr⟩:=hr
    refine yy (aQ' br' sz3 z z m) z<|yy (g' 1 sc3 z z (bo' _ _ _ m)) z ?_
    obtain⟨s,hr⟩:=hr
    refine yy (aQ' underlying254 sz4 z z s) z<|aB' 3 (vecG Value.bool 8 (setF d ((getF c f).toNat) true)).toArray z sz4 z z z (by first|(rw[M']; omega)|(show _<(vecG _ _ _).toArray.size; rw[M']; omega)) z (co' _ _ _ _ _)<|o'<|v'<|a'<|n'<|mv z z<|yy (I' z z) z<|sg z z<|o'<|C' ⟨i64.wrap (f+1),setF d ((getF c f).toNat) true,e⟩ hr i (f3 z z z) (w2 z z)
   refine U'<|h'<|h'<|y'<|W' e ⟨i,hr⟩ fn (wk ln)
 rintro g ⟨F,hr⟩
 refine a'<|sr<|sx0 z z<|k' (k0' hr z z)
theorem fX'{Q n L R r}(hr:(Ze5 Q n).Ret r):Ctr prog 131 #[.slice L Q.length R,.agg (vecG (Value.int .i64) 8 n).toArray] (fun G=>sl r' G L R Q) (wlt' r' r):=by
 refine A' (args:=[_,_]) (N:=47) func131 z z z (fun w0 Y ag ar=>?_)
 have M:=ar
 refine sr<|Y' 3 z z z fun U=>sg z z<|sx0 z z<|c'<|sr<|yy (m' 3 ag109 z z (M' _ _ _)) z ?_
 obtain⟨aN,ao,hr⟩:=hr
 refine B' z z (u' E180 z) (eL' ao) z (trivial)<|yy (an' z) z<|nx<|ay' hr z (fun aG hr=>?_) (fun aG hr=>?_)
 .exact (show False from hr).elim
 refine l'<|a'<|sr<|aD' (e:=152) (r:=r') (vs:=#[]) (cs:=[]) ([]:List Zb) z z z z z (by decide) (fun _=>by kernel_rfl) (z) (key:=999) z (by rw[ag]; rfl) fun p2 W t aC=>sx0 z z<|c'<|sr<|sx0 z z<|R' (fun (⟨q,y,s,I⟩:(List Zb)×Option Addr×Nat×Mem)=>[(6,.slice y q.length s)]) (fun ⟨q,y,s,I⟩=>Mem.le W I/\sl r' I y s q/\(Zc9 q).Ret r) (fun ⟨q,y,s,I⟩=>St w0 Y I []) ?_ ?_
 .refine s' ?_
  let J:(List Zb)->Prop:=fun oo=>((fun ov=>match ov with|q=>Zc9 q:(List Zb)->Cq ((List Zb)×Int)) oo).wp (fun a=>a=r)
  replace hr:(Cq.loop _ _).wp J:=hr
  refine T' (Φ:=J) (fun (⟨i,l,k,H,p⟩:(List Zb)×Option Addr×Nat×Int×Mem)=>((i,H):(List Zb)×Int)) (fun ⟨i,l,k,H,p⟩=>[(0,.slice L Q.length R),(3,pt0 U),(6,.slice l i.length k),(7,i' H)]) (fun ⟨i,l,k,H,p⟩=>Mem.le W p/\sl r' p l k i) (fun ⟨i,l,k,H,p⟩=>St w0 Y p [(3,bk0 U (vecG (Value.int .i64) 8 n) 109)]) ⟨[],p2,0,0,W⟩ hr (f4 z z z z) ⟨mr,aC⟩ (w1 z) ?_
  .intro af gx hx hr
   obtain⟨i,l,k,H,p⟩:=gx
   obtain⟨o,S⟩:=hx
   refine c'<|sr<|mv z z<|mv z z<|yy (K' F' (M.mono (mx t o)) z) z<|yy (V' z z) z<|nx<|E' hr z (fun aA hr=>?_) (fun aA hr=>?_)
   .refine l'<|a'<|c'<|s'<|sr<|yy (at' (vs:=#[]) (v:=.agg (vecG (Value.int .i64) 8 (fun _=>0)).toArray) z z (fun _=>by kernel_rfl)) z<|O' 8 z z110 z fun b2=>x' 8 z sz110 z z z (M' _ _ _) (M' _ _ _) (fun u hu=>Rp.one (cy' .i64 8) (G:=p) (x:=(fun _=>0)) (cs:=vecG (Value.int .i64) 8 (fun _=>0)) z u (by first|simpa using hu|simpa [Value.cells] using hu))<|nx<|c'<|sr<|sx0 z z<|R' (fun (⟨m,K⟩:(Fin 8->Int)×Mem)=>[(0,.slice L Q.length R),(3,pt0 U),(6,.slice l i.length k),(7,i' H),(8,pt0 b2)]) (fun ⟨m,K⟩=>Mem.le p K/\(Zda Q i H m).wp (Out af J)) (fun ⟨m,K⟩=>St w0 Y K [(3,bk0 U (vecG (Value.int .i64) 8 n) 109),(8,bk0 b2 (vecG (Value.int .i64) 8 m) 110)]) ?_ ?_
    .refine s' ?_
     let X:(Fin 8->Int)->Prop:=fun oo=>((fun ov=>match ov with|m=>Zda Q i H m:(Fin 8->Int)->Cq (((List Zb)×Int)⊕(List Zb))) oo).wp (Out af J)
     replace hr:(Cq.loop _ _).wp X:=hr
     refine T' (Φ:=X) (fun (⟨F,A,C⟩:Int×(Fin 8->Int)×Mem)=>((F,A):Int×(Fin 8->Int))) (fun ⟨F,A,C⟩=>[(0,.slice L Q.length R),(3,pt0 U),(6,.slice l i.length k),(7,i' H),(8,pt0 b2),(9,i' F)]) (fun ⟨F,A,C⟩=>Mem.le p C) (fun ⟨F,A,C⟩=>St w0 Y C [(3,bk0 U (vecG (Value.int .i64) 8 n) 109),(8,bk0 b2 (vecG (Value.int .i64) 8 A) 110)]) ⟨0,(fun _=>0),p⟩ hr (f6 z z z z z z) mr (w2 z z) ?_
     .intro aL gx hx hr
      obtain⟨F,A,C⟩:=gx
      have E:=hx
      refine c'<|sr<|mv z z<|yy (V' z z) z<|nx<|E' hr z (fun aD hr=>?_) (fun aD hr=>?_)
      .refine l'<|a'<|c'<|s'<|ad' [ff,ff,ff,ff,ff,ff,ff,ff,ff,ff] mix (by kernel_rfl) fun hb=>cn (fun _ h=>f' z) ?_
       obtain⟨ah,hr⟩:=hr
       refine cn (fun _ h=>aQ' br' sz3 z z ah)<|cn (fun _ h=>g' 3 sc3 z z (bo' _ _ _ ah))<|cn (fun _ h=>f' z)<|cn (fun _ h=>f' z)<|cn (fun _ h=>f' z) ?_
       obtain⟨x2,ad,hr⟩:=hr
       refine cn (fun _ h=>P' F' bh' ((M.mono (mx (mx t o) E)).mono h) z z ad)<|cn (fun _ h=>aL' z) ?_
       obtain⟨ae,hr⟩:=hr
       refine cn (fun _ h=>Y0.idxA ag' sz3 z z ae)<|cn (fun _ h=>ae' sc3 z (AtK.vecAt (H' (H' (bP' (aS' (X' M ad))) (mx (mx t o) E)) h) ae))<|af' hb ?_
       obtain⟨aF,hr⟩:=hr
       refine yy (aQ' ag' sz3 z z aF) z<|aB' 8 (vecG (Value.int .i64) 8 (setF A ((getF n F).toNat) (getF x2.m F))).toArray z sz3 z z z (by first|(rw[M']; omega)|(show _<(vecG _ _ _).toArray.size; rw[M']; omega)) z (co' _ _ _ _ _)<|o'<|am'<|v'<|a'<|n'<|mv z z<|yy (I' z z) z<|sg z z<|o'<|C' ⟨i64.wrap (F+1),setF A ((getF n F).toNat) (getF x2.m F),C⟩ hr E (f6 z z z z z z) (w2 z z)
      refine U'<|h'<|h'<|y'<|W' ⟨A,C⟩ ⟨E,hr⟩ (f5 z z z z z) (w2 z z)
    rintro⟨m,K⟩ ⟨D,hr⟩
    refine a'<|ad' [tt,ff,ff,ff,ff,ff,ff] mix (by kernel_rfl) fun hb=>dA' z (f' z)<|cn (fun _ h=>f' z)<|cn (fun _ h=>f' z) ?_
    obtain⟨B,ai,hr⟩:=hr
    refine cn (fun _ h=>P' F' bh' ((M.mono (mx (mx t o) D)).mono h) z z ai)<|cn (fun _ h=>bB' z) ?_
    obtain⟨d,f,g,c,ax,P,O⟩:=cN' (H' (bS' (aS' (X' M ai))) (mx (mx t o) D))
    refine cn (fun _ h=>as' _ bg' z z (fun j v hv=>h _ _ _ (ax j v hv)))<|cn (fun _ h=>m' 8 aT' z z (M' _ _ _))<|af' hb<|yy (at' (vs:=#[(0,.agg ((v101' B.c d f g c)).toArray),(1,.agg (vecG (Value.int .i64) 8 m).toArray)]) (v:=.agg (((v101' B.c d f g c):List Value)++(vecG (Value.int .i64) 8 m)).toArray) z z (fun _=>by kernel_rfl)) z<|aD' (e:=152) (r:=r') (vs:=#[(0,.agg (((v101' B.c d f g c):List Value)++(vecG (Value.int .i64) 8 m)).toArray)]) (cs:=(((v101' B.c d f g c):List Value)++(vecG (Value.int .i64) 8 m))++([])) ([(Zb.mk B.c m)]:List Zb) z z z z z (by decide) (fun _=>by kernel_rfl) ⟨((v101' B.c d f g c):List Value)++(vecG (Value.int .i64) 8 m),[],z,⟨(v101' B.c d f g c),vecG (Value.int .i64) 8 m,z,⟨(v99' B.c.num d f),(v99' B.c.den g c),z,⟨[.bool B.c.num.neg],[.slice d B.c.num.mag.length f],z,z,⟨_,z,P⟩⟩,⟨[.bool B.c.den.neg],[.slice g B.c.den.mag.length c],z,z,⟨_,z,O⟩⟩⟩,z⟩,z⟩ (key:=999) z (by rw[ag]; rfl) (fun p3 aM T aB=>?_)
    obtain⟨az,ap,hr⟩:=hr
    refine Q' z z (u' E114 z) (ew' ap) z (⟨(S.mono (mx D T)),aB⟩) (fun aJ aw Z V=>?_)
    obtain⟨aq,ak,rfl,av⟩:=V
    refine sg z z<|o'<|am'<|v'<|a'<|n'<|mv z z<|yy (I' z z) z<|sg z z<|o'<|C' ⟨az,aq,ak,i64.wrap (H+1),aw⟩ hr ⟨(mx (mx (mx o D) T) Z),av⟩ (f4 z z z z) (w1 z)
   refine U'<|h'<|h'<|y'<|W' ⟨i,l,k,p⟩ ⟨o,S,hr⟩ (f1 z) (wk ln)
 rintro⟨q,y,s,I⟩ ⟨aH,ac,hr⟩
 refine a'<|sr<|mv z z<|sg z z<|sx0 z z<|k' ?_
 obtain rfl:_=r:=hr
 exact bE' z z z ⟨_,_,z,ac⟩
theorem de'{l1 E Y ab r}(hr:(ZaW l1 E).Ret r):Ctr prog 81 #[.slice Y l1.length ab,.agg (vecG (Value.int .i64) 8 E).toArray] (fun G=>sl e' G Y ab l1) (wl' e' r):=by
 refine A' (args:=[_,_]) (N:=37) func81 z z z (fun w0 G0 V an=>?_)
 have J:=an
 refine sr<|Y' 3 z z z fun b1=>sg z z<|nr<|aD' (e:=57) (r:=e') (vs:=#[]) (cs:=[]) ([]:List Zc) z z z z z (by decide) (fun _=>by kernel_rfl) (z) (key:=999) z (by rw[V]; rfl) fun p1 Z t av=>sx0 z z<|c'<|sr<|sx0 z z<|R' (fun (⟨m,q,p,o,D⟩:(List Zc)×Option Addr×Nat×Option Ow×Mem)=>[(5,.slice q m.length p)]) (fun ⟨m,q,p,o,D⟩=>Mem.le Z D/\sl e' D q p m/\Tok 2 57 (.slice q m.length p) m.length o/\(Zej m).Ret r) (fun ⟨m,q,p,o,D⟩=>St w0 G0 D [(1005,o)]) ?_ ?_
 .refine s' ?_
  let X:(List Zc)->Prop:=fun oo=>((fun ov=>match ov with|m=>Zej m:(List Zc)->Cq (List Zc)) oo).wp (fun a=>a=r)
  replace hr:(Cq.loop _ _).wp X:=hr
  refine T' (Φ:=X) (fun (⟨i,l,k,j,M,x⟩:(List Zc)×Option Addr×Nat×Option Ow×Int×Mem)=>((i,M):(List Zc)×Int)) (fun ⟨i,l,k,j,M,x⟩=>[(0,.slice Y l1.length ab),(3,pt0 b1),(5,.slice l i.length k),(6,i' M)]) (fun ⟨i,l,k,j,M,x⟩=>Mem.le Z x/\sl e' x l k i/\Tok 2 57 (.slice l i.length k) i.length j) (fun ⟨i,l,k,j,M,x⟩=>St w0 G0 x [(3,bk0 b1 (vecG (Value.int .i64) 8 E) 109),(1005,j)]) ⟨[],p1,0,none,0,Z⟩ hr (f4 z z z z) ⟨mr,av,cc'⟩ (wk (lc z (lw ln))) ?_
  .intro aO gx hx hr
   obtain⟨i,l,k,j,M,x⟩:=gx
   obtain⟨n,P,I⟩:=hx
   refine c'<|sr<|mv z z<|mv z z<|yy (K' N' (J.mono (mx t n)) z) z<|yy (V' z z) z<|nx<|E' hr z (fun aD hr=>?_) (fun aD hr=>?_)
   .refine l'<|a'<|c'<|s'<|c'<|ad' [ff,ff,ff,ff,ff,ff,ff,ff,ff,tt] mix (by kernel_rfl) fun hb=>cn (fun _ f=>f' z)<|cn (fun _ f=>f' z) ?_
    obtain⟨x1,ai,hr⟩:=hr
    refine cn (fun _ f=>P' N' bK' ((J.mono (mx t n)).mono f) z z ai)<|cn (fun _ f=>ck' z) ?_
    obtain⟨p2,aR,az,ax⟩:=dg' (H' (bP' (aS' (X' J ai))) (mx t n))
    refine cn (fun _ f=>ae' sc44 z (f _ _ _ az))<|cn (fun _ f=>m' 3 ag109 z z (M' _ _ _)) ?_
    obtain⟨g,am,hr⟩:=hr
    refine aw' (post:=wlt' r' g) (fun _=>z) (fun _ _=>u' E131 z) (fX' am) z (fun R f=>(ax.mono f)) (fun v G1 G2 f h=>?_) ?_
    .obtain⟨C,A,rfl,s⟩:=h
     exact⟨_,_,z,s.mono f⟩
    refine bC' (φ:=wlt' r' g) (fun _=>z) (fun v G1 G2 f h=>?_) (fun u R f hu=>?_) ?_
    .obtain⟨p3,O,rfl,K⟩:=h
     exact⟨_,_,z,K.mono f⟩
    .obtain⟨⟨C,A,ad,s⟩,_⟩:=(show (wlt' r' g) R.m (u 23)/\True from hu)
     simp only[undFr,ad]
     exact⟨_,f' z,C,A,z,s⟩
    refine bC' (φ:=wl' r' g.1) (fun _=>z) (fun v G1 G2 f h=>?_) (fun u R f hu=>?_) ?_
    .obtain⟨L,B,rfl,W⟩:=h
     exact⟨_,_,z,W.mono f⟩
    .obtain⟨⟨p3,O,F,K⟩,_,_⟩:=(show (wlt' r' g) R.m (u 16)/\True/\True from hu)
     simp only[undFr,F]
     exact⟨_,L' z z,p3,O,z,K⟩
    refine bZ' (c:=i' g.2) (fun _=>z) (fun u R f hu=>?_) ?_
    .obtain⟨_,⟨p3,O,F,K⟩,_,_⟩:=(show True/\(wlt' r' g) R.m (u 16)/\True/\True from hu)
     simp only[undFr,F]
     exact L' z z
    refine dM' (d:=24) (post:=wl' r' g.1) (d':=16) (post':=wlt' r' g) (d'':=23) (post'':=wlt' r' g) (fun aF aJ aK aP y T U S=>?_)
    obtain⟨L,B,rfl,W⟩:=T
    obtain⟨p3,O,rfl,K⟩:=U
    obtain⟨C,A,rfl,s⟩:=S
    refine sg z z<|sg z z<|o'<|am'<|a'<|n'<|mv z z<|mv z z<|mv z z ?_
    obtain⟨H,ah,hr⟩:=hr
    refine yy (P' N' bK' (J.mono (mx (mx t n) y)) z z ah) z<|yy (bl' z) z<|yy (ae' sc3 z (aA' (H' (bS' (aS' (X' J ah))) (mx (mx t n) y)))) z<|mv z z<|yy (at' (vs:=#[(0,i' H.id),(1,.slice L g.1.length B)]) (v:=.agg ([i' H.id,.slice L g.1.length B]).toArray) z z (fun _=>by kernel_rfl)) z<|aD' (e:=57) (r:=e') (vs:=#[(0,.agg ([i' H.id,.slice L g.1.length B]).toArray)]) (cs:=[i' H.id,.slice L g.1.length B]++([])) ([(Zc.mk H.id g.1)]:List Zc) z z z z z (by decide) (fun _=>by kernel_rfl) ⟨[i' H.id,.slice L g.1.length B],[],z,⟨[i' H.id],[.slice L g.1.length B],z,z,⟨_,z,W⟩⟩,z⟩ (key:=999) z (by rw[V]; rfl) (fun p5 aQ Q aA=>?_)
    obtain⟨ak,hr⟩:=hr
    refine aW' (r:=e') 1005 z z N' el57 z (by decide) z z (P.mono (mx y Q)) z (by rw[V]; rfl) I aA ak fun p6 ar al ap ae ao aj=>sg z z<|o'<|v'<|a'<|n'<|mv z z<|yy (I' z z) z<|sg z z<|o'<|C' ⟨(i++[(Zc.mk H.id g.1)]),p6,ar,al,i64.wrap (M+1),ap⟩ hr ⟨(mx (mx (mx n y) Q) ae),ao,aj⟩ (f4 z z z z) (w2 z z)
   refine U'<|h'<|h'<|y'<|W' ⟨i,l,k,j,x⟩ ⟨n,P,I,hr⟩ (f1 z) (w1 z)
 rintro⟨m,q,p,o,D⟩ ⟨aE,ag,aw,hr⟩
 refine a'<|sr<|mv z z<|sx0 z z<|k' ?_
 obtain rfl:_=r:=hr
 exact j' z z ⟨_,_,z,ag⟩
theorem dJ'{Y d T U i j r}(hr:(Zcy Y d).Ret r):Ctr prog 133 #[.slice T Y.length U,.agg ((v57' d.id i d.p j)).toArray] (fun G=>sl e' G T U Y/\sl r' G i j d.p) (wl' e' r):=by
 refine A' (args:=[_,_]) (N:=53) func133 z z z (fun w0 G0 F au=>?_)
 obtain⟨H,aa⟩:=au
 refine sr<|Y' 3 z z z fun X=>sg z z<|nr<|aD' (e:=57) (r:=e') (vs:=#[]) (cs:=[]) ([]:List Zc) z z z z z (by decide) (fun _=>by kernel_rfl) (z) (key:=999) z (by rw[F]; rfl) fun p1 ab n aG=>sg z z<|nr<|sx0 z z<|c'<|sr<|sx0 z z<|R' (fun (⟨p,C,A,x,v,L⟩:(List Zc)×Option Addr×Nat×Option Ow×Bool×Mem)=>[(3,pt0 X),(5,.slice C p.length A),(6,.bool v)]) (fun ⟨p,C,A,x,v,L⟩=>Mem.le ab L/\sl e' L C A p/\Tok 2 57 (.slice C p.length A) p.length x/\(ZfS d p v).Ret r) (fun ⟨p,C,A,x,v,L⟩=>St w0 G0 L [(3,bk0 X (v57' d.id i d.p j) 57),(1005,x)]) ?_ ?_
 .refine s' ?_
  let Q:(((List Zc)×Bool))->Prop:=fun oo=>((fun ov=>match ov with|(p,v)=>ZfS d p v:(((List Zc)×Bool))->Cq (List Zc)) oo).wp (fun a=>a=r)
  replace hr:(Cq.loop _ _).wp Q:=hr
  refine T' (Φ:=Q) (fun (⟨h,l,k,g,m,K,y⟩:(List Zc)×Option Addr×Nat×Option Ow×Bool×Int×Mem)=>((h,m,K):(List Zc)×Bool×Int)) (fun ⟨h,l,k,g,m,K,y⟩=>[(0,.slice T Y.length U),(3,pt0 X),(5,.slice l h.length k),(6,.bool m),(7,i' K)]) (fun ⟨h,l,k,g,m,K,y⟩=>Mem.le ab y/\sl e' y l k h/\Tok 2 57 (.slice l h.length k) h.length g) (fun ⟨h,l,k,g,m,K,y⟩=>St w0 G0 y [(3,bk0 X (v57' d.id i d.p j) 57),(1005,g)]) ⟨[],p1,0,none,false,0,ab⟩ hr (f5 z z z z z) ⟨mr,aG,cc'⟩ (wk (lc z (lw ln))) ?_
  .intro az gx hx hr
   obtain⟨h,l,k,g,m,K,y⟩:=gx
   obtain⟨f,E,D⟩:=hx
   refine c'<|sr<|mv z z<|mv z z<|yy (K' N' (H.mono (mx n f)) z) z<|yy (V' z z) z<|nx<|E' hr z (fun aF hr=>?_) (fun aF hr=>?_)
   .refine l'<|a'<|c'<|s'<|aP' (fun (⟨o,t,u,q,s,I⟩:(List Zc)×Option Addr×Nat×Option Ow×Bool×Mem)=>[(0,.slice T Y.length U),(3,pt0 X),(5,.slice t o.length u),(6,.bool s),(7,i' K)]) (fun ⟨o,t,u,q,s,I⟩=>Mem.le y I/\sl e' I t u o/\Tok 2 57 (.slice t o.length u) o.length q/\(ZdT Y d K o s).wp (Out az Q)) (fun ⟨o,t,u,q,s,I⟩=>St w0 G0 I [(3,bk0 X (v57' d.id i d.p j) 57),(1005,q)]) ?_ ?_
    .refine c'<|ad' [ff,ff,ff,ff,ff,ff,ff,ff,ff,ff] mix (by kernel_rfl) fun hb=>bX' hr z (fun _ c=>cp' (f' z) (congrArg Value.bool (bdec _))) (fun aN hr=>?_) (fun aN hr=>?_)
     .refine cn (fun _ c=>an' z)<|cn (fun _ c=>f' z)<|ct z z<|ct z z<|ct z z<|ct z z<|ct z z<|ct z z<|ct z z<|af' hb<|sk z z z<|yy (p' z z) z<|o'<|am'<|a'<|aK' z<|l'<|al' ⟨h,l,k,g,m,y⟩ ⟨mr,E,D,hr⟩ (f5 z z z z z) (w2 z z)
     refine cn (fun _ c=>an' z)<|cn (fun _ c=>f' z)<|cy z z (fun _ c=>f' z)<|cy z z (fun _ c=>f' z) ?_
     obtain⟨x4,ai,hr⟩:=hr
     refine cy z z (fun _ c=>P' N' bK' ((H.mono (mx n f)).mono c) z z ai)<|cy z z (fun _ c=>bl' z)<|cy z z (fun _ c=>ae' sc3 z (aA' (H' (H' (bS' (aS' (X' H ai))) (mx n f)) c)))<|cy z z (fun _ c=>bl' z)<|cy z z (fun _ c=>g' 3 sc3 z z z)<|af' hb<|gy z z (aV' z z) z<|yy (t' z z) z<|o'<|am'<|a'<|E' hr z (fun aE hr=>?_) (fun aE hr=>?_)
     .refine sr<|mv z z<|yy (m' 3 ag57 z z z) z<|aD' (e:=57) (r:=e') (vs:=#[(0,.agg ((v57' d.id i d.p j)).toArray)]) (cs:=(v57' d.id i d.p j)++([])) ([d]:List Zc) z z z z z (by decide) (fun _=>by kernel_rfl) ⟨(v57' d.id i d.p j),[],z,⟨[i' d.id],[.slice i d.p.length j],z,z,⟨_,z,(aa.mono (mx n f))⟩⟩,z⟩ (key:=999) z (by rw[F]; rfl) (fun p6 a3 S ay=>?_)
      obtain⟨am,hr⟩:=hr
      refine aW' (r:=e') 1005 z z N' el57 z (by decide) z z (E.mono S) z (by rw[F]; rfl) D ay am fun p7 aM ak aA ag aD an=>sx0 z z<|n'<|sg z z<|o'<|al' ⟨(h++[d]),p7,aM,ak,true,aA⟩ ⟨(mx S ag),aD,an,hr⟩ (f5 z z z z z) (w2 z z)
     refine l'<|al' ⟨h,l,k,g,m,y⟩ ⟨mr,E,D,hr⟩ (f5 z z z z z) (w2 z z)
    rintro⟨o,t,u,q,s,I⟩ ⟨B,R,P,hr⟩
    refine c'<|ad' [ff,ff,ff,ff,ff,ff,ff] mix (by kernel_rfl) fun hb=>cn (fun _ c=>f' z)<|cn (fun _ c=>f' z) ?_
    obtain⟨x2,ah,hr⟩:=hr
    refine cn (fun _ c=>P' N' bK' ((H.mono (mx (mx n f) B)).mono c) z z ah)<|cn (fun _ c=>bl' z)<|cn (fun _ c=>ae' sc3 z (aA' (H' (H' (bS' (aS' (X' H ah))) (mx (mx n f) B)) c)))<|cn (fun _ c=>bl' z)<|cn (fun _ c=>g' 3 sc3 z z z)<|af' hb<|yy (bj' z z) z<|o'<|am'<|a'<|E' hr z (fun aJ hr=>?_) (fun aJ hr=>?_)
    .refine n'<|mv z z<|mv z z<|mv z z ?_
     obtain⟨J,aj,hr⟩:=hr
     refine yy (P' N' bK' (H.mono (mx (mx n f) B)) z z aj) z ?_
     obtain⟨M,O,aB,av⟩:=bN' (H' (X' H aj) (mx (mx n f) B))
     refine yy (as' _ ag57 z z aB) z<|aD' (e:=57) (r:=e') (vs:=#[(0,.agg ((v57' J.id M J.p O)).toArray)]) (cs:=(v57' J.id M J.p O)++([])) ([J]:List Zc) z z z z z (by decide) (fun _=>by kernel_rfl) ⟨(v57' J.id M J.p O),[],z,⟨[i' J.id],[.slice M J.p.length O],z,z,⟨_,z,av⟩⟩,z⟩ (key:=999) z (by rw[F]; rfl) (fun p4 aZ V aC=>?_)
     obtain⟨ao,hr⟩:=hr
     refine aW' (r:=e') 1005 z z N' el57 z (by decide) z z (R.mono V) z (by rw[F]; rfl) P aC ao fun p5 ax aw aK ad aL aq=>sg z z<|o'<|v'<|a'<|n'<|mv z z<|yy (I' z z) z<|sg z z<|o'<|C' ⟨(o++[J]),p5,ax,aw,s,i64.wrap (K+1),aK⟩ hr ⟨(mx (mx (mx f B) V) ad),aL,aq⟩ (f5 z z z z z) (w2 z z)
    refine l'<|v'<|a'<|n'<|mv z z<|yy (I' z z) z<|sg z z<|o'<|C' ⟨o,t,u,q,s,i64.wrap (K+1),I⟩ hr ⟨(mx f B),R,P⟩ (f5 z z z z z) (w2 z z)
   refine U'<|h'<|h'<|y'<|W' ⟨h,l,k,g,m,y⟩ ⟨f,E,D,hr⟩ (f3 z z z) (w2 z z)
 rintro⟨p,C,A,x,v,L⟩ ⟨af,W,Z,hr⟩
 refine a'<|c'<|sr<|mv z z<|yy (an' z) z<|nx<|ay' hr z (fun aO hr=>?_) (fun aO hr=>?_)
 .refine n'<|mv z z<|yy (m' 3 ag57 z z z) z<|aD' (e:=57) (r:=e') (vs:=#[(0,.agg ((v57' d.id i d.p j)).toArray)]) (cs:=(v57' d.id i d.p j)++([])) ([d]:List Zc) z z z z z (by decide) (fun _=>by kernel_rfl) ⟨(v57' d.id i d.p j),[],z,⟨[i' d.id],[.slice i d.p.length j],z,z,⟨_,z,(aa.mono (mx n af))⟩⟩,z⟩ (key:=999) z (by rw[F]; rfl) (fun p2 a0 ae aI=>?_)
  obtain⟨al,hr⟩:=hr
  refine aW' (r:=e') 1005 z z N' el57 z (by decide) z z (W.mono ae) z (by rw[F]; rfl) Z aI al fun p3 a1 aQ a2 aP aH aU=>sg z z<|nr<|mv z z<|sx0 z z<|k' ?_
  obtain rfl:_=r:=hr
  exact j' z z ⟨_,_,z,aH⟩
 refine l'<|a'<|sr<|mv z z<|sx0 z z<|k' ?_
 obtain rfl:_=r:=hr
 exact j' z z ⟨_,_,z,W⟩
theorem ep'{I B F D r}(hr:(Zdb I B).Ret r):Ctr prog 134 #[.slice F I.length D,i' B] (fun G=>sl e' G F D I) (wl' e' r):=by
 refine A' (args:=[_,_]) (N:=29) func134 z z z (fun V T E P=>?_)
 have v:=P
 refine sr<|sg z z<|nr<|aD' (e:=57) (r:=e') (vs:=#[]) (cs:=[]) ([]:List Zc) z z z z z (by decide) (fun _=>by kernel_rfl) (z) (key:=999) z (by rw[E]; rfl) fun p1 A n X=>sx0 z z<|c'<|sr<|sx0 z z<|R' (fun (⟨i,l,k,j,q⟩:(List Zc)×Option Addr×Nat×Option Ow×Mem)=>[(5,.slice l i.length k)]) (fun ⟨i,l,k,j,q⟩=>Mem.le A q/\sl e' q l k i/\Tok 2 57 (.slice l i.length k) i.length j/\(Zfb i).Ret r) (fun ⟨i,l,k,j,q⟩=>St V T q [(1005,j)]) ?_ ?_
 .refine s' ?_
  let C:(List Zc)->Prop:=fun oo=>((fun ov=>match ov with|i=>Zfb i:(List Zc)->Cq (List Zc)) oo).wp (fun a=>a=r)
  replace hr:(Cq.loop _ _).wp C:=hr
  refine T' (Φ:=C) (fun (⟨d,g,f,c,x,m⟩:(List Zc)×Option Addr×Nat×Option Ow×Int×Mem)=>((d,x):(List Zc)×Int)) (fun ⟨d,g,f,c,x,m⟩=>[(0,.slice F I.length D),(1,i' B),(5,.slice g d.length f),(6,i' x)]) (fun ⟨d,g,f,c,x,m⟩=>Mem.le A m/\sl e' m g f d/\Tok 2 57 (.slice g d.length f) d.length c) (fun ⟨d,g,f,c,x,m⟩=>St V T m [(1005,c)]) ⟨[],p1,0,none,0,A⟩ hr (f4 z z z z) ⟨mr,X,cc'⟩ (wk (lw ln)) ?_
  .intro ak gx hx hr
   obtain⟨d,g,f,c,x,m⟩:=gx
   obtain⟨h,u,o⟩:=hx
   refine c'<|sr<|mv z z<|mv z z<|yy (K' N' (v.mono (mx n h)) z) z<|yy (V' z z) z<|nx<|E' hr z (fun ac hr=>?_) (fun ac hr=>?_)
   .refine l'<|a'<|c'<|s'<|sr<|mv z z<|mv z z ?_
    obtain⟨x1,L,hr⟩:=hr
    refine yy (P' N' bK' (v.mono (mx n h)) z z L) z<|yy (bl' z) z<|yy (ae' sc3 z (aA' (H' (bS' (aS' (X' v L))) (mx n h)))) z<|mv z z<|yy (bj' z z) z<|nx<|E' hr z (fun U hr=>?_) (fun U hr=>?_)
    .refine n'<|mv z z<|mv z z<|mv z z ?_
     obtain⟨p,K,hr⟩:=hr
     refine yy (P' N' bK' (v.mono (mx n h)) z z K) z ?_
     obtain⟨s,t,W,Q⟩:=bN' (H' (X' v K) (mx n h))
     refine yy (as' _ ag57 z z W) z<|aD' (e:=57) (r:=e') (vs:=#[(0,.agg ((v57' p.id s p.p t)).toArray)]) (cs:=(v57' p.id s p.p t)++([])) ([p]:List Zc) z z z z z (by decide) (fun _=>by kernel_rfl) ⟨(v57' p.id s p.p t),[],z,⟨[i' p.id],[.slice s p.p.length t],z,z,⟨_,z,Q⟩⟩,z⟩ (key:=999) z (by rw[E]; rfl) (fun p2 al y ab=>?_)
     obtain⟨R,hr⟩:=hr
     refine aW' (r:=e') 1005 z z N' el57 z (by decide) z z (u.mono y) z (by rw[E]; rfl) o ab R fun p3 S O Y H aa M=>sg z z<|o'<|v'<|a'<|n'<|mv z z<|yy (I' z z) z<|sg z z<|o'<|C' ⟨(d++[p]),p3,S,O,i64.wrap (x+1),Y⟩ hr ⟨(mx (mx h y) H),aa,M⟩ (f4 z z z z) (w1 z)
    refine l'<|v'<|a'<|n'<|mv z z<|yy (I' z z) z<|sg z z<|o'<|C' ⟨d,g,f,c,i64.wrap (x+1),m⟩ hr ⟨h,u,o⟩ (f4 z z z z) (w1 z)
   refine U'<|h'<|h'<|y'<|W' ⟨d,g,f,c,m⟩ ⟨h,u,o,hr⟩ (f1 z) (w1 z)
 rintro⟨i,l,k,j,q⟩ ⟨ad,J,Z,hr⟩
 refine a'<|sr<|mv z z<|sx0 z z<|k' ?_
 obtain rfl:_=r:=hr
 exact j' z z ⟨_,_,z,J⟩
end Go.Proofs.YtnbpjambcagjcaaGreat

