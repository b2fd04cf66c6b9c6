/- The law MergeExchange holds for every input: a part of its proof (what the code does, plain models, and what they return). No condition. -/
import Derived.Test.YtdigmacmdlpckaaGreatXE13f
import Derived.Test.YtdigmacmdlpckaaGreatXE13d
set_option linter.unusedVariables false
set_option linter.unusedSimpArgs false
namespace Go.Proofs.YtdigmacmdlpckaaGreat
open Go.IntKind (i8 i16 i32 i64 u8 u16 u32 u64)
open Go.Proofs.Tryz
open Go Go.EL Go.RowKit Go.Proofs
set_option maxHeartbeats 2000000 in
theorem fF'{r}(a:(HF).ο r):ä prog 4 #[] (λG=>True) (λG v=>v = .bool r):=by
 refine E' (args:=[]) (N:=122) func4 z z z λw0 G0 dd gs=>sr<|ς z<|nr ?_
 obtain⟨bm,eF,a⟩:=a
 refine U' z z (x' uy z) (uO eF) z (trivial) (λf7 gD fW c1=>?_)
 obtain⟨bP,bN,rfl,en⟩:=c1
 refine jL (e:=51) (r:=j') (vs:=#[(0,.agg ((þ bm.id bP bm.p bN)).toArray)]) (cs:=(þ bm.id bP bm.p bN)++([])) ([bm]:Ŀ Zc) z z z z z (by decide) (λ_=>by kernel_rfl) ⟨(þ bm.id bP bm.p bN),[],z,⟨[i' bm.id],[ε bP bm.p bN],z,z,⟨_,z,en⟩⟩,z⟩ (key:=999) z (by rw[dd]; rfl) (λp1 gI fH fo=>?_)
 obtain⟨gB,eV,a⟩:=a
 refine U' z z (x' xf z) (yx eV) z (fo) (λgd gJ fU c9=>?_)
 obtain⟨eS,eN,fb,e3,eW,e1,rfl,aq,aH,ap⟩:=c9
 refine T' 1 z na z λb1=>ø 1 jB z<|nr ?_
 obtain⟨bl,eP,a⟩:=a
 refine U' z z (x' uy z) (uO eP) z (trivial) (λgg gA T c2=>?_)
 obtain⟨bM,bR,rfl,ed⟩:=c2
 obtain⟨aW,eC,a⟩:=a
 refine U' z z (x' uy z) (uO eC) z (trivial) (λf6 gE P c6=>?_)
 obtain⟨bi,bj,rfl,el⟩:=c6
 refine jL (e:=51) (r:=j') (vs:=#[(0,.agg ((þ bl.id bM bl.p bR)).toArray),(1,.agg ((þ aW.id bi aW.p bj)).toArray)]) (cs:=(þ bl.id bM bl.p bR)++((þ aW.id bi aW.p bj)++([]))) ([bl,aW]:Ŀ Zc) z z z z z (by decide) (λ_=>by kernel_rfl) ⟨(þ bl.id bM bl.p bR),(þ aW.id bi aW.p bj)++([]),z,⟨[i' bl.id],[ε bM bl.p bR],z,z,⟨_,z,(ed.mono P)⟩⟩,⟨(þ aW.id bi aW.p bj),[],z,⟨[i' aW.id],[ε bi aW.p bj],z,z,⟨_,z,el⟩⟩,z⟩⟩ (key:=999) z (by rw[dd]; rfl) (λp2 gF V fB=>?_)
 obtain⟨gz,eO,a⟩:=a
 refine U' z z (x' xf z) (yx eO) z (fB) (λf5 gH U c7=>?_)
 obtain⟨eL,eI,fg,e7,eD,eU,rfl,bf,bt,bb⟩:=c7
 obtain⟨bo,eJ,a⟩:=a
 refine U' z z (x' uy z) (uO eJ) z (trivial) (λga gC o c4=>?_)
 obtain⟨bO,bQ,rfl,ev⟩:=c4
 obtain⟨a5,e2,a⟩:=a
 refine U' z z (x' uy z) (uO e2) z (trivial) (λgj gv n c3=>?_)
 obtain⟨bn,bk,rfl,d9⟩:=c3
 refine jL (e:=51) (r:=j') (vs:=#[(0,.agg ((þ bo.id bO bo.p bQ)).toArray),(1,.agg ((þ a5.id bn a5.p bk)).toArray)]) (cs:=(þ bo.id bO bo.p bQ)++((þ a5.id bn a5.p bk)++([]))) ([bo,a5]:Ŀ Zc) z z z z z (by decide) (λ_=>by kernel_rfl) ⟨(þ bo.id bO bo.p bQ),(þ a5.id bn a5.p bk)++([]),z,⟨[i' bo.id],[ε bO bo.p bQ],z,z,⟨_,z,(ev.mono n)⟩⟩,⟨(þ a5.id bn a5.p bk),[],z,⟨[i' a5.id],[ε bn a5.p bk],z,z,⟨_,z,d9⟩⟩,z⟩⟩ (key:=999) z (by rw[dd]; rfl) (λp3 gm m fA=>?_)
 obtain⟨gu,eR,a⟩:=a
 refine U' z z (x' xf z) (yx eR) z (fA) (λgf gq k c5=>?_)
 obtain⟨e0,eQ,e6,fd,eK,eG,rfl,be,bw,bd⟩:=c5
 refine T' 2 z na z λb2=>T' 3 z na z λb3=>ø 2 jB z<|ø 3 jB z<|nr<|γ (w' 1 ÿ z z z)<|γ (w' 2 ÿ z z z)<|γ (w' 3 ÿ z z z) ?_
 obtain⟨ey,eM,a⟩:=a
 have N1:=mx (mx (mx (mx (mx (mx (mx T P) V) U) o) n) m) k
 have N2:=mx (mx (mx o n) m) k
 refine U' z z (x' E6 z) (yk eM) z (⟨(aq.mono N1),(aH.mono N1),(ap.mono N1),(bf.mono N2),(bt.mono N2),(bb.mono N2),be,bw,bd⟩) (λge f8 l c8=>?_)
 obtain⟨ch,ci,cv,co,cg,ck,fy,fs,rfl,cm,cr,cl,dA⟩:=c8
 refine δ z<|Û z<|Û z<|Û z<|T' 4 z na z λb4=>ø 4 jB z<|ς z<|θ z<|c'<|hZ [ff,ff,ff,ff,ff,ff,ff,ff,tt,tt,ff] gp (by kernel_rfl) λhb=>cn (λ_ g=>w' 1 ÿ z z z) ?_
 obtain⟨dg,eq,a⟩:=a
 refine mL (post:=mI dg) (λ_=>z) (λ_ _=>x' xf z) (yx eq) z (λW g=>(gi j' _)) (λv G1 G2 g h=>?_) ?_
 .obtain⟨bJ,bG,bY,b0,bB,bK,rfl,aM,aU,aN⟩:=h
  exact⟨_,_,_,_,_,_,z,aM.mono g,aU.mono g,aN.mono g⟩
 obtain⟨an,ep,a⟩:=a
 refine mL (post:=λG v=>∃ aa Z,v = .agg ((þ an.id aa an.p Z)).toArray/\sl n' G aa Z an.p) (λ_=>z) (λ_ _=>x' uy z) (uO ep) z (λW g=>trivial) (λv G1 G2 g h=>?_) ?_
 .obtain⟨aa,Z,rfl,bg⟩:=h
  exact⟨_,_,z,bg.mono g⟩
 refine uP (r:=j') (e:=51) ([an]:Ŀ Zc) (λ_=>z) z (by decide) (λu W g w=>?_) ?_
 .obtain⟨⟨aa,Z,db,bg⟩,_,_⟩:=(show (λG v=>∃ aa Z,v = .agg ((þ an.id aa an.p Z)).toArray/\sl n' G aa Z an.p) W.m (u 41)/\True/\True from w)
  simp only[ψ,db]
  exact⟨#[(0,.agg ((þ an.id aa an.p Z)).toArray)],(þ an.id aa an.p Z)++([]),z,z,λ_=>by kernel_rfl,⟨(þ an.id aa an.p Z),[],z,⟨[i' an.id],[ε aa an.p Z],z,z,⟨_,z,bg⟩⟩,z⟩⟩
 obtain⟨dy,eu,a⟩:=a
 refine sm (f:=11) (φ:=mI dy) (λ_=>z) (λv G1 G2 g h=>?_) (λu W g w=>?_) ?_
 .obtain⟨bF,bD,bW,bT,bE,bA,rfl,aL,aT,aQ⟩:=h
  exact⟨_,_,_,_,_,_,z,aL.mono g,aT.mono g,aQ.mono g⟩
 .obtain⟨⟨p4,dx,da,ez⟩,_,_,_⟩:=(show (λG v=>∃ p4 dx,v = .slice p4 1 1/\kM j' G (.slice p4 1 1) dx [an]) W.m (u 42)/\True/\True/\True from w)
  exact⟨_,_,_,λ_=>x' xf z,yx eu,(by simp only[da] <;> rfl),ez⟩
 obtain⟨j,ek,a⟩:=a
 refine sm (f:=6) (φ:=λG v=>∃ s t L K y x aj ai,v = .tuple #[.agg ((Ρ j.1 s t L K y x)).toArray,ε aj j.2.1 ai,i' j.2.2]/\sl Rp.str G s t j.1.vars/\sl j' G L K j.1.eqs/\sl j' G y x j.1.ζ/\sl kB G aj ai j.2.1) (λ_=>z) (λv G1 G2 g h=>?_) (λu W g w=>?_) ?_
 .obtain⟨s,t,L,K,y,x,aj,ai,rfl,ar,aG,au,a7⟩:=h
  exact⟨_,_,_,_,_,_,_,_,z,ar.mono g,aG.mono g,au.mono g,a7.mono g⟩
 .obtain⟨⟨bF,bD,bW,bT,bE,bA,dc,aL,aT,aQ⟩,_,_,⟨bJ,bG,bY,b0,bB,bK,dz,aM,aU,aN⟩,_⟩:=(show (mI dy) W.m (u 43)/\True/\True/\(mI dg) W.m (u 40)/\True from w)
  exact⟨_,_,_,λ_=>x' E6 z,yk ek,(by simp only[dc,dz] <;> rfl),⟨((aq.mono (mx N1 l)).mono g),((aH.mono (mx N1 l)).mono g),((ap.mono (mx N1 l)).mono g),aM,aU,aN,aL,aT,aQ⟩⟩
 refine qY (φ:=λG v=>∃ p5 ax p6 aB p7 aA p8 aE,v = .tuple #[.agg ((Ρ j.1 p5 ax p6 aB p7 aA)).toArray,ε p8 j.2.1 aE,i' j.2.2]/\sl Rp.str G p5 ax j.1.vars/\sl j' G p6 aB j.1.eqs/\sl j' G p7 aA j.1.ζ/\sl kB G p8 aE j.2.1) (λ_=>z) (λv G1 G2 g h=>?_) (λu W g w=>?_) ?_
 .obtain⟨p5,ax,p6,aB,p7,aA,p8,aE,rfl,cc,ce,cb,cd⟩:=h
  exact⟨_,_,_,_,_,_,_,_,z,cc.mono g,ce.mono g,cb.mono g,cd.mono g⟩
 .obtain⟨⟨s,t,L,K,y,x,aj,ai,df,ar,aG,au,a7⟩,_,_,_,_,_⟩:=(show (λG v=>∃ s t L K y x aj ai,v = .tuple #[.agg ((Ρ j.1 s t L K y x)).toArray,ε aj j.2.1 ai,i' j.2.2]/\sl Rp.str G s t j.1.vars/\sl j' G L K j.1.eqs/\sl j' G y x j.1.ζ/\sl kB G aj ai j.2.1) W.m (u 44)/\True/\True/\True/\True/\True from w)
  simp only[ψ,df]
  exact⟨_,h' z,s,t,L,K,y,x,aj,ai,z,ar,aG,au,a7⟩
 refine qY (φ:=mI j.1) (λ_=>z) (λv G1 G2 g h=>?_) (λu W g w=>?_) ?_
 .obtain⟨p9,fu,fi,eB,fD,eH,rfl,ew,dn,dE⟩:=h
  exact⟨_,_,_,_,_,_,z,ew.mono g,dn.mono g,dE.mono g⟩
 .obtain⟨⟨p5,ax,p6,aB,p7,aA,p8,aE,aR,cc,ce,cb,cd⟩,_,_,_,_,_,_⟩:=(show (λG v=>∃ p5 ax p6 aB p7 aA p8 aE,v = .tuple #[.agg ((Ρ j.1 p5 ax p6 aB p7 aA)).toArray,ε p8 j.2.1 aE,i' j.2.2]/\sl Rp.str G p5 ax j.1.vars/\sl j' G p6 aB j.1.eqs/\sl j' G p7 aA j.1.ζ/\sl kB G p8 aE j.2.1) W.m (u 38)/\True/\True/\True/\True/\True/\True from w)
  simp only[ψ,aR]
  exact⟨_,P' z z,p5,ax,p6,aB,p7,aA,z,cc,ce,cb⟩
 refine η.pR (kk:=38) (φ:=jx kB j.2.1) (by kernel_rfl) (λ_=>z) (λv G1 G2 g h=>?_) (λu W g w=>?_) ?_
 .obtain⟨eA,dL,rfl,cW⟩:=h
  exact⟨_,_,z,cW.mono g⟩
 .obtain⟨_,⟨p5,ax,p6,aB,p7,aA,p8,aE,aR,cc,ce,cb,cd⟩,_,_,_,_,_,_⟩:=(show True/\(λG v=>∃ p5 ax p6 aB p7 aA p8 aE,v = .tuple #[.agg ((Ρ j.1 p5 ax p6 aB p7 aA)).toArray,ε p8 j.2.1 aE,i' j.2.2]/\sl Rp.str G p5 ax j.1.vars/\sl j' G p6 aB j.1.eqs/\sl j' G p7 aA j.1.ζ/\sl kB G p8 aE j.2.1) W.m (u 38)/\True/\True/\True/\True/\True/\True from w)
  exact⟨_,_,aR,(by simp only[ψ,aR] <;> rfl),z,p8,aE,z,cd⟩
 refine vn (c:=i' j.2.2) (λ_=>z) (λu W g w=>?_) ?_
 .obtain⟨_,_,⟨p5,ax,p6,aB,p7,aA,p8,aE,aR,cc,ce,cb,cd⟩,_,_,_,_,_,_⟩:=(show True/\True/\(λG v=>∃ p5 ax p6 aB p7 aA p8 aE,v = .tuple #[.agg ((Ρ j.1 p5 ax p6 aB p7 aA)).toArray,ε p8 j.2.1 aE,i' j.2.2]/\sl Rp.str G p5 ax j.1.vars/\sl j' G p6 aB j.1.eqs/\sl j' G p7 aA j.1.ζ/\sl kB G p8 aE j.2.1) W.m (u 38)/\True/\True/\True/\True/\True/\True from w)
  simp only[ψ,aR]
  exact P' z z
 refine uQ (λ_=>z) na<|η.yX (λgw fS fI fL fY fM fG fK fZ X1 p ds cU cG cC cX cJ cN cF cL=>?_)
 obtain⟨eA,dL,rfl,cW⟩:=cU
 obtain⟨p9,fu,fi,eB,fD,eH,rfl,ew,dn,dE⟩:=cG
 obtain⟨p5,ax,p6,aB,p7,aA,p8,aE,rfl,cc,ce,cb,cd⟩:=cC
 obtain⟨s,t,L,K,y,x,aj,ai,rfl,ar,aG,au,a7⟩:=cX
 obtain⟨bF,bD,bW,bT,bE,bA,rfl,aL,aT,aQ⟩:=cJ
 obtain⟨p4,dx,rfl,ez⟩:=cN
 obtain⟨aa,Z,rfl,bg⟩:=cF
 obtain⟨bJ,bG,bY,b0,bB,bK,rfl,aM,aU,aN⟩:=cL
 refine WL.tj ds (λb5 fz gK=>?_)
 subst fz
 refine sv (show WL _ _ _ _ _ _ (St w0 G0 X1.m _) from ?_)
 refine ø 7 jB z<|ς z<|ς z<|q'<|fh<|a'<|c'<|hZ [ff,ff,ff,ff,ff,ff,ff,ff,tt,tt,ff] gp (by kernel_rfl) λhb=>cn (λ_ g=>w' 1 ÿ z z z) ?_
 obtain⟨am,et,a⟩:=a
 refine mL (post:=λG v=>∃ ab ac,v = .agg ((þ am.id ab am.p ac)).toArray/\sl n' G ab ac am.p) (λ_=>z) (λ_ _=>x' uy z) (uO et) z (λW g=>trivial) (λv G1 G2 g h=>?_) ?_
 .obtain⟨ab,ac,rfl,bp⟩:=h
  exact⟨_,_,z,bp.mono g⟩
 refine uP (r:=j') (e:=51) ([am]:Ŀ Zc) (λ_=>z) z (by decide) (λu W g w=>?_) ?_
 .obtain⟨⟨ab,ac,dr,bp⟩,_⟩:=(show (λG v=>∃ ab ac,v = .agg ((þ am.id ab am.p ac)).toArray/\sl n' G ab ac am.p) W.m (u 50)/\True from w)
  simp only[ψ,dr]
  exact⟨#[(0,.agg ((þ am.id ab am.p ac)).toArray)],(þ am.id ab am.p ac)++([]),z,z,λ_=>by kernel_rfl,⟨(þ am.id ab am.p ac),[],z,⟨[i' am.id],[ε ab am.p ac],z,z,⟨_,z,bp⟩⟩,z⟩⟩
 obtain⟨dt,ee,a⟩:=a
 refine sm (f:=11) (φ:=mI dt) (λ_=>z) (λv G1 G2 g h=>?_) (λu W g w=>?_) ?_
 .obtain⟨bL,bI,bX,bZ,bH,bC,rfl,aO,aV,aP⟩:=h
  exact⟨_,_,_,_,_,_,z,aO.mono g,aV.mono g,aP.mono g⟩
 .obtain⟨⟨c0,cz,de,dh⟩,_,_⟩:=(show (λG v=>∃ c0 cz,v = .slice c0 1 1/\kM j' G (.slice c0 1 1) cz [am]) W.m (u 51)/\True/\True from w)
  exact⟨_,_,_,λ_=>x' xf z,yx ee,(by simp only[de] <;> rfl),dh⟩
 refine cu (λ_ _ g=>w' 2 ÿ z z z) ?_
 obtain⟨i,eb,a⟩:=a
 refine sm (f:=6) (φ:=λG v=>∃ C A O J D B ak al,v = .tuple #[.agg ((Ρ i.1 C A O J D B)).toArray,ε ak i.2.1 al,i' i.2.2]/\sl Rp.str G C A i.1.vars/\sl j' G O J i.1.eqs/\sl j' G D B i.1.ζ/\sl kB G ak al i.2.1) (λ_=>z) (λv G1 G2 g h=>?_) (λu W g w=>?_) ?_
 .obtain⟨C,A,O,J,D,B,ak,al,rfl,aw,aF,av,a6⟩:=h
  exact⟨_,_,_,_,_,_,_,_,z,aw.mono g,aF.mono g,av.mono g,a6.mono g⟩
 .obtain⟨⟨bL,bI,bX,bZ,bH,bC,dj,aO,aV,aP⟩,_,_,_⟩:=(show (mI dt) W.m (u 52)/\True/\True/\True from w)
  have N3:=mx (mx N1 l) p
  have N4:=mx (mx N2 l) p
  exact⟨_,_,_,λ_=>x' E6 z,yk eb,(by simp only[dj] <;> rfl),⟨((aq.mono N3).mono g),((aH.mono N3).mono g),((ap.mono N3).mono g),aO,aV,aP,((bf.mono N4).mono g),((bt.mono N4).mono g),((bb.mono N4).mono g)⟩⟩
 refine qY (φ:=λG v=>∃ ay ag az ae aD af aC ah,v = .tuple #[.agg ((Ρ i.1 ay ag az ae aD af)).toArray,ε aC i.2.1 ah,i' i.2.2]/\sl Rp.str G ay ag i.1.vars/\sl j' G az ae i.1.eqs/\sl j' G aD af i.1.ζ/\sl kB G aC ah i.2.1) (λ_=>z) (λv G1 G2 g h=>?_) (λu W g w=>?_) ?_
 .obtain⟨ay,ag,az,ae,aD,af,aC,ah,rfl,bu,bz,bx,bv⟩:=h
  exact⟨_,_,_,_,_,_,_,_,z,bu.mono g,bz.mono g,bx.mono g,bv.mono g⟩
 .obtain⟨⟨C,A,O,J,D,B,ak,al,dC,aw,aF,av,a6⟩,_,_,_,_⟩:=(show (λG v=>∃ C A O J D B ak al,v = .tuple #[.agg ((Ρ i.1 C A O J D B)).toArray,ε ak i.2.1 al,i' i.2.2]/\sl Rp.str G C A i.1.vars/\sl j' G O J i.1.eqs/\sl j' G D B i.1.ζ/\sl kB G ak al i.2.1) W.m (u 54)/\True/\True/\True/\True from w)
  simp only[ψ,dC]
  exact⟨_,h' z,C,A,O,J,D,B,ak,al,z,aw,aF,av,a6⟩
 refine qY (φ:=mI i.1) (λ_=>z) (λv G1 G2 g h=>?_) (λu W g w=>?_) ?_
 .obtain⟨fE,eY,ft,eE,fp,eT,rfl,dw,dF,dl⟩:=h
  exact⟨_,_,_,_,_,_,z,dw.mono g,dF.mono g,dl.mono g⟩
 .obtain⟨⟨ay,ag,az,ae,aD,af,aC,ah,aS,bu,bz,bx,bv⟩,_,_,_,_,_⟩:=(show (λG v=>∃ ay ag az ae aD af aC ah,v = .tuple #[.agg ((Ρ i.1 ay ag az ae aD af)).toArray,ε aC i.2.1 ah,i' i.2.2]/\sl Rp.str G ay ag i.1.vars/\sl j' G az ae i.1.eqs/\sl j' G aD af i.1.ζ/\sl kB G aC ah i.2.1) W.m (u 48)/\True/\True/\True/\True/\True from w)
  simp only[ψ,aS]
  exact⟨_,P' z z,ay,ag,az,ae,aD,af,z,bu,bz,bx⟩
 refine η.pR (kk:=48) (φ:=jx kB i.2.1) (by kernel_rfl) (λ_=>z) (λv G1 G2 g h=>?_) (λu W g w=>?_) ?_
 .obtain⟨ex,dD,rfl,cK⟩:=h
  exact⟨_,_,z,cK.mono g⟩
 .obtain⟨_,⟨ay,ag,az,ae,aD,af,aC,ah,aS,bu,bz,bx,bv⟩,_,_,_,_,_⟩:=(show True/\(λG v=>∃ ay ag az ae aD af aC ah,v = .tuple #[.agg ((Ρ i.1 ay ag az ae aD af)).toArray,ε aC i.2.1 ah,i' i.2.2]/\sl Rp.str G ay ag i.1.vars/\sl j' G az ae i.1.eqs/\sl j' G aD af i.1.ζ/\sl kB G aC ah i.2.1) W.m (u 48)/\True/\True/\True/\True/\True from w)
  exact⟨_,_,aS,(by simp only[ψ,aS] <;> rfl),z,aC,ah,z,bv⟩
 refine vn (c:=i' i.2.2) (λ_=>z) (λu W g w=>?_) ?_
 .obtain⟨_,_,⟨ay,ag,az,ae,aD,af,aC,ah,aS,bu,bz,bx,bv⟩,_,_,_,_,_⟩:=(show True/\True/\(λG v=>∃ ay ag az ae aD af aC ah,v = .tuple #[.agg ((Ρ i.1 ay ag az ae aD af)).toArray,ε aC i.2.1 ah,i' i.2.2]/\sl Rp.str G ay ag i.1.vars/\sl j' G az ae i.1.eqs/\sl j' G aD af i.1.ζ/\sl kB G aC ah i.2.1) W.m (u 48)/\True/\True/\True/\True/\True from w)
  simp only[ψ,aS]
  exact P' z z
 refine uQ (λ_=>z) na<|η.yW (λgL f2 f1 fV f3 fJ fR fX X2 S dJ cE cx cO cT cB cQ cM=>?_)
 obtain⟨ex,dD,rfl,cK⟩:=cE
 obtain⟨fE,eY,ft,eE,fp,eT,rfl,dw,dF,dl⟩:=cx
 obtain⟨ay,ag,az,ae,aD,af,aC,ah,rfl,bu,bz,bx,bv⟩:=cO
 obtain⟨C,A,O,J,D,B,ak,al,rfl,aw,aF,av,a6⟩:=cT
 obtain⟨bL,bI,bX,bZ,bH,bC,rfl,aO,aV,aP⟩:=cB
 obtain⟨c0,cz,rfl,dh⟩:=cQ
 obtain⟨ab,ac,rfl,bp⟩:=cM
 refine WL.tj dJ (λb6 fx gG=>?_)
 subst fx
 refine sv (show WL _ _ _ _ _ _ (St w0 G0 X2.m _) from ?_)
 refine ø 10 jB z<|ς z<|ς z<|q'<|fh<|a'<|sr<|γ (w' 1 ÿ z z z)<|γ (iK (vs:=#[]) (v:=.agg ([.slice none 0 0,.slice none 0 0,.slice none 0 0,i' 0]).toArray) z z (λ_=>by kernel_rfl))<|γ (w' 2 ÿ z z z) ?_
 obtain⟨gl,ea,a⟩:=a
 have N5:=mx (mx (mx N1 l) p) S
 have N6:=mx (mx (mx N2 l) p) S
 refine U' z z (x' E6 z) (yk ea) z (⟨(aq.mono N5),(aH.mono N5),(ap.mono N5),(gi Rp.str _),(gi j' _),(gi j' _),(bf.mono N6),(bt.mono N6),(bb.mono N6)⟩) (λfT gn q cD=>?_)
 obtain⟨dV,dN,ej,ec,dR,dT,fe,e8,rfl,dS,er,dO,e5⟩:=cD
 refine δ z<|Û z<|Û z<|Û z<|T' 13 z na z λb7=>ø 13 jB z<|ς z<|ς z<|nr<|γ (w' 1 ÿ z z z)<|γ (w' 1 ÿ z z z)<|γ (w' 3 ÿ z z z) ?_
 obtain⟨gk,ef,a⟩:=a
 have N7:=mx (mx (mx (mx N1 l) p) S) q
 have N8:=mx (mx (mx l p) S) q
 refine U' z z (x' E6 z) (yk ef) z (⟨(aq.mono N7),(aH.mono N7),(ap.mono N7),(aq.mono N7),(aH.mono N7),(ap.mono N7),(be.mono N8),(bw.mono N8),(bd.mono N8)⟩) (λfP dm ao cI=>?_)
 obtain⟨dQ,dP,eo,d8,dU,dM,e4,fa,rfl,b9,cf,ca,e9⟩:=cI
 refine δ z<|Û z<|Û z<|Û z<|T' 16 z na z λb8=>ø 16 jB z<|ς z<|θ z<|k5 a (λ(gx:Mem)=>match gx with|dK=>⟨[(4,Τ b4),(8,ε eA j.2.1 dL),(11,ε ex i.2.1 dD)],Mp ey j i,Mem.le dm dK,St w0 G0 dK [(4,Ξ b4 (Ρ ey.1 ch ci cv co cg ck) 29)]⟩) ?_ ?_
 .refine sr<|δ z<|eZ a z (ly z z) z (λfF a=>?_) (λfF a=>?_)
  .refine δ z<|lu z<|Δ z<|δ z<|lk z<|Δ z<|δ z<|lk z<|Δ z<|δ z<|lk z<|Δ z<|δ z<|lk z<|Δ z<|δ z<|ke z<|Δ z<|nx<|iS z<|sr<|θ z<|m'<|b' (Μ a z z)
  refine δ z<|Â z<|gy z z (N' tv (dA.mono (mx (mx (mx p S) q) ao)) z) z<|eZ a (W' z z) (ly z z) z (λfv a=>?_) (λfv a=>?_)
  .refine Γ z<|δ z<|lk z<|Δ z<|δ z<|lk z<|Δ z<|δ z<|lk z<|Δ z<|δ z<|lk z<|Δ z<|δ z<|ke z<|Δ z<|nx<|iS z<|sr<|θ z<|m'<|b' (Μ a z z)
  refine Γ z<|δ z<|Â z<|eZ a (W' z z) (ly z z) z (λfj a=>?_) (λfj a=>?_)
  .refine Γ z<|δ z<|lk z<|Δ z<|δ z<|lk z<|Δ z<|δ z<|lk z<|Δ z<|δ z<|ke z<|Δ z<|nx<|iS z<|sr<|θ z<|m'<|b' (Μ a z z)
  refine Γ z<|δ z<|Â z<|eZ a (W' z z) (ly z z) z (λfw a=>?_) (λfw a=>?_)
  .refine Γ z<|δ z<|lk z<|Δ z<|δ z<|lk z<|Δ z<|δ z<|ke z<|Δ z<|nx<|iS z<|sr<|θ z<|m'<|b' (Μ a z z)
  refine Γ z<|δ z<|Â z<|eZ a (W' z z) (ly z z) z (λfk a=>?_) (λfk a=>?_)
  .refine Γ z<|δ z<|lk z<|Δ z<|δ z<|ke z<|Δ z<|nx<|iS z<|sr<|θ z<|m'<|b' (Μ a z z)
  refine Γ z<|δ z<|Â z<|eZ a (W' z z) (ly z z) z (λfr a=>?_) (λfr a=>?_)
  .refine Γ z<|δ z<|ke z<|Δ z<|nx<|iS z<|sr<|θ z<|m'<|b' (Μ a z z)
  refine Γ z<|δ z<|gy z z (w' 16 ÿ z z z) z<|gy z z (w' 3 ÿ z z z) z ?_
  obtain⟨f9,ei,a⟩:=a
  refine I' (W' z z) z (x' LM z) (Si ei) z (⟨b9,cf,ca,(be.mono (mx N8 ao)),(bw.mono (mx N8 ao)),(bd.mono (mx N8 ao))⟩)<|gy z z (gP z) z<|Γ z<|nx<|iC a z (λfm a=>?_) (λfm a=>?_)
  .refine sr<|θ z<|m'<|b' (Μ a z z)
  refine o'<|ia dm ⟨a,mr⟩ (υ z) (w1 z)
 rintro dK ⟨a,bs⟩
 refine c'<|hZ [ff,ff,ff,ff,ff,ff,ff,ff,ff,ff,ff,ff,ff,ff,ff,ff,ff] gp (by kernel_rfl) λhb=>ù z<|cn (λ_ g=>iK (vs:=#[(0,i' 1)]) (v:=.agg ([i' 1,.string ByteArray.empty]).toArray) z z (λ_=>by kernel_rfl))<|uP (r:=kB) (e:=55) ([(Zk.mk 1 ByteArray.empty)]:Ŀ Zk) (λ_=>z) z (by decide) (λu W g w=>?_) ?_
 .exact⟨#[(0,.agg ([i' 1,.string ByteArray.empty]).toArray)],[i' 1,.string ByteArray.empty]++([]),z,z,λ_=>by kernel_rfl,⟨[i' 1,.string ByteArray.empty],[],z,⟨[i' 1],[.string ByteArray.empty],z,z,z⟩,z⟩⟩
 obtain⟨dB,eg,a⟩:=a
 refine η.wB (f:=7) (c:=.bool dB) (λ_=>z) (λu W g w=>?_) ?_
 .obtain⟨⟨aI,aJ,dI,cj⟩,_⟩:=(show (λG v=>∃ aI aJ,v = .slice aI 1 1/\kM kB G (.slice aI 1 1) aJ [(Zk.mk 1 ByteArray.empty)]) W.m (u 105)/\True from w)
  exact⟨_,_,_,λ_=>x' E7 z,KI eg,(by simp only[dI] <;> rfl),⟨((cW.mono (mx (mx (mx S q) ao) bs)).mono g),cj⟩⟩
 cases dB
 .refine cu (λ_ _ g=>h' z)<|qN (λ_=>(qP z z))<|qN (λ_=>(qP z z))<|qN (λ_=>(qP z z))<|qN (λ_=>(qP z z))<|cu (λ_ _ g=>D' z z)<|cu (λ_ _ g=>h' z)<|qN (λ_=>(qP z z))<|qN (λ_=>(qP z z))<|qN (λ_=>(qP z z))<|qN (λ_=>(qP z z))<|qN (λ_=>(qP z z))<|qN (λ_=>(qP z z))<|rG (d:=105) (post:=λG v=>∃ aI aJ,v = .slice aI 1 1/\kM kB G (.slice aI 1 1) aJ [(Zk.mk 1 ByteArray.empty)]) (λcZ go fq aK=>?_)
  obtain⟨aI,aJ,rfl,cj⟩:=aK
  refine sk z z z<|Γ z<|ς z<|q'<|fh<|a'<|m' (Μ a z z)
 refine cu (λ_ _ g=>h' z)<|η.Dc (λ_=>(W' z z)) (λ_ _ g=>h' z)<|η.Dc (λ_=>(W' z z)) (λ_ _ g=>iK (vs:=#[(1,.string Zr)]) (v:=.agg ([i' 0,.string Zr]).toArray) z z (λ_=>by kernel_rfl))<|uP (r:=kB) (e:=55) ([(Zk.mk 0 Zr)]:Ŀ Zk) (λ_=>(W' z z)) z (by decide) (λu W g w=>?_) ?_
 .exact⟨#[(0,.agg ([i' 0,.string Zr]).toArray)],[i' 0,.string Zr]++([]),z,z,λ_=>by kernel_rfl,⟨[i' 0,.string Zr],[],z,⟨[i' 0],[.string Zr],z,z,z⟩,z⟩⟩
 obtain⟨dq,es,a⟩:=a
 refine η.wB (f:=7) (c:=.bool dq) (λ_=>(W' z z)) (λu W g w=>?_) ?_
 .obtain⟨⟨aZ,a4,dv,cH⟩,_,_⟩:=(show (λG v=>∃ aZ a4,v = .slice aZ 1 1/\kM kB G (.slice aZ 1 1) a4 [(Zk.mk 0 Zr)]) W.m (u 110)/\True/\True from w)
  exact⟨_,_,_,λ_=>x' E7 z,KI es,(by simp only[dv] <;> rfl),⟨((cK.mono (mx (mx q ao) bs)).mono g),cH⟩⟩
 cases dq
 .refine cu (λ_ _ g=>C' z z)<|cu (λ_ _ g=>h' z)<|qN (λ_=>(qP z z))<|qN (λ_=>(qP z z))<|qN (λ_=>(qP z z))<|qN (λ_=>(qP z z))<|qN (λ_=>(qP z z))<|qN (λ_=>(qP z z))<|η.rp (d:=110) (post:=λG v=>∃ aZ a4,v = .slice aZ 1 1/\kM kB G (.slice aZ 1 1) a4 [(Zk.mk 0 Zr)]) (d':=105) (post':=λG v=>∃ aI aJ,v = .slice aI 1 1/\kM kB G (.slice aI 1 1) aJ [(Zk.mk 1 ByteArray.empty)]) (λdY cZ gt fC bc aK=>?_)
  obtain⟨aZ,a4,rfl,cH⟩:=bc
  obtain⟨aI,aJ,rfl,cj⟩:=aK
  refine sk z z z<|Γ z<|ς z<|q'<|fh<|a'<|m' (Μ a z z)
 refine cu (λ_ _ g=>C' z z)<|cu (λ_ _ g=>h' z)<|η.Dc (λ_=>(W' z z)) (λ_ _ g=>w' 4 ÿ z z z) ?_
 obtain⟨Y,dW,a⟩:=a
 refine mL (post:=λG v=>∃ Q R,v = .agg ((þ Y.id Q Y.p R)).toArray/\sl n' G Q R Y.p) (λ_=>(W' z z)) (λ_ _=>x' uy z) (uO dW) z (λW g=>trivial) (λv G1 G2 g h=>?_) ?_
 .obtain⟨Q,R,rfl,bq⟩:=h
  exact⟨_,_,z,bq.mono g⟩
 obtain⟨X,eh,a⟩:=a
 refine mL (post:=λG v=>∃ I H,v = .agg ((þ X.id I X.p H)).toArray/\sl n' G I H X.p) (λ_=>(W' z z)) (λ_ _=>x' uy z) (uO eh) z (λW g=>trivial) (λv G1 G2 g h=>?_) ?_
 .obtain⟨I,H,rfl,br⟩:=h
  exact⟨_,_,z,br.mono g⟩
 obtain⟨M,em,a⟩:=a
 refine mL (post:=λG v=>∃ F E,v = .agg ((þ M.id F M.p E)).toArray/\sl n' G F E M.p) (λ_=>(W' z z)) (λ_ _=>x' uy z) (uO em) z (λW g=>trivial) (λv G1 G2 g h=>?_) ?_
 .obtain⟨F,E,rfl,bh⟩:=h
  exact⟨_,_,z,bh.mono g⟩
 refine uP (r:=j') (e:=51) ([Y,X,M]:Ŀ Zc) (λ_=>(W' z z)) z (by decide) (λu W g w=>?_) ?_
 .obtain⟨⟨F,E,dG,bh⟩,⟨I,H,dH,br⟩,⟨Q,R,dk,bq⟩,_,_,_⟩:=(show (λG v=>∃ F E,v = .agg ((þ M.id F M.p E)).toArray/\sl n' G F E M.p) W.m (u 117)/\(λG v=>∃ I H,v = .agg ((þ X.id I X.p H)).toArray/\sl n' G I H X.p) W.m (u 116)/\(λG v=>∃ Q R,v = .agg ((þ Y.id Q Y.p R)).toArray/\sl n' G Q R Y.p) W.m (u 115)/\True/\True/\True from w)
  simp only[ψ,dG,dH,dk]
  exact⟨#[(0,.agg ((þ Y.id Q Y.p R)).toArray),(1,.agg ((þ X.id I X.p H)).toArray),(2,.agg ((þ M.id F M.p E)).toArray)],(þ Y.id Q Y.p R)++((þ X.id I X.p H)++((þ M.id F M.p E)++([]))),z,z,λ_=>by kernel_rfl,⟨(þ Y.id Q Y.p R),(þ X.id I X.p H)++((þ M.id F M.p E)++([])),z,⟨[i' Y.id],[ε Q Y.p R],z,z,⟨_,z,bq⟩⟩,⟨(þ X.id I X.p H),(þ M.id F M.p E)++([]),z,⟨[i' X.id],[ε I X.p H],z,z,⟨_,z,br⟩⟩,⟨(þ M.id F M.p E),[],z,⟨[i' M.id],[ε F M.p E],z,z,⟨_,z,bh⟩⟩,z⟩⟩⟩⟩
 obtain⟨dp,dX,a⟩:=a
 refine sm (f:=11) (φ:=mI dp) (λ_=>(W' z z)) (λv G1 G2 g h=>?_) (λu W g w=>?_) ?_
 .obtain⟨ct,cp,cV,cR,cq,cw,rfl,a1,ba,aY⟩:=h
  exact⟨_,_,_,_,_,_,z,a1.mono g,ba.mono g,aY.mono g⟩
 .obtain⟨⟨bV,bS,di,du⟩,_,_,_,_,_,_⟩:=(show (λG v=>∃ bV bS,v = .slice bV 3 3/\kM j' G (.slice bV 3 3) bS [Y,X,M]) W.m (u 118)/\True/\True/\True/\True/\True/\True from w)
  exact⟨_,_,_,λ_=>x' xf z,yx dX,(by simp only[di] <;> rfl),du⟩
 refine η.yT (d0:=119) (post0:=mI dp) (d1:=118) (post1:=λG v=>∃ bV bS,v = .slice bV 3 3/\kM j' G (.slice bV 3 3) bS [Y,X,M]) (d2:=117) (post2:=λG v=>∃ F E,v = .agg ((þ M.id F M.p E)).toArray/\sl n' G F E M.p) (d3:=116) (post3:=λG v=>∃ I H,v = .agg ((þ X.id I X.p H)).toArray/\sl n' G I H X.p) (d4:=115) (post4:=λG v=>∃ Q R,v = .agg ((þ Y.id Q Y.p R)).toArray/\sl n' G Q R Y.p) (d5:=110) (post5:=λG v=>∃ aZ a4,v = .slice aZ 1 1/\kM kB G (.slice aZ 1 1) a4 [(Zk.mk 0 Zr)]) (d6:=105) (post6:=λG v=>∃ aI aJ,v = .slice aI 1 1/\kM kB G (.slice aI 1 1) aJ [(Zk.mk 1 ByteArray.empty)]) (λfO f4 fN f0 fQ dY cZ gr bU cS cP cA cy cY bc aK=>?_)
 obtain⟨ct,cp,cV,cR,cq,cw,rfl,a1,ba,aY⟩:=cS
 obtain⟨bV,bS,rfl,du⟩:=cP
 obtain⟨F,E,rfl,bh⟩:=cA
 obtain⟨I,H,rfl,br⟩:=cy
 obtain⟨Q,R,rfl,bq⟩:=cY
 obtain⟨aZ,a4,rfl,cH⟩:=bc
 obtain⟨aI,aJ,rfl,cj⟩:=aK
 obtain⟨gc,d7,a⟩:=a
 have N9:=mx (mx (mx (mx (mx p S) q) ao) bs) bU
 refine I' (W' z z) z (x' LM z) (Si d7) z (⟨(cm.mono N9),(cr.mono N9),(cl.mono N9),a1,ba,aY⟩)<|Δ z<|ς z<|q'<|fh<|a'<|m' (Μ a z z)
theorem gr'{r}(a:(Ph).ο r):ä prog 81 #[] (λG=>True) (jx Rp.str r):=by
 refine E' (args:=[]) (N:=2) func81 z z z λj k c g=>sr<|ς z<|nr<|jL (e:=9) (r:=Rp.str) (vs:=#[(0,.string Zr),(1,.string uD),(2,.string wa),(3,.string vb),(4,.string uE),(5,.string Z1)]) (cs:=[.string Zr]++([.string uD]++([.string wa]++([.string vb]++([.string uE]++([.string Z1]++([]))))))) ([Zr,uD,wa,vb,uE,Z1]:Ŀ Ĳ) z z z z z (by decide) (λ_=>by kernel_rfl) ⟨[.string Zr],[.string uD]++([.string wa]++([.string vb]++([.string uE]++([.string Z1]++([]))))),z,z,⟨[.string uD],[.string wa]++([.string vb]++([.string uE]++([.string Z1]++([])))),z,z,⟨[.string wa],[.string vb]++([.string uE]++([.string Z1]++([]))),z,z,⟨[.string vb],[.string uE]++([.string Z1]++([])),z,z,⟨[.string uE],[.string Z1]++([]),z,z,⟨[.string Z1],[],z,z,z⟩⟩⟩⟩⟩⟩ (key:=999) z (by rw[c]; rfl) λi h f d=>θ z<|m' ?_
 obtain rfl:_=r:=a
 exact k' z z ⟨_,_,z,d⟩
theorem gH'{c r}(a:(EX c).ο r):ä prog 139 #[.int .i8 c] (λG=>True) (λG v=>v=i' r):=by
 refine E' (args:=[_]) (N:=10) func139 z z z λg h f e=>sr<|θ z<|c'<|sr<|δ z<|Ï z<|nx<|J' a z (λd a=>?_) (λd a=>?_)
 .refine sr<|δ z<|γ (jF KP nQ z)<|γ (Y0.neg z)<|θ z<|m'<|b' (Μ a z z)
 refine o'<|a'<|sr<|δ z<|γ (jF KP nQ z)<|θ z<|m' (Μ a z z)
theorem gs'{k n f c d e m l r}(a:(IC k n).ο r):ä prog 141 #[.agg ((χ k f c d e)).toArray,ε m n l] (λG=>sl (Rp.int .u32) G f c k.num.Α/\sl (Rp.int .u32) G d e k.den.Α/\sl n' G m l n) (jx n' r):=by
 refine E' (args:=[_,_]) (N:=15) func141 z z z (λE D B o=>?_)
 obtain⟨h,g,t⟩:=o
 refine sr<|ý 2 z z z λC=>ς z<|nr<|γ (w' 2 kf z z z)<|γ (iK (vs:=#[]) (v:=.agg (Ι (λ_=>0)).toArray) z z (λ_=>by kernel_rfl))<|δ z<|oE a λA p a=>U' z z (x' LW z) (SA p) z (⟨h,g,t⟩) (λx y u i=>?_)
 obtain⟨s,q,rfl,j⟩:=i
 refine δ z<|Û z<|Û z<|ς z<|ς z<|nr<|δ z<|θ z<|m' ?_
 obtain rfl:_=r:=a
 exact k' z z ⟨_,_,z,j⟩
theorem K6{o m r}(a:(BK o m).ο r):ä prog 199 #[.agg (Ι o).toArray,.agg (Ι m).toArray] (λG=>True) (λG v=>v=i' r):=by
 refine E' (args:=[_,_]) (N:=24) func199 z z z λs f C A=>sr<|ý 2 z z z λt=>ý 3 z z z λp=>θ z<|c'<|sr<|θ z<|Z' (X:=Int×Mem) a (λ⟨h,d⟩=>⟨h,[(2,Τ t),(3,Τ p),(5,i' h)],Mem.le f d,St s f d [(2,Ξ t (Ι o) 99),(3,Ξ p (Ι m) 99)]⟩) (λ(B:Mem)=>match B with|g=>⟨(.inr ()),[],Mem.le f g,St s f g []⟩) ⟨0,f⟩ z (υ z) mr (w2 z z) ?_ ?_
 .rintro _ ⟨h,d⟩ e a
  refine c'<|sr<|δ z<|Ï z<|nx<|J' a z (λx a=>?_) (λx a=>?_)
  .refine o'<|a'<|c'<|V'<|c'<|c'<|hZ [ff,ff,ff,ff,ff,ff] gp (by kernel_rfl) λn=>ù z<|oA a λi a=>cn (λ_ c=>k0 lK gh z z i)<|cn (λ_ c=>f' 2 ñ z z (mh _ _ _ i))<|ù z<|oA a λj a=>cn (λ_ c=>k0 lK gh z z j)<|cn (λ_ c=>f' 3 ñ z z (mh _ _ _ j))<|jz n<|Ï z<|q'<|fh<|a'<|J' a z (λq a=>?_) (λq a=>?_)
   .refine sr<|θ z<|m'<|b'<|B'<|b'<|b'<|B'<|jl<|b' (Μ a z z)
   refine o'<|a'<|c'<|hZ [ff,ff,ff,ff,ff,ff] gp (by kernel_rfl) λn=>ù z<|oA a λl a=>cn (λ_ c=>k0 lK gh z z l)<|cn (λ_ c=>f' 2 ñ z z (mh _ _ _ l))<|ù z<|oA a λk a=>cn (λ_ c=>k0 lK gh z z k)<|cn (λ_ c=>f' 3 ñ z z (mh _ _ _ k))<|jz n<|γ (kr z z)<|q'<|fh<|a'<|J' a z (λu a=>?_) (λu a=>?_)
   .refine sr<|θ z<|m'<|B'<|b'<|b'<|B'<|jl<|b' (Μ a z z)
   refine o'<|A'<|a'<|p'<|δ z<|é z<|ς z<|q'<|K' ⟨i64.wrap (h+1),d⟩ a e (υ z) (w2 z z)
  refine Æ<|g'<|g'<|H'<|Ë d ⟨a,e⟩ fn (wk ln)
 rintro g ⟨a,y⟩
 refine a'<|sr<|θ z<|m' (Μ a z z)
theorem gI'{L K j g l k r}(a:(Q5 L K).ο r):ä prog 238 #[.agg ((ι L j g)).toArray,.agg ((ι K l k)).toArray] (λG=>sl (Rp.int .u32) G j g L.Α/\sl (Rp.int .u32) G l k K.Α) (jb r):=by
 refine E' (args:=[_,_]) (N:=40) func238 z z z (λw0 G0 aA W=>?_)
 obtain⟨f,e⟩:=W
 refine sr<|ý 2 z z z λb2=>ý 3 z z z λb3=>T' 4 z oe z λb4=>nx<|c'<|sr<|γ (mM z)<|γ (f' 2 kX z z z)<|γ (mM z)<|γ (f' 3 kX z z z)<|γ (Y0.vv vl z z)<|nx<|J' a z (λai a=>?_) (λai a=>?_)
 .refine c'<|hZ [ff,ff,ff,ff,ff,ff,ff] gp (by kernel_rfl) λhb=>cn (λ_ c=>mM z)<|cn (λ_ c=>f' 2 kX z z z)<|cn (λ_ c=>jk z)<|cn (λ_ c=>f' 2 jm z z z)<|cn (λ_ c=>jk z)<|cn (λ_ c=>f' 3 jm z z z)<|oE a λE M a=>mL (post:=jx (Rp.int .u32) E) (λ_=>z) (λ_ _=>x' GU z) (gq' M) z (λG' c=>⟨(f.mono c),(e.mono c)⟩) (λv w G2 c h=>?_) ?_
  .obtain⟨U,I,rfl,m⟩:=h
   exact⟨_,_,z,m.mono c⟩
  refine rG (d:=16) (post:=jx (Rp.int .u32) E) (λaw aD an s=>?_)
  obtain⟨U,I,rfl,m⟩:=s
  refine oE a λaB O a=>U' z z (x' pE z) (vm O) z (m) (λav az al B=>?_)
  obtain⟨Y,ac,rfl,x⟩:=B
  refine ø 4 lx z<|q'<|fh<|a'<|m'<|b' ?_
  obtain rfl:_=r:=a
  exact k' z (hQ (i:=4) Ò z z z) ⟨_,_,z,x⟩
 refine o'<|a'<|c'<|sr<|γ (jk z)<|γ (f' 2 jm z z z)<|γ (jk z)<|γ (f' 3 jm z z z)<|oE a λaC T a=>I' z z (x' oW z) (uM T) z (⟨f,e⟩)<|Ï z<|nx<|J' a z (λag a=>?_) (λag a=>?_)
 .refine c'<|hZ [ff,ff,ff,ff,ff,ff,ff] gp (by kernel_rfl) λhb=>cn (λ_ c=>mM z)<|cn (λ_ c=>f' 3 kX z z z)<|cn (λ_ c=>jk z)<|cn (λ_ c=>f' 3 jm z z z)<|cn (λ_ c=>jk z)<|cn (λ_ c=>f' 2 jm z z z)<|oE a λC F a=>mL (post:=jx (Rp.int .u32) C) (λ_=>z) (λ_ _=>x' Az z) (Sy F) z (λG' c=>⟨(e.mono c),(f.mono c)⟩) (λv w G2 c h=>?_) ?_
  .obtain⟨R,P,rfl,n⟩:=h
   exact⟨_,_,z,n.mono c⟩
  refine rG (d:=30) (post:=jx (Rp.int .u32) C) (λau ax am t=>?_)
  obtain⟨R,P,rfl,n⟩:=t
  refine oE a λaG S a=>U' z z (x' pE z) (vm S) z (n) (λaq aE ak u=>?_)
  obtain⟨ab,aa,rfl,y⟩:=u
  refine ø 4 lx z<|q'<|fh<|a'<|m'<|b' ?_
  obtain rfl:_=r:=a
  exact k' z (hQ (i:=4) Ò z z z) ⟨_,_,z,y⟩
 refine o'<|a'<|c'<|hZ [ff,ff,ff,ff,ff,ff,ff] gp (by kernel_rfl) λhb=>cn (λ_ c=>mM z)<|cn (λ_ c=>f' 2 kX z z z)<|cn (λ_ c=>jk z)<|cn (λ_ c=>f' 2 jm z z z)<|cn (λ_ c=>jk z)<|cn (λ_ c=>f' 3 jm z z z)<|oE a λD H a=>mL (post:=jx (Rp.int .u32) D) (λ_=>z) (λ_ _=>x' Az z) (Sy H) z (λG' c=>⟨(f.mono c),(e.mono c)⟩) (λv w G2 c h=>?_) ?_
 .obtain⟨Q,J,rfl,o⟩:=h
  exact⟨_,_,z,o.mono c⟩
 refine rG (d:=38) (post:=jx (Rp.int .u32) D) (λap aH aj p=>?_)
 obtain⟨Q,J,rfl,o⟩:=p
 refine oE a λaF V a=>U' z z (x' pE z) (vm V) z (o) (λar ay ao A=>?_)
 obtain⟨Z,X,rfl,q⟩:=A
 refine ø 4 lx z<|q'<|fh<|a'<|m' ?_
 obtain rfl:_=r:=a
 exact k' z (hQ (i:=4) Ò z z z) ⟨_,_,z,q⟩
theorem gJ'{t s m o e k l n g j r}(a:(EW t s).ο r):ä prog 200 #[.agg ((χ t m o e k)).toArray,.agg ((χ s l n g j)).toArray] (λG=>sl (Rp.int .u32) G m o t.num.Α/\sl (Rp.int .u32) G e k t.den.Α/\sl (Rp.int .u32) G l n s.num.Α/\sl (Rp.int .u32) G g j s.den.Α) (lq r):=by
 refine E' (args:=[_,_]) (N:=22) func200 z z z (λw0 G0 aA ak=>?_)
 obtain⟨I,A,J,y⟩:=ak
 refine sr<|ý 2 z z z λb2=>ý 3 z z z λb3=>T' 4 z ru z λb4=>nx<|c'<|hZ [ff,ff,ff,ff,ff,ff,ff,ff,ff,ff,ff,ff,ff,ff,ff] gp (by kernel_rfl) λhb=>cn (λ_ c=>pn z)<|cn (λ_ c=>gZ ((ι t.num m o)).toArray 2 Ò z z z (hC ([]) ((ι t.num m o)) ((ι t.den e k))))<|cn (λ_ c=>oy z)<|cn (λ_ c=>gZ ((ι s.den g j)).toArray 3 Ò z z z (hC ((ι s.num l n)) ((ι s.den g j)) ([])))<|oE a λV ag a=>mL (post:=jb V) (λ_=>z) (λ_ _=>x' sV z) (Cv ag) z (λW c=>⟨(I.mono c),(y.mono c)⟩) (λv w G2 c h=>?_) ?_
 .obtain⟨D,B,rfl,p⟩:=h
  exact⟨_,_,z,p.mono c⟩
 refine cu (λ_ _ c=>pn z)<|cu (λ_ _ c=>gZ ((ι s.num l n)).toArray 3 Ò z z z (hC ([]) ((ι s.num l n)) ((ι s.den g j))))<|cu (λ_ _ c=>oy z)<|cu (λ_ _ c=>gZ ((ι t.den e k)).toArray 2 Ò z z z (hC ((ι t.num m o)) ((ι t.den e k)) ([])))<|oE a λU ah a=>mL (post:=jb U) (λ_=>z) (λ_ _=>x' sV z) (Cv ah) z (λW c=>⟨(J.mono c),(A.mono c)⟩) (λv w G2 c h=>?_) ?_
 .obtain⟨C,E,rfl,q⟩:=h
  exact⟨_,_,z,q.mono c⟩
 refine oE a λae aj a=>sm (f:=238) (φ:=jb ae) (λ_=>z) (λv w G2 c h=>?_) (λu W c hu=>?_) ?_
 .obtain⟨T,Q,rfl,x⟩:=h
  exact⟨_,_,z,x.mono c⟩
 .obtain⟨⟨C,E,Z,q⟩,⟨D,B,ac,p⟩,_⟩:=(show (jb U) W.m (u 14)/\(jb V) W.m (u 9)/\True from hu)
  exact⟨_,_,_,λ_=>x' GQ z,gI' aj,(by simp only[Z,ac] <;> rfl),⟨p,q⟩⟩
 refine cu (λ_ _ c=>oy z)<|cu (λ_ _ c=>gZ ((ι t.den e k)).toArray 2 Ò z z z (hC ((ι t.num m o)) ((ι t.den e k)) ([])))<|cu (λ_ _ c=>oy z)<|cu (λ_ _ c=>gZ ((ι s.den g j)).toArray 3 Ò z z z (hC ((ι s.num l n)) ((ι s.den g j)) ([])))<|η.qk (d:=15) (post:=jb ae) (d':=14) (post':=jb U) (d'':=9) (post'':=jb V) (λar av aw aC K R S M=>?_)
 obtain⟨T,Q,rfl,x⟩:=R
 obtain⟨C,E,rfl,q⟩:=S
 obtain⟨D,B,rfl,p⟩:=M
 refine oE a λay af a=>U' z z (x' sV z) (Cv af) z (⟨(A.mono K),(y.mono K)⟩) (λau az ab O=>?_)
 obtain⟨al,am,rfl,L⟩:=O
 refine oE a λaD ai a=>U' z z (x' Ae z) (Ss ai) z (⟨(x.mono ab),L⟩) (λaq aB ap P=>?_)
 obtain⟨ad,X,Y,aa,rfl,F,H⟩:=P
 refine ø 4 mD z<|q'<|fh<|a'<|m' ?_
 obtain rfl:_=r:=a
 exact k' z (hQ (i:=4) kf z z z) ⟨_,_,_,_,z,F,H⟩
theorem Sn{D B M S P Q r}(a:(BL D B).ο r):ä prog 140 #[ε M D S,ε P B Q] (λG=>sl n' G M S D/\sl n' G P Q B) (jx n' r):=by
 refine E' (args:=[_,_]) (N:=109) func140 z z z (λw0 G0 aq bx=>?_)
 obtain⟨y,F⟩:=bx
 refine sr<|ς z<|nr<|jL (e:=159) (r:=n') (vs:=#[]) (cs:=[]) ([]:Ŀ Za) z z z z z (by decide) (λ_=>by kernel_rfl) (z) (key:=999) z (by rw[aq]; rfl) λp1 aW g bQ=>ς z<|nr<|ς z<|θ z<|c'<|Z' (X:=(Ŀ Za)×ŀ Addr×Nat×ŀ Ow×Int×Int×Mem) a (λ⟨E,R,L,K,V,C,am⟩=>⟨(E,V,C),[(0,ε M D S),(1,ε P B Q),(5,ε R E L),(6,i' V),(7,i' C)],Mem.le aW am/\sl n' am R L E/\Tok 12 159 (ε R E L) E.length K,St w0 G0 am [(1005,K)]⟩) (λ(⟨ai,ao,an,ap,aT⟩:(Ŀ Za)×ŀ Addr×Nat×ŀ Ow×Mem)=>⟨ai,[(5,ε ao ai an)],Mem.le aW aT/\sl n' aT ao an ai/\Tok 12 159 (ε ao ai an) ai.length ap,St w0 G0 aT [(1005,ap)]⟩) ⟨[],p1,0,none,0,0,aW⟩ z (υ z) ⟨mr,bQ,qC⟩ (wk (lw ln)) ?_ ?_
 .rintro _ ⟨E,R,L,K,V,C,am⟩ ⟨d,aA,ar⟩ a
  refine k5 a (λ(gx:Mem)=>match gx with|ak=>⟨[(0,ε M D S),(1,ε P B Q),(5,ε R E L),(6,i' V),(7,i' C)],xQ D B E V C,Mem.le am ak,St w0 G0 ak [(1005,K)]⟩) ?_ ?_
  .refine sr<|δ z<|δ z<|γ (N' F' (y.mono (mx g d)) z)<|eZ a z (nb z z) z (λb0 a=>?_) (λb0 a=>?_)
   .refine δ z<|ke z<|Δ z<|nx<|iS z<|o'<|ia am ⟨a,mr⟩ (υ z) (w1 z)
   refine δ z<|Â z<|Â z<|gy z z (N' F' (F.mono (mx g d)) z) z<|gy z z (nb z z) z<|Γ z<|nx<|J' a z (λbM a=>?_) (λbM a=>?_)
   .refine o'<|ia am ⟨a,mr⟩ (υ z) (w1 z)
   refine Æ<|g'<|g'<|H'<|Ë ⟨E,R,L,K,am⟩ ⟨a,d,aA,ar⟩ (f1 z) (w1 z)
  rintro ak ⟨a,f⟩
  refine V'<|k5 a (λ(⟨U,Z,aa,Y,T,al⟩:(Ŀ Za)×ŀ Addr×Nat×ŀ Ow×Int×Mem)=>⟨[(0,ε M D S),(1,ε P B Q),(5,ε Z U aa),(6,i' T),(7,i' C)],A9 D B C U T,Mem.le ak al/\sl n' al Z aa U/\Tok 12 159 (ε Z U aa) U.length Y,St w0 G0 al [(1005,Y)]⟩) ?_ ?_
  .refine k5 a (λ(⟨az,aR⟩:Bool×Mem)=>⟨[(0,ε M D S),(1,ε P B Q),(5,ε R E L),(6,i' V),(7,i' C),(43,.bool az)],vW D B E V C az,Mem.le ak aR,St w0 G0 aR [(1005,K)]⟩) ?_ ?_
   .refine hZ [ff,ff,ff,ff,ff,ff,ff,ff,ff,ff,ff,ff,ff,ff,ff,ff,ff,ff,ff,ff] gp (by kernel_rfl) λhb=>ù z<|ù z<|cn (λ_ c=>N' F' ((F.mono (mx (mx g d) f)).mono c) z)<|su a z (λ_ c=>iI z z) (λbP a=>?_) (λbP a=>?_)
    .refine ù z<|cf z z<|cf z z<|cf z z<|cf z z<|cf z z<|cs z z<|cs z z<|cs z z<|cs z z<|cs z z<|cs z z<|cs z z<|cs z z<|cs z z<|cs z z<|jz hb<|jD (jE z z) z<|jD (jE z z) z<|sf z z z<|Δ z<|q'<|fh<|ia ⟨true,ak⟩ ⟨a,mr⟩ (υ z) (w1 z)
    refine ù z<|cy z z (λ_ c=>h' z)<|cy z z (λ_ c=>h' z)<|cy z z (λ_ c=>N' F' ((y.mono (mx (mx g d) f)).mono c) z)<|su a (W' z z) (λ_ c=>nb z z) (λbT a=>?_) (λbT a=>?_)
    .refine cy z z (λ_ c=>h' z)<|cy z z (λ_ c=>h' z)<|cy z z (λ_ c=>h' z)<|oE a λx8 bh a=>cy z z (λ_ c=>X' F' jA ((y.mono (mx (mx g d) f)).mono c) z z bh)<|cy z z (λ_ c=>lV z)<|cy z z (λ_ c=>jC _ iL z (M' _ _ _) (sO (R' (R' (pP (mi (Á y bh))) (mx (mx g d) f)) c)))<|cy z z (λ_ c=>h' z)<|cy z z (λ_ c=>h' z)<|oE a λx9 bg a=>cy z z (λ_ c=>X' F' jA ((F.mono (mx (mx g d) f)).mono c) z z bg)<|cy z z (λ_ c=>lV z)<|cy z z (λ_ c=>jC _ iL z (M' _ _ _) (sO (R' (R' (pP (mi (Á F bg))) (mx (mx g d) f)) c)))<|jz hb<|oE a λbD bj a=>I' (W' z z) z (x' xr z) (K6 bj) z (trivial)<|gy z z (kr z z) z<|gy z z (C' z z) z<|Γ z<|q'<|fh<|ia ⟨decide (0<bD),ak⟩ ⟨a,mr⟩ (υ z) (w1 z)
    refine cy z z (λ_ c=>h' z)<|ct z z<|ct z z<|ct z z<|ct z z<|ct z z<|ct z z<|ct z z<|ct z z<|ct z z<|ct z z<|jz hb<|lk z<|gy z z (D' z z) z<|Γ z<|q'<|fh<|ia ⟨false,ak⟩ ⟨a,mr⟩ (υ z) (w1 z)
   rintro⟨az,aR⟩ ⟨a,ac⟩
   refine iC a z (λbU a=>?_) (λbU a=>?_)
   .refine sr<|δ z<|δ z<|δ z<|oE a λx7 bf a=>γ (X' F' jA (y.mono (mx (mx (mx g d) f) ac)) z z bf) ?_
    obtain⟨o,p,q,t,bL,aB,aC⟩:=pr (R' (Á y bf) (mx (mx (mx g d) f) ac))
    refine γ (jC _ oz z z bL)<|jL (e:=159) (r:=n') (vs:=#[(0,.agg (((χ x7.c o p q t):Ŀ Value)++(Ι x7.m)).toArray)]) (cs:=(((χ x7.c o p q t):Ŀ Value)++(Ι x7.m))++([])) ([x7]:Ŀ Za) z z z z z (by decide) (λ_=>by kernel_rfl) ⟨((χ x7.c o p q t):Ŀ Value)++(Ι x7.m),[],z,⟨(χ x7.c o p q t),Ι x7.m,z,⟨(ι x7.c.num o p),(ι x7.c.den q t),z,⟨[.bool x7.c.num.neg],[ε o x7.c.num.Α p],z,z,⟨_,z,aB⟩⟩,⟨[.bool x7.c.den.neg],[ε q x7.c.den.Α t],z,z,⟨_,z,aC⟩⟩⟩,z⟩,z⟩ (key:=999) z (by rw[aq]; rfl) (λp6 cc aM bC=>?_)
    refine oA a λbp a=>nt (r:=n') 1005 z z F' oh z (by decide) z z (aA.mono (mx (mx f ac) aM)) z (by rw[aq]; rfl) ar bC bp λp7 bZ bl bV a1 bI bs=>ς z<|nr<|δ z<|é z<|θ z<|Æ<|g'<|H'<|K' ⟨(E++[x7]),p7,bZ,bl,i64.wrap (V+1),C,bV⟩ a ⟨(mx (mx (mx (mx d f) ac) aM) a1),bI,bs⟩ (υ z) (w1 z)
   refine o'<|ia ⟨E,R,L,K,V,aR⟩ ⟨a,ac,(aA.mono (mx f ac)),ar⟩ (υ z) (w1 z)
  rintro⟨U,Z,aa,Y,T,al⟩ ⟨a,n,aO,aD⟩
  refine k5 a (λ(⟨W,ah,ag,af,au,aN⟩:(Ŀ Za)×ŀ Addr×Nat×ŀ Ow×Int×Mem)=>⟨[(0,ε M D S),(1,ε P B Q),(5,ε ah W ag),(6,i' T),(7,i' au)],Ip D B T W au,Mem.le al aN/\sl n' aN ah ag W/\Tok 12 159 (ε ah W ag) W.length af,St w0 G0 aN [(1005,af)]⟩) ?_ ?_
  .refine k5 a (λ(⟨ax,aU⟩:Bool×Mem)=>⟨[(0,ε M D S),(1,ε P B Q),(5,ε Z U aa),(6,i' T),(7,i' C),(70,.bool ax)],A8 D B C U T ax,Mem.le al aU,St w0 G0 aU [(1005,Y)]⟩) ?_ ?_
   .refine hZ [ff,ff,ff,ff,ff,ff,ff,ff,ff,ff,ff,ff,ff,ff,ff] gp (by kernel_rfl) λhb=>ù z<|ù z<|cn (λ_ c=>N' F' ((y.mono (mx (mx (mx g d) f) n)).mono c) z)<|su a z (λ_ c=>iI z z) (λb2 a=>?_) (λb2 a=>?_)
    .refine ù z<|cf z z<|cf z z<|cf z z<|cf z z<|cf z z<|cf z z<|cf z z<|cf z z<|cf z z<|cf z z<|jz hb<|lk z<|Δ z<|q'<|fh<|ia ⟨true,al⟩ ⟨a,mr⟩ (υ z) (w1 z)
    refine ù z<|cy z z (λ_ c=>h' z)<|cy z z (λ_ c=>h' z)<|oE a λx5 a4 a=>cy z z (λ_ c=>X' F' jA ((y.mono (mx (mx (mx g d) f) n)).mono c) z z a4)<|cy z z (λ_ c=>lV z)<|cy z z (λ_ c=>jC _ iL z (M' _ _ _) (sO (R' (R' (pP (mi (Á y a4))) (mx (mx (mx g d) f) n)) c)))<|cy z z (λ_ c=>h' z)<|cy z z (λ_ c=>h' z)<|oE a λx6 bc a=>cy z z (λ_ c=>X' F' jA ((F.mono (mx (mx (mx g d) f) n)).mono c) z z bc)<|cy z z (λ_ c=>lV z)<|cy z z (λ_ c=>jC _ iL z (M' _ _ _) (sO (R' (R' (pP (mi (Á F bc))) (mx (mx (mx g d) f) n)) c)))<|jz hb<|oE a λbO bw a=>I' (W' z z) z (x' xr z) (K6 bw) z (trivial)<|gy z z (nb z z) z<|Γ z<|q'<|fh<|ia ⟨decide (bO<0),al⟩ ⟨a,mr⟩ (υ z) (w1 z)
   rintro⟨ax,aU⟩ ⟨a,ab⟩
   refine iC a z (λbN a=>?_) (λbN a=>?_)
   .refine sr<|δ z<|δ z<|δ z<|oE a λw a3 a=>γ (X' F' jA (F.mono (mx (mx (mx (mx g d) f) n) ab)) z z a3) ?_
    obtain⟨u,s,x,A,bK,aw,ay⟩:=pr (R' (Á F a3) (mx (mx (mx (mx g d) f) n) ab))
    refine γ (jC _ oz z z bK)<|jL (e:=159) (r:=n') (vs:=#[(0,.agg (((χ w.c u s x A):Ŀ Value)++(Ι w.m)).toArray)]) (cs:=(((χ w.c u s x A):Ŀ Value)++(Ι w.m))++([])) ([w]:Ŀ Za) z z z z z (by decide) (λ_=>by kernel_rfl) ⟨((χ w.c u s x A):Ŀ Value)++(Ι w.m),[],z,⟨(χ w.c u s x A),Ι w.m,z,⟨(ι w.c.num u s),(ι w.c.den x A),z,⟨[.bool w.c.num.neg],[ε u w.c.num.Α s],z,z,⟨_,z,aw⟩⟩,⟨[.bool w.c.den.neg],[ε x w.c.den.Α A],z,z,⟨_,z,ay⟩⟩⟩,z⟩,z⟩ (key:=999) z (by rw[aq]; rfl) (λp4 ce aP bH=>?_)
    refine oA a λbt a=>nt (r:=n') 1005 z z F' oh z (by decide) z z (aO.mono (mx ab aP)) z (by rw[aq]; rfl) aD bH bt λp5 bB bz bY aY bX bu=>ς z<|nr<|δ z<|é z<|θ z<|Æ<|g'<|H'<|K' ⟨(U++[w]),p5,bB,bz,T,i64.wrap (C+1),bY⟩ a ⟨(mx (mx (mx (mx (mx d f) n) ab) aP) aY),bX,bu⟩ (υ z) (w1 z)
   refine o'<|ia ⟨U,Z,aa,Y,C,aU⟩ ⟨a,ab,(aO.mono ab),aD⟩ (υ z) (w1 z)
  rintro⟨W,ah,ag,af,au,aN⟩ ⟨a,O,aQ,aF⟩
  refine c'<|hZ [ff,ff,ff,ff,ff,ff,ff,ff,ff,ff,ff,ff] gp (by kernel_rfl) λhb=>ù z<|ù z<|oE a λx1 bi a=>cn (λ_ c=>X' F' jA ((y.mono (mx (mx (mx (mx g d) f) n) O)).mono c) z z bi)<|cn (λ_ c=>oq z) ?_
  obtain⟨a8,bd,be,a6,bF,aK,aH⟩:=wI (R' (qO (mi (Á y bi))) (mx (mx (mx (mx g d) f) n) O))
  refine cn (λ_ c=>jC _ kf z z (λj v hv=>c _ _ _ (bF j v hv)))<|ù z<|ù z<|oE a λx2 a2 a=>cn (λ_ c=>X' F' jA ((F.mono (mx (mx (mx (mx g d) f) n) O)).mono c) z z a2)<|cn (λ_ c=>oq z) ?_
  obtain⟨a7,a9,ba,bb,bA,aE,aJ⟩:=wI (R' (qO (mi (Á F a2))) (mx (mx (mx (mx g d) f) n) O))
  refine cn (λ_ c=>jC _ kf z z (λj v hv=>c _ _ _ (bA j v hv)))<|oE a λJ bq a=>mL (post:=lq J) (λ_=>z) (λ_ _=>x' GC z) (gJ' bq) z (λG' c=>⟨(aK.mono c),(aH.mono c),(aE.mono c),(aJ.mono c)⟩) (λv G1 G2 c h=>?_) ?_
  .obtain⟨m,l,i,k,rfl,I,H⟩:=h
   exact⟨_,_,_,_,z,I.mono c,H.mono c⟩
  refine uQ (λ_=>z) ru<|η.ql (λcg b9 X1 aj aX aV=>?_)
  obtain⟨b1,rfl,bn⟩:=aX
  obtain⟨m,l,i,k,rfl,I,H⟩:=aV
  refine yv bn (sv (show WL _ _ _ _ _ _ (St w0 G0 X1.m _) from ?_))
  refine ø 8 mD z<|q'<|fh<|a'<|c'<|sr<|γ (w' 8 kf z z z)<|oE a λcb br a=>I' z z (x' Dh z) (FN br) z (⟨I,H⟩)<|γ (ly z z)<|nx<|J' a z (λb3 a=>?_) (λb3 a=>?_)
  .refine hZ [tt,ff,ff,ff,ff,ff,ff] gp (by kernel_rfl) λhb=>yl z (h' z)<|cn (λ_ c=>w' 8 kf z z z)<|ù z<|ù z ?_
   obtain⟨x3,a5,a⟩:=a
   have N1:=mx (mx (mx (mx (mx g d) f) n) O) aj
   refine cn (λ_ c=>X' F' jA ((y.mono N1).mono c) z z a5)<|cn (λ_ c=>lV z)<|cn (λ_ c=>jC _ iL z (M' _ _ _) (sO (R' (R' (pP (mi (Á y a5))) N1) c)))<|jz hb<|γ (iK (vs:=#[(0,.agg ((χ J m l i k)).toArray),(1,.agg (Ι x3.m).toArray)]) (v:=.agg (((χ J m l i k):Ŀ Value)++(Ι x3.m)).toArray) z z (λ_=>by kernel_rfl))<|jL (e:=159) (r:=n') (vs:=#[(0,.agg (((χ J m l i k):Ŀ Value)++(Ι x3.m)).toArray)]) (cs:=(((χ J m l i k):Ŀ Value)++(Ι x3.m))++([])) ([(Za.mk J x3.m)]:Ŀ Za) z z z z z (by decide) (λ_=>by kernel_rfl) ⟨((χ J m l i k):Ŀ Value)++(Ι x3.m),[],z,⟨(χ J m l i k),Ι x3.m,z,⟨(ι J.num m l),(ι J.den i k),z,⟨[.bool J.num.neg],[ε m J.num.Α l],z,z,⟨_,z,I⟩⟩,⟨[.bool J.den.neg],[ε i J.den.Α k],z,z,⟨_,z,H⟩⟩⟩,z⟩,z⟩ (key:=999) z (by rw[aq]; rfl) (λp2 cd aS bR=>?_)
   refine oA a λbm a=>nt (r:=n') 1005 z z F' oh z (by decide) z z (aQ.mono (mx aj aS)) z (by rw[aq]; rfl) aF bR bm λp3 bJ bk bE aZ bS bo=>ς z<|q'<|fh<|a'<|sr<|δ z<|é z<|θ z<|p'<|δ z<|é z<|ς z<|q'<|A'<|K' ⟨(W++[(Za.mk J x3.m)]),p3,bJ,bk,i64.wrap (T+1),i64.wrap (au+1),bE⟩ a ⟨(mx (mx (mx (mx (mx (mx d f) n) O) aj) aS) aZ),bS,bo⟩ (υ z) (w1 z)
  refine o'<|a'<|sr<|δ z<|é z<|θ z<|p'<|δ z<|é z<|ς z<|q'<|A'<|K' ⟨W,ah,ag,af,i64.wrap (T+1),i64.wrap (au+1),X1.m⟩ a ⟨(mx (mx (mx (mx d f) n) O) aj),(aQ.mono aj),aF⟩ (υ z) (w1 z)
 rintro⟨ai,ao,an,ap,aT⟩ ⟨a,b4,a0,bW⟩
 refine a'<|sr<|δ z<|θ z<|m' ?_
 obtain rfl:_=r:=a
 exact k' z z ⟨_,_,z,a0⟩
theorem gz'{H K F O s t r}(a:(Jo H K F O).ο r):ä prog 82 #[.agg ([ε s H.t t]).toArray,i' K,i' F,i' O] (λG=>sl (pt .i8 5) G s t H.t) (jx n' r):=by
 refine E' (args:=[_,_,_,_]) (N:=74) func82 z z z (λw0 G0 ay aL=>?_)
 have E:=aL
 refine sr<|ý 4 z z z λw=>ς z<|nr<|jL (e:=159) (r:=n') (vs:=#[]) (cs:=[]) ([]:Ŀ Za) z z z z z (by decide) (λ_=>by kernel_rfl) (z) (key:=999) z (by rw[ay]; rfl) λp1 an M aP=>θ z<|c'<|sr<|θ z<|Z' (X:=(Ŀ Za)×ŀ Addr×Nat×Int×Mem) a (λ⟨q,m,p,o,Q⟩=>⟨(q,o),[(1,i' K),(2,i' F),(3,i' O),(4,Τ w),(9,ε m q p),(10,i' o)],Mem.le an Q/\sl n' Q m p q,St w0 G0 Q [(4,Ξ w ([ε s H.t t]) 110)]⟩) (λ(⟨W,Y,ab,ah⟩:(Ŀ Za)×ŀ Addr×Nat×Mem)=>⟨W,[(9,ε Y W ab)],Mem.le an ah/\sl n' ah Y ab W,St w0 G0 ah []⟩) ⟨[],p1,0,0,an⟩ z (υ z) ⟨mr,aP⟩ (w1 z) ?_ ?_
 .rintro _ ⟨q,m,p,o,Q⟩ ⟨n,ad⟩ a
  refine k5 a (λ(gx:Mem)=>match gx with|T=>⟨[(1,i' K),(2,i' F),(3,i' O),(4,Τ w),(9,ε m q p),(10,i' o)],NW H K F q o,Mem.le Q T,St w0 G0 T [(4,Ξ w ([ε s H.t t]) 110)]⟩) ?_ ?_
  .refine sr<|δ z<|γ (Y0.J7 z)<|γ (f' 4 uh z z z)<|γ (N' KQ (E.mono (mx M n)) z)<|eZ a z (nb z z) z (λaO a=>?_) (λaO a=>?_)
   .refine δ z<|Â z<|Â z<|gy z z (nb z z) z<|Δ z<|nx<|J' a z (λaN a=>?_) (λaN a=>?_)
    .refine o'<|ia Q ⟨a,mr⟩ (υ z) (w1 z)
    refine Æ<|g'<|g'<|H'<|Ë ⟨q,m,p,Q⟩ ⟨a,n,ad⟩ (f1 z) (wk ln)
   refine δ z<|lu z<|Γ z<|nx<|lJ z<|Æ<|g'<|g'<|H'<|Ë ⟨q,m,p,Q⟩ ⟨a,n,ad⟩ (f1 z) (wk ln)
  rintro T ⟨a,I⟩
  refine c'<|V'<|sr<|γ (iK (vs:=#[]) (v:=.agg (Ι (λ_=>0)).toArray) z z (λ_=>by kernel_rfl))<|T' 11 z r5 z λb2=>y' 11 z ov z z z (M' _ _ _) (M' _ _ _) (λu hu=>Rp.one (pt .i64 8) (G:=T) (x:=(λ_=>0)) (cs:=Ι (λ_=>0)) z u (by first|simpa using hu|simpa [Value.cells] using hu))<|nr<|δ z<|θ z<|c'<|sr<|θ z<|Z' (X:=Int×Int×(Fin 8->Int)×Mem) a (λ⟨y,l,P,U⟩=>⟨(y,l,P),[(1,i' K),(2,i' F),(3,i' O),(4,Τ w),(9,ε m q p),(10,i' o),(11,Τ b2),(12,i' y),(13,i' l)],Mem.le T U,St w0 G0 U [(4,Ξ w ([ε s H.t t]) 110),(11,Ξ b2 (Ι P) 99)]⟩) (λ(⟨J,am⟩:(Fin 8->Int)×Mem)=>⟨J,[(1,i' K),(2,i' F),(3,i' O),(4,Τ w),(9,ε m q p),(10,i' o),(11,Τ b2)],Mem.le T am,St w0 G0 am [(4,Ξ w ([ε s H.t t]) 110),(11,Ξ b2 (Ι J) 99)]⟩) ⟨F,0,(λ_=>0),T⟩ z (υ z) mr (w2 z z) ?_ ?_
  .rintro _ ⟨y,l,P,U⟩ L a
   refine c'<|sr<|δ z<|δ z<|eZ a z (nb z z) z (λaV a=>?_) (λaV a=>?_)
   .refine δ z<|Â z<|gy z z (nb z z) z<|Δ z<|nx<|J' a z (λaW a=>?_) (λaW a=>?_)
    .refine o'<|a'<|c'<|V'<|sr<|δ z<|γ (Y0.J7 z)<|γ (f' 4 uh z z z)<|δ z<|δ z<|é z<|oE a λx2 aw a=>γ (X' KQ wZ (E.mono (mx (mx (mx M n) I) L)) z z aw)<|oA a λax a=>γ (Y0.vB underlying226 wY z z ax)<|γ (il wU z (AtK.rZ (R' (Á E aw) (mx (mx (mx M n) I) L)) ax))<|oE a λap aJ a=>I' z z (x' Gd z) (gH' aJ) z (trivial)<|δ z<|é z<|oA a λaR a=>γ (oI z z aR)<|oA a λaU a=>γ (k0 lK gh z z aU)<|kN 11 (Ι (å P l.toNat (Int.tmod ap (i64.wrap (y+1))))).toArray z gh z z z (by first|(rw[M']; omega)|(show _<(í _ _ _).toArray.size; rw[M']; omega)) z (qR _ _ _ _ _)<|nx<|p'<|δ z<|δ z<|oA a λaz a=>γ (k0 lK gh z z az)<|γ (f' 11 ñ z z (mh _ _ _ az))<|γ (nU z z)<|ς z<|q'<|A'<|a'<|p'<|δ z<|é z<|ς z<|q'<|K' ⟨i64.wrap (y-(Κ (å P l.toNat (Int.tmod ap (i64.wrap (y+1)))) l)),i64.wrap (l+1),å P l.toNat (Int.tmod ap (i64.wrap (y+1))),U⟩ a L (υ z) (w2 z z)
    refine Æ<|g'<|g'<|H'<|Ë ⟨P,U⟩ ⟨a,L⟩ (υ z) (w2 z z)
   refine δ z<|lk z<|Γ z<|nx<|lJ z<|Æ<|g'<|g'<|H'<|Ë ⟨P,U⟩ ⟨a,L⟩ (υ z) (w2 z z)
  rintro⟨J,am⟩ ⟨a,S⟩
  refine a'<|hZ [tt,ff,ff,ff,ff,ff,ff,ff,ff,ff,ff,ff] gp (by kernel_rfl) λhb=>yl z (h' z)<|cn (λ_ j=>Y0.J7 z)<|cn (λ_ j=>f' 4 uh z z z)<|ù z ?_
  obtain⟨x1,aB,a⟩:=a
  have N1:=mx (mx (mx M n) I) S
  refine cn (λ_ j=>X' KQ wZ ((E.mono N1).mono j) z z aB)<|cn (λ_ j=>Y0.vB underlying226 wY z z (by decide))<|cn (λ_ j=>il wU z (AtK.rZ (R' (R' (Á E aB) N1) j) (by decide)))<|cn (λ_ j=>oI z z (by decide))<|cn (λ_ j=>jF KP FA z)<|oE a λaA aE a=>mL (post:=lq aA) (λ_=>z) (λ_ _=>x' Dg z) (FM aE) z (λG' j=>trivial) (λv G1 G2 j h=>?_) ?_
  .obtain⟨ac,aa,V,Z,rfl,B,A⟩:=h
   exact⟨_,_,_,_,z,B.mono j,A.mono j⟩
  refine oE a λk aF a=>mL (post:=lq k) (λ_=>z) (λ_ _=>x' Dg z) (FM aF) z (λG' j=>trivial) (λv G1 G2 j h=>?_) ?_
  .obtain⟨c,g,f,i,rfl,D,C⟩:=h
   exact⟨_,_,_,_,z,D.mono j,C.mono j⟩
  refine cu (λ_ _ j=>w' 11 iL z z (M' _ _ _))<|η.rp (d:=67) (post:=lq k) (d':=66) (post':=lq aA) (λa4 a5 ba af al ai=>?_)
  obtain⟨c,g,f,i,rfl,D,C⟩:=al
  obtain⟨ac,aa,V,Z,rfl,B,A⟩:=ai
  refine γ (iK (vs:=#[(0,.agg ((χ k c g f i)).toArray),(1,.agg (Ι J).toArray)]) (v:=.agg (((χ k c g f i):Ŀ Value)++(Ι J)).toArray) z z (λ_=>by kernel_rfl))<|jL (e:=159) (r:=n') (vs:=#[(0,.agg (((χ k c g f i):Ŀ Value)++(Ι J)).toArray)]) (cs:=(((χ k c g f i):Ŀ Value)++(Ι J))++([])) ([(Za.mk k J)]:Ŀ Za) z z z z z (by decide) (λ_=>by kernel_rfl) ⟨((χ k c g f i):Ŀ Value)++(Ι J),[],z,⟨(χ k c g f i),Ι J,z,⟨(ι k.num c g),(ι k.den f i),z,⟨[.bool k.num.neg],[ε c k.num.Α g],z,z,⟨_,z,D⟩⟩,⟨[.bool k.den.neg],[ε f k.den.Α i],z,z,⟨_,z,C⟩⟩⟩,z⟩,z⟩ (key:=999) z (by rw[ay]; rfl) (λp2 bc R aQ=>?_)
  refine oE a λbb aK a=>U' z z (x' Ge z) (gs' aK) z (⟨(B.mono R),(A.mono R),aQ⟩) (λa0 a9 ag ak=>?_)
  obtain⟨aZ,a6,rfl,aD⟩:=ak
  refine oE a λaM aC a=>U' z z (x' Ah z) (Sn aC) z (⟨(ad.mono (mx (mx (mx (mx I S) af) R) ag)),aD⟩) (λa3 aT ar aj=>?_)
  obtain⟨aI,aH,rfl,aG⟩:=aj
  have N2:=mx (mx (mx (mx (mx (mx n I) S) af) R) ag) ar
  refine ς z<|q'<|fh<|A'<|a'<|p'<|δ z<|é z<|ς z<|q'<|K' ⟨aM,aI,aH,i64.wrap (o+1),aT⟩ a ⟨N2,aG⟩ (υ z) (w1 z)
 rintro⟨W,Y,ab,ah⟩ ⟨a,aX,au⟩
 refine a'<|sr<|δ z<|θ z<|m' ?_
 obtain rfl:_=r:=a
 exact k' z z ⟨_,_,z,au⟩
theorem Sj{e d s q x y p o k j r}(a:(BI e d).ο r):ä prog 38 #[.agg ((Ρ e s q x y p o)).toArray,.agg ((uw d k j)).toArray] (λG=>sl Rp.str G s q e.vars/\sl j' G x y e.eqs/\sl j' G p o e.ζ/\sl (pt .i8 5) G k j d.p.t) (r0 r):=by
 refine E' (args:=[_,_]) (N:=77) func38 z z z (λw0 G0 aI aq=>?_)
 obtain⟨I,af,ad,P⟩:=aq
 refine sr<|ý 2 z z z λb1=>ý 3 z z z λw=>T' 4 z zd z λW=>nr<|γ (lI z)<|γ (f' 2 lr z z z)<|γ (N' Q' I z)<|θ z<|c'<|hZ [ff,ff,ff,ff,ff,ff,ff,ff,ff,ff,ff,ff,ff,ff,ff,ff,ff,ff,ff,ff,ff,ff,ff,ff,ff,ff,ff,ff,ff,ff,ff,ff,ff,ff,ff,ff] gp (by kernel_rfl) λhb=>cn (λ_ f=>Y0.Rg z)<|cn (λ_ f=>f' 3 uS z z z)<|cn (λ_ f=>oI z z (by decide))<|cn (λ_ f=>jF pJ nQ z)<|cn (λ_ f=>O' z z)<|cn (λ_ f=>Y0.J8 z)<|cn (λ_ f=>f' 3 uS z z z)<|cn (λ_ f=>jF pJ nQ z)<|ù z<|cn (λ_ f=>O' z z)<|oA a λay a=>cn (λ_ f=>oI z z ay)<|cn (λ_ f=>Y0.Rh z)<|cn (λ_ f=>f' 3 uS z z z)<|cn (λ_ f=>jF pJ nQ z)<|ù z<|cn (λ_ f=>O' z z)<|oA a λax a=>cn (λ_ f=>oI z z ax)<|cn (λ_ f=>Y0.J9 z)<|cn (λ_ f=>f' 3 uS z z z)<|cn (λ_ f=>jF pJ nQ z)<|cn (λ_ f=>pq z)<|cn (λ_ f=>f' 2 ñ z z z)<|cn (λ_ f=>O' z z)<|oA a λar a=>cn (λ_ f=>oI z z ar)<|cn (λ_ f=>Y0.Rh z)<|cn (λ_ f=>f' 3 uS z z z)<|cn (λ_ f=>oI z z (by decide))<|cn (λ_ f=>iI z z)<|oE a λM aj a=>mL (post:=jx Rp.str M) (λ_=>z) (λ_ _=>x' Tg z) (gr' aj) z (λV f=>trivial) (λv G1 G2 f h=>?_) ?_
 .obtain⟨K,J,rfl,A⟩:=h
  exact⟨_,_,z,A.mono f⟩
 refine cu (λ_ _ f=>Y0.J9 z)<|cu (λ_ _ f=>f' 3 uS z z z)<|cu (λ_ _ f=>oI z z (by decide))<|oE a λH ae a=>qY (φ:=λG v=>∃ B C,v = .pointer (some ⟨pb B,po B+(Int.tmod d.n 6).toNat*1,none⟩)/\sl Rp.str G B C M) (λ_=>z) (λv G1 G2 f h=>?_) (λu V f hu=>?_) ?_
 .obtain⟨B,C,rfl,L⟩:=h
  exact⟨_,_,z,L.mono f⟩
 .obtain⟨⟨K,J,aa,A⟩,_⟩:=(show (jx Rp.str M) V.m (u 38)/\True from hu)
  simp only[ψ,aa]
  exact⟨_,X' Q' nJ A z z ae,K,J,z,A⟩
 refine η.za (c:=.string H) (λ_=>z) (λu V f hu=>?_) ?_
 .obtain⟨⟨B,C,Y,L⟩,_,_⟩:=(show (λG v=>∃ B C,v = .pointer (some ⟨pb B,po B+(Int.tmod d.n 6).toNat*1,none⟩)/\sl Rp.str G B C M) V.m (u 42)/\True/\True from hu)
  simp only[ψ,Y]
  exact il ou z (qQ (Á L ae))
 refine cu (λ_ _ f=>iK (vs:=#[(0,i' (i64.wrap (1+(i64.wrap (Int.tmod d.kind 16))))),(2,i' (Int.tmod (i64.wrap d.a) (i64.wrap ((e.vars.length:Int)+1)))),(3,i' (Int.tmod (i64.wrap d.b) (i64.wrap ((e.vars.length:Int)+1)))),(4,i' (Int.tmod (i64.wrap d.n) (i64.wrap (e.next+1)))),(6,.bool (decide ((Int.tmod d.b 4)=3))),(1,.string H)]) (v:=.agg ([i' (i64.wrap (1+(i64.wrap (Int.tmod d.kind 16)))),.string H,i' (Int.tmod (i64.wrap d.a) (i64.wrap ((e.vars.length:Int)+1))),i' (Int.tmod (i64.wrap d.b) (i64.wrap ((e.vars.length:Int)+1))),i' (Int.tmod (i64.wrap d.n) (i64.wrap (e.next+1))),.slice none 0 0,.bool (decide ((Int.tmod d.b 4)=3))]).toArray) z z (λ_=>by kernel_rfl))<|uQ (λ_=>z) zd<|η.uq (λaK aF aG T am U S Q=>?_)
 obtain⟨b4,rfl,ah⟩:=U
 obtain⟨B,C,rfl,L⟩:=S
 obtain⟨K,J,rfl,A⟩:=Q
 refine yv ah (sv (show WL _ _ _ _ _ _ (St w0 G0 T.m _) from ?_))
 refine ø 6 rX z<|q'<|fh<|a'<|k5 a (λ(⟨g,l,m,t⟩:Zh×ŀ Addr×Nat×Mem)=>⟨[(3,Τ w),(4,Τ W),(5,i' (e.vars.length:Int)),(6,Τ b4)],xB e d g,Mem.le T.m t/\sl n' t l m g.p,St w0 G0 t [(3,Ξ w (uw d k j) 112),(4,Ξ W ([i' 0,.string ByteArray.empty,i' 0,i' 0,i' 0,.slice none 0 0,.bool false]) 106),(6,Ξ b4 (kL g l m) 106)]⟩) ?_ ?_
 .refine sr<|γ (Y0.Rg z)<|γ (f' 3 uS z z z)<|γ (oI z z (by decide))<|γ (kO z z)<|nx<|J' a z (λau a=>?_) (λau a=>?_)
  .refine sr<|γ (Y0.J8 z)<|γ (f' 3 uS z z z)<|γ (oI z z (by decide))<|γ (jF pJ nQ z)<|é z<|γ (wJ z)<|kN 6 ([i' (i64.wrap (5+(i64.wrap (Int.tmod d.a 4)))),.string H,i' (Int.tmod (i64.wrap d.a) (i64.wrap ((e.vars.length:Int)+1))),i' (Int.tmod (i64.wrap d.b) (i64.wrap ((e.vars.length:Int)+1))),i' (Int.tmod (i64.wrap d.n) (i64.wrap (e.next+1))),.slice none 0 0,.bool (decide ((Int.tmod d.b 4)=3))]).toArray z gh z z z (show 0<7 by decide) z z<|nr<|γ (Y0.J8 z)<|γ (f' 3 uS z z z)<|γ (oI z z (by decide))<|Ï z<|nx<|J' a z (λaw a=>?_) (λaw a=>?_)
   .refine p'<|γ (wJ z)<|kN 6 ([i' 5,.string H,i' (Int.tmod (i64.wrap d.a) (i64.wrap ((e.vars.length:Int)+1))),i' (Int.tmod (i64.wrap d.b) (i64.wrap ((e.vars.length:Int)+1))),i' (Int.tmod (i64.wrap d.n) (i64.wrap (e.next+1))),.slice none 0 0,.bool (decide ((Int.tmod d.b 4)=3))]).toArray z gh z z z (show 0<7 by decide) z z<|q'<|ia ⟨(Zh.mk 5 H (Int.tmod (i64.wrap d.a) (i64.wrap ((e.vars.length:Int)+1))) (Int.tmod (i64.wrap d.b) (i64.wrap ((e.vars.length:Int)+1))) (Int.tmod (i64.wrap d.n) (i64.wrap (e.next+1))) [] (decide ((Int.tmod d.b 4)=3))),none,0,T.m⟩ ⟨a,mr,(gi _ _)⟩ (υ z) (w3 z z z)
   refine o'<|ia ⟨(Zh.mk (i64.wrap (5+(i64.wrap (Int.tmod d.a 4)))) H (Int.tmod (i64.wrap d.a) (i64.wrap ((e.vars.length:Int)+1))) (Int.tmod (i64.wrap d.b) (i64.wrap ((e.vars.length:Int)+1))) (Int.tmod (i64.wrap d.n) (i64.wrap (e.next+1))) [] (decide ((Int.tmod d.b 4)=3))),none,0,T.m⟩ ⟨a,mr,(gi _ _)⟩ (υ z) (w3 z z z)
  refine o'<|ia ⟨(Zh.mk (i64.wrap (1+(i64.wrap (Int.tmod d.kind 16)))) H (Int.tmod (i64.wrap d.a) (i64.wrap ((e.vars.length:Int)+1))) (Int.tmod (i64.wrap d.b) (i64.wrap ((e.vars.length:Int)+1))) (Int.tmod (i64.wrap d.n) (i64.wrap (e.next+1))) [] (decide ((Int.tmod d.b 4)=3))),none,0,T.m⟩ ⟨a,mr,(gi _ _)⟩ (υ z) (w3 z z z)
 rintro⟨g,l,m,t⟩ ⟨a,Z,E⟩
 refine k5 a (λ(⟨n,D,F,O⟩:Zh×ŀ Addr×Nat×Mem)=>⟨[(3,Τ w),(4,Τ W),(5,i' (e.vars.length:Int)),(6,Τ b4)],Be e d n,Mem.le t O/\sl n' O D F n.p,St w0 G0 O [(3,Ξ w (uw d k j) 112),(4,Ξ W ([i' 0,.string ByteArray.empty,i' 0,i' 0,i' 0,.slice none 0 0,.bool false]) 106),(6,Ξ b4 (kL n D F) 106)]⟩) ?_ ?_
 .refine sr<|γ (wJ z)<|γ (f' 6 ñ z z z)<|eZ a z (iI z z) z (λaz a=>?_) (λaz a=>?_)
  .refine δ z<|gy z z (Y0.J9 z) z<|gy z z (f' 3 uS z z z) z<|gy z z (oI z z (by decide)) z<|gy z z (kr z z) z<|Δ z<|nx<|J' a z (λaA a=>?_) (λaA a=>?_)
   .refine p'<|γ (pL z)<|kN 6 ([i' g.kind,.string g.name,i' g.Ζ,i' g.ll,i' 0,ε l g.p m,.bool g.neq]).toArray z gh z z z (show 4<7 by decide) z z<|q'<|ia ⟨(Zh.mk g.kind g.name g.Ζ g.ll 0 g.p g.neq),l,m,t⟩ ⟨a,mr,E⟩ (υ z) (w3 z z z)
   refine o'<|ia ⟨g,l,m,t⟩ ⟨a,mr,E⟩ (υ z) (w3 z z z)
  refine δ z<|ke z<|Γ z<|nx<|lJ z<|o'<|ia ⟨g,l,m,t⟩ ⟨a,mr,E⟩ (υ z) (w3 z z z)
 rintro⟨n,D,F,O⟩ ⟨a,X,aB⟩
 refine sr<|γ (Y0.ZuF z)<|γ (gZ ([ε k d.p.t j]).toArray 3 BW z z z (hC ([.int .u8 d.kind,.int .u8 d.a,.int .u8 d.b,.int .u8 d.n]) ([ε k d.p.t j]) ([])))<|δ z<|γ (Y0.min2 z z)<|oE a λav an a=>U' z z (x' Th z) (gz' an) z ((P.mono (mx (mx am Z) X))) (λaD aJ aC R=>?_)
 obtain⟨ag,ao,rfl,ai⟩:=R
 refine γ (Y0.E2 z)<|kN 6 ([i' n.kind,.string n.name,i' n.Ζ,i' n.ll,i' n.id,ε ag av ao,.bool n.neq]).toArray z iG z z z (show 5<7 by decide) z z<|nr<|γ (w' 6 mg z z z)<|ø 4 rX z<|nx<|m' ?_
 obtain rfl:_=r:=a
 exact k' z (hQ (i:=4) mg z z z) ⟨_,_,z,ai⟩
theorem Su{c r}(a:(Ba c).ο r):ä prog 194 #[.int .u8 c] (λG=>True) (λG v=>v = .bool r):=by
 refine E' (args:=[_]) (N:=17) func194 z z z λj k i h=>sr<|ς z<|nr<|δ z<|eZ a z (kO z z) z (λe a=>?_) (λe a=>?_)
 .refine δ z<|Â z<|eZ a (W' z z) (oo z z) z (λg a=>?_) (λg a=>?_)
  .refine Δ z<|δ z<|lu z<|jD (jE z z) z<|jD (jE z z) z<|sf z z z<|Δ z<|θ z<|m' (Μ a z z)
  refine Δ z<|δ z<|Â z<|eZ a (W' z z) (kO z z) z (λf a=>?_) (λf a=>?_)
  .refine Â z<|Â z<|gy z z (oo z z) z<|gy z z (C' z z) z<|Γ z<|θ z<|m' (Μ a z z)
  refine Â z<|lk z<|gy z z (D' z z) z<|Γ z<|θ z<|m' (Μ a z z)
 refine δ z<|lk z<|Γ z<|δ z<|Â z<|eZ a (W' z z) (kO z z) z (λd a=>?_) (λd a=>?_)
 .refine Â z<|Â z<|gy z z (oo z z) z<|gy z z (C' z z) z<|Γ z<|θ z<|m' (Μ a z z)
 refine Â z<|lk z<|gy z z (D' z z) z<|Γ z<|θ z<|m' (Μ a z z)
theorem Sk{e r}(a:(BG e).ο r):ä prog 129 #[.string e] (λG=>True) (λG v=>v = .bool r):=by
 refine E' (args:=[_]) (N:=48) func129 z z z λk h M K=>sr<|θ z<|k5 a (λ(l:Mem)=>match l with|f=>⟨[(0,.string e)],NY e,Mem.le h f,St k h f []⟩) ?_ ?_
 .refine sr<|δ z<|γ (Y0.tX qq z)<|eZ a z (nb z z) z (λE a=>?_) (λE a=>?_)
  .refine δ z<|lu z<|Δ z<|δ z<|ke z<|Δ z<|nx<|iS z<|sr<|θ z<|m'<|b' (Μ a z z)
  refine δ z<|Â z<|gy z z (Y0.tX qq z) z<|eZ a (W' z z) (kr z z) z (λB a=>?_) (λB a=>?_)
  .refine Γ z<|δ z<|ke z<|Δ z<|nx<|iS z<|sr<|θ z<|m'<|b' (Μ a z z)
  refine Γ z<|δ z<|Â z<|oA a λo a=>gy z z (yz (s:=e) qq z z o) z<|oE a λL j a=>I' (W' z z) z (x' Aq z) (Su j) z (trivial)<|gy z z (gP z) z<|Γ z<|nx<|iC a z (λx a=>?_) (λx a=>?_)
  .refine sr<|θ z<|m'<|b' (Μ a z z)
  refine o'<|ia h ⟨a,mr⟩ (f1 z) (wk ln)
 rintro f ⟨a,I⟩
 refine c'<|sr<|θ z<|Z' (X:=Int×Mem) a (λ⟨g,d⟩=>⟨g,[(0,.string e),(3,i' g)],Mem.le f d,St k h d []⟩) (λ(l:Mem)=>match l with|i=>⟨(.inr ()),[],Mem.le f i,St k h i []⟩) ⟨1,f⟩ z (υ z) mr (wk ln) ?_ ?_
 .rintro _ ⟨g,d⟩ c a
  refine c'<|sr<|δ z<|δ z<|γ (Y0.tX qq z)<|Ï z<|nx<|J' a z (λH a=>?_) (λH a=>?_)
  .refine o'<|a'<|c'<|V'<|sr<|δ z<|δ z<|oA a λn a=>γ (yz (s:=e) qq z z n)<|oE a λt m a=>I' z z (x' Aq z) (Su m) z (trivial) ?_
   cases t
   .refine γ (gP z)<|δ z<|Â z<|Â z<|oA a λq a=>gy z z (yz (s:=e) qq z z q) z<|eZ a (W' z z) (kO z z) z (λD a=>?_) (λD a=>?_)
    .refine Â z<|Â z<|Â z<|oA a λC a=>gy z z (yz (s:=e) qq z z C) z<|eZ a (W' z z) (oo z z) z (λA a=>?_) (λA a=>?_)
     .refine gy z z (C' z z) z<|gy z z (gP z) z<|Δ z<|δ z<|ke z<|Γ z<|nx<|lJ z<|o'<|A'<|a'<|p'<|δ z<|é z<|ς z<|q'<|K' ⟨i64.wrap (g+1),d⟩ a c (υ z) (wk ln)
     refine gy z z (C' z z) z<|gy z z (gP z) z<|Δ z<|δ z<|Â z<|Â z<|oA a λu a=>gy z z (yz (s:=e) qq z z u) z<|gy z z (ly z z) z<|Δ z<|nx<|J' a z (λy a=>?_) (λy a=>?_)
     .refine sr<|θ z<|m'<|B'<|b'<|b'<|B'<|jl<|b' (Μ a z z)
     refine o'<|A'<|a'<|p'<|δ z<|é z<|ς z<|q'<|K' ⟨i64.wrap (g+1),d⟩ a c (υ z) (wk ln)
    refine Â z<|ke z<|gy z z (D' z z) z<|gy z z (gP z) z<|Δ z<|δ z<|Â z<|Â z<|oA a λp a=>gy z z (yz (s:=e) qq z z p) z<|gy z z (ly z z) z<|Δ z<|nx<|J' a z (λF a=>?_) (λF a=>?_)
    .refine sr<|θ z<|m'<|B'<|b'<|b'<|B'<|jl<|b' (Μ a z z)
    refine o'<|A'<|a'<|p'<|δ z<|é z<|ς z<|q'<|K' ⟨i64.wrap (g+1),d⟩ a c (υ z) (wk ln)
   refine γ (gP z)<|δ z<|pd z<|jD (jE z z) z<|jD (jE z z) z<|jD (jE z z) z<|jD (jE z z) z<|lk z<|Γ z<|δ z<|ke z<|Γ z<|nx<|lJ z<|o'<|A'<|a'<|p'<|δ z<|é z<|ς z<|q'<|K' ⟨i64.wrap (g+1),d⟩ a c (υ z) (wk ln)
  refine Æ<|g'<|g'<|H'<|Ë d ⟨a,c⟩ fn (wk ln)
 rintro i ⟨a,J⟩
 refine a'<|sr<|θ z<|m' (Μ a z z)
theorem SB{m k d e j i f h r}(a:(DZ m k).ο r):ä prog 130 #[.agg ((Ρ m d e j i f h)).toArray,.string k] (λG=>od G d e j i f h m) (λG v=>v=i' r):=by
 refine E' (args:=[_,_]) (N:=21) func130 z z z (λA n E s=>?_)
 obtain⟨g,x,t⟩:=s
 refine sr<|ý 2 z z z λu=>θ z<|c'<|sr<|θ z<|Z' (X:=Int×Mem) a (λ⟨p,l⟩=>⟨p,[(1,.string k),(2,Τ u),(5,i' p)],Mem.le n l,St A n l [(2,Ξ u (Ρ m d e j i f h) 29)]⟩) (λ(D:Mem)=>match D with|o=>⟨(.inr ()),[],Mem.le n o,St A n o []⟩) ⟨0,n⟩ z (υ z) mr (w1 z) ?_ ?_
 .rintro _ ⟨p,l⟩ c a
  refine c'<|sr<|δ z<|γ (lI z)<|γ (f' 2 lr z z z)<|γ (N' Q' (g.mono c) z)<|Ï z<|nx<|J' a z (λB a=>?_) (λB a=>?_)
  .refine o'<|a'<|c'<|V'<|sr<|γ (lI z)<|γ (f' 2 lr z z z)<|δ z<|oE a λF q a=>γ (X' Q' nJ (g.mono c) z z q)<|γ (il ou z (qQ (R' (Á g q) c)))<|δ z<|γ (Y0.vw qq z z)<|nx<|J' a z (λy a=>?_) (λy a=>?_)
   .refine sr<|δ z<|θ z<|m'<|B'<|b'<|b'<|B'<|jl<|b' (Μ a z z)
   refine o'<|A'<|a'<|p'<|δ z<|é z<|ς z<|q'<|K' ⟨i64.wrap (p+1),l⟩ a c (υ z) (w1 z)
  refine Æ<|g'<|g'<|H'<|Ë l ⟨a,c⟩ fn (wk ln)
 rintro o ⟨a,C⟩
 refine a'<|sr<|θ z<|m' (Μ a z z)
theorem FI{k j c d h g e f r}(a:(yd k j).ο r):ä prog 131 #[.agg ((Ρ k c d h g e f)).toArray,i' j] (λG=>od G c d h g e f k) (λG v=>v = .bool r):=by
 refine E' (args:=[_,_]) (N:=14) func131 z z z (λt s p l=>?_)
 obtain⟨i,n,m⟩:=l
 refine sr<|ý 2 z z z λq=>ς z<|nr<|δ z<|eZ a z (kO z z) z (λo a=>?_) (λo a=>?_)
 .refine δ z<|Â z<|gy z z (lI z) z<|gy z z (f' 2 lr z z z) z<|gy z z (N' Q' i z) z<|gy z z (nb z z) z<|Δ z<|θ z<|m' (Μ a z z)
 refine δ z<|pd z<|Γ z<|θ z<|m' (Μ a z z)
theorem gK'{i r}(a:(JV i).ο r):ä prog 266 #[i' i] (λG=>True) (λG v=>v = .int .u8 r):=by
 refine E' (args:=[_]) (N:=14) func266 z z z λk g o n=>sr<|ς z<|nr<|θ z<|c'<|sr<|θ z<|Z' (X:=Int×Int×Mem) a (λ⟨e,h,c⟩=>⟨(e,h),[(0,i' i),(3,i' e),(4,i' h)],Mem.le g c,St k g c []⟩) (λ(⟨j,f⟩:Int×Mem)=>⟨j,[(3,i' j)],Mem.le g f,St k g f []⟩) ⟨1,0,g⟩ z (υ z) mr (wk ln) ?_ ?_
 .rintro _ ⟨e,h,c⟩ d a
  refine c'<|sr<|δ z<|δ z<|Ï z<|nx<|J' a z (λl a=>?_) (λl a=>?_)
  .refine o'<|a'<|c'<|V'<|p'<|δ z<|γ (vp z z)<|ς z<|q'<|A'<|a'<|p'<|δ z<|é z<|ς z<|q'<|K' ⟨i64.wrap (2*e),i64.wrap (h+1),c⟩ a d (υ z) (wk ln)
  refine Æ<|g'<|g'<|H'<|Ë ⟨e,c⟩ ⟨a,d⟩ (f1 z) (wk ln)
 rintro⟨j,f⟩ ⟨a,m⟩
 refine a'<|sr<|δ z<|γ (jF nQ pJ z)<|θ z<|m' (Μ a z z)
theorem gf'{j r}(a:(H5 j).ο r):ä prog 235 #[.agg (Ι j).toArray] (λG=>True) (λG v=>v = .int .u8 r):=by
 refine E' (args:=[_]) (N:=18) func235 z z z λp f u t=>sr<|ý 1 z z z λm=>ς z<|nr<|θ z<|c'<|sr<|θ z<|Z' (X:=Int×Int×Mem) a (λ⟨e,h,c⟩=>⟨(e,h),[(1,Τ m),(3,.int .u8 e),(4,i' h)],Mem.le f c,St p f c [(1,Ξ m (Ι j) 99)]⟩) (λ(⟨k,g⟩:Int×Mem)=>⟨k,[(3,.int .u8 k)],Mem.le f g,St p f g []⟩) ⟨0,0,f⟩ z (υ z) mr (w1 z) ?_ ?_
 .rintro _ ⟨e,h,c⟩ d a
  refine c'<|sr<|δ z<|Ï z<|nx<|J' a z (λq a=>?_) (λq a=>?_)
  .refine o'<|a'<|c'<|V'<|sr<|δ z<|oA a λi a=>γ (k0 lK gh z z i)<|γ (f' 1 ñ z z (mh _ _ _ i))<|γ (kr z z)<|nx<|J' a z (λo a=>?_) (λo a=>?_)
   .refine p'<|δ z<|δ z<|oE a λn l a=>I' z z (x' GV z) (gK' l) z (trivial)<|é z<|ς z<|q'<|A'<|a'<|p'<|δ z<|é z<|ς z<|q'<|K' ⟨u8.wrap (e+n),i64.wrap (h+1),c⟩ a d (υ z) (w1 z)
   refine o'<|A'<|a'<|p'<|δ z<|é z<|ς z<|q'<|K' ⟨e,i64.wrap (h+1),c⟩ a d (υ z) (w1 z)
  refine Æ<|g'<|g'<|H'<|Ë ⟨e,c⟩ ⟨a,d⟩ (f1 z) (wk ln)
 rintro⟨k,g⟩ ⟨a,s⟩
 refine a'<|sr<|δ z<|θ z<|m' (Μ a z z)
theorem KL{l i h r}(a:(BE l).ο r):ä prog 195 #[ε i l h] (λG=>sl n' G i h l) (λG v=>v = .int .u8 r):=by
 refine E' (args:=[_]) (N:=20) func195 z z z (λs g x o=>?_)
 have k:=o
 refine sr<|ς z<|nr<|θ z<|c'<|sr<|θ z<|Z' (X:=Int×Int×Mem) a (λ⟨d,m,e⟩=>⟨(d,m),[(0,ε i l h),(3,.int .u8 d),(4,i' m)],Mem.le g e,St s g e []⟩) (λ(⟨f,j⟩:Int×Mem)=>⟨f,[(3,.int .u8 f)],Mem.le g j,St s g j []⟩) ⟨0,0,g⟩ z (υ z) mr (wk ln) ?_ ?_
 .rintro _ ⟨d,m,e⟩ c a
  refine c'<|sr<|δ z<|δ z<|γ (N' F' (k.mono c) z)<|Ï z<|nx<|J' a z (λt a=>?_) (λt a=>?_)
  .refine o'<|a'<|c'<|V'<|p'<|δ z<|δ z<|δ z<|oE a λy n a=>γ (X' F' jA (k.mono c) z z n)<|γ (lV z)<|γ (jC _ iL z (M' _ _ _) (sO (R' (pP (mi (Á k n))) c)))<|oE a λq p a=>I' z z (x' GN z) (gf' p) z (trivial)<|γ (Y0.or z z)<|ς z<|q'<|A'<|a'<|p'<|δ z<|é z<|ς z<|q'<|K' ⟨u8.wrap (BitVec.ofInt u8.bits d ||| BitVec.ofInt u8.bits q).toNat,i64.wrap (m+1),e⟩ a c (υ z) (wk ln)
  refine Æ<|g'<|g'<|H'<|Ë ⟨d,e⟩ ⟨a,c⟩ (f1 z) (wk ln)
 rintro⟨f,j⟩ ⟨a,u⟩
 refine a'<|sr<|δ z<|θ z<|m' (Μ a z z)
theorem gA'{s m c d h g e f r}(a:(Jr s m).ο r):ä prog 132 #[.agg ((Ρ s c d h g e f)).toArray,i' m] (λG=>od G c d h g e f s) (λG v=>v = .bool r):=by
 refine E' (args:=[_,_]) (N:=45) func132 z z z (λA t ab F=>?_)
 obtain⟨J,l,k⟩:=F
 refine sr<|ý 2 z z z λu=>θ z<|c'<|sr<|θ z<|Z' (X:=Int×Mem) a (λ⟨y,q⟩=>⟨y,[(1,i' m),(2,Τ u),(5,i' y)],Mem.le t q,St A t q [(2,Ξ u (Ρ s c d h g e f) 29)]⟩) (λ(H:Mem)=>match H with|n=>⟨(.inr ()),[(1,i' m),(2,Τ u)],Mem.le t n,St A t n [(2,Ξ u (Ρ s c d h g e f) 29)]⟩) ⟨0,t⟩ z (υ z) mr (w1 z) ?_ ?_
 .rintro _ ⟨y,q⟩ j a
  refine c'<|sr<|δ z<|γ (mf z)<|γ (f' 2 jV z z z)<|γ (N' jG (l.mono j) z)<|Ï z<|nx<|J' a z (λT a=>?_) (λT a=>?_)
  .refine o'<|a'<|c'<|V'<|sr<|γ (mf z)<|γ (f' 2 jV z z z)<|δ z<|oE a λx2 C a=>γ (X' jG ng (l.mono j) z z C)<|γ (sN z) ?_
   obtain⟨p2,Y,Q,S⟩:=qA (R' (pP (mi (Á l C))) j)
   refine γ (il ij z (Q))<|oE a λW E a=>I' z z (x' xq z) (KL E) z (S)<|γ (jF pJ nQ z)<|δ z<|oA a λK a=>γ (uR z z K)<|γ (oI z z (by decide))<|γ (iI z z)<|nx<|J' a z (λO a=>?_) (λO a=>?_)
   .refine sr<|θ z<|m'<|B'<|b'<|b'<|B'<|jl<|b' (Μ a z z)
   refine o'<|A'<|a'<|p'<|δ z<|é z<|ς z<|q'<|K' ⟨i64.wrap (y+1),q⟩ a j (υ z) (w1 z)
  refine Æ<|g'<|g'<|H'<|Ë q ⟨a,j⟩ (υ z) (w1 z)
 rintro n ⟨a,o⟩
 refine a'<|c'<|sr<|θ z<|Z' (X:=Int×Mem) a (λ⟨B,p⟩=>⟨B,[(1,i' m),(2,Τ u),(6,i' B)],Mem.le n p,St A t p [(2,Ξ u (Ρ s c d h g e f) 29)]⟩) (λ(H:Mem)=>match H with|x=>⟨(.inr ()),[],Mem.le n x,St A t x []⟩) ⟨0,n⟩ z (υ z) mr (w1 z) ?_ ?_
 .rintro _ ⟨B,p⟩ i a
  refine c'<|sr<|δ z<|γ (mN z)<|γ (f' 2 jV z z z)<|γ (N' jG (k.mono (mx o i)) z)<|Ï z<|nx<|J' a z (λU a=>?_) (λU a=>?_)
  .refine o'<|a'<|c'<|V'<|sr<|γ (mN z)<|γ (f' 2 jV z z z)<|δ z<|oE a λx1 D a=>γ (X' jG ng (k.mono (mx o i)) z z D)<|γ (sN z) ?_
   obtain⟨p1,w,L,R⟩:=qA (R' (pP (mi (Á k D))) (mx o i))
   refine γ (il ij z (L))<|oE a λZ I a=>I' z z (x' xq z) (KL I) z (R)<|γ (jF pJ nQ z)<|δ z<|oA a λM a=>γ (uR z z M)<|γ (oI z z (by decide))<|γ (iI z z)<|nx<|J' a z (λP a=>?_) (λP a=>?_)
   .refine sr<|θ z<|m'<|B'<|b'<|b'<|B'<|jl<|b' (Μ a z z)
   refine o'<|A'<|a'<|p'<|δ z<|é z<|ς z<|q'<|K' ⟨i64.wrap (B+1),p⟩ a i (υ z) (w1 z)
  refine Æ<|g'<|g'<|H'<|Ë p ⟨a,i⟩ fn (wk ln)
 rintro x ⟨a,V⟩
 refine a'<|sr<|θ z<|m' (Μ a z z)
theorem Cc{l g j i r}(a:(xU l g).ο r):ä prog 136 #[ε j l i,i' g] (λG=>sl j' G j i l) (λG v=>v=i' r):=by
 refine E' (args:=[_,_]) (N:=20) func136 z z z (λp f u n=>?_)
 have e:=n
 refine sr<|θ z<|c'<|sr<|θ z<|Z' (X:=Int×Mem) a (λ⟨k,d⟩=>⟨k,[(0,ε j l i),(1,i' g),(5,i' k)],Mem.le f d,St p f d []⟩) (λ(t:Mem)=>match t with|h=>⟨(.inr ()),[],Mem.le f h,St p f h []⟩) ⟨0,f⟩ z (υ z) mr (wk ln) ?_ ?_
 .rintro _ ⟨k,d⟩ c a
  refine c'<|sr<|δ z<|δ z<|γ (N' jG (e.mono c) z)<|Ï z<|nx<|J' a z (λq a=>?_) (λq a=>?_)
  .refine o'<|a'<|c'<|V'<|sr<|δ z<|δ z<|oE a λx m a=>γ (X' jG ng (e.mono c) z z m)<|γ (oY z)<|γ (il ñ z (lH (R' (qO (mi (Á e m))) c)))<|δ z<|γ (iI z z)<|nx<|J' a z (λo a=>?_) (λo a=>?_)
   .refine sr<|δ z<|θ z<|m'<|B'<|b'<|b'<|B'<|jl<|b' (Μ a z z)
   refine o'<|A'<|a'<|p'<|δ z<|é z<|ς z<|q'<|K' ⟨i64.wrap (k+1),d⟩ a c (υ z) (wk ln)
  refine Æ<|g'<|g'<|H'<|Ë d ⟨a,c⟩ fn (wk ln)
 rintro h ⟨a,s⟩
 refine a'<|sr<|θ z<|m' (Μ a z z)
theorem Sp{k l c d h g e f r}(a:(EZ k l).ο r):ä prog 196 #[.agg ((Ρ k c d h g e f)).toArray,i' l] (λG=>od G c d h g e f k) (λG v=>v = .bool r):=by
 refine E' (args:=[_,_]) (N:=17) func196 z z z (λA y u n=>?_)
 obtain⟨p,j,i⟩:=n
 refine sr<|ý 2 z z z λx=>ς z<|nr<|γ (mf z)<|γ (f' 2 jV z z z)<|δ z<|oE a λt o a=>I' z z (x' sW z) (Cc o) z (j)<|eZ a z (kO z z) z (λq a=>?_) (λq a=>?_)
 .refine δ z<|pd z<|Δ z<|θ z<|m' (Μ a z z)
 refine δ z<|gy z z (mN z) z<|gy z z (f' 2 jV z z z) z<|Â z<|oE a λs m a=>I' (W' z z) z (x' sW z) (Cc m) z (i)<|gy z z (kO z z) z<|Γ z<|θ z<|m' (Μ a z z)
theorem SC{g e d r}(a:(Iz g).ο r):ä prog 283 #[.agg ((ι g e d)).toArray] (λG=>sl (Rp.int .u32) G e d g.Α) (λG v=>v = .bool r):=by
 refine E' (args:=[_]) (N:=19) func283 z z z (λl n j h=>?_)
 have c:=h
 refine sr<|ý 1 z z z λk=>ς z<|nr<|γ (jk z)<|γ (f' 1 jm z z z)<|γ (N' t' c z)<|θ z<|c'<|sr<|δ z<|γ (iI z z)<|nx<|J' a z (λi a=>?_) (λi a=>?_)
 .refine sr<|γ (mM z)<|γ (f' 1 kX z z z)<|γ (gP z)<|θ z<|m'<|b' (Μ a z z)
 refine o'<|a'<|sr<|γ (jk z)<|γ (f' 1 jm z z z)<|δ z<|γ (nU z z)<|oE a λm f a=>γ (X' t' kz c z z f)<|γ (il nD z (lH (Á c f)))<|γ (ly z z)<|θ z<|m' (Μ a z z)
theorem gL'{q k h f g e r}(a:(Q6 q k).ο r):ä prog 284 #[.agg ((ι q h f)).toArray,.agg ((ι k g e)).toArray] (λG=>sl (Rp.int .u32) G h f q.Α/\sl (Rp.int .u32) G g e k.Α) (λG v=>v=i' r):=by
 refine E' (args:=[_,_]) (N:=31) func284 z z z (λU T Q p=>?_)
 obtain⟨c,d⟩:=p
 refine sr<|ý 2 z z z λV=>ý 3 z z z λS=>θ z<|c'<|sr<|γ (mM z)<|eZ a z (oM (f' 2 kX z z z) (ć Value.bool (nu _))) z (λE a=>?_) (λE a=>?_)
 .refine δ z<|gy z z (mM z) z<|gy z z (f' 3 kX z z z) z<|gy z z (gP z) z<|Δ z<|nx<|iC a z (λx a=>?_) (λx a=>?_)
  .refine sr<|θ z<|m'<|b' (Μ a z z)
  refine o'<|a'<|c'<|sr<|γ (mM z)<|eZ a z (oM (f' 2 kX z z z) (ć Value.bool (nu _))) z (λC a=>?_) (λC a=>?_)
  .refine γ (gP z)<|δ z<|lk z<|Γ z<|nx<|lJ z<|o'<|a'<|c'<|sr<|γ (mM z)<|γ (f' 2 kX z z z)<|nx<|iC a z (λB a=>?_) (λB a=>?_)
   .refine sr<|γ (jk z)<|γ (f' 3 jm z z z)<|γ (jk z)<|γ (f' 2 jm z z z)<|oE a λL t a=>I' z z (x' oW z) (uM t) z (⟨d,c⟩)<|θ z<|m'<|b' (Μ a z z)
   refine o'<|a'<|sr<|γ (jk z)<|γ (f' 2 jm z z z)<|γ (jk z)<|γ (f' 3 jm z z z)<|oE a λI i a=>I' z z (x' oW z) (uM i) z (⟨c,d⟩)<|θ z<|m' (Μ a z z)
  refine γ (gP z)<|δ z<|gy z z (mM z) z<|gy z z (f' 3 kX z z z) z<|Δ z<|nx<|iC a z (λH a=>?_) (λH a=>?_)
  .refine sr<|θ z<|m'<|b' (Μ a z z)
  refine o'<|a'<|c'<|sr<|γ (mM z)<|γ (f' 2 kX z z z)<|nx<|iC a z (λy a=>?_) (λy a=>?_)
  .refine sr<|γ (jk z)<|γ (f' 3 jm z z z)<|γ (jk z)<|γ (f' 2 jm z z z)<|oE a λP n a=>I' z z (x' oW z) (uM n) z (⟨d,c⟩)<|θ z<|m'<|b' (Μ a z z)
  refine o'<|a'<|sr<|γ (jk z)<|γ (f' 2 jm z z z)<|γ (jk z)<|γ (f' 3 jm z z z)<|oE a λK l a=>I' z z (x' oW z) (uM l) z (⟨c,d⟩)<|θ z<|m' (Μ a z z)
 refine δ z<|lu z<|Γ z<|nx<|lJ z<|o'<|a'<|c'<|sr<|γ (mM z)<|eZ a z (oM (f' 2 kX z z z) (ć Value.bool (nu _))) z (λF a=>?_) (λF a=>?_)
 .refine γ (gP z)<|δ z<|lk z<|Γ z<|nx<|lJ z<|o'<|a'<|c'<|sr<|γ (mM z)<|γ (f' 2 kX z z z)<|nx<|iC a z (λu a=>?_) (λu a=>?_)
  .refine sr<|γ (jk z)<|γ (f' 3 jm z z z)<|γ (jk z)<|γ (f' 2 jm z z z)<|oE a λM j a=>I' z z (x' oW z) (uM j) z (⟨d,c⟩)<|θ z<|m'<|b' (Μ a z z)
  refine o'<|a'<|sr<|γ (jk z)<|γ (f' 2 jm z z z)<|γ (jk z)<|γ (f' 3 jm z z z)<|oE a λO m a=>I' z z (x' oW z) (uM m) z (⟨c,d⟩)<|θ z<|m' (Μ a z z)
 refine γ (gP z)<|δ z<|gy z z (mM z) z<|gy z z (f' 3 kX z z z) z<|Δ z<|nx<|iC a z (λD a=>?_) (λD a=>?_)
 .refine sr<|θ z<|m'<|b' (Μ a z z)
 refine o'<|a'<|c'<|sr<|γ (mM z)<|γ (f' 2 kX z z z)<|nx<|iC a z (λA a=>?_) (λA a=>?_)
 .refine sr<|γ (jk z)<|γ (f' 3 jm z z z)<|γ (jk z)<|γ (f' 2 jm z z z)<|oE a λR o a=>I' z z (x' oW z) (uM o) z (⟨d,c⟩)<|θ z<|m'<|b' (Μ a z z)
 refine o'<|a'<|sr<|γ (jk z)<|γ (f' 2 jm z z z)<|γ (jk z)<|γ (f' 3 jm z z z)<|oE a λJ s a=>I' z z (x' oW z) (uM s) z (⟨c,d⟩)<|θ z<|m' (Μ a z z)
theorem gt'{g f e d c r}(a:(D7 g).ο r):ä prog 267 #[.agg ((χ g f e d c)).toArray] (λG=>sl (Rp.int .u32) G f e g.num.Α/\sl (Rp.int .u32) G d c g.den.Α) (λG v=>v = .bool r):=by
 refine E' (args:=[_]) (N:=27) func267 z z z (λO y X A=>?_)
 obtain⟨i,h⟩:=A
 refine sr<|ý 1 z z z λH=>θ z<|k5 a (λ(P:Mem)=>match P with|o=>⟨[(1,Τ H)],M6 g,Mem.le y o,St O y o [(1,Ξ H (χ g f e d c) 97)]⟩) ?_ ?_
 .refine sr<|γ (pn z)<|γ (gZ ((ι g.num f e)).toArray 1 Ò z z z (hC ([]) ((ι g.num f e)) ((ι g.den d c))))<|oE a λI t a=>I' z z (x' AB z) (SC t) z (i) ?_
  cases I
  .refine γ (gP z)<|δ z<|ke z<|Δ z<|δ z<|ke z<|Δ z<|nx<|iS z<|sr<|θ z<|m'<|b' (Μ a z z)
  refine γ (gP z)<|δ z<|gy z z (oy z) z<|gy z z (gZ ((ι g.den d c)).toArray 1 Ò z z z (hC ((ι g.num f e)) ((ι g.den d c)) ([]))) z<|oE a λJ s a=>I' (W' z z) z (x' AB z) (SC s) z (h) ?_
  cases J
  .refine gy z z (gP z) z<|Γ z<|δ z<|ke z<|Δ z<|nx<|iS z<|sr<|θ z<|m'<|b' (Μ a z z)
  refine gy z z (gP z) z<|Γ z<|δ z<|gy z z (oy z) z<|gy z z (gZ ((ι g.den d c)).toArray 1 Ò z z z (hC ((ι g.num f e)) ((ι g.den d c)) ([]))) z<|oE a λU u a=>I' (W' z z) z (x' xg z) (KK u) z (h)<|gy z z (nb z z) z<|Γ z<|nx<|J' a z (λK a=>?_) (λK a=>?_)
  .exact (show False from a).elim
  refine o'<|ia y ⟨a,mr⟩ (f1 z) (w1 z)
 rintro o ⟨a,j⟩
 refine sr<|γ (pn z)<|γ (gZ ((ι g.num f e)).toArray 1 Ò z z z (hC ([]) ((ι g.num f e)) ((ι g.den d c))))<|γ (oy z)<|γ (gZ ((ι g.den d c)).toArray 1 Ò z z z (hC ((ι g.num f e)) ((ι g.den d c)) ([])))<|oE a λT B a=>U' z z (x' Ao z) (Sm B) z (⟨(i.mono j),(h.mono j)⟩) (λM R L k=>?_)
 obtain⟨C,D,rfl,m⟩:=k
 refine oE a λS q a=>U' z z (x' Hd z) (K4 q) z (trivial) (λQ W p n=>?_)
 obtain⟨F,E,rfl,l⟩:=n
 refine oE a λV x a=>I' z z (x' G5 z) (gL' x) z (⟨(m.mono p),l⟩)<|γ (iI z z)<|θ z<|m' (Μ a z z)
theorem gu'{q o n r}(a:(IE q).ο r):ä prog 236 #[ε o q n] (λG=>sl n' G o n q) (λG v=>v = .bool r):=by
 refine E' (args:=[_]) (N:=52) func236 z z z (λO p ag P=>?_)
 have e:=P
 refine sr<|θ z<|c'<|sr<|θ z<|Z' (X:=Int×Mem) a (λ⟨m,g⟩=>⟨m,[(0,ε o q n),(3,i' m)],Mem.le p g,St O p g []⟩) (λ(Q:Mem)=>match Q with|s=>⟨(.inr ()),[],Mem.le p s,St O p s []⟩) ⟨0,p⟩ z (υ z) mr (wk ln) ?_ ?_
 .rintro _ ⟨m,g⟩ c a
  refine c'<|sr<|δ z<|δ z<|γ (N' F' (e.mono c) z)<|Ï z<|nx<|J' a z (λab a=>?_) (λab a=>?_)
  .refine o'<|a'<|c'<|V'<|k5 a (λ(Q:Mem)=>match Q with|i=>⟨[(0,ε o q n),(3,i' m)],DJ q m,Mem.le g i,St O p i []⟩) ?_ ?_
   .refine sr<|δ z<|δ z<|oE a λx3 t a=>γ (X' F' jA (e.mono c) z z t)<|γ (oq z) ?_
    obtain⟨I,D,F,y,W,j,k⟩:=wI (R' (qO (mi (Á e t))) c)
    refine γ (jC _ kf z z W)<|oE a λT K a=>I' z z (x' GW z) (gt' K) z (⟨j,k⟩) ?_
    cases T
    .refine γ (gP z)<|δ z<|yM z<|Δ z<|δ z<|yM z<|Δ z<|nx<|iS z<|sr<|θ z<|m'<|b'<|B'<|b'<|b'<|B'<|jl<|b' (Μ a z z)
    refine γ (gP z)<|δ z<|Â z<|Â z<|oE a λx4 C a=>gy z z (X' F' jA (e.mono c) z z C) z<|gy z z (oq z) z ?_
    obtain⟨A,J,u,B,S,h,l⟩:=wI (R' (qO (mi (Á e C))) c)
    refine gy z z (jC _ kf z z S) z<|oE a λaf M a=>I' (W' z z) z (x' Dh z) (FN M) z (⟨h,l⟩)<|eZ a (W' z z) (iI z z) z (λY a=>?_) (λY a=>?_)
    .refine Γ z<|δ z<|yM z<|Δ z<|nx<|iS z<|sr<|θ z<|m'<|b'<|B'<|b'<|b'<|B'<|jl<|b' (Μ a z z)
    refine Γ z<|δ z<|Â z<|Â z<|oE a λx5 H a=>gy z z (X' F' jA (e.mono c) z z H) z<|gy z z (lV z) z<|gy z z (jC _ iL z (M' _ _ _) (sO (R' (pP (mi (Á e H))) c))) z<|oE a λad L a=>I' (W' z z) z (x' Ad z) (sx L) z (trivial)<|gy z z (gP z) z<|Γ z<|nx<|iC a z (λw a=>?_) (λw a=>?_)
    .refine sr<|θ z<|m'<|b'<|B'<|b'<|b'<|B'<|jl<|b' (Μ a z z)
    refine o'<|ia g ⟨a,mr⟩ (υ z) (wk ln)
   rintro i ⟨a,f⟩
   refine c'<|hZ [ff,ff,ff,ff,ff,ff,ff,ff,ff,ff,ff,ff,ff,ff] gp (by kernel_rfl) λU=>ù z<|su a z (λ_ d=>kr z z) (λZ a=>?_) (λZ a=>?_)
   .refine ù z<|cy z z (λ_ d=>h' z)<|cy z z (λ_ d=>h' z)<|cy z z (λ_ d=>nU z z)<|oE a λx1 E a=>cy z z (λ_ d=>X' F' jA ((e.mono (mx c f)).mono d) z z E)<|cy z z (λ_ d=>lV z)<|cy z z (λ_ d=>jC _ iL z (M' _ _ _) (sO (R' (R' (pP (mi (Á e E))) (mx c f)) d)))<|cy z z (λ_ d=>h' z)<|cy z z (λ_ d=>h' z)<|oE a λx2 x a=>cy z z (λ_ d=>X' F' jA ((e.mono (mx c f)).mono d) z z x)<|cy z z (λ_ d=>lV z)<|cy z z (λ_ d=>jC _ iL z (M' _ _ _) (sO (R' (R' (pP (mi (Á e x))) (mx c f)) d)))<|jz U<|oE a λae R a=>I' (W' z z) z (x' xr z) (K6 R) z (trivial)<|gy z z (oo z z) z<|Δ z<|q'<|fh<|a'<|J' a z (λV a=>?_) (λV a=>?_)
    .exact (show False from a).elim
    refine o'<|A'<|a'<|p'<|δ z<|é z<|ς z<|q'<|K' ⟨i64.wrap (m+1),i⟩ a (mx c f) (υ z) (wk ln)
   refine ù z<|ct z z<|ct z z<|ct z z<|ct z z<|ct z z<|ct z z<|ct z z<|ct z z<|ct z z<|ct z z<|ct z z<|jz U<|lk z<|Γ z<|q'<|fh<|a'<|lJ z<|o'<|A'<|a'<|p'<|δ z<|é z<|ς z<|q'<|K' ⟨i64.wrap (m+1),i⟩ a (mx c f) (υ z) (wk ln)
  refine Æ<|g'<|g'<|H'<|Ë g ⟨a,c⟩ fn (wk ln)
 rintro s ⟨a,ac⟩
 refine a'<|sr<|θ z<|m' (Μ a z z)
theorem gl'{i r}(a:(Io i).ο r):ä prog 268 #[.agg (Ι i).toArray] (λG=>True) (λG v=>v=i' r):=by
 refine E' (args:=[_]) (N:=15) func268 z z z λm h q p=>sr<|ý 1 z z z λl=>ς z<|nr<|θ z<|c'<|sr<|θ z<|Z' (X:=Int×Int×Mem) a (λ⟨f,e,c⟩=>⟨(f,e),[(1,Τ l),(3,i' f),(4,i' e)],Mem.le h c,St m h c [(1,Ξ l (Ι i) 99)]⟩) (λ(⟨k,g⟩:Int×Mem)=>⟨k,[(3,i' k)],Mem.le h g,St m h g []⟩) ⟨0,0,h⟩ z (υ z) mr (w1 z) ?_ ?_
 .rintro _ ⟨f,e,c⟩ d a
  refine c'<|sr<|δ z<|Ï z<|nx<|J' a z (λn a=>?_) (λn a=>?_)
  .refine o'<|a'<|c'<|V'<|p'<|δ z<|δ z<|oA a λj a=>γ (k0 lK gh z z j)<|γ (f' 1 ñ z z (mh _ _ _ j))<|é z<|ς z<|q'<|A'<|a'<|p'<|δ z<|é z<|ς z<|q'<|K' ⟨i64.wrap (f+(Κ i e)),i64.wrap (e+1),c⟩ a d (υ z) (w1 z)
  refine Æ<|g'<|g'<|H'<|Ë ⟨f,c⟩ ⟨a,d⟩ (f1 z) (wk ln)
 rintro⟨k,g⟩ ⟨a,o⟩
 refine a'<|sr<|δ z<|θ z<|m' (Μ a z z)
theorem gm'{k h g r}(a:(Iq k).ο r):ä prog 237 #[ε h k g] (λG=>sl n' G h g k) (λG v=>v=i' r):=by
 refine E' (args:=[_]) (N:=20) func237 z z z (λs f x p=>?_)
 have j:=p
 refine sr<|ς z<|nr<|θ z<|c'<|sr<|θ z<|Z' (X:=Int×Int×Mem) a (λ⟨e,l,d⟩=>⟨(e,l),[(0,ε h k g),(3,i' e),(4,i' l)],Mem.le f d,St s f d []⟩) (λ(⟨o,i⟩:Int×Mem)=>⟨o,[(3,i' o)],Mem.le f i,St s f i []⟩) ⟨(-1),0,f⟩ z (υ z) mr (wk ln) ?_ ?_
 .rintro _ ⟨e,l,d⟩ c a
  refine c'<|sr<|δ z<|δ z<|γ (N' F' (j.mono c) z)<|Ï z<|nx<|J' a z (λt a=>?_) (λt a=>?_)
  .refine o'<|a'<|c'<|V'<|p'<|δ z<|δ z<|δ z<|oE a λy n a=>γ (X' F' jA (j.mono c) z z n)<|γ (lV z)<|γ (jC _ iL z (M' _ _ _) (sO (R' (pP (mi (Á j n))) c)))<|oE a λm q a=>I' z z (x' GY z) (gl' q) z (trivial)<|γ (Y0.max2 z z)<|ς z<|q'<|A'<|a'<|p'<|δ z<|é z<|ς z<|q'<|K' ⟨if e<m then m else e,i64.wrap (l+1),d⟩ a c (υ z) (wk ln)
  refine Æ<|g'<|g'<|H'<|Ë ⟨e,d⟩ ⟨a,c⟩ (f1 z) (wk ln)
 rintro⟨o,i⟩ ⟨a,u⟩
 refine a'<|sr<|δ z<|θ z<|m' (Μ a z z)
theorem Sl{h m e d r}(a:(ES h m).ο r):ä prog 197 #[ε e h d,i' m] (λG=>sl n' G e d h) (λG v=>v = .bool r):=by
 refine E' (args:=[_,_]) (N:=20) func197 z z z (λt s q i=>?_)
 have c:=i
 refine sr<|ς z<|nr<|δ z<|oE a λk j a=>I' z z (x' GO z) (gu' j) z (c) ?_
 cases k
 .refine δ z<|qK z<|Γ z<|δ z<|lu z<|Γ z<|θ z<|m' (Μ a z z)
 refine δ z<|Â z<|oE a λo f a=>I' (W' z z) z (x' xq z) (KL f) z (c)<|gy z z (jF pJ nQ z) z<|Â z<|oA a λl a=>gy z z (uR z z l) z<|eZ a (W' z z) (iI z z) z (λn a=>?_) (λn a=>?_)
 .refine Δ z<|δ z<|Â z<|oE a λp g a=>I' (W' z z) z (x' GP z) (gm' g) z (c)<|gy z z (oo z z) z<|Δ z<|θ z<|m' (Μ a z z)
 refine Δ z<|δ z<|lu z<|Γ z<|θ z<|m' (Μ a z z)
theorem fU'{p n d e j i f g m l r}(a:(DL p n).ο r):ä prog 133 #[.agg ((Ρ p d e j i f g)).toArray,.agg ((kL n m l)).toArray] (λG=>sl Rp.str G d e p.vars/\sl j' G j i p.eqs/\sl j' G f g p.ζ/\sl n' G m l n.p) (λG v=>v=i' r):=by
 refine E' (args:=[_,_]) (N:=60) func133 z z z (λR t ad E=>?_)
 obtain⟨o,q,k,A⟩:=E
 refine sr<|ý 2 z z z λx=>ý 3 z z z λy=>θ z<|k5 a (λ(F:Mem)=>match F with|c=>⟨[(2,Τ x),(3,Τ y)],AU p n,Mem.le t c,St R t c [(2,Ξ x (Ρ p d e j i f g) 29),(3,Ξ y (kL n m l) 106)]⟩) ?_ ?_
 .refine sr<|γ (pL z)<|γ (f' 3 ñ z z z)<|eZ a z (nb z z) z (λD a=>?_) (λD a=>?_)
  .refine δ z<|lu z<|Δ z<|δ z<|ke z<|jD (jE z z) z<|jD (jE z z) z<|jD (jE z z) z<|jD (jE z z) z<|sf z z z<|Δ z<|nx<|iS z<|sr<|θ z<|m'<|b' (Μ a z z)
  refine δ z<|gy z z (pL z) z<|gy z z (f' 3 ñ z z z) z<|eZ a (W' z z) (kr z z) z (λC a=>?_) (λC a=>?_)
  .refine Γ z<|δ z<|ke z<|jD (jE z z) z<|jD (jE z z) z<|jD (jE z z) z<|jD (jE z z) z<|sf z z z<|Δ z<|nx<|iS z<|sr<|θ z<|m'<|b' (Μ a z z)
  refine Γ z<|δ z<|gy z z (pL z) z<|gy z z (f' 3 ñ z z z) z<|eZ a (W' z z) (kr z z) z (λH a=>?_) (λH a=>?_)
  .refine Â z<|gy z z (w' 2 ÿ z z z) z<|gy z z (pL z) z<|gy z z (f' 3 ñ z z z) z<|oE a λab B a=>I' (W' z z) z (x' Ar z) (Sp B) z (⟨o,q,k⟩)<|gy z z (C' z z) z<|Γ z<|nx<|iC a z (λW a=>?_) (λW a=>?_)
   .refine sr<|θ z<|m'<|b' (Μ a z z)
   refine o'<|ia t ⟨a,mr⟩ (υ z) (w2 z z)
  refine Â z<|ke z<|gy z z (D' z z) z<|Γ z<|nx<|lJ z<|o'<|ia t ⟨a,mr⟩ (υ z) (w2 z z)
 rintro c ⟨a,h⟩
 refine k5 a (λ(F:Mem)=>match F with|u=>⟨[(2,Τ x),(3,Τ y)],ZH p n,Mem.le c u,St R t u [(2,Ξ x (Ρ p d e j i f g) 29),(3,Ξ y (kL n m l) 106)]⟩) ?_ ?_
 .refine sr<|γ (Y0.E3 z)<|eZ a z (oM (f' 3 kX z z z) (ć Value.bool (nu _))) z (λX a=>?_) (λX a=>?_)
  .refine γ (gP z)<|δ z<|ke z<|Γ z<|δ z<|gy z z (Y0.E3 z) z<|eZ a (W' z z) (oM (f' 3 kX z z z) (ć Value.bool (nu _))) z (λS a=>?_) (λS a=>?_)
   .refine Â z<|gy z z (mN z) z<|gy z z (f' 2 jV z z z) z<|gy z z (N' jG (k.mono h) z) z<|eZ a (W' z z) (kO z z) z (λY a=>?_) (λY a=>?_)
    .refine gy z z (C' z z) z<|Γ z<|δ z<|ke z<|jD (jE z z) z<|jD (jE z z) z<|jD (jE z z) z<|sf z z z<|Δ z<|nx<|iS z<|sr<|θ z<|m'<|b' (Μ a z z)
    refine gy z z (C' z z) z<|Γ z<|δ z<|gy z z (pL z) z<|gy z z (f' 3 ñ z z z) z<|eZ a (W' z z) (iI z z) z (λV a=>?_) (λV a=>?_)
    .refine Â z<|gy z z (pq z) z<|gy z z (f' 2 ñ z z z) z<|gy z z (kO z z) z<|gy z z (C' z z) z<|Γ z<|nx<|J' a z (λQ a=>?_) (λQ a=>?_)
     .refine sr<|θ z<|m'<|b' (Μ a z z)
     refine o'<|ia c ⟨a,mr⟩ (υ z) (w2 z z)
    refine Â z<|lu z<|gy z z (D' z z) z<|Γ z<|nx<|lJ z<|o'<|ia c ⟨a,mr⟩ (υ z) (w2 z z)
   refine Â z<|ke z<|gy z z (D' z z) z<|Γ z<|δ z<|gy z z (pL z) z<|gy z z (f' 3 ñ z z z) z<|eZ a (W' z z) (iI z z) z (λO a=>?_) (λO a=>?_)
   .refine Â z<|gy z z (pq z) z<|gy z z (f' 2 ñ z z z) z<|gy z z (kO z z) z<|gy z z (C' z z) z<|Γ z<|nx<|J' a z (λZ a=>?_) (λZ a=>?_)
    .refine sr<|θ z<|m'<|b' (Μ a z z)
    refine o'<|ia c ⟨a,mr⟩ (υ z) (w2 z z)
   refine Â z<|lu z<|gy z z (D' z z) z<|Γ z<|nx<|lJ z<|o'<|ia c ⟨a,mr⟩ (υ z) (w2 z z)
  refine γ (gP z)<|δ z<|gy z z (mf z) z<|gy z z (f' 2 jV z z z) z<|gy z z (N' jG (q.mono h) z) z<|eZ a (W' z z) (kO z z) z (λL a=>?_) (λL a=>?_)
  .refine Δ z<|δ z<|lu z<|jD (jE z z) z<|jD (jE z z) z<|jD (jE z z) z<|jD (jE z z) z<|sf z z z<|Δ z<|δ z<|ke z<|jD (jE z z) z<|jD (jE z z) z<|jD (jE z z) z<|sf z z z<|Δ z<|nx<|iS z<|sr<|θ z<|m'<|b' (Μ a z z)
  refine Δ z<|δ z<|gy z z (Y0.E3 z) z<|eZ a (W' z z) (oM (f' 3 kX z z z) (ć Value.bool (nu _))) z (λT a=>?_) (λT a=>?_)
  .refine Â z<|gy z z (mN z) z<|gy z z (f' 2 jV z z z) z<|gy z z (N' jG (k.mono h) z) z<|eZ a (W' z z) (kO z z) z (λU a=>?_) (λU a=>?_)
   .refine gy z z (C' z z) z<|Γ z<|δ z<|ke z<|jD (jE z z) z<|jD (jE z z) z<|jD (jE z z) z<|sf z z z<|Δ z<|nx<|iS z<|sr<|θ z<|m'<|b' (Μ a z z)
   refine gy z z (C' z z) z<|Γ z<|δ z<|gy z z (pL z) z<|gy z z (f' 3 ñ z z z) z<|eZ a (W' z z) (iI z z) z (λM a=>?_) (λM a=>?_)
   .refine Â z<|gy z z (pq z) z<|gy z z (f' 2 ñ z z z) z<|gy z z (kO z z) z<|gy z z (C' z z) z<|Γ z<|nx<|J' a z (λP a=>?_) (λP a=>?_)
    .refine sr<|θ z<|m'<|b' (Μ a z z)
    refine o'<|ia c ⟨a,mr⟩ (υ z) (w2 z z)
   refine Â z<|lu z<|gy z z (D' z z) z<|Γ z<|nx<|lJ z<|o'<|ia c ⟨a,mr⟩ (υ z) (w2 z z)
  refine Â z<|ke z<|gy z z (D' z z) z<|Γ z<|δ z<|gy z z (pL z) z<|gy z z (f' 3 ñ z z z) z<|eZ a (W' z z) (iI z z) z (λJ a=>?_) (λJ a=>?_)
  .refine Â z<|gy z z (pq z) z<|gy z z (f' 2 ñ z z z) z<|gy z z (kO z z) z<|gy z z (C' z z) z<|Γ z<|nx<|J' a z (λK a=>?_) (λK a=>?_)
   .refine sr<|θ z<|m'<|b' (Μ a z z)
   refine o'<|ia c ⟨a,mr⟩ (υ z) (w2 z z)
  refine Â z<|lu z<|gy z z (D' z z) z<|Γ z<|nx<|lJ z<|o'<|ia c ⟨a,mr⟩ (υ z) (w2 z z)
 rintro u ⟨a,s⟩
 refine c'<|sr<|γ (Y0.E2 z)<|γ (f' 3 ij z z z)<|γ (lI z)<|γ (f' 2 lr z z z)<|γ (N' Q' (o.mono (mx h s)) z)<|oE a λac I a=>I' z z (x' As z) (Sl I) z ((A.mono (mx h s)))<|γ (gP z)<|nx<|iC a z (λw a=>?_) (λw a=>?_)
 .refine sr<|θ z<|m'<|b' (Μ a z z)
 refine o'<|a'<|sr<|θ z<|m' (Μ a z z)
theorem KU{p o d e j i f g n m r}(a:(zm p o).ο r):ä prog 134 #[.agg ((Ρ p d e j i f g)).toArray,.agg ((kL o n m)).toArray] (λG=>sl Rp.str G d e p.vars/\sl j' G j i p.eqs/\sl j' G f g p.ζ/\sl n' G n m o.p) (λG v=>v=i' r):=by
 refine E' (args:=[_,_]) (N:=51) func134 z z z (λP s U y=>?_)
 obtain⟨l,c,k,t⟩:=y
 refine sr<|ý 2 z z z λB=>ý 3 z z z λH=>θ z<|c'<|sr<|γ (w' 2 ÿ z z z)<|γ (pL z)<|γ (f' 3 ñ z z z)<|oE a λS A a=>I' z z (x' Ar z) (Sp A) z (⟨l,c,k⟩)<|γ (gP z)<|nx<|iC a z (λO a=>?_) (λO a=>?_)
 .refine sr<|θ z<|m'<|b' (Μ a z z)
 refine o'<|a'<|k5 a (λ(Q:Mem)=>match Q with|q=>⟨[(2,Τ B),(3,Τ H)],Dx p o,Mem.le s q,St P s q [(2,Ξ B (Ρ p d e j i f g) 29),(3,Ξ H (kL o n m) 106)]⟩) ?_ ?_
 .refine sr<|γ (wJ z)<|γ (f' 3 ñ z z z)<|eZ a z (iI z z) z (λC a=>?_) (λC a=>?_)
  .refine δ z<|gy z z (Y0.E2 z) z<|gy z z (f' 3 ij z z z) z<|gy z z (lI z) z<|gy z z (f' 2 lr z z z) z<|gy z z (N' Q' l z) z<|oE a λT x a=>I' (W' z z) z (x' As z) (Sl x) z (t)<|gy z z (gP z) z<|Δ z<|nx<|iC a z (λE a=>?_) (λE a=>?_)
   .refine sr<|θ z<|m'<|b' (Μ a z z)
   refine o'<|ia s ⟨a,mr⟩ (υ z) (w2 z z)
  refine δ z<|yM z<|Γ z<|nx<|lJ z<|o'<|ia s ⟨a,mr⟩ (υ z) (w2 z z)
 rintro q ⟨a,h⟩
 refine sr<|γ (mf z)<|γ (f' 2 jV z z z)<|γ (pL z)<|γ (f' 3 ñ z z z)<|oE a λR u a=>I' z z (x' sW z) (Cc u) z ((c.mono h))<|γ (kO z z)<|θ z<|c'<|sr<|γ (wJ z)<|γ (f' 3 ñ z z z)<|eZ a z (iI z z) z (λK a=>?_) (λK a=>?_)
 .refine δ z<|eZ a (W' z z) (h' z) z (λI a=>?_) (λI a=>?_)
  .refine Â z<|gy z z (mN z) z<|gy z z (f' 2 jV z z z) z<|gy z z (N' jG (k.mono h) z) z<|eZ a (W' z z) (kO z z) z (λL a=>?_) (λL a=>?_)
   .refine gy z z (C' z z) z<|Â z<|lu z<|jD (jE z z) z<|jD (jE z z) z<|jD (jE z z) z<|jD (jE z z) z<|sf z z z<|gy z z (C' z z) z<|Δ z<|nx<|iS z<|sr<|θ z<|m'<|b' (Μ a z z)
   refine gy z z (C' z z) z<|Â z<|eZ a (W' z z) (h' z) z (λJ a=>?_) (λJ a=>?_)
   .refine gy z z (gP z) z<|Â z<|ke z<|gy z z (D' z z) z<|gy z z (D' z z) z<|Δ z<|nx<|lJ z<|o'<|a'<|sr<|θ z<|m' (Μ a z z)
   refine gy z z (gP z) z<|Â z<|gy z z (mf z) z<|gy z z (f' 2 jV z z z) z<|gy z z (N' jG (c.mono h) z) z<|gy z z (kO z z) z<|gy z z (C' z z) z<|gy z z (D' z z) z<|Δ z<|nx<|J' a z (λF a=>?_) (λF a=>?_)
   .refine sr<|θ z<|m'<|b' (Μ a z z)
   refine o'<|a'<|sr<|θ z<|m' (Μ a z z)
  refine Â z<|ke z<|gy z z (D' z z) z<|Â z<|eZ a (W' z z) (h' z) z (λD a=>?_) (λD a=>?_)
  .refine gy z z (gP z) z<|Â z<|ke z<|gy z z (D' z z) z<|gy z z (D' z z) z<|Δ z<|nx<|lJ z<|o'<|a'<|sr<|θ z<|m' (Μ a z z)
  refine gy z z (gP z) z<|Â z<|gy z z (mf z) z<|gy z z (f' 2 jV z z z) z<|gy z z (N' jG (c.mono h) z) z<|gy z z (kO z z) z<|gy z z (C' z z) z<|gy z z (D' z z) z<|Δ z<|nx<|J' a z (λM a=>?_) (λM a=>?_)
  .refine sr<|θ z<|m'<|b' (Μ a z z)
  refine o'<|a'<|sr<|θ z<|m' (Μ a z z)
 refine δ z<|lk z<|jD (jE z z) z<|jD (jE z z) z<|jD (jE z z) z<|jD (jE z z) z<|lk z<|jD (jE z z) z<|jD (jE z z) z<|jD (jE z z) z<|jD (jE z z) z<|jD (jE z z) z<|jD (jE z z) z<|jD (jE z z) z<|jD (jE z z) z<|sk z z z<|Γ z<|nx<|lJ z<|o'<|a'<|sr<|θ z<|m' (Μ a z z)
theorem gv'{m p h g l k j i o n r}(a:(Ea m p).ο r):ä prog 77 #[.agg ((Ρ m h g l k j i)).toArray,.agg ((kL p o n)).toArray] (λG=>sl Rp.str G h g m.vars/\sl j' G l k m.eqs/\sl j' G j i m.ζ/\sl n' G o n p.p) (λG v=>v=i' r):=by
 refine E' (args:=[_,_]) (N:=98) func77 z z z (λw0 G0 aq O=>?_)
 obtain⟨c,e,d,f⟩:=O
 refine sr<|ý 2 z z z λb1=>ý 3 z z z λb2=>ς z<|nr<|γ (lI z)<|γ (f' 2 lr z z z)<|γ (N' Q' c z)<|θ z<|c'<|sr<|γ (wJ z)<|γ (f' 3 ñ z z z)<|nx<|V'<|sr<|γ (iI z z)<|θ z<|J' a z (λY a=>?_) (λY a=>?_)
 .refine c'<|sr<|δ z<|γ (kO z z)<|nx<|J' a z (λac a=>?_) (λac a=>?_)
  .refine sr<|θ z<|m'<|b'<|B'<|b' (Μ a z z)
  refine o'<|a'<|c'<|sr<|γ (pk z)<|γ (f' 3 ñ z z z)<|eZ a z (nb z z) z (λaf a=>?_) (λaf a=>?_)
  .refine δ z<|ke z<|Δ z<|nx<|iS z<|sr<|θ z<|m'<|b'<|B'<|b' (Μ a z z)
  refine δ z<|gy z z (pk z) z<|gy z z (f' 3 ñ z z z) z<|Â z<|gy z z (kr z z) z<|Γ z<|nx<|J' a z (λT a=>?_) (λT a=>?_)
  .refine sr<|θ z<|m'<|b'<|B'<|b' (Μ a z z)
  refine o'<|a'<|c'<|sr<|γ (zU z)<|γ (f' 3 ou z z z)<|oE a λX S a=>I' z z (x' Af z) (Sk S) z (trivial) ?_
  cases X
  .refine γ (gP z)<|δ z<|pd z<|Δ z<|nx<|iS z<|sr<|θ z<|m'<|b'<|B'<|b' (Μ a z z)
  refine γ (gP z)<|δ z<|gy z z (w' 2 ÿ z z z) z<|gy z z (zU z) z<|gy z z (f' 3 ou z z z) z<|oE a λal x a=>I' (W' z z) z (x' Ag z) (SB x) z (⟨c,e,d⟩)<|gy z z (kO z z) z<|Γ z<|nx<|J' a z (λZ a=>?_) (λZ a=>?_)
  .refine sr<|θ z<|m'<|b'<|B'<|b' (Μ a z z)
  refine o'<|a'<|sr<|θ z<|m'<|B'<|b' (Μ a z z)
 refine sr<|γ (iI z z)<|θ z<|J' a z (λV a=>?_) (λV a=>?_)
 .refine c'<|sr<|γ (w' 2 ÿ z z z)<|γ (pk z)<|γ (f' 3 ñ z z z)<|oE a λap D a=>I' z z (x' uX z) (FI D) z (⟨c,e,d⟩)<|γ (gP z)<|nx<|iC a z (λag a=>?_) (λag a=>?_)
  .refine sr<|θ z<|m'<|b'<|B'<|b' (Μ a z z)
  refine o'<|a'<|c'<|sr<|γ (w' 2 ÿ z z z)<|γ (pk z)<|γ (f' 3 ñ z z z)<|oE a λam A a=>I' z z (x' Ga z) (gA' A) z (⟨c,e,d⟩)<|nx<|iC a z (λab a=>?_) (λab a=>?_)
  .refine sr<|θ z<|m'<|b'<|B'<|b' (Μ a z z)
  refine o'<|a'<|sr<|θ z<|m'<|B'<|b' (Μ a z z)
 refine sr<|γ (iI z z)<|θ z<|J' a z (λad a=>?_) (λad a=>?_)
 .refine c'<|sr<|γ (w' 2 ÿ z z z)<|γ (pk z)<|γ (f' 3 ñ z z z)<|oE a λan y a=>I' z z (x' uX z) (FI y) z (⟨c,e,d⟩)<|γ (gP z)<|nx<|iC a z (λw a=>?_) (λw a=>?_)
  .refine sr<|θ z<|m'<|b'<|B'<|b' (Μ a z z)
  refine o'<|a'<|sr<|γ (w' 2 ÿ z z z)<|γ (zU z)<|γ (f' 3 ou z z z)<|oE a λao B a=>I' z z (x' Ag z) (SB B) z (⟨c,e,d⟩)<|θ z<|c'<|sr<|γ (zU z)<|γ (f' 3 ou z z z)<|oE a λW J a=>I' z z (x' Af z) (Sk J) z (trivial) ?_
  cases W
  .refine γ (gP z)<|δ z<|lu z<|jD (jE z z) z<|jD (jE z z) z<|jD (jE z z) z<|jD (jE z z) z<|sf z z z<|Δ z<|nx<|iS z<|sr<|θ z<|m'<|b'<|B'<|b' (Μ a z z)
  refine γ (gP z)<|δ z<|Â z<|eZ a (W' z z) (kO z z) z (λae a=>?_) (λae a=>?_)
  .refine Â z<|Â z<|gy z z (pk z) z<|gy z z (f' 3 ñ z z z) z<|gy z z (ly z z) z<|gy z z (C' z z) z<|Γ z<|nx<|J' a z (λM a=>?_) (λM a=>?_)
   .refine sr<|θ z<|m'<|b'<|B'<|b' (Μ a z z)
   refine o'<|a'<|sr<|θ z<|m'<|B'<|b' (Μ a z z)
  refine Â z<|ke z<|gy z z (D' z z) z<|Γ z<|nx<|lJ z<|o'<|a'<|sr<|θ z<|m'<|B'<|b' (Μ a z z)
 refine sr<|γ (iI z z)<|θ z<|J' a z (λK a=>?_) (λK a=>?_)
 .refine c'<|sr<|γ (w' 2 ÿ z z z)<|γ (pk z)<|γ (f' 3 ñ z z z)<|oE a λU Q a=>I' z z (x' uX z) (FI Q) z (⟨c,e,d⟩) ?_
  cases U
  .refine γ (gP z)<|δ z<|pd z<|Δ z<|nx<|iS z<|sr<|θ z<|m'<|b'<|B'<|b' (Μ a z z)
  refine γ (gP z)<|δ z<|gy z z (w' 2 ÿ z z z) z<|gy z z (Cy z) z<|gy z z (f' 3 ñ z z z) z<|oE a λar R a=>I' (W' z z) z (x' uX z) (FI R) z (⟨c,e,d⟩)<|gy z z (gP z) z<|Γ z<|nx<|iC a z (λP a=>?_) (λP a=>?_)
  .refine sr<|θ z<|m'<|b'<|B'<|b' (Μ a z z)
  refine o'<|a'<|sr<|θ z<|m'<|B'<|b' (Μ a z z)
 refine sr<|γ (iI z z)<|θ z<|J' a z (λI a=>?_) (λI a=>?_)
 .refine sr<|γ (w' 2 ÿ z z z)<|γ (w' 3 mg z z z)<|oE a λai q a=>I' z z (x' Gb z) (fU' q) z (⟨c,e,d,f⟩)<|θ z<|m'<|B'<|b' (Μ a z z)
 refine c'<|sr<|γ (iI z z)<|θ z<|J' a z (λE a=>?_) (λE a=>?_)
 .refine o'<|a'<|J' a z (λF a=>?_) (λF a=>?_)
  .refine sr<|γ (w' 2 ÿ z z z)<|γ (w' 3 mg z z z)<|oE a λaj u a=>I' z z (x' xi z) (KU u) z (⟨c,e,d,f⟩)<|θ z<|m'<|B'<|b' (Μ a z z)
  refine o'<|A'<|a'<|sr<|θ z<|m' (Μ a z z)
 refine sr<|γ (iI z z)<|θ z<|J' a z (λL a=>?_) (λL a=>?_)
 .refine o'<|a'<|J' a z (λH a=>?_) (λH a=>?_)
  .refine sr<|γ (w' 2 ÿ z z z)<|γ (w' 3 mg z z z)<|oE a λak t a=>I' z z (x' xi z) (KU t) z (⟨c,e,d,f⟩)<|θ z<|m'<|B'<|b' (Μ a z z)
  refine o'<|A'<|a'<|sr<|θ z<|m' (Μ a z z)
 refine p'<|γ (iI z z)<|θ z<|J' a z (λC a=>?_) (λC a=>?_)
 .refine sr<|γ (w' 2 ÿ z z z)<|γ (w' 3 mg z z z)<|oE a λah s a=>I' z z (x' xi z) (KU s) z (⟨c,e,d,f⟩)<|θ z<|m'<|B'<|b' (Μ a z z)
 refine o'<|A'<|a'<|sr<|θ z<|m' (Μ a z z)
theorem Ch{c e r}(a:(vV c e).ο r):ä prog 79 #[i' c,i' e] (λG=>True) (λG v=>v = .agg (Ι r).toArray):=by
 refine E' (args:=[_,_]) (N:=43) func79 z z z λt n L K=>sr<|T' 4 z uT z λp=>nr<|γ (iK (vs:=#[]) (v:=.agg (Ι (λ_=>0)).toArray) z z (λ_=>by kernel_rfl))<|T' 5 z uT z λq=>y' 5 z n4 z z z (M' _ _ _) (M' _ _ _) (λu s=>Rp.one (pt .i64 8) (G:=n) (x:=(λ_=>0)) (cs:=Ι (λ_=>0)) z u (by first|simpa using s|simpa [Value.cells] using s))<|nx<|c'<|sr<|θ z<|Z' (X:=Int×(Fin 8->Int)×Mem) a (λ⟨d,f,g⟩=>⟨(d,f),[(0,i' c),(1,i' e),(4,Τ p),(5,Τ q),(6,i' d)],Mem.le n g,St t n g [(4,Ξ p (Ι (λ_=>0)) 42),(5,Ξ q (Ι f) 42)]⟩) (λ(⟨l,o⟩:(Fin 8->Int)×Mem)=>⟨l,[(0,i' c),(1,i' e),(4,Τ p),(5,Τ q)],Mem.le n o,St t n o [(4,Ξ p (Ι (λ_=>0)) 42),(5,Ξ q (Ι l) 42)]⟩) ⟨0,(λ_=>0),n⟩ z (υ z) mr (w2 z z) ?_ ?_
 .rintro _ ⟨d,f,g⟩ h a
  refine c'<|sr<|δ z<|Ï z<|nx<|J' a z (λI a=>?_) (λI a=>?_)
  .refine o'<|a'<|c'<|V'<|sr<|δ z<|δ z<|oA a λA a=>γ (k0 rH gh z z A)<|kN 5 (Ι (å f d.toNat d)).toArray z gh z z z (by first|(rw[M']; omega)|(show _<(í _ _ _).toArray.size; rw[M']; omega)) z (qR _ _ _ _ _)<|nx<|k5 a (λ(⟨j,k⟩:(Fin 8->Int)×Mem)=>⟨[(0,i' c),(1,i' e),(4,Τ p),(5,Τ q),(6,i' d)],Dy c e d j,Mem.le g k,St t n k [(4,Ξ p (Ι (λ_=>0)) 42),(5,Ξ q (Ι j) 42)]⟩) ?_ ?_
   .refine sr<|δ z<|δ z<|eZ a z (kr z z) z (λD a=>?_) (λD a=>?_)
    .refine δ z<|Â z<|Â z<|gy z z (oo z z) z<|Δ z<|nx<|J' a z (λH a=>?_) (λH a=>?_)
     .refine p'<|δ z<|δ z<|γ (nU z z)<|oA a λB a=>γ (k0 rH gh z z B)<|kN 5 (Ι (å (å f d.toNat d) d.toNat (i64.wrap (d-1)))).toArray z gh z z z (by first|(rw[M']; omega)|(show _<(í _ _ _).toArray.size; rw[M']; omega)) z (qR _ _ _ _ _)<|q'<|ia ⟨å (å f d.toNat d) d.toNat (i64.wrap (d-1)),g⟩ ⟨a,mr⟩ (υ z) (w2 z z)
     refine o'<|ia ⟨å f d.toNat d,g⟩ ⟨a,mr⟩ (υ z) (w2 z z)
    refine δ z<|lu z<|Γ z<|nx<|lJ z<|o'<|ia ⟨å f d.toNat d,g⟩ ⟨a,mr⟩ (υ z) (w2 z z)
   rintro⟨j,k⟩ ⟨a,m⟩
   refine sr<|δ z<|δ z<|eZ a z (nb z z) z (λF a=>?_) (λF a=>?_)
   .refine δ z<|Â z<|Â z<|gy z z (kO z z) z<|Δ z<|nx<|J' a z (λC a=>?_) (λC a=>?_)
    .refine p'<|δ z<|δ z<|é z<|oA a λE a=>γ (k0 rH gh z z E)<|kN 5 (Ι (å j d.toNat (i64.wrap (d+1)))).toArray z gh z z z (by first|(rw[M']; omega)|(show _<(í _ _ _).toArray.size; rw[M']; omega)) z (qR _ _ _ _ _)<|q'<|A'<|a'<|p'<|δ z<|é z<|ς z<|q'<|K' ⟨i64.wrap (d+1),å j d.toNat (i64.wrap (d+1)),k⟩ a (mx h m) (υ z) (w2 z z)
    refine o'<|A'<|a'<|p'<|δ z<|é z<|ς z<|q'<|K' ⟨i64.wrap (d+1),j,k⟩ a (mx h m) (υ z) (w2 z z)
   refine δ z<|lu z<|Γ z<|nx<|lJ z<|o'<|A'<|a'<|p'<|δ z<|é z<|ς z<|q'<|K' ⟨i64.wrap (d+1),j,k⟩ a (mx h m) (υ z) (w2 z z)
  refine Æ<|g'<|g'<|H'<|Ë ⟨f,g⟩ ⟨a,h⟩ (υ z) (w2 z z)
 rintro⟨l,o⟩ ⟨a,J⟩
 refine a'<|sr<|δ z<|δ z<|oA a λy a=>γ (k0 rH gh z z y)<|kN 5 (Ι (å l c.toNat e)).toArray z gh z z z (by first|(rw[M']; omega)|(show _<(í _ _ _).toArray.size; rw[M']; omega)) z (qR _ _ _ _ _)<|nr<|γ (w' 5 mQ z z (M' _ _ _))<|y' 4 z n4 z z z (M' _ _ _) (M' _ _ _) (λu s=>Rp.one (pt .i64 8) (G:=o) (x:=å l c.toNat e) (cs:=Ι (å l c.toNat e)) z u (by first|simpa using s|simpa [Value.cells] using s))<|nx<|m' ?_
 obtain rfl:_=r:=a
 exact k' z (hQ (i:=4) mQ z z (M' _ _ _)) z
theorem eY'{c r}(a:(Hg c).ο r):ä prog 198 #[.agg (Ι c).toArray] (λG=>True) (λG v=>v = .bool r):=by
 refine E' (args:=[_]) (N:=31) func198 z z z λs g H E=>sr<|ý 1 z z z λo=>ς z<|nr<|γ (iK (vs:=#[]) (v:=.agg (í Value.bool 8 (λ_=>false)).toArray) z z (λ_=>by kernel_rfl))<|T' 3 z De z λy=>y' 3 z C1 z z z (M' _ _ _) (M' _ _ _) (λu t=>Rp.one (Rp.LH 8) (G:=g) (x:=(λ_=>false)) (cs:=í Value.bool 8 (λ_=>false)) z u (by first|simpa using t|simpa [Value.cells] using t))<|nx<|c'<|sr<|θ z<|Z' (X:=Int×(Fin 8->Bool)×Mem) a (λ⟨h,d,e⟩=>⟨(h,d),[(1,Τ o),(3,Τ y),(4,i' h)],Mem.le g e,St s g e [(1,Ξ o (Ι c) 42),(3,Ξ y (í Value.bool 8 d) 205)]⟩) (λ(F:Mem)=>match F with|i=>⟨(.inr ()),[],Mem.le g i,St s g i []⟩) ⟨0,(λ_=>false),g⟩ z (υ z) mr (w2 z z) ?_ ?_
 .rintro _ ⟨h,d,e⟩ f a
  refine c'<|sr<|δ z<|Ï z<|nx<|J' a z (λC a=>?_) (λC a=>?_)
  .refine o'<|a'<|c'<|V'<|c'<|sr<|δ z<|oA a λj a=>γ (k0 rH gh z z j)<|γ (f' 1 ñ z z (mh _ _ _ j))<|eZ a z (nb z z) z (λB a=>?_) (λB a=>?_)
   .refine δ z<|ke z<|Δ z<|δ z<|pd z<|Δ z<|nx<|iS z<|sr<|θ z<|m'<|b'<|B'<|b'<|b'<|B'<|jl<|b' (Μ a z z)
   refine δ z<|Â z<|oA a λl a=>gy z z (k0 rH gh z z l) z<|gy z z (f' 1 ñ z z (mh _ _ _ l)) z<|eZ a (W' z z) (kO z z) z (λA a=>?_) (λA a=>?_)
   .refine Γ z<|δ z<|pd z<|Δ z<|nx<|iS z<|sr<|θ z<|m'<|b'<|B'<|b'<|b'<|B'<|jl<|b' (Μ a z z)
   refine Γ z<|δ z<|Â z<|oA a λn a=>gy z z (k0 rH gh z z n) z<|gy z z (f' 1 ñ z z (mh _ _ _ n)) z<|oA a λm a=>gy z z (k0 FE z7 z z m) z<|gy z z (f' 3 kX z z (mh _ _ _ m)) z<|Γ z<|nx<|iC a z (λq a=>?_) (λq a=>?_)
   .exact (show False from a).elim
   refine o'<|a'<|p'<|δ z<|oA a λk a=>γ (k0 rH gh z z k)<|γ (f' 1 ñ z z (mh _ _ _ k))<|oA a λp a=>γ (k0 FE z7 z z p)<|kN 3 (í Value.bool 8 (å d ((Κ c h).toNat) true)).toArray z z7 z z z (by first|(rw[M']; omega)|(show _<(í _ _ _).toArray.size; rw[M']; omega)) z (qR _ _ _ _ _)<|q'<|A'<|a'<|p'<|δ z<|é z<|ς z<|q'<|K' ⟨i64.wrap (h+1),å d ((Κ c h).toNat) true,e⟩ a f (υ z) (w2 z z)
  refine Æ<|g'<|g'<|H'<|Ë e ⟨a,f⟩ fn (wk ln)
 rintro i ⟨a,D⟩
 refine a'<|sr<|θ z<|m' (Μ a z z)
theorem gg'{S i J I r}(a:(HP S i).ο r):ä prog 135 #[ε J S I,.agg (Ι i).toArray] (λG=>sl n' G J I S) (ny n' r):=by
 refine E' (args:=[_,_]) (N:=47) func135 z z z (λZ Y ag al=>?_)
 have K:=al
 refine sr<|ý 3 z z z λR=>ς z<|θ z<|c'<|sr<|γ (w' 3 mQ z z (M' _ _ _))<|oE a λaF an a=>I' z z (x' GB z) (eY' an) z (trivial)<|γ (gP z)<|nx<|iC a z (λaA a=>?_) (λaA a=>?_)
 .exact (show False from a).elim
 refine o'<|a'<|sr<|jL (e:=159) (r:=n') (vs:=#[]) (cs:=[]) ([]:Ŀ Za) z z z z z (by decide) (λ_=>by kernel_rfl) (z) (key:=999) z (by rw[ag]; rfl) λp2 V q ay=>θ z<|c'<|sr<|θ z<|Z' (X:=(Ŀ Za)×ŀ Addr×Nat×Int×Mem) a (λ⟨o,m,l,Q,p⟩=>⟨(o,Q),[(0,ε J S I),(3,Τ R),(6,ε m o l),(7,i' Q)],Mem.le V p/\sl n' p m l o,St Z Y p [(3,Ξ R (Ι i) 42)]⟩) (λ(⟨C,D,B,O⟩:(Ŀ Za)×ŀ Addr×Nat×Mem)=>⟨C,[(6,ε D C B)],Mem.le V O/\sl n' O D B C,St Z Y O []⟩) ⟨[],p2,0,0,V⟩ z (υ z) ⟨mr,ay⟩ (w1 z) ?_ ?_
 .rintro _ ⟨o,m,l,Q,p⟩ ⟨k,P⟩ a
  refine c'<|sr<|δ z<|δ z<|γ (N' F' (K.mono (mx q k)) z)<|Ï z<|nx<|J' a z (λaq a=>?_) (λaq a=>?_)
  .refine o'<|a'<|c'<|V'<|sr<|γ (iK (vs:=#[]) (v:=.agg (Ι (λ_=>0)).toArray) z z (λ_=>by kernel_rfl))<|T' 8 z r5 z λw=>y' 8 z ov z z z (M' _ _ _) (M' _ _ _) (λu hu=>Rp.one (pt .i64 8) (G:=p) (x:=(λ_=>0)) (cs:=Ι (λ_=>0)) z u (by first|simpa using hu|simpa [Value.cells] using hu))<|nx<|c'<|sr<|θ z<|Z' (X:=Int×(Fin 8->Int)×Mem) a (λ⟨L,A,F⟩=>⟨(L,A),[(0,ε J S I),(3,Τ R),(6,ε m o l),(7,i' Q),(8,Τ w),(9,i' L)],Mem.le p F,St Z Y F [(3,Ξ R (Ι i) 42),(8,Ξ w (Ι A) 99)]⟩) (λ(⟨n,U⟩:(Fin 8->Int)×Mem)=>⟨n,[(0,ε J S I),(3,Τ R),(6,ε m o l),(7,i' Q),(8,Τ w)],Mem.le p U,St Z Y U [(3,Ξ R (Ι i) 42),(8,Ξ w (Ι n) 99)]⟩) ⟨0,(λ_=>0),p⟩ z (υ z) mr (w2 z z) ?_ ?_
   .rintro _ ⟨L,A,F⟩ y a
    refine c'<|sr<|δ z<|Ï z<|nx<|J' a z (λaz a=>?_) (λaz a=>?_)
    .refine o'<|a'<|c'<|V'<|hZ [ff,ff,ff,ff,ff,ff,ff,ff,ff,ff] gp (by kernel_rfl) λhb=>ù z<|oA a λac a=>cn (λ_ h=>k0 rH gh z z ac)<|cn (λ_ h=>f' 3 ñ z z (mh _ _ _ ac))<|ù z<|ù z<|ù z<|oE a λx2 ad a=>cn (λ_ h=>X' F' jA ((K.mono (mx (mx q k) y)).mono h) z z ad)<|cn (λ_ h=>lV z)<|oA a λae a=>cn (λ_ h=>Y0.vB lK gh z z ae)<|cn (λ_ h=>il ñ z (AtK.rZ (R' (R' (pP (mi (Á K ad))) (mx (mx q k) y)) h) ae))<|jz hb<|oA a λaw a=>γ (k0 lK gh z z aw)<|kN 8 (Ι (å A ((Κ i L).toNat) (Κ x2.m L))).toArray z gh z z z (by first|(rw[M']; omega)|(show _<(í _ _ _).toArray.size; rw[M']; omega)) z (qR _ _ _ _ _)<|q'<|fh<|A'<|a'<|p'<|δ z<|é z<|ς z<|q'<|K' ⟨i64.wrap (L+1),å A ((Κ i L).toNat) (Κ x2.m L),F⟩ a y (υ z) (w2 z z)
    refine Æ<|g'<|g'<|H'<|Ë ⟨A,F⟩ ⟨a,y⟩ (υ z) (w2 z z)
   rintro⟨n,U⟩ ⟨a,t⟩
   refine a'<|hZ [tt,ff,ff,ff,ff,ff,ff] gp (by kernel_rfl) λhb=>yl z (h' z)<|ù z<|ù z<|oE a λs af a=>cn (λ_ h=>X' F' jA ((K.mono (mx (mx q k) t)).mono h) z z af)<|cn (λ_ h=>oq z) ?_
   obtain⟨g,d,f,c,au,E,H⟩:=wI (R' (qO (mi (Á K af))) (mx (mx q k) t))
   refine cn (λ_ h=>jC _ kf z z (λj v hv=>h _ _ _ (au j v hv)))<|cn (λ_ h=>w' 8 iL z z (M' _ _ _))<|jz hb<|γ (iK (vs:=#[(0,.agg ((χ s.c g d f c)).toArray),(1,.agg (Ι n).toArray)]) (v:=.agg (((χ s.c g d f c):Ŀ Value)++(Ι n)).toArray) z z (λ_=>by kernel_rfl))<|jL (e:=159) (r:=n') (vs:=#[(0,.agg (((χ s.c g d f c):Ŀ Value)++(Ι n)).toArray)]) (cs:=(((χ s.c g d f c):Ŀ Value)++(Ι n))++([])) ([(Za.mk s.c n)]:Ŀ Za) z z z z z (by decide) (λ_=>by kernel_rfl) ⟨((χ s.c g d f c):Ŀ Value)++(Ι n),[],z,⟨(χ s.c g d f c),Ι n,z,⟨(ι s.c.num g d),(ι s.c.den f c),z,⟨[.bool s.c.num.neg],[ε g s.c.num.Α d],z,z,⟨_,z,E⟩⟩,⟨[.bool s.c.den.neg],[ε f s.c.den.Α c],z,z,⟨_,z,H⟩⟩⟩,z⟩,z⟩ (key:=999) z (by rw[ag]; rfl) (λp3 aG M ax=>?_)
   refine oE a λao ah a=>U' z z (x' Ah z) (Sn ah) z (⟨(P.mono (mx t M)),ax⟩) (λaE ap W T=>?_)
   obtain⟨aj,ak,rfl,am⟩:=T
   refine ς z<|q'<|fh<|A'<|a'<|p'<|δ z<|é z<|ς z<|q'<|K' ⟨ao,aj,ak,i64.wrap (Q+1),ap⟩ a ⟨(mx (mx (mx k t) M) W),am⟩ (υ z) (w1 z)
  refine Æ<|g'<|g'<|H'<|Ë ⟨o,m,l,p⟩ ⟨a,k,P⟩ (f1 z) (wk ln)
 rintro⟨C,D,B,O⟩ ⟨a,aB,ab⟩
 refine a'<|sr<|δ z<|ς z<|θ z<|m' ?_
 obtain rfl:_=r:=a
 exact l5 z z z ⟨_,_,z,ab⟩
theorem zW{l1 C W aa r}(a:(wh l1 C).ο r):ä prog 78 #[ε W l1 aa,.agg (Ι C).toArray] (λG=>sl j' G W aa l1) (jx j' r):=by
 refine E' (args:=[_,_]) (N:=37) func78 z z z (λw0 G0 U an=>?_)
 have H:=an
 refine sr<|ý 3 z z z λb1=>ς z<|nr<|jL (e:=51) (r:=j') (vs:=#[]) (cs:=[]) ([]:Ŀ Zc) z z z z z (by decide) (λ_=>by kernel_rfl) (z) (key:=999) z (by rw[U]; rfl) λp1 Y o av=>θ z<|c'<|sr<|θ z<|Z' (X:=(Ŀ Zc)×ŀ Addr×Nat×ŀ Ow×Int×Mem) a (λ⟨j,l,k,m,w,J⟩=>⟨(j,w),[(0,ε W l1 aa),(3,Τ b1),(5,ε l j k),(6,i' w)],Mem.le Y J/\sl j' J l k j/\Tok 2 51 (ε l j k) j.length m,St w0 G0 J [(3,Ξ b1 (Ι C) 42),(1005,m)]⟩) (λ(⟨p,t,q,y,P⟩:(Ŀ Zc)×ŀ Addr×Nat×ŀ Ow×Mem)=>⟨p,[(5,ε t p q)],Mem.le Y P/\sl j' P t q p/\Tok 2 51 (ε t p q) p.length y,St w0 G0 P [(1005,y)]⟩) ⟨[],p1,0,none,0,Y⟩ z (υ z) ⟨mr,av,qC⟩ (wk (lc z (lw ln))) ?_ ?_
 .rintro _ ⟨j,l,k,m,w,J⟩ ⟨i,M,F⟩ a
  refine c'<|sr<|δ z<|δ z<|γ (N' jG (H.mono (mx o i)) z)<|Ï z<|nx<|J' a z (λaD a=>?_) (λaD a=>?_)
  .refine o'<|a'<|c'<|V'<|c'<|hZ [ff,ff,ff,ff,ff,ff,ff,ff,ff,tt] gp (by kernel_rfl) λhb=>ù z<|ù z<|oE a λx1 ai a=>cn (λ_ f=>X' jG ng ((H.mono (mx o i)).mono f) z z ai)<|cn (λ_ f=>sN z) ?_
   obtain⟨p2,aM,az,ax⟩:=qA (R' (pP (mi (Á H ai))) (mx o i))
   refine cn (λ_ f=>il ij z (f _ _ _ az))<|cn (λ_ f=>w' 3 mQ z z (M' _ _ _))<|oE a λg am a=>mL (post:=ny n' g) (λ_=>z) (λ_ _=>x' Gc z) (gg' am) z (λQ f=>(ax.mono f)) (λv G1 G2 f h=>?_) ?_
   .obtain⟨B,x,rfl,n⟩:=h
    exact⟨_,_,z,n.mono f⟩
   refine qY (φ:=ny n' g) (λ_=>z) (λv G1 G2 f h=>?_) (λu Q f Z=>?_) ?_
   .obtain⟨p3,L,rfl,I⟩:=h
    exact⟨_,_,z,I.mono f⟩
   .obtain⟨⟨B,x,ac,n⟩,_⟩:=(show (ny n' g) Q.m (u 23)/\True from Z)
    simp only[ψ,ac]
    exact⟨_,h' z,B,x,z,n⟩
   refine qY (φ:=jx n' g.1) (λ_=>z) (λv G1 G2 f h=>?_) (λu Q f Z=>?_) ?_
   .obtain⟨K,A,rfl,V⟩:=h
    exact⟨_,_,z,V.mono f⟩
   .obtain⟨⟨p3,L,D,I⟩,_,_⟩:=(show (ny n' g) Q.m (u 16)/\True/\True from Z)
    simp only[ψ,D]
    exact⟨_,P' z z,p3,L,z,I⟩
   refine vn (c:=i' g.2) (λ_=>z) (λu Q f Z=>?_) ?_
   .obtain⟨_,⟨p3,L,D,I⟩,_,_⟩:=(show True/\(ny n' g) Q.m (u 16)/\True/\True from Z)
    simp only[ψ,D]
    exact P' z z
   refine η.qk (d:=24) (post:=jx n' g.1) (d':=16) (post':=ny n' g) (d'':=23) (post'':=ny n' g) (λaF aG aH aK s S T R=>?_)
   obtain⟨K,A,rfl,V⟩:=S
   obtain⟨p3,L,rfl,I⟩:=T
   obtain⟨B,x,rfl,n⟩:=R
   refine ς z<|ς z<|q'<|fh<|a'<|p'<|δ z<|δ z<|δ z<|oE a λE ah a=>γ (X' jG ng (H.mono (mx (mx o i) s)) z z ah)<|γ (oY z)<|γ (il ñ z (lH (R' (qO (mi (Á H ah))) (mx (mx o i) s))))<|δ z<|γ (iK (vs:=#[(0,i' E.id),(1,ε K g.1 A)]) (v:=.agg ([i' E.id,ε K g.1 A]).toArray) z z (λ_=>by kernel_rfl))<|jL (e:=51) (r:=j') (vs:=#[(0,.agg ([i' E.id,ε K g.1 A]).toArray)]) (cs:=[i' E.id,ε K g.1 A]++([])) ([(Zc.mk E.id g.1)]:Ŀ Zc) z z z z z (by decide) (λ_=>by kernel_rfl) ⟨[i' E.id,ε K g.1 A],[],z,⟨[i' E.id],[ε K g.1 A],z,z,⟨_,z,V⟩⟩,z⟩ (key:=999) z (by rw[U]; rfl) (λp5 aL O aA=>?_)
   refine oA a λak a=>nt (r:=j') 1005 z z jG q7 z (by decide) z z (M.mono (mx s O)) z (by rw[U]; rfl) F aA ak λp6 ar al ap ae ao aj=>ς z<|q'<|A'<|a'<|p'<|δ z<|é z<|ς z<|q'<|K' ⟨(j++[(Zc.mk E.id g.1)]),p6,ar,al,i64.wrap (w+1),ap⟩ a ⟨(mx (mx (mx i s) O) ae),ao,aj⟩ (υ z) (w2 z z)
  refine Æ<|g'<|g'<|H'<|Ë ⟨j,l,k,m,J⟩ ⟨a,i,M,F⟩ (f1 z) (w1 z)
 rintro⟨p,t,q,y,P⟩ ⟨a,aE,ag,aw⟩
 refine a'<|sr<|δ z<|θ z<|m' ?_
 obtain rfl:_=r:=a
 exact k' z z ⟨_,_,z,ag⟩
theorem zS{Y d R S g h r}(a:(wj Y d).ο r):ä prog 137 #[ε R Y S,.agg ((þ d.id g d.p h)).toArray] (λG=>sl j' G R S Y/\sl n' G g h d.p) (jx j' r):=by
 refine E' (args:=[_,_]) (N:=53) func137 z z z (λw0 G0 E au=>?_)
 obtain⟨F,aa⟩:=au
 refine sr<|ý 3 z z z λW=>ς z<|nr<|jL (e:=51) (r:=j') (vs:=#[]) (cs:=[]) ([]:Ŀ Zc) z z z z z (by decide) (λ_=>by kernel_rfl) (z) (key:=999) z (by rw[E]; rfl) λp1 ab i aF=>ς z<|nr<|θ z<|c'<|sr<|θ z<|Z' (X:=(Ŀ Zc)×ŀ Addr×Nat×ŀ Ow×Bool×Int×Mem) a (λ⟨j,m,l,k,p,O,y⟩=>⟨(j,p,O),[(0,ε R Y S),(3,Τ W),(5,ε m j l),(6,.bool p),(7,i' O)],Mem.le ab y/\sl j' y m l j/\Tok 2 51 (ε m j l) j.length k,St w0 G0 y [(3,Ξ W (þ d.id g d.p h) 51),(1005,k)]⟩) (λ(⟨x,C,A,D,K,U⟩:(Ŀ Zc)×ŀ Addr×Nat×ŀ Ow×Bool×Mem)=>⟨(x,K),[(3,Τ W),(5,ε C x A),(6,.bool K)],Mem.le ab U/\sl j' U C A x/\Tok 2 51 (ε C x A) x.length D,St w0 G0 U [(3,Ξ W (þ d.id g d.p h) 51),(1005,D)]⟩) ⟨[],p1,0,none,false,0,ab⟩ z (υ z) ⟨mr,aF,qC⟩ (wk (lc z (lw ln))) ?_ ?_
 .rintro _ ⟨j,m,l,k,p,O,y⟩ ⟨f,B,s⟩ a
  refine c'<|sr<|δ z<|δ z<|γ (N' jG (F.mono (mx i f)) z)<|Ï z<|nx<|J' a z (λaE a=>?_) (λaE a=>?_)
  .refine o'<|a'<|c'<|V'<|k5 a (λ(⟨n,u,v,t,q,L⟩:(Ŀ Zc)×ŀ Addr×Nat×ŀ Ow×Bool×Mem)=>⟨[(0,ε R Y S),(3,Τ W),(5,ε u n v),(6,.bool q),(7,i' O)],Ed Y d O n q,Mem.le y L/\sl j' L u v n/\Tok 2 51 (ε u n v) n.length t,St w0 G0 L [(3,Ξ W (þ d.id g d.p h) 51),(1005,t)]⟩) ?_ ?_
   .refine c'<|hZ [ff,ff,ff,ff,ff,ff,ff,ff,ff,ff] gp (by kernel_rfl) λw=>su a z (λ_ c=>oM (h' z) (ć Value.bool (nu _))) (λaM a=>?_) (λaM a=>?_)
    .refine cn (λ_ c=>gP z)<|ù z<|ct z z<|ct z z<|ct z z<|ct z z<|ct z z<|ct z z<|ct z z<|jz w<|sk z z z<|Γ z<|q'<|fh<|a'<|lJ z<|o'<|ia ⟨j,m,l,k,p,y⟩ ⟨a,mr,B,s⟩ (υ z) (w2 z z)
    refine cn (λ_ c=>gP z)<|ù z<|cy z z (λ_ c=>h' z)<|cy z z (λ_ c=>h' z)<|oE a λx4 ai a=>cy z z (λ_ c=>X' jG ng ((F.mono (mx i f)).mono c) z z ai)<|cy z z (λ_ c=>oY z)<|cy z z (λ_ c=>il ñ z (lH (R' (R' (qO (mi (Á F ai))) (mx i f)) c)))<|cy z z (λ_ c=>oY z)<|cy z z (λ_ c=>f' 3 ñ z z z)<|jz w<|gy z z (kO z z) z<|Δ z<|q'<|fh<|a'<|J' a z (λaD a=>?_) (λaD a=>?_)
    .refine sr<|δ z<|γ (w' 3 k6 z z z)<|jL (e:=51) (r:=j') (vs:=#[(0,.agg ((þ d.id g d.p h)).toArray)]) (cs:=(þ d.id g d.p h)++([])) ([d]:Ŀ Zc) z z z z z (by decide) (λ_=>by kernel_rfl) ⟨(þ d.id g d.p h),[],z,⟨[i' d.id],[ε g d.p h],z,z,⟨_,z,(aa.mono (mx i f))⟩⟩,z⟩ (key:=999) z (by rw[E]; rfl) (λp6 aY Q ay=>?_)
     refine oA a λam a=>nt (r:=j') 1005 z z jG q7 z (by decide) z z (B.mono Q) z (by rw[E]; rfl) s ay am λp7 aL ak az ag aC an=>θ z<|p'<|ς z<|q'<|ia ⟨(j++[d]),p7,aL,ak,true,az⟩ ⟨a,(mx Q ag),aC,an⟩ (υ z) (w2 z z)
    refine o'<|ia ⟨j,m,l,k,p,y⟩ ⟨a,mr,B,s⟩ (υ z) (w2 z z)
   rintro⟨n,u,v,t,q,L⟩ ⟨a,o,P,M⟩
   refine c'<|hZ [ff,ff,ff,ff,ff,ff,ff] gp (by kernel_rfl) λw=>ù z<|ù z<|oE a λx2 ah a=>cn (λ_ c=>X' jG ng ((F.mono (mx (mx i f) o)).mono c) z z ah)<|cn (λ_ c=>oY z)<|cn (λ_ c=>il ñ z (lH (R' (R' (qO (mi (Á F ah))) (mx (mx i f) o)) c)))<|cn (λ_ c=>oY z)<|cn (λ_ c=>f' 3 ñ z z z)<|jz w<|γ (ly z z)<|q'<|fh<|a'<|J' a z (λaI a=>?_) (λaI a=>?_)
   .refine p'<|δ z<|δ z<|δ z<|oE a λH aj a=>γ (X' jG ng (F.mono (mx (mx i f) o)) z z aj) ?_
    obtain⟨I,J,aA,av⟩:=uN (R' (Á F aj) (mx (mx i f) o))
    refine γ (jC _ k6 z z aA)<|jL (e:=51) (r:=j') (vs:=#[(0,.agg ((þ H.id I H.p J)).toArray)]) (cs:=(þ H.id I H.p J)++([])) ([H]:Ŀ Zc) z z z z z (by decide) (λ_=>by kernel_rfl) ⟨(þ H.id I H.p J),[],z,⟨[i' H.id],[ε I H.p J],z,z,⟨_,z,av⟩⟩,z⟩ (key:=999) z (by rw[E]; rfl) (λp4 aU T aB=>?_)
    refine oA a λao a=>nt (r:=j') 1005 z z jG q7 z (by decide) z z (P.mono T) z (by rw[E]; rfl) M aB ao λp5 ax aw aJ ad aK aq=>ς z<|q'<|A'<|a'<|p'<|δ z<|é z<|ς z<|q'<|K' ⟨(n++[H]),p5,ax,aw,q,i64.wrap (O+1),aJ⟩ a ⟨(mx (mx (mx f o) T) ad),aK,aq⟩ (υ z) (w2 z z)
   refine o'<|A'<|a'<|p'<|δ z<|é z<|ς z<|q'<|K' ⟨n,u,v,t,q,i64.wrap (O+1),L⟩ a ⟨(mx f o),P,M⟩ (υ z) (w2 z z)
  refine Æ<|g'<|g'<|H'<|Ë ⟨j,m,l,k,p,y⟩ ⟨a,f,B,s⟩ (υ z) (w2 z z)
 rintro⟨x,C,A,D,K,U⟩ ⟨a,af,V,Z⟩
 refine a'<|c'<|sr<|δ z<|γ (gP z)<|nx<|iC a z (λaN a=>?_) (λaN a=>?_)
 .refine p'<|δ z<|γ (w' 3 k6 z z z)<|jL (e:=51) (r:=j') (vs:=#[(0,.agg ((þ d.id g d.p h)).toArray)]) (cs:=(þ d.id g d.p h)++([])) ([d]:Ŀ Zc) z z z z z (by decide) (λ_=>by kernel_rfl) ⟨(þ d.id g d.p h),[],z,⟨[i' d.id],[ε g d.p h],z,z,⟨_,z,(aa.mono (mx i af))⟩⟩,z⟩ (key:=999) z (by rw[E]; rfl) (λp2 aV ae aH=>?_)
  refine oA a λal a=>nt (r:=j') 1005 z z jG q7 z (by decide) z z (V.mono ae) z (by rw[E]; rfl) Z aH al λp3 aW aP aX aO aG aR=>ς z<|nr<|δ z<|θ z<|m' ?_
  obtain rfl:_=r:=a
  exact k' z z ⟨_,_,z,aG⟩
 refine o'<|a'<|sr<|δ z<|θ z<|m' ?_
 obtain rfl:_=r:=a
 exact k' z z ⟨_,_,z,V⟩
theorem FO{H A E C r}(a:(zz H A).ο r):ä prog 138 #[ε E H C,i' A] (λG=>sl j' G E C H) (jx j' r):=by
 refine E' (args:=[_,_]) (N:=29) func138 z z z (λU S D O=>?_)
 have u:=O
 refine sr<|ς z<|nr<|jL (e:=51) (r:=j') (vs:=#[]) (cs:=[]) ([]:Ŀ Zc) z z z z z (by decide) (λ_=>by kernel_rfl) (z) (key:=999) z (by rw[D]; rfl) λp1 y i W=>θ z<|c'<|sr<|θ z<|Z' (X:=(Ŀ Zc)×ŀ Addr×Nat×ŀ Ow×Int×Mem) a (λ⟨d,h,g,f,B,p⟩=>⟨(d,B),[(0,ε E H C),(1,i' A),(5,ε h d g),(6,i' B)],Mem.le y p/\sl j' p h g d/\Tok 2 51 (ε h d g) d.length f,St U S p [(1005,f)]⟩) (λ(⟨j,l,k,m,v⟩:(Ŀ Zc)×ŀ Addr×Nat×ŀ Ow×Mem)=>⟨j,[(5,ε l j k)],Mem.le y v/\sl j' v l k j/\Tok 2 51 (ε l j k) j.length m,St U S v [(1005,m)]⟩) ⟨[],p1,0,none,0,y⟩ z (υ z) ⟨mr,W,qC⟩ (wk (lw ln)) ?_ ?_
 .rintro _ ⟨d,h,g,f,B,p⟩ ⟨c,t,n⟩ a
  refine c'<|sr<|δ z<|δ z<|γ (N' jG (u.mono (mx i c)) z)<|Ï z<|nx<|J' a z (λac a=>?_) (λac a=>?_)
  .refine o'<|a'<|c'<|V'<|sr<|δ z<|δ z<|oE a λx1 K a=>γ (X' jG ng (u.mono (mx i c)) z z K)<|γ (oY z)<|γ (il ñ z (lH (R' (qO (mi (Á u K))) (mx i c))))<|δ z<|γ (ly z z)<|nx<|J' a z (λT a=>?_) (λT a=>?_)
   .refine p'<|δ z<|δ z<|δ z<|oE a λo J a=>γ (X' jG ng (u.mono (mx i c)) z z J) ?_
    obtain⟨q,s,V,P⟩:=uN (R' (Á u J) (mx i c))
    refine γ (jC _ k6 z z V)<|jL (e:=51) (r:=j') (vs:=#[(0,.agg ((þ o.id q o.p s)).toArray)]) (cs:=(þ o.id q o.p s)++([])) ([o]:Ŀ Zc) z z z z z (by decide) (λ_=>by kernel_rfl) ⟨(þ o.id q o.p s),[],z,⟨[i' o.id],[ε q o.p s],z,z,⟨_,z,P⟩⟩,z⟩ (key:=999) z (by rw[D]; rfl) (λp2 ag x ab=>?_)
    refine oA a λQ a=>nt (r:=j') 1005 z z jG q7 z (by decide) z z (t.mono x) z (by rw[D]; rfl) n ab Q λp3 R M Y F w L=>ς z<|q'<|A'<|a'<|p'<|δ z<|é z<|ς z<|q'<|K' ⟨(d++[o]),p3,R,M,i64.wrap (B+1),Y⟩ a ⟨(mx (mx c x) F),w,L⟩ (υ z) (w1 z)
   refine o'<|A'<|a'<|p'<|δ z<|é z<|ς z<|q'<|K' ⟨d,h,g,f,i64.wrap (B+1),p⟩ a ⟨c,t,n⟩ (υ z) (w1 z)
  refine Æ<|g'<|g'<|H'<|Ë ⟨d,h,g,f,p⟩ ⟨a,c,t,n⟩ (f1 z) (w1 z)
 rintro⟨j,l,k,m,v⟩ ⟨a,ad,I,Z⟩
 refine a'<|sr<|δ z<|θ z<|m' ?_
 obtain rfl:_=r:=a
 exact k' z z ⟨_,_,z,I⟩
theorem fN'{c p e d n o k h s q r}(a:(Ni c p).ο r):ä prog 80 #[.agg ((Ρ c e d n o k h)).toArray,.agg ((kL p s q)).toArray] (λG=>sl Rp.str G e d c.vars/\sl j' G n o c.eqs/\sl j' G k h c.ζ/\sl n' G s q p.p) (mI r):=by
 refine E' (args:=[_,_]) (N:=117) func80 z z z (λw0 G0 bJ aZ=>?_)
 obtain⟨m,g,f,A⟩:=aZ
 refine sr<|ý 2 z z z λb1=>ý 3 z z z λb2=>T' 4 z na z λb3=>nr<|γ (w' 2 ÿ z z z)<|T' 5 z na z λb4=>ø 5 jB z<|nr<|γ (pL z)<|γ (f' 3 ñ z z z)<|γ (Y0.E2 z)<|γ (f' 3 ij z z z)<|γ (iK (vs:=#[(0,i' p.id),(1,ε s p.p q)]) (v:=.agg ((þ p.id s p.p q)).toArray) z z (λ_=>by kernel_rfl))<|T' 6 z z51 z λb5=>ø 6 ng z<|nx<|c'<|hZ [ff,ff,ff,ff,ff,ff,ff,ff,ff] gp (by kernel_rfl) λw=>cn (λ_ l=>mf z)<|cn (λ_ l=>f' 2 jV z z z)<|cn (λ_ l=>pL z)<|cn (λ_ l=>f' 3 ñ z z z)<|oE a λbO aJ a=>sn z (λ_=>x' sW z) (Cc aJ) z (λG' l=>(g.mono l))<|cn (λ_ l=>mN z)<|cn (λ_ l=>f' 2 jV z z z)<|cn (λ_ l=>pL z)<|cn (λ_ l=>f' 3 ñ z z z)<|jz w<|oE a λbK aK a=>I' z z (x' sW z) (Cc aK) z (f)<|ς z<|ς z<|q'<|fh<|a'<|c'<|sr<|γ (wJ z)<|γ (f' 3 ñ z z z)<|nx<|V'<|sr<|γ (iI z z)<|θ z<|J' a z (λbn a=>?_) (λbn a=>?_)
 .refine k5 a (λ(⟨x,B,C,U⟩:Zc×ŀ Addr×Nat×Mem)=>⟨[(2,Τ b1),(3,Τ b2),(4,Τ b3),(5,Τ b4),(6,Τ b5)],AR c p x,Mem.le G0 U/\sl n' U B C x.p,St w0 G0 U [(2,Ξ b1 (Ρ c e d n o k h) 29),(3,Ξ b2 (kL p s q) 106),(4,Ξ b3 ([.slice none 0 0,.slice none 0 0,.slice none 0 0,i' 0]) 29),(5,Ξ b4 (Ρ c e d n o k h) 29),(6,Ξ b5 (þ x.id B x.p C) 51)]⟩) ?_ ?_
  .refine sr<|γ (pL z)<|γ (f' 3 ñ z z z)<|γ (iI z z)<|nx<|J' a z (λbi a=>?_) (λbi a=>?_)
   .refine p'<|γ (pq z)<|γ (f' 2 ñ z z z)<|γ (oY z)<|kN 6 ([i' c.next,ε s p.p q]).toArray z gh z z z (show 0<2 by decide) z z<|q'<|ia ⟨(Zc.mk c.next p.p),s,q,G0⟩ ⟨a,mr,A⟩ (υ z) (w5 z z z z z)
   refine o'<|ia ⟨(Zc.mk p.id p.p),s,q,G0⟩ ⟨a,mr,A⟩ (υ z) (w5 z z z z z)
  rintro⟨x,B,C,U⟩ ⟨a,y,R⟩
  refine sr<|γ (pq z)<|γ (f' 2 ñ z z z)<|γ (oY z)<|γ (f' 6 ñ z z z)<|é z<|γ (Y0.max2 z z)<|γ (pq z)<|kN 5 ([ε e c.vars d,ε n c.eqs o,ε k c.ζ h,i' (if c.next<(i64.wrap (x.id+1)) then (i64.wrap (x.id+1)) else c.next)]).toArray z gh z z z (show 3<4 by decide) z z<|nr<|γ (Y0.E3 z)<|γ (f' 3 kX z z z)<|nx<|iC a z (λbe a=>?_) (λbe a=>?_)
  .refine p'<|γ (mN z)<|γ (f' 2 jV z z z)<|γ (w' 6 k6 z z z)<|oE a λbf aV a=>U' z z (x' r6 z) (zS aV) z (⟨(f.mono y),R⟩) (λbv bI O ab=>?_)
   obtain⟨aB,aW,rfl,aF⟩:=ab
   refine γ (mN z)<|kN 5 ([ε e c.vars d,ε n c.eqs o,ε aB bf aW,i' (if c.next<(i64.wrap (x.id+1)) then (i64.wrap (x.id+1)) else c.next)]).toArray z lU z z z (show 2<4 by decide) z z<|q'<|A'<|a'<|sr<|γ (w' 5 ÿ z z z)<|ø 4 jB z<|nx<|m' ?_
   obtain rfl:_=r:=a
   exact k' z (hQ (i:=4) ÿ z z z) ⟨_,_,_,_,_,_,z,(m.mono (mx y O)),(g.mono (mx y O)),aF⟩
  refine p'<|γ (mf z)<|γ (f' 2 jV z z z)<|γ (w' 6 k6 z z z)<|oE a λa7 ay a=>U' z z (x' r6 z) (zS ay) z (⟨(g.mono y),R⟩) (λbz bM T X=>?_)
  obtain⟨aT,aN,rfl,aL⟩:=X
  refine γ (mf z)<|kN 5 ([ε e c.vars d,ε aT a7 aN,ε k c.ζ h,i' (if c.next<(i64.wrap (x.id+1)) then (i64.wrap (x.id+1)) else c.next)]).toArray z lU z z z (show 1<4 by decide) z z<|q'<|A'<|a'<|sr<|γ (w' 5 ÿ z z z)<|ø 4 jB z<|nx<|m' ?_
  obtain rfl:_=r:=a
  exact k' z (hQ (i:=4) ÿ z z z) ⟨_,_,_,_,_,_,z,(m.mono (mx y T)),aL,(f.mono (mx y T))⟩
 refine sr<|γ (iI z z)<|θ z<|J' a z (λbd a=>?_) (λbd a=>?_)
 .refine sr<|γ (mf z)<|γ (f' 2 jV z z z)<|γ (pL z)<|γ (f' 3 ñ z z z)<|oE a λaw aU a=>U' z z (x' uY z) (FO aU) z (g) (λbu bG S Z=>?_)
  obtain⟨ae,ah,rfl,aE⟩:=Z
  refine γ (mf z)<|kN 5 ([ε e c.vars d,ε ae aw ah,ε k c.ζ h,i' c.next]).toArray z lU z z z (show 1<4 by decide) z z<|nx<|p'<|γ (mN z)<|γ (f' 2 jV z z z)<|γ (pL z)<|γ (f' 3 ñ z z z)<|oE a λa8 az a=>U' z z (x' uY z) (FO az) z ((f.mono S)) (λbs bP L W=>?_)
  obtain⟨aS,aC,rfl,aY⟩:=W
  refine γ (mN z)<|kN 5 ([ε e c.vars d,ε ae aw ah,ε aS a8 aC,i' c.next]).toArray z lU z z z (show 2<4 by decide) z z<|q'<|A'<|a'<|sr<|γ (w' 5 ÿ z z z)<|ø 4 jB z<|nx<|m' ?_
  obtain rfl:_=r:=a
  exact k' z (hQ (i:=4) ÿ z z z) ⟨_,_,_,_,_,_,z,(m.mono (mx S L)),(aE.mono L),aY⟩
 refine sr<|γ (iI z z)<|θ z<|J' a z (λbk a=>?_) (λbk a=>?_)
 .refine sr<|δ z<|γ (kO z z)<|nx<|J' a z (λbh a=>?_) (λbh a=>?_)
  .refine p'<|γ (mf z)<|γ (f' 2 jV z z z)<|γ (w' 6 k6 z z z)<|oE a λbj aX a=>U' z z (x' r6 z) (zS aX) z (⟨g,A⟩) (λbx bQ M ac=>?_)
   obtain⟨aR,aA,rfl,aM⟩:=ac
   refine γ (mf z)<|kN 5 ([ε e c.vars d,ε aR bj aA,ε k c.ζ h,i' c.next]).toArray z lU z z z (show 1<4 by decide) z z<|q'<|A'<|a'<|sr<|γ (w' 5 ÿ z z z)<|ø 4 jB z<|nx<|m' ?_
   obtain rfl:_=r:=a
   exact k' z (hQ (i:=4) ÿ z z z) ⟨_,_,_,_,_,_,z,(m.mono M),aM,(f.mono M)⟩
  refine p'<|γ (mN z)<|γ (f' 2 jV z z z)<|γ (w' 6 k6 z z z)<|oE a λa6 a2 a=>U' z z (x' r6 z) (zS a2) z (⟨f,A⟩) (λbr bH V Y=>?_)
  obtain⟨a3,aP,rfl,a1⟩:=Y
  refine γ (mN z)<|kN 5 ([ε e c.vars d,ε n c.eqs o,ε a3 a6 aP,i' c.next]).toArray z lU z z z (show 2<4 by decide) z z<|q'<|A'<|a'<|sr<|γ (w' 5 ÿ z z z)<|ø 4 jB z<|nx<|m' ?_
  obtain rfl:_=r:=a
  exact k' z (hQ (i:=4) ÿ z z z) ⟨_,_,_,_,_,_,z,(m.mono V),(g.mono V),a1⟩
 refine sr<|γ (iI z z)<|θ z<|J' a z (λa9 a=>?_) (λa9 a=>?_)
 .refine sr<|γ (mf z)<|γ (f' 2 jV z z z)<|γ (pL z)<|γ (f' 3 ñ z z z)<|oE a λag aH a=>U' z z (x' uY z) (FO aH) z (g) (λbC bL t aa=>?_)
  obtain⟨K,H,rfl,aI⟩:=aa
  refine γ (mf z)<|kN 5 ([ε e c.vars d,ε K ag H,ε k c.ζ h,i' c.next]).toArray z lU z z z (show 1<4 by decide) z z<|nr<|γ (mN z)<|γ (f' 2 jV z z z)<|γ (pL z)<|γ (f' 3 ñ z z z)<|oE a λaf au a=>U' z z (x' uY z) (FO au) z ((f.mono t)) (λbp bN u F=>?_)
  obtain⟨Q,P,rfl,ai⟩:=F
  refine γ (mN z)<|kN 5 ([ε e c.vars d,ε K ag H,ε Q af P,i' c.next]).toArray z lU z z z (show 2<4 by decide) z z<|nr<|δ z<|γ (kO z z)<|nx<|J' a z (λbg a=>?_) (λbg a=>?_)
  .refine hZ [ff,ff,ff,ff,ff,ff,ff] gp (by kernel_rfl) λw=>cn (λ_ l=>mN z)<|cn (λ_ l=>f' 2 jV z z z)<|cn (λ_ l=>mf z)<|cn (λ_ l=>f' 2 jV z z z)<|ù z<|oE a λx1 ax a=>cn (λ_ l=>X' jG ng ((g.mono (mx t u)).mono l) z z ax) ?_
   obtain⟨bB,bD,ba,a0⟩:=uN (R' (Á g ax) (mx t u))
   refine cn (λ_ l=>jC _ k6 z z (λj v hv=>l _ _ _ (ba j v hv)))<|jz w<|oE a λaO aq a=>U' z z (x' r6 z) (zS aq) z (⟨(f.mono (mx t u)),a0⟩) (λbq bt D J=>?_)
   obtain⟨am,ar,rfl,ao⟩:=J
   refine γ (mN z)<|kN 5 ([ε e c.vars d,ε K ag H,ε am aO ar,i' c.next]).toArray z lU z z z (show 2<4 by decide) z z<|q'<|fh<|A'<|a'<|sr<|γ (w' 5 ÿ z z z)<|ø 4 jB z<|nx<|m' ?_
   obtain rfl:_=r:=a
   exact k' z (hQ (i:=4) ÿ z z z) ⟨_,_,_,_,_,_,z,(m.mono (mx (mx t u) D)),(aI.mono (mx u D)),ao⟩
  refine hZ [ff,ff,ff,ff,ff,ff,ff] gp (by kernel_rfl) λw=>cn (λ_ l=>mf z)<|cn (λ_ l=>f' 2 jV z z z)<|cn (λ_ l=>mN z)<|cn (λ_ l=>f' 2 jV z z z)<|ù z<|oE a λx2 av a=>cn (λ_ l=>X' jG ng ((f.mono (mx t u)).mono l) z z av) ?_
  obtain⟨bA,bw,a4,aG⟩:=uN (R' (Á f av) (mx t u))
  refine cn (λ_ l=>jC _ k6 z z (λj v hv=>l _ _ _ (a4 j v hv)))<|jz w<|oE a λaD al a=>U' z z (x' r6 z) (zS al) z (⟨(g.mono (mx t u)),aG⟩) (λbo bE E I=>?_)
  obtain⟨aj,ak,rfl,an⟩:=I
  refine γ (mf z)<|kN 5 ([ε e c.vars d,ε aj aD ak,ε Q af P,i' c.next]).toArray z lU z z z (show 1<4 by decide) z z<|q'<|fh<|A'<|a'<|sr<|γ (w' 5 ÿ z z z)<|ø 4 jB z<|nx<|m' ?_
  obtain rfl:_=r:=a
  exact k' z (hQ (i:=4) ÿ z z z) ⟨_,_,_,_,_,_,z,(m.mono (mx (mx t u) E)),an,(ai.mono E)⟩
 refine o'<|A'<|a'<|sr<|γ (w' 5 ÿ z z z)<|ø 4 jB z<|nx<|m' ?_
 obtain rfl:_=r:=a
 exact k' z (hQ (i:=4) ÿ z z z) ⟨_,_,_,_,_,_,z,m,g,f⟩
theorem KJ{d f s q m n j h F E r}(a:(se d f).ο r):ä prog 37 #[.agg ((Ρ d s q m n j h)).toArray,.agg ((kL f F E)).toArray] (λG=>sl Rp.str G s q d.vars/\sl j' G m n d.eqs/\sl j' G j h d.ζ/\sl n' G F E f.p) (mJ r):=by
 refine E' (args:=[_,_]) (N:=157) func37 z z z (λw0 G0 U bw=>?_)
 obtain⟨g,l,k,C⟩:=bw
 refine sr<|ý 2 z z z λb1=>ý 3 z z z λb2=>T' 4 z na z λb3=>ς z<|nr<|γ (w' 2 ÿ z z z)<|γ (w' 3 mg z z z)<|oE a λc5 be a=>I' z z (x' Te z) (gv' be) z (⟨g,l,k,C⟩)<|θ z<|c'<|sr<|δ z<|γ (ly z z)<|nx<|J' a z (λcb a=>?_) (λcb a=>?_)
 .refine sr<|γ (iK (vs:=#[]) (v:=.agg ([.slice none 0 0,.slice none 0 0,.slice none 0 0,i' 0]).toArray) z z (λ_=>by kernel_rfl))<|δ z<|ø 4 jB z<|θ z<|m'<|b' ?_
  obtain rfl:_=r:=a
  exact l5 z (hQ (i:=4) ÿ z z z) z ⟨_,_,_,_,_,_,z,(gi Rp.str _),(gi j' _),(gi j' _)⟩
 refine o'<|a'<|sr<|γ (lI z)<|γ (f' 2 lr z z z)<|γ (N' Q' g z)<|ς z<|nr<|γ (w' 2 ÿ z z z)<|T' 8 z na z λb4=>ø 8 jB z<|nr<|WL.CD (e:=9) (r:=Rp.str) (vs:=#[]) (cs:=[]) ([]:Ŀ Ĳ) 4021 z z z z z (by decide) (λ_=>by kernel_rfl) (z) λp1 cx bR=>γ (lI z)<|γ (f' 2 lr z z z)<|oA a λa9 a=>wF (r:=Rp.str) (e:=9) 4021 z z Q' tP z (by decide) z z bR z g a9 λp2 au cQ Y=>γ (lI z)<|kN 8 ([.slice p2 ([]++d.vars).length au,ε m d.eqs n,ε j d.ζ h,i' d.next]).toArray z vN z z z (show 0<4 by decide) z z<|nx<|c'<|sr<|γ (wJ z)<|γ (f' 3 ñ z z z)<|nx<|V'<|sr<|γ (iI z z)<|θ z<|J' a z (λbQ a=>?_) (λbQ a=>?_)
 .refine c'<|hZ [ff,ff,ff,ff,ff,ff,ff,ff,ff,ff,ff,ff,ff,ff,ff,ff] gp (by kernel_rfl) λp=>η.pW (r:=Rp.str) (e:=9) ([]:Ŀ Ĳ) (λ_=>z) z (by decide) (λu o c t=>?_) ?_
  .exact⟨#[],[],z,z,λ_=>by kernel_rfl,z⟩
  refine cu (λ_ _ c=>lI z)<|cu (λ_ _ c=>f' 2 lr z z z)<|cu (λ_ _ c=>pk z)<|cu (λ_ _ c=>f' 3 ñ z z z) ?_
  obtain⟨bX,a⟩:=a
  obtain⟨p3,bO,bS,b6⟩:=ë.cut (r:=Rp.str) none (some (i' f.Ζ)) nJ z Q' g (.inl ⟨z,z⟩) (.inr ⟨_,z⟩) bX
  refine cu (λ_ _ c=>Y0.B8 Q' b6 z z)<|oA a λbh a=>η.nS (r:=Rp.str) (e:=9) (kk:=33) (xs:=([]:Ŀ Ĳ)) ((d.vars.take f.Ζ.toNat).drop (0:Int).toNat) (λ_=>z) z (by kernel_rfl) (by kernel_rfl) Q' tP z (by decide) bh (λu o c t=>?_) ?_
  .obtain⟨aE,_⟩:=(show (kZ Rp.str 9 33 ([]:Ŀ Ĳ)) (u 33) o/\True from t)
   exact⟨u 33,.slice p3 ((d.vars.take f.Ζ.toNat).drop (0:Int).toNat).length bO,aE,z,z,(bS.mono c)⟩
  refine cu (λ_ _ c=>zU z)<|cu (λ_ _ c=>f' 3 ou z z z)<|uP (r:=Rp.str) (e:=9) ([f.name]:Ŀ Ĳ) (λ_=>z) z (by decide) (λu o c t=>?_) ?_
  .exact⟨#[(0,.string f.name)],[.string f.name]++([]),z,z,λ_=>by kernel_rfl,⟨[.string f.name],[],z,z,z⟩⟩
  refine oA a λbb a=>η.nS (r:=Rp.str) (e:=9) (kk:=39) (xs:=(([]:Ŀ Ĳ)++((d.vars.take f.Ζ.toNat).drop (0:Int).toNat))) [f.name] (λ_=>z) z (by kernel_rfl) (by kernel_rfl) Q' tP z (by decide) bb (λu o c t=>?_) ?_
  .obtain⟨⟨p4,an,aD,aZ⟩,aG,_,_⟩:=(show (λG v=>∃ p4 an,v = .slice p4 1 1/\kM Rp.str G (.slice p4 1 1) an [f.name]) o.m (u 42)/\(kZ Rp.str 9 39 (([]:Ŀ Ĳ)++((d.vars.take f.Ζ.toNat).drop (0:Int).toNat))) (u 39) o/\True/\True from t)
   exact⟨u 39,.slice p4 1 1,aG,z,(by simp only[ψ,mS,ė,ĵ,aD] <;> rfl),aZ⟩
  refine cu (λ_ _ c=>lI z)<|cu (λ_ _ c=>f' 2 lr z z z)<|cu (λ_ _ c=>pk z)<|cu (λ_ _ c=>f' 3 ñ z z z) ?_
  obtain⟨bI,a⟩:=a
  obtain⟨p5,cU,bZ,bV⟩:=ë.cut (r:=Rp.str) (some (i' f.Ζ)) none nJ z Q' g (.inr ⟨_,z⟩) (.inl ⟨z,z⟩) bI
  refine cu (λ_ _ c=>Y0.B9 Q' bV z z)<|η.rq (λcw cG cy cK X1 S ah ag bB bC=>?_)
  obtain⟨p4,an,rfl,aZ⟩:=ag
  refine WL.nR ah (λcH cR cj bo ba cN=>?_)
  subst bo
  refine sv (show WL _ _ _ _ _ _ (St w0 G0 X1.m _) from ?_)
  refine oA a λbv a=>wF (r:=Rp.str) (e:=9) 43 z z Q' tP z (by decide) z z ba z (bZ.mono S) bv λp6 w cE bG=>γ (lI z)<|kN 8 ([.slice p6 (((([]:Ŀ Ĳ)++((d.vars.take f.Ζ.toNat).drop (0:Int).toNat))++[f.name])++((d.vars.take (d.vars.length:Int).toNat).drop f.Ζ.toNat)).length w,ε m d.eqs n,ε j d.ζ h,i' d.next]).toArray z vN z z z (show 0<4 by decide) z z<|q'<|fh<|a'<|c'<|hZ [ff,ff,ff,ff,ff,ff] gp (by kernel_rfl) λp=>cn (λ_ c=>mf z)<|cn (λ_ c=>f' 2 jV z z z)<|ù z<|cn (λ_ c=>pk z)<|cn (λ_ c=>f' 3 ñ z z z)<|oE a λcX a6 a=>sn z (λ_=>x' AH z) (Ch a6) z (λo c=>trivial)<|jz p<|oE a λa3 bu a=>U' z z (x' ze z) (zW bu) z ((l.mono S)) (λcF c0 X aj=>?_)
  obtain⟨av,ak,rfl,bj⟩:=aj
  refine γ (mf z)<|kN 8 ([.slice p6 (((([]:Ŀ Ĳ)++((d.vars.take f.Ζ.toNat).drop (0:Int).toNat))++[f.name])++((d.vars.take (d.vars.length:Int).toNat).drop f.Ζ.toNat)).length w,ε av a3 ak,ε j d.ζ h,i' d.next]).toArray z lU z z z (show 1<4 by decide) z z<|q'<|fh<|a'<|hZ [ff,ff,ff,ff,ff,ff] gp (by kernel_rfl) λp=>cn (λ_ c=>mN z)<|cn (λ_ c=>f' 2 jV z z z)<|ù z<|cn (λ_ c=>pk z)<|cn (λ_ c=>f' 3 ñ z z z)<|oE a λcT bA a=>sn z (λ_=>x' AH z) (Ch bA) z (λo c=>trivial)<|jz p<|oE a λb0 bc a=>U' z z (x' ze z) (zW bc) z ((k.mono (mx S X))) (λcL c4 ac ai=>?_)
  obtain⟨bx,a8,rfl,bd⟩:=ai
  refine γ (mN z)<|kN 8 ([.slice p6 (((([]:Ŀ Ĳ)++((d.vars.take f.Ζ.toNat).drop (0:Int).toNat))++[f.name])++((d.vars.take (d.vars.length:Int).toNat).drop f.Ζ.toNat)).length w,ε av a3 ak,ε bx b0 a8,i' d.next]).toArray z lU z z z (show 2<4 by decide) z z<|q'<|fh<|A'<|a'<|sr<|qX (r:=Rp.str) (e:=9) 43 (bG.mono (mx X ac)) z (by rw[U]; rfl) λcS cW aa bp co=>γ (w' 8 ÿ z z z)<|ø 4 jB z<|θ z<|m' ?_
  obtain rfl:_=r:=a
  exact l5 z (hQ (i:=4) ÿ z z z) z ⟨_,_,_,_,_,_,z,bp,(bj.mono (mx ac aa)),(bd.mono aa)⟩
 refine sr<|γ (iI z z)<|θ z<|J' a z (λbT a=>?_) (λbT a=>?_)
 .refine c'<|hZ [ff,ff,ff,ff,ff,ff,ff,ff,ff,ff,ff,ff,ff] gp (by kernel_rfl) λp=>η.pW (r:=Rp.str) (e:=9) ([]:Ŀ Ĳ) (λ_=>z) z (by decide) (λu o c t=>?_) ?_
  .exact⟨#[],[],z,z,λ_=>by kernel_rfl,z⟩
  refine cu (λ_ _ c=>lI z)<|cu (λ_ _ c=>f' 2 lr z z z)<|cu (λ_ _ c=>pk z)<|cu (λ_ _ c=>f' 3 ñ z z z) ?_
  obtain⟨bD,a⟩:=a
  obtain⟨p7,b8,bL,bU⟩:=ë.cut (r:=Rp.str) none (some (i' f.Ζ)) nJ z Q' g (.inl ⟨z,z⟩) (.inr ⟨_,z⟩) bD
  refine cu (λ_ _ c=>Y0.B8 Q' bU z z)<|oA a λbl a=>η.nS (r:=Rp.str) (e:=9) (kk:=69) (xs:=([]:Ŀ Ĳ)) ((d.vars.take f.Ζ.toNat).drop (0:Int).toNat) (λ_=>z) z (by kernel_rfl) (by kernel_rfl) Q' tP z (by decide) bl (λu o c t=>?_) ?_
  .obtain⟨aq,_⟩:=(show (kZ Rp.str 9 69 ([]:Ŀ Ĳ)) (u 69) o/\True from t)
   exact⟨u 69,.slice p7 ((d.vars.take f.Ζ.toNat).drop (0:Int).toNat).length b8,aq,z,z,(bL.mono c)⟩
  refine cu (λ_ _ c=>lI z)<|cu (λ_ _ c=>f' 2 lr z z z)<|cu (λ_ _ c=>pk z)<|cu (λ_ _ c=>f' 3 ñ z z z)<|cu (λ_ _ c=>O' z z) ?_
  obtain⟨bW,a⟩:=a
  obtain⟨p8,da,bE,ca⟩:=ë.cut (r:=Rp.str) (some (i' (i64.wrap (f.Ζ+1)))) none nJ z Q' g (.inr ⟨_,z⟩) (.inl ⟨z,z⟩) bW
  refine cu (λ_ _ c=>Y0.B9 Q' ca z z)<|η.ql λcm cf X2 Q M a7=>WL.nR M (λce cp bK aL aI cr=>?_)
  subst aL
  refine sv (show WL _ _ _ _ _ _ (St w0 G0 X2.m _) from ?_)
  refine oA a λbr a=>wF (r:=Rp.str) (e:=9) 75 z z Q' tP z (by decide) z z aI z (bE.mono Q) br λp9 ar cD bH=>γ (lI z)<|kN 8 ([.slice p9 ((([]:Ŀ Ĳ)++((d.vars.take f.Ζ.toNat).drop (0:Int).toNat))++((d.vars.take (d.vars.length:Int).toNat).drop (i64.wrap (f.Ζ+1)).toNat)).length ar,ε m d.eqs n,ε j d.ζ h,i' d.next]).toArray z vN z z z (show 0<4 by decide) z z<|q'<|fh<|a'<|c'<|hZ [ff,ff,ff,ff,ff,ff,ff] gp (by kernel_rfl) λp=>cn (λ_ c=>mf z)<|cn (λ_ c=>f' 2 jV z z z)<|cn (λ_ c=>pk z)<|cn (λ_ c=>f' 3 ñ z z z)<|ù z<|cn (λ_ c=>nU z z)<|oE a λcA aC a=>sn z (λ_=>x' AH z) (Ch aC) z (λo c=>trivial)<|jz p<|oE a λao aM a=>U' z z (x' ze z) (zW aM) z ((l.mono Q)) (λci c6 V P=>?_)
  obtain⟨ad,Z,rfl,aQ⟩:=P
  refine γ (mf z)<|kN 8 ([.slice p9 ((([]:Ŀ Ĳ)++((d.vars.take f.Ζ.toNat).drop (0:Int).toNat))++((d.vars.take (d.vars.length:Int).toNat).drop (i64.wrap (f.Ζ+1)).toNat)).length ar,ε ad ao Z,ε j d.ζ h,i' d.next]).toArray z lU z z z (show 1<4 by decide) z z<|q'<|fh<|a'<|hZ [ff,ff,ff,ff,ff,ff,ff] gp (by kernel_rfl) λp=>cn (λ_ c=>mN z)<|cn (λ_ c=>f' 2 jV z z z)<|cn (λ_ c=>pk z)<|cn (λ_ c=>f' 3 ñ z z z)<|ù z<|cn (λ_ c=>nU z z)<|oE a λcJ aR a=>sn z (λ_=>x' AH z) (Ch aR) z (λo c=>trivial)<|jz p<|oE a λbn aT a=>U' z z (x' ze z) (zW aT) z ((k.mono (mx Q V))) (λch c9 W R=>?_)
  obtain⟨aA,aO,rfl,aJ⟩:=R
  refine γ (mN z)<|kN 8 ([.slice p9 ((([]:Ŀ Ĳ)++((d.vars.take f.Ζ.toNat).drop (0:Int).toNat))++((d.vars.take (d.vars.length:Int).toNat).drop (i64.wrap (f.Ζ+1)).toNat)).length ar,ε ad ao Z,ε aA bn aO,i' d.next]).toArray z lU z z z (show 2<4 by decide) z z<|q'<|fh<|A'<|a'<|sr<|qX (r:=Rp.str) (e:=9) 75 (bH.mono (mx V W)) z (by rw[U]; rfl) λc8 cY af bf cq=>γ (w' 8 ÿ z z z)<|ø 4 jB z<|θ z<|m' ?_
  obtain rfl:_=r:=a
  exact l5 z (hQ (i:=4) ÿ z z z) z ⟨_,_,_,_,_,_,z,bf,(aQ.mono (mx W af)),(aJ.mono af)⟩
 refine sr<|γ (iI z z)<|θ z<|J' a z (λbP a=>?_) (λbP a=>?_)
 .refine p'<|γ (lI z)<|γ (f' 8 lr z z z)<|γ (pk z)<|γ (f' 3 ñ z z z)<|γ (zU z)<|γ (f' 3 ou z z z)<|oE a λx1 a4 a=>γ (qV Q' nJ Y z z a4)<|sp (r:=Rp.str) (e:=9) (cs':=[.string f.name]) (i:=f.Ζ) (z':=f.name) 4021 z nJ z Y z z z z z a4 λc7 bz=>q'<|A'<|a'<|sr<|qX (r:=Rp.str) (e:=9) 4021 bz z (by rw[U]; rfl) λcZ c3 T ap ck=>γ (w' 8 ÿ z z z)<|ø 4 jB z<|θ z<|m' ?_
  obtain rfl:_=r:=a
  exact l5 z (hQ (i:=4) ÿ z z z) z ⟨_,_,_,_,_,_,(by rw[tz ap]),(tA ap),(l.mono T),(k.mono T)⟩
 refine sr<|γ (iI z z)<|θ z<|J' a z (λb7 a=>?_) (λb7 a=>?_)
 .refine sr<|oE a λy aS a=>I' z z (x' AH z) (Ch aS) z (trivial)<|T' 9 z uT z λb5=>y' 9 z n4 z z z (M' _ _ _) (M' _ _ _) (λu t=>Rp.one (pt .i64 8) (G:=G0) (x:=y) (cs:=Ι y) z u (by first|simpa using t|simpa [Value.cells] using t))<|nr<|γ (pk z)<|γ (f' 3 ñ z z z)<|γ (Cy z)<|γ (f' 3 ñ z z z)<|oA a λbM a=>γ (k0 rH gh z z bM)<|kN 9 (Ι (å y f.Ζ.toNat f.ll)).toArray z gh z z z (by first|(rw[M']; omega)|(show _<(í _ _ _).toArray.size; rw[M']; omega)) z (qR _ _ _ _ _)<|nr<|γ (Cy z)<|γ (f' 3 ñ z z z)<|γ (pk z)<|γ (f' 3 ñ z z z)<|oA a λbF a=>γ (k0 rH gh z z bF)<|kN 9 (Ι (å (å y f.Ζ.toNat f.ll) f.ll.toNat f.Ζ)).toArray z gh z z z (by first|(rw[M']; omega)|(show _<(í _ _ _).toArray.size; rw[M']; omega)) z (qR _ _ _ _ _)<|nx<|c'<|hZ [ff,ff,ff,ff,ff,ff,ff,ff,ff,ff] gp (by kernel_rfl) λp=>cn (λ_ c=>lI z)<|cn (λ_ c=>f' 8 lr z z z)<|cn (λ_ c=>pk z)<|cn (λ_ c=>f' 3 ñ z z z)<|cn (λ_ c=>lI z)<|cn (λ_ c=>f' 2 lr z z z)<|cn (λ_ c=>Cy z)<|cn (λ_ c=>f' 3 ñ z z z)<|oE a λx2 aU a=>cn (λ_ c=>X' Q' nJ (g.mono c) z z aU)<|cn (λ_ c=>il ou z (qQ (R' (Á g aU) c)))<|jz p<|oE a λx3 a0 a=>γ (qV Q' nJ Y z z a0)<|sp (r:=Rp.str) (e:=9) (cs':=[.string x2]) (i:=f.Ζ) (z':=x2) 4021 z nJ z Y z z z z z a0 λcV ay=>q'<|fh<|a'<|c'<|hZ [ff,ff,ff,ff,ff,ff,ff,ff,ff,ff] gp (by kernel_rfl) λp=>cn (λ_ c=>lI z)<|cn (λ_ c=>f' 8 lr z z z)<|cn (λ_ c=>Cy z)<|cn (λ_ c=>f' 3 ñ z z z)<|cn (λ_ c=>lI z)<|cn (λ_ c=>f' 2 lr z z z)<|cn (λ_ c=>pk z)<|cn (λ_ c=>f' 3 ñ z z z)<|oE a λx4 aW a=>cn (λ_ c=>X' Q' nJ (g.mono c) z z aW)<|cn (λ_ c=>il ou z (qQ (R' (Á g aW) c)))<|jz p<|oE a λx5 aX a=>γ (qV Q' nJ ay z z aX)<|sp (r:=Rp.str) (e:=9) (cs':=[.string x4]) (i:=f.ll) (z':=x4) 4021 z nJ z ay z z z z z aX λc2 bt=>q'<|fh<|a'<|sr<|γ (mf z)<|γ (f' 2 jV z z z)<|γ (w' 9 mQ z z (M' _ _ _))<|oE a λaw aF a=>U' z z (x' ze z) (zW aF) z (l) (λcl cv B J=>?_)
  obtain⟨ae,ab,rfl,aN⟩:=J
  refine γ (mf z)<|kN 8 ([.slice p2 ([]++d.vars).length au,ε ae aw ab,ε j d.ζ h,i' d.next]).toArray z lU z z z (show 1<4 by decide) z z<|nx<|p'<|γ (mN z)<|γ (f' 2 jV z z z)<|γ (w' 9 mQ z z (M' _ _ _))<|oE a λbs aK a=>U' z z (x' ze z) (zW aK) z ((k.mono B)) (λcc cP I K=>?_)
  obtain⟨aH,aB,rfl,az⟩:=K
  refine γ (mN z)<|kN 8 ([.slice p2 ([]++d.vars).length au,ε ae aw ab,ε aH bs aB,i' d.next]).toArray z lU z z z (show 2<4 by decide) z z<|q'<|A'<|a'<|sr<|qX (r:=Rp.str) (e:=9) 4021 (bt.mono (mx B I)) z (by rw[U]; rfl) λc1 cO D ax cd=>γ (w' 8 ÿ z z z)<|ø 4 jB z<|θ z<|m' ?_
  obtain rfl:_=r:=a
  exact l5 z (hQ (i:=4) ÿ z z z) z ⟨_,_,_,_,_,_,(by rw[tz ax]),(tA ax),(aN.mono (mx I D)),(az.mono D)⟩
 refine sr<|γ (w' 2 ÿ z z z)<|γ (w' 3 mg z z z)<|oE a λcI aP a=>U' z z (x' Tf z) (fN' aP) z (⟨g,l,k,C⟩) (λcg cz bY O=>?_)
 obtain⟨a1,aV,bk,bg,aY,a2,rfl,A,L,H⟩:=O
 refine ø 4 jB z<|θ z<|m'<|B'<|b' ?_
 obtain rfl:_=r:=a
 exact l5 z (hQ (i:=4) ÿ z z z) z ⟨_,_,_,_,_,_,z,A,L,H⟩
theorem gB'{l1 V av ax r}(a:(Jq l1 V).ο r):ä prog 14 #[ε av l1 ax,i' V] (λG=>sl wA G av ax l1) (mI r):=by
 refine E' (args:=[_,_]) (N:=36) func14 z z z (λw0 G0 bb aV=>?_)
 have au:=aV
 refine sr<|T' 4 z na z λb1=>nr<|γ (iK (vs:=#[(3,i' 1)]) (v:=.agg ([.slice none 0 0,.slice none 0 0,.slice none 0 0,i' 1]).toArray) z z (λ_=>by kernel_rfl))<|T' 5 z na z λb2=>ø 5 jB z<|nx<|c'<|sr<|θ z<|Z' (X:=Int×Zb×ŀ Addr×Nat×ŀ Addr×Nat×ŀ Addr×Nat×Mem) a (λ⟨i1,L,l,e,p,o,g,k,Q⟩=>⟨(i1,L),[(0,ε av l1 ax),(1,i' V),(4,Τ b1),(5,Τ b2),(6,i' i1)],Mem.le G0 Q/\sl Rp.str Q l e L.vars/\sl j' Q p o L.eqs/\sl j' Q g k L.ζ,St w0 G0 Q [(4,Ξ b1 ([.slice none 0 0,.slice none 0 0,.slice none 0 0,i' 0]) 29),(5,Ξ b2 (Ρ L l e p o g k) 29)]⟩) (λ(⟨T,K,H,O,M,J,I,U⟩:Zb×ŀ Addr×Nat×ŀ Addr×Nat×ŀ Addr×Nat×Mem)=>⟨T,[(4,Τ b1),(5,Τ b2)],Mem.le G0 U/\sl Rp.str U K H T.vars/\sl j' U O M T.eqs/\sl j' U J I T.ζ,St w0 G0 U [(4,Ξ b1 ([.slice none 0 0,.slice none 0 0,.slice none 0 0,i' 0]) 29),(5,Ξ b2 (Ρ T K H O M J I) 29)]⟩) ⟨0,(Zb.mk [] [] [] 1),none,0,none,0,none,0,G0⟩ z (υ z) ⟨mr,(gi _ _),(gi _ _),(gi _ _)⟩ (w2 z z) ?_ ?_
 .rintro _ ⟨i1,L,l,e,p,o,g,k,Q⟩ ⟨y,s,x,q⟩ a
  refine c'<|sr<|δ z<|δ z<|γ (N' Fx (au.mono y) z)<|eZ a z (nb z z) z (λa1 a=>?_) (λa1 a=>?_)
  .refine δ z<|Â z<|Â z<|gy z z (nb z z) z<|Δ z<|nx<|J' a z (λa2 a=>?_) (λa2 a=>?_)
   .refine o'<|a'<|c'<|V'<|c'<|hZ [ff,ff,ff,ff,ff,ff,ff,ff,ff,ff,tt,ff] gp (by kernel_rfl) λhb=>cn (λ_ d=>w' 5 ÿ z z z)<|cn (λ_ d=>w' 5 ÿ z z z)<|ù z<|ù z<|oE a λx1 aN a=>cn (λ_ d=>X' Fx wX ((au.mono y).mono d) z z aN) ?_
    obtain⟨a5,a4,aW,aF⟩:=M3 (R' (Á au aN) y)
    refine cn (λ_ d=>jC _ wy z z (λj v hv=>d _ _ _ (aW j v hv)))<|oE a λaM aR a=>mL (post:=r0 aM) (λ_=>z) (λ_ _=>x' LY z) (Sj aR) z (λY d=>⟨(s.mono d),(x.mono d),(q.mono d),(aF.mono d)⟩) (λv G1 G2 d h=>?_) ?_
    .obtain⟨ai,ag,rfl,R⟩:=h
     exact⟨_,_,z,R.mono d⟩
    refine oE a λP aS a=>sm (f:=37) (φ:=mJ P) (λ_=>z) (λv G1 G2 d h=>?_) (λu Y d w=>?_) ?_
    .obtain⟨D,C,E,F,A,B,rfl,n,t,m⟩:=h
     exact⟨_,_,_,_,_,_,z,n.mono d,t.mono d,m.mono d⟩
    .obtain⟨⟨ai,ag,aE,R⟩,_⟩:=(show (r0 aM) Y.m (u 28)/\True from w)
     exact⟨_,_,_,λ_=>x' G6 z,KJ aS,(by simp only[aE] <;> rfl),⟨(s.mono d),(x.mono d),(q.mono d),R⟩⟩
    refine qY (φ:=mJ P) (λ_=>z) (λv G1 G2 d h=>?_) (λu Y d w=>?_) ?_
    .obtain⟨p1,aj,p2,ah,p3,af,rfl,Z,ab,aa⟩:=h
     exact⟨_,_,_,_,_,_,z,Z.mono d,ab.mono d,aa.mono d⟩
    .obtain⟨⟨D,C,E,F,A,B,aD,n,t,m⟩,_,_⟩:=(show (mJ P) Y.m (u 29)/\True/\True from w)
     simp only[ψ,aD]
     exact⟨_,h' z,D,C,E,F,A,B,z,n,t,m⟩
    refine qY (φ:=mI P.1) (λ_=>z) (λv G1 G2 d h=>?_) (λu Y d w=>?_) ?_
    .obtain⟨p4,aL,p5,aJ,p6,aK,rfl,ar,ay,aq⟩:=h
     exact⟨_,_,_,_,_,_,z,ar.mono d,ay.mono d,aq.mono d⟩
    .obtain⟨⟨p1,aj,p2,ah,p3,af,W,Z,ab,aa⟩,_,_,_⟩:=(show (mJ P) Y.m (u 21)/\True/\True/\True from w)
     simp only[ψ,W]
     exact⟨_,P' z z,p1,aj,p2,ah,p3,af,z,Z,ab,aa⟩
    refine vn (c:=i' P.2) (λ_=>z) (λu Y d w=>?_) ?_
    .obtain⟨_,⟨p1,aj,p2,ah,p3,af,W,Z,ab,aa⟩,_,_,_⟩:=(show True/\(mJ P) Y.m (u 21)/\True/\True/\True from w)
     simp only[ψ,W]
     exact P' z z
    refine uQ (λ_=>z) na<|η.rr (λbc a7 a6 a8 a9 X1 S az al ao ap ak=>?_)
    obtain⟨b3,rfl,aQ⟩:=az
    obtain⟨p4,aL,p5,aJ,p6,aK,rfl,ar,ay,aq⟩:=al
    obtain⟨p1,aj,p2,ah,p3,af,rfl,Z,ab,aa⟩:=ao
    obtain⟨D,C,E,F,A,B,rfl,n,t,m⟩:=ap
    obtain⟨ai,ag,rfl,R⟩:=ak
    refine yv aQ (sv (show WL _ _ _ _ _ _ (St w0 G0 X1.m _) from ?_))
    refine ø 7 jB z<|ς z<|q'<|fh<|a'<|sr<|δ z<|γ (iI z z)<|nx<|J' a z (λaZ a=>?_) (λaZ a=>?_)
    .refine p'<|γ (w' 7 ÿ z z z)<|ø 5 jB z<|q'<|A'<|a'<|p'<|δ z<|é z<|ς z<|q'<|K' ⟨i64.wrap (i1+1),P.1,p4,aL,p5,aJ,p6,aK,X1.m⟩ a ⟨(mx y S),ar,ay,aq⟩ (υ z) (w2 z z)
    refine o'<|A'<|a'<|p'<|δ z<|é z<|ς z<|q'<|K' ⟨i64.wrap (i1+1),L,l,e,p,o,g,k,X1.m⟩ a ⟨(mx y S),(s.mono S),(x.mono S),(q.mono S)⟩ (υ z) (w2 z z)
   refine Æ<|g'<|g'<|H'<|Ë ⟨L,l,e,p,o,g,k,Q⟩ ⟨a,y,s,x,q⟩ (υ z) (w2 z z)
  refine δ z<|lu z<|Γ z<|nx<|lJ z<|Æ<|g'<|g'<|H'<|Ë ⟨L,l,e,p,o,g,k,Q⟩ ⟨a,y,s,x,q⟩ (υ z) (w2 z z)
 rintro⟨T,K,H,O,M,J,I,U⟩ ⟨a,a3,ac,an,ad⟩
 refine a'<|sr<|γ (w' 5 ÿ z z z)<|ø 4 jB z<|nx<|m' ?_
 obtain rfl:_=r:=a
 exact k' z (hQ (i:=4) ÿ z z z) ⟨_,_,_,_,_,_,z,ac,an,ad⟩
theorem SD{s1 l1 R J K Z Y P L ak al r}(a:(Eb s1 l1 R).ο r):ä prog 16 #[.agg ((Ρ s1 J K Z Y P L)).toArray,ε ak l1 al,i' R] (λG=>sl Rp.str G J K s1.vars/\sl j' G Z Y s1.eqs/\sl j' G P L s1.ζ/\sl wA G ak al l1) (jx sQ r):=by
 refine E' (args:=[_,_,_]) (N:=44) func16 z z z (λw0 G0 aw aN=>?_)
 obtain⟨aq,av,ao,ax⟩:=aN
 refine sr<|ý 3 z z z λb1=>ς z<|nr<|jL (e:=106) (r:=sQ) (vs:=#[]) (cs:=[]) ([]:Ŀ Zh) z z z z z (by decide) (λ_=>by kernel_rfl) (z) (key:=999) z (by rw[aw]; rfl) λp1 az C aU=>θ z<|c'<|sr<|θ z<|Z' (X:=(Ŀ Zh)×ŀ Addr×Nat×ŀ Ow×Int×Zb×ŀ Addr×Nat×ŀ Addr×Nat×ŀ Addr×Nat×Mem) a (λ⟨i,s,p,m,w,H,o,k,y,x,n,l,B⟩=>⟨(i,w,H),[(1,ε ak l1 al),(2,i' R),(3,Τ b1),(7,ε s i p),(8,i' w)],Mem.le az B/\sl sQ B s p i/\Tok 7 106 (ε s i p) i.length m/\sl Rp.str B o k H.vars/\sl j' B y x H.eqs/\sl j' B n l H.ζ,St w0 G0 B [(3,Ξ b1 (Ρ H o k y x n l) 29),(1007,m)]⟩) (λ(⟨O,U,Q,W,am⟩:(Ŀ Zh)×ŀ Addr×Nat×ŀ Ow×Mem)=>⟨O,[(7,ε U O Q)],Mem.le az am/\sl sQ am U Q O/\Tok 7 106 (ε U O Q) O.length W,St w0 G0 am [(1007,W)]⟩) ⟨[],p1,0,none,0,s1,J,K,Z,Y,P,L,az⟩ z (υ z) ⟨mr,aU,qC,(aq.mono C),(av.mono C),(ao.mono C)⟩ (wk (lc z (lw ln))) ?_ ?_
 .rintro _ ⟨i,s,p,m,w,H,o,k,y,x,n,l,B⟩ ⟨A,S,F,D,M,E⟩ a
  refine k5 a (λ(gx:Mem)=>match gx with|ay=>⟨[(1,ε ak l1 al),(2,i' R),(3,Τ b1),(7,ε s i p),(8,i' w)],Na l1 i w H,Mem.le B ay,St w0 G0 ay [(3,Ξ b1 (Ρ H o k y x n l) 29),(1007,m)]⟩) ?_ ?_
  .refine sr<|δ z<|δ z<|γ (N' Fx (ax.mono (mx C A)) z)<|eZ a z (nb z z) z (λaY a=>?_) (λaY a=>?_)
   .refine δ z<|Â z<|Â z<|gy z z (nb z z) z<|Δ z<|nx<|J' a z (λaT a=>?_) (λaT a=>?_)
    .refine o'<|ia B ⟨a,mr⟩ (υ z) (w2 z z)
    refine Æ<|g'<|g'<|H'<|Ë ⟨i,s,p,m,B⟩ ⟨a,A,S,F⟩ (f1 z) (w1 z)
   refine δ z<|lu z<|Γ z<|nx<|lJ z<|Æ<|g'<|g'<|H'<|Ë ⟨i,s,p,m,B⟩ ⟨a,A,S,F⟩ (f1 z) (w1 z)
  rintro ay ⟨a,d⟩
  refine c'<|V'<|c'<|hZ [ff,ff,ff,ff,ff,ff,ff] gp (by kernel_rfl) λhb=>cn (λ_ u=>w' 3 ÿ z z z)<|ù z<|ù z<|oE a λx1 aG a=>cn (λ_ u=>X' Fx wX ((ax.mono (mx (mx C A) d)).mono u) z z aG) ?_
  obtain⟨a2,a1,aP,aD⟩:=M3 (R' (Á ax aG) (mx (mx C A) d))
  refine cn (λ_ u=>jC _ wy z z (λj v hv=>u _ _ _ (aP j v hv)))<|oE a λc aL a=>mL (post:=r0 c) (λ_=>z) (λ_ _=>x' LY z) (Sj aL) z (λG' u=>⟨((D.mono d).mono u),((M.mono d).mono u),((E.mono d).mono u),(aD.mono u)⟩) (λv G1 G2 u h=>?_) ?_
  .obtain⟨g,f,rfl,T⟩:=h
   exact⟨_,_,z,T.mono u⟩
  refine uQ (λ_=>z) zd<|η.ql (λbb a7 X1 t aA an=>?_)
  obtain⟨b2,rfl,aJ⟩:=aA
  obtain⟨g,f,rfl,T⟩:=an
  refine yv aJ (sv (show WL _ _ _ _ _ _ (St w0 G0 X1.m _) from ?_))
  refine ø 9 rX z<|q'<|fh<|a'<|sr<|γ (w' 3 ÿ z z z)<|γ (w' 9 mg z z z)<|oE a λaS aM a=>U' z z (x' G6 z) (KJ aM) z (⟨(D.mono (mx d t)),(M.mono (mx d t)),(E.mono (mx d t)),T⟩) (λa6 aQ q ar=>?_)
  obtain⟨af,ad,ah,ai,aa,ab,rfl,ae,ag,ac⟩:=ar
  refine δ z<|Û z<|Û z<|T' 10 z na z λb3=>ø 10 jB z<|ς z<|nr<|δ z<|γ (iI z z)<|nx<|J' a z (λaZ a=>?_) (λaZ a=>?_)
  .refine sr<|δ z<|γ (w' 9 mg z z z)<|jL (e:=106) (r:=sQ) (vs:=#[(0,.agg ((kL c g f)).toArray)]) (cs:=(kL c g f)++([])) ([c]:Ŀ Zh) z z z z z (by decide) (λ_=>by kernel_rfl) ⟨(kL c g f),[],z,⟨[i' c.kind],[.string c.name,i' c.Ζ,i' c.ll,i' c.id,ε g c.p f,.bool c.neq],z,z,⟨[.string c.name],[i' c.Ζ,i' c.ll,i' c.id,ε g c.p f,.bool c.neq],z,z,⟨[i' c.Ζ],[i' c.ll,i' c.id,ε g c.p f,.bool c.neq],z,z,⟨[i' c.ll],[i' c.id,ε g c.p f,.bool c.neq],z,z,⟨[i' c.id],[ε g c.p f,.bool c.neq],z,z,⟨[ε g c.p f],[.bool c.neq],z,⟨_,z,(T.mono q)⟩,z⟩⟩⟩⟩⟩⟩,z⟩ (key:=999) z (by rw[aw]; rfl) (λp2 ba I aX=>?_)
   refine oA a λaI a=>nt (r:=sQ) 1007 z z Fy Cw z (by decide) z z (S.mono (mx (mx (mx d t) q) I)) z (by rw[aw]; rfl) F aX aI λp3 aR aH aO V aW aK=>θ z<|p'<|γ (w' 10 ÿ z z z)<|ø 3 jB z<|q'<|A'<|a'<|p'<|δ z<|é z<|ς z<|q'<|K' ⟨(i++[c]),p3,aR,aH,i64.wrap (w+1),aS.1,af,ad,ah,ai,aa,ab,aO⟩ a ⟨(mx (mx (mx (mx (mx A d) t) q) I) V),aW,aK,(ae.mono (mx I V)),(ag.mono (mx I V)),(ac.mono (mx I V))⟩ (υ z) (w2 z z)
  have N1:=mx (mx d t) q
  refine o'<|A'<|a'<|p'<|δ z<|é z<|ς z<|q'<|K' ⟨i,s,p,m,i64.wrap (w+1),H,o,k,y,x,n,l,aQ⟩ a ⟨(mx (mx (mx A d) t) q),(S.mono N1),F,(D.mono N1),(M.mono N1),(E.mono N1)⟩ (υ z) (w2 z z)
 rintro⟨O,U,Q,W,am⟩ ⟨a,a0,aF,aV⟩
 refine a'<|sr<|δ z<|θ z<|m' ?_
 obtain rfl:_=r:=a
 exact k' z z ⟨_,_,z,aF⟩
theorem gN'{s1 l1 ab ac am aj ae ad aC aE r}(a:(Km s1 l1).ο r):ä prog 39 #[.agg ((Ρ s1 ab ac am aj ae ad)).toArray,ε aC l1 aE] (λG=>sl Rp.str G ab ac s1.vars/\sl j' G am aj s1.eqs/\sl j' G ae ad s1.ζ/\sl sQ G aC aE l1) (C8 r):=by
 refine E' (args:=[_,_]) (N:=33) func39 z z z (λw0 G0 bu bd=>?_)
 obtain⟨aN,aQ,aI,aA⟩:=bd
 refine sr<|ý 2 z z z λb1=>T' 4 z Dd z λb2=>nx<|c'<|sr<|θ z<|Z' (X:=Int×Zb×ŀ Addr×Nat×ŀ Addr×Nat×ŀ Addr×Nat×ZI×ŀ Addr×Nat×ŀ Addr×Nat×ŀ Addr×Nat×Mem) a (λ⟨i1,an,I,C,T,S,H,E,ag,e,g,p,s,f,k,V⟩=>⟨(i1,an,ag),[(1,ε aC l1 aE),(2,Τ b1),(4,Τ b2),(5,i' i1)],Mem.le G0 V/\sl Rp.str V I C an.vars/\sl j' V T S an.eqs/\sl j' V H E an.ζ/\sl Rp.str V e g ag.s.vars/\sl j' V p s ag.s.eqs/\sl j' V f k ag.s.ζ,St w0 G0 V [(2,Ξ b1 (Ρ an I C T S H E) 29),(4,Ξ b2 (rY ag e g p s f k) 114)]⟩) (λ(⟨L,t,n,A,y,q,o,ap,Q,M,Y,W,O,R,w⟩:Zb×ŀ Addr×Nat×ŀ Addr×Nat×ŀ Addr×Nat×ZI×ŀ Addr×Nat×ŀ Addr×Nat×ŀ Addr×Nat×Mem)=>⟨(.inr (L,ap)),[(1,ε aC l1 aE),(2,Τ b1),(4,Τ b2)],Mem.le G0 w/\sl Rp.str w t n L.vars/\sl j' w A y L.eqs/\sl j' w q o L.ζ/\sl Rp.str w Q M ap.s.vars/\sl j' w Y W ap.s.eqs/\sl j' w O R ap.s.ζ,St w0 G0 w [(2,Ξ b1 (Ρ L t n A y q o) 29),(4,Ξ b2 (rY ap Q M Y W O R) 114)]⟩) ⟨0,s1,ab,ac,am,aj,ae,ad,(ZI.mk (Zb.mk [] [] [] 0) 0 0),none,0,none,0,none,0,G0⟩ z (υ z) ⟨mr,aN,aQ,aI,(gi _ _),(gi _ _),(gi _ _)⟩ (w2 z z) ?_ ?_
 .rintro _ ⟨i1,an,I,C,T,S,H,E,ag,e,g,p,s,f,k,V⟩ ⟨Z,ai,ao,ak,ah,al,af⟩ a
  refine c'<|sr<|δ z<|δ z<|γ (N' Fy (aA.mono Z) z)<|Ï z<|nx<|J' a z (λbn a=>?_) (λbn a=>?_)
  .refine o'<|a'<|c'<|V'<|c'<|hZ [ff,ff,ff,ff,ff,ff,ff,ff,tt,ff] gp (by kernel_rfl) λhb=>cn (λ_ d=>w' 2 ÿ z z z)<|ù z<|ù z<|oE a λx1 a8 a=>cn (λ_ d=>X' Fy rX ((aA.mono Z).mono d) z z a8) ?_
   obtain⟨bq,bs,bf,be⟩:=Xb (R' (Á aA a8) Z)
   refine cn (λ_ d=>jC _ mg z z (λj v hv=>d _ _ _ (bf j v hv)))<|oE a λU bb a=>mL (post:=mJ U) (λ_=>z) (λ_ _=>x' G6 z) (KJ bb) z (λG' d=>⟨(ai.mono d),(ao.mono d),(ak.mono d),(be.mono d)⟩) (λv G1 G2 d h=>?_) ?_
   .obtain⟨D,J,K,P,F,B,rfl,l,x,m⟩:=h
    exact⟨_,_,_,_,_,_,z,l.mono d,x.mono d,m.mono d⟩
   refine qY (φ:=mJ U) (λ_=>z) (λv G1 G2 d h=>?_) (λu G' d hu=>?_) ?_
   .obtain⟨p1,aF,p2,aD,p3,aB,rfl,au,aw,av⟩:=h
    exact⟨_,_,_,_,_,_,z,au.mono d,aw.mono d,av.mono d⟩
   .obtain⟨⟨D,J,K,P,F,B,a0,l,x,m⟩,_⟩:=(show (mJ U) G'.m (u 20)/\True from hu)
    simp only[ψ,a0]
    exact⟨_,h' z,D,J,K,P,F,B,z,l,x,m⟩
   refine qY (φ:=mI U.1) (λ_=>z) (λv G1 G2 d h=>?_) (λu G' d hu=>?_) ?_
   .obtain⟨p4,a5,p5,a3,p6,a4,rfl,aS,aU,aR⟩:=h
    exact⟨_,_,_,_,_,_,z,aS.mono d,aU.mono d,aR.mono d⟩
   .obtain⟨⟨p1,aF,p2,aD,p3,aB,aq,au,aw,av⟩,_,_⟩:=(show (mJ U) G'.m (u 14)/\True/\True from hu)
    simp only[ψ,aq]
    exact⟨_,P' z z,p1,aF,p2,aD,p3,aB,z,au,aw,av⟩
   refine vn (c:=i' U.2) (λ_=>z) (λu G' d hu=>?_) ?_
   .obtain⟨_,⟨p1,aF,p2,aD,p3,aB,aq,au,aw,av⟩,_,_⟩:=(show True/\(mJ U) G'.m (u 14)/\True/\True from hu)
    simp only[ψ,aq]
    exact P' z z
   refine uQ (λ_=>z) na<|η.rq (λbv bo bp br X1 ar aV aO aP aH=>?_)
   obtain⟨b3,rfl,ba⟩:=aV
   obtain⟨p4,a5,p5,a3,p6,a4,rfl,aS,aU,aR⟩:=aO
   obtain⟨p1,aF,p2,aD,p3,aB,rfl,au,aw,av⟩:=aP
   obtain⟨D,J,K,P,F,B,rfl,l,x,m⟩:=aH
   refine yv ba (sv (show WL _ _ _ _ _ _ (St w0 G0 X1.m _) from ?_))
   refine ø 6 jB z<|ς z<|q'<|fh<|a'<|c'<|sr<|δ z<|γ (ly z z)<|nx<|J' a z (λbk a=>?_) (λbk a=>?_)
   .refine sr<|δ z<|δ z<|γ (iK (vs:=#[(1,i' i1),(2,i' U.2)]) (v:=.agg ([.slice none 0 0,.slice none 0 0,.slice none 0 0,i' 0,i' i1,i' U.2]).toArray) z z (λ_=>by kernel_rfl))<|ø 4 uk z<|nx<|m'<|b'<|B'<|b'<|b'<|B'<|jl<|b' ?_
    obtain rfl:_=r:=a
    exact k' z (hQ (i:=4) wz z z z) ⟨_,_,_,_,_,_,z,(gi Rp.str _),(gi j' _),(gi j' _)⟩
   refine o'<|a'<|p'<|γ (w' 6 ÿ z z z)<|ø 2 jB z<|q'<|A'<|a'<|p'<|δ z<|é z<|ς z<|q'<|K' ⟨i64.wrap (i1+1),U.1,p4,a5,p5,a3,p6,a4,ag,e,g,p,s,f,k,X1.m⟩ a ⟨(mx Z ar),aS,aU,aR,(ah.mono ar),(al.mono ar),(af.mono ar)⟩ (υ z) (w2 z z)
  refine Æ<|g'<|g'<|H'<|Ë ⟨an,I,C,T,S,H,E,ag,e,g,p,s,f,k,V⟩ ⟨a,Z,ai,ao,ak,ah,al,af⟩ (υ z) (w2 z z)
 rintro⟨L,t,n,A,y,q,o,ap,Q,M,Y,W,O,R,w⟩ ⟨a,aZ,ax,aM,ay,a7,a9,a6⟩
 refine a'<|sr<|γ (w' 2 ÿ z z z)<|δ z<|γ (N' Fy (aA.mono aZ) z)<|γ (iK (vs:=#[(0,.agg ((Ρ L t n A y q o)).toArray),(1,i' (l1.length:Int))]) (v:=.agg ([ε t L.vars n,ε A L.eqs y,ε q L.ζ o,i' L.next,i' (l1.length:Int),i' 0]).toArray) z z (λ_=>by kernel_rfl))<|ø 4 uk z<|nx<|m' ?_
 obtain rfl:_=r:=a
 exact k' z (hQ (i:=4) wz z z z) ⟨_,_,_,_,_,_,z,ax,aM,ay⟩
theorem Sq{B F j k s q l m D C r}(a:(EY B F).ο r):ä prog 15 #[.agg ((Ρ B j k s q l m)).toArray,ε D F C] (λG=>sl Rp.str G j k B.vars/\sl j' G s q B.eqs/\sl j' G l m B.ζ/\sl sQ G D C F) (lF r):=by
 refine E' (args:=[_,_]) (N:=17) func15 z z z (λT S Q E=>?_)
 obtain⟨y,A,v,I⟩:=E
 refine sr<|ý 2 z z z λR=>T' 4 z na z λU=>ς z<|ς z<|nr<|γ (w' 2 ÿ z z z)<|δ z<|oE a λn H a=>U' z z (x' SV z) (gN' H) z (⟨y,A,v,I⟩) (λO P K x=>?_)
 obtain⟨d,f,h,g,c,e,rfl,p,t,o⟩:=x
 refine T' 7 z Dd z λM=>ø 7 uk z<|nx<|c'<|WC.nv [(7,Ξ M (rY n d f h g c e) 114)] (lc z ln) [ff,ff,tt,tt,tt,tt] gp (by kernel_rfl) λL=>cn (λ_ J=>Y0.ZuG z)<|cn (λ_ J=>gZ ((Ρ n.s d f h g c e)).toArray 7 ÿ z z z (hC ([]) ((Ρ n.s d f h g c e)) ([i' n.n,i' n.e])))<|sP z (Y0.ZuH z)<|sP z (f' 7 ñ z z z)<|sP z (Y0.ZuI z)<|sP z (f' 7 Lt z z z)<|η.lE L<|vo (λw u=>u.weaken (lc z ln))<|ø 4 jB z<|vr<|jc.y0 (λw u=>u.weaken (lc z ln)) z (Y0.assign z) z<|jc.y0 (λw u=>u.weaken (lc z ln)) z (Y0.assign z) z<|jc.nil (λw u=>u.weaken (lc z ln))<|fh<|a'<|m' ?_
 obtain rfl:_=r:=a
 exact rI z (hQ (i:=4) ÿ z z z) z z ⟨_,_,_,_,_,_,z,p,t,o⟩
theorem gC'{x1 an am aV ba bb a3 r}(a:(Js x1).ο r):ä prog 5 #[.agg ((C6 x1 an am aV ba bb a3)).toArray] (λG=>sl wA G an am x1.base/\sl wA G aV ba x1.a/\sl wA G bb a3 x1.b) (λG v=>∃ Z ab ao ap T W X R al af aa S Y U ae aq V ac,v = .tuple #[.agg ((Ρ r.1 Z ab ao ap T W)).toArray,.agg ((Ρ r.2.1 X R al af aa S)).toArray,.agg ((Ρ r.2.2 Y U ae aq V ac)).toArray]/\sl Rp.str G Z ab r.1.vars/\sl j' G ao ap r.1.eqs/\sl j' G T W r.1.ζ/\sl Rp.str G X R r.2.1.vars/\sl j' G al af r.2.1.eqs/\sl j' G aa S r.2.1.ζ/\od G Y U ae aq V ac r.2.2):=by
 refine E' (args:=[_]) (N:=38) func5 z z z (λw0 G0 b8 bG=>?_)
 obtain⟨aO,bz,bw⟩:=bG
 refine sr<|ý 1 z z z λb1=>T' 2 z na z λb2=>T' 3 z na z λb3=>T' 4 z na z λb4=>nr<|γ (Y0.Zve z)<|γ (f' 1 yI z z z)<|oE a λca bA a=>U' z z (x' SK z) (gB' bA) z (aO) (λbZ b9 aH aJ=>?_)
 obtain⟨bC,bt,bH,bI,bu,bD,rfl,m,s,l⟩:=aJ
 refine T' 5 z na z λb5=>ø 5 jB z<|nx<|c'<|hZ [ff,ff,ff,ff,ff,ff,ff,ff,tt,tt,ff] gp (by kernel_rfl) λhb=>cn (λ_ d=>w' 5 ÿ z z z)<|cn (λ_ d=>w' 5 ÿ z z z)<|cn (λ_ d=>Y0.Zvf z)<|cn (λ_ d=>f' 1 yI z z z)<|oE a λbo bB a=>mL (post:=jx sQ bo) (λ_=>z) (λ_ _=>x' LO z) (SD bB) z (λp d=>⟨(m.mono d),(s.mono d),(l.mono d),((bz.mono aH).mono d)⟩) (λv G1 G2 d h=>?_) ?_
 .obtain⟨a2,aW,rfl,au⟩:=h
  exact⟨_,_,z,au.mono d⟩
 refine oE a λL bE a=>sm (f:=15) (φ:=lF L) (λ_=>z) (λv G1 G2 d h=>?_) (λu p d E=>?_) ?_
 .obtain⟨D,t,H,I,y,A,rfl,g,n,e⟩:=h
  exact⟨_,_,_,_,_,_,z,g.mono d,n.mono d,e.mono d⟩
 .obtain⟨⟨a2,aW,bg,au⟩,_⟩:=(show (jx sQ bo) p.m (u 20)/\True from E)
  exact⟨_,_,_,λ_=>x' LN z,Sq bE,(by simp only[bg] <;> rfl),⟨(m.mono d),(s.mono d),(l.mono d),au⟩⟩
 refine qY (φ:=lF L) (λ_=>z) (λv G1 G2 d h=>?_) (λu p d E=>?_) ?_
 .obtain⟨p1,az,p2,ax,p3,av,rfl,ai,ak,aj⟩:=h
  exact⟨_,_,_,_,_,_,z,ai.mono d,ak.mono d,aj.mono d⟩
 .obtain⟨⟨D,t,H,I,y,A,bh,g,n,e⟩,_,_⟩:=(show (lF L) p.m (u 21)/\True/\True from E)
  simp only[ψ,bh]
  exact⟨_,h' z,D,t,H,I,y,A,z,g,n,e⟩
 refine qY (φ:=mI L.1) (λ_=>z) (λv G1 G2 d h=>?_) (λu p d E=>?_) ?_
 .obtain⟨p4,bn,p5,bj,p6,bm,rfl,aZ,a6,aX⟩:=h
  exact⟨_,_,_,_,_,_,z,aZ.mono d,a6.mono d,aX.mono d⟩
 .obtain⟨⟨p1,az,p2,ax,p3,av,O,ai,ak,aj⟩,_,_,_⟩:=(show (lF L) p.m (u 15)/\True/\True/\True from E)
  simp only[ψ,O]
  exact⟨_,P' z z,p1,az,p2,ax,p3,av,z,ai,ak,aj⟩
 refine vn (c:=i' L.2.1) (λ_=>z) (λu p d E=>?_) ?_
 .obtain⟨_,⟨p1,az,p2,ax,p3,av,O,ai,ak,aj⟩,_,_,_⟩:=(show True/\(lF L) p.m (u 15)/\True/\True/\True from E)
  simp only[ψ,O]
  exact P' z z
 refine vn (c:=i' L.2.2) (λ_=>z) (λu p d E=>?_) ?_
 .obtain⟨_,⟨p1,az,p2,ax,p3,av,O,ai,ak,aj⟩,_,_,_⟩:=(show True/\(lF L) p.m (u 15)/\True/\True/\True from E)
  simp only[ψ,O]
  exact P' z z
 refine uQ (λ_=>z) na<|η.rr (λcb bQ bW bR bX X1 q a8 aM aK aP aQ=>?_)
 obtain⟨b6,rfl,bx⟩:=a8
 obtain⟨p4,bn,p5,bj,p6,bm,rfl,aZ,a6,aX⟩:=aM
 obtain⟨p1,az,p2,ax,p3,av,rfl,ai,ak,aj⟩:=aK
 obtain⟨D,t,H,I,y,A,rfl,g,n,e⟩:=aP
 obtain⟨a2,aW,rfl,au⟩:=aQ
 refine yv bx (sv (show WL _ _ _ _ _ _ (St w0 G0 X1.m _) from ?_))
 refine ø 6 jB z<|ς z<|ς z<|q'<|fh<|a'<|c'<|hZ [ff,ff,ff,ff,ff,ff,ff,ff,tt,tt,ff] gp (by kernel_rfl) λhb=>cn (λ_ d=>w' 5 ÿ z z z)<|cn (λ_ d=>w' 5 ÿ z z z)<|cn (λ_ d=>Y0.Zvg z)<|cn (λ_ d=>f' 1 yI z z z)<|oE a λbl br a=>mL (post:=jx sQ bl) (λ_=>z) (λ_ _=>x' LO z) (SD br) z (λp d=>⟨((m.mono q).mono d),((s.mono q).mono d),((l.mono q).mono d),((bw.mono (mx aH q)).mono d)⟩) (λv G1 G2 d h=>?_) ?_
 .obtain⟨a5,aY,rfl,ar⟩:=h
  exact⟨_,_,z,ar.mono d⟩
 refine oE a λM bF a=>sm (f:=15) (φ:=lF M) (λ_=>z) (λv G1 G2 d h=>?_) (λu p d E=>?_) ?_
 .obtain⟨C,B,K,J,F,x,rfl,k,o,j⟩:=h
  exact⟨_,_,_,_,_,_,z,k.mono d,o.mono d,j.mono d⟩
 .obtain⟨⟨a5,aY,bi,ar⟩,_⟩:=(show (jx sQ bl) p.m (u 30)/\True from E)
  exact⟨_,_,_,λ_=>x' LN z,Sq bF,(by simp only[bi] <;> rfl),⟨((m.mono q).mono d),((s.mono q).mono d),((l.mono q).mono d),ar⟩⟩
 refine qY (φ:=lF M) (λ_=>z) (λv G1 G2 d h=>?_) (λu p d E=>?_) ?_
 .obtain⟨p7,ay,p8,aA,p9,aw,rfl,ah,ad,ag⟩:=h
  exact⟨_,_,_,_,_,_,z,ah.mono d,ad.mono d,ag.mono d⟩
 .obtain⟨⟨C,B,K,J,F,x,bf,k,o,j⟩,_,_⟩:=(show (lF M) p.m (u 31)/\True/\True from E)
  simp only[ψ,bf]
  exact⟨_,h' z,C,B,K,J,F,x,z,k,o,j⟩
 refine qY (φ:=mI M.1) (λ_=>z) (λv G1 G2 d h=>?_) (λu p d E=>?_) ?_
 .obtain⟨bk,aT,bq,a9,bp,be,rfl,aE,aG,aC⟩:=h
  exact⟨_,_,_,_,_,_,z,aE.mono d,aG.mono d,aC.mono d⟩
 .obtain⟨⟨p7,ay,p8,aA,p9,aw,P,ah,ad,ag⟩,_,_,_⟩:=(show (lF M) p.m (u 25)/\True/\True/\True from E)
  simp only[ψ,P]
  exact⟨_,P' z z,p7,ay,p8,aA,p9,aw,z,ah,ad,ag⟩
 refine vn (c:=i' M.2.1) (λ_=>z) (λu p d E=>?_) ?_
 .obtain⟨_,⟨p7,ay,p8,aA,p9,aw,P,ah,ad,ag⟩,_,_,_⟩:=(show True/\(lF M) p.m (u 25)/\True/\True/\True from E)
  simp only[ψ,P]
  exact P' z z
 refine vn (c:=i' M.2.2) (λ_=>z) (λu p d E=>?_) ?_
 .obtain⟨_,⟨p7,ay,p8,aA,p9,aw,P,ah,ad,ag⟩,_,_,_⟩:=(show True/\(lF M) p.m (u 25)/\True/\True/\True from E)
  simp only[ψ,P]
  exact P' z z
 refine uQ (λ_=>z) na<|η.rr (λcc bY bO bV bP X2 Q bc aN aL aR aI=>?_)
 obtain⟨b7,rfl,bv⟩:=bc
 obtain⟨bk,aT,bq,a9,bp,be,rfl,aE,aG,aC⟩:=aN
 obtain⟨p7,ay,p8,aA,p9,aw,rfl,ah,ad,ag⟩:=aL
 obtain⟨C,B,K,J,F,x,rfl,k,o,j⟩:=aR
 obtain⟨a5,aY,rfl,ar⟩:=aI
 refine yv bv (sv (show WL _ _ _ _ _ _ (St w0 G0 X2.m _) from ?_))
 refine ø 9 jB z<|ς z<|ς z<|q'<|fh<|a'<|c'<|WC.nv [(6,Ξ b6 (Ρ L.1 p4 bn p5 bj p6 bm) 29),(9,Ξ b7 (Ρ M.1 bk aT bq a9 bp be) 29)] (lc z (lc z ln)) [ff,tt,tt] gp (by kernel_rfl) λhb=>cn (λ_ d=>w' 5 ÿ z z z)<|sP z (w' 6 ÿ z z z)<|sP z (w' 9 ÿ z z z)<|η.lE hb<|vo (λw hs=>hs.weaken (lc z (lc z ln)))<|ø 2 jB z<|vr<|vo (λw hs=>hs.weaken (lc z (lc z ln)))<|ø 3 jB z<|vr<|vo (λw hs=>hs.weaken (lc z (lc z ln)))<|ø 4 jB z<|vr<|jc.nil (λw hs=>hs.weaken (lc z (lc z ln)))<|fh<|a'<|m' ?_
 obtain rfl:_=r:=a
 exact rI z (hQ (i:=2) ÿ z z z) (hQ (i:=3) ÿ z z z) (hQ (i:=4) ÿ z z z) ⟨_,_,_,_,_,_,_,_,_,_,_,_,_,_,_,_,_,_,z,(m.mono (mx q Q)),(s.mono (mx q Q)),(l.mono (mx q Q)),(aZ.mono Q),(a6.mono Q),(aX.mono Q),aE,aG,aC⟩
theorem Sc{d t p r}(a:(Dl d).ο r):ä prog 27 #[ε t d p] (λG=>sl j' G t p d) (jx (Rp.sl n') r):=by
 refine E' (args:=[_]) (N:=23) func27 z z z (λK o L D=>?_)
 have k:=D
 refine sr<|ς z<|nr<|δ z<|γ (N' jG k z)<|oA a λI a=>wG (r:=(Rp.sl n')) (e:=49) (n:=(d.length:Int)) (zx:=[]) 4008 z z Ζ o9 z (by decide) (by decide) ⟨_,z,(gi _ _)⟩ z z I λu C O=>θ z<|c'<|sr<|δ z<|γ (N' jG k z)<|δ z<|nx<|Z' (X:=(Ŀ (Ŀ Za))×ŀ Ow×Int×Mem) a (λ⟨m,h,c,g⟩=>⟨(m,c),[(3,.slice u (d.length:Int).toNat ((d.length:Int).toNat)),(9,ε t d p),(10,i' (d.length:Int)),(11,i' c)],Mem.le o g/\Η (Rp.sl n') 49 g (.slice u (d.length:Int).toNat ((d.length:Int).toNat)) m h,St K o g [(4008,h)]⟩) (λ(⟨A,j,l⟩:(Ŀ (Ŀ Za))×ŀ Ow×Mem)=>⟨A,[(3,.slice u (d.length:Int).toNat ((d.length:Int).toNat))],Mem.le o l/\Η (Rp.sl n') 49 l (.slice u (d.length:Int).toNat ((d.length:Int).toNat)) A j,St K o l [(4008,j)]⟩) ⟨(List.replicate (d.length:Int).toNat []),C,0,o⟩ z (υ z) ⟨mr,O⟩ (w1 z) ?_ ?_
 .rintro _ ⟨m,h,c,g⟩ ⟨f,q⟩ a
  refine sr<|Ï z<|nx<|c'<|J' a z (λQ a=>?_) (λQ a=>?_)
  .refine o'<|a'<|c'<|V'<|sr<|δ z<|oE a λF x a=>γ (X' jG ng (k.mono f) z z x) ?_
   obtain⟨y,B,M,E⟩:=uN (R' (Á k x) f)
   refine γ (jC _ k6 z z M)<|T' 5 z z51 z λW=>ς z<|ø 5 ng z<|nx<|p'<|δ z<|δ z<|γ (sN z)<|γ (f' 5 ij z z z)<|oE a λY v a=>γ (qV Ζ iG q z z v)<|sp (r:=(Rp.sl n')) (e:=49) (cs':=[ε y F.p B]) (i:=c) (z':=F.p) 4008 z iG z q z z z z ⟨_,z,E⟩ v λJ H=>q'<|A'<|a'<|p'<|é z<|δ z<|q'<|K' ⟨(m.set c.toNat F.p),J,i64.wrap (c+1),g⟩ a ⟨f,H⟩ (υ z) (w1 z)
  refine Æ<|g'<|g'<|H'<|Ë ⟨m,h,g⟩ ⟨a,f,q⟩ (f1 z) (w1 z)
 rintro⟨A,j,l⟩ ⟨a,R,P⟩
 refine a'<|sr<|δ z<|θ z<|m' ?_
 obtain rfl:_=r:=a
 refine WE.kT (r:=(Rp.sl n')) (e:=49) 4008 P z (by rw[L]; rfl) λV U T s S=>k' z z ⟨_,_,(tz s),(tA s)⟩
theorem Sb{Q m o C B p s r}(a:(DX Q).ο r):ä prog 8 #[.agg ((Ρ Q m o C B p s)).toArray] (λG=>od G m o C B p s Q) (qL r):=by
 refine E' (args:=[_]) (N:=21) func8 z z z (λw0 G0 aq ab=>?_)
 obtain⟨q,y,n⟩:=ab
 refine sr<|ý 1 z z z λb1=>T' 2 z z39 z λb2=>θ z<|c'<|sr<|γ (w' 1 ÿ z z z)<|oE a λao ad a=>I' z z (x' Df z) (FH ad) z (⟨q,y,n⟩)<|γ (gP z)<|nx<|iC a z (λag a=>?_) (λag a=>?_)
 .refine sr<|γ (iK (vs:=#[]) (v:=.agg ([i' 0,.slice none 0 0,.slice none 0 0]).toArray) z z (λ_=>by kernel_rfl))<|ø 2 mC z<|θ z<|m'<|b' ?_
  obtain rfl:_=r:=a
  exact l5 z (hQ (i:=2) kA z z z) z ⟨_,_,_,_,z,(gi (Rp.sl n') _),(gi (Rp.sl n') _)⟩
 refine o'<|a'<|c'<|hZ [ff,ff,ff,ff,ff,ff,ff,ff,ff,ff,ff,tt] gp (by kernel_rfl) λhb=>cn (λ_ c=>lI z)<|cn (λ_ c=>f' 1 lr z z z)<|cn (λ_ c=>N' Q' (q.mono c) z)<|cn (λ_ c=>Y0.max2 z z)<|cn (λ_ c=>mf z)<|cn (λ_ c=>f' 1 jV z z z)<|oE a λK W a=>mL (post:=jx (Rp.sl n') K) (λ_=>z) (λ_ _=>x' LS z) (Sc W) z (λE c=>(y.mono c)) (λv w Z c h=>?_) ?_
 .obtain⟨L,M,rfl,x⟩:=h
  exact⟨_,_,z,x.mono c⟩
 refine cu (λ_ _ c=>mN z)<|cu (λ_ _ c=>f' 1 jV z z z)<|oE a λR Y a=>mL (post:=jx (Rp.sl n') R) (λ_=>z) (λ_ _=>x' LS z) (Sc Y) z (λE c=>(n.mono c)) (λv w Z c h=>?_) ?_
 .obtain⟨O,P,rfl,t⟩:=h
  exact⟨_,_,z,t.mono c⟩
 refine oE a λA X a=>sm (f:=26) (φ:=qL A) (λ_=>z) (λv w Z c h=>?_) (λu E c hu=>?_) ?_
 .obtain⟨l,k,j,g,rfl,e,d⟩:=h
  exact⟨_,_,_,_,z,e.mono c,d.mono c⟩
 .obtain⟨⟨O,P,V,t⟩,⟨L,M,U,x⟩,_⟩:=(show (jx (Rp.sl n') R) E.m (u 17)/\(jx (Rp.sl n') K) E.m (u 14)/\True from hu)
  exact⟨_,_,_,λ_=>x' LR z,MH _ _ _ _ _ _ _ _ X,(by simp only[V,U] <;> rfl),⟨x,t⟩⟩
 refine η.pR (kk:=18) (φ:=C9 A.1) (by kernel_rfl) (λ_=>z) (λv w Z c h=>?_) (λu E c hu=>?_) ?_
 .obtain⟨p1,af,p2,ae,rfl,S,T⟩:=h
  exact⟨_,_,_,_,z,S.mono c,T.mono c⟩
 .obtain⟨⟨l,k,j,g,D,e,d⟩,_,_,_⟩:=(show (qL A) E.m (u 18)/\True/\True/\True from hu)
  exact⟨_,_,D,(by simp only[ψ,D] <;> rfl),z,l,k,j,g,z,e,d⟩
 refine η.yS (d0:=19) (post0:=C9 A.1) (d1:=18) (post1:=qL A) (d2:=17) (post2:=jx (Rp.sl n') R) (d3:=14) (post3:=jx (Rp.sl n') K) (λal aj am an ap ah F I H J=>?_)
 obtain⟨p1,af,p2,ae,rfl,S,T⟩:=F
 obtain⟨l,k,j,g,rfl,e,d⟩:=I
 obtain⟨O,P,rfl,t⟩:=H
 obtain⟨L,M,rfl,x⟩:=J
 refine Û z<|ø 2 mC z<|ς z<|q'<|fh<|a'<|m' ?_
 obtain rfl:_=r:=a
 exact l5 z (hQ (i:=2) kA z z z) z ⟨_,_,_,_,z,S,T⟩
theorem TO(C:ZK)(p:ŀ Addr)(s:Nat)(Y:ŀ Addr)(ac:Nat)(ag:ŀ Addr)(ah:Nat)(r:Bool)(a:(Mw C).ο r):ä prog 3 #[.agg ((C6 C p s Y ac ag ah)).toArray] (λG=>sl wA G p s C.base/\sl wA G Y ac C.a/\sl wA G ag ah C.b) (λG v=>v = .bool r):=by
 refine E' (args:=[_]) (N:=99) func3 z z z (λw0 G0 bR bk=>?_)
 obtain⟨aa,ar,au⟩:=bk
 refine sr<|ý 1 z z z λb1=>ς z<|nr<|oE a λa1 bf a=>I' z z (x' E4 z) (fF' bf) z (trivial)<|θ z<|c'<|sr<|δ z<|γ (gP z)<|nx<|iC a z (λbC a=>?_) (λbC a=>?_)
 .refine sr<|θ z<|m'<|b' (Μ a z z)
 refine o'<|a'<|sr<|γ (w' 1 Kq z z z)<|oE a λbT bg a=>U' z z (x' E5 z) (gC' bg) z (⟨aa,ar,au⟩) (λbM bQ bD ao=>?_)
 obtain⟨aO,aL,a3,a9,aG,aJ,aI,aM,aZ,a5,aE,aF,aB,aD,a0,aW,aR,aQ,rfl,l,o,k,g,t,e,f,q,h⟩:=ao
 refine δ z<|Û z<|Û z<|Û z<|T' 4 z na z λb2=>T' 5 z na z λb3=>T' 6 z na z λb4=>ø 4 jB z<|ø 5 jB z<|ø 6 jB z<|nr<|γ (w' 4 ÿ z z z)<|γ (w' 5 ÿ z z z)<|γ (w' 6 ÿ z z z)<|oE a λaq bi a=>U' z z (x' E6 z) (yk bi) z (⟨l,o,k,g,t,e,f,q,h⟩) (λbH bU c am=>?_)
 obtain⟨O,F,T,V,I,L,bv,bx,rfl,i,Z,E,ap⟩:=am
 refine δ z<|Û z<|Û z<|Û z<|T' 7 z na z λb5=>ø 7 jB z<|ς z<|ς z<|nr<|γ (w' 4 ÿ z z z)<|γ (w' 6 ÿ z z z)<|γ (w' 5 ÿ z z z)<|oE a λaU bc a=>U' z z (x' E6 z) (yk bc) z (⟨(l.mono c),(o.mono c),(k.mono c),(f.mono c),(q.mono c),(h.mono c),(g.mono c),(t.mono c),(e.mono c)⟩) (λbK aV m aj=>?_)
 obtain⟨M,D,af,ad,J,P,bm,bA,rfl,n,X,H,aw⟩:=aj
 refine δ z<|Û z<|Û z<|Û z<|T' 10 z na z λb6=>ø 10 jB z<|ς z<|θ z<|k5 a (λ(gx:Mem)=>match gx with|ax=>⟨[(3,.bool a1),(7,Τ b5),(9,i' aq.2.2),(10,Τ b6)],Ml a1 aq aU,Mem.le aV ax,St w0 G0 ax [(7,Ξ b5 (Ρ aq.1 O F T V I L) 29),(10,Ξ b6 (Ρ aU.1 M D af ad J P) 29)]⟩) ?_ ?_
 .refine sr<|δ z<|δ z<|eZ a z (ly z z) z (λbt a=>?_) (λbt a=>?_)
  .refine δ z<|ke z<|Δ z<|nx<|iS z<|sr<|θ z<|m'<|b' (Μ a z z)
  refine δ z<|Â z<|Â z<|oE a λbL aS a=>I' (W' z z) z (x' E7 z) (KI aS) z (⟨(ap.mono m),aw⟩)<|gy z z (gP z) z<|Γ z<|nx<|iC a z (λbz a=>?_) (λbz a=>?_)
  .refine sr<|θ z<|m'<|b' (Μ a z z)
  refine o'<|ia aV ⟨a,mr⟩ (υ z) (w2 z z)
 rintro ax ⟨a,d⟩
 refine c'<|sr<|δ z<|γ (ly z z)<|nx<|J' a z (λbs a=>?_) (λbs a=>?_)
 .refine sr<|δ z<|θ z<|m'<|b' (Μ a z z)
 refine o'<|a'<|sr<|γ (w' 7 ÿ z z z)<|oE a λbX bh a=>U' z z (x' E8 z) (Sb bh) z (⟨(i.mono (mx m d)),(Z.mono (mx m d)),(E.mono (mx m d))⟩) (λbG bW j al=>?_)
 obtain⟨ba,a2,ay,aH,rfl,ab,S⟩:=al
 refine δ z<|Û z<|Û z<|T' 13 z z39 z λb7=>ø 13 mC z<|ς z<|nr<|γ (w' 10 ÿ z z z)<|oE a λbP bd a=>U' z z (x' E8 z) (Sb bd) z (⟨(n.mono (mx d j)),(X.mono (mx d j)),(H.mono (mx d j))⟩) (λbF bY A ai=>?_)
 obtain⟨bb,aX,aK,aP,rfl,W,K⟩:=ai
 refine δ z<|Û z<|Û z<|T' 15 z z39 z λb8=>ø 15 mC z<|θ z<|c'<|sr<|δ z<|δ z<|γ (ly z z)<|nx<|J' a z (λbu a=>?_) (λbu a=>?_)
 .refine sr<|θ z<|m'<|b' (Μ a z z)
 refine o'<|a'<|c'<|sr<|δ z<|γ (ly z z)<|nx<|J' a z (λbr a=>?_) (λbr a=>?_)
 .refine sr<|δ z<|θ z<|m'<|b' (Μ a z z)
 refine o'<|a'<|sr<|γ (w' 13 kA z z z)<|oE a λa4 bj a=>U' z z (x' E9 z) (MP _ _ _ _ _ _ bj) z (⟨(ab.mono A),(S.mono A)⟩) (λbJ bn B an=>?_)
 obtain⟨a8,a7,aN,aA,rfl,ae,Q⟩:=an
 refine δ z<|Û z<|Û z<|T' 17 z z39 z λb9=>T' 18 z uT z λbV=>ø 17 mC z<|y' 18 z n4 z z z (M' _ _ _) (M' _ _ _) (λu w=>Rp.one (pt .i64 8) (G:=bn) (x:=a4.2) (cs:=Ι a4.2) z u (by first|simpa using w|simpa [Value.cells] using w))<|nr<|γ (w' 15 kA z z z)<|oE a λaT bl a=>U' z z (x' E9 z) (MP _ _ _ _ _ _ bl) z (⟨(W.mono B),(K.mono B)⟩) (λbE bq y ak=>?_)
 obtain⟨aY,a6,az,aC,rfl,U,R⟩:=ak
 refine δ z<|Û z<|Û z<|T' 19 z z39 z λbS=>T' 20 z uT z λbZ=>ø 19 mC z<|y' 20 z n4 z z z (M' _ _ _) (M' _ _ _) (λu w=>Rp.one (pt .i64 8) (G:=bq) (x:=aT.2) (cs:=Ι aT.2) z u (by first|simpa using w|simpa [Value.cells] using w))<|nr<|γ (w' 17 kA z z z)<|γ (w' 19 kA z z z)<|oE a λbw be a=>I' z z (x' SJ z) (Vn _ _ _ _ _ _ _ _ _ _ _ be) z (⟨(ae.mono y),(Q.mono y),U,R⟩) ?_
 cases bw
 .refine δ z<|yM z<|Γ z<|δ z<|sk z z z<|Γ z<|θ z<|m' (Μ a z z)
 refine δ z<|gy z z (lI z) z<|gy z z (f' 7 lr z z z) z<|gy z z (N' Q' (i.mono (mx (mx (mx (mx (mx m d) j) A) B) y)) z) z<|gy z z (lI z) z<|gy z z (f' 10 lr z z z) z<|gy z z (N' Q' (n.mono (mx (mx (mx (mx d j) A) B) y)) z) z<|eZ a (W' z z) (iI z z) z (λbB a=>?_) (λbB a=>?_)
 .refine Δ z<|δ z<|Â z<|Δ z<|θ z<|m' (Μ a z z)
 refine Δ z<|δ z<|sk z z z<|Γ z<|θ z<|m' (Μ a z z)
end Go.Proofs.YtdigmacmdlpckaaGreat

namespace Go.EL
open Go.IntKind (i8 i16 i32 i64 u8 u16 u32 u64)
open Go Go.RowKit
structure xv (n:Nat) (l:Ŀ Zc):Prop where
 len:l.length<=12
 ids:∀ q ∈ l,1<=q.id/\q.id<=1000000
 inc:l.Pairwise λa b=>a.id<b.id
 iF:∀ q ∈ l,ν q.p/\Í q.p (n:Int)=true
structure AJ (s:Zb):Prop where
 vars:s.vars.length<=4
 name:∀ v ∈ s.vars,gb v=true
 diff:s.vars.Pairwise λa b=>a≠b
 eqs:xv s.vars.length s.eqs
 ζ:xv s.vars.length s.ζ
 apart:∀ a ∈ s.eqs,∀ b ∈ s.ζ,a.id≠b.id
theorem gW.x{n:Nat}{next:Int}{l:Ŀ Zc}(h:gW n next l)(c:next<=1000000):xv n l:=⟨h.len,λq a=>by have:=h.ids q a; omega,h.inc,h.iF⟩
theorem Good.x{s:Zb}(h:Good s)(n:Int):AJ ⟨s.vars,s.eqs,s.ζ,n⟩:=⟨h.vars,h.name,h.diff,h.eqs.x h.next.2,h.ζ.x h.next.2,h.apart⟩
end Go.EL

namespace Go.EL
open Go.IntKind (i8 i16 i32 i64 u8 u16 u32 u64)
open Go Go.RowKit
abbrev Diff(l:Ŀ Ĳ):Prop:=l.Pairwise λa b=>a≠b
theorem Qd{l:Ŀ Ĳ}(d:Diff l){i:Nat}(hi:i<l.length):Õ l l[i]=(i:Int):=by
 have g:0<=Õ l l[i]:=zO.2 (Ċ hi)
 have c:=BT (l:=l) (v:=l[i]) (k:=(Õ l l[i]).toNat) (by omega)
 obtain⟨f,e⟩:=Ć.1 c
 by_cases a:(Õ l l[i]).toNat=i
 .omega
 exact absurd e (uJ d f hi a)
def nm(vars:Ŀ Ĳ)(m:M)(v:Ĳ):Int:=if h:0<=Õ vars v/\Õ vars v<8 then m ⟨(Õ vars v).toNat,by omega⟩ else 0
theorem uL{vars:Ŀ Ĳ}(a:Diff vars)(m:M){i:Fin 8}(hi:i.val<vars.length):nm vars m vars[i.val]=m i:=by
 unfold nm
 have:=Qd a hi
 rw[Ŗ (by have:=i.isLt; omega)]
 congr 1
 exact gg (by show (Õ vars vars[i.val]).toNat=i.val; omega)
theorem yb{vars:Ŀ Ĳ}(m:M){v:Ĳ}(h:v ∉ vars):nm vars m v=0:=by
 unfold nm
 rw[dif_neg λk=>h (zO.1 k.1)]
def named(vars:Ŀ Ĳ)(p:Ŀ Za):Ŀ (Zj×(Ĳ->Int)):=p.map λt=>(t.c,nm vars t.m)
def ö(fr:Ŀ Ĳ)(p:Ŀ Za)(a:Ŀ Ĳ)(q:Ŀ Za):Prop:=∀ z,z ∈ named fr p↔z ∈ named a q
theorem ö.refl(fr:Ŀ Ĳ)(p:Ŀ Za):ö fr p fr p:=λ_=>aa3
theorem ö.symm{fr a:Ŀ Ĳ}{p q:Ŀ Za}(h:ö fr p a q):ö a q fr p:=λz=>(h z).symm
theorem ö.trans{a b c:Ŀ Ĳ}{p q r:Ŀ Za}(h:ö a p b q)(k:ö b q c r):ö a p c r:=λz=>(h z).trans (k z)
theorem RG{fr c:Ŀ Ĳ}(n:Diff fr)(r:Diff c)(t:fr.length<=8)(lt:c.length<=8){m:M}(h:pf (lA fr c) m):nm c (lj (lA fr c) m)=nm fr m:=by
 have q:=BN n lt
 funext v
 by_cases p:v ∈ c
 .obtain⟨j,d,rfl⟩:=Ĩ.1 p
  rw[uL r (i:=⟨j,by omega⟩) _ d]
  by_cases a:c[j] ∈ fr
  .obtain⟨i,hi,e⟩:=Ĩ.1 a
   have s:lA fr c i=some j:=by
    have f:=Qd r d
    rw[Kc hi (by rw[e]; omega),e,f,ģ]
   rw[show lj (lA fr c) m ⟨j,by omega⟩=m ⟨i,by omega⟩ from J0 q m (i:=⟨i,by omega⟩) s,<- e,uL n (i:=⟨i,by omega⟩) m hi]
  rw[yb _ a]
  refine PN _ _ λi _ hi=>a ?_
  obtain⟨u,g,l⟩:=zr hi
  rw[Ą d] at l
  cases l
  exact Ł g
 rw[yb _ p]
 by_cases a:v ∈ fr
 .obtain⟨i,hi,rfl⟩:=Ĩ.1 a
  rw[uL n (i:=⟨i,by omega⟩) m hi]
  have f:¬ 0<m ⟨i,by omega⟩:=λf=>by
   obtain⟨j,d⟩:=h.map _ f
   obtain⟨u,g,l⟩:=zr d
   rw[Ą hi] at g
   cases g
   exact p (Ł l)
  have:=h.nn ⟨i,by omega⟩
  omega
 rw[yb _ a]
theorem I2{fr d:Ŀ Ĳ}(f:Diff fr)(i:Diff d)(g:fr.length<=8)(lt:d.length<=8){p:Ŀ Za}(hp:gU fr.length p)(j:kl fr d p=[]):ö fr p d (yY fr d p):=by
 have a:=BA g hp j
 have c:=BN f lt
 intro z
 unfold named
 rw[ă,ă]
 constructor
 .rintro⟨t,e,rfl⟩
  exact⟨⟨t.c,lj _ t.m⟩,(ED (a.inj c) a.iF.ord).2 ⟨t,e,rfl⟩,by rw[RG f i g lt (a.qa t e)]⟩
 rintro⟨u,e,rfl⟩
 obtain⟨t,h,rfl⟩:=(ED (a.inj c) a.iF.ord).1 e
 exact⟨t,h,by rw[RG f i g lt (a.qa t h)]⟩
theorem O7{fr a:Ŀ Ĳ}{p:Ŀ Za}:∀ k,(∀ i,i<k->kc fr a p i=false)->iq fr a p k=[]
 | 0,_=>rfl
 | k+1,h=>by
  simp only[iq]
  rw[O7 k λi hi=>h i (by omega),h k (by omega)]
  rfl
theorem YB{fr e:Ŀ Ĳ}(j:Diff fr){p q:Ŀ Za}(h:ö fr p e q):kl fr e p=[]:=by
 refine O7 _ λi hi=>?_
 unfold kc
 split
 .rename_i d
  cases m:iA ⟨i,d.2⟩ p with
  | false=>rfl
  | true=>
   rw[aaq]
   refine ċ λl=>?_
   obtain⟨t,f,a⟩:=ŕ.1 m
   have a:=Ĝ a
   obtain⟨u,n,g⟩:=ă.1 ((h (t.c,nm fr t.m)).1 (ă.2 ⟨t,f,rfl⟩))
   have c:=congrFun (ć Prod.snd g) fr[i]
   simp only at c
   rw[uL j (i:=⟨i,d.2⟩) t.m hi,yb _ (BU l)] at c
   omega
 rfl
theorem Zvr{vars:Ŀ Ĳ}(c:Diff vars){a b:M}(d:∀ i:Fin 8,vars.length<=i.val->a i=0)(f:∀ i:Fin 8,vars.length<=i.val->b i=0)(e:nm vars a=nm vars b):a=b:=by
 funext i
 by_cases hi:i.val<vars.length
 .rw[<- uL c a hi,<- uL c b hi,e]
 rw[d i (by omega),f i (by omega)]
theorem Qa{n:Nat}(c:n<=8){p:Ŀ Za}(hp:gU n p):∀ t ∈ p,∀ i:Fin 8,n<=i.val->t.m i=0:=λt a i hi=>by
 have d:=((ve c).1 hp.2).1 t a i hi
 have e:=((hp.1.sI t a).m i).1
 omega
theorem Ym{p q:Ŀ Za}(hp:ko p)(a:ko q)(h:∀ t,t ∈ p↔t ∈ q):p=q:=by
 refine H8 a ((œ ?_ ?_).2 h) (Ix hp)
 .exact (vX hp).imp λh e=>h (by rw[e])
 exact (vX a).imp λh e=>h (by rw[e])
theorem O9{a:Ŀ Ĳ}(j:Diff a)(lt:a.length<=8){p q:Ŀ Za}(hp:gU a.length p)(c:gU a.length q)(h:ö a p a q):p=q:=by
 have key:∀ {p q:Ŀ Za},gU a.length p->gU a.length q->ö a p a q->∀ t ∈ p,t ∈ q:=λ{p q} hp c h t i=>by
  obtain⟨u,f,g⟩:=ă.1 ((h (t.c,nm a t.m)).1 (ă.2 ⟨t,i,rfl⟩))
  have d:u.c=t.c:=ć Prod.fst g
  have e:u.m=t.m:=Zvr j (Qa lt c u f) (Qa lt hp t i) (ć Prod.snd g)
  cases u; cases t
  simp only at d e
  subst d e
  exact f
 exact Ym hp.1.ord c.1.ord λt=>⟨key hp c h t,key c hp h.symm t⟩
theorem Zu3{fr a:Ŀ Ĳ}(d:Diff fr)(f:Diff a)(g:fr.length<=8)(lt:a.length<=8){p q:Ŀ Za}(hp:gU fr.length p)(i:gU a.length q):((n9 fr a p).2=true/\(n9 fr a p).1=q)↔ö fr p a q:=by
 constructor
 .intro h
  by_cases c:kl fr a p=[]
  .have e:n9 fr a p=(yY fr a p,true):=by unfold n9; rw[if_pos c]
   rw[e] at h
   rw[<- h.2]
   exact I2 d f g lt hp c
  have e:n9 fr a p=([],false):=by unfold n9; rw[if_neg c]
  rw[e] at h
  cases h.1
 intro h
 have c:=YB d h
 have e:n9 fr a p=(yY fr a p,true):=by unfold n9; rw[if_pos c]
 rw[e]
 exact⟨rfl,O9 f lt (M5 d lt (BA g hp c)) i ((I2 d f g lt hp c).symm.trans h)⟩
def iB(s:Ŀ Ĳ)(u:ŀ Zl)(t:Ŀ Ĳ)(v:ŀ Zl):Prop:=match u,v with
 | some u,some v=>u.neq=v.neq/\ö s u.p t v.p
 | none,none=>True
 | _,_=>False
theorem iB.refl(s:Ŀ Ĳ)(u:ŀ Zl):iB s u s u:=by
 cases u with
 | none=>trivial
 | some u=>exact⟨rfl,ö.refl _ _⟩
theorem iB.symm{s t:Ŀ Ĳ}{u v:ŀ Zl}(h:iB s u t v):iB t v s u:=by
 cases u with
 | none=>cases v with
  | none=>trivial
  | some v=>cases h
 | some u=>cases v with
  | none=>cases h
  | some v=>exact⟨h.1.symm,h.2.symm⟩
theorem iB.trans{r s t:Ŀ Ĳ}{u v w:ŀ Zl}(h:iB r u s v)(k:iB s v t w):iB r u t w:=by
 cases u with
 | none=>cases v with
  | none=>cases w with
   | none=>trivial
   | some w=>cases k
  | some v=>cases h
 | some u=>cases v with
  | none=>cases h
  | some v=>cases w with
   | none=>cases k
   | some w=>exact⟨h.1.trans k.1,h.2.trans k.2⟩
theorem vf{s t:Zb}(a:Good s)(c:Good t)(x:Int):kG s t x=true↔iB s.vars (Ç s x) t.vars (Ç t x):=by
 have f:=a.vars
 have g:=c.vars
 unfold kG
 cases e:Ç s x with
 | none=>cases d:Ç t x with
  | none=>exact⟨λ_=>trivial,λ_=>rfl⟩
  | some v=>exact⟨λh=>(nomatch h),λh=>(nomatch h)⟩
 | some u=>cases d:Ç t x with
  | none=>exact⟨λh=>(nomatch h),λh=>(nomatch h)⟩
  | some v=>
   show (decide (u.neq=v.neq) && ((n9 s.vars t.vars u.p).2 && decide ((n9 s.vars t.vars u.p).1=v.p)))=true↔_
   rw[Ē,Ē,Ģ,Ģ,Zu3 a.diff c.diff (by omega) (by omega) (zB a e) (zB c d)]
   exact aa3
end Go.EL

namespace Go.EL
open Go.IntKind (i8 i16 i32 i64 u8 u16 u32 u64)
open Go Go.RowKit
abbrev pc(P:Ŀ Zg):Ŀ Int:=P.map (·.id)
theorem JP{s:Zb}{x:Int}:∀ y ∈ gS s x,y.id=x:=λy a=>by
 unfold gS at a
 cases c:Ç s x with
 | none=>rw[c] at a; cases a
 | some u=>rw[c] at a; rw[ī.1 a]
theorem Jx{a0 a1 a2:Zb}{x:Int}:∀ y ∈ (eX a0 a1 a2 x).1,y.id=x:=λy a=>by
 unfold eX at a
 split at a
 .exact JP y a
 split at a
 .exact JP y a
 split at a
 .exact JP y a
 cases a
theorem Y5{l:Ŀ Zg}(h:l.length<=1):(pc l).Pairwise (· < ·):=by
 match l,h with
 | [],_=>exact List.Pairwise.nil
 | [_],_=>exact Ť _ _
theorem zt{a0 a1 a2:Zb}:∀ {l:Ŀ Int},l.Pairwise (· < ·)->(∀ y ∈ (gR a0 a1 a2 l).1,y.id ∈ l/\y.id<a0.next)/\(pc (gR a0 a1 a2 l).1).Pairwise (· < ·)
 | [],_=>⟨λy a=>(nomatch a),List.Pairwise.nil⟩
 | x::l,h=>by
  obtain⟨d,e⟩:=Ğ.1 h
  obtain⟨c,m⟩:=zt (a0:=a0) (a1:=a1) (a2:=a2) e
  unfold gR
  split
  .exact⟨λy a=>(nomatch a),List.Pairwise.nil⟩
  rename_i n
  refine⟨λy a=>?_,?_⟩
  .rcases ĉ.1 a with a|a
   .rw[Jx y a]; exact⟨by simp,by omega⟩
   exact⟨aak _ (c y a).1,(c y a).2⟩
  show (pc (_++_)).Pairwise _
  unfold pc
  rw[ķ]
  refine ţ.2 ⟨Y5 (PO a0 a1 a2 x).1,m,λi hi j f=>?_⟩
  obtain⟨y,a,rfl⟩:=ă.1 hi
  obtain⟨z,g,rfl⟩:=ă.1 f
  rw[Jx y a]
  exact d _ (c z g).1
theorem JM{a0 a1 a2:Zb}:∀ {l:Ŀ Int},l.Pairwise (· < ·)->∀ x ∈ l,x<a0.next->(∀ y ∈ (eX a0 a1 a2 x).1,y ∈ (gR a0 a1 a2 l).1)/\(∀ y ∈ (gR a0 a1 a2 l).1,y.id=x->y ∈ (eX a0 a1 a2 x).1)/\∀ c ∈ (eX a0 a1 a2 x).2,c ∈ (gR a0 a1 a2 l).2
 | [],_,x,d,_=>by cases d
 | z::l,h,x,d,n=>by
  obtain⟨f,m⟩:=Ğ.1 h
  have i:¬ a0.next<=z:=by
   rcases ą.1 d with rfl|d
   .omega
   have:=f x d; omega
  have e:gR a0 a1 a2 (z::l)=((eX a0 a1 a2 z).1++(gR a0 a1 a2 l).1,(eX a0 a1 a2 z).2++(gR a0 a1 a2 l).2):=Ā i
  rw[e]
  rcases ą.1 d with rfl|d
  .refine⟨λy a=>Ř _ a,λy a j=>?_,λc g=>Ř _ g⟩
   rcases ĉ.1 a with a|a
   .exact a
   have:=f _ ((zt m).1 y a).1; omega
  obtain⟨p,q,r⟩:=JM m x d n
  refine⟨λy a=>ņ _ (p y a),λy a j=>?_,λc g=>ņ _ (r c g)⟩
  rcases ĉ.1 a with a|a
  .have:=Jx y a
   have:=f x d
   omega
  exact q y a j
theorem Qo(s:Zb):∀ (l:Ŀ Int) (n:Int),(pc (mW s n l)).Pairwise (· < ·)
 | [],_=>List.Pairwise.nil
 | x::l,n=>Ğ.2 ⟨λj a=>by
   obtain⟨y,c,rfl⟩:=ă.1 a
   obtain⟨m,_,_,d,_,rfl⟩:=Bw c
   show n<m
   omega,Qo s l (n+1)⟩
theorem Bv{a0 a:Zb}{x:Int}:x ∈ mV a0 a↔x ∈ ç a/\a0.next<=x:=by
 unfold mV
 rw[Ė,uI,Ģ]
theorem EJ{a0 a1 a2:Zb}(e:Good a1):(pc (la a0 a1 a2).1).Pairwise (· < ·)/\∀ y ∈ (la a0 a1 a2).1,a0.next<=y.id/\y.id<(la a0 a1 a2).2:=by
 have f:a0.next<=Ó a0 a1/\a1.next<=Ó a0 a1:=by unfold Ó; split <;> omega
 have c:∀ y ∈ (mV a0 a1).map (λx=>kn a1 x x),a0.next<=y.id/\y.id<a1.next:=λy a=>by
  obtain⟨x,h,rfl⟩:=ă.1 a
  have:=Bv.1 h
  exact⟨this.2,(sL e this.1).2⟩
 have d:∀ y ∈ mW a2 (Ó a0 a1) (mV a0 a2),Ó a0 a1<=y.id/\y.id<Ó a0 a1+((mV a0 a2).length:Int):=λy a=>by
  obtain⟨m,_,_,n,p,rfl⟩:=Bw a
  exact⟨n,p⟩
 refine⟨?_,λy a=>?_⟩
 .show (pc (_++_)).Pairwise _
  unfold pc
  rw[ķ]
  refine ţ.2 ⟨?_,Qo _ _ _,λi hi j g=>?_⟩
  .rw[Ţ]
   have:((λx:Zg=>x.id) ∘ λx=>kn a1 x x)=λx:Int=>x:=rfl
   rw[this,List.map_id']
   exact (vg _).filter _
  obtain⟨y,a,rfl⟩:=ă.1 hi
  obtain⟨z,l,rfl⟩:=ă.1 g
  have:=c y a
  have:=d z l
  omega
 show a0.next<=y.id/\y.id<Ó a0 a1+((mV a0 a2).length:Int)
 rcases ĉ.1 a with a|a
 .have:=c y a; omega
 have:=d y a; omega
abbrev iJ(a0 a1 a2:Zb):Ŀ Zg:=(kJ a0 a1 a2).1++(la a0 a1 a2).1
theorem QB{a0 a1 a2:Zb}(c:Good a1):(pc (iJ a0 a1 a2)).Pairwise (· < ·):=by
 have a:=zt (a0:=a0) (a1:=a1) (a2:=a2) (vg (ç a0++(ç a1++ç a2)))
 obtain⟨g,h⟩:=EJ (a0:=a0) (a2:=a2) c
 unfold iJ pc
 rw[ķ]
 refine ţ.2 ⟨a.2,g,λi hi j d=>?_⟩
 obtain⟨y,e,rfl⟩:=ă.1 hi
 obtain⟨z,f,rfl⟩:=ă.1 d
 have:=(a.1 y e).2
 have:=(h z f).1
 omega
theorem YW{a0 a1 a2:Zb}(d:Good a1){y z:Zg}(f:y ∈ iJ a0 a1 a2)(g:z ∈ iJ a0 a1 a2)(e:y.id=z.id):y=z:=by
 have hp:=Ľ.1 (QB (a0:=a0) (a2:=a2) d)
 obtain⟨i,hi,rfl⟩:=Ĩ.1 f
 obtain⟨j,c,rfl⟩:=Ĩ.1 g
 rcases fO i j with a|a|a
 .have:=Ę.1 hp i j hi c a; omega
 .subst a; rfl
 have:=Ę.1 hp j i c hi a; omega
structure jh (a0 a1 a2:Zb):Prop where
 Ld:∀ y ∈ iJ a0 a1 a2,kl y.à.vars (Θ a0.vars a1.vars a2.vars) y.entry.p=[]
 adp:(kJ a0 a1 a2).2=[]
 vars:(Θ a0.vars a1.vars a2.vars).length<=4
 eqs:(Ο a0 a1 a2).eqs.length<=12
 ζ:(Ο a0 a1 a2).ζ.length<=12
 next:(la a0 a1 a2).2<=1000000
theorem IL{a0 a1 a2:Zb}(h:(kH a0 a1 a2).2.2=0):(kH a0 a1 a2).1=Ο a0 a1 a2/\jh a0 a1 a2:=by
 unfold kH at h ⊢
 by_cases c:0<(lX a0 a1 a2).length
 .rw[Ă c] at h; cases h
 rw[Ā c] at h ⊢
 split at h
 .cases h
 rename_i d
 rw[Ā d]
 have a:lX a0 a1 a2=[]:=aay.1 (by omega)
 unfold lX at a
 obtain⟨f,g⟩:=List.append_eq_nil_iff.1 a
 have i:=Zt4.1 (aaY.1 f)
 refine⟨rfl,λy e=>?_,g,?_,?_,?_,?_⟩
 .exact List.flatMap_eq_nil_iff.1 i y e
 .exact abp λk=>d (.inl k)
 .exact abp λk=>d (.inr (.inl k))
 .exact abp λk=>d (.inr (.inr (.inl k)))
 exact abu.1 λk=>d (.inr (.inr (.inr k)))
section
variable {a0 a1 a2:Zb}
theorem ET(c:Good a1)(d:Good a2):∀ y ∈ iJ a0 a1 a2,mb y:=λy a=>by
 rcases ĉ.1 a with a|a
 .exact JN c d _ y a
 exact Rr c d y a
theorem Fo(w:jh a0 a1 a2)(d:Good a1)(f:Good a2){y:Zg}(g:y ∈ iJ a0 a1 a2):gU (Θ a0.vars a1.vars a2.vars).length (ot (Θ a0.vars a1.vars a2.vars) y).p/\ö (Θ a0.vars a1.vars a2.vars) (ot (Θ a0.vars a1.vars a2.vars) y).p y.à.vars y.entry.p:=by
 have a:=ET d f y g
 have c:=w.Ld y g
 have j:=a.à.vars
 have h:=Ds (base:=a0.vars) d.diff f.diff
 have i:=w.vars
 have e:(ot (Θ a0.vars a1.vars a2.vars) y).p=yY y.à.vars (Θ a0.vars a1.vars a2.vars) y.entry.p:=by
  show (n9 _ _ _).1=_
  unfold n9
  rw[Ă c]
 rw[e]
 exact⟨M5 a.à.diff (by omega) (BA (by omega) a.fit c),(I2 a.à.diff h (by omega) (by omega) a.fit c).symm⟩
theorem V7{v:Ĳ}(h:v ∈ Θ a0.vars a1.vars a2.vars):v ∈ a1.vars\/v ∈ a2.vars:=by
 unfold Θ at h
 split at h
 .exact .inr h
 rcases ĉ.1 h with h|h
 .exact .inl (Ė.1 h).1
 exact .inr (Ė.1 h).1
theorem PY(w:jh a0 a1 a2)(l:Good a0)(g:Good a1)(j:Good a2):Good (Ο a0 a1 a2):=by
 have h:=Ľ.1 (QB (a0:=a0) (a2:=a2) g)
 have m:∀ y ∈ iJ a0 a1 a2,1<=y.id/\y.id<(la a0 a1 a2).2:=λy a=>by
  obtain⟨_,B⟩:=EJ (a0:=a0) (a2:=a2) g
  have n:=l.next
  have F:a0.next<=(la a0 a1 a2).2:=by
   show a0.next<=Ó a0 a1+_
   have:a0.next<=Ó a0 a1:=by unfold Ó; split <;> omega
   omega
  rcases ĉ.1 a with a|a
  .have t:=(zt (a0:=a0) (a1:=a1) (a2:=a2) (vg (ç a0++(ç a1++ç a2)))).1 y a
   have c:=uI.1 t.1
   have:1<=y.id:=by
    rcases ĉ.1 c with c|c
    .exact (sL l c).1
    rcases ĉ.1 c with c|c
    .exact (sL g c).1
    exact (sL j c).1
   omega
  have:=B y a; omega
 have d:∀ (f:Zg->Bool),(((iJ a0 a1 a2).filter f).map (ot (Θ a0.vars a1.vars a2.vars))).length<=12->gW (Θ a0.vars a1.vars a2.vars).length (la a0 a1 a2).2 (((iJ a0 a1 a2).filter f).map (ot (Θ a0.vars a1.vars a2.vars))):=λf s=>{
  len:=s
  ids:=λq i=>by
   obtain⟨y,a,rfl⟩:=ă.1 i
   exact m y (Ė.1 a).1
  inc:=Ľ.2 (h.filter f)
  iF:=λq i=>by
   obtain⟨y,a,rfl⟩:=ă.1 i
   exact (Fo w g j (Ė.1 a).1).1 }
 have n:1<=(la a0 a1 a2).2:=by
  show 1<=Ó a0 a1+_
  have:=l.next
  have:a0.next<=Ó a0 a1:=by unfold Ó; split <;> omega
  omega
 exact {
  vars:=w.vars
  name:=λv u=>(V7 u).elim (g.name v) (j.name v)
  diff:=Ds g.diff j.diff
  next:=⟨n,w.next⟩
  eqs:=d _ w.eqs
  ζ:=d _ w.ζ
  apart:=λp hp q i e=>by
   obtain⟨y,a,rfl⟩:=ă.1 hp
   obtain⟨z,A,rfl⟩:=ă.1 i
   obtain⟨C,r⟩:=Ė.1 a
   obtain⟨D,E⟩:=Ė.1 A
   have:=YW g C D e
   subst this
   rw[E] at r
   cases r }
theorem Zuz{s:Zb}(h:Good s){x:Int}{u:Zl}(g:(x,u) ∈ kP s):Ç s x=some u:=by
 obtain⟨v,l⟩:=Pu (s:=s) (id:=x) (by rw[<- sh]; exact ă.2 ⟨_,g,rfl⟩)
 have m:=QF l
 have c:=Pw h
 rw[<- sh] at c
 obtain⟨i,hi,e⟩:=Ĩ.1 g
 obtain⟨j,f,d⟩:=Ĩ.1 m
 have:i=j:=by
  have hp:=Ľ.1 c
  rcases fO i j with a|a|a
  .exact absurd (by rw[e,d]) (Ę.1 hp i j hi f a)
  .exact a
  exact absurd (by rw[e,d]) (Ę.1 hp j i f hi a)
 subst this
 rw[l]
 rw[e] at d
 cases d
 rfl
theorem Zu6(w:jh a0 a1 a2)(d:Good a0)(e:Good a1)(f:Good a2){y:Zg}(c:y ∈ iJ a0 a1 a2):Ç (Ο a0 a1 a2) y.id=some ⟨(ot (Θ a0.vars a1.vars a2.vars) y).p,y.entry.neq⟩:=by
 refine Zuz (PY w d e f) ?_
 cases a:y.entry.neq with
 | false=>exact Ř _ (ă.2 ⟨_,ă.2 ⟨y,Ė.2 ⟨c,by rw[a]; rfl⟩,rfl⟩,rfl⟩)
 | true=>exact ņ _ (ă.2 ⟨_,ă.2 ⟨y,Ė.2 ⟨c,a⟩,rfl⟩,rfl⟩)
theorem BC{x:Int}:x ∈ ç (Ο a0 a1 a2)↔∃ y ∈ iJ a0 a1 a2,y.id=x:=by
 unfold ç
 rw[ĉ]
 constructor
 .rintro (h|h)
  .obtain⟨q,c,rfl⟩:=ă.1 h
   obtain⟨y,a,rfl⟩:=ă.1 c
   exact⟨y,(Ė.1 a).1,rfl⟩
  obtain⟨q,c,rfl⟩:=ă.1 h
  obtain⟨y,a,rfl⟩:=ă.1 c
  exact⟨y,(Ė.1 a).1,rfl⟩
 rintro⟨y,a,rfl⟩
 cases d:y.entry.neq with
 | false=>exact .inl (ă.2 ⟨_,ă.2 ⟨y,Ė.2 ⟨a,by rw[d]; rfl⟩,rfl⟩,rfl⟩)
 | true=>exact .inr (ă.2 ⟨_,ă.2 ⟨y,Ė.2 ⟨a,d⟩,rfl⟩,rfl⟩)
theorem Ev(w:jh a0 a1 a2)(e:Good a0)(a:Good a1)(c:Good a2){y:Zg}(d:y ∈ iJ a0 a1 a2){x:Int}(f:Ç y.à x=some y.entry):iB (Ο a0 a1 a2).vars (Ç (Ο a0 a1 a2) y.id) y.à.vars (Ç y.à x):=by
 rw[Zu6 w e a c d,f]
 exact⟨rfl,(Fo w a c d).2⟩
theorem OD(w:jh a0 a1 a2)(d:Good a0)(f:Good a1)(g:Good a2){s:Zb}{x:Int}(h:∀ y ∈ gS s x,y ∈ iJ a0 a1 a2)(j:∀ y ∈ iJ a0 a1 a2,y.id=x->y ∈ gS s x):iB (Ο a0 a1 a2).vars (Ç (Ο a0 a1 a2) x) s.vars (Ç s x):=by
 cases a:Ç s x with
 | none=>
  have e:gS s x=[]:=by unfold gS; rw[a]
  have i:Ç (Ο a0 a1 a2) x=none:=D2 λhi=>by
   obtain⟨y,l,c⟩:=BC.1 hi
   have:=j y l c
   rw[e] at this
   cases this
  rw[i]
  trivial
 | some u=>
  have e:gS s x=[⟨x,u,s⟩]:=by unfold gS; rw[a]
  have:=Ev w d f g (h ⟨x,u,s⟩ (by rw[e]; simp)) (x:=x) a
  rw[<- a]
  exact this
end
structure rA (s a b m:Zb):Prop where
 ku:Good m
 ae6:∀ x,x<s.next->iB s.vars (Ç s x) a.vars (Ç a x)->iB m.vars (Ç m x) b.vars (Ç b x)
 ae7:∀ x,x<s.next->iB s.vars (Ç s x) b.vars (Ç b x)->iB m.vars (Ç m x) a.vars (Ç a x)
 ae4:∀ x ∈ ç a,s.next<=x->∃ y ∈ ç m,iB m.vars (Ç m y) a.vars (Ç a x)
 ae5:∀ x ∈ ç b,s.next<=x->∃ y ∈ ç m,iB m.vars (Ç m y) b.vars (Ç b x)
 à:∀ x ∈ ç m,(∃ y,iB m.vars (Ç m x) a.vars (Ç a y))\/∃ y,iB m.vars (Ç m x) b.vars (Ç b y)
theorem Qn(s:Zb){x:Int}:∀ {l:Ŀ Int}{n:Int},x ∈ l->∃ m,kn s m x ∈ mW s n l
 | z::l,n,h=>by
  rcases ą.1 h with rfl|h
  .exact⟨n,aau⟩
  obtain⟨m,a⟩:=Qn s (n:=n+1) h
  exact⟨m,aak _ a⟩
theorem Ep{s:Zb}{x:Int}(c:x ∈ ç s)(n:Int):Ç s x=some (kn s n x).entry:=by
 obtain⟨u,a⟩:=Pu c
 show _=some ((Ç s x).getD _)
 rw[a]
 rfl
theorem Zsh{a0 a1 a2:Zb}(l:Good a0)(j:Good a1)(q:Good a2)(w:jh a0 a1 a2):rA a0 a1 a2 (Ο a0 a1 a2):=by
 have C:=vg (ç a0++(ç a1++ç a2))
 have A:∀ x,x ∈ h9 (ç a0++(ç a1++ç a2))↔x ∈ ç a0\/x ∈ ç a1\/x ∈ ç a2:=λx=>by rw[uI,ĉ,ĉ]
 have key:∀ x,x<a0.next->x ∈ h9 (ç a0++(ç a1++ç a2))->(∀ y ∈ (eX a0 a1 a2 x).1,y ∈ iJ a0 a1 a2)/\(∀ y ∈ iJ a0 a1 a2,y.id=x->y ∈ (eX a0 a1 a2 x).1):=λx f i=>by
  obtain⟨t,p,_⟩:=JM (a0:=a0) (a1:=a1) (a2:=a2) C x i f
  refine⟨λy a=>Ř _ (t y a),λy a e=>?_⟩
  rcases ĉ.1 a with a|a
  .exact p y a e
  have:=((EJ (a0:=a0) (a2:=a2) j).2 y a).1; omega
 have B:∀ x,x<a0.next->x ∉ h9 (ç a0++(ç a1++ç a2))->Ç (Ο a0 a1 a2) x=none:=λx f i=>D2 λhi=>by
  obtain⟨y,a,e⟩:=BC.1 hi
  rcases ĉ.1 a with a|a
  .have:=((zt (a0:=a0) (a1:=a1) (a2:=a2) C).1 y a).1
   rw[e] at this
   exact i this
  have:=((EJ (a0:=a0) (a2:=a2) j).2 y a).1; omega
 have v:∀ x,x<a0.next->iB a0.vars (Ç a0 x) a1.vars (Ç a1 x)->iB (Ο a0 a1 a2).vars (Ç (Ο a0 a1 a2) x) a2.vars (Ç a2 x):=λx f d=>by
  by_cases i:x ∈ h9 (ç a0++(ç a1++ç a2))
  .obtain⟨t,p⟩:=key x f i
   have e:eX a0 a1 a2 x=(gS a2 x,[]):=Ă ((vf j l x).2 d.symm)
   rw[e] at t p
   exact OD w l j q t p
  rw[B x f i,D2 (s:=a2) λh=>i ((A x).2 (.inr (.inr h)))]
  trivial
 refine⟨PY w l j q,v,λx f d=>?_,λx f E=>?_,λx f E=>?_,λx f=>?_⟩
 .by_cases i:x ∈ h9 (ç a0++(ç a1++ç a2))
  .by_cases c:kG a1 a0 x=true
   .have c':=(vf j l x).1 c
    exact (v x f c'.symm).trans (d.symm.trans c'.symm)
   obtain⟨t,p⟩:=key x f i
   have e:eX a0 a1 a2 x=(gS a1 x,[]):=by unfold eX; rw[if_neg c,if_pos ((vf q l x).2 d.symm)]
   rw[e] at t p
   exact OD w l j q t p
  rw[B x f i,D2 (s:=a1) λh=>i ((A x).2 (.inr (.inl h)))]
  trivial
 .have a:kn a1 x x ∈ iJ a0 a1 a2:=ņ _ (Ř _ (ă.2 ⟨x,Bv.2 ⟨f,E⟩,rfl⟩))
  exact⟨x,BC.2 ⟨_,a,rfl⟩,Ev w l j q a (Ep f x)⟩
 .obtain⟨m,i⟩:=Qn a2 (n:=Ó a0 a1) (Bv.2 ⟨f,E⟩:x ∈ mV a0 a2)
  have a:kn a2 m x ∈ iJ a0 a1 a2:=ņ _ (ņ _ i)
  exact⟨m,BC.2 ⟨_,a,rfl⟩,Ev w l j q a (Ep f m)⟩
 obtain⟨y,a,rfl⟩:=BC.1 f
 have src:(y.à=a1\/y.à=a2)/\∃ z,Ç y.à z=some y.entry:=by
  have g:∀ {s:Zb}{z:Int},y ∈ gS s z->y.à=s/\∃ z,Ç y.à z=some y.entry:=λ{s z} h=>by
   unfold gS at h
   cases D:Ç s z with
   | none=>rw[D] at h; cases h
   | some u=>rw[D] at h; rw[ī.1 h]; exact⟨rfl,z,D⟩
  rcases ĉ.1 a with a|a
  .have F:=(zt (a0:=a0) (a1:=a1) (a2:=a2) C).1 y a
   obtain⟨_,p,_⟩:=JM (a0:=a0) (a1:=a1) (a2:=a2) C y.id F.1 F.2
   have d:=p y a rfl
   unfold eX at d
   split at d
   .have:=g d; exact⟨.inr this.1,this.2⟩
   split at d
   .have:=g d; exact⟨.inl this.1,this.2⟩
   split at d
   .have:=g d; exact⟨.inl this.1,this.2⟩
   cases d
  rcases ĉ.1 a with a|a
  .obtain⟨x,r,rfl⟩:=ă.1 a
   exact⟨.inl rfl,x,Ep (Bv.1 r).1 x⟩
  obtain⟨m,x,r,_,_,rfl⟩:=Bw a
  exact⟨.inr rfl,x,Ep (Bv.1 r).1 m⟩
 obtain⟨d,z,G⟩:=src
 have:=Ev w l j q a G
 rcases d with d|d
 .rw[d] at this; exact .inl ⟨z,this⟩
 rw[d] at this; exact .inr ⟨z,this⟩
theorem Qh{s a b:Zb}(j:Good s)(i:Good a)(l:Good b)(h:(Ù s a b).2.2=0):rA s a b (Ù s a b).1:=by
 unfold Ù at h ⊢
 by_cases d:a=s
 .rw[Ă d]
  subst d
  exact⟨l,λx _ _=>iB.refl _ _,λx _ k=>k.symm,λx c m=>by have:=sL j c; omega,λx c _=>⟨x,c,iB.refl _ _⟩,λx _=>.inr ⟨x,iB.refl _ _⟩⟩
 rw[Ā d] at h ⊢
 by_cases f:b=s
 .rw[Ă f]
  subst f
  exact⟨i,λx _ k=>k.symm,λx _ _=>iB.refl _ _,λx c _=>⟨x,c,iB.refl _ _⟩,λx c m=>by have:=sL j c; omega,λx _=>.inl ⟨x,iB.refl _ _⟩⟩
 rw[Ā f] at h ⊢
 by_cases g:b=a
 .rw[Ă g]
  subst g
  exact⟨i,λx _ _=>iB.refl _ _,λx _ _=>iB.refl _ _,λx c _=>⟨x,c,iB.refl _ _⟩,λx c _=>⟨x,c,iB.refl _ _⟩,λx _=>.inl ⟨x,iB.refl _ _⟩⟩
 rw[Ā g] at h ⊢
 obtain⟨e,w⟩:=IL h
 rw[e]
 exact Zsh j i l w
end Go.EL

namespace Go.EL
open Go.IntKind (i8 i16 i32 i64 u8 u16 u32 u64)
open Go Go.RowKit
def lL{α:Type}(R:α->α->Prop):Ŀ α->Ŀ α->Prop
 | [],[]=>True
 | x::l,y::m=>R x y/\lL R l m
 | [],_::_=>False
 | _::_,[]=>False
theorem lL.append{α:Type}{R:α->α->Prop}:∀ {a b c d:Ŀ α},lL R a b->lL R c d->lL R (a++c) (b++d)
 | [],[],_,_,_,h=>h
 | _::_,_::_,_,_,h,k=>⟨h.1,lL.append h.2 k⟩
 | [],_::_,_,_,h,_=>h.elim
 | _::_,[],_,_,h,_=>h.elim
theorem lL.mem{α:Type}{R:α->α->Prop}:∀ {a b:Ŀ α},lL R a b->∀ x ∈ a,∃ y ∈ b,R x y
 | [],[],_,_,f=>by cases f
 | _::a,y::b,h,z,c=>by
  rcases ą.1 c with rfl|c
  .exact⟨y,aau,h.1⟩
  obtain⟨w,d,e⟩:=lL.mem h.2 z c
  exact⟨w,aak _ d,e⟩
 | [],_::_,h,_,_=>h.elim
 | _::_,[],h,_,_=>h.elim
theorem lL.count{α:Type}{R:α->α->Prop}{f:α->Bool}(c:∀ x y,R x y->f x=f y):∀ {a b:Ŀ α},lL R a b->(a.filter f).length=(b.filter f).length
 | [],[],_=>rfl
 | x::a,y::b,h=>by
  have e:=c x y h.1
  have d:=lL.count c h.2
  rw[Œ,Œ,e]
  split
  .rw[Ġ,Ġ,d]
  exact d
 | [],_::_,h=>h.elim
 | _::_,[],h=>h.elim
def nA(y z:Zg):Prop:=y.entry.neq=z.entry.neq/\ö y.à.vars y.entry.p z.à.vars z.entry.p
theorem IU{s t:Zb}{x:Int}(h:iB s.vars (Ç s x) t.vars (Ç t x)):lL nA (gS s x) (gS t x):=by
 unfold gS
 cases c:Ç s x with
 | none=>cases a:Ç t x with
  | none=>trivial
  | some v=>rw[c,a] at h; cases h
 | some u=>cases a:Ç t x with
  | none=>rw[c,a] at h; cases h
  | some v=>rw[c,a] at h; exact⟨h,trivial⟩
theorem PJ(s:Zb)(x:Int):lL nA (gS s x) (gS s x):=IU (iB.refl _ _)
theorem ZsJ{a0 a1 a2:Zb}(i:Good a0)(e:Good a1)(f:Good a2)(x:Int):lL nA (eX a0 a1 a2 x).1 (eX a0 a2 a1 x).1/\(eX a0 a1 a2 x).2=(eX a0 a2 a1 x).2:=by
 unfold eX
 by_cases d:kG a1 a0 x=true
 .by_cases a:kG a2 a0 x=true
  .rw[Ă d,Ă a]
   exact⟨IU (((vf f i x).1 a).trans ((vf e i x).1 d).symm),rfl⟩
  rw[Ă d,Ā a,Ă d]
  exact⟨PJ _ _,rfl⟩
 by_cases a:kG a2 a0 x=true
 .rw[Ā d,Ă a,Ă a]
  exact⟨PJ _ _,rfl⟩
 rw[Ā d,Ā a,Ā a,Ā d]
 by_cases g:kG a1 a2 x=true
 .have h:=(vf e f x).1 g
  rw[Ă g,Ă ((vf f e x).2 h.symm)]
  exact⟨IU h,rfl⟩
 rw[Ā g,Ā λc=>g ((vf e f x).2 ((vf f e x).1 c).symm)]
 exact⟨trivial,rfl⟩
theorem OY{a0 a1 a2:Zb}(a:Good a0)(c:Good a1)(d:Good a2):∀ l,lL nA (gR a0 a1 a2 l).1 (gR a0 a2 a1 l).1/\(gR a0 a1 a2 l).2=(gR a0 a2 a1 l).2
 | []=>⟨trivial,rfl⟩
 | x::l=>by
  obtain⟨e,f⟩:=OY a c d l
  obtain⟨g,h⟩:=ZsJ a c d x
  unfold gR
  split
  .exact⟨trivial,rfl⟩
  exact⟨g.append e,by rw[h,f]⟩
theorem Ztx{l m:Ŀ Int}(c:l.Pairwise (· < ·))(d:m.Pairwise (· < ·))(h:∀ x,x ∈ l↔x ∈ m):l=m:=by
 refine Ŭ (le:=λa b=>a<b) (λa b _ _ x y=>by omega) c d ?_
 exact (œ (c.imp λh=>by omega) (d.imp λh=>by omega)).2 h
theorem PG{a0 a1 a2:Zb}(a:Good a0)(c:Good a1)(d:Good a2):lL nA (kJ a0 a1 a2).1 (kJ a0 a2 a1).1/\(kJ a0 a1 a2).2=(kJ a0 a2 a1).2:=by
 have e:h9 (ç a0++(ç a2++ç a1))=h9 (ç a0++(ç a1++ç a2)):=Ztx (vg _) (vg _) λx=>by
  rw[uI,uI]
  simp only[ĉ]
  constructor
  .rintro (h|h|h)
   .exact .inl h
   .exact .inr (.inr h)
   exact .inr (.inl h)
  rintro (h|h|h)
  .exact .inl h
  .exact .inr (.inr h)
  exact .inr (.inl h)
 unfold kJ
 rw[e]
 exact OY a c d _
theorem Qq(s:Zb):∀ (l:Ŀ Int) (n:Int),lL nA (mW s n l) (l.map λx=>kn s x x)
 | [],_=>trivial
 | _::l,n=>⟨⟨rfl,ö.refl _ _⟩,Qq s l (n+1)⟩
theorem P5(s:Zb):∀ (l:Ŀ Int) (n:Int),lL nA (l.map λx=>kn s x x) (mW s n l)
 | [],_=>trivial
 | _::l,n=>⟨⟨rfl,ö.refl _ _⟩,P5 s l (n+1)⟩
structure AN (P Q:Ŀ Zg):Prop where
 mem:∀ y ∈ P,∃ z ∈ Q,nA y z
 RS:∀ f:Zg->Bool,(∀ y z,nA y z->f y=f z)->(P.filter f).length=(Q.filter f).length
theorem IH{a0 a1 a2:Zb}(j:Good a0)(l:Good a1)(m:Good a2):AN (iJ a0 a1 a2) (iJ a0 a2 a1):=by
 obtain⟨g,_⟩:=PG j l m
 have h:=P5 a1 (mV a0 a1) (Ó a0 a2)
 have i:=Qq a2 (mV a0 a2) (Ó a0 a1)
 refine⟨λy a=>?_,λf e=>?_⟩
 .rcases ĉ.1 a with a|a
  .obtain⟨z,c,d⟩:=g.mem y a
   exact⟨z,Ř _ c,d⟩
  rcases ĉ.1 a with a|a
  .obtain⟨z,c,d⟩:=h.mem y a
   exact⟨z,ņ _ (ņ _ c),d⟩
  obtain⟨z,c,d⟩:=i.mem y a
  exact⟨z,ņ _ (Ř _ c),d⟩
 have n:=g.count e
 have p:=h.count e
 have q:=i.count e
 show (((kJ a0 a1 a2).1++(_++_)).filter f).length=(((kJ a0 a2 a1).1++(_++_)).filter f).length
 rw[Ū,Ū,Ū,Ū]
 simp only[ā]
 omega
theorem QP{a0 a1 a2:Zb}{v:Ĳ}:v ∈ Θ a0.vars a1.vars a2.vars↔(v ∈ a1.vars/\v ∈ a2.vars)\/(v ∈ a1.vars/\v ∉ a0.vars)\/(v ∈ a2.vars/\v ∉ a0.vars):=by
 unfold Θ
 split
 .rename_i e
  rw[e]
  constructor
  .intro h
   by_cases c:v ∈ a0.vars
   .exact .inl ⟨c,h⟩
   exact .inr (.inr ⟨h,c⟩)
  rintro (h|h|h)
  .exact h.2
  .exact absurd h.1 h.2
  exact h.1
 rw[ĉ,Ė,Ė]
 unfold lC lY
 simp only[ń,Ē,Ō,ű,Ģ,zO]
 constructor
 .rintro (⟨h,c|c⟩|⟨h,c,d⟩)
  .exact .inr (.inl ⟨h,c⟩)
  .exact .inl ⟨h,c⟩
  exact .inr (.inr ⟨h,d⟩)
 rintro (⟨h,c⟩|⟨h,c⟩|⟨h,c⟩)
 .exact .inl ⟨h,.inr c⟩
 .exact .inl ⟨h,.inl c⟩
 by_cases d:v ∈ a1.vars
 .exact .inl ⟨d,.inr h⟩
 exact .inr ⟨h,d,c⟩
theorem Eu{a0 a1 a2:Zb}{v:Ĳ}:v ∈ Θ a0.vars a1.vars a2.vars↔v ∈ Θ a0.vars a2.vars a1.vars:=by
 rw[QP,QP]
 constructor
 .rintro (h|h|h)
  .exact .inl h.symm
  .exact .inr (.inr h)
  exact .inr (.inl h)
 rintro (h|h|h)
 .exact .inl h.symm
 .exact .inr (.inr h)
 exact .inr (.inl h)
theorem Zt6{a0 a1 a2:Zb}(a:Good a1)(c:Good a2):(Θ a0.vars a1.vars a2.vars).length=(Θ a0.vars a2.vars a1.vars).length:=
 ((œ (Ds a.diff c.diff) (Ds c.diff a.diff)).2 λ_=>Eu).length_eq
theorem OS{fr e:Ŀ Ĳ}{p:Ŀ Za}{v:Ĳ}:∀ {k:Nat},k<=fr.length->(v ∈ iq fr e p k↔∃ (i:Nat) (_:i<k) (_:i<fr.length),fr[i]? = some v/\kc fr e p i=true)
 | 0,_=>by simp[iq]
 | k+1,j=>by
  simp only[iq]
  rw[ĉ,OS (k:=k) (by omega)]
  constructor
  .rintro (⟨i,f,a,c⟩|h)
   .exact⟨i,by omega,a,c⟩
   split at h
   .rename_i g
    rw[ī,Fa (by omega)] at h
    exact⟨k,by omega,by omega,by rw[Ą (by omega),h],g⟩
   cases h
  rintro⟨i,f,a,c,d⟩
  by_cases hi:i<k
  .exact .inl ⟨i,hi,a,c,d⟩
  have:i=k:=by omega
  subst this
  refine .inr ?_
  rw[Ă d,ī,Fa a]
  rw[Ą a] at c
  exact (Ŵ c).symm
theorem OU{fr f:Ŀ Ĳ}(h:Diff fr)(q:fr.length<=8){p:Ŀ Za}{v:Ĳ}:v ∈ kl fr f p↔v ∉ f/\∃ z ∈ named fr p,0<z.2 v:=by
 unfold kl
 rw[OS (č _)]
 constructor
 .rintro⟨i,_,hi,g,c⟩
  rw[Ą hi] at g
  cases g
  unfold kc at c
  rw[Ŗ ⟨hi,by omega⟩,Ē,Ģ] at c
  obtain⟨t,d,e⟩:=ŕ.1 c.1
  have e:=Ĝ e
  refine⟨BU c.2,_,ă.2 ⟨t,d,rfl⟩,?_⟩
  show 0<nm fr t.m fr[i]
  rw[uL h (i:=⟨i,by omega⟩) t.m hi]
  exact e
 rintro⟨m,z,n,a⟩
 obtain⟨t,d,rfl⟩:=ă.1 n
 have a:0<nm fr t.m v:=a
 by_cases j:v ∈ fr
 .obtain⟨i,hi,rfl⟩:=Ĩ.1 j
  rw[uL h (i:=⟨i,by omega⟩) t.m hi] at a
  refine⟨i,hi,hi,Ą hi,?_⟩
  unfold kc
  rw[Ŗ ⟨hi,by omega⟩,Ē,Ģ]
  refine⟨ŕ.2 ⟨t,d,ē a⟩,?_⟩
  by_cases l:0<=Õ f fr[i]
  .exact absurd (zO.1 l) m
  omega
 rw[yb _ j] at a; omega
theorem ZsQ{l m:Ŀ Ĳ}(h:∀ v,v ∈ l↔v ∈ m):oc l=oc m:=by
 unfold oc
 have key:((l.map λs=>s.data.toList).foldr lB [])=((m.map λs=>s.data.toList).foldr lB []):=by
  refine Ŭ (le:=λa b=>a<=b/\a≠b) (λa b _ _ x y=>JG x.1 y.1) (xN _) (xN _) ?_
  refine (œ ((xN _).imp λh=>h.2) ((xN _).imp λh=>h.2)).2 λz=>?_
  rw[Bn,Bn,ă,ă]
  constructor
  .rintro⟨a,c,d⟩; exact⟨a,(h a).1 c,d⟩
  rintro⟨a,c,d⟩; exact⟨a,(h a).2 c,d⟩
 rw[key]
theorem OX{a0 a1 a2:Zb}(i:Good a0)(a:Good a1)(d:Good a2){v:Ĳ}(h:v ∈ iu (Θ a0.vars a1.vars a2.vars) (iJ a0 a1 a2)):v ∈ iu (Θ a0.vars a2.vars a1.vars) (iJ a0 a2 a1):=by
 obtain⟨y,f,l⟩:=List.mem_flatMap.1 h
 obtain⟨z,g,j⟩:=(IH i a d).mem y f
 have gy:=(ET a d y f).à
 have e:=(ET d a z g).à
 have q:=gy.vars
 have r:=e.vars
 refine List.mem_flatMap.2 ⟨z,g,?_⟩
 obtain⟨m,w,n,p⟩:=(OU gy.diff (by omega)).1 l
 exact (OU e.diff (by omega)).2 ⟨λc=>m (Eu.2 c),w,(j.2 w).1 n,p⟩
theorem Yj{a0 a1 a2:Zb}(a:Good a0)(c:Good a1)(d:Good a2):lX a0 a1 a2=lX a0 a2 a1:=by
 unfold lX
 rw[(PG a c d).2]
 congr 2
 exact ZsQ λv=>⟨OX a c d,OX a d c⟩
theorem Zsg{a0 a1 a2:Zb}(c:Good a0)(d:Good a1)(e:Good a2):(Ο a0 a1 a2).eqs.length=(Ο a0 a2 a1).eqs.length/\(Ο a0 a1 a2).ζ.length=(Ο a0 a2 a1).ζ.length:=by
 have a:=IH c d e
 constructor
 .show (l6 _ (iJ a0 a1 a2)).length=(l6 _ (iJ a0 a2 a1)).length
  unfold l6
  rw[Č,Č]
  exact a.RS _ λy z h=>by rw[h.1]
 show (jI _ (iJ a0 a1 a2)).length=(jI _ (iJ a0 a2 a1)).length
 unfold jI
 rw[Č,Č]
 exact a.RS _ λy z h=>h.1
theorem Er{a0 a1 a2:Zb}(m:Good a0)(d:Good a1)(f:Good a2)(w:jh a0 a1 a2)(w':jh a0 a2 a1)(neq:Bool):
  ∀ q ∈ (if neq=true then (Ο a0 a1 a2).ζ else (Ο a0 a1 a2).eqs),∃ r ∈ (if neq=true then (Ο a0 a2 a1).ζ else (Ο a0 a2 a1).eqs),ö (Ο a0 a1 a2).vars q.p (Ο a0 a2 a1).vars r.p:=by
 have key:∀ y ∈ iJ a0 a1 a2,∃ z ∈ iJ a0 a2 a1,y.entry.neq=z.entry.neq/\ö (Ο a0 a1 a2).vars (ot (Θ a0.vars a1.vars a2.vars) y).p (Ο a0 a2 a1).vars (ot (Θ a0.vars a2.vars a1.vars) z).p:=λy a=>by
  obtain⟨z,c,l⟩:=(IH m d f).mem y a
  exact⟨z,c,l.1,((Fo w d f a).2.trans l.2).trans (Fo w' f d c).2.symm⟩
 intro q j
 cases neq with
 | false=>
  obtain⟨y,a,rfl⟩:=ă.1 (show q ∈ l6 _ (iJ a0 a1 a2) from j)
  obtain⟨h,i⟩:=Ė.1 a
  obtain⟨z,c,e,g⟩:=key y h
  exact⟨_,ă.2 ⟨z,Ė.2 ⟨c,by rw[<- e]; exact i⟩,rfl⟩,g⟩
 | true=>
  obtain⟨y,a,rfl⟩:=ă.1 (show q ∈ jI _ (iJ a0 a1 a2) from j)
  obtain⟨h,i⟩:=Ė.1 a
  obtain⟨z,c,e,g⟩:=key y h
  exact⟨_,ă.2 ⟨z,Ė.2 ⟨c,by rw[<- e]; exact i⟩,rfl⟩,g⟩
structure jN (s t:Zb):Prop where
 vars:∀ v,v ∈ s.vars↔v ∈ t.vars
 len:s.vars.length=t.vars.length
 eqs:∀ q ∈ s.eqs,∃ r ∈ t.eqs,ö s.vars q.p t.vars r.p
 ζ:∀ q ∈ s.ζ,∃ r ∈ t.ζ,ö s.vars q.p t.vars r.p
theorem jN.refl(s:Zb):jN s s:=⟨λ_=>aa3,rfl,λq a=>⟨q,a,ö.refl _ _⟩,λq a=>⟨q,a,ö.refl _ _⟩⟩
theorem Yz{s a b:Zb}(j:Good s)(f:Good a)(g:Good b)(H:s.next<=1000)(A:a.next<=1000)(B:b.next<=1000):
  (Ù s a b).2=(Ù s b a).2/\((Ù s a b).2.2=0->jN (Ù s a b).1 (Ù s b a).1/\jN (Ù s b a).1 (Ù s a b).1):=by
 have q:∀ {x y:Zb×Ŀ Zk×Int},x=y->x.2=y.2/\(x.2.2=0->jN x.1 y.1/\jN y.1 x.1):=λ{x y} e=>by
  subst e
  exact⟨rfl,λ_=>⟨.refl _,.refl _⟩⟩
 unfold Ù
 by_cases n:a=s
 .subst n
  rw[Ă rfl]
  by_cases i:b=a
  .subst i
   rw[Ă rfl]
   exact q rfl
  rw[Ā i,Ă rfl]
  exact q rfl
 by_cases i:b=s
 .subst i
  rw[Ā n,Ă rfl,Ă rfl]
  exact q rfl
 rw[Ā n,Ā i,Ā i,Ā n]
 by_cases r:b=a
 .subst r
  rw[Ă rfl]
  exact q rfl
 rw[Ā r,Ā λe=>r e.symm]
 have u:=Yj j f g
 have p:=Zsg j f g
 have l:=Zt6 (a0:=s) f g
 have m:∀ {x y:Zb},Good x->Good y->x.next<=1000->¬ 1000000<(Ο s x y).next:=λ{x y} G gy nx=>by
  show ¬ 1000000<Ó s x+((mV s y).length:Int)
  have:=EK (a0:=s) gy
  have:Ó s x<=1000:=by unfold Ó; split <;> omega
  omega
 have E:=m f g A
 have F:=m g f B
 have l:(Ο s a b).vars.length=(Ο s b a).vars.length:=l
 have t:(kH s a b).2=(kH s b a).2:=by
  unfold kH
  rw[<- u]
  by_cases c:0<(lX s a b).length
  .rw[Ă c,Ă c]
  rw[Ā c,Ā c]
  by_cases d:4<(Ο s a b).vars.length\/12<(Ο s a b).eqs.length\/12<(Ο s a b).ζ.length\/1000000<(Ο s a b).next
  .rw[Ă d,Ă (by rw[<- l,<- p.1,<- p.2]; omega)]
  rw[Ā d,Ā (by rw[<- l,<- p.1,<- p.2]; omega)]
 refine⟨t,λh=>?_⟩
 have h':(kH s b a).2.2=0:=by rw[<- t]; exact h
 obtain⟨C,w⟩:=IL h
 obtain⟨D,w'⟩:=IL h'
 rw[C,D]
 exact⟨⟨λv=>Eu,l,Er j f g w w' false,Er j f g w w' true⟩,⟨λv=>Eu,l.symm,Er j g f w' w false,Er j g f w' w true⟩⟩
end Go.EL

namespace Go.EL
open Go.IntKind (i8 i16 i32 i64 u8 u16 u32 u64)
open Go Go.RowKit
def È:Ŀ Za->Nat
 | []=>0
 | t::p=>Nat.gcd (Þ t.c).natAbs (È p)
def mz(p:Ŀ Za):Int:=match p with
 | []=>1
 | t::_=>if Þ t.c<0 then -1 else 1
def ja(s:Int)(g:Nat)(c:Zj):Zj:=ð (s*(Þ c / (g:Int)))
def á(p:Ŀ Za):Ŀ Za:=p.map λt=>⟨ja (mz p) (È p) t.c,t.m⟩
theorem Ztw:(ú 0 12 λa=>ú (-12) 12 λb=>runs 60 (xD (Ø a) (Ø b)) (Ø (Nat.gcd a.natAbs b.natAbs:Nat)))=true:=by decide +kernel
theorem Zty:(ú 1 12 λg=>runs 60 (DG (Ø 1) (Ø g)) (⟨Ø 1,Ø g⟩,0) && runs 60 (DG (Ø (-1)) (Ø g)) (⟨Ø (-1),Ø g⟩,0))=true:=by decide +kernel
theorem Zsc:(ú 1 12 λg=>ú (-12) 12 λn=>n == 0 || n % g != 0 || (runs 60 (uC ⟨Ø 1,Ø g⟩ (ð n)) (ð (1*(n / g))) && runs 60 (uC ⟨Ø (-1),Ø g⟩ (ð n)) (ð (-1*(n / g)))))=true:=by decide +kernel
theorem EH:(xD (Ø 1) ⟨false,[1]⟩).ο (Ø 1)/\(A1 ⟨false,[1]⟩ (Ø 1)).ο (Ø 1,Ø 0,0)/\(DW (Ø 1) (Ø 1)).ο (Ø 1)/\(HT (Ø 1)).ο (Ø (-1)):=⟨Cq.ο.rE 60 (by decide +kernel),Cq.ο.rE 60 (by decide +kernel),Cq.ο.rE 60 (by decide +kernel),Cq.ο.rE 60 (by decide +kernel)⟩
theorem ZtU:(ú 1 12 λg=>runs 60 (ZL ⟨Ø 1,Ø g⟩) 1 && runs 60 (ZL ⟨Ø (-1),Ø g⟩) (-1) && runs 60 (uB ⟨Ø 1,Ø g⟩) 1 && runs 60 (uB ⟨Ø (-1),Ø g⟩) (-1))=true:=by decide +kernel
theorem ν.num{p:Ŀ Za}(h:ν p){t:Za}(f:t ∈ p):t.c=ð (Þ t.c)/\Þ t.c≠0/\-12<=Þ t.c/\Þ t.c<=12:=by
 obtain⟨⟨n,e,a,c,d⟩,_⟩:=h.sI t f
 have:Þ t.c=n:=by rw[e,u6]
 rw[this]
 exact⟨e,a,c,d⟩
theorem ν.parts{p:Ŀ Za}(h:ν p){t:Za}(a:t ∈ p):t.c.num=Ø (Þ t.c)/\t.c.den=⟨false,[1]⟩:=by
 obtain⟨⟨n,e,_⟩,_⟩:=h.sI t a
 have:Þ t.c=n:=by rw[e,u6]
 rw[this,e,ZtO]
 exact⟨rfl,rfl⟩
theorem ν.ku{p:Ŀ Za}(h:ν p):hV p=true:=by
 have g:=h.len
 unfold hV
 rw[Ē]
 refine⟨ē (by omega),Ĕ.2 λt f=>?_⟩
 obtain⟨e,a,c,d⟩:=h.num f
 rw[e]
 exact Ys a c d
theorem D6:∀ {p:Ŀ Za}{t:Za},t ∈ p->È p ∣ (Þ t.c).natAbs
 | x::p,t,h=>by
  rcases ą.1 h with rfl|h
  .exact Nat.gcd_dvd_left _ _
  exact Nat.dvd_trans (Nat.gcd_dvd_right _ _) (D6 h)
theorem zq{p:Ŀ Za}(h:ν p)(a:p≠[]):1<=È p/\È p<=12:=by
 match p,a with
 | t::p,_=>
  have c:=D6 (p:=t::p) (t:=t) (by simp)
  obtain⟨e,d,f,g⟩:=h.num (t:=t) (by simp)
  have:=Nat.le_of_dvd (by omega) c
  have:=Nat.pos_of_dvd_of_pos c (by omega)
  omega
theorem zM{p:Ŀ Za}{t:Za}(a:t ∈ p):Þ t.c % (È p:Int)=0:=Int.emod_eq_zero_of_dvd (Int.ofNat_dvd_left.2 (D6 a))
theorem Kg(p:Ŀ Za):mz p=1\/mz p = -1:=by
 unfold mz
 split
 .exact .inl rfl
 split
 .exact .inr rfl
 exact .inl rfl
theorem Zto(p:Ŀ Za)(k:Nat)(h:k<p.length):È (p.take (k+1))=Nat.gcd (È (p.take k)) (Þ p[k].c).natAbs:=by
 rw[ĩ h]
 generalize p.take k=l
 generalize p[k]=t
 induction l with
 | nil=>simp[È]
 | cons x l a=>simp only[Ħ,È,a]; rw[Nat.gcd_assoc]
theorem Ztn{p:Ŀ Za}(h:ν p)(k:Nat):È (p.take k)<=12:=by
 by_cases a:p.take k=[]
 .rw[a]; exact ġ _
 have e:∃ t,t ∈ p.take k:=abg _ a
 obtain⟨t,c⟩:=e
 have d:=D6 c
 obtain⟨_,f,g,i⟩:=h.num (Ů c)
 have:=Nat.le_of_dvd (by omega) d
 omega
theorem ZuO{m:M}(h:Ok m):Ok (mulM (λ_=>0) m):=by rw[mul_zero]; exact h
theorem SF:Ok λ_=>0:=λ_=>⟨ň 0,(by decide:(0:Int)<=65535)⟩
theorem Ot{c:Zj}{f:Zj->Zj}{p:Ŀ Za}(j:p.length<=100)(e:∀ t ∈ p,Ok t.m){s:Int}(d:(ZL c).ο s)(g:s≠0)(i:∀ t ∈ p,(uC c t.c).ο (f t.c)):
  (Ht c (λ_=>0) p).ο (p.map λt=>⟨f t.c,t.m⟩,0):=by
 refine⟨s,d,Cq.wp.no g ⟨⟨by omega,by omega⟩,?_⟩⟩
 refine Cq.Zp p.length (λk s=>s=((p.take k).map λt=>⟨f t.c,t.m⟩,(k:Int))) (λk s a d=>?_) (λs d=>?_) rfl
 .subst d
  refine Cq.wp.yes (by omega) ⟨p[k],â a,_,PA SF (e _ (Ċ a)) (ZuO (e _ (Ċ a))),Cq.wp.no (λh=>h rfl) ⟨_,i _ (Ċ a),?_,?_⟩⟩
  .simp only[ā,Č,Đ,ĸ,small]; omega
  show _=_
  rw[Β (by omega),mul_zero,ĩ a,ķ]
  rfl
 subst d
 refine Cq.wp.no (by omega) ?_
 show _=_
 rw[ľ (č _)]
theorem ν.mono{p:Ŀ Za}(h:ν p):∀ t ∈ p,Ok t.m:=λt a=>(h.sI t a).m
theorem Ztu{p:Ŀ Za}(a:0<p.length):(p[0]'a) ∈ p:=Ċ a
theorem Y4{p:Ŀ Za}(a:0<p.length):mz p=if Þ (p[0]'a).c<0 then -1 else 1:=by
 match p,a with
 | t::p,_=>rfl
theorem Ik{p:Ŀ Za}(h:ν p)(f:p≠[]):(Bh p).ο (á p):=by
 have u:=h.len
 have m:0<p.length:=Ŷ.2 f
 obtain⟨A,B⟩:=zq h f
 refine Cq.wp.no (by omega) ⟨Ø 0,Cq.ο.rE 20 (by decide +kernel),Ø 1,Cq.ο.rE 20 (by decide +kernel),?_⟩
 show (MO p (0,Ø 0,Ø 1)).wp _
 refine Cq.Zp p.length (λk s=>s=((k:Int),Ø (È (p.take k):Int),Ø 1)) (λk s l c=>?_) (λs c=>?_) rfl
 .subst c
  obtain⟨e,g,i,j⟩:=h.num (Ċ l)
  obtain⟨w,r⟩:=h.parts (Ċ l)
  have C:=Ztn h k
  have y:=Zv (Zv Ztw (x:=(È (p.take k):Int)) (by omega) (by omega)) i j
  refine Cq.wp.yes (by omega) ⟨p[k],â l,Ø (Nat.gcd (È (p.take k):Int).natAbs (Þ p[k].c).natAbs:Nat),(by rw[w]; exact ZC y),Ø 1,(by rw[r]; exact EH.1),(Ø 1,Ø 0,0),(by rw[r]; exact EH.2.1),Ø 1,EH.2.2.1,?_⟩
  show _=_
  rw[Β (by omega),Zto p k l]
  simp only[Int.natAbs_natCast]
 subst c
 refine Cq.wp.no (by omega) ?_
 rw[ľ (č _)]
 show (HI p (Ø (È p:Int)) (Ø 1)).ο _
 unfold HI
 obtain⟨e,g,i,j⟩:=h.num (Ztu m)
 have c:=Zv IW i j
 rw[show (Þ p[0].c == 0)=false by simpa using g,aaf] at c
 have n:=Zv Zty (x:=(È p:Int)) (by omega) (by omega)
 have q:=Zv ZtU (x:=(È p:Int)) (by omega) (by omega)
 simp only[Ē] at n q
 have v:∀ t ∈ p,(uC ⟨Ø 1,Ø (È p:Int)⟩ t.c).ο (ja 1 (È p) t.c)/\(uC ⟨Ø (-1),Ø (È p:Int)⟩ t.c).ο (ja (-1) (È p) t.c):=λt d=>by
  obtain⟨e,g,i,j⟩:=h.num d
  have:=Zv (Zv Zsc (x:=(È p:Int)) (by omega) (by omega)) i j
  rw[show (Þ t.c == 0)=false by simpa using g,show (Þ t.c % (È p:Int) != 0)=false by simpa using zM d,aaf,aaf,Ē] at this
  unfold ja
  rw[e,u6]
  exact⟨ZC this.1,ZC this.2⟩
 refine⟨p[0],⟨by omega,by simp[m]⟩,_,(by rw[e]; exact ZC c),?_⟩
 unfold á
 rw[Y4 m]
 by_cases a:Þ p[0].c<0
 .rw[Ă a,Ă a]
  refine Cq.wp.yes (by decide) ⟨_,EH.2.2.2,?_⟩
  exact⟨_,ZC n.2,_,Ot u h.mono (ZC q.1.1.2) (by decide) (λt d=>(v t d).2),rfl⟩
 rw[Ā a,Ā a,Ā g]
 refine Cq.wp.no (by decide) ?_
 exact⟨_,ZC n.1,_,Ot u h.mono (ZC q.1.1.1) (by decide) (λt d=>(v t d).1),rfl⟩
end Go.EL

namespace Go.EL
open Go.IntKind (i8 i16 i32 i64 u8 u16 u32 u64)
open Go Go.RowKit
theorem JK(s:Int)(g:Nat)(c:Zj):Þ (ja s g c)=s*(Þ c / (g:Int)):=u6 _
theorem Kh{n:Int}{g:Nat}(d:1<=g)(c:n % (g:Int)=0)(a:n≠0):n / (g:Int)≠0:=λh=>by
 have:=fm n g
 rw[h,c] at this
 simp at this
 exact a this.symm
theorem Zvv{n:Int}{g:Nat}(d:1<=g)(c:-12<=n)(a:n<=12):-12<=n / (g:Int)/\n / (g:Int)<=12:=by
 refine⟨(Int.le_ediv_iff_mul_le (by omega)).2 ?_,aac (Int.ediv_le_ediv (by omega) a) (Int.ediv_le_self _ (by decide))⟩
 have:(g:Int)*12 ≥ 12:=by omega
 omega
theorem JR(p:Ŀ Za):(á p).length=p.length:=Č _
theorem Bz{p:Ŀ Za}:á p=[]↔p=[]:=by unfold á; simp
theorem ZtK{p:Ŀ Za}{t:Za}(h:t ∈ á p):∃ x ∈ p,t=⟨ja (mz p) (È p) x.c,x.m⟩:=by
 obtain⟨x,a,c⟩:=ă.1 h
 exact⟨x,a,c.symm⟩
theorem ti{p:Ŀ Za}(h:ν p):ν (á p) where
 ord:=by
  unfold á
  rw[Ľ]
  exact h.ord
 sI:=λt f=>by
  obtain⟨x,a,rfl⟩:=ZtK f
  have c:p≠[]:=λe=>by rw[e] at a; cases a
  obtain⟨d,m⟩:=zq h c
  obtain⟨e,i,j,l⟩:=h.num a
  have n:=Kh d (zM a) i
  obtain⟨q,r⟩:=Zvv (g:=È p) d j l
  refine⟨⟨_,rfl,?_,?_,?_⟩,h.mono x a⟩
  all_goals rcases Kg p with s|s <;> rw[s] <;> omega
 len:=by rw[JR]; exact h.len
theorem OE(p:Ŀ Za):∀ k,iM (á p) k=iM p k
 | 0=>rfl
 | k+1=>by
  unfold iM
  rw[OE p k]
  unfold á
  rw[aah]
  cases p[k]? <;> rfl
theorem xY(p:Ŀ Za):jZ (á p)=jZ p:=by unfold jZ; rw[JR,OE]
theorem NL(p:Ŀ Za):∀ k,kK (á p) k=kK p k
 | 0=>rfl
 | k+1=>by
  unfold kK
  rw[NL p k]
  unfold á
  rw[aah]
  cases p[k]? <;> rfl
theorem Zsw(p:Ŀ Za):iY (á p)=iY p:=by unfold iY; rw[JR,NL]
theorem P6(p:Ŀ Za)(n:Int):Í (á p) n=Í p n:=by unfold Í; rw[Zsw,xY]
theorem I4{s:Int}(c:s=1\/s = -1){g:Nat}(e:1<=g):∀ {p:Ŀ Za},(∀ t ∈ p,Þ t.c % (g:Int)=0)->È (p.map λt=>⟨ja s g t.c,t.m⟩)*g=È p
 | [],_=>fT _
 | t::p,h=>by
  have j:=I4 c e (p:=p) (λx i=>h x (by simp[i]))
  have f:=h t (by simp)
  simp only[ė,È]
  rw[<- j,<- Nat.gcd_mul_right,JK]
  congr 1
  have d:(s*(Þ t.c / (g:Int))).natAbs=(Þ t.c / (g:Int)).natAbs:=by rcases c with rfl|rfl <;> simp
  rw[d]
  have a:=fm (Þ t.c) g
  rw[f,aaH] at a
  rw[<- a,Int.natAbs_mul,a,Int.natAbs_natCast,aaE]
theorem ZtJ{p:Ŀ Za}(h:ν p)(a:p≠[]):È (á p)=1:=by
 obtain⟨c,e⟩:=zq h a
 have:=I4 (Kg p) c (p:=p) (λt d=>zM d)
 exact Nat.eq_of_mul_eq_mul_right c (by rw[abK]; exact this)
theorem ZtL{p:Ŀ Za}(h:ν p):mz (á p)=1:=by
 match p,h with
 | [],_=>rfl
 | t::q,h=>
  obtain⟨e,j,m,n⟩:=h.num (t:=t) (by simp)
  obtain⟨i,l⟩:=zq h (by simp)
  have c:=zM (p:=t::q) (t:=t) (by simp)
  show (if Þ (ja _ _ t.c)<0 then (-1:Int) else 1)=1
  rw[JK,Ā]
  have r:=Kh i c j
  have f:=fm (Þ t.c) (È (t::q))
  rw[c,aaH] at f
  unfold mz
  dsimp only
  generalize È (t::q)=g at *
  generalize Þ t.c / (g:Int)=z at *
  by_cases d:Þ t.c<0
  .rw[Ă d]
   have:¬ 0<z:=λa=>by
    have:=Int.mul_pos (show (0:Int)<(g:Int) by omega) a
    omega
   omega
  rw[Ā d]
  have:¬ z<0:=λa=>by
   have:=abh (show (0:Int)<(g:Int) by omega) a
   omega
  omega
theorem ZuZ{p:Ŀ Za}(h:ν p){t:Za}(a:t ∈ p):ja 1 1 t.c=t.c:=by
 obtain⟨e,_⟩:=h.num a
 unfold ja
 rw[aaz,Int.natCast_one,Int.ediv_one]
 exact e.symm
theorem Es{p:Ŀ Za}(h:ν p):á (á p)=á p:=by
 by_cases a:p=[]
 .subst a; rfl
 have c:=ti h
 show (á p).map (λt=>(⟨ja (mz (á p)) (È (á p)) t.c,t.m⟩:Za))=á p
 rw[ZtJ h a,ZtL h]
 refine (Ş λt d=>?_).trans (List.map_id _)
 rw[ZuZ c d]
 rfl
def jY(l:Ŀ (Ŀ Za)):Prop:=l.Pairwise λa b=>û a b<0
theorem NQ:∀ {l m:Ŀ (Ŀ Za)},jY l->jY m->(∀ x,x ∈ l↔x ∈ m)->l=m
 | [],[],_,_,_=>rfl
 | [],y::m,_,_,h=>by have:=(h y).2 (by simp); cases this
 | x::l,[],_,_,h=>by have:=(h x).1 (by simp); cases this
 | x::l,y::m,j,n,h=>by
  obtain⟨a1,a2⟩:=Ğ.1 j
  obtain⟨f,i⟩:=Ğ.1 n
  have e:x=y:=by
   rcases ą.1 ((h x).1 (by simp)) with e|q
   .exact e
   rcases ą.1 ((h y).2 (by simp)) with e|r
   .exact e.symm
   have s:=f x q
   have t:=a1 y r
   have:=si x y
   omega
  subst e
  have g:∀ {z:Ŀ Za}{k:Ŀ (Ŀ Za)},(∀ a ∈ k,û z a<0)->z ∉ k:=λp c=>by have:=p _ c; rw[Bm] at this; omega
  rw[NQ a2 i λz=>⟨λc=>?_,λc=>?_⟩]
  .rcases ą.1 ((h z).1 (by simp[c])) with e|d
   .subst e; exact absurd c (g a1)
   exact d
  rcases ą.1 ((h z).2 (by simp[c])) with e|d
  .subst e; exact absurd c (g f)
  exact d
theorem QE:∀ {l:Ŀ (Ŀ Za)}{x:Ŀ Za},(x::l).Pairwise (λa b=>û a b<=0)->(∀ p ∈ x::l,hV p=true)->jY (x::mR x l)/\∀ z,z ∈ x::mR x l↔z ∈ x::l
 | [],x,_,_=>⟨Ť _ _,λ_=>aa3⟩
 | y::l,x,h,d=>by
  obtain⟨a1,a2⟩:=Ğ.1 h
  obtain⟨g,i⟩:=QE a2 (λp hp=>d p (by simp at hp ⊢; exact .inr hp))
  unfold mR
  by_cases e:û y x=0
  .rw[Ă e]
   have:y=x:=Iu (d y (by simp)) (d x (by simp)) e
   subst this
   refine⟨g,λz=>?_⟩
   rw[i z]
   simp
  rw[Ā e]
  have c:û x y<0:=by
   have:=a1 y (by simp)
   have:=si x y
   omega
  refine⟨Ğ.2 ⟨λz j=>?_,g⟩,λz=>?_⟩
  .rcases ą.1 j with rfl|f
   .exact c
   exact (zj x y z (by omega) (by have:=(Ğ.1 g).1 z f; omega)).2 (.inl c)
  have:=i z
  simp only[ą] at this ⊢
  rw[this]
def Ð(l:Ŀ (Ŀ Za)):Ŀ (Ŀ Za):=jq (mu l)
theorem wg{l:Ŀ (Ŀ Za)}(d:∀ p ∈ l,hV p=true):jY (Ð l)/\∀ z,z ∈ Ð l↔z ∈ l:=by
 have a:∀ z,z ∈ mu l↔z ∈ l:=λz=>(wi l).mem_iff
 have c:=HW l
 unfold Ð
 generalize mu l=m at *
 match m,a,c with
 | [],a,_=>exact⟨List.Pairwise.nil,a⟩
 | x::m,a,c=>
  obtain⟨e,f⟩:=QE c (λp hp=>d p ((a p).1 hp))
  exact⟨e,λz=>(f z).trans (a z)⟩
theorem Fk{l m:Ŀ (Ŀ Za)}(a:∀ p ∈ l,hV p=true)(c:jY m)(h:∀ z,z ∈ m↔z ∈ l):m=Ð l:=by
 obtain⟨d,e⟩:=wg a
 exact NQ c d λz=>(h z).trans (e z).symm
theorem J2(l:Ŀ (Ŀ Za)):(Ð l).length<=l.length:=ł QD (aa1 (wi l).length_eq)
end Go.EL

namespace Go.EL
open Go.IntKind (i8 i16 i32 i64 u8 u16 u32 u64)
open Go Go.RowKit
def mo(plain:Bool)(q:Ŀ Za):Bool:=!q.isEmpty && !(plain && decide (jZ q=0))
theorem XZ{v:Ŀ (Ŀ Za)}{y:Ŀ Za}(n:jY v){k:Nat}(A:k<=v.length)(p:∀ i (h:i<v.length),i<k->û v[i] y<0)(r:∀ h:k<v.length,0<û v[k] y):
  jY (v.take k++([y]++v.drop k))/\∀ z,z ∈ v.take k++([y]++v.drop k)↔z ∈ v\/z=y:=by
 have s:∀ z ∈ v.drop k,0<û z y:=λz l=>by
  obtain⟨j,f,rfl⟩:=aa0 l
  rw[Ž] at f
  have c:k<v.length:=by omega
  rw[List.getElem_drop]
  have q:=r c
  by_cases e:j=0
  .subst e; exact q
  have:=Ę.1 n k (k+j) c (by omega) (by omega)
  have B:=si v[k] y
  have C:=si v[k+j] y
  have:=(zj y v[k] v[k+j] (by omega) (by omega)).2 (.inl (by omega))
  omega
 refine⟨?_,λz=>?_⟩
 .unfold jY
  rw[ţ]
  have g:((v.take k)++v.drop k).Pairwise λa b=>û a b<0:=by rw[Ő]; exact n
  obtain⟨t,u,w⟩:=ţ.1 g
  refine⟨t,?_,λa m b d=>?_⟩
  .refine Ğ.2 ⟨λz l=>?_,u⟩
   have:=s z l
   have:=si z y
   omega
  rcases ą.1 d with rfl|d
  .obtain⟨j,f,rfl⟩:=aa0 m
   rw[Đ] at f
   rw[ş]
   exact p j (by omega) (by omega)
  exact w a m b d
 have:z ∈ v↔z ∈ v.take k\/z ∈ v.drop k:=by rw[<- ĉ,Ő]
 rw[this]
 simp only[ĉ,ą,ĝ,ŝ,List.singleton_append]
 constructor
 .rintro (h|h|h)
  .exact .inl (.inl h)
  .exact .inr h
  exact .inl (.inr h)
 rintro ((h|h)|h)
 .exact .inl h
 .exact .inr (.inr h)
 exact .inr (.inl h)
def kept(l:Ŀ (Ŀ Za))(plain:Bool):Ŀ (Ŀ Za):=(l.map á).filter (mo plain)
theorem Em{l:Ŀ (Ŀ Za)}(h:∀ p ∈ l,ν p){plain:Bool}:∀ q ∈ kept l plain,ν q:=λq a=>by
 obtain⟨p,hp,rfl⟩:=ă.1 (Ė.1 a).1
 exact ti (h p hp)
theorem I8(l:Ŀ (Ŀ Za))(plain:Bool){k:Nat}(a:k<l.length):kept (l.take (k+1)) plain=kept (l.take k) plain++(if mo plain (á l[k])=true then [á l[k]] else []):=by
 unfold kept
 rw[ĩ a,ķ,Ū]
 congr 1
 simp only[ė,ĵ,Œ,List.filter_nil]
structure xz (l:Ŀ (Ŀ Za)) (plain:Bool) (k:Nat) (v:Ŀ (Ŀ Za)):Prop where
 st:jY v
 mem:∀ z,z ∈ v↔z ∈ kept (l.take k) plain
 len:v.length<=k
theorem xz.put{l:Ŀ (Ŀ Za)}{plain:Bool}{k:Nat}{v:Ŀ (Ŀ Za)}(h:xz l plain k v)(e:k<l.length)(f:mo plain (á l[k])=true){j:Nat}(d:j<=v.length)(a:∀ i (h:i<v.length),i<j->û v[i] (á l[k])<0)(c:∀ h:j<v.length,0<û v[j] (á l[k])):
  xz l plain (k+1) (v.take j++([á l[k]]++v.drop j)):=by
 obtain⟨g,m⟩:=XZ h.st d a c
 refine⟨g,λz=>?_,?_⟩
 .rw[m z,h.mem z,I8 l plain e,f,Ă rfl,ĉ,ī]
 have:=h.len
 simp only[ā,Đ,Ž,ĸ]
 omega
end Go.EL

namespace Go.EL
open Go.IntKind (i8 i16 i32 i64 u8 u16 u32 u64)
open Go Go.RowKit
abbrev im:=Ŀ Za
instance Ce:DecidableEq Za:=λ⟨a1,a2⟩ ⟨a,c⟩=>decidable_of_iff (a1=a/\a2=c) (by simp)
def mX:im:=[⟨ð 1,λ_=>0⟩]
def lG:Zm:=⟨0,[],[]⟩
def km(l:Ŀ im):Ŀ im:=(l.filter λp=>p.isEmpty).map λ_=>mX
def iV(eqs ζ:Ŀ im):Ŀ im:=kept eqs false++km ζ
def Ô(n:Int)(eqs ζ:Ŀ im):Zm×Int:=
 if 1<=n/\n<=4 then
  if (eqs++ζ).all (λp=>Í p n)=true then
   if 12<(Ð (iV eqs ζ)).length then (lG,2)
   else if 12<(Ð (kept ζ true)).length then (lG,2)
   else (⟨n,Ð (iV eqs ζ),Ð (kept ζ true)⟩,0)
  else (lG,1)
 else (lG,1)
theorem Ft:ν mX where
 ord:=Ť _ _
 sI:=λt a=>by rw[mX,ī] at a; subst a; exact⟨⟨1,rfl,by decide,by decide,by decide⟩,SF⟩
 len:=by decide
theorem EN:á mX=mX:=by decide +kernel
theorem Bx{l:Ŀ im}:∀ p ∈ km l,p=mX:=λp hp=>by
 obtain⟨_,_,h⟩:=ă.1 hp
 exact h.symm
theorem Qu(l:Ŀ im):(km l).length<=l.length:=by unfold km; rw[List.length_map]; exact List.length_filter_le _ _
theorem xX(l:Ŀ im)(plain:Bool):(kept l plain).length<=l.length:=by unfold kept; exact Nat.le_trans (List.length_filter_le _ _) (Nat.le_of_eq (List.length_map _))
theorem Ztf(a b:Ŀ im):(iV a b).length<=a.length+b.length:=by
 have:=xX a false
 have:=Qu b
 unfold iV
 rw[ā]
 omega
theorem E1{a b:Ŀ im}(c:∀ p ∈ a,ν p):∀ p ∈ iV a b,ν p:=λp hp=>by
 rcases ĉ.1 hp with h|h
 .exact Em c p h
 rw[Bx p h]; exact Ft
theorem Ib{p:im}(h:ν p)(a:p≠[]):0<=jZ p:=by
 obtain⟨t,c⟩:=abg _ a
 by_cases d:jZ p<=-1
 .have:=(x0 (by decide)).1 d t c
  have e:=(Ez (h.sI t c).m 8).1
  unfold gV at this
  omega
 omega
theorem XD{a b:Ŀ im}(f:a.length<=100)(g:b.length<=100):(Hf [a,b]).ο (a++b):=by
 refine Cq.Zp 2 (λk s=>s=(if k=0 then 0 else if k=1 then (a.length:Int) else (a.length:Int)+(b.length:Int),(k:Int))) (λk s d c=>?_) (λs c=>?_) rfl
 .subst c
  have e:k=0\/k=1:=by omega
  rcases e with rfl|rfl
  .refine Cq.wp.yes (by show (0:Int)<2; decide) ⟨a,⟨by decide,rfl⟩,?_⟩
   have:i64.wrap (0+(a.length:Int))=(a.length:Int):=by rw[wrap64 (by omega)]; omega
   refine Cq.wp.no (by rw[Ă rfl,this]; omega) ?_
   show _=_
   rw[Ă rfl,this]; rfl
  refine Cq.wp.yes (by show (1:Int)<2; decide) ⟨b,⟨by decide,rfl⟩,?_⟩
  have:i64.wrap ((a.length:Int)+(b.length:Int))=(a.length:Int)+(b.length:Int):=by rw[wrap64 (by omega)]
  refine Cq.wp.no (by rw[Ā (by decide),Ă rfl,this]; omega) ?_
  show _=_
  rw[Ā (by decide),Ă rfl,this]; rfl
 subst c
 refine Cq.wp.no (by show ¬ (2:Int)<2; decide) ?_
 refine⟨[],⟨⟨?_,?_⟩,rfl⟩,?_⟩
 .rw[Ā (by decide),Ā (by decide)]; omega
 .rw[Ā (by decide),Ā (by decide)]; omega
 refine Cq.Zp 2 (λk s=>s=(if k=0 then [] else if k=1 then a else a++b,(k:Int))) (λk s d c=>?_) (λs c=>?_) rfl
 .subst c
  have e:k=0\/k=1:=by omega
  rcases e with rfl|rfl
  .refine Cq.wp.yes (by show (0:Int)<2; decide) ⟨a,⟨by decide,rfl⟩,?_,?_⟩
   .rw[Ă rfl,Ņ]; simp only[small]; omega
   show _=_
   rw[Ă rfl,Ņ]; rfl
  refine Cq.wp.yes (by show (1:Int)<2; decide) ⟨b,⟨by decide,rfl⟩,?_,?_⟩
  .rw[Ā (by decide),Ă rfl,ā]; simp only[small]; omega
  show _=_
  rw[Ā (by decide),Ă rfl]; rfl
 subst c
 refine Cq.wp.no (by show ¬ (2:Int)<2; decide) ?_
 show _=_
 rw[Ā (by decide),Ā (by decide)]
theorem Fs{n:Int}(h:1<=n/\n<=4):∃ m:Nat,n=(m:Int)/\1<=m/\m<=4:=⟨n.toNat,by omega,by omega,by omega⟩
theorem vH:(DC 1).ο (ð 1):=Cq.ο.rE 20 (by decide +kernel)
theorem vG:(AX (ð 1)).ο mX:=Cq.ο.rE 20 (by decide +kernel)
theorem NO{l:Ŀ im}(a:l.length<=100)(h:∀ p ∈ l,ν p):(DU l).ο (Ð l):=⟨⟨a,Ĕ.2 λp hp=>(h p hp).ku⟩,rfl⟩
theorem YF(l:Ŀ im){k:Nat}(a:k<l.length):km (l.take (k+1))=km (l.take k)++(if l[k]=[] then [mX] else []):=by
 unfold km
 rw[ĩ a,Ū,ķ]
 congr 1
 rw[Œ]
 by_cases h:l[k]=[]
 .rw[Ă (by simpa using h),Ă h]; rfl
 rw[Ā (by simpa using h),Ā h]; rfl
theorem Ob{n:Int}{eqs ζ:Ŀ im}(le:eqs.length<=40)(ln:ζ.length<=40)(t:∀ p ∈ eqs,ν p)(u:∀ p ∈ ζ,ν p):(DR n eqs ζ).ο (Ô n eqs ζ):=by
 unfold Ô
 by_cases g:n<1
 .rw[Ā (show ¬(1<=n/\n<=4) by omega)]; exact Cq.wp.yes g rfl
 refine Cq.wp.no g ?_
 by_cases A:4<n
 .rw[Ā (show ¬(1<=n/\n<=4) by omega)]; exact Cq.wp.yes A rfl
 refine Cq.wp.no A ?_
 rw[Ă ⟨by omega,by omega⟩]
 obtain⟨m,rfl,N,O⟩:=Fs ⟨show 1<=n by omega,by omega⟩
 have q:∀ p ∈ eqs++ζ,ν p:=λp hp=>(ĉ.1 hp).elim (t p) (u p)
 refine⟨eqs++ζ,XD (by omega) (by omega),?_⟩
 have C:(eqs++ζ).length<=100:=by rw[ā]; omega
 generalize L:eqs++ζ=l at *
 refine (MB (m:Int) l (0,lG)).mono (p:=λo=>match o with | .inl v=>v=(lG,1)/\(l.all λp=>Í p (m:Int))=false | .inr _=>(l.all λp=>Í p (m:Int))=true) (λo h=>?_) (Cq.Zp l.length (λk s=>s=((k:Int),lG)/\∀ i (h:i<l.length),i<k->Í l[i] (m:Int)=true) ?_ ?_ ⟨rfl,λi _ h=>absurd h (ō _)⟩)
 rotate_left
 .rintro k s a ⟨rfl,g⟩
  refine Cq.wp.yes (by omega) ⟨_,â a,_,M0 (q _ (Ċ a)) (by omega),?_⟩
  by_cases j:Í l[k] (m:Int)=true
  .rw[j]
   refine Cq.wp.no (by decide) ⟨by rw[Β (by omega)],λi hi G=>?_⟩
   by_cases e:i=k
   .subst e; exact j
   exact g i hi (by omega)
  rw[aai.2 j]
  refine Cq.wp.yes (by decide) ⟨rfl,aai.2 λr=>?_⟩
  exact j (Ĕ.1 r _ (Ċ a))
 .rintro s ⟨rfl,g⟩
  refine Cq.wp.no (by omega) ?_
  refine Ĕ.2 λp hp=>?_
  obtain⟨i,hi,rfl⟩:=aa0 hp
  exact g i hi hi
 match o,h with
 | .inl v,⟨I,j⟩=>rw[j,Ā (by decide)]; exact I
 | .inr _,r=>
  rw[Ă r]
  show (ME (m:Int) eqs ζ).ο _
  refine Cq.Zp eqs.length (λk s=>s=(kept (eqs.take k) false,(k:Int))) (λk s a d=>?_) (λs d=>?_) rfl
  .subst d
   refine Cq.wp.yes (by omega) ⟨_,â a,?_⟩
   have d:=I8 eqs false a
   have:=xX (eqs.take k) false
   rw[Đ] at this
   by_cases c:eqs[k]=[]
   .refine Cq.wp.no (by rw[c]; decide) ?_
    show _=_
    rw[d,c,Ā (by decide),ğ,Β (by omega)]
   have hp:0<eqs[k].length:=Ŷ.2 c
   refine Cq.wp.yes (by omega) ⟨_,Ik (t _ (Ċ a)) c,?_,?_⟩
   .rw[ā,ĸ]; simp only[small]; omega
   show _=_
   have a:mo false (á eqs[k])=true:=by
    have:(á eqs[k]).isEmpty=false:=by simpa using λe=>c (Bz.1 e)
    unfold mo; rw[this]; rfl
   rw[d,a,Ă rfl,Β (by omega)]
  subst d
  refine Cq.wp.no (by omega) ?_
  rw[ľ (č _)]
  show (MD (m:Int) ζ (kept eqs false)).ο _
  refine Cq.Zp ζ.length (λk s=>s=(kept eqs false++km (ζ.take k),kept (ζ.take k) true,(k:Int))) (λk s a d=>?_) (λs d=>?_) (by show _=_; rw[ŭ]; show _=(kept eqs false++[],_,_); rw[ğ]; rfl)
  .subst d
   have d:=I8 ζ true a
   have y:=YF ζ a
   have D:=xX (ζ.take k) true
   have J:=xX eqs false
   have K:=Qu (ζ.take k)
   rw[Đ] at D K
   refine Cq.wp.yes (by omega) ⟨_,â a,?_⟩
   by_cases c:ζ[k]=[]
   .refine Cq.wp.yes (by rw[c]; rfl) ⟨_,vH,_,vG,?_,?_⟩
    .rw[ā,ā,ĸ]; simp only[small]; omega
    show _=_
    rw[d,y,c,Ă rfl,Ā (by decide),ğ,Β (by omega),ď]
   have hp:0<ζ[k].length:=Ŷ.2 c
   have f:=u _ (Ċ a)
   have w:(á ζ[k]).isEmpty=false:=by simpa using λe=>c (Bz.1 e)
   have H:=Ib f c
   refine Cq.wp.no (by omega) ⟨_,Bd f,?_⟩
   by_cases B:0<jZ ζ[k]
   .refine Cq.wp.yes B ⟨_,Ik f c,?_,?_⟩
    .rw[ā,ĸ]; simp only[small]; omega
    show _=_
    have a:mo true (á ζ[k])=true:=by unfold mo; rw[w,xY,decide_eq_false (by omega)]; rfl
    rw[d,y,Ā c,a,Ă rfl,Β (by omega),ğ]
   refine Cq.wp.no B ?_
   show _=_
   have a:mo true (á ζ[k])=false:=by unfold mo; rw[xY,decide_eq_true (by omega)]; simp
   rw[d,y,Ā c,a,Ā (by decide),Β (by omega),ğ,ğ]
  subst d
  refine Cq.wp.no (by omega) ?_
  rw[ľ (č _)]
  show (MC (m:Int) (iV eqs ζ) (kept ζ true)).ο _
  have D:=Ztf eqs ζ
  have J:=xX ζ true
  refine⟨_,NO (by omega) (E1 t),_,NO (by omega) (Em u),?_⟩
  by_cases E:12<(Ð (iV eqs ζ)).length
  .rw[Ă E]; exact Cq.wp.yes (by omega) rfl
  rw[Ā E]
  refine Cq.wp.no (by omega) ?_
  by_cases F:12<(Ð (kept ζ true)).length
  .rw[Ă F]; exact Cq.wp.yes (by omega) rfl
  rw[Ā F]; exact Cq.wp.no (by omega) rfl
end Go.EL

namespace Go.EL
open Go.IntKind (i8 i16 i32 i64 u8 u16 u32 u64)
open Go Go.RowKit
theorem Ql:∀ (f:Nat) (n:Int),(nH f n).length<=f+1
 | 0,_=>by simp[nH]
 | f+1,n=>by
  unfold nH
  split
  .have:=Ql f (u64.wrap (Int.tdiv n 128)); rw[Ġ]; omega
  simp
theorem we(n:Int):(lD n).length<=11:=Ql 10 n
theorem vQ{n:Int}(a:0<=n):0<=Int.tdiv n 128/\Int.tdiv n 128=n / 128:=⟨Int.tdiv_nonneg a (by decide),abe a⟩
theorem Qx:∀ (f:Nat) (b:Ŀ Int) (n:Int),0<=n->n<128 ^ (f+1)->n<18446744073709551616->b.length+f+1<=1000000->(DV (b,n)).wp λo=>(Ec o.1 o.2).ο (b++nH f n)
 | 0,b,n,c,d,g,i=>by
  refine Cq.sK (Cq.wp.no (by omega) ?_)
  show (Ec b n).ο _
  refine⟨?_,rfl⟩
  rw[ā,ĸ]; simp only[small]; omega
 | f+1,b,n,c,d,g,i=>by
  by_cases h:127<n
  .refine Cq.sK (Cq.wp.yes h ⟨?_,?_⟩)
   .rw[ā,ĸ]; simp only[small]; omega
   obtain⟨d0,d1⟩:=vQ c
   have a:n / 128<128 ^ (f+1):=Int.ediv_lt_of_lt_mul (by decide) (by rw[<- Int.pow_succ]; exact d)
   have j:u64.wrap (Int.tdiv n 128)=n / 128:=by rw[d1]; exact wq ⟨by omega,by omega⟩
   show (DV _).wp _
   have l:=Qx f (b++[u8.wrap (u8.wrap (Int.tmod n 128)+128)]) (u64.wrap (Int.tdiv n 128)) (by omega) (by rw[j]; exact a) (by omega) (by rw[ā,ĸ]; omega)
   refine (DV _).mono (λo e=>?_) l
   rw[ď] at e
   unfold nH
   rw[Ă (show 128<=n by omega)]
   exact e
  refine Cq.sK (Cq.wp.no h ?_)
  show (Ec b n).ο _
  unfold nH
  rw[Ā (show ¬ 128<=n by omega)]
  refine⟨?_,rfl⟩
  rw[ā,ĸ]; simp only[small]; omega
theorem Lk:(128:Int) ^ (10+1)=151115727451828646838272:=by decide
theorem BJ{b:Ŀ Int}{n:Int}(h:0<=n/\n<18446744073709551616)(c:b.length<=900000):(xZ b n).ο (b++lD n):=by
 have a:=Lk
 exact Qx 10 b n h.1 (by omega) h.2 (by omega)
theorem Fe{n:Nat}(h:n<=1000000):u64.wrap (n:Int)=(n:Int):=wq ⟨by omega,by omega⟩
theorem P0(d:Int):(iZ d).length=4:=rfl
theorem xW{α:Type}{f:α->Ŀ Int}{K:Nat}:∀ {l:Ŀ α},(∀ x ∈ l,(f x).length<=K)->(l.flatMap f).length<=K*l.length
 | [],_=>č _
 | x::l,h=>by
  have c:=h x (by simp)
  have d:=xW (l:=l) (λy a=>h y (by simp[a]))
  rw[gj,ā,Ġ,Nat.mul_succ]
  omega
theorem I3{α:Type}(f:α->Ŀ Int)(l:Ŀ α){k:Nat}(a:k<l.length):(l.take (k+1)).flatMap f=(l.take k).flatMap f++f l[k]:=by
 rw[ĩ a,x6]
 simp
theorem JE{a:Zi}(h:a.Α.length<=1):(pU a).length<=15:=by
 unfold pU
 rw[ā]
 have c:=we (if a.neg=true then u64.wrap (u64.wrap (2*u64.wrap (a.Α.length:Int))+1) else u64.wrap (2*u64.wrap (a.Α.length:Int)))
 have d:=xW (K:=4) (l:=a.Α) (f:=iZ) (λx _=>aa1 (P0 x))
 omega
theorem OA{b:Ŀ Int}{a:Zi}(h:a.Α.length<=1)(m:b.length<=800000):(Bk b a).ο (b++pU a):=by
 have key:∀ s:Int,0<=s->s<=1->(DK b a s).ο (b++(lD (u64.wrap (u64.wrap (u64.wrap (a.Α.length:Int)*2)+s))++a.Α.flatMap iZ)):=λs p q=>by
  have e:=Fe (n:=a.Α.length) (by omega)
  have c:u64.wrap ((a.Α.length:Int)*2)=(a.Α.length:Int)*2:=wq ⟨by omega,by omega⟩
  have j:u64.wrap ((a.Α.length:Int)*2+s)=(a.Α.length:Int)*2+s:=wq ⟨by omega,by omega⟩
  refine⟨_,BJ (by rw[e,c,j]; omega) (by omega),?_⟩
  have d:=we (u64.wrap (u64.wrap (u64.wrap (a.Α.length:Int)*2)+s))
  generalize lD (u64.wrap (u64.wrap (u64.wrap (a.Α.length:Int)*2)+s))=N at *
  refine Cq.Zp a.Α.length (λk st=>st=(b++N++(a.Α.take k).flatMap iZ,(k:Int))) (λk st i g=>?_) (λst g=>?_) (by show _=_; simp)
  .subst g
   refine Cq.wp.yes (by omega) ⟨_,â i,?_,?_⟩
   .have:=xW (K:=4) (l:=a.Α.take k) (f:=iZ) (λx _=>aa1 (P0 x))
    rw[Đ] at this
    simp only[ā,Ġ,ř,small]; omega
   show _=_
   rw[Β (by omega),I3 iZ a.Α i,<- ď]
   rfl
  subst g
  refine Cq.wp.no (by omega) ?_
  rw[ľ (č _)]
  show _=_
  rw[ď]
 unfold Bk
 have e:=Fe (n:=a.Α.length) (by omega)
 have c:u64.wrap ((a.Α.length:Int)*2)=(a.Α.length:Int)*2:=wq ⟨by omega,by omega⟩
 by_cases d:a.neg=true
 .refine Cq.wp.yes d ?_
  have:=key 1 (by decide) (by decide)
  unfold pU
  rw[Ă d,abw 2]
  exact this
 refine Cq.wp.no d ?_
 have:=key 0 (by decide) (by decide)
 unfold pU
 rw[Ā d,abw 2]
 rw[aaH,e,c,c] at this
 rw[e,c]
 exact this
theorem ν.CH{p:im}(h:ν p){t:Za}(d:t ∈ p):t.c.num.Α.length<=1/\t.c.den.Α.length<=1:=by
 obtain⟨a,c⟩:=h.parts d
 rw[a,c]
 refine⟨?_,č 1⟩
 show (vC _).length<=1
 unfold vC
 split <;> simp
theorem P8{p:im}(h:ν p){t:Za}(d:t ∈ p):(qg t.c).length<=30:=by
 obtain⟨a,c⟩:=h.CH d
 have:=JE a
 have:=JE c
 unfold qg
 rw[ā]
 omega
theorem JJ(m:M):∀ k,(l7 m k).length<=11*k
 | 0=>č _
 | k+1=>by
  have:=JJ m k
  have:=we (u64.wrap (Κ m (k:Int)))
  unfold l7
  rw[ā]
  omega
theorem PS{p:im}(h:ν p){t:Za}(a:t ∈ p):(jK t).length<=118:=by
 have:=P8 h a
 have:=JJ t.m 8
 unfold jK
 rw[ā]
 omega
theorem PK{p:im}(h:ν p):(ju p).length<=11811:=by
 have c:=we (u64.wrap (p.length:Int))
 have d:=xW (f:=jK) (K:=118) (λt a=>PS h a)
 have e:=h.len
 have:118*p.length<=11800:=by omega
 unfold ju
 rw[ā]
 omega
theorem H6{l:Ŀ im}(h:∀ p ∈ l,ν p)(d:l.length<=12):(jM l).length<=150000:=by
 have a:=we (u64.wrap (l.length:Int))
 have c:=xW (f:=ju) (K:=11811) (λp hp=>PK (h p hp))
 have:11811*l.length<=141732:=by omega
 unfold jM
 rw[ā]
 omega
theorem X9{b:Ŀ Int}{p:im}(h:ν p)(y:b.length<=700000):(Jp b p).ο (b++ju p):=by
 have A:=h.len
 have m:=Fe (n:=p.length) (by omega)
 refine⟨_,BJ (by rw[m]; omega) (by omega),?_⟩
 unfold ju
 have D:=we (u64.wrap (p.length:Int))
 generalize lD (u64.wrap (p.length:Int))=N at *
 refine Cq.Zp p.length (λk st=>st=(b++N++(p.take k).flatMap jK,(k:Int))) (λk st d a=>?_) (λst a=>?_) (by show _=_; simp)
 .subst a
  have e:=Ċ d
  obtain⟨i,w⟩:=h.CH e
  have r:=xW (K:=118) (l:=p.take k) (f:=jK) (λx v=>PS h (Ů v))
  rw[Đ] at r
  have s:118*min k p.length<=11800:=by omega
  have E:=P8 h e
  refine Cq.wp.yes (by omega) ⟨_,â d,b++N++(p.take k).flatMap jK++qg p[k].c,⟨_,OA i (by simp only[ā]; omega),_,OA w (by
   have:=JE i
   simp only[ā]; omega),?_⟩,?_⟩
  .show _=_
   unfold qg
   simp only[ď]
  generalize g:b++N++(p.take k).flatMap jK++qg p[k].c=B
  have q:B.length<=750000:=by rw[<- g]; simp only[ā]; omega
  refine Cq.Zp 8 (λj st=>st=(B++l7 p[k].m j,(j:Int))) (λj st c a=>?_) (λst a=>?_) (by show _=_; simp[l7])
  .subst a
   have C:=(h.mono _ e) ⟨j,c⟩
   have t:=JJ p[k].m j
   have u:u64.wrap (p[k].m ⟨j,c⟩)=p[k].m ⟨j,c⟩:=wq ⟨by omega,by omega⟩
   refine Cq.wp.yes (by omega) ⟨_,â d,⟨by omega,by omega⟩,B++l7 p[k].m j++lD (u64.wrap (Κ p[k].m (j:Int))),BJ (by rw[hU c,u]; omega) (by rw[ā]; omega),?_⟩
   show _=_
   rw[Β (by omega),ď]
   rfl
  subst a
  refine Cq.wp.no (by decide) ?_
  show _=_
  rw[Β (by omega),I3 jK p d,<- g]
  unfold jK
  simp only[ď]
 subst a
 refine Cq.wp.no (by omega) ?_
 rw[ľ (č _)]
 show _=_
 rw[ď]
theorem Oz{b:Ŀ Int}{l:Ŀ im}(h:∀ p ∈ l,ν p)(m:l.length<=12)(j:b.length<=500000):(D9 b l).ο (b++jM l):=by
 have d:=Fe (n:=l.length) (by omega)
 refine⟨_,BJ (by rw[d]; omega) (by omega),?_⟩
 unfold jM
 have q:=we (u64.wrap (l.length:Int))
 generalize lD (u64.wrap (l.length:Int))=N at *
 refine Cq.Zp l.length (λk st=>st=(b++N++(l.take k).flatMap ju,(k:Int))) (λk st a c=>?_) (λst c=>?_) (by show _=_; simp)
 .subst c
  have e:=xW (K:=11811) (l:=l.take k) (f:=ju) (λx i=>PK (h x (Ů i)))
  rw[Đ] at e
  have g:11811*min k l.length<=141732:=by omega
  refine Cq.wp.yes (by omega) ⟨_,â a,_,X9 (h _ (Ċ a)) (by simp only[ā]; omega),?_⟩
  show _=_
  rw[Β (by omega),I3 ju l a]
  simp only[ď]
 subst c
 refine Cq.wp.no (by omega) ?_
 rw[ľ (č _)]
 show _=_
 rw[ď]
structure ma (n:Int) (least:Int) (l:Ŀ im):Prop where
 len:l.length<=12
 iF:∀ p ∈ l,ν p/\Í p n=true/\p≠[]/\á p=p/\least<=jZ p
 st:jY l
structure gT (k:Zm):Prop where
 n:1<=k.n/\k.n<=4
 eqs:ma k.n 0 k.eqs
 ζ:ma k.n 1 k.ζ
theorem Qp(n:Int):(qd n).length<=11:=we _
theorem X8{k:Zm}(h:0<=k.n/\k.n<=1000)(c:∀ p ∈ k.eqs,ν p)(hi:∀ p ∈ k.ζ,ν p)(le:k.eqs.length<=12)(e:k.ζ.length<=12):(BF [] k).ο (ml k):=by
 have d:u64.wrap k.n=k.n:=wq ⟨by omega,by omega⟩
 have a:u64.wrap (k.n*2)=k.n*2:=wq ⟨by omega,by omega⟩
 have f:=Qp k.n
 have g:=H6 c le
 refine⟨qd k.n,Cq.wp.no (by omega) ⟨_,BJ (b:=[]) (by rw[d,a]; omega) (by simp),?_⟩,_,Oz c le (by omega),_,Oz hi e (by rw[ā]; omega),?_⟩
 .show _=_
  unfold qd
  rw[abw 2]
  rfl
 rfl
theorem Yk{k:Zm}(h:gT k):(ml k).length<=1000000:=by
 have a:=Qp k.n
 have c:=H6 (λp hp=>(h.eqs.iF p hp).1) h.eqs.len
 have d:=H6 (λp hp=>(h.ζ.iF p hp).1) h.ζ.len
 unfold ml
 simp only[ā]
 omega
theorem XT{p:im}{n:Int}(h:Í p n=true):(Int.fdiv (i64.wrap (iY p)) (2 ^ (min n.toNat i64.bits)))=0/\jZ p<=12:=by
 unfold Í at h
 split at h
 .exact⟨‹_›,Ĝ h⟩
 cases h
theorem ZsK{l:Ŀ im}(h:jY l){k:Nat}(a:k+1<l.length):û l[k] l[k+1]<0:=Ę.1 h k (k+1) (by omega) a (by omega)
theorem NN{k:Zm}(q:1<=k.n/\k.n<=4){least:Int}{l:Ŀ im}(h:ma k.n least l):(À ⟨k⟩ l least).ο true:=by
 have p:=h.len
 refine Cq.wp.no (by omega) ?_
 refine Cq.Zp l.length (λj s=>s=(j:Int)) (λj s c d=>?_) (λs d=>?_) rfl
 .subst d
  obtain⟨a,f,g,m,r⟩:=h.iF _ (Ċ c)
  obtain⟨f1,f2⟩:=XT f
  refine Cq.wp.yes (by omega) ⟨_,â c,true,⟨true,Mh a,_,Jt a.len,by show 0<=k.n; omega,Cq.wp.yes f1 ⟨_,Bd a,ē f2⟩⟩,_,Bd a,Cq.wp.no (by omega) ⟨_,Ik a g,true,?_,Cq.wp.no (by decide) ?_⟩⟩
  .rw[m]
   have:=Ir a.ku a.ku
   rw[Bm] at this
   exact this
  by_cases e:(0:Int)<(j:Int)
  .obtain⟨i,rfl⟩:∃ i,j=i+1:=⟨j-1,by omega⟩
   have hi:i64.wrap (((i+1:Nat):Int)-1)=(i:Int):=by rw[wrap64 (by omega)]; omega
   have n:=ZsK h.st c
   refine Cq.wp.yes e ?_
   rw[hi]
   refine⟨_,â (by omega),_,PC (h.iF _ (Ċ (by omega))).1.ku a.ku,Cq.wp.no (by omega) ?_⟩
   exact Β (by omega)
  exact Cq.wp.no e (Β (by omega))
 subst d
 exact Cq.wp.no (by omega) rfl
theorem Xy{k:Zm}(h:gT k):(HS k).ο true:=
 ⟨true,Cq.wp.yes h.n.1 (Cq.wp.yes h.n.2 ⟨true,NN h.n h.eqs,true,NN h.n h.ζ,rfl⟩),rfl⟩
def jr(k:Zm):Ĳ:=bytesOf (ml k)
theorem Zui{k:Zm}(h:gT k):(It k).ο (jr k):=⟨true,Xy h,⟨by have:=h.n; omega,Yk h⟩,rfl⟩
end Go.EL

namespace Go.EL
open Go.IntKind (i8 i16 i32 i64 u8 u16 u32 u64)
open Go Go.RowKit
structure jS (n:Nat) (π:M):Prop where
 perm:Ê π
 fix:∀ i:Fin 8,n<=i.val->π i=(i.val:Int)
def lf(n:Nat)(π:M):Bool:=decide (∀ i,0<=π i/\π i<8) && decide (∀ i j,π i=π j->i=j) && decide (∀ i:Fin 8,n<=i.val->π i=(i.val:Int))
theorem jS.of{n:Nat}{π:M}(h:lf n π=true):jS n π:=by
 unfold lf at h
 simp only[Ē,Ģ] at h
 exact⟨⟨h.1.1,h.1.2⟩,h.2⟩
theorem Zst:((Λ 1).all (lf 1) && (Λ 2).all (lf 2) && (Λ 3).all (lf 3) && (Λ 4).all (lf 4))=true:=by decide +kernel
theorem ZN{n:Nat}(h:1<=n/\n<=4){π:M}(hp:π ∈ Λ n):jS n π:=by
 have:=Zst
 simp only[Ē,Ĕ] at this
 obtain⟨⟨⟨a,c⟩,d⟩,e⟩:=this
 have f:n=1\/n=2\/n=3\/n=4:=by omega
 rcases f with rfl|rfl|rfl|rfl
 .exact .of (a π hp)
 .exact .of (c π hp)
 .exact .of (d π hp)
 exact .of (e π hp)
theorem A6{n:Nat}:Λ n=(λi:Fin 8=>(i.val:Int))::(Λ n).tail:=rfl
theorem D4{n:Nat}(d:n<=8){π:M}(h:jS n π){p:im}(hp:ν p)(g:Í p (n:Int)=true):Í (Ε π p) (n:Int)=true:=by
 obtain⟨e,f⟩:=(ve d).1 g
 refine (ve d).2 ⟨λt a i hi=>?_,λt a=>?_⟩
 .obtain⟨y,c,rfl⟩:=ă.1 ((ZR h.perm hp.ord).1.mem_iff.1 a)
  show ¬ 0<iH π y.m i
  rw[uH h.perm y.m i i (h.fix i hi).symm]
  exact e y c i hi
 obtain⟨y,c,rfl⟩:=ă.1 ((ZR h.perm hp.ord).1.mem_iff.1 a)
 show gV (iH π y.m)<=12
 rw[D1 h.perm]
 exact f y c
theorem Zsr{π:M}(h:Ê π){p:im}(hp:ν p):(Ε π p).length=p.length:=by
 rw[(ZR h hp.ord).1.length_eq,Č]
theorem JO{π:M}(h:Ê π){p:im}(hp:ν p)(a:p≠[]):Ε π p≠[]:=λe=>by
 have:=Zsr h hp
 rw[e] at this
 exact a (aay.1 this.symm)
theorem Zuw{p q:im}(hp:ν p)(f:ν q)(h:∀ d,-1<=d->((∀ t ∈ p,gV t.m<=d)↔∀ t ∈ q,gV t.m<=d)):jZ p=jZ q:=by
 have low:∀ r:im,-1<=jZ r:=λr=>by
  have key:∀ k,-1<=iM r k:=by
   intro k
   induction k with
   | zero=>exact ň _
   | succ k a=>
    unfold iM
    split
    .split <;> omega
    exact a
  exact key _
 have c:=(x0 (low q)).2 ((h _ (low q)).2 ((x0 (low q)).1 (ň _)))
 have e:=(x0 (low p)).2 ((h _ (low p)).1 ((x0 (low p)).1 (ň _)))
 omega
theorem IS{π:M}(h:Ê π){p:im}(hp:ν p):jZ (Ε π p)=jZ p:=by
 refine Zuw (ZM h hp) hp (λd _=>⟨λa t c=>?_,λa t c=>?_⟩)
 .have:=a (kW π t) ((ZR h hp.ord).1.mem_iff.2 (ă.2 ⟨t,c,rfl⟩))
  have e:gV (kW π t).m=gV t.m:=D1 h t.m
  omega
 obtain⟨y,f,rfl⟩:=ă.1 ((ZR h hp.ord).1.mem_iff.1 c)
 have:=a y f
 have e:gV (kW π y).m=gV y.m:=D1 h y.m
 omega
theorem ZuU{n:Nat}(h:n<=4):Í mX (n:Int)=true:=(ve (by omega)).2 ⟨λt a i _=>by rw[mX,ī] at a; subst a; exact Int.lt_irrefl 0,λt a=>by rw[mX,ī] at a; subst a; decide⟩
theorem ZuT:jZ mX=0:=by decide
theorem zD{l:Ŀ im}{plain:Bool}{q:im}(h:q ∈ kept l plain):∃ p ∈ l,q=á p/\p≠[]/\(plain=true->jZ p≠0):=by
 obtain⟨c,a⟩:=Ė.1 h
 obtain⟨p,hp,rfl⟩:=ă.1 c
 unfold mo at a
 simp only[Ē,Ō,aaK] at a
 refine⟨p,hp,rfl,λe=>?_,λe=>?_⟩
 .rw[e] at a; cases a.1
 rcases a.2 with a|a
 .rw[e] at a; cases a
 rw[xY] at a; exact aa4 a
theorem Kd{l:Ŀ im}{plain:Bool}{p:im}(hp:p ∈ l)(c:p≠[])(d:plain=true->jZ p≠0):á p ∈ kept l plain:=by
 refine Ė.2 ⟨ă.2 ⟨p,hp,rfl⟩,?_⟩
 have a:(á p).isEmpty=false:=by simpa using λe=>c (Bz.1 e)
 unfold mo
 rw[a,xY]
 cases plain with
 | false=>rfl
 | true=>rw[ċ (d rfl)]; rfl
theorem Ru{n:Nat}(e:n<=4){least:Int}{l:Ŀ im}(a:(Ð l).length<=12)(h:∀ p ∈ l,ν p/\Í p (n:Int)=true/\p≠[]/\á p=p/\least<=jZ p):ma (n:Int) least (Ð l):=by
 obtain⟨c,d⟩:=wg (l:=l) (λp hp=>(h p hp).1.ku)
 exact⟨a,λp hp=>h p ((d p).1 hp),c⟩
theorem J4{n:Nat}(f:1<=n/\n<=4){eqs ζ:Ŀ im}(g:∀ p ∈ eqs,ν p/\Í p (n:Int)=true)(hi:∀ p ∈ ζ,ν p/\Í p (n:Int)=true)(j:(Ð (iV eqs ζ)).length<=12)(l:(Ð (kept ζ true)).length<=12):
  gT ⟨(n:Int),Ð (iV eqs ζ),Ð (kept ζ true)⟩ where
 n:=by show 1<=(n:Int)/\(n:Int)<=4; omega
 eqs:=Ru f.2 j λp hp=>by
  rcases ĉ.1 hp with h|h
  .obtain⟨q,d,rfl,c,_⟩:=zD h
   have a:=(g q d).1
   exact⟨ti a,by rw[P6]; exact (g q d).2,λe=>c (Bz.1 e),Es a,by rw[xY]; exact Ib a c⟩
  rw[Bx p h]
  exact⟨Ft,ZuU f.2,by decide,EN,by rw[ZuT]; decide⟩
 ζ:=Ru f.2 l λp hp=>by
  obtain⟨q,d,rfl,c,i⟩:=zD hp
  have a:=(hi q d).1
  have:=Ib a c
  have:=i rfl
  exact⟨ti a,by rw[P6]; exact (hi q d).2,λe=>c (Bz.1 e),Es a,by rw[xY]; omega⟩
def Ú(k:Zm)(π:M):Zm:=(Ô k.n (k.eqs.map (Ε π)) (k.ζ.map (Ε π))).1
theorem IP{l:Ŀ im}(h:∀ p ∈ l,p≠[]):km l=[]:=by
 unfold km
 rw[aaB.2 λp hp=>by simpa using h p hp]
 rfl
structure AK (k:Zm) (π:M):Prop where
 norm:Ô k.n (k.eqs.map (Ε π)) (k.ζ.map (Ε π))=(Ú k π,0)
 eq:Ú k π=⟨k.n,Ð (iV (k.eqs.map (Ε π)) (k.ζ.map (Ε π))),Ð (kept (k.ζ.map (Ε π)) true)⟩
 core:gT (Ú k π)
theorem Fq{l:Ŀ im}{n:Nat}{least:Int}(i:n<=4)(h:ma (n:Int) least l){π:M}(a:jS n π):∀ p ∈ l.map (Ε π),ν p/\Í p (n:Int)=true/\p≠[]/\least<=jZ p:=λp hp=>by
 obtain⟨q,d,rfl⟩:=ă.1 hp
 obtain⟨c,e,f,j,g⟩:=h.iF q d
 exact⟨ZM a.perm c,D4 (by omega) a c e,JO a.perm c f,by rw[IS a.perm c]; exact g⟩
theorem qI{k:Zm}(h:gT k){π:M}(a:jS k.n.toNat π):AK k π:=by
 obtain⟨n,eqs,ζ⟩:=k
 obtain⟨m,rfl,t,f⟩:=Fs h.n
 dsimp only at a ⊢
 rw[ģ] at a
 have e:=Fq f h.eqs a
 have hi:=Fq f h.ζ a
 have r:(Ð (iV (eqs.map (Ε π)) (ζ.map (Ε π)))).length<=12:=by
  have g:=J2 (iV (eqs.map (Ε π)) (ζ.map (Ε π)))
  have i:=xX (eqs.map (Ε π)) false
  have j:=h.eqs.len
  unfold iV at g
  rw[IP (λp hp=>(hi p hp).2.2.1),ğ] at g
  unfold iV
  rw[IP (λp hp=>(hi p hp).2.2.1),ğ]
  rw[Č] at i
  dsimp only at j
  omega
 have s:(Ð (kept (ζ.map (Ε π)) true)).length<=12:=by
  have g:=J2 (kept (ζ.map (Ε π)) true)
  have i:=xX (ζ.map (Ε π)) true
  have j:=h.ζ.len
  rw[Č] at i
  dsimp only at j
  omega
 have q:=J4 ⟨t,f⟩ (λp hp=>⟨(e p hp).1,(e p hp).2.1⟩) (λp hp=>⟨(hi p hp).1,(hi p hp).2.1⟩) r s
 have c:(eqs.map (Ε π)++ζ.map (Ε π)).all (λp=>Í p (m:Int))=true:=Ĕ.2 λp hp=>(ĉ.1 hp).elim (λh=>(e p h).2.1) (λh=>(hi p h).2.1)
 have l:Ô (m:Int) (eqs.map (Ε π)) (ζ.map (Ε π))=(⟨(m:Int),Ð (iV (eqs.map (Ε π)) (ζ.map (Ε π))),Ð (kept (ζ.map (Ε π)) true)⟩,0):=by
  unfold Ô
  rw[Ă ⟨by omega,by omega⟩,Ă c,Ā (by omega),Ā (by omega)]
 have d:Ú ⟨(m:Int),eqs,ζ⟩ π=⟨(m:Int),Ð (iV (eqs.map (Ε π)) (ζ.map (Ε π))),Ð (kept (ζ.map (Ε π)) true)⟩:=by
  unfold Ú
  dsimp only
  rw[l]
 exact⟨by rw[l,d],d,by rw[d]; exact q⟩
theorem Nr{l:Ŀ im}(i:l.length<=100)(h:∀ p ∈ l,ν p){π:M}(g:Ê π):(Dw l π).ο (l.map (Ε π)):=by
 refine⟨⟨by omega,by omega⟩,?_⟩
 refine Cq.Zp l.length (λk s=>s=((l.take k).map (Ε π)++List.replicate (l.length-k) [],(k:Int))) (λk s c f=>?_) (λs f=>?_) (by show _=_; simp)
 .subst f
  have a:((l.take k).map (Ε π)++List.replicate (l.length-k) ([]:im)).length=l.length:=by simp; omega
  refine Cq.wp.yes (by omega) ⟨_,â c,_,Xj g (h _ (Ċ c)),_,â (by rw[a]; exact c),?_⟩
  show _=_
  rw[Β (by omega),ģ,ĩ c,ķ,List.map_singleton]
  congr 1
  rw[List.set_append,Ā (by rw[Č,Đ]; omega)]
  have e:l.length-k=(l.length-(k+1))+1:=by omega
  have d:k-((l.take k).map (Ε π)).length=0:=by simp; omega
  rw[d,e,gL,aa9,ď]
  rfl
 subst f
 refine Cq.wp.no (by omega) ?_
 show _=_
 rw[ľ (č _)]
 simp
def kR(k:Zm):Ŀ M->Zm×M->Zm×M
 | [],s=>s
 | π::l,s=>kR k l (if Op.bytesLess (jr (Ú k π)).toList (jr s.1).toList=true then (Ú k π,π) else s)
def jn(k:Zm):Zm×M:=kR k (Λ k.n.toNat).tail (Ú k (λi=>(i.val:Int)),λi=>(i.val:Int))
theorem Q9{k:Zm}(h:gT k):∀ {l:Ŀ M}{s:Zm×M},(∀ π ∈ l,jS k.n.toNat π)->gT s.1->gT (kR k l s).1
 | [],_,_,a=>a
 | π::l,s,c,a=>by
  unfold kR
  refine Q9 h (λx d=>c x (by simp[d])) ?_
  split
  .exact (qI h (c π (by simp))).core
  exact a
theorem XA(l:Ŀ Int):(bytesOf l).size=l.length:=by
 have key:∀ (l:Ŀ Int) (b:Ĳ),(l.foldl (λr n=>r.push (UInt8.ofNat n.toNat)) b).size=b.size+l.length:=by
  intro l
  induction l with
  | nil=>intro b; rfl
  | cons x l a=>intro b; rw[List.foldl_cons,a,ByteArray.size_push,Ġ]; omega
 have:=key l ByteArray.empty
 unfold bytesOf
 rw[this]
 simp
theorem Zvq(k:Zm):jr k≠ByteArray.empty:=λe=>by
 have c:=XA (ml k)
 have a:(jr k).size=0:=by rw[e]; rfl
 unfold jr at a
 rw[c] at a
 have:1<=(qd k.n).length:=by
  unfold qd lD nH
  split <;> simp
 unfold ml at a
 simp only[ā] at a
 omega
theorem Oh{k:Zm}(h:gT k){π:M}(a:jS k.n.toNat π){s:Zm×M×Ĳ}:
  (tD k π s).ο (if s.2.2=ByteArray.empty then (Ú k π,π,jr (Ú k π)) else if Op.bytesLess (jr (Ú k π)).toList s.2.2.toList=true then (Ú k π,π,jr (Ú k π)) else s):=by
 have f:=h.eqs.len
 have g:=h.ζ.len
 have hp:=qI h a
 refine⟨_,Nr (by omega) (λp hp=>(h.eqs.iF p hp).1) a.perm,_,Nr (by omega) (λp hp=>(h.ζ.iF p hp).1) a.perm,(Ú k π,0),?_,Cq.wp.no (λh=>h rfl) ⟨_,Zui hp.core,?_⟩⟩
 .rw[<- hp.norm]
  refine Ob (by rw[Č]; omega) (by rw[Č]; omega) (λp hp=>?_) (λp hp=>?_)
  .obtain⟨q,e,rfl⟩:=ă.1 hp
   exact ZM a.perm (h.eqs.iF q e).1
  obtain⟨q,e,rfl⟩:=ă.1 hp
  exact ZM a.perm (h.ζ.iF q e).1
 by_cases c:s.2.2=ByteArray.empty
 .rw[Ă c]; exact Cq.wp.yes c rfl
 rw[Ā c]
 refine Cq.wp.no c ?_
 by_cases d:Op.bytesLess (jr (Ú k π)).toList s.2.2.toList=true
 .refine Cq.wp.yes d ?_
  show _=_
  rw[Ă d]
 refine Cq.wp.no d ?_
 show _=_
 rw[Ā d]
theorem Is{k:Zm}(h:gT k):∀ {l:Ŀ M}{c:Zm}{f:M},(∀ π ∈ l,jS k.n.toNat π)->(pN k l (c,f,jr c)).ο ((kR k l (c,f)).1,(kR k l (c,f)).2,jr (kR k l (c,f)).1)
 | [],_,_,_=>rfl
 | π::l,c,f,a=>by
  refine⟨_,Oh h (a π (by simp)),?_⟩
  dsimp only
  rw[Ā (Zvq c)]
  unfold kR
  split
  .exact Is h (λx d=>a x (by simp[d]))
  exact Is h (λx d=>a x (by simp[d]))
theorem qf{k:Zm}(h:gT k):∀ π ∈ Λ k.n.toNat,jS k.n.toNat π:=λ_ hp=>ZN (by have:=h.n; omega) hp
theorem Pa{k:Zm}(h:gT k):(DH k).ο (jn k):=by
 refine⟨h.n,((jn k).1,(jn k).2,jr (jn k).1),?_,rfl⟩
 have hp:=qf h
 rw[A6] at hp ⊢
 refine⟨_,Oh h (hp _ (by simp)),?_⟩
 rw[Ă rfl]
 exact Is h (λx a=>hp x (by simp[a]))
end Go.EL

namespace Go.EL
open Go.IntKind (i8 i16 i32 i64 u8 u16 u32 u64)
open Go Go.RowKit
instance zV (l:Ŀ im):Decidable (jY l):=inferInstanceAs (Decidable (l.Pairwise λa b=>û a b<0))
instance Cd:DecidableEq Zm:=λ⟨a1,a2,a3⟩ ⟨a,c,d⟩=>decidable_of_iff (a1=a/\a2=c/\a3=d) (by simp)
end Go.EL

namespace Go.EL
open Go.IntKind (i8 i16 i32 i64 u8 u16 u32 u64)
open Go Go.RowKit
end Go.EL

namespace Go.EL
open Go.IntKind (i8 i16 i32 i64 u8 u16 u32 u64)
open Go Go.RowKit
end Go.EL

namespace Go.EL
open Go.IntKind (i8 i16 i32 i64 u8 u16 u32 u64)
open Go Go.RowKit
end Go.EL

namespace Go.EL
open Go.IntKind (i8 i16 i32 i64 u8 u16 u32 u64)
open Go Go.RowKit
end Go.EL

namespace Go.EL
open Go.IntKind (i8 i16 i32 i64 u8 u16 u32 u64)
open Go Go.RowKit
structure td (k:Zm):Prop where
 n:0<=k.n/\k.n<=1000
 eqs:∀ p ∈ k.eqs,ν p
 ζ:∀ p ∈ k.ζ,ν p
 len:k.eqs.length<=12/\k.ζ.length<=12
theorem gT.Db{k:Zm}(h:gT k):td k:=⟨by have:=h.n; omega,λp hp=>(h.eqs.iF p hp).1,λp hp=>(h.ζ.iF p hp).1,h.eqs.len,h.ζ.len⟩
theorem td.core{k:Zm}(h:td k):(BF [] k).ο (ml k):=X8 h.n h.eqs h.ζ h.len.1 h.len.2
theorem ZtS{k m:Zm}(a:td k)(c:td m)(e:jr k=jr m):(HM k m).ο true:=⟨_,a.core,_,c.core,ē e⟩
theorem PL{l:Ŀ Zc}(g:l.length<=1000):(Dl l).ο (l.map (·.p)):=by
 refine⟨⟨by omega,by omega⟩,?_⟩
 refine Cq.Zp l.length (λk s=>s=((l.take k).map (·.p)++List.replicate (l.length-k) [],(k:Int))) (λk s c f=>?_) (λs f=>?_) (by show _=_; simp)
 .subst f
  have a:((l.take k).map (·.p)++List.replicate (l.length-k) ([]:im)).length=l.length:=by simp; omega
  refine Cq.wp.yes (by omega) ⟨_,â c,_,â (by rw[a]; exact c),?_⟩
  show _=_
  rw[Β (by omega),ģ,ĩ c,ķ,List.map_singleton]
  congr 1
  rw[List.set_append,Ā (by rw[Č,Đ]; omega)]
  have e:l.length-k=(l.length-(k+1))+1:=by omega
  have d:k-((l.take k).map (·.p)).length=0:=by simp; omega
  rw[d,e,gL,aa9,ď]
  rfl
 subst f
 refine Cq.wp.no (by omega) ?_
 show _=_
 rw[ľ (č _)]
 simp
def vS(s:Zb):Int:=if 1<(s.vars.length:Int) then (s.vars.length:Int) else 1
def ki(s:Zb):Zm×Int:=Ô (vS s) (s.eqs.map (·.p)) (s.ζ.map (·.p))
theorem Good.ue{s:Zb}(h:Good s):(∀ p ∈ s.eqs.map (·.p),ν p)/\∀ p ∈ s.ζ.map (·.p),ν p:=
 ⟨λp hp=>by obtain⟨q,a,rfl⟩:=ă.1 hp; exact (h.eqs.iF q a).1,λp hp=>by obtain⟨q,a,rfl⟩:=ă.1 hp; exact (h.ζ.iF q a).1⟩
theorem Py{s:Zb}(h:Good s):(DX s).ο (ki s):=by
 have a:=h.eqs.len
 have c:=h.ζ.len
 obtain⟨p1,p2⟩:=h.ue
 exact⟨true,A4 h,Cq.wp.no (by decide) ⟨_,PL (by omega),_,PL (by omega),_,Ob (by rw[Č]; omega) (by rw[Č]; omega) p1 p2,rfl⟩⟩
theorem ZuX{n:Nat}(h:1<=n/\n<=4):jS n λi=>(i.val:Int):=ZN h (by rw[A6]; exact aau)
theorem Oi{k:Zm}(h:gT k):gT (jn k).1:=by
 have hp:=qf h
 have c:1<=k.n.toNat/\k.n.toNat<=4:=by have:=h.n; omega
 unfold jn
 rw[A6] at hp
 exact Q9 h (λx a=>hp x (by simp[a])) (qI h (hp _ (by simp))).core
end Go.EL

namespace Go.EL
open Go.IntKind (i8 i16 i32 i64 u8 u16 u32 u64)
open Go Go.RowKit
theorem If:∀ {a b c:Ŀ UInt8},Op.bytesLess a b=true->Op.bytesLess b c=true->Op.bytesLess a c=true
 | [],_::_,_::_,_,_=>rfl
 | [],[],_,h,_=>by cases h
 | _::_,[],_,h,_=>by cases h
 | [],_::_,[],_,h=>by cases h
 | _::_,_::_,[],_,h=>by cases h
 | x::a,y::b,z::c,e,d=>by
  simp only[Op.bytesLess,ń,Ē,Ģ,abc] at e d ⊢
  rcases e with e|⟨rfl,e⟩
  .rcases d with d|⟨rfl,d⟩
   .exact .inl (UInt8.lt_trans e d)
   exact .inl e
  rcases d with d|⟨rfl,d⟩
  .exact .inl d
  exact .inr ⟨rfl,If e d⟩
theorem Ie:∀ {a b:Ŀ UInt8},¬ Op.bytesLess a b=true->¬ Op.bytesLess b a=true->a=b
 | [],[],_,_=>rfl
 | [],_::_,h,_=>absurd rfl h
 | _::_,[],_,h=>absurd rfl h
 | x::a,y::b,c,d=>by
  simp only[Op.bytesLess,ń,Ē,Ģ,abc,not_or,not_and] at c d
  have e:x=y:=UInt8.le_antisymm (UInt8.not_lt.1 d.1) (UInt8.not_lt.1 c.1)
  subst e
  rw[Ie (c.2 rfl) (d.2 rfl)]
theorem NG:∀ a:Ŀ UInt8,¬ Op.bytesLess a a=true
 | [],h=>by cases h
 | x::a,h=>by
  simp only[Op.bytesLess,ń,Ē,Ģ,abc] at h
  rcases h with h|⟨_,h⟩
  .exact UInt8.lt_irrefl x h
  exact NG a h
def kh(σ τ:M):M:=λi=>Κ σ (τ i)
def rK(l:Ŀ M)(τ:M):Bool:=l.all (λσ=>l.any λρ=>decide (kh σ τ=ρ)) && l.all λρ=>l.any λσ=>decide (kh σ τ=ρ)
def nV(n:Nat):Bool:=(Λ n).all (rK (Λ n))
theorem XC(n:Nat):nV n=(Λ n).all (rK (Λ n)):=rfl
def rW(π:M):Bool:=decide (∀ j:Fin 8,∃ i:Fin 8,π i=(j.val:Int))
theorem Yi:(nV 1 && nV 2 && nV 3 && nV 4)=true:=by decide +kernel
theorem Zt1:((Λ 1).all rW && (Λ 2).all rW && (Λ 3).all rW && (Λ 4).all rW)=true:=by decide +kernel
theorem oL{n:Nat}(h:1<=n/\n<=4){τ:M}(g:τ ∈ Λ n):(∀ σ ∈ Λ n,kh σ τ ∈ Λ n)/\∀ ρ ∈ Λ n,∃ σ ∈ Λ n,kh σ τ=ρ:=by
 have key:nV n=true:=by
  have:=Yi
  simp only[Ē] at this
  obtain⟨⟨⟨a,c⟩,i⟩,j⟩:=this
  have m:n=1\/n=2\/n=3\/n=4:=by omega
  rcases m with rfl|rfl|rfl|rfl
  .exact a
  .exact c
  .exact i
  exact j
 rw[XC] at key
 generalize Λ n=l at *
 have d:rK l τ=true:=Ĕ.1 key τ g
 unfold rK at d
 rw[Ē,Ĕ,Ĕ] at d
 refine⟨λσ f=>?_,λρ e=>?_⟩
 .obtain⟨ρ,a,c⟩:=ŕ.1 (d.1 σ f)
  rw[Ĝ c]
  exact a
 obtain⟨σ,a,c⟩:=ŕ.1 (d.2 ρ e)
 exact⟨σ,a,Ĝ c⟩
theorem yN{n:Nat}(h:1<=n/\n<=4){π:M}(a:π ∈ Λ n)(j:Fin 8):∃ i:Fin 8,π i=(j.val:Int):=by
 have:=Zt1
 simp only[Ē,Ĕ] at this
 obtain⟨⟨⟨c,d⟩,e⟩,f⟩:=this
 have g:n=1\/n=2\/n=3\/n=4:=by omega
 rcases g with rfl|rfl|rfl|rfl
 .exact Ĝ (c π a) j
 .exact Ĝ (d π a) j
 .exact Ĝ (e π a) j
 exact Ĝ (f π a) j
theorem Zuu{n:Nat}(h:1<=n/\n<=4){σ τ:M}(c:τ ∈ Λ n)(i j:Fin 8)(a:(j.val:Int)=τ i):kh σ τ i=σ j:=by
 unfold kh
 rw[<- a]
 exact hU j.isLt
theorem YH{n:Nat}(h:1<=n/\n<=4){σ τ:M}(c:σ ∈ Λ n)(a:τ ∈ Λ n)(m:M):iH σ (iH τ m)=iH (kh σ τ) m:=by
 have e:=(ZN h c).perm
 have f:=(ZN h a).perm
 have g:=(ZN h ((oL h a).1 σ c)).perm
 funext j
 obtain⟨i,hi⟩:=yN h c j
 obtain⟨l,d⟩:=yN h a i
 rw[uH e _ i j hi.symm,uH f _ l i d.symm,uH g _ l j (by rw[Zuu h a l i d.symm]; exact hi.symm)]
def kg(F:Zj->Zj)(p:im):im:=p.map λt=>⟨F t.c,t.m⟩
theorem Po{F:Zj->Zj}{p:im}(h:ko p):ko (kg F p):=by
 unfold kg ko
 rw[Ľ]
 exact h
theorem Ei{π:M}(h:Ê π){p q:im}(hp:ko p)(d:ko q)(e:q.Perm (p.map (kW π))):Ε π p=q:=by
 obtain⟨a,c⟩:=ZR h hp
 exact H8 d (a.trans e.symm) (Ix c)
theorem Eh{n:Nat}(h:1<=n/\n<=4){σ τ:M}(a:σ ∈ Λ n)(c:τ ∈ Λ n){p:im}(hp:ν p):Ε σ (Ε τ p)=Ε (kh σ τ) p:=by
 have f:=(ZN h a).perm
 have d:=(ZN h c).perm
 have g:=(ZN h ((oL h c).1 σ a)).perm
 have i:=ZM d hp
 obtain⟨a1,a2⟩:=ZR f i.ord
 obtain⟨e,j⟩:=ZR d hp.ord
 refine (Ei g hp.ord a2 ?_).symm
 refine a1.trans ((e.map _).trans (aaV ?_))
 rw[Ţ]
 refine Ş λt _=>?_
 show (⟨t.c,iH σ (iH τ t.m)⟩:Za)=⟨t.c,_⟩
 rw[YH h a c]
theorem YI{π:M}(h:Ê π)(F:Zj->Zj){p:im}(hp:ν p):Ε π (kg F p)=kg F (Ε π p):=by
 obtain⟨a,c⟩:=ZR h hp.ord
 refine Ei h (Po hp.ord) (Po c) ?_
 unfold kg
 rw[Ţ]
 refine (a.map _).trans (aaV ?_)
 rw[Ţ]
 rfl
theorem Zu0{s:Int}(d:s=1\/s = -1){u:Int}{g k:Nat}(f:1<=g)(h:1<=k){n:Int}(e:n % ((k*g:Nat):Int)=0):s*u*((s*(n / (g:Int))) / (k:Int))=u*(n / ((k*g:Nat):Int)):=by
 obtain⟨q,rfl⟩:∃ q,n=((k*g:Nat):Int)*q:=⟨n / ((k*g:Nat):Int),by have:=fm n ((k*g:Nat):Int); omega⟩
 have c:((k*g:Nat):Int)*q=(g:Int)*((k:Int)*q):=by rw[abz,abw (k:Int),Int.mul_assoc]
 have a:((k*g:Nat):Int)≠0:=by
  have:=Nat.mul_pos (show 0<k by omega) (show 0<g by omega)
  omega
 rw[gw _ a,c,gw _ (by omega)]
 rcases d with rfl|rfl
 .rw[aaz,aaz,gw _ (by omega)]
 rw[show (-1:Int)*((k:Int)*q)=(k:Int)*(-q) by rw[Int.mul_neg,Int.neg_mul,aaz],gw _ (by omega),Int.neg_mul,aaz,Int.neg_mul,Int.mul_neg,Int.neg_neg]
theorem ZtT{s:Int}(m:s=1\/s = -1){g:Nat}(l:1<=g){p:im}(hp:ν p)(d:p≠[])(j:∀ t ∈ p,Þ t.c % (g:Int)=0):mz (kg (ja s g) p)=s*mz p:=by
 match p,d with
 | t::p,_=>
  obtain⟨e,n,_⟩:=hp.num (t:=t) (by simp)
  have c:=j t (by simp)
  show (if Þ (ja s g t.c)<0 then (-1:Int) else 1)=s*(if Þ t.c<0 then -1 else 1)
  rw[JK]
  have q:=Kh l c n
  have i:=fm (Þ t.c) g
  rw[c,aaH] at i
  generalize Þ t.c / (g:Int)=z at *
  generalize Þ t.c=N at *
  have sg:z<0↔N<0:=by
   constructor
   .intro f
    have:=abh (show (0:Int)<(g:Int) by omega) f
    omega
   intro a
   by_cases f:0<z
   .have:=Int.mul_pos (show (0:Int)<(g:Int) by omega) f
    omega
   omega
  rcases m with rfl|rfl
  .rw[aaz,aaz]
   by_cases a:N<0
   .rw[Ă a,Ă (sg.2 a)]
   rw[Ā a,Ā (λh=>a (sg.1 h))]
  by_cases a:N<0
  .have:=sg.2 a
   rw[Ă a,Ā (by omega)]; rfl
  have:¬ z<0:=λh=>a (sg.1 h)
  rw[Ā a,Ă (by omega)]; rfl
theorem Zsv{s:Int}(h:s=1\/s = -1){g:Nat}(f:1<=g){p:im}(hp:ν p)(i:∀ t ∈ p,Þ t.c % (g:Int)=0):á (kg (ja s g) p)=á p:=by
 by_cases c:p=[]
 .subst c; rfl
 have j:=I4 h f i
 have a:È (kg (ja s g) p)*g=È p:=j
 have l:1<=È (kg (ja s g) p):=by
  have:=(zq hp c).1
  rcases Nat.eq_zero_or_pos (È (kg (ja s g) p)) with e|e
  .rw[e,fT] at a; omega
  exact e
 show (kg (ja s g) p).map (λt=>(⟨ja (mz (kg (ja s g) p)) (È (kg (ja s g) p)) t.c,t.m⟩:Za))=p.map _
 rw[ZtT h f hp c i]
 generalize È (kg (ja s g) p)=k at *
 unfold kg
 rw[Ţ]
 refine Ş λt m=>?_
 have d:=zM m
 rw[<- a] at d
 show (⟨ja (s*mz p) k (ja s g t.c),t.m⟩:Za)=⟨ja (mz p) (È p) t.c,t.m⟩
 have:ja (s*mz p) k (ja s g t.c)=ja (mz p) (È p) t.c:=by
  unfold ja
  rw[u6,Zu0 h f l d,a]
 rw[this]
theorem Bp{π:M}(h:Ê π){p:im}(hp:ν p):á (Ε π (á p))=á (Ε π p):=by
 by_cases a:p=[]
 .subst a; rfl
 have e:á p=kg (ja (mz p) (È p)) p:=rfl
 rw[e,YI h _ hp]
 refine Zsv (Kg p) (zq hp a).1 (ZM h hp) (λt c=>?_)
 obtain⟨y,d,rfl⟩:=ă.1 ((ZR h hp.ord).1.mem_iff.1 c)
 have:=zM d
 exact this
def mY(π:M)(l:Ŀ im):Ŀ im:=l.map λp=>á (Ε π p)
theorem Qg{n:Nat}{least:Int}{l:Ŀ im}(f:n<=4)(h:ma (n:Int) least l){π:M}(d:jS n π){plain:Bool}(hp:plain=true->1<=least):kept (l.map (Ε π)) plain=mY π l:=by
 have e:=Fq f h d
 unfold kept mY
 rw[Ţ]
 refine aaZ.2 λq g=>?_
 obtain⟨p,c,rfl⟩:=ă.1 g
 obtain⟨j,m,i,r⟩:=e (Ε π p) (ă.2 ⟨p,c,rfl⟩)
 have:=Kd (l:=[Ε π p]) (plain:=plain) (p:=Ε π p) (by simp) i (λa=>by have:=hp a; omega)
 exact (Ė.1 this).2
theorem By{k:Zm}(h:gT k){π:M}(a:π ∈ Λ k.n.toNat):Ú k π=⟨k.n,Ð (mY π k.eqs),Ð (mY π k.ζ)⟩:=by
 obtain⟨n,eqs,ζ⟩:=k
 obtain⟨m,rfl,e,c⟩:=Fs h.n
 have d:jS m π:=ZN ⟨e,c⟩ a
 rw[(qI h (qf h π a)).eq]
 have hi:=Fq c h.ζ d
 dsimp only at hi ⊢
 unfold iV
 rw[IP (λp hp=>(hi p hp).2.2.1),ğ,Qg c h.eqs d (λh=>by cases h),Qg c h.ζ d (λ_=>ň 1)]
theorem RH{n:Nat}{least:Int}{l:Ŀ im}(h:ma (n:Int) least l){π:M}(a:Ê π):∀ q ∈ mY π l,ν q:=λq c=>by
 obtain⟨p,hp,rfl⟩:=ă.1 c
 exact ti (ZM a (h.iF p hp).1)
theorem QX{n:Nat}(f:1<=n/\n<=4){least:Int}{l:Ŀ im}(h:ma (n:Int) least l){σ τ:M}(c:σ ∈ Λ n)(d:τ ∈ Λ n):Ð (mY σ (Ð (mY τ l)))=Ð (mY (kh σ τ) l):=by
 have g:=(ZN f c).perm
 have i:=(ZN f d).perm
 have u:=(ZN f ((oL f d).1 σ c)).perm
 have m:=RH h i
 obtain⟨a1,a2⟩:=wg (λp hp=>(m p hp).ku)
 have t:∀ q ∈ mY σ (Ð (mY τ l)),ν q:=λq e=>by
  obtain⟨p,hp,rfl⟩:=ă.1 e
  exact ti (ZM g (m p ((a2 p).1 hp)))
 obtain⟨r,s⟩:=wg (λp hp=>(t p hp).ku)
 refine Fk (λp hp=>(RH h u p hp).ku) r λz=>?_
 rw[s z]
 constructor
 .intro j
  obtain⟨p,hp,rfl⟩:=ă.1 j
  obtain⟨q,e,rfl⟩:=ă.1 ((a2 p).1 hp)
  have a:=(h.iF q e).1
  refine ă.2 ⟨q,e,?_⟩
  show á (Ε (kh σ τ) q)=á (Ε σ (á (Ε τ q)))
  rw[Bp g (ZM i a),Eh f c d a]
 intro j
 obtain⟨q,e,rfl⟩:=ă.1 j
 have a:=(h.iF q e).1
 refine ă.2 ⟨á (Ε τ q),(a2 _).2 (ă.2 ⟨q,e,rfl⟩),?_⟩
 show á (Ε σ (á (Ε τ q)))=á (Ε (kh σ τ) q)
 rw[Bp g (ZM i a),Eh f c d a]
theorem OC{k:Zm}(h:gT k){σ τ:M}(c:σ ∈ Λ k.n.toNat)(a:τ ∈ Λ k.n.toNat):Ú (Ú k τ) σ=Ú k (kh σ τ):=by
 have n:=(qI h (qf h τ a)).core
 obtain⟨m,p,e,f⟩:=Fs h.n
 have d:k.n.toNat=m:=by omega
 have i:=h.eqs
 have hi:=h.ζ
 rw[p] at i hi
 rw[d] at c a
 have g:=By h (π:=τ) (by rw[d]; exact a)
 have j:=By h (π:=kh σ τ) (by rw[d]; exact (oL ⟨e,f⟩ a).1 σ c)
 have l:=By n (π:=σ) (by rw[g]; show σ ∈ Λ k.n.toNat; rw[d]; exact c)
 rw[l,j,g]
 show (⟨k.n,Ð (mY σ (Ð (mY τ k.eqs))),Ð (mY σ (Ð (mY τ k.ζ)))⟩:Zm)=_
 rw[QX ⟨e,f⟩ i c a,QX ⟨e,f⟩ hi c a]
theorem Jc(k:Zm):∀ (l:Ŀ M) (s:Zm×M),(∃ ρ,s=(Ú k ρ,ρ))->
  (∃ ρ,kR k l s=(Ú k ρ,ρ)/\(ρ ∈ l\/kR k l s=s))/\(¬ Op.bytesLess (jr s.1).toList (jr (kR k l s).1).toList=true)/\∀ π ∈ l,¬ Op.bytesLess (jr (Ú k π)).toList (jr (kR k l s).1).toList=true
 | [],s,⟨ρ,j⟩=>⟨⟨ρ,j,.inr rfl⟩,NG _,λπ m=>by cases m⟩
 | π::l,s,⟨ρ,j⟩=>by
  unfold kR
  by_cases f:Op.bytesLess (jr (Ú k π)).toList (jr s.1).toList=true
  .rw[Ă f]
   obtain⟨⟨r,g,a⟩,d,i⟩:=Jc k l (Ú k π,π) ⟨π,rfl⟩
   refine⟨⟨r,g,?_⟩,λh=>?_,λx c=>?_⟩
   .rcases a with a|a
    .exact .inl (by simp[a])
    rw[g] at a
    have e:=(Prod.mk.inj a).2
    exact .inl (by simp[e])
   .exact d (If f h)
   rcases ą.1 c with rfl|c
   .exact d
   exact i x c
  rw[Ā f]
  obtain⟨⟨r,g,a⟩,d,i⟩:=Jc k l s ⟨ρ,j⟩
  refine⟨⟨r,g,?_⟩,d,λx c=>?_⟩
  .rcases a with a|a
   .exact .inl (by simp[a])
   exact .inr a
  rcases ą.1 c with rfl|c
  .intro h
   by_cases e:Op.bytesLess (jr (kR k l s).1).toList (jr s.1).toList=true
   .exact f (If h e)
   have:=Ie d e
   rw[<- this] at h
   exact f h
  exact i x c
theorem Oj(k:Zm):(∃ ρ ∈ Λ k.n.toNat,jn k=(Ú k ρ,ρ))/\∀ π ∈ Λ k.n.toNat,¬ Op.bytesLess (jr (Ú k π)).toList (jr (jn k).1).toList=true:=by
 obtain⟨⟨ρ,d,c⟩,e,f⟩:=Jc k (Λ k.n.toNat).tail (Ú k (λi=>(i.val:Int)),λi=>(i.val:Int)) ⟨_,rfl⟩
 rw[A6]
 refine⟨⟨ρ,?_,d⟩,λπ a=>?_⟩
 .rcases c with c|c
  .simp[c]
  rw[d] at c
  have:=(Prod.mk.inj c).2
  simp[this]
 rcases ą.1 a with rfl|a
 .exact e
 exact f π a
theorem Zur{a b:Ĳ}(h:a.toList=b.toList):a=b:=by
 rw[Lib.toList_data,Lib.toList_data] at h
 exact ByteArray.ext (Array.toList_inj.1 h)
theorem Yf{k:Zm}(c:gT k){τ:M}(a:τ ∈ Λ k.n.toNat):jr (jn k).1=jr (jn (Ú k τ)).1:=by
 have g:1<=k.n.toNat/\k.n.toNat<=4:=by have:=c.n; omega
 have f:(Ú k τ).n=k.n:=by rw[By c a]
 obtain⟨⟨ρ,j,l⟩,m⟩:=Oj k
 obtain⟨⟨ω,w1,w2⟩,w3⟩:=Oj (Ú k τ)
 rw[f] at w1 w3
 have d:(jn k).1=Ú k ρ:=by rw[l]
 have e:(jn (Ú k τ)).1=Ú (Ú k τ) ω:=by rw[w2]
 refine Zur (Ie (λh=>?_) (λh=>?_))
 .obtain⟨σ,i,n⟩:=(oL g a).2 ρ j
  refine w3 σ i ?_
  rw[OC c i a,n,<- d]
  exact h
 refine m (kh ω τ) ((oL g a).1 ω w1) ?_
 rw[<- OC c w1 a,<- e]
 exact h
end Go.EL

