/-
  RvF, RvG, RvH, RvJ, RvI, SumPlain, PlacedPlain, InsPlain4. Conditions: where the theorems name them.
-/
import Derived.Test.YtabmnaaidfpmcaaGreatDoorV09
set_option linter.unusedVariables false
set_option maxRecDepth 100000
set_option maxHeartbeats 16000000
open Go.Proofs.Tryz
variable {d e l m out t:List Int}{fI fM n:Nat}{A:Option Go.Addr}{w:Go.World}
section
namespace Go.Proofs.YtabmnaaidfpmcaaGreatDoor
open Go.RowKit aS
theorem al.su{B:Nat}(h:ai.ao w B A l)(k:Nat):ai.ao w B (Option.map (λx=>x.add k) A) (l.drop k):=λhp=>by
 have q:=hp;rw[qS]at q;obtain⟨b,off,rfl,j,m⟩:=h (by omega);refine⟨b,off+k,by simp[jW],j,λi hi=>?_⟩;rw[uC,kZ];exact m (k+i) _
theorem al.qa{B:Nat}(h:l.length=0):ai.ao w B A l:=λhp=>by omega
theorem al.yn(aM di dg:Value)(op:J.Op)(a b:ad.ay)(T:Option Addr)(aD:Nat)(t:List Int)(B:Nat)(w:World)(ah:B<=w.heap.size)(d1:af.bd w B aM op)(cJ:al.a1 w B di a)(aE:al.a1 w B dg b)(b7:ad.cO a)(b9:ad.cO b)(hi:ai.ao w B T t)(dV:t.length<=aD)(d2:t.length<=6)(bH:(op.a++op.l).length<=6)(dX:(op.s++op.h).length<=6)(cU:op.a.length=op.s.length)(cV:op.l.length=op.h.length)(bJ:∀x∈op.a++op.l,0<=x/\x<(a.I.length:Int))(b0:∀x∈op.s++op.h,0<=x/\x<(b.I.length:Int))(b6:(R.size (J.aq a.I op.a)).2=0)(a7:t.length=op.l.length+(J.free a.I (op.a++op.l)).length+(J.free b.I (op.s++op.h)).length)(a0:∀k∈ad.all (J.aq a.I op.a),R.inside a.I (ad.ck a.I.length (op.a++op.l) (k++t.take op.l.length) (J.free a.I (op.a++op.l)) ((t.drop op.l.length).take (J.free a.I (op.a++op.l)).length))=true /\
     R.inside b.I (ad.ck b.I.length (op.s++op.h) (k++t.take op.l.length) (J.free b.I (op.s++op.h)) (t.drop (op.l.length+(J.free a.I (op.a++op.l)).length)))=true) :
    Calls Tryz.prog 112 #[aM,di,dg,.slice T t.length aD] w λe w'=>e=.returned (.int .i64 (ad.jd op a b t))/\Below w.heap.size w w':=by
 obtain⟨bO,dk,dn⟩:=aK (hi.bI ah) (cJ.bI ah) (aE.bI ah);obtain⟨v1,v2,v3,v4,v5,rfl,-,⟨K,bS,rfl,c3,-⟩,⟨L,cC,rfl,c4,-⟩,⟨H,cB,rfl,c2,-⟩,⟨S,cs,rfl,is,-⟩⟩:=d1;have a9:=qQ (λW (c:Below w.heap.size w W)=>qZ ((c3.below (c.mono ah)).up (qJ ah c.size)) (qZ ((c4.below (c.mono ah)).up (qJ ah c.size)) (qZ ((c2.below (c.mono ah)).up (qJ ah c.size)) ((is.below (c.mono ah)).up (qJ ah c.size)))));obtain⟨A,bR,X,dT,rfl,cM,-,eu,-⟩:=cJ;obtain⟨D,cD,Y,dU,rfl,cN,-,ew,-⟩:=aE;have dv:=qQ (λW (c:Below w.heap.size w W)=>qZ ((cM.below (c.mono ah)).up (qJ ah c.size)) ((cN.below (c.mono ah)).up (qJ ah c.size)));obtain⟨ag,d4,c7,bQ,-⟩:=b8 w 58 #[.int .i64 op.k,v1,.slice K op.a.length bS,.slice L op.l.length cC,.slice H op.h.length cB,.slice S op.s.length cs,.int .i64 op.v];obtain⟨aC,d5,c9,bD,-⟩:=b8 ag 68 #[.slice A a.I.length bR,.slice X a.e.length dT];obtain⟨aw,d6,c_,bA,-⟩:=b8 aC 68 #[.slice D b.I.length cD,.slice Y b.e.length dU];have V:=qQ ((aA bQ bD).trans (bA.mono (qJ bQ.size bD.size)));have aP:=qQ (qZ ((c7.go bD).go bA) (qZ (c9.go bA) c_));have ek:=(R.aB b7.1).1;have eo:=(R.aB b9.1).1;obtain⟨O,a6⟩:=gz (op.a++op.l);obtain⟨U,bn⟩:=gz (op.s++op.h);have cW:op.a.length+op.l.length=O.length:=by rw[<-a6,qW]
 have cY:op.s.length+op.h.length=U.length:=by rw[<-bn,qW]
 rw[a6]at bH bJ a7 a0;rw[bn]at dX b0 a7 a0;have dm:=qQ (λW (c:Below aw.heap.size aw W)=>by
  have aX:=aA V.q c;have h:=af.dK K L bS cC op.a op.l W.heap.size W (qX _) (by omega) (by omega) (a9.q W aX).1 (a9.q W aX).2.1
  rwa [a6]at h)
 have dr:=qQ (λW (c:Below aw.heap.size aw W)=>by
  have aX:=aA V.q c;have h:=af.dK S H cs cB op.s op.h W.heap.size W (qX _) (by omega) (by omega) (a9.q W aX).2.2.2 (a9.q W aX).2.2.1
  rwa [bn]at h)
 obtain⟨av,bE⟩:=gz (J.free a.I O);obtain⟨aL,bF⟩:=gz (J.free b.I U);have dy:=qQ (λW (c:Below aw.heap.size aw W) F N (i:ai.ao W W.heap.size F O)=>by
  have h:=af.hW A F bR N O a.I W.heap.size W (qX _) (by omega) (by omega) i
  rwa [bE]at h)
 have dz:=qQ (λW (c:Below aw.heap.size aw W) F N (i:ai.ao W W.heap.size F U)=>by
  have h:=af.hW D F cD N U b.I W.heap.size W (qX _) (by omega) (by omega) i
  rwa [bF]at h)
 have cP:=ad.hX a.I O;have dW:=ad.hX b.I U;have bw:=qQ (qZ (λj (bY:j∈J.free a.I O)=>((ad.eF a.I O).1 j).1 bY |>.1) (λj (bY:j∈J.free b.I U)=>((ad.eF b.I U).1 j).1 bY |>.1));rw[bE]at cP a7 a0 bw;rw[bF]at dW a7 a0 bw;have cm:=qQ (show ad.jd op a b t=ad.da ((ad.all (J.aq a.I op.a)).map λk=>R.ef (ad.get a (ad.ck a.I.length O (k++t.take op.l.length) av ((t.drop op.l.length).take av.length))*ad.get b (ad.ck b.I.length U (k++t.take op.l.length) aL (t.drop (op.l.length+av.length))))) by
  unfold ad.jd;simp only[a6,bn,bE,bF])
 obtain⟨G,je⟩:=gz (J.aq a.I op.a);rw[je]at b6 a0 cm;have cF:G.length=op.a.length:=by rw[<-je,J.aW]
 have dB:=qQ (λW (c:Below aw.heap.size aw W)=>by
  have aX:=aA V.q c;have h:=af.eE A K bR bS op.a a.I W.heap.size W (qX _) (by omega) (by omega) (λk cQ=>bJ k (by rw[<-a6];exact jR _ cQ)) (a9.q W aX).1 (dv.q W aX).1
  rwa [je]at h)
 obtain⟨a4,bv,cy⟩:=aK (qZ a0 (qZ b6 (qZ bJ b0))) (qZ cU (qZ cV (qZ a7 (qZ cW (qZ cY cF))))) (qZ b7 b9);have M:=λi=>aP.q.1.cell i
 have aG:=λi=>aP.q.2.1.cell i
 have bT:=λi=>aP.q.2.2.cell i
 clear hi b7 b9 cU cV bJ b0 b6 a7 a0 c3 c4 c2 is cM cN c7 c9 c_ bQ bD bA a6 bn bE bF je cW cY cF;go_enter func112,ntmps112;go_wp2_with fail;clear d4 d5 d6 M aG bT;have aJ:=λW (c:Below aw.heap.size aw W)=>qZ (λi=>(aP.q.1.go c).cell i) True.intro
 refine aH (l:=[_,_]) [(0,19,[]),(1,20,[0]),(2,21,[]),(3,22,[2]),(4,23,[1,3]),(5,24,[]),(6,25,[5]),(7,26,[]),(8,27,[7]),(9,28,[6,8])] [10,11] [.eq _,.eq _,.eq _,.eq _,al.iS O,.eq _,.eq _,.eq _,.eq _,al.iS U]
  (λW=>Below aw.heap.size aw W) (qK _ _).drew ((fr)<|(fr)<|(fr)<|(fr)<|cr ?_<|(fr)<|(fr)<|(fr)<|(fr)<|cr ?_<|fg) ?_ (λ_ _ h bm=>aA h bm)
 .intros;rename_i _ _ K aI;subst_vars;have y:=(show Below aw.heap.size aw _ by assumption)
  skip
  go_simp;with_reducible refine(dm.q _ y).mono ?_
  rintro e hG ⟨v,rfl,Z,aE⟩;exact aI.q _ _ aE (af.b3 Z)
 .intros;rename_i _ _ K aI;subst_vars;have y:=(show Below aw.heap.size aw _ by assumption)
  skip
  go_simp;with_reducible refine(dr.q _ y).mono ?_
  rintro e hG ⟨v,rfl,Z,aE⟩;exact aI.q _ _ aE (af.b3 Z)
 intros;rename_i W y _ _ _ _ M _ _ _ _ aG;subst_vars;obtain⟨cz,dc,rfl,ca,-⟩:=M;obtain⟨cA,df,rfl,cb,-⟩:=aG;have a3:=qQ y;clear aJ y;go_wp2_with fail;have b_:=a3.q.size;have aJ:=λbg (c:Below W.heap.size W bg)=>qZ (λi=>((aP.q.2.1.go a3.q).go c).cell i) (λi=>((aP.q.2.2.go a3.q).go c).cell i)
 refine aH (l:=[_,_]) [(0,29,[]),(1,30,[0]),(2,31,[]),(3,32,[1,2]),(4,33,[]),(5,34,[4]),(6,35,[]),(7,36,[5,6])] [8,9] [.eq _,.eq _,.eq _,al.iS av,.eq _,.eq _,.eq _,al.iS aL]
  (λbg=>Below W.heap.size W bg) (qK _ _).drew ((fr)<|(fr)<|(fr)<|cr ?_<|(fr)<|(fr)<|(fr)<|cr ?_<|fg) ?_ (λ_ _ h bm=>aA h bm)
 .intros;rename_i _ _ K aI;subst_vars;have y:=(show Below W.heap.size W _ by assumption)
  skip
  go_simp;with_reducible refine(dy.q _ (a3.q.trans (y.mono b_)) cz dc ((ca.below y).up y.size)).mono ?_
  rintro e hG ⟨v,rfl,Z,aE⟩;exact aI.q _ _ aE (af.b3 Z)
 .intros;rename_i _ _ K aI;subst_vars;have y:=(show Below W.heap.size W _ by assumption)
  skip
  go_simp;with_reducible refine(dz.q _ (a3.q.trans (y.mono b_)) cA df ((cb.below y).up y.size)).mono ?_
  rintro e hG ⟨v,rfl,Z,aE⟩;exact aI.q _ _ aE (af.b3 Z)
 intros;rename_i W2 y _ _ _ M _ _ _ aG;subst_vars;obtain⟨dO,d_,rfl,c5,-⟩:=M;obtain⟨dP,d',rfl,c6,-⟩:=aG;have aF:=qQ (a3.q.trans (y.mono b_));have bz:=qQ (λbg (c:Below W2.heap.size W2 bg)=>qZ (((ca.below y).up y.size).below c |>.up c.size) (qZ (((cb.below y).up y.size).below c |>.up c.size) (qZ ((c5.below c).up c.size) ((c6.below c).up c.size))));have a5:=qQ (qZ (aP.q.1.go aF.q) (qZ (aP.q.2.1.go aF.q) (aP.q.2.2.go aF.q)));have M:=λi=>a5.q.1.cell i
 have aG:=λi=>a5.q.2.1.cell i
 obtain⟨n,b1⟩:=gz t.length;obtain⟨p,hp⟩:=gz op.l.length;obtain⟨q,hq⟩:=gz av.length;have ak:=qQ (qZ b1 (qZ hp (qZ hq True.intro)));have d0:n=p+q+aL.length:=by have:=bv.q.2.2.1;omega
 rw[b1]at dV d2 |-;rw[hp]at M |-;rw[hq]at cP |-;have i1:=b2 p;have i2:(p:Int)<=n:=by omega
 have i3:(p:Int)<=aD:=by omega
 have i4:(p:Int)+(q:Int)<=(n:Int):=by omega
 have i5:(p:Int)+(q:Int)<=(aD:Int):=by omega
 have i6:(p:Int)<=(p:Int)+(q:Int):=by omega
 have i7:(n:Int)<=aD:=by omega
 clear aJ y b1 hp hq d0 ca cb c5 c6
 go_upto_region 4 with fail
 go_cut [14]from 42 to 52 (λs cf=>W2=cf/\∃bc,s=.slice bc q (aD-p)/\∀bg,Below W2.heap.size W2 bg->ai.ao bg bg.heap.size bc ((t.drop p).take q))
 case first =>
  by_cases aO:aD=p
  .have dR:(aD=p)=True:=eq_true aO;have bK:=qQ aO;clear aO;go_wp2_with fail
   go_meet
   refine⟨rfl,T,by rw[show p+q-p=q by omega],λbg c=>al.qa ?_⟩;rw[qM,qS,ak.q.1];have:=bK.q;omega
  go_wp2_with fail
  go_meet
  exact⟨rfl,_,by rw[show p+q-p=q by omega],λbg c=>af.ju (al.su (bO.q bg ((V.q.trans (aF.q.mono V.q.size)).trans (c.mono (by have:=V.q.size;have:=aF.q.size;omega)))) p) q⟩
 obtain⟨rfl,bc,rfl,cH⟩:=hcut;have dZ:(p:Int)+(q:Int)=((p+q:Nat):Int):=by omega
 obtain⟨m,hm⟩:=gz (p+q);have bM:=qQ (qZ hm True.intro);have d8:(m:Int)<=n:=by omega
 have d9:(m:Int)<=aD:=by omega
 have ez:=b2 m;rw[hm]at dZ;have eA:m<=6:=by omega
 clear hm
 go_upto_region 5 with fail
 go_cut [15]from 53 to 60 (λs cf=>W2=cf/\∃be,s=.slice be (n-m) (aD-m)/\∀bg,Below W2.heap.size W2 bg->ai.ao bg bg.heap.size be (t.drop m))
 case first =>
  by_cases aO:aD=m
  .have dR:(aD=m)=True:=eq_true aO;have bK:=qQ aO;clear aO;go_wp2_with fail
   go_meet
   refine⟨rfl,T,rfl,λbg c=>al.qa ?_⟩;rw[qS,ak.q.1];have:=bK.q;omega
  go_wp2_with fail
  go_meet
  exact⟨rfl,_,rfl,λbg c=>al.su (bO.q bg ((V.q.trans (aF.q.mono V.q.size)).trans (c.mono (by have:=V.q.size;have:=aF.q.size;omega)))) m⟩
 obtain⟨rfl,be,rfl,cI⟩:=hcut;obtain⟨r,c0⟩:=gz (n-m);obtain⟨ap,bs⟩:=gz (t.take p);obtain⟨aU,bq⟩:=gz ((t.drop p).take q);obtain⟨aV,br⟩:=gz (t.drop m);have aQ:=qQ (show ap.length=p/\aU.length=q/\aV.length=r/\r=aL.length from by
  have M:=ak.q.1;have aG:=ak.q.2.1;have bT:=ak.q.2.2.1;have ei:=bv.q.2.2.1;have ej:=bM.q.1;refine⟨?_,?_,?_,by omega⟩
  .rw[<-bs,qM];omega
  .rw[<-bq,qM,qS];omega
  rw[<-br,qS];omega)
 have bP:=qQ (λbg (c:Below W2.heap.size W2 bg)=>show ai.ao bg bg.heap.size T ap/\ai.ao bg bg.heap.size bc aU/\ai.ao bg bg.heap.size be aV from
  ⟨by rw[<-bs];exact af.ju (bO.q bg ((V.q.trans (aF.q.mono V.q.size)).trans (c.mono (by have:=V.q.size;have:=aF.q.size;omega)))) p,by rw[<-bq];exact cH bg c,by rw[<-br];exact cI bg c⟩)
 have aT:=qQ (V.q.trans (aF.q.mono V.q.size));have bL:=qQ (show ad.jd op a b t=ad.da ((ad.all G).map λk=>R.ef (ad.get a (ad.ck a.I.length O (k++ap) av aU)*ad.get b (ad.ck b.I.length U (k++ap) aL aV))) by
  rw[cm.q,ak.q.2.1,ak.q.2.2.1,bM.q.1,bs,bq,br])
 have dG:=qQ (show ∀k∈ad.all G,R.inside a.I (ad.ck a.I.length O (k++ap) av aU)=true/\R.inside b.I (ad.ck b.I.length U (k++ap) aL aV)=true from by
  have h:=a4.q.1;rw[ak.q.2.1,ak.q.2.2.1,bM.q.1,bs,bq,br]at h;exact h)
 rw[c0];clear c0 bs bq br cH cI M aG;have M:=λi=>a5.q.1.cell i
 have aG:=λi=>a5.q.2.1.cell i
 have dF:=qQ (dB.q W2 aF.q);go_wp2_with (with_reducible refine dF.q.mono ?_);rintro e dh ⟨v,rfl,Z,cK⟩;obtain⟨e7,iP,rfl,c1,c',db⟩:=af.b3 Z;have ci:=qQ (al.q7 e7 iP G dh.heap.size dh c' db a4.q.2.1 (qX _) c1);have dl:=qQ cK;have cG:=al.ky a4.q.2.1;have cg:=qQ (λi (hi:i<(ad.all G).length)=>ad.j7 a4.q.2.1 (qP hi));have co:=qQ (λi (hi:i<(ad.all G).length)=>dG.q _ (qP hi));obtain⟨E,cE⟩:=gz (ad.all G);rw[cE]at ci cG cg co bL;clear Z cK c1 c' db cE M aG;go_wp2_with (with_reducible refine ci.q.mono ?_);rintro e dj ⟨ea,ec,rfl,bH,cL⟩;have cj:=qQ (aA dl.q cL);have dH:=qQ bH;have d7:=cj.q.size;obtain⟨ne,b5⟩:=gz E.length;have cq:=qQ (qZ b5 True.intro);rw[b5]at cG |-;obtain⟨f,bU⟩:∃f:List Int->Int,(λk=>R.ef (ad.get a (ad.ck a.I.length O (k++ap) av aU)*ad.get b (ad.ck b.I.length U (k++ap) aL aV)))=f:=⟨_,rfl⟩;have dx:=qQ (λk=>show f k=R.ef (ad.get a (ad.ck a.I.length O (k++ap) av aU)*ad.get b (ad.ck b.I.length U (k++ap) aL aV)) by rw[<-bU]);rw[bU]at bL;clear bH cL b5 bU;go_wp2_with fail;go_loopw [16,18,68] (λs _ cd wr=>∃k:Nat,cd=.int .i64 (k:Int)/\k<=ne/\s=.int .i64 (ad.da ((E.take k).map f))/\Below dj.heap.size dj wr) (λ_ _ cd _=>ne-(intOf cd).toNat)
 case atStart=>exact⟨0,rfl,by omega,by simp[ad.da],qK _ _⟩
 obtain⟨k,rfl,cQ,rfl,aZ⟩:=hrel;have a8:=qQ (cj.q.trans (aZ.mono d7));have dt:=qQ (aT.q.trans (a8.q.mono aT.q.size));have ey:=aZ.size;have dp:=qQ aZ;by_cases cT:k<ne
 .have bG:k<E.length:=by have:=cq.q.1;omega
  obtain⟨fP,ol,rfl,-,cZ⟩:=dH.q.below aZ (by omega);obtain⟨v,d3,⟨Q,dS,rfl,b',-⟩⟩:=cZ k bG;have bX:=cg.q k bG;have bu:=co.q k bG;have cw:=qQ (qD bG);generalize E[k]=x at d3 b' bX cw bu;have a_:=qQ (show x.length=O.length-p/\O.length=p+G.length from by
   have M:=R.bN bX;have aG:=bv.q;have bT:=ak.q.2.1;omega)
  obtain⟨eb,dL,aN⟩:=aK (qZ (qJ aT.q.size a8.q.size) (aT.q.size)) (λW (c:Below wr.heap.size wr W)=>((b'.below (c.mono aZ.size)).up (qJ aZ.size c.size))) (λW (c:Below wr.heap.size wr W)=>aA a8.q c);obtain⟨aR,bt⟩:=gz (x++ap);have bB:=qQ (show aR.length=x.length+p by rw[<-bt,qW,aQ.q.1]);have cl:=qQ (λW (c:Below wr.heap.size wr W)=>by
   have h:=af.dK Q T dS aD x ap W.heap.size W (qX _) (by have:=a_.q;omega) (by have:=aQ.q.1;omega) (dL.q W c) (bP.q W (aN.q W c)).1
   rwa [bt,aQ.q.1]at h)
  rw[bt]at bu;obtain⟨a',bo⟩:=gz (ad.ck a.I.length O aR av aU);obtain⟨bb,bp⟩:=gz (ad.ck b.I.length U aR aL aV);have cu:=qQ (show a'.length=a.I.length/\bb.length=b.I.length by rw[<-bo,<-bp,ad.mu,ad.mu];exact⟨rfl,rfl⟩);have dI:=qQ (λW (c:Below wr.heap.size wr W) F N (h:ai.ao W W.heap.size F aR)=>by
   have h:=al.mr a.I.length cz F dO bc dc N d_ (aD-p) O aR av aU W.heap.size W (qX _) (by omega) (by omega) (by have:=ak.q.2.2.1;omega) (by have:=a_.q;have:=bB.q;omega) (by have:=aQ.q;have:=ak.q;omega) (by have:=a_.q;have:=bB.q;omega) (by have:=aQ.q;omega) (bz.q W (aN.q W c)).1 h (bz.q W (aN.q W c)).2.2.1 (bP.q W (aN.q W c)).2.1 a4.q.2.2.1 bw.q.1
   rwa [bo,ak.q.2.2.1,aQ.q.2.1]at h)
  have dJ:=qQ (λW (c:Below wr.heap.size wr W) F N (h:ai.ao W W.heap.size F aR)=>by
   have h:=al.mr b.I.length cA F dP be df N d' (aD-m) U aR aL aV W.heap.size W (qX _) (by omega) (by omega) (by omega) (by have:=a_.q;have:=bB.q;have:=bv.q;omega) (by have:=aQ.q;omega) (by have:=a_.q;have:=bB.q;omega) (by have:=aQ.q;omega) (bz.q W (aN.q W c)).2.1 h (bz.q W (aN.q W c)).2.2.2 (bP.q W (aN.q W c)).2.2 a4.q.2.2.2 bw.q.2
   rwa [bp,aQ.q.2.2.1]at h)
  rw[bo,bp]at bu;have cp:=qQ bu;obtain⟨bf,bV⟩:=gz (ad.get a a');obtain⟨bh,bW⟩:=gz (ad.get b bb);have dA:=qQ (show f x=wrap64 (bf*bh) by rw[dx.q,bt,bo,bp,bV,bW,al.nd]);have dC:=qQ (λW (c:Below wr.heap.size wr W) F N (h:ai.ao W W.heap.size F a')=>by
   have h:=al.hx _ a F N a' W.heap.size W (qX _) (dk.q W (aT.q.trans ((aN.q W c).mono aT.q.size))) cy.q.1 h cp.q.1
   rwa [bV]at h)
  have dE:=qQ (λW (c:Below wr.heap.size wr W) F N (h:ai.ao W W.heap.size F bb)=>by
   have h:=al.hx _ b F N bb W.heap.size W (qX _) (dn.q W (aT.q.trans ((aN.q W c).mono aT.q.size))) cy.q.2 h cp.q.2
   rwa [bW]at h)
  obtain⟨s,az⟩:=gz (ad.da ((E.take k).map f));have dM:=qQ (show ad.da ((E.take (k+1)).map f)=wrap64 (s+wrap64 (bf*bh)) by
   rw[cw.q,zI,qE,zU,al.sH,az,al.nd,dA.q])
  rw[az];have d8:=b2 k;have d9:(k:Int)<ne:=by omega
  clear cZ b' bX bu bt bo bp bV bW az aZ;go_wp2_with fail;have cn:=qQ (qZ (a5.q.2.1.go a8.q) (a5.q.2.2.go a8.q));have aJ:=λW (c:Below wr.heap.size wr W)=>qZ (λi=>(cn.q.1.go c).cell i) (λi=>(cn.q.2.go c).cell i)
  refine aH (l:=[_]) [(0,72,[]),(1,73,[]),(2,74,[]),(3,75,[2]),(4,76,[3]),(5,77,[]),(6,78,[]),(7,79,[]),(8,80,[6,7]),(9,81,[]),(10,82,[]),(11,83,[4,5,8,9,10]),(12,84,[1,11]),(13,85,[]),(14,86,[]),(15,87,[14]),(16,88,[15]),(17,89,[]),(18,90,[]),(19,91,[]),(20,92,[18,19]),(21,93,[]),(22,94,[]),(23,95,[16,17,20,21,22]),(24,96,[13,23]),(25,97,[12,24]),(26,98,[0,25])] [27] [.eq _,.eq _,.eq _,.eq _,.eq _,.eq _,.eq _,.eq _,al.iS aR,.eq _,.eq _,al.iS a',.eq (.int .i64 bf),.eq _,.eq _,.eq _,.eq _,.eq _,.eq _,.eq _,al.iS aR,.eq _,.eq _,al.iS bb,.eq (.int .i64 bh),.eq _,.eq _]
   (λW=>Below wr.heap.size wr W) (qK _ _).drew ((fr)<|(fr)<|(fr)<|(fr)<|(fr)<|(fr)<|(fr)<|(fr)<|cr ?_<|(fr)<|(fr)<|cr ?_<|cr ?_<|(fr)<|(fr)<|(fr)<|(fr)<|(fr)<|(fr)<|(fr)<|cr ?_<|(fr)<|(fr)<|cr ?_<|cr ?_<|(fr)<|(fr)<|fg) ?_ (λ_ _ h bm=>aA h bm)
  .intros;rename_i _ K aI;subst_vars;have y:=(show Below wr.heap.size wr _ by assumption)
   skip
   go_simp;with_reducible refine(cl.q _ y).mono ?_
   rintro e hG ⟨v,rfl,Z,aE⟩;exact aI.q _ _ aE (af.b3 Z)
  .intros;rename_i M _ _ K aI;subst_vars;have y:=(show Below wr.heap.size wr _ by assumption);obtain⟨F,N,rfl,a2,-⟩:=M;go_simp;with_reducible refine(dI.q _ y F N a2).mono ?_
   rintro e hG ⟨rfl,bZ,aE⟩;exact aI.q _ _ aE (af.dY bZ cu.q.1 (by omega))
  .intros;rename_i M K aI;subst_vars;have y:=(show Below wr.heap.size wr _ by assumption);obtain⟨F,N,rfl,a2,-⟩:=M;go_simp;with_reducible refine(dC.q _ y F N a2).mono ?_
   exact JQ
  .intros;rename_i _ K aI;subst_vars;have y:=(show Below wr.heap.size wr _ by assumption)
   skip
   go_simp;with_reducible refine(cl.q _ y).mono ?_
   rintro e hG ⟨v,rfl,Z,aE⟩;exact aI.q _ _ aE (af.b3 Z)
  .intros;rename_i M _ _ K aI;subst_vars;have y:=(show Below wr.heap.size wr _ by assumption);obtain⟨F,N,rfl,a2,-⟩:=M;go_simp;with_reducible refine(dJ.q _ y F N a2).mono ?_
   rintro e hG ⟨rfl,bZ,aE⟩;exact aI.q _ _ aE (af.dY bZ cu.q.2 (by omega))
  .intros;rename_i M K aI;subst_vars;have y:=(show Below wr.heap.size wr _ by assumption);obtain⟨F,N,rfl,a2,-⟩:=M;go_simp;with_reducible refine(dE.q _ y F N a2).mono ?_
   exact JQ
  intros;rename_i W y _ _ _ _ _ _ _ _ _ _ _ _ _ _ _ _ _ _ _ _ _ _ _ _ _ _ _;subst_vars;have du:=qQ (aA dp.q y);clear aJ y;have cx:=qQ (show ad.da ((E.take (k+1)).map f)=IntKind.i64.wrap (s+IntKind.i64.wrap (bf*bh))from dM.q.trans (by simp only[IntWalk.i64_left]));generalize IntKind.i64.wrap (s+IntKind.i64.wrap (bf*bh))=eh at cx |-;go_wp2_with fail;go_roundw
  case rel=>exact⟨k+1,by go_num,by omega,by rw[cx.q],du.q⟩
  case measure=>simp[intOf];omega
 have cT:ne=k:=by omega
 subst cT;have dw:=qQ (show ad.jd op a b t=ad.da ((E.take ne).map f) by
  rw[bL.q,qT (by have:=cq.q.1;omega)])
 go_wp2_with fail;go_ret;rw[dw.q];exact⟨rfl,dt.q⟩
theorem al.lB{B:Nat}{args:List ad.ay}(h:al.bo w B (some ⟨fI,fM,none⟩) args){i:Nat}(hi:i<args.length)(q:n<args[i].e.length):∃D c X x b o,X=some ⟨b,o,none⟩/\w.cell? ⟨fI,fM+2*i,none⟩=some (.slice D args[i].I.length c)/\w.cell? ⟨fI,fM+(2*i+1),none⟩=some (.slice X args[i].e.length x)/\w.cell? ⟨b,o+n,none⟩=some (.int .i64 (args[i].e.getD n 0)):=by
 obtain⟨b,off,e,-,y⟩:=h (by omega);simp only[zZ,kD,xD]at e;obtain⟨rfl,rfl⟩:=e;obtain⟨D,c,X,x,j,m,r⟩:=y i hi;obtain⟨-,E,-⟩:=r.parts;obtain⟨b,o,rfl,-,M⟩:=E (by omega);rw[Nat.mul_comm]at j m;refine⟨D,c,_,x,b,o,rfl,j,m,?_⟩;rw[M n q];simp[q]
theorem _root_.Zr{G:Prop}(h:G:=by
 have My:=b2 n;clear jg ka dM kn fa du;go_enter func81,ntmps81;go_wp2_with fail;go_ret;rw[cj.q];exact⟨rfl,bU.q⟩
 ):G:=h
theorem al.H7(aM:Value)(op:J.Op)(G:Option Addr)(m:Nat)(args:List ad.ay)(T:Option Addr)(aD:Nat)(t:List Int)(n:Nat)(B:Nat)(w:World)(ah:B<=w.heap.size)(r:af.bd w B aM op)(jg:al.bo w B G args)(j:op.k=2)(du:args.length=0)(fa:∀a∈args,n<a.e.length/\a.e.length<=65536):Calls Tryz.prog 81 #[aM,.slice G args.length m,.slice T t.length aD,.int .i64 (n:Int)] w λe w'=>e=.returned (.int .i64 (ad.entry op args t n))/\Below w.heap.size w w':=by
 have cj:=qQ (show ad.entry op args t n=op.v by unfold ad.entry;rw[j];rfl);obtain⟨v1,v2,v3,v4,v5,rfl,-⟩:=r;rw[j,du];obtain⟨ag,y,dM,kn,-⟩:=b8 w 58 #[.int .i64 2,v1,v2,v3,v4,v5,.int .i64 op.v];have ka:=(jg.below (kn.mono ah));have bU:=qQ kn;have x:=λi=>dM.cell i
 exact Zr
theorem al.FW(aM:Value)(op:J.Op)(G:Option Addr)(r:Nat)(args:List ad.ay)(T:Option Addr)(aD:Nat)(t:List Int)(n:Nat)(B:Nat)(w:World)(ah:B<=w.heap.size)(x:af.bd w B aM op)(jg:al.bo w B G args)(j:op.k=12)(du:args.length=1)(fa:∀a∈args,n<a.e.length/\a.e.length<=65536):Calls Tryz.prog 81 #[aM,.slice G args.length r,.slice T t.length aD,.int .i64 (n:Int)] w λe w'=>e=.returned (.int .i64 (ad.entry op args t n))/\Below w.heap.size w w':=by
 have cj:=qQ (show ad.entry op args t n=(ad.nth args 0).e.getD n 0 by unfold ad.entry;rw[j];rfl);obtain⟨v1,v2,v3,v4,v5,rfl,-⟩:=x;rw[j,du];obtain⟨ag,N,dM,kn,-⟩:=b8 w 58 #[.int .i64 12,v1,v2,v3,v4,v5,.int .i64 op.v];have ka:=(jg.below (kn.mono ah));have bU:=qQ kn;have M:=λi=>dM.cell i
 obtain⟨fI,fM,rfl,-⟩:=ka (by omega);have m:=fa _ (qP (show 0<args.length by omega));obtain⟨D,bT,_,S,b0,Q,rfl,y,z0,u0⟩:=al.lB ka (show 0<args.length by omega) m.1;have i0:(n:Int)<(args[0].e.length:Int):=by omega
 rw[show args[0].e.getD n 0=(ad.nth args 0).e.getD n 0 by unfold ad.nth;simp[show 0<args.length by omega]]at u0;generalize (ad.nth args 0).e.getD n 0=E at u0 cj;generalize args[0].e.length=O at z0 i0 m;generalize args[0].I.length=m0 at y;exact Zr
theorem _root_.QF{G:Prop}(h:G:=by
 have ka:=(jg.below (kn.mono ah));have bU:=qQ kn;have gV:=λi=>dM.cell i
 obtain⟨fI,fM,rfl,-⟩:=ka (by omega);have D_:=fa _ (qP (show 0<args.length by omega));obtain⟨L8,bT,_,gQ,b0,MV,rfl,G_,z0,u0⟩:=al.lB ka (show 0<args.length by omega) D_.1;have i0:(n:Int)<(args[0].e.length:Int):=by omega
 rw[show args[0].e.getD n 0=(ad.nth args 0).e.getD n 0 by unfold ad.nth;simp[show 0<args.length by omega]]at u0;generalize (ad.nth args 0).e.getD n 0=si at u0 cj;generalize args[0].e.length=MS at z0 i0 D_;generalize args[0].I.length=m0 at G_;have oq:=fa _ (qP (show 1<args.length by omega));obtain⟨rq,aO,_,fp,eT,Ix,rfl,Dl,oc,u1⟩:=al.lB ka (show 1<args.length by omega) oq.1;have i1:(n:Int)<(args[1].e.length:Int):=by omega
 rw[show args[1].e.getD n 0=(ad.nth args 1).e.getD n 0 by unfold ad.nth;simp[show 1<args.length by omega]]at u1;generalize (ad.nth args 1).e.getD n 0=cy at u1 cj;generalize args[1].e.length=cW at oc i1 oq;generalize args[1].I.length=m1 at Dl;have My:=b2 n;clear jg ka dM kn fa du;go_enter func81,ntmps81;go_wp2_with fail
 go_quiet (fail)
 go_wp2_with fail;go_ret;rw[cj.q,al.nd];exact⟨rfl,zV bU.q _⟩
 ):G:=h
theorem al.H8(aM:Value)(op:J.Op)(G:Option Addr)(m:Nat)(args:List ad.ay)(T:Option Addr)(aD:Nat)(t:List Int)(n:Nat)(B:Nat)(w:World)(ah:B<=w.heap.size)(r:af.bd w B aM op)(jg:al.bo w B G args)(j:op.k=3)(du:args.length=2)(fa:∀a∈args,n<a.e.length/\a.e.length<=65536):Calls Tryz.prog 81 #[aM,.slice G args.length m,.slice T t.length aD,.int .i64 (n:Int)] w λe w'=>e=.returned (.int .i64 (ad.entry op args t n))/\Below w.heap.size w w':=by
 have cj:=qQ (show ad.entry op args t n=R.ef ((ad.nth args 0).e.getD n 0+(ad.nth args 1).e.getD n 0) by unfold ad.entry;rw[j];rfl);obtain⟨v1,v2,v3,v4,v5,rfl,-⟩:=r;rw[j,du];obtain⟨ag,x,dM,kn,-⟩:=b8 w 58 #[.int .i64 3,v1,v2,v3,v4,v5,.int .i64 op.v];exact QF
theorem al.H9(aM:Value)(op:J.Op)(G:Option Addr)(m:Nat)(args:List ad.ay)(T:Option Addr)(aD:Nat)(t:List Int)(n:Nat)(B:Nat)(w:World)(ah:B<=w.heap.size)(r:af.bd w B aM op)(jg:al.bo w B G args)(j:op.k=4)(du:args.length=2)(fa:∀a∈args,n<a.e.length/\a.e.length<=65536):Calls Tryz.prog 81 #[aM,.slice G args.length m,.slice T t.length aD,.int .i64 (n:Int)] w λe w'=>e=.returned (.int .i64 (ad.entry op args t n))/\Below w.heap.size w w':=by
 have cj:=qQ (show ad.entry op args t n=R.ef ((ad.nth args 0).e.getD n 0-(ad.nth args 1).e.getD n 0) by unfold ad.entry;rw[j];rfl);obtain⟨v1,v2,v3,v4,v5,rfl,-⟩:=r;rw[j,du];obtain⟨ag,x,dM,kn,-⟩:=b8 w 58 #[.int .i64 4,v1,v2,v3,v4,v5,.int .i64 op.v];exact QF
theorem al.H_(aM:Value)(op:J.Op)(G:Option Addr)(m:Nat)(args:List ad.ay)(T:Option Addr)(aD:Nat)(t:List Int)(n:Nat)(B:Nat)(w:World)(ah:B<=w.heap.size)(r:af.bd w B aM op)(jg:al.bo w B G args)(j:op.k=5)(du:args.length=2)(fa:∀a∈args,n<a.e.length/\a.e.length<=65536):Calls Tryz.prog 81 #[aM,.slice G args.length m,.slice T t.length aD,.int .i64 (n:Int)] w λe w'=>e=.returned (.int .i64 (ad.entry op args t n))/\Below w.heap.size w w':=by
 have cj:=qQ (show ad.entry op args t n=R.ef ((ad.nth args 0).e.getD n 0*(ad.nth args 1).e.getD n 0) by unfold ad.entry;rw[j];rfl);obtain⟨v1,v2,v3,v4,v5,rfl,-⟩:=r;rw[j,du];obtain⟨ag,x,dM,kn,-⟩:=b8 w 58 #[.int .i64 5,v1,v2,v3,v4,v5,.int .i64 op.v];exact QF
theorem _root_.JY{G:Prop}(h:G:=by
 have My:=b2 n;clear jg ka dM kn fa du;go_enter func81,ntmps81;go_wp2_with fail
 go_quiet (fail)
 go_wp2_with fail;go_ret;rw[cj.q];exact⟨rfl,zV bU.q _⟩
 ):G:=h
theorem _root_.QY{G:Prop}(h:G:=by
 have ka:=(jg.below (kn.mono ah));have bU:=qQ kn;have gV:=λi=>dM.cell i
 obtain⟨fI,fM,rfl,-⟩:=ka (by omega);have D_:=fa _ (qP (show 0<args.length by omega));obtain⟨L8,bT,_,gQ,b0,MV,rfl,G_,z0,u0⟩:=al.lB ka (show 0<args.length by omega) D_.1;have i0:(n:Int)<(args[0].e.length:Int):=by omega
 rw[show args[0].e.getD n 0=(ad.nth args 0).e.getD n 0 by unfold ad.nth;simp[show 0<args.length by omega]]at u0;generalize (ad.nth args 0).e.getD n 0=si at u0 cj;generalize args[0].e.length=MS at z0 i0 D_;generalize args[0].I.length=m0 at G_;have oq:=fa _ (qP (show 1<args.length by omega));obtain⟨rq,aO,_,fp,eT,Ix,rfl,Dl,oc,u1⟩:=al.lB ka (show 1<args.length by omega) oq.1;have i1:(n:Int)<(args[1].e.length:Int):=by omega
 rw[show args[1].e.getD n 0=(ad.nth args 1).e.getD n 0 by unfold ad.nth;simp[show 1<args.length by omega]]at u1;generalize (ad.nth args 1).e.getD n 0=cy at u1 cj;generalize args[1].e.length=cW at oc i1 oq;generalize args[1].I.length=m1 at Dl;by_cases hq:si<cy
 .rw[qY hq]at cj;exact JY
 .rw[qV hq]at cj;exact JY
 ):G:=h
theorem al.H'(aM:Value)(op:J.Op)(G:Option Addr)(m:Nat)(args:List ad.ay)(T:Option Addr)(aD:Nat)(t:List Int)(n:Nat)(B:Nat)(w:World)(ah:B<=w.heap.size)(r:af.bd w B aM op)(jg:al.bo w B G args)(j:op.k=6)(du:args.length=2)(fa:∀a∈args,n<a.e.length/\a.e.length<=65536):Calls Tryz.prog 81 #[aM,.slice G args.length m,.slice T t.length aD,.int .i64 (n:Int)] w λe w'=>e=.returned (.int .i64 (ad.entry op args t n))/\Below w.heap.size w w':=by
 have cj:=qQ (show ad.entry op args t n=(if (ad.nth args 0).e.getD n 0<(ad.nth args 1).e.getD n 0 then(ad.nth args 1).e.getD n 0 else(ad.nth args 0).e.getD n 0) by unfold ad.entry;rw[j];rfl);obtain⟨v1,v2,v3,v4,v5,rfl,-⟩:=r;rw[j,du];obtain⟨ag,x,dM,kn,-⟩:=b8 w 58 #[.int .i64 6,v1,v2,v3,v4,v5,.int .i64 op.v];exact QY
theorem al.Ia(aM:Value)(op:J.Op)(G:Option Addr)(m:Nat)(args:List ad.ay)(T:Option Addr)(aD:Nat)(t:List Int)(n:Nat)(B:Nat)(w:World)(ah:B<=w.heap.size)(r:af.bd w B aM op)(jg:al.bo w B G args)(j:op.k=7)(du:args.length=2)(fa:∀a∈args,n<a.e.length/\a.e.length<=65536):Calls Tryz.prog 81 #[aM,.slice G args.length m,.slice T t.length aD,.int .i64 (n:Int)] w λe w'=>e=.returned (.int .i64 (ad.entry op args t n))/\Below w.heap.size w w':=by
 have cj:=qQ (show ad.entry op args t n=(if (ad.nth args 0).e.getD n 0<(ad.nth args 1).e.getD n 0 then 1 else 0) by unfold ad.entry;rw[j];rfl);obtain⟨v1,v2,v3,v4,v5,rfl,-⟩:=r;rw[j,du];obtain⟨ag,x,dM,kn,-⟩:=b8 w 58 #[.int .i64 7,v1,v2,v3,v4,v5,.int .i64 op.v];exact QY
theorem al.Ib(aM:Value)(op:J.Op)(G:Option Addr)(y:Nat)(args:List ad.ay)(T:Option Addr)(aD:Nat)(t:List Int)(n:Nat)(B:Nat)(w:World)(ah:B<=w.heap.size)(E:af.bd w B aM op)(jg:al.bo w B G args)(j:op.k=8)(du:args.length=3)(fa:∀a∈args,n<a.e.length/\a.e.length<=65536):Calls Tryz.prog 81 #[aM,.slice G args.length y,.slice T t.length aD,.int .i64 (n:Int)] w λe w'=>e=.returned (.int .i64 (ad.entry op args t n))/\Below w.heap.size w w':=by
 have cj:=qQ (show ad.entry op args t n=(if (ad.nth args 0).e.getD n 0≠0 then(ad.nth args 1).e.getD n 0 else(ad.nth args 2).e.getD n 0) by unfold ad.entry;rw[j];rfl);obtain⟨v1,v2,v3,v4,v5,rfl,-⟩:=E;rw[j,du];obtain⟨ag,ak,dM,kn,-⟩:=b8 w 58 #[.int .i64 8,v1,v2,v3,v4,v5,.int .i64 op.v];have ka:=(jg.below (kn.mono ah));have bU:=qQ kn;have Z:=λi=>dM.cell i
 obtain⟨fI,fM,rfl,-⟩:=ka (by omega);have m:=fa _ (qP (show 0<args.length by omega));obtain⟨S,bT,_,az,b0,ap,rfl,M,z0,u0⟩:=al.lB ka (show 0<args.length by omega) m.1;have i0:(n:Int)<(args[0].e.length:Int):=by omega
 rw[show args[0].e.getD n 0=(ad.nth args 0).e.getD n 0 by unfold ad.nth;simp[show 0<args.length by omega]]at u0;generalize (ad.nth args 0).e.getD n 0=D at u0 cj;generalize args[0].e.length=ao at z0 i0 m;generalize args[0].I.length=m0 at M;have r:=fa _ (qP (show 1<args.length by omega));obtain⟨U,aO,_,aA,V,aq,rfl,N,Q,u1⟩:=al.lB ka (show 1<args.length by omega) r.1;have i1:(n:Int)<(args[1].e.length:Int):=by omega
 rw[show args[1].e.getD n 0=(ad.nth args 1).e.getD n 0 by unfold ad.nth;simp[show 1<args.length by omega]]at u1;generalize (ad.nth args 1).e.getD n 0=X at u1 cj;generalize args[1].e.length=cW at Q i1 r;generalize args[1].I.length=m1 at N;have x:=fa _ (qP (show 2<args.length by omega));obtain⟨dp,bz,_,b',W,av,rfl,O,z2,u2⟩:=al.lB ka (show 2<args.length by omega) x.1;have i2:(n:Int)<(args[2].e.length:Int):=by omega
 rw[show args[2].e.getD n 0=(ad.nth args 2).e.getD n 0 by unfold ad.nth;simp[show 2<args.length by omega]]at u2;generalize (ad.nth args 2).e.getD n 0=Y at u2 cj;generalize args[2].e.length=cX at z2 i2 x;generalize args[2].I.length=m2 at O;by_cases hq:D≠0
 .rw[qY hq]at cj;exact Zr
 rw[qV hq]at cj;exact Zr
theorem al.dw{B:Nat}{args:List ad.ay}(h:al.bo w B (some ⟨fI,fM,none⟩) args)(i:Nat){a:ad.ay}(hi:args[i]?=some a):∃D c X x,(∀W,Below B w W->W.cell? ⟨fI,fM+2*i,none⟩=some (.slice D a.I.length c))/\(∀W,Below B w W->W.cell? ⟨fI,fM+(2*i+1),none⟩=some (.slice X a.e.length x))/\a1 w B (.agg #[.slice D a.I.length c,.slice X a.e.length x]) a:=by
 obtain⟨M,rfl⟩:=List.getElem?_eq_some_iff.1 hi;obtain⟨b,off,e,r,E⟩:=h (by omega);simp only[zZ,kD,xD]at e;obtain⟨rfl,rfl⟩:=e;obtain⟨D,c,X,x,m,q,y⟩:=E i M;rw[Nat.mul_comm]at m q;exact⟨D,c,X,x,λW j=>(j.cell (p:=⟨fI,fM+2*i,none⟩) r).trans m,λW j=>(j.cell (p:=⟨fI,fM+(2*i+1),none⟩) r).trans q,y⟩
theorem al.FY(aM:Value)(op:J.Op)(G:Option Addr)(az:Nat)(a:ad.ay)(T:Option Addr)(aD:Nat)(t:List Int)(n:Nat)(B:Nat)(w:World)(ah:B<=w.heap.size)(S:af.bd w B aM op)(O:al.bo w B G [a])(aE:op.k=14)(r:Int)(U:ad.entry op [a] t n=r)(hC:∀W,Below w.heap.size w W->∀aM di,af.bd W W.heap.size aM op->al.a1 W W.heap.size di a->Calls Tryz.prog 111 #[aM,di,.slice T t.length aD] W λe w'=>e=.returned (.int .i64 r)/\Below W.heap.size W w'):Calls Tryz.prog 81 #[aM,.slice G 1 az,.slice T t.length aD,.int .i64 (n:Int)] w λe w'=>e=.returned (.int .i64 (ad.entry op [a] t n))/\Below w.heap.size w w':=by
 obtain⟨ak,M,N⟩:=aK (qZ U True.intro) (O.bI ah) (S.bI ah);obtain⟨v1,v2,v3,v4,v5,rfl,-⟩:=S;rw[aE]at N |-;obtain⟨ag,aF,D,m,-⟩:=b8 w 58 #[.int .i64 14,v1,v2,v3,v4,v5,.int .i64 op.v];have x:=qQ m;have ao:=qQ D;have aC:=λi=>D.cell i
 obtain⟨fI,fM,rfl,-⟩:=M.q ag m (by simp);have Q:=M.q ag m;obtain⟨aL,bT,aN,aO,E,z0,I⟩:=al.dw Q 0 (a:=a) rfl;simp only[qL,xW,qI]at E z0;obtain⟨aq,av,V⟩:=aK E z0 (λW (b:Below ag.heap.size ag W)=>(I.below b).up b.size);clear E z0 I;clear U;have Z:=qQ (λW (b:Below ag.heap.size ag W)=>hC W (aA x.q b));clear O Q D m hC;go_enter func81,ntmps81;go_wp2_with fail;clear aF aC;have aJ:=λW (b:Below ag.heap.size ag W)=>qZ (λi=>(ao.q.go b).cell i) (qZ (aq.q W b) (av.q W b))
 refine aH (l:=[_,_]) [(0,195,[]),(1,196,[]),(2,197,[1]),(3,198,[2]),(4,199,[])] [5,6] [.eq _,.eq _,.eq _,.eq _,.eq _]
  (λW=>Below ag.heap.size ag W) (qK _ _).drew ((fr)<|(fr)<|(fr)<|(fr)<|(fr)<|fg) ?_ (λ_ _ h aB=>aA h aB)
 intros;rename_i W j _ _ _ _ _;subst_vars;have ap:=qQ (Z.q W j _ _ (N.q W (aA x.q j)) (V.q W j));have Y:=qQ (aA x.q j);clear aJ j;go_wp2_with (with_reducible refine ap.q.mono ?_)
 first | rintro e aG ⟨rfl,y⟩ | rintro e aG rfl y
 have X:=qQ (aA Y.q y);clear y;go_wp2_with fail;go_ret;rw[ak.q.1];exact⟨rfl,X.q⟩
theorem _root_.QP{G:Prop}(h:G:=by
 have bU:=qQ kn;have hl:=qQ dM;have gV:=λi=>dM.cell i
 obtain⟨fI,fM,rfl,-⟩:=hN.q ag kn (by simp);have Lq:=hN.q ag kn;obtain⟨L8,bT,M6,gQ,G_,z0,L7⟩:=al.dw Lq 0 (a:=a) rfl;simp only[Nat.reduceMul,Nat.reduceAdd,qL,xW,qI,zF]at G_ z0;obtain⟨Mg,Mh,Hb⟩:=aK G_ z0 (λW (b:Below ag.heap.size ag W)=>(L7.below b).up b.size);clear G_ z0 L7;clear cw;have He:=qQ (λW (b:Below ag.heap.size ag W)=>hC W (aA bU.q b));clear jg Lq dM kn hC;go_enter func81,ntmps81;go_wp2_with fail;clear fo gV;have aJ:=λW (b:Below ag.heap.size ag W)=>qZ (λi=>(hl.q.go b).cell i) (qZ (Mg.q W b) (Mh.q W b))
 refine aH (l:=[_,_]) [(0,267,[]),(1,268,[]),(2,269,[1]),(3,270,[2]),(4,271,[])] [5,6] [.eq _,.eq _,.eq _,.eq _,.eq _]
  (λW=>Below ag.heap.size ag W) (qK _ _).drew ((fr)<|(fr)<|(fr)<|(fr)<|(fr)<|fg) ?_ (λ_ _ h LO=>aA h LO)
 intros;rename_i W a_ _ _ _ _ _;subst_vars;have ru:=qQ (He.q W a_ _ _ (eb.q W (aA bU.q a_)) (Hb.q W a_));have gR:=qQ (aA bU.q a_);clear aJ a_;go_wp2_with (with_reducible refine ru.q.mono ?_)
 first | rintro e hG ⟨rfl,aE⟩ | rintro e hG rfl aE
 have Du:=qQ (aA gR.q aE);clear aE;go_wp2_with fail;go_ret;rw[cj.q.1];exact⟨rfl,Du.q⟩
 ):G:=h
theorem al.Ic(aM:Value)(op:J.Op)(G:Option Addr)(m:Nat)(a:ad.ay)(T:Option Addr)(aD:Nat)(t:List Int)(n:Nat)(B:Nat)(w:World)(ah:B<=w.heap.size)(j:af.bd w B aM op)(jg:al.bo w B G [a])(x:op.k=9)(r:Int)(cw:ad.entry op [a] t n=r)(hC:∀W,Below w.heap.size w W->∀aM di,af.bd W W.heap.size aM op->al.a1 W W.heap.size di a->Calls Tryz.prog 115 #[aM,di,.slice T t.length aD] W λe w'=>e=.returned (.int .i64 r)/\Below W.heap.size W w'):Calls Tryz.prog 81 #[aM,.slice G 1 m,.slice T t.length aD,.int .i64 (n:Int)] w λe w'=>e=.returned (.int .i64 (ad.entry op [a] t n))/\Below w.heap.size w w':=by
 obtain⟨cj,hN,eb⟩:=aK (qZ cw True.intro) (jg.bI ah) (j.bI ah);obtain⟨v1,v2,v3,v4,v5,rfl,-⟩:=j;rw[x]at eb |-;obtain⟨ag,fo,dM,kn,-⟩:=b8 w 58 #[.int .i64 9,v1,v2,v3,v4,v5,.int .i64 op.v];exact QP
theorem al.FV(aM:Value)(op:J.Op)(G:Option Addr)(m:Nat)(a:ad.ay)(T:Option Addr)(aD:Nat)(t:List Int)(n:Nat)(B:Nat)(w:World)(ah:B<=w.heap.size)(j:af.bd w B aM op)(jg:al.bo w B G [a])(x:op.k=11)(r:Int)(cw:ad.entry op [a] t n=r)(hC:∀W,Below w.heap.size w W->∀aM di,af.bd W W.heap.size aM op->al.a1 W W.heap.size di a->Calls Tryz.prog 115 #[aM,di,.slice T t.length aD] W λe w'=>e=.returned (.int .i64 r)/\Below W.heap.size W w'):Calls Tryz.prog 81 #[aM,.slice G 1 m,.slice T t.length aD,.int .i64 (n:Int)] w λe w'=>e=.returned (.int .i64 (ad.entry op [a] t n))/\Below w.heap.size w w':=by
 obtain⟨cj,hN,eb⟩:=aK (qZ cw True.intro) (jg.bI ah) (j.bI ah);obtain⟨v1,v2,v3,v4,v5,rfl,-⟩:=j;rw[x]at eb |-;obtain⟨ag,fo,dM,kn,-⟩:=b8 w 58 #[.int .i64 11,v1,v2,v3,v4,v5,.int .i64 op.v];exact QP
theorem al.FX(aM:Value)(op:J.Op)(G:Option Addr)(m:Nat)(a:ad.ay)(T:Option Addr)(aD:Nat)(t:List Int)(n:Nat)(B:Nat)(w:World)(ah:B<=w.heap.size)(j:af.bd w B aM op)(jg:al.bo w B G [a])(x:op.k=13)(r:Int)(cw:ad.entry op [a] t n=r)(hC:∀W,Below w.heap.size w W->∀aM di,af.bd W W.heap.size aM op->al.a1 W W.heap.size di a->Calls Tryz.prog 115 #[aM,di,.slice T t.length aD] W λe w'=>e=.returned (.int .i64 r)/\Below W.heap.size W w'):Calls Tryz.prog 81 #[aM,.slice G 1 m,.slice T t.length aD,.int .i64 (n:Int)] w λe w'=>e=.returned (.int .i64 (ad.entry op [a] t n))/\Below w.heap.size w w':=by
 obtain⟨cj,hN,eb⟩:=aK (qZ cw True.intro) (jg.bI ah) (j.bI ah);obtain⟨v1,v2,v3,v4,v5,rfl,-⟩:=j;rw[x]at eb |-;obtain⟨ag,fo,dM,kn,-⟩:=b8 w 58 #[.int .i64 13,v1,v2,v3,v4,v5,.int .i64 op.v];exact QP
theorem al.FZ(aM:Value)(op:J.Op)(G:Option Addr)(m:Nat)(a:ad.ay)(T:Option Addr)(aD:Nat)(t:List Int)(n:Nat)(B:Nat)(w:World)(ah:B<=w.heap.size)(j:af.bd w B aM op)(jg:al.bo w B G [a])(x:op.k=15)(r:Int)(cw:ad.entry op [a] t n=r)(hC:∀W,Below w.heap.size w W->∀aM di,af.bd W W.heap.size aM op->al.a1 W W.heap.size di a->Calls Tryz.prog 115 #[aM,di,.slice T t.length aD] W λe w'=>e=.returned (.int .i64 r)/\Below W.heap.size W w'):Calls Tryz.prog 81 #[aM,.slice G 1 m,.slice T t.length aD,.int .i64 (n:Int)] w λe w'=>e=.returned (.int .i64 (ad.entry op [a] t n))/\Below w.heap.size w w':=by
 obtain⟨cj,hN,eb⟩:=aK (qZ cw True.intro) (jg.bI ah) (j.bI ah);obtain⟨v1,v2,v3,v4,v5,rfl,-⟩:=j;rw[x]at eb |-;obtain⟨ag,fo,dM,kn,-⟩:=b8 w 58 #[.int .i64 15,v1,v2,v3,v4,v5,.int .i64 op.v];exact QP
theorem _root_.Qc{G:Prop}(h:G:=by
 have ru:=qQ (He.q W a_ _ _ _ (eb.q W (aA bU.q a_)) (Hb.q W a_) (cY.q W a_));have gR:=qQ (aA bU.q a_);clear aJ a_;go_wp2_with (with_reducible refine ru.q.mono ?_)
 first | rintro e hG ⟨rfl,aE⟩ | rintro e hG rfl aE
 have Du:=qQ (aA gR.q aE);clear aE;go_wp2_with fail;go_ret;rw[cj.q.1];exact⟨rfl,Du.q⟩
 ):G:=h
theorem al.F0(aM:Value)(op:J.Op)(G:Option Addr)(ak:Nat)(a b:ad.ay)(T:Option Addr)(aD:Nat)(t:List Int)(n:Nat)(B:Nat)(w:World)(ah:B<=w.heap.size)(O:af.bd w B aM op)(N:al.bo w B G [a,b])(aq:op.k=16)(r:Int)(Q:ad.entry op [a,b] t n=r)(hC:∀W,Below w.heap.size w W->∀aM di S,af.bd W W.heap.size aM op->al.a1 W W.heap.size di a->al.a1 W W.heap.size S b->Calls Tryz.prog 112 #[aM,di,S,.slice T t.length aD] W λe w'=>e=.returned (.int .i64 r)/\Below W.heap.size W w'):Calls Tryz.prog 81 #[aM,.slice G 2 ak,.slice T t.length aD,.int .i64 (n:Int)] w λe w'=>e=.returned (.int .i64 (ad.entry op [a,b] t n))/\Below w.heap.size w w':=by
 obtain⟨cj,M,eb⟩:=aK (qZ Q True.intro) (N.bI ah) (O.bI ah);obtain⟨v1,v2,v3,v4,v5,rfl,-⟩:=O;rw[aq]at eb |-;obtain⟨ag,av,x,j,-⟩:=b8 w 58 #[.int .i64 16,v1,v2,v3,v4,v5,.int .i64 op.v];have bU:=qQ j;have U:=qQ x;have ap:=λi=>x.cell i
 obtain⟨fI,fM,rfl,-⟩:=M.q ag j (by simp);have m:=M.q ag j;obtain⟨az,bT,aC,aG,y,z0,I⟩:=al.dw m 0 (a:=a) rfl;simp only[qL,xW,qI]at y z0;obtain⟨V,Y,Hb⟩:=aK y z0 (λW (b:Below ag.heap.size ag W)=>(I.below b).up b.size);clear y z0 I;obtain⟨aB,aO,aF,aL,D,E,aQ⟩:=al.dw m 1 (a:=b) rfl;simp only[Nat.reduceAdd,zF]at D E;obtain⟨X,Z,cY⟩:=aK D E (λW (b:Below ag.heap.size ag W)=>(aQ.below b).up b.size);clear D E aQ;clear Q;have He:=qQ (λW (b:Below ag.heap.size ag W)=>hC W (aA bU.q b));clear N m x j hC;go_enter func81,ntmps81;go_wp2_with fail;clear av ap;have aJ:=λW (b:Below ag.heap.size ag W)=>qZ (λi=>(U.q.go b).cell i) (qZ (V.q W b) (qZ (Y.q W b) (qZ (X.q W b) (Z.q W b))))
 refine aH (l:=[_,_]) [(0,203,[]),(1,204,[]),(2,205,[1]),(3,206,[2]),(4,207,[]),(5,208,[4]),(6,209,[5]),(7,210,[])] [8,9] [.eq _,.eq _,.eq _,.eq _,.eq _,.eq _,.eq _,.eq _]
  (λW=>Below ag.heap.size ag W) (qK _ _).drew ((fr)<|(fr)<|(fr)<|(fr)<|(fr)<|(fr)<|(fr)<|(fr)<|fg) ?_ (λ_ _ h ao=>aA h ao)
 intros;rename_i W a_ _ _ _ _ _ _ _ _;subst_vars;exact Qc
theorem al.F3(aM:Value)(op:J.Op)(G:Option Addr)(ak:Nat)(a b:ad.ay)(T:Option Addr)(aD:Nat)(t:List Int)(n:Nat)(B:Nat)(w:World)(ah:B<=w.heap.size)(O:af.bd w B aM op)(N:al.bo w B G [a,b])(aq:op.k=19)(r:Int)(Q:ad.entry op [a,b] t n=r)(hC:∀W,Below w.heap.size w W->∀aM di S,af.bd W W.heap.size aM op->al.a1 W W.heap.size di a->al.a1 W W.heap.size S b->Calls Tryz.prog 114 #[ di,S,.slice T t.length aD] W λe w'=>e=.returned (.int .i64 r)/\Below W.heap.size W w'):Calls Tryz.prog 81 #[aM,.slice G 2 ak,.slice T t.length aD,.int .i64 (n:Int)] w λe w'=>e=.returned (.int .i64 (ad.entry op [a,b] t n))/\Below w.heap.size w w':=by
 obtain⟨cj,M,eb⟩:=aK (qZ Q True.intro) (N.bI ah) (O.bI ah);obtain⟨v1,v2,v3,v4,v5,rfl,-⟩:=O;rw[aq]at eb |-;obtain⟨ag,av,x,j,-⟩:=b8 w 58 #[.int .i64 19,v1,v2,v3,v4,v5,.int .i64 op.v];have bU:=qQ j;have U:=qQ x;have ap:=λi=>x.cell i
 obtain⟨fI,fM,rfl,-⟩:=M.q ag j (by simp);have m:=M.q ag j;obtain⟨az,bT,aC,aG,y,z0,I⟩:=al.dw m 0 (a:=a) rfl;simp only[qL,xW,qI]at y z0;obtain⟨V,Y,Hb⟩:=aK y z0 (λW (b:Below ag.heap.size ag W)=>(I.below b).up b.size);clear y z0 I;obtain⟨aB,aO,aF,aL,D,E,aQ⟩:=al.dw m 1 (a:=b) rfl;simp only[Nat.reduceAdd,zF]at D E;obtain⟨X,Z,cY⟩:=aK D E (λW (b:Below ag.heap.size ag W)=>(aQ.below b).up b.size);clear D E aQ;clear Q;have He:=qQ (λW (b:Below ag.heap.size ag W)=>hC W (aA bU.q b));clear N m x j hC;go_enter func81,ntmps81;go_wp2_with fail;clear av ap;have aJ:=λW (b:Below ag.heap.size ag W)=>qZ (λi=>(U.q.go b).cell i) (qZ (V.q W b) (qZ (Y.q W b) (qZ (X.q W b) (Z.q W b))))
 refine aH (l:=[_,_]) [(0,259,[]),(1,260,[0]),(2,261,[1]),(3,262,[]),(4,263,[3]),(5,264,[4]),(6,265,[])] [7,8] [.eq _,.eq _,.eq _,.eq _,.eq _,.eq _,.eq _]
  (λW=>Below ag.heap.size ag W) (qK _ _).drew ((fr)<|(fr)<|(fr)<|(fr)<|(fr)<|(fr)<|(fr)<|fg) ?_ (λ_ _ h ao=>aA h ao)
 intros;rename_i W a_ _ _ _ _ _ _ _;subst_vars;exact Qc
theorem al.F1(aM:Value)(op:J.Op)(G:Option Addr)(y:Nat)(args:List ad.ay)(T:Option Addr)(aD:Nat)(t:List Int)(n:Nat)(B:Nat)(w:World)(ah:B<=w.heap.size)(E:af.bd w B aM op)(D:al.bo w B G args)(Z:0<args.length)(V:op.k=17)(r:Int)(I:ad.entry op args t n=r)(hC:∀W,Below w.heap.size w W->∀aM,af.bd W W.heap.size aM op->al.bo W W.heap.size G args->Calls Tryz.prog 113 #[aM,.slice G args.length y,.slice T t.length aD] W λe w'=>e=.returned (.int .i64 r)/\Below W.heap.size W w'):Calls Tryz.prog 81 #[aM,.slice G args.length y,.slice T t.length aD,.int .i64 (n:Int)] w λe w'=>e=.returned (.int .i64 (ad.entry op args t n))/\Below w.heap.size w w':=by
 obtain⟨Q,S,x⟩:=aK (qZ I True.intro) (D.bI ah) (E.bI ah);obtain⟨v1,v2,v3,v4,v5,rfl,-⟩:=E;rw[V]at x |-;obtain⟨ag,ak,M,j,-⟩:=b8 w 58 #[.int .i64 17,v1,v2,v3,v4,v5,.int .i64 op.v];have N:=qQ j;have Y:=λi=>M.cell i
 have U:=qQ (hC ag j _ (x.q ag j) (S.q ag j));clear D j M hC I;go_enter func81,ntmps81;go_wp2_with (with_reducible refine U.q.mono ?_)
 first | rintro e X ⟨rfl,m⟩ | rintro e X rfl m
 have O:=qQ (aA N.q m);clear m;go_wp2_with fail;go_ret;rw[Q.q.1];exact⟨rfl,O.q⟩
theorem al.FU(aM:Value)(op:J.Op)(G:Option Addr)(cd:Nat)(a:ad.ay)(T:Option Addr)(aD:Nat)(t:List Int)(n:Nat)(B:Nat)(w:World)(ah:B<=w.heap.size)(cn:af.bd w B aM op)(bu:al.bo w B G [a])(hi:ai.ao w B T t)(cD:t.length<=6)(a1:op.k=10)(a6:ad.cO a)(cC:op.a.length<=6)(a3:∀x∈op.a,0<=x/\x<(a.I.length:Int))(M:(R.size (J.aq a.I op.a)).2=0)(a5:t.length=(J.free a.I op.a).length)(aL:∀k∈ad.all (J.aq a.I op.a),R.inside a.I (ad.ck a.I.length op.a k (J.free a.I op.a) t)=true):Calls Tryz.prog 81 #[aM,.slice G 1 cd,.slice T t.length aD,.int .i64 (n:Int)] w λe w'=>e=.returned (.int .i64 (ad.entry op [a] t n))/\Below w.heap.size w w':=by
 obtain⟨O,b',bg⟩:=aK (show ad.entry op [a] t n=ad.da ((ad.all (J.aq a.I op.a)).map λk=>ad.get a (ad.ck a.I.length op.a k (J.free a.I op.a) t)) by rw[ad.vl a1];rfl) (hi.bI ah) (bu.bI ah);obtain⟨v1,v2,v3,v4,v5,rfl,-,⟨K,aC,rfl,bD,-⟩,-⟩:=cn;have aQ:=qQ (bD.bI ah);rw[a1];obtain⟨ag,cp,a8,av,-⟩:=b8 w 58 #[.int .i64 10,v1,.slice K op.a.length aC,v3,v4,v5,.int .i64 op.v];have D:=qQ av;have aP:=qQ a8;have ci:=λi=>a8.cell i
 obtain⟨fI,fM,rfl,-⟩:=bg.q ag av (by simp);have bv:=bg.q ag av;obtain⟨bb,bT,cy,cH,a_,z0,a'⟩:=al.dw bv 0 (a:=a) rfl;simp only[qL,xW,qI]at a_ z0;have aO:=qQ (λW (c:Below ag.heap.size ag W)=>qZ (a_ W c) (z0 W c));have bc:=qQ (λW (c:Below ag.heap.size ag W)=>(a'.below c).up c.size);have cB:=(R.aB a6.1).1;obtain⟨Z,aV⟩:=gz (J.free a.I op.a);obtain⟨y,aG⟩:=gz (J.aq a.I op.a);have cj:=ad.hX a.I op.a;have bh:=qQ (λj (cl:j∈J.free a.I op.a)=>((ad.eF a.I op.a).1 j).1 cl |>.1);have bW:=qQ (λW (c:Below ag.heap.size ag W)=>by
  have h:=af.hW bb K bT aC op.a a.I W.heap.size W (qX _) (by omega) (by omega) (aQ.q W (aA D.q c))
  rwa [aV]at h)
 have bt:y.length=op.a.length:=by rw[<-aG,J.aW]
 have bS:=qQ (λW (c:Below ag.heap.size ag W)=>by
  have h:=af.eE bb K bT aC op.a a.I W.heap.size W (qX _) (by omega) (by omega) a3 (aQ.q W (aA D.q c)) (bc.q W c).parts.1
  rwa [aG]at h)
 rw[aV]at cj bh a5 aL O;rw[aG]at M aL O;have ap:=qQ (qZ bt (qZ a5 (qZ a3 (qZ M a6))));have be:=qQ (λi (hi:i<(ad.all y).length)=>qZ (ad.j7 M (qP hi)) (aL _ (qP hi)));have br:=al.ky M;obtain⟨E,aU⟩:=gz (ad.all y);have bJ:=qQ (λ(e7:Option Addr) iP (W:World) (aT:y.length<=iP) (cf:iP<=9223372036854775807) (h:ai.ao W W.heap.size e7 y)=>by
  have h:=al.q7 e7 iP y W.heap.size W aT cf M (qX _) h
  rwa [aU]at h)
 rw[aU]at br be O;obtain⟨f,aZ⟩:∃f:List Int->Int,(λk=>ad.get a (ad.ck a.I.length op.a k Z t))=f:=⟨_,rfl⟩;have bV:=qQ (λk=>show f k=ad.get a (ad.ck a.I.length op.a k Z t) by rw[<-aZ]);rw[aZ]at O;clear bu hi bv a8 av a_ z0 a' a6 a3 M a5 aL bD aV aG aU aZ bt;go_enter func81,ntmps81;go_wp2_with fail;clear cp ci;have aJ:=λW (c:Below ag.heap.size ag W)=>qZ (λi=>(aP.q.go c).cell i) (aO.q W c)
 refine aH (l:=[_,_]) [(0,145,[]),(1,146,[0]),(2,147,[1]),(3,148,[2]),(4,149,[]),(5,150,[4])] [6,7] [.eq _,.eq _,.eq _,.eq _,.eq _,.eq _]
  (λW=>Below ag.heap.size ag W) (qK _ _).drew ((fr)<|(fr)<|(fr)<|(fr)<|(fr)<|(fr)<|fg) ?_ (λ_ _ h U=>aA h U)
 intros;rename_i W m _ _ _ _ _ _;subst_vars;have b6:=qQ (bW.q W m);have bQ:=qQ m;clear aJ m;go_wp2_with (with_reducible refine b6.q.mono ?_);rintro e aw ⟨v,rfl,aN,X⟩;obtain⟨ca,cw,rfl,bE,-⟩:=af.b3 aN;have ak:=qQ (aA bQ.q X);have b9:=qQ bE;clear aN X bE;go_wp2_with fail;have aJ:=λW (c:Below aw.heap.size aw W)=>qZ (λi=>((aP.q.go ak.q).go c).cell i) (aO.q W (aA ak.q c))
 refine gx 7 (λcg=>?_);refine e5 9 161 ?_;try simp only[Act.put,bj,bk,bl]
 refine h_ (l:=[_,_]) [(0,152,[]),(1,153,[0]),(2,154,[1]),(3,155,[2]),(4,156,[]),(5,157,[4]),(6,158,[3,5])] [7,8] [.eq _,.eq _,.eq _,.eq _,.eq _,.eq _,al.iS y]
  (λW=>Below aw.heap.size aw W) (qK _ _).drew ((fr)<|(fr)<|(fr)<|(fr)<|(fr)<|(fr)<|cr ?_<|fg) ?_ (λ_ _ h U=>aA h U)
 .intros;rename_i _ _ K aI;subst_vars;have m:=(show Below aw.heap.size aw _ by assumption)
  skip
  go_simp;with_reducible refine(bS.q _ (aA ak.q m)).mono ?_
  rintro e hG ⟨v,rfl,aN,aE⟩;exact aI.q _ _ aE (af.b3 aN)
 intros;rename_i W m _ _ _ _ _ _ h;subst_vars;obtain⟨e7,iP,rfl,bB,bF,bG⟩:=h;obtain⟨b7,bO,bK⟩:=aK (bJ.q e7 iP W bF bG bB) (aA ak.q m) m;clear aJ m bB bF bG cg;go_wp2_with (with_reducible refine b7.q.mono ?_);rintro e bH ⟨cx,cz,rfl,bz,aX⟩;obtain⟨bf,bL,b0⟩:=aK (aA bO.q aX) (aA bK.q aX) bz;have cq:=bf.q.size;obtain⟨ne,a4⟩:=gz E.length;have bm:=qQ (qZ a4 True.intro);rw[a4]at br |-;clear bz aX a4;go_wp2_with fail;go_loopw [9,12,161] (λs _ a9 wr=>∃k:Nat,a9=.int .i64 (k:Int)/\k<=ne/\s=.int .i64 (ad.da ((E.take k).map f))/\Below bH.heap.size bH wr) (λ_ _ a9 _=>ne-(intOf a9).toNat)
 case atStart=>exact⟨0,rfl,by omega,by simp[ad.da],qK _ _⟩
 obtain⟨k,rfl,a1,rfl,r⟩:=hrel;obtain⟨bP,N,bM⟩:=aK r (bf.q.trans (r.mono cq)) (aA bL.q r);have cE:=r.size;by_cases bw:k<ne
 .have a2:k<E.length:=by have:=bm.q.1;omega
  obtain⟨fP,ol,rfl,-,bA⟩:=b0.q.below r (by omega);obtain⟨v,co,⟨Q,cb,rfl,a7,-⟩⟩:=bA k a2;have Y:=be.q k a2;have bn:=qQ (qD a2);generalize E[k]=x at co a7 Y bn;have bq:=qQ (show x.length=op.a.length by rw[<-R.bN Y.1];exact ap.q.1);have b_:=qQ (λW (c:Below wr.heap.size wr W)=>((a7.below (c.mono r.size)).up (qJ r.size c.size)));obtain⟨S,V⟩:=gz (ad.ck a.I.length op.a x Z t);have b1:=qQ (show S.length=a.I.length by rw[<-V,ad.mu]);have b5:=qQ (λW (c:Below wr.heap.size wr W)=>by
   have bs:=D.q.trans ((aA N.q c).mono D.q.size);have X:=aA bM.q c;have h:=al.mr a.I.length K Q ca T aC cb cw aD op.a x Z t W.heap.size W (qX _) (by omega) (by omega) (by omega) (by rw[bq.q];exact qX _) (by rw[ap.q.2.1];exact qX _) (by rw[bq.q];omega) (by omega) (aQ.q W bs) (b_.q W c) ((b9.q.below X).up X.size) (b'.q W bs) ap.q.2.2.1 bh.q
   rwa [V]at h)
  rw[V]at Y;have bZ:=qQ Y.2;obtain⟨aF,a0⟩:=gz (ad.get a S);have bY:=qQ (λW (c:Below wr.heap.size wr W) F aR (h:ai.ao W W.heap.size F S)=>by
   have h:=al.hx _ a F aR S W.heap.size W (qX _) (bc.q W (aA N.q c)) ap.q.2.2.2.2 h bZ.q
   rwa [a0]at h)
  have bX:=qQ (qZ (show f x=aF by rw[bV.q,V,a0]) True.intro);obtain⟨s,az⟩:=gz (ad.da ((E.take k).map f));have bp:=qQ (show ad.da ((E.take (k+1)).map f)=IntKind.i64.wrap (s+aF) by
   rw[bn.q,zI,qE,zU,al.sH,az,al.nd,bX.q.1,IntWalk.i64_left])
  rw[az];have cF:=b2 k;have cG:(k:Int)<ne:=by omega
  clear bA a7 Y V a0 az r;go_wp2_with fail;have aJ:=λW (c:Below wr.heap.size wr W)=>qZ (λi=>((aP.q.go N.q).go c).cell i) (aO.q W (aA N.q c))
  refine aH (l:=[_]) [(0,165,[]),(1,166,[]),(2,167,[1]),(3,168,[2]),(4,169,[]),(5,170,[4]),(6,171,[5]),(7,172,[6]),(8,173,[7]),(9,174,[]),(10,175,[9]),(11,176,[]),(12,177,[]),(13,178,[]),(14,179,[8,10,11,12,13]),(15,180,[3,14]),(16,181,[0,15])] [17] [.eq _,.eq _,.eq _,.eq _,.eq _,.eq _,.eq _,.eq _,.eq _,.eq _,.eq _,.eq _,.eq _,.eq _,al.iS S,.eq (.int .i64 aF),.eq _]
   (λW=>Below wr.heap.size wr W) (qK _ _).drew ((fr)<|(fr)<|(fr)<|(fr)<|(fr)<|(fr)<|(fr)<|(fr)<|(fr)<|(fr)<|(fr)<|(fr)<|(fr)<|(fr)<|cr ?_<|cr ?_<|(fr)<|fg) ?_ (λ_ _ h U=>aA h U)
  .intros;rename_i K aI;subst_vars;have m:=(show Below wr.heap.size wr _ by assumption);go_simp;with_reducible refine(b5.q _ m).mono ?_
   rintro e hG ⟨rfl,cm,aE⟩;exact aI.q _ _ aE (af.dY cm b1.q (by omega))
  .intros;rename_i aT K aI;subst_vars;have m:=(show Below wr.heap.size wr _ by assumption);obtain⟨F,aR,rfl,cu,-⟩:=aT;go_simp;with_reducible refine(bY.q _ m F aR cu).mono ?_
   exact JQ
  intros;rename_i W m _ _ _ _ _ _ _ _ _ _ _ _ _ _ _ _ _;subst_vars;have bR:=qQ (aA bP.q m);clear aJ m;generalize IntKind.i64.wrap (s+aF)=cA at bp |-;go_wp2_with fail;go_roundw
  case rel=>exact⟨k+1,by go_num,by omega,by rw[bp.q],bR.q⟩
  case measure=>simp[intOf];omega
 have bw:ne=k:=by omega
 subst bw;have bU:=qQ (show ad.entry op [a] t n=ad.da ((E.take ne).map f) by
  rw[O.q,qT (by have:=bm.q.1;omega)])
 go_wp2_with fail;go_ret;rw[bU.q];exact⟨rfl,D.q.trans (N.q.mono D.q.size)⟩
theorem al.Ek{B aD p:Nat}(h:ai.ao w B A l)(i:l.length<=aD):ai.ao w B (if aD=p then A else Option.map (λx=>x.add p) A) (l.drop p):=by
 split
 .exact al.qa (by rw[qS];omega)
 exact al.su h p
theorem al.F2(aM:Value)(op:J.Op)(G:Option Addr)(bv:Nat)(a b:ad.ay)(T:Option Addr)(aD:Nat)(t:List Int)(n:Nat)(B:Nat)(w:World)(ah:B<=w.heap.size)(bA:af.bd w B aM op)(a9:al.bo w B G [a,b])(hi:ai.ao w B T t)(a7:t.length<=aD)(bB:t.length<=6)(a_:op.k=18)(a':ad.cO a)(aT:ad.cO b)(aP:b.I.length<=t.length)(aF:0<a.I.length)(aN:R.inside b.I (t.take b.I.length)=true/\∀r,0<=r->r<a.I.getD 0 0->R.inside a.I (r::t.drop b.I.length)=true):Calls Tryz.prog 81 #[aM,.slice G 2 bv,.slice T t.length aD,.int .i64 (n:Int)] w λe w'=>e=.returned (.int .i64 (ad.entry op [a,b] t n))/\Below w.heap.size w w':=by
 obtain⟨E,a5,a2⟩:=aK (qZ (show ad.entry op [a,b] t n=if ad.get b (t.take b.I.length)<0\/a.I.getD 0 0<=ad.get b (t.take b.I.length)then 0 else ad.get a (ad.get b (t.take b.I.length)::t.drop b.I.length) by rw[ad.tj a_];rfl) True.intro) (hi.bI ah) (a9.bI ah);obtain⟨v1,v2,v3,v4,v5,rfl,-⟩:=bA;rw[a_];obtain⟨ag,bD,aU,S,-⟩:=b8 w 58 #[.int .i64 18,v1,v2,v3,v4,v5,.int .i64 op.v];have O:=qQ S;have ap:=qQ aU;have bz:=λi=>aU.cell i
 obtain⟨fI,fM,rfl,-⟩:=a2.q ag S (by simp);have aL:=a2.q ag S;obtain⟨bG,bT,bL,bV,aX,z0,Y⟩:=al.dw aL 0 (a:=a) rfl;obtain⟨bH,aO,bM,bW,aZ,a0,aQ⟩:=al.dw aL 1 (a:=b) rfl;simp only[Nat.reduceAdd,qL,xW,qI,zF]at aX z0 aZ a0;have Q:=qQ (λW (c:Below ag.heap.size ag W)=>qZ (aX W c) (qZ (z0 W c) (qZ (aZ W c) (a0 W c))));have Z:=qQ (λW (c:Below ag.heap.size ag W)=>qZ ((Y.below c).up c.size) ((aQ.below c).up c.size));obtain⟨bN,bU,rfl,-,-⟩:=Y.parts.1 aF;obtain⟨a1,aq,ak⟩:=aK (λW (c:Below ag.heap.size ag W)=>al.kz ((Z.q W c).1.parts.1) 0 aF) (qZ a' (qZ aT aN)) (qZ (show a.I.getD 0 0=a.I[0] by simp[aF]) True.intro);obtain⟨d0,a8⟩:=gz (a.I[0]);rw[a8]at a1 ak;obtain⟨row,aR⟩:=gz (ad.get b (t.take b.I.length));rw[aR,ak.q.1]at E;obtain⟨p,hp⟩:=gz b.I.length;obtain⟨m,hm⟩:=gz t.length;have bJ:=qQ (qZ hm (qZ hp True.intro));have bn:=qQ (λW (c:Below ag.heap.size ag W)=>by
  have h:=al.hx _ b T aD (t.take b.I.length) W.heap.size W (qX _) (Z.q W c).2 aT (af.ju (a5.q W (aA O.q c)) _) aN.1
  rwa [qM,yB aP,aR,hp]at h)
 obtain⟨D,V⟩:=gz (t.drop b.I.length);have a6:=qQ (show D.length=m-p by rw[<-V,qS,hm,hp]);have bu:=qQ (λW (c:Below ag.heap.size ag W)=>show ai.ao W W.heap.size (if aD=p then T else Option.map (λx=>x.add p) T) D by
  have h:=al.Ek (p:=p) (a5.q W (aA O.q c)) a7
  rwa [<-hp,V,hp]at h)
 rw[V]at E aq;rw[hp]at Q aP;rw[hm]at a7 bB aP |-;have bO:(p:Int)<=m:=by omega
 have bP:(p:Int)<=aD:=by omega
 have bQ:=b2 p;have bR:(m:Int)<=aD:=by omega
 have bS:(0:Int)<(a.I.length:Int):=by omega
 clear a9 hi aL aU S aX z0 aZ a0 Y aQ a' aT aN a8 aR hp hm V;go_enter func81,ntmps81;go_wp2_with fail;clear bD bz;have aJ:=λW (c:Below ag.heap.size ag W)=>qZ (λi=>(ap.q.go c).cell i) (Q.q W c)
 refine aH (l:=[_,_]) [(0,220,[]),(1,221,[0]),(2,222,[1]),(3,223,[]),(4,224,[]),(5,225,[4]),(6,226,[5]),(7,227,[6]),(8,228,[7]),(9,229,[3,8])] [10,11] [.eq _,.eq _,.eq _,.eq _,.eq _,.eq _,.eq _,.eq _,.eq _,.eq _]
  (λW=>Below ag.heap.size ag W) (qK _ _).drew ((fr)<|(fr)<|(fr)<|(fr)<|(fr)<|(fr)<|(fr)<|(fr)<|(fr)<|(fr)<|fg) ?_ (λ_ _ h az=>aA h az)
 intros;rename_i W N _ _ _ _ _ _ _ _ _ _;subst_vars;have bq:=qQ (bn.q W N);have be:=qQ N;clear aJ N;go_wp2_with (with_reducible refine bq.q.mono ?_)
 first | rintro e aw rfl aG | rintro e aw ⟨rfl,aG⟩
 have j:=qQ (aA be.q aG);have c7:=qQ (O.q.trans (j.q.mono O.q.size));have g1:=λi=>(ap.q.go j.q).cell i
 have g2:=Q.q aw j.q;have g3:=a1.q aw j.q;rw[qL]at g3;clear aG;by_cases aV:row<0
 .have bE:decide (row<0)=true:=zD aV;have pw:=qQ (show ad.entry op [a,b] t n=0 by rw[E.q.1,qY (.inl aV)]);exact Xh
 have bE:decide (row<0)=false:=zN aV;by_cases aW:d0<=row
 .have bF:decide (d0<=row)=true:=zD aW;have pw:=qQ (show ad.entry op [a,b] t n=0 by rw[E.q.1,qY (.inr aW)]);exact Xh
 have bF:decide (d0<=row)=false:=zN aW;have pw:=qQ (show ad.entry op [a,b] t n=ad.get a (row::D) by rw[E.q.1,qV (by omega)]);have a3:=qQ (aq.q.2.2.2 row (by omega) (by rw[ak.q.1];omega));obtain⟨M,U⟩:=gz ([row]);have a4:=qQ (qZ U True.intro);have bs:=qQ (show M.length=1 by rw[<-U];rfl);obtain⟨P,aC⟩:=gz (row::D);have bt:=qQ (qZ (show M++D=P by rw[<-U,<-aC];rfl) True.intro);rw[aC]at pw a3;have bc:=qQ (λbg (c:Below aw.heap.size aw bg) F y (h:ai.ao bg bg.heap.size F M)=>by
  have h:=af.dK F (if aD=p then T else Option.map (λx=>x.add p) T) y (aD-p) M D bg.heap.size bg (qX _) (by rw[bs.q];omega) (by rw[a6.q];omega) h (bu.q bg (aA j.q c))
  rwa [bt.q.1,a6.q]at h)
 obtain⟨bm,bp,bh⟩:=aK (λbg (c:Below aw.heap.size aw bg) F y (h:ai.ao bg bg.heap.size F P)=>al.hx _ a F y P bg.heap.size bg (qX _) (Z.q bg (aA j.q c)).1 aq.q.1 h a3.q) (ap.q.go j.q) (λbg (c:Below aw.heap.size aw bg)=>Q.q bg (aA j.q c));clear U aC;go_wp2_with fail;clear g1 g2 g3;have aJ:=λbg (c:Below aw.heap.size aw bg)=>qZ (λi=>(bp.q.go c).cell i) (bh.q bg c)
 refine aH (l:=[_,_]) [(0,243,[]),(1,244,[0]),(2,245,[1]),(3,246,[]),(4,247,[3]),(5,248,[]),(6,249,[]),(7,250,[6]),(8,251,[7]),(9,252,[8]),(10,253,[9]),(11,254,[5,10]),(12,255,[4,11])] [13,14] [.eq _,.eq _,.eq _,.eq _,al.iS M,.eq _,.eq _,.eq _,.eq _,.eq _,.eq _,.eq _,al.iS P]
  (λW=>Below aw.heap.size aw W) (qK _ _).drew ((fr)<|(fr)<|(fr)<|(fr)<|cr ?_<|(fr)<|(fr)<|(fr)<|(fr)<|(fr)<|(fr)<|(fr)<|cr ?_<|fg) ?_ (λ_ _ h az=>aA h az)
 .intros;rename_i K aI;subst_vars;go_simp;exact aI.q _ _ ((qK _ _).alloc (qX _) _) (af.dY (n:=1) (by rw[<-a4.q.1];exact av.new _ _ _) (by rw[<-a4.q.1];rfl) (by omega))
 .intros;rename_i bw _ K aI;subst_vars;have N:=(show Below aw.heap.size aw _ by assumption);obtain⟨F,y,rfl,X,-⟩:=bw;go_simp;with_reducible refine(bc.q _ N F y X).mono ?_
  exact Xd
 intros;rename_i W2 aB _ _ _ _ _ _ _ _ _ _ _ _ h;subst_vars;obtain⟨F,y,rfl,X,-⟩:=h;have br:=qQ (bm.q W2 aB F y X);have bf:=qQ (aA c7.q aB);generalize (if aD=p then T else Option.map (λx=>x.add p) T)=bK;clear aJ aB X;go_wp2_with (with_reducible refine br.q.mono ?_)
 first | rintro e hG rfl aE | rintro e hG ⟨rfl,aE⟩
 have bb:=qQ (aA bf.q aE);clear aE;go_wp2_with fail;go_ret;rw[pw.q];exact⟨rfl,bb.q⟩
end Go.Proofs.YtabmnaaidfpmcaaGreatDoor
end
section
namespace LC
open R (size prod idx dR ef inside pick c1)
open ad (all da)
end LC
end
section
namespace ad
open J (Op Node bh aq free bG)
open R (size prod idx dR ef inside pick c1)
theorem pS(t l:List Int){j:Nat}(i:j<l.length):(aq t l).getD j 0=t.getD (l.getD j 0).toNat 0:=by
 unfold J.aq;rw[qU,jT,qU (l:=l),qC i];rfl
section
variable {n:Nat} {a f v v2:List Int}
structure dF (n:Nat) (a f:List Int):Prop where
 dm:∀k∈a,0<=k/\k<(n:Int)
 a2:a.Nodup
 f1:∀k,k∈f↔(0<=k/\k<(n:Int))/\k∉a
 f2:f.Nodup
theorem na(h:bG a d.length=true):dF d.length a (free d a):=⟨(ih h).1,(ih h).2,(eF d a).1,(eF d a).2⟩
theorem F5(h:l.length=m.length)(q:∀j,j<l.length->l.getD j 0=m.getD j 0):l=m:=by
 refine jP h (λj i r=>?_);have:=q j i;rw[qU,qU,qC i,qC r]at this;exact this
theorem Ak(h:dF n a f):(a++f).Perm (c1 n):=by
 refine(List.perm_ext_iff_of_nodup ?_ (R.mY n)).2 λk=>?_
 .rw[uB];exact⟨h.a2,h.f2,λx j y m e=>((h.f1 y).1 m).2 (e▸j)⟩
 rw[vR,R.fu,h.f1];constructor
 .rintro(i | i)
  .exact h.dm k i
  exact i.1
 intro i;by_cases hm:k∈a
 .exact .inl hm
 exact .inr ⟨i,hm⟩
theorem yh(d:List Int):aq d (c1 d.length)=d:=by
 refine F5 (by rw[J.aW,R.fi]) λj i=>?_
 rw[J.aW]at i;have m:j<d.length:=by rw[R.fi]at i;exact i
 rw[pS _ _ i]
 congr 1
 unfold R.c1;rw[qU];simp[m]
theorem EX(h:l.Perm m):prod l=prod m:=by
 induction h with
 | nil=>rfl
 | cons a _ i=>show a*prod _=a*prod _;rw[i]
 | swap a b l=>show b*(a*prod l)=a*(b*prod l);rw[<-jH,<-jH,xT b a]
 | trans _ _ j q=>rw[j,q]
theorem Az(h:dF d.length a f):(aq d a++aq d f).Perm d:=by
 have:=(Ak h).map (pick d);rw[zI]at this;have e:(c1 d.length).map (pick d)=d:=yh d;rw[e]at this;exact this
theorem rL(h:dF d.length a f)(ar:(size d).2=0)(r:∀x∈aq d f,1<=x):(size (aq d a)).2=0:=by
 obtain⟨I,z2,z3,z4,z5⟩:=R.aB ar;have hp:=Az h;have E:(aq d a).length+(aq d f).length=d.length:=by rw[<-qW,hp.length_eq]
 have hm:∀x∈aq d a,0<=x/\x<=4096:=λx i=>z2 x (hp.mem_iff.1 (jR _ i))
 have m:(aq d a).any R.bad=false:=by
  rw[List.any_eq_false];intro x i;have:=hm x i;unfold R.bad;simp;omega
 by_cases j:(0:Int)∈aq d a
 .rw[R.lX (by omega) m j]
 have y:∀x∈aq d a,1<=x:=λx i=>by
   have:=hm x i;have:x≠0:=λe=>j (e▸i)
   omega
 have e:=EX hp;rw[R.prod_append]at e;have B:=R.eu _ y;have q:=R.eu _ r;have D:prod (aq d a)*1<=prod (aq d a)*prod (aq d f):=jK q (by omega);rw[R.rk (by omega) m j (by omega)]
end
end ad
end
section
namespace ad
open J (Op Node bh aq free bG)
open R (size prod idx dR ef inside pick c1)
theorem Cz(az:(size out).2=0)(i:inside out t=true):t.length<=6/\∀x∈t,0<=x/\x<=4096:=by
 obtain⟨B,z2,-⟩:=R.aB az;have y:=R.bN i;refine⟨by omega,λx m=>?_⟩;obtain⟨k,j,rfl⟩:=zQ m;have q:=R.lM i k (by omega) j;have r:=z2 _ (qP (show k<out.length by omega));omega
theorem rl{a f:List Int}(h:dF n a f):a.length+f.length=n:=by
 have:=(Ak h).length_eq
 rwa [qW,R.fi]at this
theorem vn{op:Op}{ds:List (List Int)}(m:op.k=3\/op.k=4\/op.k=5\/op.k=6\/op.k=7\/op.k=8)(ar:J.I op ds=(out,0)):∀d∈ds,d=out:=by
 obtain⟨-,i,-⟩:=ae.cv ar;unfold J.aP at i;rw[qV (by omega),qY m]at i;split at i
 .rename_i j;simp only[vJ,xD]at i;intro d hm;have:=List.all_eq_true.1 j d hm;rw[xG this,i]
 simp at i
theorem A1{op:Op}(q:op.k=12)(ar:J.I op [d]=(out,0)):(size d).1=(size out).1:=by
 obtain⟨-,i,-⟩:=ae.cv ar;unfold J.aP at i;rw[qV (by omega),qV (by omega),qV (by omega),qY q]at i;simp only[xX]at i;split at i
 .rename_i j;simp only[vJ]at i;exact absurd i.2 j
 split at i
 .simp at i
 rename_i m;simp only[vJ,xD]at i;rw[<-i];exact Classical.not_not.1 m
theorem G2{op:Op}(q:op.k=10)(ar:J.I op [d]=(out,0))(az:(size d).2=0)(m:inside out t=true):(∀x∈op.a,0<=x/\x<(d.length:Int))/\op.a.length<=d.length/\(size (aq d op.a)).2=0/\t.length=(free d op.a).length:=by
 obtain⟨-,i,-⟩:=ae.cv ar;unfold J.aP at i;rw[qV (by omega),qV (by omega),qY q]at i;simp only[xX]at i;split at i
 .rename_i r;simp only[vJ,xD]at i;have j:=na (d:=d) (lW r);have y:=rl j;rw[<-i]at m;exact⟨j.dm,by omega,rL j az (R.ml m),by rw[<-R.bN m,J.aW]⟩
 simp at i
theorem EH(h:bG (l++m) n=true):bG l n=true:=by
 obtain⟨i,j⟩:=ih h;unfold bG;rw[qB,qO];exact⟨List.all_eq_true.2 λx q=>by simpa using i x (jR _ q),(List.nodup_append.1 j).1⟩
theorem FT{op:Op}(j:op.k=16)(ar:J.I op [d,e]=(out,0))(az:(size d).2=0)(m:inside out t=true):op.a.length=op.s.length/\op.l.length=op.h.length/\(∀x∈op.a++op.l,0<=x/\x<(d.length:Int))/\(∀x∈op.s++op.h,0<=x/\x<(e.length:Int))/\(op.a++op.l).length<=d.length/\(op.s++op.h).length<=e.length/\(size (aq d op.a)).2=0/\t.length=op.l.length+(free d (op.a++op.l)).length+(free e (op.s++op.h)).length:=by
 obtain⟨-,i,-⟩:=ae.cv ar;unfold J.aP at i;rw[qV (by omega),qV (by omega),qV (by omega),qV (by omega),qV (by omega),qY j]at i;simp only[xX,jJ]at i;unfold J.dA at i;split at i
 .simp at i
 rename_i aO;split at i
 .simp at i
 rename_i bz;split at i
 .simp at i
 rename_i y;simp only[not_or,vY,uF]at aO bz y;simp only[vJ,xD]at i;have t1:=na (d:=d) bz.1;have t2:=na (d:=e) bz.2;have cW:=rl t1;have cX:=rl t2;rw[<-i]at m;have hp:=R.ml m;refine⟨aO.1,aO.2,t1.dm,t2.dm,by omega,by omega,rL (na (d:=d) (EH bz.1)) az (λx B=>?_),?_⟩
 .obtain⟨k,j,rfl⟩:=List.mem_map.1 B;have q:=((eF d op.a).1 k).1 j;by_cases r:k∈op.l
  .exact hp _ (jR _ (jR _ (List.mem_map.2 ⟨k,r,rfl⟩)))
  exact hp _ (jR _ (yM _ (List.mem_map.2 ⟨k,((eF d (op.a++op.l)).1 k).2 ⟨q.1,λhm=>(List.mem_append.1 hm).elim q.2 r⟩,rfl⟩)))
 rw[<-R.bN m,qW,qW,J.aW,J.aW,J.aW]
theorem Gz{op:Op}(j:op.k=14)(ar:J.I op [d]=(out,0))(B:inside out t=true):op.l.length=t.length/\op.s.length=t.length/\d.length=t.length/\(∀x∈op.l,0<=x/\x<=4096)/\∀x∈op.s,1<=x/\x<=4096:=by
 obtain⟨-,i,-⟩:=ae.cv ar;unfold J.aP at i;rw[qV (by omega),qV (by omega),qV (by omega),qV (by omega),qY j]at i;simp only[xX]at i;unfold J.cQ at i;split at i
 .simp at i
 rename_i y;simp only[not_or,vY]at y;split at i
 .rename_i r;simp only[vJ,xD]at i;have m:=R.bN B;rw[<-i]at m;simp only[zJ,vU]at m;have ah:∀k,k<d.length->J.ft (op.l.getD k 0) (op.h.getD k 0) (op.s.getD k 0)=true:=λk j=>List.all_eq_true.1 r k (List.mem_range.2 j)
  refine⟨by omega,by omega,m,λx q=>?_,λx q=>?_⟩
  .obtain⟨k,j,rfl⟩:=zQ q;have:=ah k (by omega);unfold J.ft at this;simp only[qB,xZ]at this;rw[qU,qC j,yT]at this;omega
  obtain⟨k,j,rfl⟩:=zQ q;have:=ah k (by omega);unfold J.ft at this;simp only[qB,xZ]at this;rw[qU (l:=op.s),qC j,yT]at this;omega
 simp at i
theorem Fo{op:Op}(j:op.k=18)(ar:J.I op [d,e]=(out,0))(q:inside out t=true):0<d.length/\e.length<=t.length:=by
 obtain⟨-,i,-⟩:=ae.cv ar;unfold J.aP at i;rw[j]at i;simp at i;cases d with
 | nil=>simp at i
 | cons a d =>
  simp at i;have m:=R.bN q;rw[<-i,qW]at m;exact⟨by simp,by omega⟩
theorem GF{op:Op}(m:op.k=19)(ar:J.I op [d,e]=(out,0))(r:inside out t=true):0<t.length:=by
 obtain⟨-,i,-⟩:=ae.cv ar;unfold J.aP at i;rw[m]at i;simp at i;by_cases j:¬op.I.length=1\/d.length<e.length\/¬d.take e.length=e
 .rw[qY j]at i;simp at i
 rw[qV j]at i;simp at i;simp only[not_or,vY]at j;have q:=R.bN r;rw[<-i,qW,j.1]at q;omega
theorem nN{op:Op}(M:op.k=9\/op.k=11\/op.k=13\/op.k=15)(ar:J.I op [d]=(out,0))(az:(size d).2=0)(O:inside out t=true):(op.k=9->op.a.length=d.length/\∀j∈op.a,0<=j/\j<(t.length:Int))/\(op.k=11->op.a.length=t.length/\∀j∈op.a,0<=j/\j<(d.length:Int))/\(op.k=13->d.length=t.length/\op.l.length=t.length/\op.s.length=t.length/\(∀x∈op.l,0<=x/\x<=4096)/\∀x∈op.s,0<=x/\x<=4096)/\(op.k=15->d.length=t.length/\op.a.length<=d.length):=by
 obtain⟨S,D,-⟩:=ae.cv ar;have N:J.aP op [d]=((J.looked op d).1.I,(J.looked op d).2):=by
  unfold J.aP;rcases M with k | k | k | k<;>simp[k]
 rw[N]at D;simp only[vJ]at D;obtain⟨i,bE⟩:=D;have hw:(R.whole d)=(⟨0,d,R.steps d⟩,0):=by unfold R.whole;rw[qV (by simp[az])]
 have y:=R.lu az;have r:=R.bN O;obtain⟨Y,z2,-⟩:=R.aB az;unfold J.looked at i bE;rw[qV (by simp[az]),hw]at i bE;dsimp only at i bE;rcases M with k | k | k | k
 .refine⟨λ_=>?_,λh=>by omega,λh=>by omega,λh=>by omega⟩;simp only[k,if_true]at i bE;unfold R.spread at i bE;rw[qV (by simp[y])]at i bE;by_cases z:(size op.I).2≠0
  .rw[qY z]at bE;exact absurd bE z
  rw[qV z]at i bE;by_cases c:op.a.length≠d.length\/R.cB op.I.length op.a=false
  .rw[qY c]at bE;simp at bE
  rw[qV c]at i bE;by_cases q:R.o0 ⟨0,d,R.steps d⟩ op.I op.a=true
  .rw[qY q]at i;dsimp only at i;subst i;simp only[not_or,vY,uF]at c;exact⟨c.1,λj m=>by have:=(ih (lW c.2)).1 j m;omega⟩
  exact JX
 .refine⟨λh=>by omega,λ_=>?_,λh=>by omega,λh=>by omega⟩;simp only[k,show ¬((11:Int)=9) by omega,uX,if_true]at i bE;unfold R.turn at i bE;rw[qV (by simp[y])]at i bE;by_cases q:R.eV d.length op.a=true
  .rw[qY q]at i;dsimp only at i;obtain⟨V,W,Q,X⟩:=R.iR q;have U:out.length=op.a.length:=by rw[<-i];simp
   exact⟨by omega,Q⟩
  exact JX
 .refine⟨λh=>by omega,λh=>by omega,λ_=>?_,λh=>by omega⟩;simp only[k,show ¬((13:Int)=9) by omega,show ¬((13:Int)=11) by omega,uX,if_true]at i bE;unfold R.cut at i bE;rw[qV (by simp[y])]at i bE;by_cases c:op.l.length≠d.length\/op.h.length≠d.length\/op.s.length≠d.length
  .rw[qY c]at bE;simp at bE
  rw[qV c]at i bE;by_cases q:R.iN ⟨0,d,R.steps d⟩ op.l op.h op.s=true
  .rw[qY q]at i bE;have B:=nD (v:=⟨R.eB ⟨0,d,R.steps d⟩ op.l d.length,R.cP ⟨0,d,R.steps d⟩ op.l op.h op.s,R.cE ⟨0,d,R.steps d⟩ op.s⟩) (uJ rfl bE);rw[B]at i;dsimp only at i;subst i;rw[R.dU]at r;dsimp only at r;simp only[not_or,vY]at c;have ah:∀j,j<d.length->0<=op.l.getD j 0/\op.l.getD j 0<=4096/\1<=op.s.getD j 0/\op.s.getD j 0<=4096:=λj m=>by
    have aO:=R.hU.1 (R.nY q m);dsimp only at aO;have:=z2 _ (qP m);rw[qU (l:=d),qC m,yT]at aO;omega
   refine⟨r,by omega,by omega,λx E=>?_,λx E=>?_⟩
   .obtain⟨j,m,rfl⟩:=zQ E;have:=ah j (by omega);rw[qU,qC m,yT]at this;omega
   obtain⟨j,m,rfl⟩:=zQ E;have:=ah j (by omega);rw[qU (l:=op.s),qC m,yT]at this;omega
  exact JX
 refine⟨λh=>by omega,λh=>by omega,λh=>by omega,λ_=>?_⟩;simp only[k,show ¬((15:Int)=9) by omega,show ¬((15:Int)=11) by omega,show ¬((15:Int)=13) by omega,uX]at i bE;unfold R.flip at i bE;rw[qV (by simp[y])]at i bE;by_cases q:R.cB d.length op.a=true
 .rw[qY q]at i bE;have B:=nD (v:=⟨R.dH ⟨0,d,R.steps d⟩ op.a d.length,d,R.bW ⟨0,d,R.steps d⟩ op.a d.length⟩) (uJ rfl bE);rw[B]at i;dsimp only at i;subst i;have:=rl (na (d:=d) (lW q));exact⟨r,by omega⟩
 exact JX
end ad
end
