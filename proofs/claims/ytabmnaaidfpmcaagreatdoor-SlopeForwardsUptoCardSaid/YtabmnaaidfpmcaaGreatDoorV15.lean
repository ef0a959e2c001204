/-
  ArrK, ArrF, ArrM, ArrDims. Conditions: where the theorems name them.
-/
import Derived.Test.YtabmnaaidfpmcaaGreatDoorV14
import Derived.Laws.EntriesVeiled
set_option linter.unusedVariables false
set_option maxRecDepth 100000
set_option maxHeartbeats 16000000
open Go.Proofs.Tryz
variable {l:List Int}{xs:List Go.Value}{b base k n:Nat}{bm:Prop}{e:Go.TypeId}{v:Go.Value}{w:Go.World}
section
namespace Go.Proofs.YtabmnaaidfpmcaaGreatDoor
open Go.RowKit aS
theorem af.DP(val:Value)(op:J.Op)(A:Option Addr)(cap:Nat)(args:List (List Int))(B:Nat)(w:World)(ah:B<=w.heap.size)(a4:af.cJ op)(aX:0<args.length)(a2:args.length<=8388608)(aT:args.length<=cap)(aU:cap<=9223372036854775807)(aH:af.bd w B val op)(aE:af.bu w B A args)(aG:op.k=17):Calls Tryz.prog 90 #[val,.slice A args.length cap] w λe w'=>af.gF w w' (J.I op args) e:=by
 have Z:=qQ (aH.bI ah);have X:=qQ (aE.bI ah);obtain⟨v1,v2,v3,v4,v5,rfl,⟨D,cD,rfl,aJ,aL,a5⟩,⟨T,aD,rfl,it,lt,mt⟩,⟨O,co,rfl,io,lo,a7⟩,⟨b1,ci,rfl,ii,li,a6⟩,⟨S,cs,rfl,is,ls,ms⟩⟩:=aH;obtain⟨aN,i,r⟩:=aK (λW (j:Below w.heap.size w W)=>qZ ((aJ.below (j.mono ah)).up (qJ ah j.size)) (qZ ((it.below (j.mono ah)).up (qJ ah j.size)) (qZ ((io.below (j.mono ah)).up (qJ ah j.size)) (qZ ((ii.below (j.mono ah)).up (qJ ah j.size)) ((is.below (j.mono ah)).up (qJ ah j.size)))))) (av.new w 58 #[.int .i64 op.k,.slice D op.I.length cD,.slice T op.a.length aD,.slice O op.l.length co,.slice b1 op.h.length ci,.slice S op.s.length cs,.int .i64 op.v]) ((qK w.heap.size w).alloc (qX _) (.cells #[.int .i64 op.k,.slice D op.I.length cD,.slice T op.a.length aD,.slice O op.l.length co,.slice b1 op.h.length ci,.slice S op.s.length cs,.int .i64 op.v] 58));have aI:(w.alloc (.cells #[.int .i64 op.k,.slice D op.I.length cD,.slice T op.a.length aD,.slice O op.l.length co,.slice b1 op.h.length ci,.slice S op.s.length cs,.int .i64 op.v] 58)).heap.size=w.heap.size+1:=by simp
 obtain⟨ak,V⟩:=gz (w.alloc (.cells #[.int .i64 op.k,.slice D op.I.length cD,.slice T op.a.length aD,.slice O op.l.length co,.slice b1 op.h.length ci,.slice S op.s.length cs,.int .i64 op.v] 58));rw[V]at i r aI;obtain⟨N,aO,e0,fv⟩:=cV (af.fK _ op _ cap args ak.heap.size ak (qX _) (by first | omega | simp) (Z.q ak r.q) (X.q ak r.q)) (show op.I.length<=cD/\op.a.length<=aD/\op.l.length<=co/\op.h.length<=ci/\op.s.length<=cs from⟨aL,lt,lo,li,ls⟩) (λh=>aj.fz (op:=op) (args:=args) h) (λh=>aj.fA (op:=op) (args:=args) h);clear aJ it io ii is aL lt lo li ls aE
 skip
 rw[aG]at i N Z V |-;have b0:ak.cell? ⟨w.heap.size,0,none⟩=some (.int .i64 17):=i.q.cell 0;have aQ:ak.cell? ⟨w.heap.size,1,none⟩=some (.slice D op.I.length cD):=i.q.cell 1;have aR:ak.cell? ⟨w.heap.size,2,none⟩=some (.slice T op.a.length aD):=i.q.cell 2;have bA:ak.cell? ⟨w.heap.size,3,none⟩=some (.slice O op.l.length co):=i.q.cell 3;have cq:ak.cell? ⟨w.heap.size,4,none⟩=some (.slice b1 op.h.length ci):=i.q.cell 4;have eC:ak.cell? ⟨w.heap.size,5,none⟩=some (.slice S op.s.length cs):=i.q.cell 5;have e2:ak.cell? ⟨w.heap.size,6,none⟩=some (.int .i64 op.v):=i.q.cell 6;go_enter func90,ntmps90;go_wp2_with fail
 ((with_reducible refine N.q.mono ?_);rintro e ag ⟨rfl,y⟩)
 have bU:=qQ (aA r.q y);have m:=qQ (i.q.below y i.q.lt);have a3:w.heap.size+1<=ag.heap.size:=by rw[<-aI];exact y.size
 clear y N V b0 aQ aR bA cq eC e2;by_cases eG:aj.cf op args≠0
 .exact ZV
 have E:aj.cf op args=0:=by omega
 have ao:=qQ (e0.q E);have aq:=qQ (fv.q E);rw[E];have a8:ag.cell? ⟨w.heap.size,0,none⟩=some (.int .i64 17):=m.q.cell 0;have a9:ag.cell? ⟨w.heap.size,1,none⟩=some (.slice D op.I.length cD):=m.q.cell 1;have b':ag.cell? ⟨w.heap.size,2,none⟩=some (.slice T op.a.length aD):=m.q.cell 2;have ca:ag.cell? ⟨w.heap.size,3,none⟩=some (.slice O op.l.length co):=m.q.cell 3;have cl:ag.cell? ⟨w.heap.size,4,none⟩=some (.slice b1 op.h.length ci):=m.q.cell 4;have ct:ag.cell? ⟨w.heap.size,5,none⟩=some (.slice S op.s.length cs):=m.q.cell 5;have c3:ag.cell? ⟨w.heap.size,6,none⟩=some (.int .i64 op.v):=m.q.cell 6;clear eG E e0 fv;have Q:=qQ (show J.aP op args=J.bQ op args by unfold J.aP;simp[aG]);have M:=qQ (af.CA op T A aD cap args ag.heap.size ag (qX _) (by have:=aO.q;omega) aX (by omega) aT aU (λd ar=>⟨(R.aB (aq.q d ar)).1,(R.aB (aq.q d ar)).2.1⟩) (aN.q ag bU.q).2.1 (X.q ag bU.q));obtain⟨⟨l,x⟩,az⟩:∃bm,J.bQ op args=bm:=⟨_,rfl⟩;rw[az]at M Q;dsimp only at M;clear az;have Y:=qQ bU.q;go_wp2_with fail
 ((with_reducible refine M.q.mono ?_);rintro e aC ⟨v,rfl,U,aF⟩)
 have eN:=qQ (aA Y.q aF);have iz:=qQ (show af.dZ w.heap.size aC v l from⟨U.1,λh g aW=>qJ Y.q.size (U.2 h g aW)⟩);obtain⟨⟨bt,bz,rfl,i2,cX,m2⟩,aV⟩:=U;clear aF aV;have a1:l.length<=9223372036854775807:=by omega
 by_cases he:x=0
 .subst he;have ap:=qQ (show J.I op args=aj.tail (l,0)from by rw[ao.q,Q.q]);have gH:=qQ (er bt bz l aC.heap.size aC (by omega) i2);by_cases eU:(R.size l).2≠0
  .have aZ:((R.size l).2 != 0)=true:=by simpa using eU
   have br:=qQ (show J.I op args=([],(R.size l).2) by rw[ap.q];exact aj.gl eU);exact ZI
  have aZ:((R.size l).2 != 0)=false:=by simpa using eU
  have br:=qQ (show J.I op args=(l,0) by rw[ap.q];exact aj.ir (by omega));have a0:(R.size l).2=0:=by omega
  exact Zz
 have hq:(x != 0)=true:=by simpa using he
 have br:=qQ (show J.I op args=([],x) by rw[ao.q,Q.q];exact aj.m' he);clear he;go_wp2_with fail
 go_ret2
 rw[br.q];exact⟨⟨_,rfl,af.dZ.nil _ _⟩,eN.q⟩
theorem af.lF(val:Value)(op:J.Op)(A:Option Addr)(cap:Nat)(d:List Int)(B:Nat)(w:World)(ah:B<=w.heap.size)(b9:af.cJ op)(b3:1<=cap)(b6:cap<=9223372036854775807)(bh:af.bd w B val op)(aG:af.bu w B A [d])(K:Int)(bG:K=9\/K=11\/K=12\/K=13\/K=15)(bJ:op.k=K):Calls Tryz.prog 90 #[val,.slice A 1 cap] w λe w'=>af.gF w w' (J.I op [d]) e:=by
 rcases bG with rfl | rfl | rfl | rfl | rfl
 all_goals
  have bH:=aG;obtain⟨b,off,rfl,bZ,be⟩:=bH (by simp);obtain⟨v0,U,a0,bT,rfl,i0,bq,m0⟩:=be 0 (by simp);rw[qL]at U;simp only[zY]at U i0 bq;have bx:=qQ i0;have b2:b<w.heap.size:=by omega
  clear be i0;have ao:=qQ (bh.bI ah);have bv:=qQ (aG.bI ah);obtain⟨v1,v2,v3,v4,v5,rfl,⟨D,cD,rfl,tu,bs,b_⟩,⟨T,aD,rfl,it,lt,mt⟩,⟨O,co,rfl,io,lo,cj⟩,⟨b1,ci,rfl,ii,li,cg⟩,⟨S,cs,rfl,is,ls,ms⟩⟩:=bh;refine JC ?_;intro mh cd bp hv ak cI;rw[cI]at cd bp hv;obtain⟨cb,bW,e0,fv⟩:=cV (af.fK _ op _ cap [d] ak.heap.size ak (qX _) (by first | omega | simp) (ao.q ak bp.q) (bv.q ak bp.q)) (show op.I.length<=cD/\op.a.length<=aD/\op.l.length<=co/\op.h.length<=ci/\op.s.length<=cs from⟨bs,lt,lo,li,ls⟩) (λh=>aj.fz (op:=op) (args:=[d]) h) (λh=>aj.fA (op:=op) (args:=[d]) h);clear tu it io ii is bs lt lo li ls aG;simp only[qH,zM,qI]at cb;rw[bJ]at cd cb ao cI |-;have b0:ak.cell? ⟨w.heap.size,0,none⟩=some (.int .i64 _):=cd.q.cell 0;refine JA ?_;intro eT dT bA cq eC e2;go_wp2_with fail;refine VP ?_;intro ag bU fZ fm;clear cb cI b0 eT dT bA cq eC e2;by_cases eG:aj.cf op [d]≠0
  .have br:=qQ (aj.hV eG);have hq:(aj.cf op [d] != 0)=true:=by simpa using eG
   generalize aj.cf op [d]=f at hq br eG;exact XH
  have V:aj.cf op [d]=0:=by omega
  have a9:=qQ (e0.q V);have bE:=qQ (fv.q V);rw[V];have bR:ag.cell? ⟨w.heap.size,0,none⟩=some (.int .i64 _):=fZ.q.cell 0;refine JI ?_;intro fp b' ca cl ct c3;clear eG V e0 fv;have aL:=bE.q d (by simp);obtain⟨b7,bf,_⟩:=R.aB aL;have bS:=qQ bf;have bF:=qQ aL;have ap:=(bU.q.cell (p:=⟨b,off,none⟩) (by show b<w.heap.size;omega)).trans U;have i1:(0:Int)<1:=by omega
  clear U aL bf;have N:=qQ (aj.Ex op d (by omega) bF.q);obtain⟨bm,aF⟩:=gz (aj.ff op d);rw[aF]at N;have a1:=av.new ag 159 #[.int .i64 0,.slice none 0 0,.slice none 0 0];have m:=fZ.q.alloc (.cells #[.int .i64 0,.slice none 0 0,.slice none 0 0] 159);have a2:=qQ (bU.q.alloc (by omega) (.cells #[.int .i64 0,.slice none 0 0,.slice none 0 0] 159));have aq:=(kW ag (.cells #[.int .i64 0,.slice none 0 0,.slice none 0 0] 159) ⟨b,off,none⟩ (xp ap)).trans ap;have aI:(ag.alloc (.cells #[.int .i64 0,.slice none 0 0,.slice none 0 0] 159)).heap.size=ag.heap.size+1:=by simp
  have aR:(ag.alloc (.cells #[.int .i64 0,.slice none 0 0,.slice none 0 0] 159)).cell? ⟨w.heap.size,0,none⟩=some (.int .i64 _):=m.cell 0;have aT:(ag.alloc (.cells #[.int .i64 0,.slice none 0 0,.slice none 0 0] 159)).cell? ⟨w.heap.size,1,none⟩=some (.slice D op.I.length cD):=m.cell 1;have aU:(ag.alloc (.cells #[.int .i64 0,.slice none 0 0,.slice none 0 0] 159)).cell? ⟨w.heap.size,2,none⟩=some (.slice T op.a.length aD):=m.cell 2;have aV:(ag.alloc (.cells #[.int .i64 0,.slice none 0 0,.slice none 0 0] 159)).cell? ⟨w.heap.size,3,none⟩=some (.slice O op.l.length co):=m.cell 3;have aW:(ag.alloc (.cells #[.int .i64 0,.slice none 0 0,.slice none 0 0] 159)).cell? ⟨w.heap.size,4,none⟩=some (.slice b1 op.h.length ci):=m.cell 4;have aX:(ag.alloc (.cells #[.int .i64 0,.slice none 0 0,.slice none 0 0] 159)).cell? ⟨w.heap.size,5,none⟩=some (.slice S op.s.length cs):=m.cell 5;have aZ:(ag.alloc (.cells #[.int .i64 0,.slice none 0 0,.slice none 0 0] 159)).cell? ⟨w.heap.size,6,none⟩=some (.int .i64 op.v):=m.cell 6;have Y:=qQ a1;obtain⟨aO,aJ⟩:=gz (ag.alloc (.cells #[.int .i64 0,.slice none 0 0,.slice none 0 0] 159));obtain⟨P,aC⟩:=gz ag.heap.size;rw[aJ]at Y a2 aq aI aR aT aU aV aW aX aZ;rw[aC]at Y aI fm;have bD:=qQ aJ;have bz:=qQ aC;clear m a1 aJ aC ap;go_wp2_with fail;simp only[bD.q,bz.q];refine fk (λw'=>w'.cell? ⟨w.heap.size,0,none⟩=some (.int .i64 _)/\w'.cell? ⟨w.heap.size,1,none⟩=some (.slice D op.I.length cD)/\w'.cell? ⟨w.heap.size,2,none⟩=some (.slice T op.a.length aD)/\w'.cell? ⟨w.heap.size,3,none⟩=some (.slice O op.l.length co)/\w'.cell? ⟨w.heap.size,4,none⟩=some (.slice b1 op.h.length ci)/\w'.cell? ⟨w.heap.size,5,none⟩=some (.slice S op.s.length cs)/\w'.cell? ⟨w.heap.size,6,none⟩=some (.int .i64 op.v)/\w'.cell? ⟨b,off,none⟩=some (.slice a0 d.length bT)) 4 10 (⟨aR,aT,aU,aV,aW,aX,aZ,aq⟩) (λaz=>?_);simp only[qF,qG];refine bX [] 0 25 ?_;refine bX [2,3] 1 26 ?_;refine bX [3] 2 27 ?_;refine bX [] 3 28 ?_;try simp only[Act.put,bj,bk,bl]
  have M:=qQ (show Below w.heap.size w aO.drew from a2.q.drew);have Z:=qQ Y.q.drew;have bL:aO.drew.heap.size=P+1:=aI;clear az bR fp b' ca cl ct c3 aR aT aU aV aW aX aZ aq;generalize aO.drew=aQ at M Z bL |-;have a3:=qQ (af.sy _ op a0 bT d aQ.heap.size aQ (qX _) (ao.q aQ M.q) ((bx.q.below (M.q.mono ah)).up (qJ ah M.q.size)) bq m0);rw[aF]at a3;clear aF;refine eh 4 (by kernel_rfl) (dq rfl rfl (by kernel_rfl) (λK a'=>?_));go_simp
  ((with_reducible refine a3.q.mono ?_);rintro e aw ⟨⟨cr,rfl,bM,bc⟩,aH⟩)
  obtain⟨i,j,r,E,rfl,bo,bN,bt,bP,bO,bQ⟩:=bM;have bg:=(bc _ _ _ _ _ _ _ rfl).1;obtain⟨X,a5,y,bw⟩:=cV bg bo (Z.q.below aH Z.q.lt) (aA M.q aH);have b8:P<aw.heap.size:=y.q.lt;clear bo bN bO bQ bc bg aH;try go_simp
  refine a'.q _ _ trivial (λaz=>?_);clear a' K;try simp only[bj,bk,bl]
  refine mw 5 24 ?_;refine mw 6 30 ?_;refine mw 7 31 ?_;try simp only[Act.put,bj,bk,bl]
  have cm:aw.cell? ⟨P,0,none⟩=some (.int .i64 0):=y.q.cell 0;have cn:aw.cell? ⟨P,1,none⟩=some (.slice none 0 0):=y.q.cell 1;have cp:aw.cell? ⟨P,2,none⟩=some (.slice none 0 0):=y.q.cell 2;have f0:=y.q.frozen 0;have f1:=y.q.frozen 1;have f2:=y.q.frozen 2;have a6:=qQ (show bm.2=0->J.aP op [d]=(bm.1.I,0)from λh=>uJ (N.q.2 h).symm (N.q.1.symm.trans h));have a7:=qQ (show bm.2≠0->J.I op [d]=([],bm.2)from λh=>by rw[a9.q,aj.m' (by rw[<-N.q.1];exact h),N.q.1]);obtain⟨⟨st,l,ss⟩,x⟩:=bm;dsimp only at a6 a7 a5 X bt |-;obtain⟨gB,bn⟩:=gz ss.length;rw[bn];clear bn;have Ds:=qQ (ai.three bw.q (show w.heap.size<=P by omega) (.int .i64 st) (.slice i l.length j) (.slice r gB E));have a4:=qQ ((a5.q.hj (c:=P) (λb off e hp=>by have:=X.q b off e hp;omega) (.int .i64 st) (.slice i l.length j) (.slice r gB E)).up (show aw.heap.size<=(((aw.setCell ⟨P,0,none⟩ (.int .i64 st)).setCell ⟨P,1,none⟩ (.slice i l.length j)).setCell ⟨P,2,none⟩ (.slice r gB E)).heap.size by simp));have bB:=qQ (show af.aN (((aw.setCell ⟨P,0,none⟩ (.int .i64 st)).setCell ⟨P,1,none⟩ (.slice i l.length j)).setCell ⟨P,2,none⟩ (.slice r gB E)) (((aw.setCell ⟨P,0,none⟩ (.int .i64 st)).setCell ⟨P,1,none⟩ (.slice i l.length j)).setCell ⟨P,2,none⟩ (.slice r gB E)).heap.size (.slice i l.length j) l from⟨i,j,rfl,a4.q,bt,bP⟩);clear az;by_cases he:x=0
  .subst he;refine eW [_,_] 8 [9] ?_;have a_:=qQ (show J.I op [d]=aj.tail (l,0)from by rw[a9.q,a6.q rfl]);have a8:=qQ (er i j l (((aw.setCell ⟨P,0,none⟩ (.int .i64 st)).setCell ⟨P,1,none⟩ (.slice i l.length j)).setCell ⟨P,2,none⟩ (.slice r gB E)).heap.size (((aw.setCell ⟨P,0,none⟩ (.int .i64 st)).setCell ⟨P,1,none⟩ (.slice i l.length j)).setCell ⟨P,2,none⟩ (.slice r gB E)) (by omega) a4.q);by_cases Q:(R.size l).2≠0
   .have bK:((R.size l).2 != 0)=true:=by simpa using Q
    have br:=qQ (show J.I op [d]=([],(R.size l).2) by rw[a_.q];exact aj.gl Q);clear Q;go_wp2_with fail;refine a8.q.mono ?_;rintro e dX ⟨rfl,rfl⟩;simp only[ai.b5];exact Xj
   have bK:((R.size l).2 != 0)=false:=by simpa using Q
   have br:=qQ (show J.I op [d]=(l,0) by rw[a_.q];exact aj.ir (by omega));have bY:(R.size l).2=0:=by omega
   clear Q;go_wp2_with fail;refine a8.q.mono ?_;rintro e dX ⟨rfl,rfl⟩;simp only[ai.b5];go_wp2_with fail
   go_ret2
   rw[br.q];exact⟨⟨_,rfl,af.KU bB.q (λb off e hp=>by have:=X.q b off e hp;have:=M.q.size;omega)⟩,Ds.q⟩
  have hq:(x != 0)=true:=by simpa using he
  have br:=qQ (a7.q he);clear he;refine eW [_,_] 8 [9] ?_;exact Xj
namespace af
theorem re(h:J.bG l n=true)(j:k<l.length):0<=l[k]/\l[k]<(n:Int):=by
 unfold J.bG at h;rw[qB]at h;have i:=List.all_eq_true.1 h.1 _ (qP j);simp only[qB,xZ]at i;exact i
theorem we:∀{l m:List Int},l.Nodup->(∀x∈l,x∈m)->l.length<=m.length
 | [],_,_,_=>yX _
 | a::l,m,q,az=>by
  have i:=List.nodup_cons.1 q;have hm:a∈m:=az a zL;have y:=we (l:=l) (m:=m.erase a) i.2 (λx j=>by
   have r:x≠a:=λe=>i.1 (e▸j)
   exact(uA r).2 (az x (zH _ j)))
  have B:=yV hm;have D:0<m.length:=kM hm;simp only[qH];omega
theorem Gy(h:J.bG l n=true):l.length<=n:=by
 unfold J.bG at h;rw[qB]at h;have j:=List.all_eq_true.1 h.1;have q:l.Nodup:=xG h.2;have i:=we (m:=(List.range n).map (λ(k:Nat)=>(k:Int))) q (λx y=>by
  have r:=j x y;simp only[qB,xZ]at r;exact List.mem_map.2 ⟨x.toNat,List.mem_range.2 (by omega),by omega⟩)
 rw[zJ,vU]at i;exact i
theorem Bt{p q:Nat}{r s:Nat}{x y:Bool}(i:p=q)(j:r=s)(m:x=true)(B:y=true):¬(p≠q\/r≠s\/x=false\/y=false):=by
 rintro(h | h | h | h)
 .exact h i
 .exact h j
 .rw[m]at h;cases h
 rw[B]at h;cases h
theorem pS{a b ji lb:List Int}(h:J.aq a ji=J.aq b lb)(m:k<ji.length)(q:k<lb.length):R.pick a ji[k]=R.pick b lb[k]:=by
 have i:(J.aq a ji)[k]?=some (R.pick a ji[k]):=by unfold J.aq;rw[jT,qC m];rfl
 have j:(J.aq b lb)[k]?=some (R.pick b lb[k]):=by unfold J.aq;rw[jT,qC q];rfl
 rw[h,j]at i;injection i with i
 exact i.symm
theorem seven{N:Nat}{ag:World}(h:Below N w ag)(i:N<=b)(j m b' ca cl ct c3:Value):Below N w (((((((ag.setCell ⟨b,0,none⟩ j).setCell ⟨b,1,none⟩ m).setCell ⟨b,2,none⟩ b').setCell ⟨b,3,none⟩ ca).setCell ⟨b,4,none⟩ cl).setCell ⟨b,5,none⟩ ct).setCell ⟨b,6,none⟩ c3) :=
 ((((((h.setCell (p:=⟨b,0,none⟩) i j).setCell (p:=⟨b,1,none⟩) i m).setCell (p:=⟨b,2,none⟩) i b').setCell (p:=⟨b,3,none⟩) i ca).setCell (p:=⟨b,4,none⟩) i cl).setCell (p:=⟨b,5,none⟩) i ct).setCell (p:=⟨b,6,none⟩) i c3
theorem ij{size:Nat}(h:w.ownsRow base e size v n xs){p:Addr}(hp:∀g,v.ownBlock=some g->g≠p.block)(u:Value):(w.setCell p u).ownsRow base e size v n xs :=
 bq h (λg i=>qN w p u g (hp g i))
theorem wk{size:Nat}(h:w.ownsRow base e size v n xs)(q:b<base)(i j b' ca cl ct c3:Value):(((((((w.setCell ⟨b,0,none⟩ i).setCell ⟨b,1,none⟩ j).setCell ⟨b,2,none⟩ b').setCell ⟨b,3,none⟩ ca).setCell ⟨b,4,none⟩ cl).setCell ⟨b,5,none⟩ ct).setCell ⟨b,6,none⟩ c3).ownsRow base e size v n xs:=by
 have k:∀g,v.ownBlock=some g->g≠b:=λg m=>by have:=(eI h m).1;omega
 exact ij (ij (ij (ij (ij (ij (ij h (p:=⟨b,0,none⟩) k i) (p:=⟨b,1,none⟩) k j) (p:=⟨b,2,none⟩) k b') (p:=⟨b,3,none⟩) k ca) (p:=⟨b,4,none⟩) k cl) (p:=⟨b,5,none⟩) k ct) (p:=⟨b,6,none⟩) k c3
def Ly(l:List Int):aS.c8:=⟨λv w=>aN w w.heap.size v l,λi h=>(h.below i).up i.size⟩
def Lz:aS.c8:=⟨λv _=>∃A n c,v=.slice A n c,λ_ h=>h⟩
def eO(op:J.Op)(a b:List Int):Int:=if (J.et op a b).2=0 then(J.aq a op.a).foldl b_ 1 else 0
end af
theorem _root_.QT{G:Prop}(h:G:=by
 have hI:=qQ (show af.eO op a b=0 by unfold af.eO;rw[br.q];rfl);have ek:=kp.q.cell 0;have en:=kp.q.cell 1;have eo:=kp.q.cell 2;have GH:=kp.q.cell 3;have GI:=kp.q.cell 4;have GJ:=kp.q.cell 5;have GK:=kp.q.cell 6;have f0:=kp.q.frozen 0;have f1:=kp.q.frozen 1;have f2:=kp.q.frozen 2;have f3:=kp.q.frozen 3;have f4:=kp.q.frozen 4;have f5:=kp.q.frozen 5;have f6:=kp.q.frozen 6;go_wp2_with fail;refine qR (v:=.tuple #[.agg #[.slice none 0 0,.slice none 0 0,.slice none 0 0,.int .i64 0,.int .i64 0,.int .i64 0,.int .i64 0],.int .i64 6]) (by simp[results,results125,go_sem,ek,en,eo,GH,GI,GJ,GK]) rfl ?_;rw[br.q,hI.q];exact⟨_,_,_,_,_,_,_,_,_,_,rfl,⟨rfl,.inl ⟨rfl,rfl⟩⟩,af.seven c7.q (by omega) _ _ _ _ _ _ _⟩
 ):G:=h
theorem _root_.ZS{G:Prop}(h:G:=by
 intros;rename_i K aI;subst_vars;have a_:=(show Below ww.heap.size ww _ by assumption).size;go_simp;exact aI.q _ _ ((qK _ _).alloc (qX _) _) ⟨_,rfl,a_,av.new _ _ _⟩
 ):G:=h
theorem _root_.ZT{G:Prop}(h:G:=by
 intros;rename_i K aI;subst_vars;have a_:=(show Below wr.heap.size wr _ by assumption).size;go_simp;exact aI.q _ _ ((qK _ _).alloc (qX _) _) ⟨_,rfl,a_,av.new _ _ _⟩
 ):G:=h
theorem _root_.Zu{G:Prop}(h:G:=by
 go_simp;with_reducible refine dt.mono ?_
 rintro e W2 ⟨v,rfl,dP,aE⟩;obtain⟨fp,b',rfl,_⟩:=ai.aZ dP;exact aI.q _ _ aE ⟨_,_,_,rfl⟩
 ):G:=h
theorem _root_.Zi{G:Prop}(h:G:=by
 have c2:=af.Gy Bd.q;have bS:op.l.length<=iE.length:=by rw[<-Ba.q.1,qW];omega
 omega
 ):G:=h
theorem _root_.XF{G:Prop}(h:G:=by
 go_simp;with_reducible refine dt.mono ?_
 rintro e W2 ⟨v,rfl,dP,aE⟩;exact aI.q _ _ aE (af.b3 dP)
 ):G:=h
theorem _root_.JE{G:Prop}(r:bm)(f:dS bm->G:=by
 intro bb;have cd:=qQ (av.new w 58 #[.int .i64 op.k,v1,.slice T op.a.length aD,.slice O op.l.length co,.slice b1 op.h.length ci,.slice S op.s.length cs,.int .i64 op.v]);have bp:=qQ ((qK w.heap.size w).alloc (qX _) (.cells #[.int .i64 op.k,v1,.slice T op.a.length aD,.slice O op.l.length co,.slice b1 op.h.length ci,.slice S op.s.length cs,.int .i64 op.v] 58));obtain⟨ak,cI⟩:=gz (w.alloc (.cells #[.int .i64 op.k,v1,.slice T op.a.length aD,.slice O op.l.length co,.slice b1 op.h.length ci,.slice S op.s.length cs,.int .i64 op.v] 58));revert cd bp ak cI;exact bb.o
 ):G:=f ⟨r⟩
theorem _root_.VW{G:Prop}(r:bm)(f:dS bm->G:=by
 intro bb;refine qR (v:=.tuple #[.agg #[.slice none 0 0,.slice none 0 0,.slice none 0 0,.int .i64 0,.int .i64 0,.int .i64 0,.int .i64 0],.int .i64 6]) (by simp[results,results125,go_sem,ek,en,eo,GH,GI,GJ,GK]) rfl ?_;rw[br.q,hI.q];exact bb.o
 ):G:=f ⟨r⟩
theorem af.GA(val:Value)(op:J.Op)(c4 c5:Option Addr)(cC ib:Nat)(a b:List Int)(B:Nat)(w:World)(ah:B<=w.heap.size)(hx:a.length<=6)(cU:b.length<=6)(eN:∀x∈a,0<=x/\x<=4096)(eR:∀x∈b,0<=x/\x<=4096)(gU:op.l.length<=4194304/\op.a.length<=4194304/\op.h.length<=4194304/\op.s.length<=4194304)(gV:af.bd w B val op)(c2:ai.ao w B c4 a)(bS:ai.ao w B c5 b):Calls Tryz.prog 125 #[val,.slice c4 a.length cC,.slice c5 b.length ib] w λe w'=>∃hd g_ g8 hg g' g9 uk c3 bU cy,e=.returned (.tuple #[.agg #[.slice hd g_ g8,.slice hg g' g9,uk,.int .i64 c3,.int .i64 bU,.int .i64 cy,.int .i64 (af.eO op a b)],.int .i64 (J.et op a b).2])/\w'.ownsRow w.heap.size 3 1 uk (J.et op a b).1.length (ints (J.et op a b).1)/\Below w.heap.size w w':=by
 obtain⟨v1,v2,v3,v4,v5,rfl,_,⟨T,aD,rfl,it,lt,mt⟩,⟨O,co,rfl,io,lo,fn⟩,⟨b1,ci,rfl,ii,li,fm⟩,⟨S,cs,rfl,is,ls,ms⟩⟩:=gV;obtain⟨hH,hJ,hL,hM⟩:=gU;have cF:=qQ (λW (aE:Below w.heap.size w W)=>qZ (show af.aN W W.heap.size (.slice O op.l.length co) op.l from⟨O,co,rfl,(io.below (aE.mono ah)).up (by have:=aE.size;omega),lo,fn⟩) (qZ (show af.aN W W.heap.size (.slice T op.a.length aD) op.a from⟨T,aD,rfl,(it.below (aE.mono ah)).up (by have:=aE.size;omega),lt,mt⟩)
  (qZ (show af.aN W W.heap.size (.slice b1 op.h.length ci) op.h from⟨b1,ci,rfl,(ii.below (aE.mono ah)).up (by have:=aE.size;omega),li,fm⟩) (show af.aN W W.heap.size (.slice S op.s.length cs) op.s from⟨S,cs,rfl,(is.below (aE.mono ah)).up (by have:=aE.size;omega),ls,ms⟩))))
 obtain⟨bV,cJ,a8⟩:=aK (λW (aE:Below w.heap.size w W)=>qZ (c2.below (aE.mono ah)) (bS.below (aE.mono ah))) (qZ eN eR) (show J.et op a b=if op.a.length≠op.s.length\/op.l.length≠op.h.length\/J.bG (op.l++op.a) a.length=false\/J.bG (op.h++op.s) b.length=false then([],6)else if J.aq a (op.l++op.a)≠J.aq b (op.h++op.s)then([],6)else(J.aq a op.l++J.aq a (J.free a (op.l++op.a))++J.aq b (J.free b (op.h++op.s)),0)from rfl);clear io it ii is c2 bS eN eR lt lo li ls mt fn fm ms;refine JE ?_;intro cd bp ak cI;rw[cI]at cd bp;have cK:=qQ (av.new ak 154 #[.slice none 0 0,.slice none 0 0,.slice none 0 0,.int .i64 0,.int .i64 0,.int .i64 0,.int .i64 0]);have du:=qQ ((qK ak.heap.size ak).alloc (qX _) (.cells #[.slice none 0 0,.slice none 0 0,.slice none 0 0,.int .i64 0,.int .i64 0,.int .i64 0,.int .i64 0] 154));have dc:=qQ (bp.q.trans (du.q.mono bp.q.size));have cM:=qQ (cd.q.below du.q cd.q.lt);obtain⟨ww,dS⟩:=gz (ak.alloc (.cells #[.slice none 0 0,.slice none 0 0,.slice none 0 0,.int .i64 0,.int .i64 0,.int .i64 0,.int .i64 0] 154));rw[dS]at cK du dc cM;have hU:w.heap.size<ak.heap.size:=cd.q.lt;have hV:ak.heap.size<ww.heap.size:=cK.q.lt;go_enter func125,ntmps125;go_wp2_with fail
 go_cut [8,9] (λhh v9 X=>Below ww.heap.size ww X/\af.aN X X.heap.size hh (op.l++op.a)/\af.aN X X.heap.size v9 (op.h++op.s))
 case first =>
  clear cI dS;have cL:=qQ (λW (aE:Below ww.heap.size ww W)=>cF.q W (aA dc.q aE));have aJ:=λW (aE:Below ww.heap.size ww W)=>λi=>(cM.q.go aE).cell i
  refine aH (l:=[_,_]) [(0,20,[]),(1,21,[0]),(2,22,[]),(3,23,[2]),(4,24,[1,3]),(5,25,[4]),(6,26,[]),(7,27,[6]),(8,28,[]),(9,29,[8]),(10,30,[7,9]),(11,31,[10])] [12,13] [.eq _,.eq _,.eq _,.eq _,.row ww.heap.size 23 2 #[.slice O op.l.length co,.slice T op.a.length aD],af.Ly (op.l++op.a),.eq _,.eq _,.eq _,.eq _,.row ww.heap.size 23 2 #[.slice b1 op.h.length ci,.slice S op.s.length cs],af.Ly (op.h++op.s)]
   (λW=>Below ww.heap.size ww W) (qK _ _).drew ((fr)<|(fr)<|(fr)<|(fr)<|cr ?_<|cr ?_<|(fr)<|(fr)<|(fr)<|(fr)<|cr ?_<|cr ?_<|fg) ?_ (λ_ _ h dK=>aA h dK)
  .exact ZS
  .intros;rename_i bD K aI;have a_:=(show Below ww.heap.size ww _ by assumption);obtain⟨g,rfl,E,aR⟩:=bD;subst_vars;have dt:=af.fx g op.l op.a _ (by omega) (af.lO aR aR.lt (cL.q _ a_).1 (cL.q _ a_).2.1);exact XF
  .exact ZS
  .intros;rename_i bD K aI;have a_:=(show Below ww.heap.size ww _ by assumption);obtain⟨g,rfl,E,aR⟩:=bD;subst_vars;have dt:=af.fx g op.h op.s _ (by omega) (af.lO aR aR.lt (cL.q _ a_).2.2.1 (cL.q _ a_).2.2.2);exact XF
  intros;rename_i a1 a_ _ _ _ _ _ s1 _ _ _ _ _ s2;subst_vars;have fN:=qQ (qZ a_ (qZ s1 s2));obtain⟨I,M,rfl,_⟩:=s1;obtain⟨Y,ag,rfl,_⟩:=s2;clear aJ a_;go_wp2_with fail
  go_meet
  have h:=fN.q;rw[qW,qW]at h;exact h
 obtain⟨aE,eC,eD⟩:=hcut;obtain⟨iE,cQ⟩:=gz (op.l++op.a);obtain⟨r,cT⟩:=gz (op.h++op.s);have hO:iE.length<=8388608:=by rw[<-cQ,qW];omega
 have hP:r.length<=8388608:=by rw[<-cT,qW];omega
 have Ba:=qQ (qZ cQ True.intro);have fM:=qQ (qZ cT True.intro);rw[cQ]at eC a8;rw[cT]at eD a8;obtain⟨dU,ew,rfl,i8,h2,m8⟩:=eC;obtain⟨dV,ey,rfl,i9,h3,m9⟩:=eD;obtain⟨hn,dZ,d0,c7,V,kp⟩:=fq aE i8 i9 (aA dc.q aE) (cM.q.below aE cM.q.lt) (cK.q.below aE cK.q.lt);have cB:=qQ (af.mI dU ew a.length iE wc.heap.size wc (by omega) (by omega) (qX _) i8);have fL:=qQ (λW (h:Below wc.heap.size wc W)=>af.mI dV ey b.length r wc.heap.size W (by omega) (by omega) h.size (i9.below h));have hX:ww.heap.size<=wc.heap.size:=aE.size;clear aE i8 i9 cQ cT;have b':=V.q.cell 2;have ca:=V.q.cell 3;have cl:=V.q.cell 4;have ct:=V.q.cell 5;by_cases aO:op.a.length=op.s.length
 .have d1:((op.a.length:Int) != (op.s.length:Int))=false:=by simp;omega
  have dW:=qQ aO;clear aO;by_cases bz:op.l.length=op.h.length
  .have d2:((op.l.length:Int) != (op.h.length:Int))=false:=by simp;omega
   have dX:=qQ bz;clear bz;cases bQ:J.bG iE a.length with
   | false =>
    have br:=qQ (show J.et op a b=([],6) by rw[a8.q];exact qY (.inr (.inr (.inl bQ))));rw[bQ]at cB;clear bQ;go_wp2_with fail
    ((with_reducible refine cB.q.mono ?_);rintro e aC ⟨rfl,a5⟩)
    have D:=qQ (kp.q.below a5 kp.q.lt);have cA:=qQ (aA c7.q a5);clear a5 b' ca cl ct;have hI:=qQ (show af.eO op a b=0 by unfold af.eO;rw[br.q];rfl);have ek:=D.q.cell 0;have en:=D.q.cell 1;have eo:=D.q.cell 2;have GH:=D.q.cell 3;have GI:=D.q.cell 4;have GJ:=D.q.cell 5;have GK:=D.q.cell 6;have f0:=D.q.frozen 0;have f1:=D.q.frozen 1;have f2:=D.q.frozen 2;have f3:=D.q.frozen 3;have f4:=D.q.frozen 4;have f5:=D.q.frozen 5;have f6:=D.q.frozen 6;go_wp2_with fail;refine VW ?_;exact⟨_,_,_,_,_,_,_,_,_,_,rfl,⟨rfl,.inl ⟨rfl,rfl⟩⟩,af.seven cA.q (by omega) _ _ _ _ _ _ _⟩
   | true =>
    have Bd:=qQ bQ;rw[bQ]at cB;clear bQ;go_wp2_with fail
    ((with_reducible refine cB.q.mono ?_);rintro e aC ⟨rfl,a5⟩)
    obtain⟨cD,fI,D,cA⟩:=cV (fL.q aC a5) a5 (kp.q.below a5 kp.q.lt) (aA c7.q a5);have hQ:wc.heap.size<=aC.heap.size:=a5.size;clear a5 b' ca cl ct;cases bR:J.bG r b.length with
    | false =>
     have br:=qQ (show J.et op a b=([],6) by rw[a8.q];exact qY (.inr (.inr (.inr bR))));rw[bR]at cD;clear bR;go_wp2_with fail
     ((with_reducible refine cD.q.mono ?_);rintro e aw ⟨rfl,a7⟩)
     have N:=qQ (D.q.below a7 D.q.lt);have c9:=qQ (aA cA.q a7);clear a7;have hI:=qQ (show af.eO op a b=0 by unfold af.eO;rw[br.q];rfl);have ek:=N.q.cell 0;have en:=N.q.cell 1;have eo:=N.q.cell 2;have GH:=N.q.cell 3;have GI:=N.q.cell 4;have GJ:=N.q.cell 5;have GK:=N.q.cell 6;have f0:=N.q.frozen 0;have f1:=N.q.frozen 1;have f2:=N.q.frozen 2;have f3:=N.q.frozen 3;have f4:=N.q.frozen 4;have f5:=N.q.frozen 5;have f6:=N.q.frozen 6;go_wp2_with fail;refine VW ?_;exact⟨_,_,_,_,_,_,_,_,_,_,rfl,⟨rfl,.inl ⟨rfl,rfl⟩⟩,af.seven c9.q (by omega) _ _ _ _ _ _ _⟩
    | true =>
     have dp:=qQ bR;rw[bR]at cD;clear bR;go_wp2_with fail
     ((with_reducible refine cD.q.mono ?_);rintro e aw ⟨rfl,a7⟩)
     obtain⟨fJ,N,c9⟩:=aK (aA fI.q a7) (D.q.below a7 D.q.lt) (aA cA.q a7);have hR:aC.heap.size<=aw.heap.size:=a7.size;have e4:iE.length=r.length:=by rw[<-Ba.q.1,<-fM.q.1,qW,qW,dW.q,dX.q]
     have dn:=qQ e4;have cG:=qQ (qZ dW.q dX.q);clear a7 d1 d2 e4;go_wp2_with fail;go_loopw [65] (λaT wr=>∃(k d:Nat),aT=.int .i64 (k:Int)/\k<=iE.length/\(∀j (c2:j<iE.length) (bS:j<r.length),j<k->R.pick a iE[j]=R.pick b r[j])/\wr=aw.drewN d) (λaT _=>iE.length-(intOf aT).toNat)
     case atStart=>exact⟨0,0,rfl,by omega,λj _ _ h=>by omega,rfl⟩
     obtain⟨k,d,rfl,cY,heq,ar⟩:=hrel;obtain⟨d4,fK,aQ,aU,bh⟩:=fC heq ar (show Below w.heap.size w wr by rw[ar];exact zV c9.q d) (show Below wc.heap.size wc wr by rw[ar];exact zV fJ.q d) (show av wr ak.heap.size 154 #[.slice none 0 0,.slice none 0 0,.slice none 0 0,.int .i64 0,.int .i64 0,.int .i64 0,.int .i64 0] by rw[ar];exact N.q.drewN d);clear heq ar;by_cases ap:k<iE.length
     .have dO:k<r.length:=by have:=dn.q;omega
      obtain⟨ba,ha,dI,gJ,iP⟩:=dZ.q (by omega);obtain⟨gm,xh,dJ,gK,eA⟩:=d0.q (by omega);subst dI dJ;have gq:=(aU.q.cell (p:=⟨ba,ha+k,none⟩) gJ).trans (iP k ap);have gu:=(aU.q.cell (p:=⟨gm,xh+k,none⟩) gK).trans (eA k dO);have gW:=af.re Bd.q ap;have gX:=af.re dp.q dO;have bO:=qQ (λ(h:R.pick a iE[k]=R.pick b r[k])=>show ∀j (c2:j<iE.length) (bS:j<r.length),j<k+1->R.pick a iE[j]=R.pick b r[j]from λj c2 bS hG=>by
       by_cases e:j=k
       .subst e;exact h
       exact d4.q j c2 bS (by omega))
      have bN:=qQ (λ(h:R.pick a iE[k]≠R.pick b r[k])=>show J.et op a b=([],6) by
       rw[a8.q,qV (af.Bt (by have:=dn.q;exact cG.q.1) cG.q.2 Bd.q dp.q)];exact qY (λe=>h (af.pS e ap dO)))
      clear iP eA;generalize iE[k]=fo at gq gW bO bN;generalize r[k]=ft at gu gX bO bN;obtain⟨i,rfl⟩:∃i:Nat,fo=(i:Int):=⟨fo.toNat,by omega⟩;obtain⟨j,rfl⟩:∃j:Nat,ft=(j:Int):=⟨ft.toNat,by omega⟩;have eY:i<a.length:=by omega
      have eZ:j<b.length:=by omega
      obtain⟨be,eG⟩:=bV.q wr aQ.q;obtain⟨bu,bT,dI,eQ,bc⟩:=be (by omega);obtain⟨hp,h4,dJ,hz,eB⟩:=eG (by omega);subst dI dJ;have a':=bc i eY;have gv:=eB j eZ;rw[R.jl a i eY,R.jl b j eZ]at bO bN;have fc:=b2 k;have fd:(k:Int)<(iE.length:Int):=by omega
      have hZ:(k:Int)<(r.length:Int):=by omega
      have fi:=b2 i;have fj:(i:Int)<(a.length:Int):=by omega
      have h0:=b2 j;have h1:(j:Int)<(b.length:Int):=by omega
      clear bc eB be eG;generalize a[i]=c1 at a' bO bN;generalize b[j]=fy at gv bO bN;by_cases cw:c1=fy
      .have f':=qQ (bO.q cw);subst cw;have gB:(c1 != c1)=false:=by simp
       go_wp2_with fail
       go_quiet (fail)
       have d3:=qQ (show wr.drewN nq=aw.drewN (d+nq) by rw[fK.q,jI]);generalize wr.drewN nq=hl at d3 |-;go_wp2_with fail;go_roundw
       case rel=>exact⟨k+1,d+nq,by go_num,by omega,f'.q,d3.q⟩
       case measure=>simp[intOf];omega
      have br:=qQ (bN.q cw);have gB:(c1 != fy)=true:=by simpa using cw
      clear cw;go_wp2_with fail
      go_quiet (fail)
      have c':=qQ (zV aQ.q nq);have Q:=qQ (bh.q.drewN nq);generalize wr.drewN nq=hl at c' Q |-;have hI:=qQ (show af.eO op a b=0 by unfold af.eO;rw[br.q];rfl);have ek:=Q.q.cell 0;have en:=Q.q.cell 1;have eo:=Q.q.cell 2;have GH:=Q.q.cell 3;have GI:=Q.q.cell 4;have GJ:=Q.q.cell 5;have GK:=Q.q.cell 6;have f0:=Q.q.frozen 0;have f1:=Q.q.frozen 1;have f2:=Q.q.frozen 2;have f3:=Q.q.frozen 3;have f4:=Q.q.frozen 4;have f5:=Q.q.frozen 5;have f6:=Q.q.frozen 6;go_wp2_with fail;refine VW ?_;exact⟨_,_,_,_,_,_,_,_,_,_,rfl,⟨rfl,.inl ⟨rfl,rfl⟩⟩,af.seven c'.q (by omega) _ _ _ _ _ _ _⟩
     have gS:k=iE.length:=by omega
     subst gS;have eS:J.aq a iE=J.aq b r:=by
      apply jP
      .rw[J.aW,J.aW,dn.q]
      intro j c2 bS;rw[J.aW]at c2 bS;simp only[J.aq,vC];exact d4.q j c2 bS c2
     have br:=qQ (show J.et op a b=(J.aq a op.l++J.aq a (J.free a iE)++J.aq b (J.free b r),0) by
      rw[a8.q,qV (af.Bt cG.q.1 cG.q.2 Bd.q dp.q)];exact qV (λh=>h eS))
     obtain⟨hI,fS,fF⟩:=aK (show af.eO op a b=(J.aq a op.a).foldl af.b_ 1 by unfold af.eO;rw[br.q];rfl) (av.new wr 154 #[.slice none 0 0,.slice none 0 0,.slice none 0 0,.int .i64 1,.int .i64 1,.int .i64 1,.int .i64 1]) ((qK wr.heap.size wr).alloc (qX _) (.cells #[.slice none 0 0,.slice none 0 0,.slice none 0 0,.int .i64 1,.int .i64 1,.int .i64 1,.int .i64 1] 154));have d':=qQ (fS.q.alloc (.cells #[.func (.func 155) #[] #[]] 181));have fb:(wr.alloc (.cells #[.slice none 0 0,.slice none 0 0,.slice none 0 0,.int .i64 1,.int .i64 1,.int .i64 1,.int .i64 1] 154)).heap.size=wr.heap.size+1:=by simp
     have b7:=qQ (av.new (wr.alloc (.cells #[.slice none 0 0,.slice none 0 0,.slice none 0 0,.int .i64 1,.int .i64 1,.int .i64 1,.int .i64 1] 154)) 181 #[.func (.func 155) #[] #[]]);rw[fb]at b7;have bK:=qQ (fF.q.alloc (by omega) (.cells #[.func (.func 155) #[] #[]] 181));obtain⟨eu,gG⟩:=gz ((wr.alloc (.cells #[.slice none 0 0,.slice none 0 0,.slice none 0 0,.int .i64 1,.int .i64 1,.int .i64 1,.int .i64 1] 154)).alloc (.cells #[.func (.func 155) #[] #[]] 181));rw[gG]at d' b7 bK;obtain⟨fW,c',Q,d_⟩:=cV ((V.q.below aU.q V.q.lt).below bK.q (V.q.below aU.q V.q.lt).lt) (aQ.q.trans (bK.q.mono aQ.q.size)) (bh.q.below bK.q bh.q.lt) (show af.iI wr.heap.size wr.heap.size (.slice none 0 0) (.slice none 0 0) (.slice none 0 0) [] 1 1 1 1 eu from⟨d'.q,⟨rfl,.inl ⟨rfl,rfl⟩⟩,by omega,by omega,by omega,by omega⟩);have ca:=fW.q.cell 3;have hS:w.heap.size<wr.heap.size:=by have:=(V.q.below aU.q V.q.lt).lt;omega
     clear eS fb;obtain⟨bF,g6⟩:∃bF:World,bF=wr:=⟨_,rfl⟩;subst g6;obtain⟨m,eK⟩:=gz bF.heap.size;have fV:=qQ (show Below m bF eu by rw[<-eK];exact bK.q);have gH:=bK.q.size;have gD:=b7.q.lt;have hA:∀(args:Array Value) (W:World),(callFunc 155 args).run Tryz.prog W=.ok (.enter 155 args) W:=λ_ _=>rfl
     have e_:w.heap.size<m:=by omega
     have cm:wc.heap.size<=m:=by have:=aU.q.size;omega
     rw[eK]at d_ b7 gD gH;have fQ:=qQ (xQ Tryz.dB);go_wp2_with fail;go_loopw [89] (λaT X=>∃(k:Nat) (e3:Value) (y:Int),aT=.int .i64 (k:Int)/\k<=op.l.length/\Below m bF X/\af.iI m m (.slice none 0 0) (.slice none 0 0) e3 (J.aq a (op.l.take k)) y 1 1 1 X/\av X (m+1) 181 #[.func (.func 155) #[] #[]]) (λaT _=>op.l.length-(intOf aT).toNat)
     case atStart=>exact⟨0,_,1,rfl,by omega,fV.q,d_.q,b7.q⟩
     obtain⟨k,e3,y,rfl,cY,aE,bw,E⟩:=hrel;obtain⟨da,dg,bP,d7⟩:=cV aE (aQ.q.trans (aE.mono (by omega))) bw E;have eL:m<wr.heap.size:=bw.aL.lt;have eh:=qQ ((V.q.below aU.q V.q.lt).below (aE.mono (by omega):Below wc.heap.size bF wr) V.q.lt);clear aE bw E;by_cases ap:k<op.l.length
     .have cj:k<iE.length:=by rw[<-Ba.q.1,qW];omega
      have cg:iE[k]=op.l[k]:=by
       have c2:iE[k]?=(op.l++op.a)[k]?:=by rw[Ba.q.1]
       rw[qC cj,jX ap,qC ap]at c2;injection c2
      have cp:=af.re Bd.q cj;rw[cg]at cp;obtain⟨c6,dH,cf,hi,_,_⟩:=(cF.q wr dg.q).1;obtain⟨rfl,rfl⟩:O=c6/\co=dH:=by simpa using cf
      obtain⟨gn,hb,rfl,gL,go⟩:=hi (by omega);have cO:=go k ap;have cb:=qQ (qD ap);clear cf hi go cg;generalize op.l[k]=cx at cp cO cb;obtain⟨q,rfl⟩:∃q:Nat,cx=(q:Int):=⟨cx.toNat,by omega⟩;have bB:q<a.length:=by omega
      obtain⟨be,_⟩:=bV.q wr dg.q;obtain⟨bu,bT,rfl,eQ,bc⟩:=be (by omega);have a':=bc q bB;have bE:=cJ.q.1 a[q] (qP bB);have bL:=qQ (show J.aq a (op.l.take (k+1))=J.aq a (op.l.take k)++[a[q]] by rw[cb.q,aj.iM a _ q bB]);have cW:(J.aq a (op.l.take k)).length<=4194304:=by rw[J.aW,qM];omega
      have fc:=b2 k;have fd:(k:Int)<(op.l.length:Int):=by omega
      have fi:=b2 q;have fj:(q:Int)<(a.length:Int):=by omega
      clear bc be;generalize a[q]=x at a' bE bL;generalize J.aq a (op.l.take k)=ds at bP bL cW;obtain⟨i0,g1,g2,g3,g4⟩:=fQ.q;obtain⟨bf,cu,gM,hB⟩:=ai.aZ bP.q.own;subst gM;have gp:wr.cell? ⟨m,2,none⟩=some (.slice bf ds.length cu):=bP.q.aL.cell 2;go_wp2_with fail;refine fk (λw'=>w'.cell? ⟨m,2,none⟩=some (.slice bf ds.length cu)/\w'.cell? ⟨bu,bT+q,none⟩=some (.int .i64 x)) 8 10 (⟨gp,a'⟩) (λaB=>?_);simp only[qF,qG];refine aG 0 93 ?_;refine aG 1 94 ?_;refine aG 2 95 ?_;refine aG 3 96 ?_;refine aG 4 97 ?_;refine aG 5 98 ?_;try simp only[Act.put,bj,bk,bl]
      obtain⟨b9,b5,cN,bg⟩:=cV (bP.q.below (pJ (qK _ _))) d7.q.drew eh.q.drew da.q.drew;have eM:m<wr.drew.heap.size:=eL;generalize wr.drew=bm at b9 b5 cN bg eM aB |-;refine fT 6 (λK aI=>?_);go_simp;refine aI.q _ _ ⟨⟨(kW _ _ _ (by simp;omega)).trans aB.1.1,(kW _ _ _ (by simp;omega)).trans aB.1.2⟩,trivial⟩ (λcP=>?_);clear aI K aB;have aB:=cP;clear cP;try simp only[bj,bk,bl]
      obtain⟨dl,aV,di,ei,db⟩:=fC (av.new bm 3 #[.int .i64 x]) (b9.q.below (wG (qK bm.heap.size bm) (qX _) (.cells #[.int .i64 x] 3))) (b5.q.alloc (.cells #[.int .i64 x] 3)) (cN.q.alloc (.cells #[.int .i64 x] 3)) (bg.q.alloc (by omega) (.cells #[.int .i64 x] 3));have gF:bm.heap.size<(bm.alloc (.cells #[.int .i64 x] 3)).heap.size:=by simp
      generalize bm.alloc (.cells #[.int .i64 x] 3)=gf at dl aV di ei db gF aB |-;refine fT 7 (λK aI=>?_);refine ja gf _ _ 23 rfl m 3 i0 (.int .i64 0) 1 8 underlying23 g1 g2 g3 g4 rfl (by decide) (.slice bf ds.length cu) ds.length (ints ds) rfl aV.q.own _ (some ⟨bm.heap.size,0,none⟩) 1 1 [.int .i64 x] rfl (af.dj dl.q rfl) (by intro u hu;simp at hu;subst hu;rfl) (by unfold maxLen;omega) (by omega) (by omega) ?_;intro v' dG how bv _;have bJ:some m≠(Value.slice bf ds.length cu).ownBlock:=λe=>aV.q.apart e.symm
      have bn:some bu≠(Value.slice bf ds.length cu).ownBlock:=λe=>by have:=(af.eI aV.q.own e.symm).1;omega
      have fz:=bv.cell aB.1.1 bJ;have dT:=bv.cell aB.1.2 bn;have gC:dG.frozen? ⟨m,2,none⟩=false:=(af.fw aV.q.aL aV.q.own (by decide) bv).frozen 2;obtain⟨dr,cE,df⟩:=aK (aV.q.push how bv) ((af.fw di.q aV.q.own (by decide) bv).cR (p:=⟨m,2,none⟩) (by simp) v') ((db.q.grown bv (by omega) (λg E=>(af.eI aV.q.own E).1)).setCell (p:=⟨m,2,none⟩) (qX _) v');obtain⟨bt,bz,gY,hD⟩:=ai.aZ how;subst gY;refine aI.q _ _ ⟨⟨fz,dT⟩,trivial⟩ (λcP=>?_);clear aI K aB cP how bv bJ bn dl aV di ei db;try simp only[Act.put,bj,bk,bl]
      refine eW [_,_] 8 [9] ?_;go_wp2_with fail;have c3:=(World.cell?_setCell_other dG ⟨m,2,none⟩ ⟨bu,bT+q,none⟩ (.slice bt (ds.length+1) bz) (λe=>by injection e with e;omega)).trans dT;generalize dG.setCell ⟨m,2,none⟩ (.slice bt (ds.length+1) bz)=ej at dr cE df c3 |-;clear gC fz dT;have cn:ej.cell? ⟨m+1,0,none⟩=some (.func (.func 155) #[] #[]):=cE.q.cell 0;refine fk (λw'=>w'.cell? ⟨m+1,0,none⟩=some (.func (.func 155) #[] #[])/\w'.cell? ⟨bu,bT+q,none⟩=some (.int .i64 x)) 6 7 (⟨cn,c3⟩) (λaB=>?_);simp only[qF,qG];refine bX [] 0 102 ?_;refine bX [] 1 103 ?_;refine bX [4,5] 2 104 ?_;refine bX [4,5] 3 105 ?_;refine bX [5] 4 106 ?_;refine bX [] 5 107 ?_;try simp only[Act.put,bj,bk,bl]
      refine eW [_] 6 [] ?_;obtain⟨az,b6,bY⟩:=aK (dr.q.below (pJ (qK _ _))) cE.q.drew df.q.drew;clear cn aB dr cE df;generalize ej.drew=bo at az b6 bY |-;obtain⟨dk,b8,b0,bW⟩:=cV (af.nw m 3 y x bo (az.q.aL.cell 3) (az.q.aL.frozen 3) az.q.bA bE) (az.q.hj bE) (b6.q.cR (p:=⟨m,3,none⟩) (by simp) (.int .i64 (af.b_ y x))) (bY.q.setCell (p:=⟨m,3,none⟩) (qX _) (.int .i64 (af.b_ y x)));go_wp2_with fail
      ((with_reducible refine dk.q.mono ?_);rintro e hk ⟨rfl,cq⟩)
      rw[cq];clear cq;generalize bo.setCell ⟨m,3,none⟩ (.int .i64 (af.b_ y x))=gd at b8 b0 bW |-;go_wp2_with fail;go_roundw
      case rel=>exact⟨k+1,_,_,by go_num,by omega,bW.q,by rw[bL.q];exact b8.q,b0.q⟩
      case measure=>simp[intOf];omega
     have cZ:k=op.l.length:=by omega
     subst cZ;have a6:=qQ (show af.iI m m (.slice none 0 0) (.slice none 0 0) e3 (J.aq a op.l) y 1 1 1 wr by have h:=bP.q;rwa [zS]at h);clear cY ap bP;go_wp2_with fail;have cW:(J.aq a op.l).length<=65536:=by
      rw[J.aW];exact Zi
     have d5:=qQ (af.D0 m m (m+1) (.slice none 0 0) (.slice none 0 0) e3 (J.aq a op.l) y 1 1 1 dU c4 ew cC iE a wr (qX _) eL (by omega) (by omega) cW cJ.q.1
      ((dZ.q.below (aU.q.trans (da.q.mono cm))).up cm) ((bV.q wr dg.q).1.up (by omega)) a6.q d7.q)
     ((with_reducible refine d5.q.mono ?_);rintro e c0 ⟨fu,gy,bU,rfl,e6,eP,gR,dR,eV,dM⟩)
     obtain⟨ea,fB,d8,fO,dh⟩:=fC e6 eP dR eV (da.q.trans dM);have fE:=qQ (aQ.q.trans (dh.q.mono (by omega)));have gE:m<c0.heap.size:=dR.aL.lt;have fX:=qQ (eh.q.below dM e_);clear e6 eP gR dR eV dM;have gO:(J.free a iE).length<=a.length:=aj.k4 a iE a.length;have gQ:(J.free b r).length<=b.length:=aj.k4 b r b.length;have hN:op.l.length<=6:=by
      exact Zi
     have eT:(J.aq a op.l++J.aq a (J.free a iE)).length<=65536:=by
      rw[qW,J.aW a (J.free a iE),J.aW];omega
     have d6:=qQ (af.D1 m m (m+1) (.slice none 0 0) (.slice none 0 0) gy (J.aq a op.l++J.aq a (J.free a iE)) y bU 1 1 dV c5 ey ib r b c0 (qX _) gE (by omega) (by omega) eT cJ.q.2
      ((d0.q.below (aU.q.trans (dh.q.mono cm))).up cm) ((bV.q c0 fE.q).2.up (by omega)) d8.q fO.q)
     go_wp2_with fail
     ((with_reducible refine d6.q.mono ?_);rintro e cH ⟨fv,gA,cy,rfl,e7,gI,eU,e5,eX,cU⟩)
     obtain⟨dv,dy,d9,fP,fH,fZ⟩:=fq (eU.keeps ea.q (af.fY ea.q d8.q.aL (by decide)) fB.q) e7 e5 eX (dh.q.trans cU) (fX.q.below cU e_);clear e7 gI eU e5 eX cU eT;have b':=fZ.q.cell 2;obtain⟨dE,eH⟩:∃n:Nat,wr.heap.size=n:=⟨_,rfl⟩;obtain⟨dF,eJ⟩:∃n:Nat,c0.heap.size=n:=⟨_,rfl⟩;rw[eH]at dv;rw[eJ]at dy;have ho:=qQ (show m<dE/\m<dF by omega);obtain⟨cz,dL⟩:=gz (J.aq a op.l++J.aq a (J.free a iE)++J.aq b (J.free b r));rw[dL]at d9 br;have hE:cz.length<=65536:=by
      rw[<-dL,qW,qW,J.aW,J.aW,J.aW];omega
     obtain⟨bH,eE⟩:=gz (J.free a iE);obtain⟨bI,eF⟩:=gz (J.free b r);rw[eE]at dv gO;rw[eF]at dy gQ;have ia:cH.cell? ⟨w.heap.size,2,none⟩=some (.slice T op.a.length aD):=b';clear dL eE eF eH eJ d5 d6 cW b';go_wp2_with fail;obtain⟨wp,g7⟩:∃wp:World,wp=wr:=⟨_,rfl⟩;subst g7;go_loopw [124] (λaT X=>∃(k:Nat) (aP:Int),aT=.int .i64 (k:Int)/\k<=op.a.length/\Below m bF X/\af.iI m m (.slice none 0 0) (.slice none 0 0) gA cz y bU cy aP X/\av X (m+1) 181 #[.func (.func 155) #[] #[]]/\X.ownsRow dE 3 1 fu bH.length (ints bH)/\X.ownsRow dF 3 1 fv bI.length (ints bI)/\aP=(J.aq a (op.a.take k)).foldl af.b_ 1) (λaT _=>op.a.length-(intOf aT).toNat)
     case atStart=>exact⟨0,1,rfl,by omega,fH.q,d9.q,fP.q,dv.q,dy.q,rfl⟩
     obtain⟨k,aP,rfl,cY,aE,bw,E,e8,e9,e'⟩:=hrel;obtain⟨bg,bZ,b9,b5,dw,dz⟩:=fq aE (aQ.q.trans (aE.mono (by omega))) bw E e8 e9;have dC:=qQ e';have eM:m<wr.heap.size:=bw.aL.lt;clear aE bw E e8 e9 e';by_cases ap:k<op.a.length
     .have cj:op.l.length+k<iE.length:=by rw[<-Ba.q.1,qW];omega
      have cg:iE[op.l.length+k]=op.a[k]:=by
       have c2:iE[op.l.length+k]?=(op.l++op.a)[op.l.length+k]?:=by rw[Ba.q.1]
       rw[qC cj,zO (by omega),kF,qC ap]at c2;injection c2
      have cp:=af.re Bd.q cj;rw[cg]at cp;obtain⟨c6,dH,cf,hi,_,_⟩:=(cF.q wr bZ.q).2.1;obtain⟨rfl,rfl⟩:T=c6/\aD=dH:=by simpa using cf
      obtain⟨gn,hb,rfl,gL,go⟩:=hi (by omega);have cO:=go k ap;have cb:=qQ (qD ap);clear cf hi go cg;generalize op.a[k]=cx at cp cO cb;obtain⟨q,rfl⟩:∃q:Nat,cx=(q:Int):=⟨cx.toNat,by omega⟩;have bB:q<a.length:=by omega
      obtain⟨be,_⟩:=bV.q wr bZ.q;obtain⟨bu,bT,rfl,eQ,bc⟩:=be (by omega);have a':=bc q bB;have bE:=cJ.q.1 a[q] (qP bB);have bL:=qQ (show(J.aq a (op.a.take (k+1))).foldl af.b_ 1=af.b_ aP a[q] by rw[cb.q,aj.iM a _ q bB,jE,<-dC.q];rfl);have fc:=b2 k;have fd:(k:Int)<(op.a.length:Int):=by omega
      have fi:=b2 q;have fj:(q:Int)<(a.length:Int):=by omega
      have cn:wr.cell? ⟨m+1,0,none⟩=some (.func (.func 155) #[] #[]):=b5.q.cell 0;clear bc be;generalize a[q]=x at a' bE bL;go_wp2_with fail;refine fk (λw'=>w'.cell? ⟨m+1,0,none⟩=some (.func (.func 155) #[] #[])/\w'.cell? ⟨bu,bT+q,none⟩=some (.int .i64 x)) 6 7 (⟨cn,a'⟩) (λaB=>?_);simp only[qF,qG];refine bX [] 0 128 ?_;refine bX [] 1 129 ?_;refine bX [4,5] 2 130 ?_;refine bX [4,5] 3 131 ?_;refine bX [5] 4 132 ?_;refine bX [] 5 133 ?_;try simp only[Act.put,bj,bk,bl]
      refine eW [_] 6 [] ?_;obtain⟨az,b6,bY,dx,dA⟩:=fC (b9.q.below (pJ (qK _ _))) b5.q.drew bg.q.drew (show wr.drew.ownsRow dE 3 1 fu bH.length (ints bH)from dw.q) (show wr.drew.ownsRow dF 3 1 fv bI.length (ints bI)from dz.q);clear cn aB cO a';generalize wr.drew=bo at az b6 bY dx dA |-;obtain⟨dk,b8,b0,bW,eb,ec⟩:=fq (af.nw m 6 aP x bo (az.q.aL.cell 6) (az.q.aL.frozen 6) az.q.e2 bE) (az.q.LZ bE) (b6.q.cR (p:=⟨m,6,none⟩) (by simp) (.int .i64 (af.b_ aP x))) (bY.q.setCell (p:=⟨m,6,none⟩) (qX _) (.int .i64 (af.b_ aP x))) (af.bq dx.q (λg E=>qN bo ⟨m,6,none⟩ (.int .i64 (af.b_ aP x)) g (λe=>af.fY dx.q az.q.aL (by decide) (by rw[E,e])))) (af.bq dA.q (λg E=>qN bo ⟨m,6,none⟩ (.int .i64 (af.b_ aP x)) g (λe=>af.fY dA.q az.q.aL (by decide) (by rw[E,e]))));go_wp2_with fail
      ((with_reducible refine dk.q.mono ?_);rintro e hk ⟨rfl,cq⟩)
      rw[cq];clear cq;generalize bo.setCell ⟨m,6,none⟩ (.int .i64 (af.b_ aP x))=gd at b8 b0 bW eb ec |-;go_wp2_with fail;go_roundw
      case rel=>exact⟨k+1,_,by go_num,by omega,bW.q,b8.q,b0.q,eb.q,ec.q,bL.q.symm⟩
      case measure=>simp[intOf];omega
     have cZ:k=op.a.length:=by omega
     have gb:=qQ (show aP=(J.aq a op.a).foldl af.b_ 1 by rw[dC.q,cZ,zS]);subst cZ;clear cY ap dC;obtain⟨bf,gw,gZ,_⟩:=ai.aZ dw.q;subst gZ;obtain⟨fA,gx,g0,_⟩:=ai.aZ dz.q;subst g0;have cN:=qQ (V.q.below (aU.q.trans (bg.q.mono cm)) V.q.lt);have bM:=qQ (λW (aE:Below wr.heap.size wr W)=>qZ (cF.q W (aA bZ.q aE)) (qZ (((af.b3 dw.q).below aE).up aE.size) (((af.b3 dz.q).below aE).up aE.size)));go_wp2_with fail;clear cI dS;have aJ:=λW (aE:Below wr.heap.size wr W)=>λi=>(cN.q.go aE).cell i
     refine aH (l:=[_,_,_,_]) [(0,136,[]),(1,137,[0]),(2,138,[]),(3,139,[]),(4,140,[3]),(5,141,[1,2,4]),(6,142,[5]),(7,143,[]),(8,144,[7]),(9,145,[]),(10,146,[]),(11,147,[10]),(12,148,[8,9,11]),(13,149,[12])] [14,15,16,17] [.eq _,.eq _,.eq _,.eq _,.eq _,.row wr.heap.size 23 3 #[.slice O op.l.length co,.slice bf bH.length gw,.slice T op.a.length aD],af.Lz,.eq _,.eq _,.eq _,.eq _,.eq _,.row wr.heap.size 23 3 #[.slice b1 op.h.length ci,.slice fA bI.length gx,.slice S op.s.length cs],af.Lz]
      (λW=>Below wr.heap.size wr W) (qK _ _).drew ((fr)<|(fr)<|(fr)<|(fr)<|(fr)<|cr ?_<|cr ?_<|(fr)<|(fr)<|(fr)<|(fr)<|(fr)<|cr ?_<|cr ?_<|fg) ?_ (λ_ _ h dK=>aA h dK)
     .exact ZT
     .intros;rename_i bD K aI;have a_:=(show Below wr.heap.size wr _ by assumption);obtain⟨g,rfl,E,aR⟩:=bD;subst_vars;have dt:=af.rM g op.l bH op.a _ (by omega) (af.Ew aR aR.lt (bM.q _ a_).1.1 (bM.q _ a_).2.1 (bM.q _ a_).1.2.1);exact Zu
     .exact ZT
     .intros;rename_i bD K aI;have a_:=(show Below wr.heap.size wr _ by assumption);obtain⟨g,rfl,E,aR⟩:=bD;subst_vars;have dt:=af.rM g op.h bI op.s _ (by omega) (af.Ew aR aR.lt (bM.q _ a_).1.2.2.1 (bM.q _ a_).2.2 (bM.q _ a_).1.2.2.2);exact Zu
     intros;rename_i a1 a_ a0 dm a2 a3 a4 _ s1 gj gl a9 gg gi _ s2;subst a0 dm a2 a3 a4 gj gl a9 gg gi;obtain⟨I,U,M,rfl⟩:=s1;obtain⟨Y,aF,ag,rfl⟩:=s2;have aQ:=qQ a_;clear aJ a_;obtain⟨aX,fU,fG⟩:=aK (b9.q.below aQ.q) ((bh.q.below (bg.q.mono (by omega)) bh.q.lt).below aQ.q (bh.q.below (bg.q.mono (by omega)) bh.q.lt).lt) (bZ.q.trans (aQ.q.mono bZ.q.size));have hr:=aX.q.aL.frozen 0;have hs:=aX.q.aL.frozen 1;obtain⟨a6,Z,fD⟩:=aK ((aX.q.aL.bs 0 (.slice I U M)).bs 1 (.slice Y aF ag)) ((fU.q.cR (p:=⟨m,0,none⟩) (by simp;omega) (.slice I U M)).cR (p:=⟨m,1,none⟩) (by simp;omega) (.slice Y aF ag)) ((fG.q.setCell (p:=⟨m,0,none⟩) (by simp;omega) (.slice I U M)).setCell (p:=⟨m,1,none⟩) (by simp;omega) (.slice Y aF ag));obtain⟨dY,ez,gN,_⟩:=ai.aZ aX.q.own;subst gN;have h5:((a1.setCell ⟨m,0,none⟩ (.slice I U M)).setCell ⟨m,1,none⟩ (.slice Y aF ag)).cell? ⟨m,0,none⟩=some (.slice I U M):=a6.q.cell 0;have h6:((a1.setCell ⟨m,0,none⟩ (.slice I U M)).setCell ⟨m,1,none⟩ (.slice Y aF ag)).cell? ⟨m,1,none⟩=some (.slice Y aF ag):=a6.q.cell 1;have h7:((a1.setCell ⟨m,0,none⟩ (.slice I U M)).setCell ⟨m,1,none⟩ (.slice Y aF ag)).cell? ⟨m,2,none⟩=some (.slice dY cz.length ez):=a6.q.cell 2;have h8:((a1.setCell ⟨m,0,none⟩ (.slice I U M)).setCell ⟨m,1,none⟩ (.slice Y aF ag)).cell? ⟨m,3,none⟩=some (.int .i64 y):=a6.q.cell 3;have h9:((a1.setCell ⟨m,0,none⟩ (.slice I U M)).setCell ⟨m,1,none⟩ (.slice Y aF ag)).cell? ⟨m,4,none⟩=some (.int .i64 bU):=a6.q.cell 4;have h_:((a1.setCell ⟨m,0,none⟩ (.slice I U M)).setCell ⟨m,1,none⟩ (.slice Y aF ag)).cell? ⟨m,5,none⟩=some (.int .i64 cy):=a6.q.cell 5;have h':((a1.setCell ⟨m,0,none⟩ (.slice I U M)).setCell ⟨m,1,none⟩ (.slice Y aF ag)).cell? ⟨m,6,none⟩=some (.int .i64 aP):=a6.q.cell 6;have c_:a1.cell? ⟨m,0,none⟩=some (.slice none 0 0):=aX.q.aL.cell 0;have s1:(a1.setCell ⟨m,0,none⟩ (.slice I U M)).cell? ⟨m,1,none⟩=some (.slice none 0 0):=(aX.q.aL.bs 0 (.slice I U M)).cell 1;have hv:=(aX.q.aL.bs 0 (.slice I U M)).frozen 1;have ek:=Z.q.cell 0;have en:=Z.q.cell 1;have eo:=Z.q.cell 2;have GH:=Z.q.cell 3;have GI:=Z.q.cell 4;have GJ:=Z.q.cell 5;have GK:=Z.q.cell 6;have f0:=Z.q.frozen 0;have f1:=Z.q.frozen 1;have f2:=Z.q.frozen 2;have f3:=Z.q.frozen 3;have f4:=Z.q.frozen 4;have f5:=Z.q.frozen 5;have f6:=Z.q.frozen 6;have hY:ak.heap.size≠m:=by omega
     have fR:=qQ (af.ij (af.ij aX.q.own (p:=⟨m,0,none⟩) (λg E e=>aX.q.apart (by rw[E,e])) (.slice I U M)) (p:=⟨m,1,none⟩) (λg E e=>aX.q.apart (by rw[E,e])) (.slice Y aF ag));have g5:ak.heap.size<m:=by omega
     go_wp2_with fail;refine qR (v:=.tuple #[.agg #[(.slice I U M),(.slice Y aF ag),.slice dY cz.length ez,.int .i64 y,.int .i64 bU,.int .i64 cy,.int .i64 aP],.int .i64 0]) (by simp[results,results125,go_sem,ek,en,eo,GH,GI,GJ,GK]) rfl ?_;rw[br.q,hI.q,<-gb.q];exact⟨_,_,_,_,_,_,_,_,_,_,rfl,ai.fh (af.wk fR.q g5 _ _ _ _ _ _ _) (by omega),af.seven fD.q (by omega) _ _ _ _ _ _ _⟩
  have d2:((op.l.length:Int) != (op.h.length:Int))=true:=by simp;omega
  have br:=qQ (show J.et op a b=([],6) by rw[a8.q];exact qY (.inr (.inl bz)));exact QT
 have d1:((op.a.length:Int) != (op.s.length:Int))=true:=by simp;omega
 have br:=qQ (show J.et op a b=([],6) by rw[a8.q];exact qY (.inl aO));exact QT
theorem af.FO(val:Value)(op:J.Op)(A:Option Addr)(cap:Nat)(d f:List Int)(B:Nat)(w:World)(ah:B<=w.heap.size)(U:af.cJ op)(cn:2<=cap)(cp:cap<=9223372036854775807)(bH:af.bd w B val op)(aX:af.bu w B A [d,f])(bG:op.k=16):Calls Tryz.prog 90 #[val,.slice A 2 cap] w λe w'=>af.gF w w' (J.I op [d,f]) e:=by
 have bY:=aX;obtain⟨b,off,rfl,cj,a1⟩:=bY (by simp);obtain⟨v0,M,bf,bT,rfl,i0,b8,m0⟩:=a1 0 (by simp);obtain⟨cH,aU,aQ,aO,rfl,a5,cW,m1⟩:=a1 1 (by simp);rw[qL]at M;simp only[zY,jB]at M i0 b8 aU a5 cW;have bO:=qQ i0;have bP:=qQ a5;have cm:b<w.heap.size:=by omega
 clear a1 i0 a5;have aI:=qQ (bH.bI ah);have bM:=qQ (aX.bI ah);obtain⟨v1,v2,v3,v4,v5,rfl,⟨D,cD,rfl,tu,bL,cw⟩,⟨T,aD,rfl,it,lt,mt⟩,⟨O,co,rfl,io,lo,cy⟩,⟨b1,ci,rfl,ii,li,cx⟩,⟨S,cs,rfl,is,ls,ms⟩⟩:=bH;refine JC ?_;intro mh cd bp hv ak cI;rw[cI]at cd bp hv;obtain⟨cb,b_,e0,fv⟩:=cV (af.fK _ op _ cap [d,f] ak.heap.size ak (qX _) (by first | omega | simp) (aI.q ak bp.q) (bM.q ak bp.q)) (show op.I.length<=cD/\op.a.length<=aD/\op.l.length<=co/\op.h.length<=ci/\op.s.length<=cs from⟨bL,lt,lo,li,ls⟩) (λh=>aj.fz (op:=op) (args:=[d,f]) h) (λh=>aj.fA (op:=op) (args:=[d,f]) h);clear tu it io ii is bL lt lo li ls aX;simp only[qH,zM,qI,Nat.reduceAdd]at cb;rw[bG]at cd cb aI cI |-;have b0:ak.cell? ⟨w.heap.size,0,none⟩=some (.int .i64 16):=cd.q.cell 0;refine JA ?_;intro eT dT bA cq eC e2;go_wp2_with fail;refine VP ?_;intro ag bU fZ fm;clear cb cI b0 eT dT bA cq eC e2;by_cases eG:aj.cf op [d,f]≠0
 .have br:=qQ (aj.hV eG);have hq:(aj.cf op [d,f] != 0)=true:=by simpa using eG
  generalize aj.cf op [d,f]=f at hq br eG;exact XH
 have Q:aj.cf op [d,f]=0:=by omega
 have bs:=qQ (e0.q Q);have bw:=qQ (fv.q Q);rw[Q];have b9:ag.cell? ⟨w.heap.size,0,none⟩=some (.int .i64 16):=fZ.q.cell 0;refine JI ?_;intro fp b' ca cl ct c3;clear eG Q e0 fv;have bJ:=bw.q d (by simp);have bK:=bw.q f (by simp);obtain⟨bZ,bE,_⟩:=R.aB bJ;obtain⟨b2,bF,_⟩:=R.aB bK;have bn:=qQ (qZ bE bF);have aL:=(bU.q.cell (p:=⟨b,off,none⟩) (by show b<w.heap.size;omega)).trans M;have aN:=(bU.q.cell (p:=⟨b,off+1,none⟩) (by show b<w.heap.size;omega)).trans aU;have i1:(0:Int)<2:=by omega
 have i2:(1:Int)<2:=by omega
 clear M aU bJ bK bE bF;have aJ:=qQ (show J.aP op [d,f]=J.et op d f by rw[J.Iz];unfold J.aP;simp[bG]);obtain⟨⟨l,x⟩,bD⟩:∃bm,J.et op d f=bm:=⟨_,rfl⟩;obtain⟨Z,bW⟩:∃Z,Z=Obj.cells #[.slice none 0 0,.slice none 0 0,.slice none 0 0,.int .i64 0,.int .i64 0,.int .i64 0,.int .i64 0] 154 (0,0):=⟨_,rfl⟩;have bg:=av.new ag 154 #[.slice none 0 0,.slice none 0 0,.slice none 0 0,.int .i64 0,.int .i64 0,.int .i64 0,.int .i64 0];have m:=fZ.q.alloc Z;have bh:=qQ (bU.q.alloc (by omega) Z);have aR:=(kW ag Z ⟨b,off,none⟩ (xp aL)).trans aL;have aT:=(kW ag Z ⟨b,off+1,none⟩ (xp aN)).trans aN;have a3:(ag.alloc Z).heap.size=ag.heap.size+1:=by simp
 have a7:(ag.alloc Z).cell? ⟨w.heap.size,0,none⟩=some (.int .i64 16):=m.cell 0;have a8:(ag.alloc Z).cell? ⟨w.heap.size,1,none⟩=some (.slice D op.I.length cD):=m.cell 1;have a9:(ag.alloc Z).cell? ⟨w.heap.size,2,none⟩=some (.slice T op.a.length aD):=m.cell 2;have a_:(ag.alloc Z).cell? ⟨w.heap.size,3,none⟩=some (.slice O op.l.length co):=m.cell 3;have a':(ag.alloc Z).cell? ⟨w.heap.size,4,none⟩=some (.slice b1 op.h.length ci):=m.cell 4;have bc:(ag.alloc Z).cell? ⟨w.heap.size,5,none⟩=some (.slice S op.s.length cs):=m.cell 5;have be:(ag.alloc Z).cell? ⟨w.heap.size,6,none⟩=some (.int .i64 op.v):=m.cell 6;subst bW;have aG:=qQ bg;obtain⟨a6,a4⟩:=gz (ag.alloc (.cells #[.slice none 0 0,.slice none 0 0,.slice none 0 0,.int .i64 0,.int .i64 0,.int .i64 0,.int .i64 0] 154));obtain⟨P,aW⟩:=gz ag.heap.size;rw[a4]at aG bh aR aT a3 a7 a8 a9 a_ a' bc be;rw[aW]at aG a3 fm;have bS:=qQ a4;have bR:=qQ aW;clear m bg a4 aW aL aN;go_wp2_with fail;simp only[bS.q,bR.q];refine fk (λw'=>w'.cell? ⟨w.heap.size,0,none⟩=some (.int .i64 16)/\w'.cell? ⟨w.heap.size,1,none⟩=some (.slice D op.I.length cD)/\w'.cell? ⟨w.heap.size,2,none⟩=some (.slice T op.a.length aD)/\w'.cell? ⟨w.heap.size,3,none⟩=some (.slice O op.l.length co)/\w'.cell? ⟨w.heap.size,4,none⟩=some (.slice b1 op.h.length ci)/\w'.cell? ⟨w.heap.size,5,none⟩=some (.slice S op.s.length cs)/\w'.cell? ⟨w.heap.size,6,none⟩=some (.int .i64 op.v)/\w'.cell? ⟨b,off,none⟩=some (.slice bf d.length bT)/\w'.cell? ⟨b,off+1,none⟩=some (.slice aQ f.length aO)) 7 13 (⟨a7,a8,a9,a_,a',bc,be,aR,aT⟩) (λaV=>?_);simp only[qF,qG];refine bX [] 0 88 ?_;refine bX [2,3] 1 89 ?_;refine bX [3] 2 90 ?_;refine bX [] 3 91 ?_;refine bX [5,6] 4 92 ?_;refine bX [6] 5 93 ?_;refine bX [] 6 94 ?_;try simp only[Act.put,bj,bk,bl]
 have j:=qQ (show Below w.heap.size w a6.drew from bh.q.drew);have aH:=qQ aG.q.drew;have b6:a6.drew.heap.size=P+1:=a3;clear aV b9 fp b' ca cl ct c3 a7 a8 a9 a_ a' bc be aR aT;generalize a6.drew=az at j aH b6 |-;have aF:=qQ (af.GA _ op bf aQ bT aO d f az.heap.size az (qX _) bZ b2 bn.q.1 bn.q.2 ⟨U.2.1,U.2.2.1,U.2.2.2.1,U.2.2.2.2⟩ (aI.q az j.q) ((bO.q.below (j.q.mono ah)).up (qJ ah j.q.size)) ((bP.q.below (j.q.mono ah)).up (qJ ah j.q.size)));rw[bD]at aF aJ;dsimp only at aF;clear bD;refine eh 7 (by kernel_rfl) (dq rfl rfl (by kernel_rfl) (λK bB=>?_));go_simp
 ((with_reducible refine aF.q.mono ?_);rintro e aw ⟨ap,Y,V,aq,ao,X,uk,z3,z4,z5,rfl,a2,a0⟩)
 have bQ:=qQ a2;obtain⟨r,E,b7,_⟩:=ai.aZ a2;subst b7;have i:=qQ (aH.q.below a0 aH.q.lt);have bN:=qQ (aA j.q a0);have cu:P<aw.heap.size:=i.q.lt;clear a2 a0;generalize af.eO op d f=aC;try go_simp
 refine bB.q _ _ trivial (λaV=>?_);clear bB K;try simp only[bj,bk,bl]
 refine mw 8 87 ?_;refine mw 9 96 ?_;refine mw 10 97 ?_;try simp only[Act.put,bj,bk,bl]
 have cz:aw.cell? ⟨P,0,none⟩=some (.slice none 0 0):=i.q.cell 0;have cA:aw.cell? ⟨P,1,none⟩=some (.slice none 0 0):=i.q.cell 1;have cB:aw.cell? ⟨P,2,none⟩=some (.slice none 0 0):=i.q.cell 2;have cC:aw.cell? ⟨P,3,none⟩=some (.int .i64 0):=i.q.cell 3;have cE:aw.cell? ⟨P,4,none⟩=some (.int .i64 0):=i.q.cell 4;have cF:aw.cell? ⟨P,5,none⟩=some (.int .i64 0):=i.q.cell 5;have cG:aw.cell? ⟨P,6,none⟩=some (.int .i64 0):=i.q.cell 6;have f0:=i.q.frozen 0;have f1:=i.q.frozen 1;have f2:=i.q.frozen 2;have f3:=i.q.frozen 3;have f4:=i.q.frozen 4;have f5:=i.q.frozen 5;have f6:=i.q.frozen 6;have Ds:=qQ (af.seven bN.q (show w.heap.size<=P by omega) (.slice ap Y V) (.slice aq ao X) (.slice r l.length E) (.int .i64 z3) (.int .i64 z4) (.int .i64 z5) (.int .i64 aC));have bo:=qQ (af.lH (N:=w.heap.size) (af.wk bQ.q (show P<az.heap.size by omega) (.slice ap Y V) (.slice aq ao X) (.slice r l.length E) (.int .i64 z3) (.int .i64 z4) (.int .i64 z5) (.int .i64 aC)) j.q.size);obtain⟨bt,bz,bx,i2,cX,m2⟩:=bo.q.1;simp only[xO,true_and]at bx;obtain⟨rfl,rfl⟩:=bx;clear aV;by_cases he:x=0
 .subst he;refine eW [_,_] 11 [12] ?_;have bv:=qQ (show J.I op [d,f]=aj.tail (l,0)from by rw[bs.q,aJ.q]);have bq:=qQ (er r E l (((((((aw.setCell ⟨P,0,none⟩ (.slice ap Y V)).setCell ⟨P,1,none⟩ (.slice aq ao X)).setCell ⟨P,2,none⟩ (.slice r l.length E)).setCell ⟨P,3,none⟩ (.int .i64 z3)).setCell ⟨P,4,none⟩ (.int .i64 z4)).setCell ⟨P,5,none⟩ (.int .i64 z5)).setCell ⟨P,6,none⟩ (.int .i64 aC)).heap.size (((((((aw.setCell ⟨P,0,none⟩ (.slice ap Y V)).setCell ⟨P,1,none⟩ (.slice aq ao X)).setCell ⟨P,2,none⟩ (.slice r l.length E)).setCell ⟨P,3,none⟩ (.int .i64 z3)).setCell ⟨P,4,none⟩ (.int .i64 z4)).setCell ⟨P,5,none⟩ (.int .i64 z5)).setCell ⟨P,6,none⟩ (.int .i64 aC)) (by omega) i2);by_cases y:(R.size l).2≠0
  .have b3:((R.size l).2 != 0)=true:=by simpa using y
   have br:=qQ (show J.I op [d,f]=([],(R.size l).2) by rw[bv.q];exact aj.gl y);clear y;go_wp2_with fail;refine bq.q.mono ?_;rintro e dX ⟨rfl,rfl⟩;simp only[ai.b5];exact Xj
  have b3:((R.size l).2 != 0)=false:=by simpa using y
  have br:=qQ (show J.I op [d,f]=(l,0) by rw[bv.q];exact aj.ir (by omega));have cg:(R.size l).2=0:=by omega
  clear y;go_wp2_with fail;refine bq.q.mono ?_;rintro e dX ⟨rfl,rfl⟩;simp only[ai.b5];go_wp2_with fail
  go_ret2
  rw[br.q];exact⟨⟨_,rfl,bo.q⟩,Ds.q⟩
 have hq:(x != 0)=true:=by simpa using he
 have cr:(x == 0)=false:=by simpa using he
 have br:=qQ (show J.I op [d,f]=([],x) by rw[bs.q,aJ.q];exact aj.m' he);clear he;refine eW [_,_] 11 [12] ?_;exact Xj
theorem af.se(val:Value)(op:J.Op)(A:Option Addr)(cap:Nat)(args:List (List Int))(B:Nat)(w:World)(ah:B<=w.heap.size)(aC:args.length<=8388608)(N:af.bd w B val op)(M:af.bu w B A args)(ao:aj.cf op args≠0):Calls Tryz.prog 90 #[val,.slice A args.length cap] w λe w'=>af.gF w w' (J.I op args) e:=by
 obtain⟨K,ap⟩:=gz op.k;have E:=qQ (N.bI ah);have X:=qQ (M.bI ah);obtain⟨v1,v2,v3,v4,v5,rfl,⟨D,cD,rfl,U,V,aF⟩,⟨T,aD,rfl,it,lt,mt⟩,⟨O,co,rfl,io,lo,aH⟩,⟨b1,ci,rfl,ii,li,aG⟩,⟨S,cs,rfl,is,ls,ms⟩⟩:=N;obtain⟨aq,i,m⟩:=aK (λW (j:Below w.heap.size w W)=>qZ ((U.below (j.mono ah)).up (qJ ah j.size)) (qZ ((it.below (j.mono ah)).up (qJ ah j.size)) (qZ ((io.below (j.mono ah)).up (qJ ah j.size)) (qZ ((ii.below (j.mono ah)).up (qJ ah j.size)) ((is.below (j.mono ah)).up (qJ ah j.size)))))) (av.new w 58 #[.int .i64 op.k,.slice D op.I.length cD,.slice T op.a.length aD,.slice O op.l.length co,.slice b1 op.h.length ci,.slice S op.s.length cs,.int .i64 op.v]) ((qK w.heap.size w).alloc (qX _) (.cells #[.int .i64 op.k,.slice D op.I.length cD,.slice T op.a.length aD,.slice O op.l.length co,.slice b1 op.h.length ci,.slice S op.s.length cs,.int .i64 op.v] 58));have Q:(w.alloc (.cells #[.int .i64 op.k,.slice D op.I.length cD,.slice T op.a.length aD,.slice O op.l.length co,.slice b1 op.h.length ci,.slice S op.s.length cs,.int .i64 op.v] 58)).heap.size=w.heap.size+1:=by simp
 obtain⟨ak,y⟩:=gz (w.alloc (.cells #[.int .i64 op.k,.slice D op.I.length cD,.slice T op.a.length aD,.slice O op.l.length co,.slice b1 op.h.length ci,.slice S op.s.length cs,.int .i64 op.v] 58));rw[y]at i m Q;obtain⟨x,az,e0,fv⟩:=cV (af.fK _ op _ cap args ak.heap.size ak (qX _) (by first | omega | simp) (E.q ak m.q) (X.q ak m.q)) (show op.I.length<=cD/\op.a.length<=aD/\op.l.length<=co/\op.h.length<=ci/\op.s.length<=cs from⟨V,lt,lo,li,ls⟩) (λh=>aj.fz (op:=op) (args:=args) h) (λh=>aj.fA (op:=op) (args:=args) h);clear U it io ii is V lt lo li ls M
 skip
 rw[ap]at i x E y |-;have b0:ak.cell? ⟨w.heap.size,0,none⟩=some (.int .i64 K):=i.q.cell 0;have Y:ak.cell? ⟨w.heap.size,1,none⟩=some (.slice D op.I.length cD):=i.q.cell 1;have Z:ak.cell? ⟨w.heap.size,2,none⟩=some (.slice T op.a.length aD):=i.q.cell 2;have bA:ak.cell? ⟨w.heap.size,3,none⟩=some (.slice O op.l.length co):=i.q.cell 3;have cq:ak.cell? ⟨w.heap.size,4,none⟩=some (.slice b1 op.h.length ci):=i.q.cell 4;have eC:ak.cell? ⟨w.heap.size,5,none⟩=some (.slice S op.s.length cs):=i.q.cell 5;have e2:ak.cell? ⟨w.heap.size,6,none⟩=some (.int .i64 op.v):=i.q.cell 6;go_enter func90,ntmps90;go_wp2_with fail
 ((with_reducible refine x.q.mono ?_);rintro e ag ⟨rfl,r⟩)
 have bU:=qQ (aA m.q r);have aB:=qQ (i.q.below r i.q.lt);have aE:w.heap.size+1<=ag.heap.size:=by rw[<-Q];exact r.size
 clear r x y b0 Y Z bA cq eC e2;by_cases eG:aj.cf op args≠0
 .exact ZV
 exact absurd (by omega) ao
theorem af.sd(val:Value)(op:J.Op)(A:Option Addr)(cap:Nat)(args:List (List Int))(B:Nat)(w:World)(ah:B<=w.heap.size)(q:af.cJ op)(U:args.length<=8388608)(r:args.length<=cap)(x:cap<=9223372036854775807)(m:af.bd w B val op)(j:af.bu w B A args):Calls Tryz.prog 90 #[val,.slice A args.length cap] w λe w'=>af.gF w w' (J.I op args) e:=by
 by_cases S:aj.cf op args=0
 .obtain⟨i,_⟩:=aj.sk S;unfold J.right at i;by_cases M:op.k=2
  .rw[qY M]at i;obtain rfl:args=[]:=List.length_eq_zero_iff.1 (by by_cases e:args.length=0;exact e;rw[qV e]at i;cases i);exact af.nt val op A cap B w ah q m j M
  rw[qV M]at i;by_cases N:op.k=3\/op.k=4\/op.k=5\/op.k=6\/op.k=7\/op.k=16\/op.k=18\/op.k=19
  .rw[qY N]at i;have y:args.length=2:=by by_cases e:args.length=2;exact e;rw[qV e]at i;cases i
   have D:2<=args.length:=by omega
   obtain⟨d,f,rfl⟩:∃d f,args=[d,f]:=by
    match args,y with
    | [d,f],_=>exact⟨d,f,rfl⟩
   rcases N with k | k | k | k | k | k | k | k
   .exact af.js val op A cap [d,f] B w ah q D r x m j 3 (by simp) k
   .exact af.js val op A cap [d,f] B w ah q D r x m j 4 (by simp) k
   .exact af.js val op A cap [d,f] B w ah q D r x m j 5 (by simp) k
   .exact af.js val op A cap [d,f] B w ah q D r x m j 6 (by simp) k
   .exact af.js val op A cap [d,f] B w ah q D r x m j 7 (by simp) k
   .exact af.FO val op A cap d f B w ah q r x m j k
   .exact af.DQ val op A cap d f B w ah q r x m j k
   exact af.FQ val op A cap d f B w ah q r x m j k
  rw[qV N]at i;by_cases O:op.k=8
  .rw[qY O]at i;have y:args.length=3:=by by_cases e:args.length=3;exact e;rw[qV e]at i;cases i
   exact af.js val op A cap args B w ah q (by omega) r x m j 8 (by simp) O
  rw[qV O]at i;by_cases Q:op.k=9\/op.k=10\/op.k=11\/op.k=12\/op.k=13\/op.k=14\/op.k=15
  .rw[qY Q]at i;have y:args.length=1:=by by_cases e:args.length=1;exact e;rw[qV e]at i;cases i
   obtain⟨d,rfl⟩:=List.length_eq_one_iff.1 y;rcases Q with k | k | k | k | k | k | k
   .exact af.lF val op A cap d B w ah q r x m j 9 (by simp) k
   .exact af.FR val op A cap d B w ah q r x m j k
   .exact af.lF val op A cap d B w ah q r x m j 11 (by simp) k
   .exact af.lF val op A cap d B w ah q r x m j 12 (by simp) k
   .exact af.lF val op A cap d B w ah q r x m j 13 (by simp) k
   .exact af.FP val op A cap d B w ah q r x m j k
   exact af.lF val op A cap d B w ah q r x m j 15 (by simp) k
  rw[qV Q]at i;by_cases E:op.k=17
  .rw[qY E]at i;have y:0<args.length:=by by_cases e:args.length=0;rw[qY e]at i;cases i;omega
   exact af.DP val op A cap args B w ah q y U r x m j E
  rw[qV E]at i;cases i
 exact af.se val op A cap args B w ah U m j S
end Go.Proofs.YtabmnaaidfpmcaaGreatDoor
end
