/-
  ArrX, ArrV, ArrT, ArrU. Conditions: where the theorems name them.
-/
import Derived.Test.YtabmnaaidfpmcaaGreatDoorV16
set_option linter.unusedVariables false
set_option maxRecDepth 100000
set_option maxHeartbeats 16000000
open Go.Proofs.Tryz
section
namespace Go.Proofs.YtabmnaaidfpmcaaGreatDoor
open Go.RowKit aS
namespace af
def ho(w w':World)(r:List Int × Int)(e:Ending):Prop:=∃v,e=.returned (.tuple #[v,.int .i64 r.2])/\aN w' w'.heap.size v r.1/\Below w.heap.size w w'
end af
theorem af.C3(val:Value)(op:J.Op)(A:Option Addr)(cap:Nat)(args:List (List Int))(B:Nat)(w:World)(ah:B<=w.heap.size)(aA:af.cJ op)(N:∀d∈args,(R.size d).2=0)(E:af.bd w B val op)(y:af.bu w B A args)(m:op.k=2):Calls Tryz.prog 79 #[val,.slice A args.length cap] w λe w'=>af.ho w w' (J.aP op args) e:=by
 obtain⟨Z,Y,ap⟩:=aK (show J.aP op args=(op.I,0) by unfold J.aP;rw[qY m]) (E.bI ah) (y.bI ah);obtain⟨v1,v2,v3,v4,v5,rfl,⟨D,cD,rfl,Q,U,V⟩,⟨T,aD,rfl,it,lt,mt⟩,⟨O,co,rfl,io,lo,ao⟩,⟨b1,ci,rfl,ii,li,ag⟩,⟨S,cs,rfl,is,ls,ms⟩⟩:=E;obtain⟨X,i,r⟩:=aK (λW (j:Below w.heap.size w W)=>qZ ((Q.below (j.mono ah)).up (qJ ah j.size)) ((it.below (j.mono ah)).up (qJ ah j.size))) (av.new w 58 #[.int .i64 op.k,.slice D op.I.length cD,.slice T op.a.length aD,.slice O op.l.length co,.slice b1 op.h.length ci,.slice S op.s.length cs,.int .i64 op.v]) ((qK w.heap.size w).alloc (qX _) (.cells #[.int .i64 op.k,.slice D op.I.length cD,.slice T op.a.length aD,.slice O op.l.length co,.slice b1 op.h.length ci,.slice S op.s.length cs,.int .i64 op.v] 58));obtain⟨ak,M⟩:=gz (w.alloc (.cells #[.int .i64 op.k,.slice D op.I.length cD,.slice T op.a.length aD,.slice O op.l.length co,.slice b1 op.h.length ci,.slice S op.s.length cs,.int .i64 op.v] 58));rw[M]at i r;have aB:w.heap.size<ak.heap.size:=i.q.lt;have x:=qQ (show(op.I.length<=cD/\op.a.length<=aD/\op.l.length<=co/\op.h.length<=ci/\op.s.length<=cs)/\cD<=9223372036854775807/\aD<=9223372036854775807 from⟨⟨U,lt,lo,li,ls⟩,V,mt⟩);have az:=qQ N;clear Q it io ii is U lt lo li ls V mt ao ag ms y N
 skip
 have aq:=qQ m;rw[m]at i Y M |-;have aC:ak.cell? ⟨w.heap.size,0,none⟩=some (.int .i64 2):=i.q.cell 0;have aE:ak.cell? ⟨w.heap.size,1,none⟩=some (.slice D op.I.length cD):=i.q.cell 1;have b':ak.cell? ⟨w.heap.size,2,none⟩=some (.slice T op.a.length aD):=i.q.cell 2;have ca:ak.cell? ⟨w.heap.size,3,none⟩=some (.slice O op.l.length co):=i.q.cell 3;have cl:ak.cell? ⟨w.heap.size,4,none⟩=some (.slice b1 op.h.length ci):=i.q.cell 4;have ct:ak.cell? ⟨w.heap.size,5,none⟩=some (.slice S op.s.length cs):=i.q.cell 5;have c3:ak.cell? ⟨w.heap.size,6,none⟩=some (.int .i64 op.v):=i.q.cell 6;clear m;go_enter func79,ntmps79;go_wp2_with fail
 go_ret2
 rw[Z.q];exact⟨_,rfl,⟨D,cD,rfl,((X.q ak r.q).1),x.q.1.1,x.q.2.1⟩,r.q⟩
theorem af.im(val:Value)(op:J.Op)(A:Option Addr)(cap:Nat)(args:List (List Int))(B:Nat)(w:World)(ah:B<=w.heap.size)(bD:af.cJ op)(bg:2<=args.length)(be:args.length<=cap)(bw:cap<=9223372036854775807)(aA:∀d∈args,(R.size d).2=0)(aQ:af.bd w B val op)(ao:af.bu w B A args)(K:Int)(bb:K=3\/K=4\/K=5\/K=6\/K=7\/K=8)(V:op.k=K):Calls Tryz.prog 79 #[val,.slice A args.length cap] w λe w'=>af.ho w w' (J.aP op args) e:=by
 rcases bb with rfl | rfl | rfl | rfl | rfl | rfl
 all_goals
  obtain⟨n,az⟩:=gz args.length;have bc:=ao;obtain⟨b,off,rfl,bt,ap⟩:=bc (by omega);obtain⟨v0,Q,Y,bT,rfl,i0,aU,m0⟩:=ap 0 (by omega);rw[qL]at Q;obtain⟨a3,ag,aG⟩:=aK ap i0 az;have bv:b<w.heap.size:=by omega
  have aq:args.getD 0 []=args[0]'(by omega):=by simp[show 0<args.length by omega]
  obtain⟨a0,aJ⟩:=gz (args[0]'(by omega));have bk:=(R.aB (aA (args[0]'(by omega)) (qP _))).1;rw[aJ]at aq ag aU Q bk;have M:=qQ (show J.aP op args=if args.all (λd=>decide (d=a0))then(a0,0)else([],6) by
   unfold J.aP;rw[aq];simp[V])
  clear ap i0 aq aJ;have a7:=qQ (aQ.bI ah);have bn:=qQ (ao.bI ah);obtain⟨v1,v2,v3,v4,v5,rfl,⟨D,cD,rfl,aT,aV,aW⟩,⟨T,aD,rfl,it,lt,mt⟩,⟨O,co,rfl,io,lo,bm⟩,⟨b1,ci,rfl,ii,li,bl⟩,⟨S,cs,rfl,is,ls,ms⟩⟩:=aQ;obtain⟨bp,m,Z⟩:=aK (λW (U:Below w.heap.size w W)=>qZ ((aT.below (U.mono ah)).up (qJ ah U.size)) ((it.below (U.mono ah)).up (qJ ah U.size))) (av.new w 58 #[.int .i64 op.k,.slice D op.I.length cD,.slice T op.a.length aD,.slice O op.l.length co,.slice b1 op.h.length ci,.slice S op.s.length cs,.int .i64 op.v]) ((qK w.heap.size w).alloc (qX _) (.cells #[.int .i64 op.k,.slice D op.I.length cD,.slice T op.a.length aD,.slice O op.l.length co,.slice b1 op.h.length ci,.slice S op.s.length cs,.int .i64 op.v] 58));obtain⟨ak,aR⟩:=gz (w.alloc (.cells #[.int .i64 op.k,.slice D op.I.length cD,.slice T op.a.length aD,.slice O op.l.length co,.slice b1 op.h.length ci,.slice S op.s.length cs,.int .i64 op.v] 58));rw[aR]at m Z;have bE:w.heap.size<ak.heap.size:=m.q.lt;have bq:=qQ (show(op.I.length<=cD/\op.a.length<=aD/\op.l.length<=co/\op.h.length<=ci/\op.s.length<=cs)/\cD<=9223372036854775807/\aD<=9223372036854775807 from⟨⟨aV,lt,lo,li,ls⟩,aW,mt⟩);have br:=qQ aA;clear aT it io ii is aV lt lo li ls aW mt bm bl ms ao aA;rw[az]at bg be |-;have bo:=qQ V;rw[V]at m a7 aR |-;have bG:ak.cell? ⟨w.heap.size,0,none⟩=some (.int .i64 _):=m.q.cell 0;have bH:ak.cell? ⟨w.heap.size,1,none⟩=some (.slice D op.I.length cD):=m.q.cell 1;have b':ak.cell? ⟨w.heap.size,2,none⟩=some (.slice T op.a.length aD):=m.q.cell 2;have ca:ak.cell? ⟨w.heap.size,3,none⟩=some (.slice O op.l.length co):=m.q.cell 3;have cl:ak.cell? ⟨w.heap.size,4,none⟩=some (.slice b1 op.h.length ci):=m.q.cell 4;have ct:ak.cell? ⟨w.heap.size,5,none⟩=some (.slice S op.s.length cs):=m.q.cell 5;have c3:ak.cell? ⟨w.heap.size,6,none⟩=some (.int .i64 op.v):=m.q.cell 6;clear V;clear az;have a1:=qQ (show ∀j (i:j<args.length),args[j]≠a0->J.aP op args=([],6)from λj i bh=>by
   rw[M.q,qV (λh=>bh (by have:=List.all_eq_true.1 h _ (qP i);simpa using this))])
  have aZ:=qQ (show(∀j (i:j<args.length),args[j]=a0)->J.aP op args=(a0,0)from λh=>by
   rw[M.q,qY (List.all_eq_true.2 (λx r=>by obtain⟨j,i,rfl⟩:=zQ r;simp[h j i]))])
  have a9:=(Z.q.cell (p:=⟨b,off,none⟩) (by show b<w.heap.size;omega)).trans Q;clear Q M;obtain⟨X,bj⟩:∃X:World,X=ak:=⟨_,rfl⟩;subst bj;have bF:(0:Int)<n:=by omega
  go_enter func79,ntmps79;go_wp2_with fail;go_loopw [7,27] (λ_ aC wr=>∃(k d:Nat),aC=.int .i64 (k:Int)/\k<=n/\(∀j (i:j<args.length),j<k->args[j]=a0)/\wr=X.drewN d) (λ_ aC _=>n-(intOf aC).toNat)
  case atStart=>exact⟨0,0,rfl,by omega,λj _ h=>by omega,rfl⟩
  obtain⟨k,d,rfl,bA,aL,ar⟩:=hrel;obtain⟨aF,a4,y⟩:=aK aL ar (show Below w.heap.size w wr by rw[ar];exact zV Z.q d);have bs:wr.cell? ⟨b,off,none⟩=some (.slice Y a0.length bT):=by rw[ar];exact a9
  clear aL ar;by_cases bz:k<n
  .have aO:k<args.length:=by have:=aG.q;omega
   obtain⟨v,cu,aX,a_,rfl,hi,bf,bB⟩:=a3.q k aO;have a':=(y.q.cell (p:=⟨b,off+k,none⟩) (by show b<w.heap.size;omega)).trans cu;have E:=qQ (af.h9 aX Y a_ bT args[k] a0 B B wr (by omega) (by omega) (hi.below (y.q.mono ah)) (ag.q.below (y.q.mono ah)));have aH:=qQ (λh=>a1.q k aO h);have aI:=qQ (show args[k]=a0->∀j (i:j<args.length),j<k+1->args[j]=a0 from λh j i bx=>by
    by_cases e:j=k
    .subst e;exact h
    exact aF.q j i (by omega))
   have i1:=b2 k;have i2:(k:Int)<n:=by omega
   clear cu hi;generalize args[k]=x at a' E aH aI bf;by_cases r:x=a0
   .have a6:=qQ (aI.q r);rw[zD r]at E;clear r;go_wp2_with fail
    ((with_reducible refine E.q.mono ?_);rintro e aE ⟨rfl,d4,N⟩)
    have a5:=qQ (show aE=X.drewN (d+d4) by rw[N,a4.q,jI]);clear N;go_wp2_with fail;go_roundw
    case rel=>exact⟨k+1,d+d4,by go_num,by omega,a6.q,a5.q⟩
    case measure=>simp[intOf];omega
   have a8:=qQ (aH.q r);rw[zN r]at E;clear r;go_wp2_with fail
   ((with_reducible refine E.q.mono ?_);rintro e aE ⟨rfl,d4,N⟩)
   have a2:=qQ (show Below w.heap.size w aE by rw[N];exact zV y.q d4);clear N;go_wp2_with fail
   go_ret2
   rw[a8.q];exact⟨_,rfl,af.aN.nil _ _,a2.q⟩
  obtain rfl:k=n:=by omega
  have M:=qQ (aZ.q (λj i=>aF.q j i (by have:=aG.q;omega)));go_wp2_with fail
  go_ret2
  rw[M.q];exact⟨_,rfl,⟨Y,bT,rfl,(ag.q.below (y.q.mono ah)).up (qJ ah y.q.size),aU,m0⟩,y.q⟩
theorem af.E8(val:Value)(op:J.Op)(A:Option Addr)(cap:Nat)(d:List Int)(B:Nat)(w:World)(ah:B<=w.heap.size)(a0:af.cJ op)(bB:1<=cap)(bD:cap<=9223372036854775807)(E:∀x∈[d],(R.size x).2=0)(aX:af.bd w B val op)(aH:af.bu w B A [d])(ap:op.k=10):Calls Tryz.prog 79 #[val,.slice A 1 cap] w λe w'=>af.ho w w' (J.aP op [d]) e:=by
 have aQ:=qQ (show J.aP op [d]=if R.cB d.length op.a then(J.aq d (J.free d op.a),0)else([],6) by unfold J.aP;simp[ap]);have bh:=aH;obtain⟨b,off,rfl,bz,aV⟩:=bh (by simp);obtain⟨v0,Z,Q,bT,rfl,i0,bm,m0⟩:=aV 0 (by simp);rw[qL]at Z;simp only[zY]at Z i0 bm;have a8:=qQ i0;have bA:b<w.heap.size:=by omega
 clear aV i0;have a_:=qQ (aX.bI ah);have bs:=qQ (aH.bI ah);obtain⟨v1,v2,v3,v4,v5,rfl,⟨D,cD,rfl,a2,a3,a4⟩,⟨T,aD,rfl,it,lt,mt⟩,⟨O,co,rfl,io,lo,bp⟩,⟨b1,ci,rfl,ii,li,bo⟩,⟨S,cs,rfl,is,ls,ms⟩⟩:=aX;obtain⟨aO,j,V⟩:=aK (λW (i:Below w.heap.size w W)=>qZ ((a2.below (i.mono ah)).up (qJ ah i.size)) ((it.below (i.mono ah)).up (qJ ah i.size))) (av.new w 58 #[.int .i64 op.k,.slice D op.I.length cD,.slice T op.a.length aD,.slice O op.l.length co,.slice b1 op.h.length ci,.slice S op.s.length cs,.int .i64 op.v]) ((qK w.heap.size w).alloc (qX _) (.cells #[.int .i64 op.k,.slice D op.I.length cD,.slice T op.a.length aD,.slice O op.l.length co,.slice b1 op.h.length ci,.slice S op.s.length cs,.int .i64 op.v] 58));obtain⟨ak,a1⟩:=gz (w.alloc (.cells #[.int .i64 op.k,.slice D op.I.length cD,.slice T op.a.length aD,.slice O op.l.length co,.slice b1 op.h.length ci,.slice S op.s.length cs,.int .i64 op.v] 58));rw[a1]at j V;have bF:w.heap.size<ak.heap.size:=j.q.lt;have bw:=qQ (show(op.I.length<=cD/\op.a.length<=aD/\op.l.length<=co/\op.h.length<=ci/\op.s.length<=cs)/\cD<=9223372036854775807/\aD<=9223372036854775807 from⟨⟨a3,lt,lo,li,ls⟩,a4,mt⟩);have be:=qQ E;clear a2 it io ii is a3 lt lo li ls a4 mt bp bo ms aH E
 skip
 have bv:=qQ ap;rw[ap]at j a_ a1 |-;have bq:ak.cell? ⟨w.heap.size,0,none⟩=some (.int .i64 10):=j.q.cell 0;have br:ak.cell? ⟨w.heap.size,1,none⟩=some (.slice D op.I.length cD):=j.q.cell 1;have b':ak.cell? ⟨w.heap.size,2,none⟩=some (.slice T op.a.length aD):=j.q.cell 2;have ca:ak.cell? ⟨w.heap.size,3,none⟩=some (.slice O op.l.length co):=j.q.cell 3;have cl:ak.cell? ⟨w.heap.size,4,none⟩=some (.slice b1 op.h.length ci):=j.q.cell 4;have ct:ak.cell? ⟨w.heap.size,5,none⟩=some (.slice S op.s.length cs):=j.q.cell 5;have c3:ak.cell? ⟨w.heap.size,6,none⟩=some (.int .i64 op.v):=j.q.cell 6;clear ap;have E:=be.q d (by simp);obtain⟨bE,aW,_⟩:=R.aB E;have bt:=qQ aW;have bx:=qQ E;have r:=(V.q.cell (p:=⟨b,off,none⟩) (by show b<w.heap.size;omega)).trans Z;have i1:(0:Int)<1:=by omega
 clear Z E aW;have aR:=qQ (λW (i:Below w.heap.size w W)=>(i.cell (p:=⟨b,off,none⟩) (by show b<w.heap.size;omega)).trans ((V.q.cell (p:=⟨b,off,none⟩) (by show b<w.heap.size;omega)).symm.trans r));have M:=qQ (show Below w.heap.size w ak.drew from V.q.drew);go_enter func79,ntmps79;go_wp2_with fail;refine fk (λw'=>w'.cell? ⟨w.heap.size,2,none⟩=some (.slice T op.a.length aD)/\w'.cell? ⟨b,off,none⟩=some (.slice Q d.length bT)) 6 8 (⟨b',r⟩) (λao=>?_);simp only[qF,qG];refine bX [1] 0 43 ?_;refine bX [] 1 44 ?_;refine bX [3,4,5] 2 45 ?_;refine bX [4,5] 3 46 ?_;refine bX [5] 4 47 ?_;refine bX [] 5 48 ?_;try simp only[Act.put,bj,bk,bl]
 have aF:=qQ (j.q.drew);clear ao bq br b' ca cl ct c3 r;generalize ak.drew=m at M aF |-;have Y:=qQ (mi T aD op.a d.length m.heap.size m (by have:=a0.2.2.1;omega) (by omega) (aO.q m M.q).2);have b':m.cell? ⟨w.heap.size,2,none⟩=some (.slice T op.a.length aD):=aF.q.cell 2;have r:=aR.q m M.q;refine eW [_,_] 6 [7] ?_;by_cases y:R.cB d.length op.a=true
 .have aE:=qQ (show J.aP op [d]=(J.aq d (J.free d op.a),0) by rw[aQ.q,qY y]);rw[y]at Y;clear y;have az:=qQ (show Below w.heap.size w m.drew from M.q.drew);have aG:=qQ (show av m.drew w.heap.size _ _ from aF.q.drew);go_wp2_with fail
  ((with_reducible refine Y.q.mono ?_);rintro e aw ⟨rfl,rfl⟩)
  go_wp2_with fail;refine fk (λw'=>w'.cell? ⟨w.heap.size,2,none⟩=some (.slice T op.a.length aD)/\w'.cell? ⟨b,off,none⟩=some (.slice Q d.length bT)) 9 12 (⟨b',r⟩) (λao=>?_);simp only[qF,qG];refine bX [1,2] 0 51 ?_;refine bX [2] 1 52 ?_;refine bX [] 2 53 ?_;refine bX [4,5,8] 3 54 ?_;refine bX [5,8] 4 55 ?_;refine bX [8] 5 56 ?_;refine bX [7,8] 6 57 ?_;refine bX [8] 7 58 ?_;try simp only[Act.put,bj,bk,bl]
  clear b' r;generalize m.drew=wr at az aG ao |-;have aL:=qQ (af.hW Q T bT aD op.a d wr.heap.size wr (qX _) (by have:=a0.2.2.1;omega) (by omega) (aO.q wr az.q).2);obtain⟨U,ag⟩:=gz (J.free d op.a);have aJ:=qQ (show(∀k∈U,0<=k/\k<(d.length:Int))/\U.length<=d.length from⟨by rw[<-ag];exact aj.sl,by rw[<-ag];exact aj.hX _ _⟩);rw[ag]at aL aE;clear ag;refine fT 8 (λK aT=>?_);go_simp
  ((with_reducible refine aL.q.mono ?_);rintro e a5 ⟨v,rfl,N,i⟩)
  have X:=qQ (aA az.q i);have bc:=qQ (aG.q.below i aG.q.lt);obtain⟨a6,bf,rfl,i4,bn,m4⟩:=af.b3 N;have a9:=qQ i4;clear N i i4 bn m4;try go_simp
  refine aT.q _ _ ⟨⟨bc.q.cell 2,aR.q _ X.q⟩,trivial⟩ (λbg=>?_);clear aT K ao bg;try simp only[bj,bk,bl]
  have aI:=qQ (af.eE Q a6 bT bf U d a5.heap.size a5 (qX _) (by have:=aJ.q.2;omega) (by omega) aJ.q.1 a9.q ((a8.q.below (X.q.mono ah)).up (qJ ah X.q.size)));obtain⟨L,aU⟩:=gz (J.aq d U);rw[aU]at aI aE;clear aU;refine eW [_,_,_] 9 [10,11] ?_;go_wp2_with fail
  ((with_reducible refine aI.q.mono ?_);rintro e aC ⟨v,rfl,N,i⟩)
  have a7:=qQ (aA X.q i);have a':=qQ (af.b3 N);clear N i;go_wp2_with fail
  go_ret2
  rw[aE.q];exact⟨_,rfl,a'.q,a7.q⟩
 have aZ:R.cB d.length op.a=false:=by simpa using y
 have bb:=qQ (show J.aP op [d]=([],6) by rw[aQ.q,qV y]);rw[aZ]at Y;clear y aZ;go_wp2_with fail
 ((with_reducible refine Y.q.mono ?_);rintro e aw ⟨rfl,rfl⟩)
 go_wp2_with fail
 go_ret2
 rw[bb.q];exact⟨_,rfl,af.aN.nil _ _,M.q⟩
theorem _root_.Xk{G:Prop}(h:G:=by
 go_wp2_with fail
 go_ret2
 rw[br.q];exact⟨_,rfl,af.aN.nil _ _,bp.q⟩
 ):G:=h
theorem af.z7(val:Value)(op:J.Op)(A:Option Addr)(cap:Nat)(d:List Int)(B:Nat)(w:World)(ah:B<=w.heap.size)(aO:af.cJ op)(a5:1<=cap)(a6:cap<=9223372036854775807)(m:∀x∈[d],(R.size x).2=0)(ao:af.bd w B val op)(U:af.bu w B A [d])(N:op.k=12):Calls Tryz.prog 79 #[val,.slice A 1 cap] w λe w'=>af.ho w w' (J.aP op [d]) e:=by
 have Y:=qQ (show J.aP op [d]=if (R.size op.I).2≠0 then([],(R.size op.I).2)else if (R.size d).1≠(R.size op.I).1 then([],6)else(op.I,0) by unfold J.aP;simp[N]);have aL:=U;obtain⟨b,off,rfl,a3,Z⟩:=aL (by simp);obtain⟨v0,E,aF,bT,rfl,i0,aQ,m0⟩:=Z 0 (by simp);rw[qL]at E;simp only[zY]at E i0 aQ;have aG:=qQ i0;have a4:b<w.heap.size:=by omega
 clear Z i0;have aH:=qQ (ao.bI ah);have aU:=qQ (U.bI ah);obtain⟨v1,v2,v3,v4,v5,rfl,⟨D,cD,rfl,aA,aC,aE⟩,⟨T,aD,rfl,it,lt,mt⟩,⟨O,co,rfl,io,lo,aT⟩,⟨b1,ci,rfl,ii,li,aR⟩,⟨S,cs,rfl,is,ls,ms⟩⟩:=ao;obtain⟨V,i,bp⟩:=aK (λW (M:Below w.heap.size w W)=>qZ ((aA.below (M.mono ah)).up (qJ ah M.size)) ((it.below (M.mono ah)).up (qJ ah M.size))) (av.new w 58 #[.int .i64 op.k,.slice D op.I.length cD,.slice T op.a.length aD,.slice O op.l.length co,.slice b1 op.h.length ci,.slice S op.s.length cs,.int .i64 op.v]) ((qK w.heap.size w).alloc (qX _) (.cells #[.int .i64 op.k,.slice D op.I.length cD,.slice T op.a.length aD,.slice O op.l.length co,.slice b1 op.h.length ci,.slice S op.s.length cs,.int .i64 op.v] 58));obtain⟨ak,aq⟩:=gz (w.alloc (.cells #[.int .i64 op.k,.slice D op.I.length cD,.slice T op.a.length aD,.slice O op.l.length co,.slice b1 op.h.length ci,.slice S op.s.length cs,.int .i64 op.v] 58));rw[aq]at i bp;have a8:w.heap.size<ak.heap.size:=i.q.lt;have X:=qQ (show(op.I.length<=cD/\op.a.length<=aD/\op.l.length<=co/\op.h.length<=ci/\op.s.length<=cs)/\cD<=9223372036854775807/\aD<=9223372036854775807 from⟨⟨aC,lt,lo,li,ls⟩,aE,mt⟩);have aJ:=qQ m;clear aA it io ii is aC lt lo li ls aE mt aT aR ms U m
 skip
 have aW:=qQ N;rw[N]at i aH aq |-;have a9:ak.cell? ⟨w.heap.size,0,none⟩=some (.int .i64 12):=i.q.cell 0;have a_:ak.cell? ⟨w.heap.size,1,none⟩=some (.slice D op.I.length cD):=i.q.cell 1;have b':ak.cell? ⟨w.heap.size,2,none⟩=some (.slice T op.a.length aD):=i.q.cell 2;have ca:ak.cell? ⟨w.heap.size,3,none⟩=some (.slice O op.l.length co):=i.q.cell 3;have cl:ak.cell? ⟨w.heap.size,4,none⟩=some (.slice b1 op.h.length ci):=i.q.cell 4;have ct:ak.cell? ⟨w.heap.size,5,none⟩=some (.slice S op.s.length cs):=i.q.cell 5;have c3:ak.cell? ⟨w.heap.size,6,none⟩=some (.int .i64 op.v):=i.q.cell 6;clear N;have m:=aJ.q d (by simp);obtain⟨a7,ag,_⟩:=R.aB m;have aV:=qQ ag;have aZ:=qQ m;have a0:=(bp.q.cell (p:=⟨b,off,none⟩) (by show b<w.heap.size;omega)).trans E;have i1:(0:Int)<1:=by omega
 clear E m ag;have j:=qQ (dC D cD op.I ak.heap.size ak (by have:=aO.1;omega) (V.q ak bp.q).1);have r:=qQ (dC aF bT d B ak (by omega) (aG.q.below (bp.q.mono ah)));by_cases az:(R.size op.I).2=0
 .have aX:=qQ az;have y:=qQ (show J.aP op [d]=if (R.size d).1≠(R.size op.I).1 then([],6)else(op.I,0) by rw[Y.q,qV (by simp[az])]);have ap:ai.b5 op.I=.tuple #[.int .i64 (R.size op.I).1,.int .i64 0]:=by unfold ai.b5;rw[az]
  rw[ap]at j;clear ap az;unfold ai.b5 at r;generalize (R.size op.I).1=bJ at j y;generalize (R.size d).1=bn at r y;generalize (R.size d).2=a2 at r;by_cases Q:bn=bJ
  .subst Q;have aI:=qQ (show J.aP op [d]=(op.I,0) by rw[y.q,qV (by simp)]);have q:(bn != bn)=false:=by simp
   go_enter func79,ntmps79;go_wp2_with fail
   ((with_reducible refine j.q.mono ?_);rintro e dX ⟨rfl,rfl⟩)
   go_wp2_with fail
   ((with_reducible refine r.q.mono ?_);rintro e dX ⟨rfl,rfl⟩)
   go_wp2_with fail
   go_ret2
   rw[aI.q];exact⟨_,rfl,⟨D,cD,rfl,(V.q ak bp.q).1,X.q.1.1,X.q.2.1⟩,bp.q⟩
  have br:=qQ (show J.aP op [d]=([],6) by rw[y.q,qY Q]);have q:(bn != bJ)=true:=by simpa using Q
  clear Q;go_enter func79,ntmps79;go_wp2_with fail
  ((with_reducible refine j.q.mono ?_);rintro e dX ⟨rfl,rfl⟩)
  go_wp2_with fail
  ((with_reducible refine r.q.mono ?_);rintro e dX ⟨rfl,rfl⟩)
  exact Xk
 have br:=qQ (show J.aP op [d]=([],(R.size op.I).2) by rw[Y.q,qY az]);have q:((R.size op.I).2 != 0)=true:=by simpa using az
 unfold ai.b5 at j;generalize (R.size op.I).2=a1 at j br q az;generalize (R.size op.I).1=bJ at j;clear az;go_enter func79,ntmps79;go_wp2_with fail
 ((with_reducible refine j.q.mono ?_);rintro e dX ⟨rfl,rfl⟩)
 exact Xk
namespace aj
def nG(op:J.Op)(d:List Int)(k:Nat):List Int:=(List.range k).map λj=>J.gi (d.getD j 0) (op.l.getD j 0) (op.h.getD j 0) (op.s.getD j 0)
theorem CK(op:J.Op)(d:List Int)(k:Nat):nG op d (k+1)=nG op d k++[J.gi (d.getD k 0) (op.l.getD k 0) (op.h.getD k 0) (op.s.getD k 0)]:=by
 unfold nG;rw[kE,zI];rfl
end aj
theorem _root_.Zc{G:Prop}(h:G:=by
 have br:=qQ (cZ.q (by unfold J.ft;simp;omega));go_wp2_with fail
 go_ret2
 rw[br.q];exact⟨_,rfl,af.aN.nil _ _,c7.q⟩
 ):G:=h
theorem _root_.XK{G:Prop}(h:G:=by
 go_enter func103,ntmps103;go_wp2_with fail
 go_ret2
 rw[br.q];exact⟨_,rfl,af.aN.nil _ _,bp.q⟩
 ):G:=h
theorem af.AQ(val:Value)(op:J.Op)(bK:Option Addr)(bE:Nat)(d:List Int)(B:Nat)(w:World)(ah:B<=w.heap.size)(ar:d.length<=6)(bf:∀x∈d,0<=x/\x<=4096)(bN:af.bd w B val op)(bS:ai.ao w B bK d):Calls Tryz.prog 103 #[val,.slice bK d.length bE] w λe w'=>∃v,e=.returned (.tuple #[v,.int .i64 (J.cQ op d).2])/\af.aN w' w'.heap.size v (J.cQ op d).1/\Below w.heap.size w w':=by
 obtain⟨v1,v2,v3,v4,v5,rfl,_,⟨aR,aV,rfl,_⟩,⟨L,S,rfl,aB,_,b_⟩,⟨b1,ci,rfl,ii,_,b9⟩,⟨T,aD,rfl,it,_,mt⟩⟩:=bN;obtain⟨m,bp,ag,bw,bu,a8⟩:=fq (av.new w 58 #[.int .i64 op.k,v1,.slice aR op.a.length aV,.slice L op.l.length S,.slice b1 op.h.length ci,.slice T op.s.length aD,.int .i64 op.v]) ((qK w.heap.size w).alloc (qX _) (.cells #[.int .i64 op.k,v1,.slice aR op.a.length aV,.slice L op.l.length S,.slice b1 op.h.length ci,.slice T op.s.length aD,.int .i64 op.v] 58)) (show J.cQ op d=if op.l.length≠d.length\/op.h.length≠d.length\/op.s.length≠d.length then([],6)else if (List.range d.length).all (λk=>J.ft (op.l.getD k 0) (op.h.getD k 0) (op.s.getD k 0))then((List.range d.length).map λk=>J.gi (d.getD k 0) (op.l.getD k 0) (op.h.getD k 0) (op.s.getD k 0),0)else([],4)from rfl) (λW (E:Below w.heap.size w W)=>qZ (aB.below (E.mono ah)) (qZ (ii.below (E.mono ah)) (qZ (it.below (E.mono ah)) (bS.below (E.mono ah))))) bf (xQ Tryz.dB);obtain⟨ak,V⟩:=gz (w.alloc (.cells #[.int .i64 op.k,v1,.slice aR op.a.length aV,.slice L op.l.length S,.slice b1 op.h.length ci,.slice T op.s.length aD,.int .i64 op.v] 58));rw[V]at m bp;have ca:ak.cell? ⟨w.heap.size,3,none⟩=some (.slice L op.l.length S):=m.q.cell 3;have cl:ak.cell? ⟨w.heap.size,4,none⟩=some (.slice b1 op.h.length ci):=m.q.cell 4;have ct:ak.cell? ⟨w.heap.size,5,none⟩=some (.slice T op.s.length aD):=m.q.cell 5;have b6:w.heap.size<ak.heap.size:=m.q.lt;clear aB ii it bS bf;obtain⟨n,aX⟩:=gz d.length;have bx:=qQ aX;rw[aX]at ar ag |-;clear aX;by_cases N:op.l.length=n
 .by_cases X:op.h.length=n
  .by_cases aH:op.s.length=n
   .have a7:=qQ (show J.cQ op d=if (List.range n).all (λk=>J.ft (op.l.getD k 0) (op.h.getD k 0) (op.s.getD k 0))then(aj.nG op d n,0)else([],4) by
      rw[ag.q,qV (by omega)];rfl)
    have bv:=qQ (qZ N (qZ X aH));have bt:=qQ (show ∀k,k<n->J.ft (op.l.getD k 0) (op.h.getD k 0) (op.s.getD k 0)=false->J.cQ op d=([],4)from λk bh h=>by
     rw[a7.q,qV];intro bF;have:=List.all_eq_true.1 bF k (List.mem_range.2 bh);rw[h]at this;cases this)
    rw[N]at ca V m |-;rw[X]at cl V m |-;rw[aH]at ct V m |-;clear N X aH;have bs:=qQ (qK ak.heap.size ak);go_enter func103,ntmps103;go_wp2_with fail;go_loopw [6,33] (λv a3 wr=>∃k:Nat,a3=.int .i64 (k:Int)/\k<=n/\(∀j,j<k->J.ft (op.l.getD j 0) (op.h.getD j 0) (op.s.getD j 0)=true)/\Below ak.heap.size ak wr/\wr.ownsRow ak.heap.size 3 1 v k (ints (aj.nG op d k))) (λ_ a3 _=>n-(intOf a3).toNat)
    case atStart=>exact⟨0,rfl,by omega,λj h=>by omega,bs.q,rfl,.inl ⟨rfl,rfl⟩⟩
    obtain⟨k,rfl,bh,bc,E,a0⟩:=hrel;obtain⟨a4,a6,c7,aF⟩:=cV bc E (bp.q.trans (E.mono (by omega))) a0;obtain⟨aC,cu,bO,_⟩:=ai.aZ a0;subst bO;have aQ:=qQ (m.q.below E m.q.lt);have bo:wr.cell? ⟨w.heap.size,3,none⟩=some (.slice L n S):=aQ.q.cell 3;have bq:wr.cell? ⟨w.heap.size,4,none⟩=some (.slice b1 n ci):=aQ.q.cell 4;have bT:wr.cell? ⟨w.heap.size,5,none⟩=some (.slice T n aD):=aQ.q.cell 5;clear bc E a0 ca cl ct;by_cases bL:k<n
    .obtain⟨aB,ii,it,id⟩:=bw.q wr c7.q;obtain⟨bH,bI,bJ⟩:=bv.q;have bM:=bx.q;obtain⟨fP,ol,rfl,b0,bb⟩:=aB (by omega);obtain⟨bi,eD,rfl,bZ,a'⟩:=ii (by omega);obtain⟨aA,bn,rfl,b5,gt⟩:=it (by omega);obtain⟨bD,bP,rfl,bY,a_⟩:=id (by omega);have aO:=bb k (by omega);have bz:=a' k (by omega);have aT:=gt k (by omega);have aU:=a_ k (by omega);rw[<-J.getD_at]at aO bz aT aU;have bG:=bu.q (d.getD k 0) (by rw[J.getD_at d k (by omega)];exact qP _);have cZ:=qQ (bt.q k bL);have aE:=qQ (show J.ft (op.l.getD k 0) (op.h.getD k 0) (op.s.getD k 0)=true->∀j,j<k+1->J.ft (op.l.getD j 0) (op.h.getD j 0) (op.s.getD j 0)=true from λh j bg=>by
      by_cases e:j=k
      .subst e;exact h
      exact a4.q j (by omega))
     have I:=qQ (aj.CK op d k);have b7:=b2 k;have b8:(k:Int)<n:=by omega
     clear aB ii it id bb a' gt a_ bH bI bJ bM;generalize op.l.getD k 0=lo at aO cZ aE I;generalize op.h.getD k 0=hi at bz cZ aE I;generalize op.s.getD k 0=st at aT cZ aE I;generalize d.getD k 0=M at aU bG I;by_cases bU:lo<0
     .exact Zc
     by_cases bV:4096<lo
     .exact Zc
     by_cases bA:hi<0
     .exact Zc
     by_cases cq:4096<hi
     .exact Zc
     by_cases eC:st<1
     .exact Zc
     by_cases e2:4096<st
     .exact Zc
     have a5:=qQ (aE.q (by unfold J.ft;simp;omega));obtain⟨aI,a1⟩:=gz (aj.nG op d (k+1));have a9:=qQ a1;rw[a1]at I;clear a1;generalize aj.nG op d k=Y at aF I;by_cases be:0<M
     .obtain⟨i,bm⟩:=gz ((M-1)*st);have bW:0<=i/\i<=16777216:=by
       have g1:=jF (show 0<=M-1 by omega) (show 0<=st by omega);have g2:(M-1)*st<=4096*4096:=jO (show M-1<=4096 by omega) (show st<=4096 by omega) (by omega) (by omega);rw[bm]at g1 g2;omega
      have aL:=qQ (show aI=Y++[lo+(i+1)+hi] by rw[I.q];unfold J.gi;rw[qY be,bm]);have b':IntKind.i64.wrap (M-1)=M-1:=qA _ (by omega);have cb:IntKind.i64.wrap i=i:=qA _ (by omega);have cd:IntKind.i64.wrap (i+1)=i+1:=qA _ (by omega);go_wp2_with fail;refine fk (λw'=>w'.cell? ⟨bD,bP+k,none⟩=some (.int .i64 M)/\w'.cell? ⟨w.heap.size,5,none⟩=some (.slice (some ⟨aA,bn,none⟩) n aD)/\w'.cell? ⟨aA,bn+k,none⟩=some (.int .i64 st)) 12 13 (⟨aU,bT,aT⟩) (λr=>?_);simp only[qF,qG];refine aG 0 87 ?_;refine aG 1 88 ?_;refine aG 2 89 ?_;refine aG 3 90 ?_;refine aG 4 91 ?_;refine aG 5 92 ?_;refine aG 6 93 ?_;refine aG 7 94 ?_;refine aG 8 95 ?_;refine aG 9 96 ?_;refine aG 10 97 ?_;refine aG 11 98 ?_;try simp only[Act.put,bj,bk,bl]
      refine eW [_] 12 [] ?_;clear r;go_wp2_with fail;have bQ:IntKind.i64.wrap (lo+(i+1))=lo+(i+1):=qA _ (by omega);have bR:IntKind.i64.wrap (lo+(i+1)+hi)=lo+(i+1)+hi:=qA _ (by omega);refine fk (λw'=>w'.cell? ⟨w.heap.size,3,none⟩=some (.slice (some ⟨fP,ol,none⟩) n S)/\w'.cell? ⟨w.heap.size,4,none⟩=some (.slice (some ⟨bi,eD,none⟩) n ci)/\w'.cell? ⟨fP,ol+k,none⟩=some (.int .i64 lo)/\w'.cell? ⟨bi,eD+k,none⟩=some (.int .i64 hi)) 14 17 (⟨bo,bq,aO,bz⟩) (λr=>?_);simp only[qF,qG];refine bX [2,4,5,7,13] 1 100 ?_;refine bX [4,5,7,13] 2 101 ?_;refine bX [4,5,7,13] 3 102 ?_;refine bX [5,7,13] 4 103 ?_;refine bX [7,13] 5 104 ?_;refine bX [7,13] 6 105 ?_;refine bX [13] 7 106 ?_;refine bX [9,11,12,13] 8 107 ?_;refine bX [11,12,13] 9 108 ?_;refine bX [11,12,13] 10 109 ?_;refine bX [12,13] 11 110 ?_;refine bX [13] 12 111 ?_;refine bX [] 13 112 ?_;refine e5 0 99 ?_;try simp only[Act.put,bj,bk,bl]
      have O:=qQ (show Below ak.heap.size ak (wr.drew).drew from a6.q.drew.drew);have aq:=qQ (show(wr.drew).drew.ownsRow ak.heap.size 3 1 (.slice aC k cu) k (ints Y)from aF.q);clear r;generalize (wr.drew).drew=D at O aq |-;obtain⟨i0,g1,g2,g3,g4⟩:=a8.q;have a2:ak.heap.size<=D.heap.size:=O.q.size;refine eh 14 (by kernel_rfl) (dq rfl rfl (by kernel_rfl) (λK y=>?_));go_simp;refine y.q _ _ trivial (λr=>?_);clear y K r;try simp only[bj,bk,bl]
      obtain⟨ap,Q,Z⟩:=aK (av.new D 3 #[.int .i64 (lo+(i+1)+hi)]) (aq.q.alloc (.cells #[.int .i64 (lo+(i+1)+hi)] 3)) (O.q.alloc a2 (.cells #[.int .i64 (lo+(i+1)+hi)] 3));have U:ak.heap.size<=(D.alloc (.cells #[.int .i64 (lo+(i+1)+hi)] 3)).heap.size:=by simp;omega
      generalize D.alloc (.cells #[.int .i64 (lo+(i+1)+hi)] 3)=hk at ap Q Z U |-;refine eh 15 (by kernel_rfl) (dq rfl rfl (by kernel_rfl) (λK y=>?_));refine ja hk _ _ 23 rfl ak.heap.size 3 i0 (.int .i64 0) 1 8 underlying23 g1 g2 g3 g4 rfl (by decide) (.slice aC k cu) k (ints Y) rfl Q.q _ (some ⟨D.heap.size,0,none⟩) 1 1 [.int .i64 (lo+(i+1)+hi)] rfl (af.dj ap.q rfl) (by intro u hu;simp at hu;subst hu;rfl) (by unfold maxLen;omega) (by omega) U ?_;intro v' cH how az _;refine y.q _ _ trivial (λr=>?_);clear y K r;try simp only[Act.put,bj,bk,bl]
      refine eW [_] 16 [] ?_;have aJ:=qQ (Z.q.grown az U (λg aW=>(Q.q.lt g aW).1));have aP:=qQ (show cH.ownsRow ak.heap.size 3 1 v' (k+1) (ints aI) by rw[aL.q,ai.ec];exact how);clear how az;go_wp2_with fail;go_roundw
      case rel=>exact⟨k+1,by go_num,by omega,a5.q,aJ.q,by rw[a9.q];exact aP.q⟩
      case measure=>simp[intOf];omega
     have aL:=qQ (show aI=Y++[lo+hi] by rw[I.q];unfold J.gi;rw[qV be,kU]);go_wp2_with fail;have bQ:IntKind.i64.wrap lo=lo:=qA _ (by omega);have bR:IntKind.i64.wrap (lo+hi)=lo+hi:=qA _ (by omega);refine fk (λw'=>w'.cell? ⟨w.heap.size,3,none⟩=some (.slice (some ⟨fP,ol,none⟩) n S)/\w'.cell? ⟨w.heap.size,4,none⟩=some (.slice (some ⟨bi,eD,none⟩) n ci)/\w'.cell? ⟨fP,ol+k,none⟩=some (.int .i64 lo)/\w'.cell? ⟨bi,eD+k,none⟩=some (.int .i64 hi)) 14 17 (⟨bo,bq,aO,bz⟩) (λr=>?_);simp only[qF,qG];refine bX [2,4,5,7,13] 1 100 ?_;refine bX [4,5,7,13] 2 101 ?_;refine bX [4,5,7,13] 3 102 ?_;refine bX [5,7,13] 4 103 ?_;refine bX [7,13] 5 104 ?_;refine bX [7,13] 6 105 ?_;refine bX [13] 7 106 ?_;refine bX [9,11,12,13] 8 107 ?_;refine bX [11,12,13] 9 108 ?_;refine bX [11,12,13] 10 109 ?_;refine bX [12,13] 11 110 ?_;refine bX [13] 12 111 ?_;refine bX [] 13 112 ?_;refine e5 0 99 ?_;try simp only[Act.put,bj,bk,bl]
     have O:=qQ (show Below ak.heap.size ak (wr).drew from a6.q.drew);have aq:=qQ (show(wr).drew.ownsRow ak.heap.size 3 1 (.slice aC k cu) k (ints Y)from aF.q);clear r;generalize (wr).drew=D at O aq |-;obtain⟨i0,g1,g2,g3,g4⟩:=a8.q;have a2:ak.heap.size<=D.heap.size:=O.q.size;refine eh 14 (by kernel_rfl) (dq rfl rfl (by kernel_rfl) (λK y=>?_));go_simp;refine y.q _ _ trivial (λr=>?_);clear y K r;try simp only[bj,bk,bl]
     obtain⟨ap,Q,Z⟩:=aK (av.new D 3 #[.int .i64 (lo+hi)]) (aq.q.alloc (.cells #[.int .i64 (lo+hi)] 3)) (O.q.alloc a2 (.cells #[.int .i64 (lo+hi)] 3));have U:ak.heap.size<=(D.alloc (.cells #[.int .i64 (lo+hi)] 3)).heap.size:=by simp;omega
     generalize D.alloc (.cells #[.int .i64 (lo+hi)] 3)=hk at ap Q Z U |-;refine eh 15 (by kernel_rfl) (dq rfl rfl (by kernel_rfl) (λK y=>?_));refine ja hk _ _ 23 rfl ak.heap.size 3 i0 (.int .i64 0) 1 8 underlying23 g1 g2 g3 g4 rfl (by decide) (.slice aC k cu) k (ints Y) rfl Q.q _ (some ⟨D.heap.size,0,none⟩) 1 1 [.int .i64 (lo+hi)] rfl (af.dj ap.q rfl) (by intro u hu;simp at hu;subst hu;rfl) (by unfold maxLen;omega) (by omega) U ?_;intro v' cH how az _;refine y.q _ _ trivial (λr=>?_);clear y K r;try simp only[Act.put,bj,bk,bl]
     refine eW [_] 16 [] ?_;have aJ:=qQ (Z.q.grown az U (λg aW=>(Q.q.lt g aW).1));have aP:=qQ (show cH.ownsRow ak.heap.size 3 1 v' (k+1) (ints aI) by rw[aL.q,ai.ec];exact how);clear how az;go_wp2_with fail;go_roundw
     case rel=>exact⟨k+1,by go_num,by omega,a5.q,aJ.q,by rw[a9.q];exact aP.q⟩
     case measure=>simp[intOf];omega
    obtain rfl:k=n:=by omega
    have br:=qQ (show J.cQ op d=(aj.nG op d k,0) by
     rw[a7.q,qY];exact List.all_eq_true.2 (λj bg=>a4.q j (List.mem_range.1 bg)))
    have bB:=qQ (af.b3 aF.q);go_wp2_with fail
    go_ret2
    rw[br.q];exact⟨_,rfl,bB.q,c7.q⟩
   have br:=qQ (show J.cQ op d=([],6) by rw[ag.q,qY (by omega)]);have q:((op.s.length:Int) != (n:Int))=true:=by rw[uU];omega
   rw[N]at ca V m |-;rw[X]at cl V m |-;clear N X aH;exact XK
  have br:=qQ (show J.cQ op d=([],6) by rw[ag.q,qY (by omega)]);have q:((op.h.length:Int) != (n:Int))=true:=by rw[uU];omega
  rw[N]at ca V m |-;clear N X;exact XK
 have br:=qQ (show J.cQ op d=([],6) by rw[ag.q,qY (by omega)]);have q:((op.l.length:Int) != (n:Int))=true:=by rw[uU];omega
 clear N;exact XK
theorem zB(DA:Option Addr)(i:Nat)(l:List Int)(B:Nat)(w:World)(ah:B<=w.heap.size)(x:ai.ao w B DA l)(md:l.length<=i)(ak:i<=9223372036854775807):Calls Tryz.prog 134 #[.slice DA l.length i] w λe w'=>ai.fb B w w' (R.whole l) e/\Below w.heap.size w w':=by
 have j:=qQ ((qK w.heap.size w).alloc (qX _) (.cells #[.int .i64 0,.slice none 0 0,.slice none 0 0] 159));have N:=av.new w 159 #[.int .i64 0,.slice none 0 0,.slice none 0 0];have U:=qQ (dC DA i l B _ (by omega) (x.below (j.q.mono ah)));have aH:(w.alloc (.cells #[.int .i64 0,.slice none 0 0,.slice none 0 0] 159)).heap.size=w.heap.size+1:=by simp
 have ap:=qQ (λW (aB:Below w.heap.size w W)=>x.below (aB.mono ah));by_cases eR:(R.size l).2=0
 .refine VC ?_;intro Il g_ iG bR;have az:=qQ (ux DA i l B _ md ak eR (x.below (j.q.mono ah)) (qJ ah j.q.size));have V:=qQ N;clear Il eR iG x N;go_enter func134,ntmps134;go_wp2_with fail;refine U.q.mono ?_;rintro e ag ⟨rfl,rfl⟩;rw[g_.q];go_wp2_with fail;refine az.q.mono ?_;rintro e aC ⟨v2,rfl,O,M⟩;obtain⟨S,m2,rfl,aF⟩:=ai.aZ O;have ku:=V.q.below M V.q.lt;have Q:=O;rw[<-R.bM l]at Q;obtain⟨bt,bn,Y,D,y,E,r⟩:=ai.df Q;simp only[xO]at Y;obtain⟨rfl,_,rfl⟩:=Y;have aq:=qQ (qZ D (qZ y (qZ E r)));have I:=qQ (aA j.q M);refine VZ ?_;intro ek en eo f0 f1 f2;clear O Q M ku D y E r;go_wp2_with fail;obtain⟨D,y,E,r⟩:=aq.q;refine qR (v:=.tuple #[.agg #[.int .i64 0,.slice DA l.length i,.slice S l.length m2],.int .i64 0]) (by simp[results,results134,go_sem,ek,en,eo]) rfl ⟨?_,ai.three I.q (qX _) _ _ _⟩;rw[bR.q];rw[R.bM]at y;have Z:=ap.q aC I.q;have X:∀b off,DA=some ⟨b,off,none⟩->0<l.length->b<B:=λb off e hp=>by
   obtain⟨aD,aI,m,aE,_⟩:=Z hp;rw[e]at m;injection m with m
   injection m with m
   omega
  have aG:=I.q.size;refine ai.kf ⟨DA,i,S,m2,by simp[R.bM],?_,?_,md,ak,by simpa[R.bM]using y,E⟩ ?_ ?_
  .exact(Z.hj (λb off e hp=>by have:=X b off e hp;omega) _ _ _).up (by simp;omega)
  .exact(D.hj (λb off e hp=>by have:=r b off e hp;omega) _ _ _).up (by simp)
  .exact λb off e hp=>.inl (X b off e hp)
  exact λb off e hp=>by have:=r b off e hp;omega
 have bR:=qQ (show R.whole l=(R.none_,(R.size l).2)from qY eR);have hq:((R.size l).2 != 0)=true:=by simpa using eR
 clear eR x N;go_enter func134,ntmps134;go_wp2_with fail;refine U.q.mono ?_;rintro e ag ⟨rfl,rfl⟩;simp only[ai.b5];go_wp2_with fail;refine qR (v:=.tuple #[.agg #[.int .i64 0,.slice none 0 0,.slice none 0 0],.int .i64 (R.size l).2]) (by simp[results,results134,go_sem]) rfl ⟨?_,j.q⟩;exact JZ
theorem _root_.QN{G:Prop}(h:G:=by
 obtain⟨rr,dM,KN,kc,rfl,Ef,HD,HG,HI,HH,HJ⟩:=rP;have D7:=(pb _ _ _ _ _ _ _ rfl).1;have Mb:=qQ Ef;have ko:=qQ D7;have mO:=I2.q.below ht I2.q.lt;have ek:aw.cell? ⟨P,0,none⟩=some (.int .i64 iF.st):=mO.cell 0;have en:aw.cell? ⟨P,1,none⟩=some (.slice Cb iF.I.length bJ):=mO.cell 1;have eo:aw.cell? ⟨P,2,none⟩=some (.slice W2 iF.s.length bn):=mO.cell 2;have f0:=mO.frozen 0;have f1:=mO.frozen 1;have f2:=mO.frozen 2;have c4:=qQ (aA eN.q ht);have M3:P<aC.heap.size:=I2.q.lt;clear Ef HD HH HJ pb D7 ht mO gQ fp b' ca cl ct z0 oc z2;go_wp2_with fail
 go_ret2
 rw[j5.q];refine⟨_,rfl,⟨rr,dM,rfl,(Mb.q.hj (c:=P) (λb off e hp=>by have:=ko.q b off e hp;omega) _ _ _).up (by simp),HG,HI⟩,ai.three c4.q (by omega) _ _ _⟩
 ):G:=h
theorem af.Al(val:Value)(op:J.Op)(A:Option Addr)(aL:Nat)(d:List Int)(B:Nat)(w:World)(ah:B<=w.heap.size)(bw:af.bd w B val op)(a_:ai.ao w B A d)(md:d.length<=aL)(bB:aL<=9223372036854775807):Calls Tryz.prog 107 #[val,.slice A d.length aL] w λe w'=>∃v,e=.returned (.tuple #[v,.int .i64 (J.looked op d).2])/\af.aN w' w'.heap.size v (J.looked op d).1.I/\Below w.heap.size w w':=by
 obtain⟨v1,v2,v3,v4,v5,rfl,⟨D,cD,rfl,bc,bg,bk⟩,⟨T,aD,rfl,it,lt,mt⟩,⟨O,co,rfl,io,lo,bo⟩,⟨b1,ci,rfl,ii,li,bl⟩,⟨S,cs,rfl,is,ls,ms⟩⟩:=bw;obtain⟨aX,aZ,aT,aQ⟩:=cV (λW (m:Below w.heap.size w W)=>qZ ((bc.below (m.mono ah)).up (qJ ah m.size)) (qZ ((it.below (m.mono ah)).up (qJ ah m.size)) (qZ ((io.below (m.mono ah)).up (qJ ah m.size)) (qZ ((ii.below (m.mono ah)).up (qJ ah m.size)) ((is.below (m.mono ah)).up (qJ ah m.size)))))) (show(op.I.length<=cD/\cD<=9223372036854775807)/\(op.a.length<=aD/\aD<=9223372036854775807)/\(op.l.length<=co/\co<=9223372036854775807)/\(op.h.length<=ci/\ci<=9223372036854775807)/\(op.s.length<=cs/\cs<=9223372036854775807)from⟨⟨bg,bk⟩,⟨lt,mt⟩,⟨lo,bo⟩,⟨li,bl⟩,ls,ms⟩) (av.new w 58 #[.int .i64 op.k,.slice D op.I.length cD,.slice T op.a.length aD,.slice O op.l.length co,.slice b1 op.h.length ci,.slice S op.s.length cs,.int .i64 op.v]) ((qK w.heap.size w).alloc (qX _) (.cells #[.int .i64 op.k,.slice D op.I.length cD,.slice T op.a.length aD,.slice O op.l.length co,.slice b1 op.h.length ci,.slice S op.s.length cs,.int .i64 op.v] 58));obtain⟨ak,bb⟩:=gz (w.alloc (.cells #[.int .i64 op.k,.slice D op.I.length cD,.slice T op.a.length aD,.slice O op.l.length co,.slice b1 op.h.length ci,.slice S op.s.length cs,.int .i64 op.v] 58));have bA:ak.heap.size=w.heap.size+1:=by rw[<-bb];simp
 rw[bb]at aT aQ;have bt:=qQ (zB A aL d B ak (by omega) (a_.below (aQ.q.mono ah)) md bB);clear bc it io ii is bg bk lt mt lo bo li bl ls ms a_;go_enter func107,ntmps107;go_wp2_with fail
 ((with_reducible refine bt.q.mono ?_);rintro e ag ⟨⟨bH,rfl,bz,bv⟩,aP⟩)
 obtain⟨Cb,bJ,W2,bn,rfl,be,bf,bh,bp,bj,bq⟩:=bz;obtain⟨aH,aR,bu⟩:=aK (show ai.cm ag ag.heap.size (.agg #[.int .i64 (R.whole d).1.st,.slice Cb (R.whole d).1.I.length bJ,.slice W2 (R.whole d).1.s.length bn]) (R.whole d).1 from⟨Cb,bJ,W2,bn,rfl,be,bf,bh,bp,bj,bq⟩) (aA aQ.q aP) (aT.q.below aP aT.q.lt);have bx:w.heap.size+1<=ag.heap.size:=by rw[<-bA];exact aP.size
 clear be bf bh bp bj bq bv aP;by_cases M:(R.size d).2=0
 .have aF:=qQ M;have a8:=(aj.o2 M).2;rw[a8];clear M a8;obtain⟨iF,aU⟩:=gz ((R.whole d).1);rw[aU]at aH |-;have aW:=qQ ((qK ag.heap.size ag).alloc (qX _) (.cells #[.int .i64 iF.st,.slice Cb iF.I.length bJ,.slice W2 iF.s.length bn] 159));have x:=bu.q.alloc (.cells #[.int .i64 iF.st,.slice Cb iF.I.length bJ,.slice W2 iF.s.length bn] 159);have N:=av.new ag 159 #[.int .i64 iF.st,.slice Cb iF.I.length bJ,.slice W2 iF.s.length bn];have a':(ag.alloc (.cells #[.int .i64 iF.st,.slice Cb iF.I.length bJ,.slice W2 iF.s.length bn] 159)).heap.size=ag.heap.size+1:=by simp
  obtain⟨aC,aE⟩:=gz (ag.alloc (.cells #[.int .i64 iF.st,.slice Cb iF.I.length bJ,.slice W2 iF.s.length bn] 159));obtain⟨P,aB⟩:=gz ag.heap.size;rw[aE]at aW a' x N;rw[aB]at N a' bx aH;have I2:=qQ N;have r:=aW.q;rw[aB]at r;have eN:=qQ (aR.q.trans (r.mono (by omega)));have aI:=qQ (aH.q.below r);have aO:P<=aC.heap.size:=by omega
  obtain⟨j0,E,ap,aq,az⟩:=aX.q ag aR.q;rw[aB]at j0 E ap aq az;have j0:=j0.below r;have E:=E.below r;have ap:=ap.below r;have aq:=aq.below r;have az:=az.below r;obtain⟨⟨dm,a2⟩,⟨a3,a4⟩,⟨a5,a1⟩,⟨a6,a7⟩,a9,a0⟩:=aZ.q;have gQ:aC.cell? ⟨w.heap.size,0,none⟩=some (.int .i64 op.k):=x.cell 0;have fp:aC.cell? ⟨w.heap.size,1,none⟩=some (.slice D op.I.length cD):=x.cell 1;have b':aC.cell? ⟨w.heap.size,2,none⟩=some (.slice T op.a.length aD):=x.cell 2;have ca:aC.cell? ⟨w.heap.size,3,none⟩=some (.slice O op.l.length co):=x.cell 3;have cl:aC.cell? ⟨w.heap.size,4,none⟩=some (.slice b1 op.h.length ci):=x.cell 4;have ct:aC.cell? ⟨w.heap.size,5,none⟩=some (.slice S op.s.length cs):=x.cell 5;have z0:aC.cell? ⟨P,0,none⟩=some (.int .i64 iF.st):=N.cell 0;have oc:aC.cell? ⟨P,1,none⟩=some (.slice Cb iF.I.length bJ):=N.cell 1;have z2:aC.cell? ⟨P,2,none⟩=some (.slice W2 iF.s.length bn):=N.cell 2;rw[<-aE,<-aB]at z0 oc z2;rw[<-aE]at gQ fp b' ca cl ct;obtain⟨Z,V,X,Y,aG,aJ⟩:=fq (xi _ iF D T cD aD op.I op.a P aC aO aI.q j0 E dm a2 a3 a4) (A0 _ iF T aD op.a P aC aO aI.q E a3 a4) (CX _ iF O b1 S co ci cs op.l op.h op.s P aC aO aI.q ap aq az a5 a1 a6 a7 a9 a0) (AZ _ iF T aD op.a P aC aO aI.q E a3 a4) aU aE;have bD:=qQ aB;clear j0 E ap aq az dm a2 a3 a4 a5 a1 a6 a7 a9 a0 aU aX aZ aE N x r;by_cases y:op.k=9
  .have j5:=qQ (show J.looked op d=(R.spread iF op.I op.a) by rw[<-aG.q];unfold J.looked;rw[qV (by simp[aF.q])];simp[y]);rw[y]at gQ;clear y V X Y;obtain⟨bm,i⟩:=gz ((R.spread iF op.I op.a));rw[i]at j5 Z;clear i;go_wp2_with fail;rw[aJ.q]
   ((with_reducible refine Z.q.mono ?_);rintro e aw ⟨⟨aV,rfl,rP,pb⟩,ht⟩)
   exact QN
  by_cases Q:op.k=11
  .have j5:=qQ (show J.looked op d=(R.turn iF op.a) by rw[<-aG.q];unfold J.looked;rw[qV (by simp[aF.q])];simp[Q]);rw[Q]at gQ;clear y Q Z X Y;obtain⟨bm,i⟩:=gz ((R.turn iF op.a));rw[i]at j5 V;clear i;go_wp2_with fail;rw[aJ.q]
   ((with_reducible refine V.q.mono ?_);rintro e aw ⟨⟨aV,rfl,rP,pb⟩,ht⟩)
   exact QN
  by_cases U:op.k=13
  .have j5:=qQ (show J.looked op d=(R.cut iF op.l op.h op.s) by rw[<-aG.q];unfold J.looked;rw[qV (by simp[aF.q])];simp[U]);rw[U]at gQ;clear y Q U Z V Y;obtain⟨bm,i⟩:=gz ((R.cut iF op.l op.h op.s));rw[i]at j5 X;clear i;go_wp2_with fail;rw[aJ.q]
   ((with_reducible refine X.q.mono ?_);rintro e aw ⟨⟨aV,rfl,rP,pb⟩,ht⟩)
   exact QN
  have bG:(op.k == 9)=false:=by simpa using y
  have bE:(op.k == 11)=false:=by simpa using Q
  have bF:(op.k == 13)=false:=by simpa using U
  have j5:=qQ (show J.looked op d=R.flip iF op.a by unfold J.looked;rw[qV (by simp[aF.q]),qV y,qV Q,qV U,aG.q]);clear y Q U Z V X;obtain⟨bm,i⟩:=gz ((R.flip iF op.a));rw[i]at j5 Y;clear i;go_wp2_with fail;rw[aJ.q]
  ((with_reducible refine Y.q.mono ?_);rintro e aw ⟨⟨aV,rfl,rP,pb⟩,ht⟩)
  exact QN
 have bs:=qQ (show J.looked op d=(R.none_,(R.size d).2)from qY M);have hq:((R.size d).2 != 0)=true:=by simpa using M
 have hw:R.whole d=(R.none_,(R.size d).2):=qY M;rw[hw]at aH |-;have br:=qQ (λo=>aR.q.alloc (by omega) o);clear M hw;go_wp2_with fail
 go_ret2
 rw[bs.q];exact⟨_,rfl,af.aN.nil _ _,br.q _⟩
namespace aj
def j8(cur x:List Int)(q j:Nat):List Int:=if q<j then cur.set q (cur.getD q 0+x.getD q 0)else cur
theorem FN(cur x:List Int)(q j:Nat):(j8 cur x q j).length=cur.length:=by unfold j8;split<;>simp
theorem H4(cur x:List Int)(q j i:Nat)(h:i≠q):(j8 cur x q j).getD i 0=cur.getD i 0:=by
 unfold j8;split
 .rw[qU,yR (zK h),<-qU]
 rfl
theorem J5(cur x:List Int)(q:Nat):j8 cur x q q=cur:=qV (by omega)
theorem DN(cur x:List Int)(q j:Nat)(h:j≠q):j8 cur x q (j+1)=j8 cur x q j:=by
 unfold j8;by_cases e:q<j
 .rw[qY e,qY (by omega)]
 rw[qV e,qV (by omega)]
theorem DM(cur x:List Int)(q:Nat):j8 cur x q (q+1)=cur.set q (cur.getD q 0+x.getD q 0):=qY (by omega)
end aj
theorem _root_.Qr{G:Prop}(h:G:=by
 obtain rfl:k=m:=by omega
 have cb:=qQ (show J.bQ op args=(cur,0) by rw[HP.q,jD (by have:=eQ.q;omega)];rfl);have iz:=qQ (o8.q.gB x0.q.2);rw[gG.q]at iz;go_wp2_with fail
 go_ret2
 rw[cb.q];exact⟨_,rfl,iz.q,pv.q⟩
 ):G:=h
theorem _root_.Zv{G:Prop}(h:G:=by
 go_enter func105,ntmps105;go_wp2_with fail
 go_quiet (fail)
 go_wp2_with fail
 go_ret2
 rw[br.q];exact⟨_,rfl,af.aN.nil _ _,zV bp.q nq⟩
 ):G:=h
theorem af.y_(val:Value)(op:J.Op)(bK:Option Addr)(aL:Nat)(args:List (List Int))(B:Nat)(w:World)(ah:B<=w.heap.size)(aA:0<args.length)(cD:args.length<=1099511627776)(cw:args.length<=aL)(cS:aL<=9223372036854775807)(bh:∀d∈args,d.length<=6/\∀x∈d,0<=x/\x<=4096)(cE:af.bd w B val op)(D:af.bu w B bK args):Calls Tryz.prog 105 #[val,.slice bK args.length aL] w λe w'=>∃v,e=.returned (.tuple #[v,.int .i64 (J.bQ op args).2])/\af.aN w' w'.heap.size v (J.bQ op args).1/\Below w.heap.size w w':=by
 obtain⟨v1,v2,v3,v4,v5,rfl,_,⟨A,cC,rfl,aR,ji,c5⟩,_⟩:=cE;have Y:=qQ (av.new w 58 #[.int .i64 op.k,v1,.slice A op.a.length cC,v3,v4,v5,.int .i64 op.v]);have bp:=qQ ((qK w.heap.size w).alloc (qX _) (.cells #[.int .i64 op.k,v1,.slice A op.a.length cC,v3,v4,v5,.int .i64 op.v] 58));obtain⟨ak,b3⟩:=gz (w.alloc (.cells #[.int .i64 op.k,v1,.slice A op.a.length cC,v3,v4,v5,.int .i64 op.v] 58));rw[b3]at Y bp;have c1:w.heap.size<ak.heap.size:=Y.q.lt;have b':ak.cell? ⟨w.heap.size,2,none⟩=some (.slice A op.a.length cC):=Y.q.cell 2;refine VN ?_;intro cj;obtain⟨bv,mh,gH⟩:=aK (λW (y:Below w.heap.size w W)=>aR.below (y.mono ah)) D bh;obtain⟨b,off,rfl,cO,dt⟩:=D aA;obtain⟨v0,a7,bq,bT,rfl,i0,b5,m0⟩:=dt 0 aA;have aQ:args.getD 0 []=args[0]:=by simp[aA]
 have aU:=bh args[0] (qP aA);obtain⟨n,be⟩:=gz args.length;have eQ:=qQ be;have bt:=qQ (λW (y:Below w.heap.size w W)=>i0.below (y.mono ah));rw[aQ]at cj;rw[be]at aA cD cw |-;rw[qL]at a7;have aO:=(bp.q.cell (p:=⟨b,off,none⟩) (by show b<w.heap.size;omega)).trans a7;clear be D bh dt i0 aQ a7;generalize args[0]=a0 at cj aO b5 aU bt;obtain⟨r,bf⟩:=gz a0.length;rw[bf]at cj aO b5 aU;have cl:=qQ bf;have cZ:(0:Int)<n:=by omega
 clear bf;by_cases S:op.a.length=1
 .have aH:=qQ S;obtain⟨ba,b6,rfl,cP,iP⟩:=bv.q ak bp.q (by omega);have a6:=iP 0 (by omega);rw[<-J.getD_at op.a 0 (by omega),qL]at a6;have cB:(0:Int)<1:=by omega
  have bO:op.a.getD 0 0=op.a[0]:=J.getD_at op.a 0 (by omega);have bs:=qQ (show Value.int .i64 (op.a.getD 0 0)=Value.int .i64 (op.a[0]'(Nat.lt_of_lt_of_eq Nat.zero_lt_one aH.q.symm)) by rw[bO]);rw[S]at b' b3 Y |-;clear iP bO aR S ji;generalize op.a.getD 0 0=V at cj a6 bs;by_cases D:V<0
  .have br:=qQ (show J.bQ op args=([],6) by rw[cj.q,qY (.inr (.inl D))]);exact Zv
  have d2:decide (V<0)=false:=by simpa using D
  by_cases aq:(r:Int)<=V
  .have br:=qQ (show J.bQ op args=([],6) by rw[cj.q,qY (.inr (.inr aq))]);have d3:decide ((r:Int)<=V)=true:=by simpa using aq
   exact Zv
  have d3:decide ((r:Int)<=V)=false:=by simpa using aq
  obtain⟨q,rfl⟩:∃q:Nat,V=(q:Int):=⟨V.toNat,by omega⟩;have cF:q<r:=by omega
  have br:=qQ (show J.bQ op args=J.cU q a0 (args.drop 1) by
   rw[cj.q,qV (λh=>h.elim (λh=>h aH.q) (λh=>h.elim D aq)),xY])
  have b8:=qQ (λm=>zV (qK ak.heap.size ak) m);have X:=qQ cl.q;go_enter func105,ntmps105;go_wp2_with fail
  go_quiet (fail)
  have aE:=qQ (b8.q nq);have aP:(ak.drewN nq).cell? ⟨b,off,none⟩=some (.slice bq r bT):=aO;have b9:=qQ (bp.q.trans (aE.q.mono (by omega)));have aV:ak.heap.size<=(ak.drewN nq).heap.size:=aE.q.size;clear D aq d2 d3 aO a6 b';generalize ak.drewN nq=ag at aE b9 aP aV |-;have cm:=qQ (λW (y:Below w.heap.size w W)=>af.k9 (bt.q W y) (qJ ah y.size));obtain⟨i0,g1,g2,g3,g4⟩:=xQ Tryz.dB;have bX:∀u∈ints a0,u.oneCell'=true:=λu hu=>by
   obtain⟨x,_,rfl⟩:=List.mem_map.1 hu;rfl
  have bJ:=qQ (yF (base:=ak.heap.size) (size:=1) (e:=3) ag #[] 0 aV (by unfold maxLen;omega) rfl);have bD:=qQ (aE.q.alloc aV (.cells #[] 3));have bm:ak.heap.size<=(ag.alloc (.cells #[] 3)).heap.size:=by simp;omega
  have b_:=qQ (bp.q.trans (bD.q.mono (by omega)));have ce:=(kW ag (.cells #[] 3) ⟨b,off,none⟩ (xp aP)).trans aP;have c0:r<=6:=aU.1;have bg:=cm.q _ b_.q;rw[X.q]at bg;have cn:=qQ bg;clear bg;go_wp2_with (at_builtin;refine bF _ rfl _ _ 23 rfl ak.heap.size 3 i0 (.int .i64 0) 1 8 underlying23 g1 g2 g3 g4 rfl (by decide) _ _ _ rfl bJ.q _ bq r bT (ints a0) rfl cn.q bX (by unfold maxLen;omega) (by omega) bm ?_);intro v' aC how bU _;have bw:=qQ (bD.q.grown bU bm (λg cz=>(bJ.q.lt g cz).1));have bV:aC.ownsRow ak.heap.size 3 1 v' a0.length (ints a0):=by
   rw[X.q];simpa using how
  obtain⟨g,N,b1,Hv,bZ,Hu⟩:=af.fH.own bV (by have:=X.q;omega);rw[X.q]at b1;subst b1;have bL:=qQ bZ;clear bV how bU aP ce bZ;obtain⟨m,rfl⟩:∃m,n=m+1:=⟨n-1,by omega⟩;have bz:=qQ (show ∀j,0<=a0.getD j 0/\a0.getD j 0<=((0:Nat)+1:Int)*4096 from λj=>by
   rw[qU];cases Q:a0[j]? with
   | none=>exact⟨wF _,by show(0:Int)<=_;omega⟩
   | some x=>have:=aU.2 x (jM Q);exact⟨this.1,by show x<=_;omega⟩)
  refine VR ?_;intro x0 aJ sU;have cA:ak.heap.size<=g:=by omega
  clear aJ Hv Hu aV bm g1 g2 g3 g4 bX;by_cases cx:aL=1
  .have cf:=qQ (show m=0 by omega);subst cx;go_wp2_with fail;go_loopw [40] (λU wr=>∃(k:Nat) (cur:List Int),U=.int .i64 (k:Int)/\k<=m/\cur.length=r/\(∀j,0<=cur.getD j 0/\cur.getD j 0<=((k:Int)+1)*4096)/\J.bQ op args=J.cU q cur (args.drop (k+1))/\Below ak.heap.size ak wr/\af.fH wr g N cur) (λU _=>m-(intOf U).toNat)
   case atStart=>exact⟨0,a0,rfl,by omega,X.q,bz.q,br.q,bw.q,bL.q⟩
   obtain⟨k,cur,rfl,mN,hlen,az,Q,y,hp⟩:=hrel;obtain⟨gG,aF,HP,bx,pv,o8⟩:=fq hlen az Q y (bp.q.trans (y.mono (by omega))) hp;clear hlen az Q y hp;obtain⟨ap,rfl⟩:∃ap:World,ap=wr:=⟨_,rfl⟩;by_cases bc:k<m
   .exact absurd bc (by have:=cf.q;omega)
   exact Qr
  go_wp2_with fail;go_loopw [40] (λU wr=>∃(k:Nat) (cur:List Int),U=.int .i64 (k:Int)/\k<=m/\cur.length=r/\(∀j,0<=cur.getD j 0/\cur.getD j 0<=((k:Int)+1)*4096)/\J.bQ op args=J.cU q cur (args.drop (k+1))/\Below ak.heap.size ak wr/\af.fH wr g N cur) (λU _=>m-(intOf U).toNat)
  case atStart=>exact⟨0,a0,rfl,by omega,X.q,bz.q,br.q,bw.q,bL.q⟩
  obtain⟨k,cur,rfl,mN,hlen,az,Q,y,hp⟩:=hrel;obtain⟨gG,aF,HP,bx,pv,o8⟩:=fq hlen az Q y (bp.q.trans (y.mono (by omega))) hp;clear hlen az Q y hp;obtain⟨ap,rfl⟩:∃ap:World,ap=wr:=⟨_,rfl⟩;by_cases bc:k<m
  .have p9:k+1<args.length:=by have:=eQ.q;omega
   obtain⟨v,cu,cH,ci,rfl,hi,S,cY⟩:=sU.q k bc;have a8:=(pv.q.cell (p:=⟨b,off+(k+1),none⟩) (by show b<w.heap.size;omega)).trans cu;have bW:(off+1)+k=off+(k+1):=by omega
   rw[<-bW]at a8;have bN:=qQ (λW (y:Below w.heap.size w W)=>hi.below (y.mono ah));refine Jr ?_;intro vD px i1 i2;clear cu hi bW;generalize args[k+1]=x at a8 bN vD px S;by_cases aD:x.length=r
   .rw[aD]at a8;have Z:=qQ aD;have c2:(r:Int)<=6:=by omega
    have d0:((r:Int) != (r:Int))=false:=by simp
    have cg:=qQ (show af.fH ap g N (aj.j8 cur x q 0)from o8.q);clear aD;go_wp2_with fail;go_loopw [51] (λbo wr=>∃j:Nat,bo=.int .i64 (j:Int)/\j<=r/\(∀i,i<j->i=q\/x.getD i 0=cur.getD i 0)/\Below ak.heap.size ak wr/\af.fH wr g N (aj.j8 cur x q j)) (λbo _=>r-(intOf bo).toNat)
    case atStart=>exact⟨0,rfl,by omega,λi hi=>by omega,bx.q,cg.q⟩
    obtain⟨j,rfl,cT,b0,aT,bY⟩:=hrel;obtain⟨a3,aW,aI,aX⟩:=cV b0 aT bY (bp.q.trans (aT.mono (by omega)));have cJ:wr.cell? ⟨ba,b6,none⟩=some (.int .i64 (q:Int)):=by
     obtain⟨hr,l4,e,cN,cr⟩:=(bv.q wr aX.q) (by have:=aH.q;omega);injection e with e;injection e with cy bE;subst cy;subst bE
     have h:=cr 0 (by have:=aH.q;omega);rw[qL]at h;rw[h,bs.q]
    have cL:wr.cell? ⟨w.heap.size,2,none⟩=some (.slice (some ⟨ba,b6,none⟩) 1 cC):=(Y.q.below aT Y.q.lt).cell 2;have cB:(0:Int)<1:=by omega
    have bI:=qQ (aj.FN cur x q j);clear b0 aT bY;by_cases cW:j<r
    .obtain⟨eg,b7,rfl,cQ,bP⟩:=(bN.q wr aX.q) (by have:=Z.q;omega);have a9:wr.cell? ⟨eg,b7+j,none⟩=some (.int .i64 (x.getD j 0)):=by
      rw[J.getD_at x j (by have:=Z.q;omega)];exact bP j (by have:=Z.q;omega)
     have c3:=b2 j;have c4:(j:Int)<r:=by omega
     clear bP;by_cases ao:j=q
     .subst ao;have a4:=qQ (show ∀i,i<j+1->i=j\/x.getD i 0=cur.getD i 0 from λi hi=>by
       by_cases e:i=j
       .exact .inl e
       exact a3.q i (by omega))
      have aQ:((j:Int) == (j:Int))=true:=by simp
      have bR:=aj.J5 cur x j;have a2:=qQ (show af.fH wr g N cur by rw[<-bR];exact aI.q);have cc:wr.cell? ⟨g,j,none⟩=some (.int .i64 (cur.getD j 0)):=by
       rw[J.getD_at cur j (by have:=gG.q;omega)];exact a2.q.cell (by have:=gG.q;omega)
      have a_:=aF.q j;have bn:0<=x.getD j 0/\x.getD j 0<=4096:=by
       rw[J.getD_at x j (by have:=Z.q;omega)];exact vD.2 _ (qP _)
      have cM:=a2.q.frozen j;have I:=qQ (show af.fH (wr.setCell ⟨g,j,none⟩ (.int .i64 (cur.getD j 0+x.getD j 0))).drew g N (aj.j8 cur x j (j+1)) by
       rw[aj.DM];exact((a2.q.set (i:=j) (by have:=gG.q;omega) (cur.getD j 0+x.getD j 0)).drew))
      have M:=qQ ((aW.q.setCell (p:=⟨g,j,none⟩) cA (.int .i64 (cur.getD j 0+x.getD j 0))).drew);clear bR;obtain⟨cK,a'⟩:=gz (aj.j8 cur x j (j+1));rw[a']at I;have ca:=qQ a';clear a';generalize cur.getD j 0=O at cc a_ I M;generalize x.getD j 0=E at a9 bn I M;have c6:IntKind.i64.wrap (O+E)=O+E:=qA _ (by omega);go_wp2_with fail;refine fk (λw'=>w'.cell? ⟨g,j,none⟩=some (.int .i64 O)/\w'.cell? ⟨eg,b7+j,none⟩=some (.int .i64 E)) 12 13 (⟨cc,a9⟩) (λcp=>?_);simp only[qF,qG];refine aG 0 60 ?_;refine aG 1 61 ?_;refine aG 2 62 ?_;refine aG 3 63 ?_;refine aG 4 64 ?_;refine aG 5 65 ?_;refine aG 6 66 ?_;refine aG 7 67 ?_;refine aG 8 68 ?_;refine aG 9 69 ?_;refine aG 10 70 ?_;refine aG 11 71 ?_;try simp only[Act.put,bj,bk,bl]
      refine eW [_] 12 [] ?_;obtain⟨cI,cq⟩:=gz ((wr.setCell ⟨g,j,none⟩ (.int .i64 (O+E))).drew);rw[cq]at I M;clear cp;go_wp2_with fail;go_roundw
      case rel=>exact⟨j+1,by go_num,by omega,a4.q,M.q,by rw[ca.q];exact I.q⟩
      case measure=>simp[intOf];omega
     have aQ:((j:Int) == (q:Int))=false:=by simp;omega
     have cd:=qQ (aj.DN cur x q j ao);have cc:wr.cell? ⟨g,j,none⟩=some (.int .i64 (cur.getD j 0)):=by
      rw[<-aj.H4 cur x q j j ao,J.getD_at _ j (by rw[bI.q,gG.q];omega)];exact aI.q.cell (by rw[bI.q,gG.q];omega)
     have a5:=qQ (λ(h:x.getD j 0=cur.getD j 0)=>show ∀i,i<j+1->i=q\/x.getD i 0=cur.getD i 0 from λi hi=>by
      by_cases e:i=j
      .subst e;exact .inr h
      exact a3.q i (by omega))
     have a1:=qQ (λ(aR:j≠q) (D:x.getD j 0≠cur.getD j 0)=>show J.bQ op args=([],6) by
      rw[px.q,aj.Bp (by have:=gG.q;omega) aR D];rfl)
     generalize x.getD j 0=E at a9 a5 a1;generalize cur.getD j 0=O at cc a5 a1;by_cases aB:E=O
     .have a4:=qQ (a5.q aB);subst aB;have cy:(E != E)=false:=by simp
      clear ao;go_wp2_with fail
      go_quiet (fail)
      have bB:=qQ (zV aW.q nq);have bM:=qQ (aI.q.drewN nq);generalize wr.drewN nq=cG at bB bM |-;go_wp2_with fail;go_roundw
      case rel=>exact⟨j+1,by go_num,by omega,a4.q,bB.q,by rw[cd.q];exact bM.q⟩
      case measure=>simp[intOf];omega
     have aZ:=qQ (a1.q ao aB);have cy:(E != O)=true:=by simpa using aB
     clear ao aB;go_wp2_with fail
     go_quiet (fail)
     have M:=qQ (zV aX.q nq);generalize wr.drewN nq=cG at M |-;go_wp2_with fail
     go_ret2
     rw[aZ.q];exact⟨_,rfl,af.aN.nil _ _,M.q⟩
    obtain rfl:j=r:=by omega
    have bS:J.j' q cur x=true:=aj.yt (by rw[Z.q,gG.q]) (λi hi=>a3.q i (by rw[<-gG.q];exact hi));have bG:=qQ (show J.bQ op args=J.cU q (cur.set q (cur.getD q 0+x.getD q 0)) (args.drop (k+1+1)) by rw[px.q,bS];rfl);have a_:=aF.q q;have bn:0<=x.getD q 0/\x.getD q 0<=4096:=by
     rw[J.getD_at x q (by have:=Z.q;omega)];exact vD.2 _ (qP _)
    have I:=qQ (show af.fH wr g N (cur.set q (cur.getD q 0+x.getD q 0)) by
     have h:=aI.q;unfold aj.j8 at h
     rwa [qY cF]at h)
    have bA:=qQ (show ∀i,0<=(cur.set q (cur.getD q 0+x.getD q 0)).getD i 0/\(cur.set q (cur.getD q 0+x.getD q 0)).getD i 0<=(((k+1:Nat):Int)+1)*4096 from λi=>by
     rw[aj.vu _ _ _ _ (by have:=gG.q;omega)];by_cases e:i=q
     .rw[qY e];omega
     rw[qV e];have:=aF.q i;omega)
    have bH:=qQ (show(cur.set q (cur.getD q 0+x.getD q 0)).length=j by rw[xJ,gG.q]);clear bS a_ bn;generalize cur.set q (cur.getD q 0+x.getD q 0)=co at bG I bA bH;go_wp2_with fail;go_roundw
    case rel=>exact⟨k+1,co,by go_num,by omega,bH.q,bA.q,bG.q,aW.q,I.q⟩
    case measure=>simp[intOf];omega
   have aZ:=qQ (show J.bQ op args=([],6) by
     rw[px.q,aj.Bq (by rw[gG.q];exact aD)];rfl)
   have d0:((x.length:Int) != (r:Int))=true:=by simp;omega
   clear aD;go_wp2_with fail
   go_ret2
   rw[aZ.q];exact⟨_,rfl,af.aN.nil _ _,pv.q⟩
  exact Qr
 have d1:((op.a.length:Int) != 1)=true:=by simp;omega
 have br:=qQ (show J.bQ op args=([],6) by rw[cj.q,qY (.inl S)]);clear S;exact Zv
end Go.Proofs.YtabmnaaidfpmcaaGreatDoor
end
