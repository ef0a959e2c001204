/-
  ArrX2, ArrX3, ArrS, ArrY, GrH. Conditions: where the theorems name them.
-/
import Derived.Test.YtabmnaaidfpmcaaGreatDoorV17
set_option linter.unusedVariables false
set_option maxRecDepth 100000
set_option maxHeartbeats 16000000
open Go.Proofs.Tryz
variable {bm:Prop}
section
namespace Go.Proofs.YtabmnaaidfpmcaaGreatDoor
open Go.RowKit aS
namespace af
def xt(op:J.Op)(d:List Int):List Int × Int:=((J.looked op d).1.I,(J.looked op d).2)
theorem KY(op:J.Op)(d:List Int):(J.looked op d).1.I=(xt op d).1:=rfl
theorem KZ(op:J.Op)(d:List Int):(J.looked op d).2=(xt op d).2:=rfl
end af
theorem af.E6(val:Value)(op:J.Op)(A:Option Addr)(cap:Nat)(d:List Int)(B:Nat)(w:World)(ah:B<=w.heap.size)(bb:af.cJ op)(a_:1<=cap)(a':cap<=9223372036854775807)(j:∀x∈[d],(R.size x).2=0)(aG:af.bd w B val op)(N:af.bu w B A [d])(E:op.k=14):Calls Tryz.prog 79 #[val,.slice A 1 cap] w λe w'=>af.ho w w' (J.aP op [d]) e:=by
 have ag:=qQ (show J.aP op [d]=((J.cQ op d).1,(J.cQ op d).2) by unfold J.aP;simp[E]);have aX:=N;obtain⟨b,off,rfl,a8,aE⟩:=aX (by simp);obtain⟨v0,r,X,bT,rfl,i0,a0,m0⟩:=aE 0 (by simp);rw[qL]at r;simp only[zY]at r i0 a0;have aU:=qQ i0;have a9:b<w.heap.size:=by omega
 clear aE i0;have Z:=qQ (aG.bI ah);have a3:=qQ (N.bI ah);obtain⟨v1,v2,v3,v4,v5,rfl,⟨D,cD,rfl,aJ,aL,aN⟩,⟨T,aD,rfl,it,lt,mt⟩,⟨O,co,rfl,io,lo,a2⟩,⟨b1,ci,rfl,ii,li,a1⟩,⟨S,cs,rfl,is,ls,ms⟩⟩:=aG;obtain⟨a5,i,M⟩:=aK (λW (y:Below w.heap.size w W)=>qZ ((aJ.below (y.mono ah)).up (qJ ah y.size)) ((it.below (y.mono ah)).up (qJ ah y.size))) (av.new w 58 #[.int .i64 op.k,.slice D op.I.length cD,.slice T op.a.length aD,.slice O op.l.length co,.slice b1 op.h.length ci,.slice S op.s.length cs,.int .i64 op.v]) ((qK w.heap.size w).alloc (qX _) (.cells #[.int .i64 op.k,.slice D op.I.length cD,.slice T op.a.length aD,.slice O op.l.length co,.slice b1 op.h.length ci,.slice S op.s.length cs,.int .i64 op.v] 58));obtain⟨ak,aI⟩:=gz (w.alloc (.cells #[.int .i64 op.k,.slice D op.I.length cD,.slice T op.a.length aD,.slice O op.l.length co,.slice b1 op.h.length ci,.slice S op.s.length cs,.int .i64 op.v] 58));rw[aI]at i M;have bc:w.heap.size<ak.heap.size:=i.q.lt;have a6:=qQ (show(op.I.length<=cD/\op.a.length<=aD/\op.l.length<=co/\op.h.length<=ci/\op.s.length<=cs)/\cD<=9223372036854775807/\aD<=9223372036854775807 from⟨⟨aL,lt,lo,li,ls⟩,aN,mt⟩);have aW:=qQ j;clear aJ it io ii is aL lt lo li ls aN mt a2 a1 ms N j
 skip
 have a4:=qQ E;rw[E]at i Z aI |-;have aO:ak.cell? ⟨w.heap.size,0,none⟩=some (.int .i64 14):=i.q.cell 0;have aQ:ak.cell? ⟨w.heap.size,1,none⟩=some (.slice D op.I.length cD):=i.q.cell 1;have b':ak.cell? ⟨w.heap.size,2,none⟩=some (.slice T op.a.length aD):=i.q.cell 2;have ca:ak.cell? ⟨w.heap.size,3,none⟩=some (.slice O op.l.length co):=i.q.cell 3;have cl:ak.cell? ⟨w.heap.size,4,none⟩=some (.slice b1 op.h.length ci):=i.q.cell 4;have ct:ak.cell? ⟨w.heap.size,5,none⟩=some (.slice S op.s.length cs):=i.q.cell 5;have c3:ak.cell? ⟨w.heap.size,6,none⟩=some (.int .i64 op.v):=i.q.cell 6;clear E;have j:=aW.q d (by simp);obtain⟨aZ,aF,_⟩:=R.aB j;have aT:=qQ aF;have a7:=qQ j;have ao:=(M.q.cell (p:=⟨b,off,none⟩) (by show b<w.heap.size;omega)).trans r;have i1:(0:Int)<1:=by omega
 clear r j aF;go_enter func79,ntmps79;go_wp2_with fail;refine fk (λw'=>w'.cell? ⟨w.heap.size,0,none⟩=some (.int .i64 14)/\w'.cell? ⟨w.heap.size,1,none⟩=some (.slice D op.I.length cD)/\w'.cell? ⟨w.heap.size,2,none⟩=some (.slice T op.a.length aD)/\w'.cell? ⟨w.heap.size,3,none⟩=some (.slice O op.l.length co)/\w'.cell? ⟨w.heap.size,4,none⟩=some (.slice b1 op.h.length ci)/\w'.cell? ⟨w.heap.size,5,none⟩=some (.slice S op.s.length cs)/\w'.cell? ⟨w.heap.size,6,none⟩=some (.int .i64 op.v)/\w'.cell? ⟨b,off,none⟩=some (.slice X d.length bT)) 4 9 (⟨aO,aQ,b',ca,cl,ct,c3,ao⟩) (λap=>?_);simp only[qF,qG];refine bX [] 0 86 ?_;refine bX [2,3] 1 87 ?_;refine bX [3] 2 88 ?_;refine bX [] 3 89 ?_;try simp only[Act.put,bj,bk,bl]
 have m:=qQ (show Below w.heap.size w ak.drew from M.q.drew);clear ap aO aQ b' ca cl ct c3 ao;generalize ak.drew=V at m |-;have Y:=qQ (af.AQ _ op X bT d V.heap.size V (qX _) aZ aT.q (Z.q V m.q) ((aU.q.below (m.q.mono ah)).up (qJ ah m.q.size)));obtain⟨l,Q⟩:=gz ((J.cQ op d).1);obtain⟨x,U⟩:=gz ((J.cQ op d).2);rw[Q,U]at ag;simp only[Q,U]at Y;clear Q U;refine eh 4 (by kernel_rfl) (dq rfl rfl (by kernel_rfl) (λK aq=>?_));go_simp
 ((with_reducible refine Y.q.mono ?_);rintro e aC ⟨v,rfl,aH,az⟩)
 have aR:=qQ (aA m.q az);have aV:=qQ aH;clear az aH;try go_simp
 refine aq.q _ _ trivial (λap=>?_);clear aq K;try simp only[bj,bk,bl]
 refine mw 5 91 ?_;refine mw 6 92 ?_;try simp only[Act.put,bj,bk,bl]
 refine eW [_,_] 7 [8] ?_;go_wp2_with fail
 go_ret2
 rw[ag.q];exact⟨_,rfl,aV.q,aR.q⟩
theorem af.mv(val:Value)(op:J.Op)(A:Option Addr)(cap:Nat)(d:List Int)(B:Nat)(w:World)(ah:B<=w.heap.size)(bc:af.cJ op)(a_:1<=cap)(a':cap<=9223372036854775807)(j:∀x∈[d],(R.size x).2=0)(aG:af.bd w B val op)(N:af.bu w B A [d])(K:Int)(aX:K=9\/K=11\/K=13\/K=15)(E:op.k=K):Calls Tryz.prog 79 #[val,.slice A 1 cap] w λe w'=>af.ho w w' (J.aP op [d]) e:=by
 rcases aX with rfl | rfl | rfl | rfl
 all_goals
  have ag:=qQ (show J.aP op [d]=((af.xt op d).1,(af.xt op d).2) by unfold J.aP;simp[E,af.KY,af.KZ]);have aZ:=N;obtain⟨b,off,rfl,a8,aE⟩:=aZ (by simp);obtain⟨v0,r,X,bT,rfl,i0,aL,m0⟩:=aE 0 (by simp);rw[qL]at r;simp only[zY]at r i0 aL;have aU:=qQ i0;have a9:b<w.heap.size:=by omega
  clear aE i0;have Z:=qQ (aG.bI ah);have a2:=qQ (N.bI ah);obtain⟨v1,v2,v3,v4,v5,rfl,⟨D,cD,rfl,aJ,aN,aO⟩,⟨T,aD,rfl,it,lt,mt⟩,⟨O,co,rfl,io,lo,a1⟩,⟨b1,ci,rfl,ii,li,a0⟩,⟨S,cs,rfl,is,ls,ms⟩⟩:=aG;obtain⟨a5,i,M⟩:=aK (λW (y:Below w.heap.size w W)=>qZ ((aJ.below (y.mono ah)).up (qJ ah y.size)) ((it.below (y.mono ah)).up (qJ ah y.size))) (av.new w 58 #[.int .i64 op.k,.slice D op.I.length cD,.slice T op.a.length aD,.slice O op.l.length co,.slice b1 op.h.length ci,.slice S op.s.length cs,.int .i64 op.v]) ((qK w.heap.size w).alloc (qX _) (.cells #[.int .i64 op.k,.slice D op.I.length cD,.slice T op.a.length aD,.slice O op.l.length co,.slice b1 op.h.length ci,.slice S op.s.length cs,.int .i64 op.v] 58));obtain⟨ak,aI⟩:=gz (w.alloc (.cells #[.int .i64 op.k,.slice D op.I.length cD,.slice T op.a.length aD,.slice O op.l.length co,.slice b1 op.h.length ci,.slice S op.s.length cs,.int .i64 op.v] 58));rw[aI]at i M;have be:w.heap.size<ak.heap.size:=i.q.lt;have a6:=qQ (show(op.I.length<=cD/\op.a.length<=aD/\op.l.length<=co/\op.h.length<=ci/\op.s.length<=cs)/\cD<=9223372036854775807/\aD<=9223372036854775807 from⟨⟨aN,lt,lo,li,ls⟩,aO,mt⟩);have aW:=qQ j;clear aJ it io ii is aN lt lo li ls aO mt a1 a0 ms N j
  skip
  have a4:=qQ E;rw[E]at i Z aI |-;have aQ:ak.cell? ⟨w.heap.size,0,none⟩=some (.int .i64 _):=i.q.cell 0;have aR:ak.cell? ⟨w.heap.size,1,none⟩=some (.slice D op.I.length cD):=i.q.cell 1;have b':ak.cell? ⟨w.heap.size,2,none⟩=some (.slice T op.a.length aD):=i.q.cell 2;have ca:ak.cell? ⟨w.heap.size,3,none⟩=some (.slice O op.l.length co):=i.q.cell 3;have cl:ak.cell? ⟨w.heap.size,4,none⟩=some (.slice b1 op.h.length ci):=i.q.cell 4;have ct:ak.cell? ⟨w.heap.size,5,none⟩=some (.slice S op.s.length cs):=i.q.cell 5;have c3:ak.cell? ⟨w.heap.size,6,none⟩=some (.int .i64 op.v):=i.q.cell 6;clear E;have j:=aW.q d (by simp);obtain⟨bb,aF,_⟩:=R.aB j;have a3:=qQ aF;have a7:=qQ j;have ao:=(M.q.cell (p:=⟨b,off,none⟩) (by show b<w.heap.size;omega)).trans r;have i1:(0:Int)<1:=by omega
  clear r j aF;go_enter func79,ntmps79;go_wp2_with fail;refine fk (λw'=>w'.cell? ⟨w.heap.size,0,none⟩=some (.int .i64 _)/\w'.cell? ⟨w.heap.size,1,none⟩=some (.slice D op.I.length cD)/\w'.cell? ⟨w.heap.size,2,none⟩=some (.slice T op.a.length aD)/\w'.cell? ⟨w.heap.size,3,none⟩=some (.slice O op.l.length co)/\w'.cell? ⟨w.heap.size,4,none⟩=some (.slice b1 op.h.length ci)/\w'.cell? ⟨w.heap.size,5,none⟩=some (.slice S op.s.length cs)/\w'.cell? ⟨w.heap.size,6,none⟩=some (.int .i64 op.v)/\w'.cell? ⟨b,off,none⟩=some (.slice X d.length bT)) 4 9 (⟨aQ,aR,b',ca,cl,ct,c3,ao⟩) (λap=>?_);simp only[qF,qG];refine bX [] 0 170 ?_;refine bX [2,3] 1 171 ?_;refine bX [3] 2 172 ?_;refine bX [] 3 173 ?_;try simp only[Act.put,bj,bk,bl]
  have m:=qQ (show Below w.heap.size w ak.drew from M.q.drew);clear ap aQ aR b' ca cl ct c3 ao;generalize ak.drew=V at m |-;have Y:=qQ (af.Al _ op X bT d V.heap.size V (qX _) (Z.q V m.q) ((aU.q.below (m.q.mono ah)).up (qJ ah m.q.size)) aL m0);obtain⟨l,Q⟩:=gz ((af.xt op d).1);obtain⟨x,U⟩:=gz ((af.xt op d).2);rw[Q,U]at ag;simp only[Q,U,af.KY,af.KZ]at Y;clear Q U;refine eh 4 (by kernel_rfl) (dq rfl rfl (by kernel_rfl) (λK aq=>?_));go_simp
  ((with_reducible refine Y.q.mono ?_);rintro e aC ⟨v,rfl,aH,az⟩)
  have aT:=qQ (aA m.q az);have aV:=qQ aH;clear az aH;try go_simp
  refine aq.q _ _ trivial (λap=>?_);clear aq K;try simp only[bj,bk,bl]
  refine mw 5 175 ?_;refine mw 6 176 ?_;try simp only[Act.put,bj,bk,bl]
  refine eW [_,_] 7 [8] ?_;go_wp2_with fail
  go_ret2
  rw[ag.q];exact⟨_,rfl,aV.q,aT.q⟩
theorem af.E5(val:Value)(op:J.Op)(A:Option Addr)(cap:Nat)(d f:List Int)(B:Nat)(w:World)(ah:B<=w.heap.size)(N:af.cJ op)(bn:2<=cap)(bo:cap<=9223372036854775807)(m:∀x∈[d,f],(R.size x).2=0)(aN:af.bd w B val op)(U:af.bu w B A [d,f])(M:op.k=16):Calls Tryz.prog 79 #[val,.slice A 2 cap] w λe w'=>af.ho w w' (J.aP op [d,f]) e:=by
 have ap:=qQ (show J.aP op [d,f]=((J.dA op d f).1,(J.dA op d f).2) by unfold J.aP;simp[M]);have a6:=U;obtain⟨b,off,rfl,bh,V⟩:=a6 (by simp);obtain⟨v0,y,Z,bT,rfl,i0,a9,m0⟩:=V 0 (by simp);obtain⟨bq,Q,aQ,aO,rfl,X,cW,m1⟩:=V 1 (by simp);rw[qL]at y;simp only[zY,jB]at y i0 a9 Q X cW;have a3:=qQ i0;have a4:=qQ X;have bm:b<w.heap.size:=by omega
 clear V i0 X;have ao:=qQ (aN.bI ah);have bb:=qQ (U.bI ah);obtain⟨v1,v2,v3,v4,v5,rfl,⟨D,cD,rfl,aW,aX,aZ⟩,⟨T,aD,rfl,it,lt,mt⟩,⟨O,co,rfl,io,lo,a'⟩,⟨b1,ci,rfl,ii,li,a_⟩,⟨S,cs,rfl,is,ls,ms⟩⟩:=aN;obtain⟨bf,i,r⟩:=aK (λW (E:Below w.heap.size w W)=>qZ ((aW.below (E.mono ah)).up (qJ ah E.size)) ((it.below (E.mono ah)).up (qJ ah E.size))) (av.new w 58 #[.int .i64 op.k,.slice D op.I.length cD,.slice T op.a.length aD,.slice O op.l.length co,.slice b1 op.h.length ci,.slice S op.s.length cs,.int .i64 op.v]) ((qK w.heap.size w).alloc (qX _) (.cells #[.int .i64 op.k,.slice D op.I.length cD,.slice T op.a.length aD,.slice O op.l.length co,.slice b1 op.h.length ci,.slice S op.s.length cs,.int .i64 op.v] 58));obtain⟨ak,aT⟩:=gz (w.alloc (.cells #[.int .i64 op.k,.slice D op.I.length cD,.slice T op.a.length aD,.slice O op.l.length co,.slice b1 op.h.length ci,.slice S op.s.length cs,.int .i64 op.v] 58));rw[aT]at i r;have bp:w.heap.size<ak.heap.size:=i.q.lt;have bg:=qQ (show(op.I.length<=cD/\op.a.length<=aD/\op.l.length<=co/\op.h.length<=ci/\op.s.length<=cs)/\cD<=9223372036854775807/\aD<=9223372036854775807 from⟨⟨aX,lt,lo,li,ls⟩,aZ,mt⟩);have aq:=qQ m;clear aW it io ii is aX lt lo li ls aZ mt a' a_ ms U m
 skip
 have be:=qQ M;rw[M]at i ao aT |-;have a0:ak.cell? ⟨w.heap.size,0,none⟩=some (.int .i64 16):=i.q.cell 0;have a1:ak.cell? ⟨w.heap.size,1,none⟩=some (.slice D op.I.length cD):=i.q.cell 1;have b':ak.cell? ⟨w.heap.size,2,none⟩=some (.slice T op.a.length aD):=i.q.cell 2;have ca:ak.cell? ⟨w.heap.size,3,none⟩=some (.slice O op.l.length co):=i.q.cell 3;have cl:ak.cell? ⟨w.heap.size,4,none⟩=some (.slice b1 op.h.length ci):=i.q.cell 4;have ct:ak.cell? ⟨w.heap.size,5,none⟩=some (.slice S op.s.length cs):=i.q.cell 5;have c3:ak.cell? ⟨w.heap.size,6,none⟩=some (.int .i64 op.v):=i.q.cell 6;clear M;have m:=aq.q d (by simp);have aV:=aq.q f (by simp);obtain⟨a7,aI,_⟩:=R.aB m;obtain⟨a8,aJ,_⟩:=R.aB aV;have bc:=qQ (qZ aI aJ);have az:=(r.q.cell (p:=⟨b,off,none⟩) (by show b<w.heap.size;omega)).trans y;have aE:=(r.q.cell (p:=⟨b,off+1,none⟩) (by show b<w.heap.size;omega)).trans Q;have i1:(0:Int)<2:=by omega
 have i2:(1:Int)<2:=by omega
 clear y Q m aV aI aJ;go_enter func79,ntmps79;go_wp2_with fail;refine fk (λw'=>w'.cell? ⟨w.heap.size,0,none⟩=some (.int .i64 16)/\w'.cell? ⟨w.heap.size,1,none⟩=some (.slice D op.I.length cD)/\w'.cell? ⟨w.heap.size,2,none⟩=some (.slice T op.a.length aD)/\w'.cell? ⟨w.heap.size,3,none⟩=some (.slice O op.l.length co)/\w'.cell? ⟨w.heap.size,4,none⟩=some (.slice b1 op.h.length ci)/\w'.cell? ⟨w.heap.size,5,none⟩=some (.slice S op.s.length cs)/\w'.cell? ⟨w.heap.size,6,none⟩=some (.int .i64 op.v)/\w'.cell? ⟨b,off,none⟩=some (.slice Z d.length bT)/\w'.cell? ⟨b,off+1,none⟩=some (.slice aQ f.length aO)) 7 12 (⟨a0,a1,b',ca,cl,ct,c3,az,aE⟩) (λaF=>?_);simp only[qF,qG];refine bX [] 0 95 ?_;refine bX [2,3] 1 96 ?_;refine bX [3] 2 97 ?_;refine bX [] 3 98 ?_;refine bX [5,6] 4 99 ?_;refine bX [6] 5 100 ?_;refine bX [] 6 101 ?_;try simp only[Act.put,bj,bk,bl]
 have j:=qQ (show Below w.heap.size w ak.drew from r.q.drew);clear aF a0 a1 b' ca cl ct c3 az aE;generalize ak.drew=Y at j |-;have ag:=qQ (af.AE _ op Z aQ bT aO d f Y.heap.size Y (qX _) a7 a8 N.2.1 N.2.2.1 N.2.2.2.1 N.2.2.2.2 (ao.q Y j.q) ((a3.q.below (j.q.mono ah)).up (qJ ah j.q.size)) ((a4.q.below (j.q.mono ah)).up (qJ ah j.q.size)));obtain⟨l,aL⟩:=gz ((J.dA op d f).1);obtain⟨x,aU⟩:=gz ((J.dA op d f).2);rw[aL,aU]at ap ag;clear aL aU;refine eh 7 (by kernel_rfl) (dq rfl rfl (by kernel_rfl) (λK aG=>?_));go_simp
 ((with_reducible refine ag.q.mono ?_);rintro e aC ⟨v,rfl,aR,aH⟩)
 have a2:=qQ (aA j.q aH);have a5:=qQ aR;clear aH aR;try go_simp
 refine aG.q _ _ trivial (λaF=>?_);clear aG K;try simp only[bj,bk,bl]
 refine mw 8 103 ?_;refine mw 9 104 ?_;try simp only[Act.put,bj,bk,bl]
 refine eW [_,_] 10 [11] ?_;go_wp2_with fail
 go_ret2
 rw[ap.q];exact⟨_,rfl,a5.q,a2.q⟩
theorem af.C4(val:Value)(op:J.Op)(A:Option Addr)(cap:Nat)(args:List (List Int))(B:Nat)(w:World)(ah:B<=w.heap.size)(aV:af.cJ op)(aL:0<args.length)(aU:args.length<=8388608)(aI:args.length<=cap)(aJ:cap<=9223372036854775807)(ao:∀d∈args,(R.size d).2=0)(X:af.bd w B val op)(Q:af.bu w B A args)(r:op.k=17):Calls Tryz.prog 79 #[val,.slice A args.length cap] w λe w'=>af.ho w w' (J.aP op args) e:=by
 obtain⟨M,E,aE⟩:=aK (show J.aP op args=((J.bQ op args).1,(J.bQ op args).2) by unfold J.aP;simp[r]) (X.bI ah) (Q.bI ah);obtain⟨v1,v2,v3,v4,v5,rfl,⟨D,cD,rfl,ap,aq,az⟩,⟨T,aD,rfl,it,lt,mt⟩,⟨O,co,rfl,io,lo,aO⟩,⟨b1,ci,rfl,ii,li,aN⟩,⟨S,cs,rfl,is,ls,ms⟩⟩:=X;obtain⟨aR,i,j⟩:=aK (λW (m:Below w.heap.size w W)=>qZ ((ap.below (m.mono ah)).up (qJ ah m.size)) ((it.below (m.mono ah)).up (qJ ah m.size))) (av.new w 58 #[.int .i64 op.k,.slice D op.I.length cD,.slice T op.a.length aD,.slice O op.l.length co,.slice b1 op.h.length ci,.slice S op.s.length cs,.int .i64 op.v]) ((qK w.heap.size w).alloc (qX _) (.cells #[.int .i64 op.k,.slice D op.I.length cD,.slice T op.a.length aD,.slice O op.l.length co,.slice b1 op.h.length ci,.slice S op.s.length cs,.int .i64 op.v] 58));obtain⟨ak,Z⟩:=gz (w.alloc (.cells #[.int .i64 op.k,.slice D op.I.length cD,.slice T op.a.length aD,.slice O op.l.length co,.slice b1 op.h.length ci,.slice S op.s.length cs,.int .i64 op.v] 58));rw[Z]at i j;have aW:w.heap.size<ak.heap.size:=i.q.lt;have aT:=qQ (show(op.I.length<=cD/\op.a.length<=aD/\op.l.length<=co/\op.h.length<=ci/\op.s.length<=cs)/\cD<=9223372036854775807/\aD<=9223372036854775807 from⟨⟨aq,lt,lo,li,ls⟩,az,mt⟩);have N:=qQ ao;clear ap it io ii is aq lt lo li ls az mt aO aN ms Q ao
 skip
 have aQ:=qQ r;rw[r]at i E Z |-;have aX:ak.cell? ⟨w.heap.size,0,none⟩=some (.int .i64 17):=i.q.cell 0;have aZ:ak.cell? ⟨w.heap.size,1,none⟩=some (.slice D op.I.length cD):=i.q.cell 1;have b':ak.cell? ⟨w.heap.size,2,none⟩=some (.slice T op.a.length aD):=i.q.cell 2;have ca:ak.cell? ⟨w.heap.size,3,none⟩=some (.slice O op.l.length co):=i.q.cell 3;have cl:ak.cell? ⟨w.heap.size,4,none⟩=some (.slice b1 op.h.length ci):=i.q.cell 4;have ct:ak.cell? ⟨w.heap.size,5,none⟩=some (.slice S op.s.length cs):=i.q.cell 5;have c3:ak.cell? ⟨w.heap.size,6,none⟩=some (.int .i64 op.v):=i.q.cell 6;clear r;have y:=qQ (af.y_ _ op A cap args ak.heap.size ak (qX _) aL (by omega) aI aJ (λd ar=>⟨(R.aB (N.q d ar)).1,(R.aB (N.q d ar)).2.1⟩) (E.q ak j.q) (aE.q ak j.q));obtain⟨l,V⟩:=gz ((J.bQ op args).1);obtain⟨x,ag⟩:=gz ((J.bQ op args).2);rw[V,ag]at M y;clear V ag;have aG:=qQ j.q;go_enter func79,ntmps79;go_wp2_with fail
 ((with_reducible refine y.q.mono ?_);rintro e aC ⟨v,rfl,Y,U⟩)
 have aF:=qQ (aA aG.q U);have aH:=qQ Y;clear U Y;go_wp2_with fail
 go_ret2
 rw[M.q];exact⟨_,rfl,aH.q,aF.q⟩
theorem _root_.Qb{G:Prop}(h:G:=by
 obtain⟨L,ua⟩:=gz (f++d.drop 1);rw[ua]at gn mF;clear ny ua;refine eW [_,_,_] 7 [8,9] ?_;go_wp2_with fail
 ((with_reducible refine gn.q.mono ?_);rintro e aC ⟨v,rfl,dP,aE⟩)
 have eN:=qQ (aA b6.q aE);have iz:=qQ (af.b3 dP);clear dP aE;go_wp2_with fail
 go_ret2
 rw[mF.q];exact⟨_,rfl,iz.q,eN.q⟩
 ):G:=h
theorem _root_.Jo{G:Prop}(r:bm)(f:dS bm->G:=by
 intro bb;simp only[qF,qG];refine bX [1,2] 0 119 ?_;refine bX [2] 1 120 ?_;refine bX [] 2 121 ?_;refine bX [4,5,6] 3 122 ?_;refine bX [5,6] 4 123 ?_;refine bX [6] 5 124 ?_;refine bX [] 6 125 ?_;try simp only[Act.put,bj,bk,bl]
 have b6:=qQ (show Below w.heap.size w ak.drew from bp.q.drew);revert b6;exact bb.o
 ):G:=f ⟨r⟩
theorem af.C5(val:Value)(op:J.Op)(A:Option Addr)(cap:Nat)(d f:List Int)(B:Nat)(w:World)(ah:B<=w.heap.size)(bs:af.cJ op)(bn:2<=cap)(bo:cap<=9223372036854775807)(r:∀x∈[d,f],(R.size x).2=0)(aL:af.bd w B val op)(Z:af.bu w B A [d,f])(N:op.k=18):Calls Tryz.prog 79 #[val,.slice A 2 cap] w λe w'=>af.ho w w' (J.aP op [d,f]) e:=by
 have az:=qQ (show J.aP op [d,f]=if d.length=0 then([],6)else(f++d.drop 1,0) by unfold J.aP;simp[N]);have a2:=Z;obtain⟨b,off,rfl,bg,ag⟩:=a2 (by simp);obtain⟨v0,M,a8,bT,rfl,i0,aV,m0⟩:=ag 0 (by simp);obtain⟨bv,X,aQ,aO,rfl,ap,cW,m1⟩:=ag 1 (by simp);rw[qL]at M;simp only[zY,jB]at M i0 aV X ap cW;have V:=qQ i0;have aq:=qQ ap;have bh:b<w.heap.size:=by omega
 clear ag i0 ap;have a1:=qQ (aL.bI ah);have a9:=qQ (Z.bI ah);obtain⟨v1,v2,v3,v4,v5,rfl,⟨D,cD,rfl,aU,aW,aX⟩,⟨T,aD,rfl,it,lt,mt⟩,⟨O,co,rfl,io,lo,a6⟩,⟨b1,ci,rfl,ii,li,a5⟩,⟨S,cs,rfl,is,ls,ms⟩⟩:=aL;obtain⟨bc,i,bp⟩:=aK (λW (aE:Below w.heap.size w W)=>qZ ((aU.below (aE.mono ah)).up (qJ ah aE.size)) ((it.below (aE.mono ah)).up (qJ ah aE.size))) (av.new w 58 #[.int .i64 op.k,.slice D op.I.length cD,.slice T op.a.length aD,.slice O op.l.length co,.slice b1 op.h.length ci,.slice S op.s.length cs,.int .i64 op.v]) ((qK w.heap.size w).alloc (qX _) (.cells #[.int .i64 op.k,.slice D op.I.length cD,.slice T op.a.length aD,.slice O op.l.length co,.slice b1 op.h.length ci,.slice S op.s.length cs,.int .i64 op.v] 58));obtain⟨ak,aR⟩:=gz (w.alloc (.cells #[.int .i64 op.k,.slice D op.I.length cD,.slice T op.a.length aD,.slice O op.l.length co,.slice b1 op.h.length ci,.slice S op.s.length cs,.int .i64 op.v] 58));rw[aR]at i bp;have bt:w.heap.size<ak.heap.size:=i.q.lt;have be:=qQ (show(op.I.length<=cD/\op.a.length<=aD/\op.l.length<=co/\op.h.length<=ci/\op.s.length<=cs)/\cD<=9223372036854775807/\aD<=9223372036854775807 from⟨⟨aW,lt,lo,li,ls⟩,aX,mt⟩);have aF:=qQ r;clear aU it io ii is aW lt lo li ls aX mt a6 a5 ms Z r
 skip
 have a':=qQ N;rw[N]at i a1 aR |-;have aZ:ak.cell? ⟨w.heap.size,0,none⟩=some (.int .i64 18):=i.q.cell 0;have a0:ak.cell? ⟨w.heap.size,1,none⟩=some (.slice D op.I.length cD):=i.q.cell 1;have b':ak.cell? ⟨w.heap.size,2,none⟩=some (.slice T op.a.length aD):=i.q.cell 2;have ca:ak.cell? ⟨w.heap.size,3,none⟩=some (.slice O op.l.length co):=i.q.cell 3;have cl:ak.cell? ⟨w.heap.size,4,none⟩=some (.slice b1 op.h.length ci):=i.q.cell 4;have ct:ak.cell? ⟨w.heap.size,5,none⟩=some (.slice S op.s.length cs):=i.q.cell 5;have c3:ak.cell? ⟨w.heap.size,6,none⟩=some (.int .i64 op.v):=i.q.cell 6;clear N;have r:=aF.q d (by simp);have aT:=aF.q f (by simp);obtain⟨a3,aI,_⟩:=R.aB r;obtain⟨bq,aJ,_⟩:=R.aB aT;have a_:=qQ (qZ aI aJ);have j:=(bp.q.cell (p:=⟨b,off,none⟩) (by show b<w.heap.size;omega)).trans M;have E:=(bp.q.cell (p:=⟨b,off+1,none⟩) (by show b<w.heap.size;omega)).trans X;have i1:(0:Int)<2:=by omega
 have i2:(1:Int)<2:=by omega
 clear M X r aT aI aJ;by_cases m:d.length=0
 .have br:=qQ (show J.aP op [d,f]=([],6) by rw[az.q,qY m]);rw[m]at j;clear m;go_enter func79,ntmps79;exact Xk
 have a7:((d.length:Int) == 0)=false:=by rw[jS];omega
 have mF:=qQ (show J.aP op [d,f]=(f++d.drop 1,0) by rw[az.q,qV m]);obtain⟨b0,Q,rfl,bf,_⟩:=V.q (by omega);have a4:(1:Int)<=(d.length:Int):=by omega
 by_cases aG:bT=1
 .have ao:d.length=1:=by omega
  subst aG;have aH:d.drop 1=[]:=jD (by omega);rw[ao]at j;have U:=qQ (qZ ao aH);clear m aH ao a7 aV a4 a3 m0;go_enter func79,ntmps79;go_wp2_with fail;refine fk (λw'=>w'.cell? ⟨b,off,none⟩=some (.slice (some ⟨b0,Q,none⟩) 1 1)/\w'.cell? ⟨b,off+1,none⟩=some (.slice aQ f.length aO)) 7 10 (⟨j,E⟩) (λY=>?_);refine Jo ?_;intro b6;clear Y aZ a0 b' ca cl ct c3 j E;generalize ak.drew=y at b6 |-;have ny:=(V.q.below (b6.q.mono ah)).up (qJ ah b6.q.size);have gn:=qQ (by have h:=af.dK aQ (some ⟨b0,Q,none⟩) aO 0 f (d.drop 1) y.heap.size y (qX _) (by omega) (by rw[U.q.2];simp) ((aq.q.below (b6.q.mono ah)).up (qJ ah b6.q.size)) (λh=>by rw[U.q.2]at h;simp at h);rwa [show(d.drop 1).length=0 by rw[U.q.2];rfl]at h);exact Qb
 have bm:2<=bT:=by omega
 clear m aG;go_enter func79,ntmps79;go_wp2_with fail;refine fk (λw'=>w'.cell? ⟨b,off,none⟩=some (.slice (some ⟨b0,Q,none⟩) d.length bT)/\w'.cell? ⟨b,off+1,none⟩=some (.slice aQ f.length aO)) 7 10 (⟨j,E⟩) (λY=>?_);refine Jo ?_;intro b6;clear Y aZ a0 b' ca cl ct c3 j E;generalize ak.drew=y at b6 |-;have ny:=(V.q.below (b6.q.mono ah)).up (qJ ah b6.q.size);have gn:=qQ (by have h:=af.dK aQ (some ⟨b0,Q+1,none⟩) aO (bT-1) f (d.drop 1) y.heap.size y (qX _) (by omega) (by rw[qS];omega) ((aq.q.below (b6.q.mono ah)).up (qJ ah b6.q.size)) (af.lN ny 1);rwa [show(d.drop 1).length=d.length-1 by rw[qS]]at h);exact Qb
theorem _root_.Qw{G:Prop}(h:G:=by
 obtain⟨L,ua⟩:=gz (op.I++d.drop f.length);rw[ua]at gn mF;clear ny ua;refine eW [_,_,_] 10 [11,12] ?_;go_wp2_with fail
 ((with_reducible refine gn.q.mono ?_);rintro e aC ⟨v,rfl,dP,aE⟩)
 have eN:=qQ (aA b6.q aE);have iz:=qQ (af.b3 dP);clear dP aE;go_wp2_with fail
 go_ret2
 rw[mF.q];exact⟨_,rfl,iz.q,eN.q⟩
 ):G:=h
theorem _root_.ZZ{G:Prop}(h:G:=by
 go_enter func79,ntmps79;go_wp2_with fail
 go_quiet (fail)
 have lv:=qQ (zV bp.q nq);clear gQ fp b' ca cl ct c3 lD u';generalize ak.drewN nq=sL at lv |-;go_wp2_with fail
 go_ret2
 rw[br.q];exact⟨_,rfl,af.aN.nil _ _,lv.q⟩
 ):G:=h
theorem _root_.Jf{G:Prop}(r:bm)(f:dS bm->G:=by
 intro bb;simp only[qF,qG];refine bX [1] 0 159 ?_;refine bX [] 1 160 ?_;refine bX [3,4,9] 2 161 ?_;refine bX [4,9] 3 162 ?_;refine bX [9] 4 163 ?_;refine bX [6,7,8,9] 5 164 ?_;refine bX [7,8,9] 6 165 ?_;refine bX [8,9] 7 166 ?_;refine bX [9] 8 167 ?_;refine bX [] 9 168 ?_;try simp only[Act.put,bj,bk,bl]
 have b6:=qQ (show Below w.heap.size w sL.drew from lv.q.drew);revert b6;exact bb.o
 ):G:=f ⟨r⟩
theorem af.E7(val:Value)(op:J.Op)(A:Option Addr)(cap:Nat)(d f:List Int)(B:Nat)(w:World)(ah:B<=w.heap.size)(bF:af.cJ op)(bD:2<=cap)(bE:cap<=9223372036854775807)(Y:∀x∈[d,f],(R.size x).2=0)(a7:af.bd w B val op)(aH:af.bu w B A [d,f])(aq:op.k=19):Calls Tryz.prog 79 #[val,.slice A 2 cap] w λe w'=>af.ho w w' (J.aP op [d,f]) e:=by
 have aW:=qQ (show J.aP op [d,f]=if op.I.length≠1\/d.length<f.length\/d.take f.length≠f then([],6)else(op.I++d.drop f.length,0) by unfold J.aP;simp[aq]);have bh:=aH;obtain⟨b,off,rfl,bz,aI⟩:=bh (by simp);obtain⟨v0,ap,Z,bT,rfl,i0,aV,m0⟩:=aI 0 (by simp);obtain⟨bJ,aG,aQ,aO,rfl,aU,cW,m1⟩:=aI 1 (by simp);rw[qL]at ap;simp only[zY,jB]at ap i0 aV aG aU cW;have U:=qQ i0;have be:=qQ aU;have bA:b<w.heap.size:=by omega
 clear aI i0 aU;have bf:=qQ (a7.bI ah);have bs:=qQ (aH.bI ah);obtain⟨v1,v2,v3,v4,v5,rfl,⟨D,cD,rfl,a9,a_,a'⟩,⟨T,aD,rfl,it,lt,mt⟩,⟨O,co,rfl,io,lo,bq⟩,⟨b1,ci,rfl,ii,li,bo⟩,⟨S,cs,rfl,is,ls,ms⟩⟩:=a7;obtain⟨ao,j,bp⟩:=aK (λW (aE:Below w.heap.size w W)=>qZ ((a9.below (aE.mono ah)).up (qJ ah aE.size)) ((it.below (aE.mono ah)).up (qJ ah aE.size))) (av.new w 58 #[.int .i64 op.k,.slice D op.I.length cD,.slice T op.a.length aD,.slice O op.l.length co,.slice b1 op.h.length ci,.slice S op.s.length cs,.int .i64 op.v]) ((qK w.heap.size w).alloc (qX _) (.cells #[.int .i64 op.k,.slice D op.I.length cD,.slice T op.a.length aD,.slice O op.l.length co,.slice b1 op.h.length ci,.slice S op.s.length cs,.int .i64 op.v] 58));obtain⟨ak,aT⟩:=gz (w.alloc (.cells #[.int .i64 op.k,.slice D op.I.length cD,.slice T op.a.length aD,.slice O op.l.length co,.slice b1 op.h.length ci,.slice S op.s.length cs,.int .i64 op.v] 58));rw[aT]at j bp;have bG:w.heap.size<ak.heap.size:=j.q.lt;have bx:=qQ (show(op.I.length<=cD/\op.a.length<=aD/\op.l.length<=co/\op.h.length<=ci/\op.s.length<=cs)/\cD<=9223372036854775807/\aD<=9223372036854775807 from⟨⟨a_,lt,lo,li,ls⟩,a',mt⟩);have aX:=qQ Y;clear a9 it io ii is a_ lt lo li ls a' mt bq bo ms aH Y
 skip
 have bw:=qQ aq;rw[aq]at j bf aT |-;have gQ:ak.cell? ⟨w.heap.size,0,none⟩=some (.int .i64 19):=j.q.cell 0;have fp:ak.cell? ⟨w.heap.size,1,none⟩=some (.slice D op.I.length cD):=j.q.cell 1;have b':ak.cell? ⟨w.heap.size,2,none⟩=some (.slice T op.a.length aD):=j.q.cell 2;have ca:ak.cell? ⟨w.heap.size,3,none⟩=some (.slice O op.l.length co):=j.q.cell 3;have cl:ak.cell? ⟨w.heap.size,4,none⟩=some (.slice b1 op.h.length ci):=j.q.cell 4;have ct:ak.cell? ⟨w.heap.size,5,none⟩=some (.slice S op.s.length cs):=j.q.cell 5;have c3:ak.cell? ⟨w.heap.size,6,none⟩=some (.int .i64 op.v):=j.q.cell 6;clear aq;have Y:=aX.q d (by simp);have a8:=aX.q f (by simp);obtain⟨aJ,a5,_⟩:=R.aB Y;obtain⟨bn,a6,_⟩:=R.aB a8;have bv:=qQ (qZ a5 a6);have lD:=(bp.q.cell (p:=⟨b,off,none⟩) (by show b<w.heap.size;omega)).trans ap;have u':=(bp.q.cell (p:=⟨b,off+1,none⟩) (by show b<w.heap.size;omega)).trans aG;have i1:(0:Int)<2:=by omega
 have i2:(1:Int)<2:=by omega
 clear ap aG Y a8 a5 a6;have aF:=qQ (show(op.I.length≠1\/d.length<f.length\/d.take f.length≠f)->J.aP op [d,f]=([],6)from λh=>by rw[aW.q,qY h]);by_cases dm:op.I.length=1
 .have E:=qQ dm;rw[dm]at fp aT j |-;clear dm;by_cases a2:d.length<f.length
  .have br:=qQ (aF.q (.inr (.inl a2)));exact ZZ
  have bc:decide ((d.length:Int)<(f.length:Int))=false:=by simpa using a2
  have X:∀n,Calls Tryz.prog 29 #[.slice Z f.length bT,.slice aQ f.length aO] (ak.drewN n) λe w'=>e=.returned (.bool (decide (d.take f.length=f)))/\∃m,w'=(ak.drewN n).drewN m:=λn=>by
   have aE:=zV bp.q n;have h:=af.h9 Z aQ bT aO (d.take f.length) f B B (ak.drewN n) (by rw[qM];omega) (by omega) (af.ju (U.q.below (aE.mono ah)) f.length) (be.q.below (aE.mono ah))
   rwa [show(d.take f.length).length=f.length by rw[qM];omega]at h
  by_cases a3:d.take f.length=f
  .rw[zD a3]at X;have mF:=qQ (show J.aP op [d,f]=(op.I++d.drop f.length,0) by
    rw[aW.q,qV (λh=>h.elim (λh=>h E.q) (λh=>h.elim a2 (λh=>h a3)))])
   clear a3;go_enter func79,ntmps79;go_wp2_with fail
   go_quiet (exact Calls.quiet_of (X _))
   have lv:=qQ (zV bp.q nq);have r:(ak.drewN nq).cell? ⟨b,off,none⟩=some (.slice Z d.length bT):=lD;have y:(ak.drewN nq).cell? ⟨b,off+1,none⟩=some (.slice aQ f.length aO):=u';have M:(ak.drewN nq).cell? ⟨w.heap.size,1,none⟩=some (.slice D 1 cD):=fp;clear gQ fp b' ca cl ct c3 lD u' X;generalize ak.drewN nq=sL at lv r M y |-;have ag:=qQ aJ;have aZ:f.length<=d.length:=by omega
   have a1:(f.length:Int)<=(d.length:Int):=by omega
   have bg:(0:Int)<=(f.length:Int):=by omega
   by_cases V:d.length=0
   .have aR:f.length=0:=by omega
    rw[V]at r;rw[aR]at y |-;have bt:=qQ (qZ V aR);have N:=qQ (show d.drop f.length=[] by rw[aR];exact List.length_eq_zero_iff.1 V);clear V aV cW aJ bn bc a2 aZ a1 bg m0;cases Z with
    | none =>
     go_wp2_with fail;refine fk (λw'=>w'.cell? ⟨b,off,none⟩=some (.slice none 0 bT)/\w'.cell? ⟨b,off+1,none⟩=some (.slice aQ 0 aO)/\w'.cell? ⟨w.heap.size,1,none⟩=some (.slice D 1 cD)) 10 13 (⟨r,y,M⟩) (λQ=>?_);refine Jf ?_;intro b6;clear Q r M y;generalize sL.drew=i at b6 |-;have ny:=(U.q.below (b6.q.mono ah)).up (qJ ah b6.q.size);have gn:=qQ (by
      have h:=af.dK D none cD bT op.I (d.drop f.length) i.heap.size i (qX _) (by rw[E.q];omega) (by rw[qS];have:=ag.q;omega) (ao.q i b6.q).1 (λh=>by rw[N.q]at h;simp at h)
      rwa [E.q,(show(d.drop f.length).length=0 by rw[N.q];rfl)]at h)
     exact Qw
    | some a0 =>
     go_wp2_with fail;refine fk (λw'=>w'.cell? ⟨b,off,none⟩=some (.slice (some a0) 0 bT)/\w'.cell? ⟨b,off+1,none⟩=some (.slice aQ 0 aO)/\w'.cell? ⟨w.heap.size,1,none⟩=some (.slice D 1 cD)) 10 13 (⟨r,y,M⟩) (λQ=>?_);refine Jf ?_;intro b6;clear Q r M y;generalize sL.drew=i at b6 |-;have ny:=(U.q.below (b6.q.mono ah)).up (qJ ah b6.q.size);have gn:=qQ (by
      have h:=af.dK D (some a0) cD bT op.I (d.drop f.length) i.heap.size i (qX _) (by rw[E.q];omega) (by rw[qS];have:=ag.q;omega) (ao.q i b6.q).1 (λh=>by rw[N.q]at h;simp at h)
      rwa [E.q,(show(d.drop f.length).length=0 by rw[N.q];rfl)]at h)
     exact Qw
   obtain⟨b0,az,rfl,bm,_⟩:=U.q (by omega);by_cases a4:bT=f.length
   .subst a4;have aL:d.length=f.length:=by omega
    rw[aL]at r;have N:=qQ (show d.drop f.length=[] by rw[<-aL];simp);clear V aL aV aZ a1 a2 bc aJ m0 bm;go_wp2_with fail;refine fk (λw'=>w'.cell? ⟨b,off,none⟩=some (.slice (some ⟨b0,az,none⟩) f.length f.length)/\w'.cell? ⟨b,off+1,none⟩=some (.slice aQ f.length aO)/\w'.cell? ⟨w.heap.size,1,none⟩=some (.slice D 1 cD)) 10 13 (⟨r,y,M⟩) (λQ=>?_);refine Jf ?_;intro b6;clear Q r M y;generalize sL.drew=i at b6 |-;have ny:=(U.q.below (b6.q.mono ah)).up (qJ ah b6.q.size);have gn:=qQ (by
     have h:=af.dK D (some ⟨b0,az,none⟩) cD 0 op.I (d.drop f.length) i.heap.size i (qX _) (by rw[E.q];omega) (by rw[qS];have:=ag.q;omega) (ao.q i b6.q).1 (λh=>by rw[N.q]at h;simp at h)
     rwa [E.q,(show(d.drop f.length).length=0 by rw[N.q];rfl)]at h)
    exact Qw
   have bB:f.length<bT:=by omega
   clear V a4 a2;go_wp2_with fail;refine fk (λw'=>w'.cell? ⟨b,off,none⟩=some (.slice (some ⟨b0,az,none⟩) d.length bT)/\w'.cell? ⟨b,off+1,none⟩=some (.slice aQ f.length aO)/\w'.cell? ⟨w.heap.size,1,none⟩=some (.slice D 1 cD)) 10 13 (⟨r,y,M⟩) (λQ=>?_);refine Jf ?_;intro b6;clear Q r M y;generalize sL.drew=i at b6 |-;have ny:=(U.q.below (b6.q.mono ah)).up (qJ ah b6.q.size);have gn:=qQ (by
    have h:=af.dK D (some ⟨b0,az+f.length,none⟩) cD (bT-f.length) op.I (d.drop f.length) i.heap.size i (qX _) (by rw[E.q];omega) (by rw[qS];have:=ag.q;omega) (ao.q i b6.q).1 (af.lN ny f.length)
    rwa [E.q,show(d.drop f.length).length=d.length-f.length by rw[qS]]at h)
   exact Qw
  have br:=qQ (aF.q (.inr (.inr a3)));rw[zN a3]at X;clear a3;go_enter func79,ntmps79;go_wp2_with fail
  go_quiet (exact Calls.quiet_of (X _))
  have lv:=qQ (zV bp.q nq);clear gQ fp b' ca cl ct c3 lD u';generalize ak.drewN nq=sL at lv |-;go_wp2_with fail
  go_ret2
  rw[br.q];exact⟨_,rfl,af.aN.nil _ _,lv.q⟩
 have br:=qQ (aF.q (.inl dm));have bH:((op.I.length:Int) != 1)=true:=by rw[uU];omega
 clear dm;exact ZZ
theorem af.tJ(K:Int)(v1 v2 v3 v4 v5 ld:Value)(n:Nat)(w:World):Calls Tryz.prog 78 #[.agg #[.int .i64 K,v1,v2,v3,v4,v5,ld],.int .i64 (n:Int)] w λe w'=>e=.returned (.int .i64 (J.right K n))/\Below w.heap.size w w':=by
 have r:=qQ (λo=>(qK w.heap.size w).alloc (qX _) o);obtain⟨bm,i⟩:=gz (J.right K n);have y:=qQ i;rw[i];clear i;have j:((n:Int)=0)=(n=0):=by simp
 have bJ:((n:Int)=1)=(n=1):=by rw[eq_iff_iff];omega
 have bn:((n:Int)=2)=(n=2):=by rw[eq_iff_iff];omega
 have m:((n:Int)=3)=(n=3):=by rw[eq_iff_iff];omega
 have x:=qQ (qZ j (qZ bJ (qZ bn m)));clear j bJ bn m;go_enter func78,ntmps78;go_wp2_with fail
 all_goals (go_ret;refine⟨?_,r.q _⟩;rw[<-y.q];obtain⟨j,bJ,bn,m⟩:=x.q;unfold J.right;simp_all)
theorem af.E4(val:Value)(op:J.Op)(A:Option Addr)(cap:Nat)(args:List (List Int))(B:Nat)(w:World)(ah:B<=w.heap.size)(q:af.cJ op)(S:args.length<=8388608)(x:args.length<=cap)(y:cap<=9223372036854775807)(i:J.right op.k args.length=0)(r:∀d∈args,(R.size d).2=0)(m:af.bd w B val op)(j:af.bu w B A args):Calls Tryz.prog 79 #[val,.slice A args.length cap] w λe w'=>af.ho w w' (J.aP op args) e:=by
 unfold J.right at i;by_cases Q:op.k=2
 .exact af.C3 val op A cap args B w ah q r m j Q
 rw[qV Q]at i;by_cases M:op.k=3\/op.k=4\/op.k=5\/op.k=6\/op.k=7\/op.k=16\/op.k=18\/op.k=19
 .rw[qY M]at i;have D:args.length=2:=by by_cases e:args.length=2;exact e;rw[qV e]at i;cases i
  have E:2<=args.length:=by omega
  obtain⟨d,f,rfl⟩:∃d f,args=[d,f]:=by
   match args,D with
   | [d,f],_=>exact⟨d,f,rfl⟩
  rcases M with k | k | k | k | k | k | k | k
  .exact af.im val op A cap [d,f] B w ah q E x y r m j 3 (by simp) k
  .exact af.im val op A cap [d,f] B w ah q E x y r m j 4 (by simp) k
  .exact af.im val op A cap [d,f] B w ah q E x y r m j 5 (by simp) k
  .exact af.im val op A cap [d,f] B w ah q E x y r m j 6 (by simp) k
  .exact af.im val op A cap [d,f] B w ah q E x y r m j 7 (by simp) k
  .exact af.E5 val op A cap d f B w ah q x y r m j k
  .exact af.C5 val op A cap d f B w ah q x y r m j k
  exact af.E7 val op A cap d f B w ah q x y r m j k
 rw[qV M]at i;by_cases N:op.k=8
 .rw[qY N]at i;have D:args.length=3:=by by_cases e:args.length=3;exact e;rw[qV e]at i;cases i
  exact af.im val op A cap args B w ah q (by omega) x y r m j 8 (by simp) N
 rw[qV N]at i;by_cases O:op.k=9\/op.k=10\/op.k=11\/op.k=12\/op.k=13\/op.k=14\/op.k=15
 .rw[qY O]at i;have D:args.length=1:=by by_cases e:args.length=1;exact e;rw[qV e]at i;cases i
  obtain⟨d,rfl⟩:=List.length_eq_one_iff.1 D;rcases O with k | k | k | k | k | k | k
  .exact af.mv val op A cap d B w ah q x y r m j 9 (by simp) k
  .exact af.E8 val op A cap d B w ah q x y r m j k
  .exact af.mv val op A cap d B w ah q x y r m j 11 (by simp) k
  .exact af.z7 val op A cap d B w ah q x y r m j k
  .exact af.mv val op A cap d B w ah q x y r m j 13 (by simp) k
  .exact af.E6 val op A cap d B w ah q x y r m j k
  exact af.mv val op A cap d B w ah q x y r m j 15 (by simp) k
 rw[qV O]at i;by_cases I:op.k=17
 .rw[qY I]at i;have D:0<args.length:=by by_cases e:args.length=0;rw[qY e]at i;cases i;omega
  exact af.C4 val op A cap args B w ah q D S x y r m j I
 rw[qV I]at i;cases i
theorem af.ve(val:Value)(op:J.Op)(A:Option Addr)(cap:Nat)(args:List (List Int))(B:Nat)(w:World)(ah:B<=w.heap.size)(aX:af.cJ op)(aU:args.length<=8388608)(aR:args.length<=cap)(a7:cap<=9223372036854775807)(aV:af.bd w B val op)(aJ:af.bu w B A args):Calls Tryz.prog 51 #[val,.slice A args.length cap] w λe w'=>af.ho w w' (J.I op args) e:=by
 obtain⟨a1,aB,a2⟩:=aK (aV.bI ah) (aJ.bI ah) aX;obtain⟨v1,v2,v3,v4,v5,rfl,_⟩:=aV;have j:=qQ (av.new w 58 #[.int .i64 op.k,v1,v2,v3,v4,v5,.int .i64 op.v]);have aD:=qQ ((qK w.heap.size w).alloc (qX _) (.cells #[.int .i64 op.k,v1,v2,v3,v4,v5,.int .i64 op.v] 58));obtain⟨ak,a9⟩:=gz (w.alloc (.cells #[.int .i64 op.k,v1,v2,v3,v4,v5,.int .i64 op.v] 58));rw[a9]at j aD;have bh:w.heap.size<ak.heap.size:=j.q.lt;obtain⟨S,Dw,a0,U⟩:=cV (af.tJ op.k v1 v2 v3 v4 v5 (.int .i64 op.v) args.length ak) (aj.hV (op:=op) (args:=args)) (λh=>aj.fz (op:=op) (args:=args) h) (λW (aL:Below w.heap.size w W) (a5:J.right op.k args.length=0) (bb:∀d∈args,(R.size d).2=0)=>af.E4 _ op A cap args W.heap.size W (qX _) a2.q aU aR a7 a5 bb (a1.q W aL) (aB.q W aL));have ap:ak.cell? ⟨w.heap.size,0,none⟩=some (.int .i64 op.k):=j.q.cell 0;have aq:ak.cell? ⟨w.heap.size,1,none⟩=some v1:=j.q.cell 1;have b':ak.cell? ⟨w.heap.size,2,none⟩=some v2:=j.q.cell 2;have ca:ak.cell? ⟨w.heap.size,3,none⟩=some v3:=j.q.cell 3;have cl:ak.cell? ⟨w.heap.size,4,none⟩=some v4:=j.q.cell 4;have ct:ak.cell? ⟨w.heap.size,5,none⟩=some v5:=j.q.cell 5;have c3:ak.cell? ⟨w.heap.size,6,none⟩=some (.int .i64 op.v):=j.q.cell 6;have Hh:=qQ (show aj.cf op args=if J.right op.k args.length≠0 then J.right op.k args.length else J.sizes args from rfl);obtain⟨n,X⟩:=gz args.length;have aF:=qQ X;rw[X]at aU aR S Hh U |-;obtain⟨O,aW⟩:=gz (J.right op.k n);rw[aW]at S Hh U;clear X aJ aX aW;go_enter func51,ntmps51;go_wp2_with fail
 ((with_reducible refine S.q.mono ?_);rintro e ag ⟨rfl,V⟩)
 have D:=qQ (aA aD.q V);have r:=qQ (j.q.below V j.q.lt);clear V ap aq b' ca cl ct c3;by_cases cw:O=0
 .subst cw;have K_:=qQ (show aj.cf op args=J.sizes args by rw[Hh.q,qV (by simp)]);obtain⟨ao,a_⟩:∃ao:World,ao=ag:=⟨_,rfl⟩;subst a_;go_wp2_with fail;go_loopw [24] (λZ wr=>∃k:Nat,Z=.int .i64 (k:Int)/\k<=n/\J.sizes args=J.sizes (args.drop k)/\wr=ao) (λZ _=>n-(intOf Z).toNat)
  case atStart=>exact⟨0,rfl,by omega,rfl,rfl⟩
  obtain⟨k,rfl,be,az,a'⟩:=hrel;subst a';have aH:=qQ az;clear az;by_cases bf:k<n
  .have aT:k<args.length:=by have:=aF.q;omega
   obtain⟨b,off,a6,bc,aQ⟩:=aB.q wr D.q (by omega);obtain⟨v,cu,aZ,ci,rfl,hi,a8,bg⟩:=aQ k aT;have i:=qQ (dC aZ ci args[k] wr.heap.size wr (by omega) hi);have ep:=qQ (show J.sizes args=if (R.size args[k]).2≠0 then(R.size args[k]).2 else J.sizes (args.drop (k+1)) by rw[aH.q,zX aT];rfl);have i1:=b2 k;have i2:(k:Int)<n:=by omega
   subst a6;clear aQ hi;generalize args[k]=d at cu i ep a8;unfold ai.b5 at i;by_cases he:(R.size d).2=0
   .rw[he]at ep i;have j:=qQ (show J.sizes args=J.sizes (args.drop (k+1)) by rw[ep.q];rfl);clear he;go_wp2_with fail
    ((with_reducible refine i.q.mono ?_);rintro e aw ⟨rfl,y⟩)
    subst y;go_wp2_with fail;go_roundw
    case rel=>exact⟨k+1,by go_num,by omega,j.q,by trivial⟩
    case measure=>simp[intOf];omega
   have E:((R.size d).2 != 0)=true:=by simpa using he
   have m:=qQ (show J.I op args=([],(R.size d).2) by
    have h:aj.cf op args=(R.size d).2:=by rw[K_.q,ep.q,qY he]
    rw[Dw.q (by rw[h];exact he),h])
   generalize (R.size d).2=a4 at E m i he;generalize (R.size d).1=jn at i;clear he;go_wp2_with fail
   ((with_reducible refine i.q.mono ?_);rintro e aw ⟨rfl,y⟩)
   subst y;go_wp2_with fail
   go_ret2
   rw[m.q];exact⟨_,rfl,af.aN.nil _ _,D.q⟩
  obtain rfl:k=n:=by omega
  have aE:=qQ (show aj.cf op args=0 by rw[K_.q,aH.q,jD (by have:=aF.q;omega)];rfl);have M:=qQ (a0.q aE.q);have aG:=qQ (U.q wr D.q (by trivial) (aj.fA aE.q));obtain⟨⟨l,x⟩,aI⟩:∃bm,J.aP op args=bm:=⟨_,rfl⟩;rw[aI]at aG M;have ap:wr.cell? ⟨w.heap.size,0,none⟩=some (.int .i64 op.k):=r.q.cell 0;have aq:wr.cell? ⟨w.heap.size,1,none⟩=some v1:=r.q.cell 1;have b':wr.cell? ⟨w.heap.size,2,none⟩=some v2:=r.q.cell 2;have ca:wr.cell? ⟨w.heap.size,3,none⟩=some v3:=r.q.cell 3;have cl:wr.cell? ⟨w.heap.size,4,none⟩=some v4:=r.q.cell 4;have ct:wr.cell? ⟨w.heap.size,5,none⟩=some v5:=r.q.cell 5;have c3:wr.cell? ⟨w.heap.size,6,none⟩=some (.int .i64 op.v):=r.q.cell 6;clear aI;go_wp2_with fail
  ((with_reducible refine aG.q.mono ?_);rintro e aC ⟨v,rfl,Y,aO⟩)
  dsimp only at Y |-;have Q:=qQ (aA D.q aO);have a3:=qQ Y;clear aO ap aq b' ca cl ct c3;obtain⟨bt,bz,rfl,i2,cX,m2⟩:=Y;by_cases N:x=0
  .subst N;have i:=qQ (dC bt bz l aC.heap.size aC (by omega) i2);unfold ai.b5 at i;clear i2;by_cases he:(R.size l).2=0
   .have m:=qQ (show J.I op args=(l,0) by rw[M.q];exact aj.ir he);rw[he]at i;generalize (R.size l).1=jn at i;clear he;go_wp2_with fail
    ((with_reducible refine i.q.mono ?_);rintro e aw ⟨rfl,y⟩)
    subst y;go_wp2_with fail
    go_ret2
    rw[m.q];exact⟨_,rfl,a3.q,Q.q⟩
   have E:((R.size l).2 != 0)=true:=by simpa using he
   have m:=qQ (show J.I op args=([],(R.size l).2) by rw[M.q];exact aj.gl he);generalize (R.size l).2=a4 at E m i he;generalize (R.size l).1=jn at i;clear he;go_wp2_with fail
   ((with_reducible refine i.q.mono ?_);rintro e aw ⟨rfl,y⟩)
   subst y;go_wp2_with fail
   go_ret2
   rw[m.q];exact⟨_,rfl,af.aN.nil _ _,Q.q⟩
  have E:(x != 0)=true:=by simpa using N
  have m:=qQ (show J.I op args=([],x) by rw[M.q];exact aj.m' N);clear N i2;go_wp2_with fail
  go_ret2
  rw[m.q];exact⟨_,rfl,af.aN.nil _ _,Q.q⟩
 have E:(O != 0)=true:=by simpa using cw
 have m:=qQ (show J.I op args=([],O) by
  have h:aj.cf op args=O:=by rw[Hh.q,qY cw]
  rw[Dw.q (by rw[h];exact cw),h])
 clear cw;go_wp2_with fail
 go_ret2
 rw[m.q];exact⟨_,rfl,af.aN.nil _ _,D.q⟩
end Go.Proofs.YtabmnaaidfpmcaaGreatDoor
end
section
namespace J
theorem se{op:Op}{args:List (List Int)}(h:(I op args).2≠0):(I op args).1=[]:=by
 unfold I at h |-;by_cases i:right op.k args.length≠0
 .rw[qY i]
 rw[qV i]at h |-;by_cases j:sizes args≠0
 .rw[qY j]
 rw[qV j]at h |-;by_cases m:(aP op args).2≠0
 .rw[qY m]
 rw[qV m]at h |-;by_cases q:(R.size (aP op args).1).2≠0
 .rw[qY q]
 rw[qV q]at h;exact absurd rfl h
end J
namespace Go.Proofs.YtabmnaaidfpmcaaGreatDoor
open Go.RowKit aS
namespace b4
def KO(w w':World)(r:List (List Int) × Int)(e:Ending):Prop:=(∃A n c,e=.returned (.tuple #[.slice A n c,.int .i64 r.2])/\n=r.1.length/\n<=c/\c<=9223372036854775807/\af.bu w' w'.heap.size A r.1)/\Below w.heap.size w w'
theorem zl{w:World}{base size n n' c:Nat}{e:TypeId}{A:Option Addr}{xs:List Value}(h:w.ownsRow base e size (.slice A n c) n' xs):n<=c:=by
 rcases h.2 with ⟨i,_⟩ | ⟨g,cap,cur,i,q,x,r,hm,az,y⟩
 .injection i with _ j m;omega
 injection i with _ j m;omega
end b4
theorem _root_.ZO{G:Prop}(h:G:=by
 have br:=qQ (sS.q (by omega));go_wp2_with fail
 go_ret2
 rw[br.q];exact⟨⟨_,_,_,rfl,rfl,qX _,by omega,λh=>by simp at h⟩,c7.q _ pv.q⟩
 ):G:=h
theorem _root_.Zq{G:Prop}(h:G:=by
 have br:=qQ (Dv.q (by omega));go_wp2_with fail
 go_ret2
 rw[br.q];exact⟨⟨_,_,_,rfl,rfl,qX _,by omega,λh=>by simp at h⟩,c7.q _ eN.q⟩
 ):G:=h
theorem _root_.Zh{G:Prop}(h:G:=by
 go_wp2_with fail
 go_ret2
 rw[br.q];exact⟨⟨_,_,_,rfl,rfl,qX _,by omega,λh=>by simp at h⟩,c7.q _ B9.q⟩
 ):G:=h
theorem b4.p0(val:Value)(g:J.bh)(B:Nat)(w:World)(ah:B<=w.heap.size)(db:b4.fE g)(h:b4.cx w B val g):Calls Tryz.prog 27 #[val] w λe w'=>b4.KO w w' (J.look g) e:=by
 have dM:=qQ (h.bI ah);obtain⟨A,c,vo,rfl,cm,ey,ei,⟨O,co,rfl,io,lo,dt⟩⟩:=h;refine Ji ?_;intro cd bp ak cI;rw[cI]at cd bp;have eF:w.heap.size<ak.heap.size:=cd.q.lt;have c7:=qQ (λW (m:Below ak.heap.size ak W)=>bp.q.trans (m.mono (zG eF)));have b0:ak.cell? ⟨w.heap.size,0,none⟩=some (.slice A g.n.length c):=cd.q.cell 0;have eL:ak.cell? ⟨w.heap.size,1,none⟩=some (.slice O g.o.length co):=cd.q.cell 1;have cN:=qQ (qK ak.heap.size ak);by_cases bB:4096<g.n.length
 .have br:=qQ (show J.look g=([],5) by unfold J.look;rw[qY bB]);have eO:(4096:Int)<(g.n.length:Int):=by omega
  clear cm io bB;go_enter func27,ntmps27;go_wp2_with fail
  go_ret2
  rw[br.q];exact⟨⟨_,_,_,rfl,rfl,qX _,by omega,λh=>by simp at h⟩,c7.q _ cN.q⟩
 have bR:=qQ (show J.look g=if (J.bL (J.params g.n) g.n []).2≠0 then([],(J.bL (J.params g.n) g.n []).2)else if J.ahead g.n.length g.o=false then([],4)else((J.bL (J.params g.n) g.n []).1,0) by unfold J.look;rw[qV bB]);have ec:g.n.length<=4096:=by omega
 obtain⟨dW,d0,cV,d3,dV⟩:=fC (λW (m:Below ak.heap.size ak W)=>cm.below ((c7.q W m).mono ah)) (λW (m:Below ak.heap.size ak W)=>io.below ((c7.q W m).mono ah)) (J.dO g.n) db (qZ lo dt);clear cm io bB db lo dt ey ei;obtain⟨p,hp⟩:=gz (J.params g.n);have bY:=qQ (λW (m:Below ak.heap.size ak W)=>b4.n4 _ g W.heap.size W (qX _) (dM.q W (c7.q W m)));rw[hp]at bR cV bY;obtain⟨n,cl⟩:=gz g.n.length;have bx:=qQ cl;rw[cl]at cd b0 ec cV cI bY |-;clear cl;go_enter func27,ntmps27;go_wp2_with fail;go_loopw [4,23] (λv aO wr=>∃(k:Nat) (out:List (List Int)),aO=.int .i64 (k:Int)/\k<=n/\out.length=k/\J.bL p g.n []=J.bL p (g.n.drop k) out/\Below ak.heap.size ak wr/\(∃aD cu,v=.slice aD k cu)/\b4.fN ak.heap.size wr v out) (λ_ aO _=>n-(intOf aO).toNat)
 case atStart=>exact⟨0,[],rfl,by omega,rfl,rfl,cN.q,⟨_,_,rfl⟩,b4.fN.nil _ _⟩
 obtain⟨k,out,rfl,ej,c_,c6,m,⟨aD,cu,rfl⟩,da⟩:=hrel;obtain⟨D,eE⟩:∃D:World,D=wr:=⟨_,rfl⟩;subst eE;obtain⟨aG,cQ,eN,bZ,c0⟩:=fC c_ c6 m da (cd.q.below m cd.q.lt);have eJ:D.cell? ⟨w.heap.size,0,none⟩=some (.slice A n c):=c0.q.cell 0;have eK:D.cell? ⟨w.heap.size,1,none⟩=some (.slice O g.o.length co):=c0.q.cell 1;clear c_ c6 m da;by_cases eo:k<n
 .have cj:k<g.n.length:=by have:=bx.q;omega
  obtain⟨d7,on,rfl,eQ,c3⟩:=dW.q D eN.q (by omega);obtain⟨v1,v2,v3,v4,v5,v6,⟨z0,dA,z2,z3,z4,z5,dB,dE⟩,s1,s2,cE,cF,cG,cJ⟩:=c3 k cj;have cP:=qQ (zX cj);have b7:=qQ (d3.q g.n[k] (qP cj));have i1:=b2 k;have i2:(k:Int)<n:=by omega
  have eA:ak.heap.size<=D.heap.size:=eN.q.size;have ag:B<=D.heap.size:=by omega
  clear c3;generalize g.n[k]=x at z0 dA z2 z3 z4 z5 dB dE s1 s2 cE cF cG cJ cP b7;have aW:=qQ (qZ s1 (qZ s2 (qZ cE (qZ cF (qZ cG cJ)))));obtain⟨M,N,rfl,dh,dn,dr⟩:=s1;obtain⟨dp,aX,rfl,dk,_⟩:=s2;obtain⟨a9,bj,rfl,_⟩:=cE;obtain⟨a_,bk,rfl,_⟩:=cF;obtain⟨a',bl,rfl,_⟩:=cG;obtain⟨aQ,a1,rfl,i6,_⟩:=cJ;have az:=qQ (av.new D 60 #[.int .i64 x.o.k,.slice M x.o.I.length N,.slice dp x.o.a.length aX,.slice a9 x.o.l.length bj,.slice a_ x.o.h.length bk,.slice a' x.o.s.length bl,.int .i64 x.o.v,.slice aQ x.a.length a1]);have aE:=qQ ((qK D.heap.size D).alloc (qX _) (.cells #[.int .i64 x.o.k,.slice M x.o.I.length N,.slice dp x.o.a.length aX,.slice a9 x.o.l.length bj,.slice a_ x.o.h.length bk,.slice a' x.o.s.length bl,.int .i64 x.o.v,.slice aQ x.a.length a1] 60));obtain⟨y,bG⟩:=gz (D.alloc (.cells #[.int .i64 x.o.k,.slice M x.o.I.length N,.slice dp x.o.a.length aX,.slice a9 x.o.l.length bj,.slice a_ x.o.h.length bk,.slice a' x.o.s.length bl,.int .i64 x.o.v,.slice aQ x.a.length a1] 60));rw[bG]at az aE;obtain⟨d5,dK,b3⟩:=aK bG (show Below ak.heap.size ak y from eN.q.trans (aE.q.mono eA)) (bZ.q.below aE.q);have a8:D.heap.size<y.heap.size:=az.q.lt;have d6:y.cell? ⟨D.heap.size,7,none⟩=some (.slice aQ x.a.length a1):=az.q.cell 7;rw[<-bG]at d6;have dZ:=qQ (λW (m:Below y.heap.size y W)=>show af.bd W W.heap.size (.agg #[.int .i64 x.o.k,.slice M x.o.I.length N,.slice dp x.o.a.length aX,.slice a9 x.o.l.length bj,.slice a_ x.o.h.length bk,.slice a' x.o.s.length bl,.int .i64 x.o.v]) x.o from
   af.bd.up (af.bd.below (af.bd.below ⟨_,_,_,_,_,rfl,aW.q.1,aW.q.2.1,aW.q.2.2.1,aW.q.2.2.2.1,aW.q.2.2.2.2.1⟩ (aE.q.mono ag)) (m.mono (qJ ag (zG a8)))) (qJ (qJ ag (zG a8)) m.size))
  obtain⟨cS,dR,bT,dS,bM⟩:=fC (λW (m:Below y.heap.size y W)=>(dh.below (aE.q.mono ag)).below (m.mono (qJ ag (zG a8)))) (λW (m:Below y.heap.size y W)=>(dk.below (aE.q.mono ag)).below (m.mono (qJ ag (zG a8)))) (qZ dn dr) (λW (m:Below y.heap.size y W)=>(i6.below (aE.q.mono ag)).below (m.mono (qJ ag (zG a8)))) (λW (m:Below y.heap.size y W)=>show Below ak.heap.size ak W from aA dK.q m);have bV:=qQ (show J.bL p g.n []=if (J.aT x k p out).2≠0 then([],(J.aT x k p out).2)else J.bL p (g.n.drop (k+1)) (out++[(J.aT x k p out).1]) by
   rw[cQ.q,cP.q,J.rU,aG.q])
  have aI:=qQ (λ(e:Int) (he:e≠0) (h:J.aT x k p out=([],e))=>show J.look g=([],e) by
   have bS:=bV.q;rw[h,qY he]at bS;rw[bR.q,bS,qY he])
  obtain⟨dH,dI,dJ,dL,dU,dT⟩:=fq (show J.ahead k x.a=false->J.aT x k p out=([],10)from λh=>by unfold J.aT;rw[qY h]) (show J.ahead k x.a=true->x.o.k≠1->J.aT x k p out=J.I x.o (J.cL out x.a)from λh bS=>by unfold J.aT;rw[qV (by simp[h]),qY bS]) (show J.ahead k x.a=true->x.o.k=1->J.aT x k p out=if p<=k\/x.o.a.length≠1\/x.o.a.getD 0 0≠(k:Int)then([],7)else if 0<x.a.length then([],2)else if (R.size x.o.I).2≠0 then([],(R.size x.o.I).2)else(x.o.I,0)from λh bS=>by unfold J.aT;rw[qV (by simp[h]),qV (by simp[bS])]) (qK y.heap.size y) b3.q.lists (xQ Tryz.k1);have eV:x.a.length<=4194304:=b7.q.2;clear aW i6 dh dk dn dr bG;go_wp2_with fail;simp only[d5.q];go_loopw [7,31] (λv cz bw=>∃(j:Nat) (aR:List Value),cz=.int .i64 (j:Int)/\j<=x.a.length/\(∀i (hi:i<x.a.length),i<j->0<=x.a[i]/\x.a[i]<(k:Int))/\Below y.heap.size y bw/\bw.ownsRow y.heap.size 23 1 v aR.length aR/\aR.length=j/\b4.fS bw y.heap.size aR (J.cL out (x.a.take j))) (λ_ cz _=>x.a.length-(intOf cz).toNat)
  case atStart=>exact⟨0,[],rfl,by omega,λi _ h=>by omega,dL.q,⟨rfl,.inl ⟨rfl,rfl⟩⟩,rfl,rfl,λj h _=>by simp at h⟩
  obtain⟨j,aR,rfl,aJ,bm,m,cn,df,dc⟩:=hrel;obtain⟨bJ,aU,pv,aV,b_,b'⟩:=fq bm m (bM.q wr m) cn df dc;obtain⟨dG,eb,eB,eS⟩:=ai.aZ cn;subst eB;have Y:=qQ (az.q.below m az.q.lt);have eG:y.heap.size<=wr.heap.size:=m.size;clear bm m cn df dc;by_cases bD:j<x.a.length
  .obtain⟨fI,fM,rfl,eP,c2⟩:=(dS.q wr aU.q) (by omega);have d_:=c2 j bD;have sS:=qQ (show ¬(0<=x.a[j]/\x.a[j]<(k:Int))->J.look g=([],10)from λh=>aI.q 10 (by decide) (dH.q (by
    cases aB:J.ahead k x.a with
    | false=>rfl
    | true =>
     exfalso;apply h;have:=List.all_eq_true.1 aB _ (qP bD);simpa using this)))
   have bf:=qQ (show(0<=x.a[j]/\x.a[j]<(k:Int))->∀i (hi:i<x.a.length),i<j+1->0<=x.a[i]/\x.a[i]<(k:Int)from λh i hi eT=>by
    by_cases e:i=j
    .subst e;exact h
    exact bJ.q i hi (by omega))
   have cY:=qQ (qD bD);have eY:=b2 j;have eZ:(j:Int)<(x.a.length:Int):=by omega
   clear c2;generalize x.a[j]=a0 at d_ sS bf cY;by_cases c4:a0<0
   .exact ZO
   by_cases bS:(k:Int)<=a0
   .exact ZO
   have bX:=qQ (bf.q (by omega));obtain⟨a,rfl⟩:∃a:Nat,a0=(a:Int):=⟨a0.toNat,by omega⟩;have c5:a<out.length:=by have:=aG.q;omega
   obtain⟨d8,eI,rfl,eh,go⟩:=(dU.q.below aU.q) (by omega);obtain⟨di,ea,ao,cC,rfl,dg,ji,eH⟩:=go a c5;have bA:=qQ (show af.aN wr y.heap.size (.slice ao out[a].length cC) out[a]from⟨ao,cC,rfl,dg,ji,eH⟩);have cU:=qQ (show J.cL out (x.a.take (j+1))=J.cL out (x.a.take j)++[out[a]] by
    rw[cY.q];unfold J.cL;rw[zI];simp[c5])
   have i3:=b2 a;have i4:(a:Int)<k:=by omega
   have eX:aR.length<=4194304:=by have:=b_.q;omega
   clear go dg c4 bS;generalize out[a]=aP at ea bA cU ji;obtain⟨i0,g1,g2,g3,g4⟩:=dT.q;go_wp2_with (at_builtin;refine bF _ rfl _ _ 52 rfl y.heap.size 23 i0 (.slice none 0 0) 1 24 underlying52 g1 g2 g3 g4 rfl (by decide) _ _ _ rfl (aV.q.alloc _) _ (some ⟨wr.heap.size,0,none⟩) 1 1 [.slice ao aP.length cC] rfl (af.dj (av.new wr 23 #[.slice ao aP.length cC]) rfl) (by intro u hu;simp at hu;subst hu;rfl) (by unfold maxLen;omega) (by omega) (by simp;omega) ?_);intro v' cH how V _;have bc:=qQ ((aU.q.alloc eG (.cells #[.slice ao aP.length cC] 23)).grown V (by simp;omega) (λg Q=>(aV.q.lt g Q).1));have cf:Below y.heap.size wr cH:=((qK y.heap.size wr).alloc (by omega) (.cells #[.slice ao aP.length cC] 23)).grown V (by simp;omega) (λg Q=>(aV.q.lt g Q).1);have d4:=qQ (show b4.fS cH y.heap.size (aR++[.slice ao aP.length cC]) (J.cL out (x.a.take (j+1))) by
    rw[cU.q];exact(b'.q.below cf).snoc (bA.q.below cf))
   have dY:=qQ (show cH.ownsRow y.heap.size 23 1 v' (aR++[Value.slice ao aP.length cC]).length (aR++[Value.slice ao aP.length cC]) by
    rw[qW];exact how)
   clear how V cf;go_wp2_with fail;go_roundw
   case rel=>exact⟨j+1,_,by go_num,by omega,bX.q,bc.q,dY.q,by simp[b_.q],d4.q⟩
   case measure=>simp[intOf];omega
  have c8:j=x.a.length:=by omega
  have cM:=qQ (show J.ahead k x.a=true from List.all_eq_true.2 (λa aB=>by
   obtain⟨i,hi,rfl⟩:=zQ aB;have:=bJ.q i hi (by omega);simp[this]))
  have cZ:=qQ (show b4.fS wr y.heap.size aR (J.cL out x.a) by have h:=b'.q;rwa [c8,zS]at h);subst c8;have cA:wr.cell? ⟨D.heap.size,0,none⟩=some (.int .i64 x.o.k):=Y.q.cell 0;have cB:wr.cell? ⟨D.heap.size,1,none⟩=some (.slice M x.o.I.length N):=Y.q.cell 1;have bH:wr.cell? ⟨D.heap.size,2,none⟩=some (.slice dp x.o.a.length aX):=Y.q.cell 2;have du:wr.cell? ⟨D.heap.size,3,none⟩=some (.slice a9 x.o.l.length bj):=Y.q.cell 3;have dv:wr.cell? ⟨D.heap.size,4,none⟩=some (.slice a_ x.o.h.length bk):=Y.q.cell 4;have dw:wr.cell? ⟨D.heap.size,5,none⟩=some (.slice a' x.o.s.length bl):=Y.q.cell 5;have dx:wr.cell? ⟨D.heap.size,6,none⟩=some (.int .i64 x.o.v):=Y.q.cell 6;have cD:wr.cell? ⟨D.heap.size,7,none⟩=some (.slice aQ x.a.length a1):=Y.q.cell 7;have bE:(J.cL out x.a).length=aR.length:=cZ.q.1.symm;have eD:aR.length=x.a.length:=b_.q;clear aJ bD b' bJ z0 dA z2 z3 z4 z5 dB dE eJ eK;by_cases a7:x.o.k=1
  .have Z:=qQ (dJ.q cM.q a7);have ca:=cd.q.below pv.q cd.q.lt;have t0:wr.cell? ⟨w.heap.size,0,none⟩=some (.slice (some ⟨d7,on,none⟩) n c):=ca.cell 0;have t1:wr.cell? ⟨w.heap.size,1,none⟩=some (.slice O g.o.length co):=ca.cell 1;have d2:=qQ (bY.q wr pv.q);rw[a7]at cA;clear a7 bE ca;go_wp2_with fail
   ((with_reducible refine d2.q.mono ?_);rintro e E ⟨rfl,a6⟩)
   have ap:=qQ (aA aU.q a6);have B9:=qQ (bM.q E ap.q);have bU:=qQ (Y.q.below a6 Y.q.lt);clear a6 cA cB bH du dv dw dx cD t0 t1;have cB:E.cell? ⟨D.heap.size,1,none⟩=some (.slice M x.o.I.length N):=bU.q.cell 1;have bH:E.cell? ⟨D.heap.size,2,none⟩=some (.slice dp x.o.a.length aX):=bU.q.cell 2;have cD:E.cell? ⟨D.heap.size,7,none⟩=some (.slice aQ x.a.length a1):=bU.q.cell 7;by_cases dm:p<=k
   .have br:=qQ (aI.q 7 (by decide) (by rw[Z.q,qY (.inl dm)]));exact Zh
   by_cases a2:x.o.a.length=1
   .obtain⟨aA,e3,rfl,eR,gt⟩:=dR.q E ap.q (by omega);have c1:=gt 0 (by omega);rw[qL,<-J.getD_at x.o.a 0 (by omega)]at c1;have cK:=qQ a2;rw[a2]at bH;clear gt a2;generalize x.o.a.getD 0 0=dy at Z c1;by_cases a3:dy=(k:Int)
    .subst a3;by_cases a4:0<x.a.length
     .have br:=qQ (aI.q 2 (by decide) (by rw[Z.q,qV (by have:=cK.q;omega),qY a4]));have a5:(0:Int)<(x.a.length:Int):=by omega
      exact Zh
     have cW:=qQ (show J.aT x k p out=if (R.size x.o.I).2≠0 then([],(R.size x.o.I).2)else(x.o.I,0) by rw[Z.q,qV (by have:=cK.q;omega),qV a4]);have a5:¬(0:Int)<(x.a.length:Int):=by omega
     have aH:=qQ (dC M N x.o.I B E (by have:=bT.q;omega) (cS.q E ap.q));unfold ai.b5 at aH;by_cases he:(R.size x.o.I).2=0
     .have bW:=qQ (show J.bL p g.n []=J.bL p (g.n.drop (k+1)) (out++[x.o.I]) by
        rw[bV.q,cW.q];simp[he])
      rw[he]at aH;generalize (R.size x.o.I).1=jn at aH;have b6:=qQ (b3.q.below ap.q);have be:=B9;have bQ:=qQ (show af.aN E E.heap.size (.slice M x.o.I.length N) x.o.I from⟨M,N,rfl,(cS.q E ap.q).up (qJ (qJ ag (zG a8)) ap.q.size),bT.q.1,bT.q.2⟩);clear he;go_wp2_with fail
      ((with_reducible refine aH.q.mono ?_);rintro e dX ⟨rfl,cq⟩)
      subst cq;obtain⟨U,X,aq,aL⟩:=b6.q;have d1:=qQ (qZ X (qZ aq aL));have bv:U.length=k:=by rw[aq.1,aG.q]
      have eC:U.length<=4096:=by omega
      have b9:=qQ bv;clear bv;have cy:ak.heap.size<=(E).heap.size:=be.q.size;have S:=qQ ((qK (E).heap.size (E)).alloc (qX _) (.cells #[.slice M x.o.I.length N] 23));obtain⟨aF,b8,bg,bO,bK⟩:=fC (show((E).alloc (.cells #[.slice M x.o.I.length N] 23)).ownsRow ak.heap.size 23 1 (.slice aD k cu) U.length U from af.bq X (λg Q=>S.q.block g (X.lt g Q).2)) ((aq.below S.q).up S.q.size) (aL.c9 (w':=((E).alloc (.cells #[.slice M x.o.I.length N] 23))) (λg Q=>S.q.block g (X.lt g Q).2)) ((bQ.q.below S.q).up S.q.size) (be.q.alloc cy (.cells #[.slice M x.o.I.length N] 23));have cg:((E).alloc (.cells #[.slice M x.o.I.length N] 23)).cell? ⟨(E).heap.size,0,none⟩=some (.slice M x.o.I.length N):=(av.new (E) 23 #[.slice M x.o.I.length N]).cell 0;have bo:ak.heap.size<=((E).alloc (.cells #[.slice M x.o.I.length N] 23)).heap.size:=by simp;omega
      obtain⟨i0,g1,g2,g3,g4⟩:=xQ Tryz.k1;clear X aq aL;go_wp2_with (at_builtin;refine l7 _ rfl _ _ 52 rfl ak.heap.size 23 i0 (.slice none 0 0) 24 underlying52 g1 g2 g3 g4 rfl (.slice aD k cu) U.length U rfl aF.q ⟨(E).heap.size,0,none⟩ 1 (.slice M x.o.I.length N) rfl cg rfl (by unfold maxLen;omega) (by omega) bo b4.l3 bg.q ⟨_,_,_,rfl⟩ (by intro u hu;simp[Value.cells]at hu;exact⟨_,_,_,hu⟩) ?_);intro v' cH how V cr bn;have bc:=qQ (bK.q.grown V bo (λg Q=>(aF.q.lt g Q).1));have b1:=qQ (b4.fN.push aF.q b8.q bg.q bO.q how V bn);obtain⟨dF,d9,bs,_⟩:=ai.aZ how;rw[b9.q]at bs;subst bs;clear how V cr bn;go_wp2_with fail;go_roundw
      case rel=>exact⟨k+1,_,by go_num,by omega,by rw[qW,aG.q];rfl,bW.q,bc.q,⟨_,_,rfl⟩,b1.q⟩
      case measure=>simp[intOf];omega
     have hq:((R.size x.o.I).2 != 0)=true:=by simpa using he
     have br:=qQ (aI.q _ he (by rw[cW.q,qY he]));generalize (R.size x.o.I).2=eM at hq br aH he;generalize (R.size x.o.I).1=jn at aH;clear he;go_wp2_with fail
     ((with_reducible refine aH.q.mono ?_);rintro e dX ⟨rfl,cq⟩)
     subst cq;exact Zh
    have br:=qQ (aI.q 7 (by decide) (by rw[Z.q,qY (.inr (.inr a3))]));have e5:(dy != (k:Int))=true:=by simpa using a3
    clear a3;exact Zh
   have br:=qQ (aI.q 7 (by decide) (by rw[Z.q,qY (.inr (.inl a2))]));have e4:((x.o.a.length:Int) != 1)=true:=by rw[uU];omega
   clear a2;exact Zh
  have Z:=qQ (dI.q cM.q a7);have hq:(x.o.k == 1)=false:=by simpa using a7
  have bN:=qQ (af.ve _ x.o dG eb (J.cL out x.a) wr.heap.size wr (qX _) b7.q.1 (by omega) (by rw[bE];exact b4.zl aV.q) (b4.rf aV.q) (dZ.q wr aU.q) (cZ.q.lists aV.q (by omega)));rw[bE,eD]at bN;obtain⟨⟨dl,cb⟩,ci⟩:∃r,J.I x.o (J.cL out x.a)=r:=⟨_,rfl⟩;have cO:=qQ ci;rw[ci]at bN Z;clear a7 bE ci;go_wp2_with fail
  ((with_reducible refine bN.q.mono ?_);rintro e aC ⟨v,rfl,cp,a6⟩)
  dsimp only at cp |-;have bA:=qQ cp;obtain⟨bt,bz,rfl,_⟩:=cp;have ap:=qQ (aA aU.q a6);have B9:=qQ (bM.q aC ap.q);clear a6 cA cB bH du dv dw dx cD;by_cases he:cb=0
  .subst he;have bW:=qQ (show J.bL p g.n []=J.bL p (g.n.drop (k+1)) (out++[dl]) by
    rw[bV.q,Z.q,qV (by simp)])
   have b6:=qQ (b3.q.below ap.q);have be:=B9;have bQ:=bA;obtain⟨U,X,aq,aL⟩:=b6.q;have d1:=qQ (qZ X (qZ aq aL));have bv:U.length=k:=by rw[aq.1,aG.q]
   have eC:U.length<=4096:=by omega
   have b9:=qQ bv;clear bv;have cy:ak.heap.size<=(aC).heap.size:=be.q.size;have S:=qQ ((qK (aC).heap.size (aC)).alloc (qX _) (.cells #[.slice bt dl.length bz] 23));obtain⟨aF,b8,bg,bO,bK⟩:=fC (show((aC).alloc (.cells #[.slice bt dl.length bz] 23)).ownsRow ak.heap.size 23 1 (.slice aD k cu) U.length U from af.bq X (λg Q=>S.q.block g (X.lt g Q).2)) ((aq.below S.q).up S.q.size) (aL.c9 (w':=((aC).alloc (.cells #[.slice bt dl.length bz] 23))) (λg Q=>S.q.block g (X.lt g Q).2)) ((bQ.q.below S.q).up S.q.size) (be.q.alloc cy (.cells #[.slice bt dl.length bz] 23));have cg:((aC).alloc (.cells #[.slice bt dl.length bz] 23)).cell? ⟨(aC).heap.size,0,none⟩=some (.slice bt dl.length bz):=(av.new (aC) 23 #[.slice bt dl.length bz]).cell 0;have bo:ak.heap.size<=((aC).alloc (.cells #[.slice bt dl.length bz] 23)).heap.size:=by simp;omega
   obtain⟨i0,g1,g2,g3,g4⟩:=xQ Tryz.k1;clear X aq aL;go_wp2_with (at_builtin;refine l7 _ rfl _ _ 52 rfl ak.heap.size 23 i0 (.slice none 0 0) 24 underlying52 g1 g2 g3 g4 rfl (.slice aD k cu) U.length U rfl aF.q ⟨(aC).heap.size,0,none⟩ 1 (.slice bt dl.length bz) rfl cg rfl (by unfold maxLen;omega) (by omega) bo b4.l3 bg.q ⟨_,_,_,rfl⟩ (by intro u hu;simp[Value.cells]at hu;exact⟨_,_,_,hu⟩) ?_);intro v' cH how V cr bn;have bc:=qQ (bK.q.grown V bo (λg Q=>(aF.q.lt g Q).1));have b1:=qQ (b4.fN.push aF.q b8.q bg.q bO.q how V bn);obtain⟨dF,d9,bs,_⟩:=ai.aZ how;rw[b9.q]at bs;subst bs;clear how V cr bn;go_wp2_with fail;go_roundw
   case rel=>exact⟨k+1,_,by go_num,by omega,by rw[qW,aG.q];rfl,bW.q,bc.q,⟨_,_,rfl⟩,b1.q⟩
   case measure=>simp[intOf];omega
  have hq:(cb != 0)=true:=by simpa using he
  have br:=qQ (aI.q cb he (by
   have h:=J.se (op:=x.o) (args:=J.cL out x.a) (by rw[cO.q];exact he);rw[cO.q]at h;rw[Z.q];exact uJ h rfl))
  clear he;exact Zh
 have ek:k=n:=by omega
 subst ek;have dP:=qQ (show J.bL p g.n []=(out,0) by rw[cQ.q,jD (by rw[bx.q];omega)];rfl);have cT:=qQ (show J.look g=if J.ahead g.n.length g.o=false then([],4)else(out,0) by rw[bR.q,dP.q,qV (by simp)]);clear ej eo;go_wp2_with fail;go_loopw [112] (λaO bw=>∃q:Nat,aO=.int .i64 (q:Int)/\q<=g.o.length/\(∀j (aJ:j<g.o.length),j<q->0<=g.o[j]/\g.o[j]<(k:Int))/\bw=D) (λaO _=>g.o.length-(intOf aO).toNat)
 case atStart=>exact⟨0,rfl,by omega,λj _ h=>by omega,rfl⟩
 obtain⟨q,rfl,hq,bm,rfl⟩:=hrel;have az:=qQ bm;clear bm;by_cases c':q<g.o.length
 .obtain⟨d8,eI,rfl,eh,go⟩:=d0.q _ eN.q (by omega);have d':=go q c';have Dv:=qQ (show ¬(0<=g.o[q]/\g.o[q]<(k:Int))->J.look g=([],4)from λh=>by
   rw[cT.q,qY];cases aB:J.ahead g.n.length g.o with
   | false=>rfl
   | true =>
    exfalso;apply h;have:=List.all_eq_true.1 aB _ (qP c');rw[bx.q]at this;simpa using this)
  have bf:=qQ (show(0<=g.o[q]/\g.o[q]<(k:Int))->∀j (aJ:j<g.o.length),j<q+1->0<=g.o[j]/\g.o[j]<(k:Int)from λh j aJ eU=>by
   by_cases e:j=q
   .subst e;exact h
   exact az.q j aJ (by omega))
  have i1:=b2 q;have i2:(q:Int)<(g.o.length:Int):=by omega
  obtain⟨eu,ew⟩:=dV.q;have eW:q+1<=9223372036854775807:=by omega
  clear go eu ew;generalize g.o[q]=o at d' Dv bf;by_cases c4:o<0
  .exact Zq
  by_cases bS:(k:Int)<=o
  .exact Zq
  have bX:=qQ (bf.q (by omega));go_wp2_with fail;go_roundw
  case rel=>exact⟨q+1,by go_num,by omega,bX.q,by first | trivial | rfl⟩
  case measure=>simp[intOf];omega
 have br:=qQ (show J.look g=(out,0) by
   rw[cT.q,qV];intro aB;have:J.ahead g.n.length g.o=true:=List.all_eq_true.2 (λo ez=>by
    obtain⟨j,aJ,rfl⟩:=zQ ez;have:=az.q j aJ (by omega);rw[bx.q];simp[this])
   rw[this]at aB;cases aB)
 have bP:=qQ (show k<=cu/\cu<=9223372036854775807/\af.bu wr wr.heap.size aD out from by
  obtain⟨aR,dz,e6,e7⟩:=bZ.q;exact⟨b4.zl dz,b4.rf dz,bZ.q.lists⟩)
 go_wp2_with fail
 go_ret2
 rw[br.q];exact⟨⟨_,_,_,rfl,aG.q.symm,bP.q.1,bP.q.2.1,bP.q.2.2⟩,c7.q _ eN.q⟩
end Go.Proofs.YtabmnaaidfpmcaaGreatDoor
end
