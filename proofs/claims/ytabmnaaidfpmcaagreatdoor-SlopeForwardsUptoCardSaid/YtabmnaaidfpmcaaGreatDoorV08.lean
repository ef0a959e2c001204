/-
  ArrC, ArrCat, ArrR, InsPlain, InsPlain2, InsPlain3, RvA. Conditions: where the theorems name them.
-/
import Derived.Test.YtabmnaaidfpmcaaGreatDoorV07
set_option linter.unusedVariables false
set_option maxRecDepth 100000
set_option maxHeartbeats 16000000
open Go.Proofs.Tryz
variable {cW cX d e l m out t v:List Int}{N base g k n:Nat}{A:Option Go.Addr}{v1 v2:Go.Value}{w:Go.World}
section
namespace Go.Proofs.YtabmnaaidfpmcaaGreatDoor
open Go.RowKit aS
namespace aj
open J (aq free)
open R (c1 pick)
def aU(d ins:List Int)(j:Nat):List Int:=(c1 j).filter λk=>!decide (k∈ins)
theorem CW(j:Nat):c1 (j+1)=c1 j++[(j:Int)]:=by unfold R.c1;rw[kE,zI];rfl
theorem qb(d ins:List Int)(j:Nat):aU d ins (j+1)=if (j:Int)∈ins then aU d ins j else aU d ins j++[(j:Int)]:=by
 unfold aU;rw[CW,wN];by_cases h:(j:Int)∈ins
 .rw[qY h];simp[h]
 rw[qV h];simp[h]
theorem Gk(d ins:List Int):aU d ins d.length=free d ins:=rfl
theorem k4(d ins:List Int)(j:Nat):(aU d ins j).length<=j:=by
 unfold aU;have:=uR (λk=>!decide (k∈ins)) (c1 j)
 rwa [R.fi]at this
theorem iM(d l:List Int)(k:Nat)(i:k<d.length):aq d (l++[(k:Int)])=aq d l++[d[k]]:=by
 unfold J.aq;rw[zI,qE,R.jl d k i];rfl
def summed(l d:List Int):List Int × Int:=if R.cB d.length l then(aq d (free d l),0)else([],6)
end aj
theorem af.dj{W:World}{s:Nat}{t:TypeId}{l:List Value}(h:av W g t l.toArray)(i:l.length=n*s):aS.Reads W W.heap.size s (some ⟨g,0,none⟩) n l :=
 ⟨i,λ_=>⟨⟨g,0,none⟩,rfl,h.lt,λj u hu=>by
  have bS:(⟨g,0,none⟩:Addr).add j=⟨g,j,none⟩:=by
   unfold Addr.add;split
   .rename_i e;subst e;rfl
   simp
  rw[bS];exact h.at (by simpa using hu)⟩⟩
theorem af.b3{v:Value}(h:w.ownsRow base 3 1 v n (ints l)):af.aN w w.heap.size v l:=by
 have q:l.length=n:=by
  have i:=h.1;rw[cn,zF]at i;exact i
 subst q;obtain⟨A,c,rfl,i,j,m,_⟩:=ai.df h;exact⟨A,c,rfl,i,j,m⟩
theorem af.dY(h:av w g 3 (ints l).toArray)(j:l.length=n)(hm:n<=9223372036854775807):af.aN w w.heap.size (.slice (some ⟨g,0,none⟩) n n) l:=by
 subst j;refine⟨_,_,rfl,λhp=>⟨g,0,rfl,h.lt,λi hi=>?_⟩,qX _,hm⟩;rw[qI];exact h.at (by simpa using ints_at l i hi)
def af.dZ(N:Nat)(w:World)(v:Value)(l:List Int):Prop:=af.aN w w.heap.size v l/\(0<l.length->∀g,v.ownBlock=some g->N<=g)
theorem af.dZ.nil(N:Nat)(w:World):af.dZ N w (.slice none 0 0) []:=⟨af.aN.nil _ _,λh=>by simp at h⟩
theorem af.KU{c:Nat}(h:af.aN w w.heap.size (.slice A n c) l)(m:∀b off,A=some ⟨b,off,none⟩->0<l.length->N<=b):af.dZ N w (.slice A n c) l :=
 ⟨h,λhp g q=>by
  obtain⟨bK,c',e,hi,_⟩:=h;injection e with i
  subst i;obtain⟨b,off,j,_⟩:=hi hp;subst j;simp[Value.ownBlock]at q;have:=m b off rfl hp;omega⟩
theorem af.lH{v:Value}(h:w.ownsRow base 3 1 v n (ints l))(i:N<=base):af.dZ N w v l:=⟨af.b3 h,λ_ g j=>qJ i (h.lt g j).1⟩
theorem af.Dh(A bK:Option Addr)(cC aJ:Nat)(l d:List Int)(B:Nat)(w:World)(ah:B<=w.heap.size)(aC:l.length<=9223372036854775807)(ar:d.length<=65536)(V:ai.ao w B A l)(bS:ai.ao w B bK d):Calls Tryz.prog 123 #[.slice A l.length cC,.slice bK d.length aJ] w λe w'=>∃v,e=.returned (.tuple #[v,.int .i64 (aj.summed l d).2])/\af.dZ w.heap.size w' v (aj.summed l d).1/\Below w.heap.size w w':=by
 obtain⟨D,aE,aF,U,aG⟩:=fC (af.kh A cC d.length l B w aC ar ah V) (λx W (j:Below w.heap.size w W)=>j3 x A cC l B W aC (V.below (j.mono ah))) (λW (j:Below w.heap.size w W)=>(bS.below (j.mono ah))) (show aj.summed l d=if R.cB d.length l then(J.aq d (J.free d l),0)else([],6)from rfl) (xQ Tryz.dB);obtain⟨n,X⟩:=gz d.length;have ap:=qQ X;rw[X]at ar U D |-;clear V bS X;cases r:R.cB n l with
 | false =>
  have O:=qQ (show aj.summed l d=([],6) by rw[U.q,r];rfl);rw[r]at D;clear r;go_enter func123,ntmps123;go_wp2_with fail
  ((with_reducible refine D.q.mono ?_);rintro e ag ⟨rfl,I⟩)
  have Q:=qQ I;clear I;go_wp2_with fail
  go_ret2
  rw[O.q];exact⟨_,rfl,af.dZ.nil _ _,Q.q⟩
 | true =>
  have O:=qQ (show aj.summed l d=(J.aq d (J.free d l),0) by rw[U.q,r];rfl);rw[r]at D;clear r;go_enter func123,ntmps123;go_wp2_with fail
  ((with_reducible refine D.q.mono ?_);rintro e ag ⟨rfl,I⟩)
  have Q:=qQ I;clear I;go_wp2_with fail;go_loopw [6,16] (λv Z wr=>∃k:Nat,Z=.int .i64 (k:Int)/\k<=n/\Below w.heap.size w wr/\wr.ownsRow w.heap.size 3 1 v (J.aq d (aj.aU d l k)).length (ints (J.aq d (aj.aU d l k)))) (λ_ Z _=>n-(intOf Z).toNat)
  case atStart=>exact⟨0,rfl,by omega,Q.q,rfl,.inl ⟨rfl,rfl⟩⟩
  obtain⟨k,rfl,a1,j,Y⟩:=hrel;have y:=qQ j;have i:=qQ Y;obtain⟨aV,cu,aR,a0⟩:=ai.aZ Y;subst aR;have N:=qQ (aE.q (k:Int) wr j);clear j Y;by_cases a2:k<n
  .have aB:k<d.length:=by have:=ap.q;omega
   obtain⟨b,off,rfl,aX,az⟩:=aF.q _ y.q (by omega);have aO:=az k aB;have ak:=qQ (aj.qb d l k);have S:=qQ (aj.iM d (aj.aU d l k) k aB);have aQ:=aj.k4 d l k;have aN:=J.aW d (aj.aU d l k);have i1:=b2 k;have i2:(k:Int)<n:=by omega
   have aL:(J.aq d (aj.aU d l k)).length<=65536:=by omega
   clear az aN aQ;generalize d[k]=x at aO S;by_cases m:(k:Int)∈l
   .rw[zD m]at N;have E:=qQ (show aj.aU d l (k+1)=aj.aU d l k by rw[ak.q,qY m]);clear m;go_wp2_with fail
    ((with_reducible refine N.q.mono ?_);rintro e aw ⟨rfl,M⟩)
    rw[<-M];clear M;go_wp2_with fail;go_roundw
    case rel=>exact⟨k+1,by go_num,by omega,y.q,by rw[E.q];exact i.q⟩
    case measure=>simp[intOf];omega
   rw[zN m]at N;have E:=qQ (show aj.aU d l (k+1)=aj.aU d l k++[(k:Int)] by rw[ak.q,qV m]);clear m;obtain⟨i0,g1,g2,g3,g4⟩:=aG.q;have aT:=y.q.size;generalize aK:J.aq d (aj.aU d l k)=aI at i S aL |-;go_wp2_with fail
   ((with_reducible refine N.q.mono ?_);rintro e aw ⟨rfl,M⟩)
   rw[<-M];clear M;go_wp2_with (at_builtin;refine bF _ rfl _ _ 23 rfl w.heap.size 3 i0 (.int .i64 0) 1 8 underlying23 g1 g2 g3 g4 rfl (by decide) _ _ _ rfl (i.q.alloc _) _ (some ⟨wr.heap.size,0,none⟩) 1 1 [.int .i64 x] rfl (af.dj (av.new wr 3 #[.int .i64 x]) rfl) (by intro u hu;simp at hu;subst hu;rfl) (by unfold maxLen;omega) (by omega) (by simp;omega) ?_);intro v' cH how aA _;have aD:=qQ ((y.q.alloc aT (.cells #[.int .i64 x] 3)).grown aA (by simp;omega) (λg aP=>(i.q.lt g aP).1));have aH:=qQ (show cH.ownsRow w.heap.size 3 1 v' (J.aq d (aj.aU d l (k+1))).length (ints (J.aq d (aj.aU d l (k+1)))) by
    rw[E.q,S.q,qW,ai.ec];exact how)
   clear how aA aK;go_wp2_with fail;go_roundw
   case rel=>exact⟨k+1,by go_num,by omega,aD.q,aH.q⟩
   case measure=>simp[intOf];omega
  obtain rfl:k=n:=by omega
  have E:=qQ (show aj.aU d l k=J.free d l by rw[<-ap.q];rfl);rw[E.q]at i |-;generalize J.aq d (J.free d l)=aI at i O |-;go_wp2_with fail
  go_ret2
  rw[O.q];exact⟨_,rfl,af.lH i.q (qX _),y.q⟩
namespace aj
open J (ft gi)
def ey(op:J.Op)(d:List Int)(k:Nat):List Int:=(List.range d.length).map λj=>if j<k then gi (d.getD j 0) (op.l.getD j 0) (op.h.getD j 0) (op.s.getD j 0)else 0
theorem oS(op:J.Op)(d:List Int)(k:Nat):(ey op d k).length=d.length:=by simp[ey]
theorem AR(op:J.Op)(d:List Int):ey op d 0=List.replicate d.length 0:=by
 unfold ey;apply jP
 .simp
 intro i j m;simp
theorem CJ(op:J.Op)(d:List Int)(q:k<d.length):(ey op d k).set k (gi (d.getD k 0) (op.l.getD k 0) (op.h.getD k 0) (op.s.getD k 0))=ey op d (k+1):=by
 apply jP
 .simp[ey]
 intro i j m;rw[kG];simp only[ey,vC,wM];by_cases e:k=i
 .subst e;rw[qY rfl,qY (by omega)]
 rw[qV e];by_cases h:i<k
 .rw[qY h,qY (by omega)]
 rw[qV h,qV (by omega)]
theorem CI(op:J.Op)(d:List Int):ey op d d.length=(List.range d.length).map λk=>gi (d.getD k 0) (op.l.getD k 0) (op.h.getD k 0) (op.s.getD k 0):=by
 unfold ey;exact xC (λj i=>by rw[qY (List.mem_range.1 i)])
end aj
theorem af.hd(x y:Int)(w:World):Calls Tryz.prog 153 #[.int .i64 x,.int .i64 y] w λe w'=>e=.returned (.bool (decide (x<y) || decide (4096<x)))/\w'=w:=by
 by_cases h:x<y
 .have ar:decide (x<y)=true:=by simpa using h
  go_enter func153,ntmps153;go_wp2_with fail;go_ret;exact⟨by first | rfl | (rw[ar];rfl),rfl⟩
 have ar:decide (x<y)=false:=by simpa using h
 go_enter func153,ntmps153;go_wp2_with fail;go_ret;exact⟨by first | rfl | (rw[ar];rfl),rfl⟩
theorem _root_.XV{G:Prop}(h:G:=by
 go_enter func124,ntmps124;go_wp2_with fail
 go_ret2
 rw[br.q];exact⟨_,rfl,af.dZ.nil _ _,bp.q⟩
 ):G:=h
theorem _root_.Xv{G:Prop}(h:G:=by
 go_wp2_with fail
 go_ret2
 rw[br.q];exact⟨_,rfl,af.dZ.nil _ _,eN.q⟩
 ):G:=h
theorem af.CM(val:Value)(op:J.Op)(bK:Option Addr)(bq:Nat)(d:List Int)(B:Nat)(w:World)(ah:B<=w.heap.size)(ar:d.length<=65536)(a8:∀x∈d,0<=x/\x<=4096)(bF:af.bd w B val op)(bS:ai.ao w B bK d):Calls Tryz.prog 124 #[val,.slice bK d.length bq] w λe w'=>∃v,e=.returned (.tuple #[v,.int .i64 (J.cQ op d).2])/\af.dZ w.heap.size w' v (J.cQ op d).1/\Below w.heap.size w w':=by
 obtain⟨v1,v2,v3,v4,v5,rfl,_,_,⟨L,U,rfl,a',_,b3⟩,⟨b1,ci,rfl,ii,_,b0⟩,⟨T,aD,rfl,it,_,mt⟩⟩:=bF;obtain⟨bp,r,bh,Q,bg,bH⟩:=fq ((qK w.heap.size w).alloc (qX _) (.cells #[.int .i64 op.k,v1,v2,.slice L op.l.length U,.slice b1 op.h.length ci,.slice T op.s.length aD,.int .i64 op.v] 58)) (av.new w 58 #[.int .i64 op.k,v1,v2,.slice L op.l.length U,.slice b1 op.h.length ci,.slice T op.s.length aD,.int .i64 op.v]) (λW (E:Below w.heap.size w W)=>qZ (a'.below (E.mono ah)) (qZ (ii.below (E.mono ah)) (qZ (it.below (E.mono ah)) (bS.below (E.mono ah))))) (show J.cQ op d=if op.l.length≠d.length\/op.h.length≠d.length\/op.s.length≠d.length then([],6)else if (List.range d.length).all (λk=>J.ft (op.l.getD k 0) (op.h.getD k 0) (op.s.getD k 0))then(aj.ey op d d.length,0)else([],4) by rw[aj.CI];rfl) a8 (λx y W=>af.hd x y W);have bE:=λW=>dz d.length ar W
 have bT:∀(args:Array Value) (W:World),(callFunc 153 args).run Tryz.prog W=.ok (.enter 153 args) W:=λ_ _=>rfl
 clear a' ii it bS a8;have ca:=r.q.cell 3;have cl:=r.q.cell 4;have ct:=r.q.cell 5;obtain⟨ak,bG⟩:=gz (w.alloc (.cells #[.int .i64 op.k,v1,v2,.slice L op.l.length U,.slice b1 op.h.length ci,.slice T op.s.length aD,.int .i64 op.v] 58));rw[bG]at bp r ca cl ct;obtain⟨n,aN⟩:=gz d.length;have aC:=qQ aN;rw[aN]at ar Q bE |-;clear aN;by_cases D:op.l.length=n
 .have d1:((op.l.length:Int) != (n:Int))=false:=by simp;omega
  by_cases bS:op.h.length=n
  .have d2:((op.h.length:Int) != (n:Int))=false:=by simp;omega
   by_cases pj:op.s.length=n
   .have d3:((op.s.length:Int) != (n:Int))=false:=by simp;omega
    have aU:=qQ (show J.cQ op d=if (List.range n).all (λk=>J.ft (op.l.getD k 0) (op.h.getD k 0) (op.s.getD k 0))then(aj.ey op d n,0)else([],4) by rw[Q.q,qV (by omega)]);have bn:=qQ (qZ D (qZ bS pj));clear D bS pj;go_enter func124,ntmps124;go_wp2_with fail;have bf:=qQ (show Below ak.heap.size ak (ak.alloc (.cells (ints (List.replicate n 0)).toArray 3))from(qK _ _).alloc (qX _) _);have bo:=qQ (show av (ak.alloc (.cells (ints (List.replicate n 0)).toArray 3)) ak.heap.size 3 (ints (aj.ey op d 0)).toArray by
     rw[aj.AR,aC.q];exact av.new _ _ _)
    go_loopw [35] (λaP wr=>∃k:Nat,aP=.int .i64 (k:Int)/\k<=n/\(∀j,j<k->J.ft (op.l.getD j 0) (op.h.getD j 0) (op.s.getD j 0)=true)/\Below ak.heap.size ak wr/\av wr ak.heap.size 3 (ints (aj.ey op d k)).toArray) (λaP _=>n-(intOf aP).toNat)
    case atStart=>exact⟨0,rfl,by omega,λj aL=>by omega,bf.q,bo.q⟩
    obtain⟨k,rfl,bW,a6,E,a7⟩:=hrel;obtain⟨aR,be,eN,X⟩:=cV a6 E (aA bp.q E) a7;have aO:=r.q.below E r.q.lt;have aH:=qQ aO;clear a6 E a7 ca cl ct;by_cases bz:k<n
    .have oo:k<d.length:=by have:=aC.q;omega
     obtain⟨a4,a3,a5,a2⟩:=bh.q wr eN.q;have bA:=bn.q;obtain⟨fP,ol,rfl,_,a1⟩:=a4 (by omega);obtain⟨bi,eD,rfl,_,a0⟩:=a3 (by omega);obtain⟨aA,az,rfl,bR,gt⟩:=a5 (by omega);obtain⟨ag,aQ,rfl,bQ,aZ⟩:=a2 (by omega);have aq:=a1 k (by omega);have ap:=a0 k (by omega);have aJ:=gt k (by omega);have aI:=aZ k oo;rw[<-J.getD_at op.l k (by omega)]at aq;rw[<-J.getD_at op.h k (by omega)]at ap;rw[<-J.getD_at op.s k (by omega)]at aJ;rw[<-J.getD_at d k oo]at aI;have a_:=bg.q (d.getD k 0) (by rw[J.getD_at d k oo];exact qP oo);have M:=qQ (λ(h:J.ft (op.l.getD k 0) (op.h.getD k 0) (op.s.getD k 0)=false)=>show J.cQ op d=([],4) by
      rw[aU.q,qV];intro bw;have:=List.all_eq_true.1 bw k (List.mem_range.2 bz);rw[h]at this;cases this)
     have Y:=qQ (λ(h:J.ft (op.l.getD k 0) (op.h.getD k 0) (op.s.getD k 0)=true)=>show ∀j,j<k+1->J.ft (op.l.getD j 0) (op.h.getD j 0) (op.s.getD j 0)=true from λj aL=>by
      by_cases e:j=k
      .subst e;exact h
      exact aR.q j (by omega))
     have I:=qQ (aj.CJ op d oo);have i1:=b2 k;have i2:(k:Int)<n:=by omega
     have i3:(k:Int)<(op.l.length:Int):=by omega
     have i4:(k:Int)<(op.h.length:Int):=by omega
     have i5:(k:Int)<(op.s.length:Int):=by omega
     have bb:=aH.q.cell 3;have bc:=aH.q.cell 4;have b_:=aH.q.cell 5;clear a1 a0 gt aZ a4 a3 a5 a2 bA aO;generalize op.l.getD k 0=lo at aq M Y I;generalize op.h.getD k 0=hi at ap M Y I;generalize op.s.getD k 0=st at aJ M Y I;generalize d.getD k 0=x at aI a_ I;obtain⟨bZ,aO⟩:=a_;by_cases g1:0<=lo/\lo<=4096
     .have S:=qQ (λW=>show Calls Tryz.prog 153 #[.int .i64 lo,.int .i64 0] W λe w'=>e=.returned (.bool false)/\w'=W from(af.hd lo 0 W).mono (λe w' h=>⟨by rw[h.1];congr 2;simp;omega,h.2⟩));by_cases g2:0<=hi/\hi<=4096
      .have Z:=qQ (λW=>show Calls Tryz.prog 153 #[.int .i64 hi,.int .i64 0] W λe w'=>e=.returned (.bool false)/\w'=W from(af.hd hi 0 W).mono (λe w' h=>⟨by rw[h.1];congr 2;simp;omega,h.2⟩));by_cases g3:1<=st/\st<=4096
       .have aE:=qQ (λW=>show Calls Tryz.prog 153 #[.int .i64 st,.int .i64 1] W λe w'=>e=.returned (.bool false)/\w'=W from(af.hd st 1 W).mono (λe w' h=>⟨by rw[h.1];congr 2;simp;omega,h.2⟩));have aT:=qQ (Y.q (by unfold J.ft;simp;omega));obtain⟨bJ,bL⟩:=g1;obtain⟨bM,bN⟩:=g2;obtain⟨bO,bP⟩:=g3;go_wp2_with fail
        ((with_reducible refine(S.q _).mono ?_);rintro e aw ⟨rfl,i⟩;rw[i];clear i)
        go_wp2_with fail
        ((with_reducible refine(Z.q _).mono ?_);rintro e aw ⟨rfl,i⟩;rw[i];clear i)
        go_wp2_with fail
        ((with_reducible refine(aE.q _).mono ?_);rintro e aw ⟨rfl,i⟩;rw[i];clear i)
        have bV:wr.frozen? ⟨ak.heap.size,k,none⟩=false:=X.q.frozen k;obtain⟨u,hu⟩:∃u,wr.cell? ⟨ak.heap.size,k,none⟩=some u:=⟨_,(X.q.cell k).trans (vW (by rw[jA,cn,aj.oS];exact oo))⟩;have N:=qQ (show av (wr.setCell ⟨ak.heap.size,k,none⟩ (.int .i64 (lo+hi))).drew ak.heap.size 3 (ints ((aj.ey op d k).set k (lo+hi))).toArray by
         have bS:=(X.q.bs k (.int .i64 (lo+hi))).drew
         rwa [ints_set]at bS)
        have V:=qQ ((be.q.setCell (p:=⟨ak.heap.size,k,none⟩) (qX _) (.int .i64 (lo+hi))).drew);have bY:w.heap.size<ak.heap.size:=r.q.lt;have aW:(wr.setCell ⟨ak.heap.size,k,none⟩ (.int .i64 (lo+hi))).drew.cell? ⟨ag,aQ+k,none⟩=some (.int .i64 x):=by
         have D:=(Below.cell (pJ (Below.setCell (qK ak.heap.size wr) (p:=⟨ak.heap.size,k,none⟩) (qX _) (.int .i64 (lo+hi)))) (p:=⟨ag,aQ+k,none⟩) (by show ag<ak.heap.size;omega));exact D.trans aI
        have aX:(wr.setCell ⟨ak.heap.size,k,none⟩ (.int .i64 (lo+hi))).drew.cell? ⟨aA,az+k,none⟩=some (.int .i64 st):=by
         have D:=(Below.cell (pJ (Below.setCell (qK ak.heap.size wr) (p:=⟨ak.heap.size,k,none⟩) (qX _) (.int .i64 (lo+hi)))) (p:=⟨aA,az+k,none⟩) (by show aA<ak.heap.size;omega));exact D.trans aJ
        have aV:=qQ (r.q.below V.q r.q.lt);have b9:IntKind.i64.wrap (lo+hi)=lo+hi:=qA _ (by omega);obtain⟨W2,bu⟩:=gz ((wr.setCell ⟨ak.heap.size,k,none⟩ (.int .i64 (lo+hi))).drew);rw[bu]at N V aW aX aV;have z5:=aV.q.cell 5;by_cases a9:0<x
        .have aF:=qQ (show J.gi x lo hi st=lo+hi+((x-1)*st+1) by unfold J.gi;rw[qY a9];omega);have bB:0<=(x-1)*st:=jF (by omega) (by omega);have bD:(x-1)*st<=4096*4096:=jO (by omega) (by omega) (by omega) (by omega);have bt:W2.cell? ⟨ak.heap.size,k,none⟩=some (.int .i64 (lo+hi)):=N.q.at (by
          have bS:k<((aj.ey op d k).set k (lo+hi)).length:=by rw[xJ,aj.oS];exact oo
          have pj:=ints_at ((aj.ey op d k).set k (lo+hi)) k bS;rw[List.getElem_set_self]at pj;simpa using pj)
         have bU:W2.frozen? ⟨ak.heap.size,k,none⟩=false:=N.q.frozen k;rw[aF.q]at I;have O:=qQ (show av (W2.setCell ⟨ak.heap.size,k,none⟩ (.int .i64 (lo+hi+((x-1)*st+1)))).drew ak.heap.size 3 (ints (aj.ey op d (k+1))).toArray by
          have bS:=(N.q.bs k (.int .i64 (lo+hi+((x-1)*st+1)))).drew;rw[ints_set,List.set_set,I.q]at bS;exact bS)
         have aB:=qQ ((V.q.setCell (p:=⟨ak.heap.size,k,none⟩) (qX _) (.int .i64 (lo+hi+((x-1)*st+1)))).drew);generalize bX:(x-1)*st=m at bB bD O aB;have b5:IntKind.i64.wrap (x-1)=x-1:=qA _ (by omega);have b6:IntKind.i64.wrap m=m:=qA _ (by omega);have b7:IntKind.i64.wrap (m+1)=m+1:=qA _ (by omega);have b8:IntKind.i64.wrap (lo+hi+(m+1))=lo+hi+(m+1):=qA _ (by omega);go_wp2_with fail;refine fk (λw'=>w'.cell? ⟨w.heap.size,3,none⟩=some (.slice (some ⟨fP,ol,none⟩) op.l.length U)/\w'.cell? ⟨w.heap.size,4,none⟩=some (.slice (some ⟨bi,eD,none⟩) op.h.length ci)/\w'.cell? ⟨fP,ol+k,none⟩=some (.int .i64 lo)/\w'.cell? ⟨bi,eD+k,none⟩=some (.int .i64 hi)) 14 15 (⟨bb,bc,aq,ap⟩) (λaK=>?_);simp only[qF,qG];refine aG 0 63 ?_;refine aG 1 64 ?_;refine aG 2 65 ?_;refine aG 3 66 ?_;refine aG 4 67 ?_;refine aG 5 68 ?_;refine aG 6 69 ?_;refine aG 7 70 ?_;refine aG 8 71 ?_;refine aG 9 72 ?_;refine aG 10 73 ?_;refine aG 11 74 ?_;refine aG 12 75 ?_;refine aG 13 76 ?_;try simp only[Act.put,bj,bk,bl]
         refine eW [_] 14 [] ?_;go_wp2_with fail;refine fk (λw'=>w'.cell? ⟨w.heap.size,5,none⟩=some (.slice (some ⟨aA,az,none⟩) op.s.length aD)/\w'.cell? ⟨ag,aQ+k,none⟩=some (.int .i64 x)/\w'.cell? ⟨aA,az+k,none⟩=some (.int .i64 st)/\w'.cell? ⟨ak.heap.size,k,none⟩=some (.int .i64 (lo+hi))) 18 19 (⟨z5,aW,aX,bt⟩) (λaK=>?_);simp only[qF,qG];refine aG 0 82 ?_;refine aG 1 83 ?_;refine aG 2 84 ?_;refine aG 3 85 ?_;refine aG 4 86 ?_;refine aG 5 87 ?_;refine aG 6 88 ?_;refine aG 7 89 ?_;refine aG 8 90 ?_;refine aG 9 91 ?_;refine aG 10 92 ?_;refine aG 11 93 ?_;refine aG 12 94 ?_;refine aG 13 95 ?_;refine aG 14 96 ?_;refine aG 15 97 ?_;refine aG 16 98 ?_;refine aG 17 99 ?_;try simp only[Act.put,bj,bk,bl]
         refine eW [_] 18 [] ?_;obtain⟨bI,bv⟩:=gz ((W2.setCell ⟨ak.heap.size,k,none⟩ (.int .i64 (lo+hi+(m+1)))).drew);rw[bv]at O aB;clear aK;go_wp2_with fail;go_roundw
         case rel=>exact⟨k+1,by go_num,by omega,aT.q,aB.q,O.q⟩
         case measure=>simp[intOf];omega
        have aF:=qQ (show J.gi x lo hi st=lo+hi by unfold J.gi;rw[qV a9];omega);rw[aF.q]at I;have O:=qQ (show av W2 ak.heap.size 3 (ints (aj.ey op d (k+1))).toArray by rw[<-I.q];exact N.q);go_wp2_with fail;refine fk (λw'=>w'.cell? ⟨w.heap.size,3,none⟩=some (.slice (some ⟨fP,ol,none⟩) op.l.length U)/\w'.cell? ⟨w.heap.size,4,none⟩=some (.slice (some ⟨bi,eD,none⟩) op.h.length ci)/\w'.cell? ⟨fP,ol+k,none⟩=some (.int .i64 lo)/\w'.cell? ⟨bi,eD+k,none⟩=some (.int .i64 hi)) 14 15 (⟨bb,bc,aq,ap⟩) (λaK=>?_);simp only[qF,qG];refine aG 0 63 ?_;refine aG 1 64 ?_;refine aG 2 65 ?_;refine aG 3 66 ?_;refine aG 4 67 ?_;refine aG 5 68 ?_;refine aG 6 69 ?_;refine aG 7 70 ?_;refine aG 8 71 ?_;refine aG 9 72 ?_;refine aG 10 73 ?_;refine aG 11 74 ?_;refine aG 12 75 ?_;refine aG 13 76 ?_;try simp only[Act.put,bj,bk,bl]
        refine eW [_] 14 [] ?_;go_wp2_with fail;go_roundw
        case rel=>exact⟨k+1,by go_num,by omega,aT.q,V.q,O.q⟩
        case measure=>simp[intOf];omega
       have aE:=qQ (λW=>show Calls Tryz.prog 153 #[.int .i64 st,.int .i64 1] W λe w'=>e=.returned (.bool true)/\w'=W from(af.hd st 1 W).mono (λe w' h=>⟨by rw[h.1];congr 2;simp;omega,h.2⟩));have br:=qQ (M.q (by unfold J.ft;simp;omega));clear g1 g2 g3;go_wp2_with fail
       ((with_reducible refine(S.q _).mono ?_);rintro e aw ⟨rfl,i⟩;rw[i];clear i)
       go_wp2_with fail
       ((with_reducible refine(Z.q _).mono ?_);rintro e aw ⟨rfl,i⟩;rw[i];clear i)
       go_wp2_with fail
       ((with_reducible refine(aE.q _).mono ?_);rintro e aw ⟨rfl,i⟩;rw[i];clear i)
       exact Xv
      have Z:=qQ (λW=>show Calls Tryz.prog 153 #[.int .i64 hi,.int .i64 0] W λe w'=>e=.returned (.bool true)/\w'=W from(af.hd hi 0 W).mono (λe w' h=>⟨by rw[h.1];congr 2;simp;omega,h.2⟩));have br:=qQ (M.q (by unfold J.ft;simp;omega));clear g1 g2;go_wp2_with fail
      ((with_reducible refine(S.q _).mono ?_);rintro e aw ⟨rfl,i⟩;rw[i];clear i)
      go_wp2_with fail
      ((with_reducible refine(Z.q _).mono ?_);rintro e aw ⟨rfl,i⟩;rw[i];clear i)
      exact Xv
     have S:=qQ (λW=>show Calls Tryz.prog 153 #[.int .i64 lo,.int .i64 0] W λe w'=>e=.returned (.bool true)/\w'=W from(af.hd lo 0 W).mono (λe w' h=>⟨by rw[h.1];congr 2;simp;omega,h.2⟩));have br:=qQ (M.q (by unfold J.ft;simp;omega));clear g1;go_wp2_with fail
     ((with_reducible refine(S.q _).mono ?_);rintro e aw ⟨rfl,i⟩;rw[i];clear i)
     exact Xv
    obtain rfl:k=n:=by omega
    have br:=qQ (show J.cQ op d=(aj.ey op d k,0) by
     rw[aU.q,qY];exact List.all_eq_true.2 (λj aL=>aR.q j (List.mem_range.1 aL)))
    have bm:=qQ (aj.oS op d k);go_wp2_with fail
    go_ret2
    rw[br.q];refine⟨_,rfl,?_,eN.q⟩;exact⟨af.dY X.q (by rw[bm.q,aC.q]) (by omega),λ_ g bx=>by have:=r.q.lt;simp[Value.ownBlock]at bx;omega⟩
   have d3:((op.s.length:Int) != (n:Int))=true:=by simp;omega
   have br:=qQ (show J.cQ op d=([],6) by rw[Q.q,qY (by omega)]);clear D bS pj;exact XV
  have d2:((op.h.length:Int) != (n:Int))=true:=by simp;omega
  have br:=qQ (show J.cQ op d=([],6) by rw[Q.q,qY (by omega)]);clear D bS;exact XV
 have d1:((op.l.length:Int) != (n:Int))=true:=by simp;omega
 have br:=qQ (show J.cQ op d=([],6) by rw[Q.q,qY (by omega)]);clear D;exact XV
end Go.Proofs.YtabmnaaidfpmcaaGreatDoor
end
section
namespace Go.Proofs.YtabmnaaidfpmcaaGreatDoor
open Go.RowKit aS
namespace af
theorem lO{B:Nat}(h:av w g 23 #[v1,v2])(q:g<B)(j:aN w B v1 cW)(m:aN w B v2 cX):bu w B (some ⟨g,0,none⟩) [cW,cX]:=λ_ =>
 ⟨g,0,rfl,q,λi hi=>by
  rw[qI]
  match i,hi with
  | 0,_=>exact⟨v1,h.cell 0,j⟩
  | 1,_=>exact⟨v2,h.cell 1,m⟩⟩
theorem Ew{B:Nat}{v3:Value}{rz:List Int}(h:av w g 23 #[v1,v2,v3])(r:g<B)(j:aN w B v1 cW)(m:aN w B v2 cX)(q:aN w B v3 rz):bu w B (some ⟨g,0,none⟩) [cW,cX,rz]:=λ_ =>
 ⟨g,0,rfl,r,λi hi=>by
  rw[qI]
  match i,hi with
  | 0,_=>exact⟨v1,h.cell 0,j⟩
  | 1,_=>exact⟨v2,h.cell 1,m⟩
  | 2,_=>exact⟨v3,h.cell 2,q⟩⟩
theorem J3(cW cX:List Int):cat [cW,cX]=cW++cX:=by simp[cat]
theorem J4(cW cX rz:List Int):cat [cW,cX,rz]=cW++cX++rz:=by simp[cat]
theorem fx(g:Nat)(cW cX:List Int)(w:World)(j:cW.length+cX.length<=1099511627776)(h:bu w w.heap.size (some ⟨g,0,none⟩) [cW,cX]):Calls Tryz.prog 83 #[.slice (some ⟨g,0,none⟩) 2 2] w λe w'=>∃v,e=.returned v/\w'.ownsRow w.heap.size 3 1 v (cW++cX).length (ints (cW++cX))/\Below w.heap.size w w':=by
 have i:=s9 (some ⟨g,0,none⟩) 2 [cW,cX] w.heap.size w (qX _) (by simp) (by rw[J3,qW];exact j) h;rw[J3]at i;exact i
theorem rM(g:Nat)(cW cX rz:List Int)(w:World)(j:cW.length+cX.length+rz.length<=1099511627776)(h:bu w w.heap.size (some ⟨g,0,none⟩) [cW,cX,rz]):Calls Tryz.prog 83 #[.slice (some ⟨g,0,none⟩) 3 3] w λe w'=>∃v,e=.returned v/\w'.ownsRow w.heap.size 3 1 v (cW++cX++rz).length (ints (cW++cX++rz))/\Below w.heap.size w w':=by
 have i:=s9 (some ⟨g,0,none⟩) 3 [cW,cX,rz] w.heap.size w (qX _) (by simp) (by rw[J4,qW,qW];exact j) h;rw[J4]at i;exact i
theorem lN{B b o:Nat}(h:ai.ao w B (some ⟨b,o,none⟩) l)(k:Nat):ai.ao w B (some ⟨b,o+k,none⟩) (l.drop k):=λhp=>by
 rw[qS]at hp;obtain⟨y,l4,e,r,x⟩:=h (by omega);injection e with e
 injection e with m q
 subst m q;refine⟨b,o+k,rfl,r,λi hi=>?_⟩;have j:=x (k+i) (by rw[qS]at hi;omega);rw[<-kZ]at j;simpa using j
theorem ju{B:Nat}(h:ai.ao w B A l)(k:Nat):ai.ao w B A (l.take k):=λhp=>by
 rw[qM]at hp;obtain⟨b,o,e,m,q⟩:=h (by omega);refine⟨b,o,e,m,λi hi=>?_⟩;rw[qM]at hi;have j:=q i (by omega);simpa using j
end af
theorem af.sn(A:Option Addr)(cap:Nat)(l:List Int)(x:Int)(B:Nat)(w:World)(j:l.length<=9223372036854775807)(hm:ai.ao w B A l):Calls Tryz.prog 132 #[.slice A l.length cap,.int .i64 x] w λe w'=>e=.returned (.bool (decide (x∈l)))/\w=w':=by
 have eX:=qQ hm;clear hm;go_enter func132,ntmps132;go_wp2_with fail
 go_loop [6,9] (λ_ i=>∃k:Nat,k<=l.length/\i=.int .i64 (k:Int)/\x∉l.take k) (λ_ i=>l.length+1-(intOf i).toNat)
 case atStart=>exact⟨0,by omega,rfl,by simp⟩
 exact QG
theorem _root_.Zw{G:Prop}(h:G:=by
 go_wp2_with fail;go_ret;exact⟨by rw[ep.q];rfl,by first | exact⟨0,rfl⟩ | exact⟨_,rfl⟩ | exact⟨_,jI _ _ _⟩⟩
 ):G:=h
theorem af.h9(A bK:Option Addr)(cap Z:Nat)(l m:List Int)(B B':Nat)(w:World)(aD:l.length<=9223372036854775807)(aE:m.length<=9223372036854775807)(hm:ai.ao w B A l)(U:ai.ao w B' bK m):Calls Tryz.prog 29 #[.slice A l.length cap,.slice bK m.length Z] w λe w'=>e=.returned (.bool (decide (l=m)))/\∃d,w'=w.drewN d:=by
 by_cases hlen:l.length=m.length
 .have W:=qQ hm;have X:=qQ U;have hq:((l.length:Int) != (m.length:Int))=false:=by simp;omega
  have r:=qQ hlen;clear hm U hlen;go_enter func29,ntmps29;go_wp2_with fail;go_loopw [5,13] (λ_ i wr=>∃k d:Nat,k<=l.length/\i=.int .i64 (k:Int)/\l.take k=m.take k/\wr=w.drewN d) (λ_ i _=>l.length+1-(intOf i).toNat)
  case atStart=>exact⟨0,0,by omega,rfl,by simp,rfl⟩
  obtain⟨k,d,aC,rfl,V,rfl⟩:=hrel;have E:=qQ V;clear V;by_cases Q:k<l.length
  .obtain⟨b,off,rfl,aq,N⟩:=W.q (by omega);obtain⟨ap,aF,rfl,av,O⟩:=X.q (by have:=r.q;omega);have S:k<m.length:=by have:=r.q;omega
   have ag:=N k Q;have ah:=O k S;have az:=b2 k;have aA:(k:Int)<(l.length:Int):=by omega
   have aB:(k:Int)<(m.length:Int):=by omega
   clear N O;obtain⟨I,M,D⟩:=aK (qD Q) (qD S) (λ(h:l=m)=>show l[k]=m[k] by subst h;rfl);generalize l[k]=x at ag I D;generalize m[k]=y at ah M D;by_cases j:x=y
   .have ak:(x != y)=false:=by simpa using j
    have Y:=qQ j;clear j;go_wp2_with fail
    go_quiet (fail)
    go_wp2_with fail;exact⟨⟨k+1,d+nq,by omega,by go_num,by rw[I.q,M.q,E.q,Y.q],rfl⟩,by simp[intOf];omega⟩
   have ak:(x != y)=true:=by simpa using j
   have ep:=qQ (show decide (l=m)=false by simp;intro h;exact j (D.q h));go_wp2_with fail
   go_quiet (fail)
   exact Zw
  obtain rfl:k=l.length:=by omega
  have ep:=qQ (show decide (l=m)=true by
   have h:=E.q;rw[zS,r.q,zS]at h;simpa using h)
  exact Zw
 have hq:((l.length:Int) != (m.length:Int))=true:=by simp;omega
 have ep:=qQ (show decide (l=m)=false by simp;intro h;exact hlen (by rw[h]));go_enter func29,ntmps29;go_wp2_with fail;go_ret;exact⟨by rw[ep.q];rfl,0,rfl⟩
theorem af.hW(A bK:Option Addr)(cC Q:Nat)(l d:List Int)(B:Nat)(w:World)(ah:B<=w.heap.size)(aB:l.length<=9223372036854775807)(ar:d.length<=65536)(S:ai.ao w B bK l):Calls Tryz.prog 102 #[.slice A d.length cC,.slice bK l.length Q] w λe w'=>∃v,e=.returned v/\w'.ownsRow w.heap.size 3 1 v (J.free d l).length (ints (J.free d l))/\Below w.heap.size w w':=by
 obtain⟨Y,Z,V⟩:=aK (λx W (r:Below w.heap.size w W)=>af.sn bK Q l x B W aB (S.below (r.mono ah))) (xQ Tryz.dB) (qK w.heap.size w);obtain⟨n,I⟩:=gz d.length;have ag:=qQ I;rw[I]at ar |-;clear S I;go_enter func102,ntmps102;go_wp2_with fail;go_loopw [5,9] (λv N wr=>∃k:Nat,N=.int .i64 (k:Int)/\k<=n/\Below w.heap.size w wr/\wr.ownsRow w.heap.size 3 1 v (aj.aU d l k).length (ints (aj.aU d l k))) (λ_ N _=>n-(intOf N).toNat)
 case atStart=>exact⟨0,rfl,by omega,V.q,rfl,.inl ⟨rfl,rfl⟩⟩
 obtain⟨k,rfl,aH,r,M⟩:=hrel;have D:=qQ r;have i:=qQ M;obtain⟨aE,cu,aC,aG⟩:=ai.aZ M;subst aC;have E:=qQ (Y.q (k:Int) wr r);clear r M;by_cases aI:k<n
 .have O:=qQ (aj.qb d l k);have aA:=aj.k4 d l k;have aq:(aj.aU d l k).length<=65536:=by omega
  clear aA;by_cases m:(k:Int)∈l
  .rw[zD m]at E;have j:=qQ (show aj.aU d l (k+1)=aj.aU d l k by rw[O.q,qY m]);clear m;go_wp2_with fail
   ((with_reducible refine E.q.mono ?_);rintro e aw ⟨rfl,y⟩)
   rw[<-y];clear y;go_wp2_with fail;go_roundw
   case rel=>exact⟨k+1,by go_num,by omega,D.q,by rw[j.q];exact i.q⟩
   case measure=>simp[intOf];omega
  rw[zN m]at E;have j:=qQ (show aj.aU d l (k+1)=aj.aU d l k++[(k:Int)] by rw[O.q,qV m]);clear m;obtain⟨i0,g1,g2,g3,g4⟩:=Z.q;have aD:=D.q.size;generalize ap:aj.aU d l k=aF at i j aq |-;go_wp2_with fail
  ((with_reducible refine E.q.mono ?_);rintro e aw ⟨rfl,y⟩)
  rw[<-y];clear y;go_wp2_with (at_builtin;refine bF _ rfl _ _ 23 rfl w.heap.size 3 i0 (.int .i64 0) 1 8 underlying23 g1 g2 g3 g4 rfl (by decide) _ _ _ rfl (i.q.alloc _) _ (some ⟨wr.heap.size,0,none⟩) 1 1 [.int .i64 (k:Int)] rfl (af.dj (av.new wr 3 #[.int .i64 (k:Int)]) rfl) (by intro u hu;simp at hu;subst hu;rfl) (by unfold maxLen;omega) (by omega) (by simp;omega) ?_);intro v' cH how U _;have X:=qQ ((D.q.alloc aD (.cells #[.int .i64 (k:Int)] 3)).grown U (by simp;omega) (λg az=>(i.q.lt g az).1));have ak:=qQ (show cH.ownsRow w.heap.size 3 1 v' (aj.aU d l (k+1)).length (ints (aj.aU d l (k+1))) by
   rw[j.q,qW,ai.ec];exact how)
  clear how U ap;go_wp2_with fail;go_roundw
  case rel=>exact⟨k+1,by go_num,by omega,X.q,ak.q⟩
  case measure=>simp[intOf];omega
 obtain rfl:k=n:=by omega
 have j:=qQ (show aj.aU d l k=J.free d l by rw[<-ag.q];rfl);rw[j.q]at i |-;go_wp2_with fail;go_ret;exact⟨_,rfl,i.q,D.q⟩
theorem af.eE(A bK:Option Addr)(cC aH:Nat)(l d:List Int)(B:Nat)(w:World)(ah:B<=w.heap.size)(aK:l.length<=1099511627776)(ar:d.length<=65536)(Y:∀k∈l,0<=k/\k<(d.length:Int))(V:ai.ao w B bK l)(bS:ai.ao w B A d):Calls Tryz.prog 101 #[.slice A d.length cC,.slice bK l.length aH] w λe w'=>∃v,e=.returned v/\w'.ownsRow w.heap.size 3 1 v (J.aq d l).length (ints (J.aq d l))/\Below w.heap.size w w':=by
 obtain⟨az,aC,aB,aA,ak⟩:=fC (λW (i:Below w.heap.size w W)=>bS.below (i.mono ah)) (λW (i:Below w.heap.size w W)=>V.below (i.mono ah)) Y (xQ Tryz.dB) (qK w.heap.size w);obtain⟨n,I⟩:=gz d.length;have aD:=qQ I;obtain⟨m,E⟩:=gz l.length;have O:=qQ E;rw[I]at ar |-;rw[E]at aK |-;clear V bS I E Y;go_enter func101,ntmps101;go_wp2_with fail;go_loopw [5,10] (λv N wr=>∃k:Nat,N=.int .i64 (k:Int)/\k<=m/\Below w.heap.size w wr/\wr.ownsRow w.heap.size 3 1 v (J.aq d (l.take k)).length (ints (J.aq d (l.take k)))) (λ_ N _=>m-(intOf N).toNat)
 case atStart=>exact⟨0,rfl,by omega,ak.q,rfl,.inl ⟨rfl,rfl⟩⟩
 obtain⟨k,rfl,aV,i,M⟩:=hrel;have j:=qQ i;have r:=qQ M;obtain⟨aO,cu,aL,aU⟩:=ai.aZ M;subst aL;clear i M;by_cases aX:k<m
 .have D:k<l.length:=by have:=O.q;omega
  obtain⟨fP,ol,rfl,aT,U⟩:=aC.q _ j.q (by omega);have aI:=U k D;have hq:=aB.q l[k] (qP D);have Q:=qQ (qD D);clear U;generalize l[k]=ag at aI hq Q;obtain⟨q,rfl⟩:∃q:Nat,ag=(q:Int):=⟨ag.toNat,by omega⟩;have Z:q<d.length:=by omega
  obtain⟨aQ,a0,rfl,aR,S⟩:=az.q _ j.q (by omega);have aG:=S q Z;have y:=qQ (show J.aq d (l.take (k+1))=J.aq d (l.take k)++[d[q]] by rw[Q.q,aj.iM d _ q Z]);have hle:(J.aq d (l.take k)).length<=1099511627776:=by rw[J.aW,qM];omega
  have i1:=b2 k;have i2:(k:Int)<m:=by omega
  have i3:=b2 q;have i4:(q:Int)<(n:Int):=by have:=aD.q;omega
  clear S hq;generalize d[q]=x at aG y;obtain⟨i0,g1,g2,g3,g4⟩:=aA.q;have aN:=j.q.size;generalize J.aq d (l.take k)=aP at r y hle |-;go_wp2_with (at_builtin;refine bF _ rfl _ _ 23 rfl w.heap.size 3 i0 (.int .i64 0) 1 8 underlying23 g1 g2 g3 g4 rfl (by decide) _ _ _ rfl (r.q.alloc _) _ (some ⟨wr.heap.size,0,none⟩) 1 1 [.int .i64 x] rfl (af.dj (av.new wr 3 #[.int .i64 x]) rfl) (by intro u hu;simp at hu;subst hu;rfl) (by unfold maxLen;omega) (by omega) (by simp;omega) ?_);intro v' cH how X _;have ap:=qQ ((j.q.alloc aN (.cells #[.int .i64 x] 3)).grown X (by simp;omega) (λg aJ=>(r.q.lt g aJ).1));have aE:=qQ (show cH.ownsRow w.heap.size 3 1 v' (J.aq d (l.take (k+1))).length (ints (J.aq d (l.take (k+1)))) by
   rw[y.q,qW,ai.ec];exact how)
  clear how X;go_wp2_with fail;go_roundw
  case rel=>exact⟨k+1,by go_num,by omega,ap.q,aE.q⟩
  case measure=>simp[intOf];omega
 obtain rfl:k=m:=by omega
 have aF:=qQ (show l.take k=l by rw[<-O.q,zS]);rw[aF.q]at r |-;go_wp2_with fail;go_ret;exact⟨_,rfl,r.q,j.q⟩
theorem af.dK(A bK:Option Addr)(cC ib:Nat)(a b:List Int)(B:Nat)(w:World)(ah:B<=w.heap.size)(ap:a.length<=1099511627776)(i:b.length<=1099511627776)(I:ai.ao w B A a)(M:ai.ao w B bK b):Calls Tryz.prog 106 #[.slice A a.length cC,.slice bK b.length ib] w λe w'=>∃v,e=.returned v/\w'.ownsRow w.heap.size 3 1 v (a++b).length (ints (a++b))/\Below w.heap.size w w':=by
 obtain⟨V,E,D,S,U⟩:=fC (xQ Tryz.dB) (yF (base:=w.heap.size) (size:=1) (e:=3) w #[] 0 (qX _) (by unfold maxLen;omega) rfl) ((qK w.heap.size w).alloc (qX _) (.cells #[] 3)) (λW (i:Below w.heap.size w W)=>af.k9 (I.below (i.mono ah)) (qJ ah i.size)) (λW (i:Below w.heap.size w W)=>af.k9 (M.below (i.mono ah)) (qJ ah i.size));have N:∀(l:List Int),∀u∈ints l,u.oneCell'=true:=λl u hu=>by
  obtain⟨x,_,rfl⟩:=List.mem_map.1 hu;rfl
 clear I M;obtain⟨i0,g1,g2,g3,g4⟩:=V.q;have Z:w.heap.size<=(w.alloc (.cells #[] 3)).heap.size:=by simp
 go_enter func106,ntmps106;go_wp2_with (at_builtin;refine bF _ rfl _ _ 23 rfl w.heap.size 3 i0 (.int .i64 0) 1 8 underlying23 g1 g2 g3 g4 rfl (by decide) _ _ _ rfl E.q _ A a.length cC (ints a) rfl (S.q _ D.q) (N a) (by unfold maxLen;omega) (by omega) Z ?_);intro v1 ag how j _;have m:=qQ (D.q.grown j (by simp) (λg y=>(E.q.lt g y).1));have r:=qQ (show ag.ownsRow w.heap.size 3 1 v1 (0+a.length) (ints a)from by simpa using how);have O:w.heap.size<=ag.heap.size:=m.q.size;obtain⟨ak,cu,Y,aq⟩:=ai.aZ how;subst Y;clear how j;rw[qI]at r;go_wp2_with (at_builtin;refine bF _ rfl _ _ 23 rfl w.heap.size 3 i0 (.int .i64 0) 1 8 underlying23 g1 g2 g3 g4 rfl (by decide) _ _ _ rfl r.q _ bK b.length ib (ints b) rfl (U.q _ m.q) (N b) (by unfold maxLen;omega) (by omega) O ?_);intro v2 aC how j _;have Q:=qQ (m.q.grown j O (λg y=>(r.q.lt g y).1));have X:=qQ (show aC.ownsRow w.heap.size 3 1 v2 (a++b).length (ints (a++b))from by
  rw[qW];unfold ints at how |-;rw[zI];exact how)
 clear how j;go_wp2_with fail;go_ret;exact⟨_,rfl,X.q,Q.q⟩
theorem _root_.XE{G:Prop}(h:G:=by
 have br:=qQ (I1.q (by omega));go_wp2_with fail;go_ret;exact⟨by rw[br.q];rfl,rfl⟩
 ):G:=h
theorem af.wg(A:Option Addr)(cC n:Nat)(l:List Int)(B:Nat)(w:World)(ap:l.length<=cC)(aB:cC<=9223372036854775807)(aF:n<=65536)(V:ai.ao w B A l):Calls Tryz.prog 133 #[.slice A l.length cC,.int .i64 (n:Int)] w λe w'=>e=.returned (.bool (J.bG l n))/\w=w':=by
 have S:=qQ V;obtain⟨m,M⟩:=gz l.length;have Q:=qQ M;rw[M]at ap |-;have Z:=qQ (show ∀k (y:k<l.length),¬(0<=l[k]/\l[k]<(n:Int)/\l[k]∉l.take k)->J.bG l n=false from λk y h=>by
  cases E:J.bG l n with
  | false=>rfl
  | true =>
   exfalso;unfold J.bG at E;rw[qB]at E;have I:=List.all_eq_true.1 E.1 _ (qP y);simp only[qB,xZ]at I;refine h ⟨I.1,I.2,λak=>?_⟩;have ah:=List.pairwise_iff_getElem.1 (xG E.2:l.Nodup);obtain⟨j,r,e⟩:=zQ ak;rw[qM]at r;rw[pQ]at e;exact ah j k (by omega) y (by omega) e)
 have ag:=qQ (show(∀k (y:k<l.length),0<=l[k]/\l[k]<(n:Int)/\l[k]∉l.take k)->J.bG l n=true from λh=>by
  unfold J.bG;rw[qB];refine⟨List.all_eq_true.2 (λx aq=>?_),zD (List.pairwise_iff_getElem.2 (λi j hi r aC e=>?_))⟩
  .obtain⟨k,y,rfl⟩:=zQ aq;rw[zD (h k y).1,zD (h k y).2.1];rfl
  exact(h j r).2.2 (by rw[<-e];exact List.mem_take_iff_getElem.2 ⟨i,by omega,rfl⟩))
 clear V M;go_enter func133,ntmps133;go_wp2_with fail
 go_loop [9] (λN=>∃k:Nat,N=.int .i64 (k:Int)/\k<=m/\∀j (r:j<l.length),j<k->0<=l[j]/\l[j]<(n:Int)/\l[j]∉l.take j) (λN=>m-(intOf N).toNat)
 case atStart=>exact⟨0,rfl,by omega,λj _ h=>by omega⟩
 obtain⟨k,rfl,y,W⟩:=hrel;have O:=qQ W;clear W;by_cases aE:k<m
 .have Y:k<l.length:=by have:=Q.q;omega
  have D:=qQ (by
   have h:=af.sn A cC (l.take k) l[k] B w (by rw[qM];omega) (af.ju S.q k)
   rwa [show(l.take k).length=k by rw[qM];omega]at h)
  obtain⟨b,off,rfl,aA,X⟩:=S.q (by omega);have aO:=X k Y;have I1:=qQ (Z.q k Y);have U:=qQ (show(0<=l[k]/\l[k]<(n:Int)/\l[k]∉l.take k)->∀j (r:j<l.length),j<k+1->0<=l[j]/\l[j]<(n:Int)/\l[j]∉l.take j from λh j r aD=>by
   by_cases e:j=k
   .subst e;exact h
   exact O.q j r (by omega))
  have i1:=b2 k;have i2:(k:Int)<m:=by omega
  have i3:(k:Int)<=cC:=by omega
  clear X;generalize l[k]=x at aO I1 U D;by_cases av:x<0
  .exact XE
  by_cases az:(n:Int)<=x
  .exact XE
  by_cases bA:x∈l.take k
  .have br:=qQ (I1.q (λh=>h.2.2 bA));rw[zD bA]at D;clear bA;go_wp2_with fail
   ((with_reducible refine D.q.mono ?_);rintro e aw ⟨rfl,rfl⟩)
   go_wp2_with fail;go_ret;exact⟨by rw[br.q];rfl,rfl⟩
  have br:=qQ (U.q ⟨by omega,by omega,bA⟩);rw[zN bA]at D;clear bA;go_wp2_with fail
  ((with_reducible refine D.q.mono ?_);rintro e aw ⟨rfl,rfl⟩)
  go_wp2_with fail
  go_round
  case rel=>exact⟨k+1,by go_num,by omega,br.q⟩
  case measure=>simp[intOf];omega
 obtain rfl:k=m:=by omega
 have br:=qQ (ag.q (λj r=>O.q j r (by have:=Q.q;omega)));go_wp2_with fail;go_ret;exact⟨by rw[br.q];rfl,rfl⟩
end Go.Proofs.YtabmnaaidfpmcaaGreatDoor
end
section
namespace ad
open J (Op Node bh)
open R (size prod idx dR ef inside pick c1)
theorem dW:∀{l m:List Int},inside l m=true↔l.length=m.length/\∀k,k<l.length->0<=m.getD k 0/\m.getD k 0<l.getD k 0
 | [],[]=>by simp[inside]
 | [],b::m=>by simp[inside]
 | a::l,[]=>by simp[inside]
 | a::l,b::m=>by
  simp only[inside,qB,qO,qH];rw[dW];constructor
  .rintro⟨⟨j,i⟩,x,q⟩;refine⟨by omega,λk r=>?_⟩;cases k with
   | zero=>exact⟨j,i⟩
   | succ k=>exact q k (by omega)
  rintro⟨j,i⟩;exact⟨i 0 (by omega),by omega,λk r=>i (k+1) (by omega)⟩
theorem l2{m2:List Int}(i:inside l m=true)(j:inside cX m2=true):inside (l++cX) (m++m2)=true:=by
 induction l generalizing m with
 | nil=>cases m with
  | nil=>simpa using j
  | cons b m=>simp[inside]at i
 | cons a l q=>cases m with
  | nil=>simp[inside]at i
  | cons b m =>
   simp only[inside,qB,xH]at i |-;exact⟨i.1,q i.2⟩
theorem kb(h:inside (l++cX) m=true):inside l (m.take l.length)=true/\inside cX (m.drop l.length)=true:=by
 induction l generalizing m with
 | nil=>exact⟨by simp[inside],by simpa using h⟩
 | cons a l x=>cases m with
  | nil=>simp[inside]at h
  | cons b m =>
   simp only[inside,qB,xH,qH,vS,vT]at h |-;obtain⟨i,j⟩:=h;obtain⟨q,r⟩:=x j;exact⟨⟨i,q⟩,r⟩
theorem sF(l:List Int)(i k:Nat)(x:Int)(hi:i<l.length):(l.set i x).getD k 0=if k=i then x else l.getD k 0:=by
 rw[qU,qU,List.getElem?_set];by_cases e:i=k
 .subst e;rw[qY rfl,qY hi,qY rfl];rfl
 rw[qV e,qV (zK e)]
theorem e4:∀(l:List (Int × Int)) (o:List Int),(cG l o).length=o.length
 | [],o=>rfl
 | p::l,o=>by
  show(cG l (o.set p.1.toNat p.2)).length=_;rw[e4 l,xJ]
theorem oY{k:Nat} : ∀{l:List (Int × Int)} {o:List Int},(∀p∈l,p.1.toNat≠k)->(∀p∈l,p.1.toNat<o.length)->(cG l o).getD k 0=o.getD k 0
 | [],o,_,_=>rfl
 | p::l,o,h,i=>by
  show(cG l (o.set p.1.toNat p.2)).getD k 0=_;have hp:=i p zL;rw[oY (λq hq=>h q (zH _ hq)) (λq hq=>by rw[xJ];exact i q (zH _ hq)),sF _ _ _ _ hp,qV (zK (h p zL))]
theorem nJ{k:Nat}{x:Int} : ∀{l:List (Int × Int)} {o:List Int},(l.map λp=>p.1.toNat).Nodup->(∀p∈l,p.1.toNat<o.length)->(∃p∈l,p.1.toNat=k/\p.2=x)->(cG l o).getD k 0=x
 | [],o,_,_,h=>by obtain⟨p,hp,_⟩:=h;cases hp
 | p::l,o,m,r,h=>by
  rw[qE,yE]at m;have hp:=r p zL;have y:∀q∈l,q.1.toNat<(o.set p.1.toNat p.2).length:=λq hq=>by rw[xJ];exact r q (zH _ hq)
  show(cG l (o.set p.1.toNat p.2)).getD k 0=x;by_cases e:p.1.toNat=k
  .have B:∀q∈l,q.1.toNat≠k:=λq hq D=>m.1 (List.mem_map.2 ⟨q,hq,by rw[D,e]⟩)
   obtain⟨q,hq,i,j⟩:=h;rcases List.mem_cons.1 hq with rfl | hq
   .rw[oY B y,sF _ _ _ _ hp,qY i.symm,j]
   exact absurd i (B q hq)
  obtain⟨q,hq,i,j⟩:=h;rcases List.mem_cons.1 hq with rfl | hq
  .exact absurd i e
  exact nJ m.2 y ⟨q,hq,i,j⟩
theorem mu(r:Nat)(a v a2 v2:List Int):(ck r a v a2 v2).length=r:=by unfold ck;rw[e4,e4,zP]
theorem ih(h:J.bG l n=true):(∀k∈l,0<=k/\k<(n:Int))/\l.Nodup:=by
 unfold J.bG at h;rw[qB]at h;exact⟨λk i=>by have:=List.all_eq_true.1 h.1 k i;simpa using this,xG h.2⟩
theorem eF(d l:List Int):(∀k,k∈J.free d l↔(0<=k/\k<(d.length:Int))/\k∉l)/\(J.free d l).Nodup:=by
 unfold J.free;refine⟨λk=>by rw[List.mem_filter,R.fu];simp,(R.mY _).filter _⟩
theorem qh(h:l.Nodup)(i:∀k∈l,0<=k):(l.map λk=>k.toNat).Nodup:=by
 induction l with
 | nil=>simp
 | cons a l q =>
  rw[yE]at h;rw[qE,yE];refine⟨λhm=>?_,q h.2 (λk m=>i k (zH _ m))⟩;obtain⟨b,j,e⟩:=List.mem_map.1 hm;have r:=i a zL;have x:=i b (zH _ j);have:b=a:=by omega
  subst this;exact h.1 j
theorem zip_fst(h:l.length=v.length):(l.zip v).map (λp=>p.1.toNat)=l.map λk=>k.toNat:=by
 induction l generalizing v with
 | nil=>simp
 | cons a l i=>cases v with
  | nil=>simp at h
  | cons b v=>rw[kR,qE,qE,i (by simpa using h)]
theorem uo{j:Nat}(i:j<l.length)(m:j<v.length):(l[j],v[j])∈l.zip v:=by
 have:(l.zip v)[j]'(by rw[kL];omega)=(l[j],v[j]):=List.getElem_zip ..;rw[<-this];exact qP _
theorem i'{I a v2:List Int}(B:J.bG a I.length=true)(E:inside (J.aq I a) v=true)(M:inside (J.aq I (J.free I a)) v2=true):inside I (ck I.length a v (J.free I a) v2)=true:=by
 obtain⟨dm,a2⟩:=ih B;obtain⟨f1,f2⟩:=eF I a;obtain⟨cW,r⟩:=dW.1 E;obtain⟨cX,x⟩:=dW.1 M;rw[J.aW]at cW r cX x;have m1:∀p∈a.zip v,p.1.toNat<(List.replicate I.length (0:Int)).length:=λp hp=>by
  have:=dm p.1 (kT hp).1;rw[zP];omega
 have m2:∀p∈(J.free I a).zip v2,p.1.toNat<(cG (a.zip v) (List.replicate I.length 0)).length:=λp hp=>by
  have:=((f1 p.1).1 (kT hp).1).1;rw[e4,zP];omega
 have bJ:((a.zip v).map λp=>p.1.toNat).Nodup:=by rw[zip_fst cW];exact qh a2 (λk m=>(dm k m).1)
 have bn:(((J.free I a).zip v2).map λp=>p.1.toNat).Nodup:=by rw[zip_fst cX];exact qh f2 (λk m=>((f1 k).1 m).1.1)
 refine dW.2 ⟨(mu _ _ _ _ _).symm,λk m=>?_⟩;have y:∀(l:List Int) (j:Nat) (i:j<l.length),(J.aq I l).getD j 0=I.getD l[j].toNat 0:=λl j i=>by
  unfold J.aq;rw[qU,jT,qC i];rfl
 by_cases hm:(k:Int)∈a
 .obtain⟨j,i,e⟩:=zQ hm;have q:(ck I.length a v (J.free I a) v2).getD k 0=v.getD j 0:=by
   unfold ck;rw[oY (λp hp N=>by
    have c2:=(f1 p.1).1 (kT hp).1;have bS:p.1=(k:Int):=by omega
    exact c2.2 (by rw[bS];exact hm)) m2]
   refine nJ bJ m1 ⟨(a[j],v[j]'(by omega)),uo i (by omega),by rw[e];simp,?_⟩;rw[qU,qC (by omega)];rfl
  rw[q];have:=r j i;rw[y a j i,e,xY]at this;exact this
 have D:(k:Int)∈J.free I a:=(f1 _).2 ⟨by omega,hm⟩;obtain⟨j,i,e⟩:=zQ D;have q:(ck I.length a v (J.free I a) v2).getD k 0=v2.getD j 0:=by
  unfold ck;refine nJ bn m2 ⟨((J.free I a)[j],v2[j]'(by omega)),uo i (by omega),by rw[e];simp,?_⟩;rw[qU,qC (by omega)];rfl
 rw[q];have:=x j i;rw[y _ j i,e,xY]at this;exact this
end ad
end
section
namespace ad
open J (Op Node bh)
open R (size prod idx dR ef inside pick c1)
theorem size_pos(h:(size d).2=0)(m:(size d).1≠0):∀x∈d,1<=x:=by
 obtain⟨q,z2,z3,z4,z5⟩:=R.aB h;intro x j;have i:(0:Int)∉d:=λi=>m (by rw[z3];exact R.nI _ i)
 have:=z2 x j;have:x≠0:=λe=>i (e▸j)
 omega
theorem j7(h:(size d).2=0)(i:t∈all d):inside d t=true:=by
 unfold all at i;split at i
 .cases i
 rename_i j;obtain⟨p,hp,rfl⟩:=List.mem_map.1 i;exact(R.k7 d (size_pos h j) p (by omega)).1
theorem Cx(h:(size d).2=0){p:Nat}(hp:p<(size d).1.toNat):inside d (idx d (p:Int))=true :=
 (R.k7 d (size_pos h (by omega)) p (by omega)).1
theorem lW(h:R.cB n l=true):J.bG l n=true:=by
 rw[J.BV,qB]at h;exact h.2
theorem Dg{op:Op}{k:List Int}(m:op.k=10)(ar:J.I op [d]=(out,0))(az:(size (J.aq d op.a)).2=0)(j:inside out t=true)(hm:k∈all (J.aq d op.a)):inside d (ck d.length op.a k (J.free d op.a) t)=true:=by
 obtain⟨-,bS,-⟩:=ae.cv ar;unfold J.aP at bS;rw[m]at bS;simp only[show ¬((10:Int)=2) by omega,uX,xX]at bS;by_cases i:R.cB d.length op.a=true
 .simp[i]at bS;rw[<-bS]at j;exact i' (lW i) (j7 az hm) j
 simp[i]at bS
theorem A_{op:Op}(B:op.k=18)(ar:J.I op [d,e]=(out,0))(j:inside out t=true):inside e (t.take e.length)=true/\∀r,0<=r->r<d.getD 0 0->inside d (r::t.drop e.length)=true:=by
 obtain⟨-,i,-⟩:=ae.cv ar;unfold J.aP at i;rw[B]at i;simp at i;cases d with
 | nil=>simp at i
 | cons a d =>
  simp at i;rw[<-i]at j;obtain⟨x,y⟩:=kb j;exact⟨x,λr m q=>by simp only[inside,qB,qO];exact⟨⟨m,q⟩,y⟩⟩
theorem CV{op:Op}{k:List Int}(x:op.k=19)(ar:J.I op [d,e]=(out,0))(q:inside out t=true)(hm:inside e k=true):inside d (k++t.drop 1)=true:=by
 obtain⟨-,i,-⟩:=ae.cv ar;unfold J.aP at i;rw[x]at i;simp at i;by_cases j:¬op.I.length=1\/d.length<e.length\/¬d.take e.length=e
 .rw[qY j]at i;simp at i
 rw[qV j]at i;simp at i;rw[<-i]at q;simp only[not_or,vY]at j;obtain⟨aO,bz,r⟩:=j;obtain⟨y,m⟩:=kb q;rw[aO]at m;have:=l2 hm m
 rwa [<-r,qM,yB (by omega),jU]at this
theorem CL{op:Op}(m:op.k=14)(ar:J.I op [d]=(out,0))(B:inside out t=true)(hp:rh op d t=true):inside d (dI op t)=true:=by
 obtain⟨-,i,-⟩:=ae.cv ar;unfold J.aP at i;rw[m]at i;simp at i;unfold J.cQ at i;split at i
 .simp at i
 rename_i D;split at i
 .rename_i x;simp at i;have y:t.length=d.length:=by
   have:=R.bN B;rw[<-i]at this;simpa using this.symm
  refine dW.2 ⟨by simp[dI,y],λk m=>?_⟩;have r:k<t.length:=by omega
  have j:=List.all_eq_true.1 hp k (List.mem_range.2 r);simp only[qB,qO]at j;have q:=List.all_eq_true.1 x k (List.mem_range.2 m);unfold J.ft at q;simp only[qB,qO]at q;have e:(dI op t).getD k 0=(t.getD k 0-op.l.getD k 0) / op.s.getD k 0:=by
   rw[qU];simp[dI,r]
  rw[e];exact⟨yA j.1.1 (by omega),j.2⟩
 simp at i
theorem Ci{op:Op}{k:List Int}(m:op.k=16)(ar:J.I op [d,e]=(out,0))(j:inside out t=true)(hm:inside (J.aq d op.a) k=true):let xb:=J.free d (op.a++op.l)
    inside d (ck d.length (op.a++op.l) (k++t.take op.l.length) xb ((t.drop op.l.length).take xb.length))=true/\inside e (ck e.length (op.s++op.h) (k++t.take op.l.length) (J.free e (op.s++op.h)) (t.drop (op.l.length+xb.length)))=true:=by
 intro xb;obtain⟨-,bS,-⟩:=ae.cv ar;unfold J.aP at bS;rw[m]at bS;simp at bS;unfold J.dA at bS;split at bS
 .simp at bS
 rename_i aO;split at bS
 .simp at bS
 rename_i bz;split at bS
 .simp at bS
 rename_i i;simp only[not_or,vY,uF]at aO bz i;simp only[vJ,xD]at bS;rw[<-bS,zE]at j;obtain⟨dm,a2⟩:=kb j;obtain⟨a3,a4⟩:=kb a2;rw[J.aW]at dm a3 a4;rw[J.aW]at a3 a4;refine⟨i' bz.1 (by rw[J.iW];exact l2 hm dm) a3,i' bz.2 ?_ ?_⟩
 .rw[J.iW,<-i.1,<-i.2];exact l2 hm dm
 rwa [List.drop_drop]at a4
end ad
end
section
namespace ad
open J (Op Node bh)
open R (size prod idx dR ef inside pick c1)
theorem DZ{o:List Int}(h:J.j' k o d=true):d.length=o.length/\∀j,j≠k->d.getD j 0=o.getD j 0:=by
 unfold J.j' at h;simp only[qB,qO]at h;refine⟨h.1,λj i=>?_⟩;by_cases m:j<o.length
 .have:=List.all_eq_true.1 h.2 j (List.mem_range.2 m);simpa[i]using this
 rw[qU,qU,kK (by omega),kK (by omega)]
theorem y'{k:Nat}{out:List Int} : ∀{ds:List (List Int)} {o:List Int},J.cU k o ds=(out,0)->(out.length=o.length/\∀j,j≠k->out.getD j 0=o.getD j 0)/\∀d∈ds,d.length=out.length/\∀j,j≠k->d.getD j 0=out.getD j 0
 | [],o,h=>by
  unfold J.cU at h;simp only[vJ,xD]at h;subst h;exact⟨⟨rfl,λ_ _=>rfl⟩,λd ar=>by cases ar⟩
 | e::ds,o,h=>by
  unfold J.cU at h;split at h
  .rename_i r;obtain⟨f1,f2⟩:=DZ r;obtain⟨⟨m,x⟩,y⟩:=y' h;rw[xJ]at m;have q:∀j,j≠k->out.getD j 0=o.getD j 0:=λj i=>by
    rw[x j i,qU,yR (zK i),<-qU]
   refine⟨⟨m,q⟩,λd ar=>?_⟩;rcases List.mem_cons.1 ar with rfl | ar
   .exact⟨by omega,λj i=>by rw[q j i,f2 j i]⟩
   exact y d ar
  simp at h
theorem C7{n:Int}(x:d.length=out.length)(he:∀j,j≠k->d.getD j 0=out.getD j 0)(q:inside out t=true)(i:0<=n)(m:n<d.getD k 0):inside d (t.set k n)=true:=by
 obtain⟨t1,t2⟩:=dW.1 q;refine dW.2 ⟨by rw[xJ];omega,λj r=>?_⟩;by_cases e:j=k
 .subst e;rw[sF _ _ _ _ (by omega),qY rfl];exact⟨i,m⟩
 rw[qU (l:=t.set k n),yR (zK e),<-qU,he j e];exact t2 j (by omega)
theorem AL{op:Op}{ds:List (List Int)}(M:op.k=17)(ar:J.I op ds=(out,0))(x:inside out t=true):op.a.length=1/\0<=op.a.getD 0 0/\op.a.getD 0 0<(t.length:Int)/\∀d∈ds,d.length=t.length/\∀n,0<=n->n<d.getD (op.a.getD 0 0).toNat 0->inside d (t.set (op.a.getD 0 0).toNat n)=true:=by
 obtain⟨q,i,-⟩:=ae.cv ar;unfold J.aP at i;rw[M]at i;simp only[show ¬((17:Int)=2) by omega,show ¬((17:Int)=3\/(17:Int)=4\/(17:Int)=5\/(17:Int)=6\/(17:Int)=7\/(17:Int)=8) by omega,show ¬((17:Int)=10) by omega,show ¬((17:Int)=12) by omega,show ¬((17:Int)=14) by omega,show ¬((17:Int)=16) by omega,uX,if_true]at i;unfold J.bQ at i;split at i
 .simp at i
 rename_i r;simp only[not_or,vY]at r;obtain⟨aO,bz,m⟩:=r;obtain⟨⟨y,B⟩,N⟩:=y' i;have O:=R.bN x;cases ds with
 | nil =>
  simp only[List.getD_nil,zM]at m;omega
 | cons e ds =>
  simp only[xX]at y B m;refine⟨aO,by omega,by omega,λd hm=>?_⟩;have key:d.length=out.length/\∀j,j≠(op.a.getD 0 0).toNat->d.getD j 0=out.getD j 0:=by
   rcases List.mem_cons.1 hm with rfl | hm
   .exact⟨y.symm,λj E=>(B j E).symm⟩
   exact N d (by simpa using hm)
  exact⟨by omega,λn D q=>C7 key.1 key.2 x D q⟩
theorem nD{v:R.V}{x:R.V}(h:R.made v=(x,0)):x.I=v.I:=by
 unfold R.made at h;split at h
 .simp at h
 simp only[vJ,xD]at h;rw[<-h]
theorem _root_.JX{G:Prop}(h:G:=by
 rw[qV q]at bE;simp at bE
 ):G:=h
theorem lr{op:Op}(Q:op.k=9\/op.k=11\/op.k=13\/op.k=15)(ar:J.I op [d]=(out,0))(az:(size d).2=0)(B:inside out t=true):inside d (cF op d t)=true:=by
 obtain⟨c2,bS,-⟩:=ae.cv ar;have U:J.aP op [d]=((J.looked op d).1.I,(J.looked op d).2):=by
  unfold J.aP;rcases Q with k | k | k | k<;>simp[k]
 rw[U]at bS;simp only[vJ]at bS;obtain⟨i,bE⟩:=bS;have hw:(R.whole d)=(⟨0,d,R.steps d⟩,0):=by unfold R.whole;rw[qV (by simp[az])]
 have y:=R.lu az;unfold J.looked at i bE;rw[qV (by simp[az]),hw]at i bE;dsimp only at i bE;unfold cF;rcases Q with k | k | k | k
 .simp only[k,if_true]at i bE |-;unfold R.spread at i bE;rw[qV (by simp[y])]at i bE;by_cases z:(size op.I).2≠0
  .rw[qY z]at bE;exact absurd bE z
  rw[qV z]at i bE;by_cases c:op.a.length≠d.length\/R.cB op.I.length op.a=false
  .rw[qY c]at bE;simp at bE
  rw[qV c]at i bE;by_cases q:R.o0 ⟨0,d,R.steps d⟩ op.I op.a=true
  .rw[qY q]at i;dsimp only at i;subst i;simp only[not_or,vY,uF]at c;refine dW.2 ⟨by simp[c.1],λj m=>?_⟩;have E:j<op.a.length:=by omega
   have N:=List.all_eq_true.1 q j (List.mem_range.2 E);simp only[qO]at N;obtain⟨Y,aq⟩:=ih (lW c.2);have r:(op.a.map λk=>t.getD k.toNat 0).getD j 0=t.getD (op.a.getD j 0).toNat 0:=by
    rw[qU,jT,qU (l:=op.a),qC E];rfl
   have W:op.a.getD j 0∈op.a:=by
    rw[qU,qC E];exact qP _
   have:=Y _ W;rw[r,<-N];exact(dW.1 B).2 _ (by omega)
  exact JX
 .simp only[k,show ¬((11:Int)=9) by omega,uX,if_true]at i bE |-;unfold R.turn at i bE;rw[qV (by simp[y])]at i bE;by_cases q:R.eV d.length op.a=true
  .rw[qY q]at i;dsimp only at i;subst i;obtain⟨N,Z,ag,ah⟩:=R.iR q;have X:J.bG op.a d.length=true:=by
    unfold J.bG;rw[qB,qO];exact⟨List.all_eq_true.2 λx M=>by simpa using ag x M,Z⟩
   have O:J.free d op.a=[]:=by
    refine List.eq_nil_iff_forall_not_mem.2 λx M=>?_
    have:=((eF d op.a).1 x).1 M;exact this.2 (ah x this.1.1 this.1.2)
   have:=i' (I:=d) (a:=op.a) (v:=t) (v2:=[]) X B (by rw[O];rfl);rw[O]at this;exact this
  exact JX
 .simp only[k,show ¬((13:Int)=9) by omega,show ¬((13:Int)=11) by omega,uX,if_true]at i bE |-;unfold R.cut at i bE;rw[qV (by simp[y])]at i bE;by_cases c:op.l.length≠d.length\/op.h.length≠d.length\/op.s.length≠d.length
  .rw[qY c]at bE;simp at bE
  rw[qV c]at i bE;by_cases q:R.iN ⟨0,d,R.steps d⟩ op.l op.h op.s=true
  .rw[qY q]at i bE;have r:=nD (v:=⟨R.eB ⟨0,d,R.steps d⟩ op.l d.length,R.cP ⟨0,d,R.steps d⟩ op.l op.h op.s,R.cE ⟨0,d,R.steps d⟩ op.s⟩) (uJ rfl bE);rw[r]at i;dsimp only at i;subst i;obtain⟨t1,t2⟩:=dW.1 B;rw[R.dU]at t1 t2;dsimp only at t1 t2;refine dW.2 ⟨by simp[t1],λj m=>?_⟩;have aO:=R.hU.1 (R.nY q m);dsimp only at aO;have t3:=t2 j m;have S:(R.cP ⟨0,d,R.steps d⟩ op.l op.h op.s).getD j 0=R.kept (op.l.getD j 0) (op.h.getD j 0) (op.s.getD j 0):=by
    rw[R.getD_at _ _ (by rw[R.dU];exact m),R.oE]
   rw[S]at t3;have D:((List.range t.length).map λk=>op.l.getD k 0+t.getD k 0*op.s.getD k 0).getD j 0=op.l.getD j 0+t.getD j 0*op.s.getD j 0:=by
    rw[qU];simp[show j<t.length by omega]
   rw[D];have ak:0<=t.getD j 0*op.s.getD j 0:=jF t3.1 (by omega);have ao:¬op.h.getD j 0<=op.l.getD j 0+t.getD j 0*op.s.getD j 0:=λap=>by
    unfold R.kept at t3;have V:=(Int.le_ediv_iff_mul_le (show 0<op.s.getD j 0 by omega)).1 (show t.getD j 0+1<=_ from t3.2);rw[vL,vZ]at V;omega
   omega
  exact JX
 simp only[k,show ¬((15:Int)=9) by omega,show ¬((15:Int)=11) by omega,show ¬((15:Int)=13) by omega,uX]at i bE |-;unfold R.flip at i bE;rw[qV (by simp[y])]at i bE;by_cases q:R.cB d.length op.a=true
 .rw[qY q]at i bE;have r:=nD (v:=⟨R.dH ⟨0,d,R.steps d⟩ op.a d.length,d,R.bW ⟨0,d,R.steps d⟩ op.a d.length⟩) (uJ rfl bE);rw[r]at i;dsimp only at i;subst i;obtain⟨t1,t2⟩:=dW.1 B;refine dW.2 ⟨by simp[t1],λj m=>?_⟩;have D:((List.range t.length).map λ(k:Nat)=>if (k:Int)∈op.a then d.getD k 0-1-t.getD k 0 else t.getD k 0).getD j 0=if (j:Int)∈op.a then d.getD j 0-1-t.getD j 0 else t.getD j 0:=by
   rw[qU];simp[show j<t.length by omega]
  rw[D];have:=t2 j m;split<;>omega
 exact JX
end ad
end
section
namespace Go.Proofs.YtabmnaaidfpmcaaGreatDoor
open Go.RowKit aS
namespace al
def a1(w:World)(B:Nat)(val:Value)(a:ad.ay):Prop :=
 ∃A c X x,val=.agg #[.slice A a.I.length c,.slice X a.e.length x]/\ai.ao w B A a.I/\ai.ao w B X a.e/\(a.I.length<=c/\c<=9223372036854775807)/\a.e.length<=x/\x<=9223372036854775807
theorem a1.below{w w':World}{B:Nat}{v:Value}{a:ad.ay}(h:a1 w B v a)(i:Below B w w'):a1 w' B v a:=by
 obtain⟨A,c,X,x,e,j,m,q⟩:=h;exact⟨A,c,X,x,e,j.below i,m.below i,q⟩
theorem a1.up{w:World}{B B':Nat}{v:Value}{a:ad.ay}(h:a1 w B v a)(i:B<=B'):a1 w B' v a:=by
 obtain⟨A,c,X,x,e,j,m,q⟩:=h;exact⟨A,c,X,x,e,j.up i,m.up i,q⟩
theorem a1.bI{B:Nat}{v:Value}{a:ad.ay}(h:a1 w B v a)(ah:B<=w.heap.size)(W:World)(b:Below w.heap.size w W):a1 W W.heap.size v a:=(h.below (b.mono ah)).up (qJ ah b.size)
end al
theorem al.hx(val:Value)(a:ad.ay)(T:Option Addr)(aD:Nat)(t:List Int)(B:Nat)(w:World)(ah:B<=w.heap.size)(h:al.a1 w B val a)(hw:ad.cO a)(hi:ai.ao w B T t)(j:R.inside a.I t=true):Calls Tryz.prog 109 #[val,.slice T t.length aD] w λe w'=>e=.returned (.int .i64 (ad.get a t))/\Below w.heap.size w w':=by
 obtain⟨A,c,X,x,rfl,ar,U,Q,aK⟩:=h;obtain⟨aI,z2,z3,z4,z5⟩:=R.aB hw.1;obtain⟨aG,aH⟩:=R.e9 j;have hlen:=R.bN j;have aF:a.e.length=(R.prod a.I).toNat:=by rw[hw.2.1,z3]
 obtain⟨k,D⟩:∃k:Nat,R.dR a.I t=(k:Int):=⟨(R.dR a.I t).toNat,by omega⟩;have m:k<a.e.length:=by omega
 have Y:=qQ (show ad.get a t=a.e[k] by unfold ad.get;rw[D];simp[m]);obtain⟨ak,aL,M,b0,-⟩:=b8 w 68 #[.slice A a.I.length c,.slice X a.e.length x];have O:=qQ (zA A T c aD a.I t B B ak Q.1 Q.2 (by omega) (qJ ah b0.size) (qJ ah b0.size) (ar.below (b0.mono ah)) (hi.below (b0.mono ah)));have aq:=qQ (show R.place a.I t=((k:Int),0) by
  unfold R.place;rw[qV (by simp[hw.1]),qV (by simp[hlen]),qY j,D])
 rw[aq.q]at O;have av:=qQ (λW (b:Below w.heap.size w W)=>(U.below (b.mono ah)) (by omega));have V:=qQ b0;have aC:=λi=>M.cell i
 have Z:=qQ M;have ap:=qQ m;clear ar U hi hw j aI z2 z3 z4 z5 aG aH D b0 M hlen aF;obtain⟨y,E⟩:=gz (ad.get a t);have az:=qQ (Y.q.symm.trans E);rw[E];clear E;go_enter func109,ntmps109;go_wp2_with (with_reducible refine O.q.mono ?_);rintro e ag rfl r;have N:=qQ (aA V.q r);have aJ:=λi=>(Z.q.go r).cell i
 obtain⟨b,off,rfl,_,S⟩:=av.q ag N.q;have m:=ap.q;have aE:=S k m;have i1:=b2 k;have i2:(k:Int)<(a.e.length:Int):=by omega
 rw[az.q]at aE;clear S r aC;go_wp2_with fail;go_ret;exact⟨rfl,N.q⟩
theorem al.sG{aa ld o:List Int}(j:k<aa.length)(m:k<ld.length):ad.cG ((aa.zip ld).take (k+1)) o=(ad.cG ((aa.zip ld).take k) o).set aa[k].toNat ld[k]:=by
 have i:k<(aa.zip ld).length:=by rw[kL];omega
 unfold ad.cG;rw[qD i,jE];simp
theorem al.mr(r:Nat)(aQ bt az aA:Option Addr)(aO bz aT aU:Nat)(aa ld j D:List Int)(B:Nat)(w:World)(ah:B<=w.heap.size)(a4:r<=65536)(aV:aa.length<=65536)(aZ:j.length<=65536)(aq:aa.length<=ld.length)(hu:j.length<=D.length)(a6:ld.length<=9223372036854775807)(a5:D.length<=9223372036854775807)(aC:ai.ao w B aQ aa)(aD:ai.ao w B bt ld)(aE:ai.ao w B az j)(aF:ai.ao w B aA D)(aG:∀k∈aa,0<=k/\k<(r:Int))(aH:∀k∈j,0<=k/\k<(r:Int)):Calls Tryz.prog 110 #[.int .i64 (r:Int),.slice aQ aa.length aO,.slice bt ld.length bz,.slice az j.length aT,.slice aA D.length aU] w λe w'=>e=.returned (.slice (some ⟨w.heap.size,0,none⟩) r r)/\av w' w.heap.size 3 (ints (ad.ck r aa ld j D)).toArray/\Below w.heap.size w w':=by
 have Y:=qQ (λW (b:Below w.heap.size w W)=>qZ (aC.below (b.mono ah)) (qZ (aD.below (b.mono ah)) (qZ (aE.below (b.mono ah)) (aF.below (b.mono ah)))));have aB:=qQ (qZ aG aH);have a_:=λW=>dz r a4 W
 obtain⟨n,U⟩:=gz aa.length;obtain⟨m,hm⟩:=gz j.length;obtain⟨n',V⟩:=gz ld.length;obtain⟨LS,S⟩:=gz D.length;have O:=qQ (qZ U (qZ hm (qZ V S)));rw[U]at aV;rw[hm]at aZ;rw[U,V]at aq;rw[hm,S]at hu;rw[V]at a6;rw[S]at a5;rw[U,hm,V,S];have hle:=qZ aq hu;clear aC aD aE aF aG aH U hm V S aq hu;have aJ:=qQ ((qK w.heap.size w).alloc (qX _) (.cells (ints (List.replicate r 0)).toArray 3));have aL:=qQ (av.new w 3 (ints (List.replicate r 0)).toArray);go_enter func110,ntmps110;go_wp2_with fail;go_loopw [12,13,20] (λ_ _ N wr=>∃k:Nat,N=.int .i64 (k:Int)/\k<=n/\Below w.heap.size w wr/\av wr w.heap.size 3 (ints (ad.cG ((aa.zip ld).take k) (List.replicate r 0))).toArray) (λ_ _ N _=>n-(intOf N).toNat)
 case atStart=>exact⟨0,rfl,by omega,aJ.q,aL.q⟩
 obtain⟨k,rfl,a2,x,i⟩:=hrel;by_cases a3:k<n
 .have M:k<aa.length:=by have:=O.q.1;omega
  have Q:k<ld.length:=by have:=O.q.2.2.1;have:=hle.1;omega
  have g2:=(Y.q wr x).2.1;have g1:=(Y.q wr x).1;obtain⟨aP,a8,rfl,aW,aO⟩:=g1 (by omega);have Z:=aO k M;obtain⟨aR,a9,rfl,aX,bz⟩:=g2 (by omega);have ag:=bz k Q;have ap:=aB.q.1 _ (qP M);have I:=qQ (al.sG (o:=(List.replicate r 0)) M Q);generalize aa[k]=X at Z ap I;generalize ld[k]=y at ag I;obtain⟨q,rfl⟩:∃q:Nat,X=(q:Int):=⟨X.toNat,by omega⟩;rw[xY]at I;have i1:=b2 k;have i2:(k:Int)<n:=by omega
  have i3:=b2 q;have i4:(q:Int)<r:=by omega
  have i5:(k:Int)<(n':Int):=by have:=hle.1;omega
  have a1:=i.frozen q;have ak:(ad.cG ((aa.zip ld).take k) (List.replicate r 0)).length=r:=by simp[ad.e4]
  have a0:(wr.cell? ⟨w.heap.size,q,none⟩)=some (.int .i64 ((ad.cG ((aa.zip ld).take k) (List.replicate r 0))[q]'(by omega))):=by
   rw[i.cell];simp[ints,ak,show q<r by omega]
  have E:=qQ (qZ (x.setCell (p:=⟨w.heap.size,q,none⟩) (qX _) (.int .i64 y)) (i.bs q (.int .i64 y)));rw[ints_set,<-I.q]at E;clear aO bz g1 g2 x i;go_wp2_with fail;go_roundw
  case rel=>exact⟨k+1,by go_num,by omega,E.q.1,E.q.2⟩
  case measure=>simp[intOf];omega
 obtain rfl:k=n:=by omega
 have e:(aa.zip ld).take k=aa.zip ld:=by rw[qT];have:=O.q.1;rw[kL];omega
 rw[e]at i;clear e;obtain⟨aI,a7⟩:∃aI:World,aI=wr:=⟨_,rfl⟩;subst a7;have aK:=qQ x;have aN:=qQ i;clear x i;go_wp2_with fail;go_loopw [14,15,35] (λ_ _ N wr=>∃k:Nat,N=.int .i64 (k:Int)/\k<=m/\Below w.heap.size w wr/\av wr w.heap.size 3 (ints (ad.cG ((j.zip D).take k) (ad.cG (aa.zip ld) (List.replicate r 0)))).toArray) (λ_ _ N _=>m-(intOf N).toNat)
 case atStart=>exact⟨0,rfl,by omega,aK.q,aN.q⟩
 obtain⟨k,rfl,a2,x,i⟩:=hrel;by_cases a3:k<m
 .have M:k<j.length:=by have:=O.q.2.1;omega
  have Q:k<D.length:=by have:=O.q.2.2.2;have:=hle.2;omega
  have g2:=(Y.q wr x).2.2.2;have g1:=(Y.q wr x).2.2.1;obtain⟨aP,a8,rfl,aW,aO⟩:=g1 (by omega);have Z:=aO k M;obtain⟨aR,a9,rfl,aX,bz⟩:=g2 (by omega);have ag:=bz k Q;have ap:=aB.q.2 _ (qP M);have I:=qQ (al.sG (o:=(ad.cG (aa.zip ld) (List.replicate r 0))) M Q);generalize j[k]=X at Z ap I;generalize D[k]=y at ag I;obtain⟨q,rfl⟩:∃q:Nat,X=(q:Int):=⟨X.toNat,by omega⟩;rw[xY]at I;have i1:=b2 k;have i2:(k:Int)<m:=by omega
  have i3:=b2 q;have i4:(q:Int)<r:=by omega
  have i5:(k:Int)<(LS:Int):=by have:=hle.2;omega
  have a1:=i.frozen q;have ak:(ad.cG ((j.zip D).take k) (ad.cG (aa.zip ld) (List.replicate r 0))).length=r:=by simp[ad.e4]
  have a0:(wr.cell? ⟨w.heap.size,q,none⟩)=some (.int .i64 ((ad.cG ((j.zip D).take k) (ad.cG (aa.zip ld) (List.replicate r 0)))[q]'(by omega))):=by
   rw[i.cell];simp[ints,ak,show q<r by omega]
  have E:=qQ (qZ (x.setCell (p:=⟨w.heap.size,q,none⟩) (qX _) (.int .i64 y)) (i.bs q (.int .i64 y)));rw[ints_set,<-I.q]at E;clear aO bz g1 g2 x i;go_wp2_with fail;go_roundw
  case rel=>exact⟨k+1,by go_num,by omega,E.q.1,E.q.2⟩
  case measure=>simp[intOf];omega
 obtain rfl:k=m:=by omega
 have e:(j.zip D).take k=j.zip D:=by rw[qT];have:=O.q.2.1;rw[kL];omega
 rw[e]at i;clear e;have E:=qQ (qZ x i);clear x i;go_wp2_with fail;go_ret;exact⟨rfl,E.q.2,E.q.1⟩
end Go.Proofs.YtabmnaaidfpmcaaGreatDoor
end
