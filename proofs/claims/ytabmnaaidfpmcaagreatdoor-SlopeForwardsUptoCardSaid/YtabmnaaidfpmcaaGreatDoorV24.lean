/-
  Walks. Conditions: as named.
-/
import Derived.Test.YtabmnaaidfpmcaaGreatDoorV23
import Derived.Lib.SmallJoins
import Derived.Deep.Slices
import Derived.Deep.Fields
import Derived.ChangeSame
import Derived.OpenShut
import Derived.Deep.DeepHandedRow
import Derived.Lib.LaidTab
import Derived.Test.YtabmnaaidfpmcaaGreatDoorCards
import Derived.Test.YtabmnaaidfpmcaaGreatDoorTie
set_option maxRecDepth 100000
set_option maxHeartbeats 16000000
open Go.Proofs.Tryz
variable {cs:List Go.Value}{base fuel:Nat}{v:Go.Value}
section
namespace Go.Proofs.YtabmnaaidfpmcaaGreatDoor
open Go.RowKit aS Go.WideShapes Go.ChangeShapes Go.Deep
namespace rn
theorem Fh{H:Type} : ∀d:DataW H,1<=Rows.uptoBulk d
 | .lit l=>by cases l<;>simp[Rows.uptoBulk]
 | .nil=>by simp[Rows.uptoBulk]
 | .ptr d=>by simp[Rows.uptoBulk]
 | .slice a b=>by simp[Rows.uptoBulk]
 | .agg l=>by simp[Rows.uptoBulk]
 | .iface _ d=>by simp[Rows.uptoBulk]
 | .map l=>by simp[Rows.uptoBulk]
 | .held _=>by simp[Rows.uptoBulk]
theorem ky{H:Type} : ∀l:List (DataW H),l.length<=Rows.uptoBulkAll l
 | []=>by simp
 | d::l=>by
  have i:=Fh d;have j:=ky l;simp only[Rows.uptoBulkAll,qH];omega
theorem my{H:Type} : ∀{l:List (DataW H)} {d:DataW H},d∈l->Rows.uptoBulk d<=Rows.uptoBulkAll l
 | [],_,h=>by cases h
 | x::l,d,h=>by
  simp only[Rows.uptoBulkAll];rcases List.mem_cons.1 h with e | e
  .subst e;omega
  have:=my e;omega
theorem ia{H:Type}{l:List (DataW H)}{d:DataW H}(h:d∈l):Rows.uptoBulk d<=Rows.uptoBulk (.agg l):=by
 have:=my h;simp only[Rows.uptoBulk];omega
theorem Fa{H:Type}{l m:List (DataW H)}{d:DataW H}(h:d∈l):Rows.uptoBulk d<=Rows.uptoBulk (.slice l m):=by
 have:=my h;simp only[Rows.uptoBulk];omega
theorem wy{H:Type}(l m:List (DataW H)):l.length<=Rows.uptoBulk (.slice l m):=by
 have:=ky l;simp only[Rows.uptoBulk];omega
end rn
theorem Tryz.H2:Tryz.prog.cellsOf 3=1:=by kernel_rfl
theorem Tryz.va:Tryz.prog.cellsOf 60=8:=by kernel_rfl
theorem Tryz.H3:Tryz.prog.cellsOf 58=7:=by kernel_rfl
theorem Tryz.FL:Tryz.prog.cellsOf 2=1:=by kernel_rfl
theorem Tryz.yf:Tryz.prog.cellsOf 68=2:=by kernel_rfl
section
variable {H:Type} {enc:TypeId × Value->H} {w:World}
theorem Op.head{a:Addr}(h:w.cell? (a.add 0)=some v):∃b off,a=⟨b,off,none⟩/\b<w.heap.size:=by
 obtain⟨b,off,spot⟩:=a;have i:=World.block_lt_of_cell? w _ h;have j:((⟨b,off,spot⟩:Addr).add 0)=⟨b,off,spot⟩:=by simp[Addr.add]
 rw[j]at h i;have m:spot=none:=by
  cases spot with
  | none=>rfl
  | some s=>simp[World.cell?]at h;split at h<;>simp_all
 subst m;exact⟨b,off,rfl,i⟩
theorem Op.wf{n:Int}(h:(Lit.int .i64 n).wf=true):aY.In64 n:=by
 simp only[Lit.wf,qB,xZ]at h;have i:IntKind.i64.min=-9223372036854775808:=by decide
 have j:IntKind.i64.max=9223372036854775807:=by decide
 rw[i,j]at h;exact⟨h.1,h.2⟩
theorem Op.Kq{ts L2:TypeId}(X:Tryz.prog.underlying ts=some (.slice L2))(W:Tryz.prog.underlying L2=some (.int .i64))(M:Tryz.prog.cellsOf L2=1){x:DataW H × List MemPlace}(N:DataW.trod enc Tryz.prog w 0 (λ_=>true) true fuel ts [v]=some x):∃L,af.aN w w.heap.size v L/\L.length<=Rows.uptoBulk x.1/\∀n∈L,aY.In64 n:=by
 rcases open_slice1 X M N with ⟨r,y⟩ | ⟨a,len,cap,m,n,V,D,Y,r,_,O,hm,S,y,I⟩
 .simp at r;subst r;exact⟨[],⟨none,0,rfl,λh=>by simp at h,by simp,by omega⟩,by simp,λn h=>by cases h⟩
 simp at r;subst r;have Z:len<=m:=by rw[S];split<;>omega
 have q:∀i:Nat,∃z:Int,i<len->w.cell? (a.add i)=some (.int .i64 z)/\aY.In64 z:=λi=>by
  by_cases hi:i<len
  .obtain⟨B,E⟩:=I i (by omega);obtain⟨z,q,_,hw⟩:=pG W E;simp only[zT,xD]at q;exact⟨z,λ_=>⟨by rw[B,q],Op.wf hw⟩⟩
  exact⟨0,λh=>absurd h hi⟩
 refine⟨(List.range len).map λi=>(q i).choose,⟨some a,cap,by simp,λhp=>?_,by simpa using O,by unfold maxLen at hm;omega⟩,?_,λn U=>?_⟩
 .simp at hp;obtain⟨b,off,rfl,Q⟩:=Op.head ((q 0).choose_spec hp).1;refine⟨b,off,rfl,Q,λi hi=>?_⟩;simp at hi;have:=((q i).choose_spec hi).1;have e:w.cell? ((⟨b,off,none⟩:Addr).add i)=w.cell? ⟨b,off+i,none⟩:=by rw[jW]
  refine(e.symm.trans this).trans ?_;simp
 .rw[y];have:=rn.wy ((List.range len).map D) ((List.range (m-len)).map λj=>D (len+j));simpa using this
 obtain⟨i,hi,rfl⟩:=List.mem_map.1 U;exact((q i).choose_spec (List.mem_range.1 hi)).2
theorem Op.ints{x:DataW H × List MemPlace}(i:DataW.trod enc Tryz.prog w 0 (λ_=>true) true fuel 23 [v]=some x):∃L,af.aN w w.heap.size v L/\L.length<=Rows.uptoBulk x.1/\∀n∈L,aY.In64 n:=Op.Kq underlying23 underlying3 Tryz.H2 i
theorem Op.o{x:DataW H × List MemPlace}(Y:DataW.trod enc Tryz.prog w 0 (λ_=>true) true fuel 58 cs=some x):∃(y:J.Op) (v1 v2 v3 v4 v5:Value),cs=[.int .i64 y.k,v1,v2,v3,v4,v5,.int .i64 y.v]/\af.aN w w.heap.size v1 y.I/\af.aN w w.heap.size v2 y.a/\af.aN w w.heap.size v3 y.l/\af.aN w w.heap.size v4 y.h/\af.aN w w.heap.size v5 y.s/\y.I.length<=Rows.uptoBulk x.1/\y.a.length<=Rows.uptoBulk x.1/\y.l.length<=Rows.uptoBulk x.1/\y.h.length<=Rows.uptoBulk x.1/\y.s.length<=Rows.uptoBulk x.1/\(aY.In64 y.k/\aY.In64 y.v/\(∀n∈y.I,aY.In64 n)/\(∀n∈y.a,aY.In64 n)/\(∀n∈y.l,aY.In64 n)/\(∀n∈y.h,aY.In64 n)/\∀n∈y.s,aY.In64 n):=by
 obtain⟨xs,n,_,rfl,q,hlen,i⟩:=pX underlying58 Y;rw[Tryz.H3]at q
 match cs,q with
 | [u0,u1,u2,u3,u4,u5,u6],_ =>
 match xs,hlen with
 | [aE,aF,b',ca,cl,ct,c3],_ =>
  have O:=i 0 _ rfl;have Q:=i 1 _ rfl;have S:=i 2 _ rfl;have U:=i 3 _ rfl;have V:=i 4 _ rfl;have W:=i 5 _ rfl;have X:=i 6 _ rfl;have Z:DataW.trod enc Tryz.prog w 0 (λ_=>true) true n 3 [u0]=some aE:=O;have ag:DataW.trod enc Tryz.prog w 0 (λ_=>true) true n 23 [u1]=some aF:=Q;have ah:DataW.trod enc Tryz.prog w 0 (λ_=>true) true n 23 [u2]=some b':=S;have ak:DataW.trod enc Tryz.prog w 0 (λ_=>true) true n 23 [u3]=some ca:=U;have ao:DataW.trod enc Tryz.prog w 0 (λ_=>true) true n 23 [u4]=some cl:=V;have ap:DataW.trod enc Tryz.prog w 0 (λ_=>true) true n 23 [u5]=some ct:=W;have aq:DataW.trod enc Tryz.prog w 0 (λ_=>true) true n 2 [u6]=some c3:=X;obtain⟨m0,j,_,f0⟩:=pG underlying3 Z;obtain⟨m6,m,_,f6⟩:=pG underlying2 aq;simp only[zT,xD]at j m;subst j m;obtain⟨j0,s1,M,bJ⟩:=Op.ints ag;obtain⟨r,s2,N,bn⟩:=Op.ints ah;obtain⟨B,aB,bA,av⟩:=Op.ints ak;obtain⟨D,aC,cq,az⟩:=Op.ints ao;obtain⟨E,aD,eC,aA⟩:=Op.ints ap;exact⟨⟨m0,j0,r,B,D,E,m6⟩,u1,u2,u3,u4,u5,rfl,s1,s2,aB,aC,aD,qJ M (rn.ia (by simp)),qJ N (rn.ia (by simp)),qJ bA (rn.ia (by simp)),qJ cq (rn.ia (by simp)),qJ eC (rn.ia (by simp)),Op.wf f0,Op.wf f6,bJ,bn,av,az,aA⟩
theorem Op.node{x:DataW H × List MemPlace}(E:DataW.trod enc Tryz.prog w 0 (λ_=>true) true fuel 60 cs=some x)(i:Rows.uptoBulk x.1<=1048576):∃(y:J.Node) (v1 v2 v3 v4 v5 v6:Value),cs=[.int .i64 y.o.k,v1,v2,v3,v4,v5,.int .i64 y.o.v,v6]/\(af.aN w w.heap.size v1 y.o.I/\af.aN w w.heap.size v2 y.o.a/\af.aN w w.heap.size v3 y.o.l/\af.aN w w.heap.size v4 y.o.h/\af.aN w w.heap.size v5 y.o.s/\af.aN w w.heap.size v6 y.a)/\(af.cJ y.o/\y.a.length<=4194304)/\au.np y.o:=by
 obtain⟨xs,n,_,rfl,m,hlen,j⟩:=pX underlying60 E;rw[Tryz.va]at m
 match cs,m with
 | [u0,u1,u2,u3,u4,u5,u6,u7],_ =>
 match xs,hlen with
 | [q,r],_ =>
  have B:=j 0 _ rfl;have D:=j 1 _ rfl;have M:DataW.trod enc Tryz.prog w 0 (λ_=>true) true n 58 [u0,u1,u2,u3,u4,u5,u6]=some q:=B;have N:DataW.trod enc Tryz.prog w 0 (λ_=>true) true n 23 [u7]=some r:=D;obtain⟨y,v1,v2,v3,v4,v5,e,s1,s2,U,V,W,Y,Z,bA,cq,eC,f0,f6,bJ,bn,O,Q,S⟩:=Op.o M;obtain⟨L,X,e2,_⟩:=Op.ints N;simp only[zT,xD]at e;obtain⟨rfl,rfl,rfl,rfl,rfl,rfl,rfl⟩:=e;have bT:Rows.uptoBulk q.1<=1048576:=qJ (rn.ia (by simp)) i;have aO:Rows.uptoBulk r.1<=1048576:=qJ (rn.ia (by simp)) i;exact⟨⟨y,L⟩,u1,u2,u3,u4,u5,u7,rfl,⟨s1,s2,U,V,W,X⟩,⟨⟨by show y.I.length<=_;omega,by show y.l.length<=_;omega,by show y.a.length<=_;omega,by show y.h.length<=_;omega,by show y.s.length<=_;omega⟩,by show L.length<=_;omega⟩,f0,f6,⟨by show y.I.length<=_;omega,bJ⟩,⟨by show y.a.length<=_;omega,bn⟩,⟨by show y.l.length<=_;omega,O⟩,⟨by show y.h.length<=_;omega,Q⟩,⟨by show y.s.length<=_;omega,S⟩⟩
theorem Op.graph{d:DataW H}{ps:List MemPlace}(av:Value.okWide Tryz.prog w .any base 25 v)(h:DataW.Trod enc Tryz.prog w 0 (λ_=>true) true 25 v d ps)(Q:Rows.uptoBulk d<=1048576):∃g,b4.cx w w.heap.size v g/\b4.fE g/\(∀x∈g.n,au.np x.o)/\g.o.length<=1048576:=by
 obtain⟨v0,v1,U,aB,n,rfl,rfl,_,W,X⟩:=Joins.open_agg2 underlying25 (by kernel_rfl) (by kernel_rfl) av h;have az:DataW.trod enc Tryz.prog w 0 (λ_=>true) true n 22 [v0]=some U:=W;have aA:DataW.trod enc Tryz.prog w 0 (λ_=>true) true n 23 [v1]=some aB:=X;obtain⟨L,S,sc,_⟩:=Op.ints aA;have bT:Rows.uptoBulk U.1<=1048576:=qJ (rn.ia (by simp)) Q;have N:L.length<=1048576:=qJ (qJ sc (rn.ia (by simp))) Q;rcases open_slice underlying22 az with ⟨B,_⟩ | ⟨a,len,cap,m,n',D,aC,B,_,ao,hm,aq,q,ah⟩
 .simp at B;subst B;exact⟨⟨[],L⟩,⟨none,0,v1,rfl,λh=>by simp at h,qX _,by omega,S⟩,λx q=>(by cases q),λx q=>(by cases q),N⟩
 simp at B;subst B;have aF:len<=m:=by rw[aq];split<;>omega
 have r:∀i:Nat,∃y:J.Node,i<len->∃v1 v2 v3 v4 v5 v6,(∀j u,[Value.int .i64 y.o.k,v1,v2,v3,v4,v5,.int .i64 y.o.v,v6][j]?=some u->w.cell? (a.add (i*8+j))=some u) /\
     (af.aN w w.heap.size v1 y.o.I/\af.aN w w.heap.size v2 y.o.a/\af.aN w w.heap.size v3 y.o.l/\af.aN w w.heap.size v4 y.o.h/\af.aN w w.heap.size v5 y.o.s/\af.aN w w.heap.size v6 y.a)/\(af.cJ y.o/\y.a.length<=4194304)/\au.np y.o:=λi=>by
  by_cases hi:i<len
  .obtain⟨aD,O,Y⟩:=ah i (by omega);rw[Tryz.va]at O;obtain⟨_,aE,Z⟩:=World.cells?_some O;have ag:Rows.uptoBulk (D i)<=1048576:=by
    rw[q]at bT;exact qJ (rn.Fa (List.mem_map.2 ⟨i,List.mem_range.2 hi,rfl⟩)) bT
   obtain⟨y,v1,v2,v3,v4,v5,v6,e,s,E,M⟩:=Op.node Y ag;refine⟨y,λ_=>⟨v1,v2,v3,v4,v5,v6,λj u hu=>?_,s,E,M⟩⟩;have ak:j<8:=by have:=(List.getElem?_eq_some_iff.1 hu).1;simpa using this
   have:=Z j ak;rw[e]at this;rw[<-Go.Deep.add_add];exact this.trans hu
  exact⟨⟨⟨0,[],[],[],[],[],0⟩,[]⟩,λh=>absurd h hi⟩
 refine⟨⟨(List.range len).map λi=>(r i).choose,L⟩,⟨some a,cap,v1,by simp,λhp=>?_,by simpa using ao,by unfold maxLen at hm;omega,S⟩,λx q=>?_,λx q=>?_,N⟩
 .simp at hp;obtain⟨_,_,_,_,_,_,g0,_⟩:=(r 0).choose_spec hp;have V:=g0 0 _ rfl;obtain⟨b,off,rfl,ap⟩:=Op.head (by simpa using V);refine⟨b,off,rfl,ap,λi hi=>?_⟩;simp at hi;obtain⟨v1,v2,v3,v4,v5,v6,g,s,_⟩:=(r i).choose_spec hi;have e:((List.range len).map λi=>(r i).choose)[i]'(by simpa using hi)=(r i).choose:=by simp
  rw[e];have c:∀j u,[Value.int .i64 (r i).choose.o.k,v1,v2,v3,v4,v5,.int .i64 (r i).choose.o.v,v6][j]?=some u->w.cell? ⟨b,off+i*8+j,none⟩=some u:=λj u hu=>by
   have:=g j u hu;rw[jW]at this;rw[kZ];exact this
  exact⟨v1,v2,v3,v4,v5,v6,⟨by have:=c 0 _ rfl;simpa using this,c 1 _ rfl,c 2 _ rfl,c 3 _ rfl,c 4 _ rfl,c 5 _ rfl,c 6 _ rfl,c 7 _ rfl⟩,s⟩
 .obtain⟨i,hi,rfl⟩:=List.mem_map.1 q;obtain⟨_,_,_,_,_,_,_,_,E,_⟩:=(r i).choose_spec (List.mem_range.1 hi);exact E
 obtain⟨i,hi,rfl⟩:=List.mem_map.1 q;obtain⟨_,_,_,_,_,_,_,_,_,M⟩:=(r i).choose_spec (List.mem_range.1 hi);exact M
theorem Op.arr{x:DataW H × List MemPlace}(q:DataW.trod enc Tryz.prog w 0 (λ_=>true) true fuel 68 cs=some x):∃(y:ad.ay) (v1 v2:Value),cs=[v1,v2]/\af.aN w w.heap.size v1 y.I/\af.aN w w.heap.size v2 y.e/\∀n∈y.e,aY.In64 n:=by
 obtain⟨xs,n,_,rfl,j,hlen,i⟩:=pX underlying68 q;rw[Tryz.yf]at j
 match cs,j with
 | [u0,u1],_ =>
 match xs,hlen with
 | [D,E],_ =>
  have r:DataW.trod enc Tryz.prog w 0 (λ_=>true) true n 23 [u0]=some D:=i 0 _ rfl;have B:DataW.trod enc Tryz.prog w 0 (λ_=>true) true n 66 [u1]=some E:=i 1 _ rfl;obtain⟨j0,s1,_,_⟩:=Op.ints r;obtain⟨m,s2,_,bn⟩:=Op.Kq underlying66 underlying2 Tryz.FL B;exact⟨⟨j0,m⟩,u0,u1,rfl,s1,s2,bn⟩
theorem Op.hE{d:DataW H}{ps:List MemPlace}(ao:Value.okWide Tryz.prog w .any base 26 v)(h:DataW.Trod enc Tryz.prog w 0 (λ_=>true) true 26 v d ps):∃A l c,v=.slice A l.length c/\al.bo w w.heap.size A l/\l.length<=Rows.uptoBulk d/\∀a∈l,∀n∈a.e,aY.In64 n:=by
 obtain⟨a0,q,V,rfl⟩:=okWide_slice underlying26 ao;obtain⟨fuel,ag⟩:=h;rcases open_slice underlying26 ag with ⟨B,E⟩ | ⟨a,len,cap,m,n',D,ap,B,_,az,hm,ak,E,Z⟩
 .simp[Value.cells]at B;obtain⟨rfl,rfl,rfl⟩:=B;exact⟨none,[],0,rfl,λh=>by simp at h,by simp,λa h=>by cases h⟩
 simp[Value.cells]at B;obtain⟨rfl,rfl,rfl⟩:=B;have aA:q<=m:=by rw[ak];split<;>omega
 have r:∀i:Nat,∃y:ad.ay,i<q->∃v1 v2,w.cell? (a.add (i*2))=some v1/\w.cell? (a.add (i*2+1))=some v2/\af.aN w w.heap.size v1 y.I/\af.aN w w.heap.size v2 y.e/\∀n∈y.e,aY.In64 n:=λi=>by
  by_cases hi:i<q
  .obtain⟨aq,O,Y⟩:=Z i (by omega);rw[Tryz.yf]at O;obtain⟨_,av,Q⟩:=World.cells?_some O;obtain⟨y,v1,v2,e,s1,s2,bn⟩:=Op.arr Y;refine⟨y,λ_=>⟨v1,v2,?_,?_,s1,s2,bn⟩⟩
   .have:=Q 0 (by omega);rw[e,Go.Deep.add_add]at this;exact this
   have:=Q 1 (by omega);rw[e,Go.Deep.add_add]at this;exact this
  exact⟨⟨[],[]⟩,λh=>absurd h hi⟩
 refine⟨some a,(List.range q).map λi=>(r i).choose,V,by simp,λhp=>?_,?_,λx E=>?_⟩
 .simp at hp;obtain⟨_,_,g0,_⟩:=(r 0).choose_spec hp;obtain⟨b,off,rfl,ah⟩:=Op.head (by simpa using g0);refine⟨b,off,rfl,ah,λi hi=>?_⟩;simp at hi;obtain⟨v1,v2,g1,g2,s1,s2,_⟩:=(r i).choose_spec hi;have e:((List.range q).map λi=>(r i).choose)[i]'(by simpa using hi)=(r i).choose:=by simp
  rw[e];obtain⟨M,aO,rfl,i1,cW,m1⟩:=s1;obtain⟨N,S,rfl,i2,cX,m2⟩:=s2;have W:w.cell? ((⟨b,off,none⟩:Addr).add (i*2))=w.cell? ⟨b,off+i*2,none⟩:=by rw[jW]
  have X:w.cell? ((⟨b,off,none⟩:Addr).add (i*2+1))=w.cell? ⟨b,off+i*2+1,none⟩:=by rw[jW,kZ]
  exact⟨M,aO,N,S,W.symm.trans g1,X.symm.trans g2,M,aO,N,S,rfl,i1,i2,⟨cW,m1⟩,cX,m2⟩
 .rw[(Prod.mk.inj E).1];have:=rn.wy ((List.range q).map D) ((List.range (m-q)).map λj=>D (q+j));simpa using this
 obtain⟨i,hi,rfl⟩:=List.mem_map.1 E;obtain⟨_,_,_,_,_,_,U⟩:=(r i).choose_spec (List.mem_range.1 hi);exact U
end
end Go.Proofs.YtabmnaaidfpmcaaGreatDoor
end
section
namespace aS
open Go Go.RowKit Go.WideShapes Go.ChangeShapes
theorem qd{P:Program}{x:String × DataW Unit}{rest:List (String × DataW Unit)}{W:World}(h:laidMet P (x::rest) W):laidMet P rest W:=by
 obtain⟨ps,r,j,i⟩:=h;obtain⟨y,I,cs,fuel,p,q,B,D,E,ar,m,rfl⟩:=r;exact⟨q,m,(List.nodup_append.1 j).2.1,λb off hm=>i b off (yM _ hm)⟩
section
variable {H:Type} {enc:TypeId × Value->H}
theorem EW{P:Program}{f:FuncId}{fn:Func}{t:ChangeSpec}{qy:TypeId}(E:laidOutB P=true)(r:t.vars=[])(M:fn.resultTypes=#[qy])(B:P.underlying qy=some .bool)(I:∀t∈fn.params.toList,P.readableRec t=true/\t<P.types.size)(az:∀ds:List (DataW H),ds.length=fn.params.toList.length->(t.fn H ds).results=[.lit (.bool true)]/\(t.fn H ds).args=ds/\(t.fn H ds).vars=[]){W:World}{args:Array Value}{ds gs:List (DataW H)}{before:List MemPlace}(i:DataW.Whole enc P fn.params.toList t.vars false W args.toList ds gs before)(walk:DataW.TrodAll enc P W 0 (λ_=>true) true fn.params.toList args.toList ds before->gs=[]->Calls P f args W λe bg=>e=.returned (.bool true)/\Below W.heap.size W bg):Calls P f args W λe bg=>∃v,e=.returned v/\t.post enc P fn false true false false W args v bg:=by
 have y:=i;rw[r]at i;obtain⟨p,q,x,j,m,N,O⟩:=i;obtain⟨rfl,rfl⟩:gs=[]/\q=[]:=by
  cases gs with
  | nil=>exact⟨rfl,j⟩
  | cons g gs=>exact j.elim
 rw[xM]at m;subst m;refine(walk x rfl).mono λe bg ⟨he,D⟩=>?_
 exact⟨_,he,AW E r M B I az y D⟩
end
end aS
namespace Go.Proofs.YtabmnaaidfpmcaaGreatDoor
open Go.RowKit aS Go.WideShapes Go.ChangeShapes Go.ChangeAt
theorem laidOut:laidOutB Tryz.prog=true:=by kernel_rfl
theorem Iy:ownKnob Tryz.prog.godebug=none:=by kernel_rfl
theorem aY.KF{W:World}(h:laidMetH Tryz.prog Rows.slopeForwardsUptoRow.laid W):aY.gI W.heap.size W:=by
 have i:laidMet Tryz.prog Rows.slopeForwardsUptoRow.laid W:=h;exact Lib.tabBelow_of_tabIs (Lib.tabIs_of_head (g:=0) (t:=208) (e:=179) (n:=20) (rest:=[]) (by kernel_rfl) (by kernel_rfl) underlying208 underlying179 (by kernel_rfl) (by kernel_rfl) (qd (qd i)))
def Kr:DataW Unit->Array Value
 | .agg l=>(l.map fun
  | .lit (.int k n)=>.int k n
  | _=>undef).toArray
 | _=>#[]
def Ag(g:Nat)(d:DataW Unit)(h:Array Obj):Array Obj:=h.modify g fun
 | .cells _ t frozen=>.cells (Kr d) t frozen
 | o=>o
noncomputable def qe(os:Os)(args:Array Value):World :=
 { World.holding Tryz.prog os ⟨#[],args,[]⟩with heap:=Ag 0 Rows.laid_internal_strconv_uint64pow10 (Ag 2 Rows.laid_math_bits_deBruijn64tab (Ag 1 Rows.laid_math_bits_deBruijn32tab (World.holding Tryz.prog os ⟨#[],args,[]⟩).heap)) }
end Go.Proofs.YtabmnaaidfpmcaaGreatDoor
end
