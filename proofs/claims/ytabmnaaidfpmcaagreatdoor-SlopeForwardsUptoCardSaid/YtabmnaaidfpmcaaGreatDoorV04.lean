/-
  FwdMain, FwdShort, ViewA, ViewC, ViewD, ViewOwn, ViewF, StillTailIn, ViewG0, ViewI, ViewJ. Conditions: where the theorems name them.
-/
import Derived.Test.YtabmnaaidfpmcaaGreatDoorV03
import Derived.Test.YtabmnaaidfpmcaaGreatDoorRows
import Derived.OwnWalk
import Derived.Maps.AppendAt
import Derived.Deep.AppendLies
import Derived.Deep.RegionHeld3
import Derived.RangeFuncNested
import Derived.RangeFuncBound
import Derived.RangeFuncCalls
import Derived.RangeFuncLeaves
import Derived.RangeFuncBox
import Derived.Shelf.Abstract
import Derived.Shelf.RegionOpen
import Derived.OwnWalkIn
import Derived.TacticsInMore
import Derived.LoopNIn
import Derived.LoopIn
import Derived.StillTailTactics
import Derived.OrdersIn
import Derived.TacticsIn
import Derived.Laws.Sem
import Derived.Laws.MakeOwn
set_option linter.unusedVariables false
set_option maxRecDepth 100000
set_option maxHeartbeats 16000000
open Go.Proofs.Tryz
variable {d l:List Int}{xs:List Go.Value}{Bs N b base c k n:Nat}{A:Option Go.Addr}{bm:Prop}{e:Go.TypeId}{v:Go.Value}{ag w w':Go.World}
section
namespace ae
open J (Op Node bh)
open ad (ay nth aX a6 cO dv)
open R (size)
theorem eY(N:List Node)(op:Op)(l:List Int):(add N op l).1.length<=N.length+1:=by
 unfold add;split<;>simp
theorem gT(N:List Node)(a:Int)(d:List Int):(full N a d).1.length<=N.length+1:=by
 unfold full cA;split
 .exact eY _ _ _
 simp
theorem wq(N:List Node)(a b:Int):(plus N a b).1.length<=N.length+1:=by
 unfold plus;split
 .simp
 split
 .simp
 exact eY _ _ _
theorem rK(N:List Node)(c a b:Int)(d:List Int):(choice N c a b d).1.length<=N.length+3:=by
 unfold choice;split
 .simp
 have i:=gT N a d;have j:=gT (full N a d).1 b d;have m:=eY (full (full N a d).1 b d).1 (bH 8) [c,(full N a d).2,(full (full N a d).1 b d).2];omega
theorem oL(dg:List (List Int)):∀(ss l:List Int) (N:List Node),(cz dg N ss l).1.length<=N.length+l.length
 | [],l,N=>by cases l<;>(show N.length<=_;omega)
 | s::ss,[],N=>by show N.length<=_;omega
 | s::ss,a::l,N=>by
  show(cz dg (full N s (dg.getD a.toNat [])).1 ss l).1.length<=_;have i:=oL dg ss l (full N s (dg.getD a.toNat [])).1;have j:=gT N s (dg.getD a.toNat []);rw[qH];omega
theorem EY(N:List Node)(op:Op)(v s:List Int):(dn N op v s).1.length<=N.length+3:=by
 unfold dn;dsimp only;obtain⟨p,hp⟩:=gz ((if s.getD 0 0<0 then(N,-1)else add N op [s.getD 0 0,v.getD 1 0]));rw[hp];obtain⟨q,hq⟩:=gz ((if s.getD 1 0<0 then(p.1,-1)else add p.1 op [v.getD 0 0,s.getD 1 0]));rw[hq];have i:p.1.length<=N.length+1:=by
  rw[<-hp];split
  .simp
  exact eY _ _ _
 have j:q.1.length<=p.1.length+1:=by
  rw[<-hq];split
  .simp
  exact eY _ _ _
 have m:=wq q.1 p.2 q.2;omega
theorem tN(dg:List (List Int))(N:List Node)(x:Node)(v s d:List Int):(bO dg N x v s d).1.length<=N.length+4+x.a.length:=by
 unfold bO;by_cases m:x.o.k=2\/x.o.k=7
 .rw[qY m];show N.length<=_;omega
 rw[qV m];by_cases q:x.o.k=3
 .rw[qY q];have:=wq N (s.getD 0 0) (s.getD 1 0);omega
 rw[qV q];by_cases r:x.o.k=4
 .rw[qY r];split
  .show N.length<=_;omega
  have i:=gT N (s.getD 0 0) d;have j:=eY (full N (s.getD 0 0) d).1 x.o [(full N (s.getD 0 0) d).2,s.getD 1 0];omega
 rw[qV r];by_cases y:x.o.k=5\/x.o.k=16
 .rw[qY y];have:=EY N x.o v s;omega
 rw[qV y];by_cases B:x.o.k=6
 .rw[qY B];have i:=eY N (bH 7) [v.getD 0 0,v.getD 1 0];have j:=rK (add N (bH 7) [v.getD 0 0,v.getD 1 0]).1 (add N (bH 7) [v.getD 0 0,v.getD 1 0]).2 (s.getD 1 0) (s.getD 0 0) d;omega
 rw[qV B];by_cases D:x.o.k=8
 .rw[qY D];have:=rK N (v.getD 0 0) (s.getD 1 0) (s.getD 2 0) d;omega
 rw[qV D];by_cases E:x.o.k=18\/x.o.k=19
 .rw[qY E];split
  .show N.length<=_;omega
  have:=eY N x.o [s.getD 0 0,v.getD 1 0];omega
 rw[qV E];split
 .show N.length<=_;omega
 have i:=oL dg s x.a N;have j:=eY (cz dg N s x.a).1 x.o (cz dg N s x.a).2;omega
theorem lq(ps:Nat):∀(l:List Node) (i:Nat) (r:List Node × List Int),(b9 ps l i r).1.length<=r.1.length+l.length
 | [],i,r=>by show r.1.length<=_;simp
 | x::l,i,r=>by
  unfold b9;split
  .have:=lq ps l (i+1) (r.1,r.2++[(i:Int)]);rw[qH];dsimp only at this;omega
  have:=lq ps l (i+1) ((add r.1 x.o (pick r.2 x.a)).1,r.2++[(add r.1 x.o (pick r.2 x.a)).2]);have j:=eY r.1 x.o (pick r.2 x.a);rw[qH];dsimp only at this;omega
theorem r5(dg:List (List Int))(cp:List Int):∀(l:List Node) (i:Nat) (r:List Node × List Int),(dh dg cp l i r).1.length<=r.1.length+4*l.length+(l.map λx=>x.a.length).sum
 | [],i,r=>by show r.1.length<=_;simp
 | x::l,i,r=>by
  have:=r5 dg cp l (i+1) ((bO dg r.1 x (pick cp x.a) (pick r.2 x.a) (dg.getD i [])).1,r.2++[(bO dg r.1 x (pick cp x.a) (pick r.2 x.a) (dg.getD i [])).2]);have j:=tN dg r.1 x (pick cp x.a) (pick r.2 x.a) (dg.getD i []);dsimp only at this;show(dh dg cp l (i+1) _).1.length<=_;rw[qH,qE,List.sum_cons];omega
theorem wj(dg:List (List Int))(gB:List Int):∀(l:List Int) (r:List Node × List Int),(dy dg gB l r).1.length<=r.1.length+l.length
 | [],r=>by show r.1.length<=_;simp
 | o::l,r=>by
  have:=wj dg gB l ((full r.1 (gB.getD o.toNat 0) (dg.getD o.toNat [])).1,r.2++[(full r.1 (gB.getD o.toNat 0) (dg.getD o.toNat [])).2]);have i:=gT r.1 (gB.getD o.toNat 0) (dg.getD o.toNat []);dsimp only at this;show(dy dg gB l _).1.length<=_;rw[qH];omega
theorem G1(l:List Nat)(k:Nat):(l.drop k).sum<=l.sum:=by
 have h:l.sum=(l.take k).sum+(l.drop k).sum:=by rw[<-List.sum_append,jU]
 omega
theorem Gt{P:List ay}{N:List Node}{D:List (List Int)}(h:fQ P N D)(x:N.length<=4096){outs:List Int}(r:J.ahead N.length outs=true):J.params N=P.length/\J.look ⟨N,outs⟩=(D,0):=by
 have hp:J.params N=P.length:=J.nH N P.length (λj m q=>h.e_ j m q) (by
  by_cases e:P.length=N.length
  .exact .inl e
  have:=h.room;exact .inr ⟨by omega,h.rest _ (by omega) (qX _)⟩)
 refine⟨hp,?_⟩;have i:=h.l1.look;unfold J.look;dsimp only;rw[qV (by omega),hp,i];simp[r]
theorem pa{g:bh}{A bY:List ay}(m:Fits g A bY)(hm:h6 g<=512):∃(f:bh) (D:List (List Int)),forward g=(f,0)/\fQ (A++bY) f.n D/\J.look f=(D,0)/\J.params f.n=(A++bY).length/\J.ahead f.n.length f.o=true/\aR (A++bY) f.n f.o=(g.o.map λo=>nth (values A g.n) o.toNat)++g.o.map λo=>nth (hF bY (values A g.n) g.n []) o.toNat:=by
 obtain⟨s1,s2⟩:=EB m;obtain⟨X,aA,aB,aC,I⟩:=J.gX m.ok;have hp:=J.dO g.n;have hw:aF g=0:=by unfold aF;rw[qV (by simp[m.ok]),qV (by omega)]
 obtain⟨q,r⟩:=gz (e_ ((J.look g).1.take (J.params g.n)++(J.look g).1.take (J.params g.n)));rw[r]at s1 s2;have ao:q.length=J.params g.n+J.params g.n:=by
  rw[<-r,h7,qW,qM,X];omega
 obtain⟨N,m1,f1,cW,dm⟩:=n_ m g.n.length 0 q _ [] rfl (by omega) rfl s2 (λj h=>by simp at h);have M:=lq (J.params g.n) g.n 0 (q,[]);rw[vV]at m1 f1 cW dm;obtain⟨b,y⟩:=gz (b9 (J.params g.n) g.n 0 (q,[]));rw[y]at m1 f1 cW dm M;have W:nT (A++bY) b.1 (J.look g).1 ((List.range (J.params g.n)).map λi=>((J.params g.n+i:Nat):Int)) bY:=by
  refine⟨by simp[m.pn],λj U=>?_⟩;have V:j<J.params g.n:=by simpa using U
  have aq:(A++bY).length=J.params g.n+J.params g.n:=by rw[qW,m.ji,m.pn]
  have av:=m1.room;refine⟨?_,m.LM j V⟩;simp only[vC,wM];refine cg.some (by omega) ?_;rw[iu (by omega) (by omega),<-m.ji];exact mU
 obtain⟨dp,m2,f2,cX,qk⟩:=r4 m (g.n.length-J.params g.n) (J.params g.n) b.1 N b.2 _ bY rfl hp (qX _) (by simp) cW m1 dm W;have z2:=r5 (J.look g).1 b.2 (g.n.drop (J.params g.n)) (J.params g.n) (b.1,(List.range (J.params g.n)).map λi=>((J.params g.n+i:Nat):Int));obtain⟨c,B⟩:∃c,dh (J.look g).1 b.2 (g.n.drop (J.params g.n)) (J.params g.n) (b.1,(List.range (J.params g.n)).map λi=>((J.params g.n+i:Nat):Int))=c:=⟨_,rfl⟩;rw[B]at m2 f2 cX qk z2;have Q:hF bY (values A g.n) (g.n.drop (J.params g.n)) bY=hF bY (values A g.n) g.n []:=by
  rw[tM (J.params g.n) (by rw[m.pn];exact qX _) hp,<-m.pn,zS]
 rw[Q]at qk;obtain⟨Y,Z⟩:=(dm.later f2).pick (aa:=g.o) (by rw[cW];exact I);obtain⟨O,m3,f3,a3,v3⟩:=wi g.o c.1 dp (pick b.2 g.o) _ (by rw[cX];exact I) m2 qk Y Z;have z3:=wj (J.look g).1 c.2 g.o (c.1,pick b.2 g.o);obtain⟨o,E⟩:=gz (dy (J.look g).1 c.2 g.o (c.1,pick b.2 g.o));rw[E]at m3 f3 a3 v3 z3;have ap:g.n.length+g.o.length+(g.n.map λx=>x.a.length).sum<=512:=hm;have ak:((g.n.drop (J.params g.n)).map λx=>x.a.length).sum<=(g.n.map λx=>x.a.length).sum:=by
  rw[List.map_drop];exact G1 _ _
 have S:o.1.length<=4096:=by
  rw[qS]at z2;dsimp only at M z2 z3;omega
 obtain⟨ag,ah⟩:=Gt m3 S a3;refine⟨⟨o.1,o.2⟩,O,?_,m3,ah,ag,a3,v3⟩;unfold forward;rw[qV (by simp[hw])];dsimp only;rw[s1];dsimp only;rw[y];rw[B];rw[E]
end ae
end
section
namespace ae
open J (Op Node bh)
def e6(S:Node->Prop)(N:List Node):Prop:=∀x∈N,S x
structure Kind (S:Node->Prop) (T:List Int->Prop):Prop where
 p:∀d (z:Int),T d->S ⟨plain { bH 1 with I:=d,a:=[z] },[]⟩
 n:∀d,T d->S ⟨plain { bH 2 with I:=d },[]⟩
 o:∀k l,l.length<=3->S ⟨plain (bH k),l⟩
def HT(S:Node->Prop)(x:Node):Prop:=∀l:List Int,l.length<=3\/l.length<=x.a.length->S ⟨plain x.o,l⟩
section
variable {S:Node->Prop} {T:List Int->Prop} {N:List Node}
theorem fV{op:Op}{args:List Int}(h:e6 S N)(az:S ⟨plain op,args⟩):e6 S (add N op args).1:=by
 unfold add;split
 .exact h
 intro x j;rcases List.mem_append.1 j with i | i
 .exact h x i
 rw[List.mem_singleton.1 i];exact az
theorem mL(i:Kind S T)(h:e6 S N)(a:Int)(ar:T d):e6 S (full N a d).1:=by
 unfold full cA;split
 .exact fV h (i.n d ar)
 exact h
theorem zt(i:Kind S T)(h:e6 S N)(a b:Int):e6 S (plus N a b).1:=by
 unfold plus;split
 .exact h
 split
 .exact h
 exact fV h (i.o 3 _ (by simp))
theorem s6(i:Kind S T)(h:e6 S N)(c a b:Int)(ar:T d):e6 S (choice N c a b d).1:=by
 unfold choice;split
 .exact h
 exact fV (mL i (mL i h a ar) b ar) (i.o 8 _ (by simp))
theorem vt(j:Kind S T)(ds:List (List Int))(m:∀i,T (ds.getD i [])):∀(s aa:List Int) (N:List Node),e6 S N->e6 S (cz ds N s aa).1/\(cz ds N s aa).2.length<=aa.length
 | [],_,N,h=>⟨by unfold cz;exact h,by unfold cz;simp⟩
 | _::_,[],N,h=>⟨by unfold cz;exact h,by unfold cz;simp⟩
 | s::ss,a::aa,N,h=>by
  obtain⟨q,r⟩:=vt j ds m ss aa (full N s (ds.getD a.toNat [])).1 (mL j h s (m _));unfold cz;exact⟨q,by simp only[qH];omega⟩
theorem qq(j:Kind S T){ds:List (List Int)}(B:∀i,T (ds.getD i [])){x:Node}(m:HT S x){v s:List Int}(ar:T d)(h:e6 S N):e6 S (bO ds N x v s d).1:=by
 unfold bO;split
 .exact h
 split
 .exact zt j h _ _
 split
 .split
  .exact h
  exact fV (mL j h _ ar) (m _ (.inl (by simp)))
 split
 .unfold dn;dsimp only;obtain⟨p,hp⟩:=gz ((if s.getD 0 0<0 then(N,-1)else add N x.o [s.getD 0 0,v.getD 1 0]));rw[hp];obtain⟨q,hq⟩:=gz ((if s.getD 1 0<0 then(p.1,-1)else add p.1 x.o [v.getD 0 0,s.getD 1 0]));rw[hq];have r:e6 S p.1:=by
   rw[<-hp];split
   .exact h
   exact fV h (m _ (.inl (by simp)))
  have y:e6 S q.1:=by
   rw[<-hq];split
   .exact r
   exact fV r (m _ (.inl (by simp)))
  exact zt j y _ _
 split
 .exact s6 j (fV h (j.o 7 _ (by simp))) _ _ _ ar
 split
 .exact s6 j h _ _ _ ar
 split
 .split
  .exact h
  exact fV h (m _ (.inl (by simp)))
 split
 .exact h
 obtain⟨r,y⟩:=vt j ds B s x.a N h;exact fV r (m _ (.inr y))
theorem DK{g:bh}(ps:Nat)(j:∀x∈g.n,HT S x):e6 S (begun g ps):=by
 unfold begun;have key:∀(l:List Node) (N:List Node),(∀x∈l,HT S x)->e6 S N->e6 S (l.foldl (λN x=>(add N x.o []).1) N):=by
  intro l
  induction l with
  | nil=>exact λN _ h=>h
  | cons x l q=>exact λN i h=>q _ (λy m=>i y (zH _ m)) (fV h (i x zL _ (.inl (by simp))))
 exact key _ _ (λx h=>j x (xN h)) (λx h=>by cases h)
theorem rI(j:Kind S T){ds:List (List Int)}(m:∀i,T (ds.getD i [])):∀(k:Nat) (r:List Node × List Int),e6 S r.1->e6 S (changes ds k r).1
 | 0,r,h=>h
 | k+1,r,h=>fV (rI j m k r h) (j.p _ _ (m _))
theorem o1(ps:Nat):∀(l:List Node) (i:Nat) (r:List Node × List Int),(∀x∈l,HT S x)->e6 S r.1->e6 S (b9 ps l i r).1
 | [],_,r,_,h=>h
 | x::l,i,r,j,h=>by
  unfold b9;split
  .exact o1 ps l (i+1) _ (λy m=>j y (zH _ m)) h
  exact o1 ps l (i+1) _ (λy m=>j y (zH _ m)) (fV h (j x zL _ (.inr (by simp[pick]))))
theorem tO(m:Kind S T){ds:List (List Int)}(j:∀i,T (ds.getD i []))(cp:List Int):∀(l:List Node) (i:Nat) (r:List Node × List Int),(∀x∈l,HT S x)->e6 S r.1->e6 S (dh ds cp l i r).1
 | [],_,r,_,h=>h
 | x::l,i,r,B,h=>by
  unfold dh;exact tO m j cp l (i+1) _ (λy D=>B y (zH _ D)) (qq m j (B x zL) (j _) h)
theorem zj(j:Kind S T){ds:List (List Int)}(m:∀i,T (ds.getD i []))(gB:List Int):∀(l:List Int) (r:List Node × List Int),e6 S r.1->e6 S (dy ds gB l r).1
 | [],r,h=>h
 | o::l,r,h=>by
  unfold dy;exact zj j m gB l _ (mL j h _ (m _))
theorem AH(j:Kind S T){g:bh}(m:∀i,T ((J.look g).1.getD i []))(q:∀x∈g.n,HT S x):e6 S (forward g).1.n:=by
 unfold forward;split
 .exact λx h=>by cases h
 exact zj j m _ _ _ (tO j m _ _ _ _ (λx h=>q x (jN h)) (o1 _ _ _ _ q (rI j m _ _ (DK _ q))))
theorem zk(ds:List (List Int))(gB:List Int):∀(l:List Int) (r:List Node × List Int),(dy ds gB l r).2.length=r.2.length+l.length
 | [],r=>rfl
 | o::l,r=>by
  unfold dy;rw[zk ds gB l,qW,qH];simp only[qH,zM];omega
theorem yz{g:bh} : (forward g).1.o.length<=2*g.o.length:=by
 unfold forward;split
 .exact yX _
 show(dy _ _ _ _).2.length<=_;rw[zk];simp only[pick,zJ];omega
end
end ae
end
section
namespace Go.Proofs.YtabmnaaidfpmcaaGreatDoor
open Go.RowKit aS
namespace ai
def ao(w:World)(B:Nat)(A:Option Addr)(l:List Int):Prop :=
 0<l.length->∃b off,A=some ⟨b,off,none⟩/\b<B/\∀i (h:i<l.length),w.cell? ⟨b,off+i,none⟩=some (.int .i64 l[i])
theorem ao.below{B:Nat}(h:ao w B A l)(q:Below B w w'):ao w' B A l:=λhp=>by
 obtain⟨b,off,m,j,r⟩:=h hp;exact⟨b,off,m,j,λi hi=>(q.cell (p:=⟨b,off+i,none⟩) j).trans (r i hi)⟩
theorem ao.up{B B':Nat}(h:ao w B A l)(m:B<=B'):ao w B' A l:=λhp=>by
 obtain⟨b,off,i,q,j⟩:=h hp;exact⟨b,off,i,by omega,j⟩
theorem ao.bI{B:Nat}(h:ao w B A l)(ah:B<=w.heap.size)(W:World)(b:Below w.heap.size w W):ao W W.heap.size A l:=(h.below (b.mono ah)).up (qJ ah b.size)
def B8(i:Nat)(p:Int->Bool):Prop :=
 (∀(args:Array Value) (w:World),(callFunc i args).run Tryz.prog w=.ok (.enter i args) w)/\∀(x:Int) (w:World),Calls Tryz.prog i #[.int .i64 x] w λe w'=>e=.returned (.bool (p x))/\w=w'
def Found(p:Int->Bool)(l:List Int)(r:Int):Prop:=(0<=r↔l.any p=true)/\-1<=r
end ai
theorem rF{P:Program}{f:FuncId}{fn:Func}{c:Code}(m:P.funcs[f]?=some fn)(q:(fn.name == "runtime.NumGoroutine")=false)(j:fn.body=some c)(args:Array Value)(w:World):(callFunc f args).run P w=.ok (.enter f args) w:=by
 have i:fn.name ≠ "runtime.NumGoroutine" := by simpa using q
 simp[callFunc,m,i,j]
theorem _root_.ZG{G:Prop}(h:G:=by
 obtain rfl:k=l.length:=by omega
 go_wp2_with fail;go_ret;have:=sX.q;rw[zS]at this;exact⟨_,rfl,⟨⟨λh=>by omega,λh=>by rw[this]at h;cases h⟩,by omega⟩,rfl⟩
 ):G:=h
theorem _root_.XD{G:Prop}(h:G:=by
 go_wp2_with fail;go_ret;exact⟨_,rfl,⟨⟨λ_=>hN.q BG,λ_=>by omega⟩,by omega⟩,rfl⟩
 ):G:=h
theorem w9(D:Nat)(p:Int->Bool)(hp:ai.B8 D p)(A:Option Addr)(cap:Nat)(l:List Int)(B:Nat)(w:World)(Y:l.length<=9223372036854775807)(hm:ai.ao w B A l):Calls Tryz.prog 77 #[.slice A l.length cap,.func (.func D) #[] #[]] w λe w'=>∃r:Int,e=.returned (.int .i64 r)/\ai.Found p l r/\w=w':=by
 have U:=hp.1;have O:=qQ hp;have N:=qQ hm;clear hp hm;go_enter func77,ntmps77;go_wp2_with fail
 go_loop [5,8] (λ_ i=>∃k:Nat,k<=l.length/\i=.int .i64 (k:Int)/\(l.take k).any p=false) (λ_ i=>l.length+1-(intOf i).toNat)
 case atStart=>exact⟨0,by omega,rfl,by simp⟩
 obtain⟨k,X,rfl,I⟩:=hrel;have sX:=qQ I;clear I;by_cases m:k<l.length
 .obtain⟨b,off,rfl,S,E⟩:=N.q (by omega);have Q:=E k m;have V:=b2 k;have W:(k:Int)<(l.length:Int):=by omega
  clear E;obtain⟨j,y,hN⟩:=aK (O.q.2 l[k]) (R.iV l p k m) (λh=>R.lf (p:=p) m h);generalize l[k]=x at Q j y hN;by_cases BG:p x=true
  .go_wp2_with fail;refine(j.q _).mono ?_;rintro e ag ⟨rfl,rfl⟩;rw[BG];exact XD
  have M:p x=false:=by simpa using BG
  go_wp2_with fail;refine(j.q _).mono ?_;rintro e ag ⟨rfl,rfl⟩;rw[M];go_wp2_with fail
  go_round
  case rel=>exact⟨k+1,by omega,by go_num,by rw[y.q,sX.q,M];rfl⟩
  case measure=>simp[intOf];omega
 exact ZG
theorem mC(i:Nat)(p:Int->Bool)(hp:ai.B8 i p)(A:Option Addr)(cap:Nat)(l:List Int)(B:Nat)(w:World)(y:l.length<=9223372036854775807)(hm:ai.ao w B A l):Calls Tryz.prog 49 #[.slice A l.length cap,.func (.func i) #[] #[]] w λe w'=>e=.returned (.bool (l.any p))/\w=w':=by
 have m:=qQ (w9 i p hp A cap l B w y hm);clear hp hm;go_enter func49,ntmps49;go_wp2_with fail;refine m.q.mono ?_;rintro e ag ⟨r,rfl,j,rfl⟩;have x:=qQ j;have D:=j.2;clear j;go_wp2_with fail;go_ret;exact⟨oW (by rw[wX,qO];exact x.q.1),rfl⟩
theorem _root_.XU{G:Prop}(h:G:=by
 have H:=qQ h;clear h;go_enter func128,ntmps128;go_wp2;go_ret;exact⟨by rw[H.q];rfl,rfl⟩
 ):G:=h
theorem DE:ai.B8 128 R.bad:=by
 obtain⟨c,m⟩:∃c,Tryz.f128.body=some c:=⟨_,rfl⟩;refine⟨rF func128 (by kernel_rfl) m,λx w=>?_⟩;clear m c;by_cases i:x<0
 .have h:R.bad x=true:=by unfold R.bad;simp[i]
  exact XU
 by_cases j:4096<x
 .have h:R.bad x=true:=by unfold R.bad;simp[j]
  exact XU
 have h:R.bad x=false:=by unfold R.bad;simp[i,j]
 have H:=qQ h;clear h;go_enter func128,ntmps128;go_wp2;go_ret;exact⟨by rw[H.q];rfl,rfl⟩
theorem Dz(x:Int)(A:Option Addr)(cap:Nat)(l:List Int)(B:Nat)(w:World)(V:l.length<=9223372036854775807)(hm:ai.ao w B A l):Calls Tryz.prog 86 #[.slice A l.length cap,.int .i64 x] w λe w'=>∃r:Int,e=.returned (.int .i64 r)/\ai.Found (x == ·) l r/\w=w':=by
 have I:=qQ hm;clear hm;go_enter func86,ntmps86;go_wp2_with fail
 go_loop [5,8] (λ_ i=>∃k:Nat,k<=l.length/\i=.int .i64 (k:Int)/\(l.take k).any (x == ·)=false) (λ_ i=>l.length+1-(intOf i).toNat)
 case atStart=>exact⟨0,by omega,rfl,by simp⟩
 obtain⟨k,U,rfl,E⟩:=hrel;have sX:=qQ E;clear E;by_cases j:k<l.length
 .obtain⟨b,off,rfl,O,D⟩:=I.q (by omega);have M:=D k j;have Q:=b2 k;have S:(k:Int)<(l.length:Int):=by omega
  clear D;have m:=qQ (R.iV l (x == ·) k j);have hN:=qQ (λh=>R.lf (p:=(x == ·)) j h);generalize l[k]=y at M m hN;by_cases BG:(x == y)=true
  .exact XD
  have N:(x == y)=false:=by simpa using BG
  clear BG;go_wp2_with fail
  go_round
  case rel=>exact⟨k+1,by omega,by go_num,by rw[m.q,sX.q];simpa using N⟩
  case measure=>simp[intOf];omega
 exact ZG
theorem j3(x:Int)(A:Option Addr)(cap:Nat)(l:List Int)(B:Nat)(w:World)(E:l.length<=9223372036854775807)(hm:ai.ao w B A l):Calls Tryz.prog 116 #[.slice A l.length cap,.int .i64 x] w λe w'=>e=.returned (.bool (decide (x∈l)))/\w=w':=by
 have m:=qQ (Dz x A cap l B w E hm);clear hm;go_enter func116,ntmps116;go_wp2_with fail;refine m.q.mono ?_;rintro e ag ⟨r,rfl,i,rfl⟩;have D:=qQ i;have M:=i.2;clear i;go_wp2_with fail;go_ret;refine⟨oW ?_,rfl⟩;rw[wX,qO,qO,D.q.1,List.any_eq_true];constructor
 .rintro⟨y,I,j⟩;rw[yS]at j;exact j▸I
 intro h;exact⟨x,h,by simp⟩
theorem ai.qg(n d:Int)(j:0<=n)(m:n<=65537)(i:0<=d)(q:d<=4096):0<=n*d/\n*d<=268439552 :=
 ⟨jF j i,by have:=jO m q i (by omega);omega⟩
theorem _root_.Xe{G:Prop}(h:G:=by
 rintro(h | h)
 .exact .inl h
 .exact .inr h.symm
 ):G:=h
theorem ai.Fz(l:List Int)(k:Nat)(h:k<l.length):(0:Int)∈l.take (k+1)->(0:Int)∈l.take k\/l[k]=0:=by
 rw[R.cM l k h,vR,kS];exact Xe
theorem ai.Fy{m:List Int}{d n:Int}(h:(0:Int)∈m->(0:Int)∈l\/d=0)(i:(0:Int)∈l->n=0):(0:Int)∈m->n*d=0:=λhm=>by
 rcases h hm with h | h
 .rw[i h,pY]
 rw[h,pV]
theorem ai.mul_pos(n d:Int)(i:1<=n)(j:1<=d):1<=n*d:=by
 have:=jO i j (by omega) (by omega);omega
theorem ai.Ha(l:List Int)(k:Nat)(h:k<l.length):decide ((0:Int)∈l.take (k+1))=(decide ((0:Int)∈l.take k) || decide (l[k]=0)):=by
 rw[R.cM l k h,wX];simp only[vR,kS,pD,qO];constructor
 .exact Xe
 exact Xe
theorem ai.Ez(x:Int)(i:65536<x):Value.int .i64 (if 65537<x then 65537 else x)=.int .i64 65537:=by
 split
 .rfl
 rw[show x=65537 from by omega]
def ai.b5(l:List Int):Value:=.tuple #[.int .i64 (R.size l).1,.int .i64 (R.size l).2]
theorem _root_.Qt{G:Prop}(h:G:=by
 obtain rfl:k=l.length:=by omega
 have fa:=w8.q;rw[zS]at fa;have hB:=qQ (R.rk c2 sQ.q HO.q (by rw[<-fa];omega));have eQ:=qQ fa;clear fa;go_wp2_with fail
 go_ret2
 exact⟨by unfold ai.b5;rw[hB.q,<-eQ.q];rfl,rfl⟩
 ):G:=h
theorem _root_.Xy{G:Prop}(h:G:=by
 go_wp2_with fail
 go_ret2
 exact⟨by unfold ai.b5;rw[hB.q];rfl,rfl⟩
 ):G:=h
theorem er(A:Option Addr)(cap:Nat)(l:List Int)(B:Nat)(w:World)(ap:l.length<=9223372036854775807)(hm:ai.ao w B A l):Calls Tryz.prog 91 #[.slice A l.length cap] w λe w'=>e=.returned (ai.b5 l)/\w=w':=by
 by_cases c2:6<l.length
 .have hB:=qQ (R.qo c2);have az:(6:Int)<(l.length:Int):=by omega
  go_enter func91,ntmps91;exact Xy
 have az:¬(6:Int)<(l.length:Int):=by omega
 have N:=qQ (mC _ _ DE A cap l B w ap hm);by_cases I:l.any R.bad=true
 .have hB:=qQ (R.size_range c2 I);clear hm;go_enter func91,ntmps91;go_wp2_with fail;refine N.q.mono ?_;rintro e ag ⟨rfl,rfl⟩;rw[I];exact Xy
 have Q:l.any R.bad=false:=by simpa using I
 have Z:∀i (h:i<l.length),0<=l[i]/\l[i]<=4096:=λi hi=>R.lC.1 (by
  have:=List.any_eq_false.1 Q l[i] (qP hi);simpa using this)
 obtain⟨M,sQ,V,E⟩:=cV Z Q (λW h=>j3 0 A cap l B W ap h) hm;clear Z I Q hm;by_cases j:(0:Int)∈l
 .have hB:=qQ (R.lX c2 sQ.q j);have y:decide ((0:Int)∈l)=true:=by simpa using j
  have O:=qQ y;have HO:=qQ j;clear y j;go_enter func91,ntmps91;go_wp2_with fail;refine N.q.mono ?_;rintro e ag ⟨rfl,rfl⟩;rw[sQ.q];go_wp2_with fail
  go_loop [4,6,14] (λv _ i=>∃(k:Nat) (n:Int),k<=l.length/\i=.int .i64 (k:Int)/\v=.int .i64 n/\0<=n/\n<=65537/\((0:Int)∈l.take k->n=0)) (λ_ _ i=>l.length+1-(intOf i).toNat)
  case atStart=>exact⟨0,1,by omega,rfl,rfl,by omega,by omega,by simp⟩
  obtain⟨k,n,aD,rfl,rfl,U,aq,D⟩:=hrel;have w8:=qQ D;clear D;by_cases m:k<l.length
  .obtain⟨b,off,rfl,aA,x⟩:=E.q (by omega);have S:=x k m;have ar:=M.q k m;have aB:=b2 k;have aC:(k:Int)<(l.length:Int):=by omega
   clear x;have r:=qQ (ai.Fz l k m);generalize l[k]=d at S ar r;have hp:=ai.qg n d U aq ar.1 ar.2;have aG:=ar.1;have X:=qQ (ai.Fy r.q w8.q);by_cases ah:65536<n*d
   .go_wp2_with fail;refine(V.q _ E.q).mono ?_;rintro e ag ⟨rfl,rfl⟩;rw[O.q];go_wp2_with fail;exact⟨⟨k+1,65537,by omega,by go_num,by first | exact ai.Ez _ ah | rfl,by omega,by omega,λh=>by have:=X.q h;omega⟩,by simp[intOf];omega⟩
   go_wp2_with fail;exact⟨⟨k+1,n*d,by omega,by go_num,rfl,hp.1,by omega,X.q⟩,by simp[intOf];omega⟩
  obtain rfl:k=l.length:=by omega
  have fa:=w8.q (by rw[zS];exact HO.q);subst fa;exact Xy
 have y:decide ((0:Int)∈l)=false:=by simpa using j
 have O:=qQ y;have av:∀i (h:i<l.length),1<=l[i]:=λi hi=>by
  have:=M.q i hi;have aF:l[i]≠0:=λe=>j (e▸qP hi)
  omega
 have Y:=qQ av;have HO:=qQ j;clear y j av;go_enter func91,ntmps91;go_wp2_with fail;refine N.q.mono ?_;rintro e ag ⟨rfl,rfl⟩;rw[sQ.q];go_wp2_with fail
 go_loop [4,6,14] (λv _ i=>∃(k:Nat) (n:Int),k<=l.length/\i=.int .i64 (k:Int)/\v=.int .i64 n/\1<=n/\n<=65536/\n=R.prod (l.take k)) (λ_ _ i=>l.length+1-(intOf i).toNat)
 case atStart=>exact⟨0,1,by omega,rfl,rfl,by omega,by omega,by simp[R.prod]⟩
 obtain⟨k,n,aD,rfl,rfl,U,aq,D⟩:=hrel;have w8:=qQ D;clear D;by_cases m:k<l.length
 .obtain⟨b,off,rfl,aA,x⟩:=E.q (by omega);have S:=x k m;have ar:=M.q k m;have ak:=Y.q k m;have aB:=b2 k;have aC:(k:Int)<(l.length:Int):=by omega
  clear x;have r:=qQ (show R.prod (l.take (k+1))=R.prod (l.take k)*l[k] by rw[R.cM l k m,R.jy]);generalize l[k]=d at S ar ak r;have hp:=ai.qg n d (by omega) (by omega) ar.1 ar.2;have aE:=ai.mul_pos n d U ak;by_cases ah:65536<n*d
  .have hB:=qQ (R.qn c2 sQ.q HO.q (by
     have:=R.mW l (k+1) (λd ar=>by
      obtain⟨i,hi,rfl⟩:=zQ ar;exact Y.q i hi)
     rw[r.q,<-w8.q]at this;omega))
   go_wp2_with fail;refine(V.q _ E.q).mono ?_;rintro e ag ⟨rfl,rfl⟩;rw[O.q];exact Xy
  go_wp2_with fail;exact⟨⟨k+1,n*d,by omega,by go_num,rfl,aE,by omega,by rw[r.q,<-w8.q]⟩,by simp[intOf];omega⟩
 exact Qt
theorem dC(A:Option Addr)(cap:Nat)(l:List Int)(B:Nat)(w:World)(aD:l.length<=9223372036854775807)(hm:ai.ao w B A l):Calls Tryz.prog 44 #[.slice A l.length cap] w λe w'=>e=.returned (ai.b5 l)/\w=w':=by
 by_cases c2:6<l.length
 .have hB:=qQ (R.qo c2);have Z:(6:Int)<(l.length:Int):=by omega
  go_enter func44,ntmps44;exact Xy
 have Z:¬(6:Int)<(l.length:Int):=by omega
 have U:=qQ hm;clear hm;go_enter func44,ntmps44;go_wp2_with fail
 go_loop [4,6,15] (λv _ i=>∃k:Nat,k<=l.length/\i=.int .i64 (k:Int)/\v=.bool (decide ((0:Int)∈l.take k))/\(l.take k).any R.bad=false) (λ_ _ i=>l.length+1-(intOf i).toNat)
 case atStart=>exact⟨0,by omega,rfl,by simp,by simp⟩
 obtain⟨k,av,rfl,rfl,D⟩:=hrel;have I:=qQ D;clear D;by_cases j:k<l.length
 .obtain⟨b,off,rfl,ag,E⟩:=U.q (by omega);have Q:=E k j;have ap:=b2 k;have aq:(k:Int)<(l.length:Int):=by omega
  clear E;obtain⟨r,M,O⟩:=aK (ai.Ha l k j) (R.iV l R.bad k j) (λh=>R.size_range c2 (R.lf (p:=R.bad) j h));generalize l[k]=d at Q r M O;by_cases ah:d<0
  .have hB:=qQ (O.q (by unfold R.bad;simp[ah]));exact Xy
  by_cases ak:4096<d
  .have hB:=qQ (O.q (by unfold R.bad;simp[ak]));exact Xy
  have V:=qQ (show R.bad d=false from R.lC.2 (by omega));generalize X:decide ((0:Int)∈l.take k)=z at *;have Y:=qQ X;clear X;by_cases y:d=0
  .have hq:(d == 0)=true:=by simpa using y
   have N:=qQ y;clear y;go_wp2_with fail
   go_round
   case rel=>exact⟨k+1,by omega,by go_num,by rw[r.q,N.q];simp,by rw[M.q,I.q,V.q];rfl⟩
   case measure=>simp[intOf];omega
  have hq:(d == 0)=false:=by simpa using y
  have N:=qQ y;clear y;go_wp2_with fail
  go_round
  case rel=>exact⟨k+1,by omega,by go_num,by rw[r.q,<-Y.q];simp[N.q],by rw[M.q,I.q,V.q];rfl⟩
  case measure=>simp[intOf];omega
 obtain rfl:k=l.length:=by omega
 have D:=I.q;rw[zS]at D;have sQ:=qQ D;rw[zS];clear D I;by_cases x:(0:Int)∈l
 .have m:decide ((0:Int)∈l)=true:=by simpa using x
  have hB:=qQ (R.lX c2 sQ.q x);rw[m];clear m x;exact Xy
 have m:decide ((0:Int)∈l)=false:=by simpa using x
 rw[m];have W:∀i (h:i<l.length),1<=l[i]/\l[i]<=4096:=λi hi=>by
  have:=R.lC.1 (by
   have:=List.any_eq_false.1 sQ.q l[i] (qP hi);simpa using this)
  have aB:l[i]≠0:=λe=>x (e▸qP hi)
  omega
 have S:=qQ W;have HO:=qQ x;clear m x W;go_wp2_with fail
 go_loop [7,9,31] (λv _ i=>∃(k:Nat) (n:Int),k<=l.length/\i=.int .i64 (k:Int)/\v=.int .i64 n/\1<=n/\n<=65536/\n=R.prod (l.take k)) (λ_ _ i=>l.length+1-(intOf i).toNat)
 case atStart=>exact⟨0,1,by omega,rfl,rfl,by omega,by omega,by simp[R.prod]⟩
 obtain⟨k,n,av,rfl,rfl,az,aE,m⟩:=hrel;have w8:=qQ m;clear m;by_cases j:k<l.length
 .obtain⟨b,off,rfl,ag,E⟩:=U.q (by omega);have Q:=E k j;have ar:=S.q k j;have ap:=b2 k;have aq:(k:Int)<(l.length:Int):=by omega
  clear E;have r:=qQ (show R.prod (l.take (k+1))=R.prod (l.take k)*l[k] by rw[R.cM l k j,R.jy]);generalize l[k]=d at Q ar r;have hp:=ai.qg n d (by omega) (by omega) (by omega) ar.2;have aA:=ai.mul_pos n d az ar.1;by_cases aC:65536<n*d
  .have hB:=qQ (R.qn c2 sQ.q HO.q (by
     have:=R.mW l (k+1) (λd ar=>by
      obtain⟨i,hi,rfl⟩:=zQ ar;exact(S.q i hi).1)
     rw[r.q,<-w8.q]at this;omega))
   exact Xy
  go_wp2_with fail
  go_round
  case rel=>exact⟨k+1,n*d,by omega,by go_num,rfl,aA,by omega,by rw[r.q,<-w8.q]⟩
  case measure=>simp[intOf];omega
 exact Qt
theorem Tryz.dB:(Tryz.prog.info? 3).map (λi=>(i.zero,i.size,i.bytes))=some (some (.int .i64 0),1,8):=by kernel_rfl
namespace ai
theorem ao.zh(h:w.ownsRow base 3 1 (.slice A n c) n (ints l)):n=l.length/\ao w w.heap.size A l:=by
 have q:l.length=n:=by have:=h.1;rw[cn]at this;omega
 refine⟨q.symm,λhp=>?_⟩;obtain⟨g,cap,r,_,m⟩:=h.form (by omega);injection r with j
 subst j;refine⟨g,0,rfl,m,λi hi=>?_⟩;have:=h.cells (g:=g) rfl i _ (ints_at l i hi);rw[jW]at this;exact this
theorem aZ(h:w.ownsRow base e 1 v n xs):∃A c,v=.slice A n c/\n<=c:=by
 rcases h.2 with ⟨rfl,rfl⟩ | ⟨g,cap,cur,rfl,_,_,h,_⟩
 .exact⟨_,_,rfl,qX _⟩
 exact⟨_,_,rfl,h⟩
theorem ec(l:List Int)(x:Int):ints (l++[x])=ints l++[.int .i64 x]:=by simp[ints]
theorem ud(l:List Int)(k:Nat)(h:k<l.length):ints (l.take (k+1))=ints (l.take k)++[.int .i64 l[k]]:=by rw[R.cM l k h,ec]
theorem IA{IQ:World}{x:Int}{v':Value}{o:Obj}(i:Below w.heap.size w IQ)(r:IQ.ownsRow w.heap.size 3 1 v k (ints (l.take k)))(m:k<l.length)(B:l[k]=x)(y:ag.ownsRow w.heap.size 3 1 v' (k+1) (ints (l.take k)++[.int .i64 x]))(j:(IQ.alloc o).grownBy ag v.ownBlock):ag.ownsRow w.heap.size 3 1 v' (k+1) (ints (l.take (k+1)))/\Below w.heap.size w ag:=by
 subst B;refine⟨by rw[ud l k m];exact y,?_⟩;exact(i.alloc i.size o).grown j (by have:=i.size;simp;omega) (λq hq=>(r.lt q hq).1)
theorem n2(w:World)(e:TypeId):(w.alloc (.cells #[] e)).ownsRow w.heap.size e 1 (.slice (some ⟨w.heap.size,0,none⟩) 0 0) 0 []:=World.ownsRow_made w #[] 0 (qX _) (by unfold maxLen;omega) rfl
theorem oT(h:(R.size l).2=0){j:Nat} : 0<=R.prod ((l.drop (k+1)).take j)/\R.prod ((l.drop (k+1)).take j)<=1152921504606846976:=by
 obtain⟨q,z2,_⟩:=R.aB h;have i:=R.zv ((l.drop (k+1)).take j) (λd ar=>z2 d (jN (xN ar)));have m:=R.GC ((l.drop (k+1)).take j).length (by
  have:=List.length_take_le' j (l.drop (k+1));rw[qS]at this;omega)
 omega
theorem ER(l:List Int)(k j:Nat)(h:k+1+j<l.length):R.prod ((l.drop (k+1)).take (j+1))=R.prod ((l.drop (k+1)).take j)*l[k+1+j]:=by
 rw[R.cM _ j (by rw[qS];omega),R.jy,uC]
theorem De(h:k<l.length):(R.steps l)[k]'(by rw[R.bM];exact h)=if (0:Int)∈l then 0 else R.prod (l.drop (k+1)):=R.k_ l k _
end ai
theorem _root_.QG{G:Prop}(h:G:=by
 obtain⟨k,mN,rfl,Ls⟩:=hrel;have sX:=qQ Ls;clear Ls;by_cases fe:k<l.length
 .obtain⟨b,off,rfl,aE,dt⟩:=eX.q (by omega);have Mq:=dt k fe;have M0:=b2 k;have M1:(k:Int)<(l.length:Int):=by omega
  clear dt;have bR:=qQ (R.cM l k fe);have Lb:=qQ (qP fe);generalize l[k]=y at Mq bR Lb;by_cases BH:y=x
  .have hq:(y == x)=true:=by simpa using BH
   have ep:=qQ (show decide (x∈l)=true by simpa using BH▸Lb.q);clear BH;go_wp2_with fail;go_ret;exact⟨by rw[ep.q];rfl,rfl⟩
  have hq:(y == x)=false:=by simpa using BH
  have eQ:=qQ (show x∉l.take (k+1) by
   rw[bR.q,vR,kS];rintro(h | h)
   .exact sX.q h
   exact BH h.symm)
  clear BH;go_wp2_with fail
  go_round
  case rel=>exact⟨k+1,by omega,by go_num,eQ.q⟩
  case measure=>simp[intOf];omega
 .obtain rfl:k=l.length:=by omega
  have ep:=qQ (show decide (x∈l)=false by have:=sX.q;rw[zS]at this;simpa using this);go_wp2_with fail;go_ret;exact⟨by rw[ep.q];rfl,rfl⟩
 ):G:=h
theorem q'(A:Option Addr)(cap:Nat)(l:List Int)(x:Int)(B:Nat)(w:World)(j:l.length<=9223372036854775807)(hm:ai.ao w B A l):Calls Tryz.prog 170 #[.slice A l.length cap,.int .i64 x] w λe w'=>e=.returned (.bool (decide (x∈l)))/\w=w':=by
 have eX:=qQ hm;clear hm;go_enter func170,ntmps170;go_wp2_with fail
 go_loop [6,9] (λ_ i=>∃k:Nat,k<=l.length/\i=.int .i64 (k:Int)/\x∉l.take k) (λ_ i=>l.length+1-(intOf i).toNat)
 case atStart=>exact⟨0,by omega,rfl,by simp⟩
 exact QG
theorem _root_.JV{G:Prop}(h:G:=by
 have sQ:=qQ (ai.IA sq FD.q (by rw[R.bM];exact fe) cd.q nB c0);clear nB c0;go_wp2_with fail
 first
  | exact⟨⟨k+1,by omega,by go_num,sQ.q.1,sQ.q.2⟩,by simp[intOf];omega⟩
  | (go_roundw
     case rel=>exact⟨k+1,by omega,by go_num,sQ.q.1,sQ.q.2⟩
     case measure=>simp[intOf];omega)
 ):G:=h
theorem _root_.QX{G:Prop}(h:G:=by
 obtain rfl:j=l.length-(k+1):=by omega
 have Hy:=eQ.q;rw[qT (by rw[qS];omega)]at Hy;have hB:=qQ (ai.De (l:=l) (k:=k) fe);by_cases ga:(0:Int)∈l
 .have km:=qQ (λ(W:World) (c:Nat) (h:ai.ao W B (some ⟨b,off,none⟩) l)=>q' (some ⟨b,off,none⟩) c l 0 B W (by omega) h);have D6:decide ((0:Int)∈l)=true:=by simpa using ga
  have ep:=qQ D6;have cd:=qQ (hB.q.trans (qY ga));clear D6 ga Hy;go_wp2_with fail;refine(km.q _ _ (eX.q.below (sq.mono ah))).mono ?_;rintro e ag ⟨rfl,rfl⟩;rw[ep.q];go_wp2_with (at_builtin;refine kP _ rfl _ _ 23 rfl w.heap.size 3 i0 (.int .i64 0) 1 8 underlying23 hi hv vK vN rfl (by decide) _ _ _ rfl (FD.q.alloc _) ⟨cN.heap.size,0,none⟩ 1 1 [.int .i64 0] rfl rfl (cell_one_new _ _ _) (one_one _ _) (by unfold maxLen;omega) (by omega) (by have:=sq.size;simp;omega) ?_);intro v' ag nB c0 _;exact JV
 .have km:=qQ (λ(W:World) (c:Nat) (h:ai.ao W B (some ⟨b,off,none⟩) l)=>q' (some ⟨b,off,none⟩) c l 0 B W (by omega) h);have D6:decide ((0:Int)∈l)=false:=by simpa using ga
  have ep:=qQ D6;have cd:=qQ ((hB.q.trans (qV ga)).trans Hy.symm);clear D6 ga Hy;go_wp2_with fail;refine(km.q _ _ (eX.q.below (sq.mono ah))).mono ?_;rintro e ag ⟨rfl,rfl⟩;rw[ep.q];go_wp2_with (at_builtin;refine kP _ rfl _ _ 23 rfl w.heap.size 3 i0 (.int .i64 0) 1 8 underlying23 hi hv vK vN rfl (by decide) _ _ _ rfl (FD.q.alloc _) ⟨cN.heap.size,0,none⟩ 1 1 [.int .i64 n] rfl rfl (cell_one_new _ _ _) (one_one _ _) (by unfold maxLen;omega) (by omega) (by have:=sq.size;simp;omega) ?_);intro v' ag nB c0 _;exact JV
 ):G:=h
theorem ux(A:Option Addr)(cap:Nat)(l:List Int)(B:Nat)(w:World)(Z:l.length<=cap)(ak:cap<=9223372036854775807)(r:(R.size l).2=0)(hm:ai.ao w B A l)(ah:B<=w.heap.size):Calls Tryz.prog 168 #[.slice A l.length cap] w λe w'=>∃v,e=.returned v/\w'.ownsRow w.heap.size 3 1 v l.length (ints (R.steps l))/\Below w.heap.size w w':=by
 obtain⟨i0,hi,hv,vK,vN⟩:=xQ Tryz.dB;obtain⟨aE,z2,z3,z4,z5⟩:=R.aB r;have eX:=qQ hm;have Y:=qQ z2;clear hm z2 z3;go_enter func168,ntmps168;go_wp2_with fail;go_loopw [3,4,11] (λv _ i wr=>∃k:Nat,k<=l.length/\i=.int .i64 (k:Int)/\wr.ownsRow w.heap.size 3 1 v k (ints ((R.steps l).take k))/\Below w.heap.size w wr) (λ_ _ i _=>l.length+1-(intOf i).toNat)
 case atStart=>exact⟨0,by omega,rfl,by simpa[ints]using ai.n2 w _,(qK _ _).alloc (qX _) _⟩
 obtain⟨k,aD,rfl,I,sq⟩:=hrel;obtain⟨cN,rfl⟩:∃cN:World,cN=wr:=⟨_,rfl⟩;by_cases fe:k<l.length
 .obtain⟨b,off,rfl,U,M⟩:=eX.q (by omega);have av:=b2 k;have az:(k:Int)+1<=(l.length:Int):=by omega
  have Q:=qQ M;have FD:=qQ I;clear M I;have aq:decide ((k:Int)<(l.length:Int))=true:=by simp;omega
  by_cases D:cap=k+1
  .have ap:(cap=k+1)=True:=eq_true D;have S:=qQ D;clear D;go_wp2_with fail
   go_loop [5,7,19] (λv _ i=>∃(j:Nat) (n:Int),j<=l.length-(k+1)/\i=.int .i64 (j:Int)/\v=.int .i64 n/\n=R.prod ((l.drop (k+1)).take j)) (λ_ _ i=>l.length+1-(intOf i).toNat)
   case atStart=>exact⟨0,1,by omega,rfl,rfl,by simp[R.prod]⟩
   obtain⟨j,n,V,rfl,rfl,m⟩:=hrel;have E:=ai.oT r (k:=k) (j:=j);rw[<-m]at E;have eQ:=qQ m;clear m;by_cases X:j<l.length-(k+1)
   .exfalso;have:=S.q;omega
   exact QX
  go_wp2_with fail
  go_loop [5,7,19] (λv _ i=>∃(j:Nat) (n:Int),j<=l.length-(k+1)/\i=.int .i64 (j:Int)/\v=.int .i64 n/\n=R.prod ((l.drop (k+1)).take j)) (λ_ _ i=>l.length+1-(intOf i).toNat)
  case atStart=>exact⟨0,1,by omega,rfl,rfl,by simp[R.prod]⟩
  obtain⟨j,n,V,rfl,rfl,m⟩:=hrel;have E:=ai.oT r (k:=k) (j:=j);rw[<-m]at E;have eQ:=qQ m;clear m;by_cases X:j<l.length-(k+1)
  .have x:=Q.q (k+1+j) (by omega);rw[<-kZ]at x
   replace x:=(sq.cell (p:=⟨b,off+(k+1)+j,none⟩) (zW U ah)).trans x
   have N:=ai.oT r (k:=k) (j:=j+1);have y:=qQ (ai.ER l k j (by omega));have aA:=b2 j;have aC:(j:Int)<((l.length-(k+1):Nat):Int):=by omega
   rw[y.q,<-eQ.q]at N;generalize l[k+1+j]'(by omega)=d at x y N;go_wp2_with fail
   go_round
   case rel=>exact⟨j+1,n*d,by omega,by go_num,rfl,by rw[y.q,<-eQ.q]⟩
   case measure=>(simp[intOf]<;>omega)
  exact QX
 obtain rfl:k=l.length:=by omega
 go_wp2_with fail;go_ret;have O:=I;rw[qT (by rw[R.bM];omega)]at O;exact⟨_,rfl,O,sq⟩
theorem FF(st:Int)(e3:Value)(A bK:Option Addr)(cap U:Nat)(l m:List Int)(B:Nat)(w:World)(ah:B<=w.heap.size)(Z:m.length<=l.length)(aH:l.length<=6)(hm:ai.ao w B A l)(N:ai.ao w B bK m)(az:-144115188075855872<=st/\st<=144115188075855872)(hp:∀i (ak:i<m.length) (ap:i<l.length),-144115188075855872<=m[i]*l[i]/\m[i]*l[i]<=144115188075855872):Calls Tryz.prog 173 #[.agg #[.int .i64 st,e3,.slice A l.length cap],.slice bK m.length U] w λe w'=>e=.returned (.int .i64 (st+R.dot m l))/\Below w.heap.size w w':=by
 obtain⟨Q,S,y⟩:=aK (hm.below (((qK _ _).alloc (qX _) (.cells #[.int .i64 st,e3,.slice A l.length cap] 159)).mono ah)) (N.below (((qK _ _).alloc (qX _) (.cells #[.int .i64 st,e3,.slice A l.length cap] 159)).mono ah)) hp;clear hm N hp;go_enter func173,ntmps173;go_wp2_with fail;have O:=qQ (av.new w 159 #[.int .i64 st,e3,.slice A l.length cap]);go_loopw [5,12] (λn i wr=>∃k:Nat,k<=m.length/\i=.int .i64 (k:Int)/\n=.int .i64 (st+R.dot (m.take k) (l.take k))/\∃q,wr=(w.alloc (.cells #[.int .i64 st,e3,.slice A l.length cap] 159)).drewN q) (λ_ i _=>m.length+1-(intOf i).toNat)
 case atStart=>exact⟨0,by omega,rfl,by simp[R.dot],0,rfl⟩
 obtain⟨k,aF,rfl,rfl,q,rfl⟩:=hrel;by_cases r:k<m.length
 .obtain⟨b,off,rfl,aq,I⟩:=Q.q (by omega);obtain⟨ag,aI,rfl,aA,M⟩:=S.q (by omega);have X:=I k (by omega);have Y:=M k r;have aC:=b2 k;have aD:(k:Int)<(l.length:Int):=by omega
  have aE:(k:Int)<(m.length:Int):=by omega
  have x:=y.q k r (by omega);have W:=R.vf (b:=144115188075855872) (by omega) y.q k (by omega) (by omega);have aG:(144115188075855872:Int)*k<=144115188075855872*6:=by omega
  have j:=qQ (R.yo (m:=m) (l:=l) r (by omega));have aB:=(O.q.drewN q).cell 2;clear I M;generalize l[k]=s at X x j;generalize m[k]=a at Y x j;generalize R.dot (m.take k) (l.take k)=V at W j;generalize E:a*s=p at x j;go_wp2_with fail;have D:Value.int .i64 (st+V+p)=.int .i64 (st+R.dot (m.take (k+1)) (l.take (k+1))):=by rw[j.q,wR]
  first
   | exact⟨⟨k+1,by omega,by go_num,by subst E;exact D,q,rfl⟩,by simp[intOf];omega⟩
   | exact⟨⟨k+1,by omega,by go_num,by subst E;exact D,q+1,rfl⟩,by simp[intOf];omega⟩
 obtain rfl:k=m.length:=by omega
 go_wp2_with fail;go_ret;refine⟨?_,zV ((qK _ _).alloc (qX _) _) q⟩;rw[zS,R.yp m l Z];rfl
theorem _root_.XW{G:Prop}(h:G:=by
 have nh:=qQ (fR.q (by omega));go_wp2_with fail
 go_ret2
 exact⟨by rw[nh.q];rfl,qK _ _⟩
 ):G:=h
theorem zA(A bK:Option Addr)(cap Y:Nat)(l m:List Int)(B B':Nat)(w:World)(aL:l.length<=cap)(aN:cap<=9223372036854775807)(a2:m.length<=9223372036854775807)(ah:B<=w.heap.size)(aG:B'<=w.heap.size)(hm:ai.ao w B A l)(D:ai.ao w B' bK m):Calls Tryz.prog 139 #[.slice A l.length cap,.slice bK m.length Y] w λe w'=>e=.returned (.tuple #[.int .i64 (R.place l m).1,.int .i64 (R.place l m).2])/\Below w.heap.size w w':=by
 have N:=qQ (dC A cap l B w (by omega) hm);by_cases x:(R.size l).2=0
 .obtain⟨aO,z2,z3,z4,z5⟩:=R.aB x;have Z:ai.b5 l=.tuple #[.int .i64 (R.size l).1,.int .i64 0]:=by unfold ai.b5;rw[x]
  have X:=qQ Z;have y:=qQ x;clear Z x z3;by_cases hlen:m.length=l.length
  .have hq:((m.length:Int) != (l.length:Int))=false:=by simp;omega
   obtain⟨V,W,r⟩:=aK hm D hlen;clear hm D hlen z2;go_enter func139,ntmps139;go_wp2_with fail;refine N.q.mono ?_;rintro e ag ⟨rfl,rfl⟩;rw[X.q];go_wp2_with fail
   go_loop [8,9,25] (λ_ _ i=>∃(k:Nat),k<=l.length/\i=.int .i64 (k:Int)/\R.inside (l.take k) (m.take k)=true) (λ_ _ i=>l.length+1-(intOf i).toNat)
   case atStart=>exact⟨0,by omega,rfl,by simp[R.inside]⟩
   obtain⟨k,a1,rfl,j⟩:=hrel;have S:=qQ j;clear j;by_cases O:k<l.length
   .obtain⟨b,off,rfl,aT,ap⟩:=V.q (by omega);obtain⟨aP,a3,rfl,aU,aq⟩:=W.q (by have:=r.q;omega);have az:k<m.length:=by have:=r.q;omega
    have aI:=ap k O;have aJ:=aq k az;have aW:=b2 k;have aX:(k:Int)<(l.length:Int):=by omega
    have a0:(k:Int)<(m.length:Int):=by omega
    clear ap aq;have M:=qQ (R.CP r.q O S.q).1;have fR:=qQ (λ(h:¬(0<=m[k]/\m[k]<l[k]))=>show R.place l m=(0,4) by
     unfold R.place;rw[qV (by simp[y.q]),qV (by simp[r.q]),qV];intro j;exact h (R.lM j k O az))
    generalize l[k]=d at aI M fR;generalize m[k]=a at aJ M fR;by_cases aQ:a<0
    .exact XW
    by_cases aR:d<=a
    .exact XW
    have av:R.inside (l.take (k+1)) (m.take (k+1))=true:=by rw[M.q];simp;omega
    have U:=qQ av;clear av;go_wp2_with fail
    first
     | exact⟨⟨k+1,by omega,by go_num,U.q⟩,by simp[intOf];omega⟩
     | (go_round
        case rel=>exact⟨k+1,by omega,by go_num,U.q⟩
        case measure=>simp[intOf];omega)
   obtain rfl:k=l.length:=by omega
   have j:=S.q;rw[zS,<-r.q,zS]at j;have nh:=qQ (show R.place l m=(R.dR l m,0) by
    unfold R.place;rw[qV (by simp[y.q]),qV (by simp[r.q]),qY j])
   have aD:=qQ (R.qw (m:=m) (R.ou j) r.q.symm);have aF:=qQ (R.A9 j z5);clear j;go_wp2_with fail;refine(ux A cap l B _ aL aN y.q V.q ah).mono ?_;rintro e ag ⟨v,rfl,Q,ak⟩;obtain⟨bt,bz,rfl,aV⟩:=ai.aZ Q;have aE:=qQ (ai.ao.zh Q).2;have I:=qQ (R.bM l);have E:=qQ ak;clear Q ak;go_wp2_with fail;rw[<-I.q];refine(FF 0 _ bt bK bz Y (R.steps l) m ag.heap.size ag (qX _) (by rw[I.q,r.q];exact qX _) (by rw[I.q];exact aO) aE.q ((W.q.below (E.q.mono aG)).up (by have:=E.q.size;omega)) (by omega) aF.q).mono ?_;rintro e aC ⟨rfl,aH⟩;rw[aD.q,pK];go_wp2_with fail
   go_ret2
   exact⟨by rw[nh.q];rfl,aA E.q aH⟩
  have hq:((m.length:Int) != (l.length:Int))=true:=by simp;omega
  have nh:=qQ (show R.place l m=(0,6) by unfold R.place;rw[qV (by simp[y.q]),qY hlen]);clear hm D;go_enter func139,ntmps139;go_wp2_with fail;refine N.q.mono ?_;rintro e ag ⟨rfl,rfl⟩;rw[X.q];go_wp2_with fail
  go_ret2
  exact⟨by rw[nh.q];rfl,qK _ _⟩
 have nh:=qQ (show R.place l m=(0,(R.size l).2)from qY x);have hq:((R.size l).2 != 0)=true:=by simpa using x
 clear hm D;go_enter func139,ntmps139;go_wp2_with fail;refine N.q.mono ?_;rintro e ag ⟨rfl,rfl⟩;unfold ai.b5;go_wp2_with fail
 go_ret2
 exact⟨by rw[nh.q];rfl,qK _ _⟩
namespace ai
theorem hc(h:w.ownsRow base e 1 v n xs)(i:Below w.heap.size w w'):w'.ownsRow base e 1 v n xs :=
 h.kept (row:=none) ⟨i.os,i.tape,i.output,i.size,λk j _=>i.block k j⟩ (by cases v.ownBlock<;>simp)
end ai
end Go.Proofs.YtabmnaaidfpmcaaGreatDoor
end
section
namespace Go.Proofs.YtabmnaaidfpmcaaGreatDoor
open Go.RowKit Go.Shelf aS
attribute [local go_sem] yO
namespace ai
def upto{α:Type}(f:Nat->α)(k:Nat):List α:=(List.range k).map f
theorem wS{α:Type}(f:Nat->α)(k:Nat):upto f (k+1)=upto f k++[f k]:=by simp[upto,kE]
theorem n9{α:Type}(f:Nat->α)(k:Nat):(upto f k).length=k:=by simp[upto]
def down(n j:Nat):Nat:=n-1-j
abbrev hT(l:List Int):={ q:Nat // q<l.length }
def told{l:List Int}(x:hT l):Array Value:=#[.int .i64 (x.1:Int),.int .i64 (l[x.1]'x.2)]
def eA(Bs b:Nat)(W bg:World):Prop:=∀p:Addr,(p.block=Bs\/p.block=b)->bg.cell? p=W.cell? p
theorem eA.refl(Bs b:Nat)(W:World):eA Bs b W W:=λ_ _=>rfl
theorem eA.trans{Bs b:Nat}{A B C:World}(h:eA Bs b A B)(i:eA Bs b B C):eA Bs b A C:=λp hp=>(i p hp).trans (h p hp)
theorem eA.Gx{A B:World}(h:Below N A B)(i:Bs<N)(j:b<N):eA Bs b A B:=λp hp=>h.cell (by omega)
end ai
theorem x_(F:Fence)(n:Nat)(q:F.fn 194)(x:F.round=none)(y Bs:Nat)(A:Option Addr)(cap:Nat){α:Type}(j:List α->World->Prop)(W:World)(B:W.cell? ⟨Bs,0,none⟩=some (.slice A 0 cap))(m:j [] W):CallsIn F n Tryz.prog 194 #[.func (.yield y) #[] #[],.pointer (some ⟨Bs,0,none⟩)] W λe bg=>(∃v,e=.returned v)/\j [] bg:=by
 refine pH func194 rfl q ?_ x;simp only[ntmps194,jA,qH,zM,Nat.reduceAdd,Nat.reduceSub,yQ,yZ,yD,yY,vP,xH]
 gi_wp2
 gi_loopw [3] (λi wr=>i=.int .i64 (-1)/\j [] wr) (λ_ _=>0)
 case atStart=>exact⟨by go_num,m⟩
 obtain⟨rfl,r⟩:=hrel
 gi_wp2
 go_end0;exact⟨⟨_,rfl⟩,r⟩
theorem Bj(F:Fence)(n:Nat)(i:F.fn 184)(j:F.round=none)(a:Option Addr)(len cap:Nat)(w:World):CallsIn F n Tryz.prog 184 #[.slice a len cap] w λe w'=>e=.returned (.func (.func 194) #[] #[.pointer (some ⟨w.heap.size,0,none⟩)])/\w'=w.alloc (.cells #[.slice a len cap] 23):=by
 refine pH func184 rfl i ?_ j;simp only[ntmps184,jA,qH,zM,Nat.reduceAdd,Nat.reduceSub,yQ,yZ,yD,yY,vP,xH]
 gi_wp2
 go_ret;exact⟨rfl,rfl⟩
end Go.Proofs.YtabmnaaidfpmcaaGreatDoor
end
section
namespace aS
open Go
theorem w_{r:Result Value}{dQ:Next}(h:r.andThen (λv w=>.ok (.value v) w)=.ok dQ w'):∃v,dQ=.value v:=by
 cases r with
 | ok v w=>rw[kC]at h;cases h;exact⟨v,rfl⟩
 | halt i w=>rw[Result.andThen_halt]at h;cases h
theorem x8{r:Result Unit}{dQ:Next}(h:r.andThen (λ_ w=>.ok .skip w)=.ok dQ w'):dQ=.skip:=by
 cases r with
 | ok v w=>rw[kC]at h;cases h;rfl
 | halt i w=>rw[Result.andThen_halt]at h;cases h
def only(K:Act->World->Prop):Exit->Act->World->Prop
 | .normal,a,w=>K a w
 | _,_,_=>False
variable {F:Fence} {n:Nat} {P:Program} {ops:Array Oper} {Q:Exit->Act->World->Prop}
end aS
end
section
namespace Go.Proofs.YtabmnaaidfpmcaaGreatDoor
open Go.RowKit Go.Shelf aS
attribute [local go_sem] yO
theorem v_(c:Nat):madeCells (Value.int .i64 0).cells c=(ints (List.replicate c 0)).toArray:=by
 apply uN
 .simp[wB,ints]
 intro i j m;simp[madeCells,ints,Value.cells,wC]
theorem dz(c:Nat)(h:c<=65536)(w:World):(Instr.makeSlice 23 (.int .i64 (c:Int)) (.int .i64 (c:Int))).run Tryz.prog w=.ok (.slice (some ⟨w.heap.size,0,none⟩) c c) (w.alloc (.cells (ints (List.replicate c 0)).toArray 3)):=by
 rw[<-v_];obtain⟨i0,hi,m,q,r⟩:=xQ Tryz.dB;have j:(i0.bytes:Int)*(c:Int)<=281474976710656:=by rw[r];omega
 have i:=run_make (P:=Tryz.prog) w 23 3 i0 _ underlying23 hi m .i64 .i64 c c (by omega) (by omega) j (by omega);simp only[xY,q,zF]at i;exact i
namespace ai
theorem k6{β:Type}{B:Nat}{b1:β->World->Prop}(i:N<=B)(h:∀s A B',b1 s A->Below N A B'->b1 s B')(az:∀s A,b1 s A->N<=A.heap.size):OwnFrom B b1 :=
 λs W bg row hi j m=>h s W bg hi ((qK N W).grown j (az s W hi) (λk e=>qJ i (m k e).1))
theorem eA.book(j:Bs<N)(m:b<N)(W:World)(l:Nat)(o l4:Obj)(q:N<=l)(i:W.heap[l]?=some o):eA Bs b W (W.putObj l l4) :=
 eA.Gx ((qK l W).grown (grownBy_putObj' W l l4) (zG (Array.getElem?_eq_some_iff.1 i).1) (λk e=>by cases e;exact qX _)) (by omega) (by omega)
end ai
end Go.Proofs.YtabmnaaidfpmcaaGreatDoor
end
section
namespace Go.Proofs.YtabmnaaidfpmcaaGreatDoor
open Go.RowKit aS
namespace ai
def cm(w:World)(B:Nat)(val:Value)(v:R.V):Prop :=
 ∃A c bK c',val=.agg #[.int .i64 v.st,.slice A v.I.length c,.slice bK v.s.length c']/\ao w B A v.I/\ao w B bK v.s/\v.I.length<=c/\c<=9223372036854775807/\v.s.length<=c'/\c'<=9223372036854775807
theorem cm.below{w w':World}{B:Nat}{val:Value}{v:R.V}(h:cm w B val v)(i:Below B w w'):cm w' B val v:=by
 obtain⟨A,c,bK,c',r,j,m,q⟩:=h;exact⟨A,c,bK,c',r,j.below i,m.below i,q⟩
theorem cm.up{w:World}{B B':Nat}{val:Value}{v:R.V}(h:cm w B val v)(i:B<=B'):cm w B' val v:=by
 obtain⟨A,c,bK,c',r,j,m,q⟩:=h;exact⟨A,c,bK,c',r,j.up i,m.up i,q⟩
theorem cm.bI{B:Nat}{val:Value}{v:R.V}(h:cm w B val v)(ah:B<=w.heap.size)(W:World)(b:Below w.heap.size w W):cm W W.heap.size val v:=(h.below (b.mono ah)).up (qJ ah b.size)
def LD(lo hi:Nat)(val:Value)(v:R.V):Prop :=
 ∀st A n c bK n' c',val=.agg #[.int .i64 st,.slice A n c,.slice bK n' c']->(∀b off,A=some ⟨b,off,none⟩->0<v.I.length->b<lo\/hi<=b)/\∀b off,bK=some ⟨b,off,none⟩->0<v.s.length->b<lo\/hi<=b
def fb(B:Nat)(w w':World)(r:R.V × Int)(e:Ending):Prop:=∃val,e=.returned (.tuple #[val,.int .i64 r.2])/\cm w' w'.heap.size val r.1/\LD B w.heap.size val r.1
theorem cm.none(w:World)(B:Nat):cm w B (.agg #[.int .i64 0,.slice none 0 0,.slice none 0 0]) R.none_ :=
 ⟨_,_,_,_,rfl,λh=>by simp[R.none_]at h,λh=>by simp[R.none_]at h,qX _,by omega,qX _,by omega⟩
theorem d'(B:Nat)(w w':World)(e:Int):fb B w w' (R.none_,e) (.returned (.tuple #[.agg #[.int .i64 0,.slice none 0 0,.slice none 0 0],.int .i64 e])) :=
 ⟨_,rfl,cm.none _ _,λst A n c bK n' c' _=>⟨λb off _ h=>by simp[R.none_]at h,λb off _ h=>by simp[R.none_]at h⟩⟩
theorem kf{B:Nat}{v:R.V}{st:Int}{bK:Option Addr}{n' c':Nat}{e:Int}(h:cm w' w'.heap.size (.agg #[.int .i64 st,.slice A n c,.slice bK n' c']) v)(g1:∀b off,A=some ⟨b,off,none⟩->0<v.I.length->b<B\/w.heap.size<=b)(g2:∀b off,bK=some ⟨b,off,none⟩->0<v.s.length->b<B\/w.heap.size<=b):fb B w w' (v,e) (.returned (.tuple #[.agg #[.int .i64 st,.slice A n c,.slice bK n' c'],.int .i64 e])) :=
 ⟨_,rfl,h,λr bt bn bz j q m i=>by
  simp only[yC,kV,zT,xO,xD]at i;obtain⟨_,⟨rfl,_,_⟩,rfl,_,_⟩:=i;exact⟨g1,g2⟩⟩
end ai
theorem ai.three(h:Below N w ag)(i:N<=b)(x y z:Value):Below N w (((ag.setCell ⟨b,0,none⟩ x).setCell ⟨b,1,none⟩ y).setCell ⟨b,2,none⟩ z) :=
 ((h.setCell (p:=⟨b,0,none⟩) i x).setCell (p:=⟨b,1,none⟩) i y).setCell (p:=⟨b,2,none⟩) i z
theorem lh{W:World}(i:Below W.heap.size W ag):(∀b o,b<W.heap.size->ag.cell? ⟨b,o,none⟩=W.cell? ⟨b,o,none⟩)/\(∀b o,b<W.heap.size->ag.frozen? ⟨b,o,none⟩=W.frozen? ⟨b,o,none⟩) :=
 ⟨λb o h=>i.cell (p:=⟨b,o,none⟩) h,λb o h=>i.frozen (p:=⟨b,o,none⟩) h⟩
theorem sz(n:Int)(w:World):Calls Tryz.prog 192 #[.int .i64 n] w λe w'=>e=.returned (.bool (R.dx n))/\w=w':=by
 by_cases i:-1099511627776<=n
 .by_cases j:n<=1099511627776
  .have H:=qQ (R.jw.2 ⟨i,j⟩);go_enter func192,ntmps192;go_wp2;go_ret;exact⟨by rw[H.q];rfl,rfl⟩
  have H:=qQ (show R.dx n=false from R.mn.2 (by omega));go_enter func192,ntmps192;go_wp2;go_ret;exact⟨by rw[H.q];rfl,rfl⟩
 have H:=qQ (show R.dx n=false from R.mn.2 (by omega));go_enter func192,ntmps192;go_wp2;go_ret;exact⟨by rw[H.q];rfl,rfl⟩
theorem _root_.Za{G:Prop}(h:G:=by
 go_enter func190,ntmps190;go_wp2;go_ret;exact⟨oW (by rw[H.q];first | rfl | (simp<;>omega)),rfl⟩
 ):G:=h
theorem q_(n:Int)(w:World):Calls Tryz.prog 190 #[.int .i64 n] w λe w'=>e=.returned (.bool (!R.dx n))/\w=w':=by
 by_cases i:-1099511627776<=n
 .by_cases j:n<=1099511627776
  .have H:=qQ (R.jw.2 ⟨i,j⟩);exact Za
  have H:=qQ (show R.dx n=false from R.mn.2 (by omega));exact Za
 have H:=qQ (show R.dx n=false from R.mn.2 (by omega));go_enter func190,ntmps190;go_wp2;go_ret;exact⟨oW (by rw[H.q];first | rfl | (simp<;>omega)),rfl⟩
theorem Cc:ai.B8 193 (λs=>!R.dx s):=by
 obtain⟨c,i⟩:∃c,Tryz.f193.body=some c:=⟨_,rfl⟩;refine⟨rF func193 (by kernel_rfl) i,λx w=>?_⟩;clear i c;go_enter func193,ntmps193;go_wp2_with fail;refine(sz _ _).mono ?_;rintro e ag ⟨rfl,rfl⟩;go_wp2_with fail;go_ret;exact⟨rfl,rfl⟩
theorem _root_.Qf{G:Prop}(h:G:=by
 go_enter func181,ntmps181;go_wp2_with fail;refine gH.q.mono ?_;rintro e ag ⟨rfl,rfl⟩;rw[g_.q];go_wp2_with fail;refine(sz _ _).mono ?_;rintro e ag ⟨rfl,rfl⟩;rw[x2.q];go_wp2_with fail;refine L9.q.mono ?_;rintro e ag ⟨rfl,rfl⟩;rw[gO.q];go_wp2_with fail;go_ret;exact⟨by rw[hD.q];rfl,bp.q⟩
 ):G:=h
theorem _root_.Zp{G:Prop}(h:G:=by
 go_wp2_with fail;refine gH.q.mono ?_;rintro e ag ⟨rfl,rfl⟩;unfold ai.b5;go_wp2_with fail;go_ret;exact⟨by rw[hD.q];rfl,bp.q⟩
 ):G:=h
theorem _root_.Zf{G:Prop}(h:G:=by
 go_wp2_with fail;refine gH.q.mono ?_;rintro e ag ⟨rfl,rfl⟩;rw[g_.q];go_wp2_with fail;go_ret;exact⟨by rw[hD.q];rfl,bp.q⟩
 ):G:=h
theorem _root_.XM{G:Prop}(h:G:=by
 rintro e ag ⟨rfl,rfl⟩;rw[x2.q];go_wp2_with fail;go_ret;exact⟨by rw[hD.q];rfl,bp.q⟩
 ):G:=h
theorem jq(val:Value)(v:R.V)(B:Nat)(w:World)(ah:B<=w.heap.size)(h:ai.cm w B val v):Calls Tryz.prog 181 #[val] w λe w'=>e=.returned (.int .i64 (R.aF v))/\Below w.heap.size w w':=by
 obtain⟨A,c,bK,c',rfl,ar,az,aO,bz,N,O⟩:=h;have x:Below w.heap.size w (w.alloc (.cells #[.int .i64 v.st,.slice A v.I.length c,.slice bK v.s.length c'] 159)):=(qK _ _).alloc (qX _) _;obtain⟨bp,gH,L9⟩:=aK x (er A c v.I B _ (by omega) (ar.below (x.mono ah))) (mC _ _ Cc bK c' v.s B _ (by omega) (az.below (x.mono ah)));clear ar az x;by_cases j:(R.size v.I).2=0
 .have M:ai.b5 v.I=.tuple #[.int .i64 (R.size v.I).1,.int .i64 0]:=by unfold ai.b5;rw[j]
  have g_:=qQ M;have r:=qQ j;clear M j;by_cases hlen:v.s.length=v.I.length
  .have hq:((v.s.length:Int) != (v.I.length:Int))=false:=by simp;omega
   have y:=qQ hlen;clear hlen;by_cases i:R.dx v.st=true
   .by_cases m:v.s.all R.dx=true
    .have hD:=qQ (R.ng r.q y.q (by rw[i,m];rfl));have gO:=qQ (show v.s.any (λs=>!R.dx s)=false by rw[R.q8,m];rfl);have x2:=qQ i;clear i m;exact Qf
    have D:v.s.all R.dx=false:=by simpa using m
    obtain⟨hD,gO,x2⟩:=aK (R.jz r.q y.q (by rw[D,Bool.and_false])) (show v.s.any (λs=>!R.dx s)=true by rw[R.q8,D];rfl) i;clear i m D;exact Qf
   have E:R.dx v.st=false:=by simpa using i
   have hD:=qQ (R.jz r.q y.q (by rw[E,Bool.false_and]));have x2:=qQ E;clear i E;go_enter func181,ntmps181;go_wp2_with fail;refine gH.q.mono ?_;rintro e ag ⟨rfl,rfl⟩;rw[g_.q];go_wp2_with fail;refine(sz _ _).mono ?_;exact XM
  have hq:((v.s.length:Int) != (v.I.length:Int))=true:=by simp;omega
  have hD:=qQ (R.ob r.q hlen);clear hlen;go_enter func181,ntmps181;exact Zf
 have hD:=qQ (R.o4 j);have hq:((R.size v.I).2 != 0)=true:=by simpa using j
 clear j;go_enter func181,ntmps181;exact Zp
theorem h8(val:Value)(v:R.V)(B:Nat)(w:World)(ah:B<=w.heap.size)(h:ai.cm w B val v):Calls Tryz.prog 169 #[val] w λe w'=>e=.returned (.int .i64 (R.aF v))/\Below w.heap.size w w':=by
 obtain⟨A,c,bK,c',rfl,ar,az,aO,bz,ap,aq⟩:=h;have E:Below w.heap.size w (w.alloc (.cells #[.int .i64 v.st,.slice A v.I.length c,.slice bK v.s.length c'] 159)):=(qK _ _).alloc (qX _) _;obtain⟨bp,gH,ak⟩:=aK E (dC A c v.I B _ (by omega) (ar.below (E.mono ah))) (az.below (E.mono ah));clear ar az E;by_cases j:(R.size v.I).2=0
 .have X:ai.b5 v.I=.tuple #[.int .i64 (R.size v.I).1,.int .i64 0]:=by unfold ai.b5;rw[j]
  have g_:=qQ X;have y:=qQ j;clear X j;by_cases hlen:v.s.length=v.I.length
  .have hq:((v.s.length:Int) != (v.I.length:Int))=false:=by simp;omega
   have M:=qQ hlen;clear hlen;by_cases m:R.dx v.st=true
   .have x2:=qQ (show(!R.dx v.st)=false by rw[m];rfl);have U:=qQ m;clear m;go_enter func169,ntmps169;go_wp2_with fail;refine gH.q.mono ?_;rintro e ag ⟨rfl,rfl⟩;rw[g_.q];go_wp2_with fail;refine(q_ _ _).mono ?_;rintro e ag ⟨rfl,rfl⟩;rw[x2.q];go_wp2_with fail
    go_loop [6,29] (λ_ i=>∃k:Nat,k<=v.s.length/\i=.int .i64 (k:Int)/\(v.s.take k).any (λs=>!R.dx s)=false) (λ_ i=>v.s.length+1-(intOf i).toNat)
    case atStart=>exact⟨0,by omega,rfl,by simp⟩
    obtain⟨k,aC,rfl,Z⟩:=hrel;have W:=qQ Z;clear Z;by_cases N:k<v.s.length
    .obtain⟨b,off,rfl,av,Y⟩:=ak.q (by omega);have ao:=Y k N;have aA:=b2 k;have aB:(k:Int)<(v.s.length:Int):=by omega
     clear Y;have S:=qQ (R.iV v.s (λs=>!R.dx s) k N);have Q:=qQ (λh=>R.lf (p:=λs=>!R.dx s) N h);generalize v.s[k]=x at ao S Q;by_cases r:(!R.dx x)=true
     .have D:=qQ r;have hD:=qQ (R.jz y.q M.q (by
       have:=Q.q r;rw[R.q8]at this;rw[U.q,pM];simpa using this))
      clear r;go_wp2_with fail;refine(q_ _ _).mono ?_;rintro e ag ⟨rfl,rfl⟩;rw[D.q];go_wp2_with fail;go_ret;exact⟨by rw[hD.q];rfl,bp.q⟩
     have D:=qQ (show(!R.dx x)=false by simpa using r);clear r;go_wp2_with fail;refine(q_ _ _).mono ?_;rintro e ag ⟨rfl,rfl⟩;rw[D.q];go_wp2_with fail
     go_round
     case rel=>exact⟨k+1,by omega,by go_num,by rw[S.q,W.q,D.q];rfl⟩
     case measure=>simp[intOf];omega
    obtain rfl:k=v.s.length:=by omega
    have hD:=qQ (R.ng y.q M.q (by
     have:=W.q;rw[zS,R.q8]at this;rw[U.q,pM];simpa using this))
    go_wp2_with fail;go_ret;exact⟨by rw[hD.q];rfl,bp.q⟩
   have O:R.dx v.st=false:=by simpa using m
   have hD:=qQ (R.jz y.q M.q (by rw[O,Bool.false_and]));have x2:=qQ (show(!R.dx v.st)=true by rw[O];rfl);clear m O;go_enter func169,ntmps169;go_wp2_with fail;refine gH.q.mono ?_;rintro e ag ⟨rfl,rfl⟩;rw[g_.q];go_wp2_with fail;refine(q_ _ _).mono ?_;exact XM
  have hq:((v.s.length:Int) != (v.I.length:Int))=true:=by simp;omega
  have hD:=qQ (R.ob y.q hlen);clear hlen;go_enter func169,ntmps169;exact Zf
 have hD:=qQ (R.o4 j);have hq:((R.size v.I).2 != 0)=true:=by simpa using j
 clear j;go_enter func169,ntmps169;exact Zp
def ai.hK(val:Value)(v:R.V):Value:=if R.aF v=4 then .tuple #[.agg #[.int .i64 0,.slice none 0 0,.slice none 0 0],.int .i64 5]else .tuple #[val,.int .i64 0]
theorem _root_.VM{G:Prop}(r:bm)(f:dS bm->G:=by
 intro bb;have bp:=qQ ((((qK w.heap.size w).alloc (qX _) (.cells #[.int .i64 v.st,.slice A v.I.length c,.slice bK v.s.length c'] 159))).alloc (by simp) (.cells #[.int .i64 0,.slice none 0 0,.slice none 0 0] 159));revert bp;exact bb.o
 ):G:=f ⟨r⟩
theorem _root_.Vj{G:Prop}(r:bm)(f:dS bm->G:=by
 intro bb;refine(hD.q _ bp.q).mono ?_;rintro e ag ⟨rfl,bV⟩;obtain⟨dt,eG⟩:=lh bV;have ga:w.heap.size+1<ag.heap.size:=by have:=bV.size;simp at this;omega
 revert ag bV dt eG ga;exact bb.o
 ):G:=f ⟨r⟩
theorem sf(val:Value)(v:R.V)(B:Nat)(w:World)(ah:B<=w.heap.size)(h:ai.cm w B val v):Calls Tryz.prog 185 #[val] w λe w'=>e=.returned (ai.hK val v)/\Below w.heap.size w w':=by
 have hD:=qQ (λ(W:World) (m:Below w.heap.size w W)=>jq val v B W (qJ ah m.size) (h.below (m.mono ah)));have y:=qQ h;obtain⟨A,c,bK,c',rfl,ar,az,aO,bz,D,E⟩:=h;refine VM ?_;intro bp;clear ar az;by_cases i:R.aF v=4
 .have j:=qQ i;clear i;go_enter func185,ntmps185;go_wp2_with fail;refine(hD.q _ bp.q).mono ?_;rintro e ag ⟨rfl,bV⟩;rw[j.q];obtain⟨dt,eG⟩:=lh bV;have ga:w.heap.size+1<ag.heap.size:=by have:=bV.size;simp at this;omega
  go_wp2_with fail;refine qR (v:=.tuple #[.agg #[.int .i64 0,.slice none 0 0,.slice none 0 0],.int .i64 5]) (by simp[results,results185,go_sem,dt]) rfl ⟨?_,?_⟩
  .unfold ai.hK;rw[qY j.q]
  exact ai.three (bp.q.trans (bV.mono (bp.q.size))) (by omega) _ _ _
 have hq:(R.aF v == 4)=false:=by simpa using i
 have x:=qQ i;clear i;go_enter func185,ntmps185;go_wp2_with fail;refine Vj ?_;intro ag bV dt eG ga;go_wp2_with fail;have r:=qQ (ai.three (bp.q.trans (bV.mono (bp.q.size))) (xV _) (.int .i64 v.st) (.slice A v.I.length c) (.slice bK v.s.length c'));refine qR (v:=.tuple #[.agg #[.int .i64 v.st,.slice A v.I.length c,.slice bK v.s.length c'],.int .i64 0]) (by simp[results,results185,go_sem,dt]) rfl ⟨?_,?_⟩
 .unfold ai.hK;rw[qV x.q]
 exact r.q
theorem zf(val:Value)(v:R.V)(B:Nat)(w:World)(ah:B<=w.heap.size)(h:ai.cm w B val v)(m:R.aF v=0\/R.aF v=4):Calls Tryz.prog 172 #[val] w λe w'=>e=.returned (ai.hK val v)/\Below w.heap.size w w':=by
 have y:=qQ (λ(W:World) (D:Below w.heap.size w W)=>h8 val v B W (qJ ah D.size) (h.below (D.mono ah)));have S:=qQ h;obtain⟨A,c,bK,c',rfl,ar,az,aO,bz,U,X⟩:=h;refine VM ?_;intro bp;clear ar az;by_cases j:R.aF v=4
 .have x:=qQ j;clear m;clear j;go_enter func172,ntmps172;go_wp2_with fail;refine(y.q _ bp.q).mono ?_;rintro e ag ⟨rfl,i⟩;rw[x.q];obtain⟨r,O⟩:=lh i;have Q:w.heap.size+1<ag.heap.size:=by have:=i.size;simp at this;omega
  go_wp2_with fail;refine qR (v:=.tuple #[.agg #[.int .i64 0,.slice none 0 0,.slice none 0 0],.int .i64 5]) (by simp[results,results172,go_sem,r]) rfl ⟨?_,?_⟩
  .unfold ai.hK;rw[qY x.q]
  exact ai.three (bp.q.trans (i.mono (bp.q.size))) (by omega) _ _ _
 have E:=qQ (m.resolve_right j);clear m;have N:=qQ j;clear j;go_enter func172,ntmps172;go_wp2_with fail;refine(y.q _ bp.q).mono ?_;rintro e ag ⟨rfl,i⟩;rw[E.q];obtain⟨r,O⟩:=lh i;have Q:w.heap.size+1<ag.heap.size:=by have:=i.size;simp at this;omega
 go_wp2_with fail;have M:=qQ (ai.three (bp.q.trans (i.mono (bp.q.size))) (xV _) (.int .i64 v.st) (.slice A v.I.length c) (.slice bK v.s.length c'));refine qR (v:=.tuple #[.agg #[.int .i64 v.st,.slice A v.I.length c,.slice bK v.s.length c'],.int .i64 0]) (by simp[results,results172,go_sem,r]) rfl ⟨?_,?_⟩
 .unfold ai.hK;rw[qV N.q]
 exact M.q
end Go.Proofs.YtabmnaaidfpmcaaGreatDoor
end
