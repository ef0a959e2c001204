/-
  Walks. Conditions: as named.
-/
import Derived.Test.YtabmnaaidfpmcaaGreatDoorV19
import Derived.ProofKit
import Derived.SizedLaws
import Derived.WideKeyArgs
set_option linter.unusedVariables false
set_option maxRecDepth 100000
set_option maxHeartbeats 16000000
open Go.Proofs.Tryz
variable {a b:Int}{L L' d l s:List Int}{i p:Nat}{w:Go.World}
section
open aS
namespace Go.Proofs.YtabmnaaidfpmcaaGreatDoor
theorem au.kx(M:List J.Node)(op:J.Op)(l:List Int)(h:M.length<=9000000):aY.In64 (ae.add M op l).2:=by
 have:=au.iK M op l;exact⟨by omega,by omega⟩
theorem au.neg_num:aY.In64 (-1):=⟨by omega,by omega⟩
theorem au.t_(h:∀q∈s,aY.In64 q)(k:Nat):aY.In64 (s.getD k 0):=by
 rw[qU];rcases jQ k s.length with i | i
 .rw[qC i];exact h _ (qP i)
 rw[kK i];exact⟨by decide,by decide⟩
theorem au.zu{N:List J.Node}(h:N.length<=9000000)(i:aY.In64 a)(j:aY.In64 b):aY.In64 (ae.plus N a b).2:=by
 unfold ae.plus;split
 .exact j
 split
 .exact i
 exact au.kx _ _ _ h
theorem au.s8{N:List J.Node}{c:Int}(h:N.length<=8000000):aY.In64 (ae.choice N c a b d).2:=by
 unfold ae.choice;split
 .exact au.neg_num
 have i:=ae.gT N a d;have j:=ae.gT (ae.full N a d).1 b d;exact au.kx _ _ _ (by omega)
theorem au.Fg(ds:List (List Int)){N:List J.Node}{x:J.Node}{v:List Int}(h:N.length<=2000000)(m:x.a.length<=4096)(az:∀q∈s,aY.In64 q):aY.In64 (ae.bO ds N x v s d).2:=by
 unfold ae.bO;split
 .exact au.neg_num
 split
 .exact au.zu (by omega) (au.t_ az 0) (au.t_ az 1)
 split
 .split
  .exact au.t_ az 0
  have i:=ae.gT N (s.getD 0 0) d;exact au.kx _ _ _ (by omega)
 split
 .unfold ae.dn;dsimp only;obtain⟨p,hp⟩:=gz ((if s.getD 0 0<0 then(N,-1)else ae.add N x.o [s.getD 0 0,v.getD 1 0]));rw[hp];obtain⟨q,hq⟩:=gz ((if s.getD 1 0<0 then(p.1,-1)else ae.add p.1 x.o [v.getD 0 0,s.getD 1 0]));rw[hq];have i:p.1.length<=N.length+1/\aY.In64 p.2:=by
   rw[<-hp];split
   .exact⟨by simp,au.neg_num⟩
   exact⟨ae.eY _ _ _,au.kx _ _ _ (by omega)⟩
  have j:q.1.length<=p.1.length+1/\aY.In64 q.2:=by
   rw[<-hq];split
   .exact⟨by simp,au.neg_num⟩
   exact⟨ae.eY _ _ _,au.kx _ _ _ (by omega)⟩
  exact au.zu (by omega) i.2 j.2
 split
 .have i:=ae.eY N (ae.bH 7) [v.getD 0 0,v.getD 1 0];exact au.s8 (by omega)
 split
 .exact au.s8 (by omega)
 split
 .split
  .exact au.neg_num
  exact au.kx _ _ _ (by omega)
 split
 .exact au.neg_num
 have i:=ae.oL ds s x.a N;exact au.kx _ _ _ (by omega)
theorem au.ET{bm aa:List Int}(h:∀a∈aa,0<=a/\a<(L.length:Int)):ae.pick (L++bm) aa=ae.pick L aa:=by
 unfold ae.pick;refine xC λa i=>?_
 have:=h a i;rw[qU,qU,jX (by omega)]
theorem au.A8(ds:List (List Int))(V:List Int){l:List J.Node}(hi:i<l.length)(r:List J.Node × List Int):ae.dh ds V (l.drop i) i r=ae.dh ds V (l.drop (i+1)) (i+1) ((ae.bO ds r.1 l[i] (ae.pick V l[i].a) (ae.pick r.2 l[i].a) (ds.getD i [])).1,r.2++[(ae.bO ds r.1 l[i] (ae.pick V l[i].a) (ae.pick r.2 l[i].a) (ds.getD i [])).2]):=by
 rw[zX hi];rfl
theorem au.CD{g:J.bh}(h:(J.look g).2=0){k:Nat}(m:k<g.n.length)(q:J.params g.n<=k):J.right g.n[k].o.k g.n[k].a.length=0:=by
 have i:=(ae.gb h).2 k m;unfold J.aT at i;split at i
 .cases(Prod.mk.inj i).2
 split at i
 .have j:=ae.tc (op:=g.n[k].o) (args:=J.cL ((J.look g).1.take k) g.n[k].a) (by rw[i])
  rwa [show(J.cL ((J.look g).1.take k) g.n[k].a).length=g.n[k].a.length from zJ ..]at j
 rw[qY (.inl q)]at i;cases(Prod.mk.inj i).2
theorem au.EJ(ds:List (List Int))(S:List Int)(hi:i<l.length)(r:List J.Node × List Int):ae.dy ds S (l.drop i) r=ae.dy ds S (l.drop (i+1)) ((ae.full r.1 (S.getD l[i].toNat 0) (ds.getD l[i].toNat [])).1,r.2++[(ae.full r.1 (S.getD l[i].toNat 0) (ds.getD l[i].toNat [])).2]):=by
 rw[zX hi];rfl
end Go.Proofs.YtabmnaaidfpmcaaGreatDoor
end
section
namespace Go.Proofs.YtabmnaaidfpmcaaGreatDoor
open Go.RowKit aS
theorem bC.sD(a b x:Value)(l:List Value):(a::b::l).toArray.setIfInBounds 1 x=(a::x::l).toArray:=by simp
theorem au.fY{W:World}{g n b0:Nat}(h:av W g 3 (ints L).toArray)(i:L.length=n)(j:b0<=g)(hm:n<=1099511627776):W.ownsRow b0 3 1 (.slice (some ⟨g,0,none⟩) n n) n (ints L) :=
 ⟨by rw[cn,i,zF],.inr ⟨g,n,_,rfl,j,h,qX _,by unfold maxLen;omega,by rw[jA,cn,i,zF],by rw[zF];exact qT (by rw[cn];omega)⟩⟩
section
variable {D:Nat->Prop} {base b0 p:Nat} {vO:Value} {rest:List Value} {M:List J.Node} {U:Nat->Prop} {W W2:World} {L:List Int}
theorem au.I_(h:au.W base W p vO rest U M)(v:Value):au.W base (W.setCell ⟨p,1,none⟩ v) p v rest U M:=by
 obtain⟨j1,hQ,r,hm⟩:=h.mem;have i:=ch.set W ⟨p,1,none⟩ v;refine⟨λb hu=>?_,h.low,h.nodup,j1,hQ,?_,hm.c9 i.size (λb hu x=>i.block b x (λe=>(h.own b hu).2.2 e)) (λb hu _=>hu)⟩
 .obtain⟨j,m,q⟩:=h.own b hu;exact⟨j,zW m i.size,q⟩
 have:=r.bs 1 v
 rwa [bC.sD]at this
theorem au.F.outs(h:au.F D base p vO rest M W)(v:Value):au.F D base p v rest M (W.setCell ⟨p,1,none⟩ v):=by
 obtain⟨U,i,j⟩:=h;exact⟨U,au.I_ i v,λb ar=>by
  obtain⟨m,q,r,x⟩:=j b ar;exact⟨m,zW q (ch.set W ⟨p,1,none⟩ v).size,r,x⟩⟩
theorem au.F.cR(h:au.F D base p vO rest M W){b:Nat}(j:D b):base<=b/\b<W.heap.size/\b≠p:=by
 obtain⟨U,_,i⟩:=h;obtain⟨m,q,_,r⟩:=i b j;exact⟨m,q,r⟩
theorem au.F.low(h:au.F D base p vO rest M W):base<=p/\p<W.heap.size:=by
 obtain⟨U,i,_⟩:=h;exact⟨i.low,i.lt⟩
structure au.Os (D:Nat->Prop) (base b0 p:Nat) (rest:List Value) (M:List J.Node) (L:List Int) (vO:Value) (W:World):Prop where
 f:au.F (λb=>D b\/vO.ownBlock=some b) base p vO rest M W
 r:W.ownsRow b0 3 1 vO L.length (ints L)
 d:∀b,D b->vO.ownBlock≠some b
theorem au.Os.below(h:au.Os D base b0 p rest M L vO W)(i:Below W.heap.size W W2):au.Os D base b0 p rest M L vO W2:=⟨h.f.below i,af.bq h.r (λg j=>i.block g (h.r.lt g j).2),h.d⟩
theorem au.Os.call{hO:List J.Node}{f:FuncId}{args:Array Value}{r:Value}(h:au.Os D base b0 p rest M L vO W)(B:∀d_,au.W base W p vO rest d_ M->Calls Tryz.prog f args W λe w'=>e=.returned r/\au.T base W w' p vO rest d_ hO):Calls Tryz.prog f args W λe w'=>e=.returned r/\au.Os D base b0 p rest hO L vO w'/\(∀g t cs,D g->av W g t cs->av w' g t cs)/\Below base W w':=by
 refine(h.f.call B).mono ?_;rintro e w' ⟨rfl,q,i,x⟩;refine⟨rfl,⟨q,af.bq h.r (λg m=>?_),h.d⟩,λg t cs ar y=>i g t cs (.inl ar) y,x⟩;obtain⟨cs,j⟩:=bC.nF h.r m;exact(i g _ cs (.inr m) j).trans j.symm
theorem au.Os.grow{v':Value}(h:au.Os D base b0 p rest M L vO W)(ah:base<=b0)(O:W2.ownsRow b0 3 1 v' L'.length (ints L'))(V:W.grownBy W2 vO.ownBlock)(i:v'.ownBlock=vO.ownBlock\/∃z,v'.ownBlock=some z/\W.heap.size<=z):au.Os D base b0 p rest M L' v' (W2.setCell ⟨p,1,none⟩ v')/\Below base W (W2.setCell ⟨p,1,none⟩ v')/\∀g t cs,D g->av W g t cs->av (W2.setCell ⟨p,1,none⟩ v') g t cs:=by
 have q:=ch.grown V;obtain⟨U,j,m⟩:=h.f;have Q:au.W base W2 p vO rest U M:=j.c9 q (λb E=>(m b (.inr E)).2.2);have N:au.F (λb=>D b\/v'.ownBlock=some b) base p vO rest M W2:=by
  refine⟨U,Q,λb ar=>?_⟩;rcases ar with ar | ar
  .obtain⟨x,y,B,r⟩:=m b (.inl ar);exact⟨x,zW y q.size,B,r⟩
  rcases i with i | ⟨z,i,ag⟩
  .obtain⟨x,y,B,r⟩:=m b (.inr (i▸ar));exact⟨x,zW y q.size,B,r⟩
  have e:b=z:=by rw[i]at ar;injection ar with ar;exact ar.symm
  subst e;have Y:=(O.lt b i).2;have hp:=j.lt;have ak:=j.low;exact⟨by omega,Y,λhu=>by have:=(j.own b hu).2.1;omega,by omega⟩
 have Z:∀g,v'.ownBlock=some g->g≠p:=λg I=>(N.cR (.inr I)).2.2
 refine⟨⟨N.outs v',af.bq O (λg I=>qN _ _ _ _ (Z g I)),λb ar=>?_⟩,?_,λg t cs ar E=>?_⟩
 .rcases i with i | ⟨z,i,ag⟩
  .rw[i];exact h.d b ar
  rw[i];intro e;injection e with e
  have:=(m b (.inl ar)).2.1;omega
 .have S:Below base W W2:=q.below (λk X=>(m k (.inr X)).1) (qJ j.low (zG j.lt));exact S.setCell (p:=⟨p,1,none⟩) j.low _
 obtain⟨x,y,B,r⟩:=m g (.inl ar);exact av.cR (q.aL E (h.d g ar)) (p:=⟨p,1,none⟩) r _
theorem au.HU(h:au.W base W p vO rest U M):∃A c hQ,av W p 54 (.slice A M.length c::vO::hQ::rest).toArray/\b4.eJ W W.heap.size A M/\M.length<=c/\c<=9223372036854775807:=by
 obtain⟨j1,hQ,I,⟨aR,m,ah,E⟩,_⟩:=h.mem;have N:∃A c,j1=.slice A M.length c/\M.length<=c/\c<=9223372036854775807:=by
  rcases m.2 with ⟨rfl,D⟩ | ⟨g,cap,cur,rfl,_,_,hle,hm,_⟩
  .exact⟨none,0,by rw[D],by omega,by omega⟩
  exact⟨_,_,rfl,hle,by unfold maxLen at hm;omega⟩
 obtain⟨A,c,rfl,O,Q⟩:=N;refine⟨A,c,hQ,I,λhp=>?_,O,Q⟩;obtain⟨g,cap,V,_,S⟩:=m.form hp;obtain rfl:A=some ⟨g,0,none⟩:=by injection V
 refine⟨g,0,rfl,S,λi hi=>?_⟩;obtain⟨v1,v2,v3,v4,v5,v6,⟨bT,aO,bz,q,r,x,y,B⟩,s1,s2,X,Y,Z,ag⟩:=E i hi;have k:∀j u,aR[j]?=some u->W.cell? ⟨g,0+j,none⟩=some u:=λj u hu=>by
  have:=m.cells (g:=g) rfl j u hu
  rwa [jW]at this
 exact⟨v1,v2,v3,v4,v5,v6,⟨k _ _ bT,k _ _ aO,k _ _ bz,k _ _ q,k _ _ r,k _ _ x,k _ _ y,k _ _ B⟩,s1.gB,s2.gB,X.gB,Y.gB,Z.gB,ag.gB⟩
theorem au.Os.low{g0:Nat}(h:au.Os D base b0 p rest M L vO W)(Q:g0<base)(O:base<=b0)(i:Nat)(v:Value):au.Os D base b0 p rest M L vO (W.setCell ⟨g0,i,none⟩ v):=by
 have m:=ch.set W ⟨g0,i,none⟩ v;obtain⟨U,j,q⟩:=h.f;refine⟨⟨U,j.c9 m (λb x=>?_),λb ar=>?_⟩,af.bq h.r (λg y=>qN _ _ _ _ (λe=>?_)),h.d⟩
 .have e:b=g0:=x;subst e;exact⟨λhu=>by have:=(j.own _ hu).1;omega,λe=>by have:=j.low;omega⟩
 .obtain⟨B,E,I,N⟩:=q b ar;exact⟨B,zW E m.size,I,N⟩
 have:=(h.r.lt g y).1;have e:g=g0:=e;omega
theorem au.Os.graph(h:au.Os D base b0 p rest M L vO W):∃A c hQ,av W p 54 (.slice A M.length c::vO::hQ::rest).toArray/\b4.cx W W.heap.size (.agg #[.slice A M.length c,vO]) ⟨M,L⟩:=by
 obtain⟨U,i,y⟩:=h.f;obtain⟨A,c,hQ,j,m,q,x⟩:=au.HU i;exact⟨A,c,hQ,j,A,c,vO,rfl,m,q,x,af.b3 h.r⟩
theorem au.Os.mem(h:au.Os D base b0 p rest M L vO W):∃j1 hQ,av W p 54 (j1::vO::hQ::rest).toArray:=h.f.mem
theorem au.Os.Ka{g0:Nat}(h:au.Os D base b0 p rest M L vO W)(r:g0<base)(q:base<=b0):∃A c hQ,av W p 54 (.slice A M.length c::vO::hQ::rest).toArray/\∀i v j u,b4.cx ((W.setCell ⟨g0,i,none⟩ v).setCell ⟨g0,j,none⟩ u) ((W.setCell ⟨g0,i,none⟩ v).setCell ⟨g0,j,none⟩ u).heap.size (.agg #[.slice A M.length c,vO]) ⟨M,L⟩:=by
 obtain⟨A,c,hQ,m,_⟩:=h.graph;refine⟨A,c,hQ,m,λi v j u=>?_⟩;obtain⟨bK,c',B,x,y⟩:=((h.low r q i v).low r q j u).graph;have hp:p≠g0:=by have:=h.f.low.1;omega
 have e:=uL ((av.cR (av.cR m (p:=⟨g0,i,none⟩) hp v) (p:=⟨g0,j,none⟩) hp u).symm.trans x);injection e with e
 simp only[kV,zT,xO]at e;obtain⟨⟨rfl,_,rfl⟩,_⟩:=e;exact y
end
theorem au.Cp{g:J.bh}{ds:List (List Int)}{ps:Nat}{i M m hO j:List J.Node}{j6:List Int}(hw:ae.aF g=0)(q:(J.look g).1=ds)(r:J.params g.n=ps)(x:ae.begun g ps=i)(y:(ae.changes ds ps (i,[])).1=M)(B:(ae.changes ds ps (i,[])).2=L)(D:(ae.b9 ps g.n 0 (M,[])).1=m)(E:(ae.b9 ps g.n 0 (M,[])).2=j6)(I:ae.dh ds j6 (g.n.drop ps) ps (m,L)=(hO,L'))(N:ae.dy ds L' g.o (hO,ae.pick j6 g.o)=(j,l)):(ae.forward g).1=⟨j,l⟩:=by
 subst q r x y B D E;unfold ae.forward;rw[qV (by simp[hw])];dsimp only;rw[I];dsimp only;rw[N]
theorem b4.CF{B aD:Nat}{A:Option Addr}{l:List J.Node}(h:b4.eJ w B A l)(r:l.length<=aD):b4.eJ w B (if aD=p then A else Option.map (λx=>x.add (p*8)) A) (l.drop p):=λhp=>by
 rw[qS]at hp;obtain⟨b,off,rfl,q,m⟩:=h (by omega);rw[qV (by omega)];refine⟨b,off+p*8,?_,q,λi hi=>?_⟩
 .show some ((⟨b,off,none⟩:Addr).add (p*8))=_;unfold Addr.add;split
  .rename_i e;rw[e];rfl
  simp
 rw[qS]at hi;obtain⟨v1,v2,v3,v4,v5,v6,j⟩:=m (p+i) (by omega);rw[uC];refine⟨v1,v2,v3,v4,v5,v6,?_⟩;rw[Nat.add_mul,<-kZ]at j;exact j
structure au.j0 (base p:Nat) (vO:Value) (rest:List Value) (ds:List (List Int)) (N:List J.Node) (gs n k:Nat) (aw W:World):Prop where
 f:au.F (· = gs) base p vO rest (ae.changes ds k (N,[])).1 W
 b:Below base aw W
 s:av W gs 3 (ints ((ae.changes ds k (N,[])).2++List.replicate (n-k) 0)).toArray
theorem au.rJ(ds:List (List Int))(N:List J.Node):∀k,(ae.changes ds k (N,[])).2.length=k/\(ae.changes ds k (N,[])).1.length<=N.length+k/\∀q∈(ae.changes ds k (N,[])).2,0<=q/\q<=((N.length+k:Nat):Int)
 | 0=>⟨rfl,by simp[ae.changes],λq h=>by simp[ae.changes]at h⟩
 | k+1=>by
  obtain⟨j,r,m⟩:=au.rJ ds N k;have i:=au.iK (ae.changes ds k (N,[])).1 { ae.bH 1 with I:=ds.getD k [],a:=[((ae.changes ds k (N,[])).1.length:Int)] } [];refine⟨?_,?_,λq hq=>?_⟩
  .show((ae.changes ds k (N,[])).2++[_]).length=_;rw[qW,j];rfl
  .show(ae.param (ae.changes ds k (N,[])).1 (ds.getD k [])).1.length<=_;have:=i.2.2;unfold ae.param;omega
  have hq:q∈(ae.changes ds k (N,[])).2++[(ae.param (ae.changes ds k (N,[])).1 (ds.getD k [])).2]:=hq;rcases List.mem_append.1 hq with h | h
  .have:=m q h;omega
  rw[List.mem_singleton.1 h];unfold ae.param;have:=i.1;have:=i.2.1
  omega
theorem au.hz{g:J.bh}(h:ae.aF g=0):ae.h6 g<=512:=by
 unfold ae.aF at h;split at h
 .rename_i i;exact absurd h i
 split at h
 .cases h
 omega
theorem au.J0{l:List J.Node}{x:J.Node}(h:x∈l):x.a.length<=(l.map λx=>x.a.length).sum:=by
 induction l with
 | nil=>cases h
 | cons y l i =>
  rw[qE,List.sum_cons];rcases List.mem_cons.1 h with rfl | h
  .omega
  have:=i h;omega
theorem au.CE{g:J.bh}(hw:ae.aF g=0)(m:∀(k:Nat) (h:k<g.n.length),J.ahead k g.n[k].a=true)(B:g.n.length<=4096):∀x∈g.n,au.eL x.a/\x.a.length<=512:=λx i=>by
 have j:=au.hz hw;have y:=au.J0 i;unfold ae.h6 at j;refine⟨⟨by omega,λq hq=>?_⟩,by omega⟩;obtain⟨k,r,rfl⟩:=zQ i;have:=ae.bP (m k r) hq;exact⟨by omega,by omega⟩
theorem au.bY.fall{D:Nat->Prop}{base:Nat}{wr:World}{vO v:Value}{rest:List Value}{U:Nat->Prop}{M hO:List J.Node}(j:au.W base w p vO rest U M)(m:∀b,D b->base<=b/\b<w.heap.size/\¬U b/\b≠p)(h:au.bY base w p vO rest U hO L v wr):au.F (λb=>D b\/v.ownBlock=some b) base p vO rest hO wr/\Below base w wr/\wr.ownsRow w.heap.size 3 1 v L.length (ints L)/\∀g t cs,D g->av w g t cs->av wr g t cs:=by
 have y:base<=w.heap.size:=qJ j.low (zG j.lt);obtain⟨d_,i⟩:=h;refine⟨⟨d_,i.a,λb ar=>?_⟩,i.k.below (λk q=>?_) y,i.r,λg t cs ar B=>i.k.aL B (λhu=>hu.elim (m g ar).2.2.2 (m g ar).2.2.1)⟩
 .rcases ar with ar | ar
  .obtain⟨E,z2,z3,z4⟩:=m b ar;exact⟨E,zW z2 i.k.size,λhu=>(i.s b hu).elim z3 (λh=>by omega),z4⟩
  have x:=i.r.lt b ar;exact⟨qJ y x.1,x.2,(i.o b ar).1,(i.o b ar).2⟩
 rcases q with rfl | q
 .exact j.low
 exact(j.own k q).1
theorem _root_.XC{G:Prop}(h:G:=by
 unfold ae.aF at hw;by_cases e:(J.look g).2=0
 .exact e
 .rw[qY e]at hw;exact absurd hw e
 ):G:=h
theorem au.yy(val:Value)(g:J.bh)(B:Nat)(w:World)(ah:B<=w.heap.size)(eJ:b4.fE g)(h:b4.cx w B val g)(eB:g.o.length<=4194304)(eA:∀x∈g.n,au.np x.o)(eM:aY.gI w.heap.size w)(fP:∀q∈(J.look g).1,au.eL q)(hw:ae.aF g=0):Calls Tryz.prog 6 #[val] w λe w'=>∃v,e=.returned (.tuple #[v,.int .i64 0])/\b4.cx w' w'.heap.size v (ae.forward g).1/\Below w.heap.size w w':=by
 have g4:=qQ (h.bI ah);obtain⟨A,c,vo,rfl,gi,gg,iN,⟨O,co,rfl,io,lo,ja⟩⟩:=h;have fc:=qQ (gi.bI ah);have fd:=qQ (io.bI ah);obtain⟨ak,im,gG,b0,-⟩:=b8 w 25 #[.slice A g.n.length c,.slice O g.o.length co];obtain⟨ag,iq,gH,d6,-⟩:=b8 ak 25 #[.slice none 0 0,.slice none 0 0];have di:=aA b0 d6;obtain⟨gW,dE,bf,fz,c6,fj⟩:=fq (au.uy _ g ag.heap.size ag (qX _) eJ (g4.q ag di) eB eA (λW aX=>eM W (aA di aX))) di (qZ (gG.go d6) gH) b0.size eM eA;obtain⟨iG,b',iE⟩:=aK eJ fP eB;have ez:(J.look g).2=0:=by
  exact XC
 have hd:=qQ ez;have ey:(J.look g).1.length=g.n.length:=(ae.gb (g:=g) ez).1;have ie:g.n.length<=4096:=by have:=(J.k5 g).1;omega
 have eH:=J.dO g.n;have bM:=qQ (J.gX ez);have bS:=qQ hw;have h2:=λi=>bf.q.1.cell i
 clear gG gH b0 d6 di eM eA eJ fP gi io eB;go_enter func6,ntmps6;go_wp2_with (with_reducible refine gW.q.mono ?_);rintro e aC ⟨dj,cO⟩;rcases cO with ⟨d7,-⟩ | ⟨-,p,rfl,D,gR,iK,vo,iA,U,cN,eh,eI,fM,aX⟩
 .exact absurd bS.q d7
 simp only[yC,kV,zT,xO,xD,true_and]at cN;obtain⟨⟨rfl,rfl⟩,rfl⟩:=cN;have bm:=qQ (qZ ey True.intro);have hZ:∃DA dc,iA=.slice DA (J.look g).1.length dc:=by
  obtain⟨aR,a_,aW,-⟩:=eI;have b1:=aW.1;rcases a_.2 with ⟨cy,d7⟩ | ⟨bt,cap,cur,cy,-⟩
  .exact⟨none,0,by rw[cy,<-b1,d7]⟩
  exact⟨_,cap,by rw[cy,b1]⟩
 obtain⟨DA,dc,rfl⟩:=hZ;obtain⟨ca,hP,eZ,e4,b7,cb⟩:=fq (λW (b:Below D.heap.size D W)=>eI.lists.below b) (show Below w.heap.size w D from aA dE.q eh) (aA dE.q dj) fM eh (show au.F (λ_=>False) D.heap.size p (.slice none 0 0) [.slice A g.n.length c,.slice O g.o.length co,.slice DA (J.look g).1.length dc,.int .i64 (J.params g.n:Int)] (ae.begun g (J.params g.n)) aC from⟨U,aX,λb h=>h.elim⟩);have dU:=qQ (qZ (bf.q.1.go dj) (bf.q.2.go dj));have bL:=qQ (au.ya g (J.params g.n) eH);rw[ey]at cb;obtain⟨ds,dl⟩:=gz ((J.look g).1);obtain⟨n,dn⟩:=gz g.n.length;obtain⟨ps,eF⟩:=gz (J.params g.n);obtain⟨aV,d'⟩:=gz (ae.begun g ps);have ap:=qQ (qZ dl (qZ dn (qZ eF d')));rw[eF]at cb eH bL;rw[d']at cb bL;rw[dn]at cb dU ie eH gg;rw[dn,dl]at bm;rw[dl]at ca b';clear ey;have h':=λW=>dz n (by omega) W
 obtain⟨aw,iu,eR,bA,jd⟩:=b8 aC 3 (ints (List.replicate n 0)).toArray;obtain⟨e7,dG,g8⟩:=aK ((cb.q.more (qX _) bA eR.lt).G6 (D':=(· = aC.heap.size)) (λb h=>.inr h)) bA eR;have h3:=λi=>dU.q.1.cell i
 obtain⟨jn,jg,gl⟩:=e7.q.mem;have ii:=λi=>gl.cell i
 clear h2 dj eh eI fM aX dl dn eF d' bA eR im iq hw;go_wp2_with fail;obtain⟨aU,c_,hN⟩:=aK (show w.heap.size<=D.heap.size from qJ dE.q.size b7.q.size) (show D.heap.size<=aC.heap.size from e4.q.size) (show Below w.heap.size w aw from eZ.q.trans (dG.q.mono eZ.q.size));have hI:=qQ (show Below D.heap.size D aw from e4.q.trans (dG.q.mono c_.q));clear h3 ii gl iu h';go_loopw [7,31] (λ_ aT wr=>∃k:Nat,aT=.int .i64 (k:Int)/\k<=ps/\au.j0 D.heap.size p (.slice none 0 0) [.slice A n c,.slice O g.o.length co,.slice DA n dc,.int .i64 (ps:Int)] ds aV aC.heap.size n k aw wr) (λ_ aT _=>ps-(intOf aT).toNat)
 case atStart=>exact⟨0,rfl,by omega,e7.q,qK _ _,g8.q⟩
 obtain⟨k,rfl,bB,bW⟩:=hrel;obtain⟨bN,c0,fx⟩:=aK bW (hN.q.trans (bW.b.mono aU.q)) (hI.q.trans bW.b);obtain⟨aO,bz,da⟩:=au.rJ ds aV k;obtain⟨j1,hQ,hp⟩:=bW.f.mem;have iF:=qQ hp;have gp:=λi=>hp.cell i
 have gA:=bW.f.hi;clear bW hp;by_cases dm:k<ps
 .have eu:k<ds.length:=by have:=bm.q.1;omega
  obtain⟨aN,a0,rfl,ei,a9⟩:=ca.q wr fx.q (by omega);obtain⟨uk,z0,E,ce,rfl,aE,aB,aD⟩:=a9 k eu;have az:=b'.q _ (qP eu);have a':ds.getD k []=ds[k]:=by simp[eu]
  have ek:ae.changes ds (k+1) (aV,[])=((ae.param (ae.changes ds k (aV,[])).1 ds[k]).1,(ae.changes ds k (aV,[])).2++[(ae.param (ae.changes ds k (aV,[])).1 ds[k]).2]):=by rw[<-a'];rfl
  generalize ds[k]=Y at z0 aE aB aD az ek;have c1:=qQ (qZ ek True.intro);obtain⟨M,a5⟩:=gz ((ae.changes ds k (aV,[])).1);obtain⟨L,a4⟩:=gz ((ae.changes ds k (aV,[])).2);have c5:=qQ (a4▸bN.q.s);have dS:=qQ (a5▸bN.q.f);rw[a5,a4]at c1;rw[a5]at bz;rw[a4]at aO;have hn:=qQ (dS.q.call (λd_ aX=>au.EO E ce Y wr aX (λW b=>((aE.below (b.mono gA)).up (qJ gA b.size))) ⟨aB,aD⟩ az (by have:=bL.q;omega) (λW cw=>c6.q W (c0.q.trans (cw.mono aU.q)))));have i1:=b2 k;have i2:(k:Int)<ps:=by omega
  have i3:(k:Int)<n:=by omega
  have ur:=qQ (qZ aO True.intro);clear a9 aE aB aD az a' ek a5 a4 aO bz da;go_wp2_with (with_reducible refine hn.q.mono ?_);rintro e a1 ⟨rfl,fQ,fX,fK⟩;have bg:=qQ (fX _ _ _ rfl c5.q);have hlen:(L++List.replicate (n-k) 0).length=n:=by rw[qW,zP,ur.q.1];omega
  obtain⟨z,aH⟩:=gz ((ae.param M Y).2);rw[aH]at c1;have iH:=qQ (qZ aH True.intro);rw[aH];have h5:=bg.q.frozen k;obtain⟨u0,hu⟩:∃u,a1.cell? ⟨aC.heap.size,k,none⟩=some u:=⟨_,(bg.q.cell k).trans (vW (by rw[jA,cn,hlen];omega))⟩;obtain⟨cH,bb⟩:=gz (a1.setCell ⟨aC.heap.size,k,none⟩ (.int .i64 z));have dR:=qQ (bb▸fQ.set rfl k (.int .i64 z));have dH:=qQ (show Below D.heap.size aw cH from by rw[<-bb];exact(bN.q.b.trans fK).setCell (p:=⟨aC.heap.size,k,none⟩) c_.q _);have dV:=qQ (show av cH aC.heap.size 3 (ints ((L++[z])++List.replicate (n-(k+1)) 0)).toArray by
   rw[<-bb];have h:=bg.q.bs k (.int .i64 z);rw[ints_set]at h;have e:(L++List.replicate (n-k) 0).set k z=(L++[z])++List.replicate (n-(k+1)) 0:=by
    rw[show n-k=(n-(k+1))+1 by omega,qF,jZ k _ (by have:=ur.q.1;omega),ur.q.1,xB,zE];rfl
   rwa [e]at h)
  clear fQ fX fK hlen aH gp;go_wp2_with fail;go_roundw
  case rel=>exact⟨k+1,by go_num,by omega,by rw[c1.q.1];exact dR.q,dH.q,by rw[c1.q.1];exact dV.q⟩
  case measure=>simp[intOf];omega
 obtain rfl:ps=k:=by omega
 obtain⟨M,a5⟩:=gz ((ae.changes ds ps (aV,[])).1);obtain⟨L,a4⟩:=gz ((ae.changes ds ps (aV,[])).2);have c5:=qQ (a4▸bN.q.s);have dS:=qQ (a5▸bN.q.f);rw[a5]at bz;rw[a4]at aO da;have b_:=qQ (qZ (qZ a5 a4) (qZ aO (qZ bz da)));have dr:=au.CE bS.q bM.q.2.2.2.1 bM.q.2.1;have g_:=qQ dr;have cm:=qQ (λU (hY:au.W D.heap.size wr p (.slice none 0 0) [.slice A n c,.slice O g.o.length co,.slice DA n dc,.int .i64 (ps:Int)] U M)=>by
  have h:=au.mx A c (.slice O g.o.length co) (.slice DA n dc) ps g.n wr (by rw[ap.q.2.1];exact hY) (λW b=>fc.q W (c0.q.trans (b.mono aU.q))) (λx cO=>⟨fj.q x cO,(dr x cO).1,by have:=(dr x cO).2;omega⟩) (λk bB i6 a Z=>by
   have:=ae.bP (bM.q.2.2.2.1 k bB) Z;omega) bM.q.2.1 (by have:=bL.q;omega) (λW cw=>c6.q W (c0.q.trans (cw.mono aU.q)))
  rw[ap.q.2.1]at h;exact h)
 obtain⟨c',ea⟩:=gz ((ae.b9 ps g.n 0 (M,[])).1);obtain⟨j6,eb⟩:=gz ((ae.b9 ps g.n 0 (M,[])).2);rw[ea,eb]at cm;have d5:=qQ (qZ ea eb);obtain⟨hS,ec,fG⟩:=dS.q;have hJ:=qQ (cm.q hS ec);have fw:=qQ (qZ ec fG);clear a5 a4 aO bz da dr ea eb fG ec;go_wp2_with (with_reducible refine hJ.q.mono ?_);rintro e a1 jf rfl gC fV b1;obtain⟨f5,eC,eT,gJ⟩:=au.bY.fall fw.q.1 fw.q.2 gC;obtain⟨g0,iC,fi,hx,g7,bQ⟩:=fq f5 eC eT (gJ _ _ _ rfl c5.q) fV (qZ b1 True.intro);obtain⟨bd,bp,gB,_⟩:=ai.jk eT;rw[b1]at gB;subst gB;have gS:=qQ (c0.q.trans (eC.mono aU.q));have c7:=qQ (fx.q.trans eC);obtain⟨jo,jh,eD⟩:=f5.mem;have hj:=qQ eD;have iZ:p<a1.heap.size:=eD.lt;have e_:=qQ (show av a1 w.heap.size 25 #[.slice A n c,.slice O g.o.length co]from
  dU.q.1.below (show Below D.heap.size aC a1 from(dG.q.mono c_.q).trans (bN.q.b.trans eC)) (by have:=bf.q.1.lt;have:=b7.q.size;omega))
 clear f5 eC eT gJ gC fV b1 eD gp;go_wp2_with fail;have aJ:=λW (b:Below a1.heap.size a1 W)=>qZ (λi=>(e_.q.go b).cell i) (λi=>(hj.q.go b).cell i)
 have cW:=b2 ps;have cX:(ps:Int)<=c:=by omega
 have rz:(ps:Int)<=n:=by omega
 refine gx 7 (λcr=>?_);refine e5 8 57 ?_;try simp only[Act.put,bj,bk,bl]
 refine h_ (l:=[_]) [(0,49,[]),(1,50,[0]),(2,51,[]),(3,52,[2]),(4,53,[3]),(5,54,[4]),(6,55,[1,5])] [7] [.eq _,.eq _,.eq _,.eq _,.eq _,.eq _,.eq _]
  (λW=>Below a1.heap.size a1 W) (qK _ _).drew ((fr)<|(fr)<|(fr)<|(fr)<|(fr)<|(fr)<|(fr)<|fg) ?_ (λ_ _ h hV=>aA h hV)
 intros;rename_i W bu _ _ _ _ _ _ _;subst_vars;obtain⟨dI,g3,hG,hh⟩:=cV bu (g0.q.below bu) (hx.q.go bu) (af.bq fi.q (λg cB=>bu.block g (fi.q.lt g cB).2));have i7:=bu.size;have gZ:=qQ (aA gS.q bu);obtain⟨gR,d8⟩:∃X,(if c=ps then A else Option.map (λx=>x.add (ps*8)) A)=X:=⟨_,rfl⟩;have g':=qQ (λW (b:Below D.heap.size D W)=>d8▸(b4.CF (p:=ps) (fc.q D hP.q) (by rw[ap.q.2.1];exact gg)).below b);rw[d8];clear aJ cr bu d8;have gD:c'.length<=1024+1024:=by
  have a_:=ae.lq ps g.n 0 (M,[]);rw[d5.q.1]at a_;dsimp only at a_;have aW:=au.hz bS.q;unfold ae.h6 at aW;have hX:=b_.q.2.2.1;have:=bL.q;have:=ap.q.2.1;omega
 have hH:=qQ gD;have cf:=qQ (show n<=512 by
  have aW:=au.hz bS.q;unfold ae.h6 at aW;have:=ap.q.2.1;omega)
 clear gD;obtain⟨m,hm⟩:=gz (n-ps);have mE:=qQ (qZ (show n=ps+m by omega) True.intro);rw[hm];clear hm;go_wp2_with fail;obtain⟨bH,iv⟩:∃bH:World,bH=wr:=⟨_,rfl⟩;subst iv;go_loopw [9,10,57] (λ_ _ aT dC=>∃(j:Nat) (hO:List J.Node) (L':List Int),aT=.int .i64 (j:Int)/\j<=m/\ae.dh ds j6 (g.n.drop ps) ps (c',L)=ae.dh ds j6 (g.n.drop (ps+j)) (ps+j) (hO,L')/\L'.length=ps+j/\hO.length<=2048+516*j/\(∀q∈L',aY.In64 q) /\
  au.F (λb=>b=aC.heap.size\/(Value.slice bd n bp).ownBlock=some b) D.heap.size p (.slice none 0 0) [.slice A n c,.slice O g.o.length co,.slice DA n dc,.int .i64 (ps:Int)] hO dC/\Below D.heap.size W dC/\av dC aC.heap.size 3 (ints (L'++List.replicate (n-(ps+j)) 0)).toArray/\dC.ownsRow bH.heap.size 3 1 (.slice bd n bp) j6.length (ints j6)) (λ_ _ aT _=>m-(intOf aT).toNat)
 case atStart=>exact⟨0,c',L,rfl,by omega,rfl,b_.q.2.1,by have:=hH.q;omega,λq hq=>by have:=b_.q.2.2.2 q hq;have:=bL.q;exact⟨by omega,by omega⟩,g3.q,qK _ _,hG.q,hh.q⟩
 obtain⟨j,hO,L',rfl,iU,cC,bZ,cG,fW,eo,ej,gw,gj⟩:=hrel;obtain⟨ao,dP,cZ,fo,dW,dJ⟩:=fq (qZ cC (qZ bZ (qZ cG fW))) eo ej gw gj (gZ.q.trans (ej.mono aU.q));have cM:=eo.hi;clear cC bZ cG fW eo ej gw gj;have iV:j<=512:=by have:=cf.q;have:=mE.q.1;omega
 by_cases iW:j<m
 .have cE:ps+j<g.n.length:=by have:=ap.q.2.1;have:=mE.q.1;omega
  have eK:=au.A8 ds j6 cE (hO,L');have cl:=qQ (show Below D.heap.size D wr from c7.q.trans ((dI.q.mono c7.q.size).trans cZ.q));obtain⟨iI,on,rfl,iL,fF⟩:=g'.q wr cl.q (by rw[qS];omega);obtain⟨v1,v2,v3,v4,v5,v6,⟨gO,jt,ju,jv,jw,jx,gQ,jy⟩,s1,s2,dw,dx,dA,dB⟩:=fF j (by rw[qS];omega);have fD:(g.n.drop ps)[j]'(by rw[qS];omega)=g.n[ps+j]:=uC;rw[fD]at gO gQ s1 s2 dw dx dA dB;have bT:=qQ (qZ (fj.q _ (qP cE)) (g_.q _ (qP cE)));have bK:=qQ (show ∀a∈g.n[ps+j].a,0<=a/\a<((ps+j:Nat):Int)from λa Z=>by
   have:=ae.bP (bM.q.2.2.2.1 (ps+j) cE) Z;omega)
  have fn:=qQ (au.CD hd.q cE (by rw[ap.q.2.2.1];omega));generalize g.n[ps+j]=x at gO gQ s1 s2 dw dx dA dB bT bK fn eK;have cj:=qQ eK;have bU:=qQ (qZ s1 (qZ s2 (qZ dw (qZ dx (qZ dA dB)))));obtain⟨cQ,cy,rfl,_⟩:=s1;obtain⟨dp,bE,rfl,_⟩:=s2;obtain⟨cT,hs,rfl,_⟩:=dw;obtain⟨cU,db,rfl,_⟩:=dx;obtain⟨cY,df,rfl,_⟩:=dA;obtain⟨bJ,bV,rfl,fU,f'⟩:=dB;have i1:=b2 j;have i2:(j:Int)<m:=by omega
  obtain⟨S,ix,eS,eg,-⟩:=b8 wr 60 #[.int .i64 x.o.k,.slice cQ x.o.I.length cy,.slice dp x.o.a.length bE,.slice cT x.o.l.length hs,.slice cU x.o.h.length db,.slice cY x.o.s.length df,.int .i64 x.o.v,.slice bJ x.a.length bV];obtain⟨dT,a2,hR⟩:=aK (dP.q.more (qX _) eg eS.lt) eS eg;obtain⟨jp,ji,gm⟩:=dT.q.mem;have fm:=qQ gm;obtain⟨q,hq⟩:=gz (ps+j);have c4:=qQ (qZ hq True.intro);have jc:IntKind.i64.wrap ((ps:Int)+(j:Int))=(q:Int):=by
   have a_:=cf.q;have aW:=mE.q.1;rw[qA _ (by omega)];omega
  have fL:Below D.heap.size D S:=cl.q.trans (eg.mono cM);have a6:q<ds.length:=by have:=bm.q.1;have:=mE.q.1;omega
  obtain⟨aN,a0,rfl,ei,a9⟩:=ca.q S fL (by omega);obtain⟨uk,z0,E,ce,rfl,aE,aB,aD⟩:=a9 q a6;have az:=b'.q _ (qP a6);have a':ds.getD q []=ds[q]:=by simp[a6]
  rw[hq,a']at cj;rw[hq]at bK;generalize ds[q]=Y at z0 aE aB aD az cj;have dt:D.heap.size<=S.heap.size:=dT.q.hi;obtain⟨e6,dM,e9,fp,c3⟩:=fC (λW (b:Below S.heap.size S W)=>show W.cell? ⟨aN,a0+q,none⟩=some (.slice E Y.length ce)from(b.cell (p:=⟨aN,a0+q,none⟩) (by show aN<S.heap.size;omega)).trans z0) (qZ az (qZ (qZ aB aD) (λW (b:Below D.heap.size S W)=>aE.below b))) (qZ (λW (b:Below S.heap.size S W)=>((fU.below (eg.mono cM)).below (b.mono dt)).up (qJ dt b.size)) f') (fo.q.go eg) (af.bq dW.q (λg cB=>eg.block g (dW.q.lt g cB).2));have i3:=b2 q;have i4:(q:Int)<(n:Int):=by have:=mE.q.1;omega
  have ho:=qQ (λW (b:Below S.heap.size S W)=>by
   have h:=au.oU bd bJ bV bp j6 x.a W.heap.size W (qX _) (by rw[bQ.q.1];omega) (by have:=bT.q.2.2;omega) (ai.sv (af.bq c3.q (λg cB=>b.block g (c3.q.lt g cB).2))) (e9.q.1 W b) (λk bB=>by have:=bK.q k bB;have:=bQ.q.1;omega)
   rwa [bQ.q.1]at h)
  have ew:(L'++List.replicate (n-(ps+j)) 0).length=n:=by rw[qW,zP,ao.q.2.1];have:=mE.q.1;omega
  have hr:=qQ (λW (b:Below S.heap.size S W)=>by
   have h:=au.oU (some ⟨aC.heap.size,0,none⟩) bJ bV n (L'++List.replicate (n-(ps+j)) 0) x.a W.heap.size W (qX _) (by rw[ew];omega) (by have:=bT.q.2.2;omega) (au.yb (fp.q.go b)) (e9.q.1 W b) (λk bB=>by have:=bK.q k bB;omega)
   rwa [ew,au.ET (λa Z=>by have:=bK.q a Z;have:=ao.q.2.1;omega)]at h)
  clear ew;clear fF fD eK eS eg fU f' gm a9 z0 aE aB aD az a' fL a6 hq;go_wp2_with fail;clear ix;have d2:=qQ (λW (b:Below S.heap.size S W)=>show W.cell? ⟨wr.heap.size,0,none⟩=some (.int .i64 x.o.k)/\W.cell? ⟨wr.heap.size,1,none⟩=some (.slice cQ x.o.I.length cy)/\W.cell? ⟨wr.heap.size,2,none⟩=some (.slice dp x.o.a.length bE)/\W.cell? ⟨wr.heap.size,3,none⟩=some (.slice cT x.o.l.length hs)/\W.cell? ⟨wr.heap.size,4,none⟩=some (.slice cU x.o.h.length db)/\W.cell? ⟨wr.heap.size,5,none⟩=some (.slice cY x.o.s.length df)/\W.cell? ⟨wr.heap.size,6,none⟩=some (.int .i64 x.o.v)/\W.cell? ⟨wr.heap.size,7,none⟩=some (.slice bJ x.a.length bV)/\W.cell? ⟨p,5,none⟩=some (.slice (some ⟨aN,a0,none⟩) n dc)/\W.cell? ⟨p,6,none⟩=some (.int .i64 (ps:Int))/\W.cell? ⟨aN,a0+q,none⟩=some (.slice E Y.length ce)from
   ⟨(a2.q.go b).cell 0,(a2.q.go b).cell 1,(a2.q.go b).cell 2,(a2.q.go b).cell 3,(a2.q.go b).cell 4,(a2.q.go b).cell 5,(a2.q.go b).cell 6,(a2.q.go b).cell 7,(fm.q.go b).cell 5,(fm.q.go b).cell 6,e6.q W b⟩)
  refine fk (λW=>W.cell? ⟨wr.heap.size,0,none⟩=some (.int .i64 x.o.k)/\W.cell? ⟨wr.heap.size,1,none⟩=some (.slice cQ x.o.I.length cy)/\W.cell? ⟨wr.heap.size,2,none⟩=some (.slice dp x.o.a.length bE)/\W.cell? ⟨wr.heap.size,3,none⟩=some (.slice cT x.o.l.length hs)/\W.cell? ⟨wr.heap.size,4,none⟩=some (.slice cU x.o.h.length db)/\W.cell? ⟨wr.heap.size,5,none⟩=some (.slice cY x.o.s.length df)/\W.cell? ⟨wr.heap.size,6,none⟩=some (.int .i64 x.o.v)/\W.cell? ⟨wr.heap.size,7,none⟩=some (.slice bJ x.a.length bV)/\W.cell? ⟨p,5,none⟩=some (.slice (some ⟨aN,a0,none⟩) n dc)/\W.cell? ⟨p,6,none⟩=some (.int .i64 (ps:Int))/\W.cell? ⟨aN,a0+q,none⟩=some (.slice E Y.length ce)) 30 32 (d2.q _ (qK _ _).drew) (λcr=>?_);simp only[qF,qG];refine aG 0 62 ?_;refine aG 1 63 ?_;refine aG 2 64 ?_;refine aG 3 65 ?_;refine aG 4 66 ?_;refine aG 5 67 ?_;refine aG 6 68 ?_;refine aG 7 69 ?_;refine aG 8 70 ?_;refine aG 9 71 ?_;refine aG 10 72 ?_;refine aG 11 73 ?_;refine aG 13 75 ?_;refine aG 14 76 ?_;refine aG 15 77 ?_;refine aG 17 79 ?_;refine aG 18 80 ?_;refine aG 19 81 ?_;refine aG 20 82 ?_;refine aG 21 83 ?_;refine aG 22 84 ?_;refine aG 23 85 ?_;refine aG 24 86 ?_;refine aG 25 87 ?_;refine aG 26 88 ?_;refine aG 27 89 ?_;refine aG 28 90 ?_;try simp only[Act.put,bj,bk,bl]
  refine fT 12 (λK aI=>?_);go_simp;with_reducible refine(ho.q _ (qK _ _).drew).mono ?_
  rintro e bc ⟨rfl,a7,aL⟩;have c9:=qQ (show Below S.heap.size S bc from(show Below S.heap.size S S.drew from(qK _ _).drew).trans aL);have cm:=qQ (show av bc S.heap.size 3 (ints (ae.pick j6 x.a)).toArray from a7);refine aI.q _ _ ⟨d2.q _ c9.q,trivial⟩ (λcr=>?_);clear aI K a7 aL;try simp only[bj,bk,bl]
  refine fT 16 (λK aI=>?_);go_simp;with_reducible refine(hr.q _ c9.q).mono ?_
  rintro e b3 ⟨rfl,a7,aL⟩;obtain⟨a3,hE,hM⟩:=aK (show Below S.heap.size S b3 from aA c9.q aL) a7 (cm.q.go aL);refine aI.q _ _ ⟨d2.q _ a3.q,trivial⟩ (λcr=>?_);clear aI K a7 aL;try simp only[bj,bk,bl]
  have aZ:Below D.heap.size wr b3:=(hR.q.mono cM).trans (a3.q.mono dt);have du:Below D.heap.size S b3:=a3.q.mono dt;have gE:=c9.q.size;have ik:=a3.q.size;have gf:=bT.q.2.2;have hD:=qQ (dT.q.call2 (W2:=b3) (gs:=bc.heap.size) a3.q gE (λd_ h0 fJ iY=>by
   have h:=au.Ff (base:=D.heap.size) (p:=p) (vO:=.slice none 0 0) (vF:=.slice A n c) (vo:=.slice O g.o.length co) (vp:=.int .i64 (ps:Int)) (U:=d_) (AD:=E) (cD:=ce) (d:=Y) (DA:=some ⟨aN,a0,none⟩) (dc:=dc) (N:=hO) (w:=b3) (x:=x)
    (val:=.agg #[.int .i64 x.o.k,.slice cQ x.o.I.length cy,.slice dp x.o.a.length bE,.slice cT x.o.l.length hs,.slice cU x.o.h.length db,.slice cY x.o.s.length df,.int .i64 x.o.v,.slice bJ x.a.length bV]) (gv:=S.heap.size) (gs:=bc.heap.size) ds (ae.pick j6 x.a) (ae.pick L' x.a) x.a.length
    ⟨by rw[bm.q.1];exact h0,⟨_,_,_,_,_,_,rfl,bU.q.1.below aZ,bU.q.2.1.below aZ,bU.q.2.2.1.below aZ,bU.q.2.2.2.1.below aZ,bU.q.2.2.2.2.1.below aZ,bU.q.2.2.2.2.2.below aZ⟩,hM.q,hE.q,⟨λhu=>by have:=fJ _ hu;omega,by omega,by omega,by have:=cm.q.lt;omega⟩,⟨λhu=>by have:=fJ _ hu;omega,by omega⟩,
     λW b=>(dM.q.2.2 W (du.trans b)).up (by have:=b.size;have:=du.size;omega),dM.q.2.1,dM.q.1,bT.q.1,by have:=ao.q.2.2.1;have:=cf.q;have:=mE.q.1;omega,λW aX=>c6.q W (dJ.q.trans ((aZ.trans aX).mono aU.q))⟩
    (by simp[ae.pick]) (by simp[ae.pick]) rfl gf (λW b=>ca.q W (cl.q.trans (aZ.trans b))) b'.q (by have:=du.size;omega) (λa Z=>by have:=bK.q a Z;have:=bm.q.1;have:=mE.q.1;have:=c4.q.1;omega) (au.ri g7.q) (au.ri ao.q.2.2.2) fn.q
   rw[bm.q.1]at h;exact h))
  refine fT 29 (λK aI=>?_);go_simp;with_reducible refine hD.q.mono ?_
  rintro e eX ⟨rfl,f6,dv,e2⟩;have a8:=qQ (dv _ _ _ (.inr rfl) (a2.q.go a3.q));obtain⟨jq,jj,eE⟩:=f6.mem;refine aI.q _ _ ⟨⟨a8.q.cell 0,a8.q.cell 1,a8.q.cell 2,a8.q.cell 3,a8.q.cell 4,a8.q.cell 5,a8.q.cell 6,a8.q.cell 7,eE.cell 5,eE.cell 6,(e2.cell (p:=⟨aN,a0+q,none⟩) ei).trans (e6.q b3 a3.q)⟩,trivial⟩ (λcr=>?_);clear aI K eE;try simp only[bj,bk,bl]
  refine eW [_,_] 30 [31] ?_;have bg:=qQ (dv _ _ _ (.inl (.inl rfl)) (fp.q.go a3.q));have fh:=qQ (show eX.ownsRow bH.heap.size 3 1 (.slice bd n bp) j6.length (ints j6)from af.bq c3.q (λbt bv=>by
   obtain⟨cs,fO⟩:=bC.nF c3.q bv;exact(dv bt _ cs (.inl (.inr bv)) (av.go fO a3.q)).trans fO.symm))
  have fv:=qQ (au.Fg ds (N:=hO) (x:=x) (v:=ae.pick j6 x.a) (s:=ae.pick L' x.a) (d:=Y) (by have:=ao.q.2.2.1;have:=cf.q;have:=mE.q.1;omega) (by omega) (au.ri ao.q.2.2.2));have ft:=qQ (ae.tN ds hO x (ae.pick j6 x.a) (ae.pick L' x.a) Y);obtain⟨M2,fI⟩:=gz ((ae.bO ds hO x (ae.pick j6 x.a) (ae.pick L' x.a) Y).1);obtain⟨z,aH⟩:=gz ((ae.bO ds hO x (ae.pick j6 x.a) (ae.pick L' x.a) Y).2);rw[aH]at fv cj;rw[fI]at ft cj f6;rw[aH];clear aH fI;have Ld:=qQ (show q=L'.length by have:=ao.q.2.1;have:=c4.q.1;omega);have gd:(L'++List.replicate (n-(ps+j)) 0).length=n:=by rw[qW,zP,ao.q.2.1];have:=mE.q.1;omega
  have h5:=bg.q.frozen q;obtain⟨u0,hu⟩:∃u,eX.cell? ⟨aC.heap.size,q,none⟩=some u:=⟨_,(bg.q.cell q).trans (vW (by rw[jA,cn,gd];omega))⟩;obtain⟨cH,bb⟩:=gz (eX.setCell ⟨aC.heap.size,q,none⟩ (.int .i64 z));have dR:=qQ ((bb▸f6.set (.inl (.inl rfl)) q (.int .i64 z)).G6 (D':=λb=>b=aC.heap.size\/(Value.slice bd n bp).ownBlock=some b) (λb h=>.inl h));have dH:=qQ (show Below D.heap.size W cH from by rw[<-bb];exact((cZ.q.trans aZ).trans e2).setCell (p:=⟨aC.heap.size,q,none⟩) c_.q _);have dV:=qQ (show av cH aC.heap.size 3 (ints ((L'++[z])++List.replicate (n-(ps+(j+1))) 0)).toArray by
   rw[<-bb];have h:=bg.q.bs q (.int .i64 z);rw[ints_set]at h;have e:(L'++List.replicate (n-(ps+j)) 0).set q z=(L'++[z])++List.replicate (n-(ps+(j+1))) 0:=by
    rw[show n-(ps+j)=(n-(ps+(j+1)))+1 by have:=mE.q.1;omega,qF,jZ q _ (by rw[Ld.q];exact qX _),Ld.q,xB,zE];rfl
   rwa [e]at h)
  have hb:=qQ (show cH.ownsRow bH.heap.size 3 1 (.slice bd n bp) j6.length (ints j6)from by
   rw[<-bb];exact af.bq fh.q (λbt bv=>qN _ _ _ _ (λe=>by
    have a_:=(fh.q.lt bt bv).1;have aW:=c5.q.lt;have hX:bt=aC.heap.size:=e;omega)))
  clear f6 dv e2 gd aZ du gE ik gf;go_wp2_with fail;go_roundw
  case rel=>exact⟨j+1,M2,L'++[z],by go_num,by omega,by rw[ao.q.1,c4.q.1,cj.q,show ps+(j+1)=q+1 by have:=c4.q.1;omega],by rw[qW,ao.q.2.1];rfl,by have:=ao.q.2.2.1;have:=ft.q;have:=bT.q.2.2;omega,λa Z=>by
   rcases List.mem_append.1 Z with h | h
   .exact ao.q.2.2.2 a h
   rw[List.mem_singleton.1 h];exact fv.q,dR.q,dH.q,dV.q,hb.q⟩
  case measure=>simp[intOf];omega
 have hU:j=m:=by omega
 subst hU;have g1:=qQ (show ae.dh ds j6 (g.n.drop ps) ps (c',L)=(hO,L') by
  rw[ao.q.1,kQ (by have:=ap.q.2.1;have:=mE.q.1;omega)];exact rfl)
 have g9:=qQ (qZ (show L'.length=n by have:=ao.q.2.1;have:=mE.q.1;omega) True.intro);have fu:=qQ (show av wr aC.heap.size 3 (ints L').toArray by
  have h:=fo.q;rw[show n-(ps+j)=0 by have:=mE.q.1;omega,qG,xM]at h;exact h)
 have iX:g.o.length<=512:=by
  have aW:=au.hz bS.q;unfold ae.h6 at aW;omega
 have eY:=qQ (show ∀a∈g.o,0<=a/\a<(n:Int)from λa Z=>by
  have a_:=ae.bP bM.q.2.2.2.2 Z;have:=ap.q.2.1;omega)
 have eG:=au.oU bd O co bp j6 g.o wr.heap.size wr (qX _) (by rw[bQ.q.1];omega) (by omega) (ai.sv dW.q) (fd.q wr dJ.q) (λa Z=>by have:=eY.q a Z;have:=bQ.q.1;omega);rw[bQ.q.1]at eG;have hv:=qQ eG;obtain⟨jr,jl,gn⟩:=dP.q.mem;obtain⟨hl,cl,e'⟩:=aK gn (show Below D.heap.size D wr from c7.q.trans ((dI.q.mono c7.q.size).trans cZ.q)) (show w.heap.size<D.heap.size by have:=bf.q.1.lt;have:=b7.q.size;omega);have e8:=qQ (show av wr w.heap.size 25 #[.slice A n c,.slice O g.o.length co]from(e_.q.go dI.q).below cZ.q e'.q);have h8:=λi=>e8.q.cell i
 clear eG gn;go_wp2_with (with_reducible refine hv.q.mono ?_);rintro e cH ⟨rfl,a7,aL⟩;have V:=hl.q.go aL;have iT:=V.frozen 1;have i0:=λi=>V.cell i
 obtain⟨dX,eO⟩:=gz (cH.setCell ⟨p,1,none⟩ (.slice (some ⟨wr.heap.size,0,none⟩) g.o.length g.o.length));have cq:=dP.q.more (qX _) aL a7.lt;have fH:=cq.outs (.slice (some ⟨wr.heap.size,0,none⟩) g.o.length g.o.length);have gu:=au.fY (b0:=D.heap.size) a7 (show(ae.pick j6 g.o).length=g.o.length by simp[ae.pick]) cM (by omega);have hg:=qQ (show au.Os (· = aC.heap.size) D.heap.size D.heap.size p [.slice A n c,.slice O g.o.length co,.slice DA n dc,.int .i64 (ps:Int)] hO (ae.pick j6 g.o) (.slice (some ⟨wr.heap.size,0,none⟩) g.o.length g.o.length) dX from by
  rw[<-eO];refine⟨fH.G6 (λb h=>?_),?_,λb ar=>?_⟩
  .rcases h with h | h
   .exact .inl (.inl h)
   simp only[Value.ownBlock,zZ]at h;exact .inr h.symm
  .rw[show(ae.pick j6 g.o).length=g.o.length by simp[ae.pick]];exact af.bq gu (λbt bv=>qN _ _ _ _ (λe=>by
    simp only[Value.ownBlock,zZ]at bv;exact(cq.cR (b:=bt) (.inr bv.symm)).2.2 e))
  simp only[Value.ownBlock,ne_eq,zZ];have a_:=fu.q.lt;have aW:b=aC.heap.size:=ar;omega)
 have cz:Below D.heap.size wr dX:=by rw[<-eO];exact(aL.mono cM).setCell (p:=⟨p,1,none⟩) cq.low.1 _
 obtain⟨iD,gY,hL⟩:=aK cz (dJ.q.trans (cz.mono aU.q)) (cl.q.trans cz);have hA:=qQ (show av dX aC.heap.size 3 (ints L').toArray from by
  rw[<-eO];exact av.cR (fu.q.go aL) (p:=⟨p,1,none⟩) (cq.cR (b:=aC.heap.size) (.inl (.inl rfl))).2.2 _)
 have h9:=λi=>(e8.q.below cz e'.q).cell i
 clear a7 aL V cq fH gu cz h8;go_wp2_with fail;obtain⟨js,iw⟩:∃bH:World,bH=wr:=⟨_,rfl⟩;subst iw;go_loopw [12,13,106] (λ_ _ aT eV=>∃(k:Nat) (Q:List J.Node) (l:List Int) (vO:Value),aT=.int .i64 (k:Int)/\k<=g.o.length/\ae.dy ds L' g.o (hO,ae.pick j6 g.o)=ae.dy ds L' (g.o.drop k) (Q,l)/\l.length=g.o.length+k/\Q.length<=hO.length+k /\
  au.Os (· = aC.heap.size) D.heap.size D.heap.size p [.slice A n c,.slice O g.o.length co,.slice DA n dc,.int .i64 (ps:Int)] Q l vO eV/\Below D.heap.size dX eV/\av eV aC.heap.size 3 (ints L').toArray) (λ_ _ aT _=>g.o.length-(intOf aT).toNat)
 case atStart=>exact⟨0,hO,ae.pick j6 g.o,_,rfl,yX _,by rw[vV],by simp[ae.pick],qX _,hg.q,qK _ _,hA.q⟩
 obtain⟨k,Q,l,vO,rfl,bB,cC,bZ,cG,cJ,dk,gy⟩:=hrel;have aq:=qQ (qZ cC (qZ bZ cG));obtain⟨b6,cu,cN,_⟩:=ai.jk cJ.r;rw[bZ]at cN;subst cN;obtain⟨bn,e3,d1,dK,fy⟩:=fC cJ dk gy (gY.q.trans (dk.mono aU.q)) (hL.q.trans dk);have ij:=qJ cJ.f.low.1 (zG cJ.f.low.2);clear cC bZ cG cJ dk gy h9;by_cases dm:k<g.o.length
 .obtain⟨iJ,jb,rfl,iM,fN⟩:=fd.q wr dK.q (by omega);have ig:=fN k dm;have dg:=eY.q _ (qP dm);have cL:=au.EJ ds L' dm (Q,l);obtain⟨a,Z⟩:∃a:Nat,g.o[k]=(a:Int):=⟨_,(Int.toNat_of_nonneg dg.1).symm⟩;rw[Z]at ig dg cL;rw[xY]at cL;obtain⟨z,aH⟩:∃z,L'[a]?=some z:=⟨_,qC (by have:=g9.q.1;omega)⟩;have fS:L'.getD a 0=z:=by rw[qU,aH];rfl
  have iQ:wr.cell? ⟨aC.heap.size,a,none⟩=some (.int .i64 z):=d1.q.at (by simp[ints,aH]);have a6:a<ds.length:=by have:=bm.q.1;omega
  obtain⟨aN,a0,rfl,ei,a9⟩:=ca.q wr fy.q (by omega);obtain⟨uk,z0,E,ce,rfl,aE,aB,aD⟩:=a9 a a6;have az:=b'.q _ (qP a6);have a':ds.getD a []=ds[a]:=by simp[a6]
  rw[fS,a']at cL;have d3:=qQ cL;generalize ds[a]=Y at z0 aE aB aD az d3;have i8:=b2 k;have i9:(k:Int)<(g.o.length:Int):=by omega
  have i_:=b2 a;have i':(a:Int)<(n:Int):=dg.2;clear fN cL fS aH a9 a' dg Z a6;by_cases gF:z<0
  .have cd:=qQ (qZ (show ae.full Q z Y=ae.cA Q Y by unfold ae.full;rw[qY gF]) True.intro);have c2:=qQ (au.lT Q Y).2.2;have ia:=(au.lT Q Y);have ha:=qQ (bn.q.call (λd_ aX=>au.mq E ce Y wr aX ((aE.up ij)) ⟨aB,aD⟩ az (by have:=aq.q.2.2;have:=ao.q.2.2.1;have:=cf.q;have:=mE.q.1;omega) (λW cw=>c6.q W (dK.q.trans (cw.mono aU.q)))));obtain⟨gN,gM,V⟩:=bn.q.mem;have cK:=λi=>V.cell i
   clear V aE aB aD az ia;go_wp2_with (with_reducible refine ha.q.mono ?_);rintro e hk rfl gL gK fB;obtain⟨cg,gU,hB⟩:=aK gL (e3.q.trans fB) (gK _ _ _ rfl d1.q);obtain⟨fA,d9⟩:=gz ((ae.cA Q Y).1);obtain⟨y,eQ⟩:=gz ((ae.cA Q Y).2);rw[d9]at cg c2;rw[eQ];have cd:=qQ (qZ (show ae.full Q z Y=(fA,y) by rw[cd.q.1,<-d9,<-eQ]) True.intro);clear eQ d9 gL gK fB cK;obtain⟨bc,iy,cP,aP,iz⟩:=b8 hk 3 #[.int .i64 y];have aQ:=cg.q.below aP;have bD:=aQ.r;rw[aq.q.2.1]at bD;obtain⟨ci,dL,d4⟩:=aK aQ (gU.q.trans (aP.mono (Nat.le_of_lt_succ (Nat.lt_succ_of_le (qJ cg.q.f.low.1 (zG cg.q.f.low.2)))))) (hB.q.go aP);obtain⟨gN,gM,V⟩:=cg.q.mem;have cK:=λi=>V.cell i
   have dZ:=qQ (V.go aP);have h1:D.heap.size<=bc.heap.size:=qJ aQ.f.low.1 (zG aQ.f.low.2);clear aQ aP V;go_wp2_with (at_builtin;refine au.push bD cP (by omega) (by omega) ?_);intro b5 cp eU cI bw cF;have V:=dZ.q.grown bw (λe=>(ci.q.f.cR (b:=p) (.inr e.symm)).2.2 rfl);have h7:=V.frozen 1;have ih:=λi=>V.cell i
   obtain⟨iB,eN⟩:=gz (eU.setCell ⟨p,1,none⟩ (.slice b5 (g.o.length+k+1) cp));obtain⟨bG,bo,bF⟩:=ci.q.grow (L':=l++[y]) (qX _) (by rw[qW,aq.q.2.1];exact cI) bw (cF.imp id (λh=>⟨_,h,by omega⟩));rw[eN]at bG bo bF;obtain⟨dY,dF,d0⟩:=aK bG (dL.q.trans bo) (bF _ _ _ rfl d4.q);clear cI bw cF bD cP cK bG bo bF V;go_wp2_with fail;go_roundw
   case rel=>exact⟨k+1,fA,l++[y],.slice b5 (g.o.length+k+1) cp,by go_num,by omega,by rw[aq.q.1,d3.q,cd.q.1],by rw[qW,aq.q.2.1];rfl,by have:=aq.q.2.2;have:=c2.q;omega,dY.q,dF.q,d0.q⟩
   case measure=>simp[intOf];omega
  have cd:=qQ (qZ (show ae.full Q z Y=(Q,z) by unfold ae.full;rw[qV gF]) True.intro);have c2:=qQ (show Q.length<=Q.length+1 from xV _);clear aE aB aD az;obtain⟨bc,iy,cP,aP,iz⟩:=b8 wr 3 #[.int .i64 z];have aQ:=bn.q.below aP;have bD:=aQ.r;rw[aq.q.2.1]at bD;obtain⟨ci,dL,d4⟩:=aK aQ (e3.q.trans (aP.mono (Nat.le_of_lt_succ (Nat.lt_succ_of_le (qJ bn.q.f.low.1 (zG bn.q.f.low.2)))))) (d1.q.go aP);obtain⟨gN,gM,V⟩:=bn.q.mem;have cK:=λi=>V.cell i
  have dZ:=qQ (V.go aP);have h1:D.heap.size<=bc.heap.size:=qJ aQ.f.low.1 (zG aQ.f.low.2);clear aQ aP V;go_wp2_with (at_builtin;refine au.push bD cP (by omega) (by omega) ?_);intro b5 cp eU cI bw cF;have V:=dZ.q.grown bw (λe=>(ci.q.f.cR (b:=p) (.inr e.symm)).2.2 rfl);have h7:=V.frozen 1;have ih:=λi=>V.cell i
  obtain⟨iB,eN⟩:=gz (eU.setCell ⟨p,1,none⟩ (.slice b5 (g.o.length+k+1) cp));obtain⟨bG,bo,bF⟩:=ci.q.grow (L':=l++[z]) (qX _) (by rw[qW,aq.q.2.1];exact cI) bw (cF.imp id (λh=>⟨_,h,by omega⟩));rw[eN]at bG bo bF;obtain⟨dY,dF,d0⟩:=aK bG (dL.q.trans bo) (bF _ _ _ rfl d4.q);clear cI bw cF bD cP cK bG bo bF V;go_wp2_with fail;go_roundw
  case rel=>exact⟨k+1,Q,l++[z],.slice b5 (g.o.length+k+1) cp,by go_num,by omega,by rw[aq.q.1,d3.q,cd.q.1],by rw[qW,aq.q.2.1];rfl,by have:=aq.q.2.2;have:=c2.q;omega,dY.q,dF.q,d0.q⟩
  case measure=>simp[intOf];omega
 obtain rfl:k=g.o.length:=by omega
 have g2:=qQ (show ae.dy ds L' g.o (hO,ae.pick j6 g.o)=(Q,l) by
  rw[aq.q.1,kQ (by omega)];exact rfl)
 have fb:=qQ (show ak.heap.size<D.heap.size by have:=bf.q.2.lt;have:=b7.q.size;omega);obtain⟨be,br,jm,gq,fR⟩:=bn.q.Ka fb.q (qX _);have g6:=qQ fR;have bX:av wr ak.heap.size 25 #[.slice none 0 0,.slice none 0 0]:=((bf.q.2.go b7.q).below fy.q fb.q);obtain⟨wf,eP⟩:=gz ((wr.setCell ⟨ak.heap.size,0,none⟩ (.slice be Q.length br)).setCell ⟨ak.heap.size,1,none⟩ (.slice b6 (g.o.length+g.o.length) cu));have fZ:av wf ak.heap.size 25 #[.slice be Q.length br,.slice b6 (g.o.length+g.o.length) cu]:=by rw[<-eP];exact(bX.bs 0 (.slice be Q.length br)).bs 1 (.slice b6 (g.o.length+g.o.length) cu)
 have gV:=qQ (show Below w.heap.size w wf by rw[<-eP];exact(dK.q.setCell (p:=⟨ak.heap.size,0,none⟩) fz.q _).setCell (p:=⟨ak.heap.size,1,none⟩) fz.q _);have g5:=qQ (show b4.cx wf wf.heap.size (.agg #[.slice be Q.length br,.slice b6 (g.o.length+g.o.length) cu]) (ae.forward g).1 by
  rw[au.Cp bS.q ap.q.1 ap.q.2.2.1 ap.q.2.2.2 b_.q.1.1 b_.q.1.2 d5.q.1 d5.q.2 g1.q g2.q,<-eP];exact g6.q _ _ _ _)
 have iO:=λi=>bX.cell i
 have iR:=λi=>bX.frozen i
 have iP:=λi=>(bX.bs 0 (.slice be Q.length br)).cell i
 have iS:=λi=>(bX.bs 0 (.slice be Q.length br)).frozen i
 have h4:=λi=>fZ.cell i
 have i5:=λi=>gq.cell i
 clear fR bX fZ gq;go_wp2_with fail;refine qR (v:=.tuple #[.agg #[.slice be Q.length br,.slice b6 (g.o.length+g.o.length) cu],.int .i64 0]) (by simp[results,results6,go_sem,h4]) rfl ⟨_,rfl,g5.q,gV.q⟩
def al.GY(l:List Int):c8:=⟨λv w=>af.aN w w.heap.size v l,λi h=>(h.below i).up i.size⟩
theorem _root_.Qs{G:Prop}(h:G:=by
 intros;rename_i K aI;subst_vars;have a_:=(show Below aw.heap.size aw _ by assumption);obtain⟨T,aD,rfl,hi,-⟩:=(show af.aN _ _ _ (ae.hg g) by assumption);go_simp;with_reducible refine(LF.q _ a_ T aD hi).mono ?_
 rintro e hG ⟨rfl,aE⟩;exact aI.q _ _ aE rfl
 ):G:=h
theorem _root_.ZN{G:Prop}(h:G:=by
 intros;rename_i K aI;subst_vars;have a_:=(show Below aw.heap.size aw _ by assumption);go_simp;with_reducible refine(Md.q _ a_).mono ?_
 rintro e hG ⟨v,rfl,az,aE⟩;exact aI.q _ _ aE az
 ):G:=h
theorem al.y0(val:Value)(g:J.bh)(G ah:Option Addr)(aZ cu:Nat)(r bY:List ad.ay)(w:World)(h:b4.cx w w.heap.size val g)(bM:b4.fE g)(cp:al.bo w w.heap.size G r)(cq:al.bo w w.heap.size ah bY)(bG:g.o.length<=4194304)(cA:∀x∈g.n,au.np x.o)(cD:aY.gI w.heap.size w)(cy:r.length<=8388608)(cz:bY.length<=8388608)(cB:∀a∈r,∀x∈a.e,ad.dv x)(cC:∀a∈bY,∀x∈a.e,ad.dv x):Calls Tryz.prog 3 #[val,.slice G r.length aZ,.slice ah bY.length cu] w λe w'=>e=.returned (.bool true)/\Below w.heap.size w w':=by
 obtain⟨S,a6,bf⟩:=aK (λW (aE:Below w.heap.size w W)=>(h.below aE).up aE.size) (λW (aE:Below w.heap.size w W)=>(cp.below aE).up aE.size) (λW (aE:Below w.heap.size w W)=>(cq.below aE).up aE.size);obtain⟨A,c,vo,rfl,-,-,-,⟨O,co,rfl,-⟩⟩:=h;obtain⟨ak,dn,bP,b0,-⟩:=b8 w 25 #[.slice A g.n.length c,.slice O g.o.length co];have aL:=qQ b0;have bX:=qQ bP;have cE:=λi=>bP.cell i
 obtain⟨aX,b7,bc,V,bd,b3⟩:=fq (λW (aE:Below w.heap.size w W)=>al.Dk _ g W.heap.size W (qX _) bM (S.q W aE) bG) (show aY.gI ak.heap.size ak from λW da=>cD W (aA b0 da)) cA bM bG (qZ cB cC);obtain⟨dr,a2⟩:=gz r.length;obtain⟨dt,a3⟩:=gz bY.length;have N:=qQ (qZ a2 a3);rw[a2]at cy;rw[a3]at cz;rw[a2,a3];clear cp cq bP b0 cA bM bG cD cB cC a2 a3;by_cases hw:ae.aF g=0
 .have a4:(J.look g).2=0:=by
    exact XC
  obtain⟨U,cU,X,be,bV⟩:=fC a4 (au.yy _ g ak.heap.size ak (qX _) V.q (S.q ak aL.q) bd.q bc.q b7.q (au.nu a4) hw) hw (au.xc a4 V.q) (ae.yz (g:=g));rw[hw]at aX;clear a4 hw;go_enter func3,ntmps3;go_wp2_with (with_reducible refine cU.q.mono ?_);rintro e ag ⟨dx,rfl,bD,E⟩;obtain⟨f,bB⟩:=gz ((ae.forward g).1);rw[bB]at bD be bV;have bU:=qQ (qZ bB True.intro);have bW:=qQ (λW (b:Below ag.heap.size ag W)=>(bD.below b).up b.size);obtain⟨a5,bn,dy,rfl,-,-,-,⟨OF,bp,rfl,-⟩⟩:=bD;have a7:=qQ (aA aL.q E);obtain⟨aC,bN,aH,B,-⟩:=b8 ag 25 #[.slice a5 f.n.length bn,.slice OF f.o.length bp];obtain⟨ap,aU,aT,c5⟩:=cV (aA a7.q B) aH ((bX.q.go E).go B) B;have bO:=λi=>aT.q.cell i
  have dj:=λi=>aU.q.cell i
  clear bB E aH B cE;go_wp2_with (with_reducible refine(aX.q _ ap.q).mono ?_);rintro e aw ⟨rfl,M⟩;obtain⟨I,bR,aV⟩:=aK (aA ap.q M) (aA c5.q M) (qZ (aT.q.go M) (aU.q.go M));clear M bO dj;go_wp2_with fail;obtain⟨c6,E⟩:=gz (ae.j_ (J.look g).1 (ae.hg g) r);obtain⟨B,bA⟩:=gz (ae.j_ (J.look g).1 (ae.hg g) bY);have Md:=qQ (λW (b:Below aw.heap.size aw W)=>al.AU _ g W.heap.size W (qX _) (S.q W (aA I.q b)) (by have c2:=J.dO g.n;have bS:=(J.gX U.q).2.1;omega));have bH:(ae.hg g).length<=1099511627776:=by
   rw[ae.zn];have c2:=J.dO g.n;have bS:=(J.gX U.q).2.1;omega
  have LF:=qQ (λW (b:Below aw.heap.size aw W) (T:Option Addr) (aD:Nat) (hi:ai.ao W W.heap.size T (ae.hg g))=>by
   have h:=al.ys _ g T aD (ae.hg g) G aZ r W.heap.size W (qX _) (S.q W (aA I.q b)) V.q U.q hi (a6.q W (aA I.q b)) ae.BO bH
   rwa [E,N.q.1]at h)
  have cY:=qQ (λW (b:Below aw.heap.size aw W) (T:Option Addr) (aD:Nat) (hi:ai.ao W W.heap.size T (ae.hg g))=>by
   have h:=al.ys _ g T aD (ae.hg g) ah cu bY W.heap.size W (qX _) (S.q W (aA I.q b)) V.q U.q hi (bf.q W (aA I.q b)) ae.BO bH
   rwa [bA,N.q.2]at h)
  have bQ:=qQ (qZ E bA);have b9:=qQ (show ∀x∈g.n,ad.dv x.o.v from λx di=>(bc.q x di).2.1);have c0:=qQ (ae.pa (ae.yu U.q b9.q) (au.hz X.q));have cZ:=qQ (show(J.look f).2=0 by
   obtain⟨cj,D,c2,-,c_,-⟩:=c0.q;rw[<-bU.q.1,c2,c_])
  have b_:=qQ (λW (b:Below ag.heap.size ag W)=>by
   have h:=al.tS _ f W.heap.size W (qX _) be.q (bW.q W b)
   rwa [cZ.q]at h)
  clear bH E bA;have aJ:=λW (b:Below aw.heap.size aw W)=>λi=>(aV.q.1.go b).cell i
  cases c6 with
  | false =>
   refine hM (l:=[_]) [(0,33,[]),(1,34,[]),(2,35,[1]),(3,36,[]),(4,37,[0,2,3]),(5,38,[4]),(6,39,[5]),(7,40,[6]),(8,41,[6]),(9,42,[8,6]),(10,43,[6]),(11,44,[7,9,10,6]),(12,45,[11,6])] [13] [.eq _,.eq _,al.GY (ae.hg g),.eq _,.eq (.bool false),.eq _,.eq _,.eq undef,.eq undef,.eq undef,.eq undef,.eq undef,.eq undef]
    (λW=>Below aw.heap.size aw W) (qK _ _).drew ((iA)<|(iA)<|Bx ?_<|(iA)<|Bx ?_<|(iA)<|(iA)<|lG<|lG<|lG<|lG<|lG<|lG<|Hr) ?_ (λ_ _ h br=>aA h br)
   .exact ZN
   .exact Qs
   intros;rename_i W a_ _ _ _ _ _ _ _ _ _ _ _ _ _;subst_vars;have aP:=qQ (aA bR.q a_);have Q:=qQ (aA I.q a_);have cw:=aV.q.2.go a_;have aB:=λi=>cw.cell i
   clear aJ a_ cw;go_wp2_with (with_reducible refine(b_.q _ aP.q).mono ?_);rintro e hG ⟨rfl,aq⟩;have a':=qQ (aA Q.q aq);clear aB aq;go_wp2_with fail;go_ret;exact⟨rfl,a'.q⟩
  | true =>
   refine hM (l:=[_]) [(0,33,[]),(1,34,[]),(2,35,[1]),(3,36,[]),(4,37,[0,2,3]),(5,38,[4]),(6,39,[5]),(7,40,[6]),(8,41,[6]),(9,42,[8,6]),(10,43,[6]),(11,44,[7,9,10,6]),(12,45,[11,6])] [13] [.eq _,.eq _,al.GY (ae.hg g),.eq _,.eq (.bool true),.eq _,.eq _,.eq _,.eq _,al.GY (ae.hg g),.eq _,.eq (.bool B),.eq _]
    (λW=>Below aw.heap.size aw W) (qK _ _).drew ((iA)<|(iA)<|Bx ?_<|(iA)<|Bx ?_<|(iA)<|(iA)<|(nv)<|(nv)<|J' ?_<|(nv)<|J' ?_<|(nv)<|Hr) ?_ (λ_ _ h br=>aA h br)
   .exact ZN
   .exact Qs
   .exact ZN
   .intros;rename_i K aI;subst_vars;have a_:=(show Below aw.heap.size aw _ by assumption);obtain⟨T,aD,rfl,hi,-⟩:=(show af.aN _ _ _ (ae.hg g) by assumption);go_simp;with_reducible refine(cY.q _ a_ T aD hi).mono ?_
    exact JQ
   intros;rename_i W a_ _ _ _ _ _ _ _ _ _ _ _ _ _;subst_vars;obtain⟨aP,Q,bb⟩:=aK (aA bR.q a_) (aA I.q a_) (qZ (aV.q.1.go a_) (aV.q.2.go a_));have aB:=λi=>bb.q.1.cell i
   have cF:=λi=>bb.q.2.cell i
   clear aJ a_;cases B with
   | false =>
    go_wp2_with (with_reducible refine(b_.q _ aP.q).mono ?_);rintro e hG ⟨rfl,aq⟩;have a':=qQ (aA Q.q aq);clear aB cF aq;go_wp2_with fail;go_ret;exact⟨rfl,a'.q⟩
   | true =>
    have a0:=ae.Ig U.q bQ.q.1 bQ.q.2 b3.q.1 b3.q.2 b9.q;obtain⟨cj,D,ca,cb,cd,cf,cg,ci⟩:=ae.pa a0 (au.hz X.q);obtain rfl:f=cj:=by rw[<-bU.q.1,ca]
    have dl:=qQ a0;have y:=qQ (qZ cb (qZ cd (qZ cf (qZ cg ci))));have b5:=qQ (by
     have h:=al.A7 _ g G ah aZ cu r bY W.heap.size W (qX _) (S.q W Q.q) V.q (a6.q W Q.q) (bf.q W Q.q) a0 bd.q
     rwa [N.q.1,N.q.2]at h)
    obtain⟨cW,bE⟩:∃l,(g.o.map λo=>ad.nth (ae.values r g.n) o.toNat)=l:=⟨_,rfl⟩;obtain⟨cX,bF⟩:∃l,(g.o.map λo=>ad.nth (ae.hF bY (ae.values r g.n) g.n []) o.toNat)=l:=⟨_,rfl⟩;have aW:=qQ (qZ (show cW.length=g.o.length by rw[<-bE,zJ]) (show cX.length=g.o.length by rw[<-bF,zJ]));rw[bE,bF]at b5 y;obtain⟨bm,bw⟩:=gz (r++bY);rw[bw]at y;have c1:=qQ (qZ bw True.intro);clear bw;clear a0 ca cb cd cf cg ci bE bF;go_wp2_with (with_reducible refine b5.q.mono ?_);rintro e m ⟨v1,v2,rfl,bI,bJ,a1⟩;obtain⟨aQ,aO,rfl,-,-⟩:=bI.form;obtain⟨bt,bz,rfl,-,-⟩:=bJ.form;obtain⟨b2,a8,cT,bZ⟩:=cV (λbg (b:Below m.heap.size m bg)=>qZ ((bI.hE.below b).up b.size) ((bJ.hE.below b).up b.size)) (aA Q.q a1) (aA aP.q a1) (bb.q.2.go a1);clear aB cF bI bJ a1;go_wp2_with fail;have cO:=qQ (λbg (b:Below m.heap.size m bg)=>by
     have h:=al.u_ G ah aZ cu r bY bg.heap.size bg (qX _) (a6.q bg (aA a8.q b)) (bf.q bg (aA a8.q b)) (by rw[N.q.1];exact cy) (by rw[N.q.2];exact cz)
     rwa [c1.q.1,N.q.1,N.q.2]at h)
    have cP:=qQ (λbg (b:Below m.heap.size m bg) (T:Option Addr) (aD:Nat) (hi:al.bo bg bg.heap.size T bm) =>
     al.F4 _ f T aD bm D bg.heap.size bg (qX _) (bW.q bg (aA cT.q b)) be.q hi y.q.1 y.q.2.1 y.q.2.2.1 y.q.2.2.2.1 (by have:=bV.q;have bS:=au.hz X.q;unfold ae.h6 at bS;omega))
    have b6:=qQ (λbg (b:Below m.heap.size m bg)=>show bg.cell? ⟨ag.heap.size,0,none⟩=some (.slice a5 f.n.length bn)/\bg.cell? ⟨ag.heap.size,1,none⟩=some (.slice OF f.o.length bp)from⟨(bZ.q.go b).cell 0,(bZ.q.go b).cell 1⟩);refine fk (λbg=>bg.cell? ⟨ag.heap.size,0,none⟩=some (.slice a5 f.n.length bn)/\bg.cell? ⟨ag.heap.size,1,none⟩=some (.slice OF f.o.length bp)) 4 10 (b6.q _ (qK _ _).drew) (λbu=>?_);simp only[qF,qG];refine aG 0 58 ?_;refine e5 1 59 ?_;refine e5 2 60 ?_;try simp only[Act.put,bj,bk,bl]
    refine fT 3 (λK aI=>?_);go_simp;with_reducible refine(cO.q _ (qK _ _).drew).mono ?_
    rintro e cG ⟨bK,c',rfl,az,aE⟩;have a9:=qQ (show Below m.heap.size m cG from(show Below m.heap.size m m.drew from(qK _ _).drew).trans aE);have cQ:=qQ (cP.q cG a9.q bK c' az);refine aI.q _ _ ⟨b6.q _ a9.q,trivial⟩ (λbu=>?_);clear aI K az aE;try simp only[bj,bk,bl]
    refine eh 4 (by kernel_rfl) (dq rfl rfl (by kernel_rfl) (λK aI=>?_));go_simp;with_reducible refine cQ.q.mono ?_
    rintro e Y ⟨v5,rfl,bL,aE⟩;have a_:=aA a9.q aE;refine aI.q _ _ trivial (λbu=>?_);clear aI K aE;try simp only[bj,bk,bl]
    refine mw 5 57 ?_;refine mw 6 63 ?_;refine mw 7 64 ?_;try simp only[Act.put,bj,bk,bl]
    refine eW [_,_] 8 [9] ?_;obtain⟨cI,c7,rfl,-,-⟩:=bL.form;obtain⟨c3,dm,cK,b1,cN⟩:=fC (λbg (b:Below Y.heap.size Y bg)=>(bL.hE.below b).up b.size) a_ (aA a8.q a_) (qZ (show(ae.aR bm f.n f.o).length=(cW++cX).length by rw[y.q.2.2.2.2]) True.intro) (al.u_ aQ bt aO bz cW cX Y.heap.size Y (qX _) (b2.q Y a_).1 (b2.q Y a_).2 (by rw[aW.q.1];have bS:=au.hz X.q;unfold ae.h6 at bS;omega) (by rw[aW.q.2];have bS:=au.hz X.q;unfold ae.h6 at bS;omega));clear bu bL a_;go_wp2_with (with_reducible refine cN.q.mono ?_);rintro e cH ⟨cJ,c9,rfl,dh,cl⟩;have cL:=qQ (aA cK.q cl);have c4:=qQ (by
     have h:=al.z8 cI cJ c7 c9 (cW++cX) cH.heap.size cH (qX _) (by have:=c3.q cH cl;rwa [y.q.2.2.2.2]at this) dh (by rw[qW,aW.q.1,aW.q.2];have bS:=au.hz X.q;unfold ae.h6 at bS;omega) (by rw[<-y.q.2.2.2.2];exact ae.G4 y.q.1 y.q.2.2.2.1)
     rwa [<-b1.q.1]at h)
    rw[<-b1.q.1];go_wp2_with (with_reducible refine c4.q.mono ?_);rintro e dX ⟨rfl,cm⟩;have cM:=qQ (aA cL.q cm);clear cm;go_wp2_with fail;go_ret;exact⟨rfl,cM.q⟩
 have hq:=hw;obtain⟨bq,cn⟩:=gz (ae.aF g);have bT:=qQ (au.AJ _ g ak.heap.size ak (qX _) V.q (S.q ak aL.q) bd.q bc.q b7.q hw);rw[cn]at bT aX hq;have du:(bq != 0)=true:=by simpa using hq
 have dw:(bq != bq)=false:=by simp
 clear hw cn hq;go_enter func3,ntmps3;go_wp2_with (with_reducible refine bT.q.mono ?_);rintro e ag ⟨rfl,E⟩;have a7:=qQ (aA aL.q E);obtain⟨dk,dp,Z,b',-⟩:=b8 ag 25 #[.slice none 0 0,.slice none 0 0];have db:=λi=>Z.cell i
 have df:=λi=>Z.frozen i
 have dc:=λi=>(Z.bs 0 (.slice none 0 0)).cell i
 have dg:=λi=>(Z.bs 0 (.slice none 0 0)).frozen i
 obtain⟨aC,bN⟩:=gz ((dk.setCell ⟨ag.heap.size,0,none⟩ (.slice none 0 0)).setCell ⟨ag.heap.size,1,none⟩ (.slice none 0 0));have aH:av aC ag.heap.size 25 #[.slice none 0 0,.slice none 0 0]:=by rw[<-bN];exact(Z.bs 0 (.slice none 0 0)).bs 1 (.slice none 0 0)
 have B:Below ag.heap.size ag aC:=by rw[<-bN];exact(b'.setCell (p:=⟨ag.heap.size,0,none⟩) (qX _) _).setCell (p:=⟨ag.heap.size,1,none⟩) (qX _) _
 obtain⟨ap,aU,aT⟩:=aK (aA a7.q B) aH ((bX.q.go E).go B);have bO:=λi=>aT.q.cell i
 clear E aH B cE Z b';go_wp2_with (with_reducible refine(aX.q _ ap.q).mono ?_);rintro e aw ⟨rfl,M⟩;have I:=qQ (aA ap.q M);have cr:=aU.q.go M;have aB:=λi=>cr.cell i
 clear M bO cr db df dc dg;go_wp2_with fail;go_ret;exact⟨rfl,I.q⟩
end Go.Proofs.YtabmnaaidfpmcaaGreatDoor
end
section
namespace aS
open Go Go.RowKit Go.WideShapes Go.ChangeShapes
section
variable {H:Type} {enc:TypeId × Value->H}
theorem pg{P:Program}(j:laidOutB P=true){W bg:World}{sp:Nat->Bool} : ∀{ts:List TypeId} {aR:List Value} {ds:List (DataW H)} {ps:List MemPlace},(∀t∈ts,P.readableRec t=true/\t<P.types.size)->DataW.TrodAll enc P W 0 (λ_=>true) true ts aR ds ps->(∀p∈ps,W.sameAt bg p)->(∀p∈ps,sp p.block=true)->DataW.TrodAll enc P bg 0 sp true ts aR ds ps
 | [],[],[],_,_,h,_,_=>h
 | t::ts,v::aR,d::ds,ps,m,h,az,hp=>by
  obtain⟨p,q,r,y,rfl⟩:=h;have a:=m t (by simp);exact⟨p,q,Go.WideElems.Trod_stays j a.1 a.2 r (λx i=>az x (by simp[i])) (λx i=>hp x (by simp[i])),
   pg j (λu hu=>m u (by simp[hu])) y (λx i=>az x (by simp[i])) (λx i=>hp x (by simp[i])),rfl⟩
 | [],[],_::_,_,_,h,_,_=>h.elim
 | [],_::_,_,_,_,h,_,_=>h.elim
 | _::_,[],_,_,_,h,_,_=>h.elim
 | _::_,_::_,[],_,_,h,_,_=>h.elim
theorem oz{P:Program}{W:World}{sp:Nat->Bool}{b:Nat}{ar:Bool} : ∀{ts:List TypeId} {aR:List Value} {ds:List (DataW H)} {ps:List MemPlace},DataW.TrodAll enc P W b sp ar ts aR ds ps->ds.length=ts.length
 | [],[],[],_,_=>rfl
 | t::ts,v::aR,d::ds,ps,h=>by
  obtain⟨p,q,_,i,rfl⟩:=h;simp[oz i]
 | [],[],_::_,_,h=>h.elim
 | [],_::_,_,_,h=>h.elim
 | _::_,[],_,_,h=>h.elim
 | _::_,_::_,[],_,h=>h.elim
theorem AW{P:Program}{f:Func}{s:ChangeSpec}{qy:TypeId}(S:laidOutB P=true)(E:s.vars=[])(V:f.resultTypes=#[qy])(Q:P.underlying qy=some .bool)(U:∀t∈f.params.toList,P.readableRec t=true/\t<P.types.size)(az:∀ds:List (DataW H),ds.length=f.params.toList.length->(s.fn H ds).results=[.lit (.bool true)]/\(s.fn H ds).args=ds/\(s.fn H ds).vars=[]){W bg:World}{args:Array Value}{ds gs:List (DataW H)}{before:List MemPlace}(j:DataW.Whole enc P f.params.toList s.vars false W args.toList ds gs before)(y:Below W.heap.size W bg):s.post enc P f false true false false W args (.bool true) bg:=by
 have B:∀p∈before,p.block<W.heap.size:=λp hp=>j.lt p hp
 have O:=j;obtain⟨p,q,r,i,D,Y,X⟩:=j;rw[E]at i;obtain⟨rfl,rfl⟩:gs=[]/\q=[]:=by
  cases gs with
  | nil=>exact⟨rfl,i⟩
  | cons g gs=>exact i.elim
 rw[xM]at D;subst D;obtain⟨I,M,N⟩:=az (ds++[]) (by rw[xM];exact oz r);refine⟨ds,[],before,[],before,[],O,?_,?_,?_,World.keptBut_mono (λp hp=>⟨hp,.inr (.inl hp)⟩) (y.frame (·∈before)),λh=>by cases h⟩
 .rw[I,V];exact⟨[],[],⟨1,by simp[DataW.trod,Q,Value.cells]⟩,rfl,rfl⟩
 .rw[M,xM];exact pg S U r (λx m=>y.same (B x m)) (λx m=>by simpa using B x m)
 rw[N,E];rfl
end
end aS
end
