/-
  ViewO, ViewP, ViewQ, ViewR. Conditions: where the theorems name them.
-/
import Derived.Test.YtabmnaaidfpmcaaGreatDoorV05
import Derived.Deep.DeepCutAuto
set_option linter.unusedVariables false
set_option maxRecDepth 100000
set_option maxHeartbeats 16000000
open Go.Proofs.Tryz
variable {cs:Array Go.Value}{st:Int}{bf xs:List Int}{N a8 base cap g n n':Nat}{bm:Prop}{e:Go.TypeId}{v v1 v2:Go.Value}{bD w:Go.World}
section
namespace Go.Proofs.YtabmnaaidfpmcaaGreatDoor
open Go.RowKit aS
attribute [local go_sem ↓] Go.wp_at_zero Go.wp_at_succ
namespace ai
structure nQ (N a8:Nat) (bD:World) (st:Int) (v1 v2:Value) (xs bf:List Int) (W:World):Prop where
 aL:av W a8 159 #[.int .i64 st,v1,v2]
 b7:W.ownsRow N 3 1 v1 xs.length (ints xs)
 bw:W.ownsRow N 3 1 v2 bf.length (ints bf)
 bJ:v1.ownBlock≠some a8
 bn:v2.ownBlock≠some a8
 apart:∀b,v1.ownBlock=some b->v2.ownBlock=some b->False
 below:Below N bD W
 low:N<=a8
theorem nQ.drew{N a8:Nat}{bD W:World}{st:Int}{v1 v2:Value}{xs bf:List Int}(h:nQ N a8 bD st v1 v2 xs bf W):nQ N a8 bD st v1 v2 xs bf W.drew :=
 ⟨h.aL.drew,h.b7.drew,h.bw.drew,h.bJ,h.bn,h.apart,h.below.drew,h.low⟩
theorem nQ.qm{W:World}(h:nQ N a8 bD st v1 v2 xs bf W)(x:Int):nQ N a8 bD x v1 v2 xs bf (W.setCell ⟨a8,0,none⟩ (.int .i64 x)) :=
 ⟨h.aL.bs 0 _,h.b7.kept (cT W a8 0 _) (.inr h.bJ),h.bw.kept (cT W a8 0 _) (.inr h.bn),h.bJ,h.bn,h.apart,h.below.setCell (p:=⟨a8,0,none⟩) h.low _,h.low⟩
theorem _root_.Zs{G:Prop}(h:G:=by
 rw[xJ];have:ints (bf.set j x)=(ints bf).set j (.int .i64 x):=by unfold ints;rw[uE]
 rw[this];exact az.1
 ):G:=h
theorem nQ.qx{W:World}(h:nQ N a8 bD st v1 (.slice (some ⟨g,0,none⟩) bf.length cap) xs bf W)(j:Nat)(x:Int):nQ N a8 bD st v1 (.slice (some ⟨g,0,none⟩) (bf.set j x).length cap) xs (bf.set j x) (W.setCell ⟨g,j,none⟩ (.int .i64 x)):=by
 have az:=h.bw.stored j (.int .i64 x);have i:g≠a8:=λe=>h.bn (by simp[Value.ownBlock,e])
 have m:=h.bw.lt g rfl;rw[xJ];refine⟨h.aL.cR (p:=⟨g,j,none⟩) (zK i) _,h.b7.kept az.2 ?_,?_,h.bJ,h.bn,h.apart,h.below.setCell (p:=⟨g,j,none⟩) m.1 _,h.low⟩
 .cases q:v1.ownBlock with
  | none=>exact .inl rfl
  | some b=>exact .inr λe=>h.apart b q (by cases e;rfl)
 exact Zs
theorem _root_.Zk{G:Prop}(h:G:=by
 apply uN
 .simp[Kd]
 .intro i c2 bS;have:i=0\/i=1\/i=2:=by simp at bS;omega
  rcases this with rfl | rfl | rfl<;>simp[Kd]
 ):G:=h
theorem nQ.laid{W:World}(q:av W a8 159 cs)(Kd:cs.size=3)(y:W.ownsRow N 3 1 v1 xs.length (ints xs))(B:W.ownsRow N 3 1 v2 bf.length (ints bf))(bJ:v1.ownBlock≠some a8)(bn:v2.ownBlock≠some a8)(ap:∀b,v1.ownBlock=some b->v2.ownBlock=some b->False)(r:Below N bD W)(low:N<=a8):nQ N a8 bD st v1 v2 xs bf (((W.setCell ⟨a8,0,none⟩ (.int .i64 st)).setCell ⟨a8,1,none⟩ v1).setCell ⟨a8,2,none⟩ v2):=by
 have m:=((q.bs 0 (.int .i64 st)).bs 1 v1).bs 2 v2;have x:((cs.setIfInBounds 0 (.int .i64 st)).setIfInBounds 1 v1).setIfInBounds 2 v2=#[.int .i64 st,v1,v2]:=by
  exact Zk
 rw[x]at m;have k:∀{v:Value} {l:List Int},W.ownsRow N 3 1 v l.length (ints l)->v.ownBlock≠some a8->(((W.setCell ⟨a8,0,none⟩ (.int .i64 st)).setCell ⟨a8,1,none⟩ v1).setCell ⟨a8,2,none⟩ v2).ownsRow N 3 1 v l.length (ints l) :=
  λh j=>((h.kept (cT _ a8 0 _) (.inr j)).kept (cT _ a8 1 _) (.inr j)).kept (cT _ a8 2 _) (.inr j)
 exact⟨m,k y bJ,k B bn,bJ,bn,ap,three r low _ _ _,low⟩
theorem nQ.fresh{W:World}(i:W.ownsRow N 3 1 v1 xs.length (ints xs))(j:W.ownsRow N 3 1 v2 bf.length (ints bf))(ap:∀b,v1.ownBlock=some b->v2.ownBlock=some b->False)(m:Below N bD W)(low:N<=W.heap.size):nQ N W.heap.size bD st v1 v2 xs bf (W.alloc (.cells #[.int .i64 st,v1,v2] 159)) :=
 ⟨av.new W _ _,i.alloc _,j.alloc _,λe=>by have:=(i.lt _ e).2;omega,λe=>by have:=(j.lt _ e).2;omega,ap,m.alloc low _,low⟩
theorem qi{xs:List Value}(h:w.ownsRow base e 1 v n xs){b:Nat}(i:w.heap.size<=b):v.ownBlock≠some b:=λe=>by
 have:=(h.lt b e).2;omega
theorem lU{w':World}{lg:Nat}{v':Value}{xs KI:List Value}(h:w.ownsRow base e 1 v n xs)(m:w'.ownsRow lg e 1 v' n' KI)(q:w.heap.size<=lg):∀b,v.ownBlock=some b->v'.ownBlock=some b->False:=λb i j=>by
 have:=(h.lt b i).2;have:=(m.lt b j).1;omega
theorem q1{B B':Nat}{A bK:Option Addr}{c bz:Nat}{v:R.V}{val:Value}(h:cm w B val v)(U:val=.agg #[.int .i64 st,.slice A n c,.slice bK n' bz]){cc:Nat}(g1:∀b off,A=some ⟨b,off,none⟩->0<v.I.length->b≠cc)(g2:∀b off,bK=some ⟨b,off,none⟩->0<v.s.length->b≠cc)(ah:B<=B')(x y z:Value):cm (((w.setCell ⟨cc,0,none⟩ x).setCell ⟨cc,1,none⟩ y).setCell ⟨cc,2,none⟩ z) B' val v:=by
 obtain⟨D,j,D',m,i,O,Q,S⟩:=h;subst U;simp only[yC,kV,zT,xO,xD]at i;obtain⟨q,⟨rfl,r,E⟩,rfl,M,N⟩:=i;refine⟨A,j,bK,m,?_,(O.hj g1 x y z).up ah,(Q.hj g2 x y z).up ah,S⟩;subst r E M N;rw[q]
theorem nQ.view{W:World}(h:nQ N a8 bD st v1 v2 xs bf W):∃aQ bJ bt bn,v1=.slice aQ xs.length bJ/\v2=.slice bt bf.length bn/\cm W W.heap.size (.agg #[.int .i64 st,.slice aQ xs.length bJ,.slice bt bf.length bn]) ⟨st,xs,bf⟩/\(∀b off,aQ=some ⟨b,off,none⟩->0<xs.length->N<=b)/\∀b off,bt=some ⟨b,off,none⟩->0<bf.length->N<=b:=by
 obtain⟨aQ,bJ,m,r,y,D,i⟩:=df h.b7;obtain⟨bt,bn,q,x,B,E,j⟩:=df h.bw;exact⟨aQ,bJ,bt,bn,m,q,⟨aQ,bJ,bt,bn,rfl,r,x,y,D,B,E⟩,i,j⟩
end ai
theorem _root_.QK{G:Prop}(h:G:=by
 clear Lm mb fm Mm b0 eT dT Mk cb;have d2:W2.cell? ⟨a8,2,none⟩=some (.slice (some ⟨g2,0,none⟩) v.s.length m2):=by rw[<-Hi.q];exact hN.q.aL.cell 2
 have yq:W2.cell? ⟨g2,q,none⟩=some (.int .i64 s):=by rw[hN.q.bw.cellAt q (by rw[Hi.q];omega),ints_at _ q (by rw[Hi.q];omega),Lf.q]
 have Ih:=hN.q.bw.frozenAt q;have M4:IntKind.i64.wrap (-s)=-s:=qA _ (by omega);refine fk (λw'=>w'.cell? ⟨a8,2,none⟩=some (.slice (some ⟨g2,0,none⟩) v.s.length m2)/\w'.cell? ⟨g2,q,none⟩=some (.int .i64 s)) 9 11 (⟨d2,yq⟩) (λax=>?_);simp only[qF,qG];refine aG 0 55 ?_;refine aG 1 56 ?_;refine aG 2 57 ?_;refine aG 3 58 ?_;refine aG 4 59 ?_;refine aG 5 60 ?_;refine aG 6 61 ?_;refine aG 7 62 ?_;refine aG 8 63 ?_;try simp only[Act.put,bj,bk,bl]
 refine eW [_,_] 9 [10] ?_;have cj:=qQ (hN.q.qx q (-s)).drew;clear ax d2;go_wp2_with fail;have og:=qQ (show ai.nQ ag.heap.size a8 ag (R.dH v p (q+1)) (.slice (some ⟨g1,0,none⟩) v.I.length m1) (.slice (some ⟨g2,0,none⟩) (R.bW v p q).length m2) v.I (R.bW v p (q+1)) (W2.setCell ⟨g2,q,none⟩ (.int .i64 (-s))).drew by
  have h:=cj.q;rw[Dw.q]at h;rw[eQ.q];simp only[R.dV]at h |-;exact h)
 first
  | exact⟨⟨k+1,q+1,by omega,by go_num,by omega,lx.q.1,lx.q.2,og.q⟩,by simp[intOf];omega⟩
  | (go_roundw
     case rel=>exact⟨k+1,q+1,by omega,by go_num,by omega,lx.q.1,lx.q.2,og.q⟩
     case measure=>simp[intOf];omega)
 ):G:=h
theorem _root_.Ql{G:Prop}(h:G:=by
 exact⟨⟨(ht.cell (p:=⟨w.heap.size,0,none⟩) (by simp<;>omega)).trans ax.1.1,(ht.cell (p:=⟨w.heap.size,1,none⟩) (by simp<;>omega)).trans ax.1.2.1,(ht.cell (p:=⟨w.heap.size,2,none⟩) (by simp<;>omega)).trans ax.1.2.2⟩,trivial⟩
 ):G:=h
theorem _root_.Qe{G:Prop}(h:G:=by
 exact⟨⟨(h0.cell (p:=⟨w.heap.size,0,none⟩) (by simp<;>omega)).trans ax.1.1,(h0.cell (p:=⟨w.heap.size,1,none⟩) (by simp<;>omega)).trans ax.1.2.1,(h0.cell (p:=⟨w.heap.size,2,none⟩) (by simp<;>omega)).trans ax.1.2.2⟩,trivial⟩
 ):G:=h
theorem _root_.Xz{G:Prop}(h:G:=by
 clear nA Lr lL Ki ht h0 ax;go_wp2_with fail
 go_meet
 exact⟨_,_,_,rfl,cb.q⟩
 ):G:=h
theorem _root_.JM{G:Prop}(r:bm)(f:dS bm->G:=by
 intro bb;refine fk (λw'=>w'.cell? ⟨a8,0,none⟩=some (.int .i64 st)/\w'.cell? ⟨a8,1,none⟩=some (.slice (some ⟨g1,0,none⟩) v.I.length m1)/\w'.cell? ⟨a8,2,none⟩=some (.slice (some ⟨g2,0,none⟩) v.s.length m2)/\w'.cell? ⟨g1,q,none⟩=some (.int .i64 d)/\w'.cell? ⟨g2,q,none⟩=some (.int .i64 s)) 16 18 (⟨b0,eT,dT,mb,fm⟩) (λax=>?_);simp only[qF,qG];refine aG 0 38 ?_;refine aG 1 39 ?_;refine aG 2 40 ?_;refine aG 3 41 ?_;refine aG 4 42 ?_;refine aG 5 43 ?_;refine aG 6 44 ?_;refine aG 7 45 ?_;refine aG 8 46 ?_;refine aG 9 47 ?_;refine aG 10 48 ?_;refine aG 11 49 ?_;refine aG 12 50 ?_;refine aG 13 51 ?_;refine aG 14 52 ?_;refine aG 15 53 ?_;try simp only[Act.put,bj,bk,bl]
 refine eW [_,_] 16 [17] ?_;revert ax;exact bb.o
 ):G:=f ⟨r⟩
theorem _root_.JS{G:Prop}(r:bm)(f:dS bm->G:=by
 intro bb;refine I0.q.mono ?_;rintro e Fu ⟨rfl,h0⟩;have y7:=x1.q.below h0 x1.q.lt;have ek:Fu.cell? ⟨w.heap.size+1,0,none⟩=some (.int .i64 0):=y7.cell 0;have en:Fu.cell? ⟨w.heap.size+1,1,none⟩=some (.slice none 0 0):=y7.cell 1;have eo:Fu.cell? ⟨w.heap.size+1,2,none⟩=some (.slice none 0 0):=y7.cell 2;have f0:=y7.frozen 0;have f1:=y7.frozen 1;have f2:=y7.frozen 2;have gR:=qQ (λx y z=>ai.three (aA fF.q h0) (xV w.heap.size) x y z);have Bf:=qQ (x3.q.below h0);have Cv:cN.heap.size<=Fu.heap.size:=h0.size;have Cw:w.heap.size+1<cN.heap.size:=x1.q.lt;clear y7 h0;revert Fu ek en eo f0 f1 f2 gR Bf Cv Cw;exact bb.o
 ):G:=f ⟨r⟩
theorem FC(val:Value)(v:R.V)(P:Option Addr)(aH:Nat)(p:List Int)(B:Nat)(w:World)(ah:B<=w.heap.size)(h:ai.cm w B val v)(hp:ai.ao w B P p)(cy:p.length<=aH)(cz:aH<=9223372036854775807):Calls Tryz.prog 162 #[val,.slice P p.length aH] w λe w'=>ai.fb 0 w w' (R.flip v p) e/\Below w.heap.size w w':=by
 have hD:=qQ (λ(W:World) (X:Below w.heap.size w W)=>jq val v B W (qJ ah X.size) (h.below (X.mono ah)));have a2:=qQ hp;obtain⟨A,c,bK,c',rfl,ar,az,aO,bz,cl,cn⟩:=h;refine VX ?_;intro ep hB bp;clear ar az hp;by_cases eR:R.aF v=0
 .refine Vv ?_;intro dk z3 Ea nm;clear eR;by_cases aP:R.cB v.I.length p=true
  .have ak:=qQ aP;clear aP;go_enter func162,ntmps162;go_wp2_with fail;refine JH ?_;intro ag bV oO cw cd g_ bU ga fp b';have bF:ag.cell? ⟨w.heap.size,0,none⟩=some (.int .i64 v.st):=oO.cell 0;obtain⟨aU,a1,aR⟩:=aK (kh P aH p v.I.length B ag (by omega) (by omega) (a2.q.below (bU.q.mono ah))) (λ(W:World) (X:Below ag.heap.size ag W)=>eM A c v.I B W (by omega) (ep.q.below ((aA bU.q X).mono ah)) (by have:=X.size;omega)) (λ(W:World) (X:Below ag.heap.size ag W)=>eM bK c' v.s B W (by have:=nm.q;omega) (hB.q.below ((aA bU.q X).mono ah)) (by have:=X.size;omega));clear bV oO cw;go_wp2_with fail;refine aU.q.mono ?_;rintro e aC ⟨rfl,rfl⟩;rw[ak.q];go_wp2_with fail
   go_cut [7] (λcg ci=>∃(a8:Nat) (v1 v2:Value),cg=.pointer (some ⟨a8,0,none⟩)/\ai.nQ ag.heap.size a8 ag v.st v1 v2 v.I v.s ci)
   case first =>
    refine fk (λw'=>w'.cell? ⟨w.heap.size,0,none⟩=some (.int .i64 v.st)/\w'.cell? ⟨w.heap.size,1,none⟩=some (.slice A v.I.length c)/\w'.cell? ⟨w.heap.size,2,none⟩=some (.slice bK v.s.length c')) 10 11 (⟨bF,fp,b'⟩) (λax=>?_);simp only[qF,qG];refine aG 0 23 ?_;refine aG 1 24 ?_;refine aG 2 25 ?_;refine aG 3 26 ?_;refine aG 5 28 ?_;refine aG 6 29 ?_;try simp only[Act.put,bj,bk,bl]
    refine gM 4 9 (by kernel_rfl) (bB rfl rfl (λK D=>?_)) (bB rfl rfl (λK D=>?_))
    .go_simp;refine(a1.q _ (qK ag.heap.size ag).drew).mono ?_;rintro e S ⟨di,rfl,nA,ht⟩;obtain⟨bG,m3,rfl,bT⟩:=ai.aZ nA;have a7:=ht.size;have Lr:=nA;try go_simp
     refine D.q _ _ ?_ (λr=>?_)
     .exact Ql
     have O:=qQ (wD (qK ag.heap.size ag).drew (ht.mono (qK ag.heap.size ag).drew.size));have aq:ag.heap.size<=S.heap.size:=O.q.size;clear D K ax;have ax:=r;clear r;try simp only[bj,bk,bl]
     refine gM 7 9 (by kernel_rfl) (bB rfl rfl (λK D=>?_)) (bB rfl rfl (λK D=>?_))
     .go_simp;refine(aR.q _ O.q).mono ?_;rintro e N ⟨bE,rfl,lL,h0⟩;obtain⟨bg,m4,rfl,bs⟩:=ai.aZ lL;have bv:=h0.size;have Ki:=lL;try go_simp
      refine D.q _ _ ?_ (λr=>?_)
      .exact Qe
      have Q:=qQ (wD O.q (h0.mono O.q.size));have be:ag.heap.size<=N.heap.size:=Q.q.size;clear D K ax;have ax:=r;clear r;try simp only[bj,bk,bl]
      refine e5 8 31 ?_;try simp only[Act.put,bj,bk,bl]
      refine fT 9 (λK D=>?_);go_simp;refine D.q _ _ ?_ (λr=>?_)
      .exact Xg
      clear D K ax;have ax:=r;clear r;try simp only[bj,bk,bl]
      refine eW [_] 10 [] ?_;have cb:=qQ (ai.nQ.fresh (st:=v.st) (ai.fh (ai.hc nA h0) (by simp)) (ai.fh lL aq) (ai.lU nA lL (qX _)) Q.q be);exact Xz
     go_simp;refine D.q _ _ ?_ (λr=>?_)
     .exact Xg
     clear D K ax;have ax:=r;clear r;try simp only[bj,bk,bl]
     refine fT 7 (λK D=>?_);go_simp;refine(aR.q _ (O.q.alloc aq (.cells #[.int .i64 0,.slice none 0 0,.slice none 0 0] 159))).mono ?_;rintro e N ⟨bE,rfl,lL,h0⟩;obtain⟨bg,m4,rfl,bs⟩:=ai.aZ lL;have bv:=h0.size;have Ki:=lL;try go_simp
     refine D.q _ _ ?_ (λr=>?_)
     .exact Qe
     have Q:=qQ (wD (O.q.alloc aq (.cells #[.int .i64 0,.slice none 0 0,.slice none 0 0] 159)) (h0.mono (O.q.alloc aq (.cells #[.int .i64 0,.slice none 0 0,.slice none 0 0] 159)).size));have be:ag.heap.size<=N.heap.size:=Q.q.size;clear D K ax;have ax:=r;clear r;try simp only[bj,bk,bl]
     refine e5 8 31 ?_;try simp only[Act.put,bj,bk,bl]
     refine eW [_] 10 [] ?_;have E:=qQ ((av.new S 159 #[.int .i64 0,.slice none 0 0,.slice none 0 0]).below h0 (by simp));have b_:N.cell? ⟨S.heap.size,0,none⟩=some (.int .i64 0):=E.q.cell 0;have ca:N.cell? ⟨S.heap.size,1,none⟩=some (.slice none 0 0):=E.q.cell 1;have cf:N.cell? ⟨S.heap.size,2,none⟩=some (.slice none 0 0):=E.q.cell 2;have bI:=E.q.frozen 0;have bL:=E.q.frozen 1;have bM:=E.q.frozen 2;have bO:S.heap.size<N.heap.size:=E.q.lt;have cb:=qQ (ai.nQ.laid (st:=v.st) E.q rfl (ai.fh (ai.hc (nA.alloc _) h0) (by first | omega | (simp<;>omega))) (ai.fh lL (by first | omega | (simp<;>omega))) (ai.qi nA (qX _)) (ai.bc lL (by simp)) (ai.lU nA lL (by first | omega | (simp<;>omega))) Q.q aq);exact Xz
    go_simp;refine D.q _ _ ?_ (λr=>?_)
    .exact Xg
    clear D K ax;have ax:=r;clear r;try simp only[bj,bk,bl]
    refine fT 4 (λK D=>?_);go_simp;refine(a1.q _ ((qK ag.heap.size ag).drew.alloc (by simp) (.cells #[.int .i64 0,.slice none 0 0,.slice none 0 0] 159))).mono ?_;rintro e S ⟨di,rfl,nA,ht⟩;obtain⟨bG,m3,rfl,bT⟩:=ai.aZ nA;have a7:=ht.size;have Lr:=nA;try go_simp
    refine D.q _ _ ?_ (λr=>?_)
    .exact Ql
    have O:=qQ (wD ((qK ag.heap.size ag).drew.alloc (by simp) (.cells #[.int .i64 0,.slice none 0 0,.slice none 0 0] 159)) (ht.mono ((qK ag.heap.size ag).drew.alloc (by simp) (.cells #[.int .i64 0,.slice none 0 0,.slice none 0 0] 159)).size));have aq:ag.heap.size<=S.heap.size:=O.q.size;clear D K ax;have ax:=r;clear r;try simp only[bj,bk,bl]
    refine fT 7 (λK D=>?_);go_simp;refine(aR.q _ O.q).mono ?_;rintro e N ⟨bE,rfl,lL,h0⟩;obtain⟨bg,m4,rfl,bs⟩:=ai.aZ lL;have bv:=h0.size;have Ki:=lL;try go_simp
    refine D.q _ _ ?_ (λr=>?_)
    .exact Qe
    have Q:=qQ (wD O.q (h0.mono O.q.size));have be:ag.heap.size<=N.heap.size:=Q.q.size;clear D K ax;have ax:=r;clear r;try simp only[bj,bk,bl]
    refine e5 8 31 ?_;try simp only[Act.put,bj,bk,bl]
    refine eW [_] 10 [] ?_;have E:=qQ (((ai.mH ag.drew ag.heap.size (by simp) 159 #[.int .i64 0,.slice none 0 0,.slice none 0 0]).below ht (by simp)).below h0 (by simp at a7;omega));have b_:N.cell? ⟨ag.heap.size,0,none⟩=some (.int .i64 0):=E.q.cell 0;have ca:N.cell? ⟨ag.heap.size,1,none⟩=some (.slice none 0 0):=E.q.cell 1;have cf:N.cell? ⟨ag.heap.size,2,none⟩=some (.slice none 0 0):=E.q.cell 2;have bI:=E.q.frozen 0;have bL:=E.q.frozen 1;have bM:=E.q.frozen 2;have bO:ag.heap.size<N.heap.size:=E.q.lt;have cb:=qQ (ai.nQ.laid (st:=v.st) E.q rfl (ai.fh (ai.hc nA h0) (by first | omega | (simp<;>omega))) (ai.fh lL (by first | omega | (simp<;>omega))) (ai.bc nA (by simp)) (ai.bc lL (by simp at a7;omega)) (ai.lU nA lL (by first | omega | (simp<;>omega))) Q.q (qX _));exact Xz
   obtain⟨a8,v1,v2,rfl,bq⟩:=hcut;have bH:=qQ bq;clear bq a1 aR aU bF fp b';go_wp2_with fail;go_loopw [9,34] (λ_ i wr=>∃(k cc:Nat),k<=p.length/\i=.int .i64 (k:Int)/\cc<=v.I.length/\(∀j (h:j<p.length),j<k->p[j]<(cc:Int))/\(∀j (h:j<p.length),k<=j->(cc:Int)<=p[j]) /\
       ai.nQ ag.heap.size a8 ag (R.dH v p cc) v1 v2 v.I (R.bW v p cc) wr) (λ_ i _=>p.length+1-(intOf i).toNat)
   case atStart=>exact⟨0,0,by omega,rfl,by omega,λj h bS=>by omega,λj h _=>R.oX (R.il ak.q) j h,by rw[R.yw];exact bH.q⟩
   obtain⟨k,cc,cx,rfl,bo,aI,a4,M⟩:=hrel;obtain⟨cN,rfl⟩:∃cN:World,cN=wr:=⟨_,rfl⟩;have br:v.s.length=v.I.length:=nm.q;have a0:=qQ M.below;by_cases aJ:k<p.length
   .obtain⟨bA,bD,rfl,cA,bu⟩:=a2.q (by omega);have cD:a8<cN.heap.size:=M.aL.lt;have bY:=(a0.q.cell (p:=⟨bA,bD+k,none⟩) (by simp;omega)).trans ((bU.q.cell (p:=⟨bA,bD+k,none⟩) (by simp;omega)).trans (bu k aJ));have k0:=R.il ak.q;have b6:=R.oX k0 k aJ;have b9:=(k0 k aJ).2;have b8:=a4 k aJ (qX _);obtain⟨q,hq⟩:∃q:Nat,p[k]=(q:Int):=⟨p[k].toNat,by omega⟩;have a5:(q:Int)∈p:=hq▸qP aJ;have Y:∀j:Nat,cc<=j->j<q->(j:Int)∉p:=λj bN bS hm=>by
     obtain⟨m,aN,bQ⟩:=zQ hm;rcases Nat.lt_trichotomy m k with U | U | U
     .have:=aI m aN U;omega
     .subst U;omega
     have:=R.uh k0 m aN U;omega
    rw[hq]at bY b9 b8;have a6:q<v.I.length:=by omega
    have aX:q<v.s.length:=by omega
    rw[<-R.p4 (c:=cc) (c':=q) (by omega) Y,<-R.p5 (c:=cc) (c':=q) (by omega) Y]at M;have lx:=qQ (show(∀j (h:j<p.length),j<k+1->p[j]<((q+1:Nat):Int))/\∀j (h:j<p.length),k+1<=j->((q+1:Nat):Int)<=p[j]from
     ⟨λj h bS=>by
      rcases jQ j k with U | U
      .have:=aI j h U;omega
      .obtain rfl:j=k:=by omega
       omega,
      λj h bS=>by have:=R.uh k0 j h (i:=k) (by omega);omega⟩)
    have aW:=R.kg dk.q a6 aX;have bP:=R.oK dk.q p q (by omega);have aE:=qQ (R.p3 (v:=v) (l:=p) a6 aX a5);have Dw:=qQ (R.AG (v:=v) (l:=p) aX a5);have bd:=R.yv v p q aX;have bx:=R.dV v p q;have Lf:=qQ bd;obtain⟨g1,m1,a9,_,_⟩:=M.b7.form (by omega);obtain⟨g2,m2,a_,_,_⟩:=M.bw.form (by omega);subst a9 a_;have mb:=M.b7.cellAt q (by omega);have fm:=M.bw.cellAt q (by omega);have Mm:=M.bw.frozenAt q;rw[ints_at _ q a6]at mb;rw[ints_at _ q (by omega)]at fm;rw[bd]at fm;have cb:=qQ M;have Hi:=qQ bx;clear aI a4 k0 Y a5 bu bd M hq b6 br;have b0:cN.cell? ⟨a8,0,none⟩=some (.int .i64 (R.dH v p q)):=cb.q.aL.cell 0;have eT:cN.cell? ⟨a8,1,none⟩=some (.slice (some ⟨g1,0,none⟩) v.I.length m1):=cb.q.aL.cell 1;have dT:cN.cell? ⟨a8,2,none⟩=some (.slice (some ⟨g2,0,none⟩) v.s.length m2):=by rw[<-Hi.q];exact cb.q.aL.cell 2
    have Mk:=cb.q.aL.frozen 0;generalize v.I[q]=d at mb aW aE;generalize v.s[q]=s at fm aW aE Dw Lf;generalize bZ:R.dH v p q=st at bP aE cb b0;clear bZ bx;have i1:=b2 k;have i2:(k:Int)<(p.length:Int):=by omega
    have i3:=b2 q;have i4:(q:Int)<(v.I.length:Int):=by omega
    have i5:(q:Int)<(v.s.length:Int):=by omega
    by_cases cu:1<d
    .have cC:-4503599627370496<=(d-1)*s/\(d-1)*s<=4503599627370496:=⟨aW.2.2.2.2.1,aW.2.2.2.2.2⟩;have eQ:=qQ (show R.dH v p (q+1)=st+(d-1)*s by rw[aE.q,qY (by omega)]);generalize cr:(d-1)*s=aD at *;have bX:0<d-1:=by omega
     have b1:IntKind.i64.wrap (d-1)=d-1:=qA _ (by omega);have cE:IntKind.i64.wrap aD=aD:=qA _ (by omega);have cF:IntKind.i64.wrap (st+aD)=st+aD:=qA _ (by omega);go_wp2_with fail;refine JM ?_;intro ax;go_wp2_with fail;have hN:=qQ (cb.q.qm ((st+aD))).drew;generalize Lm:(cN.setCell ⟨a8,0,none⟩ (.int .i64 ((st+aD)))).drew=W2 at hN |-;exact QK
    have eQ:=qQ (show R.dH v p (q+1)=st by
      rw[aE.q];by_cases e:0<d
      .obtain rfl:d=1:=by omega
       rw[qY e];omega
      rw[qV e];omega)
    have bX:¬0<d-1:=by omega
    have b1:IntKind.i64.wrap (d-1)=d-1:=qA _ (by omega);go_wp2_with fail;have b3:RowKit.wrap64 0=0:=uD 0 ⟨by omega,by omega⟩;have b5:RowKit.wrap64 st=st:=uD st ⟨by omega,by omega⟩;refine JM ?_;intro ax;go_wp2_with fail;clear b3 b5;have hN:=qQ (cb.q.qm (st)).drew;generalize Lm:(cN.setCell ⟨a8,0,none⟩ (.int .i64 (st))).drew=W2 at hN |-;exact QK
   obtain rfl:k=p.length:=by omega
   have Y:∀j:Nat,cc<=j->j<v.I.length->(j:Int)∉p:=λj bN bS hm=>by
    obtain⟨m,aN,bQ⟩:=zQ hm;have:=aI m aN aN;omega
   rw[<-R.p4 bo Y,<-R.p5 bo Y]at M;have hH:=qQ (R.Br (p:=p) dk.q ak.q);have cw:=g_.q.below a0.q (by omega);have aV:=M.aL;obtain⟨aQ,bJ,bt,bn,a9,a_,a',bh,bm⟩:=M.view;subst a9 a_;have co:cN.cell? ⟨a8,0,none⟩=some (.int .i64 (R.dH v p v.I.length)):=aV.cell 0;have cp:cN.cell? ⟨a8,1,none⟩=some (.slice aQ v.I.length bJ):=aV.cell 1;have cq:cN.cell? ⟨a8,2,none⟩=some (.slice bt (R.bW v p v.I.length).length bn):=aV.cell 2;obtain⟨I0,x3,aT,fF,x1⟩:=fC (sf _ _ _ cN (qX _) a') a' (qZ bh bm) (bU.q.trans (a0.q.mono bU.q.size)) cw;clear cw aV M Y aI a4 a' bh bm br;refine VJ ?_;intro oe nR;generalize R.dH v p v.I.length=Z at *;generalize R.bW v p v.I.length=bf at *;go_wp2_with fail;refine JS ?_;intro Fu ek en eo f0 f1 f2 gR Bf Cv Cw;by_cases ap:R.aF ⟨Z,v.I,bf⟩=4
   .have a3:=qQ (oe.q ap);rw[show ai.hK (.agg #[.int .i64 Z,.slice aQ v.I.length bJ,.slice bt bf.length bn]) ⟨Z,v.I,bf⟩=.tuple #[.agg #[.int .i64 0,.slice none 0 0,.slice none 0 0],.int .i64 5]from qY ap];clear ap;go_wp2_with fail;refine qR (v:=.tuple #[.agg #[.int .i64 0,.slice none 0 0,.slice none 0 0],.int .i64 5]) (by simp[results,results162,go_sem,ek,en,eo]) rfl ⟨?_,gR.q _ _ _⟩;rw[a3.q];exact ai.d' _ _ _ _
   have a3:=qQ (nR.q ap);rw[show ai.hK (.agg #[.int .i64 Z,.slice aQ v.I.length bJ,.slice bt bf.length bn]) ⟨Z,v.I,bf⟩=.tuple #[.agg #[.int .i64 Z,.slice aQ v.I.length bJ,.slice bt bf.length bn],.int .i64 0]from qV ap];clear ap;go_wp2_with fail;refine qR (v:=.tuple #[.agg #[.int .i64 Z,.slice aQ v.I.length bJ,.slice bt bf.length bn],.int .i64 0]) (by simp[results,results162,go_sem,ek,en,eo]) rfl ⟨?_,gR.q _ _ _⟩;rw[a3.q];exact ai.kf (ai.q1 Bf.q (cc:=w.heap.size+1) rfl (λb off e hp=>by have:=aT.q.1 b off e hp;omega) (λb off e hp=>by have:=aT.q.2 b off e hp;omega) (by simp;omega) _ _ _) (λb off e hp=>by have:=aT.q.1 b off e hp;omega) (λb off e hp=>by have:=aT.q.2 b off e hp;omega)
  have bR:=qQ (R.yx dk.q (by simpa using aP));have ak:=qQ (show R.cB v.I.length p=false by simpa using aP);clear aP;go_enter func162,ntmps162;go_wp2_with fail;refine(hD.q _ bp.q).mono ?_;rintro e ag ⟨rfl,bV⟩;rw[dk.q];have aU:=qQ (kh P aH p v.I.length B ag (by omega) (by omega) (a2.q.below ((aA bp.q bV).mono ah)));obtain⟨dt,eG⟩:=lh bV;have ga:w.heap.size+1<ag.heap.size:=by have:=bV.size;simp at this;omega
  go_wp2_with fail;refine aU.q.mono ?_;rintro e aC ⟨rfl,rfl⟩;rw[ak.q];go_wp2_with fail;refine qR (v:=.tuple #[.agg #[.int .i64 0,.slice none 0 0,.slice none 0 0],.int .i64 6]) (by simp[results,results162,go_sem,dt]) rfl ⟨?_,?_⟩
  .exact JZ
  exact Xi
 have bR:=qQ (R.tk (p:=p) eR);have hq:(R.aF v != 0)=true:=by simpa using eR
 clear eR;go_enter func162,ntmps162;go_wp2_with fail;refine Vj ?_;intro ag bV dt eG ga;go_wp2_with fail;refine qR (v:=.tuple #[.agg #[.int .i64 0,.slice none 0 0,.slice none 0 0],.int .i64 (R.aF v)]) (by simp[results,results162,go_sem,dt]) rfl ⟨?_,?_⟩
 .exact JZ
 exact Xi
attribute [local go_sem ↓] Go.wp_at_zero Go.wp_at_succ
theorem ai.dF.drewN{N a8:Nat}{bD W:World}{st:Int}{u1 u2 v1 v2:Value}{xs bf:List Int}(h:ai.dF N a8 bD st u1 u2 v1 v2 xs bf W)(n:Nat):ai.dF N a8 bD st u1 u2 v1 v2 xs bf (W.drewN n) :=
 ⟨h.aL.drewN n,h.b7,h.bw,h.apart,zV h.below n,h.low⟩
theorem FE(lo hi st:Int)(w:World)(S:0<=lo)(y:lo<=hi)(U:hi<=4096)(j:1<=st)(V:st<=4096):Calls Tryz.prog 171 #[.int .i64 lo,.int .i64 hi,.int .i64 st] w λe w'=>e=.returned (.int .i64 (R.kept lo hi st))/\w=w':=by
 have N:=R.lj y j;have W:=R.mm y j;have M:=qQ (λn=>R.En (lo:=lo) (hi:=hi) (n:=n) j);have E:=qQ (λn=>R.Em (lo:=lo) (hi:=hi) (n:=n) j);generalize R.kept lo hi st=D at *;go_enter func171,ntmps171;go_wp2_with fail
 go_loop [7,8] (λn i=>∃(m x:Int),n=.int .i64 m/\i=.int .i64 x/\0<=m/\m<=D/\x=lo+m*st/\lo<=x/\x<=8192) (λn _=>(D+1-intOf n).toNat)
 case atStart=>exact⟨0,lo,rfl,rfl,by omega,N,by omega,by omega,by omega⟩
 obtain⟨m,x,rfl,rfl,X,Q,B,Z,ag⟩:=hrel;have r:=qQ B;clear B;by_cases O:x<hi
 .have Y:=M.q m (by rw[<-r.q];exact O);go_wp2_with fail
  go_round
  case rel=>exact⟨m+1,x+st,rfl,rfl,by omega,by omega,by rw[r.q,vL];omega,by omega,by omega⟩
  case measure=>simp[intOf];omega
 have I:=qQ (E.q m Q (by rw[<-r.q];omega));go_wp2_with fail;go_ret;exact⟨by rw[I.q];rfl,rfl⟩
theorem _root_.Qx{G:Prop}(h:G:=by
 go_enter func161,ntmps161;go_wp2_with fail;refine(hD.q _ bp.q).mono ?_;rintro e ag ⟨rfl,bV⟩;rw[dk.q];obtain⟨dt,eG⟩:=lh bV;have ga:w.heap.size+1<ag.heap.size:=by have:=bV.size;simp at this;omega
 go_wp2_with fail;refine qR (v:=.tuple #[.agg #[.int .i64 0,.slice none 0 0,.slice none 0 0],.int .i64 6]) (by simp[results,results161,go_sem,dt]) rfl ⟨?_,ai.three (aA bp.q bV) (xV _) _ _ _⟩;rw[bR.q];exact ai.d' _ _ _ _
 ):G:=h
theorem _root_.Qy{G:Prop}(h:G:=by
 exact⟨⟨(c0.cell_far _ (by simp;omega) (zK (ai.bc gS.q (by simp)))).trans (by go_keep),(c0.cell_far _ (by simp;omega) (zK (ai.bc gS.q (by simp;omega)))).trans (by go_keep),(c0.cell_far _ (by simp;omega) (zK (ai.bc gS.q (by simp;omega)))).trans (by go_keep),(c0.cell_far _ (by simp;omega) (zK (ai.bc gS.q (by simp;omega)))).trans (by go_keep)⟩,trivial⟩
 ):G:=h
theorem _root_.Qg{G:Prop}(h:G:=by
 rw[bR.q];exact ai.kf (ai.q1 Bf.q (cc:=w.heap.size+1) rfl (λb off e hp=>by have:=ko.q.1 b off e hp;omega) (λb off e hp=>by have:=ko.q.2 b off e hp;omega) (by simp;omega) _ _ _) (λb off e hp=>by have:=ko.q.1 b off e hp;omega) (λb off e hp=>by have:=ko.q.2 b off e hp;omega)
 ):G:=h
theorem _root_.Qm{G:Prop}(h:G:=by
 go_wp2_with fail
 go_quiet (fail)
 go_wp2_with fail;refine qR (v:=.tuple #[.agg #[.int .i64 0,.slice none 0 0,.slice none 0 0],.int .i64 4]) (by simp[results,results161,go_sem,ek,en,eo]) rfl ⟨?_,ai.three (zV fF.q nq) (xV _) _ _ _⟩;rw[bR.q];exact ai.d' _ _ _ _
 ):G:=h
theorem _root_.Xp{G:Prop}(h:G:=by
 exact⟨⟨by go_keep,by go_keep,by go_keep,by go_keep⟩,trivial⟩
 ):G:=h
theorem _root_.JR{G:Prop}(r:bm)(f:dS bm->G:=by
 intro bb;have cw:=g_.q.below iw.q (by omega);have si:cN.cell? ⟨ag.heap.size,0,none⟩=some (.int .i64 (R.eB v lo v.I.length)):=dE.aL.cell 0;have cy:cN.cell? ⟨ag.heap.size,1,none⟩=some (.slice aQ (R.cP v lo hi st).length bJ):=dE.aL.cell 1;have bE:cN.cell? ⟨ag.heap.size,2,none⟩=some (.slice bt (R.cE v st).length bn):=dE.aL.cell 2;have x3:=qQ (show ai.cm cN cN.heap.size (.agg #[.int .i64 (R.eB v lo v.I.length),.slice aQ (R.cP v lo hi st).length bJ,.slice bt (R.cE v st).length bn]) ⟨R.eB v lo v.I.length,R.cP v lo hi st,R.cE v st⟩from
  ⟨_,_,_,_,rfl,tv,nC,Et,Ey,rS,rV⟩)
 revert cw si cy bE x3;exact bb.o
 ):G:=f ⟨r⟩
theorem _root_.Jv{G:Prop}(r:bm)(f:dS bm->G:=by
 intro bb;obtain⟨mD,ix,cY,ea,hS⟩:=fC (R.cM (R.cP v lo hi st) k (by rw[R.dU];exact fe)) (R.cM (R.cE v st) k (by rw[R.fc];exact fe)) (R.oE v lo hi st k (by rw[R.dU];exact fe)) (R.AA v st k (by rw[R.fc];exact fe)) (show R.eB v lo (k+1)=R.eB v lo k+lo.getD k 0*v.s.getD k 0 from rfl);revert mD ix cY ea hS;exact bb.o
 ):G:=f ⟨r⟩
theorem _root_.Jy{G:Prop}(r:bm)(f:dS bm->G:=by
 intro bb;have i4:(k:Int)<(lo.length:Int):=by omega
 have i5:(k:Int)<(hi.length:Int):=by omega
 have i6:(k:Int)<(st.length:Int):=by omega
 have ek:cN.cell? ⟨w.heap.size+1,0,none⟩=some (.int .i64 0):=fl.cell 0;have en:cN.cell? ⟨w.heap.size+1,1,none⟩=some (.slice none 0 0):=fl.cell 1;have eo:cN.cell? ⟨w.heap.size+1,2,none⟩=some (.slice none 0 0):=fl.cell 2;have f0:=fl.frozen 0;have f1:=fl.frozen 1;have f2:=fl.frozen 2;revert i4 i5 i6 ek en eo f0 f1 f2;exact bb.o
 ):G:=f ⟨r⟩
theorem _root_.Ju{G:Prop}(r:bm)(f:dS bm->G:=by
 intro bb;refine wp_append_lies _ _ _ _ (by rfl) (ag.heap.size+1) 3 i0 _ 1 8 underlying23 Kf hv vK vN rfl (by omega) (.slice aQ k bJ) k (ints xs) (by rfl) gS.q ⟨nV.heap.size,0,none⟩ 1 1 [.int .i64 AM] (by rfl) (by rfl) (World.news_of_block (cs:=#[.int .i64 AM]) (t:=3) (fr:=(0,0)) ((ai.mH nV nV.heap.size rfl 3 #[.int .i64 AM]).drew)) (aS.one_one _ _) (by omega) (by unfold maxLen;omega) (by omega) (by simp;omega) (nV.heap.size+1) (by simp) ?_;exact bb.o
 ):G:=f ⟨r⟩
theorem _root_.Jw{G:Prop}(r:bm)(f:dS bm->G:=by
 intro bb;refine wp_append_lies _ _ _ _ (by rfl) (ag.heap.size+1) 3 i0 _ 1 8 underlying23 Kf hv vK vN rfl (by omega) (.slice bt k bn) k (ints bf) (by rfl) gS.q ⟨pL.heap.size,0,none⟩ 1 1 [.int .i64 AY] (by rfl) (by rfl) (World.news_of_block (cs:=#[.int .i64 AY]) (t:=3) (fr:=(0,0)) ((ai.mH pL pL.heap.size rfl 3 #[.int .i64 AY]).drew)) (aS.one_one _ _) (by omega) (by unfold maxLen;omega) (by omega) (by simp;omega) (pL.heap.size+1) (by simp) ?_;exact bb.o
 ):G:=f ⟨r⟩
theorem _root_.Jc{G:Prop}(r:bm)(f:dS bm->G:=by
 intro bb;have fo:IntKind.i64.wrap AY=AY:=qA _ (by omega);refine fk (λw'=>w'.cell? ⟨ag.heap.size,2,none⟩=some (.slice bt k bn)/\w'.cell? ⟨w.heap.size,2,none⟩=some (.slice (some ⟨hr,dN,none⟩) v.s.length c')/\w'.cell? ⟨hr,dN+k,none⟩=some (.int .i64 s)/\w'.cell? ⟨sC,ki+k,none⟩=some (.int .i64 z)) 14 16 (⟨bE,t5,t1,t4⟩) (λax=>?_);simp only[qF,qG];revert fo ax;exact bb.o
 ):G:=f ⟨r⟩
theorem _root_.Jg{G:Prop}(r:bm)(f:dS bm->G:=by
 intro bb;obtain⟨x1,ko,oe,nR⟩:=cV cw (qZ p7 ma) (λ(h:R.aF ⟨R.eB v lo v.I.length,R.cP v lo hi st,R.cE v st⟩=4)=>hH.q.trans (qY h)) (λ(h:R.aF ⟨R.eB v lo v.I.length,R.cP v lo hi st,R.cE v st⟩≠4)=>hH.q.trans (qV h));revert x1 ko oe nR;exact bb.o
 ):G:=f ⟨r⟩
theorem _root_.Jh{G:Prop}(r:bm)(f:dS bm->G:=by
 intro bb;refine fk (λw'=>w'.cell? ⟨ag.heap.size,0,none⟩=some (.int .i64 gj)/\w'.cell? ⟨lb,kd+k,none⟩=some (.int .i64 x)/\w'.cell? ⟨w.heap.size,2,none⟩=some (.slice (some ⟨hr,dN,none⟩) v.s.length c')/\w'.cell? ⟨hr,dN+k,none⟩=some (.int .i64 s)) 13 15 (⟨si,t2,t5,t1⟩) (λax=>?_);simp only[qF,qG];revert ax;exact bb.o
 ):G:=f ⟨r⟩
theorem _root_.Jm{G:Prop}(r:bm)(f:dS bm->G:=by
 intro bb;have e1:=qQ (((l_.q.alloc _).drew).x9 eS c0 gU (by simp));have tr:ag.heap.size<aw.heap.size:=e1.q.aL.lt;have eT:aw.cell? ⟨ag.heap.size,1,none⟩=some (.slice aQ k bJ):=by rw[<-rC.q];exact e1.q.aL.cell 1
 have dT:=e1.q.aL.frozen 1;have c5:=qQ (e1.q.sD (.slice (some ⟨xd,0,none⟩) (xs.length+1) l0));revert e1 tr eT dT c5;exact bb.o
 ):G:=f ⟨r⟩
theorem _root_.Jn{G:Prop}(r:bm)(f:dS bm->G:=by
 intro bb;have e1:=qQ (((o_.q.alloc _).drew).sb eS c0 gU (by simp));have tr:ag.heap.size<aw.heap.size:=e1.q.aL.lt;have eT:aw.cell? ⟨ag.heap.size,2,none⟩=some (.slice bt k bn):=by rw[<-dr.q];exact e1.q.aL.cell 2
 have dT:=e1.q.aL.frozen 2;have c5:=qQ (e1.q.sE (.slice (some ⟨xd,0,none⟩) (bf.length+1) l0));revert e1 tr eT dT c5;exact bb.o
 ):G:=f ⟨r⟩
theorem _root_.VU{G:Prop}(r:bm)(f:dS bm->G:=by
 intro bb;have bE:pL.cell? ⟨ag.heap.size,2,none⟩=some (.slice bt k bn):=by rw[<-dr.q];exact o_.q.aL.cell 2
 have Gc:ag.heap.size<pL.heap.size:=o_.q.aL.lt;have sr:=R.lQ (a:=z) (b:=s) (by omega) (by omega) p_.2.2.1 p_.2.2.2.1;revert bE Gc sr;exact bb.o
 ):G:=f ⟨r⟩
theorem _root_.VB{G:Prop}(r:bm)(f:dS bm->G:=by
 intro bb;have bR:=qQ (nR.q pk);rw[show ai.hK (.agg #[.int .i64 r7,.slice aQ xs.length bJ,.slice bt bf.length bn]) ⟨r7,xs,bf⟩=.tuple #[.agg #[.int .i64 r7,.slice aQ xs.length bJ,.slice bt bf.length bn],.int .i64 0]from qV pk];revert bR;exact bb.o
 ):G:=f ⟨r⟩
theorem _root_.VT{G:Prop}(r:bm)(f:dS bm->G:=by
 intro bb;have bR:=qQ (oe.q pk);rw[show ai.hK (.agg #[.int .i64 r7,.slice aQ xs.length bJ,.slice bt bf.length bn]) ⟨r7,xs,bf⟩=.tuple #[.agg #[.int .i64 0,.slice none 0 0,.slice none 0 0],.int .i64 5]from qY pk];revert bR;exact bb.o
 ):G:=f ⟨r⟩
theorem _root_.VL{G:Prop}(r:bm)(f:dS bm->G:=by
 intro bb;have lJ:k<lo.length:=by have:=l9.q.1;omega
 have ks:k<hi.length:=by have:=l9.q.2.1;omega
 have lK:k<st.length:=by have:=l9.q.2.2;omega
 have mc:k<v.s.length:=by have:=nm.q;omega
 revert lJ ks lK mc;exact bb.o
 ):G:=f ⟨r⟩
theorem _root_.VE{G:Prop}(r:bm)(f:dS bm->G:=by
 intro bb;have oN:((R.cP v lo hi st).take k).length=k:=by rw[qM,R.dU];omega
 have jh:((R.cE v st).take k).length=k:=by rw[qM,R.fc];omega
 revert oN jh;exact bb.o
 ):G:=f ⟨r⟩
theorem HN(val:Value)(v:R.V)(L b1 T:Option Addr)(aq ci aD:Nat)(lo hi st:List Int)(B:Nat)(w:World)(ah:B<=w.heap.size)(h:ai.cm w B val v)(a6:ai.ao w B L lo)(a1:ai.ao w B b1 hi)(a8:ai.ao w B T st)(cn:lo.length<=aq)(co:aq<=9223372036854775807)(cj:hi.length<=ci)(cl:ci<=9223372036854775807)(mt:st.length<=aD)(cp:aD<=9223372036854775807):Calls Tryz.prog 161 #[val,.slice L lo.length aq,.slice b1 hi.length ci,.slice T st.length aD] w λe w'=>ai.fb 0 w w' (R.cut v lo hi st) e/\Below w.heap.size w w':=by
 obtain⟨hD,bs,br,bv⟩:=cV (λ(W:World) (aH:Below w.heap.size w W)=>jq val v B W (qJ ah aH.size) (h.below (aH.mono ah))) a6 a1 a8;obtain⟨A,c,bK,c',rfl,ar,az,aO,bz,bZ,b0⟩:=h;obtain⟨bq,bu,bp⟩:=aK ar az ((((qK w.heap.size w).alloc (qX _) (.cells #[.int .i64 v.st,.slice A v.I.length c,.slice bK v.s.length c'] 159))).alloc (by simp) (.cells #[.int .i64 0,.slice none 0 0,.slice none 0 0] 159));clear ar az a6 a1 a8;by_cases O:R.aF v=0;rotate_left
 .have bR:=qQ (R.vc (lo:=lo) (hi:=hi) (st:=st) O);have hq:(R.aF v != 0)=true:=by simpa using O
  clear O;go_enter func161,ntmps161;go_wp2_with fail;refine Vj ?_;intro ag bV dt eG ga;go_wp2_with fail;refine qR (v:=.tuple #[.agg #[.int .i64 0,.slice none 0 0,.slice none 0 0],.int .i64 (R.aF v)]) (by simp[results,results161,go_sem,dt]) rfl ⟨?_,ai.three (aA bp.q bV) (xV _) _ _ _⟩;exact JZ
 have dk:=qQ O;obtain⟨bm,z2,z3,z4⟩:=R.cK O;have b_:v.I.length<=6:=(R.aB bm).1;have nm:=qQ z2;clear O bm z2 z4;by_cases D:lo.length=v.I.length;rotate_left
 .have bR:=qQ (R.jr (lo:=lo) (hi:=hi) (st:=st) dk.q (.inl D));have bP:((lo.length:Int) != (v.I.length:Int))=true:=by simp;omega
  clear D;exact Qx
 have bP:((lo.length:Int) != (v.I.length:Int))=false:=by simp;omega
 by_cases X:hi.length=v.I.length;rotate_left
 .have bR:=qQ (R.jr (lo:=lo) (hi:=hi) (st:=st) dk.q (.inr (.inl X)));have bQ:((hi.length:Int) != (v.I.length:Int))=true:=by simp;omega
  clear D X;exact Qx
 have bQ:((hi.length:Int) != (v.I.length:Int))=false:=by simp;omega
 by_cases ak:st.length=v.I.length;rotate_left
 .have bR:=qQ (R.jr (lo:=lo) (hi:=hi) (st:=st) dk.q (.inr (.inr ak)));have bS:((st.length:Int) != (v.I.length:Int))=true:=by simp;omega
  clear D X ak;exact Qx
 have bS:((st.length:Int) != (v.I.length:Int))=false:=by simp;omega
 have l9:=qQ (qZ D (qZ X ak));clear D X ak;go_enter func161,ntmps161;go_wp2_with fail;refine(hD.q _ bp.q).mono ?_;rintro e ag ⟨rfl,bV⟩;rw[dk.q];have Y:=((av.new w 159 #[.int .i64 v.st,.slice A v.I.length c,.slice bK v.s.length c']).alloc (.cells #[.int .i64 0,.slice none 0 0,.slice none 0 0] 159)).below bV (by simp;omega);have cw:=(ai.oD w (.cells #[.int .i64 v.st,.slice A v.I.length c,.slice bK v.s.length c'] 159) 159 #[.int .i64 0,.slice none 0 0,.slice none 0 0]).below bV (by simp);obtain⟨bA,g_,M⟩:=aK Y cw (aA bp.q bV);have ga:w.heap.size+1<ag.heap.size:=by have:=bV.size;simp at this;omega
 have cq:ag.cell? ⟨w.heap.size,0,none⟩=some (.int .i64 v.st):=Y.cell 0;have cr:ag.cell? ⟨w.heap.size,1,none⟩=some (.slice A v.I.length c):=Y.cell 1;have b':ag.cell? ⟨w.heap.size,2,none⟩=some (.slice bK v.s.length c'):=Y.cell 2;have cu:∀o,(ag.alloc o).cell? ⟨w.heap.size,1,none⟩=some (.slice A v.I.length c):=λo=>(bA.q.alloc o).cell 1
 obtain⟨i0,Kf,hv,vK,vN⟩:=xQ Tryz.dB;clear bV Y cw;go_wp2_with fail;go_loopw [13,14,47] (λ_ _ i wr=>∃(k:Nat) (v1 v2:Value),k<=v.I.length/\i=.int .i64 (k:Int)/\(∀j,j<k->R.fJ (v.I.getD j 0) (lo.getD j 0) (hi.getD j 0) (st.getD j 0)=true) /\
     ai.dF ag.heap.size ag.heap.size ag (R.eB v lo k) v1 v2 v1 v2 ((R.cP v lo hi st).take k) ((R.cE v st).take k) wr) (λ_ _ i _=>v.I.length+1-(intOf i).toNat)
 case atStart=>exact⟨0,_,_,by omega,rfl,λj h=>by omega,ai.dF.start ag v.st _ rfl⟩
 obtain⟨k,v1,v2,bL,rfl,U,dE⟩:=hrel;obtain⟨cN,rfl⟩:∃cN:World,cN=wr:=⟨_,rfl⟩;obtain⟨bR,aV,iw⟩:=aK dE U dE.below;have a9:ag.heap.size<cN.heap.size:=dE.aL.lt;have fl:=g_.q.below iw.q (by omega);have fF:=qQ (M.q.trans (iw.q.mono M.q.size));by_cases fe:k<v.I.length
 .refine VL ?_;intro lJ ks lK mc;obtain⟨b,off,rfl,aH,dt⟩:=bq.q (by omega);obtain⟨hr,dN,rfl,b6,aN⟩:=bu.q (by omega);obtain⟨lb,kd,rfl,b9,aR⟩:=bs.q (by omega);obtain⟨Z,ap,rfl,b8,aP⟩:=br.q (by omega);obtain⟨sC,ki,rfl,ca,aT⟩:=bv.q (by omega);have aX:=(fF.q.cell (p:=⟨b,off+k,none⟩) (by simp;omega)).trans (dt k fe);have a7:=(fF.q.cell (p:=⟨hr,dN+k,none⟩) (by simp;omega)).trans (aN k mc);have D:=(fF.q.cell (p:=⟨lb,kd+k,none⟩) (by simp;omega)).trans (aR k lJ);have a0:=(fF.q.cell (p:=⟨Z,ap+k,none⟩) (by simp;omega)).trans (aP k ks);have a_:=(fF.q.cell (p:=⟨sC,ki+k,none⟩) (by simp;omega)).trans (aT k lK);have m:=qQ (R.s_ (v:=v) (lo:=lo) (hi:=hi) (st:=st) fe);have p_:=R.kg dk.q fe mc;refine Jv ?_;intro mD ix cY ea hS;have N:=qQ (λ(h:R.fJ (v.I.getD k 0) (lo.getD k 0) (hi.getD k 0) (st.getD k 0)=true)=>show ∀j,j<k+1->R.fJ (v.I.getD j 0) (lo.getD j 0) (hi.getD j 0) (st.getD j 0)=true from λj a2=>by
   by_cases e:j<k
   .exact aV.q j e
   obtain rfl:j=k:=by omega
   exact h)
  rw[R.getD_at v.I k fe,R.getD_at lo k lJ,R.getD_at hi k ks,R.getD_at st k lK]at m N;rw[R.getD_at lo k lJ,R.getD_at hi k ks,R.getD_at st k lK]at cY;rw[R.getD_at v.s k mc,R.getD_at st k lK]at ea;rw[R.getD_at lo k lJ,R.getD_at v.s k mc]at hS;have bo:=qQ (R.nZ (v:=v) dk.q (lo:=lo) bL (λj a2=>R.ta dk.q (by omega) (U j a2)) k (qX _));have E:=qQ (λ(W:World) (S:Below ag.heap.size ag W)=>show W.cell? ⟨hr,dN+k,none⟩=some (.int .i64 v.s[k])/\W.cell? ⟨lb,kd+k,none⟩=some (.int .i64 lo[k])/\W.cell? ⟨Z,ap+k,none⟩=some (.int .i64 hi[k])/\W.cell? ⟨sC,ki+k,none⟩=some (.int .i64 st[k]) /\
      W.cell? ⟨w.heap.size,2,none⟩=some (.slice (some ⟨hr,dN,none⟩) v.s.length c')from
   ⟨((aA M.q S).cell (p:=⟨hr,dN+k,none⟩) (by simp;omega)).trans (aN k mc),((aA M.q S).cell (p:=⟨lb,kd+k,none⟩) (by simp;omega)).trans (aR k lJ),
    ((aA M.q S).cell (p:=⟨Z,ap+k,none⟩) (by simp;omega)).trans (aP k ks),((aA M.q S).cell (p:=⟨sC,ki+k,none⟩) (by simp;omega)).trans (aT k lK),
    (S.cell (p:=⟨w.heap.size,2,none⟩) (by simp;omega)).trans b'⟩)
  clear dt aN aR aP aT U;generalize v.I[k]=d at aX p_ m N;generalize v.s[k]=s at a7 p_ ea hS E;generalize lo[k]=x at D m N cY hS E;generalize hi[k]=y at a0 m N cY E;generalize st[k]=z at a_ m N cY ea E;have i1:=b2 k;have i2:(k:Int)<(v.I.length:Int):=by omega
  have i3:(k:Int)<(v.s.length:Int):=by omega
  refine Jy ?_;intro i4 i5 i6 ek en eo f0 f1 f2;clear fl dE;by_cases a':x<0
  .have bR:=qQ (R.fy dk.q l9.q (m.q (by unfold R.fJ;simp;omega)));have bB:decide (x<0)=true:=by simpa using a'
   exact Qm
  have bB:decide (x<0)=false:=by simpa using a'
  by_cases bd:y<x
  .have bR:=qQ (R.fy dk.q l9.q (m.q (by unfold R.fJ;simp;omega)));have bD:decide (y<x)=true:=by simpa using bd
   exact Qm
  have bD:decide (y<x)=false:=by simpa using bd
  by_cases be:d<y
  .have bR:=qQ (R.fy dk.q l9.q (m.q (by unfold R.fJ;simp;omega)));have bF:decide (d<y)=true:=by simpa using be
   exact Qm
  have bF:decide (d<y)=false:=by simpa using be
  by_cases bg:z<1
  .have bR:=qQ (R.fy dk.q l9.q (m.q (by unfold R.fJ;simp;omega)));have bG:decide (z<1)=true:=by simpa using bg
   exact Qm
  have bG:decide (z<1)=false:=by simpa using bg
  by_cases bh:4096<z
  .have bR:=qQ (R.fy dk.q l9.q (m.q (by unfold R.fJ;simp;omega)));have bH:decide (4096<z)=true:=by simpa using bh
   exact Qm
  have bH:decide (4096<z)=false:=by simpa using bh
  have aW:=qQ (N.q (R.hU.2 ⟨by omega,by omega,by omega,by omega,by omega⟩));clear ek en eo f0 f1 f2;go_wp2_with fail
  go_quiet (fail)
  go_wp2_with fail;clear aX a7 D a0 a_;obtain⟨aQ,bJ,rfl,bN⟩:=ai.aZ bR.q.b7;obtain⟨bt,bn,rfl,bO⟩:=ai.aZ bR.q.bw;have bI:=bo.q;have r:=qQ (bR.q.drewN nq);refine VE ?_;intro oN jh;generalize cN.drewN nq=W2 at r |-;generalize R.eB v lo k=gj at bI hS bR r;generalize (R.cP v lo hi st).take k=xs at oN mD bR r bN;generalize (R.cE v st).take k=bf at jh ix bR r bO;have rC:=qQ oN;have dr:=qQ jh;clear oN jh bR a9 iw fF;obtain⟨t1,t2,t3,t4,t5⟩:=E.q W2 r.q.below;have si:W2.cell? ⟨ag.heap.size,0,none⟩=some (.int .i64 gj):=r.q.aL.cell 0;have g0:=r.q.aL.frozen 0;have cb:=R.lQ (a:=x) (b:=s) (by omega) (by omega) p_.2.2.1 p_.2.2.2.1;generalize b3:x*s=Q at *;have fo:IntKind.i64.wrap Q=Q:=qA _ (by omega);have aU:IntKind.i64.wrap (gj+Q)=gj+Q:=qA _ (by omega);refine Jh ?_;intro ax;refine aG 0 91 ?_;refine aG 1 92 ?_;refine aG 2 93 ?_;refine aG 3 94 ?_;refine aG 4 95 ?_;refine aG 5 96 ?_;refine aG 6 97 ?_;refine aG 7 98 ?_;refine aG 8 99 ?_;refine aG 9 100 ?_;refine aG 10 101 ?_;refine aG 11 102 ?_;refine aG 12 103 ?_;try simp only[Act.put,bj,bk,bl]
  refine eW [_,_] 13 [14] ?_;have l_:=qQ (r.q.qm (gj+Q)).drew;clear ax;go_wp2_with fail;generalize (W2.setCell ⟨ag.heap.size,0,none⟩ (.int .i64 (gj+Q))).drew=nV at l_ |-;clear t1 t2 t3 t4 t5 si g0 r fo aU;obtain⟨t1,t2,t3,t4,t5⟩:=E.q nV l_.q.below;have cy:nV.cell? ⟨ag.heap.size,1,none⟩=some (.slice aQ k bJ):=by rw[<-rC.q];exact l_.q.aL.cell 1
  have a9:ag.heap.size<nV.heap.size:=l_.q.aL.lt;have fo:IntKind.i64.wrap (y-x)=y-x:=qA _ (by omega);have aU:IntKind.i64.wrap (y-x+z)=y-x+z:=qA _ (by omega);have bX:IntKind.i64.wrap (y-x+z-1)=y-x+z-1:=qA _ (by omega);have a5:=R.Eo (lo:=x) (hi:=y) (st:=z) (by omega) (by omega);have a3:=R.lj (lo:=x) (hi:=y) (st:=z) (by omega) (by omega);have a4:=R.mm (lo:=x) (hi:=y) (st:=z) (by omega) (by omega);generalize R.kept x y z=AM at a5 a3 a4 cY;have bY:IntKind.i64.wrap AM=AM:=qA _ (by omega);have cg:z≠0:=by omega
  refine fk (λw'=>w'.cell? ⟨ag.heap.size,1,none⟩=some (.slice aQ k bJ)/\w'.cell? ⟨Z,ap+k,none⟩=some (.int .i64 y)/\w'.cell? ⟨lb,kd+k,none⟩=some (.int .i64 x)/\w'.cell? ⟨sC,ki+k,none⟩=some (.int .i64 z)) 24 26 (⟨cy,t3,t2,t4⟩) (λax=>?_);simp only[qF,qG];refine aG 0 105 ?_;refine aG 1 106 ?_;refine aG 2 107 ?_;refine aG 3 108 ?_;refine aG 4 109 ?_;refine aG 5 110 ?_;refine aG 6 111 ?_;refine aG 7 112 ?_;refine aG 8 113 ?_;refine aG 9 114 ?_;refine aG 10 115 ?_;refine aG 11 116 ?_;refine aG 12 117 ?_;refine aG 13 118 ?_;refine aG 14 119 ?_;refine aG 15 120 ?_;refine aG 16 121 ?_;refine aG 17 122 ?_;refine aG 18 123 ?_;refine aG 19 124 ?_;refine aG 20 125 ?_;refine aG 21 126 ?_;try simp only[Act.put,bj,bk,bl]
  refine fT 22 (λK aI=>?_);go_simp;refine aI.q _ _ ?_ (λaC=>?_)
  .exact Xp
  clear aI K ax;try simp only[bj,bk,bl]
  refine fT 23 (λK aI=>?_);have cd:ag.heap.size<nV.heap.size:=l_.q.aL.lt;have gS:=qQ (show((nV.alloc (.cells #[.int .i64 AM] 3)).drew).ownsRow (ag.heap.size+1) 3 1 (.slice aQ k bJ) k (ints xs) by have h:=((l_.q.alloc (.cells #[.int .i64 AM] 3)).drew).b7;rw[rC.q]at h;exact h);refine Ju ?_;intro xd l0 aw eS c0 gU bM;refine aI.q _ _ ?_ (λax=>?_)
  .exact Qy
  clear aI K aC;try simp only[bj,bk,bl]
  refine eW [_,_] 24 [25] ?_;rw[<-rC.q]at eS c0 gU;refine Jm ?_;intro e1 tr eT dT c5;rw[rC.q]at c5;clear eS c0 gU ax;go_wp2_with fail;have o_:=qQ c5.q;generalize aw.setCell ⟨ag.heap.size,1,none⟩ (.slice (some ⟨xd,0,none⟩) (k+1) l0)=pL at o_ |-;clear c5 e1 eT dT tr gS t1 t2 t3 t4 t5 cy fo aU bX bY a5 a3 a4 l_;obtain⟨t1,t2,t3,t4,t5⟩:=E.q pL o_.q.below;refine VU ?_;intro bE Gc sr;rw[xT]at sr;generalize b5:s*z=AY at sr ea;refine Jc ?_;intro fo ax;refine aG 0 130 ?_;refine aG 1 131 ?_;refine aG 2 132 ?_;refine aG 3 133 ?_;refine aG 4 134 ?_;refine aG 5 135 ?_;refine aG 6 136 ?_;refine aG 7 137 ?_;refine aG 8 138 ?_;refine aG 9 139 ?_;refine aG 10 140 ?_;refine aG 11 141 ?_;try simp only[Act.put,bj,bk,bl]
  refine fT 12 (λK aI=>?_);go_simp;refine aI.q _ _ ?_ (λaC=>?_)
  .exact Xp
  clear aI K ax;try simp only[bj,bk,bl]
  refine fT 13 (λK aI=>?_);have cf:ag.heap.size<pL.heap.size:=o_.q.aL.lt;have gS:=qQ (show((pL.alloc (.cells #[.int .i64 AY] 3)).drew).ownsRow (ag.heap.size+1) 3 1 (.slice bt k bn) k (ints bf) by have h:=((o_.q.alloc (.cells #[.int .i64 AY] 3)).drew).bw;rw[dr.q]at h;exact h);refine Jw ?_;intro xd l0 aw eS c0 gU bM;refine aI.q _ _ ?_ (λax=>?_)
  .exact Qy
  clear aI K aC;try simp only[bj,bk,bl]
  refine eW [_,_] 14 [15] ?_;rw[<-dr.q]at eS c0 gU;refine Jn ?_;intro e1 tr eT dT c5;rw[dr.q]at c5;clear eS c0 gU ax;go_wp2_with fail
  first
   | exact⟨⟨k+1,_,_,by omega,by go_num,aW.q,by rw[mD.q,ix.q,cY.q,ea.q,hS.q];exact c5.q⟩,by simp[intOf];omega⟩
   | (go_roundw
      case rel=>exact⟨k+1,_,_,by omega,by go_num,aW.q,by rw[mD.q,ix.q,cY.q,ea.q,hS.q];exact c5.q⟩
      case measure=>simp[intOf];omega)
 obtain rfl:k=v.I.length:=by omega
 clear fl;have aE:=R.vb U;have hH:=qQ (R.DO dk.q l9.q aE);have bT:=R.Bl (lo:=lo) (hi:=hi) (st:=st) dk.q aE (R.eB v lo v.I.length);rw[qT (by rw[R.dU];omega),qT (by rw[R.fc];omega)]at dE;obtain⟨aQ,bJ,bU,tv,Et,Ey,p7⟩:=ai.df dE.b7;obtain⟨bt,bn,bW,nC,rS,rV,ma⟩:=ai.df dE.bw;subst bU bW;refine JR ?_;intro cw si cy bE x3;have I0:=qQ (sf _ _ _ cN (qX _) x3.q);refine Jg ?_;intro x1 ko oe nR;clear dE cw tv nC p7 ma bR U aV aE bT;generalize R.eB v lo v.I.length=r7 at *;generalize R.cP v lo hi st=xs at *;generalize R.cE v st=bf at *;go_wp2_with fail;refine JS ?_;intro Fu ek en eo f0 f1 f2 gR Bf Cv Cw;by_cases pk:R.aF ⟨r7,xs,bf⟩=4
 .refine VT ?_;intro bR;clear pk;go_wp2_with fail;refine qR (v:=.tuple #[.agg #[.int .i64 0,.slice none 0 0,.slice none 0 0],.int .i64 5]) (by simp[results,results161,go_sem,ek,en,eo]) rfl ⟨?_,gR.q _ _ _⟩;exact JZ
 refine VB ?_;intro bR;clear pk;go_wp2_with fail;refine qR (v:=.tuple #[.agg #[.int .i64 r7,.slice aQ xs.length bJ,.slice bt bf.length bn],.int .i64 0]) (by simp[results,results161,go_sem,ek,en,eo]) rfl ⟨?_,gR.q _ _ _⟩;exact Qg
attribute [local go_sem ↓] Go.wp_at_zero Go.wp_at_succ
theorem ai.drewN_drewN(w:World)(a b:Nat):(w.drewN a).drewN b=w.drewN (a+b):=by
 simp[World.drewN,kZ]
theorem _root_.Qj{G:Prop}(h:G:=by
 go_enter func137,ntmps137;go_wp2_with fail;refine(hD.q _ bp.q).mono ?_;rintro e ag ⟨rfl,bV⟩;rw[dk.q];obtain⟨dt,eG⟩:=lh bV;have ga:w.heap.size+1<ag.heap.size:=by have:=bV.size;simp at this;omega
 go_wp2_with fail;refine qR (v:=.tuple #[.agg #[.int .i64 0,.slice none 0 0,.slice none 0 0],.int .i64 6]) (by simp[results,results137,go_sem,dt]) rfl ⟨?_,ai.three (aA bp.q bV) (xV _) _ _ _⟩;rw[bR.q];exact ai.d' _ _ _ _
 ):G:=h
theorem _root_.Qn{G:Prop}(h:G:=by
 go_wp2_with fail
 go_quiet (fail)
 go_wp2_with fail;refine qR (v:=.tuple #[.agg #[.int .i64 0,.slice none 0 0,.slice none 0 0],.int .i64 4]) (by simp[results,results137,go_sem,ek,en,eo]) rfl ⟨?_,ai.three (zV fF.q nq) (xV _) _ _ _⟩;rw[bR.q];exact ai.d' _ _ _ _
 ):G:=h
theorem CX(val:Value)(v:R.V)(L b1 T:Option Addr)(aV ci aD:Nat)(lo hi st:List Int)(B:Nat)(w:World)(ah:B<=w.heap.size)(h:ai.cm w B val v)(bd:ai.ao w B L lo)(a9:ai.ao w B b1 hi)(be:ai.ao w B T st)(cD:lo.length<=aV)(cF:aV<=9223372036854775807)(cB:hi.length<=ci)(cC:ci<=9223372036854775807)(mt:st.length<=aD)(cG:aD<=9223372036854775807):Calls Tryz.prog 137 #[val,.slice L lo.length aV,.slice b1 hi.length ci,.slice T st.length aD] w λe w'=>ai.fb B w w' (R.cut v lo hi st) e/\Below w.heap.size w w':=by
 obtain⟨hD,bB,bA,bF⟩:=cV (λ(W:World) (X:Below w.heap.size w W)=>h8 val v B W (qJ ah X.size) (h.below (X.mono ah))) bd a9 be;obtain⟨A,c,bK,c',rfl,ar,az,aO,bz,co,cp⟩:=h;obtain⟨bv,bD,bp⟩:=aK ar az ((((qK w.heap.size w).alloc (qX _) (.cells #[.int .i64 v.st,.slice A v.I.length c,.slice bK v.s.length c'] 159))).alloc (by simp) (.cells #[.int .i64 0,.slice none 0 0,.slice none 0 0] 159));clear ar az bd a9 be;by_cases S:R.aF v=0;rotate_left
 .have bR:=qQ (R.vc (lo:=lo) (hi:=hi) (st:=st) S);have hq:(R.aF v != 0)=true:=by simpa using S
  clear S;go_enter func137,ntmps137;go_wp2_with fail;refine Vj ?_;intro ag bV dt eG ga;go_wp2_with fail;refine qR (v:=.tuple #[.agg #[.int .i64 0,.slice none 0 0,.slice none 0 0],.int .i64 (R.aF v)]) (by simp[results,results137,go_sem,dt]) rfl ⟨?_,ai.three (aA bp.q bV) (xV _) _ _ _⟩;exact JZ
 have dk:=qQ S;obtain⟨bu,z2,z3,z4⟩:=R.cK S;have cu:v.I.length<=6:=(R.aB bu).1;have nm:=qQ z2;clear S bu z2 z4;by_cases M:lo.length=v.I.length;rotate_left
 .have bR:=qQ (R.jr (lo:=lo) (hi:=hi) (st:=st) dk.q (.inl M));have b8:((lo.length:Int) != (v.I.length:Int))=true:=by simp;omega
  clear M;exact Qj
 have b8:((lo.length:Int) != (v.I.length:Int))=false:=by simp;omega
 by_cases aC:hi.length=v.I.length;rotate_left
 .have bR:=qQ (R.jr (lo:=lo) (hi:=hi) (st:=st) dk.q (.inr (.inl aC)));have b9:((hi.length:Int) != (v.I.length:Int))=true:=by simp;omega
  clear M aC;exact Qj
 have b9:((hi.length:Int) != (v.I.length:Int))=false:=by simp;omega
 by_cases aR:st.length=v.I.length;rotate_left
 .have bR:=qQ (R.jr (lo:=lo) (hi:=hi) (st:=st) dk.q (.inr (.inr aR)));have b_:((st.length:Int) != (v.I.length:Int))=true:=by simp;omega
  clear M aC aR;exact Qj
 have b_:((st.length:Int) != (v.I.length:Int))=false:=by simp;omega
 have l9:=qQ (qZ M (qZ aC aR));clear M aC aR;go_enter func137,ntmps137;go_wp2_with fail;refine(hD.q _ bp.q).mono ?_;rintro e ag ⟨rfl,bV⟩;rw[dk.q];have aE:=((av.new w 159 #[.int .i64 v.st,.slice A v.I.length c,.slice bK v.s.length c']).alloc (.cells #[.int .i64 0,.slice none 0 0,.slice none 0 0] 159)).below bV (by simp;omega);have cw:=(ai.oD w (.cells #[.int .i64 v.st,.slice A v.I.length c,.slice bK v.s.length c'] 159) 159 #[.int .i64 0,.slice none 0 0,.slice none 0 0]).below bV (by simp);obtain⟨bI,g_,Z⟩:=aK aE cw (aA bp.q bV);have ga:w.heap.size+1<ag.heap.size:=by have:=bV.size;simp at this;omega
 have cI:ag.cell? ⟨w.heap.size,0,none⟩=some (.int .i64 v.st):=aE.cell 0;have cl:ag.cell? ⟨w.heap.size,1,none⟩=some (.slice A v.I.length c):=aE.cell 1;have b':ag.cell? ⟨w.heap.size,2,none⟩=some (.slice bK v.s.length c'):=aE.cell 2;have cJ:∀o,(ag.alloc o).cell? ⟨w.heap.size,1,none⟩=some (.slice A v.I.length c):=λo=>(bI.q.alloc o).cell 1
 obtain⟨i0,Kf,hv,vK,vN⟩:=xQ Tryz.dB;clear bV aE cw;go_wp2_with fail;have bH:=qQ (ai.dF.start ag v.st _ rfl);have a4:=qQ (λ(k:Nat) (aP:k<v.I.length) (lJ:k<lo.length) (ks:k<hi.length) (lK:k<st.length) (mc:k<v.s.length)=>show ∃b off hr dN lb kd D N sC ki,A=some ⟨b,off,none⟩/\bK=some ⟨hr,dN,none⟩/\L=some ⟨lb,kd,none⟩/\b1=some ⟨D,N,none⟩/\T=some ⟨sC,ki,none⟩ /\
     b<B/\hr<B/\lb<B/\D<B/\sC<B/\∀W,Below ag.heap.size ag W->W.cell? ⟨b,off+k,none⟩=some (.int .i64 v.I[k])/\W.cell? ⟨hr,dN+k,none⟩=some (.int .i64 v.s[k])/\W.cell? ⟨lb,kd+k,none⟩=some (.int .i64 lo[k])/\W.cell? ⟨D,N+k,none⟩=some (.int .i64 hi[k])/\W.cell? ⟨sC,ki+k,none⟩=some (.int .i64 st[k])from by
  obtain⟨b,off,cy,X,dt⟩:=bv.q (by omega);obtain⟨hr,dN,bE,aX,bU⟩:=bD.q (by omega);obtain⟨lb,kd,bL,a2,b0⟩:=bB.q (by omega);obtain⟨D,N,bM,a0,bZ⟩:=bA.q (by omega);obtain⟨sC,ki,bN,a3,cb⟩:=bF.q (by omega);refine⟨b,off,hr,dN,lb,kd,D,N,sC,ki,cy,bE,bL,bM,bN,X,aX,a2,a0,a3,λW aN=>?_⟩;have ak:=aA Z.q aN;exact⟨(ak.cell (p:=⟨b,off+k,none⟩) (by simp;omega)).trans (dt k aP),(ak.cell (p:=⟨hr,dN+k,none⟩) (by simp;omega)).trans (bU k mc),(ak.cell (p:=⟨lb,kd+k,none⟩) (by simp;omega)).trans (b0 k lJ),
   (ak.cell (p:=⟨D,N+k,none⟩) (by simp;omega)).trans (bZ k ks),(ak.cell (p:=⟨sC,ki+k,none⟩) (by simp;omega)).trans (cb k lK)⟩)
 go_loopw [12,13,50] (λ_ _ i wr=>∃(k q:Nat),k<=v.I.length/\i=.int .i64 (k:Int)/\(∀j,j<k->R.fJ (v.I.getD j 0) (lo.getD j 0) (hi.getD j 0) (st.getD j 0)=true) /\
     wr=(ag.alloc (.cells #[.int .i64 v.st,.slice none 0 0,.slice none 0 0] 159)).drewN q) (λ_ _ i _=>v.I.length+1-(intOf i).toNat)
 case atStart=>exact⟨0,0,by omega,rfl,λj h=>by omega,rfl⟩
 obtain⟨k,q,aP,rfl,O,rfl⟩:=hrel;have bR:=qQ (bH.q.drewN q);have aH:=qQ O;have iw:=qQ bR.q.below;generalize bh:(ag.alloc (.cells #[.int .i64 v.st,.slice none 0 0,.slice none 0 0] 159)).drewN q=cN at bR iw |-;have a8:=qQ bh;clear bh;have aT:ag.heap.size<cN.heap.size:=bR.q.aL.lt;have fl:=g_.q.below iw.q (by omega);have fF:=qQ (Z.q.trans (iw.q.mono Z.q.size));by_cases fe:k<v.I.length
 .refine VL ?_;intro lJ ks lK mc;obtain⟨b,off,hr,dN,lb,kd,D,N,sC,ki,rfl,rfl,rfl,rfl,rfl,X,aX,a2,a0,a3,aq⟩:=a4.q k fe lJ ks lK mc;obtain⟨bX,ca,M,bY,cd⟩:=aq cN iw.q;have m:=qQ (R.s_ (v:=v) (lo:=lo) (hi:=hi) (st:=st) fe);have Q:=qQ (λ(h:R.fJ (v.I.getD k 0) (lo.getD k 0) (hi.getD k 0) (st.getD k 0)=true)=>show ∀j,j<k+1->R.fJ (v.I.getD j 0) (lo.getD j 0) (hi.getD j 0) (st.getD j 0)=true from λj a1=>by
   by_cases e:j<k
   .exact aH.q j e
   obtain rfl:j=k:=by omega
   exact h)
  rw[R.getD_at v.I k fe,R.getD_at lo k lJ,R.getD_at hi k ks,R.getD_at st k lK]at m Q;clear aq O ca;generalize v.I[k]=d at bX m Q;generalize lo[k]=x at M m Q;generalize hi[k]=y at bY m Q;generalize st[k]=z at cd m Q;have i1:=b2 k;have i2:(k:Int)<(v.I.length:Int):=by omega
  refine Jy ?_;intro i4 i5 i6 ek en eo f0 f1 f2;clear fl;by_cases bm:x<0
  .have bR:=qQ (R.fy dk.q l9.q (m.q (by unfold R.fJ;simp;omega)));have bO:decide (x<0)=true:=by simpa using bm
   exact Qn
  have bO:decide (x<0)=false:=by simpa using bm
  by_cases bo:y<x
  .have bR:=qQ (R.fy dk.q l9.q (m.q (by unfold R.fJ;simp;omega)));have bP:decide (y<x)=true:=by simpa using bo
   exact Qn
  have bP:decide (y<x)=false:=by simpa using bo
  by_cases bq:d<y
  .have bR:=qQ (R.fy dk.q l9.q (m.q (by unfold R.fJ;simp;omega)));have bQ:decide (d<y)=true:=by simpa using bq
   exact Qn
  have bQ:decide (d<y)=false:=by simpa using bq
  by_cases br:z<1
  .have bR:=qQ (R.fy dk.q l9.q (m.q (by unfold R.fJ;simp;omega)));have bS:decide (z<1)=true:=by simpa using br
   exact Qn
  have bS:decide (z<1)=false:=by simpa using br
  by_cases bs:4096<z
  .have bR:=qQ (R.fy dk.q l9.q (m.q (by unfold R.fJ;simp;omega)));have bT:decide (4096<z)=true:=by simpa using bs
   exact Qn
  have bT:decide (4096<z)=false:=by simpa using bs
  have a7:=qQ (Q.q (R.hU.2 ⟨by omega,by omega,by omega,by omega,by omega⟩));clear ek en eo f0 f1 f2;go_wp2_with fail
  go_quiet (fail)
  go_wp2_with fail;have a5:=qQ (show cN.drewN nq=(ag.alloc (.cells #[.int .i64 v.st,.slice none 0 0,.slice none 0 0] 159)).drewN (q+nq) by rw[<-a8.q];exact ai.drewN_drewN _ _ _)
  first
   | exact⟨⟨k+1,q+nq,by omega,by go_num,a7.q,a5.q⟩,by simp[intOf];omega⟩
   | (go_roundw
      case rel=>exact⟨k+1,q+nq,by omega,by go_num,a7.q,a5.q⟩
      case measure=>simp[intOf];omega)
 obtain rfl:k=v.I.length:=by omega
 have cn:cN.cell? ⟨w.heap.size,1,none⟩=some (.slice A v.I.length c):=(iw.q.cell (p:=⟨w.heap.size,1,none⟩) (by simp;omega)).trans cl;clear fl;go_wp2_with fail;have aU:=qQ O;have bG:=qQ bR.q;clear O aH cn a8 bR iw fF aT;go_loopw [14,98] (λ_ i wr=>∃(k:Nat) (v1 v2:Value),k<=v.I.length/\i=.int .i64 (k:Int) /\
     ai.dF ag.heap.size ag.heap.size ag (R.eB v lo k) v1 v2 v1 v2 ((R.cP v lo hi st).take k) ((R.cE v st).take k) wr) (λ_ i _=>v.I.length+1-(intOf i).toNat)
 case atStart=>exact⟨0,_,_,by omega,rfl,bG.q⟩
 obtain⟨k,v1,v2,aP,rfl,dE⟩:=hrel;obtain⟨W2,rfl⟩:∃W2:World,W2=wr:=⟨_,rfl⟩;have r:=qQ dE;have iw:=qQ dE.below;have aT:ag.heap.size<W2.heap.size:=dE.aL.lt;have fF:=qQ (Z.q.trans (iw.q.mono Z.q.size));by_cases fe:k<v.I.length
 .refine VL ?_;intro lJ ks lK mc;obtain⟨b,off,hr,dN,lb,kd,D,N,sC,ki,rfl,rfl,rfl,rfl,rfl,X,aX,a2,a0,a3,aq⟩:=a4.q k fe lJ ks lK mc;have E:=qQ (λ(W:World) (aN:Below ag.heap.size ag W)=>qZ (aq W aN) ((aN.cell (p:=⟨w.heap.size,2,none⟩) (by simp;omega)).trans b'));have p_:=R.kg dk.q fe mc;have ap:=R.hU.1 (aU.q k fe);refine Jv ?_;intro mD ix cY ea hS;have bW:=R.nZ (v:=v) dk.q (lo:=lo) (qX v.I.length) (λj a1=>R.ta dk.q a1 (aU.q j a1)) k aP;rw[R.getD_at v.I k fe,R.getD_at lo k lJ,R.getD_at hi k ks,R.getD_at st k lK]at ap;rw[R.getD_at lo k lJ,R.getD_at hi k ks,R.getD_at st k lK]at cY;rw[R.getD_at v.s k mc,R.getD_at st k lK]at ea;rw[R.getD_at lo k lJ,R.getD_at v.s k mc]at hS;refine VE ?_;intro oN jh;clear aq dE;obtain⟨aQ,bJ,rfl,b5⟩:=ai.aZ r.q.b7;obtain⟨bt,bn,rfl,b6⟩:=ai.aZ r.q.bw;generalize v.I[k]=d at p_ ap E;generalize v.s[k]=s at p_ ea hS E;generalize lo[k]=x at ap cY hS E;generalize hi[k]=y at ap cY E;generalize st[k]=z at ap cY ea E;generalize R.eB v lo k=gj at bW hS r;generalize (R.cP v lo hi st).take k=xs at oN mD r b5;generalize (R.cE v st).take k=bf at jh ix r b6;have rC:=qQ oN;have dr:=qQ jh;clear oN jh;have i1:=b2 k;have i2:(k:Int)<(v.I.length:Int):=by omega
  have i3:(k:Int)<(v.s.length:Int):=by omega
  have i4:(k:Int)<(lo.length:Int):=by omega
  have i5:(k:Int)<(hi.length:Int):=by omega
  have i6:(k:Int)<(st.length:Int):=by omega
  obtain⟨⟨t0,t1,t2,t3,t4⟩,t5⟩:=E.q W2 r.q.below;have si:W2.cell? ⟨ag.heap.size,0,none⟩=some (.int .i64 gj):=r.q.aL.cell 0;have g0:=r.q.aL.frozen 0;have cx:=R.lQ (a:=x) (b:=s) (by omega) (by omega) p_.2.2.1 p_.2.2.2.1;generalize cq:x*s=Y at *;have fo:IntKind.i64.wrap Y=Y:=qA _ (by omega);have cj:IntKind.i64.wrap (gj+Y)=gj+Y:=qA _ (by omega);go_wp2_with fail;refine Jh ?_;intro ax;refine aG 0 101 ?_;refine aG 1 102 ?_;refine aG 2 103 ?_;refine aG 3 104 ?_;refine aG 4 105 ?_;refine aG 5 106 ?_;refine aG 6 107 ?_;refine aG 7 108 ?_;refine aG 8 109 ?_;refine aG 9 110 ?_;refine aG 10 111 ?_;refine aG 11 112 ?_;refine aG 12 113 ?_;try simp only[Act.put,bj,bk,bl]
  refine eW [_,_] 13 [14] ?_;have l_:=qQ (r.q.qm (gj+Y)).drew;clear ax;go_wp2_with fail;generalize (W2.setCell ⟨ag.heap.size,0,none⟩ (.int .i64 (gj+Y))).drew=nV at l_ |-;clear t0 t1 t2 t3 t4 t5 si g0 r fo cj iw fF aT;obtain⟨⟨t0,t1,t2,t3,t4⟩,t5⟩:=E.q nV l_.q.below;have cy:nV.cell? ⟨ag.heap.size,1,none⟩=some (.slice aQ k bJ):=by rw[<-rC.q];exact l_.q.aL.cell 1
  have aT:ag.heap.size<nV.heap.size:=l_.q.aL.lt;have a_:=R.lj (lo:=x) (hi:=y) (st:=z) (by omega) (by omega);have a':=R.mm (lo:=x) (hi:=y) (st:=z) (by omega) (by omega);have a6:=qQ (λW=>FE x y z W (by omega) (by omega) (by omega) (by omega) (by omega));generalize R.kept x y z=AM at a_ a' cY a6;refine fk (λw'=>w'.cell? ⟨ag.heap.size,1,none⟩=some (.slice aQ k bJ)/\w'.cell? ⟨lb,kd+k,none⟩=some (.int .i64 x)/\w'.cell? ⟨D,N+k,none⟩=some (.int .i64 y)/\w'.cell? ⟨sC,ki+k,none⟩=some (.int .i64 z)) 17 19 (⟨cy,t2,t3,t4⟩) (λax=>?_);simp only[qF,qG];refine aG 0 115 ?_;refine aG 1 116 ?_;refine aG 2 117 ?_;refine aG 3 118 ?_;refine aG 4 119 ?_;refine aG 5 120 ?_;refine aG 6 121 ?_;refine aG 7 122 ?_;refine aG 8 123 ?_;refine aG 9 124 ?_;refine aG 10 125 ?_;refine aG 11 126 ?_;refine aG 12 127 ?_;refine aG 13 128 ?_;try simp only[Act.put,bj,bk,bl]
  refine fT 14 (λK aI=>?_);go_simp;refine(a6.q _).mono ?_;rintro e cH ⟨rfl,rfl⟩;try go_simp
  refine aI.q _ _ ?_ (λU=>?_)
  .exact ax
  clear aI K ax;try simp only[bj,bk,bl]
  have ax:=U;clear U;refine fT 15 (λK aI=>?_);go_simp;refine aI.q _ _ ?_ (λU=>?_)
  .exact Xp
  clear aI K ax;try simp only[bj,bk,bl]
  refine fT 16 (λK aI=>?_);have cz:ag.heap.size<nV.heap.size:=l_.q.aL.lt;have gS:=qQ (show((nV.alloc (.cells #[.int .i64 AM] 3)).drew).ownsRow (ag.heap.size+1) 3 1 (.slice aQ k bJ) k (ints xs) by have h:=((l_.q.alloc (.cells #[.int .i64 AM] 3)).drew).b7;rw[rC.q]at h;exact h);refine Ju ?_;intro xd l0 aw eS c0 gU b3;refine aI.q _ _ ?_ (λax=>?_)
  .exact Qy
  clear aI K U;try simp only[bj,bk,bl]
  refine eW [_,_] 17 [18] ?_;rw[<-rC.q]at eS c0 gU;refine Jm ?_;intro e1 tr eT dT c5;rw[rC.q]at c5;clear eS c0 gU ax;go_wp2_with fail;have o_:=qQ c5.q;generalize aw.setCell ⟨ag.heap.size,1,none⟩ (.slice (some ⟨xd,0,none⟩) (k+1) l0)=pL at o_ |-;clear c5 e1 eT dT tr gS t0 t1 t2 t3 t4 t5 cy a_ a' l_;obtain⟨⟨t0,t1,t2,t3,t4⟩,t5⟩:=E.q pL o_.q.below;refine VU ?_;intro bE Gc sr;rw[xT]at sr;generalize cr:s*z=AY at sr ea;refine Jc ?_;intro fo ax;refine aG 0 133 ?_;refine aG 1 134 ?_;refine aG 2 135 ?_;refine aG 3 136 ?_;refine aG 4 137 ?_;refine aG 5 138 ?_;refine aG 6 139 ?_;refine aG 7 140 ?_;refine aG 8 141 ?_;refine aG 9 142 ?_;refine aG 10 143 ?_;refine aG 11 144 ?_;try simp only[Act.put,bj,bk,bl]
  refine fT 12 (λK aI=>?_);go_simp;refine aI.q _ _ ?_ (λU=>?_)
  .exact Xp
  clear aI K ax;try simp only[bj,bk,bl]
  refine fT 13 (λK aI=>?_);have cA:ag.heap.size<pL.heap.size:=o_.q.aL.lt;have gS:=qQ (show((pL.alloc (.cells #[.int .i64 AY] 3)).drew).ownsRow (ag.heap.size+1) 3 1 (.slice bt k bn) k (ints bf) by have h:=((o_.q.alloc (.cells #[.int .i64 AY] 3)).drew).bw;rw[dr.q]at h;exact h);refine Jw ?_;intro xd l0 aw eS c0 gU b3;refine aI.q _ _ ?_ (λax=>?_)
  .exact Qy
  clear aI K U;try simp only[bj,bk,bl]
  refine eW [_,_] 14 [15] ?_;rw[<-dr.q]at eS c0 gU;refine Jn ?_;intro e1 tr eT dT c5;rw[dr.q]at c5;clear eS c0 gU ax;go_wp2_with fail
  first
   | exact⟨⟨k+1,_,_,by omega,by go_num,by rw[mD.q,ix.q,cY.q,ea.q,hS.q];exact c5.q⟩,by simp[intOf];omega⟩
   | (go_roundw
      case rel=>exact⟨k+1,_,_,by omega,by go_num,by rw[mD.q,ix.q,cY.q,ea.q,hS.q];exact c5.q⟩
      case measure=>simp[intOf];omega)
 obtain rfl:k=v.I.length:=by omega
 obtain⟨cN,rfl⟩:∃cN:World,cN=W2:=⟨_,rfl⟩;have O:=aU.q;have bR:=trivial;have aH:=trivial;have aW:=R.vb O;have hH:=qQ (R.DO dk.q l9.q aW);have bg:=R.Bl (lo:=lo) (hi:=hi) (st:=st) dk.q aW (R.eB v lo v.I.length);rw[qT (by rw[R.dU];omega),qT (by rw[R.fc];omega)]at dE;obtain⟨aQ,bJ,cf,tv,Et,Ey,p7⟩:=ai.df dE.b7;obtain⟨bt,bn,cg,nC,rS,rV,ma⟩:=ai.df dE.bw;subst cf cg;refine JR ?_;intro cw si cy bE x3;have I0:=qQ (zf _ _ _ cN (qX _) x3.q bg);refine Jg ?_;intro x1 ko oe nR;clear dE cw tv nC p7 ma bR O aH aW bg;generalize R.eB v lo v.I.length=r7 at *;generalize R.cP v lo hi st=xs at *;generalize R.cE v st=bf at *;go_wp2_with fail;refine JS ?_;intro Fu ek en eo f0 f1 f2 gR Bf Cv Cw;by_cases pk:R.aF ⟨r7,xs,bf⟩=4
 .refine VT ?_;intro bR;clear pk;go_wp2_with fail;refine qR (v:=.tuple #[.agg #[.int .i64 0,.slice none 0 0,.slice none 0 0],.int .i64 5]) (by simp[results,results137,go_sem,ek,en,eo]) rfl ⟨?_,gR.q _ _ _⟩;exact JZ
 refine VB ?_;intro bR;clear pk;go_wp2_with fail;refine qR (v:=.tuple #[.agg #[.int .i64 r7,.slice aQ xs.length bJ,.slice bt bf.length bn],.int .i64 0]) (by simp[results,results137,go_sem,ek,en,eo]) rfl ⟨?_,gR.q _ _ _⟩;exact Qg
end Go.Proofs.YtabmnaaidfpmcaaGreatDoor
end
section
namespace aS
open Go
variable {P:Program} {ops:Array Oper} {Q:Exit->Act->World->Prop} {md:Region.Mode} {S bm:World->Prop} {t0 t1:Nat}
end aS
namespace Go.Proofs.YtabmnaaidfpmcaaGreatDoor
open Go.RowKit aS
namespace ai
structure Acc (N:Nat) (bD:World) (c m:Option (Value × List Int)) (b:Option Nat) (W:World):Prop where
 below:Below N bD W
 low:N<=W.heap.size
 J_:∀p,c=some p->W.ownsRow N 3 1 p.1 p.2.length (ints p.2)
 F9:∀p,m=some p->W.ownsRow N 3 1 p.1 p.2.length (ints p.2)
 g':∀k,b=some k->N<=k/\av W k 159 #[.int .i64 0,.slice none 0 0,.slice none 0 0]
 DL:∀p q,c=some p->m=some q->∀k,p.1.ownBlock=some k->q.1.ownBlock=some k->False
 ib:∀p k,c=some p->b=some k->p.1.ownBlock≠some k
 LV:∀p k,m=some p->b=some k->p.1.ownBlock≠some k
theorem Acc.start(i:World):Acc i.heap.size i none none none i.drew :=
 ⟨(qK _ _).drew,qX _,nofun,nofun,nofun,nofun,nofun,nofun⟩
variable {N:Nat} {bD W bg:World} {c m:Option (Value × List Int)} {b:Option Nat}
theorem Acc.nK(h:Acc N bD none m b W)(r:bg.ownsRow W.heap.size 3 1 v xs.length (ints xs))(i:Below W.heap.size W bg):Acc N bD (some (v,xs)) m b bg:=by
 refine⟨h.below.trans (i.mono h.low),qJ h.low i.size,λp e=>?_,λp e=>hc (h.F9 p e) i,λk e=>⟨(h.g' k e).1,(h.g' k e).2.below i (h.g' k e).2.lt⟩,λp q e j k x y=>?_,λp k e j=>?_,h.LV⟩
 .cases e;exact fh r h.low
 .cases e;exact lU (h.F9 q j) r (qX _) k y x
 cases e;exact bc r (h.g' k j).2.lt
theorem Acc.K3(h:Acc N bD c none b W)(m:bg.ownsRow W.heap.size 3 1 v xs.length (ints xs))(i:Below W.heap.size W bg):Acc N bD c (some (v,xs)) b bg:=by
 refine⟨h.below.trans (i.mono h.low),qJ h.low i.size,λp e=>hc (h.J_ p e) i,λp e=>?_,λk e=>⟨(h.g' k e).1,(h.g' k e).2.below i (h.g' k e).2.lt⟩,λp q e j k r x=>?_,h.ib,λp k e j=>?_⟩
 .cases e;exact fh m h.low
 .cases j;exact lU (h.J_ p e) m (qX _) k r x
 cases e;exact bc m (h.g' k j).2.lt
theorem Acc.make(h:Acc N bD c none b W)(n:Nat)(j:n<=65536):Acc N bD c (some (.slice (some ⟨W.heap.size,0,none⟩) n n,List.replicate n 0)) b (W.alloc (.cells (ints (List.replicate n 0)).toArray 3)):=by
 refine h.K3 ?_ ((qK _ _).alloc (qX _) _);have i:=yF (base:=W.heap.size) (size:=1) (e:=3) W (ints (List.replicate n 0)).toArray n (qX _) (by unfold maxLen;omega) (by simp[ints]);simpa using i
theorem Acc.ln(h:Acc N bD c m none W):Acc N bD c m (some W.heap.size) (W.alloc (.cells #[.int .i64 0,.slice none 0 0,.slice none 0 0] 159)):=by
 refine⟨h.below.alloc h.low _,by simp;exact Nat.le_succ_of_le h.low,λp e=>(h.J_ p e).alloc _,λp e=>(h.F9 p e).alloc _,λk e=>?_,h.DL,λp k e i=>?_,λp k e i=>?_⟩
 .cases e;exact⟨h.low,av.new W _ _⟩
 .cases i;exact qi (h.J_ p e) (qX _)
 cases i;exact qi (h.F9 p e) (qX _)
structure hR (B N a8:Nat) (bD:World) (st:Int) (aQ:Option Addr) (aO:Nat) (v2:Value) (xs bf:List Int) (W:World):Prop where
 aL:av W a8 159 #[.int .i64 st,.slice aQ xs.length aO,v2]
 i1:ao W W.heap.size aQ xs
 g1:∀b off,aQ=some ⟨b,off,none⟩->0<xs.length->(b<B\/N<=b)/\b≠a8/\v2.ownBlock≠some b
 cW:xs.length<=aO
 cX:aO<=9223372036854775807
 bw:W.ownsRow N 3 1 v2 bf.length (ints bf)
 bn:v2.ownBlock≠some a8
 below:Below N bD W
 low:N<=a8
variable {B a8:Nat} {st:Int} {aQ:Option Addr} {aO:Nat} {v2:Value} {xs bf:List Int}
theorem hR.drewN(h:hR B N a8 bD st aQ aO v2 xs bf W)(n:Nat):hR B N a8 bD st aQ aO v2 xs bf (W.drewN n) :=
 ⟨h.aL.drewN n,h.i1,h.g1,h.cW,h.cX,h.bw,h.bn,zV h.below n,h.low⟩
theorem hR.drew(h:hR B N a8 bD st aQ aO v2 xs bf W):hR B N a8 bD st aQ aO v2 xs bf W.drew :=
 ⟨h.aL.drew,h.i1,h.g1,h.cW,h.cX,h.bw.drew,h.bn,h.below.drew,h.low⟩
theorem hR.qx(h:hR B N a8 bD st aQ aO (.slice (some ⟨g,0,none⟩) bf.length cap) xs bf W)(j:Nat)(x:Int):hR B N a8 bD st aQ aO (.slice (some ⟨g,0,none⟩) (bf.set j x).length cap) xs (bf.set j x) (W.setCell ⟨g,j,none⟩ (.int .i64 x)):=by
 have az:=h.bw.stored j (.int .i64 x);have m:g≠a8:=λe=>h.bn (by simp[Value.ownBlock,e])
 have q:=h.bw.lt g rfl;rw[xJ];refine⟨h.aL.cR (p:=⟨g,j,none⟩) (zK m) _,?_,h.g1,h.cW,h.cX,?_,h.bn,h.below.setCell (p:=⟨g,j,none⟩) q.1 _,h.low⟩
 .refine(h.i1.set (c:=g) (λb off e hp i=>(h.g1 b off e hp).2.2 (by simp[Value.ownBlock,i])) j _).up (by simp)
 exact Zs
theorem hR.laid(m:av W a8 159 cs)(Kd:cs.size=3)(i1:ao W W.heap.size aQ xs)(g1:∀b off,aQ=some ⟨b,off,none⟩->0<xs.length->(b<B\/N<=b)/\b≠a8/\v2.ownBlock≠some b)(cW:xs.length<=aO)(cX:aO<=9223372036854775807)(x:W.ownsRow N 3 1 v2 bf.length (ints bf))(bn:v2.ownBlock≠some a8)(q:Below N bD W)(low:N<=a8):hR B N a8 bD st aQ aO v2 xs bf (((W.setCell ⟨a8,0,none⟩ (.int .i64 st)).setCell ⟨a8,1,none⟩ (.slice aQ xs.length aO)).setCell ⟨a8,2,none⟩ v2):=by
 have j:=((m.bs 0 (.int .i64 st)).bs 1 (.slice aQ xs.length aO)).bs 2 v2;have r:((cs.setIfInBounds 0 (.int .i64 st)).setIfInBounds 1 (.slice aQ xs.length aO)).setIfInBounds 2 v2=#[.int .i64 st,.slice aQ xs.length aO,v2]:=by
  exact Zk
 rw[r]at j;exact⟨j,(i1.hj (λb off e hp=>(g1 b off e hp).2.1) _ _ _).up (by simp),g1,cW,cX,((x.kept (cT _ a8 0 _) (.inr bn)).kept (cT _ a8 1 _) (.inr bn)).kept (cT _ a8 2 _) (.inr bn),bn,three q low _ _ _,low⟩
theorem Acc.cr(B:Nat)(st:Int)(h:Acc N bD (some (.slice aQ xs.length aO,xs)) (some (v2,bf)) (some a8) W):hR B N a8 bD st aQ aO v2 xs bf (((W.setCell ⟨a8,0,none⟩ (.int .i64 st)).setCell ⟨a8,1,none⟩ (.slice aQ xs.length aO)).setCell ⟨a8,2,none⟩ v2):=by
 obtain⟨A,n,e,j,ji,m,iP⟩:=df (h.J_ _ rfl);simp only[xO]at e;obtain⟨rfl,_,rfl⟩:=e;refine hR.laid (h.g' _ rfl).2 rfl j (λb off e hp=>⟨.inr (iP b off e hp),λi=>h.ib _ _ rfl rfl (by subst e;simp[Value.ownBlock,i]),λi=>h.DL _ _ rfl rfl b (by subst e;simp[Value.ownBlock]) i⟩) ji m (h.F9 _ rfl) (h.LV _ _ rfl rfl) h.below (h.g' _ rfl).1
theorem Acc.Ml(st:Int)(h:Acc N bD none (some (v2,bf)) (some a8) W)(hi:ao bD B aQ xs)(ah:B<=N)(cW:xs.length<=aO)(cX:aO<=9223372036854775807):hR B N a8 bD st aQ aO v2 xs bf (((W.setCell ⟨a8,0,none⟩ (.int .i64 st)).setCell ⟨a8,1,none⟩ (.slice aQ xs.length aO)).setCell ⟨a8,2,none⟩ v2):=by
 refine hR.laid (h.g' _ rfl).2 rfl ((hi.below (h.below.mono ah)).up (qJ ah h.low)) (λb off e hp=>?_) cW cX (h.F9 _ rfl) (h.LV _ _ rfl rfl) h.below (h.g' _ rfl).1;obtain⟨j,r,i,q,_⟩:=hi hp;rw[e]at i;injection i with i
 injection i with i
 have m:=(h.g' _ rfl).1;exact⟨.inl (by omega),by omega,bc (h.F9 _ rfl) (by omega)⟩
end ai
end Go.Proofs.YtabmnaaidfpmcaaGreatDoor
end
