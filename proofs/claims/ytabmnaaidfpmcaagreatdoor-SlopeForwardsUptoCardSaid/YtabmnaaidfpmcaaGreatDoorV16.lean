/-
  GrB, GrC, PushQ, GrG, HeldG, ArrW. Conditions: where the theorems name them.
-/
import Derived.Test.YtabmnaaidfpmcaaGreatDoorV15
set_option linter.unusedVariables false
set_option maxRecDepth 100000
set_option maxHeartbeats 16000000
open Go.Proofs.Tryz
variable {a:Go.Act}{ls:List (List Int)}{l:List Int}{xs:List Go.Value}{N base c n:Nat}{A:Option Go.Addr}{u v v':Go.Value}{aC ag w w':Go.World}
section
namespace Go.Proofs.YtabmnaaidfpmcaaGreatDoor
open Go.RowKit aS
theorem Tryz.k1:(Tryz.prog.info? 23).map (λi=>(i.zero,i.size,i.bytes))=some (some (.slice none 0 0),1,24):=by kernel_rfl
namespace b4
def HS(w w':World)(r:List Int × Int)(e:Ending):Prop:=(∃G n c,e=.returned (.tuple #[.slice G n c,.int .i64 r.2])/\(r.2=0->af.dZ w.heap.size w' (.slice G n c) r.1))/\Below w.heap.size w w'
def fS(w:World)(B:Nat)(aR:List Value)(ls:List (List Int)):Prop:=aR.length=ls.length/\∀j (i:j<aR.length) (m:j<ls.length),af.aN w B aR[j] ls[j]
theorem fS.snoc{B:Nat}{aR:List Value}(h:fS w B aR ls)(q:af.aN w B v l):fS w B (aR++[v]) (ls++[l]):=by
 refine⟨by simp[h.1],λj m x=>?_⟩;by_cases i:j<aR.length
 .rw[zR i,zR (by have:=h.1;omega)];exact h.2 j i _
 have r:j=aR.length:=by simp at m;omega
 have g1:(aR++[v])[j]=v:=by
  rw[xF (by omega)];simp
 have g2:(ls++[l])[j]=l:=by
  rw[xF (by have:=h.1;omega)];simp
 rw[g1,g2];exact q
theorem fS.below{w w':World}{B:Nat}{aR:List Value}{ls:List (List Int)}(h:fS w B aR ls)(q:Below B w w'):fS w' B aR ls:=⟨h.1,λj i m=>(h.2 j i m).below q⟩
theorem fS.up{w:World}{B B':Nat}{aR:List Value}{ls:List (List Int)}(h:fS w B aR ls)(q:B<=B'):fS w B' aR ls:=⟨h.1,λj i m=>(h.2 j i m).up q⟩
theorem fS.lists{B:Nat}{aR:List Value}(h:fS w B aR ls)(m:w.ownsRow base 23 1 (.slice A n c) n aR)(ah:B<=w.heap.size):af.bu w w.heap.size A ls:=λhp=>by
 have D:aR.length=n:=by have:=m.1;omega
 obtain⟨g,cap,y,_,x⟩:=m.form (by have:=h.1;omega);injection y with r
 subst r;refine⟨g,0,rfl,x,λi hi=>?_⟩;have q:i<aR.length:=by have:=h.1;omega
 refine⟨aR[i],?_,(h.2 i q hi).up ah⟩;have j:=m.cells (g:=g) rfl i aR[i] (qC q);rw[qI];unfold Addr.add at j;split at j
 .rename_i e;subst e;exact j
 simpa using j
theorem rf{size n':Nat}{e:TypeId}(h:w.ownsRow base e size (.slice A n c) n' xs):c<=9223372036854775807:=by
 rcases h.2 with ⟨i,_⟩ | ⟨g,cap,cur,i,m,r,q,hm,az,x⟩
 .injection i with _ _ j;omega
 injection i with _ _ j;subst j;unfold maxLen at hm;omega
end b4
theorem _root_.Zm{G:Prop}(h:G:=by
 have br:=qQ (sS.q (by omega));go_wp2_with fail
 go_ret2
 rw[br.q];exact⟨⟨_,_,_,rfl,λh=>by cases h⟩,fG.q⟩
 ):G:=h
theorem _root_.Xq{G:Prop}(h:G:=by
 go_wp2_with fail
 go_ret2
 rw[br.q];exact⟨⟨_,_,_,rfl,λh=>by cases h⟩,fG.q⟩
 ):G:=h
theorem b4.Gv(val:Value)(x:J.Node)(i ps:Nat)(A:Option Addr)(co:Nat)(out:List (List Int))(B:Nat)(w:World)(ah:B<=w.heap.size)(bo:af.cJ x.o)(cx:x.a.length<=4194304)(bl:out.length=i)(hi:i<=4096)(cy:ps<=4096)(cp:i<=co)(cq:co<=9223372036854775807)(b6:b4.gC w B val x)(bn:af.bu w B A out):Calls Tryz.prog 72 #[val,.int .i64 (i:Int),.int .i64 (ps:Int),.slice A i co] w λe w'=>b4.HS w w' (J.aT x i ps out) e:=by
 obtain⟨v1,v2,v3,v4,v5,v6,rfl,⟨D,cD,rfl,aV,aX,bx⟩,⟨T,aD,rfl,it,lt,mt⟩,⟨O,U,rfl,io,lo,b_⟩,⟨b1,ci,rfl,ii,li,b9⟩,⟨S,cs,rfl,is,ls,ms⟩,⟨V,ag,rfl,bw,b7,cA⟩⟩:=b6;have bP:=qQ (λW (m:Below w.heap.size w W)=>show af.bd W W.heap.size (.agg #[.int .i64 x.o.k,.slice D x.o.I.length cD,.slice T x.o.a.length aD,.slice O x.o.l.length U,.slice b1 x.o.h.length ci,.slice S x.o.s.length cs,.int .i64 x.o.v]) x.o from
  ⟨_,_,_,_,_,rfl,⟨D,cD,rfl,(aV.below (m.mono ah)).up (qJ ah m.size),aX,bx⟩,⟨T,aD,rfl,(it.below (m.mono ah)).up (qJ ah m.size),lt,mt⟩,⟨O,U,rfl,(io.below (m.mono ah)).up (qJ ah m.size),lo,b_⟩,⟨b1,ci,rfl,(ii.below (m.mono ah)).up (qJ ah m.size),li,b9⟩,⟨S,cs,rfl,(is.below (m.mono ah)).up (qJ ah m.size),ls,ms⟩⟩)
 obtain⟨X,Z,a7⟩:=aK (λW (m:Below w.heap.size w W)=>qZ (bw.below (m.mono ah)) (qZ (bn.below (m.mono ah)) (qZ (aV.below (m.mono ah)) (it.below (m.mono ah))))) (av.new w 60 #[.int .i64 x.o.k,.slice D x.o.I.length cD,.slice T x.o.a.length aD,.slice O x.o.l.length U,.slice b1 x.o.h.length ci,.slice S x.o.s.length cs,.int .i64 x.o.v,.slice V x.a.length ag]) ((qK w.heap.size w).alloc (qX _) (.cells #[.int .i64 x.o.k,.slice D x.o.I.length cD,.slice T x.o.a.length aD,.slice O x.o.l.length U,.slice b1 x.o.h.length ci,.slice S x.o.s.length cs,.int .i64 x.o.v,.slice V x.a.length ag] 60));obtain⟨ak,b0⟩:=gz (w.alloc (.cells #[.int .i64 x.o.k,.slice D x.o.I.length cD,.slice T x.o.a.length aD,.slice O x.o.l.length U,.slice b1 x.o.h.length ci,.slice S x.o.s.length cs,.int .i64 x.o.v,.slice V x.a.length ag] 60));rw[b0]at Z a7;have cf:ak.cell? ⟨w.heap.size,7,none⟩=some (.slice V x.a.length ag):=Z.q.cell 7;have bK:=qQ (xQ Tryz.k1);have bH:=qQ (qK ak.heap.size ak);have cz:w.heap.size<ak.heap.size:=Z.q.lt;obtain⟨bD,bE,bG,bL,bM⟩:=fC (show J.ahead i x.a=false->J.aT x i ps out=([],10)from λh=>by unfold J.aT;rw[qY h]) (show J.ahead i x.a=true->x.o.k≠1->J.aT x i ps out=J.I x.o (J.cL out x.a)from λh bS=>by unfold J.aT;rw[qV (by simp[h]),qY bS]) (show J.ahead i x.a=true->x.o.k=1->J.aT x i ps out=if ps<=i\/x.o.a.length≠1\/x.o.a.getD 0 0≠(i:Int)then([],7)else if 0<x.a.length then([],2)else if (R.size x.o.I).2≠0 then([],(R.size x.o.I).2)else(x.o.I,0)from λh bS=>by unfold J.aT;rw[qV (by simp[h]),qV (by simp[bS])]) bl (qZ aX (qZ bx (qZ lt mt)));clear aV it io ii is bw aX lt lo li ls bn bl b7;go_enter func72,ntmps72;go_wp2_with fail;go_loopw [10,18] (λv aW wr=>∃(k:Nat) (aR:List Value),aW=.int .i64 (k:Int)/\k<=x.a.length/\(∀j (aq:j<x.a.length),j<k->0<=x.a[j]/\x.a[j]<(i:Int))/\Below ak.heap.size ak wr/\wr.ownsRow ak.heap.size 23 1 v aR.length aR/\aR.length=k/\b4.fS wr B aR (J.cL out (x.a.take k))) (λ_ aW _=>x.a.length-(intOf aW).toNat)
 case atStart=>exact⟨0,[],rfl,by omega,λj _ h=>by omega,bH.q,⟨rfl,.inl ⟨rfl,rfl⟩⟩,rfl,rfl,λj h _=>by simp at h⟩
 obtain⟨k,aR,rfl,bW,bj,m,aQ,bq,bp⟩:=hrel;obtain⟨aF,a8,fG,Y,aG,aH⟩:=fq bj m (a7.q.trans (m.mono (by omega))) aQ bq bp;obtain⟨bB,cu,bX,cr⟩:=ai.aZ aQ;subst bX;have E:=qQ (Z.q.below m Z.q.lt);clear bj m aQ bq bp;by_cases aE:k<x.a.length
 .obtain⟨fI,fM,rfl,cj,bg⟩:=(X.q wr fG.q).1 (by omega);have bT:=bg k aE;have sS:=qQ (show ¬(0<=x.a[k]/\x.a[k]<(i:Int))->J.aT x i ps out=([],10)from λh=>bD.q (by
   cases aI:J.ahead i x.a with
   | false=>rfl
   | true =>
    exfalso;apply h;have:=List.all_eq_true.1 aI _ (qP aE);simpa using this))
  have a_:=qQ (show(0<=x.a[k]/\x.a[k]<(i:Int))->∀j (aq:j<x.a.length),j<k+1->0<=x.a[j]/\x.a[j]<(i:Int)from λh j aq cw=>by
   by_cases e:j=k
   .subst e;exact h
   exact aF.q j aq (by omega))
  have bc:=qQ (qD aE);have i1:=b2 k;have i2:(k:Int)<(x.a.length:Int):=by omega
  clear bg;generalize x.a[k]=a0 at bT sS a_ bc;by_cases bV:a0<0
  .exact Zm
  by_cases bS:(i:Int)<=a0
  .exact Zm
  have bN:=qQ (a_.q (by omega));obtain⟨a,rfl⟩:∃a:Nat,a0=(a:Int):=⟨a0.toNat,by omega⟩;have bh:a<out.length:=by have:=bL.q;omega
  obtain⟨cg,cB,rfl,cm,go⟩:=(X.q wr fG.q).2.1 (by omega);obtain⟨di,bU,r,cC,rfl,bv,ji,b8⟩:=go a bh;have bb:=qQ (show af.aN wr B (.slice r out[a].length cC) out[a]from⟨r,cC,rfl,bv,ji,b8⟩);have a':=qQ (show J.cL out (x.a.take (k+1))=J.cL out (x.a.take k)++[out[a]] by
   rw[bc.q];unfold J.cL;rw[zI];simp[bh])
  have i3:=b2 a;have i4:(a:Int)<i:=by omega
  have bZ:aR.length<=4194304:=by have:=aG.q;omega
  have b3:ak.heap.size<=wr.heap.size:=a8.q.size;clear go bv bV bS;generalize out[a]=Q at bU bb a' ji;obtain⟨i0,g1,g2,g3,g4⟩:=bK.q;go_wp2_with (at_builtin;refine bF _ rfl _ _ 52 rfl ak.heap.size 23 i0 (.slice none 0 0) 1 24 underlying52 g1 g2 g3 g4 rfl (by decide) _ _ _ rfl (Y.q.alloc _) _ (some ⟨wr.heap.size,0,none⟩) 1 1 [.slice r Q.length cC] rfl (af.dj (av.new wr 23 #[.slice r Q.length cC]) rfl) (by intro u hu;simp at hu;subst hu;rfl) (by unfold maxLen;omega) (by omega) (by simp;omega) ?_);intro v' cH how aL _;have bI:=qQ ((a8.q.alloc b3 (.cells #[.slice r Q.length cC] 23)).grown aL (by simp;omega) (λg ap=>(Y.q.lt g ap).1));have aJ:Below B wr cH:=((qK B wr).alloc (by omega) (.cells #[.slice r Q.length cC] 23)).grown aL (by simp;omega) (λg ap=>by have:=(Y.q.lt g ap).1;omega);have bR:=qQ (show b4.fS cH B (aR++[.slice r Q.length cC]) (J.cL out (x.a.take (k+1))) by
   rw[a'.q];exact(aH.q.below aJ).snoc (bb.q.below aJ))
  have bO:=qQ (show cH.ownsRow ak.heap.size 23 1 v' (aR++[Value.slice r Q.length cC]).length (aR++[Value.slice r Q.length cC]) by
   rw[qW];exact how)
  clear how aL aJ;go_wp2_with fail;go_roundw
  case rel=>exact⟨k+1,_,by go_num,by omega,bN.q,bI.q,bO.q,by simp[aG.q],bR.q⟩
  case measure=>simp[intOf];omega
 have bm:k=x.a.length:=by omega
 have a6:=qQ (show J.ahead i x.a=true from List.all_eq_true.2 (λa aI=>by
  obtain⟨j,aq,rfl⟩:=zQ aI;have:=aF.q j aq (by omega);simp[this]))
 have be:=qQ (show b4.fS wr B aR (J.cL out x.a) by have h:=aH.q;rwa [bm,zS]at h);have cb:wr.cell? ⟨w.heap.size,0,none⟩=some (.int .i64 x.o.k):=E.q.cell 0;have cI:wr.cell? ⟨w.heap.size,1,none⟩=some (.slice D x.o.I.length cD):=E.q.cell 1;have b':wr.cell? ⟨w.heap.size,2,none⟩=some (.slice T x.o.a.length aD):=E.q.cell 2;have ca:wr.cell? ⟨w.heap.size,3,none⟩=some (.slice O x.o.l.length U):=E.q.cell 3;have cl:wr.cell? ⟨w.heap.size,4,none⟩=some (.slice b1 x.o.h.length ci):=E.q.cell 4;have ct:wr.cell? ⟨w.heap.size,5,none⟩=some (.slice S x.o.s.length cs):=E.q.cell 5;have c3:wr.cell? ⟨w.heap.size,6,none⟩=some (.int .i64 x.o.v):=E.q.cell 6;have cK:wr.cell? ⟨w.heap.size,7,none⟩=some (.slice V x.a.length ag):=E.q.cell 7;have bs:w.heap.size<=wr.heap.size:=fG.q.size;have bZ:aR.length<=4194304:=by have:=aG.q;omega
 have aP:(J.cL out x.a).length=aR.length:=be.q.1.symm;subst bm;clear bW aE aH aF;by_cases M:x.o.k=1
 .have y:=qQ (bG.q a6.q M);rw[M]at cb;have cd:=qQ M;clear M aP;by_cases dm:ps<=i
  .have br:=qQ (show J.aT x i ps out=([],7) by rw[y.q,qY (.inl dm)]);exact Xq
  by_cases a2:x.o.a.length=1
  .obtain⟨zyA,cE,rfl,cn,gt⟩:=(X.q wr fG.q).2.2.2 (by omega);have bf:=gt 0 (by omega);rw[qL,<-J.getD_at x.o.a 0 (by omega)]at bf;have a1:=qQ a2;rw[a2]at b';clear gt a2;generalize x.o.a.getD 0 0=bA at y bf;by_cases a3:bA=(i:Int)
   .subst a3;by_cases a4:0<x.a.length
    .have br:=qQ (show J.aT x i ps out=([],2) by rw[y.q,qV (by have:=a1.q;omega),qY a4]);have a5:(0:Int)<(x.a.length:Int):=by omega
     exact Xq
    have br:=qQ (show J.aT x i ps out=if (R.size x.o.I).2≠0 then([],(R.size x.o.I).2)else(x.o.I,0) by rw[y.q,qV (by have:=a1.q;omega),qV a4]);have a5:¬(0:Int)<(x.a.length:Int):=by omega
    have bQ:=qQ (er D cD x.o.I B wr (by have:=bM.q;omega) (X.q wr fG.q).2.2.1);have bJ:=qQ (eM D cD x.o.I B wr (by have:=bo.1;omega) (X.q wr fG.q).2.2.1 (by omega));go_wp2_with fail;refine bQ.q.mono ?_;rintro e dX ⟨rfl,rfl⟩;simp only[ai.b5];go_wp2_with fail
    ((with_reducible refine bJ.q.mono ?_);rintro e aC ⟨v,rfl,aO,ao⟩)
    have az:=qQ (aA fG.q ao);have aB:=qQ (af.lH (N:=w.heap.size) aO bs);obtain⟨bt,bz,bY,_⟩:=ai.aZ aO;subst bY;clear aO ao;go_wp2_with fail
    go_ret2
    rw[br.q];by_cases aU:(R.size x.o.I).2≠0
    .rw[qY aU];exact⟨⟨_,_,_,rfl,λh=>absurd h aU⟩,az.q⟩
    rw[qV aU];exact⟨⟨_,_,_,by rw[show(R.size x.o.I).2=0 by omega];rfl,λh=>aB.q⟩,az.q⟩
   have br:=qQ (show J.aT x i ps out=([],7) by rw[y.q,qY (.inr (.inr a3))]);have cG:(bA != (i:Int))=true:=by simpa using a3
   clear a3;exact Xq
  have br:=qQ (show J.aT x i ps out=([],7) by rw[y.q,qY (.inr (.inl a2))]);have cF:((x.o.a.length:Int) != 1)=true:=by rw[uU];omega
  clear a2;exact Xq
 have y:=qQ (bE.q a6.q M);have hq:(x.o.k != 1)=true:=by simpa using M
 have a9:=qQ (af.sd _ x.o bB cu (J.cL out x.a) wr.heap.size wr (qX _) bo (by omega) (by omega) (b4.rf Y.q) (bP.q wr fG.q) (be.q.lists Y.q (by omega)));rw[aP]at a9;clear M aP;go_wp2_with fail
 ((with_reducible refine a9.q.mono ?_);rintro e aC ⟨⟨v,rfl,bk⟩,ao⟩)
 have aB:=qQ bk;have az:=qQ (aA fG.q ao);obtain⟨⟨bt,bz,rfl,_,_,_⟩,_⟩:=bk;clear ao;go_wp2_with fail
 go_ret2
 rw[y.q];exact⟨⟨_,_,_,rfl,λh=>⟨aB.q.1,λhp g ap=>qJ bs (aB.q.2 hp g ap)⟩⟩,az.q⟩
end Go.Proofs.YtabmnaaidfpmcaaGreatDoor
end
section
namespace J
theorem rU(ps:Nat)(x:Node)(r:List Node)(out:List (List Int)):bL ps (x::r) out=if (aT x out.length ps out).2≠0 then([],(aT x out.length ps out).2)else bL ps r (out++[(aT x out.length ps out).1]):=rfl
end J
namespace Go.Proofs.YtabmnaaidfpmcaaGreatDoor
open Go.RowKit aS
namespace b4
theorem oZ{B:Nat}{row:Option Nat}(h:af.aN w B v l)(ah:B<=w.heap.size)(x:0<l.length->∀g,v.ownBlock=some g->some g≠row)(q:w.grownBy w' row):af.aN w' B v l:=by
 obtain⟨A,c,rfl,hi,i⟩:=h;refine⟨A,c,rfl,λhp=>?_,i⟩;obtain⟨b,off,rfl,j,m⟩:=hi hp;refine⟨b,off,rfl,j,λk r=>?_⟩;exact(xE (q.block b (by omega) (x hp b rfl))).trans (m k r)
def Rows(N:Nat)(w:World)(v:Value)(ls:List (List Int)):Prop :=
 ∃aR:List Value,w.ownsRow N 23 1 v aR.length aR/\fS w w.heap.size aR ls/\∀j (h:j<aR.length) (i:j<ls.length) g,0<ls[j].length->aR[j].ownBlock=some g->v.ownBlock≠some g
theorem Rows.nil(N:Nat)(w:World):Rows N w (.slice none 0 0) []:=⟨[],⟨rfl,.inl ⟨rfl,rfl⟩⟩,⟨rfl,λj h _=>by simp at h⟩,λj h _=>by simp at h⟩
theorem Rows.below{N:Nat}{w w':World}{v:Value}{ls:List (List Int)}(h:Rows N w v ls)(i:Below w.heap.size w w'):Rows N w' v ls:=by
 obtain⟨aR,j,m,q⟩:=h;exact⟨aR,af.bq j (λg r=>i.block g (j.lt g r).2),(m.below i).up i.size,q⟩
theorem _root_.ZQ{G:Prop}(h:G:=by
 obtain⟨aR,c2,bS,_⟩:=h;have fa:aR.length=n:=by
  rcases c2.2 with ⟨cy,eR⟩ | ⟨g,cap,cur,cy,aE,Im,dt,hm,az,rv⟩
  .injection cy with _ bE;omega
  injection cy with _ bE;omega
 rw[fa]at c2;exact bS.lists c2 (qX _)
 ):G:=h
theorem Rows.lists(h:Rows N w (.slice A n c) ls):af.bu w w.heap.size A ls:=by
 exact ZQ
theorem Rows.lower{N':Nat}(h:Rows N w v ls)(q:N'<=N):Rows N' w v ls:=by
 obtain⟨aR,i,j,m⟩:=h;exact⟨aR,ai.fh i q,j,m⟩
theorem Rows.push{aR:List Value}{G:Option Addr}(U:w.ownsRow N 23 1 v aR.length aR)(r:fS w w.heap.size aR ls)(M:∀j (h:j<aR.length) (r:j<ls.length) g,0<ls[j].length->aR[j].ownBlock=some g->v.ownBlock≠some g)(Q:Below w.heap.size w ag)(x:af.dZ w.heap.size ag (.slice G n c) l)(how:aC.ownsRow N 23 1 v' (aR.length+1) (aR++[.slice G n c]))(D:(ag.alloc (.cells #[.slice G n c] 23)).grownBy aC v.ownBlock)(hw:v'.ownBlock=v.ownBlock\/v'.ownBlock=some (ag.heap.size+1)):Rows N aC v' (ls++[l]):=by
 have O:Below ag.heap.size ag (ag.alloc (.cells #[.slice G n c] 23)):=(qK _ _).alloc (qX _) _;have ap:ag.heap.size+1<=aC.heap.size:=by have:=D.size;simpa using this
 have Z:aR.length=ls.length:=r.1;have ah:=Q.size;have S:∀g,v.ownBlock=some g->g<w.heap.size:=λg i=>(U.lt g i).2
 have W:∀j (m:j<aR.length) (E:j<ls.length),af.aN aC aC.heap.size aR[j] ls[j]:=λj m E=>by
  refine af.aN.up (oZ (B:=w.heap.size) (((r.2 j m E).below Q).below (O.mono ah)) (by simp;omega) (λhp g i e=>?_) D) (by omega);exact M j m E g hp i e.symm
 have Y:af.aN aC aC.heap.size (.slice G n c) l:=by
  refine af.aN.up (oZ (B:=ag.heap.size) (x.1.below O) (by simp) (λhp g i e=>?_) D) (by omega);have:=x.2 hp g i;have:=S g e.symm;omega
 refine⟨aR++[.slice G n c],by rw[qW];exact how,⟨by simp[Z],λj I ak=>?_⟩,λj I ak g hp i=>?_⟩
 .by_cases m:j<aR.length
  .rw[zR m,zR (by omega)];exact W j m _
  have y:j=aR.length:=by simp at I;omega
  have g1:(aR++[Value.slice G n c])[j]=.slice G n c:=by rw[xF (by omega)];simp
  have g2:(ls++[l])[j]=l:=by rw[xF (by omega)];simp
  rw[g1,g2];exact Y
 by_cases m:j<aR.length
 .rw[zR m]at i;rw[zR (by omega)]at hp;have V:g<w.heap.size:=by
   obtain⟨A,cc,e,hi,_⟩:=r.2 j m (by omega);obtain⟨b,off,rfl,X,_⟩:=hi hp;rw[e]at i;simp[Value.ownBlock]at i;omega
  rcases hw with e | e
  .rw[e];exact M j m (by omega) g hp i
  rw[e];intro q;injection q with q;omega
 have y:j=aR.length:=by simp at I;omega
 have g1:(aR++[Value.slice G n c])[j]=.slice G n c:=by rw[xF (by omega)];simp
 have g2:(ls++[l])[j]=l:=by rw[xF (by omega)];simp
 rw[g1]at i;rw[g2]at hp;have ao:=x.2 hp g i;have V:g<ag.heap.size:=by
  obtain⟨A,cc,e,hi,_⟩:=x.1;injection e with y
  subst y;obtain⟨b,off,rfl,X,_⟩:=hi hp;simp[Value.ownBlock]at i;omega
 rcases hw with e | e
 .rw[e];intro q;have:=S g q;omega
 rw[e];intro q;injection q with q;omega
def fE(g:J.bh):Prop:=∀x∈g.n,af.cJ x.o/\x.a.length<=4194304
def Bg(w w':World)(r:List (List Int) × Int)(e:Ending):Prop:=(∃A n c,e=.returned (.tuple #[.slice A n c,.int .i64 r.2])/\n=r.1.length/\Rows w.heap.size w' (.slice A n c) r.1)/\Below w.heap.size w w'
theorem Gr(c:Nat):madeCells (Value.slice none 0 0).cells c=(List.replicate c (Value.slice none 0 0)).toArray:=by
 apply uN
 .simp[wB,Value.cells]
 intro i j m;simp[madeCells,Value.cells,wC]
end b4
theorem b4.xj(c:Nat)(h:c<=65536)(w:World):(Instr.makeSlice 52 (.int .i64 0) (.int .i64 (c:Int))).run Tryz.prog w=.ok (.slice (some ⟨w.heap.size,0,none⟩) 0 c) (w.alloc (.cells (Array.replicate c (Value.slice none 0 0)) 23)):=by
 rw[<-List.toArray_replicate,<-b4.Gr];obtain⟨i0,hi,m,q,r⟩:=xQ Tryz.k1;have j:(i0.bytes:Int)*(c:Int)<=281474976710656:=by rw[r];omega
 have i:=run_make (P:=Tryz.prog) w 52 23 i0 _ underlying52 hi m .i64 .i64 0 c (by omega) (by omega) j (by omega);simp only[xY,q,zF]at i;exact i
theorem _root_.Zn{G:Prop}(h:G:=by
 have br:=qQ (Dv.q (by omega));go_wp2_with fail
 go_ret2
 rw[br.q];exact⟨⟨_,_,_,rfl,rfl,b4.Rows.nil _ _⟩,xv.q⟩
 ):G:=h
theorem _root_.Ji{G bm:Prop}(r:bm)(f:dS bm->G:=by
 intro bb;have cd:=qQ (av.new w 25 #[.slice A g.n.length c,.slice O g.o.length co]);have bp:=qQ ((qK w.heap.size w).alloc (qX _) (.cells #[.slice A g.n.length c,.slice O g.o.length co] 25));obtain⟨ak,cI⟩:=gz (w.alloc (.cells #[.slice A g.n.length c,.slice O g.o.length co] 25));revert cd bp ak cI;exact bb.o
 ):G:=f ⟨r⟩
theorem b4.sy(val:Value)(g:J.bh)(B:Nat)(w:World)(ah:B<=w.heap.size)(bV:b4.fE g)(h:b4.cx w B val g):Calls Tryz.prog 42 #[val] w λe w'=>b4.Bg w w' (J.look g) e:=by
 have b_:=qQ (h.bI ah);obtain⟨A,c,vo,rfl,bj,bN,bH,⟨O,co,rfl,io,lo,b3⟩⟩:=h;refine Ji ?_;intro cd bp ak cI;rw[cI]at cd bp;have da:w.heap.size<ak.heap.size:=cd.q.lt;have b0:ak.cell? ⟨w.heap.size,0,none⟩=some (.slice A g.n.length c):=cd.q.cell 0;have cy:ak.cell? ⟨w.heap.size,1,none⟩=some (.slice O g.o.length co):=cd.q.cell 1;by_cases aV:4096<g.n.length
 .have br:=qQ (show J.look g=([],5) by unfold J.look;rw[qY aV]);have aU:(4096:Int)<(g.n.length:Int):=by omega
  clear bj io aV;go_enter func42,ntmps42;go_wp2_with fail
  go_ret2
  rw[br.q];exact⟨⟨_,_,_,rfl,rfl,b4.Rows.nil _ _⟩,bp.q⟩
 have a7:=qQ (show J.look g=if (J.bL (J.params g.n) g.n []).2≠0 then([],(J.bL (J.params g.n) g.n []).2)else if J.ahead g.n.length g.o=false then([],4)else((J.bL (J.params g.n) g.n []).1,0) by unfold J.look;rw[qV aV]);have cA:g.n.length<=4096:=by omega
 have cJ:=λW=>b4.xj g.n.length (by omega) W
 obtain⟨cf,ci,a8,cp,ca,b9⟩:=fq (λW (i:Below w.heap.size w W)=>bj.below (i.mono ah)) (λW (i:Below w.heap.size w W)=>io.below (i.mono ah)) (J.dO g.n) bV (qZ lo b3) (qZ bN bH);clear bj io aV bV lo b3 bN bH;obtain⟨p,hp⟩:=gz (J.params g.n);have a9:=qQ (λW (i:Below w.heap.size w W)=>b4.tD _ g W.heap.size W (qX _) (b_.q W i));rw[hp]at a7 a8 a9;obtain⟨n,bg⟩:=gz g.n.length;have aI:=qQ bg;rw[bg]at cd b0 cA cJ a8 b9 cI a9 |-;have bu:=qQ (av.new ak 23 (Array.replicate n (Value.slice none 0 0)));have aH:=qQ ((qK ak.heap.size ak).alloc (qX _) (.cells (Array.replicate n (Value.slice none 0 0)) 23));obtain⟨IQ,aD⟩:=gz (ak.alloc (.cells (Array.replicate n (Value.slice none 0 0)) 23));rw[aD]at bu aH;have bR:IQ.ownsRow ak.heap.size 23 1 (.slice (some ⟨ak.heap.size,0,none⟩) 0 n) 0 []:=⟨rfl,.inr ⟨_,n,_,rfl,qX _,bu.q,by omega,by unfold maxLen;omega,by simp,by simp⟩⟩;obtain⟨cm,b8,aN,cr⟩:=cV bR (bp.q.trans (aH.q.mono bp.q.size)) (cd.q.below aH.q cd.q.lt) aD;have bT:(ak.alloc (.cells (Array.replicate n (Value.slice none 0 0)) 23)).cell? ⟨w.heap.size,0,none⟩=some (.slice A n c):=by rw[aD];exact aN.q.cell 0
 have aO:(ak.alloc (.cells (Array.replicate n (Value.slice none 0 0)) 23)).cell? ⟨w.heap.size,1,none⟩=some (.slice O g.o.length co):=by rw[aD];exact aN.q.cell 1
 have cj:=qQ (a9.q IQ b8.q);clear bR bg aD;go_enter func42,ntmps42;go_wp2_with fail;rw[cr.q]
 ((with_reducible refine cj.q.mono ?_);rintro e ag ⟨rfl,aQ⟩)
 obtain⟨cw,b5,cn⟩:=aK (aN.q.below aQ aN.q.lt) (show Below ak.heap.size ak ag from aA aH.q aQ) (show b4.Rows ak.heap.size ag (.slice (some ⟨ak.heap.size,0,none⟩) 0 n) []from b4.Rows.below ⟨[],cm.q,⟨rfl,λj h _=>by simp at h⟩,λj h _=>by simp at h⟩ aQ);have cO:ag.cell? ⟨w.heap.size,0,none⟩=some (.slice A n c):=cw.q.cell 0;clear aQ b0 cy bT aO;go_wp2_with fail;go_loopw [4,25] (λv M wr=>∃(k:Nat) (out:List (List Int)),M=.int .i64 (k:Int)/\k<=n/\out.length=k/\J.bL p g.n []=J.bL p (g.n.drop k) out/\Below ak.heap.size ak wr/\(∃aF cu,v=.slice aF k cu)/\b4.Rows ak.heap.size wr v out) (λ_ M _=>n-(intOf M).toNat)
 case atStart=>exact⟨0,[],rfl,by omega,rfl,rfl,b5.q,⟨_,_,rfl⟩,cn.q⟩
 obtain⟨k,out,rfl,cB,bP,bM,i,⟨aF,cu,rfl⟩,bU⟩:=hrel;obtain⟨ao,bs,a5,bz,xv,bD⟩:=fq bP bM i bU (bp.q.trans (i.mono (by omega))) (cd.q.below i cd.q.lt);clear bP bM i bU;by_cases cE:k<n
 .have bf:k<g.n.length:=by have:=aI.q;omega
  obtain⟨cU,on,rfl,c3,bE⟩:=cf.q wr xv.q (by omega);obtain⟨v1,v2,v3,v4,v5,v6,⟨z0,cP,z2,z3,z4,z5,cQ,cS⟩,s1,s2,a0,a1,a2,a3⟩:=bE k bf;have bn:=qQ (zX bf);have bW:=cp.q g.n[k] (qP bf);have a_:=qQ bW;have i1:=b2 k;have i2:(k:Int)<n:=by omega
  have bX:w.heap.size<=wr.heap.size:=xv.q.size;clear bE bW;generalize g.n[k]=x at z0 cP z2 z3 z4 z5 cQ cS s1 s2 a0 a1 a2 a3 bn a_;obtain⟨S,y,rfl,_⟩:=id s1;obtain⟨dp,E,rfl,_⟩:=id s2;obtain⟨U,Q,rfl,_⟩:=id a0;obtain⟨X,ap,rfl,_⟩:=id a1;obtain⟨Y,aq,rfl,_⟩:=id a2;obtain⟨Z,az,rfl,_⟩:=id a3;obtain⟨V,bc⟩:∃V:Value,V=.agg #[.int .i64 x.o.k,.slice S x.o.I.length y,.slice dp x.o.a.length E,.slice U x.o.l.length Q,.slice X x.o.h.length ap,.slice Y x.o.s.length aq,.int .i64 x.o.v,.slice Z x.a.length az]:=⟨_,rfl⟩;have aG:=qQ (av.new wr 60 #[.int .i64 x.o.k,.slice S x.o.I.length y,.slice dp x.o.a.length E,.slice U x.o.l.length Q,.slice X x.o.h.length ap,.slice Y x.o.s.length aq,.int .i64 x.o.v,.slice Z x.a.length az]);have N:=qQ ((qK wr.heap.size wr).alloc (qX _) (.cells #[.int .i64 x.o.k,.slice S x.o.I.length y,.slice dp x.o.a.length E,.slice U x.o.l.length Q,.slice X x.o.h.length ap,.slice Y x.o.s.length aq,.int .i64 x.o.v,.slice Z x.a.length az] 60));obtain⟨a4,bk⟩:=gz (wr.alloc (.cells #[.int .i64 x.o.k,.slice S x.o.I.length y,.slice dp x.o.a.length E,.slice U x.o.l.length Q,.slice X x.o.h.length ap,.slice Y x.o.s.length aq,.int .i64 x.o.v,.slice Z x.a.length az] 60));rw[bk]at aG N;have bv:=qQ (show b4.gC a4 a4.heap.size V x from b4.gC.up (b4.gC.below ⟨_,_,_,_,_,_,bc,s1,s2,a0,a1,a2,a3⟩ (N.q.mono (qJ ah bX))) (qJ (qJ ah bX) N.q.size));rw[bc]at bv;have bA:=qQ (bz.q.below N.q);obtain⟨aR,D,aE,aX⟩:=bA.q;have bJ:=b4.rf D;have bZ:aR.length=k:=by rw[aE.1,ao.q]
  have cC:k<=cu:=by
   rcases D.2 with ⟨y,c0⟩ | ⟨cZ,cap,cur,y,c2,c6,c5,hm,c9,c_⟩
   .injection y with _ E;omega
   injection y with _ E Q;omega
  have aL:=qQ (qZ D (qZ aE aX));have bB:=qQ bZ;clear D aE aX bZ;have bm:=qQ (b4.Gv _ x k p aF cu out a4.heap.size a4 (qX _) a_.q.1 a_.q.2 ao.q (by omega) (by have:=a8.q;omega) cC bJ bv.q bA.q.lists);have dc:(wr.alloc (.cells #[.int .i64 x.o.k,.slice S x.o.I.length y,.slice dp x.o.a.length E,.slice U x.o.l.length Q,.slice X x.o.h.length ap,.slice Y x.o.s.length aq,.int .i64 x.o.v,.slice Z x.a.length az] 60)).heap.size=wr.heap.size+1:=by simp
  have cq:=qQ bk;have aJ:=qQ (show J.bL p g.n []=if (J.aT x k p out).2≠0 then([],(J.aT x k p out).2)else J.bL p (g.n.drop (k+1)) (out++[(J.aT x k p out).1]) by
   rw[bs.q,bn.q,J.rU,ao.q])
  clear bk bc s1 s2 a0 a1 a2 a3 bJ;obtain⟨⟨dl,a'⟩,bK⟩:∃r,J.aT x k p out=r:=⟨_,rfl⟩;rw[bK]at bm aJ;dsimp only at aJ;clear bK;go_wp2_with fail;rw[cq.q]
  ((with_reducible refine bm.q.mono ?_);rintro e aC ⟨⟨G,m,DL,rfl,aW⟩,aU⟩)
  have a6:=qQ (show Below ak.heap.size ak aC from(a5.q.trans (N.q.mono a5.q.size)).trans (aU.mono (qJ a5.q.size N.q.size)));obtain⟨b7,bl,bo⟩:=aK (bp.q.trans (a6.q.mono (by omega))) aU aW;clear aU aW;by_cases he:a'=0
  .subst he;have cb:=qQ (show J.bL p g.n []=J.bL p (g.n.drop (k+1)) (out++[dl]) by rw[aJ.q,qV (by simp)]);have aW:=bo.q (by first | trivial | rfl);obtain⟨D,aE,aX⟩:=aL.q;have bO:aC.ownsRow ak.heap.size 23 1 (.slice aF k cu) aR.length aR:=af.bq D (λg bd=>bl.q.block g (D.lt g bd).2);have bx:=qQ bO;have c':aR.length<=4096:=by have:=bB.q;omega
   have cM:ak.heap.size<=aC.heap.size:=a6.q.size;obtain⟨i0,g1,g2,g3,g4⟩:=xQ Tryz.k1;clear D aE aX bO aW;go_wp2_with (at_builtin;refine bF _ rfl _ _ 52 rfl ak.heap.size 23 i0 (.slice none 0 0) 1 24 underlying52 g1 g2 g3 g4 rfl (by decide) _ _ _ rfl (bx.q.alloc _) _ (some ⟨aC.heap.size,0,none⟩) 1 1 [.slice G m DL] rfl (af.dj (av.new aC 23 #[.slice G m DL]) rfl) (by intro u hu;simp at hu;subst hu;rfl) (by unfold maxLen;omega) (by omega) (by simp;omega) ?_);intro v' cH how be b1;have b6:=qQ ((a6.q.alloc cM (.cells #[.slice G m DL] 23)).grown be (by simp;omega) (λg bd=>(bx.q.lt g bd).1));have cl:=qQ (b4.Rows.push aL.q.1 aL.q.2.1 aL.q.2.2 bl.q (bo.q (by first | trivial | rfl)) how be (by rcases b1 with e | e;exact .inl e;exact .inr (e.trans (by simp))));obtain⟨cT,cY,bY,_⟩:=ai.aZ how;rw[bB.q]at bY;subst bY;clear how be b1;go_wp2_with fail;go_roundw
   case rel=>exact⟨k+1,_,by go_num,by omega,by rw[qW,ao.q];rfl,cb.q,b6.q,⟨_,_,rfl⟩,cl.q⟩
   case measure=>simp[intOf];omega
  have br:=qQ (show J.look g=([],a') by
    have h:=aJ.q;rw[qY he]at h;rw[a7.q,h,qY he])
  have hq:(a' != 0)=true:=by simpa using he
  clear he;go_wp2_with fail
  go_ret2
  rw[br.q];exact⟨⟨_,_,_,rfl,rfl,b4.Rows.nil _ _⟩,b7.q⟩
 have cD:k=n:=by omega
 subst cD;have b':=qQ (show J.bL p g.n []=(out,0) by rw[bs.q,jD (by rw[aI.q];omega)];rfl);have bt:=qQ (show J.look g=if J.ahead g.n.length g.o=false then([],4)else(out,0) by rw[a7.q,b'.q,qV (by simp)]);have cO:wr.cell? ⟨w.heap.size,0,none⟩=some (.slice A k c):=bD.q.cell 0;have df:wr.cell? ⟨w.heap.size,1,none⟩=some (.slice O g.o.length co):=bD.q.cell 1;obtain⟨wp,cL⟩:∃wp:World,wp=wr:=⟨_,rfl⟩;subst cL;clear cB cE;go_wp2_with fail;go_loopw [49] (λM cN=>∃q:Nat,M=.int .i64 (q:Int)/\q<=g.o.length/\(∀j (aB:j<g.o.length),j<q->0<=g.o[j]/\g.o[j]<(k:Int))/\cN=wp) (λM _=>g.o.length-(intOf M).toNat)
 case atStart=>exact⟨0,rfl,by omega,λj _ h=>by omega,rfl⟩
 obtain⟨q,rfl,hq,bG,rfl⟩:=hrel;have aG:=qQ bG;clear bG;by_cases bQ:q<g.o.length
 .obtain⟨cW,db,rfl,c4,go⟩:=ci.q _ xv.q (by omega);have cz:=go q bQ;have Dv:=qQ (show ¬(0<=g.o[q]/\g.o[q]<(k:Int))->J.look g=([],4)from λh=>by
   rw[bt.q,qY];cases aP:J.ahead g.n.length g.o with
   | false=>rfl
   | true =>
    exfalso;apply h;have:=List.all_eq_true.1 aP _ (qP bQ);rw[aI.q]at this;simpa using this)
  have bw:=qQ (show(0<=g.o[q]/\g.o[q]<(k:Int))->∀j (aB:j<g.o.length),j<q+1->0<=g.o[j]/\g.o[j]<(k:Int)from λh j aB c7=>by
   by_cases e:j=q
   .subst e;exact h
   exact aG.q j aB (by omega))
  have i1:=b2 q;have i2:(q:Int)<(g.o.length:Int):=by omega
  obtain⟨cF,cG⟩:=ca.q;have c8:q+1<=9223372036854775807:=by omega
  clear go cF cG;generalize g.o[q]=o at cz Dv bw;by_cases c1:o<0
  .exact Zn
  by_cases bS:(k:Int)<=o
  .exact Zn
  have cg:=qQ (bw.q (by omega));go_wp2_with fail;go_roundw
  case rel=>exact⟨q+1,by go_num,by omega,cg.q,by first | trivial | rfl⟩
  case measure=>simp[intOf];omega
 have br:=qQ (show J.look g=(out,0) by
   rw[bt.q,qV];intro aP;have:J.ahead g.n.length g.o=true:=List.all_eq_true.2 (λo cK=>by
    obtain⟨j,aB,rfl⟩:=zQ cK;have:=aG.q j aB (by omega);rw[aI.q];simp[this])
   rw[this]at aP;cases aP)
 go_wp2_with fail
 go_ret2
 rw[br.q];exact⟨⟨_,_,_,rfl,ao.q.symm,bz.q.lower (by omega)⟩,xv.q⟩
end Go.Proofs.YtabmnaaidfpmcaaGreatDoor
end
section
namespace aS
open Go Go.RowKit
def gm(w:World)(v:Value)(q:Value->Prop):Prop:=∀g,v.ownBlock=some g->∀cs t f,w.heap[g]?=some (.cells cs t f)->∀u∈cs.toList,q u
theorem gm.c9{q:Value->Prop}(h:gm w v q)(m:∀g,v.ownBlock=some g->w'.heap[g]?=w.heap[g]?):gm w' v q:=λg i cs t f j u hu=>h g i cs t f ((m g i).symm.trans j) u hu
section
variable {P:Program} (w:World)
theorem FA{z:Array Value}{q:Value->Prop}(m:∀u∈z.toList,q u)(i:z.size=1)(k:Nat):∀u∈(Builtin.zeroCells z k).toList,q u:=λu hu=>by
 unfold Builtin.zeroCells at hu;simp only[Array.toList_map,List.mem_map]at hu;obtain⟨j,_,rfl⟩:=hu;apply m;rw[i,wC];rw[getElem!_pos z 0 (by omega)];exact Array.mem_toList_iff.2 (Array.getElem_mem _)
theorem C6(base:Nat)(t ty e:TypeId)(i:TypeInfo)(z:Value)(bytes:Nat)(U:P.underlying t=some (.slice e))(hi:P.info? e=some i)(ag:i.zero=some z)(S:i.size=1)(W:i.bytes=bytes)(ah:z.cells.size=1)(v:Value)(n:Nat)(xs:List Value)(O:w.ownsRow base e 1 v n xs)(a:Addr)(c:Nat)(x:Value)(aK:w.cell? a=some x)(az:x.oneCell'=true)(ak:n+1<=maxLen)(ao:(n+1)*bytes<=140737488355328)(aE:base<=w.heap.size)(q:Value->Prop)(hq:gm w v q)(Z:q x)(aq:∀u∈z.cells.toList,q u):∃v' w',(Builtin.append_ #[t,t] ty #[v,.slice (some a) 1 c]).run P w=.ok v' w'/\w'.ownsRow base e 1 v' (n+1) (xs++[x])/\w.grownBy w' v.ownBlock/\(v'.ownBlock=v.ownBlock\/v'.ownBlock=some w.heap.size)/\gm w' v' q:=by
 have N:∀j u,[x][j]?=some u->w.cell? (a.add j)=some u:=λj u hu=>by
  have aH:j=0:=by have:=(List.getElem?_eq_some_iff.1 hu).1;simpa using this
  subst aH;have:x=u:=by simpa using hu
  subst this;have aD:a.add 0=a:=by unfold Addr.add;simp
  rw[aD];exact aK
 have ap:∀u∈[x],u.oneCell'=true:=λu hu=>by rw[List.mem_singleton.1 hu];exact az
 obtain⟨v',w',Q,aA,aB,_,aC⟩:=pZ (P:=P) w base t ty e i z 1 bytes U hi ag S W ah (by omega) v n xs O a 1 c [x] rfl N ap ak ao aE;refine⟨v',w',Q,aA,aB,aC,?_⟩;have aP:n+1<=9223372036854775807:=by simp only[maxLen]at ak;omega
 have Y:([x]:List Value).length=1*i.size:=by rw[S];rfl
 rcases O.2 with ⟨rfl,rfl⟩ | ⟨g,cap,cur,rfl,aL,E,aO,aN,aF,aJ⟩
 .have r:=run_append_nil (P:=P) w t ty e i z U hi ag a 1 c [x] Y N (by omega) (by omega) (by rw[W];omega);rw[Q]at r;injection r with y B
  subst y B;intro g E cs av f m u hu;have I:g=w.heap.size:=by simpa[Value.ownBlock]using E.symm
  subst I;rw[show(w.drew.alloc (.cells ([x].toArray++Builtin.zeroCells z.cells (grownCap w 1 0 e-1)) e)).heap[w.heap.size]?=some (.cells ([x].toArray++Builtin.zeroCells z.cells (grownCap w 1 0 e-1)) e (0,0))from kJ w.drew _]at m;injection m with m
  injection m with D
  subst D;rw[yL]at hu;rcases List.mem_append.1 hu with hu | hu
  .have:u=x:=by simpa using hu
   rw[this];exact Z
  exact FA aq ah _ u hu
 have X:∀u∈cur.toList,q u:=hq g rfl cur e (0,0) E;by_cases aI:n+1<=cap
 .have aG:n*i.size+[x].length<=cur.size:=by rw[aF,S];simp;omega
  have r:=run_append_room (P:=P) w t ty e i U hi g n cap cur E a 1 c [x] Y N ap aI aG;rw[Q]at r;injection r with y B
  subst y B;intro M I cs av f m u hu;have V:M=g:=by simpa[Value.ownBlock]using I.symm
  subst V;rw[setRow_heap w M cur _ e _ E]at m;injection m with m
  injection m with D
  subst D;simp only[vR]at hu;rcases hu with (hu | hu) | hu
  .exact X u (xN hu)
  .have:u=x:=by simpa using hu
   rw[this];exact Z
  exact X u (jN hu)
 have holds:∀j u,xs[j]?=some u->w.cell? ((⟨g,0,none⟩:Addr).add j)=some u:=O.cells (g:=g) rfl;have r:=run_append_grow (P:=P) w t ty e i z U hi ag ⟨g,0,none⟩ n cap xs (by rw[S];exact O.1) holds a 1 c [x] Y N (by omega) (by omega) (growslice_fits (by omega) (by rw[W];exact ao));rw[Q]at r;injection r with y B
 subst y B;intro M I cs av f m u hu;have V:M=w.heap.size:=by simpa[Value.ownBlock]using I.symm
 subst V;rw[show(w.drew.alloc (.cells (xs.toArray++[x].toArray++Builtin.zeroCells z.cells (grownCap w (n+1) cap e-(n+1))) e)).heap[w.heap.size]?=some (.cells (xs.toArray++[x].toArray++Builtin.zeroCells z.cells (grownCap w (n+1) cap e-(n+1))) e (0,0))from kJ w.drew _]at m;injection m with m
 injection m with D
 subst D;simp only[yL,vR]at hu;rcases hu with (hu | hu) | hu
 .exact X u (by rw[<-aJ]at hu;exact xN (by simpa using hu))
 .have:u=x:=by simpa using hu
  rw[this];exact Z
 exact FA aq ah _ u hu
theorem Fx{o:Oper}{K:Act->World->Prop}{Q:Exit->Act->World->Prop}(s x:Operand)(t:TypeId)(S:o.op=.call { callee:=.builtin .append,args:=#[s,x],argTypes:=#[t,t] })(base:Nat)(e:TypeId)(i:TypeInfo)(z:Value)(bytes:Nat)(ag:P.underlying t=some (.slice e))(hi:P.info? e=some i)(ak:i.zero=some z)(Z:i.size=1)(N:i.bytes=bytes)(ao:z.cells.size=1)(v:Value)(n:Nat)(xs:List Value)(az:a.eval s=v)(U:w.ownsRow base e 1 v n xs)(j:Addr)(c:Nat)(y:Value)(ah:a.eval x=.slice (some j) 1 c)(X:w.cell? j=some y)(m:y.oneCell'=true)(I:n+1<=maxLen)(O:(n+1)*bytes<=140737488355328)(M:base<=w.heap.size)(q:Value->Prop)(hq:gm w v q)(V:q y)(W:∀u∈z.cells.toList,q u)(h:∀v' w',w'.ownsRow base e 1 v' (n+1) (xs++[y])->w.grownBy w' v.ownBlock->(v'.ownBlock=v.ownBlock\/v'.ownBlock=some w.heap.size)->gm w' v' q->K (a.put o.dst v') w'):o.wp P a w K Q:=by
 obtain⟨v',w',Y,r,B,D,E⟩:=C6 (P:=P) w base t o.type e i z bytes ag hi ak Z N ao v n xs U j c y X m I O M q hq V W;unfold Oper.wp execOp;simp only[S,resolve,invoke,builtin,uK,yH,kC,pW,qE,zU,az,ah,Y];exact h v' w' r B D E
theorem l7{ops:Array Oper}{rest:List Oper}{o:Oper}{Q:Exit->Act->World->Prop}(U:o.guard=none)(s x:Operand)(t:TypeId)(V:o.op=.call { callee:=.builtin .append,args:=#[s,x],argTypes:=#[t,t] })(base:Nat)(e:TypeId)(i:TypeInfo)(z:Value)(bytes:Nat)(ah:P.underlying t=some (.slice e))(hi:P.info? e=some i)(ao:i.zero=some z)(ag:i.size=1)(O:i.bytes=bytes)(ap:z.cells.size=1)(v:Value)(n:Nat)(xs:List Value)(az:a.eval s=v)(W:w.ownsRow base e 1 v n xs)(j:Addr)(c:Nat)(y:Value)(ak:a.eval x=.slice (some j) 1 c)(Z:w.cell? j=some y)(m:y.oneCell'=true)(I:n+1<=maxLen)(S:(n+1)*bytes<=140737488355328)(N:base<=w.heap.size)(q:Value->Prop)(hq:gm w v q)(X:q y)(Y:∀u∈z.cells.toList,q u)(h:∀v' w',w'.ownsRow base e 1 v' (n+1) (xs++[y])->w.grownBy w' v.ownBlock->(v'.ownBlock=v.ownBlock\/v'.ownBlock=some w.heap.size)->gm w' v' q->wpList P ops Q rest (a.put o.dst v') w'):wpList P ops Q (o::rest) a w :=
 wpList_plain U λ_ M=>Fx w s x t V base e i z bytes ah hi ao ag O ap v n xs az W j c y ak Z m I S N q hq X Y λv' w' r B D E=>M _ _ (h v' w' r B D E)
end
end aS
end
section
namespace Go.Proofs.YtabmnaaidfpmcaaGreatDoor
open Go.RowKit aS
namespace b4
def l3(u:Value):Prop:=∃A n c,u=.slice A n c
theorem _root_.Zt{G:Prop}(h:G:=by
 rw[ah.cell]at bT;obtain⟨bK,n',c',hs⟩:=hq b e.symm cur _ _ Im _ (Array.mem_toList_iff.2 (Array.mem_of_getElem? bT));cases hs
 ):G:=h
theorem apart(x:w.ownsRow N 23 1 v n xs)(hq:gm w v l3){B:Nat}(h:af.aN w B u l)(hp:0<l.length):∀g,u.ownBlock=some g->some g≠v.ownBlock:=λg r e=>by
 obtain⟨A,c,rfl,hi,_⟩:=h;obtain⟨b,off,rfl,y,q⟩:=hi hp;have m:b=g:=by simpa[Value.ownBlock]using r
 subst m;rcases x.2 with ⟨i,_⟩ | ⟨g,cap,cur,i,D,Im,E,hm,az,I⟩
 .rw[i]at e;simp[Value.ownBlock]at e
 have j:b=g:=by rw[i]at e;simpa[Value.ownBlock]using e
 subst j;have bT:=q 0 hp;have ah:av w b 23 cur:=Im;exact Zt
def fN(N:Nat)(w:World)(v:Value)(ls:List (List Int)):Prop :=
 ∃aR:List Value,w.ownsRow N 23 1 v aR.length aR/\fS w w.heap.size aR ls/\gm w v l3
theorem fN.nil(N:Nat)(w:World):fN N w (.slice none 0 0) []:=⟨[],⟨rfl,.inl ⟨rfl,rfl⟩⟩,⟨rfl,λj h _=>by simp at h⟩,λg i=>by simp[Value.ownBlock]at i⟩
theorem fN.below{N:Nat}{w w':World}{v:Value}{ls:List (List Int)}(h:fN N w v ls)(i:Below w.heap.size w w'):fN N w' v ls:=by
 obtain⟨aR,j,q,r⟩:=h;exact⟨aR,af.bq j (λg m=>i.block g (j.lt g m).2),(q.below i).up i.size,r.c9 (λg m=>i.block g (j.lt g m).2)⟩
theorem fN.lists(h:fN N w (.slice A n c) ls):af.bu w w.heap.size A ls:=by
 exact ZQ
theorem fN.push{aR:List Value}(q:ag.ownsRow N 23 1 v aR.length aR)(m:fS ag ag.heap.size aR ls)(r:gm ag v l3)(x:af.aN ag ag.heap.size u l)(how:aC.ownsRow N 23 1 v' (aR.length+1) (aR++[u]))(i:ag.grownBy aC v.ownBlock)(hq:gm aC v' l3):fN N aC v' (ls++[l]):=by
 refine⟨aR++[u],by rw[qW];exact how,?_,hq⟩;exact fS.snoc ⟨m.1,λj y B=>af.aN.up (oZ (m.2 j y B) (qX _) (λhp=>apart q r (m.2 j y B) hp) i) i.size⟩ (af.aN.up (oZ x (qX _) (λhp=>apart q r x hp) i) i.size)
end b4
theorem b4.n4(val:Value)(g:J.bh)(B:Nat)(w:World)(ah:B<=w.heap.size)(h:b4.cx w B val g):Calls Tryz.prog 30 #[val] w λe w'=>e=.returned (.int .i64 (J.params g.n:Int))/\Below w.heap.size w w':=by
 obtain⟨A,c,vo,rfl,aL,aJ,a3,_⟩:=h;have m:=qQ (av.new w 25 #[.slice A g.n.length c,vo]);have ag:=qQ ((qK w.heap.size w).alloc (qX _) (.cells #[.slice A g.n.length c,vo] 25));obtain⟨ak,Q⟩:=gz (w.alloc (.cells #[.slice A g.n.length c,vo] 25));rw[Q]at m ag;have ap:=qQ (λW (r:Below w.heap.size w W)=>aL.below (r.mono ah));have E:=qQ (J.nH g.n);have aR:ak.cell? ⟨w.heap.size,0,none⟩=some (.slice A g.n.length c):=m.q.cell 0;have aX:w.heap.size<ak.heap.size:=m.q.lt;have aT:=qQ (qK ak.heap.size ak);clear aL;generalize g.n=i at m Q ap E aR aJ |-;obtain⟨n,O⟩:=gz i.length;have ao:=qQ O;rw[O]at m Q aR aJ |-;clear O;go_enter func30,ntmps30;go_wp2_with fail;go_loopw [8] (λS wr=>∃k:Nat,S=.int .i64 (k:Int)/\k<=n/\(∀j (N:j<i.length),j<k->i[j].o.k=1)/\Below ak.heap.size ak wr) (λS _=>n-(intOf S).toNat)
 case atStart=>exact⟨0,rfl,by omega,λj _ h=>by omega,aT.q⟩
 obtain⟨k,rfl,a5,aG,r⟩:=hrel;obtain⟨D,aU,M⟩:=aK aG r (ag.q.trans (r.mono (zG aX)));have a8:wr.cell? ⟨w.heap.size,0,none⟩=some (.slice A n c):=(m.q.below r m.q.lt).cell 0;have a7:ak.heap.size<=wr.heap.size:=r.size;clear aG r;by_cases a6:k<n
 .have aI:k<i.length:=by have:=ao.q;omega
  obtain⟨b,off,rfl,a2,aH⟩:=ap.q wr M.q (by omega);obtain⟨v1,v2,v3,v4,v5,v6,⟨z0,aZ,z2,z3,z4,z5,a0,a1⟩,⟨U,aA,rfl,_⟩,⟨dp,aB,rfl,_⟩,⟨V,aC,rfl,_⟩,⟨X,aD,rfl,_⟩,⟨Y,aE,rfl,_⟩,⟨Z,aF,rfl,_⟩⟩:=aH k aI;have az:=qQ (show i[k].o.k≠1->J.params i=k from λh=>E.q k (D.q) (.inr ⟨aI,h⟩));have aq:=qQ (show i[k].o.k=1->∀j (N:j<i.length),j<k+1->i[j].o.k=1 from λh j N a4=>by
   by_cases e:j=k
   .subst e;exact h
   exact D.q j N (by omega))
  have i1:=b2 k;have i2:(k:Int)<n:=by omega
  clear aH;generalize i[k].o.k=y at z0 az aq;generalize i[k].o.v=aQ at a0;generalize i[k].o.I.length=cW at aZ;generalize i[k].o.a.length=cX at z2;generalize i[k].o.l.length=rz at z3;generalize i[k].o.h.length=aN at z4;generalize i[k].o.s.length=aO at z5;generalize i[k].a.length=aP at a1;have aV:=qQ (aU.q.alloc (by omega) (.cells #[.int .i64 y,.slice U cW aA,.slice dp cX aB,.slice V rz aC,.slice X aN aD,.slice Y aO aE,.int .i64 aQ,.slice Z aP aF] 60));have aW:=qQ (M.q.alloc (by omega) (.cells #[.int .i64 y,.slice U cW aA,.slice dp cX aB,.slice V rz aC,.slice X aN aD,.slice Y aO aE,.int .i64 aQ,.slice Z aP aF] 60));by_cases x:y=1
  .have m:=qQ (aq.q x);subst x;go_wp2_with fail;go_roundw
   case rel=>exact⟨k+1,by go_num,by omega,m.q,aV.q⟩
   case measure=>simp[intOf];omega
  have m:=qQ (az.q x);have hq:(y != 1)=true:=by simpa using x
  clear x;go_wp2_with fail;go_ret;exact⟨by rw[m.q];rfl,aW.q⟩
 obtain rfl:k=n:=by omega
 have m:=qQ (show J.params i=k from E.q k D.q (.inl ao.q.symm));go_wp2_with fail;go_ret;exact⟨by rw[m.q];rfl,M.q⟩
end Go.Proofs.YtabmnaaidfpmcaaGreatDoor
end
section
namespace aS
open Go
variable {P:Program} {ops:Array Oper} {Q:Exit->Act->World->Prop} {md:Region.Mode} {S bm:World->Prop} {t0 t1:Nat}
theorem qv{fuel:Nat}{listed:Array Bool}{i:Nat}{o:Oper}(q:ops[i]?=some o)(hw:Region.wanted o (yielded ops a.tmps)=true)(h:∀K:Act->World->Prop,Shut (∀a w,S w/\bm w->(S w/\bm w->eP P md ops Q S t0 bm t1 fuel (listed.setIfInBounds i true) a w)->K a w)->Oper.wp P o a w K Q):iU P md ops Q S t0 bm t1 fuel listed a w i:=by
 unfold iU wpOp;rw[q];simp only[hw,if_true];exact .inl (h _ (λa w j m=>⟨⟨λ_=>j.1,λ_=>j.2⟩,m j⟩))
end aS
end
section
namespace Go.Proofs.YtabmnaaidfpmcaaGreatDoor
open Go.RowKit aS
namespace aj
theorem oR(h:J.bG l n=true):∀k∈l,0<=k/\k<(n:Int):=λk j=>by
 unfold J.bG at h;rw[qB]at h;have i:=List.all_eq_true.1 h.1 k j;simp only[qB,xZ]at i;exact i
theorem sl{d:List Int} : ∀k∈J.free d l,0<=k/\k<(d.length:Int):=λk i=>by
 unfold J.free at i;have h:=(List.mem_filter.1 i).1;unfold R.c1 at h;obtain⟨j,m,rfl⟩:=List.mem_map.1 h;have:=List.mem_range.1 m;omega
theorem hX(d l:List Int):(J.free d l).length<=d.length:=by rw[<-Gk];exact k4 _ _ _
end aj
theorem _root_.Zl{G:Prop}(h:G:=by
 go_enter func104,ntmps104;go_wp2_with fail
 go_ret2
 rw[br.q];exact⟨_,rfl,af.aN.nil _ _,c7.q _ o5.q⟩
 ):G:=h
theorem af.AE(val:Value)(op:J.Op)(A bK:Option Addr)(cC ib:Nat)(a b:List Int)(B:Nat)(w:World)(ah:B<=w.heap.size)(d':a.length<=6)(i:b.length<=6)(ej:op.l.length<=4194304)(ec:op.a.length<=4194304)(ei:op.h.length<=4194304)(ek:op.s.length<=4194304)(dR:af.bd w B val op)(b7:ai.ao w B A a)(b8:ai.ao w B bK b):Calls Tryz.prog 104 #[val,.slice A a.length cC,.slice bK b.length ib] w λe w'=>∃v,e=.returned (.tuple #[v,.int .i64 (J.dA op a b).2])/\af.aN w' w'.heap.size v (J.dA op a b).1/\Below w.heap.size w w':=by
 obtain⟨v1,v2,v3,v4,v5,rfl,_,⟨T,aD,rfl,it,lt,mt⟩,⟨O,co,rfl,io,lo,dT⟩,⟨b1,ci,rfl,ii,li,dS⟩,⟨S,cs,rfl,is,ls,ms⟩⟩:=dR;obtain⟨j0,ap⟩:=gz (op.a++op.l);obtain⟨D,az⟩:=gz (op.s++op.h);have aP:=qQ (show J.dA op a b=if op.a.length≠op.s.length\/op.l.length≠op.h.length then([],6)else if J.bG j0 a.length=false\/J.bG D b.length=false then([],6)else if J.aq a op.a≠J.aq b op.s\/J.aq a op.l≠J.aq b op.h then([],6)else(J.aq a op.l++J.aq a (J.free a j0)++J.aq b (J.free b D),0) by rw[<-ap,<-az];rfl);refine JE ?_;intro cd bp ak cI;rw[cI]at cd bp;have b_:w.heap.size<ak.heap.size:=cd.q.lt;obtain⟨c7,E,N⟩:=aK (λW (i:Below ak.heap.size ak W)=>bp.q.trans (i.mono (zG b_))) (λW (i:Below ak.heap.size ak W)=>show W.cell? ⟨w.heap.size,2,none⟩=some (.slice T op.a.length aD)/\W.cell? ⟨w.heap.size,5,none⟩=some (.slice S op.s.length cs)/\W.cell? ⟨w.heap.size,3,none⟩=some (.slice O op.l.length co)/\W.cell? ⟨w.heap.size,4,none⟩=some (.slice b1 op.h.length ci)from⟨(cd.q.below i cd.q.lt).cell 2,(cd.q.below i cd.q.lt).cell 5,(cd.q.below i cd.q.lt).cell 3,(cd.q.below i cd.q.lt).cell 4⟩) (λW (i:Below ak.heap.size ak W)=>show B<=W.heap.size from qJ ah (qJ (zG b_) i.size));obtain⟨b5,bT,bQ,bW,be,bf⟩:=fq (λW (i:Below ak.heap.size ak W)=>it.below ((c7.q W i).mono ah)) (λW (i:Below ak.heap.size ak W)=>io.below ((c7.q W i).mono ah)) (λW (i:Below ak.heap.size ak W)=>ii.below ((c7.q W i).mono ah)) (λW (i:Below ak.heap.size ak W)=>is.below ((c7.q W i).mono ah)) (λW (i:Below ak.heap.size ak W)=>b7.below ((c7.q W i).mono ah)) (λW (i:Below ak.heap.size ak W)=>b8.below ((c7.q W i).mono ah));have o5:=qQ (qK ak.heap.size ak);have b6:=qQ (λW (i:Below ak.heap.size ak W)=>by
  have h:=af.dK T O aD co op.a op.l B W (N.q W i) (by omega) (by omega) (b5.q W i) (bT.q W i)
  rwa [ap]at h)
 have b2:=qQ (λW (i:Below ak.heap.size ak W)=>by
  have h:=af.dK S b1 cs ci op.s op.h B W (N.q W i) (by omega) (by omega) (bW.q W i) (bQ.q W i)
  rwa [az]at h)
 have ea:j0.length<=8388608:=by rw[<-ap,qW];omega
 have eb:D.length<=8388608:=by rw[<-az,qW];omega
 have di:=qQ (λ(h:J.bG j0 a.length=true)=>qZ (λk (U:k∈op.a)=>aj.oR h k (by rw[<-ap];exact jR _ U)) (λk (U:k∈op.l)=>aj.oR h k (by rw[<-ap];exact yM _ U)));have dj:=qQ (λ(h:J.bG D b.length=true)=>qZ (λk (U:k∈op.s)=>aj.oR h k (by rw[<-az];exact jR _ U)) (λk (U:k∈op.h)=>aj.oR h k (by rw[<-az];exact yM _ U)));obtain⟨b',ct,ca,cl⟩:=E.q ak o5.q;clear it io ii is b7 b8 lt lo li ls mt dT dS ms ap az;by_cases a7:op.a.length=op.s.length
 .have d1:((op.a.length:Int) != (op.s.length:Int))=false:=by simp;omega
  have dy:=qQ a7;clear a7;by_cases a8:op.l.length=op.h.length
  .have d2:((op.l.length:Int) != (op.h.length:Int))=false:=by simp;omega
   have aR:=qQ (show J.dA op a b=if J.bG j0 a.length=false\/J.bG D b.length=false then([],6)else if J.aq a op.a≠J.aq b op.s\/J.aq a op.l≠J.aq b op.h then([],6)else(J.aq a op.l++J.aq a (J.free a j0)++J.aq b (J.free b D),0) by rw[aP.q,qV (λh=>h.elim (λh=>h dy.q) (λh=>h a8))]);clear a8 aP;go_enter func104,ntmps104;go_wp2_with fail
   ((with_reducible refine(b6.q _ o5.q).mono ?_))
   rintro e ag ⟨v,rfl,j,i⟩;have aL:=qQ (aA o5.q i);have d0:=qQ i;obtain⟨aQ,aO,rfl,i1,cW,m1⟩:=af.b3 j;have bx:=qQ (qZ i1 (qZ cW m1));clear i1 cW m1 j i;have aT:=qQ (af.wg aQ aO a.length j0 ag.heap.size ag bx.q.2.1 bx.q.2.2 (by omega) bx.q.1);obtain⟨b',ct,ca,cl⟩:=E.q ag aL.q;by_cases aB:J.bG j0 a.length=true
   .rw[aB]at aT;have bR:=qQ (di.q aB);have dx:=qQ aB;clear aB;go_wp2_with fail
    ((with_reducible refine aT.q.mono ?_);rintro e dX ⟨rfl,rfl⟩)
    go_wp2_with fail
    ((with_reducible refine(b2.q _ aL.q).mono ?_))
    rintro e aC ⟨v,rfl,j,i⟩;have bO:=qQ (aA aL.q i);have d7:=qQ i;obtain⟨bt,bz,rfl,i2,cX,m2⟩:=af.b3 j;have bA:=qQ (qZ i2 (qZ cX m2));clear i2 cX m2 j i;have aU:=qQ (af.wg bt bz b.length D aC.heap.size aC bA.q.2.1 bA.q.2.2 (by omega) bA.q.1);by_cases aE:J.bG D b.length=true
    .rw[aE]at aU;have bS:=qQ (dj.q aE);have X:=qQ (show J.dA op a b=if J.aq a op.a≠J.aq b op.s\/J.aq a op.l≠J.aq b op.h then([],6)else(J.aq a op.l++J.aq a (J.free a j0)++J.aq b (J.free b D),0) by rw[aR.q,qV (λh=>h.elim (λh=>by rw[dx.q]at h;cases h) (λh=>by rw[aE]at h;cases h))]);clear aE aR;go_wp2_with fail
     ((with_reducible refine aU.q.mono ?_);rintro e dX ⟨rfl,rfl⟩)
     obtain⟨a_,a1⟩:=gz (J.aq a op.a);obtain⟨a',a2⟩:=gz (J.aq b op.s);obtain⟨V,a4⟩:=gz (J.aq a op.l);obtain⟨bc,a3⟩:=gz (J.aq b op.h);obtain⟨aI,aG⟩:=gz (J.free a j0);obtain⟨aJ,aH⟩:=gz (J.free b D);obtain⟨aZ,a5⟩:=gz (J.aq a aI);obtain⟨a0,a6⟩:=gz (J.aq b aJ);rw[a1,a2,a4,a3,aG,aH,a5,a6]at X;have f1:a_.length<=4194304:=by rw[<-a1,J.aW];omega
     have f2:a'.length<=4194304:=by rw[<-a2,J.aW];omega
     have f3:V.length<=4194304:=by rw[<-a4,J.aW];omega
     have f4:bc.length<=4194304:=by rw[<-a3,J.aW];omega
     have f5:aI.length<=6:=by have:=aj.hX a j0;rw[<-aG];omega
     have f6:aJ.length<=6:=by have:=aj.hX b D;rw[<-aH];omega
     have f7:aZ.length<=6:=by rw[<-a5,J.aW];omega
     have f8:a0.length<=6:=by rw[<-a6,J.aW];omega
     have cY:=qQ (λW (i:Below ak.heap.size ak W)=>by
      have h:=af.eE A T cC aD op.a a B W (N.q W i) (by omega) (by omega) bR.q.1 (b5.q W i) (be.q W i)
      rwa [a1]at h)
     have cZ:=qQ (λW (i:Below ak.heap.size ak W)=>by
      have h:=af.eE bK S ib cs op.s b B W (N.q W i) (by omega) (by omega) bS.q.1 (bW.q W i) (bf.q W i)
      rwa [a2]at h)
     have bP:=qQ (λW (i:Below ak.heap.size ak W)=>by
      have h:=af.eE A O cC co op.l a B W (N.q W i) (by omega) (by omega) bR.q.2 (bT.q W i) (be.q W i)
      rwa [a4]at h)
     have c0:=qQ (λW (i:Below ak.heap.size ak W)=>by
      have h:=af.eE bK b1 ib ci op.h b B W (N.q W i) (by omega) (by omega) bS.q.2 (bQ.q W i) (bf.q W i)
      rwa [a3]at h)
     have c1:=qQ (λaQ aO W (hi:ai.ao W W.heap.size aQ j0)=>by
      have h:=af.hW A aQ cC aO j0 a W.heap.size W (qX _) (by omega) (by omega) hi
      rwa [aG]at h)
     have c2:=qQ (λaQ aO W (hi:ai.ao W W.heap.size aQ D)=>by
      have h:=af.hW bK aQ ib aO D b W.heap.size W (qX _) (by omega) (by omega) hi
      rwa [aH]at h)
     have dh:=qQ (λaQ aO W (i:Below ak.heap.size ak W) (hi:ai.ao W W.heap.size aQ aI)=>by
      have h:=af.eE A aQ cC aO aI a W.heap.size W (qX _) (by omega) (by omega) (by rw[<-aG];exact aj.sl) hi ((be.q W i).up (N.q W i))
      rwa [a5]at h)
     have dp:=qQ (λaQ aO W (i:Below ak.heap.size ak W) (hi:ai.ao W W.heap.size aQ aJ)=>by
      have h:=af.eE bK aQ ib aO aJ b W.heap.size W (qX _) (by omega) (by omega) (by rw[<-aH];exact aj.sl) hi ((bf.q W i).up (N.q W i))
      rwa [a6]at h)
     have bv:=qQ (show Below ak.heap.size ak aC.drew from bO.q.drew);clear a1 a2 a4 a3 aG aH a5 a6 b' ca cl ct;go_wp2_with fail;refine fk (λw'=>w'.cell? ⟨w.heap.size,2,none⟩=some (.slice T op.a.length aD)/\w'.cell? ⟨w.heap.size,5,none⟩=some (.slice S op.s.length cs)/\w'.cell? ⟨w.heap.size,3,none⟩=some (.slice O op.l.length co)/\w'.cell? ⟨w.heap.size,4,none⟩=some (.slice b1 op.h.length ci)) 19 22 (E.q _ bv.q) (λy=>?_);simp only[qF,qG];refine e5 0 46 ?_;refine e5 4 50 ?_;refine bX [2,3,7,8,9,10,14,18] 1 47 ?_;refine bX [3,7,8,9,10,14,18] 2 48 ?_;refine bX [6,7,8,9,10,14,18] 5 51 ?_;refine bX [7,8,9,10,14,18] 6 52 ?_;try simp only[Act.put,bj,bk,bl]
     have bn:=bv;generalize aC.drew=aw at bn y |-;clear bv;refine fT 3 (λK r=>?_);go_simp
     ((with_reducible refine(cY.q _ bn.q).mono ?_))
     rintro e dZ ⟨v,rfl,j,i⟩;have bo:=qQ (aA bn.q i);have d8:=qQ i;obtain⟨cK,dL,rfl,i4,cr,m4⟩:=af.b3 j;have db:=qQ (qZ i4 (qZ cr m4));clear i4 cr m4 j i;try go_simp
     refine r.q _ _ ⟨E.q _ bo.q,trivial⟩ (λm=>?_);clear r K y;have y:=m;clear m;try simp only[bj,bk,bl]
     refine fT 7 (λK r=>?_);go_simp
     ((with_reducible refine(cZ.q _ bo.q).mono ?_))
     rintro e aF ⟨v,rfl,j,i⟩;have bq:=qQ (aA bo.q i);have dt:=qQ i;obtain⟨cL,dM,rfl,i5,cu,m5⟩:=af.b3 j;have dc:=qQ (qZ i5 (qZ cu m5));clear i5 cu m5 j i;try go_simp
     refine r.q _ _ ⟨E.q _ bq.q,trivial⟩ (λm=>?_);clear r K y;have y:=m;clear m;try simp only[bj,bk,bl]
     have aV:=qQ (af.h9 cK cL dL dM a_ a' dZ.heap.size aF.heap.size aF (by omega) (by omega) (db.q.1.below dt.q) dc.q.1);by_cases Y:a_=a'
     .rw[zD Y]at aV;have cO:=qQ Y;clear Y;refine fT 8 (λK r=>?_);go_simp
      ((with_reducible refine aV.q.mono ?_);rintro e cH ⟨rfl,x,rfl⟩)
      have I:=qQ (show Below ak.heap.size ak (aF.drewN x)from zV bq.q x);generalize aF.drewN x=cH at I |-;try go_simp
      refine r.q _ _ ⟨E.q _ I.q,trivial⟩ (λm=>?_);clear r K y;have y:=m;clear m;try simp only[bj,bk,bl]
      refine e5 9 55 ?_;refine e5 10 56 ?_;refine bX [14,18] 11 57 ?_;refine bX [13,14,18] 12 58 ?_;try simp only[Act.put,bj,bk,bl];refine bX [14,18] 13 59 ?_;refine bX [18] 15 61 ?_;try simp only[Act.put,bj,bk,bl];refine bX [17,18] 16 62 ?_;try simp only[Act.put,bj,bk,bl];refine bX [18] 17 63 ?_;try simp only[Act.put,bj,bk,bl]
      refine eh 14 (by kernel_rfl) (qv rfl rfl (λK r=>?_));go_simp
      ((with_reducible refine(bP.q _ I.q).mono ?_))
      rintro e dX ⟨v,rfl,j,i⟩;have bs:=qQ (aA I.q i);have d9:=qQ i;obtain⟨cM,dO,rfl,i7,cw,m7⟩:=af.b3 j;have df:=qQ (qZ i7 (qZ cw m7));clear i7 cw m7 j i;try go_simp
      refine r.q _ _ ⟨E.q _ bs.q,trivial⟩ (λm=>?_);clear r K y;have y:=m;clear m;try simp only[bj,bk,bl]
      refine eh 18 (by kernel_rfl) (qv rfl rfl (λK r=>?_));go_simp
      ((with_reducible refine(c0.q _ bs.q).mono ?_))
      rintro e hk ⟨v,rfl,j,i⟩;have bu:=qQ (aA bs.q i);have du:=qQ i;obtain⟨cN,dP,rfl,i8,cx,m8⟩:=af.b3 j;have dg:=qQ (qZ i8 (qZ cx m8));clear i8 cx m8 j i;try go_simp
      refine r.q _ _ ⟨E.q _ bu.q,trivial⟩ (λm=>?_);clear r K y;have y:=m;clear m;try simp only[bj,bk,bl]
      have aX:=qQ (af.h9 cM cN dO dP V bc dX.heap.size hk.heap.size hk (by omega) (by omega) (df.q.1.below du.q) dg.q.1);clear y;refine eW [_,_,_] 19 [20,21] ?_;by_cases Z:V=bc
      .rw[zD Z]at aX;have bw:=qQ (show J.dA op a b=(V++aZ++a0,0) by rw[X.q,qV (λh=>h.elim (λh=>h cO.q) (λh=>h Z))]);clear Z X;go_wp2_with fail
       ((with_reducible refine aX.q.mono ?_);rintro e a9 ⟨rfl,x,rfl⟩)
       have Q:=qQ (show Below ak.heap.size ak (hk.drewN x)from zV bu.q x);generalize hk.drewN x=a9 at Q |-;obtain⟨b',ct,ca,cl⟩:=E.q a9 Q.q;go_wp2_with fail
       ((with_reducible refine(b6.q _ Q.q).mono ?_))
       rintro e dU ⟨v,rfl,j,i⟩;have cP:=qQ (aA Q.q i);have d3:=qQ i;obtain⟨cy,dz,rfl,i10,l10,m10⟩:=af.b3 j;have c3:=qQ (qZ i10 (qZ l10 m10));clear i10 l10 m10 j i;have dk:=qQ (c1.q cy dz dU c3.q.1);go_wp2_with fail
       ((with_reducible refine(dk.q).mono ?_))
       rintro e dV ⟨v,rfl,j,i⟩;have bM:=qQ (aA cP.q i);have d4:=qQ i;obtain⟨cz,dB,rfl,i11,cb,m11⟩:=af.b3 j;have c4:=qQ (qZ i11 (qZ cb m11));clear i11 cb m11 j i;have dl:=qQ (dh.q cz dB dV bM.q c4.q.1);go_wp2_with fail
       ((with_reducible refine(dl.q).mono ?_))
       rintro e bH ⟨v,rfl,j,i⟩;have bg:=qQ (aA bM.q i);have d5:=qQ i;obtain⟨cA,dC,rfl,i12,cf,m12⟩:=af.b3 j;have c5:=qQ (qZ i12 (qZ cf m12));clear i12 cf m12 j i;obtain⟨b',ct,ca,cl⟩:=E.q bH bg.q;go_wp2_with fail
       ((with_reducible refine(b2.q _ bg.q).mono ?_))
       rintro e dW ⟨v,rfl,j,i⟩;have cQ:=qQ (aA bg.q i);have bY:=qQ i;obtain⟨cB,dE,rfl,i13,cg,m13⟩:=af.b3 j;have c6:=qQ (qZ i13 (qZ cg m13));clear i13 cg m13 j i;have dm:=qQ (c2.q cB dE dW c6.q.1);go_wp2_with fail
       ((with_reducible refine(dm.q).mono ?_))
       rintro e dY ⟨v,rfl,j,i⟩;have bN:=qQ (aA cQ.q i);have bZ:=qQ i;obtain⟨cD,dF,rfl,i14,cj,m14⟩:=af.b3 j;have c8:=qQ (qZ i14 (qZ cj m14));clear i14 cj m14 j i;have dn:=qQ (dp.q cD dF dY bN.q c8.q.1);go_wp2_with fail
       ((with_reducible refine(dn.q).mono ?_))
       rintro e bI ⟨v,rfl,j,i⟩;have bh:=qQ (aA bN.q i);have b0:=qQ i;obtain⟨cE,dG,rfl,i15,cm,m15⟩:=af.b3 j;have c9:=qQ (qZ i15 (qZ cm m15));clear i15 cm m15 j i;obtain⟨b',ct,ca,cl⟩:=E.q bI bh.q;go_wp2_with fail
       ((with_reducible refine(bP.q _ bh.q).mono ?_))
       rintro e bJ ⟨v,rfl,j,i⟩;have cS:=qQ (aA bh.q i);have bB:=qQ i;obtain⟨cF,dH,rfl,i16,cn,m16⟩:=af.b3 j;have c_:=qQ (qZ i16 (qZ cn m16));clear i16 cn m16 j i;obtain⟨dv,dw,cV⟩:=aK (λW (i:Below bH.heap.size bH W)=>(c5.q.1.below i).up i.size) (λW (i:Below bI.heap.size bI W)=>(c9.q.1.below i).up i.size) (bY.q.trans ((bZ.q.trans ((b0.q.trans (bB.q.mono b0.q.size)).mono bZ.q.size)).mono bY.q.size));have bU:=qQ (af.dK cF cA dH dC V aZ bJ.heap.size bJ (qX _) (by omega) (by omega) c_.q.1 (dv.q bJ cV.q));obtain⟨M,bD⟩:=gz (V++aZ);have d_:M.length<=8388608:=by rw[<-bD,qW];omega
       rw[bD]at bU bw;clear bD;go_wp2_with fail
       ((with_reducible refine(bU.q).mono ?_))
       rintro e bL ⟨v,rfl,j,i⟩;have cT:=qQ (aA cS.q i);have dr:=qQ i;obtain⟨cG,dI,rfl,i17,cp,m17⟩:=af.b3 j;have c':=qQ (qZ i17 (qZ cp m17));clear i17 cp m17 j i;have bV:=qQ (af.dK cG cE dI dG M a0 bL.heap.size bL (qX _) (by omega) (by omega) c'.q.1 (dw.q bL (bB.q.trans (dr.q.mono bB.q.size))));obtain⟨bm,b9⟩:=gz (M++a0);rw[b9]at bV bw;clear b9;go_wp2_with fail
       ((with_reducible refine(bV.q).mono ?_))
       rintro e eo ⟨v,rfl,j,i⟩;have cU:=qQ (aA cT.q i);have d6:=qQ i;obtain⟨cJ,dJ,rfl,i18,cq,m18⟩:=af.b3 j;have da:=qQ (qZ i18 (qZ cq m18));clear i18 cq m18 j i;go_wp2_with fail
       go_ret2
       rw[bw.q];exact⟨_,rfl,⟨cJ,dJ,rfl,da.q⟩,c7.q _ cU.q⟩
      rw[zN Z]at aX;have br:=qQ (show J.dA op a b=([],6) by rw[X.q,qY (.inr Z)]);clear Z X;go_wp2_with fail
      ((with_reducible refine aX.q.mono ?_);rintro e a9 ⟨rfl,x,rfl⟩)
      have Q:=qQ (show Below ak.heap.size ak (hk.drewN x)from zV bu.q x);generalize hk.drewN x=a9 at Q |-;go_wp2_with fail
      go_ret2
      rw[br.q];exact⟨_,rfl,af.aN.nil _ _,c7.q _ Q.q⟩
     rw[zN Y]at aV;have br:=qQ (show J.dA op a b=([],6) by rw[X.q,qY (.inl Y)]);clear Y;refine fT 8 (λK r=>?_);go_simp
     ((with_reducible refine aV.q.mono ?_);rintro e cH ⟨rfl,x,rfl⟩)
     have I:=qQ (show Below ak.heap.size ak (aF.drewN x)from zV bq.q x);generalize aF.drewN x=cH at I |-;try go_simp
     refine r.q _ _ ⟨E.q _ I.q,trivial⟩ (λm=>?_);clear r K y;have y:=m;clear m;try simp only[bj,bk,bl]
     refine e5 9 55 ?_;refine e5 10 56 ?_;refine Fp [14,18] 11 57 ?_;refine Fp [13,14,18] 12 58 ?_;try simp only[Act.put,bj,bk,bl];refine Fp [14,18] 13 59 ?_;refine Fp [18] 14 60 ?_;refine Fp [18] 15 61 ?_;try simp only[Act.put,bj,bk,bl];refine Fp [17,18] 16 62 ?_;refine Fp [18] 17 63 ?_;try simp only[Act.put,bj,bk,bl];refine Fp [] 18 64 ?_;try simp only[Act.put,bj,bk,bl]
     clear y;refine eW [_,_,_] 19 [20,21] ?_;go_wp2_with fail
     go_ret2
     rw[br.q];exact⟨_,rfl,af.aN.nil _ _,c7.q _ I.q⟩
    have bF:J.bG D b.length=false:=by simpa using aE
    rw[bF]at aU;have br:=qQ (show J.dA op a b=([],6) by rw[aR.q,qY (.inr bF)]);clear aE bF;go_wp2_with fail
    ((with_reducible refine aU.q.mono ?_);rintro e dX ⟨rfl,rfl⟩)
    go_wp2_with fail
    go_ret2
    rw[br.q];exact⟨_,rfl,af.aN.nil _ _,c7.q _ bO.q⟩
   have bE:J.bG j0 a.length=false:=by simpa using aB
   rw[bE]at aT;have br:=qQ (show J.dA op a b=([],6) by rw[aR.q,qY (.inl bE)]);clear aB bE;go_wp2_with fail
   ((with_reducible refine aT.q.mono ?_);rintro e dX ⟨rfl,rfl⟩)
   go_wp2_with fail
   go_ret2
   rw[br.q];exact⟨_,rfl,af.aN.nil _ _,c7.q _ aL.q⟩
  have d2:((op.l.length:Int) != (op.h.length:Int))=true:=by simp;omega
  have br:=qQ (show J.dA op a b=([],6) by rw[aP.q,qY (.inr a8)]);clear a8;exact Zl
 have d1:((op.a.length:Int) != (op.s.length:Int))=true:=by simp;omega
 have br:=qQ (show J.dA op a b=([],6) by rw[aP.q,qY (.inl a7)]);clear a7;exact Zl
end Go.Proofs.YtabmnaaidfpmcaaGreatDoor
end
