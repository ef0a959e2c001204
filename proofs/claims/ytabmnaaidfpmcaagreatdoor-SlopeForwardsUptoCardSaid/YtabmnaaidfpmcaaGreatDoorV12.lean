/-
  ArrD, ArrE, MkB, RvL, ArrPlain3, ViewX0, ViewY. Conditions: where the theorems name them.
-/
import Derived.Test.YtabmnaaidfpmcaaGreatDoorV11
import Derived.Maps.OwnSet
import Derived.Maps.Views
set_option linter.unusedVariables false
set_option maxRecDepth 100000
set_option maxHeartbeats 16000000
open Go.Proofs.Tryz
variable {cs:Array Go.Value}{d s st x:Int}{bf out:List Int}{xs:List Go.Value}{N P a8 aO base g k n:Nat}{aQ:Option Go.Addr}{bm:Prop}{e t:Go.TypeId}{v v':Go.Value}{bD bg w w':Go.World}
section
namespace Go.Proofs.YtabmnaaidfpmcaaGreatDoor
open Go.RowKit aS
namespace af
def fH(w:World)(g c:Nat)(cur:List Int):Prop:=∃row:Array Value,av w g 3 row/\row.size=c/\cur.length<=c/\∀i (h:i<cur.length),row[i]?=some (.int .i64 cur[i])
theorem fH.lt{w:World}{g c:Nat}{cur:List Int}(h:fH w g c cur):g<w.heap.size:=by
 obtain⟨row,i,_⟩:=h;exact i.lt
theorem fH.drewN{w:World}{g c:Nat}{cur:List Int}(h:fH w g c cur)(n:Nat):fH (w.drewN n) g c cur:=by
 obtain⟨row,i,j⟩:=h;exact⟨row,i.drewN n,j⟩
theorem fH.drew{w:World}{g c:Nat}{cur:List Int}(h:fH w g c cur):fH w.drew g c cur:=by
 obtain⟨row,i,j⟩:=h;exact⟨row,i.drew,j⟩
theorem fH.cell{w:World}{g c:Nat}{cur:List Int}(h:fH w g c cur){i:Nat}(hi:i<cur.length):w.cell? ⟨g,i,none⟩=some (.int .i64 cur[i]):=by
 obtain⟨row,j,q,r,m⟩:=h;exact j.at (m i hi)
theorem fH.frozen{w:World}{g c:Nat}{cur:List Int}(h:fH w g c cur)(i:Nat):w.frozen? ⟨g,i,none⟩=false:=by
 obtain⟨row,j,_⟩:=h;exact j.frozen i
theorem fH.set{w:World}{g c:Nat}{cur:List Int}(h:fH w g c cur){i:Nat}(hi:i<cur.length)(x:Int):fH (w.setCell ⟨g,i,none⟩ (.int .i64 x)) g c (cur.set i x):=by
 obtain⟨row,q,r,y,B⟩:=h;refine⟨_,q.bs i _,by simpa using r,by rw[xJ];exact y,λj m=>?_⟩;rw[xJ]at m;simp only[wP];rw[kG];by_cases e:i=j
 .subst e;rw[qY rfl,qY (by omega),qY rfl]
 rw[qV e,qV e];exact B j m
theorem fH.own{l:List Int}(h:w.ownsRow base 3 1 v n (ints l))(hp:0<l.length):∃g c,v=.slice (some ⟨g,0,none⟩) l.length c/\base<=g/\fH w g c l/\c<=9223372036854775807:=by
 have y:l.length=n:=by
  have j:=h.1;rw[cn,zF]at j;exact j
 subst y;rcases h.2 with ⟨_,D⟩ | ⟨g,cap,cur,rfl,q,x,r,hm,az,B⟩
 .omega
 refine⟨g,cap,rfl,q,⟨cur,x,by omega,r,λi hi=>?_⟩,by unfold maxLen at hm;omega⟩;have m:(cur.toList.take (l.length*1))[i]?=some (.int .i64 l[i]):=by rw[B];exact ints_at l i hi
 rw[yW,qY (by omega)]at m;simpa using m
theorem fH.gB{c:Nat}{cur:List Int}(h:fH w g c cur)(hm:c<=9223372036854775807):aN w w.heap.size (.slice (some ⟨g,0,none⟩) cur.length c) cur:=by
 have r:=h.lt;obtain⟨row,j,x,m,q⟩:=h;refine⟨_,_,rfl,λhp=>⟨g,0,rfl,r,λi hi=>?_⟩,m,hm⟩;rw[qI];exact j.at (q i hi)
end af
namespace aj
open J (j' cU)
theorem Bp{d:List Int}{j:Nat}(r:j<out.length)(m:j≠k)(q:d.getD j 0≠out.getD j 0):j' k out d=false:=by
 cases h:j' k out d with
 | false=>rfl
 | true =>
  unfold J.j' at h;rw[qB]at h;have i:=List.all_eq_true.1 h.2 j (List.mem_range.2 r);simp only[pD,xZ]at i;exact absurd i (λh=>h.elim m q)
theorem Bq{d:List Int}(h:d.length≠out.length):j' k out d=false:=by unfold J.j';rw[zN h];rfl
theorem yt{d:List Int}(i:d.length=out.length)(h:∀j,j<out.length->j=k\/d.getD j 0=out.getD j 0):j' k out d=true:=by
 unfold J.j';rw[zD i,pM];exact List.all_eq_true.2 (λj m=>by
  simp only[pD,xZ];exact h j (List.mem_range.1 m))
theorem vu(l:List Int)(i k:Nat)(x:Int)(hi:i<l.length):(l.set i x).getD k 0=if k=i then x else l.getD k 0:=by
 rw[qU,List.getElem?_set];by_cases e:i=k
 .subst e;simp[hi]
 rw[qV e,qV (zK e),qU]
end aj
theorem _root_.Qd{G:Prop}(h:G:=by
 obtain rfl:k=m:=by omega
 have cb:=qQ (show J.bQ op args=(cur,0) by rw[HP.q,jD (by have:=eQ.q;omega)];rfl);have iz:=qQ (o8.q.gB x0.q.2);rw[gG.q]at iz;go_wp2_with fail
 go_ret2
 rw[cb.q];exact⟨_,rfl,⟨iz.q,λ_ g jg=>by simp[Value.ownBlock]at jg;omega⟩,c4.q⟩
 ):G:=h
theorem _root_.Zx{G:Prop}(h:G:=by
 go_enter func126,ntmps126;go_wp2_with fail
 go_quiet (fail)
 go_wp2_with fail
 go_ret2
 rw[br.q];exact⟨_,rfl,af.dZ.nil _ _,zV (qK _ _) nq⟩
 ):G:=h
theorem _root_.Zj{G:Prop}(h:G:=by
 obtain⟨hr,dN,e,_,dt⟩:=mh.q (by have:=eQ.q;omega);injection e with e;injection e with cy bE;subst cy;subst bE
 exact dt (k+1) (by have:=eQ.q;omega)
 ):G:=h
theorem _root_.Jr{G:Prop}(r:bm)(f:dS bm->G:=by
 intro bb;have vD:=gH.q args[k+1] (qP p9);have px:=qQ (show J.bQ op args=if J.j' q cur args[k+1]then J.cU q (cur.set q (cur.getD q 0+(args[k+1]).getD q 0)) (args.drop (k+1+1))else([],6) by
  rw[HP.q,zX p9];rfl)
 have i1:=b2 k;have i2:(k:Int)<m:=by omega
 revert vD px i1 i2;exact bb.o
 ):G:=f ⟨r⟩
theorem _root_.VN{G:Prop}(r:bm)(f:dS bm->G:=by
 intro bb;have cj:=qQ (show J.bQ op args=if op.a.length≠1\/op.a.getD 0 0<0\/((args.getD 0 []).length:Int)<=op.a.getD 0 0 then([],6)else J.cU (op.a.getD 0 0).toNat (args.getD 0 []) (args.drop 1)from rfl);revert cj;exact bb.o
 ):G:=f ⟨r⟩
theorem _root_.VR{G:Prop}(r:bm)(f:dS bm->G:=by
 intro bb;have x0:=qQ (qZ Hv Hu);have aJ:∀k (mN:k<m),∃v,w.cell? ⟨b,off+(k+1),none⟩=some v/\af.aN w B v (args[k+1]'(by have:=eQ.q;omega)):=λk mN=>by
  exact Zj
 have sU:=qQ aJ;revert x0 aJ sU;exact bb.o
 ):G:=f ⟨r⟩
theorem af.CA(op:J.Op)(A bK:Option Addr)(cC aP:Nat)(args:List (List Int))(B:Nat)(w:World)(ah:B<=w.heap.size)(cf:op.a.length<=9223372036854775807)(az:0<args.length)(b0:args.length<=1099511627776)(bW:args.length<=aP)(b':aP<=9223372036854775807)(a_:∀d∈args,d.length<=6/\∀x∈d,0<=x/\x<=4096)(M:ai.ao w B A op.a)(D:af.bu w B bK args):Calls Tryz.prog 126 #[.slice A op.a.length cC,.slice bK args.length aP] w λe w'=>∃v,e=.returned (.tuple #[v,.int .i64 (J.bQ op args).2])/\af.dZ w.heap.size w' v (J.bQ op args).1/\Below w.heap.size w w':=by
 refine VN ?_;intro cj;obtain⟨bf,mh,gH⟩:=aK M D a_;obtain⟨b,off,rfl,b9,dt⟩:=D az;obtain⟨v0,Z,bc,bT,rfl,i0,bI,m0⟩:=dt 0 az;have aR:args.getD 0 []=args[0]:=by simp[az]
 have a9:=a_ args[0] (qP az);obtain⟨n,a7⟩:=gz args.length;have eQ:=qQ a7;have be:=qQ i0;rw[aR]at cj;rw[a7]at az b0 bW |-;rw[qL]at Z;clear a7 M D a_ dt i0 aR;generalize args[0]=a0 at cj Z bI a9 be;obtain⟨r,a8⟩:=gz a0.length;rw[a8]at cj Z bI a9;have bq:=qQ a8;have cl:(0:Int)<n:=by omega
 clear a8;by_cases M:op.a.length=1
 .have d1:((op.a.length:Int) != 1)=false:=by simp;omega
  obtain⟨ba,aT,rfl,b_,iP⟩:=bf.q (by omega);have aL:=iP 0 (by omega);rw[<-J.getD_at op.a 0 (by omega),qL]at aL;have bz:(0:Int)<(op.a.length:Int):=by omega
  have bv:op.a.getD 0 0=op.a[0]:=J.getD_at op.a 0 (by omega);have bd:=qQ (show Value.int .i64 (op.a.getD 0 0)=Value.int .i64 op.a[0] by rw[bv]) ;clear iP bv;generalize op.a.getD 0 0=U at cj aL bd;by_cases D:U<0
  .have br:=qQ (show J.bQ op args=([],6) by rw[cj.q,qY (.inr (.inl D))]);exact Zx
  have d2:decide (U<0)=false:=by simpa using D
  by_cases ap:(r:Int)<=U
  .have br:=qQ (show J.bQ op args=([],6) by rw[cj.q,qY (.inr (.inr ap))]);have d3:decide ((r:Int)<=U)=true:=by simpa using ap
   exact Zx
  have d3:decide ((r:Int)<=U)=false:=by simpa using ap
  obtain⟨q,rfl⟩:∃q:Nat,U=(q:Int):=⟨U.toNat,by omega⟩;have cm:q<r:=by omega
  have br:=qQ (show J.bQ op args=J.cU q a0 (args.drop 1) by
   rw[cj.q,qV (λh=>h.elim (λh=>h M) (λh=>h.elim D ap)),xY])
  obtain⟨bM,bL,Y⟩:=aK (λW (N:Below w.heap.size w W)=>eM bc bT a0 B W (by have:=bq.q;omega) (be.q.below (N.mono ah)) (by have:=N.size;omega)) (λm=>zV (qK w.heap.size w) m) bq.q;go_enter func126,ntmps126;go_wp2_with fail
  go_quiet (fail)
  have aE:=qQ (bL.q nq);have bt:(w.drewN nq).cell? ⟨b,off,none⟩=some (.slice bc r bT):=Z;have aO:(w.drewN nq).cell? ⟨ba,aT,none⟩=some (.int .i64 (q:Int)):=aL;have aX:=qQ (bM.q _ aE.q);rw[Y.q]at aX;have bH:w.heap.size<=(w.drewN nq).heap.size:=aE.q.size;generalize w.drewN nq=ag at aE aX bt bH aO |-;clear D ap d1 d2 d3 Z aL;go_wp2_with fail
  ((with_reducible refine aX.q.mono ?_);rintro e aC ⟨v,rfl,bA,bw⟩)
  obtain⟨g,a4,bG,Hv,bD,Hu⟩:=af.fH.own bA (by have:=Y.q;omega);rw[Y.q]at bG;subst bG;have bp:=qQ bD;have bg:=qQ (aA aE.q bw);clear bA bw bt aO bD;obtain⟨m,rfl⟩:∃m,n=m+1:=⟨n-1,by omega⟩;have bh:=qQ (show ∀j,0<=a0.getD j 0/\a0.getD j 0<=((0:Nat)+1:Int)*4096 from λj=>by
   rw[qU];cases Q:a0[j]? with
   | none=>exact⟨wF _,by show(0:Int)<=_;omega⟩
   | some x=>have:=a9.2 x (jM Q);exact⟨this.1,by show x<=_;omega⟩)
  refine VR ?_;intro x0 aJ sU;have bZ:w.heap.size<=g:=by omega
  clear aJ Hv Hu bH;by_cases bX:aP=1
  .have bN:=qQ (show m=0 by omega);subst bX;go_wp2_with fail;go_loopw [36] (λS wr=>∃(k:Nat) (cur:List Int),S=.int .i64 (k:Int)/\k<=m/\cur.length=r/\(∀j,0<=cur.getD j 0/\cur.getD j 0<=((k:Int)+1)*4096)/\J.bQ op args=J.cU q cur (args.drop (k+1))/\Below w.heap.size w wr/\af.fH wr g a4 cur) (λS _=>m-(intOf S).toNat)
   case atStart=>exact⟨0,a0,rfl,by omega,Y.q,bh.q,br.q,bg.q,bp.q⟩
   obtain⟨k,cur,rfl,mN,hlen,aq,Q,N,hp⟩:=hrel;obtain⟨gG,aW,HP,c4,o8⟩:=fC hlen aq Q N hp;clear hlen aq Q N hp;obtain⟨y,rfl⟩:∃y:World,y=wr:=⟨_,rfl⟩;by_cases a6:k<m
   .exact absurd a6 (by have:=bN.q;omega)
   exact Qd
  go_wp2_with fail;go_loopw [36] (λS wr=>∃(k:Nat) (cur:List Int),S=.int .i64 (k:Int)/\k<=m/\cur.length=r/\(∀j,0<=cur.getD j 0/\cur.getD j 0<=((k:Int)+1)*4096)/\J.bQ op args=J.cU q cur (args.drop (k+1))/\Below w.heap.size w wr/\af.fH wr g a4 cur) (λS _=>m-(intOf S).toNat)
  case atStart=>exact⟨0,a0,rfl,by omega,Y.q,bh.q,br.q,bg.q,bp.q⟩
  obtain⟨k,cur,rfl,mN,hlen,aq,Q,N,hp⟩:=hrel;obtain⟨gG,aW,HP,c4,o8⟩:=fC hlen aq Q N hp;clear hlen aq Q N hp;obtain⟨y,rfl⟩:∃y:World,y=wr:=⟨_,rfl⟩;by_cases a6:k<m
  .have p9:k+1<args.length:=by have:=eQ.q;omega
   obtain⟨v,cu,b3,ci,rfl,hi,bz,cg⟩:=sU.q k a6;have a5:=(c4.q.cell (p:=⟨b,off+(k+1),none⟩) (by show b<w.heap.size;omega)).trans cu;have bB:(off+1)+k=off+(k+1):=by omega
   rw[<-bB]at a5;have a2:=qQ (hi.below (c4.q.mono ah));refine Jr ?_;intro vD px i1 i2;clear cu hi bB;generalize args[k+1]=x at a5 a2 vD px bz;by_cases aD:x.length=r
   .rw[aD]at a5;have I:=qQ aD;have cn:(r:Int)<=6:=by omega
    have d0:((r:Int) != (r:Int))=false:=by simp
    clear aD;have b5:=qQ (show Below y.heap.size y y from qK _ _);go_wp2_with fail;go_loopw [47] (λa' wr=>∃(j d:Nat),a'=.int .i64 (j:Int)/\j<=r/\(∀i,i<j->i=q\/x.getD i 0=cur.getD i 0)/\wr=y.drewN d) (λa' _=>r-(intOf a').toNat)
    case atStart=>exact⟨0,0,rfl,by omega,λi hi=>by omega,rfl⟩
    obtain⟨j,d,rfl,ca,bF,ar⟩:=hrel;obtain⟨bs,aF,aV,aH⟩:=cV bF ar (show Below w.heap.size w wr by rw[ar];exact zV c4.q d) (show af.fH wr g a4 cur by rw[ar];exact o8.q.drewN d);have aO:wr.cell? ⟨ba,aT,none⟩=some (.int .i64 (q:Int)):=by
     obtain⟨hr,l4,e,b8,bV⟩:=bf.q (by omega);injection e with e;injection e with cy bE;subst cy;subst bE
     have h:=bV 0 (by omega);rw[qL]at h;refine(aV.q.cell (p:=⟨ba,aT,none⟩) (by show ba<w.heap.size;omega)).trans ?_;rw[h,bd.q]
    clear bF ar;by_cases cd:j<r
    .obtain⟨eg,aU,rfl,bU,ak⟩:=a2.q (by have:=I.q;omega);have aQ:wr.cell? ⟨eg,aU+j,none⟩=some (.int .i64 (x.getD j 0)):=by
      rw[aF.q,J.getD_at x j (by have:=I.q;omega)];exact ak j (by have:=I.q;omega)
     have cc:wr.cell? ⟨g,j,none⟩=some (.int .i64 (cur.getD j 0)):=by
      rw[J.getD_at cur j (by have:=gG.q;omega)];exact aH.q.cell (by have:=gG.q;omega)
     have aI:=qQ (λ(h:j=q\/x.getD j 0=cur.getD j 0)=>show ∀i,i<j+1->i=q\/x.getD i 0=cur.getD i 0 from λi hi=>by
      by_cases e:i=j
      .subst e;exact h
      exact bs.q i (by omega))
     have a1:=qQ (λ(M:j≠q) (D:x.getD j 0≠cur.getD j 0)=>show J.bQ op args=([],6) by
      rw[px.q,aj.Bp (by have:=gG.q;omega) M D];rfl)
     have co:=b2 j;have cp:(j:Int)<r:=by omega
     clear ak;generalize x.getD j 0=E at aQ aI a1;generalize cur.getD j 0=cu at cc aI a1;by_cases av:j=q
     .have a3:=qQ (aI.q (.inl av));subst av;have aR:((j:Int) != (j:Int))=false:=by simp
      go_wp2_with fail
      go_quiet (fail)
      have V:=qQ (show wr.drewN nq=y.drewN (d+nq) by rw[aF.q,jI]);generalize wr.drewN nq=bJ at V |-;go_wp2_with fail;go_roundw
      case rel=>exact⟨j+1,d+nq,by go_num,by omega,a3.q,V.q⟩
      case measure=>simp[intOf];omega
     have aR:((j:Int) != (q:Int))=true:=by simp;omega
     by_cases aB:E=cu
     .have a3:=qQ (aI.q (.inr aB));subst aB;have cy:(E != E)=false:=by simp
      clear av;go_wp2_with fail
      go_quiet (fail)
      have V:=qQ (show wr.drewN nq=y.drewN (d+nq) by rw[aF.q,jI]);generalize wr.drewN nq=bJ at V |-;go_wp2_with fail;go_roundw
      case rel=>exact⟨j+1,d+nq,by go_num,by omega,a3.q,V.q⟩
      case measure=>simp[intOf];omega
     have aZ:=qQ (a1.q av aB);have cy:(E != cu)=true:=by simpa using aB
     clear av aB;go_wp2_with fail
     go_quiet (fail)
     have O:=qQ (zV aV.q nq);generalize wr.drewN nq=bJ at O |-;go_wp2_with fail
     go_ret2
     rw[aZ.q];exact⟨_,rfl,af.dZ.nil _ _,O.q⟩
    obtain rfl:j=r:=by omega
    have bx:J.j' q cur x=true:=aj.yt (by rw[I.q,gG.q]) (λi hi=>bs.q i (by rw[<-gG.q];exact hi));have bn:=qQ (show J.bQ op args=J.cU q (cur.set q (cur.getD q 0+x.getD q 0)) (args.drop (k+1+1)) by rw[px.q,bx];rfl);obtain⟨eg,aU,rfl,bU,ak⟩:=a2.q (by have:=I.q;omega);have aQ:wr.cell? ⟨eg,aU+q,none⟩=some (.int .i64 (x.getD q 0)):=by
     rw[aF.q,J.getD_at x q (by have:=I.q;omega)];exact ak q (by have:=I.q;omega)
    have cc:wr.cell? ⟨g,q,none⟩=some (.int .i64 (cur.getD q 0)):=by
     rw[J.getD_at cur q (by have:=gG.q;omega)];exact aH.q.cell (by have:=gG.q;omega)
    have bS:=aW.q q;have b1:0<=x.getD q 0/\x.getD q 0<=4096:=by
     rw[J.getD_at x q (by have:=I.q;omega)];exact vD.2 _ (qP _)
    have b7:=aH.q.frozen q;have X:=qQ ((aH.q.set (i:=q) (by have:=gG.q;omega) (cur.getD q 0+x.getD q 0)).drew);have O:=qQ ((aV.q.setCell (p:=⟨g,q,none⟩) bZ (.int .i64 (cur.getD q 0+x.getD q 0))).drew);have bm:=qQ (show ∀i,0<=(cur.set q (cur.getD q 0+x.getD q 0)).getD i 0/\(cur.set q (cur.getD q 0+x.getD q 0)).getD i 0<=(((k+1:Nat):Int)+1)*4096 from λi=>by
     rw[aj.vu _ _ _ _ (by have:=gG.q;omega)];by_cases e:i=q
     .rw[qY e];omega
     rw[qV e];have:=aW.q i;omega)
    have bo:=qQ (show(cur.set q (cur.getD q 0+x.getD q 0)).length=j by rw[xJ,gG.q]);have cq:=b2 q;have cr:(q:Int)<j:=by omega
    clear bx ak;generalize bY:cur.set q (cur.getD q 0+x.getD q 0)=bO at bn X bm bo;generalize cur.getD q 0=cu at cc bS X O;generalize x.getD q 0=E at aQ b1 X O;have cw:IntKind.i64.wrap (cu+E)=cu+E:=qA _ (by omega);clear bY;go_wp2_with fail;refine fk (λw'=>w'.cell? ⟨ba,aT,none⟩=some (.int .i64 (q:Int))/\w'.cell? ⟨g,q,none⟩=some (.int .i64 cu)/\w'.cell? ⟨eg,aU+q,none⟩=some (.int .i64 E)) 14 15 (⟨aO,cc,aQ⟩) (λbP=>?_);simp only[qF,qG];refine aG 0 67 ?_;refine aG 1 68 ?_;refine aG 2 69 ?_;refine aG 3 70 ?_;refine aG 4 71 ?_;refine aG 5 72 ?_;refine aG 6 73 ?_;refine aG 7 74 ?_;refine aG 8 75 ?_;refine aG 9 76 ?_;refine aG 10 77 ?_;refine aG 11 78 ?_;refine aG 12 79 ?_;refine aG 13 80 ?_;try simp only[Act.put,bj,bk,bl]
    refine eW [_] 14 [] ?_;obtain⟨b6,bR⟩:=gz ((wr.setCell ⟨g,q,none⟩ (.int .i64 (cu+E))).drew);rw[bR]at X O;clear bP;go_wp2_with fail;go_roundw
    case rel=>exact⟨k+1,bO,by go_num,by omega,bo.q,bm.q,bn.q,O.q,X.q⟩
    case measure=>simp[intOf];omega
   have aZ:=qQ (show J.bQ op args=([],6) by
     rw[px.q,aj.Bq (by rw[gG.q];exact aD)];rfl)
   have d0:((x.length:Int) != (r:Int))=true:=by simp;omega
   clear aD;go_wp2_with fail
   go_ret2
   rw[aZ.q];exact⟨_,rfl,af.dZ.nil _ _,c4.q⟩
  exact Qd
 have d1:((op.a.length:Int) != 1)=true:=by simp;omega
 have br:=qQ (show J.bQ op args=([],6) by rw[cj.q,qY (.inl M)]);clear M;exact Zx
end Go.Proofs.YtabmnaaidfpmcaaGreatDoor
end
section
namespace Go.Proofs.YtabmnaaidfpmcaaGreatDoor
open Go.RowKit aS
namespace af
theorem fY{s:Nat}(h:w.ownsRow base e s v n xs)(q:av w P t cs)(x:e≠t):v.ownBlock≠some P:=by
 intro j;rcases h.2 with ⟨rfl,_⟩ | ⟨g,c,cur,rfl,_,r,_⟩
 .cases j
 have m:g=P:=by simpa[Value.ownBlock]using j
 subst m;have i:w.heap[g]?=some (.cells cs t (0,0)):=q;rw[r]at i;injection i with i
 injection i with _ y
 exact x y
theorem bq{size:Nat}(h:w.ownsRow base e size v n xs)(q:∀g,v.ownBlock=some g->w'.heap[g]?=w.heap[g]?):w'.ownsRow base e size v n xs:=by
 refine⟨h.1,h.2.imp id ?_⟩;rintro⟨g,cap,cur,rfl,i,j,m⟩;exact⟨g,cap,cur,rfl,i,(q g rfl).trans j,m⟩
theorem eI{size:Nat}(h:w.ownsRow base e size v n xs)(i:v.ownBlock=some g):base<=g/\g<w.heap.size:=h.lt g i
structure iI (N P:Nat) (u0 u1 e3:Value) (ds:List Int) (ca cl ct c3:Int) (W:World):Prop where
 aL:av W P 154 #[u0,u1,e3,.int .i64 ca,.int .i64 cl,.int .i64 ct,.int .i64 c3]
 own:W.ownsRow N 3 1 e3 ds.length (ints ds)
 bA:0<=ca/\ca<=65537
 cq:0<=cl/\cl<=65537
 eC:0<=ct/\ct<=65537
 e2:0<=c3/\c3<=65537
section
variable {N P:Nat} {u0 u1 e3:Value} {ds:List Int} {ca cl ct c3:Int} {W bg:World}
theorem iI.below(h:iI N P u0 u1 e3 ds ca cl ct c3 W)(i:Below W.heap.size W bg):iI N P u0 u1 e3 ds ca cl ct c3 bg :=
 ⟨h.aL.below i h.aL.lt,bq h.own (λg j=>i.block g (eI h.own j).2),h.bA,h.cq,h.eC,h.e2⟩
theorem iI.apart(h:iI N P u0 u1 e3 ds ca cl ct c3 W):e3.ownBlock≠some P:=fY h.own h.aL (by decide)
def b_(x d:Int):Int:=if 65537<x*d then 65537 else x*d
theorem lE(i:0<=x/\x<=65537)(ar:0<=d/\d<=4096):0<=x*d/\x*d<=268439552/\0<=b_ x d/\b_ x d<=65537:=by
 have j:0<=x*d:=jF i.1 ar.1;have m:x*d<=65537*4096:=jO i.2 ar.2 ar.1 (by omega);unfold b_;split<;>omega
theorem iI.hj(h:iI N P u0 u1 e3 ds ca cl ct c3 W)(ar:0<=d/\d<=4096):iI N P u0 u1 e3 ds (b_ ca d) cl ct c3 (W.setCell ⟨P,3,none⟩ (.int .i64 (b_ ca d))) :=
 ⟨h.aL.bs 3 _,bq h.own (λg i=>qN W ⟨P,3,none⟩ _ g (λe=>h.apart (by rw[i,e]))),(lE h.bA ar).2.2,h.cq,h.eC,h.e2⟩
theorem iI.LX(h:iI N P u0 u1 e3 ds ca cl ct c3 W)(ar:0<=d/\d<=4096):iI N P u0 u1 e3 ds ca (b_ cl d) ct c3 (W.setCell ⟨P,4,none⟩ (.int .i64 (b_ cl d))) :=
 ⟨h.aL.bs 4 _,bq h.own (λg i=>qN W ⟨P,4,none⟩ _ g (λe=>h.apart (by rw[i,e]))),h.bA,(lE h.cq ar).2.2,h.eC,h.e2⟩
theorem iI.LY(h:iI N P u0 u1 e3 ds ca cl ct c3 W)(ar:0<=d/\d<=4096):iI N P u0 u1 e3 ds ca cl (b_ ct d) c3 (W.setCell ⟨P,5,none⟩ (.int .i64 (b_ ct d))) :=
 ⟨h.aL.bs 5 _,bq h.own (λg i=>qN W ⟨P,5,none⟩ _ g (λe=>h.apart (by rw[i,e]))),h.bA,h.cq,(lE h.eC ar).2.2,h.e2⟩
theorem iI.LZ(h:iI N P u0 u1 e3 ds ca cl ct c3 W)(ar:0<=d/\d<=4096):iI N P u0 u1 e3 ds ca cl ct (b_ c3 d) (W.setCell ⟨P,6,none⟩ (.int .i64 (b_ c3 d))) :=
 ⟨h.aL.bs 6 _,bq h.own (λg i=>qN W ⟨P,6,none⟩ _ g (λe=>h.apart (by rw[i,e]))),h.bA,h.cq,h.eC,(lE h.e2 ar).2.2⟩
theorem iI.push(h:iI N P u0 u1 e3 ds ca cl ct c3 W)(how:bg.ownsRow N 3 1 v' (ds.length+1) (ints ds++[.int .i64 x]))(r:W.grownBy bg e3.ownBlock):iI N P u0 u1 v' (ds++[x]) ca cl ct c3 (bg.setCell ⟨P,2,none⟩ v'):=by
 have i:av bg P 154 #[u0,u1,e3,.int .i64 ca,.int .i64 cl,.int .i64 ct,.int .i64 c3]:=h.aL.grown r (λe=>h.apart e.symm);have j:bg.ownsRow N 3 1 v' (ds++[x]).length (ints (ds++[x])):=by rw[qW,ai.ec];exact how
 have m:=fY j i (by decide);exact⟨i.bs 2 _,bq j (λg q=>qN bg ⟨P,2,none⟩ _ g (λe=>m (by rw[q,e]))),h.bA,h.cq,h.eC,h.e2⟩
end
structure Fr (w:World) (P:Nat) (e3:Value) (w':World) (te:Value):Prop where
 c9:∀g,g<w.heap.size->g≠P->e3.ownBlock≠some g->w'.heap[g]?=w.heap[g]?
 own:∀g,te.ownBlock=some g->e3.ownBlock=some g\/w.heap.size<=g
 size:w.heap.size<=w'.heap.size
theorem Fr.refl(w:World)(P:Nat)(e3:Value):Fr w P e3 w e3:=⟨λ_ _ _ _=>rfl,λ_ h=>.inl h,qX _⟩
section
variable {w wr cH dX:World} {P:Nat} {e3 mJ v2:Value} {o:Obj} {Kw:Option Nat}
theorem Fr.grow(h:Fr w P e3 wr mJ)(i:(wr.alloc o).grownBy cH Kw)(m:∀g,Kw=some g->w.heap.size<=g):Fr w P e3 cH mJ:=by
 have q:=h.size;have j:=i.size;simp at j;refine⟨λg a b c=>?_,h.own,by omega⟩;refine(i.block g (by simp;omega) (λe=>?_)).trans ((yJ wr o g (by omega)).trans (h.c9 g a b c));have:=m g e.symm;omega
theorem Fr.push(h:Fr w P e3 cH mJ)(j:(cH.alloc o).grownBy dX mJ.ownBlock)(hw:v2.ownBlock=mJ.ownBlock\/v2.ownBlock=some (cH.alloc o).heap.size):Fr w P e3 dX v2:=by
 have q:=h.size;have m:=j.size;simp at m;refine⟨λg a b c=>?_,λg e=>?_,by omega⟩
 .refine(j.block g (by simp;omega) (λe=>?_)).trans ((yJ cH o g (by omega)).trans (h.c9 g a b c));rcases h.own g e.symm with i | i
  .exact c i
  omega
 rcases hw with i | i
 .exact h.own g (by rw[<-i];exact e)
 rw[i]at e;injection e with e
 simp at e;right;omega
theorem Fr.set(h:Fr w P e3 dX v2)(i:Nat)(u:Value):Fr w P e3 (dX.setCell ⟨P,i,none⟩ u) v2 :=
 ⟨λg a b c=>(qN dX ⟨P,i,none⟩ u g b).trans (h.c9 g a b c),h.own,by simp;exact h.size⟩
theorem Fr.keeps(h:Fr w P e3 dX v2){size:Nat}(j:w.ownsRow base e size v n xs)(m:v.ownBlock≠some P)(q:∀g,v.ownBlock=some g->e3.ownBlock≠some g):dX.ownsRow base e size v n xs :=
 bq j (λg i=>h.c9 g (eI j i).2 (λe=>m (by rw[i,e])) (q g i))
end
end af
theorem af.nw(P i:Nat)(x d:Int)(w:World)(N:w.cell? ⟨P,i,none⟩=some (.int .i64 x))(O:w.frozen? ⟨P,i,none⟩=false)(M:0<=x/\x<=65537)(ar:0<=d/\d<=4096):Calls Tryz.prog 155 #[.pointer (some ⟨P,i,none⟩),.int .i64 d] w λe w'=>e=.returned (.tuple #[])/\w'=w.setCell ⟨P,i,none⟩ (.int .i64 (af.b_ x d)):=by
 obtain⟨B,D,E,I⟩:=af.lE M ar;have j:=qQ (show af.b_ x d=if 65537<x*d then 65537 else x*d from rfl);generalize hm:x*d=m at B D j;have Q:IntKind.i64.wrap m=m:=qA _ (by omega);generalize af.b_ x d=y at j E I |-;by_cases h:65537<m
 .have r:y=65537:=by rw[j.q,qY h]
  subst r;go_enter func155,ntmps155;go_wp2_with fail
  all_goals first | (exfalso;omega) | (go_end0;exact⟨rfl,by rw[show min m 65537=65537 by omega]⟩)
 have r:y=m:=by rw[j.q,qV h]
 subst r;go_enter func155,ntmps155;go_wp2_with fail
 all_goals first | (exfalso;omega) | (go_end0;exact⟨rfl,by rw[show min y 65537=y by omega]⟩)
theorem af.fw{jn:Nat}(h:av w P t cs)(m:w.ownsRow base e jn v n xs)(j:e≠t)(i:w.grownBy w' v.ownBlock):av w' P t cs :=
 h.grown i (λe=>fY m h j e.symm)
theorem _root_.ZY{G:Prop}(h:G:=by
 obtain rfl:k=n:=by omega
 have cd:=qQ (show aj.aU d ins k=J.free d ins by rw[<-eQ.q];rfl);rw[cd.q]at xy pz pt |-;go_wp2_with fail;go_ret;exact⟨_,_,_,rfl,xy.q,pt.q,cb.q,pz.q,hN.q,bp.q⟩
 ):G:=h
theorem _root_.ZP{G:Prop}(h:G:=by
 have c2:=nn.q.aL;rw[<-e]at c2;have bS:cH.heap[pr]?=some (.cells _ _ (0,0)):=Bb.q;have pj:cH.heap[pr]?=some (.cells _ _ (0,0)):=c2;rw[bS]at pj;injection pj with pj
 injection pj with _ pj
 exact absurd pj (by decide)
 ):G:=h
theorem _root_.XY{G:Prop}(h:G:=by
 have c2:=fB.size;have bS:(dX.setCell ⟨P,2,none⟩ v2).heap.size=dX.heap.size:=by simp
 simp at c2;omega
 ):G:=h
theorem _root_.JO{G:Prop}(r:bm)(f:dS bm->G:=by
 intro bb;have D4:N<=w.heap.size:=by omega
 obtain⟨gn,ep,Hf,Dy,Dx,IZ⟩:=fq (λx W (aE:Below N w W)=>j3 x A cC ins N W du (c2.below aE)) (λW (aE:Below N w W)=>(bS.below aE)) y1 hp rO (xQ Tryz.dB);have o5:=qQ (qK N w);have pd:∀(args:Array Value) (W:World),(callFunc 155 args).run Tryz.prog W=.ok (.enter 155 args) W:=λ_ _=>rfl
 obtain⟨n,vA⟩:=gz d.length;have eQ:=qQ vA;revert D4 gn ep Hf Dy Dx IZ o5 pd n vA eQ;exact bb.o
 ):G:=f ⟨r⟩
theorem _root_.Jj{G:Prop}(r:bm)(f:dS bm->G:=by
 intro bb;have aO:=KV k p9;have tt:=Hf.q d[k] (qP p9);have xw:=qQ (aj.qb d ins k);have hS:=qQ (aj.iM d (aj.aU d ins k) k p9);have LR:=aj.k4 d ins k;have LP:=J.aW d (aj.aU d ins k);have i1:=b2 k;have i2:(k:Int)<n:=by omega
 have D8:(aj.aU d ins k).length<=65536:=by omega
 have D5:(ds++J.aq d (aj.aU d ins k)).length<=131072:=by rw[qW];omega
 clear LP LR;revert aO tt xw hS i1 i2 D8 D5;exact bb.o
 ):G:=f ⟨r⟩
theorem af.D0(N P pr:Nat)(u0 u1 e3:Value)(ds:List Int)(ca cl ct c3:Int)(A bK:Option Addr)(cC a_:Nat)(ins d:List Int)(w:World)(aP:N<=P)(bu:P<w.heap.size)(du:ins.length<=9223372036854775807)(ar:d.length<=65536)(bE:ds.length<=65536)(y1:∀x∈d,0<=x/\x<=4096)(c2:ai.ao w N A ins)(bS:ai.ao w N bK d)(hp:af.iI N P u0 u1 e3 ds ca cl ct c3 w)(rO:av w pr 181 #[.func (.func 155) #[] #[]]):Calls Tryz.prog 156 #[.slice A ins.length cC,.slice bK d.length a_,.pointer (some ⟨P,4,none⟩),.pointer (some ⟨P,0,none⟩),.pointer (some ⟨pr,0,none⟩)] w λe w'=>∃v te y,e=.returned v/\w'.ownsRow w.heap.size 3 1 v (J.free d ins).length (ints (J.free d ins))/\(∀g,v.ownBlock=some g->te.ownBlock≠some g)/\af.Fr w P e3 w' te/\af.iI N P u0 u1 te (ds++J.aq d (J.free d ins)) ca y ct c3 w'/\av w' pr 181 #[.func (.func 155) #[] #[]]/\Below N w w':=by
 refine JO ?_;intro D4 gn ep Hf Dy Dx IZ o5 pd n vA eQ;rw[vA]at ar |-;clear c2 bS y1 hp rO vA;go_enter func156,ntmps156;go_wp2_with fail;go_loopw [9,14] (λpn ak wr=>∃(k:Nat) (mJ:Value) (y:Int),ak=.int .i64 (k:Int)/\k<=n/\Below N w wr/\af.iI N P u0 u1 mJ (ds++J.aq d (aj.aU d ins k)) ca y ct c3 wr/\wr.ownsRow w.heap.size 3 1 pn (aj.aU d ins k).length (ints (aj.aU d ins k))/\(∀g,pn.ownBlock=some g->mJ.ownBlock≠some g)/\av wr pr 181 #[.func (.func 155) #[] #[]]/\w.heap.size<=wr.heap.size/\af.Fr w P e3 wr mJ) (λ_ ak _=>n-(intOf ak).toNat)
 case atStart =>
  refine⟨0,e3,cl,rfl,by omega,o5.q,?_,⟨rfl,.inl ⟨rfl,rfl⟩⟩,(λg h=>by cases h),Dx.q,qX _,af.Fr.refl _ _ _⟩;have:ds++J.aq d (aj.aU d ins 0)=ds:=by show ds++[]=ds;rw[xM]
  rw[this];exact Dy.q
 obtain⟨k,mJ,y,rfl,bG,aE,a0,ah,aT,rO,a3,aV⟩:=hrel;obtain⟨cb,bp,pz,xy,pt,hN⟩:=fq aV aE a0 ah aT rO;have S:=qQ (gn.q (k:Int) wr aE);obtain⟨bm,br,bf,bw⟩:=ai.aZ ah;subst bf;clear aE a0 ah aT rO aV;by_cases bH:k<n
 .have p9:k<d.length:=by have:=eQ.q;omega
  obtain⟨bo,bI,rfl,bv,KV⟩:=ep.q _ bp.q (by omega);refine Jj ?_;intro aO tt xw hS i1 i2 D8 D5;clear KV;generalize d[k]=x at aO hS tt;by_cases I:(k:Int)∈ins
  .rw[zD I]at S;have cd:=qQ (show aj.aU d ins (k+1)=aj.aU d ins k by rw[xw.q,qY I]);clear I;go_wp2_with fail
   ((with_reducible refine S.q.mono ?_);rintro e aw ⟨rfl,O⟩)
   rw[<-O];clear O;go_wp2_with fail;go_roundw
   case rel=>exact⟨k+1,mJ,y,by go_num,by omega,bp.q,by rw[cd.q];exact pz.q,by rw[cd.q];exact xy.q,pt.q,hN.q,a3,cb.q⟩
   case measure=>simp[intOf];omega
  rw[zN I]at S;have cd:=qQ (show aj.aU d ins (k+1)=aj.aU d ins k++[(k:Int)] by rw[xw.q,qV I]);clear I;have aB:=qQ (show ds++J.aq d (aj.aU d ins (k+1))=(ds++J.aq d (aj.aU d ins k))++[x] by rw[cd.q,hS.q,zE]);obtain⟨i0,g1,g2,g3,g4⟩:=IZ.q;generalize ds++J.aq d (aj.aU d ins k)=cs at pz aB D5;generalize aj.aU d ins k=L at xy cd D8 pt |-;go_wp2_with fail
  ((with_reducible refine S.q.mono ?_);rintro e aw ⟨rfl,O⟩)
  rw[<-O];clear O;go_wp2_with (at_builtin;refine bF _ rfl _ _ 23 rfl w.heap.size 3 i0 (.int .i64 0) 1 8 underlying23 g1 g2 g3 g4 rfl (by decide) _ _ _ rfl (xy.q.alloc _) _ (some ⟨wr.heap.size,0,none⟩) 1 1 [.int .i64 (k:Int)] rfl (af.dj (av.new wr 3 #[.int .i64 (k:Int)]) rfl) (by intro u hu;simp at hu;subst hu;rfl) (by unfold maxLen;omega) (by omega) (by simp;omega) ?_);intro v' cH how fB M;have m:=pz.q.below (wG (qK wr.heap.size wr) (qX _) (.cells #[.int .i64 (k:Int)] 3));have aG:=hN.q.alloc (.cells #[.int .i64 (k:Int)] 3);have j:=xy.q.alloc (.cells #[.int .i64 (k:Int)] 3);obtain⟨nn,Bb,a7⟩:=aK (show af.iI N P u0 u1 mJ cs ca y ct c3 cH from⟨af.fw m.aL j (by decide) fB,af.bq m.own (λg i=>fB.block g (af.eI m.own i).2 (λe=>pt.q g e.symm i)),m.bA,m.cq,m.eC,m.e2⟩) (af.fw aG j (by decide) fB) ((bp.q.alloc (qJ D4 a3) (.cells #[.int .i64 (k:Int)] 3)).grown fB (by simp;omega) (λg i=>by have:=(af.eI j i).1;omega));have aH:=qQ (show cH.ownsRow w.heap.size 3 1 v' (aj.aU d ins (k+1)).length (ints (aj.aU d ins (k+1))) by
   rw[cd.q,qW,ai.ec];exact how)
  have a8:=qQ (cb.q.grow fB (λg i=>(af.eI j i).1));have bj:wr.heap.size+1<=cH.heap.size:=by have:=fB.size;simpa using this
  have ap:=qQ (show ∀g,v'.ownBlock=some g->mJ.ownBlock≠some g from λg i r=>by
   rcases M with e | e
   .exact pt.q g (by rw[<-e];exact i) r
   rw[e]at i;injection i with i
   have:=(af.eI pz.q.own r).2
   first | omega | (simp at i;omega))
  obtain⟨Q,cu,bk,bx⟩:=ai.aZ how;subst bk;clear how fB M m aG j;have bg:cH.cell? ⟨P,2,none⟩=some mJ:=nn.q.aL.cell 2;have bd:cH.frozen? ⟨P,2,none⟩=false:=nn.q.aL.frozen 2;obtain⟨a5,a',bc,bD⟩:=ai.aZ nn.q.own;subst bc;have bs:P<cH.heap.size:=nn.q.aL.lt;have Z:cH.cell? ⟨pr,0,none⟩=some (.func (.func 155) #[] #[]):=Bb.q.cell 0;go_wp2_with (at_builtin;refine bF _ rfl _ _ 23 rfl N 3 i0 (.int .i64 0) 1 8 underlying23 g1 g2 g3 g4 rfl (by decide) _ _ _ rfl (nn.q.own.alloc _) _ (some ⟨cH.heap.size,0,none⟩) 1 1 [.int .i64 x] rfl (af.dj (av.new cH 3 #[.int .i64 x]) rfl) (by intro u hu;simp at hu;subst hu;rfl) (by unfold maxLen;omega) (by omega) (by simp;omega) ?_);intro v2 dX how fB M;have E:=nn.q.below (wG (qK cH.heap.size cH) (qX _) (.cells #[.int .i64 x] 3));have aN:=Bb.q.alloc (.cells #[.int .i64 x] 3);have j:=aH.q.alloc (.cells #[.int .i64 x] 3);have B:=qQ (E.push how fB);have aC:=qQ ((a8.q.push fB (by rcases M with e | e;exact .inl e;exact .inr (e.trans (by simp)))).set 2 v2);have U:=af.fw E.aL E.own (by decide) fB;have aX:=af.fw aN E.own (by decide) fB;have ag:dX.ownsRow w.heap.size 3 1 (.slice Q (L.length+1) cu) (aj.aU d ins (k+1)).length (ints (aj.aU d ins (k+1))):=af.bq j (λg i=>fB.block g (af.eI j i).2 (λe=>ap.q g i e.symm));have Y:pr≠P:=λe=>by
   exact ZP
  have V:=qQ (aX.cR (p:=⟨P,2,none⟩) Y v2);have X:=qQ (show(dX.setCell ⟨P,2,none⟩ v2).ownsRow w.heap.size 3 1 (.slice Q (L.length+1) cu) (aj.aU d ins (k+1)).length (ints (aj.aU d ins (k+1)))from
   af.bq ag (λg i=>qN dX ⟨P,2,none⟩ v2 g (λe=>af.fY ag U (by decide) (by rw[i,e]))))
  have az:=qQ (((a7.q.alloc (by omega) (.cells #[.int .i64 x] 3)).grown fB (by simp;omega) (λg i=>(af.eI E.own i).1)).setCell (p:=⟨P,2,none⟩) aP v2);have a6:=qQ (show ∀g,(Value.slice Q (L.length+1) cu).ownBlock=some g->v2.ownBlock≠some g from λg i r=>by
   rcases M with e | e
   .exact ap.q g i (by rw[<-e];exact r)
   rw[e]at r;injection r with r
   have:=(af.eI aH.q i).2
   first | omega | (simp at r;omega))
  have a1:wr.heap.size<=(dX.setCell ⟨P,2,none⟩ v2).heap.size:=by
   exact XY
  have bh:dX.cell? ⟨P,2,none⟩=some (.slice a5 cs.length a'):=U.cell 2;have be:dX.frozen? ⟨P,2,none⟩=false:=U.frozen 2;obtain⟨bt,bz,bl,bB⟩:=ai.aZ how;subst bl;clear how fB M E aN j U aX ag bg bd Z;obtain⟨D,aQ⟩:=gz (dX.setCell ⟨P,2,none⟩ (.slice bt (cs.length+1) bz));rw[aQ]at B V X az a1 aC;have Z:D.cell? ⟨pr,0,none⟩=some (.func (.func 155) #[] #[]):=V.q.cell 0;obtain⟨a9,aJ,aD,aF⟩:=cV (af.nw P 4 y x D (B.q.aL.cell 4) (B.q.aL.frozen 4) B.q.cq tt) (B.q.LX tt) (aC.q.set 4 (.int .i64 (af.b_ y x))) (V.q.cR (p:=⟨P,4,none⟩) Y (.int .i64 (af.b_ y x)));have aI:=qQ (show(D.setCell ⟨P,4,none⟩ (.int .i64 (af.b_ y x))).ownsRow w.heap.size 3 1 (.slice Q (L.length+1) cu) (aj.aU d ins (k+1)).length (ints (aj.aU d ins (k+1)))from
   af.bq X.q (λg i=>qN D ⟨P,4,none⟩ _ g (λe=>af.fY X.q B.q.aL (by decide) (by rw[i,e]))))
  have aA:=qQ (az.q.setCell (p:=⟨P,4,none⟩) aP (.int .i64 (af.b_ y x)));have a2:w.heap.size<=(D.setCell ⟨P,4,none⟩ (.int .i64 (af.b_ y x))).heap.size:=by simp;omega
  clear Y a1 bj;go_wp2_with fail
  ((with_reducible refine a9.q.mono ?_);rintro e bJ ⟨rfl,a4⟩)
  rw[a4];clear a4;obtain⟨bn,aR⟩:=gz (D.setCell ⟨P,4,none⟩ (.int .i64 (af.b_ y x)));rw[aR]at aJ aF aI aA a2 aD |-;clear aR aQ bh be Z;go_wp2_with fail;go_roundw
  case rel=>exact⟨k+1,_,_,by go_num,by omega,aA.q,by rw[aB.q];exact aJ.q,aI.q,a6.q,aF.q,a2,aD.q⟩
  case measure=>simp[intOf];omega
 exact ZY
theorem af.D1(N P pr:Nat)(u0 u1 e3:Value)(ds:List Int)(ca cl ct c3:Int)(A bK:Option Addr)(cC a_:Nat)(ins d:List Int)(w:World)(aP:N<=P)(bu:P<w.heap.size)(du:ins.length<=9223372036854775807)(ar:d.length<=65536)(bE:ds.length<=65536)(y1:∀x∈d,0<=x/\x<=4096)(c2:ai.ao w N A ins)(bS:ai.ao w N bK d)(hp:af.iI N P u0 u1 e3 ds ca cl ct c3 w)(rO:av w pr 181 #[.func (.func 155) #[] #[]]):Calls Tryz.prog 156 #[.slice A ins.length cC,.slice bK d.length a_,.pointer (some ⟨P,5,none⟩),.pointer (some ⟨P,0,none⟩),.pointer (some ⟨pr,0,none⟩)] w λe w'=>∃v te y,e=.returned v/\w'.ownsRow w.heap.size 3 1 v (J.free d ins).length (ints (J.free d ins))/\(∀g,v.ownBlock=some g->te.ownBlock≠some g)/\af.Fr w P e3 w' te/\af.iI N P u0 u1 te (ds++J.aq d (J.free d ins)) ca cl y c3 w'/\av w' pr 181 #[.func (.func 155) #[] #[]]/\Below N w w':=by
 refine JO ?_;intro D4 gn ep Hf Dy Dx IZ o5 pd n vA eQ;rw[vA]at ar |-;clear c2 bS y1 hp rO vA;go_enter func156,ntmps156;go_wp2_with fail;go_loopw [9,14] (λpn ak wr=>∃(k:Nat) (mJ:Value) (y:Int),ak=.int .i64 (k:Int)/\k<=n/\Below N w wr/\af.iI N P u0 u1 mJ (ds++J.aq d (aj.aU d ins k)) ca cl y c3 wr/\wr.ownsRow w.heap.size 3 1 pn (aj.aU d ins k).length (ints (aj.aU d ins k))/\(∀g,pn.ownBlock=some g->mJ.ownBlock≠some g)/\av wr pr 181 #[.func (.func 155) #[] #[]]/\w.heap.size<=wr.heap.size/\af.Fr w P e3 wr mJ) (λ_ ak _=>n-(intOf ak).toNat)
 case atStart =>
  refine⟨0,e3,ct,rfl,by omega,o5.q,?_,⟨rfl,.inl ⟨rfl,rfl⟩⟩,(λg h=>by cases h),Dx.q,qX _,af.Fr.refl _ _ _⟩;have:ds++J.aq d (aj.aU d ins 0)=ds:=by show ds++[]=ds;rw[xM]
  rw[this];exact Dy.q
 obtain⟨k,mJ,y,rfl,bG,aE,a0,ah,aT,rO,a3,aV⟩:=hrel;obtain⟨cb,bp,pz,xy,pt,hN⟩:=fq aV aE a0 ah aT rO;have S:=qQ (gn.q (k:Int) wr aE);obtain⟨bm,br,bf,bw⟩:=ai.aZ ah;subst bf;clear aE a0 ah aT rO aV;by_cases bH:k<n
 .have p9:k<d.length:=by have:=eQ.q;omega
  obtain⟨bo,bI,rfl,bv,KV⟩:=ep.q _ bp.q (by omega);refine Jj ?_;intro aO tt xw hS i1 i2 D8 D5;clear KV;generalize d[k]=x at aO hS tt;by_cases I:(k:Int)∈ins
  .rw[zD I]at S;have cd:=qQ (show aj.aU d ins (k+1)=aj.aU d ins k by rw[xw.q,qY I]);clear I;go_wp2_with fail
   ((with_reducible refine S.q.mono ?_);rintro e aw ⟨rfl,O⟩)
   rw[<-O];clear O;go_wp2_with fail;go_roundw
   case rel=>exact⟨k+1,mJ,y,by go_num,by omega,bp.q,by rw[cd.q];exact pz.q,by rw[cd.q];exact xy.q,pt.q,hN.q,a3,cb.q⟩
   case measure=>simp[intOf];omega
  rw[zN I]at S;have cd:=qQ (show aj.aU d ins (k+1)=aj.aU d ins k++[(k:Int)] by rw[xw.q,qV I]);clear I;have aB:=qQ (show ds++J.aq d (aj.aU d ins (k+1))=(ds++J.aq d (aj.aU d ins k))++[x] by rw[cd.q,hS.q,zE]);obtain⟨i0,g1,g2,g3,g4⟩:=IZ.q;generalize ds++J.aq d (aj.aU d ins k)=cs at pz aB D5;generalize aj.aU d ins k=L at xy cd D8 pt |-;go_wp2_with fail
  ((with_reducible refine S.q.mono ?_);rintro e aw ⟨rfl,O⟩)
  rw[<-O];clear O;go_wp2_with (at_builtin;refine bF _ rfl _ _ 23 rfl w.heap.size 3 i0 (.int .i64 0) 1 8 underlying23 g1 g2 g3 g4 rfl (by decide) _ _ _ rfl (xy.q.alloc _) _ (some ⟨wr.heap.size,0,none⟩) 1 1 [.int .i64 (k:Int)] rfl (af.dj (av.new wr 3 #[.int .i64 (k:Int)]) rfl) (by intro u hu;simp at hu;subst hu;rfl) (by unfold maxLen;omega) (by omega) (by simp;omega) ?_);intro v' cH how fB M;have m:=pz.q.below (wG (qK wr.heap.size wr) (qX _) (.cells #[.int .i64 (k:Int)] 3));have aG:=hN.q.alloc (.cells #[.int .i64 (k:Int)] 3);have j:=xy.q.alloc (.cells #[.int .i64 (k:Int)] 3);obtain⟨nn,Bb,a7⟩:=aK (show af.iI N P u0 u1 mJ cs ca cl y c3 cH from⟨af.fw m.aL j (by decide) fB,af.bq m.own (λg i=>fB.block g (af.eI m.own i).2 (λe=>pt.q g e.symm i)),m.bA,m.cq,m.eC,m.e2⟩) (af.fw aG j (by decide) fB) ((bp.q.alloc (qJ D4 a3) (.cells #[.int .i64 (k:Int)] 3)).grown fB (by simp;omega) (λg i=>by have:=(af.eI j i).1;omega));have aH:=qQ (show cH.ownsRow w.heap.size 3 1 v' (aj.aU d ins (k+1)).length (ints (aj.aU d ins (k+1))) by
   rw[cd.q,qW,ai.ec];exact how)
  have a8:=qQ (cb.q.grow fB (λg i=>(af.eI j i).1));have bj:wr.heap.size+1<=cH.heap.size:=by have:=fB.size;simpa using this
  have ap:=qQ (show ∀g,v'.ownBlock=some g->mJ.ownBlock≠some g from λg i r=>by
   rcases M with e | e
   .exact pt.q g (by rw[<-e];exact i) r
   rw[e]at i;injection i with i
   have:=(af.eI pz.q.own r).2
   first | omega | (simp at i;omega))
  obtain⟨Q,cu,bk,bx⟩:=ai.aZ how;subst bk;clear how fB M m aG j;have bg:cH.cell? ⟨P,2,none⟩=some mJ:=nn.q.aL.cell 2;have bd:cH.frozen? ⟨P,2,none⟩=false:=nn.q.aL.frozen 2;obtain⟨a5,a',bc,bD⟩:=ai.aZ nn.q.own;subst bc;have bs:P<cH.heap.size:=nn.q.aL.lt;have Z:cH.cell? ⟨pr,0,none⟩=some (.func (.func 155) #[] #[]):=Bb.q.cell 0;go_wp2_with (at_builtin;refine bF _ rfl _ _ 23 rfl N 3 i0 (.int .i64 0) 1 8 underlying23 g1 g2 g3 g4 rfl (by decide) _ _ _ rfl (nn.q.own.alloc _) _ (some ⟨cH.heap.size,0,none⟩) 1 1 [.int .i64 x] rfl (af.dj (av.new cH 3 #[.int .i64 x]) rfl) (by intro u hu;simp at hu;subst hu;rfl) (by unfold maxLen;omega) (by omega) (by simp;omega) ?_);intro v2 dX how fB M;have E:=nn.q.below (wG (qK cH.heap.size cH) (qX _) (.cells #[.int .i64 x] 3));have aN:=Bb.q.alloc (.cells #[.int .i64 x] 3);have j:=aH.q.alloc (.cells #[.int .i64 x] 3);have B:=qQ (E.push how fB);have aC:=qQ ((a8.q.push fB (by rcases M with e | e;exact .inl e;exact .inr (e.trans (by simp)))).set 2 v2);have U:=af.fw E.aL E.own (by decide) fB;have aX:=af.fw aN E.own (by decide) fB;have ag:dX.ownsRow w.heap.size 3 1 (.slice Q (L.length+1) cu) (aj.aU d ins (k+1)).length (ints (aj.aU d ins (k+1))):=af.bq j (λg i=>fB.block g (af.eI j i).2 (λe=>ap.q g i e.symm));have Y:pr≠P:=λe=>by
   exact ZP
  have V:=qQ (aX.cR (p:=⟨P,2,none⟩) Y v2);have X:=qQ (show(dX.setCell ⟨P,2,none⟩ v2).ownsRow w.heap.size 3 1 (.slice Q (L.length+1) cu) (aj.aU d ins (k+1)).length (ints (aj.aU d ins (k+1)))from
   af.bq ag (λg i=>qN dX ⟨P,2,none⟩ v2 g (λe=>af.fY ag U (by decide) (by rw[i,e]))))
  have az:=qQ (((a7.q.alloc (by omega) (.cells #[.int .i64 x] 3)).grown fB (by simp;omega) (λg i=>(af.eI E.own i).1)).setCell (p:=⟨P,2,none⟩) aP v2);have a6:=qQ (show ∀g,(Value.slice Q (L.length+1) cu).ownBlock=some g->v2.ownBlock≠some g from λg i r=>by
   rcases M with e | e
   .exact ap.q g i (by rw[<-e];exact r)
   rw[e]at r;injection r with r
   have:=(af.eI aH.q i).2
   first | omega | (simp at r;omega))
  have a1:wr.heap.size<=(dX.setCell ⟨P,2,none⟩ v2).heap.size:=by
   exact XY
  have bh:dX.cell? ⟨P,2,none⟩=some (.slice a5 cs.length a'):=U.cell 2;have be:dX.frozen? ⟨P,2,none⟩=false:=U.frozen 2;obtain⟨bt,bz,bl,bB⟩:=ai.aZ how;subst bl;clear how fB M E aN j U aX ag bg bd Z;obtain⟨D,aQ⟩:=gz (dX.setCell ⟨P,2,none⟩ (.slice bt (cs.length+1) bz));rw[aQ]at B V X az a1 aC;have Z:D.cell? ⟨pr,0,none⟩=some (.func (.func 155) #[] #[]):=V.q.cell 0;obtain⟨a9,aJ,aD,aF⟩:=cV (af.nw P 5 y x D (B.q.aL.cell 5) (B.q.aL.frozen 5) B.q.eC tt) (B.q.LY tt) (aC.q.set 5 (.int .i64 (af.b_ y x))) (V.q.cR (p:=⟨P,5,none⟩) Y (.int .i64 (af.b_ y x)));have aI:=qQ (show(D.setCell ⟨P,5,none⟩ (.int .i64 (af.b_ y x))).ownsRow w.heap.size 3 1 (.slice Q (L.length+1) cu) (aj.aU d ins (k+1)).length (ints (aj.aU d ins (k+1)))from
   af.bq X.q (λg i=>qN D ⟨P,5,none⟩ _ g (λe=>af.fY X.q B.q.aL (by decide) (by rw[i,e]))))
  have aA:=qQ (az.q.setCell (p:=⟨P,5,none⟩) aP (.int .i64 (af.b_ y x)));have a2:w.heap.size<=(D.setCell ⟨P,5,none⟩ (.int .i64 (af.b_ y x))).heap.size:=by simp;omega
  clear Y a1 bj;go_wp2_with fail
  ((with_reducible refine a9.q.mono ?_);rintro e bJ ⟨rfl,a4⟩)
  rw[a4];clear a4;obtain⟨bn,aR⟩:=gz (D.setCell ⟨P,5,none⟩ (.int .i64 (af.b_ y x)));rw[aR]at aJ aF aI aA a2 aD |-;clear aR aQ bh be Z;go_wp2_with fail;go_roundw
  case rel=>exact⟨k+1,_,_,by go_num,by omega,aA.q,by rw[aB.q];exact aJ.q,aI.q,a6.q,aF.q,a2,aD.q⟩
  case measure=>simp[intOf];omega
 exact ZY
end Go.Proofs.YtabmnaaidfpmcaaGreatDoor
end
section
namespace Go.Proofs.YtabmnaaidfpmcaaGreatDoor
open Go.RowKit aS Go.Maps
namespace bC
def ov(x:J.Node):Lit:=.string (dD.n1 x)
theorem Kn{x y:J.Node}(h:ov x=ov y):x=y:=by
 unfold ov at h;injection h with h
 exact dD.key_inj h
theorem Er(x:J.Node):WideAt.IsKeyLit (ov x):=by unfold ov;trivial
def qc(N:List J.Node):DataW Unit:=N.zipIdx.foldl (λD p=>D.put (ov p.1) (.lit (.int .i64 (p.2:Int)))) (.map [])
theorem BJ(N:List J.Node)(x:J.Node):qc (N++[x])=(qc N).put (ov x) (.lit (.int .i64 (N.length:Int))):=by
 unfold qc;rw[List.zipIdx_append,jE];simp
theorem Es(N:List J.Node):IsMap (qc N):=by
 unfold qc;generalize N.zipIdx=l;have h:∀(l:List (J.Node × Nat)) (D:DataW Unit),IsMap D->IsMap (l.foldl (λD p=>D.put (ov p.1) (.lit (.int .i64 (p.2:Int)))) D):=by
  intro l
  induction l with
  | nil=>exact λD h=>h
  | cons p l i=>exact λD h=>i _ (h.put _ _)
 exact h l _ isMap_empty
theorem HF:∀(n:Nat) (N:List J.Node),N.length=n->N.Nodup->∀x,(∀i (hi:i<N.length),N[i]=x->has (qc N) (ov x)=true/\∀z,(qc N).atKey (ov x) z=.lit (.int .i64 (i:Int)))/\(x∉N->has (qc N) (ov x)=false)
 | 0,N,r,_,x=>by
  obtain rfl:N=[]:=xL r;exact⟨λi hi=>by simp at hi,λ_=>rfl⟩
 | n+1,N,r,ar,x=>by
  obtain⟨M,y,rfl⟩:∃M y,N=M++[y]:=⟨N.dropLast,N.getLast (by intro e;subst e;simp at r),(List.dropLast_concat_getLast _).symm⟩;have O:M.length=n:=by simpa using r
  have D:=List.nodup_append.1 ar;obtain⟨i1,i2⟩:=HF n M O D.1 x;rw[BJ];by_cases e:y=x
  .subst e;refine⟨λi hi j=>?_,λj=>absurd (by simp) j⟩;have q:i=M.length:=by
    rcases jQ i M.length with m | m
    .exfalso;rw[zR m]at j;exact D.2.2 _ (qP m) _ (by simp) j
    simp at hi;omega
   subst q;exact⟨has_put_same (Es M) (Er y) _,λz=>atKey_put_same (Es M) (Er y) _ z⟩
  have B:ov x≠ov y:=λh=>e (Kn h).symm
  refine⟨λi hi j=>?_,λj=>?_⟩
  .have q:i<M.length:=by
     rcases jQ i M.length with m | m
     .exact m
     exfalso;have:i=M.length:=by simp at hi;omega
     subst this;simp at j;exact e j
   rw[zR q]at j;obtain⟨E,I⟩:=i1 i q j;exact⟨by rw[has_put_other B];exact E,λz=>by rw[atKey_put_other B];exact I z⟩
  rw[has_put_other B];exact i2 (λh=>j (jR _ h))
theorem HW(N:List J.Node)(ar:N.Nodup)(op:J.Op)(args:List Int):(∃i:Nat,i<N.length/\ae.add N op args=(N,(i:Int))/\has (qc N) (ov (⟨ae.plain op,args⟩:J.Node))=true/\∀z,(qc N).atKey (ov (⟨ae.plain op,args⟩:J.Node)) z=.lit (.int .i64 (i:Int)))\/(ae.add N op args=(N++[⟨ae.plain op,args⟩],(N.length:Int))/\(N++[(⟨ae.plain op,args⟩:J.Node)]).Nodup/\has (qc N) (ov (⟨ae.plain op,args⟩:J.Node))=false):=by
 obtain⟨E,I⟩:=HF N.length N rfl ar ⟨ae.plain op,args⟩;unfold ae.add;cases m:N.findIdx? (λx=>decide (x=⟨ae.plain op,args⟩))with
 | some i =>
  obtain⟨hi,he,_⟩:=List.findIdx?_eq_some_iff_getElem.1 m;have D:N[i]=⟨ae.plain op,args⟩:=by simpa using he
  obtain⟨r,y⟩:=E i hi D;exact .inl ⟨i,hi,rfl,r,y⟩
 | none =>
  have q:(⟨ae.plain op,args⟩:J.Node)∉N:=λh=>by
   have:=List.findIdx?_eq_none_iff.1 m _ h;simp at this
  refine .inr ⟨rfl,?_,I q⟩;rw[uB];exact⟨ar,by simp,λa B b j e=>by simp at j;subst j;subst e;exact q B⟩
def HQ(U:Nat->Prop)(w:World)(aR:List Value)(o:Nat)(x:J.Node):Prop:=∃v1 v2 v3 v4 v5 v6,
 (aR[o]?=some (.int .i64 x.o.k)/\aR[o+1]?=some v1/\aR[o+2]?=some v2/\aR[o+3]?=some v3/\aR[o+4]?=some v4/\aR[o+5]?=some v5/\aR[o+6]?=some (.int .i64 x.o.v)/\aR[o+7]?=some v6) /\
 gP U w v1 x.o.I/\gP U w v2 x.o.a/\gP U w v3 x.o.l/\gP U w v4 x.o.h/\gP U w v5 x.o.s/\gP U w v6 x.a
theorem HQ.map{U V:Nat->Prop}{aR LB:List Value}{o l4:Nat}{x:J.Node}(h:HQ U w aR o x)(i:∀k v,k<8->aR[o+k]?=some v->LB[l4+k]?=some v)(j:∀v l,gP U w v l->gP V w' v l):HQ V w' LB l4 x:=by
 obtain⟨v1,v2,v3,v4,v5,v6,⟨bT,aO,bz,m,q,r,y,B⟩,s1,s2,D,E,I,M⟩:=h;exact⟨v1,v2,v3,v4,v5,v6,⟨i 0 _ (by omega) bT,i 1 _ (by omega) aO,i 2 _ (by omega) bz,i 3 _ (by omega) m,i 4 _ (by omega) q,i 5 _ (by omega) r,i 6 _ (by omega) y,i 7 _ (by omega) B⟩,j _ _ s1,j _ _ s2,j _ _ D,j _ _ E,j _ _ I,j _ _ M⟩
def Has(base:Nat)(w:World)(U:Nat->Prop)(j1 hQ:Value)(N:List J.Node):Prop :=
 (∃aR,w.ownsRow base 60 8 j1 N.length aR/\(∀g,j1.ownBlock=some g->U g)/\∀i (hi:i<N.length),HQ U w aR (i*8) N[i]) /\
 ((hQ=.map none/\N=[])\/∃j,hQ=.map (some j)/\U j/\w.ownsMap Tryz.prog 9 (plainElem (H:=Unit) Tryz.prog 3) j N.length (qc N))
theorem Has.c9{U V:Nat->Prop}{j1 hQ:Value}{N:List J.Node}(h:Has base w U j1 hQ N)(az:w.heap.size<=w'.heap.size)(x:∀b,U b->b<w.heap.size->w'.heap[b]?=w.heap[b]?)(q:∀b,U b->b<w.heap.size->V b):Has base w' V j1 hQ N:=by
 obtain⟨⟨aR,m,B,I⟩,M⟩:=h;refine⟨⟨aR,?_,λg j=>q g (B g j) (m.lt g j).2,λi hi=>(I i hi).map (λ_ _ _ Q=>Q) (λv l S=>S.move λb _ _ hu D=>⟨q b hu (eH D),x b hu (eH D)⟩)⟩,?_⟩
 .exact af.bq m λg j=>x g (B g j) (m.lt g j).2
 rcases M with h | ⟨y,e,hu,hm⟩
 .exact .inl h
 have E:=hm.lt;refine .inr ⟨y,e,q y hu E,?_⟩;obtain⟨es,clock,O,r⟩:=hm;exact⟨es,clock,(x y hu E).trans O,r⟩
structure At (base:Nat) (w:World) (p:Nat) (ty:TypeId) (vO:Value) (rest:List Value) (U:Nat->Prop) (N:List J.Node):Prop where
 own:∀b,U b->base<=b/\b<w.heap.size/\b≠p
 low:base<=p
 nodup:N.Nodup
 mem:∃j1 hQ,av w p ty (j1::vO::hQ::rest).toArray/\Has base w U j1 hQ N
theorem At.lt{base p:Nat}{w:World}{ty:TypeId}{vO:Value}{rest:List Value}{U:Nat->Prop}{N:List J.Node}(h:At base w p ty vO rest U N):p<w.heap.size:=by
 obtain⟨j1,hQ,i,_⟩:=h.mem;exact i.lt
theorem At.c9{base p:Nat}{w w':World}{ty:TypeId}{vO:Value}{rest:List Value}{U V:Nat->Prop}{N:List J.Node}(h:At base w p ty vO rest U N)(i:ch V w w')(m:∀b,V b->¬U b/\b≠p):At base w' p ty vO rest U N:=by
 obtain⟨j1,hQ,y,hm⟩:=h.mem;refine⟨λb hu=>?_,h.low,h.nodup,j1,hQ,i.aL y (λj=>(m p j).2 rfl),hm.c9 i.size (λb hu B=>i.block b B (λj=>(m b j).1 hu)) (λb hu _=>hu)⟩;obtain⟨q,r,x⟩:=h.own b hu;exact⟨q,zW r i.size,x⟩
def gq(base:Nat)(w w':World)(p:Nat)(ty:TypeId)(vO:Value)(rest:List Value)(U:Nat->Prop)(N':List J.Node):Prop :=
 ∃d_,At base w' p ty vO rest d_ N'/\ch (λb=>b=p\/U b) w w'/\∀b,d_ b->U b\/w.heap.size<=b
end bC
end Go.Proofs.YtabmnaaidfpmcaaGreatDoor
end
section
namespace ad
def gN(a:ay):Int:=if (R.size a.I).2≠0 then(R.size a.I).2 else if (a.e.length:Int)≠(R.size a.I).1 then 6 else 0
theorem w6{a:ay}(h:gN a=0)(j:∀x∈a.e,dv x):cO a:=by
 unfold gN at h;split at h
 .rename_i i;exact absurd h i
 rename_i i;split at h
 .omega
 rename_i m;exact⟨Classical.not_not.1 i,by omega,j⟩
theorem w1{a:ay}(h:cO a):gN a=0:=by
 obtain⟨i,z2,z3,z4,z5⟩:=R.aB h.1;unfold gN;rw[qV (by simp[h.1]),qV (by rw[h.2.1];omega)]
end ad
namespace Go.Proofs.YtabmnaaidfpmcaaGreatDoor
open Go.RowKit aS
theorem _root_.Xm{G:Prop}(h:G:=by
 go_wp2_with fail;go_ret;rw[pw.q];exact⟨rfl,o5.q⟩
 ):G:=h
theorem al.q2(val:Value)(a:ad.ay)(B:Nat)(w:World)(ah:B<=w.heap.size)(h:al.a1 w B val a):Calls Tryz.prog 28 #[val] w λe w'=>e=.returned (.int .i64 (ad.gN a))/\Below w.heap.size w w':=by
 obtain⟨A,c,X,x,rfl,ar,-,O,U⟩:=h;obtain⟨ak,S,D,b0,-⟩:=b8 w 68 #[.slice A a.I.length c,.slice X a.e.length x];obtain⟨E,o5,y,r⟩:=cV (dC A c a.I B ak (by omega) (ar.below (b0.mono ah))) b0 (show ai.b5 a.I=.tuple #[.int .i64 (R.size a.I).1,.int .i64 (R.size a.I).2]from rfl) (show ad.gN a=if (R.size a.I).2≠0 then(R.size a.I).2 else if (a.e.length:Int)≠(R.size a.I).1 then 6 else 0 from rfl);obtain⟨s,az⟩:=gz (R.size a.I);rw[az]at y r;have Q:=λi=>D.cell i
 clear ar D b0 az;go_enter func28,ntmps28;go_wp2_with fail;refine E.q.mono ?_;rintro e ag ⟨rfl,rfl⟩;rw[y.q];by_cases j:s.2=0
 .have M:(s.2 != 0)=false:=by simpa using j
  by_cases m:(a.e.length:Int)=s.1
  .have N:((a.e.length:Int) != s.1)=false:=by simpa using m
   have pw:=qQ (show ad.gN a=0 by rw[r.q,qV (by simp[j]),qV (by simp[m])]);clear j m;exact Xm
  have N:((a.e.length:Int) != s.1)=true:=by simpa using m
  have pw:=qQ (show ad.gN a=6 by rw[r.q,qV (by simp[j]),qY m]);clear j m;exact Xm
 have M:(s.2 != 0)=true:=by simpa using j
 have pw:=qQ (show ad.gN a=s.2 by rw[r.q,qY j]);clear j;exact Xm
theorem al.HX(DA:Option Addr)(Ay:Nat)(l:List Int)(B:Nat)(w:World)(dt:l.length<=Ay)(iB:Ay<=9223372036854775807)(eR:(R.size l).2=0)(ah:B<=w.heap.size)(ar:ai.ao w B DA l):Calls Tryz.prog 80 #[.slice DA l.length Ay] w λe w'=>∃A c,e=.returned (.slice A (ad.all l).length c)/\(0<(ad.all l).length->∃b,A=some ⟨b,0,none⟩/\w.heap.size<=b/\b<w'.heap.size/\∀i (h:i<(ad.all l).length),∃v,w'.cell? ⟨b,i,none⟩=some v/\bC.tV w.heap.size w' v (ad.all l)[i])/\Below w.heap.size w w':=by
 obtain⟨y,z2,z3,z4,z5⟩:=R.aB eR;by_cases hp:0<R.prod l
 .refine VQ ?_;intro w' v n cp fa du dP cw aE cy bE;obtain⟨A,c,rfl,_⟩:=ai.aZ dP;refine⟨A,c,by rw[bE],λhp=>?_,aE⟩;obtain⟨g,cap,r,_,q⟩:=dP.form (by omega);obtain rfl:A=some ⟨g,0,none⟩:=by injection r
  refine⟨g,rfl,(dP.lt g rfl).1,q,λi hi=>⟨cp[i]'(by omega),by have h:=dP.cells (g:=g) rfl i _ (qC (show i<cp.length by omega));rwa [jW,qI]at h,?_⟩⟩;have m:=cw i (by omega);have j:(ad.all l)[i]=R.idx l (i:Int):=by simp[cy]
  rw[j];exact bC.gP.own m (qX _)
 have x:(R.size l).1=0:=by omega
 have cy:ad.all l=[]:=by unfold ad.all;rw[qY x]
 refine(al.q7 DA Ay l B w dt iB eR ah ar).mono ?_;rintro e w' ⟨A,c,rfl,-,aE⟩;exact⟨A,c,rfl,λh=>by rw[cy]at h;simp at h,aE⟩
end Go.Proofs.YtabmnaaidfpmcaaGreatDoor
end
section
namespace aj
open J
open R (size ez whole)
def ff(op:Op)(d:List Int):R.V × Int :=
 if (size d).2≠0 then(R.none_,(size d).2)
 else if op.k=9 then R.spread (R.whole d).1 op.I op.a
 else if op.k=11 then R.turn (R.whole d).1 op.a
 else if op.k=12 then R.ez (R.whole d).1 op.I
 else if op.k=13 then R.cut (R.whole d).1 op.l op.h op.s
 else R.flip (R.whole d).1 op.a
theorem o2{d:List Int}(h:(size d).2=0):(whole d).1=⟨0,d,R.steps d⟩/\(whole d).2=0:=by
 unfold R.whole;rw[qV (by simp[h])];exact⟨rfl,rfl⟩
theorem A3{d I:List Int}(h:(size d).2=0):(ez (whole d).1 I).2=(if (size I).2≠0 then(size I).2 else if (size d).1≠(size I).1 then 6 else 0)/\((ez (whole d).1 I).2=0->(ez (whole d).1 I).1.I=I):=by
 rw[(o2 h).1];have hw:=R.lu h;have hi:=R.Ap (I:=I) h;by_cases i:(size I).2=0
 .rw[qV (by simp[i])];by_cases m:(size d).1=(size I).1
  .rw[qV (by simp[m])];have j:=hi.2 ⟨i,m⟩;refine⟨j,λ_=>?_⟩;by_cases q:(size I).1=0
   .rw[R.mZ hw i m q]
   cases r:R.go I.reverse (R.blocks ⟨0,d,R.steps d⟩)with
   | none=>rw[R.r2 hw i m q r]at j;cases j
   | some ss =>
    rw[R.n6 hw i m q r]at j |-;unfold R.made at j |-;split at j
    .cases j
    rename_i x;rw[qV x]
  rw[qY m,R.m_ hw i m];exact⟨rfl,λh=>by cases h⟩
 rw[qY i,R.n5 hw i];exact⟨rfl,λh=>absurd h i⟩
theorem Ex(op:Op)(d:List Int)(B:op.k=9\/op.k=11\/op.k=12\/op.k=13\/op.k=15)(h:(size d).2=0):(ff op d).2=(aP op [d]).2/\((ff op d).2=0->(ff op d).1.I=(aP op [d]).1):=by
 by_cases j:op.k=12
 .have q:ff op d=ez (whole d).1 op.I:=by unfold ff;simp[h,j]
  have r:aP op [d]=if (size op.I).2≠0 then([],(size op.I).2)else if (size d).1≠(size op.I).1 then([],6)else(op.I,0):=by unfold aP;simp[j]
  obtain⟨x,D⟩:=A3 (I:=op.I) h;rw[q,r];refine⟨?_,λi=>?_⟩
  .rw[x];split
   .rfl
   split<;>rfl
  rw[D i];rw[x]at i;split
  .rename_i m;rw[qY m]at i;exact absurd i m
  rename_i m;rw[qV m]at i;split
  .rename_i y;rw[qY y]at i;cases i
  rfl
 have q:ff op d=looked op d:=by unfold ff looked;simp[h,j]
 have r:aP op [d]=((looked op d).1.I,(looked op d).2):=by
  unfold aP;rcases B with h | h | h | h | h<;>simp[h]at j |-
 rw[q,r];exact⟨rfl,λ_=>rfl⟩
end aj
end
section
namespace Go.Proofs.YtabmnaaidfpmcaaGreatDoor
open Go.RowKit aS
namespace ai
theorem hR.later{B:Nat}{W:World}{v2:Value}{xs:List Int}(h:hR B N a8 bD st aQ aO v2 xs bf W)(i:Below W.heap.size W bg):hR B N a8 bD st aQ aO v2 xs bf bg :=
 ⟨h.aL.below i h.aL.lt,(h.i1.below i).up i.size,h.g1,h.cW,h.cX,hc h.bw i,h.bn,h.below.trans (i.mono (qJ h.low (zG h.aL.lt))),h.low⟩
theorem hR.IM{B:Nat}{W:World}{cap:Nat}{xs:List Int}(h:hR B N a8 bD st aQ aO (.slice (some ⟨g,0,none⟩) n cap) xs bf W)(i:bf.length=n)(j:Nat)(x:Int):hR B N a8 bD st aQ aO (.slice (some ⟨g,0,none⟩) n cap) xs (bf.set j x) (W.setCell ⟨g,j,none⟩ (.int .i64 x)):=by
 subst i;have:=h.qx j x
 rwa [xJ]at this
end ai
attribute [local go_sem ↓] Go.wp_at_zero Go.wp_at_succ
theorem Tryz.Ej:(Tryz.prog.info? 206).map (λi=>(i.zero,i.size,i.bytes))=some (some (.agg #[.int .i64 0,.int .i64 0]),2,16):=by kernel_rfl
namespace ai
def ev:List (Int × Int)->List Value
 | []=>[]
 | (d,k)::l=>.int .i64 d::.int .i64 k::ev l
theorem fX:∀l,(ev l).length=l.length*2
 | []=>rfl
 | (d,k)::l=>by simp only[ev,qH,fX l];omega
theorem fW:∀l m,ev (l++m)=ev l++ev m
 | [],m=>rfl
 | (d,k)::l,m=>by simp only[ev,xH,fW l m]
theorem nW(r:List (Int × Int))(n s:Int):(ev (r.reverse++[(n,s)]))[r.length*2]?=some (.int .i64 n)/\(ev (r.reverse++[(n,s)]))[r.length*2+1]?=some (.int .i64 s):=by
 have h:(ev r.reverse).length=r.length*2:=by rw[fX,jV]
 rw[fW];refine⟨?_,?_⟩
 .rw[zO (by omega),h,xB];rfl
 rw[zO (by omega),h,show r.length*2+1-r.length*2=1 by omega];rfl
theorem s0(r:List (Int × Int))(n s n' s':Int):((ev (r.reverse++[(n,s)])).set (r.length*2) (.int .i64 n')).set (r.length*2+1) (.int .i64 s')=ev (r.reverse++[(n',s')]):=by
 have h:(ev r.reverse).length=r.length*2:=by rw[fX,jV]
 rw[fW,fW,jZ _ _ (by omega),h,xB,jZ _ _ (by omega),h,show r.length*2+1-r.length*2=1 by omega];rfl
theorem EK{lg size:Nat}(h:w.ownsRow base e size v n xs)(q:lg<=base):w.ownsRow lg e size v n xs:=by
 refine⟨h.1,?_⟩;rcases h.2 with i | ⟨g,cap,cur,j,i,m⟩
 .exact .inl i
 exact .inr ⟨g,cap,cur,j,by omega,m⟩
theorem B3(n s:Int):∀u∈[Value.int .i64 n,.int .i64 s],u.oneCell'=true:=by
 intro u hu;simp only[xR,xP,vX]at hu;rcases hu with rfl | rfl<;>rfl
theorem pO{size:Nat}(h:w.ownsRow base e size v n xs)(q:Nat):(w.drewN q).ownsRow base e size v n xs:=h
theorem B2(w:World)(t:TypeId)(a b:Value):∀j u,[a,b][j]?=some u->(w.alloc (.cells #[a,b] t)).cell? ((⟨w.heap.size,0,none⟩:Addr).add j)=some u:=by
 intro j u hu;rw[jW,qI,cell_of_row _ _ j #[a,b] t (0,0) (kJ w _)];simpa using hu
structure mB (N:Nat) (bD:World) (o:Value) (st:List (Int × Int)) (W:World):Prop where
 own:W.ownsRow N 206 2 o st.length (ev st.reverse)
 below:Below N bD W
theorem mB.join{m co:Nat}{W:World}{n t:Int}{r:List (Int × Int)}(q:W.ownsRow N 206 2 (.slice (some ⟨g,0,none⟩) (m+1) co) (m+1) (ev (r.reverse++[(n,t)])))(hm:r.length=m)(B:Below N bD W):mB N bD (.slice (some ⟨g,0,none⟩) (m+1) co) ((x,s)::r) ((W.setCell ⟨g,m*2,none⟩ (.int .i64 x)).setCell ⟨g,m*2+1,none⟩ (.int .i64 s)).drew:=by
 subst hm;have y:=q.stored (r.length*2) (.int .i64 x);have i:=y.1.stored (r.length*2+1) (.int .i64 s);have j:=q.lt g rfl;rw[s0]at i;refine⟨?_,((B.setCell (p:=⟨g,r.length*2,none⟩) j.1 _).setCell (p:=⟨g,r.length*2+1,none⟩) j.1 _).drew⟩;rw[qH,xI];exact i.1
theorem mB.more{W:World}{O:Value}{st:List (Int × Int)}(r:W.ownsRow N 206 2 O st.length (ev st.reverse))(j:Below N bD W)(i:N<=W.heap.size)(x:bg.ownsRow N 206 2 v' (st.length+1) (ev st.reverse++[.int .i64 d,.int .i64 s]))(m:(W.alloc (.cells #[.int .i64 d,.int .i64 s] 206)).grownBy bg O.ownBlock):mB N bD v' ((d,s)::st) bg:=by
 refine⟨?_,(j.alloc i _).grown m (by simp;omega) (λq hq=>(r.lt q hq).1)⟩;rw[qH,xI,fW];exact x
def Dq(w:World)(v:R.V)(e:Ending)(w':World):Prop:=∃o,e=.returned o/\w'.ownsRow w.heap.size 206 2 o (R.blocks v).length (ev (R.blocks v).reverse)/\Below w.heap.size w w'
end ai
theorem _root_.ZU{G:Prop}(h:G:=by
 clear nB c0;go_wp2_with fail
 first
  | exact⟨⟨k+1,by omega,by go_num,cb.q⟩,by simp[intOf];omega⟩
  | (go_roundw
     case rel=>exact⟨k+1,by omega,by go_num,cb.q⟩
     case measure=>(simp[intOf]<;>omega))
 ):G:=h
theorem _root_.VV{G:Prop}(r:bm)(f:dS bm->G:=by
 intro bb;have y9:w.heap.size+1<=W2.heap.size:=by rw[<-BC];exact eU
 have sM:W2.cell? ⟨w.heap.size,2,none⟩=some (.slice (some ⟨hr,dN,none⟩) v.s.length c'):=by rw[<-BC];exact ku
 have G':W2.cell? ⟨hr,dN+k,none⟩=some (.int .i64 s):=by rw[<-BC];exact fm
 revert y9 sM G';exact bb.o
 ):G:=f ⟨r⟩
theorem Cf(val:Value)(v:R.V)(B:Nat)(w:World)(ah:B<=w.heap.size)(h:ai.cm w B val v)(Z:R.aF v=0)(hp:0<R.prod v.I):Calls Tryz.prog 183 #[val] w (ai.Dq w v):=by
 obtain⟨i0,hi,a1,a2,a3⟩:=xQ Tryz.Ej;obtain⟨A,c,bK,c',rfl,ar,az,aO,bz,bn,bo⟩:=h;obtain⟨aE,z2,z3,z4⟩:=R.cK Z;obtain⟨s1,s2,bh,bu,bv⟩:=R.aB aE;obtain⟨bm,a6,aQ,a_,a5,a8⟩:=fq (R.fD aE hp) s2 z2 z4 ar az;obtain⟨a4,X,aP⟩:=aK Z ((qK w.heap.size w).alloc (qX _) (.cells #[.int .i64 v.st,.slice A v.I.length c,.slice bK v.s.length c'] 159)) (av.new w 159 #[.int .i64 v.st,.slice A v.I.length c,.slice bK v.s.length c']);clear ar az aE z2 z4 s2 bh Z;go_enter func183,ntmps183;go_wp2_with fail;obtain⟨bD,ak⟩:=gz (w.alloc (.cells #[.int .i64 v.st,.slice A v.I.length c,.slice bK v.s.length c'] 159));have aZ:bD.heap.size=w.heap.size+1:=by rw[<-ak];simp
 rw[ak]at X aP |-;have a9:=qQ aZ;clear ak aZ;go_loopw [3,4,5,6,10] (λo _ _ _ i wr=>∃k:Nat,k<=v.I.length/\i=.int .i64 (k:Int)/\ai.mB (w.heap.size+1) bD o (R.eK v k) wr) (λ_ _ _ _ i _=>v.I.length+1-(intOf i).toNat)
 case atStart=>exact⟨0,by omega,rfl,by exact vH _ _ _ _,qK _ _⟩
 obtain⟨k,bs,rfl,M⟩:=hrel;obtain⟨D,rfl⟩:∃D:World,D=wr:=⟨_,rfl⟩;have j:=qQ M;clear M;by_cases aC:k<v.I.length
 .have aA:k<v.s.length:=by have:=aQ.q;omega
  obtain⟨b,off,rfl,bq,aR⟩:=a5.q (by omega);obtain⟨hr,dN,rfl,br,aT⟩:=a8.q (by omega);have aI:=qQ (X.q.trans (j.q.below.mono (by omega)));have U:=(aI.q.cell (p:=⟨b,off+k,none⟩) (by simp;omega)).trans (aR k aC);have fm:=(aI.q.cell (p:=⟨hr,dN+k,none⟩) (by simp;omega)).trans (aT k aA);have a0:=aP.q.below j.q.below (by omega);have ku:D.cell? ⟨w.heap.size,2,none⟩=some (.slice (some ⟨hr,dN,none⟩) v.s.length c'):=a0.cell 2;have eU:w.heap.size+1<=D.heap.size:=by have bp:=j.q.below.size;have a':=a9.q;omega
  have ao:=a6.q _ (qP aC);have aD:=a_.q _ (qP aA);have E:=qQ (R.yd aC aA);have aJ:=qQ (R.yc a4.q hp k);have i1:=b2 k;have i2:(k:Int)<(v.I.length:Int):=by omega
  have i3:(k:Int)<(v.s.length:Int):=by omega
  have aX:=R.lQ ao.1 ao.2 aD.1 aD.2;clear aR aT a0;generalize v.I[k]=d at U ao E aX;generalize v.s[k]=s at fm aD E aX;by_cases ar:d=1
  .subst ar;have cj:=qQ (E.q.trans (R.E1 rfl));go_wp2_with fail;go_roundw
   case rel=>exact⟨k+1,by omega,by go_num,by rw[cj.q];exact j.q⟩
   case measure=>(simp[intOf]<;>omega)
  have bd:(d == 1)=false:=by simpa using ar
  have Y:=qQ ar;clear ar;cases S:R.eK v k with
  | nil =>
   rw[S]at j E;have cj:=qQ (E.q.trans (R.CU Y.q));have aN:=qQ S;clear S;obtain⟨aH,co,rfl⟩:∃aH co,u3=.slice aH 0 co:=by
    rcases j.q.own.2 with ⟨h,_⟩ | ⟨g,cap,cur,h,_⟩
    .exact⟨_,_,h⟩
    exact⟨_,_,h⟩
   go_wp2_with fail
   go_quiet (fail)
   have tU:=qQ (zV j.q.below nq);have nS:=qQ (ai.pO j.q.own nq);generalize BC:D.drewN nq=W2 at *;refine VV ?_;intro y9 sM G';clear BC ku fm U;go_wp2_with (at_builtin;refine kP _ rfl _ _ 199 rfl (w.heap.size+1) 206 i0 (.agg #[.int .i64 0,.int .i64 0]) 2 16 underlying199 hi a1 a2 a3 rfl (by decide) _ _ _ rfl (nS.q.alloc (.cells #[.int .i64 d,.int .i64 s] 206)) ⟨W2.heap.size,0,none⟩ 1 1 [.int .i64 d,.int .i64 s] rfl rfl (ai.B2 _ _ _ _) (ai.B3 _ _) (by unfold maxLen;simp) (by simp) (by simp;omega) ?_);intro v' ag nB c0 _;have cb:=qQ (show ai.mB (w.heap.size+1) bD v' (R.eK v (k+1)) ag from by
    rw[cj.q];exact ai.mB.more (st:=[]) nS.q tU.q y9 nB c0)
   exact ZU
  | cons y r =>
   obtain⟨n,t⟩:=y;rw[S]at j E aJ;have aN:=qQ S;have be:=aJ.q (n,t) (by simp);dsimp only at be;clear S;obtain⟨m,hm⟩:=gz r.length;obtain⟨g,co,hu,_,_⟩:=j.q.own.form (by simp);have Q:D.ownsRow (w.heap.size+1) 206 2 (.slice (some ⟨g,0,none⟩) (m+1) co) (m+1) (ai.ev (r.reverse++[(n,t)])):=by
    have h:=j.q.own;rw[xI,hu,qH,hm]at h;exact h
   rw[qH,hm]at hu;subst hu;have W:=ai.nW r n t;rw[hm]at W;have ap:=(Q.cellAt (m*2) (by omega)).trans W.1;have aq:=(Q.cellAt (m*2+1) (by omega)).trans W.2;have aU:=Q.frozenAt (m*2);have aV:=Q.frozenAt (m*2+1);have aL:=qQ Q;have eX:=qQ hm;have m1:=b2 m;have m2:(m:Int)<(m:Int)+1:=by omega
   have m3:(m:Int)+1<=7:=by have h:=R.tW v k;rw[aN.q,qH]at h;have a':=eX.q;omega
   clear W Q hm;by_cases N:t=d*s
   .have aW:(t == d*s)=true:=by simpa using N
    have a7:=qQ N;clear N;have cj:=qQ (E.q.trans (R.EZ Y.q a7.q));have bt:=R.ra (a:=n) (b:=d) (x:=65536) (y:=4096) (by omega) (by omega) (by omega) (by omega) (by omega);go_wp2_with fail
    go_quiet (fail)
    have nS:=qQ (ai.pO aL.q nq);have tU:=qQ (zV j.q.below nq);have g0:(D.drewN nq).cell? ⟨g,m*2,none⟩=some (.int .i64 n):=ap;have g1:(D.drewN nq).cell? ⟨g,m*2+1,none⟩=some (.int .i64 t):=aq;have sM:(D.drewN nq).cell? ⟨w.heap.size,2,none⟩=some (.slice (some ⟨hr,dN,none⟩) v.s.length c'):=ku;have G':(D.drewN nq).cell? ⟨hr,dN+k,none⟩=some (.int .i64 s):=fm;have g2:=nS.q.frozenAt (m*2);have g3:=nS.q.frozenAt (m*2+1);generalize D.drewN nq=W2 at nS tU g0 g1 g2 g3 sM G' |-;have bf:IntKind.i64.wrap (m:Int)=(m:Int):=qA _ (by omega);have bg:IntKind.i64.wrap (n*d)=n*d:=qA _ (by omega);clear ap aq aU aV ku fm U aW bd;go_wp2_with fail;refine fk (λw'=>w'.cell? ⟨g,m*2,none⟩=some (.int .i64 n)/\w'.cell? ⟨w.heap.size,2,none⟩=some (.slice (some ⟨hr,dN,none⟩) v.s.length c')/\w'.cell? ⟨hr,dN+k,none⟩=some (.int .i64 s)) 17 19 (⟨g0,sM,G'⟩) (λbc=>?_);simp only[qF,qG];refine aG 0 37 ?_;refine aG 1 38 ?_;refine aG 2 39 ?_;refine aG 3 40 ?_;refine aG 4 41 ?_;refine aG 5 42 ?_;refine aG 6 43 ?_;refine aG 7 44 ?_;refine aG 8 45 ?_;refine aG 9 46 ?_;refine aG 10 47 ?_;refine aG 11 48 ?_;refine aG 12 49 ?_;refine aG 13 50 ?_;refine aG 14 51 ?_;refine aG 15 52 ?_;refine aG 16 53 ?_;try simp only[Act.put,bj,bk,bl]
    refine eW [_,_] 17 [18] ?_;clear bc sM G' bf bg;go_wp2_with fail;have cb:=qQ (show ai.mB (w.heap.size+1) bD (.slice (some ⟨g,0,none⟩) (m+1) co) (R.eK v (k+1)) ((W2.setCell ⟨g,m*2,none⟩ (.int .i64 (n*d))).setCell ⟨g,m*2+1,none⟩ (.int .i64 s)).drew from by
     rw[cj.q];exact ai.mB.join nS.q eX.q tU.q)
    first
     | exact⟨⟨k+1,by omega,by go_num,cb.q⟩,by simp[intOf];omega⟩
     | (go_roundw
        case rel=>exact⟨k+1,by omega,by go_num,cb.q⟩
        case measure=>(simp[intOf]<;>omega))
   have aW:(t == d*s)=false:=by simpa using N
   have cj:=qQ (E.q.trans (R.E0 Y.q N));clear N;go_wp2_with fail
   go_quiet (fail)
   have tU:=qQ (zV j.q.below nq);have nS:=qQ (ai.pO aL.q nq);generalize BC:D.drewN nq=W2 at *;refine VV ?_;intro y9 sM G';clear BC ku fm U ap aq aU aV;go_wp2_with (at_builtin;refine kP _ rfl _ _ 199 rfl (w.heap.size+1) 206 i0 (.agg #[.int .i64 0,.int .i64 0]) 2 16 underlying199 hi a1 a2 a3 rfl (by decide) _ _ _ rfl (nS.q.alloc (.cells #[.int .i64 d,.int .i64 s] 206)) ⟨W2.heap.size,0,none⟩ 1 1 [.int .i64 d,.int .i64 s] rfl rfl (ai.B2 _ _ _ _) (ai.B3 _ _) (by unfold maxLen;omega) (by omega) (by simp;omega) ?_);intro v' ag nB c0 _;have cb:=qQ (show ai.mB (w.heap.size+1) bD v' (R.eK v (k+1)) ag from by
    have e:((n,t)::r).length=m+1:=by rw[qH,eX.q]
    rw[cj.q];exact ai.mB.more (st:=(n,t)::r) (O:=.slice (some ⟨g,0,none⟩) (m+1) co) (by rw[e,xI];exact nS.q) tU.q y9 (by rw[e,xI];exact nB) c0)
   exact ZU
 obtain rfl:k=v.I.length:=by omega
 go_wp2_with fail;go_ret;have M:=j.q;rw[R.Ax aQ.q]at M;exact⟨_,rfl,ai.EK M.own (xV _),X.q.trans (M.below.mono (xV _))⟩
end Go.Proofs.YtabmnaaidfpmcaaGreatDoor
end
