/-
  Walks. Conditions: as named.
-/
import Derived.Test.YtabmnaaidfpmcaaGreatDoorV18
import Derived.Deep.Cut
set_option linter.unusedVariables false
set_option maxRecDepth 100000
set_option maxHeartbeats 16000000
open Go.Proofs.Tryz
section
variable {a:Go.Act}{ops:Array Go.Oper}{d data l:List Int}{rest:List Go.Oper}{N base c eg g i n:Nat}{A D X:Option Go.Addr}{bm:Prop}{e:Go.TypeId}{bT v v':Go.Value}{bD w w':Go.World}
section
namespace Go.Proofs.YtabmnaaidfpmcaaGreatDoor
open Go.RowKit aS
theorem b4.fN.form{ls:List (List Int)}(h:b4.fN N w v ls):∃A c,v=.slice A ls.length c/\ls.length<=c/\c<=9223372036854775807:=by
 obtain⟨aR,q,r,-⟩:=h;have j:=r.1;rcases q.2 with ⟨i,m⟩ | ⟨g,cap,cur,i,x,B,y,hm,az,D⟩
 .exact⟨none,0,by rw[i,<-j,m],by omega,by omega⟩
 exact⟨_,cap,by rw[i,j],by omega,hm⟩
theorem Tryz.Ei:(Tryz.prog.info? 2).map (λi=>(i.zero,i.size,i.bytes))=some (some (.int .i64 0),1,8):=by kernel_rfl
theorem Tryz.B4:Tryz.prog.underlying 66=some (.slice 2):=by kernel_rfl
theorem al.Ky{o:Oper}{W:World}{Q:Exit->Act->World->Prop}{s x:Operand}{L:List Int}{y:Int}(E:W.ownsRow base 2 1 v n (ints L))(m:av W g 2 #[.int .i64 y])(N:n<=1099511627776)(q:base<=W.heap.size)(h:∀A c w',w'.ownsRow base 2 1 (.slice A (n+1) c) (n+1) (ints (L++[y]))->W.grownBy w' v.ownBlock->wpList Tryz.prog ops Q rest (a.put o.dst (.slice A (n+1) c)) w')(r:o.guard=none:=by exact rfl)(D:o.op=.call { callee:=.builtin .append,args:=#[s,x],argTypes:=#[66,66] }:=by exact rfl)(az:a.eval s=v:=by exact rfl)(I:a.eval x=.slice (some ⟨g,0,none⟩) 1 1:=by exact rfl):wpList Tryz.prog ops Q (o::rest) a W:=by
 obtain⟨i0,g1,g2,g3,g4⟩:=xQ Tryz.Ei;refine wV W r s x 66 D base 2 i0 (.int .i64 0) 1 8 Tryz.B4 g1 g2 g3 g4 rfl (by decide) v n (ints L) az E ⟨g,0,none⟩ 1 1 [.int .i64 y] I rfl (λj u hu=>by rw[jW,qI];exact m.at (by simpa using hu)) (by simp[Value.oneCell']) (by unfold maxLen;omega) (by omega) q ?_;intro v' w' i B _ M;obtain⟨A,c,rfl,_⟩:=ai.aZ i;exact h A c w' (by rw[ai.ec];exact i) B
theorem al.FJ(h:(R.size d).2=0):(ad.all d).length=(R.size d).1.toNat:=by
 obtain⟨-,-,z3,z4,z5⟩:=R.aB h;unfold ad.all;split
 .rename_i i;rw[i];rfl
 rw[zJ,vU,z3]
theorem al.Jx(hi:i<(ad.all d).length):(ad.all d)[i]=R.idx d (i:Int):=by
 have e:ad.all d=(List.range (R.prod d).toNat).map λ(p:Nat)=>R.idx d (p:Int):=by
  unfold ad.all at hi |-;split
  .rename_i j;rw[qY j]at hi;simp at hi
  rfl
 simp[e]
theorem al.GN(h:w.ownsRow base 2 1 v n (ints l)):af.aN w w.heap.size v l:=by
 have r:n=l.length:=by have:=h.1;rw[cn]at this;omega
 subst r;rcases h.2 with ⟨e,j⟩ | ⟨g,cap,cur,e,x,q,m,hm,az,y⟩
 .exact⟨none,0,by rw[e,j],λhp=>by omega,by omega,by omega⟩
 refine⟨some ⟨g,0,none⟩,cap,e,λhp=>⟨g,0,rfl,bC.eH q,λi hi=>?_⟩,m,hm⟩;have:=h.cells (g:=g) (by rw[e];rfl) i _ (ints_at l i hi)
 rwa [jW]at this
structure al.Dr (bD:World) (eg:Nat) (bT:Value) (data:List Int) (v:Value) (W:World):Prop where
 k:ch (· = eg) bD W
 o:W.ownsRow bD.heap.size 2 1 v data.length (ints data)
 b:av W eg 68 #[bT,v]
theorem al.Dr.below{W bg:World}(h:al.Dr bD eg bT data v W)(i:Below W.heap.size W bg):al.Dr bD eg bT data v bg :=
 ⟨h.k.trans (ch.of (U:=λ_=>False) i) (λn m=>m.elim),af.bq h.o (λg j=>i.block g (h.o.lt g j).2),h.b.go i⟩
theorem al.Dr.step{W cH:World}{x:Int}(h:al.Dr bD eg bT data v W)(r:eg<bD.heap.size)(how:cH.ownsRow bD.heap.size 2 1 v' (data.length+1) (ints (data++[x])))(j:W.grownBy cH v.ownBlock):al.Dr bD eg bT (data++[x]) v' (cH.setCell ⟨eg,1,none⟩ v'):=by
 have m:av cH eg 68 #[bT,v]:=h.b.grown j (λe=>by have:=(h.o.lt eg e.symm).1;omega);refine⟨(h.k.trans (ch.grown j) (λn i=>.inr (h.o.lt n i).1)).trans (ch.set cH ⟨eg,1,none⟩ v') (λn i=>.inl i),?_,?_⟩
 .rw[qW];exact af.bq how (λg q=>qN _ _ _ _ (λe=>by have:=(how.lt g q).1;have mK:g=eg:=e;omega))
 have:=m.bs 1 v';simpa using this
theorem al.yl(aM:Value)(op:J.Op)(G:Option Addr)(b7:Nat)(args:List ad.ay)(out:List Int)(B:Nat)(w:World)(ah:B<=w.heap.size)(co:af.bd w B aM op)(U:al.bo w B G args)(cx:af.cJ op)(ar:J.I op (args.map (·.I))=(out,0))(Q:∀a∈args,ad.cO a)(dr:args.length<=8388608):Calls Tryz.prog 52 #[aM,.slice G args.length b7] w λe w'=>∃v,e=.returned (.tuple #[v,.int .i64 0])/\al.a1 w' w'.heap.size v (ad.aX op args)/\Below w.heap.size w w':=by
 have bY:=qQ (co.bI ah);have bV:=qQ (U.bI ah);obtain⟨aQ,-,b9⟩:=ae.cv ar;rw[zJ]at aQ;obtain⟨v1,v2,v3,v4,v5,rfl,-⟩:=co;obtain⟨N,dM,cG,ba,dX⟩:=b8 w 58 #[.int .i64 op.k,v1,v2,v3,v4,v5,.int .i64 op.v];obtain⟨ak,dL,cL,bh,dY⟩:=b8 N 68 #[.slice none 0 0,.slice none 0 0];obtain⟨cT,b3,a8⟩:=aK (aA ba bh) ba.size (qZ (cG.go bh) cL);have b1:=qQ (by
  have h:=af.tJ op.k v1 v2 v3 v4 v5 (.int .i64 op.v) args.length ak
  rwa [aQ]at h)
 have O:=qQ (qZ Q (qZ ar (qZ cx b9)));have br:=λi=>a8.q.1.cell i
 obtain⟨n,bD⟩:=gz args.length;have S:=qQ (qZ bD True.intro);rw[bD]at dr b1 |-;clear U Q ar cx aQ b9 cG cL ba bh bD dX dY;go_enter func52,ntmps52;go_wp2_with (with_reducible refine b1.q.mono ?_)
 first | rintro e ag rfl aR | rintro e ag ⟨rfl,aR⟩
 have bQ:=qQ (aA cT.q aR);have bW:=qQ (qZ (a8.q.1.go aR) (a8.q.2.go aR));have dT:=bQ.q.size;clear aR br dM dL;go_wp2_with fail;go_loopw [7,9,10,26] (λv _ _ Z wr=>∃k:Nat,Z=.int .i64 (k:Int)/\k<=n/\Below ag.heap.size ag wr/\b4.fN ag.heap.size wr v ((args.take k).map (·.I))) (λ_ _ _ Z _=>n-(intOf Z).toNat)
 case atStart=>exact⟨0,rfl,by omega,qK _ _,b4.fN.nil _ _⟩
 obtain⟨k,rfl,dH,aW,bG⟩:=hrel;have a6:=qQ aW;have V:=qQ (bQ.q.trans (aW.mono dT));have bM:=aW.size;obtain⟨a4,cu,aU,dz,dJ⟩:=bG.form;have cm:((args.take k).map (·.I)).length=k:=by rw[zJ,qM,S.q.1];omega
 rw[cm]at aU dz;subst aU;have bg:=qQ bG;clear bG aW cm;by_cases cl:k<n
 .have az:k<args.length:=by have:=S.q.1;omega
  obtain⟨fI,fM,rfl,-,ci⟩:=bV.q wr V.q (by omega);obtain⟨D,cD,X,dl,ei,ej,bn⟩:=ci k az;have Q:=O.q.1 _ (qP az);have dg:=qQ (show(args.take (k+1)).map (·.I)=(args.take k).map (·.I)++[args[k].I] by rw[qD az,zI];rfl);generalize args[k]=a at *;obtain⟨aC,eh,bO,aq,-⟩:=b8 wr 68 #[.slice D a.I.length cD,.slice X a.e.length dl];have cU:=qQ aq;have c':=qQ bO;have dw:=λi=>bO.cell i
  have cP:=qQ ((bn.below aq).up aq.size);have di:=qQ (by
   have h:=al.q2 _ a aC.heap.size aC (qX _) ((bn.below aq).up aq.size)
   rwa [ad.w1 Q]at h)
  have dV:=b2 k;have dW:(k:Int)<n:=by omega
  clear ci bn Q bO aq;go_wp2_with (with_reducible refine di.q.mono ?_)
  first | rintro e aw rfl M | rintro e aw ⟨rfl,M⟩
  have aG:=qQ (aA cU.q M);have dx:=λi=>(c'.q.go M).cell i
  obtain⟨aV,a2,bK,cA⟩:=bg.q.below aG.q;have ec:aV.length<=8388608:=by have:=bK.1;rw[this,zJ,qM,S.q.1];omega
  obtain⟨E,a3,aB,cq,-⟩:=b8 aw 23 #[.slice D a.I.length cD];have cz:E.ownsRow ag.heap.size 23 1 (.slice a4 k cu) aV.length aV:=af.bq a2 (λg U=>cq.block g (a2.lt g U).2);obtain⟨bc,bZ,dh⟩:=aK cz (cA.c9 (w':=E) (λg U=>cq.block g (a2.lt g U).2)) ((bK.below cq).up cq.size);have c7:=qQ (show af.aN E E.heap.size (.slice D a.I.length cD) a.I from by
   have h:=((cP.q.below M).up M.size).parts;exact⟨D,cD,rfl,(h.1.below cq).up cq.size,h.2.2.1⟩)
  have bR:=qQ (aA aG.q cq);have cf:=aB.cell 0;have cF:ag.heap.size<=E.heap.size:=qJ bM bR.q.size;obtain⟨i0,g1,g2,g3,g4⟩:=xQ Tryz.k1;clear M cq a2 cz bK cA aB;go_wp2_with (at_builtin;refine l7 _ rfl _ _ 52 rfl ag.heap.size 23 i0 (.slice none 0 0) 24 underlying52 g1 g2 g3 g4 rfl (.slice a4 k cu) aV.length aV rfl bc.q ⟨aw.heap.size,0,none⟩ 1 (.slice D a.I.length cD) rfl cf rfl (by unfold maxLen;omega) (by omega) cF b4.l3 bZ.q ⟨_,_,_,rfl⟩ (by intro u hu;simp[Value.cells]at hu;exact⟨_,_,_,hu⟩) ?_);intro v' cH how bA dO cp;have cZ:=qQ ((a6.q.trans (bR.q.mono bM)).grown bA cF (λg U=>(bc.q.lt g U).1));have b0:=qQ (b4.fN.push bc.q dh.q bZ.q c7.q how bA cp);rw[<-dg.q]at b0;clear how bA dO cp dx cf dw;go_wp2_with fail;go_roundw
  case rel=>exact⟨k+1,by go_num,by omega,cZ.q,b0.q⟩
  case measure=>simp[intOf];omega
 have cl:n=k:=by omega
 subst cl;have cy:(args.take n).map (·.I)=args.map (·.I):=by rw[qT (by have:=S.q.1;omega)]
 rw[cy]at bg;have c3:=qQ (by
  have h:=af.ve _ op a4 cu (args.map (·.I)) wr.heap.size wr (qX _) O.q.2.2.1 (by rw[zJ,S.q.1];omega) (by rw[zJ,S.q.1];omega) dJ (bY.q wr V.q) (bg.q.lists)
  rwa [O.q.2.1,zJ,S.q.1]at h)
 have a':=qQ (qZ (bW.q.1.go a6.q) (bW.q.2.go a6.q));have br:=λi=>a'.q.1.cell i
 obtain⟨cM,dP⟩:∃cM:World,cM=wr:=⟨_,rfl⟩;subst dP;clear cy;go_wp2_with (with_reducible refine c3.q.mono ?_);rintro e aw ⟨v,rfl,⟨j,r,rfl,io,lo,bP⟩,M⟩;obtain⟨aG,ap,bf⟩:=aK (aA V.q M) (qZ (a'.q.1.go M) (a'.q.2.go M)) (qZ io (qZ lo bP));obtain⟨d1,dR,aD,b6,-⟩:=b8 aw 68 #[.slice none 0 0,.slice none 0 0];obtain⟨E,a3⟩:=gz ((d1.setCell ⟨aw.heap.size,0,none⟩ (.slice j out.length r)).setCell ⟨aw.heap.size,1,none⟩ (.slice none 0 0));have aB:av E aw.heap.size 68 #[.slice j out.length r,.slice none 0 0]:=by rw[<-a3];exact(aD.bs 0 _).bs 1 _
 have cq:Below aw.heap.size aw E:=by
  rw[<-a3];exact(b6.setCell (p:=⟨aw.heap.size,0,none⟩) (qX _) _).setCell (p:=⟨aw.heap.size,1,none⟩) (qX _) _
 have dA:=λi=>aD.cell i
 have dC:=λi=>aD.frozen i
 have dB:=λi=>(aD.bs 0 (.slice j out.length r)).cell i
 have dE:=λi=>(aD.bs 0 (.slice j out.length r)).frozen i
 obtain⟨cW,a9,c1,cQ⟩:=cV cq aB (aA aG.q cq) (al.HX j r out E.heap.size E lo bP O.q.2.2.2 (qX _) ((io.below cq).up cq.size));have dv:=λi=>aB.cell i
 clear M io lo bP aB cq br aD b6;go_wp2_with (with_reducible refine cQ.q.mono ?_);rintro e aF ⟨d2,d5,rfl,b',aT⟩;obtain⟨cY,c5,a5⟩:=aK (aA c1.q aT) b' (aA cW.q aT);obtain⟨bX,Y,c2⟩:=aK (qZ (ap.q.1.go a5.q) (ap.q.2.go a5.q)) (show aw.heap.size<E.heap.size/\E.heap.size<=aF.heap.size/\w.heap.size<=aw.heap.size from⟨a9.q.lt,aT.size,aG.q.size⟩) (show al.Dr aF aw.heap.size (.slice j out.length r) [] (.slice none 0 0) aF from⟨ch.of (qK _ _),⟨rfl,.inl ⟨rfl,rfl⟩⟩,a9.q.go aT⟩);have dp:=al.ky O.q.2.2.2;obtain⟨m,hm⟩:=gz ((ad.all out).length);obtain⟨db,bb,c6⟩:=aK (qZ hm True.intro) (qZ (show m=(R.size out).1.toNat by rw[<-hm];exact al.FJ O.q.2.2.2) True.intro) (λi (hi:i<(ad.all out).length)=>show(ad.all out)[i]=R.idx out (i:Int)from al.Jx hi);rw[hm]at dp |-;clear aT b' hm dv dA dC dB dE a3 dR;go_wp2_with fail;go_loopw [14,15,57] (λ_ _ Z wr=>∃(k:Nat) (v:Value),Z=.int .i64 (k:Int)/\k<=m/\al.Dr aF aw.heap.size (.slice j out.length r) ((List.range k).map λ(p:Nat)=>ad.entry op args (R.idx out (p:Int)) p) v wr) (λ_ _ Z _=>m-(intOf Z).toNat)
 case atStart=>exact⟨0,_,rfl,by omega,c2.q⟩
 obtain⟨k,v,rfl,dH,y⟩:=hrel;obtain⟨DA,dc,aU,bu,bt,bw⟩:=al.GN y.o;rw[zJ,vU]at aU;subst aU;obtain⟨a7,V,da⟩:=aK y (show Below w.heap.size w wr from cY.q.trans (y.k.below (λb aE=>by have e:b=aw.heap.size:=aE;have:=Y.q;omega) (by have:=Y.q;omega))) (show av wr w.heap.size 58 #[.int .i64 op.k,v1,v2,v3,v4,v5,.int .i64 op.v]from y.k.aL bX.q.1 (λe=>by have mK:w.heap.size=aw.heap.size:=e;have:=ap.q.1.lt;omega));have bM:=y.k.size;by_cases cj:k<m
 .have az:k<(ad.all out).length:=by have:=db.q.1;omega
  obtain⟨be,rfl,d6,dt,cg⟩:=c5.q (by omega);obtain⟨d0,cB,bB⟩:=cg k az;rw[c6.q k az]at bB;have cC:=(y.k.block be dt (λe=>by have mK:be=aw.heap.size:=e;have:=Y.q;omega));have cE:wr.cell? ⟨be,k,none⟩=some d0:=by rw[<-cB];simp only[World.cell?,cC]
  have dG:=(bC.gP.kept bB y.k (λb aE e=>by have mK:b=aw.heap.size:=e;have:=Y.q;omega)).gB;have aZ:=ad.Cx O.q.2.2.2 (p:=k) (by have:=bb.q.1;omega);have dF:=R.bN aZ;obtain⟨dj,dZ,rfl,bH,bJ,dK⟩:=dG;obtain⟨t,a0⟩:=gz (R.idx out (k:Int));have d3:=qQ (qZ a0 True.intro);rw[a0]at bH bJ cE aZ;have bU:=qQ (λW (c:Below wr.heap.size wr W)=>by
   have h:=al.DU (.agg #[.int .i64 op.k,v1,v2,v3,v4,v5,.int .i64 op.v]) op G b7 args dj dZ t k out W.heap.size W (qX _) (bY.q W (aA V.q c)) (bV.q W (aA V.q c)) ((bH.below c).up c.size) bJ O.q.2.1 O.q.1 aZ (by have:=bb.q.1;omega) (by have:=S.q.1;omega)
   rwa [S.q.1]at h)
  obtain⟨x,bL⟩:=gz (ad.entry op args t k);rw[bL]at bU;have b5:=qQ (show(List.range (k+1)).map (λ(p:Nat)=>ad.entry op args (R.idx out (p:Int)) p)=(List.range k).map (λ(p:Nat)=>ad.entry op args (R.idx out (p:Int)) p)++[x] by
   rw[kE,zI,qE,zU,a0,bL])
  have bv:((List.range k).map λ(p:Nat)=>ad.entry op args (R.idx out (p:Int)) p).length=k:=by rw[zJ,vU]
  obtain⟨L,cd⟩:∃L,(List.range k).map (λ(p:Nat)=>ad.entry op args (R.idx out (p:Int)) p)=L:=⟨_,rfl⟩;rw[cd]at a7 b5 bv;have bT:=qQ (qZ bv True.intro);have dV:=b2 k;have dW:(k:Int)<m:=by omega
  clear y bu bt bw cg cB bB cC aZ dF bH bJ dK a0 bL cd bv;go_wp2_with fail;clear cE;have aJ:=λW (c:Below wr.heap.size wr W)=>qZ (λi=>(da.q.go c).cell i) (λi=>((a7.q.b).go c).cell i)
  refine aH (l:=[_,_,_]) [(0,62,[]),(1,63,[0]),(2,64,[]),(3,65,[]),(4,66,[]),(5,67,[]),(6,68,[2,3,4,5]),(7,69,[6])] [8,9,10] [.eq _,.eq _,.eq _,.eq _,.eq _,.eq _,.eq (.int .i64 x),.row wr.heap.size 2 1 #[.int .i64 x]]
   (λW=>Below wr.heap.size wr W) (qK _ _).drew ((fr)<|(fr)<|(fr)<|(fr)<|(fr)<|(fr)<|cr ?_<|cr ?_<|fg) ?_ (λ_ _ h dm=>aA h dm)
  .intros;rename_i K aI;subst_vars;have a_:=(show Below wr.heap.size wr _ by assumption);go_simp;with_reducible refine(bU.q _ a_).mono ?_
   exact JQ
  .exact ZT
  intros;rename_i W a_ _ _ _ _ _ _ _ h;subst_vars;obtain⟨g,rfl,U,cK⟩:=h;have aO:=qQ (a7.q.below a_);have df:=qQ (show W.ownsRow aF.heap.size 2 1 (.slice DA k dc) k (ints L) by have h:=aO.q.o;rwa [bT.q.1]at h);have dU:aF.heap.size<=W.heap.size:=aO.q.k.size;clear aJ a_;simp only[wK,zY,jB];refine al.Ky df.q cK (by omega) dU ?_;intro cN dk cH cn bz;have bS:=qQ (aO.q.step (v':=.slice cN (k+1) dk) (x:=x) (by have:=a9.q.lt;have:=Y.q;omega) (by rw[bT.q.1];exact cn) bz);rw[<-b5.q]at bS;have bp:=(aO.q.b.grown bz (λe=>by have:=(aO.q.o.lt _ e.symm).1;have:=Y.q;omega));have d7:=λi=>bp.cell i
  have d':=λi=>bp.frozen i
  clear cn bz cK bp;go_wp2_with fail;go_roundw
  case rel=>exact⟨k+1,_,by go_num,by omega,bS.q⟩
  case measure=>simp[intOf];omega
 have cj:m=k:=by omega
 subst cj;have aP:=qQ (show av wr N.heap.size 68 #[.slice none 0 0,.slice none 0 0]from y.k.aL bX.q.2 (λe=>by have mK:N.heap.size=aw.heap.size:=e;have:=ap.q.2.lt;omega));have dn:((List.range m).map λ(p:Nat)=>ad.entry op args (R.idx out (p:Int)) p).length=m:=by rw[zJ,vU]
 have c4:=qQ (show ad.aX op args=⟨out,(List.range m).map λ(p:Nat)=>ad.entry op args (R.idx out (p:Int)) p⟩ by
  unfold ad.aX;rw[O.q.2.1];dsimp only;rw[<-bb.q.1])
 have dS:=Y.q;have dI:=ap.q.2.lt;have bE:∀b off,j=some ⟨b,off,none⟩->0<out.length->b≠N.heap.size:=λb off e hp aE=>by
  subst aE;obtain⟨d4,l4,mK,-,du⟩:=bf.q.1 hp;rw[e]at mK;simp only[zZ,kD,xD]at mK;have bm:=du 0 hp;rw[<-mK.1,ap.q.2.cell]at bm;simp only[qL]at bm;rcases l4 with _ | _ | l4<;>simp at bm
 have bF:∀b off,DA=some ⟨b,off,none⟩->0<((List.range m).map λ(p:Nat)=>ad.entry op args (R.idx out (p:Int)) p).length->b≠N.heap.size:=λb off e hp aE=>by
  subst aE e;have:=(y.o.lt N.heap.size rfl).1;omega
 obtain⟨wf,Q⟩:=gz ((wr.setCell ⟨N.heap.size,0,none⟩ (.slice j out.length r)).setCell ⟨N.heap.size,1,none⟩ (.slice DA m dc));have ca:ai.ao wf wf.heap.size j out:=by
  rw[<-Q];have aQ:=(bf.q.1.below a5.q).below (y.k.below (B:=aw.heap.size) (λb aE=>by have e:b=aw.heap.size:=aE;omega) (by omega));exact((aQ.set bE _ _).set bE _ _).up (by simp[World.setCell];omega)
 have cb:ai.ao wf wf.heap.size DA ((List.range m).map λ(p:Nat)=>ad.entry op args (R.idx out (p:Int)) p):=by
  rw[<-Q];exact((bu.set bF _ _).set bF _ _).up (by simp[World.setCell])
 have b_:Below w.heap.size w wf:=by
  rw[<-Q];exact(V.q.setCell (p:=⟨N.heap.size,0,none⟩) b3.q _).setCell (p:=⟨N.heap.size,1,none⟩) b3.q _
 have cI:av wf N.heap.size 68 #[.slice j out.length r,.slice DA m dc]:=by rw[<-Q];exact(aP.q.bs 0 _).bs 1 _
 have c_:=qQ (show al.a1 wf wf.heap.size (.agg #[.slice j out.length r,.slice DA m dc]) (ad.aX op args)from by
  rw[c4.q];exact⟨j,r,DA,dc,by simp,ca,cb,bf.q.2,bt,bw⟩)
 have c0:=qQ b_;have d8:=λi=>y.b.cell i
 have d9:=λi=>aP.q.cell i
 have ea:=λi=>aP.q.frozen i
 have d_:=λi=>(aP.q.bs 0 (.slice j out.length r)).cell i
 have eb:=λi=>(aP.q.bs 0 (.slice j out.length r)).frozen i
 have dy:=λi=>cI.cell i
 clear ca cb b_ bE bF y bu bt bw dn cI dI dS;go_wp2_with fail;refine qR (v:=.tuple #[.agg #[.slice j out.length r,.slice DA m dc],.int .i64 0]) (by simp[results,results52,go_sem,dy]) rfl ⟨_,rfl,c_.q,c0.q⟩
end Go.Proofs.YtabmnaaidfpmcaaGreatDoor
end
section
namespace aS
open Go Go.RowKit
section
variable {P:Program} (w:World)
theorem B6{z:Array Value}{q:Value->Prop}{jn:Nat}(m:∀u∈z.toList,q u)(x:z.size=jn)(r:0<jn)(k:Nat):∀u∈(Builtin.zeroCells z k).toList,q u:=λu hu=>by
 unfold Builtin.zeroCells at hu;simp only[Array.toList_map,List.mem_map]at hu;obtain⟨j,_,rfl⟩:=hu;apply m;have i:j % z.size<z.size:=Nat.mod_lt _ (by omega);rw[getElem!_pos z _ i];exact Array.mem_toList_iff.2 (Array.getElem_mem _)
theorem A5(base:Nat)(t ty e:TypeId)(i:TypeInfo)(z:Value)(jn bytes:Nat)(U:P.underlying t=some (.slice e))(hi:P.info? e=some i)(ah:i.zero=some z)(S:i.size=jn)(W:i.bytes=bytes)(ak:z.cells.size=jn)(O:0<jn)(v:Value)(n:Nat)(xs:List Value)(N:w.ownsRow base e jn v n xs)(a:Addr)(c:Nat)(dQ:List Value)(Z:dQ.length=jn)(M:∀j u,dQ[j]?=some u->w.cell? (a.add j)=some u)(ap:∀u∈dQ,u.oneCell'=true)(aD:(n+1)*jn<=maxLen)(ao:(n+1)*bytes<=140737488355328)(aE:base<=w.heap.size)(q:Value->Prop)(hq:gm w v q)(ag:∀u∈dQ,q u)(aq:∀u∈z.cells.toList,q u):∃v' w',(Builtin.append_ #[t,t] ty #[v,.slice (some a) 1 c]).run P w=.ok v' w'/\w'.ownsRow base e jn v' (n+1) (xs++dQ)/\w.grownBy w' v.ownBlock/\(v'.ownBlock=v.ownBlock\/v'.ownBlock=some w.heap.size)/\gm w' v' q:=by
 have hle:n+1<=(n+1)*jn:=Nat.le_mul_of_pos_right _ O;obtain⟨v',w',Q,aA,aB,_,aC⟩:=pZ (P:=P) w base t ty e i z jn bytes U hi ah S W ak O v n xs N a 1 c dQ (by rw[Z,Nat.one_mul]) M ap (by omega) ao aE;refine⟨v',w',Q,aA,aB,aC,?_⟩;have aL:n+1<=9223372036854775807:=by simp only[maxLen]at aD;omega
 have Y:dQ.length=1*i.size:=by rw[S,Z,Nat.one_mul]
 rcases N.2 with ⟨rfl,rfl⟩ | ⟨g,cap,cur,rfl,aI,D,aK,aJ,aF,aH⟩
 .have r:=run_append_nil (P:=P) w t ty e i z U hi ah a 1 c dQ Y M (by omega) (by omega) (by rw[W];omega);rw[Q]at r;injection r with x y
  subst x y;intro g D cs az f m u hu;have E:g=w.heap.size:=by simpa[Value.ownBlock]using D.symm
  subst E;rw[show(w.drew.alloc (.cells (dQ.toArray++Builtin.zeroCells z.cells (grownCap w 1 0 e-1)) e)).heap[w.heap.size]?=some (.cells (dQ.toArray++Builtin.zeroCells z.cells (grownCap w 1 0 e-1)) e (0,0))from kJ w.drew _]at m;injection m with m
  injection m with B
  subst B;rw[yL]at hu;rcases List.mem_append.1 hu with hu | hu
  .exact ag u (by simpa using hu)
  exact B6 aq ak O _ u hu
 have X:∀u∈cur.toList,q u:=hq g rfl cur e (0,0) D;by_cases av:n+1<=cap
 .have aG:n*i.size+dQ.length<=cur.size:=by
    rw[aF,S,Z];have:=Nat.mul_le_mul_right jn av;rw[Nat.add_mul,Nat.one_mul]at this;exact this
  have r:=run_append_room (P:=P) w t ty e i U hi g n cap cur D a 1 c dQ Y M ap av aG;rw[Q]at r;injection r with x y
  subst x y;intro I E cs az f m u hu;have V:I=g:=by simpa[Value.ownBlock]using E.symm
  subst V;rw[setRow_heap w I cur _ e _ D]at m;injection m with m
  injection m with B
  subst B;simp only[vR]at hu;rcases hu with (hu | hu) | hu
  .exact X u (xN hu)
  .exact ag u (by simpa using hu)
  exact X u (jN hu)
 have holds:∀j u,xs[j]?=some u->w.cell? ((⟨g,0,none⟩:Addr).add j)=some u:=N.cells (g:=g) rfl;have r:=run_append_grow (P:=P) w t ty e i z U hi ah ⟨g,0,none⟩ n cap xs (by rw[S];exact N.1) holds a 1 c dQ Y M (by omega) (by omega) (growslice_fits (by omega) (by rw[W];exact ao));rw[Q]at r;injection r with x y
 subst x y;intro I E cs az f m u hu;have V:I=w.heap.size:=by simpa[Value.ownBlock]using E.symm
 subst V;rw[show(w.drew.alloc (.cells (xs.toArray++dQ.toArray++Builtin.zeroCells z.cells (grownCap w (n+1) cap e-(n+1))) e)).heap[w.heap.size]?=some (.cells (xs.toArray++dQ.toArray++Builtin.zeroCells z.cells (grownCap w (n+1) cap e-(n+1))) e (0,0))from kJ w.drew _]at m;injection m with m
 injection m with B
 subst B;simp only[yL,vR]at hu;rcases hu with (hu | hu) | hu
 .exact X u (by rw[<-aH]at hu;exact xN (by simpa using hu))
 .exact ag u (by simpa using hu)
 exact B6 aq ak O _ u hu
theorem um{o:Oper}{Q:Exit->Act->World->Prop}(S:o.guard=none)(s x:Operand)(t:TypeId)(W:o.op=.call { callee:=.builtin .append,args:=#[s,x],argTypes:=#[t,t] })(base:Nat)(e:TypeId)(i:TypeInfo)(z:Value)(jn bytes:Nat)(ap:P.underlying t=some (.slice e))(hi:P.info? e=some i)(av:i.zero=some z)(ao:i.size=jn)(N:i.bytes=bytes)(aA:z.cells.size=jn)(Z:0<jn)(v:Value)(n:Nat)(xs:List Value)(az:a.eval s=v)(Y:w.ownsRow base e jn v n xs)(m:Addr)(c:Nat)(dQ:List Value)(V:dQ.length=jn)(aq:a.eval x=.slice (some m) 1 c)(U:∀j u,dQ[j]?=some u->w.cell? (m.add j)=some u)(X:∀u∈dQ,u.oneCell'=true)(E:(n+1)*jn<=maxLen)(O:(n+1)*bytes<=140737488355328)(M:base<=w.heap.size)(q:Value->Prop)(hq:gm w v q)(ag:∀u∈dQ,q u)(ah:∀u∈z.cells.toList,q u)(h:∀v' w',w'.ownsRow base e jn v' (n+1) (xs++dQ)->w.grownBy w' v.ownBlock->(v'.ownBlock=v.ownBlock\/v'.ownBlock=some w.heap.size)->gm w' v' q->wpList P ops Q rest (a.put o.dst v') w'):wpList P ops Q (o::rest) a w:=by
 refine wpList_plain S λ_ I=>?_
 obtain⟨v',w',ak,r,y,B,D⟩:=A5 (P:=P) w base t o.type e i z jn bytes ap hi av ao N aA Z v n xs Y m c dQ V U X E O M q hq ag ah;unfold Oper.wp execOp;simp only[W,resolve,invoke,builtin,uK,yH,kC,pW,qE,zU,az,aq,ak];exact I _ _ (h v' w' r y B D)
end
end aS
end
section
namespace Go.Proofs.YtabmnaaidfpmcaaGreatDoor
open Go.RowKit aS
theorem Tryz.BI:(Tryz.prog.info? 68).map (λi=>(i.zero,i.size,i.bytes))=some (some (.agg #[.slice none 0 0,.slice none 0 0]),2,48):=by kernel_rfl
theorem Tryz.sJ:Tryz.prog.underlying 26=some (.slice 68):=by kernel_rfl
namespace al
def de(N:Nat)(w:World)(v:Value)(l:List ad.ay):Prop:=∃aR:List Value,w.ownsRow N 68 2 v l.length aR/\gm w v b4.l3/\∀j (h:j<l.length),∃D c X x,aR[j*2]?=some (.slice D l[j].I.length c)/\aR[j*2+1]?=some (.slice X l[j].e.length x)/\a1 w w.heap.size (.agg #[.slice D l[j].I.length c,.slice X l[j].e.length x]) l[j]
theorem de.nil(N:Nat)(w:World):de N w (.slice none 0 0) []:=⟨[],⟨rfl,.inl ⟨rfl,rfl⟩⟩,λg i=>by simp[Value.ownBlock]at i,λj h=>by simp at h⟩
theorem de.below{N:Nat}{w w':World}{v:Value}{l:List ad.ay}(h:de N w v l)(i:Below w.heap.size w w'):de N w' v l:=by
 obtain⟨aR,m,r,y⟩:=h;refine⟨aR,af.bq m (λg q=>i.block g (m.lt g q).2),r.c9 (λg q=>i.block g (m.lt g q).2),λj B=>?_⟩;obtain⟨D,c,X,x,E,I,M⟩:=y j B;exact⟨D,c,X,x,E,I,(M.below i).up i.size⟩
theorem de.low{M:Nat}{l:List ad.ay}(h:de N w v l)(m:M<=N):de M w v l:=by
 obtain⟨aR,i,j⟩:=h;refine⟨aR,⟨i.1,i.2.imp id ?_⟩,j⟩;rintro⟨g,cap,cur,e,q,r⟩;exact⟨g,cap,cur,e,qJ m q,r⟩
theorem de.form{l:List ad.ay}(h:de N w v l):∃A c,v=.slice A l.length c/\l.length<=c/\c<=9223372036854775807:=by
 obtain⟨aR,m,-⟩:=h;rcases m.2 with ⟨i,j⟩ | ⟨g,cap,cur,i,q,x,r,hm,az,y⟩
 .exact⟨none,0,by rw[i,j],by omega,by omega⟩
 exact⟨_,cap,by rw[i],by omega,hm⟩
theorem de.hE{l:List ad.ay}(h:de N w (.slice A n c) l):bo w w.heap.size A l:=λhp=>by
 obtain⟨aR,j,O,r⟩:=h;obtain⟨g,cap,B,_,y⟩:=j.form (by omega);obtain rfl:A=some ⟨g,0,none⟩:=by injection B
 refine⟨g,0,rfl,y,λi hi=>?_⟩;obtain⟨D,c,X,x,E,I,M⟩:=r i hi;have m:=j.cells (g:=g) rfl _ _ E;have q:=j.cells (g:=g) rfl _ _ I;rw[jW]at m q;exact⟨D,c,X,x,m,by rw[kZ];exact q,M⟩
theorem tw{B:Nat}{aR:List Value}(h:ai.ao w B A l)(I:w.ownsRow N 68 2 v n aR)(hq:gm w v b4.l3)(y:w.grownBy w' v.ownBlock):ai.ao w' B A l:=λhp=>by
 obtain⟨b,off,rfl,x,q⟩:=h hp;have E:some b≠v.ownBlock:=λe=>by
  rcases I.2 with ⟨j,_⟩ | ⟨g,cap,cur,j,M,Im,O,hm,az,Q⟩
  .rw[j]at e;simp[Value.ownBlock]at e
  have r:b=g:=by rw[j]at e;simpa[Value.ownBlock]using e
  subst r;have bT:=q 0 hp;have ah:av w b 68 cur:=Im;exact Zt
 refine⟨b,off,rfl,x,λi hi=>?_⟩;have m:=q i hi;have D:b<w.heap.size:=by
  rcases jQ b w.heap.size with h | h
  .exact h
  simp[World.cell?,kH h]at m
 rw[<-m];simp only[World.cell?,y.block b D E]
theorem de.push{l:List ad.ay}{aR:List Value}{a:ad.ay}{x:Nat}(m:w.ownsRow N 68 2 v l.length aR)(q:gm w v b4.l3)(O:∀j (h:j<l.length),∃D c X x,aR[j*2]?=some (.slice D l[j].I.length c)/\aR[j*2+1]?=some (.slice X l[j].e.length x)/\a1 w w.heap.size (.agg #[.slice D l[j].I.length c,.slice X l[j].e.length x]) l[j])(Q:a1 w w.heap.size (.agg #[.slice D a.I.length c,.slice X a.e.length x]) a)(how:w'.ownsRow N 68 2 v' (l.length+1) (aR++[.slice D a.I.length c,.slice X a.e.length x]))(i:w.grownBy w' v.ownBlock)(hq:gm w' v' b4.l3):de N w' v' (l++[a]):=by
 have E:aR.length=l.length*2:=m.1;have B:∀{D X:Option Addr} {c x:Nat} {b:ad.ay},a1 w w.heap.size (.agg #[.slice D b.I.length c,.slice X b.e.length x]) b->a1 w' w'.heap.size (.agg #[.slice D b.I.length c,.slice X b.e.length x]) b:=λS=>by
  obtain⟨U,V,W⟩:=S.parts;exact⟨_,_,_,_,rfl,(tw U m q i).up i.size,(tw V m q i).up i.size,W⟩
 refine⟨_,by rw[qW];exact how,hq,λj r=>?_⟩;rw[qW]at r;by_cases y:j<l.length
 .obtain⟨D',c',oi,h',Y,Z,ag⟩:=O j y;rw[zR y];exact⟨D',c',oi,h',by rw[jX (by omega)];exact Y,by rw[jX (by omega)];exact Z,B ag⟩
 have e:j=l.length:=by simp at r;omega
 subst e;have M:(l++[a])[l.length]'(by simp)=a:=by simp
 rw[M];exact⟨D,c,X,x,by rw[zO (by omega),E,xB];rfl,by rw[zO (by omega),E,kF];rfl,B Q⟩
def Fi(N:Nat)(l:List ad.ay):aS.c8:=⟨λv w=>de N w v l,λi h=>h.below i⟩
end al
theorem _root_.XB{G:Prop}(h:G:=by
 simp only[xR,xP,vX]at hu;rcases hu with rfl | rfl<;>exact⟨_,_,_,rfl⟩
 ):G:=h
theorem al.rj{o:Oper}{W:World}{Q:Exit->Act->World->Prop}{s x:Operand}{l:List ad.ay}{b:ad.ay}{L6:Nat}(U:al.de N W v l)(y:av W g 68 #[.slice D b.I.length c,.slice X b.e.length L6])(B:al.a1 W W.heap.size (.agg #[.slice D b.I.length c,.slice X b.e.length L6]) b)(Y:l.length<=1099511627776)(E:N<=W.heap.size)(h:∀v' w',al.de N w' v' (l++[b])->W.grownBy w' v.ownBlock->(∀g,v.ownBlock=some g->N<=g)->wpList Tryz.prog ops Q rest (a.put o.dst v') w')(O:o.guard=none:=by exact rfl)(S:o.op=.call { callee:=.builtin .append,args:=#[s,x],argTypes:=#[26,26] }:=by exact rfl)(az:a.eval s=v:=by exact rfl)(V:a.eval x=.slice (some ⟨g,0,none⟩) 1 1:=by exact rfl):wpList Tryz.prog ops Q (o::rest) a W:=by
 obtain⟨aR,i,m,r⟩:=U;obtain⟨i0,g1,g2,g3,g4⟩:=xQ Tryz.BI;refine um W O s x 26 S N 68 i0 (.agg #[.slice none 0 0,.slice none 0 0]) 2 48 Tryz.sJ g1 g2 g3 g4 rfl (by decide) v l.length aR az i ⟨g,0,none⟩ 1 [.slice D b.I.length c,.slice X b.e.length L6] rfl V (λj u hu=>?_) (λu hu=>?_) (by unfold maxLen;omega) (by omega) E b4.l3 m (λu hu=>?_) (λu hu=>?_) (λv' w' how q _ hq=>h v' w' (al.de.push i m r B how q hq) q (λg M=>(i.lt g M).1))
 .rw[jW,qI];exact y.at (by simpa using hu)
 .simp only[xR,xP,vX]at hu;rcases hu with rfl | rfl<;>rfl
 .exact XB
 simp[Value.cells]at hu;exact⟨_,_,_,hu⟩
theorem al.at_one{B fI fM:Nat}{args:List ad.ay}(h:al.bo w B (some ⟨fI,fM,none⟩) args)(hi:i<args.length):∃D c X x,w.cell? ⟨fI,fM+i*2,none⟩=some (.slice D args[i].I.length c)/\w.cell? ⟨fI,fM+i*2+1,none⟩=some (.slice X args[i].e.length x)/\a1 w B (.agg #[.slice D args[i].I.length c,.slice X args[i].e.length x]) args[i]:=by
 obtain⟨b,off,e,-,dt⟩:=h (by omega);exact XA
theorem al.iL(G:Option Addr)(aT:Nat)(l:List ad.ay)(T:Option Addr)(aD:Nat)(i:List Int)(B:Nat)(w:World)(ah:B<=w.heap.size)(av:al.bo w B G l)(hi:ai.ao w B T i)(E:∀k∈i,0<=k/\k<(l.length:Int))(aV:i.length<=1099511627776):Calls Tryz.prog 33 #[.slice G l.length aT,.slice T i.length aD] w λe w'=>∃v,e=.returned v/\al.de w.heap.size w' v (i.map λ(k:Int)=>ad.nth l k.toNat)/\Below w.heap.size w w':=by
 obtain⟨Z,aR,aP⟩:=aK (av.bI ah) (hi.bI ah) E;obtain⟨n,N⟩:=gz i.length;obtain⟨m,hm⟩:=gz l.length;have r:=qQ (qZ N (qZ hm True.intro));rw[N]at aV;rw[N,hm];clear av hi E N hm;go_enter func33,ntmps33;go_wp2_with fail;go_loopw [5,7,10] (λv _ V wr=>∃k:Nat,V=.int .i64 (k:Int)/\k<=n/\Below w.heap.size w wr/\al.de w.heap.size wr v ((i.take k).map λ(k:Int)=>ad.nth l k.toNat)) (λ_ _ V _=>n-(intOf V).toNat)
 case atStart=>exact⟨0,rfl,by omega,qK _ _,al.de.nil _ _⟩
 obtain⟨k,rfl,a2,j,U⟩:=hrel;have Y:=qQ j;have O:=qQ U;have a6:=j.size;have aE:((i.take k).map λ(k:Int)=>ad.nth l k.toNat).length=k:=by rw[zJ,qM,r.q.1];omega
 obtain⟨aL,cu,aH,-⟩:=U.form;rw[aE]at aH;subst aH;clear U;by_cases aB:k<n
 .have S:k<i.length:=by have:=r.q.1;omega
  obtain⟨a1,a7,rfl,-,aG⟩:=aR.q wr j (by omega);have aX:=aG k S;have E:=aP.q _ (qP S);have ak:=qQ (qD S);generalize i[k]=aJ at aX E ak;obtain⟨q,rfl⟩:∃q:Nat,aJ=(q:Int):=⟨aJ.toNat,by omega⟩;have aC:q<l.length:=by omega
  have a4:(q:Int)<(m:Int):=by have:=r.q.2.1;omega
  obtain⟨fI,fM,rfl,-,-⟩:=Z.q wr j (by omega);obtain⟨D,c,X,x,aZ,a0,aq⟩:=al.at_one (Z.q wr j) aC;have y:=qQ (show(i.take (k+1)).map (λ(k:Int)=>ad.nth l k.toNat)=(i.take k).map (λ(k:Int)=>ad.nth l k.toNat)++[l[q]] by
   rw[ak.q,zI,qE,zU];simp[ad.nth,aC])
  generalize l[q]=a at aZ a0 aq y;have i1:=b2 k;have i2:(k:Int)<n:=by omega
  have i3:=b2 q;clear aG j E aE;obtain⟨M,Q⟩:∃M,(i.take k).map (λ(k:Int)=>ad.nth l k.toNat)=M:=⟨_,rfl⟩;have aU:M.length=k:=by rw[<-Q,zJ,qM,r.q.1];omega
  have a3:M.length<=1099511627776:=by omega
  rw[Q]at O y;clear Q aU;obtain⟨a8,a5,aI,cq,-⟩:=b8 wr 68 #[.slice D a.I.length c,.slice X a.e.length x];obtain⟨W,aQ,aN⟩:=aK (aA Y.q cq) (O.q.below cq) ((aq.below cq).up cq.size);have aW:=W.q.size;clear cq;go_wp2_with (at_builtin;refine al.rj aQ.q aI aN.q (by first | omega | (simp;omega)) (by omega) ?_);intro v6 cH aF az ap;have aO:=qQ (W.q.grown az aW ap);have ag:=qQ aF;clear aF az ap aI;rw[<-y.q]at ag;go_wp2_with fail;go_roundw
  case rel=>exact⟨k+1,by go_num,by omega,aO.q,ag.q⟩
  case measure=>simp[intOf];omega
 have aB:n=k:=by omega
 subst aB;have y:=qQ (show al.de w.heap.size wr (.slice aL n cu) (i.map λ(k:Int)=>ad.nth l k.toNat) by
  have h:=O.q
  rwa [qT (by have:=r.q.1;omega)]at h)
 go_wp2_with fail;go_ret;exact⟨_,rfl,y.q,Y.q⟩
end Go.Proofs.YtabmnaaidfpmcaaGreatDoor
end
section
namespace ae
open J (Node)
open ad (ay nth cO aX)
theorem fQ.step{P:List ay}{N:List Node}{D:List (List Int)}(h:fQ P N D)(hi:i<N.length)(q:P.length<=i):J.ahead i N[i].a=true/\J.I N[i].o ((aR P N N[i].a).map (·.I))=(D.getD i [],0)/\(∀a∈aR P N N[i].a,cO a)/\nth (values P N) i=aX N[i].o (aR P N N[i].a):=by
 have m:=h.l1.2 i hi;have j:=ig m;have r:J.ahead N.length N[i].a=true:=by
  unfold J.ahead at j |-;refine List.all_eq_true.2 λa hm=>?_
  have:=List.all_eq_true.1 j a hm;simp only[qB,xZ]at this |-;omega
 rw[jx (h.rest i hi q) j (by rw[h.l1.1];omega),h.args r]at m;refine⟨j,m,λa hm=>?_,oa hi q j⟩;obtain⟨k,x,rfl⟩:=List.mem_map.1 hm;exact h.wf _ (bP r x).2
end ae
namespace Go.Proofs.YtabmnaaidfpmcaaGreatDoor
open Go.RowKit aS
theorem al.Ai{l:List ad.ay}{k:Nat}(h:k<l.length):l.take (k+1)=l.take k++[ad.nth l k]:=by
 rw[qD h];simp[ad.nth,h]
theorem _root_.Jz{G:Prop}(r:bm)(f:dS bm->G:=by
 intro bb;have Bc:=qQ Gl;have Be:=qQ ((Hw.below eg).up eg.size);have eb:=qQ (show af.bd gy gy.heap.size (.agg #[.int .i64 x.o.k,.slice rq x.o.I.length cy,.slice dp x.o.a.length bE,.slice sN x.o.l.length hs,.slice sO x.o.h.length tf,.slice sP x.o.s.length p1,.int .i64 x.o.v]) x.o from
  (af.bd.below (w:=wr) ⟨_,_,_,_,_,rfl,ni.q.1,ni.q.2.1,ni.q.2.2.1,ni.q.2.2.2.1,ni.q.2.2.2.2.1⟩ eg).up eg.size)
 have Ed:=λi=>Gl.cell i
 have HC:=gR.q.size;revert Bc Be eb Ed HC;exact bb.o
 ):G:=f ⟨r⟩
theorem _root_.Ja{G:Prop}(r:bm)(f:dS bm->G:=by
 intro bb;have i1:=b2 k;have i2:(k:Int)<n:=by omega
 obtain⟨gy,HB,Gl,eg,-⟩:=b8 wr 60 #[.int .i64 x.o.k,.slice rq x.o.I.length cy,.slice dp x.o.a.length bE,.slice sN x.o.l.length hs,.slice sO x.o.h.length tf,.slice sP x.o.s.length p1,.int .i64 x.o.v,.slice w7 x.a.length xa];have gR:=qQ (aE.trans (eg.mono Lw));revert i1 i2 gy HB Gl eg gR;exact bb.o
 ):G:=f ⟨r⟩
theorem al.mx(A:Option Addr)(bT:Nat)(nodes:List J.Node)(G:Option Addr)(bU:Nat)(args:List ad.ay)(a4:List (List Int))(B:Nat)(w:World)(ah:B<=w.heap.size)(bk:b4.eJ w B A nodes)(bg:al.bo w B G args)(be:ae.fQ args nodes a4)(bp:∀x∈nodes,af.cJ x.o/\x.a.length<=4194304)(b3:nodes.length<=1099511627776):Calls Tryz.prog 31 #[.slice A nodes.length bT,.slice G args.length bU] w λe w'=>∃v,e=.returned v/\al.de w.heap.size w' v (ae.values args nodes)/\Below w.heap.size w w':=by
 obtain⟨a6,bM,bK,bR⟩:=cV (bg.bI ah) (bk.bI ah) be bp;obtain⟨n,aC⟩:=gz nodes.length;obtain⟨p,hp⟩:=gz args.length;obtain⟨V,aJ⟩:=gz (ae.values args nodes);have ag:=qQ (qZ aC (qZ hp (qZ aJ True.intro)));have kr:=qQ (show V.length=n by rw[<-aJ,ae.db,aC]);rw[aC]at b3;rw[aC,hp,aJ];clear bk bg be bp aC hp aJ;go_enter func31,ntmps31;go_wp2_with fail;go_loopw [5,6,7,8,10,11,12,15] (λv _ _ _ _ _ _ Y wr=>∃k:Nat,Y=.int .i64 (k:Int)/\k<=n/\Below w.heap.size w wr/\al.de w.heap.size wr v (V.take k)) (λ_ _ _ _ _ _ _ Y _=>n-(intOf Y).toNat)
 case atStart=>exact⟨0,rfl,by omega,qK _ _,al.de.nil _ _⟩
 obtain⟨k,rfl,cd,aE,aX⟩:=hrel;have bH:=qQ aE;have a9:=qQ aX;have Lw:=aE.size;have bm:(V.take k).length=k:=by rw[qM,kr.q];omega
 obtain⟨a3,cu,aF,-⟩:=aX.form;rw[bm]at aF;subst aF;clear aX bm;by_cases aW:k<n
 .have aL:k<nodes.length:=by have:=ag.q.1;omega
  obtain⟨b',on,rfl,ca,a'⟩:=bM.q wr aE (by omega);obtain⟨v1,v2,v3,v4,v5,v6,⟨cw,cx,cz,cA,cB,cC,cD,cE⟩,s1,s2,bu,bw,bx,bz⟩:=a' k aL;obtain⟨aT,W,a7,a_⟩:=cV (bR.q _ (qP aL)) (al.Ai (l:=V) (k:=k) (by rw[kr.q];exact aW)) (λ(h:k<args.length)=>show ad.nth V k=ad.nth args k by have:=ae.iu aL h;rwa [ag.q.2.2.1]at this) (λ(h:args.length<=k)=>bK.q.step aL h);generalize nodes[k]=x at *;have ni:=qQ (qZ s1 (qZ s2 (qZ bu (qZ bw (qZ bx bz)))));obtain⟨rq,cy,rfl,_⟩:=s1;obtain⟨dp,bE,rfl,_⟩:=s2;obtain⟨sN,hs,rfl,_⟩:=bu;obtain⟨sO,tf,rfl,_⟩:=bw;obtain⟨sP,p1,rfl,_⟩:=bx;obtain⟨w7,xa,rfl,Hw,b1⟩:=bz;refine Ja ?_;intro i1 i2 gy HB Gl eg gR;have aQ:=qQ (a9.q.below eg);refine Jz ?_;intro Bc Be eb Ed HC;clear a' Gl eg Hw b1 aE;by_cases ci:k<p
  .have aD:k<args.length:=by have:=ag.q.2.1;omega
   obtain⟨fI,fM,rfl,-,-⟩:=a6.q gy gR.q (by omega);obtain⟨D,c,X,h',z0,a2,y⟩:=al.at_one (a6.q gy gR.q) aD;have Z:=qQ (show ad.nth V k=args[k] by rw[a7.q aD];simp[ad.nth,aD]);rw[Z.q]at W;generalize args[k]=a at z0 a2 y W;have i3:(k:Int)<p:=by omega
   obtain⟨az,r⟩:=gz (V.take k);have bj:az.length<=1099511627776:=by rw[<-r,qM,kr.q];omega
   rw[r]at aQ W;clear r Z;obtain⟨bA,bq,S,cq,-⟩:=b8 gy 68 #[.slice D a.I.length c,.slice X a.e.length h'];obtain⟨E,av,ap⟩:=aK (aA gR.q cq) (aQ.q.below cq) ((y.below cq).up cq.size);have aG:=E.q.size;clear cq;go_wp2_with (at_builtin;refine al.rj av.q S ap.q (by first | omega | (simp;omega)) (by omega) ?_);intro v6 cH Q O N;have aq:=qQ (E.q.grown O aG N);have M:=qQ Q;clear Q O N S;rw[<-W.q]at M;go_wp2_with fail;go_roundw
   case rel=>exact⟨k+1,by go_num,by omega,aq.q,M.q⟩
   case measure=>simp[intOf];omega
  obtain⟨bD,b7⟩:∃bD:World,bD=wr:=⟨_,rfl⟩;subst b7;have aD:args.length<=k:=by have:=ag.q.2.1;omega
  have ak:=qQ (a_.q aD);obtain⟨m,hm⟩:=gz x.a.length;have bL:=qQ (qZ hm (qZ aT.q.2 True.intro));have cg:m<=4194304:=by have:=aT.q.2;omega
  obtain⟨L,aI⟩:=gz (ae.aR args nodes x.a);have U:=qQ (show L.length=m/\∀j (h:j<x.a.length) ,0<=x.a[j]/\x.a[j]<(k:Int)/\ad.nth L j=ad.nth V x.a[j].toNat from by
   refine⟨by rw[<-aI];unfold ae.aR;rw[zJ,hm],λj h=>?_⟩;have bV:=ae.bP ak.q.1 (qP h);refine⟨bV.1,by omega,?_⟩;rw[<-aI,<-ag.q.2.2.1];unfold ae.aR;simp[ad.nth,h])
  rw[aI]at ak;rw[ag.q.2.2.1]at ak;have bX:=Bc.q.cell 7;rw[hm]at Ed;clear hm aI a_ a7;go_wp2_with fail;go_loopw [8,10,34] (λv _ Y wr=>∃j:Nat,Y=.int .i64 (j:Int)/\j<=m/\Below gy.heap.size gy wr/\al.de gy.heap.size wr v (L.take j)) (λ_ _ Y _=>m-(intOf Y).toNat)
  case atStart=>exact⟨0,rfl,by omega,qK _ _,al.de.nil _ _⟩
  obtain⟨j,rfl,cb,ao,aZ⟩:=hrel;obtain⟨aH,aP,bJ⟩:=aK ao aZ (gR.q.trans (ao.mono HC));have cl:=ao.size;have bn:(L.take j).length=j:=by rw[qM,U.q.1];omega
  obtain⟨bS,pn,aF,-⟩:=aZ.form;rw[bn]at aF;subst aF;have aO:=qQ (aQ.q.below ao);clear aZ bn;by_cases bY:j<m
  .have bh:j<x.a.length:=by have:=bL.q.1;omega
   obtain⟨e2,cr,rfl,-,bc⟩:=Be.q.below ao (by omega);have b_:=bc j bh;have aN:=U.q.2 j bh;generalize x.a[j]=bt at b_ aN;obtain⟨q,rfl⟩:∃q:Nat,bt=(q:Int):=⟨bt.toNat,by omega⟩;rw[xY]at aN;have b5:q<(V.take k).length:=by rw[qM,kr.q];omega
   have bW:∃bv bs,a3=some ⟨bv,bs,none⟩:=by
    obtain⟨b,o,e,-⟩:=aO.q.hE (by omega);exact⟨b,o,e⟩
   obtain⟨bv,bs,rfl⟩:=bW;obtain⟨D,c,X,h',z0,a2,y⟩:=al.at_one aO.q.hE b5;have Z:=qQ (show L.take (j+1)=L.take j++[(V.take k)[q]] by
    rw[al.Ai (by rw[U.q.1];exact bY),aN.2.2]
    congr 2
    have:q<V.length:=by rw[kr.q];omega
    simp[ad.nth,this])
   generalize (V.take k)[q]=a at z0 a2 y Z;have cm:=b2 j;have cn:(j:Int)<m:=by omega
   have co:=b2 q;have cp:(q:Int)<k:=by omega
   obtain⟨az,r⟩:=gz (L.take j);have bj:az.length<=1099511627776:=by rw[<-r,qM,U.q.1];omega
   rw[r]at aP Z;clear r bc ao aN;obtain⟨bA,bq,S,cq,-⟩:=b8 wr 68 #[.slice D a.I.length c,.slice X a.e.length h'];obtain⟨E,av,ap⟩:=aK (aA aH.q cq) (aP.q.below cq) ((y.below cq).up cq.size);have aG:=E.q.size;clear cq;go_wp2_with (at_builtin;refine al.rj av.q S ap.q (by first | omega | (simp;omega)) (by omega) ?_);intro v6 cH Q O N;have aq:=qQ (E.q.grown O aG N);have M:=qQ Q;clear Q O N S;rw[<-Z.q]at M;go_wp2_with fail;go_roundw
   case rel=>exact⟨j+1,by go_num,by omega,aq.q,M.q⟩
   case measure=>simp[intOf];omega
  have bZ:m=j:=by omega
  subst bZ;have bl:=(eb.q.below aH.q).up aH.q.size;have a5:=qQ (by
   have h:=al.yl _ x.o bS pn L (a4.getD k []) wr.heap.size wr (qX _) bl (by
    have h:=aP.q;rw[qT (by rw[U.q.1];exact qX _)]at h;exact h.hE) aT.q.1 ak.q.2.1 ak.q.2.2.1 (by rw[U.q.1];omega)
   rwa [U.q.1,<-ak.q.2.2.2]at h)
  have b0:=λi=>(Bc.q.go aH.q).cell i
  have bQ:=qQ aO.q;obtain⟨bB,b6⟩:∃bB:World,bB=wr:=⟨_,rfl⟩;subst b6;clear bl Ed bX;go_wp2_with (with_reducible refine a5.q.mono ?_);rintro e a0 ⟨v,rfl,y,aV⟩;obtain⟨D,c,X,h',rfl,aU⟩:=y;have bF:=qQ (aA bJ.q aV);have bO:=qQ (bQ.q.below aV);clear aV a5;generalize ad.nth V k=a at aU W |-;obtain⟨b9,cj,br,aB,-⟩:=b8 a0 68 #[.slice D a.I.length c,.slice X a.e.length h'];have bG:=qQ (aA bF.q aB);have a8:=qQ (bO.q.below aB);have bf:=(show al.a1 a0 a0.heap.size (.agg #[.slice D a.I.length c,.slice X a.e.length h']) a from⟨_,_,_,_,rfl,aU⟩);have y:=(bf.below aB).up aB.size;have cf:=λi=>br.cell i
  obtain⟨az,r⟩:=gz (V.take k);have bj:az.length<=1099511627776:=by rw[<-r,qM,kr.q];omega
  rw[r]at a8 W;clear r br aB bf aU b0;obtain⟨bA,bq,S,cq,-⟩:=b8 b9 68 #[.slice D a.I.length c,.slice X a.e.length h'];obtain⟨E,av,ap⟩:=aK (aA bG.q cq) (a8.q.below cq) ((y.below cq).up cq.size);have aG:=E.q.size;clear cq;go_wp2_with (at_builtin;refine al.rj av.q S ap.q (by first | omega | (simp;omega)) (by omega) ?_);intro v6 cH Q O N;have aq:=qQ (E.q.grown O aG N);have M:=qQ Q;clear Q O N S;rw[<-W.q]at M;go_wp2_with fail;go_roundw
  case rel=>exact⟨k+1,by go_num,by omega,aq.q,M.q⟩
  case measure=>simp[intOf];omega
 have aW:n=k:=by omega
 subst aW;have bN:=qQ (show al.de w.heap.size wr (.slice a3 n cu) V by
  have h:=a9.q
  rwa [qT (by rw[kr.q];exact qX _)]at h)
 go_wp2_with fail;go_ret;exact⟨_,rfl,bN.q,bH.q⟩
theorem al.A6(val ak:Value)(a:ad.ay)(B:Nat)(w:World)(ah:B<=w.heap.size)(S:al.a1 w B val a)(U:al.a1 w B ak a)(aD:a.e.length<=9223372036854775806):Calls Tryz.prog 35 #[val,ak] w λe w'=>e=.returned (.bool true)/\Below w.heap.size w w':=by
 have H1:=qQ (S.bI ah);have N:=qQ (U.bI ah);obtain⟨A,c,X,x,rfl,-,-,aK,-⟩:=S;obtain⟨bK,c',oi,h',rfl,-,-,aL,-⟩:=U;obtain⟨ag,aE,Y,Q,-⟩:=b8 w 68 #[.slice A a.I.length c,.slice X a.e.length x];obtain⟨aC,aF,Z,D,-⟩:=b8 ag 68 #[.slice bK a.I.length c',.slice oi a.e.length h'];have r:=qQ (aA Q D);have j:=qQ (qZ (Y.go D) Z);have O:=qQ (af.h9 A bK c c' a.I a.I aC.heap.size aC.heap.size aC (by omega) (by omega) (H1.q aC r.q).parts.1 (N.q aC r.q).parts.1);rw[zD rfl]at O;have az:=λi=>j.q.1.cell i
 have aB:=λi=>j.q.2.cell i
 have aG:=r.q.size;obtain⟨n,E⟩:=gz a.e.length;have av:=qQ (qZ E True.intro);rw[E]at aD az aB j aE aF |-;clear Y Z Q D E;go_enter func35,ntmps35;go_wp2_with fail
 ((with_reducible refine O.q.mono ?_);rintro e aw ⟨rfl,d,rfl⟩)
 go_wp2_with fail;go_loopw [5,24] (λ_ M wr=>∃k:Nat,M=.int .i64 (k:Int)/\k<=n/\Below aC.heap.size aC wr) (λ_ M _=>n-(intOf M).toNat)
 case atStart=>exact⟨0,rfl,by omega,zV (qK _ _) _⟩
 obtain⟨k,rfl,aN,m⟩:=hrel;have aq:=qQ m;have y:=qQ (r.q.trans (m.mono aG));have aQ:=λi=>(j.q.1.go m).cell i
 have aR:=λi=>(j.q.2.go m).cell i
 by_cases W:k<n
 .have V:k<a.e.length:=by have:=av.q.1;omega
  obtain⟨eg,aO,rfl,-,ao⟩:=(H1.q wr y.q).parts.2.1 (by omega);obtain⟨aJ,aP,rfl,-,ap⟩:=(N.q wr y.q).parts.2.1 (by omega);have aH:=ao k V;have aI:=ap k V;generalize a.e[k]=z at aH aI;have i1:=b2 k;have i2:(k:Int)<n:=by omega
  clear ao ap m;go_wp2_with fail
  go_quiet (fail)
  go_wp2_with fail;exact⟨⟨k+1,by go_num,by omega,zV aq.q _⟩,by simp[intOf];omega⟩
 have W:n=k:=by omega
 subst W;go_wp2_with fail;go_ret;exact⟨rfl,y.q⟩
theorem al.z8(G Y:Option Addr)(aG aK:Nat)(l:List ad.ay)(B:Nat)(w:World)(ah:B<=w.heap.size)(ak:al.bo w B G l)(ao:al.bo w B Y l)(aO:l.length<=1099511627776)(az:∀a∈l,a.e.length<=65536):Calls Tryz.prog 14 #[.slice G l.length aG,.slice Y l.length aK] w λe w'=>e=.returned (.bool true)/\Below w.heap.size w w':=by
 have H1:=qQ (ak.bI ah);have Z:=qQ (ao.bI ah);obtain⟨n,N⟩:=gz l.length;have aD:=qQ (qZ N True.intro);have aF:=qQ az;rw[N]at aO |-;clear ak ao N az;go_enter func14,ntmps14;go_wp2_with fail;go_loopw [5,13] (λ_ O wr=>∃k:Nat,O=.int .i64 (k:Int)/\k<=n/\Below w.heap.size w wr) (λ_ O _=>n-(intOf O).toNat)
 case atStart=>exact⟨0,rfl,by omega,qK _ _⟩
 obtain⟨k,rfl,aP,i⟩:=hrel;have ag:=qQ i;by_cases av:k<n
 .have M:k<l.length:=by have:=aD.q.1;omega
  obtain⟨fI,fM,rfl,ap,-⟩:=H1.q wr i (by omega);obtain⟨m,y,rfl,aq,-⟩:=Z.q wr i (by omega);obtain⟨D,c,X,x,Q,S,E⟩:=al.at_one (H1.q wr i) M;obtain⟨D',c',oi,h',U,V,j⟩:=al.at_one (Z.q wr i) M;have aN:=aF.q _ (qP M);generalize l[k]=a at Q S E U V j aN;have aC:=qQ (λW (b:Below wr.heap.size wr W)=>show W.cell? ⟨fI,fM+k*2,none⟩=some (.slice D a.I.length c)/\W.cell? ⟨fI,fM+k*2+1,none⟩=some (.slice X a.e.length x)/\W.cell? ⟨m,y+k*2,none⟩=some (.slice D' a.I.length c')/\W.cell? ⟨m,y+k*2+1,none⟩=some (.slice oi a.e.length h')from
   ⟨(b.cell (p:=⟨fI,fM+k*2,none⟩) ap).trans Q,(b.cell (p:=⟨fI,fM+k*2+1,none⟩) ap).trans S,(b.cell (p:=⟨m,y+k*2,none⟩) aq).trans U,(b.cell (p:=⟨m,y+k*2+1,none⟩) aq).trans V⟩)
  have aE:=qQ (λW (b:Below wr.heap.size wr W)=>al.A6 _ _ a W.heap.size W (qX _) ((E.below b).up b.size) ((j.below b).up b.size) (by omega));have i1:=b2 k;have i2:(k:Int)<n:=by omega
  clear E j Q S U V i;go_wp2_with fail;have aJ:=λW (b:Below wr.heap.size wr W)=>aC.q W b
  refine aH (l:=[_]) [(0,16,[]),(1,17,[]),(2,18,[0,1]),(3,19,[2]),(4,20,[]),(5,21,[]),(6,22,[4,5]),(7,23,[6]),(8,24,[3,7])] [9] [.eq _,.eq _,.eq _,.eq _,.eq _,.eq _,.eq _,.eq _,.eq (.bool true)]
   (λW=>Below wr.heap.size wr W) (qK _ _).drew ((fr)<|(fr)<|(fr)<|(fr)<|(fr)<|(fr)<|(fr)<|(fr)<|cr ?_<|fg) ?_ (λ_ _ h aL=>aA h aL)
  .intros;rename_i _ K aI;subst_vars;have r:=(show Below wr.heap.size wr _ by assumption)
   skip
   go_simp;with_reducible refine(aE.q _ r).mono ?_
   rintro e aQ ⟨rfl,j⟩;exact aI.q _ _ j rfl
  intros;rename_i W r _ _ _ _ _ _ _ _ _;subst_vars;have aB:=qQ (aA ag.q r);clear aJ r;go_wp2_with fail;go_roundw
  case rel=>exact⟨k+1,by go_num,by omega,aB.q⟩
  case measure=>simp[intOf];omega
 have av:n=k:=by omega
 subst av;go_wp2_with fail;go_ret;exact⟨rfl,ag.q⟩
theorem al.fK(DA:Option Addr)(cD:Nat)(ds:List (List Int))(G:Option Addr)(a0:Nat)(l:List ad.ay)(B:Nat)(w:World)(ah:B<=w.heap.size)(aC:af.bu w B DA ds)(aD:al.bo w B G l)(a6:l.length<=ds.length)(a4:ds.length<=1099511627776)(r:∀i (h:i<l.length),l[i].I=ds.getD i []/\ad.cO l[i]):Calls Tryz.prog 34 #[.slice DA ds.length cD,.int .i64 (l.length:Int),.slice G l.length a0] w λe w'=>e=.returned (.int .i64 0)/\Below w.heap.size w w':=by
 obtain⟨H1,ap,aW⟩:=aK (aC.bI ah) (aD.bI ah) r;obtain⟨n,Q⟩:=gz l.length;obtain⟨m,hm⟩:=gz ds.length;have aq:=qQ (qZ Q (qZ hm True.intro));rw[Q,hm]at a6;rw[hm]at a4;rw[Q,hm];clear aC aD Q hm r;go_enter func34,ntmps34;go_wp2_with fail;go_loopw [7,8,9,16] (λ_ _ _ ao wr=>∃k:Nat,ao=.int .i64 (k:Int)/\k<=n/\Below w.heap.size w wr) (λ_ _ _ ao _=>n-(intOf ao).toNat)
 case atStart=>exact⟨0,rfl,by omega,qK _ _⟩
 obtain⟨k,rfl,a',y⟩:=hrel;have aT:=qQ y;by_cases aN:k<n
 .have aL:k<l.length:=by have:=aq.q.1;omega
  have aG:k<ds.length:=by have:=aq.q.2.1;omega
  obtain⟨fI,fM,rfl,-,-⟩:=ap.q wr y (by omega);obtain⟨az,aO,rfl,a2,aE⟩:=H1.q wr y (by omega);obtain⟨D,c,X,x,a8,a9,N⟩:=al.at_one (ap.q wr y) aL;obtain⟨v,Z,E,ce,rfl,Y,hle⟩:=aE k aG;have r:=aW.q k aL;have aF:ds.getD k []=ds[k]:=by simp[aG]
  rw[aF]at r;generalize l[k]=a at a8 a9 N r;generalize ds[k]=d at Z Y hle r;obtain⟨a5,V⟩:=r;subst a5;obtain⟨ag,a7,ak,j,-⟩:=b8 wr 68 #[.slice D a.I.length c,.slice X a.e.length x];have aQ:=qQ (aA y j);have a3:=λi=>ak.cell i
  have aP:=qQ ((N.below j).up j.size);have aZ:=qQ (by
   have h:=al.q2 _ a ag.heap.size ag (qX _) ((N.below j).up j.size)
   rwa [ad.w1 V]at h)
  have av:=qQ (λW (b:Below ag.heap.size ag W)=>qZ (ak.go b) (show W.cell? ⟨az,aO+k,none⟩=some (.slice E a.I.length ce)from((aA j b).cell (p:=⟨az,aO+k,none⟩) a2).trans Z));have aV:=qQ (λW (b:Below ag.heap.size ag W)=>qZ ((Y.below j).up j.size |>.below b |>.up b.size) True.intro);have a_:=(R.aB V.1).1;have i1:=b2 k;have i2:(k:Int)<n:=by omega
  have i3:(k:Int)<m:=by omega
  clear aE Y hle y N V ak j aF Z;go_wp2_with (with_reducible refine aZ.q.mono ?_)
  first | rintro e aw rfl O | rintro e aw ⟨rfl,O⟩
  have aR:=qQ (aA aQ.q O);have S:=qQ O;clear O a3 a7;go_wp2_with fail;have aJ:=λW (b:Below aw.heap.size aw W)=>qZ (λi=>((av.q aw S.q).1.go b).cell i) (av.q W (aA S.q b)).2
  have aX:=qQ (λW (b:Below aw.heap.size aw W)=>by
   have U:=aA S.q b;have h:=af.h9 D E c ce a.I a.I W.heap.size W.heap.size W (by omega) (by omega) ((aP.q.below U).up U.size).parts.1 (aV.q W U).1
   rwa [zD rfl]at h)
  refine aH (l:=[_]) [(0,26,[]),(1,27,[0]),(2,28,[]),(3,29,[]),(4,30,[2,3]),(5,31,[4]),(6,32,[1,5])] [7] [.eq _,.eq _,.eq _,.eq _,.eq _,.eq _,.eq (.bool true)]
   (λW=>Below aw.heap.size aw W) (qK _ _).drew ((fr)<|(fr)<|(fr)<|(fr)<|(fr)<|(fr)<|cr ?_<|fg) ?_ (λ_ _ h a1=>aA h a1)
  .intros;rename_i K aI;subst_vars;have M:=(show Below aw.heap.size aw _ by assumption);go_simp;with_reducible refine(aX.q _ M).mono ?_
   rintro e bb ⟨rfl,d,rfl⟩;exact aI.q _ _ (zV (qK _ _) d) rfl
  intros;rename_i W M _ _ _ _ _ _ _;subst_vars;have aU:=qQ (aA aR.q M);clear aJ M;go_wp2_with fail;go_roundw
  case rel=>exact⟨k+1,by go_num,by omega,aU.q⟩
  case measure=>simp[intOf];omega
 have aN:n=k:=by omega
 subst aN;go_wp2_with fail;go_ret;exact⟨rfl,aT.q⟩
end Go.Proofs.YtabmnaaidfpmcaaGreatDoor
end
section
namespace Go.Proofs.YtabmnaaidfpmcaaGreatDoor
open Go.RowKit aS Go.Maps
theorem bC.law:Keyed Tryz.prog 9:=string_keyed underlying9
theorem bC.zero(w:World):(zeroValue 3).run Tryz.prog w=.ok (.int .i64 0) w:=by kernel_rfl
theorem bC.Gh:(Tryz.prog.info? 60).map (λi=>(i.zero,i.size,i.bytes))=some (some (.agg #[.int .i64 0,.slice none 0 0,.slice none 0 0,.slice none 0 0,.slice none 0 0,.slice none 0 0,.int .i64 0,.slice none 0 0]),8,160):=by kernel_rfl
theorem aY.Iq{x:J.Node}(h:aY.xu x):(dD.n1 x).length<=700000000000:=by
 have i:=aY.ug (l:=[x.o.k]) (by simp;exact h.1) (by simp);have j:=aY.sB (ls:=aY.lists x) h.2.2;have m:=aY.k2 h.2.1;have q:(aY.lists x).length=6:=rfl;rw[aY.v8,qW,qW];omega
theorem bC.Km{x:J.Node}(h:aY.xu x):keyOf Tryz.prog 9 (.string ⟨(dD.n1 x).toArray⟩)=some (bC.ov x):=by
 have:=aY.Iq h;rw[Go.WideMaps.keyOf_string_mk underlying9 (by show(dD.n1 x).toArray.size<=_;simp[maxLen];omega)];rfl
theorem bC.Ie(i:Nat)(w:World):(binOp .eql 49 (.map (some i)) (.map none)).run Tryz.prog w=.ok (.bool false) w:=by kernel_rfl
theorem bC.J9(w:World):(binOp .eql 49 (.map none) (.map none)).run Tryz.prog w=.ok (.bool true) w:=by kernel_rfl
theorem ai.jk{size:Nat}{l:List Value}(h:w.ownsRow base e size v n l):∃A c,v=.slice A n c/\n<=c:=by
 rcases h.2 with ⟨rfl,rfl⟩ | ⟨g,cap,cur,rfl,_,_,i,_⟩
 .exact⟨none,0,rfl,qX _⟩
 exact⟨_,_,rfl,i⟩
theorem bC.nF{size b:Nat}{l:List Value}(h:w.ownsRow base e size v n l)(i:v.ownBlock=some b):∃cs,w.heap[b]?=some (.cells cs e (0,0)):=by
 rcases h.2 with ⟨rfl,_⟩ | ⟨g,cap,cur,rfl,_,j,_⟩
 .cases i
 simp only[Value.ownBlock,zZ]at i;subst i;exact⟨_,j⟩
theorem bC.sE(a b c x:Value)(l:List Value):(a::b::c::l).toArray.setIfInBounds 2 x=(a::b::x::l).toArray:=by simp
theorem bC.qm(a x:Value)(l:List Value):(a::l).toArray.setIfInBounds 0 x=(x::l).toArray:=by simp
theorem _root_.XI{G:Prop}(h:G:=by
 go_simp;exact aI.q _ _ ((qK _ _).alloc (qX _) _) ⟨_,rfl,a_,av.new _ _ _⟩
 ):G:=h
theorem bC.HV(base p:Nat)(ty:TypeId)(vO:Value)(rest:List Value)(U:Nat->Prop)(N:List J.Node)(val:Value)(op:J.Op)(A:Option Addr)(c:Nat)(args:List Int)(w:World)(b9:bC.At base w p ty vO rest U N)(cu:af.bd w w.heap.size val op)(hi:ai.ao w w.heap.size A args)(cz:bC.cJ op)(di:args.length<=1099511627776)(cd:aY.xu ⟨ae.plain op,args⟩)(dR:N.length<=1048576)(cA:aY.gI base w):Calls Tryz.prog 47 #[.pointer (some ⟨p,0,none⟩),val,.slice A args.length c] w λe w'=>e=.returned (.int .i64 (ae.add N op args).2)/\bC.gq base w w' p ty vO rest U (ae.add N op args).1:=by
 obtain⟨c1,cO,ah,b3,c6,c5⟩:=fq (λW (aE:Below w.heap.size w W)=>(cu.below aE).up aE.size) (λW (aE:Below w.heap.size w W)=>hi.below aE) b9 cd cA cz;obtain⟨v1,v2,v3,v4,v5,rfl,⟨D,cD,rfl,dK,dY,dZ⟩,⟨T,aD,rfl,it,lt,mt⟩,⟨O,co,rfl,io,lo,d1⟩,⟨b1,ci,rfl,ii,li,d0⟩,⟨S,cs,rfl,is,ls,ms⟩⟩:=cu;clear hi cd cA cz dK it io ii is b9;obtain⟨bH,dH,cF,ba,d3⟩:=b8 w 58 #[.int .i64 op.k,.slice D op.I.length cD,.slice T op.a.length aD,.slice O op.l.length co,.slice b1 op.h.length ci,.slice S op.s.length cs,.int .i64 op.v];have bQ:=λi=>cF.cell i
 have cK:=qQ ba;have c2:=qQ (bC.EV _ op bH.heap.size bH (qX _) c5.q (c1.q bH ba));clear cF ba;go_enter func47,ntmps47;go_wp2_with (with_reducible refine c2.q.mono ?_);rintro e ag ⟨v,rfl,bE,aE⟩;have bn:=qQ (aA cK.q aE);have c7:=qQ bE;have cM:=qQ (eM A c args ag.heap.size ag di ((cO.q ag bn.q).up bn.q.size) (qX _));clear aE bQ;obtain⟨u1,u2,u3,u4,u5,rfl,⟨aQ,aO,rfl,_⟩,⟨bt,bz,rfl,_⟩,⟨aG,aU,rfl,_⟩,⟨aN,aV,rfl,_⟩,⟨aP,aW,rfl,_⟩⟩:=bE;go_wp2_with (with_reducible refine cM.q.mono ?_);rintro e aC ⟨v,rfl,bU,aE⟩;obtain⟨bI,b6,b5⟩:=aK (aA bn.q aE) (c7.q.below aE) (bC.gP.own bU (qX _));obtain⟨aT,aX,dC,_⟩:=ai.aZ bU;subst dC;have c':=qQ (bC.HW N ah.q.nodup op args);generalize ae.plain op=q at *;obtain⟨a3,dJ,b0,eg,d4⟩:=b8 aC 60 #[.int .i64 q.k,.slice aQ q.I.length aO,.slice bt q.a.length bz,.slice aG q.l.length aU,.slice aN q.h.length aV,.slice aP q.s.length aW,.int .i64 q.v,.slice aT args.length aX];obtain⟨cQ,bJ,cL⟩:=aK b0 (aA bI.q eg) eg;have BD:=λi=>b0.cell i
 have cZ:=qQ (show b4.gC a3 a3.heap.size (.agg #[.int .i64 q.k,.slice aQ q.I.length aO,.slice bt q.a.length bz,.slice aG q.l.length aU,.slice aN q.h.length aV,.slice aP q.s.length aW,.int .i64 q.v,.slice aT args.length aX]) ⟨q,args⟩from by
  obtain⟨_,_,_,_,_,e,bf,bg,bh,b2,aF⟩:=b6.q.below eg;injection e with e
  simp only[kV,zT]at e;obtain⟨_,rfl,rfl,rfl,rfl,rfl,_⟩:=e;exact⟨_,_,_,_,_,_,rfl,bf.gB,bg.gB,bh.gB,b2.gB,aF.gB,(b5.q.below eg).gB⟩)
 have a1:base<=w.heap.size:=qJ ah.q.low (zG ah.q.lt);have cW:=qQ (aY.Ip _ ⟨q,args⟩ a3.heap.size a3 (qX _) cZ.q b3.q (λW aE=>c6.q W ((bJ.q.mono a1).trans (aE.mono (qJ a1 bJ.q.size)))));clear bU aE b0 eg;go_wp2_with (with_reducible refine cW.q.mono ?_);rintro e aw ⟨rfl,bu⟩;obtain⟨bo,a5,cT,bp⟩:=cV (aA bJ.q bu) (qZ cL.q bu) (cQ.q.go bu) (bC.Km b3.q);have eZ:=qQ (ah.q.c9 (ch.of (U:=λ_=>False) bo.q) (λb h=>h.elim));obtain⟨j1,hQ,bW,a8⟩:=eZ.q.mem;have o8:=qQ bW;have La:=qQ a8;have ca:=λi=>bW.cell i
 clear bW bu BD;rcases c'.q with ⟨i,cf,a0,a7,X⟩ | ⟨a0,dx,a7⟩
 .have bK:=qQ a0;have cI:=qQ X;obtain⟨_,cg | ⟨m,rfl,cn,bB⟩⟩:=a8
  .exfalso;rw[cg.2]at cf;simp at cf
  clear X;go_wp2_with (first | (at_lookup;refine pP _ rfl _ _ 49 rfl 9 3 .i64 bC.law underlying49 underlying3 (bC.zero _) m N.length (bC.qc N) rfl bB _ (bC.ov ⟨q,args⟩) rfl bp.q ?_;intro c b' dI));go_ret;have B:c=(i:Int):=by
   have h:=cI.q (.lit (.int .i64 0));rw[b']at h;injection h with h
   injection h with _ h
  rw[bK.q,B];exact⟨rfl,U,eZ.q,(ch.of bo.q).mono (λb h=>h),λb h=>.inl h⟩
 have bK:=qQ a0;have c0:=qQ dx;clear a0;have dU:p<w.heap.size:=ah.q.lt;have Mw:=bo.q.size;refine Or.elim a8.2 (λh=>?L4) (λh=>?L3)
 case' L4 =>
  obtain⟨rfl,b_⟩:=h;have Lc:N.length=0:=by rw[b_];rfl
  clear b_;have dr:=λW=>Maps.look_nil (P:=Tryz.prog) (w:=W) (t:=49) true bC.law underlying49 (bC.zero W) bp.q
  have dw:=@run_makeMap Tryz.prog;have dm:=λi=>(o8.q.alloc (.map #[] 0)).frozen i
  have bQ:(aw.alloc (.map #[] 0)).cell? ⟨p,2,none⟩=some (.map none):=(o8.q.alloc (.map #[] 0)).cell 2;have bm:=qQ (show ∃Q,av ((aw.alloc (.map #[] 0)).setCell ⟨p,2,none⟩ (.map (some aw.heap.size))) p ty (j1::vO::.map (some aw.heap.size)::rest).toArray/\bC.Has base ((aw.alloc (.map #[] 0)).setCell ⟨p,2,none⟩ (.map (some aw.heap.size))) Q j1 (.map (some aw.heap.size)) N/\Q aw.heap.size /\
      ch (λb=>b=p\/U b) aw ((aw.alloc (.map #[] 0)).setCell ⟨p,2,none⟩ (.map (some aw.heap.size)))/\∀b,Q b->(U b\/w.heap.size<=b)/\b≠p/\base<=b from by
   have nz:aw.heap.size≠p:=by omega
   refine⟨λb=>U b\/b=aw.heap.size,?_,⟨?_,.inr ⟨_,rfl,.inr rfl,by rw[xL Lc];exact(World.ownsMap_made aw _ _ _).setCell nz _⟩⟩,.inr rfl,?_,?_⟩
   .have h:=(o8.q.alloc (.map #[] 0)).bs 2 (.map (some aw.heap.size))
    rwa [bC.sE]at h
   .refine(bC.Has.c9 (V:=λb=>U b\/b=aw.heap.size) La.q (by simp[World.setCell]) (λb aE du=>?_) (λb aE _=>.inl aE)).1;obtain⟨Ix,K0,Ku⟩:=eZ.q.own b aE;exact(qN _ _ _ b Ku).trans (yJ aw _ b du)
   .exact(ch.of ((qK _ _).alloc (qX _) _)).trans (ch.set _ ⟨p,2,none⟩ _) (λn fa=>.inl (.inl fa))
   rintro b (aE | rfl)
   .obtain⟨Ix,K0,Ku⟩:=eZ.q.own b aE;exact⟨.inl aE,Ku,Ix⟩
   exact⟨.inr Mw,nz,by omega⟩)
  have bZ:=bC.J9;clear Lc;clear a8;go_wp2_with fail;have cE:aw.heap.size<=((aw.alloc (.map #[] 0)).setCell ⟨p,2,none⟩ (.map (some aw.heap.size))).heap.size:=by simp[World.setCell]
  generalize (aw.alloc (.map #[] 0)).setCell ⟨p,2,none⟩ (.map (some aw.heap.size))=x at bm cE |-;obtain⟨m,cj⟩:=gz aw.heap.size;rw[cj]at bm;clear cj dr dw dm bQ bZ ca
 case' L3 =>
  obtain⟨m,rfl,cn,bB⟩:=h;obtain⟨x,bF⟩:∃x,x=aw:=⟨_,rfl⟩;have bm:=qQ (show ∃Q,av x p ty (j1::vO::.map (some m)::rest).toArray/\bC.Has base x Q j1 (.map (some m)) N/\Q m/\ch (λb=>b=p\/U b) aw x/\∀b,Q b->(U b\/w.heap.size<=b)/\b≠p/\base<=b from by
   rw[bF];exact⟨U,o8.q,La.q,cn,ch.of (qK _ _),λb aE=>⟨.inl aE,(eZ.q.own b aE).2.2,(eZ.q.own b aE).1⟩⟩)
  have bZ:=bC.Ie m;clear a8;go_wp2_with (first | (at_lookup;refine pP _ rfl _ _ 49 rfl 9 3 .i64 bC.law underlying49 underlying3 (bC.zero _) m N.length (bC.qc N) rfl bB _ (bC.ov ⟨q,args⟩) rfl bp.q ?_;intro c b' dI));rw[<-bF];have cE:aw.heap.size<=x.heap.size:=by rw[bF];exact qX _
  clear bB bF bZ ca
 all_goals
  obtain⟨Q,bX,dn,a',a9,E⟩:=bm.q;obtain⟨⟨aR,aq,be,cB⟩,cl⟩:=dn;obtain⟨a4,a6,dE,_⟩:=ai.jk aq;subst dE;have cU:=qQ (a9.aL cT.q (by
   have:=bI.q.size;rintro(h | h)
   .omega
   have:=(ah.q.own _ h).2.1;omega))
  clear dH dJ;have aJ:=λW (aE:Below x.heap.size x W)=>qZ (λi=>(bX.go aE).cell i) (λi=>(cU.q.go aE).cell i)
  refine gx 8 (λdP=>?_);refine e5 0 38 ?_;try simp only[Act.put,bj,bk,bl]
  refine h_ (l:=[_,_,_,_,_]) [(1,39,[]),(2,40,[0]),(3,41,[1]),(4,42,[2]),(5,43,[3]),(6,44,[]),(7,45,[5])] [8,9,10,11,12] [.eq _,.eq _,.eq _,.eq _,.eq _,.eq _,.row x.heap.size 60 1 #[.int .i64 q.k,.slice aQ q.I.length aO,.slice bt q.a.length bz,.slice aG q.l.length aU,.slice aN q.h.length aV,.slice aP q.s.length aW,.int .i64 q.v,.slice aT args.length aX]] (λW=>Below x.heap.size x W) (qK _ _).drew ((fr)<|(fr)<|(fr)<|(fr)<|(fr)<|(fr)<|cr ?_<|fg) ?_ (λ_ _ h bO=>aA h bO)
  .intros;subst_vars;rename_i K aI;have a_:=(show Below x.heap.size x _ by assumption).size;exact XI
  intros;rename_i W a_ _ _ _ _ _ _ h;subst_vars;obtain⟨g,rfl,bv,dL⟩:=h;obtain⟨i0,g1,g2,g3,g4⟩:=xQ bC.Gh;have dh:=a_.size;have dF:W.ownsRow base 60 8 (.slice a4 N.length a6) N.length aR:=af.bq aq (λb aE=>a_.block b (aq.lt b aE).2);have dj:base<=W.heap.size:=by omega
  refine wV W rfl _ _ 22 rfl base 60 i0 _ 8 160 underlying22 g1 g2 g3 g4 rfl (by decide) _ _ _ rfl dF ⟨g,0,none⟩ 1 1 (#[.int .i64 q.k,.slice aQ q.I.length aO,.slice bt q.a.length bz,.slice aG q.l.length aU,.slice aN q.h.length aV,.slice aP q.s.length aW,.int .i64 q.v,.slice aT args.length aX]:Array Value).toList rfl rfl (λj u hu=>by rw[jW,qI];exact dL.at (by simpa using hu)) (by simp[Value.oneCell']) (by unfold maxLen;omega) (by omega) dj ?_;intro v' bG bV bw _ dt;obtain⟨Z,ak,dB,dS⟩:=ai.jk bV;subst dB;have cw:p≠m:=λe=>(E m a').2.1 e.symm
  have cx:∀g,(Value.slice a4 N.length a6).ownBlock=some g->g≠p:=λg bv=>(E g (be g bv)).2.1
  have bD:av bG p ty (.slice a4 N.length a6::vO::.map (some m)::rest).toArray:=(bw.block p (zW bX.lt dh) (λe=>cx p e.symm rfl)).trans (bX.go a_);have dV:=bw.size;have dz:=bD.cell 0;have dA:=bD.frozen 0;have bM:=qQ bV;have cN:=qQ bw;have bL:=qQ (show ∀b,(Value.slice Z (N.length+1) ak).ownBlock=some b->(Value.slice a4 N.length a6).ownBlock=some b\/b=W.heap.size from λb aE=>by
   rcases dt with h | h
   .exact .inl (h▸aE)
   exact .inr (by rw[h]at aE;injection aE with aE;exact aE.symm))
  have br:=qQ (show av (bG.setCell ⟨p,0,none⟩ (.slice Z (N.length+1) ak)) p ty (.slice Z (N.length+1) ak::vO::.map (some m)::rest).toArray from by
   have h:=bD.bs 0 (.slice Z (N.length+1) ak)
   rwa [bC.qm]at h)
  clear bV bw g1 g2 g3 g4;go_wp2_with fail;obtain⟨cH,cC⟩:=gz (bG.setCell ⟨p,0,none⟩ (.slice Z (N.length+1) ak));have y:=ch.set bG ⟨p,0,none⟩ (.slice Z (N.length+1) ak);rw[cC]at br y |-;have cP:=qQ y;clear cC y;have d2:IntKind.i64.wrap (N.length:Int)=(N.length:Int):=qA _ (by omega);have aJ:=λW (aE:Below cH.heap.size cH W)=>qZ (λi=>(br.q.go aE).cell i) True.intro
  refine aH (l:=[_]) [(0,50,[]),(1,51,[0]),(2,52,[1]),(3,53,[2]),(4,54,[]),(5,55,[]),(6,56,[5]),(7,57,[6]),(8,58,[7]),(9,59,[8]),(10,60,[9]),(11,61,[10])] [12] [.eq _,.eq _,.eq _,.eq _,.eq _,.eq _,.eq _,.eq _,.eq _,.eq _,.eq _,.eq _] (λW=>Below cH.heap.size cH W) (qK _ _).drew ((fr)<|(fr)<|(fr)<|(fr)<|(fr)<|(fr)<|(fr)<|(fr)<|(fr)<|(fr)<|(fr)<|(fr)<|fg) ?_ (λ_ _ h bO=>aA h bO);intros;rename_i b7 Y _ _ _ _ _ _ _ _ _ _ _ _;subst_vars;have dv:(∃es clock,x.heap[m]?=some (.map es clock))/\x.ownsMap Tryz.prog 9 (plainElem (H:=Unit) Tryz.prog 3) m N.length (bC.qc N):=by
   rcases cl with ⟨h,_⟩ | ⟨dW,h,_,hm⟩
   .cases h
   injection h with h
   injection h with h
   subst h;obtain⟨es,clock,aE,_⟩:=id hm;exact⟨⟨es,clock,aE⟩,hm⟩
  obtain⟨⟨es,clock,bb⟩,bT⟩:=dv;have bS:=bT.lt;have cm:∀g,(Value.slice a4 N.length a6).ownBlock=some g->g≠m:=λg bv e=>by
   subst e;obtain⟨cs,bR⟩:=bC.nF aq bv;rw[bR]at bb;cases bb
  have az:=ch.grown cN.q;have y:=cP.q;have m6:cH.heap[m]?=x.heap[m]?:=(y.block m (by omega) (zK cw)).trans ((az.block m (by omega) (λe=>cm m e rfl)).trans (a_.block m bS));have cq:b7.ownsMap Tryz.prog 9 (plainElem (H:=Unit) Tryz.prog 3) m N.length (bC.qc N):=by
   obtain⟨bN,da,aE,r⟩:=bT;exact⟨bN,da,(Y.block m (by have:=y.size;omega)).trans (m6.trans aE),r⟩
  obtain⟨cY,c4,c_⟩:=aK (qZ az (qZ y (qZ bb (qZ bS m6)))) (qZ a_ (qZ Y (qZ a9 (qZ E (qZ aq be))))) cB;clear cB cl aJ dz dA bD az y m6 bT;refine wpList_mapUpdate_own b7 rfl _ _ _ 49 rfl 9 3 bC.law underlying49 _ m N.length (bC.qc N) rfl cq (by unfold maxLen;omega) _ _ (bC.ov ⟨q,args⟩) rfl rfl bp.q (.lit (.int .i64 (N.length:Int))) [] (plainElem_int underlying3 (WalkArith.wf_i64 (by omega))) ?_;intro dX bA ap;have bY:av dX p ty (.slice Z (N.length+1) ak::vO::.map (some m)::rest).toArray:=(ap.block p (zW br.q.lt Y.size) (λe=>cw (by injection e))).trans (br.q.go Y);have dT:=bY.cell 0;have c3:=qQ bY;have cG:=qQ (qZ bA ap);clear bY bA ap cq;go_wp2_with fail;go_ret;rw[bK.q];refine⟨rfl,?_⟩;obtain⟨az,y,bb,bS,m6⟩:=cY.q;obtain⟨a_,Y,a9,E,aq,be⟩:=c4.q;obtain⟨bA,ap⟩:=cG.q;have z5:=az.size;have d5:=y.size;have d6:=Y.size;have d7:=ap.size;have hint:∀b cs aB,b≠p->x.heap[b]?=some (.cells cs 3 aB)->dX.heap[b]?=x.heap[b]?:=λb cs aB a1 aE=>by
   have bP:=bC.eH aE;have a0:=a_.block b bP;have bN:=az.block b (by omega) (λe=>by
    obtain⟨dO,bR⟩:=bC.nF aq e;rw[bR]at aE;injection aE with aE
    injection aE with _ aE _
    revert aE;decide)
   have db:=y.block b (by omega) a1;have dc:=Y.block b (by omega);have df:=ap.block b (by omega) (λe=>by
    injection e with e
    subst e;rw[bb]at aE;cases aE)
   rw[df,dc,db,bN,a0]
  have a2:∀{M v l},w.heap.size<=M->bC.tV M aC v l->bC.gP (λb=>(U b\/w.heap.size<=b)/\b≠p/\base<=b/\b<dX.heap.size) dX v l:=λ{M v l} dg h=>by
   refine h.move (λb cs aB a7 X=>?_);have bP:=bC.eH X;have dl:w.heap.size<=b:=qJ dg a7;have cy:=bI.q.size;have bf:a3.heap[b]?=aC.heap[b]?:=a5.q.1.block b bP;have bg:aw.heap[b]?=a3.heap[b]?:=a5.q.2.block b (by have:=a5.q.1.size;omega);have bh:x.heap[b]?=aw.heap[b]?:=a9.block b (by have:=a5.q.1.size;have:=a5.q.2.size;omega) (by
    rintro(h | h)
    .omega
    have:=(ah.q.own _ h).2.1;omega)
   have aF:x.heap[b]?=some (.cells cs 3 aB):=by rw[bh,bg,bf,X]
   have dM:=hint b cs aB (by omega) aF;exact⟨⟨.inr dl,by omega,by omega,by have:=bC.eH aF;omega⟩,by rw[dM,aF,X]⟩
  have dy:dX.ownsRow base 60 8 (.slice Z (N.length+1) ak) (N.length+1) _:=af.bq bM.q (λb aE=>by
   have cp:=(bM.q.lt b aE).2;have a1:b≠p:=λe=>by
    subst e;rcases bL.q b aE with h | h
    .exact cx _ h rfl
    omega
   have dk:b≠m:=λe=>by
    subst e;rcases bL.q b aE with h | h
    .exact cm _ h rfl
    omega
   rw[ap.block b (by omega) (λe=>dk (by injection e)),Y.block b (by omega),y.block b cp a1])
  refine⟨λb=>(U b\/w.heap.size<=b)/\b≠p/\base<=b/\b<dX.heap.size,⟨λb aE=>⟨aE.2.2.1,aE.2.2.2,aE.2.1⟩,ah.q.low,c0.q,_,_,c3.q,⟨_,by simpa using dy,λb aE=>?_,λi hi=>?_⟩,.inr ⟨m,rfl,⟨(E m a').1,(E m a').2.1,(E m a').2.2,by omega⟩,by rw[bC.BJ,qW];exact bA⟩⟩,?_,λb aE=>aE.1⟩
  .have cp:=(bM.q.lt b aE).2;rcases bL.q b aE with h | h
   .have:=E b (be b h);exact⟨this.1,this.2.1,this.2.2,by omega⟩
   exact⟨.inr (by omega),by omega,by omega,by omega⟩
  .have dG:aR.length=N.length*8:=aq.1;rcases jQ i N.length with du | du
   .have e:(N++[(⟨q,args⟩:J.Node)])[i]'(by simp;omega)=N[i]:=zR du;show HQ _ dX _ _ ((N++[(⟨q,args⟩:J.Node)])[i]'(by simp;omega));rw[e];refine(c_.q i du).map (λk v cg bE=>by rw[jX (by omega)];exact bE) (λv l h=>h.move λb cs aB a7 X=>?_);obtain⟨Ix,K0,Ku⟩:=E b a7;exact⟨⟨Ix,K0,Ku,by have:=bC.eH X;omega⟩,hint b cs aB K0 X⟩
   have dp:i=N.length:=by have:i<(N++[(⟨q,args⟩:J.Node)]).length:=hi;simp at this;omega
   subst dp;have e:(N++[(⟨q,args⟩:J.Node)])[N.length]'(by simp)=⟨q,args⟩:=by simp
   show HQ _ dX _ _ ((N++[(⟨q,args⟩:J.Node)])[N.length]'(by simp));rw[e];obtain⟨_,_,_,_,_,ee,bf,bg,bh,b2,aF⟩:=b6.q;injection ee with ee
   simp only[kV,zT]at ee;obtain⟨_,rfl,rfl,rfl,rfl,rfl,_⟩:=ee;have bc:w.heap.size<=bH.heap.size:=by omega
   have cy:=bn.q.size;have B:∀k,(aR++([.int .i64 q.k,.slice aQ q.I.length aO,.slice bt q.a.length bz,.slice aG q.l.length aU,.slice aN q.h.length aV,.slice aP q.s.length aW,.int .i64 q.v,.slice aT args.length aX]:List Value))[N.length*8+k]?=(([.int .i64 q.k,.slice aQ q.I.length aO,.slice bt q.a.length bz,.slice aG q.l.length aU,.slice aN q.h.length aV,.slice aP q.s.length aW,.int .i64 q.v,.slice aT args.length aX]:List Value))[k]?:=λk=>by rw[zO (by omega),dG];congr 1;omega
   exact⟨_,_,_,_,_,_,⟨B 0,B 1,B 2,B 3,B 4,B 5,B 6,B 7⟩,a2 bc bf,a2 bc bg,a2 bc bh,a2 bc b2,a2 bc aF,a2 cy b5.q⟩
  have t1:ch (λb=>b=p\/U b) w aw:=ch.of bo.q;have t2:=t1.trans a9 (λn fa=>.inl fa);have t3:=t2.trans (ch.of (U:=λ_=>False) a_) (λn fa=>fa.elim);have cb:∀n,Q n->(n=p\/U n)\/w.heap.size<=n:=λn fa=>by
   rcases(E n fa).1 with h | h
   .exact .inl (.inr h)
   exact .inr h
  have t4:=t3.trans az (λn fa=>cb n (be n fa));have t5:=t4.trans y (λn fa=>.inl (.inl fa));have t6:=t5.trans (ch.of (U:=λ_=>False) Y) (λn fa=>fa.elim);exact t6.trans (ch.grown ap) (λn fa=>by injection fa with fa;subst fa;exact cb _ a')
end Go.Proofs.YtabmnaaidfpmcaaGreatDoor
end
end
section
variable {k:Int}{l:List Int}{base c c' g h' n x:Nat}{A D D' X oi:Option Go.Addr}{w w':Go.World}
section
namespace Go.Proofs.YtabmnaaidfpmcaaGreatDoor
open Go.RowKit aS
namespace au
def eL(l:List Int):Prop:=l.length<=4294967296/\∀n∈l,aY.In64 n
theorem eL.nil:eL []:=⟨by simp,λn h=>by cases h⟩
def np(op:J.Op):Prop:=aY.In64 op.k/\aY.In64 op.v/\eL op.I/\eL op.a/\eL op.l/\eL op.h/\eL op.s
theorem Eg:aY.In64 0:=⟨by omega,by omega⟩
theorem LL{op:J.Op}{args:List Int}(h:np op)(I:eL args):aY.xu ⟨ae.plain op,args⟩:=by
 obtain⟨q,r,x,y,B,D,E⟩:=h;refine⟨q,?_,λl j=>?_⟩
 .show aY.In64 (if op.k=2 then op.v else 0);split
  .exact r
  exact Eg
 have i:∀(c:Prop) [Decidable c] (m:List Int),eL m->eL (if c then m else[]):=λc _ m hm=>by
   split
   .exact hm
   exact eL.nil
 simp only[aY.lists,xR,xP,vX]at j;rcases j with rfl | rfl | rfl | rfl | rfl | rfl
 .exact i _ _ x
 .exact i _ _ y
 .exact i _ _ B
 .exact i _ _ D
 .exact i _ _ E
 exact I
theorem np.short{op:J.Op}(h:np op):bC.cJ op:=by
 obtain⟨_,_,i,j,m,q,r⟩:=h;exact⟨qJ i.1 (by omega),qJ j.1 (by omega),qJ m.1 (by omega),qJ q.1 (by omega),qJ r.1 (by omega)⟩
theorem EI(i:aY.In64 k):np (ae.bH k):=⟨i,Eg,eL.nil,eL.nil,eL.nil,eL.nil,eL.nil⟩
theorem gq.below{base p:Nat}{w w':World}{ty:TypeId}{vO:Value}{rest:List Value}{U:Nat->Prop}{N N':List J.Node}(i:bC.At base w p ty vO rest U N)(h:bC.gq base w w' p ty vO rest U N'):Below base w w':=by
 obtain⟨d_,_,m,_⟩:=h;refine m.below (λb j=>?_) (qJ i.low (zG i.lt));rcases j with rfl | j
 .exact i.low
 exact(i.own b j).1
theorem gq.trans{base p:Nat}{w ag aC:World}{ty:TypeId}{vO:Value}{rest:List Value}{U oh:Nat->Prop}{N:List J.Node}(j:ch (λb=>b=p\/U b) w ag)(az:∀b,oh b->U b\/w.heap.size<=b)(h:bC.gq base ag aC p ty vO rest oh N):bC.gq base w aC p ty vO rest U N:=by
 obtain⟨m,q,r,x⟩:=h;refine⟨m,q,j.trans r (λn i=>?_),λb y=>?_⟩
 .rcases i with rfl | i
  .exact .inl (.inl rfl)
  exact(az n i).imp .inr id
 rcases x b y with h | h
 .exact az b h
 exact .inr (qJ j.size h)
theorem gq.same{p:Nat}{ty:TypeId}{vO:Value}{rest:List Value}{U:Nat->Prop}{N:List J.Node}(h:bC.At base w p ty vO rest U N)(i:Below w.heap.size w w'):bC.gq base w w' p ty vO rest U N :=
 ⟨U,h.c9 (ch.of (U:=λ_=>False) i) (λb h=>h.elim),ch.of i,λb h=>.inl h⟩
theorem gL(h:aY.gI base w)(j:Below base w w'):aY.gI base w':=λW i=>h W (j.trans i)
end au
abbrev au.W(base:Nat)(w:World)(p:Nat)(vO:Value)(rest:List Value)(U:Nat->Prop)(N:List J.Node):Prop:=bC.At base w p 54 vO rest U N
abbrev au.T(base:Nat)(w w':World)(p:Nat)(vO:Value)(rest:List Value)(U:Nat->Prop)(N:List J.Node):Prop:=bC.gq base w w' p 54 vO rest U N
section
variable {base p:Nat} {vO:Value} {rest:List Value} {U:Nat->Prop} {N:List J.Node}
theorem au.add(val di:Value)(op:J.Op)(args:List Int)(w:World)(m:au.W base w p vO rest U N)(x:af.bd w w.heap.size val op)(B:af.aN w w.heap.size di args)(j:au.np op)(i:au.eL args)(r:N.length<=1048576)(y:aY.gI base w):Calls Tryz.prog 47 #[.pointer (some ⟨p,0,none⟩),val,di] w λe w'=>e=.returned (.int .i64 (ae.add N op args).2)/\au.T base w w' p vO rest U (ae.add N op args).1:=by
 obtain⟨A,c,rfl,hi,_⟩:=B;exact bC.HV base p _ vO rest U N val op A c args w m x hi j.short (qJ i.1 (by omega)) (au.LL j i) r y
theorem au.CH : af.bd w w.heap.size (.agg #[.int .i64 k,.slice none 0 0,.slice none 0 0,.slice none 0 0,.slice none 0 0,.slice none 0 0,.int .i64 0]) (ae.bH k) :=
 ⟨_,_,_,_,_,rfl,af.aN.nil _ _,af.aN.nil _ _,af.aN.nil _ _,af.aN.nil _ _,af.aN.nil _ _⟩
theorem au.mq(A:Option Addr)(c:Nat)(d:List Int)(w:World)(i:au.W base w p vO rest U N)(hi:ai.ao w w.heap.size A d)(x:d.length<=c/\c<=9223372036854775807)(ar:au.eL d)(r:N.length<=1048576)(j:aY.gI base w):Calls Tryz.prog 26 #[.pointer (some ⟨p,0,none⟩),.slice A d.length c] w λe w'=>e=.returned (.int .i64 (ae.cA N d).2)/\au.T base w w' p vO rest U (ae.cA N d).1:=by
 have m:=qQ (au.add (.agg #[.int .i64 2,.slice A d.length c,.slice none 0 0,.slice none 0 0,.slice none 0 0,.slice none 0 0,.int .i64 0]) (.slice none 0 0) { ae.bH 2 with I:=d } [] w i
  ⟨_,_,_,_,_,rfl,⟨A,c,rfl,hi,x⟩,af.aN.nil _ _,af.aN.nil _ _,af.aN.nil _ _,af.aN.nil _ _⟩ (af.aN.nil _ _) ⟨show aY.In64 2 from⟨by omega,by omega⟩,au.Eg,ar,au.eL.nil,au.eL.nil,au.eL.nil,au.eL.nil⟩ au.eL.nil r j)
 clear i hi j;go_enter func26,ntmps26;go_wp2_with ((with_reducible refine m.q.mono ?_);rintro e ag ⟨rfl,y⟩);go_ret;exact⟨rfl,y⟩
theorem _root_.XG{G:Prop}(h:G:=by
 clear Ik Gd;go_enter func36,ntmps36;go_wp2_with fail;go_ret;rw[cj.q];exact⟨rfl,hB.q⟩
 ):G:=h
theorem au.mV(a b:Int)(w:World)(Ik:au.W base w p vO rest U N)(O:aY.In64 a)(Q:aY.In64 b)(E:N.length<=1048576)(Gd:aY.gI base w):Calls Tryz.prog 36 #[.pointer (some ⟨p,0,none⟩),.int .i64 a,.int .i64 b] w λe w'=>e=.returned (.int .i64 (ae.plus N a b).2)/\au.T base w w' p vO rest U (ae.plus N a b).1:=by
 have hB:=qQ (au.gq.same Ik (qK _ _));by_cases j:a<0
 .have cj:=qQ (show ae.plus N a b=(N,b) by unfold ae.plus;rw[qY j]);exact XG
 by_cases m:b<0
 .have cj:=qQ (show ae.plus N a b=(N,a) by unfold ae.plus;rw[qV j,qY m]);exact XG
 have cj:=qQ (show ae.plus N a b=ae.add N (ae.bH 3) [a,b] by unfold ae.plus;rw[qV j,qV m]);obtain⟨ag,S,y,i,s1⟩:=b8 w 3 #[.int .i64 a,.int .i64 b];have r:au.W base ag p vO rest U N:=Ik.c9 (ch.of (U:=λ_=>False) i) (λb h=>h.elim);have I:=qJ Ik.low (zG Ik.lt);have B:=qQ (au.add (.agg #[.int .i64 3,.slice none 0 0,.slice none 0 0,.slice none 0 0,.slice none 0 0,.slice none 0 0,.int .i64 0]) (.slice (some ⟨w.heap.size,0,none⟩) 2 2) (ae.bH 3) [a,b] ag r au.CH (af.dY y rfl (by omega)) (au.EI ⟨by omega,by omega⟩) ⟨by simp,λn x=>by simp at x;rcases x with rfl | rfl<;>assumption⟩ E (au.gL Gd (i.mono I)));have D:=qQ i;clear Ik Gd r y i;go_enter func36,ntmps36;go_wp2_with ((with_reducible refine B.q.mono ?_);rintro e ag ⟨rfl,M⟩);go_ret;rw[cj.q];exact⟨rfl,au.gq.trans (ch.of D.q) (λb h=>.inl h) M⟩
theorem au.iK(M:List J.Node)(op:J.Op)(l:List Int):0<=(ae.add M op l).2/\(ae.add M op l).2<=(M.length:Int)/\(ae.add M op l).1.length<=M.length+1:=by
 unfold ae.add;split
 .rename_i i h;obtain⟨hi,_⟩:=List.findIdx?_eq_some_iff_getElem.1 h;exact⟨by show(0:Int)<=(i:Int);omega,by show(i:Int)<=_;omega,by show M.length<=_;omega⟩
 exact⟨by show(0:Int)<=(M.length:Int);omega,wF _,by simp⟩
theorem au.lT(M:List J.Node)(d:List Int):0<=(ae.cA M d).2/\(ae.cA M d).2<=(M.length:Int)/\(ae.cA M d).1.length<=M.length+1:=au.iK M _ []
theorem au.Bh(k:Int)(l:List Int)(n:Nat)(x:l.length=n)(w ag:World)(j:au.W base w p vO rest U N)(D:av ag w.heap.size 3 (ints l).toArray)(i:Below w.heap.size w ag)(r:aY.In64 k)(m:au.eL l)(q:N.length<=1048576)(B:aY.gI base w):Calls Tryz.prog 47 #[.pointer (some ⟨p,0,none⟩),.agg #[.int .i64 k,.slice none 0 0,.slice none 0 0,.slice none 0 0,.slice none 0 0,.slice none 0 0,.int .i64 0],.slice (some ⟨w.heap.size,0,none⟩) n n] ag λe w'=>e=.returned (.int .i64 (ae.add N (ae.bH k) l).2)/\au.T base w w' p vO rest U (ae.add N (ae.bH k) l).1:=by
 have E:=m.1;subst x;refine(au.add _ _ (ae.bH k) l ag (j.c9 (ch.of (U:=λ_=>False) i) (λb h=>h.elim)) au.CH (af.dY D rfl (by omega)) (au.EI r) m q (au.gL B (i.mono (qJ j.low (zG j.lt))))).mono ?_;rintro e w' ⟨rfl,y⟩;exact⟨rfl,au.gq.trans (ch.of i) (λb h=>.inl h) y⟩
theorem _root_.ZH{G:Prop}(h:G:=by
 have Mc:=qQ (qZ dM s1);clear oc z2 z3 dm dM s1;go_wp2_with ((with_reducible refine ru.q.mono ?_);rintro e ag ⟨rfl,rv⟩);go_ret;rw[cj.q];exact⟨rfl,au.gq.trans Mc.q.1 Mc.q.2 rv⟩
 ):G:=h
theorem au.s7(x a b:Int)(A:Option Addr)(c:Nat)(d:List Int)(w:World)(I:au.W base w p vO rest U N)(aA:aY.In64 x)(Y:aY.In64 a)(Z:aY.In64 b)(hi:∀W,Below base w W->ai.ao W W.heap.size A d)(az:d.length<=c/\c<=9223372036854775807)(ar:au.eL d)(aB:N.length<=1048000)(Q:aY.gI base w):Calls Tryz.prog 48 #[.pointer (some ⟨p,0,none⟩),.int .i64 x,.int .i64 a,.int .i64 b,.slice A d.length c] w λe w'=>e=.returned (.int .i64 (ae.choice N x a b d).2)/\au.T base w w' p vO rest U (ae.choice N x a b d).1:=by
 obtain⟨B,S,m,E,r,ak⟩:=fq (λW (V:Nat->Prop) (M:List J.Node) (y z:Int) (h:au.W base W p vO rest V M) (aC:aY.In64 y) (aD:aY.In64 z) (O:M.length<=1048576) (aq:aY.gI base W)=>au.Bh 8 [x,y,z] 3 rfl W (W.alloc (.cells #[.int .i64 x,.int .i64 y,.int .i64 z] 3)) h (av.new _ _ _) ((qK _ _).alloc (qX _) _) ⟨by omega,by omega⟩ ⟨by simp,λn ah=>by simp at ah;rcases ah with rfl | rfl | rfl<;>assumption⟩ O aq) (λW (V:Nat->Prop) (M:List J.Node) (h:au.W base W p vO rest V M) (O:M.length<=1048576) (X:Below base w W)=>au.mq A c d W h (hi W X) az ar O (au.gL Q X)) I Q (qZ Y Z) (au.lT N d);have ap:=qQ (au.gq.same I (qK _ _));clear I Q hi aA Y Z;by_cases i:a<0
 .by_cases j:b<0
  .have cj:=qQ (show ae.choice N x a b d=(N,-1) by unfold ae.choice;rw[qY ⟨i,j⟩]);go_enter func48,ntmps48;go_wp2_with fail;go_ret;rw[cj.q];exact⟨rfl,ap.q⟩
  have cj:=qQ (show ae.choice N x a b d=ae.add (ae.cA N d).1 (ae.bH 8) [x,(ae.cA N d).2,b] by unfold ae.choice ae.full;rw[qV (λh=>j h.2),qV j,qY i]);go_enter func48,ntmps48;go_wp2_with (with_reducible refine(S.q _ _ _ m.q (by omega) (qK _ _)).mono ?_);rintro e ag rfl rv;have D:=qQ (au.gq.below m.q rv);obtain⟨oh,dm,dM,s1⟩:=rv;obtain⟨oc,z2,z3⟩:=ak.q;have ru:=qQ (B.q ag oh _ (ae.cA N d).2 b dm ⟨by omega,by omega⟩ r.q.2 (by omega) (au.gL E.q D.q));exact ZH
 by_cases j:b<0
 .have cj:=qQ (show ae.choice N x a b d=ae.add (ae.cA N d).1 (ae.bH 8) [x,a,(ae.cA N d).2] by unfold ae.choice ae.full;rw[qV (λh=>i h.1),qV i,qY j]);go_enter func48,ntmps48;go_wp2_with (with_reducible refine(S.q _ _ _ m.q (by omega) (qK _ _)).mono ?_);rintro e ag rfl rv;have D:=qQ (au.gq.below m.q rv);obtain⟨oh,dm,dM,s1⟩:=rv;obtain⟨oc,z2,z3⟩:=ak.q;have ru:=qQ (B.q ag oh _ a (ae.cA N d).2 dm r.q.1 ⟨by omega,by omega⟩ (by omega) (au.gL E.q D.q));exact ZH
 have cj:=qQ (show ae.choice N x a b d=ae.add N (ae.bH 8) [x,a,b] by unfold ae.choice ae.full;rw[qV (λh=>i h.1),qV i,qV j]);have ru:=qQ (B.q w U N a b m.q r.q.1 r.q.2 (by omega) E.q);go_enter func48,ntmps48;go_wp2_with ((with_reducible refine ru.q.mono ?_);rintro e ag ⟨rfl,rv⟩);go_ret;rw[cj.q];exact⟨rfl,rv⟩
end
theorem au.zq(l aa:List Int):(ae.pick l aa).length=aa.length:=by simp[ae.pick]
theorem au.oU(A bK:Option Addr)(cC aq:Nat)(l aa:List Int)(B:Nat)(w:World)(ah:B<=w.heap.size)(az:l.length<=1099511627776)(S:aa.length<=65536)(O:ai.ao w B A l)(Q:ai.ao w B bK aa)(y:∀k∈aa,0<=k/\k<(l.length:Int)):Calls Tryz.prog 25 #[.slice A l.length aq,.slice bK aa.length cC] w λe w'=>e=.returned (.slice (some ⟨w.heap.size,0,none⟩) aa.length aa.length)/\av w' w.heap.size 3 (ints (ae.pick l aa)).toArray/\Below w.heap.size w w':=by
 have Y:=qQ (λW (i:Below w.heap.size w W)=>qZ (O.below (i.mono ah)) (Q.below (i.mono ah)));have ag:=qQ y;have aA:=λW=>dz aa.length S W
 obtain⟨n,E⟩:=gz aa.length;obtain⟨m,hm⟩:=gz l.length;have M:=qQ E;have Z:=qQ hm;rw[E]at aA S |-;rw[hm]at az |-;clear O Q y E hm;have V:=qQ ((qK w.heap.size w).alloc (qX _) (.cells (ints (List.replicate n 0)).toArray 3));have X:=qQ (av.new w 3 (ints (List.replicate n 0)).toArray);go_enter func25,ntmps25;go_wp2_with fail;go_loopw [6,7,13] (λ_ _ I wr=>∃k:Nat,I=.int .i64 (k:Int)/\k<=n/\Below w.heap.size w wr/\av wr w.heap.size 3 (ints (ae.pick l (aa.take k)++List.replicate (n-k) 0)).toArray) (λ_ _ I _=>n-(intOf I).toNat)
 case atStart=>exact⟨0,rfl,by omega,V.q,X.q⟩
 obtain⟨k,rfl,aH,i,j⟩:=hrel;by_cases aI:k<n
 .have D:k<aa.length:=by have:=M.q;omega
  obtain⟨g1,g2⟩:=Y.q wr i;obtain⟨aC,aK,rfl,aE,bz⟩:=g2 (by omega);have ap:=bz k D;have y:=ag.q _ (qP D);have bR:=qQ (qD D);generalize aa[k]=U at ap y bR;obtain⟨q,rfl⟩:∃q:Nat,U=(q:Int):=⟨U.toNat,by omega⟩;have Lt:q<l.length:=by omega
  obtain⟨aB,aJ,rfl,aD,aO⟩:=g1 (by omega);have ak:=aO q Lt;have N:=qQ (show(ints (ae.pick l (aa.take k)++List.replicate (n-k) 0)).toArray.setIfInBounds k (.int .i64 l[q])=(ints (ae.pick l (aa.take (k+1))++List.replicate (n-(k+1)) 0)).toArray from by
   have cy:(ae.pick l (aa.take k)).length=k:=by rw[au.zq,qM];omega
   have bE:n-k=(n-(k+1))+1:=by omega
   have hs:ae.pick l (aa.take (k+1))=ae.pick l (aa.take k)++[l[q]]:=by
    rw[bR.q];simp[ae.pick,Lt]
   rw[ints_set,hs,bE,qF,jZ _ _ (by omega),cy,xB,kY,zE];rfl)
  have i1:=b2 k;have i2:(k:Int)<n:=by omega
  have i3:=b2 q;have i4:(q:Int)<(m:Int):=by have:=Z.q;omega
  have aG:=j.frozen k;have aF:(wr.cell? ⟨w.heap.size,k,none⟩)=some (.int .i64 0):=by
   rw[j.cell];have cy:(ae.pick l (aa.take k)).length=k:=by rw[au.zq,qM];omega
   have bE:n-k=(n-(k+1))+1:=by omega
   simp[ints,cy,bE,qF]
  have r:=qQ (qZ (i.setCell (p:=⟨w.heap.size,k,none⟩) (qX _) (.int .i64 l[q])) (j.bs k (.int .i64 l[q])));generalize l[q]=x at ak N r;clear aO bz g1 g2 y i j;go_wp2_with fail;go_roundw
  case rel=>exact⟨k+1,by go_num,by omega,r.q.1,by rw[<-N.q];exact r.q.2⟩
  case measure=>simp[intOf];omega
 obtain rfl:k=n:=by omega
 have e:aa.take k=aa:=by rw[<-M.q,zS]
 rw[e,xB,qG,xM]at j;have r:=qQ (qZ i j);clear i j e;go_wp2_with fail;go_ret;exact⟨rfl,r.q.2,r.q.1⟩
def au.L0(i:Nat)(t:TypeId)(cs:Array Value)(f:Nat->Value):aS.c8:=⟨λv w=>∃g,v=f g/\i<=g/\av w g t cs,λm ⟨g,e,j,h⟩=>⟨g,e,j,h.below m h.lt⟩⟩
section
variable {base p:Nat} {vO:Value} {rest:List Value} {U:Nat->Prop} {N:List J.Node}
theorem au.EO(A:Option Addr)(c:Nat)(d:List Int)(w:World)(j:au.W base w p vO rest U N)(hi:∀W,Below w.heap.size w W->ai.ao W W.heap.size A d)(ag:d.length<=c/\c<=9223372036854775807)(ar:au.eL d)(Z:N.length<=1048576)(D:aY.gI base w):Calls Tryz.prog 22 #[.pointer (some ⟨p,0,none⟩),.slice A d.length c] w λe w'=>e=.returned (.int .i64 (ae.param N d).2)/\au.T base w w' p vO rest U (ae.param N d).1:=by
 have aB:=qQ j;obtain⟨j1,hQ,hp,⟨aR,E,ap,aq⟩,ak⟩:=j.mem;obtain⟨az,aD,rfl,_⟩:=ai.jk E;have M:=qQ (λg W (m:Below w.heap.size w W) (ah:av W g 3 #[.int .i64 (N.length:Int)])=>au.add (.agg #[.int .i64 1,.slice A d.length c,.slice (some ⟨g,0,none⟩) 1 1,.slice none 0 0,.slice none 0 0,.slice none 0 0,.int .i64 0]) (.slice none 0 0) { ae.bH 1 with I:=d,a:=[(N.length:Int)] } [] W (j.c9 (ch.of (U:=λ_=>False) m) (λb h=>h.elim))
  ⟨_,_,_,_,_,rfl,⟨A,c,rfl,hi W m,ag⟩,af.dY ah rfl (by omega),af.aN.nil _ _,af.aN.nil _ _,af.aN.nil _ _⟩ (af.aN.nil _ _) ⟨show aY.In64 1 from⟨by omega,by omega⟩,au.Eg,ar,⟨by simp,λn y=>by simp at y;subst y;exact⟨by omega,by omega⟩⟩,au.eL.nil,au.eL.nil,au.eL.nil⟩ au.eL.nil Z (au.gL D (m.mono (qJ j.low (zG j.lt)))))
 have aJ:=λW (m:Below w.heap.size w W)=>λi=>(hp.go m).cell i
 clear j hi D E ap aq ak hp;go_enter func22,ntmps22;go_wp2_with fail;refine aH (l:=[_,_]) [(0,5,[]),(1,6,[0]),(2,7,[1]),(3,8,[]),(4,9,[]),(5,10,[4]),(6,11,[5]),(7,12,[6]),(8,13,[7]),(9,14,[8]),(10,15,[9]),(11,16,[10]),(12,17,[3,11])] [13,14] [.eq _,.eq _,.eq _,.eq _,.eq _,.eq _,.eq _,.eq _,.eq _,.eq _,.eq _,.row w.heap.size 3 1 #[.int .i64 (N.length:Int)],au.L0 w.heap.size 3 #[.int .i64 (N.length:Int)] (λg=>.agg #[.int .i64 1,.slice A d.length c,.slice (some ⟨g,0,none⟩) 1 1,.slice none 0 0,.slice none 0 0,.slice none 0 0,.int .i64 0])]
  (λW=>Below w.heap.size w W) (qK _ _).drew ((fr)<|(fr)<|(fr)<|(fr)<|(fr)<|(fr)<|(fr)<|(fr)<|(fr)<|(fr)<|(fr)<|cr ?_<|cr ?_<|fg) ?_ (λ_ _ h V=>aA h V)
 .intros;rename_i K aI;subst_vars;have a_:=(show Below w.heap.size w _ by assumption).size;exact XI
 .intros;rename_i h K aI;subst_vars;obtain⟨g,rfl,x,r⟩:=h;go_simp;exact aI.q _ _ (qK _ _) ⟨g,rfl,x,r⟩
 intros;rename_i W a_ _ _ _ _ _ _ _ _ _ _ _ X Y;subst_vars;obtain⟨g,rfl,x,r⟩:=Y;have Q:=qQ (M.q g W a_ r);have O:=qQ a_;clear X;go_wp2_with (with_reducible refine Q.q.mono ?_);rintro e aC ⟨rfl,B⟩;have S:=qQ (au.gq.trans (ch.of O.q) (λb h=>.inl h) B);clear B;go_wp2_with fail;go_ret;exact⟨rfl,S.q⟩
end
theorem au.r9(ps k:Nat)(x:J.Node)(l:List J.Node)(r:List J.Node × List Int):ae.b9 ps (x::l) k r=ae.b9 ps l (k+1) (if k<ps then(r.1,r.2++[(k:Int)])else((ae.add r.1 x.o (ae.pick r.2 x.a)).1,r.2++[(ae.add r.1 x.o (ae.pick r.2 x.a)).2])):=by
 show(if k<ps then _ else _)=_;by_cases h:k<ps
 .rw[qY h,qY h]
 rw[qV h,qV h]
theorem au.ri{aa:List Int}(h:∀n∈l,aY.In64 n):∀n∈ae.pick l aa,aY.In64 n:=λn j=>by
 obtain⟨a,_,rfl⟩:=List.mem_map.1 j;rw[qU];cases i:l[a.toNat]? with
 | none=>exact au.Eg
 | some v=>exact h v (jM i)
theorem ai.sv(h:w.ownsRow base 3 1 (.slice A n c) l.length (ints l)):ai.ao w w.heap.size A l:=by
 obtain⟨bK,c',e,i,_⟩:=(bC.gP.own h (qX base)).gB;injection e with e
 subst e;exact i
theorem au.push{ops:Array Oper}{rest:List Oper}{o:Oper}{a:Act}{W:World}{Q:Exit->Act->World->Prop}{s x:Operand}{v:Value}{L:List Int}{y:Int}(I:W.ownsRow base 3 1 v n (ints L))(m:av W g 3 #[.int .i64 y])(N:n<=1099511627776)(q:base<=W.heap.size)(h:∀A c w',w'.ownsRow base 3 1 (.slice A (n+1) c) (n+1) (ints (L++[y]))->W.grownBy w' v.ownBlock->((Value.slice A (n+1) c).ownBlock=v.ownBlock\/(Value.slice A (n+1) c).ownBlock=some W.heap.size)->wpList Tryz.prog ops Q rest (a.put o.dst (.slice A (n+1) c)) w')(r:o.guard=none:=by exact rfl)(E:o.op=.call { callee:=.builtin .append,args:=#[s,x],argTypes:=#[23,23] }:=by exact rfl)(az:a.eval s=v:=by exact rfl)(M:a.eval x=.slice (some ⟨g,0,none⟩) 1 1:=by exact rfl):wpList Tryz.prog ops Q (o::rest) a W:=by
 obtain⟨i0,g1,g2,g3,g4⟩:=xQ Tryz.dB;refine wV W r s x 23 E base 3 i0 (.int .i64 0) 1 8 underlying23 g1 g2 g3 g4 rfl (by decide) v n (ints L) az I ⟨g,0,none⟩ 1 1 [.int .i64 y] M rfl (λj u hu=>by rw[jW,qI];exact m.at (by simpa using hu)) (by simp[Value.oneCell']) (by unfold maxLen;omega) (by omega) q ?_;intro v' w' i B _ D;obtain⟨A,c,rfl,_⟩:=ai.jk i;exact h A c w' (by rw[ai.ec];exact i) B D
structure au.As (d_:Nat->Prop) (base:Nat) (w:World) (p:Nat) (vO:Value) (rest:List Value) (U:Nat->Prop) (M:List J.Node) (L:List Int) (v:Value) (wr:World):Prop where
 a:au.W base wr p vO rest d_ M
 k:ch (λb=>b=p\/U b) w wr
 s:∀b,d_ b->U b\/w.heap.size<=b
 r:wr.ownsRow w.heap.size 3 1 v L.length (ints L)
 o:∀g,v.ownBlock=some g->¬d_ g/\g≠p
def au.bY(base:Nat)(w:World)(p:Nat)(vO:Value)(rest:List Value)(U:Nat->Prop)(M:List J.Node)(L:List Int)(v:Value)(wr:World):Prop:=∃d_,au.As d_ base w p vO rest U M L v wr
section
variable {base p:Nat} {vO:Value} {rest:List Value} {U d_:Nat->Prop} {M N':List J.Node} {L:List Int} {v v':Value} {w wr w':World}
theorem au.As.below(h:au.As d_ base w p vO rest U M L v wr)(i:Below wr.heap.size wr w'):au.As d_ base w p vO rest U M L v w' :=
 ⟨h.a.c9 (ch.of (U:=λ_=>False) i) (λb h=>h.elim),h.k.trans (ch.of (U:=λ_=>False) i) (λn h=>h.elim),h.s,af.bq h.r (λg j=>i.block g (h.r.lt g j).2),h.o⟩
theorem au.As.add(h:au.As d_ base w p vO rest U M L v wr)(B:au.T base wr w' p vO rest d_ N'):au.bY base w p vO rest U N' L v w':=by
 obtain⟨V,D,x,y⟩:=B;refine⟨V,D,h.k.trans x (λn q=>?_),λb j=>?_,af.bq h.r (λg i=>x.block g (h.r.lt g i).2 (λhu=>?_)),λg i=>⟨λm=>?_,(h.o g i).2⟩⟩
 .rcases q with rfl | q
  .exact .inl (.inl rfl)
  exact(h.s n q).imp .inr id
 .rcases y b j with j | j
  .exact h.s b j
  exact .inr (qJ h.k.size j)
 .rcases hu with hu | hu
  .exact(h.o g i).2 hu
  exact(h.o g i).1 hu
 rcases y g m with m | m
 .exact(h.o g i).1 m
 have:=(h.r.lt g i).2;omega
theorem au.As.grow{L':List Int}(h:au.As d_ base w p vO rest U M L v wr)(y:w'.ownsRow w.heap.size 3 1 v' L'.length (ints L'))(i:wr.grownBy w' v.ownBlock)(j:v'.ownBlock=v.ownBlock\/∃z,v'.ownBlock=some z/\wr.heap.size<=z):au.bY base w p vO rest U M L' v' w':=by
 have m:=ch.grown i;refine⟨d_,h.a.c9 m (λb q=>h.o b q),h.k.trans m (λn x=>.inr (h.r.lt n x).1),h.s,y,λg i=>?_⟩;rcases j with j | ⟨z,j,B⟩
 .exact h.o g (by rw[<-j];exact i)
 have e:g=z:=by rw[j]at i;injection i with i;exact i.symm
 subst e;exact⟨λhu=>by have:=(h.a.own _ hu).2.1;omega,λe=>by have:=h.a.lt;omega⟩
end
section
variable {base p:Nat} {vO:Value} {U:Nat->Prop} {N:List J.Node}
theorem au.mx(ah:Option Addr)(aD:Nat)(aU aT:Value)(ps:Nat)(nodes:List J.Node)(w:World)(aG:au.W base w p vO [.slice ah nodes.length aD,aU,aT,.int .i64 (ps:Int)] U N)(bg:∀W,Below base w W->b4.eJ W W.heap.size ah nodes)(bh:∀x∈nodes,au.np x.o/\au.eL x.a/\x.a.length<=65536)(a':∀k (b1:k<nodes.length),ps<=k->∀a∈nodes[k].a,0<=a/\a<(k:Int))(b3:nodes.length<=4096)(cd:N.length<=500000)(bq:aY.gI base w):Calls Tryz.prog 23 #[.pointer (some ⟨p,0,none⟩)] w λe w'=>∃v,e=.returned v/\au.bY base w p vO [.slice ah nodes.length aD,aU,aT,.int .i64 (ps:Int)] U (ae.b9 ps nodes 0 (N,[])).1 (ae.b9 ps nodes 0 (N,[])).2 v w'/\(∀n∈(ae.b9 ps nodes 0 (N,[])).2,aY.In64 n)/\(ae.b9 ps nodes 0 (N,[])).2.length=nodes.length:=by
 obtain⟨bL,bM,bD,bR⟩:=cV bg bh a' bq;obtain⟨j1,hQ,hp,_⟩:=aG.mem;have bb:=λi=>hp.cell i
 have M:=qQ aG;obtain⟨n,aL⟩:=gz nodes.length;have a3:=qQ aL;rw[aL]at b3 M bb |-;clear bg bh a' bq aG hp aL;go_enter func23,ntmps23;go_wp2_with fail;go_loopw [3,4,5,12] (λv _ _ aQ wr=>∃(k:Nat) (r:List J.Node × List Int),aQ=.int .i64 (k:Int)/\k<=n/\r.2.length=k/\ae.b9 ps nodes 0 (N,[])=ae.b9 ps (nodes.drop k) k r/\(∀m∈r.2,aY.In64 m)/\r.1.length<=N.length+k/\au.bY base w p vO [.slice ah n aD,aU,aT,.int .i64 (ps:Int)] U r.1 r.2 v wr) (λ_ _ _ aQ _=>n-(intOf aQ).toNat)
 case atStart=>exact⟨0,(N,[]),rfl,by omega,rfl,by rw[vV],λm hm=>by simp at hm,by simp,U,M.q,ch.of (qK _ _),λb y=>.inl y,⟨rfl,.inl ⟨rfl,rfl⟩⟩,λg b0=>by simp[Value.ownBlock]at b0⟩
 obtain⟨k,r,rfl,b1,aO,bc,be,cn,V,Z⟩:=hrel;have ak:=qQ Z;have j:=qQ (qZ aO (qZ bc be));obtain⟨bB,cu,br,_⟩:=ai.jk Z.r;rw[aO]at br;subst br;obtain⟨cD,cB,bm,_⟩:=Z.a.mem;have aH:base<=w.heap.size:=qJ M.q.low (zG M.q.lt);have a1:=qQ (show Below base w wr from Z.k.below (λb y=>by
  rcases y with rfl | y
  .exact M.q.low
  exact(M.q.own b y).1) aH)
 have b5:=λi=>bm.cell i
 clear aO bc be Z;by_cases bf:k<n
 .have av:k<nodes.length:=by have:=a3.q;omega
  obtain⟨ca,on,rfl,ci,a_⟩:=bL.q wr a1.q (by omega);obtain⟨v1,v2,v3,v4,v5,v6,⟨cJ,cK,cL,cM,cN,cO,cP,cQ⟩,s1,s2,bv,bw,bz,az⟩:=a_ k av;obtain⟨a2,ap,bP⟩:=aK (zX av) (bM.q _ (qP av)) (bD.q k av);generalize nodes[k]=x at *;have Q:=qQ (qZ s1 (qZ s2 (qZ bv (qZ bw (qZ bz az)))));obtain⟨aV,cy,rfl,_⟩:=s1;obtain⟨dp,bE,rfl,_⟩:=s2;obtain⟨aW,hs,rfl,_⟩:=bv;obtain⟨aX,a7,rfl,_⟩:=bw;obtain⟨aZ,a8,rfl,_⟩:=bz;obtain⟨a0,a9,rfl,_⟩:=az;have i1:=b2 k;have i2:(k:Int)<n:=by omega
  clear a_ bm;obtain⟨B,b7,bt,eg,b_⟩:=b8 wr 60 #[.int .i64 x.o.k,.slice aV x.o.I.length cy,.slice dp x.o.a.length bE,.slice aW x.o.l.length hs,.slice aX x.o.h.length a7,.slice aZ x.o.s.length a8,.int .i64 x.o.v,.slice a0 x.a.length a9];obtain⟨O,ao,bH⟩:=aK (ak.q.below eg) eg (a1.q.trans (eg.mono (qJ aH ak.q.k.size)));obtain⟨cE,cC,aN,_⟩:=O.q.a.mem;have bn:=λi=>aN.cell i
  have bO:=qQ aN;have bK:=qQ bt;have cp:=O.q.k.size;clear bt eg b5 aN;by_cases bo:k<ps
  .obtain⟨cF,co,aR,aq,cA⟩:=b8 B 3 #[.int .i64 (k:Int)];rw[b_]at aR;have E:=(O.q.below aq).r;rw[j.q.1]at E;have bQ:=qQ (O.q.below aq);have cm:=aq.size;clear aq;go_wp2_with (at_builtin;refine au.push E aR (by omega) (by omega) ?_);intro bA bS cH Y S X;have aB:=qQ (bQ.q.grow (L':=r.2++[(k:Int)]) (by rw[qW,j.q.1];exact Y) S (X.imp id (λh=>⟨_,h,by omega⟩)));clear Y S X E aR bn;go_wp2_with fail;go_roundw
   case rel=>exact⟨k+1,(r.1,r.2++[(k:Int)]),by go_num,by omega,by rw[qW,j.q.1];rfl,by rw[j.q.2.1,a2.q,au.r9,qY bo],λm hm=>by
    rcases List.mem_append.1 hm with h | h
    .exact j.q.2.2 m h
    rw[List.mem_singleton.1 h];exact⟨by omega,by omega⟩,by show r.1.length<=_;omega,aB.q⟩
   case measure=>simp[intOf];omega
  have a4:=qQ (λW (y:Below B.heap.size B W)=>au.oU bB a0 a9 cu r.2 x.a W.heap.size W (qX _) (by rw[j.q.1];omega) ap.q.2.2 (((ai.sv O.q.r).below y).up y.size) (by
    obtain⟨_,_,_,_,_,az⟩:=Q.q;obtain⟨b',cb,aF,i6,_⟩:=az;injection aF with aF
    subst aF;exact(((i6.below ao.q).up ao.q.size).below y).up y.size) (λa bX=>by rw[j.q.1];exact bP.q (by omega) a bX))
  rw[j.q.1]at a4;go_wp2_with fail;clear b7;have aJ:=λW (y:Below B.heap.size B W)=>qZ (λi=>(bO.q.go y).cell i) (λi=>(bK.q.go y).cell i)
  refine gx 10 (λbV=>?_);refine e5 0 27 ?_;try simp only[Act.put,bj,bk,bl]
  refine h_ (l:=[_,_,_,_]) [(1,28,[]),(2,29,[0]),(3,30,[1]),(4,31,[]),(5,32,[3]),(6,33,[]),(7,34,[]),(8,35,[6]),(9,36,[5,7])] [10,11,12,13] [.eq _,.eq _,.eq _,.eq _,.eq _,.eq _,.eq _,.eq _,.row B.heap.size 3 x.a.length (ints (ae.pick r.2 x.a)).toArray]
   (λW=>Below B.heap.size B W) (qK _ _).drew ((fr)<|(fr)<|(fr)<|(fr)<|(fr)<|(fr)<|(fr)<|(fr)<|cr ?_<|fg) ?_ (λ_ _ h bT=>aA h bT)
  .intros;rename_i K aI;subst_vars;have D:=(show Below B.heap.size B _ by assumption);have b6:=D.size;go_simp;with_reducible refine(a4.q _ D).mono ?_
   rintro e ag ⟨rfl,aE,bU⟩;exact aI.q _ _ bU ⟨_,rfl,b6,aE⟩
  intros;rename_i W D _ _ _ _ _ _ _ _ aE;subst_vars;obtain⟨g9,rfl,cl,bZ⟩:=aE;have bF:=qQ bZ;have a5:=qQ (O.q.below D);have cg:base<=wr.heap.size:=qJ aH ak.q.k.size;have bW:=D.size;have bG:=qQ (bH.q.trans (D.mono (by omega)));have bN:=qQ (show af.bd W W.heap.size (.agg #[.int .i64 x.o.k,.slice aV x.o.I.length cy,.slice dp x.o.a.length bE,.slice aW x.o.l.length hs,.slice aX x.o.h.length a7,.slice aZ x.o.s.length a8,.int .i64 x.o.v]) x.o from
   (((af.bd.below (w:=wr) ⟨_,_,_,_,_,rfl,Q.q.1,Q.q.2.1,Q.q.2.2.1,Q.q.2.2.2.1,Q.q.2.2.2.2.1⟩ ao.q).up ao.q.size).below D).up bW)
  have bI:=qQ (au.add _ _ x.o (ae.pick r.2 x.a) W a5.q.a bN.q (af.dY (n:=x.a.length) bF.q (by simp[ae.pick]) (by have:=ap.q.2.2;omega)) ap.q.1 ⟨by simp[ae.pick];have:=ap.q.2.2;omega,au.ri j.q.2.2⟩ (by omega) (au.gL bR.q bG.q));clear bb bV bn aJ;go_wp2_with (with_reducible refine bI.q.mono ?_);rintro e ag ⟨rfl,bp⟩;have⟨cw,cx,cz⟩:=au.iK r.1 x.o (ae.pick r.2 x.a);obtain⟨j6,aP⟩:=a5.q.add bp;clear bp;obtain⟨cG,cq,bu,aC,jn⟩:=b8 ag 3 #[.int .i64 (ae.add r.1 x.o (ae.pick r.2 x.a)).2];have a6:=qQ (aP.below aC);have E:=a6.q.r;rw[j.q.1]at E;have cf:=aP.k.size;have cj:=aC.size;clear aC aP;rename_i cI bs;go_simp;refine bs _ _ ?_;clear bs;simp only[wK,zY,jB];go_wp2_with (at_builtin;refine au.push E bu (by omega) (by omega) ?_);intro bA bS cH Y S X;have aB:=qQ (a6.q.grow (L':=r.2++[(ae.add r.1 x.o (ae.pick r.2 x.a)).2]) (by rw[qW,j.q.1];exact Y) S (X.imp id (λh=>⟨_,h,by omega⟩)));clear Y S X E bu;go_wp2_with fail;go_roundw
  case rel=>exact⟨k+1,((ae.add r.1 x.o (ae.pick r.2 x.a)).1,r.2++[(ae.add r.1 x.o (ae.pick r.2 x.a)).2]),by go_num,by omega,by rw[qW,j.q.1];rfl,by rw[j.q.2.1,a2.q,au.r9,qV bo],λm hm=>by
   rcases List.mem_append.1 hm with h | h
   .exact j.q.2.2 m h
   rw[List.mem_singleton.1 h];exact⟨by omega,by omega⟩,by show(ae.add _ _ _).1.length<=_;omega,aB.q⟩
  case measure=>simp[intOf];omega
 have bf:k=n:=by omega
 subst bf;have bJ:=qQ (show ae.b9 ps nodes 0 (N,[])=r by
  rw[j.q.2.1,kQ (by have:=a3.q;omega)];exact rfl)
 go_wp2_with fail;go_ret;rw[bJ.q];exact⟨_,rfl,⟨V,ak.q⟩,j.q.2.2,by rw[j.q.1]⟩
end
namespace b4
theorem Rows.at_{N k:Nat}{ls:List (List Int)}(h:Rows N w (.slice A k c) ls)(ag:ls.length=k){j:Nat}(S:j<ls.length):∃b m G gc,A=some ⟨b,0,none⟩/\N<=b/\b<w.heap.size/\w.cell? ⟨b,j,none⟩=some (.slice G m gc)/\m=ls[j].length/\af.aN w w.heap.size (.slice G m gc) ls[j]:=by
 obtain⟨b,off,e,M,Q⟩:=h.lists (by omega);obtain⟨aR,B,D,X⟩:=h;obtain⟨v,r,az⟩:=Q j S;obtain⟨G,gc,rfl,hi,E,I⟩:=az;have hp:0<k:=by omega
 rcases B.2 with ⟨i,W⟩ | ⟨g,cap,cur,i,O,Z,Y,hm,ah,ak⟩
 .have:=D.1;omega
 injection i with q U V
 rw[q]at e;injection e with e
 injection e with x y
 subst x y;rw[qI]at r;exact⟨g,_,G,gc,q,O,M,r,rfl,⟨G,gc,rfl,hi,E,I⟩⟩
theorem Rows.set{N k c:Nat}{w ag:World}{b:Nat}{ls:List (List Int)}(h:Rows N w (.slice (some ⟨b,0,none⟩) k c) ls){j:Nat}(O:j<ls.length){v:Value}{l:List Int}(I:Below w.heap.size w ag)(M:af.dZ w.heap.size ag v l):Rows N (ag.setCell ⟨b,j,none⟩ v) (.slice (some ⟨b,0,none⟩) k c) (ls.set j l):=by
 obtain⟨aR,E,r,S⟩:=h;have aF:aR.length=ls.length:=r.1;have Y:ag.ownsRow N 23 1 (.slice (some ⟨b,0,none⟩) k c) aR.length aR:=af.bq E (λg i=>I.block g (E.lt g i).2);have aI:b<w.heap.size:=(E.lt b (by simp[Value.ownBlock])).2;have ak:∀j (O:j<aR.length) (U:j<ls.length),0<ls[j].length->∀g,aR[j].ownBlock=some g->g≠b:=λj O U hp g i e=>S j O U g hp i (by rw[e];rfl)
 have V:∀{v:Value} {l:List Int} {B:Nat},af.aN ag B v l->(0<l.length->∀g,v.ownBlock=some g->g≠b)->∀u,af.aN (ag.setCell ⟨b,j,none⟩ u) B v l:=λ{v l B} az aB u=>by
  obtain⟨A,cc,rfl,hi,r⟩:=az;refine⟨A,cc,rfl,λhp=>?_,r⟩;obtain⟨y,off,rfl,aA,ap⟩:=hi hp;refine⟨y,off,rfl,aA,λq hq=>?_⟩;exact(xE (qN ag ⟨b,j,none⟩ u y (aB hp y rfl))).trans (ap q hq)
 refine⟨aR.set j v,?_,⟨by simp[aF],λq Q aG=>?_⟩,λq Q aG g hp i=>?_⟩
 .rcases Y.2 with ⟨D,aH⟩ | ⟨g,cap,cur,D,Z,aq,ao,hm,aC,aD⟩
  .injection D with m;cases m
  injection D with m W X
  injection m with m
  injection m with m
  subst m X;refine⟨(zF _).symm,.inr ⟨b,c,cur.setIfInBounds j v,by rw[W];simp,Z,?_,by simpa using ao,hm,by simpa using aC,?_⟩⟩
  .have ah:av ag b 23 cur:=aq;exact ah.bs j v
  have aE:cur.toList.take aR.length=aR:=by simpa using aD
  simp only[xJ,zF,Array.toList_setIfInBounds];rw[List.take_set,aE]
 .have x:q<aR.length:=by simpa using Q
  by_cases e:q=j
  .subst e;have g1:(aR.set q v)[q]=v:=by simp
   have g2:(ls.set q l)[q]=l:=by simp
   rw[g1,g2];refine(V M.1 (λhp g i=>?_) v).up (by simp);have:=M.2 hp g i;omega
  rw[wW (zK e),wW (zK e)];have az:=(r.2 q x (by omega)).below I;refine(V az (λhp g i=>ak q x (by omega) hp g i) v).up ?_;simp;exact I.size
 have x:q<aR.length:=by simpa using Q
 by_cases e:q=j
 .subst e;have g1:(aR.set q v)[q]=v:=by simp
  have g2:(ls.set q l)[q]=l:=by simp
  rw[g1]at i;rw[g2]at hp;have:=M.2 hp g i;intro m;simp[Value.ownBlock]at m;omega
 rw[wW (zK e)]at hp i;exact S q x (by omega) g hp i
end b4
theorem b4.sd(val:Value)(g:J.bh)(B:Nat)(w:World)(ah:B<=w.heap.size)(bd:b4.fE g)(h:b4.cx w B val g):Calls Tryz.prog 45 #[val] w λe w'=>b4.Bg w w' (J.look g) e:=by
 have aJ:=qQ (h.bI ah);obtain⟨A,c,vo,rfl,bc,bb,a6,⟨O,co,rfl,io,lo,bj⟩⟩:=h;have D:=qQ (av.new w 25 #[.slice A g.n.length c,.slice O g.o.length co]);have M:=qQ ((qK w.heap.size w).alloc (qX _) (.cells #[.slice A g.n.length c,.slice O g.o.length co] 25));obtain⟨ak,bg⟩:=gz (w.alloc (.cells #[.slice A g.n.length c,.slice O g.o.length co] 25));rw[bg]at D M;have b0:ak.cell? ⟨w.heap.size,0,none⟩=some (.slice A g.n.length c):=D.q.cell 0;have aV:ak.cell? ⟨w.heap.size,1,none⟩=some (.slice O g.o.length co):=D.q.cell 1;have ap:=qQ (b4.sy _ g ak.heap.size ak (qX _) bd (aJ.q ak M.q));obtain⟨hlen,X⟩:=J.k5 g;obtain⟨⟨ds,bl⟩,aE⟩:∃r,J.look g=r:=⟨_,rfl⟩;rw[aE]at ap X hlen |-;have aL:=qQ (show ds.length<=4096 from hlen);have aU:=qQ X;clear bc io lo bj bb a6 aE X hlen;go_enter func45,ntmps45;go_wp2_with fail
 ((with_reducible refine ap.q.mono ?_);rintro e ag ⟨⟨aQ,bJ,aO,rfl,aD,x⟩,az⟩)
 obtain⟨aN,aG,N⟩:=aK (x.lower (zG D.q.lt)) (aA M.q az) aD;clear x az b0 aV aD;go_wp2_with fail;go_loopw [14] (λY wr=>∃(k:Nat) (cur:List (List Int)),Y=.int .i64 (k:Int)/\k<=bJ/\cur=ds/\Below w.heap.size w wr/\b4.Rows w.heap.size wr (.slice aQ bJ aO) cur) (λY _=>bJ-(intOf Y).toNat)
 case atStart=>exact⟨0,ds,rfl,by omega,rfl,aG.q,aN.q⟩
 obtain⟨k,cur,rfl,bs,rfl,S,x⟩:=hrel;have Z:=qQ S;have Q:=qQ x;by_cases bt:k<bJ
 .have I:k<cur.length:=by have:=N.q;omega
  obtain⟨b,m,G,gc,rfl,a3,aB,E,aC,be⟩:=x.at_ (by have:=N.q;omega) I;obtain⟨bk,bn,y,hi,a_,bu⟩:=be;have a':=aU.q cur[k] (qP I);rw[aC]at E;injection y with i a0 a1
  subst i a1;have ao:=qQ (eM G gc cur[k] wr.heap.size wr (by omega) hi (qX _));have aT:=qQ (show cur.set k cur[k]=cur from List.set_getElem_self I);have i0:k<4096:=by have:=aL.q;omega
  have i1:=b2 k;have i2:(k:Int)<bJ:=by omega
  have aq:=qQ (λaw v (j:Below wr.heap.size wr aw) (a7:af.dZ wr.heap.size aw v cur[k])=>aT.q▸Q.q.set I j a7);have U:∀W,Below wr.heap.size wr W->W.frozen? ⟨b,k,none⟩=false:=λW a4=>by
   obtain⟨aR,a2,_,_⟩:=Q.q;rcases a2.2 with ⟨y,bo⟩ | ⟨bm,cap,aX,y,bp,a8,bq,hm,bv,bw⟩
   .injection y with i;cases i
   injection y with i
   injection i with i
   injection i with i
   subst i;have a5:av wr b 23 aX:=a8;exact(a5.below a4 aB).frozen k
  have aI:=qQ U;clear hi S x aC a0 U;generalize cur[k]=l at E ao aq a_ a';go_wp2_with fail
  ((with_reducible refine ao.q.mono ?_);rintro e aw ⟨v,rfl,V,j⟩)
  have aP:=qQ (aq.q aw v j (af.lH V (qX _)));obtain⟨aF,aW,bf,_⟩:=ai.aZ V;subst bf;have aH:=qQ ((aA Z.q j).setCell (p:=⟨b,k,none⟩) a3 (.slice aF l.length aW));have U:=aI.q aw j;have br:=(j.cell (p:=⟨b,k,none⟩) aB).trans E;clear V j E;go_wp2_with fail;go_roundw
  case rel=>exact⟨k+1,cur,by go_num,by omega,rfl,aH.q,aP.q⟩
  case measure=>simp[intOf];omega
 have a9:k=bJ:=by omega
 subst a9;clear S x;go_wp2_with fail
 go_ret2
 exact⟨⟨_,_,_,rfl,N.q,Q.q⟩,Z.q⟩
def au.many(l:List J.Node):Nat:=(l.map λx=>x.a.length).sum
theorem au.qf(l:List J.Node)(k:Nat)(i:k<l.length):au.many (l.take (k+1))=au.many (l.take k)+l[k].a.length:=by
 unfold au.many;rw[qD i,zI,List.sum_append];rfl
theorem au.BL(l:List J.Node)(M:Nat)(k:Nat)(h:∀x∈l,x.a.length<=M)(i:k<=l.length):au.many (l.take k)<=k*M:=by
 induction k with
 | zero=>exact yX _
 | succ k j =>
  rw[au.qf l k i,Nat.succ_mul];exact Nat.add_le_add (j (by omega)) (h _ (qP i))
theorem au.s4(g:J.bh)(k:Nat)(i:k<g.n.length):ae.begun g (k+1)=(ae.add (ae.begun g k) g.n[k].o []).1:=by
 unfold ae.begun;rw[qD i,jE];rfl
theorem au.ya(g:J.bh)(k:Nat)(i:k<=g.n.length):(ae.begun g k).length<=k:=by
 induction k with
 | zero=>simp[ae.begun]
 | succ k j =>
  rw[au.s4 g k i];have:=(au.iK (ae.begun g k) g.n[k].o []).2.2;have:=j (by omega);omega
def au.KJ(w w':World)(val:Value)(g:J.bh)(p:Nat):Prop:=∃i j m vo q U,val=.agg #[.slice j g.n.length m,vo]/\Below w.heap.size w i/\b4.Rows w.heap.size i q (J.look g).1/\Below i.heap.size i w' /\
 au.W i.heap.size w' p (.slice none 0 0) [.slice j g.n.length m,vo,q,.int .i64 (J.params g.n:Int)] U (ae.begun g (J.params g.n))
theorem _root_.ZR{G:Prop}(h:G:=by
 refine(show wrap64 _=_ from uD ((n:Int)+(g.o.length:Int)+(au.many (g.n.take k):Int)+(x.a.length:Int)) (by rw[I4.q]at oe;omega)).trans ?_;rw[I4.q];omega
 ):G:=h
theorem au.uy(val:Value)(g:J.bh)(B:Nat)(w:World)(ah:B<=w.heap.size)(bt:b4.fE g)(h:b4.cx w B val g)(dc:g.o.length<=4194304)(bS:∀x∈g.n,au.np x.o)(bV:aY.gI w.heap.size w):Calls Tryz.prog 21 #[val] w λe w'=>Below w.heap.size w w'/\((ae.aF g≠0/\e=.returned (.tuple #[.pointer none,.int .i64 (ae.aF g)]))\/(ae.aF g=0/\∃p,e=.returned (.tuple #[.pointer (some ⟨p,0,none⟩),.int .i64 0])/\au.KJ w w' val g p)):=by
 have a':=qQ (h.bI ah);obtain⟨A,c,vo,rfl,bR,cM,db,⟨O,co,rfl,io,lo,c0⟩⟩:=h;have cd:=qQ bS;have cp:=qQ bV;obtain⟨ak,df,bv,b0,c_⟩:=b8 w 25 #[.slice A g.n.length c,.slice O g.o.length co];have bB:=qQ (b4.sd _ g ak.heap.size ak (qX _) bt (a'.q ak b0));have bA:=qQ (J.k5 g).1;obtain⟨bz,Q,bw⟩:=aK (λe=>(ae.gb (g:=g) e).1) bv b0;have cV:=λi=>bv.cell i
 have aR:=qQ (show ae.aF g=if (J.look g).2≠0 then(J.look g).2 else if 512<ae.h6 g then 5 else 0 from rfl);obtain⟨⟨ds,cz⟩,bs⟩:∃r,J.look g=r:=⟨_,rfl⟩;rw[bs]at bB bA bz aR;obtain⟨cm,bF,bH⟩:=aK (qZ bs True.intro) (bR.bI ah) bt;clear bR io lo c0 bs bv b0 bS bV bt;go_enter func21,ntmps21;go_wp2_with (with_reducible refine bB.q.mono ?_);rintro e ag ⟨⟨aQ,bJ,aO,rfl,bQ,bT⟩,a2⟩;have a9:=qQ a2;have cl:=qQ bT;have cY:=λi=>(Q.q.go a2).cell i
 have di:=a2.size;clear bT a2 cV;by_cases bn:cz=0
 .subst bn;have a3:ds.length=g.n.length:=bz.q rfl;have cN:g.n.length<=4096:=by have:=bA.q;omega
  have bE:=qQ (show ae.h6 g=g.n.length+g.o.length+au.many (g.n.take g.n.length) by rw[zS];exact rfl);have bD:=qQ (λk bo=>au.BL g.n 4194304 k (λx cU=>(bH.q x cU).2) bo);obtain⟨n,bp⟩:=gz g.n.length;have S:=qQ (qZ bp True.intro);have N:=qQ (bw.q.trans (a9.q.mono (qJ (zG Q.q.lt) (qX _))));rw[bp]at cM cN a3 cY bD bE a' Q |-;have dj:IntKind.i64.wrap ((n:Int)+(g.o.length:Int))=((n+g.o.length:Nat):Int):=by rw[qA _ (by omega)];omega
  obtain⟨m1,cK⟩:=gz bJ;have cL:n=bJ:=(bQ.trans a3).symm;clear cK m1 bQ;subst cL;have c7:=qQ (qZ a3 True.intro);clear bp a3;go_wp2_with fail;go_loopw [6,8,30] (λc2 _ E wr=>∃k:Nat,E=.int .i64 (k:Int)/\k<=n/\c2=.int .i64 ((n+g.o.length+au.many (g.n.take k):Nat):Int)/\Below ag.heap.size ag wr) (λ_ _ E _=>n-(intOf E).toNat)
  case atStart=>exact⟨0,rfl,by omega,by simp[au.many],qK _ _⟩
  obtain⟨k,rfl,bo,rfl,ao⟩:=hrel;have aE:=qQ ao;have cZ:=ao.size;by_cases M:k<n
  .have D:k<g.n.length:=by have:=S.q.1;omega
   obtain⟨bM,on,rfl,cH,X⟩:=bF.q wr (aA N.q ao) (by omega);obtain⟨v1,v2,v3,v4,v5,v6,⟨bW,bX,bY,bZ,b1,b3,b5,b6⟩,s1,s2,a4,a5,a6,a7⟩:=X k D;have I4:=qQ (au.qf g.n k D);have oe:=bD.q (k+1) M;have c5:=qQ (bH.q _ (qP D)).2;generalize g.n[k]=x at *;obtain⟨az,aT,rfl,_⟩:=s1;obtain⟨dp,aU,rfl,_⟩:=s2;obtain⟨aB,aV,rfl,_⟩:=a4;obtain⟨aC,aW,rfl,_⟩:=a5;obtain⟨aD,aX,rfl,_⟩:=a6;obtain⟨a8,bc,rfl,_⟩:=a7;have i1:=b2 k;have i2:(k:Int)<n:=by omega
   obtain⟨aq,cT,ap,eg,c3⟩:=b8 wr 60 #[.int .i64 x.o.k,.slice az x.o.I.length aT,.slice dp x.o.a.length aU,.slice aB x.o.l.length aV,.slice aC x.o.h.length aW,.slice aD x.o.s.length aX,.int .i64 x.o.v,.slice a8 x.a.length bc];have y:=qQ (ao.trans (eg.mono cZ));have dh:=λi=>ap.cell i
   have c1:wrap64 ((n:Int)+(g.o.length:Int)+(au.many (g.n.take k):Int)+(x.a.length:Int))=((n+g.o.length+au.many (g.n.take (k+1)):Nat):Int):=by
    exact ZR
   clear X eg ap ao;go_wp2_with fail;go_roundw
   case rel=>exact⟨k+1,by go_num,by omega,by rw[c1],y.q⟩
   case measure=>simp[intOf];omega
  have M:n=k:=by omega
  subst M;rw[<-bE.q]at *;by_cases bN:512<ae.h6 g
  .go_wp2_with fail
   go_ret2
   refine⟨N.q.trans (aE.q.mono (by have:=N.q.size;omega)),.inl ?_⟩;rw[aR.q,qV (by decide),qY bN];exact⟨by decide,rfl⟩
  obtain⟨j,cQ⟩:∃j:World,j=wr:=⟨_,rfl⟩;subst cQ;have cF:ae.aF g=0:=by rw[aR.q,qV (by decide),qV bN]
  have ci:=qQ (λW cD=>b4.tD _ g W.heap.size W (qX _) (a'.q W cD));have aZ:=N.q.trans (aE.q.mono N.q.size);have bP:=λW (m:Below j.heap.size j W) (i:Nat)=>((Q.q.go a9.q).go aE.q).go m |>.cell i
  have bm:=aZ.size;go_wp2_with fail;have aJ:=λW (m:Below j.heap.size j W)=>qZ (bP W m) True.intro
  refine gx 6 (λbe=>?_);refine e5 1 43 ?_;try simp only[Act.put,bj,bk,bl]
  refine h_ (l:=[_]) [(0,42,[]),(2,44,[]),(3,45,[1]),(4,46,[0,2]),(5,47,[3])] [6] [.eq _,.eq _,.eq (.int .i64 (J.params g.n:Int)),.eq _,.aL j.heap.size 54 #[.slice none 0 0,.slice none 0 0,.map none,.slice A n c,.slice O g.o.length co,.slice aQ n aO,.int .i64 (J.params g.n:Int)]]
   (λW=>Below j.heap.size j W) (qK _ _).drew ((fr)<|(fr)<|cr ?_<|(fr)<|cr ?_<|fg) ?_ (λ_ _ h Y=>aA h Y)
  .intros;rename_i K aI;subst_vars;have a_:=(show Below j.heap.size j _ by assumption);go_simp;with_reducible refine(ci.q _ (aZ.trans (a_.mono bm))).mono ?_
   rintro e ag ⟨rfl,cA⟩;exact aI.q _ _ cA rfl
  .intros;rename_i K aI;subst_vars;have a_:=(show Below j.heap.size j _ by assumption).size;exact XI
  intros;rename_i W a_ _ _ _ _ h;subst_vars;obtain⟨p,rfl,cO,bq⟩:=h;have aP:=qQ (show au.W j.heap.size W p (.slice none 0 0) [.slice A n c,.slice O g.o.length co,.slice aQ n aO,.int .i64 (J.params g.n:Int)] (λ_=>False) []from
   ⟨λb h=>h.elim,cO,List.nodup_nil,_,_,bq,⟨[],⟨rfl,.inl ⟨rfl,rfl⟩⟩,λg cJ=>by simp[Value.ownBlock]at cJ,λi hi=>by simp at hi⟩,.inl ⟨rfl,rfl⟩⟩)
  have bG:=qQ bq;have bb:=qQ a_;have cB:=a_.size;have cP:J.params g.n<=n:=by have:=J.dO g.n;have:=S.q.1;omega
  obtain⟨ps,br⟩:=gz (J.params g.n);have cj:=qQ (qZ br True.intro);rw[br]at aP bG cP |-;clear br aJ be a_ bq;go_wp2_with fail;have aJ:=λbg (m:Below W.heap.size W bg)=>qZ (bP bg (bb.q.trans (m.mono cB))) (λi=>(bG.q.go m).cell i)
  refine gx 6 (λbe=>?_);refine e5 8 56 ?_;try simp only[Act.put,bj,bk,bl]
  refine h_ (l:=[_,_]) [(0,48,[]),(1,49,[0]),(2,50,[]),(3,51,[2]),(4,52,[3]),(5,53,[4])] [6,7] [.eq _,.eq _,.eq _,.eq _,.eq _,.eq _]
   (λbg=>Below W.heap.size W bg) (qK _ _).drew ((fr)<|(fr)<|(fr)<|(fr)<|(fr)<|(fr)<|fg) ?_ (λ_ _ h Y=>aA h Y)
  intros;rename_i c' a0 _ _ _ _ _ _;subst_vars;clear be;have c6:=qQ a0;have cu:=qQ (au.gq.same aP.q a0);have da:=a0.size;clear a0;have cW:=b2 ps;have cX:(ps:Int)<=c:=by omega
  go_wp2_with fail;go_loopw [11,56] (λ_ E c4=>∃k:Nat,E=.int .i64 (k:Int)/\k<=ps/\au.T j.heap.size W c4 p (.slice none 0 0) [.slice A n c,.slice O g.o.length co,.slice aQ n aO,.int .i64 (ps:Int)] (λ_=>False) (ae.begun g k)) (λ_ E _=>ps-(intOf E).toNat)
  case atStart=>exact⟨0,rfl,by omega,cu.q⟩
  obtain⟨k,rfl,bo,bu⟩:=hrel;have aG:=qQ (aZ.trans ((bb.q.trans ((au.gq.below aP.q bu).mono (qX _))).mono bm));have bK:=qQ bu;by_cases M:k<ps
  .have D:k<g.n.length:=by have:=S.q.1;omega
   obtain⟨oh,a1,bf,bO⟩:=bu;obtain⟨cb,b7,cg⟩:=aK (au.ya g k (by omega)) (au.s4 g k D) (cd.q _ (qP D));obtain⟨bM,on,rfl,cH,X⟩:=bF.q wr aG.q (by omega);obtain⟨v1,v2,v3,v4,v5,v6,⟨bW,bX,bY,bZ,b1,b3,b5,b6⟩,s1,s2,a4,a5,a6,a7⟩:=X k D;generalize g.n[k]=x at *;have V:=qQ (qZ s1 (qZ s2 (qZ a4 (qZ a5 (qZ a6 a7)))));obtain⟨az,aT,rfl,_⟩:=s1;obtain⟨dp,aU,rfl,_⟩:=s2;obtain⟨aB,aV,rfl,_⟩:=a4;obtain⟨aC,aW,rfl,_⟩:=a5;obtain⟨aD,aX,rfl,_⟩:=a6;obtain⟨a8,bc,rfl,_⟩:=a7;have i1:=b2 k;have i2:(k:Int)<ps:=by omega
   obtain⟨aq,cT,ap,eg,c3⟩:=b8 wr 60 #[.int .i64 x.o.k,.slice az x.o.I.length aT,.slice dp x.o.a.length aU,.slice aB x.o.l.length aV,.slice aC x.o.h.length aW,.slice aD x.o.s.length aX,.int .i64 x.o.v,.slice a8 x.a.length bc];obtain⟨b_,cn,cw,y,ca⟩:=fC bf bO a1 eg ap;have cI:=eg.size;have dg:=bf.size;have cC:=aG.q.size;clear bf bO a1 eg ap X;go_wp2_with fail;have aJ:=λbg (m:Below aq.heap.size aq bg)=>qZ (λi=>(ca.q.go m).cell i) True.intro
   refine aH (l:=[_]) [(0,60,[]),(1,61,[0]),(2,62,[1]),(3,63,[]),(4,64,[3])] [5] [.eq _,.eq _,.eq _,.eq _,.eq _]
    (λbg=>Below aq.heap.size aq bg) (qK _ _).drew ((fr)<|(fr)<|(fr)<|(fr)<|(fr)<|fg) ?_ (λ_ _ h Y=>aA h Y)
   intros;rename_i W2 Z _ _ _ _ _;subst_vars;have cG:=Z.size;have b':=qQ (show ch (λb=>b=p\/False) W W2 from(b_.q.trans (ch.of (U:=λ_=>False) y.q) (λn h=>h.elim)).trans (ch.of (U:=λ_=>False) Z) (λn h=>h.elim));have cy:=qQ (show au.W j.heap.size W2 p (.slice none 0 0) [.slice (some ⟨bM,on,none⟩) n c,.slice O g.o.length co,.slice aQ n aO,.int .i64 (ps:Int)] oh (ae.begun g k)from
    (cw.q.c9 (ch.of (U:=λ_=>False) y.q) (λb h=>h.elim)).c9 (ch.of (U:=λ_=>False) Z) (λb h=>h.elim))
   have cf:=qQ (show af.bd W2 W2.heap.size (.agg #[.int .i64 x.o.k,.slice az x.o.I.length aT,.slice dp x.o.a.length aU,.slice aB x.o.l.length aV,.slice aC x.o.h.length aW,.slice aD x.o.s.length aX,.int .i64 x.o.v]) x.o from
    (((af.bd.below (w:=wr) ⟨_,_,_,_,_,rfl,V.q.1,V.q.2.1,V.q.2.2.1,V.q.2.2.2.1,V.q.2.2.2.2.1⟩ y.q).up y.q.size).below Z).up cG)
   have cq:=qQ (au.gL cp.q (aG.q.trans ((y.q.trans (Z.mono cI)).mono cC)));have b9:=qQ (au.add _ _ x.o [] W2 cy.q cf.q (af.aN.nil _ _) cg.q au.eL.nil (by have:=cb.q;omega) (λbg cE=>cq.q bg (cE.mono bm)));clear aJ bW bX bY bZ b1 b3 b5 b6;go_wp2_with (with_reducible refine b9.q.mono ?_);rintro e dk ⟨rfl,bU⟩;have bL:=qQ (au.gq.trans b'.q cn.q bU);rw[<-b7.q]at bL;clear bU;go_wp2_with fail;go_roundw
   case rel=>exact⟨k+1,by go_num,by omega,bL.q⟩
   case measure=>simp[intOf];omega
  have M:k=ps:=by omega
  subst M;go_wp2_with fail
  go_ret2
  obtain⟨oh,a1,_,_⟩:=bK.q;refine⟨aG.q,.inr ⟨cF,p,rfl,j,A,c,.slice O g.o.length co,.slice aQ n aO,oh,by rw[S.q.1],aZ,?_,bb.q.trans ((au.gq.below aP.q bK.q).mono (qX _)),?_⟩⟩
  .rw[cm.q.1];exact((cl.q.lower (zG Q.q.lt)).below aE.q)
  rw[S.q.1,cj.q.1];exact a1
 go_wp2_with fail
 go_ret2
 refine⟨bw.q.trans (a9.q.mono (by omega)),.inl ?_⟩;rw[aR.q,qY bn];exact⟨bn,rfl⟩
theorem al.tS(val:Value)(g:J.bh)(B:Nat)(w:World)(ah:B<=w.heap.size)(M:b4.fE g)(h:b4.cx w B val g):Calls Tryz.prog 10 #[val] w λe w'=>e=.returned (.int .i64 (J.look g).2)/\Below w.heap.size w w':=by
 have I:=qQ (h.bI ah);obtain⟨A,c,vo,rfl,-,-,-,⟨O,co,rfl,-⟩⟩:=h;obtain⟨ak,Q,y,b0,-⟩:=b8 w 25 #[.slice A g.n.length c,.slice O g.o.length co];have j:=qQ (b4.p0 _ g ak.heap.size ak (qX _) M (I.q ak b0));have D:=qQ b0;have S:=λi=>y.cell i
 obtain⟨⟨ds,N⟩,x⟩:∃r,J.look g=r:=⟨_,rfl⟩;rw[x]at j |-;clear y b0 x;go_enter func10,ntmps10;go_wp2_with (with_reducible refine j.q.mono ?_);rintro e ag ⟨⟨aQ,bJ,aO,rfl,-⟩,m⟩;have E:=qQ (aA D.q m);clear m;go_wp2_with fail;go_ret;exact⟨rfl,E.q⟩
theorem al.Dk(val:Value)(g:J.bh)(B:Nat)(w:World)(ah:B<=w.heap.size)(N:b4.fE g)(h:b4.cx w B val g)(bp:g.o.length<=4194304):Calls Tryz.prog 7 #[val] w λe w'=>e=.returned (.int .i64 (ae.aF g))/\Below w.heap.size w w':=by
 have ap:=qQ (h.bI ah);obtain⟨A,c,vo,rfl,aG,a6,bn,⟨O,co,rfl,io,lo,a'⟩⟩:=h;have aU:=qQ (aG.bI ah);obtain⟨ak,a7,Y,b0,-⟩:=b8 w 25 #[.slice A g.n.length c,.slice O g.o.length co];obtain⟨y,ao,aq⟩:=aK (al.tS _ g ak.heap.size ak (qX _) N (ap.q ak b0)) b0 Y;have aI:=λi=>Y.cell i
 have D:=qQ (show ae.aF g=if (J.look g).2≠0 then(J.look g).2 else if 512<ae.h6 g then 5 else 0 from rfl);have aV:=qQ N;have av:=qQ (J.k5 g).1;obtain⟨S,aB,az⟩:=aK (λe=>(ae.gb (g:=g) e).1) (show ae.h6 g=g.n.length+g.o.length+au.many (g.n.take g.n.length) by rw[zS];exact rfl) (λk aE=>au.BL g.n 4194304 k (λx a8=>(N x a8).2) aE);obtain⟨⟨ds,U⟩,aH⟩:∃r,J.look g=r:=⟨_,rfl⟩;rw[aH]at y D av S;obtain⟨n,X⟩:=gz g.n.length;have aT:=qQ (qZ X True.intro);rw[X]at az S y aq aI a7 a6 ap aB |-;clear aG io lo a' Y b0 aH N X;by_cases M:U=0
 .subst M;have bo:n<=4096:=by have a4:=S.q rfl;have a5:=av.q;dsimp only at a4 a5;omega
  go_enter func7,ntmps7;go_wp2_with (with_reducible refine y.q.mono ?_)
  first | rintro e ag rfl j | rintro e ag ⟨rfl,j⟩
  have m:=qQ (aA ao.q j);have br:=λi=>(aq.q.go j).cell i
  have a9:=m.q.size;have bb:IntKind.i64.wrap ((n:Int)+(g.o.length:Int))=((n+g.o.length:Nat):Int):=by rw[qA _ (by omega)];omega
  clear j aI;go_wp2_with fail;go_loopw [4,6,22] (λbj _ Z wr=>∃k:Nat,Z=.int .i64 (k:Int)/\k<=n/\bj=.int .i64 ((n+g.o.length+au.many (g.n.take k):Nat):Int)/\Below ag.heap.size ag wr) (λ_ _ Z _=>n-(intOf Z).toNat)
  case atStart=>exact⟨0,rfl,by omega,by simp[au.many],qK _ _⟩
  obtain⟨k,rfl,aE,rfl,E⟩:=hrel;have Q:=qQ (m.q.trans (E.mono a9));have a_:=E.size;by_cases W:k<n
  .have V:k<g.n.length:=by have:=aT.q.1;omega
   obtain⟨bl,on,rfl,bm,aC⟩:=aU.q wr Q.q (by omega);obtain⟨v1,v2,v3,v4,v5,v6,⟨bv,bw,bx,bz,bA,bB,bD,bE⟩,s1,s2,bd,be,bf,bg⟩:=aC k V;have I4:=qQ (au.qf g.n k V);have oe:=az.q (k+1) W;have bk:=qQ (aV.q _ (qP V)).2;generalize g.n[k]=x at *;obtain⟨aL,aX,rfl,_⟩:=s1;obtain⟨dp,aZ,rfl,_⟩:=s2;obtain⟨aN,a0,rfl,_⟩:=bd;obtain⟨aO,a1,rfl,_⟩:=be;obtain⟨aP,a2,rfl,_⟩:=bf;obtain⟨aQ,a3,rfl,_⟩:=bg;have i1:=b2 k;have i2:(k:Int)<n:=by omega
   obtain⟨bu,bq,aJ,eg,bt⟩:=b8 wr 60 #[.int .i64 x.o.k,.slice aL x.o.I.length aX,.slice dp x.o.a.length aZ,.slice aN x.o.l.length a0,.slice aO x.o.h.length a1,.slice aP x.o.s.length a2,.int .i64 x.o.v,.slice aQ x.a.length a3];have aR:=qQ (E.trans (eg.mono a_));have bs:=λi=>aJ.cell i
   have bc:wrap64 ((n:Int)+(g.o.length:Int)+(au.many (g.n.take k):Int)+(x.a.length:Int))=((n+g.o.length+au.many (g.n.take (k+1)):Nat):Int):=by
    exact ZR
   clear aC eg aJ E;go_wp2_with fail;go_roundw
   case rel=>exact⟨k+1,by go_num,by omega,by rw[bc],aR.q⟩
   case measure=>simp[intOf];omega
  have W:n=k:=by omega
  subst W;rw[<-aB.q]at *;by_cases aD:512<ae.h6 g
  .go_wp2_with fail;go_ret;rw[D.q,qV (by decide),qY aD];exact⟨rfl,Q.q⟩
  go_wp2_with fail;go_ret;rw[D.q,qV (by decide),qV aD];exact⟨rfl,Q.q⟩
 have bb:(U != 0)=true:=by simpa using M
 have aW:=qQ (show ae.aF g=U by rw[D.q,qY M]);clear M;go_enter func7,ntmps7;go_wp2_with (with_reducible refine y.q.mono ?_)
 first | rintro e ag rfl j | rintro e ag ⟨rfl,j⟩
 have m:=qQ (aA ao.q j);clear j;go_wp2_with fail;go_ret;rw[aW.q];exact⟨rfl,m.q⟩
theorem al.F4(val:Value)(f:J.bh)(G:Option Addr)(X:Nat)(P:List ad.ay)(m:List (List Int))(B:Nat)(w:World)(ah:B<=w.heap.size)(h:b4.cx w B val f)(aT:b4.fE f)(aE:al.bo w B G P)(y:ae.fQ P f.n m)(E:J.look f=(m,0))(aP:J.params f.n=P.length)(a':J.ahead f.n.length f.o=true)(bs:f.o.length<=4194304):Calls Tryz.prog 12 #[val,.slice G P.length X] w λe w'=>∃v,e=.returned (.tuple #[v,.int .i64 0])/\al.de w.heap.size w' v (ae.aR P f.n f.o)/\Below w.heap.size w w':=by
 have av:=qQ (h.bI ah);have aB:=qQ (aE.bI ah);obtain⟨A,c,vo,rfl,aN,bq,bm,⟨O,co,rfl,io,lo,be⟩⟩:=h;have a4:=qQ (aN.bI ah);have a5:=qQ (io.bI ah);obtain⟨ak,bt,ap,b0,-⟩:=b8 w 25 #[.slice A f.n.length c,.slice O f.o.length co];have a2:=qQ (by
  have h:=b4.p0 _ f ak.heap.size ak (qX _) aT (av.q ak b0)
  rwa [E]at h)
 have aU:=qQ b0;have a0:=qQ ap;have bc:=λi=>ap.cell i
 have aL:f.n.length=m.length:=by have:=(ae.gb (g:=f) (by rw[E])).1;rw[E]at this;exact this.symm
 have br:f.n.length<=4096:=by have:=(J.k5 f).1;rw[E]at this;dsimp only at this;omega
 have r:=qQ (qZ y (qZ aT (qZ aP (qZ aL a'))));have aX:=qQ (λi (hi:i<P.length)=>show P[i].I=m.getD i []/\ad.cO P[i]from by
  have ao:i<f.n.length:=zW hi y.room;have c2:=y.I i ao;have bS:=y.wf i ao;rw[ae.iu ao hi]at c2 bS;have e:ad.nth P i=P[i]:=by simp[ad.nth,hi]
  rw[e]at c2 bS;exact⟨c2,bS⟩)
 have bb:=y.room;clear aN io lo be ap b0 aE y E aL aP;go_enter func12,ntmps12;go_wp2_with (with_reducible refine a2.q.mono ?_);rintro e ag ⟨⟨aQ,bJ,aO,rfl,aG,bn,bp,aF⟩,Y⟩;obtain⟨M,az,a3⟩:=aK (aA aU.q Y) (a0.q.go Y) aF;have bd:=λi=>az.q.cell i
 have a6:=qQ (λW (b:Below ag.heap.size ag W)=>by
  have j:=aA M.q b;have h:=b4.n4 _ f W.heap.size W (qX _) (av.q W j)
  rwa [r.q.2.2.1]at h)
 dsimp only at aG;subst aG;have aZ:=qQ (λW (b:Below ag.heap.size ag W)=>al.fK aQ aO m G X P W.heap.size W (qX _) ((a3.q.below b).up b.size) (aB.q W (aA M.q b)) (by rw[<-r.q.2.2.2.1];exact bb) (by rw[<-r.q.2.2.2.1];omega) aX.q);clear Y aF bc;go_wp2_with (with_reducible refine(a6.q _ (qK _ _)).mono ?_)
 first | rintro e aC rfl Z | rintro e aC ⟨rfl,Z⟩
 have U:=qQ Z;clear Z bd;go_wp2_with (with_reducible refine(aZ.q _ U.q).mono ?_)
 first | rintro e aw rfl S | rintro e aw ⟨rfl,S⟩
 have N:=qQ (M.q.trans ((aA U.q S).mono M.q.size));have a1:=qQ (az.q.go (aA U.q S));clear S;go_wp2_with fail;have aJ:=λW (b:Below aw.heap.size aw W)=>qZ (λi=>(a1.q.go b).cell i) True.intro
 have aD:=qQ (λW (b:Below aw.heap.size aw W)=>al.mx A c f.n G X P m W.heap.size W (qX _) (a4.q W (aA N.q b)) (aB.q W (aA N.q b)) r.q.1 r.q.2.1 (by omega));obtain⟨V,Q⟩:=gz (ae.values P f.n);have kr:=qQ (show V.length=f.n.length by rw[<-Q,ae.db]);have a8:=qQ (show ae.aR P f.n f.o=f.o.map λ(a:Int)=>ad.nth V a.toNat by unfold ae.aR;rw[Q]);rw[Q]at aD;clear Q;refine aH (l:=[_,_,_]) [(0,25,[]),(1,26,[0]),(2,27,[]),(3,28,[1,2]),(4,29,[]),(5,30,[4])] [6,7,8] [.eq _,.eq _,.eq _,al.Fi aw.heap.size V,.eq _,.eq _]
  (λW=>Below aw.heap.size aw W) (qK _ _).drew ((fr)<|(fr)<|(fr)<|cr ?_<|(fr)<|(fr)<|fg) ?_ (λ_ _ h a9=>aA h a9)
 .intros;rename_i K aI;subst_vars;have x:=(show Below aw.heap.size aw _ by assumption);go_simp;with_reducible refine(aD.q _ x).mono ?_
  rintro e bg ⟨v,rfl,D,j⟩;exact aI.q _ _ j (D.low x.size)
 intros;rename_i W x _ _ _ h _ _;subst_vars;obtain⟨As,bf,e,-⟩:=h.form;subst e;have aW:=qQ (by
  have j:=aA N.q x;have D:=al.iL As bf V O co f.o W.heap.size W (qX _) h.hE (a5.q W j) (λk a_=>by have:=ae.bP r.q.2.2.2.2 a_;have:=kr.q;omega) (by omega)
  rwa [<-a8.q]at D)
 have aq:=qQ (aA N.q x);clear aJ x h;go_wp2_with (with_reducible refine aW.q.mono ?_);rintro e bg ⟨v,rfl,D,j⟩;have aV:=qQ (aA aq.q j);have a7:=qQ (D.low aq.q.size);clear D j;go_wp2_with fail
 go_ret2
 exact⟨_,rfl,a7.q,aV.q⟩
theorem al.hh{W:World}{ox dl K6:Nat}{n' LS:Nat}{a:ad.ay}(r:av W ox 68 #[.slice D' n' c',.slice oi LS h'])(M:al.a1 W W.heap.size (.agg #[.slice D dl c,.slice X K6 x]) a)(q:Below w.heap.size w W)(y:w.heap.size<=ox):∃wf,(W.setCell ⟨ox,0,none⟩ (.slice D dl c)).setCell ⟨ox,1,none⟩ (.slice X K6 x)=wf/\av wf ox 68 #[.slice D dl c,.slice X K6 x]/\al.a1 wf wf.heap.size (.agg #[.slice D dl c,.slice X K6 x]) a/\Below w.heap.size w wf:=by
 obtain⟨A,B,Y,E,e,j,m,I⟩:=M;have key:∀{L:Option Addr} {l:List Int},ai.ao W W.heap.size L l->∀b off,L=some ⟨b,off,none⟩->0<l.length->b≠ox:=λO b off e hp q=>by
  subst q;obtain⟨Q,l4,mK,-,N⟩:=O hp;rw[e]at mK;simp only[zZ,kD,xD]at mK;have i:=N 0 hp;rw[<-mK.1,r.cell]at i;simp only[qL]at i;rcases l4 with _ | _ | l4<;>simp at i
 refine⟨_,rfl,(r.bs 0 _).bs 1 _,⟨A,B,Y,E,e,?_,?_,I⟩,(q.setCell (p:=⟨ox,0,none⟩) y _).setCell (p:=⟨ox,1,none⟩) y _⟩
 .exact((j.set (key j) _ _).set (key j) _ _).up (by simp[World.setCell])
 exact((m.set (key m) _ _).set (key m) _ _).up (by simp[World.setCell])
theorem Tryz.Ko(c:Nat)(h:c<=65536)(w:World):(Instr.makeSlice 66 (.int .i64 (c:Int)) (.int .i64 (c:Int))).run Tryz.prog w=.ok (.slice (some ⟨w.heap.size,0,none⟩) c c) (w.alloc (.cells (ints (List.replicate c 0)).toArray 2)):=by
 rw[<-v_];obtain⟨i0,hi,m,q,r⟩:=xQ Tryz.Ei;have j:(i0.bytes:Int)*(c:Int)<=281474976710656:=by rw[r];omega
 have i:=run_make (P:=Tryz.prog) w 66 2 i0 _ Tryz.B4 hi m .i64 .i64 c c (by omega) (by omega) j (by omega);simp only[xY,q,zF]at i;exact i
theorem al.Ab{t:TypeId}(h:av w g t (ints l).toArray):ai.ao w w.heap.size (some ⟨g,0,none⟩) l:=λhp =>
 ⟨g,0,rfl,h.lt,λi hi=>by rw[h.cell];simp[ints,hi]⟩
theorem al.rX(A:Option Addr)(c:Nat)(d:List Int)(B:Nat)(w:World)(ah:B<=w.heap.size)(ar:ai.ao w B A d)(V:d.length<=c/\c<=9223372036854775807)(az:(R.size d).2=0):Calls Tryz.prog 40 #[.slice A d.length c] w λe w'=>∃g n,n=(R.size d).1.toNat/\e=.returned (.agg #[.slice A d.length c,.slice (some ⟨g,0,none⟩) n n])/\w.heap.size<=g/\av w' g 2 (ints (List.replicate n 0)).toArray/\al.a1 w' w'.heap.size (.agg #[.slice A d.length c,.slice (some ⟨g,0,none⟩) n n]) (ad.a6 d)/\Below w.heap.size w w':=by
 obtain⟨ap,z2,z3,z4,z5⟩:=R.aB az;obtain⟨n,r⟩:∃n:Nat,(R.size d).1=(n:Int):=⟨(R.size d).1.toNat,by omega⟩;have Y:n<=65536:=by omega
 obtain⟨ak,aH,j,b0,-⟩:=b8 w 68 #[.slice none 0 0,.slice none 0 0];have U:=qQ (dC A c d B ak (by omega) (ar.below (b0.mono ah)));have S:=qQ (show ai.b5 d=.tuple #[.int .i64 (n:Int),.int .i64 0] by unfold ai.b5;rw[az,r]);obtain⟨ag,aI,D,m,-⟩:=b8 ak 2 (ints (List.replicate n 0)).toArray;have Q:=qQ (show ad.a6 d=⟨d,List.replicate n 0⟩ by unfold ad.a6;rw[r];rfl);have aG:=λW=>Tryz.Ko n Y W
 have x:=qQ (aA b0 m);have I:al.a1 ag ag.heap.size (.agg #[.slice A d.length c,.slice (some ⟨ak.heap.size,0,none⟩) n n]) (ad.a6 d):=by
  rw[Q.q];exact⟨A,c,some ⟨ak.heap.size,0,none⟩,n,by simp,(ar.below (x.q.mono ah)).up (qJ ah x.q.size),al.Ab D,V,by simp,by omega⟩
 obtain⟨wf,Z,O,M,N⟩:=al.hh (j.go m) I x.q (qX _);have aq:=λi=>((j.go m)).cell i
 have aE:=λi=>((j.go m)).frozen i
 have aD:=λi=>(((j.go m)).bs 0 (.slice A d.length c)).cell i
 have aF:=λi=>(((j.go m)).bs 0 (.slice A d.length c)).frozen i
 have X:=λi=>O.cell i
 have E:=qQ (qZ M N);clear O M N;have y:=qQ (show n=(R.size d).1.toNat/\w.heap.size<=ak.heap.size/\av wf ak.heap.size 2 (ints (List.replicate n 0)).toArray from⟨by rw[r];rfl,b0.size,by
  rw[<-Z];exact(D.cR (p:=⟨w.heap.size,0,none⟩) (λe=>by have mK:ak.heap.size=w.heap.size:=e;have:=j.lt;omega) _).cR (p:=⟨w.heap.size,1,none⟩) (λe=>by have mK:ak.heap.size=w.heap.size:=e;have:=j.lt;omega) _⟩)
 clear ar az ap z2 z3 z4 z5 r j D b0 m I;go_enter func40,ntmps40;go_wp2_with fail;refine U.q.mono ?_;rintro e aC ⟨rfl,rfl⟩;rw[S.q];go_wp2_with fail;refine qR (v:=.agg #[.slice A d.length c,.slice (some ⟨ak.heap.size,0,none⟩) n n]) (by simp[results,results40,go_sem,X]) rfl ⟨_,n,y.q.1,rfl,y.q.2.1,y.q.2.2,E.q.1,E.q.2⟩
theorem al.Bo(aM:Value)(op:J.Op)(G:Option Addr)(U:Nat)(args:List ad.ay)(out:List Int)(B:Nat)(w:World)(ah:B<=w.heap.size)(aq:af.bd w B aM op)(ao:al.bo w B G args)(av:af.cJ op)(ar:J.I op (args.map (·.I))=(out,0))(O:∀a∈args,ad.cO a)(aJ:args.length<=8388608):Calls Tryz.prog 54 #[aM,.slice G args.length U] w λe w'=>∃v,e=.returned v/\al.a1 w' w'.heap.size v (ad.aX op args)/\Below w.heap.size w w':=by
 have aI:=qQ (aq.bI ah);have aH:=qQ (ao.bI ah);obtain⟨v1,v2,v3,v4,v5,rfl,-⟩:=aq;obtain⟨aQ,aO,aB,ba,-⟩:=b8 w 58 #[.int .i64 op.k,v1,v2,v3,v4,v5,.int .i64 op.v];obtain⟨ak,aN,aE,E,-⟩:=b8 aQ 68 #[.slice none 0 0,.slice none 0 0];have y:=qQ (aA ba E);have r:=qQ aE;have aK:=λi=>(aB.go E).cell i
 have Q:=qQ (al.yl _ op G U args out ak.heap.size ak (qX _) (aI.q ak y.q) (aH.q ak y.q) av ar O aJ);have aP:=ba.size;obtain⟨n,ap⟩:=gz args.length;rw[ap]at Q |-;clear ao av ar O ap aB ba aE E;go_enter func54,ntmps54;go_wp2_with (with_reducible refine Q.q.mono ?_);rintro e ag ⟨v,rfl,⟨D,c,X,x,rfl,M⟩,m⟩;obtain⟨a,N⟩:=gz (ad.aX op args);have aF:=qQ (qZ N True.intro);rw[N]at M |-;have V:al.a1 ag ag.heap.size (.agg #[.slice D a.I.length c,.slice X a.e.length x]) a:=⟨D,c,X,x,rfl,M⟩;obtain⟨aC,aZ,az,j,-⟩:=b8 ag 68 #[.slice D a.I.length c,.slice X a.e.length x];have aG:=qQ (y.q.trans ((aA m j).mono y.q.size));have aW:=λi=>az.cell i
 have W:=(V.below j).up j.size;obtain⟨wf,O,aD,Y,Z⟩:=al.hh (r.q.go (aA m j)) W aG.q aP;have aR:=λi=>((r.q.go (aA m j))).cell i
 have aU:=λi=>((r.q.go (aA m j))).frozen i
 have aT:=λi=>(((r.q.go (aA m j))).bs 0 (.slice D a.I.length c)).cell i
 have aV:=λi=>(((r.q.go (aA m j))).bs 0 (.slice D a.I.length c)).frozen i
 have aL:=λi=>aD.cell i
 have S:=qQ (qZ Y Z);clear aD Y Z;clear M V W m j az aK N aO aN;go_wp2_with fail;refine qR (v:=.agg #[.slice D a.I.length c,.slice X a.e.length x]) (by simp[results,results54,go_sem,aL]) rfl ⟨_,rfl,by rw[aF.q.1];exact S.q.1,S.q.2⟩
theorem al.jb{W:World}{a b:ad.ay}(j:av W g 68 #[.slice D a.I.length c,.slice X a.e.length x,.slice D' b.I.length c',.slice oi b.e.length h'])(m:al.a1 W W.heap.size (.agg #[.slice D a.I.length c,.slice X a.e.length x]) a)(q:al.a1 W W.heap.size (.agg #[.slice D' b.I.length c',.slice oi b.e.length h']) b):al.bo W W.heap.size (some ⟨g,0,none⟩) [a,b]:=λ_ =>
 ⟨g,0,rfl,j.lt,λi hi=>by
  match i,hi with
  | 0,_=>exact⟨D,c,X,x,j.at rfl,j.at rfl,m⟩
  | 1,_=>exact⟨D',c',oi,h',j.at rfl,j.at rfl,q⟩⟩
theorem al.Ce{W:World}{dp LH:Option Addr}{bz b':Nat}{a b d:ad.ay}(j:av W g 68 #[.slice D a.I.length c,.slice X a.e.length x,.slice D' b.I.length c',.slice oi b.e.length h',.slice dp d.I.length bz,.slice LH d.e.length b'])(m:al.a1 W W.heap.size (.agg #[.slice D a.I.length c,.slice X a.e.length x]) a)(q:al.a1 W W.heap.size (.agg #[.slice D' b.I.length c',.slice oi b.e.length h']) b)(ar:al.a1 W W.heap.size (.agg #[.slice dp d.I.length bz,.slice LH d.e.length b']) d):al.bo W W.heap.size (some ⟨g,0,none⟩) [a,b,d]:=λ_ =>
 ⟨g,0,rfl,j.lt,λi hi=>by
  match i,hi with
  | 0,_=>exact⟨D,c,X,x,j.at rfl,j.at rfl,m⟩
  | 1,_=>exact⟨D',c',oi,h',j.at rfl,j.at rfl,q⟩
  | 2,_=>exact⟨dp,bz,LH,b',j.at rfl,j.at rfl,ar⟩⟩
theorem al.kA(aM:Value)(op:J.Op)(G:Option Addr)(i:Nat)(a b:ad.ay)(out:List Int)(w:World)(q:af.bd w w.heap.size aM op)(m:al.bo w w.heap.size G [a,b])(r:af.cJ op)(ar:J.I op [a.I,b.I]=(out,0))(x:ad.cO a)(y:ad.cO b):Calls Tryz.prog 54 #[aM,.slice G 2 i] w λe w'=>∃v,e=.returned v/\al.a1 w' w'.heap.size v (ad.aX op [a,b])/\Below w.heap.size w w' :=
 al.Bo aM op G i [a,b] out w.heap.size w (qX _) q m r ar (λz j=>by simp only[xR,xP,vX]at j;rcases j with rfl | rfl<;>assumption) (by simp)
theorem al.DS(aM:Value)(op:J.Op)(G:Option Addr)(i:Nat)(a b d:ad.ay)(out:List Int)(w:World)(q:af.bd w w.heap.size aM op)(m:al.bo w w.heap.size G [a,b,d])(r:af.cJ op)(ar:J.I op [a.I,b.I,d.I]=(out,0))(x:ad.cO a)(y:ad.cO b)(B:ad.cO d):Calls Tryz.prog 54 #[aM,.slice G 3 i] w λe w'=>∃v,e=.returned v/\al.a1 w' w'.heap.size v (ad.aX op [a,b,d])/\Below w.heap.size w w' :=
 al.Bo aM op G i [a,b,d] out w.heap.size w (qX _) q m r ar (λz j=>by simp only[xR,xP,vX]at j;rcases j with rfl | rfl | rfl<;>assumption) (by simp)
theorem al.IP(di aK:Value)(a b:ad.ay)(B:Nat)(w:World)(ah:B<=w.heap.size)(ap:al.a1 w B di a)(av:al.a1 w B aK b)(U:ad.cO a)(aE:ad.cO b)(aB:b.I=a.I):Calls Tryz.prog 53 #[di,aK] w λe w'=>∃v,e=.returned v/\al.a1 w' w'.heap.size v (ad.aX (ae.bH 3) [a,b])/\Below w.heap.size w w':=by
 have Z:=qQ (λW (c:Below w.heap.size w W)=>qZ ((ap.below (c.mono ah)).up (qJ ah c.size)) ((av.below (c.mono ah)).up (qJ ah c.size)));obtain⟨D,c,X,x,rfl,-⟩:=ap;obtain⟨D',c',oi,h',rfl,-⟩:=av;obtain⟨ag,aV,aF,M,-⟩:=b8 w 68 #[.slice D a.I.length c,.slice X a.e.length x];obtain⟨aC,aW,aG,y,-⟩:=b8 ag 68 #[.slice D' b.I.length c',.slice oi b.e.length h'];obtain⟨aw,aZ,aH,bA,-⟩:=b8 aC 68 #[.slice none 0 0,.slice none 0 0];obtain⟨V,a0,aI,cq,-⟩:=b8 aw 68 #[.slice D a.I.length c,.slice X a.e.length x,.slice D' b.I.length c',.slice oi b.e.length h'];have ao:=(aA M y).trans (bA.mono (qJ M.size y.size));have N:=qQ (aA ao cq);have aR:=λi=>((aF.go y).go bA).cell i
 have aT:=λi=>(aG.go bA).cell i
 have m:=qQ (aH.go cq);have aQ:=qQ (show w.heap.size<=aC.heap.size from qJ M.size y.size);have aO:=qQ (al.kA (.agg #[.int .i64 3,.slice none 0 0,.slice none 0 0,.slice none 0 0,.slice none 0 0,.slice none 0 0,.int .i64 0]) (ae.bH 3) (some ⟨aw.heap.size,0,none⟩) 2 a b a.I V au.CH (al.jb aI (Z.q V N.q).1 (Z.q V N.q).2) ⟨by simp[ae.bH],by simp[ae.bH],by simp[ae.bH],by simp[ae.bH],by simp[ae.bH]⟩ (by
  show J.I (ae.bH 3) [a.I,b.I]=_;rw[aB];exact ad.jc (.inl rfl) U.1) U aE)
 clear U aE aF aG aH aI M y bA cq ao aB;go_enter func53,ntmps53;go_wp2_with (with_reducible refine aO.q.mono ?_);rintro e aL ⟨v,rfl,⟨E,ce,Y,O,rfl,Q⟩,j⟩;obtain⟨r,S⟩:=gz (ad.aX (ae.bH 3) [a,b]);have aP:=qQ (qZ S True.intro);rw[S]at Q |-;have aD:al.a1 aL aL.heap.size (.agg #[.slice E r.I.length ce,.slice Y r.e.length O]) r:=⟨E,ce,Y,O,rfl,Q⟩;have aN:=qQ (aA N.q j);obtain⟨wf,a6,aJ,aq,az⟩:=al.hh (m.q.go j) aD aN.q aQ.q;have a2:=λi=>((m.q.go j)).cell i
 have a4:=λi=>((m.q.go j)).frozen i
 have a3:=λi=>(((m.q.go j)).bs 0 (.slice E r.I.length ce)).cell i
 have a5:=λi=>(((m.q.go j)).bs 0 (.slice E r.I.length ce)).frozen i
 have aU:=λi=>aJ.cell i
 have ak:=qQ (qZ aq az);clear aJ aq az;clear Q aD j S aR aT aV aW aZ a0;go_wp2_with fail;refine qR (v:=.agg #[.slice E r.I.length ce,.slice Y r.e.length O]) (by simp[results,results53,go_sem,aU]) rfl ⟨_,rfl,by rw[aP.q.1];exact ak.q.1,ak.q.2⟩
end Go.Proofs.YtabmnaaidfpmcaaGreatDoor
end
end
section
variable {a:Go.Act}{ds iO:List Nat}{d h k:Nat}{A:Option Go.Addr}{bm:Prop}{w:Go.World}
section
namespace Go.Proofs.YtabmnaaidfpmcaaGreatDoor
open Go.RowKit aS
structure al.kv (w:World) (B:Nat) (aM val:Value) (e7 GS:Option Addr) (op:J.Op) (d:List Int) (v:ad.ay) (aV sV:List ad.ay):Prop where
 ah:B<=w.heap.size
 o:af.bd w B aM op
 di:al.a1 w B val v
 iP:al.bo w B e7 aV
 gs:al.bo w B GS sV
 sh:af.cJ op
 ar:J.I op (aV.map (·.I))=(d,0)
 uk:v.I=d
 z_:sV.map (·.I)=aV.map (·.I)
 Aw:∀a∈aV,ad.cO a
 xl:∀a∈sV,ad.cO a
 LW:ad.dv op.v
 Mi:aV.length<=8388608
theorem al.kv.go{w':World}{B:Nat}{aM val:Value}{e7 GS:Option Addr}{op:J.Op}{d:List Int}{v:ad.ay}{aV sV:List ad.ay}(h:al.kv w B aM val e7 GS op d v aV sV)(i:Below w.heap.size w w'):al.kv w' w'.heap.size aM val e7 GS op d v aV sV :=
 have ah:=qJ h.ah i.size
 ⟨qX _,(h.o.below (i.mono h.ah)).up ah,(h.di.below (i.mono h.ah)).up ah,(h.iP.below (i.mono h.ah)).up ah,(h.gs.below (i.mono h.ah)).up ah,h.sh,h.ar,h.uk,h.z_,h.Aw,h.xl,h.LW,h.Mi⟩
theorem al.AO(A:Option Addr)(c:Nat)(d:List Int)(B:Nat)(w:World)(ah:B<=w.heap.size)(ar:ai.ao w B A d)(m:d.length<=c/\c<=9223372036854775807)(az:(R.size d).2=0):Calls Tryz.prog 40 #[.slice A d.length c] w λe w'=>∃v,e=.returned v/\al.a1 w' w'.heap.size v (ad.a6 d)/\Below w.heap.size w w':=by
 refine(al.rX A c d B w ah ar m az).mono ?_;rintro e w' ⟨g,n,-,rfl,-,-,i,j⟩;exact⟨_,rfl,i,j⟩
theorem _root_.QJ{G:Prop}(h:G:=by
 have H:=qQ (λW (b:Below w.heap.size w W)=>h.go b);have dk:=qQ h;obtain⟨u1,u2,u3,u4,u5,rfl,-⟩:=h.o;obtain⟨D,c,X,x,rfl,lI,-,h2,-⟩:=h.di;have od:=qQ (λW (b:Below w.heap.size w W)=>qZ ((lI.below (b.mono dk.q.ah)).up (qJ dk.q.ah b.size)) h2);obtain⟨ag,fo,dM,eT,-⟩:=b8 w 58 #[.int .i64 op.k,u1,u2,u3,u4,u5,.int .i64 op.v];obtain⟨aC,kt,kc,dT,-⟩:=b8 ag 68 #[.slice D v.I.length c,.slice X v.e.length x];obtain⟨aw,iC,mQ,bA,-⟩:=b8 aC 68 #[.slice none 0 0,.slice none 0 0];have gK:=aA eT dT;obtain⟨c4,hl,l8,hn,ly⟩:=fC (aA gK bA) ((dM.go dT).go bA) (kc.go bA) mQ gK.size;have iQ:=λi=>hl.q.cell i
 have iB:=λi=>l8.q.cell i
 have pB:=qQ (show ae.bZ op d aV sV=ad.a6 v.I by unfold ae.bZ;rw[qY (by omega),h.uk]);rw[pB.q];rw[mN]at *;have sX:=qQ (by
  have fa:=al.AO D c v.I aw.heap.size aw (qX _) (od.q aw c4.q).1 h2 (by rw[h.uk];exact(ae.cv h.ar).2.2);exact fa)
 clear h lI h2 dM kc mQ eT dT bA gK mN;go_enter func32,ntmps32;go_wp2_with (with_reducible refine sX.q.mono ?_);clear fo kt iC iQ iB;rintro e Fv ⟨MB,rfl,⟨E,ce,Y,oF,rfl,cw⟩,h1⟩;obtain⟨r,p'⟩:=gz (ad.a6 v.I);have uu:=qQ (qZ p' True.intro);rw[p']at cw |-;have vB:al.a1 Fv Fv.heap.size (.agg #[.slice E r.I.length ce,.slice Y r.e.length oF]) r:=⟨E,ce,Y,oF,rfl,cw⟩;have Dt:=qQ ((c4.q).trans (h1.mono (c4.q).size));obtain⟨wf,Lu,Ep,vw,vx⟩:=al.hh ((hn.q).go h1) vB Dt.q ly.q;have Ln:=λi=>(((hn.q).go h1)).cell i
 have Lp:=λi=>(((hn.q).go h1)).frozen i
 have Kc:=λi=>((((hn.q).go h1)).bs 0 (.slice E r.I.length ce)).cell i
 have Ke:=λi=>((((hn.q).go h1)).bs 0 (.slice E r.I.length ce)).frozen i
 have pd:=λi=>Ep.cell i
 have o6:=qQ (qZ vw vx);clear Ep vw vx;clear cw vB h1 p';go_wp2_with fail;refine qR (v:=.agg #[.slice E r.I.length ce,.slice Y r.e.length oF]) (by simp[results,results32,go_sem,pd]) rfl ⟨_,rfl,by rw[uu.q.1];exact o6.q.1,o6.q.2⟩
 ):G:=h
theorem al.GQ(aM val:Value)(e7 GS:Option Addr)(cC cs:Nat)(op:J.Op)(d:List Int)(v:ad.ay)(aV sV:List ad.ay)(B:Nat)(w:World)(h:al.kv w B aM val e7 GS op d v aV sV)(mN:op.k=2):Calls Tryz.prog 32 #[aM,val,.slice e7 aV.length cC,.slice GS sV.length cs] w λe w'=>∃v',e=.returned v'/\al.a1 w' w'.heap.size v' (ae.bZ op d aV sV)/\Below w.heap.size w w':=by
 exact QJ
theorem al.GV(aM val:Value)(e7 GS:Option Addr)(cC cs:Nat)(op:J.Op)(d:List Int)(v:ad.ay)(aV sV:List ad.ay)(B:Nat)(w:World)(h:al.kv w B aM val e7 GS op d v aV sV)(mN:op.k=7):Calls Tryz.prog 32 #[aM,val,.slice e7 aV.length cC,.slice GS sV.length cs] w λe w'=>∃v',e=.returned v'/\al.a1 w' w'.heap.size v' (ae.bZ op d aV sV)/\Below w.heap.size w w':=by
 exact QJ
theorem _root_.ZF{G:Prop}(h:G:=by
 go_wp2_with fail;refine qR (v:=.agg #[.slice E r.I.length ce,.slice Y r.e.length oF]) (by simp[results,results32,go_sem,pd]) rfl ⟨_,rfl,by rw[uu.q.1];exact o6.q.1,o6.q.2⟩
 ):G:=h
theorem _root_.JT{G:Prop}(r:bm)(f:dS bm->G:=by
 intro bb;have od:=qQ (λW (b:Below w.heap.size w W)=>qZ ((lI.below (b.mono dk.q.ah)).up (qJ dk.q.ah b.size)) h2);obtain⟨ag,fo,dM,eT,-⟩:=b8 w 58 #[.int .i64 op.k,u1,u2,u3,u4,u5,.int .i64 op.v];obtain⟨aC,kt,kc,dT,-⟩:=b8 ag 68 #[.slice D v.I.length c,.slice X v.e.length x];obtain⟨aw,iC,mQ,bA,-⟩:=b8 aC 68 #[.slice none 0 0,.slice none 0 0];have gK:=aA eT dT;obtain⟨c4,hl,l8,hn,ly⟩:=fC (aA gK bA) ((dM.go dT).go bA) (kc.go bA) mQ gK.size;have iQ:=λi=>hl.q.cell i
 have iB:=λi=>l8.q.cell i
 revert od ag fo dM eT aC kt kc dT aw iC mQ bA gK c4 hl l8 hn ly iQ iB;exact bb.o
 ):G:=f ⟨r⟩
theorem al.C8(aM val:Value)(e7 GS:Option Addr)(cC cs:Nat)(op:J.Op)(d:List Int)(v:ad.ay)(aV sV:List ad.ay)(B:Nat)(w:World)(h:al.kv w B aM val e7 GS op d v aV sV)(ap:op.k≠2/\op.k≠7/\op.k≠5/\op.k≠16/\op.k≠6/\op.k≠8/\op.k≠18/\op.k≠19):Calls Tryz.prog 32 #[aM,val,.slice e7 aV.length cC,.slice GS sV.length cs] w λe w'=>∃v',e=.returned v'/\al.a1 w' w'.heap.size v' (ae.bZ op d aV sV)/\Below w.heap.size w w':=by
 have H:=qQ (λW (b:Below w.heap.size w W)=>h.go b);have dk:=qQ h;obtain⟨u1,u2,u3,u4,u5,rfl,-⟩:=h.o;obtain⟨D,c,X,x,rfl,lI,-,h2,-⟩:=h.di;refine JT ?_;intro od ag fo dM eT aC kt kc dT aw iC mQ bA gK c4 hl l8 hn ly iQ iB;obtain⟨aB,aE,aD,aq,m,aF,av,az⟩:=ap;have ao:=qQ (show ae.bZ op d aV sV=ad.aX op sV by unfold ae.bZ;rw[qV (by omega),qV (by omega),qV (by omega),qV (by omega),qV (by omega)]);rw[ao.q];have ak:=qQ (al.yl _ op GS cs sV d aw.heap.size aw (qX _) (H.q aw c4.q).o (H.q aw c4.q).gs h.sh (by rw[h.z_];exact h.ar) h.xl (by have:=congrArg List.length h.z_;simp only[zJ]at this;rw[this];exact h.Mi));have aO:(op.k == 2)=false:=by simpa using aB
 have aP:(op.k == 7)=false:=by simpa using aE
 have aQ:(op.k == 5)=false:=by simpa using aD
 have aR:(op.k == 16)=false:=by simpa using aq
 have aT:(op.k == 6)=false:=by simpa using m
 have aU:(op.k == 8)=false:=by simpa using aF
 have aW:(op.k == 18)=false:=by simpa using av
 have aZ:(op.k == 19)=false:=by simpa using az
 clear h lI h2 dM kc mQ eT dT bA gK;go_enter func32,ntmps32;go_wp2_with (with_reducible refine ak.q.mono ?_);clear fo kt iC iQ iB;rintro e N ⟨a0,rfl,⟨E,ce,Y,oF,rfl,y⟩,j⟩;obtain⟨r,M⟩:=gz (ad.aX op sV);have uu:=qQ (qZ M True.intro);rw[M]at y |-;have S:al.a1 N N.heap.size (.agg #[.slice E r.I.length ce,.slice Y r.e.length oF]) r:=⟨E,ce,Y,oF,rfl,y⟩;obtain⟨cH,aL,m,e2,-⟩:=b8 N 68 #[.slice E r.I.length ce,.slice Y r.e.length oF];have Z:=qQ ((c4.q).trans ((aA j e2).mono (c4.q).size));have aK:=λi=>m.cell i
 have U:=(S.below e2).up e2.size;obtain⟨wf,aN,V,O,Q⟩:=al.hh ((hn.q).go (aA j e2)) U Z.q ly.q;have aG:=λi=>(((hn.q).go (aA j e2))).cell i
 have aI:=λi=>(((hn.q).go (aA j e2))).frozen i
 have aH:=λi=>((((hn.q).go (aA j e2))).bs 0 (.slice E r.I.length ce)).cell i
 have aJ:=λi=>((((hn.q).go (aA j e2))).bs 0 (.slice E r.I.length ce)).frozen i
 have pd:=λi=>V.cell i
 have o6:=qQ (qZ O Q);clear V O Q;clear y S U j e2 m M;exact ZF
def al.Da(a:ad.ay):aS.c8:=⟨λv w=>al.a1 w w.heap.size v a,λi h=>(h.below i).up i.size⟩
theorem ae.KB{op:J.Op}{d:List Int}{aV sV:List ad.ay}(ar:J.I op (aV.map (·.I))=(d,0))(i:sV.map (·.I)=aV.map (·.I))(q:op.k=5\/op.k=6\/op.k=16\/op.k=18\/op.k=19):∃a b s t,aV=[a,b]/\sV=[s,t]/\s.I=a.I/\t.I=b.I:=by
 obtain⟨cw,_,r⟩:=ae.cv ar;have m:sV.length=aV.length:=by have:=congrArg List.length i;simpa using this
 rw[zJ]at cw;have j:aV.length=2:=by
  exact Qa
 obtain⟨a,b,rfl⟩:=ae.hy j;obtain⟨s,t,rfl⟩:=ae.hy (m.trans j);simp only[qE,zU,zT,xD]at i;exact⟨a,b,s,t,rfl,rfl,i.1,i.2⟩
theorem ae.GO{op:J.Op}{d:List Int}{aV sV:List ad.ay}(ar:J.I op (aV.map (·.I))=(d,0))(i:sV.map (·.I)=aV.map (·.I))(m:op.k=8):∃a b c s t u,aV=[a,b,c]/\sV=[s,t,u]/\s.I=a.I/\t.I=b.I/\u.I=c.I:=by
 obtain⟨cw,_,r⟩:=ae.cv ar;have q:sV.length=aV.length:=by have:=congrArg List.length i;simpa using this
 rw[zJ]at cw;have j:aV.length=3:=by
  unfold J.right at cw;rw[qV (show ¬op.k=2 by omega),qV (show ¬(op.k=3\/op.k=4\/op.k=5\/op.k=6\/op.k=7\/op.k=16\/op.k=18\/op.k=19) by omega),qY m]at cw;exact Xw
 obtain⟨a,b,c,rfl⟩:=ae.gW j;obtain⟨s,t,u,rfl⟩:=ae.gW (q.trans j);simp only[qE,zU,zT,xD]at i;exact⟨a,b,c,s,t,u,rfl,rfl,i.1,i.2.1,i.2.2⟩
theorem _root_.QH{G:Prop}(h:G:=by
 have py:=qQ (hn.q.go a_);clear ry jg aJ a_;go_wp2_with (with_reducible refine K9.q.mono ?_);rintro e Fv ⟨MB,rfl,⟨E,ce,Y,oF,rfl,cw⟩,h1⟩;obtain⟨r,p'⟩:=gz (ad.aX op [s,b]);have uu:=qQ (qZ p' True.intro);rw[p']at cw |-;have vB:al.a1 Fv Fv.heap.size (.agg #[.slice E r.I.length ce,.slice Y r.e.length oF]) r:=⟨E,ce,Y,oF,rfl,cw⟩;have Dt:=qQ ((c7.q).trans (h1.mono (c7.q).size));obtain⟨wf,Lu,Ep,vw,vx⟩:=al.hh ((py.q).go h1) vB Dt.q ly.q;have Ln:=λi=>(((py.q).go h1)).cell i
 have Lp:=λi=>(((py.q).go h1)).frozen i
 have Kc:=λi=>((((py.q).go h1)).bs 0 (.slice E r.I.length ce)).cell i
 have Ke:=λi=>((((py.q).go h1)).bs 0 (.slice E r.I.length ce)).frozen i
 have pd:=λi=>Ep.cell i
 have o6:=qQ (qZ vw vx);clear Ep vw vx;clear cw vB h1 p';go_wp2_with fail;refine qR (v:=.agg #[.slice E r.I.length ce,.slice Y r.e.length oF]) (by simp[results,results32,go_sem,pd]) rfl ⟨_,rfl,by rw[uu.q.1];exact o6.q.1,o6.q.2⟩
 ):G:=h
theorem _root_.ZL{G:Prop}(h:G:=by
 intros;rename_i K aI;subst_vars;have a_:=(show Below aw.heap.size aw _ by assumption).size;go_simp;exact aI.q _ _ ((qK _ _).alloc (qX _) _) ⟨_,rfl,a_,av.new _ _ _⟩
 ):G:=h
theorem _root_.JF{G:Prop}(r:bm)(f:dS bm->G:=by
 intro bb;have od:=qQ (λW (b:Below w.heap.size w W)=>qZ ((lI.below (b.mono dk.q.ah)).up (qJ dk.q.ah b.size)) h2);obtain⟨ag,fo,dM,eT,-⟩:=b8 w 58 #[.int .i64 op.k,u1,u2,u3,u4,u5,.int .i64 op.v];obtain⟨aC,kt,kc,dT,-⟩:=b8 ag 68 #[.slice D v.I.length c,.slice X v.e.length x];obtain⟨aw,iC,mQ,bA,-⟩:=b8 aC 68 #[.slice none 0 0,.slice none 0 0];have gK:=aA eT dT;obtain⟨c4,hl,l8,hn,ly⟩:=fC (aA gK bA) ((dM.go dT).go bA) (kc.go bA) mQ gK.size;have iQ:=λi=>hl.q.cell i
 have iB:=λi=>l8.q.cell i
 have pB:=qQ (show ae.bZ op d [a,b] [s,t]=ad.aX op [s,b] by unfold ae.bZ;rw[qV (by omega),qV (by omega),qV (by omega),qV (by omega),qY (by omega)];rfl);rw[pB.q];revert od ag fo dM eT aC kt kc dT aw iC mQ bA gK c4 hl l8 hn ly iQ iB pB;exact bb.o
 ):G:=f ⟨r⟩
theorem _root_.Vq{G:Prop}(r:bm)(f:dS bm->G:=by
 intro bb;obtain⟨uv,uw,sR⟩:=aK xm xn (λW (b:Below aw.heap.size aw W)=>(Dp.below b).up b.size);obtain⟨Ar,cs,Au,xs,bf,q4,tT⟩:=al.dw pe 0 (a:=s) rfl;revert uv uw sR Ar cs Au xs bf q4 tT;exact bb.o
 ):G:=f ⟨r⟩
theorem al.Fc(aM val:Value)(e7 GS:Option Addr)(V cu:Nat)(op:J.Op)(d:List Int)(v a b s t:ad.ay)(B:Nat)(w:World)(h:al.kv w B aM val e7 GS op d v [a,b] [s,t])(y:op.k=18):Calls Tryz.prog 32 #[aM,val,.slice e7 2 V,.slice GS 2 cu] w λe w'=>∃v',e=.returned v'/\al.a1 w' w'.heap.size v' (ae.bZ op d [a,b] [s,t])/\Below w.heap.size w w':=by
 have H:=qQ (λW (b:Below w.heap.size w W)=>h.go b);have dk:=qQ h;obtain⟨u1,u2,u3,u4,u5,rfl,-⟩:=h.o;obtain⟨D,c,X,x,rfl,lI,-,h2,-⟩:=h.di;refine JF ?_;intro od ag fo dM eT aC kt kc dT aw iC mQ bA gK c4 hl l8 hn ly iQ iB pB;have O:=qQ (show J.I op [s.I,b.I]=(d,0) by
  have e:=h.z_;simp only[qE,zU,zT,xD]at e;rw[e.1];exact h.ar)
 have j:=qQ (qZ h.sh (qZ (h.xl s (by simp)) (h.Aw b (by simp))));rw[y]at *;obtain⟨fI,fM,rfl,-⟩:=(H.q aw c4.q).iP (by simp);obtain⟨dL,os,rfl,-⟩:=(H.q aw c4.q).gs (by simp);have m:=(H.q aw c4.q).iP;have pe:=(H.q aw c4.q).gs;obtain⟨M,ib,U,ao,xm,xn,Dp⟩:=al.dw m 1 (a:=b) rfl;simp only[Nat.reduceAdd,zF]at xm xn;refine Vq ?_;intro uv uw sR Ar cs Au xs bf q4 tT;clear xm xn Dp;simp only[qL,xW,qI]at bf q4;obtain⟨Q,S,N⟩:=aK bf q4 (λW (b:Below aw.heap.size aw W)=>(tT.below b).up b.size);clear bf q4 tT;clear h lI h2 dM kc mQ eT dT bA gK y m pe;go_enter func32,ntmps32;go_wp2_with fail;clear fo kt iC iQ iB;have aJ:=λW (c:Below aw.heap.size aw W)=>qZ (λi=>(hl.q.go c).cell i) (qZ (uv.q W c) (qZ (uw.q W c) (qZ (Q.q W c) (S.q W c))))
 refine aH (l:=[_,_]) [(0,110,[]),(1,111,[]),(2,112,[1]),(3,113,[2]),(4,114,[]),(5,115,[4]),(6,116,[5]),(7,117,[3,6])] [8,9] [.eq _,.eq _,.eq _,.eq _,.eq _,.eq _,.eq _,.row aw.heap.size 68 2 #[.slice Ar s.I.length cs,.slice Au s.e.length xs,.slice M b.I.length ib,.slice U b.e.length ao]]
  (λW=>Below aw.heap.size aw W) (qK _ _).drew ((fr)<|(fr)<|(fr)<|(fr)<|(fr)<|(fr)<|(fr)<|cr ?_<|fg) ?_ (λ_ _ h Z=>aA h Z)
 .exact ZL
 intros;rename_i W a_ _ _ _ _ _ _ _ ak;subst_vars;obtain⟨g,rfl,jg,ry⟩:=ak;have c7:=qQ (aA c4.q a_);have K9:=qQ (al.kA (.agg #[.int .i64 18,u1,u2,u3,u4,u5,.int .i64 op.v]) op (some ⟨g,0,none⟩) 2 s b d W ((H.q W c7.q).o) (al.jb ry (N.q W a_) (sR.q W a_)) j.q.1 O.q j.q.2.1 j.q.2.2);exact QH
theorem al.Fe(aM val:Value)(e7 GS:Option Addr)(V cu:Nat)(op:J.Op)(d:List Int)(v a b s t:ad.ay)(B:Nat)(w:World)(h:al.kv w B aM val e7 GS op d v [a,b] [s,t])(y:op.k=19):Calls Tryz.prog 32 #[aM,val,.slice e7 2 V,.slice GS 2 cu] w λe w'=>∃v',e=.returned v'/\al.a1 w' w'.heap.size v' (ae.bZ op d [a,b] [s,t])/\Below w.heap.size w w':=by
 have H:=qQ (λW (b:Below w.heap.size w W)=>h.go b);have dk:=qQ h;obtain⟨u1,u2,u3,u4,u5,rfl,-⟩:=h.o;obtain⟨D,c,X,x,rfl,lI,-,h2,-⟩:=h.di;refine JF ?_;intro od ag fo dM eT aC kt kc dT aw iC mQ bA gK c4 hl l8 hn ly iQ iB pB;have O:=qQ (show J.I op [s.I,b.I]=(d,0) by
  have e:=h.z_;simp only[qE,zU,zT,xD]at e;rw[e.1];exact h.ar)
 have j:=qQ (qZ h.sh (qZ (h.xl s (by simp)) (h.Aw b (by simp))));rw[y]at *;obtain⟨fI,fM,rfl,-⟩:=(H.q aw c4.q).iP (by simp);obtain⟨dL,os,rfl,-⟩:=(H.q aw c4.q).gs (by simp);have m:=(H.q aw c4.q).iP;have pe:=(H.q aw c4.q).gs;obtain⟨M,ib,U,ao,xm,xn,Dp⟩:=al.dw m 1 (a:=b) rfl;simp only[Nat.reduceAdd,zF]at xm xn;refine Vq ?_;intro uv uw sR Ar cs Au xs bf q4 tT;clear xm xn Dp;simp only[qL,xW,qI]at bf q4;obtain⟨Q,S,N⟩:=aK bf q4 (λW (b:Below aw.heap.size aw W)=>(tT.below b).up b.size);clear bf q4 tT;clear h lI h2 dM kc mQ eT dT bA gK y m pe;go_enter func32,ntmps32;go_wp2_with fail;clear fo kt iC iQ iB;have aJ:=λW (c:Below aw.heap.size aw W)=>qZ (λi=>(hl.q.go c).cell i) (qZ (uv.q W c) (qZ (uw.q W c) (qZ (Q.q W c) (S.q W c))))
 refine aH (l:=[_,_]) [(0,110,[]),(1,111,[]),(2,112,[1]),(3,113,[2]),(4,114,[]),(5,115,[4]),(6,116,[5]),(7,117,[3,6])] [8,9] [.eq _,.eq _,.eq _,.eq _,.eq _,.eq _,.eq _,.row aw.heap.size 68 2 #[.slice Ar s.I.length cs,.slice Au s.e.length xs,.slice M b.I.length ib,.slice U b.e.length ao]]
  (λW=>Below aw.heap.size aw W) (qK _ _).drew ((fr)<|(fr)<|(fr)<|(fr)<|(fr)<|(fr)<|(fr)<|cr ?_<|fg) ?_ (λ_ _ h Z=>aA h Z)
 .exact ZL
 intros;rename_i W a_ _ _ _ _ _ _ _ ak;subst_vars;obtain⟨g,rfl,jg,ry⟩:=ak;have c7:=qQ (aA c4.q a_);have K9:=qQ (al.kA (.agg #[.int .i64 19,u1,u2,u3,u4,u5,.int .i64 op.v]) op (some ⟨g,0,none⟩) 2 s b d W ((H.q W c7.q).o) (al.jb ry (N.q W a_) (sR.q W a_)) j.q.1 O.q j.q.2.1 j.q.2.2);exact QH
theorem al.GX(aM val:Value)(e7 GS:Option Addr)(DL bd:Nat)(op:J.Op)(d:List Int)(v a b e s t u:ad.ay)(B:Nat)(w:World)(h:al.kv w B aM val e7 GS op d v [a,b,e] [s,t,u])(aF:op.k=8):Calls Tryz.prog 32 #[aM,val,.slice e7 3 DL,.slice GS 3 bd] w λmK w'=>∃v',mK=.returned v'/\al.a1 w' w'.heap.size v' (ae.bZ op d [a,b,e] [s,t,u])/\Below w.heap.size w w':=by
 have H:=qQ (λW (b:Below w.heap.size w W)=>h.go b);have dk:=qQ h;obtain⟨u1,u2,u3,u4,u5,rfl,-⟩:=h.o;obtain⟨D,c,X,x,rfl,lI,-,h2,-⟩:=h.di;refine JT ?_;intro od ag fo dM eT aC kt kc dT aw iC mQ bA gK c4 hl l8 hn ly iQ iB;have a0:=qQ (show ae.bZ op d [a,b,e] [s,t,u]=ad.aX op [a,t,u] by unfold ae.bZ;rw[qV (by omega),qV (by omega),qV (by omega),qY (by omega)];rfl);rw[a0.q];have a2:=qQ (show J.I op [a.I,t.I,u.I]=(d,0) by
  have e:=h.z_;simp only[qE,zU,zT,xD]at e;rw[e.2.1,e.2.2];exact h.ar)
 have y:=qQ (qZ h.sh (qZ (h.Aw a (by simp)) (qZ (h.xl t (by simp)) (h.xl u (by simp)))));rw[aF]at *;obtain⟨fI,fM,rfl,-⟩:=(H.q aw c4.q).iP (by simp);obtain⟨dL,os,rfl,-⟩:=(H.q aw c4.q).gs (by simp);have aE:=(H.q aw c4.q).iP;have N:=(H.q aw c4.q).gs;obtain⟨aP,cC,a9,bm,S,Z,ap⟩:=al.dw aE 0 (a:=a) rfl;simp only[qL,xW,qI]at S Z;obtain⟨a3,a6,aT⟩:=aK S Z (λW (b:Below aw.heap.size aw W)=>(ap.below b).up b.size);clear S Z ap;obtain⟨aQ,aD,a',bn,U,ak,At⟩:=al.dw N 1 (a:=t) rfl;simp only[Nat.reduceAdd,zF]at U ak;obtain⟨a4,a7,aU⟩:=aK U ak (λW (b:Below aw.heap.size aw W)=>(At.below b).up b.size);clear U ak At;obtain⟨aR,be,bc,bo,V,ao,aq⟩:=al.dw N 2 (a:=u) rfl;simp only[Nat.reduceMul,Nat.reduceAdd]at V ao;obtain⟨a5,a8,aV⟩:=aK V ao (λW (b:Below aw.heap.size aw W)=>(aq.below b).up b.size);clear V ao aq;clear h lI h2 dM kc mQ eT dT bA gK aF aE N;go_enter func32,ntmps32;go_wp2_with fail;clear fo kt iC iQ iB;have aJ:=λW (c:Below aw.heap.size aw W)=>qZ (λi=>(hl.q.go c).cell i) (qZ (a3.q W c) (qZ (a6.q W c) (qZ (a4.q W c) (qZ (a7.q W c) (qZ (a5.q W c) (a8.q W c))))))
 refine aH (l:=[_,_]) [(0,95,[]),(1,96,[]),(2,97,[1]),(3,98,[2]),(4,99,[]),(5,100,[4]),(6,101,[5]),(7,102,[]),(8,103,[7]),(9,104,[8]),(10,105,[3,6,9])] [11,12] [.eq _,.eq _,.eq _,.eq _,.eq _,.eq _,.eq _,.eq _,.eq _,.eq _,.row aw.heap.size 68 3 #[.slice aP a.I.length cC,.slice a9 a.e.length bm,.slice aQ t.I.length aD,.slice a' t.e.length bn,.slice aR u.I.length be,.slice bc u.e.length bo]]
  (λW=>Below aw.heap.size aw W) (qK _ _).drew ((fr)<|(fr)<|(fr)<|(fr)<|(fr)<|(fr)<|(fr)<|(fr)<|(fr)<|(fr)<|cr ?_<|fg) ?_ (λ_ _ h bf=>aA h bf)
 .exact ZL
 intros;rename_i W a_ _ _ _ _ _ _ _ _ _ _ bh;subst_vars;obtain⟨g,rfl,bg,aN⟩:=bh;have M:=qQ (aA c4.q a_);have aZ:=qQ (al.DS (.agg #[.int .i64 8,u1,u2,u3,u4,u5,.int .i64 op.v]) op (some ⟨g,0,none⟩) 3 a t u d W ((H.q W M.q).o) (al.Ce aN (aT.q W a_) (aU.q W a_) (aV.q W a_)) y.q.1 a2.q y.q.2.1 y.q.2.2.1 y.q.2.2.2);have m:=qQ (hn.q.go a_);clear aN bg aJ a_;go_wp2_with (with_reducible refine aZ.q.mono ?_);rintro e aO ⟨bv,rfl,⟨E,ce,Y,oF,rfl,O⟩,j⟩;obtain⟨r,Q⟩:=gz (ad.aX op [a,t,u]);have uu:=qQ (qZ Q True.intro);rw[Q]at O |-;have aG:al.a1 aO aO.heap.size (.agg #[.slice E r.I.length ce,.slice Y r.e.length oF]) r:=⟨E,ce,Y,oF,rfl,O⟩;have aW:=qQ ((M.q).trans (j.mono (M.q).size));obtain⟨wf,bu,aL,az,aB⟩:=al.hh ((m.q).go j) aG aW.q ly.q;have bp:=λi=>(((m.q).go j)).cell i
 have br:=λi=>(((m.q).go j)).frozen i
 have bq:=λi=>((((m.q).go j)).bs 0 (.slice E r.I.length ce)).cell i
 have bt:=λi=>((((m.q).go j)).bs 0 (.slice E r.I.length ce)).frozen i
 have pd:=λi=>aL.cell i
 have o6:=qQ (qZ az aB);clear aL az aB;clear O aG j Q;exact ZF
theorem _root_.JK{G:Prop}(h:G:=by
 intros;rename_i K aI;subst_vars;have a_:=(show Below aw.heap.size aw _ by assumption).size;go_simp;exact aI.q _ _ ((qK _ _).alloc (qX _) _) ⟨_,rfl,a_,av.new _ _ _⟩
 ):G:=h
theorem _root_.QQ{G:Prop}(h:G:=by
 obtain⟨p,hp⟩:=gz (ad.aX op [s,b]);obtain⟨q,hq⟩:=gz (ad.aX op [a,t]);rw[hp]at IV o9 |-;rw[hq]at IW o9 |-;have Me:=qQ (λW (c:Below aw.heap.size aw W) vp MG (c2:al.a1 W W.heap.size vp p) (bS:al.a1 W W.heap.size MG q)=>al.IP vp MG p q W.heap.size W (qX _) c2 bS o9.q.2.1 o9.q.2.2.1 o9.q.2.2.2);clear hp hq;go_enter func32,ntmps32;go_wp2_with fail;clear fo kt iC iQ iB;have aJ:=λW (c:Below aw.heap.size aw W)=>qZ (λi=>(hl.q.go c).cell i) (qZ (qZ (Lg.q W c) (qZ (Lj.q W c) (qZ (Li.q W c) (Ll.q W c)))) (qZ (Lh.q W c) (qZ (Lk.q W c) (qZ (uv.q W c) (uw.q W c)))))
 refine aH (l:=[_,_]) [(0,24,[]),(1,25,[]),(2,26,[1]),(3,27,[2]),(4,28,[]),(5,29,[4]),(6,30,[5]),(7,31,[3,6]),(8,32,[0,7]),(9,33,[]),(10,34,[]),(11,35,[10]),(12,36,[11]),(13,37,[]),(14,38,[13]),(15,39,[14]),(16,40,[12,15]),(17,41,[9,16])] [18,19] [.eq _,.eq _,.eq _,.eq _,.eq _,.eq _,.eq _,.row aw.heap.size 68 2 #[.slice Ar s.I.length cs,.slice Au s.e.length xs,.slice KL b.I.length ib,.slice KR b.e.length K5],al.Da p,.eq _,.eq _,.eq _,.eq _,.eq _,.eq _,.eq _,.row aw.heap.size 68 2 #[.slice KK a.I.length cC,.slice KQ a.e.length K4,.slice KM t.I.length aD,.slice KS t.e.length K7],al.Da q]
  (λW=>Below aw.heap.size aw W) (qK _ _).drew ((fr)<|(fr)<|(fr)<|(fr)<|(fr)<|(fr)<|(fr)<|cr ?_<|cr ?_<|(fr)<|(fr)<|(fr)<|(fr)<|(fr)<|(fr)<|(fr)<|cr ?_<|cr ?_<|fg) ?_ (λ_ _ h LO=>aA h LO)
 .exact JK
 .intros;rename_i c2 K aI;subst_vars;obtain⟨g,rfl,-,ry⟩:=c2;have a_:=(show Below aw.heap.size aw _ by assumption);go_simp;with_reducible refine(IV.q _ a_ g ry).mono ?_
  rintro e hG ⟨v,rfl,dP,aE⟩;exact aI.q _ _ aE dP
 .exact JK
 .intros;rename_i c2 K aI;subst_vars;obtain⟨g,rfl,-,ry⟩:=c2;have a_:=(show Below aw.heap.size aw _ by assumption);go_simp;with_reducible refine(IW.q _ a_ g ry).mono ?_
  rintro e hG ⟨v,rfl,dP,aE⟩;exact aI.q _ _ aE dP
 intros;rename_i W a_ _ _ _ _ _ _ _ _ Mo _ _ _ _ _ _ _ _ Mp;subst_vars;obtain⟨MK,bJ,MN,m1,rfl,Lv⟩:=Mo;obtain⟨ML,bn,MO,m2,rfl,ku⟩:=Mp;obtain⟨c7,ru,py⟩:=aK (aA c4.q a_) (Me.q W a_ _ _ ⟨MK,bJ,MN,m1,rfl,Lv⟩ ⟨ML,bn,MO,m2,rfl,ku⟩) (hn.q.go a_);clear Lv ku aJ a_;go_wp2_with (with_reducible refine ru.q.mono ?_);rintro e Fv ⟨MB,rfl,⟨E,ce,Y,oF,rfl,cw⟩,h1⟩;obtain⟨r,p'⟩:=gz (ad.aX (ae.bH 3) [p,q]);have uu:=qQ (qZ p' True.intro);rw[p']at cw |-;have vB:al.a1 Fv Fv.heap.size (.agg #[.slice E r.I.length ce,.slice Y r.e.length oF]) r:=⟨E,ce,Y,oF,rfl,cw⟩;have Dt:=qQ ((c7.q).trans (h1.mono (c7.q).size));obtain⟨wf,Lu,Ep,vw,vx⟩:=al.hh ((py.q).go h1) vB Dt.q ly.q;have Ln:=λi=>(((py.q).go h1)).cell i
 have Lp:=λi=>(((py.q).go h1)).frozen i
 have Kc:=λi=>((((py.q).go h1)).bs 0 (.slice E r.I.length ce)).cell i
 have Ke:=λi=>((((py.q).go h1)).bs 0 (.slice E r.I.length ce)).frozen i
 have pd:=λi=>Ep.cell i
 have o6:=qQ (qZ vw vx);clear Ep vw vx;clear cw vB h1 p';go_wp2_with fail;refine qR (v:=.agg #[.slice E r.I.length ce,.slice Y r.e.length oF]) (by simp[results,results32,go_sem,pd]) rfl ⟨_,rfl,by rw[uu.q.1];exact o6.q.1,o6.q.2⟩
 ):G:=h
theorem _root_.Zo{G:Prop}(h:G:=by
 have e:=h.z_;simp only[qE,zU,zT,xD]at e;rw[e.1,e.2];exact⟨h.ar,h.ar⟩
 ):G:=h
theorem _root_.XQ{G:Prop}(h:G:=by
 rw[ad.ew,ad.ew];show(J.I op [a.I,t.I]).1=(J.I op [s.I,b.I]).1;rw[BB.1,BB.2]
 ):G:=h
theorem _root_.JP{G:Prop}(r:bm)(f:dS bm->G:=by
 intro bb;have od:=qQ (λW (b:Below w.heap.size w W)=>qZ ((lI.below (b.mono dk.q.ah)).up (qJ dk.q.ah b.size)) h2);obtain⟨ag,fo,dM,eT,-⟩:=b8 w 58 #[.int .i64 op.k,u1,u2,u3,u4,u5,.int .i64 op.v];obtain⟨aC,kt,kc,dT,-⟩:=b8 ag 68 #[.slice D v.I.length c,.slice X v.e.length x];obtain⟨aw,iC,mQ,bA,-⟩:=b8 aC 68 #[.slice none 0 0,.slice none 0 0];have gK:=aA eT dT;obtain⟨c4,hl,l8,hn,ly⟩:=fC (aA gK bA) ((dM.go dT).go bA) (kc.go bA) mQ gK.size;have iQ:=λi=>hl.q.cell i
 have iB:=λi=>l8.q.cell i
 have pB:=qQ (show ae.bZ op d [a,b] [s,t]=ad.aX (ae.bH 3) [ad.aX op [s,b],ad.aX op [a,t]] by unfold ae.bZ;rw[qV (by omega),qY (by omega)];rfl);rw[pB.q];have BB:J.I op [s.I,b.I]=(d,0)/\J.I op [a.I,t.I]=(d,0):=by
  exact Zo
 have Kk:ad.cO (ad.aX op [s,b]):=ad.iX h.LW (by show(J.I op [s.I,b.I]).2=0;rw[BB.1]) (ae.oC (h.xl _ (by simp)) (h.Aw _ (by simp)));have Kl:ad.cO (ad.aX op [a,t]):=ad.iX h.LW (by show(J.I op [a.I,t.I]).2=0;rw[BB.2]) (ae.oC (h.Aw _ (by simp)) (h.xl _ (by simp)));have y1:(ad.aX op [a,t]).I=(ad.aX op [s,b]).I:=by
  exact XQ
 have o9:=qQ (qZ BB (qZ Kk (qZ Kl y1)));have mG:=qQ (qZ h.sh (qZ (qZ (h.xl s (by simp)) (h.Aw b (by simp))) (qZ (h.Aw a (by simp)) (h.xl t (by simp)))));clear BB Kk Kl y1;revert od ag fo dM eT aC kt kc dT aw iC mQ bA gK c4 hl l8 hn ly iQ iB pB o9 mG;exact bb.o
 ):G:=f ⟨r⟩
theorem al.GR(aM val:Value)(e7 GS:Option Addr)(Z cu:Nat)(op:J.Op)(d:List Int)(v a b s t:ad.ay)(B:Nat)(w:World)(h:al.kv w B aM val e7 GS op d v [a,b] [s,t])(Q:op.k=5):Calls Tryz.prog 32 #[aM,val,.slice e7 2 Z,.slice GS 2 cu] w λe w'=>∃v',e=.returned v'/\al.a1 w' w'.heap.size v' (ae.bZ op d [a,b] [s,t])/\Below w.heap.size w w':=by
 have H:=qQ (λW (b:Below w.heap.size w W)=>h.go b);have dk:=qQ h;obtain⟨u1,u2,u3,u4,u5,rfl,-⟩:=h.o;obtain⟨D,c,X,x,rfl,lI,-,h2,-⟩:=h.di;refine JP ?_;intro od ag fo dM eT aC kt kc dT aw iC mQ bA gK c4 hl l8 hn ly iQ iB pB o9 mG;rw[Q]at *;obtain⟨fI,fM,rfl,-⟩:=(H.q aw c4.q).iP (by simp);obtain⟨dL,os,rfl,-⟩:=(H.q aw c4.q).gs (by simp);have j:=(H.q aw c4.q).iP;have pe:=(H.q aw c4.q).gs;obtain⟨KK,cC,KQ,K4,m,M,O⟩:=al.dw j 0 (a:=a) rfl;simp only[qL,xW,qI]at m M;obtain⟨Lg,Lj,S⟩:=aK m M (λW (b:Below aw.heap.size aw W)=>(O.below b).up b.size);clear m M O;obtain⟨KL,ib,KR,K5,xm,xn,Dp⟩:=al.dw j 1 (a:=b) rfl;simp only[Nat.reduceAdd,zF]at xm xn;refine Vq ?_;intro uv uw sR Ar cs Au xs bf q4 tT;clear xm xn Dp;simp only[qL,xW,qI]at bf q4;obtain⟨Lh,Lk,U⟩:=aK bf q4 (λW (b:Below aw.heap.size aw W)=>(tT.below b).up b.size);clear bf q4 tT;obtain⟨KM,aD,KS,K7,y,N,At⟩:=al.dw pe 1 (a:=t) rfl;simp only[Nat.reduceAdd,zF]at y N;obtain⟨Li,Ll,V⟩:=aK y N (λW (b:Below aw.heap.size aw W)=>(At.below b).up b.size);clear y N At;clear h lI h2 dM kc mQ eT dT bA gK Q j pe;have IV:=qQ (λW (c:Below aw.heap.size aw W) g (ry:av W g 68 #[.slice Ar s.I.length cs,.slice Au s.e.length xs,.slice KL b.I.length ib,.slice KR b.e.length K5]) =>
  al.kA (.agg #[.int .i64 5,u1,u2,u3,u4,u5,.int .i64 op.v]) op (some ⟨g,0,none⟩) 2 s b d W ((H.q W (aA c4.q c)).o) (al.jb ry (U.q W c) (sR.q W c)) mG.q.1 o9.q.1.1 mG.q.2.1.1 mG.q.2.1.2)
 have IW:=qQ (λW (c:Below aw.heap.size aw W) g (ry:av W g 68 #[.slice KK a.I.length cC,.slice KQ a.e.length K4,.slice KM t.I.length aD,.slice KS t.e.length K7]) =>
  al.kA (.agg #[.int .i64 5,u1,u2,u3,u4,u5,.int .i64 op.v]) op (some ⟨g,0,none⟩) 2 a t d W ((H.q W (aA c4.q c)).o) (al.jb ry (S.q W c) (V.q W c)) mG.q.1 o9.q.1.2 mG.q.2.2.1 mG.q.2.2.2)
 exact QQ
theorem al.Fb(aM val:Value)(e7 GS:Option Addr)(Z cu:Nat)(op:J.Op)(d:List Int)(v a b s t:ad.ay)(B:Nat)(w:World)(h:al.kv w B aM val e7 GS op d v [a,b] [s,t])(Q:op.k=16):Calls Tryz.prog 32 #[aM,val,.slice e7 2 Z,.slice GS 2 cu] w λe w'=>∃v',e=.returned v'/\al.a1 w' w'.heap.size v' (ae.bZ op d [a,b] [s,t])/\Below w.heap.size w w':=by
 have H:=qQ (λW (b:Below w.heap.size w W)=>h.go b);have dk:=qQ h;obtain⟨u1,u2,u3,u4,u5,rfl,-⟩:=h.o;obtain⟨D,c,X,x,rfl,lI,-,h2,-⟩:=h.di;refine JP ?_;intro od ag fo dM eT aC kt kc dT aw iC mQ bA gK c4 hl l8 hn ly iQ iB pB o9 mG;rw[Q]at *;obtain⟨fI,fM,rfl,-⟩:=(H.q aw c4.q).iP (by simp);obtain⟨dL,os,rfl,-⟩:=(H.q aw c4.q).gs (by simp);have j:=(H.q aw c4.q).iP;have pe:=(H.q aw c4.q).gs;obtain⟨KK,cC,KQ,K4,m,M,O⟩:=al.dw j 0 (a:=a) rfl;simp only[qL,xW,qI]at m M;obtain⟨Lg,Lj,S⟩:=aK m M (λW (b:Below aw.heap.size aw W)=>(O.below b).up b.size);clear m M O;obtain⟨KL,ib,KR,K5,xm,xn,Dp⟩:=al.dw j 1 (a:=b) rfl;simp only[Nat.reduceAdd,zF]at xm xn;refine Vq ?_;intro uv uw sR Ar cs Au xs bf q4 tT;clear xm xn Dp;simp only[qL,xW,qI]at bf q4;obtain⟨Lh,Lk,U⟩:=aK bf q4 (λW (b:Below aw.heap.size aw W)=>(tT.below b).up b.size);clear bf q4 tT;obtain⟨KM,aD,KS,K7,y,N,At⟩:=al.dw pe 1 (a:=t) rfl;simp only[Nat.reduceAdd,zF]at y N;obtain⟨Li,Ll,V⟩:=aK y N (λW (b:Below aw.heap.size aw W)=>(At.below b).up b.size);clear y N At;clear h lI h2 dM kc mQ eT dT bA gK Q j pe;have IV:=qQ (λW (c:Below aw.heap.size aw W) g (ry:av W g 68 #[.slice Ar s.I.length cs,.slice Au s.e.length xs,.slice KL b.I.length ib,.slice KR b.e.length K5]) =>
  al.kA (.agg #[.int .i64 16,u1,u2,u3,u4,u5,.int .i64 op.v]) op (some ⟨g,0,none⟩) 2 s b d W ((H.q W (aA c4.q c)).o) (al.jb ry (U.q W c) (sR.q W c)) mG.q.1 o9.q.1.1 mG.q.2.1.1 mG.q.2.1.2)
 have IW:=qQ (λW (c:Below aw.heap.size aw W) g (ry:av W g 68 #[.slice KK a.I.length cC,.slice KQ a.e.length K4,.slice KM t.I.length aD,.slice KS t.e.length K7]) =>
  al.kA (.agg #[.int .i64 16,u1,u2,u3,u4,u5,.int .i64 op.v]) op (some ⟨g,0,none⟩) 2 a t d W ((H.q W (aA c4.q c)).o) (al.jb ry (S.q W c) (V.q W c)) mG.q.1 o9.q.1.2 mG.q.2.2.1 mG.q.2.2.2)
 exact QQ
def al.rA(a b s t:List Int)(n k:Nat):List Int:=(List.range n).map λ(i:Nat)=>if i<k then(if a.getD i 0<b.getD i 0 then t.getD i 0 else s.getD i 0)else 0
theorem al.zg(a b s t:List Int)(n k:Nat):(al.rA a b s t n k).length=n:=by simp[al.rA]
theorem al.It(a b s t:List Int)(n:Nat):al.rA a b s t n 0=List.replicate n 0:=by
 simp[al.rA,List.map_const']
theorem al.Kp(a b s t:List Int)(n:Nat):al.rA a b s t n n=(List.range n).map λ(i:Nat)=>if a.getD i 0<b.getD i 0 then t.getD i 0 else s.getD i 0:=by
 unfold al.rA;refine xC λi hi=>?_
 rw[qY (List.mem_range.1 hi)]
theorem al.Is(a b s t:List Int)(n k:Nat)(x:Int)(r:x=if a.getD k 0<b.getD k 0 then t.getD k 0 else s.getD k 0):(al.rA a b s t n k).set k x=al.rA a b s t n (k+1):=by
 refine jP (by simp[al.zg]) λi y B=>?_
 have q:∀j (h:i<(al.rA a b s t n j).length),(al.rA a b s t n j)[i]=if i<j then(if a.getD i 0<b.getD i 0 then t.getD i 0 else s.getD i 0)else 0:=λj h=>by simp[al.rA]
 rw[kG,q,q];by_cases e:k=i
 .subst e;rw[qY rfl,qY (by omega),r]
 rw[qV e];by_cases m:i<k
 .rw[qY m,qY (show i<k+1 by omega)]
 rw[qV m,qV (by omega)]
structure al.x4 (w wr:World) (g ox qy:Nat) (L:List Int) (D:Option Addr) (m c n:Nat):Prop where
 b:Below w.heap.size w wr
 o:av wr g 2 (ints L).toArray
 r:av wr ox 68 #[.slice none 0 0,.slice none 0 0]
 t:av wr qy 68 #[.slice D m c,.slice (some ⟨g,0,none⟩) n n]
 LN:w.heap.size<=g
 gr:ox≠g
 gt:qy≠g
theorem al.x4.go{w wr W:World}{g ox qy:Nat}{L:List Int}{D:Option Addr}{m c n:Nat}(h:al.x4 w wr g ox qy L D m c n)(i:Below wr.heap.size wr W):al.x4 w W g ox qy L D m c n :=
 ⟨h.b.trans (i.mono h.b.size),h.o.go i,h.r.go i,h.t.go i,h.LN,h.gr,h.gt⟩
theorem al.x4.set{w wr:World}{g ox qy:Nat}{L:List Int}{D:Option Addr}{m c n:Nat}(h:al.x4 w wr g ox qy L D m c n)(k:Nat)(x:Int):al.x4 w (wr.setCell ⟨g,k,none⟩ (.int .i64 x)) g ox qy (L.set k x) D m c n :=
 ⟨h.b.setCell (p:=⟨g,k,none⟩) h.LN _,by have:=h.o.bs k (.int .i64 x);rwa [ints_set]at this,h.r.cR (p:=⟨g,k,none⟩) h.gr _,h.t.cR (p:=⟨g,k,none⟩) h.gt _,h.LN,h.gr,h.gt⟩
theorem al.x4.drewN{w wr:World}{g ox qy:Nat}{L:List Int}{D:Option Addr}{m c n:Nat}(h:al.x4 w wr g ox qy L D m c n)(d:Nat):al.x4 w (wr.drewN d) g ox qy L D m c n:=h.go (zV (qK _ _) d)
theorem al.h4{W:World}{B b o:Nat}{l:List Int}(h:ai.ao W B (some ⟨b,o,none⟩) l)(j:k<l.length):W.cell? ⟨b,o+k,none⟩=some (.int .i64 l[k]):=by
 obtain⟨m,l4,e,-,i⟩:=h (by omega);simp only[zZ,kD,xD]at e;rw[e.1,e.2];exact i k j
theorem al.GU(aM val:Value)(e7 GS:Option Addr)(cA cu:Nat)(op:J.Op)(d:List Int)(v a b s t:ad.ay)(B:Nat)(w:World)(h:al.kv w B aM val e7 GS op d v [a,b] [s,t])(aR:op.k=6):Calls Tryz.prog 32 #[aM,val,.slice e7 2 cA,.slice GS 2 cu] w λe w'=>∃v',e=.returned v'/\al.a1 w' w'.heap.size v' (ae.bZ op d [a,b] [s,t])/\Below w.heap.size w w':=by
 have cG:=h.uk;subst cG;have H:=qQ (λW (b:Below w.heap.size w W)=>h.go b);have bF:=qQ h;obtain⟨u1,u2,u3,u4,u5,rfl,-⟩:=h.o;obtain⟨D,c,X,x,rfl,b1,-,b0,-⟩:=h.di;have aT:=qQ (λW (b:Below w.heap.size w W)=>qZ ((b1.below (b.mono bF.q.ah)).up (qJ bF.q.ah b.size)) b0);obtain⟨ag,cH,b_,bU,-⟩:=b8 w 58 #[.int .i64 op.k,u1,u2,u3,u4,u5,.int .i64 op.v];obtain⟨aC,cI,b',a2,-⟩:=b8 ag 68 #[.slice D v.I.length c,.slice X v.e.length x];obtain⟨aw,cJ,ca,bA,-⟩:=b8 aC 68 #[.slice none 0 0,.slice none 0 0];have a4:=aA bU a2;obtain⟨S,cf,cg,bL,bT⟩:=fC (aA a4 bA) ((b_.go a2).go bA) (b'.go bA) ca a4.size;have cB:=λi=>cf.q.cell i
 have cD:=λi=>cg.q.cell i
 have bW:ae.bZ op v.I [a,b] [s,t]=⟨v.I,(List.range (R.size v.I).1.toNat).map λ(i:Nat)=>if a.e.getD i 0<b.e.getD i 0 then t.e.getD i 0 else s.e.getD i 0⟩:=by unfold ae.bZ;rw[qV (by omega),qV (by omega),qY (by omega)];rfl
 rw[bW];clear bW;have bd:=ad.vn (.inr (.inr (.inr (.inl aR)))) h.ar;have a':a.I=v.I:=bd _ (by simp);have bb:b.I=v.I:=bd _ (by simp);have bc:s.I=v.I/\t.I=v.I:=by
  have e:=h.z_;simp only[qE,zU,zT,xD]at e;exact⟨e.1.trans a',e.2.trans bb⟩
 obtain⟨cT,z2,z3,z4,z5⟩:=R.aB (ae.cv h.ar).2.2;obtain⟨n,ak⟩:=gz ((R.size v.I).1.toNat);have aE:∀x:ad.ay,ad.cO x->x.I=v.I->x.e.length=n:=λx bz e=>by rw[bz.2.1,e,ak]
 have a0:=qQ (show n<=65536/\(R.size v.I).2=0 from⟨by omega,(ae.cv h.ar).2.2⟩);rw[ak];have cp:=qQ (by
  have ak:=al.rX D c v.I aw.heap.size aw (qX _) (aT.q aw S.q).1 b0 a0.q.2;exact ak)
 have co:=qQ (qZ ak True.intro);obtain⟨av,a9⟩:∃bm:List Int,((List.range n).map λ(i:Nat)=>if a.e.getD i 0<b.e.getD i 0 then t.e.getD i 0 else s.e.getD i 0)=bm:=⟨_,rfl⟩;have V:=a9;rw[a9];rw[aR]at *;obtain⟨fI,fM,rfl,-⟩:=(H.q aw S.q).iP (by simp);obtain⟨dL,os,rfl,-⟩:=(H.q aw S.q).gs (by simp);have be:=(H.q aw S.q).iP;have bh:=(H.q aw S.q).gs;obtain⟨cU,cC,c6,dp,aF,aK,ao⟩:=al.dw be 0 (a:=a) rfl;simp only[qL,xW,qI]at aF aK;obtain⟨y,a5⟩:=gz a.e;have bt:y.length=n:=by rw[<-a5];exact(aE a (h.Aw a (by simp)) a')
 have ao:=ao.parts.2.1;rw[a5]at aK ao V;rw[bt]at aK;obtain⟨c1,cq,bG,ci⟩:=cV aF aK (λW (b:Below aw.heap.size aw W)=>(ao.below b).up b.size) (qZ bt True.intro);clear aF aK ao a5 bt;obtain⟨cW,ib,c7,dr,aG,aL,ap⟩:=al.dw be 1 (a:=b) rfl;simp only[Nat.reduceAdd,zF]at aG aL;obtain⟨E,a6⟩:=gz b.e;have bu:E.length=n:=by rw[<-a6];exact(aE b (h.Aw b (by simp)) bb)
 have ap:=ap.parts.2.1;rw[a6]at aL ap V;rw[bu]at aL;obtain⟨c2,cw,bH,cj⟩:=cV aG aL (λW (b:Below aw.heap.size aw W)=>(ap.below b).up b.size) (qZ bu True.intro);clear aG aL ap a6 bu;obtain⟨cY,cs,c9,xs,bf,aN,aq⟩:=al.dw bh 0 (a:=s) rfl;simp only[qL,xW,qI]at bf aN;obtain⟨N,a7⟩:=gz s.e;have bv:N.length=n:=by rw[<-a7];exact(aE s (h.xl s (by simp)) bc.1)
 have aq:=aq.parts.2.1;rw[a7]at aN aq V;rw[bv]at aN;obtain⟨c3,cx,bI,cl⟩:=cV bf aN (λW (b:Below aw.heap.size aw W)=>(aq.below b).up b.size) (qZ bv True.intro);clear bf aN aq a7 bv;obtain⟨cZ,aD,c_,dt,Z,aO,At⟩:=al.dw bh 1 (a:=t) rfl;simp only[Nat.reduceAdd,zF]at Z aO;obtain⟨O,a8⟩:=gz t.e;have Q:O.length=n:=by rw[<-a8];exact(aE t (h.xl t (by simp)) bc.2)
 have At:=At.parts.2.1;rw[a8]at aO At V;rw[Q]at aO;obtain⟨c4,cy,bJ,cm⟩:=cV Z aO (λW (b:Below aw.heap.size aw W)=>(At.below b).up b.size) (qZ Q True.intro);clear Z aO At a8 Q;have V:=qQ (qZ V True.intro);clear h b1 b_ b' ca bU a2 bA a4 aR be bh bd a' bb bc cT z2 z3 z4 z5 aE ak a9;go_enter func32,ntmps32;go_wp2_with (with_reducible refine cp.q.mono ?_);rintro e bE ⟨g,n',b7,rfl,b5,bp,-,aP⟩;obtain rfl:n=n':=co.q.1.symm.trans b7.symm;clear b7 cB cD cH cI cJ;obtain⟨cQ,cK,bB,eC,-⟩:=b8 bE 68 #[.slice D v.I.length c,.slice (some ⟨g,0,none⟩) n n];have c0:=qQ (S.q.trans ((aA aP eC).mono S.q.size));have cn:=qQ (show al.x4 aw cQ g aC.heap.size bE.heap.size (al.rA y E N O n 0) D v.I.length c n from
  ⟨aA aP eC,by rw[al.It];exact bp.go eC,(bL.q.go (aA aP eC)),bB,b5,by have:=bL.q.lt;omega,by have:=bp.lt;omega⟩)
 have cE:=λi=>bB.cell i
 clear b5 bp aP bB eC;go_wp2_with fail;clear cE cK;go_loopw [10,51] (λ_ bD wr=>∃k:Nat,bD=.int .i64 (k:Int)/\k<=n/\al.x4 aw wr g aC.heap.size bE.heap.size (al.rA y E N O n k) D v.I.length c n) (λ_ bD _=>n-(intOf bD).toNat)
 case atStart=>exact⟨0,rfl,by omega,cn.q⟩
 obtain⟨k,rfl,aR,hm⟩:=hrel;have j:=qQ hm;have dh:=a0.q.1;clear hm;by_cases b6:k<n
 .have bn:k<y.length:=by have:=ci.q.1;omega
  obtain⟨dl,xb,rfl,-,-⟩:=bG.q wr j.q.b (by omega);have bP:=qQ (λW (c:Below aw.heap.size aw W)=>al.h4 (bG.q W c) bn);have bo:k<E.length:=by have:=cj.q.1;omega
  obtain⟨dm,g',rfl,-,-⟩:=bH.q wr j.q.b (by omega);have bQ:=qQ (λW (c:Below aw.heap.size aw W)=>al.h4 (bH.q W c) bo);have bq:k<N.length:=by have:=cl.q.1;omega
  obtain⟨ps,cr,rfl,-,-⟩:=bI.q wr j.q.b (by omega);have bR:=qQ (λW (c:Below aw.heap.size aw W)=>al.h4 (bI.q W c) bq);have br:k<O.length:=by have:=cm.q.1;omega
  obtain⟨dn,c',rfl,-,-⟩:=bJ.q wr j.q.b (by omega);have bS:=qQ (λW (c:Below aw.heap.size aw W)=>al.h4 (bJ.q W c) br);have Y:=qQ (λx (bz:x=if y[k]<E[k]then O[k]else N[k])=>al.Is y E N O n k x (by simpa[bn,bo,bq,br]using bz));generalize y[k]=aF at Y bP;generalize E[k]=aG at Y bQ;generalize N[k]=bf at Y bR;generalize O[k]=Z at Y bS;have bw:=al.zg y E N O n k;generalize al.rA y E N O n k=M at j Y bw;have aX:=qQ (qZ bw True.intro);clear bw;have i1:=b2 k;have i2:(k:Int)<n:=by omega
  clear bn bo bq br;go_wp2_with fail;have aJ:=λW (c:Below wr.heap.size wr W)=>qZ (λi=>(j.q.go c).t.cell i) (qZ (cx.q W (j.q.go c).b) (bR.q W (j.q.go c).b))
  refine aH (l:=[_]) [(0,54,[]),(1,55,[0]),(2,56,[]),(3,57,[]),(4,58,[3]),(5,59,[4]),(6,60,[5]),(7,61,[]),(8,62,[6,7]),(9,63,[8]),(10,64,[1,2])] [11] [.eq _,.eq _,.eq _,.eq _,.eq _,.eq _,.eq _,.eq _,.eq _,.eq _,.eq _]
   (λW=>Below wr.heap.size wr W) (qK _ _).drew ((fr)<|(fr)<|(fr)<|(fr)<|(fr)<|(fr)<|(fr)<|(fr)<|(fr)<|(fr)<|(fr)<|fg) ?_ (λ_ _ h a3=>aA h a3)
  intros;rename_i W az _ _ _ _ _ _ _ _ _ _ _;subst_vars;have aZ:=qQ (j.q.go az);clear aJ az;have b3:=aZ.q.o.frozen k;obtain⟨u0,hu⟩:∃u,W.cell? ⟨g,k,none⟩=some u:=⟨.int .i64 (M[k]'(by have:=aX.q.1;omega)),by rw[aZ.q.o.cell];simp[ints,aX.q.1,b6]⟩;obtain⟨U,a_⟩:=gz (W.setCell ⟨g,k,none⟩ (.int .i64 bf));have m:=qQ (aZ.q.set k bf);rw[a_]at m;have cL:=cq.q U m.q.b;have cM:=bP.q U m.q.b;have cN:=cw.q U m.q.b;have cP:=bQ.q U m.q.b;by_cases Q:aF<aG
  .have q:=zD Q;have bN:=qQ (show(M.set k bf).set k Z=al.rA y E N O n (k+1) by rw[List.set_set];exact Y.q _ (qY Q).symm);have aU:=qQ (qZ (show(M.set k bf).length=n by rw[xJ];exact aX.q.1) True.intro);clear Q;obtain⟨cz,bV⟩:=gz (M.set k bf);rw[bV]at bN aU m;clear bV;go_wp2_with fail
   go_quiet (fail)
   go_wp2_with fail;clear cL cM cN cP hu b3;have aJ:=λbg (c:Below U.heap.size U bg)=>qZ (λi=>(m.q.go c).t.cell i) (qZ (cy.q bg (m.q.go c).b) (bS.q bg (m.q.go c).b))
   refine aH (l:=[_]) [(0,80,[]),(1,81,[0]),(2,82,[]),(3,83,[]),(4,84,[3]),(5,85,[4]),(6,86,[5]),(7,87,[]),(8,88,[6,7]),(9,89,[8]),(10,90,[1,2])] [11] [.eq _,.eq _,.eq _,.eq _,.eq _,.eq _,.eq _,.eq _,.eq _,.eq _,.eq _]
    (λbg=>Below U.heap.size U bg) (zV (qK _ _) _).drew ((fr)<|(fr)<|(fr)<|(fr)<|(fr)<|(fr)<|(fr)<|(fr)<|(fr)<|(fr)<|(fr)<|fg) ?_ (λ_ _ h a3=>aA h a3)
   intros;rename_i W2 az _ _ _ _ _ _ _ _ _ _ _;subst_vars;have aV:=qQ (m.q.go az);clear aJ az;have b3:=aV.q.o.frozen k;obtain⟨u0,hu⟩:∃u,W2.cell? ⟨g,k,none⟩=some u:=⟨.int .i64 (cz[k]'(by have:=aU.q.1;omega)),by rw[aV.q.o.cell];simp[ints,aU.q.1,b6]⟩;obtain⟨c5,a_⟩:=gz (W2.setCell ⟨g,k,none⟩ (.int .i64 Z));have aW:=qQ (aV.q.set k Z);rw[a_]at aW;rw[bN.q]at aW;go_wp2_with fail;go_roundw
   case rel=>exact⟨k+1,by go_num,by omega,aW.q⟩
   case measure=>simp[intOf];omega
  have q:=zN Q;rw[Y.q _ (qV Q).symm]at m;clear Q;go_wp2_with fail
  go_quiet (fail)
  go_wp2_with fail;go_roundw
  case rel=>exact⟨k+1,by go_num,by omega,m.q.drewN _⟩
  case measure=>simp[intOf];omega
 obtain rfl:n=k:=by omega
 have bO:=qQ (show al.rA y E N O n n=av by rw[al.Kp];exact V.q.1);rw[bO.q]at j;have bM:=qQ (show av.length=n by rw[<-bO.q,al.zg]);have dk:=bT.q;have aQ:=S.q.trans (j.q.b.mono S.q.size);have b9:al.a1 wr wr.heap.size (.agg #[.slice D v.I.length c,.slice (some ⟨g,0,none⟩) n n]) ⟨v.I,av⟩ :=
  ⟨D,c,some ⟨g,0,none⟩,n,by show _=Value.agg #[.slice D v.I.length c,.slice (some ⟨g,0,none⟩) av.length n];rw[bM.q],(aT.q wr aQ).1,al.Ab j.q.o,(aT.q wr aQ).2,by show av.length<=n;rw[bM.q];exact qX _,by have:=a0.q.1;omega⟩
 have cd:=qQ aQ;have dc:=λi=>j.q.t.cell i
 obtain⟨wf,dj,cb,bX,bY⟩:=al.hh j.q.r b9 cd.q bT.q;have da:=λi=>(j.q.r).cell i
 have df:=λi=>(j.q.r).frozen i
 have db:=λi=>((j.q.r).bs 0 (.slice D v.I.length c)).cell i
 have dg:=λi=>((j.q.r).bs 0 (.slice D v.I.length c)).frozen i
 have cF:=λi=>cb.cell i
 have bK:=qQ (qZ bX bY);clear cb bX bY;clear b9 aQ;go_wp2_with fail;refine qR (v:=.agg #[.slice D v.I.length c,.slice (some ⟨g,0,none⟩) n n]) (by simp[results,results32,go_sem,cF]) rfl ⟨_,rfl,bK.q.1,bK.q.2⟩
end Go.Proofs.YtabmnaaidfpmcaaGreatDoor
end
section
namespace ae
open J (Op Node bh)
open ad (ay nth aX a6 cO dv)
structure jo (bY V:List ay) (N:List Node) (k:Nat) (S:List ay):Prop where
 len:S.length=k
 go:hF bY V (N.drop k) S=hF bY V N []
 LJ:∀i,i<k->(nth S i).I=(nth V i).I/\cO (nth S i)
theorem jo.zero(bY V:List ay)(N:List Node):jo bY V N 0 []:=⟨rfl,rfl,λi h=>by omega⟩
theorem jo.snoc{bY V S:List ay}{N:List Node}(h:jo bY V N k S)(r:k<N.length){a:ay}(q:a=if k<bY.length then nth bY k else bZ N[k].o (nth V k).I (N[k].a.map λa=>nth V a.toNat) (N[k].a.map λa=>nth S a.toNat))(ar:a.I=(nth V k).I/\cO a):jo bY V N (k+1) (S++[a]):=by
 refine⟨by simp[h.len],?_,λi hi=>?_⟩
 .rw[<-h.go,zX r];show _=hF bY V (N.drop (k+1)) (S++[if S.length<bY.length then nth bY S.length else _]);rw[q,h.len]
 by_cases e:i<k
 .rw[hL (by rw[h.len];exact e)];exact h.LJ i e
 have j:i=S.length:=by have:=h.len;omega
 subst j;have m:nth (S++[a]) S.length=a:=hY S a _;rw[m,h.len];exact ar
theorem jo.par{g:bh}{A bY S:List ay}(i:Fits g A bY)(h:jo bY (values A g.n) g.n k S)(q:k<bY.length):jo bY (values A g.n) g.n (k+1) (S++[nth bY k]):=by
 have m:=lP i;have hp:=J.dO g.n;have r:=i.pn;refine h.snoc (by omega) (by rw[qY q]) ?_;have j:=i.LM k (by omega);rw[m.I k (by omega)];exact j
theorem jo.own{g:bh}{A bY S:List ay}(i:Fits g A bY)(h:jo bY (values A g.n) g.n k S)(N:bY.length<=k)(j:k<g.n.length):(∀a∈g.n[k].a,0<=a/\a<(k:Int))/\J.I g.n[k].o ((g.n[k].a.map λa=>nth (values A g.n) a.toNat).map (·.I))=((nth (values A g.n) k).I,0)/\(g.n[k].a.map λa=>nth S a.toNat).map (·.I)=(g.n[k].a.map λa=>nth (values A g.n) a.toNat).map (·.I)/\(∀a∈(g.n[k].a.map λa=>nth (values A g.n) a.toNat),cO a)/\(∀a∈(g.n[k].a.map λa=>nth S a.toNat),cO a)/\dv g.n[k].o.v/\jo bY (values A g.n) g.n (k+1) (S++[bZ g.n[k].o (nth (values A g.n) k).I (g.n[k].a.map λa=>nth (values A g.n) a.toNat) (g.n[k].a.map λa=>nth S a.toNat)]):=by
 have q:=lP i;have O:=i.pn;have M:=i.ji;obtain⟨s1,s2,B,Q⟩:=q.step j (by omega);have E:(nth (values A g.n) k).I=(J.look g).1.getD k []:=q.I k j;rw[<-E]at s2;have m:∀a∈g.n[k].a,0<=a/\a.toNat<k:=λa hm=>bP s1 hm
 have y:=i.val _ (qP j);have r:(g.n[k].a.map λa=>nth S a.toNat).map (·.I)=(g.n[k].a.map λa=>nth (values A g.n) a.toNat).map (·.I):=by
  rw[vE,vE];refine xC (λa hm=>?_);exact(h.LJ a.toNat (m a hm).2).1
 have x:∀a∈(g.n[k].a.map λa=>nth S a.toNat),cO a:=λa hm=>by
  obtain⟨b,D,rfl⟩:=List.mem_map.1 hm;exact(h.LJ b.toNat (m b D).2).2
 refine⟨λa hm=>?_,s2,r,B,x,y,h.snoc j (by rw[qV (by omega)]) (r1 y s2 r x B)⟩;have:=m a hm;omega
theorem jo.done{bY V S:List ay}{N:List Node}(h:jo bY V N N.length S):S=hF bY V N []:=by
 have:=h.go;rw[uH]at this;exact this
end ae
namespace Go.Proofs.YtabmnaaidfpmcaaGreatDoor
open Go.RowKit aS
theorem al.C9(aM val:Value)(e7 GS:Option Addr)(cC cs:Nat)(op:J.Op)(d:List Int)(v:ad.ay)(aV sV:List ad.ay)(B:Nat)(w:World)(h:al.kv w B aM val e7 GS op d v aV sV):Calls Tryz.prog 32 #[aM,val,.slice e7 aV.length cC,.slice GS sV.length cs] w λe w'=>∃v',e=.returned v'/\al.a1 w' w'.heap.size v' (ae.bZ op d aV sV)/\Below w.heap.size w w':=by
 by_cases j:op.k=2
 .exact al.GQ aM val e7 GS cC cs op d v aV sV B w h j
 by_cases m:op.k=7
 .exact al.GV aM val e7 GS cC cs op d v aV sV B w h m
 by_cases q:op.k=5\/op.k=6\/op.k=16\/op.k=18\/op.k=19
 .obtain⟨a,b,s,t,rfl,rfl,-⟩:=ae.KB h.ar h.z_ q;rcases q with k | k | k | k | k
  .exact al.GR aM val e7 GS cC cs op d v a b s t B w h k
  .exact al.GU aM val e7 GS cC cs op d v a b s t B w h k
  .exact al.Fb aM val e7 GS cC cs op d v a b s t B w h k
  .exact al.Fc aM val e7 GS cC cs op d v a b s t B w h k
  exact al.Fe aM val e7 GS cC cs op d v a b s t B w h k
 by_cases i:op.k=8
 .obtain⟨a,b,e,s,t,u,rfl,rfl,-⟩:=ae.GO h.ar h.z_ i;exact al.GX aM val e7 GS cC cs op d v a b e s t u B w h i
 exact al.C8 aM val e7 GS cC cs op d v aV sV B w h ⟨j,m,by omega,by omega,by omega,i,by omega,by omega⟩
def al.K2(N:Nat)(a:ad.ay):aS.c8:=⟨λv w=>∃g D c X x,v=.slice (some ⟨g,0,none⟩) 1 1/\N<=g/\av w g 68 #[.slice D a.I.length c,.slice X a.e.length x]/\al.a1 w w.heap.size (.agg #[.slice D a.I.length c,.slice X a.e.length x]) a,λi h=>by
 obtain⟨g,D,c,X,x,e,j,m,q⟩:=h;exact⟨g,D,c,X,x,e,j,m.go i,(q.below i).up i.size⟩⟩
theorem _root_.XZ{G:Prop}(h:G:=by
 go_simp;with_reducible refine(ur.q _ a_).mono ?_
 rintro e hG ⟨v,rfl,cw,aE⟩;exact aI.q _ _ aE (cw.low a_.size)
 ):G:=h
theorem _root_.XX{G:Prop}(h:G:=by
 go_simp;with_reducible refine(Hd.q _ a_).mono ?_
 rintro e hG ⟨v,rfl,cw,aE⟩;exact aI.q _ _ aE (cw.low a_.size)
 ):G:=h
theorem al.A7(val:Value)(g:J.bh)(G br:Option Addr)(bW cu:Nat)(P bY:List ad.ay)(B:Nat)(w:World)(ah:B<=w.heap.size)(h:b4.cx w B val g)(bc:b4.fE g)(b9:al.bo w B G P)(b_:al.bo w B br bY)(M:ae.Fits g P bY)(dh:g.o.length<=4194304):Calls Tryz.prog 11 #[val,.slice G P.length bW,.slice br bY.length cu] w λe w'=>∃v1 v2,e=.returned (.tuple #[v1,v2])/\al.de w.heap.size w' v1 (g.o.map λo=>ad.nth (ae.values P g.n) o.toNat)/\al.de w.heap.size w' v2 (g.o.map λo=>ad.nth (ae.hF bY (ae.values P g.n) g.n []) o.toNat)/\Below w.heap.size w w':=by
 have b3:=ae.lP M;have b7:=J.gX M.ok;have cU:=qQ (b9.bI ah);have bB:=qQ (b_.bI ah);obtain⟨A,c,vo,rfl,cb,cZ,dc,⟨O,co,rfl,io,lo,c6⟩⟩:=h;have bH:=qQ (cb.bI ah);have bJ:=qQ (io.bI ah);obtain⟨ak,cf,be,b0,-⟩:=b8 w 25 #[.slice A g.n.length c,.slice O g.o.length co];have c0:g.n.length<=4096:=by have:=(J.k5 g).1;have m:=(ae.gb (g:=g) M.ok).1;omega
 have bu:=qQ b0;have bD:=qQ be;have cg:=λi=>be.cell i
 obtain⟨aW,c7,cQ,aQ,aR,bM⟩:=fq (al.mx A c g.n G bW P _ ak.heap.size ak (qX _) (bH.q ak b0) (cU.q ak b0) b3 bc (by omega)) M bc (show ∀o∈g.o,0<=o/\o<(g.n.length:Int)from λo a9=>by have:=ae.bP b7.2.2.2.2 a9;omega) (λS (h:ae.jo bY (ae.values P g.n) g.n g.n.length S)=>h.done) (λS k (h:ae.jo bY (ae.values P g.n) g.n k S) aL=>ae.jo.par M h aL);have bL:=qQ (λS k (h:ae.jo bY (ae.values P g.n) g.n k S) aL b'=>ae.jo.own M h aL b');have c2:bY.length<=4096:=by have:=M.pn;have:=J.dO g.n;omega
 have a2:=ae.jo.zero bY (ae.values P g.n) g.n;obtain⟨V,a6⟩:=gz (ae.values P g.n);have kr:=qQ (show V.length=g.n.length by rw[<-a6,ae.db]);rw[a6]at aW aR bM bL a2 |-;have cB:=qQ a2;obtain⟨bm,b5⟩:=gz (ae.hF bY V g.n []);rw[b5]at aR |-;obtain⟨n,a8⟩:=gz g.n.length;have bG:=qQ (qZ a8 True.intro);obtain⟨p,hp⟩:=gz bY.length;have bN:=qQ (qZ hp True.intro);rw[hp]at c2 |-;rw[a8]at c0 cZ aW bD cg cf kr aQ |-;obtain⟨bS,a4⟩:∃L,(g.o.map λ(o:Int)=>ad.nth V o.toNat)=L:=⟨_,rfl⟩;obtain⟨bT,a5⟩:∃L,(g.o.map λ(o:Int)=>ad.nth bm o.toNat)=L:=⟨_,rfl⟩;have bK:=qQ (qZ a4 a5);rw[a4,a5];clear cb io lo c6 be b0 b9 b_ b3 b7 M bc a6 b5 a2 a8 hp a4 a5;go_enter func11,ntmps11;go_wp2_with (with_reducible refine aW.q.mono ?_);rintro e ag v1 rfl N aG;obtain⟨aO,bF,c9,cO⟩:=cV (aA bu.q aG) (bD.q.go aG) (show ak.heap.size<=ag.heap.size from aG.size) (N.low bu.q.size);obtain⟨cA,bV,aC,-⟩:=N.form;rw[kr.q]at aC;subst aC;have dl:=λi=>bF.q.cell i
 have ci:=aO.q.size;clear N aG cg cf;go_wp2_with fail;go_loopw [9,10,11,19] (λv _ _ bf wr=>∃(k:Nat) (S:List ad.ay),bf=.int .i64 (k:Int)/\k<=n/\Below ag.heap.size ag wr/\al.de ag.heap.size wr v S/\ae.jo bY V g.n k S) (λ_ _ _ bf _=>n-(intOf bf).toNat)
 case atStart=>exact⟨0,[],rfl,by omega,qK _ _,al.de.nil _ _,cB.q⟩
 obtain⟨k,S,rfl,aL,aE,N,aN⟩:=hrel;obtain⟨cF,ao,bQ,r⟩:=cV aE (aO.q.trans (aE.mono ci)) N aN;have Lw:=aE.size;have c1:S.length<=1099511627776:=by have:=aN.len;omega
 obtain⟨bn,bU,aC,-⟩:=N.form;rw[aN.len]at aC;subst aC;have bO:=qQ (cO.q.below aE);clear N aN;by_cases b':k<n
 .have a7:k<g.n.length:=by have:=bG.q.1;omega
  obtain⟨c_,on,rfl,da,bX⟩:=bH.q wr ao.q (by omega);obtain⟨v1,v2,v3,v4,v5,v6,⟨dn,dr,dt,du,dv,dw,dx,dy⟩,s1,s2,cm,cn,cp,cz⟩:=bX k a7;have aF:=qQ (cQ.q _ (qP a7));have aT:=qQ (λh=>bL.q S k r.q h a7);generalize g.n[k]=x at *;have ni:=qQ (qZ s1 (qZ s2 (qZ cm (qZ cn (qZ cp cz)))));obtain⟨rq,cy,rfl,_⟩:=s1;obtain⟨dp,bE,rfl,_⟩:=s2;obtain⟨sN,hs,rfl,_⟩:=cm;obtain⟨sO,tf,rfl,_⟩:=cn;obtain⟨sP,p1,rfl,_⟩:=cp;obtain⟨w7,xa,rfl,Hw,cY⟩:=cz;refine Ja ?_;intro i1 i2 gy HB Gl eg gR;obtain⟨bz,aV,aX⟩:=aK (aO.q.trans (gR.q.mono ci)) (bQ.q.below eg) (bO.q.below eg);refine Jz ?_;intro Bc Be eb Ed HC;clear bX Gl eg Hw cY aE;by_cases di:k<p
  .have a':k<bY.length:=by have:=bN.q.1;omega
   have Q:=qQ (bM.q S k r.q a');obtain⟨fI,fM,rfl,-,-⟩:=bB.q gy bz.q (by omega);obtain⟨D,c',X,h',z0,oc,Z⟩:=al.at_one (bB.q gy bz.q) a';have bs:=qQ (show ad.nth bY k=bY[k] by simp[ad.nth,a']);rw[bs.q]at Q;generalize bY[k]=a at z0 oc Z Q;have i3:(k:Int)<p:=by omega
   have dg:=c1;clear bs aT;obtain⟨dm,dk,cj,cq,-⟩:=b8 gy 68 #[.slice D a.I.length c',.slice X a.e.length h'];obtain⟨bw,cN,cD⟩:=aK (aA gR.q cq) (aV.q.below cq) ((Z.below cq).up cq.size);have c4:=bw.q.size;clear cq;go_wp2_with (at_builtin;refine al.rj cN.q cj cD.q (by first | omega | (simp;omega)) (by omega) ?_);intro v6 cH aB az aq;have aP:=qQ (bw.q.grown az c4 aq);have aU:=qQ aB;clear aB az aq cj;go_wp2_with fail;go_roundw
   case rel=>exact⟨k+1,_,by go_num,by omega,aP.q,aU.q,Q.q⟩
   case measure=>simp[intOf];omega
  have j:=qQ (aT.q (by have:=bN.q.1;omega));have dj:decide ((k:Int)<(p:Int))=false:=zN (by omega);obtain⟨bv,Kv,rfl,-,-⟩:=aX.q.hE (by have:=kr.q;omega);have ca:k<V.length:=by have:=kr.q;omega
  obtain⟨D,c',X,h',z0,oc,Z⟩:=al.at_one aX.q.hE ca;have bt:=qQ (show ad.nth V k=V[k] by simp[ad.nth,ca]);rw[bt.q]at j;generalize V[k]=a at z0 oc Z j;have cI:=qQ (λW (b:Below gy.heap.size gy W)=>show W.cell? ⟨bv,Kv+k*2,none⟩=some (.slice D a.I.length c')/\W.cell? ⟨bv,Kv+k*2+1,none⟩=some (.slice X a.e.length h')from by
   have fe:bv<gy.heap.size:=by
    rcases jQ bv gy.heap.size with h | h
    .exact h
    simp[World.cell?,kH h]at z0
   exact⟨(b.cell (p:=⟨bv,Kv+k*2,none⟩) fe).trans z0,(b.cell (p:=⟨bv,Kv+k*2+1,none⟩) fe).trans oc⟩)
  have cE:=qQ (λW (b:Below gy.heap.size gy W)=>(Z.below b).up b.size);have ur:=qQ (λW (b:Below gy.heap.size gy W)=>by
   have h:=al.iL (some ⟨bv,Kv,none⟩) bV V w7 xa x.a W.heap.size W (qX _) (aX.q.below b).hE ((Be.q.below b).up b.size) (λq hq=>by have:=j.q.1 q hq;have:=kr.q;omega) (by have:=aF.q.2;omega)
   rwa [kr.q]at h)
  have Hd:=qQ (λW (b:Below gy.heap.size gy W)=>by
   have h:=al.iL bn bU S w7 xa x.a W.heap.size W (qX _) (aV.q.below b).hE ((Be.q.below b).up b.size) (λq hq=>by have:=j.q.1 q hq;have:=r.q.len;omega) (by have:=aF.q.2;omega)
   rwa [r.q.len]at h)
  obtain⟨U,a3⟩:∃L,(x.a.map λ(a:Int)=>ad.nth V a.toNat)=L:=⟨_,rfl⟩;obtain⟨ap,b1⟩:∃L,(x.a.map λ(a:Int)=>ad.nth S a.toNat)=L:=⟨_,rfl⟩;have cK:=qQ (show U.length<=8388608 by rw[<-a3,zJ];have:=aF.q.2;omega);rw[a3]at ur j;rw[b1]at Hd j;have bR:=qQ (λW (b:Below gy.heap.size gy W) e7 cC GS cs (m:al.de gy.heap.size W (.slice e7 U.length cC) U) (y:al.de gy.heap.size W (.slice GS ap.length cs) ap) =>
   al.C9 (.agg #[.int .i64 x.o.k,.slice rq x.o.I.length cy,.slice dp x.o.a.length bE,.slice sN x.o.l.length hs,.slice sO x.o.h.length tf,.slice sP x.o.s.length p1,.int .i64 x.o.v]) (.agg #[.slice D a.I.length c',.slice X a.e.length h']) e7 GS cC cs x.o a.I a U ap W.heap.size W
    ⟨qX _,(eb.q.below b).up b.size,cE.q W b,m.hE,y.hE,aF.q.1,j.q.2.1,rfl,j.q.2.2.1,j.q.2.2.2.1,j.q.2.2.2.2.1,j.q.2.2.2.2.2.1,cK.q⟩)
  have Q:=qQ j.q.2.2.2.2.2.2;obtain⟨bg,cd⟩:=gz (ae.bZ x.o a.I U ap);rw[cd]at bR Q;clear a3 b1 cd Z z0 oc aT bt;go_wp2_with fail;clear HB;have aJ:=λW (b:Below gy.heap.size gy W)=>qZ (λi=>(Bc.q.go b).cell i) (cI.q W b)
  refine aH (l:=[_,_]) [(0,35,[]),(1,36,[]),(2,37,[1]),(3,38,[]),(4,39,[]),(5,40,[3,4]),(6,41,[5]),(7,42,[]),(8,43,[]),(9,44,[8]),(10,45,[7,9]),(11,46,[]),(12,47,[]),(13,48,[12]),(14,49,[11,13]),(15,50,[2,6,10,14]),(16,51,[15])] [17,18] [.eq _,.eq _,.eq _,.eq _,.eq _,.eq _,.eq _,.eq _,.eq _,.eq _,al.Fi gy.heap.size U,.eq _,.eq _,.eq _,al.Fi gy.heap.size ap,al.Da bg,al.K2 gy.heap.size bg]
   (λW=>Below gy.heap.size gy W) (qK _ _).drew ((fr)<|(fr)<|(fr)<|(fr)<|(fr)<|(fr)<|(fr)<|(fr)<|(fr)<|(fr)<|cr ?_<|(fr)<|(fr)<|(fr)<|cr ?_<|cr ?_<|cr ?_<|fg) ?_ (λ_ _ h a0=>aA h a0)
  .intros;rename_i K aI;subst_vars;have a_:=(show Below gy.heap.size gy _ by assumption);exact XZ
  .intros;rename_i K aI;subst_vars;have a_:=(show Below gy.heap.size gy _ by assumption);exact XX
  .intros;rename_i m y K aI;subst_vars;have a_:=(show Below gy.heap.size gy _ by assumption);obtain⟨bp,g1,rfl,-⟩:=al.de.form m;obtain⟨bq,g2,rfl,-⟩:=al.de.form y;have hq:=bR.q _ a_ _ _ _ _ m y;go_simp;with_reducible refine hq.mono ?_
   rintro e hG ⟨v,rfl,cw,aE⟩;exact aI.q _ _ aE cw
  .intros;rename_i m K aI;subst_vars;have a_:=(show Below gy.heap.size gy _ by assumption).size;obtain⟨E,ce,Y,aZ,rfl,c3⟩:=m;go_simp;exact aI.q _ _ ((qK _ _).alloc (qX _) _) ⟨_,E,ce,Y,aZ,rfl,a_,av.new _ _ _,((show al.a1 _ _ _ bg from⟨E,ce,Y,aZ,rfl,c3⟩).below ((qK _ _).alloc (qX _) _)).up ((qK _ _).alloc (qX _) _).size⟩
  intros;rename_i W a_ _ _ _ _ _ _ _ _ _ _ _ _ _ _ _ _ a9;subst_vars;obtain⟨g1,E,ce,Y,aZ,rfl,df,cl,b6⟩:=a9;have bA:=qQ (aA gR.q a_);have cP:=qQ (aV.q.below a_);have c5:=bA.q.size;clear aJ a_;simp only[wK,zY,jB];refine al.rj cP.q cl b6 (by have:=r.q.len;omega) (by omega) ?_;intro v6 cH aB az aq;have aP:=qQ (bA.q.grown az c5 aq);have aU:=qQ aB;clear aB az aq cl b6;go_wp2_with fail;go_roundw
  case rel=>exact⟨k+1,_,by go_num,by omega,aP.q,aU.q,Q.q⟩
  case measure=>simp[intOf];omega
 obtain rfl:n=k:=by omega
 have cT:=qQ (show S=bm from aR.q S (by rw[bG.q.1];exact r.q));have cW:=cT.q;subst cW;have cJ:=qQ (bF.q.go cF.q);have aD:=ao.q.size;go_wp2_with fail;have aJ:=λW (b:Below wr.heap.size wr W)=>qZ (λi=>(cJ.q.go b).cell i) True.intro
 have ur:=qQ (λW (b:Below wr.heap.size wr W)=>by
  have h:=al.iL cA bV V O co g.o W.heap.size W (qX _) (bO.q.below b).hE (bJ.q W (ao.q.trans (b.mono aD))) (λq hq=>by have:=aQ.q q hq;have:=kr.q;omega) (by omega)
  rwa [kr.q]at h)
 have Hd:=qQ (λW (b:Below wr.heap.size wr W)=>by
  have h:=al.iL bn bU S O co g.o W.heap.size W (qX _) (bQ.q.below b).hE (bJ.q W (ao.q.trans (b.mono aD))) (λq hq=>by have:=aQ.q q hq;have:=r.q.len;omega) (by omega)
  rwa [r.q.len]at h)
 rw[bK.q.1]at ur;rw[bK.q.2]at Hd;refine aH (l:=[_,_]) [(0,54,[]),(1,55,[]),(2,56,[1]),(3,57,[0,2]),(4,58,[]),(5,59,[]),(6,60,[5]),(7,61,[4,6])] [8,9] [.eq _,.eq _,.eq _,al.Fi wr.heap.size bS,.eq _,.eq _,.eq _,al.Fi wr.heap.size bT]
  (λW=>Below wr.heap.size wr W) (qK _ _).drew ((fr)<|(fr)<|(fr)<|cr ?_<|(fr)<|(fr)<|(fr)<|cr ?_<|fg) ?_ (λ_ _ h a0=>aA h a0)
 .intros;rename_i K aI;subst_vars;have a_:=(show Below wr.heap.size wr _ by assumption);exact XZ
 .intros;rename_i K aI;subst_vars;have a_:=(show Below wr.heap.size wr _ by assumption);exact XX
 intros;rename_i W a_ _ _ _ m _ _ _ y;subst_vars;have cL:=qQ (al.de.low m aD);have cM:=qQ (al.de.low y aD);obtain⟨bp,g1,rfl,-⟩:=al.de.form m;obtain⟨bq,g2,rfl,-⟩:=al.de.form y;have cG:=qQ (ao.q.trans (a_.mono aD));clear aJ a_ m y;go_wp2_with fail;refine qR (v:=.tuple #[.slice bp bS.length g1,.slice bq bT.length g2]) (by simp[results,results11,go_sem]) rfl ⟨_,_,rfl,cL.q,cM.q,cG.q⟩
def al.gE(w:World)(B:Nat)(l:List ad.ay)(aR:List Value):Prop:=aR.length=l.length*2/\(∀u∈aR,∃A n c,u=.slice A n c)/\∀j (h:j<l.length),∃D c X x,aR[j*2]?=some (.slice D l[j].I.length c)/\aR[j*2+1]?=some (.slice X l[j].e.length x)/\a1 w B (.agg #[.slice D l[j].I.length c,.slice X l[j].e.length x]) l[j]
theorem al.gE.below{w w':World}{B:Nat}{l:List ad.ay}{aR:List Value}(h:al.gE w B l aR)(r:Below B w w'):al.gE w' B l aR:=by
 refine⟨h.1,h.2.1,λj y=>?_⟩;obtain⟨D,c,X,x,i,m,q⟩:=h.2.2 j y;exact⟨D,c,X,x,i,m,q.below r⟩
theorem al.gE.up{w:World}{B B':Nat}{l:List ad.ay}{aR:List Value}(h:al.gE w B l aR)(r:B<=B'):al.gE w B' l aR:=by
 refine⟨h.1,h.2.1,λj y=>?_⟩;obtain⟨D,c,X,x,i,m,q⟩:=h.2.2 j y;exact⟨D,c,X,x,i,m,q.up r⟩
theorem al.gE.append{B:Nat}{l m:List ad.ay}{aR us:List Value}(h:al.gE w B l aR)(i:al.gE w B m us):al.gE w B (l++m) (aR++us):=by
 refine⟨by rw[qW,qW,h.1,i.1];omega,λu hu=>(List.mem_append.1 hu).elim (h.2.1 u) (i.2.1 u),λj E=>?_⟩;by_cases e:j<l.length
 .obtain⟨D,c,X,x,q,r,y⟩:=h.2.2 j e;rw[zR e];exact⟨D,c,X,x,by rw[jX (by rw[h.1];omega)];exact q,by rw[jX (by rw[h.1];omega)];exact r,y⟩
 have hm:j-l.length<m.length:=by rw[qW]at E;omega
 obtain⟨D,c,X,x,q,r,y⟩:=i.2.2 (j-l.length) hm;rw[xF (by omega)];refine⟨D,c,X,x,?_,?_,y⟩
 .rw[zO (by rw[h.1];omega),h.1,<-q];congr 1;omega
 rw[zO (by rw[h.1];omega),h.1,<-r];congr 1;omega
theorem al.yg{B:Nat}{l:List ad.ay}(h:al.bo w B A l):∃aR,aS.Reads w B 2 A l.length aR/\al.gE w B l aR:=by
 rcases uV l.length with y | hp
 .have e:=xL y;subst e;exact⟨[],⟨rfl,λh=>by simp at h⟩,rfl,λu hu=>by simp at hu,λj nj=>by simp at nj⟩
 obtain⟨b,off,rfl,Q,O⟩:=h hp;have key:∀k,k<=l.length->∃aR:List Value,(∀j u,aR[j]?=some u->w.cell? ⟨b,off+j,none⟩=some u)/\al.gE w B (l.take k) aR:=by
  intro k
  induction k with
  | zero=>intro _;exact⟨[],λj u h=>by simp at h,by simp,λu hu=>by simp at hu,λj nj=>by simp at nj⟩
  | succ k S =>
   intro U;obtain⟨aR,nk,i⟩:=S (by omega);obtain⟨D,c,X,x,E,M,N⟩:=O k (by omega);have m:aR.length=k*2:=by rw[i.1,qM];omega
   refine⟨aR++[.slice D l[k].I.length c,.slice X l[k].e.length x],λj u nj=>?_,?_⟩
   .by_cases e:j<aR.length
    .rw[jX e]at nj;exact nk j u nj
    rw[zO (by omega)]at nj;by_cases q:j=k*2
    .subst q;rw[m,xB]at nj;simp at nj;subst nj;exact E
    by_cases r:j=k*2+1
    .subst r;rw[m,kF]at nj;simp at nj;subst nj;rw[<-kZ];exact M
    have:2<=j-aR.length:=by omega
    simp[kK (show([Value.slice D l[k].I.length c,.slice X l[k].e.length x]).length<=j-aR.length from this)]at nj
   rw[qD (by omega)];refine i.append ⟨rfl,λu hu=>?_,λj nj=>?_⟩
   .exact XB
   have e:j=0:=by simp at nj;exact nj
   subst e;exact⟨D,c,X,x,rfl,rfl,N⟩
 obtain⟨aR,nk,i⟩:=key l.length (qX _);rw[zS]at i;exact⟨aR,⟨i.1,λ_=>⟨⟨b,off,none⟩,rfl,Q,λj u nj=>by
  have e:(⟨b,off,none⟩:Addr).add j=⟨b,off+j,none⟩:=by
   unfold Addr.add;split
   .rename_i e;subst e;rfl
   simp
  rw[e];exact nk j u nj⟩⟩,i⟩
theorem al.FK{N n c:Nat}{l:List ad.ay}{aR:List Value}(h:w.ownsRow N 68 2 (.slice A n c) n aR)(j:al.gE w w.heap.size l aR):al.bo w w.heap.size A l:=λhp=>by
 have M:n=l.length:=by have:=h.1;have:=j.1;omega
 obtain⟨g,cap,y,_,r⟩:=h.form (by omega);obtain rfl:A=some ⟨g,0,none⟩:=by injection y
 refine⟨g,0,rfl,r,λi hi=>?_⟩;obtain⟨D,c,X,x,B,E,I⟩:=j.2.2 i hi;have m:=h.cells (g:=g) rfl _ _ B;have q:=h.cells (g:=g) rfl _ _ E;rw[jW]at m q;exact⟨D,c,X,x,m,by rw[kZ];exact q,I⟩
theorem al.u_(E I:Option Addr)(aO bz:Nat)(cW cX:List ad.ay)(B:Nat)(w:World)(ah:B<=w.heap.size)(ao:al.bo w B E cW)(ap:al.bo w B I cX)(aN:cW.length<=8388608)(aP:cX.length<=8388608):Calls Tryz.prog 13 #[.slice E cW.length aO,.slice I cX.length bz] w λe w'=>∃A c,e=.returned (.slice A (cW++cX).length c)/\al.bo w' w'.heap.size A (cW++cX)/\Below w.heap.size w w':=by
 obtain⟨ak,aU,aA,b0,-⟩:=b8 w 68 #[];obtain⟨N,aD,X⟩:=aK (show ak.ownsRow w.heap.size 68 2 (.slice (some ⟨w.heap.size,0,none⟩) 0 0) 0 []from⟨rfl,.inr ⟨w.heap.size,0,#[],rfl,qX _,aA,qX _,by unfold maxLen;omega,rfl,rfl⟩⟩) b0 (λW (b:Below w.heap.size w W)=>qZ ((ao.below (b.mono ah)).up (B':=w.heap.size) ah) ((ap.below (b.mono ah)).up (B':=w.heap.size) ah));obtain⟨aR,S,nk⟩:=al.yg (X.q ak b0).1;obtain⟨n,x⟩:=gz cW.length;obtain⟨m,hm⟩:=gz cX.length;obtain⟨q,hq⟩:=gz ((cW++cX).length);have Y:=qQ (qZ x (qZ hm (show q=n+m by rw[<-hq,qW,x,hm])));rw[x]at aN S;rw[x,hm,hq];rw[hm]at aP;obtain⟨Z,aF,aE⟩:=aK nk S (xQ Tryz.BI);have Q:=b0.size;clear ao ap S nk x hm hq aA b0;obtain⟨i0,g1,g2,g3,g4⟩:=aE.q;go_enter func13,ntmps13;go_wp2_with (at_builtin;refine bF _ rfl _ _ 26 rfl w.heap.size 68 i0 (.agg #[.slice none 0 0,.slice none 0 0]) 2 48 Tryz.sJ g1 g2 g3 g4 rfl (by decide) (.slice (some ⟨w.heap.size,0,none⟩) 0 0) 0 [] rfl N.q _ E n aO aR rfl aF.q (λu hu=>by obtain⟨A,n,c,rfl⟩:=Z.q.2.1 u hu;rfl) (by unfold maxLen;omega) (by omega) Q ?_);intro v6 cH how r _;have M:=qQ (aD.q.grown r Q (λg i=>(N.q.lt g i).1));have D:=M.q.size;have aI:=qQ ((qK w.heap.size ak).grown r Q (λg i=>(N.q.lt g i).1));have y:=qQ how;obtain⟨us,U,aB⟩:=al.yg (X.q cH M.q).2;rw[Y.q.2.1]at U;have ag:=qQ aB;have aG:=qQ U;clear how r U aB;go_wp2_with (at_builtin;refine bF _ rfl _ _ 26 rfl w.heap.size 68 i0 (.agg #[.slice none 0 0,.slice none 0 0]) 2 48 Tryz.sJ g1 g2 g3 g4 rfl (by decide) v6 n aR rfl y.q _ I m bz us rfl aG.q (λu hu=>by obtain⟨A,n,c,rfl⟩:=ag.q.2.1 u hu;rfl) (by unfold maxLen;omega) (by omega) D ?_);intro aQ dX how r _;have V:=qQ (M.q.grown r D (λg i=>(y.q.lt g i).1));have az:=V.q.size;rw[<-Y.q.2.2]at how;have aL:∃A c,aQ=.slice A q c:=by
  rcases how.2 with ⟨O,aJ⟩ | ⟨g,cap,cur,O,-⟩
  .exact⟨none,0,by rw[O,aJ]⟩
  exact⟨_,cap,O⟩
 obtain⟨aC,aT,rfl⟩:=aL;have aq:=aI.q.grown r D (λg i=>(y.q.lt g i).1);have av:=(qK w.heap.size cH).grown r D (λg i=>(y.q.lt g i).1);have aH:=qQ (show al.bo dX dX.heap.size aC (cW++cX)from al.FK how (((Z.q.below aq).up az).append ((ag.q.below av).up az)));clear aq av;clear how r;go_wp2_with fail;go_ret;exact⟨_,_,rfl,aH.q,V.q⟩
theorem al.AU(val:Value)(g:J.bh)(B:Nat)(w:World)(ah:B<=w.heap.size)(h:b4.cx w B val g)(hp:J.params g.n<=8388608):Calls Tryz.prog 9 #[val] w λe w'=>∃v,e=.returned v/\af.aN w' w'.heap.size v ((List.range (J.params g.n)).map λ(i:Nat)=>(i:Int))/\Below w.heap.size w w':=by
 have az:=qQ (h.bI ah);obtain⟨A,c,vo,rfl,-,-,-,⟨O,co,rfl,-⟩⟩:=h;obtain⟨ak,aI,ao,b0,-⟩:=b8 w 25 #[.slice A g.n.length c,.slice O g.o.length co];have m:=qQ b0;have aC:=qQ ao;have V:=qQ (λW (b:Below ak.heap.size ak W)=>b4.n4 _ g W.heap.size W (qX _) (az.q W (aA m.q b)));obtain⟨p,Z⟩:=gz (J.params g.n);rw[Z]at V hp |-;have aB:=qQ (xQ Tryz.dB);have aQ:=m.q.size;clear ao b0 Z;go_enter func9,ntmps9;go_wp2_with fail;clear aI;go_loopw [3,4] (λv N wr=>∃k:Nat,N=.int .i64 (k:Int)/\k<=p/\Below ak.heap.size ak wr/\wr.ownsRow ak.heap.size 3 1 v k (ints ((List.range k).map λ(i:Nat)=>(i:Int)))) (λ_ N _=>p-(intOf N).toNat)
 case atStart=>exact⟨0,rfl,by omega,qK _ _,⟨rfl,.inl ⟨rfl,rfl⟩⟩⟩
 obtain⟨k,rfl,aK,M,how⟩:=hrel;have S:=qQ M;have U:=qQ how;have aH:=λi=>(aC.q.go M).cell i
 clear M how;go_wp2_with (with_reducible refine(V.q _ S.q).mono ?_)
 first | rintro e aw rfl r | rintro e aw ⟨rfl,r⟩
 have x:=qQ (aA S.q r);have y:=qQ (af.bq U.q (λg j=>r.block g (U.q.lt g j).2));have aJ:=x.q.size;clear r aH;by_cases aL:k<p
 .have aO:(k:Int)<p:=by omega
  obtain⟨aR,aP,ap,E,-⟩:=b8 aw 3 #[.int .i64 (k:Int)];have Q:=qQ (x.q.trans (E.mono aJ));have ag:=Q.q.size;have D:=qQ (af.bq y.q (λg j=>E.block g (y.q.lt g j).2));have aF:=qQ (af.dj (n:=1) (s:=1) ap rfl);obtain⟨i0,g1,g2,g3,g4⟩:=aB.q;obtain⟨X,I⟩:∃L,ints ((List.range k).map λ(i:Nat)=>(i:Int))=L:=⟨_,rfl⟩;have aD:=qQ (show X++[.int .i64 (k:Int)]=ints ((List.range (k+1)).map λ(i:Nat)=>(i:Int)) by
   rw[<-I,kE,zI];show _=ints (_++[(k:Int)]);rw[ai.ec])
  rw[I]at D;clear E ap I;go_wp2_with (at_builtin;refine bF _ rfl _ _ 23 rfl ak.heap.size 3 i0 (.int .i64 0) 1 8 underlying23 g1 g2 g3 g4 rfl (by decide) _ k X rfl D.q _ (some ⟨aw.heap.size,0,none⟩) 1 1 [.int .i64 (k:Int)] rfl aF.q (by intro u hu;simp at hu;subst hu;rfl) (by unfold maxLen;omega) (by omega) ag ?_);intro v6 cH how Y _;have aq:=qQ (Q.q.grown Y ag (λg j=>(D.q.lt g j).1));rw[aD.q]at how;have aE:=qQ how;clear how Y;go_wp2_with fail;go_roundw
  case rel=>exact⟨k+1,by go_num,by omega,aq.q,aE.q⟩
  case measure=>simp[intOf];omega
 obtain rfl:p=k:=by omega
 have av:=qQ (m.q.trans (x.q.mono m.q.size));have aG:=qQ (af.b3 y.q);go_wp2_with fail;go_ret;exact⟨_,rfl,aG.q,av.q⟩
end Go.Proofs.YtabmnaaidfpmcaaGreatDoor
end
section
namespace aS
open Go Go.RowKit
variable {P:Program} {ops:Array Oper} {Q:Exit->Act->World->Prop} {md:Region.Mode} {S bm:World->Prop} {t0 t1:Nat}
theorem Bx{b1:World->Prop}{sp:List c8}{H:List (Nat × Nat × List Nat)}{s:c8}{r:List c8}{G:Prop}(je:G)(m:ei P ops Q b1 a ds sp H r)(j:G->cS ds.length λxs=>∀w,b1 w->dd sp xs w iO (∃o,ops[h]?=some o/\∀K:Act->World->Prop,Shut (∀v w',Below w.heap.size w w'->s.post v w'->K ((bx a ds xs).put (some d) v) w')->Oper.wp P o (bx a ds xs) w K Q):=by
     (intro je;simp only[qE,zU,qH,zM,cS,dd,f_,xX,jJ,c8.eq,bx,Act.put,bj,bk,bl,jY,jG,vG,zZ,yU];exact je))
    (x:(ops[h]?).all (λo=>o.guard.isNone)=true:=by exact rfl):ei P ops Q b1 a ds sp ((h,d,iO)::H) (s::r) :=
 ⟨(j je).mono λxs h w hw=>(h w hw).mono λ⟨o,i,q⟩=>⟨o,i,.inl ⟨r_ x i _,q⟩⟩,m⟩
theorem iA{b1:World->Prop}{sp:List c8}{H:List (Nat × Nat × List Nat)}{s:c8}{r:List c8}(j:cS ds.length λxs=>∀w,b1 w->dd sp xs w iO (∃o,ops[h]?=some o/\∀K:Act->World->Prop,Shut (∀v w',Below w.heap.size w w'->s.post v w'->K ((bx a ds xs).put (some d) v) w')->Oper.wp P o (bx a ds xs) w K Q):=by
     (simp only[qE,zU,qH,zM,cS,dd,xX,jJ,c8.eq];intros;(try have BD:=aJ _ (by assumption));(try subst_vars);refine⟨_,rfl,λK aI=>?_⟩;(simp only[bx,Act.put,bj,bk,bl]at aI |-);go_simp;exact aI.q _ _ (qK _ _) rfl))
    (x:(ops[h]?).all (λo=>o.guard.isNone)=true:=by exact rfl):ei P ops Q b1 a ds sp H r->ei P ops Q b1 a ds sp ((h,d,iO)::H) (s::r):=λm=>⟨j.mono λxs h w hw=>(h w hw).mono λ⟨o,i,aI⟩=>⟨o,i,.inl ⟨r_ x i _,aI⟩⟩,m⟩
theorem J'{b1:World->Prop}{sp:List c8}{H:List (Nat × Nat × List Nat)}{s:c8}{r:List c8}{G:Prop}(je:G)(j:ei P ops Q b1 a ds sp H r)(i:G->cS ds.length λxs=>∀w,b1 w->dd sp xs w iO (∃o,ops[h]?=some o/\∀K:Act->World->Prop,Shut (∀v w',Below w.heap.size w w'->s.post v w'->K ((bx a ds xs).put (some d) v) w')->Oper.wp P o (bx a ds xs) w K Q):=by
     (intro je;simp only[qE,zU,qH,zM,cS,dd,f_,xX,jJ,c8.eq,bx,Act.put,bj,bk,bl,jY,jG,vG,zZ,yU];exact je))
    (hw:cS ds.length λxs=>∀w:World,dd sp xs w iO (∀o,ops[h]?=some o->Region.wanted o (yielded ops (bx a ds xs).tmps)=true):=by
     (simp only[qE,zU,qH,zM,cS,dd,xX,jJ,c8.eq];intros;rename_i dP;cases dP;(try subst_vars);(simp only[bx,Act.put,bj,bk,bl]);rfl)):ei P ops Q b1 a ds sp ((h,d,iO)::H) (s::r) :=
 ⟨(cS.and (i je) hw).mono λxs h w m=>(dd.and (h.1 w m) (h.2 w)).mono λ⟨⟨o,dP,q⟩,x⟩=>⟨o,dP,.inl ⟨x o dP,q⟩⟩,j⟩
theorem nv{b1:World->Prop}{sp:List c8}{H:List (Nat × Nat × List Nat)}{s:c8}{r:List c8}(i:cS ds.length λxs=>∀w,b1 w->dd sp xs w iO (∃o,ops[h]?=some o/\∀K:Act->World->Prop,Shut (∀v w',Below w.heap.size w w'->s.post v w'->K ((bx a ds xs).put (some d) v) w')->Oper.wp P o (bx a ds xs) w K Q):=by
     (simp only[qE,zU,qH,zM,cS,dd,xX,jJ,c8.eq];intros;(try have BD:=aJ _ (by assumption));(try subst_vars);refine⟨_,rfl,λK aI=>?_⟩;(simp only[bx,Act.put,bj,bk,bl]at aI |-);go_simp;exact aI.q _ _ (qK _ _) rfl))
    (hw:cS ds.length λxs=>∀w:World,dd sp xs w iO (∀o,ops[h]?=some o->Region.wanted o (yielded ops (bx a ds xs).tmps)=true):=by
     (simp only[qE,zU,qH,zM,cS,dd,xX,jJ,c8.eq];intros;rename_i dP;cases dP;(try subst_vars);(simp only[bx,Act.put,bj,bk,bl]);rfl)):ei P ops Q b1 a ds sp H r->ei P ops Q b1 a ds sp ((h,d,iO)::H) (s::r):=λj=>⟨(cS.and (i) hw).mono λxs h w m=>(dd.and (h.1 w m) (h.2 w)).mono λ⟨⟨o,dP,aI⟩,x⟩=>⟨o,dP,.inl ⟨x o dP,aI⟩⟩,j⟩
theorem lG{b1:World->Prop}{sp:List c8}{H:List (Nat × Nat × List Nat)}{r:List c8}{o:Oper}(i:ei P ops Q b1 a ds sp H r)(m:ops[h]?=some o:=by exact rfl)(hw:cS ds.length λxs=>∀w:World,dd sp xs w iO (Region.wanted o (yielded ops (bx a ds xs).tmps)=false):=by
     (simp only[qE,zU,qH,zM,cS,dd,xX,jJ,c8.eq];intros;(try subst_vars);(simp only[bx,Act.put,bj,bk,bl]);rfl)):ei P ops Q b1 a ds sp ((h,d,iO)::H) (c8.eq undef::r) :=
 ⟨hw.mono λxs h w q=>(h w).mono λj=>⟨o,m,.inr ⟨j,rfl⟩⟩,i⟩
theorem Hr{b1:World->Prop}{sp:List c8} : ei P ops Q b1 a ds sp [] []:=trivial
theorem hM{id:Nat}(H:List (Nat × Nat × List Nat))(ts:List Nat)(sp:List c8)(b1:World->Prop){l:List Oper}(j:b1 w.drew)(steps:ei P ops Q b1 a (H.map (·.2.1)) sp H sp){G:Prop}(je:G)(m:∀w w',b1 w->Below w.heap.size w w'->b1 w')(fin:G->cS (H.map (·.2.1)).length λxs=>∀w,b1 w->f_ w sp xs (wpList P ops Q l (bx a (H.map (·.2.1)) xs) w):=by(intro je;simp only[qE,zU,qH,zM,cS,dd,f_,xX,jJ,c8.eq,bx,Act.put,bj,bk,bl,jY,jG,vG,zZ,yU];exact je))(hm:P.follows .mixedOrders=true:=by exact rfl)(du:ts.map (λt=>ops[t]?)=l.map some:=by exact rfl)(r:sp.length=H.length:=by exact rfl)(i:tl .any ops (List.replicate ops.size false).toArray H ts ops.size (ts.headD 0) (ts.headD 0)=true:=by kernel_rfl):(Code.region id ops true).wp P Q a w :=
 iT (λ_=>True) (ts.headD 0) (λ_=>True) (ts.headD 0) ops.size rfl hm ⟨trivial,trivial⟩ λ_=>w2 H ts sp b1 j steps (fin je) m (λ_ _=>⟨trivial,trivial⟩) du r i
end aS
end
end
section
variable {ds:List (List Int)}{aa d v:List Int}{rest:List Go.Value}{base cD dc g gs gv k p:Nat}{AD DA:Option Go.Addr}{bm:Prop}{t:Go.TypeId}{r vF vO val vo vp:Go.Value}{ak w:Go.World}
section
namespace ae
open ad (ay nth gN)
def iY(ds:List (List Int))(T:List Int)(l:List ay)(i:Nat):Prop:=gN (nth l i)=0/\(nth l i).I=ds.getD (T.getD i 0).toNat []
instance (ds:List (List Int)) (T:List Int) (l:List ay) (i:Nat):Decidable (iY ds T l i):=inferInstanceAs (Decidable (_/\_))
def j_(ds:List (List Int))(T:List Int)(l:List ay):Bool:=decide (T.length=l.length) && (List.range T.length).all λi=>decide (iY ds T l i)
theorem F7{T:List Int}{l:List ay}(h:T.length≠l.length):j_ ds T l=false:=by simp[j_,h]
theorem F6{T:List Int}{l:List ay}(i:k<T.length)(h:¬iY ds T l k):j_ ds T l=false:=by
 unfold j_;rw[uS];refine .inr (List.all_eq_false.2 ⟨k,List.mem_range.2 i,by simpa using h⟩)
theorem DY{T:List Int}{l:List ay}(he:T.length=l.length)(h:∀i,i<T.length->iY ds T l i):j_ ds T l=true:=by
 unfold j_;rw[qB];exact⟨by simpa using he,List.all_eq_true.2 λi hi=>by simpa using h i (List.mem_range.1 hi)⟩
end ae
namespace Go.Proofs.YtabmnaaidfpmcaaGreatDoor
open Go.RowKit aS
theorem _root_.ZA{G:Prop}(h:G:=by
 intros;rename_i K aI;subst_vars;have a_:=(show Below wr.heap.size wr _ by assumption);go_simp;with_reducible refine(I6.q _ a_).mono ?_
 rintro e hG ⟨rfl,aE⟩;exact aI.q _ _ aE rfl
 ):G:=h
theorem al.ys(val:Value)(g:J.bh)(T:Option Addr)(aD:Nat)(j:List Int)(G:Option Addr)(bH:Nat)(l:List ad.ay)(B:Nat)(w:World)(ah:B<=w.heap.size)(h:b4.cx w B val g)(bs:b4.fE g)(aq:(J.look g).2=0)(hi:ai.ao w B T j)(be:al.bo w B G l)(br:∀n∈j,0<=n/\n<(g.n.length:Int))(bS:j.length<=1099511627776):Calls Tryz.prog 8 #[val,.slice T j.length aD,.slice G l.length bH] w λe w'=>e=.returned (.bool (ae.j_ (J.look g).1 j l))/\Below w.heap.size w w':=by
 obtain⟨bz,bG,a3⟩:=aK (h.bI ah) (hi.bI ah) (be.bI ah);obtain⟨A,c,vo,rfl,-,-,-,⟨O,co,rfl,-⟩⟩:=h;obtain⟨ak,bT,aU,b0,-⟩:=b8 w 25 #[.slice A g.n.length c,.slice O g.o.length co];obtain⟨a2,bu,bY⟩:=aK (b4.p0 _ g ak.heap.size ak (qX _) bs (bz.q ak b0)) b0 aU;have bU:=λi=>aU.cell i
 have Y:=(ae.gb (g:=g) aq).1;obtain⟨⟨ds,b3⟩,bn⟩:∃r,J.look g=r:=⟨_,rfl⟩;rw[bn]at a2 aq Y |-;dsimp only at aq Y |-;subst aq;have bw:=qQ (qZ Y True.intro);obtain⟨n,ap⟩:=gz j.length;obtain⟨m,hm⟩:=gz l.length;have N:=qQ (qZ ap hm);have bE:=qQ br;obtain⟨bm,aL⟩:=gz (ae.j_ ds j l);have aC:=qQ (qZ aL True.intro);rw[ap]at bS;rw[ap,hm,aL];clear hi be aU b0 bn Y ap hm br bs aL;go_enter func8,ntmps8;go_wp2_with (with_reducible refine a2.q.mono ?_);rintro e ag ⟨⟨aQ,bJ,aO,rfl,bq,bO,bP,bp⟩,a8⟩;dsimp only at bq;subst bq;obtain⟨az,bB,bX⟩:=aK (aA bu.q a8) bp (qZ bO bP);have bV:=az.q.size;clear a8 bp bU bT;by_cases bQ:n=m
 .subst bQ;go_wp2_with fail;go_loopw [9,10,27] (λ_ _ aV wr=>∃k:Nat,aV=.int .i64 (k:Int)/\k<=n/\Below ag.heap.size ag wr/\∀i,i<k->ae.iY ds j l i) (λ_ _ aV _=>n-(intOf aV).toNat)
  case atStart=>exact⟨0,rfl,by omega,qK _ _,λi h=>by omega⟩
  obtain⟨k,rfl,b6,aE,bf⟩:=hrel;obtain⟨M,x,a1⟩:=aK aE (az.q.trans (aE.mono bV)) bf;clear aE bf;by_cases b7:k<n
  .have bg:k<l.length:=by have:=N.q.2;omega
   have Z:k<j.length:=by have:=N.q.1;omega
   obtain⟨b1,b',rfl,-,gt⟩:=bG.q wr x.q (by omega);have t0:=gt k Z;have aZ:=qQ (λh=>aC.q.1.symm.trans (ae.F6 Z h));have bD:=qQ (λ(h:ae.iY ds j l k)=>show ∀i,i<k+1->ae.iY ds j l i from λi hi=>by
    rcases jQ i k with a6 | a6
    .exact a1.q i a6
    have:i=k:=by omega
    rw[this];exact h)
   have bR:=bE.q _ (qP Z);have bd:∀q:Nat,j[k]=(q:Int)->(hq:q<ds.length)->(ae.iY ds j l k↔(ad.gN l[k]=0/\l[k].I=ds[q])):=λq e hq=>by
    unfold ae.iY;have bL:ad.nth l k=l[k]:=by simp[ad.nth,bg]
    have bM:j.getD k 0=(q:Int):=by rw[<-e];simp[Z]
    have bN:ds.getD q []=ds[q]:=by simp[hq]
    rw[bL,bM,xY,bN]
   obtain⟨q,hq⟩:∃q:Nat,j[k]=(q:Int):=⟨j[k].toNat,by omega⟩;have aT:q<ds.length:=by have:=bw.q.1;omega
   have y:=qQ (bd q hq aT);rw[hq]at t0;obtain⟨fI,fM,rfl,a9,-⟩:=a3.q wr x.q (by omega);obtain⟨D,c',X,h',z0,aX,Q⟩:=al.at_one (a3.q wr x.q) bg;obtain⟨aF,bt,rfl,b5,a5⟩:=bB.q.below M.q (by omega);obtain⟨uk,aW,E,ce,rfl,aP,bb,bc⟩:=a5 q aT;have S:=qQ (λW (b:Below wr.heap.size wr W)=>show W.cell? ⟨fI,fM+k*2,none⟩=some (.slice D l[k].I.length c')/\W.cell? ⟨fI,fM+k*2+1,none⟩=some (.slice X l[k].e.length h')/\W.cell? ⟨aF,bt+q,none⟩=some (.slice E ds[q].length ce)from
    ⟨(b.cell (p:=⟨fI,fM+k*2,none⟩) a9).trans z0,(b.cell (p:=⟨fI,fM+k*2+1,none⟩) a9).trans aX,(b.cell (p:=⟨aF,bt+q,none⟩) (by have:=M.q.size;show aF<wr.heap.size;omega)).trans aW⟩)
   have I6:=qQ (λW (b:Below wr.heap.size wr W)=>al.q2 _ l[k] W.heap.size W (qX _) ((Q.below b).up b.size));have V:=qQ (λW (b:Below wr.heap.size wr W)=>af.h9 D E c' ce l[k].I ds[q] W.heap.size W.heap.size W (by have:=Q.parts.2.2;omega) (by omega) ((Q.below b).up b.size).parts.1 ((aP.below (b.mono (by have:=M.q.size;omega))).up (by have:=M.q.size;have:=b.size;omega)));generalize l[k]=a at z0 aX Q y S I6 V;generalize ds[q]=d at aW aP bb bc y S V;obtain⟨bW,aR⟩:=gz ds.length;have bZ:=qQ (qZ aR True.intro);have i1:=b2 k;have i2:(k:Int)<n:=by omega
   have i3:=b2 q;have i4:(q:Int)<bW:=by omega
   obtain⟨aG,a'⟩:=gz (ad.gN a);rw[a']at I6 y;rw[aR];clear gt a5 z0 aX Q aW aP bb bc bR bd hq a' aR aT;by_cases av:aG=0
   .subst av;obtain⟨a4,aN⟩:=gz (decide (a.I=d));have a0:=qQ (qZ aN True.intro);rw[aN]at V;clear aN;go_wp2_with fail;have aJ:=λW (b:Below wr.heap.size wr W)=>S.q W b
    refine hM (l:=[_]) [(0,32,[]),(1,33,[]),(2,34,[0,1]),(3,35,[2]),(4,36,[3]),(5,37,[4]),(6,38,[5]),(7,39,[6]),(8,40,[6]),(9,41,[7,8,6]),(10,42,[9,6]),(11,43,[10,6]),(12,44,[6]),(13,45,[6]),(14,46,[12,13,6]),(15,47,[14,6]),(16,48,[11,15,6]),(17,49,[16,6])] [18] [.eq _,.eq _,.eq _,.eq _,.eq (.int .i64 0),.eq _,.eq _,.eq _,.eq _,.eq _,.eq _,.eq _,.eq _,.eq _,.eq _,.eq _,.eq (.bool a4),.eq _]
     (λW=>Below wr.heap.size wr W) (qK _ _).drew ((iA)<|(iA)<|(iA)<|(iA)<|Bx ?_<|(iA)<|(iA)<|(nv)<|(nv)<|(nv)<|(nv)<|(nv)<|(nv)<|(nv)<|(nv)<|(nv)<|J' ?_<|(nv)<|Hr) ?_ (λ_ _ h aH=>aA h aH)
    .exact ZA
    .intros;rename_i K aI;subst_vars;have a_:=(show Below wr.heap.size wr _ by assumption);go_simp;with_reducible refine(V.q _ a_).mono ?_
     rintro e hG ⟨rfl,bK,rfl⟩;exact aI.q _ _ (zV (qK _ _) bK) rfl
    intros;rename_i W a_ _ _ _ _ _ _ _ _ _ _ _ _ _ _ _ _ _ _;subst_vars;have bv:=qQ (aA M.q a_);have aB:=qQ (aA x.q a_);clear aJ a_;cases a4 with
    | true =>
     have bA:=qQ (bD.q (y.q.2 (by simpa using a0.q.1)));go_wp2_with fail;go_roundw
     case rel=>exact⟨k+1,by go_num,by omega,bv.q,bA.q⟩
     case measure=>simp[intOf];omega
    | false =>
     have U:=qQ (aZ.q (λh=>by have:=y.q.1 h;have a7:=a0.q.1;simp at a7 this;exact a7 this));go_wp2_with fail;go_ret;rw[U.q];exact⟨rfl,aB.q⟩
   have ca:(aG != 0)=true:=by simpa using av
   have U:=qQ (aZ.q (λh=>av (y.q.1 h).1));clear av;go_wp2_with fail;have aJ:=λW (b:Below wr.heap.size wr W)=>S.q W b
   refine hM (l:=[_]) [(0,32,[]),(1,33,[]),(2,34,[0,1]),(3,35,[2]),(4,36,[3]),(5,37,[4]),(6,38,[5]),(7,39,[6]),(8,40,[6]),(9,41,[7,8,6]),(10,42,[9,6]),(11,43,[10,6]),(12,44,[6]),(13,45,[6]),(14,46,[12,13,6]),(15,47,[14,6]),(16,48,[11,15,6]),(17,49,[16,6])] [18] [.eq _,.eq _,.eq _,.eq _,.eq (.int .i64 aG),.eq _,.eq _,.eq undef,.eq undef,.eq undef,.eq undef,.eq undef,.eq undef,.eq undef,.eq undef,.eq undef,.eq undef,.eq undef]
    (λW=>Below wr.heap.size wr W) (qK _ _).drew ((iA)<|(iA)<|(iA)<|(iA)<|Bx ?_<|(iA)<|(iA)<|lG<|lG<|lG<|lG<|lG<|lG<|lG<|lG<|lG<|lG<|lG<|Hr) ?_ (λ_ _ h aH=>aA h aH)
   .exact ZA
   intros;rename_i W a_ _ _ _ _ _ _ _ _ _ _ _ _ _ _ _ _ _ _;subst_vars;have aB:=qQ (aA x.q a_);clear aJ a_;go_wp2_with fail;go_ret;exact⟨rfl,aB.q⟩
  obtain rfl:n=k:=by omega
  have bF:=qQ (show bm=true from aC.q.1.symm.trans (ae.DY (by have:=N.q;omega) (λi hi=>a1.q i (by have:=N.q.1;omega))));go_wp2_with fail;go_ret;rw[bF.q];exact⟨rfl,x.q⟩
 have b9:((n:Int) != (m:Int))=true:=by simp;omega
 have b_:(n:Int)≠(m:Int):=by omega
 have U:=qQ (show bm=false from aC.q.1.symm.trans (ae.F7 (by have:=N.q;omega)));go_wp2_with fail
 all_goals first | (go_ret;rw[U.q];exact⟨rfl,az.q⟩) | skip
end Go.Proofs.YtabmnaaidfpmcaaGreatDoor
end
section
namespace ae
open ad
open R (size)
def hg(g:J.bh):List Int:=(List.range (J.params g.n)).map λ(i:Nat)=>(i:Int)
theorem zn(g:J.bh):(hg g).length=J.params g.n:=by simp[hg]
theorem BO{g:J.bh} : ∀n∈hg g,0<=n/\n<(g.n.length:Int):=λn j=>by
 obtain⟨i,hi,rfl⟩:=List.mem_map.1 j;have:=List.mem_range.1 hi;have:=J.dO g.n;exact⟨by omega,by omega⟩
theorem vq{T:List Int}{l:List ay}(h:j_ ds T l=true):T.length=l.length/\∀i,i<T.length->iY ds T l i:=by
 unfold j_ at h;rw[qB,xZ,kX]at h;exact⟨h.1,λi hi=>xG (h.2 i (List.mem_range.2 hi))⟩
theorem Ig{g:J.bh}{A bY:List ay}(y:(J.look g).2=0)(q:j_ (J.look g).1 (hg g) A=true)(r:j_ (J.look g).1 (hg g) bY=true)(D:∀a∈A,∀x∈a.e,dv x)(E:∀a∈bY,∀x∈a.e,dv x)(B:∀x∈g.n,dv x.o.v):Fits g A bY:=by
 obtain⟨dm,a2⟩:=vq q;obtain⟨j,m⟩:=vq r;rw[zn]at dm a2 j m;have hp:∀i,i<J.params g.n->((hg g).getD i 0).toNat=i:=λi hi=>by
  simp[hg,hi]
 refine⟨y,dm.symm,j.symm,λi hi=>?_,λi hi=>?_,B⟩
 .have h:=a2 i hi;unfold iY at h;rw[hp i hi]at h;exact⟨h.2,w6 h.1 (rb D i)⟩
 have h:=m i hi;unfold iY at h;rw[hp i hi]at h;exact⟨h.2,w6 h.1 (rb E i)⟩
def gY(g:J.bh):List ay:=(List.range (J.params g.n)).map λi=>a6 ((J.look g).1.getD i [])
theorem yu{g:J.bh}(r:(J.look g).2=0)(y:∀x∈g.n,dv x.o.v):Fits g (gY g) (gY g):=by
 have m:(gY g).length=J.params g.n:=by simp[gY]
 obtain⟨D,E,B,M,N⟩:=J.gX r;have q:∀i,i<J.params g.n->(nth (gY g) i).I=(J.look g).1.getD i []/\cO (nth (gY g) i):=λi hi=>by
  have j:i<(J.look g).1.length:=by have:=J.dO g.n;omega
  have e:nth (gY g) i=a6 ((J.look g).1.getD i []):=by
   unfold nth gY;simp[hi]
  rw[e];have ar:(J.look g).1.getD i []∈(J.look g).1:=by
   rw[qU,qC j];exact qP j
  exact⟨rfl,tB (B _ ar)⟩
 exact⟨r,m,m,q,q,y⟩
theorem G4{P:List ay}{N:List J.Node}{D:List (List Int)}(h:fQ P N D)(m:J.ahead N.length aa=true):∀a∈aR P N aa,a.e.length<=65536:=λa j=>by
 obtain⟨i,hi,rfl⟩:=List.mem_map.1 j;obtain⟨r,q⟩:=bP m hi;obtain⟨ag,aC,_⟩:=h.wf i.toNat q;have:=R.aB ag;rw[aC,this.2.2.1];omega
theorem td{g:J.bh}(i:(J.look g).2=0):∀q∈(J.look g).1,q.length<=6/\∀d∈q,0<=d/\d<=4096:=λq hq=>by
 have h:=R.aB ((J.gX i).2.2.1 q hq);exact⟨h.1,h.2.1⟩
end ae
namespace Go.Proofs.YtabmnaaidfpmcaaGreatDoor
theorem au.nu{g:J.bh}(m:(J.look g).2=0):∀q∈(J.look g).1,au.eL q:=λq hq=>by
 obtain⟨r,i⟩:=ae.td m q hq;exact⟨by omega,λn j=>by have:=i n j;exact⟨by omega,by omega⟩⟩
theorem au.lk{op:J.Op}(h:af.cJ op):af.cJ (ae.plain op):=by
 obtain⟨i,j,m,q,r⟩:=h;unfold ae.plain;refine⟨?_,?_,?_,?_,?_⟩<;>dsimp only<;>split<;>simp_all
theorem au.xc{g:J.bh}(y:(J.look g).2=0)(j:b4.fE g):b4.fE (ae.forward g).1:=by
 have q:ae.Kind (λx=>af.cJ x.o/\x.a.length<=4194304) (λd=>d.length<=6):=by
  refine⟨λd z ar=>⟨au.lk ?_,by simp⟩,λd ar=>⟨au.lk ?_,by simp⟩,λk l r=>⟨au.lk ?_,by show l.length<=_;omega⟩⟩
  .refine⟨by show d.length<=_;omega,?_,?_,?_,?_⟩<;>simp[ae.bH]
  .refine⟨by show d.length<=_;omega,?_,?_,?_,?_⟩<;>simp[ae.bH]
  refine⟨?_,?_,?_,?_,?_⟩<;>simp[ae.bH]
 refine ae.AH q (λi=>?_) (λx m l r=>⟨au.lk (j x m).1,?_⟩)
 .rw[qU];rcases jQ i (J.look g).1.length with h | h
  .rw[qC h];exact(ae.td y _ (qP h)).1
  rw[kK h];exact yX _
 have:=(j x m).2;show l.length<=_;omega
end Go.Proofs.YtabmnaaidfpmcaaGreatDoor
end
section
namespace Go.Proofs.YtabmnaaidfpmcaaGreatDoor
open Go.RowKit aS
theorem au.gq.HL{w':World}{ty:TypeId}{U V:Nat->Prop}{N:List J.Node}(h:bC.gq base w w' p ty vO rest U N)(i:∀b,U b->V b):bC.gq base w w' p ty vO rest V N:=by
 obtain⟨d_,j,m,q⟩:=h;exact⟨d_,j,m.mono (λn x=>x.imp id (i n)),λb r=>(q b r).imp (i b) id⟩
theorem au.step{W W2:World}{U:Nat->Prop}{N M hO:List J.Node}{f:FuncId}{args:Array Value}(i:au.W base ak p vO rest U N)(j:au.T base ak W p vO rest U M)(ah:Below W.heap.size W W2)(E:aY.gI base ak)(h:∀d_,au.W base W2 p vO rest d_ M->aY.gI base W2->Calls Tryz.prog f args W2 λe w'=>e=.returned r/\au.T base W2 w' p vO rest d_ hO):Calls Tryz.prog f args W2 λe w'=>e=.returned r/\au.T base ak w' p vO rest U hO:=by
 have m:=au.gq.below i j;obtain⟨oh,q,x,y⟩:=j;have D:=qJ i.low (zG i.lt);refine(h oh (q.c9 (ch.of (U:=λ_=>False) ah) (λb h=>h.elim)) (au.gL E (m.trans (ah.mono (qJ D m.size))))).mono ?_;rintro e w' ⟨rfl,B⟩;refine⟨rfl,au.gq.trans (x.trans (ch.of (U:=λ_=>False) ah) (λn h=>h.elim)) y B⟩
theorem au.q6{W:World}{U:Nat->Prop}{M:List J.Node}{cs:Array Value}(j:au.T base ak W p vO rest U M)(m:av ak g t cs)(q:¬U g)(hp:g≠p):av W g t cs:=by
 obtain⟨_,_,i,_⟩:=j;exact i.aL m (λh=>h.elim hp q)
structure au.rD (base:Nat) (w:World) (p:Nat) (vO:Value) (rest:List Value) (U:Nat->Prop) (N:List J.Node) (val:Value) (x:J.Node) (cu cs:Array Value) (gv gs:Nat) (AD:Option Addr) (cD:Nat) (d:List Int):Prop where
 a:au.W base w p vO rest U N
 dQ:b4.gC w base val x
 bv:av w gv 3 cu
 dL:av w gs 3 cs
 g:¬U gs/\gs≠p/\base<=gs/\gv≠gs
 AK:¬U gv/\gv≠p
 LI:∀W,Below base w W->ai.ao W W.heap.size AD d
 dc:d.length<=cD/\cD<=9223372036854775807
 ph:au.eL d
 f:au.np x.o
 n:N.length<=1040000
 t:aY.gI base w
section
variable {base p:Nat} {vO:Value} {rest:List Value} {U:Nat->Prop} {N:List J.Node} {w:World} {val:Value} {x:J.Node} {v0 v1 c_ s1:Int} {gv gs:Nat} {AD:Option Addr} {cD:Nat} {d:List Int}
theorem _root_.Zd{G:Prop}(h:G:=by
 go_wp2_with (with_reducible refine nh.q.mono ?_);rintro e aC ⟨rfl,rv⟩;go_wp2_with fail;go_ret;rw[cj.q];exact⟨rfl,iD.q _ _ rv⟩
 ):G:=h
theorem _root_.JB{G:Prop}(r:bm)(f:dS bm->G:=by
 intro bb;have km:=qQ h;have bp:=qQ b0;have hJ:base<=w.heap.size:=qJ h.a.low (zG h.a.lt);have gO:=qQ (show au.W base ak p vO rest U N from h.a.c9 (ch.of (U:=λ_=>False) b0) (λb h=>h.elim));obtain⟨gA,c5,iv,iD,gS⟩:=fC (au.gq.same gO.q (qK _ _)) (au.gL h.t (b0.mono hJ)) (λW M (iG:au.T base ak W p vO rest U M)=>qZ (au.q6 iG k3 (λhu=>absurd (h.a.own _ hu).2.1 (pN _)) (λe=>absurd h.a.lt (by omega))) (qZ (au.q6 iG (h.bv.go b0) h.AK.1 h.AK.2) (qZ (au.q6 iG (h.dL.go b0) h.g.1 h.g.2.1) ((b0.mono hJ).trans (au.gq.below gO.q iG))))) (λW M (iG:au.T base ak W p vO rest U M)=>au.gq.HL (V:=λb=>U b\/b=gs) (au.gq.trans (ch.of b0) (λb h=>.inl h) iG) (λb h=>.inl h)) (λW M (iG:au.T base ak W p vO rest U M) W2 (ah:Below W.heap.size W W2)=>(eb.q W2 (((b0.mono hJ).trans (au.gq.below gO.q iG)).trans (ah.mono (qJ hJ ((b0.mono hJ).trans (au.gq.below gO.q iG)).size)))).up (qJ hJ (qJ ((b0.mono hJ).trans (au.gq.below gO.q iG)).size ah.size)));have aJ:=λW (aE:Below ak.heap.size ak W)=>qZ (λi=>(k3.go aE).cell i) (qZ (λi=>((h.bv.go b0).go aE).cell i) (λi=>((h.dL.go b0).go aE).cell i))
 have gV:=λi=>k3.cell i
 have e8:=λi=>(h.dL.go b0).cell i
 have eQ:=h.n;have iy:=qQ me;have hI:=qQ mf;go_enter func24,ntmps24;revert km bp hJ gO gA c5 iv iD gS aJ gV e8 eQ iy hI;exact bb.o
 ):G:=f ⟨r⟩
theorem _root_.JL{G:Prop}(r:bm)(f:dS bm->G:=by
 intro bb;have eb:=qQ (show ∀W,Below base w W->af.bd W base (.agg #[.int .i64 x.o.k,.slice rq x.o.I.length cy,.slice dp x.o.a.length bE,.slice sN x.o.l.length hs,.slice sO x.o.h.length tf,.slice sP x.o.s.length p1,.int .i64 x.o.v]) x.o from
  λW kB=>af.bd.below (w:=w) ⟨_,_,_,_,_,rfl,ni.q.1,ni.q.2.1,ni.q.2.2.1,ni.q.2.2.2.1,ni.q.2.2.2.2.1⟩ kB)
 obtain⟨ak,cI,k3,b0,wE⟩:=b8 w 60 #[.int .i64 x.o.k,.slice rq x.o.I.length cy,.slice dp x.o.a.length bE,.slice sN x.o.l.length hs,.slice sO x.o.h.length tf,.slice sP x.o.s.length p1,.int .i64 x.o.v,.slice w7 x.a.length xa];revert eb ak cI k3 b0 wE;exact bb.o
 ):G:=f ⟨r⟩
theorem au.IH(ds:List (List Int))(h:au.rD base w p vO rest U N val x #[.int .i64 v0,.int .i64 v1] #[.int .i64 c_,.int .i64 s1] gv gs AD cD d)(mf:aY.In64 v0/\aY.In64 v1)(me:aY.In64 c_/\aY.In64 s1)(j:x.o.k=3):Calls Tryz.prog 24 #[.pointer (some ⟨p,0,none⟩),val,.slice (some ⟨gv,0,none⟩) 2 2,.slice (some ⟨gs,0,none⟩) 2 2,.slice AD d.length cD] w λe w'=>e=.returned (.int .i64 (ae.bO ds N x [v0,v1] [c_,s1] d).2)/\au.T base w w' p vO rest (λb=>U b\/b=gs) (ae.bO ds N x [v0,v1] [c_,s1] d).1:=by
 have cj:=qQ (show ae.bO ds N x [v0,v1] [c_,s1] d=ae.plus N c_ s1 by
  unfold ae.bO;rw[qV (by rw[j];decide),qY j];rfl)
 obtain⟨Q,v2,v3,v4,v5,v6,rfl,r,s2,y,B,D,E⟩:=h.dQ;have ni:=qQ (qZ r (qZ s2 (qZ y (qZ B (qZ D E)))));obtain⟨rq,cy,rfl,_⟩:=r;obtain⟨dp,bE,rfl,_⟩:=s2;obtain⟨sN,hs,rfl,_⟩:=y;obtain⟨sO,tf,rfl,_⟩:=B;obtain⟨sP,p1,rfl,_⟩:=D;obtain⟨w7,xa,rfl,_⟩:=E;refine JL ?_;intro eb ak cI k3 b0 wE;rw[j]at eb cI k3 |-;refine JB ?_;intro km bp hJ gO gA c5 iv iD gS aJ gV e8 eQ iy hI;clear h k3 b0 j me mf;go_wp2_with fail;clear cI;refine aH (l:=[_,_]) [(0,23,[]),(1,24,[]),(2,25,[1]),(3,26,[2]),(4,27,[]),(5,28,[4]),(6,29,[5])] [7,8] [.eq _,.eq _,.eq _,.eq _,.eq _,.eq _,.eq _]
  (λW=>Below ak.heap.size ak W) (qK _ _).drew ((fr)<|(fr)<|(fr)<|(fr)<|(fr)<|(fr)<|(fr)<|fg) ?_ (λ_ _ h O=>aA h O)
 intros;rename_i W m _ _ _ _ _ _ _;subst_vars;have nh:=qQ (au.step gO.q gA.q m c5.q (λd_ kB rv=>au.mV c_ s1 W kB iy.q.1 iy.q.2 (by omega) rv));clear m aJ gV e8;exact Zd
theorem _root_.ZE{G:Prop}(h:G:=by
 intros;rename_i K aI;subst_vars;have a_:=(show Below ak.heap.size ak _ by assumption).size;go_simp;exact aI.q _ _ ((qK _ _).alloc (qX _) _) ⟨_,rfl,a_,av.new _ _ _⟩
 ):G:=h
theorem au.Ac(ds:List (List Int))(k:Int)(h:au.rD base w p vO rest U N val x #[.int .i64 v0,.int .i64 v1] #[.int .i64 c_,.int .i64 s1] gv gs AD cD d)(mf:aY.In64 v0/\aY.In64 v1)(me:aY.In64 c_/\aY.In64 s1)(r:x.o.k=k)(hq:k=18\/k=19):Calls Tryz.prog 24 #[.pointer (some ⟨p,0,none⟩),val,.slice (some ⟨gv,0,none⟩) 2 2,.slice (some ⟨gs,0,none⟩) 2 2,.slice AD d.length cD] w λe w'=>e=.returned (.int .i64 (ae.bO ds N x [v0,v1] [c_,s1] d).2)/\au.T base w w' p vO rest (λb=>U b\/b=gs) (ae.bO ds N x [v0,v1] [c_,s1] d).1:=by
 have m:=qQ (show ae.bO ds N x [v0,v1] [c_,s1] d=if c_<0 then(N,-1)else ae.add N x.o [c_,v1] by
  unfold ae.bO;rw[qV (by omega),qV (by omega),qV (by omega),qV (by omega),qV (by omega),qV (by omega),qY (by omega)];rfl)
 rcases hq with rfl | rfl
 all_goals
  obtain⟨ao,v2,v3,v4,v5,v6,rfl,B,s2,D,E,O,Q⟩:=h.dQ;have ni:=qQ (qZ B (qZ s2 (qZ D (qZ E (qZ O Q)))));obtain⟨rq,cy,rfl,_⟩:=B;obtain⟨dp,bE,rfl,_⟩:=s2;obtain⟨sN,hs,rfl,_⟩:=D;obtain⟨sO,tf,rfl,_⟩:=E;obtain⟨sP,p1,rfl,_⟩:=O;obtain⟨w7,xa,rfl,_⟩:=Q;refine JL ?_;intro eb ak cI k3 b0 wE;rw[r]at eb cI k3 |-;refine JB ?_;intro km bp hJ gO gA c5 iv iD gS aJ gV e8 eQ iy hI;clear h k3 b0 r me mf;by_cases j:c_<0
  .go_wp2_with fail;go_ret;rw[m.q,qY j];exact⟨rfl,iD.q _ _ gA.q⟩
  go_wp2_with fail;clear cI gV e8;refine aH (l:=[_,_]) [(0,147,[]),(1,148,[0]),(2,149,[1]),(3,150,[]),(4,151,[3]),(5,152,[]),(6,153,[5]),(7,154,[6]),(8,155,[]),(9,156,[8]),(10,157,[9]),(11,158,[7,10])] [12,13] [.eq _,.eq _,.eq _,.eq _,.eq _,.eq _,.eq _,.eq _,.eq _,.eq _,.eq _,.row ak.heap.size 3 2 #[.int .i64 c_,.int .i64 v1]]
   (λW=>Below ak.heap.size ak W) (qK _ _).drew ((fr)<|(fr)<|(fr)<|(fr)<|(fr)<|(fr)<|(fr)<|(fr)<|(fr)<|(fr)<|(fr)<|cr ?_<|fg) ?_ (λ_ _ h X=>aA h X)
  .exact ZE
  intros;rename_i W a_ _ _ _ _ _ _ _ _ _ _ _ h;subst_vars;obtain⟨g,rfl,Y,y⟩:=h;have S:=qQ (au.step gO.q gA.q a_ c5.q (λd_ kB ag=>au.add _ _ x.o [c_,v1] W kB (gS.q _ _ gA.q W a_) (af.dY (n:=2) y rfl (by omega)) km.q.f ⟨by simp,λn j=>by simp only[xR,xP,vX]at j;rcases j with rfl | rfl<;>first | exact iy.q.1 | exact hI.q.2⟩ (by omega) ag));clear a_ aJ y Y;go_wp2_with (with_reducible refine S.q.mono ?_);rintro e aC ⟨rfl,Z⟩;go_wp2_with fail;go_ret;rw[m.q,qV (by omega)];exact⟨rfl,iD.q _ _ Z⟩
theorem _root_.QZ{G:Prop}(h:G:=by
 obtain⟨M5,v2,v3,v4,v5,v6,rfl,Lx,s2,MC,MD,ME,MF⟩:=h.dQ;have ni:=qQ (qZ Lx (qZ s2 (qZ MC (qZ MD (qZ ME MF)))));obtain⟨rq,cy,rfl,_⟩:=Lx;obtain⟨dp,bE,rfl,_⟩:=s2;obtain⟨sN,hs,rfl,_⟩:=MC;obtain⟨sO,tf,rfl,_⟩:=MD;obtain⟨sP,p1,rfl,_⟩:=ME;obtain⟨w7,xa,rfl,_⟩:=MF;have eb:=qQ (show ∀W,Below base w W->af.bd W base (.agg #[.int .i64 x.o.k,.slice rq x.o.I.length cy,.slice dp x.o.a.length bE,.slice sN x.o.l.length hs,.slice sO x.o.h.length tf,.slice sP x.o.s.length p1,.int .i64 x.o.v]) x.o from
  λW kB=>af.bd.below (w:=w) ⟨_,_,_,_,_,rfl,ni.q.1,ni.q.2.1,ni.q.2.2.1,ni.q.2.2.2.1,ni.q.2.2.2.2.1⟩ kB)
 obtain⟨ak,cI,k3,b0,wE⟩:=b8 w 60 #[.int .i64 x.o.k,.slice rq x.o.I.length cy,.slice dp x.o.a.length bE,.slice sN x.o.l.length hs,.slice sO x.o.h.length tf,.slice sP x.o.s.length p1,.int .i64 x.o.v,.slice w7 x.a.length xa];rw[mN]at eb cI k3 |-;have km:=qQ h;have bp:=qQ b0;have hJ:base<=w.heap.size:=qJ h.a.low (zG h.a.lt);have gO:=qQ (show au.W base ak p vO rest U N from h.a.c9 (ch.of (U:=λ_=>False) b0) (λb h=>h.elim));obtain⟨gA,c5,iv,iD,gS⟩:=fC (au.gq.same gO.q (qK _ _)) (au.gL h.t (b0.mono hJ)) (λW M (iG:au.T base ak W p vO rest U M)=>qZ (au.q6 iG k3 (λhu=>absurd (h.a.own _ hu).2.1 (pN _)) (λe=>absurd h.a.lt (by omega))) (qZ (au.q6 iG (h.bv.go b0) h.AK.1 h.AK.2) (qZ (au.q6 iG (h.dL.go b0) h.g.1 h.g.2.1) ((b0.mono hJ).trans (au.gq.below gO.q iG))))) (λW M (iG:au.T base ak W p vO rest U M)=>au.gq.HL (V:=λb=>U b\/b=gs) (au.gq.trans (ch.of b0) (λb h=>.inl h) iG) (λb h=>.inl h)) (λW M (iG:au.T base ak W p vO rest U M) W2 (ah:Below W.heap.size W W2)=>(eb.q W2 (((b0.mono hJ).trans (au.gq.below gO.q iG)).trans (ah.mono (qJ hJ ((b0.mono hJ).trans (au.gq.below gO.q iG)).size)))).up (qJ hJ (qJ ((b0.mono hJ).trans (au.gq.below gO.q iG)).size ah.size)));have aJ:=λW (aE:Below ak.heap.size ak W)=>qZ (λi=>(k3.go aE).cell i) (qZ (λi=>((h.bv.go b0).go aE).cell i) (λi=>((h.dL.go b0).go aE).cell i))
 have gV:=λi=>k3.cell i
 have e8:=λi=>(h.dL.go b0).cell i
 have eQ:=h.n;have iy:=qQ me;have hI:=qQ mf;clear h k3 b0 mN me mf;go_enter func24,ntmps24;go_wp2_with fail;go_ret;rw[cj.q];exact⟨rfl,iD.q _ _ gA.q⟩
 ):G:=h
theorem au.IG(ds:List (List Int))(k:Int)(h:au.rD base w p vO rest U N val x #[.int .i64 v0,.int .i64 v1] #[.int .i64 c_,.int .i64 s1] gv gs AD cD d)(mf:aY.In64 v0/\aY.In64 v1)(me:aY.In64 c_/\aY.In64 s1)(mN:x.o.k=k)(hq:k=7):Calls Tryz.prog 24 #[.pointer (some ⟨p,0,none⟩),val,.slice (some ⟨gv,0,none⟩) 2 2,.slice (some ⟨gs,0,none⟩) 2 2,.slice AD d.length cD] w λe w'=>e=.returned (.int .i64 (ae.bO ds N x [v0,v1] [c_,s1] d).2)/\au.T base w w' p vO rest (λb=>U b\/b=gs) (ae.bO ds N x [v0,v1] [c_,s1] d).1:=by
 have cj:=qQ (show ae.bO ds N x [v0,v1] [c_,s1] d=(N,-1) by
  unfold ae.bO;rw[qY (by omega)])
 subst hq;exact QZ
theorem _root_.Zb{G:Prop}(h:G:=by
 go_wp2_with (with_reducible refine nh.q.mono ?_);rintro e hG ⟨rfl,Mv⟩;go_wp2_with fail;go_ret;rw[cj.q];exact⟨rfl,iD.q _ _ Mv⟩
 ):G:=h
theorem au.BX(ds:List (List Int))(k:Int)(h:au.rD base w p vO rest U N val x #[.int .i64 v0,.int .i64 v1] #[.int .i64 c_,.int .i64 s1] gv gs AD cD d)(mf:aY.In64 v0/\aY.In64 v1)(me:aY.In64 c_/\aY.In64 s1)(S:x.o.k=k)(hq:k=5\/k=16):Calls Tryz.prog 24 #[.pointer (some ⟨p,0,none⟩),val,.slice (some ⟨gv,0,none⟩) 2 2,.slice (some ⟨gs,0,none⟩) 2 2,.slice AD d.length cD] w λe w'=>e=.returned (.int .i64 (ae.bO ds N x [v0,v1] [c_,s1] d).2)/\au.T base w w' p vO rest (λb=>U b\/b=gs) (ae.bO ds N x [v0,v1] [c_,s1] d).1:=by
 have Q:=qQ (show ae.bO ds N x [v0,v1] [c_,s1] d=ae.dn N x.o [v0,v1] [c_,s1] by
  unfold ae.bO;rw[qV (by omega),qV (by omega),qV (by omega),qY (by omega)])
 rcases hq with rfl | rfl
 all_goals
  obtain⟨aL,v2,v3,v4,v5,v6,rfl,ao,s2,ap,aq,az,aB⟩:=h.dQ;have ni:=qQ (qZ ao (qZ s2 (qZ ap (qZ aq (qZ az aB)))));obtain⟨rq,cy,rfl,_⟩:=ao;obtain⟨dp,bE,rfl,_⟩:=s2;obtain⟨sN,hs,rfl,_⟩:=ap;obtain⟨sO,tf,rfl,_⟩:=aq;obtain⟨sP,p1,rfl,_⟩:=az;obtain⟨w7,xa,rfl,_⟩:=aB;refine JL ?_;intro eb ak cI k3 b0 wE;rw[S]at eb cI k3 |-;refine JB ?_;intro km bp hJ gO gA c5 iv iD gS aJ gV e8 eQ iy hI;clear h k3 b0 S me mf;by_cases j:c_<0
  .by_cases hm:s1<0
   .have cj:=qQ (Q.q.trans (show ae.dn N x.o [v0,v1] [c_,s1]=ae.plus N (-1) (-1) by simp[ae.dn,j,hm]));go_wp2_with fail;have nh:=qQ (au.step gO.q gA.q (qK _ _) c5.q (λd_ kB E=>au.mV (-1) (-1) _ kB ⟨by omega,by omega⟩ ⟨by omega,by omega⟩ (by omega) E));exact Zb
   have cj:=qQ (Q.q.trans (show ae.dn N x.o [v0,v1] [c_,s1]=ae.plus (ae.add N x.o [v0,s1]).1 (-1) (ae.add N x.o [v0,s1]).2 by simp[ae.dn,j,hm]));have⟨Y,Z,ag⟩:=au.iK N x.o [v0,s1];go_wp2_with fail;clear cI gV e8;refine aH (l:=[_,_]) [(0,86,[]),(1,87,[0]),(2,88,[1]),(3,89,[]),(4,90,[3]),(5,91,[]),(6,92,[5]),(7,93,[6]),(8,94,[]),(9,95,[8]),(10,96,[9]),(11,97,[7,10])] [12,13] [.eq _,.eq _,.eq _,.eq _,.eq _,.eq _,.eq _,.eq _,.eq _,.eq _,.eq _,.row ak.heap.size 3 2 #[.int .i64 v0,.int .i64 s1]]
    (λW=>Below ak.heap.size ak W) (qK _ _).drew ((fr)<|(fr)<|(fr)<|(fr)<|(fr)<|(fr)<|(fr)<|(fr)<|(fr)<|(fr)<|(fr)<|cr ?_<|fg) ?_ (λ_ _ h B=>aA h B)
   .exact ZE
   intros;rename_i W a_ _ _ _ _ _ _ _ _ _ _ _ h;subst_vars;obtain⟨g,rfl,D,r⟩:=h;have y:=qQ (au.step gO.q gA.q a_ c5.q (λd_ kB O=>au.add _ _ x.o [v0,s1] W kB (gS.q _ _ gA.q W a_) (af.dY (n:=2) r rfl (by omega)) km.q.f ⟨by simp,λn j=>by simp only[xR,xP,vX]at j;rcases j with rfl | rfl<;>first | exact hI.q.1 | exact iy.q.2⟩ (by omega) O));clear a_ aJ r D;go_wp2_with (with_reducible refine y.q.mono ?_);rintro e aC ⟨rfl,m⟩;go_wp2_with fail;have nh:=qQ (au.step gO.q m (qK _ _) c5.q (λd_ kB E=>au.mV (-1) (ae.add N x.o [v0,s1]).2 _ kB ⟨by omega,by omega⟩ ⟨by omega,by omega⟩ (by omega) E));exact Zb
  by_cases hm:s1<0
  .have cj:=qQ (Q.q.trans (show ae.dn N x.o [v0,v1] [c_,s1]=ae.plus (ae.add N x.o [c_,v1]).1 (ae.add N x.o [c_,v1]).2 (-1) by simp[ae.dn,j,hm]));have⟨Y,Z,ag⟩:=au.iK N x.o [c_,v1];go_wp2_with fail;clear cI gV e8;refine aH (l:=[_,_]) [(0,69,[]),(1,70,[0]),(2,71,[1]),(3,72,[]),(4,73,[3]),(5,74,[]),(6,75,[5]),(7,76,[6]),(8,77,[]),(9,78,[8]),(10,79,[9]),(11,80,[7,10])] [12,13] [.eq _,.eq _,.eq _,.eq _,.eq _,.eq _,.eq _,.eq _,.eq _,.eq _,.eq _,.row ak.heap.size 3 2 #[.int .i64 c_,.int .i64 v1]]
    (λW=>Below ak.heap.size ak W) (qK _ _).drew ((fr)<|(fr)<|(fr)<|(fr)<|(fr)<|(fr)<|(fr)<|(fr)<|(fr)<|(fr)<|(fr)<|cr ?_<|fg) ?_ (λ_ _ h B=>aA h B)
   .exact ZE
   intros;rename_i W a_ _ _ _ _ _ _ _ _ _ _ _ h;subst_vars;obtain⟨g,rfl,D,r⟩:=h;have y:=qQ (au.step gO.q gA.q a_ c5.q (λd_ kB O=>au.add _ _ x.o [c_,v1] W kB (gS.q _ _ gA.q W a_) (af.dY (n:=2) r rfl (by omega)) km.q.f ⟨by simp,λn j=>by simp only[xR,xP,vX]at j;rcases j with rfl | rfl<;>first | exact iy.q.1 | exact hI.q.2⟩ (by omega) O));clear a_ aJ r D;go_wp2_with (with_reducible refine y.q.mono ?_);rintro e aC ⟨rfl,m⟩;have X:=λi=>(iv.q _ _ m).2.2.1.cell i
   go_wp2_with fail;have nh:=qQ (au.step gO.q m (qK _ _) c5.q (λd_ kB E=>au.mV (ae.add N x.o [c_,v1]).2 (-1) _ kB ⟨by omega,by omega⟩ ⟨by omega,by omega⟩ (by omega) E));exact Zb
  have cj:=qQ (Q.q.trans (show ae.dn N x.o [v0,v1] [c_,s1]=ae.plus (ae.add (ae.add N x.o [c_,v1]).1 x.o [v0,s1]).1 (ae.add N x.o [c_,v1]).2 (ae.add (ae.add N x.o [c_,v1]).1 x.o [v0,s1]).2 by simp[ae.dn,j,hm]));have⟨Y,Z,ag⟩:=au.iK N x.o [c_,v1];have⟨aF,aG,aK⟩:=au.iK (ae.add N x.o [c_,v1]).1 x.o [v0,s1];go_wp2_with fail;clear cI gV e8;refine aH (l:=[_,_]) [(0,69,[]),(1,70,[0]),(2,71,[1]),(3,72,[]),(4,73,[3]),(5,74,[]),(6,75,[5]),(7,76,[6]),(8,77,[]),(9,78,[8]),(10,79,[9]),(11,80,[7,10])] [12,13] [.eq _,.eq _,.eq _,.eq _,.eq _,.eq _,.eq _,.eq _,.eq _,.eq _,.eq _,.row ak.heap.size 3 2 #[.int .i64 c_,.int .i64 v1]]
   (λW=>Below ak.heap.size ak W) (qK _ _).drew ((fr)<|(fr)<|(fr)<|(fr)<|(fr)<|(fr)<|(fr)<|(fr)<|(fr)<|(fr)<|(fr)<|cr ?_<|fg) ?_ (λ_ _ h B=>aA h B)
  .exact ZE
  intros;rename_i W a_ _ _ _ _ _ _ _ _ _ _ _ h;subst_vars;obtain⟨g,rfl,D,r⟩:=h;have y:=qQ (au.step gO.q gA.q a_ c5.q (λd_ kB O=>au.add _ _ x.o [c_,v1] W kB (gS.q _ _ gA.q W a_) (af.dY (n:=2) r rfl (by omega)) km.q.f ⟨by simp,λn j=>by simp only[xR,xP,vX]at j;rcases j with rfl | rfl<;>first | exact iy.q.1 | exact hI.q.2⟩ (by omega) O));clear a_ aJ r D;go_wp2_with (with_reducible refine y.q.mono ?_);rintro e aC ⟨rfl,m⟩;have X:=λi=>(iv.q _ _ m).2.2.1.cell i
  go_wp2_with fail;clear X;have aJ:=λW (aE:Below aC.heap.size aC W)=>qZ (λi=>((iv.q _ _ m).1.go aE).cell i) (qZ (λi=>((iv.q _ _ m).2.1.go aE).cell i) (λi=>((iv.q _ _ m).2.2.1.go aE).cell i))
  refine aH (l:=[_,_]) [(0,86,[]),(1,87,[0]),(2,88,[1]),(3,89,[]),(4,90,[3]),(5,91,[]),(6,92,[5]),(7,93,[6]),(8,94,[]),(9,95,[8]),(10,96,[9]),(11,97,[7,10])] [12,13] [.eq _,.eq _,.eq _,.eq _,.eq _,.eq _,.eq _,.eq _,.eq _,.eq _,.eq _,.row aC.heap.size 3 2 #[.int .i64 v0,.int .i64 s1]]
   (λW=>Below aC.heap.size aC W) (qK _ _).drew ((fr)<|(fr)<|(fr)<|(fr)<|(fr)<|(fr)<|(fr)<|(fr)<|(fr)<|(fr)<|(fr)<|cr ?_<|fg) ?_ (λ_ _ h B=>aA h B)
  .intros;rename_i K aI;subst_vars;have a_:=(show Below aC.heap.size aC _ by assumption).size;exact XI
  intros;rename_i W a_ _ _ _ _ _ _ _ _ _ _ _ h;subst_vars;obtain⟨g,rfl,D,r⟩:=h;have y:=qQ (au.step gO.q m a_ c5.q (λd_ kB O=>au.add _ _ x.o [v0,s1] W kB (gS.q _ _ m W a_) (af.dY (n:=2) r rfl (by omega)) km.q.f ⟨by simp,λn j=>by simp only[xR,xP,vX]at j;rcases j with rfl | rfl<;>first | exact hI.q.1 | exact iy.q.2⟩ (by omega) O));clear a_ aJ r D;go_wp2_with (with_reducible refine y.q.mono ?_);rintro e aw ⟨rfl,aD⟩;go_wp2_with fail;have nh:=qQ (au.step gO.q aD (qK _ _) c5.q (λd_ kB E=>au.mV (ae.add N x.o [c_,v1]).2 (ae.add (ae.add N x.o [c_,v1]).1 x.o [v0,s1]).2 _ kB ⟨by omega,by omega⟩ ⟨by omega,by omega⟩ (by omega) E));exact Zb
theorem au.IK(ds:List (List Int)){HK qk:Int}(h:au.rD base w p vO rest U N val x #[.int .i64 v0,.int .i64 v1,.int .i64 HK] #[.int .i64 c_,.int .i64 s1,.int .i64 qk] gv gs AD cD d)(mf:aY.In64 v0)(me:aY.In64 s1/\aY.In64 qk)(m:x.o.k=8):Calls Tryz.prog 24 #[.pointer (some ⟨p,0,none⟩),val,.slice (some ⟨gv,0,none⟩) 3 3,.slice (some ⟨gs,0,none⟩) 3 3,.slice AD d.length cD] w λe w'=>e=.returned (.int .i64 (ae.bO ds N x [v0,v1,HK] [c_,s1,qk] d).2)/\au.T base w w' p vO rest (λb=>U b\/b=gs) (ae.bO ds N x [v0,v1,HK] [c_,s1,qk] d).1:=by
 have cj:=qQ (show ae.bO ds N x [v0,v1,HK] [c_,s1,qk] d=ae.choice N v0 s1 qk d by
  unfold ae.bO;rw[qV (by omega),qV (by omega),qV (by omega),qV (by omega),qV (by omega),qY (by omega)];rfl)
 obtain⟨S,v2,v3,v4,v5,v6,rfl,r,s2,y,B,D,E⟩:=h.dQ;have ni:=qQ (qZ r (qZ s2 (qZ y (qZ B (qZ D E)))));obtain⟨rq,cy,rfl,_⟩:=r;obtain⟨dp,bE,rfl,_⟩:=s2;obtain⟨sN,hs,rfl,_⟩:=y;obtain⟨sO,tf,rfl,_⟩:=B;obtain⟨sP,p1,rfl,_⟩:=D;obtain⟨w7,xa,rfl,_⟩:=E;refine JL ?_;intro eb ak cI k3 b0 wE;rw[m]at eb cI k3 |-;refine JB ?_;intro km bp hJ gO gA c5 iv iD gS aJ gV e8 eQ iy hI;clear h k3 b0 m me mf;go_wp2_with fail;clear cI gV e8;refine aH (l:=[_,_]) [(0,128,[]),(1,129,[]),(2,130,[1]),(3,131,[2]),(4,132,[]),(5,133,[4]),(6,134,[5]),(7,135,[]),(8,136,[7]),(9,137,[8]),(10,138,[])] [11,12] [.eq _,.eq _,.eq _,.eq _,.eq _,.eq _,.eq _,.eq _,.eq _,.eq _,.eq _]
  (λW=>Below ak.heap.size ak W) (qK _ _).drew ((fr)<|(fr)<|(fr)<|(fr)<|(fr)<|(fr)<|(fr)<|(fr)<|(fr)<|(fr)<|(fr)<|fg) ?_ (λ_ _ h O=>aA h O)
 intros;rename_i W j _ _ _ _ _ _ _ _ _ _ _;subst_vars;have Q:base<=ak.heap.size:=by omega
 have nh:=qQ (au.step gO.q gA.q j c5.q (λd_ kB rv=>au.s7 v0 s1 qk AD cD d W kB hI.q iy.q.1 iy.q.2 (λbg aE=>km.q.LI bg (((iv.q _ _ gA.q).2.2.2.trans (j.mono Q)).trans aE)) km.q.dc km.q.ph (by omega) rv));clear j aJ;exact Zd
end
def au.G(base:Nat)(ak W:World)(p:Nat)(vO:Value)(rest:List Value)(U:Nat->Prop)(gs:Nat)(M:List J.Node):Prop:=∃d_,au.W base W p vO rest d_ M/\ch (λb=>b=p\/b=gs\/U b) ak W/\∀b,d_ b->U b\/ak.heap.size<=b
section
variable {base p gs g:Nat} {w ak W W2:World} {vO:Value} {rest:List Value} {U:Nat->Prop} {N M hO:List J.Node}
theorem au.G.of(h:au.T base ak W p vO rest U M):au.G base ak W p vO rest U gs M:=by
 obtain⟨d_,i,j,m⟩:=h;exact⟨d_,i,j.mono (λn q=>q.imp id .inr),m⟩
theorem au.G.below(i:au.W base ak p vO rest U N)(q:base<=gs)(h:au.G base ak W p vO rest U gs M):Below base ak W:=by
 obtain⟨_,_,m,_⟩:=h;refine m.below (λb j=>?_) (qJ i.low (zG i.lt));rcases j with rfl | rfl | j
 .exact i.low
 .exact q
 exact(i.own b j).1
theorem au.G.aL{t:TypeId}{cs:Array Value}(h:au.G base ak W p vO rest U gs M)(j:av ak g t cs)(hu:¬U g)(hp:g≠p)(m:g≠gs):av W g t cs:=by
 obtain⟨_,_,i,_⟩:=h;exact i.aL j (λh=>by
  rcases h with h | h | h
  .exact hp h
  .exact m h
  exact hu h)
theorem au.G.step{f:FuncId}{args:Array Value}(m:au.W base ak p vO rest U N)(V:base<=gs)(y:au.G base ak W p vO rest U gs M)(ah:Below W.heap.size W W2)(Z:aY.gI base ak)(B:¬U gs/\gs≠p/\gs<ak.heap.size)(h:∀d_,au.W base W2 p vO rest d_ M->aY.gI base W2->Calls Tryz.prog f args W2 λe w'=>e=.returned r/\au.T base W2 w' p vO rest d_ hO):Calls Tryz.prog f args W2 λe w'=>e=.returned r/\au.G base ak w' p vO rest U gs hO/\∀t cs,av W gs t cs->av w' gs t cs:=by
 have q:=au.G.below m V y;obtain⟨oh,E,I,j⟩:=y;have Y:=qJ m.low (zG m.lt);refine(h oh (E.c9 (ch.of (U:=λ_=>False) ah) (λb h=>h.elim)) (au.gL Z (q.trans (ah.mono (qJ Y q.size))))).mono ?_;rintro e w' ⟨rfl,D,O,x,Q⟩;have i:¬oh gs:=λhu=>by
  rcases j gs hu with h | h
  .exact B.1 h
  omega
 refine⟨rfl,⟨D,O,(I.trans (ch.of (U:=λ_=>False) ah) (λn h=>h.elim)).trans x (λn i=>?_),λb S=>?_⟩,λt cs X=>x.aL (X.go ah) (λh=>h.elim B.2.1 i)⟩
 .rcases i with rfl | i
  .exact .inl (.inl rfl)
  rcases j n i with h | h
  .exact .inl (.inr (.inr h))
  exact .inr h
 rcases Q b S with h | h
 .exact j b h
 exact .inr (qJ q.size (qJ ah.size h))
theorem au.G.set(B:au.G base ak W p vO rest U gs M)(q:¬U gs/\gs≠p/\gs<ak.heap.size)(i:Nat)(v:Value):au.G base ak (W.setCell ⟨gs,i,none⟩ v) p vO rest U gs M:=by
 obtain⟨oh,x,y,m⟩:=B;have j:¬oh gs:=λhu=>by
  rcases m gs hu with h | h
  .exact q.1 h
  omega
 have r:=ch.set W ⟨gs,i,none⟩ v;exact⟨oh,x.c9 r (λb D=>by subst D;exact⟨j,q.2.1⟩),y.trans r (λn j=>.inl (.inr (.inl j))),m⟩
theorem au.G.end(x:au.G base ak W p vO rest U gs M)(j:Below w.heap.size w ak):au.T base w W p vO rest (λb=>U b\/b=gs) M:=by
 obtain⟨oh,m,q,r⟩:=x;refine⟨oh,m,(ch.of j).trans (q.mono (V:=λb=>b=p\/U b\/b=gs) (λn i=>by
  rcases i with h | h | h
  .exact .inl h
  .exact .inr (.inr h)
  exact .inr (.inl h))) (λn i=>.inl i),λb y=>?_⟩
 rcases r b y with h | h
 .exact .inl (.inl h)
 exact .inr (qJ j.size h)
end
section
variable {base p:Nat} {vO:Value} {rest:List Value} {U:Nat->Prop} {N:List J.Node} {w:World} {val:Value} {x:J.Node} {v0 v1 c_ s1:Int} {gv gs:Nat} {AD:Option Addr} {cD:Nat} {d:List Int}
theorem au.II(ds:List (List Int))(h:au.rD base w p vO rest U N val x #[.int .i64 v0,.int .i64 v1] #[.int .i64 c_,.int .i64 s1] gv gs AD cD d)(mf:aY.In64 v0/\aY.In64 v1)(me:aY.In64 c_/\aY.In64 s1)(aR:x.o.k=4):Calls Tryz.prog 24 #[.pointer (some ⟨p,0,none⟩),val,.slice (some ⟨gv,0,none⟩) 2 2,.slice (some ⟨gs,0,none⟩) 2 2,.slice AD d.length cD] w λe w'=>e=.returned (.int .i64 (ae.bO ds N x [v0,v1] [c_,s1] d).2)/\au.T base w w' p vO rest (λb=>U b\/b=gs) (ae.bO ds N x [v0,v1] [c_,s1] d).1:=by
 have Y:=qQ (show ae.bO ds N x [v0,v1] [c_,s1] d=if s1<0 then(N,c_)else ae.add (ae.full N c_ d).1 x.o [(ae.full N c_ d).2,s1] by
  unfold ae.bO;rw[qV (by omega),qV (by omega),qY (by omega)];rfl)
 have a':=h.dL.lt;have Q:=h.g;obtain⟨bh,v2,v3,v4,v5,v6,rfl,aW,s2,aX,aZ,a0,a1⟩:=h.dQ;have y:=qQ (qZ aW (qZ s2 (qZ aX (qZ aZ (qZ a0 a1)))));obtain⟨ap,aK,rfl,_⟩:=aW;obtain⟨dp,aN,rfl,_⟩:=s2;obtain⟨aq,aO,rfl,_⟩:=aX;obtain⟨az,aP,rfl,_⟩:=aZ;obtain⟨aB,aQ,rfl,_⟩:=a0;obtain⟨a2,a5,rfl,_⟩:=a1;have eb:=qQ (show ∀W,Below base w W->af.bd W base (.agg #[.int .i64 x.o.k,.slice ap x.o.I.length aK,.slice dp x.o.a.length aN,.slice aq x.o.l.length aO,.slice az x.o.h.length aP,.slice aB x.o.s.length aQ,.int .i64 x.o.v]) x.o from
  λW m=>af.bd.below (w:=w) ⟨_,_,_,_,_,rfl,y.q.1,y.q.2.1,y.q.2.2.1,y.q.2.2.2.1,y.q.2.2.2.2.1⟩ m)
 rw[aR]at eb |-;obtain⟨ak,aU,k3,b0,bg⟩:=b8 w 60 #[.int .i64 4,.slice ap x.o.I.length aK,.slice dp x.o.a.length aN,.slice aq x.o.l.length aO,.slice az x.o.h.length aP,.slice aB x.o.s.length aQ,.int .i64 x.o.v,.slice a2 x.a.length a5];refine JB ?_;intro km bp hJ gO gA c5 iv iD gS aJ gV e8 eQ iy hI;clear h k3 b0 aR me mf;by_cases hm:s1<0
 .have r:=qQ (Y.q.trans (qY hm));go_wp2_with fail;go_ret;rw[r.q];exact⟨rfl,iD.q _ _ gA.q⟩
 by_cases j:c_<0
 .have r:=qQ (Y.q.trans ((qV hm).trans (show _=ae.add (ae.cA N d).1 x.o [(ae.cA N d).2,s1] by simp[ae.full,j])));have⟨bc,be,bf⟩:=au.lT N d;have a4:=qQ (au.step gO.q gA.q (qK _ _) c5.q (λd_ m D=>au.mq AD cD d ak m (km.q.LI ak (iv.q _ _ gA.q).2.2.2) km.q.dc km.q.ph (by omega) D));have a8:gs<ak.heap.size:=by omega
  have aG:=qQ (qZ Q.1 (qZ Q.2.1 a8));go_wp2_with (with_reducible refine a4.q.mono ?_);rintro e aC rfl B;have a3:=qQ (au.G.of (gs:=gs) B);have O:=qQ (iv.q _ _ B);have a7:=λi=>O.q.2.2.1.cell i
  have a6:=λi=>O.q.2.2.1.frozen i
  clear B gV e8 aJ aU;go_wp2_with fail;obtain⟨aw,S⟩:=gz (aC.setCell ⟨gs,0,none⟩ (.int .i64 (ae.cA N d).2));have aF:=qQ (S▸au.G.set a3.q aG.q 0 (.int .i64 (ae.cA N d).2));have aT:av aw gs 3 #[.int .i64 (ae.cA N d).2,.int .i64 s1]:=by
   rw[<-S];exact O.q.2.2.1.bs 0 _
  have ao:=(ch.set aC ⟨gs,0,none⟩ (.int .i64 (ae.cA N d).2)).aL O.q.1 (λe=>by
   have mK:w.heap.size=gs:=e;omega)
  rw[S]at ao |-;clear S a7 a6;have aD:=qQ ((iv.q _ _ gA.q).2.2.2.trans (au.G.below gO.q Q.2.2.1 aF.q));have aJ:=λW (aE:Below aw.heap.size aw W)=>qZ (λi=>(ao.go aE).cell i) (λi=>(aT.go aE).cell i)
  refine aH (l:=[_,_]) [(0,49,[]),(1,50,[0]),(2,51,[1]),(3,52,[]),(4,53,[3]),(5,54,[]),(6,55,[5]),(7,56,[6]),(8,57,[]),(9,58,[8]),(10,59,[9]),(11,60,[7,10])] [12,13] [.eq _,.eq _,.eq _,.eq _,.eq _,.eq _,.eq _,.eq _,.eq _,.eq _,.eq _,.row aw.heap.size 3 2 #[.int .i64 (ae.cA N d).2,.int .i64 s1]]
   (λW=>Below aw.heap.size aw W) (qK _ _).drew ((fr)<|(fr)<|(fr)<|(fr)<|(fr)<|(fr)<|(fr)<|(fr)<|(fr)<|(fr)<|(fr)<|cr ?_<|fg) ?_ (λ_ _ h Z=>aA h Z)
  .intros;rename_i K aI;subst_vars;have a_:=(show Below aw.heap.size aw _ by assumption).size;exact XI
  intros;rename_i W a_ _ _ _ _ _ _ _ _ _ _ _ h;subst_vars;obtain⟨g,rfl,ag,E⟩:=h;have aV:=aD.q.size;have X:=qQ (au.G.step gO.q Q.2.2.1 aF.q a_ c5.q aG.q (λd_ m D=>au.add _ _ x.o [(ae.cA N d).2,s1] W m ((eb.q W (aD.q.trans (a_.mono (qJ hJ aV)))).up (qJ hJ (qJ aV a_.size))) (af.dY (n:=2) E rfl (by omega)) km.q.f ⟨by simp,λn j=>by
   simp only[xR,xP,vX]at j;rcases j with rfl | rfl
   .exact⟨by omega,by omega⟩
   exact iy.q.2⟩ (by omega) D))
  clear a_ aJ E ag ao aT;go_wp2_with (with_reducible refine X.q.mono ?_);rintro e bm ⟨rfl,a9,_⟩;go_wp2_with fail;go_ret;rw[r.q];exact⟨rfl,a9.end bp.q⟩
 have r:=qQ (Y.q.trans ((qV hm).trans (show _=ae.add N x.o [c_,s1] by simp[ae.full,j])));go_wp2_with fail;clear aU gV e8;refine aH (l:=[_,_]) [(0,49,[]),(1,50,[0]),(2,51,[1]),(3,52,[]),(4,53,[3]),(5,54,[]),(6,55,[5]),(7,56,[6]),(8,57,[]),(9,58,[8]),(10,59,[9]),(11,60,[7,10])] [12,13] [.eq _,.eq _,.eq _,.eq _,.eq _,.eq _,.eq _,.eq _,.eq _,.eq _,.eq _,.row ak.heap.size 3 2 #[.int .i64 c_,.int .i64 s1]]
  (λW=>Below ak.heap.size ak W) (qK _ _).drew ((fr)<|(fr)<|(fr)<|(fr)<|(fr)<|(fr)<|(fr)<|(fr)<|(fr)<|(fr)<|(fr)<|cr ?_<|fg) ?_ (λ_ _ h Z=>aA h Z)
 .exact ZE
 intros;rename_i W a_ _ _ _ _ _ _ _ _ _ _ _ h;subst_vars;obtain⟨g,rfl,ag,E⟩:=h;have X:=qQ (au.step gO.q gA.q a_ c5.q (λd_ m D=>au.add _ _ x.o [c_,s1] W m (gS.q _ _ gA.q W a_) (af.dY (n:=2) E rfl (by omega)) km.q.f ⟨by simp,λn j=>by simp only[xR,xP,vX]at j;rcases j with rfl | rfl<;>first | exact iy.q.1 | exact iy.q.2⟩ (by omega) D));clear a_ aJ E ag;go_wp2_with (with_reducible refine X.q.mono ?_);rintro e aC ⟨rfl,B⟩;go_wp2_with fail;go_ret;rw[r.q];exact⟨rfl,iD.q _ _ B⟩
end
section
variable {base p:Nat} {vO:Value} {rest:List Value} {U:Nat->Prop} {N:List J.Node} {w:World} {val:Value} {x:J.Node} {v0 v1 c_ s1:Int} {gv gs:Nat} {AD:Option Addr} {cD:Nat} {d:List Int}
theorem au.C_(ds:List (List Int))(h:au.rD base w p vO rest U N val x #[] #[] gv gs AD cD d)(mf:True)(me:True)(mN:x.o.k=2):Calls Tryz.prog 24 #[.pointer (some ⟨p,0,none⟩),val,.slice (some ⟨gv,0,none⟩) 0 0,.slice (some ⟨gs,0,none⟩) 0 0,.slice AD d.length cD] w λe w'=>e=.returned (.int .i64 (ae.bO ds N x [] [] d).2)/\au.T base w w' p vO rest (λb=>U b\/b=gs) (ae.bO ds N x [] [] d).1:=by
 have cj:=qQ (show ae.bO ds N x [] [] d=(N,-1) by
  unfold ae.bO;rw[qY (by omega)])
 exact QZ
theorem au.IJ(ds:List (List Int))(h:au.rD base w p vO rest U N val x #[.int .i64 v0,.int .i64 v1] #[.int .i64 c_,.int .i64 s1] gv gs AD cD d)(mf:aY.In64 v0/\aY.In64 v1)(me:aY.In64 c_/\aY.In64 s1)(Q:x.o.k=6):Calls Tryz.prog 24 #[.pointer (some ⟨p,0,none⟩),val,.slice (some ⟨gv,0,none⟩) 2 2,.slice (some ⟨gs,0,none⟩) 2 2,.slice AD d.length cD] w λe w'=>e=.returned (.int .i64 (ae.bO ds N x [v0,v1] [c_,s1] d).2)/\au.T base w w' p vO rest (λb=>U b\/b=gs) (ae.bO ds N x [v0,v1] [c_,s1] d).1:=by
 have aA:=qQ (show ae.bO ds N x [v0,v1] [c_,s1] d=ae.choice (ae.add N (ae.bH 7) [v0,v1]).1 (ae.add N (ae.bH 7) [v0,v1]).2 s1 c_ d by
  unfold ae.bO;rw[qV (by omega),qV (by omega),qV (by omega),qV (by omega),qY (by omega)];rfl)
 have⟨aK,aL,aN⟩:=au.iK N (ae.bH 7) [v0,v1];obtain⟨aO,v2,v3,v4,v5,v6,rfl,X,s2,Y,Z,ag,ao⟩:=h.dQ;have ni:=qQ (qZ X (qZ s2 (qZ Y (qZ Z (qZ ag ao)))));obtain⟨rq,cy,rfl,_⟩:=X;obtain⟨dp,bE,rfl,_⟩:=s2;obtain⟨sN,hs,rfl,_⟩:=Y;obtain⟨sO,tf,rfl,_⟩:=Z;obtain⟨sP,p1,rfl,_⟩:=ag;obtain⟨w7,xa,rfl,_⟩:=ao;refine JL ?_;intro eb ak cI k3 b0 wE;rw[Q]at eb cI k3 |-;refine JB ?_;intro km bp hJ gO gA c5 iv iD gS aJ gV e8 eQ iy hI;clear h k3 b0 Q me mf;have aH:base<=ak.heap.size:=by omega
 obtain⟨m,aI,aG,O⟩:∃m,ak.drew.alloc (.cells #[.int .i64 v0,.int .i64 v1] 3)=m/\av m ak.heap.size 3 #[.int .i64 v0,.int .i64 v1]/\Below ak.heap.size ak m:=⟨_,rfl,av.new _ _ _,(qK _ _).drew.alloc (qX _) _⟩;have ap:=qQ O;have D:=qQ (au.Bh 7 [v0,v1] 2 rfl ak m gO.q aG O ⟨by omega,by omega⟩ ⟨by simp,λn S=>by simp at S;rcases S with rfl | rfl;exact hI.q.1;exact hI.q.2⟩ (by omega) c5.q);rw[wE]at D;have E:=qQ (λW (b:Below ak.heap.size ak W)=>show W.cell? ⟨gv,0,none⟩=some (.int .i64 v0)/\W.cell? ⟨gv,1,none⟩=some (.int .i64 v1)/\W.cell? ⟨gs,0,none⟩=some (.int .i64 c_)/\W.cell? ⟨gs,1,none⟩=some (.int .i64 s1)from⟨(aJ W b).2.1 0,(aJ W b).2.1 1,(aJ W b).2.2 0,(aJ W b).2.2 1⟩);have az:=qQ (λW M (iG:au.T base ak W p vO rest U M)=>show W.cell? ⟨gv,0,none⟩=some (.int .i64 v0)/\W.cell? ⟨gv,1,none⟩=some (.int .i64 v1)/\W.cell? ⟨gs,0,none⟩=some (.int .i64 c_)/\W.cell? ⟨gs,1,none⟩=some (.int .i64 s1)from⟨(iv.q _ _ iG).2.1.cell 0,(iv.q _ _ iG).2.1.cell 1,(iv.q _ _ iG).2.2.1.cell 0,(iv.q _ _ iG).2.2.1.cell 1⟩);go_wp2_with fail;clear cI gV e8 aJ;refine fk (λW=>W.cell? ⟨gv,0,none⟩=some (.int .i64 v0)/\W.cell? ⟨gv,1,none⟩=some (.int .i64 v1)/\W.cell? ⟨gs,0,none⟩=some (.int .i64 c_)/\W.cell? ⟨gs,1,none⟩=some (.int .i64 s1)) 20 22 (E.q _ (qK _ _).drew) (λy=>?_);simp only[qF,qG];refine e5 0 105 ?_;refine e5 1 106 ?_;refine e5 2 107 ?_;refine e5 3 108 ?_;refine e5 4 109 ?_;refine e5 5 110 ?_;refine e5 6 111 ?_;refine bX [11,12] 7 112 ?_;refine e5 8 113 ?_;refine e5 9 114 ?_;refine bX [11,12] 10 115 ?_;refine e5 13 118 ?_;refine e5 14 119 ?_;refine bX [] 15 120 ?_;refine e5 16 121 ?_;refine e5 17 122 ?_;refine bX [] 18 123 ?_;refine e5 19 124 ?_;try simp only[Act.put,bj,bk,bl]
 refine fT 11 (λK j=>?_);go_simp;refine j.q _ _ ⟨E.q _ ap.q,trivial⟩ (λr=>?_);clear j K y;have y:=r;clear r;try simp only[bj,bk,bl]
 refine fT 12 (λK j=>?_);go_simp
 ((with_reducible refine D.q.mono ?_);rintro e aC ⟨rfl,B⟩)
 try go_simp
 refine j.q _ _ ⟨az.q _ _ B,trivial⟩ (λr=>?_);clear j K y r;try simp only[bj,bk,bl]
 refine eW [_,_] 20 [21] ?_;have aq:=qQ (au.step gO.q B (qK _ _) c5.q (λd_ kB aD=>au.s7 (ae.add N (ae.bH 7) [v0,v1]).2 s1 c_ AD cD d aC kB ⟨by omega,by omega⟩ iy.q.2 iy.q.1 (λW aB=>km.q.LI W (((iv.q _ _ B).2.2.2).trans aB)) km.q.dc km.q.ph (by omega) aD));go_wp2_with (with_reducible refine aq.q.mono ?_);rintro e aP ⟨rfl,aF⟩;go_wp2_with fail;go_ret;rw[aA.q];exact⟨rfl,iD.q _ _ aF⟩
end
theorem au.Ad(k:Int)(w:World):Calls Tryz.prog 50 #[.int .i64 k] w λe w'=>e=.returned (.bool (decide (k≥0)))/\w'=w:=by
 go_enter func50,ntmps50;go_wp2_with fail;go_ret;exact⟨rfl,rfl⟩
theorem au.Cy(A:Option Addr)(c:Nat)(l:List Int)(B:Nat)(w:World)(ah:B<=w.heap.size)(av:l.length<=9223372036854775807)(h:ai.ao w B A l):Calls Tryz.prog 77 #[.slice A l.length c,.func (.func 50) #[] #[]] w λe w'=>∃k:Int,e=.returned (.int .i64 k)/\(k≥0↔l.all (λk=>decide (k<0))=false)/\Below w.heap.size w w':=by
 have aq:=qQ (λW (M:Below w.heap.size w W)=>h.below (M.mono ah));have ap:=qQ (qK w.heap.size w);have aC:∀(args:Array Value) (W:World),(callFunc 50 args).run Tryz.prog W=.ok (.enter 50 args) W:=λ_ _=>rfl
 obtain⟨bm,N⟩:∃bm,l.all (λk=>decide (k<0))=bm:=⟨_,rfl⟩;have Y:=qQ (qZ N True.intro);obtain⟨n,O⟩:=gz l.length;have U:=qQ (qZ O True.intro);rw[O]at av |-;rw[N];clear h O N;go_enter func77,ntmps77;go_wp2_with fail;go_loopw [8] (λQ wr=>∃k:Nat,Q=.int .i64 (k:Int)/\k<=n/\(∀j (r:j<l.length),j<k->l[j]<0)/\Below w.heap.size w wr) (λQ _=>n-(intOf Q).toNat)
 case atStart=>exact⟨0,rfl,by omega,λj _ h=>by omega,ap.q⟩
 obtain⟨k,rfl,aE,Z,M⟩:=hrel;have S:=qQ Z;have I:=qQ M;clear Z M;by_cases aF:k<n
 .have ak:k<l.length:=by have:=U.q.1;omega
  obtain⟨b,off,rfl,aB,ag⟩:=aq.q wr I.q (by omega);have aA:=ag k ak;have X:=qQ (show 0<=l[k]->bm=false from λh=>by
   rw[<-Y.q.1];exact List.all_eq_false.2 ⟨l[k],qP ak,by simp;omega⟩)
  have V:=qQ (show l[k]<0->∀j (r:j<l.length),j<k+1->l[j]<0 from λh j r aD=>by
   by_cases e:j=k
   .subst e;exact h
   exact S.q j r (by omega))
  have i1:=b2 k;have i2:(k:Int)<n:=by omega
  clear ag;generalize l[k]=x at aA X V;by_cases E:0<=x
  .have m:=qQ (X.q E);have hq:decide (x≥0)=true:=zD E;have i:=qQ (λW=>au.Ad x W);rw[hq]at i;clear E hq;go_wp2_with fail
   ((with_reducible refine(i.q _).mono ?_);rintro e aw ⟨rfl,D⟩;rw[D];clear D)
   go_wp2_with fail;go_ret;exact⟨k,rfl,by rw[m.q];simp,I.q⟩
  have m:=qQ (V.q (by omega));have hq:decide (x≥0)=false:=zN E;have i:=qQ (λW=>au.Ad x W);rw[hq]at i;clear E hq;go_wp2_with fail
  ((with_reducible refine(i.q _).mono ?_);rintro e aw ⟨rfl,D⟩;rw[D];clear D)
  go_wp2_with fail;go_roundw
  case rel=>exact⟨k+1,by go_num,by omega,m.q,I.q⟩
  case measure=>simp[intOf];omega
 obtain rfl:n=k:=by omega
 have m:=qQ (show bm=true from Y.q.1.symm.trans (List.all_eq_true.2 λy az=>by
  obtain⟨j,r,rfl⟩:=zQ az;simpa using S.q j r (by have:=U.q.1;omega)))
 go_wp2_with fail;go_ret;exact⟨-1,rfl,by rw[m.q];simp,I.q⟩
theorem au.yi(A:Option Addr)(c:Nat)(l:List Int)(B:Nat)(w:World)(ah:B<=w.heap.size)(D:l.length<=9223372036854775807)(h:ai.ao w B A l):Calls Tryz.prog 49 #[.slice A l.length c,.func (.func 50) #[] #[]] w λe w'=>e=.returned (.bool (!l.all (λk=>decide (k<0))))/\Below w.heap.size w w':=by
 have m:=qQ (au.Cy A c l B w ah D h);obtain⟨bm,y⟩:∃bm,l.all (λk=>decide (k<0))=bm:=⟨_,rfl⟩;rw[y]at m |-;obtain⟨n,E⟩:=gz l.length;rw[E]at m |-;clear h E y D;go_enter func49,ntmps49;go_wp2_with (with_reducible refine m.q.mono ?_)
 first | rintro e ag k rfl i j | rintro e ag ⟨k,rfl,i,j⟩
 have x:=qQ j;cases bm with
 | true =>
  have r:decide (k≥0)=false:=zN (λh=>by have:=i.1 h;cases this);have I:k<0:=by have:=of_decide_eq_false r;omega
  clear i j r;go_wp2_with fail;go_ret;exact⟨by simp;omega,x.q⟩
 | false =>
  have r:k≥0:=i.2 rfl;clear i j;go_wp2_with fail;go_ret;exact⟨by simp,x.q⟩
end Go.Proofs.YtabmnaaidfpmcaaGreatDoor
end
section
namespace ae
open J (Node)
theorem tm(ds:List (List Int)):∀(ss aa:List Int) (N:List Node) (s a:Int),ss.length=aa.length->cz ds N (ss++[s]) (aa++[a])=((full (cz ds N ss aa).1 s (ds.getD a.toNat [])).1,(cz ds N ss aa).2++[(full (cz ds N ss aa).1 s (ds.getD a.toNat [])).2])
 | [],[],N,s,a,_=>rfl
 | [],_::_,N,s,a,h=>by simp at h
 | _::_,[],N,s,a,h=>by simp at h
 | t::ss,b::aa,N,s,a,h=>by
  show((cz ds (full N t (ds.getD b.toNat [])).1 (ss++[s]) (aa++[a])).1,_::(cz ds (full N t (ds.getD b.toNat [])).1 (ss++[s]) (aa++[a])).2)=_;rw[tm ds ss aa _ s a (by simpa using h)];rfl
theorem Cq(ds:List (List Int))(N:List Node){s:List Int}(i:k<s.length)(j:k<aa.length):cz ds N (s.take (k+1)) (aa.take (k+1))=((full (cz ds N (s.take k) (aa.take k)).1 s[k] (ds.getD aa[k].toNat [])).1,(cz ds N (s.take k) (aa.take k)).2++[(full (cz ds N (s.take k) (aa.take k)).1 s[k] (ds.getD aa[k].toNat [])).2]):=by
 rw[qD i,qD j];exact tm ds _ _ N _ _ (by simp;omega)
end ae
namespace Go.Proofs.YtabmnaaidfpmcaaGreatDoor
open Go.RowKit aS
theorem au.yb{l:List Int}(h:av w g t (ints l).toArray):ai.ao w w.heap.size (some ⟨g,0,none⟩) l:=λhp =>
 ⟨g,0,rfl,h.lt,λi hi=>by rw[h.cell];simp[ints,hi]⟩
theorem au.qq{U:Nat->Prop}{N:List J.Node}{x:J.Node}(ds:List (List Int))(v s:List Int)(n:Nat)(h:au.rD base w p vO [vF,vo,.slice DA ds.length dc,vp] U N val x (ints v).toArray (ints s).toArray gv gs AD cD d)(bU:v.length=n)(a4:s.length=n)(aV:x.a.length=n)(di:n<=512)(bA:∀W,Below base w W->af.bu W base DA ds)(bF:∀q∈ds,au.eL q)(bE:base<=w.heap.size)(bD:∀a∈x.a,0<=a/\a<(ds.length:Int))(bS:∀q∈s,aY.In64 q)(bL:x.o.k≠2/\x.o.k≠7/\x.o.k≠3/\x.o.k≠4/\x.o.k≠5/\x.o.k≠16/\x.o.k≠6/\x.o.k≠8/\x.o.k≠18/\x.o.k≠19):Calls Tryz.prog 24 #[.pointer (some ⟨p,0,none⟩),val,.slice (some ⟨gv,0,none⟩) n n,.slice (some ⟨gs,0,none⟩) n n,.slice AD d.length cD] w λe w'=>e=.returned (.int .i64 (ae.bO ds N x v s d).2)/\au.T base w w' p vO [vF,vo,.slice DA ds.length dc,vp] (λb=>U b\/b=gs) (ae.bO ds N x v s d).1:=by
 obtain⟨cJ,cO,cK,cL,cM,cG,cN,cP,cH,cI⟩:=bL;have aN:=qQ (show ae.bO ds N x v s d=if s.all (λk=>decide (k<0))then(N,-1)else ae.add (ae.cz ds N s x.a).1 x.o (ae.cz ds N s x.a).2 by
  unfold ae.bO;rw[qV (by omega),qV (by omega),qV (by omega),qV (by omega),qV (by omega),qV (by omega),qV (by omega)])
 obtain⟨dm,v2,v3,v4,v5,v6,rfl,bZ,s2,b1,b3,b5,b6⟩:=h.dQ;have X:=qQ (qZ bZ (qZ s2 (qZ b1 (qZ b3 (qZ b5 b6)))));obtain⟨a9,bq,rfl,_⟩:=bZ;obtain⟨dp,br,rfl,_⟩:=s2;obtain⟨a_,bt,rfl,_⟩:=b1;obtain⟨a',bv,rfl,_⟩:=b3;obtain⟨bb,bw,rfl,_⟩:=b5;obtain⟨b7,cx,rfl,bJ,_⟩:=b6;have cr:=qQ (show ∀W,Below base w W->af.bd W base (.agg #[.int .i64 x.o.k,.slice a9 x.o.I.length bq,.slice dp x.o.a.length br,.slice a_ x.o.l.length bt,.slice a' x.o.h.length bv,.slice bb x.o.s.length bw,.int .i64 x.o.v]) x.o from
  λW y=>af.bd.below (w:=w) ⟨_,_,_,_,_,rfl,X.q.1,X.q.2.1,X.q.2.2.1,X.q.2.2.2.1,X.q.2.2.2.2.1⟩ y)
 have b9:=qQ (λW (b:Below base w W)=>bJ.below b);rw[aV];obtain⟨ak,cF,a6,b0,dl⟩:=b8 w 60 #[.int .i64 x.o.k,.slice a9 x.o.I.length bq,.slice dp x.o.a.length br,.slice a_ x.o.l.length bt,.slice a' x.o.h.length bv,.slice bb x.o.s.length bw,.int .i64 x.o.v,.slice b7 n cx];have c5:=qQ h;have dg:=h.dL.lt;obtain⟨bg,bc,be,O⟩:=cV h.g (b0.mono bE) b0 (show au.W base ak p vO [vF,vo,.slice DA ds.length dc,vp] U N from h.a.c9 (ch.of (U:=λ_=>False) b0) (λb h=>h.elim));obtain⟨c_,bo,aP,b',ci,bh⟩:=fq (au.gq.same O.q (qK _ _)) (au.gL h.t bc.q) (show ¬U gs/\gs≠p/\gs<ak.heap.size from⟨h.g.1,h.g.2.1,by omega⟩) (λW M (aU:au.G base ak W p vO [vF,vo,.slice DA ds.length dc,vp] U gs M)=>aU.aL a6 (λhu=>absurd (h.a.own _ hu).2.1 (pN _)) (λe=>absurd h.a.lt (by omega)) (λe=>by omega)) (λW M (aU:au.G base ak W p vO [vF,vo,.slice DA ds.length dc,vp] U gs M)=>bc.q.trans (au.G.below O.q h.g.2.2.1 aU)) (h.dL.go b0);obtain⟨cp,cd,aE⟩:=aK h.n h.f (au.yi (some ⟨gs,0,none⟩) n s ak.heap.size ak (qX _) (by omega) (au.yb bh.q));rw[a4]at aE;have cC:=λi=>a6.cell i
 have cT:(x.o.k == 2)=false:=by simpa using cJ
 have cW:(x.o.k == 7)=false:=by simpa using cO
 have cY:(x.o.k == 3)=false:=by simpa using cK
 have cZ:(x.o.k == 4)=false:=by simpa using cL
 have c0:(x.o.k == 5)=false:=by simpa using cM
 have c1:(x.o.k == 16)=false:=by simpa using cG
 have c2:(x.o.k == 6)=false:=by simpa using cN
 have c3:(x.o.k == 8)=false:=by simpa using cP
 have c4:(x.o.k == 18)=false:=by simpa using cH
 have cU:(x.o.k == 19)=false:=by simpa using cI
 obtain⟨bm,bB⟩:∃bm,s.all (λk=>decide (k<0))=bm:=⟨_,rfl⟩;rw[bB]at aE aN;obtain⟨S,aF,cb⟩:=aK (qZ bU (qZ a4 aV)) (qZ bF (qZ bD bS)) bA;clear h a6 b0 bB bU a4 aV bF bD bS bA bJ;go_enter func24,ntmps24;go_wp2_with (with_reducible refine aE.q.mono ?_)
 first | rintro e ag rfl V | rintro e ag ⟨rfl,V⟩
 cases bm with
 | true =>
  have aG:=qQ (aN.q.trans (qY rfl));have cu:=qQ ((au.G.of (gs:=gs) (au.gq.same O.q V)).end be.q);clear V;go_wp2_with fail;go_ret;rw[aG.q];exact⟨rfl,cu.q⟩
 | false =>
  obtain⟨aG,cf,cj⟩:=aK (aN.q.trans (qV (by decide))) (au.G.of (gs:=gs) (au.gq.same O.q V)) (bh.q.go V);clear V cC cF cT cW cY cZ c0 c1 c2 c3 c4 cU;go_wp2_with fail;go_loopw [13,14,165] (λ_ _ a7 wr=>∃(k:Nat) (M:List J.Node) (L:List Int),a7=.int .i64 (k:Int)/\k<=n/\ae.cz ds N (s.take k) (x.a.take k)=(M,L)/\L.length=k/\M.length<=N.length+k/\(∀q∈L,aY.In64 q)/\au.G base ak wr p vO [vF,vo,.slice DA ds.length dc,vp] U gs M/\av wr gs 3 (ints (L++s.drop k)).toArray) (λ_ _ a7 _=>n-(intOf a7).toNat)
  case atStart=>exact⟨0,N,[],rfl,by omega,rfl,rfl,by omega,λq h=>by simp at h,cf.q,by rw[vV,vP];exact cj.q⟩
  obtain⟨k,M,L,rfl,bL,bG,bN,dh,bK,je,aI⟩:=hrel;obtain⟨D,Q,hH⟩:=aK je aI (qZ bG (qZ bN bK));clear bG bN bK je aI;have c':=cp.q;have aW:=ci.q _ _ D.q;have dk:=aW.size;have az:base<=wr.heap.size:=qJ bE (by
   obtain⟨_,_,cy,_⟩:=D.q;have:=cy.size;omega)
  have aB:=qQ aW;have bf:=qQ (b'.q _ _ D.q);clear aW;by_cases cE:k<n
  .have ao:k<s.length:=by have:=S.q.2.1;omega
   have a2:k<x.a.length:=by have:=S.q.2.2;omega
   have r:=ae.Cq ds N ao a2;rw[hH.q.1]at r;have ah:s.drop k=s[k]::s.drop (k+1):=zX ao;have bT:=aF.q.2.2 _ (qP ao);have aq:wr.cell? ⟨gs,k,none⟩=some (.int .i64 s[k]):=by
    have e:(L++s.drop k)[k]?=some s[k]:=by rw[zO (by have:=hH.q.2.1;omega),hH.q.2.1,xB,List.getElem?_drop,qL,qC ao]
    rw[Q.q.cell,jY];unfold ints;rw[jT,e];rfl
   generalize s[k]=Z at r ah bT aq;have IX:=qQ (qZ ah True.intro);have i1:=b2 k;have i2:(k:Int)<n:=by omega
   by_cases bP:Z<0
   .have bR:=aF.q.2.1 _ (qP a2);obtain⟨e2,bW,rfl,da,bp⟩:=b9.q wr aB.q (by omega);have a8:=bp k a2;generalize x.a[k]=bY at r bR a8;obtain⟨q,rfl⟩:∃q:Nat,bY=(q:Int):=⟨bY.toNat,by omega⟩;have ap:q<ds.length:=by omega
    obtain⟨aR,bX,rfl,db,bz⟩:=cb.q wr aB.q (by omega);obtain⟨uk,z0,E,ce,rfl,a1,aZ,a0⟩:=bz q ap;have aX:=aF.q.1 _ (qP ap);have bI:ds.getD q []=ds[q]:=by simp[ap]
    rw[xY,bI]at r;generalize ds[q]=m at r z0 a1 aZ a0 aX;have bH:ae.cz ds N (s.take (k+1)) (x.a.take (k+1))=((ae.cA M m).1,L++[(ae.cA M m).2]):=by
     rw[r];unfold ae.full;rw[qY bP]
    have aO:=qQ bH;obtain⟨d_,y,-,-⟩:=D.q;obtain⟨j1,hQ,bQ,_⟩:=y.mem;have bn:=qQ bQ;obtain⟨cQ,a3⟩:=gz ds.length;have c7:=qQ (qZ a3 True.intro);have i3:=b2 q;have i4:(q:Int)<cQ:=by omega
    rw[a3]at bn;have ca:=qQ (λW (B:Below wr.heap.size wr W)=>show W.cell? ⟨e2,bW+k,none⟩=some (.int .i64 (q:Int))/\W.cell? ⟨aR,bX+q,none⟩=some (.slice E m.length ce)from
     ⟨(B.cell (p:=⟨e2,bW+k,none⟩) (by show e2<wr.heap.size;omega)).trans a8,(B.cell (p:=⟨aR,bX+q,none⟩) (by show aR<wr.heap.size;omega)).trans z0⟩)
    have cq:=qQ (λW (j:Below wr.heap.size wr W)=>au.G.step O.q bg.q.2.2.1 D.q j bo.q aP.q (λd_ y a5=>au.mq E ce m W y ((a1.below (j.mono az)).up (qJ az j.size)) ⟨aZ,a0⟩ aX (by omega) a5));have dj:=au.lT M m;clear r bH ah a8 bp bz z0 a1 aZ a0 aX bI bQ y bR a3 ap aq;have aq:wr.cell? ⟨gs,k,none⟩=some (.int .i64 Z):=by
     have e:(L++s.drop k)[k]?=some Z:=by rw[zO (by have:=hH.q.2.1;omega),hH.q.2.1,xB,IX.q.1];rfl
     rw[Q.q.cell,jY];unfold ints;rw[jT,e];rfl
    go_wp2_with fail;clear aq;have aJ:=λW (B:Below wr.heap.size wr W)=>qZ (λi=>(bn.q.go B).cell i) (qZ (λi=>(bf.q.go B).cell i) (ca.q W B))
    refine gx 14 (λcB=>?_);refine e5 0 172 ?_;refine e5 1 173 ?_;try simp only[Act.put,bj,bk,bl]
    refine h_ (l:=[_,_,_]) [(2,174,[]),(3,175,[]),(4,176,[1]),(5,177,[2]),(6,178,[3]),(7,179,[]),(8,180,[5]),(9,181,[]),(10,182,[6,7]),(11,183,[8]),(12,184,[4,9]),(13,185,[10])] [14,15,16] [.eq _,.eq _,.eq _,.eq _,.eq _,.eq _,.eq _,.eq _,.eq _,.eq _,.eq _,.eq _]
     (λW=>Below wr.heap.size wr W) (qK _ _).drew ((fr)<|(fr)<|(fr)<|(fr)<|(fr)<|(fr)<|(fr)<|(fr)<|(fr)<|(fr)<|(fr)<|(fr)<|fg) ?_ (λ_ _ h aT=>aA h aT)
    intros;rename_i W j _ _ _ _ _ _ _ _ _ _ _ _;subst_vars;have aD:=qQ (cq.q W j);have c6:=qQ (Q.q.go j);clear aJ j cB;go_wp2_with (with_reducible refine aD.q.mono ?_);rintro e aC ⟨rfl,Y,bM⟩;have aQ:=qQ (bM _ _ Q.q);have hlen:(L++s.drop k).length=n:=by rw[qW,qS,hH.q.2.1,S.q.2.1];omega
    have df:=aQ.q.frozen k;obtain⟨u0,hu⟩:∃u,aC.cell? ⟨gs,k,none⟩=some u:=⟨_,(aQ.q.cell k).trans (vW (by rw[jA,cn,hlen];exact cE))⟩;obtain⟨aw,bV⟩:=gz (aC.setCell ⟨gs,k,none⟩ (.int .i64 (ae.cA M m).2));have cg:=qQ (bV▸au.G.set Y aP.q k (.int .i64 (ae.cA M m).2));have cl:=qQ (show av aw gs 3 (ints ((L++[(ae.cA M m).2])++s.drop (k+1))).toArray by
     rw[<-bV];have h:=aQ.q.bs k (.int .i64 (ae.cA M m).2);rw[ints_set]at h;have e:(L++s.drop k).set k (ae.cA M m).2=(L++[(ae.cA M m).2])++s.drop (k+1):=by
      rw[IX.q.1,jZ k _ (by have:=hH.q.2.1;omega),hH.q.2.1,xB,zE];rfl
     rwa [e]at h)
    clear Y bM hlen;go_wp2_with fail;go_roundw
    case rel=>exact⟨k+1,_,_,by go_num,by omega,aO.q,by rw[qW,hH.q.2.1];rfl,by omega,λq hq=>by
     rcases List.mem_append.1 hq with h | h
     .exact hH.q.2.2 q h
     rw[List.mem_singleton.1 h];exact⟨by omega,by omega⟩,cg.q,cl.q⟩
    case measure=>simp[intOf];omega
   have aO:=qQ (show ae.cz ds N (s.take (k+1)) (x.a.take (k+1))=(M,L++[Z]) by
     rw[r];unfold ae.full;rw[qV bP])
   clear r ah;go_wp2_with fail;go_roundw
   case rel=>exact⟨k+1,M,L++[Z],by go_num,by omega,aO.q,by rw[qW,hH.q.2.1];rfl,by omega,λq hq=>by
    rcases List.mem_append.1 hq with h | h
    .exact hH.q.2.2 q h
    .rw[List.mem_singleton.1 h];exact bT,D.q,by
    have h:=Q.q;rw[IX.q.1]at h;rw[zE];exact h⟩
   case measure=>simp[intOf];omega
  obtain rfl:n=k:=by omega
  have co:=qQ (show ae.cz ds N s x.a=(M,L) by
   have h:=hH.q.1
   rwa [qT (by rw[S.q.2.1];exact qX _),qT (by rw[S.q.2.2];exact qX _)]at h)
  have cm:=qQ (show av wr gs 3 (ints L).toArray by
   have h:=Q.q
   rwa [kQ (by rw[S.q.2.1];exact qX _),xM]at h)
  have b_:=qQ (λW (j:Below wr.heap.size wr W)=>au.G.step O.q bg.q.2.2.1 D.q j bo.q aP.q (λd_ y a5=>au.add _ _ x.o L W y ((cr.q W (aB.q.trans (j.mono az))).up (qJ az j.size)) (af.dY (n:=n) (cm.q.go j) hH.q.2.1 (by omega)) cd.q ⟨by rw[hH.q.2.1];omega,hH.q.2.2⟩ (by omega) a5));go_wp2_with fail;have aJ:=λW (B:Below wr.heap.size wr W)=>qZ (λi=>(bf.q.go B).cell i) True.intro
  refine aH (l:=[_,_]) [(0,189,[]),(1,190,[0]),(2,191,[1]),(3,192,[]),(4,193,[3]),(5,194,[])] [6,7] [.eq _,.eq _,.eq _,.eq _,.eq _,.eq _]
   (λW=>Below wr.heap.size wr W) (qK _ _).drew ((fr)<|(fr)<|(fr)<|(fr)<|(fr)<|(fr)<|fg) ?_ (λ_ _ h aT=>aA h aT)
  intros;rename_i W j _ _ _ _ _ _;subst_vars;have aD:=qQ (b_.q W j);clear aJ j;go_wp2_with (with_reducible refine aD.q.mono ?_);rintro e aC ⟨rfl,Y,-⟩;have cw:=qQ (Y.end be.q);clear Y;go_wp2_with fail;go_ret;rw[aG.q,co.q];exact⟨rfl,cw.q⟩
theorem au.oA(h:v.length=2):∃a b,v=[a,b]:=by
 match v,h with
 | [a,b],_=>exact⟨a,b,rfl⟩
theorem au.Aj(h:v.length=3):∃a b c,v=[a,b,c]:=by
 match v,h with
 | [a,b,c],_=>exact⟨a,b,c,rfl⟩
theorem au.Ff{U:Nat->Prop}{N:List J.Node}{x:J.Node}(ds:List (List Int))(v s:List Int)(n:Nat)(h:au.rD base w p vO [vF,vo,.slice DA ds.length dc,vp] U N val x (ints v).toArray (ints s).toArray gv gs AD cD d)(B:v.length=n)(y:s.length=n)(Q:x.a.length=n)(Y:n<=512)(O:∀W,Below base w W->af.bu W base DA ds)(X:∀q∈ds,au.eL q)(V:base<=w.heap.size)(S:∀a∈x.a,0<=a/\a<(ds.length:Int))(E:∀q∈v,aY.In64 q)(r:∀q∈s,aY.In64 q)(i:J.right x.o.k n=0):Calls Tryz.prog 24 #[.pointer (some ⟨p,0,none⟩),val,.slice (some ⟨gv,0,none⟩) n n,.slice (some ⟨gs,0,none⟩) n n,.slice AD d.length cD] w λe w'=>e=.returned (.int .i64 (ae.bO ds N x v s d).2)/\au.T base w w' p vO [vF,vo,.slice DA ds.length dc,vp] (λb=>U b\/b=gs) (ae.bO ds N x v s d).1:=by
 unfold J.right at i;by_cases D:x.o.k=2
 .rw[qY D]at i;have m:n=0:=by
   by_cases e:n=0
   .exact e
   rw[qV e]at i;cases i
  subst m;obtain rfl:=xL B;obtain rfl:=xL y;exact au.C_ ds h trivial trivial D
 rw[qV D]at i;by_cases M:x.o.k=3\/x.o.k=4\/x.o.k=5\/x.o.k=6\/x.o.k=7\/x.o.k=16\/x.o.k=18\/x.o.k=19
 .rw[qY M]at i;have m:n=2:=by
   by_cases e:n=2
   .exact e
   rw[qV e]at i;cases i
  subst m;obtain⟨v0,v1,rfl⟩:=au.oA B;obtain⟨c_,s1,rfl⟩:=au.oA y;have j:aY.In64 v0/\aY.In64 v1:=⟨E _ (by simp),E _ (by simp)⟩;have az:aY.In64 c_/\aY.In64 s1:=⟨r _ (by simp),r _ (by simp)⟩;rcases M with k | k | k | k | k | k | k | k
  .exact au.IH ds h j az k
  .exact au.II ds h j az k
  .exact au.BX ds 5 h j az k (.inl rfl)
  .exact au.IJ ds h j az k
  .exact au.IG ds 7 h j az k rfl
  .exact au.BX ds 16 h j az k (.inr rfl)
  .exact au.Ac ds 18 h j az k (.inl rfl)
  exact au.Ac ds 19 h j az k (.inr rfl)
 rw[qV M]at i;by_cases I:x.o.k=8
 .rw[qY I]at i;have m:n=3:=by
   by_cases e:n=3
   .exact e
   rw[qV e]at i;cases i
  subst m;obtain⟨v0,v1,v2,rfl⟩:=au.Aj B;obtain⟨c_,s1,s2,rfl⟩:=au.Aj y;exact au.IK ds h (E _ (by simp)) ⟨r _ (by simp),r _ (by simp)⟩ I
 exact au.qq ds v s n h B y Q Y O X V S r ⟨D,by omega,by omega,by omega,by omega,by omega,by omega,I,by omega,by omega⟩
def au.F(D:Nat->Prop)(base p:Nat)(vO:Value)(rest:List Value)(M:List J.Node)(W:World):Prop:=∃U,au.W base W p vO rest U M/\∀b,D b->base<=b/\b<W.heap.size/\¬U b/\b≠p
section
variable {D:Nat->Prop} {base p gs:Nat} {vO:Value} {rest:List Value} {M hO:List J.Node} {W W2:World}
theorem au.F.below(h:au.F D base p vO rest M W)(i:Below W.heap.size W W2):au.F D base p vO rest M W2:=by
 obtain⟨U,j,m⟩:=h;exact⟨U,j.c9 (ch.of (U:=λ_=>False) i) (λb h=>h.elim),λb ar=>by
  obtain⟨q,r,x,y⟩:=m b ar;exact⟨q,zW r i.size,x,y⟩⟩
theorem au.F.hi(h:au.F D base p vO rest M W):base<=W.heap.size:=by
 obtain⟨U,i,-⟩:=h;exact qJ i.low (zG i.lt)
theorem au.F.set(h:au.F D base p vO rest M W)(m:D gs)(i:Nat)(v:Value):au.F D base p vO rest M (W.setCell ⟨gs,i,none⟩ v):=by
 obtain⟨U,r,j⟩:=h;have q:=ch.set W ⟨gs,i,none⟩ v;exact⟨U,r.c9 q (λb x=>by have e:b=gs:=x;rw[e];exact⟨(j gs m).2.2.1,(j gs m).2.2.2⟩),λb ar=>by
  obtain⟨y,B,E,I⟩:=j b ar;exact⟨y,zW B q.size,E,I⟩⟩
theorem au.F.G6{D':Nat->Prop}(h:au.F D base p vO rest M W)(ar:∀b,D' b->D b):au.F D' base p vO rest M W:=by
 obtain⟨U,i,j⟩:=h;exact⟨U,i,λb m=>j b (ar b m)⟩
theorem au.F.mem(h:au.F D base p vO rest M W):∃j1 hQ,av W p 54 (j1::vO::hQ::rest).toArray:=by
 obtain⟨U,i,m⟩:=h;obtain⟨j1,hQ,j,_⟩:=i.mem;exact⟨j1,hQ,j⟩
theorem au.F.call{f:FuncId}{args:Array Value}(h:au.F D base p vO rest M W)(y:∀d_,au.W base W p vO rest d_ M->Calls Tryz.prog f args W λe w'=>e=.returned r/\au.T base W w' p vO rest d_ hO):Calls Tryz.prog f args W λe w'=>e=.returned r/\au.F D base p vO rest hO w'/\(∀g t cs,D g->av W g t cs->av w' g t cs)/\Below base W w':=by
 have B:=h.hi;obtain⟨U,i,j⟩:=h;refine(y U i).mono ?_;rintro e w' ⟨rfl,d_,E,q,I⟩;refine⟨rfl,⟨d_,E,λb ar=>?_⟩,λg t cs ar x=>q.aL x (λhu=>hu.elim (j g ar).2.2.2 (j g ar).2.2.1),q.below (λk m=>?_) B⟩
 .obtain⟨N,z2,z3,z4⟩:=j b ar;exact⟨N,zW z2 q.size,λhu=>(I b hu).elim z3 (λh=>by omega),z4⟩
 rcases m with rfl | m
 .exact i.low
 exact(i.own k m).1
theorem au.F.call2{f:FuncId}{args:Array Value}(h:au.F D base p vO rest M W)(ah:Below W.heap.size W W2)(O:W.heap.size<=gs)(B:∀d_,au.W base W2 p vO rest d_ M->(∀b,d_ b->b<W.heap.size)->p<W.heap.size->Calls Tryz.prog f args W2 λe w'=>e=.returned r/\au.T base W2 w' p vO rest (λb=>d_ b\/b=gs) hO):Calls Tryz.prog f args W2 λe w'=>e=.returned r/\au.F D base p vO rest hO w'/\(∀g t cs,D g->av W2 g t cs->av w' g t cs)/\Below base W2 w':=by
 have Q:=h.hi;obtain⟨U,i,x⟩:=h;have E:=ah.size;refine(B U (i.c9 (ch.of (U:=λ_=>False) ah) (λb h=>h.elim)) (λb j=>(i.own b j).2.1) i.lt).mono ?_;rintro e w' ⟨rfl,d_,I,q,N⟩;refine⟨rfl,⟨d_,I,λb ar=>?_⟩,λg t cs ar j=>q.aL j (λhu=>?_),q.below (λk m=>?_) (by omega)⟩
 .obtain⟨y,z2,z3,z4⟩:=x b ar;exact⟨y,zW (zW z2 E) q.size,λhu=>by
   rcases N b hu with (h | h) | h
   .exact z3 h
   .omega
   omega,z4⟩
 .obtain⟨y,z2,z3,z4⟩:=x g ar;rcases hu with h | h | h
  .exact z4 h
  .exact z3 h
  omega
 rcases m with rfl | m | rfl
 .exact i.low
 .exact(i.own k m).1
 omega
theorem au.F.more{N:Nat}(h:au.F D base p vO rest M W)(E:W.heap.size<=N)(j:Below W.heap.size W W2)(q:N<W2.heap.size):au.F (λb=>D b\/b=N) base p vO rest M W2:=by
 have I:=h.hi;obtain⟨U,i,m⟩:=h;refine⟨U,i.c9 (ch.of (U:=λ_=>False) j) (λb h=>h.elim),λb ar=>?_⟩;rcases ar with ar | rfl
 .obtain⟨r,x,y,B⟩:=m b ar;exact⟨r,zW x j.size,y,B⟩
 exact⟨by omega,q,λhu=>by have:=(i.own b hu).2.1;omega,λe=>by have:=i.lt;omega⟩
end
theorem au.AJ(val:Value)(g:J.bh)(B:Nat)(w:World)(ah:B<=w.heap.size)(U:b4.fE g)(h:b4.cx w B val g)(aH:g.o.length<=4194304)(S:∀x∈g.n,au.np x.o)(V:aY.gI w.heap.size w)(hw:ae.aF g≠0):Calls Tryz.prog 6 #[val] w λe w'=>e=.returned (.tuple #[.agg #[.slice none 0 0,.slice none 0 0],.int .i64 (ae.aF g)])/\Below w.heap.size w w':=by
 have az:=qQ (h.bI ah);obtain⟨A,c,vo,rfl,-,-,-,⟨O,co,rfl,-⟩⟩:=h;obtain⟨ak,aO,Y,b0,-⟩:=b8 w 25 #[.slice A g.n.length c,.slice O g.o.length co];obtain⟨ag,aP,Z,r,-⟩:=b8 ak 25 #[.slice none 0 0,.slice none 0 0];have m:=aA b0 r;obtain⟨D,ao,E,I⟩:=cV (au.uy _ g ag.heap.size ag (qX _) U (az.q ag m) aH S (λW aD=>V W (aA m aD))) m (qZ (Y.go r) Z) b0.size;have aE:=λi=>E.q.1.cell i
 obtain⟨M,N⟩:=gz (ae.aF g);rw[N]at D hw |-;have aQ:(M != 0)=true:=by simpa using hw
 clear Y Z b0 r m V S U N;go_enter func6,ntmps6;go_wp2_with (with_reducible refine D.q.mono ?_);rintro e aC ⟨y,aI⟩;rcases aI with ⟨-,rfl⟩ | ⟨aB,-⟩
 .have ap:=qQ (aA ao.q y);have j:=E.q.2.go y;obtain⟨wf,X⟩:=gz ((aC.setCell ⟨ak.heap.size,0,none⟩ (.slice none 0 0)).setCell ⟨ak.heap.size,1,none⟩ (.slice none 0 0));have Q:av wf ak.heap.size 25 #[.slice none 0 0,.slice none 0 0]:=by rw[<-X];exact(j.bs 0 (.slice none 0 0)).bs 1 (.slice none 0 0)
  have aq:=qQ (show Below w.heap.size w wf by rw[<-X];exact(ap.q.setCell (p:=⟨ak.heap.size,0,none⟩) I.q _).setCell (p:=⟨ak.heap.size,1,none⟩) I.q _);have aJ:=λi=>j.cell i
  have aL:=λi=>j.frozen i
  have aK:=λi=>(j.bs 0 (.slice none 0 0)).cell i
  have aN:=λi=>(j.bs 0 (.slice none 0 0)).frozen i
  have aG:=λi=>Q.cell i
  clear y j Q aE;go_wp2_with fail;refine qR (v:=.tuple #[.agg #[.slice none 0 0,.slice none 0 0],.int .i64 M]) (by simp[results,results6,go_sem,aG]) rfl ⟨rfl,aq.q⟩
 exact absurd aB hw
end Go.Proofs.YtabmnaaidfpmcaaGreatDoor
end
end
