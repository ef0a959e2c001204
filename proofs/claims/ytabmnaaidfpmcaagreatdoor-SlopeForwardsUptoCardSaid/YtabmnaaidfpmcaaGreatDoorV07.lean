/-
  ViewS, ViewT, ArrPlain2, ArrA, ReadsV, ArrB. Conditions: where the theorems name them.
-/
import Derived.Test.YtabmnaaidfpmcaaGreatDoorV06
import Derived.Deep.QuietTactic
import Derived.BigQuiet
import Derived.RegionTactic
import Derived.Laws.OwnMore
import Derived.Lib.AppendZerosOnto
import Derived.Lib.AppendZeros
set_option linter.unusedVariables false
set_option maxRecDepth 100000
set_option maxHeartbeats 16000000
open Go.Proofs.Tryz
variable {a:Go.Act}{l:List Int}{A:Option Go.Addr}{bm:Prop}{v:Go.Value}{w:Go.World}
section
namespace Go.Proofs.YtabmnaaidfpmcaaGreatDoor
open Go.RowKit aS
attribute [local go_sem ↓] Go.wp_at_zero Go.wp_at_succ
theorem _root_.JU{G:Prop}(h:G:=by
 exact⟨(eZ.q.below.cell (p:=⟨w.heap.size,0,none⟩) (by simp;omega)).trans gQ,trivial⟩
 ):G:=h
theorem _root_.QR{G:Prop}(h:G:=by
 refine fT 3 (λK aI=>?_);go_simp;refine(sW.q _ ea.q.below).mono ?_;rintro e nV ⟨di,rfl,dP,aE⟩;obtain⟨rr,m1,rfl,y3⟩:=ai.aZ dP;have eZ:=qQ (ea.q.nK dP aE);clear dP aE;try go_simp
 refine aI.q _ _ ?_ (λa7=>?_)
 .exact JU
 clear aI K ax;have ax:=a7;clear a7;try simp only[bj,bk,bl]
 refine e5 7 50 ?_;try simp only[Act.put,bj,bk,bl]
 refine eW [_] 9 [] ?_;have cZ:=qQ (eZ.q.g' _ rfl);have IC:=cZ.q.2.cell 0;have nk:=cZ.q.2.cell 1;have ID:=cZ.q.2.cell 2;have Bu:=cZ.q.2.frozen 0;have Bv:=cZ.q.2.frozen 1;have Bw:=cZ.q.2.frozen 2;have ub:=cZ.q.2.lt;have cb:=qQ (eZ.q.cr 0 v.st);clear ax;go_wp2_with fail
 go_meet
 exact⟨_,_,_,_,rfl,cb.q⟩
 ):G:=h
theorem _root_.QE{G:Prop}(h:G:=by
 refine fT 6 (λK aI=>?_);go_simp;have eZ:=qQ (ea.q.make I.length jf);refine aI.q _ _ ?_ (λa7=>?_)
 .exact JU
 clear aI K ax;have ax:=a7;clear a7;try simp only[bj,bk,bl]
 generalize W2.alloc (.cells (ints (List.replicate I.length 0)).toArray 3)=nV at eZ ax |-;refine e5 7 50 ?_;try simp only[Act.put,bj,bk,bl]
 refine eW [_] 9 [] ?_;have cZ:=qQ (eZ.q.g' _ rfl);have IC:=cZ.q.2.cell 0;have nk:=cZ.q.2.cell 1;have ID:=cZ.q.2.cell 2;have Bu:=cZ.q.2.frozen 0;have Bv:=cZ.q.2.frozen 1;have Bw:=cZ.q.2.frozen 2;have ub:=cZ.q.2.lt;have cb:=qQ (eZ.q.cr 0 v.st);clear ax;go_wp2_with fail
 go_meet
 exact⟨_,_,_,_,rfl,cb.q⟩
 ):G:=h
theorem _root_.QI{G:Prop}(h:G:=by
 refine e5 7 50 ?_;try simp only[Act.put,bj,bk,bl]
 refine fT 8 (λK aI=>?_);go_simp;have eZ:=qQ ea.q.ln;refine aI.q _ _ ?_ (λa7=>?_)
 .exact JU
 clear aI K ax;have ax:=a7;clear a7;try simp only[bj,bk,bl]
 generalize W2.alloc (.cells #[.int .i64 0,.slice none 0 0,.slice none 0 0] 159)=nV at eZ ax |-;refine eW [_] 9 [] ?_;have cZ:=qQ (eZ.q.g' _ rfl);have IC:=cZ.q.2.cell 0;have nk:=cZ.q.2.cell 1;have ID:=cZ.q.2.cell 2;have Bu:=cZ.q.2.frozen 0;have Bv:=cZ.q.2.frozen 1;have Bw:=cZ.q.2.frozen 2;have ub:=cZ.q.2.lt;have cb:=qQ (eZ.q.cr 0 v.st);clear ax;go_wp2_with fail
 go_meet
 exact⟨_,_,_,_,rfl,cb.q⟩
 ):G:=h
theorem _root_.JW{G:Prop}(h:G:=by
 exact λb off e hp=>by have:=j4.q.2.2.2 b off e hp;omega
 ):G:=h
theorem _root_.Qv{G:Prop}(h:G:=by
 rw[bR.q];refine ai.kf ⟨aQ,dM,bt,bn,rfl,?_,?_,cb.q.cW,cb.q.cX,j4.q.2.1,j4.q.2.2.1⟩ ?_ ?_
 .exact(cb.q.i1.hj (λb off e hp=>by have:=(cb.q.g1 b off e hp).1;omega) _ _ _).up (by simp)
 .exact(j4.q.1.hj (λb off e hp=>by have:=j4.q.2.2.2 b off e hp;omega) _ _ _).up (by simp)
 .exact λb off e hp=>by have:=(cb.q.g1 b off e hp).1;omega
 .exact JW
 ):G:=h
theorem _root_.Qi{G:Prop}(h:G:=by
 go_wp2_with fail;refine qR (v:=.tuple #[.agg #[.int .i64 0,.slice none 0 0,.slice none 0 0],.int .i64 6]) (by simp[results,results158,go_sem,ek,en,eo]) rfl ⟨?_,ai.three bU.q (xV _) _ _ _⟩;rw[bR.q];exact ai.d' _ _ _ _
 ):G:=h
theorem _root_.ZD{G:Prop}(h:G:=by
 first
  | exact⟨⟨k+1,by omega,by go_num,cj.q,IY.q⟩,by simp[intOf];omega⟩
  | (go_roundw
     case rel=>exact⟨k+1,by omega,by go_num,cj.q,IY.q⟩
     case measure=>simp[intOf];omega)
 ):G:=h
theorem _root_.XS{G:Prop}(h:G:=by
 exact⟨(cY.q.below.cell (p:=⟨w.heap.size,0,none⟩) (by simp;omega)).trans gQ,trivial⟩
 ):G:=h
theorem _root_.XT{G:Prop}(h:G:=by
 exact⟨(ea.q.below.cell (p:=⟨w.heap.size,0,none⟩) (by simp;omega)).trans gQ,trivial⟩
 ):G:=h
theorem _root_.JD{G:Prop}(r:bm)(f:dS bm->G:=by
 intro bb;refine(hD.q _ bp.q).mono ?_;rintro e ag ⟨rfl,bV⟩;rw[dk.q];have oO:=((av.new w 159 #[.int .i64 v.st,.slice A v.I.length c,.slice bK v.s.length c']).alloc (.cells #[.int .i64 0,.slice none 0 0,.slice none 0 0] 159)).below bV (by simp;omega);have cw:=(ai.oD w (.cells #[.int .i64 v.st,.slice A v.I.length c,.slice bK v.s.length c'] 159) 159 #[.int .i64 0,.slice none 0 0,.slice none 0 0]).below bV (by simp);obtain⟨cd,g_,bU⟩:=aK oO cw (aA bp.q bV);have ga:w.heap.size+1<ag.heap.size:=by have:=bV.size;simp at this;omega
 have gQ:ag.cell? ⟨w.heap.size,0,none⟩=some (.int .i64 v.st):=oO.cell 0;have fp:ag.cell? ⟨w.heap.size,1,none⟩=some (.slice A v.I.length c):=oO.cell 1;have b':ag.cell? ⟨w.heap.size,2,none⟩=some (.slice bK v.s.length c'):=oO.cell 2;have ek:ag.cell? ⟨w.heap.size+1,0,none⟩=some (.int .i64 0):=cw.cell 0;have en:ag.cell? ⟨w.heap.size+1,1,none⟩=some (.slice none 0 0):=cw.cell 1;have eo:ag.cell? ⟨w.heap.size+1,2,none⟩=some (.slice none 0 0):=cw.cell 2;have f0:=cw.frozen 0;have f1:=cw.frozen 1;have f2:=cw.frozen 2;clear bV oO cw;revert ag cd g_ bU ga gQ fp b' ek en eo f0 f1 f2;exact bb.o
 ):G:=f ⟨r⟩
theorem _root_.JN{G:Prop}(r:bm)(f:dS bm->G:=by
 intro bb;have cb:=qQ h3;have j4:=qQ (qZ nC (qZ rS (qZ rV ma)));have si:cN.cell? ⟨a8,0,none⟩=some (.int .i64 v.st):=h3.aL.cell 0;have cy:cN.cell? ⟨a8,1,none⟩=some (.slice aQ I.length dM):=h3.aL.cell 1;have bE:cN.cell? ⟨a8,2,none⟩=some (.slice bt (R.dJ v I p p.length).length bn):=h3.aL.cell 2;have ek:cN.cell? ⟨w.heap.size+1,0,none⟩=some (.int .i64 0):=fl.cell 0;have en:cN.cell? ⟨w.heap.size+1,1,none⟩=some (.slice none 0 0):=fl.cell 1;have eo:cN.cell? ⟨w.heap.size+1,2,none⟩=some (.slice none 0 0):=fl.cell 2;have f0:=fl.frozen 0;have f1:=fl.frozen 1;have f2:=fl.frozen 2;revert cb j4 si cy bE ek en eo f0 f1 f2;exact bb.o
 ):G:=f ⟨r⟩
theorem _root_.Jq{G:Prop}(r:bm)(f:dS bm->G:=by
 intro bb;have mb:=(fF.q.cell (p:=⟨b,off+k,none⟩) (by simp;omega)).trans (dt k oo);have fm:=(fF.q.cell (p:=⟨hr,dN+k,none⟩) (by simp;omega)).trans (Ht k Kh);have oq:=(fF.q.cell (p:=⟨Mj,J8+q,none⟩) (by simp;omega)).trans (h2 q y6);have Dl:=(iw.q.cell (p:=⟨w.heap.size,1,none⟩) (by simp;omega)).trans fp;have sM:=(iw.q.cell (p:=⟨w.heap.size,2,none⟩) (by simp;omega)).trans b';have y2:=R.oy v I p k;obtain⟨g2,m2,tq,zq25z,zq26z⟩:=h3.bw.form (by omega);revert mb fm oq Dl sM y2 g2 m2 tq zq25z zq26z;exact bb.o
 ):G:=f ⟨r⟩
theorem _root_.Jp{G:Prop}(r:bm)(f:dS bm->G:=by
 intro bb;have bR:=qQ (R.Db dk.q kq.q mh.q pA.q (fR.q nz));have AK:(H5 != d)=true:=by simpa using nz
 have ek:cN.cell? ⟨w.heap.size+1,0,none⟩=some (.int .i64 0):=fl.cell 0;have en:cN.cell? ⟨w.heap.size+1,1,none⟩=some (.slice none 0 0):=fl.cell 1;have eo:cN.cell? ⟨w.heap.size+1,2,none⟩=some (.slice none 0 0):=fl.cell 2;have f0:=fl.frozen 0;have f1:=fl.frozen 1;have f2:=fl.frozen 2;revert bR AK ek en eo f0 f1 f2;exact bb.o
 ):G:=f ⟨r⟩
theorem _root_.Jd{G:Prop}(r:bm)(f:dS bm->G:=by
 intro bb;have y5:=(fF.q.cell (p:=⟨MA,Kx+k,none⟩) (by simp;omega)).trans (Hz k fe);have k0:=R.il pA.q;have Ec:=R.oX k0 k fe;have Ee:=(k0 k fe).2;obtain⟨q,hq⟩:∃q:Nat,p[k]=(q:Int):=⟨p[k].toNat,by omega⟩;have ru:=qQ hq;have y6:q<I.length:=by omega
 have lx:=qQ (R.Af (I:=I) fe Kh hq);have fR:=qQ (R.GZ fe oo hq y6);revert y5 k0 Ec Ee q hq ru y6 lx fR;exact bb.o
 ):G:=f ⟨r⟩
theorem _root_.Jt{G:Prop}(r:bm)(f:dS bm->G:=by
 intro bb;refine fk (λw'=>w'.cell? ⟨a8,2,none⟩=some (.slice (some ⟨g2,0,none⟩) I.length m2)/\w'.cell? ⟨w.heap.size,2,none⟩=some (.slice (some ⟨hr,dN,none⟩) v.s.length c')/\w'.cell? ⟨hr,dN+k,none⟩=some (.int .i64 s)) 8 10 (⟨dT,t1,t2⟩) (λax=>?_);simp only[qF,qG];revert ax;exact bb.o
 ):G:=f ⟨r⟩
theorem _root_.VK{G:Prop}(r:bm)(f:dS bm->G:=by
 intro bb;obtain⟨ep,hB,bp⟩:=aK ar az ((((qK w.heap.size w).alloc (qX _) (.cells #[.int .i64 v.st,.slice A v.I.length c,.slice bK v.s.length c'] 159))).alloc (by simp) (.cells #[.int .i64 0,.slice none 0 0,.slice none 0 0] 159));revert ep hB bp;exact bb.o
 ):G:=f ⟨r⟩
theorem _root_.VY{G:Prop}(r:bm)(f:dS bm->G:=by
 intro bb;have hN:=qQ (cb.q.drewN nq);have dT:(cN.drewN nq).cell? ⟨a8,2,none⟩=some (.slice (some ⟨g2,0,none⟩) I.length m2):=by rw[<-xx.q];exact hN.q.aL.cell 2
 have Ih:=hN.q.bw.frozenAt q;have yq:=hN.q.bw.cellAt q (by rw[xx.q];omega);revert hN dT Ih yq;exact bb.o
 ):G:=f ⟨r⟩
theorem _root_.VF{G:Prop}(r:bm)(f:dS bm->G:=by
 intro bb;have iw:=qQ h3.below;have fF:=qQ (bU.q.trans (iw.q.mono bU.q.size));have xK:=qQ BF;have eU:a8<cN.heap.size:=h3.aL.lt;have Gb:ag.heap.size<=a8:=h3.low;have fl:=g_.q.below iw.q (by omega);revert iw fF xK eU Gb fl;exact bb.o
 ):G:=f ⟨r⟩
theorem _root_.VG{G:Prop}(r:bm)(f:dS bm->G:=by
 intro bb;have i1:=b2 k;have i2:(k:Int)<(p.length:Int):=by omega
 have i3:=b2 q;have i4:(q:Int)<(I.length:Int):=by omega
 have i5:(k:Int)<(v.I.length:Int):=by omega
 have i6:(k:Int)<(v.s.length:Int):=by omega
 revert i1 i2 i3 i4 i5 i6;exact bb.o
 ):G:=f ⟨r⟩
theorem _root_.Vz{G:Prop}(r:bm)(f:dS bm->G:=by
 intro bb;have kq:=qQ e8;have vy:I.length<=6:=(R.aB e8).1;have jf:I.length<=65536:=by omega
 simp only[ai.b5,e8];have sa:=qQ (λW=>dz I.length jf W);revert kq vy jf sa;exact bb.o
 ):G:=f ⟨r⟩
theorem Ca(val:Value)(v:R.V)(DA P:Option Addr)(y E:Nat)(I p:List Int)(B:Nat)(w:World)(ah:B<=w.heap.size)(h:ai.cm w B val v)(Q:ai.ao w B DA I)(hp:ai.ao w B P p)(md:I.length<=y)(aV:y<=9223372036854775807)(mp:p.length<=E)(aW:E<=9223372036854775807):Calls Tryz.prog 158 #[val,.slice DA I.length y,.slice P p.length E] w λe w'=>ai.fb 0 w w' (R.spread v I p) e/\Below w.heap.size w w':=by
 obtain⟨hD,S,U,Z⟩:=cV (λ(W:World) (aE:Below w.heap.size w W)=>jq val v B W (qJ ah aE.size) (h.below (aE.mono ah))) Q hp (λ(W:World) (aE:Below w.heap.size w W)=>er DA y I B W (by omega) (Q.below (aE.mono ah)));obtain⟨A,c,bK,c',rfl,ar,az,aO,bz,aH,aJ⟩:=h;refine VK ?_;intro ep hB bp;clear ar az hp Q;by_cases eR:R.aF v=0;rotate_left
 .have bR:=qQ (R.qu (I:=I) (l:=p) eR);have hq:(R.aF v != 0)=true:=by simpa using eR
  clear eR;go_enter func158,ntmps158;go_wp2_with fail;refine Vj ?_;intro ag bV dt eG ga;go_wp2_with fail;refine qR (v:=.tuple #[.agg #[.int .i64 0,.slice none 0 0,.slice none 0 0],.int .i64 (R.aF v)]) (by simp[results,results158,go_sem,dt]) rfl ⟨?_,ai.three (aA bp.q bV) (xV _) _ _ _⟩;exact JZ
 refine Vv ?_;intro dk z3 Ea nm;clear eR;go_enter func158,ntmps158;go_wp2_with fail;refine JD ?_;intro ag cd g_ bU ga gQ fp b' ek en eo f0 f1 f2;go_wp2_with fail;refine(Z.q _ bU.q).mono ?_;rintro e aC ⟨rfl,rfl⟩;by_cases e8:(R.size I).2=0;rotate_left
 .have bR:=qQ (R.r6 (l:=p) dk.q e8);have hq:((R.size I).2 != 0)=true:=by simpa using e8
  simp only[ai.b5];clear e8;go_wp2_with fail;refine qR (v:=.tuple #[.agg #[.int .i64 0,.slice none 0 0,.slice none 0 0],.int .i64 ((R.size I).2)]) (by simp[results,results158,go_sem,ek,en,eo]) rfl ⟨?_,ai.three bU.q (xV _) _ _ _⟩;exact JZ
 refine Vz ?_;intro kq vy jf sa;have O:=qQ (kh P E p I.length B ag (by omega) (by omega) (U.q.below (bU.q.mono ah)));have sW:=qQ (λ(W:World) (aE:Below ag.heap.size ag W)=>eM DA y I B W (by omega) (S.q.below ((aA bU.q aE).mono ah)) (by have:=aE.size;omega));clear e8;by_cases M:p.length=v.I.length;rotate_left
 .have bR:=qQ (R.kj dk.q kq.q (.inl M));have ap:((p.length:Int) != (v.I.length:Int))=true:=by simp;omega
  clear M;exact Qi
 have ap:((p.length:Int) != (v.I.length:Int))=false:=by simp;omega
 have mh:=qQ M;clear M;by_cases D:R.cB I.length p=true;rotate_left
 .have bR:=qQ (R.kj dk.q kq.q (.inr (by simpa using D)));have pA:=qQ (show R.cB I.length p=false by simpa using D);clear D;go_wp2_with fail;refine O.q.mono ?_;rintro e aC ⟨rfl,rfl⟩;rw[pA.q];exact Qi
 have pA:=qQ D;clear D;go_wp2_with fail;refine O.q.mono ?_;rintro e aC ⟨rfl,rfl⟩;rw[pA.q];clear ek en eo f0 f1 f2;go_wp2_with fail;have ak:=sa.q
 go_cut [11] (λaq aD=>∃(a8:Nat) (aQ:Option Addr) (dM:Nat) (v2:Value),aq=.pointer (some ⟨a8,0,none⟩)/\ai.hR 0 ag.heap.size a8 ag v.st aQ dM v2 I (List.replicate I.length 0) aD)
 case first =>
  refine fk (λw'=>w'.cell? ⟨w.heap.size,0,none⟩=some (.int .i64 v.st)) 9 10 (gQ) (λax=>?_);simp only[qF,qG];refine aG 0 43 ?_;refine aG 1 44 ?_;refine aG 2 45 ?_;refine aG 4 47 ?_;refine aG 5 48 ?_;try simp only[Act.put,bj,bk,bl]
  have x:=qQ (ai.Acc.start ag);generalize ag.drew=bD at x ax |-;refine w5 3 6 8 (by kernel_rfl) (bB rfl rfl (λK aI=>?_)) (bB rfl rfl (λK aI=>?_)) (bB rfl rfl (λK aI=>?_))
  .go_simp;refine(sW.q _ x.q.below).mono ?_;rintro e m ⟨di,rfl,dP,aE⟩;obtain⟨rr,m1,rfl,y3⟩:=ai.aZ dP;have cY:=qQ (x.q.nK dP aE);clear dP aE;try go_simp
   refine aI.q _ _ ?_ (λa7=>?_)
   .exact XS
   clear aI K ax;have ax:=a7;clear a7;try simp only[bj,bk,bl]
   refine gM 6 8 (by kernel_rfl) (bB rfl rfl (λK aI=>?_)) (bB rfl rfl (λK aI=>?_))
   .go_simp;have ea:=qQ (cY.q.make I.length jf);refine aI.q _ _ ?_ (λa7=>?_)
    .exact XT
    clear aI K ax;have ax:=a7;clear a7;try simp only[bj,bk,bl]
    generalize m.alloc (.cells (ints (List.replicate I.length 0)).toArray 3)=W2 at ea ax |-;exact QI
   go_simp;have ea:=qQ cY.q.ln;refine aI.q _ _ ?_ (λa7=>?_)
   .exact XT
   clear aI K ax;have ax:=a7;clear a7;try simp only[bj,bk,bl]
   generalize m.alloc (.cells #[.int .i64 0,.slice none 0 0,.slice none 0 0] 159)=W2 at ea ax |-;exact QE
  .go_simp;have cY:=qQ (x.q.make I.length jf);refine aI.q _ _ ?_ (λa7=>?_)
   .exact XS
   clear aI K ax;have ax:=a7;clear a7;try simp only[bj,bk,bl]
   generalize bD.alloc (.cells (ints (List.replicate I.length 0)).toArray 3)=m at cY ax |-;refine gM 3 8 (by kernel_rfl) (bB rfl rfl (λK aI=>?_)) (bB rfl rfl (λK aI=>?_))
   .go_simp;refine(sW.q _ cY.q.below).mono ?_;rintro e W2 ⟨di,rfl,dP,aE⟩;obtain⟨rr,m1,rfl,y3⟩:=ai.aZ dP;have ea:=qQ (cY.q.nK dP aE);clear dP aE;try go_simp
    refine aI.q _ _ ?_ (λa7=>?_)
    .exact XT
    clear aI K ax;have ax:=a7;clear a7;try simp only[bj,bk,bl]
    exact QI
   go_simp;have ea:=qQ cY.q.ln;refine aI.q _ _ ?_ (λa7=>?_)
   .exact XT
   clear aI K ax;have ax:=a7;clear a7;try simp only[bj,bk,bl]
   generalize m.alloc (.cells #[.int .i64 0,.slice none 0 0,.slice none 0 0] 159)=W2 at ea ax |-;exact QR
  go_simp;have cY:=qQ x.q.ln;refine aI.q _ _ ?_ (λa7=>?_)
  .exact XS
  clear aI K ax;have ax:=a7;clear a7;try simp only[bj,bk,bl]
  generalize bD.alloc (.cells #[.int .i64 0,.slice none 0 0,.slice none 0 0] 159)=m at cY ax |-;refine gM 3 6 (by kernel_rfl) (bB rfl rfl (λK aI=>?_)) (bB rfl rfl (λK aI=>?_))
  .go_simp;refine(sW.q _ cY.q.below).mono ?_;rintro e W2 ⟨di,rfl,dP,aE⟩;obtain⟨rr,m1,rfl,y3⟩:=ai.aZ dP;have ea:=qQ (cY.q.nK dP aE);clear dP aE;try go_simp
   refine aI.q _ _ ?_ (λa7=>?_)
   .exact XT
   clear aI K ax;have ax:=a7;clear a7;try simp only[bj,bk,bl]
   exact QE
  go_simp;have ea:=qQ (cY.q.make I.length jf);refine aI.q _ _ ?_ (λa7=>?_)
  .exact XT
  clear aI K ax;have ax:=a7;clear a7;try simp only[bj,bk,bl]
  generalize m.alloc (.cells (ints (List.replicate I.length 0)).toArray 3)=W2 at ea ax |-;exact QR
 obtain⟨a8,aQ,dM,v2,rfl,h3⟩:=hcut;have Y:=qQ h3;clear h3 O ak gQ;go_wp2_with fail;go_loopw [12,13,53] (λ_ _ i wr=>∃(k:Nat),k<=p.length/\i=.int .i64 (k:Int)/\(∀j (r:j<p.length),j<k->I.getD (p[j]).toNat 0=v.I.getD j 0) /\
     ai.hR 0 ag.heap.size a8 ag v.st aQ dM v2 I (R.dJ v I p k) wr) (λ_ _ i _=>p.length+1-(intOf i).toNat)
 case atStart=>exact⟨0,by omega,rfl,λj _ h=>by omega,Y.q⟩
 obtain⟨k,aT,rfl,BF,h3⟩:=hrel;obtain⟨cN,rfl⟩:∃cN:World,cN=wr:=⟨_,rfl⟩;refine VF ?_;intro iw fF xK eU Gb fl;by_cases fe:k<p.length
 .have oo:k<v.I.length:=by have:=mh.q;omega
  have Kh:k<v.s.length:=by have:=nm.q;omega
  obtain⟨MA,Kx,rfl,aU,Hz⟩:=U.q (by omega);refine Jd ?_;intro y5 k0 Ec Ee q hq ru y6 lx fR;rw[hq]at y5;obtain⟨b,off,rfl,aE,dt⟩:=ep.q (by omega);obtain⟨hr,dN,rfl,aP,Ht⟩:=hB.q (by omega);obtain⟨Mj,J8,rfl,aR,h2⟩:=S.q (by omega);refine Jq ?_;intro mb fm oq Dl sM y2 g2 m2 tq _ _;subst tq;have cb:=qQ h3;have xx:=qQ y2;have N:=qQ (λ(h:I[q]=v.I[k])=>show ∀j (r:j<p.length),j<k+1->I.getD (p[j]).toNat 0=v.I.getD j 0 from λj r aN=>by
   by_cases e:j<k
   .exact xK.q j r e
   obtain rfl:j=k:=by omega
   rw[ru.q,xY,R.getD_at I q y6,R.getD_at v.I j oo];exact h)
  clear dt Ht h2 Hz k0 Ec Ee hq BF h3 y2;generalize v.I[k]=d at mb fR N;generalize v.s[k]=s at fm lx;generalize I[q]=H5 at oq fR N;refine VG ?_;intro i1 i2 i3 i4 i5 i6;by_cases nz:H5=d
  .have cj:=qQ (N.q nz);have AK:(H5 != d)=false:=by simpa using nz
   clear nz fl;go_wp2_with fail
   go_quiet (fail)
   go_wp2_with fail;refine VY ?_;intro hN dT Ih yq;rw[ints_at _ q (by rw[xx.q];omega)]at yq;generalize (R.dJ v I p k)[q]'(by rw[xx.q];omega)=aX at yq;have t1:(cN.drewN nq).cell? ⟨w.heap.size,2,none⟩=some (.slice (some ⟨hr,dN,none⟩) v.s.length c'):=sM;have t2:(cN.drewN nq).cell? ⟨hr,dN+k,none⟩=some (.int .i64 s):=fm;generalize cN.drewN nq=W2 at hN dT Ih yq t1 t2 |-;refine Jt ?_;intro ax;clear mb fm oq Dl sM y5 cb;refine aG 0 69 ?_;refine aG 1 70 ?_;refine aG 2 71 ?_;refine aG 3 72 ?_;refine aG 4 73 ?_;refine aG 5 74 ?_;refine aG 6 75 ?_;refine aG 7 76 ?_;try simp only[Act.put,bj,bk,bl]
   refine eW [_,_] 8 [9] ?_;have X:=qQ (hN.q.qx q s).drew;clear ax dT t1 t2;go_wp2_with fail;have IY:=qQ (show ai.hR 0 ag.heap.size a8 ag v.st aQ dM (.slice (some ⟨g2,0,none⟩) (R.dJ v I p k).length m2) I (R.dJ v I p (k+1)) (W2.setCell ⟨g2,q,none⟩ (.int .i64 s)).drew by
    have h:=X.q;rw[lx.q];rw[xJ]at h;exact h)
   exact ZD
  refine Jp ?_;intro bR AK ek en eo f0 f1 f2;clear nz fl;go_wp2_with fail
  go_quiet (fail)
  go_wp2_with fail;refine qR (v:=.tuple #[.agg #[.int .i64 0,.slice none 0 0,.slice none 0 0],.int .i64 6]) (by simp[results,results158,go_sem,ek,en,eo]) rfl ⟨?_,ai.three (zV fF.q nq) (xV _) _ _ _⟩;exact JZ
 obtain rfl:k=p.length:=by omega
 have bR:=qQ (R.wz dk.q kq.q mh.q pA.q (R.B0 (λj r=>xK.q j r r)));obtain⟨bt,bn,tq,nC,rS,rV,ma⟩:=ai.df h3.bw;subst tq;refine JN ?_;intro cb j4 si cy bE ek en eo f0 f1 f2;clear fl h3 nC rS rV ma BF;go_wp2_with fail;refine qR (v:=.tuple #[.agg #[.int .i64 v.st,.slice aQ I.length dM,.slice bt (R.dJ v I p p.length).length bn],.int .i64 0]) (by simp[results,results158,go_sem,ek,en,eo]) rfl ⟨?_,ai.three fF.q (xV _) _ _ _⟩;exact Qv
attribute [local go_sem ↓] Go.wp_at_zero Go.wp_at_succ
theorem _root_.Qu{G:Prop}(h:G:=by
 refine eW [_] 8 [] ?_;have cZ:=qQ (eZ.q.g' _ rfl);have IC:=cZ.q.2.cell 0;have nk:=cZ.q.2.cell 1;have ID:=cZ.q.2.cell 2;have Bu:=cZ.q.2.frozen 0;have Bv:=cZ.q.2.frozen 1;have Bw:=cZ.q.2.frozen 2;have ub:=cZ.q.2.lt;have cb:=qQ (eZ.q.Ml v.st Ma.q (by omega) md Mz);clear ax;go_wp2_with fail
 go_meet
 exact⟨_,_,_,_,rfl,cb.q⟩
 ):G:=h
theorem _root_.Qo{G:Prop}(h:G:=by
 go_wp2_with fail;refine qR (v:=.tuple #[.agg #[.int .i64 0,.slice none 0 0,.slice none 0 0],.int .i64 6]) (by simp[results,results135,go_sem,ek,en,eo]) rfl ⟨?_,ai.three bU.q (xV _) _ _ _⟩;rw[bR.q];exact ai.d' _ _ _ _
 ):G:=h
theorem _root_.XL{G:Prop}(h:G:=by
 exact⟨(eZ.q.below.cell (p:=⟨w.heap.size,0,none⟩) (by simp;omega)).trans gQ,trivial⟩
 ):G:=h
theorem xi(val:Value)(v:R.V)(DA P:Option Addr)(E M:Nat)(I p:List Int)(B:Nat)(w:World)(ah:B<=w.heap.size)(h:ai.cm w B val v)(X:ai.ao w B DA I)(hp:ai.ao w B P p)(md:I.length<=E)(Mz:E<=9223372036854775807)(mp:p.length<=M)(aX:M<=9223372036854775807):Calls Tryz.prog 135 #[val,.slice DA I.length E,.slice P p.length M] w λe w'=>ai.fb B w w' (R.spread v I p) e/\Below w.heap.size w w':=by
 obtain⟨hD,Y,Z,aq⟩:=cV (λ(W:World) (y:Below w.heap.size w W)=>h8 val v B W (qJ ah y.size) (h.below (y.mono ah))) X hp (λ(W:World) (y:Below w.heap.size w W)=>dC DA E I B W (by omega) (X.below (y.mono ah)));obtain⟨A,c,bK,c',rfl,ar,az,aO,bz,aN,aP⟩:=h;refine VK ?_;intro ep hB bp;clear ar az hp X;by_cases eR:R.aF v=0;rotate_left
 .have bR:=qQ (R.qu (I:=I) (l:=p) eR);have hq:(R.aF v != 0)=true:=by simpa using eR
  clear eR;go_enter func135,ntmps135;go_wp2_with fail;refine Vj ?_;intro ag bV dt eG ga;go_wp2_with fail;refine qR (v:=.tuple #[.agg #[.int .i64 0,.slice none 0 0,.slice none 0 0],.int .i64 (R.aF v)]) (by simp[results,results135,go_sem,dt]) rfl ⟨?_,ai.three (aA bp.q bV) (xV _) _ _ _⟩;exact JZ
 refine Vv ?_;intro dk z3 Ea nm;clear eR;go_enter func135,ntmps135;go_wp2_with fail;refine JD ?_;intro ag cd g_ bU ga gQ fp b' ek en eo f0 f1 f2;go_wp2_with fail;refine(aq.q _ bU.q).mono ?_;rintro e aC ⟨rfl,rfl⟩;by_cases e8:(R.size I).2=0;rotate_left
 .have bR:=qQ (R.r6 (l:=p) dk.q e8);have hq:((R.size I).2 != 0)=true:=by simpa using e8
  simp only[ai.b5];clear e8;go_wp2_with fail;refine qR (v:=.tuple #[.agg #[.int .i64 0,.slice none 0 0,.slice none 0 0],.int .i64 ((R.size I).2)]) (by simp[results,results135,go_sem,ek,en,eo]) rfl ⟨?_,ai.three bU.q (xV _) _ _ _⟩;exact JZ
 refine Vz ?_;intro kq vy jf sa;have S:=qQ (mi P M p I.length B ag (by omega) (by omega) (Z.q.below (bU.q.mono ah)));clear e8;by_cases N:p.length=v.I.length;rotate_left
 .have bR:=qQ (R.kj dk.q kq.q (.inl N));have aH:((p.length:Int) != (v.I.length:Int))=true:=by simp;omega
  clear N;exact Qo
 have aH:((p.length:Int) != (v.I.length:Int))=false:=by simp;omega
 have mh:=qQ N;clear N;by_cases D:R.cB I.length p=true;rotate_left
 .have bR:=qQ (R.kj dk.q kq.q (.inr (by simpa using D)));have pA:=qQ (show R.cB I.length p=false by simpa using D);clear D;go_wp2_with fail;refine S.q.mono ?_;rintro e aC ⟨rfl,rfl⟩;rw[pA.q];exact Qo
 have pA:=qQ D;clear D;go_wp2_with fail;refine S.q.mono ?_;rintro e aC ⟨rfl,rfl⟩;rw[pA.q];clear ek en eo f0 f1 f2;go_wp2_with fail;have aE:=sa.q
 go_cut [11] (λaI aJ=>∃(a8:Nat) (aQ:Option Addr) (dM:Nat) (v2:Value),aI=.pointer (some ⟨a8,0,none⟩)/\ai.hR B ag.heap.size a8 ag v.st aQ dM v2 I (List.replicate I.length 0) aJ)
 case first =>
  refine fk (λw'=>w'.cell? ⟨w.heap.size,0,none⟩=some (.int .i64 v.st)) 8 9 (gQ) (λax=>?_);simp only[qF,qG];refine aG 0 43 ?_;refine aG 1 44 ?_;refine aG 2 45 ?_;refine aG 3 46 ?_;refine aG 4 47 ?_;try simp only[Act.put,bj,bk,bl]
  have O:=qQ (ai.Acc.start ag);have Ma:=qQ (Y.q.below (bU.q.mono ah));generalize ag.drew=bD at O ax |-;refine gM 5 7 (by kernel_rfl) (bB rfl rfl (λK r=>?_)) (bB rfl rfl (λK r=>?_))
  .go_simp;have cY:=qQ (O.q.make I.length jf);refine r.q _ _ ?_ (λm=>?_)
   .exact XS
   clear r K ax;have ax:=m;clear m;try simp only[bj,bk,bl]
   generalize bD.alloc (.cells (ints (List.replicate I.length 0)).toArray 3)=U at cY ax |-;refine e5 6 49 ?_;try simp only[Act.put,bj,bk,bl]
   refine fT 7 (λK r=>?_);go_simp;have eZ:=qQ cY.q.ln;refine r.q _ _ ?_ (λm=>?_)
   .exact XL
   clear r K ax;have ax:=m;clear m;try simp only[bj,bk,bl]
   generalize U.alloc (.cells #[.int .i64 0,.slice none 0 0,.slice none 0 0] 159)=aD at eZ ax |-;exact Qu
  go_simp;have cY:=qQ O.q.ln;refine r.q _ _ ?_ (λm=>?_)
  .exact XS
  clear r K ax;have ax:=m;clear m;try simp only[bj,bk,bl]
  generalize bD.alloc (.cells #[.int .i64 0,.slice none 0 0,.slice none 0 0] 159)=U at cY ax |-;refine fT 5 (λK r=>?_);go_simp;have eZ:=qQ (cY.q.make I.length jf);refine r.q _ _ ?_ (λm=>?_)
  .exact XL
  clear r K ax;have ax:=m;clear m;try simp only[bj,bk,bl]
  generalize U.alloc (.cells (ints (List.replicate I.length 0)).toArray 3)=aD at eZ ax |-;refine e5 6 49 ?_;try simp only[Act.put,bj,bk,bl]
  exact Qu
 obtain⟨a8,aQ,dM,v2,rfl,h3⟩:=hcut;have ap:=qQ h3;clear h3 S aE gQ;go_wp2_with fail;go_loopw [12,13,52] (λ_ _ i wr=>∃(k:Nat),k<=p.length/\i=.int .i64 (k:Int)/\(∀j (x:j<p.length),j<k->I.getD (p[j]).toNat 0=v.I.getD j 0) /\
     ai.hR B ag.heap.size a8 ag v.st aQ dM v2 I (R.dJ v I p k) wr) (λ_ _ i _=>p.length+1-(intOf i).toNat)
 case atStart=>exact⟨0,by omega,rfl,λj _ h=>by omega,ap.q⟩
 obtain⟨k,aV,rfl,BF,h3⟩:=hrel;obtain⟨cN,rfl⟩:∃cN:World,cN=wr:=⟨_,rfl⟩;refine VF ?_;intro iw fF xK eU Gb fl;by_cases fe:k<p.length
 .have oo:k<v.I.length:=by have:=mh.q;omega
  have Kh:k<v.s.length:=by have:=nm.q;omega
  obtain⟨MA,Kx,rfl,aW,Hz⟩:=Z.q (by omega);refine Jd ?_;intro y5 k0 Ec Ee q hq ru y6 lx fR;rw[hq]at y5;obtain⟨b,off,rfl,y,dt⟩:=ep.q (by omega);obtain⟨hr,dN,rfl,aT,Ht⟩:=hB.q (by omega);obtain⟨Mj,J8,rfl,aU,h2⟩:=Y.q (by omega);refine Jq ?_;intro mb fm oq Dl sM y2 g2 m2 tq _ _;subst tq;have cb:=qQ h3;have xx:=qQ y2;have Q:=qQ (λ(h:I[q]=v.I[k])=>show ∀j (x:j<p.length),j<k+1->I.getD (p[j]).toNat 0=v.I.getD j 0 from λj x aR=>by
   by_cases e:j<k
   .exact xK.q j x e
   obtain rfl:j=k:=by omega
   rw[ru.q,xY,R.getD_at I q y6,R.getD_at v.I j oo];exact h)
  clear dt Ht h2 Hz k0 Ec Ee hq BF h3 y2;generalize v.I[k]=d at mb fR Q;generalize v.s[k]=s at fm lx;generalize I[q]=H5 at oq fR Q;refine VG ?_;intro i1 i2 i3 i4 i5 i6;by_cases nz:H5=d
  .have cj:=qQ (Q.q nz);have AK:(H5 != d)=false:=by simpa using nz
   clear nz fl;go_wp2_with fail
   go_quiet (fail)
   go_wp2_with fail;refine VY ?_;intro hN dT Ih yq;rw[ints_at _ q (by rw[xx.q];omega)]at yq;generalize (R.dJ v I p k)[q]'(by rw[xx.q];omega)=aZ at yq;have t1:(cN.drewN nq).cell? ⟨w.heap.size,2,none⟩=some (.slice (some ⟨hr,dN,none⟩) v.s.length c'):=sM;have t2:(cN.drewN nq).cell? ⟨hr,dN+k,none⟩=some (.int .i64 s):=fm;generalize cN.drewN nq=W2 at hN dT Ih yq t1 t2 |-;refine Jt ?_;intro ax;clear mb fm oq Dl sM y5 cb;refine aG 0 68 ?_;refine aG 1 69 ?_;refine aG 2 70 ?_;refine aG 3 71 ?_;refine aG 4 72 ?_;refine aG 5 73 ?_;refine aG 6 74 ?_;refine aG 7 75 ?_;try simp only[Act.put,bj,bk,bl]
   refine eW [_,_] 8 [9] ?_;have ak:=qQ (hN.q.qx q s).drew;clear ax dT t1 t2;go_wp2_with fail;have IY:=qQ (show ai.hR B ag.heap.size a8 ag v.st aQ dM (.slice (some ⟨g2,0,none⟩) (R.dJ v I p k).length m2) I (R.dJ v I p (k+1)) (W2.setCell ⟨g2,q,none⟩ (.int .i64 s)).drew by
    have h:=ak.q;rw[lx.q];rw[xJ]at h;exact h)
   exact ZD
  refine Jp ?_;intro bR AK ek en eo f0 f1 f2;clear nz fl;go_wp2_with fail
  go_quiet (fail)
  go_wp2_with fail;refine qR (v:=.tuple #[.agg #[.int .i64 0,.slice none 0 0,.slice none 0 0],.int .i64 6]) (by simp[results,results135,go_sem,ek,en,eo]) rfl ⟨?_,ai.three (zV fF.q nq) (xV _) _ _ _⟩;exact JZ
 obtain rfl:k=p.length:=by omega
 have bR:=qQ (R.wz dk.q kq.q mh.q pA.q (R.B0 (λj x=>xK.q j x x)));obtain⟨bt,bn,tq,nC,rS,rV,ma⟩:=ai.df h3.bw;subst tq;refine JN ?_;intro cb j4 si cy bE ek en eo f0 f1 f2;clear fl h3 nC rS rV ma BF;go_wp2_with fail;refine qR (v:=.tuple #[.agg #[.int .i64 v.st,.slice aQ I.length dM,.slice bt (R.dJ v I p p.length).length bn],.int .i64 0]) (by simp[results,results135,go_sem,ek,en,eo]) rfl ⟨?_,ai.three fF.q (xV _) _ _ _⟩;exact Qv
end Go.Proofs.YtabmnaaidfpmcaaGreatDoor
end
section
namespace J
open R (size pick c1 cB prev il)
def iq(l:List Int):Bool:=(List.range (l.length-1)).all λi=>decide (l.getD i 0<=l.getD (i+1) 0)
def et(op:Op)(a b:List Int):List Int × Int :=
 if op.a.length≠op.s.length\/op.l.length≠op.h.length\/bG (op.l++op.a) a.length=false\/bG (op.h++op.s) b.length=false then([],6)
 else if aq a (op.l++op.a)≠aq b (op.h++op.s)then([],6)
 else(aq a op.l++aq a (free a (op.l++op.a))++aq b (free b (op.h++op.s)),0)
theorem wh(l m:List Int)(n:Nat):bG (l++m) n=bG (m++l) n:=by
 unfold bG;rw[pC,pC,Bool.and_comm (l.all _),decide_eq_decide.2 (List.perm_append_comm (l₁:=l) (l₂:=m)).nodup_iff]
theorem vs(d l m:List Int):free d (l++m)=free d (m++l):=by
 unfold free;refine List.filter_congr (λk _=>?_);rw[decide_eq_decide.2 (show k∈l++m↔k∈m++l by simp[or_comm])]
theorem iW(d l m:List Int):aq d (l++m)=aq d l++aq d m:=zI
theorem aW(d l:List Int):(aq d l).length=l.length:=zJ _
theorem Iz(op:Op)(a b:List Int):et op a b=dA op a b:=by
 unfold et dA;have x:=wh op.l op.a a.length;have y:=wh op.h op.s b.length;have f1:=vs a op.l op.a;have f2:=vs b op.h op.s;by_cases c:op.a.length≠op.s.length\/op.l.length≠op.h.length\/bG (op.l++op.a) a.length=false\/bG (op.h++op.s) b.length=false
 .rw[qY c];symm;by_cases aO:op.a.length≠op.s.length\/op.l.length≠op.h.length
  .rw[qY aO]
  have bz:bG (op.a++op.l) a.length=false\/bG (op.s++op.h) b.length=false:=by
    rw[<-x,<-y];rcases c with c | c | c
    .exact absurd (.inl c) aO
    .exact absurd (.inr c) aO
    exact c
  rw[qV aO,qY bz]
 have aO:¬(op.a.length≠op.s.length\/op.l.length≠op.h.length):=λh=>c (h.elim .inl (λh=>.inr (.inl h)))
 have bz:¬(bG (op.a++op.l) a.length=false\/bG (op.s++op.h) b.length=false):=by
  rw[<-x,<-y];exact λh=>c (.inr (.inr h))
 rw[qV c];symm;rw[qV aO,qV bz];symm;have r:aq a (op.l++op.a)=aq b (op.h++op.s)↔aq a op.l=aq b op.h/\aq a op.a=aq b op.s:=by
  rw[iW,iW];refine⟨λh=>List.append_inj h (by rw[aW,aW];omega),λh=>by rw[h.1,h.2]⟩
 by_cases i:aq a (op.l++op.a)=aq b (op.h++op.s)
 .obtain⟨j,q⟩:=r.1 i;have m:¬(aq a op.a≠aq b op.s\/aq a op.l≠aq b op.h):=λh=>h.elim (λh=>h q) (λh=>h j)
  rw[qV (not_not_intro i),qV m,f1,f2]
 have m:aq a op.a≠aq b op.s\/aq a op.l≠aq b op.h:=by
   by_cases j:aq a op.a=aq b op.s
   .exact .inr (λq=>i (r.2 ⟨q,j⟩))
   exact .inl j
 rw[qY i,qY m]
theorem qs(h:iq l=true){i:Nat}(hi:i+1<l.length):l.getD i 0<=l.getD (i+1) 0:=xG (List.all_eq_true.1 h i (List.mem_range.2 (by omega)))
theorem getD_at(l:List Int)(i:Nat)(h:i<l.length):l.getD i 0=l[i]:=by simp[h]
theorem qt{l:List Int}(h:iq l=true):∀(j i:Nat),i<=j->j<l.length->l.getD i 0<=l.getD j 0
 | 0,i,q,m=>by
                      obtain rfl:i=0:=by omega
                      exact wF _
 | j+1,i,q,m=>by
  by_cases e:i=j+1
  .subst e;exact wF _
  exact Int.le_trans (qt h j i (by omega) (by omega)) (qs h m)
theorem BV(l:List Int)(n:Nat):cB n l=(iq l && bG l n):=by
 rw[wX];constructor
 .intro h;have r:=il h;have az:iq l=true:=by
   refine List.all_eq_true.2 (λi hi=>zD ?_);have hi:=List.mem_range.1 hi;have m:=(r (i+1) (by omega)).1;unfold prev at m;rw[qV (by omega),Nat.add_sub_cancel]at m;rw[getD_at l (i+1) (by omega)];omega
  have E:∀i (hi:i<l.length),0<=l[i]:=λi hi=>by
   have y:=(r 0 (by omega)).1;unfold prev at y;rw[qY rfl]at y;have m:=qt az i 0 (by omega) hi;rw[getD_at l 0 (by omega),getD_at l i hi]at m;omega
  rw[qB];refine⟨az,?_⟩;unfold bG;rw[qB];refine⟨List.all_eq_true.2 (λk D=>?_),zD ?_⟩
  .obtain⟨i,hi,rfl⟩:=zQ D;have m:=E i hi;have q:=(r i hi).2;rw[zD m,zD q];rfl
  refine List.pairwise_iff_getElem.2 (λi j hi B Q e=>?_);have m:=(r j B).1;unfold prev at m;rw[qV (by omega),getD_at l (j-1) (by omega)]at m;have q:=qt az (j-1) i (by omega) (by omega);rw[getD_at l i hi,getD_at l (j-1) (by omega)]at q;omega
 intro h;rw[qB]at h;obtain⟨az,x⟩:=h;unfold bG at x;rw[qB]at x;obtain⟨M,N⟩:=x;have I:=List.pairwise_iff_getElem.1 (xG N);unfold cB;refine List.all_eq_true.2 (λi hi=>?_);have hi:=List.mem_range.1 hi;have m:=List.all_eq_true.1 M _ (qP hi);simp only[qB,xZ]at m |-;rw[getD_at l i hi];refine⟨?_,m.2⟩;unfold prev;by_cases e:i=0
 .rw[qY e];omega
 rw[qV e];have q:=qs az (i:=i-1) (by omega);have O:=I (i-1) i (by omega) hi (by omega);rw[Nat.sub_add_cancel (by omega),getD_at l i hi,getD_at l (i-1) (by omega)]at q;rw[getD_at l (i-1) (by omega)];omega
end J
end
section
namespace Go.Proofs.YtabmnaaidfpmcaaGreatDoor
open Go.RowKit aS
theorem xp{p:Addr}(h:w.cell? p=some v):p.block<w.heap.size:=by
 rcases jQ p.block w.heap.size with j | i
 .exact j
 exfalso;unfold World.cell? at h;rw[kH i]at h;cases h
namespace af
def aN(w:World)(B:Nat)(v:Value)(l:List Int):Prop:=∃A c,v=.slice A l.length c/\ai.ao w B A l/\l.length<=c/\c<=9223372036854775807
theorem aN.below{w w':World}{B:Nat}{v:Value}{l:List Int}(h:aN w B v l)(m:Below B w w'):aN w' B v l:=by
 obtain⟨A,c,e,i,j⟩:=h;exact⟨A,c,e,i.below m,j⟩
theorem aN.up{w:World}{B B':Nat}{v:Value}{l:List Int}(h:aN w B v l)(m:B<=B'):aN w B' v l:=by
 obtain⟨A,c,e,i,j⟩:=h;exact⟨A,c,e,i.up m,j⟩
theorem aN.bI{B:Nat}(h:aN w B v l)(ah:B<=w.heap.size)(W:World)(b:Below w.heap.size w W):aN W W.heap.size v l:=(h.below (b.mono ah)).up (qJ ah b.size)
theorem aN.nil(w:World)(B:Nat):aN w B (.slice none 0 0) []:=⟨none,0,rfl,λh=>by simp at h,qX _,by omega⟩
def bu(w:World)(B:Nat)(A:Option Addr)(ls:List (List Int)):Prop :=
 0<ls.length->∃b off,A=some ⟨b,off,none⟩/\b<B/\∀i (h:i<ls.length),∃v,w.cell? ⟨b,off+i,none⟩=some v/\aN w B v ls[i]
theorem bu.below{w w':World}{B:Nat}{A:Option Addr}{ls:List (List Int)}(h:bu w B A ls)(j:Below B w w'):bu w' B A ls:=λhp=>by
 obtain⟨b,off,x,m,y⟩:=h hp;refine⟨b,off,x,m,λi hi=>?_⟩;obtain⟨v,q,r⟩:=y i hi;exact⟨v,(j.cell (p:=⟨b,off+i,none⟩) m).trans q,r.below j⟩
theorem bu.up{w:World}{B B':Nat}{A:Option Addr}{ls:List (List Int)}(h:bu w B A ls)(r:B<=B'):bu w B' A ls:=λhp=>by
 obtain⟨b,off,q,y,x⟩:=h hp;refine⟨b,off,q,by omega,λi hi=>?_⟩;obtain⟨v,j,m⟩:=x i hi;exact⟨v,j,m.up r⟩
theorem bu.bI{B:Nat}{ls:List (List Int)}(h:bu w B A ls)(ah:B<=w.heap.size)(W:World)(b:Below w.heap.size w W):bu W W.heap.size A ls:=(h.below (b.mono ah)).up (qJ ah b.size)
def bd(w:World)(B:Nat)(val:Value)(op:J.Op):Prop :=
 ∃v1 v2 v3 v4 v5,val=.agg #[.int .i64 op.k,v1,v2,v3,v4,v5,.int .i64 op.v]/\aN w B v1 op.I/\aN w B v2 op.a/\aN w B v3 op.l/\aN w B v4 op.h/\aN w B v5 op.s
theorem _root_.Zy{G:Prop}(h:G:=by
 obtain⟨v1,v2,v3,v4,v5,e,c2,bS,pj,pk,Ij⟩:=h;exact⟨v1,v2,v3,v4,v5,e,c2.below aE,bS.below aE,pj.below aE,pk.below aE,Ij.below aE⟩
 ):G:=h
theorem bd.below{w':World}{B:Nat}{op:J.Op}(h:bd w B v op)(aE:Below B w w'):bd w' B v op:=by
 exact Zy
theorem bd.up{w:World}{B B':Nat}{v:Value}{op:J.Op}(h:bd w B v op)(i:B<=B'):bd w B' v op:=by
 obtain⟨v1,v2,v3,v4,v5,e,j,m,q,r,x⟩:=h;exact⟨v1,v2,v3,v4,v5,e,j.up i,m.up i,q.up i,r.up i,x.up i⟩
theorem bd.bI{B:Nat}{op:J.Op}(h:bd w B v op)(ah:B<=w.heap.size)(W:World)(b:Below w.heap.size w W):bd W W.heap.size v op:=(h.below (b.mono ah)).up (qJ ah b.size)
def fO(l:List Bool):List Value:=l.map .bool
theorem oQ(c:Nat):madeCells (Value.bool false).cells c=(fO (List.replicate c false)).toArray:=by
 apply uN
 .simp[wB,fO]
 intro i j m;simp[madeCells,fO,Value.cells,wC]
end af
theorem af.l6(c:Nat)(h:c<=65536)(w:World):(Instr.makeSlice 198 (.int .i64 (c:Int)) (.int .i64 (c:Int))).run Tryz.prog w=.ok (.slice (some ⟨w.heap.size,0,none⟩) c c) (w.alloc (.cells (af.fO (List.replicate c false)).toArray 4)):=by
 rw[<-af.oQ];exact Qh
theorem af.El(x:Int)(w:World):Calls Tryz.prog 179 #[.int .i64 x] w λe w'=>e=.returned (.bool false)/\w'=w:=by
 have h:(x != x)=false:=by simp
 go_enter func179,ntmps179;go_wp2_with fail;go_ret;exact⟨rfl,rfl⟩
theorem af.ze(x y:Int)(w:World):Calls Tryz.prog 146 #[.int .i64 x,.int .i64 y] w λe w'=>e=.returned (.bool (decide (x<y)))/\w'=w:=by
 go_enter func146,ntmps146;go_wp2_with ((with_reducible refine(af.El _ _).mono ?_);rintro e w' ⟨rfl,hw⟩;rw[hw]);go_ret;exact⟨rfl,rfl⟩
theorem af.C'(A:Option Addr)(cap:Nat)(l:List Int)(B:Nat)(w:World)(ap:l.length<=9223372036854775807)(ah:B<=w.heap.size)(hm:ai.ao w B A l):Calls Tryz.prog 120 #[.slice A l.length cap] w λe w'=>e=.returned (.bool (J.iq l))/\∃d,w'=w.drewN d:=by
 have Z:=qQ hm;obtain⟨n,O⟩:=gz l.length;have S:=qQ O;rw[O]at ap |-;clear hm O;go_enter func120,ntmps120;go_wp2_with fail;go_loopw [3] (λQ wr=>∃(i:Int) (d:Nat),Q=.int .i64 i/\-1<=i/\i<(n:Int)/\(∀j:Nat,i<=(j:Int)->j+1<n->l.getD j 0<=l.getD (j+1) 0)/\wr=w.drewN d) (λQ _=>(intOf Q+1).toNat)
 case atStart=>exact⟨(n:Int)-1,0,by go_num,by omega,by omega,λj ag X=>by omega,rfl⟩
 obtain⟨i,d,rfl,av,aA,az,ar⟩:=hrel;have U:=qQ az;have r:=qQ ar;clear az;by_cases aF:0<i
 .obtain⟨k,rfl⟩:∃k:Nat,i=(k:Int)+1:=⟨(i-1).toNat,by omega⟩;have M:k+1<l.length:=by have:=S.q;omega
  obtain⟨b,off,rfl,Y,I⟩:=Z.q (by omega);have aO:wr.cell? ⟨b,off+(k+1),none⟩=some (.int .i64 l[k+1]):=by rw[ar];exact I (k+1) M
  have bz:wr.cell? ⟨b,off+k,none⟩=some (.int .i64 l[k]):=by rw[ar];exact I k (by omega)
  have V:l.getD k 0=l[k]:=J.getD_at l k (by omega);have W:l.getD (k+1) 0=l[k+1]:=J.getD_at l (k+1) M;rw[<-V]at bz;rw[<-W]at aO;have D:=qQ (show l.getD (k+1) 0<l.getD k 0->J.iq l=false from λh=>by
   cases Y:J.iq l with
   | false=>rfl
   | true=>have:=J.qs Y M;omega)
  have E:=qQ (show ¬l.getD (k+1) 0<l.getD k 0->∀j:Nat,(k:Int)<=(j:Int)->j+1<n->l.getD j 0<=l.getD (j+1) 0 from λh j ag X=>by
   by_cases e:j=k
   .subst e;omega
   exact U.q j (by omega) X)
  clear I V W ar;generalize l.getD k 0=x at bz D E;generalize l.getD (k+1) 0=y at aO D E;have aG:(k:Int)+1-1=(k:Int):=by omega
  have aB:=b2 k;have aC:(k:Int)<n:=by omega
  have aD:((k:Int)+1).toNat=k+1:=by omega
  have aE:(0:Int)<=(k:Int)+1:=by omega
  have aH:IntKind.i64.wrap (k:Int)=(k:Int):=qA _ (by omega);by_cases N:y<x
  .have m:=qQ (D.q N);go_wp2_with fail
   go_quiet ((exact Calls.quiet_of_same (af.ze _ _ _)))
   go_wp2_with fail;go_ret;exact⟨by rw[m.q];rfl,d+nq,by rw[r.q,jI]⟩
  have m:=qQ (E.q N);have aq:decide (y<x)=false:=by simpa using N
  go_wp2_with fail
  go_quiet ((exact Calls.quiet_of_same (af.ze _ _ _)))
  go_wp2_with fail;go_roundw
  case rel=>exact⟨(k:Int),d+nq,by go_num,by omega,by omega,m.q,by rw[r.q,jI]⟩
  case measure=>simp[intOf];omega
 have m:=qQ (show J.iq l=true from List.all_eq_true.2 (λj ak=>zD (U.q j (by omega) (by have:=List.mem_range.1 ak;have:=S.q;omega))));clear ar;go_wp2_with fail;go_ret;exact⟨by rw[m.q];rfl,d,r.q⟩
theorem af.vm(A bK:Option Addr)(cap ag:Nat)(l m:List Int)(B B':Nat)(w:World)(aE:l.length<=9223372036854775807)(aF:m.length<=9223372036854775807)(hm:ai.ao w B A l)(I:ai.ao w B' bK m):Calls Tryz.prog 122 #[.slice A l.length cap,.slice bK m.length ag] w λe w'=>e=.returned (.bool (decide (l=m)))/\∃d,w'=w.drewN d:=by
 by_cases hlen:l.length=m.length
 .have X:=qQ hm;have Y:=qQ I;have hq:((l.length:Int) != (m.length:Int))=false:=by simp;omega
  have M:=qQ hlen;clear hm I hlen;go_enter func122,ntmps122;go_wp2_with fail;go_loopw [5,13] (λ_ i wr=>∃k d:Nat,k<=l.length/\i=.int .i64 (k:Int)/\l.take k=m.take k/\wr=w.drewN d) (λ_ i _=>l.length+1-(intOf i).toNat)
  case atStart=>exact⟨0,0,by omega,rfl,by simp,rfl⟩
  obtain⟨k,d,aD,rfl,W,rfl⟩:=hrel;have N:=qQ W;clear W;by_cases U:k<l.length
  .have V:k<m.length:=by have:=M.q;omega
   obtain⟨b,off,rfl,av,Q⟩:=X.q (by omega);obtain⟨aq,aG,rfl,az,S⟩:=Y.q (by omega);have ah:=Q k U;have ak:=S k V;have aA:=b2 k;have aB:(k:Int)<(l.length:Int):=by omega
   have aC:(k:Int)<(m.length:Int):=by omega
   obtain⟨r,O,E⟩:=aK (qD U) (qD V) (show l[k]≠m[k]->decide (l=m)=false from λh=>zN (λe=>h (by subst e;rfl)));clear Q S;generalize l[k]=x at ah r E;generalize m[k]=y at ak O E;by_cases j:x=y
   .have Z:=qQ (show l.take (k+1)=m.take (k+1) by rw[r.q,O.q,N.q,j]);have ap:(x != y)=false:=by simpa using j
    clear j;go_wp2_with fail
    go_quiet (fail)
    go_wp2_with fail;go_roundw
    case rel=>exact⟨k+1,d+nq,by omega,by go_num,Z.q,by first | rfl | rw[jI]⟩
    case measure=>simp[intOf];omega
   have D:=qQ (E.q j);have ap:(x != y)=true:=by simpa using j
   clear j;go_wp2_with fail
   go_quiet (fail)
   go_wp2_with fail;go_ret;exact⟨by rw[D.q];rfl,d+nq,by first | rfl | rw[jI]⟩
  obtain rfl:k=l.length:=by omega
  have r:=qQ (show decide (l=m)=true from zD (by
   have h:=N.q
   rwa [qT (qX _),qT (by have:=M.q;omega)]at h))
  go_wp2_with fail;go_ret;exact⟨by rw[r.q];rfl,d,rfl⟩
 have hq:((l.length:Int) != (m.length:Int))=true:=by simp;omega
 have D:=qQ (show decide (l=m)=false from zN (λe=>hlen (by rw[e])));clear hlen hm I;go_enter func122,ntmps122;go_wp2_with fail;go_ret;exact⟨by rw[D.q];rfl,0,rfl⟩
namespace aj
def gd(k:Int):Int :=
 if k=2 then 0
 else if k=9\/k=10\/k=11\/k=12\/k=13\/k=14\/k=15 then 1
 else if k=3\/k=4\/k=5\/k=6\/k=7\/k=16\/k=18\/k=19 then 2
 else if k=8 then 3
 else if k=17 then -1
 else -2
theorem CY(k:Int)(n:Nat):J.right k n=if gd k=-2 then 1 else if (0<=gd k/\gd k≠(n:Int))\/(gd k=-1/\n=0)then 2 else 0:=by
 unfold J.right gd
 (repeat' split)<;>omega
end aj
theorem af.Gs(k:Int)(w:World):Calls Tryz.prog 151 #[.int .i64 k] w λe w'=>e=.returned (.int .i64 (aj.gd k))/\w'=w:=by
 have ep:=qQ (show aj.gd k=if k=2 then 0 else if k=9\/k=10\/k=11\/k=12\/k=13\/k=14\/k=15 then 1 else if k=3\/k=4\/k=5\/k=6\/k=7\/k=16\/k=18\/k=19 then 2 else if k=8 then 3 else if k=17 then -1 else -2 from rfl);go_enter func151,ntmps151;go_wp2_with fail
 all_goals go_ret
 all_goals first | ((have e:aj.gd k=0:=by(rw[ep.q];(try simp only[yS]at *);(try simp only[jS]at *);(repeat' split)<;>first | rfl | omega));exact⟨by rw[e];rfl,rfl⟩) | ((have e:aj.gd k=1:=by(rw[ep.q];(try simp only[yS]at *);(try simp only[jS]at *);(repeat' split)<;>first | rfl | omega));exact⟨by rw[e];rfl,rfl⟩) | ((have e:aj.gd k=2:=by(rw[ep.q];(try simp only[yS]at *);(try simp only[jS]at *);(repeat' split)<;>first | rfl | omega));exact⟨by rw[e];rfl,rfl⟩) | ((have e:aj.gd k=3:=by(rw[ep.q];(try simp only[yS]at *);(try simp only[jS]at *);(repeat' split)<;>first | rfl | omega));exact⟨by rw[e];rfl,rfl⟩) | ((have e:aj.gd k=-1:=by(rw[ep.q];(try simp only[yS]at *);(try simp only[jS]at *);(repeat' split)<;>first | rfl | omega));exact⟨by rw[e];rfl,rfl⟩) | ((have e:aj.gd k=-2:=by(rw[ep.q];(try simp only[yS]at *);(try simp only[jS]at *);(repeat' split)<;>first | rfl | omega));exact⟨by rw[e];rfl,rfl⟩)
theorem _root_.Xf{G:Prop}(h:G:=by
 go_wp2_with fail;go_ret;exact⟨by rw[br.q];rfl,bp.q⟩
 ):G:=h
theorem af.mI(A:Option Addr)(cap n:Nat)(l:List Int)(B:Nat)(w:World)(aG:l.length<=9223372036854775807)(aH:n<=65536)(ah:B<=w.heap.size)(hm:ai.ao w B A l):Calls Tryz.prog 154 #[.slice A l.length cap,.int .i64 (n:Int)] w λe w'=>e=.returned (.bool (J.bG l n))/\Below w.heap.size w w':=by
 have aB:=qQ hm;have aQ:=λW=>l6 n aH W
 have aA:=qQ (qK w.heap.size w);obtain⟨m,Q⟩:=gz l.length;have Y:=qQ Q;rw[Q]at aG |-;clear hm Q;go_enter func154,ntmps154;go_wp2_with fail;go_loopw [12] (λU wr=>∃k:Nat,k<=m/\U=.int .i64 (k:Int)/\(∀x∈l.take k,0<=x/\x<(n:Int))/\(l.take k).Nodup/\Below w.heap.size w wr/\av wr w.heap.size 4 (ai.fO (ai.seen n (l.take k))).toArray) (λU _=>m-(intOf U).toNat)
 case atStart =>
  refine⟨0,by omega,rfl,by simp,by simp,aA.q.alloc (qX _) _,?_⟩;rw[yG,ai.z'];exact av.new w _ _
 obtain⟨k,aN,rfl,az,aq,i,ak⟩:=hrel;obtain⟨ag,Z,bp,O⟩:=cV az aq i ak;clear az aq i ak;by_cases aP:k<m
 .have M:k<l.length:=by have:=Y.q;omega
  obtain⟨b,off,rfl,aL,ap⟩:=aB.q (by omega);have aO:=(bp.q.cell (p:=⟨b,off+k,none⟩) (by show b<w.heap.size;omega)).trans (ap k M);have E:=qQ (R.cM l k M);have D:=qQ (show(l[k]<0\/(n:Int)<=l[k]\/l[k]∈l.take k)->J.bG l n=false from λh=>by
   cases i:J.bG l n with
   | false=>rfl
   | true =>
    exfalso;unfold J.bG at i;rw[qB]at i;have I:=List.all_eq_true.1 i.1 _ (qP M);simp only[qB,xZ]at I;rcases h with h | h | h
    .omega
    .omega
    obtain⟨j,aF,e⟩:=zQ h;rw[qM]at aF;rw[pQ]at e;exact List.pairwise_iff_getElem.1 (xG i.2) j k (by omega) M (by omega) e)
  have i1:=b2 k;have i2:(k:Int)<m:=by omega
  clear ap;generalize l[k]=x at aO E D;by_cases aI:x<0
  .have br:=qQ (D.q (.inl aI));exact Xf
  by_cases aJ:(n:Int)<=x
  .have br:=qQ (D.q (.inr (.inl aJ)));exact Xf
  obtain⟨q,rfl⟩:∃q:Nat,x=(q:Int):=⟨x.toNat,by omega⟩;have S:q<n:=by omega
  have i3:=b2 q;have i4:(q:Int)<n:=by omega
  have cs:wr.cell? ⟨w.heap.size,q,none⟩=some (.bool (decide ((q:Int)∈l.take k))):=by
   rw[O.q.cell q,ai.ye _ q (by rw[ai.n8];exact S),ai.BW _ _ _ S]
  by_cases r:(q:Int)∈l.take k
  .have br:=qQ (D.q (.inr (.inr r)));rw[zD r]at cs;clear r;exact Xf
  rw[zN r]at cs;have aK:=O.q.frozen q;have X:=qQ (show av (wr.setCell ⟨w.heap.size,q,none⟩ (.bool true)) w.heap.size 4 (ai.fO (ai.seen n (l.take (k+1)))).toArray by
   have y:=O.q.bs q (.bool true);rw[ai.uz,ai.Aa _ _ _ S]at y;rw[E.q];exact y)
  have V:=qQ (bp.q.setCell (p:=⟨w.heap.size,q,none⟩) (qX _) (.bool true));have aD:=qQ (show ∀x∈l.take (k+1),0<=x/\x<(n:Int)from λx N=>by
   rw[E.q]at N;rcases List.mem_append.1 N with h | h
   .exact ag.q x h
   rw[List.mem_singleton.1 h];omega)
  have aC:=qQ (show(l.take (k+1)).Nodup by rw[E.q];exact ai.tA Z.q r);clear r;obtain⟨W2,aE⟩:=gz (wr.setCell ⟨w.heap.size,q,none⟩ (.bool true));rw[aE]at X V;go_wp2_with fail;go_roundw
  case rel=>exact⟨k+1,by omega,by go_num,aD.q,aC.q,V.q,X.q⟩
  case measure=>simp[intOf];omega
 obtain rfl:k=m:=by omega
 have br:=qQ (show J.bG l n=true by
  have I:=ag.q;have y:=Z.q;rw[qT (by have:=Y.q;omega)]at I y;unfold J.bG;rw[qB];exact⟨List.all_eq_true.2 (λx N=>by have:=I x N;simp;omega),zD y⟩)
 go_wp2_with fail;go_ret;exact⟨by rw[br.q];rfl,bp.q⟩
theorem af.kh(A:Option Addr)(cap n:Nat)(l:List Int)(B:Nat)(w:World)(y:l.length<=9223372036854775807)(N:n<=65536)(ah:B<=w.heap.size)(hm:ai.ao w B A l):Calls Tryz.prog 152 #[.slice A l.length cap,.int .i64 (n:Int)] w λe w'=>e=.returned (.bool (R.cB n l))/\Below w.heap.size w w':=by
 obtain⟨M,I,r,D⟩:=cV (af.C' A cap l B w y ah hm) (λd=>af.mI A cap n l B (w.drewN d) y N ah hm) (J.BV l n) (λd=>zV (qK w.heap.size w) d);clear hm;go_enter func152,ntmps152;go_wp2_with fail
 ((with_reducible refine M.q.mono ?_);rintro e ag ⟨rfl,d,rfl⟩)
 have m:=qQ (I.q d);have i:=qQ (D.q d);generalize w.drewN d=ag at m i |-;cases az:J.iq l with
 | false =>
  have j:=qQ (show R.cB n l=false by rw[r.q,az];rfl);clear az;go_wp2_with fail;go_ret;exact⟨by rw[j.q];rfl,i.q⟩
 | true =>
  have j:=qQ (show R.cB n l=J.bG l n by rw[r.q,az];rfl);clear az;go_wp2_with fail
  ((with_reducible refine m.q.mono ?_);rintro e aC ⟨rfl,x⟩)
  have E:=qQ (aA i.q x);clear x;go_wp2_with fail;go_ret;exact⟨by rw[j.q];rfl,E.q⟩
end Go.Proofs.YtabmnaaidfpmcaaGreatDoor
end
section
namespace aS
open Go Go.RowKit
def Reads(w:World)(B size:Nat)(A:Option Addr)(n:Nat)(xs:List Value):Prop :=
 xs.length=n*size/\(0<n->∃i,A=some i/\i.block<B/\∀j u,xs[j]?=some u->w.cell? (i.add j)=some u)
section
variable {w w':World} {B B' size n:Nat} {A:Option Addr} {xs:List Value}
end
section
variable {P:Program} (w:World)
theorem rB(base:Nat)(t ty e:TypeId)(i:TypeInfo)(size:Nat)(j:P.underlying t=some (.slice e))(hi:P.info? e=some i)(v:Value)(n:Nat)(xs:List Value)(q:w.ownsRow base e size v n xs)(c:Nat):(Builtin.append_ #[t,t] ty #[v,.slice none 0 c]).run P w=.ok v w:=by
 rcases q.2 with ⟨rfl,rfl⟩ | ⟨g,cap,cur,rfl,_,_,m,_⟩
 .simp[Builtin.append_,run_underlying j,Go.sizeOf,typeInfo,hi,Builtin.lenOf,Builtin.firstCells]
 simp[Builtin.append_,run_underlying j,Go.sizeOf,typeInfo,hi,Builtin.lenOf,Builtin.firstCells,m,storeCells]
theorem ui(base:Nat)(t ty e:TypeId)(i:TypeInfo)(z:Value)(size bytes:Nat)(E:P.underlying t=some (.slice e))(hi:P.info? e=some i)(ah:i.zero=some z)(Z:i.size=size)(U:i.bytes=bytes)(ak:z.cells.size=size)(ag:0<size)(v:Value)(n:Nat)(xs:List Value)(D:w.ownsRow base e size v n xs)(B:Nat)(A:Option Addr)(m c:Nat)(news:List Value)(r:Reads w B size A m news)(I:∀u∈news,u.oneCell'=true)(Q:n+m<=maxLen)(V:(n+m)*bytes<=140737488355328)(S:base<=w.heap.size):∃v' w',(Builtin.append_ #[t,t] ty #[v,.slice A m c]).run P w=.ok v' w'/\w'.ownsRow base e size v' (n+m) (xs++news)/\w.grownBy w' v.ownBlock/\(v'.ownBlock=v.ownBlock\/v'.ownBlock=some w.heap.size):=by
 rcases A with _ | x
 .have hm:m=0:=by
    rcases uV m with q | q
    .exact q
    obtain⟨x,h,_⟩:=r.2 q;cases h
  subst hm;have y:news=[]:=xL (by simpa using r.1);subst y;exact⟨v,w,rB w base t ty e i size E hi v n xs D c,by simpa using D,World.grownBy.refl w _,.inl rfl⟩
 have X:∀j u,news[j]?=some u->w.cell? (x.add j)=some u:=by
   intro j u hu;rcases uV m with q | q
   .subst q;have y:news=[]:=xL (by simpa using r.1);subst y;simp at hu
   obtain⟨ao,h,_,W⟩:=r.2 q;injection h with h
   subst h;exact W j u hu
 obtain⟨v',w',Y,M,N,_,O⟩:=pZ (P:=P) w base t ty e i z size bytes E hi ah Z U ak ag v n xs D x m c news r.1 X I Q V S;exact⟨v',w',Y,M,N,O⟩
theorem ja{o:Oper}{K:Act->World->Prop}{Q:Exit->Act->World->Prop}(s x:Operand)(t:TypeId)(N:o.op=.call { callee:=.builtin .append,args:=#[s,x],argTypes:=#[t,t] })(base:Nat)(e:TypeId)(i:TypeInfo)(z:Value)(size bytes:Nat)(X:P.underlying t=some (.slice e))(hi:P.info? e=some i)(Z:i.zero=some z)(V:i.size=size)(I:i.bytes=bytes)(ag:z.cells.size=size)(W:0<size)(v:Value)(n:Nat)(xs:List Value)(az:a.eval s=v)(O:w.ownsRow base e size v n xs)(B:Nat)(A:Option Addr)(m c:Nat)(news:List Value)(Y:a.eval x=.slice A m c)(S:Reads w B size A m news)(j:∀u∈news,u.oneCell'=true)(D:n+m<=maxLen)(M:(n+m)*bytes<=140737488355328)(E:base<=w.heap.size)(h:∀v' w',w'.ownsRow base e size v' (n+m) (xs++news)->w.grownBy w' v.ownBlock->(v'.ownBlock=v.ownBlock\/v'.ownBlock=some w.heap.size)->K (a.put o.dst v') w'):o.wp P a w K Q:=by
 obtain⟨v',w',U,q,r,y⟩:=ui (P:=P) w base t o.type e i z size bytes X hi Z V I ag W v n xs O B A m c news S j D M E;unfold Oper.wp execOp;simp only[N,resolve,invoke,builtin,uK,yH,kC,pW,qE,zU,az,Y,U];exact h v' w' q r y
theorem bF{ops:Array Oper}{rest:List Oper}{o:Oper}{Q:Exit->Act->World->Prop}(O:o.guard=none)(s x:Operand)(t:TypeId)(S:o.op=.call { callee:=.builtin .append,args:=#[s,x],argTypes:=#[t,t] })(base:Nat)(e:TypeId)(i:TypeInfo)(z:Value)(size bytes:Nat)(Y:P.underlying t=some (.slice e))(hi:P.info? e=some i)(ag:i.zero=some z)(W:i.size=size)(M:i.bytes=bytes)(ah:z.cells.size=size)(X:0<size)(v:Value)(n:Nat)(xs:List Value)(az:a.eval s=v)(U:w.ownsRow base e size v n xs)(B:Nat)(A:Option Addr)(m c:Nat)(news:List Value)(Z:a.eval x=.slice A m c)(V:Reads w B size A m news)(j:∀u∈news,u.oneCell'=true)(D:n+m<=maxLen)(N:(n+m)*bytes<=140737488355328)(I:base<=w.heap.size)(h:∀v' w',w'.ownsRow base e size v' (n+m) (xs++news)->w.grownBy w' v.ownBlock->(v'.ownBlock=v.ownBlock\/v'.ownBlock=some w.heap.size)->wpList P ops Q rest (a.put o.dst v') w'):wpList P ops Q (o::rest) a w :=
 wpList_plain O λ_ E=>ja w s x t S base e i z size bytes Y hi ag W M ah X v n xs az U B A m c news Z V j D N I λv' w' q r y=>E _ _ (h v' w' q r y)
end
end aS
end
section
namespace Go.Proofs.YtabmnaaidfpmcaaGreatDoor
open Go.RowKit aS
namespace aj
def cf(op:J.Op)(args:List (List Int)):Int:=if J.right op.k args.length≠0 then J.right op.k args.length else J.sizes args
end aj
theorem _root_.JJ{G:Prop}(h:G:=by
 have p9:k<args.length:=by have:=eQ.q;omega
 obtain⟨b,off,rfl,MZ,dt⟩:=gO.q ak bp.q (by omega);obtain⟨v,cu,MJ,ci,rfl,hi,Mt,vz⟩:=dt k p9;have gH:=qQ (er MJ ci args[k] B ak (by omega) hi);have ep:=qQ (show J.sizes args=if (R.size args[k]).2≠0 then(R.size args[k]).2 else J.sizes (args.drop (k+1)) by rw[hB.q,zX p9];rfl);have i1:=b2 k;have i2:(k:Int)<n:=by omega
 clear dt hi;generalize args[k]=d at cu gH ep Mt;obtain⟨jn,LK⟩:=gz (R.size d);go_wp2_with fail
 ((with_reducible refine gH.q.mono ?_);rintro e aw ⟨rfl,iC⟩)
 rw[<-iC];unfold ai.b5;by_cases he:(R.size d).2=0
 .rw[he];rw[he]at ep;have cd:=qQ (show J.sizes args=J.sizes (args.drop (k+1)) by rw[ep.q];rfl);clear he LK iC;go_wp2_with fail
  go_round
  case rel=>exact⟨k+1,by go_num,by omega,cd.q⟩
  case measure=>simp[intOf];omega
 .have cy:((R.size d).2 == 0)=false:=by simpa using he
  have bE:((R.size d).2 != 0)=true:=by simpa using he
  have cd:=qQ (show aj.cf op args=(R.size d).2 by rw[br.q,ep.q,qY he]);clear iC LK;generalize (R.size d).2=LK at cy bE cd |-;go_wp2_with fail;go_ret;exact⟨by rw[cd.q];rfl,bp.q⟩
 ):G:=h
theorem _root_.QV{G:Prop}(h:G:=by
 obtain⟨k,rfl,mN,az⟩:=hrel;have hB:=qQ az;clear az;by_cases Ms:k<n
 .exact JJ
 .obtain rfl:k=n:=by omega
  have cd:=qQ (show aj.cf op args=0 by rw[br.q,hB.q,jD (by have:=eQ.q;omega)];rfl);go_wp2_with fail;go_ret;exact⟨by rw[cd.q];rfl,bp.q⟩
 ):G:=h
theorem _root_.Zg{G:Prop}(h:G:=by
 have br:=qQ (show aj.cf op args=2 by rw[cj.q,g_.q];rfl);go_wp2_with fail;go_ret;exact⟨by rw[br.q];rfl,bp.q⟩
 ):G:=h
theorem af.fK(val:Value)(op:J.Op)(A:Option Addr)(cap:Nat)(args:List (List Int))(B:Nat)(w:World)(ah:B<=w.heap.size)(O:args.length<=9223372036854775807)(Q:af.bd w B val op)(I:af.bu w B A args):Calls Tryz.prog 121 #[val,.slice A args.length cap] w λe w'=>e=.returned (.int .i64 (aj.cf op args))/\Below w.heap.size w w':=by
 obtain⟨v1,v2,v3,v4,v5,rfl,_⟩:=Q;obtain⟨bp,cd,gO,cj,j,M⟩:=fq ((qK w.heap.size w).alloc (qX _) (.cells #[.int .i64 op.k,v1,v2,v3,v4,v5,.int .i64 op.v] 58)) (av.new w 58 #[.int .i64 op.k,v1,v2,v3,v4,v5,.int .i64 op.v]) (λW (N:Below w.heap.size w W)=>(I.below (N.mono ah))) (show aj.cf op args=if J.right op.k args.length≠0 then J.right op.k args.length else J.sizes args from rfl) (aj.CY op.k args.length) (λW=>af.Gs op.k W);obtain⟨n,D⟩:=gz args.length;have eQ:=qQ D;rw[D]at O cj j |-;clear I D;have x:=cd.q.cell 0;obtain⟨ak,S⟩:=gz (w.alloc (.cells #[.int .i64 op.k,v1,v2,v3,v4,v5,.int .i64 op.v] 58));rw[S]at bp x;go_enter func121,ntmps121;go_wp2_with fail
 ((with_reducible refine(M.q _).mono ?_);rintro e ag ⟨rfl,U⟩)
 rw[U];generalize aj.gd op.k=q at j;by_cases m:q=-2
 .subst m;have g_:=qQ (show J.right op.k n=1 by rw[j.q];rfl);have br:=qQ (show aj.cf op args=1 by rw[cj.q,g_.q];rfl);exact Xf
 have d1:(q == -2)=false:=by simpa using m
 by_cases y:0<=q
 .by_cases r:q=(n:Int)
  .have g_:=qQ (show J.right op.k n=0 by rw[j.q,qV m,qV (by omega)]);subst r;have d2:((n:Int) != (n:Int))=false:=by simp
   have br:=qQ (show aj.cf op args=J.sizes args by rw[cj.q,g_.q];rfl);clear x;go_wp2_with fail
   go_loop [34] (λi=>∃k:Nat,i=.int .i64 (k:Int)/\k<=n/\J.sizes args=J.sizes (args.drop k)) (λi=>n-(intOf i).toNat)
   case atStart=>exact⟨0,rfl,by omega,rfl⟩
   exact QV
  have g_:=qQ (show J.right op.k n=2 by rw[j.q,qV m,qY (.inl ⟨y,r⟩)]);have d2:(q != (n:Int))=true:=by simpa using r
  clear r;exact Zg
 by_cases r:q=-1
 .subst r;by_cases E:n=0
  .have g_:=qQ (show J.right op.k n=2 by rw[j.q,qV (by decide),qY (.inr ⟨rfl,E⟩)]);subst E;clear m y;exact Zg
  have g_:=qQ (show J.right op.k n=0 by rw[j.q,qV (by decide),qV (by omega)]);have d4:((n:Int) == 0)=false:=by simp;omega
  clear m y;have br:=qQ (show aj.cf op args=J.sizes args by rw[cj.q,g_.q];rfl);clear x;go_wp2_with fail
  go_loop [34] (λi=>∃k:Nat,i=.int .i64 (k:Int)/\k<=n/\J.sizes args=J.sizes (args.drop k)) (λi=>n-(intOf i).toNat)
  case atStart=>exact⟨0,rfl,by omega,rfl⟩
  exact QV
 have g_:=qQ (show J.right op.k n=0 by rw[j.q,qV m,qV (by omega)]);have d3:(q == -1)=false:=by simpa using r
 clear m;have br:=qQ (show aj.cf op args=J.sizes args by rw[cj.q,g_.q];rfl);clear x;go_wp2_with fail
 go_loop [34] (λi=>∃k:Nat,i=.int .i64 (k:Int)/\k<=n/\J.sizes args=J.sizes (args.drop k)) (λi=>n-(intOf i).toNat)
 case atStart=>exact⟨0,rfl,by omega,rfl⟩
 obtain⟨k,rfl,mN,az⟩:=hrel;have hB:=qQ az;clear az;by_cases Ms:k<n
 .exact JJ
 obtain rfl:k=n:=by omega
 have cd:=qQ (show aj.cf op args=0 by rw[br.q,hB.q,jD (by have:=eQ.q;omega)];rfl);go_wp2_with fail;go_ret;exact⟨by rw[cd.q];rfl,bp.q⟩
theorem af.k9{B B':Nat}(h:ai.ao w B A l)(ah:B<=B'):aS.Reads w B' 1 A l.length (ints l):=by
 refine⟨by rw[cn,zF],λhp=>?_⟩;obtain⟨b,off,rfl,r,q⟩:=h hp;refine⟨⟨b,off,none⟩,rfl,by show b<B';omega,λj u i=>?_⟩;have m:j<l.length:=by
  have:=(List.getElem?_eq_some_iff.1 i).1
  rwa [cn]at this
 rw[ints_at l j m]at i;injection i with i
 rw[jW,<-i];exact q j m
theorem af.F_(n:Nat)(w:World)(V:n<=1099511627776):Calls Tryz.prog 117 #[.slice none 0 0,.int .i64 (n:Int)] w λe w'=>∃A c,e=.returned (.slice A 0 c)/\w'.ownsRow w.heap.size 3 1 (.slice A 0 c) 0 []/\Below w.heap.size w w':=by
 by_cases I:n=0
 .subst I;have i:=qQ (qK w.heap.size w);go_enter func117,ntmps117;go_wp2_with fail;go_ret;exact⟨_,_,rfl,⟨rfl,.inl ⟨rfl,rfl⟩⟩,i.q⟩
 obtain⟨i0,N,O,W,Q⟩:=xQ Tryz.dB;obtain⟨ROW,r⟩:∃ROW:Array Value,Builtin.zeroCells (Value.int .i64 0).cells n++Builtin.zeroCells (Value.int .i64 0).cells (grownCap w n 0 3-n)=ROW:=⟨_,rfl⟩;have m:=λty=>Lib.run_append_nil_zeros (P:=Tryz.prog) w 23 3 ty 3 i0 (.int .i64 0) .i64 .i64 underlying23 underlying3 N O n (by omega) (by omega) (by omega) (by rw[Q];omega)
 rw[r]at m;have M:n<=grownCap w n 0 3:=grownCap_ge w _ _ _;have j:grownCap w n 0 3<=maxLen:=grownCap_le_maxLen w n 0 _ (by unfold maxLen;omega);have x:ROW.size=grownCap w n 0 3*1:=by
  rw[<-r];simp[Builtin.zeroCells,Value.cells];omega
 obtain⟨G,D⟩:=gz (grownCap w n 0 3);rw[D]at m M j x;obtain⟨i,B,y⟩:=aK (show Below w.heap.size w (w.drew.alloc (.cells ROW 3))from(qK _ _).drew.alloc (qX _) _) (show av (w.drew.alloc (.cells ROW 3)) w.heap.size 3 ROW from av.new w.drew _ _) (qZ j x);have U:G<=9223372036854775807:=by unfold maxLen at j;omega
 obtain⟨S,E⟩:=gz (w.drew.alloc (.cells ROW 3));rw[E]at i B m;clear D r x j E;go_enter func117,ntmps117;go_wp2_with (at_builtin;refine Lib.wpList_append_run _ rfl _ _ 23 3 rfl _ _ rfl rfl _ _ (m _) ?_);go_wp2_with fail;go_ret;refine⟨_,_,rfl,⟨rfl,.inr ⟨w.heap.size,G,ROW,rfl,qX _,B.q,by omega,y.q.1,y.q.2,by simp⟩⟩,i.q⟩
namespace af
def cat(ls:List (List Int)):List Int:=ls.flatten
theorem KE(ls:List (List Int))(k:Nat):(cat (ls.take k)).length<=(cat ls).length:=by
 show((ls.take k).flatten).length<=ls.flatten.length
 conv=>rhs;rw[<-jU k ls]
 rw[List.flatten_append,qW];omega
theorem G3(ls:List (List Int)){k:Nat}(i:k<ls.length):cat (ls.take (k+1))=cat (ls.take k)++ls[k]:=by
 show(ls.take (k+1)).flatten=(ls.take k).flatten++ls[k];rw[qD i,List.flatten_append];simp
end af
theorem af.s9(A:Option Addr)(cap:Nat)(ls:List (List Int))(B:Nat)(w:World)(ah:B<=w.heap.size)(a2:ls.length<=9223372036854775807)(aX:(af.cat ls).length<=1099511627776)(aC:af.bu w B A ls):Calls Tryz.prog 83 #[.slice A ls.length cap] w λe w'=>∃v,e=.returned v/\w'.ownsRow w.heap.size 3 1 v (af.cat ls).length (ints (af.cat ls))/\Below w.heap.size w w':=by
 obtain⟨ak,S,ap,aP,aI⟩:=fC (λW (I:Below w.heap.size w W)=>(aC.below (I.mono ah))) (λk=>af.KE ls k) (λk (aA:k<ls.length)=>af.G3 ls aA) (xQ Tryz.dB) (qK w.heap.size w);obtain⟨n,X⟩:=gz ls.length;have N:=qQ X;rw[X]at a2 |-;clear aC X;go_enter func83,ntmps83;go_wp2_with fail
 go_loop [3,11] (λa4 r=>∃k:Nat,r=.int .i64 (k:Int)/\k<=n/\a4=.int .i64 (((af.cat (ls.take k)).length:Nat):Int)) (λ_ r=>n-(intOf r).toNat)
 case atStart=>exact⟨0,rfl,by omega,rfl⟩
 obtain⟨k,rfl,aA,rfl⟩:=hrel;have aF:=S.q k;by_cases a9:k<n
 .have aB:k<ls.length:=by have:=N.q;omega
  have aG:=S.q (k+1);obtain⟨b,off,rfl,aW,E⟩:=ak.q w aI.q (by omega);obtain⟨v,cu,M,ci,rfl,hi,V,a1⟩:=E k aB;have D:=qQ (ap.q k aB);have i:=qQ (show(af.cat (ls.take (k+1))).length=(af.cat (ls.take k)).length+(ls[k]).length by rw[D.q,qW]);have x:=i.q;have i1:=b2 k;have i2:(k:Int)<n:=by omega
  have i3:(0:Int)<=((ls[k].length:Nat):Int):=by omega
  clear E hi;generalize (ls[k]).length=m at cu x V i i3;generalize (af.cat (ls.take k)).length=s1 at aF x i |-;obtain⟨s2,Z⟩:=gz ((af.cat (ls.take (k+1))).length);rw[Z]at aG x i;have aL:=qQ Z;have a_:(0:Int)<=(s1:Int)+(m:Int):=by omega
  have a':s1+m<=1099511627776:=by omega
  clear Z x;go_wp2_with fail
  go_round
  case rel=>exact⟨k+1,by go_num,by omega,by rw[aL.q,i.q];go_num⟩
  case measure=>simp[intOf];omega
 obtain rfl:k=n:=by omega
 have U:=qQ (show ls.take k=ls from qT (by have:=N.q;omega));rw[U.q]at aF |-;have aN:=qQ (af.F_ (af.cat ls).length w aX);go_wp2_with fail
 ((with_reducible refine aN.q.mono ?_);rintro e ag ⟨aQ,aO,rfl,aD,aq⟩)
 have aR:=qQ aD;have aJ:=qQ aq;clear aD aq;go_wp2_with fail;go_loopw [6,27] (λv r wr=>∃j:Nat,r=.int .i64 (j:Int)/\j<=k/\Below w.heap.size w wr/\wr.ownsRow w.heap.size 3 1 v (af.cat (ls.take j)).length (ints (af.cat (ls.take j)))) (λ_ r _=>k-(intOf r).toNat)
 case atStart=>exact⟨0,rfl,by omega,aJ.q,aR.q⟩
 obtain⟨j,rfl,a7,I,Y⟩:=hrel;have y:=qQ I;have O:=qQ Y;obtain⟨a5,cu,a3,a6⟩:=ai.aZ Y;subst a3;clear I Y;by_cases a8:j<k
 .have az:j<ls.length:=by have:=N.q;omega
  obtain⟨b,off,rfl,aW,E⟩:=ak.q _ y.q (by omega);obtain⟨v,aV,M,ci,rfl,hi,V,a1⟩:=E j az;have D:=qQ (ap.q j az);have aG:=S.q (j+1);have i:=qQ (show(af.cat (ls.take (j+1))).length=(af.cat (ls.take j)).length+(ls[j]).length by rw[D.q,qW]);have x:=i.q;have i1:=b2 j;have i2:(j:Int)<k:=by omega
  have ao:=qQ (show aS.Reads wr wr.heap.size 1 M (ls[j]).length (ints ls[j])from af.k9 hi (qJ ah y.q.size));clear E hi;obtain⟨i0,g1,g2,g3,g4⟩:=aP.q;have aH:=y.q.size;generalize ls[j]=d at aV V ao D i x;have aE:=ai.h4 d;go_wp2_with (at_builtin;refine bF _ rfl _ _ 23 rfl w.heap.size 3 i0 (.int .i64 0) 1 8 underlying23 g1 g2 g3 g4 rfl (by decide) _ _ _ rfl O.q _ M d.length ci (ints d) rfl ao.q aE (by unfold maxLen;omega) (by omega) aH ?_);intro v' cH how av _;have aK:=qQ (y.q.grown av aH (λg a0=>(O.q.lt g a0).1));have aU:=qQ (show cH.ownsRow w.heap.size 3 1 v' (af.cat (ls.take (j+1))).length (ints (af.cat (ls.take (j+1)))) by
   rw[i.q,D.q];have:ints (af.cat (ls.take j)++d)=ints (af.cat (ls.take j))++ints d:=by unfold ints;rw[zI]
   rw[this];exact how)
  clear how av aE;go_wp2_with fail;go_roundw
  case rel=>exact⟨j+1,by go_num,by omega,aK.q,aU.q⟩
  case measure=>simp[intOf];omega
 obtain rfl:j=k:=by omega
 have Q:=O.q;rw[U.q]at Q;have aT:=qQ Q;clear Q;rw[U.q]at *;go_wp2_with fail;go_ret;exact⟨_,rfl,aT.q,y.q⟩
end Go.Proofs.YtabmnaaidfpmcaaGreatDoor
end
