/-
  ViewU, RvB, RvC, RvD, RvE. Conditions: where the theorems name them.
-/
import Derived.Test.YtabmnaaidfpmcaaGreatDoorV08
set_option linter.unusedVariables false
set_option maxRecDepth 100000
set_option maxHeartbeats 16000000
open Go.Proofs.Tryz
variable {x:Int}{d l m t:List Int}{cp:List Go.Value}{N c k n:Nat}{A:Option Go.Addr}{v v':Go.Value}{w:Go.World}
section
namespace Go.Proofs.YtabmnaaidfpmcaaGreatDoor
open Go.RowKit aS
namespace ai
theorem k9{B:Nat}(h:ao w B A l):Reads w B 1 A l.length (ints l):=by
 refine⟨by rw[cn,zF],λj=>?_⟩;obtain⟨b,off,rfl,i,m⟩:=h j;exact⟨_,rfl,i,news h⟩
def HR(w:World)(l m:List Int)(e:Ending)(w':World):Prop :=
 ∃(v:Value) (r:List Int) (ok:Bool),e=.returned (.tuple #[v,.bool ok])/\r.length=m.length/\(R.dQ l m=if ok then some r else none)/\w'.ownsRow w.heap.size 3 1 v m.length (ints r)/\Below w.heap.size w w'
structure xo (w:World) (l m:List Int) (v:Value) (k:Nat) (W:World):Prop where
 own:W.ownsRow w.heap.size 3 1 v m.length (ints (m.take k++List.replicate (m.length-k) 0))
 none_:R.dQ (l.drop k) (m.drop k)=none
 below:Below w.heap.size w W
theorem xo.put{g:Nat}{W:World}(h:xo w l m (.slice (some ⟨g,0,none⟩) m.length c) (k+1) W)(i:k<m.length)(x:Int):(W.setCell ⟨g,k,none⟩ (.int .i64 x)).ownsRow w.heap.size 3 1 (.slice (some ⟨g,0,none⟩) m.length c) m.length (ints (m.take k++x::List.replicate (m.length-(k+1)) 0))/\Below w.heap.size w (W.setCell ⟨g,k,none⟩ (.int .i64 x)):=by
 have az:=h.own.stored k (.int .i64 x);have e:(ints (m.take (k+1)++List.replicate (m.length-(k+1)) 0)).set k (.int .i64 x)=ints (m.take k++x::List.replicate (m.length-(k+1)) 0):=by
  unfold ints;rw[<-uE,R.cM m k i,zE,List.singleton_append,jZ _ _ (by rw[qM];omega)]
  congr 2
  rw[qM,yB (by omega),xB];rfl
 rw[e]at az;have j:=h.own.lt g rfl;exact⟨az.1,h.below.setCell (p:=⟨g,k,none⟩) j.1 _⟩
theorem EE(i:k<m.length):m.take k++(0:Int)::List.replicate (m.length-(k+1)) 0=m.take k++List.replicate (m.length-k) 0:=by
 congr 1
 rw[show m.length-k=(m.length-(k+1))+1 by omega,qF]
theorem Gu(i:k<m.length):(ints (m.take k++x::List.replicate (m.length-(k+1)) 0)).set k (.int .i64 0)=ints (m.take k++List.replicate (m.length-k) 0):=by
 rw[<-EE i];unfold ints;rw[<-uE,jZ _ _ (by rw[qM];omega)]
 congr 2
 rw[qM,yB (by omega),xB];rfl
theorem Iu(i:k<m.length):(ints (m.take (k+1)++List.replicate (m.length-(k+1)) 0))[k]?=some (.int .i64 m[k]):=by
 have:=ints_at (m.take (k+1)++List.replicate (m.length-(k+1)) 0) k (by simp;omega);rw[this,zR (by rw[qM];omega),pQ]
end ai
theorem FG(DA A:Option Addr)(aC cC:Nat)(l m:List Int)(B:Nat)(w:World)(Y:m.length=l.length)(aQ:l.length<=6)(ah:B<=w.heap.size)(ar:ai.ao w B DA l)(hm:ai.ao w B A m)(ak:∀x∈m,0<=x/\x<=4096):Calls Tryz.prog 108 #[.slice DA l.length aC,.slice A m.length cC] w (ai.HR w l m):=by
 obtain⟨i0,hi,aI,aJ,aK⟩:=xQ Tryz.dB;have I:=(qK w.heap.size w).alloc (qX _) (.cells #[] 3);obtain⟨aq,aA,aB,D⟩:=cV (ar.below (I.mono ah)) (ai.k9 (hm.below (I.mono ah))) ak Y;have a0:m.length<=6:=by omega
 clear ar hm ak Y;go_enter func108,ntmps108;go_wp2_with (at_builtin;refine bF _ rfl (.tmp 8) (.tmp 9) _ rfl w.heap.size 3 i0 (.int .i64 0) 1 8 underlying23 hi aI aJ aK rfl (by decide) _ _ _ rfl (ai.n2 w 3) B A m.length cC (ints m) rfl aA.q (ai.h4 m) (by unfold maxLen;omega) (by omega) (by simp) ?_);intro v ag Z W _;have az:=qQ (show ai.xo w l m v m.length ag from⟨by simpa using Z,by rw[D.q];exact R.Ks l _,I.grown W (by simp) (λk X=>by simp[Value.ownBlock]at X;omega)⟩);clear Z W;go_wp2_with fail;go_loopw [7] (λi wr=>∃k:Nat,k<=l.length/\i=.int .i64 ((k:Int)-1)/\ai.xo w l m v k wr) (λi _=>(intOf i+1).toNat)
 case atStart=>exact⟨l.length,qX _,by go_num,by rw[<-D.q];exact az.q⟩
 obtain⟨k,X,rfl,j⟩:=hrel;cases k with
 | zero =>
  have M:=qQ j;have O:((0:Nat):Int)-1=-1:=by omega
  rw[O];clear j;go_wp2_with fail
  go_ret2
  refine⟨v,_,false,rfl,?_,?_,M.q.own,M.q.below⟩
  .simp
  simpa using M.q.none_
 | succ k =>
  have y:k<m.length:=by have:=D.q;omega
  obtain⟨g,c,rfl⟩:∃g c,v=.slice (some ⟨g,0,none⟩) m.length c:=by
   obtain⟨g,c,h,_,_⟩:=j.own.form (by omega);exact⟨g,c,h⟩
  have aD:=(j.own.cellAt k (by omega)).trans (ai.Iu y);have aT:=j.own.frozenAt k;have S:=j.own.lt g rfl;obtain⟨b,off,rfl,aR,V⟩:=aq.q (by omega);have Q:=(j.below.cell (p:=⟨b,off+k,none⟩) (by simp;omega)).trans (((I.cell (p:=⟨b,off+k,none⟩) (by simp;omega))).symm.trans (V k (by omega)));have aH:=aB.q _ (qP y);have E:=qQ (R.Iw (l:=l) (m:=m) (k:=k) (by omega) y j.none_);have U:=qQ (λx=>j.put y x);have N:=qQ (show((wr.setCell ⟨g,k,none⟩ (.int .i64 (m[k]+1))).setCell ⟨g,k,none⟩ (.int .i64 0)).ownsRow w.heap.size 3 1 (.slice (some ⟨g,0,none⟩) m.length c) m.length (ints (m.take k++List.replicate (m.length-k) 0)) /\
      Below w.heap.size w ((wr.setCell ⟨g,k,none⟩ (.int .i64 (m[k]+1))).setCell ⟨g,k,none⟩ (.int .i64 0))from by
   obtain⟨aL,aN⟩:=j.put y (m[k]+1);have aO:=aL.stored k (.int .i64 0);refine⟨?_,aN.setCell (p:=⟨g,k,none⟩) S.1 _⟩;have ap:=aO.1;rw[ai.Gu y]at ap;exact ap)
  have av:=qQ (λr=>R.Iv (l:=l) (m:=m) (r:=r) k (by omega) (by omega));have O:(((k+1:Nat):Int))-1=(k:Int):=by omega
  rw[O];clear V j;generalize aG:m[k]=a at aD aH E N;generalize aE:l[k]=d at Q E;have aW:=b2 k;have aX:(k:Int)<(m.length:Int):=by omega
  have aZ:(k:Int)<(l.length:Int):=by omega
  clear aG aE;have aV:g≠b:=by omega
  have aU:(wr.setCell ⟨g,k,none⟩ (.int .i64 (a+1))).cell? ⟨b,off+k,none⟩=some (.int .i64 d):=(xE (qN wr ⟨g,k,none⟩ _ b (by simp;omega))).trans Q;have aP:=qQ S;clear Q S;by_cases aF:a+1<d
  .go_wp2_with fail
   go_region
   go_wp2_with fail
   go_ret2
   refine⟨_,_,true,rfl,?_,?_,(U.q _).1,(U.q _).2.drew⟩
   .simp;omega
   rw[av.q _ (E.q.trans (qY aF)),D.q];rfl
  go_wp2_with fail
  go_region
  go_wp2_with fail;go_roundw
  case rel=>exact⟨k,by omega,by go_num,N.q.1,E.q.trans (qV (by omega)),N.q.2.drew⟩
  case measure=>(simp[intOf]<;>omega)
theorem Tryz.Gi:(Tryz.prog.info? 23).map (λi=>(i.zero,i.size,i.bytes))=some (some (.slice none 0 0),1,24):=by kernel_rfl
namespace ai
theorem EM{base lg:Nat}{e mK:TypeId}{size K1 n':Nat}{xs KI:List Value}(h:w.ownsRow base e size v n xs)(m:w.ownsRow lg mK K1 v' n' KI)(r:e≠mK):v.ownBlock=none\/v.ownBlock≠v'.ownBlock:=by
 rcases h.2 with ⟨rfl,_⟩ | ⟨g,cap,cur,rfl,_,q,_⟩
 .exact .inl rfl
 refine .inr λi=>?_
 rcases m.2 with ⟨rfl,_⟩ | ⟨B,x,y,rfl,_,j,_⟩
 .simp[Value.ownBlock]at i
 simp only[Value.ownBlock,zZ]at i;subst i;rw[q]at j;simp only[zZ,Obj.cells.injEq]at j;exact r j.2.1
def iJ(N:Nat)(l:List Int)(cp:List Value)(W:World):Prop:=∀p (h:p<cp.length),W.ownsRow N 3 1 cp[p] l.length (ints (R.idx l p))
theorem iJ.snoc{W:World}(h:iJ N l cp W)(j:W.ownsRow N 3 1 v l.length (ints (R.idx l cp.length))):iJ N l (cp++[v]) W:=by
 intro p hp;by_cases i:p<cp.length
 .rw[zR i];exact h p i
 have:p=cp.length:=by simp at hp;omega
 subst this;rw[xF (qX _)];simpa using j
theorem iJ.map{W bg:World}(h:iJ N l cp W)(i:∀v n xs,W.ownsRow N 3 1 v n xs->bg.ownsRow N 3 1 v n xs):iJ N l cp bg:=λp hp=>i _ _ _ (h p hp)
structure r' (w:World) (l:List Int) (out at_:Value) (ok:Bool) (k:Nat) (W:World):Prop where
 cp:∃cp:List Value,cp.length=k+1/\W.ownsRow w.heap.size 23 1 out (k+1) cp/\iJ w.heap.size l cp W
 here:ok=true->W.ownsRow w.heap.size 3 1 at_ l.length (ints (R.idx l k))
 last:ok=false->(k:Int)+1=R.prod l
 less:(k:Int)<R.prod l
 below:Below w.heap.size w W
def IU(w:World)(l:List Int)(e:Ending)(w':World):Prop :=
 ∃(v:Value) (n:Nat) (cp:List Value),e=.returned v/\(n:Int)=R.prod l/\cp.length=n/\w'.ownsRow w.heap.size 23 1 v n cp/\iJ w.heap.size l cp w'/\Below w.heap.size w w'
def lenOf:Value->Nat
 | .slice _ n _=>n
 | _=>0
def flag:Value->Nat
 | .bool true=>1
 | _=>0
end ai
theorem ai.r'.start(m:∀d∈l,1<=d)(hp:0<R.prod l)(q:l.length<=6):ai.r' w l (.slice (some ⟨w.heap.size+1,0,none⟩) 1 1) (.slice (some ⟨w.heap.size,0,none⟩) l.length l.length) true 0 ((w.alloc (.cells (ints (List.replicate l.length 0)).toArray 3)).alloc (.cells #[.slice (some ⟨w.heap.size,0,none⟩) l.length l.length] 23)):=by
 have i:(w.alloc (.cells (ints (List.replicate l.length 0)).toArray 3)).ownsRow w.heap.size 3 1 (.slice (some ⟨w.heap.size,0,none⟩) l.length l.length) l.length (ints (R.idx l 0)):=by
  have:=yF (base:=w.heap.size) (e:=3) (size:=1) w (ints (List.replicate l.length 0)).toArray l.length (qX _) (by unfold maxLen;omega) (by simp[ints]);rw[R.Gg m];simpa using this
 have j:=yF (base:=w.heap.size) (e:=23) (size:=1) (w.alloc (.cells (ints (List.replicate l.length 0)).toArray 3)) #[.slice (some ⟨w.heap.size,0,none⟩) l.length l.length] 1 (by simp) (by unfold maxLen;omega) (by simp);refine⟨⟨[.slice (some ⟨w.heap.size,0,none⟩) l.length l.length],rfl,by simpa using j,?_⟩,λ_=>i.alloc _,(λh=>by cases h),by omega,((qK _ _).alloc (qX _) _).alloc (by simp) _⟩;intro p hp;have:p=0:=by simpa using hp
 subst this;exact i.alloc _
theorem ai.r'.more{ag aC:World}{bz:Nat}{O:Value}{bt:Option Addr}(M:∀d∈l,1<=d)(y:cp.length=k+1)(x:ag.ownsRow w.heap.size 23 1 O (k+1) cp)(E:ai.iJ w.heap.size l cp ag)(B:ag.ownsRow w.heap.size 3 1 (.slice bt l.length bz) l.length (ints (R.idx l ((k:Int)+1))))(I:(k:Int)+1<R.prod l)(i:Below w.heap.size w ag)(D:aC.ownsRow w.heap.size 23 1 v' (k+1+1) (cp++[.slice bt l.length bz]))(j:(ag.alloc (.cells #[.slice bt l.length bz] 23)).grownBy aC O.ownBlock):ai.r' w l v' (.slice bt l.length bz) true (k+1) aC:=by
 have r:∀v n xs,ag.ownsRow w.heap.size 3 1 v n xs->aC.ownsRow w.heap.size 3 1 v n xs:=λv n xs h=>(h.alloc _).kept j (ai.EM (h.alloc (.cells #[.slice bt l.length bz] 23)) (x.alloc _) (by decide))
 have m:aC.ownsRow w.heap.size 3 1 (.slice bt l.length bz) l.length (ints (R.idx l ((k+1:Nat):Int))):=by
  have:=r _ _ _ B
  rwa [show((k+1:Nat):Int)=(k:Int)+1 by omega]
 refine⟨⟨_,by simp[y],D,(E.map r).snoc (by rw[y];exact m)⟩,λ_=>m,(λh=>by cases h),by omega,?_⟩;exact(i.alloc i.size _).grown j (by have:=i.size;simp;omega) (λq hq=>(x.lt q hq).1)
theorem HM(DA:Option Addr)(N:Nat)(l:List Int)(B:Nat)(w:World)(bg:l.length<=N)(bh:N<=9223372036854775807)(Q:(R.size l).2=0)(hp:0<R.prod l)(ah:B<=w.heap.size)(ar:ai.ao w B DA l):Calls Tryz.prog 80 #[.slice DA l.length N] w (ai.IU w l):=by
 obtain⟨i0,hi,a6,a7,a8⟩:=xQ Tryz.Gi;obtain⟨aI,z2,z3,z4,z5⟩:=R.aB Q;have aF:=R.fD Q hp;obtain⟨O,aW,aV⟩:=aK aF z2 (dC DA N l B w (by omega) ar);have az:ai.b5 l=.tuple #[.int .i64 (R.size l).1,.int .i64 0]:=by unfold ai.b5;rw[Q]
 have aU:=qQ az;have aN:=qQ ar;have a2:l.length<=65536:=by omega
 have aR:=qQ (λW=>dz l.length a2 W);have hq:((R.size l).1 == 0)=false:=by simp;omega
 have bc:=qQ z3;clear ar az Q z2 aF z3;go_enter func80,ntmps80;go_wp2_with fail;refine aV.q.mono ?_;rintro e ag ⟨rfl,rfl⟩;rw[aU.q];have a3:=aR.q;have aP:=qQ (ai.r'.start (w:=w) (l:=l) O.q hp aI);go_wp2_with fail;clear a3;go_loopw [5,6,7] (λa o m wr=>∃(k:Nat) (ok:Bool),m=.bool ok/\ai.r' w l o a ok k wr) (λ_ o m _=>2*(65536-ai.lenOf o)+ai.flag m)
 case atStart=>exact⟨0,true,rfl,aP.q⟩
 obtain⟨k,ok,rfl,j⟩:=hrel;obtain⟨cp,aG,ak,aH⟩:=j.cp;obtain⟨aL,co,rfl,_⟩:=ai.aZ ak;have D:=qQ (qZ aG (qZ ak aH));have aE:=j.less;clear aG ak aH;cases ok with
 | false =>
  have aQ:=qQ (j.last rfl);have y:=qQ j.below;clear j;go_wp2_with fail;go_ret;exact⟨_,k+1,cp,rfl,by have:=aQ.q;omega,D.q.1,D.q.2.1,D.q.2.2,y.q⟩
 | true =>
  obtain⟨aJ,cC,rfl,_⟩:=ai.aZ (j.here rfl);have y:=qQ j.below;have V:=FG DA aJ N cC l (R.idx l k) wr.heap.size wr (R.fs _ _) aI (qX _) ((aN.q.below (y.q.mono ah)).up (qJ ah y.q.size)) (ai.ao.zh (j.here rfl)).2 (λx a5=>by
   obtain⟨i,hi,rfl⟩:=zQ a5;have a1:=(R.k7 l O.q k (by omega)).1;have be:=R.lM a1 i (by rw[<-R.fs l k];exact hi) hi;have bf:=aW.q _ (qP (show i<l.length by rw[<-R.fs l k];exact hi));omega)
  rw[R.fs]at V;obtain⟨aT,bb,av⟩:=aK V (j.here rfl) (R.Kt O.q (p:=(k:Int)) (by omega) aE);clear j V;go_wp2_with fail;refine aT.q.mono ?_;rintro e ag ⟨v,r,a9,rfl,Z,S,I,E⟩;rw[R.fs]at Z I;obtain⟨bt,bz,rfl,_⟩:=ai.aZ I;have X:=aA y.q E;obtain⟨U,a',M⟩:=aK X E (show ag.ownsRow w.heap.size 23 1 (.slice aL (k+1) co) (k+1) cp/\ai.iJ w.heap.size l cp ag from⟨ai.hc D.q.2.1 E,D.q.2.2.map λv n xs h=>ai.hc h E⟩);cases a9 with
  | false =>
   have aO:=qQ (av.q.2 (by rw[S];rfl));have aq:=qQ (ai.fh I y.q.size);clear Z S I E X;go_wp2_with fail;go_roundw
   case rel=>exact⟨k,false,rfl,⟨cp,D.q.1,M.q.1,M.q.2⟩,(λh=>by cases h),λ_=>aO.q,aE,U.q⟩
   case measure=>(simp[ai.lenOf,ai.flag]<;>omega)
  | true =>
   obtain⟨aX,a0⟩:=av.q.1 r (by rw[S];rfl);subst aX;have aq:=qQ (ai.fh I y.q.size);have bj:k+1+1<=65536:=by omega
   have a4:=D.q.1;clear Z S I E X;go_wp2_with (at_builtin;refine kP _ rfl _ _ 52 rfl w.heap.size 23 i0 (.slice none 0 0) 1 24 underlying52 hi a6 a7 a8 rfl (by decide) _ _ _ rfl (M.q.1.alloc _) ⟨ag.heap.size,0,none⟩ 1 1 [.slice bt l.length bz] rfl rfl (cell_one_new _ _ _) (by intro u hu;rw[List.mem_singleton.1 hu];rfl) (by unfold maxLen;omega) (by omega) (by have:=U.q.size;simp;omega) ?_);intro v' aC Y aD _;have ap:=qQ (ai.r'.more O.q a4 M.q.1 M.q.2 aq.q a0 U.q Y aD);obtain⟨a_,bd,rfl,_⟩:=ai.aZ Y;clear Y aD;go_wp2_with fail
   first
    | exact⟨⟨k+1,true,rfl,ap.q⟩,by simp[ai.lenOf,ai.flag];omega⟩
    | (go_roundw
       case rel=>exact⟨k+1,true,rfl,ap.q⟩
       case measure=>(simp[ai.lenOf,ai.flag]<;>omega))
theorem al.nd(n:Int):R.ef n=wrap64 n:=by unfold R.ef wrap64;omega
theorem al.ky(h:(R.size d).2=0):(ad.all d).length<=65536:=by
 have:=(R.aB h).2.2.2.2;unfold ad.all;split
 .simp
 simp;omega
theorem al.sH(l:List Int)(x:Int):ad.da (l++[x])=R.ef (ad.da l+x):=by unfold ad.da;rw[jE];rfl
theorem _root_.VQ{G bm:Prop}(r:bm)(f:dS bm->G:=by
 intro bb;refine(HM DA Ay l B w dt iB eR hp ah ar).mono ?_;rintro e w' ⟨v,n,cp,rfl,fa,du,dP,cw,aE⟩;have cy:ad.all l=(List.range n).map λ(p:Nat)=>R.idx l (p:Int):=by
  unfold ad.all;rw[qV (by omega),<-fa,xY]
 have bE:(ad.all l).length=n:=by rw[cy];simp
 revert w' v n cp fa du dP cw aE cy bE;exact bb.o
 ):G:=f ⟨r⟩
theorem al.q7(DA:Option Addr)(Ay:Nat)(l:List Int)(B:Nat)(w:World)(dt:l.length<=Ay)(iB:Ay<=9223372036854775807)(eR:(R.size l).2=0)(ah:B<=w.heap.size)(ar:ai.ao w B DA l):Calls Tryz.prog 80 #[.slice DA l.length Ay] w λe w'=>∃A c,e=.returned (.slice A (ad.all l).length c)/\af.bu w' w'.heap.size A (ad.all l)/\Below w.heap.size w w':=by
 obtain⟨O,z2,z3,z4,z5⟩:=R.aB eR;by_cases hp:0<R.prod l
 .refine VQ ?_;intro w' v n cp fa du dP cw aE cy bE;obtain⟨A,c,rfl,_⟩:=ai.aZ dP;refine⟨A,c,by rw[bE],λhp=>?_,aE⟩;obtain⟨g,cap,N,_,M⟩:=dP.form (by omega);obtain rfl:A=some ⟨g,0,none⟩:=by injection N
  refine⟨g,0,rfl,M,λi hi=>⟨cp[i]'(by omega),by rw[qI];have h:=dP.cells (g:=g) rfl i _ (qC (show i<cp.length by omega));rwa [jW,qI]at h,?_⟩⟩;have E:=cw i (by omega);obtain⟨bK,c',y,I⟩:=af.b3 (show w'.ownsRow w.heap.size 3 1 (cp[i]'(by omega)) (R.idx l (i:Int)).length (ints (R.idx l (i:Int))) by rw[R.fs];exact E);have D:(ad.all l)[i]=R.idx l (i:Int):=by simp[cy]
  rw[D];exact⟨bK,c',y,I⟩
 have j:(R.size l).1=0:=by omega
 have cy:ad.all l=[]:=by unfold ad.all;rw[qY j]
 rw[cy];obtain⟨x,r,m⟩:=aK (dC DA Ay l B w (by omega) ar) (show ai.b5 l=.tuple #[.int .i64 0,.int .i64 0] by unfold ai.b5;rw[eR,j]) (qK w.heap.size w);clear ar eR O z2 z3 z4 z5 hp j cy;go_enter func80,ntmps80;go_wp2_with fail;refine x.q.mono ?_;rintro e ag ⟨rfl,rfl⟩;rw[r.q];go_wp2_with fail;go_ret;exact⟨_,_,rfl,λh=>by simp at h,m.q⟩
def al.iS(l:List Int):aS.c8:=⟨λv w=>af.aN w w.heap.size v l,λi h=>(h.below i).up i.size⟩
theorem _root_.XA{G:Prop}(h:G:=by
 simp only[zZ,kD,xD]at e;obtain⟨rfl,rfl⟩:=e;exact dt i hi
 ):G:=h
theorem al.kz{B b off:Nat}(h:ai.ao w B (some ⟨b,off,none⟩) l)(i:Nat)(hi:i<l.length):w.cell? ⟨b,off+i,none⟩=some (.int .i64 l[i]):=by
 obtain⟨j,m,e,_,dt⟩:=h (by omega);exact XA
theorem _root_.Xd{G:Prop}(h:G:=by
 rintro e hG ⟨v,rfl,dP,aE⟩;exact aI.q _ _ aE (af.b3 dP)
 ):G:=h
theorem _root_.Xh{G:Prop}(h:G:=by
 go_wp2_with fail;go_ret;rw[pw.q];exact⟨rfl,c7.q⟩
 ):G:=h
theorem _root_.JQ{G:Prop}(h:G:=by
 rintro e hG ⟨rfl,aE⟩;exact aI.q _ _ aE rfl
 ):G:=h
theorem al.zw(bv bu:Value)(y j:ad.ay)(T:Option Addr)(aD:Nat)(t:List Int)(B:Nat)(w:World)(ah:B<=w.heap.size)(bq:al.a1 w B bv y)(bp:al.a1 w B bu j)(bw:ad.cO y)(N:ad.cO j)(hi:ai.ao w B T t)(aR:0<t.length)(b0:t.length<=6)(bY:t.length<=aD)(bh:∀k,R.inside j.I k=true->R.inside y.I (k++t.drop 1)=true):Calls Tryz.prog 114 #[bv,bu,.slice T t.length aD] w λe w'=>e=.returned (.int .i64 (ad.mX y j t))/\Below w.heap.size w w':=by
 obtain⟨bM,bL,bG⟩:=aK (bq.bI ah) (bp.bI ah) (hi.bI ah);obtain⟨A,c,X,x,rfl,-⟩:=bq;obtain⟨bK,c',oi,h',rfl,bf,-,be,-⟩:=bp;obtain⟨ag,bT,bs,a_,-⟩:=b8 w 68 #[.slice A y.I.length c,.slice X y.e.length x];obtain⟨aC,bU,bt,av,-⟩:=b8 ag 68 #[.slice bK j.I.length c',.slice oi j.e.length h'];have Z:=qQ (aA a_ av);obtain⟨Q,a0,ak,a4⟩:=cV (qZ (bs.go av) bt) (al.q7 bK c' j.I B aC be.1 be.2 N.1 (qJ ah Z.q.size) (bf.below (Z.q.mono ah))) (show ad.mX y j t=ad.da (((ad.all j.I).filter λk=>decide (ad.get j k=t.getD 0 0)).map λk=>ad.get y (k++t.drop 1))from rfl) (λi (hi:i<(ad.all j.I).length)=>ad.j7 N.1 (qP hi));have bc:=al.ky N.1;obtain⟨L,bb⟩:=gz (ad.all j.I);rw[bb]at a0 ak a4 bc;have bP:=λi=>Q.q.1.cell i
 have bQ:=λi=>Q.q.2.cell i
 have U:=qQ (qZ bw (qZ N bh));clear bf hi bs bt a_ av bb bw N bh;go_enter func114,ntmps114;go_wp2_with (with_reducible refine a0.q.mono ?_);rintro e aw ⟨bX,lc,rfl,bn,V⟩;obtain⟨a2,bE,a6⟩:=aK (aA Z.q V) bn (qZ (Q.q.1.go V) (Q.q.2.go V));have bV:=a2.q.size;obtain⟨n,aO⟩:=gz L.length;have a7:=qQ (qZ aO True.intro);rw[aO]at bc |-;obtain⟨t0,aT⟩:=gz (t.getD 0 0);have bJ:=qQ (qZ aT True.intro);rw[aT]at ak;clear bn V bP bQ aO aT bT bU;go_wp2_with fail;go_loopw [7,9,14] (λs _ aX wr=>∃k:Nat,aX=.int .i64 (k:Int)/\k<=n/\s=.int .i64 (ad.da (((L.take k).filter λk=>decide (ad.get j k=t0)).map λk=>ad.get y (k++t.drop 1)))/\Below aw.heap.size aw wr) (λ_ _ aX _=>n-(intOf aX).toNat)
 case atStart=>exact⟨0,rfl,by omega,by simp[ad.da],qK _ _⟩
 obtain⟨k,rfl,bZ,rfl,r⟩:=hrel;have O:=qQ r;have c7:=qQ (a2.q.trans (r.mono bV));have br:=r.size;by_cases bm:k<n
 .have aN:k<L.length:=by have:=a7.q.1;omega
  obtain⟨fP,ol,rfl,_,bo⟩:=bE.q.below r (by omega);obtain⟨v,bS,⟨D,cD,rfl,aV,bW,b6⟩⟩:=bo k aN;have Y:=a4.q k aN;have ap:=qQ (qD aN);generalize L[k]=q at bS aV bW Y ap;have bR:=qQ (R.bN Y);have a5:=qQ (U.q.2.2 q Y);obtain⟨M,aQ⟩:=gz (q++t.drop 1);rw[aQ]at a5;have a8:=qQ (qZ aQ True.intro);clear aQ;have b5:=(R.aB U.q.2.1.1).1;have a3:=qQ (λW (b:Below wr.heap.size wr W)=>((aV.below (b.mono r.size)).up (qJ r.size b.size)));have bD:=qQ (λW (b:Below wr.heap.size wr W)=>al.hx _ j D cD q W.heap.size W (qX _) (bL.q W (aA c7.q b)) U.q.2.1 (a3.q W b) Y);have aq:=qQ (λW (b:Below wr.heap.size wr W)=>bG.q W (aA c7.q b));obtain⟨aF,aZ,rfl,_,b1⟩:=aq.q wr (qK _ _) aR;have bH:=qQ (show ∀W,Below wr.heap.size wr W->W.cell? ⟨aF,aZ,none⟩=some (.int .i64 t0)from λW b=>by
   have h:=al.kz (aq.q W b) 0 aR;rw[qL]at h;rw[h,<-bJ.q.1];simp[aR])
  have aJ:=λW (b:Below wr.heap.size wr W)=>qZ (λi=>((a6.q.2.go O.q).go b).cell i) (bH.q W b)
  obtain⟨s,az⟩:∃s,ad.da (((L.take k).filter λk=>decide (ad.get j k=t0)).map λk=>ad.get y (k++t.drop 1))=s:=⟨_,rfl⟩;have a9:=qQ (qZ az True.intro);rw[az];have i1:=b2 k;have i2:(k:Int)<n:=by omega
  have i3:(0:Int)<(t.length:Int):=by omega
  have i4:(1:Int)<=(t.length:Int):=by omega
  have i5:(t.length:Int)<=(aD:Int):=by omega
  clear aV bo r az;go_wp2_with fail;refine aH (l:=[_]) [(0,18,[]),(1,19,[]),(2,20,[0,1]),(3,21,[]),(4,22,[3]),(5,23,[4])] [6] [.eq _,.eq _,.eq (.int .i64 (ad.get j q)),.eq _,.eq _,.eq _]
   (λW=>Below wr.heap.size wr W) (qK _ _).drew ((fr)<|(fr)<|cr ?_<|(fr)<|(fr)<|(fr)<|fg) ?_ (λ_ _ h aL=>aA h aL)
  .intros;rename_i K aI;subst_vars;have m:=(show Below wr.heap.size wr _ by assumption);go_simp;with_reducible refine(bD.q _ m).mono ?_
   exact JQ
  intros;rename_i W m _ _ _ _ _ _;subst_vars;have E:=qQ m;have aU:=m.size;clear aJ m;have bA:=qQ (λbg (b:Below W.heap.size W bg)=>by
   have bd:=E.q.trans (b.mono aU);have h:=af.dK D (if aD=1 then some ⟨aF,aZ,none⟩else some ⟨aF,aZ+1,none⟩) cD (aD-1) q (t.drop 1) bg.heap.size bg (qX _) (by have:=bR.q;omega) (by rw[qS];omega) (a3.q bg bd) (by
    split
    .intro hp;rw[qS]at hp;omega
    exact af.lN (aq.q bg bd) 1)
   rw[qS,a8.q.1]at h;exact h)
  have bO:=qQ (λbg (b:Below W.heap.size W bg)=>bM.q bg (c7.q.trans ((E.q.trans (b.mono aU)).mono c7.q.size)));have bB:=qQ (λbg (b:Below W.heap.size W bg) F aG (aW:ai.ao bg bg.heap.size F M)=>al.hx _ y F aG _ _ _ (qX _) (bO.q _ b) U.q.1 aW a5.q);by_cases hq:ad.get j q=t0
  .have aP:(ad.get j q == t0)=true:=by simpa using hq
   have bF:=qQ (qZ hq True.intro);clear hq;generalize ad.get j q=u at aP |-;go_wp2_with fail;have aJ:=λbg (b:Below W.heap.size W bg)=>qZ (λi=>(((a6.q.1.go O.q).go E.q).go b).cell i) True.intro
   refine aH (l:=[_,_]) [(0,25,[]),(1,26,[]),(2,27,[]),(3,28,[]),(4,29,[3]),(5,30,[2,4]),(6,31,[1,5])] [7,8] [.eq _,.eq _,.eq _,.eq _,.eq _,al.iS M,.eq (.int .i64 (ad.get y M))]
    (λbg=>Below W.heap.size W bg) (qK _ _).drew ((fr)<|(fr)<|(fr)<|(fr)<|(fr)<|cr ?_<|cr ?_<|fg) ?_ (λ_ _ h aL=>aA h aL)
   .intros;rename_i K aI;subst_vars;have m:=(show Below W.heap.size W _ by assumption);go_simp;with_reducible refine(bA.q _ m).mono ?_
    exact Xd
   .intros;rename_i h K aI;subst_vars;have m:=(show Below W.heap.size W _ by assumption);obtain⟨F,aG,rfl,aW,_⟩:=h;go_simp;with_reducible refine(bB.q _ m F aG aW).mono ?_
    exact JQ
   intros;rename_i W2 a' _ _ _ _ _ _ _;subst_vars;have bz:=qQ (E.q.trans (a'.mono aU));have S:=qQ (show ad.da (((L.take (k+1)).filter λk=>decide (ad.get j k=t0)).map λk=>ad.get y (k++t.drop 1))=wrap64 (s+ad.get y M) by
    rw[ap.q,wN,zI,List.filter_cons_of_pos (by simpa using bF.q.1),List.filter_nil,qE,zU,al.sH,a9.q.1,al.nd,a8.q.1])
   clear aJ a';generalize ad.get y M=z at S |-;go_wp2_with fail;go_roundw
   case rel=>exact⟨k+1,by go_num,by omega,by rw[S.q],O.q.trans (bz.q.mono br)⟩
   case measure=>simp[intOf];omega
  have aP:(ad.get j q == t0)=false:=by simpa using hq
  have S:=qQ (show ad.da (((L.take (k+1)).filter λk=>decide (ad.get j k=t0)).map λk=>ad.get y (k++t.drop 1))=s by
   rw[ap.q,wN,zI,List.filter_cons_of_neg (by simpa using hq),List.filter_nil,zU,xM,a9.q.1])
  generalize ad.get j q=u at aP |-;go_wp2_with fail;go_roundw
  case rel=>exact⟨k+1,by go_num,by omega,by rw[S.q],O.q.trans (E.q.mono br)⟩
  case measure=>simp[intOf];omega
 have bm:n=k:=by omega
 subst bm;have pw:=qQ (show ad.mX y j t=ad.da (((L.take n).filter λk=>decide (ad.get j k=t0)).map λk=>ad.get y (k++t.drop 1)) by
  rw[ak.q,qT (by have:=a7.q.1;omega)])
 exact Xh
end Go.Proofs.YtabmnaaidfpmcaaGreatDoor
end
section
namespace ad
theorem hX(d l:List Int):(J.free d l).length<=d.length:=by
 unfold J.free;refine qJ (uR _ _) ?_;unfold R.c1;rw[zJ,vU];exact qX _
theorem CQ(M:k<t.length)(n:Int):ck t.length (J.free t [(k:Int)]) (J.aq t (J.free t [(k:Int)])) [(k:Int)] [n]=t.set k n:=by
 obtain⟨f1,f2⟩:=eF t [(k:Int)];have q:(J.free t [(k:Int)]).length=(J.aq t (J.free t [(k:Int)])).length:=by rw[J.aW]
 have m1:∀p∈(J.free t [(k:Int)]).zip (J.aq t (J.free t [(k:Int)])),p.1.toNat<(List.replicate t.length (0:Int)).length:=λp hp=>by
  have:=((f1 p.1).1 (kT hp).1).1;rw[zP];omega
 have bJ:(((J.free t [(k:Int)]).zip (J.aq t (J.free t [(k:Int)]))).map λp=>p.1.toNat).Nodup:=by rw[zip_fst q];exact qh f2 (λj E=>((f1 j).1 E).1.1)
 have B:ck t.length (J.free t [(k:Int)]) (J.aq t (J.free t [(k:Int)])) [(k:Int)] [n]=(cG ((J.free t [(k:Int)]).zip (J.aq t (J.free t [(k:Int)]))) (List.replicate t.length 0)).set k n:=by
  unfold ck;generalize cG ((J.free t [(k:Int)]).zip (J.aq t (J.free t [(k:Int)]))) (List.replicate t.length 0)=o;simp[cG]
 rw[B];refine jP (by rw[xJ,xJ,e4,zP]) (λj m I=>?_);rw[xJ,e4,zP]at m;rw[kG,kG];by_cases e:k=j
 .rw[qY e,qY e]
 rw[qV e,qV e];have D:(j:Int)∈J.free t [(k:Int)]:=(f1 _).2 ⟨by omega,by simp;omega⟩;obtain⟨i,hi,r⟩:=zQ D;have y:=nJ (k:=j) (x:=t[j]) bJ m1 ⟨((J.free t [(k:Int)])[i],(J.aq t (J.free t [(k:Int)]))[i]'(by rw[<-q];exact hi)),uo hi (by rw[<-q];exact hi),by rw[r];simp,by
  simp only[J.aq,vC,r];show t.getD (j:Int).toNat 0=_;simp[m]⟩
 rw[qU,qC (by rw[e4,zP];exact m)]at y;exact y
end ad
namespace Go.Proofs.YtabmnaaidfpmcaaGreatDoor
open Go.RowKit aS
namespace al
theorem a1.parts{B:Nat}{D X:Option Addr}{x m:Nat}{a:ad.ay}(h:a1 w B (.agg #[.slice D n c,.slice X m x]) a):ai.ao w B D a.I/\ai.ao w B X a.e/\(a.I.length<=c/\c<=9223372036854775807)/\a.e.length<=x/\x<=9223372036854775807:=by
 obtain⟨_,_,_,_,e,h⟩:=h;simp only[yC,kV,zT,xO,xD]at e;obtain⟨⟨rfl,_,rfl⟩,rfl,_,rfl⟩:=e;exact h
def bo(w:World)(B:Nat)(A:Option Addr)(l:List ad.ay):Prop :=
 0<l.length->∃b off,A=some ⟨b,off,none⟩/\b<B/\∀i (h:i<l.length),∃D c X x,w.cell? ⟨b,off+i*2,none⟩=some (.slice D l[i].I.length c)/\w.cell? ⟨b,off+i*2+1,none⟩=some (.slice X l[i].e.length x)/\a1 w B (.agg #[.slice D l[i].I.length c,.slice X l[i].e.length x]) l[i]
theorem bo.below{w w':World}{B:Nat}{A:Option Addr}{l:List ad.ay}(h:bo w B A l)(j:Below B w w'):bo w' B A l:=λhp=>by
 obtain⟨b,off,e,m,E⟩:=h hp;refine⟨b,off,e,m,λi hi=>?_⟩;obtain⟨D,c,X,x,q,r,y⟩:=E i hi;exact⟨D,c,X,x,(j.cell (p:=⟨b,off+i*2,none⟩) m).trans q,(j.cell (p:=⟨b,off+i*2+1,none⟩) m).trans r,y.below j⟩
theorem bo.up{w:World}{B B':Nat}{A:Option Addr}{l:List ad.ay}(h:bo w B A l)(j:B<=B'):bo w B' A l:=λhp=>by
 obtain⟨b,off,e,E,y⟩:=h hp;refine⟨b,off,e,zW E j,λi hi=>?_⟩;obtain⟨D,c,X,x,m,q,r⟩:=y i hi;exact⟨D,c,X,x,m,q,r.up j⟩
theorem bo.bI{B:Nat}{l:List ad.ay}(h:bo w B A l)(ah:B<=w.heap.size)(W:World)(b:Below w.heap.size w W):bo W W.heap.size A l:=(h.below (b.mono ah)).up (qJ ah b.size)
end al
theorem al.v7(k:Nat)(t:List Int)(a:ad.ay)(r:List ad.ay)(n:Int):ad.cU k t (a::r) n=if n<a.I.getD k 0 then ad.get a (t.set k n)else ad.cU k t r (n-a.I.getD k 0):=rfl
theorem _root_.ZJ{G:Prop}(h:G:=by
 intros;rename_i c2 K aI;subst_vars;have a_:=(show Below aC.heap.size aC _ by assumption);obtain⟨FB,aO,rfl,nk,-⟩:=c2;go_simp;with_reducible refine(cb.q _ a_ FB aO nk).mono ?_
 rintro e hG ⟨v,rfl,dP,aE⟩;exact aI.q _ _ aE (af.b3 dP)
 ):G:=h
theorem _root_.ZM{G:Prop}(h:G:=by
 intros;rename_i K aI;subst_vars;go_simp;exact aI.q _ _ ((qK _ _).alloc (qX _) _) (af.dY (n:=1) (by rw[<-hl.q.1];exact av.new _ _ _) (by rw[<-hl.q.1];rfl) (by omega))
 ):G:=h
theorem al.xf(aM:Value)(op:J.Op)(G:Option Addr)(cg:Nat)(args:List ad.ay)(T:Option Addr)(aD:Nat)(t:List Int)(B:Nat)(w:World)(ah:B<=w.heap.size)(cw:af.bd w B aM op)(bG:al.bo w B G args)(U:∀a∈args,ad.cO a)(hi:ai.ao w B T t)(cJ:t.length<=aD)(cM:t.length<=6)(cj:args.length<=1099511627776)(k:Nat)(az:op.a=[(k:Int)])(S:k<t.length)(cx:∀x∈t,0<=x/\x<=4096)(bK:∀a∈args,a.I.length=t.length/\∀n,0<=n->n<a.I.getD k 0->R.inside a.I (t.set k n)=true):Calls Tryz.prog 113 #[aM,.slice G args.length cg,.slice T t.length aD] w λe w'=>e=.returned (.int .i64 (ad.h5 op args t))/\Below w.heap.size w w':=by
 have br:=qQ (hi.bI ah);have b5:=qQ (bG.bI ah);obtain⟨v1,v2,v3,v4,v5,rfl,-,⟨O,co,rfl,io,lo,cW⟩,-⟩:=cw;have b_:=qQ (io.bI ah);have bM:op.a.length=1:=by rw[az];rfl
 rw[bM]at lo |-;obtain⟨ag,cy,bQ,N,-⟩:=b8 w 58 #[.int .i64 op.k,v1,.slice O 1 co,v3,v4,v5,.int .i64 op.v];obtain⟨cH,cY,rfl,-,bL⟩:=b_.q ag N (by omega);have a7:=bL 0 (by omega);rw[qL]at a7;have bA:op.a[0]=(k:Int):=by simp[az]
 rw[bA]at a7;obtain⟨bv,bR,rfl,-,bN⟩:=br.q ag N (by omega);have bP:=bN k S;have bs:=qQ (cx _ (qP S));have aL:=qQ (show ad.h5 op args t=ad.cU k t args t[k] by
  unfold ad.h5;rw[az];simp[S])
 have bu:=qQ (qZ U bK);have bX:=qQ N;have cp:=λi=>bQ.cell i
 obtain⟨aG,bO⟩:=gz (t[k]);rw[bO]at bP aL bs;have i1:=b2 k;have i2:(k:Int)<(t.length:Int):=by omega
 have i3:(0:Int)<1:=by omega
 have cB:=N.size;clear hi bG io bL bN bA bO bQ N az bM;go_enter func113,ntmps113;go_wp2_with fail;obtain⟨n,a6⟩:=gz args.length;have bq:=qQ (qZ a6 True.intro);rw[a6]at cj |-;clear a6 a7 bP cp cy;go_loopw [8,10,21] (λs _ a9 wr=>∃(i:Nat) (m:Int),a9=.int .i64 (i:Int)/\i<=n/\s=.int .i64 m/\(0<=m/\m<=4096)/\ad.cU k t args aG=ad.cU k t (args.drop i) m/\Below ag.heap.size ag wr) (λ_ _ a9 _=>n-(intOf a9).toNat)
 case atStart=>exact⟨0,aG,rfl,by omega,rfl,bs.q,by rw[vV],qK _ _⟩
 obtain⟨i,m,rfl,hi,rfl,hm,bJ,a3⟩:=hrel;have aN:=qQ bJ;have c7:=qQ (bX.q.trans (a3.mono cB));have cN:=c7.q.size;by_cases bK:i<n
 .have aF:i<args.length:=by have:=bq.q.1;omega
  obtain⟨fI,fM,rfl,-,bH⟩:=b5.q wr c7.q (by omega);obtain⟨D,cD,X,cf,cZ,c0,a2⟩:=bH i aF;have U:=bu.q.1 _ (qP aF);have aK:=bu.q.2 _ (qP aF);have bf:=qQ (zX aF);generalize args[i]=a at *;obtain⟨ar,cA,cn,BD⟩:=a2.parts;have a4:k<a.I.length:=by rw[aK.1];exact S
  obtain⟨bw,bS,rfl,cm,bD⟩:=ar (by omega);have bF:=bD k a4;obtain⟨bg,V,cG,aP⟩:=cV ((R.aB U.1).2.1 _ (qP a4)) (qZ (show a.I.getD k 0=a.I[k] by simp[a4]) True.intro) (qZ aK.1 True.intro) (qZ aK.2 U);obtain⟨aV,bE⟩:=gz (a.I[k]);rw[bE]at bF bg V;rw[V.q.1]at aP;obtain⟨aC,cz,a8,E,-⟩:=b8 wr 68 #[.slice (some ⟨bw,bS,none⟩) a.I.length cD,.slice X a.e.length cf];have bY:=qQ E;have b9:=qQ a8;have cI:=λi=>a8.cell i
  have cL:=(E.cell (p:=⟨bw,bS+k,none⟩) cm).trans bF;have bc:=qQ (aA c7.q E);have bW:=qQ (λW (b:Below aC.heap.size aC W)=>((a2.below E).up E.size).below b |>.up b.size);have cP:=b2 i;have cQ:(i:Int)<n:=by omega
  have cT:(k:Int)<(a.I.length:Int):=by omega
  clear bH ar cA cn BD U aK bD bE bJ a2 a8 E;by_cases a5:m<aV
  .have bh:=qQ (show ad.h5 op args t=ad.get a (t.set k m) by rw[aL.q,aN.q,bf.q,al.v7,V.q.1,qY a5]);have M:=qQ (qZ (ad.CQ S m) True.intro);have Y:=qQ (λj (cq:j∈J.free t [(k:Int)])=>((ad.eF t [(k:Int)]).1 j).1 cq |>.1);have bB:=ad.hX t [(k:Int)];obtain⟨r,Q⟩:=gz ([(k:Int)]);have hl:=qQ (qZ Q True.intro);have Z:=qQ (show r.length=1/\∀j∈r,0<=j/\j<(t.length:Int) by rw[<-Q];simp;omega);obtain⟨ak,ap⟩:=gz ([m]);have bp:=qQ (qZ ap True.intro);have bn:=qQ (show ak.length=1 by rw[<-ap];rfl);rw[Q,ap]at M;rw[Q]at Y bB;clear ap;have cd:=qQ (λW (b:Below aC.heap.size aC W)=>br.q W (aA bc.q b));obtain⟨F,a0⟩:=gz (J.free t r);have cb:=qQ (λW (b:Below aC.heap.size aC W) A aU (h:ai.ao W W.heap.size A r)=>by
    have y:=af.hW (some ⟨bv,bR,none⟩) A aD aU r t W.heap.size W (qX _) (by rw[Z.q.1];omega) (by omega) h
    rwa [a0]at y)
   rw[a0]at M Y bB;obtain⟨C,hC⟩:=gz (J.aq t F);have be:=qQ (show F.length=C.length by rw[<-hC,J.aW]);have b1:=qQ (λW (b:Below aC.heap.size aC W) A aU (h:ai.ao W W.heap.size A F)=>by
    have y:=af.eE (some ⟨bv,bR,none⟩) A aD aU F t W.heap.size W (qX _) (by omega) (by omega) Y.q h (cd.q W b)
    rwa [hC]at y)
   rw[hC]at M;have bm:=qQ (aP.q.1 m hm.1 a5);obtain⟨P,a1⟩:=gz (t.set k m);have ca:=qQ (show P.length=t.length by rw[<-a1,xJ]);rw[a1]at M bm bh;have b':=qQ (λW (b:Below aC.heap.size aC W) aQ bt a' bb aO bz aR aT (c2:ai.ao W W.heap.size aQ F) (y:ai.ao W W.heap.size bt C) (aX:ai.ao W W.heap.size a' r) (aZ:ai.ao W W.heap.size bb ak)=>by
    have h:=al.mr t.length aQ bt a' bb aO bz aR aT F C r ak W.heap.size W (qX _) (by omega) (by omega) (by rw[Z.q.1];omega) (by rw[<-be.q];exact qX _) (by rw[Z.q.1,bn.q];exact qX _) (by have:=be.q;omega) (by rw[bn.q];omega) c2 y aX aZ Y.q Z.q.2
    rwa [M.q.1]at h)
   clear a0 hC a1 Q;go_wp2_with fail;clear cz;have aJ:=λW (b:Below aC.heap.size aC W)=>qZ (λi=>(b9.q.go b).cell i) True.intro
   refine aH (l:=[_,_]) [(0,32,[]),(1,33,[]),(2,34,[1]),(3,35,[]),(4,36,[]),(5,37,[4]),(6,38,[3,5]),(7,39,[]),(8,40,[]),(9,41,[]),(10,42,[9]),(11,43,[8,10]),(12,44,[7,11]),(13,45,[]),(14,46,[13]),(15,47,[]),(16,48,[15]),(17,49,[2,6,12,14,16])] [18,19] [.eq _,.eq _,.eq _,.eq _,.eq _,al.iS r,al.iS F,.eq _,.eq _,.eq _,al.iS r,al.iS F,al.iS C,.eq _,al.iS r,.eq _,al.iS ak,al.iS P]
    (λW=>Below aC.heap.size aC W) (qK _ _).drew ((fr)<|(fr)<|(fr)<|(fr)<|(fr)<|cr ?_<|cr ?_<|(fr)<|(fr)<|(fr)<|cr ?_<|cr ?_<|cr ?_<|(fr)<|cr ?_<|(fr)<|cr ?_<|cr ?_<|fg) ?_ (λ_ _ h ci=>aA h ci)
   .exact ZM
   .exact ZJ
   .exact ZM
   .exact ZJ
   .intros;rename_i c2 K aI;subst_vars;have a_:=(show Below aC.heap.size aC _ by assumption);obtain⟨FB,aO,rfl,nk,-⟩:=c2;go_simp;with_reducible refine(b1.q _ a_ FB aO nk).mono ?_
    exact Xd
   .exact ZM
   .intros;rename_i K aI;subst_vars;go_simp;exact aI.q _ _ ((qK _ _).alloc (qX _) _) (af.dY (n:=1) (by rw[<-bp.q.1];exact av.new _ _ _) (by rw[<-bp.q.1];rfl) (by omega))
   .intros;rename_i c2 y aX aZ K aI;subst_vars;have a_:=(show Below aC.heap.size aC _ by assumption);obtain⟨FB,aO,rfl,nk,-⟩:=c2;obtain⟨bT,bz,rfl,cC,-⟩:=y;obtain⟨bU,aR,rfl,cE,-⟩:=aX;obtain⟨bV,aT,rfl,cF,-⟩:=aZ;go_simp;with_reducible refine(b'.q _ a_ FB bT bU bV aO bz aR aT nk cC cE cF).mono ?_
    rintro e hG ⟨rfl,cl,aE⟩;exact aI.q _ _ aE (af.dY cl ca.q (by omega))
   intros;rename_i W a_ _ _ _ _ _ _ _ _ _ _ _ _ _ _ _ _ _ h;subst_vars;obtain⟨FB,aO,rfl,nk,-⟩:=h;have b6:=qQ (al.hx _ a FB aO P W.heap.size W (qX _) (bW.q W a_) aP.q.2 nk bm.q);have b0:=qQ (aA bc.q a_);clear a_ aJ nk;go_wp2_with (with_reducible refine b6.q.mono ?_);rintro e hG ⟨rfl,aE⟩;have bZ:=qQ (aA b0.q aE);clear aE;go_wp2_with fail;go_ret;rw[bh.q];exact⟨rfl,bZ.q⟩
  have b7:=qQ (show ad.cU k t args aG=ad.cU k t (args.drop (i+1)) (m-aV) by rw[aN.q,bf.q,al.v7,V.q.1,qV a5]);have cK:=bg.q;go_wp2_with fail;go_roundw
  case rel=>exact⟨i+1,m-aV,by go_num,by omega,rfl,by omega,b7.q,a3.trans (bY.q.mono a3.size)⟩
  case measure=>simp[intOf];omega
 have cu:i=n:=by omega
 subst cu;have pw:=qQ (show ad.h5 op args t=0 by
  rw[aL.q,aN.q,kQ (by have:=bq.q.1;omega)];rfl)
 exact Xh
end Go.Proofs.YtabmnaaidfpmcaaGreatDoor
end
section
namespace ad
def ue(op:J.Op)(d t:List Int)(k:Nat):Bool:=decide (0<=t.getD k 0-op.l.getD k 0) && decide ((t.getD k 0-op.l.getD k 0) % op.s.getD k 0=0) && decide ((t.getD k 0-op.l.getD k 0) / op.s.getD k 0<d.getD k 0)
theorem wm(op:J.Op)(d t:List Int):rh op d t=(List.range t.length).all (ue op d t):=rfl
theorem EN{op:J.Op}(j:k<t.length)(h:ue op d t k=false):rh op d t=false:=by
 rw[wm];refine Bool.eq_false_iff.2 (λi=>?_);have:=List.all_eq_true.1 i k (List.mem_range.2 j);rw[h]at this;cases this
theorem n3(op:J.Op)(t:List Int):(dI op t).length=t.length:=by simp[dI]
end ad
namespace Go.Proofs.YtabmnaaidfpmcaaGreatDoor
open Go.RowKit aS
theorem _root_.XJ{G:Prop}(h:G:=by
 clear gn nh;go_wp2_with fail
 go_quiet (fail)
 go_wp2_with fail;go_ret;rw[cj.q];exact⟨rfl,zV c7.q _⟩
 ):G:=h
theorem al.zm(aM di:Value)(op:J.Op)(a:ad.ay)(T:Option Addr)(aD:Nat)(t:List Int)(B:Nat)(w:World)(ah:B<=w.heap.size)(bw:af.bd w B aM op)(aX:al.a1 w B di a)(bb:ad.cO a)(hi:ai.ao w B T t)(bv:t.length<=aD)(bx:t.length<=6)(du:op.l.length=t.length)(az:op.s.length=t.length)(ar:a.I.length=t.length)(a_:∀x∈t,0<=x/\x<=4096)(a6:∀x∈op.l,0<=x/\x<=4096)(a9:∀x∈op.s,1<=x/\x<=4096)(a2:ad.rh op a.I t=true->R.inside a.I (ad.dI op t)=true):Calls Tryz.prog 111 #[aM,di,.slice T t.length aD] w λe w'=>e=.returned (.int .i64 (ad.hf op a t))/\Below w.heap.size w w':=by
 have bn:=qQ (hi.bI ah);have bg:=qQ (aX.bI ah);obtain⟨v1,v2,v3,v4,v5,rfl,-,-,⟨L,aW,rfl,be,bH,bJ⟩,-,⟨S,cs,rfl,is,ls,ms⟩⟩:=bw;have aP:=qQ (λW (b:Below w.heap.size w W)=>qZ ((be.below (b.mono ah)).up (qJ ah b.size)) ((is.below (b.mono ah)).up (qJ ah b.size)));obtain⟨A,aU,X,aV,rfl,aZ,-,bu,-⟩:=aX;have bl:=qQ (aZ.bI ah);have Q:=qQ (qZ du (qZ az (qZ ar (qZ a_ (qZ a6 (qZ a9 (qZ bb a2)))))));have a7:=λW=>dz t.length (by omega) W
 obtain⟨n,V⟩:=gz t.length;have eQ:=qQ (qZ V True.intro);rw[V]at bv bx a7;rw[du,az,ar,V];obtain⟨ag,bB,aG,ap,-⟩:=b8 w 58 #[.int .i64 op.k,v1,v2,.slice L n aW,v4,.slice S n cs,.int .i64 op.v];obtain⟨aC,bD,aH,E,-⟩:=b8 ag 68 #[.slice A n aU,.slice X a.e.length aV];obtain⟨aw,bF,bf,bA,-⟩:=b8 aC 3 (ints (List.replicate n 0)).toArray;obtain⟨aL,aN,bm⟩:=aK ((aA ap E).trans (bA.mono (qJ ap.size E.size))) (qZ ((aG.go E).go bA) (aH.go bA)) bf;have bW:=aL.q.size;have ak:=qQ (show ag.heap.size<aC.heap.size/\w.heap.size<aC.heap.size from⟨aH.lt,zW aG.lt E.size⟩);clear hi du az ar a_ a6 a9 bb a2 V be is aZ aG aH bf ap E bA bH bJ ls ms bu;go_enter func111,ntmps111;go_wp2_with fail;clear a7 bB bD bF;go_loopw [8,9,10,16] (λ_ _ _ aI wr=>∃k:Nat,aI=.int .i64 (k:Int)/\k<=n/\(∀j,j<k->ad.ue op a.I t j=true)/\Below w.heap.size w wr/\aw.heap.size<=wr.heap.size/\av wr w.heap.size 58 #[.int .i64 op.k,v1,v2,.slice L n aW,v4,.slice S n cs,.int .i64 op.v]/\av wr ag.heap.size 68 #[.slice A n aU,.slice X a.e.length aV]/\av wr aC.heap.size 3 (ints ((ad.dI op t).take k++List.replicate (n-k) 0)).toArray) (λ_ _ _ aI _=>n-(intOf aI).toNat)
 case atStart=>exact⟨0,rfl,by omega,λj h=>by omega,aL.q,qX _,aN.q.1,aN.q.2,bm.q⟩
 obtain⟨k,rfl,bU,aE,m,bG,M,N,O⟩:=hrel;obtain⟨aJ,c7,D⟩:=aK aE m (qZ M (qZ N O));by_cases a4:k<n
 .obtain⟨f1,f2,f3,f4,f5,f6,f7,f8⟩:=Q.q;have bq:=eQ.q.1;have cy:k<t.length:=by omega
  have bE:k<op.l.length:=by omega
  have r:k<op.s.length:=by omega
  have U:k<a.I.length:=by omega
  obtain⟨bR,b0,rfl,-,a'⟩:=bn.q wr m (by omega);obtain⟨sc,bY,rfl,-,a5⟩:=(aP.q wr m).1 (by omega);obtain⟨bQ,bZ,rfl,-,a8⟩:=(aP.q wr m).2 (by omega);obtain⟨DI,bX,rfl,-,a0⟩:=bl.q wr m (by omega);have bO:=a' k cy;have b':=a5 k bE;have ca:=a8 k r;have cl:=a0 k U;have bK:=f4 _ (qP cy);have bL:=f5 _ (qP bE);have bM:=f6 _ (qP r);have bN:=(R.aB f7.1).2.1 _ (qP U);have gn:=qQ (show ad.ue op a.I t k=(decide (0<=t[k]-op.l[k]) && decide ((t[k]-op.l[k]) % op.s[k]=0) && decide ((t[k]-op.l[k]) / op.s[k]<a.I[k])) by
   unfold ad.ue;simp[cy,bE,r,U])
  have nh:=qQ (show(ad.dI op t).take (k+1)=(ad.dI op t).take k++[(t[k]-op.l[k]) / op.s[k]] by
   rw[qD (by rw[ad.n3];exact cy)];simp[ad.dI,cy,bE,r])
  generalize t[k]=x at bO bK gn nh;generalize op.l[k]=y at b' bL gn nh;generalize op.s[k]=s at ca bM gn nh;generalize a.I[k]=aq at cl bN gn;have br:=λi=>M.cell i
  have bt:=λi=>N.cell i
  have i1:=b2 k;have i2:(k:Int)<n:=by omega
  have Z:=qQ (λh=>show ad.hf op a t=0 by unfold ad.hf;rw[ad.EN cy h];rfl);have bP:=qQ (qZ cy True.intro);clear f1 f2 f3 f4 f5 f6 f7 f8 bq cy bE r U a' a5 a8 a0 aE M N O m;by_cases aO:x-y<0
  .have d1:decide (x-y<0)=true:=zD aO;have cj:=qQ (Z.q (by rw[gn.q,zN (by omega)];rfl));exact XJ
  have d1:decide (x-y<0)=false:=zN aO;by_cases bz:(x-y) % s=0
  .have bo:((x-y) % s != 0)=false:=by simpa using bz
   by_cases aT:(x-y) / s<aq
   .have d3:decide (aq<=(x-y) / s)=false:=zN (by omega);have du:=ad.n3 op t;have bS:wr.cell? ⟨aC.heap.size,k,none⟩=some (.int .i64 0):=by
     rw[D.q.2.2.cell];have bE:n-k=(n-(k+1))+1:=by omega
     have cy:((ad.dI op t).take k).length=k:=by rw[qM,du,eQ.q.1];omega
     have r:((ad.dI op t).take k++List.replicate (n-k) 0)[k]?=some 0:=by rw[zO (by omega),cy,xB,bE];rfl
     unfold ints;rw[jY,jT,r];rfl
    have bT:=D.q.2.2.frozen k;have aQ:=qQ (D.q.2.2.bs k (.int .i64 ((x-y) / s)));have aR:=qQ (show(ints ((ad.dI op t).take k++List.replicate (n-k) 0)).toArray.setIfInBounds k (.int .i64 ((x-y) / s))=(ints ((ad.dI op t).take (k+1)++List.replicate (n-(k+1)) 0)).toArray from by
     have cy:((ad.dI op t).take k).length=k:=by rw[qM,du,eQ.q.1];omega
     have bE:n-k=(n-(k+1))+1:=by omega
     rw[ints_set,nh.q,bE,qF,jZ _ _ (by omega),cy,xB,kY,zE];rfl)
    have bk:=qQ (show ad.ue op a.I t k=true by rw[gn.q,zD (by omega),zD bz,zD aT];rfl);rw[aR.q]at aQ;have bj:=qQ ((c7.q.setCell (p:=⟨aC.heap.size,k,none⟩) (by show w.heap.size<=aC.heap.size;have:=ak.q;omega) (.int .i64 ((x-y) / s))));clear gn nh du aR;generalize bV:(x-y) / s=v at *;go_wp2_with fail
    go_quiet (fail)
    go_wp2_with fail;exact⟨⟨k+1,by go_num,by omega,λj a3=>by
     rcases jQ j k with h | h
     .exact aJ.q j h
     rw[show j=k by omega];exact bk.q,zV bj.q _,by simpa using bG,(D.q.1.cR (by show w.heap.size≠aC.heap.size;have:=ak.q;omega) _),(D.q.2.1.cR (by show ag.heap.size≠aC.heap.size;have:=ak.q;omega) _),aQ.q⟩,by simp[intOf];omega⟩
   have d3:decide (aq<=(x-y) / s)=true:=zD (by omega);have cj:=qQ (Z.q (by rw[gn.q,zN aT];simp));exact XJ
  have bo:((x-y) % s != 0)=true:=by simpa using bz
  have cj:=qQ (Z.q (by rw[gn.q,zN bz];simp));exact XJ
 have a4:n=k:=by omega
 subst a4;have aF:ad.rh op a.I t=true:=by
  rw[ad.wm];exact List.all_eq_true.2 (λj a3=>aJ.q j (by have:=List.mem_range.1 a3;have:=eQ.q.1;omega))
 have cj:=qQ (show ad.hf op a t=ad.get a (ad.dI op t) by unfold ad.hf;rw[qY aF]);have du:=ad.n3 op t;rw[qT (by rw[du,eQ.q.1];exact qX _),xB,qG,xM]at O;obtain⟨F,bp,e,bc,-⟩:=af.dY (n:=n) O (by rw[du];exact eQ.q.1) (by omega);rw[show(ad.dI op t).length=n by rw[du];exact eQ.q.1]at e;have Y:=qQ (al.hx _ a F bp _ wr.heap.size wr (qX _) (bg.q wr c7.q) Q.q.2.2.2.2.2.2.1 bc (Q.q.2.2.2.2.2.2.2 aF));rw[show(ad.dI op t).length=n by rw[du];exact eQ.q.1]at Y;injection e with cy bE r
 subst cy r;have br:=λi=>M.cell i
 have bt:=λi=>N.cell i
 rw[show a.I.length=n by rw[Q.q.2.2.1];exact eQ.q.1]at Y;clear M N O aF du bc m aE;go_wp2_with (with_reducible refine Y.q.mono ?_);rintro e b1 rfl m;have bh:=qQ (aA c7.q m);clear m;go_wp2_with fail;go_ret;rw[cj.q];exact⟨rfl,bh.q⟩
structure al.pI (w aw:World) (xh ab g':Nat) (co cC:Array Value) (l:List Int) (wr:World):Prop where
 b:Below w.heap.size w wr
 z:aw.heap.size<=wr.heap.size
 o:av wr xh 58 co
 a:av wr ab 68 cC
 f:av wr g' 3 (ints l).toArray
theorem al.pI.set{w aw wr:World}{xh ab g':Nat}{co cC:Array Value}{l l':List Int}{k:Nat}{x:Int}(h:al.pI w aw xh ab g' co cC l wr)(i:w.heap.size<=g')(j:xh≠g')(m:ab≠g')(e:l.set k x=l'):al.pI w aw xh ab g' co cC l' (wr.setCell ⟨g',k,none⟩ (.int .i64 x)):=by
 refine⟨h.b.setCell (p:=⟨g',k,none⟩) i _,by simpa[World.setCell]using h.z,h.o.cR j _,h.a.cR m _,?_⟩;have:=h.f.bs k (.int .i64 x)
 rwa [ints_set,e]at this
theorem al.pI.below{aw wr W:World}{xh ab g':Nat}{co cC:Array Value}(h:al.pI w aw xh ab g' co cC l wr)(i:Below wr.heap.size wr W):al.pI w aw xh ab g' co cC l W:=⟨h.b.trans (i.mono h.b.size),qJ h.z i.size,h.o.go i,h.a.go i,h.f.go i⟩
theorem al.take_set(q:l.length=n)(y:k<n)(r:l.getD k 0=x):(l.take k++List.replicate (n-k) 0).set k x=l.take (k+1)++List.replicate (n-(k+1)) 0:=by
 have i:(l.take k).length=k:=by rw[qM,q];omega
 have j:n-k=(n-(k+1))+1:=by omega
 have m:l[k]'(by omega)=x:=by rw[<-r];simp[show k<l.length by omega]
 rw[qD (show k<l.length by omega),m,j,qF,jZ _ _ (by omega),i,xB,kY,zE];rfl
def al.tQ(op:J.Op)(t:List Int):List Int:=op.a.map λ(k:Int)=>t.getD k.toNat 0
theorem al.pI.cell{w aw wr:World}{xh ab g':Nat}{co cC:Array Value}{l:List Int}{k:Nat}(h:al.pI w aw xh ab g' co cC l wr)(i:k<l.length):wr.cell? ⟨g',k,none⟩=some (.int .i64 (l.getD k 0)):=by
 rw[h.f.cell];unfold ints;simp[i]
theorem _root_.Qz{G:Prop}(h:G:=by
 obtain⟨F,MR,e,Mx,-⟩:=af.dY (n:=m) fL.f vz (by omega);rw[vz]at e;have K':=qQ (al.hx _ a F MR _ wr.heap.size wr (qX _) (Hc.q wr fL.b) cb.q.2.1 Mx o7.q);rw[vz,eX.q.1]at K';injection e with cy bE hs
 subst cy hs;have gV:=λi=>fL.o.cell i
 have iQ:=λi=>fL.a.cell i
 have c7:=qQ fL.b;clear fL Mx vz;go_wp2_with (with_reducible refine K'.q.mono ?_);rintro e hG rfl aE;have Du:=qQ (aA c7.q aE);clear aE;go_wp2_with fail;go_ret;rw[cj.q];exact⟨rfl,Du.q⟩
 ):G:=h
theorem al.A'(aM di:Value)(op:J.Op)(a:ad.ay)(T:Option Addr)(aD:Nat)(t:List Int)(B:Nat)(w:World)(ah:B<=w.heap.size)(bc:af.bd w B aM op)(aI:al.a1 w B di a)(aF:ad.cO a)(hi:ai.ao w B T t)(a_:t.length<=aD)(bf:t.length<=6)(aQ:∀x∈t,0<=x/\x<=4096)(aq:op.k=9)(aT:op.a.length=a.I.length/\∀j∈op.a,0<=j/\j<(t.length:Int))(aN:R.inside a.I (ad.cF op a.I t)=true):Calls Tryz.prog 115 #[aM,di,.slice T t.length aD] w λe w'=>e=.returned (.int .i64 (ad.get a (ad.cF op a.I t)))/\Below w.heap.size w w':=by
 obtain⟨aH,a3,Hc⟩:=aK (show ad.cF op a.I t=al.tQ op t by unfold ad.cF;rw[qY aq];rfl) (hi.bI ah) (aI.bI ah);obtain⟨v1,v2,v3,v4,v5,rfl,-,⟨K,ak,rfl,aU,bk,mk⟩,⟨L,ap,rfl,aV,bl,bm⟩,-,⟨S,cs,rfl,is,ls,ms⟩⟩:=bc;have be:op.a.length<=9223372036854775807:=by omega
 have a0:=qQ (λW (b:Below w.heap.size w W)=>qZ ((aU.below (b.mono ah)).up (qJ ah b.size)) (qZ ((aV.below (b.mono ah)).up (qJ ah b.size)) ((is.below (b.mono ah)).up (qJ ah b.size))));obtain⟨A,Y,X,Z,rfl,aJ,-,a9,-⟩:=aI;have bo:=qQ (aJ.bI ah);have cb:=qQ (qZ aQ (qZ aF (qZ aT aN)));have bb:=(R.aB aF.1).1;have aP:=λW=>dz a.I.length (by omega) W
 obtain⟨m,hm⟩:=gz a.I.length;have eX:=qQ (qZ hm True.intro);obtain⟨n,O⟩:=gz t.length;have a2:=qQ (qZ O True.intro);obtain⟨q,hq⟩:=gz op.a.length;have U:=qQ (qZ hq True.intro);rw[O]at a_ bf;rw[hq]at be;rw[hm]at aP bb;rw[hm,O,hq];rw[aq]at *;obtain⟨ag,bg,Q,M,-⟩:=b8 w 58 #[.int .i64 9,v1,.slice K q ak,.slice L op.l.length ap,v4,.slice S op.s.length cs,.int .i64 op.v];obtain⟨aC,bh,E,r,-⟩:=b8 ag 68 #[.slice A m Y,.slice X a.e.length Z];obtain⟨aw,bj,aX,bA,-⟩:=b8 aC 3 (ints (List.replicate m 0)).toArray;have a4:=qQ (show al.pI w aw w.heap.size ag.heap.size aC.heap.size #[.int .i64 9,v1,.slice K q ak,.slice L op.l.length ap,v4,.slice S op.s.length cs,.int .i64 op.v] #[.slice A m Y,.slice X a.e.length Z] (List.replicate m 0) aw from
  ⟨(aA M r).trans (bA.mono (qJ M.size r.size)),qX _,(Q.go r).go bA,E.go bA,aX⟩)
 have V:=qQ (show w.heap.size<=aC.heap.size/\w.heap.size≠aC.heap.size/\ag.heap.size≠aC.heap.size from⟨qJ M.size r.size,yK (zW Q.lt r.size),yK E.lt⟩);have a6:=λi=>((Q.go r).go bA).cell i
 have a7:=λi=>(E.go bA).cell i
 have a8:=λi=>E.cell i
 clear hi aQ aF aT aN hm O hq aU aV is aJ Q E aX M r bA bk mk bl bm ls ms a9;go_enter func115,ntmps115;go_wp2_with fail;clear aP bg bh bj a6 a7 a8;go_loopw [8,9,56] (λ_ _ aG wr=>∃k:Nat,aG=.int .i64 (k:Int)/\k<=q/\al.pI w aw w.heap.size ag.heap.size aC.heap.size #[.int .i64 9,v1,.slice K q ak,.slice L op.l.length ap,v4,.slice S op.s.length cs,.int .i64 op.v] #[.slice A m Y,.slice X a.e.length Z] ((al.tQ op t).take k++List.replicate (m-k) 0) wr) (λ_ _ aG _=>q-(intOf aG).toNat)
 case atStart=>exact⟨0,rfl,by omega,a4.q⟩
 obtain⟨k,rfl,aq,fL⟩:=hrel;have az:q=m:=by rw[<-U.q.1,<-eX.q.1];exact cb.q.2.2.1.1
 have N:(al.tQ op t).length=m:=by unfold al.tQ;rw[zJ,U.q.1];exact az
 by_cases av:k<q
 .have cy:k<op.a.length:=by rw[U.q.1];exact av
  obtain⟨bp,bt,rfl,-,aO⟩:=(a0.q wr fL.b).1 (by omega);have bn:=aO k cy;have aZ:=cb.q.2.2.1.2 _ (qP cy);have D:(al.tQ op t).getD k 0=t.getD op.a[k].toNat 0:=by simp[al.tQ,cy]
  generalize op.a[k]=aW at bn aZ D;obtain⟨j,rfl⟩:∃j:Nat,aW=(j:Int):=⟨aW.toNat,by omega⟩;have bE:j<t.length:=by omega
  obtain⟨bq,bu,rfl,-,aR⟩:=a3.q wr fL.b (by omega);have b':=aR j bE;have aL:t.getD (j:Int).toNat 0=t[j]:=by simp[bE]
  rw[aL]at D;have bs:(j:Int)<(n:Int):=by rw[<-a2.q.1];omega
  generalize t[j]=y at b' D;have a5:=qQ (fL.set (k:=k) (x:=y) V.q.1 V.q.2.1 V.q.2.2 (al.take_set N (by omega) D));have a':=fL.cell (k:=k) (by rw[qW,qM,zP,N];omega);have br:=fL.f.frozen k;generalize (((al.tQ op t).take k++List.replicate (m-k) 0).getD k 0)=z at a';have gV:=λi=>fL.o.cell i
  have iQ:=λi=>fL.a.cell i
  have i1:=b2 k;have i2:(k:Int)<q:=by omega
  have i3:=b2 j;have i4:(k:Int)<m:=by omega
  clear fL aO aR cy bE D aL aZ N az;go_wp2_with fail;go_roundw
  case rel=>exact⟨k+1,by go_num,by omega,a5.q⟩
  case measure=>simp[intOf];omega
 have av:m=k:=by omega
 subst av;rw[qT (by omega),xB,qG,xM]at fL;clear N az;have cj:=qQ (show ad.get a (ad.cF op a.I t)=ad.get a ((al.tQ op t)) by rw[aH.q]);have o7:=qQ (cb.q.2.2.2);rw[aH.q]at o7;have vz:((al.tQ op t)).length=m:=(R.bN o7.q).symm.trans eX.q.1;exact Qz
theorem al.Am(aM di:Value)(op:J.Op)(a:ad.ay)(T:Option Addr)(aD:Nat)(t:List Int)(B:Nat)(w:World)(ah:B<=w.heap.size)(bc:af.bd w B aM op)(aI:al.a1 w B di a)(av:ad.cO a)(hi:ai.ao w B T t)(a_:t.length<=aD)(bf:t.length<=6)(aQ:∀x∈t,0<=x/\x<=4096)(ak:op.k=11)(aT:op.a.length=t.length/\∀j∈op.a,0<=j/\j<(a.I.length:Int))(aL:R.inside a.I (ad.cF op a.I t)=true):Calls Tryz.prog 115 #[aM,di,.slice T t.length aD] w λe w'=>e=.returned (.int .i64 (ad.get a (ad.cF op a.I t)))/\Below w.heap.size w w':=by
 obtain⟨a4,a2,Hc⟩:=aK (show ad.cF op a.I t=ad.cG (op.a.zip t) (List.replicate a.I.length 0) by unfold ad.cF;rw[qV (by omega),qY ak]) (hi.bI ah) (aI.bI ah);obtain⟨v1,v2,v3,v4,v5,rfl,-,⟨K,Y,rfl,aU,bk,mk⟩,⟨L,Z,rfl,aV,bl,bm⟩,-,⟨S,cs,rfl,is,ls,ms⟩⟩:=bc;have be:op.a.length<=9223372036854775807:=by omega
 have a0:=qQ (λW (b:Below w.heap.size w W)=>qZ ((aU.below (b.mono ah)).up (qJ ah b.size)) (qZ ((aV.below (b.mono ah)).up (qJ ah b.size)) ((is.below (b.mono ah)).up (qJ ah b.size))));obtain⟨A,U,X,V,rfl,aJ,-,a9,-⟩:=aI;have bo:=qQ (aJ.bI ah);have cb:=qQ (qZ aQ (qZ av (qZ aT aL)));have bb:=(R.aB av.1).1;have aO:=λW=>dz a.I.length (by omega) W
 obtain⟨m,hm⟩:=gz a.I.length;have eX:=qQ (qZ hm True.intro);obtain⟨n,M⟩:=gz t.length;have aG:=qQ (qZ M True.intro);obtain⟨q,hq⟩:=gz op.a.length;have O:=qQ (qZ hq True.intro);rw[M]at a_ bf;rw[hq]at be;rw[hm]at aO bb;rw[hm,M,hq];rw[ak]at *;obtain⟨ag,bg,N,E,-⟩:=b8 w 58 #[.int .i64 11,v1,.slice K q Y,.slice L op.l.length Z,v4,.slice S op.s.length cs,.int .i64 op.v];obtain⟨aC,bh,D,r,-⟩:=b8 ag 68 #[.slice A m U,.slice X a.e.length V];obtain⟨aw,bj,aX,bA,-⟩:=b8 aC 3 (ints (List.replicate m 0)).toArray;have a3:=qQ (show al.pI w aw w.heap.size ag.heap.size aC.heap.size #[.int .i64 11,v1,.slice K q Y,.slice L op.l.length Z,v4,.slice S op.s.length cs,.int .i64 op.v] #[.slice A m U,.slice X a.e.length V] (List.replicate m 0) aw from
  ⟨(aA E r).trans (bA.mono (qJ E.size r.size)),qX _,(N.go r).go bA,D.go bA,aX⟩)
 have Q:=qQ (show w.heap.size<=aC.heap.size/\w.heap.size≠aC.heap.size/\ag.heap.size≠aC.heap.size from⟨qJ E.size r.size,yK (zW N.lt r.size),yK D.lt⟩);have a6:=λi=>((N.go r).go bA).cell i
 have a7:=λi=>(D.go bA).cell i
 have a8:=λi=>D.cell i
 clear hi aQ av aT aL hm M hq aU aV is aJ N D aX E r bA bk mk bl bm ls ms a9;go_enter func115,ntmps115;go_wp2_with fail;clear aO bg bh bj a6 a7 a8;go_loopw [10,11,74] (λ_ _ aF wr=>∃k:Nat,aF=.int .i64 (k:Int)/\k<=q/\al.pI w aw w.heap.size ag.heap.size aC.heap.size #[.int .i64 11,v1,.slice K q Y,.slice L op.l.length Z,v4,.slice S op.s.length cs,.int .i64 op.v] #[.slice A m U,.slice X a.e.length V] (ad.cG ((op.a.zip t).take k) (List.replicate m 0)) wr) (λ_ _ aF _=>q-(intOf aF).toNat)
 case atStart=>exact⟨0,rfl,by omega,a3.q⟩
 obtain⟨k,rfl,ak,fL⟩:=hrel;have aP:q=n:=by rw[<-O.q.1,<-aG.q.1];exact cb.q.2.2.1.1
 have aq:(ad.cG ((op.a.zip t).take k) (List.replicate m 0)).length=m:=by rw[ad.e4,zP]
 by_cases ap:k<q
 .have cy:k<op.a.length:=by rw[O.q.1];exact ap
  have bE:k<t.length:=by rw[aG.q.1];omega
  obtain⟨bp,bt,rfl,-,aN⟩:=(a0.q wr fL.b).1 (by omega);have bn:=aN k cy;have aZ:=cb.q.2.2.1.2 _ (qP cy);obtain⟨bq,bu,rfl,-,aR⟩:=a2.q wr fL.b (by omega);have b':=aR k bE;have az:=al.sG (o:=List.replicate m 0) cy bE;generalize op.a[k]=aW at bn aZ az;obtain⟨j,rfl⟩:∃j:Nat,aW=(j:Int):=⟨aW.toNat,by omega⟩;rw[xY]at az;have bs:(j:Int)<(m:Int):=by rw[<-eX.q.1];omega
  generalize t[k]=y at b' az;have a5:=qQ (fL.set (k:=j) (x:=y) Q.q.1 Q.q.2.1 Q.q.2.2 az.symm);have a':=fL.cell (k:=j) (by rw[aq];omega);have br:=fL.f.frozen j;generalize ((ad.cG ((op.a.zip t).take k) (List.replicate m 0)).getD j 0)=z at a';have gV:=λi=>fL.o.cell i
  have iQ:=λi=>fL.a.cell i
  have i1:=b2 k;have i2:(k:Int)<q:=by omega
  have i3:=b2 j;have i4:(k:Int)<n:=by omega
  clear fL aN aR cy bE az aZ aq aP;go_wp2_with fail;go_roundw
  case rel=>exact⟨k+1,by go_num,by omega,a5.q⟩
  case measure=>simp[intOf];omega
 have ap:q=k:=by omega
 subst ap;rw[qT (by rw[kL];have:=O.q.1;omega)]at fL;clear aq aP;have aH:=qQ (show ad.cF op a.I t=ad.cG (op.a.zip t) (List.replicate m 0) by rw[a4.q,eX.q.1]);have cj:=qQ (show ad.get a (ad.cF op a.I t)=ad.get a ((ad.cG (op.a.zip t) (List.replicate m 0))) by rw[aH.q]);have o7:=qQ (cb.q.2.2.2);rw[aH.q]at o7;have vz:((ad.cG (op.a.zip t) (List.replicate m 0))).length=m:=(R.bN o7.q).symm.trans eX.q.1;exact Qz
def al.nc(op:J.Op)(t:List Int):List Int:=(List.range t.length).map λ(k:Nat)=>op.l.getD k 0+t.getD k 0*op.s.getD k 0
theorem al.An(aM di:Value)(op:J.Op)(a:ad.ay)(T:Option Addr)(aD:Nat)(t:List Int)(B:Nat)(w:World)(ah:B<=w.heap.size)(br:af.bd w B aM op)(a2:al.a1 w B di a)(aQ:ad.cO a)(hi:ai.ao w B T t)(bn:t.length<=aD)(bu:t.length<=6)(a7:∀x∈t,0<=x/\x<=4096)(aG:op.k=13)(a8:a.I.length=t.length/\op.l.length=t.length/\op.s.length=t.length/\(∀x∈op.l,0<=x/\x<=4096)/\∀x∈op.s,0<=x/\x<=4096)(a4:R.inside a.I (ad.cF op a.I t)=true):Calls Tryz.prog 115 #[aM,di,.slice T t.length aD] w λe w'=>e=.returned (.int .i64 (ad.get a (ad.cF op a.I t)))/\Below w.heap.size w w':=by
 obtain⟨aW,aU,Hc⟩:=aK (show ad.cF op a.I t=al.nc op t by unfold ad.cF;rw[qV (by omega),qV (by omega),qY aG];rfl) (hi.bI ah) (a2.bI ah);obtain⟨v1,v2,v3,v4,v5,rfl,-,⟨K,U,rfl,a9,bw,mk⟩,⟨L,V,rfl,a_,bz,bB⟩,-,⟨S,cs,rfl,is,ls,ms⟩⟩:=br;have bs:op.a.length<=9223372036854775807:=by omega
 have M:=qQ (λW (b:Below w.heap.size w W)=>qZ ((a9.below (b.mono ah)).up (qJ ah b.size)) (qZ ((a_.below (b.mono ah)).up (qJ ah b.size)) ((is.below (b.mono ah)).up (qJ ah b.size))));obtain⟨A,O,X,Q,rfl,a3,-,bm,-⟩:=a2;have bH:=qQ (a3.bI ah);have cb:=qQ (qZ a7 (qZ aQ (qZ a8 a4)));have bq:=(R.aB aQ.1).1;have a5:=λW=>dz a.I.length (by omega) W
 obtain⟨m,hm⟩:=gz a.I.length;have eX:=qQ (qZ hm True.intro);obtain⟨n,ak⟩:=gz t.length;have av:=qQ (qZ ak True.intro);obtain⟨q,hq⟩:=gz op.a.length;have bJ:=qQ (qZ hq True.intro);rw[ak]at bn bu;rw[hq]at bs;rw[hm]at a5 bq;rw[hm,ak,hq];rw[aG]at *;obtain⟨ag,aN,ap,N,-⟩:=b8 w 58 #[.int .i64 13,v1,.slice K q U,.slice L op.l.length V,v4,.slice S op.s.length cs,.int .i64 op.v];obtain⟨aC,aO,E,j,-⟩:=b8 ag 68 #[.slice A m O,.slice X a.e.length Q];obtain⟨aw,aP,a',bA,-⟩:=b8 aC 3 (ints (List.replicate m 0)).toArray;have bb:=qQ (show al.pI w aw w.heap.size ag.heap.size aC.heap.size #[.int .i64 13,v1,.slice K q U,.slice L op.l.length V,v4,.slice S op.s.length cs,.int .i64 op.v] #[.slice A m O,.slice X a.e.length Q] (List.replicate m 0) aw from
  ⟨(aA N j).trans (bA.mono (qJ N.size j.size)),qX _,(ap.go j).go bA,E.go bA,a'⟩)
 have aF:=qQ (show w.heap.size<=aC.heap.size/\w.heap.size≠aC.heap.size/\ag.heap.size≠aC.heap.size from⟨qJ N.size j.size,yK (zW ap.lt j.size),yK E.lt⟩);have bf:=λi=>((ap.go j).go bA).cell i
 have bg:=λi=>(E.go bA).cell i
 have bh:=λi=>E.cell i
 clear hi a7 aQ a8 a4 hm ak hq a9 a_ is a3 ap E a' N j bA bw mk bz bB ls ms bm;go_enter func115,ntmps115;go_wp2_with fail;clear a5 aN aO aP bf bg bh;go_loopw [12,91] (λ_ aR wr=>∃k:Nat,aR=.int .i64 (k:Int)/\k<=n/\al.pI w aw w.heap.size ag.heap.size aC.heap.size #[.int .i64 13,v1,.slice K q U,.slice L op.l.length V,v4,.slice S op.s.length cs,.int .i64 op.v] #[.slice A m O,.slice X a.e.length Q] ((al.nc op t).take k++List.replicate (m-k) 0) wr) (λ_ aR _=>n-(intOf aR).toNat)
 case atStart=>exact⟨0,rfl,by omega,bb.q⟩
 obtain⟨k,rfl,aG,fL⟩:=hrel;have a6:m=n:=by rw[<-eX.q.1,<-av.q.1];exact cb.q.2.2.1.1
 have Z:(al.nc op t).length=m:=by unfold al.nc;rw[zJ,vU,av.q.1];omega
 by_cases aL:k<n
 .obtain⟨-,f1,f2,f3,f4⟩:=cb.q.2.2.1;have bE:k<t.length:=by rw[av.q.1];exact aL
  have hs:k<op.l.length:=by omega
  have Y:k<op.s.length:=by omega
  obtain⟨bK,bM,rfl,-,bv⟩:=aU.q wr fL.b (by omega);obtain⟨sc,bD,rfl,-,bp⟩:=(M.q wr fL.b).2.1 (by omega);obtain⟨bc,bF,rfl,-,bt⟩:=(M.q wr fL.b).2.2 (by omega);have D:(al.nc op t).getD k 0=op.l[k]+t[k]*op.s[k]:=by simp[al.nc,bE,hs,Y]
  have bG:=f3 _ (qP hs);have aT:=cb.q.1 _ (qP bE);have aq:=f4 _ (qP Y);have r:=qQ (λW (b:Below wr.heap.size wr W)=>qZ (al.kz (aU.q W (fL.b.trans (b.mono fL.b.size))) k bE) (qZ (al.kz (M.q W (fL.b.trans (b.mono fL.b.size))).2.1 k hs) (al.kz (M.q W (fL.b.trans (b.mono fL.b.size))).2.2 k Y)));generalize t[k]=x at r aT D;generalize op.l[k]=y at r bG D;generalize op.s[k]=s at r aq D;have hp:0<=x*s/\x*s<=16777216:=⟨jF aT.1 aq.1,Int.le_trans (jO aT.2 aq.2 aq.1 (by omega)) (by decide)⟩;have aN:wrap64 (x*s)=x*s:=uD (x*s) (by omega);have aO:IntKind.i64.wrap (x*s)=x*s:=qA _ (by omega);have aP:IntKind.i64.wrap (y+x*s)=y+x*s:=qA _ (by omega);have aV:=qQ (qZ (al.take_set Z (by omega) D) (show k<((al.nc op t).take k++List.replicate (m-k) 0).length by rw[qW,qM,zP,Z];omega));have aZ:=qQ fL;have i1:=b2 k;have i2:(k:Int)<n:=by omega
  have i3:(k:Int)<(op.l.length:Int):=by omega
  have i4:(k:Int)<(op.s.length:Int):=by omega
  have i5:(k:Int)<m:=by omega
  clear fL bp bt bv bE hs Y D f1 f2 f3 f4 Z a6;go_wp2_with fail;have aJ:=λW (b:Below wr.heap.size wr W)=>qZ (λi=>(aZ.q.o.go b).cell i) (r.q W b)
  refine aH (l:=[_,_]) [(0,94,[]),(1,95,[]),(2,96,[]),(3,97,[2]),(4,98,[]),(5,99,[3,4]),(6,100,[5]),(7,101,[]),(8,102,[]),(9,103,[7,8]),(10,104,[9]),(11,105,[]),(12,106,[11]),(13,107,[]),(14,108,[12,13]),(15,109,[14]),(16,110,[10,15]),(17,111,[6,16])] [18,19] [.eq _,.eq _,.eq _,.eq _,.eq _,.eq _,.eq _,.eq _,.eq _,.eq _,.eq _,.eq _,.eq _,.eq _,.eq _,.eq _,.eq _,.eq _]
   (λW=>Below wr.heap.size wr W) (qK _ _).drew ((fr)<|(fr)<|(fr)<|(fr)<|(fr)<|(fr)<|(fr)<|(fr)<|(fr)<|(fr)<|(fr)<|(fr)<|(fr)<|(fr)<|(fr)<|(fr)<|(fr)<|(fr)<|fg) ?_ (λ_ _ h be=>aA h be)
  intros;rename_i W a0 _ _ _ _ _ _ _ _ _ _ _ _ _ _ _ _ _ _;subst_vars;have az:=qQ (show al.pI w aw w.heap.size ag.heap.size aC.heap.size #[.int .i64 13,v1,.slice K q U,.slice (some ⟨sc,bD,none⟩) op.l.length V,v4,.slice (some ⟨bc,bF,none⟩) op.s.length cs,.int .i64 op.v] #[.slice A m O,.slice X a.e.length Q] ((al.nc op t).take k++List.replicate (m-k) 0) W from aZ.q.below a0);have aX:=qQ (az.q.set (k:=k) (x:=y+x*s) aF.q.1 aF.q.2.1 aF.q.2.2 aV.q.1);have bo:=az.q.cell aV.q.2;have bL:=az.q.f.frozen k;generalize (((al.nc op t).take k++List.replicate (m-k) 0).getD k 0)=z at bo;generalize y+x*s=u at aX |-;clear a0 aJ aN aO aP hp r;go_wp2_with fail;go_roundw
  case rel=>exact⟨k+1,by go_num,by omega,aX.q⟩
  case measure=>simp[intOf];omega
 have aL:n=k:=by omega
 subst aL;rw[qT (by omega),show m-n=0 by omega,qG,xM]at fL;clear Z a6;have cj:=qQ (show ad.get a (ad.cF op a.I t)=ad.get a ((al.nc op t)) by rw[aW.q]);have o7:=qQ (cb.q.2.2.2);rw[aW.q]at o7;have vz:((al.nc op t)).length=m:=(R.bN o7.q).symm.trans eX.q.1;exact Qz
def al.la(op:J.Op)(d t:List Int):List Int:=(List.range t.length).map λ(k:Nat)=>if (k:Int)∈op.a then d.getD k 0-1-t.getD k 0 else t.getD k 0
theorem al.Ao(aM di:Value)(op:J.Op)(a:ad.ay)(T:Option Addr)(aD:Nat)(t:List Int)(B:Nat)(w:World)(ah:B<=w.heap.size)(bF:af.bd w B aM op)(a5:al.a1 w B di a)(aT:ad.cO a)(hi:ai.ao w B T t)(bw:t.length<=aD)(bH:t.length<=6)(a':∀x∈t,0<=x/\x<=4096)(a9:op.k=15)(bc:a.I.length=t.length)(a8:R.inside a.I (ad.cF op a.I t)=true):Calls Tryz.prog 115 #[aM,di,.slice T t.length aD] w λe w'=>e=.returned (.int .i64 (ad.get a (ad.cF op a.I t)))/\Below w.heap.size w w':=by
 obtain⟨a2,aZ,Hc⟩:=aK (show ad.cF op a.I t=al.la op a.I t by unfold ad.cF;rw[qV (by omega),qV (by omega),qV (by omega)];rfl) (hi.bI ah) (a5.bI ah);obtain⟨v1,v2,v3,v4,v5,rfl,-,⟨K,Y,rfl,bf,bK,mk⟩,⟨L,aL,rfl,bg,bL,bM⟩,-,⟨S,cs,rfl,is,ls,ms⟩⟩:=bF;have bG:op.a.length<=9223372036854775807:=by omega
 have bo:=qQ (λW (b:Below w.heap.size w W)=>qZ ((bf.below (b.mono ah)).up (qJ ah b.size)) (qZ ((bg.below (b.mono ah)).up (qJ ah b.size)) ((is.below (b.mono ah)).up (qJ ah b.size))));obtain⟨A,aF,X,aG,rfl,a6,-,bv,-⟩:=a5;have aV:=qQ (a6.bI ah);have cb:=qQ (qZ a' (qZ aT (qZ bc a8)));have bD:=(R.aB aT.1).1;have a_:=λW=>dz a.I.length (by omega) W
 obtain⟨m,hm⟩:=gz a.I.length;have eX:=qQ (qZ hm True.intro);obtain⟨n,ak⟩:=gz t.length;have aq:=qQ (qZ ak True.intro);obtain⟨q,hq⟩:=gz op.a.length;have aX:=qQ (qZ hq True.intro);rw[ak]at bw bH;rw[hq]at bG;rw[hm]at a_ bD;rw[hm,ak,hq];rw[a9]at *;obtain⟨ag,aQ,ap,V,-⟩:=b8 w 58 #[.int .i64 15,v1,.slice K q Y,.slice L op.l.length aL,v4,.slice S op.s.length cs,.int .i64 op.v];obtain⟨aC,aR,O,D,-⟩:=b8 ag 68 #[.slice A m aF,.slice X a.e.length aG];obtain⟨aw,bJ,bh,bA,-⟩:=b8 aC 3 (ints (List.replicate m 0)).toArray;have bp:=qQ (show al.pI w aw w.heap.size ag.heap.size aC.heap.size #[.int .i64 15,v1,.slice K q Y,.slice L op.l.length aL,v4,.slice S op.s.length cs,.int .i64 op.v] #[.slice A m aF,.slice X a.e.length aG] (List.replicate m 0) aw from
  ⟨(aA V D).trans (bA.mono (qJ V.size D.size)),qX _,(ap.go D).go bA,O.go bA,bh⟩)
 have N:=qQ (show w.heap.size<=aC.heap.size/\w.heap.size≠aC.heap.size/\ag.heap.size≠aC.heap.size from⟨qJ V.size D.size,yK (zW ap.lt D.size),yK O.lt⟩);have bs:=λi=>((ap.go D).go bA).cell i
 have bt:=λi=>(O.go bA).cell i
 have bu:=λi=>O.cell i
 clear hi a' aT bc a8 hm ak hq bf bg is a6 ap O bh V D bA bK mk bL bM ls ms bv;go_enter func115,ntmps115;go_wp2_with fail;clear a_ aQ aR bJ bs bt bu;go_loopw [13,22] (λ_ aU wr=>∃k:Nat,aU=.int .i64 (k:Int)/\k<=n/\al.pI w aw w.heap.size ag.heap.size aC.heap.size #[.int .i64 15,v1,.slice K q Y,.slice L op.l.length aL,v4,.slice S op.s.length cs,.int .i64 op.v] #[.slice A m aF,.slice X a.e.length aG] ((al.la op a.I t).take k++List.replicate (m-k) 0) wr) (λ_ aU _=>n-(intOf aU).toNat)
 case atStart=>exact⟨0,rfl,by omega,bp.q⟩
 obtain⟨k,rfl,a9,fL⟩:=hrel;have aP:m=n:=by rw[<-eX.q.1,<-aq.q.1];exact cb.q.2.2.1
 have E:(al.la op a.I t).length=m:=by unfold al.la;rw[zJ,vU,aq.q.1];omega
 by_cases aN:k<n
 .have bE:k<t.length:=by rw[aq.q.1];exact aN
  have hs:k<a.I.length:=by rw[eX.q.1];omega
  obtain⟨bQ,bS,rfl,-,bb⟩:=aZ.q wr fL.b (by omega);obtain⟨DI,bR,rfl,-,bB⟩:=aV.q wr fL.b (by omega);have bm:=bb k bE;have bO:=cb.q.1 _ (qP bE);have bP:=(R.aB cb.q.2.1.1).2.1 _ (qP hs);have r:(al.la op a.I t).getD k 0=if (k:Int)∈op.a then a.I[k]-1-t[k]else t[k]:=by simp[al.la,bE,hs]
  have U:=qQ (λW (b:Below w.heap.size w W)=>qZ (al.kz (aZ.q W b) k bE) (al.kz (aV.q W b) k hs));generalize t[k]=x at U bO r bm;generalize a.I[k]=y at U bP r;have aO:k<((al.la op a.I t).take k++List.replicate (m-k) 0).length:=by rw[qW,qM,zP,E];omega
  have j:=fL.set (k:=k) (x:=x) N.q.1 N.q.2.1 N.q.2.2 rfl;have Z:=fL.cell (k:=k) aO;have a7:=fL.f.frozen k;generalize (((al.la op a.I t).take k++List.replicate (m-k) 0).getD k 0)=z at Z;have aW:=qQ (λW (b:Below w.heap.size w W)=>af.sn K Y op.a (k:Int) W.heap.size W (by have:=aX.q.1;omega) (bo.q W b).1);rw[aX.q.1]at aW;have gV:=λi=>fL.o.cell i
  have i1:=b2 k;have i2:(k:Int)<n:=by omega
  have i5:(k:Int)<m:=by omega
  obtain⟨M,be⟩:=gz (wr.setCell ⟨aC.heap.size,k,none⟩ (.int .i64 x));rw[be]at j;have bz:=λi=>j.o.cell i
  obtain⟨av,Q,bq⟩:=aK j (aW.q M j.b) (λW (b:Below M.heap.size M W)=>U.q W (j.b.trans (b.mono j.b.size)));clear fL bb bB bE hs;by_cases hm:(k:Int)∈op.a
  .rw[zD hm]at Q;rw[qY hm]at r;have a0:=qQ (qZ (al.take_set E (by omega) r) (show k<(((al.la op a.I t).take k++List.replicate (m-k) 0).set k x).length by rw[xJ,qW,qM,zP,E];omega));clear r E aP aO hm j;go_wp2_with (with_reducible refine Q.q.mono ?_)
   first | rintro e hG ⟨rfl,rfl⟩ | rintro e hG rfl rfl
   go_wp2_with fail;clear be bz bm Z a7 gV;have aQ:IntKind.i64.wrap (y-1)=y-1:=qA _ (by omega);have aR:IntKind.i64.wrap (y-1-x)=y-1-x:=qA _ (by omega);have aJ:=λW (b:Below M.heap.size M W)=>qZ (λi=>(av.q.a.go b).cell i) (bq.q W b)
   refine aH (l:=[_,_]) [(0,36,[]),(1,37,[]),(2,38,[]),(3,39,[2]),(4,40,[]),(5,41,[3,4]),(6,42,[5]),(7,43,[6]),(8,44,[]),(9,45,[]),(10,46,[8,9]),(11,47,[10]),(12,48,[7,11])] [13,14] [.eq _,.eq _,.eq _,.eq _,.eq _,.eq _,.eq _,.eq _,.eq _,.eq _,.eq _,.eq _,.eq _]
    (λW=>Below M.heap.size M W) (qK _ _).drew ((fr)<|(fr)<|(fr)<|(fr)<|(fr)<|(fr)<|(fr)<|(fr)<|(fr)<|(fr)<|(fr)<|(fr)<|(fr)<|fg) ?_ (λ_ _ h br=>aA h br)
   intros;rename_i W a4 _ _ _ _ _ _ _ _ _ _ _ _ _;subst_vars;have az:=qQ (av.q.below a4);have a3:=qQ (az.q.set (k:=k) (x:=y-1-x) N.q.1 N.q.2.1 N.q.2.2 (l':=(al.la op a.I t).take (k+1)++List.replicate (m-(k+1)) 0) (by rw[List.set_set];exact a0.q.1));have Z:=az.q.cell a0.q.2;have a7:=az.q.f.frozen k;generalize ((((al.la op a.I t).take k++List.replicate (m-k) 0).set k x).getD k 0)=z at Z;generalize y-1-x=u at a3 |-;clear a4 aJ U aQ aR;go_wp2_with fail;go_roundw
   case rel=>exact⟨k+1,by go_num,by omega,a3.q⟩
   case measure=>simp[intOf];omega
  rw[zN hm]at Q;rw[qV hm]at r;have bn:=qQ (al.take_set E (by omega) r);clear r E aP aO hm j;go_wp2_with (with_reducible refine Q.q.mono ?_)
  first | rintro e hG ⟨rfl,rfl⟩ | rintro e hG rfl rfl
  go_wp2_with fail;go_roundw
  case rel=>exact⟨k+1,by go_num,by omega,by rw[<-bn.q];exact av.q⟩
  case measure=>simp[intOf];omega
 have aN:n=k:=by omega
 subst aN;rw[qT (by omega),show m-n=0 by omega,qG,xM]at fL;clear E aP;have cj:=qQ (show ad.get a (ad.cF op a.I t)=ad.get a ((al.la op a.I t)) by rw[a2.q]);have o7:=qQ (cb.q.2.2.2);rw[a2.q]at o7;have vz:((al.la op a.I t)).length=m:=(R.bN o7.q).symm.trans eX.q.1;exact Qz
end Go.Proofs.YtabmnaaidfpmcaaGreatDoor
end
