/-
  ViewK, ViewL, ViewM, ViewN. Conditions: where the theorems name them.
-/
import Derived.Test.YtabmnaaidfpmcaaGreatDoorV04
import Derived.Deep.DrawnRows
set_option linter.unusedVariables false
set_option maxRecDepth 100000
set_option maxHeartbeats 16000000
open Go.Proofs.Tryz
variable {st x:Int}{bf l xs:List Int}{H N a8 base c cap g n:Nat}{A:Option Go.Addr}{bm:Prop}{e:Go.TypeId}{u1 u2 v v1 v2:Go.Value}{bD bg w:Go.World}
section
namespace Go.Proofs.YtabmnaaidfpmcaaGreatDoor
open Go.RowKit aS
attribute [local go_sem ↓] Go.wp_at_zero Go.wp_at_succ
namespace ai
theorem oD(w:World)(o:Obj)(t:TypeId)(cs:Array Value):av ((w.alloc o).alloc (.cells cs t)) (w.heap.size+1) t cs:=by
 have h:=av.new (w.alloc o) t cs;rw[show(w.alloc o).heap.size=w.heap.size+1 by simp]at h;exact h
theorem cT(w:World)(b o:Nat)(u:Value):w.grownBy (w.setCell ⟨b,o,none⟩ u) (some b) :=
 ⟨rfl,rfl,rfl,by simp,λk j i=>qN w _ u k (by simpa using i)⟩
theorem bc{xs:List Value}(h:w.ownsRow base e 1 v n xs){b:Nat}(i:b<base):v.ownBlock≠some b:=λe=>by
 have:=(h.lt b e).1;omega
theorem df(h:w.ownsRow base 3 1 v l.length (ints l)):∃A c,v=.slice A l.length c/\ao w w.heap.size A l/\l.length<=c/\c<=9223372036854775807/\∀b off,A=some ⟨b,off,none⟩->0<l.length->base<=b:=by
 have j:=h.2;rcases j with ⟨rfl,i⟩ | ⟨g,cap,cur,rfl,m,q,hle,hm,_⟩
 .refine⟨none,0,by rw[i],λhp=>by omega,by omega,by omega,λb off e=>by cases e⟩
 refine⟨_,_,rfl,(ao.zh h).2,hle,by unfold maxLen at hm;omega,λb off e _=>?_⟩;injection e with e
 injection e with e
 omega
theorem ao.set{B:Nat}(h:ao w B A l)(r:∀b off,A=some ⟨b,off,none⟩->0<l.length->b≠c)(o:Nat)(u:Value):ao (w.setCell ⟨c,o,none⟩ u) B A l:=λhp=>by
 obtain⟨b,off,j,q,m⟩:=h hp;refine⟨b,off,j,q,λi hi=>?_⟩;exact(xE (qN w ⟨c,o,none⟩ u b (r b off j hp))).trans (m i hi)
theorem ao.hj{B:Nat}(h:ao w B A l)(i:∀b off,A=some ⟨b,off,none⟩->0<l.length->b≠c)(x y z:Value):ao (((w.setCell ⟨c,0,none⟩ x).setCell ⟨c,1,none⟩ y).setCell ⟨c,2,none⟩ z) B A l :=
 ((h.set i 0 x).set i 1 y).set i 2 z
structure dF (N a8:Nat) (bD:World) (st:Int) (u1 u2 v1 v2:Value) (xs bf:List Int) (W:World):Prop where
 aL:av W a8 159 #[.int .i64 st,u1,u2]
 b7:W.ownsRow (a8+1) 3 1 v1 xs.length (ints xs)
 bw:W.ownsRow (a8+1) 3 1 v2 bf.length (ints bf)
 apart:∀b,v1.ownBlock=some b->v2.ownBlock=some b->False
 below:Below N bD W
 low:N<=a8
theorem dF.alloc{N a8:Nat}{bD W:World}{st:Int}{u1 u2 v1 v2:Value}{xs bf:List Int}(h:dF N a8 bD st u1 u2 v1 v2 xs bf W)(o:Obj):dF N a8 bD st u1 u2 v1 v2 xs bf (W.alloc o) :=
 ⟨h.aL.alloc o,h.b7.alloc o,h.bw.alloc o,h.apart,h.below.alloc (qJ h.low (zG h.aL.lt)) o,h.low⟩
theorem dF.drew{N a8:Nat}{bD W:World}{st:Int}{u1 u2 v1 v2:Value}{xs bf:List Int}(h:dF N a8 bD st u1 u2 v1 v2 xs bf W):dF N a8 bD st u1 u2 v1 v2 xs bf W.drew :=
 ⟨h.aL.drew,h.b7.drew,h.bw.drew,h.apart,h.below.drew,h.low⟩
theorem dF.sD{W:World}(h:dF N a8 bD st u1 u2 v1 v2 xs bf W)(x:Value):dF N a8 bD st x u2 v1 v2 xs bf (W.setCell ⟨a8,1,none⟩ x) :=
 ⟨h.aL.bs 1 x,h.b7.kept (cT W a8 1 x) (.inr (bc h.b7 (by omega))),h.bw.kept (cT W a8 1 x) (.inr (bc h.bw (by omega))),h.apart,h.below.setCell (p:=⟨a8,1,none⟩) h.low x,h.low⟩
theorem dF.sE{W:World}(h:dF N a8 bD st u1 u2 v1 v2 xs bf W)(x:Value):dF N a8 bD st u1 x v1 v2 xs bf (W.setCell ⟨a8,2,none⟩ x) :=
 ⟨h.aL.bs 2 x,h.b7.kept (cT W a8 2 x) (.inr (bc h.b7 (by omega))),h.bw.kept (cT W a8 2 x) (.inr (bc h.bw (by omega))),h.apart,h.below.setCell (p:=⟨a8,2,none⟩) h.low x,h.low⟩
theorem dF.qm{W:World}(h:dF N a8 bD st u1 u2 v1 v2 xs bf W)(x:Int):dF N a8 bD x u1 u2 v1 v2 xs bf (W.setCell ⟨a8,0,none⟩ (.int .i64 x)) :=
 ⟨h.aL.bs 0 _,h.b7.kept (cT W a8 0 _) (.inr (bc h.b7 (by omega))),h.bw.kept (cT W a8 0 _) (.inr (bc h.bw (by omega))),h.apart,h.below.setCell (p:=⟨a8,0,none⟩) h.low _,h.low⟩
theorem dF.x9{W:World}(h:dF N a8 bD st u1 u2 v1 v2 xs bf W)(B:bg.ownsRow (a8+1) 3 1 (.slice (some ⟨g,0,none⟩) (xs.length+1) cap) (xs.length+1) (ints xs++[.int .i64 x]))(j:W.grownBy bg v1.ownBlock)(i:v1.ownBlock=some g\/g=H)(E:W.heap.size<=H):dF N a8 bD st u1 u2 (.slice (some ⟨g,0,none⟩) (xs.length+1) cap) v2 (xs++[x]) bf bg:=by
 refine⟨h.aL.grown j (zK (bc h.b7 (by omega))),?_,h.bw.kept j ?_,?_,h.below.grown j (qJ h.low (zG h.aL.lt)) (λk y=>?_),h.low⟩
 .rw[qW,ec];exact B
 .cases D:v2.ownBlock with
  | none=>exact .inl rfl
  | some b=>exact .inr λe=>h.apart b e.symm D
 .intro b m q;have r:b=g:=by simp[Value.ownBlock]at m;exact m.symm
  subst r;rcases i with i | i
  .exact h.apart b i q
  have:=(h.bw.lt b q).2;omega
 have:=(h.b7.lt k y).1;have:=h.low;omega
theorem dF.sb{W:World}(h:dF N a8 bD st u1 u2 v1 v2 xs bf W)(B:bg.ownsRow (a8+1) 3 1 (.slice (some ⟨g,0,none⟩) (bf.length+1) cap) (bf.length+1) (ints bf++[.int .i64 x]))(j:W.grownBy bg v2.ownBlock)(i:v2.ownBlock=some g\/g=H)(E:W.heap.size<=H):dF N a8 bD st u1 u2 v1 (.slice (some ⟨g,0,none⟩) (bf.length+1) cap) xs (bf++[x]) bg:=by
 refine⟨h.aL.grown j (zK (bc h.bw (by omega))),h.b7.kept j ?_,?_,?_,h.below.grown j (qJ h.low (zG h.aL.lt)) (λk y=>?_),h.low⟩
 .cases D:v1.ownBlock with
  | none=>exact .inl rfl
  | some b=>exact .inr λe=>h.apart b D e.symm
 .rw[qW,ec];exact B
 .intro b m q;have r:b=g:=by simp[Value.ownBlock]at q;exact q.symm
  subst r;rcases i with i | i
  .exact h.apart b m i
  have:=(h.b7.lt b m).2;omega
 have:=(h.bw.lt k y).1;have:=h.low;omega
theorem dF.start(i:World)(st:Int)(cs:Array Value)(j:cs=#[.int .i64 st,.slice none 0 0,.slice none 0 0]):dF i.heap.size i.heap.size i st (.slice none 0 0) (.slice none 0 0) (.slice none 0 0) (.slice none 0 0) [] [] (i.alloc (.cells cs 159)):=by
 subst j;exact⟨av.new i _ _,vH _ _ _ _,vH _ _ _ _,λb h=>by simp[Value.ownBlock]at h,(qK _ _).alloc (qX _) _,qX _⟩
end ai
theorem _root_.ZC{G:Prop}(h:G:=by
 rw[Le.q];exact ai.kf ⟨aQ,bJ,bt,bn,rfl,Hj.q.up (by simp),Hk.q.up (by simp),Et,Ey,rS,rV⟩ (λb off e hp=>by have:=ko.q.1 b off e hp;omega) (λb off e hp=>by have:=ko.q.2 b off e hp;omega)
 ):G:=h
theorem _root_.Xg{G:Prop}(h:G:=by
 exact⟨⟨by go_keep,by go_keep,by go_keep⟩,trivial⟩
 ):G:=h
theorem _root_.Xi{G:Prop}(h:G:=by
 exact ai.three (aA bp.q bV) (xV _) _ _ _
 ):G:=h
theorem _root_.JZ{G:Prop}(h:G:=by
 rw[bR.q];exact ai.d' _ _ _ _
 ):G:=h
theorem _root_.Jb{G:Prop}(r:bm)(f:dS bm->G:=by
 intro bb;have Hj:=qQ (tv.hj (c:=w.heap.size+1) (λb off e hp=>by have:=p7 b off e hp;omega) (.int .i64 v.st) (.slice aQ (p.map (R.pick v.I)).length bJ) (.slice bt (p.map (R.pick v.s)).length bn));have Hk:=qQ (nC.hj (c:=w.heap.size+1) (λb off e hp=>by have:=ma b off e hp;omega) (.int .i64 v.st) (.slice aQ (p.map (R.pick v.I)).length bJ) (.slice bt (p.map (R.pick v.s)).length bn));revert Hj Hk;exact bb.o
 ):G:=f ⟨r⟩
theorem _root_.VX{G:Prop}(r:bm)(f:dS bm->G:=by
 intro bb;obtain⟨ep,hB,bp⟩:=aK ar az ((((qK w.heap.size w).alloc (qX _) (.cells #[.int .i64 v.st,.slice A v.I.length c,.slice bK v.s.length c'] 159))).alloc (by simp) (.cells #[.int .i64 0,.slice none 0 0,.slice none 0 0] 159));revert ep hB bp;exact bb.o
 ):G:=f ⟨r⟩
theorem A0(val:Value)(v:R.V)(P:Option Addr)(aU:Nat)(p:List Int)(B:Nat)(w:World)(ah:B<=w.heap.size)(h:ai.cm w B val v)(hp:ai.ao w B P p)(cu:p.length<=aU)(cw:aU<=9223372036854775807):Calls Tryz.prog 136 #[val,.slice P p.length aU] w λe w'=>ai.fb B w w' (R.turn v p) e/\Below w.heap.size w w':=by
 obtain⟨hD,cb,bm⟩:=aK (λ(W:World) (a1:Below w.heap.size w W)=>h8 val v B W (qJ ah a1.size) (h.below (a1.mono ah))) h hp;obtain⟨A,c,bK,c',rfl,ar,az,aO,bz,cg,ci⟩:=h;refine VX ?_;intro ep hB bp;clear ar az hp;by_cases Y:R.aF v=0
 .have S:=qQ Y;obtain⟨b_,z2,z3,z4⟩:=R.cK Y;have bT:=qQ z2;have bB:(v.s.length:Int)=v.I.length:=by omega
  clear Y b_ z2 z4;by_cases hlen:p.length=v.I.length
  .have hq:((p.length:Int) != (v.I.length:Int))=false:=by simp;omega
   have bg:=qQ hlen;have ca:=qQ bB;clear hlen bB;go_enter func136,ntmps136;go_wp2_with fail;refine(hD.q _ bp.q).mono ?_;rintro e ag ⟨rfl,bV⟩;rw[S.q];have aW:=((av.new w 159 #[.int .i64 v.st,.slice A v.I.length c,.slice bK v.s.length c']).alloc (.cells #[.int .i64 0,.slice none 0 0,.slice none 0 0] 159)).below bV (by simp;omega);have D:=(ai.oD w (.cells #[.int .i64 v.st,.slice A v.I.length c,.slice bK v.s.length c'] 159) 159 #[.int .i64 0,.slice none 0 0,.slice none 0 0]).below bV (by simp);obtain⟨bU,O,N⟩:=aK aW D (aA bp.q bV);have ga:w.heap.size+1<ag.heap.size:=by have:=bV.size;simp at this;omega
   have b9:ag.cell? ⟨w.heap.size,1,none⟩=some (.slice A v.I.length c):=aW.cell 1;have cy:ag.cell? ⟨w.heap.size,0,none⟩=some (.int .i64 v.st):=aW.cell 0;clear bV aW D;go_wp2_with fail;have bd:=qQ (λ(x:Int)=>q' P aU p x B ag (by omega) (bm.q.below (N.q.mono ah)))
   go_loop [7,27] (λ_ i=>∃k:Nat,k<=v.I.length/\i=.int .i64 (k:Int)/\∀j:Nat,j<k->(j:Int)∈p) (λ_ i=>v.I.length+1-(intOf i).toNat)
   case atStart=>exact⟨0,by omega,rfl,λj b1=>by omega⟩
   obtain⟨k,b5,rfl,bv⟩:=hrel;have be:=qQ bv;clear bv;by_cases aN:k<v.I.length
   .have bZ:=b2 k;have b0:(k:Int)<(v.I.length:Int):=by omega
    by_cases Z:(k:Int)∈p
    .have aX:=qQ (show decide ((k:Int)∈p)=true by simpa using Z);have LG:=qQ Z;clear Z;go_wp2_with fail;refine(bd.q _).mono ?_;rintro e aC ⟨rfl,rfl⟩;rw[aX.q];go_wp2_with fail
     go_round
     case rel=>exact⟨k+1,by omega,by go_num,λj b1=>by
      by_cases b3:j<k
      .exact be.q j b3
      obtain rfl:j=k:=by omega
      exact LG.q⟩
     case measure=>simp[intOf];omega
    have aX:=qQ (show decide ((k:Int)∈p)=false by simpa using Z);have bR:=qQ (R.k' (p:=p) S.q (R.zo bZ b0 Z));clear Z;have a9:ag.cell? ⟨w.heap.size+1,0,none⟩=some (.int .i64 0):=O.q.cell 0;have a_:ag.cell? ⟨w.heap.size+1,1,none⟩=some (.slice none 0 0):=O.q.cell 1;have a':ag.cell? ⟨w.heap.size+1,2,none⟩=some (.slice none 0 0):=O.q.cell 2;have f0:=O.q.frozen 0;have f1:=O.q.frozen 1;have f2:=O.q.frozen 2;go_wp2_with fail;refine(bd.q _).mono ?_;rintro e aC ⟨rfl,rfl⟩;rw[aX.q];go_wp2_with fail;refine qR (v:=.tuple #[.agg #[.int .i64 0,.slice none 0 0,.slice none 0 0],.int .i64 6]) (by simp[results,results136,go_sem,a9,a_,a']) rfl ⟨?_,?_⟩
    .exact JZ
    exact ai.three N.q (xV _) _ _ _
   obtain rfl:k=v.I.length:=by omega
   have bh:=qQ (R.tE bg.q be.q);have b':ag.cell? ⟨w.heap.size,2,none⟩=some (.slice bK v.s.length c'):=bU.q.cell 2;obtain⟨i0,hi,bM,bN,bO⟩:=xQ Tryz.dB;go_wp2_with fail;go_loopw [10,41] (λ_ i wr=>∃(k:Nat) (v1 v2:Value),k<=p.length/\i=.int .i64 (k:Int)/\ai.dF ag.heap.size ag.heap.size ag v.st v1 v2 v1 v2 ((p.take k).map (R.pick v.I)) ((p.take k).map (R.pick v.s)) wr) (λ_ i _=>p.length+1-(intOf i).toNat)
   case atStart=>exact⟨0,_,_,by omega,rfl,ai.dF.start ag v.st _ rfl⟩
   obtain⟨k,v1,v2,b5,rfl,r⟩:=hrel;obtain⟨m,rfl⟩:∃m:World,m=wr:=⟨_,rfl⟩;have bR:=qQ r;have E:=qQ r.below;by_cases aN:k<p.length
   .obtain⟨aQ,bJ,rfl,cq⟩:=ai.aZ r.b7;obtain⟨bt,bn,rfl,cr⟩:=ai.aZ r.bw;obtain⟨g1,g2,g3,g4⟩:=R.iR bh.q;have bH:=g3 _ (qP aN);obtain⟨a7,a8,rfl,cx,bD⟩:=bm.q (by omega);have a6:=bD k aN;have ap:=qQ (R.i_ (R.pick v.I) p k aN);have aq:=qQ (R.i_ (R.pick v.s) p k aN);have bA:((p.take k).map (R.pick v.I)).length=k:=by simp;omega
    have a4:((p.take k).map (R.pick v.s)).length=k:=by simp;omega
    clear bD g1 g2 g3 g4 r;generalize p[k]=x at a6 bH ap aq;obtain⟨q,rfl⟩:∃q:Nat,x=(q:Int):=⟨x.toNat,by omega⟩;have bE:q<v.I.length:=by omega
    have bF:q<v.s.length:=by have:=bT.q;omega
    obtain⟨b,off,rfl,a1,dt⟩:=ep.q (by omega);obtain⟨U,ak,rfl,cn,bu⟩:=hB.q (by omega);have a2:=dt q bE;have a3:=bu q bF;have bo:=qQ (R.jl v.I q bE);have bq:=qQ (R.jl v.s q bF);clear dt bu;generalize v.I[q]=d at a2 bo;generalize v.s[q]=s at a3 bq;rw[bo.q]at ap;rw[bq.q]at aq;generalize (p.take k).map (R.pick v.I)=xs at bA ap bR;generalize (p.take k).map (R.pick v.s)=bf at a4 aq bR;have bS:=qQ a4;subst bA;have co:xs.length<=6:=by have:=(R.aB (R.cK S.q).1).1;have:=bg.q;omega
    have cp:bf.length<=6:=by have:=bS.q;omega
    clear a4;have X:m.cell? ⟨ag.heap.size,1,none⟩=some (.slice aQ xs.length bJ):=bR.q.aL.cell 1;have aD:m.cell? ⟨w.heap.size,1,none⟩=some (.slice (some ⟨b,off,none⟩) v.I.length c):=(E.q.cell (p:=⟨w.heap.size,1,none⟩) (by simp;omega)).trans b9;have aE:m.cell? ⟨b,off+q,none⟩=some (.int .i64 d):=(E.q.cell (p:=⟨b,off+q,none⟩) (by simp;omega)).trans ((N.q.cell (p:=⟨b,off+q,none⟩) (by simp;omega)).trans a2);have bW:m.cell? ⟨a7,a8+xs.length,none⟩=some (.int .i64 (q:Int)):=(E.q.cell (p:=⟨a7,a8+xs.length,none⟩) (by simp;omega)).trans ((N.q.cell (p:=⟨a7,a8+xs.length,none⟩) (by simp;omega)).trans a6);have f1:=bR.q.aL.frozen 1;have bX:∀o,(m.alloc o).frozen? ⟨ag.heap.size,1,none⟩=false:=λo=>(bR.q.alloc o).aL.frozen 1
    have i1:(0:Int)<=(xs.length:Int):=by omega
    have i2:(xs.length:Int)<(p.length:Int):=by omega
    have i3:=b2 q;have i4:(q:Int)<(v.I.length:Int):=by omega
    have i5:(q:Int)<(v.s.length:Int):=by omega
    have bG:ag.heap.size<m.heap.size:=bR.q.aL.lt;have bP:=qQ ((N.q.cell (p:=⟨U,ak+q,none⟩) (by simp;omega)).trans a3);clear a6 bH a2 a3;go_wp2_with fail;refine fk (λw'=>w'.cell? ⟨ag.heap.size,1,none⟩=some (.slice aQ xs.length bJ)/\w'.cell? ⟨w.heap.size,1,none⟩=some (.slice (some ⟨b,off,none⟩) v.I.length c)/\w'.cell? ⟨b,off+q,none⟩=some (.int .i64 d)) 9 11 (⟨X,aD,aE⟩) (λQ=>?_);simp only[qF,qG];refine aG 0 45 ?_;refine aG 1 46 ?_;refine aG 2 47 ?_;refine aG 3 48 ?_;refine aG 4 49 ?_;refine aG 5 50 ?_;refine aG 6 51 ?_;try simp only[Act.put,bj,bk,bl]
    refine fT 7 (λK aI=>?_);go_simp;refine aI.q _ _ ?_ (λQ=>?_)
    .exact Xg
    clear aI K;try simp only[bj,bk,bl]
    refine fT 8 (λK aI=>?_);refine wp_append_lies _ _ _ _ (by rfl) (ag.heap.size+1) 3 i0 _ 1 8 underlying23 hi bM bN bO rfl (by omega) (.slice aQ xs.length bJ) xs.length (ints xs) (by rfl) (bR.q.drew.alloc _).b7 ⟨m.heap.size,0,none⟩ 1 1 [.int .i64 d] (by rfl) (by rfl) (World.news_of_block (cs:=#[.int .i64 d]) (t:=3) (fr:=(0,0)) (kJ _ _)) (aS.one_one _ _) (by omega) (by unfold maxLen;omega) (by omega) (by simp;omega) (m.heap.size+1) (by simp) ?_;intro aV aT aw aP y aH a5;refine aI.q _ _ ?_ (λQ=>?_)
    .exact⟨⟨(y.cell_far _ (by simp;omega) (zK (ai.bc bR.q.b7 (by simp)))).trans (by go_keep),(y.cell_far _ (by simp;omega) (zK (ai.bc bR.q.b7 (by simp;omega)))).trans (by go_keep),(y.cell_far _ (by simp;omega) (zK (ai.bc bR.q.b7 (by simp;omega)))).trans (by go_keep)⟩,trivial⟩
    clear aI K;try simp only[bj,bk,bl]
    refine eW [_,_] 9 [10] ?_;have aR:=qQ ((bR.q.drew.alloc _).x9 aP y aH (by simp));have bs:aw.cell? ⟨ag.heap.size,1,none⟩=some (.slice aQ xs.length bJ):=aR.q.aL.cell 1;have f31:=aR.q.aL.frozen 1;clear aP y aH Q a5;go_wp2_with fail;have M:=qQ (aR.q.sD (.slice (some ⟨aV,0,none⟩) (xs.length+1) aT));generalize bY:(aw.setCell ⟨ag.heap.size,1,none⟩ (.slice (some ⟨aV,0,none⟩) (xs.length+1) aT))=W2 at M |-;clear bY bs f31 aR X aD aE bW f1 bX bR E bG;have E:=qQ M.q.below;have bG:ag.heap.size<W2.heap.size:=M.q.aL.lt;have X:W2.cell? ⟨ag.heap.size,2,none⟩=some (.slice bt bf.length bn):=M.q.aL.cell 2;have aD:W2.cell? ⟨w.heap.size,2,none⟩=some (.slice (some ⟨U,ak,none⟩) v.s.length c'):=(E.q.cell (p:=⟨w.heap.size,2,none⟩) (by simp;omega)).trans b';have aE:W2.cell? ⟨U,ak+q,none⟩=some (.int .i64 s):=(E.q.cell (p:=⟨U,ak+q,none⟩) (by simp;omega)).trans bP.q;refine fk (λw'=>w'.cell? ⟨ag.heap.size,2,none⟩=some (.slice bt bf.length bn)/\w'.cell? ⟨w.heap.size,2,none⟩=some (.slice (some ⟨U,ak,none⟩) v.s.length c')/\w'.cell? ⟨U,ak+q,none⟩=some (.int .i64 s)) 9 11 (⟨X,aD,aE⟩) (λQ=>?_);simp only[qF,qG];refine aG 0 55 ?_;refine aG 1 56 ?_;refine aG 2 57 ?_;refine aG 3 58 ?_;refine aG 4 59 ?_;refine aG 5 60 ?_;refine aG 6 61 ?_;try simp only[Act.put,bj,bk,bl]
    refine fT 7 (λK aI=>?_);go_simp;refine aI.q _ _ ?_ (λQ=>?_)
    .exact Xg
    clear aI K;try simp only[bj,bk,bl]
    refine fT 8 (λK aI=>?_);refine wp_append_lies _ _ _ _ (by rfl) (ag.heap.size+1) 3 i0 _ 1 8 underlying23 hi bM bN bO rfl (by omega) (.slice bt bf.length bn) bf.length (ints bf) (by rfl) (M.q.drew.alloc _).bw ⟨W2.heap.size,0,none⟩ 1 1 [.int .i64 s] (by rfl) (by rfl) (World.news_of_block (cs:=#[.int .i64 s]) (t:=3) (fr:=(0,0)) (kJ _ _)) (aS.one_one _ _) (by omega) (by unfold maxLen;omega) (by omega) (by simp;omega) (W2.heap.size+1) (by simp) ?_;intro aV aT aw aP y aH a5;refine aI.q _ _ ?_ (λQ=>?_)
    .exact⟨⟨(y.cell_far _ (by simp;omega) (zK (ai.bc M.q.bw (by simp)))).trans (by go_keep),(y.cell_far _ (by simp;omega) (zK (ai.bc M.q.bw (by simp;omega)))).trans (by go_keep),(y.cell_far _ (by simp;omega) (zK (ai.bc M.q.bw (by simp;omega)))).trans (by go_keep)⟩,trivial⟩
    clear aI K;try simp only[bj,bk,bl]
    refine eW [_,_] 9 [10] ?_;have a0:=qQ ((M.q.drew.alloc _).sb aP y aH (by simp));have bs:aw.cell? ⟨ag.heap.size,2,none⟩=some (.slice bt bf.length bn):=a0.q.aL.cell 2;have f31:=a0.q.aL.frozen 2;clear aP y aH Q a5 X aD aE;go_wp2_with fail;have br:=qQ (a0.q.sE (.slice (some ⟨aV,0,none⟩) (bf.length+1) aT))
    first
     | exact⟨⟨xs.length+1,_,_,by omega,by go_num,by rw[ap.q,aq.q];exact br.q⟩,by simp[intOf];omega⟩
     | (go_roundw
        case rel=>exact⟨xs.length+1,_,_,by omega,by go_num,by rw[ap.q,aq.q];exact br.q⟩
        case measure=>simp[intOf];omega)
   obtain rfl:k=p.length:=by omega
   rw[zS]at r bR;have Le:=qQ (R.B1 (p:=p) S.q bh.q);obtain⟨aQ,bJ,b6,tv,Et,Ey,p7⟩:=ai.df r.b7;obtain⟨bt,bn,b8,nC,rS,rV,ma⟩:=ai.df r.bw;subst b6 b8;have D:=O.q.below E.q (by omega);have cj:m.cell? ⟨ag.heap.size,0,none⟩=some (.int .i64 v.st):=r.aL.cell 0;have X:m.cell? ⟨ag.heap.size,1,none⟩=some (.slice aQ (p.map (R.pick v.I)).length bJ):=r.aL.cell 1;have cl:m.cell? ⟨ag.heap.size,2,none⟩=some (.slice bt (p.map (R.pick v.s)).length bn):=r.aL.cell 2;have a9:m.cell? ⟨w.heap.size+1,0,none⟩=some (.int .i64 0):=D.cell 0;have a_:m.cell? ⟨w.heap.size+1,1,none⟩=some (.slice none 0 0):=D.cell 1;have a':m.cell? ⟨w.heap.size+1,2,none⟩=some (.slice none 0 0):=D.cell 2;have f0:=D.frozen 0;have f1:=D.frozen 1;have f2:=D.frozen 2;refine Jb ?_;intro Hj Hk;have bQ:=qQ (ai.three (N.q.trans (E.q.mono N.q.size)) (xV w.heap.size) (.int .i64 v.st) (.slice aQ (p.map (R.pick v.I)).length bJ) (.slice bt (p.map (R.pick v.s)).length bn));have ko:=qQ (qZ p7 ma);clear r D tv nC p7 ma bR;generalize bI:p.map (R.pick v.I)=xs at *;generalize bL:p.map (R.pick v.s)=bf at *;have cd:=qQ bI;have cf:=qQ bL;clear bI bL;go_wp2_with fail;refine qR (v:=.tuple #[.agg #[.int .i64 v.st,.slice aQ xs.length bJ,.slice bt bf.length bn],.int .i64 0]) (by simp[results,results136,go_sem,a9,a_,a']) rfl ⟨?_,bQ.q⟩;exact ZC
  have hq:((p.length:Int) != (v.I.length:Int))=true:=by simp;omega
  have bR:=qQ (R.k' (p:=p) S.q (R.tF hlen));clear hlen;go_enter func136,ntmps136;go_wp2_with fail;refine(hD.q _ bp.q).mono ?_;rintro e ag ⟨rfl,bV⟩;rw[S.q];obtain⟨dt,eG⟩:=lh bV;have ga:w.heap.size+1<ag.heap.size:=by have:=bV.size;simp at this;omega
  go_wp2_with fail;refine qR (v:=.tuple #[.agg #[.int .i64 0,.slice none 0 0,.slice none 0 0],.int .i64 6]) (by simp[results,results136,go_sem,dt]) rfl ⟨?_,?_⟩
  .exact JZ
  exact Xi
 have bR:=qQ (R.tP (p:=p) Y);have hq:(R.aF v != 0)=true:=by simpa using Y
 clear Y;go_enter func136,ntmps136;go_wp2_with fail;refine Vj ?_;intro ag bV dt eG ga;go_wp2_with fail;refine qR (v:=.tuple #[.agg #[.int .i64 0,.slice none 0 0,.slice none 0 0],.int .i64 (R.aF v)]) (by simp[results,results136,go_sem,dt]) rfl ⟨?_,?_⟩
 .exact JZ
 exact ai.three (aA bp.q bV) (xV _) _ _ _
attribute [local go_sem ↓] Go.wp_at_zero Go.wp_at_succ
namespace ai
def fO(l:List Bool):List Value:=l.map .bool
theorem uz(l:List Bool)(j:Nat)(x:Bool):(fO l).toArray.setIfInBounds j (.bool x)=(fO (l.set j x)).toArray:=by
 unfold fO;simp
theorem ye(l:List Bool)(j:Nat)(h:j<l.length):(fO l).toArray[j]?=some (.bool l[j]):=by unfold fO;simp[h]
def seen(n:Nat)(p:List Int):List Bool:=(List.range n).map λk:Nat=>decide ((k:Int)∈p)
theorem n8(n:Nat)(p:List Int):(seen n p).length=n:=by simp[seen]
theorem BW(n:Nat)(p:List Int)(k:Nat)(h:k<n):(seen n p)[k]'(by rw[n8];exact h)=decide ((k:Int)∈p):=by simp[seen]
theorem z'(n:Nat):seen n []=List.replicate n false:=by
 apply jP
 .simp[seen]
 intro i j m;simp[seen]
theorem Aa(n:Nat)(p:List Int)(k:Nat)(h:k<n):(seen n p).set k true=seen n (p++[(k:Int)]):=by
 apply jP
 .simp[seen]
 intro i j m;rw[kG];simp only[seen,vC,wM,vR,kS];by_cases e:k=i
 .subst e;simp
 have:¬(i:Int)=(k:Int):=by omega
 simp[e,this]
theorem mH(W:World)(n:Nat)(h:W.heap.size=n)(t:TypeId)(cs:Array Value):av (W.alloc (.cells cs t)) n t cs:=by subst h;exact av.new W t cs
theorem dF.cR{N a8:Nat}{bD W:World}{st:Int}{u1 u2 v1 v2:Value}{xs bf:List Int}(h:dF N a8 bD st u1 u2 v1 v2 xs bf W)(c o:Nat)(i:N<=c)(j:c<a8)(x:Value):dF N a8 bD st u1 u2 v1 v2 xs bf (W.setCell ⟨c,o,none⟩ x) :=
 ⟨h.aL.cR (p:=⟨c,o,none⟩) (by simp;omega) x,h.b7.kept (cT W c o x) (.inr (bc h.b7 (by omega))),h.bw.kept (cT W c o x) (.inr (bc h.bw (by omega))),h.apart,h.below.setCell (p:=⟨c,o,none⟩) i x,h.low⟩
theorem dF.KC(i:World)(o:Obj)(st:Int):dF i.heap.size (i.heap.size+1) i st (.slice none 0 0) (.slice none 0 0) (.slice none 0 0) (.slice none 0 0) [] [] ((i.alloc o).alloc (.cells #[.int .i64 st,.slice none 0 0,.slice none 0 0] 159)) :=
 ⟨oD i o _ _,vH _ _ _ _,vH _ _ _ _,λb h=>by simp[Value.ownBlock]at h,((qK _ _).alloc (qX _) _).alloc (by simp) _,xV _⟩
theorem tA{p:List Int}(h:p.Nodup)(m:x∉p):(p++[x]).Nodup:=by
 rw[uB];refine⟨h,by simp,λa i b j e=>?_⟩;rw[List.mem_singleton.1 j]at e;exact m (e▸i)
end ai
theorem Tryz.Io:(Tryz.prog.info? 4).map (λi=>(i.zero,i.size,i.bytes))=some (some (.bool false),1,1):=by kernel_rfl
theorem oQ(c:Nat):madeCells (Value.bool false).cells c=(ai.fO (List.replicate c false)).toArray:=by
 apply uN
 .simp[wB,ai.fO]
 intro i j m;simp[madeCells,ai.fO,Value.cells,wC]
theorem _root_.Qh{G:Prop}(h:G:=by
 obtain⟨i0,hi,hv,vK,vN⟩:=xQ Tryz.Io;have aE:(i0.bytes:Int)*(c:Int)<=281474976710656:=by rw[vN];omega
 have cw:=run_make (P:=Tryz.prog) w 198 4 i0 _ underlying198 hi hv .i64 .i64 c c (by omega) (by omega) aE (by omega);simp only[xY,vK,zF]at cw;exact cw
 ):G:=h
theorem l6(c:Nat)(h:c<=65536)(w:World):(Instr.makeSlice 198 (.int .i64 (c:Int)) (.int .i64 (c:Int))).run Tryz.prog w=.ok (.slice (some ⟨w.heap.size,0,none⟩) c c) (w.alloc (.cells (ai.fO (List.replicate c false)).toArray 4)):=by
 rw[<-oQ];exact Qh
theorem _root_.QO{G:Prop}(h:G:=by
 have MW:pL.cell? ⟨ag.heap.size+1,2,none⟩=some (.slice bt bf.length bn):=pE.q.aL.cell 2;have MX:=pE.q.aL.frozen 2;have I5:=qQ (pE.q.sE (.slice (some ⟨Hs,0,none⟩) (bf.length+1) xq));have I3:=qQ (sY.q.cR (p:=⟨ag.heap.size+1,2,none⟩) (by simp) (.slice (some ⟨Hs,0,none⟩) (bf.length+1) xq));rw[dr.q]at I5 I3;clear ax Kb;refine eW [_] 21 [] ?_;go_wp2_with fail
 first
  | exact⟨⟨k+1,_,_,by omega,by go_num,lx.q.1,lx.q.2,by rw[mD.q,ix.q];exact I5.q,I3.q⟩,by simp[intOf];omega⟩
  | (go_roundw
     case rel=>exact⟨k+1,_,_,by omega,by go_num,lx.q.1,lx.q.2,by rw[mD.q,ix.q];exact I5.q,I3.q⟩
     case measure=>simp[intOf];omega)
 ):G:=h
theorem _root_.Qp{G:Prop}(h:G:=by
 exact⟨(xE (qN _ _ _ _ (by simp<;>omega))).trans ax.2.1,(xE (qN _ _ _ _ (by simp<;>omega))).trans ax.2.2.1,(xE (qN _ _ _ _ (by simp<;>omega))).trans ax.2.2.2.1,(xE (qN _ _ _ _ (by simp<;>omega))).trans ax.2.2.2.2⟩
 ):G:=h
theorem _root_.ZX{G:Prop}(h:G:=by
 clear dE D9 jh;go_wp2_with fail;refine qR (v:=.tuple #[.agg #[.int .i64 0,.slice none 0 0,.slice none 0 0],.int .i64 6]) (by simp[results,results159,go_sem,ek,en,eo]) rfl ⟨?_,fF.q _ _ _⟩;rw[c5.q];exact ai.d' _ _ _ _
 ):G:=h
theorem _root_.ZW{G:Prop}(h:G:=by
 go_wp2_with fail;refine qR (v:=.tuple #[.agg #[.int .i64 0,.slice none 0 0,.slice none 0 0],.int .i64 6]) (by simp[results,results159,go_sem,ek,en,eo]) rfl ⟨?_,fF.q _ _ _⟩;rw[c5.q];exact ai.d' _ _ _ _
 ):G:=h
theorem _root_.Xx{G:Prop}(h:G:=by
 exact⟨⟨by go_keep,by go_keep⟩,by go_keep,by go_keep,by go_keep,by go_keep⟩
 ):G:=h
theorem _root_.Xc{G:Prop}(h:G:=by
 (intro w Mn;(try dsimp only at Mn);go_simp;try with_reducible rfl)
 ):G:=h
theorem _root_.JH{G:Prop}(r:bm)(f:dS bm->G:=by
 intro bb;refine(hD.q _ bp.q).mono ?_;rintro e ag ⟨rfl,bV⟩;rw[dk.q];have oO:=((av.new w 159 #[.int .i64 v.st,.slice A v.I.length c,.slice bK v.s.length c']).alloc (.cells #[.int .i64 0,.slice none 0 0,.slice none 0 0] 159)).below bV (by simp;omega);have cw:=(ai.oD w (.cells #[.int .i64 v.st,.slice A v.I.length c,.slice bK v.s.length c'] 159) 159 #[.int .i64 0,.slice none 0 0,.slice none 0 0]).below bV (by simp);obtain⟨cd,g_,bU⟩:=aK oO cw (aA bp.q bV);have ga:w.heap.size+1<ag.heap.size:=by have:=bV.size;simp at this;omega
 have fp:ag.cell? ⟨w.heap.size,1,none⟩=some (.slice A v.I.length c):=oO.cell 1;have b':ag.cell? ⟨w.heap.size,2,none⟩=some (.slice bK v.s.length c'):=oO.cell 2;revert ag bV oO cw cd g_ bU ga fp b';exact bb.o
 ):G:=f ⟨r⟩
theorem FH(val:Value)(v:R.V)(P:Option Addr)(bo:Nat)(p:List Int)(B:Nat)(w:World)(ah:B<=w.heap.size)(h:ai.cm w B val v)(hp:ai.ao w B P p)(dn:p.length<=bo)(dp:bo<=9223372036854775807):Calls Tryz.prog 159 #[val,.slice P p.length bo] w λe w'=>ai.fb 0 w w' (R.turn v p) e/\Below w.heap.size w w':=by
 have hD:=qQ (λ(W:World) (bq:Below w.heap.size w W)=>jq val v B W (qJ ah bq.size) (h.below (bq.mono ah)));have cC:=qQ hp;obtain⟨A,c,bK,c',rfl,ar,az,aO,bz,c9,c_⟩:=h;refine VX ?_;intro ep hB bp;clear ar az hp;by_cases aH:R.aF v=0
 .have dk:=qQ aH;obtain⟨cn,z2,z3,z4⟩:=R.cK aH;have dm:v.I.length<=6:=(R.aB cn).1;have cp:=qQ z2;have di:=λW=>l6 v.I.length (by omega) W
  clear aH cn z2 z4;go_enter func159,ntmps159;go_wp2_with fail;refine JH ?_;intro ag bV oO cw cd g_ bU ga fp b';have c3:∀o,(ag.alloc o).cell? ⟨w.heap.size,0,none⟩=some (.int .i64 v.st):=λo=>(cd.q.alloc o).cell 0
  obtain⟨i0,hi,aR,aT,aU⟩:=xQ Tryz.dB;clear bV oO cw;go_wp2_with fail;go_loopw [10,26] (λ_ i wr=>∃(k:Nat) (v1 v2:Value),k<=p.length/\i=.int .i64 (k:Int)/\(∀x∈p.take k,0<=x/\x<(v.I.length:Int))/\(p.take k).Nodup/\ai.dF ag.heap.size (ag.heap.size+1) ag v.st v1 v2 v1 v2 ((p.take k).map (R.pick v.I)) ((p.take k).map (R.pick v.s)) wr /\
      av wr ag.heap.size 4 (ai.fO (ai.seen v.I.length (p.take k))).toArray) (λ_ i _=>p.length+1-(intOf i).toNat)
  case atStart =>
   refine⟨0,_,_,by omega,rfl,by simp,by simp,ai.dF.KC ag _ v.st,?_⟩;rw[yG,ai.z'];exact(av.new ag _ _).alloc _
  obtain⟨k,v1,v2,dc,rfl,aC,ap,dE,b_⟩:=hrel;obtain⟨E,rfl⟩:∃E:World,E=wr:=⟨_,rfl⟩;obtain⟨bR,X,aW,a7,a6⟩:=fC dE dE.below b_ aC ap;have ca:ag.heap.size+1<E.heap.size:=dE.aL.lt;have aq:=g_.q.below X.q (by omega);have ek:E.cell? ⟨w.heap.size+1,0,none⟩=some (.int .i64 0):=aq.cell 0;have en:E.cell? ⟨w.heap.size+1,1,none⟩=some (.slice none 0 0):=aq.cell 1;have eo:E.cell? ⟨w.heap.size+1,2,none⟩=some (.slice none 0 0):=aq.cell 2;have f0:=aq.frozen 0;have f1:=aq.frozen 1;have f2:=aq.frozen 2;have fF:=qQ (λx y z=>ai.three (bU.q.trans (X.q.mono bU.q.size)) (xV w.heap.size) x y z);clear aq aC ap b_;by_cases aP:k<p.length
  .obtain⟨cg,ci,rfl,du,b6⟩:=cC.q (by omega);have b8:=(X.q.cell (p:=⟨cg,ci+k,none⟩) (by simp;omega)).trans ((bU.q.cell (p:=⟨cg,ci+k,none⟩) (by simp;omega)).trans (b6 k aP));obtain⟨mD,ix,bm,bh,bQ⟩:=fC (R.i_ (R.pick v.I) p k aP) (R.i_ (R.pick v.s) p k aP) (R.cM p k aP) (R.CO (n:=v.I.length) aP) (R.zp (n:=v.I.length) aP);have D9:((p.take k).map (R.pick v.I)).length=k:=by simp;omega
   have jh:((p.take k).map (R.pick v.s)).length=k:=by simp;omega
   have i1:=b2 k;have i2:(k:Int)<(p.length:Int):=by omega
   clear b6;generalize p[k]=x at b8 mD ix bm bh bQ;by_cases bG:x<0
   .have c5:=qQ (R.k' dk.q (bh.q (.inl bG)));exact ZX
   by_cases bH:(v.I.length:Int)<=x
   .have c5:=qQ (R.k' dk.q (bh.q (.inr bH)));exact ZX
   obtain⟨q,rfl⟩:∃q:Nat,x=(q:Int):=⟨x.toNat,by omega⟩;have a4:q<v.I.length:=by omega
   have b9:q<v.s.length:=by have:=cp.q;omega
   have i3:=b2 q;have i4:(q:Int)<(v.I.length:Int):=by omega
   have i5:(q:Int)<(v.s.length:Int):=by omega
   have bF:E.cell? ⟨ag.heap.size,q,none⟩=some (.bool (decide ((q:Int)∈p.take k))):=by
    rw[aW.q.cell q,ai.ye _ q (by rw[ai.n8];exact a4),ai.BW _ _ _ a4]
   have cZ:=aW.q.frozen q;by_cases aN:(q:Int)∈p.take k
   .have c5:=qQ (R.k' dk.q (bQ.q aN));rw[zD aN]at bF;clear dE D9 jh aN bG bH;exact ZW
   rw[zN aN]at bF;have co:=qQ aN;clear aN bG bH;obtain⟨aQ,bJ,rfl,dj⟩:=ai.aZ dE.b7;obtain⟨bt,bn,rfl,dl⟩:=ai.aZ dE.bw;obtain⟨b,off,rfl,bq,dt⟩:=ep.q (by omega);obtain⟨aE,aV,rfl,db,b3⟩:=hB.q (by omega);have br:=dt q a4;have bu:=b3 q b9;have bI:=qQ (R.jl v.I q a4);have bL:=qQ (R.jl v.s q b9);clear dt b3;generalize v.I[q]=d at br bI;generalize v.s[q]=s at bu bL;rw[bI.q]at mD;rw[bL.q]at ix;have lx:=qQ (show(∀x∈p.take (k+1),0<=x/\x<(v.I.length:Int))/\(p.take (k+1)).Nodup by
    rw[bm.q];refine⟨λx oO=>?_,ai.tA a6.q co.q⟩;rcases List.mem_append.1 oO with h | h
    .exact a7.q x h
    rw[List.mem_singleton.1 h];exact⟨i3,i4⟩)
   have cD:=qQ ((ai.uz (ai.seen v.I.length (p.take k)) q true).trans (by rw[ai.Aa _ _ _ a4,<-bm.q]));clear dE;generalize (p.take k).map (R.pick v.I)=xs at D9 mD bR;generalize (p.take k).map (R.pick v.s)=bf at jh ix bR;have m:=qQ D9;have dr:=qQ jh;have dg:k<=p.length:=by omega
   clear D9 jh;go_wp2_with fail;have aD:=qQ (bR.q.cR ag.heap.size q (qX _) (by omega) (.bool true));have bM:=qQ (show av (E.setCell ⟨ag.heap.size,q,none⟩ (.bool true)) ag.heap.size 4 (ai.fO (ai.seen v.I.length (p.take (k+1)))).toArray by rw[<-cD.q];exact aW.q.bs q _);generalize c0:E.setCell ⟨ag.heap.size,q,none⟩ (.bool true)=W2 at aD bM |-;clear c0 bR aW X bF cZ ca ek en eo f0 f1 f2 fF b8;have X:=qQ aD.q.below;have ca:ag.heap.size+1<W2.heap.size:=aD.q.aL.lt;have bS:W2.cell? ⟨ag.heap.size+1,1,none⟩=some (.slice aQ k bJ):=by rw[<-m.q];exact aD.q.aL.cell 1
   have bT:W2.cell? ⟨ag.heap.size+1,2,none⟩=some (.slice bt k bn):=by rw[<-dr.q];exact aD.q.aL.cell 2
   have cT:W2.cell? ⟨w.heap.size,1,none⟩=some (.slice (some ⟨b,off,none⟩) v.I.length c):=(X.q.cell (p:=⟨w.heap.size,1,none⟩) (by simp;omega)).trans fp;have cU:W2.cell? ⟨w.heap.size,2,none⟩=some (.slice (some ⟨aE,aV,none⟩) v.s.length c'):=(X.q.cell (p:=⟨w.heap.size,2,none⟩) (by simp;omega)).trans b';have cW:W2.cell? ⟨b,off+q,none⟩=some (.int .i64 d):=(X.q.cell (p:=⟨b,off+q,none⟩) (by simp;omega)).trans ((bU.q.cell (p:=⟨b,off+q,none⟩) (by simp;omega)).trans br);have cY:W2.cell? ⟨aE,aV+q,none⟩=some (.int .i64 s):=(X.q.cell (p:=⟨aE,aV+q,none⟩) (by simp;omega)).trans ((bU.q.cell (p:=⟨aE,aV+q,none⟩) (by simp;omega)).trans bu);have dh:k<9:=by have:=R.sA a6.q (λx oO=>R.fu.2 (a7.q x oO));rw[R.fi,qM]at this;omega
   have a8:=qQ aD.q.drew;have bN:=qQ bM.q.drew;clear br bu c3 fp b';refine iT (λw'=>w'.cell? ⟨ag.heap.size+1,1,none⟩=some (.slice aQ k bJ)/\w'.cell? ⟨ag.heap.size+1,2,none⟩=some (.slice bt k bn)) 19 (λw'=>w'.cell? ⟨w.heap.size,1,none⟩=some (.slice (some ⟨b,off,none⟩) v.I.length c)/\w'.cell? ⟨w.heap.size,2,none⟩=some (.slice (some ⟨aE,aV,none⟩) v.s.length c')/\w'.cell? ⟨b,off+q,none⟩=some (.int .i64 d)/\w'.cell? ⟨aE,aV+q,none⟩=some (.int .i64 s)) 21 22 rfl (by kernel_rfl) ⟨⟨bS,bT⟩,⟨cT,cU,cW,cY⟩⟩ (λax=>?_);simp only[qF,qG];refine e5 0 48 ?_;refine aG 1 49 ?_;refine e5 2 50 ?_;try simp only[Act.put,bj,bk,bl]
   refine nP 3 51 (v:=?_) ⟨λ_=>ax.1,λ_=>ax.2⟩ rfl rfl (by kernel_rfl) (λ_ _ _ h=>h) rfl ?_ ?_;rotate_left
   .exact Xc
   try simp only[Act.put,bj,bk,bl]
   refine e5 4 52 ?_;refine e5 5 53 ?_;try simp only[Act.put,bj,bk,bl]
   refine nP 6 54 (v:=?_) ⟨λ_=>ax.1,λ_=>ax.2⟩ rfl rfl (by kernel_rfl) (λ_ _ _ h=>h) rfl ?_ ?_;rotate_left
   .exact Xc
   try simp only[Act.put,bj,bk,bl]
   refine e5 9 57 ?_;refine aG 10 58 ?_;refine e5 11 59 ?_;try simp only[Act.put,bj,bk,bl]
   refine nP 12 60 (v:=?_) ⟨λ_=>ax.1,λ_=>ax.2⟩ rfl rfl (by kernel_rfl) (λ_ _ _ h=>h) rfl ?_ ?_;rotate_left
   .exact Xc
   try simp only[Act.put,bj,bk,bl]
   refine e5 13 61 ?_;refine e5 14 62 ?_;try simp only[Act.put,bj,bk,bl]
   refine nP 15 63 (v:=?_) ⟨λ_=>ax.1,λ_=>ax.2⟩ rfl rfl (by kernel_rfl) (λ_ _ _ h=>h) rfl ?_ ?_;rotate_left
   .exact Xc
   try simp only[Act.put,bj,bk,bl]
   refine gM 7 16 (by kernel_rfl) (bB rfl rfl (λK aI=>?_)) (bB rfl rfl (λK aI=>?_))
   .go_simp;refine aI.q _ _ ?_ (λax=>?_)
    .exact Xx
    obtain⟨bg,S,bO⟩:=aK (ai.mH W2.drew (W2.heap.size) (by simp) 3 #[.int .i64 d]) (a8.q.alloc (.cells #[.int .i64 d] 3)) (bN.q.alloc (.cells #[.int .i64 d] 3));clear aI K;try simp only[bj,bk,bl]
    refine gM 8 16 (by kernel_rfl) (bB rfl rfl (λK aI=>?_)) (bB rfl rfl (λK aI=>?_))
    .refine wp_append_lies _ _ _ _ (by rfl) (ag.heap.size+1+1) 3 i0 _ 1 8 underlying23 hi aR aT aU rfl (by omega) (.slice aQ k bJ) k (ints xs) (by rfl) (by have h:=S.q.b7;rw[m.q]at h;exact h) ⟨W2.heap.size,0,none⟩ 1 1 [.int .i64 d] (by rfl) (by rfl) (World.news_of_block (cs:=#[.int .i64 d]) (t:=3) (fr:=(0,0)) bg.q) (aS.one_one _ _) (by omega) (by unfold maxLen;omega) (by omega) (by first | omega | (simp<;>omega)) (W2.heap.size+1) (by first | rfl | simp) ?_;intro N M a5 D j r O;refine aI.q _ _ ?_ (λax=>?_)
     .exact⟨⟨(j.cell_far _ (by simp<;>omega) (zK (ai.bc (v:=.slice aQ k bJ) (by have h:=S.q.b7;rw[m.q]at h;exact h) (by simp<;>omega)))).trans (by go_keep),(j.cell_far _ (by simp<;>omega) (zK (ai.bc (v:=.slice aQ k bJ) (by have h:=S.q.b7;rw[m.q]at h;exact h) (by simp<;>omega)))).trans (by go_keep)⟩,(j.cell_far _ (by simp<;>omega) (zK (ai.bc (v:=.slice aQ k bJ) (by have h:=S.q.b7;rw[m.q]at h;exact h) (by simp<;>omega)))).trans (by go_keep),(j.cell_far _ (by simp<;>omega) (zK (ai.bc (v:=.slice aQ k bJ) (by have h:=S.q.b7;rw[m.q]at h;exact h) (by simp<;>omega)))).trans (by go_keep),(j.cell_far _ (by simp<;>omega) (zK (ai.bc (v:=.slice aQ k bJ) (by have h:=S.q.b7;rw[m.q]at h;exact h) (by simp<;>omega)))).trans (by go_keep),(j.cell_far _ (by simp<;>omega) (zK (ai.bc (v:=.slice aQ k bJ) (by have h:=S.q.b7;rw[m.q]at h;exact h) (by simp<;>omega)))).trans (by go_keep)⟩
     have bA:=j;have bY:=D;rw[<-m.q]at bA bY r;have bP:=qQ (S.q.x9 bY bA r (by simp));have dx:ag.heap.size+1<a5.heap.size:=bP.q.aL.lt;have cI:=qQ (bO.q.grown bA (zK (ai.bc S.q.b7 (by omega))));clear aI K D j r O;try simp only[bj,bk,bl]
     refine e5 18 66 ?_;try simp only[Act.put,bj,bk,bl]
     refine fT 16 (λK aI=>?_);go_simp;refine aI.q _ _ ?_ (λax=>?_)
     .exact Xx
     obtain⟨cz,Z,cJ,c4⟩:=cV (ai.mH a5 (a5.heap.size) (by simp) 3 #[.int .i64 s]) (bP.q.alloc (.cells #[.int .i64 s] 3)) (cI.q.alloc (.cells #[.int .i64 s] 3)) (bg.q.alloc (.cells #[.int .i64 s] 3));clear aI K;try simp only[bj,bk,bl]
     refine fT 17 (λK aI=>?_);refine wp_append_lies _ _ _ _ (by rfl) (ag.heap.size+1+1) 3 i0 _ 1 8 underlying23 hi aR aT aU rfl (by omega) (.slice bt k bn) k (ints bf) (by rfl) (by have h:=Z.q.bw;rw[dr.q]at h;exact h) ⟨a5.heap.size,0,none⟩ 1 1 [.int .i64 s] (by rfl) (by rfl) (World.news_of_block (cs:=#[.int .i64 s]) (t:=3) (fr:=(0,0)) cz.q) (aS.one_one _ _) (by omega) (by unfold maxLen;omega) (by omega) (by first | omega | (simp<;>omega)) (a5.heap.size+1) (by first | rfl | simp) ?_;intro Hs xq bd D j r O;refine aI.q _ _ ?_ (λax=>?_)
     .exact⟨⟨(j.cell_far _ (by simp<;>omega) (zK (ai.bc (v:=.slice bt k bn) (by have h:=Z.q.bw;rw[dr.q]at h;exact h) (by simp<;>omega)))).trans (by go_keep),(j.cell_far _ (by simp<;>omega) (zK (ai.bc (v:=.slice bt k bn) (by have h:=Z.q.bw;rw[dr.q]at h;exact h) (by simp<;>omega)))).trans (by go_keep)⟩,(j.cell_far _ (by simp<;>omega) (zK (ai.bc (v:=.slice bt k bn) (by have h:=Z.q.bw;rw[dr.q]at h;exact h) (by simp<;>omega)))).trans (by go_keep),(j.cell_far _ (by simp<;>omega) (zK (ai.bc (v:=.slice bt k bn) (by have h:=Z.q.bw;rw[dr.q]at h;exact h) (by simp<;>omega)))).trans (by go_keep),(j.cell_far _ (by simp<;>omega) (zK (ai.bc (v:=.slice bt k bn) (by have h:=Z.q.bw;rw[dr.q]at h;exact h) (by simp<;>omega)))).trans (by go_keep),(j.cell_far _ (by simp<;>omega) (zK (ai.bc (v:=.slice bt k bn) (by have h:=Z.q.bw;rw[dr.q]at h;exact h) (by simp<;>omega)))).trans (by go_keep)⟩
     have bD:=j;have bZ:=D;rw[<-dr.q]at bD bZ r;have a0:=qQ (Z.q.sb bZ bD r (by simp));have dy:ag.heap.size+1<bd.heap.size:=a0.q.aL.lt;have cL:=qQ (cJ.q.grown bD (zK (ai.bc Z.q.bw (by omega))));clear aI K D j r O;try simp only[bj,bk,bl]
     have b5:ag.heap.size+1<bd.heap.size:=a0.q.aL.lt;have a2:bd.cell? ⟨ag.heap.size+1,1,none⟩=some (.slice aQ xs.length bJ):=a0.q.aL.cell 1;have a3:=a0.q.aL.frozen 1;have pE:=qQ (a0.q.sD (.slice (some ⟨N,0,none⟩) (xs.length+1) M));have sY:=qQ (cL.q.cR (p:=⟨ag.heap.size+1,1,none⟩) (by simp) (.slice (some ⟨N,0,none⟩) (xs.length+1) M));rw[m.q]at pE sY;refine eh 19 (by kernel_rfl) (dq rfl rfl (by kernel_rfl) (λK aI=>?_));go_simp;refine aI.q _ _ ?_ (λax=>?_)
     .exact Qp
     clear aI K;try simp only[bj,bk,bl]
     refine mw 20 67 ?_;try simp only[Act.put,bj,bk,bl]
     clear a2 a3;generalize Kb:bd.setCell ⟨ag.heap.size+1,1,none⟩ (.slice (some ⟨N,0,none⟩) (k+1) M)=pL at pE sY ax |-;exact QO
    go_simp;refine aI.q _ _ ?_ (λax=>?_)
    .exact Xx
    obtain⟨cA,ak,cN,cr⟩:=cV (ai.mH (W2.drew.alloc (.cells #[.int .i64 d] 3)) (W2.heap.size+1) (by simp) 3 #[.int .i64 s]) (S.q.alloc (.cells #[.int .i64 s] 3)) (bO.q.alloc (.cells #[.int .i64 s] 3)) (bg.q.alloc (.cells #[.int .i64 s] 3));clear aI K;try simp only[bj,bk,bl]
    refine fT 8 (λK aI=>?_);refine wp_append_lies _ _ _ _ (by rfl) (ag.heap.size+1+1) 3 i0 _ 1 8 underlying23 hi aR aT aU rfl (by omega) (.slice aQ k bJ) k (ints xs) (by rfl) (by have h:=ak.q.b7;rw[m.q]at h;exact h) ⟨W2.heap.size,0,none⟩ 1 1 [.int .i64 d] (by rfl) (by rfl) (World.news_of_block (cs:=#[.int .i64 d]) (t:=3) (fr:=(0,0)) cr.q) (aS.one_one _ _) (by omega) (by unfold maxLen;omega) (by omega) (by first | omega | (simp<;>omega)) (W2.heap.size+1+1) (by first | rfl | simp) ?_;intro N M cl D j r O;refine aI.q _ _ ?_ (λax=>?_)
    .exact⟨⟨(j.cell_far _ (by simp<;>omega) (zK (ai.bc (v:=.slice aQ k bJ) (by have h:=ak.q.b7;rw[m.q]at h;exact h) (by simp<;>omega)))).trans (by go_keep),(j.cell_far _ (by simp<;>omega) (zK (ai.bc (v:=.slice aQ k bJ) (by have h:=ak.q.b7;rw[m.q]at h;exact h) (by simp<;>omega)))).trans (by go_keep)⟩,(j.cell_far _ (by simp<;>omega) (zK (ai.bc (v:=.slice aQ k bJ) (by have h:=ak.q.b7;rw[m.q]at h;exact h) (by simp<;>omega)))).trans (by go_keep),(j.cell_far _ (by simp<;>omega) (zK (ai.bc (v:=.slice aQ k bJ) (by have h:=ak.q.b7;rw[m.q]at h;exact h) (by simp<;>omega)))).trans (by go_keep),(j.cell_far _ (by simp<;>omega) (zK (ai.bc (v:=.slice aQ k bJ) (by have h:=ak.q.b7;rw[m.q]at h;exact h) (by simp<;>omega)))).trans (by go_keep),(j.cell_far _ (by simp<;>omega) (zK (ai.bc (v:=.slice aQ k bJ) (by have h:=ak.q.b7;rw[m.q]at h;exact h) (by simp<;>omega)))).trans (by go_keep)⟩
    have a_:=j;have b0:=D;rw[<-m.q]at a_ b0 r;have U:=qQ (ak.q.x9 b0 a_ r (by simp));have dz:ag.heap.size+1<cl.heap.size:=U.q.aL.lt;have cO:=qQ (cN.q.grown a_ (zK (ai.bc ak.q.b7 (by omega))));have cB:=qQ (cA.q.grown a_ (λe=>by have:=(a8.q.b7.lt _ e.symm).2;first | omega | (simp at this<;>omega)));clear aI K D j r O;try simp only[bj,bk,bl]
    refine e5 18 66 ?_;try simp only[Act.put,bj,bk,bl]
    refine fT 17 (λK aI=>?_);refine wp_append_lies _ _ _ _ (by rfl) (ag.heap.size+1+1) 3 i0 _ 1 8 underlying23 hi aR aT aU rfl (by omega) (.slice bt k bn) k (ints bf) (by rfl) (by have h:=U.q.bw;rw[dr.q]at h;exact h) ⟨W2.heap.size+1,0,none⟩ 1 1 [.int .i64 s] (by rfl) (by rfl) (World.news_of_block (cs:=#[.int .i64 s]) (t:=3) (fr:=(0,0)) cB.q) (aS.one_one _ _) (by omega) (by unfold maxLen;omega) (by omega) (by first | omega | (simp<;>omega)) (cl.heap.size) (by first | rfl | simp) ?_;intro Hs xq be D j r O;refine aI.q _ _ ?_ (λax=>?_)
    .exact⟨⟨(j.cell_far _ (by simp<;>omega) (zK (ai.bc (v:=.slice bt k bn) (by have h:=U.q.bw;rw[dr.q]at h;exact h) (by simp<;>omega)))).trans (by go_keep),(j.cell_far _ (by simp<;>omega) (zK (ai.bc (v:=.slice bt k bn) (by have h:=U.q.bw;rw[dr.q]at h;exact h) (by simp<;>omega)))).trans (by go_keep)⟩,(j.cell_far _ (by simp<;>omega) (zK (ai.bc (v:=.slice bt k bn) (by have h:=U.q.bw;rw[dr.q]at h;exact h) (by simp<;>omega)))).trans (by go_keep),(j.cell_far _ (by simp<;>omega) (zK (ai.bc (v:=.slice bt k bn) (by have h:=U.q.bw;rw[dr.q]at h;exact h) (by simp<;>omega)))).trans (by go_keep),(j.cell_far _ (by simp<;>omega) (zK (ai.bc (v:=.slice bt k bn) (by have h:=U.q.bw;rw[dr.q]at h;exact h) (by simp<;>omega)))).trans (by go_keep),(j.cell_far _ (by simp<;>omega) (zK (ai.bc (v:=.slice bt k bn) (by have h:=U.q.bw;rw[dr.q]at h;exact h) (by simp<;>omega)))).trans (by go_keep)⟩
    have bE:=j;have b1:=D;rw[<-dr.q]at bE b1 r;have a1:=qQ (U.q.sb b1 bE r (by simp));have dA:ag.heap.size+1<be.heap.size:=a1.q.aL.lt;have cP:=qQ (cO.q.grown bE (zK (ai.bc U.q.bw (by omega))));clear aI K D j r O;try simp only[bj,bk,bl]
    have b5:ag.heap.size+1<be.heap.size:=a1.q.aL.lt;have a2:be.cell? ⟨ag.heap.size+1,1,none⟩=some (.slice aQ xs.length bJ):=a1.q.aL.cell 1;have a3:=a1.q.aL.frozen 1;have pE:=qQ (a1.q.sD (.slice (some ⟨N,0,none⟩) (xs.length+1) M));have sY:=qQ (cP.q.cR (p:=⟨ag.heap.size+1,1,none⟩) (by simp) (.slice (some ⟨N,0,none⟩) (xs.length+1) M));rw[m.q]at pE sY;refine eh 19 (by kernel_rfl) (dq rfl rfl (by kernel_rfl) (λK aI=>?_));go_simp;refine aI.q _ _ ?_ (λax=>?_)
    .exact Qp
    clear aI K;try simp only[bj,bk,bl]
    refine mw 20 67 ?_;try simp only[Act.put,bj,bk,bl]
    clear a2 a3;generalize Kb:be.setCell ⟨ag.heap.size+1,1,none⟩ (.slice (some ⟨N,0,none⟩) (k+1) M)=pL at pE sY ax |-;exact QO
   go_simp;refine aI.q _ _ ?_ (λax=>?_)
   .exact Xx
   obtain⟨cu,cQ,cE⟩:=aK (ai.mH W2.drew (W2.heap.size) (by simp) 3 #[.int .i64 s]) (a8.q.alloc (.cells #[.int .i64 s] 3)) (bN.q.alloc (.cells #[.int .i64 s] 3));clear aI K;try simp only[bj,bk,bl]
   refine fT 7 (λK aI=>?_);go_simp;refine aI.q _ _ ?_ (λax=>?_)
   .exact Xx
   obtain⟨cq,Y,cF,cx⟩:=cV (ai.mH (W2.drew.alloc (.cells #[.int .i64 s] 3)) (W2.heap.size+1) (by simp) 3 #[.int .i64 d]) (cQ.q.alloc (.cells #[.int .i64 d] 3)) (cE.q.alloc (.cells #[.int .i64 d] 3)) (cu.q.alloc (.cells #[.int .i64 d] 3));clear aI K;try simp only[bj,bk,bl]
   refine fT 8 (λK aI=>?_);refine wp_append_lies _ _ _ _ (by rfl) (ag.heap.size+1+1) 3 i0 _ 1 8 underlying23 hi aR aT aU rfl (by omega) (.slice aQ k bJ) k (ints xs) (by rfl) (by have h:=Y.q.b7;rw[m.q]at h;exact h) ⟨W2.heap.size+1,0,none⟩ 1 1 [.int .i64 d] (by rfl) (by rfl) (World.news_of_block (cs:=#[.int .i64 d]) (t:=3) (fr:=(0,0)) cq.q) (aS.one_one _ _) (by omega) (by unfold maxLen;omega) (by omega) (by first | omega | (simp<;>omega)) (W2.heap.size+1+1) (by first | rfl | simp) ?_;intro N M cj D j r O;refine aI.q _ _ ?_ (λax=>?_)
   .exact⟨⟨(j.cell_far _ (by simp<;>omega) (zK (ai.bc (v:=.slice aQ k bJ) (by have h:=Y.q.b7;rw[m.q]at h;exact h) (by simp<;>omega)))).trans (by go_keep),(j.cell_far _ (by simp<;>omega) (zK (ai.bc (v:=.slice aQ k bJ) (by have h:=Y.q.b7;rw[m.q]at h;exact h) (by simp<;>omega)))).trans (by go_keep)⟩,(j.cell_far _ (by simp<;>omega) (zK (ai.bc (v:=.slice aQ k bJ) (by have h:=Y.q.b7;rw[m.q]at h;exact h) (by simp<;>omega)))).trans (by go_keep),(j.cell_far _ (by simp<;>omega) (zK (ai.bc (v:=.slice aQ k bJ) (by have h:=Y.q.b7;rw[m.q]at h;exact h) (by simp<;>omega)))).trans (by go_keep),(j.cell_far _ (by simp<;>omega) (zK (ai.bc (v:=.slice aQ k bJ) (by have h:=Y.q.b7;rw[m.q]at h;exact h) (by simp<;>omega)))).trans (by go_keep),(j.cell_far _ (by simp<;>omega) (zK (ai.bc (v:=.slice aQ k bJ) (by have h:=Y.q.b7;rw[m.q]at h;exact h) (by simp<;>omega)))).trans (by go_keep)⟩
   have a9:=j;have bW:=D;rw[<-m.q]at a9 bW r;have Q:=qQ (Y.q.x9 bW a9 r (by simp));have dv:ag.heap.size+1<cj.heap.size:=Q.q.aL.lt;have cG:=qQ (cF.q.grown a9 (zK (ai.bc Y.q.b7 (by omega))));have cy:=qQ (cx.q.grown a9 (λe=>by have:=(a8.q.b7.lt _ e.symm).2;first | omega | (simp at this<;>omega)));clear aI K D j r O;try simp only[bj,bk,bl]
   refine e5 18 66 ?_;try simp only[Act.put,bj,bk,bl]
   refine fT 17 (λK aI=>?_);refine wp_append_lies _ _ _ _ (by rfl) (ag.heap.size+1+1) 3 i0 _ 1 8 underlying23 hi aR aT aU rfl (by omega) (.slice bt k bn) k (ints bf) (by rfl) (by have h:=Q.q.bw;rw[dr.q]at h;exact h) ⟨W2.heap.size,0,none⟩ 1 1 [.int .i64 s] (by rfl) (by rfl) (World.news_of_block (cs:=#[.int .i64 s]) (t:=3) (fr:=(0,0)) cy.q) (aS.one_one _ _) (by omega) (by unfold maxLen;omega) (by omega) (by first | omega | (simp<;>omega)) (cj.heap.size) (by first | rfl | simp) ?_;intro Hs xq a' D j r O;refine aI.q _ _ ?_ (λax=>?_)
   .exact⟨⟨(j.cell_far _ (by simp<;>omega) (zK (ai.bc (v:=.slice bt k bn) (by have h:=Q.q.bw;rw[dr.q]at h;exact h) (by simp<;>omega)))).trans (by go_keep),(j.cell_far _ (by simp<;>omega) (zK (ai.bc (v:=.slice bt k bn) (by have h:=Q.q.bw;rw[dr.q]at h;exact h) (by simp<;>omega)))).trans (by go_keep)⟩,(j.cell_far _ (by simp<;>omega) (zK (ai.bc (v:=.slice bt k bn) (by have h:=Q.q.bw;rw[dr.q]at h;exact h) (by simp<;>omega)))).trans (by go_keep),(j.cell_far _ (by simp<;>omega) (zK (ai.bc (v:=.slice bt k bn) (by have h:=Q.q.bw;rw[dr.q]at h;exact h) (by simp<;>omega)))).trans (by go_keep),(j.cell_far _ (by simp<;>omega) (zK (ai.bc (v:=.slice bt k bn) (by have h:=Q.q.bw;rw[dr.q]at h;exact h) (by simp<;>omega)))).trans (by go_keep),(j.cell_far _ (by simp<;>omega) (zK (ai.bc (v:=.slice bt k bn) (by have h:=Q.q.bw;rw[dr.q]at h;exact h) (by simp<;>omega)))).trans (by go_keep)⟩
   have bv:=j;have bX:=D;rw[<-dr.q]at bv bX r;have aX:=qQ (Q.q.sb bX bv r (by simp));have dw:ag.heap.size+1<a'.heap.size:=aX.q.aL.lt;have cH:=qQ (cG.q.grown bv (zK (ai.bc Q.q.bw (by omega))));clear aI K D j r O;try simp only[bj,bk,bl]
   have b5:ag.heap.size+1<a'.heap.size:=aX.q.aL.lt;have a2:a'.cell? ⟨ag.heap.size+1,1,none⟩=some (.slice aQ xs.length bJ):=aX.q.aL.cell 1;have a3:=aX.q.aL.frozen 1;have pE:=qQ (aX.q.sD (.slice (some ⟨N,0,none⟩) (xs.length+1) M));have sY:=qQ (cH.q.cR (p:=⟨ag.heap.size+1,1,none⟩) (by simp) (.slice (some ⟨N,0,none⟩) (xs.length+1) M));rw[m.q]at pE sY;refine eh 19 (by kernel_rfl) (dq rfl rfl (by kernel_rfl) (λK aI=>?_));go_simp;refine aI.q _ _ ?_ (λax=>?_)
   .exact Qp
   clear aI K;try simp only[bj,bk,bl]
   refine mw 20 67 ?_;try simp only[Act.put,bj,bk,bl]
   clear a2 a3;generalize Kb:a'.setCell ⟨ag.heap.size+1,1,none⟩ (.slice (some ⟨N,0,none⟩) (k+1) M)=pL at pE sY ax |-;exact QO
  obtain rfl:k=p.length:=by omega
  have aC:=a7.q;have ap:=a6.q;rw[zS]at aC ap dE;clear bR aW a7 a6;by_cases hlen:p.length=v.I.length
  .have hq:((p.length:Int) != (v.I.length:Int))=false:=by simp;omega
   have Le:=qQ (R.B1 (p:=p) dk.q (R.ES hlen ap aC));obtain⟨aQ,bJ,c1,tv,Et,Ey,p7⟩:=ai.df dE.b7;obtain⟨bt,bn,c2,nC,rS,rV,ma⟩:=ai.df dE.bw;subst c1 c2;have da:E.cell? ⟨ag.heap.size+1,0,none⟩=some (.int .i64 v.st):=dE.aL.cell 0;have bS:E.cell? ⟨ag.heap.size+1,1,none⟩=some (.slice aQ (p.map (R.pick v.I)).length bJ):=dE.aL.cell 1;have bT:E.cell? ⟨ag.heap.size+1,2,none⟩=some (.slice bt (p.map (R.pick v.s)).length bn):=dE.aL.cell 2;refine Jb ?_;intro Hj Hk;have ko:=qQ (qZ p7 ma);clear dE tv nC p7 ma hlen aC ap;generalize cb:p.map (R.pick v.I)=xs at *;generalize cf:p.map (R.pick v.s)=bf at *;have c6:=qQ cb;have c7:=qQ cf;clear cb cf;go_wp2_with fail;refine qR (v:=.tuple #[.agg #[.int .i64 v.st,.slice aQ xs.length bJ,.slice bt bf.length bn],.int .i64 0]) (by simp[results,results159,go_sem,ek,en,eo]) rfl ⟨?_,fF.q _ _ _⟩;exact ZC
  have hq:((p.length:Int) != (v.I.length:Int))=true:=by simp;omega
  have c5:=qQ (R.k' (p:=p) dk.q (R.tF hlen));clear dE hlen aC ap;exact ZW
 have bR:=qQ (R.tP (p:=p) aH);have hq:(R.aF v != 0)=true:=by simpa using aH
 clear aH;go_enter func159,ntmps159;go_wp2_with fail;refine Vj ?_;intro ag bV dt eG ga;go_wp2_with fail;refine qR (v:=.tuple #[.agg #[.int .i64 0,.slice none 0 0,.slice none 0 0],.int .i64 (R.aF v)]) (by simp[results,results159,go_sem,dt]) rfl ⟨?_,?_⟩
 .exact JZ
 exact ai.three (aA bp.q bV) (xV _) _ _ _
theorem ai.fh{lg:Nat}{xs:List Value}(h:w.ownsRow base e 1 v n xs)(q:lg<=base):w.ownsRow lg e 1 v n xs:=by
 refine⟨h.1,?_⟩;rcases h.2 with i | ⟨g,cap,cur,j,i,m⟩
 .exact .inl i
 exact .inr ⟨g,cap,cur,j,by omega,m⟩
theorem ai.news{W:World}{B:Nat}{a:Addr}(h:ai.ao W B (some a) l):∀j u,(ints l)[j]?=some u->W.cell? (a.add j)=some u:=by
 intro j u hu;have m:j<l.length:=by
  rcases jQ j l.length with i | i
  .exact i
  rw[kK (by rw[cn];exact i)]at hu;cases hu
 obtain⟨b,off,q,_,r⟩:=h (by omega);cases q;rw[jW];rw[ints_at l j m]at hu;rw[<-hu];exact r j m
theorem ai.h4(l:List Int):∀u∈ints l,u.oneCell'=true:=by
 intro u hu;obtain⟨x,_,rfl⟩:=List.mem_map.1 hu;rfl
theorem eM(A:Option Addr)(cap:Nat)(l:List Int)(B:Nat)(w:World)(N:l.length<=1099511627776)(hm:ai.ao w B A l)(ah:B<=w.heap.size):Calls Tryz.prog 69 #[.slice A l.length cap] w λe w'=>∃v,e=.returned v/\w'.ownsRow w.heap.size 3 1 v l.length (ints l)/\Below w.heap.size w w':=by
 cases A with
 | none =>
  obtain rfl:l=[]:=by
   rcases uV l.length with h | h
   .exact List.length_eq_zero_iff.1 h
   obtain⟨b,off,x,_⟩:=hm h;cases x
  clear hm;have D:=λW=>Lib.run_eql_slice_nil (P:=Tryz.prog) W
  go_enter func69,ntmps69;go_wp2_with fail;go_ret;exact⟨_,rfl,vH _ _ _ _,qK _ _⟩
 | some a =>
  obtain⟨i0,hi,E,I,M⟩:=xQ Tryz.dB;have r:=qQ hm;have D:=λW=>Lib.run_eql_slice_nil (P:=Tryz.prog) W
  clear hm;go_enter func69,ntmps69;go_wp2_with (at_builtin;refine kP _ rfl _ _ 23 rfl w.heap.size 3 i0 (.int .i64 0) 1 8 underlying23 hi E I M rfl (by decide) _ _ _ rfl (ai.n2 w 3) a l.length cap (ints l) rfl (by rw[cn,zF]) (ai.news (r.q.below (((qK w.heap.size w).alloc (qX _) _).mono ah))) (ai.h4 l) (by unfold maxLen;omega) (by omega) (by simp) ?_);intro v' ag m j _;have i:=qQ (qZ m (((qK w.heap.size w).alloc (qX _) (.cells #[] 3)).grown j (by simp) (λk y=>by simp[Value.ownBlock]at y;omega)));clear m j;go_wp2_with fail;go_ret;exact⟨_,rfl,i.q.1,i.q.2⟩
theorem _root_.XR{G:Prop}(h:G:=by
 have cb:=qQ (fR.q (by omega));go_wp2_with fail;go_ret;exact⟨by rw[cb.q];rfl,rfl⟩
 ):G:=h
theorem kh(A:Option Addr)(cap:Nat)(l:List Int)(n:Nat)(B:Nat)(w:World)(X:l.length<=9223372036854775807)(Y:n<=9223372036854775807)(hm:ai.ao w B A l):Calls Tryz.prog 182 #[.slice A l.length cap,.int .i64 (n:Int)] w λe w'=>e=.returned (.bool (R.cB n l))/\w=w':=by
 have I:=qQ hm;clear hm;go_enter func182,ntmps182;go_wp2_with fail
 go_loop [5,7,10] (λlast _ i=>∃k:Nat,k<=l.length/\i=.int .i64 (k:Int)/\last=.int .i64 (R.prev l k)/\∀i (hi:i<l.length),i<k->R.prev l i<l[i]/\l[i]<(n:Int)) (λ_ _ i=>l.length+1-(intOf i).toNat)
 case atStart=>exact⟨0,by omega,rfl,rfl,λi hi h=>by omega⟩
 obtain⟨k,W,rfl,rfl,E⟩:=hrel;have r:=qQ E;clear E;by_cases m:k<l.length
 .obtain⟨b,off,rfl,S,D⟩:=I.q (by omega);have N:=D k m;have U:=b2 k;have V:(k:Int)<(l.length:Int):=by omega
  clear D;have y:=qQ (R.prev_next l k m);have fR:=qQ (R.wv (n:=n) m);have j:=qQ (λ(h:R.prev l k<l[k]/\l[k]<(n:Int))=>show ∀i (hi:i<l.length),i<k+1->R.prev l i<l[i]/\l[i]<(n:Int)from λi hi Q=>by
   by_cases e:i<k
   .exact r.q i hi e
   obtain rfl:i=k:=by omega
   exact h)
  generalize l[k]=x at N y fR j;generalize R.prev l k=O at fR j;by_cases Z:x<=O
  .exact XR
  by_cases ag:(n:Int)<=x
  .exact XR
  have M:=qQ (j.q (by omega));go_wp2_with fail
  go_round
  case rel=>exact⟨k+1,by omega,by go_num,by rw[y.q],M.q⟩
  case measure=>simp[intOf];omega
 obtain rfl:k=l.length:=by omega
 have cb:=qQ (R.z1 (n:=n) (λi hi=>r.q i hi hi));go_wp2_with fail;go_ret;exact⟨by rw[cb.q];rfl,rfl⟩
theorem mi(A:Option Addr)(cap:Nat)(l:List Int)(n:Nat)(B:Nat)(w:World)(ap:l.length<=9223372036854775807)(aq:n<=9223372036854775807)(hm:ai.ao w B A l):Calls Tryz.prog 100 #[.slice A l.length cap,.int .i64 (n:Int)] w λe w'=>e=.returned (.bool (R.cB n l))/\w=w':=by
 have M:=qQ hm;clear hm;go_enter func100,ntmps100;go_wp2_with fail
 go_loop [5,6,9] (λ_ _ i=>∃k:Nat,k<=l.length/\i=.int .i64 (k:Int)/\∀i (hi:i<l.length),i<k->R.prev l i<l[i]/\l[i]<(n:Int)) (λ_ _ i=>l.length+1-(intOf i).toNat)
 case atStart=>exact⟨0,by omega,rfl,λi hi h=>by omega⟩
 obtain⟨k,ak,rfl,I⟩:=hrel;have r:=qQ I;clear I;by_cases E:k<l.length
 .obtain⟨b,off,rfl,W,m⟩:=M.q (by omega);have D:=m k E;have X:=b2 k;have Y:(k:Int)<(l.length:Int):=by omega
  have fR:=qQ (R.wv (n:=n) E);have j:=qQ (λ(h:R.prev l k<l[k]/\l[k]<(n:Int))=>show ∀i (hi:i<l.length),i<k+1->R.prev l i<l[i]/\l[i]<(n:Int)from λi hi V=>by
   by_cases e:i<k
   .exact r.q i hi e
   obtain rfl:i=k:=by omega
   exact h)
  cases k with
  | zero =>
   rw[R.prev_zero]at fR j;clear m;generalize l[0]=x at D fR j;rw[qL]at D;have av:0<l.length:=E;by_cases Q:x<0
   .exact XR
   by_cases S:(n:Int)<=x
   .exact XR
   have y:=qQ (j.q (by omega));go_wp2_with fail
   go_round
   case rel=>exact⟨1,by omega,by go_num,y.q⟩
   case measure=>(simp[intOf]<;>omega)
  | succ k =>
   have N:=m k (by omega);have O:=R.r3 r.q k (by omega) (by omega);rw[R.prev_next l k (by omega)]at fR j;clear m;generalize l[k]'(by omega)=U at N fR j O;generalize l[k+1]=x at D fR j;have Z:(0:Int)<(k:Int)+1:=by omega
   have ag:(k:Int)<(l.length:Int):=by omega
   have ah:=b2 k;have hw:IntKind.i64.wrap ((k:Int)+1-1)=(k:Int):=by rw[show(k:Int)+1-1=(k:Int) by omega];exact qA _ (by omega)
   by_cases Q:x<0
   .exact XR
   by_cases S:(n:Int)<=x
   .exact XR
   by_cases az:x<=U
   .exact XR
   have y:=qQ (j.q (by omega));go_wp2_with fail
   go_round
   case rel=>exact⟨k+1+1,by omega,by go_num,y.q⟩
   case measure=>(simp[intOf]<;>omega)
 obtain rfl:k=l.length:=by omega
 have cb:=qQ (R.z1 (n:=n) (λi hi=>r.q i hi hi));go_wp2_with fail;go_ret;exact⟨by rw[cb.q];rfl,rfl⟩
attribute [local go_sem ↓] Go.wp_at_zero Go.wp_at_succ
namespace ai
theorem dF.KD(i:World)(st:Int)(u1:Value):dF i.heap.size i.heap.size i st u1 (.slice none 0 0) (.slice none 0 0) (.slice none 0 0) [] [] (i.alloc (.cells #[.int .i64 st,u1,.slice none 0 0] 159)) :=
 ⟨av.new i _ _,vH _ _ _ _,vH _ _ _ _,λb h=>by simp[Value.ownBlock]at h,(qK _ _).alloc (qX _) _,qX _⟩
end ai
theorem _root_.Qq{G:Prop}(h:G:=by
 rw[<-dr.q]at eS c0 gU;have e1:=qQ ((bR.q.alloc _).sb eS c0 gU (by simp));have LQ:ag.heap.size<aw.heap.size:=e1.q.aL.lt;have eT:aw.cell? ⟨ag.heap.size,2,none⟩=some (.slice bt k bn):=by rw[<-dr.q];exact e1.q.aL.cell 2
 have dT:=e1.q.aL.frozen 2;have c5:=qQ (e1.q.sE (.slice (some ⟨xd,0,none⟩) (bf.length+1) l0));rw[dr.q]at c5;clear eS c0 gU;go_wp2_with fail
 first
  | exact⟨⟨k+1,_,by omega,by go_num,by rw[ix.q,I7.q,eQ.q];exact c5.q⟩,by simp[intOf];omega⟩
  | (go_roundw
     case rel=>exact⟨k+1,_,by omega,by go_num,by rw[ix.q,I7.q,eQ.q];exact c5.q⟩
     case measure=>simp[intOf];omega)
 ):G:=h
theorem _root_.VJ{G:Prop}(r:bm)(f:dS bm->G:=by
 intro bb;have oe:=qQ (λ(h:R.aF ⟨R.dH v p v.I.length,v.I,R.bW v p v.I.length⟩=4)=>hH.q.trans (qY h));have nR:=qQ (λ(h:R.aF ⟨R.dH v p v.I.length,v.I,R.bW v p v.I.length⟩≠4)=>hH.q.trans (qV h));revert oe nR;exact bb.o
 ):G:=f ⟨r⟩
theorem _root_.VO{G:Prop}(r:bm)(f:dS bm->G:=by
 intro bb;rw[e0.q];have Hx:ag.heap.size<cN.heap.size:=bR.q.aL.lt;have Ho:cN.cell? ⟨ag.heap.size,2,none⟩=some (.slice bt k bn):=by rw[<-dr.q];exact bR.q.aL.cell 2
 have Hp:=bR.q.aL.frozen 2;revert Hx Ho Hp;exact bb.o
 ):G:=f ⟨r⟩
theorem _root_.Vv{G:Prop}(r:bm)(f:dS bm->G:=by
 intro bb;have dk:=qQ eR;obtain⟨oc,z2,z3,z4⟩:=R.cK eR;have Ea:v.I.length<=6:=(R.aB oc).1;have nm:=qQ z2;clear oc z2 z4;revert dk z3 Ea nm;exact bb.o
 ):G:=f ⟨r⟩
theorem AZ(val:Value)(v:R.V)(P:Option Addr)(Q:Nat)(p:List Int)(B:Nat)(w:World)(ah:B<=w.heap.size)(h:ai.cm w B val v)(hp:ai.ao w B P p)(b7:p.length<=Q)(b8:Q<=9223372036854775807):Calls Tryz.prog 138 #[val,.slice P p.length Q] w λe w'=>ai.fb B w w' (R.flip v p) e/\Below w.heap.size w w':=by
 have hD:=qQ (λ(W:World) (a0:Below w.heap.size w W)=>h8 val v B W (qJ ah a0.size) (h.below (a0.mono ah)));have aU:=qQ hp;obtain⟨A,c,bK,c',rfl,ar,az,aO,bz,bT,bU⟩:=h;refine VX ?_;intro ep hB bp;clear ar az hp;by_cases eR:R.aF v=0
 .refine Vv ?_;intro dk z3 Ea nm;clear eR;by_cases ap:R.cB v.I.length p=true
  .have aE:=qQ ap;clear ap;go_enter func138,ntmps138;go_wp2_with fail;refine(hD.q _ bp.q).mono ?_;rintro e ag ⟨rfl,bV⟩;rw[dk.q];have aq:=((av.new w 159 #[.int .i64 v.st,.slice A v.I.length c,.slice bK v.s.length c']).alloc (.cells #[.int .i64 0,.slice none 0 0,.slice none 0 0] 159)).below bV (by simp;omega);have ak:=(ai.oD w (.cells #[.int .i64 v.st,.slice A v.I.length c,.slice bK v.s.length c'] 159) 159 #[.int .i64 0,.slice none 0 0,.slice none 0 0]).below bV (by simp);obtain⟨bF,bB,m⟩:=aK aq ak (aA bp.q bV);have ga:w.heap.size+1<ag.heap.size:=by have:=bV.size;simp at this;omega
   have bS:ag.cell? ⟨w.heap.size,1,none⟩=some (.slice A v.I.length c):=aq.cell 1;have b':ag.cell? ⟨w.heap.size,2,none⟩=some (.slice bK v.s.length c'):=aq.cell 2;have ca:ag.cell? ⟨w.heap.size,0,none⟩=some (.int .i64 v.st):=aq.cell 0;have cb:∀o,(ag.alloc o).cell? ⟨w.heap.size,2,none⟩=some (.slice bK v.s.length c'):=λo=>(bF.q.alloc o).cell 2
   obtain⟨i0,hi,a4,a5,a6⟩:=xQ Tryz.dB;have aV:=qQ (mi P Q p v.I.length B ag (by omega) (by omega) (aU.q.below (m.q.mono ah)));clear bV aq ak;go_wp2_with fail;refine aV.q.mono ?_;rintro e aC ⟨rfl,rfl⟩;rw[aE.q];go_wp2_with fail;go_loopw [8,9,31] (λ_ _ i wr=>∃(k:Nat) (v2:Value),k<=v.I.length/\i=.int .i64 (k:Int)/\ai.dF ag.heap.size ag.heap.size ag (R.dH v p k) (.slice A v.I.length c) v2 (.slice none 0 0) v2 [] ((R.bW v p v.I.length).take k) wr) (λ_ _ i _=>v.I.length+1-(intOf i).toNat)
   case atStart=>exact⟨0,_,by omega,rfl,ai.dF.KD ag v.st _⟩
   obtain⟨k,v2,b3,rfl,D⟩:=hrel;obtain⟨cN,rfl⟩:∃cN:World,cN=wr:=⟨_,rfl⟩;have bR:=qQ D;have E:=qQ D.below;have b_:ag.heap.size<cN.heap.size:=D.aL.lt;have bN:v.s.length=v.I.length:=nm.q;by_cases aH:k<v.I.length
   .obtain⟨bt,bn,rfl,b6⟩:=ai.aZ D.bw;have a3:((R.bW v p v.I.length).take k).length=k:=by rw[qM,R.dV];omega
    obtain⟨b,off,rfl,a0,dt⟩:=ep.q (by omega);obtain⟨aX,a8,rfl,b1,be⟩:=hB.q (by omega);have a1:=dt k aH;have a2:=be k (by omega);have aN:=R.kg dk.q aH (by omega);have bL:=R.oK dk.q p k (by omega);obtain⟨X,a_,ix⟩:=aK (R.p3 (v:=v) (l:=p) aH (by omega)) (R.vr (v:=v) (l:=p) (q:=k)) (R.cM (R.bW v p v.I.length) k (by rw[R.dV];omega));have gU:=R.f' v p v.I.length k (by rw[R.dV];omega);rw[R.getD_at _ _ (show k<v.s.length by omega)]at gU;have aD:=qQ gU;clear dt be gU D;generalize (R.bW v p v.I.length)[k]'(by rw[R.dV];omega)=y at ix aD;generalize v.I[k]=d at a1 aN X;generalize v.s[k]'(by omega)=s at a2 aN X aD;generalize (R.bW v p v.I.length).take k=bf at a3 ix bR;generalize R.dH v p k=st at bL X a_ bR;have dr:=qQ a3;clear a3 bN;have i1:=b2 k;have i2:(k:Int)<(v.I.length:Int):=by omega
    have i3:(k:Int)<(v.s.length:Int):=by have:=nm.q;omega
    have bG:cN.cell? ⟨ag.heap.size,2,none⟩=some (.slice bt k bn):=by rw[<-dr.q];exact bR.q.aL.cell 2
    have j:cN.cell? ⟨ag.heap.size,0,none⟩=some (.int .i64 st):=bR.q.aL.cell 0;have bH:cN.cell? ⟨w.heap.size,1,none⟩=some (.slice (some ⟨b,off,none⟩) v.I.length c):=(E.q.cell (p:=⟨w.heap.size,1,none⟩) (by simp;omega)).trans bS;have bI:cN.cell? ⟨b,off+k,none⟩=some (.int .i64 d):=(E.q.cell (p:=⟨b,off+k,none⟩) (by simp;omega)).trans ((m.q.cell (p:=⟨b,off+k,none⟩) (by simp;omega)).trans a1);have bY:cN.cell? ⟨aX,a8+k,none⟩=some (.int .i64 s):=(E.q.cell (p:=⟨aX,a8+k,none⟩) (by simp;omega)).trans ((m.q.cell (p:=⟨aX,a8+k,none⟩) (by simp;omega)).trans a2);have g0:=bR.q.aL.frozen 0;have g2:=bR.q.aL.frozen 2;have aT:=qQ (q' P Q p (k:Int) B cN (by omega) (aU.q.below ((m.q.trans (E.q.mono m.q.size)).mono ah)));clear a1 a2;by_cases M:(k:Int)∈p
    .have bc:=qQ M;have e0:=qQ (show decide ((k:Int)∈p)=true by simpa using M);have I7:=qQ (show y=-s by rw[aD.q,qY ⟨aH,M⟩]);clear M;by_cases bg:0<d
     .have eQ:=qQ (show R.dH v p (k+1)=st+(d-1)*s by rw[X.q bc.q,qY bg]);go_wp2_with fail;refine aT.q.mono ?_;rintro e aC ⟨rfl,rfl⟩;rw[e0.q];have b9:-4503599627370496<=(d-1)*s/\(d-1)*s<=4503599627370496:=⟨aN.2.2.2.2.1,aN.2.2.2.2.2⟩;go_wp2_with fail;generalize b0:(d-1)*s=aP at *;refine fk (λw'=>w'.cell? ⟨ag.heap.size,0,none⟩=some (.int .i64 st)/\w'.cell? ⟨w.heap.size,1,none⟩=some (.slice (some ⟨b,off,none⟩) v.I.length c)/\w'.cell? ⟨b,off+k,none⟩=some (.int .i64 d)) 11 13 (⟨j,bH,bI⟩) (λbZ=>?_);simp only[qF,qG];refine aG 0 45 ?_;refine aG 1 46 ?_;refine aG 2 47 ?_;refine aG 3 48 ?_;refine aG 4 49 ?_;refine aG 5 50 ?_;refine aG 6 51 ?_;refine aG 7 52 ?_;refine aG 8 53 ?_;refine aG 9 54 ?_;refine aG 10 55 ?_;try simp only[Act.put,bj,bk,bl]
      refine eW [_,_] 11 [12] ?_;have Z:=qQ (bR.q.qm (st+aP));have Hx:ag.heap.size<(cN.setCell ⟨ag.heap.size,0,none⟩ (.int .i64 (st+aP))).heap.size:=Z.q.aL.lt;have Ho:(cN.setCell ⟨ag.heap.size,0,none⟩ (.int .i64 (st+aP))).cell? ⟨ag.heap.size,2,none⟩=some (.slice bt k bn):=by rw[<-dr.q];exact Z.q.aL.cell 2
      have Hp:=Z.q.aL.frozen 2;have r:=(Z.q.alloc (.cells #[.int .i64 (-s)] 3)).drew.bw;rw[dr.q]at r;have Y:=qQ r;clear r;go_wp2_with (at_builtin;refine wpList_append_lies _ rfl _ _ _ rfl (ag.heap.size+1) 3 i0 (.int .i64 0) 1 8 underlying23 hi a4 a5 a6 rfl (by omega) (.slice bt k bn) k (ints bf) rfl Y.q ⟨cN.heap.size,0,none⟩ 1 1 [.int .i64 (-s)] rfl rfl (World.news_of_block (cs:=#[.int .i64 (-s)]) (t:=3) (fr:=(0,0)) ((ai.mH (cN.setCell ⟨ag.heap.size,0,none⟩ (.int .i64 (st+aP))) cN.heap.size (by first | rfl | simp) 3 #[.int .i64 (-s)]).drew)) (aS.one_one _ _) (by omega) (by unfold maxLen;omega) (by omega) (by simp;omega) (cN.heap.size+1) (by simp) ?_);intro xd l0 aw eS c0 gU bh;rw[<-dr.q]at eS c0 gU;have e1:=qQ ((Z.q.alloc _).drew.sb eS c0 gU (by simp));have LQ:ag.heap.size<aw.heap.size:=e1.q.aL.lt;have eT:aw.cell? ⟨ag.heap.size,2,none⟩=some (.slice bt k bn):=by rw[<-dr.q];exact e1.q.aL.cell 2
      have dT:=e1.q.aL.frozen 2;have c5:=qQ (e1.q.sE (.slice (some ⟨xd,0,none⟩) (bf.length+1) l0));rw[dr.q]at c5;clear eS c0 gU;go_wp2_with fail
      first
       | exact⟨⟨k+1,_,by omega,by go_num,by rw[ix.q,I7.q,eQ.q];exact c5.q⟩,by simp[intOf];omega⟩
       | (go_roundw
          case rel=>exact⟨k+1,_,by omega,by go_num,by rw[ix.q,I7.q,eQ.q];exact c5.q⟩
          case measure=>simp[intOf];omega)
     have bJ:d=0:=by omega
     have eQ:=qQ (show R.dH v p (k+1)=st by rw[X.q bc.q,qV bg,kU]);clear bJ;go_wp2_with fail;refine aT.q.mono ?_;rintro e aC ⟨rfl,rfl⟩;refine VO ?_;intro Hx Ho Hp;have r:=(bR.q.alloc (.cells #[.int .i64 (-s)] 3)).bw;rw[dr.q]at r;have Y:=qQ r;clear r;go_wp2_with (at_builtin;refine wpList_append_lies _ rfl _ _ _ rfl (ag.heap.size+1) 3 i0 (.int .i64 0) 1 8 underlying23 hi a4 a5 a6 rfl (by omega) (.slice bt k bn) k (ints bf) rfl Y.q ⟨cN.heap.size,0,none⟩ 1 1 [.int .i64 (-s)] rfl rfl (World.news_of_block (cs:=#[.int .i64 (-s)]) (t:=3) (fr:=(0,0)) ((ai.mH cN cN.heap.size (by first | rfl | simp) 3 #[.int .i64 (-s)]))) (aS.one_one _ _) (by omega) (by unfold maxLen;omega) (by omega) (by simp;omega) (cN.heap.size+1) (by simp) ?_);intro xd l0 aw eS c0 gU bh;exact Qq
    obtain⟨e0,I7,eQ⟩:=aK (show decide ((k:Int)∈p)=false by simpa using M) (show y=s by rw[aD.q,qV (λbM=>M bM.2)]) (show R.dH v p (k+1)=st from a_.q M);clear M;go_wp2_with fail;refine aT.q.mono ?_;rintro e aC ⟨rfl,rfl⟩;refine VO ?_;intro Hx Ho Hp;have r:=(bR.q.alloc (.cells #[.int .i64 s] 3)).bw;rw[dr.q]at r;have Y:=qQ r;clear r;go_wp2_with (at_builtin;refine wpList_append_lies _ rfl _ _ _ rfl (ag.heap.size+1) 3 i0 (.int .i64 0) 1 8 underlying23 hi a4 a5 a6 rfl (by omega) (.slice bt k bn) k (ints bf) rfl Y.q ⟨cN.heap.size,0,none⟩ 1 1 [.int .i64 s] rfl rfl (World.news_of_block (cs:=#[.int .i64 s]) (t:=3) (fr:=(0,0)) ((ai.mH cN cN.heap.size (by first | rfl | simp) 3 #[.int .i64 s]))) (aS.one_one _ _) (by omega) (by unfold maxLen;omega) (by omega) (by simp;omega) (cN.heap.size+1) (by simp) ?_);intro xd l0 aw eS c0 gU bh;exact Qq
   obtain rfl:k=v.I.length:=by omega
   rw[qT (by rw[R.dV];omega)]at D;have hH:=qQ (R.Br (p:=p) dk.q aE.q);obtain⟨bt,bn,bP,a7,bm,bo,bd⟩:=ai.df D.bw;subst bP;have ak:=bB.q.below E.q (by omega);have bX:cN.cell? ⟨ag.heap.size,0,none⟩=some (.int .i64 (R.dH v p v.I.length)):=D.aL.cell 0;have bG:cN.cell? ⟨ag.heap.size,1,none⟩=some (.slice A v.I.length c):=D.aL.cell 1;have j:cN.cell? ⟨ag.heap.size,2,none⟩=some (.slice bt (R.bW v p v.I.length).length bn):=D.aL.cell 2;have bE:=qQ (show ai.cm cN cN.heap.size (.agg #[.int .i64 (R.dH v p v.I.length),.slice A v.I.length c,.slice bt (R.bW v p v.I.length).length bn]) ⟨R.dH v p v.I.length,v.I,R.bW v p v.I.length⟩from
    ⟨_,_,_,_,rfl,(ep.q.below ((m.q.trans (E.q.mono m.q.size)).mono ah)).up (by have:=m.q.size;omega),a7,aO,bz,bm,bo⟩)
   obtain⟨bA,bu,bD,aR⟩:=cV (zf _ _ _ cN (qX _) bE.q (R.F8 dk.q p _ _)) (m.q.trans (E.q.mono m.q.size)) ak (qZ a7 bd);clear D ak a7 bd bR;refine VJ ?_;intro oe nR;generalize R.dH v p v.I.length=O at *;generalize R.bW v p v.I.length=bf at *;go_wp2_with fail;refine bA.q.mono ?_;rintro e aQ ⟨rfl,U⟩;have N:=bD.q.below U (by omega);have bq:aQ.cell? ⟨w.heap.size+1,0,none⟩=some (.int .i64 0):=N.cell 0;have br:aQ.cell? ⟨w.heap.size+1,1,none⟩=some (.slice none 0 0):=N.cell 1;have bs:aQ.cell? ⟨w.heap.size+1,2,none⟩=some (.slice none 0 0):=N.cell 2;have f0:=N.frozen 0;have f1:=N.frozen 1;have f2:=N.frozen 2;have a9:=qQ (λx y z=>ai.three (aA bu.q U) (xV w.heap.size) x y z);have bv:=qQ (ep.q.below ((m.q.trans (E.q.mono m.q.size)).mono ah));have a':=qQ (qZ (bv.q.below (U.mono (by omega))) (aR.q.1.below U));have b5:cN.heap.size<=aQ.heap.size:=U.size;clear N U;by_cases S:R.aF ⟨O,v.I,bf⟩=4
   .have aW:=qQ (oe.q S);rw[show ai.hK (.agg #[.int .i64 O,.slice A v.I.length c,.slice bt bf.length bn]) ⟨O,v.I,bf⟩=.tuple #[.agg #[.int .i64 0,.slice none 0 0,.slice none 0 0],.int .i64 5]from qY S];clear S;go_wp2_with fail;refine qR (v:=.tuple #[.agg #[.int .i64 0,.slice none 0 0,.slice none 0 0],.int .i64 5]) (by simp[results,results138,go_sem,bq,br,bs]) rfl ⟨?_,a9.q _ _ _⟩;rw[aW.q];exact ai.d' _ _ _ _
   have aW:=qQ (nR.q S);rw[show ai.hK (.agg #[.int .i64 O,.slice A v.I.length c,.slice bt bf.length bn]) ⟨O,v.I,bf⟩=.tuple #[.agg #[.int .i64 O,.slice A v.I.length c,.slice bt bf.length bn],.int .i64 0]from qV S];clear S;go_wp2_with fail;refine qR (v:=.tuple #[.agg #[.int .i64 O,.slice A v.I.length c,.slice bt bf.length bn],.int .i64 0]) (by simp[results,results138,go_sem,bq,br,bs]) rfl ⟨?_,a9.q _ _ _⟩;rw[aW.q];refine ai.kf ⟨A,c,bt,bn,rfl,?_,?_,aO,bz,bm,bo⟩ ?_ ?_
   .exact(a'.q.1.hj (λb off e hp=>by obtain⟨dT,bQ,j,bO,_⟩:=ep.q hp;rw[e]at j;injection j with j;injection j with j;omega) _ _ _).up (by simp;omega)
   .exact(a'.q.2.hj (λb off e hp=>by have:=aR.q.2 b off e hp;omega) _ _ _).up (by simp;omega)
   .exact λb off e hp=>by obtain⟨dT,bQ,j,bO,_⟩:=ep.q hp;rw[e]at j;injection j with j;injection j with j;omega
   exact λb off e hp=>by have:=aR.q.2 b off e hp;omega
  have bR:=qQ (R.yx dk.q (by simpa using ap));have aE:=qQ (show R.cB v.I.length p=false by simpa using ap);clear ap;go_enter func138,ntmps138;go_wp2_with fail;refine(hD.q _ bp.q).mono ?_;rintro e ag ⟨rfl,bV⟩;rw[dk.q];have aV:=qQ (mi P Q p v.I.length B ag (by omega) (by omega) (aU.q.below ((aA bp.q bV).mono ah)));obtain⟨dt,eG⟩:=lh bV;have ga:w.heap.size+1<ag.heap.size:=by have:=bV.size;simp at this;omega
  go_wp2_with fail;refine aV.q.mono ?_;rintro e aC ⟨rfl,rfl⟩;rw[aE.q];go_wp2_with fail;refine qR (v:=.tuple #[.agg #[.int .i64 0,.slice none 0 0,.slice none 0 0],.int .i64 6]) (by simp[results,results138,go_sem,dt]) rfl ⟨?_,?_⟩
  .exact JZ
  exact Xi
 have bR:=qQ (R.tk (p:=p) eR);have hq:(R.aF v != 0)=true:=by simpa using eR
 clear eR;go_enter func138,ntmps138;go_wp2_with fail;refine Vj ?_;intro ag bV dt eG ga;go_wp2_with fail;refine qR (v:=.tuple #[.agg #[.int .i64 0,.slice none 0 0,.slice none 0 0],.int .i64 (R.aF v)]) (by simp[results,results138,go_sem,dt]) rfl ⟨?_,?_⟩
 .exact JZ
 exact Xi
end Go.Proofs.YtabmnaaidfpmcaaGreatDoor
end
