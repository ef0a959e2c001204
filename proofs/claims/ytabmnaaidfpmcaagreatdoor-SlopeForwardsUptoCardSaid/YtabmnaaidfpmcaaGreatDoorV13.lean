/-
  Ordered, BackOrd, StillTailB, RfI, ViewZ, Ordered1. Conditions: where the theorems name them.
-/
import Derived.Test.YtabmnaaidfpmcaaGreatDoorV12
import Derived.RangeFuncWrites
import Derived.Outline
set_option linter.unusedVariables false
set_option maxRecDepth 100000
set_option maxHeartbeats 16000000
open Go.Proofs.Tryz
variable {a:Go.Act}{lb:Array Go.Value}{ss:List Int}{xs:List Go.Value}{D N NL base g gf hP j n:Nat}{bm:Prop}{e v x y z:Go.Value}{WF ak hk w w':Go.World}
section
namespace aS
open Go Go.RowKit
variable {F:Fence} {n:Nat} {P:Program}
def sZ{α:Type}(F:Fence)(n:Nat)(P:Program)(g:Nat)(lb:Array Value)(encs:α->Array Value)(ch:World->World->Prop)(bm:List α->α->Prop)(S c8:List α->Prop)(N:Nat)(w:World):Prop :=
 ∀(l:Nat) (i j:List α->World->Prop) (W:World),Below w.heap.size w W->AbidesFrom W.heap.size i->AbidesFrom W.heap.size j ->
  (∀pre x m,i pre m->pre.length<N->bm pre x->YieldAt F (n-1) P l (encs x) m λe bg =>
   (e=.returned (.bool true)/\i (pre++[x]) bg/\ch m bg)\/(e=.returned (.bool false)/\j (pre++[x]) bg)) ->
  i [] W ->
  CallsIn F n P g (#[.func (.yield l) #[] #[]]++lb) W λe bg=>(∃v,e=.returned v)/\((∃xs,S xs/\i xs bg)\/(∃pre,c8 pre/\j pre bg))
theorem lZ{α:Type}{g:Operand}{ps:Array Tmp}{assign body:Code}{Q:Exit->Act->World->Prop}(a7:F.round=none)(aH:1<=n)(aX:a.eval g=.func (.func gf) #[] lb)(aI:F.fn gf)(aF:∀args w,(callFunc gf args).run P w=.ok (.enter gf args) w){encs:α->Array Value}{ch:World->World->Prop}{bm:List α->α->Prop}{S c8:List α->Prop}(a8:sZ F (n-1) P gf lb encs ch bm S c8 N ak)(aC:∀{A B C:World},ch A B->ch B C->ch A C)(aB:∀(W:World) (l:Nat) (o l4:Obj),w.heap.size<=l->W.heap[l]?=some o->o.isCells=false->o.isWalk=false->ch W (W.putObj l l4))(aD:Below ak.heap.size ak w)(a6:∀x,(encs x).size=ps.size)(b1:List α->World->Prop)(av:Code->List α->World->Prop)(ao:OwnFrom w.heap.size b1)(ap:∀c,OwnFrom w.heap.size (av c))(aG:b1 [] w)(aA:α->Act)(aQ:∀(l:Nat) (x:α) (W:World) (K:Act->World->Prop),K (aA x) W ->
     assign.wpIn (F.inRound l) (n-1-1) P (Exit.then K (λ_ _ _=>False)) { tmps:=(ps.zip (encs x)).foldl (λt (p,v)=>t.setIfInBounds p v) a.tmps,defers:=[] } W)
    (aT:∀(l:Nat) (pre:List α) (x:α) (W:World),b1 pre W->pre.length<N->bm pre x->body.wpIn (F.inRound l) (n-1-1) P (ownPostG w.heap.size ch b1 av (pre++[x]) W) (aA x) W)
    (aV:∀(D:Nat) (xs:List α) (W:World),w.heap.size<=D->S xs->b1 xs W->W.heap[D]?=some (.deferred (some []))->Q .normal { a with defers:={ target:=.collected D,args:=#[] }::a.defers } W)
    (a9:∀(D:Nat) (c:Code) (pre:List α) (W:World),w.heap.size<=D->c8 pre->av c pre W->W.heap[D]?=some (.deferred (some []))->c.wpIn F n P Q { a with defers:={ target:=.collected D,args:=#[] }::a.defers } W) :
    (Code.rangeFunc g ps assign body).wpIn F n P Q a w:=by
 refine wpIn_rangeFunc ?_;intro fn aW;rw[a7]
 let m:LoopState->Option Code->Loop:=λst a'=>{ state:=st,pending:=a',fn,tmps:=a.tmps,params:=ps,assign,body,defers:=w.heap.size }
 let q:=(w.alloc (.deferred (some []))).alloc (.loop (m .ready none))
 have aL:q.heap[w.heap.size+1]?=some (.loop (m .ready none)):=by
  have:=World.alloc_heap_new (w.alloc (.deferred (some []))) (.loop (m .ready none))
  rwa [World.size_alloc]at this
 have aK:q.heap[w.heap.size]?=some (.deferred (some [])):=(yJ _ _ _ (by simp)).trans (World.alloc_heap_new w _);have aJ:b1 [] q:=ao.alloc _ (ao.alloc _ aG);have bd:q.heap.size=w.heap.size+2:=by simp[q]
 have aR:Below ak.heap.size ak q:=aD.trans ((((qK _ w).alloc (qX _) _).alloc (by simp) _).mono aD.size);have cR:∀{X Y:World} {row:Option Nat},(∀r,row=some r->q.heap.size<=r/\∃o:Obj,X.heap[r]?=some o/\o.isWalk=true)->(∀r,row=some r->w.heap.size<=r/\∃o:Obj,X.heap[r]?=some o/\o.isCells=false):=λI r e=>by
  obtain⟨ah,o,a5,hw⟩:=I r e;exact⟨by omega,o,a5,Obj.not_cells_of_walk hw⟩
 refine⟨w.heap.size+1,[{ target:=.collected w.heap.size,args:=#[] }],q,{ target:=.fn (.func gf) lb,args:=#[.func (.yield (w.heap.size+1)) #[] #[]] },q,gf,
  #[.func (.yield (w.heap.size+1)) #[] #[]]++lb,q,run_enterLoop_outer _ _ _ _ _,?_,?_,?_,λ_=>aH,?_⟩
 .simp only[resolve,aX];simp[go_sem]
 .intro bc aE;simp[Target.leads]at aE;subst aE;exact aI
 .simp[invoke,go_sem,aF]
 refine(a8 (w.heap.size+1) (λpre W=>b1 pre W/\W.heap[w.heap.size+1]?=some (.loop (m .ready none))/\W.heap[w.heap.size]?=some (.deferred (some [])))
  (λpre W=>∃c,av c pre W/\W.heap[w.heap.size+1]?=some (.loop (m .done (some c)))/\W.heap[w.heap.size]?=some (.deferred (some []))) q aR ?_ ?_ ?_ ⟨aJ,aL,aK⟩).mono ?_
 .intro s X Y row az U I;exact⟨ao s X Y row az.1 U (cR (Y:=Y) I),(grownBy_keeps U (λr e=>(I r e).2) az.2.1 rfl).trans az.2.1,(grownBy_keeps U (λr e=>(I r e).2) az.2.2 rfl).trans az.2.2⟩
 .intro s X Y row az U I;obtain⟨c,aU,j,M⟩:=az;exact⟨c,ap c s X Y row aU U (cR (Y:=Y) I),(grownBy_keeps U (λr e=>(I r e).2) j rfl).trans j,(grownBy_keeps U (λr e=>(I r e).2) M rfl).trans M⟩
 .rintro pre x W ⟨hi,j,M⟩ hlen aN;have a4:w.heap.size+1<W.heap.size:=(Array.getElem?_eq_some_iff.1 j).1;refine⟨fn,_,assign,body,run_yield (P:=P) (args:=encs x) j (a6 x),roundIn_of_wpIn aW (aQ _ x W _ ⟨_,run_beginRound j rfl,?_⟩)⟩;obtain⟨O,aq⟩:∃O,W.putObj (w.heap.size+1) (.loop { m .ready none with state:=.busy })=O:=⟨_,rfl⟩;have a2:O.heap[w.heap.size+1]?=some (.loop { m .ready none with state:=.busy }):=by rw[<-aq];exact World.putObj_heap_same a4
  have a0:O.heap[w.heap.size]?=some (.deferred (some [])):=by rw[<-aq];exact(World.putObj_heap_other (by omega)).trans M
  have a_:ch W O:=by rw[<-aq];exact aB _ _ _ _ (by omega) j rfl rfl
  have aZ:b1 pre O:=by rw[<-aq];exact ao.putObj _ hi (by omega) j rfl
  show Code.wpIn _ _ _ _ _ _ (W.putObj (w.heap.size+1) (.loop { m .ready none with state:=.busy }));rw[aq];refine wpIn_mono (aT _ pre x _ aZ hlen aN) ?_;have fin:∀(jump:Option Code) (y:World),KeepsFrom w.heap.size O y->y.heap[w.heap.size+1]?=some (.loop { m .ready none with state:=.busy }) /\
      (y.putObj (w.heap.size+1) (.loop (m (if jump.isNone then .ready else .done) jump))).heap[w.heap.size+1]?=some (.loop (m (if jump.isNone then .ready else .done) jump)) /\
      (y.putObj (w.heap.size+1) (.loop (m (if jump.isNone then .ready else .done) jump))).heap[w.heap.size]?=some (.deferred (some [])):=λjump y E=>by
   have i:=E.same _ _ (by omega) a2 rfl;exact⟨i,World.putObj_heap_same (Array.getElem?_eq_some_iff.1 i).1,(World.putObj_heap_other (by omega)).trans (E.same _ _ (qX _) a0 rfl)⟩
  rintro e a3 y hp;cases e with
  | normal =>
   obtain⟨E,a1,V⟩:=hp;obtain⟨i,ag,Z⟩:=fin none y E;exact⟨_,_,run_endRound (P:=P) none i,.inl ⟨rfl,⟨ao.putObj _ V (by omega) i rfl,ag,Z⟩,aC (aC a_ a1) (aB _ _ _ _ (by omega) i rfl rfl)⟩⟩
  | ret =>
   obtain⟨E,V⟩:=hp;obtain⟨i,ag,Z⟩:=fin (some .ret) y E;exact⟨_,_,run_endRound (P:=P) (some .ret) i,.inr ⟨rfl,.ret,(ap _).putObj _ V (by omega) i rfl,ag,Z⟩⟩
  | exit id =>
   obtain⟨E,V⟩:=hp;obtain⟨i,ag,Z⟩:=fin (some (.exit id)) y E;exact⟨_,_,run_endRound (P:=P) (some (.exit id)) i,.inr ⟨rfl,.exit id,(ap _).putObj _ V (by omega) i rfl,ag,Z⟩⟩
  | goto t =>
   obtain⟨E,V⟩:=hp;obtain⟨i,ag,Z⟩:=fin (some (.goto t)) y E;exact⟨_,_,run_endRound (P:=P) (some (.goto t)) i,.inr ⟨rfl,.goto t,(ap _).putObj _ V (by omega) i rfl,ag,Z⟩⟩
  | panic bb=>exact hp.elim
  | outgrown=>exact hp.elim
 rintro e W2 ⟨⟨v,rfl⟩,(⟨xs,aO,hi,j,M⟩ | ⟨pre,aP,c,hi,j,M⟩)⟩
 .exact⟨none,_,run_endLoop (P:=P) j (by simp[m]),aV _ xs _ (qX _) aO (ao.putObj _ hi (by omega) j rfl) ((World.putObj_heap_other (by omega)).trans M)⟩
 exact⟨some c,_,run_endLoop (P:=P) j (by simp[m]),a9 _ c pre _ (qX _) aP ((ap c).putObj _ hi (by omega) j rfl) ((World.putObj_heap_other (by omega)).trans M)⟩
theorem pq{α:Type}{g:Operand}{m q:Tmp}{assign body:Code}{Q:Exit->Act->World->Prop}(d1 d2:Nat)(i j:α->Value)(aq:F.round=none)(I:1<=n)(ap:a.eval g=.func (.func gf) #[] lb)(M:F.fn gf)(y:∀args w,(callFunc gf args).run P w=.ok (.enter gf args) w){ch:World->World->Prop}{bm:List α->α->Prop}{S c8:List α->Prop}(av:sZ F (n-1) P gf lb (λx=>#[i x,j x]) ch bm S c8 N ak)(Y:∀{A B C:World},ch A B->ch B C->ch A C)(X:∀(W:World) (l:Nat) (o l4:Obj),w.heap.size<=l->W.heap[l]?=some o->o.isCells=false->o.isWalk=false->ch W (W.putObj l l4))(ag:Below ak.heap.size ak w)(b1:List α->World->Prop)(r:Code->List α->World->Prop)(O:OwnFrom w.heap.size b1)(U:∀c,OwnFrom w.heap.size (r c))(E:b1 [] w)(Z:∀(l:Nat) (x:α) (W:World) (K:Act->World->Prop),K { tmps:=(((a.tmps.setIfInBounds m (i x)).setIfInBounds q (j x)).setIfInBounds d1 (i x)).setIfInBounds d2 (j x),defers:=[] } W ->
     assign.wpIn (F.inRound l) (n-1-1) P (Exit.then K (λ_ _ _=>False)) { tmps:=(a.tmps.setIfInBounds m (i x)).setIfInBounds q (j x),defers:=[] } W)
    (ah:∀(l:Nat) (pre:List α) (x:α) (W:World),b1 pre W->pre.length<N->bm pre x ->
     body.wpIn (F.inRound l) (n-1-1) P (ownPostG w.heap.size ch b1 r (pre++[x]) W) { tmps:=(((a.tmps.setIfInBounds m (i x)).setIfInBounds q (j x)).setIfInBounds d1 (i x)).setIfInBounds d2 (j x),defers:=[] } W)
    (ao:∀(D:Nat) (xs:List α) (W:World),w.heap.size<=D->S xs->b1 xs W->W.heap[D]?=some (.deferred (some []))->Q .normal { a with defers:={ target:=.collected D,args:=#[] }::a.defers } W)
    (az:∀(D:Nat) (c:Code) (pre:List α) (W:World),w.heap.size<=D->c8 pre->r c pre W->W.heap[D]?=some (.deferred (some []))->c.wpIn F n P Q { a with defers:={ target:=.collected D,args:=#[] }::a.defers } W) :
    (Code.rangeFunc g #[m,q] assign body).wpIn F n P Q a w :=
 lZ (encs:=λx=>#[i x,j x]) aq I ap M y av Y X ag (λ_=>rfl) b1 r O U E
  (λx=>{ tmps:=(((a.tmps.setIfInBounds m (i x)).setIfInBounds q (j x)).setIfInBounds d1 (i x)).setIfInBounds d2 (j x),defers:=[] })
  (λl x W K V=>by simpa using Z l x W K V) ah ao az
end aS
end
section
namespace Go.Proofs.YtabmnaaidfpmcaaGreatDoor
open Go.RowKit Go.Shelf aS
attribute [local go_sem] yO
theorem DJ(F:Fence)(n:Nat)(X:F.fn 194)(aA:F.round=none)(aH:1<=n)(y Bs b off cap:Nat)(l:List Int)(hlen:l.length<=9223372036854775807)(m N:List (ai.hT l)->World->Prop)(ak:∀pre (x:ai.hT l) W,m pre W->pre.length<l.length->x.1=ai.down l.length pre.length->YieldAt F (n-1) Tryz.prog y (ai.told x) W λe bg =>
     (e=.returned (.bool true)/\m (pre++[x]) bg/\ai.eA Bs b W bg)\/(e=.returned (.bool false)/\N (pre++[x]) bg))
    (W:World) (Y:W.cell? ⟨Bs,0,none⟩=some (.slice (some ⟨b,off,none⟩) l.length cap)) (ao:∀j (h:j<l.length),W.cell? ⟨b,off+j,none⟩=some (.int .i64 l[j])) (V:m [] W) :
    CallsIn F n Tryz.prog 194 #[.func (.yield y) #[] #[],.pointer (some ⟨Bs,0,none⟩)] W λe bg=>(∃v,e=.returned v) /\
     ((∃bf,bf.map (·.1)=ai.upto (ai.down l.length) l.length/\m bf bg)\/(∃pre,True/\N pre bg)):=by
 refine pH func194 rfl X ?_ aA;simp only[ntmps194,jA,qH,zM,Nat.reduceAdd,Nat.reduceSub,yQ,yZ,yD,yY,vP,xH]
 gi_wp2
 gi_loopw [3] (λi wr=>∃(k:Nat) (pre:List (ai.hT l)),k<=l.length/\i=.int .i64 ((l.length:Int)-1-k)/\pre.map (·.1)=ai.upto (ai.down l.length) k/\m pre wr/\ai.eA Bs b W wr)
  (λi _=>(intOf i+1).toNat)
 case atStart=>exact⟨0,[],yX _,by go_num,rfl,V,ai.eA.refl _ _ _⟩
 obtain⟨k,pre,aF,rfl,B,O,r⟩:=hrel;have aC:wr.cell? ⟨Bs,0,none⟩=some (.slice (some ⟨b,off,none⟩) l.length cap):=(r ⟨Bs,0,none⟩ (.inl rfl)).trans Y;have az:pre.length=k:=by have:=congrArg List.length B;rwa [zJ,ai.n9]at this
 have M:=qQ B;clear B;by_cases aG:k<l.length
 .obtain⟨q,hq⟩:∃q,l.length=k+1+q:=⟨l.length-(k+1),by omega⟩;have S:(l.length:Int)-1-k=(q:Int):=by omega
  have D:q<l.length:=by omega
  have ap:wr.cell? ⟨b,off+q,none⟩=some (.int .i64 l[q]):=(r ⟨b,off+q,none⟩ (.inr rfl)).trans (ao q D);have Q:ai.down l.length k=q:=by unfold ai.down;omega
  have aD:=b2 q;have aE:(q:Int)<(l.length:Int):=by omega
  rw[S];have U:=qQ hq;have I:=qQ Q;clear hq S Q;obtain⟨fn,tmps,assign,body,E,ah⟩:=ak pre ⟨q,D⟩ wr O (by omega) (by rw[az];exact I.q.symm);unfold ai.told at E;dsimp only at E;generalize l[q]=x at ap E
  gi_wp2
  refine ah.mono ?_;rintro e aB (⟨rfl,Z,av⟩ | ⟨rfl,ag⟩)
  .gi_wp2
   go_roundw
   case rel=>exact⟨k+1,pre++[⟨q,D⟩],by omega,by have:=U.q;congr 1;omega,by rw[ai.wS,I.q,zI,M.q];rfl,Z,r.trans av⟩
   case measure=>(simp[intOf]<;>omega)
  gi_wp2
  refine qR (results_none rfl _ _ _) rfl ?_;exact⟨⟨_,rfl⟩,.inr ⟨_,trivial,ag⟩⟩
 obtain rfl:k=l.length:=by omega
 have aq:(l.length:Int)-1-(l.length:Int)=-1:=by omega
 rw[aq]
 gi_wp2
 go_end0;exact⟨⟨_,rfl⟩,.inl ⟨_,M.q,O⟩⟩
theorem x'(F:Fence)(n:Nat)(D:F.fn 194)(O:F.round=none)(X:1<=n)(Bs:Nat)(A:Option Addr)(cap B:Nat)(l:List Int)(hlen:l.length<=9223372036854775807)(w:World)(E:Bs<w.heap.size)(ah:B<=w.heap.size)(N:w.cell? ⟨Bs,0,none⟩=some (.slice A l.length cap))(Q:ai.ao w B A l):∃b,(b=Bs\/b<B)/\sZ F n Tryz.prog 194 #[.pointer (some ⟨Bs,0,none⟩)] (λx:ai.hT l=>ai.told x) (ai.eA Bs b) (λpre x=>x.1=ai.down l.length pre.length) (λbf=>bf.map (·.1)=ai.upto (ai.down l.length) l.length) (λ_=>True) l.length w:=by
 by_cases h:0<l.length
 .obtain⟨b,off,rfl,M,U⟩:=Q h;refine⟨b,.inr M,λy m r W j _ _ I q=>?_⟩;have S:=(j.cell (p:=⟨Bs,0,none⟩) E).trans N;exact DJ F n D O X y Bs b off cap l hlen m r I W S (λi hi=>(j.cell (p:=⟨b,off+i,none⟩) (zW M ah)).trans (U i hi)) q
 obtain rfl:l=[]:=List.length_eq_zero_iff.1 (by omega);exact⟨Bs,.inl rfl,λy m r W j _ _ I q=>(x_ F n D O y Bs A cap m W ((j.cell (p:=⟨Bs,0,none⟩) E).trans N) q).mono λe bg ⟨he,V⟩=>⟨he,.inl ⟨[],rfl,V⟩⟩⟩
end Go.Proofs.YtabmnaaidfpmcaaGreatDoor
end
section
namespace aS
open Go
def jm:Op->Bool
 | .move _ | .assign _ | .load _ _ | .store _ _ _ | .indexAddr _ _ _ | .binOp _ _ _ _ _ | .fieldAddr _ _ _ | .nilCheck _ | .build _ _=>true
 | _=>false
theorem mo{P:Program}{dQ:Next}(h:(runtimePanic (α:=Next) .nilDeref).run P w=.ok dQ w'):False:=by
 unfold runtimePanic at h;simp[goPanic,go_sem]at h
theorem _root_.Xl{G:Prop}(h:G:=by
 simp only[yH]at h;cases h;exact⟨_,rfl⟩
 ):G:=h
theorem xg{P:Program}{q:Operand->Value}{o:Oper}{x:Operand}(j:o.op=.nilCheck x){dQ:Next}(h:(execOp q o).run P w=.ok dQ w'):∃v,dQ=.value v:=by
 unfold execOp at h;rw[j]at h;dsimp only at h;split at h
 .exact(mo h).elim
 .exact(mo h).elim
 .exact(mo h).elim
 .split at h
  .exact(mo h).elim
  .simp only[uK]at h;rename_i t ak _;cases i:program.run P w with
   | halt _ _=>rw[i]at h;cases h
   | ok m ag =>
    rw[i,kC]at h;cases hq:(nilAhead (m.types.size+Made.depth) t ak _).run P ag with
    | halt _ _=>rw[hq]at h;cases h
    | ok b aC =>
     rw[hq,kC]at h;split at h
     .simp[unsupported,go_sem]at h
     exact Xl
  exact Xl
 exact Xl
theorem AV{P:Program}{q:Operand->Value}{o:Oper}(hp:jm o.op=true){dQ:Next}(h:(execOp q o).run P w=.ok dQ w'):(∃v,dQ=.value v)\/dQ=.skip:=by
 by_cases i:∃x,o.op=.nilCheck x
 .obtain⟨x,m⟩:=i;exact .inl (xg m h)
 unfold execOp at h;cases j:o.op<;>rw[j]at hp h<;>first
  | (exfalso;revert hp;simp[jm];done)
  | exact(i ⟨_,j⟩).elim
  | (simp only[yH]at h;cases h;exact .inl ⟨_,rfl⟩)
  | (simp only[uK,yH]at h;exact .inl (w_ h))
  | (simp only[uK,yH]at h;exact .inr (x8 h))
variable {F:Fence} {n:Nat} {P:Program} {ops:Array Oper} {Q:Exit->Act->World->Prop}
theorem sK(M:∀(i:Nat) o,ops[i]?=some o->jm o.op=true){i:Nat}{K y:Act->World->Prop}(h:wpOp P ops (only y) i K a w):wpOpIn F n P ops Q i K a w:=by
 unfold wpOp at h;unfold wpOpIn;cases m:ops[i]? with
 | none=>rw[m]at h;exact h
 | some o =>
  rw[m]at h;have hp:=M i o m;have r:∀x,o.about P w x=none:=λx=>by
   unfold Oper.about;cases I:o.op<;>first | rfl | (rw[I]at hp;exact absurd hp (by simp[jm]))
  dsimp only at h |-;by_cases hw:Region.wanted o (yielded ops a.tmps)=true
  .rw[qY hw]at h |-;rcases h with h | ⟨_,a',w',E⟩
   .refine⟨λf j=>(by rw[r]at j;cases j),?_⟩;rw[Oper.semAt_eq _ _ _ (λc B=>by rw[B]at hp;exact absurd hp (by simp[jm]))];unfold Oper.wp at h;cases q:(execOp a.eval o).run P w with
    | ok dQ w' =>
     rw[q]at h;rcases AV hp q with ⟨v,rfl⟩ | rfl
     .exact h
     exact h
    | halt D w' =>
     rw[q]at h;cases D<;>exact h.elim
   exact E.elim
  rw[qV hw]at h |-;exact⟨λf j=>(by rw[r]at j;cases j),h⟩
theorem mg{md:Region.Mode}(m:∀(i:Nat) o,ops[i]?=some o->jm o.op=true){K:Act->World->Prop}(j:∀a w,K a w->Q .normal a w):∀(fuel:Nat) (listed:Array Bool) (a:Act) (w:World),wpAny P md ops (only K) fuel listed a w->wpAnyIn F n P md ops Q fuel listed a w
 | 0,listed,a,w,h=>⟨h.1,j _ _ h.2⟩
 | fuel+1,listed,a,w,h=>⟨λr=>j _ _ (h.1 r),λi hi=>wpOpIn_mono (λa' w' q=>mg m j fuel _ a' w' q) (sK m (h.2 i hi))⟩
theorem fU{id:Nat}{l:List Oper}(k:Nat)(hm:P.follows .mixedOrders=true)(hp:(l.all λo=>jm o.op)=true)(ah:Region.lexTailB .any l.toArray k=true)(h:wpStill P l.toArray { w with drawn:=w.drawn+1 } (λa'=>wpList P l.toArray (only (Q .normal)) (l.drop k) a' { w with drawn:=w.drawn+1 }) (l.take k) a):(Code.region id l.toArray true).wpIn F n P Q a w:=by
 simp only[Region.lexTailB,qB,xZ]at ah;obtain⟨⟨⟨⟨I,x⟩,az⟩,B⟩,D⟩:=ah;have O:k<l.length:=by simpa using x
 have HA:(l.take k).length=k:=by simp;omega
 have q:(l.drop k).length=l.toArray.size-k:=by simp
 have N:HeadInv .any l.toArray k (Array.replicate l.toArray.size false) :=
  ⟨by simp,λj S _ r=>(by rw[getD_replicate_false]at r;cases r),λt _ M=>getD_in (by simpa using M) (getD_replicate_false _ _)⟩
 have H:=wpAnyL_lex (md:=.any) (g:=l.toArray.size-k) I az B x (l.take k) 0 _ a (λj nj=>by
  have Mr:j<k:=by rw[HA]at nj;exact nj
  simp[Mr]) (by simpa using HA) N (by rw[HA];exact D) h
 refine wpIn_region_any hm (mg (K:=Q .normal) (λi o y=>?_) (λ_ _ h=>h) _ _ _ _ ?_)
 .rw[kX]at hp;have E:o∈l:=by
   rw[jY]at y;exact jM y
  exact hp o E
 have:=wpAny_of_head (Q':=only (Q .normal)) (g:=l.toArray.size-k) (λlisted a' m=>by
   have:=wpAny_of_seq (md:=.any) (Q':=only (Q .normal)) (l.drop k) k listed a' { w with drawn:=w.drawn+1 } (λj=>by simp[List.getElem?_drop]) (by rw[q];exact m.1) m.2
   rwa [q]at this) _ _ _ H
 rw[HA,show k+(l.toArray.size-k)=l.toArray.size by omega]at this;exact this
end aS
end
section
namespace Go.Proofs.YtabmnaaidfpmcaaGreatDoor
open Go.RowKit Go.Shelf aS
namespace ai
theorem lV{size:Nat}{e:TypeId}(h:w.ownsRow base e size v n xs)(az:∀b,v.ownBlock=some b->w'.heap[b]?=w.heap[b]?):w'.ownsRow base e size v n xs:=by
 refine⟨h.1,?_⟩;rcases h.2 with i | ⟨g,cap,cur,j,i,q,m⟩
 .exact .inl i
 exact .inr ⟨g,cap,cur,j,i,(az g (by rw[j];rfl)).trans q,m⟩
section
variable {NL B N a8 fP:Nat} {bD W bg:World} {gj:Int} {aQ:Option Addr} {aO:Nat} {v2:Value} {xs bf:List Int}
theorem hR.to(h:hR B N a8 bD gj aQ aO v2 xs bf W)(i:Below NL W bg)(m:a8<NL)(q:∀b,v2.ownBlock=some b->b<NL)(hi:ao W NL aQ xs)(j:N<=NL)(az:NL<=bg.heap.size):hR B N a8 bD gj aQ aO v2 xs bf bg :=
 ⟨h.aL.below i m,(hi.below i).up az,h.g1,h.cW,h.cX,lV h.bw (λb e=>i.block b (q b e)),h.bn,h.below.trans (i.mono j),h.low⟩
theorem hR.cR(h:hR B N a8 bD gj aQ aO v2 xs bf W){g:Nat}(r:g≠a8)(y:v2.ownBlock≠some g)(m:∀b off,aQ=some ⟨b,off,none⟩->0<xs.length->b≠g)(q:N<=g)(j:Nat)(x:Value):hR B N a8 bD gj aQ aO v2 xs bf (W.setCell ⟨g,j,none⟩ x) :=
 ⟨h.aL.cR (p:=⟨g,j,none⟩) (zK r) x,(h.i1.set m j x).up (by simp),h.g1,h.cW,h.cX,lV h.bw (λb e=>qN W ⟨g,j,none⟩ x b (λi=>y (by rw[e,i]))),h.bn,h.below.setCell (p:=⟨g,j,none⟩) q x,h.low⟩
structure Lays (NL C N a8 fP:Nat) (aQ:Option Addr) (v2:Value) (j2:Option Addr) (xs:List Int):Prop where
 J2:a8<C
 B5:∀b,v2.ownBlock=some b->b<C
 I':∀b off,aQ=some ⟨b,off,none⟩->0<xs.length->b<C
 Hl:∀b off,j2=some ⟨b,off,none⟩->C<=b/\b<fP
 Hq:C<=fP/\fP<NL
 CB:N<=C
structure lz (NL B C N a8 fP:Nat) (bD:World) (gj:Int) (aQ:Option Addr) (aO:Nat) (v2:Value) (j2:Option Addr) (cap:Nat) (xs bf:List Int) (st:List (Int × Int)) (W:World):Prop where
 size:NL<=W.heap.size
 i1:ao W NL aQ xs
 mS:av W fP 199 #[.slice j2 st.length cap]
 row:W.ownsRow C 206 2 (.slice j2 st.length cap) st.length (ev st.reverse)
 cr:hR B N a8 bD gj aQ aO v2 xs bf W
variable {C cap:Nat} {j2:Option Addr} {st:List (Int × Int)}
theorem lz.to(L:Lays NL C N a8 fP aQ v2 j2 xs)(h:lz NL B C N a8 fP bD gj aQ aO v2 j2 cap xs bf st W)(i:Below NL W bg):lz NL B C N a8 fP bD gj aQ aO v2 j2 cap xs bf st bg:=by
 have m:=L.Hq;have az:NL<=bg.heap.size:=qJ h.size i.size;refine⟨az,h.i1.below i,h.mS.below i m.2,lV h.row (λb e=>i.block b ?_),h.cr.to i (by have:=L.J2;omega) (λb e=>by have:=L.B5 b e;omega) h.i1 (by have:=L.CB;omega) az⟩;cases j2 with
 | none=>simp[Value.ownBlock]at e
 | some a =>
  obtain⟨g,off,sp⟩:=a;have mK:g=b:=by simpa[Value.ownBlock]using e
  subst mK;rcases h.row.2 with ⟨j,_⟩ | ⟨r,q,cur,j,_⟩
  .cases j
  simp only[xO,zZ,kD]at j;obtain⟨⟨rfl,rfl,rfl⟩,_,_⟩:=j;have:=L.Hl _ _ rfl;omega
theorem lz.drew(h:lz NL B C N a8 fP bD gj aQ aO v2 j2 cap xs bf st W):lz NL B C N a8 fP bD gj aQ aO v2 j2 cap xs bf st W.drew:=⟨h.size,h.i1,h.mS,h.row,h.cr.drew⟩
theorem lz.store{cu:Nat}(L:Lays NL C N a8 fP aQ (.slice (some ⟨g,0,none⟩) n cu) j2 xs)(h:lz NL B C N a8 fP bD gj aQ aO (.slice (some ⟨g,0,none⟩) n cu) j2 cap xs bf st W)(m:bf.length=n)(j:Nat)(x:Int):lz NL B C N a8 fP bD gj aQ aO (.slice (some ⟨g,0,none⟩) n cu) j2 cap xs (bf.set j x) st (W.setCell ⟨g,j,none⟩ (.int .i64 x)):=by
 have r:=L.B5 g rfl;have q:=L.Hq;refine⟨by simpa using h.size,h.i1.set (λb off e hp i=>(h.cr.g1 b off e hp).2.2 (by simp[Value.ownBlock,i])) j _,h.mS.cR (p:=⟨g,j,none⟩) (by simp;omega) _,lV h.row (λb e=>qN W ⟨g,j,none⟩ _ b ?_),h.cr.IM m j x⟩;have:=(h.row.lt b e).1;simp;omega
theorem lz.top{n s n' s':Int}{LU:Nat}{r:List (Int × Int)}(L:Lays NL C N a8 fP aQ v2 (some ⟨hP,0,none⟩) xs)(h:lz NL B C N a8 fP bD gj aQ aO v2 (some ⟨hP,0,none⟩) cap xs bf ((n,s)::r) W)(hm:r.length=LU):lz NL B C N a8 fP bD gj aQ aO v2 (some ⟨hP,0,none⟩) cap xs bf ((n',s')::r) ((W.setCell ⟨hP,LU*2,none⟩ (.int .i64 n')).setCell ⟨hP,LU*2+1,none⟩ (.int .i64 s')):=by
 subst hm;have y:=L.Hl _ _ rfl;have D:=L.Hq;have E:=L.J2;have x:=L.CB;have q:=h.row.stored (r.length*2) (.int .i64 n');have j:=q.1.stored (r.length*2+1) (.int .i64 s');rw[xI,s0]at j;have i:∀b off,aQ=some ⟨b,off,none⟩->0<xs.length->b≠hP:=λb off e hp=>by have:=L.I' b off e hp;omega
 have m:v2.ownBlock≠some hP:=λe=>by have:=L.B5 _ e;omega
 refine⟨by simpa using h.size,(h.i1.set i _ _).set i _ _,(h.mS.cR (p:=⟨hP,_,none⟩) (by simp;omega) _).cR (p:=⟨hP,_,none⟩) (by simp;omega) _,?_,(h.cr.cR (by omega) m i (by omega) _ _).cR (by omega) m i (by omega) _ _⟩;rw[xI,qH];exact j.1
theorem lz.pop{y:Int × Int}{r:List (Int × Int)}(L:Lays NL C N a8 fP aQ v2 (some ⟨hP,0,none⟩) xs)(h:lz NL B C N a8 fP bD gj aQ aO v2 (some ⟨hP,0,none⟩) cap xs bf (y::r) W):lz NL B C N a8 fP bD gj aQ aO v2 (some ⟨hP,0,none⟩) cap xs bf r (W.setCell ⟨fP,0,none⟩ (.slice (some ⟨hP,0,none⟩) r.length cap)):=by
 have X:=L.Hl _ _ rfl;have Y:=L.Hq;have Z:=L.J2;have V:=L.CB;have j:∀b off,aQ=some ⟨b,off,none⟩->0<xs.length->b≠fP:=λb off e hp=>by have:=L.I' b off e hp;omega
 have Q:v2.ownBlock≠some fP:=λe=>by have:=L.B5 _ e;omega
 refine⟨by simpa using h.size,h.i1.set j _ _,h.mS.bs 0 _,?_,h.cr.cR (by omega) Q j (by omega) _ _⟩;have m:=lV (w':=W.setCell ⟨fP,0,none⟩ (.slice (some ⟨hP,0,none⟩) r.length cap)) h.row (λb e=>qN W ⟨fP,0,none⟩ _ b (by
  have mK:hP=b:=by simpa[Value.ownBlock]using e
  simp;omega))
 rw[xI,fW]at m;obtain⟨ag,E⟩:=m;rcases E with ⟨i,_⟩ | ⟨U,S,cur,i,q,I,M,x,D,O⟩
 .cases i
 simp only[xO,zZ,kD]at i;obtain⟨⟨rfl,_,_⟩,_,rfl⟩:=i;refine⟨by rw[fX,jV],.inr ⟨hP,cap,cur,rfl,q,I,by simp at M;omega,x,D,?_⟩⟩;have:=congrArg (List.take (r.length*2)) O;rw[List.take_take,yB (by simp;omega),wU (by rw[fX,jV];exact qX _)]at this;rw[this,qT (by rw[fX,jV];exact qX _)]
structure rE (NL B C N a8 fP:Nat) (bD:World) (v:R.V) (aQ:Option Addr) (aO:Nat) (v2:Value) (j2:Option Addr) (cap:Nat) (I:List Int) (pre:List (hT I)) (W:World):Prop where
 len:pre.length<=I.length
 order:pre.map (·.1)=upto (down I.length) pre.length
 run:∃ss st,R.gJ (I.reverse.take pre.length) (R.blocks v)=some (ss,st)/\lz NL B C N a8 fP bD v.st aQ aO v2 j2 cap I (List.replicate (I.length-pre.length) 0++ss.reverse) st W
theorem rE.own{v:R.V}{I:List Int}(L:Lays NL C N a8 fP aQ v2 j2 I):OwnFrom NL (rE NL B C N a8 fP bD v aQ aO v2 j2 cap I) :=
 k6 (N:=NL) (qX _) (λs X Y h m=>⟨h.len,h.order,by obtain⟨ss,st,j,i⟩:=h.run;exact⟨ss,st,j,i.to L m⟩⟩) (λs X h=>by obtain⟨ss,st,j,i⟩:=h.run;exact i.size)
end
theorem rE.next{B C a8 fP aO cap:Nat}{bD bg:World}{v:R.V}{aQ j2:Option Addr}{v2:Value}{I:List Int}{pre:List (hT I)}{x:hT I}{st:List (Int × Int)}(j:pre.length<I.length)(m:(pre++[x]).map (·.1)=upto (down I.length) (pre++[x]).length)(q:R.gJ (I.reverse.take (pre.length+1)) (R.blocks v)=some (ss,st))(i:lz NL B C N a8 fP bD v.st aQ aO v2 j2 cap I (List.replicate (I.length-(pre.length+1)) 0++ss.reverse) st bg):rE NL B C N a8 fP bD v aQ aO v2 j2 cap I (pre++[x]) bg :=
 ⟨by rw[qW,xS];exact j,m,ss,st,by rw[qW,xS];exact q,by rw[qW,xS];exact i⟩
theorem jv{Bs b:Nat}{W:World}(i:Bs≠g)(m:b≠g):eA Bs b W (W.setCell ⟨g,j,none⟩ x):=λp hp =>
 xE (qN W ⟨g,j,none⟩ x p.block (by rcases hp with e | e<;>rw[e]<;>assumption))
theorem eA.drew{Bs b:Nat}{W bg:World}(h:eA Bs b W bg):eA Bs b W bg.drew:=h
theorem gu(W:World)(p:Addr)(x:Value):KeepsFrom NL W (W.setCell p x):=(KeepsOthers.setCell _ _ _).from _
theorem p6(W:World):KeepsFrom NL W W.drew:=(KeepsOthers.drew _).from _
structure DB (NL:Nat) (w:World) (v:R.V) (I:List Int) (c:Code) (pre:List (hT I)) (W:World):Prop where
 ret:c=.ret
 no:R.go I.reverse (R.blocks v)=none
 size:NL<=W.heap.size
 view:av W (w.heap.size+1) 159 #[.int .i64 0,.slice none 0 0,.slice none 0 0]
 err:av W (w.heap.size+1+1) 27 #[.int .i64 9]
 below:Below w.heap.size w W
theorem DB.own{v:R.V}{I:List Int}{c:Code}(j:w.heap.size+1+1<NL):OwnFrom NL (DB NL w v I c) :=
 k6 (N:=NL) (qX _) (λs X Y h i=>⟨h.ret,h.no,qJ h.size i.size,h.view.below i (by omega),h.err.below i j,h.below.trans (i.mono (by omega))⟩) (λs X h=>h.size)
theorem IL{W:World}{v:R.V}{I:List Int}{pre:List (hT I)}(j:R.go I.reverse (R.blocks v)=none)(az:NL<=W.heap.size)(m:av W (w.heap.size+1) 159 #[.int .i64 0,.slice none 0 0,.slice none 0 0])(he:av W (w.heap.size+1+1) 27 #[.int .i64 0])(i:Below w.heap.size w W):let bg:=(((W.setCell ⟨w.heap.size+1,0,none⟩ (.int .i64 0)).setCell ⟨w.heap.size+1,1,none⟩ (.slice none 0 0)).setCell ⟨w.heap.size+1,2,none⟩ (.slice none 0 0)).setCell ⟨w.heap.size+1+1,0,none⟩ (.int .i64 9)
    KeepsFrom NL W bg/\DB NL w v I .ret pre bg:=by
 intro bg;refine⟨(((gu _ _ _).trans (gu _ _ _)).trans (gu _ _ _)).trans (gu _ _ _),rfl,j,by simpa[bg]using az,?_,?_,?_⟩
 .exact(((m.bs 0 _).bs 1 _).bs 2 _).cR (p:=⟨w.heap.size+1+1,0,none⟩) (by simp) _
 .exact(((he.cR (p:=⟨w.heap.size+1,0,none⟩) (by simp) _).cR (p:=⟨w.heap.size+1,1,none⟩) (by simp) _).cR (p:=⟨w.heap.size+1,2,none⟩) (by simp) _).bs 0 _
 exact(((i.setCell (p:=⟨w.heap.size+1,0,none⟩) (by simp) _).setCell (p:=⟨w.heap.size+1,1,none⟩) (by simp) _).setCell (p:=⟨w.heap.size+1,2,none⟩) (by simp) _).setCell (p:=⟨w.heap.size+1+1,0,none⟩) (by simp;omega) _
theorem ao.same{B B':Nat}{A:Option Addr}{l:List Int}(h:ao w B A l)(ah:B<=B')(az:∀b off,A=some ⟨b,off,none⟩->0<l.length->w'.heap[b]?=w.heap[b]?):ao w' B' A l:=λhp=>by
 obtain⟨b,off,j,q,m⟩:=h hp;exact⟨b,off,j,by omega,λi hi=>(xE (az b off j hp)).trans (m i hi)⟩
structure Last (w hk:World) (D:Nat) (x y z e:Value) (WF:World):Prop where
 eq:((((hk.setCell ⟨w.heap.size+1,0,none⟩ x).setCell ⟨w.heap.size+1,1,none⟩ y).setCell ⟨w.heap.size+1,2,none⟩ z).setCell ⟨w.heap.size+1+1,0,none⟩ e).putObj D (.deferred none)=WF
theorem Last.same(h:Last w hk D x y z e WF)(b:Nat)(i:b≠w.heap.size+1)(j:b≠w.heap.size+1+1)(m:b≠D):WF.heap[b]?=hk.heap[b]?:=by
 rw[<-h.eq,World.putObj_heap_other m];exact(qN _ ⟨w.heap.size+1+1,0,none⟩ e b j).trans ((qN _ ⟨w.heap.size+1,2,none⟩ z b i).trans ((qN _ ⟨w.heap.size+1,1,none⟩ y b i).trans (qN _ ⟨w.heap.size+1,0,none⟩ x b i)))
theorem Last.size{w hk WF:World}{D:Nat}{x y z e:Value}(h:Last w hk D x y z e WF):WF.heap.size=hk.heap.size:=by
 rw[<-h.eq];simp[World.putObj]
theorem Last.cells{a b c d:Value}(h:Last w hk D x y z e WF)(m:av hk (w.heap.size+1) 159 #[a,b,c])(he:av hk (w.heap.size+1+1) 27 #[d])(q:w.heap.size+1+1<D):av WF (w.heap.size+1) 159 #[x,y,z]/\av WF (w.heap.size+1+1) 27 #[e]:=by
 have i:=(((m.bs 0 x).bs 1 y).bs 2 z).cR (p:=⟨w.heap.size+1+1,0,none⟩) (by simp) e;have j:=(((he.cR (p:=⟨w.heap.size+1,0,none⟩) (by simp) x).cR (p:=⟨w.heap.size+1,1,none⟩) (by simp) y).cR (p:=⟨w.heap.size+1,2,none⟩) (by simp) z).bs 0 e;rw[<-h.eq];exact⟨(World.putObj_heap_other (by omega)).trans i,(World.putObj_heap_other (by omega)).trans j⟩
theorem Last.below(h:Last w hk D x y z e WF)(i:Below w.heap.size w hk)(j:w.heap.size<=D)(m:D<hk.heap.size):Below w.heap.size w WF:=by
 rw[<-h.eq];refine((((i.setCell (p:=⟨w.heap.size+1,0,none⟩) (by simp) x).setCell (p:=⟨w.heap.size+1,1,none⟩) (by simp) y).setCell (p:=⟨w.heap.size+1,2,none⟩) (by simp) z).setCell (p:=⟨w.heap.size+1+1,0,none⟩) (by simp;omega) e).grown (grownBy_putObj' _ D (.deferred none)) (by have:=i.size;simp;omega) (λk e=>by cases e;exact j)
theorem om(h:hk.heap[D]?=some (.deferred (some [])))(i:w.heap.size+1+1<D):((((hk.setCell ⟨w.heap.size+1,0,none⟩ x).setCell ⟨w.heap.size+1,1,none⟩ y).setCell ⟨w.heap.size+1,2,none⟩ z).setCell ⟨w.heap.size+1+1,0,none⟩ e).heap[D]?=some (.deferred (some [])) :=
 (qN _ ⟨w.heap.size+1+1,0,none⟩ e D (by simp;omega)).trans ((qN _ ⟨w.heap.size+1,2,none⟩ z D (by simp;omega)).trans ((qN _ ⟨w.heap.size+1,1,none⟩ y D (by simp;omega)).trans ((qN _ ⟨w.heap.size+1,0,none⟩ x D (by simp;omega)).trans h)))
theorem Fk{q:Nat}(az:ss.length=j)(i:j<n)(hq:q=n-1-j)(s:Int):(List.replicate (n-j) 0++ss.reverse).set q s=List.replicate (n-(j+1)) 0++(ss++[s]).reverse:=by
 subst hq;rw[List.set_append_left _ _ (by rw[zP];omega)];rw[show n-j=(n-(j+1))+1 by omega,wJ,jZ _ _ (by rw[zP];omega),zP,show n-1-j-(n-(j+1))=0 by omega];simp
theorem Df(i:j<n):List.replicate (n-j) 0++ss.reverse=List.replicate (n-(j+1)) (0:Int)++(ss++[0]).reverse:=by
 rw[show n-j=(n-(j+1))+1 by omega,wJ];simp
theorem tC{I:List Int}{pre:List (hT I)}{q:Nat}{hq:q<I.length}(h:pre.map (·.1)=upto (down I.length) pre.length)(i:q=down I.length pre.length):(pre++[(⟨q,hq⟩:hT I)]).map (·.1)=upto (down I.length) (pre++[(⟨q,hq⟩:hT I)]).length:=by
 rw[zI,wH,h,qW,xS,wS,<-i]
theorem Kz{I:List Int}{q:Nat}(hq:q<I.length)(h:q=down I.length j)(i:j<I.length):I.reverse.take (j+1)=I.reverse.take j++[I[q]]:=by
 rw[R.cM I.reverse j (by rw[jV];exact i),wZ]
 congr 3
 unfold down at h;omega
end ai
attribute [local go_sem ↓] Go.wp_at_zero Go.wp_at_succ
attribute [local go_sem] yO
theorem Dj{P:Program}{c:Code}{Q:Exit->Act->World->Prop}(h:c.wp P (only (Q .normal)) a w):c.wp P Q a w :=
 wp_mono h λe a w hq=>by cases e<;>first | exact hq | exact hq.elim
namespace ai
theorem EL{size:Nat}{e:TypeId}(h:w.ownsRow base e size v n xs):∃A c,v=.slice A n c:=by
 rcases h.2 with ⟨rfl,rfl⟩ | ⟨g,cap,cur,rfl,_⟩
 .exact⟨_,_,rfl⟩
 exact⟨_,_,rfl⟩
theorem J1(w:World)(o i:Obj)(t:TypeId)(cs:Array Value):av (((w.alloc o).alloc i).alloc (.cells cs t)) (w.heap.size+1+1) t cs:=by
 have h:=av.new ((w.alloc o).alloc i) t cs;rw[show((w.alloc o).alloc i).heap.size=w.heap.size+1+1 by simp]at h;exact h
theorem four{ag:World}(h:Below w.heap.size w ag)(x y z e:Value):Below w.heap.size w ((((ag.setCell ⟨w.heap.size+1,0,none⟩ x).setCell ⟨w.heap.size+1,1,none⟩ y).setCell ⟨w.heap.size+1,2,none⟩ z).setCell ⟨w.heap.size+1+1,0,none⟩ e) :=
 (three h (xV _) x y z).setCell (p:=⟨w.heap.size+1+1,0,none⟩) (by simp;omega) e
end ai
theorem _root_.QM{G:Prop}(h:G:=by
 refine fT 3 (λK aI=>?_);go_simp;refine(sW.q _ ea.q.below).mono ?_;rintro e nV ⟨di,rfl,dP,aE⟩;obtain⟨rr,m1,rfl,y3⟩:=ai.aZ dP;have eZ:=qQ (ea.q.nK dP aE);clear dP aE;try go_simp
 refine aI.q _ _ ?_ (λa7=>?_)
 .exact JU
 clear aI K ax;have ax:=a7;clear a7;try simp only[bj,bk,bl]
 refine e5 7 48 ?_;try simp only[Act.put,bj,bk,bl]
 refine eW [_] 9 [] ?_;have cZ:=qQ (eZ.q.g' _ rfl);have IC:=cZ.q.2.cell 0;have nk:=cZ.q.2.cell 1;have ID:=cZ.q.2.cell 2;have Bu:=cZ.q.2.frozen 0;have Bv:=cZ.q.2.frozen 1;have Bw:=cZ.q.2.frozen 2;have ub:=cZ.q.2.lt;have cb:=qQ (eZ.q.cr 0 v.st);clear ax;go_wp2_with fail;try unfold aS.only
 go_wp2_with fail
 go_meet
 exact⟨_,_,_,_,rfl,cb.q⟩
 ):G:=h
theorem _root_.QS{G:Prop}(h:G:=by
 refine fT 6 (λK aI=>?_);go_simp;have eZ:=qQ (ea.q.make I.length jf);refine aI.q _ _ ?_ (λa7=>?_)
 .exact JU
 clear aI K ax;have ax:=a7;clear a7;try simp only[bj,bk,bl]
 generalize W2.alloc (.cells (ints (List.replicate I.length 0)).toArray 3)=nV at eZ ax |-;refine e5 7 48 ?_;try simp only[Act.put,bj,bk,bl]
 refine eW [_] 9 [] ?_;have cZ:=qQ (eZ.q.g' _ rfl);have IC:=cZ.q.2.cell 0;have nk:=cZ.q.2.cell 1;have ID:=cZ.q.2.cell 2;have Bu:=cZ.q.2.frozen 0;have Bv:=cZ.q.2.frozen 1;have Bw:=cZ.q.2.frozen 2;have ub:=cZ.q.2.lt;have cb:=qQ (eZ.q.cr 0 v.st);clear ax;go_wp2_with fail;try unfold aS.only
 go_wp2_with fail
 go_meet
 exact⟨_,_,_,_,rfl,cb.q⟩
 ):G:=h
theorem _root_.QL{G:Prop}(h:G:=by
 refine e5 7 48 ?_;try simp only[Act.put,bj,bk,bl]
 refine fT 8 (λK aI=>?_);go_simp;have eZ:=qQ ea.q.ln;refine aI.q _ _ ?_ (λa7=>?_)
 .exact JU
 clear aI K ax;have ax:=a7;clear a7;try simp only[bj,bk,bl]
 generalize W2.alloc (.cells #[.int .i64 0,.slice none 0 0,.slice none 0 0] 159)=nV at eZ ax |-;refine eW [_] 9 [] ?_;have cZ:=qQ (eZ.q.g' _ rfl);have IC:=cZ.q.2.cell 0;have nk:=cZ.q.2.cell 1;have ID:=cZ.q.2.cell 2;have Bu:=cZ.q.2.frozen 0;have Bv:=cZ.q.2.frozen 1;have Bw:=cZ.q.2.frozen 2;have ub:=cZ.q.2.lt;have cb:=qQ (eZ.q.cr 0 v.st);clear ax;go_wp2_with fail;try unfold aS.only
 go_wp2_with fail
 go_meet
 exact⟨_,_,_,_,rfl,cb.q⟩
 ):G:=h
theorem _root_.Jl{G:Prop}(r:bm)(f:dS bm->G:=by
 intro bb;refine(callsIn_wide (n:=6)).1 ?_;refine callsIn_of_wp_marks func160 rfl trivial ?_ rfl;refine wpIn_wide.2 ?_;simp only[ntmps160,jA,qH,zM,Nat.reduceAdd,Nat.reduceSub,yQ,yZ,yD,yY,vP,xH];exact bb.o
 ):G:=f ⟨r⟩
theorem _root_.VD{G:Prop}(r:bm)(f:dS bm->G:=by
 intro bb;have t0:WF.cell? ⟨w.heap.size+1,0,none⟩=some (.int .i64 0):=aO.cell 0;have t1:WF.cell? ⟨w.heap.size+1,1,none⟩=some (.slice none 0 0):=aO.cell 1;have t2:WF.cell? ⟨w.heap.size+1,2,none⟩=some (.slice none 0 0):=aO.cell 2;revert t0 t1 t2;exact bb.o
 ):G:=f ⟨r⟩
theorem B_(val:Value)(v:R.V)(DA:Option Addr)(aJ:Nat)(I:List Int)(B:Nat)(w:World)(ah:B<=w.heap.size)(h:ai.cm w B val v)(cg:ai.ao w B DA I)(md:I.length<=aJ)(fc:aJ<=9223372036854775807):Calls Tryz.prog 160 #[val,.slice DA I.length aJ] w λe w'=>ai.fb 0 w w' (R.ez v I) e/\Below w.heap.size w w':=by
 obtain⟨cT,cF,dI⟩:=aK (λ(W:World) (aE:Below w.heap.size w W)=>jq val v B W (qJ ah aE.size) (h.below (aE.mono ah))) cg (λ(W:World) (aE:Below w.heap.size w W)=>er DA aJ I B W (by omega) (cg.below (aE.mono ah)));obtain⟨A,c,bK,c',rfl,ar,az,aO,bz,dL,dM⟩:=h;obtain⟨cD,dG,bL⟩:=aK ar az (((((qK w.heap.size w).alloc (qX _) (.cells #[.int .i64 v.st,.slice A v.I.length c,.slice bK v.s.length c'] 159))).alloc (by simp) (.cells #[.int .i64 0,.slice none 0 0,.slice none 0 0] 159)).alloc (by simp;omega) (.cells #[.int .i64 0] 27));clear ar az cg;by_cases a9:R.aF v=0;rotate_left
 .have U:=qQ (R.zC (I:=I) a9);have hq:(R.aF v != 0)=true:=by simpa using a9
  clear a9;refine Jl ?_;go_wp2_with fail;refine(cT.q _ bL.q).mono ?_;rintro e ag ⟨rfl,ap⟩;obtain⟨d0,eK⟩:=lh ap;have eu:w.heap.size+1+1<ag.heap.size:=by have:=ap.size;simp at this;omega
  go_wp2_with fail;refine⟨.tuple #[.agg #[.int .i64 0,.slice none 0 0,.slice none 0 0],.int .i64 (R.aF v)],by simp[results,Tryz.f160,go_sem,d0],?_,ai.four (aA bL.q ap) _ _ _ _⟩;rw[U.q];exact ai.d' _ _ _ _
 have Z:=qQ a9;obtain⟨cu,z2,z3,z4⟩:=R.cK a9;have eT:v.I.length<=6:=(R.aB cu).1;obtain⟨eD,eF,cQ⟩:=aK z2 cu (λ(W:World) (aE:Below w.heap.size w W)=>er A c v.I B W (by omega) (cD.q.below (aE.mono ah)));clear a9 cu z2 z4;refine Jl ?_;go_wp2_with fail;refine(cT.q _ bL.q).mono ?_;rintro e ag ⟨rfl,ap⟩;rw[Z.q];have bJ:=(((av.new w 159 #[.int .i64 v.st,.slice A v.I.length c,.slice bK v.s.length c']).alloc (.cells #[.int .i64 0,.slice none 0 0,.slice none 0 0] 159)).alloc (.cells #[.int .i64 0] 27)).below ap (by first | (simp;done) | (simp;omega));have aq:=((ai.oD w (.cells #[.int .i64 v.st,.slice A v.I.length c,.slice bK v.s.length c'] 159) 159 #[.int .i64 0,.slice none 0 0,.slice none 0 0]).alloc (.cells #[.int .i64 0] 27)).below ap (by first | (simp;done) | (simp;omega));have Q:=(ai.J1 w (.cells #[.int .i64 v.st,.slice A v.I.length c,.slice bK v.s.length c'] 159) (.cells #[.int .i64 0,.slice none 0 0,.slice none 0 0] 159) 27 #[.int .i64 0]).below ap (by simp);have b7:=qQ Q;have a6:ag.cell? ⟨w.heap.size+1+1,0,none⟩=some (.int .i64 0):=Q.cell 0;have b9:=Q.frozen 0;obtain⟨dH,b6,E⟩:=aK bJ aq (aA bL.q ap);have eu:w.heap.size+1+1<ag.heap.size:=by have:=ap.size;simp at this;omega
 have gQ:ag.cell? ⟨w.heap.size,0,none⟩=some (.int .i64 v.st):=bJ.cell 0;have dw:ag.cell? ⟨w.heap.size,1,none⟩=some (.slice A v.I.length c):=bJ.cell 1;have b':ag.cell? ⟨w.heap.size,2,none⟩=some (.slice bK v.s.length c'):=bJ.cell 2;have bp:ag.cell? ⟨w.heap.size+1,0,none⟩=some (.int .i64 0):=aq.cell 0;have bq:ag.cell? ⟨w.heap.size+1,1,none⟩=some (.slice none 0 0):=aq.cell 1;have br:ag.cell? ⟨w.heap.size+1,2,none⟩=some (.slice none 0 0):=aq.cell 2;have f0:=aq.frozen 0;have f1:=aq.frozen 1;have f2:=aq.frozen 2;clear ap bJ aq Q;go_wp2_with fail;refine(dI.q _ E.q).mono ?_;rintro e aC ⟨rfl,rfl⟩;by_cases e8:(R.size I).2=0;rotate_left
 .have U:=qQ (R.n5 Z.q e8);have hq:((R.size I).2 != 0)=true:=by simpa using e8
  simp only[ai.b5];clear e8;go_wp2_with fail;refine⟨.tuple #[.agg #[.int .i64 0,.slice none 0 0,.slice none 0 0],.int .i64 ((R.size I).2)],by simp[results,Tryz.f160,go_sem,bp,bq,br,a6],?_,ai.four E.q _ _ _ _⟩;rw[U.q];exact ai.d' _ _ _ _
 refine Vz ?_;intro kq vy jf sa;have sW:=qQ (λ(W:World) (aE:Below ag.heap.size ag W)=>eM DA aJ I B W (by omega) (cF.q.below ((aA E.q aE).mono ah)) (qJ ah (qJ E.q.size aE.size)));clear e8;by_cases be:(R.size v.I).1=(R.size I).1;rotate_left
 .have U:=qQ (R.m_ Z.q kq.q be);have dp:((R.size v.I).1 != (R.size I).1)=true:=by simpa using be
  clear be;go_wp2_with fail;refine(cQ.q _ E.q).mono ?_;rintro e aC ⟨rfl,rfl⟩;simp only[ai.b5];go_wp2_with fail;refine⟨.tuple #[.agg #[.int .i64 0,.slice none 0 0,.slice none 0 0],.int .i64 6],by simp[results,Tryz.f160,go_sem,bp,bq,br,a6],?_,ai.four E.q _ _ _ _⟩;rw[U.q];exact ai.d' _ _ _ _
 have dp:((R.size v.I).1 != (R.size I).1)=false:=by simpa using be
 have bA:=qQ be;clear be;go_wp2_with fail;refine(cQ.q _ E.q).mono ?_;rintro e aC ⟨rfl,rfl⟩;simp only[ai.b5];clear bp bq br f0 f1 f2 a6 b9;go_wp2_with fail;have d8:=sa.q
 go_cut [11]from 16 to 49 (λew ey=>∃(a8:Nat) (aQ:Option Addr) (S:Nat) (v2:Value),ew=.pointer (some ⟨a8,0,none⟩)/\ai.hR 0 ag.heap.size a8 ag v.st aQ S v2 I (List.replicate I.length 0) ey)
 case first =>
  refine Dj ?_;refine fk (λw'=>w'.cell? ⟨w.heap.size,0,none⟩=some (.int .i64 v.st)) 9 10 (gQ) (λax=>?_);simp only[qF,qG];refine aG 0 41 ?_;refine aG 1 42 ?_;refine aG 2 43 ?_;refine aG 4 45 ?_;refine aG 5 46 ?_;try simp only[Act.put,bj,bk,bl]
  have bs:=qQ (ai.Acc.start ag);generalize ag.drew=bD at bs ax |-;refine w5 3 6 8 (by kernel_rfl) (bB rfl rfl (λK aI=>?_)) (bB rfl rfl (λK aI=>?_)) (bB rfl rfl (λK aI=>?_))
  .go_simp;refine(sW.q _ bs.q.below).mono ?_;rintro e X ⟨di,rfl,dP,aE⟩;obtain⟨rr,m1,rfl,y3⟩:=ai.aZ dP;have cY:=qQ (bs.q.nK dP aE);clear dP aE;try go_simp
   refine aI.q _ _ ?_ (λa7=>?_)
   .exact XS
   clear aI K ax;have ax:=a7;clear a7;try simp only[bj,bk,bl]
   refine gM 6 8 (by kernel_rfl) (bB rfl rfl (λK aI=>?_)) (bB rfl rfl (λK aI=>?_))
   .go_simp;have ea:=qQ (cY.q.make I.length jf);refine aI.q _ _ ?_ (λa7=>?_)
    .exact XT
    clear aI K ax;have ax:=a7;clear a7;try simp only[bj,bk,bl]
    generalize X.alloc (.cells (ints (List.replicate I.length 0)).toArray 3)=W2 at ea ax |-;exact QL
   go_simp;have ea:=qQ cY.q.ln;refine aI.q _ _ ?_ (λa7=>?_)
   .exact XT
   clear aI K ax;have ax:=a7;clear a7;try simp only[bj,bk,bl]
   generalize X.alloc (.cells #[.int .i64 0,.slice none 0 0,.slice none 0 0] 159)=W2 at ea ax |-;exact QS
  .go_simp;have cY:=qQ (bs.q.make I.length jf);refine aI.q _ _ ?_ (λa7=>?_)
   .exact XS
   clear aI K ax;have ax:=a7;clear a7;try simp only[bj,bk,bl]
   generalize bD.alloc (.cells (ints (List.replicate I.length 0)).toArray 3)=X at cY ax |-;refine gM 3 8 (by kernel_rfl) (bB rfl rfl (λK aI=>?_)) (bB rfl rfl (λK aI=>?_))
   .go_simp;refine(sW.q _ cY.q.below).mono ?_;rintro e W2 ⟨di,rfl,dP,aE⟩;obtain⟨rr,m1,rfl,y3⟩:=ai.aZ dP;have ea:=qQ (cY.q.nK dP aE);clear dP aE;try go_simp
    refine aI.q _ _ ?_ (λa7=>?_)
    .exact XT
    clear aI K ax;have ax:=a7;clear a7;try simp only[bj,bk,bl]
    exact QL
   go_simp;have ea:=qQ cY.q.ln;refine aI.q _ _ ?_ (λa7=>?_)
   .exact XT
   clear aI K ax;have ax:=a7;clear a7;try simp only[bj,bk,bl]
   generalize X.alloc (.cells #[.int .i64 0,.slice none 0 0,.slice none 0 0] 159)=W2 at ea ax |-;exact QM
  go_simp;have cY:=qQ bs.q.ln;refine aI.q _ _ ?_ (λa7=>?_)
  .exact XS
  clear aI K ax;have ax:=a7;clear a7;try simp only[bj,bk,bl]
  generalize bD.alloc (.cells #[.int .i64 0,.slice none 0 0,.slice none 0 0] 159)=X at cY ax |-;refine gM 3 6 (by kernel_rfl) (bB rfl rfl (λK aI=>?_)) (bB rfl rfl (λK aI=>?_))
  .go_simp;refine(sW.q _ cY.q.below).mono ?_;rintro e W2 ⟨di,rfl,dP,aE⟩;obtain⟨rr,m1,rfl,y3⟩:=ai.aZ dP;have ea:=qQ (cY.q.nK dP aE);clear dP aE;try go_simp
   refine aI.q _ _ ?_ (λa7=>?_)
   .exact XT
   clear aI K ax;have ax:=a7;clear a7;try simp only[bj,bk,bl]
   exact QS
  go_simp;have ea:=qQ (cY.q.make I.length jf);refine aI.q _ _ ?_ (λa7=>?_)
  .exact XT
  clear aI K ax;have ax:=a7;clear a7;try simp only[bj,bk,bl]
  generalize X.alloc (.cells (ints (List.replicate I.length 0)).toArray 3)=W2 at ea ax |-;exact QM
 obtain⟨a8,aQ,S,v2,rfl,dj⟩:=hcut;have i:=qQ dj;clear dj d8 gQ;by_cases a2:(R.size I).1=0
 .have U:=qQ (R.mZ Z.q kq.q bA.q a2);have dr:((R.size I).1 == 0)=true:=by simpa using a2
  clear a2;obtain⟨bt,bn,bg,bh,bm,bo,bF⟩:=ai.df i.q.bw;subst bg;have aD:=b6.q.below i.q.below (by omega);have Q:=b7.q.below i.q.below (by omega);have j4:=qQ (qZ bh (qZ bm (qZ bo bF)));have d6:ag.heap.size<=a8:=i.q.low;have eH:a8<wc.heap.size:=i.q.aL.lt;have dR:wc.cell? ⟨a8,0,none⟩=some (.int .i64 v.st):=i.q.aL.cell 0;have c1:wc.cell? ⟨a8,1,none⟩=some (.slice aQ I.length S):=i.q.aL.cell 1;have bE:wc.cell? ⟨a8,2,none⟩=some (.slice bt (List.replicate I.length (0:Int)).length bn):=i.q.aL.cell 2;have bp:wc.cell? ⟨w.heap.size+1,0,none⟩=some (.int .i64 0):=aD.cell 0;have bq:wc.cell? ⟨w.heap.size+1,1,none⟩=some (.slice none 0 0):=aD.cell 1;have br:wc.cell? ⟨w.heap.size+1,2,none⟩=some (.slice none 0 0):=aD.cell 2;have a6:wc.cell? ⟨w.heap.size+1+1,0,none⟩=some (.int .i64 0):=Q.cell 0;have f0:=aD.frozen 0;have f1:=aD.frozen 1;have f2:=aD.frozen 2;have b9:=Q.frozen 0;clear aD Q bh bm bo bF;go_wp2_with fail;refine⟨.tuple #[.agg #[.int .i64 v.st,.slice aQ I.length S,.slice bt (List.replicate I.length (0:Int)).length bn],.int .i64 0],by simp[results,Tryz.f160,go_sem,bp,bq,br,a6],?_,ai.four (E.q.trans (i.q.below.mono E.q.size)) _ _ _ _⟩;rw[U.q];refine ai.kf ⟨aQ,S,bt,bn,rfl,?_,?_,i.q.cW,i.q.cX,j4.q.2.1,j4.q.2.2.1⟩ ?_ ?_
  .exact((i.q.i1.hj (λb off e hp=>by have:=(i.q.g1 b off e hp).1;omega) _ _ _).set (λb off e hp=>by have:=(i.q.g1 b off e hp).1;omega) _ _).up (by simp)
  .exact((j4.q.1.hj (λb off e hp=>by have:=j4.q.2.2.2 b off e hp;omega) _ _ _).set (λb off e hp=>by have:=j4.q.2.2.2 b off e hp;omega) _ _).up (by simp)
  .exact λb off e hp=>by have:=(i.q.g1 b off e hp).1;omega
  exact JW
 have dr:((R.size I).1 == 0)=false:=by simpa using a2
 obtain⟨c2,c3,dS,c4,c5⟩:=R.ll Z.q kq.q bA.q a2;obtain⟨cO,dF,b1,eE,cN,a3⟩:=fq c2 c3 a2 c4 c5 (E.q.trans (i.q.below.mono E.q.size));have bW:=dH.q.below i.q.below (by omega);have gQ:wc.cell? ⟨w.heap.size,0,none⟩=some (.int .i64 v.st):=bW.cell 0;have dw:wc.cell? ⟨w.heap.size,1,none⟩=some (.slice A v.I.length c):=bW.cell 1;have b':wc.cell? ⟨w.heap.size,2,none⟩=some (.slice bK v.s.length c'):=bW.cell 2;have dx:=qQ (Cf (.agg #[.int .i64 v.st,.slice A v.I.length c,.slice bK v.s.length c']) v B wc (qJ ah a3.q.size) ⟨A,c,bK,c',rfl,cD.q.below (a3.q.mono ah),dG.q.below (a3.q.mono ah),aO,bz,dL,dM⟩ Z.q (by omega));clear bW c2 c3 dS c4 c5 a2;go_wp2_with fail;refine dx.q.mono ?_;rintro e aw ⟨o,rfl,cp,c_⟩;obtain⟨j2,ib,rfl⟩:=ai.EL cp;have cM:=qQ cp;have bM:=qQ c_;clear cp c_;go_wp2_with fail;refine(callsIn_wide.1 (Bj Fence.wide 5 trivial rfl _ _ _ _)).mono ?_;rintro e fg ⟨rfl,rfl⟩;go_wp2_with fail;have cq:wc.heap.size<=aw.heap.size:=bM.q.size;obtain⟨bD,a'⟩:=gz ((aw.alloc (.cells #[.slice j2 (R.blocks v).length ib] 199)).alloc (.cells #[.slice DA I.length aJ] 23));have e4:bD.heap.size=aw.heap.size+1+1:=by rw[<-a'];simp
 have aN:Below aw.heap.size aw bD:=by rw[<-a'];exact((qK _ _).alloc (qX _) _).alloc (by simp) _
 have db:av bD (aw.heap.size+1) 23 #[.slice DA I.length aJ]:=by rw[<-a'];exact(by simpa using av.new (aw.alloc (.cells #[.slice j2 (R.blocks v).length ib] 199)) 23 #[.slice DA I.length aJ])
 have da:av bD aw.heap.size 199 #[.slice j2 (R.blocks v).length ib]:=by rw[<-a'];exact(av.new aw _ _).alloc _
 have bS:Below w.heap.size w bD:=(a3.q.trans (bM.q.mono a3.q.size)).trans (aN.mono (qJ a3.q.size cq));have d6:=i.q.low;have dZ:=i.q.aL.lt;have aP:=qQ (show ai.Lays bD.heap.size wc.heap.size ag.heap.size a8 aw.heap.size aQ v2 j2 I from
  ⟨dZ,λb e=>(i.q.bw.lt b e).2,λb off e hp=>by
   obtain⟨cU,fd,bE,eS,_⟩:=i.q.i1 hp;rw[e]at bE;simp only[zZ,kD]at bE;omega,λb off e=>cM.q.lt b (by rw[e];rfl),⟨cq,by omega⟩,by omega⟩)
 have dC:=qQ (show ai.rE bD.heap.size 0 wc.heap.size ag.heap.size a8 aw.heap.size ag v aQ S v2 j2 ib I [] bD from
  ⟨yX _,rfl,[],R.blocks v,rfl,qX _,(i.q.i1.below (bM.q.trans (aN.mono cq))).up (by omega),da,(cM.q.kept (row:=none) ⟨aN.os,aN.tape,aN.output,aN.size,λk d4 _=>aN.block k d4⟩ (by simp[Value.ownBlock];cases j2<;>simp)),by
   simpa using (i.q.later bM.q).later aN⟩)
 rw[a'];obtain⟨b,aE,ek⟩:=x' Fence.wide 5 trivial rfl (by omega) (aw.heap.size+1) DA aJ B I (by omega) bD (by omega) (qJ ah bS.size) (db.cell 0) (cF.q.below (bS.mono ah));have eB:=qQ bS;clear a' db da aN bS gQ dw b';refine(wpIn_wide (n:=6)).1 ?_;refine pq 13 14 (λx:ai.hT I=>.int .i64 (x.1:Int)) (λx=>.int .i64 (I[x.1]'x.2)) rfl (by omega) (gf:=194) (lb:=#[.pointer (some ⟨aw.heap.size+1,0,none⟩)]) rfl trivial (enters_of func194 (by kernel_rfl) rfl) ek
  (λak b_=>ak.trans b_) (λW y o l4 d5 d3 _ _=>ai.eA.book (N:=bD.heap.size) (by omega) (by rcases aE with rfl | aE<;>omega) W y o l4 d5 d3) (qK _ _)
  (ai.rE bD.heap.size 0 wc.heap.size ag.heap.size a8 aw.heap.size ag v aQ S v2 j2 ib I) (ai.DB bD.heap.size w v I) (ai.rE.own aP.q) (λc=>ai.DB.own (by omega)) dC.q ?assign ?body ?done ?stop
 case assign =>
  intro y x W K aI;simp only[kI,kY,uY]at aI |-
  gi_wp2
  exact aI
 case body =>
  rintro y pre ⟨q,hq⟩ W aX a0 bH;dsimp only at bH |-;simp only[kI,kY,uY];obtain⟨ss,st,bd,M⟩:=aX.run;have ci:=cN.q _ (qP hq);have c9:=ai.Kz hq bH a0;have c6:=ai.tC (hq:=hq) aX.order bH;obtain⟨eC,eX,bv,a5,b3,dX⟩:=fq aX M bd c9 c6 bH;clear aX M bd c9 c6 bH;have c7:=R.CZ Z.q (by have:=cO.q;have:=dF.q;omega) cO.q cN.q a0 ci bv.q a5.q;have a4:=qQ c7;clear c7;generalize I[q]=d at ci a5 a4 |-;by_cases ar:d=1
  .have cj:=qQ (R.C2 bv.q ar);have d2:(d == 1)=true:=by simpa using ar
   clear ar
   gi_wp2_with fail
   exact⟨KeepsFrom.refl _ _,ai.eA.refl _ _ _,ai.rE.next a0 b3.q (by rw[a5.q];exact cj.q) (by rw[<-ai.Df a0];exact eX.q)⟩
  have d2:(d == 1)=false:=by simpa using ar
  obtain⟨n,s,r,rfl⟩:=a4.q.2.2 ar;have ei:=a4.q.1 (n,s) (by simp);dsimp only at ei;obtain⟨m,hm⟩:=gz r.length;obtain⟨hP,co,hu,eQ,eR⟩:=eX.q.row.form (by simp);simp only[xO,true_and]at hu;obtain⟨rfl,rfl⟩:=hu;have Y:=eX.q.row;rw[xI,qH,hm]at Y;have aR:=ai.nW r n s;rw[hm]at aR;have dk:=(Y.cellAt (m*2) (by omega)).trans aR.1;have dl:=(Y.cellAt (m*2+1) (by omega)).trans aR.2;have dg:=Y.frozenAt (m*2);have dh:=Y.frozenAt (m*2+1);have dn:W.cell? ⟨aw.heap.size,0,none⟩=some (.slice (some ⟨hP,0,none⟩) (m+1) ib):=by
   have h:=eX.q.mS.cell 0;rw[qH,hm]at h;exact h
  have dm:=eX.q.mS.frozen 0;have bu:=qQ hm;have bX:=qQ ar;have m1:=b2 m;have m2:(m:Int)<(m:Int)+1:=by omega
  have m3:(m:Int)+1<=9223372036854775807:=by
   have h:=eX.q.row.2;rcases h with ⟨h,_⟩ | ⟨dU,dO,cur,h,_,_,cn,d1,_⟩
   .cases h
   simp only[qH,hm]at cn;unfold maxLen at d1;omega
  have dc:d≠0:=by omega
  have eJ:d≠0:=dc;have eU:0<=n % d:=uO _ dc;have eV:n % d<d:=uZ _ (by omega);have eY:n % d<=n:=by
   have c1:=uT n d;have bE:=jF (show 0<=d by omega) (yA (show 0<=n by omega) (show 0<=d by omega));omega
  have ec:n.tmod d=n % d:=Int.tmod_eq_emod_of_nonneg (by omega);have eh:IntKind.i64.wrap (n % d)=n % d:=qA _ (by omega);clear Y aR hm ar;by_cases a1:n % d=0;rotate_left
  .have cj:=qQ (R.E3 bv.q bX.q a1);have d9:((n % d) != 0)=true:=by simpa using a1
   have aU:=b6.q.below eX.q.cr.below (by omega);have Q:=b7.q.below eX.q.cr.below (by omega);obtain⟨bR,bQ,dy⟩:=aK aU Q (E.q.trans (eX.q.cr.below.mono E.q.size));have e7:W.cell? ⟨w.heap.size+1,0,none⟩=some (.int .i64 0):=aU.cell 0;have e9:W.cell? ⟨w.heap.size+1,1,none⟩=some (.slice none 0 0):=aU.cell 1;have e_:W.cell? ⟨w.heap.size+1,2,none⟩=some (.slice none 0 0):=aU.cell 2;have e':W.cell? ⟨w.heap.size+1+1,0,none⟩=some (.int .i64 0):=Q.cell 0;have f0:=aU.frozen 0;have f1:=aU.frozen 1;have f2:=aU.frozen 2;have f3:=Q.frozen 0;clear aU Q a1
   gi_wp2_with fail
   exact ai.IL (R.J6 (by rw[a5.q];exact cj.q)) eX.q.size bR.q bQ.q dy.q
  have d9:((n % d) != 0)=false:=by simpa using a1
  have bP:=qQ a1;have e3:=R.Dc a4.q.1 ci a1;have dp:0<=n / d:=yA (by omega) (by omega);have dr:n / d<=n:=Int.ediv_le_self _ (by omega);have d_:n.tdiv d=n / d:=wT (by omega);have eb:IntKind.i64.wrap (n / d)=n / d:=qA _ (by omega);have eo:IntKind.i64.wrap (s*d)=s*d:=qA _ (by omega);obtain⟨g2,dK,bg,_,_⟩:=eX.q.cr.bw.form (by simp;omega);have bU:(List.replicate (I.length-pre.length) (0:Int)++ss.reverse).length=I.length:=by simp[a4.q.2.1];omega
  rw[bU]at bg;subst bg;have bV:=eX.q.cr.bw;rw[bU]at bV;have dT:=bV.frozenAt q;have b8:=bV.cellAt q (by omega);rw[ints_at _ q (by omega)]at b8;generalize (List.replicate (I.length-pre.length) (0:Int)++ss.reverse)[q]'(by omega)=fh at b8;have cU:W.cell? ⟨a8,2,none⟩=some (.slice (some ⟨g2,0,none⟩) I.length dK):=eX.q.cr.aL.cell 2;have dE:=qQ bU;have i1:=b2 q;have i2:(q:Int)<(I.length:Int):=by omega
  clear a1 bU bV
  gi_wp2_with fail
  refine fU 7 (by kernel_rfl) (by kernel_rfl) (by kernel_rfl) ?_;simp only[vS,yG,vT,vV]
  repeat still_step
  try refine wpStill_nil ?_
  change wpList _ _ _ _ _ W.drew;go_wp2_with fail;rename_i dJ bG;refine bG _ _ ?_;clear bG;have b0:=qQ (eX.q.store aP.q dE.q q s).drew;rw[ai.Fk a4.q.2.1 a0 dX.q s]at b0;have eO:=(eX.q.cr.bw.lt g2 rfl).1;have eN:=aP.q.B5 g2 rfl;have eP:=aP.q.Hl _ _ rfl;have eG:B<=ag.heap.size:=qJ ah E.q.size;have dY:aw.heap.size<W.heap.size:=eX.q.mS.lt;have eL:g2≠hP:=by omega
  have cJ:=qQ ((ai.jv (Bs:=aw.heap.size+1) (b:=b) (W:=W) (g:=g2) (j:=q) (x:=.int .i64 s) (by omega) (by rcases aE with rfl | aE<;>omega)).drew);have cH:=qQ ((ai.gu (NL:=bD.heap.size) W ⟨g2,q,none⟩ (.int .i64 s)).trans (ai.p6 _));have cw:(W.setCell ⟨g2,q,none⟩ (.int .i64 s)).drew.cell? ⟨hP,m*2,none⟩=some (.int .i64 n):=(xE (qN W ⟨g2,q,none⟩ _ hP (by simp;omega))).trans dk;have rr:(W.setCell ⟨g2,q,none⟩ (.int .i64 s)).drew.cell? ⟨hP,m*2+1,none⟩=some (.int .i64 s):=(xE (qN W ⟨g2,q,none⟩ _ hP (by simp;omega))).trans dl;have cx:(W.setCell ⟨g2,q,none⟩ (.int .i64 s)).drew.frozen? ⟨hP,m*2,none⟩=false:=(uG (qN W ⟨g2,q,none⟩ _ hP (by simp;omega))).trans dg;have cy:(W.setCell ⟨g2,q,none⟩ (.int .i64 s)).drew.frozen? ⟨hP,m*2+1,none⟩=false:=(uG (qN W ⟨g2,q,none⟩ _ hP (by simp;omega))).trans dh;have cz:(W.setCell ⟨g2,q,none⟩ (.int .i64 s)).drew.cell? ⟨aw.heap.size,0,none⟩=some (.slice (some ⟨hP,0,none⟩) (m+1) ib):=(xE (qN W ⟨g2,q,none⟩ _ aw.heap.size (by simp;omega))).trans dn;have cA:(W.setCell ⟨g2,q,none⟩ (.int .i64 s)).drew.frozen? ⟨aw.heap.size,0,none⟩=false:=(uG (qN W ⟨g2,q,none⟩ _ aw.heap.size (by simp;omega))).trans dm;have cB:aw.heap.size<(W.setCell ⟨g2,q,none⟩ (.int .i64 s)).drew.heap.size:=by simpa[World.drew]using dY
  generalize (W.setCell ⟨g2,q,none⟩ (.int .i64 s)).drew=X at b0 cJ cH cw rr cx cy cz cA cB |-;clear dk dl dg dh dn dm b8 dT cU
  gi_wp2_with fail
  refine fU 14 (by kernel_rfl) (by kernel_rfl) (by kernel_rfl) ?_;simp only[vS,yG,vT,vV]
  repeat still_step
  try refine wpStill_nil ?_
  change wpList _ _ _ _ _ X.drew;go_wp2_with fail;rename_i dJ bG;refine bG _ _ ?_;clear bG;have aW:=qQ (b0.q.top aP.q bu.q (n':=n / d) (s':=s*d)).drew;have bZ:=qQ (cJ.q.trans ((ai.jv (Bs:=aw.heap.size+1) (b:=b) (W:=X) (g:=hP) (j:=m*2) (x:=.int .i64 (n / d)) (by omega) (by rcases aE with rfl | aE<;>omega)).trans
   (ai.jv (Bs:=aw.heap.size+1) (b:=b) (g:=hP) (j:=m*2+1) (x:=.int .i64 (s*d)) (by omega) (by rcases aE with rfl | aE<;>omega)))).drew
  have bY:=qQ (cH.q.trans (((ai.gu (NL:=bD.heap.size) X ⟨hP,m*2,none⟩ (.int .i64 (n / d))).trans (ai.gu (NL:=bD.heap.size) _ ⟨hP,m*2+1,none⟩ (.int .i64 (s*d)))).trans (ai.p6 _)));clear cw rr cx cy cz cA cB ec eh d_ eb eo;generalize ((X.setCell ⟨hP,m*2,none⟩ (.int .i64 (n / d))).setCell ⟨hP,m*2+1,none⟩ (.int .i64 (s*d))).drew=W2 at aW bZ bY |-;have Y:=aW.q.row;rw[xI,qH,bu.q]at Y;have aR:=ai.nW r (n / d) (s*d);rw[bu.q]at aR;have g0:=(Y.cellAt (m*2) (by omega)).trans aR.1;have g4:W2.cell? ⟨aw.heap.size,0,none⟩=some (.slice (some ⟨hP,0,none⟩) (m+1) ib):=by
   have h:=aW.q.mS.cell 0;rw[qH,bu.q]at h;exact h
  have g5:=aW.q.mS.frozen 0;have g6:aw.heap.size<W2.heap.size:=aW.q.mS.lt;have eI:m+1<=ib:=by
   rcases Y.2 with ⟨h,_⟩ | ⟨dU,dO,cur,h,_,_,cn,_⟩
   .cases h
   simp only[xO]at h;obtain⟨_,_,rfl⟩:=h;exact cn
  clear Y aR;by_cases ak:n / d=1
  .have cj:=qQ (R.C0 bv.q bX.q bP.q ak);have dV:((n / d) == 1)=true:=by simpa using ak
   clear ak
   gi_wp2_with fail
   have cL:=aW.q.pop aP.q;rw[bu.q]at cL;exact⟨bY.q.trans (ai.gu _ _ _),bZ.q.trans (ai.jv (by omega) (by rcases aE with rfl | aE<;>omega)),ai.rE.next a0 b3.q (by rw[a5.q];exact cj.q) cL⟩
  have cj:=qQ (R.C1 bv.q bX.q bP.q ak);have dV:((n / d) == 1)=false:=by simpa using ak
  clear ak
  gi_wp2_with fail
  exact⟨bY.q,bZ.q,ai.rE.next a0 b3.q (by rw[a5.q];exact cj.q) aW.q⟩
 case done =>
  rintro D bf W dW dv aX aI;have du:bf.length=I.length:=by have:=congrArg List.length dv;rwa [zJ,ai.n9]at this
  obtain⟨ss,st,bd,M⟩:=aX.run;rw[du,xB,qG,vP]at M;rw[du,qT (by rw[jV];exact qX _)]at bd;have cl:R.go I.reverse (R.blocks v)=some ss:=by rw[<-R.BA,bd];rfl
  have dt:ss.reverse.length=I.length:=by
   rw[<-(R.tI Z.q kq.q bA.q b1.q cl).1,R.ej]
  have cI:=qQ (R.n6 Z.q kq.q bA.q b1.q cl);have e6:=R.A2 (v:=v) (ss:=ss.reverse) kq.q dt;have eX:=qQ M;obtain⟨bt,bn,bg,bh,bm,bo,bF⟩:=ai.df M.cr.bw;subst bg;obtain⟨j4,dB,dA⟩:=aK (qZ bh (qZ bm (qZ bo bF))) (λb off (e:bt=some ⟨b,off,none⟩)=>aP.q.B5 b (by rw[e];rfl)) aI;have ca:D<W.heap.size:=(Array.getElem?_eq_some_iff.1 aI).1;have dR:W.cell? ⟨a8,0,none⟩=some (.int .i64 v.st):=M.cr.aL.cell 0;have c1:W.cell? ⟨a8,1,none⟩=some (.slice aQ I.length S):=M.cr.aL.cell 1;have bE:W.cell? ⟨a8,2,none⟩=some (.slice bt ss.reverse.length bn):=M.cr.aL.cell 2;have bP:=qQ (sf (.agg #[.int .i64 v.st,.slice aQ I.length S,.slice bt ss.reverse.length bn]) ⟨v.st,I,ss.reverse⟩ W.heap.size W (qX _) ⟨aQ,S,bt,bn,rfl,M.cr.i1,bh,M.cr.cW,M.cr.cX,bm,bo⟩);have aD:=b6.q.below M.cr.below (by omega);have Q:=b7.q.below M.cr.below (by omega);obtain⟨bR,bQ,bO⟩:=aK aD Q (E.q.trans (M.cr.below.mono E.q.size));clear M bh bm bo bF aI aD Q cl bd dt aX dv;generalize ss.reverse=aV at *;go_wp2_with fail;refine bP.q.mono ?_;rintro e hk ⟨rfl,bc⟩;have aT:=bR.q.below bc bR.q.lt;have bT:=bQ.q.below bc bQ.q.lt;have bp:hk.cell? ⟨w.heap.size+1,0,none⟩=some (.int .i64 0):=aT.cell 0;have bq:hk.cell? ⟨w.heap.size+1,1,none⟩=some (.slice none 0 0):=aT.cell 1;have br:hk.cell? ⟨w.heap.size+1,2,none⟩=some (.slice none 0 0):=aT.cell 2;have a6:hk.cell? ⟨w.heap.size+1+1,0,none⟩=some (.int .i64 0):=bT.cell 0;have f0:=aT.frozen 0;have f1:=aT.frozen 1;have f2:=aT.frozen 2;have b9:=bT.frozen 0;obtain⟨cP,cG,bN,cE⟩:=cV aT bT bc ((bc.block D ca).trans dA.q);have d7:W.heap.size<=hk.heap.size:=bc.size;clear aT bT bc;by_cases a_:R.aF ⟨v.st,I,aV⟩=4
  .have U:=qQ (cI.q.trans (qY a_));rw[show ai.hK (.agg #[.int .i64 v.st,.slice aQ I.length S,.slice bt aV.length bn]) ⟨v.st,I,aV⟩=.tuple #[.agg #[.int .i64 0,.slice none 0 0,.slice none 0 0],.int .i64 5]from qY a_];clear a_;go_wp2_with fail;refine⟨by simp,.inl ⟨_,_,rfl,run_takeDeferred (ai.om cE.q (by omega)),?_⟩⟩;generalize cd:World.putObj _ D (.deferred none)=WF;have aH:ai.Last w hk D _ _ _ _ WF:=⟨cd⟩;obtain⟨aO,bz⟩:=aH.cells cP.q cG.q (by omega);refine VD ?_;intro t0 t1 t2;have t3:WF.cell? ⟨w.heap.size+1+1,0,none⟩=some (.int .i64 5):=bz.cell 0;refine⟨.tuple #[.agg #[.int .i64 0,.slice none 0 0,.slice none 0 0],.int .i64 5],by simp[results,Tryz.f160,go_sem,t0,t1,t2,t3],?_,aH.below (bO.q.trans (bN.q.mono bO.q.size)) (by omega) (by omega)⟩;rw[U.q];exact ai.d' _ _ _ _
  have U:=qQ (cI.q.trans (qV a_));rw[show ai.hK (.agg #[.int .i64 v.st,.slice aQ I.length S,.slice bt aV.length bn]) ⟨v.st,I,aV⟩=.tuple #[.agg #[.int .i64 v.st,.slice aQ I.length S,.slice bt aV.length bn],.int .i64 0]from qV a_];clear a_;go_wp2_with fail;refine⟨by simp,.inl ⟨_,_,rfl,run_takeDeferred (ai.om cE.q (by omega)),?_⟩⟩;generalize cd:World.putObj _ D (.deferred none)=WF;have aH:ai.Last w hk D _ _ _ _ WF:=⟨cd⟩;obtain⟨aO,bz⟩:=aH.cells cP.q cG.q (by omega);have t0:WF.cell? ⟨w.heap.size+1,0,none⟩=some (.int .i64 v.st):=aO.cell 0;have t1:WF.cell? ⟨w.heap.size+1,1,none⟩=some (.slice aQ I.length S):=aO.cell 1;have t2:WF.cell? ⟨w.heap.size+1,2,none⟩=some (.slice bt aV.length bn):=aO.cell 2;have t3:WF.cell? ⟨w.heap.size+1+1,0,none⟩=some (.int .i64 0):=bz.cell 0;refine⟨.tuple #[.agg #[.int .i64 v.st,.slice aQ I.length S,.slice bt aV.length bn],.int .i64 0],by simp[results,Tryz.f160,go_sem,t0,t1,t2,t3],?_,aH.below (bO.q.trans (bN.q.mono bO.q.size)) (by omega) (by omega)⟩;rw[U.q];refine ai.kf ⟨aQ,S,bt,bn,rfl,?_,?_,eX.q.cr.cW,eX.q.cr.cX,j4.q.2.1,j4.q.2.2.1⟩ ?_ ?_
  .refine(eX.q.i1.below (bN.q.mono eX.q.size)).same (by rw[aH.size];have:=eX.q.size;omega) (λb off e hp=>aH.same b ?_ ?_ ?_)
   all_goals (have ak:=(eX.q.cr.g1 b off e hp).1;have b_:=aP.q.I' b off e hp;omega)
  .refine(j4.q.1.below bN.q).same (by rw[aH.size];exact d7) (λb off e hp=>aH.same b ?_ ?_ ?_)
   all_goals (have ak:=j4.q.2.2.2 b off e hp;have b_:=dB.q b off e;omega)
  .exact λb off e hp=>by have:=(eX.q.cr.g1 b off e hp).1;omega
  exact JW
 case stop =>
  rintro D c pre W dW _ bI aI;have aq:=bI.ret;subst aq;have U:=qQ (R.r2 Z.q kq.q bA.q b1.q bI.no);have ca:D<W.heap.size:=(Array.getElem?_eq_some_iff.1 aI).1;refine wpIn_ret ?_;refine⟨by simp,.inl ⟨_,_,rfl,run_takeDeferred aI,?_⟩⟩;have cf:Below D W (W.putObj D (.deferred none)):=(qK D W).grown (grownBy_putObj' W D (.deferred none)) (zG ca) (λk e=>by cases e;exact qX _);have aO:=bI.view.below cf (by omega);have bz:=bI.err.below cf (by omega);have cC:=qQ (bI.below.trans (cf.mono (by omega)));generalize W.putObj D (.deferred none)=WF at aO bz cC |-;refine VD ?_;intro t0 t1 t2;have t3:WF.cell? ⟨w.heap.size+1+1,0,none⟩=some (.int .i64 9):=bz.cell 0;refine⟨.tuple #[.agg #[.int .i64 0,.slice none 0 0,.slice none 0 0],.int .i64 9],by simp[results,Tryz.f160,go_sem,t0,t1,t2,t3],?_,cC.q⟩;rw[U.q];exact ai.d' _ _ _ _
end Go.Proofs.YtabmnaaidfpmcaaGreatDoor
end
section
namespace aS
open Go Go.RowKit
variable {F:Fence} {n:Nat} {P:Program}
theorem po{α:Type}{g:Operand}{m q:Tmp}{assign body:Code}{Q:Exit->Act->World->Prop}(d1:Nat)(i j:α->Value)(aq:F.round=none)(I:1<=n)(ap:a.eval g=.func (.func gf) #[] lb)(M:F.fn gf)(y:∀args w,(callFunc gf args).run P w=.ok (.enter gf args) w){ch:World->World->Prop}{bm:List α->α->Prop}{S c8:List α->Prop}(av:sZ F (n-1) P gf lb (λx=>#[i x,j x]) ch bm S c8 N ak)(Y:∀{A B C:World},ch A B->ch B C->ch A C)(X:∀(W:World) (l:Nat) (o l4:Obj),w.heap.size<=l->W.heap[l]?=some o->o.isCells=false->o.isWalk=false->ch W (W.putObj l l4))(ag:Below ak.heap.size ak w)(b1:List α->World->Prop)(r:Code->List α->World->Prop)(O:OwnFrom w.heap.size b1)(U:∀c,OwnFrom w.heap.size (r c))(E:b1 [] w)(Z:∀(l:Nat) (x:α) (W:World) (K:Act->World->Prop),K { tmps:=((a.tmps.setIfInBounds m (i x)).setIfInBounds q (j x)).setIfInBounds d1 (i x),defers:=[] } W ->
     assign.wpIn (F.inRound l) (n-1-1) P (Exit.then K (λ_ _ _=>False)) { tmps:=(a.tmps.setIfInBounds m (i x)).setIfInBounds q (j x),defers:=[] } W)
    (ah:∀(l:Nat) (pre:List α) (x:α) (W:World),b1 pre W->pre.length<N->bm pre x ->
     body.wpIn (F.inRound l) (n-1-1) P (ownPostG w.heap.size ch b1 r (pre++[x]) W) { tmps:=((a.tmps.setIfInBounds m (i x)).setIfInBounds q (j x)).setIfInBounds d1 (i x),defers:=[] } W)
    (ao:∀(D:Nat) (xs:List α) (W:World),w.heap.size<=D->S xs->b1 xs W->W.heap[D]?=some (.deferred (some []))->Q .normal { a with defers:={ target:=.collected D,args:=#[] }::a.defers } W)
    (az:∀(D:Nat) (c:Code) (pre:List α) (W:World),w.heap.size<=D->c8 pre->r c pre W->W.heap[D]?=some (.deferred (some []))->c.wpIn F n P Q { a with defers:={ target:=.collected D,args:=#[] }::a.defers } W) :
    (Code.rangeFunc g #[m,q] assign body).wpIn F n P Q a w :=
 lZ (encs:=λx=>#[i x,j x]) aq I ap M y av Y X ag (λ_=>rfl) b1 r O U E
  (λx=>{ tmps:=((a.tmps.setIfInBounds m (i x)).setIfInBounds q (j x)).setIfInBounds d1 (i x),defers:=[] })
  (λl x W K V=>by simpa using Z l x W K V) ah ao az
end aS
end
