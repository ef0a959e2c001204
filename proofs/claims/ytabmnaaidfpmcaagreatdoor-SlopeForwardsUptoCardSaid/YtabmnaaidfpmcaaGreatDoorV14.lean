/-
  RowMajor, ArrG, ArrH, ArrI, ArrJ, ArrJ2. Conditions: where the theorems name them.
-/
import Derived.Test.YtabmnaaidfpmcaaGreatDoorV13
set_option linter.unusedVariables false
set_option maxRecDepth 100000
set_option maxHeartbeats 16000000
open Go.Proofs.Tryz
variable {l:List Int}{j:Nat}{bm:Prop}
section
namespace Go.Proofs.YtabmnaaidfpmcaaGreatDoor
open Go.RowKit Go.Shelf aS
attribute [local go_sem] yO
namespace ai
structure DC (NL:Nat) (w:World) (A:Option Addr) (cap:Nat) (l:List Int) (B:Nat) (pre:List (hT l)) (W:World):Prop where
 size:NL<=W.heap.size
 len:pre.length<=l.length
 order:pre.map (·.1)=upto (down l.length) pre.length
 I:av W w.heap.size 23 #[.slice A l.length cap]
 cells:av W (w.heap.size+1) 3 (ints (List.replicate (l.length-pre.length) 0++(R.steps l).drop (l.length-pre.length))).toArray
 out:av W (w.heap.size+1+1) 23 #[.slice (some ⟨w.heap.size+1,0,none⟩) l.length l.length]
 CB:av W (w.heap.size+1+1+1) 3 #[.int .i64 (R.prod (l.drop (l.length-pre.length)))]
 ints:ao W B A l
 below:Below w.heap.size w W
theorem DC.own{NL:Nat}{w:World}{A:Option Addr}{cap:Nat}{B:Nat}(ah:B<=w.heap.size)(j:w.heap.size+1+1+1<NL):OwnFrom NL (DC NL w A cap l B) :=
 k6 (N:=NL) (qX _) (λs X Y h i=>⟨qJ h.size i.size,h.len,h.order,h.I.below i (by omega),h.cells.below i (by omega),h.out.below i (by omega),h.CB.below i (by omega),h.ints.below (i.mono (by omega)),h.below.trans (i.mono (by omega))⟩) (λs X h=>h.size)
theorem KA{q:Nat}(r:j<l.length)(hq:q=down l.length j)(m:∀d∈l,1<=d):(List.replicate (l.length-j) 0++(R.steps l).drop (l.length-j)).set q (R.prod (l.drop (l.length-j)))=List.replicate (l.length-(j+1)) 0++(R.steps l).drop (l.length-(j+1)):=by
 unfold down at hq;subst hq;have e:l.length-j=(l.length-(j+1))+1:=by omega
 have i:l.length-(j+1)<(R.steps l).length:=by rw[R.bM];omega
 have az:(R.steps l)[l.length-(j+1)]=R.prod (l.drop (l.length-j)):=by rw[R.Fj m (by omega),<-e]
 rw[zX i,az,<-e];rw[List.set_append_left _ _ (by rw[zP];omega)]
 conv=>lhs;rw[show List.replicate (l.length-j) (0:Int)=List.replicate (l.length-(j+1)) 0++[0] by rw[e,wJ]]
 rw[jZ _ _ (by rw[zP];omega),zP,show l.length-1-j-(l.length-(j+1))=0 by omega,zE];rfl
theorem IF{q:Nat}(m:j<l.length)(hq:q=down l.length j)(r:q<l.length):R.prod (l.drop (l.length-(j+1)))=R.prod (l.drop (l.length-j))*l[q]:=by
 unfold down at hq;subst hq;have e:l.length-j=(l.length-(j+1))+1:=by omega
 have i:l.length-(j+1)<l.length:=by omega
 rw[zX i,<-e];simp only[R.prod];rw[xT]
 congr 2
 omega
end ai
theorem z6(A:Option Addr)(cap:Nat)(l:List Int)(B:Nat)(w:World)(a1:l.length<=cap)(bN:cap<=9223372036854775807)(ah:B<=w.heap.size)(hm:ai.ao w B A l)(bn:(R.size l).2=0):Calls Tryz.prog 180 #[.slice A l.length cap] w λe w'=>∃v,e=.returned v/\w'.ownsRow w.heap.size 3 1 v l.length (ints (R.steps l))/\Below w.heap.size w w':=by
 obtain⟨bU,z2,z3,z4,z5⟩:=R.aB bn;have bm:=qQ z2;have bv:l.length<=65536:=by omega
 have be:=qQ hm;have bg:=qQ (λW=>dz l.length bv W);obtain⟨W2,M⟩:=gz (((w.alloc (.cells #[.slice A l.length cap] 23)).alloc (.cells (ints (List.replicate l.length 0)).toArray 3)).alloc (.cells #[.slice (some ⟨w.heap.size+1,0,none⟩) l.length l.length] 23));have aC:Below w.heap.size w W2:=by rw[<-M];exact(((qK _ _).alloc (qX _) _).alloc (by simp) _).alloc (by simp;omega) _
 have aI:=qQ aC;have a9:W2.heap.size=w.heap.size+1+1+1:=by rw[<-M];simp
 have a0:av W2 w.heap.size 23 #[.slice A l.length cap]:=by rw[<-M];exact((av.new w _ _).alloc _).alloc _
 have aX:av W2 (w.heap.size+1) 3 (ints (List.replicate l.length 0)).toArray:=by rw[<-M];exact(ai.oD w _ _ _).alloc _
 have a6:av W2 (w.heap.size+1+1) 23 #[.slice (some ⟨w.heap.size+1,0,none⟩) l.length l.length]:=by rw[<-M];exact ai.J1 w _ _ _ _
 obtain⟨aL,aJ,aQ,bc,bk,E⟩:=fq a0 aX a6 (j3 0 A cap l B W2 (by omega) (hm.below (aC.mono ah))) M a9;clear z2 z3 hm M aC a9 a0 aX a6;refine(callsIn_wide (n:=6)).1 ?_;refine callsIn_of_wp_marks func180 rfl trivial ?_ rfl;refine wpIn_wide.2 ?_;simp only[ntmps180,jA,qH,zM,Nat.reduceAdd,Nat.reduceSub,yQ,yZ,yD,yY,vP,xH];have bw:=bg.q;go_wp2_with fail;rw[bk.q];clear bw;refine bc.q.mono ?_;rintro e ag ⟨rfl,rfl⟩;have bF:W2.cell? ⟨w.heap.size+1+1,0,none⟩=some (.slice (some ⟨w.heap.size+1,0,none⟩) l.length l.length):=aQ.q.cell 0;have d2:W2.cell? ⟨w.heap.size,0,none⟩=some (.slice A l.length cap):=aL.q.cell 0;have bG:w.heap.size<W2.heap.size:=by have:=E.q;omega
 have bH:w.heap.size+1+1<W2.heap.size:=by have:=E.q;omega
 by_cases V:(0:Int)∈l
 .rw[show decide ((0:Int)∈l)=true by simpa using V];have bl:=qQ V;clear V;go_wp2_with fail;refine⟨.slice (some ⟨w.heap.size+1,0,none⟩) l.length l.length,by simp[results,Tryz.f180,go_sem],_,rfl,?_,aI.q⟩;have bA:R.steps l=List.replicate l.length 0:=by
   apply jP
   .simp[R.bM]
   intro k bQ bR;rw[R.k_,qY bl.q];simp
  rw[bA];have h:=aJ.q;exact⟨by rw[cn,zP,zF],.inr ⟨w.heap.size+1,l.length,_,rfl,by omega,h,qX _,by unfold maxLen;omega,by simp[ints],by simp[ints]⟩⟩
 rw[show decide ((0:Int)∈l)=false by simpa using V];have a7:∀d∈l,1<=d:=λd ar=>by
  have:=bm.q d ar;have Y:d≠0:=λe=>V (e▸ar)
  omega
 have aq:=qQ a7;clear V a7;go_wp2_with fail;refine(callsIn_wide.1 (Bj Fence.wide 5 trivial rfl _ _ _ _)).mono ?_;rintro e bS ⟨rfl,rfl⟩;go_wp2_with fail;rw[E.q];obtain⟨bD,r⟩:=gz ((W2.alloc (.cells #[.int .i64 1] 3)).alloc (.cells #[.slice A l.length cap] 23));have bP:bD.heap.size=w.heap.size+1+1+1+1+1:=by rw[<-r];simp[E.q]
 have aF:Below w.heap.size w bD:=by rw[<-r];exact(aI.q.alloc (by omega) _).alloc (by simp;omega) _
 have aW:av bD (w.heap.size+1+1+1+1) 23 #[.slice A l.length cap]:=by
  rw[<-r];have h:=av.new (W2.alloc (.cells #[.int .i64 1] 3)) 23 #[.slice A l.length cap]
  rwa [show(W2.alloc (.cells #[.int .i64 1] 3)).heap.size=w.heap.size+1+1+1+1 by simp[E.q]]at h
 have aN:=qQ (show ai.DC bD.heap.size w A cap l B [] bD from by
  refine⟨qX _,yX _,rfl,?_,?_,?_,?_,be.q.below (aF.mono ah),aF⟩
  .rw[<-r];exact(aL.q.alloc _).alloc _
  .rw[<-r];have h:=(aJ.q.alloc (.cells #[.int .i64 1] 3)).alloc (.cells #[.slice A l.length cap] 23);rw[kQ (by rw[R.bM];simp),xM];exact h
  .rw[<-r];exact(aQ.q.alloc _).alloc _
  rw[<-r];have h:=(av.new W2 3 #[.int .i64 1]).alloc (.cells #[.slice A l.length cap] 23);rw[E.q]at h;simpa[R.prod]using h)
 have bx:(W2.alloc (.cells #[.int .i64 1] 3)).heap.size=w.heap.size+1+1+1+1:=by simp[E.q]
 rw[r];obtain⟨b,U,bB⟩:=x' Fence.wide 5 trivial rfl (by omega) (w.heap.size+1+1+1+1) A cap B l (by omega) bD (by omega) (by omega) (aW.cell 0) aN.q.ints;clear r aW aF bF d2 bx bG bH;refine(wpIn_wide (n:=6)).1 ?_;refine po 5 (λx:ai.hT l=>.int .i64 (x.1:Int)) (λx=>.int .i64 (l[x.1]'x.2)) rfl (by omega) (gf:=194) (lb:=#[.pointer (some ⟨w.heap.size+1+1+1+1,0,none⟩)]) rfl trivial (enters_of func194 (by kernel_rfl) rfl) bB
  (λY Z=>Y.trans Z) (λW y o l4 a1 bu _ _=>ai.eA.book (N:=bD.heap.size) (by omega) (by rcases U with rfl | U<;>omega) W y o l4 a1 bu) (qK _ _)
  (ai.DC bD.heap.size w A cap l B) (λ_ _ _=>False) (ai.DC.own ah (by omega)) (λ_ _ _ _ _ az _ _=>az) aN.q ?assign ?body ?done ?stop
 case assign =>
  intro y x W K Q;simp only[kI,kY,uY]at Q |-
  gi_wp2
  exact Q
 case body =>
  rintro y pre ⟨q,hq⟩ W i aH S;dsimp only at S |-;simp only[kI,kY,uY];have bt:=aq.q _ (qP hq);obtain⟨aR,aA,bh⟩:=aK (ai.KA aH S aq.q) (ai.IF aH S hq) (ai.tC (hq:=hq) i.order S);have a5:0<=R.prod (l.drop (l.length-pre.length))*l[q]/\R.prod (l.drop (l.length-pre.length))*l[q]<=65536:=by
   rw[<-aA.q];have dm:=R.eu (l.drop (l.length-(pre.length+1))) (λd ar=>aq.q d (jN ar));have a2:=R.eu (l.take (l.length-(pre.length+1))) (λd ar=>aq.q d (xN ar));have e:R.prod l=R.prod (l.take (l.length-(pre.length+1)))*R.prod (l.drop (l.length-(pre.length+1))):=by rw[<-R.prod_append,jU]
   have a3:=xU a2 (show 0<=R.prod (l.drop (l.length-(pre.length+1))) by omega);rw[vZ,<-e]at a3;omega
  obtain⟨X,ak,rfl,aC,aZ⟩:=i.ints (by omega);have aE:=aZ q hq;have Y:W.cell? ⟨w.heap.size,0,none⟩=some (.slice (some ⟨X,ak,none⟩) l.length cap):=i.I.cell 0;have Z:W.cell? ⟨w.heap.size+1+1+1,0,none⟩=some (.int .i64 (R.prod (l.drop (l.length-pre.length)))):=i.CB.cell 0;have bo:=i.CB.frozen 0;have aT:W.cell? ⟨w.heap.size+1+1,0,none⟩=some (.slice (some ⟨w.heap.size+1,0,none⟩) l.length l.length):=i.out.cell 0;have a4:(List.replicate (l.length-pre.length) (0:Int)++(R.steps l).drop (l.length-pre.length)).length=l.length:=by rw[qW,zP,qS,R.bM];omega
  have aD:∃bT,W.cell? ⟨w.heap.size+1,q,none⟩=some (.int .i64 bT):=by
   refine⟨(List.replicate (l.length-pre.length) (0:Int)++(R.steps l).drop (l.length-pre.length))[q]'(by omega),?_⟩;rw[i.cells.cell q];simpa using ints_at (List.replicate (l.length-pre.length) (0:Int)++(R.steps l).drop (l.length-pre.length)) q (by omega)
  obtain⟨bT,aD⟩:=aD;have bp:=i.cells.frozen q;have bL:w.heap.size+1+1+1<W.heap.size:=i.CB.lt;obtain⟨O,aP,bI,bJ⟩:=cV i i.CB a4 S;clear i aZ a4 S;generalize br:R.prod (l.drop (l.length-pre.length))=ap at aR aA a5 Z aP |-;generalize aU:l[q]=d at bt aA a5 aE |-;have i1:=b2 q;have i2:(q:Int)<(l.length:Int):=by omega
  have bO:IntKind.i64.wrap (ap*d)=ap*d:=qA _ (by omega);clear br aU
  gi_wp2_with fail
  obtain⟨j,m⟩:=gz (W.setCell ⟨w.heap.size+1,q,none⟩ (.int .i64 ap));rw[m];have g1:av j w.heap.size 23 #[.slice (some ⟨X,ak,none⟩) l.length cap]:=by rw[<-m];exact O.q.I.cR (p:=⟨w.heap.size+1,q,none⟩) (by first | (simp;done) | (simp;omega) | omega) _
  have g2:av j (w.heap.size+1+1+1) 3 #[.int .i64 ap]:=by rw[<-m];exact aP.q.cR (p:=⟨w.heap.size+1,q,none⟩) (by first | (simp;done) | (simp;omega) | omega) _
  have g3:av j (w.heap.size+1+1) 23 #[.slice (some ⟨w.heap.size+1,0,none⟩) l.length l.length]:=by rw[<-m];exact O.q.out.cR (p:=⟨w.heap.size+1,q,none⟩) (by first | (simp;done) | (simp;omega) | omega) _
  have g4:av j (w.heap.size+1) 3 (ints (List.replicate (l.length-(pre.length+1)) 0++(R.steps l).drop (l.length-(pre.length+1)))).toArray:=by
   rw[<-m,<-aR.q,<-ints_set];exact O.q.cells.bs q _
  have g5:Below w.heap.size W j:=by rw[<-m];exact(qK _ W).setCell (p:=⟨w.heap.size+1,q,none⟩) (by first | (simp;done) | (simp;omega) | omega) _
  have g6:ai.eA (w.heap.size+1+1+1+1) b W j:=by rw[<-m];exact ai.jv (by omega) (by rcases U with rfl | U<;>omega)
  have g7:KeepsFrom bD.heap.size W j:=by rw[<-m];exact ai.gu _ _ _
  have g8:j.cell? ⟨X,ak+q,none⟩=some (.int .i64 d):=(g5.cell (p:=⟨X,ak+q,none⟩) (by simp;omega)).trans aE;have a8:j.heap.size=W.heap.size:=by rw[<-m];simp
  have G:=qQ (qZ g1 (qZ g2 (qZ g3 (qZ g4 (qZ g5 (qZ g6 g7))))));have bj:=qQ a8;have aO:j.cell? ⟨w.heap.size,0,none⟩=some (.slice (some ⟨X,ak,none⟩) l.length cap):=g1.cell 0;have bz:j.cell? ⟨w.heap.size+1+1+1,0,none⟩=some (.int .i64 ap):=g2.cell 0;have bK:=g2.frozen 0;clear g1 g2 g3 g4 g5 g6 g7 Y Z aT aD aE bo bp m a8;refine fU 6 (by kernel_rfl) (by kernel_rfl) (by kernel_rfl) ?_;simp only[vS,yG,vT,vV]
  repeat still_step
  try refine wpStill_nil ?_
  change wpList _ _ _ _ _ j.drew;go_wp2_with fail;obtain⟨g1,g2,g3,g4,g5,g6,g7⟩:=G.q;have e:(pre++[(⟨q,hq⟩:ai.hT l)]).length=pre.length+1:=by simp
  refine⟨g7.trans ((ai.gu _ _ _).trans (ai.p6 _)),g6.trans (ai.eA.drew (ai.jv (by omega) (by rcases U with rfl | U<;>omega))),?_,by rw[e];exact aH,bh.q,(g1.cR (p:=⟨w.heap.size+1+1+1,0,none⟩) (by first | (simp;done) | (simp;omega) | omega) _).drew,?_,(g3.cR (p:=⟨w.heap.size+1+1+1,0,none⟩) (by first | (simp;done) | (simp;omega) | omega) _).drew,?_,O.q.ints.below ((g5.trans ((qK _ _).setCell (p:=⟨w.heap.size+1+1+1,0,none⟩) (by first | (simp;done) | (simp;omega) | omega) _).drew).mono ah),O.q.below.trans (g5.trans ((qK _ _).setCell (p:=⟨w.heap.size+1+1+1,0,none⟩) (by first | (simp;done) | (simp;omega) | omega) _).drew)⟩
  .have Y:=O.q.size;have Z:=bj.q;simp[World.drew];omega
  .rw[e];exact(g4.cR (p:=⟨w.heap.size+1+1+1,0,none⟩) (by first | (simp;done) | (simp;omega) | omega) _).drew
  rw[e,aA.q];exact(g2.bs 0 _).drew
 case done =>
  rintro D bf W aU a_ i Q;have bE:bf.length=l.length:=by have:=congrArg List.length a_;rwa [zJ,ai.n9]at this
  have bq:D<W.heap.size:=(Array.getElem?_eq_some_iff.1 Q).1;have aG:=i.cells;rw[bE,xB,qG,vP,vV]at aG;have aT:W.cell? ⟨w.heap.size+1+1,0,none⟩=some (.slice (some ⟨w.heap.size+1,0,none⟩) l.length l.length):=i.out.cell 0;obtain⟨a',bb,bd⟩:=aK i.below aG Q;clear i a_ aG Q;go_wp2_with fail;refine⟨by simp,.inl ⟨_,_,rfl,run_takeDeferred bd.q,?_⟩⟩;have aV:Below D W (W.putObj D (.deferred none)):=(qK D W).grown (grownBy_putObj' W D (.deferred none)) (zG bq) (λk e=>by cases e;exact qX _);refine⟨.slice (some ⟨w.heap.size+1,0,none⟩) l.length l.length,by simp[results,Tryz.f180,go_sem],_,rfl,?_,a'.q.trans (aV.mono (by omega))⟩;have h:=bb.q.below aV (by omega);exact⟨by rw[cn,R.bM,zF],.inr ⟨w.heap.size+1,l.length,_,rfl,by omega,h,qX _,by unfold maxLen;omega,by simp[ints,R.bM],by rw[zF];exact qT (by simp[ints,R.bM])⟩⟩
 case stop =>
  rintro D c pre W _ _ h _;exact h.elim
theorem _root_.VZ{G:Prop}(r:bm)(f:dS bm->G:=by
 intro bb;have ek:aC.cell? ⟨w.heap.size,0,none⟩=some (.int .i64 0):=ku.cell 0;have en:aC.cell? ⟨w.heap.size,1,none⟩=some (.slice none 0 0):=ku.cell 1;have eo:aC.cell? ⟨w.heap.size,2,none⟩=some (.slice none 0 0):=ku.cell 2;have f0:=ku.frozen 0;have f1:=ku.frozen 1;have f2:=ku.frozen 2;revert ek en eo f0 f1 f2;exact bb.o
 ):G:=f ⟨r⟩
theorem _root_.VC{G:Prop}(r:bm)(f:dS bm->G:=by
 intro bb;have Il:ai.b5 l=.tuple #[.int .i64 (R.size l).1,.int .i64 0]:=by unfold ai.b5;rw[eR]
 have g_:=qQ Il;have iG:R.whole l=(⟨0,l,R.steps l⟩,0):=by unfold R.whole;rw[qV (by simp[eR])]
 have bR:=qQ iG;revert Il g_ iG bR;exact bb.o
 ):G:=f ⟨r⟩
theorem DF(DA:Option Addr)(i:Nat)(l:List Int)(B:Nat)(w:World)(ah:B<=w.heap.size)(D:ai.ao w B DA l)(md:l.length<=i)(aN:i<=9223372036854775807):Calls Tryz.prog 157 #[.slice DA l.length i] w λe w'=>ai.fb B w w' (R.whole l) e/\Below w.heap.size w w':=by
 have m:=qQ ((qK w.heap.size w).alloc (qX _) (.cells #[.int .i64 0,.slice none 0 0,.slice none 0 0] 159));have U:=av.new w 159 #[.int .i64 0,.slice none 0 0,.slice none 0 0];have ap:=qQ (er DA i l B _ (by omega) (D.below (m.q.mono ah)));by_cases eR:(R.size l).2=0
 .refine VC ?_;intro Il g_ iG bR;have aO:=(R.aB eR).1;obtain⟨aH,aL,aq⟩:=aK (eM DA i l B _ (by omega) (D.below (m.q.mono ah)) (qJ ah m.q.size)) (λ(W:World) (aD:Below w.heap.size w W)=>z6 DA i l B W md aN (qJ ah aD.size) (D.below (aD.mono ah)) eR) U;clear Il eR iG D U;go_enter func157,ntmps157;go_wp2_with fail;refine ap.q.mono ?_;rintro e ag ⟨rfl,rfl⟩;rw[g_.q];go_wp2_with fail;refine aH.q.mono ?_;rintro e ag ⟨v1,rfl,j,I⟩;obtain⟨Y,m1,rfl,aP⟩:=ai.aZ j;obtain⟨ak,az,aJ⟩:=aK (aA m.q I) (aq.q.below I aq.q.lt) j;have aT:w.heap.size+1<=ag.heap.size:=by have:=I.size;simpa using this
  clear j I;go_wp2_with fail;refine(aL.q _ ak.q).mono ?_;rintro e aC ⟨v2,rfl,V,y⟩;obtain⟨Z,m2,rfl,aR⟩:=ai.aZ V;have ku:=az.q.below y az.q.lt;have j:=ai.hc aJ.q y;obtain⟨aQ,bJ,aE,M,O,Q,r⟩:=ai.df j;have X:=V;rw[<-R.bM l]at X;obtain⟨bt,bn,aF,N,E,S,x⟩:=ai.df X;simp only[xO]at aE aF;obtain⟨rfl,_,rfl⟩:=aE;obtain⟨rfl,_,rfl⟩:=aF;have aI:=qQ (qZ M (qZ O (qZ Q (qZ r (qZ N (qZ E (qZ S x)))))));have aG:=qQ (aA ak.q y);have aU:ag.heap.size<=aC.heap.size:=y.size;refine VZ ?_;intro ek en eo f0 f1 f2;clear j V X y ku M O Q r N E S x;go_wp2_with fail;obtain⟨M,O,Q,r,N,E,S,x⟩:=aI.q;refine qR (v:=.tuple #[.agg #[.int .i64 0,.slice Y l.length m1,.slice Z l.length m2],.int .i64 0]) (by simp[results,results157,go_sem,ek,en,eo]) rfl ⟨?_,ai.three aG.q (qX _) _ _ _⟩;rw[bR.q];rw[R.bM]at E;refine ai.kf ⟨Y,m1,Z,m2,by simp[R.bM],?_,?_,O,Q,by simpa[R.bM]using E,S⟩ ?_ ?_
  .exact(M.hj (λb off e hp=>by have:=r b off e hp;simp at this;omega) _ _ _).up (by simp)
  .exact(N.hj (λb off e hp=>by have:=x b off e hp;omega) _ _ _).up (by simp)
  .exact λb off e hp=>by have:=r b off e hp;simp at this;omega
  exact λb off e hp=>by have:=x b off e hp;omega
 have bR:=qQ (show R.whole l=(R.none_,(R.size l).2)from qY eR);have hq:((R.size l).2 != 0)=true:=by simpa using eR
 clear eR D U;go_enter func157,ntmps157;go_wp2_with fail;refine ap.q.mono ?_;rintro e ag ⟨rfl,rfl⟩;simp only[ai.b5];go_wp2_with fail;refine qR (v:=.tuple #[.agg #[.int .i64 0,.slice none 0 0,.slice none 0 0],.int .i64 (R.size l).2]) (by simp[results,results157,go_sem]) rfl ⟨?_,m.q⟩;exact JZ
end Go.Proofs.YtabmnaaidfpmcaaGreatDoor
end
section
namespace Go.Proofs.YtabmnaaidfpmcaaGreatDoor
open Go.RowKit aS
theorem _root_.QU{G:Prop}(h:G:=by
 obtain⟨rr,dM,KN,kc,rfl,Ef,HD,HG,HI,HH,HJ⟩:=rP;have D7:=pb _ _ _ _ _ _ _ rfl;have Mf:=qQ (show ai.cm aw aw.heap.size (.agg #[.int .i64 bm.1.st,.slice rr bm.1.I.length dM,.slice KN bm.1.s.length kc]) bm.1 from⟨rr,dM,KN,kc,rfl,Ef,HD,HG,HI,HH,HJ⟩);have ko:=qQ D7;have mO:=og.q.below ht og.q.lt;have ek:aw.cell? ⟨w.heap.size+1,0,none⟩=some (.int .i64 0):=mO.cell 0;have en:aw.cell? ⟨w.heap.size+1,1,none⟩=some (.slice none 0 0):=mO.cell 1;have eo:aw.cell? ⟨w.heap.size+1,2,none⟩=some (.slice none 0 0):=mO.cell 2;have f0:=mO.frozen 0;have f1:=mO.frozen 1;have f2:=mO.frozen 2;have c4:=qQ (aA eN.q ht);clear Ef HD HG HI HH HJ pb D7 ht mO gQ fp b' ca cl ct z0 oc z2;go_wp2_with fail;refine qR (v:=.tuple #[.agg #[.int .i64 bm.1.st,.slice rr bm.1.I.length dM,.slice KN bm.1.s.length kc],.int .i64 bm.2]) (by simp[results,results127,go_sem,ek,en,eo]) rfl ⟨?_,ai.three c4.q (by omega) _ _ _⟩;rw[j5.q];refine⟨_,rfl,ai.q1 Mf.q (cc:=w.heap.size+1) rfl (λb off e hp=>by have:=ko.q.1 b off e hp;omega) (λb off e hp=>by have:=ko.q.2 b off e hp;omega) (by simp) _ _ _,?_⟩;intro st MH MT MP MI MU MQ p1;simp only[yC,kV,zT,xO,xD]at p1;obtain⟨_,⟨rfl,_,_⟩,rfl,_,_⟩:=p1;exact⟨λb off e hp=>by have:=ko.q.1 b off e hp;omega,λb off e hp=>by have:=ko.q.2 b off e hp;omega⟩
 ):G:=h
theorem af.sy(val:Value)(op:J.Op)(A:Option Addr)(aP:Nat)(d:List Int)(B:Nat)(w:World)(ah:B<=w.heap.size)(bF:af.bd w B val op)(bS:ai.ao w B A d)(md:d.length<=aP)(bM:aP<=9223372036854775807):Calls Tryz.prog 127 #[val,.slice A d.length aP] w λe w'=>ai.fb 0 w w' (aj.ff op d) e/\Below w.heap.size w w':=by
 obtain⟨v1,v2,v3,v4,v5,rfl,⟨D,cD,rfl,bl,bq,bt⟩,⟨T,aD,rfl,it,lt,mt⟩,⟨O,co,rfl,io,lo,bv⟩,⟨b1,ci,rfl,ii,li,bu⟩,⟨S,cs,rfl,is,ls,ms⟩⟩:=bF;obtain⟨a6,a7,aZ,aT⟩:=cV (λW (y:Below w.heap.size w W)=>qZ ((bl.below (y.mono ah)).up (qJ ah y.size)) (qZ ((it.below (y.mono ah)).up (qJ ah y.size)) (qZ ((io.below (y.mono ah)).up (qJ ah y.size)) (qZ ((ii.below (y.mono ah)).up (qJ ah y.size)) ((is.below (y.mono ah)).up (qJ ah y.size)))))) (show(op.I.length<=cD/\cD<=9223372036854775807)/\(op.a.length<=aD/\aD<=9223372036854775807)/\(op.l.length<=co/\co<=9223372036854775807)/\(op.h.length<=ci/\ci<=9223372036854775807)/\(op.s.length<=cs/\cs<=9223372036854775807)from⟨⟨bq,bt⟩,⟨lt,mt⟩,⟨lo,bv⟩,⟨li,bu⟩,ls,ms⟩) (av.new w 58 #[.int .i64 op.k,.slice D op.I.length cD,.slice T op.a.length aD,.slice O op.l.length co,.slice b1 op.h.length ci,.slice S op.s.length cs,.int .i64 op.v]) ((qK w.heap.size w).alloc (qX _) (.cells #[.int .i64 op.k,.slice D op.I.length cD,.slice T op.a.length aD,.slice O op.l.length co,.slice b1 op.h.length ci,.slice S op.s.length cs,.int .i64 op.v] 58));obtain⟨ak,bj⟩:=gz (w.alloc (.cells #[.int .i64 op.k,.slice D op.I.length cD,.slice T op.a.length aD,.slice O op.l.length co,.slice b1 op.h.length ci,.slice S op.s.length cs,.int .i64 op.v] 58));have bK:ak.heap.size=w.heap.size+1:=by rw[<-bj];simp
 rw[bj]at aZ aT;have aN:=qQ (av.new ak 159 #[.int .i64 0,.slice none 0 0,.slice none 0 0]);have aX:=qQ ((qK ak.heap.size ak).alloc (qX _) (.cells #[.int .i64 0,.slice none 0 0,.slice none 0 0] 159));have aV:=qQ (aT.q.trans (aX.q.mono aT.q.size));have a0:=qQ (aZ.q.below aX.q aZ.q.lt);have bk:(ak.alloc (.cells #[.int .i64 0,.slice none 0 0,.slice none 0 0] 159)).heap.size=w.heap.size+2:=by simp;omega
 obtain⟨ww,bI⟩:=gz (ak.alloc (.cells #[.int .i64 0,.slice none 0 0,.slice none 0 0] 159));rw[bK]at aN;rw[bI]at aN aX aV a0 bk;have bB:=qQ (DF A aP d B ww (by omega) (bS.below (aV.q.mono ah)) md bM);clear bl it io ii is bq bt lt mt lo bv li bu ls ms bS;go_enter func127,ntmps127;go_wp2_with fail
 ((with_reducible refine bB.q.mono ?_);rintro e ag ⟨⟨bX,rfl,bH,bE⟩,aL⟩)
 obtain⟨r,bJ,W2,bn,rfl,bo,bp,br,bw,bs,bx⟩:=bH;obtain⟨aH,aU,bD,aW⟩:=cV (show ai.cm ag ag.heap.size (.agg #[.int .i64 (R.whole d).1.st,.slice r (R.whole d).1.I.length bJ,.slice W2 (R.whole d).1.s.length bn]) (R.whole d).1 from⟨r,bJ,W2,bn,rfl,bo,bp,br,bw,bs,bx⟩) (aA aV.q aL) (a0.q.below aL a0.q.lt) (aN.q.below aL aN.q.lt);have bR:w.heap.size+2<=ag.heap.size:=by rw[<-bk];exact aL.size
 clear bo bp br bw bs bx bE aL;by_cases Q:(R.size d).2=0
 .have aB:=qQ Q;have bg:=(aj.o2 Q).2;rw[bg];clear Q bg;obtain⟨m,a1⟩:=gz ((R.whole d).1);rw[a1]at aH |-;obtain⟨bP,bQ⟩:∃X:Value,X=.agg #[.int .i64 m.st,.slice r m.I.length bJ,.slice W2 m.s.length bn]:=⟨_,rfl⟩;have aE:=qQ ((qK ag.heap.size ag).alloc (qX _) (.cells #[.int .i64 m.st,.slice r m.I.length bJ,.slice W2 m.s.length bn] 159));have M:=bD.q.alloc (.cells #[.int .i64 m.st,.slice r m.I.length bJ,.slice W2 m.s.length bn] 159);have aF:=av.new ag 159 #[.int .i64 m.st,.slice r m.I.length bJ,.slice W2 m.s.length bn];have bG:(ag.alloc (.cells #[.int .i64 m.st,.slice r m.I.length bJ,.slice W2 m.s.length bn] 159)).heap.size=ag.heap.size+1:=by simp
  obtain⟨aC,aQ⟩:=gz (ag.alloc (.cells #[.int .i64 m.st,.slice r m.I.length bJ,.slice W2 m.s.length bn] 159));rw[aQ]at aE bG M aF;obtain⟨eN,og,aI⟩:=aK (aU.q.trans (aE.q.mono aU.q.size)) (aW.q.below aE.q aW.q.lt) ((aH.q.below aE.q).up aE.q.size);obtain⟨j0,aO,a8,a_,a'⟩:=a6.q aC eN.q;obtain⟨⟨dm,a2⟩,⟨a3,a4⟩,⟨a5,bc⟩,⟨be,bf⟩,a9,bb⟩:=a7.q;have gQ:aC.cell? ⟨w.heap.size,0,none⟩=some (.int .i64 op.k):=M.cell 0;have fp:aC.cell? ⟨w.heap.size,1,none⟩=some (.slice D op.I.length cD):=M.cell 1;have b':aC.cell? ⟨w.heap.size,2,none⟩=some (.slice T op.a.length aD):=M.cell 2;have ca:aC.cell? ⟨w.heap.size,3,none⟩=some (.slice O op.l.length co):=M.cell 3;have cl:aC.cell? ⟨w.heap.size,4,none⟩=some (.slice b1 op.h.length ci):=M.cell 4;have ct:aC.cell? ⟨w.heap.size,5,none⟩=some (.slice S op.s.length cs):=M.cell 5;have z0:aC.cell? ⟨ag.heap.size,0,none⟩=some (.int .i64 m.st):=aF.cell 0;have oc:aC.cell? ⟨ag.heap.size,1,none⟩=some (.slice r m.I.length bJ):=aF.cell 1;have z2:aC.cell? ⟨ag.heap.size,2,none⟩=some (.slice W2 m.s.length bn):=aF.cell 2;rw[<-aQ]at gQ fp b' ca cl ct z0 oc z2;clear M aF;have aJ:=qQ aQ;clear aQ;obtain⟨aq,V,Y,Z,ap,aG⟩:=fq (Ca _ m D T cD aD op.I op.a aC.heap.size aC (qX _) aI.q j0 aO dm a2 a3 a4) (FH _ m T aD op.a aC.heap.size aC (qX _) aI.q aO a3 a4) (B_ _ m D cD op.I aC.heap.size aC (qX _) aI.q j0 dm a2) (HN _ m O b1 S co ci cs op.l op.h op.s aC.heap.size aC (qX _) aI.q a8 a_ a' a5 bc be bf a9 bb) (FC _ m T aD op.a aC.heap.size aC (qX _) aI.q aO a3 a4) a1;clear j0 aO a8 a_ a' dm a2 a3 a4 a5 bc be bf a9 bb a1 a6 a7;by_cases E:op.k=9
  .have j5:=qQ (show aj.ff op d=(R.spread m op.I op.a) by rw[<-aG.q];unfold aj.ff;rw[qV (by simp[aB.q])];simp[E]);rw[E]at gQ;clear E V Y Z ap;obtain⟨bm,x⟩:=gz ((R.spread m op.I op.a));rw[x]at j5 aq;clear x;go_wp2_with fail;rw[aJ.q]
   ((with_reducible refine aq.q.mono ?_);rintro e aw ⟨⟨aR,rfl,rP,pb⟩,ht⟩)
   exact QU
  by_cases N:op.k=11
  .have j5:=qQ (show aj.ff op d=(R.turn m op.a) by rw[<-aG.q];unfold aj.ff;rw[qV (by simp[aB.q])];simp[N]);rw[N]at gQ;clear E N aq Y Z ap;obtain⟨bm,x⟩:=gz ((R.turn m op.a));rw[x]at j5 V;clear x;go_wp2_with fail;rw[aJ.q]
   ((with_reducible refine V.q.mono ?_);rintro e aw ⟨⟨aR,rfl,rP,pb⟩,ht⟩)
   exact QU
  by_cases U:op.k=12
  .have j5:=qQ (show aj.ff op d=(R.ez m op.I) by rw[<-aG.q];unfold aj.ff;rw[qV (by simp[aB.q])];simp[U]);rw[U]at gQ;clear E N U aq V Z ap;obtain⟨bm,x⟩:=gz ((R.ez m op.I));rw[x]at j5 Y;clear x;go_wp2_with fail;rw[aJ.q]
   ((with_reducible refine Y.q.mono ?_);rintro e aw ⟨⟨aR,rfl,rP,pb⟩,ht⟩)
   exact QU
  by_cases az:op.k=13
  .have j5:=qQ (show aj.ff op d=(R.cut m op.l op.h op.s) by rw[<-aG.q];unfold aj.ff;rw[qV (by simp[aB.q])];simp[az]);rw[az]at gQ;clear E N U az aq V Y ap;obtain⟨bm,x⟩:=gz ((R.cut m op.l op.h op.s));rw[x]at j5 Z;clear x;go_wp2_with fail;rw[aJ.q]
   ((with_reducible refine Z.q.mono ?_);rintro e aw ⟨⟨aR,rfl,rP,pb⟩,ht⟩)
   exact QU
  have bW:(op.k == 9)=false:=by simpa using E
  have bT:(op.k == 11)=false:=by simpa using N
  have bU:(op.k == 12)=false:=by simpa using U
  have bV:(op.k == 13)=false:=by simpa using az
  have j5:=qQ (show aj.ff op d=R.flip m op.a by unfold aj.ff;rw[qV (by simp[aB.q]),qV E,qV N,qV U,qV az,aG.q]);clear E N U az aq V Y Z;obtain⟨bm,x⟩:=gz ((R.flip m op.a));rw[x]at j5 ap;clear x;go_wp2_with fail;rw[aJ.q]
  ((with_reducible refine ap.q.mono ?_);rintro e aw ⟨⟨aR,rfl,rP,pb⟩,ht⟩)
  exact QU
 have bA:=qQ (show aj.ff op d=(R.none_,(R.size d).2)from qY Q);have hq:((R.size d).2 != 0)=true:=by simpa using Q
 have hw:R.whole d=(R.none_,(R.size d).2):=qY Q;rw[hw]at aH |-;simp only[show R.none_.st=0 from rfl,show R.none_.I.length=0 from rfl,show R.none_.s.length=0 from rfl];simp only[show R.none_.st=0 from rfl,show R.none_.I.length=0 from rfl,show R.none_.s.length=0 from rfl]at aH;clear Q hw;have og:=aW.q.alloc (.cells #[.int .i64 0,.slice r 0 bJ,.slice W2 0 bn] 159);have bz:=qQ (aU.q.alloc (by omega) (.cells #[.int .i64 0,.slice r 0 bJ,.slice W2 0 bn] 159));have ek:(ag.alloc (.cells #[.int .i64 0,.slice r 0 bJ,.slice W2 0 bn] 159)).cell? ⟨w.heap.size+1,0,none⟩=some (.int .i64 0):=og.cell 0;have en:(ag.alloc (.cells #[.int .i64 0,.slice r 0 bJ,.slice W2 0 bn] 159)).cell? ⟨w.heap.size+1,1,none⟩=some (.slice none 0 0):=og.cell 1;have eo:(ag.alloc (.cells #[.int .i64 0,.slice r 0 bJ,.slice W2 0 bn] 159)).cell? ⟨w.heap.size+1,2,none⟩=some (.slice none 0 0):=og.cell 2;have f0:=og.frozen 0;have f1:=og.frozen 1;have f2:=og.frozen 2;clear og;go_wp2_with fail;refine qR (v:=.tuple #[.agg #[.int .i64 0,.slice r 0 bJ,.slice W2 0 bn],.int .i64 (R.size d).2]) (by simp[results,results127,go_sem,ek,en,eo]) rfl ⟨?_,ai.three bz.q (by omega) _ _ _⟩;rw[bA.q];obtain⟨bN,dM,bO,kc,bh,i1,i2,cW,cX,rz,bL⟩:=aH.q;simp only[yC,kV,zT,xO,xD]at bh;obtain⟨_,⟨rfl,_,rfl⟩,rfl,_,rfl⟩:=bh;exact⟨_,rfl,⟨r,bJ,W2,bn,rfl,λh=>by simp[R.none_]at h,λh=>by simp[R.none_]at h,by simp[R.none_],cX,by simp[R.none_],bL⟩,λst MH MT MP MI MU MQ _=>⟨λb off _ h=>by simp[R.none_]at h,λb off _ h=>by simp[R.none_]at h⟩⟩
end Go.Proofs.YtabmnaaidfpmcaaGreatDoor
end
section
namespace Go.Proofs.YtabmnaaidfpmcaaGreatDoor.aj
open J
open R (size)
def tail(r:List Int × Int):List Int × Int:=if r.2≠0 then([],r.2)else if (size r.1).2≠0 then([],(size r.1).2)else(r.1,0)
theorem gl(h:(size l).2≠0):tail (l,0)=([],(size l).2):=by unfold tail;rw[qV (by simp),qY h]
theorem ir(h:(size l).2=0):tail (l,0)=(l,0):=by unfold tail;rw[qV (by simp),qV (by simp[h])]
theorem m'{r:List Int × Int}(h:r.2≠0):tail r=([],r.2):=qY h
theorem hV{op:J.Op}{args:List (List Int)}(h:cf op args≠0):J.I op args=([],cf op args):=by
 unfold cf at h |-;unfold J.I;by_cases i:right op.k args.length≠0
 .rw[qY i,qY i]
 rw[qV i]at h;rw[qV i,qV i,qY h]
theorem sk{op:J.Op}{args:List (List Int)}(h:cf op args=0):right op.k args.length=0/\sizes args=0:=by
 unfold cf at h;by_cases i:right op.k args.length≠0
 .rw[qY i]at h;exact absurd h i
 rw[qV i]at h;exact⟨by omega,h⟩
theorem fz{op:J.Op}{args:List (List Int)}(h:cf op args=0):J.I op args=tail (aP op args):=by
 obtain⟨i,j⟩:=sk h;unfold J.I;rw[qV (by simp[i]),qV (by simp[j])];rfl
theorem wx:∀{args:List (List Int)},sizes args=0->∀d∈args,(size d).2=0
 | [],_,d,ar=>by cases ar
 | a::r,h,d,ar=>by
  have i:(if (size a).2≠0 then(size a).2 else sizes r)=0:=h;by_cases j:(size a).2≠0
  .rw[qY j]at i;exact absurd i j
  rw[qV j]at i;rcases List.mem_cons.1 ar with e | e
  .subst e;omega
  exact wx i d e
theorem fA{op:J.Op}{args:List (List Int)}(h:cf op args=0):∀d∈args,(size d).2=0:=wx (sk h).2
end Go.Proofs.YtabmnaaidfpmcaaGreatDoor.aj
namespace Go.Proofs.YtabmnaaidfpmcaaGreatDoor
open Go.RowKit aS
namespace af
def gF(w w':World)(r:List Int × Int)(e:Ending):Prop:=(∃v,e=.returned (.tuple #[v,.int .i64 r.2])/\dZ w.heap.size w' v r.1)/\Below w.heap.size w w'
def cJ(op:J.Op):Prop:=op.I.length<=4194304/\op.l.length<=4194304/\op.a.length<=4194304/\op.h.length<=4194304/\op.s.length<=4194304
end af
theorem _root_.ZI{G:Prop}(h:G:=by
 clear eU;go_wp2_with fail;refine gH.q.mono ?_;rintro e dX ⟨rfl,rfl⟩;simp only[ai.b5];go_wp2_with fail
 go_ret2
 rw[br.q];exact⟨⟨_,rfl,af.dZ.nil _ _⟩,eN.q⟩
 ):G:=h
theorem _root_.Zz{G:Prop}(h:G:=by
 clear eU;go_wp2_with fail;refine gH.q.mono ?_;rintro e dX ⟨rfl,rfl⟩;simp only[ai.b5];go_wp2_with fail
 go_ret2
 rw[br.q];exact⟨⟨_,rfl,iz.q⟩,eN.q⟩
 ):G:=h
theorem _root_.XH{G:Prop}(h:G:=by
 clear eG e0 fv;go_wp2_with fail
 go_ret2
 rw[br.q];exact⟨⟨_,rfl,af.dZ.nil _ _⟩,bU.q⟩
 ):G:=h
theorem _root_.JC{G:Prop}(r:bm)(f:dS bm->G:=by
 intro bb;obtain⟨mh,cd,bp⟩:=aK (λW (aE:Below w.heap.size w W)=>qZ ((tu.below (aE.mono ah)).up (qJ ah aE.size)) (qZ ((it.below (aE.mono ah)).up (qJ ah aE.size)) (qZ ((io.below (aE.mono ah)).up (qJ ah aE.size)) (qZ ((ii.below (aE.mono ah)).up (qJ ah aE.size)) ((is.below (aE.mono ah)).up (qJ ah aE.size)))))) (av.new w 58 #[.int .i64 op.k,.slice D op.I.length cD,.slice T op.a.length aD,.slice O op.l.length co,.slice b1 op.h.length ci,.slice S op.s.length cs,.int .i64 op.v]) ((qK w.heap.size w).alloc (qX _) (.cells #[.int .i64 op.k,.slice D op.I.length cD,.slice T op.a.length aD,.slice O op.l.length co,.slice b1 op.h.length ci,.slice S op.s.length cs,.int .i64 op.v] 58));have hv:(w.alloc (.cells #[.int .i64 op.k,.slice D op.I.length cD,.slice T op.a.length aD,.slice O op.l.length co,.slice b1 op.h.length ci,.slice S op.s.length cs,.int .i64 op.v] 58)).heap.size=w.heap.size+1:=by simp
 obtain⟨ak,cI⟩:=gz (w.alloc (.cells #[.int .i64 op.k,.slice D op.I.length cD,.slice T op.a.length aD,.slice O op.l.length co,.slice b1 op.h.length ci,.slice S op.s.length cs,.int .i64 op.v] 58));revert mh cd bp hv ak cI;exact bb.o
 ):G:=f ⟨r⟩
theorem _root_.JA{G:Prop}(r:bm)(f:dS bm->G:=by
 intro bb;have eT:ak.cell? ⟨w.heap.size,1,none⟩=some (.slice D op.I.length cD):=cd.q.cell 1;have dT:ak.cell? ⟨w.heap.size,2,none⟩=some (.slice T op.a.length aD):=cd.q.cell 2;have bA:ak.cell? ⟨w.heap.size,3,none⟩=some (.slice O op.l.length co):=cd.q.cell 3;have cq:ak.cell? ⟨w.heap.size,4,none⟩=some (.slice b1 op.h.length ci):=cd.q.cell 4;have eC:ak.cell? ⟨w.heap.size,5,none⟩=some (.slice S op.s.length cs):=cd.q.cell 5;have e2:ak.cell? ⟨w.heap.size,6,none⟩=some (.int .i64 op.v):=cd.q.cell 6;go_enter func90,ntmps90;revert eT dT bA cq eC e2;exact bb.o
 ):G:=f ⟨r⟩
theorem _root_.JI{G:Prop}(r:bm)(f:dS bm->G:=by
 intro bb;have fp:ag.cell? ⟨w.heap.size,1,none⟩=some (.slice D op.I.length cD):=fZ.q.cell 1;have b':ag.cell? ⟨w.heap.size,2,none⟩=some (.slice T op.a.length aD):=fZ.q.cell 2;have ca:ag.cell? ⟨w.heap.size,3,none⟩=some (.slice O op.l.length co):=fZ.q.cell 3;have cl:ag.cell? ⟨w.heap.size,4,none⟩=some (.slice b1 op.h.length ci):=fZ.q.cell 4;have ct:ag.cell? ⟨w.heap.size,5,none⟩=some (.slice S op.s.length cs):=fZ.q.cell 5;have c3:ag.cell? ⟨w.heap.size,6,none⟩=some (.int .i64 op.v):=fZ.q.cell 6;revert fp b' ca cl ct c3;exact bb.o
 ):G:=f ⟨r⟩
theorem _root_.VP{G:Prop}(r:bm)(f:dS bm->G:=by
 intro bb
 ((with_reducible refine cb.q.mono ?_);rintro e ag ⟨rfl,bV⟩)
 have bU:=qQ (aA bp.q bV);have fZ:=qQ (cd.q.below bV cd.q.lt);have fm:w.heap.size+1<=ag.heap.size:=by rw[<-hv];exact bV.size
 clear bV;revert ag bU fZ fm;exact bb.o
 ):G:=f ⟨r⟩
theorem af.nt(val:Value)(op:J.Op)(A:Option Addr)(cap:Nat)(B:Nat)(w:World)(ah:B<=w.heap.size)(Z:af.cJ op)(M:af.bd w B val op)(x:af.bu w B A [])(E:op.k=2):Calls Tryz.prog 90 #[val,.slice A 0 cap] w λe w'=>af.gF w w' (J.I op []) e:=by
 have m:=qQ (M.bI ah);have U:=qQ (x.bI ah);obtain⟨v1,v2,v3,v4,v5,rfl,⟨D,cD,rfl,tu,Q,az⟩,⟨T,aD,rfl,it,lt,mt⟩,⟨O,co,rfl,io,lo,aF⟩,⟨b1,ci,rfl,ii,li,aB⟩,⟨S,cs,rfl,is,ls,ms⟩⟩:=M;refine JC ?_;intro mh cd bp hv ak cI;rw[cI]at cd bp hv;obtain⟨cb,ao,e0,fv⟩:=cV (af.fK _ op _ cap ([]:List (List Int)) ak.heap.size ak (qX _) (by first | omega | simp) (m.q ak bp.q) (U.q ak bp.q)) (show op.I.length<=cD/\op.a.length<=aD/\op.l.length<=co/\op.h.length<=ci/\op.s.length<=cs from⟨Q,lt,lo,li,ls⟩) (λh=>aj.fz (op:=op) (args:=([]:List (List Int))) h) (λh=>aj.fA (op:=op) (args:=([]:List (List Int))) h);clear tu it io ii is Q lt lo li ls x;simp only[zM]at cb;rw[E]at cd cb m cI |-;have b0:ak.cell? ⟨w.heap.size,0,none⟩=some (.int .i64 2):=cd.q.cell 0;refine JA ?_;intro eT dT bA cq eC e2;go_wp2_with fail;refine VP ?_;intro ag bU fZ fm;clear cb cI b0 eT dT bA cq eC e2;by_cases eG:aj.cf op ([]:List (List Int))≠0
 .have br:=qQ (aj.hV eG);have hq:(aj.cf op ([]:List (List Int)) != 0)=true:=by simpa using eG
  generalize aj.cf op ([]:List (List Int))=f at hq br eG;exact XH
 have i:aj.cf op ([]:List (List Int))=0:=by omega
 have X:=qQ (e0.q i);have ap:=qQ (fv.q i);rw[i];have aG:ag.cell? ⟨w.heap.size,0,none⟩=some (.int .i64 2):=fZ.q.cell 0;refine JI ?_;intro fp b' ca cl ct c3;clear eG i e0 fv;have V:=qQ (eM D cD op.I ag.heap.size ag (by have:=Z.1;omega) (mh.q ag bU.q).1 (qX _));go_wp2_with fail
 ((with_reducible refine V.q.mono ?_);rintro e aC ⟨v,rfl,j,y⟩)
 have eN:=qQ (aA bU.q y);have iz:=qQ (af.lH (N:=w.heap.size) j (by omega));obtain⟨bt,bz,rfl,i2,cX,m2⟩:=af.b3 j;clear j y;have r:=qQ (show J.I op ([]:List (List Int))=aj.tail (op.I,0)from by rw[X.q,(show J.aP op []=(op.I,0) by unfold J.aP;rw[qY E])]);have gH:=qQ (er bt bz op.I aC.heap.size aC (by omega) i2);by_cases eU:(R.size op.I).2≠0
 .have Y:((R.size op.I).2 != 0)=true:=by simpa using eU
  have br:=qQ (show J.I op ([]:List (List Int))=([],(R.size op.I).2) by rw[r.q];exact aj.gl eU);exact ZI
 have Y:((R.size op.I).2 != 0)=false:=by simpa using eU
 have br:=qQ (show J.I op ([]:List (List Int))=(op.I,0) by rw[r.q];exact aj.ir (by omega));have aq:(R.size op.I).2=0:=by omega
 exact Zz
theorem _root_.ZV{G:Prop}(h:G:=by
 have br:=qQ (aj.hV eG);have hq:(aj.cf op args != 0)=true:=by simpa using eG
 generalize aj.cf op args=f at hq br eG;clear eG e0 fv;go_wp2_with fail
 go_ret2
 rw[br.q];exact⟨⟨_,rfl,af.dZ.nil _ _⟩,bU.q⟩
 ):G:=h
theorem _root_.Xj{G:Prop}(h:G:=by
 go_wp2_with fail
 go_ret2
 rw[br.q];exact⟨⟨_,rfl,af.dZ.nil _ _⟩,Ds.q⟩
 ):G:=h
theorem af.js(val:Value)(op:J.Op)(A:Option Addr)(cap:Nat)(args:List (List Int))(B:Nat)(w:World)(ah:B<=w.heap.size)(bZ:af.cJ op)(bF:2<=args.length)(bD:args.length<=cap)(bQ:cap<=9223372036854775807)(a9:af.bd w B val op)(aH:af.bu w B A args)(K:Int)(bx:K=3\/K=4\/K=5\/K=6\/K=7\/K=8)(a5:op.k=K):Calls Tryz.prog 90 #[val,.slice A args.length cap] w λe w'=>af.gF w w' (J.I op args) e:=by
 rcases bx with rfl | rfl | rfl | rfl | rfl | rfl
 all_goals
  obtain⟨n,a7⟩:=gz args.length;have bB:=aH;obtain⟨b,off,rfl,bO,aI⟩:=bB (by omega);obtain⟨v0,ao,aE,bT,rfl,i0,bJ,m0⟩:=aI 0 (by omega);rw[qL]at ao;obtain⟨bh,aF,aU⟩:=aK aI i0 a7;have bP:b<w.heap.size:=by omega
  clear aI i0;have aX:=qQ (a9.bI ah);have bf:=qQ (aH.bI ah);obtain⟨v1,v2,v3,v4,v5,rfl,⟨D,cD,rfl,a',bb,b6⟩,⟨T,aD,rfl,it,lt,mt⟩,⟨O,co,rfl,io,lo,b8⟩,⟨b1,ci,rfl,ii,li,b7⟩,⟨S,cs,rfl,is,ls,ms⟩⟩:=a9;obtain⟨bK,r,Y⟩:=aK (λW (y:Below w.heap.size w W)=>qZ ((a'.below (y.mono ah)).up (qJ ah y.size)) (qZ ((it.below (y.mono ah)).up (qJ ah y.size)) (qZ ((io.below (y.mono ah)).up (qJ ah y.size)) (qZ ((ii.below (y.mono ah)).up (qJ ah y.size)) ((is.below (y.mono ah)).up (qJ ah y.size)))))) (av.new w 58 #[.int .i64 op.k,.slice D op.I.length cD,.slice T op.a.length aD,.slice O op.l.length co,.slice b1 op.h.length ci,.slice S op.s.length cs,.int .i64 op.v]) ((qK w.heap.size w).alloc (qX _) (.cells #[.int .i64 op.k,.slice D op.I.length cD,.slice T op.a.length aD,.slice O op.l.length co,.slice b1 op.h.length ci,.slice S op.s.length cs,.int .i64 op.v] 58));have a_:(w.alloc (.cells #[.int .i64 op.k,.slice D op.I.length cD,.slice T op.a.length aD,.slice O op.l.length co,.slice b1 op.h.length ci,.slice S op.s.length cs,.int .i64 op.v] 58)).heap.size=w.heap.size+1:=by simp
  obtain⟨ak,aN⟩:=gz (w.alloc (.cells #[.int .i64 op.k,.slice D op.I.length cD,.slice T op.a.length aD,.slice O op.l.length co,.slice b1 op.h.length ci,.slice S op.s.length cs,.int .i64 op.v] 58));rw[aN]at r Y a_;obtain⟨Z,bL,e0,fv⟩:=cV (af.fK _ op _ cap args ak.heap.size ak (qX _) (by first | omega | simp) (aX.q ak Y.q) (bf.q ak Y.q)) (show op.I.length<=cD/\op.a.length<=aD/\op.l.length<=co/\op.h.length<=ci/\op.s.length<=cs from⟨bb,lt,lo,li,ls⟩) (λh=>aj.fz (op:=op) (args:=args) h) (λh=>aj.fA (op:=op) (args:=args) h);clear a' it io ii is bb lt lo li ls aH;rw[a7]at Z bF bD |-;rw[a5]at r Z aX aN |-;have b0:ak.cell? ⟨w.heap.size,0,none⟩=some (.int .i64 _):=r.q.cell 0;have bq:ak.cell? ⟨w.heap.size,1,none⟩=some (.slice D op.I.length cD):=r.q.cell 1;have bs:ak.cell? ⟨w.heap.size,2,none⟩=some (.slice T op.a.length aD):=r.q.cell 2;have bA:ak.cell? ⟨w.heap.size,3,none⟩=some (.slice O op.l.length co):=r.q.cell 3;have cq:ak.cell? ⟨w.heap.size,4,none⟩=some (.slice b1 op.h.length ci):=r.q.cell 4;have eC:ak.cell? ⟨w.heap.size,5,none⟩=some (.slice S op.s.length cs):=r.q.cell 5;have e2:ak.cell? ⟨w.heap.size,6,none⟩=some (.int .i64 op.v):=r.q.cell 6;go_enter func90,ntmps90;go_wp2_with fail
  ((with_reducible refine Z.q.mono ?_);rintro e ag ⟨rfl,ap⟩)
  have bU:=qQ (aA Y.q ap);have Q:=qQ (r.q.below ap r.q.lt);have bY:w.heap.size+1<=ag.heap.size:=by rw[<-a_];exact ap.size
  clear ap Z aN b0 bq bs bA cq eC e2;by_cases eG:aj.cf op args≠0
  .exact ZV
  have aq:aj.cf op args=0:=by omega
  have aZ:=qQ (e0.q aq);have bp:=qQ (fv.q aq);rw[aq];have b9:ag.cell? ⟨w.heap.size,0,none⟩=some (.int .i64 _):=Q.q.cell 0;have b_:ag.cell? ⟨w.heap.size,1,none⟩=some (.slice D op.I.length cD):=Q.q.cell 1;have b':ag.cell? ⟨w.heap.size,2,none⟩=some (.slice T op.a.length aD):=Q.q.cell 2;have ca:ag.cell? ⟨w.heap.size,3,none⟩=some (.slice O op.l.length co):=Q.q.cell 3;have cl:ag.cell? ⟨w.heap.size,4,none⟩=some (.slice b1 op.h.length ci):=Q.q.cell 4;have ct:ag.cell? ⟨w.heap.size,5,none⟩=some (.slice S op.s.length cs):=Q.q.cell 5;have c3:ag.cell? ⟨w.heap.size,6,none⟩=some (.int .i64 op.v):=Q.q.cell 6;clear eG aq e0 fv;have aJ:args.getD 0 []=args[0]'(by omega):=by simp[show 0<args.length by omega]
  have aO:=bp.q (args[0]'(by omega)) (qP _);obtain⟨a0,aG⟩:=gz (args[0]'(by omega));have bm:=qQ aG;rw[aG]at aJ aO aF bJ ao;have V:=qQ (show J.aP op args=if args.all (λd=>decide (d=a0))then(a0,0)else([],6) by
   unfold J.aP;rw[aJ];simp[a5])
  have bg:=qQ (show ∀j (i:j<args.length),args[j]≠a0->J.I op args=([],6)from λj i bG=>by
   rw[aZ.q,V.q,qV (λh=>bG (by have:=List.all_eq_true.1 h _ (qP i);simpa using this))];rfl)
  have be:=qQ (show(∀j (i:j<args.length),args[j]=a0)->J.aP op args=(a0,0)from λh=>by
   rw[V.q,qY (List.all_eq_true.2 (λx M=>by obtain⟨j,i,rfl⟩:=zQ M;simp[h j i]))])
  have bv:=(bU.q.cell (p:=⟨b,off,none⟩) (by show b<w.heap.size;omega)).trans ao;clear ao aJ aG;have bX:=(R.aB aO).1;clear aO;obtain⟨m,rfl⟩:∃m,n=m+1:=⟨n-1,by omega⟩;obtain⟨az,rfl⟩:∃az:World,az=ag:=⟨_,rfl⟩;have bo:=qQ (show ∀j (i:j<args.length),j<0+1->args[j]=a0\/j=0 from λj _ h=>.inr (by omega));clear V;go_wp2_with fail;go_loopw [49] (λaQ wr=>∃(k d:Nat),aQ=.int .i64 (k:Int)/\k<=m/\(∀j (i:j<args.length),j<k+1->args[j]=a0\/j=0)/\wr=az.drewN d) (λaQ _=>m-(intOf aQ).toNat)
  case atStart=>exact⟨0,0,rfl,by omega,bo.q,rfl⟩
  obtain⟨k,d,rfl,bV,a3,ar⟩:=hrel;obtain⟨aT,bk,E⟩:=aK a3 ar (show Below w.heap.size w wr by rw[ar];exact zV bU.q d);have bM:wr.cell? ⟨b,off,none⟩=some (.slice aE a0.length bT):=by rw[ar];exact bv
  clear a3 ar;by_cases bS:k<m
  .have a6:k+1<args.length:=by have:=aU.q;omega
   obtain⟨v,cu,bc,bw,rfl,hi,bE,bW⟩:=bh.q (k+1) a6;have a2:=(E.q.cell (p:=⟨b,off+(k+1),none⟩) (by show b<w.heap.size;omega)).trans cu;have a8:off+1+k=off+(k+1):=by omega
   rw[<-a8]at a2;have U:=qQ (af.vm bc aE bw bT args[k+1] a0 B B wr (by omega) (by omega) (hi.below (E.q.mono ah)) (aF.q.below (E.q.mono ah)));have aV:=qQ (λh=>bg.q (k+1) a6 h);have aW:=qQ (show args[k+1]=a0->∀j (i:j<args.length),j<k+1+1->args[j]=a0\/j=0 from λh j i bR=>by
    by_cases e:j=k+1
    .subst e;exact .inl h
    exact aT.q j i (by omega))
   have i1:=b2 k;have i2:(k:Int)<m:=by omega
   clear cu hi a8;generalize args[k+1]=x at a2 U aV aW bE;by_cases M:x=a0
   .have bn:=qQ (aW.q M);rw[zD M]at U;clear M;go_wp2_with fail
    ((with_reducible refine U.q.mono ?_);rintro e aR ⟨rfl,d4,X⟩)
    have bl:=qQ (show aR=az.drewN (d+d4) by rw[X,bk.q,jI]);clear X;go_wp2_with fail;go_roundw
    case rel=>exact⟨k+1,d+d4,by go_num,by omega,bn.q,bl.q⟩
    case measure=>simp[intOf];omega
   have br:=qQ (aV.q M);rw[zN M]at U;clear M;go_wp2_with fail
   ((with_reducible refine U.q.mono ?_);rintro e aR ⟨rfl,d4,X⟩)
   have Ds:=qQ (show Below w.heap.size w aR by rw[X];exact zV E.q d4);clear X;exact Xj
  obtain rfl:k=m:=by omega
  have V:=qQ (be.q (λj i=>by
   rcases aT.q j i (by have:=aU.q;omega)with h | h
   .exact h
   subst h;exact bm.q))
  have bj:=qQ (eM aE bT a0 wr.heap.size wr (by omega) ((aF.q.below (E.q.mono ah)).up (qJ ah E.q.size)) (qX _));go_wp2_with fail
  ((with_reducible refine bj.q.mono ?_);rintro e aC ⟨v,rfl,aL,a4⟩)
  have eN:=qQ (aA E.q a4);have iz:=qQ (af.lH (N:=w.heap.size) aL E.q.size);obtain⟨bt,bz,rfl,i2,cX,m2⟩:=af.b3 aL;clear aL a4;have a1:=qQ (show J.I op args=aj.tail (a0,0)from by rw[aZ.q,V.q]);have gH:=qQ (er bt bz a0 aC.heap.size aC (by omega) i2);by_cases eU:(R.size a0).2≠0
  .have bH:((R.size a0).2 != 0)=true:=by simpa using eU
   have br:=qQ (show J.I op args=([],(R.size a0).2) by rw[a1.q];exact aj.gl eU);exact ZI
  have bH:((R.size a0).2 != 0)=false:=by simpa using eU
  have br:=qQ (show J.I op args=(a0,0) by rw[a1.q];exact aj.ir (by omega));have bN:(R.size a0).2=0:=by omega
  exact Zz
theorem _root_.QD{G:Prop}(h:G:=by
 by_cases he:x=0
 .subst he;have e1:=qQ (show J.I op [d]=aj.tail (l,0)from by rw[bR.q,mF.q]);have gH:=qQ (er bt bz l aC.heap.size aC (by omega) i2);by_cases eU:(R.size l).2≠0
  .have Eb:((R.size l).2 != 0)=true:=by simpa using eU
   have br:=qQ (show J.I op [d]=([],(R.size l).2) by rw[e1.q];exact aj.gl eU);clear eU;go_wp2_with fail;refine gH.q.mono ?_;rintro e dX ⟨rfl,rfl⟩;simp only[ai.b5];go_wp2_with fail
   go_ret2
   rw[br.q];exact⟨⟨_,rfl,af.dZ.nil _ _⟩,eN.q⟩
  have Eb:((R.size l).2 != 0)=false:=by simpa using eU
  have br:=qQ (show J.I op [d]=(l,0) by rw[e1.q];exact aj.ir (by omega));have eR:(R.size l).2=0:=by omega
  clear eU;go_wp2_with fail;refine gH.q.mono ?_;rintro e dX ⟨rfl,rfl⟩;simp only[ai.b5];go_wp2_with fail
  go_ret2
  rw[br.q];exact⟨⟨_,rfl,iz.q⟩,eN.q⟩
 .have hq:(x != 0)=true:=by simpa using he
  have br:=qQ (show J.I op [d]=([],x) by rw[bR.q,mF.q];exact aj.m' he);clear he;go_wp2_with fail
  go_ret2
  rw[br.q];exact⟨⟨_,rfl,af.dZ.nil _ _⟩,eN.q⟩
 ):G:=h
theorem _root_.ZK{G:Prop}(h:G:=by
 have br:=qQ (aj.hV eG);have hq:(aj.cf op [d] != 0)=true:=by simpa using eG
 generalize aj.cf op [d]=f at hq br eG;clear eG e0 fv;go_wp2_with fail
 go_ret2
 rw[br.q];exact⟨⟨_,rfl,af.dZ.nil _ _⟩,bU.q⟩
 ):G:=h
theorem _root_.JG{G:Prop}(r:bm)(f:dS bm->G:=by
 intro bb;have fp:ag.cell? ⟨w.heap.size,1,none⟩=some (.slice D op.I.length cD):=fZ.q.cell 1;have b':ag.cell? ⟨w.heap.size,2,none⟩=some (.slice T op.a.length aD):=fZ.q.cell 2;have ca:ag.cell? ⟨w.heap.size,3,none⟩=some (.slice O op.l.length co):=fZ.q.cell 3;have cl:ag.cell? ⟨w.heap.size,4,none⟩=some (.slice b1 op.h.length ci):=fZ.q.cell 4;have ct:ag.cell? ⟨w.heap.size,5,none⟩=some (.slice S op.s.length cs):=fZ.q.cell 5;have c3:ag.cell? ⟨w.heap.size,6,none⟩=some (.int .i64 op.v):=fZ.q.cell 6;have ga:=w8.q d (by simp);obtain⟨vy,Lo,zq16z⟩:=R.aB ga;have Hg:=qQ Lo;have I8:=qQ ga;have lD:=(bU.q.cell (p:=⟨b,off,none⟩) (by show b<w.heap.size;omega)).trans vd;have i1:(0:Int)<1:=by omega
 clear ga Lo;revert fp b' ca cl ct c3 vy zq16z Hg I8 lD i1;exact bb.o
 ):G:=f ⟨r⟩
theorem _root_.Jk{G:Prop}(r:bm)(f:dS bm->G:=by
 intro bb;obtain⟨cb,eX,e0,fv⟩:=cV (af.fK _ op _ cap [d] ak.heap.size ak (qX _) (by first | omega | simp) (eb.q ak bp.q) (K8.q ak bp.q)) (show op.I.length<=cD/\op.a.length<=aD/\op.l.length<=co/\op.h.length<=ci/\op.s.length<=cs from⟨KX,lt,lo,li,ls⟩) (λh=>aj.fz (op:=op) (args:=[d]) h) (λh=>aj.fA (op:=op) (args:=[d]) h);revert cb eX e0 fv;exact bb.o
 ):G:=f ⟨r⟩
theorem _root_.VH{G:Prop}(r:bm)(f:dS bm->G:=by
 intro bb;go_simp
 ((with_reducible refine gn.q.mono ?_);rintro e aC ⟨v,rfl,y8,pc⟩)
 have eN:=qQ (aA b6.q pc);have iz:=qQ (show af.dZ w.heap.size aC v l from⟨y8.1,λh g jg=>qJ b6.q.size (y8.2 h g jg)⟩);revert aC v y8 pc eN iz;exact bb.o
 ):G:=f ⟨r⟩
theorem af.FR(val:Value)(op:J.Op)(A:Option Addr)(cap:Nat)(d:List Int)(B:Nat)(w:World)(ah:B<=w.heap.size)(Z:af.cJ op)(aF:1<=cap)(aG:cap<=9223372036854775807)(U:af.bd w B val op)(j:af.bu w B A [d])(Q:op.k=10):Calls Tryz.prog 90 #[val,.slice A 1 cap] w λe w'=>af.gF w w' (J.I op [d]) e:=by
 have X:=j;obtain⟨b,off,rfl,aq,N⟩:=X (by simp);obtain⟨v0,vd,r,bT,rfl,i0,ao,m0⟩:=N 0 (by simp);rw[qL]at vd;simp only[zY]at vd i0 ao;have V:=qQ i0;have az:b<w.heap.size:=by omega
 clear N i0;have eb:=qQ (U.bI ah);have K8:=qQ (j.bI ah);obtain⟨v1,v2,v3,v4,v5,rfl,⟨D,cD,rfl,tu,KX,aH⟩,⟨T,aD,rfl,it,lt,mt⟩,⟨O,co,rfl,io,lo,aJ⟩,⟨b1,ci,rfl,ii,li,aI⟩,⟨S,cs,rfl,is,ls,ms⟩⟩:=U;refine JC ?_;intro mh cd bp hv ak cI;rw[cI]at cd bp hv;refine Jk ?_;intro cb eX e0 fv;clear tu it io ii is KX lt lo li ls j;simp only[qH,zM,qI]at cb;rw[Q]at cd cb eb cI |-;have b0:ak.cell? ⟨w.heap.size,0,none⟩=some (.int .i64 10):=cd.q.cell 0;refine JA ?_;intro eT dT bA cq eC e2;go_wp2_with fail;refine VP ?_;intro ag bU fZ fm;clear cb cI b0 eT dT bA cq eC e2;by_cases eG:aj.cf op [d]≠0
 .exact ZK
 have i:aj.cf op [d]=0:=by omega
 have bR:=qQ (e0.q i);have w8:=qQ (fv.q i);rw[i];have ap:ag.cell? ⟨w.heap.size,0,none⟩=some (.int .i64 10):=fZ.q.cell 0;refine JG ?_;intro fp b' ca cl ct c3 vy _ Hg I8 lD i1;clear eG i e0 fv vd;have mF:=qQ (show J.aP op [d]=aj.summed op.a d by unfold J.aP aj.summed;simp[Q]);obtain⟨⟨l,x⟩,M⟩:∃bm,aj.summed op.a d=bm:=⟨_,rfl⟩;go_wp2_with fail;refine fk (λw'=>w'.cell? ⟨w.heap.size,2,none⟩=some (.slice T op.a.length aD)/\w'.cell? ⟨b,off,none⟩=some (.slice r d.length bT)) 5 11 (⟨b',lD⟩) (λy=>?_);simp only[qF,qG];refine bX [1] 0 67 ?_;refine bX [] 1 68 ?_;refine bX [3,4] 2 69 ?_;refine bX [4] 3 70 ?_;refine bX [] 4 71 ?_;try simp only[Act.put,bj,bk,bl]
 have b6:=qQ (show Below w.heap.size w ag.drew from bU.q.drew);clear y ap fp b' ca cl ct c3 lD;generalize ag.drew=m at b6 |-;have gn:=qQ (af.Dh T r aD bT op.a d m.heap.size m (qX _) (by have:=eX.q;have:=Z.2.2.1;omega) (by omega) (mh.q m b6.q).2.1 ((V.q.below (b6.q.mono ah)).up (qJ ah b6.q.size)));rw[M]at gn mF;dsimp only at gn;clear M;refine eh 5 (by kernel_rfl) (dq rfl rfl (by kernel_rfl) (λK E=>?_));refine VH ?_;intro aC v y8 pc eN iz;obtain⟨⟨bt,bz,rfl,i2,cX,m2⟩,Y⟩:=y8;clear pc Y;try go_simp
 refine E.q _ _ trivial (λy=>?_);clear E K;try simp only[bj,bk,bl]
 refine mw 6 66 ?_;refine mw 7 73 ?_;refine mw 8 74 ?_;try simp only[Act.put,bj,bk,bl]
 refine eW [_,_] 9 [10] ?_;exact QD
theorem af.FP(val:Value)(op:J.Op)(A:Option Addr)(cap:Nat)(d:List Int)(B:Nat)(w:World)(ah:B<=w.heap.size)(aG:af.cJ op)(az:1<=cap)(aF:cap<=9223372036854775807)(U:af.bd w B val op)(j:af.bu w B A [d])(Q:op.k=14):Calls Tryz.prog 90 #[val,.slice A 1 cap] w λe w'=>af.gF w w' (J.I op [d]) e:=by
 have Y:=j;obtain⟨b,off,rfl,ap,N⟩:=Y (by simp);obtain⟨v0,vd,r,bT,rfl,i0,ao,m0⟩:=N 0 (by simp);rw[qL]at vd;simp only[zY]at vd i0 ao;have X:=qQ i0;have aq:b<w.heap.size:=by omega
 clear N i0;have eb:=qQ (U.bI ah);have K8:=qQ (j.bI ah);obtain⟨v1,v2,v3,v4,v5,rfl,⟨D,cD,rfl,tu,KX,aH⟩,⟨T,aD,rfl,it,lt,mt⟩,⟨O,co,rfl,io,lo,aJ⟩,⟨b1,ci,rfl,ii,li,aI⟩,⟨S,cs,rfl,is,ls,ms⟩⟩:=U;refine JC ?_;intro mh cd bp hv ak cI;rw[cI]at cd bp hv;refine Jk ?_;intro cb eX e0 fv;clear tu it io ii is KX lt lo li ls j;simp only[qH,zM,qI]at cb;rw[Q]at cd cb eb cI |-;have b0:ak.cell? ⟨w.heap.size,0,none⟩=some (.int .i64 14):=cd.q.cell 0;refine JA ?_;intro eT dT bA cq eC e2;go_wp2_with fail;refine VP ?_;intro ag bU fZ fm;clear cb cI b0 eT dT bA cq eC e2;by_cases eG:aj.cf op [d]≠0
 .exact ZK
 have i:aj.cf op [d]=0:=by omega
 have bR:=qQ (e0.q i);have w8:=qQ (fv.q i);rw[i];have V:ag.cell? ⟨w.heap.size,0,none⟩=some (.int .i64 14):=fZ.q.cell 0;refine JG ?_;intro fp b' ca cl ct c3 vy _ Hg I8 lD i1;clear eG i e0 fv vd;have mF:=qQ (show J.aP op [d]=J.cQ op d by unfold J.aP;simp[Q]);obtain⟨⟨l,x⟩,M⟩:∃bm,J.cQ op d=bm:=⟨_,rfl⟩;go_wp2_with fail;refine fk (λw'=>w'.cell? ⟨w.heap.size,0,none⟩=some (.int .i64 14)/\w'.cell? ⟨w.heap.size,1,none⟩=some (.slice D op.I.length cD)/\w'.cell? ⟨w.heap.size,2,none⟩=some (.slice T op.a.length aD)/\w'.cell? ⟨w.heap.size,3,none⟩=some (.slice O op.l.length co)/\w'.cell? ⟨w.heap.size,4,none⟩=some (.slice b1 op.h.length ci)/\w'.cell? ⟨w.heap.size,5,none⟩=some (.slice S op.s.length cs)/\w'.cell? ⟨w.heap.size,6,none⟩=some (.int .i64 op.v)/\w'.cell? ⟨b,off,none⟩=some (.slice r d.length bT)) 4 10 (⟨V,fp,b',ca,cl,ct,c3,lD⟩) (λy=>?_);simp only[qF,qG];refine bX [] 0 78 ?_;refine bX [2,3] 1 79 ?_;refine bX [3] 2 80 ?_;refine bX [] 3 81 ?_;try simp only[Act.put,bj,bk,bl]
 have b6:=qQ (show Below w.heap.size w ag.drew from bU.q.drew);clear y V fp b' ca cl ct c3 lD;generalize ag.drew=m at b6 |-;have gn:=qQ (af.CM _ op r bT d m.heap.size m (qX _) (by omega) Hg.q (eb.q m b6.q) ((X.q.below (b6.q.mono ah)).up (qJ ah b6.q.size)));rw[M]at gn mF;dsimp only at gn;clear M;refine eh 4 (by kernel_rfl) (dq rfl rfl (by kernel_rfl) (λK E=>?_));refine VH ?_;intro aC v y8 pc eN iz;obtain⟨⟨bt,bz,rfl,i2,cX,m2⟩,Z⟩:=y8;clear pc Z;try go_simp
 refine E.q _ _ trivial (λy=>?_);clear E K;try simp only[bj,bk,bl]
 refine mw 5 77 ?_;refine mw 6 83 ?_;refine mw 7 84 ?_;try simp only[Act.put,bj,bk,bl]
 refine eW [_,_] 8 [9] ?_;exact QD
theorem _root_.QW{G:Prop}(h:G:=by
 have MY:L.length<=8388608:=by rw[<-ua,qW];first | (simp only[qS];omega) | (simp;omega)
 rw[ua]at gn mF;clear ny ua;refine eW [_,_,_] 7 [8,9] ?_;go_wp2_with fail
 ((with_reducible refine gn.q.mono ?_);rintro e aC ⟨v,rfl,y4,pc⟩)
 have eN:=qQ (aA fG.q pc);have iz:=qQ (af.lH (N:=w.heap.size) y4 fG.q.size);obtain⟨bt,bz,rfl,i2,cX,m2⟩:=af.b3 y4;clear y4 pc ot;have e1:=qQ (show J.I op [d,f]=aj.tail (L,0)from by rw[bR.q,mF.q]);have gH:=qQ (er bt bz L aC.heap.size aC (by omega) i2);by_cases eU:(R.size L).2≠0
 .have Eb:((R.size L).2 != 0)=true:=by simpa using eU
  have br:=qQ (show J.I op [d,f]=([],(R.size L).2) by rw[e1.q];exact aj.gl eU);clear eU;go_wp2_with fail;refine gH.q.mono ?_;rintro e dX ⟨rfl,rfl⟩;simp only[ai.b5];go_wp2_with fail
  go_ret2
  rw[br.q];exact⟨⟨_,rfl,af.dZ.nil _ _⟩,eN.q⟩
 .have Eb:((R.size L).2 != 0)=false:=by simpa using eU
  have br:=qQ (show J.I op [d,f]=(L,0) by rw[e1.q];exact aj.ir (by omega));have eR:(R.size L).2=0:=by omega
  clear eU;go_wp2_with fail;refine gH.q.mono ?_;rintro e dX ⟨rfl,rfl⟩;simp only[ai.b5];go_wp2_with fail
  go_ret2
  rw[br.q];exact⟨⟨_,rfl,iz.q⟩,eN.q⟩
 ):G:=h
theorem _root_.Js{G:Prop}(r:bm)(f:dS bm->G:=by
 intro bb;simp only[qF,qG];refine bX [1,2] 0 118 ?_;refine bX [2] 1 119 ?_;refine bX [] 2 120 ?_;refine bX [4,5,6] 3 121 ?_;refine bX [5,6] 4 122 ?_;refine bX [6] 5 123 ?_;refine bX [] 6 124 ?_;try simp only[Act.put,bj,bk,bl]
 have b6:=qQ (show Below w.heap.size w ag.drew from bU.q.drew);revert b6;exact bb.o
 ):G:=f ⟨r⟩
theorem af.DQ(val:Value)(op:J.Op)(A:Option Addr)(cap:Nat)(d f:List Int)(B:Nat)(w:World)(ah:B<=w.heap.size)(bg:af.cJ op)(bc:2<=cap)(be:cap<=9223372036854775807)(aR:af.bd w B val op)(X:af.bu w B A [d,f])(mN:op.k=18):Calls Tryz.prog 90 #[val,.slice A 2 cap] w λe w'=>af.gF w w' (J.I op [d,f]) e:=by
 have a0:=X;obtain⟨b,off,rfl,a9,Y⟩:=a0 (by simp);obtain⟨v0,E,a4,bT,rfl,i0,aV,m0⟩:=Y 0 (by simp);obtain⟨bo,U,aQ,aO,rfl,ao,cW,m1⟩:=Y 1 (by simp);rw[qL]at E;simp only[zY,jB]at E i0 aV U ao cW;have Q:=qQ i0;have az:=qQ ao;have a_:b<w.heap.size:=by omega
 clear Y i0 ao;have aF:=qQ (aR.bI ah);have aZ:=qQ (X.bI ah);obtain⟨v1,v2,v3,v4,v5,rfl,⟨D,cD,rfl,tu,aW,bh⟩,⟨T,aD,rfl,it,lt,mt⟩,⟨O,co,rfl,io,lo,bn⟩,⟨b1,ci,rfl,ii,li,bm⟩,⟨S,cs,rfl,is,ls,ms⟩⟩:=aR;refine JC ?_;intro mh cd bp hv ak cI;rw[cI]at cd bp hv;obtain⟨cb,a7,e0,fv⟩:=cV (af.fK _ op _ cap [d,f] ak.heap.size ak (qX _) (by first | omega | simp) (aF.q ak bp.q) (aZ.q ak bp.q)) (show op.I.length<=cD/\op.a.length<=aD/\op.l.length<=co/\op.h.length<=ci/\op.s.length<=cs from⟨aW,lt,lo,li,ls⟩) (λh=>aj.fz (op:=op) (args:=[d,f]) h) (λh=>aj.fA (op:=op) (args:=[d,f]) h);clear tu it io ii is aW lt lo li ls X;simp only[qH,zM,qI,Nat.reduceAdd]at cb;rw[mN]at cd cb aF cI |-;have b0:ak.cell? ⟨w.heap.size,0,none⟩=some (.int .i64 18):=cd.q.cell 0;refine JA ?_;intro eT dT bA cq eC e2;go_wp2_with fail;refine VP ?_;intro ag bU fZ fm;clear cb cI b0 eT dT bA cq eC e2;by_cases eG:aj.cf op [d,f]≠0
 .have br:=qQ (aj.hV eG);have hq:(aj.cf op [d,f] != 0)=true:=by simpa using eG
  generalize aj.cf op [d,f]=f at hq br eG;exact XH
 have M:aj.cf op [d,f]=0:=by omega
 have bR:=qQ (e0.q M);have aG:=qQ (fv.q M);rw[M];have aX:ag.cell? ⟨w.heap.size,0,none⟩=some (.int .i64 18):=fZ.q.cell 0;refine JI ?_;intro fp b' ca cl ct c3;clear eG M e0 fv;have aT:=aG.q d (by simp);have aU:=aG.q f (by simp);obtain⟨a1,aL,_⟩:=R.aB aT;obtain⟨bf,aN,_⟩:=R.aB aU;have a6:=qQ (qZ aL aN);have r:=(bU.q.cell (p:=⟨b,off,none⟩) (by show b<w.heap.size;omega)).trans E;have aH:=(bU.q.cell (p:=⟨b,off+1,none⟩) (by show b<w.heap.size;omega)).trans U;have i1:(0:Int)<2:=by omega
 have i2:(1:Int)<2:=by omega
 clear E U aT aU aL aN;by_cases BE:d.length=0
 .have br:=qQ (show J.I op [d,f]=([],6) by
    rw[bR.q];have:J.aP op [d,f]=([],6):=by unfold J.aP;simp[mN,BE]
    rw[this];rfl)
  rw[BE]at r;clear BE;go_wp2_with fail
  go_ret2
  rw[br.q];exact⟨⟨_,rfl,af.dZ.nil _ _⟩,bU.q⟩
 have a3:((d.length:Int) == 0)=false:=by rw[jS];omega
 have mF:=qQ (show J.aP op [d,f]=(f++d.drop 1,0) by unfold J.aP;simp[mN,BE]);obtain⟨b0,j,rfl,a8,_⟩:=Q.q (by omega);have a2:(1:Int)<=(d.length:Int):=by omega
 by_cases aI:bT=1
 .have Z:d.length=1:=by omega
  subst aI;have aJ:d.drop 1=[]:=jD (by omega);rw[aJ]at mF;rw[Z]at r;have a5:=qQ Z;clear BE aJ Z a3 aV a2 a1 m0;go_wp2_with fail;refine fk (λw'=>w'.cell? ⟨b,off,none⟩=some (.slice (some ⟨b0,j,none⟩) 1 1)/\w'.cell? ⟨b,off+1,none⟩=some (.slice aQ f.length aO)) 7 10 (⟨r,aH⟩) (λV=>?_);refine Js ?_;intro b6;clear V aX fp b' ca cl ct c3 r;generalize ag.drew=i at b6 |-;have ny:=(Q.q.below (b6.q.mono ah)).up (qJ ah b6.q.size);obtain⟨aq,x,m⟩:=aK ny (av.new i 23 #[.slice aQ f.length aO,.slice (some ⟨b0,j,none⟩) 0 0]) ((qK i.heap.size i).alloc (qX _) (.cells #[.slice aQ f.length aO,.slice (some ⟨b0,j,none⟩) 0 0] 23));have y:i.heap.size<(i.alloc (.cells #[.slice aQ f.length aO,.slice (some ⟨b0,j,none⟩) 0 0] 23)).heap.size:=by simp
  obtain⟨ap,ot⟩:=gz (i.alloc (.cells #[.slice aQ f.length aO,.slice (some ⟨b0,j,none⟩) 0 0] 23));rw[ot]at x m y;have fG:=qQ (b6.q.trans (m.q.mono b6.q.size));have gn:=qQ (af.fx i.heap.size (f) (([]:List Int)) ap (by first | (simp only[qS];omega) | (simp;omega)) (af.lO x.q y (⟨aQ,aO,rfl,(az.q.below ((fG.q).mono ah)).up (qJ ah fG.q.size),by omega,by omega⟩) (⟨some ⟨b0,j,none⟩,0,rfl,λh=>by simp at h,by simp,by omega⟩)));obtain⟨L,ua⟩:=gz ((f)++(([]:List Int)));exact QW
 have a':2<=bT:=by omega
 clear BE aI;go_wp2_with fail;refine fk (λw'=>w'.cell? ⟨b,off,none⟩=some (.slice (some ⟨b0,j,none⟩) d.length bT)/\w'.cell? ⟨b,off+1,none⟩=some (.slice aQ f.length aO)) 7 10 (⟨r,aH⟩) (λV=>?_);refine Js ?_;intro b6;clear V aX fp b' ca cl ct c3 r;generalize ag.drew=i at b6 |-;have ny:=(Q.q.below (b6.q.mono ah)).up (qJ ah b6.q.size);obtain⟨aq,x,m⟩:=aK ny (av.new i 23 #[.slice aQ f.length aO,.slice (some ⟨b0,j+1,none⟩) (d.length-1) (bT-1)]) ((qK i.heap.size i).alloc (qX _) (.cells #[.slice aQ f.length aO,.slice (some ⟨b0,j+1,none⟩) (d.length-1) (bT-1)] 23));have y:i.heap.size<(i.alloc (.cells #[.slice aQ f.length aO,.slice (some ⟨b0,j+1,none⟩) (d.length-1) (bT-1)] 23)).heap.size:=by simp
 obtain⟨ap,ot⟩:=gz (i.alloc (.cells #[.slice aQ f.length aO,.slice (some ⟨b0,j+1,none⟩) (d.length-1) (bT-1)] 23));rw[ot]at x m y;have fG:=qQ (b6.q.trans (m.q.mono b6.q.size));have gn:=qQ (af.fx i.heap.size (f) (d.drop 1) ap (by first | (simp only[qS];omega) | (simp;omega)) (af.lO x.q y (⟨aQ,aO,rfl,(az.q.below ((fG.q).mono ah)).up (qJ ah fG.q.size),by omega,by omega⟩) (⟨some ⟨b0,j+1,none⟩,bT-1,by rw[qS],((af.lN aq.q 1).below m.q).up (by omega),by rw[qS];omega,by omega⟩)));obtain⟨L,ua⟩:=gz ((f)++(d.drop 1));exact QW
theorem _root_.QC{G:Prop}(h:G:=by
 obtain⟨L,ua⟩:=gz (op.I++d.drop f.length);rw[ua]at gn dr hle;clear ua;refine eW [_,_,_] 7 [8,9] ?_;go_wp2_with fail
 ((with_reducible refine gn.q.mono ?_);rintro e aC ⟨v,rfl,y4,pc⟩)
 have eN:=qQ (aA fG.q pc);have iz:=qQ (af.lH (N:=w.heap.size) y4 fG.q.size);obtain⟨bt,bz,rfl,i2,cX,m2⟩:=af.b3 y4;clear y4 pc ot;have e1:=qQ (show J.I op [d,f]=aj.tail (L,0)from by rw[bR.q,dr.q]);have gH:=qQ (er bt bz L aC.heap.size aC (by omega) i2);by_cases eU:(R.size L).2≠0
 .have Eb:((R.size L).2 != 0)=true:=by simpa using eU
  have br:=qQ (show J.I op [d,f]=([],(R.size L).2) by rw[e1.q];exact aj.gl eU);clear eU;go_wp2_with fail;refine gH.q.mono ?_;rintro e dX ⟨rfl,rfl⟩;simp only[ai.b5];go_wp2_with fail
  go_ret2
  rw[br.q];exact⟨⟨_,rfl,af.dZ.nil _ _⟩,eN.q⟩
 .have Eb:((R.size L).2 != 0)=false:=by simpa using eU
  have br:=qQ (show J.I op [d,f]=(L,0) by rw[e1.q];exact aj.ir (by omega));have eR:(R.size L).2=0:=by omega
  clear eU;go_wp2_with fail;refine gH.q.mono ?_;rintro e dX ⟨rfl,rfl⟩;simp only[ai.b5];go_wp2_with fail
  go_ret2
  rw[br.q];exact⟨⟨_,rfl,iz.q⟩,eN.q⟩
 ):G:=h
theorem _root_.ZB{G:Prop}(h:G:=by
 go_wp2_with fail
 go_quiet (fail)
 have lv:=qQ (zV bU.q nq);clear gQ fp b' ca cl ct c3 lD u';generalize ag.drewN nq=sL at lv |-;go_wp2_with fail
 go_ret2
 rw[br.q];exact⟨⟨_,rfl,af.dZ.nil _ _⟩,lv.q⟩
 ):G:=h
theorem _root_.Je{G:Prop}(r:bm)(f:dS bm->G:=by
 intro bb;simp only[qF,qG];refine bX [1] 0 157 ?_;refine bX [] 1 158 ?_;refine bX [3,4,6] 2 159 ?_;refine bX [4,6] 3 160 ?_;refine bX [6] 4 161 ?_;refine bX [6] 5 162 ?_;refine bX [] 6 163 ?_;try simp only[Act.put,bj,bk,bl]
 have b6:=qQ (show Below w.heap.size w sL.drew from lv.q.drew);revert b6;exact bb.o
 ):G:=f ⟨r⟩
theorem _root_.Vx{G:Prop}(r:bm)(f:dS bm->G:=by
 intro bb;have fG:=qQ (b6.q.trans (sT.q.mono b6.q.size));have hle:(op.I++d.drop f.length).length<=4194304:=by rw[qW,qS,cY.q];have:=L_.q;omega
 revert fG hle;exact bb.o
 ):G:=f ⟨r⟩
theorem af.FQ(val:Value)(op:J.Op)(A:Option Addr)(cap:Nat)(d f:List Int)(B:Nat)(w:World)(ah:B<=w.heap.size)(bD:af.cJ op)(bx:2<=cap)(bB:cap<=9223372036854775807)(a9:af.bd w B val op)(aJ:af.bu w B A [d,f])(a8:op.k=19):Calls Tryz.prog 90 #[val,.slice A 2 cap] w λe w'=>af.gF w w' (J.I op [d,f]) e:=by
 have bm:=aJ;obtain⟨b,off,rfl,bs,aL⟩:=bm (by simp);obtain⟨v0,az,ao,bT,rfl,i0,aU,m0⟩:=aL 0 (by simp);obtain⟨bH,aI,aQ,aO,rfl,aT,cW,m1⟩:=aL 1 (by simp);rw[qL]at az;simp only[zY,jB]at az i0 aU aI aT cW;have X:=qQ i0;have bg:=qQ aT;have bv:b<w.heap.size:=by omega
 clear aL i0 aT;have aW:=qQ (a9.bI ah);have bf:=qQ (aJ.bI ah);obtain⟨v1,v2,v3,v4,v5,rfl,⟨D,cD,rfl,tu,bc,aF⟩,⟨T,aD,rfl,it,lt,mt⟩,⟨O,co,rfl,io,lo,bF⟩,⟨b1,ci,rfl,ii,li,bE⟩,⟨S,cs,rfl,is,ls,ms⟩⟩:=a9;refine JC ?_;intro mh cd bp hv ak cI;rw[cI]at cd bp hv;obtain⟨cb,aq,e0,fv⟩:=cV (af.fK _ op _ cap [d,f] ak.heap.size ak (qX _) (by first | omega | simp) (aW.q ak bp.q) (bf.q ak bp.q)) (show op.I.length<=cD/\op.a.length<=aD/\op.l.length<=co/\op.h.length<=ci/\op.s.length<=cs from⟨bc,lt,lo,li,ls⟩) (λh=>aj.fz (op:=op) (args:=[d,f]) h) (λh=>aj.fA (op:=op) (args:=[d,f]) h);clear tu it io ii is bc lt lo li ls aJ;simp only[qH,zM,qI,Nat.reduceAdd]at cb;rw[a8]at cd cb aW cI |-;have b0:ak.cell? ⟨w.heap.size,0,none⟩=some (.int .i64 19):=cd.q.cell 0;refine JA ?_;intro eT dT bA cq eC e2;go_wp2_with fail;refine VP ?_;intro ag bU fZ fm;clear cb cI b0 eT dT bA cq eC e2;by_cases eG:aj.cf op [d,f]≠0
 .have br:=qQ (aj.hV eG);have hq:(aj.cf op [d,f] != 0)=true:=by simpa using eG
  generalize aj.cf op [d,f]=f at hq br eG;exact XH
 have U:aj.cf op [d,f]=0:=by omega
 have bR:=qQ (e0.q U);have aZ:=qQ (fv.q U);rw[U];have gQ:ag.cell? ⟨w.heap.size,0,none⟩=some (.int .i64 19):=fZ.q.cell 0;refine JI ?_;intro fp b' ca cl ct c3;clear eG U e0 fv;have a_:=aZ.q d (by simp);have a':=aZ.q f (by simp);obtain⟨aN,a6,_⟩:=R.aB a_;obtain⟨bo,a7,_⟩:=R.aB a';have bq:=qQ (qZ a6 a7);have lD:=(bU.q.cell (p:=⟨b,off,none⟩) (by show b<w.heap.size;omega)).trans az;have u':=(bU.q.cell (p:=⟨b,off+1,none⟩) (by show b<w.heap.size;omega)).trans aI;have i1:(0:Int)<2:=by omega
 have i2:(1:Int)<2:=by omega
 clear az aI a_ a' a6 a7;have aX:=qQ (show J.aP op [d,f]=if op.I.length≠1\/d.length<f.length\/d.take f.length≠f then([],6)else(op.I++d.drop f.length,0) by unfold J.aP;simp[a8]);have aG:=qQ (show(op.I.length≠1\/d.length<f.length\/d.take f.length≠f)->J.I op [d,f]=([],6)from λh=>by rw[bR.q,aX.q,qY h];rfl);by_cases dm:op.I.length=1
 .have cY:=qQ dm;rw[dm]at fp;clear dm;by_cases a2:d.length<f.length
  .have br:=qQ (aG.q (.inr (.inl a2)));exact ZB
  have be:decide ((d.length:Int)<(f.length:Int))=false:=by simpa using a2
  have Y:∀n,Calls Tryz.prog 122 #[.slice ao f.length bT,.slice aQ f.length aO] (ag.drewN n) λe w'=>e=.returned (.bool (decide (d.take f.length=f)))/\∃m,w'=(ag.drewN n).drewN m:=λn=>by
   have aE:=zV bU.q n;have h:=af.vm ao aQ bT aO (d.take f.length) f B B (ag.drewN n) (by rw[qM];omega) (by omega) (af.ju (X.q.below (aE.mono ah)) f.length) (bg.q.below (aE.mono ah))
   rwa [show(d.take f.length).length=f.length by rw[qM];omega]at h
  by_cases a3:d.take f.length=f
  .rw[zD a3]at Y;have dr:=qQ (show J.aP op [d,f]=(op.I++d.drop f.length,0) by
    rw[aX.q,qV (λh=>h.elim (λh=>h cY.q) (λh=>h.elim a2 (λh=>h a3)))])
   clear a3;go_wp2_with fail
   go_quiet (exact Calls.quiet_of (Y _))
   have lv:=qQ (zV bU.q nq);have M:(ag.drewN nq).cell? ⟨b,off,none⟩=some (.slice ao d.length bT):=lD;have Q:(ag.drewN nq).cell? ⟨w.heap.size,1,none⟩=some (.slice D 1 cD):=fp;clear gQ fp b' ca cl ct c3 lD u' Y;generalize ag.drewN nq=sL at lv M Q |-;have L_:=qQ aN;have aV:=qQ m0;have a1:f.length<=d.length:=by omega
   have a4:(f.length:Int)<=(d.length:Int):=by omega
   have bh:(0:Int)<=(f.length:Int):=by omega
   by_cases Z:d.length=0
   .have U:f.length=0:=by omega
    rw[Z]at M;rw[U];have j:=qQ (qZ Z U);clear Z U aU cW aN bo be a2 a1 a4 bh m0;cases ao with
    | none =>
     go_wp2_with fail;refine fk (λw'=>w'.cell? ⟨b,off,none⟩=some (.slice none 0 bT)/\w'.cell? ⟨w.heap.size,1,none⟩=some (.slice D 1 cD)) 7 10 (⟨M,Q⟩) (λV=>?_);refine Je ?_;intro b6;clear V M Q;generalize sL.drew=i at b6 |-;obtain⟨ap,x,sT⟩:=aK ((X.q.below (b6.q.mono ah)).up (qJ ah b6.q.size)) (av.new i 23 #[.slice D 1 cD,.slice none 0 bT]) ((qK i.heap.size i).alloc (qX _) (.cells #[.slice D 1 cD,.slice none 0 bT] 23));have y:i.heap.size<(i.alloc (.cells #[.slice D 1 cD,.slice none 0 bT] 23)).heap.size:=by simp
     obtain⟨E,ot⟩:=gz (i.alloc (.cells #[.slice D 1 cD,.slice none 0 bT] 23));rw[ot]at x sT y;refine Vx ?_;intro fG hle;have gn:=qQ (af.fx i.heap.size op.I (d.drop f.length) E (by rw[qW]at hle;omega) (af.lO x.q y ⟨D,cD,by rw[cY.q],(mh.q E fG.q).1,aq.q.1,aF⟩ (⟨none,bT,by rw[qS,j.q.1,j.q.2],λh=>by rw[qS,j.q.1,j.q.2]at h;simp at h,by rw[qS,j.q.1,j.q.2];simp,aV.q⟩)));exact QC
    | some a0 =>
     go_wp2_with fail;refine fk (λw'=>w'.cell? ⟨b,off,none⟩=some (.slice (some a0) 0 bT)/\w'.cell? ⟨w.heap.size,1,none⟩=some (.slice D 1 cD)) 7 10 (⟨M,Q⟩) (λV=>?_);refine Je ?_;intro b6;clear V M Q;generalize sL.drew=i at b6 |-;obtain⟨ap,x,sT⟩:=aK ((X.q.below (b6.q.mono ah)).up (qJ ah b6.q.size)) (av.new i 23 #[.slice D 1 cD,.slice (some a0) 0 bT]) ((qK i.heap.size i).alloc (qX _) (.cells #[.slice D 1 cD,.slice (some a0) 0 bT] 23));have y:i.heap.size<(i.alloc (.cells #[.slice D 1 cD,.slice (some a0) 0 bT] 23)).heap.size:=by simp
     obtain⟨E,ot⟩:=gz (i.alloc (.cells #[.slice D 1 cD,.slice (some a0) 0 bT] 23));rw[ot]at x sT y;refine Vx ?_;intro fG hle;have gn:=qQ (af.fx i.heap.size op.I (d.drop f.length) E (by rw[qW]at hle;omega) (af.lO x.q y ⟨D,cD,by rw[cY.q],(mh.q E fG.q).1,aq.q.1,aF⟩ (⟨some a0,bT,by rw[qS,j.q.1,j.q.2],λh=>by rw[qS,j.q.1,j.q.2]at h;simp at h,by rw[qS,j.q.1,j.q.2];simp,aV.q⟩)));exact QC
   obtain⟨b0,r,rfl,bn,_⟩:=X.q (by omega);by_cases a5:bT=f.length
   .subst a5;have aR:d.length=f.length:=by omega
    rw[aR]at M;have aH:=qQ aR;clear Z aR aU a1 a4 a2 be aN m0 bn;go_wp2_with fail;refine fk (λw'=>w'.cell? ⟨b,off,none⟩=some (.slice (some ⟨b0,r,none⟩) f.length f.length)/\w'.cell? ⟨w.heap.size,1,none⟩=some (.slice D 1 cD)) 7 10 (⟨M,Q⟩) (λV=>?_);refine Je ?_;intro b6;clear V M Q;generalize sL.drew=i at b6 |-;obtain⟨ap,x,sT⟩:=aK ((X.q.below (b6.q.mono ah)).up (qJ ah b6.q.size)) (av.new i 23 #[.slice D 1 cD,.slice (some ⟨b0,r,none⟩) 0 0]) ((qK i.heap.size i).alloc (qX _) (.cells #[.slice D 1 cD,.slice (some ⟨b0,r,none⟩) 0 0] 23));have y:i.heap.size<(i.alloc (.cells #[.slice D 1 cD,.slice (some ⟨b0,r,none⟩) 0 0] 23)).heap.size:=by simp
    obtain⟨E,ot⟩:=gz (i.alloc (.cells #[.slice D 1 cD,.slice (some ⟨b0,r,none⟩) 0 0] 23));rw[ot]at x sT y;refine Vx ?_;intro fG hle;have gn:=qQ (af.fx i.heap.size op.I (d.drop f.length) E (by rw[qW]at hle;omega) (af.lO x.q y ⟨D,cD,by rw[cY.q],(mh.q E fG.q).1,aq.q.1,aF⟩ (⟨some ⟨b0,r,none⟩,0,by rw[qS,aH.q,xB],λh=>by rw[qS,aH.q,xB]at h;simp at h,by rw[qS,aH.q,xB];simp,by omega⟩)));exact QC
   have bw:f.length<bT:=by omega
   clear Z a5 a2;go_wp2_with fail;refine fk (λw'=>w'.cell? ⟨b,off,none⟩=some (.slice (some ⟨b0,r,none⟩) d.length bT)/\w'.cell? ⟨w.heap.size,1,none⟩=some (.slice D 1 cD)) 7 10 (⟨M,Q⟩) (λV=>?_);refine Je ?_;intro b6;clear V M Q;generalize sL.drew=i at b6 |-;obtain⟨ap,x,sT⟩:=aK ((X.q.below (b6.q.mono ah)).up (qJ ah b6.q.size)) (av.new i 23 #[.slice D 1 cD,.slice (some ⟨b0,r+f.length,none⟩) (d.length-f.length) (bT-f.length)]) ((qK i.heap.size i).alloc (qX _) (.cells #[.slice D 1 cD,.slice (some ⟨b0,r+f.length,none⟩) (d.length-f.length) (bT-f.length)] 23));have y:i.heap.size<(i.alloc (.cells #[.slice D 1 cD,.slice (some ⟨b0,r+f.length,none⟩) (d.length-f.length) (bT-f.length)] 23)).heap.size:=by simp
   obtain⟨E,ot⟩:=gz (i.alloc (.cells #[.slice D 1 cD,.slice (some ⟨b0,r+f.length,none⟩) (d.length-f.length) (bT-f.length)] 23));rw[ot]at x sT y;refine Vx ?_;intro fG hle;have gn:=qQ (af.fx i.heap.size op.I (d.drop f.length) E (by rw[qW]at hle;omega) (af.lO x.q y ⟨D,cD,by rw[cY.q],(mh.q E fG.q).1,aq.q.1,aF⟩ (⟨some ⟨b0,r+f.length,none⟩,bT-f.length,by rw[qS],((af.lN ap.q f.length).below sT.q).up (by omega),by rw[qS];omega,by omega⟩)));exact QC
  have br:=qQ (aG.q (.inr (.inr a3)));rw[zN a3]at Y;clear a3;go_wp2_with fail
  go_quiet (exact Calls.quiet_of (Y _))
  have lv:=qQ (zV bU.q nq);clear gQ fp b' ca cl ct c3 lD u';generalize ag.drewN nq=sL at lv |-;go_wp2_with fail
  go_ret2
  rw[br.q];exact⟨⟨_,rfl,af.dZ.nil _ _⟩,lv.q⟩
 have br:=qQ (aG.q (.inl dm));have bG:((op.I.length:Int) != 1)=true:=by rw[uU];omega
 clear dm;exact ZB
end Go.Proofs.YtabmnaaidfpmcaaGreatDoor
end
