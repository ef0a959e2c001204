/-
  RvK, MkA, MkA2, KyA, Shelf, KeyPlain, KyB, GrA, KyC. Conditions: where the theorems name them.
-/
import Derived.Test.YtabmnaaidfpmcaaGreatDoorV10
import Derived.Lib.Builder
import Derived.Lib.AppendStr
import Derived.Lib.Walk
import Derived.Lib.UnsafeStr
import Derived.Laws.Externs
import Derived.Shelf.Bodies
import Derived.Test.YtabmnaaidfpmcaaGreatDoorProg
import Derived.Shelf.Strings.Builder1
import Derived.Shelf.Small.Bits
import Derived.Shelf.Small.Wraps
import Derived.Shelf.Strings.BuilderF
import Derived.Shelf.Strings.BuilderK
import Derived.Shelf.Strconv.Itoa0
import Derived.Shelf.Strconv.Itoa1
import Derived.Shelf.LaysM
import Derived.Shelf.Strconv.Itoa2
import Derived.Shelf.Strconv.Itoa3
import Derived.Shelf.Strconv.Itoa4
import Derived.Shelf.Sort.Plain
import Derived.Lib.ItoaNum
import Derived.Lib.ItoaLen
import Derived.Lib.AppendIntMem
set_option linter.unusedVariables false
set_option maxRecDepth 100000
set_option maxHeartbeats 16000000
open Go.Proofs.Tryz
variable {a:Int}{l m:List Int}{dL:List Go.Value}{b g n:Nat}{t:Go.TypeId}{val:Go.Value}{ak w w':Go.World}
section
namespace Go.Proofs.YtabmnaaidfpmcaaGreatDoor
open Go.RowKit aS
theorem al.oA{α:Type}{l:List α}(h:l.length=2):∃a b,l=[a,b]:=by
 match l,h with
 | [a,b],_=>exact⟨a,b,rfl⟩
theorem al.yj{a:ad.ay}{out:List Int}(hw:ad.cO a)(he:(R.size a.I).1=(R.size out).1)(i:n<(R.size out).1.toNat):n<a.e.length/\a.e.length<=65536:=by
 obtain⟨-,-,z3,z4,z5⟩:=R.aB hw.1;rw[hw.2.1,he];exact⟨i,by omega⟩
theorem al.DU(aM:Value)(op:J.Op)(G:Option Addr)(r:Nat)(args:List ad.ay)(T:Option Addr)(aD:Nat)(t:List Int)(n:Nat)(out:List Int)(B:Nat)(w:World)(ah:B<=w.heap.size)(i:af.bd w B aM op)(D:al.bo w B G args)(hi:ai.ao w B T t)(O:t.length<=aD)(ar:J.I op (args.map (·.I))=(out,0))(Q:∀a∈args,ad.cO a)(E:R.inside out t=true)(aC:n<(R.size out).1.toNat)(aH:args.length<=1099511627776):Calls Tryz.prog 81 #[aM,.slice G args.length r,.slice T t.length aD,.int .i64 (n:Int)] w λe w'=>e=.returned (.int .i64 (ad.entry op args t n))/\Below w.heap.size w w':=by
 obtain⟨M,-,aG⟩:=ae.cv ar;obtain⟨N,X⟩:=ad.Cz aG E;have V:(op.k=3\/op.k=4\/op.k=5\/op.k=6\/op.k=7\/op.k=8)->∀a∈args,n<a.e.length/\a.e.length<=65536:=λaJ a m=>al.yj (Q a m) (by rw[ad.vn aJ ar a.I (List.mem_map_of_mem m)]) aC
 rw[zJ]at M;have S:=λW (y:Below w.heap.size w W)=>((hi.below (y.mono ah)).up (qJ ah y.size))
 unfold J.right at M;by_cases ap:op.k=2
 .rw[qY ap]at M;have du:args.length=0:=by
   by_cases h:args.length=0
   .exact h
   rw[qV h]at M;omega
  exact al.H7 aM op G r args T aD t n B w ah i D ap du (λa m=>by rw[List.length_eq_zero_iff.1 du]at m;cases m)
 rw[qV ap]at M;by_cases az:op.k=3\/op.k=4\/op.k=5\/op.k=6\/op.k=7\/op.k=16\/op.k=18\/op.k=19
 .rw[qY az]at M;have du:args.length=2:=by
   by_cases h:args.length=2
   .exact h
   rw[qV h]at M;omega
  rcases az with k | k | k | k | k | k | k | k
  .exact al.H8 aM op G r args T aD t n B w ah i D k du (V (by omega))
  .exact al.H9 aM op G r args T aD t n B w ah i D k du (V (by omega))
  .exact al.H_ aM op G r args T aD t n B w ah i D k du (V (by omega))
  .exact al.H' aM op G r args T aD t n B w ah i D k du (V (by omega))
  .exact al.Ia aM op G r args T aD t n B w ah i D k du (V (by omega))
  .obtain⟨a,b,rfl⟩:=al.oA du;have j:=Q a (by simp);have Y:=Q b (by simp);have ag:=(R.aB j.1).1;have aI:=(R.aB Y.1).1;obtain⟨f1,f2,f3,f4,f5,f6,f7,f8⟩:=ad.FT k ar j.1 E;exact al.F0 aM op G r a b T aD t n B w ah i D k _ (ad.p2 k t n) (λW y aM di aA i m ak=>al.yn aM di aA op a b T aD t W.heap.size W (qX _) i m ak j Y (S W y) O N (qJ f5 ag) (qJ f6 aI) f1 f2 f3 f4 f7 f8 (λaF hm=>ad.Ci k ar E (ad.j7 f7 hm)))
  .obtain⟨a,b,rfl⟩:=al.oA du;have j:=Q a (by simp);have Y:=Q b (by simp);obtain⟨f1,f2⟩:=ad.Fo k ar E;exact al.F2 aM op G r a b T aD t n B w ah i D hi O N k j Y f2 f1 (ad.A_ k ar E)
  obtain⟨a,b,rfl⟩:=al.oA du;have j:=Q a (by simp);have Y:=Q b (by simp);exact al.F3 aM op G r a b T aD t n B w ah i D k _ (ad.vk k t n) (λW y aM di aA i m ak=>al.zw di aA a b T aD t W.heap.size W (qX _) m ak j Y (S W y) (ad.GF k ar E) N O (λaF hm=>ad.CV k ar E hm))
 rw[qV az]at M;by_cases aq:op.k=8
 .rw[qY aq]at M;have du:args.length=3:=by
   by_cases h:args.length=3
   .exact h
   rw[qV h]at M;omega
  exact al.Ib aM op G r args T aD t n B w ah i D aq du (V (by omega))
 rw[qV aq]at M;by_cases av:op.k=9\/op.k=10\/op.k=11\/op.k=12\/op.k=13\/op.k=14\/op.k=15
 .rw[qY av]at M;have du:args.length=1:=by
   by_cases h:args.length=1
   .exact h
   rw[qV h]at M;omega
  obtain⟨a,rfl⟩:=List.length_eq_one_iff.1 du;have j:=Q a (by simp);have ag:=(R.aB j.1).1;rcases av with k | k | k | k | k | k | k
  .have U:=(ad.nN (by omega) ar j.1 E).1 k;exact al.Ic aM op G r a T aD t n B w ah i D k _ (ad.j9 (by omega) t n) (λW y aM di i m=>al.A' aM di op a T aD t W.heap.size W (qX _) i m j (S W y) O N X k U (ad.lr (by omega) ar j.1 E))
  .obtain⟨f1,f2,f3,f4⟩:=ad.G2 k ar j.1 E;exact al.FU aM op G r a T aD t n B w ah i D hi N k j (qJ f2 ag) f1 f3 f4 (λaF hm=>ad.Dg k ar f3 E hm)
  .have U:=(ad.nN (by omega) ar j.1 E).2.1 k;exact al.FV aM op G r a T aD t n B w ah i D k _ (ad.j9 (by omega) t n) (λW y aM di i m=>al.Am aM di op a T aD t W.heap.size W (qX _) i m j (S W y) O N X k U (ad.lr (by omega) ar j.1 E))
  .exact al.FW aM op G r [a] T aD t n B w ah i D k rfl (λb y=>by
     rw[List.mem_singleton.1 y];exact al.yj j (ad.A1 k ar) aC)
  .have U:=(ad.nN (by omega) ar j.1 E).2.2.1 k;obtain⟨aK,-⟩:=ae.cv ar;exact al.FX aM op G r a T aD t n B w ah i D k _ (ad.j9 (by omega) t n) (λW y aM di i m=>al.An aM di op a T aD t W.heap.size W (qX _) i m j (S W y) O N X k U (ad.lr (by omega) ar j.1 E))
  .obtain⟨f1,f2,f3,f4,f5⟩:=ad.Gz k ar E;exact al.FY aM op G r a T aD t n B w ah i D k _ (ad.vj k t n) (λW y aM di i m=>al.zm aM di op a T aD t W.heap.size W (qX _) i m j (S W y) O N f1 f2 f3 X f4 f5 (λhp=>ad.CL k ar E hp))
  have U:=(ad.nN (by omega) ar j.1 E).2.2.2 k;exact al.FZ aM op G r a T aD t n B w ah i D k _ (ad.j9 (by omega) t n) (λW y aM di i m=>al.Ao aM di op a T aD t W.heap.size W (qX _) i m j (S W y) O N X k U.1 (ad.lr (by omega) ar j.1 E))
 rw[qV av]at M;by_cases Z:op.k=17
 .rw[qY Z]at M;have du:0<args.length:=by
   by_cases h:args.length=0
   .rw[qY h]at M;omega
   omega
  obtain⟨f1,f2,f3,f4⟩:=ad.AL Z ar E;obtain⟨x,aE⟩:=List.length_eq_one_iff.1 f1;rw[aE]at f2 f3 f4;simp only[xX]at f2 f3 f4;obtain⟨k,rfl⟩:∃k:Nat,x=(k:Int):=⟨x.toNat,by omega⟩;rw[xY]at f4;exact al.F1 aM op G r args T aD t n B w ah i D du Z _ (ad.tg Z t n) (λW y aM i D=>al.xf aM op G r args T aD t W.heap.size W (qX _) i D Q (S W y) O N aH k aE (by omega) X (λa m=>f4 a.I (List.mem_map_of_mem m)))
 rw[qV Z]at M;omega
namespace bC
def DI(k:Int):Bool:=decide (k=1\/k=2\/k=9\/k=12\/k=19)
def HZ(k:Int):Bool:=decide (k=1\/k=9\/k=10\/k=11\/k=15\/k=16\/k=17)
def sc(k:Int):Bool:=decide (k=13\/k=14\/k=16)
def H0(k:Int):Bool:=decide (k=2)
def kept(b:Bool)(l:List Int):List Int:=if b then l else[]
end bC
theorem bC.Cn(k:Int)(w:World):Calls Tryz.prog 92 #[.int .i64 k] w λe w'=>e=.returned (.agg #[.bool (bC.DI k),.bool (bC.HZ k),.bool (bC.sc k),.bool (bC.sc k),.bool (bC.sc k),.bool (bC.H0 k)])/\Below w.heap.size w w':=by
 have j:=qQ (qK w.heap.size w);have i:=qQ (show(bC.DI k=decide (k=1\/k=2\/k=9\/k=12\/k=19))/\(bC.HZ k=decide (k=1\/k=9\/k=10\/k=11\/k=15\/k=16\/k=17))/\(bC.sc k=decide (k=13\/k=14\/k=16))/\(bC.H0 k=decide (k=2))from⟨rfl,rfl,rfl,rfl⟩);generalize bC.DI k=m at i |-;generalize bC.HZ k=r at i |-;generalize bC.sc k=bA at i |-;generalize bC.H0 k=cq at i |-;go_enter func92,ntmps92;go_wp2_with fail
 all_goals refine qR (v:=.agg #[.bool m,.bool r,.bool bA,.bool bA,.bool bA,.bool cq]) ?_ rfl ⟨rfl,j.q.alloc (qX _) _⟩
 all_goals simp[results,results92,go_sem]
 all_goals (obtain⟨rfl,rfl,rfl,rfl⟩:=i.q;clear i j)
 all_goals (simp only[yS,jS,ne_eq]at *;first | (subst_vars;decide) | simp_all)
namespace bC
def gP(V:Nat->Prop)(w:World)(v:Value)(l:List Int):Prop:=∃A c,v=.slice A l.length c/\l.length<=c/\c<=9223372036854775807 /\
 (0<l.length->∃b off cs j,A=some ⟨b,off,none⟩/\V b/\w.heap[b]?=some (.cells cs 3 j)/\∀i (h:i<l.length),cs[off+i]?=some (.int .i64 l[i]))
abbrev tV(N:Nat)(w:World)(v:Value)(l:List Int):Prop:=gP (λb=>N<=b) w v l
section
variable {V KP:Nat->Prop} {N M:Nat} {w w':World} {v:Value} {l:List Int}
theorem gP.move(h:gP V w v l)(j:∀b cs i,V b->w.heap[b]?=some (.cells cs 3 i)->KP b/\w'.heap[b]?=w.heap[b]?):gP KP w' v l:=by
 obtain⟨A,c,e,m,q,r⟩:=h;refine⟨A,c,e,m,q,λhp=>?_⟩;obtain⟨b,off,cs,i,g1,g2,g3,g4⟩:=r hp;exact⟨b,off,cs,i,g1,(j b cs i g2 g3).1,(j b cs i g2 g3).2.trans g3,g4⟩
theorem gP.c9(h:gP V w v l)(q:∀b cs i,V b->w.heap[b]?=some (.cells cs 3 i)->w'.heap[b]?=w.heap[b]?):gP V w' v l:=h.move λb cs i j m=>⟨j,q b cs i j m⟩
theorem gP.mono(h:gP V w v l)(m:∀b,V b->b<w.heap.size->KP b):gP KP w v l:=h.move λb cs q i j=>⟨m b i (Array.getElem?_eq_some_iff.1 j).1,rfl⟩
theorem eH{o:Obj}(h:w.heap[b]?=some o):b<w.heap.size:=(Array.getElem?_eq_some_iff.1 h).1
theorem gP.below(h:gP V w v l)(i:Below w.heap.size w w'):gP V w' v l:=h.c9 λb _ _ _ j=>i.block b (eH j)
theorem gP.bI{cs:Array Value}(h:gP V w v l)(q:ch (· = g) w w')(j:av w g t cs)(r:t≠3):gP V w' v l:=h.c9 λb _ _ _ i=>q.block b (eH i) (λe=>by
 subst e;unfold av at j;rw[j]at i;injection i with i
 injection i with _ m _
 exact r m)
theorem gP.kept{U:Nat->Prop}(h:gP V w v l)(j:ch U w w')(hu:∀b,V b->¬U b):gP V w' v l:=h.c9 λb _ _ m i=>j.block b (eH i) (hu b m)
theorem gP.down(h:tV N w v l)(hm:M<=N):tV M w v l:=h.mono λ_ i _=>qJ hm i
theorem gP.nil(V:Nat->Prop)(w:World):gP V w (.slice none 0 0) []:=⟨none,0,rfl,qX _,by omega,λh=>by simp at h⟩
theorem gP.gB(h:gP V w v l):af.aN w w.heap.size v l:=by
 obtain⟨A,c,e,j,m,q⟩:=h;refine⟨A,c,e,λhp=>?_,j,m⟩;obtain⟨b,off,cs,r,g1,g2,g3,g4⟩:=q hp;exact⟨b,off,g1,eH g3,λi hi=>by simp[World.cell?,g3,g4 i hi]⟩
theorem gP.own{base:Nat}(h:w.ownsRow base 3 1 v n (ints l))(q:N<=base):tV N w v l:=by
 have B:n=l.length:=by have:=h.1;rw[cn]at this;omega
 subst B;rcases h.2 with ⟨e,m⟩ | ⟨g,cap,cur,e,r,y,x,hm,az,D⟩
 .subst e;exact⟨none,0,by rw[m],by omega,by omega,λhp=>by omega⟩
 subst e;refine⟨_,cap,rfl,x,hm,λhp=>⟨g,0,cur,(0,0),rfl,qJ q r,y,λi hi=>?_⟩⟩;have j:=ints_at l i hi;rw[<-D,yW,qY (by omega)]at j;rw[qI];simpa using j
end
def x6(N:Nat)(w:World)(val:Value)(op:J.Op):Prop :=
 ∃v1 v2 v3 v4 v5,val=.agg #[.int .i64 op.k,v1,v2,v3,v4,v5,.int .i64 op.v]/\tV N w v1 op.I/\tV N w v2 op.a/\tV N w v3 op.l/\tV N w v4 op.h/\tV N w v5 op.s
end bC
def bC.Ae(N:Nat)(l:List Int):aS.c8:=⟨λv w=>bC.tV N w v l,λi h=>h.below i⟩
theorem bC.mR(b:Bool)(A:Option Addr)(c:Nat)(l:List Int)(B:Nat)(w:World)(ah:B<=w.heap.size)(r:l.length<=1099511627776)(h:ai.ao w B A l):Calls Tryz.prog 93 #[.slice A l.length c,.bool b] w λe w'=>∃v,e=.returned v/\bC.tV w.heap.size w' v (bC.kept b l)/\Below w.heap.size w w':=by
 have j:=qQ (eM A c l B w r h ah);have i:=qQ (qK w.heap.size w);clear h;go_enter func93,ntmps93;cases b
 .go_wp2_with fail;go_ret;exact⟨_,rfl,bC.gP.nil _ _,i.q⟩
 go_wp2_with ((with_reducible refine j.q.mono ?_);rintro e ag ⟨v,rfl,x,m⟩);go_ret;exact⟨_,rfl,bC.gP.own x (qX _),m⟩
def bC.cJ(op:J.Op):Prop:=op.I.length<=1099511627776/\op.a.length<=1099511627776/\op.l.length<=1099511627776/\op.h.length<=1099511627776/\op.s.length<=1099511627776
theorem bC.GB(op:J.Op):ae.plain op=⟨op.k,bC.kept (bC.DI op.k) op.I,bC.kept (bC.HZ op.k) op.a,bC.kept (bC.sc op.k) op.l,bC.kept (bC.sc op.k) op.h,bC.kept (bC.sc op.k) op.s,if bC.H0 op.k then op.v else 0⟩:=by
 simp[ae.plain,bC.kept,bC.DI,bC.HZ,bC.sc,bC.H0]
theorem bC.x6.below{N:Nat}{v:Value}{op:J.Op}(h:bC.x6 N w v op)(aE:Below w.heap.size w w'):bC.x6 N w' v op:=by
 exact Zy
def bC.L1(N:Nat)(op:J.Op):aS.c8:=⟨λv w=>bC.x6 N w v op,λi h=>h.below i⟩
theorem _root_.Xn{G:Prop}(h:G:=by
 try go_simp
 exact aI.q _ _ bS (c2.down (ep.q W a_).size)
 ):G:=h
theorem bC.EV(val:Value)(op:J.Op)(B:Nat)(w:World)(ah:B<=w.heap.size)(bE:bC.cJ op)(bD:af.bd w B val op):Calls Tryz.prog 75 #[val] w λe w'=>∃v,e=.returned v/\bC.x6 w.heap.size w' v (ae.plain op)/\Below w.heap.size w w':=by
 obtain⟨v1,v2,v3,v4,v5,rfl,⟨D,cD,rfl,a8,bW,bX⟩,⟨T,aD,rfl,it,lt,mt⟩,⟨O,co,rfl,io,lo,bZ⟩,⟨b1,ci,rfl,ii,li,bY⟩,⟨S,cs,rfl,is,ls,ms⟩⟩:=bD;obtain⟨s1,s2,a',bb,bc⟩:=bE;obtain⟨X,ao,ap⟩:=aK (bC.GB op) (λW=>bC.Cn op.k W) (λb W (j:Below w.heap.size w W)=>qZ (bC.mR b D cD op.I B W (qJ ah j.size) s1 (a8.below (j.mono ah))) (qZ (bC.mR b T aD op.a B W (qJ ah j.size) s2 (it.below (j.mono ah))) (qZ (bC.mR b O co op.l B W (qJ ah j.size) a' (io.below (j.mono ah))) (qZ (bC.mR b b1 ci op.h B W (qJ ah j.size) bb (ii.below (j.mono ah))) (bC.mR b S cs op.s B W (qJ ah j.size) bc (is.below (j.mono ah)))))));clear a8 it io ii is s1 s2 a' bb bc;generalize bC.DI op.k=Y at X ao;generalize bC.HZ op.k=Z at X ao;generalize bC.sc op.k=bA at X ao;generalize bC.H0 op.k=cq at X ao;have be:=qQ (qK w.heap.size w);obtain⟨bM,bF,a9,ba,bK⟩:=b8 w 58 #[.int .i64 op.k,.slice D op.I.length cD,.slice T op.a.length aD,.slice O op.l.length co,.slice b1 op.h.length ci,.slice S op.s.length cs,.int .i64 op.v];obtain⟨b2,bG,a3,aU,b0⟩:=b8 bM 58 #[.int .i64 0,.slice none 0 0,.slice none 0 0,.slice none 0 0,.slice none 0 0,.slice none 0 0,.int .i64 0];have bg:=qQ (aA ba aU);rw[bK]at a3;have aT:=qQ (a9.go aU);have bm:=qQ a3;clear a9 a3 ba aU be;go_enter func75,ntmps75;have bT:=λi=>aT.q.cell i
 go_wp2_with fail;clear bT
 (with_reducible refine(ao.q _).mono ?_)
 rintro e ag ⟨rfl,ak⟩;go_wp2_with fail;obtain⟨aC,a7,a0,az,s2⟩:=b8 ag 119 #[.bool Y,.bool Z,.bool bA,.bool bA,.bool bA,.bool cq];rw[a7];have bf:=qQ (aA bg.q (aA ak az));have aJ:=λW (j:Below aC.heap.size aC W)=>qZ (λi=>(((aT.q.go ak).go az).go j).cell i) (λi=>(a0.go j).cell i)
 have ep:=qQ (λW (j:Below aC.heap.size aC W)=>aA bf.q j);have bw:∀(args:Array Value) (W:World),(callFunc 93 args).run Tryz.prog W=.ok (.enter 93 args) W:=λ_ _=>rfl
 have b3:=ak.size;obtain⟨bo,bn,bp⟩:=aK (λW (j:Below aC.heap.size aC W)=>((aT.q.go ak).go az).go j) (λW (j:Below aC.heap.size aC W)=>a0.go j) (λW (j:Below aC.heap.size aC W)=>((bm.q.go ak).go az).go j);clear ak az a0 a7 bF bG;refine aH (l:=[_]) [(0,9,[]),(1,10,[0]),(2,11,[]),(3,12,[]),(4,13,[3]),(5,14,[]),(6,15,[5]),(7,16,[2,4,6]),(8,17,[]),(9,18,[]),(10,19,[9]),(11,20,[]),(12,21,[11]),(13,22,[8,10,12]),(14,23,[]),(15,24,[]),(16,25,[15]),(17,26,[]),(18,27,[17]),(19,28,[14,16,18]),(20,29,[]),(21,30,[]),(22,31,[21]),(23,32,[]),(24,33,[23]),(25,34,[20,22,24]),(26,35,[]),(27,36,[]),(28,37,[27]),(29,38,[]),(30,39,[29]),(31,40,[26,28,30]),(32,41,[1,7,13,19,25,31]),(33,5,[])] [34] [.eq _,.eq _,.eq _,.eq (.pointer (some ⟨w.heap.size,1,none⟩)),.eq (.slice D op.I.length cD),.eq (.pointer (some ⟨ag.heap.size,0,none⟩)),.eq (.bool Y),bC.Ae w.heap.size (bC.kept Y op.I),.eq (.func (.func 93) #[] #[]),.eq (.pointer (some ⟨w.heap.size,2,none⟩)),.eq (.slice T op.a.length aD),.eq (.pointer (some ⟨ag.heap.size,1,none⟩)),.eq (.bool Z),bC.Ae w.heap.size (bC.kept Z op.a),.eq (.func (.func 93) #[] #[]),.eq (.pointer (some ⟨w.heap.size,3,none⟩)),.eq (.slice O op.l.length co),.eq (.pointer (some ⟨ag.heap.size,2,none⟩)),.eq (.bool bA),bC.Ae w.heap.size (bC.kept bA op.l),.eq (.func (.func 93) #[] #[]),.eq (.pointer (some ⟨w.heap.size,4,none⟩)),.eq (.slice b1 op.h.length ci),.eq (.pointer (some ⟨ag.heap.size,3,none⟩)),.eq (.bool bA),bC.Ae w.heap.size (bC.kept bA op.h),.eq (.func (.func 93) #[] #[]),.eq (.pointer (some ⟨w.heap.size,5,none⟩)),.eq (.slice S op.s.length cs),.eq (.pointer (some ⟨ag.heap.size,4,none⟩)),.eq (.bool bA),bC.Ae w.heap.size (bC.kept bA op.s),bC.L1 w.heap.size ⟨op.k,bC.kept Y op.I,bC.kept Z op.a,bC.kept bA op.l,bC.kept bA op.h,bC.kept bA op.s,0⟩,.aL aC.heap.size 58 #[.int .i64 0,.slice none 0 0,.slice none 0 0,.slice none 0 0,.slice none 0 0,.slice none 0 0,.int .i64 0]]
  (λW=>Below aC.heap.size aC W) (qK _ _).drew ((fr)<|(fr)<|(fr)<|(fr)<|(fr)<|(fr)<|(fr)<|cr ?_<|(fr)<|(fr)<|(fr)<|(fr)<|(fr)<|cr ?_<|(fr)<|(fr)<|(fr)<|(fr)<|(fr)<|cr ?_<|(fr)<|(fr)<|(fr)<|(fr)<|(fr)<|cr ?_<|(fr)<|(fr)<|(fr)<|(fr)<|(fr)<|cr ?_<|cr ?_<|cr ?_<|fg) ?_ (λ_ _ h bs=>aA h bs)
 .intros;subst_vars;rename_i W a_ K aI;go_simp
  (with_reducible refine((ap.q Y W (ep.q W a_)).1).mono ?_);rintro e w' ⟨v,rfl,c2,bS⟩
  exact Xn
 .intros;subst_vars;rename_i W a_ K aI;go_simp
  (with_reducible refine((ap.q Z W (ep.q W a_)).2.1).mono ?_);rintro e w' ⟨v,rfl,c2,bS⟩
  exact Xn
 .intros;subst_vars;rename_i W a_ K aI;go_simp
  (with_reducible refine((ap.q bA W (ep.q W a_)).2.2.1).mono ?_);rintro e w' ⟨v,rfl,c2,bS⟩
  exact Xn
 .intros;subst_vars;rename_i W a_ K aI;go_simp
  (with_reducible refine((ap.q bA W (ep.q W a_)).2.2.2.1).mono ?_);rintro e w' ⟨v,rfl,c2,bS⟩
  exact Xn
 .intros;subst_vars;rename_i W a_ K aI;go_simp
  (with_reducible refine((ap.q bA W (ep.q W a_)).2.2.2.2).mono ?_);rintro e w' ⟨v,rfl,c2,bS⟩
  exact Xn
 .intros;subst_vars;rename_i c2 bS aE aF aG K aI;obtain⟨aQ,aO,rfl,_⟩:=id c2;obtain⟨bt,bz,rfl,_⟩:=id bS;obtain⟨aN,aV,rfl,_⟩:=id aE;obtain⟨aP,aW,rfl,_⟩:=id aF;obtain⟨aR,aX,rfl,_⟩:=id aG;go_simp;exact aI.q _ _ (qK _ _) ⟨_,_,_,_,_,rfl,c2,bS,aE,aF,aG⟩
 .intros;subst_vars;rename_i W a_ K aI;go_simp;exact aI.q _ _ ((qK _ _).alloc (qX _) _) ⟨_,rfl,a_.size,av.new _ _ _⟩
 intros;subst_vars;rename_i W a_ c2 bS aE aF aG bu bv;obtain⟨u1,u2,u3,u4,u5,rfl,E,M,Q,U,V⟩:=bu;obtain⟨g,rfl,bP,m⟩:=bv;obtain⟨aQ,aO,rfl,_⟩:=id E;obtain⟨bt,bz,rfl,_⟩:=id M;obtain⟨aN,aV,rfl,_⟩:=id Q;obtain⟨aP,aW,rfl,_⟩:=id U;obtain⟨aR,aX,rfl,_⟩:=id V;have br:=qQ (bn.q W a_);have bJ:=λi=>m.frozen i
 have bH:=λi=>m.cell i
 clear c2 bS aE aF aG;have bB:ag.heap.size≠g:=by omega
 have a6:w.heap.size+1≠g:=by omega
 have bq:=qQ (bp.q W a_);refine str m _ ?_;intro aw a1 r z3;have bN:=λi=>(r.aL br.q bB).cell i
 have y:=qQ (r.aL bq.q a6);have bh:=qQ a1;have bV:=a_.size;have a4:=qQ ((ep.q W a_).trans (r.at_ (by omega) (by omega)));have a5:=qQ (qZ (E.bI r m (by decide)) (qZ (M.bI r m (by decide)) (qZ (Q.bI r m (by decide)) (qZ (U.bI r m (by decide)) (V.bI r m (by decide))))));have bQ:=λi=>a1.cell i
 have bR:=λi=>a1.frozen i
 have bO:aw.cell? ⟨w.heap.size,6,none⟩=some (.int .i64 op.v):=(r.aL (bo.q W a_) (by omega)).cell 6;clear bJ bH aJ m bw E M Q U V;cases cq
 .go_wp2_with (refine str y.q _ ?_;intro bL a2 x z4);have aZ:=λi=>a2.cell i
  refine qR (v:=.agg #[.int .i64 op.k,.slice aQ (bC.kept Y op.I).length aO,.slice bt (bC.kept Z op.a).length bz,.slice aN (bC.kept bA op.l).length aV,.slice aP (bC.kept bA op.h).length aW,.slice aR (bC.kept bA op.s).length aX,.int .i64 0]) (by simp[results,results75,go_sem,aZ]) rfl ⟨_,rfl,?_,a4.q.trans (x.at_ (by omega) (by omega))⟩;rw[X.q];obtain⟨E,M,Q,U,V⟩:=a5.q;exact⟨_,_,_,_,_,rfl,E.bI x y.q (by decide),M.bI x y.q (by decide),Q.bI x y.q (by decide),U.bI x y.q (by decide),V.bI x y.q (by decide)⟩
 have aq:=qQ (qZ (y.q.cR (p:=⟨g,6,none⟩) a6 (.int .i64 op.v)) (ch.set aw ⟨g,6,none⟩ (.int .i64 op.v)));have bU:=aq.q.2.size;go_wp2_with (refine str aq.q.1 _ ?_;intro bL a2 x z4);have aZ:=λi=>a2.cell i
 refine qR (v:=.agg #[.int .i64 op.k,.slice aQ (bC.kept Y op.I).length aO,.slice bt (bC.kept Z op.a).length bz,.slice aN (bC.kept bA op.l).length aV,.slice aP (bC.kept bA op.h).length aW,.slice aR (bC.kept bA op.s).length aX,.int .i64 op.v]) (by simp[results,results75,go_sem,aZ]) rfl ⟨_,rfl,?_,(a4.q.trans (aq.q.2.at_ (N:=w.heap.size) (show w.heap.size<=g by omega) (by omega))).trans (x.at_ (by omega) (by omega))⟩;rw[X.q];obtain⟨E,M,Q,U,V⟩:=a5.q;have aB:=λ{v l} (q:bC.tV w.heap.size aw v l)=>(q.bI aq.q.2 bh.q (by decide)).bI x aq.q.1 (by decide)
 exact⟨_,_,_,_,_,rfl,aB E,aB M,aB Q,aB U,aB V⟩
abbrev aY.B(B b:Nat)(p:Value)(dL:List Value)(w:World):Prop:=Lib.BuilderAt 125 5 B b p dL w
abbrev aY.b1(B b:Nat)(dL:List Value)(w:World):Prop:=Lib.IsBuilder 125 5 B b dL w
def aY.Fr(b:Nat)(w w':World):Prop:=ch (λk=>k=b\/∃cs i,w.heap[k]?=some (.cells cs 5 i)) w w'
theorem aY.Fr.trans{b:Nat}{x y z:World}(h:aY.Fr b x y)(k:aY.Fr b y z):aY.Fr b x z:=ch.trans h k λn j=>by
 rcases jQ n x.heap.size with i | i
 .by_cases hu:n=b\/∃cs m,x.heap[n]?=some (.cells cs 5 m)
  .exact .inl hu
  have:=h.block n i hu;rw[this]at j;exact .inl j
 exact .inr i
theorem aY.Fr.of{b:Nat}{w w':World}(h:Below w.heap.size w w'):aY.Fr b w w':=ch.of h
theorem aY.Fr.set{b:Nat}(w:World)(o:Nat)(u:Value):aY.Fr b w (w.setCell ⟨b,o,none⟩ u):=(ch.set w ⟨b,o,none⟩ u).mono λ_ h=>.inl h
theorem aY.Fr.grown{b B n:Nat}{v:Value}{xs:List Value}{w w':World}(h:w.ownsRow B 5 1 v n xs)(m:w.grownBy w' v.ownBlock):aY.Fr b w w':=(ch.grown m).mono λk i=>by
 rcases h.2 with ⟨j,_⟩ | ⟨g,cap,cur,j,_,q,_⟩
 .subst j;cases i
 subst j;simp only[Value.ownBlock,zZ]at i;subst i;exact .inr ⟨_,_,q⟩
theorem aY.check(B b:Nat)(dL:List Value)(w:World)(h:aY.b1 B b dL w):Calls Tryz.prog 129 #[.pointer (some ⟨b,0,none⟩)] w λe w'=>e=.returned (.tuple #[])/\aY.B B b (.pointer (some ⟨b,0,none⟩)) dL w'/\Below B w w'/\aY.Fr b w w':=by
 have D:(Tryz.prog.info? 125).map (·.size)=some 2:=by kernel_rfl
 obtain⟨j,m,y⟩:=Option.map_eq_some_iff.1 D;rcases h with h | h
 .have x:=h.cell0;have r:=h.shape;have E:=h.frozen0;have i:=qQ h;clear h;go_enter func129,ntmps129;go_wp2;rw[Lib.run_to_unsafe w ⟨b,0,none⟩ underlying122 underlying183 m (by rw[y];decide) r (Nat.zero_lt_succ 1)];simp only[Result.andThen];rw[pF];go_wp2;rw[run_callFunc_extern func163 (by kernel_rfl) (by kernel_rfl) (by kernel_rfl) (e:=Extern.AbiNoEscape.same) (by kernel_rfl)];rw[Lib.run_noEscape];simp only[Result.andThen];rw[pF];go_wp2;rw[Lib.run_from_unsafe w ⟨b,0,none⟩ underlying183 underlying122 m r (by kernel_rfl)];simp only[Result.andThen];rw[pF];go_wp2;go_end0;exact⟨rfl,i.q.used _,(qK B w).setCell (p:=⟨b,0,none⟩) i.q.1 _,aY.Fr.set _ _ _⟩
 have x:=h.cell0;have i:=qQ h;clear h;go_enter func129,ntmps129;go_wp2;rw[Lib.run_neq_ptr_same w _ underlying122 m];go_wp2;go_end0;exact⟨rfl,i.q,qK _ _,aY.Fr.of (qK _ _)⟩
theorem aY.at_{B:Nat}(h:aY.B B b (.pointer (some ⟨b,0,none⟩)) dL w):B<=b/\∃A n c,w.heap[b]?=some (.cells #[.pointer (some ⟨b,0,none⟩),.slice A n c] 125 (0,0))/\w.ownsRow B 5 1 (.slice A n c) dL.length dL/\(Value.slice A n c).ownBlock≠some b:=by
 obtain⟨ah,v,m,i,q⟩:=h;refine⟨ah,?_⟩;rcases i.2 with ⟨j,_⟩ | ⟨g,cap,cur,j,_⟩
 .subst j;exact⟨_,_,_,m,i,q⟩
 subst j;exact⟨_,_,_,m,i,q⟩
theorem aY.byte(B b:Nat)(dL:List Value)(c:Int)(w:World)(h:aY.b1 B b dL w)(hlen:dL.length+1<=140737488355328)(av:B<=w.heap.size):Calls Tryz.prog 97 #[.pointer (some ⟨b,0,none⟩),.int .u8 c] w λe w'=>e=.returned .nilIface/\aY.B B b (.pointer (some ⟨b,0,none⟩)) (dL++[.int .u8 c]) w'/\Below B w w'/\aY.Fr b w w':=by
 obtain⟨i0,hi,ak,ao,ap⟩:=xQ (show(Tryz.prog.info? 5).map (λi=>(i.zero,i.size,i.bytes))=some (some (.int .u8 0),1,1) by kernel_rfl);have Q:=qQ (aY.check B b dL w h);clear h;go_enter func97,ntmps97;go_wp2_with (with_reducible refine Q.q.mono ?_);rintro e ag ⟨rfl,M,y,N⟩;obtain⟨ah,A,n,c',E,x,Y⟩:=aY.at_ M;have O:=qQ y;have az:=y.size;have V:ag.cell? ⟨b,1,none⟩=some (.slice A n c'):=by rw[uM E];rfl
 have U:=qQ N;clear M y N;go_wp2_with (at_builtin;refine kP _ rfl _ _ 123 rfl B 5 i0 (.int .u8 0) 1 1 underlying123 hi ak ao ap rfl (by decide) _ _ _ rfl (x.alloc _) ⟨ag.heap.size,0,none⟩ 1 1 [.int .u8 c] rfl rfl (λj u r=>by match j,r with | 0,r=>simp at r;subst r;simp[Addr.add]) (by intro u hu;simp at hu;subst hu;rfl) (by unfold maxLen;omega) (by omega) (by simp;omega) ?_);intro v' aC I m _;have X:b<ag.heap.size:=(Array.getElem?_eq_some_iff.1 E).1;have D:aC.heap[b]?=some (.cells #[.pointer (some ⟨b,0,none⟩),.slice A n c'] 125 (0,0)):=by
  rw[m.block b (by simp;omega) (λe=>Y e.symm),yJ ag _ b X];exact E
 have ar:aC.cell? ⟨b,1,none⟩=some (.slice A n c'):=by rw[uM D];rfl
 have f1:aC.frozen? ⟨b,1,none⟩=false:=Lib.frozen_of_heap D 1;obtain⟨g,cap,rfl⟩:∃g cap,v'=.slice (some ⟨g,0,none⟩) (dL.length+1) cap:=by
  rcases I.2 with ⟨_,aq⟩ | ⟨g,cap,cur,Z,_⟩
  .omega
  exact⟨g,cap,Z⟩
 have S:=qQ (qZ (Lib.BuilderAt.put (T:=125) (e:=5) ah D (bs':=dL++[.int .u8 c]) (by simpa using I) (by decide)) (qZ (((O.q.alloc (by omega) _).grown m (by simp;omega) (λk W=>(x.lt k W).1)).setCell (p:=⟨b,1,none⟩) ah (.slice (some ⟨g,0,none⟩) (dL.length+1) cap)) (((U.q.trans (aY.Fr.of ((qK _ _).alloc (qX _) _))).trans (aY.Fr.grown (x.alloc _) m)).trans (aY.Fr.set _ 1 (.slice (some ⟨g,0,none⟩) (dL.length+1) cap)))));clear V x I m;go_wp2;go_ret;exact⟨rfl,S.q⟩
theorem aY.str(B b:Nat)(dL:List Value)(s:ByteArray)(w:World)(h:aY.b1 B b dL w)(hlen:dL.length+s.size<=140737488355328)(ap:B<=w.heap.size):Calls Tryz.prog 95 #[.pointer (some ⟨b,0,none⟩),.string s] w λe w'=>e=.returned (.tuple #[.int .i64 s.size,.nilIface])/\aY.B B b (.pointer (some ⟨b,0,none⟩)) (dL++Lib.strCells s) w'/\Below B w w'/\aY.Fr b w w':=by
 obtain⟨i0,hi,Z,ak,ao⟩:=xQ (show(Tryz.prog.info? 5).map (λi=>(i.zero,i.size,i.bytes))=some (some (.int .u8 0),1,1) by kernel_rfl);have Q:=qQ (aY.check B b dL w h);clear h;go_enter func95,ntmps95;go_wp2_with (with_reducible refine Q.q.mono ?_);rintro e ag ⟨rfl,M,x,N⟩;obtain⟨ah,A,n,c',D,r,Y⟩:=aY.at_ M;have O:=qQ x;have aq:=x.size;have V:ag.cell? ⟨b,1,none⟩=some (.slice A n c'):=by rw[uM D];rfl
 have U:=qQ N;clear M x N;go_wp2_with (at_builtin;refine Lib.wpList_append_own_string _ rfl _ _ 123 9 rfl B 5 i0 underlying123 underlying9 hi Z ak ao _ _ _ rfl r s rfl (by unfold maxLen;omega) (by omega) (by omega) ?_);intro v' aC E m _;have X:b<ag.heap.size:=(Array.getElem?_eq_some_iff.1 D).1;have y:aC.heap[b]?=some (.cells #[.pointer (some ⟨b,0,none⟩),.slice A n c'] 125 (0,0)):=by
  rw[m.block b X (λe=>Y e.symm)];exact D
 have ar:aC.cell? ⟨b,1,none⟩=some (.slice A n c'):=by rw[uM y];rfl
 have f1:aC.frozen? ⟨b,1,none⟩=false:=Lib.frozen_of_heap y 1;obtain⟨j,n',cap,rfl⟩:∃j n' cap,v'=.slice j n' cap:=by
  rcases E.2 with ⟨I,_⟩ | ⟨g,cap,cur,I,_⟩
  .exact⟨_,_,_,I⟩
  exact⟨_,_,_,I⟩
 have S:=qQ (qZ (Lib.BuilderAt.put (T:=125) (e:=5) ah y (bs':=dL++Lib.strCells s) (by simpa[Lib.strCells_length]using E) (by decide)) (qZ ((O.q.grown m (by omega) (λk W=>(r.lt k W).1)).setCell (p:=⟨b,1,none⟩) ah (.slice j n' cap)) ((U.q.trans (aY.Fr.grown r m)).trans (aY.Fr.set _ 1 (.slice j n' cap)))));clear V r E m;go_wp2
 go_ret2
 exact⟨rfl,S.q⟩
end Go.Proofs.YtabmnaaidfpmcaaGreatDoor
end
section
namespace Go.Proofs
open Go.Shelf
def Tryz.rT:Go.Shelf.Ren:=⟨λ| 169=>99 | n=>n,λ| 70=>122 | 9=>9 | 0=>0 | 72=>125 | 37=>123 | 127=>162 | 3=>3 | 5=>5 | n=>n,λ| n=>n⟩
theorem Tryz.Ir:Go.Proofs.Lays.n169 Tryz.prog Tryz.rT:={
 mixed:=by kernel_rfl
 f169:=func99.trans (congrArg some (by kernel_rfl))
 t0:=underlying0
 a0:=Tryz.isAgg0
 z0:=Tryz.sizeOf0
 v0:=Tryz.zeroValue0
 t3:=underlying3
 a3:=Tryz.isAgg3
 z3:=Tryz.sizeOf3
 v3:=Tryz.zeroValue3
 t9:=underlying9
 a9:=Tryz.isAgg9
 z9:=Tryz.sizeOf9
 v9:=Tryz.zeroValue9
 t37:=underlying123
 a37:=Tryz.isAgg123
 z37:=Tryz.sizeOf123
 v37:=Tryz.zeroValue123
 t70:=underlying122
 a70:=Tryz.isAgg122
 z70:=Tryz.sizeOf122
 v70:=Tryz.zeroValue122
 t72:=underlying125
 a72:=Tryz.isAgg125
 z72:=Tryz.sizeOf125
 v72:=Tryz.zeroValue125
 t127:=underlying162
 a127:=Tryz.isAgg162
 z127:=Tryz.sizeOf162
 v127:=Tryz.zeroValue162 }
theorem Tryz.rp:Builder.Extra Tryz.prog Tryz.rT:={
 sizeBuilder:=by kernel_rfl
 liesBuilder:=by kernel_rfl
 t5:=underlying5
 a5:=Tryz.isAgg5
 z5:=Tryz.sizeOf5
 v5:=Tryz.zeroValue5
 infoByte:=by kernel_rfl
 cellsByte:=by kernel_rfl
 sizeByte:=by kernel_rfl
 neB5:=by decide }
open Go.RowKit in
theorem Tryz.Builder_String_any(B b:Nat)(l:List UInt8)(w:World)(h:Lib.IsBuilder 125 5 B b (Lib.byteCells l) w)(i:B<=w.heap.size):Calls Tryz.prog 99 #[.pointer (some ⟨b,0,none⟩)] w λe w'=>e=.returned (.string ⟨l.toArray⟩)/\Below B w w':=Any.Builder_String_any Tryz.Ir Tryz.rp B b l w h i
open Go.RowKit Go.Sort Go.Lib in
def Tryz.zb:Go.Shelf.Ren:=⟨λ| 171=>96 | 243=>130 | 246=>131 | 283=>164 | 284=>165 | 285=>166 | 286=>167 | 129=>150 | 317=>186 | 318=>187 | 319=>188 | 320=>189 | 337=>195 | 338=>196 | n=>n,λ| 3=>3 | 9=>9 | 2=>2 | 4=>4 | 171=>185 | 0=>0 | 53=>179 | 37=>123 | 5=>5 | 173=>187 | 212=>208 | 51=>177 | 20=>20 | 213=>209 | 46=>149 | 232=>213 | 233=>214 | n=>n,λ| 17=>0 | 18=>1 | 19=>2 | n=>n⟩
theorem Tryz.Gn:Go.Proofs.LaysM.n171 Tryz.prog Tryz.zb:={
 mixed:=by kernel_rfl
 f129:=func150.trans (congrArg some (by kernel_rfl))
 f171:=func96.trans (congrArg some (by kernel_rfl))
 f243:=func130.trans (congrArg some (by kernel_rfl))
 f246:=func131.trans (congrArg some (by kernel_rfl))
 f283:=func164.trans (congrArg some (by kernel_rfl))
 f284:=func165.trans (congrArg some (by kernel_rfl))
 f285:=func166.trans (congrArg some (by kernel_rfl))
 f286:=func167.trans (congrArg some (by kernel_rfl))
 f317:=func186.trans (congrArg some (by kernel_rfl))
 f318:=func187.trans (congrArg some (by kernel_rfl))
 f319:=func188.trans (congrArg some (by kernel_rfl))
 f320:=func189.trans (congrArg some (by kernel_rfl))
 f337:=func195.trans (congrArg some (by kernel_rfl))
 f338:=func196.trans (congrArg some (by kernel_rfl))
 t0:=underlying0
 a0:=Tryz.isAgg0
 z0:=Tryz.sizeOf0
 v0:=Tryz.zeroValue0
 t2:=underlying2
 a2:=Tryz.isAgg2
 z2:=Tryz.sizeOf2
 v2:=Tryz.zeroValue2
 t3:=underlying3
 a3:=Tryz.isAgg3
 z3:=Tryz.sizeOf3
 v3:=Tryz.zeroValue3
 t4:=underlying4
 a4:=Tryz.isAgg4
 z4:=Tryz.sizeOf4
 v4:=Tryz.zeroValue4
 t5:=underlying5
 a5:=Tryz.isAgg5
 z5:=Tryz.sizeOf5
 v5:=Tryz.zeroValue5
 t9:=underlying9
 a9:=Tryz.isAgg9
 z9:=Tryz.sizeOf9
 v9:=Tryz.zeroValue9
 t20:=underlying20
 a20:=Tryz.isAgg20
 z20:=Tryz.sizeOf20
 v20:=Tryz.zeroValue20
 t37:=underlying123
 a37:=Tryz.isAgg123
 z37:=Tryz.sizeOf123
 v37:=Tryz.zeroValue123
 t46:=underlying149
 a46:=Tryz.isAgg149
 z46:=Tryz.sizeOf149
 v46:=Tryz.zeroValue149
 t51:=underlying177
 a51:=Tryz.isAgg177
 z51:=Tryz.sizeOf177
 v51:=Tryz.zeroValue177
 t53:=underlying179
 a53:=Tryz.isAgg179
 z53:=Tryz.sizeOf179
 v53:=Tryz.zeroValue179
 t171:=underlying185
 a171:=Tryz.isAgg185
 z171:=Tryz.sizeOf185
 v171:=Tryz.zeroValue185
 t173:=underlying187
 a173:=Tryz.isAgg187
 z173:=Tryz.sizeOf187
 v173:=Tryz.zeroValue187
 t212:=underlying208
 a212:=Tryz.isAgg208
 z212:=Tryz.sizeOf208
 v212:=Tryz.zeroValue208
 t213:=underlying209
 a213:=Tryz.isAgg209
 z213:=Tryz.sizeOf209
 t232:=underlying213
 a232:=Tryz.isAgg213
 z232:=Tryz.sizeOf213
 v232:=Tryz.zeroValue213
 t233:=underlying214
 a233:=Tryz.isAgg214
 z233:=Tryz.sizeOf214
 v233:=Tryz.zeroValue214
 g17:=by kernel_rfl
 g18:=by kernel_rfl
 g19:=by kernel_rfl
 i0:=by kernel_rfl
 i2:=by kernel_rfl
 i3:=by kernel_rfl
 i4:=by kernel_rfl
 i5:=by kernel_rfl
 i9:=by kernel_rfl
 i20:=by kernel_rfl
 i37:=by kernel_rfl
 i46:=by kernel_rfl
 i51:=by kernel_rfl
 i53:=by kernel_rfl
 i171:=by kernel_rfl
 i173:=by kernel_rfl
 i212:=by kernel_rfl
 i232:=by kernel_rfl
 i233:=by kernel_rfl
 m17:=by kernel_rfl
 m18:=by kernel_rfl
 m19:=by kernel_rfl }
open Go.RowKit Go.Sort Go.Lib in
theorem Tryz.strconv_Itoa(n:Int)(i:-9223372036854775808<=n)(j:n<=9223372036854775807)(w:World)(m:Lib.TabIs Tryz.prog w "internal/strconv.uint64pow10" .u64 Lib.pow10Tab):Calls Tryz.prog 96 #[.int .i64 n] w λe w'=>e=.returned (.string ⟨(Lib.itoa n).toArray⟩)/\∃k os,w'=grow (w.drewN k) os:=Any.strconv_Itoa Tryz.Gn n i j w m
open Go.RowKit Go.Sort Go.Lib in
def Tryz.zc:Go.Shelf.Ren:=⟨λ| 173=>98 | 246=>131 | 283=>164 | 284=>165 | 285=>166 | 286=>167 | 129=>150 | 317=>186 | 318=>187 | 319=>188 | 320=>189 | 337=>195 | 338=>196 | n=>n,λ| 2=>2 | 3=>3 | 9=>9 | 4=>4 | 171=>185 | 0=>0 | 53=>179 | 37=>123 | 5=>5 | 173=>187 | 212=>208 | 51=>177 | 20=>20 | 213=>209 | 46=>149 | 232=>213 | 233=>214 | n=>n,λ| 17=>0 | 18=>1 | 19=>2 | n=>n⟩
theorem Tryz.Gp:Go.Proofs.LaysM.n173 Tryz.prog Tryz.zc:={
 mixed:=by kernel_rfl
 f129:=func150.trans (congrArg some (by kernel_rfl))
 f173:=func98.trans (congrArg some (by kernel_rfl))
 f246:=func131.trans (congrArg some (by kernel_rfl))
 f283:=func164.trans (congrArg some (by kernel_rfl))
 f284:=func165.trans (congrArg some (by kernel_rfl))
 f285:=func166.trans (congrArg some (by kernel_rfl))
 f286:=func167.trans (congrArg some (by kernel_rfl))
 f317:=func186.trans (congrArg some (by kernel_rfl))
 f318:=func187.trans (congrArg some (by kernel_rfl))
 f319:=func188.trans (congrArg some (by kernel_rfl))
 f320:=func189.trans (congrArg some (by kernel_rfl))
 f337:=func195.trans (congrArg some (by kernel_rfl))
 f338:=func196.trans (congrArg some (by kernel_rfl))
 t0:=underlying0
 a0:=Tryz.isAgg0
 z0:=Tryz.sizeOf0
 v0:=Tryz.zeroValue0
 t2:=underlying2
 a2:=Tryz.isAgg2
 z2:=Tryz.sizeOf2
 v2:=Tryz.zeroValue2
 t3:=underlying3
 a3:=Tryz.isAgg3
 z3:=Tryz.sizeOf3
 v3:=Tryz.zeroValue3
 t4:=underlying4
 a4:=Tryz.isAgg4
 z4:=Tryz.sizeOf4
 v4:=Tryz.zeroValue4
 t5:=underlying5
 a5:=Tryz.isAgg5
 z5:=Tryz.sizeOf5
 v5:=Tryz.zeroValue5
 t9:=underlying9
 a9:=Tryz.isAgg9
 z9:=Tryz.sizeOf9
 v9:=Tryz.zeroValue9
 t20:=underlying20
 a20:=Tryz.isAgg20
 z20:=Tryz.sizeOf20
 v20:=Tryz.zeroValue20
 t37:=underlying123
 a37:=Tryz.isAgg123
 z37:=Tryz.sizeOf123
 v37:=Tryz.zeroValue123
 t46:=underlying149
 a46:=Tryz.isAgg149
 z46:=Tryz.sizeOf149
 v46:=Tryz.zeroValue149
 t51:=underlying177
 a51:=Tryz.isAgg177
 z51:=Tryz.sizeOf177
 v51:=Tryz.zeroValue177
 t53:=underlying179
 a53:=Tryz.isAgg179
 z53:=Tryz.sizeOf179
 v53:=Tryz.zeroValue179
 t171:=underlying185
 a171:=Tryz.isAgg185
 z171:=Tryz.sizeOf185
 v171:=Tryz.zeroValue185
 t173:=underlying187
 a173:=Tryz.isAgg187
 z173:=Tryz.sizeOf187
 v173:=Tryz.zeroValue187
 t212:=underlying208
 a212:=Tryz.isAgg208
 z212:=Tryz.sizeOf208
 v212:=Tryz.zeroValue208
 t213:=underlying209
 a213:=Tryz.isAgg209
 z213:=Tryz.sizeOf209
 t232:=underlying213
 a232:=Tryz.isAgg213
 z232:=Tryz.sizeOf213
 v232:=Tryz.zeroValue213
 t233:=underlying214
 a233:=Tryz.isAgg214
 z233:=Tryz.sizeOf214
 v233:=Tryz.zeroValue214
 g17:=by kernel_rfl
 g18:=by kernel_rfl
 g19:=by kernel_rfl
 i0:=by kernel_rfl
 i2:=by kernel_rfl
 i3:=by kernel_rfl
 i4:=by kernel_rfl
 i5:=by kernel_rfl
 i9:=by kernel_rfl
 i20:=by kernel_rfl
 i37:=by kernel_rfl
 i46:=by kernel_rfl
 i51:=by kernel_rfl
 i53:=by kernel_rfl
 i171:=by kernel_rfl
 i173:=by kernel_rfl
 i212:=by kernel_rfl
 i232:=by kernel_rfl
 i233:=by kernel_rfl
 m17:=by kernel_rfl
 m18:=by kernel_rfl
 m19:=by kernel_rfl }
open Go.RowKit Go.Sort Go.Lib in
theorem Tryz.strconv_FormatInt_10(n:Int)(i:-9223372036854775808<=n)(j:n<=9223372036854775807)(w:World)(m:Lib.TabIs Tryz.prog w "internal/strconv.uint64pow10" .u64 Lib.pow10Tab):Calls Tryz.prog 98 #[.int .i64 n,.int .i64 10] w λe w'=>e=.returned (.string ⟨(Lib.itoa n).toArray⟩)/\∃k os,w'=grow (w.drewN k) os:=Any.strconv_FormatInt_10 Tryz.Gp n i j w m
end Go.Proofs
end
section
namespace dD
open Go.Lib (itoa decDigits)
def tY(l:List UInt8):Nat:=l.foldl (λa c=>10*a+(c.toNat-48)) 0
theorem DT(l:List UInt8)(c:UInt8):tY (l++[c])=10*tY l+(c.toNat-48):=by unfold tY;rw[jE];rfl
theorem ns{d:Nat}(h:d<10):(UInt8.ofNat (48+d)).toNat=48+d:=by
 rw[UInt8.toNat_ofNat'];omega
theorem oJ(u:Nat):tY (decDigits u)=u:=by
 induction u using Nat.strongRecOn with
 | _ u i =>
  by_cases h:u<10
  .rw[decDigits,dif_pos h];have:=ns h;show 10*0+((UInt8.ofNat (48+u)).toNat-48)=u;omega
  rw[decDigits,dif_neg h,DT,i (u / 10) (by omega),ns (by omega)];omega
theorem Bm(u:Nat):∀c∈decDigits u,48<=c.toNat/\c.toNat<=57:=by
 induction u using Nat.strongRecOn with
 | _ u m =>
  intro c j;by_cases h:u<10
  .rw[decDigits,dif_pos h,kS]at j;subst j;rw[ns h];omega
  rw[decDigits,dif_neg h]at j;rcases List.mem_append.1 j with i | i
  .exact m (u / 10) (by omega) c i
  rw[kS]at i;subst i;rw[ns (by omega)];omega
theorem sx(n:Int):∀c∈itoa n,c≠32/\c≠59:=by
 intro c i;have ar:∀u,c∈decDigits u->c≠32/\c≠59:=λu h=>by
  have:=Bm u c h;exact⟨λe=>by subst e;revert this;decide,λe=>by subst e;revert this;decide⟩
 unfold itoa at i;split at i
 .rcases List.mem_cons.1 i with e | e
  .subst e;decide
  exact ar _ e
 exact ar _ i
theorem sw{b:Int}(h:itoa a=itoa b):a=b:=by
 have m:∀u,∀l,decDigits u≠45::l:=λu l e=>by
  have:=Bm u 45 (by rw[e];exact zL);revert this;decide
 unfold itoa at h;by_cases j:a<0
 .rw[qY j]at h;by_cases i:b<0
  .rw[qY i]at h;injection h with _ h
   have:=congrArg tY h;rw[oJ,oJ]at this;omega
  rw[qV i]at h;exact absurd h.symm (m _ _)
 rw[qV j]at h;by_cases i:b<0
 .rw[qY i]at h;exact absurd h (m _ _)
 rw[qV i]at h;have:=congrArg tY h;rw[oJ,oJ]at this;omega
theorem pT{c:UInt8} : ∀{p m s s':List UInt8},c∉p->c∉m->p++c::s=m++c::s'->p=m/\s=s'
 | [],[],s,s',_,_,h=>by injection h with _ h;exact⟨rfl,h⟩
 | [],x::m,s,s',_,j,h=>by
  injection h with i _
  exact absurd (by rw[i];exact zL) j
 | x::p,[],s,s',i,_,h=>by
  injection h with j _
  exact absurd (by rw[j];exact zL) i
 | x::p,y::m,s,s',i,j,h=>by
  injection h with e h
  obtain⟨q,r⟩:=pT (λh=>i (zH _ h)) (λh=>j (zH _ h)) h;exact⟨by rw[e,q],r⟩
def dG(l:List Int):List UInt8:=l.flatMap λn=>32::itoa n
def e'(l:List Int):List UInt8:=itoa (l.length:Int)++dG l++[59]
theorem tail_cons(n:Int)(l:List Int):dG (n::l)=32::(itoa n++dG l):=by unfold dG;simp
theorem Fl(l:List Int):(59:UInt8)∉dG l:=by
 intro h;unfold dG at h;obtain⟨n,_,h⟩:=List.mem_flatMap.1 h;rcases List.mem_cons.1 h with e | e
 .revert e;decide
 exact(sx n _ e).2 rfl
theorem head_tail{b:Int}(h:itoa a++dG l=itoa b++dG m):a=b/\dG l=dG m:=by
 have i:∀n:Int,(32:UInt8)∉itoa n:=λn r=>(sx n _ r).1 rfl
 cases l with
 | nil =>
  cases m with
  | nil=>exact⟨sw (by simpa[dG]using h),rfl⟩
  | cons y m =>
   exfalso;rw[tail_cons]at h;have:(32:UInt8)∈itoa a++dG []:=by rw[h];simp
   simp[dG]at this;exact i a this
 | cons x l =>
  cases m with
  | nil =>
   exfalso;rw[tail_cons]at h;have:(32:UInt8)∈itoa b++dG []:=by rw[<-h];simp
   simp[dG]at this;exact i b this
  | cons y m =>
   rw[tail_cons,tail_cons]at h;obtain⟨j,q⟩:=pT (i a) (i b) h;exact⟨sw j,by rw[tail_cons,tail_cons,q]⟩
theorem Ah:∀{l m:List Int},dG l=dG m->l=m
 | [],[],_=>rfl
 | [],y::m,h=>by rw[tail_cons]at h;cases h
 | x::l,[],h=>by rw[tail_cons]at h;cases h
 | x::l,y::m,h=>by
  rw[tail_cons,tail_cons]at h;injection h with _ h
  obtain⟨i,j⟩:=head_tail h;rw[i,Ah j]
theorem k8{s t:List UInt8}(h:e' l++s=e' m++t):l=m/\s=t:=by
 have no:∀l:List Int,(59:UInt8)∉itoa (l.length:Int)++dG l:=λl h=>by
  rcases List.mem_append.1 h with h | h
  .exact(sx _ _ h).2 rfl
  exact Fl l h
 unfold e' at h;simp only[zE,xH,vP]at h;rw[<-zE,<-zE]at h;obtain⟨i,j⟩:=pT (no l) (no m) h;exact⟨Ah (head_tail i).2,j⟩
def n1(x:J.Node):List UInt8:=e' [x.o.k]++(e' x.o.I++(e' x.o.a++(e' x.o.l++(e' x.o.h++(e' x.o.s++(e' x.a++itoa x.o.v))))))
theorem key_inj{x y:J.Node}(h:n1 x=n1 y):x=y:=by
 unfold n1 at h;obtain⟨i,h⟩:=k8 h;obtain⟨j,h⟩:=k8 h;obtain⟨m,h⟩:=k8 h;obtain⟨q,h⟩:=k8 h;obtain⟨r,h⟩:=k8 h;obtain⟨B,h⟩:=k8 h;obtain⟨D,h⟩:=k8 h;have E:=sw h;obtain⟨⟨k,d,a,l,O,s,v⟩,I⟩:=x;obtain⟨⟨S,N,a',l',Q,s',v'⟩,M⟩:=y;simp only at i j m q r B D E;injection i with i
 subst i j m q r B D E;rfl
end dD
end
section
namespace Go.Proofs.YtabmnaaidfpmcaaGreatDoor
open Go.RowKit aS Go.Sort
namespace aY
def In64(n:Int):Prop:=-9223372036854775808<=n/\n<=9223372036854775807
structure nU (B b:Nat) (ak:World) (dL:List UInt8) (w:World):Prop where
 i:b1 B b (Lib.byteCells dL) w
 below:Below B ak w
 fr:Fr b ak w
 le:B<=w.heap.size
abbrev gI(B:Nat)(w:World):Prop:=Lib.TabBelow Tryz.prog B w "internal/strconv.uint64pow10" .u64 Lib.pow10Tab
theorem Hn{B:Nat}{p:Value}(h:aY.B B b p dL w)(i:Below w.heap.size w w'):aY.B B b p dL w':=by
 obtain⟨m,v,j,q,r⟩:=h;have y:=(Array.getElem?_eq_some_iff.1 j).1;refine⟨m,v,(i.block b y).trans j,?_,r⟩;exact q.kept (row:=none) ⟨i.os,i.tape,i.output,i.size,λk x _=>i.block k x⟩ (by cases v.ownBlock<;>simp)
theorem nU.go{B:Nat}{dL:List UInt8}(h:nU B b ak dL w)(j:Below w.heap.size w w'):nU B b ak dL w' :=
 ⟨h.i.imp (Hn · j) (Hn · j),h.below.trans (j.mono h.le),h.fr.trans (Fr.of j),qJ h.le j.size⟩
theorem below_grow(w:World)(k:Nat)(os:Array Obj):Below w.heap.size w (grow (w.drewN k) os):=⟨rfl,rfl,rfl,by simp[grow,World.drewN],λi hi=>by
 show(w.heap++os)[i]?=_;rw[Array.getElem?_append_left hi]⟩
theorem KT{B:Nat}{dL:List UInt8}(h:nU B b ak dL w)(c:UInt8)(r:dL.length+1<=140737488355328):Calls Tryz.prog 97 #[.pointer (some ⟨b,0,none⟩),.int .u8 (c.toNat:Int)] w λe w'=>e=.returned .nilIface/\nU B b ak (dL++[c]) w':=by
 refine(aY.byte B b _ _ w h.i (by simpa[Lib.byteCells]using r) h.le).mono ?_;rintro e w' ⟨rfl,m,j,q⟩;exact⟨rfl,.inr (by simpa[Lib.byteCells]using m),h.below.trans j,h.fr.trans q,qJ h.le j.size⟩
theorem G0{B:Nat}{dL:List UInt8}(h:nU B b ak dL w)(l:List UInt8)(r:dL.length+l.length<=140737488355328):Calls Tryz.prog 95 #[.pointer (some ⟨b,0,none⟩),.string ⟨l.toArray⟩] w λe w'=>(∃v,e=.returned v)/\nU B b ak (dL++l) w':=by
 refine(aY.str B b _ ⟨l.toArray⟩ w h.i (by simpa[Lib.byteCells,ByteArray.size]using r) h.le).mono ?_;rintro e w' ⟨rfl,m,j,q⟩;exact⟨⟨_,rfl⟩,.inr (by simpa[Lib.byteCells,Lib.strCells]using m),h.below.trans j,h.fr.trans q,qJ h.le j.size⟩
theorem HE{B:Nat}{dL:List UInt8}(h:nU B b ak dL w)(j:gI B ak)(n:Int)(i:In64 n):Calls Tryz.prog 96 #[.int .i64 n] w λe w'=>e=.returned (.string ⟨(Lib.itoa n).toArray⟩)/\nU B b ak dL w':=by
 refine(Tryz.strconv_Itoa n i.1 i.2 w (j w h.below)).mono ?_;rintro e w' ⟨rfl,k,os,rfl⟩;exact⟨rfl,h.go (below_grow _ _ _)⟩
end aY
theorem aY.k2{n:Int}(h:aY.In64 n):(Lib.itoa n).length<=21:=Lib.itoa_length_le n h.1 h.2
theorem aY.sI:∀{l:List Int},(∀x∈l,aY.In64 x)->(dD.dG l).length<=22*l.length
 | [],_=>by simp[dD.dG]
 | x::l,h=>by
  have j:=aY.k2 (h x zL);have m:=aY.sI (l:=l) (λy i=>h y (zH _ i));rw[dD.tail_cons];simp;omega
theorem aY.Fm(l:List Int)(x:Int):dD.dG (l++[x])=dD.dG l++[32]++Lib.itoa x:=by simp[dD.dG]
theorem aY.BQ(B b:Nat)(ak:World)(dL:List UInt8)(A:Option Addr)(c:Nat)(l:List Int)(w:World)(h:aY.nU B b ak dL w)(V:∀x∈l,aY.In64 x)(aP:l.length<=1099511627776)(hlen:dL.length<=70368744177664)(aq:aY.gI B ak)(U:∀W bs',aY.nU B b ak bs' W->ai.ao W W.heap.size A l):Calls Tryz.prog 94 #[.slice A l.length c,.pointer (some ⟨b,0,none⟩)] w λe w'=>e=.returned (.tuple #[])/\aY.nU B b ak (dL++dD.e' l) w':=by
 obtain⟨aD,O,aR⟩:=aK U V h;have m:aY.In64 (l.length:Int):=⟨by omega,by omega⟩;have aL:=aY.k2 m;have ah:=λ(q:List UInt8) (hq:q.length+1<=140737488355328) (c:UInt8) W (az:aY.nU B b ak q W)=>aY.KT az c hq
 obtain⟨M,N,aB⟩:=aK ah (aY.HE h aq (l.length:Int) m) (λn (i:aY.In64 n) q W (az:aY.nU B b ak q W)=>aY.HE az aq n i);obtain⟨n,i⟩:=gz l.length;have y:=qQ i;rw[i]at N aL aP m |-;clear U V h ah i m;go_enter func94,ntmps94;go_wp2_with (with_reducible refine N.q.mono ?_);rintro e ag ⟨rfl,X⟩;have aH:=qQ (aY.G0 X (Lib.itoa (n:Int)) (by omega));clear X;go_wp2_with (with_reducible refine aH.q.mono ?_);rintro e aC ⟨⟨v2,rfl⟩,Y⟩;have aE:=qQ Y;clear Y;go_wp2_with fail;go_loopw [4,11] (λ_ I wr=>∃k:Nat,I=.int .i64 (k:Int)/\k<=n/\aY.nU B b ak (dL++(Lib.itoa (n:Int)++dD.dG (l.take k))) wr) (λ_ I _=>n-(intOf I).toNat)
 case atStart=>exact⟨0,rfl,by omega,by simpa[dD.dG]using aE.q⟩
 obtain⟨k,rfl,aV,az⟩:=hrel;have av:=aY.sI (l:=l.take k) (λx aQ=>O.q x (xN aQ));rw[qM]at av;have aJ:(dL++(Lib.itoa (n:Int)++dD.dG (l.take k))).length<=100000000000000:=by simp;omega
 by_cases aW:k<n
 .have E:k<l.length:=by have:=y.q;omega
  obtain⟨aT,off,rfl,aU,S⟩:=aD.q _ _ az (by omega);have aO:=S k E;have i1:=b2 k;have i2:(k:Int)<n:=by omega
  have Q:=qQ (show dD.dG (l.take (k+1))=dD.dG (l.take k)++[32]++Lib.itoa l[k] by rw[qD E,aY.Fm]);have D:=qQ (O.q l[k] (qP E));generalize l[k]=x at aO Q D;have aX:=aY.k2 D.q;have r:=qQ (show Calls Tryz.prog 97 #[.pointer (some ⟨b,0,none⟩),.int .u8 32] wr _ from M.q _ (by omega) 32 wr az);clear S az av;go_wp2_with (with_reducible refine r.q.mono ?_);rintro e aw ⟨rfl,j⟩;have aA:=qQ (aB.q x D.q _ _ j);clear j;go_wp2_with (with_reducible refine aA.q.mono ?_);rintro e aZ ⟨rfl,Z⟩;have aI:=qQ (aY.G0 Z (Lib.itoa x) (by rw[qW];simp only[xS];omega));clear Z;go_wp2_with (with_reducible refine aI.q.mono ?_);rintro e a0 ⟨⟨v5,rfl⟩,ap⟩;have aG:=qQ ap;clear ap;go_wp2_with fail;go_roundw
  case rel=>exact⟨k+1,by go_num,by omega,by rw[Q.q];simpa only[zE]using aG.q⟩
  case measure=>simp[intOf];omega
 obtain rfl:k=n:=by omega
 have aN:l.take k=l:=by rw[<-y.q,zS]
 rw[aN]at az aJ;have r:=qQ (show Calls Tryz.prog 97 #[.pointer (some ⟨b,0,none⟩),.int .u8 59] wr _ from M.q _ (by omega) 59 wr az);clear az;go_wp2_with (with_reducible refine r.q.mono ?_);rintro e aw ⟨rfl,j⟩;have aF:=qQ j;clear j;go_wp2_with fail;go_end0;refine⟨rfl,?_⟩;have e:dL++dD.e' l=dL++(Lib.itoa (k:Int)++dD.dG l)++[59]:=by unfold dD.e';rw[y.q];simp only[zE]
 rw[e];exact aF.q
end Go.Proofs.YtabmnaaidfpmcaaGreatDoor
end
section
namespace Go.Proofs.YtabmnaaidfpmcaaGreatDoor
open Go.RowKit aS
namespace b4
def I9(w:World)(B b o:Nat)(x:J.Node)(v1 v2 v3 v4 v5 v6:Value):Prop :=
 (w.cell? ⟨b,o,none⟩=some (.int .i64 x.o.k)/\w.cell? ⟨b,o+1,none⟩=some v1/\w.cell? ⟨b,o+2,none⟩=some v2/\w.cell? ⟨b,o+3,none⟩=some v3/\w.cell? ⟨b,o+4,none⟩=some v4/\w.cell? ⟨b,o+5,none⟩=some v5/\w.cell? ⟨b,o+6,none⟩=some (.int .i64 x.o.v)/\w.cell? ⟨b,o+7,none⟩=some v6) /\
 af.aN w B v1 x.o.I/\af.aN w B v2 x.o.a/\af.aN w B v3 x.o.l/\af.aN w B v4 x.o.h/\af.aN w B v5 x.o.s/\af.aN w B v6 x.a
def eJ(w:World)(B:Nat)(A:Option Addr)(j:List J.Node):Prop :=
 0<j.length->∃b off,A=some ⟨b,off,none⟩/\b<B/\∀i (h:i<j.length),∃v1 v2 v3 v4 v5 v6,I9 w B b (off+i*8) j[i] v1 v2 v3 v4 v5 v6
theorem eJ.below{w w':World}{B:Nat}{A:Option Addr}{q:List J.Node}(h:eJ w B A q)(j:Below B w w'):eJ w' B A q:=λhp=>by
 obtain⟨b,off,I,m,M⟩:=h hp;refine⟨b,off,I,m,λi hi=>?_⟩;obtain⟨v1,v2,v3,v4,v5,v6,⟨bT,aO,bz,r,x,y,D,E⟩,s1,s2,N,O,Q,S⟩:=M i hi;have k:∀o,w'.cell? ⟨b,o,none⟩=w.cell? ⟨b,o,none⟩:=λo=>j.cell (p:=⟨b,o,none⟩) m
 exact⟨v1,v2,v3,v4,v5,v6,⟨(k _).trans bT,(k _).trans aO,(k _).trans bz,(k _).trans r,(k _).trans x,(k _).trans y,(k _).trans D,(k _).trans E⟩,s1.below j,s2.below j,N.below j,O.below j,Q.below j,S.below j⟩
theorem eJ.up{w:World}{B B':Nat}{A:Option Addr}{m:List J.Node}(h:eJ w B A m)(j:B<=B'):eJ w B' A m:=λhp=>by
 obtain⟨b,off,q,I,r⟩:=h hp;refine⟨b,off,q,by omega,λi hi=>?_⟩;obtain⟨v1,v2,v3,v4,v5,v6,c,s1,s2,x,y,D,E⟩:=r i hi;exact⟨v1,v2,v3,v4,v5,v6,c,s1.up j,s2.up j,x.up j,y.up j,D.up j,E.up j⟩
theorem eJ.bI{B:Nat}{A:Option Addr}{i:List J.Node}(h:eJ w B A i)(ah:B<=w.heap.size)(W:World)(b:Below w.heap.size w W):eJ W W.heap.size A i:=(h.below (b.mono ah)).up (qJ ah b.size)
def gC(w:World)(B:Nat)(val:Value)(x:J.Node):Prop:=∃v1 v2 v3 v4 v5 v6,val=.agg #[.int .i64 x.o.k,v1,v2,v3,v4,v5,.int .i64 x.o.v,v6]/\af.aN w B v1 x.o.I/\af.aN w B v2 x.o.a/\af.aN w B v3 x.o.l/\af.aN w B v4 x.o.h/\af.aN w B v5 x.o.s/\af.aN w B v6 x.a
theorem gC.below{w w':World}{B:Nat}{val:Value}{x:J.Node}(h:gC w B val x)(i:Below B w w'):gC w' B val x:=by
 obtain⟨v1,v2,v3,v4,v5,v6,e,s1,s2,j,m,q,r⟩:=h;exact⟨v1,v2,v3,v4,v5,v6,e,s1.below i,s2.below i,j.below i,m.below i,q.below i,r.below i⟩
theorem gC.up{w:World}{B B':Nat}{val:Value}{x:J.Node}(h:gC w B val x)(i:B<=B'):gC w B' val x:=by
 obtain⟨v1,v2,v3,v4,v5,v6,e,s1,s2,j,m,q,r⟩:=h;exact⟨v1,v2,v3,v4,v5,v6,e,s1.up i,s2.up i,j.up i,m.up i,q.up i,r.up i⟩
theorem gC.bI{B:Nat}{x:J.Node}(h:gC w B val x)(ah:B<=w.heap.size)(W:World)(b:Below w.heap.size w W):gC W W.heap.size val x:=(h.below (b.mono ah)).up (qJ ah b.size)
def cx(w:World)(B:Nat)(val:Value)(g:J.bh):Prop:=∃A c vo,val=.agg #[.slice A g.n.length c,vo]/\eJ w B A g.n/\g.n.length<=c/\c<=9223372036854775807/\af.aN w B vo g.o
theorem cx.below{w w':World}{B:Nat}{val:Value}{g:J.bh}(h:cx w B val g)(i:Below B w w'):cx w' B val g:=by
 obtain⟨A,c,vo,e,j,m,q,r⟩:=h;exact⟨A,c,vo,e,j.below i,m,q,r.below i⟩
theorem cx.up{w:World}{B B':Nat}{val:Value}{g:J.bh}(h:cx w B val g)(i:B<=B'):cx w B' val g:=by
 obtain⟨A,c,vo,e,j,m,q,r⟩:=h;exact⟨A,c,vo,e,j.up i,m,q,r.up i⟩
theorem cx.bI{B:Nat}{g:J.bh}(h:cx w B val g)(ah:B<=w.heap.size)(W:World)(b:Below w.heap.size w W):cx W W.heap.size val g:=(h.below (b.mono ah)).up (qJ ah b.size)
end b4
theorem b4.HY(k:Int)(v1 v2 v3 v4 v5 ld di:Value)(w:World):Calls Tryz.prog 74 #[.agg #[.int .i64 k,v1,v2,v3,v4,v5,ld,di]] w λe w'=>e=.returned (.bool (k != 1))/\Below w.heap.size w w':=by
 have i:=qQ (λo=>(qK w.heap.size w).alloc (qX _) o);go_enter func74,ntmps74;go_wp2_with fail;go_ret;exact⟨rfl,i.q _⟩
theorem b4.Eh(A:Option Addr)(c:Nat)(i:List J.Node)(B:Nat)(w:World)(ah:B<=w.heap.size)(az:i.length<=c)(aG:c<=9223372036854775807)(h:b4.eJ w B A i):Calls Tryz.prog 73 #[.slice A i.length c,.func (.func 74) #[] #[]] w λe w'=>e=.returned (.int .i64 (if J.params i=i.length then -1 else(J.params i:Int)))/\Below w.heap.size w w':=by
 obtain⟨av,aq,V,aE⟩:=cV (λW (E:Below w.heap.size w W)=>h.below (E.mono ah)) (qK w.heap.size w) (J.nH i) (J.dO i);have aH:∀(args:Array Value) (W:World),(callFunc 74 args).run Tryz.prog W=.ok (.enter 74 args) W:=λ_ _=>rfl
 obtain⟨bm,D⟩:∃bm:Int,(if J.params i=i.length then(-1:Int)else(J.params i:Int))=bm:=⟨_,rfl⟩;rw[D];obtain⟨n,O⟩:=gz i.length;have X:=qQ O;rw[O]at az D |-;have ag:=qQ D;clear h O D;go_enter func73,ntmps73;go_wp2_with fail;go_loopw [8] (λS wr=>∃k:Nat,S=.int .i64 (k:Int)/\k<=n/\(∀j (N:j<i.length),j<k->i[j].o.k=1)/\Below w.heap.size w wr) (λS _=>n-(intOf S).toNat)
 case atStart=>exact⟨0,rfl,by omega,λj _ h=>by omega,aq.q⟩
 obtain⟨k,rfl,aJ,ak,E⟩:=hrel;have I:=qQ ak;have y:=qQ E;clear ak E;by_cases aK:k<n
 .have ap:k<i.length:=by have:=X.q;omega
  obtain⟨b,off,rfl,aF,ao⟩:=av.q wr y.q (by omega);obtain⟨v1,v2,v3,v4,v5,v6,⟨aC,aL,aN,aO,aP,aQ,aD,aR⟩,_⟩:=ao k ap;have Z:=qQ (show i[k].o.k≠1->J.params i=k from λh=>V.q k (I.q) (.inr ⟨ap,h⟩));have Y:=qQ (show i[k].o.k=1->∀j (N:j<i.length),j<k+1->i[j].o.k=1 from λh j N aI=>by
   by_cases e:j=k
   .subst e;exact h
   exact I.q j N (by omega))
  have i1:=b2 k;have i2:(k:Int)<n:=by omega
  clear ao;generalize i[k].o.k=Q at aC Z Y;generalize i[k].o.v=aB at aD;have U:=qQ (λW=>b4.HY Q v1 v2 v3 v4 v5 (.int .i64 aB) v6 W);by_cases x:Q=1
  .have m:=qQ (Y.q x);subst x;go_wp2_with fail
   ((with_reducible refine(U.q _).mono ?_);rintro e aw ⟨rfl,r⟩)
   have M:=qQ (aA y.q r);clear r;go_wp2_with fail;go_roundw
   case rel=>exact⟨k+1,by go_num,by omega,m.q,M.q⟩
   case measure=>simp[intOf];omega
  have m:=qQ (Z.q x);have hq:(Q != 1)=true:=by simpa using x
  clear x;go_wp2_with fail
  ((with_reducible refine(U.q _).mono ?_);rintro e aw ⟨rfl,r⟩)
  have M:=qQ (aA y.q r);clear r;go_wp2_with fail;go_ret;have e:bm=(k:Int):=by rw[<-ag.q,m.q,qV (by omega)]
  exact⟨by rw[e];rfl,M.q⟩
 obtain rfl:k=n:=by omega
 have m:=qQ (show J.params i=k from V.q k I.q (.inl X.q.symm));go_wp2_with fail;go_ret;have e:bm=-1:=by rw[<-ag.q,m.q,qY rfl]
 exact⟨by rw[e];rfl,y.q⟩
theorem b4.tD(val:Value)(g:J.bh)(B:Nat)(w:World)(ah:B<=w.heap.size)(h:b4.cx w B val g):Calls Tryz.prog 46 #[val] w λe w'=>e=.returned (.int .i64 (J.params g.n:Int))/\Below w.heap.size w w':=by
 obtain⟨A,c,vo,rfl,D,O,N,_⟩:=h;obtain⟨I,x,j⟩:=aK (J.dO g.n) (av.new w 25 #[.slice A g.n.length c,vo]) ((qK w.heap.size w).alloc (qX _) (.cells #[.slice A g.n.length c,vo] 25));obtain⟨ak,Q⟩:=gz (w.alloc (.cells #[.slice A g.n.length c,vo] 25));rw[Q]at x j;have m:=qQ (b4.Eh A c g.n B ak (qJ ah j.q.size) O N (D.below (j.q.mono ah)));have E:ak.cell? ⟨w.heap.size,0,none⟩=some (.slice A g.n.length c):=x.q.cell 0;clear D;obtain⟨p,hp⟩:=gz (J.params g.n);rw[hp]at m I |-;clear hp;by_cases r:p=g.n.length
 .rw[qY r]at m;have M:=qQ r;clear r;go_enter func46,ntmps46;go_wp2_with fail
  ((with_reducible refine m.q.mono ?_);rintro e ag ⟨rfl,i⟩)
  have y:=qQ (aA j.q i);have U:ag.cell? ⟨w.heap.size,0,none⟩=some (.slice A g.n.length c):=(x.q.below i x.q.lt).cell 0;clear i E;go_wp2_with fail;go_ret;exact⟨by rw[M.q];rfl,y.q⟩
 rw[qV r]at m;clear r;go_enter func46,ntmps46;go_wp2_with fail
 ((with_reducible refine m.q.mono ?_);rintro e ag ⟨rfl,i⟩)
 have y:=qQ (aA j.q i);have S:=b2 p;clear i E;go_wp2_with fail;go_ret;exact⟨rfl,y.q⟩
end Go.Proofs.YtabmnaaidfpmcaaGreatDoor
end
section
namespace Go.Proofs.YtabmnaaidfpmcaaGreatDoor
open Go.RowKit aS Go.Sort
namespace aY
def lists(x:J.Node):List (List Int):=[x.o.I,x.o.a,x.o.l,x.o.h,x.o.s,x.a]
theorem v8(x:J.Node):dD.n1 x=dD.e' [x.o.k]++(lists x).flatMap dD.e'++Lib.itoa x.o.v:=by
 simp[dD.n1,lists]
def xu(x:J.Node):Prop:=In64 x.o.k/\In64 x.o.v/\∀l∈lists x,l.length<=4294967296/\∀n∈l,In64 n
theorem ug(h:∀n∈l,In64 n)(m:l.length<=4294967296):(dD.e' l).length<=94489280600:=by
 have i:=sI h;have j:=k2 (n:=(l.length:Int)) ⟨by omega,by omega⟩;simp only[dD.e',qW,xS];omega
theorem sB:∀{ls:List (List Int)},(∀l∈ls,l.length<=4294967296/\∀n∈l,In64 n)->(ls.flatMap dD.e').length<=94489280600*ls.length
 | [],_=>by simp
 | l::ls,h=>by
  have i:=ug (h l zL).2 (h l zL).1;have j:=sB (ls:=ls) (λm hm=>h m (zH _ hm));rw[List.flatMap_cons,qW,qH];omega
theorem fresh(w:World):nU w.heap.size w.heap.size (w.alloc (.cells #[.pointer none,.slice none 0 0] 125)) [] (w.alloc (.cells #[.pointer none,.slice none 0 0] 125)) :=
 ⟨.inl ⟨qX _,_,kJ w _,⟨rfl,.inl ⟨rfl,rfl⟩⟩,by simp[Value.ownBlock]⟩,qK _ _,Fr.of (qK _ _),by simp⟩
theorem nU.new{B:Nat}{dL:List UInt8}(h:nU B b ak dL w)(j:Below w.heap.size w w'):nU B b w' dL w' :=
 ⟨(h.go j).i,qK _ _,Fr.of (qK _ _),(h.go j).le⟩
end aY
theorem ai.Gj(h:av w g t (ints l).toArray):ai.ao w w.heap.size (some ⟨g,0,none⟩) l:=λhp =>
 ⟨g,0,rfl,h.lt,λi hi=>by rw[qI];exact h.at (by simpa using ints_at l i hi)⟩
theorem aY.Ip(val:Value)(x:J.Node)(B:Nat)(w:World)(ah:B<=w.heap.size)(bw:b4.gC w B val x)(a0:aY.xu x)(a3:aY.gI w.heap.size w):Calls Tryz.prog 76 #[val] w λe w'=>e=.returned (.string ⟨(dD.n1 x).toArray⟩)/\Below w.heap.size w w':=by
 obtain⟨v1,v2,v3,v4,v5,v6,rfl,s1,s2,a6,a7,a8,a9⟩:=bw;have br:=qQ (show ∀k (aF:k<6),af.aN w B ([v1,v2,v3,v4,v5,v6][k]) ((aY.lists x)[k])from λk aF=>by
  match k,aF with
  | 0,_=>exact s1
  | 1,_=>exact s2
  | 2,_=>exact a6
  | 3,_=>exact a7
  | 4,_=>exact a8
  | 5,_=>exact a9)
 obtain⟨O,r,rfl,_⟩:=s1;obtain⟨dp,Z,rfl,_⟩:=s2;obtain⟨Q,ak,rfl,_⟩:=a6;obtain⟨S,ao,rfl,_⟩:=a7;obtain⟨U,ap,rfl,_⟩:=a8;obtain⟨V,y,rfl,_⟩:=a9;have m:=qQ a0;clear a0;obtain⟨a_,bQ,aO,ba,bB⟩:=b8 w 60 #[.int .i64 x.o.k,.slice O x.o.I.length r,.slice dp x.o.a.length Z,.slice Q x.o.l.length ak,.slice S x.o.h.length ao,.slice U x.o.s.length ap,.int .i64 x.o.v,.slice V x.a.length y];have aE:=qQ (aY.fresh a_);obtain⟨aR,bv,bz,D,bU⟩:=b8 a_ 125 #[.pointer none,.slice none 0 0];rw[bv]at aE;rw[bB]at aE;have bq:=qQ (show aY.gI (w.heap.size+1) aR from λW M=>a3 W (((aA ba D)).trans (M.mono (by omega))));have bg:=qQ (aO.go D);have bH:=λi=>(aO.go D).cell i
 have bc:=qQ (aA ba D);obtain⟨wc,bR,aB,E,bV⟩:=b8 aR 3 #[.int .i64 x.o.k];rw[show aR.heap.size=w.heap.size+1+1 by omega]at aB;have bm:=qQ (show Calls Tryz.prog 94 #[.slice (some ⟨w.heap.size+1+1,0,none⟩) 1 1,.pointer (some ⟨w.heap.size+1,0,none⟩)] wc λe w'=>e=.returned (.tuple #[])/\aY.nU (w.heap.size+1) (w.heap.size+1) wc ([]++dD.e' [x.o.k]) w' from
  aY.BQ (w.heap.size+1) (w.heap.size+1) wc [] _ 1 [x.o.k] wc (aE.q.new E) (by simp;exact m.q.1) (by simp) (by simp) (λW M=>bq.q W ((E.mono (by omega)).trans M)) (λW bs' az=>ai.Gj (az.fr.aL aB (by
   rintro(h | ⟨cs,aq,h⟩)
   .omega
   rw[show wc.heap[w.heap.size+1+1]?=_ from aB]at h;cases h))))
 have X:=qQ (bg.q.go E);have bb:=qQ (aA bc.q E);have bM:∀(args:Array Value) (W:World),(callFunc 94 args).run Tryz.prog W=.ok (.enter 94 args) W:=λ_ _=>rfl
 clear aO ba D bz aB E;go_enter func76,ntmps76;go_wp2_with (with_reducible refine bm.q.mono ?_);rintro e ag ⟨rfl,j⟩;rw[vP]at j;have bO:=λi=>(j.fr.aL X.q (by
  rintro(h | ⟨cs,aq,h⟩)
  .omega
  rw[show wc.heap[w.heap.size]?=_ from X.q]at h;cases h)).cell i
 obtain⟨wd,bS,a5,Y,z_⟩:=b8 ag 23 #[.slice O x.o.I.length r,.slice dp x.o.a.length Z,.slice Q x.o.l.length ak,.slice S x.o.h.length ao,.slice U x.o.s.length ap,.slice V x.a.length y];obtain⟨bp,aC,aU⟩:=aK (j.new Y) (show Below w.heap.size w wd from(bb.q.trans (j.below.mono (by omega))).trans (Y.mono (by have:=j.le;omega))) a5;have aT:=qQ (show av wd w.heap.size 60 #[.int .i64 x.o.k,.slice O x.o.I.length r,.slice dp x.o.a.length Z,.slice Q x.o.l.length ak,.slice S x.o.h.length ao,.slice U x.o.s.length ap,.int .i64 x.o.v,.slice V x.a.length y]from(j.fr.aL X.q (by
  rintro(h | ⟨cs,aq,h⟩)
  .omega
  rw[show wc.heap[w.heap.size]?=_ from X.q]at h;cases h)).go Y)
 have aV:=qQ (show aY.gI (w.heap.size+1) wd from λW M=>a3 W (aC.q.trans (M.mono (by omega))));have bT:=j.below.size;have bF:=qQ j.le;clear j a5 Y;go_wp2_with fail;go_loopw [6,33] (λ_ aQ wr=>∃k:Nat,aQ=.int .i64 (k:Int)/\k<=6/\aY.nU (w.heap.size+1) (w.heap.size+1) wd (dD.e' [x.o.k]++((aY.lists x).take k).flatMap dD.e') wr) (λ_ aQ _=>6-(intOf aQ).toNat)
 case atStart=>exact⟨0,rfl,by omega,by simpa using bp.q⟩
 obtain⟨k,rfl,aF,az⟩:=hrel;have aP:=az.fr.aL aU.q (by
  rintro(h | ⟨cs,aq,h⟩)
  .omega
  rw[show wd.heap[ag.heap.size]?=_ from aU.q]at h;cases h)
 have aH:(dD.e' [x.o.k]++((aY.lists x).take k).flatMap dD.e').length<=70368744177664:=by
  have bI:=aY.ug (l:=[x.o.k]) (by simp;exact m.q.1) (by simp);have bJ:=aY.sB (ls:=(aY.lists x).take k) (λl bt=>m.q.2.2 l (xN bt));rw[qW];have bK:((aY.lists x).take k).length<=6:=by rw[qM];omega
  omega
 by_cases aG:k<6
 .obtain⟨A,c,a4,hi,bu,bN⟩:=br.q k aG;have aZ:=aP.cell k;have a1:k<(aY.lists x).length:=aG;have aD:=qQ (m.q.2.2 _ (qP a1));have aW:=qQ (show((aY.lists x).take (k+1)).flatMap dD.e'=((aY.lists x).take k).flatMap dD.e'++dD.e' (aY.lists x)[k] by rw[qD a1,List.flatMap_append];simp);have r:#[Value.slice O x.o.I.length r,.slice dp x.o.a.length Z,.slice Q x.o.l.length ak,.slice S x.o.h.length ao,.slice U x.o.s.length ap,.slice V x.a.length y][k]?=some (.slice A (aY.lists x)[k].length c):=by
   rw[jY,qC aG];exact congrArg some a4
  rw[r]at aZ;generalize (aY.lists x)[k]=l at aZ aD aW hi bu;have bh:=qQ (aY.BQ (w.heap.size+1) (w.heap.size+1) wd _ A c l wr az aD.q.2 (by have:=aD.q.1;omega) aH aV.q (λW bs' h=>(hi.below ((aC.q.trans (h.below.mono (by omega))).mono ah)).up (by have:=h.le;omega)));have i1:=b2 k;have i2:(k:Int)<6:=by omega
  clear az aP aH r a4 hi;go_wp2_with (with_reducible refine bh.q.mono ?_);rintro e aw ⟨rfl,a2⟩;have bo:=qQ a2;clear a2;go_wp2_with fail;go_roundw
  case rel=>exact⟨k+1,by go_num,by omega,by rw[aW.q];simpa only[zE]using bo.q⟩
  case measure=>simp[intOf];omega
 obtain rfl:k=6:=by omega
 have y:(aY.lists x).take 6=aY.lists x:=rfl;rw[y]at az aH;have bn:=qQ az;have bL:wr.cell? ⟨w.heap.size,6,none⟩=some (.int .i64 x.o.v):=(az.fr.aL aT.q (by
  rintro(h | ⟨cs,aq,h⟩)
  .omega
  rw[show wd.heap[w.heap.size]?=_ from aT.q]at h;cases h)).cell 6
 have bP:=aY.k2 m.q.2.1;have be:=qQ (Tryz.strconv_FormatInt_10 x.o.v m.q.2.1.1 m.q.2.1.2 wr (aV.q wr az.below));clear az aP;go_wp2_with (with_reducible refine be.q.mono ?_);rintro e aw ⟨rfl,bA,os,rfl⟩;have bs:=qQ (aY.G0 (bn.q.go (aY.below_grow _ bA os)) (Lib.itoa x.o.v) (by omega));go_wp2_with (with_reducible refine bs.q.mono ?_);rintro e bD ⟨⟨v4,rfl⟩,N⟩;obtain⟨a',bf,bG⟩:=aK N.below (Tryz.Builder_String_any (w.heap.size+1) (w.heap.size+1) _ bD N.i N.le) N.le;clear N;go_wp2_with (with_reducible refine bf.q.mono ?_);rintro e bE ⟨rfl,aX⟩;have bd:=qQ (show Below w.heap.size w bE from(aC.q.trans (a'.q.mono (by omega))).trans (aX.mono (by omega)));clear aX;go_wp2_with fail;go_ret;exact⟨by rw[aY.v8,zE];rfl,bd.q⟩
end Go.Proofs.YtabmnaaidfpmcaaGreatDoor
end
