/-
  LookPlain, FwdPlain, FwdPlain2, FwdPlain3, FwdPlain4, FwdPlain5, ParamsPlain, FwdPlain6, FwdPlain7, FwdPlain8, FwdPlain9. Conditions: where the theorems name them.
-/
import Derived.Test.YtabmnaaidfpmcaaGreatDoorV02
set_option linter.unusedVariables false
set_option maxRecDepth 100000
set_option maxHeartbeats 16000000
variable {a b c j:Int}{D ds:List (List Int)}{aa d s:List Int}{i n ps:Nat}
section
namespace J
open R (size)
theorem nu{op:Op}{args:List (List Int)}(h:(I op args).2=0):(size (I op args).1).2=0:=by
 unfold I at h |-;by_cases i:right op.k args.length≠0
 .rw[qY i]at h;exact absurd h i
 rw[qV i]at h |-;by_cases j:sizes args≠0
 .rw[qY j]at h;exact absurd h j
 rw[qV j]at h |-;by_cases m:(aP op args).2≠0
 .rw[qY m]at h;exact absurd h m
 rw[qV m]at h |-;by_cases q:(size (aP op args).1).2≠0
 .rw[qY q]at h;exact absurd h q
 rw[qV q];dsimp only;omega
theorem EF{x:Node}{out:List (List Int)}(h:(aT x i ps out).2=0):(size (aT x i ps out).1).2=0/\ahead i x.a=true:=by
 unfold aT at h |-;by_cases j:ahead i x.a=false
 .rw[qY j]at h;cases h
 rw[qV j]at h |-;refine⟨?_,by simpa using j⟩;by_cases q:x.o.k≠1
 .rw[qY q]at h |-;exact nu h
 rw[qV q]at h |-;by_cases r:ps<=i\/x.o.a.length≠1\/x.o.a.getD 0 0≠(i:Int)
 .rw[qY r]at h;cases h
 rw[qV r]at h |-;by_cases y:0<x.a.length
 .rw[qY y]at h;cases h
 rw[qV y]at h |-;by_cases m:(size x.o.I).2≠0
 .rw[qY m]at h;exact absurd h m
 rw[qV m];dsimp only;omega
theorem Bz(ps:Nat):∀(i:List Node) (out:List (List Int)),(∀d∈out,(size d).2=0)->(bL ps i out).2=0->(bL ps i out).1.length=out.length+i.length/\(∀d∈(bL ps i out).1,(size d).2=0)/\∀k (h:k<i.length),ahead (out.length+k) i[k].a=true
 | [],out,m,_=>⟨rfl,m,λk h=>by simp at h⟩
 | x::r,out,m,h=>by
  have e:bL ps (x::r) out=if (aT x out.length ps out).2≠0 then([],(aT x out.length ps out).2)else bL ps r (out++[(aT x out.length ps out).1]):=rfl
  rw[e]at h |-;by_cases j:(aT x out.length ps out).2≠0
  .rw[qY j]at h;exact absurd h j
  rw[qV j]at h |-;obtain⟨bJ,bn⟩:=EF (show(aT x out.length ps out).2=0 by omega);obtain⟨dm,a2,a3⟩:=Bz ps r _ (λd ar=>by
   rcases List.mem_append.1 ar with ar | ar
   .exact m d ar
   rw[List.mem_singleton.1 ar];exact bJ) h
  refine⟨by rw[dm,qW,qH,qH,zM];omega,a2,λk q=>?_⟩;cases k with
  | zero=>simpa using bn
  | succ k =>
   have:=a3 k (by simpa using q);rw[qW,qH,zM]at this;rw[show out.length+(k+1)=out.length+(0+1)+k by omega];simpa using this
theorem Gq{g:bh}(h:(look g).2≠0):(look g).1=[]:=by
 unfold look at h |-;by_cases i:4096<g.n.length
 .rw[qY i]
 rw[qV i]at h |-;by_cases j:(bL (params g.n) g.n []).2≠0
 .rw[qY j]
 rw[qV j]at h |-;by_cases m:ahead g.n.length g.o=false
 .rw[qY m]
 rw[qV m]at h;exact absurd rfl h
theorem gX{g:bh}(h:(look g).2=0):(look g).1.length=g.n.length/\g.n.length<=4096/\(∀d∈(look g).1,(size d).2=0)/\(∀k (h:k<g.n.length),ahead k g.n[k].a=true)/\ahead g.n.length g.o=true:=by
 unfold look at h |-;by_cases m:4096<g.n.length
 .rw[qY m]at h;cases h
 rw[qV m]at h |-;by_cases i:(bL (params g.n) g.n []).2≠0
 .rw[qY i]at h;exact absurd h i
 rw[qV i]at h |-;by_cases j:ahead g.n.length g.o=false
 .rw[qY j]at h;cases h
 rw[qV j];obtain⟨dm,a2,a3⟩:=Bz (params g.n) g.n [] (λd ar=>by cases ar) (by omega);refine⟨by simpa using dm,by omega,a2,λk q=>by have:=a3 k q;simpa using this,by simpa using j⟩
theorem k5(g:bh):(look g).1.length<=4096/\∀d∈(look g).1,d.length<=6:=by
 by_cases h:(look g).2=0
 .obtain⟨j,m,i,_⟩:=gX h;exact⟨by omega,λd ar=>(R.aB (i d ar)).1⟩
 rw[Gq h];exact⟨by simp,λd ar=>by cases ar⟩
end J
end
section
namespace ae
open J (Op Node bh)
open ad (ay)
theorem hZ{α:Type}{l r:List α}(x:α)(h:i<l.length):(l++r).getD i x=l.getD i x:=by
 rw[qU,qU,jX h]
theorem hY{α:Type}(l:List α)(y x:α):(l++[y]).getD l.length x=y:=by
 rw[qU,zO (qX _)];simp
theorem CR(op:Op):(plain op).k=op.k:=rfl
theorem _root_.Qk{G:Prop}(h:G:=by
 have mN:op.k=2\/op.k=3\/op.k=4\/op.k=5\/op.k=6\/op.k=7\/op.k=8\/op.k=9\/op.k=10\/op.k=11\/op.k=12\/op.k=13\/op.k=14\/op.k=15\/op.k=16\/op.k=17\/op.k=18\/op.k=19:=by
  unfold J.right at h
  repeat' split at h
  all_goals omega
 obtain⟨k,d,a,l,Im,s,v⟩:=op;simp only at mN;rcases mN with h | h | h | h | h | h | h | h | h | h | h | h | h | h | h | h | h | h<;>subst h<;>rfl
 ):G:=h
theorem A4{op:Op}(args:List (List Int))(h:J.right op.k args.length=0):J.aP (plain op) args=J.aP op args:=by
 exact Qk
theorem oG(op:Op)(args:List (List Int)):J.I (plain op) args=J.I op args:=by
 unfold J.I;rw[CR];by_cases h:J.right op.k args.length≠0
 .rw[qY h,qY h]
 rw[qV h,qV h,A4 args (by omega)]
theorem AF{op:Op}(args:List ay)(n:Nat)(h:J.right op.k n=0)(t:List Int)(i:Nat):ad.entry (plain op) args t i=ad.entry op args t i:=by
 exact Qk
theorem tc{op:Op}{args:List (List Int)}(h:(J.I op args).2=0):J.right op.k args.length=0:=by
 unfold J.I at h;by_cases i:J.right op.k args.length≠0
 .rw[qY i]at h;exact absurd h i
 omega
theorem oI{op:Op}{args:List ay}(h:(J.I op (args.map (·.I))).2=0):ad.aX (plain op) args=ad.aX op args:=by
 have i:=tc h;unfold ad.aX;simp only[oG]
 congr 1
 refine xC (λp _=>?_);exact AF args _ i _ _
def Good(ps:Nat)(N:List Node)(D:List (List Int)):Prop:=D.length=N.length/\∀i (h:i<N.length),J.aT N[i] i ps (D.take i)=(D.getD i [],0)
theorem AP(h:J.ahead i aa=true)(hi:i<=D.length):J.cL (D.take i) aa=J.cL D aa:=by
 unfold J.cL;refine xC (λa j=>?_);have:=List.all_eq_true.1 h a j;simp only[qB,xZ]at this;rw[qU,qU,yW,qY (by omega)]
theorem jx{x:Node}(m:x.o.k≠1)(j:J.ahead i x.a=true)(hi:i<=D.length):J.aT x i ps (D.take i)=J.I x.o (J.cL D x.a):=by
 unfold J.aT;rw[qV (by simp[j]),qY m,AP j hi]
theorem ig{x:Node}(h:J.aT x i ps D=(d,0)):J.ahead i x.a=true:=by
 unfold J.aT at h;by_cases j:J.ahead i x.a=false
 .rw[qY j]at h;cases h
 simpa using j
theorem mj{j:Nat}(h:J.ahead i aa=true)(q:i<=j):J.ahead j aa=true:=by
 refine List.all_eq_true.2 (λa m=>?_);have:=List.all_eq_true.1 h a m;simp only[qB,xZ]at this |-;omega
theorem Good.snoc{N:List Node}{x:Node}(h:Good ps N D)(r:J.aT x N.length ps D=(d,0)):Good ps (N++[x]) (D++[d]):=by
 obtain⟨j,q⟩:=h;refine⟨by simp[j],λi hi=>?_⟩;rw[qW,xS]at hi;by_cases e:i<N.length
 .rw[zR e,wU (by omega),hZ _ (by omega)];exact q i e
 have m:i=N.length:=by omega
 subst m;rw[xF (by omega)];simp only[xB,zY];rw[<-j,List.take_left,hY,j,r]
theorem DX{N:List Node}{x:Node}(h:N.findIdx? (λy=>decide (y=x))=some i):∃hi:i<N.length,N[i]=x:=by
 rw[List.findIdx?_eq_some_iff_getElem]at h;obtain⟨hi,j,_⟩:=h;exact⟨hi,xG j⟩
theorem FI{N:List Node}{op:Op}{args:List Int}(m:Good ps N D)(y:op.k≠1)(M:J.ahead N.length args=true)(ar:J.I op (J.cL D args)=(d,0)):∃(D':List (List Int)) (i:Nat),(add N op args).2=(i:Int)/\Good ps (add N op args).1 D'/\N <+: (add N op args).1/\D <+: D'/\∃hi:i<(add N op args).1.length,(add N op args).1[i]=⟨plain op,args⟩/\D'.getD i []=d:=by
 have q:D.length=N.length:=m.1;unfold add;cases O:N.findIdx? (λx=>decide (x=⟨plain op,args⟩))with
 | some i =>
  obtain⟨hi,r⟩:=DX O;refine⟨D,i,rfl,m,xA _,xA _,hi,r,?_⟩;have j:=m.2 i hi;have B:=ig j;rw[jx (by rw[r];exact y) B (by omega),r]at j;dsimp only at j;rw[oG,ar]at j;exact(congrArg Prod.fst j).symm
 | none =>
  have E:J.aT ⟨plain op,args⟩ N.length ps D=(d,0):=by
   have:=jx (x:=⟨plain op,args⟩) (ps:=ps) (D:=D) y M (by omega);rw[<-q,zS]at this;rw[<-q,this,oG,ar]
  refine⟨D++[d],N.length,rfl,m.snoc E,yP _ _,yP _ _,by simp,by simp,?_⟩;rw[<-q,hY]
theorem Good.look{N:List Node}(h:Good ps N D):J.bL ps N []=(D,0):=by
 obtain⟨m,q⟩:=h;have key:∀k,k<=N.length->J.bL ps (N.drop (N.length-k)) (D.take (N.length-k))=(D,0):=λk=>by
  induction k with
  | zero=>intro _;rw[Nat.sub_zero,uH,<-m,zS];rfl
  | succ k x =>
   intro y;have hi:N.length-(k+1)<N.length:=by omega
   have r:=q _ hi;have e:(D.take (N.length-(k+1))).length=N.length-(k+1):=by rw[qM];omega
   rw[zX hi,show N.length-(k+1)+1=N.length-k by omega];show(if (J.aT _ (D.take (N.length-(k+1))).length ps (D.take (N.length-(k+1)))).2≠0 then _ else _)=_;rw[e,r];simp only[ne_eq,not_true_eq_false,uX];have j:D.take (N.length-(k+1))++[D.getD (N.length-(k+1)) []]=D.take (N.length-k):=by
    have i:N.length-(k+1)<D.length:=by omega
    rw[show N.length-k=N.length-(k+1)+1 by omega,qD i,qU,qC i];rfl
   rw[j];exact x (by omega)
 have:=key N.length (qX _);simpa using this
end ae
end
section
namespace ad
open J (Op Node bh)
open R (size prod idx dR ef)
def dv(x:Int):Prop:=-9223372036854775808<=x/\x<=9223372036854775807
theorem rm(x:Int):dv (ef x):=by unfold dv ef;omega
theorem KG{x:Int}(h:dv x):ef x=x:=by unfold dv at h;unfold ef;omega
theorem gw:dv 0:=by unfold dv;omega
def cO(a:ay):Prop:=(size a.I).2=0/\a.e.length=(size a.I).1.toNat/\∀x∈a.e,dv x
theorem tK{a:ay}(h:∀x∈a.e,dv x)(i:Nat):dv (a.e.getD i 0):=by
 rw[qU];cases hi:a.e[i]? with
 | none=>exact gw
 | some x=>exact h x (jM hi)
theorem uj(l:List Int):dv (da l):=by
 unfold da;have key:∀(l:List Int) (s:Int),dv s->dv (l.foldl (λs x=>ef (s+x)) s):=λl=>by
  induction l with
  | nil=>exact λs h=>h
  | cons x l i=>exact λs h=>i _ (rm _)
 exact key l 0 gw
theorem rb{l:List ay}(h:∀a∈l,∀x∈a.e,dv x)(i:Nat):∀x∈(nth l i).e,dv x:=by
 unfold nth;rw[qU];cases hi:l[i]? with
 | none=>exact λx j=>by simp at j
 | some a=>exact h a (jM hi)
theorem za{k:Nat}{t:List Int} : ∀{l:List ay} {n:Int},(∀a∈l,∀x∈a.e,dv x)->dv (cU k t l n)
 | [],_,_=>gw
 | a::r,n,h=>by
  unfold cU;split
  .exact tK (h a zL) _
  exact za (λb i=>h b (zH _ i))
theorem DV{op:Op}{args:List ay}(r:dv op.v)(h:∀a∈args,∀x∈a.e,dv x)(t:List Int)(n:Nat):dv (entry op args t n):=by
 have m:∀i j,dv ((nth args i).e.getD j 0):=λi j=>tK (rb h i) j
 have q:dv 1:=by unfold dv;omega
 unfold entry;dsimp only;by_cases k:op.k=2
 .rw[qY k];exact r
 rw[qV k];clear k;by_cases k:op.k=3
 .rw[qY k];exact rm _
 rw[qV k];clear k;by_cases k:op.k=4
 .rw[qY k];exact rm _
 rw[qV k];clear k;by_cases k:op.k=5
 .rw[qY k];exact rm _
 rw[qV k];clear k;by_cases k:op.k=6
 .rw[qY k];split<;>exact m _ _
 rw[qV k];clear k;by_cases k:op.k=7
 .rw[qY k];split;exact q;exact gw
 rw[qV k];clear k;by_cases k:op.k=8
 .rw[qY k];split<;>exact m _ _
 rw[qV k];clear k;by_cases k:op.k=10
 .rw[qY k];exact uj _
 rw[qV k];clear k;by_cases k:op.k=12
 .rw[qY k];exact m _ _
 rw[qV k];clear k;by_cases k:op.k=14
 .rw[qY k];unfold hf;split;exact m _ _;exact gw
 rw[qV k];clear k;by_cases k:op.k=16
 .rw[qY k];exact uj _
 rw[qV k];clear k;by_cases k:op.k=17
 .rw[qY k];exact za h
 rw[qV k];clear k;by_cases k:op.k=18
 .rw[qY k];unfold nL;dsimp only;split;exact gw;exact m _ _
 rw[qV k];clear k;by_cases k:op.k=19
 .rw[qY k];exact uj _
 rw[qV k];clear k;exact m _ _
theorem ew(op:Op)(args:List ay):(aX op args).I=(J.I op (args.map (·.I))).1:=rfl
theorem iX{op:Op}{args:List ay}(j:dv op.v)(ar:(J.I op (args.map (·.I))).2=0)(h:∀a∈args,cO a):cO (aX op args):=by
 refine⟨J.nu ar,by simp[aX],λx m=>?_⟩;obtain⟨p,_,rfl⟩:=List.mem_map.1 m;exact DV j (λa i=>(h a i).2.2) _ _
theorem tB(h:(size d).2=0):cO (a6 d):=⟨h,by simp[a6],λx i=>by rw[hA d x i];exact gw⟩
theorem oj{a b:ay}(h:a.I=b.I)(j:a.e.length=b.e.length)(he:∀p,p<b.e.length->a.e.getD p 0=b.e.getD p 0):a=b:=by
 obtain⟨d,x⟩:=a;obtain⟨e,y⟩:=b;simp only at h j he;subst h
 congr 1
 refine jP j (λp m i=>?_);have:=he p i;rw[qU,qU,qC m,qC i]at this;exact this
theorem q9{op:Op}{args:List ay}{p:Nat}(hp:p<(size (J.I op (args.map (·.I))).1).1.toNat):(aX op args).e.getD p 0=entry op args (idx (J.I op (args.map (·.I))).1 (p:Int)) p:=by
 rw[qU];simp[aX,hp]
theorem ke(d:List Int)(p:Nat):(a6 d).e.getD p 0=0:=lS (hA d) p
theorem ic{op:Op}{args:List ay}(h:∀t n,entry op args t n=0):aX op args=a6 (J.I op (args.map (·.I))).1:=by
 refine oj rfl (by simp[aX,a6]) (λp hp=>?_);rw[ke,q9 (by simpa[a6]using hp),h]
theorem tb{k:Int}(i:(k=3\/k=4\/k=5\/k=6\/k=7)/\n=2\/k=8/\n=3)(h:(size d).2=0){op:Op}(j:op.k=k):J.I op (List.replicate n d)=(d,0):=by
 have az:∀n,J.sizes (List.replicate n d)=0:=λn=>by
  induction n with
  | zero=>rfl
  | succ n B=>rw[qF];show(if (size d).2≠0 then _ else _)=_;rw[qV (by simp[h]),B]
 have r:J.right op.k (List.replicate n d).length=0:=by
  rw[j,zP];unfold J.right;rcases i with ⟨i,rfl⟩ | ⟨rfl,rfl⟩
  .rcases i with rfl | rfl | rfl | rfl | rfl<;>rfl
  rfl
 have D:0<n:=by omega
 have q:(List.replicate n d).getD 0 []=d:=by
  obtain⟨m,rfl⟩:∃m,n=m+1:=⟨n-1,by omega⟩;rfl
 have hu:J.aP op (List.replicate n d)=(d,0):=by
  unfold J.aP;rw[j,qV (by omega),qY (by omega),q,qY];exact List.all_eq_true.2 (λx y=>by rw[(List.mem_replicate.1 y).2];simp)
 unfold J.I;rw[r,az,hu];simp[h]
theorem jc{op:Op}(i:op.k=3\/op.k=4\/op.k=5\/op.k=6\/op.k=7)(h:(size d).2=0):J.I op [d,d]=(d,0):=tb (n:=2) (.inl ⟨i,rfl⟩) h rfl
theorem oH{op:Op}(i:op.k=8)(h:(size d).2=0):J.I op [d,d,d]=(d,0):=tb (n:=3) (.inr ⟨i,rfl⟩) h rfl
theorem nt{op:Op}(i:op.k=2)(h:(size op.I).2=0):J.I op []=(op.I,0):=by
 have hu:J.aP op []=(op.I,0):=by unfold J.aP;rw[qY i]
 unfold J.I;rw[hu,i];simp[J.right,J.sizes,h]
theorem vh{op:Op}{args:List ay}(k:op.k=3)(t:List Int)(n:Nat):entry op args t n=ef ((nth args 0).e.getD n 0+(nth args 1).e.getD n 0):=by unfold entry;rw[k];rfl
theorem DW{op:Op}{args:List ay}(k:op.k=4)(t:List Int)(n:Nat):entry op args t n=ef ((nth args 0).e.getD n 0-(nth args 1).e.getD n 0):=by unfold entry;rw[k];rfl
theorem Cl{op:Op}{args:List ay}(k:op.k=7)(t:List Int)(n:Nat):entry op args t n=if (nth args 0).e.getD n 0<(nth args 1).e.getD n 0 then 1 else 0:=by unfold entry;rw[k];rfl
theorem ti{op:Op}{args:List ay}(k:op.k=8)(t:List Int)(n:Nat):entry op args t n=if (nth args 0).e.getD n 0≠0 then(nth args 1).e.getD n 0 else(nth args 2).e.getD n 0:=by unfold entry;rw[k];rfl
theorem Ck{op:Op}{args:List ay}(k:op.k=2)(t:List Int)(n:Nat):entry op args t n=op.v:=by unfold entry;rw[k];rfl
theorem Di{a:ay}(h:cO a)(p:Nat):ef (a.e.getD p 0)=a.e.getD p 0:=KG (tK h.2.2 p)
theorem yk{op:Op}(i:op.k=3){a:ay}(h:cO a):aX op [a,a6 a.I]=a:=by
 have ar:(J.I op ([a,a6 a.I].map (·.I)))=(a.I,0):=jc (.inl i) h.1;refine oj (by rw[ew,ar]) (by rw[h.2.1];simp[aX,-List.map_cons,ar]) (λp hp=>?_);rw[q9 (by rw[ar];rw[h.2.1]at hp;exact hp),vh i];show ef (a.e.getD p 0+(a6 a.I).e.getD p 0)=_;rw[ke,kU,Di h]
theorem AB{op:Op}(i:op.k=3){a:ay}(h:cO a):aX op [a6 a.I,a]=a:=by
 have ar:(J.I op ([a6 a.I,a].map (·.I)))=(a.I,0):=jc (.inl i) h.1;refine oj (by rw[ew,ar]) (by rw[h.2.1];simp[aX,-List.map_cons,ar]) (λp hp=>?_);rw[q9 (by rw[ar];rw[h.2.1]at hp;exact hp),vh i];show ef ((a6 a.I).e.getD p 0+a.e.getD p 0)=_;rw[ke,pK,Di h]
theorem ym{op:Op}(i:op.k=4){a:ay}(h:cO a):aX op [a,a6 a.I]=a:=by
 have ar:(J.I op ([a,a6 a.I].map (·.I)))=(a.I,0):=jc (.inr (.inl i)) h.1;refine oj (by rw[ew,ar]) (by rw[h.2.1];simp[aX,-List.map_cons,ar]) (λp hp=>?_);rw[q9 (by rw[ar];rw[h.2.1]at hp;exact hp),DW i];show ef (a.e.getD p 0-(a6 a.I).e.getD p 0)=_;rw[ke,Int.sub_zero,Di h]
theorem H6{op:Op}(i:op.k=2)(j:op.v=0)(h:(size op.I).2=0):aX op []=a6 op.I:=by
 rw[ic (λt n=>by rw[Ck i,j])];show a6 (J.I op []).1=_;rw[nt i h]
end ad
end
section
namespace ae
open J (Op Node bh)
open ad (ay nth aX a6 cO dv)
open R (size)
def worth(P out:List ay)(x:Node):ay:=if out.length<P.length then nth P out.length else aX x.o (x.a.map λa=>nth out a.toNat)
def nM(P:List ay):List Node->List ay->List ay
 | [],out=>out
 | x::r,out=>nM P r (out++[worth P out x])
def values(P:List ay)(N:List Node):List ay:=nM P N []
theorem nb(P:List ay):∀(N M:List Node) (out:List ay),nM P (N++M) out=nM P M (nM P N out)
 | [],M,out=>rfl
 | x::N,M,out=>nb P N M _
theorem w0(P:List ay):∀(N:List Node) (out:List ay),(nM P N out).length=out.length+N.length
 | [],out=>rfl
 | x::N,out=>by
  show(nM P N _).length=_;rw[w0 P N,qW,qH,qH,zM];omega
theorem db(P:List ay)(N:List Node):(values P N).length=N.length:=by unfold values;rw[w0];simp
theorem r8(P:List ay)(N:List Node)(x:Node):values P (N++[x])=values P N++[worth P (values P N) x]:=by
 unfold values;rw[nb];rfl
theorem qz(P:List ay):∀(N:List Node) (out:List ay),out <+: nM P N out
 | [],out=>xA _
 | x::N,out=>(yP _ _).trans (qz P N _)
theorem fj{P:List ay}{N M:List Node}(h:N <+: M):values P N <+: values P M:=by
 obtain⟨r,rfl⟩:=h;unfold values;rw[nb];exact qz P r _
theorem gh{l m:List ay}(h:l <+: m)(hi:i<l.length):nth m i=nth l i:=by
 obtain⟨r,rfl⟩:=h;exact hZ _ hi
theorem q0{P:List ay}{N:List Node}(hi:i<N.length):nth (values P N) i=worth P ((values P N).take i) N[i]:=by
 have e:N=N.take i++(N[i]::N.drop (i+1)):=by rw[<-zX hi,jU]
 have m:values P (N.take i++[N[i]]) <+: values P N:=fj ⟨N.drop (i+1),by rw[zE];exact e.symm⟩;have j:(N.take i).length=i:=by rw[qM];omega
 have q:nth (values P N) i=nth (values P (N.take i++[N[i]])) i:=gh m (by rw[db,qW,j];simp);have x:values P (N.take i) <+: values P N:=fj (pU _ _);have y:(values P N).take i=values P (N.take i):=by
  obtain⟨r,D⟩:=x;rw[<-D];exact List.take_left' (by rw[db,j])
 rw[q,y,r8];have B:(values P (N.take i)).length=i:=by rw[db,j]
 unfold nth;have:=hY (values P (N.take i)) (worth P (values P (N.take i)) N[i]) ⟨[],[]⟩;rw[B]at this;exact this
structure fQ (P:List ay) (N:List Node) (D:List (List Int)):Prop where
 l1:Good P.length N D
 room:P.length<=N.length
 e_:∀i (h:i<N.length),i<P.length->N[i].o.k=1
 rest:∀i (h:i<N.length),P.length<=i->N[i].o.k≠1
 I:∀i,i<N.length->(nth (values P N) i).I=D.getD i []
 wf:∀i,i<N.length->cO (nth (values P N) i)
def aR(P:List ay)(N:List Node)(args:List Int):List ay:=args.map λa=>nth (values P N) a.toNat
theorem bP(h:J.ahead n aa=true)(i:a∈aa):0<=a/\a.toNat<n:=by
 have:=List.all_eq_true.1 h a i;simp only[qB,xZ]at this;omega
theorem Fs{P:List ay}{N M:List Node}(h:N <+: M){args:List Int}(i:J.ahead N.length args=true):aR P M args=aR P N args:=by
 unfold aR;refine xC (λa hm=>?_);exact gh (fj h) (by rw[db];exact(bP i hm).2)
theorem fQ.args{P:List ay}{N:List Node}{D:List (List Int)}(h:fQ P N D){args:List Int}(i:J.ahead N.length args=true):J.cL D args=(aR P N args).map (·.I):=by
 unfold J.cL aR;rw[vE];refine xC (λa hm=>?_);exact(h.I _ (bP i hm).2).symm
theorem DG{P:List ay}{N:List Node}{op:Op}{args:List Int}(h:fQ P N D)(E:op.k≠1)(ag:dv op.v)(B:J.ahead N.length args=true)(ar:(J.I op ((aR P N args).map (·.I))).2=0):∃(D':List (List Int)) (i:Nat),(add N op args).2=(i:Int)/\fQ P (add N op args).1 D'/\N <+: (add N op args).1/\i<(add N op args).1.length/\nth (values P (add N op args).1) i=aX op (aR P N args):=by
 have Z:D.length=N.length:=h.l1.1;have W:=h.args B;have ah:∀a∈aR P N args,cO a:=λa hm=>by
  obtain⟨b,X,rfl⟩:=List.mem_map.1 hm;exact h.wf _ (bP B X).2
 obtain⟨d,O⟩:∃d,J.I op ((aR P N args).map (·.I))=(d,0):=⟨_,uJ rfl ar⟩;obtain⟨D',i,q,g1,g2,g3,hi,g4,g5⟩:=FI h.l1 E B (d:=d) (by rw[W];exact O);refine⟨D',i,q,?_⟩;unfold add at q g1 g2 hi g4 |-;cases Q:N.findIdx? (λx=>decide (x=⟨plain op,args⟩))with
 | some j =>
  simp only[Q]at q g1 g2 hi g4 |-;obtain rfl:j=i:=by omega
  have U:D'=D:=by
   obtain⟨r,m⟩:=g3;have:D'.length=N.length:=g1.1;rw[<-m]at this;rw[qW,Z]at this;have:r=[]:=List.length_eq_zero_iff.1 (by omega);rw[<-m,this,xM]
  subst U;refine⟨h,g2,hi,?_⟩;have ak:P.length<=j:=by
   by_cases Y:P.length<=j
   .exact Y
   have:=h.e_ j hi (by omega);rw[g4]at this;exact absurd this E
  have V:J.ahead j args=true:=by
   have:=ig (h.l1.2 j hi)
   rwa [g4]at this
  rw[q0 hi,g4];unfold worth;have S:((values P N).take j).length=j:=by rw[qM,db];omega
  rw[S,qV (by omega)];have e:args.map (λa=>nth ((values P N).take j) a.toNat)=aR P N args:=by
   unfold aR;refine xC (λa hm=>?_);exact(gh (pU _ _) (by rw[S];exact(bP V hm).2)).symm
  show aX (plain op) (args.map λa=>nth ((values P N).take j) a.toNat)=_;rw[e,oI ar]
 | none =>
  simp only[Q]at q g1 g2 hi g4 |-;obtain rfl:N.length=i:=by omega
  have hw:worth P (values P N) ⟨plain op,args⟩=aX op (aR P N args):=by
   unfold worth;rw[db,qV (by have:=h.room;omega)];show aX (plain op) (args.map λa=>nth (values P N) a.toNat)=_;exact oI ar
  have M:nth (values P (N++[⟨plain op,args⟩])) N.length=aX op (aR P N args):=by
   rw[r8,hw];have:=hY (values P N) (aX op (aR P N args)) ⟨[],[]⟩;rw[db]at this;exact this
  have hold:∀i,i<N.length->nth (values P (N++[⟨plain op,args⟩])) i=nth (values P N) i:=λi hi=>gh (fj (yP _ _)) (by rw[db];exact hi)
  refine⟨⟨g1,by have:=h.room;simp;omega,λi hi hp=>?_,λi hi hp=>?_,λi hi=>?_,λi hi=>?_⟩,g2,hi,M⟩
  .have m:=h.room;rw[zR (by omega)];exact h.e_ i _ hp
  .by_cases e:i<N.length
   .rw[zR e];exact h.rest i e hp
   rw[xF (by omega)];simp;exact E
  .by_cases e:i<N.length
   .rw[hold i e,h.I i e];obtain⟨r,m⟩:=g3;rw[<-m,hZ _ (by omega)]
   have y:i=N.length:=by rw[qW,xS]at hi;omega
   subst y;rw[M,ad.ew,O,g5]
  by_cases e:i<N.length
  .rw[hold i e];exact h.wf i e
  have y:i=N.length:=by rw[qW,xS]at hi;omega
  subst y;rw[M];exact ad.iX ag ar ah
end ae
end
section
namespace ae
open J (Op Node bh)
open ad (ay nth aX a6 cO dv)
open R (size)
def bZ(op:Op)(d:List Int)(a s:List ay):ay :=
 if op.k=2\/op.k=7 then a6 d
 else if op.k=5\/op.k=16 then aX (bH 3) [aX op [nth s 0,nth a 1],aX op [nth a 0,nth s 1]]
 else if op.k=6 then⟨d,(List.range (size d).1.toNat).map λ(i:Nat)=>if (nth a 0).e.getD i 0<(nth a 1).e.getD i 0 then(nth s 1).e.getD i 0 else(nth s 0).e.getD i 0⟩
 else if op.k=8 then aX op [nth a 0,nth s 1,nth s 2]
 else if op.k=18\/op.k=19 then aX op [nth s 0,nth a 1]
 else aX op s
def cg(P:List ay)(N:List Node)(i:Int)(a:ay):Prop:=(i<0/\a=a6 a.I)\/(0<=i/\i.toNat<N.length/\nth (values P N) i.toNat=a)
theorem cg.later{P:List ay}{N M:List Node}{i:Int}{a:ay}(h:cg P N i a)(hp:N <+: M):cg P M i a:=by
 rcases h with h | ⟨m,j,q⟩
 .exact .inl h
 exact .inr ⟨m,zW j hp.length_le,by rw[gh (fj hp) (by rw[db];exact j),q]⟩
theorem cg.none(P:List ay)(N:List Node)(d:List Int):cg P N (-1) (a6 d):=.inl ⟨by omega,rfl⟩
theorem cg.some{P:List ay}{N:List Node}{a:ay}(j:i<N.length)(m:nth (values P N) i=a):cg P N (i:Int) a:=.inr ⟨by omega,by simpa using j,by simpa using m⟩
theorem cg.Bn{a:ay}(h:a=a6 a.I)(ar:a.I=d):a=a6 d:=by rw[<-ar];exact h
def Next(P:List ay)(N:List Node)(r:List Node × Int)(a:ay):Prop:=∃D',fQ P r.1 D'/\N <+: r.1/\cg P r.1 r.2 a
theorem tL(k:Int):dv (bH k).v:=ad.gw
theorem lA(j:0<=a/\a.toNat<n)(m:0<=b/\b.toNat<n):J.ahead n [a,b]=true:=by
 refine List.all_eq_true.2 (λx i=>?_);simp only[xR,xP,vX]at i;rcases i with rfl | rfl<;>simp<;>omega
theorem Av(j:0<=a/\a.toNat<n)(m:0<=b/\b.toNat<n)(q:0<=c/\c.toNat<n):J.ahead n [a,b,c]=true:=by
 refine List.all_eq_true.2 (λx i=>?_);simp only[xR,xP,vX]at i;rcases i with rfl | rfl | rfl<;>simp<;>omega
section
variable {P:List ay} {N:List Node} {D:List (List Int)}
theorem hb{op:Op}{args:List Int}{aa:List ay}(h:fQ P N D)(y:op.k≠1)(B:dv op.v)(x:J.ahead N.length args=true)(az:aR P N args=aa)(ar:(J.I op (aa.map (·.I))).2=0):Next P N (add N op args) (aX op aa):=by
 obtain⟨D',i,e,j,m,q,r⟩:=DG h y B x (by rw[az];exact ar);refine⟨D',j,m,?_⟩;rw[e];exact .some q (by rw[r,az])
theorem AN(h:fQ P N D)(ar:(size d).2=0):Next P N (cA N d) (a6 d):=by
 have i:=hb (op:={ bH 2 with I:=d }) (args:=[]) (aa:=[]) h (by show(2:Int)≠1;omega) ad.gw rfl rfl (by
  have:=ad.nt (op:={ bH 2 with I:=d }) rfl ar;show(J.I _ []).2=0;rw[this])
 rwa [ad.H6 (op:={ bH 2 with I:=d }) rfl rfl ar]at i
theorem nE(N:List Node)(op:Op)(args:List Int):0<=(add N op args).2:=by
 unfold add;split<;>dsimp only<;>omega
theorem lR{i:Int}{a:ay}(h:fQ P N D)(az:cg P N i a)(hw:cO a):Next P N (full N i a.I) a/\0<=(full N i a.I).2:=by
 unfold full;rcases az with ⟨j,m⟩ | ⟨j,m,q⟩
 .rw[qY j];have:=AN (d:=a.I) h hw.1;rw[<-m]at this;exact⟨this,nE _ _ _⟩
 rw[qV (by omega)];exact⟨⟨D,h,xA _,.inr ⟨j,m,q⟩⟩,j⟩
theorem cg.pf{i:Int}{a:ay}(h:cg P N i a)(hi:0<=i):i.toNat<N.length/\nth (values P N) i.toNat=a:=by
 rcases h with ⟨q,_⟩ | ⟨_,j,m⟩
 .omega
 exact⟨j,m⟩
theorem wb{i:Int}{a b:ay}(h:fQ P N D)(q:cg P N i a)(r:cg P N j b)(ar:a.I=b.I)(O:cO a)(y:cO b):Next P N (plus N i j) (aX (bH 3) [a,b]):=by
 unfold plus;by_cases hi:i<0
 .rw[qY hi];have:a=a6 b.I:=by
   rcases q with ⟨_,m⟩ | ⟨M,_⟩
   .rw[<-ar];exact m
   omega
  rw[this,ad.AB rfl y];exact⟨D,h,xA _,r⟩
 rw[qV hi];by_cases x:j<0
 .rw[qY x];have:b=a6 a.I:=by
   rcases r with ⟨_,m⟩ | ⟨M,_⟩
   .rw[ar];exact m
   omega
  rw[this,ad.yk rfl O];exact⟨D,h,xA _,q⟩
 rw[qV x];obtain⟨dm,a2⟩:=q.pf (by omega);obtain⟨B,E⟩:=r.pf (by omega);refine hb h (by show(3:Int)≠1;omega) (tL 3) (lA ⟨by omega,dm⟩ ⟨by omega,B⟩) ?_ ?_
 .show[nth (values P N) i.toNat,nth (values P N) j.toNat]=_;rw[a2,E]
 show(J.I (bH 3) [a.I,b.I]).2=0;rw[ar,ad.jc (.inl rfl) y.1]
theorem zr{op:Op}(i:op.k=8){c:ay}(j:c.I=d)(ar:(size d).2=0):aX op [c,a6 d,a6 d]=a6 d:=by
 rw[ad.ic (λt n=>by
  rw[ad.ti i];show(if _ then(a6 d).e.getD n 0 else(a6 d).e.getD n 0)=0;rw[ad.ke];split<;>rfl)]
 show a6 (J.I op [c.I,d,d]).1=_;rw[j,ad.oH i ar]
theorem rW{i:Int}{C a b:ay}(h:fQ P N D)(O:0<=c)(hC:cg P N c C)(E:cg P N i a)(M:cg P N j b)(y:cO a)(ah:cO b)(B:C.I=d)(ph:a.I=d)(r:b.I=d):Next P N (choice N c i j d) (aX (bH 8) [C,a,b]):=by
 unfold choice;by_cases Q:i<0/\j<0
 .rw[qY Q];have W:a=a6 d:=by
   rcases E with ⟨_,x⟩ | ⟨Y,_⟩
   .exact cg.Bn x ph
   omega
  have X:b=a6 d:=by
   rcases M with ⟨_,x⟩ | ⟨Y,_⟩
   .exact cg.Bn x r
   omega
  rw[W,X,zr rfl B (by rw[<-ph];exact y.1)];exact⟨D,h,xA _,.none _ _ _⟩
 rw[qV Q];obtain⟨⟨ak,m1,m,s1⟩,g1⟩:=lR h E y;rw[ph]at m1 m s1 g1;obtain⟨⟨dp,m2,q,s2⟩,g2⟩:=lR m1 (M.later m) ah;rw[r]at m2 q s2 g2;obtain⟨aO,bz⟩:=(hC.later (m.trans q)).pf O;obtain⟨dm,a2⟩:=(s1.later q).pf g1;obtain⟨U,V⟩:=s2.pf g2;obtain⟨S,m3,Z,ag⟩:=hb (op:=bH 8) (aa:=[C,a,b]) m2 (by show(8:Int)≠1;omega) (tL 8) (Av ⟨O,aO⟩ ⟨g1,dm⟩ ⟨g2,U⟩) (by
     simp only[aR,qE,zU,bz,a2,V]) (by
     show(J.I (bH 8) [C.I,a.I,b.I]).2=0;rw[B,ph,r,ad.oH rfl (by rw[<-ph];exact y.1)])
 exact⟨S,m3,(m.trans q).trans Z,ag⟩
theorem tx(dg:List (List Int)):∀(ss aa:List Int) (sV:List ay) {N:List Node} {D:List (List Int)},fQ P N D->ss.length=sV.length->aa.length=sV.length->(∀k (i:k<ss.length) (j:k<sV.length),cg P N ss[k] sV[k])->(∀k (i:k<aa.length) (j:k<sV.length),dg.getD aa[k].toNat []=sV[k].I)->(∀a∈sV,cO a)->∃D',fQ P (cz dg N ss aa).1 D'/\N <+: (cz dg N ss aa).1/\J.ahead (cz dg N ss aa).1.length (cz dg N ss aa).2=true/\aR P (cz dg N ss aa).1 (cz dg N ss aa).2=sV
 | [],aa,sV,N,D,h,i,j,m,q,r=>by
  obtain rfl:sV=[]:=List.length_eq_zero_iff.1 i.symm;have e:cz dg N [] aa=(N,[]):=by cases aa<;>rfl
  rw[e];exact⟨D,h,xA _,rfl,rfl⟩
 | s::ss,[],sV,N,D,h,i,j,m,q,r=>by simp at i j;omega
 | s::ss,a::aa,[],N,D,h,i,j,m,q,r=>by simp at i
 | s::ss,a::aa,v::sV,N,D,h,i,j,m,q,r=>by
  have ar:dg.getD a.toNat []=v.I:=q 0 (by simp) (by simp);have hw:cO v:=r v zL;have Q:cg P N s v:=m 0 (by simp) (by simp);obtain⟨⟨S,m1,M,s1⟩,g1⟩:=lR h Q hw;obtain⟨dp,m2,O,a2,v2⟩:=tx dg ss aa sV m1 (by simpa using i) (by simpa using j) (λk B E=>(show cg P N ss[k] sV[k]from m (k+1) (by simpa using B) (by simpa using E)).later M) (λk B E=>show dg.getD aa[k].toNat []=sV[k].I from q (k+1) (by simpa using B) (by simpa using E)) (λx y=>r x (zH _ y));have e:cz dg N (s::ss) (a::aa)=((cz dg (full N s v.I).1 ss aa).1,(full N s v.I).2::(cz dg (full N s v.I).1 ss aa).2):=by
   rw[<-ar];rfl
  rw[e];obtain⟨i1,i2⟩:=(s1.later O).pf g1;refine⟨dp,m2,M.trans O,?_,?_⟩
  .refine List.all_eq_true.2 (λx y=>?_);rcases List.mem_cons.1 y with rfl | y
   .simp;omega
   exact List.all_eq_true.1 a2 x y
  show nth _ _::aR P _ _=_;rw[i2];exact congrArg _ v2
end
end ae
end
section
namespace ae
open J (Op Node bh)
open ad (ay nth aX a6 cO dv)
open R (size)
theorem cv{op:Op}{args:List (List Int)}(h:J.I op args=(d,0)):J.right op.k args.length=0/\J.aP op args=(d,0)/\(size d).2=0:=by
 unfold J.I at h;by_cases i:J.right op.k args.length≠0
 .rw[qY i]at h;exact absurd (congrArg Prod.snd h) i
 rw[qV i]at h;by_cases j:J.sizes args≠0
 .rw[qY j]at h;exact absurd (congrArg Prod.snd h) j
 rw[qV j]at h;by_cases m:(J.aP op args).2≠0
 .rw[qY m]at h;exact absurd (congrArg Prod.snd h) m
 rw[qV m]at h;by_cases q:(size (J.aP op args).1).2≠0
 .rw[qY q]at h;exact absurd (congrArg Prod.snd h) q
 rw[qV q]at h;have e:=congrArg Prod.fst h;dsimp only at e;exact⟨by omega,uJ e (by omega),by rw[<-e];omega⟩
theorem nr{op:Op}{args:List (List Int)}(m:op.k=3\/op.k=4\/op.k=5\/op.k=6\/op.k=7\/op.k=8)(h:J.I op args=(d,0)):(∀x∈args,x=args.getD 0 [])/\args.getD 0 []=d:=by
 obtain⟨_,i,_⟩:=cv h;unfold J.aP at i;rw[qV (show ¬op.k=2 by omega),qY m]at i;by_cases j:(args.all λd=>decide (d=args.getD 0 []))=true
 .rw[qY j]at i;exact⟨λx q=>xG (List.all_eq_true.1 j x q),congrArg Prod.fst i⟩
 rw[qV j]at i;cases congrArg Prod.snd i
theorem hy{α:Type}{l:List α}(h:l.length=2):∃a b,l=[a,b]:=by
 match l,h with
 | [a,b],_=>exact⟨a,b,rfl⟩
theorem gW{α:Type}{l:List α}(h:l.length=3):∃a b c,l=[a,b,c]:=by
 match l,h with
 | [a,b,c],_=>exact⟨a,b,c,rfl⟩
theorem J7(op:Op)(args:List ay):(aX op args).e.length=(size (J.I op (args.map (·.I))).1).1.toNat:=by simp[aX]
theorem EU{op:Op}(h:op.k=3):plain op=bH 3:=by
 obtain⟨k,d,a,l,i,s,v⟩:=op;simp only at h;subst h;rfl
theorem CS{op:Op}(h:op.k=8):plain op=bH 8:=by
 obtain⟨k,d,a,l,i,s,v⟩:=op;simp only at h;subst h;rfl
section
variable {P:List ay} {N:List Node} {D:List (List Int)}
theorem Ft{i:Int}{a b:ay}(h:aR P N [i,j]=[a,b]):nth (values P N) i.toNat=a/\nth (values P N) j.toNat=b:=by
 simp only[aR,qE,zU,zT,xD]at h;exact h
theorem _root_.Xr{G:Prop}(h:G:=by
 rw[this];exact⟨D,h,xA _,.none _ _ _⟩
 ):G:=h
theorem ED{op:Op}{i p q:Int}{a b s t:ay}(h:fQ P N D)(V:op.k=5\/op.k=16)(M:dv op.v)(ar:J.I op [a.I,b.I]=(d,0))(Z:J.ahead N.length [i,j]=true)(az:aR P N [i,j]=[a,b])(S:cg P N p s)(U:cg P N q t)(ds:s.I=a.I)(ao:t.I=b.I)(ws:cO s)(wt:cO t)(aJ:cO a)(aK:cO b):Next P N (dn N op [i,j] [p,q]) (aX (bH 3) [aX op [s,b],aX op [a,t]]):=by
 obtain⟨aG,aI⟩:=Ft az;have hi:=bP Z (a:=i) (by simp);have aA:=bP Z (a:=j) (by simp);have B:J.I op ([s,b].map (·.I))=(d,0):=by show J.I op [s.I,b.I]=_;rw[ds,ar]
 have E:J.I op ([a,t].map (·.I))=(d,0):=by show J.I op [a.I,t.I]=_;rw[ao,ar]
 have W:op.k≠1:=by omega
 have ag:cO (aX op [s,b]):=ad.iX M (by rw[B]) (λx y=>by simp only[xR,xP,vX]at y;rcases y with rfl | rfl<;>assumption);have aC:cO (aX op [a,t]):=ad.iX M (by rw[E]) (λx y=>by simp only[xR,xP,vX]at y;rcases y with rfl | rfl<;>assumption);have ap:(aX op [s,b]).I=d:=by rw[ad.ew,B]
 have aq:(aX op [a,t]).I=d:=by rw[ad.ew,E]
 obtain⟨r,X⟩:=gz ((if p<0 then(N,-1)else add N op [p,j]));have bJ:Next P N r (aX op [s,b]):=by
  rw[<-X];by_cases hp:p<0
  .rw[qY hp];have es:s=a6 s.I:=by
    rcases S with ⟨_,h⟩ | ⟨h,_⟩
    .exact h
    omega
   have:aX op [s,b]=a6 d:=by
    rw[ad.ic (λt n=>ad.tZ V (by rw[es];exact ad.hA _) t n),B]
   exact Xr
  rw[qV hp];obtain⟨m,O⟩:=S.pf (by omega);exact hb h W M (lA ⟨by omega,m⟩ aA) (by simp only[aR,qE,zU,O,aI]) (by rw[B])
 obtain⟨ah,m1,m,s1⟩:=bJ;obtain⟨Q,Y⟩:=gz ((if q<0 then(r.1,-1)else add r.1 op [i,q]));have bn:Next P r.1 Q (aX op [a,t]):=by
  rw[<-Y];by_cases hq:q<0
  .rw[qY hq];have av:t=a6 t.I:=by
    rcases U with ⟨_,h⟩ | ⟨h,_⟩
    .exact h
    omega
   have:aX op [a,t]=a6 d:=by
    rw[ad.ic (λu n=>ad.th V (by rw[av];exact ad.hA _) u n),E]
   rw[this];exact⟨ah,m1,xA _,.none _ _ _⟩
  rw[qV hq];obtain⟨aD,aE⟩:=(U.later m).pf (by omega);have aH:nth (values P r.1) i.toNat=a:=by rw[gh (fj m) (by rw[db];exact hi.2),aG]
  exact hb m1 W M (lA ⟨hi.1,zW hi.2 m.length_le⟩ ⟨by omega,aD⟩) (by simp only[aR,qE,zU,aE,aH]) (by rw[E])
 obtain⟨dp,m2,O,s2⟩:=bn;obtain⟨ak,m3,aB,aF⟩:=wb m2 (s1.later O) s2 (by rw[ap,aq]) ag aC;have e:dn N op [i,j] [p,q]=plus Q.1 r.2 Q.2:=by
  rw[<-Y,<-X];rfl
 rw[e];exact⟨ak,m3,(m.trans O).trans aB,aF⟩
theorem _root_.Xw{G:Prop}(h:G:=by
 by_cases e:aV.length=3
 .exact e
 .rw[qV e]at cw;cases cw
 ):G:=h
theorem CC{dg:List (List Int)}{x:Node}{v:List Int}{aV sV:List ay}(h:fQ P N D)(aC:x.o.k≠1)(ah:dv x.o.v)(ar:J.I x.o (aV.map (·.I))=(d,0))(Y:J.ahead N.length v=true)(V:aR P N v=aV)(aD:s.length=sV.length)(a7:x.a.length=sV.length)(az:∀k (O:k<s.length) (r:k<sV.length),cg P N s[k] sV[k])(S:sV.map (·.I)=aV.map (·.I))(X:∀a∈sV,cO a)(aJ:∀a∈aV,cO a)(a2:∀k (O:k<x.a.length) (r:k<sV.length),dg.getD x.a[k].toNat []=sV[k].I):Next P N (bO dg N x v s d) (bZ x.o d aV sV):=by
 obtain⟨cw,_,aO⟩:=cv ar;have ag:sV.length=aV.length:=by have:=congrArg List.length S;simpa using this
 have aK:v.length=aV.length:=by have:=congrArg List.length V;simpa[aR]using this
 rw[zJ]at cw;unfold bO bZ;by_cases ak:x.o.k=2\/x.o.k=7
 .rw[qY ak,qY ak];exact⟨D,h,xA _,.none _ _ _⟩
 rw[qV ak,qV ak];by_cases bg:x.o.k=3\/x.o.k=4\/x.o.k=5\/x.o.k=6\/x.o.k=16\/x.o.k=18\/x.o.k=19
 .have B:aV.length=2:=by
    unfold J.right at cw;rw[qV (show ¬x.o.k=2 by omega),qY (show x.o.k=3\/x.o.k=4\/x.o.k=5\/x.o.k=6\/x.o.k=7\/x.o.k=16\/x.o.k=18\/x.o.k=19 by omega)]at cw;by_cases e:aV.length=2
    .exact e
    rw[qV e]at cw;cases cw
  obtain⟨a,b,rfl⟩:=hy B;obtain⟨s',m,rfl⟩:=hy (ag.trans B);obtain⟨i,j,rfl⟩:=hy (aK.trans B);obtain⟨p,q,rfl⟩:=hy (aD.trans (ag.trans B));have hp:cg P N p s':=az 0 (by simp) (by simp);have hq:cg P N q m:=az 1 (by simp) (by simp);simp only[qE,zU,zT,xD]at S;obtain⟨ds,M⟩:=S;have ws:cO s':=X _ (by simp);have wt:cO m:=X _ (by simp);have bd:cO a:=aJ _ (by simp);have be:cO b:=aJ _ (by simp);obtain⟨aW,bc⟩:=Ft V;have hi:=bP Y (a:=i) (by simp);have a3:=bP Y (a:=j) (by simp);have y:J.I x.o [a.I,b.I]=(d,0):=ar;show Next P N (if x.o.k=3 then plus N p q else if x.o.k=4 then(if q<0 then(N,p)else add (full N p d).1 x.o [(full N p d).2,q])else if x.o.k=5\/x.o.k=16 then dn N x.o [i,j] [p,q]else if x.o.k=6 then choice (add N (bH 7) [i,j]).1 (add N (bH 7) [i,j]).2 q p d else if x.o.k=8 then _ else if x.o.k=18\/x.o.k=19 then(if p<0 then(N,-1)else add N x.o [p,j])else _) _;by_cases aF:x.o.k=3
  .rw[qY aF,qV (show ¬(x.o.k=5\/x.o.k=16) by omega),qV (show ¬x.o.k=6 by omega),qV (show ¬x.o.k=8 by omega),qV (show ¬(x.o.k=18\/x.o.k=19) by omega)];obtain⟨O,r⟩:=nr (by omega) y;have ed:s'.I=m.I:=by rw[ds,M];exact(O b.I (by simp)).symm
   have aA:(J.I x.o ([s',m].map (·.I))).2=0:=by show(J.I x.o [s'.I,m.I]).2=0;rw[ds,M,y]
   rw[<-oI aA,EU aF];exact wb h hp hq ed ws wt
  rw[qV aF];by_cases aG:x.o.k=4
  .rw[qY aG,qV (show ¬(x.o.k=5\/x.o.k=16) by omega),qV (show ¬x.o.k=6 by omega),qV (show ¬x.o.k=8 by omega),qV (show ¬(x.o.k=18\/x.o.k=19) by omega)];obtain⟨O,r⟩:=nr (by omega) y;have ph:a.I=d:=r;have Q:b.I=d:=by rw[O b.I (by simp)];exact r
   by_cases aN:q<0
   .rw[qY aN];have a0:m=a6 s'.I:=by
     rcases hq with ⟨_,e⟩ | ⟨e,_⟩
     .rw[e,M,ds,ph,Q]
     omega
    rw[a0,ad.ym aG ws];exact⟨D,h,xA _,hp⟩
   rw[qV aN];obtain⟨⟨aH,m1,E,s1⟩,g1⟩:=lR h hp ws;rw[ds,ph]at m1 E s1 g1;obtain⟨f1,f2⟩:=s1.pf g1;obtain⟨a',bb⟩:=(hq.later E).pf (by omega);obtain⟨dp,m2,U,s2⟩:=hb (aa:=[s',m]) m1 aC ah (lA ⟨g1,f1⟩ ⟨by omega,a'⟩) (by simp only[aR,qE,zU,f2,bb]) (by show(J.I x.o [s'.I,m.I]).2=0;rw[ds,M,y]);exact⟨dp,m2,E.trans U,s2⟩
  rw[qV aG];by_cases Z:x.o.k=5\/x.o.k=16
  .rw[qY Z,qY Z];exact ED h Z ah y Y V hp hq ds M ws wt bd be
  rw[qV Z,qV Z];by_cases ao:x.o.k=6
  .rw[qY ao,qY ao];obtain⟨O,r⟩:=nr (by omega) y;have ph:a.I=d:=r;have Q:b.I=d:=by rw[O b.I (by simp)];exact r
   have aB:J.I (bH 7) ([a,b].map (·.I))=(d,0):=by show J.I _ [a.I,b.I]=_;rw[ph,Q];exact ad.jc (.inr (.inr (.inr (.inr rfl)))) aO
   obtain⟨aH,m1,E,s1⟩:=hb (op:=bH 7) (aa:=[a,b]) h (by show(7:Int)≠1;omega) (tL 7) Y V (by rw[aB]);have dl:(aX (bH 7) [a,b]).I=d:=by rw[ad.ew,aB]
   obtain⟨dp,m2,U,s2⟩:=rW m1 (nE _ _ _) s1 (hq.later E) (hp.later E) wt ws dl (M.trans Q) (ds.trans ph);have av:J.I (bH 8) ([aX (bH 7) [a,b],m,s'].map (·.I))=(d,0):=by
    show J.I _ [(aX (bH 7) [a,b]).I,m.I,s'.I]=_;rw[dl,M,ds,ph,Q];exact ad.oH rfl aO
   have e:aX (bH 8) [aX (bH 7) [a,b],m,s']=⟨d,(List.range (size d).1.toNat).map λ(i:Nat)=>if a.e.getD i 0<b.e.getD i 0 then m.e.getD i 0 else s'.e.getD i 0⟩:=by
    refine ad.oj (by rw[ad.ew,av]) (by rw[J7,av];simp) (λn B=>?_);have aE:n<(size d).1.toNat:=by simpa using B
    rw[ad.q9 (by rw[av];exact aE),ad.ti rfl];show(if (aX (bH 7) [a,b]).e.getD n 0≠0 then m.e.getD n 0 else s'.e.getD n 0)=_;rw[ad.q9 (by rw[aB];exact aE),ad.Cl rfl];show(if (if a.e.getD n 0<b.e.getD n 0 then(1:Int)else 0)≠0 then m.e.getD n 0 else s'.e.getD n 0)=_;rw[qU (l:=List.map _ _),jT,List.getElem?_range aE];show _=(if a.e.getD n 0<b.e.getD n 0 then m.e.getD n 0 else s'.e.getD n 0);simp
   rw[e]at s2;exact⟨dp,m2,E.trans U,s2⟩
  have aU:¬x.o.k=8:=by omega
  have aZ:x.o.k=18\/x.o.k=19:=by omega
  rw[qV ao,qV ao,qV aU,qV aU,qY aZ,qY aZ];by_cases aL:p<0
  .rw[qY aL];have es:s'=a6 s'.I:=by
    rcases hp with ⟨_,e⟩ | ⟨e,_⟩
    .exact e
    omega
   have:aX x.o [s',b]=a6 d:=by
    rw[ad.ic (λt n=>ad.Cm (by omega) (by rw[es];exact ad.hA _) t n)];show a6 (J.I x.o [s'.I,b.I]).1=_;rw[ds,y]
   show Next P N (N,-1) (aX x.o [s',b]);exact Xr
  rw[qV aL];obtain⟨E,U⟩:=hp.pf (by omega);exact hb h aC ah (lA ⟨by omega,E⟩ a3) (by simp only[aR,qE,zU,U,bc];rfl) (by show(J.I x.o [s'.I,b.I]).2=0;rw[ds,y])
 have a9:¬x.o.k=3:=by omega
 have a_:¬x.o.k=4:=by omega
 have aQ:¬(x.o.k=5\/x.o.k=16):=by omega
 have aT:¬x.o.k=6:=by omega
 have aP:¬(x.o.k=18\/x.o.k=19):=by omega
 rw[qV a9,qV a_,qV aQ,qV aQ,qV aT,qV aT];by_cases W:x.o.k=8
 .have B:aV.length=3:=by
    unfold J.right at cw;rw[qV (show ¬x.o.k=2 by omega),qV (show ¬(x.o.k=3\/x.o.k=4\/x.o.k=5\/x.o.k=6\/x.o.k=7\/x.o.k=16\/x.o.k=18\/x.o.k=19) by omega),qY W]at cw;exact Xw
  obtain⟨a,b,c,rfl⟩:=gW B;obtain⟨s',m,ap,rfl⟩:=gW (ag.trans B);obtain⟨i,j,l,rfl⟩:=gW (aK.trans B);obtain⟨p,q,o,rfl⟩:=gW (aD.trans (ag.trans B));rw[qY W,qY W];have hq:cg P N q m:=az 1 (by simp) (by simp);have a8:cg P N o ap:=az 2 (by simp) (by simp);simp only[qE,zU,zT,xD]at S;obtain⟨ds,M,aI⟩:=S;have y:J.I x.o [a.I,b.I,c.I]=(d,0):=ar;obtain⟨O,r⟩:=nr (by omega) y;have ph:a.I=d:=r;have Q:b.I=d:=by rw[O b.I (by simp)];exact r
  have dc:c.I=d:=by rw[O c.I (by simp)];exact r
  have hi:=bP Y (a:=i) (by simp);have aW:nth (values P N) i.toNat=a:=by
   simp only[aR,qE,zU,zT,xD]at V;exact V.1
  have aA:(J.I x.o ([a,m,ap].map (·.I))).2=0:=by
   show(J.I x.o [a.I,m.I,ap.I]).2=0;rw[M,aI,y]
  show Next P N (choice N i q o d) (aX x.o [a,m,ap]);rw[<-oI aA,CS W];exact rW h hi.1 (.inr ⟨hi.1,hi.2,aW⟩) hq a8 (X _ (by simp)) (X _ (by simp)) ph (M.trans Q) (aI.trans dc)
 rw[qV W,qV W,qV aP,qV aP];have a5:x.o.k=9\/x.o.k=10\/x.o.k=11\/x.o.k=12\/x.o.k=13\/x.o.k=14\/x.o.k=15\/x.o.k=17:=by
  unfold J.right at cw
  repeat' split at cw
  all_goals omega
 by_cases aq:(s.all λk=>decide (k<0))=true
 .rw[qY aq];have:aX x.o sV=a6 d:=by
   rw[ad.ic (λt n=>ad.sj a5 (λa a1=>?_) t n),S,ar];obtain⟨k,a4,rfl⟩:=zQ a1;have bf:=xG (List.all_eq_true.1 aq _ (qP (show k<s.length by omega)));rcases az k (by omega) a4 with ⟨_,e⟩ | ⟨e,_⟩
   .rw[e];exact ad.hA _
   omega
  exact Xr
 rw[qV aq];obtain⟨aH,m1,E,dm,v1⟩:=tx dg s x.a sV h aD a7 az a2 X;obtain⟨dp,m2,U,s2⟩:=hb m1 aC ah dm v1 (by rw[S,ar]);exact⟨dp,m2,E.trans U,s2⟩
end
end ae
end
section
namespace J
theorem dO(i:List Node):params i<=i.length:=(List.takeWhile_prefix _).length_le
theorem nH:∀(i:List Node) (k:Nat),(∀j (h:j<i.length),j<k->i[j].o.k=1)->(k=i.length\/∃h:k<i.length,i[k].o.k≠1)->params i=k
 | [],k,_,m=>by
  rcases m with h | ⟨h,_⟩
  .rw[h];rfl
  simp at h
 | x::r,0,q,m=>by
  rcases m with h | ⟨h,y⟩
  .simp at h
  have:(x.o.k == 1)=false:=by simpa using y
  unfold params;rw[List.takeWhile_cons,this];rfl
 | x::r,k+1,q,m=>by
  have D:(x.o.k == 1)=true:=by have:=q 0 (by simp) (by omega);simpa using this
  have B:=nH r k (λj h E=>by have:=q (j+1) (by simpa using h) (by omega);simpa using this) (by
   rcases m with h | ⟨h,y⟩
   .left;simpa using h
   right;exact⟨by simpa using h,by simpa using y⟩)
  unfold params at B |-;rw[List.takeWhile_cons,D];simp[B]
theorem rY(i:List Node){j:Nat}(h:j<i.length)(y:j<params i):i[j].o.k=1:=by
 have r:i[j]∈i.takeWhile λx=>x.o.k == 1:=by
  have e:=(List.takeWhile_prefix (l:=i) (λx=>x.o.k == 1));obtain⟨t,B⟩:=e;have q:j<(i.takeWhile λx=>x.o.k == 1).length:=y;have m:i[j]?=(i.takeWhile λx=>x.o.k == 1)[j]?:=by rw[<-jX (l₂:=t) q,B]
  rw[qC h,qC q]at m;injection m with m
  rw[m];exact qP q
 have:=List.all_eq_true.1 (List.all_takeWhile (p:=λx:Node=>x.o.k == 1) (l:=i)) _ r;simpa using this
end J
end
section
namespace ae
open J (Op Node bh)
open ad (ay nth aX a6 cO dv)
open R (size)
def ik(d:List Int)(i:Nat):Node:=⟨{ bH 1 with I:=d,a:=[(i:Int)] },[]⟩
def e_(ds:List (List Int)):List Node:=(List.range ds.length).map λi=>ik (ds.getD i []) i
theorem h7(ds:List (List Int)):(e_ ds).length=ds.length:=by simp[e_]
theorem uf(h:i<(e_ ds).length):(e_ ds)[i]=ik (ds.getD i []) i:=by simp[e_]
theorem EP(ds:List (List Int))(d:List Int):e_ (ds++[d])=e_ ds++[ik d ds.length]:=by
 unfold e_;rw[qW,xS,kE,zI]
 congr 1
 .refine xC (λi hi=>?_);rw[hZ _ (List.mem_range.1 hi)]
 show[ik ((ds++[d]).getD ds.length []) ds.length]=_;rw[hY]
theorem Bi(ds:List (List Int))(d:List Int)(op:Op)(h:plain op=(ik d ds.length).o):add (e_ ds) op []=(e_ (ds++[d]),(ds.length:Int)):=by
 have q:(e_ ds).findIdx? (λx=>decide (x=⟨plain op,[]⟩))=none:=by
  rw[List.findIdx?_eq_none_iff];intro x r;obtain⟨i,hi,rfl⟩:=zQ r;rw[uf hi];refine zN (λe=>?_);have j:(ik (ds.getD i []) i).o=plain op:=congrArg Node.o e;rw[h]at j;have m:=congrArg Op.a j;simp only[ik,zT,xD]at m;rw[h7]at hi;omega
 unfold add;rw[q];simp only[EP,h7];rw[h];rfl
theorem CN(ds:List (List Int))(d:List Int):param (e_ ds) d=(e_ (ds++[d]),(ds.length:Int)):=by
 unfold param;rw[h7];exact Bi ds d _ rfl
theorem _root_.Ze{G:Prop}(h:G:=by
 rw[qD (show k<ds.length by omega),qU,qC];rfl
 ):G:=h
theorem s3{g:bh}{ds:List (List Int)} : ∀k,k<=g.n.length->k<=ds.length->(∀i (h:i<g.n.length),i<k->plain g.n[i].o=(ik (ds.getD i []) i).o)->begun g k=e_ (ds.take k)
 | 0,_,_,_=>rfl
 | k+1,x,y,j=>by
  have m:=s3 (g:=g) (ds:=ds) k (by omega) (by omega) (λi h hi=>j i h (by omega));have r:(ds.take k).length=k:=by rw[qM];omega
  unfold begun at m |-;rw[qD (show k<g.n.length by omega),jE,m];show(add (e_ (ds.take k)) g.n[k].o []).1=_;have q:=j k (by omega) (by omega);have e:ds.take (k+1)=ds.take k++[ds.getD k []]:=by
   exact Ze
  rw[Bi (ds.take k) (ds.getD k []) _ (by rw[q,r]),e]
theorem pR(ds:List (List Int))(D:List (List Int)):∀k,k<=ds.length->changes ds k (e_ D,[])=(e_ (D++ds.take k),(List.range k).map λi=>((D.length+i:Nat):Int))
 | 0,_=>by simp[changes]
 | k+1,h=>by
  have j:=pR ds D k (by omega);have e:ds.take (k+1)=ds.take k++[ds.getD k []]:=by
   exact Ze
  show(let q:=changes ds k (e_ D,[]);((param q.1 (ds.getD k [])).1,q.2++[(param q.1 (ds.getD k [])).2]))=_;rw[j];simp only[CN];rw[e,<-zE,kE,zI]
  congr 1
  simp only[qE,zU,qW,qM];rw[yB (by omega)]
theorem gb{g:bh}(h:(J.look g).2=0):Good (J.params g.n) g.n (J.look g).1:=by
 have key:∀(ps:Nat) (j:List Node) (out:List (List Int)),(J.bL ps j out).2=0->out <+: (J.bL ps j out).1/\((J.bL ps j out).1).length=out.length+j.length /\
     ∀i (hi:i<j.length),J.aT j[i] (out.length+i) ps ((J.bL ps j out).1.take (out.length+i))=((J.bL ps j out).1.getD (out.length+i) [],0):=λps j=>by
  induction j with
  | nil=>exact λout _=>⟨xA _,rfl,λi hi=>by simp at hi⟩
  | cons x r N =>
   intro out m;have e:J.bL ps (x::r) out=if (J.aT x out.length ps out).2≠0 then([],(J.aT x out.length ps out).2)else J.bL ps r (out++[(J.aT x out.length ps out).1]):=rfl
   rw[e]at m |-;by_cases q:(J.aT x out.length ps out).2≠0
   .rw[qY q]at m;exact absurd m q
   rw[qV q]at m |-;obtain⟨i1,i2,i3⟩:=N _ m;refine⟨(yP _ _).trans i1,by rw[i2];simp;omega,λi hi=>?_⟩;cases i with
   | zero =>
    rw[qL];obtain⟨t,E⟩:=i1;have I:(J.bL ps r (out++[(J.aT x out.length ps out).1])).1.take out.length=out:=by
     rw[<-E,zE,List.take_left]
    have M:(J.bL ps r (out++[(J.aT x out.length ps out).1])).1.getD out.length []=(J.aT x out.length ps out).1:=by
     rw[<-E,hZ _ (by simp),hY]
    rw[I,M];exact uJ rfl (by show(J.aT x out.length ps out).2=0;omega)
   | succ i =>
    have:=i3 i (by simpa using hi);rw[qW,xS]at this;rw[show out.length+(i+1)=out.length+1+i by omega];simpa using this
 unfold J.look at h |-;by_cases B:4096<g.n.length
 .rw[qY B]at h;cases h
 rw[qV B]at h |-;by_cases y:(J.bL (J.params g.n) g.n []).2≠0
 .rw[qY y]at h;exact absurd h y
 rw[qV y]at h |-;by_cases D:J.ahead g.n.length g.o=false
 .rw[qY D]at h;cases h
 rw[qV D];obtain⟨_,O,Q⟩:=key (J.params g.n) g.n [] (by omega);refine⟨by simpa using O,λi hi=>?_⟩;have:=Q i hi;simpa using this
end ae
end
section
namespace ae
open J (Op Node bh)
open ad (ay nth aX a6 cO dv)
open R (size)
theorem iu{P:List ay}{N:List Node}(hi:i<N.length)(j:i<P.length):nth (values P N) i=nth P i:=by
 rw[q0 hi];unfold worth;have m:((values P N).take i).length=i:=by rw[qM,db];omega
 rw[m,qY j]
theorem oa{P:List ay}{N:List Node}(hi:i<N.length)(q:P.length<=i)(m:J.ahead i N[i].a=true):nth (values P N) i=aX N[i].o (aR P N N[i].a):=by
 rw[q0 hi];unfold worth;have j:((values P N).take i).length=i:=by rw[qM,db];omega
 rw[j,qV (by omega)]
 congr 1
 unfold aR;refine xC (λa hm=>?_);exact(gh (pU _ _) (by rw[j];exact(bP m hm).2)).symm
theorem EA{P:List ay}{N:List Node}(q:Good P.length N D)(M:P.length<=N.length)(B:∀i (h:i<N.length),i<P.length->N[i].o.k=1)(r:∀i (h:i<N.length),P.length<=i->N[i].o.k≠1)(E:∀i,i<P.length->(nth P i).I=D.getD i []/\cO (nth P i))(O:∀x∈N,dv x.o.v):fQ P N D:=by
 have key:∀n i,i<n->i<N.length->(nth (values P N) i).I=D.getD i []/\cO (nth (values P N) i):=λn=>by
  induction n with
  | zero=>exact λi h=>by omega
  | succ n y =>
   intro i S hi;by_cases hp:i<P.length
   .rw[iu hi hp];exact E i hp
   have j:=q.2 i hi;have m:=ig j;rw[jx (r i hi (by omega)) m (by rw[q.1];omega)]at j;have e:J.cL D N[i].a=(aR P N N[i].a).map (·.I):=by
    unfold J.cL aR;rw[vE];refine xC (λa hm=>?_);have:=bP m hm;exact((y a.toNat (by omega) (by omega)).1).symm
   rw[e]at j;rw[oa hi (by omega) m];refine⟨by rw[ad.ew,j],ad.iX (O _ (qP hi)) (by rw[j]) (λx Q=>?_)⟩;obtain⟨a,hm,rfl⟩:=List.mem_map.1 Q;have:=bP m hm;exact(y a.toNat (by omega) (by omega)).2
 exact⟨q,M,B,r,λi hi=>(key (i+1) i (by omega) hi).1,λi hi=>(key (i+1) i (by omega) hi).2⟩
theorem oC{a b:ay}(j:cO a)(m:cO b):∀x∈[a,b],cO x:=λx i=>by
 simp only[xR,xP,vX]at i;rcases i with rfl | rfl<;>assumption
theorem _root_.Qa{G:Prop}(h:G:=by
 unfold J.right at cw;rw[qV (show ¬op.k=2 by omega),qY (show op.k=3\/op.k=4\/op.k=5\/op.k=6\/op.k=7\/op.k=16\/op.k=18\/op.k=19 by omega)]at cw;by_cases e:aV.length=2
 .exact e
 .rw[qV e]at cw;cases cw
 ):G:=h
theorem r1{op:Op}{aV sV:List ay}(y:dv op.v)(ar:J.I op (aV.map (·.I))=(d,0))(j:sV.map (·.I)=aV.map (·.I))(r:∀a∈sV,cO a)(D:∀a∈aV,cO a):(bZ op d aV sV).I=d/\cO (bZ op d aV sV):=by
 obtain⟨cw,_,N⟩:=cv ar;have M:sV.length=aV.length:=by have:=congrArg List.length j;simpa using this
 rw[zJ]at cw;unfold bZ;by_cases V:op.k=2\/op.k=7
 .rw[qY V];exact⟨rfl,ad.tB N⟩
 rw[qV V];by_cases W:op.k=5\/op.k=16
 .rw[qY W];have q:aV.length=2:=by
   exact Qa
  obtain⟨a,b,rfl⟩:=hy q;obtain⟨s,t,rfl⟩:=hy (M.trans q);simp only[qE,zU,zT,xD]at j;obtain⟨ds,B⟩:=j;have m:J.I op ([s,b].map (·.I))=(d,0):=by show J.I op [s.I,b.I]=_;rw[ds];exact ar
  have Q:J.I op ([a,t].map (·.I))=(d,0):=by show J.I op [a.I,t.I]=_;rw[B];exact ar
  have ag:cO (aX op [s,b]):=ad.iX y (by rw[m]) (oC (r _ (by simp)) (D _ (by simp)));have aC:cO (aX op [a,t]):=ad.iX y (by rw[Q]) (oC (D _ (by simp)) (r _ (by simp)));have S:J.I (bH 3) ([aX op [s,b],aX op [a,t]].map (·.I))=(d,0):=by
   show J.I _ [(aX op [s,b]).I,(aX op [a,t]).I]=_;rw[ad.ew,ad.ew,m,Q];exact ad.jc (.inl rfl) N
  show(aX (bH 3) [aX op [s,b],aX op [a,t]]).I=d/\cO (aX (bH 3) [aX op [s,b],aX op [a,t]]);exact⟨by rw[ad.ew,S],ad.iX (tL 3) (by rw[S]) (oC ag aC)⟩
 rw[qV W];by_cases X:op.k=6
 .rw[qY X];refine⟨rfl,N,by simp,λx E=>?_⟩;obtain⟨i,_,rfl⟩:=List.mem_map.1 E;have Z:∀k,dv ((nth sV k).e.getD i 0):=λk=>ad.tK (ad.rb (λa ah=>(r a ah).2.2) k) i
  split<;>exact Z _
 rw[qV X];by_cases O:op.k=8
 .rw[qY O];have q:aV.length=3:=by
   unfold J.right at cw;rw[qV (show ¬op.k=2 by omega),qV (show ¬(op.k=3\/op.k=4\/op.k=5\/op.k=6\/op.k=7\/op.k=16\/op.k=18\/op.k=19) by omega),qY O]at cw;exact Xw
  obtain⟨a,b,c,rfl⟩:=gW q;obtain⟨s,t,u,rfl⟩:=gW (M.trans q);simp only[qE,zU,zT,xD]at j;obtain⟨ds,B,Y⟩:=j;have m:J.I op ([a,t,u].map (·.I))=(d,0):=by show J.I op [a.I,t.I,u.I]=_;rw[B,Y];exact ar
  show(aX op [a,t,u]).I=d/\cO (aX op [a,t,u]);refine⟨by rw[ad.ew,m],ad.iX y (by rw[m]) (λx E=>?_)⟩;simp only[xR,xP,vX]at E;rcases E with rfl | rfl | rfl
  .exact D _ (by simp)
  .exact r _ (by simp)
  exact r _ (by simp)
 rw[qV O];by_cases U:op.k=18\/op.k=19
 .rw[qY U];have q:aV.length=2:=by
   exact Qa
  obtain⟨a,b,rfl⟩:=hy q;obtain⟨s,t,rfl⟩:=hy (M.trans q);simp only[qE,zU,zT,xD]at j;obtain⟨ds,B⟩:=j;have m:J.I op ([s,b].map (·.I))=(d,0):=by show J.I op [s.I,b.I]=_;rw[ds];exact ar
  show(aX op [s,b]).I=d/\cO (aX op [s,b]);exact⟨by rw[ad.ew,m],ad.iX y (by rw[m]) (oC (r _ (by simp)) (D _ (by simp)))⟩
 rw[qV U];exact⟨by rw[ad.ew,j,ar],ad.iX y (by rw[j,ar]) r⟩
def hF(bY V:List ay):List Node->List ay->List ay
 | [],out=>out
 | x::r,out=>hF bY V r (out++[if out.length<bY.length then nth bY out.length else bZ x.o (nth V out.length).I (x.a.map λa=>nth V a.toNat) (x.a.map λa=>nth out a.toNat)])
end ae
end
section
namespace ae
open J (Op Node bh)
open ad (ay nth aX a6 cO dv)
open R (size)
structure Fits (g:bh) (A bY:List ay):Prop where
 ok:(J.look g).2=0
 ji:A.length=J.params g.n
 pn:bY.length=J.params g.n
 xb:∀i,i<J.params g.n->(nth A i).I=(J.look g).1.getD i []/\cO (nth A i)
 LM:∀i,i<J.params g.n->(nth bY i).I=(J.look g).1.getD i []/\cO (nth bY i)
 val:∀x∈g.n,dv x.o.v
theorem tz{x:Node}(B:x.o.k=1)(h:J.aT x i ps D=(d,0)):i<ps/\x.o.a=[(i:Int)]/\x.o.I=d/\x.a=[]/\(size d).2=0:=by
 unfold J.aT at h;by_cases r:J.ahead i x.a=false
 .rw[qY r]at h;cases congrArg Prod.snd h
 rw[qV r,qV (show ¬x.o.k≠1 by omega)]at h;by_cases j:ps<=i\/x.o.a.length≠1\/x.o.a.getD 0 0≠(i:Int)
 .rw[qY j]at h;cases congrArg Prod.snd h
 rw[qV j]at h;by_cases y:0<x.a.length
 .rw[qY y]at h;cases congrArg Prod.snd h
 rw[qV y]at h;by_cases m:(size x.o.I).2≠0
 .rw[qY m]at h;exact absurd (congrArg Prod.snd h) m
 rw[qV m]at h;have e:=congrArg Prod.fst h;dsimp only at e;refine⟨by omega,?_,e,List.length_eq_zero_iff.1 (by omega),by rw[<-e];omega⟩
 match q:x.o.a with
 | []=>rw[q]at j;simp at j
 | [a]=>rw[q]at j;simp at j;rw[j.2]
 | a::b::l=>rw[q]at j;simp at j
theorem lP{g:bh}{A bY:List ay}(h:Fits g A bY):fQ A g.n (J.look g).1:=by
 have j:=gb h.ok;refine EA (by rw[h.ji];exact j) (by rw[h.ji];exact J.dO _) (λi hi hp=>J.rY _ hi (by rw[<-h.ji];exact hp)) (λi hi hp m=>?_) (λi hi=>h.xb i (by rw[<-h.ji];exact hi)) h.val;have:=(tz m (j.2 i hi)).1;rw[h.ji]at hp;omega
theorem hL{l m:List ay}(h:i<l.length):nth (l++m) i=nth l i:=hZ _ h
theorem mU{l m:List ay} : nth (l++m) (l.length+i)=nth m i:=by
 unfold nth;rw[qU,qU,zO (by omega),kF]
theorem EB{g:bh}{A bY:List ay}(h:Fits g A bY):changes (J.look g).1 (J.params g.n) (begun g (J.params g.n),[])=(e_ ((J.look g).1.take (J.params g.n)++(J.look g).1.take (J.params g.n)),(List.range (J.params g.n)).map λi=>((J.params g.n+i:Nat):Int))/\fQ (A++bY) (e_ ((J.look g).1.take (J.params g.n)++(J.look g).1.take (J.params g.n))) ((J.look g).1.take (J.params g.n)++(J.look g).1.take (J.params g.n)):=by
 have B:=gb h.ok;have hp:=J.dO g.n;have D:∀i (hi:i<g.n.length),i<J.params g.n->g.n[i].o.k=1:=λi hi hp=>J.rY _ hi hp
 have M:=h.ji;have U:=h.pn;have O:=h.xb;have Q:=h.LM;generalize J.params g.n=ps at *;generalize (J.look g).1=ds at *;have ar:ds.length=g.n.length:=B.1;have r:(ds.take ps).length=ps:=by rw[qM];omega
 have N:begun g ps=e_ (ds.take ps):=s3 ps hp (by omega) (λi hi E=>by
  obtain⟨_,dm,a2,_,_⟩:=tz (D i hi E) (B.2 i hi);have q:=D i hi E;generalize g.n[i].o=op at q dm a2;obtain⟨k,d,a,l,X,s,v⟩:=op;simp only at q dm a2;subst q dm a2;rfl)
 have Z:(A++bY).length=ps+ps:=by rw[qW,M,U]
 have W:(ds.take ps++ds.take ps).length=ps+ps:=by rw[qW,r]
 have y:∀i,i<ps+ps->(nth (A++bY) i).I=(ds.take ps++ds.take ps).getD i []/\cO (nth (A++bY) i):=λi hi=>by
  by_cases e:i<ps
  .rw[hL (by omega),hZ _ (by omega)];have:=O i e;rw[qU,yW,qY e,<-qU];exact this
  obtain⟨k,rfl⟩:∃k,i=ps+k:=⟨i-ps,by omega⟩;have j:nth (A++bY) (ps+k)=nth bY k:=by rw[<-M];exact mU
  have m:(ds.take ps++ds.take ps).getD (ps+k) []=ds.getD k []:=by
   rw[qU,zO (by omega),r,kF,yW,qY (by omega),<-qU]
  rw[j,m];exact Q k (by omega)
 refine⟨?_,EA ⟨(h7 _).symm,λi hi=>?_⟩ (by rw[h7];omega) (λi hi _=>by rw[uf hi];rfl) (λi hi Y=>by rw[h7]at hi;omega) (λi hi=>y i (by omega)) (λx V=>?_)⟩
 .rw[N,pR ds (ds.take ps) ps (by omega),r]
 .have S:i<ps+ps:=by rw[h7]at hi;omega
  obtain⟨j,m⟩:=y i S;have az:=m.1;rw[j]at az;rw[uf hi];unfold J.aT ik;rw[qV (by simp[J.ahead]),qV (by simp[bH]),qV (by simp;omega),qV (by simp),qV (by simpa[bH]using az)]
 obtain⟨i,_,rfl⟩:=List.mem_map.1 V;exact ad.gw
def mA(P:List ay)(N:List Node)(at_:List Int)(V:List ay):Prop:=∀j (h:j<at_.length),0<=at_[j]/\at_[j].toNat<N.length/\nth (values P N) at_[j].toNat=nth V j
theorem mA.later{P:List ay}{N M:List Node}{at_:List Int}{V:List ay}(h:mA P N at_ V)(hp:N <+: M):mA P M at_ V:=λj r=>by
 obtain⟨m,i,q⟩:=h j r;exact⟨m,zW i hp.length_le,by rw[gh (fj hp) (by rw[db];exact i),q]⟩
theorem mA.snoc{P:List ay}{N:List Node}{at_:List Int}{V:List ay}(h:mA P N at_ V)(q:i<N.length)(r:nth (values P N) i=nth V at_.length):mA P N (at_++[(i:Int)]) V:=λj x=>by
 by_cases e:j<at_.length
 .rw[zR e];exact h j e
 have m:j=at_.length:=by rw[qW,xS]at x;omega
 subst m;rw[xF (by omega)];simp only[xB,zY];exact⟨by omega,by simpa using q,by simpa using r⟩
theorem mA.pick{P:List ay}{N:List Node}{at_ aa:List Int}{V:List ay}(h:mA P N at_ V)(i:J.ahead at_.length aa=true):J.ahead N.length (pick at_ aa)=true/\aR P N (pick at_ aa)=aa.map λa=>nth V a.toNat:=by
 have g:∀a (hm:a∈aa),at_.getD a.toNat 0=at_[a.toNat]'(bP i hm).2:=λa hm=>by
  have:=(bP i hm).2;rw[qU,qC this];rfl
 constructor
 .refine List.all_eq_true.2 (λx j=>?_);obtain⟨a,hm,rfl⟩:=List.mem_map.1 j;rw[g a hm];obtain⟨m,q,_⟩:=h a.toNat (bP i hm).2;simp;omega
 unfold aR ae.pick;rw[vE];refine xC (λa hm=>?_);show nth (values P N) (at_.getD a.toNat 0).toNat=_;rw[g a hm];exact(h a.toNat (bP i hm).2).2.2
theorem n_{g:bh}{A bY:List ay}(j:Fits g A bY):∀(m i:Nat) (N:List Node) (D:List (List Int)) (at_:List Int),m=g.n.length-i->i<=g.n.length->at_.length=i->fQ (A++bY) N D->mA (A++bY) N at_ (values A g.n)->∃D',fQ (A++bY) (b9 (J.params g.n) (g.n.drop i) i (N,at_)).1 D'/\N <+: (b9 (J.params g.n) (g.n.drop i) i (N,at_)).1/\(b9 (J.params g.n) (g.n.drop i) i (N,at_)).2.length=g.n.length/\mA (A++bY) (b9 (J.params g.n) (g.n.drop i) i (N,at_)).1 (b9 (J.params g.n) (g.n.drop i) i (N,at_)).2 (values A g.n)
 | 0,i,N,D,at_,hm,hi,r,h,y=>by
  obtain rfl:i=g.n.length:=by omega
  rw[uH];exact⟨D,h,xA _,r,y⟩
 | m+1,i,N,D,at_,hm,hi,r,h,y=>by
  have q:i<g.n.length:=by omega
  have x:=lP j;have U:(A++bY).length=J.params g.n+J.params g.n:=by rw[qW,j.ji,j.pn]
  have V:=h.room;rw[zX q];by_cases hp:i<J.params g.n
  .have e:b9 (J.params g.n) (g.n[i]::g.n.drop (i+1)) i (N,at_)=b9 (J.params g.n) (g.n.drop (i+1)) (i+1) (N,at_++[(i:Int)]):=by
     show(if i<_ then _ else _)=_;rw[qY hp]
   rw[e];refine n_ j m (i+1) N D (at_++[(i:Int)]) (by omega) (by omega) (by simp[r]) h (y.snoc (by omega) ?_);rw[r,iu (by omega) (by omega),hL (by rw[j.ji];exact hp),iu q (by rw[j.ji];exact hp)]
  have E:g.n[i].o.k≠1:=x.rest i q (by rw[j.ji];omega);have B:=ig (x.l1.2 i q);obtain⟨S,I⟩:=y.pick (aa:=g.n[i].a) (by rw[r];exact B);have ar:=x.l1.2 i q;rw[jx E B (by rw[x.l1.1];omega),x.args (mj B (by omega))]at ar;have Q:aR A g.n g.n[i].a=g.n[i].a.map λa=>nth (values A g.n) a.toNat:=rfl
  obtain⟨M,k,O,m1,f1,f2,f3⟩:=DG h E (j.val _ (qP q)) S (by rw[I,<-Q,ar]);have e:b9 (J.params g.n) (g.n[i]::g.n.drop (i+1)) i (N,at_)=b9 (J.params g.n) (g.n.drop (i+1)) (i+1) ((add N g.n[i].o (pick at_ g.n[i].a)).1,at_++[(add N g.n[i].o (pick at_ g.n[i].a)).2]):=by
   show(if i<_ then _ else _)=_;rw[qV hp]
  rw[e,O];obtain⟨dp,m2,g1,g2,g3⟩:=n_ j m (i+1) _ M (at_++[(k:Int)]) (by omega) (by omega) (by simp[r]) m1 ((y.later f1).snoc f2 (by
   rw[f3,I,r,oa q (by rw[j.ji];omega) B];rfl))
  exact⟨dp,m2,f1.trans g1,g2,g3⟩
end ae
end
section
namespace ae
open J (Op Node bh)
open ad (ay nth aX a6 cO dv)
open R (size)
def nT(P:List ay)(N:List Node)(ds:List (List Int))(s:List Int)(S:List ay):Prop:=s.length=S.length/\∀j (h:j<s.length),cg P N s[j] (nth S j)/\(nth S j).I=ds.getD j []/\cO (nth S j)
theorem nT.later{P:List ay}{N M:List Node}{ds:List (List Int)}{s:List Int}{S:List ay}(h:nT P N ds s S)(hp:N <+: M):nT P M ds s S:=⟨h.1,λj i=>⟨(h.2 j i).1.later hp,(h.2 j i).2⟩⟩
theorem nT.snoc{P:List ay}{N:List Node}{S:List ay}{i:Int}{a:ay}(h:nT P N ds s S)(r:cg P N i a)(x:a.I=ds.getD s.length [])(y:cO a):nT P N ds (s++[i]) (S++[a]):=by
 refine⟨by simp[h.1],λj B=>?_⟩;by_cases e:j<s.length
 .rw[zR e,hL (by rw[<-h.1];exact e)];exact h.2 j e
 have m:j=s.length:=by rw[qW,xS]at B;omega
 subst m;rw[xF (by omega)];simp only[xB,zY];have q:nth (S++[a]) s.length=a:=by rw[h.1];exact hY S a _
 rw[q];exact⟨r,x,y⟩
theorem r4{g:bh}{A bY:List ay}(M:Fits g A bY):∀(m i:Nat) (N:List Node) (D:List (List Int)) (at_ s:List Int) (S:List ay),m=g.n.length-i->i<=g.n.length->J.params g.n<=i->s.length=i->at_.length=g.n.length->fQ (A++bY) N D->mA (A++bY) N at_ (values A g.n)->nT (A++bY) N (J.look g).1 s S->∃D',fQ (A++bY) (dh (J.look g).1 at_ (g.n.drop i) i (N,s)).1 D'/\N <+: (dh (J.look g).1 at_ (g.n.drop i) i (N,s)).1/\(dh (J.look g).1 at_ (g.n.drop i) i (N,s)).2.length=g.n.length/\nT (A++bY) (dh (J.look g).1 at_ (g.n.drop i) i (N,s)).1 (J.look g).1 (dh (J.look g).1 at_ (g.n.drop i) i (N,s)).2 (hF bY (values A g.n) (g.n.drop i) S)
 | 0,i,N,D,at_,s,S,hm,hi,hp,O,V,h,U,az=>by
  obtain rfl:i=g.n.length:=by omega
  rw[uH];exact⟨D,h,xA _,O,az⟩
 | m+1,i,N,D,at_,s,S,hm,hi,hp,O,V,h,U,az=>by
  have B:i<g.n.length:=by omega
  have y:=lP M;have r:g.n[i].o.k≠1:=y.rest i B (by rw[M.ji];omega);have q:=ig (y.l1.2 i B);have ar:=y.l1.2 i B;rw[jx r q (by rw[y.l1.1];omega),y.args (mj q (by omega))]at ar;obtain⟨ak,ao⟩:=U.pick (aa:=g.n[i].a) (by rw[V];exact mj q (by omega));have Cu:∀k (r:k<g.n[i].a.length),0<=g.n[i].a[k]/\g.n[i].a[k].toNat<i:=λk r=>bP q (qP r)
  have X:S.length=i:=by rw[<-az.1,O]
  have pe:∀k (r:k<g.n[i].a.length),(pick s g.n[i].a)[k]'(by simpa[pick]using r)=s[g.n[i].a[k].toNat]'(by have:=(Cu k r).2;omega):=λk r=>by
   have:=(Cu k r).2;simp only[pick,vC];rw[qU,qC (by omega)];rfl
  have Q:∀j,j<g.n.length->(nth (values A g.n) j).I=(J.look g).1.getD j []:=y.I;obtain⟨Y,m1,f1,s1⟩:=CC (dg:=(J.look g).1) (x:=g.n[i]) (v:=pick at_ g.n[i].a) (s:=pick s g.n[i].a) (sV:=g.n[i].a.map λa=>nth S a.toNat) h r (M.val _ (qP B)) ar ak ao (by simp[pick]) (by simp)
   (λk W bS=>by
    have ks:k<g.n[i].a.length:=by simpa using bS
    rw[pe k ks,vC];exact(az.2 _ (by have:=(Cu k ks).2;omega)).1)
   (by
    unfold aR;rw[vE,vE];refine xC (λa hm=>?_);have:=(bP q hm).2;show(nth S a.toNat).I=(nth (values A g.n) a.toNat).I;rw[(az.2 a.toNat (by omega)).2.1,Q _ (by omega)])
   (λa hm=>by
    obtain⟨b,E,rfl⟩:=List.mem_map.1 hm;exact(az.2 b.toNat (by have:=(bP q E).2;omega)).2.2)
   (λa hm=>by
    obtain⟨b,E,rfl⟩:=List.mem_map.1 hm;exact y.wf _ (by have:=(bP q E).2;omega))
   (λk W bS=>by
    rw[vC];exact((az.2 _ (by have:=(Cu k W).2;omega)).2.1).symm)
  obtain⟨ag,aC⟩:=r1 (op:=g.n[i].o) (aV:=aR A g.n g.n[i].a) (sV:=g.n[i].a.map λa=>nth S a.toNat) (M.val _ (qP B)) ar (by
      unfold aR;rw[vE,vE];refine xC (λa hm=>?_);have:=(bP q hm).2;show(nth S a.toNat).I=(nth (values A g.n) a.toNat).I;rw[(az.2 a.toNat (by omega)).2.1,Q _ (by omega)]) (λa hm=>by
      obtain⟨b,E,rfl⟩:=List.mem_map.1 hm;exact(az.2 b.toNat (by have:=(bP q E).2;omega)).2.2) (λa hm=>by
      obtain⟨b,E,rfl⟩:=List.mem_map.1 hm;exact y.wf _ (by have:=(bP q E).2;omega))
  have ah:hF bY (values A g.n) (g.n.drop i) S=hF bY (values A g.n) (g.n.drop (i+1)) (S++[bZ g.n[i].o ((J.look g).1.getD i []) (aR A g.n g.n[i].a) (g.n[i].a.map λa=>nth S a.toNat)]):=by
   rw[zX B];show hF bY (values A g.n) (g.n.drop (i+1)) (S++[if S.length<bY.length then _ else _])=_;rw[qV (by rw[X,M.pn];omega),X,Q i B];rfl
  have Z:dh (J.look g).1 at_ (g.n.drop i) i (N,s)=dh (J.look g).1 at_ (g.n.drop (i+1)) (i+1) ((bO (J.look g).1 N g.n[i] (pick at_ g.n[i].a) (pick s g.n[i].a) ((J.look g).1.getD i [])).1,s++[(bO (J.look g).1 N g.n[i] (pick at_ g.n[i].a) (pick s g.n[i].a) ((J.look g).1.getD i [])).2]):=by
   rw[zX B];rfl
  rw[ah,Z];obtain⟨dp,m2,f2,cX,s2⟩:=r4 M m (i+1) _ Y at_ (s++[_]) _ (by omega) (by omega) (by omega) (by simp[O]) V m1 (U.later f1) ((az.later f1).snoc s1 (by rw[O];exact ag) aC);exact⟨dp,m2,f1.trans f2,cX,s2⟩
theorem Fq(P:List ay)(N:List Node)(l m:List Int):aR P N (l++m)=aR P N l++aR P N m:=zI
theorem x7{l m:List Int}(i:J.ahead n l=true)(j:J.ahead n m=true):J.ahead n (l++m)=true:=by
 unfold J.ahead at *;rw[pC,i,j];rfl
theorem DH(h:0<=a)(j:a.toNat<n):J.ahead n [a]=true:=by
 refine List.all_eq_true.2 (λx i=>?_);rw[List.mem_singleton.1 i];simp;omega
theorem wi{P:List ay}{ds:List (List Int)}{s:List Int}{S:List ay} : ∀(outs:List Int) (N:List Node) (D:List (List Int)) (r:List Int) (bm:List ay),J.ahead s.length outs=true->fQ P N D->nT P N ds s S->J.ahead N.length r=true->aR P N r=bm->∃D',fQ P (dy ds s outs (N,r)).1 D'/\N <+: (dy ds s outs (N,r)).1/\J.ahead (dy ds s outs (N,r)).1.length (dy ds s outs (N,r)).2=true/\aR P (dy ds s outs (N,r)).1 (dy ds s outs (N,r)).2=bm++outs.map λo=>nth S o.toNat
 | [],N,D,r,bm,i,h,az,m,q=>⟨D,h,xA _,m,by show aR P N r=bm++[];rw[q,xM]⟩
 | o::outs,N,D,r,bm,i,h,az,m,q=>by
  obtain⟨U,x⟩:=bP i (a:=o) (by simp);have E:J.ahead s.length outs=true:=by
   unfold J.ahead at i |-;rw[List.all_cons,qB]at i;exact i.2
  obtain⟨I,M,O⟩:=az.2 o.toNat x;have B:s.getD o.toNat 0=s[o.toNat]:=by rw[qU,qC x];rfl
  obtain⟨⟨y,m1,j,s1⟩,g1⟩:=lR h I O;rw[M]at m1 j s1 g1;obtain⟨i1,i2⟩:=s1.pf g1;have e:dy ds s (o::outs) (N,r)=dy ds s outs ((full N s[o.toNat] (ds.getD o.toNat [])).1,r++[(full N s[o.toNat] (ds.getD o.toNat [])).2]):=by
   show dy ds s outs ((full N (s.getD o.toNat 0) _).1,r++[(full N (s.getD o.toNat 0) _).2])=_;rw[B]
  rw[e];obtain⟨dp,m2,Q,a2,v2⟩:=wi outs _ y (r++[(full N s[o.toNat] (ds.getD o.toNat [])).2]) (bm++[nth S o.toNat]) E m1 (az.later j) (x7 (mj m j.length_le) (DH g1 i1)) (by rw[Fq,Fs j m,q];simp only[aR,qE,zU,i2]);exact⟨dp,m2,j.trans Q,a2,by rw[v2];simp⟩
theorem tM{bY V:List ay}{i:List Node} : ∀k,k<=bY.length->k<=i.length->hF bY V i []=hF bY V (i.drop k) (bY.take k)
 | 0,_,_=>by simp
 | k+1,m,q=>by
  rw[tM k (by omega) (by omega),zX (show k<i.length by omega)];show hF bY V (i.drop (k+1)) (bY.take k++[if (bY.take k).length<bY.length then nth bY (bY.take k).length else _])=_;have j:(bY.take k).length=k:=by rw[qM];omega
  rw[j,qY (by omega),qD (show k<bY.length by omega)]
  congr 2
  unfold nth;rw[qU,qC (show k<bY.length by omega)];rfl
end ae
end
