/-
  ViewPlain5, ViewPlain6, ViewPlain7, ViewPlain8, ViewBackPlain, ViewPlain9, ViewPlainA, ViewPlainB, ArrPlain, MakePlain, EvalPlain, LivesPlain. Conditions: where the theorems name them.
-/
import Derived.Test.YtabmnaaidfpmcaaGreatDoorV01
set_option linter.unusedVariables false
set_option maxRecDepth 100000
set_option maxHeartbeats 16000000
variable {M a b d n p s t:Int}{ds l lo m ss st:List Int}{j k:Nat}
section
namespace R
def prev(l:List Int)(i:Nat):Int:=if i=0 then -1 else l.getD (i-1) 0
def cB(n:Nat)(l:List Int):Bool:=(List.range l.length).all λi=>decide (prev l i<l.getD i 0) && decide (l.getD i 0<(n:Int))
theorem getD_at(l:List Int)(i:Nat)(h:i<l.length):l.getD i 0=l[i]:=by simp[h]
theorem il{n:Nat}(h:cB n l=true):∀i (hi:i<l.length),prev l i<l[i]/\l[i]<(n:Int):=by
 intro i hi;have:=List.all_eq_true.1 h i (List.mem_range.2 hi);rw[qB,qO,qO,getD_at l i hi]at this;exact this
theorem z1{n:Nat}(h:∀i (hi:i<l.length),prev l i<l[i]/\l[i]<(n:Int)):cB n l=true:=by
 unfold cB;rw[kX];intro i hi;have j:=List.mem_range.1 hi;rw[qB,qO,qO,getD_at l i j];exact h i j
theorem wv{n:Nat}{i:Nat}(hi:i<l.length)(h:¬(prev l i<l[i]/\l[i]<(n:Int))):cB n l=false:=by
 cases j:cB n l with
 | false=>rfl
 | true=>exact absurd (il j i hi) h
theorem prev_zero(l:List Int):prev l 0=-1:=rfl
theorem prev_next(l:List Int)(i:Nat)(h:i<l.length):prev l (i+1)=l[i]:=by unfold prev;rw[qV (by omega)];exact getD_at l i h
theorem oX{n:Nat}{l:List Int}(h:∀i (hi:i<l.length),prev l i<l[i]/\l[i]<(n:Int)):∀i (hi:i<l.length),0<=l[i]
 | 0,hi=>by have:=(h 0 hi).1;rw[prev_zero]at this;omega
 | i+1,hi=>by
  have:=(h (i+1) hi).1;rw[prev_next l i (by omega)]at this;have:=oX h i (by omega);omega
theorem uh{n:Nat}{l:List Int}(h:∀i (hi:i<l.length),prev l i<l[i]/\l[i]<(n:Int)){i:Nat} : ∀j (r:j<l.length) (q:i<j),l[i]'(by omega)<l[j]
 | 0,_,q=>by omega
 | j+1,r,q=>by
  have m:=(h (j+1) r).1;rw[prev_next l j (by omega)]at m;by_cases e:i=j
  .subst e;exact m
  have:=uh h (i:=i) j (by omega) (by omega);omega
theorem r3{n m:Nat}{l:List Int}(h:∀i (hi:i<l.length),i<m->prev l i<l[i]/\l[i]<(n:Int)):∀i (hi:i<l.length),i<m->0<=l[i]
 | 0,hi,hm=>by have:=(h 0 hi hm).1;rw[prev_zero]at this;omega
 | i+1,hi,hm=>by
  have:=(h (i+1) hi hm).1;rw[prev_next l i (by omega)]at this;have:=r3 h i (by omega) (by omega);omega
def dH(v:V)(l:List Int):Nat->Int
 | 0=>v.st
 | k+1=>dH v l k+(if (k:Int)∈l then(if 0<v.I.getD k 0 then(v.I.getD k 0-1)*v.s.getD k 0 else 0)else 0)
def bW(v:V)(l:List Int)(c:Nat):List Int:=(List.range v.s.length).map λj:Nat=>if j<c/\(j:Int)∈l then -(v.s.getD j 0)else v.s.getD j 0
theorem dV(v:V)(l:List Int)(c:Nat):(bW v l c).length=v.s.length:=by simp[bW]
theorem f'(v:V)(l:List Int)(c j:Nat)(h:j<(bW v l c).length):(bW v l c)[j]=if j<c/\(j:Int)∈l then -(v.s.getD j 0)else v.s.getD j 0:=by simp[bW]
theorem yw(v:V)(l:List Int):bW v l 0=v.s:=by
 apply jP
 .simp[bW]
 intro i m j;rw[f',qV (by omega),getD_at _ _ j]
theorem p4{v:V}{l:List Int}{c:Nat} : ∀{c':Nat},c<=c'->(∀j:Nat,c<=j->j<c'->(j:Int)∉l)->dH v l c'=dH v l c
 | 0,h,_=>by
  obtain rfl:c=0:=by omega
  rfl
 | c'+1,h,i=>by
  by_cases e:c=c'+1
  .subst e;rfl
  rw[<-p4 (c':=c') (by omega) (λj a b=>i j a (by omega))];simp only[dH];rw[qV (i c' (by omega) (by omega)),kU]
theorem p5{v:V}{c c':Nat}(h:c<=c')(r:∀j:Nat,c<=j->j<c'->(j:Int)∉l):bW v l c'=bW v l c:=by
 apply jP
 .simp[bW]
 intro i x y;rw[f',f'];by_cases hi:i<c
 .have:i<c':=by omega
  simp[hi,this]
 by_cases q:i<c'
 .rw[qV (λm=>r i (by omega) q m.2),qV (by omega)]
 rw[qV (by omega),qV (by omega)]
theorem yv(v:V)(l:List Int)(q:Nat)(h:q<v.s.length):(bW v l q)[q]'(by rw[dV];exact h)=v.s[q]:=by
 rw[f',qV (by omega),getD_at _ _ h]
theorem AG{v:V}{q:Nat}(h:q<v.s.length)(hq:(q:Int)∈l):(bW v l q).set q (-(v.s[q]))=bW v l (q+1):=by
 apply jP
 .simp[bW]
 intro i j m;rw[kG];by_cases e:q=i
 .subst e;rw[qY rfl,f',qY ⟨by omega,hq⟩,getD_at _ _ h]
 rw[qV e,f',f'];by_cases hi:i<q
 .have:i<q+1:=by omega
  simp[hi,this]
 rw[qV (by omega),qV (by omega)]
theorem p3{v:V}{q:Nat}(h:q<v.I.length)(az:q<v.s.length)(hq:(q:Int)∈l):dH v l (q+1)=dH v l q+(if 0<v.I[q]then(v.I[q]-1)*v.s[q]else 0):=by
 simp only[dH];rw[qY hq,getD_at _ _ h,getD_at _ _ az]
theorem vr{v:V}{q:Nat}(hq:(q:Int)∉l):dH v l (q+1)=dH v l q:=by
 simp only[dH];rw[qV hq,kU]
theorem ra{x y:Int}(B:-x<=a)(D:a<=x)(m:-y<=b)(q:b<=y)(I:0<=x):-(x*y)<=a*b/\a*b<=x*y:=by
 rcases Int.le_total 0 a with i | i
 .have E:=jK q i;have j:=jK m i;have r:=xU D (show 0<=y by omega);rw[Int.mul_neg]at j;omega
 have E:=wY i q;have j:=wY i m;have r:=xU B (show 0<=y by omega);rw[Int.mul_neg]at j;rw[Int.neg_mul]at r;omega
theorem kg{v:V}(h:aF v=0)(j:k<v.I.length)(az:k<v.s.length):0<=v.I[k]/\v.I[k]<=4096/\-1099511627776<=v.s[k]/\v.s[k]<=1099511627776/\-4503599627370496<=(v.I[k]-1)*v.s[k]/\(v.I[k]-1)*v.s[k]<=4503599627370496:=by
 obtain⟨m,z2,z3,z4⟩:=cK h;have ar:=(aB m).2.1 _ (qP j);have i:=z4 _ (qP az);have:=ra (a:=v.I[k]-1) (b:=v.s[k]) (x:=4096) (y:=1099511627776) (by omega) (by omega) i.1 i.2 (by omega);exact⟨ar.1,ar.2,i.1,i.2,by omega,by omega⟩
theorem oK{v:V}(h:aF v=0)(l:List Int):∀k,k<=v.I.length->-1099511627776-4503599627370496*(k:Int)<=dH v l k/\dH v l k<=1099511627776+4503599627370496*(k:Int)
 | 0,_=>by
  have:=(cK h).2.2.1;simp only[dH];omega
 | k+1,i=>by
  have j:=oK h l k (by omega);obtain⟨m,z2,_⟩:=cK h;have hp:=kg h (k:=k) (by omega) (by omega);by_cases hq:(k:Int)∈l
  .rw[p3 (by omega) (by omega) hq];split<;>omega
  rw[vr hq];omega
def flip(v:V)(l:List Int):V × Int :=
 if aF v≠0 then(none_,aF v)else if cB v.I.length l then made ⟨dH v l v.I.length,v.I,bW v l v.I.length⟩else(none_,6)
theorem tk{v:V}{p:List Int}(h:aF v≠0):flip v p=(none_,aF v):=qY h
theorem yx{v:V}{p:List Int}(h:aF v=0)(i:cB v.I.length p=false):flip v p=(none_,6):=by unfold flip;rw[qV (by simp[h]),qV (by simp[i])]
theorem Br{v:V}{p:List Int}(h:aF v=0)(i:cB v.I.length p=true):flip v p=made ⟨dH v p v.I.length,v.I,bW v p v.I.length⟩:=by unfold flip;rw[qV (by simp[h]),qY i]
theorem F8{v:V}(h:aF v=0)(p:List Int)(st:Int)(c:Nat):aF ⟨st,v.I,bW v p c⟩=0\/aF ⟨st,v.I,bW v p c⟩=4:=by
 obtain⟨i,z2,_⟩:=cK h;exact q3 i (by show(bW v p c).length=_;rw[dV];exact z2)
end R
end
section
namespace R
def fJ(d lo hi st:Int):Bool:=decide (0<=lo) && (decide (lo<=hi) && (decide (hi<=d) && (decide (1<=st) && decide (st<=4096))))
theorem hU{lo hi st:Int} : fJ d lo hi st=true↔0<=lo/\lo<=hi/\hi<=d/\1<=st/\st<=4096:=by unfold fJ;simp
def iN(v:V)(lo hi st:List Int):Bool:=(List.range v.I.length).all λk=>fJ (v.I.getD k 0) (lo.getD k 0) (hi.getD k 0) (st.getD k 0)
theorem nY{v:V}{hi:List Int}(h:iN v lo hi st=true)(i:k<v.I.length):fJ (v.I.getD k 0) (lo.getD k 0) (hi.getD k 0) (st.getD k 0)=true :=
 List.all_eq_true.1 h k (List.mem_range.2 i)
theorem s_{v:V}{hi:List Int}(i:k<v.I.length)(h:fJ (v.I.getD k 0) (lo.getD k 0) (hi.getD k 0) (st.getD k 0)=false):iN v lo hi st=false:=by
 unfold iN;rw[wO];exact⟨k,List.mem_range.2 i,by rw[h];simp⟩
theorem vb{v:V}{hi:List Int}(h:∀k,k<v.I.length->fJ (v.I.getD k 0) (lo.getD k 0) (hi.getD k 0) (st.getD k 0)=true):iN v lo hi st=true :=
 List.all_eq_true.2 λk i=>h k (List.mem_range.1 i)
def kept(lo hi st:Int):Int:=(hi-lo+st-1) / st
theorem Eo{lo hi st:Int}(i:lo<=hi)(j:1<=st):(hi-lo+st-1).tdiv st=kept lo hi st:=wT (by omega)
theorem En{lo hi st:Int}(i:1<=st)(h:lo+n*st<hi):n+1<=kept lo hi st:=by
 unfold kept;refine(Int.le_ediv_iff_mul_le (by omega)).2 ?_;rw[vL,vZ];omega
theorem Em{lo hi st:Int}(i:1<=st)(h:n<=kept lo hi st)(j:¬lo+n*st<hi):kept lo hi st=n:=by
 have:kept lo hi st<n+1:=by
  unfold kept;refine(Int.ediv_lt_iff_lt_mul (by omega)).2 ?_;rw[vL,vZ];omega
 omega
theorem lj{lo hi st:Int}(i:lo<=hi)(j:1<=st):0<=kept lo hi st:=yA (by omega) (by omega)
def eB(v:V)(lo:List Int):Nat->Int
 | 0=>v.st
 | k+1=>eB v lo k+lo.getD k 0*v.s.getD k 0
def cP(v:V)(lo hi st:List Int):List Int:=(List.range v.I.length).map λk=>kept (lo.getD k 0) (hi.getD k 0) (st.getD k 0)
def cE(v:V)(st:List Int):List Int:=(List.range v.I.length).map λk=>v.s.getD k 0*st.getD k 0
theorem dU(v:V)(lo hi st:List Int):(cP v lo hi st).length=v.I.length:=by simp[cP]
theorem fc(v:V)(st:List Int):(cE v st).length=v.I.length:=by simp[cE]
theorem oE(v:V)(lo hi st:List Int)(k:Nat)(h:k<(cP v lo hi st).length):(cP v lo hi st)[k]=kept (lo.getD k 0) (hi.getD k 0) (st.getD k 0):=by simp[cP]
theorem AA(v:V)(st:List Int)(k:Nat)(h:k<(cE v st).length):(cE v st)[k]=v.s.getD k 0*st.getD k 0:=by simp[cE]
def cut(v:V)(lo hi st:List Int):V × Int :=
 if aF v≠0 then(none_,aF v)else if lo.length≠v.I.length\/hi.length≠v.I.length\/st.length≠v.I.length then(none_,6)
 else if iN v lo hi st then made ⟨eB v lo v.I.length,cP v lo hi st,cE v st⟩else(none_,4)
theorem vc{v:V}{hi:List Int}(h:aF v≠0):cut v lo hi st=(none_,aF v):=qY h
theorem jr{v:V}{hi:List Int}(h:aF v=0)(i:lo.length≠v.I.length\/hi.length≠v.I.length\/st.length≠v.I.length):cut v lo hi st=(none_,6):=by
 unfold cut;rw[qV (by simp[h]),qY i]
theorem fy{v:V}{hi:List Int}(h:aF v=0)(i:lo.length=v.I.length/\hi.length=v.I.length/\st.length=v.I.length)(j:iN v lo hi st=false):cut v lo hi st=(none_,4):=by
 unfold cut;rw[qV (by simp[h]),qV (by simp[i]),qV (by simp[j])]
theorem DO{v:V}{hi:List Int}(h:aF v=0)(i:lo.length=v.I.length/\hi.length=v.I.length/\st.length=v.I.length)(j:iN v lo hi st=true):cut v lo hi st=made ⟨eB v lo v.I.length,cP v lo hi st,cE v st⟩:=by
 unfold cut;rw[qV (by simp[h]),qV (by simp[i]),qY j]
theorem lQ(m:0<=a)(q:a<=4096)(i:-1099511627776<=b)(j:b<=1099511627776):-4503599627370496<=a*b/\a*b<=4503599627370496:=by
 have:=ra (a:=a) (b:=b) (x:=4096) (y:=1099511627776) (by omega) (by omega) i j (by omega);omega
theorem nZ{v:V}(h:aF v=0){lo:List Int}{m:Nat}(hm:m<=v.I.length)(i:∀k,k<m->0<=lo.getD k 0/\lo.getD k 0<=4096):∀k,k<=m->-1099511627776-4503599627370496*(k:Int)<=eB v lo k/\eB v lo k<=1099511627776+4503599627370496*(k:Int)
 | 0,_=>by
  have:=(cK h).2.2.1;simp only[eB];omega
 | k+1,q=>by
  have r:=nZ h hm i k (by omega);obtain⟨x,z2,_,z4⟩:=cK h;have az:=z4 _ (qP (show k<v.s.length by omega));have j:=i k (by omega);simp only[eB];rw[getD_at v.s k (by omega)];have:=lQ j.1 j.2 az.1 az.2;omega
theorem ta{v:V}(h:aF v=0){hi:List Int}(i:j<v.I.length)(q:fJ (v.I.getD j 0) (lo.getD j 0) (hi.getD j 0) (st.getD j 0)=true):0<=lo.getD j 0/\lo.getD j 0<=4096:=by
 have m:=hU.1 q;rw[getD_at v.I j i]at m;have:=(aB (cK h).1).2.1 _ (qP i);omega
def Eu:List Int->List Int->Prop
 | [],[]=>True
 | a::l,b::m=>(0<=a/\a<=b)/\Eu l m
 | _,_=>False
theorem Ev:∀{l m:List Int},l.length=m.length->(∀k (h:k<l.length) (j:k<m.length),0<=l[k]/\l[k]<=m[k])->Eu l m
 | [],[],_,_=>trivial
 | a::l,b::m,i,h=>⟨h 0 (by simp) (by simp),Ev (by simpa using i) (λk q j=>by have:=h (k+1) (by simpa using q) (by simpa using j);simpa using this)⟩
 | [],_::_,i,_=>by simp at i
 | _::_,[],i,_=>by simp at i
theorem zd:∀{l m:List Int},Eu l m->0<=prod l/\prod l<=prod m
 | [],[],_=>by simp[prod]
 | a::l,b::m,h=>by
  have i:=zd h.2;simp only[prod];exact⟨jF h.1.1 i.1,jO h.1.2 i.2 i.1 (by have:=h.1;omega)⟩
 | [],_::_,h=>h.elim
 | _::_,[],h=>h.elim
theorem BK:∀{l m:List Int},Eu l m->∀a∈l,∃b∈m,0<=a/\a<=b
 | a::l,b::m,h,x,i=>by
  rcases List.mem_cons.1 i with rfl | i
  .exact⟨b,by simp,h.1⟩
  obtain⟨y,q,j⟩:=BK h.2 x i;exact⟨y,by simp[q],j⟩
 | [],[],_,_,i=>by simp at i
 | [],_::_,h,_,_=>h.elim
 | _::_,[],h,_,_=>h.elim
theorem E'(y:l.length=m.length)(h:Eu l m)(hm:(size m).2=0):(size l).2=0:=by
 obtain⟨B,z2,z3,z4,z5⟩:=aB hm;have j:¬6<l.length:=by omega
 have q:l.any bad=false:=by
  rw[List.any_eq_false];intro a r;obtain⟨b,x,i⟩:=BK h a r;have:=z2 b x;rw[lC.2 (by omega)];simp
 by_cases i:(0:Int)∈l
 .rw[lX j q i]
 have hp:=zd h;rw[rk j q i (by omega)]
theorem mm{lo hi st:Int}(j:lo<=hi)(i:1<=st):kept lo hi st<=hi-lo:=by
 unfold kept;have:(hi-lo+st-1) / st<hi-lo+1:=by
  refine(Int.ediv_lt_iff_lt_mul (by omega)).2 ?_;have e:=jK i (show 0<=hi-lo by omega);rw[kN]at e;rw[vL,vZ];omega
 omega
theorem Bl{v:V}{hi:List Int}(h:aF v=0)(m:iN v lo hi st=true)(s:Int):aF ⟨s,cP v lo hi st,cE v st⟩=0\/aF ⟨s,cP v lo hi st,cE v st⟩=4:=by
 obtain⟨r,z2,_⟩:=cK h;have i:(cP v lo hi st).length=v.I.length:=dU v lo hi st;refine q3 (E' i (Ev i λk x j=>?_) r) (by show(cE v st).length=(cP v lo hi st).length;rw[fc,i]);have q:=hU.1 (nY m j);rw[getD_at v.I k j]at q;rw[oE];have dm:=lj (lo:=lo.getD k 0) (hi:=hi.getD k 0) (st:=st.getD k 0) (by omega) (by omega);have a2:=mm (lo:=lo.getD k 0) (hi:=hi.getD k 0) (st:=st.getD k 0) (by omega) (by omega);omega
end R
end
section
namespace R
def dJ(v:V)(I l:List Int):Nat->List Int
 | 0=>List.replicate I.length 0
 | k+1=>(dJ v I l k).set (l.getD k 0).toNat (v.s.getD k 0)
theorem oy(v:V)(I l:List Int):∀k,(dJ v I l k).length=I.length
 | 0=>by simp[dJ]
 | k+1=>by simp[dJ,oy v I l k]
theorem Af{v:V}{I:List Int}{q:Nat}(h:k<l.length)(az:k<v.s.length)(hq:l[k]=(q:Int)):dJ v I l (k+1)=(dJ v I l k).set q v.s[k]:=by
 simp only[dJ];rw[getD_at l k h,getD_at v.s k az,hq];simp
def o0(v:V)(I l:List Int):Bool:=(List.range l.length).all λk=>decide (I.getD (l.getD k 0).toNat 0=v.I.getD k 0)
theorem GZ{v:V}{I:List Int}{q:Nat}(h:k<l.length)(j:k<v.I.length)(hq:l[k]=(q:Int))(ar:q<I.length)(i:I[q]≠v.I[k]):o0 v I l=false:=by
 unfold o0;rw[wO];refine⟨k,List.mem_range.2 h,?_⟩;rw[getD_at l k h,getD_at v.I k j,hq,xY,getD_at I q ar];simpa using i
theorem B0{v:V}{I:List Int}(h:∀k (i:k<l.length),I.getD (l[k]).toNat 0=v.I.getD k 0):o0 v I l=true:=by
 unfold o0;rw[kX];intro k i;rw[getD_at l k (List.mem_range.1 i),qO];exact h k (List.mem_range.1 i)
def spread(v:V)(I l:List Int):V × Int :=
 if aF v≠0 then(none_,aF v)else if (size I).2≠0 then(none_,(size I).2)else if l.length≠v.I.length\/cB I.length l=false then(none_,6)
 else if o0 v I l then(⟨v.st,I,dJ v I l l.length⟩,0)else(none_,6)
theorem qu{v:V}{I:List Int}(h:aF v≠0):spread v I l=(none_,aF v):=qY h
theorem r6{v:V}{I:List Int}(h:aF v=0)(i:(size I).2≠0):spread v I l=(none_,(size I).2):=by unfold spread;rw[qV (by simp[h]),qY i]
theorem kj{v:V}{I:List Int}(h:aF v=0)(i:(size I).2=0)(j:l.length≠v.I.length\/cB I.length l=false):spread v I l=(none_,6):=by
 unfold spread;rw[qV (by simp[h]),qV (by simp[i]),qY j]
theorem Db{v:V}{I:List Int}(h:aF v=0)(i:(size I).2=0)(j:l.length=v.I.length)(m:cB I.length l=true)(q:o0 v I l=false):spread v I l=(none_,6):=by
 unfold spread;rw[qV (by simp[h]),qV (by simp[i]),qV (by simp[j,m]),qV (by simp[q])]
theorem wz{v:V}{I:List Int}(h:aF v=0)(i:(size I).2=0)(j:l.length=v.I.length)(m:cB I.length l=true)(q:o0 v I l=true):spread v I l=(⟨v.st,I,dJ v I l l.length⟩,0):=by
 unfold spread;rw[qV (by simp[h]),qV (by simp[i]),qV (by simp[j,m]),qY q]
end R
end
section
namespace R
def rd:List (Int × Int)->Int->Int
 | [],_=>0
 | (n,s)::r,p=>p % n*s+rd r (p / n)
theorem mz:∀(l:List (Int × Int)),rd l 0=0
 | []=>rfl
 | (n,s)::r=>by simp[rd,mz r]
def c6:List (Int × Int)->Int
 | []=>1
 | (n,_)::r=>n*c6 r
theorem qj:∀{l:List (Int × Int)},(∀x∈l,1<=x.1)->1<=c6 l
 | [],_=>by simp[c6]
 | (n,s)::r,h=>by
  have i:=h (n,s) (by simp);have j:=qj (l:=r) (λx m=>h x (by simp[m]));have:=jO i j (by omega) (by omega);simpa[c6]using this
theorem mod_mul(ar:1<=d)(x:1<=n):p % (d*n)=p % d+d*(p / d % n):=by
 have q:=jC p d;have i:=jC (p / d) n;have j:=jC p (d*n);have m:p / (d*n)=p / d / n:=by rw[uW (by omega)]
 rw[m]at j;have r:d*(p / d)=d*n*(p / d / n)+d*(p / d % n):=by
  rw[jH,<-Int.mul_add,i]
 omega
theorem BR{r:List (Int × Int)}(ar:1<=d)(i:1<=n):rd ((d*n,s)::r) p=rd ((d,s)::(n,d*s)::r) p:=by
 simp only[rd];rw[mod_mul ar i,vL,uW (by omega),wR,xT d (p / d % n),jH]
theorem zy(s:Int)(r:List (Int × Int))(p:Int):rd ((1,s)::r) p=rd r p:=by simp[rd]
def push(st:List (Int × Int))(x:Int × Int):List (Int × Int) :=
 if x.1=1 then st else match st with
  | []=>[x]
  | y::r=>if y.2=x.1*x.2 then(y.1*x.1,x.2)::r else x::y::r
theorem IE{st:List (Int × Int)}{x:Int × Int}(j:1<=x.1)(m:∀y∈st,1<=y.1)(p:Int):rd (push st x) p=rd (x::st) p:=by
 obtain⟨d,s⟩:=x;unfold push;dsimp only at j |-;by_cases h:d=1
 .subst h;rw[qY rfl,zy]
 rw[qV h];cases st with
 | nil=>rfl
 | cons y r =>
  obtain⟨n,t⟩:=y;dsimp only;by_cases i:t=d*s
  .subst i;rw[qY rfl,xT n d];exact BR j (m (n,d*s) (by simp))
  rw[qV i]
theorem CT{st:List (Int × Int)}{x:Int × Int} : c6 (push st x)=x.1*c6 st:=by
 obtain⟨d,s⟩:=x;unfold push;dsimp only;by_cases h:d=1
 .subst h;simp
 rw[qV h];cases st with
 | nil=>rfl
 | cons y r =>
  dsimp only;by_cases i:y.2=d*s
  .rw[qY i];simp only[c6];rw[xT y.1 d,jH]
  rw[qV i];rfl
def canon:List (Int × Int)->Prop
 | (n,s)::(m,t)::r=>t≠n*s/\canon ((m,t)::r)
 | _=>True
theorem Ch{x:Int × Int}{r:List (Int × Int)}(h:canon (x::r)):canon r:=by
 obtain⟨n,s⟩:=x;cases r with
 | nil=>trivial
 | cons y r=>obtain⟨m,t⟩:=y;exact h.2
theorem s5{n' s':Int}{r:List (Int × Int)}(h:canon ((n,s)::r))(e:n'*s'=n*s):canon ((n',s')::r):=by
 cases r with
 | nil=>trivial
 | cons y r=>obtain⟨m,t⟩:=y;exact⟨by rw[e];exact h.1,h.2⟩
theorem Cg{st:List (Int × Int)}{x:Int × Int}(h:canon st):canon (push st x):=by
 obtain⟨d,s⟩:=x;unfold push;dsimp only;by_cases j:d=1
 .rw[qY j];exact h
 rw[qV j];cases st with
 | nil=>trivial
 | cons y r =>
  obtain⟨n,t⟩:=y;dsimp only;by_cases i:t=d*s
  .rw[qY i];exact s5 h (by rw[i,jH])
  rw[qV i];exact⟨i,h⟩
def Small(M:Int)(st:List (Int × Int)):Prop:=∀y∈st,2<=y.1/\y.1<=65536/\-M<=y.2/\y.2<=M/\-M<=y.1*y.2/\y.1*y.2<=M
theorem Small.one{st:List (Int × Int)}(h:Small M st):∀y∈st,1<=y.1:=λy i=>by have:=(h y i).1;omega
theorem oV{st:List (Int × Int)}(h:∀y∈st,1<=y.1):∀y∈st,y.1<=c6 st:=by
 induction st with
 | nil=>simp
 | cons z r q =>
  intro y j;have hp:=qj (l:=r) (λx i=>h x (by simp[i]));have m:=h z (by simp);simp only[c6];rcases List.mem_cons.1 j with rfl | j
  .have:=jK hp (show 0<=y.1 by omega);rw[kN]at this;exact this
  have B:=q (λx i=>h x (by simp[i])) y j;have:=xU m (show 0<=c6 r by omega);rw[vZ]at this;omega
def go:List Int->List (Int × Int)->Option (List Int)
 | [],_=>some []
 | d::ds,st=>if d=1 then(go ds st).map (0::·)else match st with
  | []=>none
  | (n,s)::r=>if n % d=0 then(go ds (if n / d=1 then r else(n / d,s*d)::r)).map (s::·)else none
theorem DR(r:2<=n)(ar:1<=d)(h:n % d=0)(m:n / d≠1):2<=n / d/\n=n / d*d/\n / d<=n:=by
 have e:=jC n d;have j:0<=n / d:=yA (by omega) (by omega);have q:n / d≠0:=λi=>by rw[i,pV]at e;omega
 exact⟨by omega,by rw[xT];omega,Int.ediv_le_self _ (by omega)⟩
theorem iZ{r:List (Int × Int)}(h:Small M ((n,s)::r))(ar:1<=d)(hm:n % d=0):Small M (if n / d=1 then r else(n / d,s*d)::r):=by
 by_cases m:n / d=1
 .rw[qY m];exact λy j=>h y (by simp[j])
 rw[qV m];intro y j;rcases List.mem_cons.1 j with rfl | j
 .obtain⟨dm,a2,a3,a4,a5,x⟩:=h (n,s) (by simp);dsimp only at dm a2 a3 a4 a5 x |-;obtain⟨B,D,bA⟩:=DR dm ar hm m;have e:n / d*(s*d)=n*s:=by rw[xT s d,<-jH,<-D]
  have q:1<=n / d:=by omega
  refine⟨B,by omega,?_,?_,by omega,by omega⟩
  .rcases Int.le_total 0 (s*d)with i | i
   .omega
   have:=Int.mul_le_mul_of_nonpos_right q i;rw[vZ,e]at this;omega
  rcases Int.le_total 0 (s*d)with i | i
  .have:=xU q i;rw[vZ,e]at this;omega
  omega
 exact h y (by simp[j])
theorem mM{r:List (Int × Int)}(h:Small M ((n,s)::r))(ar:1<=d)(hm:n % d=0):c6 ((n,s)::r)=d*c6 (if n / d=1 then r else(n / d,s*d)::r):=by
 have e:=jC n d;rw[hm,kU]at e;by_cases i:n / d=1
 .rw[qY i];rw[i,kN]at e;simp only[c6];rw[e]
 rw[qV i];simp only[c6];rw[<-jH,e]
theorem tn{r:List (Int × Int)}(h:Small M ((n,s)::r))(ar:1<=d)(hm:n % d=0):rd ((n,s)::r) p=p % d*s+rd (if n / d=1 then r else(n / d,s*d)::r) (p / d):=by
 have e:=jC n d;rw[hm,kU]at e;by_cases i:n / d=1
 .rw[qY i];rw[i,kN]at e;rw[<-e];rfl
 rw[qV i];have j:=(h (n,s) (by simp)).1;dsimp only at j;have m:=DR j ar hm i;have:=BR (d:=d) (n:=n / d) (s:=s) (p:=p) (r:=r) ar (by omega);rw[e]at this;rw[this,xT s d];rfl
theorem xe{r:List (Int × Int)}(h:canon ((n,s)::r))(hm:n % d=0):canon (if n / d=1 then r else(n / d,s*d)::r):=by
 have e:=jC n d;rw[hm,kU]at e;by_cases i:n / d=1
 .rw[qY i];exact Ch h
 rw[qV i];exact s5 h (by rw[xT s d,<-jH,xT (n / d) d,e])
theorem go_sound{M:Int} : ∀{ds:List Int} {st:List (Int × Int)} {ss:List Int},(∀d∈ds,1<=d)->Small M st->c6 st=prod ds->go ds st=some ss->ss.length=ds.length/\∀p,rd (ds.zip ss) p=rd st p
 | [],st,ss,_,az,hp,i=>by
  simp only[go,zZ]at i;subst i;refine⟨rfl,λp=>?_⟩;cases st with
  | nil=>rfl
  | cons y r =>
   have m:=oV az.one y (by simp);have S:=(az y (by simp)).1;rw[hp]at m;simp[prod]at m;omega
 | d::ds,st,ss,ar,az,hp,i=>by
  have D:=ar d (by simp);have I:∀x∈ds,1<=x:=λx O=>ar x (by simp[O])
  simp only[go]at i;by_cases m:d=1
  .subst m;rw[qY rfl]at i;cases j:go ds st with
   | none=>rw[j]at i;cases i
   | some Q =>
    rw[j]at i;simp only[uI,zZ]at i;subst i;obtain⟨q,B⟩:=go_sound I az (by rw[hp];simp[prod]) j;refine⟨by simp[q],λp=>?_⟩;rw[kR,zy,B]
  rw[qV m]at i;cases st with
  | nil=>cases i
  | cons y r =>
   obtain⟨n,s⟩:=y;dsimp only at i;by_cases hm:n % d=0
   .rw[qY hm]at i;cases j:go ds (if n / d=1 then r else(n / d,s*d)::r)with
    | none=>rw[j]at i;cases i
    | some Q =>
     rw[j]at i;simp only[uI,zZ]at i;subst i;have E:=mM az D hm;rw[hp]at E;simp only[prod]at E;have N:=yI (by omega) E;obtain⟨q,B⟩:=go_sound I (iZ az D hm) N.symm j;refine⟨by simp[q],λp=>?_⟩;rw[kR,tn az D hm,<-B];rfl
   rw[qV hm]at i;cases i
def like(a b:Int):Prop:=(18446744073709551616:Int) ∣ a-b
theorem like.sub{c:Int}(h:like a b)(i:like c d):like (a-c) (b-d):=by
 obtain⟨k,j⟩:=h;obtain⟨m,hm⟩:=i;exact⟨k-m,by omega⟩
theorem n0{M:Int}(I:M<=1152921504606846976):∀{ds:List Int} {st:List (Int × Int)} {ts:List Int},(∀d∈ds,1<=d)->Small M st->canon st->c6 st=prod ds->ts.length=ds.length->(∀p,0<=p->p<prod ds->like (rd (ds.zip ts) p) (rd st p))->∃ss,go ds st=some ss
 | [],st,ts,_,_,_,_,_,_=>⟨[],rfl⟩
 | d::ds,st,ts,ar,az,B,hp,N,cw=>by
  have mb:=ar d (by simp);have D:∀x∈ds,1<=x:=λx i=>ar x (by simp[i])
  have Z:=eu ds D;obtain⟨t,ts,rfl⟩:∃t ao,ts=t::ao:=by
   cases ts with
   | nil=>simp at N
   | cons t ts=>exact⟨t,ts,rfl⟩
  have O:ts.length=ds.length:=by simpa using N
  simp only[go];by_cases c2:d=1
  .subst c2;obtain⟨ss,q⟩:=n0 I D az B (by rw[hp];simp[prod]) O (λp eR c2=>by
    have:=cw p eR (by simpa[prod]using c2)
    rwa [kR,zy]at this)
   exact⟨0::ss,by rw[qY rfl,q];rfl⟩
  rw[qV c2];have av:2<=d:=by omega
  have aA:2<=prod (d::ds):=by
   simp only[prod];have:=jK Z (show 0<=d by omega);rw[kN]at this;omega
  cases st with
  | nil=>simp only[c6]at hp;omega
  | cons y r =>
   obtain⟨n,s⟩:=y;dsimp only;obtain⟨dm,a2,a3,a4,a5,S⟩:=az (n,s) (by simp);dsimp only at dm a2 a3 a4 a5 S;have aB:=qj (l:=r) (λx i=>by have:=(az x (by simp[i])).1;omega);have ga:∀p,rd ((d::ds).zip (t::ts)) p=p % d*t+rd (ds.zip ts) (p / d):=λp=>rfl
   have ah:like t s:=by
    have:=cw 1 (by omega) (by omega);rw[ga]at this;simp only[rd]at this;rw[jL (by omega) (show 1<d by omega),jL (by omega) (show 1<n by omega),vI (by omega) (show 1<d by omega),vI (by omega) (show 1<n by omega),mz,mz]at this;simpa using this
   by_cases hm:n % d=0
   .rw[qY hm];have E:=mM az mb hm;rw[hp]at E;simp only[prod]at E;have ag:=yI (by omega) E;obtain⟨ss,q⟩:=n0 I D (iZ az mb hm) (xe B hm) ag.symm O (λp eR c2=>by
     have Mu:p*d<prod (d::ds):=by
      simp only[prod];rw[xT];exact wL c2 (by omega)
     have:=cw (p*d) (jF eR (by omega)) Mu;rw[ga,tn az mb hm,Int.mul_emod_left,Int.mul_ediv_cancel _ (show d≠0 by omega)]at this;simpa using this)
    exact⟨s::ss,by rw[q];rfl⟩
   exfalso;cases r with
   | nil =>
    simp only[c6,prod,kN]at hp;exact hm (by rw[hp];exact Int.mul_emod_right d (prod ds))
   | cons y r =>
    obtain⟨m,u⟩:=y;obtain⟨U,V,bA,cq,eC,e2⟩:=az (m,u) (by simp);dsimp only at U V bA cq eC e2;have X:=oV (st:=(m,u)::r) (λx i=>by have:=(az x (by simp only[xR]at i |-;exact .inr i)).1;omega) (m,u) (by simp);dsimp only at X;have Y:n<prod (d::ds):=by
     rw[<-hp];show n<n*c6 ((m,u)::r);have:=wL (show 1<c6 ((m,u)::r) by omega) (show 0<n by omega);rw[kN]at this;exact this
    have aq:=jC n d;have m1:=uO n (show d≠0 by omega);have m2:=uZ n (show 0<d by omega);have Q:(n-1) / d=n / d:=by
     refine(Int.ediv_eq_iff_of_pos (by omega)).2 ⟨?_,?_⟩
     .rw[xT];omega
     rw[xT (n / d) d];omega
    have ak:(n-1) % d=n % d-1:=by
     have W:=jC (n-1) d;rw[Q]at W;omega
    have ap:=cw n (by omega) Y;have b':=cw (n-1) (by omega) (by omega);have ca:=ap.sub b';rw[ga,ga,Q,ak]at ca;simp only[rd]at ca;rw[Int.emod_self,Int.ediv_self (by omega),jL (by omega) (show n-1<n by omega),vI (by omega) (show n-1<n by omega),jL (by omega) (show 1<m by omega),vI (by omega) (show 1<m by omega)]at ca;simp only[Int.zero_ediv,Int.zero_emod,mz]at ca;have cl:like t (u-(n-1)*s):=by
     obtain⟨k,j⟩:=ca;refine⟨k,?_⟩;rw[Int.sub_mul]at j;simp at j;omega
    have ct:=cl.sub ah;have c3:u-n*s=0:=by
     obtain⟨k,j⟩:=ct;rw[Int.sub_mul]at j;rw[vZ]at j;omega
    exact B.1 (by omega)
end R
end
section
namespace R
theorem oP(d:Int)(l:List Int)(p:Int):idx (d::l) p=p / prod l % d::idx l p:=by
 unfold idx;simp only[qH,List.range_succ_eq_map,qE,vE]
 congr 1
theorem k7:∀(l:List Int),(∀d∈l,1<=d)->∀p:Int,0<=p->inside l (idx l p)=true/\dR l (idx l p)=p % prod l
 | [],_,p,_=>by simp[idx,inside,dR,prod]
 | d::l,h,p,hp=>by
  have ar:=h d (by simp);have i:∀x∈l,1<=x:=λx j=>h x (by simp[j])
  have M:=eu l i;obtain⟨i1,i2⟩:=k7 l i p hp;rw[oP];have dm:0<=p / prod l % d:=uO _ (by omega);have a2:p / prod l % d<d:=uZ _ (by omega);refine⟨by simp only[inside,i1,wI,qB,qO];exact⟨dm,a2⟩,?_⟩;simp only[dR,prod,i2];have B:=uT p (prod l);have D:=uT (p / prod l) d;have N:0<=p % prod l:=uO _ (by omega);have O:p % prod l<prod l:=uZ _ (by omega);generalize p % prod l=r at *;generalize p / prod l / d=m at *;generalize j:p / prod l % d=x at *;generalize p / prod l=q at *;have E:p=(x*prod l+r)+(d*prod l)*m:=by
   rw[<-B,<-D];rw[Int.mul_add,xT (prod l) x,<-jH (prod l) d m,xT (prod l) d];omega
  have I:0<=x*prod l:=jF dm (by omega);have y:(x+1)*prod l<=d*prod l:=xU (by omega) (by omega);rw[vL,vZ]at y;rw[E,Int.add_mul_emod_self_left,jL (by omega) (by omega)]
theorem uc:∀(l m:List Int),inside l m=true->∀a:Int,0<=a->idx l (dR l m+a*prod l)=m
 | [],[],_,a,_=>by simp[idx]
 | d::l,b::m,h,a,x=>by
  have y:=e9 h;simp only[inside,qB,qO]at h;obtain⟨⟨q,r⟩,i⟩:=h;have j:=e9 i;have e:dR (d::l) (b::m)+a*prod (d::l)=dR l m+(b+a*d)*prod l:=by
   simp only[dR,prod];rw[vL,<-jH];omega
  have B:0<=a*d:=jF x (by omega);rw[oP,e,uc l m i (b+a*d) (by omega)]
  congr 1
  rw[Int.add_mul_ediv_right _ _ (by omega),vI j.1 j.2,pK,Int.add_mul_emod_self_right,jL q r]
 | [],_::_,h,_,_=>by simp[inside]at h
 | _::_,[],h,_,_=>by simp[inside]at h
end R
end
section
namespace R
def dQ:List Int->List Int->Option (List Int)
 | d::l,a::m=>match dQ l m with
  | some r=>some (a::r)
  | none=>if a+1<d then some ((a+1)::List.replicate l.length 0)else none
 | _,_=>none
theorem mP:∀(l:List Int),(∀d∈l,1<=d)->inside l (List.replicate l.length 0)=true/\dR l (List.replicate l.length 0)=0
 | [],_=>by simp[inside,dR]
 | d::l,h=>by
  have i:=mP l (λx j=>h x (by simp[j]));have ar:=h d (by simp);simp only[qH,qF,inside,dR,i.1,i.2,wI,qB,qO,pY];omega
theorem BM:∀{l m:List Int},inside l m=true->(∀r,dQ l m=some r->inside l r=true/\dR l r=dR l m+1)/\(dQ l m=none->dR l m+1=prod l)
 | [],[],_=>by simp[dQ,dR,prod]
 | d::l,a::m,h=>by
  have E:=ml h;simp only[inside,qB,qO]at h;obtain⟨i1,i2⟩:=BM h.2;cases q:dQ l m with
  | some r =>
   obtain⟨M,N⟩:=i1 r q;refine⟨λD i=>?_,λi=>by simp[dQ,q]at i⟩;simp only[dQ,q,zZ]at i;subst i;simp only[inside,dR,M,N,wI,qB,qO];exact⟨h.1,by omega⟩
  | none =>
   have j:=i2 q;have B:=mP l (λx I=>E x (by simp[I]));by_cases y:a+1<d
   .refine⟨λD i=>?_,λi=>by simp[dQ,q,y]at i⟩;simp only[dQ,q,qY y,zZ]at i;subst i;simp only[inside,dR,B.1,B.2,wI,qB,qO,vL,vZ];omega
   refine⟨λD i=>by simp[dQ,q,y]at i,λi=>?_⟩;have:d=a+1:=by omega
   subst this;simp only[dR,prod,vL,vZ];omega
 | [],_::_,h=>by simp[inside]at h
 | _::_,[],h=>by simp[inside]at h
theorem Kt(h:∀d∈l,1<=d)(j:0<=p)(x:p<prod l):(∀r,dQ l (idx l p)=some r->r=idx l (p+1)/\p+1<prod l)/\(dQ l (idx l p)=none->p+1=prod l):=by
 obtain⟨dm,a2⟩:=k7 l h p j;rw[jL j x]at a2;obtain⟨m,q⟩:=BM dm;refine⟨λr i=>?_,λi=>by rw[<-a2];exact q i⟩;obtain⟨aO,bz⟩:=m r i;have:=uc l r aO 0 (by omega);rw[bz,a2]at this;have y:=e9 aO;exact⟨by rw[<-this];simp,by omega⟩
theorem Iv{r:List Int} : ∀(k:Nat),k<=l.length->k<=m.length->dQ (l.drop k) (m.drop k)=some r->dQ l m=some (m.take k++r):=by
 induction l generalizing m with
 | nil =>
  intro k i j h;have:k=0:=by simpa using i
  subst this;simpa using h
 | cons d l q =>
  intro k i j h;cases k with
  | zero=>simpa using h
  | succ k =>
   cases m with
   | nil=>simp at j
   | cons a m =>
    simp only[vT]at h;have:=q k (by simpa using i) (by simpa using j) h;simp only[dQ,this,vS,xH]
theorem Iw(i:k<l.length)(j:k<m.length)(h:dQ (l.drop (k+1)) (m.drop (k+1))=none):dQ (l.drop k) (m.drop k)=if m[k]+1<l[k]then some ((m[k]+1)::List.replicate (l.length-(k+1)) 0)else none:=by
 rw[zX i,zX j];simp only[dQ,h,qS]
theorem Ks(l m:List Int):dQ (l.drop l.length) m=none:=by simp[dQ]
theorem Gg(h:∀d∈l,1<=d):idx l 0=List.replicate l.length 0:=by
 have i:=mP l h;have:=uc l _ i.1 0 (by omega);rw[i.2]at this;simpa using this
def ef(n:Int):Int:=(n+9223372036854775808) % 18446744073709551616-9223372036854775808
theorem KH(h:-9223372036854775808<=a/\a<=9223372036854775807):ef a=a:=by unfold ef;omega
theorem G5(a:Int):like (ef a) a:=by
 unfold ef like;refine⟨-((a+9223372036854775808) / 18446744073709551616),?_⟩;omega
theorem prod_reverse:∀(l:List Int),prod l.reverse=prod l
 | []=>rfl
 | d::l=>by rw[xI,jy,prod_reverse l];simp only[prod];rw[xT]
theorem Gf(i:∀d∈l,1<=d)(ar:1<=d):idx (l++[d]) p=idx l (p / d)++[p % d]:=by
 induction l with
 | nil=>simp[idx,prod]
 | cons e l m =>
  rw[xH,oP,oP,m (λx j=>i x (by simp[j])),jy,xH];rw[uW (by omega),xT (prod l) d]
theorem zx:∀(r:List (Int × Int)),(∀x∈r,1<=x.1)->∀p,rd r p=dot (idx (r.reverse.map (·.1)) p) (r.reverse.map (·.2))
 | [],_,p=>by simp[rd,dot,idx]
 | (n,s)::r,h,p=>by
  have j:∀x∈r,1<=x.1:=λx i=>h x (by simp[i])
  have q:=zx r j (p / n);have m:=h (n,s) (by simp);rw[xI,zI,zI,wH,wH];rw[Gf (λd ar=>by
   obtain⟨x,i,rfl⟩:=List.mem_map.1 ar;exact j x (List.mem_reverse.1 i)) m,sg _ _ _ _ (by rw[fs];simp),<-q]
  simp only[rd];omega
theorem wu{B B':List (Int × Int)}(h:∀p,rd B p=rd B' p):∀(A:List (Int × Int)) (p:Int),rd (A++B) p=rd (A++B') p
 | [],p=>h p
 | (n,s)::A,p=>by simp only[xH,rd,wu h A]
theorem GD{st:List (Int × Int)}{x:Int × Int}(j:1<=x.1)(h:∀y∈st,1<=y.1):∀y∈push st x,1<=y.1:=by
 unfold push;by_cases m:x.1=1
 .rw[qY m];exact h
 rw[qV m];cases st with
 | nil=>intro y i;simp at i;subst i;exact j
 | cons z r =>
  dsimp only;by_cases q:z.2=x.1*x.2
  .rw[qY q];intro y i;rcases List.mem_cons.1 i with rfl | i
   .have:=jO (h z (by simp)) j (by omega) (by have:=h z (by simp);omega);simpa using this
   exact h y (by simp[i])
  rw[qV q];intro y i;rcases List.mem_cons.1 i with rfl | i
  .exact j
  exact h y i
theorem tH:∀(L acc:List (Int × Int)),(∀x∈L,1<=x.1)->(∀x∈acc,1<=x.1)->∀p,rd (L.foldl push acc) p=rd (L.reverse++acc) p
 | [],acc,_,_,p=>by simp
 | x::L,acc,h,i,p=>by
  have j:=h x (by simp);rw[vM,tH L (push acc x) (λy m=>h y (by simp[m])) (GD j i) p,xI,zE];exact wu (λq=>IE j i q) L.reverse p
theorem l5:∀(L acc:List (Int × Int)),c6 (L.foldl push acc)=prod (L.map (·.1))*c6 acc
 | [],acc=>by simp[prod]
 | x::L,acc=>by
  rw[vM,l5 L,CT,qE];simp only[prod];rw[<-jH,xT (prod _) x.1]
def x5(st:List (Int × Int)):Prop:=∀y∈st,2<=y.1/\-1099511627776<=y.2/\y.2<=1099511627776
theorem EC{st:List (Int × Int)}{x:Int × Int}(q:1<=x.1)(j:-1099511627776<=x.2/\x.2<=1099511627776)(h:x5 st):x5 (push st x):=by
 unfold push;by_cases e:x.1=1
 .rw[qY e];exact h
 rw[qV e];cases st with
 | nil=>intro y i;simp at i;subst i;exact⟨by omega,j⟩
 | cons z r =>
  have B:=h z (by simp);dsimp only;by_cases m:z.2=x.1*x.2
  .rw[qY m];intro y i;rcases List.mem_cons.1 i with rfl | i
   .have:=jO B.1 q (by omega) (by omega);exact⟨by simpa using this,j⟩
   exact h y (by simp[i])
  rw[qV m];intro y i;rcases List.mem_cons.1 i with rfl | i
  .exact⟨by omega,j⟩
  exact h y i
theorem mT:∀(L acc:List (Int × Int)),(∀x∈L,1<=x.1/\-1099511627776<=x.2/\x.2<=1099511627776)->x5 acc->x5 (L.foldl push acc)
 | [],acc,_,h=>h
 | x::L,acc,i,h=>mT L _ (λy j=>i y (by simp[j])) (EC (i x (by simp)).1 (i x (by simp)).2 h)
theorem o':∀(L acc:List (Int × Int)),canon acc->canon (L.foldl push acc)
 | [],acc,h=>h
 | x::L,acc,h=>o' L _ (Cg h)
theorem xk{st:List (Int × Int)}(h:x5 st)(hp:c6 st<=65536):Small 72057594037927936 st:=by
 intro y i;obtain⟨a,b,c⟩:=h y i;have m:=oV (st:=st) (λz j=>by have:=(h z j).1;omega) y i;have:=ra (a:=y.1) (b:=y.2) (x:=65536) (y:=1099511627776) (by omega) (by omega) b c (by omega);exact⟨a,by omega,by omega,by omega,by omega,by omega⟩
def blocks(v:V):List (Int × Int):=(v.I.zip v.s).foldl push []
theorem zip_fst:∀{l m:List Int},l.length=m.length->(l.zip m).map (·.1)=l
 | [],[],_=>rfl
 | d::l,s::m,h=>by simp[zip_fst (l:=l) (m:=m) (by simpa using h)]
 | [],_::_,h=>by simp at h
 | _::_,[],h=>by simp at h
theorem uq:∀{l m:List Int},l.length=m.length->(l.zip m).map (·.2)=m
 | [],[],_=>rfl
 | d::l,s::m,h=>by simp[uq (l:=l) (m:=m) (by simpa using h)]
 | [],_::_,h=>by simp at h
 | _::_,[],h=>by simp at h
theorem nX{v:V}(h:aF v=0)(hp:0<prod v.I):(∀p,rd (blocks v) p=dot (idx v.I p) v.s)/\c6 (blocks v)=prod v.I/\canon (blocks v)/\Small 72057594037927936 (blocks v):=by
 obtain⟨r,z2,z3,z4⟩:=cK h;have B:=fD r hp;have j:∀x∈v.I.zip v.s,1<=x.1/\-1099511627776<=x.2/\x.2<=1099511627776:=λx i=>by
  obtain⟨a,b⟩:=x;have:=kT i;exact⟨B a this.1,z4 b this.2⟩
 have q:c6 (blocks v)=prod v.I:=by
  unfold blocks;rw[l5,zip_fst z2.symm];simp[c6]
 refine⟨λp=>?_,q,o' _ _ trivial,xk (mT _ _ j (λy m=>by simp at m)) (by rw[q];exact(aB r).2.2.2.2)⟩;unfold blocks;rw[tH _ _ (λx i=>(j x i).1) (λy m=>by simp at m),xM,zx _ (λx i=>(j x (List.mem_reverse.1 i)).1),wQ,zip_fst z2.symm,uq z2.symm]
def at_(v:V)(p:Int):Int:=v.st+dot (idx v.I p) v.s
def jj(v:V)(I:List Int):List Int:=(List.range I.length).map λk=>if 1<I.getD k 0 then at_ v (prod (I.drop (k+1)))-at_ v 0 else 0
theorem ej(v:V)(I:List Int):(jj v I).length=I.length:=by simp[jj]
theorem BN(v:V)(I:List Int)(k:Nat)(h:k<(jj v I).length):(jj v I)[k]=if 1<I.getD k 0 then at_ v (prod (I.drop (k+1)))-at_ v 0 else 0:=by simp[jj]
theorem BU:∀(ds ss:List Int),(∀d∈ds,1<=d)->ss.length=ds.length->∀(j:Nat) (h:j<ds.length) (q:j<ss.length),1<ds[j]->rd (ds.zip ss) (prod (ds.take j))=ss[j]
 | d::ds,s::ss,ar,m,0,_,_,i=>by
  simp only[zY]at i;simp only[kR,yG,prod,rd,zY];rw[jL (by omega) i,vI (by omega) i,mz];omega
 | d::ds,s::ss,ar,m,j+1,h,q,i=>by
  have B:=ar d (by simp);have y:=BU ds ss (λx r=>ar x (by simp[r])) (by simpa using m) j (by simpa using h) (by simpa using q) (by simpa using i);simp only[kR,vS,prod,rd,jB];rw[Int.mul_emod_right,Int.mul_ediv_cancel_left _ (show d≠0 by omega),y];omega
 | [],_,_,_,_,h,_,_=>by simp at h
 | _::_,[],_,m,_,_,_,_=>by simp at m
theorem t':∀{ds:List Int} {st:List (Int × Int)} {ss:List Int},go ds st=some ss->∀(j:Nat) (h:j<ds.length) (x:j<ss.length),ds[j]=1->ss[j]=0
 | [],_,_,_,_,h,_,_=>by simp at h
 | d::ds,st,ss,i,j,h,x,q=>by
  simp only[go]at i;by_cases e:d=1
  .rw[qY e]at i;cases m:go ds st with
   | none=>rw[m]at i;cases i
   | some B =>
    rw[m]at i;simp only[uI,zZ]at i;subst i;cases j with
    | zero=>rfl
    | succ j=>simpa using t' m j (by simpa using h) (by simpa using x) (by simpa using q)
  rw[qV e]at i;cases st with
  | nil=>cases i
  | cons y r =>
   obtain⟨n,s⟩:=y;dsimp only at i;by_cases hm:n % d=0
   .rw[qY hm]at i;cases m:go ds (if n / d=1 then r else(n / d,s*d)::r)with
    | none=>rw[m]at i;cases i
    | some B =>
     rw[m]at i;simp only[uI,zZ]at i;subst i;cases j with
     | zero=>exact absurd (by simpa using q) e
     | succ j=>simpa using t' m j (by simpa using h) (by simpa using x) (by simpa using q)
   rw[qV hm]at i;cases i
def ez(v:V)(I:List Int):V × Int :=
 if aF v≠0 then(none_,aF v)else if (size I).2≠0 then(none_,(size I).2)else if (size v.I).1≠(size I).1 then(none_,6)
 else if (size I).1=0 then(⟨v.st,I,List.replicate I.length 0⟩,0)
 else match go I.reverse (blocks v)with
  | none=>(none_,9)
  | some ss=>made ⟨v.st,I,ss.reverse⟩
section
variable {v:V} {I:List Int}
theorem zC(h:aF v≠0):ez v I=(none_,aF v):=qY h
theorem n5(h:aF v=0)(i:(size I).2≠0):ez v I=(none_,(size I).2):=by unfold ez;rw[qV (by simp[h]),qY i]
theorem m_(h:aF v=0)(i:(size I).2=0)(j:(size v.I).1≠(size I).1):ez v I=(none_,6):=by unfold ez;rw[qV (by simp[h]),qV (by simp[i]),qY j]
theorem mZ(h:aF v=0)(i:(size I).2=0)(j:(size v.I).1=(size I).1)(m:(size I).1=0):ez v I=(⟨v.st,I,List.replicate I.length 0⟩,0):=by
 unfold ez;rw[qV (by simp[h]),qV (by simp[i]),qV (by simp[j]),qY m]
theorem _root_.XN{G:Prop}(h:G:=by
 unfold ez;rw[qV (by simp[h]),qV (by simp[bS]),qV (by simp[pj]),qV pk,Ij]
 ):G:=h
theorem r2(h:aF v=0)(bS:(size I).2=0)(pj:(size v.I).1=(size I).1)(pk:(size I).1≠0)(Ij:go I.reverse (blocks v)=none):ez v I=(none_,9):=by
 exact XN
theorem n6(h:aF v=0)(bS:(size I).2=0)(pj:(size v.I).1=(size I).1)(pk:(size I).1≠0)(Ij:go I.reverse (blocks v)=some ss):ez v I=made ⟨v.st,I,ss.reverse⟩:=by
 exact XN
theorem ll(h:aF v=0)(i:(size I).2=0)(r:(size v.I).1=(size I).1)(x:(size I).1≠0):prod v.I=prod I/\1<=prod I/\prod I<=65536/\(∀d∈v.I,1<=d)/\∀d∈I,1<=d:=by
 obtain⟨j,z2,z3,z4⟩:=cK h;obtain⟨dm,a2,a3,a4,a5⟩:=aB j;obtain⟨m,q,bA,cq,eC⟩:=aB i;exact⟨by omega,by omega,by omega,fD j (by omega),fD i (by omega)⟩
theorem n7(h:∀d∈I,1<=d):∀d∈I.reverse,1<=d:=λd ar=>h d (List.mem_reverse.1 ar)
theorem B7:∀{l m:List Int},l.length=m.length->l.reverse.zip m.reverse=(l.zip m).reverse
 | [],[],_=>rfl
 | d::l,s::m,h=>by
  have i:l.length=m.length:=by simpa using h
  rw[xI,xI,List.zip_append (by simpa using i),B7 i];simp
 | [],_::_,h=>by simp at h
 | _::_,[],h=>by simp at h
theorem BS{ts:List Int}(i:ts.length=I.length)(ar:∀d∈I,1<=d)(p:Int):rd (I.reverse.zip ts.reverse) p=dot (idx I p) ts:=by
 have e:I.reverse.zip ts.reverse=(I.zip ts).reverse:=B7 i.symm;rw[e,zx _ (λx j=>by
  obtain⟨a,b⟩:=x;have:=kT (List.mem_reverse.1 j);exact ar a this.1),wQ,zip_fst i.symm,uq i.symm]
theorem tI(h:aF v=0)(M:(size I).2=0)(N:(size v.I).1=(size I).1)(O:(size I).1≠0)(q:go I.reverse (blocks v)=some ss):jj v I=ss.reverse/\∀p,v.st+dot (idx I p) (jj v I)=at_ v p:=by
 obtain⟨f1,f2,f3,f4,f5⟩:=ll h M N O;obtain⟨i,E,bA,cq⟩:=nX h (by omega);have B:=n7 f5;obtain⟨g1,g2⟩:=go_sound B cq (by rw[E,prod_reverse,f1]) q;rw[jV]at g1;have e:jj v I=ss.reverse:=by
  apply jP
  .rw[ej,jV,g1]
  intro k m V;rw[ej]at m;have S:I.getD k 0=I[k]:=getD_at I k m;have r:I.length-1-k<I.reverse.length:=by rw[jV];omega
  have x:I.length-1-k<ss.length:=by omega
  have y:I.reverse[I.length-1-k]=I[k]:=by
   rw[wZ];congr 1;omega
  have Q:ss.reverse[k]'V=ss[I.length-1-k]:=by
   rw[wZ];congr 1;omega
  rw[Q,BN,S];by_cases j:1<I[k]
  .rw[qY j];have hu:=BU I.reverse ss B (by rw[jV,g1]) _ r x (by rw[y];exact j);rw[g2,i]at hu;have U:prod (I.reverse.take (I.length-1-k))=prod (I.drop (k+1)):=by
    rw[List.take_reverse,prod_reverse];congr 2;omega
   have D:=i 0;rw[mz]at D;unfold at_;rw[<-U,hu,<-D];omega
  rw[qV j];have:=f5 _ (qP m);exact(t' q _ r x (by rw[y];omega)).symm
 refine⟨e,λp=>?_⟩;have hp:=BS (ts:=jj v I) (ej v I) f5 p;rw[e,wQ,g2,i]at hp;unfold at_;rw[e];omega
theorem E2(h:aF v=0)(r:(size I).2=0)(x:(size v.I).1=(size I).1)(y:(size I).1≠0)(B:∀p,0<=p->p<prod I->ef (v.st+dot (idx I p) (jj v I))=at_ v p):∃ss,go I.reverse (blocks v)=some ss:=by
 obtain⟨f1,f2,f3,f4,f5⟩:=ll h r x y;obtain⟨m,q,bA,cq⟩:=nX h (by omega);refine n0 (by omega) (n7 f5) cq bA (by rw[q,prod_reverse,f1]) (ts:=(jj v I).reverse) (by simp[ej]) (λp D j=>?_);rw[prod_reverse]at j;rw[BS (ej v I) f5,m];have e:=B p D j;obtain⟨k,i⟩:=G5 (v.st+dot (idx I p) (jj v I));rw[e]at i;unfold at_ at i;exact⟨-k,by omega⟩
end
theorem wA{I:List Int}(i:∀d∈I,1<=d)(h:k<I.length)(j:1<I[k]):1<=prod (I.drop (k+1))/\prod (I.drop (k+1))<prod I:=by
 have dm:=eu (I.drop (k+1)) (λd ar=>i d (jN ar));have a2:=eu (I.take k) (λd ar=>i d (xN ar));have e:prod I=prod (I.take k)*(I[k]*prod (I.drop (k+1))):=by
  rw[show prod I=prod (I.take k++I.drop k) by rw[jU],prod_append,zX h];rfl
 have a3:2*prod (I.drop (k+1))<=I[k]*prod (I.drop (k+1)):=xU (by omega) (by omega);have a4:=xU a2 (show 0<=I[k]*prod (I.drop (k+1)) by omega);rw[vZ,<-e]at a4;exact⟨dm,by omega⟩
theorem Fj{I:List Int}(i:∀d∈I,1<=d)(h:k<I.length):(steps I)[k]'(by rw[bM];exact h)=prod (I.drop (k+1)):=by
 rw[k_,qV (λj=>by have:=i 0 j;omega)]
theorem A2{v:V}{I:List Int}(i:(size I).2=0)(j:ss.length=I.length):aF ⟨v.st,I,ss⟩=0\/aF ⟨v.st,I,ss⟩=4:=q3 i j
end R
end
section
namespace R
def eK(v:V)(k:Nat):List (Int × Int):=((v.I.zip v.s).take k).foldl push []
theorem Ax{v:V}(h:v.s.length=v.I.length):eK v v.I.length=blocks v:=by
 unfold eK blocks;rw[qT (by rw[kL];omega)]
theorem yd{v:V}(h:k<v.I.length)(az:k<v.s.length):eK v (k+1)=push (eK v k) (v.I[k],v.s[k]):=by
 unfold eK;rw[qD (by rw[kL];omega),jE,List.getElem_zip];rfl
theorem yc{v:V}(h:aF v=0)(hp:0<prod v.I)(k:Nat):∀y∈eK v k,2<=y.1/\y.1<=65536/\-1099511627776<=y.2/\y.2<=1099511627776:=by
 obtain⟨r,z2,z3,z4⟩:=cK h;have q:=fD r hp;have B:∀x∈(v.I.zip v.s).take k,1<=x.1/\-1099511627776<=x.2/\x.2<=1099511627776:=λx D=>by
  obtain⟨a,b⟩:=x;have:=kT (xN D);exact⟨q a this.1,z4 b this.2⟩
 have m:=mT _ [] B (λy i=>by simp at i);have e:((v.I.zip v.s).take k).map (·.1)=v.I.take k:=by rw[List.map_take,zip_fst z2.symm]
 have O:c6 (eK v k)=prod (v.I.take k):=by
  unfold eK;rw[l5,e];simp[c6]
 have hle:=mW v.I k q;have N:=(aB r).2.2.2.2;intro y i;have j:=m y i;have M:=oV (st:=eK v k) (λz E=>by have:=(m z E).1;omega) y i;exact⟨j.1,by omega,j.2⟩
theorem AX(st:List (Int × Int))(x:Int × Int):(push st x).length<=st.length+1:=by
 unfold push;by_cases h:x.1=1
 .rw[qY h];omega
 rw[qV h];cases st with
 | nil=>simp
 | cons y r =>
  dsimp only;by_cases i:y.2=x.1*x.2
  .rw[qY i];simp
  rw[qV i];simp
theorem ow:∀(L acc:List (Int × Int)),(L.foldl push acc).length<=acc.length+L.length
 | [],acc=>by simp
 | x::L,acc=>by
  have i:=ow L (push acc x);have j:=AX acc x;rw[vM,qH];omega
theorem tW(v:V)(k:Nat):(eK v k).length<=k:=by
 have h:=ow ((v.I.zip v.s).take k) [];have i:=List.length_take_le k (v.I.zip v.s);unfold eK;simp at h |-;omega
theorem E1{st:List (Int × Int)}(h:d=1):push st (d,s)=st:=by unfold push;rw[qY h]
theorem CU(h:d≠1):push [] (d,s)=[(d,s)]:=by unfold push;rw[qV h]
theorem EZ{r:List (Int × Int)}(h:d≠1)(i:t=d*s):push ((n,t)::r) (d,s)=(n*d,s)::r:=by unfold push;rw[qV h];simp[i]
theorem E0{r:List (Int × Int)}(h:d≠1)(i:t≠d*s):push ((n,t)::r) (d,s)=(d,s)::(n,t)::r:=by unfold push;rw[qV h];simp[i]
def ie(d:Int)(st:List (Int × Int)):Option (Int × List (Int × Int)) :=
 if d=1 then some (0,st)else match st with
  | []=>none
  | (n,s)::r=>if n % d=0 then some (s,if n / d=1 then r else(n / d,s*d)::r)else none
def ha(acc:Option (List Int × List (Int × Int)))(d:Int):Option (List Int × List (Int × Int)):=acc.bind λx=>(ie d x.2).map λy=>(x.1++[y.1],y.2)
def gJ(ds:List Int)(st:List (Int × Int)):Option (List Int × List (Int × Int)):=ds.foldl ha (some ([],st))
theorem nx(ds:List Int)(d:Int)(st:List (Int × Int)):gJ (ds++[d]) st=ha (gJ ds st) d:=by simp[gJ]
theorem oM(ds:List Int):ds.foldl ha none=none:=by
 induction ds with
 | nil=>rfl
 | cons d ds i=>exact i
theorem Ii(d:Int)(ds:List Int)(st:List (Int × Int)):go (d::ds) st=(ie d st).bind λy=>(go ds y.2).map (y.1::·):=by
 simp only[go,ie];by_cases h:d=1
 .rw[qY h,qY h];rfl
 rw[qV h,qV h];cases st with
 | nil=>rfl
 | cons y r =>
  obtain⟨n,s⟩:=y;dsimp only;by_cases i:n % d=0
  .rw[qY i,qY i];rfl
  rw[qV i,qV i];rfl
theorem vv:∀(ds:List Int) (ss:List Int) (st:List (Int × Int)),(ds.foldl ha (some (ss,st))).map (·.1)=(go ds st).map (ss++·)
 | [],ss,st=>by simp[go]
 | d::ds,ss,st=>by
  rw[vM,Ii];cases h:ie d st with
  | none=>simp[ha,h,oM]
  | some y =>
   have e:ha (some (ss,st)) d=some (ss++[y.1],y.2):=by simp[ha,h]
   rw[e,vv ds];simp only[Option.bind_some,Option.map_map]
   congr 1
   funext x;simp
theorem BA(ds:List Int)(st:List (Int × Int)):(gJ ds st).map (·.1)=go ds st:=by
 unfold gJ;rw[vv];simp
theorem F'{es:List Int}{st:List (Int × Int)}(h:gJ ds st=none):go (ds++es) st=none:=by
 rw[<-BA];unfold gJ at *;rw[jE,h,oM];rfl
theorem D2 : ∀{ds es:List Int} {st i:List (Int × Int)} {ss:List Int},(∀d∈ds,1<=d)->Small M st->c6 st=prod (ds++es)->gJ ds st=some (ss,i)->Small M i/\c6 i=prod es/\ss.length=ds.length:=by
 intro ds
 suffices H:∀(ds es B:List Int) (st i:List (Int × Int)) (ss:List Int),(∀d∈ds,1<=d)->Small M st->c6 st=prod (ds++es)->ds.foldl ha (some (B,st))=some (ss,i)->Small M i/\c6 i=prod es/\ss.length=B.length+ds.length by
  intro es st i ss D m q j;have:=H ds es [] st i ss D m q j;simpa using this
 intro ds
 induction ds with
 | nil =>
  intro es B st i ss _ m q j;simp only[List.foldl_nil,zZ,vJ]at j;obtain⟨rfl,rfl⟩:=j;exact⟨m,q,rfl⟩
 | cons d ds O =>
  intro es B st i ss D m q j;have E:=D d (by simp);rw[vM]at j;cases h:ie d st with
  | none=>simp[ha,h,oM]at j
  | some y =>
   have e:ha (some (B,st)) d=some (B++[y.1],y.2):=by simp[ha,h]
   rw[e]at j;have I:Small M y.2/\c6 y.2=prod (ds++es):=by
    unfold ie at h;by_cases ar:d=1
    .rw[qY ar]at h;simp only[zZ]at h;subst h;subst ar;exact⟨m,by simpa[prod]using q⟩
    rw[qV ar]at h;cases st with
    | nil=>cases h
    | cons z r =>
     obtain⟨n,s⟩:=z;dsimp only at h;by_cases hm:n % d=0
     .rw[qY hm]at h;simp only[zZ]at h;subst h;refine⟨iZ m E hm,?_⟩;have hp:=mM m E hm;rw[q]at hp;simp only[xH,prod]at hp;exact(yI (by omega) hp).symm
     rw[qV hm]at h;cases h
   obtain⟨a,b,c⟩:=O es _ _ _ _ (λx N=>D x (by simp[N])) I.1 I.2 j;exact⟨a,b,by rw[c];simp;omega⟩
theorem Ct{st:List (Int × Int)}(h:d=1):ie d st=some (0,st):=qY h
theorem D3{r:List (Int × Int)}(h:d≠1)(i:n % d≠0):ie d ((n,s)::r)=none:=by unfold ie;rw[qV h];simp[i]
theorem Cr{r:List (Int × Int)}(h:d≠1)(i:n % d=0)(j:n / d=1):ie d ((n,s)::r)=some (s,r):=by unfold ie;rw[qV h];simp[i,j]
theorem Cs{r:List (Int × Int)}(h:d≠1)(i:n % d=0)(j:n / d≠1):ie d ((n,s)::r)=some (s,(n / d,s*d)::r):=by unfold ie;rw[qV h];simp[i,j]
theorem CZ{v:V}{I:List Int}{st:List (Int × Int)}(h:aF v=0)(hp:0<prod v.I)(he:prod v.I=prod I)(O:∀x∈I,1<=x)(N:j<I.length)(ar:1<=d)(S:gJ (I.reverse.take j) (blocks v)=some (ss,st))(M:I.reverse.take (j+1)=I.reverse.take j++[d]):Small 72057594037927936 st/\ss.length=j/\(d≠1->∃n s r,st=(n,s)::r):=by
 obtain⟨U,D,bA,cq⟩:=nX h hp;have B:=n7 O;obtain⟨aO,bz,E⟩:=D2 (es:=I.reverse.drop j) (λx i=>B x (xN i)) cq (by rw[jU,prod_reverse,D,he]) S;refine⟨aO,by rw[E,qM,jV];omega,λW=>?_⟩;cases st with
 | cons y r=>exact⟨y.1,y.2,r,rfl⟩
 | nil =>
  exfalso;have q:j<I.reverse.length:=by rw[jV];exact N
  have e:I.reverse[j]=d:=by
   have m:=cM I.reverse j q;rw[M]at m;have:=List.append_cancel_left m;simpa using this.symm
  rw[zX q,e]at bz;have Q:=eu (I.reverse.drop (j+1)) (λx i=>B x (jN i));simp only[c6,prod]at bz;have:=jK Q (show 0<=d by omega);rw[kN]at this;omega
theorem Dc{r:List (Int × Int)}(h:Small M ((n,s)::r))(ar:1<=d)(hm:n % d=0):-M<=s*d/\s*d<=M:=by
 obtain⟨dm,a2,a3,a4,a5,i⟩:=h (n,s) (by simp);dsimp only at dm a2 a3 a4 a5 i;by_cases j:n / d=1
 .have e:=jC n d;rw[hm,j,kU,kN]at e;rw[e,xT];exact⟨a5,i⟩
 have:=iZ h ar hm (n / d,s*d) (by rw[qV j];simp);exact⟨this.2.2.1,this.2.2.2.1⟩
theorem C2{st b:List (Int × Int)}(h:gJ ds b=some (ss,st))(ar:d=1):gJ (ds++[d]) b=some (ss++[0],st):=by
 rw[nx,h];simp[ha,Ct ar]
theorem E3{r b:List (Int × Int)}(h:gJ ds b=some (ss,(n,s)::r))(ar:d≠1)(hm:n % d≠0):gJ (ds++[d]) b=none:=by
 rw[nx,h];simp[ha,D3 ar hm]
theorem C0{r b:List (Int × Int)}(h:gJ ds b=some (ss,(n,s)::r))(ar:d≠1)(hm:n % d=0)(i:n / d=1):gJ (ds++[d]) b=some (ss++[s],r):=by
 rw[nx,h];simp[ha,Cr ar hm i]
theorem C1{r b:List (Int × Int)}(h:gJ ds b=some (ss,(n,s)::r))(ar:d≠1)(hm:n % d=0)(i:n / d≠1):gJ (ds++[d]) b=some (ss++[s],(n / d,s*d)::r):=by
 rw[nx,h];simp[ha,Cs ar hm i]
theorem J6{I:List Int}{b:List (Int × Int)}(h:gJ (I.reverse.take j) b=none):go I.reverse b=none:=by
 have:=F' (es:=I.reverse.drop j) h
 rwa [jU]at this
end R
end
section
namespace R
open List in
open List in
open List in
open List in
theorem vg:∀{m s t:List Int},s.length=t.length->(∀k (j:k<m.length) (q:k<s.length) (r:k<t.length),m[k]*s[k]=m[k]*t[k])->dot m s=dot m t
 | [],s,t,_,_=>by simp[dot]
 | a::m,[],[],_,_=>rfl
 | a::m,x::s,y::t,B,h=>by
  have i:=h 0 (by simp) (by simp) (by simp);simp only[zY]at i;have D:=vg (m:=m) (s:=s) (t:=t) (by simpa using B) (λk j q r=>by have:=h (k+1) (by simpa using j) (by simpa using q) (by simpa using r);simpa using this);simp only[dot,i,D]
 | _::_,[],_::_,h,_=>by simp at h
 | _::_,_::_,[],h,_=>by simp at h
def whole(l:List Int):V × Int:=if (size l).2≠0 then(none_,(size l).2)else(⟨0,l,steps l⟩,0)
theorem Dd(h:(size l).2=0):∀s∈steps l,0<=s/\s<=65536:=by
 obtain⟨r,z2,z3,z4,z5⟩:=aB h;intro s az;obtain⟨k,q,rfl⟩:=zQ az;rw[k_];by_cases i:(0:Int)∈l
 .rw[qY i];omega
 rw[qV i];have j:∀d∈l,1<=d:=λd ar=>by
  have:=z2 d ar;have m:d≠0:=λe=>i (e▸ar)
  omega
 have dm:=eu (l.drop (k+1)) (λd ar=>j d (jN ar));have a2:=eu (l.take (k+1)) (λd ar=>j d (xN ar));have e:prod l=prod (l.take (k+1))*prod (l.drop (k+1)):=by rw[<-prod_append,jU]
 have a3:=xU a2 (show 0<=prod (l.drop (k+1)) by omega);rw[vZ,<-e]at a3;omega
theorem lu(h:(size l).2=0):aF ⟨0,l,steps l⟩=0:=by
 refine ng h (by simp[bM]) ?_;simp only[qB,kX];exact⟨by decide,λs az=>jw.2 (by have:=Dd h s az;omega)⟩
theorem G7(j:∀d∈l,1<=d)(i:0<=p)(m:p<prod l):at_ ⟨0,l,steps l⟩ p=p:=by
 unfold at_;dsimp only;rw[qw (λq=>by have:=j 0 q;omega) (fs l p).symm,(k7 l j p i).2,jL i m];omega
theorem Ap{I:List Int}(h:(size l).2=0):(ez ⟨0,l,steps l⟩ I).2=0↔((size I).2=0/\(size l).1=(size I).1):=by
 have hw:=lu h;by_cases j:(size I).2=0
 .by_cases m:(size l).1=(size I).1
  .refine⟨λ_=>⟨j,m⟩,λ_=>?_⟩;by_cases x:(size I).1=0
   .rw[mZ hw j m x]
   obtain⟨f1,f2,f3,f4,f5⟩:=ll hw j m x;dsimp only at f1 f4;have D:∀q,0<=q->q<prod I->at_ ⟨0,l,steps l⟩ q=q:=λq U X=>G7 f4 U (by omega)
   have M:∀k (r:k<I.length),(jj ⟨0,l,steps l⟩ I)[k]'(by rw[ej];exact r)=if 1<I[k]then prod (I.drop (k+1))else 0:=λk r=>by
    rw[BN,getD_at I k r];by_cases i:1<I[k]
    .have az:=wA f5 r i;rw[qY i,qY i,D _ (by omega) az.2,D 0 (by omega) (by omega)];omega
    rw[qV i,qV i]
   have S:∀p,dot (idx I p) (jj ⟨0,l,steps l⟩ I)=dot (idx I p) (steps I):=λp=>by
    have y:(0:Int)∉I:=λy=>by have:=f5 0 y;omega
    refine vg (by rw[ej,bM]) λk V B W=>?_
    rw[ej]at B;rw[M k B,k_,qV y];by_cases i:1<I[k]
    .rw[qY i]
    rw[qV i];have e:I[k]=1:=by have:=f5 _ (qP B);omega
    have Q:(idx I p)[k]=0:=by
     have:(idx I p)[k]=p / prod (I.drop (k+1)) % I[k]:=by simp[idx,B]
     rw[this,e,Int.emod_one]
    rw[Q];simp
   obtain⟨ss,N⟩:=E2 hw j m x (λp E O=>by
    rw[S,qw (λy=>by have:=f5 0 y;omega) (fs I p).symm,(k7 I f5 p E).2,jL E O,D p E O];show ef (0+p)=p;rw[pK];exact KH (by omega))
   rw[n6 hw j m x N,made,qV ?_];rw[<-(tI hw j m x N).1];have:aF ⟨0,I,jj ⟨0,l,steps l⟩ I⟩=0:=by
    refine ng j (by simp[ej]) ?_;simp only[qB,kX];refine⟨by decide,λs az=>jw.2 ?_⟩;obtain⟨k,r,rfl⟩:=zQ az;rw[ej]at r;rw[M k r];by_cases i:1<I[k]
    .rw[qY i];have:=wA f5 r i;omega
    rw[qV i];omega
   rw[this];decide
  rw[m_ hw j m];exact⟨λh=>(by cases h),λh=>absurd h.2 m⟩
 rw[n5 hw j];exact⟨λh=>(absurd h j),λh=>(absurd h.1 j)⟩
end R
end
section
namespace J
open R (size pick c1)
structure Op where
 k:Int
 I:List Int
 a:List Int
 l:List Int
 h:List Int
 s:List Int
 v:Int
structure Node where
 o:Op
 a:List Int
structure bh where
 n:List Node
 o:List Int
def right(k:Int)(n:Nat):Int :=
 if k=2 then(if n=0 then 0 else 2)
 else if k=3\/k=4\/k=5\/k=6\/k=7\/k=16\/k=18\/k=19 then(if n=2 then 0 else 2)
 else if k=8 then(if n=3 then 0 else 2)
 else if k=9\/k=10\/k=11\/k=12\/k=13\/k=14\/k=15 then(if n=1 then 0 else 2)
 else if k=17 then(if n=0 then 2 else 0)
 else 1
def sizes:List (List Int)->Int
 | []=>0
 | d::r=>if (size d).2≠0 then(size d).2 else sizes r
def aq(I l:List Int):List Int:=l.map (pick I)
def free(I l:List Int):List Int:=(c1 I.length).filter λk=>!decide (k∈l)
def bG(l:List Int)(n:Nat):Bool:=l.all (λk=>decide (0<=k) && decide (k<(n:Int))) && decide l.Nodup
def dA(op:Op)(a b:List Int):List Int × Int :=
 if op.a.length≠op.s.length\/op.l.length≠op.h.length then([],6)
 else if bG (op.a++op.l) a.length=false\/bG (op.s++op.h) b.length=false then([],6)
 else if aq a op.a≠aq b op.s\/aq a op.l≠aq b op.h then([],6)
 else(aq a op.l++aq a (free a (op.a++op.l))++aq b (free b (op.s++op.h)),0)
def j'(k:Nat)(out d:List Int):Bool:=decide (d.length=out.length) && (List.range out.length).all λj=>decide (j=k) || decide (d.getD j 0=out.getD j 0)
def cU(k:Nat):List Int->List (List Int)->List Int × Int
 | out,[]=>(out,0)
 | out,d::r=>if j' k out d then cU k (out.set k (out.getD k 0+d.getD k 0)) r else([],6)
def bQ(op:Op)(args:List (List Int)):List Int × Int :=
 if op.a.length≠1\/op.a.getD 0 0<0\/((args.getD 0 []).length:Int)<=op.a.getD 0 0 then([],6)
 else cU (op.a.getD 0 0).toNat (args.getD 0 []) (args.drop 1)
def ft(lo hi st:Int):Bool:=decide (0<=lo) && decide (lo<=4096) && decide (0<=hi) && decide (hi<=4096) && decide (1<=st) && decide (st<=4096)
def gi(d lo hi st:Int):Int:=lo+(if 0<d then(d-1)*st+1 else 0)+hi
def cQ(op:Op)(d:List Int):List Int × Int :=
 if op.l.length≠d.length\/op.h.length≠d.length\/op.s.length≠d.length then([],6)
 else if (List.range d.length).all (λk=>ft (op.l.getD k 0) (op.h.getD k 0) (op.s.getD k 0))then((List.range d.length).map λk=>gi (d.getD k 0) (op.l.getD k 0) (op.h.getD k 0) (op.s.getD k 0),0)
 else([],4)
def looked(op:Op)(d:List Int):R.V × Int :=
 if (size d).2≠0 then(R.none_,(size d).2)
 else if op.k=9 then R.spread (R.whole d).1 op.I op.a
 else if op.k=11 then R.turn (R.whole d).1 op.a
 else if op.k=13 then R.cut (R.whole d).1 op.l op.h op.s
 else R.flip (R.whole d).1 op.a
def aP(op:Op)(args:List (List Int)):List Int × Int :=
 if op.k=2 then(op.I,0)
 else if op.k=3\/op.k=4\/op.k=5\/op.k=6\/op.k=7\/op.k=8 then if args.all (λd=>decide (d=args.getD 0 []))then(args.getD 0 [],0)else([],6)
 else if op.k=10 then if R.cB (args.getD 0 []).length op.a then(aq (args.getD 0 []) (free (args.getD 0 []) op.a),0)else([],6)
 else if op.k=12 then if (size op.I).2≠0 then([],(size op.I).2)else if (size (args.getD 0 [])).1≠(size op.I).1 then([],6)else(op.I,0)
 else if op.k=14 then cQ op (args.getD 0 [])
 else if op.k=16 then dA op (args.getD 0 []) (args.getD 1 [])
 else if op.k=17 then bQ op args
 else if op.k=18 then if (args.getD 0 []).length=0 then([],6)else(args.getD 1 []++(args.getD 0 []).drop 1,0)
 else if op.k=19 then if op.I.length≠1\/(args.getD 0 []).length<(args.getD 1 []).length\/(args.getD 0 []).take (args.getD 1 []).length≠args.getD 1 []then([],6)else(op.I++(args.getD 0 []).drop (args.getD 1 []).length,0)
 else((looked op (args.getD 0 [])).1.I,(looked op (args.getD 0 [])).2)
def I(op:Op)(args:List (List Int)):List Int × Int :=
 if right op.k args.length≠0 then([],right op.k args.length)
 else if sizes args≠0 then([],sizes args)
 else if (aP op args).2≠0 then([],(aP op args).2)
 else if (size (aP op args).1).2≠0 then([],(size (aP op args).1).2)
 else((aP op args).1,0)
def params(i:List Node):Nat:=(i.takeWhile λx=>x.o.k == 1).length
def ahead(i:Nat)(l:List Int):Bool:=l.all λa=>decide (0<=a) && decide (a<(i:Int))
def cL(out:List (List Int))(l:List Int):List (List Int):=l.map λa=>out.getD a.toNat []
def aT(x:Node)(i ps:Nat)(out:List (List Int)):List Int × Int :=
 if ahead i x.a=false then([],10)
 else if x.o.k≠1 then I x.o (cL out x.a)
 else if ps<=i\/x.o.a.length≠1\/x.o.a.getD 0 0≠(i:Int)then([],7)
 else if 0<x.a.length then([],2)
 else if (size x.o.I).2≠0 then([],(size x.o.I).2)
 else(x.o.I,0)
def bL(ps:Nat):List Node->List (List Int)->List (List Int) × Int
 | [],out=>(out,0)
 | x::r,out=>if (aT x out.length ps out).2≠0 then([],(aT x out.length ps out).2)else bL ps r (out++[(aT x out.length ps out).1])
def look(g:bh):List (List Int) × Int :=
 if 4096<g.n.length then([],5)
 else if (bL (params g.n) g.n []).2≠0 then([],(bL (params g.n) g.n []).2)
 else if ahead g.n.length g.o=false then([],4)
 else((bL (params g.n) g.n []).1,0)
end J
end
section
namespace ae
open J (Op Node bh)
deriving instance DecidableEq for J.Op
deriving instance DecidableEq for J.Node
def plain(op:Op):Op where
 k:=op.k
 I:=if op.k=1\/op.k=2\/op.k=9\/op.k=12\/op.k=19 then op.I else[]
 a:=if op.k=1\/op.k=9\/op.k=10\/op.k=11\/op.k=15\/op.k=16\/op.k=17 then op.a else[]
 l:=if op.k=13\/op.k=14\/op.k=16 then op.l else[]
 h:=if op.k=13\/op.k=14\/op.k=16 then op.h else[]
 s:=if op.k=13\/op.k=14\/op.k=16 then op.s else[]
 v:=if op.k=2 then op.v else 0
def bH(k:Int):Op:=⟨k,[],[],[],[],[],0⟩
def add(N:List Node)(op:Op)(args:List Int):List Node × Int :=
 match N.findIdx? (λx=>decide (x=⟨plain op,args⟩))with
 | some i=>(N,(i:Int))
 | none=>(N++[⟨plain op,args⟩],(N.length:Int))
def pick(l:List Int)(aa:List Int):List Int:=aa.map λa=>l.getD a.toNat 0
def param(N:List Node)(I:List Int):List Node × Int:=add N { bH 1 with I:=I,a:=[(N.length:Int)] } []
def cA(N:List Node)(I:List Int):List Node × Int:=add N { bH 2 with I:=I } []
def plus(N:List Node)(a b:Int):List Node × Int:=if a<0 then(N,b)else if b<0 then(N,a)else add N (bH 3) [a,b]
def full(N:List Node)(a:Int)(I:List Int):List Node × Int:=if a<0 then cA N I else(N,a)
def choice(N:List Node)(c a b:Int)(I:List Int):List Node × Int :=
 if a<0/\b<0 then(N,-1)
 else add (full (full N a I).1 b I).1 (bH 8) [c,(full N a I).2,(full (full N a I).1 b I).2]
def cz(I:List (List Int)):List Node->List Int->List Int->List Node × List Int
 | N,s::ss,a::aa=>((cz I (full N s (I.getD a.toNat [])).1 ss aa).1,(full N s (I.getD a.toNat [])).2::(cz I (full N s (I.getD a.toNat [])).1 ss aa).2)
 | N,_,_=>(N,[])
def dn(N:List Node)(op:Op)(v s:List Int):List Node × Int :=
 let p:=if s.getD 0 0<0 then(N,-1)else add N op [s.getD 0 0,v.getD 1 0]
 let q:=if s.getD 1 0<0 then(p.1,-1)else add p.1 op [v.getD 0 0,s.getD 1 0]
 plus q.1 p.2 q.2
def bO(I:List (List Int))(N:List Node)(x:Node)(v s d:List Int):List Node × Int :=
 if x.o.k=2\/x.o.k=7 then(N,-1)
 else if x.o.k=3 then plus N (s.getD 0 0) (s.getD 1 0)
 else if x.o.k=4 then
  if s.getD 1 0<0 then(N,s.getD 0 0)
  else add (full N (s.getD 0 0) d).1 x.o [(full N (s.getD 0 0) d).2,s.getD 1 0]
 else if x.o.k=5\/x.o.k=16 then dn N x.o v s
 else if x.o.k=6 then choice (add N (bH 7) [v.getD 0 0,v.getD 1 0]).1 (add N (bH 7) [v.getD 0 0,v.getD 1 0]).2 (s.getD 1 0) (s.getD 0 0) d
 else if x.o.k=8 then choice N (v.getD 0 0) (s.getD 1 0) (s.getD 2 0) d
 else if x.o.k=18\/x.o.k=19 then if s.getD 0 0<0 then(N,-1)else add N x.o [s.getD 0 0,v.getD 1 0]
 else if s.all (λk=>decide (k<0))then(N,-1)
 else add (cz I N s x.a).1 x.o (cz I N s x.a).2
def h6(g:bh):Nat:=g.n.length+g.o.length+(g.n.map λx=>x.a.length).sum
def aF(g:bh):Int:=if (J.look g).2≠0 then(J.look g).2 else if 512<h6 g then 5 else 0
def begun(g:bh)(ps:Nat):List Node:=(g.n.take ps).foldl (λN x=>(add N x.o []).1) []
def changes(I:List (List Int)):Nat->List Node × List Int->List Node × List Int
 | 0,r=>r
 | k+1,r=>let q:=changes I k r;((param q.1 (I.getD k [])).1,q.2++[(param q.1 (I.getD k [])).2])
def b9(ps:Nat):List Node->Nat->List Node × List Int->List Node × List Int
 | [],_,r=>r
 | x::l,i,r=>if i<ps then b9 ps l (i+1) (r.1,r.2++[(i:Int)])else b9 ps l (i+1) ((add r.1 x.o (pick r.2 x.a)).1,r.2++[(add r.1 x.o (pick r.2 x.a)).2])
def dh(I:List (List Int))(cp:List Int):List Node->Nat->List Node × List Int->List Node × List Int
 | [],_,r=>r
 | x::l,i,r=>dh I cp l (i+1) ((bO I r.1 x (pick cp x.a) (pick r.2 x.a) (I.getD i [])).1,r.2++[(bO I r.1 x (pick cp x.a) (pick r.2 x.a) (I.getD i [])).2])
def dy(I:List (List Int))(gB:List Int):List Int->List Node × List Int->List Node × List Int
 | [],r=>r
 | o::l,r=>dy I gB l ((full r.1 (gB.getD o.toNat 0) (I.getD o.toNat [])).1,r.2++[(full r.1 (gB.getD o.toNat 0) (I.getD o.toNat [])).2])
def forward(g:bh):bh × Int :=
 if aF g≠0 then(⟨[],[]⟩,aF g)
 else
  let ds:=(J.look g).1
  let ps:=J.params g.n
  let a:=changes ds ps (begun g ps,[])
  let b:=b9 ps g.n 0 (a.1,[])
  let c:=dh ds b.2 (g.n.drop ps) ps (b.1,a.2)
  let o:=dy ds c.2 g.o (c.1,pick b.2 g.o)
  (⟨o.1,o.2⟩,0)
end ae
end
section
namespace ad
open J (Op Node bh)
open R (size prod idx dR ef)
structure ay where
 I:List Int
 e:List Int
def a6(d:List Int):ay:=⟨d,List.replicate (size d).1.toNat 0⟩
def get(a:ay)(at_:List Int):Int:=a.e.getD (dR a.I at_).toNat 0
def nth(l:List ay)(i:Nat):ay:=l.getD i ⟨[],[]⟩
def cG(l:List (Int × Int))(o:List Int):List Int:=l.foldl (λo p=>o.set p.1.toNat p.2) o
def ck(i:Nat)(a v a2 v2:List Int):List Int:=cG (a2.zip v2) (cG (a.zip v) (List.replicate i 0))
def all(d:List Int):List (List Int):=if (size d).1=0 then[]else(List.range (prod d).toNat).map λ(p:Nat)=>idx d (p:Int)
def da(l:List Int):Int:=l.foldl (λs x=>ef (s+x)) 0
def jd(op:Op)(a b:ay)(t:List Int):Int :=
 let m:=op.a++op.l
 let q:=op.s++op.h
 let xb:=J.free a.I m
 let g':=J.free b.I q
 let p:=t.take op.l.length
 let i:=(t.drop op.l.length).take xb.length
 let j:=t.drop (op.l.length+xb.length)
 da ((all (J.aq a.I op.a)).map λk=>ef (get a (ck a.I.length m (k++p) xb i)*get b (ck b.I.length q (k++p) g' j)))
def rh(op:Op)(d t:List Int):Bool:=(List.range t.length).all λk=>decide (0<=t.getD k 0-op.l.getD k 0) && decide ((t.getD k 0-op.l.getD k 0) % op.s.getD k 0=0) && decide ((t.getD k 0-op.l.getD k 0) / op.s.getD k 0<d.getD k 0)
def dI(op:Op)(t:List Int):List Int:=(List.range t.length).map λk=>(t.getD k 0-op.l.getD k 0) / op.s.getD k 0
def hf(op:Op)(a:ay)(t:List Int):Int:=if rh op a.I t then get a (dI op t)else 0
def cU(k:Nat)(t:List Int):List ay->Int->Int
 | [],_=>0
 | a::r,n=>if n<a.I.getD k 0 then get a (t.set k n)else cU k t r (n-a.I.getD k 0)
def h5(op:Op)(args:List ay)(t:List Int):Int:=cU (op.a.getD 0 0).toNat t args (t.getD (op.a.getD 0 0).toNat 0)
def mX(y i:ay)(t:List Int):Int:=da (((all i.I).filter λk=>decide (get i k=t.getD 0 0)).map λk=>get y (k++t.drop 1))
def cF(op:Op)(d t:List Int):List Int :=
 if op.k=9 then op.a.map λk=>t.getD k.toNat 0
 else if op.k=11 then cG (op.a.zip t) (List.replicate d.length 0)
 else if op.k=13 then(List.range t.length).map λk=>op.l.getD k 0+t.getD k 0*op.s.getD k 0
 else(List.range t.length).map λ(k:Nat)=>if (k:Int)∈op.a then d.getD k 0-1-t.getD k 0 else t.getD k 0
def nL(a i:ay)(t:List Int):Int :=
 let row:=get i (t.take i.I.length)
 if row<0\/a.I.getD 0 0<=row then 0 else get a (row::t.drop i.I.length)
def entry(op:Op)(args:List ay)(t:List Int)(n:Nat):Int :=
 let x:=λi=>(nth args i).e.getD n 0
 if op.k=2 then op.v
 else if op.k=3 then ef (x 0+x 1)
 else if op.k=4 then ef (x 0-x 1)
 else if op.k=5 then ef (x 0*x 1)
 else if op.k=6 then if x 0<x 1 then x 1 else x 0
 else if op.k=7 then if x 0<x 1 then 1 else 0
 else if op.k=8 then if x 0≠0 then x 1 else x 2
 else if op.k=10 then da ((all (J.aq (nth args 0).I op.a)).map λk=>get (nth args 0) (ck (nth args 0).I.length op.a k (J.free (nth args 0).I op.a) t))
 else if op.k=12 then x 0
 else if op.k=14 then hf op (nth args 0) t
 else if op.k=16 then jd op (nth args 0) (nth args 1) t
 else if op.k=17 then h5 op args t
 else if op.k=18 then nL (nth args 0) (nth args 1) t
 else if op.k=19 then mX (nth args 0) (nth args 1) t
 else get (nth args 0) (cF op (nth args 0).I t)
def aX(op:Op)(args:List ay):ay :=
 let d:=(J.I op (args.map (·.I))).1
 ⟨d,(List.range (size d).1.toNat).map λ(p:Nat)=>entry op args (idx d (p:Int)) p⟩
def iH(a:ay):Prop:=∀x∈a.e,x=0
theorem lS{a:ay}(h:iH a)(i:Nat):a.e.getD i 0=0:=by
 rw[qU];cases hi:a.e[i]? with
 | none=>rfl
 | some x=>exact h x (jM hi)
theorem gg{a:ay}(h:iH a)(t:List Int):get a t=0:=lS h _
theorem CG{l:List ay}(h:∀a∈l,iH a)(i:Nat):iH (nth l i):=by
 unfold nth;rw[qU];cases hi:l[i]? with
 | none=>exact λx j=>by simp at j
 | some a=>exact h a (jM hi)
theorem nf:ef 0=0:=by decide
theorem lp:∀{l:List Int},(∀x∈l,x=0)->da l=0:=by
 intro l h;unfold da
 induction l with
 | nil=>rfl
 | cons x l j =>
  rw[vM,h x zL,kU,nf];exact j (λy i=>h y (zH _ i))
theorem hA(d:List Int):iH (a6 d):=λx i=>(List.mem_replicate.1 i).2
theorem rR{k:Nat}{t:List Int} : ∀{l:List ay} {n:Int},(∀a∈l,iH a)->cU k t l n=0
 | [],_,_=>rfl
 | a::r,n,h=>by
  unfold cU;split
  .exact gg (h a zL) _
  exact rR (λb i=>h b (zH _ i))
theorem vl{op:Op}{args:List ay}(k:op.k=10)(t:List Int)(n:Nat):entry op args t n=da ((all (J.aq (nth args 0).I op.a)).map λk=>get (nth args 0) (ck (nth args 0).I.length op.a k (J.free (nth args 0).I op.a) t)):=by unfold entry;rw[k];rfl
theorem yr{op:Op}{args:List ay}(k:op.k=12)(t:List Int)(n:Nat):entry op args t n=(nth args 0).e.getD n 0:=by unfold entry;rw[k];rfl
theorem vj{op:Op}{args:List ay}(k:op.k=14)(t:List Int)(n:Nat):entry op args t n=hf op (nth args 0) t:=by unfold entry;rw[k];rfl
theorem p2{op:Op}{args:List ay}(k:op.k=16)(t:List Int)(n:Nat):entry op args t n=jd op (nth args 0) (nth args 1) t:=by unfold entry;rw[k];rfl
theorem tg{op:Op}{args:List ay}(k:op.k=17)(t:List Int)(n:Nat):entry op args t n=h5 op args t:=by unfold entry;rw[k];rfl
theorem tj{op:Op}{args:List ay}(k:op.k=18)(t:List Int)(n:Nat):entry op args t n=nL (nth args 0) (nth args 1) t:=by unfold entry;rw[k];rfl
theorem vk{op:Op}{args:List ay}(k:op.k=19)(t:List Int)(n:Nat):entry op args t n=mX (nth args 0) (nth args 1) t:=by unfold entry;rw[k];rfl
theorem vi{op:Op}{args:List ay}(k:op.k=5)(t:List Int)(n:Nat):entry op args t n=ef ((nth args 0).e.getD n 0*(nth args 1).e.getD n 0):=by unfold entry;rw[k];rfl
theorem j9{op:Op}{args:List ay}(k:op.k=9\/op.k=11\/op.k=13\/op.k=15)(t:List Int)(n:Nat):entry op args t n=get (nth args 0) (cF op (nth args 0).I t):=by
 unfold entry;rcases k with k | k | k | k<;>(rw[k];rfl)
theorem _root_.Xo{G:Prop}(h:G:=by
 rw[j9 (by omega)];exact gg eR _
 ):G:=h
theorem sj{op:Op}{args:List ay}(i:op.k=9\/op.k=10\/op.k=11\/op.k=12\/op.k=13\/op.k=14\/op.k=15\/op.k=17)(h:∀a∈args,iH a)(t:List Int)(n:Nat):entry op args t n=0:=by
 have eR:=CG h 0;rcases i with k | k | k | k | k | k | k | k
 .exact Xo
 .rw[vl k];refine lp (λx j=>?_);obtain⟨q,_,rfl⟩:=List.mem_map.1 j;exact gg eR _
 .exact Xo
 .rw[yr k];exact lS eR _
 .exact Xo
 .rw[vj k];unfold hf;split
  .exact gg eR _
  rfl
 .exact Xo
 rw[tg k];exact rR h
theorem tZ{op:Op}{a b:ay}(i:op.k=5\/op.k=16)(h:iH a)(t:List Int)(n:Nat):entry op [a,b] t n=0:=by
 rcases i with k | k
 .rw[vi k];show ef (a.e.getD n 0*b.e.getD n 0)=0;rw[lS h,pY,nf]
 rw[p2 k];refine lp (λx j=>?_);obtain⟨q,_,rfl⟩:=List.mem_map.1 j;rw[gg (a:=nth [a,b] 0) h,pY,nf]
theorem th{op:Op}{a b:ay}(i:op.k=5\/op.k=16)(h:iH b)(t:List Int)(n:Nat):entry op [a,b] t n=0:=by
 rcases i with k | k
 .rw[vi k];show ef (a.e.getD n 0*b.e.getD n 0)=0;rw[lS h,pV,nf]
 rw[p2 k];refine lp (λx j=>?_);obtain⟨q,_,rfl⟩:=List.mem_map.1 j;rw[gg (a:=nth [a,b] 1) h,pV,nf]
theorem Cm{op:Op}{a b:ay}(i:op.k=18\/op.k=19)(h:iH a)(t:List Int)(n:Nat):entry op [a,b] t n=0:=by
 rcases i with k | k
 .rw[tj k];unfold nL;dsimp only;split
  .rfl
  exact gg (a:=nth [a,b] 0) h _
 rw[vk k];refine lp (λx j=>?_);obtain⟨q,_,rfl⟩:=List.mem_map.1 j;exact gg (a:=nth [a,b] 0) h _
end ad
end
section
namespace J
open R (size)
end J
end
