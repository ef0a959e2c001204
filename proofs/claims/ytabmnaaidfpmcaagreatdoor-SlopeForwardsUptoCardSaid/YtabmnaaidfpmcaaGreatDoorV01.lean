/-
  Held, Held3, Mem, Flow, ViewPlain, ViewPlain2, ViewPlain3, ViewPlain4. Conditions: where the theorems name them.
-/
import Derived.Test.YtabmnaaidfpmcaaGreatDoorV00
import Derived.OrdersHeld
import Derived.StillTail
import Derived.Deep.RegionHeld
import Derived.WalkKit
import Derived.WalkSpells
import Derived.WalkLawsBesides
import Derived.Lib.Hide
import Derived.Deep.Draws
import Derived.Below
set_option linter.unusedVariables false
set_option maxRecDepth 100000
set_option maxHeartbeats 16000000
variable {a:Go.Act}{cs zi:Array Go.Value}{l m p:List Int}{ds iO:List Nat}{d fuel g h i id j k n t:Nat}{eD:Go.Oper}{b c e:Prop}{v x y:Go.Value}{w w':Go.World}
section
section
open Go Go.RowKit
abbrev jI := @World.drewN_drewN
abbrev jW := @Addr.add_lit
abbrev kC := @Result.andThen_ok
abbrev kD := @Addr.mk.injEq
abbrev kJ := @heap_alloc_new
abbrev kO := @Region.noSelect_spec
abbrev kP := @wpList_append_own
abbrev kW := @World.cell?_alloc_lt
abbrev pF := @Oper.upon_value
abbrev pG := @DataW.trod_int
abbrev pH := @callsIn_of_wp
abbrev pJ := @Below.drew
abbrev pP := @wpList_lookup_own_ok_int
abbrev pX := @DataW.trod_struct
abbrev pZ := @run_append_own_at
abbrev qA := @IntWalk.i64_in
abbrev qK := @Below.refl
abbrev qN := @Below.heap_setCell
abbrev qQ := @Lib.hid
abbrev qR := @bodyPost_ret
abbrev uD := @IntWalk.wrap64_in
abbrev uG := @World.frozen?_of_block
abbrev uK := @Sem.run_bind
abbrev uM := @Lib.cell_of_heap
abbrev vH := @World.ownsRow_nil
abbrev vQ := @getD_set_ne
abbrev wB := @size_madeCells
abbrev wD := @Below.trans
abbrev wG := @Below.alloc
abbrev wV := @wpList_append_own_at
abbrev xE := @World.cell?_of_block
abbrev xO := @Value.slice.injEq
abbrev xQ := @info_parts
abbrev yC := @Value.agg.injEq
abbrev yF := @World.ownsRow_lit
abbrev yH := @Sem.run_pure
abbrev yJ := @Below.heap_alloc
abbrev yN := @Region.free_spec
abbrev yO := @Oper.semAt_some
abbrev zV := @below_drewN
end
namespace aS
open Go
variable {P:Program} {ops:Array Oper} {Q:Exit->Act->World->Prop} {md:Region.Mode} {S bm:World->Prop} {t0 t1:Nat}
def gp(S:World->Prop)(t0:Nat)(bm:World->Prop)(t1:Nat)(l:Array Bool)(w:World):Prop:=(l.getD t0 true=false->S w)/\(l.getD t1 true=false->bm w)
theorem gp.same(j:i≠t0)(m:i≠t1){l:Array Bool} : gp S t0 bm t1 (l.setIfInBounds i true) w↔gp S t0 bm t1 l w:=by
 unfold gp;rw[vQ true j,vQ true m]
def Fw(P:Program)(md:Region.Mode)(ops:Array Oper)(Q:Exit->Act->World->Prop)(D:Array Bool->World->Prop):Nat->Array Bool->Act->World->Prop
 | 0,listed,a,w=>Region.ready md ops listed=[]/\Q .normal a w
 | fuel+1,listed,a,w =>
  (Region.ready md ops listed=[]->Q .normal a w) /\
  ∀i∈Region.ready md ops listed,wpOp P ops Q i (λa' w'=>D (listed.setIfInBounds i true) w'/\Fw P md ops Q D fuel (listed.setIfInBounds i true) a' w') a w
def eP(P:Program)(md:Region.Mode)(ops:Array Oper)(Q:Exit->Act->World->Prop)(S:World->Prop)(t0:Nat)(bm:World->Prop)(t1:Nat):Nat->Array Bool->Act->World->Prop :=
 Fw P md ops Q (gp S t0 bm t1)
theorem tR{D:Array Bool->World->Prop} : ∀(fuel:Nat) (listed:Array Bool) (a:Act) (w:World),Fw P md ops Q D fuel listed a w->wpAny P md ops Q fuel listed a w
 | 0,_,_,_,h=>h
 | fuel+1,_,_,_,h=>⟨h.1,λi hi=>wpOp_mono (λa' w' j=>tR fuel _ a' w' j.2) (h.2 i hi)⟩
theorem nO{listed:Array Bool}(hw:Region.waitsFor md ops t i=true)(hi:listed.getD i true=false)(B:t∈Region.ready md ops listed):False:=by
 obtain⟨D,x,e,he,q,r⟩:=Region.waitsFor_spec hw;obtain⟨_,E,y,m⟩:=mem_ready.1 B;have:E=D:=uL (y.symm.trans x);subst this;have j:=m e he q;rw[r,getD_both hi]at j;cases j
theorem lY{D:Array Bool->World->Prop}{X:World->Prop}{G:Array Bool->Prop}(hi:ops[i]?=some eD)(ag:∀(j:Nat) (o:Oper) cs b,ops[j]?=some o->o.op≠.select cs b)(ap:∀c a w,Q (.panic c) (a.put eD.dst v) w->Q (.panic c) a w)(O:∀l w,D (l.setIfInBounds i true) w↔D l w)(ao:∀l j,G l->l.getD i true=false->j∈Region.ready md ops l->j≠i->G (l.setIfInBounds j true))(V:∀l w,G l->D l w->X w):∀(fuel:Nat) (listed:Array Bool) (a:Act) (w:World),(∀j r,ops[j]?=some r->j≠i->listed.getD j true=false->(∀e∈r.after,Region.binds md e=true->e.on≠i)->eD.apart ops r=true)->i∈Region.ready md ops listed->G listed->YieldsIf P ops X eD v a->D listed w->Fw P md ops Q D fuel (listed.setIfInBounds i true) (a.put eD.dst v) w->Fw P md ops Q D (fuel+1) listed a w:=by
 intro fuel
 induction fuel with
 | zero =>
  intro listed a w _ q E I x H;refine⟨λh=>(by rw[h]at q;cases q),λj y=>?_⟩;by_cases m:j=i
  .subst m;exact I.wpOp hi (V _ _ E x) ⟨(O _ _).2 x,H⟩
  have:=ready_mono y m;rw[H.1]at this;cases this
 | succ fuel aF =>
  intro listed a w W q E I x H;refine⟨λh=>(by rw[h]at q;cases q),λj y=>?_⟩;by_cases m:j=i
  .subst m;exact I.wpOp hi (V _ _ E x) ⟨(O _ _).2 x,H⟩
  have S:=(mem_ready.1 q).1;have B:=H.2 j (ready_mono y m);obtain⟨Z,r,N,aq⟩:=mem_ready.1 y;have aE:∀e∈r.after,Region.binds md e=true->e.on≠i:=λe he av heq=>by
   have B:=aq e he av;rw[heq,getD_both S]at B;cases B
  have ak:=wpOp_putIf N (W j r N m Z aE) (λcs b=>ag i eD cs b hi) (λcs b=>ag j r cs b N) ap I B;have az:∀k ok,ops[k]?=some ok->k≠i->(listed.setIfInBounds j true).getD k true=false ->
      (∀e∈ok.after,Region.binds md e=true->e.on≠i)->eD.apart ops ok=true:=λk ok aB aC ah aD=>by
   refine W k ok aB aC ?_ aD;by_cases Y:j=k
   .subst Y;exact Z
   rw[vQ true Y]at ah;exact ah
  have aA:=ao listed j E S y m;refine wpOp_mono (λa' w' M=>?_) ak;have U:D (listed.setIfInBounds j true) w':=(O _ _).1 (by rw[uQ _ _ m];exact M.2.1);refine⟨U,aF (listed.setIfInBounds j true) a' w' az (ready_mono q (zK m)) aA M.1 U ?_⟩;rw[uQ _ _ m];exact M.2.2
def kk(md:Region.Mode)(ops:Array Oper)(t0 t1 i:Nat)(listed:Array Bool):Bool :=
 Region.noSelect ops && Region.free md ops listed i && (Region.ready md ops listed).contains i && decide (i≠t0) && decide (i≠t1)
theorem kl{listed:Array Bool}(h:kk md ops t0 t1 i listed=true):Region.noSelect ops=true/\Region.free md ops listed i=true/\(Region.ready md ops listed).contains i=true/\i≠t0/\i≠t1:=by
 simp only[kk,qB,qO]at h;exact⟨h.1.1.1.1,h.1.1.1.2,h.1.1.2,h.1.2,h.2⟩
theorem oB(hw:Region.waitsFor md ops t i=true)(l:Array Bool)(j:Nat)(q:l.getD t true=false)(m:l.getD i true=false)(r:j∈Region.ready md ops l)(_:j≠i):(l.setIfInBounds j true).getD t true=false:=by
 have x:j≠t:=λe=>by subst e;exact nO hw m r
 rw[vQ true x];exact q
theorem L5(i d:Nat){listed:Array Bool}(E:S w)(D:bm w)(hi:ops[i]?=some eD)(ar:eD.dst=some d)(az:(kk md ops t0 t1 i listed && Region.waitsFor md ops t0 i && !listed.getD t0 true)=true)(j:∀c a w,Q (.panic c) (a.put (some d) v) w->Q (.panic c) a w)(I:eD.guard=none)(N:∀w,S w->(execOp a.eval eD).run P w=.ok (.value v) w)(h:eP P md ops Q S t0 bm t1 fuel (listed.setIfInBounds i true) (a.put (some d) v) w):eP P md ops Q S t0 bm t1 (fuel+1) listed a w:=by
 rw[<-ar]at j h;simp only[qB,uP]at az;obtain⟨⟨r,x⟩,y⟩:=az;obtain⟨m,q,bA,cq,eC⟩:=kl r;exact lY (X:=S) (G:=λl=>l.getD t0 true=false) hi (kO m) j (λl w=>gp.same cq eC) (oB x) (λl w M B=>B.1 M) fuel listed a w (yN hi q) (by simpa using bA) y (.inl ⟨by simp[Region.wanted,I],N⟩) ⟨λ_=>E,λ_=>D⟩ h
theorem nP(i d:Nat){listed:Array Bool}(j:gp S t0 bm t1 listed w)(hi:ops[i]?=some eD)(ar:eD.dst=some d)(az:(kk md ops t0 t1 i listed && Region.waitsFor md ops t1 i && !listed.getD t1 true)=true)(m:∀c a w,Q (.panic c) (a.put (some d) v) w->Q (.panic c) a w)(D:eD.guard=none)(I:∀w,bm w->(execOp a.eval eD).run P w=.ok (.value v) w)(h:eP P md ops Q S t0 bm t1 fuel (listed.setIfInBounds i true) (a.put (some d) v) w):eP P md ops Q S t0 bm t1 (fuel+1) listed a w:=by
 rw[<-ar]at m h;simp only[qB,uP]at az;obtain⟨⟨x,y⟩,B⟩:=az;obtain⟨q,r,bA,cq,eC⟩:=kl x;exact lY (X:=bm) (G:=λl=>l.getD t1 true=false) hi (kO q) m (λl w=>gp.same cq eC) (oB y) (λl w E j=>j.2 E) fuel listed a w (yN hi r) (by simpa using bA) B (.inl ⟨by simp[Region.wanted,D],I⟩) j h
theorem w4(i d:Nat){listed:Array Bool}(r:gp S t0 bm t1 listed w)(hi:ops[i]?=some eD)(ar:eD.dst=some d)(az:kk md ops t0 t1 i listed=true)(j:∀c a w,Q (.panic c) (a.put (some d) v) w->Q (.panic c) a w)(x:eD.guard=none)(y:∀w,(execOp a.eval eD).run P w=.ok (.value v) w)(h:eP P md ops Q S t0 bm t1 fuel (listed.setIfInBounds i true) (a.put (some d) v) w):eP P md ops Q S t0 bm t1 (fuel+1) listed a w:=by
 rw[<-ar]at j h;obtain⟨m,q,bA,cq,eC⟩:=kl az;exact lY (X:=λ_=>True) (G:=λ_=>True) hi (kO m) j (λl w=>gp.same cq eC) (λ_ _ _ _ _ _=>trivial) (λ_ _ _ _=>trivial) fuel listed a w (yN hi q) (by simpa using bA) trivial (.inl ⟨by simp[Region.wanted,x],λw _=>y w⟩) r h
def iU(P:Program)(md:Region.Mode)(ops:Array Oper)(Q:Exit->Act->World->Prop)(S:World->Prop)(t0:Nat)(bm:World->Prop)(t1 fuel:Nat)(listed:Array Bool)(a:Act)(w:World)(i:Nat):Prop :=
 wpOp P ops Q i (λa' w'=>gp S t0 bm t1 (listed.setIfInBounds i true) w'/\eP P md ops Q S t0 bm t1 fuel (listed.setIfInBounds i true) a' w') a w
theorem stepT{listed:Array Bool}{o:Oper}(r:ops[i]?=some o)(q:o.guard=none)(h:∀K:Act->World->Prop,Shut (∀a w,gp S t0 bm t1 (listed.setIfInBounds i true) w->eP P md ops Q S t0 bm t1 fuel (listed.setIfInBounds i true) a w->K a w)->Oper.wp P o a w K Q):iU P md ops Q S t0 bm t1 fuel listed a w i:=by
 unfold iU wpOp;rw[r];have hw:Region.wanted o (yielded ops a.tmps)=true:=by simp[Region.wanted,q]
 simp only[hw,if_true];exact .inl (h _ (λa w j m=>⟨j,m⟩))
theorem bB{listed:Array Bool}{o:Oper}(x:ops[i]?=some o)(r:o.guard=none)(h:∀K:Act->World->Prop,Shut (∀a w,S w/\bm w->(S w/\bm w->eP P md ops Q S t0 bm t1 fuel (listed.setIfInBounds i true) a w)->K a w)->Oper.wp P o a w K Q):iU P md ops Q S t0 bm t1 fuel listed a w i :=
 stepT x r λK m=>h K λa w j q=>m a w ⟨λ_=>j.1,λ_=>j.2⟩ (q j)
theorem dq{listed:Array Bool}{o:Oper}(y:ops[i]?=some o)(r:o.guard=none)(x:(listed.setIfInBounds i true).getD t0 true=true)(h:∀K:Act->World->Prop,Shut (∀a w,bm w->(bm w->eP P md ops Q S t0 bm t1 fuel (listed.setIfInBounds i true) a w)->K a w)->Oper.wp P o a w K Q):iU P md ops Q S t0 bm t1 fuel listed a w i :=
 stepT y r λK m=>h K λa w j q=>m a w ⟨λh=>(by rw[x]at h;cases h),λ_=>j⟩ (q j)
theorem gp.late{listed:Array Bool}(i:listed.getD t0 true=true)(h:bm w):gp S t0 bm t1 listed w:=⟨λh=>(by rw[i]at h;cases h),λ_=>h⟩
theorem eh(i:Nat){listed:Array Bool}(r:Region.ready md ops listed=[i])(h:iU P md ops Q S t0 bm t1 fuel listed a w i):eP P md ops Q S t0 bm t1 (fuel+1) listed a w:=by
 refine⟨λm=>(by rw[r]at m;cases m),λj q=>?_⟩;rw[r]at q;obtain rfl:j=i:=by simpa using q
 exact h
theorem gM(i j:Nat){listed:Array Bool}(r:Region.ready md ops listed=[i,j])(hi:iU P md ops Q S t0 bm t1 fuel listed a w i)(x:iU P md ops Q S t0 bm t1 fuel listed a w j):eP P md ops Q S t0 bm t1 (fuel+1) listed a w:=by
 refine⟨λm=>(by rw[r]at m;cases m),λk q=>?_⟩;rw[r]at q;have y:k=i\/k=j:=by simpa using q
 rcases y with rfl | rfl
 .exact hi
 exact x
def ql(md:Region.Mode)(ops:Array Oper):List Nat->Array Bool->Bool
 | [],listed=>(Region.ready md ops listed).isEmpty
 | t::ts,listed=>decide (Region.ready md ops listed=[t]) && ql md ops ts (listed.setIfInBounds t true)
theorem E_{t0:Nat}{listed:Array Bool}(h:listed.getD t0 true=true)(t:Nat):(listed.setIfInBounds t true).getD t0 true=true:=by
 by_cases e:t=t0
 .subst e;rcases jQ t listed.size with i | i
  .simp[i]
  simp
 rw[vQ true e];exact h
theorem gp.over{listed:Array Bool}(i:listed.getD t0 true=true)(j:listed.getD t1 true=true):gp S t0 bm t1 listed w:=⟨λh=>(by rw[i]at h;cases h),λh=>(by rw[j]at h;cases h)⟩
theorem o3:∀(ts:List Nat) (l:List Oper) (fuel:Nat) (listed:Array Bool) (a:Act) (w:World),ts.map (λt=>ops[t]?)=l.map some->ts.length<=fuel->ql md ops ts listed=true->(∀t,ts.head?=some t->(listed.setIfInBounds t true).getD t0 true=true/\(listed.setIfInBounds t true).getD t1 true=true)->wpList P ops Q l a w->eP P md ops Q S t0 bm t1 fuel listed a w
 | [],l,fuel,listed,a,w,i,_,ah,_,h=>by
  obtain rfl:l=[]:=by cases l with | nil=>rfl | cons _ _=>simp at i
  have x:Region.ready md ops listed=[]:=by simpa[ql]using ah
  cases fuel with
  | zero=>exact⟨x,h⟩
  | succ f=>exact⟨λ_=>h,by rw[x];simp⟩
 | t::ts,l,fuel,listed,a,w,i,q,ah,B,h=>by
  cases l with
  | nil=>simp at i
  | cons o l =>
   simp only[qE,zT]at i;simp only[ql,qB,qO]at ah;cases fuel with
   | zero=>simp at q
   | succ f =>
    refine⟨λm=>(by rw[ah.1]at m;cases m),λj r=>?_⟩;rw[ah.1]at r;obtain rfl:j=t:=by simpa using r
    obtain⟨c_,s1⟩:=B j rfl;have hw:wpOp P ops Q j (wpList P ops Q l) a w:=by unfold wpOp;rw[i.1];exact h
    exact wpOp_mono (λa' w' y=>⟨gp.over c_ s1,o3 ts l f _ a' w' i.2 (by simpa using q) ah.2 (λu _=>⟨E_ c_ u,E_ s1 u⟩) y⟩) hw
theorem G9(l:List Oper)(t:Nat)(ts:List Nat){listed:Array Bool}(q:(t::ts).map (λt=>ops[t]?)=l.map some)(ah:(decide ((t::ts).length<=fuel) && ql md ops (t::ts) listed && (listed.setIfInBounds t true).getD t0 true && (listed.setIfInBounds t true).getD t1 true)=true)(h:wpList P ops Q l a w):eP P md ops Q S t0 bm t1 fuel listed a w:=by
 simp only[qB,qO]at ah;obtain⟨⟨⟨m,ah⟩,i⟩,j⟩:=ah;exact o3 (t::ts) l fuel listed a w q m ah (λu hu=>by cases hu;exact⟨i,j⟩) h
theorem iT(S:World->Prop)(t0:Nat)(bm:World->Prop)(t1 n:Nat)(m:ops.size=n)(hm:P.follows .mixedOrders=true)(j:S w.drew/\bm w.drew)(h:S w.drew/\bm w.drew->eP P .any ops Q S t0 bm t1 n (List.replicate n false).toArray a w.drew):(Code.region id ops true).wp P Q a w:=by
 subst m;refine wp_region_any hm (tR (D:=gp S t0 bm t1) _ _ _ _ ?_);have i:=h j;rw[List.toArray_replicate]at i;exact i
end aS
end
section
namespace aS
open Go
variable {P:Program} {ops:Array Oper} {Q:Exit->Act->World->Prop} {md:Region.Mode} {S bm:World->Prop} {t0 t1:Nat}
theorem w5(i j k:Nat){listed:Array Bool}(r:Region.ready md ops listed=[i,j,k])(hi:iU P md ops Q S t0 bm t1 fuel listed a w i)(x:iU P md ops Q S t0 bm t1 fuel listed a w j)(y:iU P md ops Q S t0 bm t1 fuel listed a w k):eP P md ops Q S t0 bm t1 (fuel+1) listed a w:=by
 refine⟨λq=>(by rw[r]at q;cases q),λm hm=>?_⟩;rw[r]at hm;have B:m=i\/m=j\/m=k:=by simpa using hm
 rcases B with rfl | rfl | rfl
 .exact hi
 .exact x
 exact y
def chainB(md:Region.Mode)(ops:Array Oper)(listed:Array Bool):Nat->List Nat->Bool
 | _,[]=>true
 | i,m::ms=>Region.waitsFor md ops m i && !listed.getD m true && chainB md ops listed m ms
theorem rH:∀(ms:List Nat) (i:Nat) (l:Array Bool),(∀k (p m:Nat),(i::ms)[k]?=some p->(i::ms)[k+1]?=some m->Region.waitsFor md ops m p=true)->l.getD i true=false->(∀m∈ms,l.getD m true=false)->∀j∈Region.ready md ops l,j∉ms
 | [],_,_,_,_,_,_,_,h=>by cases h
 | m::ms,i,l,hw,hi,hm,j,r,B=>by
  rcases List.mem_cons.1 B with rfl | h
  .exact nO (hw 0 i j rfl rfl) hi r
  exact rH ms m l (λk p q x y=>hw (k+1) p q x y) (hm m (zL ..)) (λq hq=>hm q (zH _ hq)) j r h
theorem rG:∀(ms:List Nat) (i:Nat) {l:Array Bool},chainB md ops l i ms=true->(∀k (p m:Nat),(i::ms)[k]?=some p->(i::ms)[k+1]?=some m->Region.waitsFor md ops m p=true)/\∀m∈ms,l.getD m true=false
 | [],i,l,_=>⟨λk p m y x=>by simp at x,λm h=>by cases h⟩
 | m::ms,i,l,h=>by
  simp only[chainB,qB,uP]at h;obtain⟨⟨y,x⟩,B⟩:=h;obtain⟨g1,g2⟩:=rG ms m B;refine⟨λk p q j r=>?_,λq hq=>?_⟩
  .cases k with
   | zero=>simp at j r;subst j r;exact y
   | succ k=>exact g1 k p q j r
  rcases List.mem_cons.1 hq with rfl | hq
  .exact x
  exact g2 q hq
theorem w3(ms:List Nat)(i d:Nat){listed:Array Bool}(N:S w)(M:bm w)(hi:ops[i]?=some eD)(ar:eD.dst=some d)(az:(kk md ops t0 t1 i listed && chainB md ops listed i (ms++[t0]))=true)(q:∀c a w,Q (.panic c) (a.put (some d) v) w->Q (.panic c) a w)(W:YieldsIf P ops S eD v a)(h:eP P md ops Q S t0 bm t1 fuel (listed.setIfInBounds i true) (a.put (some d) v) w):eP P md ops Q S t0 bm t1 (fuel+1) listed a w:=by
 rw[<-ar]at q h;simp only[qB]at az;obtain⟨D,E⟩:=az;obtain⟨x,y,bA,cq,eC⟩:=kl D;obtain⟨aO,bz⟩:=rG _ _ E;refine lY (X:=S) (G:=λl=>∀m∈ms++[t0],l.getD m true=false) hi (kO x) q (λl w=>gp.same cq eC) ?_ (λl w V I=>I.1 (V t0 (by simp))) fuel listed a w (yN hi y) (by simpa using bA) bz W ⟨λ_=>N,λ_=>M⟩ h;intro l j r B O Y m hm;have U:j≠m:=λe=>rH _ i l aO B r j O (by rw[e];exact hm)
 rw[vQ true U];exact r m hm
theorem Dm{o:Oper}(h:Region.wanted o (yielded ops a.tmps)=false):YieldsIf P ops S o undef a:=.inr ⟨h,rfl⟩
theorem Dn{o:Oper}(h:Region.wanted o (yielded ops a.tmps)=true)(i:∀w,S w->(execOp a.eval o).run P w=.ok (.value v) w):YieldsIf P ops S o v a:=.inl ⟨h,i⟩
end aS
end
section
namespace aS
open Go Go.RowKit
theorem oW{a b:Bool}(h:a=b):Ending.returned (.bool a)=.returned (.bool b):=by rw[h]
def av(w:World)(g:Nat)(t:TypeId)(cs:Array Value):Prop:=w.heap[g]?=some (.cells cs t (0,0))
section
variable {w w':World} {g:Nat} {t:TypeId} {cs:Array Value}
theorem av.lt(h:av w g t cs):g<w.heap.size:=by
 rcases jQ g w.heap.size with j | i
 .exact j
 unfold av at h;rw[kH i]at h;cases h
theorem av.cell(h:av w g t cs)(i:Nat):w.cell? ⟨g,i,none⟩=cs[i]?:=cell_of_row w g i cs t (0,0) h
theorem av.at(h:av w g t cs)(j:cs[i]?=some v):w.cell? ⟨g,i,none⟩=some v:=(h.cell i).trans j
theorem av.frozen(h:av w g t cs)(i:Nat):w.frozen? ⟨g,i,none⟩=false:=by
 unfold av at h;simp[World.frozen?,h]
theorem av.new(w:World)(t:TypeId)(cs:Array Value):av (w.alloc (.cells cs t)) w.heap.size t cs:=kJ w _
theorem av.drew(h:av w g t cs):av w.drew g t cs:=h
theorem av.drewN(h:av w g t cs)(n:Nat):av (w.drewN n) g t cs:=h
theorem av.alloc(h:av w g t cs)(o:Obj):av (w.alloc o) g t cs:=(yJ w o g h.lt).trans h
theorem av.bs(h:av w g t cs)(i:Nat)(u:Value):av (w.setCell ⟨g,i,none⟩ u) g t (cs.setIfInBounds i u):=by
 unfold av at h |-;simp[World.setCell,Array.getElem?_modify,h]
theorem av.cR(h:av w g t cs){p:Addr}(hp:g≠p.block)(u:Value):av (w.setCell p u) g t cs:=(qN w p u g hp).trans h
theorem av.below{B:Nat}(h:av w g t cs)(i:Below B w w')(j:g<B):av w' g t cs:=(i.block g j).trans h
theorem av.grown{row:Option Nat}(h:av w g t cs)(i:w.grownBy w' row)(j:some g≠row):av w' g t cs:=(i.block g h.lt j).trans h
end
def ints(l:List Int):List Value:=l.map (.int .i64)
theorem ints_at(l:List Int)(j:Nat)(h:j<l.length):(ints l)[j]?=some (.int .i64 l[j]):=by unfold ints;simp[h]
theorem cn(l:List Int):(ints l).length=l.length:=by unfold ints;simp
theorem ints_set(l:List Int)(j:Nat)(x:Int):(ints l).toArray.setIfInBounds j (.int .i64 x)=(ints (l.set j x)).toArray:=by
 unfold ints;simp
theorem one_one(k:IntKind)(x:Int):∀u∈[Value.int k x],u.oneCell'=true:=by
 intro u hu;rw[List.mem_singleton.1 hu];rfl
end aS
end
section
namespace aS
open Go Go.RowKit
variable {P:Program} {ops:Array Oper} {Q:Exit->Act->World->Prop} {md:Region.Mode} {S bm:World->Prop} {t0 t1:Nat}
structure c8 where
 post:Value->World->Prop
 c9:∀{v w w'},Below w.heap.size w w'->post v w->post v w'
def gD(md:Region.Mode)(ops:Array Oper)(t:Nat):List Nat:=((ops[t]?).map λo=>(o.after.toList.filter λe=>Region.binds md e).map (·.on)).getD []
def tX(md:Region.Mode)(ops:Array Oper)(t:Nat):List Nat:=(List.range t).reverse.foldl (λs i=>if s.contains i then s++gD md ops i else s) (gD md ops t)
def bx(a:Act):List Nat->List Value->Act
 | d::ds,x::xs=>bx (a.put (some d) x) ds xs
 | _,_=>a
def cS:Nat->(List Value->Prop)->Prop
 | 0,p=>p []
 | n+1,p=>∀x,cS n λl=>p (x::l)
theorem cS.get:∀{n:Nat} {p:List Value->Prop},cS n p->∀l:List Value,l.length=n->p l
 | 0,p,h,l,i=>by
  obtain rfl:l=[]:=xL i;exact h
 | n+1,p,h,x::l,i=>cS.get (h x) l (by simpa using i)
def BZ:c8:=⟨λ_ _=>True,λ_ _=>trivial⟩
def dd(sp:List c8)(xs:List Value)(w:World):List Nat->Prop->Prop
 | [],g=>g
 | j::r,g=>(sp.getD j BZ).post (xs.getD j undef) w->dd sp xs w r g
theorem dd.get{sp:List c8}{xs:List Value}{w:World} : ∀{l:List Nat} {g:Prop},dd sp xs w l g->(∀j∈l,(sp.getD j BZ).post (xs.getD j undef) w)->g
 | [],_,h,_=>h
 | j::r,_,h,i=>dd.get (h (i j zL)) (λk m=>i k (zH _ m))
def gZ(P:Program)(ops:Array Oper)(Q:Exit->Act->World->Prop)(b1:World->Prop)(a:Act)(ds:List Nat)(sp:List c8):List (Nat × Nat × List Nat)->List c8->Prop
 | (h,d,iO)::H,s::r=>(cS ds.length λxs=>∀w,b1 w->dd sp xs w iO (∃o,ops[h]?=some o/\∀K:Act->World->Prop,Shut (∀v w',Below w.heap.size w w'->s.post v w'->K ((bx a ds xs).put (some d) v) w')->Oper.wp P o (bx a ds xs) w K Q))/\gZ P ops Q b1 a ds sp H r
 | _,_=>True
def f_(w:World):List c8->List Value->Prop->Prop
 | s::r,x::xs,g=>s.post x w->f_ w r xs g
 | _,_,g=>g
theorem put_comm{e:Nat}(h:d≠e):(a.put (some d) x).put (some e) y=(a.put (some e) y).put (some d) x:=by
 simp only[Act.put];rw[uQ _ _ h]
theorem IB : (a.put (some d) x).put (some d) y=a.put (some d) y:=by
 simp[Act.put]
theorem GG : a.put (some d) (a.tmps.getD d undef)=a:=by
 have h:a.tmps.setIfInBounds d (a.tmps.getD d undef)=a.tmps:=by
  apply Array.ext_getElem?;intro i;rw[wP];by_cases e:d=i
  .subst e;rcases jQ d a.tmps.size with j | j
   .simp[j]
   simp[kH j];omega
  rw[qV e]
 simp only[Act.put];rw[h]
theorem rZ:∀(ds:List Nat) (xs:List Value) (b:Act) (d:Nat) (v:Value),d∉ds->(bx b ds xs).put (some d) v=bx (b.put (some d) v) ds xs
 | [],_,_,_,_,_=>rfl
 | _::_,[],_,_,_,_=>rfl
 | e::ds,x::xs,b,d,v,h=>by
  show(bx (b.put (some e) x) ds xs).put (some d) v=bx ((b.put (some d) v).put (some e) x) ds xs;rw[rZ ds xs _ d v (λhm=>h (zH _ hm)),put_comm (λ(he:e=d)=>h (by rw[he];exact zL))]
theorem tG:∀(ds:List Nat) (xs:List Value) (a:Act) (q d:Nat) (v:Value),ds.Nodup->ds[q]?=some d->xs.length=ds.length->(bx a ds xs).put (some d) v=bx a ds (xs.set q v)
 | [],_,_,_,_,_,_,h,_=>by simp at h
 | _::_,[],_,_,_,_,_,_,h=>by simp at h
 | e::ds,x::xs,a,0,d,v,i,hq,j=>by
  obtain rfl:e=d:=by simpa using hq
  show(bx (a.put (some e) x) ds xs).put (some e) v=bx (a.put (some e) v) ds xs;rw[rZ _ _ _ _ _ (List.nodup_cons.1 i).1,IB]
 | e::ds,x::xs,a,q+1,d,v,i,hq,j=>by
  show(bx (a.put (some e) x) ds xs).put (some d) v=bx (a.put (some e) x) ds (xs.set q v);exact tG ds xs _ q d v (List.nodup_cons.1 i).2 (by simpa using hq) (by simpa using j)
theorem r0(a:Act):∀(ds:List Nat),bx a ds (ds.map λd=>a.tmps.getD d undef)=a
 | []=>rfl
 | d::ds=>by
  show bx (a.put (some d) (a.tmps.getD d undef)) ds _=a;rw[GG];exact r0 a ds
def xr(md:Region.Mode)(ops:Array Oper)(listed:Array Bool)(H:List (Nat × Nat × List Nat))(ts:List Nat)(fuel t0 t1:Nat):Bool :=
 decide (listed.size=ops.size) && (List.range ops.size).all (λi=>listed.getD i true || (H.map (·.1)).contains i || ts.contains i) && (H.map (·.1)).all (λh=>!listed.getD h true) && decide ((H.map (·.1)).Nodup) && decide ((H.map (·.2.1)).Nodup)
  && (List.range ops.size).all (λi=>(gD md ops i).all (λj=>decide (j<i))) && (List.range ops.size).all (λi=>!listed.getD i true || (gD md ops i).all (λj=>listed.getD j false))
  && ts.all (λt=>(H.map (·.1)).all λh=>(tX md ops t).contains h)
  && H.all (λp=>(match ops[p.1]? with | some o=>o.guard.isNone && decide (o.dst=some p.2.1) | none=>false) && p.2.2.all λk=>match (H.map (·.1))[k]? with | some j=>(gD md ops p.1).contains j | none=>false)
  && decide (H.length+ts.length<=fuel) && ql md ops ts ((H.map (·.1)).foldl (λl h=>l.setIfInBounds h true) listed)
  && ts.head?.all λt=>(((H.map (·.1)).foldl (λl h=>l.setIfInBounds h true) listed).setIfInBounds t true).getD t0 true && (((H.map (·.1)).foldl (λl h=>l.setIfInBounds h true) listed).setIfInBounds t true).getD t1 true
theorem wa{o:Oper}(i:ops[t]?=some o):j∈gD md ops t↔∃e∈o.after,Region.binds md e=true/\e.on=j:=by
 unfold gD;rw[i];simp[and_assoc]
theorem zz{l:Array Bool}(h:j∈Region.ready md ops l):l.getD j true=false/\j<ops.size/\∀p∈gD md ops j,l.getD p false=true:=by
 obtain⟨m,o,i,q⟩:=mem_ready.1 h;refine⟨m,(Array.getElem?_eq_some_iff.1 i).1,λp hp=>?_⟩;obtain⟨e,he,r,rfl⟩:=(wa i).1 hp;exact q e he r
theorem GL{l:Array Bool}(h:l.getD j true=false)(i:j<ops.size)(hp:∀p∈gD md ops j,l.getD p false=true):j∈Region.ready md ops l:=by
 refine mem_ready.2 ⟨h,ops[j],vW i,λe he m=>hp _ ((wa (vW i)).2 ⟨e,he,m,rfl⟩)⟩
def q5(md:Region.Mode)(ops:Array Oper)(l:Array Bool):Prop:=∀i,i<ops.size->l.getD i true=true->∀j∈gD md ops i,l.getD j false=true
theorem Bk{l:Array Bool}(ar:q5 md ops l)(az:l.size=ops.size)(j:∀p∈gD md ops t,l.getD p false=true):∀p∈tX md ops t,l.getD p false=true:=by
 unfold tX;generalize (List.range t).reverse=rs;generalize x:gD md ops t=A at j |-;clear x
 induction rs generalizing A with
 | nil=>exact j
 | cons i rs y =>
  rw[vM];refine y _ (λp hp=>?_);by_cases hi:A.contains i=true
  .rw[qY hi]at hp;rcases List.mem_append.1 hp with h | h
   .exact j p h
   have m:=j i (by simpa using hi);have r:i<ops.size:=by
    rcases jQ i ops.size with q | q
    .exact q
    simp[Array.getD,az,Nat.not_lt.2 q]at m
   exact ar i r (by simp[Array.getD,az,r]at m |-;exact m) p h
  rw[qV hi]at hp;exact j p hp
theorem jt{l:Array Bool}(hi:i<l.size)(b:Bool):l.getD i b=l[i]:=by simp[Array.getD,hi]
theorem Co{az:List Nat}(y:az.Nodup){l:Array Bool}(x:j∈az)(q:l.getD j true=false):(az.filter λh=>!(l.setIfInBounds j true).getD h true).length+1=(az.filter λh=>!l.getD h true).length:=by
 have r:(az.filter λh=>!(l.setIfInBounds j true).getD h true)=(az.filter λh=>!l.getD h true).erase j:=by
  rw[List.Nodup.erase_eq_filter (y.filter _),List.filter_filter];refine List.filter_congr (λh _=>?_);by_cases e:h=j
  .subst e;have i:h<l.size:=by
    rcases jQ h l.size with i | i
    .exact i
    simp[Array.getD,Nat.not_lt.2 i]at q
   simp[Array.getD,i]
  rw[vQ true (zK e)];simp[e]
 have m:j∈az.filter λh=>!l.getD h true:=List.mem_filter.2 ⟨x,by simp[q]⟩
 rw[r,yV m];have:=kM m;omega
theorem p8:∀(az:List Nat) (l:Array Bool) (i:Nat),i<l.size->(az.foldl (λl h=>l.setIfInBounds h true) l).getD i true=(l.getD i true || az.contains i)
 | [],l,i,_=>by simp
 | h::az,l,i,hi=>by
  rw[vM,p8 az _ i (by simpa using hi)];by_cases e:h=i
  .subst e;simp[Array.getD,hi]
  rw[vQ true e];have:i≠h:=zK e;simp[this]
theorem qp:∀(az:List Nat) (l:Array Bool),(az.foldl (λl h=>l.setIfInBounds h true) l).size=l.size
 | [],l=>rfl
 | h::az,l=>by rw[vM,qp az];simp
theorem Gw{l:List Nat}(h:l.Nodup)(hi:i<l.length)(r:j<l.length)(e:l[i]=l[j]):i=j:=by
 have q:=List.pairwise_iff_getElem.1 h;rcases Nat.lt_trichotomy i j with m | m | m
 .exact absurd e (q i j hi r m)
 .exact m
 exact absurd e.symm (q j i r hi m)
theorem gZ.get{b1:World->Prop}{a:Act}{ds:List Nat}{sp:List c8} : ∀{H:List (Nat × Nat × List Nat)} {r:List c8},gZ P ops Q b1 a ds sp H r->∀{q:Nat} {p:Nat × Nat × List Nat} {s:c8},H[q]?=some p->r[q]?=some s->cS ds.length λxs=>∀w,b1 w->dd sp xs w p.2.2 (∃o,ops[p.1]?=some o/\∀K:Act->World->Prop,Shut (∀v w',Below w.heap.size w w'->s.post v w'->K ((bx a ds xs).put (some p.2.1) v) w')->Oper.wp P o (bx a ds xs) w K Q)
 | [],_,_,_,_,_,h,_=>by simp at h
 | _::_,[],_,_,_,_,_,h=>by simp at h
 | (h,d,iO)::H,s::r,m,0,p,s',i,j=>by
  simp only[jG,zZ]at i j;subst i j;exact m.1
 | (h,d,iO)::H,s::r,m,q+1,p,s',i,j=>gZ.get m.2 (by simpa using i) (by simpa using j)
theorem f_.get{w:World} : ∀{sp:List c8} {xs:List Value} {g:Prop},f_ w sp xs g->(∀q,q<sp.length->q<xs.length->(sp.getD q BZ).post (xs.getD q undef) w)->g
 | [],_,_,h,_=>h
 | _::_,[],_,h,_=>h
 | s::r,x::xs,g,h,hq=>f_.get (h (hq 0 (by simp) (by simp))) (λq i j=>by
  have:=hq (q+1) (by simpa using i) (by simpa using j);simpa using this)
def tl(md:Region.Mode)(ops:Array Oper)(listed:Array Bool)(H:List (Nat × Nat × List Nat))(ts:List Nat)(fuel t0 t1:Nat):Bool :=
 decide (listed.size=ops.size) && (List.range ops.size).all (λi=>listed.getD i true || (H.map (·.1)).contains i || ts.contains i) && (H.map (·.1)).all (λh=>!listed.getD h true) && decide ((H.map (·.1)).Nodup) && decide ((H.map (·.2.1)).Nodup)
  && (List.range ops.size).all (λi=>(gD md ops i).all (λj=>decide (j<i))) && (List.range ops.size).all (λi=>!listed.getD i true || (gD md ops i).all (λj=>listed.getD j false))
  && ts.all (λt=>(H.map (·.1)).all λh=>(tX md ops t).contains h)
  && H.all (λp=>(match ops[p.1]? with | some o=>decide (o.dst=some p.2.1) | none=>false) && p.2.2.all λk=>match (H.map (·.1))[k]? with | some j=>(gD md ops p.1).contains j | none=>false)
  && decide (H.length+ts.length<=fuel) && ql md ops ts ((H.map (·.1)).foldl (λl h=>l.setIfInBounds h true) listed)
  && ts.head?.all λt=>(((H.map (·.1)).foldl (λl h=>l.setIfInBounds h true) listed).setIfInBounds t true).getD t0 true && (((H.map (·.1)).foldl (λl h=>l.setIfInBounds h true) listed).setIfInBounds t true).getD t1 true
def ei(P:Program)(ops:Array Oper)(Q:Exit->Act->World->Prop)(b1:World->Prop)(a:Act)(ds:List Nat)(sp:List c8):List (Nat × Nat × List Nat)->List c8->Prop
 | (h,d,iO)::H,s::r=>(cS ds.length λxs=>∀w,b1 w->dd sp xs w iO (∃o,ops[h]?=some o/\((Region.wanted o (yielded ops (bx a ds xs).tmps)=true/\∀K:Act->World->Prop,Shut (∀v w',Below w.heap.size w w'->s.post v w'->K ((bx a ds xs).put (some d) v) w')->Oper.wp P o (bx a ds xs) w K Q)\/(Region.wanted o (yielded ops (bx a ds xs).tmps)=false/\s.post undef w))))/\ei P ops Q b1 a ds sp H r
 | _,_=>True
theorem ei.get{b1:World->Prop}{a:Act}{ds:List Nat}{sp:List c8} : ∀{H:List (Nat × Nat × List Nat)} {r:List c8},ei P ops Q b1 a ds sp H r->∀{q:Nat} {p:Nat × Nat × List Nat} {s:c8},H[q]?=some p->r[q]?=some s->cS ds.length λxs=>∀w,b1 w->dd sp xs w p.2.2 (∃o,ops[p.1]?=some o/\((Region.wanted o (yielded ops (bx a ds xs).tmps)=true/\∀K:Act->World->Prop,Shut (∀v w',Below w.heap.size w w'->s.post v w'->K ((bx a ds xs).put (some p.2.1) v) w')->Oper.wp P o (bx a ds xs) w K Q)\/(Region.wanted o (yielded ops (bx a ds xs).tmps)=false/\s.post undef w)))
 | [],_,_,_,_,_,h,_=>by simp at h
 | _::_,[],_,_,_,_,_,h=>by simp at h
 | (h,d,iO)::H,s::r,m,0,p,s',i,j=>by
  simp only[jG,zZ]at i j;subst i j;exact m.1
 | (h,d,iO)::H,s::r,m,q+1,p,s',i,j=>ei.get m.2 (by simpa using i) (by simpa using j)
theorem G8{o:Oper}{K:Act->World->Prop}{post:Value->World->Prop}(h:(Region.wanted o (yielded ops a.tmps)=true/\∀K:Act->World->Prop,Shut (∀v w',Below w.heap.size w w'->post v w'->K (a.put (some d) v) w')->Oper.wp P o a w K Q)\/(Region.wanted o (yielded ops a.tmps)=false/\post undef w))(ar:o.dst=some d)(i:∀v w',Below w.heap.size w w'->post v w'->K (a.put (some d) v) w'):(if Region.wanted o (yielded ops a.tmps)=true then o.wp P a w K Q\/(o.asks P a w/\LetsOut Q)else K (a.put o.dst undef) w):=by
 rcases h with ⟨hw,h⟩ | ⟨hw,h⟩
 .rw[qY hw];exact .inl (h K i)
 rw[qV (by rw[hw];decide),ar];exact i _ _ (qK _ _) h
theorem _root_.XO{G:Prop}(h:G:=by
 by_cases bE:j=p
 .subst bE;simp[Array.getD,Kg]
 .rw[vQ false bE];exact KW
 ):G:=h
theorem w2(H:List (Nat × Nat × List Nat))(ts:List Nat)(sp:List c8)(b1:World->Prop){l:List Oper}{listed:Array Bool}(aZ:b1 w)(steps:ei P ops Q b1 a (H.map (·.2.1)) sp H sp)(fin:cS (H.map (·.2.1)).length λxs=>∀w,b1 w->f_ w sp xs (wpList P ops Q l (bx a (H.map (·.2.1)) xs) w))(a1:∀w w',b1 w->Below w.heap.size w w'->b1 w')(a3:∀w,b1 w->S w/\bm w)(du:ts.map (λt=>ops[t]?)=l.map some:=by exact rfl)(bp:sp.length=H.length:=by exact rfl)(aH:tl md ops listed H ts fuel t0 t1=true:=by kernel_rfl):eP P md ops Q S t0 bm t1 fuel listed a w:=by
 simp only[tl,qB,xZ]at aH;obtain⟨⟨⟨⟨⟨⟨⟨⟨⟨⟨⟨aO,bz⟩,aD⟩,Y⟩,aE⟩,aU⟩,aV⟩,aF⟩,aG⟩,bk⟩,W⟩,X⟩:=aH;obtain⟨az,ao⟩:∃az,H.map (·.1)=az:=⟨_,rfl⟩;obtain⟨ds,ag⟩:∃ds,H.map (·.2.1)=ds:=⟨_,rfl⟩;rw[ao]at bz aD Y aF aG W X;rw[ag]at aE steps fin;have bn:az.length=H.length:=by rw[<-ao,zJ]
 have bl:ds.length=H.length:=by rw[<-ag,zJ]
 have key:∀(fuel:Nat) (l':Array Bool) (xs:List Value) (w:World),(az.filter λh=>!l'.getD h true).length+ts.length<=fuel->l'.size=ops.size->xs.length=ds.length->b1 w->q5 md ops l' ->
     (∀i,i<ops.size->i∉az->l'.getD i true=listed.getD i true) ->
     (∀q h,az[q]?=some h->l'.getD h true=true->(sp.getD q BZ).post (xs.getD q undef) w)->eP P md ops Q S t0 bm t1 fuel l' (bx a ds xs) w:=by
  intro fuel
  induction fuel with
  | zero =>
   intro l' xs w a6 D V hi ar N tp;have Kj:∀h∈az,l'.getD h true=true:=λh ak=>by
    cases r:l'.getD h true with
    | true=>rfl
    | false =>
     have hm:h∈az.filter λh=>!l'.getD h true:=List.mem_filter.2 ⟨ak,by rw[r];rfl⟩
     have:=kM hm;omega
   have be:ts=[]:=xL (by omega);subst be;have ah:l'=az.foldl (λl h=>l.setIfInBounds h true) listed:=by
    apply uN
    .rw[qp,D,aO]
    intro i m E;rw[<-jt m true,<-jt E true,p8 _ _ _ (by omega)];by_cases hm:i∈az
    .rw[Kj i hm];simp[hm]
    rw[N i (by omega) hm];simp[hm]
   rw[ah];exact o3 [] l 0 _ _ _ du (by simp) W (λt aB=>by simp at aB) (f_.get (fin.get xs (by omega) w hi) (λq m E=>by
    have hq:q<az.length:=by omega
    exact tp q az[q] (qC hq) (Kj _ (qP hq))))
  | succ fuel bg =>
   intro l' xs w a6 D V hi ar N tp;by_cases Ga:∀h∈az,l'.getD h true=true
   .have ah:l'=az.foldl (λl h=>l.setIfInBounds h true) listed:=by
      apply uN
      .rw[qp,D,aO]
      intro i m E;rw[<-jt m true,<-jt E true,p8 _ _ _ (by omega)];by_cases hm:i∈az
      .rw[Ga i hm];simp[hm]
      rw[N i (by omega) hm];simp[hm]
    rw[ah];refine o3 ts l (fuel+1) _ _ _ du (by omega) W (λt aB=>?_) (f_.get (fin.get xs (by omega) w hi) (λq m E=>by
     have hq:q<az.length:=by omega
     exact tp q az[q] (qC hq) (Ga _ (qP hq))))
    rw[aB]at X;simpa using X
   obtain⟨m,a7,M⟩:∃h∈az,l'.getD h true=false:=by
     by_cases aQ:∃h∈az,l'.getD h true=false
     .exact aQ
     exact absurd (λh ak=>by
       cases r:l'.getD h true with
       | true=>rfl
       | false=>exact absurd ⟨h,ak,r⟩ aQ) Ga
   have U:∀i,l'.getD i true=false->i<ops.size:=λi hi=>by
    rcases jQ i ops.size with du | du
    .exact du
    simp[Array.getD,D,Nat.not_lt.2 du]at hi
   refine⟨λbd=>?_,λj a8=>?_⟩
   .exfalso;have bc:∀n,∀i,i<n->l'.getD i true=false->False:=by
     intro n
     induction n with
     | zero=>intro i hi;omega
     | succ n bh =>
      intro i hi r;have hm:i∈Region.ready md ops l':=by
       refine GL r (U i r) (λp hp=>?_);have bo:p<i:=xG (List.all_eq_true.1 (List.all_eq_true.1 aU i (List.mem_range.2 (U i r))) p hp);cases aq:l'.getD p true with
       | false=>exact(bh p (by omega) aq).elim
       | true=>rw[jt (by have:=U i r;omega)]at aq |-;exact aq
      rw[bd]at hm;cases hm
    exact bc (m+1) m (by omega) M
   obtain⟨aR,aT,aC⟩:=zz a8;have ap:j∈az:=by
    by_cases hm:j∈az
    .exact hm
    exfalso;have y:=N j aT hm;rw[aR]at y;have bE:=List.all_eq_true.1 bz j (List.mem_range.2 aT);have aW:ts.contains j=true:=by
     rw[<-y]at bE;simpa[hm]using bE
    have aX:=List.all_eq_true.1 (List.all_eq_true.1 aF j (by simpa using aW)) m a7;have aI:=Bk ar D aC m (by simpa using aX);rw[jt (by have:=U m M;omega)]at aI M;rw[aI]at M;cases M
   obtain⟨q,hq,aA⟩:=zQ ap;have av:q<H.length:=by omega
   have aL:H[q].1=j:=by
    subst ao;rw[vC]at aA;exact aA
   have Z:=List.all_eq_true.1 aG H[q] (qP av);rw[aL]at Z;have aN:q<sp.length:=by omega
   have st:=(ei.get steps (qC av) (qC aN)).get xs V w hi;rw[aL]at st;rw[qB]at Z;obtain⟨d1,d2⟩:=Z;have bj:=st.get (λk a9=>by
    have O:=List.all_eq_true.1 d2 k a9;cases B:az[k]? with
    | none=>rw[B]at O;cases O
    | some Ge =>
     rw[B]at O;have pk:=aC Ge (by simpa using O);refine tp k Ge B ?_;have Ij:Ge<l'.size:=by
      rcases jQ Ge l'.size with du | du
      .exact du
      simp[Array.getD,Nat.not_lt.2 du]at pk
     rw[jt Ij]at pk |-;exact pk)
   obtain⟨o,r,a2⟩:=bj;rw[r]at d1;simp only[xZ]at d1;unfold wpOp;rw[r];have a4:o.dst=some H[q].2.1:=d1;refine G8 a2 a4 (λv w' aJ hp=>?_);have a5:ds[q]?=some H[q].2.1:=by
    rw[<-ag,jT,qC av];rfl
   rw[tG ds xs a q _ v aE a5 V];have aK:=a1 _ _ hi aJ;obtain⟨s1,s2⟩:=a3 _ aK;have Kg:j<l'.size:=by omega
   refine⟨⟨λ_=>s1,λ_=>s2⟩,bg (l'.setIfInBounds j true) (xs.set q v) w' ?_ (by simpa using D) (by simpa using V) aK ?_ ?_ ?_⟩
   .have:=Co Y ap aR;omega
   .intro i I x p hp;by_cases e:i=j
    .subst e;have KW:=aC p hp;by_cases bE:i=p
     .subst bE;simp[Array.getD,Kg]
     rw[vQ false bE];exact KW
    rw[vQ true (zK e)]at x;have KW:=ar i I x p hp;exact XO
   .intro i I hm;rw[vQ true (λ(e:j=i)=>hm (by rw[<-e];exact ap))];exact N i I hm
   intro k Ge B x;by_cases e:k=q
   .subst e;have bb:k<xs.length:=by omega
    have y:(xs.set k v).getD k undef=v:=by rw[qU,List.getElem?_set_self bb];rfl
    have bE:sp.getD k BZ=sp[k]:=by rw[qU,qC aN];rfl
    rw[y,bE];exact hp
   have bf:Ge≠j:=λbE=>by
     subst bE;obtain⟨a_,a'⟩:=List.getElem?_eq_some_iff.1 B;exact e (Gw Y a_ hq (a'.trans aA.symm))
   rw[vQ true (zK bf)]at x;have a0:=tp k Ge B x;have y:(xs.set q v).getD k undef=xs.getD k undef:=by rw[qU,yR (zK e),<-qU]
   rw[y];exact(sp.getD k BZ).c9 aJ a0
 have aP:=key fuel listed (ds.map λd=>a.tmps.getD d undef) w ?_ aO (by simp) aZ ?_ (λ_ _ _=>rfl) ?_
 .rw[r0]at aP;exact aP
 .have:=uR (λh=>!listed.getD h true) az;omega
 .intro i I x p hp;have m:=List.all_eq_true.1 aV i (List.mem_range.2 I);rw[x]at m;exact List.all_eq_true.1 (by rwa [Bool.not_true,Bool.false_or]at m) p hp
 intro q h hq x;have m:=List.all_eq_true.1 aD h (jM hq);rw[x]at m;cases m
theorem dd.mono{sp:List c8}{xs:List Value}{w:World}{p q:Prop}(i:p->q):∀{l:List Nat},dd sp xs w l p->dd sp xs w l q
 | [],h=>i h
 | _::_,h=>λj=>dd.mono i (h j)
theorem cS.mono{p q:List Value->Prop}(i:∀l,p l->q l):∀{n:Nat},cS n p->cS n q
 | 0,h=>i _ h
 | n+1,h=>λx=>cS.mono (λl=>i (x::l)) (h x)
theorem dd.and{sp:List c8}{xs:List Value}{w:World}{p q:Prop} : ∀{l:List Nat},dd sp xs w l p->dd sp xs w l q->dd sp xs w l (p/\q)
 | [],h,i=>⟨h,i⟩
 | _::_,h,i=>λj=>dd.and (h j) (i j)
theorem cS.and{p q:List Value->Prop} : ∀{n:Nat},cS n p->cS n q->cS n λl=>p l/\q l
 | 0,h,i=>⟨h,i⟩
 | n+1,h,i=>λx=>cS.and (h x) (i x)
theorem r_(i:(ops[h]?).all (λo=>o.guard.isNone)=true){o:Oper}(j:ops[h]?=some o)(y:Nat->Option Bool):Region.wanted o y=true:=by
 rw[j]at i;have i:o.guard=none:=by simpa using i
 simp[Region.wanted,i]
theorem gZ.LA{b1:World->Prop}{a:Act}{ds:List Nat}{sp:List c8} : ∀{H:List (Nat × Nat × List Nat)} {r:List c8},gZ P ops Q b1 a ds sp H r->(∀p∈H,∀o,ops[p.1]?=some o->o.guard=none)->ei P ops Q b1 a ds sp H r
 | [],_,_,_=>by unfold ei;trivial
 | _::_,[],_,_=>by unfold ei;trivial
 | (h,d,iO)::H,s::r,i,j=>⟨cS.mono (λxs x w hw=>dd.mono (λ⟨o,m,q⟩=>⟨o,m,.inl ⟨by simp[Region.wanted,j (h,d,iO) zL o m],q⟩⟩) (x w hw)) i.1,gZ.LA i.2 (λp hp=>j p (zH _ hp))⟩
theorem Aq(H:List (Nat × Nat × List Nat))(ts:List Nat)(sp:List c8)(b1:World->Prop){l:List Oper}{listed:Array Bool}(O:b1 w)(steps:gZ P ops Q b1 a (H.map (·.2.1)) sp H sp)(fin:cS (H.map (·.2.1)).length λxs=>∀w,b1 w->f_ w sp xs (wpList P ops Q l (bx a (H.map (·.2.1)) xs) w))(U:∀w w',b1 w->Below w.heap.size w w'->b1 w')(V:∀w,b1 w->S w/\bm w)(du:ts.map (λt=>ops[t]?)=l.map some:=by exact rfl)(W:sp.length=H.length:=by exact rfl)(j:xr md ops listed H ts fuel t0 t1=true:=by kernel_rfl):eP P md ops Q S t0 bm t1 fuel listed a w:=by
 simp only[xr,qB,xZ]at j;obtain⟨⟨⟨⟨⟨⟨⟨⟨⟨⟨⟨aO,bz⟩,y⟩,B⟩,D⟩,E⟩,I⟩,M⟩,N⟩,m⟩,r⟩,x⟩:=j;have c:=List.all_eq_true.1 N;refine w2 H ts sp b1 O (steps.LA λp hp o i=>?_) fin U V du W ?_
 .have h:=c p hp;rw[i]at h;simp only[qB,Option.isNone_iff_eq_none]at h;exact h.1.1
 simp only[tl,qB,xZ];refine⟨⟨⟨⟨⟨⟨⟨⟨⟨⟨⟨aO,bz⟩,y⟩,B⟩,D⟩,E⟩,I⟩,M⟩,List.all_eq_true.2 λp hp=>?_⟩,m⟩,r⟩,x⟩;have h:=c p hp;cases i:ops[p.1]? with
 | none=>rw[i]at h;simp at h
 | some o =>
  rw[i]at h;simp only[qB]at h |-;exact⟨h.1.2,h.2⟩
theorem bj{α:Type _}{l:List α}{a:α} : l.toArray.setIfInBounds i a=(l.set i a).toArray:=by simp
theorem bk{α:Type _}{x:α}{l:List α}{a:α} : (x::l).set 0 a=a::l:=rfl
theorem bl{α:Type _}{x:α}{l:List α}{a:α} : (x::l).set (n+1) a=x::l.set n a:=rfl
def Hm(md:Region.Mode)(ops:Array Oper)(listed:Array Bool):Bool:=(List.range ops.size).all λi=>!listed.getD i true || (gD md ops i).all λj=>listed.getD j false
theorem Cd{l:Array Bool}(h:Hm md ops l=true):q5 md ops l:=λi hi m p hp=>by
 have j:=List.all_eq_true.1 h i (List.mem_range.2 hi);rw[m,Bool.not_true,Bool.false_or]at j;exact List.all_eq_true.1 j p hp
theorem Cj(B:(tX md ops t0).contains i=true){l:Array Bool}(D:q5 md ops l/\l.size=ops.size/\l.getD t0 true=false)(m:l.getD i true=false)(I:j∈Region.ready md ops l)(_:j≠i):q5 md ops (l.setIfInBounds j true)/\(l.setIfInBounds j true).size=ops.size/\(l.setIfInBounds j true).getD t0 true=false:=by
 obtain⟨ar,az,O⟩:=D;obtain⟨Q,S,y⟩:=zz I;have Kg:j<l.size:=by omega
 refine⟨λk N x p hp=>?_,by simpa using az,?_⟩
 .have KW:l.getD p false=true:=by
    by_cases e:k=j
    .subst e;exact y p hp
    rw[vQ true (zK e)]at x;exact ar k N x p hp
  exact XO
 have M:j≠t0:=λe=>by
   subst e;have r:=Bk ar az y i (by simpa using B);have E:i<l.size:=by
    rcases jQ i l.size with q | q
    .exact q
    simp[Array.getD,Nat.not_lt.2 q]at m
   rw[jt E]at r m;rw[r]at m;cases m
 rw[vQ true M];exact O
theorem aG(i d:Nat){listed:Array Bool}(h:eP P md ops Q S t0 bm t1 fuel (listed.setIfInBounds i true) (a.put (some d) v) w)(r:S w/\bm w:=by assumption)(hi:ops[i]?=some eD:=by exact rfl)(ar:eD.dst=some d:=by exact rfl)(Y:∀w,S w->(execOp a.eval eD).run P w=.ok (.value v) w:=by(intro w h;(try dsimp only at h);(try simp only[Act.put,bj,bk,bl]);go_simp;try with_reducible rfl))(az:(kk md ops t0 t1 i listed && Hm md ops listed && decide (listed.size=ops.size) && !listed.getD t0 true && (tX md ops t0).contains i)=true:=by kernel_rfl)(q:∀c a w,Q (.panic c) (a.put (some d) v) w->Q (.panic c) a w:=by exact λ_ _ _ h=>h)(m:eD.guard=none:=by exact rfl):eP P md ops Q S t0 bm t1 (fuel+1) listed a w:=by
 rw[<-ar]at q h;simp only[qB,uP,xZ]at az;obtain⟨⟨⟨⟨D,E⟩,I⟩,M⟩,N⟩:=az;obtain⟨x,y,bA,cq,eC⟩:=kl D;exact lY (X:=S) (G:=λl=>q5 md ops l/\l.size=ops.size/\l.getD t0 true=false) hi (kO x) q (λl w=>gp.same cq eC) (λl j m B U W=>Cj N m B U W) (λl w V O=>O.1 V.2.2) fuel listed a w (yN hi y) (by simpa using bA) ⟨Cd E,I,M⟩ (.inl ⟨by simp[Region.wanted,m],Y⟩) ⟨λ_=>r.1,λ_=>r.2⟩ h
theorem e5(i d:Nat){listed:Array Bool}(h:eP P md ops Q S t0 bm t1 fuel (listed.setIfInBounds i true) (a.put (some d) v) w)(j:S w/\bm w:=by assumption)(hi:ops[i]?=some eD:=by exact rfl)(ar:eD.dst=some d:=by exact rfl)(r:∀w,(execOp a.eval eD).run P w=.ok (.value v) w:=by(intro w;(try simp only[Act.put,bj,bk,bl]);go_simp;try with_reducible rfl))(az:kk md ops t0 t1 i listed=true:=by kernel_rfl)(m:∀c a w,Q (.panic c) (a.put (some d) v) w->Q (.panic c) a w:=by exact λ_ _ _ h=>h)(q:eD.guard=none:=by exact rfl):eP P md ops Q S t0 bm t1 (fuel+1) listed a w :=
 w4 i d ⟨λ_=>j.1,λ_=>j.2⟩ hi ar az m q r h
def c8.eq(c:Value):c8:=⟨λv _=>v=c,λ_ h=>h⟩
theorem b8(w:World)(t:TypeId)(cs:Array Value):∃ak,w.alloc (.cells cs t)=ak/\av ak w.heap.size t cs/\Below w.heap.size w ak/\ak.heap.size=w.heap.size+1 :=
 ⟨_,rfl,av.new w t cs,(qK _ _).alloc (qX _) _,by simp⟩
theorem aA{a b c:World}(h:Below a.heap.size a b)(k:Below b.heap.size b c):Below a.heap.size a c:=h.trans (k.mono h.size)
theorem av.go{t:TypeId}(h:av w g t cs)(i:Below w.heap.size w w'):av w' g t cs:=h.below i h.lt
def c8.aL(N:Nat)(t:TypeId)(cs:Array Value):c8:=⟨λv w=>∃g,v=.pointer (some ⟨g,0,none⟩)/\N<=g/\av w g t cs,λj ⟨g,e,i,h⟩=>⟨g,e,i,h.below j h.lt⟩⟩
def c8.row(N:Nat)(t:TypeId)(n:Nat)(cs:Array Value):c8:=⟨λv w=>∃g,v=.slice (some ⟨g,0,none⟩) n n/\N<=g/\av w g t cs,λj ⟨g,e,i,h⟩=>⟨g,e,i,h.below j h.lt⟩⟩
theorem cr{b1:World->Prop}{sp:List c8}{H:List (Nat × Nat × List Nat)}{s:c8}{r:List c8}{G:Prop}(je:G)(j:gZ P ops Q b1 a ds sp H r)(i:G->cS ds.length λxs=>∀w,b1 w->dd sp xs w iO (∃o,ops[h]?=some o/\∀K:Act->World->Prop,Shut (∀v w',Below w.heap.size w w'->s.post v w'->K ((bx a ds xs).put (some d) v) w')->Oper.wp P o (bx a ds xs) w K Q):=by
     (intro je;simp only[qE,zU,qH,zM,cS,dd,f_,xX,jJ,c8.eq,bx,Act.put,bj,bk,bl,jY,jG,vG,zZ,yU];exact je)):gZ P ops Q b1 a ds sp ((h,d,iO)::H) (s::r):=⟨i je,j⟩
theorem fr{b1:World->Prop}{sp:List c8}{H:List (Nat × Nat × List Nat)}{s:c8}{r:List c8}(i:cS ds.length λxs=>∀w,b1 w->dd sp xs w iO (∃o,ops[h]?=some o/\∀K:Act->World->Prop,Shut (∀v w',Below w.heap.size w w'->s.post v w'->K ((bx a ds xs).put (some d) v) w')->Oper.wp P o (bx a ds xs) w K Q):=by
     (simp only[qE,zU,qH,zM,cS,dd,xX,jJ,c8.eq];intros;(try have BD:=aJ _ (by assumption));(try subst_vars);refine⟨_,rfl,λK aI=>?_⟩;(simp only[bx,Act.put,bj,bk,bl]at aI |-);go_simp;exact aI.out _ _ (qK _ _) rfl)):gZ P ops Q b1 a ds sp H r->gZ P ops Q b1 a ds sp ((h,d,iO)::H) (s::r):=λj=>⟨i,j⟩
theorem fg{b1:World->Prop}{sp:List c8} : gZ P ops Q b1 a ds sp [] []:=trivial
theorem aH(H:List (Nat × Nat × List Nat))(ts:List Nat)(sp:List c8)(b1:World->Prop){l:List Oper}(j:b1 w.drew)(steps:gZ P ops Q b1 a (H.map (·.2.1)) sp H sp){G:Prop}(je:G)(m:∀w w',b1 w->Below w.heap.size w w'->b1 w')(fin:G->cS (H.map (·.2.1)).length λxs=>∀w,b1 w->f_ w sp xs (wpList P ops Q l (bx a (H.map (·.2.1)) xs) w):=by(intro je;simp only[qE,zU,qH,zM,cS,dd,f_,xX,jJ,c8.eq,bx,Act.put,bj,bk,bl,jY,jG,vG,zZ,yU];exact je))(hm:P.follows .mixedOrders=true:=by exact rfl)(q:ts.map (λt=>ops[t]?)=l.map some:=by exact rfl)(r:sp.length=H.length:=by exact rfl)(i:xr .any ops (List.replicate ops.size false).toArray H ts ops.size (ts.headD 0) (ts.headD 0)=true:=by kernel_rfl):(Code.region id ops true).wp P Q a w :=
 iT (λ_=>True) (ts.headD 0) (λ_=>True) (ts.headD 0) ops.size rfl hm ⟨trivial,trivial⟩ λ_=>Aq H ts sp b1 j steps (fin je) m (λ_ _=>⟨trivial,trivial⟩) q r i
theorem gx(t0:Nat)(h:True/\True->eP P .any ops Q (λ_=>True) t0 (λ_=>True) t0 n (List.replicate n false).toArray a w.drew)(i:ops.size=n:=by exact rfl)(hm:P.follows .mixedOrders=true:=by exact rfl):(Code.region id ops true).wp P Q a w :=
 iT (λ_=>True) t0 (λ_=>True) t0 n i hm ⟨trivial,trivial⟩ h
theorem h_(H:List (Nat × Nat × List Nat))(ts:List Nat)(sp:List c8)(b1:World->Prop){l:List Oper}{listed:Array Bool}(j:b1 w)(steps:gZ P ops Q b1 a (H.map (·.2.1)) sp H sp){G:Prop}(je:G)(m:∀w w',b1 w->Below w.heap.size w w'->b1 w')(fin:G->cS (H.map (·.2.1)).length λxs=>∀w,b1 w->f_ w sp xs (wpList P ops Q l (bx a (H.map (·.2.1)) xs) w):=by(intro je;simp only[qE,zU,qH,zM,cS,dd,f_,xX,jJ,c8.eq,bx,Act.put,bj,bk,bl,jY,jG,vG,zZ,yU];exact je))(q:ts.map (λt=>ops[t]?)=l.map some:=by exact rfl)(r:sp.length=H.length:=by exact rfl)(i:xr md ops listed H ts fuel t0 t0=true:=by kernel_rfl):eP P md ops Q (λ_=>True) t0 (λ_=>True) t0 fuel listed a w :=
 Aq H ts sp b1 j steps (fin je) m (λ_ _=>⟨trivial,trivial⟩) q r i
structure ch (U:Nat->Prop) (w w':World):Prop where
 os:w'.os=w.os
 tape:w'.tape=w.tape
 output:w'.output=w.output
 size:w.heap.size<=w'.heap.size
 block:∀k,k<w.heap.size->¬U k->w'.heap[k]?=w.heap[k]?
theorem ch.below{U:Nat->Prop}{B:Nat}(h:ch U w w')(i:∀k,U k->B<=k)(ah:B<=w.heap.size):Below B w w':=⟨h.os,h.tape,h.output,h.size,λk j=>h.block k (by omega) (λhu=>by have:=i k hu;omega)⟩
theorem ch.at_{N:Nat}(h:ch (· = g) w w')(i:N<=g)(hw:N<=w.heap.size):Below N w w':=h.below (λk j=>by subst j;exact i) hw
theorem ch.aL{U:Nat->Prop}{t:TypeId}(h:ch U w w')(i:av w g t cs)(j:¬U g):av w' g t cs:=(h.block g i.lt j).trans i
theorem ch.of{U:Nat->Prop}(h:Below w.heap.size w w'):ch U w w':=⟨h.os,h.tape,h.output,h.size,λk i _=>h.block k i⟩
theorem ch.trans{U V:Nat->Prop}{a b c:World}(h:ch U a b)(k:ch V b c)(m:∀n,V n->U n\/a.heap.size<=n):ch U a c :=
 ⟨k.os.trans h.os,k.tape.trans h.tape,k.output.trans h.output,qJ h.size k.size,λn j hu=>(k.block n (zW j h.size) (λq=>by rcases m n q with i | i;exact hu i;omega)).trans (h.block n j hu)⟩
theorem ch.mono{U V:Nat->Prop}(h:ch U w w')(i:∀n,U n->V n):ch V w w':=⟨h.os,h.tape,h.output,h.size,λk j m=>h.block k j (λhu=>m (i k hu))⟩
theorem ch.grown{row:Option Nat}(h:w.grownBy w' row):ch (λg=>row=some g) w w':=⟨h.os,h.tape,h.output,h.size,λk i hu=>h.block k i (λe=>hu e.symm)⟩
theorem ch.set(w:World)(p:Addr)(u:Value):ch (· = p.block) w (w.setCell p u):=⟨rfl,rfl,rfl,by simp[World.setCell],λk _ i=>qN _ _ _ _ i⟩
theorem E9{t:TypeId}(h:av w g t zi)(_:zi.size=cs.size):av (w.setRow g cs) g t cs/\ch (· = g) w (w.setRow g cs)/\(w.setRow g cs).heap.size=w.heap.size:=by
 have j:(w.setRow g cs).heap.size=w.heap.size:=by simp[World.setRow]
 refine⟨setRow_heap w g zi cs t _ h,⟨rfl,rfl,rfl,by omega,λk _ i=>?_⟩,j⟩;show(w.heap.modify g _)[k]?=_;rw[Array.getElem?_modify,qV (zK i)]
theorem str{ops:Array Oper}{rest:List Oper}{o:Oper}{Q:Exit->Act->World->Prop}{ty:TypeId}{x y:Operand}{t:TypeId}(i:av w g t zi)(cells:Array Value)(h:∀w',av w' g t cells->ch (· = g) w w'->w'.heap.size=w.heap.size->wpList P ops Q rest (a.put o.dst undef) w')(m:o.guard=none:=by exact rfl)(q:o.op=.store ty x y:=by exact rfl)(r:a.eval x=.pointer (some ⟨g,0,none⟩):=by exact rfl)(B:a.eval y=.agg cells:=by exact rfl)(hi:(P.info? ty).map (·.size)=some cells.size:=by kernel_rfl)(hold:zi.size=cells.size:=by exact rfl)(j:cells.all (·.oneCell')=true:=by(first | exact rfl | simp[Value.oneCell'])):wpList P ops Q (o::rest) a w:=by
 obtain⟨D,E,I⟩:=E9 i hold;exact wpList_store_row m ty x y q g cells r B t zi i hi hold j (h _ D E I)
end aS
namespace aS
open Go Go.RowKit
set_option linter.unusedVariables false
variable {P:Program} {ops:Array Oper} {Q:Exit->Act->World->Prop} {md:Region.Mode} {S bm:World->Prop} {t0 t1:Nat}
theorem mw(i d:Nat){listed:Array Bool}(h:eP P md ops Q S t0 bm t1 fuel (listed.setIfInBounds i true) (a.put (some d) v) w)(m:bm w:=by(first | assumption | trivial))(r:listed.getD t0 true=true:=by kernel_rfl)(hi:ops[i]?=some eD:=by exact rfl)(ar:eD.dst=some d:=by exact rfl)(x:∀w,(execOp a.eval eD).run P w=.ok (.value v) w:=by(intro w;(try simp only[Act.put,bj,bk,bl]);go_simp;try with_reducible rfl))(az:kk md ops t0 t1 i listed=true:=by kernel_rfl)(j:∀c a w,Q (.panic c) (a.put (some d) v) w->Q (.panic c) a w:=by exact λ_ _ _ h=>h)(q:eD.guard=none:=by exact rfl):eP P md ops Q S t0 bm t1 (fuel+1) listed a w :=
 w4 i d (gp.late r m) hi ar az j q x h
theorem fT(i:Nat){listed:Array Bool}{o:Oper}(h:∀K:Act->World->Prop,Shut (∀a w,S w/\bm w->(S w/\bm w->eP P md ops Q S t0 bm t1 fuel (listed.setIfInBounds i true) a w)->K a w)->Oper.wp P o a w K Q)(m:ops[i]?=some o:=by exact rfl)(j:o.guard=none:=by exact rfl)(q:Region.ready md ops listed=[i]:=by kernel_rfl):eP P md ops Q S t0 bm t1 (fuel+1) listed a w:=eh i q (bB m j h)
theorem eW(l:List Oper)(t:Nat)(ts:List Nat){listed:Array Bool}(h:wpList P ops Q l a w)(i:(t::ts).map (λt=>ops[t]?)=l.map some:=by exact rfl)(ah:(decide ((t::ts).length<=fuel) && ql md ops (t::ts) listed && (listed.setIfInBounds t true).getD t0 true && (listed.setIfInBounds t true).getD t1 true)=true:=by kernel_rfl):eP P md ops Q S t0 bm t1 fuel listed a w:=G9 l t ts i ah h
theorem fk(S:World->Prop)(t0 n:Nat)(i:S w.drew)(h:S w.drew/\True->eP P .any ops Q S t0 (λ_=>True) t0 n (List.replicate n false).toArray a w.drew)(j:ops.size=n:=by exact rfl)(hm:P.follows .mixedOrders=true:=by exact rfl):(Code.region id ops true).wp P Q a w :=
 iT S t0 (λ_=>True) t0 n j hm ⟨i,trivial⟩ h
theorem b2(k:Nat):(0:Int)<=(k:Int):=by omega
theorem _root_.Go.RowKit.Hid.q{p:Prop}(h:Hid p):p:=h
theorem _root_.Go.Shut.q{p:Prop}(h:Shut p):p:=h
theorem _root_.gz{α:Sort _}(a:α):∃v,a=v:=⟨_,rfl⟩
theorem _root_.aK{a:Prop}(i:a)(j:b)(m:c):Hid a/\Hid b/\Hid c:=⟨i,j,m⟩
theorem _root_.cV{a d:Prop}(i:a)(j:b)(m:c)(q:d):Hid a/\Hid b/\Hid c/\Hid d:=⟨i,j,m,q⟩
theorem _root_.fC{a d:Prop}(i:a)(j:b)(m:c)(q:d)(r:e):Hid a/\Hid b/\Hid c/\Hid d/\Hid e:=⟨i,j,m,q,r⟩
theorem _root_.fq{a d f:Prop}(i:a)(j:b)(m:c)(q:d)(r:e)(x:f):Hid a/\Hid b/\Hid c/\Hid d/\Hid e/\Hid f:=⟨i,j,m,q,r,x⟩
theorem bX(ms:List Nat)(i d:Nat){listed:Array Bool}(h:eP P md ops Q S t0 bm t1 fuel (listed.setIfInBounds i true) (a.put (some d) v) w)(j:S w/\bm w:=by assumption)(hi:ops[i]?=some eD:=by exact rfl)(ar:eD.dst=some d:=by exact rfl)(q:∀w,S w->(execOp a.eval eD).run P w=.ok (.value v) w:=by(intro w h;(try dsimp only at h);(try simp only[Act.put,bj,bk,bl]);go_simp;try with_reducible rfl))(az:(kk md ops t0 t1 i listed && chainB md ops listed i (ms++[t0]))=true:=by kernel_rfl)(m:∀c a w,Q (.panic c) (a.put (some d) v) w->Q (.panic c) a w:=by exact λ_ _ _ h=>h)(hw:Region.wanted eD (yielded ops a.tmps)=true:=by exact rfl):eP P md ops Q S t0 bm t1 (fuel+1) listed a w :=
 w3 ms i d j.1 j.2 hi ar az m (Dn hw q) h
theorem Fp(ms:List Nat)(i d:Nat){listed:Array Bool}(h:eP P md ops Q S t0 bm t1 fuel (listed.setIfInBounds i true) (a.put (some d) undef) w)(j:S w/\bm w:=by assumption)(hi:ops[i]?=some eD:=by exact rfl)(ar:eD.dst=some d:=by exact rfl)(az:(kk md ops t0 t1 i listed && chainB md ops listed i (ms++[t0]))=true:=by kernel_rfl)(m:∀c a w,Q (.panic c) (a.put (some d) undef) w->Q (.panic c) a w:=by exact λ_ _ _ h=>h)(hw:Region.wanted eD (yielded ops a.tmps)=false:=by exact rfl):eP P md ops Q S t0 bm t1 (fuel+1) listed a w :=
 w3 ms i d j.1 j.2 hi ar az m (Dm hw) h
end aS
end
section
namespace R
def prod:List Int->Int
 | []=>1
 | d::l=>d*prod l
theorem prod_append:∀(l m:List Int),prod (l++m)=prod l*prod m
 | [],m=>by simp[prod]
 | d::l,m=>by simp only[xH,prod,prod_append l m,jH]
theorem jy(l:List Int)(d:Int):prod (l++[d])=prod l*d:=by rw[prod_append];simp[prod]
theorem eu:∀(l:List Int),(∀d∈l,1<=d)->1<=prod l
 | [],_=>by simp[prod]
 | d::l,h=>by
  have i:=h d (by simp);have j:=eu l (λx q=>h x (by simp[q]));have m:=jO i j (by omega) (by omega);simpa[prod]using m
theorem nI:∀(l:List Int),(0:Int)∈l->prod l=0
 | d::l,h=>by
  rcases List.mem_cons.1 h with h | h
  .subst h;simp[prod]
  simp[prod,nI l h]
theorem mW(l:List Int)(i:Nat)(h:∀d∈l,1<=d):prod (l.take i)<=prod l:=by
 have e:prod l=prod (l.take i)*prod (l.drop i):=by rw[<-prod_append,jU]
 have q:=eu (l.take i) (λd ar=>h d (xN ar));have m:=eu (l.drop i) (λd ar=>h d (jN ar));have j:=jK m (show 0<=prod (l.take i) by omega);rw[kN]at j;rw[e];exact j
def bad(d:Int):Bool:=decide (d<0) || decide (4096<d)
theorem lC{d:Int} : bad d=false↔0<=d/\d<=4096:=by unfold bad;simp
def size(l:List Int):Int × Int :=
 if 6<l.length then(0,3)else if l.any bad then(0,4)else if (0:Int)∈l then(0,0)else if 65536<prod l then(0,5)else(prod l,0)
theorem qo(h:6<l.length):size l=(0,3):=qY h
theorem size_range(h:¬6<l.length)(i:l.any bad=true):size l=(0,4):=by unfold size;rw[qV h,qY i]
theorem lX(h:¬6<l.length)(i:l.any bad=false)(j:(0:Int)∈l):size l=(0,0):=by unfold size;rw[qV h,qV (by simp[i]),qY j]
theorem qn(h:¬6<l.length)(i:l.any bad=false)(j:(0:Int)∉l)(m:65536<prod l):size l=(0,5):=by unfold size;rw[qV h,qV (by simp[i]),qV j,qY m]
theorem rk(h:¬6<l.length)(i:l.any bad=false)(j:(0:Int)∉l)(m:¬65536<prod l):size l=(prod l,0):=by unfold size;rw[qV h,qV (by simp[i]),qV j,qV m]
theorem aB(h:(size l).2=0):l.length<=6/\(∀d∈l,0<=d/\d<=4096)/\(size l).1=prod l/\0<=prod l/\prod l<=65536:=by
 by_cases i:6<l.length
 .rw[qo i]at h;simp at h
 by_cases r:l.any bad=true
 .rw[size_range i r]at h;simp at h
 have m:l.any bad=false:=by simpa using r
 have q:∀d∈l,0<=d/\d<=4096:=λd ar=>lC.1 (by
  have:=List.any_eq_false.1 m d ar;simpa using this)
 by_cases j:(0:Int)∈l
 .have:=nI l j;exact⟨by omega,q,by rw[lX i m j,this],by omega,by omega⟩
 have B:1<=prod l:=eu l (λd ar=>by
  have:=q d ar;have y:d≠0:=λe=>j (e▸ar)
  omega)
 by_cases x:65536<prod l
 .rw[qn i m j x]at h;simp at h
 exact⟨by omega,q,by rw[rk i m j x],by omega,by omega⟩
theorem cM{α:Type}(L:List α)(i:Nat)(h:i<L.length):L.take (i+1)=L.take i++[L[i]]:=by
 rw[qD h]
theorem iV{α:Type}(L:List α)(p:α->Bool)(i:Nat)(h:i<L.length):(L.take (i+1)).any p=((L.take i).any p || p L[i]):=by
 rw[cM L i h,List.any_append];simp
theorem lf{α:Type}{L:List α}{p:α->Bool}(h:i<L.length)(hp:p L[i]=true):L.any p=true :=
 List.any_eq_true.2 ⟨L[i],qP h,hp⟩
end R
namespace R
def dR:List Int->List Int->Int
 | d::l,a::m=>a*prod l+dR l m
 | _,_=>0
def inside:List Int->List Int->Bool
 | [],[]=>true
 | d::l,a::m=>decide (0<=a) && decide (a<d) && inside l m
 | _,_=>false
theorem zs:∀(l m:List Int) (d a:Int),l.length=m.length->dR (l++[d]) (m++[a])=dR l m*d+a
 | [],[],d,a,_=>by simp[dR,prod]
 | e::l,b::m,d,a,h=>by
  have i:=zs l m d a (by simpa using h);simp only[xH,dR,jy,i,vL,jH,wR]
 | [],_::_,_,_,h=>by simp at h
 | _::_,[],_,_,h=>by simp at h
theorem rQ:∀(l m:List Int) (d a:Int),l.length=m.length->inside (l++[d]) (m++[a])=(inside l m && (decide (0<=a) && decide (a<d)))
 | [],[],d,a,_=>by simp[inside]
 | e::l,b::m,d,a,h=>by
  have i:=rQ l m d a (by simpa using h);simp only[xH,inside,i,Bool.and_assoc]
 | [],_::_,_,_,h=>by simp at h
 | _::_,[],_,_,h=>by simp at h
theorem bN:∀{l m:List Int},inside l m=true->l.length=m.length
 | [],[],_=>rfl
 | d::l,a::m,h=>by
  simp only[inside,qB]at h;simp[bN h.2]
 | [],_::_,h=>by simp[inside]at h
 | _::_,[],h=>by simp[inside]at h
theorem lM:∀{l m:List Int},inside l m=true->∀(k:Nat) (i:k<l.length) (j:k<m.length),0<=m[k]/\m[k]<l[k]
 | d::l,a::m,h,0,_,_=>by
  simp only[inside,qB,qO]at h;exact h.1
 | d::l,a::m,h,k+1,i,j=>by
  simp only[inside,qB,qO]at h;exact lM h.2 k (by simpa using i) (by simpa using j)
theorem e9:∀{l m:List Int},inside l m=true->0<=dR l m/\dR l m<prod l
 | [],[],_=>by simp[dR,prod]
 | d::l,a::m,h=>by
  simp only[inside,qB,qO]at h;obtain⟨⟨i,x⟩,j⟩:=h;have y:=e9 j;have hp:0<=prod l:=by omega
  have q:0<=a*prod l:=jF i hp;have r:a*prod l+prod l<=d*prod l:=by
   have:=xU (show a+1<=d by omega) hp;rw[vL,vZ]at this;exact this
  simp only[dR,prod];omega
 | [],_::_,h=>by simp[inside]at h
 | _::_,[],h=>by simp[inside]at h
def place(l m:List Int):Int × Int :=
 if (size l).2≠0 then(0,(size l).2)else if m.length≠l.length then(0,6)else if inside l m then(dR l m,0)else(0,4)
def steps(l:List Int):List Int:=(List.range l.length).map λk=>if (0:Int)∈l then 0 else prod (l.drop (k+1))
theorem bM(l:List Int):(steps l).length=l.length:=by simp[steps]
theorem k_(l:List Int)(k:Nat)(h:k<(steps l).length):(steps l)[k]=if (0:Int)∈l then 0 else prod (l.drop (k+1)):=by simp[steps]
def idx(l:List Int)(p:Int):List Int:=(List.range l.length).map λk=>p / prod (l.drop (k+1)) % l.getD k 0
theorem fs(l:List Int)(p:Int):(idx l p).length=l.length:=by simp[idx]
end R
namespace R
theorem zv:∀(l:List Int),(∀d∈l,0<=d/\d<=4096)->0<=prod l/\prod l<=4096 ^ l.length
 | [],_=>by simp[prod]
 | d::l,h=>by
  have j:=h d (by simp);have i:=zv l (λx q=>h x (by simp[q]));refine⟨jF j.1 i.1,?_⟩;have m:=jO j.2 i.2 i.1 (by omega);rw[qH,Int.pow_succ,xT (4096 ^ l.length) 4096];exact m
theorem GC(n:Nat)(h:n<=5):(4096:Int) ^ n<=1152921504606846976:=by
 have:n=0\/n=1\/n=2\/n=3\/n=4\/n=5:=by omega
 rcases this with rfl | rfl | rfl | rfl | rfl | rfl<;>decide
theorem ml(h:inside l m=true):∀d∈l,1<=d:=by
 intro d ar;obtain⟨i,hi,rfl⟩:=zQ ar;have:=lM h i hi (by rw[<-bN h];exact hi);omega
theorem CP(hlen:m.length=l.length)(q:k<l.length)(i:inside (l.take k) (m.take k)=true):inside (l.take (k+1)) (m.take (k+1))=(decide (0<=m[k]'(by omega)) && decide (m[k]'(by omega)<l[k]))/\dR (l.take (k+1)) (m.take (k+1))=dR (l.take k) (m.take k)*l[k]+m[k]'(by omega):=by
 rw[cM l k q,cM m k (by omega)];have j:(l.take k).length=(m.take k).length:=bN i;exact⟨by rw[rQ _ _ _ _ j,i];simp,zs _ _ _ _ j⟩
end R
namespace R
def dot:List Int->List Int->Int
 | a::m,s::l=>a*s+dot m l
 | _,_=>0
theorem sg:∀(m l:List Int) (a s:Int),m.length=l.length->dot (m++[a]) (l++[s])=dot m l+a*s
 | [],[],a,s,_=>by simp[dot]
 | b::m,t::l,a,s,h=>by
  have i:=sg m l a s (by simpa using h);simp only[xH,dot,i,wR]
 | [],_::_,_,_,h=>by simp at h
 | _::_,[],_,_,h=>by simp at h
theorem yp:∀(m l:List Int),m.length<=l.length->dot m (l.take m.length)=dot m l
 | [],_,_=>by simp[dot]
 | a::m,[],h=>by simp at h
 | a::m,s::l,h=>by
  simp only[qH,vS,dot,yp m l (by simpa using h)]
theorem yo(i:k<m.length)(j:k<l.length):dot (m.take (k+1)) (l.take (k+1))=dot (m.take k) (l.take k)+m[k]*l[k]:=by
 rw[cM m k i,cM l k j,sg];simp;omega
theorem vf{b:Int}(r:0<=b){m l:List Int}(h:∀i (j:i<m.length) (q:i<l.length),-b<=m[i]*l[i]/\m[i]*l[i]<=b):∀k,k<=m.length->k<=l.length->-(b*k)<=dot (m.take k) (l.take k)/\dot (m.take k) (l.take k)<=b*k
 | 0,_,_=>by simp[dot]
 | k+1,j,q=>by
  have y:=vf r h k (by omega) (by omega);have x:=h k (by omega) (by omega);rw[yo (by omega) (by omega)];have e:b*((k+1:Nat):Int)=b*(k:Int)+b:=by rw[Int.natCast_add,Int.mul_add];simp
  rw[e];omega
theorem BP:∀(l m:List Int),(0:Int)∉l->l.length=m.length->dot m ((List.range l.length).map λk=>prod (l.drop (k+1)))=dR l m
 | [],[],_,_=>by simp[dot,dR]
 | d::l,a::m,h,i=>by
  have q:=BP l m (λj=>h (by simp[j])) (by simpa using i);simp only[qH,List.range_succ_eq_map,qE,vE,dot,dR,vT,vV]
  congr 1
 | [],_::_,_,h=>by simp at h
 | _::_,[],_,h=>by simp at h
theorem qw(h:(0:Int)∉l)(i:l.length=m.length):dot m (steps l)=dR l m:=by
 rw[<-BP l m h i];unfold steps
 congr 1
 apply xC;intro k _;rw[qV h]
theorem ou(h:inside l m=true):(0:Int)∉l:=λi=>by have:=ml h 0 i;omega
end R
namespace R
theorem wo:∀{l m:List Int},inside l m=true->prod l<=65536->∀(k:Nat) (i:k<m.length) (j:k<l.length),0<=m[k]*prod (l.drop (k+1))/\m[k]*prod (l.drop (k+1))<=65536
 | d::l,a::m,h,hp,0,_,_=>by
  have q:=e9 h;simp only[inside,qB,qO]at h;have r:=e9 h.2;simp only[dR]at q;have:=jF h.1.1 (show 0<=prod l by omega);simp only[zY,qI,vT,vV];omega
 | d::l,a::m,h,hp,k+1,i,j=>by
  simp only[inside,qB,qO]at h;have r:=e9 h.2;have ar:1<=d:=by omega
  have hle:prod l<=d*prod l:=by
   have:=xU ar (show 0<=prod l by omega);omega
  simp only[prod]at hp;have:=wo h.2 (by omega) k (by simpa using i) (by simpa using j);simpa using this
 | [],[],_,_,k,h,_=>by simp at h
 | [],_::_,h,_,_,_,_=>by simp[inside]at h
 | _::_,[],h,_,_,_,_=>by simp[inside]at h
theorem A9(h:inside l m=true)(hp:prod l<=65536):∀k (j:k<m.length) (i:k<(steps l).length),-144115188075855872<=m[k]*(steps l)[k]/\m[k]*(steps l)[k]<=144115188075855872:=by
 intro k j i;rw[k_,qV (ou h)];have:=wo h hp k j (by rw[bM]at i;exact i);omega
end R
namespace R
theorem fD(h:(size l).2=0)(hp:0<prod l):∀d∈l,1<=d:=by
 obtain⟨m,z2,z3,z4,z5⟩:=aB h;intro d ar;have j:=z2 d ar;have i:d≠0:=λe=>by subst e;have:=nI l ar;omega
 omega
end R
end
section
namespace R
end R
end
section
namespace R
structure V where
 st:Int
 I:List Int
 s:List Int
def none_:V:=⟨0,[],[]⟩
def dx(n:Int):Bool:=decide (-1099511627776<=n) && decide (n<=1099511627776)
theorem jw{n:Int} : dx n=true↔-1099511627776<=n/\n<=1099511627776:=by unfold dx;simp
theorem mn{n:Int} : dx n=false↔n < -1099511627776\/1099511627776<n:=by
 unfold dx;rw[uS,decide_eq_false_iff_not,decide_eq_false_iff_not];omega
def aF(v:V):Int :=
 if (size v.I).2≠0 then(size v.I).2 else if v.s.length≠v.I.length then 6 else if dx v.st && v.s.all dx then 0 else 4
theorem o4{v:V}(h:(size v.I).2≠0):aF v=(size v.I).2:=qY h
theorem ob{v:V}(h:(size v.I).2=0)(i:v.s.length≠v.I.length):aF v=6:=by unfold aF;rw[qV (by simp[h]),qY i]
theorem jz{v:V}(h:(size v.I).2=0)(i:v.s.length=v.I.length)(j:(dx v.st && v.s.all dx)=false):aF v=4:=by
 unfold aF;rw[qV (by simp[h]),qV (by simp[i]),qV (by simp[j])]
theorem ng{v:V}(h:(size v.I).2=0)(i:v.s.length=v.I.length)(j:(dx v.st && v.s.all dx)=true):aF v=0:=by
 unfold aF;rw[qV (by simp[h]),qV (by simp[i]),qY j]
theorem cK{v:V}(h:aF v=0):(size v.I).2=0/\v.s.length=v.I.length/\(-1099511627776<=v.st/\v.st<=1099511627776)/\∀s∈v.s,-1099511627776<=s/\s<=1099511627776:=by
 by_cases i:(size v.I).2=0
 .by_cases m:v.s.length=v.I.length
  .by_cases j:(dx v.st && v.s.all dx)=true
   .rw[qB]at j;exact⟨i,m,jw.1 j.1,λs az=>jw.1 (List.all_eq_true.1 j.2 s az)⟩
   rw[jz i m (by simpa using j)]at h;cases h
  rw[ob i m]at h;cases h
 rw[o4 i]at h;exact absurd h i
theorem q8(l:List Int):l.any (λs=>!dx s)=!l.all dx:=by
 induction l with
 | nil=>rfl
 | cons a l i=>simp[i]
def made(v:V):V × Int:=if aF v=4 then(none_,5)else(v,0)
theorem q3{v:V}(h:(size v.I).2=0)(i:v.s.length=v.I.length):aF v=0\/aF v=4:=by
 by_cases j:(dx v.st && v.s.all dx)=true
 .exact .inl (ng h i j)
 exact .inr (jz h i (by simpa using j))
end R
end
section
namespace R
theorem sA{α:Type} [DecidableEq α]:∀{l m:List α},l.Nodup->(∀x∈l,x∈m)->l.length<=m.length
 | [],_,_,_=>yX _
 | a::l,m,i,az=>by
  rw[yE]at i;have j:a∈m:=az a (by simp);have y:=sA (m:=m.erase a) i.2 (λx q=>by
   have r:x≠a:=λe=>i.1 (e▸q)
   exact(uA r).2 (az x (by simp[q])))
  have:=yV j;have:=kM j;simp;omega
theorem EG{α:Type} [DecidableEq α] {l m:List α}(j:l.Nodup)(az:∀x∈l,x∈m)(B:m.length<=l.length):∀x∈m,x∈l:=by
 intro x q;apply Classical.byContradiction;intro r;have:=sA (l:=x::l) (m:=m) (List.nodup_cons.2 ⟨r,j⟩) (λy i=>by
  rcases List.mem_cons.1 i with rfl | i
  .exact q
  exact az y i)
 simp at this;omega
theorem rN{α:Type} [DecidableEq α]:∀{r p:List α},r.Nodup->(∀x∈r,x∈p)->p.length<=r.length->p.Nodup/\∀x∈p,x∈r
 | [],p,_,_,q=>by
  obtain rfl:p=[]:=by simpa using q
  simp
 | a::r,p,i,az,q=>by
  rw[yE]at i;have m:a∈p:=az a (by simp);have D:=yV m;have E:=kM m;obtain⟨i1,i2⟩:=rN (r:=r) (p:=p.erase a) i.2 (λx j=>by
   have B:x≠a:=λe=>i.1 (e▸j)
   exact(uA B).2 (az x (by simp[j]))) (by simp at q;omega)
  have hp:p.Perm (a::p.erase a):=List.perm_cons_erase m;have y:a∉p.erase a:=λh=>i.1 (i2 a h)
  refine⟨hp.nodup_iff.2 (List.nodup_cons.2 ⟨y,i1⟩),λx j=>?_⟩;rcases List.mem_cons.1 (hp.mem_iff.1 j)with rfl | h
  .simp
  simp[i2 x h]
def c1(n:Nat):List Int:=(List.range n).map λk:Nat=>(k:Int)
theorem fi(n:Nat):(c1 n).length=n:=by simp[c1]
theorem fu{x:Int} : x∈c1 n↔0<=x/\x<n:=by
 unfold c1;rw[List.mem_map];constructor
 .rintro⟨k,i,rfl⟩;have:=List.mem_range.1 i;omega
 intro h;exact⟨x.toNat,List.mem_range.2 (by omega),by omega⟩
theorem mY(n:Nat):(c1 n).Nodup:=by
 unfold c1;unfold List.Nodup;rw[List.pairwise_map];exact(List.nodup_range (n:=n)).imp λ{a b} h e=>h (by omega)
def eV(n:Nat)(p:List Int):Bool:=decide (p.length=n) && (c1 n).all (λk=>decide (k∈p))
theorem tF(h:p.length≠n):eV n p=false:=by unfold eV;simp[h]
theorem zo{k:Int}(i:0<=k)(j:k<n)(h:k∉p):eV n p=false:=by
 unfold eV;rw[uS];right;rw[wO];exact⟨k,fu.2 ⟨i,j⟩,by simpa using h⟩
theorem tE(i:p.length=n)(h:∀k:Nat,k<n->(k:Int)∈p):eV n p=true:=by
 unfold eV;rw[qB,qO,kX];refine⟨i,λx j=>?_⟩;obtain⟨a,b⟩:=fu.1 j;have:=h x.toNat (by omega);rw[show((x.toNat:Nat):Int)=x by omega]at this;simpa using this
theorem iR(h:eV n p=true):p.length=n/\p.Nodup/\(∀x∈p,0<=x/\x<n)/\∀x:Int,0<=x->x<n->x∈p:=by
 unfold eV at h;rw[qB,qO,kX]at h;have j:∀x∈c1 n,x∈p:=λx i=>by simpa using h.2 x i
 obtain⟨m,q⟩:=rN (mY n) j (by rw[fi];omega);exact⟨h.1,m,λx i=>fu.1 (q x i),λx a b=>j x (fu.2 ⟨a,b⟩)⟩
theorem ES(i:p.length=n)(j:p.Nodup)(m:∀x∈p,0<=x/\x<n):eV n p=true:=by
 have:=EG j (λx q=>fu.2 (m x q)) (by rw[fi];omega);exact tE i λk r=>this k (fu.2 (by omega))
theorem zp(m:k<p.length)(h:p[k]∈p.take k):eV n p=false:=by
 cases j:eV n p with
 | false=>rfl
 | true =>
  exfalso;have i:=(iR j).2.1;rw[<-jU k p,uB]at i;exact i.2.2 _ h p[k] (List.mem_iff_getElem.2 ⟨0,by simp;omega,by simp⟩) rfl
theorem CO(j:k<p.length)(h:p[k]<0\/(n:Int)<=p[k]):eV n p=false:=by
 cases i:eV n p with
 | false=>rfl
 | true =>
  exfalso;have:=(iR i).2.2.1 p[k] (qP j);omega
def pick(l:List Int)(k:Int):Int:=l.getD k.toNat 0
theorem jl(l:List Int)(q:Nat)(h:q<l.length):pick l (q:Int)=l[q]:=by simp[pick,h]
def turn(v:V)(p:List Int):V × Int :=
 if aF v≠0 then(none_,aF v)else if eV v.I.length p then(⟨v.st,p.map (pick v.I),p.map (pick v.s)⟩,0)else(none_,6)
theorem tP{v:V}(h:aF v≠0):turn v p=(none_,aF v):=qY h
theorem k'{v:V}(h:aF v=0)(i:eV v.I.length p=false):turn v p=(none_,6):=by unfold turn;rw[qV (by simp[h]),qV (by simp[i])]
theorem B1{v:V}(h:aF v=0)(i:eV v.I.length p=true):turn v p=(⟨v.st,p.map (pick v.I),p.map (pick v.s)⟩,0):=by unfold turn;rw[qV (by simp[h]),qY i]
theorem i_{α β:Type}(f:α->β)(p:List α)(k:Nat)(h:k<p.length):(p.take (k+1)).map f=(p.take k).map f++[f p[k]]:=by rw[cM p k h,zI];rfl
end R
end
