/-
  'Forward of anything, by what its graph gives': SlopeForwards returns true for every input whose bulk is at most 1048576; its arguments read as they did. Condition: the card's.
-/
import Derived.Test.YtabmnaaidfpmcaaGreatDoorV24
set_option maxRecDepth 100000
set_option maxHeartbeats 16000000
open Go.Proofs.Tryz
namespace Go.Proofs.YtabmnaaidfpmcaaGreatDoor.slopeForwards
open Go.RowKit aS Go.WideShapes Go.ChangeShapes Go.ChangeAt
theorem Gm(os:Os):laidMet Tryz.prog Rows.slopeForwardsUptoRow.laid ((qe os #[.agg #[.slice none 0 0,.slice none 0 0],.slice none 0 0,.slice none 0 0]).forCall (λ_ _=>0) ⟨#[],#[.agg #[.slice none 0 0,.slice none 0 0],.slice none 0 0,.slice none 0 0],[]⟩).memory :=
 laidMet_of_run' 100 (by kernel_rfl) (by kernel_rfl)
theorem reads(os:Os){H:Type}(enc:TypeId × Value->H):∃places,DataW.whole enc Tryz.prog ((qe os #[.agg #[.slice none 0 0,.slice none 0 0],.slice none 0 0,.slice none 0 0]).forCall (λ_ _=>0) ⟨#[],#[.agg #[.slice none 0 0,.slice none 0 0],.slice none 0 0,.slice none 0 0],[]⟩).memory Tryz.f3.params.toList Rows.slopeForwardsSpec.vars false #[Value.agg #[.slice none 0 0,.slice none 0 0],.slice none 0 0,.slice none 0 0].toList 100=some ([.agg [.nil,.nil],.nil,.nil],[],places) :=
 ⟨[],by kernel_rfl⟩
theorem FM(H:Type)(enc:TypeId × Value->H)(W:World)(base:Nat)(args:Array Value)(ds gs:List (DataW H))(before:List MemPlace)(i:∀(j:Nat) t v,Tryz.f3.params[j]?=some t->args[j]?=some v->Value.okWide Tryz.prog W .any base t v)(M:DataW.Whole enc Tryz.prog Tryz.f3.params.toList Rows.slopeForwardsSpec.vars false W args.toList ds gs before)(r:Rows.uptoSmall H (ds++gs)=true)(I:laidMetH Tryz.prog Rows.slopeForwardsUptoRow.laid W):Calls Tryz.prog 3 args W λe bg=>∃v,e=.returned v/\Rows.slopeForwardsSpec.post enc Tryz.prog Tryz.f3 false true false false W args v bg:=by
 refine EW laidOut rfl rfl underlying4 (by
  rw[Tryz.params3];intro t x;simp only[xR,xP,vX]at x;rcases x with rfl | rfl | rfl
  .exact⟨by kernel_rfl,xG (by kernel_rfl)⟩
  .exact⟨by kernel_rfl,xG (by kernel_rfl)⟩
  exact⟨by kernel_rfl,xG (by kernel_rfl)⟩) (by intro ds ar;match ds,ar with | [d1,d2,d3],_=>exact⟨rfl,rfl,rfl⟩) M ?_
 intro E S;subst S;rw[xM]at r;have q:DataW.TrodAll enc Tryz.prog W 0 (λ_=>true) true Tryz.f3.params.toList args.toList ds before:=E;rw[Tryz.params3]at q i;obtain⟨v0,aF,d0,ak,az,aC,aq,rfl,rfl,y,X⟩:=trodAll_cons q;obtain⟨v1,aG,d1,ao,aA,aD,rfl,rfl,rfl,B,Y⟩:=trodAll_cons X;obtain⟨v2,aH,d2,ap,aB,aE,rfl,rfl,rfl,D,Z⟩:=trodAll_cons Y;obtain⟨rfl,rfl,rfl⟩:=trodAll_nil Z;obtain rfl:args=#[v0,v1,v2]:=by cases args;simp_all
 have m:Rows.uptoBulkAll [d0,d1,d2]<=1048576:=xG r;have b0:Rows.uptoBulk d0<=1048576:=qJ (rn.my (by simp)) m;have ag:Rows.uptoBulk d1<=1048576:=qJ (rn.my (by simp)) m;have ah:Rows.uptoBulk d2<=1048576:=qJ (rn.my (by simp)) m;obtain⟨g,Q,V,U,av⟩:=Op.graph (i 0 25 v0 rfl rfl) y b0;obtain⟨aQ,cW,aO,rfl,N,bJ,m1⟩:=Op.hE (i 1 26 v1 rfl rfl) B;obtain⟨bt,cX,bz,rfl,O,bn,m2⟩:=Op.hE (i 2 26 v2 rfl rfl) D;exact al.y0 v0 g aQ bt aO bz cW cX W Q V N O (by omega) U (aY.KF I) (by omega) (by omega) m1 m2
theorem lifted(os:Os)(started:os.Started)(H:Type)(enc:TypeId × Value->H)(F:Stop.Interp):ReturnsInHanded {} Tryz.checked os 3 .any ((Rows.OpenSpec.upto Rows.slopeForwardsSpec).preRow enc Tryz.prog Tryz.f3 Rows.slopeForwardsUptoRow.domain false Rows.slopeForwardsUptoRow.laid) (((Rows.OpenSpec.upto Rows.slopeForwardsSpec).at F).post enc Tryz.prog Tryz.f3 false true false false):=by
 obtain⟨places,x⟩:=reads os enc;refine returnsInHanded_of_row (C:=Tryz.checked) (s:=Rows.OpenSpec.upto Rows.slopeForwardsSpec) Iy started (by kernel_rfl) func3
  (witness_row_at (enc:=enc) (C:=Tryz.checked) false (qe os #[.agg #[.slice none 0 0,.slice none 0 0],.slice none 0 0,.slice none 0 0]) #[.agg #[.slice none 0 0,.slice none 0 0],.slice none 0 0,.slice none 0 0] rfl (by kernel_rfl) (by kernel_rfl) (by kernel_rfl)
   (OpenSpec.preRow_of_cond 100 x (by kernel_rfl) (λk q=>by cases q;kernel_rfl) (by kernel_rfl) (Gm os))) ?_
 intro W base args ds gs before r j _ m _ i _ _;exact FM H enc W base args ds gs before r j (m _ rfl) i
theorem GM:Rows.SlopeForwardsUptoSaid :=
 OpenClaim.holds_of_cond 3 Tryz.f3 rfl rfl rfl rfl rfl rfl rfl ⟨rfl,rfl,rfl,rfl,rfl⟩ rfl rfl rfl rfl rfl (by kernel_rfl) func3 (by kernel_rfl)
  (xG (by kernel_rfl)) (by unfold Func.isWrapper;first | (rw[qY (by decide +kernel)];kernel_rfl) | (rw[qV (by decide +kernel)];exact⟨rfl,rfl⟩))
  (λos started H enc _ F=>by rw[OpenClaim.pre_eq_preRow];exact lifted os started H enc F)
theorem plain(f:FuncId)(fn:Func)(m:Tryz.pinned.checked.prog.funcNamed "adjoint/adjointlaw7.SlopeForwards" = some f)(q:Tryz.pinned.checked.prog.funcs[f]?=some fn):false=Tryz.pinned.checked.prog.looks []/\∀(j:Nat) t,fn.params[j]?=some t->Tryz.pinned.checked.prog.wantsStandIn t=false:=by
 obtain rfl:f=3:=uL ((show Tryz.prog.funcNamed "adjoint/adjointlaw7.SlopeForwards" = some 3 by kernel_rfl).symm.trans m) |>.symm;obtain rfl:fn=Tryz.f3:=(uL (func3.symm.trans q)).symm;refine⟨by kernel_rfl,λj t i=>?_⟩;rw[Tryz.params3]at i;have h:t=25\/t=26:=by
  have:=Array.mem_of_getElem? i;simp at this;exact this
 rcases h with rfl | rfl
 .exact(show Tryz.prog.wantsStandIn 25=false by kernel_rfl)
 exact(show Tryz.prog.wantsStandIn 26=false by kernel_rfl)
theorem proved:Rows.SlopeForwardsUptoCardSaid :=
 Claim7.holds_tied_plain_at .later [] _ _ _ _ GM (λ_ h=>by cases h) (by kernel_rfl) (λ_ h=>by cases h) slopeForwardsUpto_row_tie rfl ⟨rfl,rfl⟩ (by kernel_rfl) rfl plain (by kernel_rfl)
#print axioms proved
end Go.Proofs.YtabmnaaidfpmcaaGreatDoor.slopeForwards
