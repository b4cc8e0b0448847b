/- ScrubMade: over every input the law returns true and nothing that was there is changed. Conditions: those of the given row (what comes in is well formed and within the reach of the machine; the listed variable holds what the program laid). -/
import Derived.Test.YtkeiedikiiccpaaGreatDoorK9
import Derived.Test.YtkeiedikiiccpaaGreatDoorRows
import Derived.ProofKit
import Derived.LaidMore
import Derived.Lay
import Derived.OpenShut
import Derived.Stop.Joined
import Derived.Test.YtkeiedikiiccpaaGreatDoorK18
import Derived.Test.YtkeiedikiiccpaaGreatDoorTie
import Derived.Test.YtkeiedikiiccpaaGreatDoorCards
set_option linter.all false
namespace Go.Proofs.YtkeiedikiiccpaaGreatDoor
open Go.ChangeShapes Go.WideShapes Go.ChangeAt Go.WideMaps Go.WideElems Go.RowKit
open Am (VR Zw tyIs tyOk toC Impl Ty AV namesT)
theorem r_own:ownKnob Tryz.prog.godebug=none:=by kernel_rfl
theorem r_out:laidOutB Tryz.prog=true:=by kernel_rfl
theorem r_names:Tryz.prog.globalNamed "memfault/part.names" =some 0:=by kernel_rfl
theorem r_ty:(Tryz.prog.globals[0]?).map (·.type)=some 131:=by kernel_rfl
def r_gl:Nat→AV
 | 0=> .rl .bool (namesT:List Bool) 0 0
 | _=> .any
theorem r_glv0 {W:World} (h:laidMet Tryz.prog Rows.scrubRawRow.laid W): ∀g,VR (Zw W) W (fun _=> .un) (r_gl g) [.pointer (some ⟨g,0,none⟩)]:=by
 obtain⟨cs,h1,h2⟩:=Am.laid_cells (m:=4) (vs:=namesT.map fun b=>Value.bool b) h r_names r_ty (by kernel_rfl) (by kernel_rfl)
 intro g
 unfold r_gl
 split
 ·exact Am.gl_bools r_names h1 h2 (by decide)
 ·exact⟨_,rfl⟩
end Go.Proofs.YtkeiedikiiccpaaGreatDoor
namespace Go.Proofs.YtkeiedikiiccpaaGreatDoor
open Go.ChangeShapes Go.WideShapes Go.ChangeAt Go.WideMaps Go.WideElems Go.RowKit
open Am (VR Zw tyIs tyOk toC Impl Ty AV namesT )
theorem r_met (os:Os) (args:Array Value):laidMetH Tryz.prog Rows.scrubMadeRow.laid ((World.laidAll Tryz.prog os Rows.scrubMadeRow.laid).forCall (fun _ _=>0) ⟨#[],args,[]⟩).memory:=by
 rw[MakeChecks.laidMetH_plain _ _ _ (by kernel_rfl)]
 exact laidMet_laidAll _ (by kernel_rfl) (by kernel_rfl)
theorem r_glv {W:World} (h:laidMetH Tryz.prog Rows.scrubMadeRow.laid W): ∀g,VR (Zw W) W (fun _=> .un) (r_gl g) [.pointer (some ⟨g,0,none⟩)]:=by
 rw[MakeChecks.laidMetH_plain _ _ _ (by kernel_rfl)]at h
 exact r_glv0 h
set_option maxRecDepth 100000 in
theorem r_lifted (law: ∀(x1:((.sl (.int .i64)):Ty).den),tyOk (.sl (.int .i64)) x1→ ∃sp,Impl Tryz.prog r_gl 4 sp∧
   sp.run (.cn (.p (.sl (.int .i64)) x1) .e0) [] some=some { ret:= .p .bool true,objs:=[] })
  (os:Os) (started:os.Started) (H:Type) (enc:TypeId×Value→H):
  ReturnsInHanded {} Tryz.checked os 4 .any (fun w args=>(Rows.scrubMadeSpec.pre enc Tryz.prog Tryz.f4 [] false w args∧laidMetH Tryz.prog Rows.scrubMadeRow.laid w)∧sizedMet enc Tryz.prog Tryz.f4 (OpenSpec.ofChange Rows.scrubMadeSpec) false w args)
   (Rows.scrubMadeSpec.post enc Tryz.prog Tryz.f4 false true false false):=by
 refine returnsInHanded_of_change_and (C:=Tryz.checked) (X:=fun w _=>laidMetH Tryz.prog Rows.scrubMadeRow.laid w) (fun _ _ _ hh h=>h.of_heap hh) r_own started (by kernel_rfl) Tryz.func4
  (ChangeSpec.witness_shaped (enc:=enc) (C:=Tryz.checked) (os:=os) (X:=fun w _=>laidMetH Tryz.prog Rows.scrubMadeRow.laid w) false (World.laidAll Tryz.prog os Rows.scrubMadeRow.laid) #[.slice none 0 0] 8 (World.laidAll_os _ _ _)
   (World.shaped_of_ZipB (by kernel_rfl) (by kernel_rfl)) (by kernel_rfl) (by kernel_rfl) (by kernel_rfl) (r_met os _)) ?_
 intro W base args ds gs before hval0 hW _ hz0 hL _
 have hval: ∀(j:Nat) t v,Tryz.f4.params[j]?=some t→args[j]?=some v→Value.okWide Tryz.prog W .any base t v:=hval0
 have hW':=hW
 obtain⟨p,q,hA0,hV,rfl,hfz,hnd⟩:=hW
 have hA:DataW.TrodAll enc Tryz.prog W 0 (fun _=>true) true Tryz.f4.params.toList args.toList ds p:=hA0
 have hp:Tryz.f4.params.toList=[31]:=by kernel_rfl
 rw[hp]at hA
 obtain⟨rfl,rfl⟩:=trodVars_none hV
 obtain⟨v1,vs1,d1,ds1,p1,q1,e1,rfl,rfl,t1,hA⟩:=trodAll_cons hA
 obtain⟨ed,rfl,rfl⟩:=trodAll_nil hA
 subst ed
 rw[hp]at hz0
 have hz: ∀n∈d1.weights Tryz.prog 31++[],n≤reachBytes:=fun n hn=>by
  have:=List.all_eq_true.1 hz0 n (by
   simp only[List.cons_append,DataW.weightsEach]
   simp only[List.mem_append,List.not_mem_nil,or_false,List.append_nil]at hn ⊢
   exact .inl hn)
  exact of_decide_eq_true this
 have hargs:args= #[v1]:=Array.ext' e1
 subst hargs
 obtain⟨x1,m1,k1⟩:=Am.arg_slice (m:=12) (e:=(.int .i64)) (σ:=fun _=> .un) (show Tryz.prog.underlying 31=some (.slice 3) by kernel_rfl) (by unfold tyIs;kernel_rfl) (hval 0 31 v1 (by kernel_rfl) rfl) t1 fun n hn=>hz n (by simp[hn])
 obtain⟨sp,I,hrun⟩:=law x1 k1
 refine(Am.run_law I hrun (W:=W) (vs:= #[v1]) ⟨v1,_,rfl,m1,rfl,rfl⟩ rfl (r_glv hL)).mono fun e W' ⟨he,hb⟩=>?_
 subst he
 exact⟨_,rfl,Am.law_post r_out rfl hW' rfl (show Tryz.f4.resultTypes= #[4] by kernel_rfl) (show Tryz.prog.underlying 4=some .bool by kernel_rfl) (by rw[hp];intro t ht;simp at ht;rcases ht with rfl<;>exact⟨by kernel_rfl,of_decide_eq_true (by kernel_rfl)⟩) hb⟩
theorem r_said (law: ∀(x1:((.sl (.int .i64)):Ty).den),tyOk (.sl (.int .i64)) x1→ ∃sp,Impl Tryz.prog r_gl 4 sp∧
   sp.run (.cn (.p (.sl (.int .i64)) x1) .e0) [] some=some { ret:= .p .bool true,objs:=[] }):Rows.ScrubMadeSaid:=
 OpenClaim.holds_of_wide 4 Tryz.f4 rfl rfl rfl rfl rfl rfl rfl ⟨rfl,rfl,rfl,rfl,rfl⟩ rfl rfl rfl rfl rfl (by kernel_rfl) Tryz.func4 (by kernel_rfl)
  (of_decide_eq_true (by kernel_rfl)) (by unfold Func.isWrapper;rw[if_neg (of_decide_eq_false (by kernel_rfl))];exact⟨rfl,rfl⟩)
  (fun os started H enc _=>r_lifted law os started H enc)
theorem r_card (h:Rows.ScrubMadeSaid):Rows.ScrubMadeCardSaid:=
 Claim7.holds_tied_plain_at .later [] [.data, .data, .pinned] true (true, "de3eb7d455de91ab071a109ef917c396faf86d8c636ac7e42c68fac18a4d3652") false
  h (fun _ h=>by cases h) (by kernel_rfl) (fun _ h=>by cases h) scrubMade_row_tie rfl ⟨rfl,rfl⟩ (by kernel_rfl) rfl
  (fun f fn hf hfn=>by
   obtain rfl:f=4:=Option.some.inj ((show Tryz.prog.funcNamed "memfault/memfaultlaw15.ScrubMade" =some 4 by kernel_rfl).symm.trans hf)|>.symm
   obtain rfl:fn=Tryz.f4:=(Option.some.inj (Tryz.func4.symm.trans hfn)).symm
   exact⟨by kernel_rfl,fun j t ht=>by
    have hp:Tryz.f4.params.toList=[31]:=by kernel_rfl
    have hm:t∈Tryz.f4.params.toList:=Array.mem_toList_iff.2 (Array.mem_of_getElem? ht)
    rw[hp]at hm
    simp at hm
    rcases hm with rfl
    ·exact(show Tryz.prog.wantsStandIn 31=false by kernel_rfl)⟩)
  (by kernel_rfl)
theorem r_law (x1:((.sl (.int .i64)):Ty).den) (h1:tyOk (.sl (.int .i64)) x1): ∃sp,Impl Tryz.prog r_gl 4 sp∧
  sp.run (.cn (.p (.sl (.int .i64)) x1) .e0) [] some=some { ret:= .p .bool true,objs:=[] }:=by
 obtain⟨k,hk⟩:=(⟨10000,fun {α} K=>Am.made_eq (Nat.le_refl _) x1 h1 K⟩: ∃k, ∀{α:Type} (K:Bool→Option α),Am.f4 k x1 K=K true)
 have hd:Am.d73.dec (.cn (.p (.sl (.int .i64)) x1) .e0) []=some x1:=by kernel_rfl
 refine⟨Am.p4 k,Am.i4 k,?_⟩
 show(Am.d73.dec (.cn (.p (.sl (.int .i64)) x1) .e0) []).bind (fun x=>Am.f4 k x fun b=>some (Am.o37 b))=_
 rw[hd]
 exact hk _
theorem made_done:Rows.ScrubMadeCardSaid:=
 r_card (r_said fun x1 h1=>r_law x1 h1)
end Go.Proofs.YtkeiedikiiccpaaGreatDoor
