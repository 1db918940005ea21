/- PROVED HERE: ReachLeastSaid: at every input the law weirgatelaw16.ReachLeast answers true, and the input reads as it did. -/
import Derived.Test.YtikahnkkfkoglaaGreatDoorY24
import Derived.Test.YtikahnkkfkoglaaGreatDoorY239
import Derived.Test.YtikahnkkfkoglaaGreatDoorTie
import Derived.Test.YtikahnkkfkoglaaGreatDoorCards
import Derived.Test.YtikahnkkfkoglaaGreatDoorY22
set_option linter.unusedSimpArgs false
set_option linter.unusedVariables false
namespace Go.Proofs.YtikahnkkfkoglaaGreatDoor.reachLeast
open Go.ChangeShapes Go.WideShapes Go.ChangeAt Go.RowKit Go.ChangeMaps
theorem own:ownKnob Tryz.prog.godebug=none:=by kernel_rfl
theorem laidOut:laidOutB Tryz.prog=true:=by kernel_rfl
theorem reads:∀ t∈[22],Tryz.prog.readableRec t=true∧t<Tryz.prog.types.size:=by
 intro t ht
 simp only [List.mem_cons,List.not_mem_nil,or_false] at ht
 subst ht
 exact ⟨by kernel_rfl,zm (by kernel_rfl)⟩
theorem tabs {W:World} (h:laidMetH Tryz.prog Rows.reachLeastRow.laid W):Sx.TabR (Sx.rdW W) W:=by
 rw [MakeChecks.laidMetH_plain _ _ _ (by kernel_rfl)] at h
 exact Sx.tabR_laid h
set_option maxRecDepth 100000 in
theorem lifted (os:Os) (started:os.Started) (H:Type) (enc:TypeId × Value→H) :
  ReturnsInHanded {} Tryz.checked os 3 .any (fun w args=>(Rows.reachLeastSpec.pre enc Tryz.prog Tryz.f3 [] false w args∧laidMetH Tryz.prog Rows.reachLeastRow.laid w)∧sizedMet enc Tryz.prog Tryz.f3 (OpenSpec.ofChange Rows.reachLeastSpec) false w args) (Rows.reachLeastSpec.post enc Tryz.prog Tryz.f3 false true false false):=by
 refine returnsInHanded_of_change_and (C:=Tryz.checked) (X:=fun w _=>laidMetH Tryz.prog Rows.reachLeastRow.laid w) (fun _ _ _ hh h=>h.of_heap hh) own started (by kernel_rfl) Tryz.func3
  (ChangeSpec.witness_shaped (enc:=enc) (C:=Tryz.checked) (os:=os) (X:=fun w _=>laidMetH Tryz.prog Rows.reachLeastRow.laid w) false (World.laidAll Tryz.prog os Rows.reachLeastRow.laid) #[.slice none 0 0] 8 (World.laidAll_os _ _ _) (World.shaped_of_ZipB (by kernel_rfl) (by kernel_rfl)) (by kernel_rfl) (by kernel_rfl) (by kernel_rfl)
   (by rw [MakeChecks.laidMetH_plain _ _ _ (by kernel_rfl)];exact laidMet_laidAll _ (by kernel_rfl) (by kernel_rfl))) ?_
 intro W base args ds gs before hval0 hW _ _ hL _
 have hval:∀ (j:Nat) t v,Tryz.f3.params[j]?=some t→args[j]?=some v→Value.okWide Tryz.prog W .any base t v:=hval0
 have hW':=hW
 obtain ⟨p,q,hA0,hV,rfl,hfz,hnd⟩:=hW
 have hA:DataW.TrodAll enc Tryz.prog W 0 (fun _=>true) true Tryz.f3.params.toList args.toList ds p:=hA0
 rw [Tryz.params3] at hA hval
 have hAll:=hA
 obtain ⟨v0,vs0,d0,ds0,p0,q0,hargs0,rfl,rfl,h0,r0⟩:=trodAll_cons hA
 obtain ⟨rfl,rfl,rfl⟩:=trodAll_nil r0
 obtain rfl:args=#[v0]:=by cases args;simp_all
 obtain ⟨rfl,rfl⟩:=trodVars_none hV
 obtain ⟨x0,h0x,hr0⟩:=Sx.arg_slice Tryz.underlying22 (hval 0 22 v0 rfl rfl) jpc h0
 have hlt:∀ x∈p0++[],x.block<W.heap.size:=fun x hx=>hW'.lt x (zbo _ hx)
 refine (Sx.calls_of_con Tryz.func3 rfl (by kernel_rfl) (jwi x0 (by have:=h0x.1;rw [jci] at this;exact this) h0x.2) (Sx.memR_rdW W (tabs hL)) (Sx.relL1 hr0)).mono fun e W' ⟨v,he,⟨rd',hv⟩,hb⟩=>?_
 subst he
 cases Sx.rel_bool hv
 exact ⟨_,rfl,Sx.post_of_below (pa:=p0++[]) (pv:=[]) hW' (fun _ _ _=>(trodAll_cons_mk (shut_bool Tryz.underlying4 _) trodAll_mk0)) (fun sp hsp=>Sx.shut_all laidOut hb _ _ _ _ reads hAll hlt sp (fun x hx=>hsp x (zbo _ hx))) (fun _ _=>rfl) rfl
  hb (ok_one (by kernel_rfl) rfl (okWide_bool_mk Tryz.underlying4 _))⟩
theorem proved:Rows.ReachLeastSaid:=
 OpenClaim.holds_of_wide 3 Tryz.f3 rfl rfl rfl rfl rfl rfl rfl ⟨rfl,rfl,rfl,rfl,rfl⟩ rfl rfl rfl rfl rfl (by kernel_rfl) Tryz.func3 (by kernel_rfl)
  (zm (by kernel_rfl)) (by unfold Func.isWrapper;first|(rw [zb (by decide +kernel)];kernel_rfl)|(rw [za (by decide +kernel)];exact ⟨rfl,rfl⟩))
  (fun os started H enc _=>lifted os started H enc)
theorem card:Rows.ReachLeastCardSaid:=
 Claim7.holds_tied_plain_at .later [] _ true _ false proved (fun _ h=>by cases h) (by kernel_rfl) (fun _ h=>by cases h) reachLeast_row_tie rfl ⟨rfl,rfl⟩ (by kernel_rfl) rfl
  (fun f fn hf hfn=>by
   obtain rfl:f=3:=Option.some.inj (hf.symm.trans (show Tryz.prog.funcNamed Rows.reachLeastRow.func=some 3 by kernel_rfl))
   obtain rfl:fn=Tryz.f3:=(Option.some.inj (Tryz.func3.symm.trans hfn)).symm
   refine ⟨by kernel_rfl,fun j t ht=>?_⟩
   rw [Tryz.params3] at ht
   have h:t∈[22]:=by have:=Array.mem_of_getElem? ht;simpa using this
   have all:([22].all fun t=>!(Tryz.prog.wantsStandIn t))=true:=by kernel_rfl
   have:=List.all_eq_true.1 all t h
   show Tryz.prog.wantsStandIn t=false
   simpa using this)
  (by kernel_rfl)
end Go.Proofs.YtikahnkkfkoglaaGreatDoor.reachLeast
