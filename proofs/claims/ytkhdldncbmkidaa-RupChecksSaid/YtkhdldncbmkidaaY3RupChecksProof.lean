/- PROVED HERE: RupChecksSaid: at every input the law weirgatelaw04.RupChecks answers true, and the input reads as it did. -/
import Derived.Test.YtkhdldncbmkidaaY33
import Derived.Test.YtkhdldncbmkidaaY336
import Derived.Test.YtkhdldncbmkidaaY3LwRc
import Derived.Test.YtkhdldncbmkidaaY32
set_option linter.unusedSimpArgs false
set_option linter.unusedVariables false
namespace Go.Proofs.Ytkhdldncbmkidaa.rupChecks
open Go.ChangeShapes Go.WideShapes Go.ChangeAt Go.RowKit Go.ChangeMaps
theorem own:ownKnob Try.prog.godebug=none:=by kernel_rfl
theorem laidOut:laidOutB Try.prog=true:=by kernel_rfl
theorem reads:∀ t∈[22,29,23],Try.prog.readableRec t=true∧t<Try.prog.types.size:=by
 intro t ht
 simp only [List.mem_cons,List.not_mem_nil,or_false] at ht
 rcases ht with rfl|rfl|rfl
 ·exact ⟨by kernel_rfl,zaa (by kernel_rfl)⟩
 ·exact ⟨by kernel_rfl,zaa (by kernel_rfl)⟩
 ·exact ⟨by kernel_rfl,zaa (by kernel_rfl)⟩
set_option maxRecDepth 100000 in
theorem lifted (os:Os) (started:os.Started) (H:Type) (enc:TypeId × Value→H) :
  ReturnsInHanded {} Try.checked os 4 .any (Rows.rupChecksSpec.pre6 enc Try.prog Try.f4 Rows.rupChecksRow.domain false) (Rows.rupChecksSpec.post enc Try.prog Try.f4 false true false false):=by
 refine returnsInHanded_of_change (C:=Try.checked) own started (by kernel_rfl) Try.func4
  (ChangeSpec.witness6 (enc:=enc) (C:=Try.checked) false ⟨#[],#[.slice none 0 0,.slice none 0 0,.slice none 0 0],[]⟩ 8 (by kernel_rfl) (by kernel_rfl) (by kernel_rfl) (by kernel_rfl)) ?_
 intro W base args ds gs before hval0 hW _ _
 have hval:∀ (j:Nat) t v,Try.f4.params[j]?=some t→args[j]?=some v→Value.okWide Try.prog W .any base t v:=hval0
 have hW':=hW
 obtain ⟨p,q,hA0,hV,rfl,hfz,hnd⟩:=hW
 have hA:DataW.TrodAll enc Try.prog W 0 (fun _=>true) true Try.f4.params.toList args.toList ds p:=hA0
 rw [Try.params4] at hA hval
 have hAll:=hA
 obtain ⟨v0,vs0,d0,ds0,p0,q0,hargs0,rfl,rfl,h0,r0⟩:=trodAll_cons hA
 obtain ⟨v1,vs1,d1,ds1,p1,q1,hargs1,rfl,rfl,h1,r1⟩:=trodAll_cons r0
 obtain ⟨v2,vs2,d2,ds2,p2,q2,hargs2,rfl,rfl,h2,r2⟩:=trodAll_cons r1
 obtain ⟨rfl,rfl,rfl⟩:=trodAll_nil r2
 obtain rfl:args=#[v0,v1,v2]:=by cases args;simp_all
 obtain ⟨rfl,rfl⟩:=trodVars_none hV
 obtain ⟨x0,h0x,hr0⟩:=Sx.arg_slice Try.underlying22 (hval 0 22 v0 rfl rfl) jfw h0
 obtain ⟨x1,h1x,hr1⟩:=Sx.arg_slice Try.underlying29 (hval 1 29 v1 rfl rfl) jkt h1
 obtain ⟨x2,h2x,hr2⟩:=Sx.arg_slice Try.underlying23 (hval 2 23 v2 rfl rfl) rdr_ints h2
 have hlt:∀ x∈p0++(p1++(p2++[])),x.block<W.heap.size:=fun x hx=>hW'.lt x (xy _ hx)
 refine (Sx.calls_of_con Try.func4 rfl (by kernel_rfl) (jlu x0 x1 x2) (Sx.memR_rdW W (Sx.tabR_none W)) (Sx.relL3 hr0 hr1 hr2)).mono fun e W' ⟨v,he,⟨rd',hv⟩,hb⟩=>?_
 subst he
 cases Sx.rel_bool hv
 exact ⟨_,rfl,Sx.post_of_below (pa:=p0++(p1++(p2++[]))) (pv:=[]) hW' (fun _ _ _=>(trodAll_cons_mk (shut_bool Try.underlying4 _) trodAll_mk0)) (fun sp hsp=>Sx.shut_all laidOut hb _ _ _ _ reads hAll hlt sp (fun x hx=>hsp x (xy _ hx))) (fun _ _=>rfl) rfl
  hb (ok_one (by kernel_rfl) rfl (okWide_bool_mk Try.underlying4 _))⟩
theorem proved:Rows.RupChecksSaid:=
 OpenClaim.holds_of_wide 4 Try.f4 rfl rfl rfl rfl rfl rfl rfl ⟨rfl,rfl,rfl,rfl,rfl⟩ rfl rfl rfl rfl rfl (by kernel_rfl) Try.func4 (by kernel_rfl)
  (zaa (by kernel_rfl)) (by unfold Func.isWrapper;first|(rw [za (by decide +kernel)];kernel_rfl)|(rw [ze (by decide +kernel)];exact ⟨rfl,rfl⟩))
  (fun os started H enc _=>lifted os started H enc)
end Go.Proofs.Ytkhdldncbmkidaa.rupChecks
