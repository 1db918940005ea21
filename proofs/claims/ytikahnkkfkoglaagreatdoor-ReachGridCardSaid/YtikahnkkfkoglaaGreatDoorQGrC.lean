/- Contracts: the texts of a grid. -/
import Derived.Test.YtikahnkkfkoglaaGreatDoorQGrP
import Derived.Test.YtikahnkkfkoglaaGreatDoorQ29
import Derived.Test.YtikahnkkfkoglaaGreatDoorQ35
import Derived.Test.YtikahnkkfkoglaaGreatDoorQ41
import Derived.Test.YtikahnkkfkoglaaGreatDoorQ2
set_option linter.unusedSimpArgs false
set_option linter.unusedVariables false
namespace Go.Proofs.YtikahnkkfkoglaaGreatDoor
open Go Go.Sx Go.RowKit Go.St Pa
set_option maxRecDepth 100000
theorem qml:Con Tryz.prog 15 [.str qvt] (.tup [qz qiu,flt 0 0]):=by
 have h:=qem qvt (by decide)
 rw [qeh px16 (by decide)] at h
 exact h
theorem qmm:Con Tryz.prog 16 [qz qiu] (.tup [model16.av,.bool true]):=by
 have h:=qen qiu (qbb jdq) jdr
 rw [jds] at h
 exact h
theorem mod16:ModOk model16:=jds ▸ qek (qbb jdq) jdr
theorem qmn:Con Tryz.prog 9 [model16.av,iv 10] (.agg [iv 2,.bool true,.bool false,.nils]):=by
 have e1:(jd model16 10).1.length=2:=congrArg (fun r:Nat × (Bool × Bool)=>r.1) ex16
 have e2:(jd model16 10).2=(true,false):=congrArg (fun r:Nat × (Bool × Bool)=>r.2) ex16
 have h:=qeo model16 mod16 jrq 10 (by rw [e2])
 rw [e1,e2] at h
 exact h
theorem jvg:Con Tryz.prog 15 [.str qvu] (.tup [qz qiv,flt 0 0]):=by
 have h:=qem qvu (by decide)
 rw [qeh pxG11 (by decide)] at h
 exact h
theorem jvh:Con Tryz.prog 16 [qz qiv] (.tup [modelG11.av,.bool true]):=by
 have h:=qen qiv (qbb jdt) jdu
 rw [jdv] at h
 exact h
theorem qya:ModOk modelG11:=jdv ▸ qek (qbb jdt) jdu
theorem jvi:Con Tryz.prog 9 [modelG11.av,iv 200] (.agg [iv 2,.bool true,.bool false,.nils]):=by
 have e1:(jd modelG11 200).1.length=2:=congrArg (fun r:Nat × (Bool × Bool)=>r.1) jdw
 have e2:(jd modelG11 200).2=(true,false):=congrArg (fun r:Nat × (Bool × Bool)=>r.2) jdw
 have h:=qeo modelG11 qya qvv 200 (by rw [e2])
 rw [e1,e2] at h
 exact h
theorem jvj:Con Tryz.prog 14 [modelG11.av,iv 1,iv 200] (.tup [iv 2,.bool true]):=by
 have h:=qbk modelG11 qya qvv 1 200
 rw [nrG11] at h
 exact h
theorem jvk:Con Tryz.prog 14 [modelG11.av,iv 1,iv 200] (.tup [iv 2,.bool true]):=by
 have h:=qbk modelG11 qya qvv 1 200
 rw [nqG11] at h
 exact h
theorem jvl:Con Tryz.prog 15 [.str qvw] (.tup [qz qiw,flt 0 0]):=by
 have h:=qem qvw (by decide)
 rw [qeh pxG12 (by decide)] at h
 exact h
theorem jvm:Con Tryz.prog 16 [qz qiw] (.tup [modelG12.av,.bool true]):=by
 have h:=qen qiw (qbb jdx) jdy
 rw [jdz] at h
 exact h
theorem qyb:ModOk modelG12:=jdz ▸ qek (qbb jdx) jdy
theorem jvn:Con Tryz.prog 9 [modelG12.av,iv 200] (.agg [iv 3,.bool true,.bool false,.nils]):=by
 have e1:(jd modelG12 200).1.length=3:=congrArg (fun r:Nat × (Bool × Bool)=>r.1) jea
 have e2:(jd modelG12 200).2=(true,false):=congrArg (fun r:Nat × (Bool × Bool)=>r.2) jea
 have h:=qeo modelG12 qyb qvx 200 (by rw [e2])
 rw [e1,e2] at h
 exact h
theorem jvo:Con Tryz.prog 14 [modelG12.av,iv 2,iv 200] (.tup [iv 3,.bool true]):=by
 have h:=qbk modelG12 qyb qvx 2 200
 rw [nrG12] at h
 exact h
theorem jvp:Con Tryz.prog 14 [modelG12.av,iv 1,iv 200] (.tup [iv 2,.bool true]):=by
 have h:=qbk modelG12 qyb qvx 1 200
 rw [nqG12] at h
 exact h
theorem jvq:Con Tryz.prog 15 [.str qvy] (.tup [qz qix,flt 0 0]):=by
 have h:=qem qvy (by decide)
 rw [qeh pxG13 (by decide)] at h
 exact h
theorem jvr:Con Tryz.prog 16 [qz qix] (.tup [modelG13.av,.bool true]):=by
 have h:=qen qix (qbb jeb) jec
 rw [jed] at h
 exact h
theorem qyc:ModOk modelG13:=jed ▸ qek (qbb jeb) jec
theorem jvs:Con Tryz.prog 9 [modelG13.av,iv 200] (.agg [iv 4,.bool true,.bool false,.nils]):=by
 have e1:(jd modelG13 200).1.length=4:=congrArg (fun r:Nat × (Bool × Bool)=>r.1) jee
 have e2:(jd modelG13 200).2=(true,false):=congrArg (fun r:Nat × (Bool × Bool)=>r.2) jee
 have h:=qeo modelG13 qyc qvz 200 (by rw [e2])
 rw [e1,e2] at h
 exact h
theorem jvt:Con Tryz.prog 14 [modelG13.av,iv 3,iv 200] (.tup [iv 4,.bool true]):=by
 have h:=qbk modelG13 qyc qvz 3 200
 rw [nrG13] at h
 exact h
theorem jvu:Con Tryz.prog 14 [modelG13.av,iv 1,iv 200] (.tup [iv 2,.bool true]):=by
 have h:=qbk modelG13 qyc qvz 1 200
 rw [nqG13] at h
 exact h
theorem jvv:Con Tryz.prog 15 [.str qwa] (.tup [qz qiy,flt 0 0]):=by
 have h:=qem qwa (by decide)
 rw [qeh pxG14 (by decide)] at h
 exact h
theorem jvw:Con Tryz.prog 16 [qz qiy] (.tup [modelG14.av,.bool true]):=by
 have h:=qen qiy (qbb jef) jeg
 rw [jeh] at h
 exact h
theorem qyd:ModOk modelG14:=jeh ▸ qek (qbb jef) jeg
theorem jvx:Con Tryz.prog 9 [modelG14.av,iv 200] (.agg [iv 5,.bool true,.bool false,.nils]):=by
 have e1:(jd modelG14 200).1.length=5:=congrArg (fun r:Nat × (Bool × Bool)=>r.1) jei
 have e2:(jd modelG14 200).2=(true,false):=congrArg (fun r:Nat × (Bool × Bool)=>r.2) jei
 have h:=qeo modelG14 qyd qwb 200 (by rw [e2])
 rw [e1,e2] at h
 exact h
theorem jvy:Con Tryz.prog 14 [modelG14.av,iv 4,iv 200] (.tup [iv 5,.bool true]):=by
 have h:=qbk modelG14 qyd qwb 4 200
 rw [nrG14] at h
 exact h
theorem jvz:Con Tryz.prog 14 [modelG14.av,iv 1,iv 200] (.tup [iv 2,.bool true]):=by
 have h:=qbk modelG14 qyd qwb 1 200
 rw [nqG14] at h
 exact h
theorem jwa:Con Tryz.prog 15 [.str qwc] (.tup [qz qiz,flt 0 0]):=by
 have h:=qem qwc (by decide)
 rw [qeh pxG21 (by decide)] at h
 exact h
theorem jwb:Con Tryz.prog 16 [qz qiz] (.tup [modelG21.av,.bool true]):=by
 have h:=qen qiz (qbb jej) jek
 rw [jel] at h
 exact h
theorem qye:ModOk modelG21:=jel ▸ qek (qbb jej) jek
theorem jwc:Con Tryz.prog 9 [modelG21.av,iv 200] (.agg [iv 4,.bool true,.bool false,.nils]):=by
 have e1:(jd modelG21 200).1.length=4:=congrArg (fun r:Nat × (Bool × Bool)=>r.1) jem
 have e2:(jd modelG21 200).2=(true,false):=congrArg (fun r:Nat × (Bool × Bool)=>r.2) jem
 have h:=qeo modelG21 qye qwd 200 (by rw [e2])
 rw [e1,e2] at h
 exact h
theorem jwd:Con Tryz.prog 14 [modelG21.av,iv 2,iv 200] (.tup [iv 4,.bool true]):=by
 have h:=qbk modelG21 qye qwd 2 200
 rw [nrG21] at h
 exact h
theorem jwe:Con Tryz.prog 14 [modelG21.av,iv 1,iv 200] (.tup [iv 3,.bool true]):=by
 have h:=qbk modelG21 qye qwd 1 200
 rw [nqG21] at h
 exact h
theorem jwf:Con Tryz.prog 15 [.str qwe] (.tup [qz qja,flt 0 0]):=by
 have h:=qem qwe (by decide)
 rw [qeh pxG22 (by decide)] at h
 exact h
theorem jwg:Con Tryz.prog 16 [qz qja] (.tup [modelG22.av,.bool true]):=by
 have h:=qen qja (qbb jen) jeo
 rw [jep] at h
 exact h
theorem qyf:ModOk modelG22:=jep ▸ qek (qbb jen) jeo
theorem jwh:Con Tryz.prog 9 [modelG22.av,iv 200] (.agg [iv 9,.bool true,.bool false,.nils]):=by
 have e1:(jd modelG22 200).1.length=9:=congrArg (fun r:Nat × (Bool × Bool)=>r.1) jeq
 have e2:(jd modelG22 200).2=(true,false):=congrArg (fun r:Nat × (Bool × Bool)=>r.2) jeq
 have h:=qeo modelG22 qyf qwf 200 (by rw [e2])
 rw [e1,e2] at h
 exact h
theorem jwi:Con Tryz.prog 14 [modelG22.av,iv 4,iv 200] (.tup [iv 9,.bool true]):=by
 have h:=qbk modelG22 qyf qwf 4 200
 rw [nrG22] at h
 exact h
theorem jwj:Con Tryz.prog 14 [modelG22.av,iv 1,iv 200] (.tup [iv 3,.bool true]):=by
 have h:=qbk modelG22 qyf qwf 1 200
 rw [nqG22] at h
 exact h
theorem jwk:Con Tryz.prog 15 [.str qwg] (.tup [qz qjb,flt 0 0]):=by
 have h:=qem qwg (by decide)
 rw [qeh pxG23 (by decide)] at h
 exact h
theorem jwl:Con Tryz.prog 16 [qz qjb] (.tup [modelG23.av,.bool true]):=by
 have h:=qen qjb (qbb jer) jes
 rw [jet] at h
 exact h
theorem qyg:ModOk modelG23:=jet ▸ qek (qbb jer) jes
theorem jwm:Con Tryz.prog 9 [modelG23.av,iv 200] (.agg [iv 16,.bool true,.bool false,.nils]):=by
 have e1:(jd modelG23 200).1.length=16:=congrArg (fun r:Nat × (Bool × Bool)=>r.1) jeu
 have e2:(jd modelG23 200).2=(true,false):=congrArg (fun r:Nat × (Bool × Bool)=>r.2) jeu
 have h:=qeo modelG23 qyg qwh 200 (by rw [e2])
 rw [e1,e2] at h
 exact h
theorem jwn:Con Tryz.prog 14 [modelG23.av,iv 6,iv 200] (.tup [iv 16,.bool true]):=by
 have h:=qbk modelG23 qyg qwh 6 200
 rw [nrG23] at h
 exact h
theorem jwo:Con Tryz.prog 14 [modelG23.av,iv 1,iv 200] (.tup [iv 3,.bool true]):=by
 have h:=qbk modelG23 qyg qwh 1 200
 rw [nqG23] at h
 exact h
theorem jwp:Con Tryz.prog 15 [.str qwi] (.tup [qz qjc,flt 0 0]):=by
 have h:=qem qwi (by decide)
 rw [qeh pxG24 (by decide)] at h
 exact h
theorem jwq:Con Tryz.prog 16 [qz qjc] (.tup [modelG24.av,.bool true]):=by
 have h:=qen qjc (qbb jev) jew
 rw [jex] at h
 exact h
theorem qyh:ModOk modelG24:=jex ▸ qek (qbb jev) jew
theorem jwr:Con Tryz.prog 9 [modelG24.av,iv 200] (.agg [iv 25,.bool true,.bool false,.nils]):=by
 have e1:(jd modelG24 200).1.length=25:=congrArg (fun r:Nat × (Bool × Bool)=>r.1) jey
 have e2:(jd modelG24 200).2=(true,false):=congrArg (fun r:Nat × (Bool × Bool)=>r.2) jey
 have h:=qeo modelG24 qyh qwj 200 (by rw [e2])
 rw [e1,e2] at h
 exact h
theorem jws:Con Tryz.prog 14 [modelG24.av,iv 8,iv 200] (.tup [iv 25,.bool true]):=by
 have h:=qbk modelG24 qyh qwj 8 200
 rw [nrG24] at h
 exact h
theorem jwt:Con Tryz.prog 14 [modelG24.av,iv 1,iv 200] (.tup [iv 3,.bool true]):=by
 have h:=qbk modelG24 qyh qwj 1 200
 rw [nqG24] at h
 exact h
theorem jwu:Con Tryz.prog 15 [.str qwk] (.tup [qz qjd,flt 0 0]):=by
 have h:=qem qwk (by decide)
 rw [qeh pxG31 (by decide)] at h
 exact h
theorem jwv:Con Tryz.prog 16 [qz qjd] (.tup [modelG31.av,.bool true]):=by
 have h:=qen qjd (qbb jez) jfa
 rw [jfb] at h
 exact h
theorem qyi:ModOk modelG31:=jfb ▸ qek (qbb jez) jfa
theorem jww:Con Tryz.prog 9 [modelG31.av,iv 200] (.agg [iv 8,.bool true,.bool false,.nils]):=by
 have e1:(jd modelG31 200).1.length=8:=congrArg (fun r:Nat × (Bool × Bool)=>r.1) jfc
 have e2:(jd modelG31 200).2=(true,false):=congrArg (fun r:Nat × (Bool × Bool)=>r.2) jfc
 have h:=qeo modelG31 qyi qwl 200 (by rw [e2])
 rw [e1,e2] at h
 exact h
theorem jwx:Con Tryz.prog 14 [modelG31.av,iv 3,iv 200] (.tup [iv 8,.bool true]):=by
 have h:=qbk modelG31 qyi qwl 3 200
 rw [nrG31] at h
 exact h
theorem jwy:Con Tryz.prog 14 [modelG31.av,iv 1,iv 200] (.tup [iv 4,.bool true]):=by
 have h:=qbk modelG31 qyi qwl 1 200
 rw [nqG31] at h
 exact h
theorem jwz:Con Tryz.prog 15 [.str qwm] (.tup [qz qje,flt 0 0]):=by
 have h:=qem qwm (by decide)
 rw [qeh pxG32 (by decide)] at h
 exact h
theorem jxa:Con Tryz.prog 16 [qz qje] (.tup [modelG32.av,.bool true]):=by
 have h:=qen qje (qbb jfd) jfe
 rw [jff] at h
 exact h
theorem qyj:ModOk modelG32:=jff ▸ qek (qbb jfd) jfe
theorem jxb:Con Tryz.prog 9 [modelG32.av,iv 200] (.agg [iv 27,.bool true,.bool false,.nils]):=by
 have e1:(jd modelG32 200).1.length=27:=congrArg (fun r:Nat × (Bool × Bool)=>r.1) jfg
 have e2:(jd modelG32 200).2=(true,false):=congrArg (fun r:Nat × (Bool × Bool)=>r.2) jfg
 have h:=qeo modelG32 qyj qwn 200 (by rw [e2])
 rw [e1,e2] at h
 exact h
theorem jxc:Con Tryz.prog 14 [modelG32.av,iv 6,iv 200] (.tup [iv 27,.bool true]):=by
 have h:=qbk modelG32 qyj qwn 6 200
 rw [nrG32] at h
 exact h
theorem jxd:Con Tryz.prog 14 [modelG32.av,iv 1,iv 200] (.tup [iv 4,.bool true]):=by
 have h:=qbk modelG32 qyj qwn 1 200
 rw [nqG32] at h
 exact h
theorem jxe:Con Tryz.prog 15 [.str qwo] (.tup [qz qjf,flt 0 0]):=by
 have h:=qem qwo (by decide)
 rw [qeh pxG33 (by decide)] at h
 exact h
theorem jxf:Con Tryz.prog 16 [qz qjf] (.tup [modelG33.av,.bool true]):=by
 have h:=qen qjf (qbb jfh) jfi
 rw [jfj] at h
 exact h
theorem qyk:ModOk modelG33:=jfj ▸ qek (qbb jfh) jfi
theorem jxg:Con Tryz.prog 9 [modelG33.av,iv 200] (.agg [iv 64,.bool true,.bool false,.nils]):=by
 have e1:(jd modelG33 200).1.length=64:=congrArg (fun r:Nat × (Bool × Bool)=>r.1) jfk
 have e2:(jd modelG33 200).2=(true,false):=congrArg (fun r:Nat × (Bool × Bool)=>r.2) jfk
 have h:=qeo modelG33 qyk qwp 200 (by rw [e2])
 rw [e1,e2] at h
 exact h
theorem jxh:Con Tryz.prog 14 [modelG33.av,iv 9,iv 200] (.tup [iv 64,.bool true]):=by
 have h:=qbk modelG33 qyk qwp 9 200
 rw [nrG33] at h
 exact h
theorem jxi:Con Tryz.prog 14 [modelG33.av,iv 1,iv 200] (.tup [iv 4,.bool true]):=by
 have h:=qbk modelG33 qyk qwp 1 200
 rw [nqG33] at h
 exact h
theorem jxj:Con Tryz.prog 15 [.str qwq] (.tup [qz qjg,flt 0 0]):=by
 have h:=qem qwq (by decide)
 rw [qeh pxG34 (by decide)] at h
 exact h
theorem jxk:Con Tryz.prog 16 [qz qjg] (.tup [modelG34.av,.bool true]):=by
 have h:=qen qjg (qbb jfl) jfm
 rw [jfn] at h
 exact h
theorem qyl:ModOk modelG34:=jfn ▸ qek (qbb jfl) jfm
theorem jxl:Con Tryz.prog 9 [modelG34.av,iv 200] (.agg [iv 125,.bool true,.bool false,.nils]):=by
 have e1:(jd modelG34 200).1.length=125:=congrArg (fun r:Nat × (Bool × Bool)=>r.1) jfo
 have e2:(jd modelG34 200).2=(true,false):=congrArg (fun r:Nat × (Bool × Bool)=>r.2) jfo
 have h:=qeo modelG34 qyl qwr 200 (by rw [e2])
 rw [e1,e2] at h
 exact h
theorem jxm:Con Tryz.prog 14 [modelG34.av,iv 12,iv 200] (.tup [iv 125,.bool true]):=by
 have h:=qbk modelG34 qyl qwr 12 200
 rw [nrG34] at h
 exact h
theorem jxn:Con Tryz.prog 14 [modelG34.av,iv 1,iv 200] (.tup [iv 4,.bool true]):=by
 have h:=qbk modelG34 qyl qwr 1 200
 rw [nqG34] at h
 exact h
theorem qmo:Con Tryz.prog 6 [] (.bool true):=by
 refine zK {} 300 Tryz.func6 (fun c0 rdb=>?_)
 (repeat' ((conv=>whnf);first|refine zA ?_|refine zO ?_|refine Ob.auto ?_|(refine Ob.intro (by (first|exact ⟨by decide,by decide⟩|exact fun _=>⟨by decide,by decide⟩)) ?_)|refine zC 300 (qml) ?_|refine zG 300 (fun hg=>qml) ?_|(refine CallY.con (qml) (by rfl) leA ?_)|(refine CallZ.con (fun hg=>qml) jp (by rfl) ?_)|refine zC 300 (qmm) ?_|refine zG 300 (fun hg=>qmm) ?_|(refine CallY.con (qmm) (by rfl) leA ?_)|(refine CallZ.con (fun hg=>qmm) jp (by rfl) ?_)|refine zC 300 (qmn) ?_|refine zG 300 (fun hg=>qmn) ?_|(refine CallY.con (qmn) (by rfl) leA ?_)|(refine CallZ.con (fun hg=>qmn) jp (by rfl) ?_)|(refine qm (fun _=>rfl) 300 (qml) qc (by (repeat' (first|exact trivial|exact Le.refl _|(refine And.intro ?_ ?_))) <;> fail) (by rfl) (by kernel_rfl) ?_)|(refine jb (fun _=>rfl) 300 (fun hg=>qml) (fun hg=>qc) (fun hg=>(by (repeat' (first|exact trivial|exact Le.refl _|exact Le.cnd hg|(refine And.intro ?_ ?_))) <;> fail)) (by rfl) (by kernel_rfl) ?_)|(refine qm (fun _=>rfl) 300 (qmm) qc (by (repeat' (first|exact trivial|exact Le.refl _|(refine And.intro ?_ ?_))) <;> fail) (by rfl) (by kernel_rfl) ?_)|(refine jb (fun _=>rfl) 300 (fun hg=>qmm) (fun hg=>qc) (fun hg=>(by (repeat' (first|exact trivial|exact Le.refl _|exact Le.cnd hg|(refine And.intro ?_ ?_))) <;> fail)) (by rfl) (by kernel_rfl) ?_)|(refine qm (fun _=>rfl) 300 (qmn) qc (by (repeat' (first|exact trivial|exact Le.refl _|(refine And.intro ?_ ?_))) <;> fail) (by rfl) (by kernel_rfl) ?_)|(refine jb (fun _=>rfl) 300 (fun hg=>qmn) (fun hg=>qc) (fun hg=>(by (repeat' (first|exact trivial|exact Le.refl _|exact Le.cnd hg|(refine And.intro ?_ ?_))) <;> fail)) (by rfl) (by kernel_rfl) ?_)|refine zD 300 ?_|(apply zB <;> intro hb <;> (try simp [-List.getD_eq_getElem?_getD] at hb) <;> try (exfalso;omega))|refine Ob.intro ?_ ?_))
 exact Le.of_eq (congrArg AV.bool (by kernel_rfl))
end Go.Proofs.YtikahnkkfkoglaaGreatDoor
