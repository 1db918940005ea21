/- Some texts of the library, one behind the other. -/
import Derived.Test.YtikahnkkfkoglaaGreatDoorY136
import Derived.Test.YtikahnkkfkoglaaGreatDoorY12
set_option linter.unusedSimpArgs false
set_option linter.unusedVariables false
section
namespace Go.Proofs.YtikahnkkfkoglaaGreatDoor
open Go Go.Sx Go.RowKit Go.St
set_option maxRecDepth 100000
set_option maxHeartbeats 8000000
section
variable (m:Md) (nv:Nat) (fv:Nat→List AV) (np:Nat) (fp:Nat→List AV) (p:Pr) (a frm to:Int) (h0:0≤a) (h1:a<m.tree.length)
abbrev qfw (m:Md) (nv:Nat) (fv:Nat→List AV) (np:Nat) (fp:Nat→List AV) (p:Pr) (a frm to:Int) (q:Pr):Prop:=qht 67 [mdO m nv np,prV p,iv a,iv frm,iv to] [vrSO nv fv,pcSO np fp] q
abbrev qkm (m:Md) (nv:Nat) (fv:Nat→List AV) (np:Nat) (fp:Nat→List AV) (p:Pr) (a frm to:Int) (q:Pr):Prop:=qht 104 [mdO m nv np,prV p,iv a,iv frm,iv to] [vrSO nv fv,pcSO np fp] q
include h0 h1 in
theorem stat6_trip (hk:(m.tree.getD a.toNat nd0).kind=6) (hk1:(m.tree.getD a.toNat nd0).kids.length=1) (hw1:(m.tree.getD a.toNat nd0).words.length=1) (hE:p.edges.length≤50000) (hn:p.names.length=p.vars.length∧p.names.length≤100000)
  (hf:0≤qcf p.names ((m.tree.getD a.toNat nd0).words.getD 0 [])∧qcf p.names ((m.tree.getD a.toNat nd0).words.getD 0 [])<p.names.length) :
  qfw m nv fv np fp p a frm to (putF p frm to 1 a ((m.tree.getD a.toNat nd0).kids.getD 0 0) (p.vars.getD (qcf p.names ((m.tree.getD a.toNat nd0).words.getD 0 [])).toNat 0) (-1)):=by
 refine qdc (T:=tab Tryz.prog) (C:={}) 5 1500 (fun _=>rfl) Tryz.func67 rfl (by kernel_rfl) (by kernel_rfl) (fun c0 rdb mpb=>?_)
 (repeat' ((conv=>whnf);first|refine Ob.auto ?_|(refine CallY.con (jfo p.names (by omega) ((m.tree.getD a.toNat nd0).words.getD 0 [])) (by rfl) leA ?_)|(refine zQ 1500 ?_)|(apply zB <;> intro hb <;> (try simp [-List.getD_eq_getElem?_getD] at hb) <;> try (exfalso;omega))))
 ((conv=>whnf);refine CallY.trip [] (qcu p (by omega) frm to 1 a ((m.tree.getD a.toNat nd0).kids.getD 0 0) (p.vars.getD (qcf p.names ((m.tree.getD a.toNat nd0).words.getD 0 [])).toNat 0) (-1)) (by kernel_rfl) leA qa (by exact qb rfl) (by exact qb rfl) ?_)
 (repeat' ((conv=>whnf);first|refine zA ?_|refine Ob.auto ?_|fail))
 (refine ⟨⟨Le.refl _,qa⟩,qdb rfl (SoLe.refl _)⟩)
include h0 h1 in
theorem stat7_trip (hk:(m.tree.getD a.toNat nd0).kind=7) (hk1:(m.tree.getD a.toNat nd0).kids.length=1) (hw1:(m.tree.getD a.toNat nd0).words.length=1) (hE:p.edges.length≤50000) (hC:m.chans.length≤1000000) :
  qfw m nv fv np fp p a frm to (putF p frm to 2 a ((m.tree.getD a.toNat nd0).kids.getD 0 0) (-1) (qeu m.chans ((m.tree.getD a.toNat nd0).words.getD 0 []))):=by
 refine qdc (T:=tab Tryz.prog) (C:={}) 5 1500 (fun _=>rfl) Tryz.func67 rfl (by kernel_rfl) (by kernel_rfl) (fun c0 rdb mpb=>?_)
 (repeat' ((conv=>whnf);first|refine Ob.auto ?_|(refine zQ 1500 ?_)|(apply zB <;> intro hb <;> (try simp [-List.getD_eq_getElem?_getD] at hb) <;> try (exfalso;omega))))
 ((conv=>whnf);refine CallY.lend (jfp m nv fv np fp hC ((m.tree.getD a.toNat nd0).words.getD 0 [])) (by repeat' (first|exact trivial|exact ⟨rfl,rfl⟩|exact rfl|assumption|(refine And.intro ?_ ?_)|(intro _))) leA (by rfl) ?_)
 ((conv=>whnf);refine CallY.trip [] (qcu p (by omega) frm to 2 a ((m.tree.getD a.toNat nd0).kids.getD 0 0) (-1) (qeu m.chans ((m.tree.getD a.toNat nd0).words.getD 0 []))) (by kernel_rfl) leA qa (by exact qb rfl) (by exact qb rfl) ?_)
 (repeat' ((conv=>whnf);first|refine Ob.auto ?_|fail))
 ((conv=>whnf);refine AltG.same 14 (by kernel_rfl) (by repeat' (first|exact trivial|exact fun h=>Bool.noConfusion h|exact fun _=>⟨rfl,rfl⟩|(refine And.intro ?_ ?_))) (EndG.go ?_))
 (repeat' ((conv=>whnf);first|refine Ob.auto ?_|fail))
 (refine ⟨⟨Le.refl _,qa⟩,qdb rfl (SoLe.refl _)⟩)
end
end Go.Proofs.YtikahnkkfkoglaaGreatDoor
end
section
namespace Go.Proofs.YtikahnkkfkoglaaGreatDoor
open List renaming getD_eq_getElem?_getD → zd
open Go Go.Sx Go.RowKit Go.St
set_option maxRecDepth 100000
set_option maxHeartbeats 8000000
section
variable (m:Md) (nv:Nat) (fv:Nat→List AV) (np:Nat) (fp:Nat→List AV) (p:Pr) (a frm to:Int) (h0:0≤a) (h1:a<m.tree.length)
include h0 h1 in
theorem stat8_trip (hk:(m.tree.getD a.toNat nd0).kind=8) (hn1:(m.tree.getD a.toNat nd0).nums.length=1) (hw2:(m.tree.getD a.toNat nd0).words.length=2) (hE:p.edges.length≤50000) (hC:m.chans.length≤1000000) (hn:p.names.length=p.vars.length∧p.names.length≤100000)
  (hf:0≤qcf p.names ((m.tree.getD a.toNat nd0).words.getD 1 [])∧qcf p.names ((m.tree.getD a.toNat nd0).words.getD 1 [])<p.names.length) (hF:0≤frm∧frm<p.rest.length) (hR:p.rest.length≤100000) :
  qfw m nv fv np fp p a frm to (putF (jy p frm ((m.tree.getD a.toNat nd0).nums.getD 0 0)) frm to 3 a (-1) (p.vars.getD (qcf p.names ((m.tree.getD a.toNat nd0).words.getD 1 [])).toNat 0) (qeu m.chans ((m.tree.getD a.toNat nd0).words.getD 0 []))):=by
 have hE2:(jy p frm ((m.tree.getD a.toNat nd0).nums.getD 0 0)).edges.length≤100000:=by show p.edges.length≤100000;omega
 have e1:(jy p frm ((m.tree.getD a.toNat nd0).nums.getD 0 0)).vars.length=p.vars.length:=rfl
 refine qdc (T:=tab Tryz.prog) (C:={}) 5 1500 (fun _=>rfl) Tryz.func67 rfl (by kernel_rfl) (by kernel_rfl) (fun c0 rdb mpb=>?_)
 (repeat' ((conv=>whnf);first|refine zA ?_|refine Ob.auto ?_|(refine CallY.con (jfo p.names (by omega) ((m.tree.getD a.toNat nd0).words.getD 1 [])) (by rfl) leA ?_)|(refine CallY.con (qxh p frm ((m.tree.getD a.toNat nd0).nums.getD 0 0) hF hR) (by rfl) leA ?_)|(refine zQ 1500 ?_)|(apply zB <;> intro hb <;> (try simp [-zd] at hb) <;> try (exfalso;omega))))
 ((conv=>whnf);refine CallY.lend (jfp m nv fv np fp hC ((m.tree.getD a.toNat nd0).words.getD 0 [])) (by repeat' (first|exact trivial|exact ⟨rfl,rfl⟩|exact rfl|assumption|(refine And.intro ?_ ?_)|(intro _))) leA (by rfl) ?_)
 ((conv=>whnf);refine CallY.trip [] (qcu (jy p frm ((m.tree.getD a.toNat nd0).nums.getD 0 0)) hE2 frm to 3 a (-1) (p.vars.getD (qcf p.names ((m.tree.getD a.toNat nd0).words.getD 1 [])).toNat 0) (qeu m.chans ((m.tree.getD a.toNat nd0).words.getD 0 []))) (by kernel_rfl) leA qa (by exact qb rfl) (by exact qb rfl) ?_)
 (repeat' ((conv=>whnf);first|refine Ob.auto ?_|fail))
 ((conv=>whnf);refine AltG.same 21 (by kernel_rfl) (by repeat' (first|exact trivial|exact fun h=>Bool.noConfusion h|exact fun _=>⟨rfl,rfl⟩|(refine And.intro ?_ ?_))) (EndG.go ?_))
 (repeat' ((conv=>whnf);first|refine Ob.auto ?_|fail))
 (refine ⟨⟨Le.refl _,qa⟩,qdb rfl (SoLe.refl _)⟩)
include h0 h1 in
theorem stat9_trip (hk:(m.tree.getD a.toNat nd0).kind=9) (hk1:(m.tree.getD a.toNat nd0).kids.length=1) (hn1:(m.tree.getD a.toNat nd0).nums.length=1) (hE:p.edges.length≤50000) (hF:0≤frm∧frm<p.rest.length) (hR:p.rest.length≤100000) :
  qfw m nv fv np fp p a frm to (putF (jy p frm ((m.tree.getD a.toNat nd0).nums.getD 0 0)) frm to 4 a ((m.tree.getD a.toNat nd0).kids.getD 0 0) (-1) (-1)):=by
 have hE2:(jy p frm ((m.tree.getD a.toNat nd0).nums.getD 0 0)).edges.length≤100000:=by show p.edges.length≤100000;omega
 refine qdc (T:=tab Tryz.prog) (C:={}) 5 1500 (fun _=>rfl) Tryz.func67 rfl (by kernel_rfl) (by kernel_rfl) (fun c0 rdb mpb=>?_)
 (repeat' ((conv=>whnf);first|refine zA ?_|refine Ob.auto ?_|(refine CallY.con (qxh p frm ((m.tree.getD a.toNat nd0).nums.getD 0 0) hF hR) (by rfl) leA ?_)|(refine zQ 1500 ?_)|(apply zB <;> intro hb <;> (try simp [-zd] at hb) <;> try (exfalso;omega))))
 ((conv=>whnf);refine CallY.trip [] (qcu (jy p frm ((m.tree.getD a.toNat nd0).nums.getD 0 0)) hE2 frm to 4 a ((m.tree.getD a.toNat nd0).kids.getD 0 0) (-1) (-1)) (by kernel_rfl) leA qa (by exact qb rfl) (by exact qb rfl) ?_)
 (repeat' ((conv=>whnf);first|refine zA ?_|refine Ob.auto ?_|fail))
 (refine ⟨⟨Le.refl _,qa⟩,qdb rfl (SoLe.refl _)⟩)
include h0 h1 in
theorem stat15_trip (hk:(m.tree.getD a.toNat nd0).kind=15) (hE:p.edges.length≤50000):qfw m nv fv np fp p a frm to (putF p frm 1 0 a (-1) (-1) (-1)):=by
 refine qdc (T:=tab Tryz.prog) (C:={}) 5 1500 (fun _=>rfl) Tryz.func67 rfl (by kernel_rfl) (by kernel_rfl) (fun c0 rdb mpb=>?_)
 (repeat' ((conv=>whnf);first|refine Ob.auto ?_|(apply zB <;> intro hb <;> (try simp [-zd] at hb) <;> try (exfalso;omega))))
 (first|((conv=>whnf);refine zT 1500 [] (qcu p (by omega) frm 1 0 a (-1) (-1) (-1)) qa ?_)|((conv=>whnf);refine CallY.trip [] (qcu p (by omega) frm 1 0 a (-1) (-1) (-1)) (by kernel_rfl) leA qa (by exact qb rfl) (by exact qb rfl) ?_))
 (repeat' ((conv=>whnf);first|refine Ob.auto ?_|fail))
 (refine ⟨⟨Le.refl _,qa⟩,qdb rfl (SoLe.refl _)⟩)
include h0 h1 in
theorem stat14_trip (hk:(m.tree.getD a.toNat nd0).kind=14) (hE:p.edges.length≤50000):qfw m nv fv np fp p a frm to (putF p frm to 0 a (-1) (-1) (-1)):=by
 refine qdc (T:=tab Tryz.prog) (C:={}) 5 1500 (fun _=>rfl) Tryz.func67 rfl (by kernel_rfl) (by kernel_rfl) (fun c0 rdb mpb=>?_)
 (repeat' ((conv=>whnf);first|refine Ob.auto ?_|(apply zB <;> intro hb <;> (try simp [-zd] at hb) <;> try (exfalso;omega))))
 (first|((conv=>whnf);refine zT 1500 [] (qcu p (by omega) frm to 0 a (-1) (-1) (-1)) qa ?_)|((conv=>whnf);refine CallY.trip [] (qcu p (by omega) frm to 0 a (-1) (-1) (-1)) (by kernel_rfl) leA qa (by exact qb rfl) (by exact qb rfl) ?_))
 (repeat' ((conv=>whnf);first|refine Ob.auto ?_|fail))
 (refine ⟨⟨Le.refl _,qa⟩,qdb rfl (SoLe.refl _)⟩)
end
section
variable (m:Md) (nv:Nat) (fv:Nat→List AV) (np:Nat) (fp:Nat→List AV) (p:Pr) (a frm to:Int) (h0:0≤a) (h1:a<m.tree.length)
include h0 h1 in
theorem stat12_trip (q:Pr) (hk:(m.tree.getD a.toNat nd0).kind=12) (hk1:(m.tree.getD a.toNat nd0).kids.length=2) (hE:p.edges.length≤50000) (hP:0≤p.places∧p.places≤100000) (hR:p.rest.length≤100000)
  (B:qkm m nv fv np fp (putF (putF (qg p) frm p.places 4 a ((m.tree.getD a.toNat nd0).kids.getD 0 0) (-1) (-1)) frm to 5 a ((m.tree.getD a.toNat nd0).kids.getD 0 0) (-1) (-1)) ((m.tree.getD a.toNat nd0).kids.getD 1 0) p.places frm q):qfw m nv fv np fp p a frm to q:=by
 have hE1:(qg p).edges.length≤100000:=by show p.edges.length≤100000;omega
 have hE2:(putF (qg p) frm p.places 4 a ((m.tree.getD a.toNat nd0).kids.getD 0 0) (-1) (-1)).edges.length≤100000:=by simp [putF,qg];omega
 refine qdc (T:=tab Tryz.prog) (C:={}) 5 1500 (fun _=>rfl) Tryz.func67 rfl (by kernel_rfl) (by kernel_rfl) (fun c0 rdb mpb=>?_)
 (repeat' ((conv=>whnf);first|refine Ob.auto ?_|refine zC 1500 (qkl p hP hR) ?_|(refine zQ 1500 ?_)|(apply zB <;> intro hb <;> (try simp [-zd] at hb) <;> try (exfalso;omega))))
 ((conv=>whnf);refine CallY.trip [] (qcu (qg p) hE1 frm p.places 4 a ((m.tree.getD a.toNat nd0).kids.getD 0 0) (-1) (-1)) (by kernel_rfl) leA qa (by exact qb rfl) (by exact qb rfl) ?_)
 (repeat' ((conv=>whnf);first|refine Ob.auto ?_|fail))
 ((conv=>whnf);refine AltG.none (by kernel_rfl) (EndG.go ?_))
 ((conv=>whnf);refine qdi [0,1,2,3,4,5,6] 6 rfl frzA ?_)
 (repeat' ((conv=>whnf);first|refine Ob.auto ?_|(refine zQ 1500 ?_)|fail))
 ((conv=>whnf);refine CallY.trip [] (qcu _ hE2 frm to 5 a ((m.tree.getD a.toNat nd0).kids.getD 0 0) (-1) (-1)) (by kernel_rfl) leA qa (by exact qb rfl) (by exact qb rfl) ?_)
 (repeat' ((conv=>whnf);first|refine Ob.auto ?_|fail))
 ((conv=>whnf);refine AltG.none (by kernel_rfl) (EndG.go ?_))
 ((conv=>whnf);refine qdi [0,1,2,3,4,5,6] 6 rfl frzA ?_)
 (repeat' ((conv=>whnf);first|refine Ob.auto ?_|(refine zQ 1500 ?_)|fail))
 ((conv=>whnf);refine CallY.trip [0,1] (B) (by kernel_rfl) leA qa (by exact qb rfl) (by exact qb rfl) ?_)
 (repeat' ((conv=>whnf);first|refine zA ?_|refine Ob.auto ?_|fail))
 (refine ⟨⟨Le.refl _,qa⟩,qdb rfl (SoLe.refl _)⟩)
include h0 h1 in
theorem stat11_trip (q1 q:Pr) (hk:(m.tree.getD a.toNat nd0).kind=11) (hk1:(m.tree.getD a.toNat nd0).kids.length=2) (hE:p.edges.length≤50000) (hP:0≤p.places∧p.places≤100000) (hR:p.rest.length≤100000)
  (B:qkm m nv fv np fp (putF (qg p) frm p.places 4 a ((m.tree.getD a.toNat nd0).kids.getD 0 0) (-1) (-1)) ((m.tree.getD a.toNat nd0).kids.getD 1 0) p.places to q1) (hE1:q1.edges.length≤100000) :
  qfw m nv fv np fp p a frm to (putF q1 frm to 5 a ((m.tree.getD a.toNat nd0).kids.getD 0 0) (-1) (-1)):=by
 have hE2:(qg p).edges.length≤100000:=by show p.edges.length≤100000;omega
 refine qdc (T:=tab Tryz.prog) (C:={}) 5 1500 (fun _=>rfl) Tryz.func67 rfl (by kernel_rfl) (by kernel_rfl) (fun c0 rdb mpb=>?_)
 (repeat' ((conv=>whnf);first|refine Ob.auto ?_|refine zC 1500 (qkl p hP hR) ?_|(refine zQ 1500 ?_)|(apply zB <;> intro hb <;> (try simp [-zd] at hb) <;> try (exfalso;omega))))
 ((conv=>whnf);refine CallY.trip [] (qcu (qg p) hE2 frm p.places 4 a ((m.tree.getD a.toNat nd0).kids.getD 0 0) (-1) (-1)) (by kernel_rfl) leA qa (by exact qb rfl) (by exact qb rfl) ?_)
 (repeat' ((conv=>whnf);first|refine Ob.auto ?_|fail))
 ((conv=>whnf);refine AltG.none (by kernel_rfl) (EndG.go ?_))
 ((conv=>whnf);refine qdi [0,1,2,3,4,5,6] 6 rfl frzA ?_)
 (repeat' ((conv=>whnf);first|refine Ob.auto ?_|(refine zQ 1500 ?_)|fail))
 ((conv=>whnf);refine CallY.trip [0,1] (B) (by kernel_rfl) leA qa (by exact qb rfl) (by exact qb rfl) ?_)
 (repeat' ((conv=>whnf);first|refine Ob.auto ?_|fail))
 ((conv=>whnf);refine AltG.none (by kernel_rfl) (EndG.go ?_))
 (repeat' ((conv=>whnf);first|(apply zB <;> intro hb <;> (try simp [-zd] at hb) <;> try (exfalso;omega))))
 all_goals first
  | (exfalso;omega)
  | skip
 ((conv=>whnf);refine qdi [0,1,2,3,4,5,6] 6 rfl frzA ?_)
 (repeat' ((conv=>whnf);first|refine Ob.auto ?_|(refine zQ 1500 ?_)|fail))
 ((conv=>whnf);refine CallY.trip [] (qcu _ hE1 frm to 5 a ((m.tree.getD a.toNat nd0).kids.getD 0 0) (-1) (-1)) (by kernel_rfl) leA qa (by exact qb rfl) (by exact qb rfl) ?_)
 (repeat' ((conv=>whnf);first|refine zA ?_|refine Ob.auto ?_|fail))
 (refine ⟨⟨Le.refl _,qa⟩,qdb rfl (SoLe.refl _)⟩)
include h0 h1 in
theorem stat11b_trip (q1 q:Pr) (hk:(m.tree.getD a.toNat nd0).kind=11) (hk1:(m.tree.getD a.toNat nd0).kids.length=3) (hE:p.edges.length≤50000) (hP:0≤p.places∧p.places≤100000) (hR:p.rest.length≤100000)
  (B:qkm m nv fv np fp (putF (qg p) frm p.places 4 a ((m.tree.getD a.toNat nd0).kids.getD 0 0) (-1) (-1)) ((m.tree.getD a.toNat nd0).kids.getD 1 0) p.places to q1) (hE1:q1.edges.length≤100000) (hP1:0≤q1.places∧q1.places≤100000) (hR1:q1.rest.length≤100000)
  (B2:qkm m nv fv np fp (putF (qg q1) frm q1.places 5 a ((m.tree.getD a.toNat nd0).kids.getD 0 0) (-1) (-1)) ((m.tree.getD a.toNat nd0).kids.getD 2 0) q1.places to q) :
  qfw m nv fv np fp p a frm to q:=by
 have hE2:(qg p).edges.length≤100000:=by show p.edges.length≤100000;omega
 have hE3:(qg q1).edges.length≤100000:=hE1
 refine qdc (T:=tab Tryz.prog) (C:={}) 5 1500 (fun _=>rfl) Tryz.func67 rfl (by kernel_rfl) (by kernel_rfl) (fun c0 rdb mpb=>?_)
 (repeat' ((conv=>whnf);first|refine Ob.auto ?_|refine zC 1500 (qkl p hP hR) ?_|(refine zQ 1500 ?_)|(apply zB <;> intro hb <;> (try simp [-zd] at hb) <;> try (exfalso;omega))))
 ((conv=>whnf);refine CallY.trip [] (qcu (qg p) hE2 frm p.places 4 a ((m.tree.getD a.toNat nd0).kids.getD 0 0) (-1) (-1)) (by kernel_rfl) leA qa (by exact qb rfl) (by exact qb rfl) ?_)
 (repeat' ((conv=>whnf);first|refine Ob.auto ?_|fail))
 ((conv=>whnf);refine AltG.none (by kernel_rfl) (EndG.go ?_))
 ((conv=>whnf);refine qdi [0,1,2,3,4,5,6] 6 rfl frzA ?_)
 (repeat' ((conv=>whnf);first|refine Ob.auto ?_|(refine zQ 1500 ?_)|fail))
 ((conv=>whnf);refine CallY.trip [0,1] (B) (by kernel_rfl) leA qa (by exact qb rfl) (by exact qb rfl) ?_)
 (repeat' ((conv=>whnf);first|refine Ob.auto ?_|fail))
 ((conv=>whnf);refine AltG.none (by kernel_rfl) (EndG.go ?_))
 (repeat' ((conv=>whnf);first|(apply zB <;> intro hb <;> (try simp [-zd] at hb) <;> try (exfalso;omega))))
 all_goals first
  | (exfalso;omega)
  | skip
 ((conv=>whnf);refine jaj [0,1,2,3,4,5,6] frzA ?_)
 ((conv=>whnf);refine qef (fun _=>rfl) 1500 (qkl q1 hP1 hR1) (by rfl) leA (by kernel_rfl) ?_)
 (repeat' ((conv=>whnf);first|refine Ob.auto ?_|(refine zQ 1500 ?_)|fail))
 ((conv=>whnf);refine CallY.trip [] (qcu (qg q1) hE3 frm q1.places 5 a ((m.tree.getD a.toNat nd0).kids.getD 0 0) (-1) (-1)) (by kernel_rfl) leA qa (by exact qb rfl) (by exact qb rfl) ?_)
 (repeat' ((conv=>whnf);first|refine Ob.auto ?_|fail))
 ((conv=>whnf);refine AltG.none (by kernel_rfl) (EndG.go ?_))
 ((conv=>whnf);refine qdi [0,1,2,3,4,5,6] 6 rfl frzA ?_)
 (repeat' ((conv=>whnf);first|refine Ob.auto ?_|(refine zQ 1500 ?_)|fail))
 ((conv=>whnf);refine CallY.trip [0,1] (B2) (by kernel_rfl) leA qa (by exact qb rfl) (by exact qb rfl) ?_)
 (repeat' ((conv=>whnf);first|refine zA ?_|refine Ob.auto ?_|fail))
 (refine ⟨⟨Le.refl _,qa⟩,qdb rfl (SoLe.refl _)⟩)
end
end Go.Proofs.YtikahnkkfkoglaaGreatDoor
end
