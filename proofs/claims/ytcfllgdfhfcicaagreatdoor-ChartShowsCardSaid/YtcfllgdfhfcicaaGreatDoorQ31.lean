/- Some texts of the library, one behind the other. -/
import Derived.Test.YtcfllgdfhfcicaaGreatDoorQ30
import Derived.Test.YtcfllgdfhfcicaaGreatDoorQ2
set_option linter.unusedSimpArgs false
set_option linter.unusedVariables false
section
namespace Go.Proofs.YtcfllgdfhfcicaaGreatDoor
open Go Go.Sx Go.RowKit Go.St
set_option maxRecDepth 100000
set_option maxHeartbeats 4000000
def rowF (l:List (List Int)):SO:=.row [4] 28 1 0 l.length (fun k=>[.own 4 k 1 (l.getD k []).length])
def famF (l:List (List Int)):SO:=.fam 3 1 l.length (fun _=>1) (fun k=>(l.getD k []).length) (fun k=>encL (fun n=>[iv n]) 0 (l.getD k []))
theorem qmk {L:List Int} {x:Int} {g:Nat→List AV} (hg:g 0=[iv x]) {j:Nat} (hj:j<L.length+1):appF L.length (encL (fun n=>[iv n]) 0 L) 1 g j=encL (fun n=>[iv n]) 0 (L++[x]) j:=by
 unfold appF encL
 rw [qix]
 by_cases hl:j<L.length
 ·rw [zb hl,zb hl]
 ·obtain rfl:j=L.length:=by omega
  rw [za hl,za hl,zb rfl,zb (by omega),xw,hg]
theorem juw (m:Md) (hM:ModOk m) (s:Stt) (hf:ql m s=true) (hh:s.holder=-1) (p:Nat) (hp:p<m.procs.length) (e:Ed) (he:EdOk m.tree.length m.vars.length m.chans.length (m.procs.getD p pr0).places e) (hc:canB m s p e=true) (h2:e.act=2) :
  Trip Tryz.prog 120 [m.av,.ptr 0 0,iv p,.agg e.cells] [boxS s,rowI s.at_,rowI s.vars,rowF s.chans,famF s.chans] (.tup [])
   [(0,.box 76 (qbq m s p e).cells)] 5:=by
 have hs:=qck hM hf
 have h0:=((jb m s).1 hf).1
 have hsv:=qxk m hM.ok p s hs e.expr
 have hex:=he.ex
 have hvr:=he.var
 have hch:=he.chn
 have hto:=he.to
 have hat:p<s.at_.length:=by omega
 have hvl:=h0.2.1
 have hcl:=h0.2.2.1
 have hT:=qot hM hf (p:=p) hto (qou hc)
 have hTs:=qck hM hT
 have hmv:=jfm m hM.ok (qo m s p e) hT hTs p hp (pl:=(m.procs.getD p pr0).places) (fun e he=>(hM.pr _ (qe m.procs p pr0 hp)).ed e he) (hM.psz _ (qe m.procs p pr0 hp)).1
 have hA:∀ j,(if j=p then [iv e.to] else encL (fun n=>[iv n]) 0 s.at_ j)=encL (fun n=>[iv n]) 0 (s.at_.set p e.to) j:=qcm (fun n=>[iv n]) 0 s.at_ p e.to hat
 unfold boxS rowI rowF famF
 refine zL {} 300 Tryz.func120 (fun c0 rdb mpb=>?_)
 (repeat' ((conv=>whnf);first|(apply zB <;> intro hb <;> (try simp [-List.getD_eq_getElem?_getD] at hb) <;> try (exfalso;omega))))
 ((conv=>whnf);refine zQ 300 ?_)
 ((conv=>whnf);refine CallY.lend (hsv) (by repeat' (first|exact trivial|exact ⟨rfl,rfl⟩|exact rfl|assumption|(refine And.intro ?_ ?_)|(intro _))) leA (by rfl) ?_)
 (repeat' ((conv=>whnf);first|refine zA ?_|fail))
 ((conv=>whnf);refine qbg (fun _=>rfl) (by kernel_rfl) 300 [.con (iv (trim (sval m p s e.expr).1 (m.chans.getD e.chn.toNat ch0).width))] (by kernel_rfl) ?_)
 (repeat' ((conv=>whnf);first|refine zO ?_|refine Ob.auto ?_|(refine Ob.intro (by (first|exact ⟨by omega,by omega⟩|exact ⟨_,qmf (sval m p s e.expr).1 (m.chans.getD e.chn.toNat ch0).width,by rfl,LeL.refl _⟩)) ?_)|refine zD 300 ?_|refine Ob.intro ?_ ?_|fail))
 ·have hcl2:=hTs.l
  have hl:=hs.l _ (qe s.chans e.chn.toNat [] (by omega))
  refine ⟨by omega,⟨rfl,rfl⟩,by omega,?_⟩
  dsimp only
  refine xa (xd _ (?_:_≤4000001)) (by decide +kernel);omega
 ·exact ⟨⟨⟨rfl,rfl⟩,by omega⟩,by omega,by simp [upd],by simp [upd]⟩
 have hTe:qo m s p e=⟨s.at_.set p e.to,s.vars,s.chans.set e.chn.toNat (s.chans.getD e.chn.toNat []++[trim (sval m p s e.expr).1 (m.chans.getD e.chn.toNat ch0).width]),-1⟩:=by
  have h3:=hex (.inr (.inl h2))
  simp [qo,h2,sval,h3,hf,za (show ¬ e.expr<0 by omega)]
 generalize hmsg:trim (sval m p s e.expr).1 (m.chans.getD e.chn.toNat ch0).width=msg at hTe ⊢
 have hlen:∀ k,((s.chans.set e.chn.toNat (s.chans.getD e.chn.toNat []++[msg])).getD k []).length=if k=e.chn.toNat then (s.chans.getD e.chn.toNat []).length+1 else (s.chans.getD k []).length:=fun k=>by
  rw [qdn]
  by_cases h:k=e.chn.toNat
  ·rw [zb ⟨h,by omega⟩,zb h];simp
  ·rw [za (fun h'=>h h'.1),za h]
 refine jfp 3 (.row [4] 28 1 0 s.chans.length (fun k=>[.own 4 k 1 ((s.chans.set e.chn.toNat (s.chans.getD e.chn.toNat []++[msg])).getD k []).length])) rfl ⟨⟨rfl,rfl,rfl⟩,rfl,rfl,fun k hk=>?_⟩ ?_
 ·show LeL (if k=e.chn.toNat then [AV.own 4 e.chn.toNat 1 ((s.chans.getD e.chn.toNat []).length+1)] else [AV.own 4 k 1 (s.chans.getD k []).length]) _
  dsimp only
  rw [hlen]
  by_cases h:k=e.chn.toNat
  ·rw [zb h,zb h,h];exact LeL.refl _
  ·rw [za h,za h];exact LeL.refl _
 refine jfp 4 (.fam 3 1 s.chans.length (fun _=>1) (fun k=>((s.chans.set e.chn.toNat (s.chans.getD e.chn.toNat []++[msg])).getD k []).length) (fun k=>encL (fun n=>[iv n]) 0 ((s.chans.set e.chn.toNat (s.chans.getD e.chn.toNat []++[msg])).getD k []))) rfl (qew (fun k hk=>?_) (fun k hk=>?_) (fun k j hk hj=>?_)) ?_
 ·show Go.Sx.upd _ _ _ k=1
  unfold Go.Sx.upd
  split <;> rfl
 ·exact (hlen k).symm
 ·show (Go.Sx.upd (α:=Nat→List AV) _ _ _ k) j=_
  unfold Go.Sx.upd
  rw [qdn]
  by_cases h:k=e.chn.toNat
  ·rw [zb h,zb ⟨h,by omega⟩]
   have hj2:j<(if k=e.chn.toNat then (s.chans.getD e.chn.toNat []).length+1 else (s.chans.getD k []).length):=hj
   rw [zb h] at hj2
   exact qmk rfl hj2
  ·rw [za h,za (fun h'=>h h'.1)]
 ((conv=>whnf);refine qdr [0,5,6] 0 rfl (by repeat' (first|exact trivial|exact ⟨rfl,rfl⟩|exact ⟨rfl,rfl,rfl⟩|assumption|(refine And.intro ?_ ?_)|(intro _))) ?_)
 refine qsj 0 (qo m s p e).cells rfl (by
  rw [hTe]
  exact ⟨Le.slc (by simp) (fun j hj=>hA j),Le.refl _,Le.slc (by simp) (fun j hj=>rfl),Le.of_eq (congrArg (AV.int _) hh),trivial⟩) ?_
 (repeat' ((conv=>whnf);first|refine zA ?_|refine Ob.auto ?_|(refine CallZ.con (fun hg=>hmv) qhv (by rfl) ?_)|(refine zQ 300 ?_)|(apply zB <;> intro hb <;> (try simp [-List.getD_eq_getElem?_getD] at hb) <;> try (exfalso;omega))))
 ·exact ⟨Le.refl _,⟨rfl,Le.refl _,Le.refl _,Le.refl _,Le.of_eq (congrArg (AV.int _) (zb hb).symm),trivial⟩,trivial⟩
 ·refine ⟨Le.refl _,⟨rfl,Le.refl _,Le.refl _,Le.refl _,Le.of_eq (congrArg (AV.int _) ?_),trivial⟩,trivial⟩
  refine Eq.trans (by rw [hTe]) (za (fun h=>?_)).symm
  have:=hb h.1;rw [h.2] at this;cases this
end Go.Proofs.YtcfllgdfhfcicaaGreatDoor
end
section
namespace Go.Proofs.YtcfllgdfhfcicaaGreatDoor
open List renaming getD_eq_getElem?_getD → zd
open Go Go.Sx Go.RowKit Go.St
set_option maxRecDepth 100000
set_option maxHeartbeats 4000000
theorem do_no (m:Md) (hM:ModOk m) (s:Stt) (hs:SSz s) (v:Mv) (h:doB m s v=false):Con Tryz.prog 88 [m.av,s.av,v.av] (.tup [.agg [.nils,.nils,.nils,iv 0],.bool false]):=by
 unfold doB at h
 by_cases hf:ql m s=true
 ·rw [hf,zbp] at h
  have hal:=qpa m hM s hf v
  have hft:=qij m s hs
  rw [h] at hal
  rw [hf] at hft
  refine zK {} 300 Tryz.func88 (fun c0 rdb=>?_)
  (repeat' ((conv=>whnf);first|refine Ob.auto ?_|refine zC 300 (hft) ?_|refine zG 300 (fun hg=>hal) ?_|(apply zB <;> intro hb <;> (try simp [-zd] at hb) <;> try (exfalso;omega))))
  exact Le.refl _
 ·have hft:=qij m s hs
  rw [Bool.not_eq_true] at hf
  rw [hf] at hft
  refine zK {} 300 Tryz.func88 (fun c0 rdb=>?_)
  (repeat' ((conv=>whnf);first|refine Ob.auto ?_|refine zC 300 (hft) ?_|refine zG 300 (fun hg=>(absurd hg (by decide):Con Tryz.prog 118 [m.av,s.av,v.av] (.bool false))) ?_|(apply zB <;> intro hb <;> (try simp [-zd] at hb) <;> try (exfalso;omega))))
  exact Le.refl _
theorem qpf {s:Stt} {c:Nat} (hc:c<s.chans.length) (j:Nat):LeL (if j=c then [AV.slc 1 ((s.chans.getD c []).length - 1) fun i=>encL (fun n=>[iv n]) 0 (s.chans.getD c []) (1+i)] else encL (fun c=>[ints c]) [] s.chans j) (encL (fun c=>[ints c]) [] (s.chans.set c ((s.chans.getD c []).drop 1)) j):=by
 rw [← qcm (fun c=>[ints c]) [] s.chans c _ hc j]
 by_cases hj:j=c
 ·rw [zb hj,zb hj]
  refine ⟨Le.slc (by simp) (fun q _=>?_),trivial⟩
  unfold encL
  rw [zd (l:=List.drop 1 _),xh,← zd]
 ·rw [za hj,za hj];exact LeL.refl _
theorem jux (m:Md) (hM:ModOk m) (s:Stt) (v:Mv) (hf:ql m s=true) (h:jc m s v=true) (hk:v.kind=1):Con Tryz.prog 88 [m.av,s.av,v.av] (.tup [(qu m s v).av,.bool true]):=by
 have hs:=qck hM hf
 have hal:=qpa m hM s hf v
 have hft:=qij m s hs
 rw [h] at hal
 rw [hf] at hft
 unfold jc at h
 rw [za (by omega),zb (.inl hk),zb hk,zf] at h
 obtain ⟨h2,h3⟩:=h
 have h2:=zi h2
 have hcl:=((jb m s).1 hf).1.2.2.1
 have hq:0<(s.chans.getD v.chn.toNat []).length:=by
  unfold qjn qlen at h3
  simp only [zf,xe,zu] at h3
  omega
 have hst:qu m s v={ s with chans:=s.chans.set v.chn.toNat ((s.chans.getD v.chn.toNat []).drop 1),holder:=-1 }:=zb hk
 rw [hst]
 refine zK {} 300 Tryz.func88 (fun c0 rdb=>?_)
 (repeat' ((conv=>whnf);first|refine Ob.auto ?_|refine zC 300 (hft) ?_|refine zG 300 (fun hg=>hal) ?_|(apply zB <;> intro hb <;> (try simp [-zd] at hb) <;> try (exfalso;omega))))
 ((conv=>whnf);refine zT 300 [] (jfx s hs) qa ?_)
 (repeat' ((conv=>whnf);first|refine zO ?_|refine Ob.auto ?_|refine zD 300 ?_|(apply zB <;> intro hb <;> (try simp [-zd] at hb) <;> try (exfalso;omega))))
 exact Le.tup ⟨Le.agg ⟨Le.refl _,Le.refl _,Le.slcL (by simp) (fun j hj=>qpf (by omega) j),Le.refl _,trivial⟩,Le.refl _,trivial⟩
theorem jgd (m:Md) (s:Stt) (h:Int) (p:Nat) (e:Ed):canB m { s with holder:=h } p e=canB m s p e:=by
 unfold canB qlen
 simp only [jgb]
theorem jge (m:Md) (s:Stt) (h:Int) (p:Nat) (e:Ed):qbq m { s with holder:=h } p e=qbq m s p e:=by
 unfold qbq qo
 simp only [jgb]
theorem juy (m:Md) (hM:ModOk m) (s:Stt) (P E:Nat) (hf:ql m s=true) (h:jc m s ⟨0,P,E,0⟩=true) (ha:((edgesOf m P).getD E ed0).act≠2):Con Tryz.prog 88 [m.av,s.av,(⟨0,P,E,0⟩:Mv).av] (.tup [(qbq m s P ((edgesOf m P).getD E ed0)).av,.bool true]):=by
 have hs:=qck hM hf
 have hal:=qpa m hM s hf ⟨0,P,E,0⟩
 have hft:=qij m s hs
 rw [h] at hal
 rw [hf] at hft
 unfold jc at h
 rw [zb rfl,zf,zf] at h
 obtain ⟨h2,h3,h4⟩:=h
 have h3:=zi h3
 simp only at h3
 have h5:P<m.procs.length:=by omega
 have h6:E<(edgesOf m P).length:=by have:=h3.2.2.2;rw [zu] at this;omega
 have h6':E<(m.procs.getD P pr0).edges.length:=h6
 have hed:=edOk hM h5 h6
 have hf0:=qmh hf (-1) ⟨xi _,by omega⟩
 have hfo:=juv m hM { s with holder:=-1 } hf0 rfl P h5 ((edgesOf m P).getD E ed0) hed (by rw [jgd];exact h4) ha
 rw [jge] at hfo
 refine zK {} 300 Tryz.func88 (fun c0 rdb=>?_)
 (repeat' ((conv=>whnf);first|refine Ob.auto ?_|refine zC 300 (hft) ?_|refine zG 300 (fun hg=>hal) ?_|(apply zB <;> intro hb <;> (try simp [-zd] at hb) <;> try (exfalso;omega))))
 ((conv=>whnf);refine zT 300 [] (jfx s hs) qa ?_)
 (repeat' ((conv=>whnf);first|refine Ob.auto ?_|(apply zB <;> intro hb <;> (try simp [-zd] at hb) <;> try (exfalso;omega))))
 ((conv=>whnf);refine zQ 300 ?_)
 (repeat' ((conv=>whnf);first|refine Ob.auto ?_|fail))
 ((conv=>whnf);refine CallY.trip [18,8,12,17] (hfo) (by kernel_rfl) leA qa (by exact qb rfl) (by exact qb rfl) ?_)
 (repeat' ((conv=>whnf);first|refine zA ?_|refine Ob.auto ?_|fail))
 exact Le.refl _
theorem juz (m:Md) (hM:ModOk m) (s:Stt) (P E:Nat) (hf:ql m s=true) (h:jc m s ⟨0,P,E,0⟩=true) (ha:((edgesOf m P).getD E ed0).act=2):Con Tryz.prog 88 [m.av,s.av,(⟨0,P,E,0⟩:Mv).av] (.tup [(qbq m s P ((edgesOf m P).getD E ed0)).av,.bool true]):=by
 have hs:=qck hM hf
 have hal:=qpa m hM s hf ⟨0,P,E,0⟩
 have hft:=qij m s hs
 rw [h] at hal
 rw [hf] at hft
 unfold jc at h
 rw [zb rfl,zf,zf] at h
 obtain ⟨h2,h3,h4⟩:=h
 have h3:=zi h3
 simp only at h3
 have h5:P<m.procs.length:=by omega
 have h6:E<(edgesOf m P).length:=by have:=h3.2.2.2;rw [zu] at this;omega
 have h6':E<(m.procs.getD P pr0).edges.length:=h6
 have hed:=edOk hM h5 h6
 have hf0:=qmh hf (-1) ⟨xi _,by omega⟩
 have hfo:=juw m hM { s with holder:=-1 } hf0 rfl P h5 ((edgesOf m P).getD E ed0) hed (by rw [jgd];exact h4) ha
 rw [jge] at hfo
 refine zK {} 300 Tryz.func88 (fun c0 rdb=>?_)
 (repeat' ((conv=>whnf);first|refine Ob.auto ?_|refine zC 300 (hft) ?_|refine zG 300 (fun hg=>hal) ?_|(apply zB <;> intro hb <;> (try simp [-zd] at hb) <;> try (exfalso;omega))))
 ((conv=>whnf);refine qcx (fun _=>rfl) 300 [] (jfy s hs) (by kernel_rfl) leA qa (by exact qb rfl) (by exact qct ⟨fun _ _=>rfl,trivial⟩) (by kernel_rfl) ?_)
 (repeat' ((conv=>whnf);first|refine Ob.auto ?_|(apply zB <;> intro hb <;> (try simp [-zd] at hb) <;> try (exfalso;omega))))
 ((conv=>whnf);refine zQ 300 ?_)
 (repeat' ((conv=>whnf);first|refine Ob.auto ?_|fail))
 ((conv=>whnf);refine CallY.trip [24,8,12,17,23] (hfo) (by kernel_rfl) leA qa (by exact qct ⟨fun _ _=>rfl,trivial⟩) (by exact qb rfl) ?_)
 (repeat' ((conv=>whnf);first|refine zA ?_|refine Ob.auto ?_|fail))
 exact Le.refl _
theorem jva (m:Md) (hM:ModOk m) (s:Stt) (c:Nat) (hf:ql m s=true) (h:jc m s ⟨2,0,0,c⟩=true):Con Tryz.prog 88 [m.av,s.av,(⟨2,0,0,c⟩:Mv).av] (.tup [(qu m s ⟨2,0,0,c⟩).av,.bool true]):=by
 have hs:=qck hM hf
 have hal:=qpa m hM s hf ⟨2,0,0,c⟩
 have hft:=qij m s hs
 rw [h] at hal
 rw [hf] at hft
 unfold jc at h
 rw [za (by simp),zb (.inr rfl),zf] at h
 obtain ⟨h2,h3⟩:=h
 have h2:=zi h2
 simp only at h2
 have hcl:=((jb m s).1 hf).1.2.2.1
 have hq:0<(s.chans.getD c []).length:=by
  unfold qih qlen at h3
  simp only [zu] at h3
  rw [za (by decide)] at h3
  simp only [zf,xe] at h3
  omega
 have hcc:c<s.chans.length:=by omega
 have hl:=hs.l _ (qe s.chans c [] hcc)
 refine zK {} 300 Tryz.func88 (fun c0 rdb=>?_)
 (repeat' ((conv=>whnf);first|refine Ob.auto ?_|refine zC 300 (hft) ?_|refine zG 300 (fun hg=>hal) ?_|(apply zB <;> intro hb <;> (try simp [-zd] at hb) <;> try (exfalso;omega))))
 ((conv=>whnf);refine qcx (fun _=>rfl) 300 [] (jfy s hs) (by kernel_rfl) leA qa (by exact qb rfl) (by exact qct ⟨fun _ _=>rfl,trivial⟩) (by kernel_rfl) ?_)
 (repeat' ((conv=>whnf);first|refine zO ?_|refine Ob.auto ?_|refine zD 300 ?_|(apply zB <;> intro hb <;> (try simp [-zd] at hb) <;> try (exfalso;omega))|refine Ob.intro ?_ ?_|fail))
 ·refine ⟨hcc,⟨rfl,rfl⟩,show (s.chans.getD c []).length+1≤_ by omega,?_⟩
  refine xa (xd _ (show (s.chans.getD c []).length+1≤4000001 by omega)) ?_
  dsimp only;decide +kernel
 ·exact ⟨⟨⟨rfl,rfl⟩,hcc⟩,hcc,by simp [upd],by simp [upd]⟩
 ·refine ⟨⟨⟨trivial,⟨rfl,rfl⟩,trivial⟩,⟨trivial,⟨rfl,rfl⟩,trivial⟩,⟨trivial,⟨rfl,rfl⟩,fun k hk=>?_⟩,trivial,trivial⟩,trivial,trivial⟩
  show allP _ (if k=c then _ else _)
  by_cases hkc:k=c
  ·rw [zb hkc]
   exact ⟨⟨hcc,⟨(zb rfl).symm,(zb rfl).symm⟩,trivial⟩,trivial⟩
  ·rw [za hkc]
   exact ⟨⟨hk,⟨(za hkc).symm,(za hkc).symm⟩,trivial⟩,trivial⟩
 have hst:qu m s ⟨2,0,0,c⟩={ s with chans:=s.chans.set c (s.chans.getD c []++[(s.chans.getD c []).getD 0 0]),holder:=-1 }:=(za (by simp)).trans (zb rfl)
 rw [hst]
 refine Le.tup ⟨Le.agg ⟨Le.refl _,Le.refl _,Le.slcL (by simp) (fun j hj=>?_),Le.refl _,trivial⟩,Le.refl _,trivial⟩
 rw [← qcm (fun c=>[ints c]) [] s.chans c _ hcc j]
 show LeL (List.map _ (if j=c then _ else _)) _
 by_cases hjc:j=c
 ·rw [zb hjc,zb hjc]
  refine ⟨Le.slc (show (s.chans.getD c []).length+1=_ by rw [zg,zr]) (fun q hq=>?_),trivial⟩
  have hq':q<(s.chans.getD c []).length+1:=hq
  refine (congrFun (zb rfl) q).trans ?_
  exact qmk rfl hq'
 ·rw [za hjc,za hjc]
  refine ⟨Le.slc rfl (fun q hq=>congrFun (za hjc) q),trivial⟩
theorem jvb (m:Md) (hM:ModOk m) (s:Stt) (v:Mv) (hf:ql m s=true) (h:jc m s v=true):Con Tryz.prog 88 [m.av,s.av,v.av] (.tup [(qu m s v).av,.bool true]):=by
 by_cases hk:v.kind=1
 ·exact jux m hM s v hf h hk
 ·have h':=h
  unfold jc at h
  split at h
  ·rename_i h0
   rw [zf,zf] at h
   obtain ⟨ha,hb,_⟩:=h
   have h2:=zi ha
   have h3:=zi hb
   clear ha hb
   obtain ⟨k,p,e,c⟩:=v
   simp only at h0 h2 h3
   obtain ⟨P,rfl⟩:=xg h3.1
   obtain ⟨E,rfl⟩:=xg h3.2.2.1
   obtain ⟨h2,_⟩:=h2
   subst h0 h2
   have hst:qu m s ⟨0,P,E,0⟩=qbq m s P ((edgesOf m P).getD E ed0):=rfl
   rw [hst]
   by_cases ha:((edgesOf m P).getD E ed0).act=2
   ·exact juz m hM s P E hf h' ha
   ·exact juy m hM s P E hf h' ha
  ·split at h
   ·rename_i h0
    rw [zf] at h
    obtain ⟨ha,_⟩:=h
    have h2:=zi ha
    clear ha
    obtain ⟨k,p,e,c⟩:=v
    simp only at h0 h2 hk
    obtain ⟨C,rfl⟩:=xg h2.2.2.2.1
    obtain rfl:k=2:=by omega
    obtain rfl:p=0:=h2.2.1
    obtain rfl:e=0:=h2.2.2.1
    exact jva m hM s C hf h'
   ·cases h
theorem jgf (m:Md) (hM:ModOk m) (s:Stt) (hs:SSz s) (v:Mv):Con Tryz.prog 88 [m.av,s.av,v.av] (.tup [(qsf m s v).av,.bool (doB m s v)]):=by
 unfold qsf
 by_cases h:doB m s v=true
 ·rw [zb h,h]
  unfold doB at h
  rw [zf] at h
  exact jvb m hM s v h.1 h.2
 ·rw [za h]
  rw [Bool.not_eq_true] at h
  rw [h]
  exact (do_no m hM s hs v h).res (Le.tup ⟨Le.agg ⟨Le.nils _ _,Le.nils _ _,Le.nils _ _,Le.refl _,trivial⟩,Le.refl _,trivial⟩)
end Go.Proofs.YtcfllgdfhfcicaaGreatDoor
end
