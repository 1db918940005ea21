/- Some texts of the library, one behind the other. -/
import Derived.Test.YtikahnkkfkoglaaGreatDoorY117
import Derived.Test.YtikahnkkfkoglaaGreatDoorY12
set_option linter.unusedSimpArgs false
set_option linter.unusedVariables false
section
namespace Go.Proofs.YtikahnkkfkoglaaGreatDoor
open Go Go.Sx Go.RowKit Go.St
set_option maxRecDepth 100000
set_option maxHeartbeats 4000000
def rowF (l:List (List Int)):SO:=.row [4] 27 1 0 l.length (fun k=>[.own 4 k 1 (l.getD k []).length])
def famF (l:List (List Int)):SO:=.fam 3 1 l.length (fun _=>1) (fun k=>(l.getD k []).length) (fun k=>encL (fun n=>[iv n]) 0 (l.getD k []))
theorem jcy {L:List Int} {x:Int} {g:Nat→List AV} (hg:g 0=[iv x]) {j:Nat} (hj:j<L.length+1):appF L.length (encL (fun n=>[iv n]) 0 L) 1 g j=encL (fun n=>[iv n]) 0 (L++[x]) j:=by
 unfold appF encL
 rw [qjr]
 by_cases hl:j<L.length
 ·rw [zb hl,zb hl]
 ·obtain rfl:j=L.length:=by omega
  rw [za hl,za hl,zb rfl,zb (by omega),zar,hg]
theorem jpq (m:Md) (hM:ModOk m) (s:Stt) (hf:fitsB m s=true) (hh:s.holder=-1) (p:Nat) (hp:p<m.procs.length) (e:Ed) (he:EdOk m.tree.length m.vars.length m.chans.length (m.procs.getD p pr0).places e) (hc:canB m s p e=true) (h2:e.act=2) :
  Trip Tryz.prog 86 [m.av,.ptr 0 0,iv p,.agg e.cells] [boxS s,rowI s.at_,rowI s.vars,rowF s.chans,famF s.chans] (.tup [])
   [(0,.box 40 (qgi m s p e).cells)] 5:=by
 have hs:=qex hM hf
 have h0:=((qao m s).1 hf).1
 have hsv:=quq m hM.ok p s hs e.expr
 have hex:=he.ex
 have hvr:=he.var
 have hch:=he.chn
 have hto:=he.to
 have hat:p<s.at_.length:=by omega
 have hvl:=h0.2.1
 have hcl:=h0.2.2.1
 have hT:=qvl hM hf (p:=p) hto (qvm hc)
 have hTs:=qex hM hT
 have hmv:=jcq m hM.ok (qcb m s p e) hT hTs p hp (pl:=(m.procs.getD p pr0).places) (fun e he=>(hM.pr _ (qm m.procs p pr0 hp)).ed e he) (hM.psz _ (qm m.procs p pr0 hp)).1
 have hA:∀ j,(if j=p then [iv e.to] else encL (fun n=>[iv n]) 0 s.at_ j)=encL (fun n=>[iv n]) 0 (s.at_.set p e.to) j:=qkd (fun n=>[iv n]) 0 s.at_ p e.to hat
 unfold boxS rowI rowF famF
 refine zL {} 300 Tryz.func86 (fun c0 rdb mpb=>?_)
 (repeat' ((conv=>whnf);first|(apply zB <;> intro hb <;> (try simp [-List.getD_eq_getElem?_getD] at hb) <;> try (exfalso;omega))))
 ((conv=>whnf);refine zQ 300 ?_)
 ((conv=>whnf);refine CallY.lend (hsv) (by repeat' (first|exact trivial|exact ⟨rfl,rfl⟩|exact rfl|assumption|(refine And.intro ?_ ?_)|(intro _))) leA (by rfl) ?_)
 (repeat' ((conv=>whnf);first|refine zA ?_|fail))
 ((conv=>whnf);refine qbl (fun _=>rfl) (by kernel_rfl) 300 [.con (iv (trim (sval m p s e.expr).1 (m.chans.getD e.chn.toNat ch0).width))] (by kernel_rfl) ?_)
 (repeat' ((conv=>whnf);first|refine zO ?_|refine Ob.auto ?_|(refine Ob.intro (by (first|exact ⟨by omega,by omega⟩|exact ⟨_,qlj (sval m p s e.expr).1 (m.chans.getD e.chn.toNat ch0).width,by rfl,LeL.refl _⟩)) ?_)|refine zD 300 ?_|refine Ob.intro ?_ ?_|fail))
 ·have hcl2:=hTs.l
  have hl:=hs.l _ (qm s.chans e.chn.toNat [] (by omega))
  refine ⟨by omega,⟨rfl,rfl⟩,by omega,?_⟩
  dsimp only
  refine zv (zx _ (?_:_≤4000001)) (by decide +kernel);omega
 ·exact ⟨⟨⟨rfl,rfl⟩,by omega⟩,by omega,by simp [upd],by simp [upd]⟩
 have hTe:qcb m s p e=⟨s.at_.set p e.to,s.vars,s.chans.set e.chn.toNat (s.chans.getD e.chn.toNat []++[trim (sval m p s e.expr).1 (m.chans.getD e.chn.toNat ch0).width]),-1⟩:=by
  have h3:=hex (.inr (.inl h2))
  simp [qcb,h2,sval,h3,hf,za (show ¬ e.expr<0 by omega)]
 generalize hmsg:trim (sval m p s e.expr).1 (m.chans.getD e.chn.toNat ch0).width=msg at hTe ⊢
 have hlen:∀ k,((s.chans.set e.chn.toNat (s.chans.getD e.chn.toNat []++[msg])).getD k []).length=if k=e.chn.toNat then (s.chans.getD e.chn.toNat []).length+1 else (s.chans.getD k []).length:=fun k=>by
  rw [qln]
  by_cases h:k=e.chn.toNat
  ·rw [zb ⟨h,by omega⟩,zb h];simp
  ·rw [za (fun h'=>h h'.1),za h]
 refine jbl 3 (.row [4] 27 1 0 s.chans.length (fun k=>[.own 4 k 1 ((s.chans.set e.chn.toNat (s.chans.getD e.chn.toNat []++[msg])).getD k []).length])) rfl ⟨⟨rfl,rfl,rfl⟩,rfl,rfl,fun k hk=>?_⟩ ?_
 ·show LeL (if k=e.chn.toNat then [AV.own 4 e.chn.toNat 1 ((s.chans.getD e.chn.toNat []).length+1)] else [AV.own 4 k 1 (s.chans.getD k []).length]) _
  dsimp only
  rw [hlen]
  by_cases h:k=e.chn.toNat
  ·rw [zb h,zb h,h];exact LeL.refl _
  ·rw [za h,za h];exact LeL.refl _
 refine jbl 4 (.fam 3 1 s.chans.length (fun _=>1) (fun k=>((s.chans.set e.chn.toNat (s.chans.getD e.chn.toNat []++[msg])).getD k []).length) (fun k=>encL (fun n=>[iv n]) 0 ((s.chans.set e.chn.toNat (s.chans.getD e.chn.toNat []++[msg])).getD k []))) rfl (qjo (fun k hk=>?_) (fun k hk=>?_) (fun k j hk hj=>?_)) ?_
 ·show Go.Sx.upd _ _ _ k=1
  unfold Go.Sx.upd
  split <;> rfl
 ·exact (hlen k).symm
 ·show (Go.Sx.upd (α:=Nat→List AV) _ _ _ k) j=_
  unfold Go.Sx.upd
  rw [qln]
  by_cases h:k=e.chn.toNat
  ·rw [zb h,zb ⟨h,by omega⟩]
   have hj2:j<(if k=e.chn.toNat then (s.chans.getD e.chn.toNat []).length+1 else (s.chans.getD k []).length):=hj
   rw [zb h] at hj2
   exact jcy rfl hj2
  ·rw [za h,za (fun h'=>h h'.1)]
 ((conv=>whnf);refine qdi [0,5,6] 0 rfl (by repeat' (first|exact trivial|exact ⟨rfl,rfl⟩|exact ⟨rfl,rfl,rfl⟩|assumption|(refine And.intro ?_ ?_)|(intro _))) ?_)
 refine qri 0 (qcb m s p e).cells rfl (by
  rw [hTe]
  exact ⟨Le.slc (by simp) (fun j hj=>hA j),Le.refl _,Le.slc (by simp) (fun j hj=>rfl),Le.of_eq (congrArg (AV.int _) hh),trivial⟩) ?_
 (repeat' ((conv=>whnf);first|refine zA ?_|refine Ob.auto ?_|(refine CallZ.con (fun hg=>hmv) jn (by rfl) ?_)|(refine zQ 300 ?_)|(apply zB <;> intro hb <;> (try simp [-List.getD_eq_getElem?_getD] at hb) <;> try (exfalso;omega))))
 ·exact ⟨Le.refl _,⟨rfl,Le.refl _,Le.refl _,Le.refl _,Le.of_eq (congrArg (AV.int _) (zb hb).symm),trivial⟩,trivial⟩
 ·refine ⟨Le.refl _,⟨rfl,Le.refl _,Le.refl _,Le.refl _,Le.of_eq (congrArg (AV.int _) ?_),trivial⟩,trivial⟩
  refine Eq.trans (by rw [hTe]) (za (fun h=>?_)).symm
  have:=hb h.1;rw [h.2] at this;cases this
end Go.Proofs.YtikahnkkfkoglaaGreatDoor
end
section
namespace Go.Proofs.YtikahnkkfkoglaaGreatDoor
open List renaming getD_eq_getElem?_getD → zd
open Go Go.Sx Go.RowKit Go.St
set_option maxRecDepth 100000
set_option maxHeartbeats 4000000
theorem jpr {s:Stt} {c:Nat} (hc:c<s.chans.length) (j:Nat):LeL (if j=c then [AV.slc 1 ((s.chans.getD c []).length - 1) fun i=>encL (fun n=>[iv n]) 0 (s.chans.getD c []) (1+i)] else encL (fun c=>[ints c]) [] s.chans j) (encL (fun c=>[ints c]) [] (s.chans.set c ((s.chans.getD c []).drop 1)) j):=by
 rw [← qkd (fun c=>[ints c]) [] s.chans c _ hc j]
 by_cases hj:j=c
 ·rw [zb hj,zb hj]
  refine ⟨Le.slc (by simp) (fun q _=>?_),trivial⟩
  unfold encL
  rw [zd (l:=List.drop 1 _),xc,← zd]
 ·rw [za hj,za hj];exact LeL.refl _
theorem jps (m:Md) (hM:ModOk m) (s:Stt) (v:Mv) (hf:fitsB m s=true) (h:qbp m s v=true) (hk:v.kind=1):Con Tryz.prog 49 [m.av,s.av,v.av] (.tup [(qac m s v).av,.bool true]):=by
 have hs:=qex hM hf
 have hal:=qrx m hM s hf v
 have hft:=qab m s hs
 rw [h] at hal
 rw [hf] at hft
 unfold qbp at h
 rw [za (by omega),zb (.inl hk),zb hk,zf] at h
 obtain ⟨h2,h3⟩:=h
 have h2:=zm h2
 have hcl:=((qao m s).1 hf).1.2.2.1
 have hq:0<(s.chans.getD v.chn.toNat []).length:=by
  unfold qnq qlen at h3
  simp only [zf,xd,zy] at h3
  omega
 have hst:qac m s v={ s with chans:=s.chans.set v.chn.toNat ((s.chans.getD v.chn.toNat []).drop 1),holder:=-1 }:=zb hk
 rw [hst]
 refine zK {} 300 Tryz.func49 (fun c0 rdb=>?_)
 (repeat' ((conv=>whnf);first|refine Ob.auto ?_|refine zC 300 (hft) ?_|refine zG 300 (fun hg=>hal) ?_|(apply zB <;> intro hb <;> (try simp [-zd] at hb) <;> try (exfalso;omega))))
 ((conv=>whnf);refine zT 300 [] (jcv s hs) qa ?_)
 (repeat' ((conv=>whnf);first|refine zO ?_|refine Ob.auto ?_|refine zD 300 ?_|(apply zB <;> intro hb <;> (try simp [-zd] at hb) <;> try (exfalso;omega))))
 exact Le.tup ⟨Le.agg ⟨Le.refl _,Le.refl _,Le.slcL (by simp) (fun j hj=>jpr (by omega) j),Le.refl _,trivial⟩,Le.refl _,trivial⟩
theorem jcz (m:Md) (s:Stt) (h:Int) (p:Nat) (e:Ed):canB m { s with holder:=h } p e=canB m s p e:=by
 unfold canB qlen
 simp only [jcx]
theorem jda (m:Md) (s:Stt) (h:Int) (p:Nat) (e:Ed):qgi m { s with holder:=h } p e=qgi m s p e:=by
 unfold qgi qcb
 simp only [jcx]
theorem jpt (m:Md) (hM:ModOk m) (s:Stt) (P E:Nat) (hf:fitsB m s=true) (h:qbp m s ⟨0,P,E,0⟩=true) (ha:((qt m P).getD E ed0).act≠2):Con Tryz.prog 49 [m.av,s.av,(⟨0,P,E,0⟩:Mv).av] (.tup [(qgi m s P ((qt m P).getD E ed0)).av,.bool true]):=by
 have hs:=qex hM hf
 have hal:=qrx m hM s hf ⟨0,P,E,0⟩
 have hft:=qab m s hs
 rw [h] at hal
 rw [hf] at hft
 unfold qbp at h
 rw [zb rfl,zf,zf] at h
 obtain ⟨h2,h3,h4⟩:=h
 have h3:=zm h3
 simp only at h3
 have h5:P<m.procs.length:=by omega
 have h6:E<(qt m P).length:=by have:=h3.2.2.2;rw [zy] at this;omega
 have h6':E<(m.procs.getD P pr0).edges.length:=h6
 have hed:=edOk hM h5 h6
 have hf0:=qlo hf (-1) ⟨zw _,by omega⟩
 have hfo:=jpp m hM { s with holder:=-1 } hf0 rfl P h5 ((qt m P).getD E ed0) hed (by rw [jcz];exact h4) ha
 rw [jda] at hfo
 refine zK {} 300 Tryz.func49 (fun c0 rdb=>?_)
 (repeat' ((conv=>whnf);first|refine Ob.auto ?_|refine zC 300 (hft) ?_|refine zG 300 (fun hg=>hal) ?_|(apply zB <;> intro hb <;> (try simp [-zd] at hb) <;> try (exfalso;omega))))
 ((conv=>whnf);refine zT 300 [] (jcv s hs) qa ?_)
 (repeat' ((conv=>whnf);first|refine Ob.auto ?_|(apply zB <;> intro hb <;> (try simp [-zd] at hb) <;> try (exfalso;omega))))
 ((conv=>whnf);refine zQ 300 ?_)
 (repeat' ((conv=>whnf);first|refine Ob.auto ?_|fail))
 ((conv=>whnf);refine CallY.trip [18,8,12,17] (hfo) (by kernel_rfl) leA qa (by exact qb rfl) (by exact qb rfl) ?_)
 (repeat' ((conv=>whnf);first|refine zA ?_|refine Ob.auto ?_|fail))
 exact Le.refl _
theorem jpu (m:Md) (hM:ModOk m) (s:Stt) (P E:Nat) (hf:fitsB m s=true) (h:qbp m s ⟨0,P,E,0⟩=true) (ha:((qt m P).getD E ed0).act=2):Con Tryz.prog 49 [m.av,s.av,(⟨0,P,E,0⟩:Mv).av] (.tup [(qgi m s P ((qt m P).getD E ed0)).av,.bool true]):=by
 have hs:=qex hM hf
 have hal:=qrx m hM s hf ⟨0,P,E,0⟩
 have hft:=qab m s hs
 rw [h] at hal
 rw [hf] at hft
 unfold qbp at h
 rw [zb rfl,zf,zf] at h
 obtain ⟨h2,h3,h4⟩:=h
 have h3:=zm h3
 simp only at h3
 have h5:P<m.procs.length:=by omega
 have h6:E<(qt m P).length:=by have:=h3.2.2.2;rw [zy] at this;omega
 have h6':E<(m.procs.getD P pr0).edges.length:=h6
 have hed:=edOk hM h5 h6
 have hf0:=qlo hf (-1) ⟨zw _,by omega⟩
 have hfo:=jpq m hM { s with holder:=-1 } hf0 rfl P h5 ((qt m P).getD E ed0) hed (by rw [jcz];exact h4) ha
 rw [jda] at hfo
 refine zK {} 300 Tryz.func49 (fun c0 rdb=>?_)
 (repeat' ((conv=>whnf);first|refine Ob.auto ?_|refine zC 300 (hft) ?_|refine zG 300 (fun hg=>hal) ?_|(apply zB <;> intro hb <;> (try simp [-zd] at hb) <;> try (exfalso;omega))))
 ((conv=>whnf);refine qig (fun _=>rfl) 300 [] (jcw s hs) (by kernel_rfl) leA qa (by exact qb rfl) (by exact qrk ⟨fun _ _=>rfl,trivial⟩) (by kernel_rfl) ?_)
 (repeat' ((conv=>whnf);first|refine Ob.auto ?_|(apply zB <;> intro hb <;> (try simp [-zd] at hb) <;> try (exfalso;omega))))
 ((conv=>whnf);refine zQ 300 ?_)
 (repeat' ((conv=>whnf);first|refine Ob.auto ?_|fail))
 ((conv=>whnf);refine CallY.trip [24,8,12,17,23] (hfo) (by kernel_rfl) leA qa (by exact qrk ⟨fun _ _=>rfl,trivial⟩) (by exact qb rfl) ?_)
 (repeat' ((conv=>whnf);first|refine zA ?_|refine Ob.auto ?_|fail))
 exact Le.refl _
theorem jpv (m:Md) (hM:ModOk m) (s:Stt) (c:Nat) (hf:fitsB m s=true) (h:qbp m s ⟨2,0,0,c⟩=true):Con Tryz.prog 49 [m.av,s.av,(⟨2,0,0,c⟩:Mv).av] (.tup [(qac m s ⟨2,0,0,c⟩).av,.bool true]):=by
 have hs:=qex hM hf
 have hal:=qrx m hM s hf ⟨2,0,0,c⟩
 have hft:=qab m s hs
 rw [h] at hal
 rw [hf] at hft
 unfold qbp at h
 rw [za (by simp),zb (.inr rfl),zf] at h
 obtain ⟨h2,h3⟩:=h
 have h2:=zm h2
 simp only at h2
 have hcl:=((qao m s).1 hf).1.2.2.1
 have hq:0<(s.chans.getD c []).length:=by
  unfold qll qlen at h3
  simp only [zy] at h3
  rw [za (by decide)] at h3
  simp only [zf,xd] at h3
  omega
 have hcc:c<s.chans.length:=by omega
 have hl:=hs.l _ (qm s.chans c [] hcc)
 refine zK {} 300 Tryz.func49 (fun c0 rdb=>?_)
 (repeat' ((conv=>whnf);first|refine Ob.auto ?_|refine zC 300 (hft) ?_|refine zG 300 (fun hg=>hal) ?_|(apply zB <;> intro hb <;> (try simp [-zd] at hb) <;> try (exfalso;omega))))
 ((conv=>whnf);refine qig (fun _=>rfl) 300 [] (jcw s hs) (by kernel_rfl) leA qa (by exact qb rfl) (by exact qrk ⟨fun _ _=>rfl,trivial⟩) (by kernel_rfl) ?_)
 (repeat' ((conv=>whnf);first|refine zO ?_|refine Ob.auto ?_|refine zD 300 ?_|(apply zB <;> intro hb <;> (try simp [-zd] at hb) <;> try (exfalso;omega))|refine Ob.intro ?_ ?_|fail))
 ·refine ⟨hcc,⟨rfl,rfl⟩,show (s.chans.getD c []).length+1≤_ by omega,?_⟩
  refine zv (zx _ (show (s.chans.getD c []).length+1≤4000001 by omega)) ?_
  dsimp only;decide +kernel
 ·exact ⟨⟨⟨rfl,rfl⟩,hcc⟩,hcc,by simp [upd],by simp [upd]⟩
 ·refine ⟨⟨⟨trivial,⟨rfl,rfl⟩,trivial⟩,⟨trivial,⟨rfl,rfl⟩,trivial⟩,⟨trivial,⟨rfl,rfl⟩,fun k hk=>?_⟩,trivial,trivial⟩,trivial,trivial⟩
  show allP _ (if k=c then _ else _)
  by_cases hkc:k=c
  ·rw [zb hkc]
   exact ⟨⟨hcc,⟨(zb rfl).symm,(zb rfl).symm⟩,trivial⟩,trivial⟩
  ·rw [za hkc]
   exact ⟨⟨hk,⟨(za hkc).symm,(za hkc).symm⟩,trivial⟩,trivial⟩
 have hst:qac m s ⟨2,0,0,c⟩={ s with chans:=s.chans.set c (s.chans.getD c []++[(s.chans.getD c []).getD 0 0]),holder:=-1 }:=(za (by simp)).trans (zb rfl)
 rw [hst]
 refine Le.tup ⟨Le.agg ⟨Le.refl _,Le.refl _,Le.slcL (by simp) (fun j hj=>?_),Le.refl _,trivial⟩,Le.refl _,trivial⟩
 rw [← qkd (fun c=>[ints c]) [] s.chans c _ hcc j]
 show LeL (List.map _ (if j=c then _ else _)) _
 by_cases hjc:j=c
 ·rw [zb hjc,zb hjc]
  refine ⟨Le.slc (show (s.chans.getD c []).length+1=_ by rw [zg,xf]) (fun q hq=>?_),trivial⟩
  have hq':q<(s.chans.getD c []).length+1:=hq
  refine (congrFun (zb rfl) q).trans ?_
  exact jcy rfl hq'
 ·rw [za hjc,za hjc]
  refine ⟨Le.slc rfl (fun q hq=>congrFun (za hjc) q),trivial⟩
theorem jdb (m:Md) (hM:ModOk m) (s:Stt) (v:Mv) (hf:fitsB m s=true) (h:qbp m s v=true):Con Tryz.prog 49 [m.av,s.av,v.av] (.tup [(qac m s v).av,.bool true]):=by
 by_cases hk:v.kind=1
 ·exact jps m hM s v hf h hk
 ·have h':=h
  unfold qbp at h
  split at h
  ·rename_i h0
   rw [zf,zf] at h
   obtain ⟨ha,hb,_⟩:=h
   have h2:=zm ha
   have h3:=zm hb
   clear ha hb
   obtain ⟨k,p,e,c⟩:=v
   simp only at h0 h2 h3
   obtain ⟨P,rfl⟩:=zbd h3.1
   obtain ⟨E,rfl⟩:=zbd h3.2.2.1
   obtain ⟨h2,_⟩:=h2
   subst h0 h2
   have hst:qac m s ⟨0,P,E,0⟩=qgi m s P ((qt m P).getD E ed0):=rfl
   rw [hst]
   by_cases ha:((qt m P).getD E ed0).act=2
   ·exact jpu m hM s P E hf h' ha
   ·exact jpt m hM s P E hf h' ha
  ·split at h
   ·rename_i h0
    rw [zf] at h
    obtain ⟨ha,_⟩:=h
    have h2:=zm ha
    clear ha
    obtain ⟨k,p,e,c⟩:=v
    simp only at h0 h2 hk
    obtain ⟨C,rfl⟩:=zbd h2.2.2.2.1
    obtain rfl:k=2:=by omega
    obtain rfl:p=0:=h2.2.1
    obtain rfl:e=0:=h2.2.2.1
    exact jpv m hM s C hf h'
   ·cases h
end Go.Proofs.YtikahnkkfkoglaaGreatDoor
end
