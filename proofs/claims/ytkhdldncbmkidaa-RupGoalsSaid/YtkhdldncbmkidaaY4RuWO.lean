/- The ledger in the store: the last number under a key is struck. -/
import Derived.Test.YtkhdldncbmkidaaY430
import Derived.Test.YtkhdldncbmkidaaY423
import Derived.Test.YtkhdldncbmkidaaY42
set_option linter.unusedSimpArgs false
set_option linter.unusedVariables false
namespace Go.Proofs.Ytkhdldncbmkidaa
open Go Go.Sx Go.RowKit Go.Ru Go.Cl
set_option maxRecDepth 100000
set_option maxHeartbeats 4000000
theorem jhu {k:K} {alive:Nat→Option (List UInt8)} (hL:Led k alive) {name:List UInt8} {p:Nat} (hs:seek k name=some p) (s:ASt) (x y:Operand) (dst:Option Nat) (ty:TypeId) (pos:String) (aft:Array Edge) (gd:Option (Nat × Bool)) (hst:s.st=idx 0 (stK k)) (hx:ev s x=.mapv 3) (hy:ev s y=.str name) :
  CusT Try.prog s ⟨dst,.lookup 55 x y false,ty,pos,aft,gd⟩ (.own 4 (k.keys.getD p ([],0)).2 (k.pe (k.keys.getD p ([],0)).2) (nums k p).length) s.st s.nx:=by
 obtain ⟨hp,hn⟩:=qeq hs
 exact qul (P:=Try.prog) (T:=tab Try.prog) (s:=s) (dst:=dst) (ty:=ty) (pos:=pos) (aft:=aft) (gd:=gd) (b:=3) (q:=4) (ks:=k.keys.map fun p=>p.1) (l:=mvK k.keys k.pm k.pe) (key:=name) (kt:=9) (et:=23) (t:=55) (fun _=>rfl) hx hy (by rw [hst];rfl) rfl rfl (hn ▸ qhb hp) (qjc hL hp hn) (qml hp)
theorem jhv {k:K} {name:List UInt8} (hs:seek k name=none) (s:ASt) (x y:Operand) (dst:Option Nat) (ty:TypeId) (pos:String) (aft:Array Edge) (gd:Option (Nat × Bool)) (hst:s.st=idx 0 (stK k)) (hx:ev s x=.mapv 3) (hy:ev s y=.str name) :
  CusT Try.prog s ⟨dst,.lookup 55 x y false,ty,pos,aft,gd⟩ .nils s.st s.nx:=
 jer (P:=Try.prog) (T:=tab Try.prog) (s:=s) (dst:=dst) (ty:=ty) (pos:=pos) (aft:=aft) (gd:=gd) (b:=3) (q:=4) (ks:=k.keys.map fun p=>p.1) (l:=mvK k.keys k.pm k.pe) (key:=name) (kt:=9) (et:=23) (t:=55) (fun _=>rfl) hx hy (by rw [hst];rfl) rfl rfl (qqq hs) (by rfl)
theorem jhw {k:K} {alive:Nat→Option (List UInt8)} (hL:Led k alive) {name:List UInt8} {p:Nat} (hs:seek k name=some p) (h1:(nums k p).length=1) (s:ASt) (o:Oper) (x y:Operand) (ho:o.op=.call ⟨.builtin .delete,#[x,y],#[55,9]⟩) (hst:s.st=idx 0 (stK k)) (hx:ev s x=.mapv 3) (hy:ev s y=.str name) :
  CusT Try.prog s o .any (idx 0 (stK (k.strike p))) s.nx:=by
 obtain ⟨hp,hn⟩:=qeq hs
 have h:=jeu (P:=Try.prog) (T:=tab Try.prog) (s:=s) (b:=3) (q:=4) (ks:=k.keys.map fun p=>p.1) (l:=mvK k.keys k.pm k.pe) (key:=name) (kt:=9) (et:=23) (t:=55) (fun _=>rfl) ho hx hy (by rw [hst];rfl) rfl rfl (hn ▸ qhb hp) (qjc hL hp hn)
 have he:k.strike p={ k with keys:=k.keys.eraseIdx p }:=by unfold K.strike;rw [za h1]
 rw [he]
 have e1:(k.keys.map fun p=>p.1).eraseIdx p=(k.keys.eraseIdx p).map fun p=>p.1:=(qlf _ _ _).symm
 have e2:(mvK k.keys k.pm k.pe).eraseIdx p=mvK (k.keys.eraseIdx p) k.pm k.pe:=(qlf _ _ _).symm
 rw [e1,e2,hst] at h
 exact h
theorem jhx {k:K} {alive:Nat→Option (List UInt8)} (hL:Led k alive) {name:List UInt8} {p:Nat} (hs:seek k name=some p) (h1:(nums k p).length≠1) {q n e m:Nat} (hq:q=(k.keys.getD p ([],0)).2) (hn:n=(nums k p).length) (he:e=k.pe q) (hm:m=n - 1) (s:ASt) (tx ty0 tz:Nat) (hxz:tx≠tz) (hyz:ty0≠tz) (dst:Option Nat) (ty:TypeId) (pos:String) (aft:Array Edge) (gd:Option (Nat × Bool)) (hst:s.st=idx 0 (stK k)) (hx:ev s (.tmp tx)=.mapv 3) (hy:ev s (.tmp ty0)=.str name) (hz:ev s (.tmp tz)=.sub 4 q e n 1 0 m) :
  CusT Try.prog s ⟨dst,.mapUpdate 55 (.tmp tx) (.tmp ty0) (.tmp tz),ty,pos,aft,gd⟩ .any (idx 0 (stK (k.strike p))) s.nx:=by
 obtain ⟨hp,hnm⟩:=qeq hs
 subst hq hn he hm
 have hql:=hL.kp p hp
 generalize hq:(k.keys.getD p ([],0)).2=q at hz hql
 have hnq:nums k p=k.pm.getD q []:=by unfold nums;rw [hq]
 have hget:∀ (sl:List (Nat × AV)) (v:AV) (st:List (Nat × SO)) (nx t:Nat),ASt.get ⟨(tz,v)::sl,st,nx⟩ t=if t=tz then v else ASt.get ⟨sl,st,nx⟩ t:=fun sl v st nx t=>by
  by_cases h:t=tz
  ·subst h;rw [za rfl];simp [ASt.get,qf]
  ·rw [ze h];simp [ASt.get,qf,Ne.symm h]
 obtain ⟨s',hs'⟩:∃ s':ASt,s'=⟨(tz,.own 4 q (k.pe q+1) ((nums k p).length - 1))::s.sl,qk s.st 4 q (k.pe q+1) ((nums k p).length - 1) (encN (k.pm.getD q [])),s.nx⟩:=⟨_,rfl⟩
 have hev:∀ t,ev s' (.tmp t)=if t=tz then .own 4 q (k.pe q+1) ((nums k p).length - 1) else ev s (.tmp t):=fun t=>by
  rw [hs']
  exact hget _ _ _ _ _
 have h:=qun (P:=Try.prog) (T:=tab Try.prog) (s:=s') (dst:=dst) (ty:=ty) (pos:=pos) (aft:=aft) (gd:=gd) (b:=3) (q:=4) (ks:=k.keys.map fun p=>p.1) (l:=mvK k.keys k.pm k.pe) (key:=name) (kt:=9) (et:=23) (t:=55) (fun _=>rfl) ((hev tx).trans ((ze hxz).trans hx)) ((hev ty0).trans ((ze hyz).trans hy)) ((hev tz).trans (za rfl)) (by rw [hs',hst];rfl) rfl rfl (hnm ▸ qhb hp) (qjc hL hp hnm)
 refine CusT.cut (s':=s') (.tmp tz) (r:=4) (i:=q) (e:=k.pe q) (n:=(nums k p).length) (m:=(nums k p).length - 1) (R:=⟨[],3,1,k.pe q,(k.pm.getD q []).length,encN (k.pm.getD q [])⟩) (ob:=some (dp (q<k.pm.length))) (by rw [← hq];rw [hq];exact hz) (by simp [Op.operands]) (by rw [hst];rfl) hql ⟨rfl,by rw [hnq]⟩ (by rw [hs']) (by rw [hs']) ((hev tz).trans (za rfl)) (fun x hxm=>?_) ?_
 ·simp [Op.operands] at hxm
  rcases hxm with rfl|rfl|rfl
  ·exact .inr ((hev tx).trans (ze hxz))
  ·exact .inr ((hev ty0).trans (ze hyz))
  ·exact .inl rfl
 have e:=qwz hL hp (x:=(nums k p).dropLast) (b:=bump k.pe q) (fun j hj=>ze (fun h=>hj (h.trans hq.symm)))
 rw [List.length_dropLast,hq,show bump k.pe q q=k.pe q+1 from za rfl] at e
 rw [e] at h
 have hnx:s'.nx=s.nx:=by rw [hs']
 rw [hnx] at h
 refine h.turned (MT.st _ ?_)
 have hk:k.strike p={ k with pm:=k.pm.set q (nums k p).dropLast,pe:=bump k.pe q }:=by
  unfold K.strike;rw [ze h1,hq]
 rw [hk,hs',hst]
 have hlen:(nums k p).length - 1=(nums k p).dropLast.length:=List.length_dropLast.symm
 have hcell:∀ j,j<(nums k p).dropLast.length→encN (k.pm.getD q []) j=encN (nums k p).dropLast j:=fun j hj=>by
  rw [← hnq]
  unfold encN encL
  rw [xc,xc,List.getElem?_dropLast]
  rw [List.length_dropLast] at hj
  rw [za hj]
 unfold stK boxK
 simp only [xg]
 repeat' (first|exact trivial|exact rfl|exact Le.refl _|exact SoLe.refl _|exact fun _ _=>LeL.refl _|exact fun _ _ _ _=>LeL.refl _|exact qpn hql (fun j _=>⟨rfl,rfl,fun _=>rfl⟩) rfl hlen hcell|refine And.intro ?_ ?_)
end Go.Proofs.Ytkhdldncbmkidaa
