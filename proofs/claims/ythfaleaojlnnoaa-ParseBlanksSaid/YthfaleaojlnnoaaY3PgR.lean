/- What was read is right, node by node. Nothing of the program. -/
import Derived.Test.YthfaleaojlnnoaaY335
import Derived.Test.YthfaleaojlnnoaaY32
set_option linter.unusedSimpArgs false
set_option linter.unusedVariables false
namespace Go.Proofs.Ythfaleaojlnnoaa
open List renaming getD_eq_getElem?_getD → zd
namespace Pa
open List renaming getD_eq_getElem?_getD → zd
open Go Go.Sx Go.St
theorem jbb {f g:Nat→Bool} {n:Nat} (h:∀ i,i<n→f i=g i):(List.range n).all f=(List.range n).all g:=by
 rw [xe]
 simp only [zu,zas]
 exact ⟨fun H i hi=>by rw [← h i hi];exact H i hi,fun H i hi=>by rw [h i hi];exact H i hi⟩
theorem jbc {f g:Nat→Bool}:∀ l:List Nat,(∀ x∈l,f x=g x)→l.findIdx? f=l.findIdx? g
 | [],_=>rfl
 | x::r,h=>by
  rw [List.findIdx?_cons,List.findIdx?_cons,h x (xx ..),jbc r (fun y hy=>h y (xm _ hy))]
theorem jny {L L':List Nd} {n n':Nd} (hk:n.kind=n'.kind) (hw:n.words=n'.words) (hn:n.nums=n'.nums) (hl:n.kids.length=n'.kids.length) (h:∀ i,i<n.kids.length→kidK L n i=kidK L' n' i):qaz L n=qaz L' n':=by
 have hA:∀ f a b,allB L n f a b=allB L' n' f a b:=fun f a b=>by
  unfold allB
  rw [← hl]
  exact jbb (fun i hi=>by rw [h i hi])
 have hE:∀ f a b,qar L n f a b=qar L' n' f a b:=fun f a b=>by
  unfold qar
  rw [← hl]
  rw [jbb (fun i hi=>by rw [h i hi])]
 have hV:qer L n=qer L' n':=by
  unfold qer Go.St.idx
  rw [← hl,jbc (f:=fun i=>kidK L n i != 2) (g:=fun i=>kidK L' n' i != 2) (List.range n.kids.length) (fun i hi=>by show (kidK L n i != 2)=(kidK L' n' i != 2);rw [h i (List.mem_range.1 hi)])]
 have hW:∀ c,qj n c=qj n' c:=fun c=>by unfold qj;rw [hw]
 have hN:∀ c m,qx n c m=qx n' c m:=fun c m=>by unfold qx;rw [hn]
 unfold qaz
 simp only [hk,hn,hl,hA,hE,hV,hW,hN]
def qjc (v:Tr):Nd:=⟨v.kind,[],[],[],0⟩
def qz (u:Tr):Nd:=⟨u.kind,u.words,u.nums,(List.range u.l.length).map Int.ofNat,0⟩
def qab (u:Tr):Bool:=qaz (u.l.map qjc) (qz u)
theorem qqf (u:Tr):(qz u).kids.length=u.l.length:=by simp [qz]
theorem qqg (u:Tr) (i:Nat) (h:i<u.l.length):kidK (u.l.map qjc) (qz u) i=(u.l.getD i Tr.none).kind:=by
 unfold kidK qz
 simp only [zd,zg,List.getElem?_range h,xd,Option.getD_some,Int.ofNat_eq_natCast,Int.toNat_natCast,ze h]
 rfl
theorem qul (u:Tr) (f:Nat) (a b:Int) (h:∀ i,f≤i→i<u.l.length→inK (u.l.getD i Tr.none).kind a b=true):allB (u.l.map qjc) (qz u) f a b=true:=by
 unfold allB
 rw [qqf]
 simp only [zu,zas,zab,zt]
 intro i hi
 by_cases hf:i<f
 ·exact .inl hf
 ·rw [qqg u i hi];exact .inr (h i (by omega) hi)
theorem qhn (u:Tr) (first least most:Int) (h:∀ i,i<u.l.length→((i:Int)<first→inK (u.l.getD i Tr.none).kind 17 22=true)∧(first≤(i:Int)→(u.l.getD i Tr.none).kind=16)) (h1:first+least≤u.l.length) (h2:(u.l.length:Int)≤first+most):qar (u.l.map qjc) (qz u) first least most=true:=by
 unfold qar
 rw [qqf]
 simp only [zf,zu,zas,zt]
 refine ⟨fun i hi=>?_,h1,h2⟩
 rw [qqg u i hi]
 by_cases hf:(i:Int)<first
 ·rw [(h i hi).1 hf,zan hf,zv (show ¬ first≤(i:Int) by omega)];rfl
 ·rw [(h i hi).2 (by omega),zv hf,Bool.false_and,xt];simp
section
variable {a:Int}
theorem q_num {n:Int} (h0:0≤n) (h1:n≤999999):qab (.mk 17 [] [n] a [])=true:=by
 simp [qab,qaz,qz,qj,qx,Tr.kind,Tr.words,Tr.nums,Tr.l,h0,h1]
theorem jnz {k:Int} {w:List UInt8} (hk:k=18∨k=19) (h:nameF w=true):qab (.mk k [w] [] a [])=true:=by
 rcases hk with rfl|rfl <;> simp [qab,qaz,qz,qj,qx,Tr.kind,Tr.words,Tr.nums,Tr.l,h]
theorem jbd {k:Int} {e:Tr} (hk:k=4∨k=20∨k=21) (he:inK e.kind 17 22=true):qab (.mk k [] [] a [e])=true:=by
 have hE:=qhn (.mk k [] [] a [e]) 1 0 0 (fun i hi=>by
  obtain rfl:i=0:=by simpa [Tr.l] using hi
  exact ⟨fun _=>he,fun h=>by omega⟩) (by simp [Tr.l]) (by simp [Tr.l])
 have hW:qj (qz (.mk k [] [] a [e])) 0=true:=by simp [qj,qz,Tr.words]
 have hN:qx (qz (.mk k [] [] a [e])) 0 0=true:=by simp [qx,qz,Tr.nums]
 have hK:(qz (.mk k [] [] a [e])).kind=k:=rfl
 unfold qab qaz
 rw [hK]
 rcases hk with rfl|rfl|rfl <;> simp [hE,hW,hN]
theorem q_bin {sg:Int} {e f:Tr} (h0:0≤sg) (h8:sg≤8) (he:inK e.kind 17 22=true) (hf:inK f.kind 17 22=true):qab (.mk 22 [] [sg] a [e,f])=true:=by
 have hE:=qhn (.mk 22 [] [sg] a [e,f]) 2 0 0 (fun i hi=>by
  have hi:i<2:=hi
  match i,hi with
  | 0,_=>exact ⟨fun _=>he,fun h=>by omega⟩
  | 1,_=>exact ⟨fun _=>hf,fun h=>by omega⟩) (by simp [Tr.l]) (by simp [Tr.l])
 have hW:qj (qz (.mk 22 [] [sg] a [e,f])) 0=true:=by simp [qj,qz,Tr.words]
 have hN:qx (qz (.mk 22 [] [sg] a [e,f])) 1 8=true:=by simp [qx,qz,Tr.nums,h0,h8]
 have hK:(qz (.mk 22 [] [sg] a [e,f])).kind=22:=rfl
 unfold qab qaz
 rw [hK]
 simp [hE,hW,hN]
theorem q_set {k:Int} {w:List UInt8} {e:Tr} (hk:k=6∨k=7) (hw:nameF w=true) (he:inK e.kind 17 22=true):qab (.mk k [w] [] a [e])=true:=by
 have hE:=qhn (.mk k [w] [] a [e]) 1 0 0 (fun i hi=>by
  obtain rfl:i=0:=by simpa [Tr.l] using hi
  exact ⟨fun _=>he,fun h=>by omega⟩) (by simp [Tr.l]) (by simp [Tr.l])
 have hW:qj (qz (.mk k [w] [] a [e])) 1=true:=by simp [qj,qz,Tr.words,hw]
 have hN:qx (qz (.mk k [w] [] a [e])) 0 0=true:=by simp [qx,qz,Tr.nums]
 have hK:(qz (.mk k [w] [] a [e])).kind=k:=rfl
 unfold qab qaz
 rw [hK]
 rcases hk with rfl|rfl <;> simp [hE,hW,hN]
theorem joa {d:Int} {w v:List UInt8} (hw:nameF w=true) (hv:nameF v=true) (h0:0≤d) (h1:d≤1):qab (.mk 8 [w,v] [d] a [])=true:=by
 simp [qab,qaz,qz,qj,qx,Tr.kind,Tr.words,Tr.nums,Tr.l,hw,hv,h0,h1]
theorem job {d:Int} {e:Tr} (h0:0≤d) (h1:d≤1) (he:inK e.kind 17 22=true):qab (.mk 9 [] [d] a [e])=true:=by
 have hE:=qhn (.mk 9 [] [d] a [e]) 1 0 0 (fun i hi=>by
  obtain rfl:i=0:=by simpa [Tr.l] using hi
  exact ⟨fun _=>he,fun h=>by omega⟩) (by simp [Tr.l]) (by simp [Tr.l])
 have hW:qj (qz (.mk 9 [] [d] a [e])) 0=true:=by simp [qj,qz,Tr.words]
 have hN:qx (qz (.mk 9 [] [d] a [e])) 1 1=true:=by simp [qx,qz,Tr.nums,h0,h1]
 have hK:(qz (.mk 9 [] [d] a [e])).kind=9:=rfl
 unfold qab qaz
 rw [hK]
 simp [hE,hW,hN]
theorem joc {d:Int} {l:List Tr} (h0:0≤d) (h1:d≤1) (hl:∀ i,i<l.length→(l.getD i Tr.none).kind=16) (hn:l≠[]) (h8:l.length≤800):qab (.mk 10 [] [d] a l)=true:=by
 have hp:=List.length_pos_iff.2 hn
 have hE:=qhn (.mk 10 [] [d] a l) 0 1 800 (fun i hi=>⟨fun h=>by omega,fun _=>hl i hi⟩) (by show (0:Int)+1≤l.length;omega) (by show (l.length:Int)≤0+800;omega)
 have hW:qj (qz (.mk 10 [] [d] a l)) 0=true:=by simp [qj,qz,Tr.words]
 have hN:qx (qz (.mk 10 [] [d] a l)) 1 1=true:=by simp [qx,qz,Tr.nums,h0,h1]
 have hK:(qz (.mk 10 [] [d] a l)).kind=10:=rfl
 unfold qab qaz
 rw [hK]
 simp [hE,hW,hN]
theorem q_if {e b:Tr} (k:Int) (hk:k=11∨k=12) (he:inK e.kind 17 22=true) (hb:b.kind=16):qab (.mk k [] [] a [e,b])=true:=by
 have hE:∀ m,1≤m→qar ((Tr.mk k [] [] a [e,b]).l.map qjc) (qz (.mk k [] [] a [e,b])) 1 1 m=true:=fun m hm=>qhn (.mk k [] [] a [e,b]) 1 1 m (fun i hi=>by
  have hi:i<2:=hi
  match i,hi with
  | 0,_=>exact ⟨fun _=>he,fun h=>by omega⟩
  | 1,_=>exact ⟨fun h=>by omega,fun _=>hb⟩) (by show (1:Int)+1≤2;decide) (by show (2:Int)≤1+m;omega)
 have hW:qj (qz (.mk k [] [] a [e,b])) 0=true:=by simp [qj,qz,Tr.words]
 have hN:qx (qz (.mk k [] [] a [e,b])) 0 0=true:=by simp [qx,qz,Tr.nums]
 have hK:(qz (.mk k [] [] a [e,b])).kind=k:=rfl
 unfold qab qaz
 rw [hK]
 rcases hk with rfl|rfl <;> simp [hE 1 (by decide),hE 2 (by decide),hW,hN]
theorem q_ife {e b c:Tr} (he:inK e.kind 17 22=true) (hb:b.kind=16) (hc:c.kind=16):qab (.mk 11 [] [] a [e,b,c])=true:=by
 have hE:=qhn (.mk 11 [] [] a [e,b,c]) 1 1 2 (fun i hi=>by
  have hi:i<3:=hi
  match i,hi with
  | 0,_=>exact ⟨fun _=>he,fun h=>by omega⟩
  | 1,_=>exact ⟨fun h=>by omega,fun _=>hb⟩
  | 2,_=>exact ⟨fun h=>by omega,fun _=>hc⟩) (by show (1:Int)+1≤3;decide) (by show (3:Int)≤1+2;decide)
 have hW:qj (qz (.mk 11 [] [] a [e,b,c])) 0=true:=by simp [qj,qz,Tr.words]
 have hN:qx (qz (.mk 11 [] [] a [e,b,c])) 0 0=true:=by simp [qx,qz,Tr.nums]
 have hK:(qz (.mk 11 [] [] a [e,b,c])).kind=11:=rfl
 unfold qab qaz
 rw [hK]
 simp [hE,hW,hN]
theorem jod {b:Tr} (hb:b.kind=16):qab (.mk 13 [] [] a [b])=true:=by
 have hE:=qhn (.mk 13 [] [] a [b]) 0 1 1 (fun i hi=>by
  obtain rfl:i=0:=by simpa [Tr.l] using hi
  exact ⟨fun h=>by omega,fun _=>hb⟩) (by simp [Tr.l]) (by simp [Tr.l])
 have hW:qj (qz (.mk 13 [] [] a [b])) 0=true:=by simp [qj,qz,Tr.words]
 have hN:qx (qz (.mk 13 [] [] a [b])) 0 0=true:=by simp [qx,qz,Tr.nums]
 have hK:(qz (.mk 13 [] [] a [b])).kind=13:=rfl
 unfold qab qaz
 rw [hK]
 simp [hE,hW,hN]
theorem jbe {k:Int} (hk:k=5∨k=14∨k=15):qab (.mk k [] [] a [])=true:=by
 rcases hk with rfl|rfl|rfl <;> simp [qab,qaz,qz,qj,qx,Tr.kind,Tr.words,Tr.nums,Tr.l]
theorem jbf {k:Int} {l:List Tr} (hk:(k=16∧∀ i,i<l.length→inK (l.getD i Tr.none).kind 6 15=true)∨(k=0∧∀ i,i<l.length→inK (l.getD i Tr.none).kind 1 5=true)):qab (.mk k [] [] a l)=true:=by
 have hW:qj (qz (.mk k [] [] a l)) 0=true:=by simp [qj,qz,Tr.words]
 have hN:qx (qz (.mk k [] [] a l)) 0 0=true:=by simp [qx,qz,Tr.nums]
 have hK:(qz (.mk k [] [] a l)).kind=k:=rfl
 unfold qab qaz
 rw [hK]
 rcases hk with ⟨rfl,h⟩|⟨rfl,h⟩
 ·have hA:=qul (.mk 16 [] [] a l) 0 6 15 (fun i _ hi=>h i hi)
  simp [hA,hW,hN]
 ·have hA:=qul (.mk 0 [] [] a l) 0 1 5 (fun i _ hi=>h i hi)
  simp [hA,hW,hN]
theorem q_var {n v:Int} {w:List UInt8} (hw:nameF w=true) (h0:0≤n) (h1:n≤999999) (h2:-999999≤v) (h3:v≤999999):qab (.mk 2 [w] [n,v] a [])=true:=by
 simp [qab,qaz,qz,qj,qx,inK,Tr.kind,Tr.words,Tr.nums,Tr.l,hw,h0,h1,h2,h3]
theorem joe {n m b c:Int} {w:List UInt8} (hw:nameF w=true) (h0:0≤n) (h1:n≤999999) (h2:0≤m) (h3:m≤999999) (h4:0≤b) (h5:b≤1) (h6:0≤c) (h7:c≤1):qab (.mk 1 [w] [n,m,b,c] a [])=true:=by
 simp [qab,qaz,qz,qj,qx,Tr.kind,Tr.words,Tr.nums,Tr.l,hw,h0,h1,h2,h3,h4,h5,h6,h7]
 omega
theorem jof {c:Int} {w:List UInt8} {vs ss:List Tr} (hw:nameF w=true) (h0:0≤c) (h1:c≤999999) (hv:∀ i,i<vs.length→(vs.getD i Tr.none).kind=2) (hs:∀ i,i<ss.length→inK (ss.getD i Tr.none).kind 6 15=true):qab (.mk 3 [w] [c] a (vs++ss))=true:=by
 have hW:qj (qz (.mk 3 [w] [c] a (vs++ss))) 1=true:=by simp [qj,qz,Tr.words,hw]
 have hN:qx (qz (.mk 3 [w] [c] a (vs++ss))) 1 999999=true:=by simp [qx,qz,Tr.nums,h0,h1]
 have hK:(qz (.mk 3 [w] [c] a (vs++ss))).kind=3:=rfl
 have hlen:(qz (.mk 3 [w] [c] a (vs++ss))).kids.length=vs.length+ss.length:=by rw [qqf];simp [Tr.l]
 have hkid:∀ i,i<(vs++ss).length→kidK ((Tr.mk 3 [w] [c] a (vs++ss)).l.map qjc) (qz (.mk 3 [w] [c] a (vs++ss))) i=((vs++ss).getD i Tr.none).kind:=fun i hi=>qqg _ i hi
 have hlo:∀ i,i<vs.length→(vs++ss).getD i Tr.none=vs.getD i Tr.none:=fun i hi=>by
  rw [zd,zq hi,← zd]
 have hhi:∀ i,vs.length≤i→(vs++ss).getD i Tr.none=ss.getD (i - vs.length) Tr.none:=fun i hi=>by
  rw [zd,zo hi,← zd]
 have hV:qer ((Tr.mk 3 [w] [c] a (vs++ss)).l.map qjc) (qz (.mk 3 [w] [c] a (vs++ss)))=vs.length:=by
  refine qyi _ _ _ (by omega) (fun j hj=>?_) ?_
  ·rw [hkid j (by simp;omega),hlo j hj];exact hv j hj
  ·by_cases h:ss.length=0
   ·exact .inl (by omega)
   ·refine .inr ?_
    rw [hkid vs.length (by simp;omega),hhi _ (zj _),zad]
    have:=hs 0 (by omega)
    unfold inK at this
    simp only [zf,zt] at this
    omega
 have hA:=qul (.mk 3 [w] [c] a (vs++ss)) vs.length 6 15 (fun i hi hl=>by
  have hl:i<(vs++ss).length:=hl
  rw [zr] at hl
  show inK ((vs++ss).getD i Tr.none).kind 6 15=true
  rw [hhi i hi];exact hs _ (by omega))
 unfold qab qaz
 rw [hK]
 simp [hV,hA,hW,hN]
end
end Pa
end Go.Proofs.Ythfaleaojlnnoaa
