/- What was read is right, node by node. Nothing of the program. -/
import Derived.Test.YthfaleaojlnnoaaY734
import Derived.Test.YthfaleaojlnnoaaY72
set_option linter.unusedSimpArgs false
set_option linter.unusedVariables false
namespace Go.Proofs.Ythfaleaojlnnoaa
open List renaming getD_eq_getElem?_getD → zd
namespace Pa
open List renaming getD_eq_getElem?_getD → zd
open Go Go.Sx Go.St
theorem jca {f g:Nat→Bool} {n:Nat} (h:∀ i,i<n→f i=g i):(List.range n).all f=(List.range n).all g:=by
 rw [xc]
 simp only [zs,zas]
 exact ⟨fun H i hi=>by rw [← h i hi];exact H i hi,fun H i hi=>by rw [h i hi];exact H i hi⟩
theorem jcb {f g:Nat→Bool}:∀ l:List Nat,(∀ x∈l,f x=g x)→l.findIdx? f=l.findIdx? g
 | [],_=>rfl
 | x::r,h=>by
  rw [List.findIdx?_cons,List.findIdx?_cons,h x (xz ..),jcb r (fun y hy=>h y (xu _ hy))]
theorem jop {L L':List Nd} {n n':Nd} (hk:n.kind=n'.kind) (hw:n.words=n'.words) (hn:n.nums=n'.nums) (hl:n.kids.length=n'.kids.length) (h:∀ i,i<n.kids.length→kidK L n i=kidK L' n' i):qaa L n=qaa L' n':=by
 have hA:∀ f a b,allB L n f a b=allB L' n' f a b:=fun f a b=>by
  unfold allB
  rw [← hl]
  exact jca (fun i hi=>by rw [h i hi])
 have hE:∀ f a b,qag L n f a b=qag L' n' f a b:=fun f a b=>by
  unfold qag
  rw [← hl]
  rw [jca (fun i hi=>by rw [h i hi])]
 have hV:qfa L n=qfa L' n':=by
  unfold qfa Go.St.idx
  rw [← hl,jcb (f:=fun i=>kidK L n i != 2) (g:=fun i=>kidK L' n' i != 2) (List.range n.kids.length) (fun i hi=>by show (kidK L n i != 2)=(kidK L' n' i != 2);rw [h i (List.mem_range.1 hi)])]
 have hW:∀ c,qg n c=qg n' c:=fun c=>by unfold qg;rw [hw]
 have hN:∀ c m,qt n c m=qt n' c m:=fun c m=>by unfold qt;rw [hn]
 unfold qaa
 simp only [hk,hn,hl,hA,hE,hV,hW,hN]
def qjm (v:Tr):Nd:=⟨v.kind,[],[],[],0⟩
def qy (u:Tr):Nd:=⟨u.kind,u.words,u.nums,(List.range u.l.length).map Int.ofNat,0⟩
def jz (u:Tr):Bool:=qaa (u.l.map qjm) (qy u)
theorem qqm (u:Tr):(qy u).kids.length=u.l.length:=by simp [qy]
theorem qqn (u:Tr) (i:Nat) (h:i<u.l.length):kidK (u.l.map qjm) (qy u) i=(u.l.getD i Tr.none).kind:=by
 unfold kidK qy
 simp only [zd,zg,List.getElem?_range h,xe,zal,Int.ofNat_eq_natCast,Int.toNat_natCast,ze h]
 rfl
theorem quz (u:Tr) (f:Nat) (a b:Int) (h:∀ i,f≤i→i<u.l.length→inK (u.l.getD i Tr.none).kind a b=true):allB (u.l.map qjm) (qy u) f a b=true:=by
 unfold allB
 rw [qqm]
 simp only [zs,zas,xh,zo]
 intro i hi
 by_cases hf:i<f
 ·exact .inl hf
 ·rw [qqn u i hi];exact .inr (h i (by omega) hi)
theorem qhu (u:Tr) (first least most:Int) (h:∀ i,i<u.l.length→((i:Int)<first→inK (u.l.getD i Tr.none).kind 17 22=true)∧(first≤(i:Int)→(u.l.getD i Tr.none).kind=16)) (h1:first+least≤u.l.length) (h2:(u.l.length:Int)≤first+most):qag (u.l.map qjm) (qy u) first least most=true:=by
 unfold qag
 rw [qqm]
 simp only [zf,zs,zas,zo]
 refine ⟨fun i hi=>?_,h1,h2⟩
 rw [qqn u i hi]
 by_cases hf:(i:Int)<first
 ·rw [(h i hi).1 hf,xw hf,zt (show ¬ first≤(i:Int) by omega)];rfl
 ·rw [(h i hi).2 (by omega),zt hf,Bool.false_and,xq];simp
section
variable {a:Int}
theorem q_num {n:Int} (h0:0≤n) (h1:n≤999999):jz (.mk 17 [] [n] a [])=true:=by
 simp [jz,qaa,qy,qg,qt,Tr.kind,Tr.words,Tr.nums,Tr.l,h0,h1]
theorem joq {k:Int} {w:List UInt8} (hk:k=18∨k=19) (h:nameF w=true):jz (.mk k [w] [] a [])=true:=by
 rcases hk with rfl|rfl <;> simp [jz,qaa,qy,qg,qt,Tr.kind,Tr.words,Tr.nums,Tr.l,h]
theorem jcc {k:Int} {e:Tr} (hk:k=4∨k=20∨k=21) (he:inK e.kind 17 22=true):jz (.mk k [] [] a [e])=true:=by
 have hE:=qhu (.mk k [] [] a [e]) 1 0 0 (fun i hi=>by
  obtain rfl:i=0:=by simpa [Tr.l] using hi
  exact ⟨fun _=>he,fun h=>by omega⟩) (by simp [Tr.l]) (by simp [Tr.l])
 have hW:qg (qy (.mk k [] [] a [e])) 0=true:=by simp [qg,qy,Tr.words]
 have hN:qt (qy (.mk k [] [] a [e])) 0 0=true:=by simp [qt,qy,Tr.nums]
 have hK:(qy (.mk k [] [] a [e])).kind=k:=rfl
 unfold jz qaa
 rw [hK]
 rcases hk with rfl|rfl|rfl <;> simp [hE,hW,hN]
theorem q_bin {sg:Int} {e f:Tr} (h0:0≤sg) (h8:sg≤8) (he:inK e.kind 17 22=true) (hf:inK f.kind 17 22=true):jz (.mk 22 [] [sg] a [e,f])=true:=by
 have hE:=qhu (.mk 22 [] [sg] a [e,f]) 2 0 0 (fun i hi=>by
  have hi:i<2:=hi
  match i,hi with
  | 0,_=>exact ⟨fun _=>he,fun h=>by omega⟩
  | 1,_=>exact ⟨fun _=>hf,fun h=>by omega⟩) (by simp [Tr.l]) (by simp [Tr.l])
 have hW:qg (qy (.mk 22 [] [sg] a [e,f])) 0=true:=by simp [qg,qy,Tr.words]
 have hN:qt (qy (.mk 22 [] [sg] a [e,f])) 1 8=true:=by simp [qt,qy,Tr.nums,h0,h8]
 have hK:(qy (.mk 22 [] [sg] a [e,f])).kind=22:=rfl
 unfold jz qaa
 rw [hK]
 simp [hE,hW,hN]
theorem q_set {k:Int} {w:List UInt8} {e:Tr} (hk:k=6∨k=7) (hw:nameF w=true) (he:inK e.kind 17 22=true):jz (.mk k [w] [] a [e])=true:=by
 have hE:=qhu (.mk k [w] [] a [e]) 1 0 0 (fun i hi=>by
  obtain rfl:i=0:=by simpa [Tr.l] using hi
  exact ⟨fun _=>he,fun h=>by omega⟩) (by simp [Tr.l]) (by simp [Tr.l])
 have hW:qg (qy (.mk k [w] [] a [e])) 1=true:=by simp [qg,qy,Tr.words,hw]
 have hN:qt (qy (.mk k [w] [] a [e])) 0 0=true:=by simp [qt,qy,Tr.nums]
 have hK:(qy (.mk k [w] [] a [e])).kind=k:=rfl
 unfold jz qaa
 rw [hK]
 rcases hk with rfl|rfl <;> simp [hE,hW,hN]
theorem jor {d:Int} {w v:List UInt8} (hw:nameF w=true) (hv:nameF v=true) (h0:0≤d) (h1:d≤1):jz (.mk 8 [w,v] [d] a [])=true:=by
 simp [jz,qaa,qy,qg,qt,Tr.kind,Tr.words,Tr.nums,Tr.l,hw,hv,h0,h1]
theorem jos {d:Int} {e:Tr} (h0:0≤d) (h1:d≤1) (he:inK e.kind 17 22=true):jz (.mk 9 [] [d] a [e])=true:=by
 have hE:=qhu (.mk 9 [] [d] a [e]) 1 0 0 (fun i hi=>by
  obtain rfl:i=0:=by simpa [Tr.l] using hi
  exact ⟨fun _=>he,fun h=>by omega⟩) (by simp [Tr.l]) (by simp [Tr.l])
 have hW:qg (qy (.mk 9 [] [d] a [e])) 0=true:=by simp [qg,qy,Tr.words]
 have hN:qt (qy (.mk 9 [] [d] a [e])) 1 1=true:=by simp [qt,qy,Tr.nums,h0,h1]
 have hK:(qy (.mk 9 [] [d] a [e])).kind=9:=rfl
 unfold jz qaa
 rw [hK]
 simp [hE,hW,hN]
theorem jot {d:Int} {l:List Tr} (h0:0≤d) (h1:d≤1) (hl:∀ i,i<l.length→(l.getD i Tr.none).kind=16) (hn:l≠[]) (h8:l.length≤800):jz (.mk 10 [] [d] a l)=true:=by
 have hp:=List.length_pos_iff.2 hn
 have hE:=qhu (.mk 10 [] [d] a l) 0 1 800 (fun i hi=>⟨fun h=>by omega,fun _=>hl i hi⟩) (by show (0:Int)+1≤l.length;omega) (by show (l.length:Int)≤0+800;omega)
 have hW:qg (qy (.mk 10 [] [d] a l)) 0=true:=by simp [qg,qy,Tr.words]
 have hN:qt (qy (.mk 10 [] [d] a l)) 1 1=true:=by simp [qt,qy,Tr.nums,h0,h1]
 have hK:(qy (.mk 10 [] [d] a l)).kind=10:=rfl
 unfold jz qaa
 rw [hK]
 simp [hE,hW,hN]
theorem q_if {e b:Tr} (k:Int) (hk:k=11∨k=12) (he:inK e.kind 17 22=true) (hb:b.kind=16):jz (.mk k [] [] a [e,b])=true:=by
 have hE:∀ m,1≤m→qag ((Tr.mk k [] [] a [e,b]).l.map qjm) (qy (.mk k [] [] a [e,b])) 1 1 m=true:=fun m hm=>qhu (.mk k [] [] a [e,b]) 1 1 m (fun i hi=>by
  have hi:i<2:=hi
  match i,hi with
  | 0,_=>exact ⟨fun _=>he,fun h=>by omega⟩
  | 1,_=>exact ⟨fun h=>by omega,fun _=>hb⟩) (by show (1:Int)+1≤2;decide) (by show (2:Int)≤1+m;omega)
 have hW:qg (qy (.mk k [] [] a [e,b])) 0=true:=by simp [qg,qy,Tr.words]
 have hN:qt (qy (.mk k [] [] a [e,b])) 0 0=true:=by simp [qt,qy,Tr.nums]
 have hK:(qy (.mk k [] [] a [e,b])).kind=k:=rfl
 unfold jz qaa
 rw [hK]
 rcases hk with rfl|rfl <;> simp [hE 1 (by decide),hE 2 (by decide),hW,hN]
theorem q_ife {e b c:Tr} (he:inK e.kind 17 22=true) (hb:b.kind=16) (hc:c.kind=16):jz (.mk 11 [] [] a [e,b,c])=true:=by
 have hE:=qhu (.mk 11 [] [] a [e,b,c]) 1 1 2 (fun i hi=>by
  have hi:i<3:=hi
  match i,hi with
  | 0,_=>exact ⟨fun _=>he,fun h=>by omega⟩
  | 1,_=>exact ⟨fun h=>by omega,fun _=>hb⟩
  | 2,_=>exact ⟨fun h=>by omega,fun _=>hc⟩) (by show (1:Int)+1≤3;decide) (by show (3:Int)≤1+2;decide)
 have hW:qg (qy (.mk 11 [] [] a [e,b,c])) 0=true:=by simp [qg,qy,Tr.words]
 have hN:qt (qy (.mk 11 [] [] a [e,b,c])) 0 0=true:=by simp [qt,qy,Tr.nums]
 have hK:(qy (.mk 11 [] [] a [e,b,c])).kind=11:=rfl
 unfold jz qaa
 rw [hK]
 simp [hE,hW,hN]
theorem jou {b:Tr} (hb:b.kind=16):jz (.mk 13 [] [] a [b])=true:=by
 have hE:=qhu (.mk 13 [] [] a [b]) 0 1 1 (fun i hi=>by
  obtain rfl:i=0:=by simpa [Tr.l] using hi
  exact ⟨fun h=>by omega,fun _=>hb⟩) (by simp [Tr.l]) (by simp [Tr.l])
 have hW:qg (qy (.mk 13 [] [] a [b])) 0=true:=by simp [qg,qy,Tr.words]
 have hN:qt (qy (.mk 13 [] [] a [b])) 0 0=true:=by simp [qt,qy,Tr.nums]
 have hK:(qy (.mk 13 [] [] a [b])).kind=13:=rfl
 unfold jz qaa
 rw [hK]
 simp [hE,hW,hN]
theorem jcd {k:Int} (hk:k=5∨k=14∨k=15):jz (.mk k [] [] a [])=true:=by
 rcases hk with rfl|rfl|rfl <;> simp [jz,qaa,qy,qg,qt,Tr.kind,Tr.words,Tr.nums,Tr.l]
theorem jce {k:Int} {l:List Tr} (hk:(k=16∧∀ i,i<l.length→inK (l.getD i Tr.none).kind 6 15=true)∨(k=0∧∀ i,i<l.length→inK (l.getD i Tr.none).kind 1 5=true)):jz (.mk k [] [] a l)=true:=by
 have hW:qg (qy (.mk k [] [] a l)) 0=true:=by simp [qg,qy,Tr.words]
 have hN:qt (qy (.mk k [] [] a l)) 0 0=true:=by simp [qt,qy,Tr.nums]
 have hK:(qy (.mk k [] [] a l)).kind=k:=rfl
 unfold jz qaa
 rw [hK]
 rcases hk with ⟨rfl,h⟩|⟨rfl,h⟩
 ·have hA:=quz (.mk 16 [] [] a l) 0 6 15 (fun i _ hi=>h i hi)
  simp [hA,hW,hN]
 ·have hA:=quz (.mk 0 [] [] a l) 0 1 5 (fun i _ hi=>h i hi)
  simp [hA,hW,hN]
theorem q_var {n v:Int} {w:List UInt8} (hw:nameF w=true) (h0:0≤n) (h1:n≤999999) (h2:-999999≤v) (h3:v≤999999):jz (.mk 2 [w] [n,v] a [])=true:=by
 simp [jz,qaa,qy,qg,qt,inK,Tr.kind,Tr.words,Tr.nums,Tr.l,hw,h0,h1,h2,h3]
theorem jov {n m b c:Int} {w:List UInt8} (hw:nameF w=true) (h0:0≤n) (h1:n≤999999) (h2:0≤m) (h3:m≤999999) (h4:0≤b) (h5:b≤1) (h6:0≤c) (h7:c≤1):jz (.mk 1 [w] [n,m,b,c] a [])=true:=by
 simp [jz,qaa,qy,qg,qt,Tr.kind,Tr.words,Tr.nums,Tr.l,hw,h0,h1,h2,h3,h4,h5,h6,h7]
 omega
theorem jow {c:Int} {w:List UInt8} {vs ss:List Tr} (hw:nameF w=true) (h0:0≤c) (h1:c≤999999) (hv:∀ i,i<vs.length→(vs.getD i Tr.none).kind=2) (hs:∀ i,i<ss.length→inK (ss.getD i Tr.none).kind 6 15=true):jz (.mk 3 [w] [c] a (vs++ss))=true:=by
 have hW:qg (qy (.mk 3 [w] [c] a (vs++ss))) 1=true:=by simp [qg,qy,Tr.words,hw]
 have hN:qt (qy (.mk 3 [w] [c] a (vs++ss))) 1 999999=true:=by simp [qt,qy,Tr.nums,h0,h1]
 have hK:(qy (.mk 3 [w] [c] a (vs++ss))).kind=3:=rfl
 have hlen:(qy (.mk 3 [w] [c] a (vs++ss))).kids.length=vs.length+ss.length:=by rw [qqm];simp [Tr.l]
 have hkid:∀ i,i<(vs++ss).length→kidK ((Tr.mk 3 [w] [c] a (vs++ss)).l.map qjm) (qy (.mk 3 [w] [c] a (vs++ss))) i=((vs++ss).getD i Tr.none).kind:=fun i hi=>qqn _ i hi
 have hlo:∀ i,i<vs.length→(vs++ss).getD i Tr.none=vs.getD i Tr.none:=fun i hi=>by
  rw [zd,zp hi,← zd]
 have hhi:∀ i,vs.length≤i→(vs++ss).getD i Tr.none=ss.getD (i - vs.length) Tr.none:=fun i hi=>by
  rw [zd,zm hi,← zd]
 have hV:qfa ((Tr.mk 3 [w] [c] a (vs++ss)).l.map qjm) (qy (.mk 3 [w] [c] a (vs++ss)))=vs.length:=by
  refine qtk _ _ _ (by omega) (fun j hj=>?_) ?_
  ·rw [hkid j (by simp;omega),hlo j hj];exact hv j hj
  ·by_cases h:ss.length=0
   ·exact .inl (by omega)
   ·refine .inr ?_
    rw [hkid vs.length (by simp;omega),hhi _ (zi _),xy]
    have:=hs 0 (by omega)
    unfold inK at this
    simp only [zf,zo] at this
    omega
 have hA:=quz (.mk 3 [w] [c] a (vs++ss)) vs.length 6 15 (fun i hi hl=>by
  have hl:i<(vs++ss).length:=hl
  rw [xa] at hl
  show inK ((vs++ss).getD i Tr.none).kind 6 15=true
  rw [hhi i hi];exact hs _ (by omega))
 unfold jz qaa
 rw [hK]
 simp [hV,hA,hW,hN]
end
end Pa
end Go.Proofs.Ythfaleaojlnnoaa
