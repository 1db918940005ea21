/- Contracts: the document's Check. -/
import Derived.Test.YtkhdldncbmkidaaY3RuWK
import Derived.Test.YtkhdldncbmkidaaY32
set_option linter.unusedSimpArgs false
set_option linter.unusedVariables false
namespace Go.Proofs.Ytkhdldncbmkidaa
open List renaming getD_eq_getElem?_getD → zd
open Go Go.Sx Go.RowKit Go.Ru Go.Cl Go.St
set_option maxRecDepth 100000
set_option maxHeartbeats 8000000
theorem qjw (cs:List (List Int)) (p:List Ln) (goal:List Int):qdp cs p goal=if cs.all rightB && rightB goal then (if (linesR cs 0 p).1=0 then (if (linesR cs 0 p).2.any (fun d=>qaf d goal) || jp (linesR cs 0 p).2 goal then 0 else (p.length:Int)+1) else (linesR cs 0 p).1) else -1:=by
 unfold qdp
 split
 ·obtain ⟨n,th⟩:=linesR cs 0 p
  by_cases h:n=0
  ·subst h;rfl
  ·rw [ze h]
   split
   ·rename_i h'
    exact absurd (congrArg Prod.fst h') h
   ·rename_i h'
    exact (congrArg Prod.fst h').symm
 ·rfl
theorem qrp (th:List (List Int)) (i:Nat) (l:Ln) (r:List Ln):linesR th i (l::r)=if rightB l.c then (if l.del then (match qap l.c th with|some k=>linesR (th.eraseIdx k) (i+1) r|none=>((i:Int)+1,th)) else if jp th l.c then linesR (th++[l.c]) (i+1) r else ((i:Int)+1,th)) else ((i:Int)+1,th):=by
 obtain ⟨del,c⟩:=l
 cases del <;> rfl
theorem qyu (c d:List Int):∀ l:List (List Int),qap c (l++[d])=if qaf d c then some l.length else qap c l
 | []=>by
  show qap c [d]=_
  unfold qap
  rfl
 | x::l=>by
  rw [List.cons_append]
  unfold qap
  rw [qyu c d l]
  by_cases h:qaf d c=true
  ·rw [za h,za h];rfl
  ·rw [ze h,ze h]
theorem jlf {E:Env} {s:ASt}:TurnR E s s:=fun rd mp _ _ h1 h2=>⟨rd,mp,h1,h2⟩
def atI:Option Nat→Int
 | none=>-1
 | some k=>k
theorem qyv:∀ (l:List (List Int)) (j:Nat),(l.eraseIdx j).flatten.length≤l.flatten.length
 | [],_=>zj _
 | x::l,0=>by rw [List.eraseIdx_cons_zero,List.flatten_cons,zi];omega
 | x::l,j+1=>by
  have:=qyv l j
  rw [List.eraseIdx_cons_succ,List.flatten_cons,List.flatten_cons,zi,zi];omega
theorem jlg {th:List (List Int)} {j:Nat} (hj:j<th.length) {f0:Nat→List AV} (k:Nat) (hk:k<(th.eraseIdx j).length) :
  appF (0+((j:Nat):Int).toNat) (appF 0 f0 ((j:Nat):Int).toNat (encL (fun c:List Int=>[ints c]) [] th)) (th.length - (((j:Nat):Int)+1).toNat) (fun i=>encL (fun c=>[ints c]) [] th ((((j:Nat):Int)+1).toNat+i)) k=encL (fun c=>[ints c]) [] (th.eraseIdx j) k:=by
 have e1:((j:Nat):Int).toNat=j:=rfl
 have e2:(((j:Nat):Int)+1).toNat=j+1:=rfl
 rw [e1,e2]
 rw [zbi hj] at hk
 unfold appF encL
 rw [qqu]
 by_cases h:k<j
 ·rw [za (by omega),ze (by omega),za (by omega),zbr,za h]
 ·rw [ze (by omega),za (by omega),ze h]
  dsimp only
  rw [show j+1+(k - (0+j))=k+1 by omega]
structure LrI (cs:List (List Int)) (p:List Ln) (i:Nat) (th:List (List Int)):Prop where
 le:i≤p.length
 e:linesR cs 0 p=linesR th i (p.drop i)
 l:th.length≤cs.length+i
 fl:th.flatten.length≤cs.flatten.length+1000 * i
theorem jlh (cs:List (List Int)) (p:List Ln) (goal:List Int) (hl:cs.length≤10000) (hfl:cs.flatten.length≤100000) (hp:p.length≤100) (hpl:∀ l∈p,l.c.length≤1000) (hg:goal.length≤1000):Con Try.prog 30 [qak cs,qhq p,ints goal] (iv (qdp cs p goal)):=by
 have hrg:=qhm goal (by omega)
 have hck:=qjw cs p goal
 generalize qdp cs p goal=R at hck ⊢
 replace hck:=Hid.in hck
 refine zK {owns:=[(15,(23,1)),(82,(23,1))]} 300 Try.func30 (fun c0 rdb=>?_)
 (repeat' ((conv=>whnf);first|refine zO ?_|refine Ob.auto ?_|(refine Ob.intro (by (first|exact ⟨⟨rfl,rfl⟩,by omega⟩|exact ⟨by omega,by omega⟩)) ?_)|(apply zB <;> intro hb <;> (try simp [-zd] at hb) <;> try (exfalso;omega))|refine Ob.intro ?_ ?_))
 ((conv=>whnf);refine qw (fun _=>rfl) 300 1 (fun i:Nat=>[(8,iv i),(7,.own 0 0 0 cs.length)]) (fun _=>[(0,.row [] 23 1 0 cs.length (encL (fun c=>[ints c]) [] cs))]) (fun i=>i≤cs.length∧∀ j,j<i→rightB (cs.getD j [])=true) (fun i=>cs.length - i) (0) (⟨zv _,fun j hj=>absurd hj (zo j)⟩) ⟨Le.refl _,Le.of_eq (congrArg (AV.own 0 0 0) (zw _)),trivial⟩ ⟨⟨⟨rfl,rfl,rfl⟩,rfl,zw _,fun k hk=>by
  rw [zw] at hk
  refine LeL.of_eq ?_
  show (if k<0 then _ else if k<0+cs.length then _ else _)=_
  rw [ze (zo _),za (by omega),zbr]⟩,trivial⟩ (fun _=>rfl) (by kernel_rfl) ?_;(conv=>whnf))
 rintro i ⟨hi,hno⟩
 by_cases hil:i<cs.length
 ·have hc1:=qhm (cs.getD i []) (zr (qjv (qj hil)) (by omega))
  replace hno:=Hid.in hno
  (repeat' ((conv=>whnf);first|refine zO ?_|refine Ob.auto ?_|(refine Ob.intro (by (first|exact ⟨by omega,by omega⟩|exact ⟨⟨rfl,rfl⟩,zf _,Int.ofNat_lt.2 hil⟩|exact ⟨⟨rfl,rfl⟩,hil⟩)) ?_)|(apply zB <;> intro hb <;> (try simp [-zd] at hb) <;> try (exfalso;omega))|refine Ob.intro ?_ ?_))
  ((conv=>whnf);refine jl (fun _=>rfl) 300 hc1 (by rfl) leA (by kernel_rfl) ?_)
  (repeat' ((conv=>whnf);first|refine zO ?_|refine Ob.auto ?_|(refine Ob.intro (by (first|exact ⟨by omega,by omega⟩|exact ⟨⟨rfl,rfl⟩,zf _,Int.ofNat_lt.2 hil⟩|exact ⟨⟨rfl,rfl⟩,hil⟩)) ?_)|(apply zB <;> intro hb <;> (try simp [-zd] at hb) <;> try (exfalso;omega))|refine Ob.intro ?_ ?_))
  ·have hR:R=-1:=by
    rw [hck.out,show cs.all rightB=false from List.all_eq_false.2 ⟨_,qj hil,by rw [hb];decide⟩];rfl
   rw [hR]
   exact Le.refl _
  ·((conv=>whnf);refine ⟨i+1,⟨hil,fun j hj=>by
    by_cases e:j=i
    ·subst e;exact hb
    ·exact hno.out j (by omega)⟩,⟨qa,qa⟩,⟨qa,qa⟩,?_⟩;(first|omega|(dsimp only;omega)|skip))
 ·have hall:cs.all rightB=true:=List.all_eq_true.2 fun d hd=>by
   obtain ⟨j,hj,rfl⟩:=qal [] hd
   exact hno j (by omega)
  replace hno:=Hid.in hno
  cases hr:rightB goal with
  | false=>
   rw [hr] at hrg
   have hR:R=-1:=by rw [hck.out,hall,hr];rfl
   rw [hR]
   (repeat' ((conv=>whnf);first|refine zO ?_|refine Ob.auto ?_|refine zC 300 (hrg) ?_|refine zG 300 (fun hg=>hrg) ?_|(refine CallY.con (hrg) (by rfl) leA ?_)|(refine CallZ.con (fun hg=>hrg) qf (by rfl) ?_)|(refine qg (fun _=>rfl) 300 (hrg) qc (by (repeat' (first|exact trivial|exact Le.refl _|(refine And.intro ?_ ?_))) <;> fail) (by rfl) (by kernel_rfl) ?_)|(refine qi (fun _=>rfl) 300 (fun hg=>hrg) (fun hg=>qc) (fun hg=>(by (repeat' (first|exact trivial|exact Le.refl _|exact Le.cnd hg|(refine And.intro ?_ ?_))) <;> fail)) (by rfl) (by kernel_rfl) ?_)|(apply zB <;> intro hb <;> (try simp [-zd] at hb) <;> try (exfalso;omega))|refine Ob.intro ?_ ?_))
   exact Le.refl _
  | true=>
   rw [hr] at hrg
   have hR:R=if (linesR cs 0 p).1=0 then (if (linesR cs 0 p).2.any (fun d=>qaf d goal) || jp (linesR cs 0 p).2 goal then 0 else (p.length:Int)+1) else (linesR cs 0 p).1:=by rw [hck.out,hall,hr];rfl
   replace hR:=Hid.in hR
   (repeat' ((conv=>whnf);first|refine zO ?_|refine Ob.auto ?_|refine zC 300 (hrg) ?_|refine zG 300 (fun hg=>hrg) ?_|(refine CallY.con (hrg) (by rfl) leA ?_)|(refine CallZ.con (fun hg=>hrg) qf (by rfl) ?_)|(refine qg (fun _=>rfl) 300 (hrg) qc (by (repeat' (first|exact trivial|exact Le.refl _|(refine And.intro ?_ ?_))) <;> fail) (by rfl) (by kernel_rfl) ?_)|(refine qi (fun _=>rfl) 300 (fun hg=>hrg) (fun hg=>qc) (fun hg=>(by (repeat' (first|exact trivial|exact Le.refl _|exact Le.cnd hg|(refine And.intro ?_ ?_))) <;> fail)) (by rfl) (by kernel_rfl) ?_)|(apply zB <;> intro hb <;> (try simp [-zd] at hb) <;> try (exfalso;omega))|refine Ob.intro ?_ ?_))
   ((conv=>whnf);refine jle (fun _=>rfl) 300 3 (fun g:Nat × List (List Int)=>[(9,iv g.1),(7,.own 0 0 0 g.2.length)]) (fun g=>[(0,.row [] 23 1 0 g.2.length (encL (fun c=>[ints c]) [] g.2))]) (fun g=>LrI cs p g.1 g.2) (fun g=>p.length - g.1) ((0,cs)) (⟨zv _,rfl,zj _,zj _⟩) qa qa (fun _=>rfl) (by kernel_rfl) ?_;(conv=>whnf))
   rintro ⟨i,th⟩ hI
   dsimp only at hI ⊢
   obtain ⟨hle,he,hlt,hft⟩:=hI
   by_cases hil:i<p.length
   ·have hcl:=hpl _ (qj (d:=⟨false,[]⟩) hil)
    have hrc:=qhm (p.getD i ⟨false,[]⟩).c (by omega)
    rw [qyn hil,qrp] at he
    by_cases hrr:rightB (p.getD i ⟨false,[]⟩).c=true
    ·rw [za hrr] at he
     rw [hrr] at hrc
     cases hdel:(p.getD i ⟨false,[]⟩).del with
     | false=>
      rw [ze (by rw [hdel];decide)] at he
      have hfc:=qys th (p.getD i ⟨false,[]⟩).c (by omega) (by omega) (by omega)
      replace hfc:=Hid.in hfc
      replace he:=Hid.in he
      (repeat' ((conv=>whnf);first|refine zO ?_|refine Ob.auto ?_|(refine Ob.intro (by (first|exact ⟨by omega,by omega⟩|exact ⟨⟨rfl,rfl⟩,zf _,Int.ofNat_lt.2 hil⟩|exact ⟨⟨rfl,rfl⟩,hil⟩)) ?_)|(apply zB <;> intro hb <;> (try simp [-zd] at hb) <;> try (exfalso;omega))|refine Ob.intro ?_ ?_))
      ((conv=>whnf);refine jl (fun _=>rfl) 300 hrc (by rfl) leA (by kernel_rfl) ?_)
      (repeat' ((conv=>whnf);first|refine zO ?_|refine Ob.auto ?_|(refine Ob.intro (by (first|exact ⟨by omega,by omega⟩|exact ⟨⟨rfl,rfl⟩,zf _,Int.ofNat_lt.2 hil⟩|exact ⟨⟨rfl,rfl⟩,hil⟩)) ?_)|(apply zB <;> intro hb <;> (try simp [-zd] at hb) <;> try (exfalso;omega))|refine Ob.intro ?_ ?_))
      rotate_left
      ·rw [hdel] at hb;cases hb
      ((conv=>whnf);refine qg (fun _=>rfl) 300 hfc.out qc ⟨Le.refl _,Le.refl _,trivial⟩ (by rfl) (by kernel_rfl) ?_)
      replace hfc:=Hid.in hfc
      cases hff:jp th (p.getD i ⟨false,[]⟩).c with
      | false=>
       have hRi:R=(i:Int)+1:=by
        rw [hR.out,he.out,hff]
        exact ze (show ¬ ((i:Int)+1)=0 by omega)
       rw [hRi]
       (repeat' ((conv=>whnf);first|refine zO ?_|refine Ob.auto ?_|(refine Ob.intro (by (first|exact ⟨by omega,by omega⟩|exact ⟨⟨rfl,rfl⟩,zf _,Int.ofNat_lt.2 hil⟩|exact ⟨⟨rfl,rfl⟩,hil⟩)) ?_)|(apply zB <;> intro hb <;> (try simp [-zd] at hb) <;> try (exfalso;omega))|refine Ob.intro ?_ ?_))
       exact Le.refl _
      | true=>
       have he2:=he.out
       rw [hff,za rfl] at he2
       have hn:LrI cs p (i+1) (th++[(p.getD i ⟨false,[]⟩).c]):=⟨hil,he2,by rw [zi,zae];omega,by
        rw [List.flatten_append,zi,List.flatten_singleton];omega⟩
       have hs1:(th++[(p.getD i ⟨false,[]⟩).c]).length=th.length+1:=by rw [zi];rfl
       replace he2:=Hid.in he2
       replace hs1:=Hid.in hs1
       (repeat' ((conv=>whnf);first|refine zO ?_|refine Ob.auto ?_|(refine Ob.intro (by (first|exact ⟨by omega,by omega⟩|exact ⟨⟨rfl,rfl⟩,zf _,Int.ofNat_lt.2 hil⟩|exact ⟨⟨rfl,rfl⟩,hil⟩|exact ⟨⟨rfl,rfl⟩,qcm (b:=(tab Try.prog 23).bytes) (by omega) (by decide +kernel)⟩)) ?_)|(apply zB <;> intro hb <;> (try simp [-zd] at hb) <;> try (exfalso;omega))|refine Ob.intro ?_ ?_))
       ((conv=>whnf);refine ⟨(i+1,th++[(p.getD i ⟨false,[]⟩).c]),hn,⟨_,jlf,⟨(by
        dsimp only
        rw [hs1.out]
        (repeat' (first|exact trivial|exact rfl|exact Le.refl _|exact SoLe.refl _|refine And.intro ?_ ?_))),(by
        dsimp only
        rw [hs1.out]
        repeat' (first|exact trivial|exact rfl|exact Le.refl _|exact app1 (enc:=fun c:List Int=>[ints c]) rfl|refine And.intro ?_ ?_))⟩,⟨qa,qa⟩⟩,?_⟩;(first|omega|(dsimp only;omega)|skip))
     | true=>
      rw [za hdel] at he
      replace he:=Hid.in he
      (repeat' ((conv=>whnf);first|refine zO ?_|refine Ob.auto ?_|(refine Ob.intro (by (first|exact ⟨by omega,by omega⟩|exact ⟨⟨rfl,rfl⟩,zf _,Int.ofNat_lt.2 hil⟩|exact ⟨⟨rfl,rfl⟩,hil⟩)) ?_)|(apply zB <;> intro hb <;> (try simp [-zd] at hb) <;> try (exfalso;omega))|refine Ob.intro ?_ ?_))
      ((conv=>whnf);refine jl (fun _=>rfl) 300 hrc (by rfl) leA (by kernel_rfl) ?_)
      (repeat' ((conv=>whnf);first|refine zO ?_|refine Ob.auto ?_|(refine Ob.intro (by (first|exact ⟨by omega,by omega⟩|exact ⟨⟨rfl,rfl⟩,zf _,Int.ofNat_lt.2 hil⟩|exact ⟨⟨rfl,rfl⟩,hil⟩)) ?_)|(apply zB <;> intro hb <;> (try simp [-zd] at hb) <;> try (exfalso;omega))|refine Ob.intro ?_ ?_))
      ·rw [hdel] at hb;cases hb
      ((conv=>whnf);refine qw (fun _=>rfl) 300 5 (fun q:Nat=>[(12,iv q),(11,iv (atI (qap (p.getD i ⟨false,[]⟩).c (th.take q))))]) (fun _=>[]) (fun q=>q≤th.length) (fun q=>th.length - q) (0) (zv _) qa qa (fun _=>rfl) (by kernel_rfl) ?_;(conv=>whnf))
      intro q hq
      by_cases hql:q<th.length
      ·have hsn:=qyu (p.getD i ⟨false,[]⟩).c (th.getD q []) (th.take q)
       rw [show th.take q++[th.getD q []]=th.take (q+1) by rw [zal,zb hql,zd,zb hql];rfl,zu,Nat.min_eq_left hq] at hsn
       have hsc:=qyt (th.getD q []) (p.getD i ⟨false,[]⟩).c (zr (qjv (qj hql)) (by omega)) (by omega)
       replace hsn:=Hid.in hsn
       cases hsv:qaf (th.getD q []) (p.getD i ⟨false,[]⟩).c with
       | true=>
        rw [hsv] at hsc
        have e:=hsn.out
        rw [hsv,za rfl] at e
        replace hsc:=Hid.in hsc
        (repeat' ((conv=>whnf);first|refine zO ?_|refine Ob.auto ?_|(refine Ob.intro (by (first|exact ⟨by omega,by omega⟩|exact ⟨⟨rfl,rfl⟩,zf _,Int.ofNat_lt.2 hql⟩|exact ⟨⟨rfl,rfl⟩,hql⟩)) ?_)|(apply zB <;> intro hb <;> (try simp [-zd] at hb) <;> try (exfalso;omega))|refine Ob.intro ?_ ?_))
        ((conv=>whnf);refine jl (fun _=>rfl) 300 hsc.out (by rfl) leA (by kernel_rfl) ?_)
        (repeat' ((conv=>whnf);first|refine zO ?_|refine Ob.auto ?_|(refine Ob.intro (by (first|exact ⟨by omega,by omega⟩|exact ⟨⟨rfl,rfl⟩,zf _,Int.ofNat_lt.2 hql⟩|exact ⟨⟨rfl,rfl⟩,hql⟩)) ?_)|(apply zB <;> intro hb <;> (try simp [-zd] at hb) <;> try (exfalso;omega))|refine Ob.intro ?_ ?_))
        ((conv=>whnf);refine ⟨q+1,hql,⟨(by
         rw [e]
         (repeat' (first|exact trivial|exact rfl|exact Le.refl _|exact SoLe.refl _|refine And.intro ?_ ?_))),qa⟩,⟨qa,qa⟩,?_⟩;(first|omega|(dsimp only;omega)|skip))
       | false=>
        rw [hsv] at hsc
        have e:=hsn.out
        rw [hsv,ze (by decide)] at e
        replace hsc:=Hid.in hsc
        (repeat' ((conv=>whnf);first|refine zO ?_|refine Ob.auto ?_|(refine Ob.intro (by (first|exact ⟨by omega,by omega⟩|exact ⟨⟨rfl,rfl⟩,zf _,Int.ofNat_lt.2 hql⟩|exact ⟨⟨rfl,rfl⟩,hql⟩)) ?_)|(apply zB <;> intro hb <;> (try simp [-zd] at hb) <;> try (exfalso;omega))|refine Ob.intro ?_ ?_))
        ((conv=>whnf);refine jl (fun _=>rfl) 300 hsc.out (by rfl) leA (by kernel_rfl) ?_)
        (repeat' ((conv=>whnf);first|refine zO ?_|refine Ob.auto ?_|(refine Ob.intro (by (first|exact ⟨by omega,by omega⟩|exact ⟨⟨rfl,rfl⟩,zf _,Int.ofNat_lt.2 hql⟩|exact ⟨⟨rfl,rfl⟩,hql⟩)) ?_)|(apply zB <;> intro hb <;> (try simp [-zd] at hb) <;> try (exfalso;omega))|refine Ob.intro ?_ ?_))
        ((conv=>whnf);refine ⟨q+1,hql,⟨(by
         rw [e]
         (repeat' (first|exact trivial|exact rfl|exact Le.refl _|exact SoLe.refl _|refine And.intro ?_ ?_))),qa⟩,⟨qa,qa⟩,?_⟩;(first|omega|(dsimp only;omega)|skip))
      ·obtain rfl:q=th.length:=by omega
       rw [xi]
       cases hla:qap (p.getD i ⟨false,[]⟩).c th with
       | none=>
        have hRi:R=(i:Int)+1:=by
         rw [hR.out,he.out,hla]
         exact ze (show ¬ ((i:Int)+1)=0 by omega)
        rw [hRi]
        have e:atI none=-1:=rfl
        rw [e]
        (repeat' ((conv=>whnf);first|refine zO ?_|refine Ob.auto ?_|(refine Ob.intro (by (first|exact ⟨by omega,by omega⟩)) ?_)|(apply zB <;> intro hb <;> (try simp [-zd] at hb) <;> try (exfalso;omega))|refine Ob.intro ?_ ?_))
        exact Le.refl _
       | some j=>
        obtain ⟨hjl,_⟩:=qra hla
        have e:atI (some j)=((j:Nat):Int):=rfl
        rw [e]
        (repeat' ((conv=>whnf);first|refine zO ?_|refine Ob.auto ?_|(refine Ob.intro (by (first|exact ⟨by omega,by omega⟩|exact ⟨⟨rfl,rfl⟩,by omega,by omega⟩)) ?_)|(apply zB <;> intro hb <;> (try simp [-zd] at hb) <;> try (exfalso;omega))|refine Ob.intro ?_ ?_))
        have he2:=he.out
        rw [hla] at he2
        have hlen:0+((j:Nat):Int).toNat+(th.length - (((j:Nat):Int)+1).toNat)=(th.eraseIdx j).length:=by
         rw [zbi hjl];omega
        have hn:LrI cs p (i+1) (th.eraseIdx j):=⟨hil,he2,by rw [zbi hjl];omega,by have:=qyv th j;omega⟩
        ((conv=>whnf);refine ⟨(i+1,th.eraseIdx j),hn,⟨⟨[(9,iv ((i+1:Nat):Int)),(7,.own 0 0 0 (th.eraseIdx j).length),(1,qhq p),(2,ints goal)],[(0,.row [] 23 1 0 (th.eraseIdx j).length (encL (fun c=>[ints c]) [] (th.eraseIdx j)))],1⟩,TurnR.ren 0 1 (by kernel_rfl) ?_ ?_,⟨qa,qa⟩,⟨qa,qa⟩⟩,?_⟩)
        ·exact ⟨⟨Le.refl _,rfl⟩,⟨Le.of_eq (congrArg (AV.own 1 0 0) hlen),rfl⟩,⟨Le.refl _,rfl⟩,⟨Le.refl _,rfl⟩,trivial⟩
        ·refine ⟨⟨⟨⟨rfl,rfl,rfl⟩,rfl,hlen,fun k hk=>LeL.of_eq (jlg hjl k (by rw [← hlen];exact hk))⟩,rfl⟩,trivial⟩
        ·dsimp only;omega
    ·rw [ze hrr] at he
     have hRi:R=(i:Int)+1:=by
      rw [hR.out,he]
      exact ze (show ¬ ((i:Int)+1)=0 by omega)
     rw [hRi]
     rw [zbf] at hrr
     rw [hrr] at hrc
     replace he:=Hid.in he
     (repeat' ((conv=>whnf);first|refine zO ?_|refine Ob.auto ?_|(refine Ob.intro (by (first|exact ⟨by omega,by omega⟩|exact ⟨⟨rfl,rfl⟩,zf _,Int.ofNat_lt.2 hil⟩|exact ⟨⟨rfl,rfl⟩,hil⟩)) ?_)|(apply zB <;> intro hb <;> (try simp [-zd] at hb) <;> try (exfalso;omega))|refine Ob.intro ?_ ?_))
     ((conv=>whnf);refine jl (fun _=>rfl) 300 hrc (by rfl) leA (by kernel_rfl) ?_)
     (repeat' ((conv=>whnf);first|refine zO ?_|refine Ob.auto ?_|(refine Ob.intro (by (first|exact ⟨by omega,by omega⟩|exact ⟨⟨rfl,rfl⟩,zf _,Int.ofNat_lt.2 hil⟩|exact ⟨⟨rfl,rfl⟩,hil⟩)) ?_)|(apply zB <;> intro hb <;> (try simp [-zd] at hb) <;> try (exfalso;omega))|refine Ob.intro ?_ ?_))
     exact Le.refl _
   ·obtain rfl:i=p.length:=by omega
    rw [List.drop_length] at he
    have hR2:R=if th.any (fun d=>qaf d goal) || jp th goal then 0 else (p.length:Int)+1:=by
     rw [hR.out,he]
     exact za rfl
    replace hR2:=Hid.in hR2
    replace he:=Hid.in he
    (repeat' ((conv=>whnf);first|refine zO ?_|refine Ob.auto ?_|(refine Ob.intro (by (first|exact ⟨by omega,by omega⟩)) ?_)|(apply zB <;> intro hb <;> (try simp [-zd] at hb) <;> try (exfalso;omega))|refine Ob.intro ?_ ?_))
    ((conv=>whnf);refine qw (fun _=>rfl) 300 7 (fun q:Nat=>[(14,iv q)]) (fun _=>[]) (fun q=>q≤th.length∧∀ j,j<q→qaf (th.getD j []) goal=false) (fun q=>th.length - q) (0) (⟨zv _,fun j hj=>absurd hj (zo j)⟩) qa qa (fun _=>rfl) (by kernel_rfl) ?_;(conv=>whnf))
    rintro q ⟨hq,hns⟩
    by_cases hql:q<th.length
    ·have hsc:=qyt (th.getD q []) goal (zr (qjv (qj hql)) (by omega)) (by omega)
     replace hns:=Hid.in hns
     (repeat' ((conv=>whnf);first|refine zO ?_|refine Ob.auto ?_|(refine Ob.intro (by (first|exact ⟨by omega,by omega⟩|exact ⟨⟨rfl,rfl⟩,zf _,Int.ofNat_lt.2 hql⟩|exact ⟨⟨rfl,rfl⟩,hql⟩)) ?_)|(apply zB <;> intro hb <;> (try simp [-zd] at hb) <;> try (exfalso;omega))|refine Ob.intro ?_ ?_))
     ((conv=>whnf);refine jl (fun _=>rfl) 300 hsc (by rfl) leA (by kernel_rfl) ?_)
     (repeat' ((conv=>whnf);first|refine zO ?_|refine Ob.auto ?_|(refine Ob.intro (by (first|exact ⟨by omega,by omega⟩|exact ⟨⟨rfl,rfl⟩,zf _,Int.ofNat_lt.2 hql⟩|exact ⟨⟨rfl,rfl⟩,hql⟩)) ?_)|(apply zB <;> intro hb <;> (try simp [-zd] at hb) <;> try (exfalso;omega))|refine Ob.intro ?_ ?_))
     ·have hR0:R=0:=by
       rw [hR2.out,show th.any (fun d=>qaf d goal)=true from List.any_eq_true.2 ⟨_,qj hql,hb⟩];rfl
      rw [hR0]
      exact Le.refl _
     ·((conv=>whnf);refine ⟨q+1,⟨hql,fun j hj=>by
       by_cases e:j=q
       ·subst e;exact hb
       ·exact hns.out j (by omega)⟩,⟨qa,qa⟩,⟨qa,qa⟩,?_⟩;(first|omega|(dsimp only;omega)|skip))
    ·have hany:th.any (fun d=>qaf d goal)=false:=by
      rw [zbp]
      intro d hd
      obtain ⟨j,hj,rfl⟩:=qal [] hd
      rw [hns j (by omega)]
      decide
     have hfc:=qys th goal (by omega) (by omega) (by omega)
     replace hns:=Hid.in hns
     (repeat' ((conv=>whnf);first|refine zO ?_|refine Ob.auto ?_|(refine Ob.intro (by (first|exact ⟨by omega,by omega⟩)) ?_)|(apply zB <;> intro hb <;> (try simp [-zd] at hb) <;> try (exfalso;omega))|refine Ob.intro ?_ ?_))
     ((conv=>whnf);refine qg (fun _=>rfl) 300 hfc qc ⟨Le.refl _,Le.refl _,trivial⟩ (by rfl) (by kernel_rfl) ?_)
     cases hff:jp th goal with
     | false=>
      have hR0:R=(p.length:Int)+1:=by rw [hR2.out,hany,hff];rfl
      rw [hR0]
      (repeat' ((conv=>whnf);first|refine zO ?_|refine Ob.auto ?_|(refine Ob.intro (by (first|exact ⟨by omega,by omega⟩)) ?_)|(apply zB <;> intro hb <;> (try simp [-zd] at hb) <;> try (exfalso;omega))|refine Ob.intro ?_ ?_))
      exact Le.refl _
     | true=>
      have hR0:R=0:=by rw [hR2.out,hany,hff];rfl
      rw [hR0]
      (repeat' ((conv=>whnf);first|refine zO ?_|refine Ob.auto ?_|(refine Ob.intro (by (first|exact ⟨by omega,by omega⟩)) ?_)|(apply zB <;> intro hb <;> (try simp [-zd] at hb) <;> try (exfalso;omega))|refine Ob.intro ?_ ?_))
      exact Le.refl _
theorem jli (cs:List (List Int)) (p:List Ln) (goal:List Int) (hl:cs.length≤10000) (hfl:cs.flatten.length≤100000) (hp:p.length≤100) (hpl:∀ l∈p,l.c.length≤1000) (hg:goal.length≤1000):Con Try.prog 15 [qak cs,qhq p,ints goal] (iv (qdp cs p goal)):=by
 have hc:=jlh cs p goal hl hfl hp hpl hg
 refine zK {} 300 Try.func15 (fun c0 rdb=>?_)
 (repeat' ((conv=>whnf);first|refine zO ?_|refine Ob.auto ?_|refine zC 300 (hc) ?_|refine zG 300 (fun hg=>hc) ?_|(refine CallY.con (hc) (by rfl) leA ?_)|(refine CallZ.con (fun hg=>hc) qf (by rfl) ?_)|(refine qg (fun _=>rfl) 300 (hc) qc (by (repeat' (first|exact trivial|exact Le.refl _|(refine And.intro ?_ ?_))) <;> fail) (by rfl) (by kernel_rfl) ?_)|(refine qi (fun _=>rfl) 300 (fun hg=>hc) (fun hg=>qc) (fun hg=>(by (repeat' (first|exact trivial|exact Le.refl _|exact Le.cnd hg|(refine And.intro ?_ ?_))) <;> fail)) (by rfl) (by kernel_rfl) ?_)|(apply zB <;> intro hb <;> (try simp [-zd] at hb) <;> try (exfalso;omega))|refine Ob.intro ?_ ?_))
 exact Le.refl _
end Go.Proofs.Ytkhdldncbmkidaa
