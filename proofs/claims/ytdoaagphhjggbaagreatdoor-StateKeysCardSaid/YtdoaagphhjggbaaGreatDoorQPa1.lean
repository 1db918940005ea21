/- Contracts of the document's parser: tokens. -/
import Derived.Test.YtdoaagphhjggbaaGreatDoorQ24
import Derived.Test.YtdoaagphhjggbaaGreatDoorQLexQ2
import Derived.Test.YtdoaagphhjggbaaGreatDoorQ2
namespace Go.Proofs.YtdoaagphhjggbaaGreatDoor
open List renaming getD_eq_getElem?_getD → zd
open Go Go.Sx Go.RowKit Go.St Pa
set_option maxRecDepth 100000
set_option maxHeartbeats 2000000
section
variable {ts : List Lx.Tok} {p : Ps}
abbrev pso (ts : List Lx.Tok) (p : Ps) : SO := .box 69 (p.cells ts)
theorem qeo : Con Tryz.prog 43 [.rptr (p.cells ts)] (.bool (p.err == 0)) := by
 refine zK {} 300 Tryz.func43 (fun c0 rdb => ?_)
 (repeat' ((conv => whnf); first | refine Ob.auto ?_ | fail))
 exact Le.refl _
theorem qim (h : AtOk ts p) : Con Tryz.prog 44 [.rptr (p.cells ts)] (.agg (Lx.encTok (tk ts p))) := by
 have h0 := h.lo
 have h1 := h.hi
 refine zK {} 300 Tryz.func44 (fun c0 rdb => ?_)
 (repeat' ((conv => whnf); first | refine zO ?_ | refine Ob.auto ?_ | refine zD 300 ?_ | fail))
 exact Le.refl _
theorem qdx (h : AtOk ts p) (s : List UInt8) : Con Tryz.prog 69 [.rptr (p.cells ts), .str s] (.bool (sees ts p s)) := by
 refine zK {} 300 Tryz.func69 (fun c0 rdb => ?_)
 (repeat' ((conv => whnf); first | refine Ob.auto ?_ | refine zC 300 (qim h) ?_ | refine zC 300 (qeo) ?_ | refine zG 300 (fun hg => qye _) ?_ | fail))
 refine Le.of_eq (congrArg AV.bool ?_)
 unfold sees qsx
 rw [Bool.and_assoc]
theorem qpj (h : AtOk ts p) (e : Int) : Trip Tryz.prog 94 [.ptr 0 0, iv e] [pso ts p] (.tup []) [(0, pso ts (bad ts p e))] 1 := by
 refine zL {} 300 Tryz.func94 (fun c0 rdb mpb => ?_)
 (repeat' ((conv => whnf); first | refine zE 300 (qim h) ?_ | refine zE 300 (qeo) ?_ | (apply zB <;> intro hb <;> (try simp [-zd] at hb) <;> try (exfalso; omega))))
 ·have e1 : bad ts p e = { p with err := e, fat := (tk ts p).pos } := if_pos hb
  rw [e1]
  exact ⟨Le.refl _, qa⟩
 ·have e1 : bad ts p e = p := if_neg hb
  rw [e1]
  exact ⟨Le.refl _, qa⟩
theorem qag (ht : ToksOk ts) (h : AtOk ts p) (s : List UInt8) : Trip Tryz.prog 72 [.ptr 0 0, .str s] [pso ts p] (.bool (sees ts p s)) [(0, pso ts (took ts p s))] 1 := by
 have h0 := h.lo
 have h1 := h.hi
 have h2 := ht.len
 refine zL {} 300 Tryz.func72 (fun c0 rdb mpb => ?_)
 (repeat' ((conv => whnf); first | refine Ob.auto ?_ | refine zE 300 (qdx h s) ?_ | (apply zB <;> intro hb <;> (try simp [-zd] at hb) <;> try (exfalso; omega))))
 ·rw [hb, took, if_neg (by rw [hb]; decide)]
  exact ⟨Le.refl _, qa⟩
 ·rw [hb, took, if_pos hb]
  exact ⟨Le.refl _, qa⟩
theorem qaj (ht : ToksOk ts) (h : AtOk ts p) (s : List UInt8) : Trip Tryz.prog 74 [.ptr 0 0, .str s] [pso ts p] (.tup []) [(0, pso ts (must ts p s))] 1 := by
 refine zL {} 300 Tryz.func74 (fun c0 rdb mpb => ?_)
 ((conv => whnf); refine zT 300 [0] (qag ht h s) qa ?_)
 (repeat' ((conv => whnf); first | (apply zB <;> intro hb <;> (try simp [-zd] at hb) <;> try (exfalso; omega))))
 ·have e1 : took ts p s = p := if_neg (by rw [hb]; decide)
  have e2 : must ts p s = bad ts p 11 := if_neg (by rw [hb]; decide)
  rw [e1]
  ((conv => whnf); refine zT 300 [0] (qpj h 11) qa ?_)
  rw [e2]
  exact ⟨Le.refl _, qa⟩
 ·have e1 : took ts p s = adv p := if_pos hb
  have e2 : must ts p s = adv p := if_pos hb
  rw [e1, e2]
  exact ⟨Le.refl _, qa⟩
theorem qgm (ht : ToksOk ts) (h : AtOk ts p) : Trip Tryz.prog 73 [.ptr 0 0] [pso ts p] (.str (jp ts p)) [(0, pso ts (qd ts p))] 1 := by
 have h0 := h.lo
 have h1 := h.hi
 have h2 := ht.len
 refine zL {} 300 Tryz.func73 (fun c0 rdb mpb => ?_)
 (repeat' ((conv => whnf); first | refine Ob.auto ?_ | refine zG 300 (fun hg => qyf _) ?_ | refine zE 300 (qim h) ?_ | refine zF 300 (fun hg => qeo) ?_ | (apply zB <;> intro hb <;> (try simp [-zd] at hb) <;> try (exfalso; omega))))
 ·have e : qgk ts p = false := by
   unfold qgk
   rcases hb with (hb | hb) | hb <;> simp [hb]
  ((conv => whnf); refine zT 300 [0] (qpj h 11) qa ?_)
  rw [jp, qd, if_neg (by rw [e]; decide), if_neg (by rw [e]; decide)]
  exact ⟨Le.refl _, qa⟩
 ·have e : qgk ts p = true := by
   unfold qgk
   simp [hb.1.1, hb.1.2, hb.2]
  rw [jp, qd, if_pos e, if_pos e]
  exact ⟨Le.refl _, qa⟩
theorem qin (ht : ToksOk ts) (h : AtOk ts p) : Trip Tryz.prog 75 [.ptr 0 0] [pso ts p] (iv (numN ts p)) [(0, pso ts (numP ts p))] 1 := by
 have h0 := h.lo
 have h1 := h.hi
 have h2 := ht.len
 refine zL {} 300 Tryz.func75 (fun c0 rdb mpb => ?_)
 (repeat' ((conv => whnf); first | refine Ob.auto ?_ | refine zE 300 (qim h) ?_ | refine zF 300 (fun hg => qeo) ?_ | (apply zB <;> intro hb <;> (try simp [-zd] at hb) <;> try (exfalso; omega))))
 ·have e : qfh ts p = false := by
   unfold qfh
   rcases hb with hb | hb <;> simp [hb]
  ((conv => whnf); refine zT 300 [0] (qpj h 11) qa ?_)
  rw [numN, numP, if_neg (by rw [e]; decide), if_neg (by rw [e]; decide)]
  exact ⟨Le.refl _, qa⟩
 ·have e : qfh ts p = true := by
   unfold qfh
   simp [hb.1, hb.2]
  have hnum := ht.num _ (jaa h) hb.1
  have hdg := qsy hnum.2
  rw [numN, numP, if_pos e, if_pos e]
  ((conv => whnf); refine qo (fun _ => rfl) 300 1 (fun i : Nat => [(4, iv (qfi ((tk ts p).s.take i))), (5, iv i)]) (fun _ => []) (fun i => i ≤ (tk ts p).s.length) (fun i => (tk ts p).s.length - i) (0) (by omega) qa qa (fun _ => rfl) (by kernel_rfl) ?_; (conv => whnf))
  intro i hi
  have h3 := hdg i hi
  have h6 : (10 : Int) ^ i ≤ 10 ^ 6 := by exact_mod_cast Nat.pow_le_pow_right (show 0 < 10 by decide) (show i ≤ 6 by omega)
  have hby : i < (tk ts p).s.length → qak (tk ts p).s (i : Int) = (((tk ts p).s[i]?.getD 0).toNat : Int) ∧ 48 ≤ ((tk ts p).s[i]?.getD 0).toNat ∧ ((tk ts p).s[i]?.getD 0).toNat ≤ 57 := fun hlt => by
   have h7 := hnum.2 _ (List.getElem_mem hlt)
   rw [List.getElem?_eq_getElem hlt]
   exact ⟨Lx.byteAt_get hlt, h7⟩
  (repeat' ((conv => whnf); first | refine Ob.auto ?_ | (refine Ob.intro (by (first | exact ⟨by omega, by omega⟩ | exact qcn (by omega) (by omega) | exact ⟨by have := hby (by omega); show (0 : Int) ≤ _; omega, by have := hby (by omega); show _ ≤ (255 : Int); omega⟩ | exact qcn (by have := hby (by omega); omega) (by have := hby (by omega); omega))) ?_) | (apply zB <;> intro hb <;> (try simp [-zd] at hb) <;> try (exfalso; omega))))
  ·have h7 := hby hb
   have h8 : qfi ((tk ts p).s.take (i + 1)) = 10 * qfi ((tk ts p).s.take i) + (qak (tk ts p).s (i : Int) - 48) := by
    rw [List.take_succ_eq_append_getElem hb, qzz, Lx.byteAt_get hb]
   ((conv => whnf); refine ⟨i + 1, by omega, ⟨⟨Le.of_eq (congrArg iv h8.symm), Le.refl _, trivial⟩, qa⟩, ⟨qa, qa⟩, ?_⟩; (first | omega | (dsimp only; omega) | skip))
  ·rw [List.take_of_length_le hb]
   exact ⟨Le.refl _, qa⟩
theorem qtf (ht : ToksOk ts) (h : AtOk ts p) (s : List UInt8) : Trip Tryz.prog 76 [.ptr 0 0, .str s] [pso ts p] (iv (qfj ts p s)) [(0, pso ts (took ts p s))] 1 := by
 refine zL {} 300 Tryz.func76 (fun c0 rdb mpb => ?_)
 ((conv => whnf); refine zT 300 [0] (qag ht h s) qa ?_)
 (repeat' ((conv => whnf); first | (apply zB <;> intro hb <;> (try simp [-zd] at hb) <;> try (exfalso; omega))))
 ·rw [qfj, if_pos hb]
  exact ⟨Le.refl _, qa⟩
 ·rw [qfj, if_neg (by rw [hb]; decide)]
  exact ⟨Le.refl _, qa⟩
theorem qio (h : AtOk ts p) (k : Int) : Con Tryz.prog 42 [.rptr (p.cells ts), iv k] (.agg [iv k, .nils, .nils, .nils, iv (tk ts p).pos, .nils]) := by
 refine zK {} 300 Tryz.func42 (fun c0 rdb => ?_)
 (repeat' ((conv => whnf); first | refine Ob.auto ?_ | refine zC 300 (qim h) ?_ | fail))
 exact Le.refl _
theorem qkb (h : AtOk ts p) (hd : 0 ≤ p.deep ∧ p.deep ≤ 100000) : Trip Tryz.prog 92 [.ptr 0 0] [pso ts p] (.tup []) [(0, pso ts (inP ts p))] 1 := by
 refine zL {} 300 Tryz.func92 (fun c0 rdb mpb => ?_)
 (repeat' ((conv => whnf); first | refine Ob.auto ?_ | (apply zB <;> intro hb <;> (try simp [-zd] at hb) <;> try (exfalso; omega))))
 ·have h' : AtOk ts { p with deep := p.deep + 1 } := ⟨h.lo, h.hi⟩
  ((conv => whnf); refine zT 300 [0] (qpj h' 12) qa ?_)
  rw [inP, if_pos (by omega)]
  exact ⟨Le.refl _, qa⟩
 ·rw [inP, if_neg (by omega)]
  exact ⟨Le.refl _, qa⟩
end
end Go.Proofs.YtdoaagphhjggbaaGreatDoor
