/- Some texts of the library, one behind the other. -/
import Derived.Test.YtdoaagphhjggbaaQ19
import Derived.Test.YtdoaagphhjggbaaQ32
import Derived.Test.YtdoaagphhjggbaaQ21
import Derived.Test.YtdoaagphhjggbaaQ4
import Derived.Test.YtdoaagphhjggbaaQ2
section
/- The text of layer 15, parsed, and its model made: by the general contracts. -/
namespace Go.Proofs.Ytdoaagphhjggbaa
open Go Go.Sx Go.RowKit Go.St Pa
set_option maxRecDepth 100000

def qvj : List UInt8 := [99, 104, 97, 110, 32, 99, 91, 49, 93, 32, 111, 102, 32, 49, 59, 32, 112, 114, 111, 99, 32, 112, 32, 123, 32, 115, 101, 110, 100, 32, 99, 32, 49, 59, 32, 115, 101, 110, 100, 32, 99, 32, 49, 59, 32, 125]
def qiq : List Nd := [⟨0, [], [], [1, 2], 0⟩, ⟨1, [[99]], [1, 1, 0, 0], [], 0⟩, ⟨3, [[112]], [1], [3, 5], 16⟩, ⟨7, [[99]], [], [4], 25⟩, ⟨17, [], [1], [], 32⟩, ⟨7, [[99]], [], [6], 35⟩, ⟨17, [], [1], [], 42⟩]
def model15 : Md := { tree := qiq, globals := 0, chans := [⟨[99], 1, 1, false, false⟩], vars := [], procs := [⟨[112], 0, [], 3, [false, true, false], [⟨0, 2, 2, 4, (-1), 0, false, 3⟩, ⟨2, 1, 2, 6, (-1), 0, false, 5⟩], [], []⟩], safe := [], dead := false }

theorem px15 : qoq qvj = (qiq, (0, 0)) := by kernel_rfl

theorem qlv : Con Try.prog 15 [.str qvj] (.tup [qbg qiq, flt 0 0]) := by
 have h := jav qvj (by decide)
 rw [jaw px15 (by decide)] at h
 exact h

theorem jcc : Tree qiq := quu (by decide +kernel)
theorem jcd : (qei qiq).1 = 0 := by decide +kernel
theorem jce : qjy qiq = model15 := by kernel_rfl

theorem qlw : Con Try.prog 16 [qbg qiq] (.tup [model15.av, .bool true]) := by
 have h := jcb qiq jcc jcd
 rw [jce] at h
 exact h

theorem jno : ModOk model15 := jce ▸ jby jcc jcd

end Go.Proofs.Ytdoaagphhjggbaa
end
section
/- Contracts: expressions, by the document's answer. -/
namespace Go.Proofs.Ytdoaagphhjggbaa
open Go Go.Sx Go.RowKit Go.St
set_option maxRecDepth 100000
set_option maxHeartbeats 2000000

end Go.Proofs.Ytdoaagphhjggbaa
end
section
/- Contracts: states, by the document's answer. -/
namespace Go.Proofs.Ytdoaagphhjggbaa
open Go Go.Sx Go.RowKit Go.St
set_option maxRecDepth 100000
set_option maxHeartbeats 2000000

theorem jnp (m : Md) (hm : MOk m) : Trip Try.prog 19 [m.av] []
  (.agg [.own 3 0 0 m.procs.length, .own 4 0 0 m.vars.length, .own 5 0 0 m.chans.length, iv (-1)])
  [(3, .row [] 3 1 0 m.procs.length (fun _ => [iv 0])), (4, .row [] 3 1 0 m.vars.length (fun i => [iv (m.vars.getD i Vr.none).value])), (5, .row [] 23 1 0 m.chans.length (fun _ => [.nils]))] 6 := by
 have hsz := hm.sz
 refine qdk (T := tab Try.prog) (C := {}) 300 (fun _ => rfl) Try.func19 rfl (by kernel_rfl) (by kernel_rfl) (fun c0 rdb mpb => ?_)
 (repeat' ((conv => whnf); first | refine Ob.auto ?_ | (refine jt (fun _ => rfl) (by kernel_rfl) 300 (by rfl) (by kernel_rfl) ?_) | (apply zB <;> intro hb <;> (try simp [-List.getD_eq_getElem?_getD] at hb) <;> try (exfalso; omega)) | refine Ob.intro ?_ ?_))
 refine qcr 2 0 3 1 rfl rfl ?_
 ((conv => whnf); refine qic (fun _ => rfl) 300 1 [1, 2, 3] [0, 1] (fun i : Nat => [(4, iv i)]) (fun i => [(2, .box 34 [.own 3 0 0 i, .nils, .nils, iv (-1)]), (3, .row [] 3 1 0 i (fun _ => [iv 0]))]) (fun i => i ≤ m.procs.length) (fun i => m.procs.length - i) (0) (by omega) qa qa (fun _ => rfl) (by kernel_rfl) ?_; (conv => whnf))
 intro i hi
 (repeat' ((conv => whnf); first | refine Ob.auto ?_ | (refine jt (fun _ => rfl) (by kernel_rfl) 300 (by rfl) (by kernel_rfl) ?_) | (apply zB <;> intro hb <;> (try simp [-List.getD_eq_getElem?_getD] at hb) <;> try (exfalso; omega)) | refine Ob.intro ?_ ?_))
 ·((conv => whnf); refine ⟨i + 1, by omega, ⟨qa, qa⟩, ⟨qa, qa⟩, ?_⟩; (first | omega | (dsimp only; omega) | skip))
 obtain rfl : i = m.procs.length := by omega
 clear hi hb
 refine qcr 2 1 3 1 rfl rfl ?_
 ((conv => whnf); refine qic (fun _ => rfl) 300 2 [1, 2, 3] [0, 1, 3] (fun i : Nat => [(5, iv i)]) (fun i => [(2, .box 34 [.own 3 0 0 m.procs.length, .own 4 0 0 i, .nils, iv (-1)]), (4, .row [] 3 1 0 i (fun i => [iv (m.vars.getD i Vr.none).value]))]) (fun i => i ≤ m.vars.length) (fun i => m.vars.length - i) (0) (by omega) qa qa (fun _ => rfl) (by kernel_rfl) ?_; (conv => whnf))
 intro i hi
 (repeat' ((conv => whnf); first | refine Ob.auto ?_ | (refine jt (fun _ => rfl) (by kernel_rfl) 300 (by rfl) (by kernel_rfl) ?_) | (apply zB <;> intro hb <;> (try simp [-List.getD_eq_getElem?_getD] at hb) <;> try (exfalso; omega)) | refine Ob.intro ?_ ?_))
 ·((conv => whnf); refine ⟨i + 1, by omega, ⟨qa, qa⟩, ⟨qa, qa⟩, ?_⟩; (first | omega | (dsimp only; omega) | skip))
 obtain rfl : i = m.vars.length := by omega
 clear hi hb
 refine qcr 2 2 23 1 rfl rfl ?_
 ((conv => whnf); refine qic (fun _ => rfl) 300 3 [1, 2, 3] [0, 1, 3, 4] (fun i : Nat => [(6, iv i)]) (fun i => [(2, .box 34 [.own 3 0 0 m.procs.length, .own 4 0 0 m.vars.length, .own 5 0 0 i, iv (-1)]), (5, .row [] 23 1 0 i (fun i => [.nils]))]) (fun i => i ≤ m.chans.length) (fun i => m.chans.length - i) (0) (by omega) qa qa (fun _ => rfl) (by kernel_rfl) ?_; (conv => whnf))
 intro i hi
 (repeat' ((conv => whnf); first | refine Ob.auto ?_ | (refine jt (fun _ => rfl) (by kernel_rfl) 300 (by rfl) (by kernel_rfl) ?_) | (apply zB <;> intro hb <;> (try simp [-List.getD_eq_getElem?_getD] at hb) <;> try (exfalso; omega)) | refine Ob.intro ?_ ?_))
 ·((conv => whnf); refine ⟨i + 1, by omega, ⟨qa, qa⟩, ⟨qa, qa⟩, ?_⟩; (first | omega | (dsimp only; omega) | skip))
 obtain rfl : i = m.chans.length := by omega
 (conv => whnf)
 exact ⟨Le.refl _, qa⟩

end Go.Proofs.Ytdoaagphhjggbaa
end
section
/- States in plain Lean, more of them. -/
namespace Go.St
open Go Go.Sx

theorem jcf {n n' w : Int} (h : n % 2 ^ wid w = n' % 2 ^ wid w) : trim n w = trim n' w := by
 unfold trim; rw [h]

theorem qro (n w : Int) : trim (trim n w) w = trim n w := by
 refine jcf ?_
 have h2 := qgj (wid w) (qgi w).2
 have h3 := Int.emod_nonneg n (b := 2 ^ wid w) (by omega)
 have h4 := Int.emod_lt_of_pos n (b := 2 ^ wid w) (by omega)
 unfold trim
 split
 ·rw [Int.sub_emod_right]; exact Int.emod_eq_of_lt h3 h4
 ·exact Int.emod_eq_of_lt h3 h4

end Go.St
end
section
/- Contract: the first state by the document's answer. -/
namespace Go.Proofs.Ytdoaagphhjggbaa
open Go Go.Sx Go.RowKit Go.St
set_option maxRecDepth 100000
set_option maxHeartbeats 2000000

theorem jnq (m : Md) (hm : MOk m) : Con Try.prog 19 [m.av] (qdx m).av := by
 have hsz := hm.sz
 refine qi (T := tab Try.prog) (C := {}) 300 (fun _ => rfl) Try.func19 rfl (by kernel_rfl) (by kernel_rfl) (fun c0 rdb => ?_)
 (repeat' ((conv => whnf); first | refine Ob.auto ?_ | (refine jt (fun _ => rfl) (by kernel_rfl) 300 (by rfl) (by kernel_rfl) ?_) | (apply zB <;> intro hb <;> (try simp [-List.getD_eq_getElem?_getD] at hb) <;> try (exfalso; omega)) | refine Ob.intro ?_ ?_))
 refine qcr 2 0 3 1 rfl rfl ?_
 ((conv => whnf); refine qic (fun _ => rfl) 300 1 [1, 2, 3] [0, 1] (fun i : Nat => [(4, iv i)]) (fun i => [(2, .box 34 [.own 3 0 0 i, .nils, .nils, iv (-1)]), (3, .row [] 3 1 0 i (fun _ => [iv 0]))]) (fun i => i ≤ m.procs.length) (fun i => m.procs.length - i) (0) (by omega) qa qa (fun _ => rfl) (by kernel_rfl) ?_; (conv => whnf))
 intro i hi
 (repeat' ((conv => whnf); first | refine Ob.auto ?_ | (refine jt (fun _ => rfl) (by kernel_rfl) 300 (by rfl) (by kernel_rfl) ?_) | (apply zB <;> intro hb <;> (try simp [-List.getD_eq_getElem?_getD] at hb) <;> try (exfalso; omega)) | refine Ob.intro ?_ ?_))
 ·((conv => whnf); refine ⟨i + 1, by omega, ⟨qa, qa⟩, ⟨qa, qa⟩, ?_⟩; (first | omega | (dsimp only; omega) | skip))
 obtain rfl : i = m.procs.length := by omega
 clear hi hb
 refine qcr 2 1 3 1 rfl rfl ?_
 ((conv => whnf); refine qic (fun _ => rfl) 300 2 [1, 2, 3] [0, 1, 3] (fun i : Nat => [(5, iv i)]) (fun i => [(2, .box 34 [.own 3 0 0 m.procs.length, .own 4 0 0 i, .nils, iv (-1)]), (4, .row [] 3 1 0 i (fun i => [iv (m.vars.getD i Vr.none).value]))]) (fun i => i ≤ m.vars.length) (fun i => m.vars.length - i) (0) (by omega) qa qa (fun _ => rfl) (by kernel_rfl) ?_; (conv => whnf))
 intro i hi
 (repeat' ((conv => whnf); first | refine Ob.auto ?_ | (refine jt (fun _ => rfl) (by kernel_rfl) 300 (by rfl) (by kernel_rfl) ?_) | (apply zB <;> intro hb <;> (try simp [-List.getD_eq_getElem?_getD] at hb) <;> try (exfalso; omega)) | refine Ob.intro ?_ ?_))
 ·((conv => whnf); refine ⟨i + 1, by omega, ⟨qa, qa⟩, ⟨qa, qa⟩, ?_⟩; (first | omega | (dsimp only; omega) | skip))
 obtain rfl : i = m.vars.length := by omega
 clear hi hb
 refine qcr 2 2 23 1 rfl rfl ?_
 ((conv => whnf); refine qic (fun _ => rfl) 300 3 [1, 2, 3] [0, 1, 3, 4] (fun i : Nat => [(6, iv i)]) (fun i => [(2, .box 34 [.own 3 0 0 m.procs.length, .own 4 0 0 m.vars.length, .own 5 0 0 i, iv (-1)]), (5, .row [] 23 1 0 i (fun i => [.nils]))]) (fun i => i ≤ m.chans.length) (fun i => m.chans.length - i) (0) (by omega) qa qa (fun _ => rfl) (by kernel_rfl) ?_; (conv => whnf))
 intro i hi
 (repeat' ((conv => whnf); first | refine Ob.auto ?_ | (refine jt (fun _ => rfl) (by kernel_rfl) 300 (by rfl) (by kernel_rfl) ?_) | (apply zB <;> intro hb <;> (try simp [-List.getD_eq_getElem?_getD] at hb) <;> try (exfalso; omega)) | refine Ob.intro ?_ ?_))
 ·((conv => whnf); refine ⟨i + 1, by omega, ⟨qa, qa⟩, ⟨qa, qa⟩, ?_⟩; (first | omega | (dsimp only; omega) | skip))
 obtain rfl : i = m.chans.length := by omega
 (conv => whnf)
 refine Le.agg ⟨Le.slc (by simp [qdx]) (fun j hj => ?_), Le.slc (by simp [qdx]) (fun j hj => ?_), Le.slcL (by simp [qdx]) (fun j hj => ?_), Le.refl _, trivial⟩
 ·show [iv 0] = [iv ((qdx m).at_.getD j 0)]
  rw [qdx, qze _ _ _ _ hj]
 ·show [iv (m.vars.getD j Vr.none).value] = [iv ((qdx m).vars.getD j 0)]
  rw [qdx, jkf _ _ _ _ Vr.none hj]
 ·show LeL [.nils] [ints ((qdx m).chans.getD j [])]
  rw [qdx, qze _ _ _ _ hj]
  exact ⟨Le.nils _ _, trivial⟩

end Go.Proofs.Ytdoaagphhjggbaa
end
section
/- Steps in plain Lean: which moves a state has, and what each does. Nothing of the program. -/
namespace Go.St
open Go Go.Sx

structure Mv where
 kind : Int := 0
 proc : Int := 0
 edge : Int := 0
 chn : Int := 0
deriving DecidableEq
def Mv.cells (v : Mv) : List AV := [iv v.kind, iv v.proc, iv v.edge, iv v.chn]
def Mv.av (v : Mv) : AV := .agg v.cells
def jnr (l : List Mv) : AV := slcL Mv.cells {} 4 l

def qlen (s : Stt) (c : Int) : Int := (s.chans.getD c.toNat []).length
def room (m : Md) (c : Int) : Int := (m.chans.getD c.toNat Ch.none).room

def canB (m : Md) (s : Stt) (p : Nat) (e : Ed) : Bool :=
  (s.at_.getD p 0 == e.frm) && (decide (e.expr < 0) || (val m p s e.expr).2) &&
  (if e.act = 2 then decide (qlen s e.chn < room m e.chn)
   else if e.act = 3 then decide (0 < qlen s e.chn)
   else if e.act = 4 then !((if e.expr < 0 then 0 else (val m p s e.expr).1) == 0)
   else if e.act = 5 then (if e.expr < 0 then 0 else (val m p s e.expr).1) == 0
   else true)

def qv (m : Md) (p : Nat) : List Ed := (m.procs.getD p Pr.none).edges
def qlx (m : Md) (s : Stt) (p : Nat) : List Mv := ((List.range (qv m p).length).filter fun i => canB m s p ((qv m p).getD i Ed.none)).map fun (i : Nat) => ⟨0, p, i, 0⟩
def qrp (m : Md) (s : Stt) (c : Nat) : Bool := (m.chans.getD c Ch.none).lossy && decide (0 < qlen s c)
def qrq (m : Md) (s : Stt) (c : Nat) : Bool := (m.chans.getD c Ch.none).copying && decide (0 < qlen s c) && decide (qlen s c < room m c)
def qhq (m : Md) (s : Stt) (c : Nat) : List Mv := (if qrp m s c = true then [⟨1, 0, 0, c⟩] else []) ++ (if qrq m s c = true then [⟨2, 0, 0, c⟩] else [])
def qir (m : Md) (s : Stt) : List Mv :=
 (List.range m.procs.length).flatMap (fun (p : Nat) => if s.holder ≠ -1 ∧ s.holder ≠ p then [] else qlx m s p) ++
 (if s.holder = -1 then (List.range m.chans.length).flatMap (qhq m s) else [])

def qvk (m : Md) (s : Stt) (p : Nat) : Bool := (qv m p).any (canB m s p)

def qcf (m : Md) (s : Stt) (p : Nat) (e : Ed) : Stt :=
 let n := if e.expr < 0 then 0 else (val m p s e.expr).1
 let a := { s with at_ := s.at_.set p e.to, holder := -1 }
 if e.act = 1 then { a with vars := s.vars.set e.var.toNat (trim n (m.vars.getD e.var.toNat Vr.none).width) }
 else if e.act = 2 then { a with chans := s.chans.set e.chn.toNat (s.chans.getD e.chn.toNat [] ++ [trim n (m.chans.getD e.chn.toNat Ch.none).width]) }
 else if e.act = 3 then { a with vars := s.vars.set e.var.toNat (trim ((s.chans.getD e.chn.toNat []).getD 0 0) (m.vars.getD e.var.toNat Vr.none).width), chans := s.chans.set e.chn.toNat ((s.chans.getD e.chn.toNat []).drop 1) }
 else a
def qhr (m : Md) (s : Stt) (p : Nat) (e : Ed) : Stt :=
 { qcf m s p e with holder := if e.keep = true ∧ qvk m (qcf m s p e) p = true then (p : Int) else -1 }

def qis (m : Md) (s : Stt) (v : Mv) : Stt :=
 if v.kind = 1 then { s with chans := s.chans.set v.chn.toNat ((s.chans.getD v.chn.toNat []).drop 1), holder := -1 }
 else if v.kind = 2 then { s with chans := s.chans.set v.chn.toNat (s.chans.getD v.chn.toNat [] ++ [(s.chans.getD v.chn.toNat []).getD 0 0]), holder := -1 }
 else qhr m s v.proc.toNat ((qv m v.proc.toNat).getD v.edge.toNat Ed.none)

def qvl (m : Md) (s : Stt) : Bool := (List.range m.procs.length).all fun p => (m.procs.getD p Pr.none).rest.getD (s.at_.getD p 0).toNat false
def qrr (m : Md) (s : Stt) : Bool := (qir m s).isEmpty && !qvl m s
def badB (m : Md) (s : Stt) : Bool := !qnt m s || m.dead && qrr m s

end Go.St
end
section
/- Contracts: states, by the document's answer: what is safe, what fits, what is the same. -/
namespace Go.Proofs.Ytdoaagphhjggbaa
open Go Go.Sx Go.RowKit Go.St
set_option maxRecDepth 100000
set_option maxHeartbeats 2000000

end Go.Proofs.Ytdoaagphhjggbaa
end
section
/- Contracts: the program's states. -/
namespace Go.Proofs.Ytdoaagphhjggbaa
open Go Go.Sx Go.RowKit Go.St
set_option maxRecDepth 100000
set_option maxHeartbeats 2000000

theorem qly (x : Int) (c : Ch) : Con Try.prog 43 [iv x, .rptr c.cells] (.bool (!(trim x c.width == x))) := by
 refine qi (T := tab Try.prog) (C := {}) 300 (fun _ => rfl) Try.func43 rfl (by kernel_rfl) (by kernel_rfl) (fun c0 rdb => ?_)
 (repeat' ((conv => whnf); first | refine zO ?_ | refine Ob.auto ?_ | refine zC 300 (qfc _ _) ?_ | refine zG 300 (fun hg => qfc _ _) ?_ | refine zX (qfc _ _) ?_ | refine zY (fun hg => qfc _ _) ?_ | refine zE 300 (qfc _ _) ?_ | refine zF 300 (fun hg => qfc _ _) ?_ | (refine qw (fun _ => rfl) (by kernel_rfl) 300 ?_) | (apply zB <;> intro hb <;> (try simp [-List.getD_eq_getElem?_getD] at hb) <;> try (exfalso; omega)) | refine Ob.intro ?_ ?_))
 exact Le.refl _

theorem qlz (l : List Int) (c : Ch) (hl : l.length ≤ 1000000) : Con Try.prog 78 [ints l, .fn 43 [.rptr c.cells]] (iv (idx (fun x => !(trim x c.width == x)) l)) := by
 refine qi (T := tab Try.prog) (C := {}) 300 (fun _ => rfl) Try.func78 rfl (by kernel_rfl) (by kernel_rfl) (fun c0 rdb => ?_)
 (repeat' ((conv => whnf); first | refine zO ?_ | refine Ob.auto ?_ | (refine qw (fun _ => rfl) (by kernel_rfl) 300 ?_) | (apply zB <;> intro hb <;> (try simp [-List.getD_eq_getElem?_getD] at hb) <;> try (exfalso; omega)) | refine Ob.intro ?_ ?_))
 ((conv => whnf); refine jf (fun _ => rfl) 300 1 (fun i : Nat => [(8, iv i)]) (fun _ => []) (fun i => i ≤ l.length ∧ ∀ j, j < i → (!(trim (l.getD j 0) c.width == l.getD j 0)) = false) (fun i => l.length - i) (0) (⟨by omega, fun j hj => absurd hj (Nat.not_lt_zero j)⟩) qa qa (fun _ => rfl) (by kernel_rfl) ?_; (conv => whnf))
 intro i hi
 (repeat' ((conv => whnf); first | refine zO ?_ | refine Ob.auto ?_ | refine zC 300 (qly _ c) ?_ | refine zG 300 (fun hg => qly _ c) ?_ | refine zX (qly _ c) ?_ | refine zY (fun hg => qly _ c) ?_ | refine zE 300 (qly _ c) ?_ | refine zF 300 (fun hg => qly _ c) ?_ | (refine qw (fun _ => rfl) (by kernel_rfl) 300 ?_) | (apply zB <;> intro hb <;> (try simp [-List.getD_eq_getElem?_getD] at hb) <;> try (exfalso; omega)) | refine Ob.intro ?_ ?_))
 ·refine Le.of_eq (congrArg (AV.int _) ?_)
  exact (qhd _ l 0 i (by omega) (by simp [-List.getD_eq_getElem?_getD, hb]) hi.2).symm
 ·((conv => whnf); refine ⟨i + 1, ⟨by omega, qcb hi.2 (by simp [-List.getD_eq_getElem?_getD, hb])⟩, ⟨qa, qa⟩, ⟨qa, qa⟩, ?_⟩; (first | omega | (dsimp only; omega) | skip))
 ·refine Le.of_eq (congrArg (AV.int _) ?_)
  exact (qhe _ l 0 (fun j hj => hi.2 j (by omega))).symm

theorem jns {α : Type} (q : α → Bool) (l : List α) : decide (0 ≤ Go.St.idx q l) = l.any q := by
 unfold Go.St.idx
 cases h : l.findIdx? q with
 | none =>
  rw [List.findIdx?_eq_none_iff] at h
  have : l.any q = false := by rw [Bool.eq_false_iff]; intro h'; rw [List.any_eq_true] at h'; obtain ⟨x, hx, hq⟩ := h'; rw [h x hx] at hq; cases hq
  rw [this]; rfl
 | some i =>
  rw [List.findIdx?_eq_some_iff_getElem] at h
  obtain ⟨h1, h2, _⟩ := h
  have : l.any q = true := by rw [List.any_eq_true]; exact ⟨_, List.getElem_mem h1, h2⟩
  rw [this]; exact decide_eq_true (by simp)

theorem qma (l : List Int) (c : Ch) (hl : l.length ≤ 1000000) : Con Try.prog 44 [ints l, .fn 43 [.rptr c.cells]] (.bool (l.any fun x => !(trim x c.width == x))) := by
 refine qi (T := tab Try.prog) (C := {}) 300 (fun _ => rfl) Try.func44 rfl (by kernel_rfl) (by kernel_rfl) (fun c0 rdb => ?_)
 (repeat' ((conv => whnf); first | refine zO ?_ | refine Ob.auto ?_ | refine zC 300 (qlz l c hl) ?_ | refine zG 300 (fun hg => qlz l c hl) ?_ | refine zX (qlz l c hl) ?_ | refine zY (fun hg => qlz l c hl) ?_ | refine zE 300 (qlz l c hl) ?_ | refine zF 300 (fun hg => qlz l c hl) ?_ | (refine qw (fun _ => rfl) (by kernel_rfl) 300 ?_) | (apply zB <;> intro hb <;> (try simp [-List.getD_eq_getElem?_getD] at hb) <;> try (exfalso; omega)) | refine Ob.intro ?_ ?_))
 refine Le.of_eq (congrArg AV.bool ?_)
 exact jns _ l

theorem js (m : Md) (s : Stt) (hs : SSz s) : Con Try.prog 20 [m.av, s.av] (.bool (qy m s)) := by
 have ha := hs.a
 have hv := hs.v
 have hc := hs.c
 refine qi (T := tab Try.prog) (C := {}) 600 (fun _ => rfl) Try.func20 rfl (by kernel_rfl) (by kernel_rfl) (fun c0 rdb => ?_)
 (repeat' ((conv => whnf); first | refine zO ?_ | refine Ob.auto ?_ | (refine qw (fun _ => rfl) (by kernel_rfl) 600 ?_) | (apply zB <;> intro hb <;> (try simp [-List.getD_eq_getElem?_getD] at hb) <;> try (exfalso; omega)) | refine Ob.intro ?_ ?_))
 ·refine Le.of_eq (congrArg AV.bool ?_)
  exact (qzd (by unfold qqw; omega)).symm
 have h0 : s.at_.length = m.procs.length ∧ s.vars.length = m.vars.length ∧ s.chans.length = m.chans.length := by omega
 clear hb
 ((conv => whnf); refine jf (fun _ => rfl) 600 1 (fun i : Nat => [(41, iv i)]) (fun _ => []) (fun i => i ≤ s.at_.length ∧ ∀ j, j < i → qnv m s j) (fun i => s.at_.length - i) (0) (⟨by omega, fun j hj => absurd hj (Nat.not_lt_zero j)⟩) qa qa (fun _ => rfl) (by kernel_rfl) ?_; (conv => whnf))
 intro i hi
 (repeat' ((conv => whnf); first | refine zO ?_ | refine Ob.auto ?_ | (refine qw (fun _ => rfl) (by kernel_rfl) 600 ?_) | (apply zB <;> intro hb <;> (try simp [-List.getD_eq_getElem?_getD] at hb) <;> try (exfalso; omega)) | refine Ob.intro ?_ ?_))
 ·refine Le.of_eq (congrArg AV.bool ?_)
  exact (jkb i (by omega) (by omega)).symm
 ·((conv => whnf); refine ⟨i + 1, ⟨by omega, qcb hi.2 hb⟩, ⟨qa, qa⟩, ⟨qa, qa⟩, ?_⟩; (first | omega | (dsimp only; omega) | skip))
 obtain rfl : i = s.at_.length := by omega
 have hA := hi.2
 clear hi hb
 ((conv => whnf); refine jf (fun _ => rfl) 600 2 (fun i : Nat => [(62, iv i)]) (fun _ => []) (fun i => i ≤ s.vars.length ∧ ∀ j, j < i → qnw m s j) (fun i => s.vars.length - i) (0) (⟨by omega, fun j hj => absurd hj (Nat.not_lt_zero j)⟩) qa qa (fun _ => rfl) (by kernel_rfl) ?_; (conv => whnf))
 intro i hi
 (repeat' ((conv => whnf); first | refine zO ?_ | refine Ob.auto ?_ | (refine Ob.intro (by (exact ⟨by omega, by omega⟩)) ?_) | refine zC 600 (qfc _ _) ?_ | refine zG 600 (fun hg => qfc _ _) ?_ | refine zX (qfc _ _) ?_ | refine zY (fun hg => qfc _ _) ?_ | refine zE 600 (qfc _ _) ?_ | refine zF 600 (fun hg => qfc _ _) ?_ | (refine qw (fun _ => rfl) (by kernel_rfl) 600 ?_) | (apply zB <;> intro hb <;> (try simp [-List.getD_eq_getElem?_getD] at hb) <;> try (exfalso; omega)) | refine Ob.intro ?_ ?_))
 ·refine Le.of_eq (congrArg AV.bool ?_)
  exact (jkc i (by omega) hb).symm
 ·((conv => whnf); refine ⟨i + 1, ⟨by omega, qcb hi.2 hb⟩, ⟨qa, qa⟩, ⟨qa, qa⟩, ?_⟩; (first | omega | (dsimp only; omega) | skip))
 obtain rfl : i = s.vars.length := by omega
 have hV := hi.2
 clear hi hb
 ((conv => whnf); refine jf (fun _ => rfl) 600 3 (fun i : Nat => [(80, iv i)]) (fun _ => []) (fun i => i ≤ s.chans.length ∧ ∀ j, j < i → qjp m s j ∧ ∀ k, k < (s.chans.getD j []).length → qlb m s j k) (fun i => s.chans.length - i) (0) (⟨by omega, fun j hj => absurd hj (Nat.not_lt_zero j)⟩) qa qa (fun _ => rfl) (by kernel_rfl) ?_; (conv => whnf))
 intro i hi
 have hlc : i < s.chans.length → _ := fun h => hs.l _ (qp s.chans i [] h)
 (repeat' ((conv => whnf); first | refine zO ?_ | refine Ob.auto ?_ | (refine Ob.intro (by (exact ⟨by omega, by omega⟩)) ?_) | refine zC 600 (qma (s.chans.getD i []) (m.chans.getD i Ch.none) (hlc (by omega))) ?_ | refine zG 600 (fun hg => qma (s.chans.getD i []) (m.chans.getD i Ch.none) (hlc (by omega))) ?_ | refine zX (qma (s.chans.getD i []) (m.chans.getD i Ch.none) (hlc (by omega))) ?_ | refine zY (fun hg => qma (s.chans.getD i []) (m.chans.getD i Ch.none) (hlc (by omega))) ?_ | refine zE 600 (qma (s.chans.getD i []) (m.chans.getD i Ch.none) (hlc (by omega))) ?_ | refine zF 600 (fun hg => qma (s.chans.getD i []) (m.chans.getD i Ch.none) (hlc (by omega))) ?_ | (refine qw (fun _ => rfl) (by kernel_rfl) 600 ?_) | (apply zB <;> intro hb <;> (try simp [-List.getD_eq_getElem?_getD] at hb) <;> try (exfalso; omega)) | refine Ob.intro ?_ ?_))
 ·refine Le.of_eq (congrArg AV.bool ?_)
  rcases hb with hb | ⟨x, hx, hb⟩
  ·exact (jkd i (by omega) (by unfold qjp; omega)).symm
  ·obtain ⟨k, hk, hx⟩ := List.mem_iff_getElem.1 hx
   refine (jke i k (by omega) hk ?_).symm
   have : (s.chans.getD i []).getD k 0 = x := by rw [List.getD_eq_getElem?_getD, List.getElem?_eq_getElem hk]; exact hx
   unfold qlb
   rw [this]; exact hb
 ·((conv => whnf); refine ⟨i + 1, ⟨by omega, qcb hi.2 ⟨by unfold qjp; omega, fun k hk => hb.2 _ (qp _ k 0 hk)⟩⟩, ⟨qa, qa⟩, ⟨qa, qa⟩, ?_⟩; (first | omega | (dsimp only; omega) | skip))
 ·refine Le.of_eq (congrArg AV.bool ?_)
  by_cases hh : -1 ≤ s.holder ∧ s.holder < m.procs.length
  ·rw [(qau m s).2 ⟨⟨h0.1, h0.2.1, h0.2.2, hh⟩, hA, hV, fun j hj => hi.2 j (by omega)⟩]
   simp [hh]
  ·rw [qzd (m := m) (s := s) (by unfold qqw; omega)]
   simp; omega

end Go.Proofs.Ytdoaagphhjggbaa
end
section
/- Contracts: the program's states: the first one, which are the same. -/
namespace Go.Proofs.Ytdoaagphhjggbaa
open Go Go.Sx Go.RowKit Go.St
set_option maxRecDepth 100000
set_option maxHeartbeats 2000000

end Go.Proofs.Ytdoaagphhjggbaa
end
