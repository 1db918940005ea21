/- Some texts of the library, one behind the other. -/
import Derived.Test.YtdoaagphhjggbaaGreatDoorQ24
import Derived.Test.YtdoaagphhjggbaaGreatDoorQPaL
import Derived.Test.YtdoaagphhjggbaaGreatDoorQPaB
import Derived.Test.YtdoaagphhjggbaaGreatDoorQLexQ2
import Derived.Test.YtdoaagphhjggbaaGreatDoorQPa0
import Derived.Test.YtdoaagphhjggbaaGreatDoorQ22
import Derived.Test.YtdoaagphhjggbaaGreatDoorQ10
import Derived.Test.YtdoaagphhjggbaaGreatDoorQStP
import Derived.Test.YtdoaagphhjggbaaGreatDoorQ2
section
namespace Go.Proofs.YtdoaagphhjggbaaGreatDoor
namespace Pa
open Go Go.Sx
theorem jmw : ∀ b : UInt8, Lx.digB b = true → 48 ≤ b.toNat ∧ b.toNat ≤ 57 := by
 have h : ∀ b : Fin 256, Lx.digB (UInt8.ofNat b) = true → 48 ≤ b.val ∧ b.val ≤ 57 := by decide +kernel
 intro b hb
 have := h ⟨b.toNat, b.toNat_lt⟩
 simp only [UInt8.ofNat_toNat] at this
 exact this hb
theorem jbj (p : UInt8 → Bool) : ∀ l : List UInt8, ∀ b ∈ l.take (Lx.spanN p l), p b = true
 | [], b, h => by simp at h
 | x :: r, b, h => by
  rw [Lx.spanN] at h
  split at h
  ·rename_i hx
   rw [Nat.add_comm, List.take_succ_cons] at h
   rcases List.mem_cons.1 h with rfl | h
   ·exact hx
   ·exact jbj p r b h
  ·simp at h
theorem jmx (l : List UInt8) : Lx.firstK l ≠ 3 := by
 unfold Lx.firstK
 split
 ·decide
 ·split
  ·decide
  ·split <;> decide
theorem jmy {l : List UInt8} (h : Lx.firstK l = 1) (h0 : Lx.firstN l ≠ 0) : (l.take (Lx.firstN l)).length ≤ 6 ∧ ∀ b ∈ l.take (Lx.firstN l), 48 ≤ b.toNat ∧ b.toNat ≤ 57 := by
 cases l with
 | nil => simp [Lx.firstK] at h
 | cons x r =>
  unfold Lx.firstK at h
  unfold Lx.firstN at h0 ⊢
  simp only at h h0 ⊢
  split at h
  ·simp at h
  ·rename_i h2
   rw [if_neg h2] at h0 ⊢
   split at h
   ·rename_i h3
    rw [if_pos h3] at h0 ⊢
    split at h0
    ·exact absurd rfl h0
    ·rename_i h6
     rw [if_neg h6]
     refine ⟨?_, fun b hb => jmw b (jbj _ _ b hb)⟩
     rw [List.length_take]; omega
   ·simp at h
theorem jmz : ∀ (n : Nat) (l : List UInt8) (p : Nat) (ts : List Lx.Tok), l.length ≤ n → Lx.lexR l p = .ok ts →
  ∃ pre e, ts = pre ++ [⟨3, [], e⟩] ∧ (∀ t ∈ pre, t.kind ≠ 3 ∧ (t.kind = 1 → t.s.length ≤ 6 ∧ ∀ b ∈ t.s, 48 ≤ b.toNat ∧ b.toNat ≤ 57)) ∧ pre.length ≤ l.length := by
 intro n
 induction n with
 | zero =>
  intro l p ts hl h
  obtain rfl : l = [] := List.length_eq_zero_iff.1 (by omega)
  rw [Lx.lexR_nil] at h
  cases h
  exact ⟨[], _, rfl, fun t ht => by simp at ht, Nat.le_refl _⟩
 | succ n ih =>
  intro l p ts hl h
  cases l with
  | nil =>
   rw [Lx.lexR_nil] at h
   cases h
   exact ⟨[], _, rfl, fun t ht => by simp at ht, Nat.le_refl _⟩
  | cons b r =>
   have hr : r.length ≤ n := by simpa using hl
   rw [Lx.lexR_cons] at h
   split at h
   ·obtain ⟨pre, e, h1, h2, h3⟩ := ih r _ ts hr h
    exact ⟨pre, e, h1, h2, by simp; omega⟩
   split at h
   ·obtain ⟨pre, e, h1, h2, h3⟩ := ih (r.drop (Lx.lineN r)) _ ts (by rw [List.length_drop]; omega) h
    exact ⟨pre, e, h1, h2, by rw [List.length_drop] at h3; simp; omega⟩
   split at h
   ·cases h
   ·rename_i h0
    cases hx : Lx.lexR (r.drop (Lx.firstN (b :: r) - 1)) (p + Lx.firstN (b :: r)) with
    | error e => rw [hx] at h; cases h
    | ok ts' =>
     rw [hx] at h
     cases h
     obtain ⟨pre, e, h1, h2, h3⟩ := ih (r.drop (Lx.firstN (b :: r) - 1)) _ ts' (by rw [List.length_drop]; omega) hx
     refine ⟨⟨Lx.firstK (b :: r), (b :: r).take (Lx.firstN (b :: r)), p⟩ :: pre, e, by rw [h1]; rfl, fun t ht => ?_, by rw [List.length_drop] at h3; simp; omega⟩
     rcases List.mem_cons.1 ht with rfl | ht
     ·exact ⟨jmx (b :: r), fun hk => jmy (l := b :: r) hk h0⟩
     ·exact h2 t ht
theorem jna {s : List UInt8} (h : (Lx.lexAll s).2.1 = 0) : ToksOk (Lx.lexAll s).1 ∧ 0 < (Lx.lexAll s).1.length := by
 unfold Lx.lexAll at h ⊢
 split at h
 ·simp at h
 rename_i hs
 rw [if_neg hs]
 split at h
 ·rename_i ts hts
  obtain ⟨pre, e, h1, h2, h3⟩ := jmz _ s 0 ts (Nat.le_refl _) hts
  simp only
  subst h1
  refine ⟨⟨by simp; omega, fun i hi => ?_, fun t ht hk => ?_⟩, by simp⟩
  ·rw [List.getD_eq_getElem?_getD]
   by_cases hip : i < pre.length
   ·rw [List.getElem?_append_left hip, List.getElem?_eq_getElem hip]
    have := (h2 _ (List.getElem_mem hip)).1
    simp only [Option.getD_some, List.length_append, List.length_singleton]
    constructor
    ·intro h; exact absurd h this
    ·intro h; omega
   ·have : i = pre.length := by simp at hi; omega
    subst this
    rw [List.getElem?_append_right (Nat.le_refl _), Nat.sub_self]
    simp
  ·rcases List.mem_append.1 ht with ht | ht
   ·exact (h2 t ht).2 hk
   ·rw [List.mem_singleton] at ht
    subst ht
    simp at hk
 ·simp at h
end Pa
end Go.Proofs.YtdoaagphhjggbaaGreatDoor
end
section
namespace Go.Proofs.YtdoaagphhjggbaaGreatDoor
open List renaming getD_eq_getElem?_getD → zd
open Go Go.Sx Go.RowKit Go.St Pa
set_option maxRecDepth 100000
set_option maxHeartbeats 8000000
theorem jnb (s : List UInt8) (hs : s.length ≤ 1000000) : Con Tryz.prog 9 [.str s] (jkx (qmg s)) := by
 refine zK {} 300 Tryz.func9 (fun c0 rdb => ?_)
 (repeat' ((conv => whnf); first | refine zO ?_ | refine Ob.auto ?_ | refine zC 300 (jli s hs) ?_ | refine zD 300 ?_ | (apply zB <;> intro hb <;> (try simp [-zd] at hb) <;> try (exfalso; omega))))
 ·have he : (Lx.lexAll s).2.1 ≠ 0 := by assumption
  have e : qmg s = ([], (Lx.lexAll s).2) := if_pos he
  rw [e]
  exact Le.tup ⟨Le.nils _ _, Le.refl _, trivial⟩
 have he : (Lx.lexAll s).2.1 = 0 := by assumption
 obtain ⟨ht, h0⟩ := jna he
 have e : qmg s = qmf (Lx.lexAll s).1 := if_neg (by rw [he]; decide)
 rw [e]
 generalize hts : (Lx.lexAll s).1 = ts at ht h0 ⊢
 have hP : Pre ts ts.length ⟨0, 0, 0, 0⟩ := ⟨⟨Int.le_refl _, by simp only; omega⟩, by simp, by simp⟩
 ((conv => whnf); refine zT 300 [2] (jmb ht hP) qa ?_)
 (repeat' ((conv => whnf); first | refine zO ?_ | refine Ob.auto ?_ | refine zD 300 ?_ | (apply zB <;> intro hb <;> (try simp [-zd] at hb) <;> try (exfalso; omega))))
 ·have hn : (qby ts ⟨0, 0, 0, 0⟩).2.err ≠ 0 := by assumption
  have e : qmf ts = ([], ((qby ts ⟨0, 0, 0, 0⟩).2.err, (qby ts ⟨0, 0, 0, 0⟩).2.fat)) := if_pos hn
  rw [e]
  exact Le.tup ⟨Le.nils _ _, Le.refl _, trivial⟩
 have hn : (qby ts ⟨0, 0, 0, 0⟩).2.err = 0 := by assumption
 have hsz : (qby ts ⟨0, 0, 0, 0⟩).1.size ≤ 100000 := by
  have := jmv ht hP.at_ hn
  have := ht.len
  omega
 have e2 : qmf ts = if 800 < (layT 0 (qby ts ⟨0, 0, 0, 0⟩).1).length then ([], (12, 0)) else if 0 ≤ deepT (qby ts ⟨0, 0, 0, 0⟩).1 1 then ([], (12, deepT (qby ts ⟨0, 0, 0, 0⟩).1 1)) else (layT 0 (qby ts ⟨0, 0, 0, 0⟩).1, (0, 0)) := if_neg (fun h => h hn)
 rw [e2]
 generalize (qby ts ⟨0, 0, 0, 0⟩).1 = t at hsz ⊢
 (conv => whnf)
 refine qji (fun _ => rfl) 300 [] (jml t hsz) (by kernel_rfl) leA trivial (by exact qb rfl) (rowsM _) (by kernel_rfl) ?_
 (repeat' ((conv => whnf); first | refine Ob.auto ?_ | refine zC 300 (jme _ t 1 (Nat.le_refl _) hsz (by decide) (by decide)) ?_ | (apply zB <;> intro hb <;> (try simp [-zd] at hb) <;> try (exfalso; omega)) | refine Ob.intro ?_ ?_ | fail))
 ·have hb8 : 800 < (layT 0 t).length := by omega
  rw [if_pos hb8]
  exact Le.tup ⟨Le.nils _ _, Le.refl _, trivial⟩
 ·have hb8 : ¬ 800 < (layT 0 t).length := by omega
  rw [if_neg hb8, if_pos (by assumption)]
  exact Le.tup ⟨Le.nils _ _, Le.refl _, trivial⟩
 ·exact ⟨⟨trivial, ⟨rfl, rfl⟩, fun k hk => ⟨trivial, trivial, trivial, ⟨hk, ⟨rfl, rfl⟩, trivial⟩, trivial, trivial⟩⟩, ⟨trivial, trivial, trivial⟩, trivial⟩
 ·have hb8 : ¬ 800 < (layT 0 t).length := by omega
  rw [if_neg hb8, if_neg (by omega)]
  refine Le.tup ⟨Le.slcL rfl (fun k hk => ?_), Le.refl _, trivial⟩
  exact ⟨Le.refl _, Le.refl _, Le.refl _, Le.refl _, Le.refl _, trivial⟩
end Go.Proofs.YtdoaagphhjggbaaGreatDoor
end
section
namespace Go.Proofs.YtdoaagphhjggbaaGreatDoor
namespace Pa
open Go Go.Sx
def lexF : Nat → List UInt8 → Nat → Except Nat (List Lx.Tok)
 | 0, _, p => .error p
 | _ + 1, [], p => .ok [⟨3, [], p⟩]
 | n + 1, b :: r, p => if Lx.blankB b then lexF n r (p + 1) else if Lx.slash2 (b :: r) then lexF n (r.drop (Lx.lineN r)) (p + 1 + Lx.lineN r) else if Lx.firstN (b :: r) = 0 then .error p
  else (lexF n (r.drop (Lx.firstN (b :: r) - 1)) (p + Lx.firstN (b :: r))).map (⟨Lx.firstK (b :: r), (b :: r).take (Lx.firstN (b :: r)), p⟩ :: ·)
theorem qpn : ∀ (n : Nat) (l : List UInt8) (p : Nat), l.length < n → lexF n l p = Lx.lexR l p
 | 0, _, _, h => absurd h (Nat.not_lt_zero _)
 | n + 1, [], p, _ => by rw [Lx.lexR_nil]; rfl
 | n + 1, b :: r, p, h => by
  have hr : r.length < n := by simpa using h
  rw [Lx.lexR_cons, lexF, qpn n r _ hr, qpn n (r.drop (Lx.lineN r)) _ (by rw [List.length_drop]; omega), qpn n (r.drop (Lx.firstN (b :: r) - 1)) _ (by rw [List.length_drop]; omega)]
def qts (s : List UInt8) : List Nd × (Int × Int) :=
 match lexF (s.length + 1) s 0 with
 | .ok ts => qmf ts
 | .error p => ([], (10, p))
theorem jnc {s : List UInt8} {r : List Nd × (Int × Int)} (h : qts s = r) (hs : s.length ≤ 4000) : qmg s = r := by
 unfold qts at h
 rw [qpn _ _ _ (Nat.lt_succ_self _)] at h
 have hn : ¬ 4000 < s.length := by omega
 unfold qmg Lx.lexAll
 split at h
 ·rename_i ts hts
  rw [hts, if_neg hn]
  exact h
 ·rename_i p hp
  rw [hp, if_neg hn]
  exact h
end Pa
end Go.Proofs.YtdoaagphhjggbaaGreatDoor
end
section
namespace Go.Proofs.YtdoaagphhjggbaaGreatDoor
open Go Go.Sx Go.RowKit Go.St Pa
set_option maxRecDepth 100000
def qtt : List UInt8 := [115, 97, 102, 101, 32, 49, 48, 48, 32, 43, 32, 49, 48, 48, 59]
def qhn : List Nd := [⟨0, [], [], [1], 0⟩, ⟨4, [], [], [2], 0⟩, ⟨22, [], [4], [3, 4], 5⟩, ⟨17, [], [100], [], 5⟩, ⟨17, [], [100], [], 11⟩]
def model14 : Md := { tree := qhn, safe := [2] }
theorem px14 : qts qtt = (qhn, (0, 0)) := by kernel_rfl
theorem qkc : Con Tryz.prog 9 [.str qtt] (.tup [ji qhn, flt 0 0]) := by
 have h := jnb qtt (by decide)
 rw [jnc px14 (by decide)] at h
 exact h
theorem jbk : Tree qhn := qox (by decide +kernel)
theorem jbl : (qbh qhn).1 = 0 := by decide +kernel
theorem jbm : qfe qhn = model14 := by kernel_rfl
theorem qkd : Con Tryz.prog 10 [ji qhn] (.tup [model14.av, .bool true]) := by
 have h := qzs qhn jbk jbl
 rw [jbm] at h
 exact h
theorem mod_14 : ModOk model14 := jbm ▸ qzp jbk jbl
end Go.Proofs.YtdoaagphhjggbaaGreatDoor
end
section
namespace Go.Proofs.YtdoaagphhjggbaaGreatDoor
open Go Go.Sx Go.RowKit Go.St
set_option maxRecDepth 100000
set_option maxHeartbeats 2000000

end Go.Proofs.YtdoaagphhjggbaaGreatDoor
end
