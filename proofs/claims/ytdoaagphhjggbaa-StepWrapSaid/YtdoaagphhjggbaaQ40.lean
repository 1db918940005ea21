/- Some texts of the library, one behind the other. -/
import Derived.Test.YtdoaagphhjggbaaQ33
import Derived.Test.YtdoaagphhjggbaaQ4
import Derived.Test.YtdoaagphhjggbaaQ39
import Derived.Test.YtdoaagphhjggbaaQ2
section
/- The texts of the law StepWrap, parsed, and their models made. -/
namespace Go.Proofs.Ytdoaagphhjggbaa
open Go Go.Sx Go.RowKit Go.St Pa
set_option maxRecDepth 100000
set_option maxHeartbeats 4000000

def qoz (k n : Nat) : List UInt8 := [118, 97, 114, 32, 120, 32, 111, 102, 32, UInt8.ofNat (48 + k), 59, 32, 112, 114, 111, 99, 32, 112, 32, 123, 32, 120, 32, 61, 32, 120, 32, 43, 32, UInt8.ofNat (48 + n / 10), UInt8.ofNat (48 + n % 10), 59, 32, 125]
def qfw (k n : Nat) : List Nd := [⟨0, [], [], [1, 2], 0⟩, ⟨2, [[120]], [k, 0], [], 0⟩, ⟨3, [[112]], [1], [3], 12⟩, ⟨6, [[120]], [], [4], 21⟩, ⟨22, [], [4], [5, 6], 25⟩, ⟨18, [[120]], [], [], 25⟩, ⟨17, [], [n], [], 29⟩]
def qiu (k n : Nat) : Md := { tree := qfw k n, globals := 1, chans := [], vars := [⟨[120], k, 0⟩], procs := [⟨[112], 0, [], 2, [false, true], [⟨0, 1, 1, 4, 0, (-1), false, 3⟩], [[120]], [0]⟩], safe := [], dead := false }

theorem jor : ((List.range 8).map fun k => (List.range 100).map fun n => qoq (qoz (k + 1) n)) = ((List.range 8).map fun k => (List.range 100).map fun n => (qfw (k + 1) n, ((0 : Int), (0 : Int)))) := by kernel_rfl
theorem jos : ((List.range 8).all fun k => (List.range 100).all fun n => qlm (qfw (k + 1) n) && decide ((qei (qfw (k + 1) n)).1 = 0)) = true := by decide +kernel
theorem jdf (k n : Nat) : qjy (qfw k n) = qiu k n := by kernel_rfl

theorem jdg {α : Type} {f g : Nat → α} {m : Nat} (h : (List.range m).map f = (List.range m).map g) {i : Nat} (hi : i < m) : f i = g i := by
 have := congrArg (fun l => l[i]?) h
 simp only [List.getElem?_map, List.getElem?_range hi, Option.map_some, Option.some.injEq] at this
 exact this

section
variable {k n : Nat} (hk : k < 8) (hn : n < 100)
include hk hn

theorem pxW : qoq (qoz (k + 1) n) = (qfw (k + 1) n, (0, 0)) := jdg (jdg jor hk) hn
theorem okW : qlm (qfw (k + 1) n) = true ∧ (qei (qfw (k + 1) n)).1 = 0 := by
 have h := qjo (qjo jos hk) hn
 rw [Bool.and_eq_true] at h
 exact ⟨h.1, of_decide_eq_true h.2⟩

theorem jot : Con Try.prog 15 [.str (qoz (k + 1) n)] (.tup [qbg (qfw (k + 1) n), flt 0 0]) := by
 have h := jav (qoz (k + 1) n) (by show 34 ≤ _; decide)
 rw [jaw (pxW hk hn) (by show 34 ≤ _; decide)] at h
 exact h

theorem qmm : Con Try.prog 16 [qbg (qfw (k + 1) n)] (.tup [(qiu (k + 1) n).av, .bool true]) := by
 have h := jcb (qfw (k + 1) n) (quu (okW hk hn).1) (okW hk hn).2
 rw [jdf] at h
 exact h

theorem jdh : ModOk (qiu (k + 1) n) := jdf (k + 1) n ▸ jby (quu (okW hk hn).1) (okW hk hn).2

end

end Go.Proofs.Ytdoaagphhjggbaa
end
section
/- The law StepWrap: what is set wraps at the variable's bits. -/
namespace Go.Proofs.Ytdoaagphhjggbaa
open Go Go.Sx Go.RowKit Go.St Pa
set_option maxRecDepth 100000
set_option maxHeartbeats 4000000

def sW (x : Int) (k : Nat) : Stt := ⟨[0], [trim x k], [], -1⟩

theorem nextW (x : Int) (k n : Nat) : qis (qiu k n) (sW x k) {} = ⟨[1], [trim (trim (trim x k + trim n 8) 8) k], [], -1⟩ := by kernel_rfl

theorem jdi (x : Int) (k n : Nat) : qy (qiu k n) (sW x k) = true := by
 refine (qau _ _).2 ⟨⟨rfl, rfl, rfl, show (-1 : Int) ≤ -1 by decide, show (-1 : Int) < 1 by decide⟩, fun i hi => ?_, fun i hi => ?_, fun i hi => absurd hi (Nat.not_lt_zero i)⟩
 ·have hi : i < 1 := hi
  obtain rfl : i = 0 := by omega
  exact ⟨Int.le_refl _, show (0 : Int) < 2 by decide⟩
 ·have hi : i < 1 := hi
  obtain rfl : i = 0 := by omega
  exact qro x k

theorem doW (x : Int) (k n : Nat) : doB (qiu k n) (sW x k) {} = true := by
 unfold doB
 rw [jdi]
 kernel_rfl

theorem jdj (y : Int) : trim y 8 = if y % 256 ≥ 128 then y % 256 - 256 else y % 256 := by
 have h : (2 : Int) ^ wid 8 = 256 := by decide
 have h' : (2 : Int) ^ (wid 8 - 1) = 128 := by decide
 unfold trim
 rw [h, h']

theorem jou (y : Int) (k : Nat) (hk : k < 8) : trim (trim y 8) ((k + 1 : Nat) : Int) = trim y ((k + 1 : Nat) : Int) := by
 refine jcf ?_
 have h : ∀ i : Nat, i < 8 → (2 : Int) ^ wid ((i + 1 : Nat) : Int) = 2 ∨ (2 : Int) ^ wid ((i + 1 : Nat) : Int) = 4 ∨ (2 : Int) ^ wid ((i + 1 : Nat) : Int) = 8 ∨ (2 : Int) ^ wid ((i + 1 : Nat) : Int) = 16 ∨ (2 : Int) ^ wid ((i + 1 : Nat) : Int) = 32 ∨ (2 : Int) ^ wid ((i + 1 : Nat) : Int) = 64 ∨ (2 : Int) ^ wid ((i + 1 : Nat) : Int) = 128 ∨ (2 : Int) ^ wid ((i + 1 : Nat) : Int) = 256 := by decide
 rw [jdj]
 rcases h k hk with h | h | h | h | h | h | h | h <;> rw [h] <;> split <;> omega

theorem jov (x w b : Int) (hw : 0 ≤ w ∧ w < 256) (hb : 0 ≤ b ∧ b < 256) : Con Try.prog 7 [iv x, .int .u8 w, .int .u8 b] (.bool true) := by
 have hK : 0 ≤ w.tmod 8 ∧ w.tmod 8 < 8 := ⟨Int.tmod_nonneg _ hw.1, Int.tmod_lt_of_pos _ (by decide)⟩
 have hB : 0 ≤ b.tmod 100 ∧ b.tmod 100 < 100 := ⟨Int.tmod_nonneg _ hb.1, Int.tmod_lt_of_pos _ (by decide)⟩
 have hC : 0 ≤ (b.tmod 100).tmod 10 ∧ (b.tmod 100).tmod 10 < 10 := ⟨Int.tmod_nonneg _ hB.1, Int.tmod_lt_of_pos _ (by decide)⟩
 have hD : 0 ≤ (b.tmod 100).tdiv 10 ∧ (b.tmod 100).tdiv 10 < 10 := by
  rw [Int.tdiv_eq_ediv_of_nonneg hB.1]; omega
 obtain ⟨k, hk⟩ := Int.eq_ofNat_of_zero_le hK.1
 obtain ⟨n, hn⟩ := Int.eq_ofNat_of_zero_le hB.1
 have hk8 : k < 8 := by omega
 have hn100 : n < 100 := by omega
 refine qi (T := tab Try.prog) (C := {lit := true}) 300 (fun _ => rfl) Try.func7 rfl (by kernel_rfl) (by kernel_rfl) (fun c0 rdb => ?_)
 (repeat' ((conv => whnf); first | refine zA ?_ | refine zO ?_ | refine Ob.auto ?_ | (refine Ob.intro (by (first | exact ⟨by omega, by omega⟩ | exact ⟨show (0:Int) ≤ _ by omega, show _ ≤ (255:Int) by omega⟩ | exact Nat.le_of_ble_eq_true (by kernel_rfl) | exact ⟨rfl, rfl⟩ | decide)) ?_) | refine zC 300 (qml) ?_ | refine zG 300 (fun hg => qml) ?_ | (refine CallY.con (qml) (by rfl) leA ?_) | (refine CallZ.con (fun hg => qml) qe (by rfl) ?_) | refine zE 300 (qml) ?_ | refine zF 300 (fun hg => qml) ?_ | refine zD 300 ?_ | (apply zB <;> intro hb <;> (try simp [-List.getD_eq_getElem?_getD] at hb) <;> try (exfalso; omega)) | refine Ob.intro ?_ ?_))
 ·exact ⟨⟨rfl, rfl⟩, fun i hi => by match i, hi with | 0, _ => exact qpg (decide_eq_true ⟨by omega, by omega⟩)⟩
 ·exact ⟨by decide, show (-9223372036854775808 : Int) ≤ _ by omega, show _ ≤ (9223372036854775807 : Int) by omega⟩
 ·exact ⟨⟨rfl, rfl⟩, fun i hi => by match i, hi with | 0, _ => exact qpg (decide_eq_true ⟨by omega, by omega⟩) | 1, _ => exact qpg (decide_eq_true ⟨by omega, by omega⟩)⟩
 have e1 : (48 + (1 + w.tmod 8)).toNat.toUInt8 = UInt8.ofNat (48 + (k + 1)) := by rw [hk, show (48 + (1 + (k : Int))).toNat = 48 + (k + 1) by omega]
 have e2 : (48 + (b.tmod 100).tdiv 10).toNat.toUInt8 = UInt8.ofNat (48 + n / 10) := by rw [hn]; rfl
 have e3 : (48 + (b.tmod 100).tmod 10).toNat.toUInt8 = UInt8.ofNat (48 + n % 10) := by rw [hn]; rfl
 ((conv => whnf); refine qeg (fun _ => rfl) 300 (jot hk8 hn100) (by rfl) ⟨Le.of_eq (congrArg AV.str (by unfold qoz; rw [← e1, ← e2, ← e3]; rfl)), trivial⟩ (by kernel_rfl) ?_)
 (repeat' ((conv => whnf); first | refine zA ?_ | refine zO ?_ | refine Ob.auto ?_ | refine zC 300 (qmm hk8 hn100) ?_ | refine zG 300 (fun hg => qmm hk8 hn100) ?_ | (refine CallY.con (qmm hk8 hn100) (by rfl) leA ?_) | (refine CallZ.con (fun hg => qmm hk8 hn100) qe (by rfl) ?_) | refine zE 300 (qmm hk8 hn100) ?_ | refine zF 300 (fun hg => qmm hk8 hn100) ?_ | refine zD 300 ?_ | (apply zB <;> intro hb <;> (try simp [-List.getD_eq_getElem?_getD] at hb) <;> try (exfalso; omega)) | refine Ob.intro ?_ ?_))
 ((conv => whnf); refine zT 300 [] (jnp (qiu (k + 1) n) (jdh hk8 hn100).ok) qa ?_)
 (repeat' ((conv => whnf); first | refine zA ?_ | refine zO ?_ | refine Ob.auto ?_ | (refine Ob.intro (by (first | exact ⟨by omega, by omega⟩ | exact ⟨rfl, rfl⟩ | decide)) ?_) | refine zD 300 ?_ | (apply zB <;> intro hb <;> (try simp [-List.getD_eq_getElem?_getD] at hb) <;> try (exfalso; omega)) | refine Ob.intro ?_ ?_))
 ((conv => whnf); refine qu (fun _ => rfl) (by kernel_rfl) 300 ?_)
 (repeat' ((conv => whnf); first | refine zA ?_ | refine zO ?_ | refine Ob.auto ?_ | (refine Ob.intro (by (first | exact ⟨by omega, by omega⟩ | exact ⟨⟨rfl, rfl⟩, show (0 : Int) ≤ 0 by decide, show (0 : Int) < 1 by decide⟩ | exact ⟨⟨rfl, rfl⟩, Nat.zero_lt_one⟩)) ?_) | refine zC 300 (qbq x (1 + w.tmod 8)) ?_ | refine zG 300 (fun hg => qbq x (1 + w.tmod 8)) ?_ | (refine CallY.con (qbq x (1 + w.tmod 8)) (by rfl) leA ?_) | (refine CallZ.con (fun hg => qbq x (1 + w.tmod 8)) qe (by rfl) ?_) | refine zE 300 (qbq x (1 + w.tmod 8)) ?_ | refine zF 300 (fun hg => qbq x (1 + w.tmod 8)) ?_ | refine zD 300 ?_ | (apply zB <;> intro hb <;> (try simp [-List.getD_eq_getElem?_getD] at hb) <;> try (exfalso; omega)) | refine Ob.intro ?_ ?_))
 have hk1 : 1 + w.tmod 8 = ((k + 1 : Nat) : Int) := by omega
 have hM := jdh hk8 hn100
 have hdo := jcx (qiu (k + 1) n) hM (sW x (k + 1)) (qem hM (jdi x (k + 1) n)) {}
 unfold qrs at hdo
 rw [doW, if_pos rfl, nextW] at hdo
 have hts := qqu x (1 + w.tmod 8)
 ((conv => whnf); refine jnx [2, 3, 10] 10 rfl (by repeat' (first | exact trivial | exact ⟨rfl, rfl⟩ | exact ⟨rfl, rfl, rfl⟩ | assumption | (refine And.intro ?_ ?_) | (intro _))) (by repeat' (first | exact trivial | exact ⟨rfl, rfl⟩ | exact ⟨rfl, rfl, rfl⟩ | assumption | (refine And.intro ?_ ?_) | (intro _))) ?_)
 ((conv => whnf); refine qeg (fun _ => rfl) 300 hdo (by rfl) ⟨Le.refl _, Le.agg ⟨Le.slc rfl (fun j hj => ?_), Le.slc rfl (fun j hj => ?_), Le.slc rfl (fun j hj => absurd hj (Nat.not_lt_zero j)), Le.refl _, trivial⟩, Le.refl _, trivial⟩ (by kernel_rfl) ?_)
 ·have hj : j < 1 := hj
  obtain rfl : j = 0 := by omega
  rfl
 ·have hj : j < 1 := hj
  obtain rfl : j = 0 := by omega
  show [iv (trim x (1 + w.tmod 8))] = [iv (trim x ((k + 1 : Nat) : Int))]
  rw [hk1]
 (repeat' ((conv => whnf); first | refine zA ?_ | refine zO ?_ | refine Ob.auto ?_ | refine zD 300 ?_ | (apply zB <;> intro hb <;> (try simp [-List.getD_eq_getElem?_getD] at hb) <;> try (exfalso; omega)) | refine Ob.intro ?_ ?_))
 have hfin : trim (trim (trim x ((k + 1 : Nat) : Int) + trim (n : Int) 8) 8) ((k + 1 : Nat) : Int) = trim (trim x (1 + w.tmod 8) + b.tmod 100) (1 + w.tmod 8) := by
  rw [jou _ k hk8, hk1, hn]
  have : trim (n : Int) 8 = n := by rw [jdj, if_neg (by omega)]; omega
  rw [this]
 (repeat' ((conv => whnf); first | refine zA ?_ | refine zO ?_ | refine Ob.auto ?_ | (refine Ob.intro (by (first | exact ⟨by omega, by omega⟩)) ?_) | refine zC 300 (qbq (trim x (1 + w.tmod 8) + b.tmod 100) (1 + w.tmod 8)) ?_ | refine zG 300 (fun hg => qbq (trim x (1 + w.tmod 8) + b.tmod 100) (1 + w.tmod 8)) ?_ | (refine CallY.con (qbq (trim x (1 + w.tmod 8) + b.tmod 100) (1 + w.tmod 8)) (by rfl) leA ?_) | (refine CallZ.con (fun hg => qbq (trim x (1 + w.tmod 8) + b.tmod 100) (1 + w.tmod 8)) qe (by rfl) ?_) | refine zE 300 (qbq (trim x (1 + w.tmod 8) + b.tmod 100) (1 + w.tmod 8)) ?_ | refine zF 300 (fun hg => qbq (trim x (1 + w.tmod 8) + b.tmod 100) (1 + w.tmod 8)) ?_ | refine zD 300 ?_ | (refine qu (fun _ => rfl) (by kernel_rfl) 300 ?_) | (apply zB <;> intro hb <;> (try simp [-List.getD_eq_getElem?_getD] at hb) <;> try (exfalso; omega)) | refine Ob.intro ?_ ?_))
 ·exact fun _ => ⟨rfl, Int.le_refl _, show (0 : Int) < 1 by decide⟩
 ·refine Le.of_eq (congrArg AV.bool ?_)
  show (true && (trim (trim (trim x ((k + 1 : Nat) : Int) + trim (n : Int) 8) 8) ((k + 1 : Nat) : Int) == trim (trim x (1 + w.tmod 8) + b.tmod 100) (1 + w.tmod 8)) && ((1 : Int) == 1)) = true
  rw [hfin]; simp

end Go.Proofs.Ytdoaagphhjggbaa
end
