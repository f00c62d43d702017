/- Package stream: a stream in memory, which of two was used later, and the best of a list. -/
import Derived.Test.YtoapobhdpgcmbaaGen
import Derived.Test.YtoapobhdpgcmbaaAmpRead
import Derived.Test.YtoapobhdpgcmbaaSlice
import Derived.Deep.DeepCutAuto
import Derived.Deep.CutBlock
import Derived.Lib.Hide
namespace Go.Proofs.Ytoapobhdpgcmbaa
open Go.RowKit

/-- A stream: its number, pace (four numbers), and when it was used last. -/
structure Str where
  id : Int
  nx : Int
  ah : Int
  pp : Int
  gg : Int
  us : Int
abbrev sv (s : Str) : Value := .agg #[.int .i64 s.id, .int .i64 s.nx, .int .i64 s.ah, .int .i64 s.pp, .int .i64 s.gg, .int .i64 s.us]
abbrev scs (s : Str) : Array Value := #[.int .i64 s.id, .int .i64 s.nx, .int .i64 s.ah, .int .i64 s.pp, .int .i64 s.gg, .int .i64 s.us]
def eS : El Str := ⟨59, 44, 6, fun s => [.int .i64 s.id, .int .i64 s.nx, .int .i64 s.ah, .int .i64 s.pp, .int .i64 s.gg, .int .i64 s.us]⟩
theorem eSok : eS.Ok where
  len _ := rfl
  one x u hu := by simp [eS] at hu; rcases hu with rfl | rfl | rfl | rfl | rfl | rfl <;> rfl
  und := Try.underlying44
  pos := by decide
  info := by
    obtain ⟨ti, h1, h2, h3, h4⟩ := info_parts (P := Try.prog) (e := 59) (z := .agg #[.int .i64 0, .int .i64 0, .int .i64 0, .int .i64 0, .int .i64 0, .int .i64 0]) (size := 6) (bytes := 48) (by kernel_rfl)
    exact ⟨ti, _, h1, h2, h3, by omega, rfl⟩
theorem esat {w : World} {b off i : Nat} {xs : List Str} {x : Str} (h : ∀ j u, (eS.cs xs)[j]? = some u → w.cell? ⟨b, off + j, none⟩ = some u) (hi : xs[i]? = some x) :
    w.cell? ⟨b, off + i * 6, none⟩ = some (.int .i64 x.id) ∧ w.cell? ⟨b, off + i * 6 + 1, none⟩ = some (.int .i64 x.nx) ∧ w.cell? ⟨b, off + i * 6 + 2, none⟩ = some (.int .i64 x.ah) ∧ w.cell? ⟨b, off + i * 6 + 3, none⟩ = some (.int .i64 x.pp) ∧ w.cell? ⟨b, off + i * 6 + 4, none⟩ = some (.int .i64 x.gg) ∧ w.cell? ⟨b, off + i * 6 + 5, none⟩ = some (.int .i64 x.us) := by
  have q := fun j hj u hu => h (i * 6 + j) u ((eSok.cs_get xs i j x hi hj).trans hu)
  simp only [← Nat.add_assoc] at q
  exact ⟨q 0 (by decide) _ rfl, q 1 (by decide) _ rfl, q 2 (by decide) _ rfl, q 3 (by decide) _ rfl, q 4 (by decide) _ rfl, q 5 (by decide) _ rfl⟩

set_option maxHeartbeats 1000000 in
theorem slater (a b : Str) (w : World) : Calls Try.prog 69 #[sv a, sv b] w fun e w' => e = .returned (.bool (decide (b.us < a.us))) ∧ Fr [] w w' := by
  unfold sv
  go_enter Try.func69, Try.ntmps69
  go_wp2
  go_ret
  exact ⟨rfl, (by repeat' (first | (with_reducible exact Fr.refl _ _) | (with_reducible assumption) | (with_reducible refine Fr.drew ?_) | (with_reducible refine Fr.drewN ?_ _) | (with_reducible refine Fr.alloc ?_ _) | ((with_reducible refine Fr.setNew ?_ _ ?_ _); rotate_left; (focus (first | (with_reducible assumption) | exact Nat.le_of_lt (by with_reducible assumption) | (focus (simp +arith; done)) | exact Nat.le_trans (by with_reducible assumption) (by simp +arith; done) | (simp; done)))) | ((with_reducible refine Fr.setOld ?_ _ ?_ _); rotate_left; (focus (simp; done)))))⟩
set_option maxHeartbeats 1000000 in
theorem sfind1 (s : Str) (p : Nat) (first : Int) (w : World) (hp : w.heap[p]? = some (.cells #[.int .i64 first] 3)) : Calls Try.prog 68 #[sv s, .pointer (some ⟨p, 0, none⟩)] w fun e w' => e = .returned (.bool (decide (s.nx = first))) ∧ Fr [] w w' := by
  unfold sv
  apply blk_use hp; intro hg1 hc1 hz1 _ _ _ _ _
  go_enter Try.func68, Try.ntmps68
  go_wp2
  go_ret
  refine ⟨ret_bool ?_, (by repeat' (first | (with_reducible exact Fr.refl _ _) | (with_reducible assumption) | (with_reducible refine Fr.drew ?_) | (with_reducible refine Fr.drewN ?_ _) | (with_reducible refine Fr.alloc ?_ _) | ((with_reducible refine Fr.setNew ?_ _ ?_ _); rotate_left; (focus (first | (with_reducible assumption) | exact Nat.le_of_lt (by with_reducible assumption) | (focus (simp +arith; done)) | exact Nat.le_trans (by with_reducible assumption) (by simp +arith; done) | (simp; done)))) | ((with_reducible refine Fr.setOld ?_ _ ?_ _); rotate_left; (focus (simp; done)))))⟩
  by_cases h : s.nx = first <;> simp [h]
set_option maxHeartbeats 1000000 in
theorem sbegin1 (s : Str) (w : World) : Calls Try.prog 72 #[sv s] w fun e w' => e = .returned (.bool true) ∧ Fr [] w w' := by
  unfold sv
  go_enter Try.func72, Try.ntmps72
  go_wp2
  go_ret
  exact ⟨rfl, (by repeat' (first | (with_reducible exact Fr.refl _ _) | (with_reducible assumption) | (with_reducible refine Fr.drew ?_) | (with_reducible refine Fr.drewN ?_ _) | (with_reducible refine Fr.alloc ?_ _) | ((with_reducible refine Fr.setNew ?_ _ ?_ _); rotate_left; (focus (first | (with_reducible assumption) | exact Nat.le_of_lt (by with_reducible assumption) | (focus (simp +arith; done)) | exact Nat.le_trans (by with_reducible assumption) (by simp +arith; done) | (simp; done)))) | ((with_reducible refine Fr.setOld ?_ _ ?_ _); rotate_left; (focus (simp; done)))))⟩
set_option maxHeartbeats 1000000 in
theorem sbegin2 (a b : Str) (w : World) : Calls Try.prog 73 #[sv a, sv b] w fun e w' => e = .returned (.bool (decide (a.us < b.us))) ∧ Fr [] w w' := by
  have HL := fun w => slater b a w
  unfold sv at HL ⊢
  have HL := Lib.hid HL
  go_enter Try.func73, Try.ntmps73
  go_wp2_with fail
  with_reducible refine (HL.out _).mono ?_
  rintro e w1 ⟨rfl, f1⟩
  go_wp2_with fail
  go_ret
  exact ⟨rfl, Fr.trans (by repeat' (first | (with_reducible exact Fr.refl _ _) | (with_reducible assumption) | (with_reducible refine Fr.drew ?_) | (with_reducible refine Fr.drewN ?_ _) | (with_reducible refine Fr.alloc ?_ _) | ((with_reducible refine Fr.setNew ?_ _ ?_ _); rotate_left; (focus (first | (with_reducible assumption) | exact Nat.le_of_lt (by with_reducible assumption) | (focus (simp +arith; done)) | exact Nat.le_trans (by with_reducible assumption) (by simp +arith; done) | (simp; done)))) | ((with_reducible refine Fr.setOld ?_ _ ?_ _); rotate_left; (focus (simp; done))))) f1⟩
set_option maxHeartbeats 1000000 in
theorem stune1 (s : Str) (p : Nat) (id : Int) (w : World) (hp : w.heap[p]? = some (.cells #[.int .i64 id] 3)) : Calls Try.prog 80 #[sv s, .pointer (some ⟨p, 0, none⟩)] w fun e w' => e = .returned (.bool (decide (s.id = id))) ∧ Fr [] w w' := by
  unfold sv
  apply blk_use hp; intro hg1 hc1 hz1 _ _ _ _ _
  go_enter Try.func80, Try.ntmps80
  go_wp2
  go_ret
  refine ⟨ret_bool ?_, (by repeat' (first | (with_reducible exact Fr.refl _ _) | (with_reducible assumption) | (with_reducible refine Fr.drew ?_) | (with_reducible refine Fr.drewN ?_ _) | (with_reducible refine Fr.alloc ?_ _) | ((with_reducible refine Fr.setNew ?_ _ ?_ _); rotate_left; (focus (first | (with_reducible assumption) | exact Nat.le_of_lt (by with_reducible assumption) | (focus (simp +arith; done)) | exact Nat.le_trans (by with_reducible assumption) (by simp +arith; done) | (simp; done)))) | ((with_reducible refine Fr.setOld ?_ _ ?_ _); rotate_left; (focus (simp; done)))))⟩
  by_cases h : s.id = id <;> simp [h]

/-- The place of the best of the first ones; -1: none may be. -/
def bestF (may : Str → Bool) (ahd : Str → Str → Bool) (xs : List Str) : Nat → Int
  | 0 => -1
  | i + 1 => match xs[i]? with
    | none => bestF may ahd xs i
    | some x => if may x = true ∧ (bestF may ahd xs i < 0 ∨ ∃ y, xs[(bestF may ahd xs i).toNat]? = some y ∧ ahd x y = true) then i else bestF may ahd xs i
theorem bestF_lt (may : Str → Bool) (ahd : Str → Str → Bool) (xs : List Str) : ∀ i : Nat, -1 ≤ bestF may ahd xs i ∧ bestF may ahd xs i < i
  | 0 => by simp [bestF]
  | i + 1 => by
    have := bestF_lt may ahd xs i
    unfold bestF
    split
    · omega
    · split <;> omega
theorem bestF_take {may : Str → Bool} {ahd : Str → Str → Bool} {xs : List Str} {i : Nat} {X : Str} {B : Int} (hx : xs[i]? = some X) (hB : bestF may ahd xs i = B) (hm : may X = true) (h : B < 0 ∨ ∃ y, xs[B.toNat]? = some y ∧ ahd X y = true) : bestF may ahd xs (i + 1) = i := by
  rw [bestF, hx]; simp only [hB]; rw [if_pos ⟨hm, h⟩]
theorem bestF_skip {may : Str → Bool} {ahd : Str → Str → Bool} {xs : List Str} {i : Nat} {X : Str} {B : Int} (hx : xs[i]? = some X) (hB : bestF may ahd xs i = B) (h : ¬ (may X = true ∧ (B < 0 ∨ ∃ y, xs[B.toNat]? = some y ∧ ahd X y = true))) : bestF may ahd xs (i + 1) = B := by
  rw [bestF, hx]; simp only [hB]; rw [if_neg h]
theorem bestF_not {may : Str → Bool} {ahd : Str → Str → Bool} {xs : List Str} {i m : Nat} {X y : Str} (hx : xs[i]? = some X) (hB : bestF may ahd xs i = m) (hy : xs[m]? = some y) (h : ahd X y = false) : bestF may ahd xs (i + 1) = m := by
  refine bestF_skip hx hB ?_
  rintro ⟨_, q | ⟨z, z1, z2⟩⟩
  · omega
  · rw [Int.toNat_natCast, hy] at z1
    injection z1 with z1
    subst z1
    rw [h] at z2; cases z2
end Go.Proofs.Ytoapobhdpgcmbaa
