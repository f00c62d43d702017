/- WireAgain answers true at all bytes and every cut, and changes nothing that was there. -/
import Derived.Test.YtoebfpimojkamaaDoorWireReadsWalk
namespace Go.Proofs.YtoebfpimojkamaaDoor
open Go.RowKit

set_option maxRecDepth 100000 in
set_option maxHeartbeats 16000000 in
theorem wireAgain_walk (g : Addr) (A : Option Addr) (xs : List Int) (ca : Nat) (at_ : Int) (a0 : 0 ≤ at_) (a1 : at_ ≤ 65535) (hvm : xs.length ≤ maxLen) (hca : xs.length ≤ ca) (w : World) (hv : NAt w .u8 255 w.heap.size A xs) (hG : Gl w g) :
    Calls Tryd.prog 6 #[.slice A xs.length ca, .int .u16 at_] w fun e w' => e = .returned (.bool true) ∧ Fr [] w w' := by
  have hvm' : (xs.length : Int) ≤ 9223372036854775807 := by simp [maxLen] at hvm; omega
  have HG := Lib.hid hG
  have HM := Lib.hid hv.mem
  have HN := Lib.hid hv
  have HS : Hid (SlB w (.slice A xs.length ca) xs) := ⟨A, ca, rfl, hv, hca⟩
  clear hvm hG hv
  go_enter Tryd.func6, Tryd.ntmps6
  go_wp2_with fail
  refine (wawake g _ HG.out).mono ?_
  rintro e w1 ⟨rfl, F1⟩
  by_cases h1 : xs.length ≤ 600
  · have h1' : ¬ 600 < (xs.length : Int) := by omega
    go_wp2_with fail
    refine (wscriptv _ xs g (by omega) _ (HS.out.fr F1 (by simp)) (HG.out.fr F1 (by simp))).mono ?_
    rintro e w2 ⟨⟨v2, l, ys, rfl, hs, hn, O2⟩, f2⟩
    have F2 := F1.trans f2
    obtain ⟨hc, hx⟩ := hs.recs HM.out
    have hlen := hs.len
    have hxl : xs.length = (recs l).length + ys.length := by rw [hx]; simp [recs]; 
    have HSC := Lib.hid hs
    have HNO := Lib.hid hn
    have HC := Lib.hid hc
    have HX := Lib.hid hx
    have hR := O2.reads
    obtain ⟨A5, c5, rfl, m5, _⟩ := hR
    have HO2 := Lib.hid O2.reads
    have hn1 : (xs.length : Int) - ys.length = ((recs l).length : Nat) := by omega
    have hy1 : (ys.length : Int) ≤ xs.length := by omega
    have hl5 : (l.length : Int) ≤ 600 := by omega
    have HXL := Lib.hid hxl
    have HE : Hid (recs l = xs.take (recs l).length) := by unfold Hid; conv => rhs; rw [HX.out]; simp
    clear hs hn hc hx hxl O2 f2
    go_wp2_with fail
    refine (wjoin _ l (by omega) HC.out _ HO2.out).mono ?_
    rintro e w3 ⟨⟨u3, rfl, O3⟩, f3⟩
    have F3 := F2.trans f3
    have S3 := Lib.hid (O3.sl (by rw [HE.out]; exact fun v hv => HM.out v (List.mem_of_mem_take hv)))
    have HO2 := Lib.hid (HO2.out.fr f3 (by simp))
    clear O3 f3
    go_wp2_with fail
    have T3 : Hid (SlB w3 (.slice A (recs l).length ca) (recs l)) := by
      unfold Hid
      have hN3 := (HN.out.fr F3 (Nat.le_refl _) (by simp)).up F3.size
      refine ⟨A, ca, rfl, ?_, by have := HXL.out; omega⟩
      rw [HE.out]
      exact hN3.take _
    refine (rBytes _ _ (recs l) (recs l) (by have := HXL.out; omega) _ S3.out T3.out).mono ?_
    rintro e w4 ⟨⟨β, rfl, hβ⟩, f4⟩
    obtain rfl : β = true := hβ.2 rfl
    clear hβ
    have F4 := F3.trans f4
    have HO2 := Lib.hid (HO2.out.fr f4 (by simp))
    clear f4 T3 S3
    obtain ⟨k, hk, hkl⟩ : ∃ k : Nat, at_ % ((xs.length : Int) + 1) = k ∧ k ≤ xs.length := by
      have h0 := Int.emod_nonneg at_ (b := (xs.length : Int) + 1) (by omega)
      have h1 := Int.emod_lt_of_pos at_ (b := (xs.length : Int) + 1) (by omega)
      exact ⟨(at_ % ((xs.length : Int) + 1)).toNat, by omega, by omega⟩
    have hkl' : (k : Int) ≤ xs.length := by omega
    have HK : Hid (k = (xs.take k).length) := by unfold Hid; simp; omega
    have T4 : Hid (SlB w4 (.slice A k ca) (xs.take k)) := ⟨A, ca, by rw [← HK.out], ((HN.out.fr F4 (Nat.le_refl _) (by simp)).up F4.size).take k, by rw [← HK.out]; omega⟩
    clear hn1 hy1
    go_wp2_with fail
    refine (wscriptv _ (xs.take k) g (by rw [← HK.out]; omega) _ T4.out (HG.out.fr F4 (by simp))).mono ?_
    rintro e w5 ⟨⟨v5, m, zs, rfl, hs5, hn5, O5⟩, f5⟩
    have F5 := F4.trans f5
    have hext := hs5.ext (xs.drop k) (fun v hv => HM.out v (List.mem_of_mem_take hv))
    rw [List.take_append_drop] at hext
    obtain ⟨hml, hme⟩ := HSC.out.pre HNO.out hext
    have HME := Lib.hid hme
    have hvl := HSC.out.vals HM.out
    have HVL := Lib.hid hvl
    have hml' : (m.length : Int) ≤ l.length := by omega
    have P5 := O5.reads
    obtain ⟨A6, c6, rfl, m6, _⟩ := P5
    have P5 := Lib.hid O5.reads
    have Q5 := Lib.hid ((HO2.out.fr f5 (by simp)).take m.length c5 hml (by omega))
    clear hs5 hn5 O5 hext hme hvl f5 hk
    go_wp2_with fail
    refine (rOps _ _ m (l.take m.length) (by omega) (fun o ho => HVL.out o (by rw [HME.out] at ho; exact List.mem_of_mem_take ho)) (fun o ho => HVL.out o (List.mem_of_mem_take ho)) _ P5.out Q5.out).mono ?_
    rintro e w6 ⟨⟨β, rfl, hβ⟩, f6⟩
    obtain rfl : β = true := hβ.2 HME.out
    have F6 := F5.trans f6
    go_wp2_with fail
    go_ret
    exact ⟨rfl, F6⟩
  · have h1' : 600 < (xs.length : Int) := by omega
    clear h1
    go_wp2_with fail
    go_ret
    exact ⟨rfl, F1⟩

theorem wireAgain_row (g : Addr) (A : Option Addr) (xs : List Int) (ca : Nat) (at_ : Int) (hvm : xs.length ≤ maxLen) (hca : xs.length ≤ ca) (ha : (Lit.int .u16 at_).wf = true) (w : World) (hv : NAt w .u8 255 w.heap.size A xs) (hG : Gl w g) :
    Calls Tryd.prog 6 #[.slice A xs.length ca, .int .u16 at_] w fun e w' => e = .returned (.bool true) ∧ Fr [] w w' :=
  wireAgain_walk g A xs ca at_ (u16_bounds ha).1 (u16_bounds ha).2 hvm hca w hv hG

end Go.Proofs.YtoebfpimojkamaaDoor
