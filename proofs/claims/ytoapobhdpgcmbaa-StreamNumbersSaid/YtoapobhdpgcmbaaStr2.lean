/- Package stream: best at its two uses, and find. -/
import Derived.Test.YtoapobhdpgcmbaaStr1
namespace Go.Proofs.Ytoapobhdpgcmbaa
open Go.RowKit

section
variable {w : World}

set_option maxRecDepth 100000 in
set_option maxHeartbeats 4000000 in
theorem sbest_find (p : Nat) (first : Int) (hp : w.heap[p]? = some (.cells #[.int .i64 first] 3)) (v : Value) (xs : List Str) (hl : xs.length ≤ 100000) (M : List Nat) (H : eS.Sl M w v xs) :
    Calls Try.prog 67 #[v, .func (.func 68) #[] #[.pointer (some ⟨p, 0, none⟩)], .func (.func 69) #[] #[]] w fun e w' => e = .returned (.int .i64 (bestF (fun s => decide (s.nx = first)) (fun a b => decide (b.us < a.us)) xs xs.length)) ∧ Fr [] w w' := by
  have fol : Try.prog.follows .mixedOrders = true := by kernel_rfl
  obtain ⟨A, c, rfl, hcap, hc⟩ := H
  have HC := Lib.hid hc
  have hl' : (xs.length : Int) ≤ 100000 := by omega
  have HP := Lib.hid hp
  have hpl := lt_of_heap hp
  clear hp
  clear hc
  go_enter Try.func67, Try.ntmps67
  go_wp2_with fail
  go_loopw [7, 12] (fun v u wr => ∃ i : Nat, u = .int .i64 i ∧ v = .int .i64 (bestF (fun s => decide (s.nx = first)) (fun a b => decide (b.us < a.us)) xs i) ∧ i ≤ xs.length ∧ Fr [] w wr) (fun _ u _ => xs.length - (intOf u).toNat)
  case atStart => exact ⟨0, rfl, rfl, by omega, Fr.refl _ _⟩
  case round =>
    obtain ⟨i, rfl, rfl, i1, G⟩ := hrel
    by_cases hlt : i < xs.length
    · rcases HC.out with hz | ⟨b9, o9, rfl, hb9, hM9, hcl⟩
      · rw [hz] at hlt; simp at hlt
      have hx : xs[i]? = some xs[i] := List.getElem?_eq_getElem hlt
      obtain ⟨c0, c1, c2, c3, c4, c5⟩ := esat hcl hx
      have hbl := bestF_lt (fun s => decide (s.nx = first)) (fun a b => decide (b.us < a.us)) xs i
      have d0 := (G.cell (off := o9 + i * 6) hb9).trans c0
      have d1 := (G.cell (off := o9 + i * 6 + 1) hb9).trans c1
      have d2 := (G.cell (off := o9 + i * 6 + 2) hb9).trans c2
      have d3 := (G.cell (off := o9 + i * 6 + 3) hb9).trans c3
      have d4 := (G.cell (off := o9 + i * 6 + 4) hb9).trans c4
      have d5 := (G.cell (off := o9 + i * 6 + 5) hb9).trans c5
      have hbr := Nat.lt_of_lt_of_le hb9 G.size
      have HCL := Lib.hid hcl
      generalize hB : bestF (fun s => decide (s.nx = first)) (fun a b => decide (b.us < a.us)) xs i = B at *
      have HBH := Lib.hid hB
      generalize xs[i] = X at *
      have HXX := Lib.hid hx
      clear c0 c1 c2 c3 c4 c5 hcl hB hx
      have hqx := Nat.ne_of_lt hbr
      have q5 : (wr.alloc (.cells #[.int .i64 X.id, .int .i64 X.nx, .int .i64 X.ah, .int .i64 X.pp, .int .i64 X.gg, .int .i64 X.us] 59)).heap[wr.heap.size]? = some (.cells #[.int .i64 X.id, .int .i64 X.nx, .int .i64 X.ah, .int .i64 X.pp, .int .i64 X.gg, .int .i64 X.us] 59) := heap_alloc_new _ _
      have F5 : Fr [] w (wr.alloc (.cells #[.int .i64 X.id, .int .i64 X.nx, .int .i64 X.ah, .int .i64 X.pp, .int .i64 X.gg, .int .i64 X.us] 59)) := (by repeat' (first | (with_reducible exact Fr.refl _ _) | (with_reducible assumption) | (with_reducible refine Fr.drew ?_) | (with_reducible refine Fr.drewN ?_ _) | (with_reducible refine Fr.alloc ?_ _) | ((with_reducible refine Fr.setNew ?_ _ ?_ _); rotate_left; (focus (first | (with_reducible assumption) | exact Nat.le_of_lt (by with_reducible assumption) | (focus (simp +arith; done)) | exact Nat.le_trans (by with_reducible assumption) (by simp +arith; done) | (simp; done)))) | ((with_reducible refine Fr.setOld ?_ _ ?_ _); rotate_left; (focus (simp; done)))))
      go_upto_region 5 with fail
      generalize wr.alloc (.cells #[.int .i64 X.id, .int .i64 X.nx, .int .i64 X.ah, .int .i64 X.pp, .int .i64 X.gg, .int .i64 X.us] 59) = w5 at *
      generalize wr.heap.size = q at *
      clear d0 d1 d2 d3 d4 d5 hqx hbr
      have HF5 := Lib.hid F5
      have HQ5 := Lib.hid q5
      by_cases hm : X.nx = first
      · have hmd : decide (X.nx = first) = true := by simp [hm]
        have HMD := Lib.hid hmd
        clear hm
        by_cases hB : B < 0
        · have hBd : decide (B < 0) = true := by simp [hB]
          clear hBd
          refine wp_region_seqV_lit (fun _ _ w' => Fr [] w5 w') fol (by kernel_rfl) (Fr.refl _ _).drew ?_
          (repeat (first | (apply SeqV.cons; (focus (intro Vv bv wv hbv hdv hsh hSv; (have q6 := hSv.heap HQ5.out (by simp)); apply blk_use q6; intro hg21 hc21 hz21 _ _ _ _ _; go_wp2_with (first | (go_at_call 68; with_reducible refine (sfind1 X p first _ ((HF5.out.trans hSv).heap HP.out (by simp))).mono ?_; rintro e ww ⟨rfl, ff⟩; have ff2 : Fr [] w5 ww := hSv.trans ff)); exact StepPost.mk rfl (Fr.trans (S := []) hSv (by repeat' (first | (with_reducible exact Fr.refl _ _) | (with_reducible assumption) | (with_reducible refine Fr.drew ?_) | (with_reducible refine Fr.drewN ?_ _) | (with_reducible refine Fr.alloc ?_ _) | ((with_reducible refine Fr.setNew ?_ _ ?_ _); rotate_left; (focus (first | (with_reducible assumption) | exact Nat.le_of_lt (by with_reducible assumption) | (focus (simp +arith; done)) | exact Nat.le_trans (by with_reducible assumption) (by simp +arith; done) | (simp; done)))) | ((with_reducible refine Fr.setOld ?_ _ ?_ _); rotate_left; (focus (simp; done)))))))); (try simp only [Act.put, List.setIfInBounds_toArray, List.set_cons_zero, List.set_cons_succ, Nat.reduceAdd, Nat.zero_add])) | (apply SeqV.cons (v := undef); (focus (intro Vv bv wv hbv hdv hsh hSv; (have q6 := hSv.heap HQ5.out (by simp)); apply blk_use q6; intro hg21 hc21 hz21 _ _ _ _ _; go_wp2_with (first | (go_at_call 68; with_reducible refine (sfind1 X p first _ ((HF5.out.trans hSv).heap HP.out (by simp))).mono ?_; rintro e ww ⟨rfl, ff⟩; have ff2 : Fr [] w5 ww := hSv.trans ff)); exact StepPost.mk rfl (Fr.trans (S := []) hSv (by repeat' (first | (with_reducible exact Fr.refl _ _) | (with_reducible assumption) | (with_reducible refine Fr.drew ?_) | (with_reducible refine Fr.drewN ?_ _) | (with_reducible refine Fr.alloc ?_ _) | ((with_reducible refine Fr.setNew ?_ _ ?_ _); rotate_left; (focus (first | (with_reducible assumption) | exact Nat.le_of_lt (by with_reducible assumption) | (focus (simp +arith; done)) | exact Nat.le_trans (by with_reducible assumption) (by simp +arith; done) | (simp; done)))) | ((with_reducible refine Fr.setOld ?_ _ ?_ _); rotate_left; (focus (simp; done)))))))); (try simp only [Act.put, List.setIfInBounds_toArray, List.set_cons_zero, List.set_cons_succ, Nat.reduceAdd, Nat.zero_add]))))
          refine SeqV.nil ?_
          intro Vv bv w6 hb6 hSv
          have F6 : Fr [] w w6 := HF5.out.trans hSv
          clear hb6 hSv
          go_wp2_with fail
          go_roundw
          case rel => exact ⟨i + 1, by go_num, by rw [bestF_take HXX.out HBH.out HMD.out (Or.inl hB)], by omega, F6⟩
          case measure => simp [intOf]; omega
        · obtain ⟨m, rfl⟩ : ∃ m : Nat, B = m := ⟨B.toNat, by omega⟩
          have hml : m < xs.length := by omega
          have hmi : (m : Int) < (xs.length : Int) := by omega
          obtain ⟨y, hy⟩ : ∃ y, xs[m]? = some y := ⟨_, List.getElem?_eq_getElem hml⟩
          obtain ⟨c0, c1, c2, c3, c4, c5⟩ := esat HCL.out hy
          have e0 := (HF5.out.cell (off := o9 + m * 6) hb9).trans c0
          have e1 := (HF5.out.cell (off := o9 + m * 6 + 1) hb9).trans c1
          have e2 := (HF5.out.cell (off := o9 + m * 6 + 2) hb9).trans c2
          have e3 := (HF5.out.cell (off := o9 + m * 6 + 3) hb9).trans c3
          have e4 := (HF5.out.cell (off := o9 + m * 6 + 4) hb9).trans c4
          have e5 := (HF5.out.cell (off := o9 + m * 6 + 5) hb9).trans c5
          have hb5 := Nat.lt_of_lt_of_le hb9 HF5.out.size
          have HY := Lib.hid hy
          clear hbl hB
          clear c0 c1 c2 c3 c4 c5 hy
          by_cases ha : y.us < X.us
          · have had : decide (y.us < X.us) = true := by simp [ha]
            have HA := Lib.hid had
            clear ha
            refine wp_region_seqV_lit (fun _ _ w' => Fr [] w5 w') fol (by kernel_rfl) (Fr.refl _ _).drew ?_
            (repeat (first | (apply SeqV.cons; (focus (intro Vv bv wv hbv hdv hsh hSv; (have q6 := hSv.heap HQ5.out (by simp)); apply blk_use q6; intro hg21 hc21 hz21 _ _ _ _ _; (have y0 := (hSv.cell (off := o9 + m * 6) hb5).trans e0); (have y1 := (hSv.cell (off := o9 + m * 6 + 1) hb5).trans e1); (have y2 := (hSv.cell (off := o9 + m * 6 + 2) hb5).trans e2); (have y3 := (hSv.cell (off := o9 + m * 6 + 3) hb5).trans e3); (have y4 := (hSv.cell (off := o9 + m * 6 + 4) hb5).trans e4); (have y5 := (hSv.cell (off := o9 + m * 6 + 5) hb5).trans e5); go_wp2_with (first | (go_at_call 68; with_reducible refine (sfind1 X p first _ ((HF5.out.trans hSv).heap HP.out (by simp))).mono ?_; rintro e ww ⟨rfl, ff⟩; have ff2 : Fr [] w5 ww := hSv.trans ff) | (go_at_call 69; with_reducible refine (slater X y _).mono ?_; rintro e ww ⟨rfl, ff⟩; have ff2 : Fr [] w5 ww := hSv.trans ff)); exact StepPost.mk rfl (Fr.trans (S := []) hSv (by repeat' (first | (with_reducible exact Fr.refl _ _) | (with_reducible assumption) | (with_reducible refine Fr.drew ?_) | (with_reducible refine Fr.drewN ?_ _) | (with_reducible refine Fr.alloc ?_ _) | ((with_reducible refine Fr.setNew ?_ _ ?_ _); rotate_left; (focus (first | (with_reducible assumption) | exact Nat.le_of_lt (by with_reducible assumption) | (focus (simp +arith; done)) | exact Nat.le_trans (by with_reducible assumption) (by simp +arith; done) | (simp; done)))) | ((with_reducible refine Fr.setOld ?_ _ ?_ _); rotate_left; (focus (simp; done)))))))); (try simp only [Act.put, List.setIfInBounds_toArray, List.set_cons_zero, List.set_cons_succ, Nat.reduceAdd, Nat.zero_add])) | (apply SeqV.cons (v := undef); (focus (intro Vv bv wv hbv hdv hsh hSv; (have q6 := hSv.heap HQ5.out (by simp)); apply blk_use q6; intro hg21 hc21 hz21 _ _ _ _ _; (have y0 := (hSv.cell (off := o9 + m * 6) hb5).trans e0); (have y1 := (hSv.cell (off := o9 + m * 6 + 1) hb5).trans e1); (have y2 := (hSv.cell (off := o9 + m * 6 + 2) hb5).trans e2); (have y3 := (hSv.cell (off := o9 + m * 6 + 3) hb5).trans e3); (have y4 := (hSv.cell (off := o9 + m * 6 + 4) hb5).trans e4); (have y5 := (hSv.cell (off := o9 + m * 6 + 5) hb5).trans e5); go_wp2_with (first | (go_at_call 68; with_reducible refine (sfind1 X p first _ ((HF5.out.trans hSv).heap HP.out (by simp))).mono ?_; rintro e ww ⟨rfl, ff⟩; have ff2 : Fr [] w5 ww := hSv.trans ff) | (go_at_call 69; with_reducible refine (slater X y _).mono ?_; rintro e ww ⟨rfl, ff⟩; have ff2 : Fr [] w5 ww := hSv.trans ff)); exact StepPost.mk rfl (Fr.trans (S := []) hSv (by repeat' (first | (with_reducible exact Fr.refl _ _) | (with_reducible assumption) | (with_reducible refine Fr.drew ?_) | (with_reducible refine Fr.drewN ?_ _) | (with_reducible refine Fr.alloc ?_ _) | ((with_reducible refine Fr.setNew ?_ _ ?_ _); rotate_left; (focus (first | (with_reducible assumption) | exact Nat.le_of_lt (by with_reducible assumption) | (focus (simp +arith; done)) | exact Nat.le_trans (by with_reducible assumption) (by simp +arith; done) | (simp; done)))) | ((with_reducible refine Fr.setOld ?_ _ ?_ _); rotate_left; (focus (simp; done)))))))); (try simp only [Act.put, List.setIfInBounds_toArray, List.set_cons_zero, List.set_cons_succ, Nat.reduceAdd, Nat.zero_add]))))
            refine SeqV.nil ?_
            intro Vv bv w6 hb6 hSv
            have F6 : Fr [] w w6 := HF5.out.trans hSv
            clear hb6 hSv
            go_wp2_with fail
            go_roundw
            case rel => exact ⟨i + 1, by go_num, by rw [bestF_take HXX.out HBH.out HMD.out (Or.inr ⟨y, HY.out, HA.out⟩)], by omega, F6⟩
            case measure => simp [intOf]; omega
          · have had : decide (y.us < X.us) = false := by simp [ha]
            have HA := Lib.hid had
            clear ha
            refine wp_region_seqV_lit (fun _ _ w' => Fr [] w5 w') fol (by kernel_rfl) (Fr.refl _ _).drew ?_
            (repeat (first | (apply SeqV.cons; (focus (intro Vv bv wv hbv hdv hsh hSv; (have q6 := hSv.heap HQ5.out (by simp)); apply blk_use q6; intro hg21 hc21 hz21 _ _ _ _ _; (have y0 := (hSv.cell (off := o9 + m * 6) hb5).trans e0); (have y1 := (hSv.cell (off := o9 + m * 6 + 1) hb5).trans e1); (have y2 := (hSv.cell (off := o9 + m * 6 + 2) hb5).trans e2); (have y3 := (hSv.cell (off := o9 + m * 6 + 3) hb5).trans e3); (have y4 := (hSv.cell (off := o9 + m * 6 + 4) hb5).trans e4); (have y5 := (hSv.cell (off := o9 + m * 6 + 5) hb5).trans e5); go_wp2_with (first | (go_at_call 68; with_reducible refine (sfind1 X p first _ ((HF5.out.trans hSv).heap HP.out (by simp))).mono ?_; rintro e ww ⟨rfl, ff⟩; have ff2 : Fr [] w5 ww := hSv.trans ff) | (go_at_call 69; with_reducible refine (slater X y _).mono ?_; rintro e ww ⟨rfl, ff⟩; have ff2 : Fr [] w5 ww := hSv.trans ff)); exact StepPost.mk rfl (Fr.trans (S := []) hSv (by repeat' (first | (with_reducible exact Fr.refl _ _) | (with_reducible assumption) | (with_reducible refine Fr.drew ?_) | (with_reducible refine Fr.drewN ?_ _) | (with_reducible refine Fr.alloc ?_ _) | ((with_reducible refine Fr.setNew ?_ _ ?_ _); rotate_left; (focus (first | (with_reducible assumption) | exact Nat.le_of_lt (by with_reducible assumption) | (focus (simp +arith; done)) | exact Nat.le_trans (by with_reducible assumption) (by simp +arith; done) | (simp; done)))) | ((with_reducible refine Fr.setOld ?_ _ ?_ _); rotate_left; (focus (simp; done)))))))); (try simp only [Act.put, List.setIfInBounds_toArray, List.set_cons_zero, List.set_cons_succ, Nat.reduceAdd, Nat.zero_add])) | (apply SeqV.cons (v := undef); (focus (intro Vv bv wv hbv hdv hsh hSv; (have q6 := hSv.heap HQ5.out (by simp)); apply blk_use q6; intro hg21 hc21 hz21 _ _ _ _ _; (have y0 := (hSv.cell (off := o9 + m * 6) hb5).trans e0); (have y1 := (hSv.cell (off := o9 + m * 6 + 1) hb5).trans e1); (have y2 := (hSv.cell (off := o9 + m * 6 + 2) hb5).trans e2); (have y3 := (hSv.cell (off := o9 + m * 6 + 3) hb5).trans e3); (have y4 := (hSv.cell (off := o9 + m * 6 + 4) hb5).trans e4); (have y5 := (hSv.cell (off := o9 + m * 6 + 5) hb5).trans e5); go_wp2_with (first | (go_at_call 68; with_reducible refine (sfind1 X p first _ ((HF5.out.trans hSv).heap HP.out (by simp))).mono ?_; rintro e ww ⟨rfl, ff⟩; have ff2 : Fr [] w5 ww := hSv.trans ff) | (go_at_call 69; with_reducible refine (slater X y _).mono ?_; rintro e ww ⟨rfl, ff⟩; have ff2 : Fr [] w5 ww := hSv.trans ff)); exact StepPost.mk rfl (Fr.trans (S := []) hSv (by repeat' (first | (with_reducible exact Fr.refl _ _) | (with_reducible assumption) | (with_reducible refine Fr.drew ?_) | (with_reducible refine Fr.drewN ?_ _) | (with_reducible refine Fr.alloc ?_ _) | ((with_reducible refine Fr.setNew ?_ _ ?_ _); rotate_left; (focus (first | (with_reducible assumption) | exact Nat.le_of_lt (by with_reducible assumption) | (focus (simp +arith; done)) | exact Nat.le_trans (by with_reducible assumption) (by simp +arith; done) | (simp; done)))) | ((with_reducible refine Fr.setOld ?_ _ ?_ _); rotate_left; (focus (simp; done)))))))); (try simp only [Act.put, List.setIfInBounds_toArray, List.set_cons_zero, List.set_cons_succ, Nat.reduceAdd, Nat.zero_add]))))
            refine SeqV.nil ?_
            intro Vv bv w6 hb6 hSv
            have F6 : Fr [] w w6 := HF5.out.trans hSv
            clear hb6 hSv
            go_wp2_with fail
            go_roundw
            case rel => exact ⟨i + 1, by go_num, by rw [bestF_not HXX.out HBH.out HY.out HA.out], by omega, F6⟩
            case measure => simp [intOf]; omega
      · have hmd : decide (X.nx = first) = false := by simp [hm]
        have HMD := Lib.hid hmd
        clear hm
        refine wp_region_seqV_lit (fun _ _ w' => Fr [] w5 w') fol (by kernel_rfl) (Fr.refl _ _).drew ?_
        (repeat (first | (apply SeqV.cons; (focus (intro Vv bv wv hbv hdv hsh hSv; (have q6 := hSv.heap HQ5.out (by simp)); apply blk_use q6; intro hg21 hc21 hz21 _ _ _ _ _; go_wp2_with (first | (go_at_call 68; with_reducible refine (sfind1 X p first _ ((HF5.out.trans hSv).heap HP.out (by simp))).mono ?_; rintro e ww ⟨rfl, ff⟩; have ff2 : Fr [] w5 ww := hSv.trans ff)); exact StepPost.mk rfl (Fr.trans (S := []) hSv (by repeat' (first | (with_reducible exact Fr.refl _ _) | (with_reducible assumption) | (with_reducible refine Fr.drew ?_) | (with_reducible refine Fr.drewN ?_ _) | (with_reducible refine Fr.alloc ?_ _) | ((with_reducible refine Fr.setNew ?_ _ ?_ _); rotate_left; (focus (first | (with_reducible assumption) | exact Nat.le_of_lt (by with_reducible assumption) | (focus (simp +arith; done)) | exact Nat.le_trans (by with_reducible assumption) (by simp +arith; done) | (simp; done)))) | ((with_reducible refine Fr.setOld ?_ _ ?_ _); rotate_left; (focus (simp; done)))))))); (try simp only [Act.put, List.setIfInBounds_toArray, List.set_cons_zero, List.set_cons_succ, Nat.reduceAdd, Nat.zero_add])) | (apply SeqV.cons (v := undef); (focus (intro Vv bv wv hbv hdv hsh hSv; (have q6 := hSv.heap HQ5.out (by simp)); apply blk_use q6; intro hg21 hc21 hz21 _ _ _ _ _; go_wp2_with (first | (go_at_call 68; with_reducible refine (sfind1 X p first _ ((HF5.out.trans hSv).heap HP.out (by simp))).mono ?_; rintro e ww ⟨rfl, ff⟩; have ff2 : Fr [] w5 ww := hSv.trans ff)); exact StepPost.mk rfl (Fr.trans (S := []) hSv (by repeat' (first | (with_reducible exact Fr.refl _ _) | (with_reducible assumption) | (with_reducible refine Fr.drew ?_) | (with_reducible refine Fr.drewN ?_ _) | (with_reducible refine Fr.alloc ?_ _) | ((with_reducible refine Fr.setNew ?_ _ ?_ _); rotate_left; (focus (first | (with_reducible assumption) | exact Nat.le_of_lt (by with_reducible assumption) | (focus (simp +arith; done)) | exact Nat.le_trans (by with_reducible assumption) (by simp +arith; done) | (simp; done)))) | ((with_reducible refine Fr.setOld ?_ _ ?_ _); rotate_left; (focus (simp; done)))))))); (try simp only [Act.put, List.setIfInBounds_toArray, List.set_cons_zero, List.set_cons_succ, Nat.reduceAdd, Nat.zero_add]))))
        refine SeqV.nil ?_
        intro Vv bv w6 hb6 hSv
        have F6 : Fr [] w w6 := HF5.out.trans hSv
        clear hb6 hSv
        go_wp2_with fail
        go_roundw
        case rel => exact ⟨i + 1, by go_num, by rw [bestF_skip HXX.out HBH.out (fun h => by rw [HMD.out] at h; cases h.1)], by omega, F6⟩
        case measure => simp [intOf]; omega
    · obtain rfl : i = xs.length := by omega
      go_wp2_with fail
      go_ret
      exact ⟨rfl, G⟩

set_option maxRecDepth 100000 in
set_option maxHeartbeats 4000000 in
theorem sbest_begin (v : Value) (xs : List Str) (hl : xs.length ≤ 100000) (M : List Nat) (H : eS.Sl M w v xs) :
    Calls Try.prog 67 #[v, .func (.func 72) #[] #[], .func (.func 73) #[] #[]] w fun e w' => e = .returned (.int .i64 (bestF (fun _ => true) (fun a b => decide (a.us < b.us)) xs xs.length)) ∧ Fr [] w w' := by
  have fol : Try.prog.follows .mixedOrders = true := by kernel_rfl
  obtain ⟨A, c, rfl, hcap, hc⟩ := H
  have HC := Lib.hid hc
  have hl' : (xs.length : Int) ≤ 100000 := by omega
  clear hc
  go_enter Try.func67, Try.ntmps67
  go_wp2_with fail
  go_loopw [7, 12] (fun v u wr => ∃ i : Nat, u = .int .i64 i ∧ v = .int .i64 (bestF (fun _ => true) (fun a b => decide (a.us < b.us)) xs i) ∧ i ≤ xs.length ∧ Fr [] w wr) (fun _ u _ => xs.length - (intOf u).toNat)
  case atStart => exact ⟨0, rfl, rfl, by omega, Fr.refl _ _⟩
  case round =>
    obtain ⟨i, rfl, rfl, i1, G⟩ := hrel
    by_cases hlt : i < xs.length
    · rcases HC.out with hz | ⟨b9, o9, rfl, hb9, hM9, hcl⟩
      · rw [hz] at hlt; simp at hlt
      have hx : xs[i]? = some xs[i] := List.getElem?_eq_getElem hlt
      obtain ⟨c0, c1, c2, c3, c4, c5⟩ := esat hcl hx
      have hbl := bestF_lt (fun _ => true) (fun a b => decide (a.us < b.us)) xs i
      have d0 := (G.cell (off := o9 + i * 6) hb9).trans c0
      have d1 := (G.cell (off := o9 + i * 6 + 1) hb9).trans c1
      have d2 := (G.cell (off := o9 + i * 6 + 2) hb9).trans c2
      have d3 := (G.cell (off := o9 + i * 6 + 3) hb9).trans c3
      have d4 := (G.cell (off := o9 + i * 6 + 4) hb9).trans c4
      have d5 := (G.cell (off := o9 + i * 6 + 5) hb9).trans c5
      have hbr := Nat.lt_of_lt_of_le hb9 G.size
      have HCL := Lib.hid hcl
      generalize hB : bestF (fun _ => true) (fun a b => decide (a.us < b.us)) xs i = B at *
      have HBH := Lib.hid hB
      generalize xs[i] = X at *
      have HXX := Lib.hid hx
      clear c0 c1 c2 c3 c4 c5 hcl hB hx
      have hqx := Nat.ne_of_lt hbr
      have q5 : (wr.alloc (.cells #[.int .i64 X.id, .int .i64 X.nx, .int .i64 X.ah, .int .i64 X.pp, .int .i64 X.gg, .int .i64 X.us] 59)).heap[wr.heap.size]? = some (.cells #[.int .i64 X.id, .int .i64 X.nx, .int .i64 X.ah, .int .i64 X.pp, .int .i64 X.gg, .int .i64 X.us] 59) := heap_alloc_new _ _
      have F5 : Fr [] w (wr.alloc (.cells #[.int .i64 X.id, .int .i64 X.nx, .int .i64 X.ah, .int .i64 X.pp, .int .i64 X.gg, .int .i64 X.us] 59)) := (by repeat' (first | (with_reducible exact Fr.refl _ _) | (with_reducible assumption) | (with_reducible refine Fr.drew ?_) | (with_reducible refine Fr.drewN ?_ _) | (with_reducible refine Fr.alloc ?_ _) | ((with_reducible refine Fr.setNew ?_ _ ?_ _); rotate_left; (focus (first | (with_reducible assumption) | exact Nat.le_of_lt (by with_reducible assumption) | (focus (simp +arith; done)) | exact Nat.le_trans (by with_reducible assumption) (by simp +arith; done) | (simp; done)))) | ((with_reducible refine Fr.setOld ?_ _ ?_ _); rotate_left; (focus (simp; done)))))
      go_upto_region 5 with fail
      generalize wr.alloc (.cells #[.int .i64 X.id, .int .i64 X.nx, .int .i64 X.ah, .int .i64 X.pp, .int .i64 X.gg, .int .i64 X.us] 59) = w5 at *
      generalize wr.heap.size = q at *
      clear d0 d1 d2 d3 d4 d5 hqx hbr
      have HF5 := Lib.hid F5
      have HQ5 := Lib.hid q5
      by_cases hB : B < 0
      · have hBd : decide (B < 0) = true := by simp [hB]
        clear hBd
        refine wp_region_seqV_lit (fun _ _ w' => Fr [] w5 w') fol (by kernel_rfl) (Fr.refl _ _).drew ?_
        (repeat (first | (apply SeqV.cons; (focus (intro Vv bv wv hbv hdv hsh hSv; (have q6 := hSv.heap HQ5.out (by simp)); apply blk_use q6; intro hg21 hc21 hz21 _ _ _ _ _; go_wp2_with (first | (go_at_call 72; with_reducible refine (sbegin1 X _).mono ?_; rintro e ww ⟨rfl, ff⟩; have ff2 : Fr [] w5 ww := hSv.trans ff)); exact StepPost.mk rfl (Fr.trans (S := []) hSv (by repeat' (first | (with_reducible exact Fr.refl _ _) | (with_reducible assumption) | (with_reducible refine Fr.drew ?_) | (with_reducible refine Fr.drewN ?_ _) | (with_reducible refine Fr.alloc ?_ _) | ((with_reducible refine Fr.setNew ?_ _ ?_ _); rotate_left; (focus (first | (with_reducible assumption) | exact Nat.le_of_lt (by with_reducible assumption) | (focus (simp +arith; done)) | exact Nat.le_trans (by with_reducible assumption) (by simp +arith; done) | (simp; done)))) | ((with_reducible refine Fr.setOld ?_ _ ?_ _); rotate_left; (focus (simp; done)))))))); (try simp only [Act.put, List.setIfInBounds_toArray, List.set_cons_zero, List.set_cons_succ, Nat.reduceAdd, Nat.zero_add])) | (apply SeqV.cons (v := undef); (focus (intro Vv bv wv hbv hdv hsh hSv; (have q6 := hSv.heap HQ5.out (by simp)); apply blk_use q6; intro hg21 hc21 hz21 _ _ _ _ _; go_wp2_with (first | (go_at_call 72; with_reducible refine (sbegin1 X _).mono ?_; rintro e ww ⟨rfl, ff⟩; have ff2 : Fr [] w5 ww := hSv.trans ff)); exact StepPost.mk rfl (Fr.trans (S := []) hSv (by repeat' (first | (with_reducible exact Fr.refl _ _) | (with_reducible assumption) | (with_reducible refine Fr.drew ?_) | (with_reducible refine Fr.drewN ?_ _) | (with_reducible refine Fr.alloc ?_ _) | ((with_reducible refine Fr.setNew ?_ _ ?_ _); rotate_left; (focus (first | (with_reducible assumption) | exact Nat.le_of_lt (by with_reducible assumption) | (focus (simp +arith; done)) | exact Nat.le_trans (by with_reducible assumption) (by simp +arith; done) | (simp; done)))) | ((with_reducible refine Fr.setOld ?_ _ ?_ _); rotate_left; (focus (simp; done)))))))); (try simp only [Act.put, List.setIfInBounds_toArray, List.set_cons_zero, List.set_cons_succ, Nat.reduceAdd, Nat.zero_add]))))
        refine SeqV.nil ?_
        intro Vv bv w6 hb6 hSv
        have F6 : Fr [] w w6 := HF5.out.trans hSv
        clear hb6 hSv
        go_wp2_with fail
        go_roundw
        case rel => exact ⟨i + 1, by go_num, by rw [bestF_take HXX.out HBH.out rfl (Or.inl hB)], by omega, F6⟩
        case measure => simp [intOf]; omega
      · obtain ⟨m, rfl⟩ : ∃ m : Nat, B = m := ⟨B.toNat, by omega⟩
        have hml : m < xs.length := by omega
        have hmi : (m : Int) < (xs.length : Int) := by omega
        obtain ⟨y, hy⟩ : ∃ y, xs[m]? = some y := ⟨_, List.getElem?_eq_getElem hml⟩
        obtain ⟨c0, c1, c2, c3, c4, c5⟩ := esat HCL.out hy
        have e0 := (HF5.out.cell (off := o9 + m * 6) hb9).trans c0
        have e1 := (HF5.out.cell (off := o9 + m * 6 + 1) hb9).trans c1
        have e2 := (HF5.out.cell (off := o9 + m * 6 + 2) hb9).trans c2
        have e3 := (HF5.out.cell (off := o9 + m * 6 + 3) hb9).trans c3
        have e4 := (HF5.out.cell (off := o9 + m * 6 + 4) hb9).trans c4
        have e5 := (HF5.out.cell (off := o9 + m * 6 + 5) hb9).trans c5
        have hb5 := Nat.lt_of_lt_of_le hb9 HF5.out.size
        have HY := Lib.hid hy
        clear hbl hB
        clear c0 c1 c2 c3 c4 c5 hy
        by_cases ha : X.us < y.us
        · have had : decide (X.us < y.us) = true := by simp [ha]
          have HA := Lib.hid had
          clear ha
          refine wp_region_seqV_lit (fun _ _ w' => Fr [] w5 w') fol (by kernel_rfl) (Fr.refl _ _).drew ?_
          (repeat (first | (apply SeqV.cons; (focus (intro Vv bv wv hbv hdv hsh hSv; (have q6 := hSv.heap HQ5.out (by simp)); apply blk_use q6; intro hg21 hc21 hz21 _ _ _ _ _; (have y0 := (hSv.cell (off := o9 + m * 6) hb5).trans e0); (have y1 := (hSv.cell (off := o9 + m * 6 + 1) hb5).trans e1); (have y2 := (hSv.cell (off := o9 + m * 6 + 2) hb5).trans e2); (have y3 := (hSv.cell (off := o9 + m * 6 + 3) hb5).trans e3); (have y4 := (hSv.cell (off := o9 + m * 6 + 4) hb5).trans e4); (have y5 := (hSv.cell (off := o9 + m * 6 + 5) hb5).trans e5); go_wp2_with (first | (go_at_call 72; with_reducible refine (sbegin1 X _).mono ?_; rintro e ww ⟨rfl, ff⟩; have ff2 : Fr [] w5 ww := hSv.trans ff) | (go_at_call 73; with_reducible refine (sbegin2 X y _).mono ?_; rintro e ww ⟨rfl, ff⟩; have ff2 : Fr [] w5 ww := hSv.trans ff)); exact StepPost.mk rfl (Fr.trans (S := []) hSv (by repeat' (first | (with_reducible exact Fr.refl _ _) | (with_reducible assumption) | (with_reducible refine Fr.drew ?_) | (with_reducible refine Fr.drewN ?_ _) | (with_reducible refine Fr.alloc ?_ _) | ((with_reducible refine Fr.setNew ?_ _ ?_ _); rotate_left; (focus (first | (with_reducible assumption) | exact Nat.le_of_lt (by with_reducible assumption) | (focus (simp +arith; done)) | exact Nat.le_trans (by with_reducible assumption) (by simp +arith; done) | (simp; done)))) | ((with_reducible refine Fr.setOld ?_ _ ?_ _); rotate_left; (focus (simp; done)))))))); (try simp only [Act.put, List.setIfInBounds_toArray, List.set_cons_zero, List.set_cons_succ, Nat.reduceAdd, Nat.zero_add])) | (apply SeqV.cons (v := undef); (focus (intro Vv bv wv hbv hdv hsh hSv; (have q6 := hSv.heap HQ5.out (by simp)); apply blk_use q6; intro hg21 hc21 hz21 _ _ _ _ _; (have y0 := (hSv.cell (off := o9 + m * 6) hb5).trans e0); (have y1 := (hSv.cell (off := o9 + m * 6 + 1) hb5).trans e1); (have y2 := (hSv.cell (off := o9 + m * 6 + 2) hb5).trans e2); (have y3 := (hSv.cell (off := o9 + m * 6 + 3) hb5).trans e3); (have y4 := (hSv.cell (off := o9 + m * 6 + 4) hb5).trans e4); (have y5 := (hSv.cell (off := o9 + m * 6 + 5) hb5).trans e5); go_wp2_with (first | (go_at_call 72; with_reducible refine (sbegin1 X _).mono ?_; rintro e ww ⟨rfl, ff⟩; have ff2 : Fr [] w5 ww := hSv.trans ff) | (go_at_call 73; with_reducible refine (sbegin2 X y _).mono ?_; rintro e ww ⟨rfl, ff⟩; have ff2 : Fr [] w5 ww := hSv.trans ff)); exact StepPost.mk rfl (Fr.trans (S := []) hSv (by repeat' (first | (with_reducible exact Fr.refl _ _) | (with_reducible assumption) | (with_reducible refine Fr.drew ?_) | (with_reducible refine Fr.drewN ?_ _) | (with_reducible refine Fr.alloc ?_ _) | ((with_reducible refine Fr.setNew ?_ _ ?_ _); rotate_left; (focus (first | (with_reducible assumption) | exact Nat.le_of_lt (by with_reducible assumption) | (focus (simp +arith; done)) | exact Nat.le_trans (by with_reducible assumption) (by simp +arith; done) | (simp; done)))) | ((with_reducible refine Fr.setOld ?_ _ ?_ _); rotate_left; (focus (simp; done)))))))); (try simp only [Act.put, List.setIfInBounds_toArray, List.set_cons_zero, List.set_cons_succ, Nat.reduceAdd, Nat.zero_add]))))
          refine SeqV.nil ?_
          intro Vv bv w6 hb6 hSv
          have F6 : Fr [] w w6 := HF5.out.trans hSv
          clear hb6 hSv
          go_wp2_with fail
          go_roundw
          case rel => exact ⟨i + 1, by go_num, by rw [bestF_take HXX.out HBH.out rfl (Or.inr ⟨y, HY.out, HA.out⟩)], by omega, F6⟩
          case measure => simp [intOf]; omega
        · have had : decide (X.us < y.us) = false := by simp [ha]
          have HA := Lib.hid had
          clear ha
          refine wp_region_seqV_lit (fun _ _ w' => Fr [] w5 w') fol (by kernel_rfl) (Fr.refl _ _).drew ?_
          (repeat (first | (apply SeqV.cons; (focus (intro Vv bv wv hbv hdv hsh hSv; (have q6 := hSv.heap HQ5.out (by simp)); apply blk_use q6; intro hg21 hc21 hz21 _ _ _ _ _; (have y0 := (hSv.cell (off := o9 + m * 6) hb5).trans e0); (have y1 := (hSv.cell (off := o9 + m * 6 + 1) hb5).trans e1); (have y2 := (hSv.cell (off := o9 + m * 6 + 2) hb5).trans e2); (have y3 := (hSv.cell (off := o9 + m * 6 + 3) hb5).trans e3); (have y4 := (hSv.cell (off := o9 + m * 6 + 4) hb5).trans e4); (have y5 := (hSv.cell (off := o9 + m * 6 + 5) hb5).trans e5); go_wp2_with (first | (go_at_call 72; with_reducible refine (sbegin1 X _).mono ?_; rintro e ww ⟨rfl, ff⟩; have ff2 : Fr [] w5 ww := hSv.trans ff) | (go_at_call 73; with_reducible refine (sbegin2 X y _).mono ?_; rintro e ww ⟨rfl, ff⟩; have ff2 : Fr [] w5 ww := hSv.trans ff)); exact StepPost.mk rfl (Fr.trans (S := []) hSv (by repeat' (first | (with_reducible exact Fr.refl _ _) | (with_reducible assumption) | (with_reducible refine Fr.drew ?_) | (with_reducible refine Fr.drewN ?_ _) | (with_reducible refine Fr.alloc ?_ _) | ((with_reducible refine Fr.setNew ?_ _ ?_ _); rotate_left; (focus (first | (with_reducible assumption) | exact Nat.le_of_lt (by with_reducible assumption) | (focus (simp +arith; done)) | exact Nat.le_trans (by with_reducible assumption) (by simp +arith; done) | (simp; done)))) | ((with_reducible refine Fr.setOld ?_ _ ?_ _); rotate_left; (focus (simp; done)))))))); (try simp only [Act.put, List.setIfInBounds_toArray, List.set_cons_zero, List.set_cons_succ, Nat.reduceAdd, Nat.zero_add])) | (apply SeqV.cons (v := undef); (focus (intro Vv bv wv hbv hdv hsh hSv; (have q6 := hSv.heap HQ5.out (by simp)); apply blk_use q6; intro hg21 hc21 hz21 _ _ _ _ _; (have y0 := (hSv.cell (off := o9 + m * 6) hb5).trans e0); (have y1 := (hSv.cell (off := o9 + m * 6 + 1) hb5).trans e1); (have y2 := (hSv.cell (off := o9 + m * 6 + 2) hb5).trans e2); (have y3 := (hSv.cell (off := o9 + m * 6 + 3) hb5).trans e3); (have y4 := (hSv.cell (off := o9 + m * 6 + 4) hb5).trans e4); (have y5 := (hSv.cell (off := o9 + m * 6 + 5) hb5).trans e5); go_wp2_with (first | (go_at_call 72; with_reducible refine (sbegin1 X _).mono ?_; rintro e ww ⟨rfl, ff⟩; have ff2 : Fr [] w5 ww := hSv.trans ff) | (go_at_call 73; with_reducible refine (sbegin2 X y _).mono ?_; rintro e ww ⟨rfl, ff⟩; have ff2 : Fr [] w5 ww := hSv.trans ff)); exact StepPost.mk rfl (Fr.trans (S := []) hSv (by repeat' (first | (with_reducible exact Fr.refl _ _) | (with_reducible assumption) | (with_reducible refine Fr.drew ?_) | (with_reducible refine Fr.drewN ?_ _) | (with_reducible refine Fr.alloc ?_ _) | ((with_reducible refine Fr.setNew ?_ _ ?_ _); rotate_left; (focus (first | (with_reducible assumption) | exact Nat.le_of_lt (by with_reducible assumption) | (focus (simp +arith; done)) | exact Nat.le_trans (by with_reducible assumption) (by simp +arith; done) | (simp; done)))) | ((with_reducible refine Fr.setOld ?_ _ ?_ _); rotate_left; (focus (simp; done)))))))); (try simp only [Act.put, List.setIfInBounds_toArray, List.set_cons_zero, List.set_cons_succ, Nat.reduceAdd, Nat.zero_add]))))
          refine SeqV.nil ?_
          intro Vv bv w6 hb6 hSv
          have F6 : Fr [] w w6 := HF5.out.trans hSv
          clear hb6 hSv
          go_wp2_with fail
          go_roundw
          case rel => exact ⟨i + 1, by go_num, by rw [bestF_not HXX.out HBH.out HY.out HA.out], by omega, F6⟩
          case measure => simp [intOf]; omega
    · obtain rfl : i = xs.length := by omega
      go_wp2_with fail
      go_ret
      exact ⟨rfl, G⟩
end
end Go.Proofs.Ytoapobhdpgcmbaa
