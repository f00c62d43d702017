/- The reference of package index: Keys. -/
import Derived.Test.YtobekkgaildbgaaIdxRef3
namespace Go.Proofs.Ytobekkgaildbgaa
open Go.RowKit

/-- The least key above the last one, among the first places. -/
def BestI (T : Tb) (K : Nat → Int) (last : Int) (i : Nat) (β : Int) : Prop :=
  (β = -1 ∧ ∀ j, j < i → 0 < (gt T j).1 → K j ≤ last) ∨ ∃ y : Nat, y < i ∧ β = y ∧ 0 < (gt T y).1 ∧ last < K y ∧ ∀ j, j < i → 0 < (gt T j).1 → last < K j → K y ≤ K j
section
variable {T : Tb} {K V : Nat → Int} {last : Int} {i N : Nat} {β : Int}
theorem BestI.zero : BestI T K last 0 (-1) := Or.inl ⟨rfl, fun j h => by omega⟩
theorem BestI.skip (h : BestI T K last i β) (hs : ¬ 0 < (gt T i).1 ∨ K i ≤ last) : BestI T K last (i + 1) β := by
  rcases h with ⟨a, b⟩ | ⟨y, y1, y2, y3, y4, y5⟩
  · refine Or.inl ⟨a, fun j hj hp => ?_⟩
    by_cases e : j = i
    · subst e; rcases hs with q | q; exact absurd hp q; exact q
    · exact b j (by omega) hp
  · refine Or.inr ⟨y, by omega, y2, y3, y4, fun j hj hp hl => ?_⟩
    by_cases e : j = i
    · subst e; rcases hs with q | q; exact absurd hp q; omega
    · exact y5 j (by omega) hp hl
theorem BestI.first (h : BestI T K last i β) (hb : β < 0) (hp : 0 < (gt T i).1) (hl : last < K i) : BestI T K last (i + 1) i := by
  rcases h with ⟨a, b⟩ | ⟨y, y1, y2, _⟩
  · refine Or.inr ⟨i, by omega, rfl, hp, hl, fun j hj hpj hlj => ?_⟩
    by_cases e : j = i
    · rw [e]; exact Int.le_refl _
    · have := b j (by omega) hpj; omega
  · omega
theorem BestI.take {y : Nat} (h : BestI T K last i y) (hp : 0 < (gt T i).1) (hl : last < K i) (hk : K i < K y) : BestI T K last (i + 1) i := by
  rcases h with ⟨a, b⟩ | ⟨z, y1, y2, y3, y4, y5⟩
  · omega
  · obtain rfl : y = z := by omega
    refine Or.inr ⟨i, by omega, rfl, hp, hl, fun j hj hpj hlj => ?_⟩
    by_cases e : j = i
    · rw [e]; exact Int.le_refl _
    · have := y5 j (by omega) hpj hlj; omega
theorem BestI.keep {y : Nat} (h : BestI T K last i y) (hk : ¬ K i < K y) : BestI T K last (i + 1) y := by
  rcases h with ⟨a, b⟩ | ⟨z, y1, y2, y3, y4, y5⟩
  · omega
  · obtain rfl : y = z := by omega
    refine Or.inr ⟨y, by omega, rfl, y3, y4, fun j hj hpj hlj => ?_⟩
    by_cases e : j = i
    · rw [e]; omega
    · exact y5 j (by omega) hpj hlj
/-- The last one of the first m keys. -/
def lastK (L : List Int) (m : Nat) : Int := if m = 0 then -1 else L.getD (m - 1) 0
theorem BestI.done {c : Int} (hk : IOk N T c) (hA : Agr N T K V) {m : Nat} (hm : m < (keysL T).length) (h : BestI T K (lastK (keysL T) m) N β) : ∃ y : Nat, y < N ∧ β = y ∧ 0 < (gt T y).1 ∧ K y = (keysL T)[m] ∧ lastK (keysL T) (m + 1) = K y := by
  have hr := List.pairwise_iff_getElem.1 (keysL_rise hk.ok)
  have hmem := fun k => mem_keysL (k := k) hk.ok
  have hlast : ∀ t (ht : t < (keysL T).length), m ≤ t → lastK (keysL T) m < (keysL T)[t] := by
    intro t ht hmt
    unfold lastK
    by_cases e : m = 0
    · rw [if_pos e]
      obtain ⟨y, hy, hp, q⟩ := (hmem _).1 (List.getElem_mem ht)
      omega
    · rw [if_neg e, List.getD_eq_getElem?_getD, List.getElem?_eq_getElem (by omega)]
      exact hr (m - 1) t (by omega) ht (by omega)
  have hlast2 : ∀ t (ht : t < (keysL T).length), t < m → (keysL T)[t] ≤ lastK (keysL T) m := by
    intro t ht htm
    unfold lastK
    rw [if_neg (by omega), List.getD_eq_getElem?_getD, List.getElem?_eq_getElem (by omega)]
    by_cases e : t = m - 1
    · subst e; exact Int.le_refl _
    · have := hr t (m - 1) ht (by omega) (by omega); simp; omega
  obtain ⟨y0, hy0, hp0, q0⟩ := (hmem _).1 (List.getElem_mem hm)
  have hk0 := (hA y0 hy0 hp0).1
  have hl0 := hlast m hm (Nat.le_refl _)
  rcases h with ⟨_, b⟩ | ⟨y, y1, y2, y3, y4, y5⟩
  · have := b y0 hy0 hp0; omega
  · have hky := (hA y y1 y3).1
    obtain ⟨t, ht, et⟩ := List.getElem_of_mem ((hmem (K y)).2 ⟨y, y1, y3, hky⟩)
    have h5 := y5 y0 hy0 hp0 (by omega)
    have htm : m ≤ t := by
      rcases Nat.lt_or_ge t m with q | q
      · have := hlast2 t ht q; omega
      · exact q
    have hle : K y = (keysL T)[m] := by
      rcases Nat.lt_or_eq_of_le htm with q | q
      · have := hr m t hm ht q; omega
      · subst q; exact et.symm
    refine ⟨y, y1, y2, y3, hle, ?_⟩
    unfold lastK
    rw [if_neg (by omega), List.getD_eq_getElem?_getD, Nat.add_sub_cancel, List.getElem?_eq_getElem hm, hle]
    rfl
end

section
variable {w w' : World} {r bi bk bn N : Nat} {T : Tb} {K V : Nat → Int} {c : Int}
set_option maxRecDepth 100000 in
set_option maxHeartbeats 8000000 in
theorem rx_keys (hk : IOk N T c) (hA : Agr N T K V) (H : RIx w r bi bk bn N T K V) :
    Calls Try.prog 27 #[.pointer (some ⟨r, 0, none⟩)] w fun e w' => (∃ v, e = .returned v ∧ eN.Own w' w.heap.size v (keysL T)) ∧ Fr [] w w' := by
  have fol : Try.prog.follows .mixedOrders = true := by kernel_rfl
  have hN := hk.le
  have n1' : (N : Int) ≤ 256 := by omega
  have hlk : (keysL T).length ≤ 256 := by rw [keysL_cnt]; have := hk.lt; omega
  have HLn : Hid (∀ w', RIx w' r bi bk bn N T K V → Calls Try.prog 24 #[.pointer (some ⟨r, 0, none⟩)] w' fun e w'' => e = .returned (.int .i64 ((keysL T).length : Nat)) ∧ w' = w'') := fun w' h => by rw [keysL_cnt]; exact rx_len hk.ok.len hk.le h
  have HD := Lib.hid (fun m hm β (h : BestI T K (lastK (keysL T) m) N β) => h.done hk hA hm)
  have HX := H.hr
  have HH := Lib.hid H
  have hlt := H.lt
  generalize keysL T = L at *
  have hlk' : (L.length : Int) ≤ 256 := by omega
  clear H hk hA
  apply blk_use HX; intro hg1 hc1 hz1 _ _ _ _ _
  go_enter Try.func27, Try.ntmps27
  go_wp2_with fail
  clear hg1 hc1 hz1
  go_loopw [3, 4] (fun u v wr => ∃ m : Nat, v = .int .i64 (lastK L m) ∧ m ≤ L.length ∧ eN.Own wr w.heap.size u (L.take m) ∧ Fr [] w wr) (fun u _ _ => match u with | .slice _ n _ => L.length - n | _ => 0)
  case atStart => exact ⟨0, rfl, by omega, El.Own.nil _ _ _, Fr.refl _ _⟩
  case round =>
    obtain ⟨m, rfl, m1, hO, F⟩ := hrel
    obtain ⟨A3, c3, rfl⟩ := hO.shape
    have hlen : (L.take m).length = m := by rw [List.length_take]; omega
    rw [hlen] at hO
    (try rw [hlen])
    have HO := Lib.hid hO
    clear hO
    have R1 := Lib.hid (HH.out.fr F (by simp) (by simp) (by simp) (by simp))
    go_wp2_with fail
    with_reducible refine (HLn.out _ R1.out).mono ?_
    rintro e w1 ⟨rfl, rfl⟩
    by_cases hm : m < L.length
    · have hm' : (m : Int) < (L.length : Int) := by omega
      go_wp2_with fail
      obtain ⟨la, hla⟩ : ∃ la, la = lastK L m := ⟨_, rfl⟩
      have HLA := Lib.hid hla
      rw [← hla]
      clear hla
      go_loopw [5, 6] (fun u v w2 => ∃ (i : Nat) (β : Int), v = .int .i64 i ∧ u = .int .i64 β ∧ BestI T K la i β ∧ i ≤ N ∧ Fr [] wr w2) (fun _ v _ => N - (intOf v).toNat)
      case atStart => exact ⟨0, -1, rfl, rfl, BestI.zero, by omega, Fr.refl _ _⟩
      case round =>
        obtain ⟨i, β, rfl, rfl, hB, i1, G⟩ := hrel
        have R2 := R1.out.fr G (by simp) (by simp) (by simp) (by simp)
        have HX2 := R2.hr
        have lt2 := R2.lt
        have HR2 := Lib.hid R2
        have HBB := Lib.hid hB
        by_cases hi : i < N
        · obtain ⟨c0, c1, _⟩ := R2.cell hi
          have hiN : (i : Int) < N := by omega
          clear R2 hB
          apply blk_use HX2; intro hg2 hc2 hz2 _ _ _ _ _
          by_cases hp : 0 < (gt T i).1
          · have hd0 : decide (0 < (gt T i).1) = true := by simpa using hp
            rw [hd0] at c0
            have HP := Lib.hid hp
            clear hd0 hp
            by_cases hl : la < K i
            · have hl1 : decide (la < K i) = true := by simpa using hl
              have HL := Lib.hid hl
              rcases (show β < 0 ∨ ∃ y : Nat, β = y ∧ y < N from by
                rcases HBB.out with ⟨q, _⟩ | ⟨y, y1, y2, _⟩
                · exact Or.inl (by omega)
                · exact Or.inr ⟨y, y2, by omega⟩) with hb | ⟨y, rfl, hy⟩
              · have HBN := Lib.hid hb
                go_wp2_with fail
                refine wp_region_seqV_lit (fun _ _ w' => Fr [] wr w') fol (by kernel_rfl) (Fr.refl _ _).drew ?_
                (repeat (first | (apply SeqV.cons; (focus (intro Vv bv wv hbv hdv hsh hSv; (have hx := hSv.heap HX2 (by simp)); apply blk_use hx; intro hg21 hc21 hz21 _ _ _ _ _; (have g0 := (hSv.cell (off := i) lt2.2.1).trans c0); (have g1 := (hSv.cell (off := i) lt2.2.2.1).trans c1); go_wp2_with (fail); exact StepPost.mk rfl (Fr.trans (S := []) hSv (by repeat' (first | (with_reducible exact Fr.refl _ _) | (with_reducible assumption) | (with_reducible refine Fr.drew ?_) | (with_reducible refine Fr.drewN ?_ _) | (with_reducible refine Fr.alloc ?_ _) | ((with_reducible refine Fr.setNew ?_ _ ?_ _); rotate_left; (focus (first | (with_reducible assumption) | exact Nat.le_of_lt (by with_reducible assumption) | (focus (simp +arith; done)) | exact Nat.le_trans (by with_reducible assumption) (by simp +arith; done) | (simp; done)))) | ((with_reducible refine Fr.setOld ?_ _ ?_ _); rotate_left; (focus (simp; done)))))))); (try simp only [Act.put, List.setIfInBounds_toArray, List.set_cons_zero, List.set_cons_succ, Nat.reduceAdd, Nat.zero_add])) | (apply SeqV.cons (v := undef); (focus (intro Vv bv wv hbv hdv hsh hSv; (have hx := hSv.heap HX2 (by simp)); apply blk_use hx; intro hg21 hc21 hz21 _ _ _ _ _; (have g0 := (hSv.cell (off := i) lt2.2.1).trans c0); (have g1 := (hSv.cell (off := i) lt2.2.2.1).trans c1); go_wp2_with (fail); exact StepPost.mk rfl (Fr.trans (S := []) hSv (by repeat' (first | (with_reducible exact Fr.refl _ _) | (with_reducible assumption) | (with_reducible refine Fr.drew ?_) | (with_reducible refine Fr.drewN ?_ _) | (with_reducible refine Fr.alloc ?_ _) | ((with_reducible refine Fr.setNew ?_ _ ?_ _); rotate_left; (focus (first | (with_reducible assumption) | exact Nat.le_of_lt (by with_reducible assumption) | (focus (simp +arith; done)) | exact Nat.le_trans (by with_reducible assumption) (by simp +arith; done) | (simp; done)))) | ((with_reducible refine Fr.setOld ?_ _ ?_ _); rotate_left; (focus (simp; done)))))))); (try simp only [Act.put, List.setIfInBounds_toArray, List.set_cons_zero, List.set_cons_succ, Nat.reduceAdd, Nat.zero_add]))))
                refine SeqV.nil ?_
                intro Vv bv w7 hb7 hSv
                have G7 := G.trans hSv
                clear hb7 hSv G
                go_wp2_with fail
                go_roundw
                case rel => exact ⟨i + 1, i, by go_num, rfl, HBB.out.first HBN.out HP.out HL.out, by omega, G7⟩
                case measure => simp [intOf]; omega
              · obtain ⟨_, cy, _⟩ := HR2.out.cell hy
                have hyN : (y : Int) < N := by omega
                by_cases hk : K i < K y
                · have hk1 : decide (K i < K y) = true := by simpa using hk
                  have HK := Lib.hid hk
                  go_wp2_with fail
                  refine wp_region_seqV_lit (fun _ _ w' => Fr [] wr w') fol (by kernel_rfl) (Fr.refl _ _).drew ?_
                  (repeat (first | (apply SeqV.cons; (focus (intro Vv bv wv hbv hdv hsh hSv; (have hx := hSv.heap HX2 (by simp)); apply blk_use hx; intro hg21 hc21 hz21 _ _ _ _ _; (have g0 := (hSv.cell (off := i) lt2.2.1).trans c0); (have g1 := (hSv.cell (off := i) lt2.2.2.1).trans c1); (have g2 := (hSv.cell (off := y) lt2.2.2.1).trans cy); go_wp2_with (fail); exact StepPost.mk rfl (Fr.trans (S := []) hSv (by repeat' (first | (with_reducible exact Fr.refl _ _) | (with_reducible assumption) | (with_reducible refine Fr.drew ?_) | (with_reducible refine Fr.drewN ?_ _) | (with_reducible refine Fr.alloc ?_ _) | ((with_reducible refine Fr.setNew ?_ _ ?_ _); rotate_left; (focus (first | (with_reducible assumption) | exact Nat.le_of_lt (by with_reducible assumption) | (focus (simp +arith; done)) | exact Nat.le_trans (by with_reducible assumption) (by simp +arith; done) | (simp; done)))) | ((with_reducible refine Fr.setOld ?_ _ ?_ _); rotate_left; (focus (simp; done)))))))); (try simp only [Act.put, List.setIfInBounds_toArray, List.set_cons_zero, List.set_cons_succ, Nat.reduceAdd, Nat.zero_add])) | (apply SeqV.cons (v := undef); (focus (intro Vv bv wv hbv hdv hsh hSv; (have hx := hSv.heap HX2 (by simp)); apply blk_use hx; intro hg21 hc21 hz21 _ _ _ _ _; (have g0 := (hSv.cell (off := i) lt2.2.1).trans c0); (have g1 := (hSv.cell (off := i) lt2.2.2.1).trans c1); (have g2 := (hSv.cell (off := y) lt2.2.2.1).trans cy); go_wp2_with (fail); exact StepPost.mk rfl (Fr.trans (S := []) hSv (by repeat' (first | (with_reducible exact Fr.refl _ _) | (with_reducible assumption) | (with_reducible refine Fr.drew ?_) | (with_reducible refine Fr.drewN ?_ _) | (with_reducible refine Fr.alloc ?_ _) | ((with_reducible refine Fr.setNew ?_ _ ?_ _); rotate_left; (focus (first | (with_reducible assumption) | exact Nat.le_of_lt (by with_reducible assumption) | (focus (simp +arith; done)) | exact Nat.le_trans (by with_reducible assumption) (by simp +arith; done) | (simp; done)))) | ((with_reducible refine Fr.setOld ?_ _ ?_ _); rotate_left; (focus (simp; done)))))))); (try simp only [Act.put, List.setIfInBounds_toArray, List.set_cons_zero, List.set_cons_succ, Nat.reduceAdd, Nat.zero_add]))))
                  refine SeqV.nil ?_
                  intro Vv bv w7 hb7 hSv
                  have G7 := G.trans hSv
                  clear hb7 hSv G
                  go_wp2_with fail
                  go_roundw
                  case rel => exact ⟨i + 1, i, by go_num, rfl, HBB.out.take HP.out HL.out HK.out, by omega, G7⟩
                  case measure => simp [intOf]; omega
                · have hk1 : decide (K i < K y) = false := by simpa using hk
                  have HK := Lib.hid hk
                  go_wp2_with fail
                  refine wp_region_seqV_lit (fun _ _ w' => Fr [] wr w') fol (by kernel_rfl) (Fr.refl _ _).drew ?_
                  (repeat (first | (apply SeqV.cons; (focus (intro Vv bv wv hbv hdv hsh hSv; (have hx := hSv.heap HX2 (by simp)); apply blk_use hx; intro hg21 hc21 hz21 _ _ _ _ _; (have g0 := (hSv.cell (off := i) lt2.2.1).trans c0); (have g1 := (hSv.cell (off := i) lt2.2.2.1).trans c1); (have g2 := (hSv.cell (off := y) lt2.2.2.1).trans cy); go_wp2_with (fail); exact StepPost.mk rfl (Fr.trans (S := []) hSv (by repeat' (first | (with_reducible exact Fr.refl _ _) | (with_reducible assumption) | (with_reducible refine Fr.drew ?_) | (with_reducible refine Fr.drewN ?_ _) | (with_reducible refine Fr.alloc ?_ _) | ((with_reducible refine Fr.setNew ?_ _ ?_ _); rotate_left; (focus (first | (with_reducible assumption) | exact Nat.le_of_lt (by with_reducible assumption) | (focus (simp +arith; done)) | exact Nat.le_trans (by with_reducible assumption) (by simp +arith; done) | (simp; done)))) | ((with_reducible refine Fr.setOld ?_ _ ?_ _); rotate_left; (focus (simp; done)))))))); (try simp only [Act.put, List.setIfInBounds_toArray, List.set_cons_zero, List.set_cons_succ, Nat.reduceAdd, Nat.zero_add])) | (apply SeqV.cons (v := undef); (focus (intro Vv bv wv hbv hdv hsh hSv; (have hx := hSv.heap HX2 (by simp)); apply blk_use hx; intro hg21 hc21 hz21 _ _ _ _ _; (have g0 := (hSv.cell (off := i) lt2.2.1).trans c0); (have g1 := (hSv.cell (off := i) lt2.2.2.1).trans c1); (have g2 := (hSv.cell (off := y) lt2.2.2.1).trans cy); go_wp2_with (fail); exact StepPost.mk rfl (Fr.trans (S := []) hSv (by repeat' (first | (with_reducible exact Fr.refl _ _) | (with_reducible assumption) | (with_reducible refine Fr.drew ?_) | (with_reducible refine Fr.drewN ?_ _) | (with_reducible refine Fr.alloc ?_ _) | ((with_reducible refine Fr.setNew ?_ _ ?_ _); rotate_left; (focus (first | (with_reducible assumption) | exact Nat.le_of_lt (by with_reducible assumption) | (focus (simp +arith; done)) | exact Nat.le_trans (by with_reducible assumption) (by simp +arith; done) | (simp; done)))) | ((with_reducible refine Fr.setOld ?_ _ ?_ _); rotate_left; (focus (simp; done)))))))); (try simp only [Act.put, List.setIfInBounds_toArray, List.set_cons_zero, List.set_cons_succ, Nat.reduceAdd, Nat.zero_add]))))
                  refine SeqV.nil ?_
                  intro Vv bv w7 hb7 hSv
                  have G7 := G.trans hSv
                  clear hb7 hSv G
                  go_wp2_with fail
                  go_roundw
                  case rel => exact ⟨i + 1, y, by go_num, rfl, HBB.out.keep (fun q => by have := HK.out; omega), by omega, G7⟩
                  case measure => simp [intOf]; omega
            · have hl1 : decide (la < K i) = false := by simpa using hl
              have hs : ¬ 0 < (gt T i).1 ∨ K i ≤ la := Or.inr (by omega)
              have HS := Lib.hid (HBB.out.skip hs)
              clear hs
              go_wp2_with fail
              refine wp_region_seqV_lit (fun _ _ w' => Fr [] wr w') fol (by kernel_rfl) (Fr.refl _ _).drew ?_
              (repeat (first | (apply SeqV.cons; (focus (intro Vv bv wv hbv hdv hsh hSv; (have hx := hSv.heap HX2 (by simp)); apply blk_use hx; intro hg21 hc21 hz21 _ _ _ _ _; (have g0 := (hSv.cell (off := i) lt2.2.1).trans c0); (have g1 := (hSv.cell (off := i) lt2.2.2.1).trans c1); go_wp2_with (fail); exact StepPost.mk rfl (Fr.trans (S := []) hSv (by repeat' (first | (with_reducible exact Fr.refl _ _) | (with_reducible assumption) | (with_reducible refine Fr.drew ?_) | (with_reducible refine Fr.drewN ?_ _) | (with_reducible refine Fr.alloc ?_ _) | ((with_reducible refine Fr.setNew ?_ _ ?_ _); rotate_left; (focus (first | (with_reducible assumption) | exact Nat.le_of_lt (by with_reducible assumption) | (focus (simp +arith; done)) | exact Nat.le_trans (by with_reducible assumption) (by simp +arith; done) | (simp; done)))) | ((with_reducible refine Fr.setOld ?_ _ ?_ _); rotate_left; (focus (simp; done)))))))); (try simp only [Act.put, List.setIfInBounds_toArray, List.set_cons_zero, List.set_cons_succ, Nat.reduceAdd, Nat.zero_add])) | (apply SeqV.cons (v := undef); (focus (intro Vv bv wv hbv hdv hsh hSv; (have hx := hSv.heap HX2 (by simp)); apply blk_use hx; intro hg21 hc21 hz21 _ _ _ _ _; (have g0 := (hSv.cell (off := i) lt2.2.1).trans c0); (have g1 := (hSv.cell (off := i) lt2.2.2.1).trans c1); go_wp2_with (fail); exact StepPost.mk rfl (Fr.trans (S := []) hSv (by repeat' (first | (with_reducible exact Fr.refl _ _) | (with_reducible assumption) | (with_reducible refine Fr.drew ?_) | (with_reducible refine Fr.drewN ?_ _) | (with_reducible refine Fr.alloc ?_ _) | ((with_reducible refine Fr.setNew ?_ _ ?_ _); rotate_left; (focus (first | (with_reducible assumption) | exact Nat.le_of_lt (by with_reducible assumption) | (focus (simp +arith; done)) | exact Nat.le_trans (by with_reducible assumption) (by simp +arith; done) | (simp; done)))) | ((with_reducible refine Fr.setOld ?_ _ ?_ _); rotate_left; (focus (simp; done)))))))); (try simp only [Act.put, List.setIfInBounds_toArray, List.set_cons_zero, List.set_cons_succ, Nat.reduceAdd, Nat.zero_add]))))
              refine SeqV.nil ?_
              intro Vv bv w7 hb7 hSv
              have G7 := G.trans hSv
              clear hb7 hSv G
              go_wp2_with fail
              go_roundw
              case rel => exact ⟨i + 1, β, by go_num, rfl, HS.out, by omega, G7⟩
              case measure => simp [intOf]; omega
          · have hd0 : decide (0 < (gt T i).1) = false := by simpa using hp
            rw [hd0] at c0
            have HS := Lib.hid (HBB.out.skip (Or.inl hp))
            clear hd0 hp
            go_wp2_with fail
            refine wp_region_seqV_lit (fun _ _ w' => Fr [] wr w') fol (by kernel_rfl) (Fr.refl _ _).drew ?_
            (repeat (first | (apply SeqV.cons; (focus (intro Vv bv wv hbv hdv hsh hSv; (have hx := hSv.heap HX2 (by simp)); apply blk_use hx; intro hg21 hc21 hz21 _ _ _ _ _; (have g0 := (hSv.cell (off := i) lt2.2.1).trans c0); (have g1 := (hSv.cell (off := i) lt2.2.2.1).trans c1); go_wp2_with (fail); exact StepPost.mk rfl (Fr.trans (S := []) hSv (by repeat' (first | (with_reducible exact Fr.refl _ _) | (with_reducible assumption) | (with_reducible refine Fr.drew ?_) | (with_reducible refine Fr.drewN ?_ _) | (with_reducible refine Fr.alloc ?_ _) | ((with_reducible refine Fr.setNew ?_ _ ?_ _); rotate_left; (focus (first | (with_reducible assumption) | exact Nat.le_of_lt (by with_reducible assumption) | (focus (simp +arith; done)) | exact Nat.le_trans (by with_reducible assumption) (by simp +arith; done) | (simp; done)))) | ((with_reducible refine Fr.setOld ?_ _ ?_ _); rotate_left; (focus (simp; done)))))))); (try simp only [Act.put, List.setIfInBounds_toArray, List.set_cons_zero, List.set_cons_succ, Nat.reduceAdd, Nat.zero_add])) | (apply SeqV.cons (v := undef); (focus (intro Vv bv wv hbv hdv hsh hSv; (have hx := hSv.heap HX2 (by simp)); apply blk_use hx; intro hg21 hc21 hz21 _ _ _ _ _; (have g0 := (hSv.cell (off := i) lt2.2.1).trans c0); (have g1 := (hSv.cell (off := i) lt2.2.2.1).trans c1); go_wp2_with (fail); exact StepPost.mk rfl (Fr.trans (S := []) hSv (by repeat' (first | (with_reducible exact Fr.refl _ _) | (with_reducible assumption) | (with_reducible refine Fr.drew ?_) | (with_reducible refine Fr.drewN ?_ _) | (with_reducible refine Fr.alloc ?_ _) | ((with_reducible refine Fr.setNew ?_ _ ?_ _); rotate_left; (focus (first | (with_reducible assumption) | exact Nat.le_of_lt (by with_reducible assumption) | (focus (simp +arith; done)) | exact Nat.le_trans (by with_reducible assumption) (by simp +arith; done) | (simp; done)))) | ((with_reducible refine Fr.setOld ?_ _ ?_ _); rotate_left; (focus (simp; done)))))))); (try simp only [Act.put, List.setIfInBounds_toArray, List.set_cons_zero, List.set_cons_succ, Nat.reduceAdd, Nat.zero_add]))))
            refine SeqV.nil ?_
            intro Vv bv w7 hb7 hSv
            have G7 := G.trans hSv
            clear hb7 hSv G
            go_wp2_with fail
            go_roundw
            case rel => exact ⟨i + 1, β, by go_num, rfl, HS.out, by omega, G7⟩
            case measure => simp [intOf]; omega
        · obtain rfl : i = N := by omega
          have hB' := hB
          rw [HLA.out] at hB'
          obtain ⟨y, y1, y2, y3, y4, y5⟩ := HD.out m hm β hB'
          subst y2
          obtain ⟨_, cy, _⟩ := R2.cell y1
          have hyN : (y : Int) < i := by omega
          have hO2 := HO.out.fr G (by simp)
          have HO2 := Lib.hid hO2
          have Y4 := Lib.hid y4
          have Y5 := Lib.hid y5
          have F2 := F.trans G
          have HTK : Hid (L.take (m + 1) = L.take m ++ [K y]) := by unfold Hid; rw [List.take_succ_eq_append_getElem hm, y4]
          generalize K y = ky at *
          clear R2 hB hB' y3 y4 y5 hO2
          apply blk_use HX2; intro hg2 hc2 hz2 _ _ _ _ _
          have F2s := F2.size
          have hlm : Hid ((L.take m).length ≤ 256) := by unfold Hid; rw [List.length_take]; omega
          go_wp2_with (at_builtin; go_must (refine wpList_appN eNok _ rfl (.tmp 68) (.tmp 70) rfl rfl w.heap.size _ (L.take m) rfl (HO2.out.fr (S := []) (by repeat' (first | (with_reducible exact Fr.refl _ _) | (with_reducible assumption) | (with_reducible refine Fr.drew ?_) | (with_reducible refine Fr.drewN ?_ _) | (with_reducible refine Fr.alloc ?_ _) | ((with_reducible refine Fr.setNew ?_ _ ?_ _); rotate_left; (focus (first | (with_reducible assumption) | exact Nat.le_of_lt (by with_reducible assumption) | (focus (simp +arith; done)) | exact Nat.le_trans (by with_reducible assumption) (by simp +arith; done) | (simp; done)))) | ((with_reducible refine Fr.setOld ?_ _ ?_ _); rotate_left; (focus (simp; done))))) (by simp)) _ [ky] rfl (((El.Own.lit (base := 0) [ky] (by (apply heap_eq_of; (focus (repeat (first | (with_reducible assumption) | ((with_reducible refine heap_alloc_at ?_ _); first | (with_reducible rfl) | (focus (simp; done))) | (with_reducible apply heap_alloc_old) | ((with_reducible apply heap_set_other); (case hne => (first | (with_reducible assumption) | exact Nat.ne_of_lt (by with_reducible assumption) | exact Nat.ne_of_gt (by with_reducible assumption) | (focus (simp +arith; done)) | (simp; done)))) | (with_reducible apply heap_set_eq) | (with_reducible apply heap_drew_of) | (with_reducible apply heap_drewN_of)))); (focus (first | (simp; done) | rfl)))) (by omega) rfl eNok (by simp [maxLen]) 1 rfl).sl (M := []) (by simp))) (by have hq8 := List.length_take_le m L; simp only [List.length_cons, List.length_nil]; omega) (by simp; omega) ?_; intro A8 c8 w8 O8 F8; have F9 : Fr [] w w8 := F8.after (S := []) (by repeat' (first | (with_reducible exact Fr.refl _ _) | (with_reducible assumption) | (with_reducible refine Fr.drew ?_) | (with_reducible refine Fr.drewN ?_ _) | (with_reducible refine Fr.alloc ?_ _) | ((with_reducible refine Fr.setNew ?_ _ ?_ _); rotate_left; (focus (first | (with_reducible assumption) | exact Nat.le_of_lt (by with_reducible assumption) | (focus (simp +arith; done)) | exact Nat.le_trans (by with_reducible assumption) (by simp +arith; done) | (simp; done)))) | ((with_reducible refine Fr.setOld ?_ _ ?_ _); rotate_left; (focus (simp; done))))) (Nat.le_refl _) (by simp); have HO8 := Lib.hid O8; clear O8 F8))
          go_roundw
          case rel =>
            have e9 : (List.take m L).length = m := by rw [List.length_take]; omega
            have h9 := HO8.out
            rw [e9] at h9
            exact ⟨m + 1, by rw [Y5.out], by omega, by rw [HTK.out]; exact h9, F9⟩
          case measure => simp; omega
    · obtain rfl : m = L.length := by omega
      have e : L.take L.length = L := List.take_of_length_le (Nat.le_refl _)
      have HE := Lib.hid e
      clear e
      go_wp2_with fail
      go_ret
      exact ⟨⟨_, rfl, by have := HO.out; rw [HE.out] at this; exact this⟩, F⟩
end
end Go.Proofs.Ytobekkgaildbgaa
