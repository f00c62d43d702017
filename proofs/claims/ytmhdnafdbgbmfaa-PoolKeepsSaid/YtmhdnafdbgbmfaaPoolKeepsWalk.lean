/- PoolKeeps answers true at every count and script, and changes nothing that was there. -/
import Derived.Test.YtmhdnafdbgbmfaaPoolLeastWalk
import Derived.Maps.AppendAt
namespace Go.Proofs.Ytmhdnafdbgbmfaa
open Go.RowKit

/-- What a step may make of a frame. -/
structure KeepsRel (f f2 : Fm) : Prop where
  g : f2.g = f.g ∨ (f2.g = f.g + 1 ∧ f.s = 0)
  pg : 0 < f.p → f2.g = f.g
  pb : 0 < f.p → f2.s ≠ 0 → f2.b = f.b
  ps : 1 < f.p → f2.s ≠ 0

theorem keeps_stepAt {N : Int} {l : List Fm} {i : Int} {k : Fm → Int × Fm} (hl : Sane N l) (hk : ∀ f, Fm.ok N f → KeepsRel f (k f).2) (hid : ∀ f, Fm.ok N f → KeepsRel f f) {j : Nat} {f f2 : Fm} (h : l[j]? = some f) (h2 : (stepAt l i k).2[j]? = some f2) : KeepsRel f f2 := by
  have hf := hl.2 f (List.mem_of_getElem? h)
  rcases idx_cases l i with q | ⟨q, g, rfl, hq⟩
  · rw [stepAt_out _ q] at h2
    simp only at h2
    rw [h] at h2; cases h2; exact hid f hf
  · rw [stepAt_in _ hq] at h2
    simp only at h2
    rw [List.getElem?_set] at h2
    split at h2
    · rename_i e
      subst e
      rw [h] at hq; cases hq
      split at h2
      · cases h2; exact hk f hf
      · cases h2
    · rw [h] at h2; cases h2; exact hid f hf
theorem keeps_act {N : Int} {l : List Fm} (hl : Sane N l) (k i n v : Int) {j : Nat} {f f2 : Fm} (h : l[j]? = some f) (h2 : (actL l k i n v)[j]? = some f2) : KeepsRel f f2 := by
  have hf := hl.2 f (List.mem_of_getElem? h)
  have p0 := hf.p0
  have hid : ∀ f, Fm.ok N f → KeepsRel f f := fun f hf => ⟨Or.inl rfl, fun _ => rfl, fun _ _ => rfl, fun hp hs => by have := (hf.free hs).2.1; omega⟩
  unfold actL at h2
  split at h2
  · unfold takeL at h2
    split at h2
    · simp only at h2; rw [h] at h2; cases h2; exact hid f hf
    · split at h2
      · simp only at h2; rw [h] at h2; cases h2; exact hid f hf
      · rename_i q hq
        obtain ⟨g, hg, hs⟩ := freeIx_spec hq
        simp only [hg] at h2
        rw [List.getElem?_set] at h2
        split at h2
        · rename_i e
          subst e
          rw [h] at hg; cases hg
          split at h2
          · cases h2
            have hp := (hf.free hs).2.1
            exact ⟨Or.inr ⟨rfl, hs⟩, fun h => by omega, fun h => by omega, fun h => by omega⟩
          · cases h2
        · rw [h] at h2; cases h2; exact hid f hf
  split at h2
  · refine keeps_stepAt hl (fun f hf => ?_) hid h h2
    unfold fillK; split
    · exact ⟨Or.inl rfl, fun _ => rfl, fun _ _ => rfl, fun _ => by simp⟩
    · exact hid f hf
  split at h2
  · refine keeps_stepAt hl (fun f hf => ?_) hid h h2
    unfold pinK; split
    · exact hid f hf
    · split
      · exact hid f hf
      · rename_i h1 _
        exact ⟨Or.inl rfl, fun _ => rfl, fun _ _ => rfl, fun _ hs => h1 (Or.inl hs)⟩
  split at h2
  · refine keeps_stepAt hl (fun f hf => ?_) hid h h2
    unfold unpinK; split
    · exact hid f hf
    · split
      · exact hid f hf
      · split
        · rename_i h3
          exact ⟨Or.inl rfl, fun _ => rfl, fun _ hs => absurd rfl hs, fun hp => by omega⟩
        · rename_i h1 _ _
          exact ⟨Or.inl rfl, fun _ => rfl, fun _ _ => rfl, fun _ hs => h1 (Or.inl hs)⟩
  split at h2
  · refine keeps_stepAt hl (fun f hf => ?_) hid h h2
    unfold doomK; split
    · split
      · rename_i h3
        exact ⟨Or.inl rfl, fun _ => rfl, fun hp => by omega, fun hp => by omega⟩
      · exact ⟨Or.inl rfl, fun _ => rfl, fun _ _ => rfl, fun _ => by simp⟩
    · exact hid f hf
  · rw [h] at h2; cases h2; exact hid f hf

theorem ownsRow_fr {S : List Nat} {w w' : World} {base : Nat} {e : TypeId} {size : Nat} {v : Value} {n : Nat} {xs : List Value} (h : w.ownsRow base e size v n xs) (f : Fr S w w') (hS : ∀ x ∈ S, x < base) : w'.ownsRow base e size v n xs := by
  refine ⟨h.1, ?_⟩
  rcases h.2 with q | ⟨g, cap, cur, q1, q2, q3, q4⟩
  · exact Or.inl q
  · exact Or.inr ⟨g, cap, cur, q1, q2, f.heap q3 (fun hx => by have := hS g hx; omega), q4⟩
theorem own_ge {w : World} {base : Nat} {e : TypeId} {size : Nat} {v : Value} {n : Nat} {xs : List Value} (h : w.ownsRow base e size v n xs) : ∀ x ∈ v.ownBlock.toList, base ≤ x := by
  rcases h.2 with ⟨rfl, _⟩ | ⟨g, cap, cur, rfl, q2, _⟩
  · intro x hx; simp [Value.ownBlock] at hx
  · intro x hx; simp [Value.ownBlock] at hx; omega
theorem grown_fr {w w' : World} {row : Option Nat} (h : w.grownBy w' row) : Fr row.toList w w' :=
  ⟨h.os, h.tape, h.output, h.size, fun k hk hS => h.block k hk (fun e => hS (by rw [← e]; simp))⟩
theorem fcells_one (f : Fm) : fcells [f] = f.cells := rfl
theorem fcells_app : ∀ (l m : List Fm), fcells (l ++ m) = fcells l ++ fcells m
  | [], _ => rfl
  | f :: r, m => by simp [fcells, fcells_app r m]
theorem fcells_take {l : List Fm} {k : Nat} {f : Fm} (h : l[k]? = some f) : fcells (l.take k) ++ f.cells = fcells (l.take (k + 1)) := by
  rw [List.take_add_one, h, fcells_app]; rfl
theorem row_cell {w : World} {g : Nat} {cur : Array Value} {T : TypeId} {l : List Fm} (hg : w.heap[g]? = some (.cells cur T)) (hc : cur.toList.take (l.length * 5) = fcells l) {i : Nat} {f : Fm} (hi : l[i]? = some f) (j : Nat) (hj : j < 5) : w.cell? ⟨g, i * 5 + j, none⟩ = f.cells[j]? := by
  have hil : i < l.length := (List.getElem?_eq_some_iff.1 hi).1
  rw [blk_cell hg, ← fcells_get l i j f hi hj, ← hc, List.getElem?_take, if_pos (by omega)]
  simp

theorem frame_new (w : World) (f : Fm) (T : TypeId) (q : Nat) (hq : q = w.heap.size) : ∀ (j : Nat) (u : Value), f.cells[j]? = some u → (w.alloc (.cells #[.int .i64 f.s, .int .i64 f.b, .int .i64 f.g, .int .i64 f.p, .int .u64 f.v] T)).cell? ((⟨q, 0, none⟩ : Addr).add j) = some u := by
  subst hq
  intro j u hj
  rw [Addr.add_mid, blk_cell (heap_alloc_new w _)]
  simpa [Fm.cells] using hj
theorem frame_one (f : Fm) : ∀ u ∈ f.cells, u.oneCell' = true := by
  intro u hu
  simp [Fm.cells] at hu
  rcases hu with rfl | rfl | rfl | rfl | rfl <;> rfl

def KeepS (s0 bp bf : Nat) (m m' l l' : List Fm) (w0 : World) (b : Nat → Bool) (w : World) : Prop := NewStep s0 m m' b w ∧ PoolAt pT w bp bf (bif b 7 then l' else l) ∧ Fr [bf] w0 w

set_option maxRecDepth 100000 in
set_option maxHeartbeats 8000000 in
theorem pkeeps_any (n : Int) (A : Option Addr) (len cap : Nat) (n0 : 0 ≤ n) (n1 : n ≤ 255) (hn : len ≤ maxLen) (w : World) (hA : IntsAt w [.i64, .i64, .i64, .u64] A len) :
    Calls Try.prog 10 #[.int .u8 n, .slice A len cap] w fun e w' => e = .returned (.bool true) ∧ Fr [] w w' := by
  obtain ⟨K, hK⟩ : ∃ K : Nat, (K : Int) = 1 + n % 64 := ⟨(1 + n % 64).toNat, by omega⟩
  have k1 : 1 ≤ K := by omega
  have k2 : K ≤ 64 := by omega
  have HK := Lib.hid hK
  have HKs := Lib.hid hK.symm
  obtain ⟨b, off, F, hb, hF⟩ := hA
  have HB := Lib.hid hb
  have HF := Lib.hid hF
  have hn' : len ≤ 9223372036854775807 := by simpa [maxLen] using hn
  have fol : Try.prog.follows .mixedOrders = true := by kernel_rfl
  obtain ⟨ti, hti, htz, hts, htb⟩ := info_parts (P := Try.prog) (e := 59) (z := .agg #[.int .i64 0, .int .i64 0, .int .i64 0, .int .i64 0, .int .u64 0]) (size := 5) (bytes := 40) (by kernel_rfl)
  have HT := Lib.hid (And.intro hti (And.intro htz (And.intro hts htb)))
  clear hb hF hn hK hti htz hts htb
  go_enter Try.func10, Try.ntmps10
  go_wp2_with (first
    | (go_at_call 25; (with_reducible refine (pawake _).mono ?_); rintro e w1 ⟨rfl, f1⟩)
    | (go_at_call 26; (with_reducible refine (pnewc (1 + n % 64) K HKs.out k1 k2).mono ?_); rintro e w2 ⟨rfl, P2, f2⟩; have F2 : Fr [] w w2 := Fr.trans f1 f2))
  have B1 : w.heap.size ≤ w1.heap.size := f1.size
  have B0 : w1.heap.size + 1 < w2.heap.size := P2.lt.1
  generalize hbp : w1.heap.size + 1 = bp at *
  generalize hbf : w1.heap.size = bf at *
  have B2 : Hid (w.heap.size ≤ bf ∧ bp = bf + 1) := ⟨by omega, by omega⟩
  clear B1 B0 hbp hbf f1 f2
  go_loopw [8] (fun v w' => ∃ (i : Nat) (l : List Fm), v = .int .i64 i ∧ i ≤ len ∧ i ≤ 100 ∧ l.length = K ∧ Sane i l ∧ PoolAt pT w' bp bf l ∧ Fr [] w w') (fun v _ => 101 - (intOf v).toNat)
  case atStart => exact ⟨0, List.replicate K fm0, rfl, by omega, by omega, by simp, replicate_sane (by simp) k2, P2, F2⟩
  case round =>
    clear P2 F2
    obtain ⟨i, l, rfl, i1, i2, hl, hs, P3, F3⟩ := hrel
    by_cases hi : i < len ∧ i < 100
    · obtain ⟨hi1, hi2⟩ := hi
      obtain ⟨rfl, hb⟩ := HB.out (by omega)
      obtain ⟨m0, _⟩ := HF.out i hi1 0 _ rfl
      obtain ⟨m1, _⟩ := HF.out i hi1 1 _ rfl
      obtain ⟨m2, _⟩ := HF.out i hi1 2 _ rfl
      obtain ⟨m3, _⟩ := HF.out i hi1 3 _ rfl
      simp only [List.length_cons, List.length_nil, Nat.reduceAdd, Nat.add_zero] at m0 m1 m2 m3
      generalize F i 0 = y0 at *
      generalize F i 1 = y1 at *
      generalize F i 2 = y2 at *
      generalize F i 3 = y3 at *
      have HS := Lib.hid hs
      have HS2 := Lib.hid (actL_sane hs (by omega) y0 y1 y2 y3)
      have HL2 := Lib.hid ((actL_len (l := l) y0 y1 y2 y3).trans hl)
      have HREL : Hid (∀ (j : Nat) (f f2 : Fm), l[j]? = some f → (actL l y0 y1 y2 y3)[j]? = some f2 → KeepsRel f f2) := fun j f f2 h1 h2 => keeps_act hs y0 y1 y2 y3 h1 h2
      have HR0 : Hid (Sane (i : Int) (List.replicate K fm0)) := replicate_sane (by omega) k2
      generalize hg : actL l y0 y1 y2 y3 = l2 at *
      obtain ⟨mm, hg2⟩ : ∃ mm, actL (List.replicate K fm0) y0 y1 y2 y3 = mm := ⟨_, rfl⟩
      have HG := Lib.hid hg
      have HG2 := Lib.hid hg2
      have M := Lib.hid (And.intro m0 (And.intro m1 (And.intro m2 m3)))
      have HL := Lib.hid hl
      have PL := P3.lt
      have B4 : Hid (w.heap.size ≤ wr.heap.size ∧ bp < wr.heap.size ∧ bf < wr.heap.size) := ⟨F3.size, PL.1, PL.2⟩
      clear m0 m1 m2 m3 hs hg hg2 PL
      go_wp2_with fail
      generalize hB : wr.heap.size = B at *
      have S3 : Hid (B ≤ wr.heap.size) := by unfold Hid; omega
      have F3' := F3
      go_loopw [9, 10] (fun u v w' => ∃ j : Nat, v = .int .i64 j ∧ j ≤ K ∧ w'.ownsRow B 59 5 u j (fcells (l.take j)) ∧ PoolAt pT w' bp bf l ∧ Fr [] w w' ∧ B ≤ w'.heap.size) (fun _ v _ => K - (intOf v).toNat)
      case atStart => exact ⟨0, rfl, by omega, ⟨rfl, Or.inl ⟨rfl, rfl⟩⟩, P3, F3, S3.out⟩
      case round =>
        clear F3 F3' P3
        obtain ⟨j, rfl, j1, O3, P4, F4, S4⟩ := hrel
        by_cases hj : j < K
        · have hjl : j < l.length := by have := HL.out; omega
          obtain ⟨f, hf⟩ : ∃ f, l[j]? = some f := ⟨l[j], by simp [hjl]⟩
          have HI := Lib.hid hf
          have HK2 := HK.out
          go_wp2_with (first
            | (go_at_call 33; (with_reducible refine (pframe_ok bp bf l j f HI.out _ P4).mono ?_); rintro e w5 ⟨rfl, f5⟩; have F5 := F4.trans f5; have P5 := P4.fr f5 (by simp) (by simp); have O5 := ownsRow_fr O3 f5 (by simp); have S5 := Nat.le_trans S4 f5.size; clear P4 F4 f5 O3)
            | (at_builtin; refine wpList_append_own_at _ rfl (.tmp 51) (.tmp 53) 62 rfl B 59 ti (.agg #[.int .i64 0, .int .i64 0, .int .i64 0, .int .i64 0, .int .u64 0]) 5 40 Try.underlying62 HT.out.1 HT.out.2.1 HT.out.2.2.1 HT.out.2.2.2 rfl (by decide) _ _ _ rfl (ownsRow_fr (S := []) O5 (by repeat' (first | (with_reducible exact Fr.refl _ _) | (with_reducible assumption) | (with_reducible refine Fr.drew ?_) | (with_reducible refine Fr.drewN ?_ _) | (with_reducible refine Fr.alloc ?_ _) | ((with_reducible refine Fr.setNew ?_ _ ?_ _); rotate_left; (focus (first | (with_reducible assumption) | exact Nat.le_of_lt (by with_reducible assumption) | (focus (simp +arith; done)) | exact Nat.le_trans (by with_reducible assumption) (by simp +arith; done) | (simp; done)))) | ((with_reducible refine Fr.setOld ?_ _ ?_ _); rotate_left; (focus (simp; done))))) (by simp)) ⟨w5.heap.size + 1, 0, none⟩ 1 1 f.cells rfl rfl (frame_new _ _ _ _ (by simp)) (frame_one f) (by unfold maxLen; omega) (by omega) (by simp; omega) ?_; intro v' w6 hown hgrow hnil hat))
          clear hnil hat
          rw [fcells_take HI.out] at hown
          have ge := own_ge O5
          have fg := grown_fr hgrow
          have B5 := B4.out
          have P6 := (P5.fr (S := []) (w' := _) (by repeat' (first | (with_reducible exact Fr.refl _ _) | (with_reducible assumption) | (with_reducible refine Fr.drew ?_) | (with_reducible refine Fr.drewN ?_ _) | (with_reducible refine Fr.alloc ?_ _) | ((with_reducible refine Fr.setNew ?_ _ ?_ _); rotate_left; (focus (first | (with_reducible assumption) | exact Nat.le_of_lt (by with_reducible assumption) | (focus (simp +arith; done)) | exact Nat.le_trans (by with_reducible assumption) (by simp +arith; done) | (simp; done)))) | ((with_reducible refine Fr.setOld ?_ _ ?_ _); rotate_left; (focus (simp; done))))) (by simp) (by simp)).fr fg (fun hx => by have := ge _ hx; omega) (fun hx => by have := ge _ hx; omega)
          have F6 : Fr [] w w6 := Fr.trans' (S := []) (S' := u9.ownBlock.toList) (by repeat' (first | (with_reducible exact Fr.refl _ _) | (with_reducible assumption) | (with_reducible refine Fr.drew ?_) | (with_reducible refine Fr.drewN ?_ _) | (with_reducible refine Fr.alloc ?_ _) | ((with_reducible refine Fr.setNew ?_ _ ?_ _); rotate_left; (focus (first | (with_reducible assumption) | exact Nat.le_of_lt (by with_reducible assumption) | (focus (simp +arith; done)) | exact Nat.le_trans (by with_reducible assumption) (by simp +arith; done) | (simp; done)))) | ((with_reducible refine Fr.setOld ?_ _ ?_ _); rotate_left; (focus (simp; done))))) fg (fun x hx => Or.inr (by have := ge _ hx; omega))
          have S6 : B ≤ w6.heap.size := Nat.le_trans S5 (Nat.le_trans (by simp; omega) fg.size)
          go_roundw
          case rel => exact ⟨j + 1, by go_num, by omega, hown, P6, F6, S6⟩
          case measure => simp [intOf]; omega
        · have hj' : j = K := by omega
          subst hj'
          have O4 := O3
          rw [← HL.out, List.take_length] at O4
          clear O3 hj
          obtain ⟨g, cp, cur, rfl, gB, hgr, gcp, _, _, hcur⟩ : ∃ g cp cur, u9 = .slice (some ⟨g, 0, none⟩) j cp ∧ B ≤ g ∧ _ := by
            rcases O4.2 with ⟨_, q⟩ | ⟨g, cp, cur, q1, q2, q3⟩
            · have := HL.out; omega
            · exact ⟨g, cp, cur, by rw [q1, HL.out], q2, q3⟩
          have HD : Hid (Apart bp bf (wr.heap.size + 1) wr.heap.size) := by
            have := P4.lt; exact ⟨by omega, by omega, by omega⟩
          have HP4 := Lib.hid P4
          have HG4 := Lib.hid hgr
          have HF4 := Lib.hid F4
          have HK2 := HK.out
          clear P4 F4 hgr O4
          go_wp2_with fail
          clear HK2
          refine wp_region_seqB_lit (KeepS wr.heap.size bp bf (List.replicate j fm0) mm l l2 wr) fol (by kernel_rfl)
            ⟨⟨fun _ => ⟨rfl, rfl⟩, fun h => by cases h⟩, HP4.out.fr (S := []) (Fr.drew (Fr.refl _ _)) (by simp) (by simp), (Fr.refl _ _).drew⟩ ?_
          (repeat (apply SeqB.cons; (focus (intro bv wv hbv hdv hSv; obtain ⟨s1, s2, s4⟩ := hSv; have s5 := Fr.trans' HF4.out s4 (by have := B4.out; have := B2.out; simp; omega); have c0 := (s5.cell (off := off + i * 4) hb).trans M.out.1; have c1 := (s5.cell (off := off + i * 4 + 1) hb).trans M.out.2.1; have c2 := (s5.cell (off := off + i * 4 + 2) hb).trans M.out.2.2.1; have c3 := (s5.cell (off := off + i * 4 + 3) hb).trans M.out.2.2.2; clear s5; go_wp2_with (first
            | (go_at_call 27; have hb2 : bv 2 = false := (by simpa using hbv); have hsz := s1.1 hb2; (with_reducible refine (rnewd (1 + n % 64) j wr.heap.size HKs.out k2 hsz.1).mono ?_); rintro e w5 ⟨rfl, r5, f5⟩; have hb7 := hsz.2; have s1 : NewStep wr.heap.size (List.replicate j fm0) mm (fun j => if j = 2 then true else bv j) w5 := ⟨fun h => (by simp at h), fun _ => (by simpa [hb7] using r5)⟩; have s2 := s2.fr f5 (by simp) (by simp); have s4 := s4.trans (f5.mono (by simp)))
            | (go_at_call 28; have hb7 : bv 7 = false := (by simpa using hbv); have hb2 : bv 2 = true := hdv { on := 2, ground := .data } (by simp) rfl; have r4 := s1.2 hb2; rw [hb7] at r4 s2; (with_reducible refine (pstepf l2 mm y0 y1 y2 y3 HG.out HG2.out HS.out HR0.out (by omega) s2 r4 HD.out).mono ?_); rintro e w5 ⟨rfl, q5, r5, f5⟩; have s1 : NewStep wr.heap.size (List.replicate j fm0) mm (fun j => if j = 7 then true else bv j) w5 := ⟨fun h => (by simp [hb2] at h), fun _ => (by simpa using r5)⟩; have s2 := q5; have s4 := Fr.trans' s4 f5 (by simp))); exact StepPost.mk rfl ⟨by simpa [NewStep] using s1, by simpa using s2, s4⟩)); (try simp only [Act.put, List.setIfInBounds_toArray, List.set_cons_zero, List.set_cons_succ])))
          refine SeqB.nil ?_
          intro b5 w5 hb5 hS5
          obtain ⟨s1, P5, f5⟩ := hS5
          rw [hb5 7 (by decide)] at P5
          have F5 : Fr [] w w5 := Fr.trans' HF4.out f5 (by have := B4.out; have := B2.out; simp; omega)
          have g5 := f5.heap HG4.out (by have := B4.out; simp; omega)
          clear s1 hb5 f5 HP4 HG4 HF4
          go_wp2_with fail
          go_loopw [13] (fun v w' => ∃ q : Nat, v = .int .i64 q ∧ q ≤ j ∧ w'.heap[g]? = some (.cells cur 59) ∧ PoolAt pT w' bp bf l2 ∧ Fr [] w w') (fun v _ => j - (intOf v).toNat)
          case atStart => exact ⟨0, rfl, by omega, g5, P5, F5⟩
          case round =>
            clear g5 P5 F5
            obtain ⟨q, rfl, q1, g6, P6, F6⟩ := hrel
            by_cases hq : q < j
            · have hql : q < l.length := by have := HL.out; omega
              have hql2 : q < l2.length := by have := HL2.out; omega
              obtain ⟨f, hf⟩ : ∃ f, l[q]? = some f := ⟨l[q], by simp [hql]⟩
              obtain ⟨f2, hf2⟩ : ∃ f2, l2[q]? = some f2 := ⟨l2[q], by simp [hql2]⟩
              have HI := Lib.hid hf
              have HI2 := Lib.hid hf2
              have rel := HREL.out q f f2 hf hf2
              have ok := HS.out.2 f (List.mem_of_getElem? hf)
              have og := ok.g0
              have oN := ok.gN
              have op := ok.p0
              obtain ⟨r1, r2, r3, r4⟩ := rel
              have hq' : (q : Int) < 1 + n % 64 := by have := HK.out; omega
              have HCUR := Lib.hid hcur
              have hc2 : cur.toList.take (l.length * 5) = fcells l := by first | exact HCUR.out | (rw [HL.out]; exact HCUR.out)
              have HC2 := Lib.hid hc2
              clear hc2
              obtain ⟨fs, fb, fg, fp, fv⟩ := f
              obtain ⟨s2, b2, g2, p2, v2⟩ := f2
              simp only at r1 r2 r3 r4 og oN op
              have hcases : (fp = 0 ∧ g2 = fg) ∨ (fp = 0 ∧ g2 = fg + 1 ∧ fs = 0) ∨ (1 < fp ∧ g2 = fg ∧ b2 = fb ∧ (s2 == 0) = false) ∨ (fp = 1 ∧ g2 = fg ∧ b2 = fb) ∨ (fp = 1 ∧ g2 = fg ∧ (b2 != fb) = true ∧ s2 = 0) := by
                rcases Int.lt_or_le 0 fp with h | h
                · have e1 := r2 h
                  rcases Int.lt_or_le 1 fp with h1 | h1
                  · have e2 := r4 h1
                    exact Or.inr (Or.inr (Or.inl ⟨h1, e1, r3 h e2, by simpa using e2⟩))
                  · by_cases e3 : b2 = fb
                    · exact Or.inr (Or.inr (Or.inr (Or.inl ⟨by omega, e1, e3⟩)))
                    · exact Or.inr (Or.inr (Or.inr (Or.inr ⟨by omega, e1, by simpa using e3, Classical.byContradiction fun e4 => e3 (r3 h e4)⟩)))
                · rcases r1 with e1 | ⟨e1, e2⟩
                  · exact Or.inl ⟨by omega, e1⟩
                  · exact Or.inr (Or.inl ⟨by omega, e1, e2⟩)
              clear r1 r2 r3 r4 hf hf2
              clear HREL HG HG2 M HR0 HB HT HKs hb hi1 hi2 hql hql2 gB gcp HD ok
              repeat (rename_i hst; clear hst)
              rcases hcases with ⟨rfl, rfl⟩ | ⟨rfl, rfl, rfl⟩ | ⟨h1, rfl, rfl, h2⟩ | ⟨rfl, rfl, rfl⟩ | ⟨rfl, rfl, h2, rfl⟩
              all_goals
                go_wp2_with (go_at_call 33; (with_reducible refine (pframe_ok bp bf l2 q _ HI2.out _ P6).mono ?_); rintro e w7 ⟨rfl, f7⟩; have F7 := F6.trans f7; have P7 := P6.fr f7 (by simp) (by simp); have g7 := f7.heap g6 (by simp); clear P6 F6 g6 f7)
                refine wp_name (fun w8 f8 => ?_)
                apply f8.use (k := w7.heap.size); (focus (repeat (first | (with_reducible assumption) | ((with_reducible refine heap_alloc_at ?_ _); first | (with_reducible rfl) | (focus (simp; done))) | (with_reducible apply heap_alloc_old) | ((with_reducible apply heap_set_other); (case hne => (first | (with_reducible assumption) | exact Nat.ne_of_lt (by with_reducible assumption) | exact Nat.ne_of_gt (by with_reducible assumption) | (focus (simp +arith; done)) | (simp; done)))) | (with_reducible apply heap_set_eq) | (with_reducible apply heap_drew_of) | (with_reducible apply heap_drewN_of)))); (focus (first | (simp; done) | (simp; assumption))); intro hg8 hc8 hz8 _ _ _ _ _; (try simp only [List.setIfInBounds_toArray, List.set_cons_zero, List.set_cons_succ] at hg8 hc8)
                have F8 : Fr [] w w8 := Fr.trans (by repeat' (first | (with_reducible exact Fr.refl _ _) | (with_reducible assumption) | (with_reducible refine Fr.drew ?_) | (with_reducible refine Fr.drewN ?_ _) | (with_reducible refine Fr.alloc ?_ _) | ((with_reducible refine Fr.setNew ?_ _ ?_ _); rotate_left; (focus (first | (with_reducible assumption) | exact Nat.le_of_lt (by with_reducible assumption) | (focus (simp +arith; done)) | exact Nat.le_trans (by with_reducible assumption) (by simp +arith; done) | (simp; done)))) | ((with_reducible refine Fr.setOld ?_ _ ?_ _); rotate_left; (focus (simp; done))))) f8
                have G8 : Fr [] w7 w8 := Fr.trans (by repeat' (first | (with_reducible exact Fr.refl _ _) | (with_reducible assumption) | (with_reducible refine Fr.drew ?_) | (with_reducible refine Fr.drewN ?_ _) | (with_reducible refine Fr.alloc ?_ _) | ((with_reducible refine Fr.setNew ?_ _ ?_ _); rotate_left; (focus (first | (with_reducible assumption) | exact Nat.le_of_lt (by with_reducible assumption) | (focus (simp +arith; done)) | exact Nat.le_trans (by with_reducible assumption) (by simp +arith; done) | (simp; done)))) | ((with_reducible refine Fr.setOld ?_ _ ?_ _); rotate_left; (focus (simp; done))))) f8
                have P8 := P7.fr G8 (by simp) (by simp)
                have g8 := G8.heap g7 (by simp)
                clear f8 hc8 hz8 F7 P7 g7 G8
                refine wp_region_seq_lit (fun w' => w'.heap[w7.heap.size]? = some (.cells #[.int .i64 _, .int .i64 _, .int .i64 _, .int .i64 _, .int .u64 _] 59) ∧ w'.heap[g]? = some (.cells cur 59) ∧ PoolAt pT w' bp bf l2 ∧ Fr [] w w') fol (by kernel_rfl) ⟨hg8, g8, P8.fr (S := []) (Fr.drew (Fr.refl _ _)) (by simp) (by simp), F8.drew⟩ ?_
                clear hg8 g8 P8 F8
                (repeat (apply SeqS.cons; (focus (intro wv hSv; obtain ⟨s1, s2, s3, s4⟩ := hSv; apply blk_use s1; intro hg21 hc21 hz21 _ _ _ _ _; have x0 := row_cell s2 HC2.out HI.out 0 (by omega); have x1 := row_cell s2 HC2.out HI.out 1 (by omega); have x2 := row_cell s2 HC2.out HI.out 2 (by omega); have x3 := row_cell s2 HC2.out HI.out 3 (by omega); have x4 := row_cell s2 HC2.out HI.out 4 (by omega); simp [Fm.cells] at x0 x1 x2 x3 x4; go_wp2_with (fail); exact StepPost.mk rfl ⟨s1, s2, s3, s4⟩)); (try simp only [Act.put, List.setIfInBounds_toArray, List.set_cons_zero, List.set_cons_succ])))
                refine SeqS.nil ?_
                intro w9 hS9
                obtain ⟨g9, k9, P9, F9⟩ := hS9
                go_wp2_with fail
                refine wp_region_seq_lit (fun w' => w'.heap[w7.heap.size]? = some (.cells #[.int .i64 _, .int .i64 _, .int .i64 _, .int .i64 _, .int .u64 _] 59) ∧ w'.heap[g]? = some (.cells cur 59) ∧ PoolAt pT w' bp bf l2 ∧ Fr [] w w') fol (by kernel_rfl) ⟨g9, k9, P9.fr (S := []) (Fr.drew (Fr.refl _ _)) (by simp) (by simp), F9.drew⟩ ?_
                clear g9 k9 P9 F9
                (repeat (apply SeqS.cons; (focus (intro wv hSv; obtain ⟨s1, s2, s3, s4⟩ := hSv; apply blk_use s1; intro hg21 hc21 hz21 _ _ _ _ _; have x0 := row_cell s2 HC2.out HI.out 0 (by omega); have x1 := row_cell s2 HC2.out HI.out 1 (by omega); have x2 := row_cell s2 HC2.out HI.out 2 (by omega); have x3 := row_cell s2 HC2.out HI.out 3 (by omega); have x4 := row_cell s2 HC2.out HI.out 4 (by omega); simp [Fm.cells] at x0 x1 x2 x3 x4; go_wp2_with (fail); exact StepPost.mk rfl ⟨s1, s2, s3, s4⟩)); (try simp only [Act.put, List.setIfInBounds_toArray, List.set_cons_zero, List.set_cons_succ])))
                refine SeqS.nil ?_
                intro w10 hS10
                obtain ⟨_, k10, P10, F10⟩ := hS10
                go_wp2
                go_roundw
                case rel => exact ⟨q + 1, by go_num, by omega, k10, P10, F10⟩
                case measure => simp [intOf]; omega
            · have hq' : ¬ (q : Int) < 1 + n % 64 := by have := HK.out; omega
              have HQ2 := HS2.out
              clear hq
              go_wp2
              go_roundw
              case rel => exact ⟨i + 1, l2, by go_num, by omega, by omega, HL2.out, by simpa using HQ2, P6, F6⟩
              case measure => simp [intOf]; omega
    · have hfalse : (decide (i < len) && decide (i < 100)) = false := by
        by_cases q1 : i < len
        · have : ¬ i < 100 := fun q2 => hi ⟨q1, q2⟩
          simp [this]
        · simp [q1]
      clear hi
      by_cases q1 : i < len <;> by_cases q2 : i < 100
      · simp [q1, q2] at hfalse
      all_goals
        clear hfalse
        go_wp2
        go_ret
        exact ⟨rfl, F3⟩

theorem pkeeps_walk (n : Int) (A : Option Addr) (len cap : Nat) (wn : (Lit.int .u8 n).wf = true) (hn : len ≤ maxLen) {w : World} (hA : IntsAt w [.i64, .i64, .i64, .u64] A len) :
    Calls Try.prog 10 #[.int .u8 n, .slice A len cap] w fun e w' => e = .returned (.bool true) ∧ Fr [] w w' :=
  pkeeps_any n A len cap (u8_bounds wn).1 (u8_bounds wn).2 hn w hA

end Go.Proofs.Ytmhdnafdbgbmfaa
