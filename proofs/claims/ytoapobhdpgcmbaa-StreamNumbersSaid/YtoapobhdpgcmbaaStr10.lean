/- Package stream: what an access makes of a tracker, in plain lists; what always holds. -/
import Derived.Test.YtoapobhdpgcmbaaStr9
namespace Go.Proofs.Ytoapobhdpgcmbaa
open Go.RowKit Go.Lib

/-- What a tracker is made of. -/
structure Prm where
  most : Int
  size : Int
  life : Int
  deg : Int
  blk : Int
structure Prm.Ok (P : Prm) : Prop where
  mo : 1 ≤ P.most ∧ P.most ≤ 16
  si : 1 ≤ P.size ∧ P.size ≤ 32
  li : 1 ≤ P.life ∧ P.life ≤ 64
  dg : 1 ≤ P.deg ∧ P.deg ≤ 16
  bl : 1 ≤ P.blk ∧ P.blk ≤ 256
/-- What an access is answered (stream, first, count, code) and leaves. -/
structure AR where
  id : Int
  af : Int
  an : Int
  cd : Int
  s : TS
def accQ (P : Prm) (c : Int) (R : Bool × Nat × TS) : AR :=
  if R.1 = true then (match R.2.2.xs[R.2.1]? with
    | some x => ⟨x.id, arF x.nx x.ah x.gg c P.blk, arC x.nx x.ah x.pp x.gg c P.deg P.blk, 0, accT P.deg P.blk c R⟩
    | none => ⟨0, 0, 0, 0, accT P.deg P.blk c R⟩) else ⟨0, 0, 0, 0, accT P.deg P.blk c R⟩
def badA (P : Prm) (f c : Int) : Prop := c < 1 ∨ 8 < c ∨ f < 0 ∨ P.blk - c < f
instance (P : Prm) (f c : Int) : Decidable (badA P f c) := by unfold badA; infer_instance
def accR (P : Prm) (f c : Int) (s : TS) : AR := if badA P f c then ⟨0, 0, 0, 1, s⟩ else accQ P c (accM P.most P.size P.life f c s)

/-- What holds of each tracker. -/
structure SOk (P : Prm) (s : TS) : Prop where
  len : (s.xs.length : Int) ≤ P.most
  may : ∀ x ∈ s.xs, amayB x.nx x.ah x.pp x.gg P.deg P.blk = true
  ids : s.xs.Pairwise (fun a b => a.id < b.id)
  idl : ∀ x ∈ s.xs, 1 ≤ x.id ∧ x.id ≤ s.la
  use : ∀ x ∈ s.xs, 1 ≤ x.us ∧ x.us ≤ s.us
  tap : TapOk P.size (s.L, s.E)
  cl : s.L ≤ s.us
  la0 : 0 ≤ s.la
  lau : s.la ≤ s.us
theorem SOk.new (P : Prm) (h : P.Ok) : SOk P ⟨[], 0, 0, 0, []⟩ :=
  ⟨by have := h.mo; simp; omega, by simp, by simp, by simp, by simp, TapOk.new _ (by have := h.si; omega), by simp, by simp, by simp⟩

/-- What a reading makes of a pace. -/
theorem rd_facts {n a p g c d b : Int} (hm : amayB n a p g d b = true) (h1 : 1 ≤ c) (h2 : c ≤ 8) (hr : n + c ≤ b) :
    amayB (n + c) (arA n a c + arC n a p g c d b) (arP n a p c d) g d b = true ∧ 0 ≤ arC n a p g c d b ∧ arC n a p g c d b ≤ d ∧
    (0 < arC n a p g c d b → arF n a g c b = arA n a c ∧ n + c ≤ arA n a c ∧ arA n a c ≤ b - arC n a p g c d b) := by
  rw [amayB_iff] at hm ⊢
  have hA : n + c ≤ arA n a c ∧ arA n a c ≤ b := by unfold arA; omega
  have hP : p ≤ arP n a p c d ∧ arP n a p c d ≤ d := by unfold arP; split <;> omega
  have hC : 0 ≤ arC n a p g c d b ∧ arC n a p g c d b ≤ d ∧ arC n a p g c d b ≤ b - arA n a c := by unfold arC; split <;> omega
  refine ⟨⟨hm.1, hm.2.1, by omega, by omega, by omega, by omega⟩, hC.1, hC.2.1, fun h => ⟨?_, hA.1, by omega⟩⟩
  unfold arF
  have : arA n a c - (n + c) ≤ g := by
    by_cases e : arA n a c - (n + c) ≤ g
    · exact e
    · exfalso; unfold arC at h; rw [if_neg e] at h; omega
  rw [if_pos ⟨this, by omega⟩]

/-- The three ways of an access that may be. -/
inductive AccWay (P : Prm) (f c : Int) (s : TS) : AR → Prop where
  | old (i : Nat) (x : Str) : s.xs[i]? = some x → x.nx = f → fndS f s.xs = i → AccWay P f c s ⟨x.id, arF x.nx x.ah x.gg c P.blk, arC x.nx x.ah x.pp x.gg c P.deg P.blk, 0, ⟨s.xs.set i (rdS P.deg P.blk c (s.us + 1) x), s.us + 1, s.la, s.L, s.E⟩⟩
  | new : fndS f s.xs = -1 → lookB P.life f c (s.L, s.E) = true → AccWay P f c s ⟨s.la + 1, arF f f 0 c P.blk, arC f f 1 0 c P.deg P.blk, 0, ⟨begX P.most s.xs ++ [rdS P.deg P.blk c (s.us + 1) ⟨s.la + 1, f, f, 1, 0, 0⟩], s.us + 1, s.la + 1, (lookE P.size P.life f c (s.L, s.E)).1, (lookE P.size P.life f c (s.L, s.E)).2⟩⟩
  | no : fndS f s.xs = -1 → lookB P.life f c (s.L, s.E) = false → AccWay P f c s ⟨0, 0, 0, 0, ⟨s.xs, s.us + 1, s.la, (lookE P.size P.life f c (s.L, s.E)).1, (lookE P.size P.life f c (s.L, s.E)).2⟩⟩
theorem modify_set (xs : List Str) (i : Nat) (x : Str) (g : Str → Str) (hx : xs[i]? = some x) : xs.modify i g = xs.set i (g x) := by
  apply List.ext_getElem?
  intro k
  rw [List.getElem?_modify, List.getElem?_set]
  have hil := (List.getElem?_eq_some_iff.1 hx).1
  by_cases e : i = k
  · have hXe := (List.getElem?_eq_some_iff.1 hx).2
    subst e; simp [hil, hXe]
  · simp [e]
theorem fndS_lt (f : Int) (xs : List Str) : -1 ≤ fndS f xs ∧ fndS f xs < xs.length := bestF_lt _ _ xs xs.length
theorem accQ_way (P : Prm) (f c : Int) (s : TS) : AccWay P f c s (accQ P c (accM P.most P.size P.life f c s)) := by
  obtain ⟨f1, f2⟩ := fndS_lt f s.xs
  by_cases h0 : 0 ≤ fndS f s.xs
  · have hi : fndS f s.xs = ((fndS f s.xs).toNat : Nat) := by omega
    obtain ⟨x, hx, hm⟩ := bestF_may _ _ hi
    unfold accM accQ accT
    rw [if_pos h0]
    simp only [if_true]
    rw [hx, modify_set _ _ x _ hx]
    exact .old _ x hx (by simpa using hm) hi
  · by_cases h1 : lookB P.life f c (s.L, s.E) = true
    · unfold accM accQ accT
      rw [if_neg h0, if_pos h1]
      simp only [if_true]
      have hx : (begX P.most s.xs ++ [(⟨s.la + 1, f, f, 1, 0, 0⟩ : Str)])[(begX P.most s.xs).length]? = some ⟨s.la + 1, f, f, 1, 0, 0⟩ := by simp
      rw [hx, modify_set _ _ _ _ hx, List.set_append_right _ _ (Nat.le_refl _), Nat.sub_self]
      exact .new (by omega) h1
    · unfold accM accQ accT
      rw [if_neg h0, if_neg h1]
      exact .no (by omega) (by simpa using h1)
theorem accR_way {P : Prm} {f c : Int} (s : TS) (h : ¬ badA P f c) : AccWay P f c s (accR P f c s) := by
  unfold accR; rw [if_neg h]; exact accQ_way P f c s
theorem begX_sub (m : Int) (xs : List Str) : (begX m xs).Sublist xs := by
  unfold begX; split
  · exact List.eraseIdx_sublist _ _
  · exact List.Sublist.refl _
theorem begX_len {m : Int} {xs : List Str} (hm : 1 ≤ m) (h : (xs.length : Int) ≤ m) : ((begX m xs).length : Int) + 1 ≤ m := by
  unfold begX; split
  · rename_i e
    obtain ⟨i, h1, h2⟩ := oldS_lt (xs := xs) (by rintro rfl; simp at e; omega)
    rw [h1, List.length_eraseIdx, if_pos (by simpa using h2)]
    omega
  · omega
theorem rdS_mem {P : Prm} {c us : Int} {x : Str} (h1 : 1 ≤ c) (h2 : c ≤ 8) (hr : x.nx + c ≤ P.blk) (hm : amayB x.nx x.ah x.pp x.gg P.deg P.blk = true) :
    amayB (rdS P.deg P.blk c us x).nx (rdS P.deg P.blk c us x).ah (rdS P.deg P.blk c us x).pp (rdS P.deg P.blk c us x).gg P.deg P.blk = true := (rd_facts hm h1 h2 hr).1
theorem new_may {P : Prm} (h : P.Ok) {f : Int} (h0 : 0 ≤ f) (h1 : f ≤ P.blk) : amayB f f 1 0 P.deg P.blk = true := by
  have := h.dg; have := h.bl
  exact (amayB_iff _ _ _ _ _ _).2 ⟨by omega, by omega, by omega, by omega, by omega, by omega⟩
theorem mem_set {xs : List Str} {i : Nat} {x y : Str} (h : y ∈ xs.set i x) : y ∈ xs ∨ y = x := List.mem_or_eq_of_mem_set h
theorem ids_set {xs : List Str} {i : Nat} {x y : Str} (hx : xs[i]? = some x) (e : y.id = x.id) (h : xs.Pairwise (fun a b => a.id < b.id)) : (xs.set i y).Pairwise (fun a b => a.id < b.id) := by
  have : (xs.set i y).map Str.id = xs.map Str.id := by
    apply List.ext_getElem?
    intro k
    rw [List.getElem?_map, List.getElem?_map, List.getElem?_set]
    have hil := (List.getElem?_eq_some_iff.1 hx).1
    by_cases q : i = k
    · subst q; rw [hx]; simp [hil, e]
    · simp [q]
  have h2 : (xs.map Str.id).Pairwise (· < ·) := List.pairwise_map.2 h
  rw [← this] at h2
  exact List.pairwise_map.1 h2
theorem SOk.way {P : Prm} (hP : P.Ok) {f c : Int} {s : TS} {r : AR} (hb : ¬ badA P f c) (h : SOk P s) (hw : AccWay P f c s r) : SOk P r.s := by
  have hb' := hb
  unfold badA at hb
  obtain ⟨a1, a2, a3, a4, a5, a6, a7, a8, a9⟩ := h
  have hmo := hP.mo
  cases hw with
  | old i x hx hn hf =>
    refine ⟨by simpa using a1, fun y hy => ?_, ids_set hx rfl a3, fun y hy => ?_, fun y hy => ?_, a6, by simp only; omega, a8, by simp only; omega⟩
    · rcases mem_set hy with hy | rfl
      · exact a2 y hy
      · exact rdS_mem (by omega) (by omega) (by omega) (a2 x (List.mem_of_getElem? hx))
    · rcases mem_set hy with hy | rfl
      · exact a4 y hy
      · exact a4 x (List.mem_of_getElem? hx)
    · rcases mem_set hy with hy | rfl
      · have := a5 y hy; simp only; omega
      · have := a5 x (List.mem_of_getElem? hx); simp only [rdS]; omega
  | new hf hl =>
    have sub := begX_sub P.most s.xs
    refine ⟨by have := begX_len hmo.1 a1; simp; omega, fun y hy => ?_, ?_, fun y hy => ?_, fun y hy => ?_, a6.look (by have := hP.si; omega), by have := lookE_le P.size P.life f c s.L s.E; simp only; omega, by simp only; omega, by simp only; omega⟩
    · rcases List.mem_append.1 hy with hy | hy
      · exact a2 y (sub.subset hy)
      · rw [List.mem_singleton] at hy; subst hy
        exact rdS_mem (x := ⟨s.la + 1, f, f, 1, 0, 0⟩) (by omega) (by omega) (by simp only; omega) (new_may (f := f) hP (by omega) (by omega))
    · rw [List.pairwise_append]
      refine ⟨a3.sublist sub, List.pairwise_singleton _ _, fun y hy z hz => ?_⟩
      rw [List.mem_singleton] at hz; subst hz
      have := a4 y (sub.subset hy); simp only [rdS]; omega
    · rcases List.mem_append.1 hy with hy | hy
      · have := a4 y (sub.subset hy); simp only; omega
      · rw [List.mem_singleton] at hy; subst hy; simp only [rdS]; omega
    · rcases List.mem_append.1 hy with hy | hy
      · have := a5 y (sub.subset hy); simp only; omega
      · rw [List.mem_singleton] at hy; subst hy; simp only [rdS]; omega
  | no hf hl =>
    exact ⟨a1, a2, a3, a4, fun y hy => by have := a5 y hy; simp only; omega, a6.look (by have := hP.si; omega), by have := lookE_le P.size P.life f c s.L s.E; simp only; omega, a8, by simp only; omega⟩
theorem SOk.acc {P : Prm} (hP : P.Ok) (f c : Int) {s : TS} (h : SOk P s) : SOk P (accR P f c s).s := by
  by_cases hb : badA P f c
  · unfold accR; rw [if_pos hb]; exact h
  · exact h.way hP hb (accR_way s hb)
theorem acc_us (P : Prm) (f c : Int) (s : TS) : (accR P f c s).s.us ≤ s.us + 1 := by
  by_cases hb : badA P f c
  · unfold accR; rw [if_pos hb]; simp only; omega
  · have := accR_way s hb
    generalize accR P f c s = r at *
    cases this <;> exact Int.le_refl _

/-- A stream is told something. -/
def tuneS (late : Bool) (id : Int) (s : TS) : TS := ⟨if late = true then tunLate id s.xs else tunWaste id s.xs, s.us, s.la, s.L, s.E⟩
theorem idxS_some {id : Int} {xs : List Str} (h : 0 ≤ idxS id xs) : ∃ x, xs[(idxS id xs).toNat]? = some x ∧ x.id = id := by
  unfold idxS at *
  cases hf : xs.findIdx? (fun s => decide (s.id = id)) with
  | none => rw [hf] at h; simp at h
  | some i =>
    obtain ⟨hi, h1, _⟩ := List.findIdx?_eq_some_iff_getElem.1 hf
    exact ⟨xs[i], by simp [List.getElem?_eq_getElem hi], by simpa using h1⟩
theorem tune_rule (late : Bool) (id : Int) (s : TS) : (tuneS late id s).xs = s.xs ∨ ∃ (i : Nat) (x : Str), s.xs[i]? = some x ∧ (tuneS late id s).xs = s.xs.set i (if late = true then ⟨x.id, x.nx, x.ah, x.pp, alateG x.pp x.gg, x.us⟩ else ⟨x.id, x.nx, x.ah, awasteP x.pp x.gg, awasteG x.pp x.gg, x.us⟩) := by
  by_cases h : 0 ≤ idxS id s.xs
  · obtain ⟨x, hx, _⟩ := idxS_some h
    refine Or.inr ⟨_, x, hx, ?_⟩
    cases late
    · simp only [tuneS, tunWaste, if_pos h]; exact modify_set _ _ _ _ hx
    · simp only [tuneS, tunLate, if_pos h]; exact modify_set _ _ _ _ hx
  · left
    cases late <;> simp only [tuneS, tunWaste, tunLate, if_neg h] <;> rfl
theorem late_may (n a p g d b : Int) (hm : amayB n a p g d b = true) : amayB n a p (alateG p g) d b = true := by
  have h := (amayB_iff n a p g d b).1 hm
  rw [amayB_iff]
  have hs : asoundB p g = true := (asoundB_iff (by omega)).2 (by omega)
  have : alateG p g = min (g + 1) (p - 1) := by unfold alateG; rw [if_pos hs]; unfold wrap64; omega
  rw [this]; omega
theorem waste_may (n a p g d b : Int) (hm : amayB n a p g d b = true) : amayB n a (awasteP p g) (awasteG p g) d b = true := by
  have h := (amayB_iff n a p g d b).1 hm
  rw [amayB_iff]
  have hc : 1 ≤ p ∧ 0 ≤ g ∧ g < p := by omega
  unfold awasteG awasteP
  simp only [if_pos hc]; omega
theorem SOk.tune {P : Prm} (late : Bool) (id : Int) {s : TS} (h : SOk P s) : SOk P (tuneS late id s) := by
  obtain ⟨a1, a2, a3, a4, a5, a6, a7, a8, a9⟩ := h
  rcases tune_rule late id s with e | ⟨i, x, hx, e⟩
  · exact ⟨by rw [e]; exact a1, by rw [e]; exact a2, by rw [e]; exact a3, by rw [e]; exact a4, by rw [e]; exact a5, a6, a7, a8, a9⟩
  · have hxm := List.mem_of_getElem? hx
    have m := a2 x hxm
    have k1 := a4 x hxm
    have k2 := a5 x hxm
    have q1 := late_may _ _ _ _ _ _ m
    have q2 := waste_may _ _ _ _ _ _ m
    refine ⟨by rw [e]; simpa using a1, ?_, ?_, ?_, ?_, a6, a7, a8, a9⟩
    · rw [e]; intro y hy
      rcases mem_set hy with hy | rfl
      · exact a2 y hy
      · cases late
        · exact q2
        · exact q1
    · rw [e]; exact ids_set hx (by cases late <;> rfl) a3
    · rw [e]; intro y hy
      rcases mem_set hy with hy | rfl
      · exact a4 y hy
      · cases late <;> exact k1
    · rw [e]; intro y hy
      rcases mem_set hy with hy | rfl
      · exact a5 y hy
      · cases late <;> exact k2
end Go.Proofs.Ytoapobhdpgcmbaa
