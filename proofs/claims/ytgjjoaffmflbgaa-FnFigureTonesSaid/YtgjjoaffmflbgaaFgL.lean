/- Figures as chords of keys: plain; two slices of pitches compared by the laws. -/
import Derived.Test.YtgjjoaffmflbgaaSFg
import Derived.Test.YtgjjoaffmflbgaaDrF
import Derived.Test.YtgjjoaffmflbgaaInk
import Derived.Test.YtgjjoaffmflbgaaLater
namespace Go.Proofs.Ytgjjoaffmflbgaa
set_option linter.unusedSimpArgs false
set_option linter.unusedVariables false
open Go.RowKit

set_option maxHeartbeats 2000000 in
theorem sp_same (A A' : Option Addr) (n c c' : Nat) (l : List Pi) (w : World) (hn : l.length = n) (hm : n ≤ 2000000) (h : RowPi w w.heap.size A l) (h' : RowPi w w.heap.size A' l) :
    Calls Try.prog 14 #[.slice A n c, .slice A' n c'] w fun e w' => e = .returned (.bool true) ∧ Below w.heap.size w w' := by
  subst hn
  go_enter Try.func14, Try.ntmps14
  go_wp2
  go_loopw [5] (fun i wr => ∃ k : Nat, k ≤ l.length ∧ i = .int .i64 k ∧ Below w.heap.size w wr) (fun i _ => l.length - (intOf i).toNat)
  case atStart => exact ⟨0, Nat.zero_le _, rfl, bel_refl _⟩
  case round =>
    obtain ⟨k, hk, rfl, hb⟩ := hrel
    by_cases hlt : k < l.length
    · obtain ⟨b, off, rfl, hlb, hc⟩ := (h.below hb) (by omega)
      obtain ⟨b', off', rfl, hlb', hc'⟩ := (h'.below hb) (by omega)
      have hck := hc k hlt
      have hck' := hc' k hlt
      generalize atPi l k = x at hck hck'
      obtain ⟨s, a, o⟩ := x
      obtain ⟨p0, p1, p2⟩ := hck
      obtain ⟨q0, q1, q2⟩ := hck'
      simp only at p0 p1 p2 q0 q1 q2
      clear hc hc' h h'
      have hki : (k : Int) < (l.length : Int) := by omega
      have hk0 : (0 : Int) ≤ (k : Int) := by omega
      go_wp2_with fail
      have lf0 : ∀ xL : Later wr, xL.world.cell? ⟨b, off + k * 3, none⟩ = some (.int .i64 s) := fun xL => xL.at (p0)
      have lf1 : ∀ xL : Later wr, xL.world.cell? ⟨b, off + k * 3 + 1, none⟩ = some (.int .i64 a) := fun xL => xL.at (p1)
      have lf2 : ∀ xL : Later wr, xL.world.cell? ⟨b, off + k * 3 + 2, none⟩ = some (.int .i64 o) := fun xL => xL.at (p2)
      have lf3 : ∀ xL : Later wr, xL.world.cell? ⟨b', off' + k * 3, none⟩ = some (.int .i64 s) := fun xL => xL.at (q0)
      have lf4 : ∀ xL : Later wr, xL.world.cell? ⟨b', off' + k * 3 + 1, none⟩ = some (.int .i64 a) := fun xL => xL.at (q1)
      have lf5 : ∀ xL : Later wr, xL.world.cell? ⟨b', off' + k * 3 + 2, none⟩ = some (.int .i64 o) := fun xL => xL.at (q2)
      refine region_later (w0 := wr) (by kernel_rfl) (by kernel_rfl) (bel_refl _) ?_
      repeat (go_big_quiet_step ((fail)))
      refine wpQuiet_nil ?_
      rintro w' ⟨x, rfl⟩
      obtain ⟨w2, b2⟩ := x
      clear lf0 lf1 lf2 lf3 lf4 lf5
      go_wp2
      go_roundw
      case rel => exact ⟨k + 1, by omega, by go_num, by repeat (first | (with_reducible assumption) | (exact bel_undr (by with_reducible assumption)) | (with_reducible exact bel_refl _) | (with_reducible refine bel_dr ?_) | (with_reducible refine bel_drN ?_ _) | (with_reducible refine bel_al ?_ _) | (refine bel_set ?_ (by first | (simp; done) | (simp; exact Below.size (by assumption)) | (simp; omega)) _) | (with_reducible refine bel_tr ?_ (by assumption)))⟩
      case measure => simp [intOf]; omega
    · go_wp2
      go_ret
      exact ⟨rfl, hb⟩
theorem at_appPi_lt {l m : List Pi} {k : Nat} (h : k < l.length) : atPi (l ++ m) k = atPi l k := by
  unfold atPi; rw [List.getD_eq_getElem?_getD, List.getD_eq_getElem?_getD, List.getElem?_append_left h]
theorem at_appPi_end {l : List Pi} {x : Pi} : atPi (l ++ [x]) l.length = x := by
  unfold atPi; rw [List.getD_eq_getElem?_getD, List.getElem?_append_right (Nat.le_refl _)]; simp
theorem at_fgK0 (f pl : Int) (b : Pi) (D : List Int) : ∀ n, atPi (fgK f pl b D n) 0 = b
  | 0 => rfl
  | n + 1 => by unfold fgK; rw [at_appPi_lt (by rw [fgK_len]; omega)]; exact at_fgK0 f pl b D n
theorem at_fgK (f pl : Int) (b : Pi) (D : List Int) : ∀ n k, k < n → atPi (fgK f pl b D n) (k + 1) = kpP f (pl + D.getD k 0)
  | 0, k, h => by omega
  | n + 1, k, h => by
    unfold fgK
    rcases Nat.lt_or_ge k n with c | c
    · rw [at_appPi_lt (by rw [fgK_len]; omega)]; exact at_fgK f pl b D n k c
    · obtain rfl : k = n := by omega
      have e := at_appPi_end (l := fgK f pl b D k) (x := kpP f (pl + D.getD k 0))
      rw [fgK_len] at e
      exact e
theorem stL_up (g : Int) (k : Nat) (h : k + 1 < (stL g).length) : (stL g).getD k 0 < (stL g).getD (k + 1) 0 := by
  rcases stL_cases g with ⟨_, e⟩ | ⟨_, e⟩ | ⟨_, e⟩ | ⟨_, e⟩ | ⟨_, e⟩ <;> rw [e] at h ⊢
  · rcases (show k = 0 from by simp at h; omega) with rfl; decide
  · rcases (show k = 0 from by simp at h; omega) with rfl; decide
  · rcases (show k = 0 from by simp at h; omega) with rfl; decide
  · rcases (show k = 0 ∨ k = 1 from by simp at h; omega) with rfl | rfl <;> decide
  · simp at h
def plT (t : Pi) : Int := 7 * t.octave + t.step
theorem fg_step {f : Int} {b : Pi} {g : Int} {L : List Pi} (hP : fgP f b g) (hL : fgL f b g = L) {m : Nat} (hm : m + 1 < L.length) :
    ikB f (atPi L (m + 1)).step (atPi L (m + 1)).alter (atPi L (m + 1)).octave = true ∧ pvQ (atPi L (m + 1)) ∧ pvQ (atPi L m) ∧ plT (atPi L m) < plT (atPi L (m + 1)) := by
  obtain ⟨h1, h2, h3, h4⟩ := hP
  rw [fg_yes ⟨h1, h2, h3, h4⟩] at hL
  subst hL
  rw [fgK_len] at hm
  have hst := stL_ok g
  have kp : ∀ k, k < (stL g).length → plT (kpP f (plI b + (stL g).getD k 0)) = plI b + (stL g).getD k 0 := fun k hk => by unfold plT kpP; simp only; omega
  rw [at_fgK f (plI b) b (stL g) _ m (by omega)]
  have hq := h4 m (by omega)
  refine ⟨?_, hq, ?_, ?_⟩
  · unfold pvQ at hq
    unfold ikB
    rw [hq, decide_eq_true h1]
    simp [kpP]
  · cases m with
    | zero => rw [at_fgK0]; exact h2
    | succ m => rw [at_fgK f (plI b) b (stL g) _ m (by omega)]; exact h4 m (by omega)
  · rw [kp m (by omega)]
    cases m with
    | zero =>
      rw [at_fgK0]
      have := hst.2 0 (by omega)
      have e : plT b = plI b := rfl
      omega
    | succ m =>
      rw [at_fgK f (plI b) b (stL g) _ m (by omega), kp m (by omega)]
      have := stL_up g m (by omega)
      omega
theorem fg_head {f : Int} {b : Pi} {g : Int} {L : List Pi} (hP : fgP f b g) (hL : fgL f b g = L) : atPi L 0 = b ∧ ((g = 5 ∧ L.length = 3) ∨ (g = 6 ∧ L.length = 3) ∨ (g = 4 ∧ L.length = 3) ∨ (g = 7 ∧ L.length = 4)) := by
  have h3 := hP.2.2.1
  rw [fg_yes hP] at hL
  subst hL
  refine ⟨at_fgK0 _ _ _ _ _, ?_⟩
  rw [fgK_len]
  rcases stL_cases g with ⟨h, e⟩ | ⟨h, e⟩ | ⟨h, e⟩ | ⟨h, e⟩ | ⟨h, e⟩ <;> rw [e] at h3 ⊢
  · exact .inl ⟨h, rfl⟩
  · exact .inr (.inl ⟨h, rfl⟩)
  · exact .inr (.inr (.inl ⟨h, rfl⟩))
  · exact .inr (.inr (.inr ⟨h, rfl⟩))
  · simp at h3
end Go.Proofs.Ytgjjoaffmflbgaa
