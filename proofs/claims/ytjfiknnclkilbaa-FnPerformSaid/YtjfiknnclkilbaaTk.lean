/- TickOf of the program (by the library's search) and of the reference. -/
import Derived.Test.YtjfiknnclkilbaaTof
namespace Go.Proofs.Ytjfiknnclkilbaa
open Go.RowKit

set_option maxHeartbeats 1000000 in
theorem tcl_any (A : Option Addr) (n c : Nat) (l : List Tp) (t k : Int) (B1 B2 : Nat) (w : World) (hn : l.length = n) (h : RowTp w w.heap.size A l) (hv : tvB l = true) (c1 : w.cell? ⟨B1, 0, none⟩ = some (.slice A n c)) (c2 : w.cell? ⟨B2, 0, none⟩ = some (.int .i64 t)) (h0 : 0 ≤ k) (h1 : k < 50000) :
    Calls Try.prog 46 #[.int .i64 k, .pointer (some ⟨B1, 0, none⟩), .pointer (some ⟨B2, 0, none⟩)] w fun e w' => e = .returned (.bool (decide (t < timeI l (k + 1)))) ∧ Below w.heap.size w w' := by
  have HV := Lib.hid hv
  clear hv
  go_enter Try.func46, Try.ntmps46
  go_wp2
  have f1 : ∀ x : Later w, x.world.cell? ⟨B1, 0, none⟩ = some (.slice A n c) := fun x => x.at c1
  have f2 : ∀ x : Later w, x.world.cell? ⟨B2, 0, none⟩ = some (.int .i64 t) := fun x => x.at c2
  have s1 : IntKind.i64.wrap (k + 1) = k + 1 := IntWalk.i64_in _ (by omega)
  refine region_later (w0 := w) (by kernel_rfl) (by kernel_rfl) (bel_refl _) ?_
  repeat (go_big_quiet_step ((go_at_call 44; exact later_call (to_any _ _ _ l _ _ hn (h.below (Later.bel _)) HV.out (by omega) (by omega)))))
  refine wpQuiet_nil ?_
  rintro w' ⟨x, rfl⟩
  obtain ⟨w1, b1⟩ := x
  clear f1 f2 s1
  go_wp2
  go_ret
  exact ⟨rfl, b1⟩
set_option maxHeartbeats 2000000 in
theorem search_any (A : Option Addr) (n c : Nat) (l : List Tp) (t : Int) (B1 B2 : Nat) (w : World) (hn : l.length = n) (h : RowTp w w.heap.size A l) (hv : tvB l = true) (c1 : w.cell? ⟨B1, 0, none⟩ = some (.slice A n c)) (c2 : w.cell? ⟨B2, 0, none⟩ = some (.int .i64 t)) (ht : 0 ≤ t) :
    Calls Try.prog 45 #[.int .i64 50000, .func (.func 46) #[] #[.pointer (some ⟨B1, 0, none⟩), .pointer (some ⟨B2, 0, none⟩)]] w fun e w' => e = .returned (.int .i64 (tickI l t)) ∧ Below w.heap.size w w' := by
  have hz := (tvB_of hv).zero
  have HZ := Lib.hid hz
  have HV := Lib.hid hv
  clear hz hv
  go_enter Try.func45, Try.ntmps45
  go_wp2
  go_loopw [5, 6, 7] (fun i j _ wr => ∃ a b : Int, 0 ≤ a ∧ a ≤ b ∧ b ≤ 50000 ∧ i = .int .i64 a ∧ j = .int .i64 b ∧ Hid (timeI l a ≤ t) ∧ Hid (b < 50000 → t < timeI l (b + 1)) ∧ Below w.heap.size w wr) (fun i j _ _ => (intOf j - intOf i).toNat)
  case atStart => exact ⟨0, 50000, by omega, by omega, by omega, rfl, rfl, by rw [HZ.out]; exact ht, fun hh => absurd hh (by omega), bel_refl _⟩
  case round =>
    obtain ⟨a, b, a0, ab, b5, rfl, rfl, H1, H2, hb⟩ := hrel
    by_cases hlt : a < b
    · have m0 : 0 ≤ (a + b) / 2 := by omega
      have m1 : (a + b) / 2 < b := by omega
      have m2 : a ≤ (a + b) / 2 := by omega
      have c1' := keep_tr c1 hb
      have c2' := keep_tr c2 hb
      by_cases hd : t < timeI l ((a + b) / 2 + 1)
      · have HD : Hid (decide (t < timeI l ((a + b) / 2 + 1)) = true) := decide_eq_true hd
        have HN : Hid ((a + b) / 2 < 50000 → t < timeI l ((a + b) / 2 + 1)) := fun _ => hd
        clear hd
        go_wp2_with (go_at_call 46; refine (tcl_any _ _ _ l t _ _ _ _ hn (h.below hb) HV.out c1' c2' m0 (by omega)).mono ?_; rintro e w1 ⟨rfl, b1⟩; rw [HD.out])
        go_roundw
        case rel => exact ⟨a, (a + b) / 2, a0, m2, by omega, by go_num, by go_num, H1, HN, by repeat (first | (with_reducible assumption) | (exact bel_undr (by with_reducible assumption)) | (with_reducible exact bel_refl _) | (with_reducible refine bel_dr ?_) | (with_reducible refine bel_drN ?_ _) | (with_reducible refine bel_al ?_ _) | (refine bel_set ?_ (by first | (simp; done) | (simp; exact Below.size (by assumption)) | (simp; omega)) _) | (with_reducible refine bel_tr ?_ (by assumption)))⟩
        case measure => simp [intOf]; omega
      · have HD : Hid (decide (t < timeI l ((a + b) / 2 + 1)) = false) := decide_eq_false hd
        have HN : Hid (timeI l ((a + b) / 2 + 1) ≤ t) := by show _ ≤ _; omega
        clear hd
        go_wp2_with (go_at_call 46; refine (tcl_any _ _ _ l t _ _ _ _ hn (h.below hb) HV.out c1' c2' m0 (by omega)).mono ?_; rintro e w1 ⟨rfl, b1⟩; rw [HD.out])
        go_roundw
        case rel => exact ⟨(a + b) / 2 + 1, b, by omega, by omega, b5, by go_num, by go_num, HN, H2, by repeat (first | (with_reducible assumption) | (exact bel_undr (by with_reducible assumption)) | (with_reducible exact bel_refl _) | (with_reducible refine bel_dr ?_) | (with_reducible refine bel_drN ?_ _) | (with_reducible refine bel_al ?_ _) | (refine bel_set ?_ (by first | (simp; done) | (simp; exact Below.size (by assumption)) | (simp; omega)) _) | (with_reducible refine bel_tr ?_ (by assumption)))⟩
        case measure => simp [intOf]; omega
    · obtain rfl : a = b := by omega
      have he : tickI l t = a := (tvB_of HV.out).tickI_eq ⟨a0, b5, H1, H2⟩
      have HE := Lib.hid he
      clear he
      go_wp2
      go_ret
      exact ⟨ret_int HE.out.symm, hb⟩
set_option maxHeartbeats 2000000 in
theorem tk_any (A : Option Addr) (n c : Nat) (l : List Tp) (t : Int) (w : World) (hn : l.length = n) (hm : n ≤ 2000000) (h : RowTp w w.heap.size A l) :
    Calls Try.prog 27 #[.slice A n c, .int .i64 t] w fun e w' => e = .returned (.int .i64 (tickOfI l t)) ∧ Below w.heap.size w w' := by
  have h2 := h.below (bel_al (bel_al (bel_refl w) (.cells #[.slice A n c] 25)) (.cells #[.int .i64 t] 3))
  cases hv : tvB l
  · have hr : tickOfI l t = -1 := by unfold tickOfI; rw [if_neg (by rw [hv]; simp)]
    rw [hr]; clear hr
    go_enter Try.func27, Try.ntmps27
    go_wp2_with fail
    refine (tv_val hv _ _ _ _ hn hm h2).mono ?_
    rintro e1 w1 ⟨rfl, b1⟩
    clear hv
    go_wp2
    go_ret
    exact ⟨rfl, by repeat (first | (with_reducible assumption) | (exact bel_undr (by with_reducible assumption)) | (with_reducible exact bel_refl _) | (with_reducible refine bel_dr ?_) | (with_reducible refine bel_drN ?_ _) | (with_reducible refine bel_al ?_ _) | (refine bel_set ?_ (by first | (simp; done) | (simp; exact Below.size (by assumption)) | (simp; omega)) _) | (with_reducible refine bel_tr ?_ (by assumption)))⟩
  · by_cases ht : 0 ≤ t
    · have hr : tickOfI l t = tickI l t := by unfold tickOfI; rw [if_pos ⟨hv, ht⟩]
      rw [hr]; clear hr
      go_enter Try.func27, Try.ntmps27
      go_wp2_with fail
      refine (tv_val hv _ _ _ _ hn hm h2).mono ?_
      rintro e1 w1 ⟨rfl, b1⟩
      have HV := Lib.hid hv
      clear hv
      have c1 : w1.cell? ⟨w.heap.size, 0, none⟩ = some (.slice A n c) := keep_tr (by simp) b1
      have c2 : w1.cell? ⟨w.heap.size + 1, 0, none⟩ = some (.int .i64 t) := keep_tr (by simp) b1
      go_wp2_with fail
      refine (search_any _ _ _ l t _ _ _ hn (h2.below b1) HV.out c1 c2 ht).mono ?_
      rintro e2 w2 ⟨rfl, b2⟩
      clear c1 c2
      go_wp2
      go_ret
      exact ⟨rfl, by repeat (first | (with_reducible assumption) | (exact bel_undr (by with_reducible assumption)) | (with_reducible exact bel_refl _) | (with_reducible refine bel_dr ?_) | (with_reducible refine bel_drN ?_ _) | (with_reducible refine bel_al ?_ _) | (refine bel_set ?_ (by first | (simp; done) | (simp; exact Below.size (by assumption)) | (simp; omega)) _) | (with_reducible refine bel_tr ?_ (by assumption)))⟩
    · have hr : tickOfI l t = -1 := by unfold tickOfI; rw [if_neg (fun c => ht c.2)]
      rw [hr]; clear hr
      go_enter Try.func27, Try.ntmps27
      go_wp2_with fail
      refine (tv_val hv _ _ _ _ hn hm h2).mono ?_
      rintro e1 w1 ⟨rfl, b1⟩
      clear hv
      have c2 : w1.cell? ⟨w.heap.size + 1, 0, none⟩ = some (.int .i64 t) := keep_tr (by simp) b1
      go_wp2
      go_ret
      exact ⟨rfl, by repeat (first | (with_reducible assumption) | (exact bel_undr (by with_reducible assumption)) | (with_reducible exact bel_refl _) | (with_reducible refine bel_dr ?_) | (with_reducible refine bel_drN ?_ _) | (with_reducible refine bel_al ?_ _) | (refine bel_set ?_ (by first | (simp; done) | (simp; exact Below.size (by assumption)) | (simp; omega)) _) | (with_reducible refine bel_tr ?_ (by assumption)))⟩
set_option maxHeartbeats 2000000 in
theorem stk_any (A : Option Addr) (n c : Nat) (l : List Tp) (t : Int) (w : World) (hn : l.length = n) (hm : n ≤ 2000000) (h : RowTp w w.heap.size A l) :
    Calls Try.prog 26 #[.slice A n c, .int .i64 t] w fun e w' => e = .returned (.int .i64 (tickOfI l t)) ∧ Below w.heap.size w w' := by
  cases hv : tvB l
  · have hr : tickOfI l t = -1 := by unfold tickOfI; rw [if_neg (by rw [hv]; simp)]
    rw [hr]; clear hr
    go_enter Try.func26, Try.ntmps26
    go_wp2_with fail
    refine (stv_val hv _ _ _ _ hn hm h).mono ?_
    rintro e1 w1 ⟨rfl, b1⟩
    clear hv
    go_wp2
    go_ret
    exact ⟨rfl, by repeat (first | (with_reducible assumption) | (exact bel_undr (by with_reducible assumption)) | (with_reducible exact bel_refl _) | (with_reducible refine bel_dr ?_) | (with_reducible refine bel_drN ?_ _) | (with_reducible refine bel_al ?_ _) | (refine bel_set ?_ (by first | (simp; done) | (simp; exact Below.size (by assumption)) | (simp; omega)) _) | (with_reducible refine bel_tr ?_ (by assumption)))⟩
  · by_cases ht : 0 ≤ t
    · have hr : tickOfI l t = tickI l t := by unfold tickOfI; rw [if_pos ⟨hv, ht⟩]
      rw [hr]; clear hr
      go_enter Try.func26, Try.ntmps26
      go_wp2_with fail
      refine (stv_val hv _ _ _ _ hn hm h).mono ?_
      rintro e1 w1 ⟨rfl, b1⟩
      have hz := (tvB_of hv).zero
      have HZ := Lib.hid hz
      have HV := Lib.hid hv
      clear hz hv
      have h1 := h.below b1
      go_wp2
      go_loopw [5, 6, 7] (fun i j _ wr => ∃ a b : Int, 0 ≤ a ∧ a ≤ b ∧ b ≤ 50000 ∧ i = .int .i64 a ∧ j = .int .i64 b ∧ Hid (timeI l a ≤ t) ∧ Hid (b < 50000 → t < timeI l (b + 1)) ∧ Below w1.heap.size w1 wr) (fun i j _ _ => (intOf j - intOf i).toNat)
      case atStart => exact ⟨0, 50000, by omega, by omega, by omega, rfl, rfl, by rw [HZ.out]; exact ht, fun hh => absurd hh (by omega), bel_refl _⟩
      case round =>
        obtain ⟨a, b, a0, ab, b5, rfl, rfl, H1, H2, hb⟩ := hrel
        by_cases hlt : a < b
        · have m0 : 0 ≤ (a + b + 1) / 2 := by omega
          have m1 : (a + b + 1) / 2 ≤ b := by omega
          have m2 : a < (a + b + 1) / 2 := by omega
          by_cases hd : timeI l ((a + b + 1) / 2) ≤ t
          · have HN : Hid (timeI l ((a + b + 1) / 2) ≤ t) := hd
            go_wp2_with (go_at_call 43; refine (sto_any _ _ _ l _ _ hn (h1.below hb) HV.out m0 (by omega)).mono ?_; rintro e w2 ⟨rfl, b2⟩)
            go_roundw
            case rel => exact ⟨(a + b + 1) / 2, b, by omega, by omega, b5, by go_num, by go_num, HN, H2, by repeat (first | (with_reducible assumption) | (exact bel_undr (by with_reducible assumption)) | (with_reducible exact bel_refl _) | (with_reducible refine bel_dr ?_) | (with_reducible refine bel_drN ?_ _) | (with_reducible refine bel_al ?_ _) | (refine bel_set ?_ (by first | (simp; done) | (simp; exact Below.size (by assumption)) | (simp; omega)) _) | (with_reducible refine bel_tr ?_ (by assumption)))⟩
            case measure => simp [intOf]; omega
          · have HN : Hid ((a + b + 1) / 2 - 1 < 50000 → t < timeI l ((a + b + 1) / 2 - 1 + 1)) := fun _ => by rw [show (a + b + 1) / 2 - 1 + 1 = (a + b + 1) / 2 from by omega]; omega
            go_wp2_with (go_at_call 43; refine (sto_any _ _ _ l _ _ hn (h1.below hb) HV.out m0 (by omega)).mono ?_; rintro e w2 ⟨rfl, b2⟩)
            go_roundw
            case rel => exact ⟨a, (a + b + 1) / 2 - 1, a0, by omega, by omega, by go_num, by go_num, H1, HN, by repeat (first | (with_reducible assumption) | (exact bel_undr (by with_reducible assumption)) | (with_reducible exact bel_refl _) | (with_reducible refine bel_dr ?_) | (with_reducible refine bel_drN ?_ _) | (with_reducible refine bel_al ?_ _) | (refine bel_set ?_ (by first | (simp; done) | (simp; exact Below.size (by assumption)) | (simp; omega)) _) | (with_reducible refine bel_tr ?_ (by assumption)))⟩
            case measure => simp [intOf]; omega
        · obtain rfl : a = b := by omega
          have he : tickI l t = a := (tvB_of HV.out).tickI_eq ⟨a0, b5, H1, H2⟩
          have HE := Lib.hid he
          clear he
          go_wp2
          go_ret
          exact ⟨ret_int HE.out.symm, by repeat (first | (with_reducible assumption) | (exact bel_undr (by with_reducible assumption)) | (with_reducible exact bel_refl _) | (with_reducible refine bel_dr ?_) | (with_reducible refine bel_drN ?_ _) | (with_reducible refine bel_al ?_ _) | (refine bel_set ?_ (by first | (simp; done) | (simp; exact Below.size (by assumption)) | (simp; omega)) _) | (with_reducible refine bel_tr ?_ (by assumption)))⟩
    · have hr : tickOfI l t = -1 := by unfold tickOfI; rw [if_neg (fun c => ht c.2)]
      rw [hr]; clear hr
      go_enter Try.func26, Try.ntmps26
      go_wp2_with fail
      refine (stv_val hv _ _ _ _ hn hm h).mono ?_
      rintro e1 w1 ⟨rfl, b1⟩
      clear hv
      go_wp2
      go_ret
      exact ⟨rfl, by repeat (first | (with_reducible assumption) | (exact bel_undr (by with_reducible assumption)) | (with_reducible exact bel_refl _) | (with_reducible refine bel_dr ?_) | (with_reducible refine bel_drN ?_ _) | (with_reducible refine bel_al ?_ _) | (refine bel_set ?_ (by first | (simp; done) | (simp; exact Below.size (by assumption)) | (simp; omega)) _) | (with_reducible refine bel_tr ?_ (by assumption)))⟩
end Go.Proofs.Ytjfiknnclkilbaa
