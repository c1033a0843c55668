/- A key's spelling: what the draws want of it. -/
import Derived.Test.YtpjakgnghpapmaaBp
import Derived.Test.YtpjakgnghpapmaaBa
namespace Go.Proofs.Ytpjakgnghpapmaa
set_option linter.unusedSimpArgs false
set_option linter.unusedVariables false
open Go.RowKit

def SpR (w : World) (e : Ending) (w' : World) : Prop := ∃ (s a o : Int) (b : Bool), e = .returned (.tuple #[.agg #[.int .i64 s, .int .i64 a, .int .i64 o], .bool b]) ∧ Below w.heap.size w w'
set_option maxRecDepth 20000 in
set_option maxHeartbeats 4000000 in
theorem spel_any (key : Int) (fl : Bool) (w : World) (k0 : 0 ≤ key) (k1 : key ≤ 1000) :
    Calls Try.prog 73 #[.int .i64 key, .bool fl] w (SpR w) := by
  go_enter Try.func73, Try.ntmps73
  go_wp2
  have bP : Blk (w.alloc (.cells #[.int .i64 0, .int .i64 0, .int .i64 0] 62)) w.heap.size #[.int .i64 0, .int .i64 0, .int .i64 0] 62 := Blk.new w _ _
  have hb : Below w.heap.size w (w.alloc (.cells #[.int .i64 0, .int .i64 0, .int .i64 0] 62)) := bel_al (bel_refl w) _
  go_loopw [6, 7] (fun i _ wr => ∃ p : Nat, p ≤ 63 ∧ i = .int .i64 p ∧ Blk wr w.heap.size #[.int .i64 0, .int .i64 0, .int .i64 0] 62 ∧ Below w.heap.size w wr) (fun i _ _ => 63 - (intOf i).toNat)
  case atStart => exact ⟨0, by omega, rfl, bP, hb⟩
  case round =>
    clear bP hb
    obtain ⟨p, hp, rfl, bP, hb⟩ := hrel
    by_cases hlt : p < 63
    · have hli : (p : Int) < 63 := by omega
      have hp0 : (0 : Int) ≤ (p : Int) := by omega
      by_cases hk : key ≤ 107
      · obtain ⟨z, hz⟩ : ∃ z, natI (p : Int) = z := ⟨_, rfl⟩
        have hzb : 0 ≤ z ∧ z ≤ 200 := by have h9 := shI_bd ((p : Int) % 7); rw [← hz]; unfold natI; omega
        obtain ⟨z0, z1⟩ := hzb
        have HZ := Lib.hid hz
        clear hz
        have i1 := IntWalk.i64_in (key - z) (by omega)
        go_wp2_with (go_at_call 52; refine (swin_yes _ _ _ _ (by omega) (by omega)).mono ?_; rintro e w' ⟨rfl, rfl⟩)
        refine (nat_val HZ.out _ (by omega) (by omega)).mono ?_
        rintro e1 w1 ⟨rfl, b1⟩
        have bP := bP.below b1
        have hb1 := bel_tr hb b1
        by_cases hd : key - z = 0
        · have cR0 : w1.cell? ⟨w.heap.size, 0, none⟩ = some (.int .i64 0) := by rw [Blk.cell bP]; rfl
          have cR1 : w1.cell? ⟨w.heap.size, 1, none⟩ = some (.int .i64 0) := by rw [Blk.cell bP]; rfl
          have cR2 : w1.cell? ⟨w.heap.size, 2, none⟩ = some (.int .i64 0) := by rw [Blk.cell bP]; rfl
          have fR0 := Blk.free bP 0
          have fR1 := Blk.free bP 1
          have fR2 := Blk.free bP 2
          have lR := bP.lt
          go_wp2
          exact bodyPost_ret (v := .tuple #[.agg #[.int .i64 ((p : Int) % 7), .int .i64 0, .int .i64 ((p : Int).tdiv 7)], .bool true]) (by simp [results, Try.results73, go_sem, cR0, fR0, cR1, fR1, cR2, fR2, lR]) rfl ⟨_, _, _, _, rfl, bel_set (bel_set (bel_set hb1 (Nat.le_refl _) _) (Nat.le_refl _) _) (Nat.le_refl _) _⟩
        · go_wp2
          go_roundw
          case rel => exact ⟨p + 1, by omega, by go_num, bP, hb1⟩
          case measure => simp [intOf]; omega
      · obtain ⟨wo, rfl⟩ : ∃ z : World, z = wr := ⟨_, rfl⟩
        go_wp2_with (go_at_call 52; refine (swin_no _ _ _ _ (by omega)).mono ?_; rintro e w' ⟨rfl, rfl⟩)
        go_loopw [8, 9] (fun i _ wr => i = .int .i64 0 ∧ Blk wr w.heap.size #[.int .i64 0, .int .i64 0, .int .i64 0] 62 ∧ Below w.heap.size w wr) (fun i _ _ => 0)
        case atStart => exact ⟨rfl, bP, hb⟩
        case round =>
          clear bP hb
          obtain ⟨rfl, bP, hb⟩ := hrel
          have cR0 : wr.cell? ⟨w.heap.size, 0, none⟩ = some (.int .i64 0) := by rw [Blk.cell bP]; rfl
          have cR1 : wr.cell? ⟨w.heap.size, 1, none⟩ = some (.int .i64 0) := by rw [Blk.cell bP]; rfl
          have cR2 : wr.cell? ⟨w.heap.size, 2, none⟩ = some (.int .i64 0) := by rw [Blk.cell bP]; rfl
          have fR0 := Blk.free bP 0
          have fR1 := Blk.free bP 1
          have fR2 := Blk.free bP 2
          have lR := bP.lt
          go_wp2_with (go_at_call 52; refine (swin_no _ _ _ _ (by omega)).mono ?_; rintro e w' ⟨rfl, rfl⟩)
          exact bodyPost_ret (v := .tuple #[.agg #[.int .i64 0, .int .i64 0, .int .i64 0], .bool false]) (by simp [results, Try.results73, go_sem, cR0, fR0, cR1, fR1, cR2, fR2, lR]) rfl ⟨_, _, _, _, rfl, by repeat (first | (with_reducible assumption) | (exact bel_undr (by with_reducible assumption)) | (with_reducible exact bel_refl _) | (with_reducible refine bel_dr ?_) | (with_reducible refine bel_drN ?_ _) | (with_reducible refine bel_al ?_ _) | (refine bel_set ?_ (by first | (simp; done) | (simp; exact Below.size (by assumption)) | (simp; omega)) _) | (with_reducible refine bel_tr ?_ (by assumption)))⟩
    · obtain ⟨wo, rfl⟩ : ∃ z : World, z = wr := ⟨_, rfl⟩
      go_wp2
      go_loopw [8, 9] (fun i _ wr => ∃ p : Nat, p ≤ 63 ∧ i = .int .i64 p ∧ Blk wr w.heap.size #[.int .i64 0, .int .i64 0, .int .i64 0] 62 ∧ Below w.heap.size w wr) (fun i _ _ => 63 - (intOf i).toNat)
      case atStart => exact ⟨0, by omega, rfl, bP, hb⟩
      case round =>
        clear bP hb
        obtain ⟨p, hp, rfl, bP, hb⟩ := hrel
        by_cases hlt : p < 63
        · have hli : (p : Int) < 63 := by omega
          have hp0 : (0 : Int) ≤ (p : Int) := by omega
          by_cases hk : key ≤ 107
          · obtain ⟨z, hz⟩ : ∃ z, natI (p : Int) = z := ⟨_, rfl⟩
            have hzb : 0 ≤ z ∧ z ≤ 200 := by have h9 := shI_bd ((p : Int) % 7); rw [← hz]; unfold natI; omega
            obtain ⟨z0, z1⟩ := hzb
            have HZ := Lib.hid hz
            clear hz
            have i1 := IntWalk.i64_in (key - z) (by omega)
            go_wp2_with (go_at_call 52; refine (swin_yes _ _ _ _ (by omega) (by omega)).mono ?_; rintro e w' ⟨rfl, rfl⟩)
            refine (nat_val HZ.out _ (by omega) (by omega)).mono ?_
            rintro e1 w1 ⟨rfl, b1⟩
            have bP := bP.below b1
            have hb1 := bel_tr hb b1
            cases fl
            · by_cases hd : key - z = 1
              · have cR0 : w1.cell? ⟨w.heap.size, 0, none⟩ = some (.int .i64 0) := by rw [Blk.cell bP]; rfl
                have cR1 : w1.cell? ⟨w.heap.size, 1, none⟩ = some (.int .i64 0) := by rw [Blk.cell bP]; rfl
                have cR2 : w1.cell? ⟨w.heap.size, 2, none⟩ = some (.int .i64 0) := by rw [Blk.cell bP]; rfl
                have fR0 := Blk.free bP 0
                have fR1 := Blk.free bP 1
                have fR2 := Blk.free bP 2
                have lR := bP.lt
                go_wp2
                exact bodyPost_ret (v := .tuple #[.agg #[.int .i64 ((p : Int) % 7), .int .i64 1, .int .i64 ((p : Int).tdiv 7)], .bool true]) (by simp [results, Try.results73, go_sem, cR0, fR0, cR1, fR1, cR2, fR2, lR]) rfl ⟨_, _, _, _, rfl, bel_set (bel_set (bel_set hb1 (Nat.le_refl _) _) (Nat.le_refl _) _) (Nat.le_refl _) _⟩
              · by_cases hd2 : key - z = -1
                · go_wp2
                  go_roundw
                  case rel => exact ⟨p + 1, by omega, by go_num, bP, hb1⟩
                  case measure => simp [intOf]; omega
                · go_wp2
                  go_roundw
                  case rel => exact ⟨p + 1, by omega, by go_num, bP, hb1⟩
                  case measure => simp [intOf]; omega
            · by_cases hd : key - z = 1
              · have hd2 : ¬ key - z = -1 := by omega
                go_wp2
                go_roundw
                case rel => exact ⟨p + 1, by omega, by go_num, bP, hb1⟩
                case measure => simp [intOf]; omega
              · by_cases hd2 : key - z = -1
                · have cR0 : w1.cell? ⟨w.heap.size, 0, none⟩ = some (.int .i64 0) := by rw [Blk.cell bP]; rfl
                  have cR1 : w1.cell? ⟨w.heap.size, 1, none⟩ = some (.int .i64 0) := by rw [Blk.cell bP]; rfl
                  have cR2 : w1.cell? ⟨w.heap.size, 2, none⟩ = some (.int .i64 0) := by rw [Blk.cell bP]; rfl
                  have fR0 := Blk.free bP 0
                  have fR1 := Blk.free bP 1
                  have fR2 := Blk.free bP 2
                  have lR := bP.lt
                  go_wp2
                  exact bodyPost_ret (v := .tuple #[.agg #[.int .i64 ((p : Int) % 7), .int .i64 (-1), .int .i64 ((p : Int).tdiv 7)], .bool true]) (by simp [results, Try.results73, go_sem, cR0, fR0, cR1, fR1, cR2, fR2, lR]) rfl ⟨_, _, _, _, rfl, bel_set (bel_set (bel_set hb1 (Nat.le_refl _) _) (Nat.le_refl _) _) (Nat.le_refl _) _⟩
                · go_wp2
                  go_roundw
                  case rel => exact ⟨p + 1, by omega, by go_num, bP, hb1⟩
                  case measure => simp [intOf]; omega
          · have cR0 : wr.cell? ⟨w.heap.size, 0, none⟩ = some (.int .i64 0) := by rw [Blk.cell bP]; rfl
            have cR1 : wr.cell? ⟨w.heap.size, 1, none⟩ = some (.int .i64 0) := by rw [Blk.cell bP]; rfl
            have cR2 : wr.cell? ⟨w.heap.size, 2, none⟩ = some (.int .i64 0) := by rw [Blk.cell bP]; rfl
            have fR0 := Blk.free bP 0
            have fR1 := Blk.free bP 1
            have fR2 := Blk.free bP 2
            have lR := bP.lt
            go_wp2_with (go_at_call 52; refine (swin_no _ _ _ _ (by omega)).mono ?_; rintro e w' ⟨rfl, rfl⟩)
            exact bodyPost_ret (v := .tuple #[.agg #[.int .i64 0, .int .i64 0, .int .i64 0], .bool false]) (by simp [results, Try.results73, go_sem, cR0, fR0, cR1, fR1, cR2, fR2, lR]) rfl ⟨_, _, _, _, rfl, by repeat (first | (with_reducible assumption) | (exact bel_undr (by with_reducible assumption)) | (with_reducible exact bel_refl _) | (with_reducible refine bel_dr ?_) | (with_reducible refine bel_drN ?_ _) | (with_reducible refine bel_al ?_ _) | (refine bel_set ?_ (by first | (simp; done) | (simp; exact Below.size (by assumption)) | (simp; omega)) _) | (with_reducible refine bel_tr ?_ (by assumption)))⟩
        · have cR0 : wr.cell? ⟨w.heap.size, 0, none⟩ = some (.int .i64 0) := by rw [Blk.cell bP]; rfl
          have cR1 : wr.cell? ⟨w.heap.size, 1, none⟩ = some (.int .i64 0) := by rw [Blk.cell bP]; rfl
          have cR2 : wr.cell? ⟨w.heap.size, 2, none⟩ = some (.int .i64 0) := by rw [Blk.cell bP]; rfl
          have fR0 := Blk.free bP 0
          have fR1 := Blk.free bP 1
          have fR2 := Blk.free bP 2
          have lR := bP.lt
          go_wp2
          exact bodyPost_ret (v := .tuple #[.agg #[.int .i64 0, .int .i64 0, .int .i64 0], .bool false]) (by simp [results, Try.results73, go_sem, cR0, fR0, cR1, fR1, cR2, fR2, lR]) rfl ⟨_, _, _, _, rfl, by repeat (first | (with_reducible assumption) | (exact bel_undr (by with_reducible assumption)) | (with_reducible exact bel_refl _) | (with_reducible refine bel_dr ?_) | (with_reducible refine bel_drN ?_ _) | (with_reducible refine bel_al ?_ _) | (refine bel_set ?_ (by first | (simp; done) | (simp; exact Below.size (by assumption)) | (simp; omega)) _) | (with_reducible refine bel_tr ?_ (by assumption)))⟩
end Go.Proofs.Ytpjakgnghpapmaa
