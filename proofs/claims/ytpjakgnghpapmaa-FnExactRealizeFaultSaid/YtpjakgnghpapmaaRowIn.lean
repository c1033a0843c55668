/- Slices of numbers: how they read; the functions of the laws that compare, mark and copy them. -/
import Derived.Test.YtpjakgnghpapmaaBa
import Derived.Test.YtpjakgnghpapmaaBt
import Derived.Test.YtpjakgnghpapmaaBp
import Derived.Laws.MakeOwn
namespace Go.Proofs.Ytpjakgnghpapmaa
set_option linter.unusedSimpArgs false
set_option linter.unusedVariables false
open Go.RowKit

def csIn (x : Int) : List Value := [.int .i64 x]
theorem csIn_len (x : Int) : (csIn x).length = 1 := rfl
theorem flatIn (l : List Int) : flat csIn l = l.map (Value.int .i64) := by
  unfold flat
  induction l with
  | nil => rfl
  | cons x l ih => rw [List.flatMap_cons, ih]; rfl
theorem flatIn_one (l : List Int) : ∀ u ∈ flat csIn l, u.oneCell' = true := by
  intro u hu
  simp only [flat, List.mem_flatMap, csIn, List.mem_cons, List.not_mem_nil, or_false] at hu
  obtain ⟨t, _, rfl⟩ := hu; rfl
def atIn (l : List Int) (i : Nat) : Int := l.getD i 0
/-- the slice at address A reads as the list l, below block B -/
def RowIn (w : World) (B : Nat) (A : Option Addr) (l : List Int) : Prop :=
  0 < l.length → ∃ b off, A = some ⟨b, off, none⟩ ∧ b < B ∧ ∀ i, i < l.length → w.cell? ⟨b, off + i, none⟩ = some (.int .i64 (atIn l i))
def OwnIn (w : World) (lo : Nat) (A : Option Addr) (n : Nat) : Prop :=
  0 < n → ∃ b off, A = some ⟨b, off, none⟩ ∧ lo ≤ b ∧ ∀ o, w.frozen? ⟨b, o, none⟩ = false
theorem RowIn.keep {w w' : World} {B B' : Nat} {A : Option Addr} {l : List Int} (h : RowIn w B A l) (hB : B ≤ B') (hk : ∀ b o, b < B → w'.cell? ⟨b, o, none⟩ = w.cell? ⟨b, o, none⟩) : RowIn w' B' A l := by
  intro hl
  obtain ⟨b, off, e, hb, hc⟩ := h hl
  exact ⟨b, off, e, by omega, fun i hi => by rw [hk _ _ hb]; exact hc i hi⟩
theorem RowIn.below {w w' : World} {A : Option Addr} {l : List Int} (h : RowIn w w.heap.size A l) (hb : Below w.heap.size w w') : RowIn w' w'.heap.size A l :=
  h.keep hb.size fun b o hh => hb.cell (p := ⟨b, o, none⟩) hh
theorem RowIn.bel {w w' : World} {B : Nat} {A : Option Addr} {l : List Int} (h : RowIn w B A l) (hb : Below w.heap.size w w') (hB : B ≤ w.heap.size) : RowIn w' B A l :=
  h.keep (Nat.le_refl _) fun b o hh => hb.cell (p := ⟨b, o, none⟩) (by simp only; omega)
theorem RowIn.up {w : World} {B B' : Nat} {A : Option Addr} {l : List Int} (h : RowIn w B A l) (hB : B ≤ B') : RowIn w B' A l := h.keep hB fun _ _ _ => rfl
theorem RowIn.trn {w w' : World} {B n : Nat} {A A' : Option Addr} {l : List Int} (h : RowIn w B A l) (t : Trn A' n w w') (hne : ∀ a : Addr, 0 < n → A' = some a → B ≤ a.block) (hB : B ≤ w.heap.size) : RowIn w' B A l :=
  h.keep (Nat.le_refl _) fun b o hb => World.cell?_of_block (w := w) (a := ⟨b, o, none⟩) (t.block b (by omega) fun hn a ha => by have := hne a hn ha; omega)
theorem own_rowIn {w' : World} {base : Nat} {e : TypeId} {v : Value} {l : List Int} (h : w'.ownsRow base e 1 v l.length (flat csIn l)) :
    ∃ A cap, v = .slice A l.length cap ∧ l.length ≤ cap ∧ cap ≤ maxLen ∧ RowIn w' w'.heap.size A l ∧ OwnIn w' base A l.length := by
  obtain ⟨A, cap, rfl, h1, h2, h3⟩ := own_open csIn_len 0 h
  refine ⟨A, cap, rfl, h1, h2, fun hl => ?_, fun hl => ?_⟩
  · obtain ⟨g, rfl, hb, hg, _, hc⟩ := h3 hl
    exact ⟨g, 0, rfl, hg, fun i hi => by simpa [csIn, atIn] using hc i 0 hi (by omega)⟩
  · obtain ⟨g, rfl, hb, hg, hf, _⟩ := h3 hl
    exact ⟨g, 0, rfl, hb, hf⟩
theorem infoIn : (Try.prog.info? 3).map (fun i => (i.zero, i.size, i.bytes)) = some (some (.int .i64 0), 1, 8) := by kernel_rfl
set_option maxHeartbeats 2000000 in
theorem eqSIn_same (A A' : Option Addr) (n c c' : Nat) (l : List Int) (w : World) (hn : l.length = n) (hm : n ≤ 9223372036854775807) (h : RowIn w w.heap.size A l) (h' : RowIn w w.heap.size A' l) :
    Calls Try.prog 29 #[.slice A n c, .slice A' n c'] w fun e w' => e = .returned (.bool true) ∧ Below w.heap.size w w' := by
  subst hn
  go_enter Try.func29, Try.ntmps29
  go_wp2
  go_loopw [5] (fun i wr => ∃ k : Nat, k ≤ l.length ∧ i = .int .i64 k ∧ Below w.heap.size w wr) (fun i _ => l.length - (intOf i).toNat)
  case atStart => exact ⟨0, Nat.zero_le _, rfl, bel_refl _⟩
  case round =>
    obtain ⟨k, hk, rfl, hb⟩ := hrel
    by_cases hlt : k < l.length
    · obtain ⟨b, off, rfl, hlb, hc⟩ := (h.below hb) (by omega)
      obtain ⟨b', off', rfl, hlb', hc'⟩ := (h'.below hb) (by omega)
      have p0 := hc k hlt
      have q0 := hc' k hlt
      generalize atIn l k = x at p0 q0
      clear hc hc' h h'
      have hki : (k : Int) < (l.length : Int) := by omega
      have hk0 : (0 : Int) ≤ (k : Int) := by omega
      go_wp2_with fail
      have lf0 : ∀ xL : Later wr, xL.world.cell? ⟨b, off + k, none⟩ = some (.int .i64 x) := fun xL => xL.at (p0)
      have lf1 : ∀ xL : Later wr, xL.world.cell? ⟨b', off' + k, none⟩ = some (.int .i64 x) := fun xL => xL.at (q0)
      refine region_later (w0 := wr) (by kernel_rfl) (by kernel_rfl) (bel_refl _) ?_
      repeat (go_big_quiet_step ((fail)))
      refine wpQuiet_nil ?_
      rintro w' ⟨x, rfl⟩
      obtain ⟨w2, b2⟩ := x
      clear lf0 lf1
      have hb2 := bel_tr hb b2
      clear p0 q0
      go_wp2
      go_roundw
      case rel => exact ⟨k + 1, by omega, by go_num, hb2⟩
      case measure => simp [intOf]; omega
    · obtain rfl : k = l.length := by omega
      go_wp2
      go_ret
      exact ⟨rfl, hb⟩
def CMIn (w : World) (b off : Nat) (t : Int) (i : Nat) : Prop := w.cell? ⟨b, off + i, none⟩ = some (.int .i64 t)
def mkLIn (n : Nat) (K : Int) : List Int := (List.range n).map fun (i : Nat) => K + (i : Int)
theorem mkLIn_len (n : Nat) (K : Int) : (mkLIn n K).length = n := by simp [mkLIn]
theorem at_mkLIn (n : Nat) (K : Int) (i : Nat) (h : i < n) : atIn (mkLIn n K) i = K + (i : Int) := by
  unfold atIn mkLIn; rw [List.getD_eq_getElem?_getD, List.getElem?_map, List.getElem?_range h]; rfl
set_option maxHeartbeats 2000000 in
theorem markSIn_any (A : Option Addr) (n c lo : Nat) (l : List Int) (K : Int) (w : World) (hn : l.length = n) (hm : n ≤ 2000000) (h0 : 0 ≤ K) (h1 : K ≤ 100000000) (h : RowIn w w.heap.size A l) (ho : OwnIn w lo A l.length) :
    Calls Try.prog 34 #[.slice A n c, .int .i64 K] w fun e w' => e = .returned (.int .i64 (K + 1 * (n : Int))) ∧ Trn A n w w' ∧ RowIn w' w'.heap.size A (mkLIn n K) := by
  subst hn
  obtain ⟨b, off, hA, hb, hf0, hs0⟩ : ∃ b off, (0 < l.length → A = some ⟨b, off, none⟩) ∧ (0 < l.length → b < w.heap.size) ∧ (0 < l.length → ∀ o, w.frozen? ⟨b, o, none⟩ = false) ∧ (∀ o, o < l.length → (w.cell? ⟨b, off + o, none⟩).isSome = true) := by
    by_cases hp : 0 < l.length
    · obtain ⟨b, off, e, hb, hc⟩ := h hp
      obtain ⟨b', off', e', _, hf⟩ := ho hp
      rw [e] at e'
      simp only [Option.some.injEq, Addr.mk.injEq, and_true] at e'
      exact ⟨b, off, fun _ => e, fun _ => hb, fun _ o => by rw [e'.1]; exact hf o, fun o ho => by rw [hc o ho]; rfl⟩
    · exact ⟨0, 0, fun c => absurd c hp, fun c => absurd c hp, fun c => absurd c hp, fun o ho => absurd ho (by omega)⟩
  go_enter Try.func34, Try.ntmps34
  go_wp2
  go_loopw [1, 5] (fun kk i wr => ∃ j : Nat, j ≤ l.length ∧ i = .int .i64 j ∧ kk = .int .i64 (K + (j : Int)) ∧ Onl b w wr ∧ (l.length = 0 → w = wr) ∧ (∀ r, r < j → CMIn wr b off (K + (r : Int)) r) ∧ (∀ o, o < l.length → (wr.cell? ⟨b, off + o, none⟩).isSome = true) ∧ (0 < l.length → ∀ o, wr.frozen? ⟨b, o, none⟩ = false)) (fun _ i _ => l.length - (intOf i).toNat)
  case atStart => exact ⟨0, Nat.zero_le _, rfl, by simp, Onl.refl b w, fun _ => rfl, fun r hr => absurd hr (by omega), hs0, hf0⟩
  case round =>
    obtain ⟨j, hj, rfl, rfl, hon, hz, hd, hs, hf⟩ := hrel
    clear hs0 hf0
    by_cases hlt : j < l.length
    · obtain rfl := hA (by omega)
      have hf := hf (by omega)
      obtain ⟨V, hV⟩ : ∃ V, K + (j : Int) = V := ⟨_, rfl⟩
      rw [hV]
      have HV := Lib.hid hV
      have v0 : 0 ≤ V := by omega
      have v1 : V ≤ 200000000 := by omega
      have hjl : (j : Int) < (l.length : Int) := by omega
      have hj0 : (0 : Int) ≤ (j : Int) := by omega
      obtain ⟨o0, so0⟩ := Option.isSome_iff_exists.1 (hs j hlt)
      have f0 := hf (off + j)
      have HD := Lib.hid hd
      have HS := Lib.hid hs
      have HF := Lib.hid hf
      have HON := Lib.hid hon
      clear hV hd hs hz h ho hA hf hon
      go_wp2
      go_roundw
      case rel =>
        have ne : ∀ x y : Nat, x ≠ y → (⟨b, x, none⟩ : Addr) ≠ ⟨b, y, none⟩ := fun x y h e => h (congrArg Addr.off e)
        refine ⟨j + 1, by omega, by go_num, congrArg (Value.int .i64) (by have := HV.out; omega), HON.out.trans (Onl.set _ _ _), fun h => absurd h (by omega), fun r hr => ?_, fun o ho => some_setx (HS.out o ho), fun _ o => fz_set (HF.out o)⟩
        by_cases e : r = j
        · subst e
          rw [HV.out]
          exact set_same (HS.out r hlt)
        · exact keep_off (HD.out r (by omega)) (ne _ _ (by omega))
      case measure => simp [intOf]; omega
    · obtain rfl : j = l.length := by omega
      have HD := Lib.hid hd
      have HN := Lib.hid hon
      have HZ := Lib.hid hz
      clear hs hf hd hon hz
      go_wp2
      go_ret
      refine ⟨ret_int (by omega), Trn.of HN.out HZ.out hA, fun hl => ?_⟩
      rw [mkLIn_len] at hl
      refine ⟨b, off, hA hl, by rw [HN.out.size]; exact hb hl, fun i hi => ?_⟩
      rw [mkLIn_len] at hi
      rw [at_mkLIn _ _ i hi]
      exact HD.out i hi
/-- a slice that lies in one block of its own, from lo on and below hi -/
structure SLIn (w : World) (lo hi : Nat) (A : Option Addr) (l : List Int) : Prop where
  top : hi ≤ w.heap.size
  at' : 0 < l.length → ∃ b off, A = some ⟨b, off, none⟩ ∧ lo ≤ b ∧ b < hi ∧ (∀ o, w.frozen? ⟨b, o, none⟩ = false) ∧ ∀ i, i < l.length → CMIn w b off (atIn l i) i
theorem SLIn.of {w : World} {lo : Nat} {A : Option Addr} {l : List Int} (r : RowIn w w.heap.size A l) (o : OwnIn w lo A l.length) : SLIn w lo w.heap.size A l :=
  ⟨Nat.le_refl _, fun hl => by
    obtain ⟨b, off, e, hb, hc⟩ := r hl
    obtain ⟨b', off', e', hb', hf⟩ := o hl
    rw [e] at e'
    simp only [Option.some.injEq, Addr.mk.injEq, and_true] at e'
    exact ⟨b, off, e, by omega, hb, fun o => by rw [e'.1]; exact hf o, hc⟩⟩
theorem SLIn.row {w : World} {lo hi : Nat} {A : Option Addr} {l : List Int} (h : SLIn w lo hi A l) : RowIn w w.heap.size A l := fun hl => by
  obtain ⟨b, off, e, _, hb, _, hc⟩ := h.at' hl
  exact ⟨b, off, e, Nat.lt_of_lt_of_le hb h.top, hc⟩
theorem SLIn.own {w : World} {lo hi : Nat} {A : Option Addr} {l : List Int} (h : SLIn w lo hi A l) : OwnIn w lo A l.length := fun hl => by
  obtain ⟨b, off, e, hb, _, hf, _⟩ := h.at' hl
  exact ⟨b, off, e, hb, hf⟩
theorem SLIn.place {w : World} {lo hi : Nat} {A : Option Addr} {l : List Int} (h : SLIn w lo hi A l) {a : Addr} (hl : 0 < l.length) (ha : A = some a) : lo ≤ a.block ∧ a.block < hi := by
  obtain ⟨b, off, e, h1, h2, _⟩ := h.at' hl
  rw [e] at ha; cases ha; exact ⟨h1, h2⟩
theorem SLIn.keep {w w' : World} {lo hi : Nat} {A : Option Addr} {l : List Int} (h : SLIn w lo hi A l) (hs : w.heap.size ≤ w'.heap.size) (hb : ∀ i, i < w.heap.size → lo ≤ i → i < hi → w'.heap[i]? = w.heap[i]?) : SLIn w' lo hi A l :=
  ⟨Nat.le_trans h.top hs, fun hl => by
    obtain ⟨b, off, e, h1, h2, hf, hc⟩ := h.at' hl
    have hbb := hb b (Nat.lt_of_lt_of_le h2 h.top) h1 h2
    refine ⟨b, off, e, h1, h2, fun o => by rw [World.frozen?_of_block (w := w) (a := ⟨b, o, none⟩) hbb]; exact hf o, fun i hi => ?_⟩
    unfold CMIn
    rw [World.cell?_of_block (w := w) (a := ⟨b, _, none⟩) hbb]
    exact hc i hi⟩
theorem SLIn.below {w w' : World} {lo hi : Nat} {A : Option Addr} {l : List Int} (h : SLIn w lo hi A l) (hb : Below w.heap.size w w') : SLIn w' lo hi A l := h.keep hb.size fun i hi _ _ => hb.block i hi
theorem SLIn.trn {w w' : World} {lo hi n : Nat} {A B : Option Addr} {l : List Int} (h : SLIn w lo hi A l) (t : Trn B n w w') (hne : ∀ a : Addr, 0 < n → B = some a → a.block < lo ∨ hi ≤ a.block) : SLIn w' lo hi A l :=
  h.keep (by rw [t.size]; exact Nat.le_refl _) fun i hi h1 h2 => t.block i hi fun hn a ha => by have := hne a hn ha; omega
end Go.Proofs.Ytpjakgnghpapmaa
