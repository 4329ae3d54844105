/- StoreCopies: the walk. -/
import Derived.Test.YtbgiklkpinflaaaActsC
namespace Go.Proofs.Ytbgiklkpinflaaa
open Go.RowKit Go.Shelf
attribute [local go_sem ↓] Go.wp_at_zero Go.wp_at_succ

section
variable {P : Nat → Prop} {w0 w w1 w2 : World} {d r c q n : Nat} {S T : List Nat}
theorem Both.lt (h : Both P w d r n S) : ∀ x ∈ S, x < w.heap.size := by
  obtain ⟨D, Sd, Sr, rfl, _, hd, hr, _⟩ := h
  intro x hx
  rcases List.mem_append.1 hx with h | h
  · obtain ⟨_, _, hb, _⟩ := hd.lt x h
    exact hb.lt
  · obtain ⟨_, _, hb, _⟩ := hr.lt x h
    exact hb.lt
theorem Both.noBytes (h : Both P w d r n S) : ∀ g cs, g ∈ S → Blk w g 5 cs → False := by
  obtain ⟨D, Sd, Sr, rfl, _, hd, hr, _⟩ := h
  intro g cs hg hb
  rcases List.mem_append.1 hg with h | h
  · exact hd.no (by decide) (by decide) (by decide) h hb
  · exact hr.no (by decide) (by decide) (by decide) h hb
/-- The other two disks stay. -/
theorem Both.stay (h : Both P w c q n T) (h2 : Both P w d r n S) (k : Keeps (· ∈ S) w w1) (hne : ∀ x ∈ S, x ∉ T) : Both P w1 c q n T := by
  obtain ⟨D, Sd, Sr, rfl, hn, hd, hr, hl, hp⟩ := h
  exact ⟨D, Sd, Sr, rfl, hn, hd.keeps k (fun g hg hg2 => hne g hg2 (List.mem_append_left _ hg)) (fun g cs hg _ hb => h2.noBytes g cs hg hb), hr.keeps k (fun g hg hg2 => hne g hg2 (List.mem_append_right _ hg)) (fun g cs hg _ hb => h2.noBytes g cs hg hb), hl, hp⟩

/-- Two disks and their copies. -/
def Quad (w0 w : World) (d r c q n : Nat) : Prop := ∃ S T, Both (w0.heap.size ≤ ·) w d r n S ∧ Both (w0.heap.size ≤ ·) w c q n T ∧ (∀ x ∈ S, x ∉ T) ∧ (∀ x ∈ S, w0.heap.size ≤ x) ∧ (∀ x ∈ T, w0.heap.size ≤ x) ∧ Below w0.heap.size w0 w
theorem Quad.symm (h : Quad w0 w d r c q n) : Quad w0 w c q d r n := by
  obtain ⟨S, T, a, b, e, f, g, h⟩ := h
  exact ⟨T, S, b, a, fun x hx hx2 => e x hx2 hx, g, f, h⟩
theorem Quad.below (h : Quad w0 w d r c q n) (hb : Below w.heap.size w w1) : Quad w0 w1 d r c q n := by
  obtain ⟨S, T, a, b, e, f, g, h⟩ := h
  exact ⟨S, T, a.below hb, b.below hb, e, f, g, h.trans (hb.mono h.size)⟩
theorem Quad.acted (h : Quad w0 w d r c q n) (hn : n ≤ 1000) {kd : Nat} {i t y : Int} (ht : t ≤ 9223372036854775807) {sh : Bool} {kv : Value} {ks : List Bool} (hk : ∀ S : List Nat, (∀ q ∈ S, w0.heap.size ≤ q) → KeepAt w S kv ks) :
    Calls Try.prog 21 #[.pointer (some ⟨d, 0, none⟩), .pointer (some ⟨r, 0, none⟩), .agg #[.int .u8 (kd : Int), .int .i64 i, .int .i64 t, .int .u8 y, .bool sh, kv]] w fun e w' => e = .returned (.bool true) ∧ Quad w0 w' d r c q (n + 1) := by
  obtain ⟨S, T, a, b, e, f, g, h⟩ := h
  refine (acted_calls w a hn kd i t y ht sh kv ks (hk S f)).mono ?_
  rintro e' w' ⟨rfl, S', a', c', k'⟩
  refine ⟨rfl, S', T, a', (b.stay a k' e).mono (by omega), fun x hx hx2 => ?_, fun x hx => ?_, g, below_keeps h k' h.size fun x hx => f x hx⟩
  · rcases c' x hx with hx | hx
    · exact e x hx hx2
    · have := b.lt x hx2; omega
  · rcases c' x hx with hx | hx
    · exact f x hx
    · exact Nat.le_trans h.size hx
theorem Quad.alike (h : Quad w0 w d r c q n) (hn : n ≤ 1000) :
    Calls Try.prog 22 #[.pointer (some ⟨d, 0, none⟩), .pointer (some ⟨r, 0, none⟩)] w fun e w' => e = .returned (.bool true) ∧ Quad w0 w' d r c q n := by
  have h' := h
  obtain ⟨S, T, a, _⟩ := h
  refine (alike_calls a (by omega)).mono ?_
  rintro e' w' ⟨rfl, hb⟩
  exact ⟨rfl, h'.below hb⟩
/-- What the copying of the first disk leaves. -/
def Half (w0 w : World) (d r c n : Nat) : Prop := ∃ D Sd Sr Sc, (∀ x ∈ Sd, x ∉ Sr) ∧ (∀ x ∈ Sd ++ Sr, x ∉ Sc) ∧ DiskAt (w0.heap.size ≤ ·) w d D Sd ∧ Ref.DiskAt (w0.heap.size ≤ ·) w r D Sr ∧ DiskAt (w0.heap.size ≤ ·) w c D Sc ∧ (∀ x ∈ Sd ++ Sr, w0.heap.size ≤ x) ∧ (∀ x ∈ Sc, w0.heap.size ≤ x) ∧ D.life ≤ n ∧ D.pending.length ≤ n ∧ Below w0.heap.size w0 w
theorem Pair.copy (h : Pair w0 w d r n) (hn : n ≤ 1000) : Calls Try.prog 23 #[.pointer (some ⟨d, 0, none⟩)] w fun e w' => e = .returned (.pointer (some ⟨w.heap.size, 0, none⟩)) ∧ Half w0 w' d r w.heap.size n := by
  obtain ⟨S, a, f, hb⟩ := h
  have hlt := a.lt
  obtain ⟨D, Sd, Sr, rfl, hne, hd, hr, hl, hp⟩ := a
  refine (copy_any w hd (by omega)).mono ?_
  rintro e w' ⟨rfl, ⟨Sc, hc, hSc⟩, hb'⟩
  exact ⟨rfl, D, Sd, Sr, Sc, hne, fun x hx hx2 => by have := hlt x hx; have := hSc x hx2; omega, hd.below hb', hr.below hb', hc, f, fun x hx => Nat.le_trans hb.size (hSc x hx), hl, hp, hb.trans (hb'.mono hb.size)⟩
theorem Half.copy (h : Half w0 w d r c n) (hn : n ≤ 1000) : Calls Try.prog 24 #[.pointer (some ⟨r, 0, none⟩)] w fun e w' => e = .returned (.pointer (some ⟨w.heap.size, 0, none⟩)) ∧ Quad w0 w' d r c w.heap.size n := by
  obtain ⟨D, Sd, Sr, Sc, h1, h2, hd, hr, hc, f, g, hl, hp, hb⟩ := h
  refine (Ref.copy_any w hr (by omega)).mono ?_
  rintro e w' ⟨rfl, ⟨Sq, hq, hSq⟩, hb'⟩
  have hdl : ∀ x ∈ Sd ++ Sr, x < w.heap.size := fun x hx => Both.lt (P := (w0.heap.size ≤ ·)) (w := w) (d := d) (r := r) (n := n) ⟨D, Sd, Sr, rfl, h1, hd, hr, hl, hp⟩ x hx
  have hcl : ∀ x ∈ Sc, x < w.heap.size := fun x hx => by
    obtain ⟨_, _, hb, _⟩ := hc.lt x hx
    exact hb.lt
  refine ⟨rfl, Sd ++ Sr, Sc ++ Sq, ⟨D, Sd, Sr, rfl, h1, hd.below hb', hr.below hb', hl, hp⟩, ⟨D, Sc, Sq, rfl, fun x hx hx2 => ?_, hc.below hb', hq, hl, hp⟩, fun x hx hx2 => ?_, f, fun x hx => ?_, hb.trans (hb'.mono hb.size)⟩
  · have := hcl x hx; have := hSq x hx2; omega
  · rcases List.mem_append.1 hx2 with h | h
    · exact h2 x hx h
    · have := hdl x hx; have := hSq x h; omega
  · rcases List.mem_append.1 hx with h | h
    · exact g x h
    · exact Nat.le_trans hb.size (hSq x h)
end

set_option maxRecDepth 100000 in
set_option maxHeartbeats 8000000 in
theorem copies_calls (w : World) (A B : Option Addr) (n c m cm : Nat) (hA : ActArg w A n) (hB : ActArg w B m) :
    Calls Try.prog 6 #[.slice A n c, .slice B m cm] w fun e w' => e = .returned (.bool true) ∧ Below w.heap.size w w' := by
  have H1 := Lib.hid (newDisk_good (w.heap.size ≤ ·) 5 w (by omega) (by omega) fun _ h => h)
  have H2 : Hid (∀ w1 : World, w.heap.size ≤ w1.heap.size → _) := Lib.hid fun w1 (h1 : w.heap.size ≤ w1.heap.size) => Ref.newDisk_good (w.heap.size ≤ ·) 5 w1 (by omega) (by omega) fun _ h => Nat.le_trans h1 h
  have HA := Lib.hid hA
  have HB := Lib.hid hB
  have hmax := hA.1
  have hmaxb := hB.1
  unfold maxLen at hmax hmaxb
  clear hA hB
  by_cases hbig : 12 < n ∨ 12 < m
  · by_cases h12 : 12 < n
    all_goals
      first
        | (have t1 : decide ((12 : Int) < n) = true := by simp; omega)
        | (have t1 : decide ((12 : Int) < n) = false := by simp; omega
           have t2 : decide ((12 : Int) < m) = true := by simp; omega)
      clear hbig h12
      go_enter Try.func6, Try.ntmps6
      go_wp2_with (first
        | (go_at_call 8; refine (awake_calls _).mono ?_; rintro e w4 ⟨rfl, hb4⟩; have HB4 := Lib.hid (HP2.out.below hb4); clear hb4)
        | (go_at_call 20; refine (H2.out w1 HB1.out.size).mono ?_; rintro e w2 ⟨rfl, ⟨Sr, hr, hSr⟩, hb2⟩; have HP2 := Lib.hid (pair_new (n := 0) HD1.out HS1.out HB1.out hr hSr hb2 (Nat.le_refl _) (Nat.le_refl _)); clear hr hSr hb2)
        | (go_at_call 19; refine H1.out.mono ?_; rintro e w1 ⟨rfl, ⟨Sd, hd, hSd⟩, hb1⟩; have HD1 := Lib.hid hd; have HS1 := Lib.hid hSd; have HB1 := Lib.hid hb1; clear hd hSd hb1))
      go_ret
      obtain ⟨_, _, _, hb⟩ := HB4.out
      exact ⟨rfl, hb⟩
  · have t1 : decide ((12 : Int) < n) = false := by simp; omega
    have t2 : decide ((12 : Int) < m) = false := by simp; omega
    have hn12 : n ≤ 12 := by omega
    have hm12 : m ≤ 12 := by omega
    clear hbig
    go_enter Try.func6, Try.ntmps6
    go_wp2_with (first
      | (go_at_call 20; refine (H2.out w1 HB1.out.size).mono ?_; rintro e w2 ⟨rfl, ⟨Sr, hr, hSr⟩, hb2⟩; have HP2 := Lib.hid (pair_new (n := 0) HD1.out HS1.out HB1.out hr hSr hb2 (Nat.le_refl _) (Nat.le_refl _)); clear hr hSr hb2)
      | (go_at_call 19; refine H1.out.mono ?_; rintro e w1 ⟨rfl, ⟨Sd, hd, hSd⟩, hb1⟩; have HD1 := Lib.hid hd; have HS1 := Lib.hid hSd; have HB1 := Lib.hid hb1; clear hd hSd hb1))
    go_loopw [10, 48] (fun _ x wr => ∃ k : Nat, k ≤ n ∧ x = .int .i64 k ∧ Pair w wr w.heap.size w1.heap.size k) (fun _ x _ => n - (intOf x).toNat)
    case atStart => exact ⟨0, Nat.zero_le _, rfl, HP2.out⟩
    case round =>
      obtain ⟨k, hk, rfl, hM⟩ := hrel
      by_cases hlt : k < n
      · have tk : decide ((k : Int) < (n : Int)) = true := by simp; omega
        obtain ⟨gb, go, rfl, hrow⟩ := HA.out.2 k hlt
        have hbel := hM
        obtain ⟨_, _, _, hbel⟩ := hbel
        obtain ⟨kd, i, t, y, sh, kv, ks, q0, q1, q2, q3, q4, q5, ht, hkk⟩ := hrow.below hbel
        obtain ⟨Ak, nk, ck, rfl⟩ : ∃ A n c, kv = .slice A n c := by
          obtain ⟨A, c, rfl, _⟩ := hkk [] (fun _ h => by simp at h)
          exact ⟨_, _, _, rfl⟩
        have HM := Lib.hid hM
        have HK := Lib.hid hkk
        clear hM hkk hbel hrow
        have HKS : Hid (∀ o (S : List Nat), (∀ q ∈ S, w.heap.size ≤ q) → KeepAt (wr.alloc o) S (.slice Ak nk ck) ks) := fun o S hS => KeepAt.keeps (S := []) (HK.out S hS) ((Keeps.refl _ wr).alloc o)
        have HMA : Hid (∀ o, Pair w (wr.alloc o) w.heap.size w1.heap.size k) := fun o => HM.out.below ((Below.refl _ wr).alloc (Nat.le_refl _) o)
        go_wp2_with (go_at_call 21; refine ((HMA.out _).acted (by omega) ht (HKS.out _)).mono ?_; rintro e w3 ⟨rfl, hp3⟩; have HP3 := Lib.hid hp3; clear hp3)
        go_roundw
        case rel => exact ⟨k + 1, by omega, by go_num, HP3.out⟩
        case measure => simp [intOf]; omega
      · obtain rfl : k = n := by omega
        have tk : decide ((k : Int) < (k : Int)) = false := by simp
        have HM := Lib.hid hM
        clear hM
        go_wp2_with (first
          | (go_at_call 24; refine (HP4.out.copy (by omega)).mono ?_; rintro e w5 ⟨rfl, hp5⟩; have HP5 := Lib.hid hp5; clear hp5)
          | (go_at_call 23; refine (HM.out.copy (by omega)).mono ?_; rintro e w4 ⟨rfl, hp4⟩; have HP4 := Lib.hid hp4; clear hp4))
        obtain ⟨cc, hcc⟩ : ∃ cc, cc = wr.heap.size := ⟨_, rfl⟩
        rw [← hcc] at HP5 ⊢
        have HCC := Lib.hid hcc
        clear hcc HP4 HM
        go_loopw [14, 63] (fun _ x wz => ∃ j : Nat, j ≤ m ∧ x = .int .i64 j ∧ Quad w wz w.heap.size w1.heap.size cc w4.heap.size (k + j)) (fun _ x _ => m - (intOf x).toNat)
        case atStart => exact ⟨0, Nat.zero_le _, rfl, HP5.out⟩
        case round =>
          obtain ⟨j, hj, rfl, hM⟩ := hrel
          by_cases hlt : j < m
          · have tk : decide ((j : Int) < (m : Int)) = true := by simp; omega
            obtain ⟨gb, go, rfl, hrow⟩ := HB.out.2 j hlt
            have hbel := hM
            obtain ⟨_, _, _, _, _, _, _, hbel⟩ := hbel
            obtain ⟨kd, i, t, y, sh, kv, ks, q0, q1, q2, q3, q4, q5, ht, hkk⟩ := hrow.below hbel
            obtain ⟨Ak, nk, ck, rfl⟩ : ∃ A n c, kv = .slice A n c := by
              obtain ⟨A, c, rfl, _⟩ := hkk [] (fun _ h => by simp at h)
              exact ⟨_, _, _, rfl⟩
            have HM := Lib.hid hM
            have HK := Lib.hid hkk
            clear hM hkk hbel hrow
            have HKS : Hid (∀ o (S : List Nat), (∀ q ∈ S, w.heap.size ≤ q) → KeepAt (wr.alloc o) S (.slice Ak nk ck) ks) := fun o S hS => KeepAt.keeps (S := []) (HK.out S hS) ((Keeps.refl _ wr).alloc o)
            have HMA : Hid (∀ o, Quad _ (wr.alloc o) _ _ _ _ _) := fun o => HM.out.below ((Below.refl _ wr).alloc (Nat.le_refl _) o)
            go_wp2_with (first
              | (have HP7' := HP7; go_at_call 22; refine (HP7.out.symm.alike (by omega)).mono ?_; rintro e w8 ⟨rfl, hp8⟩; have HP8 := Lib.hid hp8; clear hp8)
              | (go_at_call 22; refine (HP6.out.alike (by omega)).mono ?_; rintro e w7 ⟨rfl, hp7⟩; have HP7 := Lib.hid hp7; clear hp7)
              | (go_at_call 21; refine ((HMA.out _).symm.acted (by omega) ht (HKS.out _)).mono ?_; rintro e w6 ⟨rfl, hp6⟩; have HP6 := Lib.hid hp6; clear hp6))
            go_roundw
            case rel => exact ⟨j + 1, by omega, by go_num, HP8.out⟩
            case measure => simp [intOf]; omega
          · obtain rfl : j = m := by omega
            have tk : decide ((j : Int) < (j : Int)) = false := by simp
            have HM := Lib.hid hM
            clear hM
            go_wp2
            go_loopw [16, 87] (fun _ x wz => ∃ i : Nat, i ≤ j ∧ x = .int .i64 i ∧ Quad w wz w.heap.size w1.heap.size cc w4.heap.size (k + j + i)) (fun _ x _ => j - (intOf x).toNat)
            case atStart => exact ⟨0, Nat.zero_le _, rfl, HM.out⟩
            case round =>
              obtain ⟨i, hi, rfl, hM⟩ := hrel
              by_cases hlt : i < j
              · have tk : decide ((i : Int) < (j : Int)) = true := by simp; omega
                obtain ⟨gb, go, rfl, hrow⟩ := HB.out.2 i hlt
                have hbel := hM
                obtain ⟨_, _, _, _, _, _, _, hbel⟩ := hbel
                obtain ⟨kd, ii, t, y, sh, kv, ks, q0, q1, q2, q3, q4, q5, ht, hkk⟩ := hrow.below hbel
                obtain ⟨Ak, nk, ck, rfl⟩ : ∃ A n c, kv = .slice A n c := by
                  obtain ⟨A, c, rfl, _⟩ := hkk [] (fun _ h => by simp at h)
                  exact ⟨_, _, _, rfl⟩
                have HM := Lib.hid hM
                have HK := Lib.hid hkk
                clear hM hkk hbel hrow
                have HKS : Hid (∀ o (S : List Nat), (∀ q ∈ S, w.heap.size ≤ q) → KeepAt (wr.alloc o) S (.slice Ak nk ck) ks) := fun o S hS => KeepAt.keeps (S := []) (HK.out S hS) ((Keeps.refl _ wr).alloc o)
                have HMA : Hid (∀ o, Quad _ (wr.alloc o) _ _ _ _ _) := fun o => HM.out.below ((Below.refl _ wr).alloc (Nat.le_refl _) o)
                go_wp2_with (go_at_call 21; refine ((HMA.out _).acted (by omega) ht (HKS.out _)).mono ?_; rintro e w6 ⟨rfl, hp6⟩; have HP6 := Lib.hid hp6; clear hp6)
                go_roundw
                case rel => exact ⟨i + 1, by omega, by go_num, HP6.out⟩
                case measure => simp [intOf]; omega
              · obtain rfl : i = j := by omega
                have tk : decide ((i : Int) < (i : Int)) = false := by simp
                have HM := Lib.hid hM
                clear hM
                go_wp2_with (first
                  | (go_at_call 8; refine (awake_calls _).mono ?_; rintro e w8 ⟨rfl, hb8⟩; have HP8 := Lib.hid (HP7.out.below hb8); clear hb8)
                  | (have HP6' := HP6; go_at_call 22; refine (HP6.out.symm.alike (by omega)).mono ?_; rintro e w7 ⟨rfl, hp7⟩; have HP7 := Lib.hid hp7; clear hp7)
                  | (go_at_call 22; refine (HM.out.symm.alike (by omega)).mono ?_; rintro e w6 ⟨rfl, hp6⟩; have HP6 := Lib.hid hp6; clear hp6))
                go_ret
                obtain ⟨_, _, _, _, _, _, _, hb⟩ := HP8.out
                exact ⟨rfl, hb⟩

end Go.Proofs.Ytbgiklkpinflaaa
