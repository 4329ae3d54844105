/- StorePins: the walk. -/
import Derived.Test.YtbgiklkpinflaaaGreatPinA
namespace Go.Proofs.YtbgiklkpinflaaaGreat
open Go.RowKit Go.Shelf Go.Maps
attribute [local go_sem ↓] Go.wp_at_zero Go.wp_at_succ

set_option maxRecDepth 100000 in
set_option maxHeartbeats 8000000 in
theorem pins_big (w : World) (A1 : Option Addr) (n1 c1 : Nat) (A2 : Option Addr) (n2 c2 : Nat) (hbig : 20 < n1 ∨ 20 < n2) (hm1 : n1 ≤ maxLen) (hm2 : n2 ≤ maxLen) :
    Calls Tryz.prog 3 #[.slice A1 n1 c1, .slice A2 n2 c2] w fun e w' => e = .returned (.bool true) ∧ Below w.heap.size w w' := by
  have HL := Lib.hid (laid_bench (n := 40) (w0 := w) w (by omega) (by omega) (Nat.le_refl _) (Below.refl _ _))
  unfold maxLen at hm1 hm2
  by_cases h1 : 20 < n1
  all_goals
    first
      | (have t1 : decide ((20 : Int) < n1) = true := by simp; omega)
      | (have t1 : decide ((20 : Int) < n1) = false := by simp; omega
         have t2 : decide ((20 : Int) < n2) = true := by simp; omega)
    clear hbig h1
    go_enter Tryz.func3, Tryz.ntmps3
    go_wp2_with (first
      | (go_at_call 11; refine HL.out.mono ?_; rintro e w1 ⟨g, d, s, r, rfl, hl1, hg1, hb1⟩; have HB1 := Lib.hid hb1; clear hl1 hb1)
      | (go_at_call 12; refine (awake_calls _).mono ?_; rintro e w4 ⟨rfl, hb4⟩; have HB4 := Lib.hid hb4; clear hb4))
    go_ret
    exact ⟨rfl, HB1.out.trans (HB4.out.mono HB1.out.size)⟩

set_option maxRecDepth 100000 in
set_option maxHeartbeats 8000000 in
theorem pins_small (w : World) (A1 : Option Addr) (n1 c1 : Nat) (A2 : Option Addr) (n2 c2 : Nat) (hn1 : n1 ≤ 20) (hn2 : n2 ≤ 20) (hA1 : OpArg w A1 n1) (hA2 : OpArg w A2 n2) :
    Calls Tryz.prog 3 #[.slice A1 n1 c1, .slice A2 n2 c2] w fun e w' => e = .returned (.bool true) ∧ Below w.heap.size w w' := by
  have HL := Lib.hid (laid_bench (n := 40) (w0 := w) w (by omega) (by omega) (Nat.le_refl _) (Below.refl _ _))
  have t1 : decide ((20 : Int) < n1) = false := by simp; omega
  have t2 : decide ((20 : Int) < n2) = false := by simp; omega
  have HA1 := Lib.hid hA1
  have HA2 := Lib.hid hA2
  clear hA1 hA2
  go_enter Tryz.func3, Tryz.ntmps3
  go_wp2_with (go_at_call 11; refine HL.out.mono ?_; rintro e w1 ⟨g, d, s, r, rfl, hl1, hg1, hb1⟩; have HP1 := Lib.hid hl1.play; clear hl1 hb1)
  go_loopw [37] (fun x wr => ∃ k : Nat, k ≤ n1 ∧ x = .int .i64 k ∧ Play k w g d s r 40 wr) (fun x _ => n1 - (intOf x).toNat)
  case atStart => exact ⟨0, Nat.zero_le _, rfl, HP1.out⟩
  case round =>
    obtain ⟨k, hk, rfl, hM⟩ := hrel
    by_cases hlt : k < n1
    · have tk : decide ((k : Int) < (n1 : Int)) = true := by simp; omega
      obtain ⟨gb, go, rfl, hrow⟩ := HA1.out.2 k hlt
      obtain ⟨kd, key, qn, y, q0, q1, q2, q3, hks, hqn, hy⟩ := hrow.below hM.kept
      have HMA : Hid (∀ o, Play k w g d s r 40 (wr.alloc o)) := fun o => hM.below ((Below.refl _ wr).alloc (Nat.le_refl _) o)
      clear hM hrow
      go_wp2_with (go_at_call 13; refine ((HMA.out _).do_ (by omega) kd key qn y hks hqn hy).mono ?_; rintro e w3 ⟨rfl, hp3⟩; have HP3 := Lib.hid hp3; clear hp3)
      go_roundw
      case rel => exact ⟨k + 1, by omega, by go_num, HP3.out⟩
      case measure => simp [intOf]; omega
    · obtain rfl : k = n1 := by omega
      have tk : decide ((k : Int) < (k : Int)) = false := by simp
      have HM := Lib.hid hM
      obtain ⟨i, ⟨bv, hb0⟩, hcase⟩ := hM.snap_few (by omega)
      have d1 : wr.cell? ⟨g, 1, none⟩ = some (.pointer (some ⟨s, 0, none⟩)) := Blk.cell hb0 1
      have HB0 := Lib.hid hb0
      clear hM hb0
      rcases hcase with ⟨hs, hr⟩ | ⟨C, J, hs, hr⟩
      · have HS := Lib.hid hs
        have HR := Lib.hid hr
        clear hs hr
        go_wp2_with (first
          | (go_at_call 14; refine HS.out.mono ?_; rintro e w2 ⟨rfl, hb2⟩; have HB2 := Lib.hid hb2; have d2 : w2.cell? ⟨g, 2, none⟩ = some (.pointer (some ⟨r, 0, none⟩)) := Blk.cell (Blk.below HB0.out hb2 (Blk.lt HB0.out)) 2; clear hb2)
          | (go_at_call 15; refine (HR.out _ HB2.out).mono ?_; rintro e w3 ⟨rfl, hb3⟩; have HB3 : Hid (Below wr.heap.size wr w3) := HB2.out.trans (hb3.mono HB2.out.size); clear hb3)
          | (go_at_call 12; refine (awake_calls _).mono ?_; rintro e w4 ⟨rfl, hb4⟩; have HB4 : Hid (Below wr.heap.size wr w4) := HB3.out.trans (hb4.mono HB3.out.size); clear hb4))
        go_ret
        exact ⟨rfl, (HM.out.below HB4.out).kept⟩
      · have HS := Lib.hid hs
        have HR := Lib.hid hr
        clear hs hr
        go_wp2_with (first
          | (go_at_call 14; refine HS.out.mono ?_; rintro e w2 ⟨p, rfl, hc2, bv2, hb2⟩; have HC2 := Lib.hid hc2; have d2 : w2.cell? ⟨g, 2, none⟩ = some (.pointer (some ⟨r, 0, none⟩)) := Blk.cell hb2 2; clear hc2 hb2)
          | (go_at_call 15; refine (HR.out _ _ HC2.out).mono ?_; rintro e w3 ⟨rfl, hp3⟩; have HP3 := Lib.hid hp3; clear hp3))
        go_loopw [77] (fun x wr => ∃ j : Nat, j ≤ n2 ∧ x = .int .i64 j ∧ Pinning (k + 1 + j) w g d s r i p J wr) (fun x _ => n2 - (intOf x).toNat)
        case atStart => exact ⟨0, Nat.zero_le _, rfl, HP3.out⟩
        case round =>
          obtain ⟨j, hj, rfl, hM⟩ := hrel
          by_cases hlt2 : j < n2
          · have tk2 : decide ((j : Int) < (n2 : Int)) = true := by simp; omega
            obtain ⟨gb, go, rfl, hrow⟩ := HA2.out.2 j hlt2
            obtain ⟨kd, key, qn, y, q0, q1, q2, q3, hks, hqn, hy⟩ := hrow.below hM.kept
            by_cases h7 : (kd : Int) % 9 = 7
            · have HMA : Hid (∀ o, Pinning (k + 1 + j) w g d s r i p J (wr.alloc o)) := fun o => hM.below ((Below.refl _ wr).alloc (Nat.le_refl _) o)
              clear hM hrow
              go_wp2
              go_roundw
              case rel => exact ⟨j + 1, by omega, by go_num, (HMA.out _).mono (by omega) (by omega)⟩
              case measure => simp [intOf]; omega
            · have h7a : ((kd : Int) % 9 == 7) = false := by simpa using h7
              have h7b : ((kd : Int) % 9 != 7) = true := by simpa using h7
              have HMA : Hid (Pinning (k + 1 + j) w g d s r i p J (wr.alloc (.cells #[.int .u8 (kd : Int), .string key, .int .u16 (qn : Int), .int .u8 (y : Int)] 29))) := hM.below ((Below.refl _ wr).alloc (Nat.le_refl _) _)
              obtain ⟨bv3, hb3⟩ := HMA.out.bench
              have f3 := Blk.frozen hb3 3
              have x3 := Blk.cell hb3 3
              obtain ⟨bv4, hb4⟩ := hM.bench
              have hgl := Blk.lt hb4
              have hgne : wr.heap.size ≠ g := by omega
              have hbx : Blk ((wr.alloc (.cells #[.int .u8 (kd : Int), .string key, .int .u16 (qn : Int), .int .u8 (y : Int)] 29)).setCell ⟨g, 3, none⟩ (.slice none 0 0)) wr.heap.size 29 #[.int .u8 (kd : Int), .string key, .int .u16 (qn : Int), .int .u8 (y : Int)] := (Blk.new wr _ _).far (p := ⟨g, 3, none⟩) hgne _
              have z0 := hbx.cell 0
              have z1 := hbx.cell 1
              have z2 := hbx.cell 2
              have z3 := hbx.cell 3
              have H7 := Lib.hid h7
              have HM0 := Lib.hid hM
              clear hM hrow hb3 hb4 hbx h7
              go_wp2_with (first
                | (go_at_call 13; refine (HM0.out.do_ (by omega) ((Below.refl _ _).alloc (Nat.le_refl _) _) kd key qn y hks hqn hy H7.out).mono ?_; rintro e w5 ⟨rfl, hp5⟩; have HP5 := Lib.hid hp5; obtain ⟨gq, nq, cp, Aq, cq, hiq, hnq, ⟨e1, e2, e3, e4⟩, hpin⟩ := hp5.look; have HPIN := Lib.hid hpin; have hi0 : (0 : Int) ≤ (i : Int) := (by omega); have hi1 : (i : Int) < (nq : Int) := (by omega); clear hp5 hpin)
                | (go_at_call 16; refine HPIN.out.mono ?_; rintro e w6 ⟨rfl, hb6⟩; have HP6 := Lib.hid (HP5.out.below hb6); clear hb6))
              go_roundw
              case rel => exact ⟨j + 1, by omega, by go_num, HP6.out⟩
              case measure => simp [intOf]; omega
          · obtain rfl : j = n2 := by omega
            have tk2 : decide ((j : Int) < (j : Int)) = false := by simp
            obtain ⟨bv3, hb3⟩ := hM.bench
            have e2 : wr.cell? ⟨g, 2, none⟩ = some (.pointer (some ⟨r, 0, none⟩)) := Blk.cell hb3 2
            obtain ⟨fr, hh⟩ := hM.half
            have HH := Lib.hid hh
            clear hM hb3 hh
            go_wp2_with (go_at_call 17; refine HH.out.mono ?_; rintro e w5 ⟨rfl, hh5⟩; have H5 := Lib.hid hh5; obtain ⟨⟨bv5, hb5⟩, _⟩ := hh5; have u1 : w5.cell? ⟨g, 1, none⟩ = some (.pointer (some ⟨s, 0, none⟩)) := Blk.cell hb5 1; have u2 : w5.cell? ⟨g, 2, none⟩ = some (.pointer (some ⟨r, 0, none⟩)) := Blk.cell hb5 2; clear hb5)
            go_region_held3 (fun w' => w'.cell? ⟨g, 1, none⟩ = some (.pointer (some ⟨s, 0, none⟩)) ∧ w'.cell? ⟨g, 2, none⟩ = some (.pointer (some ⟨r, 0, none⟩))) (go_keep)
              ((first
                | (go_at_call 12; refine (awake_calls _).mono ?_; rintro e wb ⟨rfl, hbb⟩; have HBB := Lib.hid (HB9.out.below hbb); obtain ⟨bvb, hb⟩ := HBB.out.bench; have b1 : wb.cell? ⟨g, 1, none⟩ = some (.pointer (some ⟨s, 0, none⟩)) := Blk.cell hb 1; have b2 : wb.cell? ⟨g, 2, none⟩ = some (.pointer (some ⟨r, 0, none⟩)) := Blk.cell hb 2; clear hb hbb)
                | (go_at_call 20; refine HB8.out.freeR.mono ?_; rintro e w9 ⟨rfl, hb9⟩; have HB9 := Lib.hid (HB8.out.below hb9); obtain ⟨bv9, hb⟩ := HB9.out.bench; have y1 : w9.cell? ⟨g, 1, none⟩ = some (.pointer (some ⟨s, 0, none⟩)) := Blk.cell hb 1; have y2 : w9.cell? ⟨g, 2, none⟩ = some (.pointer (some ⟨r, 0, none⟩)) := Blk.cell hb 2; clear hb hb9)
                | (go_at_call 19; refine HB7.out.free.mono ?_; rintro e w8 ⟨rfl, hb8⟩; have HB8 := Lib.hid (HB7.out.below hb8); obtain ⟨bv8, hb⟩ := HB8.out.bench; have x1 : w8.cell? ⟨g, 1, none⟩ = some (.pointer (some ⟨s, 0, none⟩)) := Blk.cell hb 1; have x2 : w8.cell? ⟨g, 2, none⟩ = some (.pointer (some ⟨r, 0, none⟩)) := Blk.cell hb 2; clear hb hb8)
                | (go_at_call 18; refine HB6.out.release.mono ?_; rintro e w7 ⟨rfl, hb7⟩; have HB7 := Lib.hid (HB6.out.below hb7); obtain ⟨bv7, hb⟩ := HB7.out.bench; have w1' : w7.cell? ⟨g, 1, none⟩ = some (.pointer (some ⟨s, 0, none⟩)) := Blk.cell hb 1; have w2' : w7.cell? ⟨g, 2, none⟩ = some (.pointer (some ⟨r, 0, none⟩)) := Blk.cell hb 2; clear hb hb7)
                | (go_at_call 18; refine (H5.out.2 _ ((Below.refl _ _).drewN_ 1)).mono ?_; rintro e w6 ⟨rfl, hf6⟩; have HB6 := Lib.hid hf6; obtain ⟨bv6, hb⟩ := HB6.out.bench; have v1 : w6.cell? ⟨g, 1, none⟩ = some (.pointer (some ⟨s, 0, none⟩)) := Blk.cell hb 1; have v2 : w6.cell? ⟨g, 2, none⟩ = some (.pointer (some ⟨r, 0, none⟩)) := Blk.cell hb 2; clear hb hf6)))
            all_goals
              go_wp2
              go_ret
              exact ⟨rfl, HBB.out.kept⟩

theorem pins_calls (w : World) (A1 : Option Addr) (n1 c1 : Nat) (A2 : Option Addr) (n2 c2 : Nat) (hA1 : OpArg w A1 n1) (hA2 : OpArg w A2 n2) :
    Calls Tryz.prog 3 #[.slice A1 n1 c1, .slice A2 n2 c2] w fun e w' => e = .returned (.bool true) ∧ Below w.heap.size w w' := by
  by_cases h : 20 < n1 ∨ 20 < n2
  · exact pins_big w A1 n1 c1 A2 n2 c2 h hA1.1 hA2.1
  · exact pins_small w A1 n1 c1 A2 n2 c2 (by omega) (by omega) hA1 hA2

end Go.Proofs.YtbgiklkpinflaaaGreat
