/- Blocks, length. -/
import Derived.Test.YtbgiklkpinflaaaGreatKeyCount
namespace Go.Proofs.YtbgiklkpinflaaaGreat
open Go.RowKit Go.Shelf Go.Maps

set_option maxHeartbeats 1000000 in
theorem blocks_any (b n c : Nat) (A : Option Addr) (w : World) (h0 : w.cell? ⟨b, 0, none⟩ = some (.slice A n c)) (hn : 0 < n) (hm : n ≤ 1024) :
    Calls Tryz.prog 98 #[.pointer (some ⟨b, 0, none⟩)] w fun e w' => e = .returned (.int .i64 (n : Int)) ∧ w = w' := by
  go_enter Tryz.func98, Tryz.ntmps98
  go_wp2_with (go_at_call 79; refine (none_not b n c A _ h0 hn hm).mono ?_; rintro e w' ⟨rfl, rfl⟩)
  go_ret
  exact ⟨rfl, rfl⟩
theorem blocks_at {P : Nat → Prop} {w : World} {b : Nat} {D : Dsk} {S : List Nat} (h : DiskAt P w b D S) : Calls Tryz.prog 98 #[.pointer (some ⟨b, 0, none⟩)] w fun e w' => e = .returned (.int .i64 (D.blocks.length : Int)) ∧ w = w' := by
  obtain ⟨ho, g1, cur1, pv, ps, rfl, hr⟩ := h
  exact blocks_any b _ _ _ w hr.c0 ho.some_ ho.few

/-- How long the list of a place is. -/
def keyLen (ps : List (List UInt8 × Place)) (k : List UInt8) : Nat := 8 + k.length + 2 * ((mget ps k).map fun p => p.blocks.length).getD 0
def sumLen (ps : List (List UInt8 × Place)) (rem : List (List UInt8 × Value)) : Nat := (rem.map fun p => keyLen ps p.1).sum
theorem sumLen_del {ps : List (List UInt8 × Place)} {rem : List (List UInt8 × Value)} (hs : Srt rem) {k : List UInt8} {v : Value} (h : (k, v) ∈ rem) : sumLen ps rem = keyLen ps k + sumLen ps (mdel rem k) := by
  unfold sumLen
  rw [((srt_perm hs h).map (fun p => keyLen ps p.1)).sum_nat]
  simp

theorem sumLen_all {l : List (List UInt8 × (Value × Place))} (hs : Srt (mmap (·.2) l)) : sumLen (mmap (·.2) l) (mmap (·.1) l) = (writtenOf (mmap (·.2) l)).length := by
  have key : ∀ (m : List (List UInt8 × (Value × Place))), (∀ x ∈ m, mget (mmap (·.2) l) x.1 = some x.2.2) → sumLen (mmap (·.2) l) (mmap (·.1) m) = (writtenOf (mmap (·.2) m)).length := by
    intro m
    induction m with
    | nil => intro _; rfl
    | cons x r ih =>
      intro h
      have e1 : writtenOf (mmap (·.2) (x :: r)) = placeBytes (x.1, x.2.2) ++ writtenOf (mmap (·.2) r) := rfl
      have e2 : sumLen (mmap (·.2) l) (mmap (·.1) (x :: r)) = keyLen (mmap (·.2) l) x.1 + sumLen (mmap (·.2) l) (mmap (·.1) r) := by simp [sumLen, mmap]
      rw [e1, e2, ih (fun y hy => h y (by simp [hy])), List.length_append, placeBytes_length, keyLen, h x (by simp)]
      rfl
  refine key l fun x hx => ?_
  obtain ⟨i, hi⟩ := List.getElem?_of_mem hx
  exact mget_at hs (k := i) (x := (x.1, x.2.2)) (by simp [mmap, hi])

def LenLoop (w : World) (ps : List (List UInt8 × Place)) (M rem : List (List UInt8 × Value)) (wr : World) : Prop :=
  Below w.heap.size w wr ∧ sumLen ps rem ≤ sumLen ps M ∧ Srt rem ∧ w.heap.size < wr.heap.size

theorem len_round {w w1 wr : World} {mb : Nat} {ps : List (List UInt8 × Place)} {M rem : List (List UInt8 × Value)} {k : List UInt8} {v : Value} {x x' : Int} (o : Obj) (hB1 : Below w.heap.size w w1) (hr1 : RangeAt w1 mb w.heap.size M (mdel rem k)) (hlt : w1.rangeLeft mb w.heap.size < wr.rangeLeft mb w.heap.size)
    (hle : sumLen ps rem ≤ sumLen ps M) (hs : Srt rem) (hmem : (k, v) ∈ rem) (hsz : w.heap.size < w1.heap.size) (hx : x = (sumLen ps M : Int) - sumLen ps rem) (e : x' = x + keyLen ps k) :
    (∃ rem', RangeAt (w1.alloc o) mb w.heap.size M rem' ∧ Value.int .i64 x' = .int .i64 ((sumLen ps M : Int) - sumLen ps rem') ∧ LenLoop w ps M rem' (w1.alloc o)) ∧ (w1.alloc o).rangeLeft mb w.heap.size < wr.rangeLeft mb w.heap.size := by
  obtain ⟨h1, h2⟩ := hr1.keeps (F := fun _ => False) ((Keeps.refl _ w1).alloc o) id id
  have hd := sumLen_del (ps := ps) hs hmem
  refine ⟨⟨mdel rem k, h1, ?_, hB1.alloc (by omega) o, by omega, hs.filter_ _, by simp; omega⟩, by rw [h2]; exact hlt⟩
  congr 1
  rw [e, hx, hd]
  omega

set_option maxRecDepth 100000 in
set_option maxHeartbeats 4000000 in
theorem length_calls {mb : Nat} {ps : List (List UInt8 × Place)} (w : World) (h : PlacesAt w mb ps) (hs : Srt ps) (hk : ∀ x ∈ ps, x.1.length ≤ 64) (hp : ∀ x ∈ ps, x.2.blocks.length ≤ 274) (hfew : ps.length ≤ 2000) :
    Calls Tryz.prog 113 #[.map (some mb)] w fun e w' => e = .returned (.int .i64 ((writtenOf ps).length : Int)) ∧ Below w.heap.size w w' := by
  obtain ⟨l, hM, rfl, hpl⟩ := h
  have hsrt : Srt (mmap (fun x : Value × Place => x.1) l) := by
    unfold Srt mmap at hs ⊢
    rw [List.pairwise_map] at hs ⊢
    exact hs
  have hall := sumLen_all hs
  obtain ⟨ps, hps⟩ : ∃ ps, ps = mmap (fun x : Value × Place => x.2) l := ⟨_, rfl⟩
  obtain ⟨M, hMe⟩ : ∃ M, M = mmap (fun x : Value × Place => x.1) l := ⟨_, rfl⟩
  rw [← hps] at hs hk hp hfew
  rw [← hps]
  rw [← hps, ← hMe] at hall
  rw [← hMe] at hM hsrt
  have htot : sumLen ps M ≤ 2000000 := by
    rw [hall]
    have : ∀ qs : List (List UInt8 × Place), (∀ x ∈ qs, x.1.length ≤ 64) → (∀ x ∈ qs, x.2.blocks.length ≤ 274) → (writtenOf qs).length ≤ 700 * qs.length := by
      intro qs
      induction qs with
      | nil => intro _ _; simp [writtenOf]
      | cons x r ih =>
        intro h1 h2
        have e : writtenOf (x :: r) = placeBytes x ++ writtenOf r := rfl
        rw [e, List.length_append, placeBytes_length, List.length_cons]
        have a := h1 x (by simp)
        have b := h2 x (by simp)
        have c := ih (fun y hy => h1 y (by simp [hy])) (fun y hy => h2 y (by simp [hy]))
        omega
    have := this ps hk hp
    omega
  have HM := Lib.hid hM
  have HS := Lib.hid hsrt
  have HAL := Lib.hid hall
  have HPS := Lib.hid hps
  have HMe := Lib.hid hMe
  have HPL := Lib.hid hpl
  have HK := Lib.hid hk
  have HPB := Lib.hid hp
  have HSS := Lib.hid hs
  clear hM hsrt hall hps hMe hpl hk hp hs
  go_enter Tryz.func113, Tryz.ntmps113
  go_wp2_with (at_range; refine wpList_mrange _ rfl _ _ rfl 130 Tryz.underlying131 mb M rfl ?hM ?_)
  case hM => exact HM.out
  intro w0 hr0 hg0 hs0
  have hB0 : Below w.heap.size w w0 := (Below.refl _ w).grown hg0 (Nat.le_refl _) (fun _ h => by cases h)
  have hnw : w.heap.size < w0.heap.size := by omega
  have HR0 := Lib.hid hr0
  clear hr0 hg0 hs0
  go_wp2
  go_loopw [3] (fun v wr => ∃ rem, RangeAt wr mb w.heap.size M rem ∧ v = .int .i64 ((sumLen ps M : Int) - sumLen ps rem) ∧ LenLoop w ps M rem wr) (fun _ wr => wr.rangeLeft mb w.heap.size)
  case atStart => exact ⟨M, HR0.out, by congr 1; omega, hB0, Nat.le_refl _, HS.out, hnw⟩
  case round =>
    obtain ⟨rem, hr, rfl, hB, hle, hsr, hlt⟩ := hrel
    have HR := Lib.hid hr
    have HSR := Lib.hid hsr
    clear hr hsr
    obtain ⟨x, hx⟩ : ∃ x : Int, x = (sumLen ps M : Int) - sumLen ps rem := ⟨_, rfl⟩
    have hx0 : 0 ≤ x := by omega
    have hx1 : x ≤ 2000000 := by omega
    rw [← hx]
    have HX := Lib.hid hx
    clear hx
    go_wp2_with (at_next; refine wpList_mnext _ rfl _ rfl mb w.heap.size M rem rfl HR.out ?_ ?_)
    · intro hrem
      have HREM := Lib.hid hrem
      clear hrem
      go_wp2
      go_ret
      refine ⟨ret_int ?_, hB⟩
      have e1 := HX.out
      rw [HREM.out] at e1
      have e2 : sumLen ps [] = 0 := rfl
      rw [e2] at e1
      have e3 := HAL.out
      omega
    · intro key v w1 hks hget hmem hr1 hlt1 hg1 hs1 hen
      have hB1 : Below w.heap.size w w1 := hB.grown hg1 (by omega) (fun _ h => by cases h; omega)
      have hw1 : w.heap.size < w1.heap.size := by omega
      have hpv : ∃ y1 y2 A n c, v = .agg #[.int .i64 y1, .int .u32 y2, .slice A n c] ∧ n ≤ 274 ∧ key.size ≤ 64 ∧ keyLen ps key.data.toList = 8 + key.size + 2 * n := by
        rw [HMe.out, mget_mmap] at hget
        cases hq : mget l key.data.toList with
        | none => rw [hq] at hget; cases hget
        | some q =>
          rw [hq] at hget
          have e : q.1 = v := by simpa using hget
          have hm := mget_mem hq
          have hm2 : (key.data.toList, q.2) ∈ ps := by rw [HPS.out]; exact List.mem_map.2 ⟨_, hm, rfl⟩
          obtain ⟨sv', hv', A, c, hA, _⟩ := HPL.out _ hm
          subst hA
          have h1 := HK.out _ hm2
          have h2 := HPB.out _ hm2
          have hsz : key.data.toList.length = key.size := by rw [Array.length_toList]; rfl
          refine ⟨_, _, _, _, _, by rw [← e]; exact hv', h2, by rw [← hsz]; exact h1, ?_⟩
          have hg : mget ps key.data.toList = some q.2 := by rw [HPS.out, mget_mmap, hq]; rfl
          unfold keyLen
          rw [hg, hsz]
          rfl
      obtain ⟨y1, y2, A, nb, c, rfl, hnb, hk64, hkl⟩ := hpv
      have HKL := Lib.hid hkl
      have HR1 := Lib.hid hr1
      have HMEM := Lib.hid hmem
      have HLT := Lib.hid hlt1
      have HKS := Lib.hid hks
      have HB1 := Lib.hid hB1
      clear hr1 hmem hlt1 hks hget hg1 hB1 hs1 hkl
      go_wp2
      exact len_round _ HB1.out HR1.out HLT.out hle HSR.out HMEM.out hw1 HX.out (by rw [HKL.out]; omega)

end Go.Proofs.YtbgiklkpinflaaaGreat
