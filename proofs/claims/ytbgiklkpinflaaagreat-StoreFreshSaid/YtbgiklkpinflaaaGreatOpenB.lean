/- get, slices.Index and slices.Contains of whole numbers, chained. -/
import Derived.Test.YtbgiklkpinflaaaGreatOpenA
import Derived.Test.YtbgiklkpinflaaaGreatGetA
import Derived.Test.YtbgiklkpinflaaaGreatSnapA
import Derived.Laws.BitsAllLaws
namespace Go.Proofs.YtbgiklkpinflaaaGreat
open Go.RowKit Go.Shelf Go.Maps
attribute [local go_sem ↓] Go.wp_at_zero Go.wp_at_succ

theorem or_byte (v x : Nat) (hv : v * 256 < 18446744073709551616) (hx : x < 256) : bits .or .u64 ((v * 256 : Nat) : Int) (x : Int) = ((v * 256 + x : Nat) : Int) := by
  rw [Go.u64_or_nat _ _ hv (by omega)]
  have h := Nat.shiftLeft_add_eq_or_of_lt (i := 8) (b := x) (by omega) v
  rw [Nat.shiftLeft_eq] at h
  rw [← h]
theorem unbe_take_next (l : List UInt8) {k : Nat} (h : k < l.length) : unbe (l.take (k + 1)) = unbe (l.take k) * 256 + (l[k]).toNat := by
  rw [List.take_succ_eq_append_getElem h, unbe_snoc]
theorem unbe_take_le (l : List UInt8) {k : Nat} (h : k < 8) : unbe (l.take k) < 72057594037927936 := by
  have h1 := unbe_lt (l.take k)
  have h2 : (l.take k).length ≤ 7 := by rw [List.length_take]; omega
  exact Nat.lt_of_lt_of_le h1 (Nat.le_trans (Nat.pow_le_pow_right (by decide) h2) (by decide))

set_option maxRecDepth 100000 in
set_option maxHeartbeats 4000000 in
theorem get_num (g o n c : Nat) (l : List UInt8) (k : Nat) (w : World) (hk : k ≤ 8) (hkn : k ≤ n) (hnc : n ≤ c) (hl : k ≤ l.length) (hc : Cells w g o (l.map bv)) :
    Calls Tryz.prog 124 #[.slice (some ⟨g, o, none⟩) n c, .int .i64 (k : Int)] w fun e w' => e = .returned (.int .u64 ((unbe (l.take k) : Nat) : Int)) ∧ w = w' := by
  have hkc : k ≤ c := by omega
  have HC := Lib.hid hc
  clear hc
  go_enter Tryz.func124, Tryz.ntmps124
  go_wp2
  go_loopw [5, 12] (fun v i wr => ∃ j : Nat, j ≤ k ∧ i = .int .i64 j ∧ v = .int .u64 ((unbe (l.take j) : Nat) : Int) ∧ w = wr) (fun _ i _ => k - (intOf i).toNat)
  case atStart => exact ⟨0, Nat.zero_le _, rfl, rfl, rfl⟩
  case round =>
    obtain ⟨j, hj, rfl, rfl, rfl⟩ := hrel
    by_cases hlt : j < k
    · have tk : decide ((j : Int) < (k : Int)) = true := by simp; omega
      have hjl : j < l.length := by omega
      have q1 : w.cell? ⟨g, o + j, none⟩ = some (.int .u8 ((l[j].toNat : Nat) : Int)) := by
        have := HC.out j (bv l[j]) (by rw [List.getElem?_map, List.getElem?_eq_getElem hjl]; rfl)
        exact this
      have hx := (l[j]).toNat_lt
      have hs := unbe_take_le l (k := j) (by omega)
      have hor := or_byte (unbe (l.take j)) (l[j]).toNat (by omega) (by omega)
      have hne := unbe_take_next l hjl
      obtain ⟨x, hxe⟩ : ∃ x, x = (l[j]).toNat := ⟨_, rfl⟩
      obtain ⟨v, hve⟩ : ∃ v, v = unbe (l.take j) := ⟨_, rfl⟩
      rw [← hxe] at q1 hor hx hne
      rw [← hve] at hor hs hne ⊢
      have HN := Lib.hid hne
      have hsh : IntKind.u64.wrap ((v : Int) * 2 ^ min (Int.toNat 8) IntKind.u64.bits) = ((v * 256 : Nat) : Int) := by
        have e : (2 : Int) ^ min (Int.toNat 8) IntKind.u64.bits = 256 := by decide
        rw [e]
        show ((v : Int) * 256) % 18446744073709551616 = _
        omega
      clear hne hxe hve
      go_wp2
      refine ⟨⟨j + 1, by omega, by go_num, ?_, trivial⟩, by simp [intOf]; omega⟩
      have e : ((v * 256 : Nat) : Int) = (v : Int) * 256 := by omega
      rw [← e, hor, HN.out]
    · obtain rfl : j = k := by omega
      have tk : decide ((j : Int) < (j : Int)) = false := by simp
      go_wp2
      go_ret
      exact ⟨rfl, rfl⟩

/-- The place of a number in a list, as slices.Index has it. -/
theorem index_calls {v : Value} {bs : List Nat} (x : Nat) (w : World) (h : NumsAt w v bs) (hl : bs.length ≤ 1000000000) :
    Calls Tryz.prog 151 #[v, .int .i64 (x : Int)] w fun e w' => ∃ k : Int, e = .returned (.int .i64 k) ∧ (decide (0 ≤ k) = decide (x ∈ bs)) ∧ w = w' := by
  obtain ⟨A, c, rfl, _⟩ := id h
  have HN := Lib.hid h
  clear h
  go_enter Tryz.func151, Tryz.ntmps151
  go_wp2
  go_loopw [8] (fun i wr => ∃ j : Nat, j ≤ bs.length ∧ i = .int .i64 j ∧ w = wr ∧ ∀ y ∈ bs.take j, y ≠ x) (fun i _ => bs.length - (intOf i).toNat)
  case atStart => exact ⟨0, Nat.zero_le _, rfl, rfl, fun y hy => by simp at hy⟩
  case round =>
    obtain ⟨j, hj, rfl, rfl, hne⟩ := hrel
    have HNE := Lib.hid hne
    clear hne
    by_cases hlt : j < bs.length
    · have tk : decide ((j : Int) < (bs.length : Int)) = true := by simp; omega
      obtain ⟨g, rfl, hc⟩ := HN.out.cell (by omega)
      have q1 := hc j hlt
      obtain ⟨b, hb⟩ : ∃ b, b = bs[j] := ⟨_, rfl⟩
      rw [← hb] at q1
      have HB := Lib.hid hb
      clear hb hc
      by_cases he : x = b
      · have tb : ((x : Int) == (b : Int)) = true := by simp; omega
        have HE := Lib.hid he
        clear he
        go_wp2
        go_ret
        refine ⟨_, rfl, ?_, rfl⟩
        have : x ∈ bs := by rw [HE.out, HB.out]; exact List.getElem_mem hlt
        simp [this]
      · have tb : ((x : Int) == (b : Int)) = false := by simp; omega
        have HE := Lib.hid he
        clear he
        go_wp2
        refine ⟨⟨j + 1, by omega, by go_num, trivial, fun y hy => ?_⟩, by simp [intOf]; omega⟩
        rw [List.take_succ_eq_append_getElem hlt] at hy
        rcases List.mem_append.1 hy with hy | hy
        · exact HNE.out y hy
        · rw [List.mem_singleton] at hy
          rw [hy, ← HB.out]
          exact fun e => HE.out e.symm
    · have hj2 : j = bs.length := by omega
      have tk : decide ((j : Int) < (bs.length : Int)) = false := by simp; omega
      have HJ := Lib.hid hj2
      clear hj2
      go_wp2
      go_ret
      refine ⟨_, rfl, ?_, rfl⟩
      have : x ∉ bs := fun hm => by
        have := HNE.out
        rw [HJ.out, List.take_length] at this
        exact this x hm rfl
      simp [this]
theorem contains_calls {v : Value} {bs : List Nat} (x : Nat) (w : World) (h : NumsAt w v bs) (hl : bs.length ≤ 1000000000) :
    Calls Tryz.prog 137 #[v, .int .i64 (x : Int)] w fun e w' => e = .returned (.bool (decide (x ∈ bs))) ∧ w = w' := by
  have HI := Lib.hid (index_calls x w h hl)
  obtain ⟨A, c, rfl, _⟩ := h
  go_enter Tryz.func137, Tryz.ntmps137
  go_wp2_with (go_at_call 151; refine HI.out.mono ?_; rintro e w' ⟨k, rfl, hk, rfl⟩)
  go_ret
  exact ⟨rfl, rfl⟩

theorem own_slice3 {w : World} {base n size : Nat} {e : TypeId} {v : Value} {xs : List Value} (h : w.ownsRow base e size v n xs) : ∃ A c, v = .slice A n c ∧ n ≤ c ∧ c ≤ maxLen := by
  rcases h.2 with ⟨rfl, h0⟩ | ⟨g, cap, cur, rfl, _, _, hnc, hcm, _⟩
  · exact ⟨none, 0, by rw [h0], by omega, Nat.zero_le _⟩
  · exact ⟨_, cap, rfl, hnc, hcm⟩
theorem own_apart {w : World} {b1 b2 n1 n2 s1 s2 : Nat} {e1 e2 : TypeId} {v1 v2 : Value} {x1 x2 : List Value} (h1 : w.ownsRow b1 e1 s1 v1 n1 x1) (h2 : w.ownsRow b2 e2 s2 v2 n2 x2) (hne : e1 ≠ e2) : ∀ g, v1.ownBlock = some g → v2.ownBlock ≠ some g := by
  intro g h3 h4
  obtain ⟨c1, hb1⟩ := own_is_blk h1 h3
  obtain ⟨c2, hb2⟩ := own_is_blk h2 h4
  exact hne (hb1.det hb2).2
def sliceLen : Value → Nat | .slice _ n _ => n | _ => 0
@[simp] theorem sliceLen_slice (A : Option Addr) (n c : Nat) : sliceLen (.slice A n c) = n := rfl

/-- A chain, read as far as bs. -/
def Chaining (B : Nat) (w : World) (D : Dsk) (K : Nat) (R : Option (List Nat)) (vo vb va : Value) (wr : World) : Prop :=
  ∃ (bs : List Nat) (at_ k : Nat), va = .int .i64 (at_ : Int) ∧ at_ ≤ 65535 ∧ bs.length + k = K ∧ chainOf D k at_ bs = R ∧ (∀ b ∈ bs, b < D.blocks.length) ∧
    wr.ownsRow B 5 1 vo (readAll D bs).length ((readAll D bs).map bv) ∧ wr.ownsRow B 3 1 vb bs.length (bs.map nv) ∧ Below B w wr
theorem chaining_step {B : Nat} {w w2 w8 w9 : World} {D : Dsk} {K k at_ : Nat} {R : Option (List Nat)} {bs : List Nat} {vo vb vo' vb' : Value} (hk : bs.length + (k + 1) = K) (hR : chainOf D (k + 1) at_ bs = R) (h2 : 2 ≤ at_ ∧ at_ < D.blocks.length ∧ at_ ∉ bs) (hb : ∀ b ∈ bs, b < D.blocks.length) (hl : (D.see at_).length = 256)
    (hB : Below B w w2) (hBw : B ≤ w2.heap.size) (ho2 : w2.ownsRow B 5 1 vo (readAll D bs).length ((readAll D bs).map bv))
    (ho8 : w8.ownsRow B 5 1 vo' ((readAll D bs).length + 240) ((readAll D bs).map bv ++ ((D.see at_).take 240).map bv)) (hg8 : w2.grownBy w8 vo.ownBlock)
    (hi8 : w8.ownsRow B 3 1 vb bs.length (bs.map nv)) (o : Obj) (hi9 : w9.ownsRow B 3 1 vb' (bs.length + 1) (bs.map nv ++ [.int .i64 (at_ : Int)])) (hg9 : (w8.alloc o).grownBy w9 vb.ownBlock) :
    Chaining B w D K R vo' vb' (.int .i64 ((numAt (D.see at_) 240 2 : Nat) : Int)) w9 := by
  have hB8 : Below B w w8 := hB.grown hg8 hBw (own_ge ho2)
  have hs8 : B ≤ (w8.alloc o).heap.size := by rw [World.size_alloc]; have := hg8.size; omega
  have hB9 : Below B w w9 := (hB8.alloc (by rw [World.size_alloc] at hs8; have := hg8.size; omega) o).grown hg9 hs8 (own_ge hi8)
  have e1 : readAll D (bs ++ [at_]) = readAll D bs ++ (D.see at_).take 240 := by unfold readAll; rw [List.flatMap_append, List.flatMap_singleton]
  have hx : numAt (D.see at_) 240 2 < 65536 := numAt_lt (D.see at_) 240 2
  refine ⟨bs ++ [at_], numAt (D.see at_) 240 2, k, rfl, by omega, by rw [List.length_append, List.length_singleton]; omega, ?_, fun b hm => ?_, ?_, ?_, hB9⟩
  · rw [← hR]
    show _ = if _ then _ else _
    rw [if_pos h2]
  · rcases List.mem_append.1 hm with hm | hm
    · exact hb b hm
    · rw [List.mem_singleton] at hm
      rw [hm]
      exact h2.2.1
  · rw [e1, List.length_append, List.length_take, hl, List.map_append]
    refine ownsRow_keeps (ho8.alloc o) (Keeps.of_grown (F := fun g => vb.ownBlock = some g) hg9 fun g h => h) fun g h1 h2 => ?_
    exact own_apart (hi8.alloc o) (ho8.alloc o) (by decide) g h2 h1
  · rw [List.length_append, List.map_append]
    exact hi9

/-- What chained returns. -/
def ChainPost (w : World) (D : Dsk) (size : Nat) (R : Option (List Nat)) (e : Ending) (w' : World) : Prop :=
  Below w.heap.size w w' ∧ ((R = none ∧ e = .returned (.tuple #[.slice none 0 0, .slice none 0 0, .bool false])) ∨
    ∃ bs g c vb, R = some bs ∧ (∀ b ∈ bs, b < D.blocks.length) ∧ bs.length = max 1 (need size) ∧ e = .returned (.tuple #[.slice (some ⟨g, 0, none⟩) size c, vb, .bool true]) ∧ size ≤ c ∧ Cells w' g 0 (((readAll D bs).take size).map bv) ∧ NumsAt w' vb bs)
set_option maxRecDepth 100000 in
set_option maxHeartbeats 8000000 in
theorem chained_calls {P : Nat → Prop} {d : Nat} {D : Dsk} {S : List Nat} (w : World) (hD : DiskAt P w d D S) (hdn : D.down = false) (hpen : D.pending.length ≤ 1000000000) (h5 : D.blocks.length ≤ 1024) (first size : Nat) (hf : first ≤ 65535) (hsz : size ≤ 245760) :
    Calls Tryz.prog 125 #[.pointer (some ⟨d, 0, none⟩), .int .i64 (first : Int), .int .i64 (size : Int)] w (ChainPost w D size (chainOf D (max 1 (need size)) first [])) := by
  obtain ⟨K, hK⟩ : ∃ K, K = max 1 (need size) := ⟨_, rfl⟩
  obtain ⟨R, hR⟩ : ∃ R, R = chainOf D (max 1 (need size)) first [] := ⟨_, rfl⟩
  rw [← hR]
  have hKn : K = max 1 ((size + 239) / 240) := hK
  have hmx : max (1 : Int) (((size : Int) + 239) / 240) = (K : Int) := by omega
  have hK1 : 1 ≤ K := by omega
  have hK2 : K ≤ 1024 := by omega
  have hK3 : size ≤ 240 * K := by omega
  have HR := Lib.hid hR
  have HK := Lib.hid hK
  have HD := Lib.hid hD
  have HDN := Lib.hid hdn
  have H5 := Lib.hid h5
  obtain ⟨iu, hiu, hz0, hz1, hz2⟩ := info_parts Tryz.infoU8
  obtain ⟨ii, hii, hiz0, hiz1, hiz2⟩ := info_parts Tryz.infoInt
  clear hR hK hKn hD hdn h5
  go_enter Tryz.func125, Tryz.ntmps125
  go_wp2
  go_loopw [9, 10, 11] (fun vo vb va wr => Chaining w.heap.size w D K R vo vb va wr) (fun _ vb _ _ => K - sliceLen vb)
  case atStart => exact ⟨[], first, K, rfl, hf, by simp, by rw [HR.out, HK.out], fun b hb => by simp at hb, World.ownsRow_nil w _ _ _, World.ownsRow_nil w _ _ _, Below.refl _ _⟩
  case round =>
    obtain ⟨bs, at_, k, rfl, ha, hk, hc, hb, hown, hint, hB⟩ := hrel
    obtain ⟨Ao, co, rfl, hoc, hom⟩ := own_slice3 hown
    obtain ⟨Ai, ci, rfl, hic, him⟩ := own_slice3 hint
    have HC := Lib.hid hc
    have HB := Lib.hid hB
    have HBB := Lib.hid hb
    have HOWN := Lib.hid hown
    have HINT := Lib.hid hint
    clear hc hB hb hown hint
    cases k with
    | zero =>
      have tk : decide ((bs.length : Int) < (K : Int)) = false := by simp; omega
      have hrl : (readAll D bs).length = 240 * K := by
        rw [readAll_length HD.out.1 HBB.out]
        omega
      have hszc : size ≤ co := by omega
      have HRL := Lib.hid hrl
      clear hrl
      rcases HOWN.out.2 with ⟨hn, h0⟩ | ⟨g, cap, cur, hv, hge, hblk, hnc, hcm, hcs, ht⟩
      · have := HRL.out
        omega
      · simp only [Value.slice.injEq] at hv
        obtain ⟨rfl, _, rfl⟩ := hv
        have HCE : Hid (Cells wr g 0 (((readAll D bs).take size).map bv)) := by
          show Cells _ _ _ _
          rw [List.map_take]
          have h1 := take_cells hblk (show cur.toList.take (readAll D bs).length = (readAll D bs).map bv by simpa using ht)
          intro j u hj
          rw [List.getElem?_take] at hj
          split at hj
          · exact h1 j u hj
          · cases hj
        clear hge hblk hnc hcm hcs ht
        go_wp2_with (go_at_call 111; refine (needed_calls size _ (by omega)).mono ?_; rintro e w' ⟨rfl, rfl⟩)
        go_ret3
        refine ⟨HB.out, .inr ⟨bs, g, co, .slice Ai bs.length ci, HC.out.symm, HBB.out, by rw [← HK.out]; omega, rfl, hszc, HCE.out, NumsAt.of_own HINT.out⟩⟩
    | succ k =>
      have tk : decide ((bs.length : Int) < (K : Int)) = true := by simp; omega
      have HDr := Lib.hid (HD.out.below HB.out)
      by_cases hin : at_ < D.blocks.length
      · have hrd : D.read (at_ : Int) = (0, D.see at_) := by
          unfold Dsk.read
          rw [HDN.out, if_neg (by simp), if_neg (by omega)]
          rfl
        have hln : (D.see at_).length = 256 := Dsk.see_length HD.out.1 hin
        have HRD := Lib.hid hrd
        have HLN := Lib.hid hln
        clear hrd hln
        by_cases h2 : at_ < 2
        · have t2 : decide ((at_ : Int) < 2) = true := by simp; omega
          go_wp2_with (first
            | (go_at_call 111; refine (needed_calls size _ (by omega)).mono ?_; rintro e w' ⟨rfl, rfl⟩)
            | (go_at_call 91; refine (read_any _ HDr.out hpen _).mono ?_; rw [HRD.out]; rintro e w2 ⟨v2, rfl, hgot, hb2⟩; have HB2 := Lib.hid hb2; clear hgot hb2))
          go_ret3
          refine ⟨HB.out.trans (HB2.out.mono HB.out.size), .inl ⟨?_, rfl⟩⟩
          rw [← HC.out]
          show (if _ then _ else _) = _
          rw [if_neg (by omega)]
        · have t2 : decide ((at_ : Int) < 2) = false := by simp; omega
          by_cases hm : at_ ∈ bs
          · have t3 : decide (at_ ∈ bs) = true := by simpa using hm
            have HM := Lib.hid hm
            clear hm
            go_wp2_with (first
              | (go_at_call 111; refine (needed_calls size _ (by omega)).mono ?_; rintro e w' ⟨rfl, rfl⟩)
              | (go_at_call 137; refine (contains_calls at_ _ ((NumsAt.of_own HINT.out).below HB2.out) (by omega)).mono ?_; rw [t3]; rintro e w3 ⟨rfl, rfl⟩)
              | (go_at_call 91; refine (read_any _ HDr.out hpen _).mono ?_; rw [HRD.out]; rintro e w2 ⟨v2, rfl, hgot, hb2⟩; have HB2 := Lib.hid hb2; clear hgot hb2))
            go_ret3
            refine ⟨HB.out.trans (HB2.out.mono HB.out.size), .inl ⟨?_, rfl⟩⟩
            rw [← HC.out]
            show (if _ then _ else _) = _
            rw [if_neg fun h => h.2.2 HM.out]
          · have t3 : decide (at_ ∈ bs) = false := by simpa using hm
            have HM := Lib.hid hm
            clear hm
            go_wp2_with (first
              | (go_at_call 111; refine (needed_calls size _ (by omega)).mono ?_; rintro e w' ⟨rfl, rfl⟩)
              | (go_at_call 137; refine (contains_calls at_ _ ((NumsAt.of_own HINT.out).below HB2.out) (by omega)).mono ?_; rw [t3]; rintro e w3 ⟨rfl, rfl⟩)
              | (go_at_call 91; refine (read_any _ HDr.out hpen _).mono ?_; rw [HRD.out]; rintro e w2 ⟨v2, rfl, hgot, hb2⟩; have HB2 := Lib.hid hb2; have hgot : Got wr.heap.size w2 v2 (D.see at_) := hgot; obtain ⟨g2, cap2, cur2, rfl, hcap2, hge2, hblk2, hc2⟩ := (hgot.resolve_left fun h => by have := HLN.out; rw [h.2] at this; cases this).cells; have hcap2 : 256 ≤ cap2 := (by have := HLN.out; have h9 : (D.see at_).length ≤ cap2 := hcap2; omega); rw [HLN.out]; have HC2 := Lib.hid hc2; have HBK2 := Lib.hid hblk2; have HGE2 := Lib.hid hge2; clear hgot hb2 hblk2 hge2 hc2)
              | (at_builtin; refine wpList_append_own _ rfl _ _ 89 rfl w.heap.size 5 iu (.int .u8 0) 1 1 Tryz.underlying89 hiu hz0 hz1 hz2 rfl (by decide) _ _ _ rfl (ownsRow_keeps HOWN.out (Keeps.of_below (F := fun _ => False) HB2.out) (fun _ _ h => h)) ⟨g2, 0, none⟩ 240 cap2 (((D.see at_).take 240).map bv) rfl ?a1 ?a2 (oneCell_bv _) ?a3 ?a4 ?a5 ?a6))
            case a1 =>
              rw [List.length_map, List.length_take, HLN.out]
              rfl
            case a2 =>
              intro j u hj
              rw [Addr.add_lit]
              refine HC2.out j u ?_
              rw [List.map_take, List.getElem?_take] at hj
              split at hj
              · exact hj
              · cases hj
            case a3 => rw [readAll_length HD.out.1 HBB.out]; unfold maxLen; omega
            case a4 => rw [readAll_length HD.out.1 HBB.out]; omega
            case a5 => have := HB.out.size; have := HB2.out.size; omega
            intro v8 w8 hown8 hg8 _
            have hint2 : w2.ownsRow w.heap.size 3 1 (.slice Ai bs.length ci) bs.length (bs.map nv) := ownsRow_keeps HINT.out (Keeps.of_below (F := fun _ => False) HB2.out) (fun _ _ h => h)
            have hown2 : w2.ownsRow w.heap.size 5 1 (.slice Ao (readAll D bs).length co) (readAll D bs).length ((readAll D bs).map bv) := ownsRow_keeps HOWN.out (Keeps.of_below (F := fun _ => False) HB2.out) (fun _ _ h => h)
            have hint8 : w8.ownsRow w.heap.size 3 1 (.slice Ai bs.length ci) bs.length (bs.map nv) := ownsRow_keeps hint2 (Keeps.of_grown (F := fun g => (Value.slice Ao (readAll D bs).length co).ownBlock = some g) hg8 fun g h => h) fun g h1 h2 => own_apart hint2 hown2 (by decide) g h1 h2
            have hbk8 : Blk w8 g2 5 cur2 := HBK2.out.grown hg8 fun e => by
              have := own_lt HOWN.out _ e
              have := HGE2.out
              omega
            have HINT8 := Lib.hid hint8
            have HOWN2 := Lib.hid hown2
            have HOWN8 := Lib.hid hown8
            have HG8 := Lib.hid hg8
            have HBK8 := Lib.hid hbk8
            have hbs9 : bs.length < K := by omega
            have hsz8 : w.heap.size ≤ w8.heap.size := by have := HB.out.size; have := HB2.out.size; have := hg8.size; omega
            clear hint8 hint2 hown2 hown8 hg8 hbk8
            go_wp2_with (at_builtin; refine wpList_append_own _ rfl _ _ 117 rfl w.heap.size 3 ii (.int .i64 0) 1 8 Tryz.underlying117 hii hiz0 hiz1 hiz2 rfl (by decide) _ _ _ rfl (HINT8.out.alloc _) ⟨w8.heap.size, 0, none⟩ 1 1 [.int .i64 (at_ : Int)] rfl rfl ?b1 ?b2 ?b3 ?b4 ?b5 ?b6)
            case b1 => exact cell_one_new _ _ _
            case b2 => simp [Value.oneCell']
            case b3 => unfold maxLen; omega
            case b4 => omega
            case b5 => simp; omega
            intro v9 w9 hown9 hg9 _
            have HO9 := Lib.hid hown9
            have HG9 := Lib.hid hg9
            have hcell9 : Cells w9 g2 240 (((D.see at_).drop 240).map bv) := by
              have hb9 : Blk w9 g2 5 cur2 := (HBK8.out.alloc _).grown hg9 fun e => by
                have := own_lt HINT.out _ e
                have := HGE2.out
                omega
              have hfull : ∀ j u, ((D.see at_).map bv)[j]? = some u → w9.cell? ⟨g2, j, none⟩ = some u := fun j u hj => by
                have h1 := HC2.out j u hj
                rw [Nat.zero_add] at h1
                have h2 := HBK2.out.cell j
                rw [h1] at h2
                rw [hb9.cell j]
                exact h2.symm
              intro j u hj
              rw [List.map_drop, List.getElem?_drop] at hj
              exact hfull _ u hj
            have HC9 := Lib.hid hcell9
            have hl240 : 2 ≤ ((D.see at_).drop 240).length := by rw [List.length_drop, HLN.out]; decide
            have hne : ¬ cap2 = 240 := by omega
            have hx := numAt_lt (D.see at_) 240 2
            obtain ⟨x, hxe⟩ : ∃ x, x = numAt (D.see at_) 240 2 := ⟨_, rfl⟩
            have hxn : unbe (((D.see at_).drop 240).take 2) = x := hxe.symm
            rw [← hxe] at hx
            have hx2 : (x : Int) ≤ 65535 := by have : (256 : Nat) ^ 2 = 65536 := by decide
                                               omega
            have HST : Hid (Chaining w.heap.size w D K R v8 v9 (.int .i64 (x : Int)) w9) := by
              show Chaining _ _ _ _ _ _ _ _ _
              rw [hxe]
              exact chaining_step hk HC.out ⟨by omega, hin, HM.out⟩ HBB.out HLN.out (HB.out.trans (HB2.out.mono HB.out.size)) (by have := HB.out.size; have := HB2.out.size; omega) HOWN2.out (by rw [List.map_take]; exact HOWN8.out) HG8.out HINT8.out _ HO9.out HG9.out
            obtain ⟨A9, c9, rfl, _⟩ := own_slice3 HO9.out
            have HXN := Lib.hid hxn
            clear hcell9 hown9 hg9 hxe hxn hx
            go_wp2_with (go_at_call 124; refine (get_num g2 240 16 (cap2 - 240) _ 2 _ (by decide) (by decide) (by omega) hl240 HC9.out).mono ?_; rw [HXN.out]; rintro e w' ⟨rfl, rfl⟩)
            refine ⟨HST.out, ?_⟩
            simp [sliceLen]
            omega
      · have hrd : D.read (at_ : Int) = (51, []) := by
          unfold Dsk.read
          rw [HDN.out, if_neg (by simp), if_pos (by omega)]
        have HRD := Lib.hid hrd
        clear hrd
        go_wp2_with (first
          | (go_at_call 111; refine (needed_calls size _ (by omega)).mono ?_; rintro e w' ⟨rfl, rfl⟩)
          | (go_at_call 91; refine (read_any _ HDr.out hpen _).mono ?_; rw [HRD.out]; rintro e w2 ⟨v2, rfl, hgot, hb2⟩; have HB2 := Lib.hid hb2; clear hgot hb2))
        go_ret3
        refine ⟨HB.out.trans (HB2.out.mono HB.out.size), .inl ⟨?_, rfl⟩⟩
        rw [← HC.out]
        show (if _ then _ else _) = _
        rw [if_neg fun h => hin h.2.1]

end Go.Proofs.YtbgiklkpinflaaaGreat
