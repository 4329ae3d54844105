/- Open, plain: what is read back of a root, of its index and of a list of places; a rooted state is found. -/
import Derived.Test.YtbgiklkpinflaaaGreatJoB
namespace Go.Proofs.YtbgiklkpinflaaaGreat
open Go.RowKit Go.Shelf Go.Maps

/-- The number in some bytes, the most significant byte first. -/
def unbe (l : List UInt8) : Nat := l.foldl (fun v x => v * 256 + x.toNat) 0
theorem unbe_snoc (l : List UInt8) (x : UInt8) : unbe (l ++ [x]) = unbe l * 256 + x.toNat := by
  unfold unbe
  rw [List.foldl_append]
  rfl
theorem unbe_take_lt (l : List UInt8) : ∀ k, k ≤ l.length → unbe (l.take k) < 256 ^ k
  | 0, _ => by simp [unbe]
  | k + 1, h => by
    rw [List.take_succ_eq_append_getElem (by omega), unbe_snoc]
    have ih := unbe_take_lt l k (by omega)
    have hx := (l[k]).toNat_lt
    rw [Nat.pow_succ]
    omega
theorem unbe_lt (l : List UInt8) : unbe l < 256 ^ l.length := by
  have := unbe_take_lt l l.length (Nat.le_refl _)
  rwa [List.take_length] at this
theorem unbe_be_take (x n : Nat) (hx : x < 256 ^ n) : ∀ k, k ≤ n → unbe ((be x n).take k) = x / 256 ^ (n - k)
  | 0, _ => by
    rw [List.take_zero, Nat.sub_zero, Nat.div_eq_of_lt hx]
    rfl
  | k + 1, h => by
    rw [be_take x n (by omega : k < n), unbe_snoc, unbe_be_take x n hx k (by omega)]
    have e : n - k = (n - (k + 1)) + 1 := by omega
    have e2 : n - 1 - k = n - (k + 1) := by omega
    have h3 : (byteOf x (n - 1 - k)).toNat = x / 256 ^ (n - (k + 1)) % 256 := by
      rw [e2]
      show (UInt8.ofNat (x / 2 ^ (8 * (n - (k + 1))))).toNat = _
      rw [UInt8.toNat_ofNat', Nat.pow_mul]
    rw [h3, e, Nat.pow_succ, ← Nat.div_div_eq_div_mul]
    generalize x / 256 ^ (n - (k + 1)) = y
    omega
theorem unbe_be {x n : Nat} (hx : x < 256 ^ n) : unbe (be x n) = x := by
  have := unbe_be_take x n hx n (Nat.le_refl _)
  rw [List.take_of_length_le (by rw [be_length]; exact Nat.le_refl _), Nat.sub_self, Nat.pow_zero, Nat.div_one] at this
  exact this

/-- The number in n bytes from place a on. -/
def numAt (l : List UInt8) (a n : Nat) : Nat := unbe ((l.drop a).take n)
theorem numAt_lt (l : List UInt8) (a n : Nat) : numAt l a n < 256 ^ n := by
  refine Nat.lt_of_lt_of_le (unbe_lt _) (Nat.pow_le_pow_right (by decide) ?_)
  rw [List.length_take]
  exact Nat.min_le_left _ _
theorem numAt_mid (A B : List UInt8) {x n a : Nat} (h : x < 256 ^ n) (ha : A.length = a) : numAt (A ++ (be x n ++ B)) a n = x := by
  unfold numAt
  rw [List.drop_append_of_le_length (by omega), List.drop_of_length_le (by omega), List.nil_append, List.take_append_of_le_length (by rw [be_length]; exact Nat.le_refl _), List.take_of_length_le (by rw [be_length]; exact Nat.le_refl _), unbe_be h]
theorem crc_nat (l : List UInt8) : ((crc l).toNat : Int) = crc l ∧ (crc l).toNat < 256 ^ 4 := by
  have := crc_le l
  have e : (256 : Nat) ^ 4 = 4294967296 := by decide
  rw [e]
  omega
theorem root_form (g f : Nat) (b : List UInt8) : ∃ Z, rootOf g f b = rootHead g f b ++ (be (crc (rootHead g f b)).toNat 4 ++ Z) := by
  have hl : (rootHead g f b ++ be (crc (rootHead g f b)).toNat 4).length ≤ 240 := by rw [List.length_append, rootHead_length, be_length]; decide
  have h1 : rootOf g f b = (rootOf g f b).take 240 ++ (rootOf g f b).drop 240 := (List.take_append_drop _ _).symm
  have h2 : (rootOf g f b).take 240 = (rootHead g f b ++ be (crc (rootHead g f b)).toNat 4) ++ List.replicate (240 - (rootHead g f b ++ be (crc (rootHead g f b)).toNat 4).length) 0 := blockOf_take _ _ hl
  rw [h2] at h1
  exact ⟨_, by rw [h1, List.append_assoc, List.append_assoc]⟩
/-- What is read of a root. -/
structure RootRead (l : List UInt8) (g f n : Nat) (x : Int) : Prop where
  magic : l.take 4 = [65, 82, 67, 86]
  gen : numAt l 4 8 = g
  first : numAt l 12 2 = f
  size : numAt l 14 4 = n
  sum : (numAt l 18 4 : Int) = x
  own : (numAt l 22 4 : Int) = crc (l.take 22)
theorem root_read {g f : Nat} {b : List UInt8} (hg : g < 256 ^ 8) (hf : f < 256 ^ 2) (hb : b.length < 256 ^ 4) : RootRead (rootOf g f b) g f b.length (crc b) := by
  obtain ⟨Z, hZ⟩ := root_form g f b
  obtain ⟨c1, c2⟩ := crc_nat b
  obtain ⟨d1, d2⟩ := crc_nat (rootHead g f b)
  rw [hZ]
  have e : ∀ Y, rootHead g f b ++ Y = [65, 82, 67, 86] ++ (be g 8 ++ (be f 2 ++ (be b.length 4 ++ (be (crc b).toNat 4 ++ Y)))) := fun Y => by
    unfold rootHead
    simp only [List.append_assoc]
  have e22 : (rootHead g f b ++ (be (crc (rootHead g f b)).toNat 4 ++ Z)).take 22 = rootHead g f b := by
    rw [List.take_append_of_le_length (by rw [rootHead_length]; exact Nat.le_refl _), List.take_of_length_le (by rw [rootHead_length]; exact Nat.le_refl _)]
  refine ⟨?_, ?_, ?_, ?_, ?_, ?_⟩
  · rw [e]
    rfl
  · rw [e]
    exact numAt_mid _ _ hg rfl
  · rw [e, ← List.append_assoc]
    exact numAt_mid _ _ hf (by rw [List.length_append, be_length]; rfl)
  · rw [e, ← List.append_assoc, ← List.append_assoc]
    exact numAt_mid _ _ hb (by simp [be_length])
  · rw [e, ← List.append_assoc, ← List.append_assoc, ← List.append_assoc, numAt_mid _ _ c2 (by simp [be_length]), c1]
  · rw [e22, numAt_mid _ _ d2 (by rw [rootHead_length]), d1]
theorem block_next {l : List UInt8} {next : Nat} (hl : l.length ≤ 240) (hn : next < 256 ^ 2) : numAt (blockOf l next) 240 2 = next := by
  have h256 : (splice zeros 0 l).length = 256 := by
    rw [length_splice, zeros_length]
    rw [zeros_length]
    omega
  have e : ((blockOf l next).drop 240).take 2 = be next 2 := by
    unfold blockOf
    refine List.ext_getElem? fun i => ?_
    rw [List.getElem?_take]
    by_cases hi : i < 2
    · rw [if_pos hi, List.getElem?_drop]
      have : i = 0 ∨ i = 1 := by omega
      rcases this with rfl | rfl
      · rw [List.getElem?_set_ne (by omega), List.getElem?_set_self (by omega)]
        rfl
      · rw [List.getElem?_set_self (by rw [List.length_set]; omega)]
        rfl
    · rw [if_neg hi, List.getElem?_eq_none (by rw [be_length]; omega)]
  unfold numAt
  rw [e, unbe_be hn]

/-- A chain of k blocks more. -/
def chainOf (D : Dsk) : Nat → Nat → List Nat → Option (List Nat)
  | 0, _, bs => some bs
  | k + 1, at_, bs => if 2 ≤ at_ ∧ at_ < D.blocks.length ∧ at_ ∉ bs then chainOf D k (numAt (D.see at_) 240 2) (bs ++ [at_]) else none
theorem chain_good {D : Dsk} {L : List Nat} {p : Nat → List UInt8} (hn : L.Nodup) (hb : ∀ b ∈ L, 2 ≤ b ∧ b < D.blocks.length) (h5 : D.blocks.length ≤ 1024) (hp : ∀ i, (p i).length ≤ 240) (hs : ∀ i (h : i < L.length), D.see L[i] = blockOf (p i) (L[i + 1]?.getD 0)) :
    ∀ k i, i + k = L.length → chainOf D k (L[i]?.getD 0) (L.take i) = some L
  | 0, i, h => by
    rw [List.take_of_length_le (by omega)]
    rfl
  | k + 1, i, h => by
    have hi : i < L.length := by omega
    have hbi := hb _ (List.getElem_mem hi)
    have hni : L[i] ∉ L.take i := by
      have h1 : (L.take (i + 1)).Nodup := List.Sublist.nodup (List.take_sublist _ _) hn
      rw [List.take_succ_eq_append_getElem hi, List.nodup_append] at h1
      exact fun hm => h1.2.2 _ hm _ (by simp) rfl
    have ih := chain_good hn hb h5 hp hs k (i + 1) (by omega)
    have hx : L[i + 1]?.getD 0 < 256 ^ 2 := by
      by_cases h2 : i + 1 < L.length
      · rw [List.getElem?_eq_getElem h2]
        have := (hb _ (List.getElem_mem h2)).2
        show L[i + 1] < _
        omega
      · rw [List.getElem?_eq_none (by omega)]
        decide
    rw [List.getElem?_eq_getElem hi]
    show (if 2 ≤ L[i] ∧ L[i] < D.blocks.length ∧ L[i] ∉ L.take i then chainOf D k (numAt (D.see L[i]) 240 2) (L.take i ++ [L[i]]) else none) = _
    rw [if_pos ⟨hbi.1, hbi.2, hni⟩, hs i hi, block_next (hp i) hx, ← List.take_succ_eq_append_getElem hi]
    exact ih
theorem chain_length {D : Dsk} : ∀ {k at_ : Nat} {bs r : List Nat}, chainOf D k at_ bs = some r → r.length = bs.length + k
  | 0, _, _, _, h => by
    injection h with h
    rw [h]
    rfl
  | k + 1, at_, bs, r, h => by
    unfold chainOf at h
    split at h
    · have := chain_length h
      rw [List.length_append, List.length_singleton] at this
      omega
    · cases h
theorem chain_blk {D : Dsk} : ∀ {k at_ : Nat} {bs r : List Nat}, chainOf D k at_ bs = some r → (∀ b ∈ bs, b < D.blocks.length) → ∀ b ∈ r, b < D.blocks.length
  | 0, _, _, _, h, hb => by
    injection h with h
    rw [← h]
    exact hb
  | k + 1, at_, bs, r, h, hb => by
    unfold chainOf at h
    split at h
    · rename_i hc
      refine chain_blk h fun b hm => ?_
      rcases List.mem_append.1 hm with hm | hm
      · exact hb b hm
      · rw [List.mem_singleton] at hm
        rw [hm]
        exact hc.2.1
    · cases h
/-- The bytes of chained blocks. -/
theorem readAll_chain {D : Dsk} (l : List UInt8) {L : List Nat} (hl : l.length ≤ 240 * L.length) (hs : ∀ i (h : i < L.length), D.see L[i] = blockOf (part l i) (L[i + 1]?.getD 0)) : (readAll D L).take l.length = l := by
  have h1 : ∀ k, k ≤ L.length → (readAll D (L.take k)).length = 240 * k ∧ (readAll D (L.take k)).take l.length = l.take (240 * k) := by
    intro k
    induction k with
    | zero => intro _; exact ⟨rfl, by simp [readAll]⟩
    | succ k ih =>
      intro hk
      obtain ⟨a, b⟩ := ih (by omega)
      have hs' : (D.see L[k]).take 240 = part l k ++ List.replicate (240 - (part l k).length) 0 := by rw [hs k (by omega)]; exact blockOf_take _ _ (part_length l k)
      have hlen : (part l k ++ List.replicate (240 - (part l k).length) (0 : UInt8)).length = 240 := by
        rw [List.length_append, List.length_replicate]
        have := part_length l k
        omega
      rw [readAll_take D L (by omega), hs']
      refine ⟨by rw [List.length_append, a, hlen]; omega, ?_⟩
      rw [List.take_append, b, a]
      have hp : part l k = (l.drop (240 * k)).take 240 := by unfold part; rw [Nat.mul_comm]
      by_cases hc : l.length ≤ 240 * k
      · rw [show l.length - 240 * k = 0 by omega, List.take_zero, List.append_nil, List.take_of_length_le hc, List.take_of_length_le (by omega)]
      · have hpl : (part l k).length = min 240 (l.length - 240 * k) := by rw [hp, List.length_take, List.length_drop]
        have e2 : (part l k ++ List.replicate (240 - (part l k).length) 0).take (l.length - 240 * k) = part l k := by
          by_cases hd : l.length - 240 * k ≤ 240
          · rw [List.take_append_of_le_length (by omega), List.take_of_length_le (by omega)]
          · have : 240 - (part l k).length = 0 := by omega
            rw [this, List.replicate_zero, List.append_nil, List.take_of_length_le (by omega)]
        rw [e2, hp, show 240 * (k + 1) = 240 * k + 240 by omega, List.take_add]
  have h2 := (h1 L.length (Nat.le_refl _)).2
  rw [List.take_length] at h2
  rw [h2, List.take_of_length_le hl]

/-- One place of a list. -/
def parseStep (n : Nat) (l : List UInt8) (ps : List (List UInt8 × Place)) : Option (List UInt8 × List (List UInt8 × Place)) :=
  if (l[0]?.getD 0).toNat + 8 ≤ l.length ∧ 2 * need (numAt (l.drop ((l[0]?.getD 0).toNat + 1)) 0 3) ≤ ((l.drop ((l[0]?.getD 0).toNat + 1)).drop 7).length ∧
    (∀ b ∈ (List.range (need (numAt (l.drop ((l[0]?.getD 0).toNat + 1)) 0 3))).map fun j => numAt ((l.drop ((l[0]?.getD 0).toNat + 1)).drop 7) (2 * j) 2, 2 ≤ b ∧ b < n) ∧
    (l[0]?.getD 0).toNat ≠ 0 ∧ (l[0]?.getD 0).toNat ≤ 64 ∧ numAt (l.drop ((l[0]?.getD 0).toNat + 1)) 0 3 ≤ 65536 ∧ ps.length ≠ 512
  then some (((l.drop ((l[0]?.getD 0).toNat + 1)).drop 7).drop (2 * need (numAt (l.drop ((l[0]?.getD 0).toNat + 1)) 0 3)),
    mput ps ((l.drop 1).take (l[0]?.getD 0).toNat) ⟨numAt (l.drop ((l[0]?.getD 0).toNat + 1)) 0 3, (numAt (l.drop ((l[0]?.getD 0).toNat + 1)) 3 4 : Nat), (List.range (need (numAt (l.drop ((l[0]?.getD 0).toNat + 1)) 0 3))).map fun j => numAt ((l.drop ((l[0]?.getD 0).toNat + 1)).drop 7) (2 * j) 2⟩)
  else none
theorem numAt_flat {bs : List Nat} (h : ∀ b ∈ bs, b < 256 ^ 2) (r : List UInt8) {j : Nat} (hj : j < bs.length) : numAt ((bs.flatMap fun b => be b 2) ++ r) (2 * j) 2 = bs[j] := by
  have e : (bs.flatMap fun b => be b 2) = ((bs.take j).flatMap fun b => be b 2) ++ (be bs[j] 2 ++ ((bs.drop (j + 1)).flatMap fun b => be b 2)) := by
    conv => lhs; rw [← List.take_append_drop j bs, List.drop_eq_getElem_cons hj]
    rw [List.flatMap_append, List.flatMap_cons]
  rw [e, List.append_assoc, List.append_assoc]
  exact numAt_mid _ _ (h _ (List.getElem_mem hj)) (by rw [beAll_length, List.length_take]; omega)
theorem parse_one {n : Nat} {x : List UInt8 × Place} (r : List UInt8) (ps : List (List UInt8 × Place)) (h0 : 0 < x.1.length) (h1 : x.1.length ≤ 64) (hx : PlaceOk n x.2) (h5 : n ≤ 1024) (hps : ps.length < 512) :
    parseStep n (placeBytes x ++ r) ps = some (r, mput ps x.1 x.2) := by
  obtain ⟨k, p⟩ := x
  obtain ⟨sz, sm, bs⟩ := p
  have hsz : sz ≤ 65536 := hx.size
  have hlen : bs.length = need sz := hx.len
  have hblk : ∀ b ∈ bs, 2 ≤ b ∧ b < n := hx.blk
  have hsm0 : 0 ≤ sm := hx.sum0
  have hsm1 : sm ≤ 4294967295 := hx.sum1
  have h0 : 0 < k.length := h0
  have h1 : k.length ≤ 64 := h1
  obtain ⟨F, hF⟩ : ∃ F, F = (bs.flatMap fun b => be b 2) ++ r := ⟨_, rfl⟩
  have hFl : F.length = 2 * need sz + r.length := by rw [hF, List.length_append, beAll_length, hlen]
  have e0 : placeBytes (k, ⟨sz, sm, bs⟩) ++ r = UInt8.ofNat k.length :: (k ++ (be sz 3 ++ (be sm.toNat 4 ++ F))) := by
    rw [hF]
    show UInt8.ofNat k.length :: (k ++ (be sz 3 ++ (be sm.toNat 4 ++ bs.flatMap fun b => be b 2))) ++ r = _
    simp only [List.cons_append, List.append_assoc]
  have ek : (UInt8.ofNat k.length).toNat = k.length := UInt8.toNat_ofNat_of_lt' (by show k.length < 256; omega)
  have eh : ((UInt8.ofNat k.length :: (k ++ (be sz 3 ++ (be sm.toNat 4 ++ F))))[0]?.getD 0).toNat = k.length := ek
  have ed : (UInt8.ofNat k.length :: (k ++ (be sz 3 ++ (be sm.toNat 4 ++ F)))).drop (k.length + 1) = be sz 3 ++ (be sm.toNat 4 ++ F) := by
    rw [List.drop_succ_cons, List.drop_append_of_le_length (Nat.le_refl _), List.drop_length, List.nil_append]
  have es : numAt (be sz 3 ++ (be sm.toNat 4 ++ F)) 0 3 = sz := numAt_mid [] _ (by show sz < 16777216; omega) rfl
  have em : numAt (be sz 3 ++ (be sm.toNat 4 ++ F)) 3 4 = sm.toNat := numAt_mid _ _ (by show sm.toNat < 4294967296; omega) (be_length _ _)
  have e7 : (be sz 3 ++ (be sm.toNat 4 ++ F)).drop 7 = F := by
    rw [← List.append_assoc, List.drop_append_of_le_length (by simp [be_length]), List.drop_of_length_le (by simp [be_length]), List.nil_append]
  have et : ((UInt8.ofNat k.length :: (k ++ (be sz 3 ++ (be sm.toNat 4 ++ F)))).drop 1).take k.length = k := by
    rw [List.drop_succ_cons, List.drop_zero, List.take_append_of_le_length (Nat.le_refl _), List.take_length]
  have eb : ((List.range (need sz)).map fun j => numAt F (2 * j) 2) = bs := by
    refine List.ext_getElem (by rw [List.length_map, List.length_range, hlen]) fun j hj1 hj2 => ?_
    rw [List.getElem_map, List.getElem_range, hF]
    exact numAt_flat (fun b hb => by have := (hblk b hb).2; show b < 65536; omega) r hj2
  have ef : F.drop (2 * need sz) = r := by
    rw [hF, List.drop_append_of_le_length (by rw [beAll_length, hlen]; exact Nat.le_refl _), List.drop_of_length_le (by rw [beAll_length, hlen]; exact Nat.le_refl _), List.nil_append]
  rw [e0]
  unfold parseStep
  rw [eh, ed, es, em, e7, et, eb, ef, if_pos]
  · have : ((sm.toNat : Nat) : Int) = sm := by omega
    rw [this]
  · refine ⟨?_, by omega, hblk, by omega, h1, hsz, by omega⟩
    simp only [List.length_cons, List.length_append, be_length]
    omega
/-- The list of places. -/
def parseAll (n : Nat) : Nat → List UInt8 → List (List UInt8 × Place) → Option (List (List UInt8 × Place))
  | _, [], ps => some ps
  | 0, _ :: _, _ => none
  | f + 1, x :: l, ps => (parseStep n (x :: l) ps).bind fun r => parseAll n f r.1 r.2
theorem parseAll_nil (n f : Nat) (ps : List (List UInt8 × Place)) : parseAll n f [] ps = some ps := by cases f <;> rfl
theorem parseAll_step (n f : Nat) {l : List UInt8} (h : 0 < l.length) (ps : List (List UInt8 × Place)) : parseAll n (f + 1) l ps = (parseStep n l ps).bind fun r => parseAll n f r.1 r.2 := by
  cases l with
  | nil => simp at h
  | cons x l => rfl
theorem mput_last {acc : List (List UInt8 × Place)} {k : List UInt8} {p : Place} (h : Srt (acc ++ [(k, p)])) : mput acc k p = acc ++ [(k, p)] := by
  have h1 : Srt acc := by
    unfold Srt at h ⊢
    exact (List.pairwise_append.1 h).1
  have hn : mget acc k = none := mget_none_iff.2 fun x hx e => by
    unfold Srt at h
    have := (List.pairwise_append.1 h).2.2 x hx (k, p) (by simp)
    have this : x.1 < k := this
    rw [e] at this
    exact List.lt_irrefl _ this
  refine Srt.ext (h1.put_ _ _) h fun j => ?_
  have e : mget (acc ++ [(k, p)]) j = (mget acc j).or (if k = j then some p else none) := by
    unfold mget
    rw [List.find?_append]
    cases acc.find? fun q => q.1 == j with
    | some v => rfl
    | none =>
      by_cases hk : k = j
      · simp [hk]
      · simp [hk]
  rw [mget_mput, e]
  by_cases hk : k = j
  · subst hk
    rw [if_pos rfl, if_pos rfl, hn]
    rfl
  · rw [if_neg hk, if_neg hk, Option.or_none]
theorem parse_good {n : Nat} (h5 : n ≤ 1024) : ∀ (ps acc : List (List UInt8 × Place)) (f : Nat), Srt (acc ++ ps) → (∀ x ∈ ps, 0 < x.1.length ∧ x.1.length ≤ 64) → (∀ x ∈ ps, PlaceOk n x.2) → acc.length + ps.length ≤ 512 → (writtenOf ps).length ≤ f → parseAll n f (writtenOf ps) acc = some (acc ++ ps)
  | [], acc, f, _, _, _, _, _ => by
    rw [List.append_nil]
    exact parseAll_nil n f acc
  | x :: r, acc, f, hs, hk, hp, hl, hf => by
    have e : writtenOf (x :: r) = placeBytes x ++ writtenOf r := rfl
    have hx := hk x (by simp)
    have hlen : (writtenOf (x :: r)).length = (placeBytes x).length + (writtenOf r).length := by rw [e, List.length_append]
    have hpb := placeBytes_length x
    rw [List.length_cons] at hl
    obtain ⟨f', rfl⟩ : ∃ f', f = f' + 1 := ⟨f - 1, by omega⟩
    have e2 : acc ++ x :: r = (acc ++ [x]) ++ r := by simp
    rw [e2] at hs ⊢
    rw [parseAll_step n f' (by omega), e, parse_one _ _ hx.1 hx.2 (hp x (by simp)) h5 (by omega), Option.bind_some]
    have hs1 : Srt (acc ++ [x]) := by
      unfold Srt at hs ⊢
      exact (List.pairwise_append.1 hs).1
    rw [mput_last (k := x.1) (p := x.2) hs1]
    exact parse_good h5 r (acc ++ [x]) f' hs (fun y hy => hk y (by simp [hy])) (fun y hy => hp y (by simp [hy])) (by rw [List.length_append, List.length_singleton]; omega) (by omega)

/-- The state of a root, if it is whole. -/
def loadOf (D : Dsk) (i : Nat) : Option St :=
  if (D.see i).take 4 = [65, 82, 67, 86] ∧ (numAt (D.see i) 22 4 : Int) = crc ((D.see i).take 22) ∧ numAt (D.see i) 14 4 ≤ 245760 then
    (chainOf D (max 1 (need (numAt (D.see i) 14 4))) (numAt (D.see i) 12 2) []).bind fun bs =>
      if crc ((readAll D bs).take (numAt (D.see i) 14 4)) = (numAt (D.see i) 18 4 : Int) ∧ numAt (D.see i) 4 8 < 9223372036854775808 ∧ numAt (D.see i) 4 8 % 2 = i then
        (parseAll D.blocks.length (numAt (D.see i) 14 4) ((readAll D bs).take (numAt (D.see i) 14 4)) []).map fun ps => ⟨numAt (D.see i) 4 8, ps, bs⟩
      else none
  else none
theorem loadOf_gen {D : Dsk} {i : Nat} {s : St} (h : loadOf D i = some s) : s.gen = numAt (D.see i) 4 8 := by
  unfold loadOf at h
  split at h
  · obtain ⟨bs, _, h⟩ := Option.bind_eq_some_iff.1 h
    split at h
    · obtain ⟨ps, _, h⟩ := Option.map_eq_some_iff.1 h
      rw [← h]
    · cases h
  · cases h
theorem load_zeros {D : Dsk} {i : Nat} (h : D.see i = zeros) : loadOf D i = none := by
  unfold loadOf
  rw [if_neg]
  intro hc
  have h1 := hc.1
  rw [h] at h1
  have h2 : zeros.take 4 = [0, 0, 0, 0] := by decide
  rw [h2] at h1
  exact absurd h1 (by decide)
theorem load_elder {D : Dsk} {i g x : Nat} {b : List UInt8} {s : St} (h : D.see i = rootOf g x b) (hg : g < 256 ^ 8) (hl : loadOf D i = some s) : s.gen = g := by
  rw [loadOf_gen hl, h]
  obtain ⟨Z, hZ⟩ := root_form g x b
  rw [hZ]
  have e : ∀ Y, rootHead g x b ++ Y = [65, 82, 67, 86] ++ (be g 8 ++ (be x 2 ++ (be b.length 4 ++ (be (crc b).toNat 4 ++ Y)))) := fun Y => by
    unfold rootHead
    simp only [List.append_assoc]
  rw [e]
  exact numAt_mid _ _ hg rfl
theorem load_good {D : Dsk} {st : St} (h : Rooted D st) (hok : StOk D.blocks.length st) : loadOf D (st.gen % 2) = some st := by
  have hlen := h.len
  have hi0 := hok.index
  have hi1 := hok.index1
  have hm := hok.most
  have hwl : (writtenOf st.places).length ≤ 240 * st.index.length := by
    unfold need at hlen
    omega
  have hf : st.index[0]?.getD 0 < 256 ^ 2 := by
    rw [List.getElem?_eq_getElem hi0]
    have := (h.blk _ (List.getElem_mem hi0)).2
    show st.index[0] < 65536
    omega
  have hR := root_read (g := st.gen) (f := st.index[0]?.getD 0) (b := writtenOf st.places) (by have := hok.gen; show st.gen < 18446744073709551616; omega) hf (by show _ < 4294967296; omega)
  rw [← h.root] at hR
  have hc := chain_good (p := fun i => part (writtenOf st.places) i) h.nod h.blk hm (fun i => part_length _ i) h.idx st.index.length 0 (by omega)
  rw [List.take_zero, hlen] at hc
  have hra := readAll_chain (writtenOf st.places) hwl h.idx
  unfold loadOf
  rw [hR.size, hR.first, hR.gen, hR.sum, if_pos ⟨hR.magic, hR.own, by omega⟩, hc, Option.bind_some, hra, if_pos ⟨rfl, by have := hok.gen; omega, rfl⟩]
  rw [parse_good hm st.places [] _ hok.srt hok.keys hok.places (by have := hok.few; simp; omega) (Nat.le_refl _)]
  rfl
/-- What Open finds. -/
def openOf (D : Dsk) : Option St := match loadOf D 0, loadOf D 1 with
  | none, b => b
  | some a, none => some a
  | some a, some b => if a.gen < b.gen then some b else some a
theorem open_good {D : Dsk} {st : St} (h : Rooted D st) (hok : StOk D.blocks.length st) : openOf D = some st := by
  have h1 := load_good h hok
  have h2 : ∀ s, loadOf D ((st.gen + 1) % 2) = some s → s.gen < st.gen := fun s hs => by
    rcases h.other with e | ⟨g, x, b, hg, e⟩
    · rw [load_zeros e] at hs
      cases hs
    · have := hok.gen
      rw [load_elder e (by show g < 18446744073709551616; omega) hs]
      exact hg
  have hp : st.gen % 2 = 0 ∨ st.gen % 2 = 1 := by omega
  unfold openOf
  rcases hp with hp | hp
  · rw [hp] at h1
    rw [show (st.gen + 1) % 2 = 1 by omega] at h2
    rw [h1]
    cases h3 : loadOf D 1 with
    | none => rfl
    | some s =>
      have := h2 s h3
      show (if st.gen < s.gen then some s else some st) = _
      rw [if_neg (by omega)]
  · rw [hp] at h1
    rw [show (st.gen + 1) % 2 = 0 by omega] at h2
    rw [h1]
    cases h3 : loadOf D 0 with
    | none => rfl
    | some s =>
      have := h2 s h3
      show (if s.gen < st.gen then some st else some s) = _
      rw [if_pos this]

end Go.Proofs.YtbgiklkpinflaaaGreat
