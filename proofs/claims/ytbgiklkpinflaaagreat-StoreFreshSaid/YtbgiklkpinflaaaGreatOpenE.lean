/- load: a map's entry in two steps; the places read so far. -/
import Derived.Test.YtbgiklkpinflaaaGreatOpenC
import Derived.Test.YtbgiklkpinflaaaGreatNextA
namespace Go.Proofs.YtbgiklkpinflaaaGreat
open Go.RowKit Go.Shelf Go.Maps Go.ChangeMaps

theorem findIdx_born {es : List MapEntry} {j : Nat} {e : MapEntry} (hn : (es.map (·.born)).Nodup) (hj : es[j]? = some e) : es.findIdx? (fun x => (x.born : Int) == (e.born : Int)) = some j := by
  rw [List.findIdx?_eq_some_iff_getElem]
  obtain ⟨hl, he⟩ := List.getElem?_eq_some_iff.1 hj
  refine ⟨hl, by rw [he]; simp, fun i hi => ?_⟩
  have hil : i < es.length := by omega
  simp only [beq_iff_eq, Int.natCast_inj, ← he]
  intro hb
  have hp := List.pairwise_iff_getElem.1 (show (es.map (·.born)).Pairwise (· ≠ ·) from hn) i j (by simpa using hil) (by simpa using hl) hi
  exact hp (by simpa using hb)
theorem findIdx_last {es : List MapEntry} {e : MapEntry} (hl : ∀ x ∈ es, x.born < e.born) : (es ++ [e]).findIdx? (fun x => (x.born : Int) == (e.born : Int)) = some es.length := by
  rw [List.findIdx?_eq_some_iff_getElem]
  refine ⟨by simp, by simp, fun i hi => ?_⟩
  rw [List.getElem_append_left hi]
  have := hl _ (List.getElem_mem hi)
  simp only [beq_iff_eq, Int.natCast_inj]
  omega
theorem arr_findIdx {α : Type} (p : α → Bool) (xs : Array α) : xs.findIdx? p = xs.toList.findIdx? p := by
  rw [← List.findIdx?_toArray]
/-- The entry is made or found, and written later. -/
theorem entryP_run {w : World} {b : Nat} {M : List (List UInt8 × Value)} (hM : MapAt w b M) (hn : M.length < 100000) (s : ByteArray) (hs : s.size ≤ maxLen) :
    ∃ v z w1, (Instr.mapEntry 131 (.map (some b)) (.string s)).run Tryz.prog w = .ok (.tuple #[v, .int .i64 z]) w1 ∧ w.grownBy w1 (some b) ∧ w1.heap.size = w.heap.size ∧
      ∀ wx val, wx.heap[b]? = w1.heap[b]? → ∃ w', (Instr.entryStore 131 (.map (some b)) (.int .i64 z) val).run Tryz.prog wx = .ok () w' ∧ MapAt w' b (mput M s.data.toList val) ∧ wx.grownBy w' (some b) := by
  have K := Tryz.lawStr
  have ht := Tryz.underlying131
  have hkey := key_of s hs
  have hz := Tryz.zeroValue130 w
  have hU := fun val => updP_run hM hn s hs val
  obtain ⟨es, clock, hb, F, hsz, hD⟩ := id hM
  have hbl : b < w.heap.size := (Array.getElem?_eq_some_iff.1 hb).1
  have hmv : ∀ {wa wc : World} {m : List (List UInt8 × Value)}, MapAt wa b m → wc.heap[b]? = wa.heap[b]? → MapAt wc b m := fun {wa wc m} h e => by
    obtain ⟨es, clock, hb, r⟩ := h
    exact ⟨es, clock, e.trans hb, r⟩
  rcases K.find w hkey es.toList F.keys with ⟨h1, h2⟩ | ⟨j, e0, h1, h2, h3⟩
  · refine ⟨.agg #[.int .i64 0, .int .u32 0, .slice none 0 0], (clock : Int), setBlock w b (.map (es.push ⟨.string s, .agg #[.int .i64 0, .int .u32 0, .slice none 0 0], clock⟩) (clock + 1)), ?_, ⟨rfl, rfl, rfl, by simp [setBlock], fun i _ hi => heap_setBlock_other hb _ (fun e => hi (by rw [e]))⟩, by simp [setBlock], fun wx val hx => ?_⟩
    · simp [Instr.mapEntry, run_underlying ht, MapKept.run_getObj_map hb, K.check w false hkey, h1, hz, MapKept.run_setObj_map _ hb, Result.andThen, setBlock, goInt]
    · rw [heap_setBlock_same hb] at hx
      obtain ⟨w', hrun, hm, _⟩ := hU val
      simp [Instr.mapUpdate, run_underlying ht, MapKept.run_getObj_map hb, K.check w false hkey, h1, MapKept.run_setObj_map _ hb, Result.andThen] at hrun
      have hf : (es.push ⟨.string s, .agg #[.int .i64 0, .int .u32 0, .slice none 0 0], clock⟩).findIdx? (fun e : MapEntry => (e.born : Int) == (clock : Int)) = some es.size := by
        rw [arr_findIdx, Array.toList_push]
        exact findIdx_last (e := ⟨.string s, .agg #[.int .i64 0, .int .u32 0, .slice none 0 0], clock⟩) F.stamped.1
      have hmod : (es.push ⟨.string s, .agg #[.int .i64 0, .int .u32 0, .slice none 0 0], clock⟩).modify es.size (fun e => { e with val := val }) = es.push ⟨.string s, val, clock⟩ := by
        apply Array.ext_getElem?
        intro i
        rw [Array.getElem?_modify]
        by_cases hi : es.size = i
        · subst hi
          simp
        · rw [if_neg hi, Array.getElem?_push, Array.getElem?_push]
          simp [Ne.symm hi]
      have hwh : w'.heap[b]? = some (.map (es.push ⟨.string s, val, clock⟩) (clock + 1)) := by rw [← hrun]; exact (MapKept.heap_set hb).1
      refine ⟨setBlock wx b (.map (es.push ⟨.string s, val, clock⟩) (clock + 1)), ?_, hmv hm ((heap_setBlock_same hx _).trans hwh.symm), ⟨rfl, rfl, rfl, by simp [setBlock], fun i _ hi => heap_setBlock_other hx _ (fun e => hi (by rw [e]))⟩⟩
      simp [Instr.entryStore, MapKept.run_getObj_map hx, asInt, asIntOf, hf, hmod, MapKept.run_setObj_map _ hx, Result.andThen, setBlock]
  · have hj : es[j]? = some e0 := by simpa using h2
    have hjl : j < es.size := (Array.getElem?_eq_some_iff.1 hj).1
    have hj2 : es[j] = e0 := (Array.getElem?_eq_some_iff.1 hj).2
    refine ⟨e0.val, (e0.born : Int), setBlock w b (.map (es.modify j fun e => { e with key := .string s }) clock), ?_, ⟨rfl, rfl, rfl, by simp [setBlock], fun i _ hi => heap_setBlock_other hb _ (fun e => hi (by rw [e]))⟩, by simp [setBlock], fun wx val hx => ?_⟩
    · simp [Instr.mapEntry, run_underlying ht, MapKept.run_getObj_map hb, K.check w false hkey, h1, hj, h3, K.stays w hkey, MapKept.run_setObj_map _ hb, Result.andThen, setBlock, goInt]
    · rw [heap_setBlock_same hb] at hx
      obtain ⟨w', hrun, hm, _⟩ := hU val
      simp [Instr.mapUpdate, run_underlying ht, MapKept.run_getObj_map hb, K.check w false hkey, h1, hj, h3, K.stays w hkey, MapKept.run_setObj_map _ hb, Result.andThen] at hrun
      have hf : (es.modify j fun e => { e with key := .string s }).findIdx? (fun e : MapEntry => (e.born : Int) == (e0.born : Int)) = some j := by
        have h4 : ((es.modify j fun e => { e with key := .string s }).toList.map (·.born)).Nodup := by
          have : (es.modify j fun e => { e with key := .string s }).toList.map (·.born) = es.toList.map (·.born) := by
            apply List.ext_getElem?
            intro i
            rw [List.getElem?_map, List.getElem?_map, Array.getElem?_toList, Array.getElem?_toList, Array.getElem?_modify]
            by_cases hi : j = i
            · subst hi
              rw [if_pos rfl, hj]
              rfl
            · rw [if_neg hi]
          rw [this]
          exact F.stamped.2.1
        rw [arr_findIdx]
        exact findIdx_born (e := { e0 with key := .string s }) h4 (by rw [Array.getElem?_toList, Array.getElem?_modify, if_pos rfl, hj]; rfl)
      have hmod : (es.modify j fun e => { e with key := .string s }).modify j (fun e => { e with val := val }) = es.modify j fun e => { e with key := .string s, val := val } := by
        apply Array.ext_getElem?
        intro i
        rw [Array.getElem?_modify, Array.getElem?_modify, Array.getElem?_modify]
        by_cases hi : j = i
        · subst hi
          simp [hj]
        · simp [hi]
      have hwh : w'.heap[b]? = some (.map (es.modify j fun e => { e with key := .string s, val := val }) clock) := by rw [← hrun]; exact (MapKept.heap_set hb).1
      refine ⟨setBlock wx b (.map (es.modify j fun e => { e with key := .string s, val := val }) clock), ?_, hmv hm ((heap_setBlock_same hx _).trans hwh.symm), ⟨rfl, rfl, rfl, by simp [setBlock], fun i _ hi => heap_setBlock_other hx _ (fun e => hi (by rw [e]))⟩⟩
      simp [Instr.entryStore, MapKept.run_getObj_map hx, asInt, asIntOf, hf, hmod, MapKept.run_setObj_map _ hx, Result.andThen, setBlock]

theorem sl_midZ {w : World} {A : Option Addr} {n c : Nat} {l : List UInt8} (h : SlAt w A n c l) (lo hi : Nat) (z1 z2 : Int) (hz1 : z1 = (lo : Int)) (hz2 : z2 = (hi : Int)) (h1 : lo ≤ hi) (h2 : hi ≤ n) :
    ∃ A', (∀ wx, (Instr.slice 89 (.slice A n c) (some (.int .i64 z1)) (some (.int .i64 z2)) none).run Tryz.prog wx = .ok (.slice A' (hi - lo) (c - lo)) wx) ∧ SlAt w A' (hi - lo) (c - lo) ((l.drop lo).take (hi - lo)) := by
  subst hz1 hz2
  exact sl_mid h h1 h2
/-- No cell of the block is a byte. -/
def NoU8 (w : World) (b : Nat) : Prop := ∀ j x, w.cell? ⟨b, j, none⟩ ≠ some (.int .u8 x)
theorem Blk.noU8 {w : World} {b : Nat} {t : TypeId} {cs : Array Value} (h : Blk w b t cs) (hc : ∀ (j : Nat) (x : Int), cs[j]? ≠ some (.int .u8 x)) : NoU8 w b := fun j x e => by
  rw [h.cell j] at e
  exact hc j x e
theorem MapAt.noU8 {w : World} {b : Nat} {m : List (List UInt8 × Value)} (h : MapAt w b m) : NoU8 w b := fun j x e => by
  obtain ⟨es, clock, hb, _⟩ := h
  simp [World.cell?, hb] at e
theorem SlAt.keepsU {w w' : World} {A : Option Addr} {n c : Nat} {l : List UInt8} {b : Nat} (h : SlAt w A n c l) (k : Keeps (· = b) w w') (hb : NoU8 w b) : SlAt w' A n c l :=
  ⟨h.len, h.cap, fun h0 => by
    obtain ⟨g, o, hA, hc⟩ := h.cells h0
    refine ⟨g, o, hA, fun j u hj => k.cell (hc j u hj) fun e => ?_⟩
    have h1 := hc j u hj
    have e : g = b := e
    subst e
    rw [List.getElem?_map] at hj
    obtain ⟨y, _, rfl⟩ := Option.map_eq_some_iff.1 hj
    exact hb _ _ h1⟩
theorem PlacesAt.below_ {w w' : World} {mb : Nat} {ps : List (List UInt8 × Place)} (h : PlacesAt w mb ps) (hb : Below w.heap.size w w') : PlacesAt w' mb ps := h.keeps (F := fun _ => False) (Keeps.of_below hb) (fun _ _ h => h.elim) id
theorem PlacesAt.nil_ {w : World} {mb : Nat} (h : MapAt w mb []) : PlacesAt w mb [] := ⟨[], h, rfl, fun x hx => by simp at hx⟩

/-- The list of places, read so far. -/
def Loading (W : World) (sm n : Nat) (RR : Option (List (List UInt8 × Place))) (v : Value) (wr : World) : Prop :=
  ∃ (l : List UInt8) (A : Option Addr) (m c : Nat) (ps : List (List UInt8 × Place)) (f : Nat), v = .slice A m c ∧ SlAt wr A m c l ∧ m ≤ f ∧ parseAll n f l ps = RR ∧ ps.length ≤ 512 ∧ PlacesAt wr sm ps ∧ Keeps (· = sm) W wr
theorem parse_fails {n f : Nat} {l : List UInt8} {ps : List (List UInt8 × Place)} {RR : Option (List (List UInt8 × Place))} (h0 : 0 < l.length) (hf : l.length ≤ f) (hR : parseAll n f l ps = RR) (h : parseStep n l ps = none) : RR = none := by
  obtain ⟨f', rfl⟩ : ∃ f', f = f' + 1 := ⟨f - 1, by omega⟩
  rw [parseAll_step n f' h0, h] at hR
  exact hR.symm
/-- The blocks of a place, read so far. -/
def blocksTo (rest : List UInt8) (j : Nat) : List Nat := (List.range j).map fun k => numAt rest (2 * k) 2
theorem blocksTo_succ (rest : List UInt8) (j : Nat) : blocksTo rest (j + 1) = blocksTo rest j ++ [numAt rest (2 * j) 2] := by
  unfold blocksTo
  rw [List.range_succ, List.map_append]
  rfl
theorem blocksTo_length (rest : List UInt8) (j : Nat) : (blocksTo rest j).length = j := by simp [blocksTo]
theorem blocksTo_mem (rest : List UInt8) {j k : Nat} (h : j < k) : numAt rest (2 * j) 2 ∈ blocksTo rest k := List.mem_map.2 ⟨j, List.mem_range.2 h, rfl⟩
def Placing (B : Nat) (w0 : World) (pb size : Nat) (sum : Nat) (rest : List UInt8) (n j : Nat) (wr : World) : Prop :=
  Below B w0 wr ∧ ∃ sv, Blk wr pb 130 #[.int .i64 (size : Int), .int .u32 (sum : Int), sv] ∧ wr.ownsRow B 3 1 sv j ((blocksTo rest j).map nv) ∧ ∀ b ∈ blocksTo rest j, 2 ≤ b ∧ b < n
theorem placing_start {w0 wr : World} {B pb size sum n : Nat} {rest : List UInt8} (hb : Below B w0 wr) (hbk : Blk wr pb 130 #[.int .i64 (size : Int), .int .u32 (sum : Int), .slice none 0 0]) : Placing B w0 pb size sum rest n 0 wr :=
  ⟨hb, _, hbk, World.ownsRow_nil wr _ _ _, fun b h => by simp [blocksTo] at h⟩
theorem placing_blk {wi w9 : World} {B pb size sum j : Nat} {xs : List Value} {sv : Value} {o : Obj} (hbk : Blk wi pb 130 #[.int .i64 (size : Int), .int .u32 (sum : Int), sv]) (hown : wi.ownsRow B 3 1 sv j xs) (hg9 : (wi.alloc o).grownBy w9 sv.ownBlock) : Blk w9 pb 130 #[.int .i64 (size : Int), .int .u32 (sum : Int), sv] :=
  (hbk.alloc o).grown hg9 (own_blk_ne hown hbk (by decide))
theorem placing_step {w0 wi w9 : World} {B pb size sum n j : Nat} {rest : List UInt8} {sv v9 : Value} {o : Obj} (hB : B ≤ w0.heap.size) (hpb : B ≤ pb) (hb : Below B w0 wi) (hbk : Blk wi pb 130 #[.int .i64 (size : Int), .int .u32 (sum : Int), sv]) (hown : wi.ownsRow B 3 1 sv j ((blocksTo rest j).map nv)) (hbl : ∀ b ∈ blocksTo rest j, 2 ≤ b ∧ b < n)
    (hg9 : (wi.alloc o).grownBy w9 sv.ownBlock) (hown9 : w9.ownsRow B 3 1 v9 (j + 1) ((blocksTo rest j).map nv ++ [.int .i64 ((numAt rest (2 * j) 2 : Nat) : Int)])) (hat : 2 ≤ numAt rest (2 * j) 2 ∧ numAt rest (2 * j) 2 < n) :
    Placing B w0 pb size sum rest n (j + 1) (w9.setCell ⟨pb, 2, none⟩ v9) := by
  have hk9 := placing_blk hbk hown hg9
  have hsz : B ≤ wi.heap.size := Nat.le_trans hB hb.size
  have hb9 : Below B w0 w9 := (hb.alloc hsz o).grown hg9 (by rw [World.size_alloc]; omega) (own_ge hown)
  have hne := own_blk_ne hown9 hk9 (by decide)
  refine ⟨hb9.setCell (p := ⟨pb, 2, none⟩) hpb _, v9, hk9.set_ 2 v9, ?_, fun b hm => ?_⟩
  · rw [blocksTo_succ, List.map_append]
    exact ownsRow_keeps hown9 (Keeps.set1 w9 pb 2 v9) fun g hg e => hne (by rw [hg, e])
  · rw [blocksTo_succ] at hm
    rcases List.mem_append.1 hm with hm | hm
    · exact hbl b hm
    · rw [List.mem_singleton] at hm
      rw [hm]
      exact hat
/-- A place that is no place. -/
theorem parse_block {n x j : Nat} {l : List UInt8} {ps : List (List UInt8 × Place)} (hx : x = (l[0]?.getD 0).toNat) (hj : j < need (numAt (l.drop (x + 1)) 0 3)) (h : ¬ (2 ≤ numAt ((l.drop (x + 1)).drop 7) (2 * j) 2 ∧ numAt ((l.drop (x + 1)).drop 7) (2 * j) 2 < n)) : parseStep n l ps = none := by
  unfold parseStep
  rw [← hx, if_neg]
  rintro ⟨_, _, h3, _⟩
  exact h (h3 _ (List.mem_map.2 ⟨j, List.mem_range.2 hj, rfl⟩))
theorem parse_short {n x : Nat} {l : List UInt8} {ps : List (List UInt8 × Place)} (hx : x = (l[0]?.getD 0).toNat) (h : ((l.drop (x + 1)).drop 7).length < 2 * need (numAt (l.drop (x + 1)) 0 3)) : parseStep n l ps = none := by
  unfold parseStep
  rw [← hx, if_neg]
  rintro ⟨_, h2, _⟩
  omega
theorem parse_bad {n x : Nat} {l : List UInt8} {ps : List (List UInt8 × Place)} (hx : x = (l[0]?.getD 0).toNat) (h : x = 0 ∨ 64 < x ∨ 65536 < numAt (l.drop (x + 1)) 0 3 ∨ ps.length = 512) : parseStep n l ps = none := by
  unfold parseStep
  rw [← hx, if_neg]
  rintro ⟨_, _, _, h4, h5, h6, h7⟩
  omega
/-- One place more. -/
theorem loading_step {W wr wi wE wS : World} {sm n x pb size sum m c f : Nat} {RR : Option (List (List UInt8 × Place))} {l : List UInt8} {ps : List (List UInt8 × Place)} {A A' : Option Addr} {sv : Value} {m' c' : Nat} {lp : List (List UInt8 × (Value × Place))} {key : ByteArray}
    (hl : SlAt wr A m c l) (h0 : 0 < m) (hf : m ≤ f) (hR : parseAll n f l ps = RR) (hfew : ps.length ≤ 512) (hK : Keeps (· = sm) W wr)
    (hx : x = (l[0]?.getD 0).toNat) (h8 : ¬ m < x + 8) (hsz : size = numAt (l.drop (x + 1)) 0 3) (hsm : sum = numAt (l.drop (x + 1)) 3 4) (hcnt : ¬ m - (x + 1) - 7 < 2 * need size) (hx0 : x ≠ 0) (hx64 : x ≤ 64) (hs2 : size ≤ 65536) (hpl : ps.length ≠ 512)
    (hP : Placing wr.heap.size wr pb size sum ((l.drop (x + 1)).drop 7) n (need size) wi) (hsv : Blk wi pb 130 #[.int .i64 (size : Int), .int .u32 (sum : Int), sv])
    (hMp : PlacesAt wr sm ps) (hps : ps = mmap (fun x : Value × Place => x.2) lp) (hpp : ∀ y ∈ lp, PlaceAt wr y.2.1 y.2.2)
    (hg1 : wi.drew.grownBy wE (some sm)) (hg2 : wE.grownBy wS (some sm)) (hMS : MapAt wS sm (mput (mmap (fun x : Value × Place => x.1) lp) key.data.toList (.agg #[.int .i64 (size : Int), .int .u32 (sum : Int), sv])))
    (hkey : key = ⟨((l.drop 1).take x).toArray⟩) (hm' : m' = m - (x + 1) - 7 - 2 * need size) (hsl' : SlAt wr A' m' c' (((l.drop (x + 1)).drop 7).drop (2 * need size))) :
    Loading W sm n RR (.slice A' m' c') wS := by
  obtain ⟨hb, sv', hB', hown, hbl⟩ := hP
  obtain ⟨hcs, _⟩ := hsv.det hB'
  obtain rfl : sv = sv' := by simpa using hcs
  have hsm_lt : sm < wr.heap.size := hMp.mb_lt
  have hnu : NoU8 wr sm := by
    obtain ⟨_, hM, _⟩ := hMp
    exact hM.noU8
  have hk : Keeps (· = sm) wr wS := (((Keeps.of_below hb).drew).grown hg1 (fun g e _ => by cases e; rfl)).grown hg2 (fun g e _ => by cases e; rfl)
  have hk2 : Keeps (· = sm) wi wS := ((Keeps.refl (· = sm) wi).drew.grown hg1 (fun g e _ => by cases e; rfl)).grown hg2 (fun g e _ => by cases e; rfl)
  obtain ⟨f', rfl⟩ : ∃ f', f = f' + 1 := ⟨f - 1, by omega⟩
  have hll := hl.len
  have hstep : parseStep n l ps = some (((l.drop (x + 1)).drop 7).drop (2 * need size), mput ps ((l.drop 1).take x) ⟨size, (sum : Int), blocksTo ((l.drop (x + 1)).drop 7) (need size)⟩) := by
    unfold parseStep
    rw [← hx, ← hsz, ← hsm, if_pos]
    · rfl
    · refine ⟨by omega, ?_, hbl, hx0, hx64, hs2, hpl⟩
      rw [List.length_drop, List.length_drop]
      omega
  rw [parseAll_step n f' (by omega), hstep] at hR
  have hkd : key.data.toList = (l.drop 1).take x := by rw [hkey]
  refine ⟨_, A', m', c', mput ps ((l.drop 1).take x) ⟨size, (sum : Int), blocksTo ((l.drop (x + 1)).drop 7) (need size)⟩, f', rfl, hsl'.keepsU hk hnu, by omega, hR, ?_, ?_, hK.trans hk fun _ _ h => h⟩
  · have : (mput ps ((l.drop 1).take x) ⟨size, (sum : Int), blocksTo ((l.drop (x + 1)).drop 7) (need size)⟩).length ≤ ps.length + 1 := mput_length _ _ _
    omega
  · refine ⟨mput lp ((l.drop 1).take x) (.agg #[.int .i64 (size : Int), .int .u32 (sum : Int), sv], ⟨size, (sum : Int), blocksTo ((l.drop (x + 1)).drop 7) (need size)⟩), ?_, ?_, fun y hy => ?_⟩
    · rw [mmap_mput, ← hkd]
      exact hMS
    · rw [mmap_mput, hps]
    · rcases mput_mem hy with rfl | ⟨hy, _⟩
      · refine ⟨sv, rfl, (NumsAt.of_own hown).keeps hk2 fun g cs hg hbk => ?_⟩
        subst hg
        have hM : ∃ M, MapAt wr g M := by
          obtain ⟨_, hM, _⟩ := hMp
          exact ⟨_, hM⟩
        obtain ⟨M, hM⟩ := hM
        exact (hM.keeps (F := fun _ => False) (Keeps.of_below hb) id).not_blk hbk
      · refine (hpp y hy).keeps hk fun g cs hg hbk => ?_
        subst hg
        obtain ⟨_, hM, _⟩ := hMp
        exact hM.not_blk hbk

/-- What load returns. -/
def LoadPost (w : World) (R : Option St) (e : Ending) (w' : World) : Prop :=
  Below w.heap.size w w' ∧ ((R = none ∧ e = .returned (.pointer none)) ∨ ∃ st a mb, R = some st ∧ e = .returned (.pointer (some ⟨a, 0, none⟩)) ∧ StateAt w' a mb st ∧ w.heap.size ≤ a ∧ w.heap.size ≤ mb)

end Go.Proofs.YtbgiklkpinflaaaGreat
