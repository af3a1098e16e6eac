/- wkb's printer, walked: a geometry. wkb.Mixed and wkb.Print, walked. -/
import Derived.Test.YtlffgepnhhnadaaDoorPrint
import Derived.Deep.DeepCutAuto
namespace Go.Proofs.YtlffgepnhhnadaaDoor.Pl
section
open Go.RowKit

theorem grownBy_set (w : World) (a : Addr) (v : Value) : w.grownBy (w.setCell a v) (some a.block) :=
  ⟨rfl, rfl, rfl, by simp [World.setCell], fun b _ h => Below.heap_setCell w a v b (fun e => h (by rw [e]))⟩
theorem below_drewN {B : Nat} {w w' : World} (h : Below B w w') (k : Nat) : Below B w (w'.drewN k) := ⟨h.os, h.tape, h.output, h.size, h.block⟩
theorem IsPr.drewN {B : Nat} {w : World} {pb n : Nat} {l : List UInt8} {os : List Bool} (h : IsPr B w pb l os n) (k : Nat) : IsPr B (w.drewN k) pb l os n := ⟨h.base, h.mem⟩
theorem IsPr.lt {B : Nat} {w : World} {pb n : Nat} {l : List UInt8} {os : List Bool} (h : IsPr B w pb l os n) : pb < w.heap.size := by
  obtain ⟨v, A, c, h1, _⟩ := h.mem; exact lt_of_heap h1
theorem IsPr.below {B : Nat} {w w' : World} {pb n : Nat} {l : List UInt8} {os : List Bool} (h : IsPr B w pb l os n) (hb : Below w.heap.size w w') : IsPr B w' pb l os n := by
  have hlt := h.lt
  obtain ⟨hbase, v, A, c, h1, h2, h3, h4, h5⟩ := h
  exact ⟨hbase, v, A, c, (hb.block _ hlt).trans h1, h2.below hb rfl, h3, h4, h5.pr (.of_below hlt hb)⟩
theorem KeepP.cell {pb : Nat} {w w' : World} (h : KeepP pb w w') {a : Addr} (ha : Apt w pb a.block) : w'.cell? a = w.cell? a := by unfold World.cell?; rw [(h _ ha).1]
theorem IsPr.apt {B : Nat} {w w' : World} {pb n : Nat} {l : List UInt8} {os : List Bool} (h : IsPr B w pb l os n) (hb : Below w.heap.size w w') (b : Nat) (h1 : w.heap.size ≤ b) (h2 : b < w'.heap.size) : Apt w' pb b := by
  have hlt := h.lt
  obtain ⟨hbase, v, A, c, hh, hown, _⟩ := h
  refine ⟨h2, by omega, fun u hu => ?_⟩
  rw [hb.cell (p := ⟨pb, 0, none⟩) hlt] at hu
  simp [World.cell?, hh] at hu
  subst hu
  intro e
  have := (World.ownsRow.lt hown b e).2
  omega
theorem KeepP.drewN {pb : Nat} {w w' : World} (h : KeepP pb w w') (k : Nat) : KeepP pb w (w'.drewN k) := h
/-- the order of the geometry number n -/
def ordB (os : List Bool) (n : Nat) : Bool := os.getD (min n (os.length - 1)) false

theorem order_any {B pb n : Nat} {l : List UInt8} {os : List Bool} (w : World) (hp : IsPr B w pb l os n) (hn : n < 9223372036854775806) :
    Calls Tryd.prog 87 #[.pointer (some ⟨pb, 0, none⟩)] w fun e w' => e = .returned (.bool (ordB os n)) ∧ IsPr B w' pb l os (n + 1) ∧ Below B w w' ∧ KeepP pb w w' := by
  obtain ⟨hbase, ov, A, c, hblk, hown, hne, hoc, hrow⟩ := hp
  have hp1 : w.cell? ⟨pb, 1, none⟩ = some (.slice A os.length c) := by simp [World.cell?, hblk]
  have hp2 : w.cell? ⟨pb, 2, none⟩ = some (.int .i64 n) := by simp [World.cell?, hblk]
  have hf2 : w.frozen? ⟨pb, 2, none⟩ = false := by simp [World.frozen?, hblk]
  have HO := Lib.hid hown
  have HB := Lib.hid hblk
  have HW := Lib.hid hrow
  clear hown hblk hrow
  have hpr : ∀ w' , w' = w.setCell ⟨pb, 2, none⟩ (.int .i64 (n + 1)) → IsPr B w' pb l os (n + 1) ∧ Below B w w' ∧ KeepP pb w w' := by
    rintro w' rfl
    have hblk' : (w.setCell ⟨pb, 2, none⟩ (.int .i64 (n + 1))).heap[pb]? = some (.cells #[ov, .slice A os.length c, .int .i64 ((n + 1 : Nat))] 122 (0, 0)) := by
      have := heap_store (cs := [ov, .slice A os.length c, .int .i64 n]) HB.out (j := 2) (.int .i64 (n + 1))
      simpa using this
    have hK : KeepP pb w (w.setCell ⟨pb, 2, none⟩ (.int .i64 (n + 1))) := by
      intro b ⟨hb1, hb2, hb3⟩
      have hno := hb3 ov (by simp [World.cell?, HB.out])
      refine ⟨Below.heap_setCell w _ _ b (by show b ≠ pb; exact hb2), by simpa [World.setCell] using hb1, hb2, fun v hv => ?_⟩
      simp [World.cell?, hblk'] at hv
      subst hv; exact hno
    exact ⟨⟨hbase, ov, A, c, hblk', World.ownsRow.kept HO.out (grownBy_set w ⟨pb, 2, none⟩ _) (.inr hne), hne, hoc, HW.out.pr hK⟩, (Below.refl _ _).setCell hbase _, hK⟩
  have HPR := Lib.hid hpr
  clear hpr HB HO
  by_cases h0 : os = []
  · subst h0
    go_enter Tryd.func87, Tryd.ntmps87
    go_wp2
    go_ret
    exact ⟨rfl, HPR.out _ rfl⟩
  · have hl0 : 0 < os.length := List.length_pos_iff.2 h0
    obtain ⟨b, o, rfl, hA, _, hcell⟩ := HW.out.at (by simpa using h0)
    have hb : ordB os n = os[min n (os.length - 1)]'(by omega) := by unfold ordB; rw [List.getD_eq_getElem?_getD, List.getElem?_eq_getElem (by omega)]; rfl
    have hc1 : w.cell? ⟨b, o + min n (os.length - 1), none⟩ = some (.bool (ordB os n)) := hcell _ _ (by rw [List.getElem?_map, List.getElem?_eq_getElem (by omega), hb]; rfl)
    have hbp : pb ≠ b := fun e => hA.2.1 e.symm
    have hmin : min (n : Int) ((os.length : Int) - 1) = ((min n (os.length - 1) : Nat) : Int) := by omega
    clear hb hcell HW
    generalize ordB os n = bo at hc1
    generalize os.length = L at *
    generalize hm : min n (L - 1) = mi at *
    have hmi : mi < L := by omega
    have hwr : IntKind.i64.wrap ((L : Int) - 1) = (L : Int) - 1 := by rw [IntKind.wrap_i64]; omega
    have hif : (if (L : Int) - 1 < (n : Int) then (L : Int) - 1 else (n : Int)) = mi := by split <;> omega
    go_enter Tryd.func87, Tryd.ntmps87
    go_wp2
    obtain ⟨W1, hW1⟩ : ∃ W1, W1 = w.setCell ⟨pb, 2, none⟩ (.int .i64 (n + 1)) := ⟨_, rfl⟩
    rw [← hW1]
    have hq1 : W1.cell? ⟨pb, 1, none⟩ = some (.slice (some ⟨b, o, none⟩) L c) := by rw [hW1, World.cell?_setCell_other _ _ _ _ (by simp)]; exact hp1
    have hqc : W1.cell? ⟨b, o + mi, none⟩ = some (.bool bo) := by rw [hW1, cell_setFar _ _ hbp]; exact hc1
    have HW1 := Lib.hid (HPR.out _ hW1)
    clear hW1 HPR hp1 hp2 hf2 hc1
    go_quiet (fail)
    go_wp2
    go_ret
    exact ⟨rfl, HW1.out.1.drewN _, below_drewN HW1.out.2.1 _, HW1.out.2.2.drewN _⟩

mutual
/-- how many geometries the printer writes of a tree -/
def begunG : G → Nat
  | .mk k _ _ p => if k = 1 ∨ k = 2 ∨ k = 3 then 1 else 1 + begunGs p
def begunGs : List G → Nat
  | [] => 0
  | g :: p => begunG g + begunGs p
end
def encR (b : Bool) (r : List Pt) : List UInt8 := encB 4 r.length b ++ encPs b r
def nowherePt : Pt := (9221120237041090560, 9221120237041090560)
mutual
/-- a tree's bytes -/
def encG (os : List Bool) : G → Nat → List UInt8
  | .mk k l r p, n => (if ordB os n then 1 else 0) :: (encB 4 (k % 4294967296).toNat (ordB os n) ++
      (if k = 1 then encPs (ordB os n) (if l = [] then [nowherePt] else l)
       else if k = 2 then encB 4 l.length (ordB os n) ++ encPs (ordB os n) l
       else if k = 3 then encB 4 r.length (ordB os n) ++ r.flatMap (encR (ordB os n))
       else encB 4 p.length (ordB os n) ++ encGs os p (n + 1)))
def encGs (os : List Bool) : List G → Nat → List UInt8
  | [], _ => []
  | g :: p, n => encG os g n ++ encGs os p (n + begunG g)
end

def encBody (os : List Bool) (k : Int) (l : List Pt) (r : List (List Pt)) (p : List G) (n : Nat) (lt : Bool) : List UInt8 :=
  if k = 1 then encPs lt (if l = [] then [nowherePt] else l)
  else if k = 2 then encB 4 l.length lt ++ encPs lt l
  else if k = 3 then encB 4 r.length lt ++ r.flatMap (encR lt)
  else encB 4 p.length lt ++ encGs os p (n + 1)
theorem encG_eq (os : List Bool) (k : Int) (l : List Pt) (r : List (List Pt)) (p : List G) (n : Nat) (lt : Bool) (h : ordB os n = lt) :
    encG os (.mk k l r p) n = (if lt then 1 else 0) :: (encB 4 (k % 4294967296).toNat lt ++ encBody os k l r p n lt) := by subst h; simp only [encG, encBody]
theorem encR_length (lt : Bool) (r : List Pt) : (encR lt r).length = 4 + 16 * r.length := by simp [encR, encB_length, encPs_length]
theorem encRs_length (lt : Bool) (r : List (List Pt)) : (r.flatMap (encR lt)).length = (r.map fun x => 4 + 16 * x.length).sum := by
  rw [List.length_flatMap]; simp only [encR_length]
theorem takeR_le (lt : Bool) : ∀ (r : List (List Pt)) (k : Nat), ((r.take k).flatMap (encR lt)).length ≤ (r.map fun x => 4 + 16 * x.length).sum
  | [], k => by simp
  | x :: r, 0 => by simp
  | x :: r, k + 1 => by
    have := takeR_le lt r k
    simp only [List.take_succ_cons, List.flatMap_cons, List.length_append, encR_length, List.map_cons, List.sum_cons]
    omega
theorem takeR_next (lt : Bool) {r : List (List Pt)} {k : Nat} {x : List Pt} (h : r[k]? = some x) : (r.take (k + 1)).flatMap (encR lt) = (r.take k).flatMap (encR lt) ++ encR lt x := by
  rw [List.take_add_one, h]; simp
theorem takeGs_next (os : List Bool) : ∀ {p : List G} {k : Nat} {x : G}, p[k]? = some x → ∀ n, encGs os (p.take (k + 1)) n = encGs os (p.take k) n ++ encG os x (n + begunGs (p.take k))
  | [], k, x, h, n => by simp at h
  | g :: p, 0, x, h, n => by simp at h; subst h; simp [encGs, begunGs]
  | g :: p, k + 1, x, h, n => by
    have := takeGs_next os (p := p) (k := k) (x := x) (by simpa using h) (n + begunG g)
    simp only [List.take_succ_cons, encGs, begunGs, List.append_assoc]
    rw [this, Nat.add_assoc]
theorem takeGs_le (os : List Bool) : ∀ (p : List G) (k n : Nat), (encGs os (p.take k) n).length ≤ (encGs os p n).length
  | [], k, n => by simp
  | g :: p, 0, n => by simp [encGs]
  | g :: p, k + 1, n => by
    have := takeGs_le os p k (n + begunG g)
    simp only [List.take_succ_cons, encGs, List.length_append]
    omega
theorem takeB_next : ∀ {p : List G} {k : Nat} {x : G}, p[k]? = some x → begunGs (p.take (k + 1)) = begunGs (p.take k) + begunG x
  | [], k, x, h => by simp at h
  | g :: p, 0, x, h => by simp at h; subst h; simp [begunGs]
  | g :: p, k + 1, x, h => by
    have := takeB_next (p := p) (k := k) (x := x) (by simpa using h)
    simp only [List.take_succ_cons, begunGs]
    omega
theorem takeB_le : ∀ (p : List G) (k : Nat), begunGs (p.take k) ≤ begunGs p
  | [], k => by simp
  | g :: p, 0 => by simp [begunGs]
  | g :: p, k + 1 => by
    have := takeB_le p k
    simp only [List.take_succ_cons, begunGs]
    omega
theorem word_len (n : Nat) (lt : Bool) : encB 4 ((n : Int) % 4294967296).toNat lt = encB 4 n lt := by
  have h : ((n : Int) % 4294967296).toNat = n % 4294967296 := by omega
  rw [h]
  cases lt <;> simp only [encB, List.range_succ, List.range_zero, List.nil_append, List.map_cons, List.map_nil, List.cons_append, List.cons.injEq, and_true] <;>
    refine ⟨?_, ?_, ?_, ?_⟩ <;> refine UInt8.toNat_inj.1 ?_ <;> simp [UInt8.toNat_ofNat'] <;> omega

set_option maxRecDepth 100000 in
set_option maxHeartbeats 2000000 in
theorem geom_any : ∀ (d : Nat) (g : G) (B pb n : Nat) (l : List UInt8) (os : List Bool) (cs : List Value) (w : World), depth g ≤ d → IsPr B w pb l os n → IsG (Apt w pb) w g cs → l.length + (encG os g n).length ≤ 70368744177664 → n + begunG g ≤ 70368744177664 → B ≤ w.heap.size →
    Calls Tryd.prog 64 #[.pointer (some ⟨pb, 0, none⟩), .agg cs.toArray] w fun e w' => (∃ r, e = .returned r) ∧ IsPr B w' pb (l ++ encG os g n) os (n + begunG g) ∧ Below B w w' ∧ KeepP pb w w' := by
  intro d
  induction d with
  | zero => intro g; cases g; intro _ _ _ _ _ _ _ h; simp [depth] at h
  | succ d ih =>
  intro g B pb n l os cs w hd hp hg hl hb hB
  obtain ⟨kd, ln, rg, pt⟩ := g
  simp only [IsG] at hg
  obtain ⟨v1, v2, v3, rfl, hln, ⟨vr, hrs, hre⟩, vp, hps, hpt⟩ := hg
  obtain ⟨w1, hw1⟩ : ∃ w1, w1 = w.alloc (.cells #[.int .i64 kd, v1, v2, v3] 51) := ⟨_, rfl⟩
  have hb1 : Below w.heap.size w w1 := by subst hw1; exact (Below.refl _ w).alloc (Nat.le_refl _) _
  have hk1 : KeepP pb w w1 := .of_below hp.lt hb1
  have hp1 : IsPr B w1 pb l os n := hp.below hb1
  have hc0 : ∀ j v, #[Value.int .i64 kd, v1, v2, v3][j]? = some v → w1.cell? ⟨w.heap.size, j, none⟩ = some v := by subst hw1; intro j v h; rw [World.cell?_alloc_mark]; exact h
  have hord := order_any w1 hp1 (by omega)
  generalize hlt : ordB os n = lt at hord
  have HO := Lib.hid hord
  have HC := Lib.hid hc0
  have IH := Lib.hid ih
  clear hord hc0 ih
  go_enter Tryd.func64, Tryd.ntmps64
  go_wp2_with fail
  rw [← hw1]
  refine HO.out.mono ?_
  rintro e w2 ⟨rfl, hp2, hb2, hk2⟩
  have hp2' := hp2
  obtain ⟨hbase, ov, A, c, hblk, hown, hne, hoc, hrow⟩ := hp2'
  have hlb := lt_of_heap hblk
  have hq0 : w2.cell? ⟨pb, 0, none⟩ = some ov := by simp [World.cell?, hblk]
  have hf0 : w2.frozen? ⟨pb, 0, none⟩ = false := by simp [World.frozen?, hblk]
  have HOW := Lib.hid hown
  have HBL := Lib.hid hblk
  have HRW := Lib.hid hrow
  clear hown hblk hrow
  have hB2 : B ≤ w2.heap.size := Nat.le_trans hB (Nat.le_trans hb1.size hb2.size)
  go_upto_if 11 with (fail)
  go_cut [] (fun W => IsPr B W pb (l ++ [if lt then 1 else 0]) os (n + 1) ∧ Below B w2 W ∧ KeepP pb w2 W)
  case first =>
    clear HO hlt
    cases lt
    · obtain ⟨w3, hw3⟩ : ∃ w3, w3 = w2.alloc (.cells #[.int .u8 0] 5) := ⟨_, rfl⟩
      have hal : Below w2.heap.size w2 w3 := by subst hw3; exact (Below.refl _ w2).alloc (Nat.le_refl _) _
      have HV := Lib.hid (HOW.out.below hal rfl)
      have HY : Hid (OwnB w2.heap.size w3 (.slice (some ⟨w2.heap.size, 0, none⟩) 1 1) [0]) := by subst hw3; exact Lib.hid (one_byte w2 0)
      have hf3 : w3.frozen? ⟨pb, 0, none⟩ = false := by rw [hal.frozen (p := ⟨pb, 0, none⟩) hlb]; exact hf0
      have HL3 := Lib.hid hal
      have hBs : B ≤ w3.heap.size := Nat.le_trans hB2 hal.size
      go_wp2_with (first
        | (refine (list_append rfl (.tmp 25) (.tmp 26) rfl ov _ rfl rfl (hw3 ▸ HV.out) (hw3 ▸ HY.out) (by simp) (by simp; omega) (hw3 ▸ hBs) ?_)
           intro g3 cap3 w4 ho3 hgr3 hg3 hlt3
           rw [← hw3] at hgr3 hg3
           have hf4 : w4.frozen? ⟨pb, 0, none⟩ = false := by rw [World.frozen?_of_block (w := w3) (hgr3.block pb (Nat.lt_of_lt_of_le hlb hal.size) (fun e => hne e.symm))]; exact hf3
           have hq4 : w4.cell? ⟨pb, 0, none⟩ = some ov := hgr3.cell (a := ⟨pb, 0, none⟩) ((HL3.out.cell (p := ⟨pb, 0, none⟩) hlb).trans hq0) (fun e => hne e.symm)
           have HR3 := Lib.hid (And.intro ho3 (And.intro hgr3 (And.intro hg3 hlt3)))
           clear ho3 hgr3 hg3 hlt3)
        | fail)
      go_meet
      case rel =>
        exact pr_grow hbase hB2 HBL.out hne HOW.out hoc HRW.out HL3.out HR3.out.1 HR3.out.2.1 HR3.out.2.2.1
    · obtain ⟨w3, hw3⟩ : ∃ w3, w3 = w2.alloc (.cells #[.int .u8 1] 5) := ⟨_, rfl⟩
      have hal : Below w2.heap.size w2 w3 := by subst hw3; exact (Below.refl _ w2).alloc (Nat.le_refl _) _
      have HV := Lib.hid (HOW.out.below hal rfl)
      have HY : Hid (OwnB w2.heap.size w3 (.slice (some ⟨w2.heap.size, 0, none⟩) 1 1) [1]) := by subst hw3; exact Lib.hid (one_byte w2 1)
      have hf3 : w3.frozen? ⟨pb, 0, none⟩ = false := by rw [hal.frozen (p := ⟨pb, 0, none⟩) hlb]; exact hf0
      have HL3 := Lib.hid hal
      have hBs : B ≤ w3.heap.size := Nat.le_trans hB2 hal.size
      go_wp2_with (first
        | (refine (list_append rfl (.tmp 16) (.tmp 17) rfl ov _ rfl rfl (hw3 ▸ HV.out) (hw3 ▸ HY.out) (by simp) (by simp; omega) (hw3 ▸ hBs) ?_)
           intro g3 cap3 w4 ho3 hgr3 hg3 hlt3
           rw [← hw3] at hgr3 hg3
           have hf4 : w4.frozen? ⟨pb, 0, none⟩ = false := by rw [World.frozen?_of_block (w := w3) (hgr3.block pb (Nat.lt_of_lt_of_le hlb hal.size) (fun e => hne e.symm))]; exact hf3
           have hq4 : w4.cell? ⟨pb, 0, none⟩ = some ov := hgr3.cell (a := ⟨pb, 0, none⟩) ((HL3.out.cell (p := ⟨pb, 0, none⟩) hlb).trans hq0) (fun e => hne e.symm)
           have HR3 := Lib.hid (And.intro ho3 (And.intro hgr3 (And.intro hg3 hlt3)))
           clear ho3 hgr3 hg3 hlt3)
        | fail)
      go_meet
      case rel =>
        exact pr_grow hbase hB2 HBL.out hne HOW.out hoc HRW.out HL3.out HR3.out.1 HR3.out.2.1 HR3.out.2.2.1
  case rest =>
    clear HOW HBL HRW HO
    have hap : Apt w1 pb w.heap.size := hp.apt hb1 _ (Nat.le_refl _) (lt_of_cell (HC.out 0 _ rfl))
    have hkc : KeepP pb w1 wc := hk2.trans hcut.2.2
    have HBX : Hid (∀ W, KeepP pb w1 W → ∀ j v, #[Value.int .i64 kd, v1, v2, v3][j]? = some v → W.cell? ⟨w.heap.size, j, none⟩ = some v) := Lib.hid fun W hW j v hv => (hW.cell (a := ⟨w.heap.size, j, none⟩) hap).trans (HC.out j v hv)
    have c0 := HBX.out wc hkc 0 _ rfl
    have hl' : l.length + 5 ≤ 70368744177664 := by simp only [encG] at hl; simp [encB_length] at hl; omega
    have hbc : Below B w wc := (hb1.mono hB).trans (hb2.trans hcut.2.1)
    have hpc := hcut.1
    clear hcut hp2 hb2 hk2 hq0 hf0 hb1 hp1
    go_wp2_with fail
    refine (word_any kd lt wc hpc (by simp; omega) (Nat.le_trans hB hbc.size)).mono ?_
    rintro e w3 ⟨⟨r, rfl⟩, hp3, hb3, hk3⟩
    have hk31 := hkc.trans hk3
    have hb31 := hbc.trans hb3
    have c0 := HBX.out w3 hk31 0 _ rfl
    have c1 := HBX.out w3 hk31 1 _ rfl
    have c2 := HBX.out w3 hk31 2 _ rfl
    have c3 := HBX.out w3 hk31 3 _ rfl
    have hB3 : B ≤ w3.heap.size := Nat.le_trans hB hb31.size
    have hE := encG_eq os kd ln rg pt n lt hlt
    have hlen := hl
    rw [hE, List.length_cons, List.length_append, encB_length] at hlen
    have hll : (l ++ [if lt = true then 1 else 0] ++ encB 4 (kd % 4294967296).toNat lt).length = l.length + 5 := by simp [encB_length]
    generalize hl3 : l ++ [if lt = true then 1 else 0] ++ encB 4 (kd % 4294967296).toNat lt = l3 at hp3 hll
    have hFin : ∀ body m W, encBody os kd ln rg pt n lt = body → begunG (.mk kd ln rg pt) = m → IsPr B W pb (l3 ++ body) os (n + m) → IsPr B W pb (l ++ encG os (.mk kd ln rg pt) n) os (n + begunG (.mk kd ln rg pt)) := by
      rintro body m W rfl rfl h
      rw [hE]; rw [← hl3] at h; simpa using h
    have HFin := Lib.hid hFin
    clear hFin hl3 hE hl
    have hkw := hk1.trans hk31
    by_cases h1 : kd = 1
    · subst h1
      have hm : begunG (.mk 1 ln rg pt) = 1 := by simp [begunG]
      by_cases h2 : ln = []
      · subst h2
        obtain ⟨A1, k1, rfl, _, _, _⟩ := hln.2
        have hbody : encBody os 1 [] rg pt n lt = encPs lt [nowherePt] := by simp [encBody]
        rw [hbody, encPs_length] at hlen
        go_wp2_with fail
        obtain ⟨w4, hw4⟩ : ∃ w4, w4 = w3.alloc (Obj.cells #[Value.int IntKind.u64 9221120237041090560, Value.int IntKind.u64 9221120237041090560] 71) := ⟨_, rfl⟩
        rw [← hw4]
        have hal : Below w3.heap.size w3 w4 := by subst hw4; exact (Below.refl _ w3).alloc (Nat.le_refl _) _
        have hcs : ∀ j v, #[Value.int IntKind.u64 9221120237041090560, Value.int IntKind.u64 9221120237041090560][j]? = some v → w4.cell? ⟨w3.heap.size, j, none⟩ = some v := by subst hw4; intro j v h; rw [World.cell?_alloc_mark]; exact h
        have hap4 : Apt w4 pb w3.heap.size := hp3.apt hal _ (Nat.le_refl _) (lt_of_cell (hcs 0 _ rfl))
        have hpt4 : Pts (Apt w4 pb) w4 (.slice (some ⟨w3.heap.size, 0, none⟩) 1 1) [nowherePt] :=
          ⟨by intro p hp; simp at hp; subst hp; exact ⟨by decide, by decide⟩, _, _, rfl, Nat.le_refl _, by simp, .inr ⟨w3.heap.size, 0, rfl, hap4, fun j v h => by rw [Nat.zero_add]; exact hcs j v (by simpa [ptCells, nowherePt] using h)⟩⟩
        refine (points_any lt w4 (hp3.below hal) hpt4 (by simp at hlen ⊢; omega) (Nat.le_trans hB3 hal.size)).mono ?_
        rintro e w5 ⟨⟨r5, rfl⟩, hp5, hb5, hk5⟩
        go_wp2
        refine bodyPost_ret (results_none rfl _ _ _) rfl ?_
        exact ⟨⟨_, rfl⟩, HFin.out _ _ _ hbody hm hp5, hb31.trans ((hal.mono hB3).trans hb5), hkw.trans ((KeepP.of_below hp3.lt hal).trans hk5)⟩
      · have hln3 := hln.pr hkw
        have hln' := hln
        obtain ⟨A1, k1, rfl, _, _, _⟩ := hln'.2
        have hne : ((ln.length : Int) == 0) = false := by simp; exact h2
        have hbody : encBody os 1 ln rg pt n lt = encPs lt ln := by simp [encBody, h2]
        rw [hbody, encPs_length] at hlen
        go_wp2_with fail
        refine (points_any lt w3 hp3 hln3 (by omega) hB3).mono ?_
        rintro e w5 ⟨⟨r5, rfl⟩, hp5, hb5, hk5⟩
        go_wp2
        go_end0
        exact ⟨⟨_, rfl⟩, HFin.out _ _ _ hbody hm hp5, hb31.trans hb5, hkw.trans hk5⟩
    by_cases h2 : kd = 2
    · subst h2
      have hm : begunG (.mk 2 ln rg pt) = 1 := by simp [begunG]
      have hln' := hln
      obtain ⟨A1, k1, rfl, _, _, _⟩ := hln'.2
      have hbody : encBody os 2 ln rg pt n lt = encB 4 ln.length lt ++ encPs lt ln := by simp [encBody]
      rw [hbody, List.length_append, encB_length, encPs_length] at hlen
      go_wp2_with fail
      refine (word_any ln.length lt w3 hp3 (by omega) hB3).mono ?_
      rintro e w5 ⟨⟨r5, rfl⟩, hp5, hb5, hk5⟩
      have c1 := HBX.out w5 (hk31.trans hk5) 1 _ rfl
      rw [word_len] at hp5
      go_wp2_with fail
      refine (points_any lt w5 hp5 (hln.pr (hkw.trans hk5)) (by simp [encB_length]; omega) (Nat.le_trans hB3 hb5.size)).mono ?_
      rintro e w6 ⟨⟨r6, rfl⟩, hp6, hb6, hk6⟩
      go_wp2
      go_end0
      exact ⟨⟨_, rfl⟩, HFin.out _ _ _ hbody hm (by rw [← List.append_assoc]; exact hp6), hb31.trans (hb5.trans hb6), hkw.trans (hk5.trans hk6)⟩
    by_cases h3 : kd = 3
    · subst h3
      have hm : begunG (.mk 3 ln rg pt) = 1 := by simp [begunG]
      have hbody : encBody os 3 ln rg pt n lt = encB 4 rg.length lt ++ rg.flatMap (encR lt) := by simp [encBody]
      rw [hbody, List.length_append, encB_length, encRs_length] at hlen
      obtain ⟨A2, k2, rfl, hk2, hkl2, hrow2⟩ := hrs
      have HE := Lib.hid hre
      have HR := Lib.hid hrow2
      clear hre hrow2
      go_wp2_with fail
      refine (word_any rg.length lt w3 hp3 (by omega) hB3).mono ?_
      rintro e w5 ⟨⟨r5, rfl⟩, hp5, hb5, hk5⟩
      have c2 := HBX.out w5 (hk31.trans hk5) 2 _ rfl
      rw [word_len] at hp5
      generalize hl5 : l3 ++ encB 4 rg.length lt = l5 at hp5
      have hl5' : l5.length = l.length + 9 := by rw [← hl5, List.length_append, hll, encB_length]
      go_wp2_with fail
      go_loopw [94] (fun i wr => ∃ k : Nat, k ≤ rg.length ∧ i = .int .i64 k ∧ Hid (IsPr B wr pb (l5 ++ (rg.take k).flatMap (encR lt)) os (n + 1)) ∧ Below B w5 wr ∧ Hid (KeepP pb w5 wr)) (fun i _ => rg.length - (intOf i).toNat)
      case atStart => exact ⟨0, Nat.zero_le _, rfl, Lib.hid (by simpa using hp5), Below.refl _ _, Lib.hid (KeepP.refl _ _)⟩
      case round =>
        obtain ⟨k, hk, rfl, HPr, hbl, HK⟩ := hrel
        by_cases hkl : k < rg.length
        · obtain ⟨x, hx⟩ : ∃ x, rg[k]? = some x := ⟨_, List.getElem?_eq_getElem hkl⟩
          obtain ⟨v, hv, hpx⟩ := HE.out.at k x hx
          have hkk := hkw.trans (hk5.trans HK.out)
          obtain ⟨b2, o2, rfl, _, _, hcell⟩ := (HR.out.pr hkk).at (by rintro rfl; simp at hv)
          have cc := hcell k _ hv
          have hpx' := hpx.pr hkk
          have hpx2 := hpx
          obtain ⟨A3, k3, rfl, _, _, _⟩ := hpx2.2
          have hle := takeR_le lt rg (k + 1)
          have hnx := takeR_next lt hx
          rw [hnx, List.length_append, encR_length] at hle
          have hBr : B ≤ wr.heap.size := Nat.le_trans hB (Nat.le_trans hb31.size (Nat.le_trans hb5.size hbl.size))
          go_wp2_with fail
          refine (word_any x.length lt wr HPr.out (by rw [List.length_append, hl5']; omega) hBr).mono ?_
          rintro e w6 ⟨⟨r6, rfl⟩, hp6, hb6, hk6⟩
          rw [word_len] at hp6
          go_wp2_with fail
          refine (points_any lt w6 hp6 (hpx'.pr hk6) (by simp only [List.length_append, hl5', encB_length]; omega) (Nat.le_trans hBr hb6.size)).mono ?_
          rintro e w7 ⟨⟨r7, rfl⟩, hp7, hb7, hk7⟩
          go_wp2
          go_roundw
          · exact ⟨k + 1, hkl, by simp, Lib.hid (by rw [hnx]; simpa [encR] using hp7), hbl.trans (hb6.trans hb7), Lib.hid (HK.out.trans (hk6.trans hk7))⟩
          · simp [intOf]; omega
        · go_wp2
          go_end0
          have hp := HPr.out
          rw [List.take_of_length_le (by omega), ← hl5, List.append_assoc] at hp
          exact ⟨⟨_, rfl⟩, HFin.out _ _ _ hbody hm hp, hb31.trans (hb5.trans hbl), hkw.trans (hk5.trans HK.out)⟩
    · have hm : begunG (.mk kd ln rg pt) = 1 + begunGs pt := by simp [begunG, h1, h2, h3]
      have hbody : encBody os kd ln rg pt n lt = encB 4 pt.length lt ++ encGs os pt (n + 1) := by simp [encBody, h1, h2, h3]
      rw [hbody, List.length_append, encB_length] at hlen
      rw [hm] at hb
      obtain ⟨A3, k3, rfl, hk3', hkl3, hrow3⟩ := hps
      have HE := Lib.hid hpt
      have HR := Lib.hid hrow3
      clear hpt hrow3
      go_wp2_with fail
      refine (word_any pt.length lt w3 hp3 (by omega) hB3).mono ?_
      rintro e w5 ⟨⟨r5, rfl⟩, hp5, hb5, hk5⟩
      have c3 := HBX.out w5 (hk31.trans hk5) 3 _ rfl
      rw [word_len] at hp5
      generalize hl5 : l3 ++ encB 4 pt.length lt = l5 at hp5
      have hl5' : l5.length = l.length + 9 := by rw [← hl5, List.length_append, hll, encB_length]
      go_wp2_with fail
      go_loopw [46] (fun i wr => ∃ k : Nat, k ≤ pt.length ∧ i = .int .i64 k ∧ Hid (IsPr B wr pb (l5 ++ encGs os (pt.take k) (n + 1)) os (n + 1 + begunGs (pt.take k))) ∧ Below B w5 wr ∧ Hid (KeepP pb w5 wr)) (fun i _ => pt.length - (intOf i).toNat)
      case atStart => exact ⟨0, Nat.zero_le _, rfl, Lib.hid (by simpa [encGs, begunGs] using hp5), Below.refl _ _, Lib.hid (KeepP.refl _ _)⟩
      case round =>
        obtain ⟨k, hk, rfl, HPr, hbl, HK⟩ := hrel
        by_cases hkl : k < pt.length
        · obtain ⟨x, hx⟩ : ∃ x, pt[k]? = some x := ⟨_, List.getElem?_eq_getElem hkl⟩
          obtain ⟨cx, hI, hat⟩ := HE.out.at k x hx
          have hkk := hkw.trans (hk5.trans HK.out)
          obtain ⟨b2, o2, rfl, _, _, hcell⟩ := (HR.out.pr hkk).at (by
            intro e; have := hat 0 cx[0]! ; have h4 := hI.four; rw [e] at this
            simp at this
            match cx, h4 with
            | [_, _, _, _], _ => simp at this)
          have hI' := hI.pr hkk
          have hdx : depth x ≤ d := by have := depths_at pt k x hx; simp only [depth] at hd; omega
          have hle := takeGs_le os pt (k + 1) (n + 1)
          have hnx := takeGs_next os hx (n + 1)
          have hbg := takeB_le pt (k + 1)
          have hbn := takeB_next hx
          rw [hnx, List.length_append] at hle
          have hBr : B ≤ wr.heap.size := Nat.le_trans hB (Nat.le_trans hb31.size (Nat.le_trans hb5.size hbl.size))
          obtain ⟨kx, lx, rx, px⟩ := x
          have hI2 := hI
          simp only [IsG] at hI2
          obtain ⟨x1, x2, x3, rfl, ⟨_, D1, m1, rfl, _⟩, ⟨_, ⟨D2, m2, rfl, _⟩, _⟩, _, ⟨D3, m3, rfl, _⟩, _⟩ := hI2
          have d0 := hcell _ _ (hat 0 _ rfl)
          have d1 := hcell _ _ (hat 1 _ rfl)
          have d2 := hcell _ _ (hat 2 _ rfl)
          have d3 := hcell _ _ (hat 3 _ rfl)
          rw [Nat.add_zero] at d0
          rw [← Nat.add_assoc] at d1 d2 d3
          clear hcell hat hI
          have HX := Lib.hid hI'
          clear hI'
          go_wp2_with fail
          have hal : Below wr.heap.size wr (wr.alloc (.cells #[.int .i64 kx, .slice D1 lx.length m1, .slice D2 rx.length m2, .slice D3 px.length m3] 51)) := (Below.refl _ wr).alloc (Nat.le_refl _) _
          refine (IH.out _ B pb _ _ os [_, _, _, _] _ hdx (HPr.out.below hal) (HX.out.pr (.of_below HPr.out.lt hal)) ?_ ?_ (Nat.le_trans hBr hal.size)).mono ?_
          · simp only [List.length_append, hl5']; omega
          · omega
          rintro e w7 ⟨⟨r7, rfl⟩, hp7, hb7, hk7⟩
          go_wp2
          go_roundw
          · refine ⟨k + 1, hkl, by simp, Lib.hid ?_, hbl.trans ((hal.mono hBr).trans hb7), Lib.hid (HK.out.trans ((KeepP.of_below HPr.out.lt hal).trans hk7))⟩
            rw [hnx, hbn, ← List.append_assoc, ← Nat.add_assoc]; exact hp7
          · simp [intOf]; omega
        · go_wp2
          go_end0
          have hp := HPr.out
          rw [List.take_of_length_le (by omega), ← hl5, List.append_assoc, Nat.add_assoc] at hp
          exact ⟨⟨_, rfl⟩, HFin.out _ _ _ hbody hm hp, hb31.trans (hb5.trans hbl), hkw.trans (hk5.trans HK.out)⟩
end
section
open Go.RowKit

theorem IsErr.mono {ok ok' : Nat → Prop} {w : World} {v : Value} {e : Option (Int × Int)} (h : IsErr ok w v e) (k : ∀ b, b < w.heap.size → ok b → ok' b) : IsErr ok' w v e := by
  cases e with
  | none => exact h
  | some p => obtain ⟨b, h0, hb, h1, h2⟩ := h; exact ⟨b, h0, k b (lt_of_cell h1) hb, h1, h2⟩
theorem OwnB.mono {B B' : Nat} {w : World} {v : Value} {l : List UInt8} (h : OwnB B w v l) (hb : B' ≤ B) : OwnB B' w v l :=
  ⟨h.1, h.2.imp id fun ⟨g, c, cur, a, b, rest⟩ => ⟨g, c, cur, a, Nat.le_trans hb b, rest⟩⟩
theorem ownB_nil (B : Nat) (w : World) : OwnB B w (.slice none 0 0) [] := ⟨rfl, .inl ⟨rfl, rfl⟩⟩

/-- what Mixed and Print give -/
def MixedPost (w : World) (g : G) (os : List Bool) (e : Ending) (w' : World) : Prop := ∃ r er, e = .returned (.tuple #[r, er]) ∧ Below w.heap.size w w' ∧
  match checkR g with
  | none => OwnB w.heap.size w' r (encG os g 0) ∧ er = .nilIface
  | some x => r = .slice none 0 0 ∧ IsErr (fun b => w.heap.size ≤ b) w' er (some x)

theorem Mixed_any {ok : Nat → Prop} {g : G} {cs : List Value} {ov : Value} {os : List Bool} (w : World) (hg : IsG ok w g cs) (hd : depth g ≤ 1152921504606846975) (hsm : SmallG g) (hos : Sl ok w ov os.length (os.map Value.bool)) (hl : checkR g = none → (encG os g 0).length ≤ 70368744177664) (hb : checkR g = none → begunG g ≤ 70368744177664) :
    Calls Tryd.prog 48 #[.agg cs.toArray, ov] w (MixedPost w g os) := by
  obtain ⟨cx, rfl⟩ : ∃ cx, cx = cs := ⟨_, rfl⟩
  obtain ⟨kd, ln, rg, pt⟩ := g
  have hg2 := hg
  simp only [IsG] at hg2
  obtain ⟨v1, v2, v3, rfl, _⟩ := hg2
  have HC := Lib.hid (fun W (h : IsG ok W (.mk kd ln rg pt) [.int .i64 kd, v1, v2, v3]) => check_any (ok := ok) (w := W) h hd hsm)
  go_enter Tryd.func48, Tryd.ntmps48
  obtain ⟨w1, hw1⟩ : ∃ w1, w1 = w.alloc (.cells #[.int .i64 kd, v1, v2, v3] 51) := ⟨_, rfl⟩
  have hb1 : Below w.heap.size w w1 := by subst hw1; exact (Below.refl _ w).alloc (Nat.le_refl _) _
  have hc0 : ∀ j v, #[Value.int .i64 kd, v1, v2, v3][j]? = some v → w1.cell? ⟨w.heap.size, j, none⟩ = some v := by subst hw1; intro j v h; rw [World.cell?_alloc_mark]; exact h
  have hlt1 : w.heap.size < w1.heap.size := lt_of_cell (hc0 0 _ rfl)
  have HC0 := Lib.hid hc0
  clear hc0
  go_wp2_with fail
  rw [← hw1]
  refine (HC.out w1 (hg.keeps (below_keeps hb1 ok))).mono ?_
  rintro e w2 ⟨v, rfl, hv, hb2⟩
  have d0 := (hb2.cell (p := ⟨w.heap.size, 0, none⟩) hlt1).trans (HC0.out 0 _ rfl)
  have d1 := (hb2.cell (p := ⟨w.heap.size, 1, none⟩) hlt1).trans (HC0.out 1 _ rfl)
  have d2 := (hb2.cell (p := ⟨w.heap.size, 2, none⟩) hlt1).trans (HC0.out 2 _ rfl)
  have d3 := (hb2.cell (p := ⟨w.heap.size, 3, none⟩) hlt1).trans (HC0.out 3 _ rfl)
  have hb12 : Below w.heap.size w w2 := hb1.trans (hb2.mono (Nat.le_of_lt hlt1))
  cases hck : checkR (.mk kd ln rg pt) with
  | some x =>
    obtain ⟨a, c⟩ := x
    rw [hck] at hv
    have HV := Lib.hid hv
    obtain ⟨b, rfl, _⟩ := hv
    go_wp2
    go_ret2
    exact ⟨_, _, rfl, hb12, by rw [hck]; exact ⟨rfl, IsErr.mono (e := some (a, c)) HV.out fun b _ h => Nat.le_trans (Nat.le_of_lt hlt1) h⟩⟩
  | none =>
    rw [hck] at hv
    cases hv
    obtain ⟨A, c, rfl, hoc, hol, hor⟩ := hos
    have HOR := Lib.hid hor
    clear hor
    have hlt2 : w.heap.size < w2.heap.size := Nat.lt_of_lt_of_le hlt1 hb2.size
    obtain ⟨w3, hw3⟩ : ∃ w3, w3 = w2.alloc (.cells #[.slice none 0 0, .slice A os.length c, .int .i64 0] 122) := ⟨_, rfl⟩
    have hb3 : Below w2.heap.size w2 w3 := by subst hw3; exact (Below.refl _ w2).alloc (Nat.le_refl _) _
    have hblk : w3.heap[w2.heap.size]? = some (.cells #[.slice none 0 0, .slice A os.length c, .int .i64 0] 122 (0, 0)) := by subst hw3; exact World.alloc_heap_new _ _
    have hb13 : Below w.heap.size w w3 := hb12.trans (hb3.mono (Nat.le_of_lt hlt2))
    have hap : ∀ b, b < w.heap.size → Apt w3 w2.heap.size b := fun b hb => ⟨Nat.lt_of_lt_of_le hb hb13.size, by omega, fun v hv => by simp [World.cell?, hblk] at hv; subst hv; simp [Value.ownBlock]⟩
    have hpr : IsPr w.heap.size w3 w2.heap.size [] os 0 := ⟨Nat.le_of_lt hlt2, _, A, c, hblk, ownB_nil _ _, by simp [Value.ownBlock], ⟨hoc, hol⟩, ((HOR.out.mono (ok' := fun b => b < w.heap.size) fun b hb _ => hb).keeps (Keeps.of_below hb13)).mono fun b _ h => hap b h⟩
    have hgp : IsG (Apt w3 w2.heap.size) w3 (.mk kd ln rg pt) [.int .i64 kd, v1, v2, v3] := ((hg.mono (ok' := fun b => b < w.heap.size) fun b hb _ => hb).keeps (Keeps.of_below hb13)).mono fun b _ h => hap b h
    go_wp2_with fail
    rw [← hw3]
    refine (geom_any _ _ w.heap.size w2.heap.size 0 [] os _ w3 (Nat.le_refl _) hpr hgp (by simpa using hl hck) (by simpa using hb hck) hb13.size).mono ?_
    rintro e w4 ⟨⟨r4, rfl⟩, ⟨_, ov, A4, c4, hblk4, hown, _⟩, hb4, _⟩
    have hq4 : w4.cell? ⟨w2.heap.size, 0, none⟩ = some ov := by simp [World.cell?, hblk4]
    have HOW := Lib.hid hown
    clear hblk4 hblk hown
    go_wp2
    go_ret2
    exact ⟨_, _, rfl, hb13.trans hb4, by rw [hck]; exact ⟨by simpa using HOW.out, rfl⟩⟩

set_option maxRecDepth 100000 in
theorem Print_any {ok : Nat → Prop} {g : G} {cs : List Value} (little : Bool) (w : World) (hg : IsG ok w g cs) (hd : depth g ≤ 1152921504606846975) (hsm : SmallG g) (hl : checkR g = none → (encG [little] g 0).length ≤ 70368744177664) (hb : checkR g = none → begunG g ≤ 70368744177664) :
    Calls Tryd.prog 23 #[.agg cs.toArray, .bool little] w (MixedPost w g [little]) := by
  have H := Lib.hid (fun W (h : IsG (fun b => b < w.heap.size) W g cs) (v : Value) (hv : Sl (fun _ => True) W v 1 [.bool little]) => Mixed_any (ok := fun _ => True) (os := [little]) W (h.mono fun _ _ _ => trivial) hd hsm hv hl hb)
  have HG := Lib.hid (hg.mono (ok' := fun b => b < w.heap.size) fun b hb _ => hb)
  obtain ⟨a1, a2, a3, a4, rfl⟩ : ∃ a1 a2 a3 a4, cs = [a1, a2, a3, a4] := by
    have := hg.four
    match cs, this with
    | [a, b, c, d], _ => exact ⟨a, b, c, d, rfl⟩
  clear hg hl hb
  obtain ⟨wb, hwb⟩ : ∃ wb, wb = w.alloc (.cells #[a1, a2, a3, a4] 51) := ⟨_, rfl⟩
  obtain ⟨wc, hwc⟩ : ∃ wc, wc = wb.alloc (.cells #[.bool little] 4) := ⟨_, rfl⟩
  have hb0 : Below w.heap.size w wb := by subst hwb; exact (Below.refl _ w).alloc (Nat.le_refl _) _
  have hb1 : Below w.heap.size w wc := by subst hwc; exact hb0.alloc hb0.size _
  have hsz : wb.heap.size = w.heap.size + 1 := by subst hwb; exact Array.size_push _
  have hv : Sl (fun _ => True) wc (.slice (some ⟨w.heap.size + 1, 0, none⟩) 1 1) 1 [.bool little] := ⟨_, _, rfl, Nat.le_refl _, by omega, .inr ⟨_, _, rfl, trivial, fun i c h => by rw [Nat.zero_add, hwc, ← hsz, World.cell?_alloc_mark]; simpa using h⟩⟩
  have HV := Lib.hid hv
  go_enter Tryd.func23, Tryd.ntmps23
  go_wp2_with fail
  rw [← hwb, ← hwc]
  refine (H.out _ (HG.out.keeps (Keeps.of_below hb1)) _ HV.out).mono ?_
  rintro e w2 ⟨r, er, rfl, hb2, hr⟩
  have HR := Lib.hid hr
  go_wp2
  go_ret2
  refine ⟨_, _, rfl, hb1.trans (hb2.mono hb1.size), ?_⟩
  have h := HR.out
  revert h
  cases checkR g with
  | none => exact fun ⟨h1, h2⟩ => ⟨h1.mono hb1.size, h2⟩
  | some x => exact fun ⟨h1, h2⟩ => ⟨h1, h2.mono fun b _ h => Nat.le_trans hb1.size h⟩
end
end Go.Proofs.YtlffgepnhhnadaaDoor.Pl
