/- tree's walk over all geometries, as an iterator: by induction on the depth. What is handed in lies as lists (Mem). -/
import Derived.Test.YtlffgepnhhnadaaDoorWrong
import Derived.Test.YtlffgepnhhnadaaDoorErr
import Derived.RangeFuncNested
import Derived.RangeFuncBound
import Derived.RangeFuncCalls
import Derived.RangeFuncLeaves
import Derived.RangeFuncKeeps
import Derived.Shelf.Abstract
import Derived.Shelf.RegionOpen
import Derived.OwnWalkIn
import Derived.TacticsInMore
import Derived.LoopNIn
import Derived.LoopIn
import Derived.StillTailTactics
namespace Go.Proofs.YtlffgepnhhnadaaDoor.Pl
open Go.RowKit Go.Shelf
attribute [local go_sem] Oper.semAt_some

/-- all rows of cells stand but those of S -/
def KeepC (S : Nat → Prop) (W W' : World) : Prop := W.heap.size ≤ W'.heap.size ∧ Keeps (fun b => ¬ S b) W W'
theorem KeepC.refl (S : Nat → Prop) (W : World) : KeepC S W W := ⟨Nat.le_refl _, Keeps.refl _ _⟩
theorem KeepC.trans {S : Nat → Prop} {a b c : World} (h : KeepC S a b) (k : KeepC S b c) : KeepC S a c := ⟨Nat.le_trans h.1 k.1, h.2.trans k.2⟩
theorem KeepC.of_below {S : Nat → Prop} {a b : World} (h : Below a.heap.size a b) : KeepC S a b := ⟨h.size, below_keeps h _⟩
theorem KeepC.keeps {S ok : Nat → Prop} {a b : World} (h : KeepC S a b) (hS : ∀ i, ok i → ¬ S i) : Keeps ok a b := h.2.mono fun i _ hi => hS i hi

theorem AtG.drew {ok : Nat → Prop} {w : World} {b o : Nat} {g : G} (h : AtG ok w b o g) : AtG ok w.drew b o g := h.keeps (fun _ _ _ h _ => h)
/-- a geometry where it stands -/
structure Spot where
  b : Nat
  o : Nat
  level : Int
  home : Int
  g : G
def Spot.enc (x : Spot) : Array Value := #[.agg #[.pointer (some ⟨x.b, x.o, none⟩), .int .i64 x.level, .int .i64 x.home]]

mutual
def depth : G → Nat
  | .mk _ _ _ p => depths p + 1
def depths : List G → Nat
  | [] => 0
  | g :: gs => max (depth g) (depths gs)
end
theorem depths_at : ∀ (p : List G) (i : Nat) (g : G), p[i]? = some g → depth g ≤ depths p
  | [], i, g, h => by simp at h
  | g0 :: gs, i, g, h => by
    simp only [depths]
    cases i with
    | zero => simp at h; subst h; omega
    | succ i => have := depths_at gs i g (by simpa using h); omega

def kidsAt (w : World) (b o : Nat) : Nat × Nat := match w.cell? ⟨b, o + 3, none⟩ with | some (.slice (some a) _ _) => (a.block, a.off) | _ => (0, 0)
mutual
def spots (w : World) : G → Nat → Nat → Int → Int → List Spot
  | .mk k l r p, b, o, lv, hm => ⟨b, o, lv, hm, .mk k l r p⟩ :: spotss w p (kidsAt w b o).1 (kidsAt w b o).2 (lv + 1) k
def spotss (w : World) : List G → Nat → Nat → Int → Int → List Spot
  | [], _, _, _, _ => []
  | g :: gs, b, o, lv, hm => spots w g b o lv hm ++ spotss w gs b (o + 4) lv hm
end
theorem spotss_take (w : World) : ∀ (p : List G) (k : Nat) (g : G) (b o : Nat) (lv hm : Int), p[k]? = some g → spotss w (p.take (k + 1)) b o lv hm = spotss w (p.take k) b o lv hm ++ spots w g b (o + k * 4) lv hm
  | [], k, g, b, o, lv, hm, h => by simp at h
  | g0 :: gs, k, g, b, o, lv, hm, h => by
    cases k with
    | zero => simp at h; subst h; simp [spotss]
    | succ k =>
      have := spotss_take w gs k g b (o + 4) lv hm (by simpa using h)
      rw [List.take_succ_cons, List.take_succ_cons]
      simp only [spotss]
      rw [this, List.append_assoc, show o + 4 + k * 4 = o + (k + 1) * 4 from by omega]

mutual
/-- no geometry's own points are beyond counting -/
def SmallG : G → Prop
  | .mk k l r p => ownN (.mk k l r p) ≤ 140737488355328 ∧ SmallGs p
def SmallGs : List G → Prop
  | [] => True
  | g :: gs => SmallG g ∧ SmallGs gs
end
mutual
theorem spots_small (w : World) : ∀ (g : G) (b o : Nat) (lv hm : Int), SmallG g → ∀ x ∈ spots w g b o lv hm, ownN x.g ≤ 140737488355328
  | .mk k l r p, b, o, lv, hm, h, x, hx => by
    simp only [SmallG] at h
    simp only [spots, List.mem_cons] at hx
    rcases hx with rfl | hx
    · exact h.1
    · exact spotss_small w p _ _ _ _ h.2 x hx
theorem spotss_small (w : World) : ∀ (p : List G) (b o : Nat) (lv hm : Int), SmallGs p → ∀ x ∈ spotss w p b o lv hm, ownN x.g ≤ 140737488355328
  | [], _, _, _, _, _, x, hx => by simp [spotss] at hx
  | g :: gs, b, o, lv, hm, h, x, hx => by
    simp only [SmallGs] at h
    simp only [spotss, List.mem_append] at hx
    rcases hx with hx | hx
    · exact spots_small w g _ _ _ _ h.1 x hx
    · exact spotss_small w gs _ _ _ _ h.2 x hx
end

/-- a geometry, its level, and the kind of what it is a part of -/
structure It where
  level : Int
  home : Int
  g : G
def Spot.it (x : Spot) : It := ⟨x.level, x.home, x.g⟩
mutual
/-- all geometries of a tree in the order of the text -/
def items : G → Int → Int → List It
  | .mk k l r p, lv, hm => ⟨lv, hm, .mk k l r p⟩ :: itemss p (lv + 1) k
def itemss : List G → Int → Int → List It
  | [], _, _ => []
  | g :: gs, lv, hm => items g lv hm ++ itemss gs lv hm
end
mutual
theorem spots_items (w : World) : ∀ (g : G) (b o : Nat) (lv hm : Int), (spots w g b o lv hm).map Spot.it = items g lv hm
  | .mk k l r p, b, o, lv, hm => by simp only [spots, items, List.map_cons, spotss_items w p]; rfl
theorem spotss_items (w : World) : ∀ (p : List G) (b o : Nat) (lv hm : Int), (spotss w p b o lv hm).map Spot.it = itemss p lv hm
  | [], _, _, _, _ => rfl
  | g :: gs, b, o, lv, hm => by simp only [spotss, itemss, List.map_append, spots_items w g, spotss_items w gs]
end
/-- tree.Check's answer: place and number of the first thing that is wrong -/
def checkGo : List It → Nat → Nat → Option (Int × Int)
  | [], _, _ => none
  | x :: xs, at_, t => if wrongE x.g x.level x.home (t + (1 + ownN x.g) : Nat) = 0 then checkGo xs (at_ + 1) (t + (1 + ownN x.g)) else some (at_, wrongE x.g x.level x.home (t + (1 + ownN x.g) : Nat))
def checkR (g : G) : Option (Int × Int) := checkGo (items g 1 0) 0 0

theorem spotss_prefix (w : World) : ∀ (p : List G) (k b o : Nat) (lv hm : Int), spotss w (p.take k) b o lv hm <+: spotss w p b o lv hm
  | [], k, b, o, lv, hm => by simp
  | g0 :: gs, k, b, o, lv, hm => by
    cases k with
    | zero => simp [spotss]
    | succ k =>
      rw [List.take_succ_cons]
      simp only [spotss]
      exact (List.prefix_append_right_inj _).2 (spotss_prefix w gs k b (o + 4) lv hm)
theorem grownBy_drewN (w : World) (n : Nat) : w.grownBy (w.drewN n) none := ⟨rfl, rfl, rfl, Nat.le_refl _, fun _ _ _ => rfl⟩

/-- the parts of a tree behind a pointer -/
theorem AtG.kids {ok : Nat → Prop} {w : World} {b o : Nat} {k : Int} {l : List Pt} {r : List (List Pt)} {p : List G} (h : AtG ok w b o (.mk k l r p)) :
    ∃ A c, w.cell? ⟨b, o + 3, none⟩ = some (.slice A p.length c) ∧ p.length ≤ c ∧ p.length ≤ 140737488355328 ∧ (p ≠ [] → ∃ b3 o3, A = some ⟨b3, o3, none⟩ ∧ kidsAt w b o = (b3, o3) ∧ ∀ i g, p[i]? = some g → AtG ok w b3 (o3 + i * 4) g) := by
  obtain ⟨v1, v2, v3, hI, hb, c0, c1, c2, c3⟩ := h
  simp only [IsG] at hI
  obtain ⟨_, _, _, hv, _, _, ps, ⟨A, c, rfl, hc, hl, hr⟩, hg⟩ := hI
  simp only [List.cons.injEq, and_true] at hv
  obtain ⟨_, rfl, rfl, rfl⟩ := hv
  refine ⟨A, c, c3, hc, hl, fun hn => ?_⟩
  have hps : ps ≠ [] := by rintro rfl; have := hg.length; have := List.length_pos_iff.2 hn; simp at *; omega
  obtain ⟨b3, o3, rfl, hb3, _, hcell⟩ := hr.at hps
  refine ⟨b3, o3, rfl, by simp [kidsAt, c3], fun i g hi => ?_⟩
  obtain ⟨cs, h1, h2⟩ := hg.at i g hi
  obtain ⟨kd, gl, gr, gp⟩ := g
  have h1' := h1
  simp only [IsG] at h1
  obtain ⟨u1, u2, u3, rfl, _⟩ := h1
  refine ⟨u1, u2, u3, h1', hb3, ?_, ?_, ?_, ?_⟩
  · exact hcell _ _ (h2 0 _ rfl)
  · rw [Nat.add_assoc]; exact hcell _ _ (h2 1 _ rfl)
  · rw [Nat.add_assoc]; exact hcell _ _ (h2 2 _ rfl)
  · rw [Nat.add_assoc]; exact hcell _ _ (h2 3 _ rfl)

theorem room_of_none {F : Fence} (hd : F.depth = none) (k : Nat) : F.room k := fun d h => by rw [hd] at h; cases h
theorem roundIn_any {F : Fence} (hd : F.depth = none) {m m' : Nat} {P : Program} {l : Nat} {f : FuncId} {tmps : Array Value} {assign body : Code} {w : World} {R : Ending → World → Prop}
    (h : RoundIn F m P l f tmps assign body w R) : RoundIn F m' P l f tmps assign body w R := ⟨h.1, fun c cs _ => h.2 c cs (room_of_none hd _)⟩
theorem yieldAt_any {F : Fence} (hd : F.depth = none) {m : Nat} (m' : Nat) {P : Program} {l : Nat} {args : Array Value} {W : World} {R : Ending → World → Prop} (h : YieldAt F m P l args W R) : YieldAt F m' P l args W R := by
  obtain ⟨fn, tmps, assign, body, hy, hR⟩ := h
  exact ⟨fn, tmps, assign, body, hy, roundIn_any hd hR⟩

set_option maxRecDepth 100000 in
set_option maxHeartbeats 2000000 in
theorem walk_in (l : Nat) (xs : List Spot) (S ok : Nat → Prop) (w0 : World) (hS : ∀ b, ok b → ¬ S b) (hSl : ∀ b, S b → b < w0.heap.size)
    (J Jx : List Spot → World → Prop) (hJ : ∀ pre W W', J pre W → W.grownBy W' none → J pre W')
    (hY : ∀ m pre x W, J pre W → pre ++ [x] <+: xs → YieldAt Fence.wide m Tryd.prog l x.enc W fun e W' =>
      (e = .returned (.bool true) ∧ J (pre ++ [x]) W' ∧ KeepC S W W') ∨ (e = .returned (.bool false) ∧ Jx (pre ++ [x]) W')) (d : Nat) :
    ∀ (g : G), depth g ≤ d → ∀ (n b o : Nat) (lv hm : Int) (pre : List Spot) (W : World), KeepC S w0 W → AtG ok w0 b o g → J pre W → pre ++ spots w0 g b o lv hm <+: xs → 0 ≤ lv → lv + d ≤ 1152921504606846976 →
      CallsIn Fence.wide n Tryd.prog 103 #[.agg #[.pointer (some ⟨b, o, none⟩), .int .i64 lv, .int .i64 hm], .func (.yield l) #[] #[]] W fun e W' =>
        (e = .returned (.bool true) ∧ J (pre ++ spots w0 g b o lv hm) W' ∧ KeepC S W W') ∨ (e = .returned (.bool false) ∧ ∃ q, q <+: spots w0 g b o lv hm ∧ Jx (pre ++ q) W') := by
  induction d with
  | zero => intro g hg; cases g; simp [depth] at hg
  | succ d ih =>
    intro g hg n b o lv hm pre W hW hA hJ0 hN h0 hlv
    obtain ⟨kd, gl, gr, p⟩ := g
    have hdd : ∀ k : Nat, (Fence.wide.depth.isSome = true → 1 ≤ k) := fun k h => by cases h
    -- the world behind the box
    have hJ1 : J pre (W.alloc (.cells #[.pointer (some ⟨b, o, none⟩), .int .i64 lv, .int .i64 hm] 160)) := hJ _ _ _ hJ0 (World.grownBy_alloc _ _ _)
    have hK1 : KeepC S w0 (W.alloc (.cells #[.pointer (some ⟨b, o, none⟩), .int .i64 lv, .int .i64 hm] 160)) := hW.trans (.of_below ((Below.refl _ _).alloc (Nat.le_refl _) _))
    have hbox : ¬ S W.heap.size := fun h => by have := hSl _ h; have := hW.1; omega
    have hlen : pre ++ [(⟨b, o, lv, hm, .mk kd gl gr p⟩ : Spot)] <+: xs := List.IsPrefix.trans ((List.prefix_append_right_inj _).2 (by simp [spots])) hN
    obtain ⟨fn, tmps, assign, body, hy, hR⟩ := hY (n - 1) pre ⟨b, o, lv, hm, .mk kd gl gr p⟩ _ hJ1 hlen
    simp only [Spot.enc] at hy
    obtain ⟨A, c, c3, hc, hl, hkids⟩ := hA.kids
    obtain ⟨v1, v2, v3, hI, hb, c0, _, _, _⟩ := hA
    simp only [G.kind] at c0
    have facts : ∀ wr, KeepC S (W.alloc (.cells #[.pointer (some ⟨b, o, none⟩), .int .i64 lv, .int .i64 hm] 160)) wr →
        wr.cell? ⟨W.heap.size, 0, none⟩ = some (.pointer (some ⟨b, o, none⟩)) ∧ wr.cell? ⟨W.heap.size, 1, none⟩ = some (.int .i64 lv) ∧ wr.cell? ⟨b, o, none⟩ = some (.int .i64 kd) ∧ wr.cell? ⟨b, o + 3, none⟩ = some (.slice A p.length c) := fun wr h =>
      ⟨h.2.cell (a := ⟨W.heap.size, 0, none⟩) hbox (World.cell?_alloc_mark W _ _ _ 0), h.2.cell (a := ⟨W.heap.size, 1, none⟩) hbox (World.cell?_alloc_mark W _ _ _ 1),
        (hK1.trans h).2.cell (a := ⟨b, o, none⟩) (hS _ hb) c0, (hK1.trans h).2.cell (a := ⟨b, o + 3, none⟩) (hS _ hb) c3⟩
    have hR2 := hR.mono (R' := fun e W' => (e = .returned (.bool true) ∧ Hid (J (pre ++ [(⟨b, o, lv, hm, .mk kd gl gr p⟩ : Spot)]) W') ∧ Hid (KeepC S (W.alloc (.cells #[.pointer (some ⟨b, o, none⟩), .int .i64 lv, .int .i64 hm] 160)) W') ∧
        W'.cell? ⟨W.heap.size, 0, none⟩ = some (.pointer (some ⟨b, o, none⟩)) ∧ W'.cell? ⟨b, o + 3, none⟩ = some (.slice A p.length c)) ∨ (e = .returned (.bool false) ∧ Hid (Jx (pre ++ [(⟨b, o, lv, hm, .mk kd gl gr p⟩ : Spot)]) W')))
      (fun e W' h => h.elim (fun ⟨h1, h2, h3⟩ => .inl ⟨h1, Lib.hid h2, Lib.hid h3, (facts W' h3).1, (facts W' h3).2.2.2⟩) (fun ⟨h1, h2⟩ => .inr ⟨h1, Lib.hid h2⟩))
    have FACTS := Lib.hid facts
    have IH := Lib.hid ih
    have HK := Lib.hid hkids
    have HK1 := Lib.hid hK1
    have HN := Lib.hid hN
    have HG := Lib.hid hg
    clear facts ih hkids hK1 hN hg hR hJ1 hJ0 hI hY c0 c3 hW hlen
    refine callsIn_of_wp Tryd.func103 rfl trivial ?_ rfl
    simp only [Tryd.ntmps103, List.size_toArray, List.length_cons, List.length_nil, Nat.reduceAdd, Nat.reduceSub, Array.replicate_succ, Array.replicate_zero, List.push_toArray, List.append_toArray, List.nil_append, List.cons_append]
    gi_wp2_with ((try refine ⟨hdd _, ?_⟩); refine hR2.mono ?_; clear hR2; rintro e W2 (⟨rfl, hJ2, hK2, b0, b3⟩ | ⟨rfl, hx2⟩))
    · gi_loopw [16] (fun i wr => ∃ k : Nat, k ≤ p.length ∧ i = .int .i64 k ∧ Hid (J (pre ++ (⟨b, o, lv, hm, .mk kd gl gr p⟩ :: spotss w0 (p.take k) (kidsAt w0 b o).1 (kidsAt w0 b o).2 (lv + 1) kd)) wr) ∧ Hid (KeepC S (W.alloc (.cells #[.pointer (some ⟨b, o, none⟩), .int .i64 lv, .int .i64 hm] 160)) wr)) (fun i _ => p.length - (intOf i).toNat)
      case atStart => exact ⟨0, Nat.zero_le _, rfl, by simpa [spotss] using hJ2, hK2⟩
      case round =>
        obtain ⟨k, hk, rfl, HJ, HKK⟩ := hrel
        obtain ⟨f0, f1, f2, f3⟩ := FACTS.out _ HKK.out
        clear b0 b3 hJ2 hK2
        by_cases hlt : k < p.length
        · obtain ⟨g, hgk⟩ : ∃ g, p[k]? = some g := ⟨_, List.getElem?_eq_getElem hlt⟩
          obtain ⟨b4, o4, rfl, hka, hat⟩ := HK.out (by rintro rfl; simp at hlt)
          have hgd : depth g ≤ d := by have := depths_at p k g hgk; have := HG.out; simp only [depth] at this; omega
          have hsp := spotss_take w0 p k g (kidsAt w0 b o).1 (kidsAt w0 b o).2 (lv + 1) kd hgk
          rw [hka] at hsp
          have hle : (pre ++ (⟨b, o, lv, hm, .mk kd gl gr p⟩ :: spotss w0 (p.take k) b4 o4 (lv + 1) kd)) ++ spots w0 g b4 (o4 + k * 4) (lv + 1) kd <+: xs := by
            refine List.IsPrefix.trans ?_ HN.out
            simp only [spots, hka]
            rw [List.append_assoc, List.cons_append, ← hsp]
            exact (List.prefix_append_right_inj _).2 (List.cons_prefix_cons.2 ⟨rfl, spotss_prefix w0 p (k + 1) b4 o4 (lv + 1) kd⟩)
          have hcall := fun nq => callsIn_wide.1 (IH.out g hgd 0 b4 (o4 + k * 4) (lv + 1) kd _ (wr.drewN nq) (HK1.out.trans (HKK.out.trans (KeepC.of_below (below_drewN (Below.refl _ _) nq)))) (hat k g hgk) (hJ _ _ _ (by rw [hka] at HJ; exact HJ.out) (grownBy_drewN wr nq)) hle (by omega) (by omega))
          have HC := Lib.hid hcall
          have HSP := Lib.hid hsp
          have HKA := Lib.hid hka
          clear hcall hsp hka hle hat hgk hgd
          gi_wp2
          refine wpIn_wide.2 ?_
          go_still_tail 17, (by kernel_rfl)
          change wpList _ _ _ _ _ (wr.drewN 1)
          go_wp2_with fail
          refine (HC.out 1).mono ?_
          clear HC
          rintro e W3 (⟨rfl, hJ3, hK3⟩ | ⟨rfl, q, hq, hx3⟩)
          · have HJ3 := Lib.hid hJ3
            have HK3 := Lib.hid hK3
            clear hJ3 hK3
            go_wp2
            gi_wp2
            go_roundw
            case rel =>
              refine ⟨k + 1, by omega, by go_num, ?_, ?_⟩
              · have h := HJ3.out
                rw [HKA.out]
                rw [List.append_assoc, List.cons_append, ← HSP.out] at h
                exact h
              · exact HKK.out.trans ((KeepC.of_below (below_drewN (Below.refl _ _) 1)).trans HK3.out)
            case measure => simp [intOf]; omega
          · have HX3 := Lib.hid hx3
            have HQ := Lib.hid hq
            clear hx3 hq
            go_wp2
            gi_wp2
            go_ret
            refine .inr ⟨rfl, ⟨b, o, lv, hm, .mk kd gl gr p⟩ :: (spotss w0 (p.take k) b4 o4 (lv + 1) kd ++ q), ?_, ?_⟩
            · simp only [spots, HKA.out]
              refine List.cons_prefix_cons.2 ⟨rfl, ?_⟩
              refine List.IsPrefix.trans ?_ (spotss_prefix w0 p (k + 1) b4 o4 (lv + 1) kd)
              rw [HSP.out]
              exact (List.prefix_append_right_inj _).2 HQ.out
            · have h := HX3.out
              simpa [List.append_assoc] using h
        · gi_wp2
          go_ret
          refine .inl ⟨rfl, ?_, ?_⟩
          · have h := HJ.out
            rw [List.take_of_length_le (by omega)] at h
            simpa [spots] using h
          · exact (KeepC.of_below ((Below.refl _ _).alloc (Nat.le_refl _) _)).trans HKK.out
    · go_ret
      exact .inr ⟨rfl, [⟨b, o, lv, hm, .mk kd gl gr p⟩], by simp [spots], hx2.out⟩
end Go.Proofs.YtlffgepnhhnadaaDoor.Pl
