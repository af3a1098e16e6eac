/- The document's pen: a geometry, walked. -/
import Derived.Test.YtlffgepnhhnadaaGreatDoorMtA
namespace Go.Proofs.YtlffgepnhhnadaaGreatDoor.Pl
open Go.RowKit

theorem GrewB.undrew1 {B : Nat} {w w' : World} {v v' : Value} {l : List UInt8} (h : GrewB B w.drew v l v' w') : GrewB B w v l v' w' := ⟨h.own, ⟨h.grown.os, h.grown.tape, h.grown.output, h.grown.size, h.grown.block⟩, h.blk⟩
theorem GrewB.slice {B : Nat} {w w' : World} {v v' : Value} {l : List UInt8} (h : GrewB B w v l v' w') : ∃ a n c, v' = .slice a n c := by
  rcases h.own.2 with h | ⟨g, cap, cur, h, _⟩
  · exact ⟨_, _, _, h.1⟩
  · exact ⟨_, _, _, h⟩
theorem sl_row {ok : Nat → Prop} {w : World} {A : Option Addr} {n m c : Nat} {cs : List Value} (h : Sl ok w (.slice A m c) n cs) : Row ok w A cs := by
  obtain ⟨_, _, h, _, _, hr⟩ := h
  cases h
  exact hr
mutual
/-- kinds that 32 bits hold -/
def KindG : G → Prop
  | .mk k l r p => (0 ≤ k ∧ k < 4294967296) ∧ l.length < 4294967296 ∧ r.length < 4294967296 ∧ p.length < 4294967296 ∧ (∀ x ∈ r, x.length < 4294967296) ∧ KindGs p
def KindGs : List G → Prop
  | [] => True
  | g :: gs => KindG g ∧ KindGs gs
end
theorem KindGs.at : ∀ {p : List G} {k : Nat} {x : G}, KindGs p → p[k]? = some x → KindG x
  | [], k, x, _, h => by simp at h
  | g :: p, 0, x, hk, h => by simp only [KindGs] at hk; simp at h; subst h; exact hk.1
  | g :: p, k + 1, x, hk, h => by simp only [KindGs] at hk; exact KindGs.at hk.2 (by simpa using h)
theorem ordB_one (lt : Bool) (n : Nat) : ordB [lt] n = lt := by simp [ordB]
/-- the pen behind a step: what it has written -/
def PnS (B : Nat) (w1 : World) (pb : Nat) (lt : Bool) (n : Nat) (l : List UInt8) (W : World) : Prop := ∃ v, IsPn B W pb v l lt n ∧ KeepP pb w1 W ∧ Below B w1 W
theorem PnS.step {B pb n : Nat} {w1 W w2 : World} {lt : Bool} {l l' : List UInt8} {v v' : Value} (h : IsPn B W pb v l lt n) (hk : KeepP pb w1 W) (hb : Below B w1 W) (hB : B ≤ w1.heap.size) (hg : GrewB B W v l' v' w2) : PnS B w1 pb lt n l' (w2.setCell ⟨pb, 0, none⟩ v') := by
  obtain ⟨o1, o2, o3⟩ := h.put hg (Nat.le_trans hB hb.size)
  exact ⟨v', o1, hk.trans o2, hb.trans o3⟩
/-- .. and between a put and its store: the pen's cell, and any block that it does not write -/
theorem pn_mid {B pb n : Nat} {W w2 : World} {lt : Bool} {l l' : List UInt8} {v v' : Value} (h : IsPn B W pb v l lt n) (hg : GrewB B W v l' v' w2) :
    w2.cell? ⟨pb, 0, none⟩ = some v ∧ w2.frozen? ⟨pb, 0, none⟩ = false ∧ ∀ b, Apt W pb b → w2.heap[b]? = W.heap[b]? := by
  have e := hg.grown.block pb h.pblt (fun e => h.ne e.symm)
  exact ⟨(World.cell?_of_block (a := ⟨pb, 0, none⟩) e).trans h.c0, (World.frozen?_of_block (a := ⟨pb, 0, none⟩) e).trans (h.fz 0), fun b hb => hg.grown.block b hb.1 (fun e => hb.2.2 v h.c0 e.symm)⟩
/-- what the pen does of a tree of at most that depth -/
def PenAt (d : Nat) (g : G) : Prop := ∀ (B pb n : Nat) (v : Value) (l : List UInt8) (lt : Bool) (cs : List Value) (w : World), depth g ≤ d → IsPn B w pb v l lt n → IsG (Apt w pb) w g cs → KindG g → l.length + (encG [lt] g n).length ≤ 70368744177664 → n + begunG g ≤ 70368744177664 → B ≤ w.heap.size →
    Calls Tryz.prog 55 #[.pointer (some ⟨pb, 0, none⟩), .agg cs.toArray] w fun e w' => e = .returned (.tuple #[]) ∧ PnS B w pb lt (n + begunG g) (l ++ encG [lt] g n) w'
set_option maxRecDepth 100000 in
set_option maxHeartbeats 40000000 in
theorem pen_pt (d : Nat) (g : G) (hkind : g.kind = 1) : PenAt (d + 1) g := by
  intro B pb n v l lt cs w hd hp hI hkd hl hn hB
  obtain ⟨kd, ln, rg, pt⟩ := g
  have hdp : depths pt ≤ d := by simp only [depth] at hd; omega
  have henc := encG_eq [lt] kd ln rg pt n lt (ordB_one lt n)
  simp only [KindG] at hkd
  obtain ⟨hk0, hk1, hk2, hk3, hk4, hk5⟩ := hkd
  obtain ⟨kn, rfl⟩ : ∃ kn : Nat, kd = kn := ⟨kd.toNat, by omega⟩
  simp only [IsG] at hI
  obtain ⟨v1, v2, v3, rfl, hln, ⟨vr, hrs, hre⟩, vp, hps, hpt⟩ := hI
  obtain ⟨w1, hw1⟩ : ∃ w1, w1 = w.alloc (.cells #[.int .i64 (kn : Int), v1, v2, v3] 27) := ⟨_, rfl⟩
  have hb1 : Below w.heap.size w w1 := by subst hw1; exact (Below.refl _ w).alloc (Nat.le_refl _) _
  have hx1 : w1.heap[w.heap.size]? = some (.cells #[.int .i64 (kn : Int), v1, v2, v3] 27 (0, 0)) := by subst hw1; exact World.alloc_heap_new _ _
  have hp1 := hp.below hb1
  have hk01 : KeepP pb w w1 := .of_below hp.pblt hb1
  have ha1 := hp.apt hb1 w.heap.size (Nat.le_refl _) (lt_of_heap hx1)
  have HOR := Lib.hid (porder_any w1 hp1 (by omega))
  have HA := Lib.hid (And.intro ha1 (And.intro hx1 (And.intro hk01 (hb1.mono hB))))
  have HI := Lib.hid (And.intro hln (And.intro hrs (And.intro hre (And.intro hps hpt))))
  have HEN := Lib.hid henc
  have hB1 : B ≤ w1.heap.size := Nat.le_trans hB hb1.size
  have hl5 : l.length + (5 + (encBody [lt] (kn : Int) ln rg pt n lt).length) ≤ 70368744177664 := by rw [henc] at hl; simp only [List.length_cons, List.length_append, encB_length] at hl; omega
  -- the box's cells, in every world that the pen leaves
  have HBX : Hid (∀ W : World, W.heap[w.heap.size]? = w1.heap[w.heap.size]? → W.cell? ⟨w.heap.size, 0, none⟩ = some (.int .i64 (kn : Int)) ∧ W.cell? ⟨w.heap.size, 1, none⟩ = some v1 ∧ W.cell? ⟨w.heap.size, 2, none⟩ = some v2 ∧ W.cell? ⟨w.heap.size, 3, none⟩ = some v3) := Lib.hid fun W hW => by
    have k1 := hW.trans hx1
    exact ⟨cell_row (cs := [_, _, _, _]) (j := 0) k1 rfl, cell_row (cs := [_, _, _, _]) (j := 1) k1 rfl, cell_row (cs := [_, _, _, _]) (j := 2) k1 rfl, cell_row (cs := [_, _, _, _]) (j := 3) k1 rfl⟩
  obtain ⟨_, A1, m1, rfl, _, _, _⟩ := hln
  obtain ⟨A2, m2, rfl, _, hrl, _⟩ := hrs
  obtain ⟨A3, m3, rfl, _, hpl, _⟩ := hps
  clear hp hp1 ha1 hx1 hk01 hb1 hre hpt henc hl
  go_enter Tryz.func55, Tryz.ntmps55
  go_upto_region 1 with (fail)
  rw [← hw1]
  clear hw1
  go_wp2_with fail
  refine HOR.out.mono ?_
  rintro e w2 ⟨rfl, hp2, hb2, hk2⟩
  have hs2 : PnS B w1 pb lt (n + 1) l w2 := ⟨v, hp2, hk2, hb2⟩
  have HS2 := Lib.hid (And.intro hs2 (And.intro hp2 (And.intro hk2 hb2)))
  have hB2 : B ≤ w2.heap.size := Nat.le_trans hB1 hb2.size
  clear hs2 hp2 hb2 hk2 HOR
  go_upto_if 9 with (fail)
  go_cut [] (fun W => PnS B w1 pb lt (n + 1) (l ++ [if lt then 1 else 0]) W)
  case first =>
    have c0 := HS2.out.2.1.c0
    have f0 := HS2.out.2.1.fz 0
    have hal : Below w2.heap.size w2 (w2.alloc (.cells #[bv (if lt then 1 else 0)] 5)) := (Below.refl _ w2).alloc (Nat.le_refl _) _
    have HAL := Lib.hid hal
    have H1 := Lib.hid (one_byte w2 (if lt then 1 else 0))
    have hlp := HS2.out.2.1.pblt
    have hne := HS2.out.2.1.ne
    cases lt with
    | true =>
      have HAL : Hid (Below w2.heap.size w2 (w2.alloc (.cells #[.int .u8 1] 5))) := HAL
      have H1 : Hid (OwnB w2.heap.size (w2.alloc (.cells #[.int .u8 1] 5)) (.slice (some ⟨w2.heap.size, 0, none⟩) 1 1) [1]) := H1
      go_wp2_with (at_builtin; go_must (
        refine (list_append rfl (.tmp 14) (.tmp 15) rfl v _ (by rfl) (by rfl) (ownsRow_below HS2.out.2.1.own HAL.out) H1.out (by simp) (by simp only [List.length_cons, List.length_nil]; omega) (Nat.le_trans hB2 HAL.out.size) ?_)
        intro g3 cap3 w4 ho3 hgr3 hg3 hlt3
        have hq3 : w4.cell? ⟨pb, 0, none⟩ = some v := (World.cell?_of_block (a := ⟨pb, 0, none⟩) (hgr3.block pb (Nat.lt_of_lt_of_le hlp HAL.out.size) (fun e => hne e.symm))).trans ((HAL.out.cell (p := ⟨pb, 0, none⟩) hlp).trans c0)
        have hf3 : w4.frozen? ⟨pb, 0, none⟩ = false := (World.frozen?_of_block (a := ⟨pb, 0, none⟩) (hgr3.block pb (Nat.lt_of_lt_of_le hlp HAL.out.size) (fun e => hne e.symm))).trans ((HAL.out.frozen (p := ⟨pb, 0, none⟩) hlp).trans f0)
        have HR3 := Lib.hid (GrewB.app HAL.out ho3 hgr3 hg3)
        clear ho3 hgr3 hg3 hlt3))
      go_meet
      case rel => exact PnS.step HS2.out.2.1 HS2.out.2.2.1 HS2.out.2.2.2 hB1 HR3.out
    | false =>
      have HAL : Hid (Below w2.heap.size w2 (w2.alloc (.cells #[.int .u8 0] 5))) := HAL
      have H1 : Hid (OwnB w2.heap.size (w2.alloc (.cells #[.int .u8 0] 5)) (.slice (some ⟨w2.heap.size, 0, none⟩) 1 1) [0]) := H1
      go_wp2_with (at_builtin; go_must (
        refine (list_append rfl (.tmp 23) (.tmp 24) rfl v _ (by rfl) (by rfl) (ownsRow_below HS2.out.2.1.own HAL.out) H1.out (by simp) (by simp only [List.length_cons, List.length_nil]; omega) (Nat.le_trans hB2 HAL.out.size) ?_)
        intro g3 cap3 w4 ho3 hgr3 hg3 hlt3
        have hq3 : w4.cell? ⟨pb, 0, none⟩ = some v := (World.cell?_of_block (a := ⟨pb, 0, none⟩) (hgr3.block pb (Nat.lt_of_lt_of_le hlp HAL.out.size) (fun e => hne e.symm))).trans ((HAL.out.cell (p := ⟨pb, 0, none⟩) hlp).trans c0)
        have hf3 : w4.frozen? ⟨pb, 0, none⟩ = false := (World.frozen?_of_block (a := ⟨pb, 0, none⟩) (hgr3.block pb (Nat.lt_of_lt_of_le hlp HAL.out.size) (fun e => hne e.symm))).trans ((HAL.out.frozen (p := ⟨pb, 0, none⟩) hlp).trans f0)
        have HR3 := Lib.hid (GrewB.app HAL.out ho3 hgr3 hg3)
        clear ho3 hgr3 hg3 hlt3))
      go_meet
      case rel => exact PnS.step HS2.out.2.1 HS2.out.2.2.1 HS2.out.2.2.2 hB1 HR3.out
  case rest =>
    obtain ⟨va, hpa, hka, hba⟩ := hcut
    obtain ⟨wa, hwa⟩ : ∃ wa, wa = wc := ⟨_, rfl⟩
    subst hwa
    have HPa := Lib.hid (And.intro hpa (And.intro hka hba))
    have hBa : B ≤ wa.heap.size := Nat.le_trans hB1 hba.size
    clear hpa hka hba
    have hku : IntKind.u64.wrap (kn : Int) = (kn : Int) := by rw [IntKind.wrap_u64]; omega
    have hla : (l ++ [if lt then (1 : UInt8) else 0]).length = l.length + 1 := by simp
    obtain ⟨la, hLA⟩ : ∃ la, l ++ [if lt then (1 : UInt8) else 0] = la := ⟨_, rfl⟩
    rw [hLA] at HPa hla
    go_upto_region 5 with (fail)
    go_cut [] (fun W => PnS B w1 pb lt (n + 1) (la ++ encB 4 kn lt) W)
    case first =>
      have c0 := HPa.out.1.c0
      have f0 := HPa.out.1.fz 0
      obtain ⟨bx0, bx1, bx2, bx3⟩ := HBX.out wa (HPa.out.2.1 _ HA.out.1).1
      have hdr : Below wa.heap.size wa wa.drew := ⟨rfl, rfl, rfl, Nat.le_refl _, fun _ _ => rfl⟩
      have HDR := Lib.hid (ownsRow_below HPa.out.1.own hdr)
      clear hdr
      have HQ := Lib.hid (fun W (h : OwnB B W va (la)) (hs : B ≤ W.heap.size) => put_any kn 4 lt W h (by omega) (by omega) (by omega) hs)
      go_region_law (first
        | ((try go_simp)
           go_at_call 69
           refine (HQ.out _ ?_ ?_).mono ?_
           · first | exact HPa.out.1.own | exact HDR.out
           · exact hBa
           rintro e wm ⟨vm, rfl, hg⟩
           replace hg := by first | exact GrewB.undrew1 hg | exact hg
           obtain ⟨am, nm, km, rfl⟩ := hg.slice
           obtain ⟨hq3, hf3, hk3⟩ := pn_mid HPa.out.1 hg
           have HG := Lib.hid hg
           clear hg))
      all_goals
        go_wp2_with fail
        go_meet
        case rel =>
          have hfin := PnS.step HPa.out.1 HPa.out.2.1 HPa.out.2.2 hB1 HG.out
          simpa only [List.append_assoc] using hfin
    case rest =>
      obtain ⟨vb, hpb, hkb, hbb⟩ := hcut
      obtain ⟨wb, hwb⟩ : ∃ wb, wb = wc := ⟨_, rfl⟩
      subst hwb
      have HPb := Lib.hid (And.intro hpb (And.intro hkb hbb))
      have hBb : B ≤ wb.heap.size := Nat.le_trans hB1 hbb.size
      clear hpb hkb hbb
      obtain ⟨lb, hLB⟩ : ∃ lb, la ++ encB 4 kn lt = lb := ⟨_, rfl⟩
      have hlb : lb.length = l.length + 5 := by rw [← hLB, List.length_append, encB_length]; omega
      rw [hLB] at HPb
      have HFIN : Hid (∀ (W : World) (m : Nat) (l' : List UInt8), PnS B w1 pb lt m l' W → l' = lb ++ encBody [lt] kn ln rg pt n lt → m = n + begunG (.mk kn ln rg pt) → PnS B w pb lt (n + begunG (.mk kn ln rg pt)) (l ++ encG [lt] (.mk kn ln rg pt) n) W) := Lib.hid fun W m l' h hl' hm => by
        subst hm
        obtain ⟨vv, h1, h2, h3⟩ := h
        have e : l ++ encG [lt] (.mk (kn : Int) ln rg pt) n = l' := by
          rw [hl', ← hLB, ← hLA, HEN.out, show ((kn : Int) % 4294967296).toNat = kn by omega]
          simp only [List.append_assoc, List.singleton_append]
          cases lt <;> rfl
        rw [e]
        exact ⟨vv, h1, HA.out.2.2.1.trans h2, HA.out.2.2.2.trans h3⟩
      clear hLA hLB
      obtain ⟨bx0, bx1, bx2, bx3⟩ := HBX.out wb (HPb.out.2.1 _ HA.out.1).1
      have h1 : (kn : Int) = 1 := hkind
      have hbody : encBody [lt] (kn : Int) ln rg pt n lt = encPs lt (if ln = [] then [nowherePt] else ln) := by simp [encBody, h1]
      have hm : begunG (.mk (kn : Int) ln rg pt) = 1 := by simp [begunG, h1]
      rw [hbody, encPs_length] at hl5
      rw [hm] at hn
      rw [h1] at bx0
      have HBD := Lib.hid hbody
      clear h1 hbody
      obtain ⟨lc, hLC⟩ : ∃ lc, (if ln = [] then lb ++ encB 8 9221120237041090560 lt ++ encB 8 9221120237041090560 lt else lb) = lc := ⟨_, rfl⟩
      have hlc : lc.length + 16 * ln.length + 8 ≤ 140737488355328 := by
        rw [← hLC]
        split
        · next h => simp [h, encB_length] at hl5 ⊢; omega
        · next h => simp [h] at hl5 ⊢; omega
      go_upto_if 74 with (fail)
      go_cut [] (fun W => PnS B w1 pb lt (n + 1) lc W)
      case first =>
        by_cases hln0 : ln = []
        · have hz : (ln.length : Int) = 0 := by simp [hln0]
          have c0 := HPb.out.1.c0
          have f0 := HPb.out.1.fz 0
          rw [if_pos hln0] at hLC
          clear hln0
          go_wp2_with fail
          refine (put_any 9221120237041090560 8 lt wb HPb.out.1.own (by omega) (by omega) (by omega) hBb).mono ?_
          rintro e wm ⟨vm, rfl, hg⟩
          obtain ⟨am, nm, km, rfl⟩ := hg.slice
          have hB' := Nat.le_trans hBb hg.grown.size
          have HG1 := Lib.hid hg
          clear hg
          go_wp2_with fail
          refine (put_any 9221120237041090560 8 lt wm HG1.out.own (by omega) (by omega) (by rw [List.length_append, encB_length]; omega) hB').mono ?_
          rintro e wn ⟨vn, rfl, hgn⟩
          obtain ⟨an, nn, kn', rfl⟩ := hgn.slice
          have HG := Lib.hid (HG1.out.trans hgn)
          obtain ⟨hq4, hf4, hk4⟩ := pn_mid HPb.out.1 HG.out
          clear hgn
          go_wp2_with fail
          go_meet
          case rel =>
            have hfin := PnS.step HPb.out.1 HPb.out.2.1 HPb.out.2.2 hB1 HG.out
            rw [hLC] at hfin
            exact hfin
        · have hz : ¬ (ln.length : Int) = 0 := by simpa using hln0
          rw [if_neg hln0] at hLC
          clear hln0
          go_wp2_with fail
          go_meet
          case rel => exact ⟨_, hLC ▸ HPb.out.1, HPb.out.2.1, HPb.out.2.2⟩
      case rest =>
        obtain ⟨vf, hpf, hkf, hbf⟩ := hcut
        obtain ⟨wf, hwf⟩ : ∃ wf, wf = wc := ⟨_, rfl⟩
        subst hwf
        have HPf := Lib.hid (And.intro hpf (And.intro hkf hbf))
        have hBf : B ≤ wf.heap.size := Nat.le_trans hB1 hbf.size
        clear hpf hkf hbf
        go_upto_region 15 with (fail)
        have c0 := HPf.out.1.c0
        have f0 := HPf.out.1.fz 0
        obtain ⟨bx0, bx1, bx2, bx3⟩ := HBX.out wf (HPf.out.2.1 _ HA.out.1).1
        have hdr : Below wf.heap.size wf wf.drew := ⟨rfl, rfl, rfl, Nat.le_refl _, fun _ _ => rfl⟩
        have HDR := Lib.hid (ownsRow_below HPf.out.1.own hdr)
        clear hdr
        have HPT := Lib.hid (Pts.pr (Pts.pr HI.out.1 HA.out.2.2.1) HPf.out.2.1)
        have HM1 : Hid (∀ b, Apt wf pb b → vf.ownBlock ≠ some b) := Lib.hid fun b hb => hb.2.2 _ c0
        have HQ := Lib.hid (fun W (h : OwnB B W vf (lc)) (hp : Pts (Apt wf pb) W ((Value.slice A1 ln.length m1)) ln) (hs : B ≤ W.heap.size) => putPairs_any lt W h hp HM1.out (by omega) hs)
        go_region_law (first
          | ((try go_simp)
             go_at_call 70
             go_must (
               refine (HQ.out _ ?_ ?_ ?_).mono ?_
               · first | exact HPf.out.1.own | exact HDR.out
               · exact HPT.out
               · exact hBf
               rintro e wm ⟨vm, rfl, hg⟩
               replace hg := by first | exact GrewB.undrew1 hg | exact hg
               obtain ⟨am, nm, km, rfl⟩ := hg.slice
               obtain ⟨hq3, hf3, hk3⟩ := pn_mid HPf.out.1 hg
               have HG := Lib.hid hg
               clear hg)))
        all_goals
          go_wp2_with fail
          go_end0
          have hfin := PnS.step HPf.out.1 HPf.out.2.1 HPf.out.2.2 hB1 HG.out
          refine ⟨rfl, HFIN.out _ (n + 1) _ hfin ?_ (by omega)⟩
          rw [HBD.out, ← hLC]
          split
          · next h => subst h; simp [encPs, encP, nowherePt]
          · rfl
end Go.Proofs.YtlffgepnhhnadaaGreatDoor.Pl
