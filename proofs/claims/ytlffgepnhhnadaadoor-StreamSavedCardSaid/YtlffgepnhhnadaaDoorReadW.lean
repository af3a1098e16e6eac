/- plumblaw27.read, walked. -/
import Derived.Test.YtlffgepnhhnadaaDoorReadS
import Derived.Deep.DeepCutAuto
namespace Go.Proofs.YtlffgepnhhnadaaDoor.Pl
open Go.RowKit

/-- integers that came in -/
def Ints (w : World) (v : Value) (l : List Int) : Prop := Sl (fun _ => True) w v l.length (l.map fun n => .int .i64 n)
/-- what read has of the bytes p -/
def RdQ (w : World) (rb : Nat) (d : Int) (p : List UInt8) (av fv : Value) (W : World) : Prop := ∃ l bp, RdF w rb d (feed d p).1 ((feed d p).2.1 : Nat) l (feed d p).2.2.2 av fv bp W ∧ ((feed d p).2.2.2 = none → l = (feed d p).2.2.1)
theorem RdQ.under {w W W' : World} {rb : Nat} {d : Int} {p : List UInt8} {av fv : Value} (h : RdQ w rb d p av fv W) (hb : Below W.heap.size W W') : RdQ w rb d p av fv W' := by
  obtain ⟨l, bp, h1, h2⟩ := h
  exact ⟨l, bp, h1.under hb, h2⟩
theorem RdQ.below {w W : World} {rb : Nat} {d : Int} {p : List UInt8} {av fv : Value} (h : RdQ w rb d p av fv W) : Below w.heap.size w W := by obtain ⟨_, _, h, _⟩ := h; exact h.below
theorem RdQ.fed {w W W2 W3 : World} {rb : Nat} {d : Int} {p q l : List UInt8} {av av' fv ov ev bp2 bp : Value} {vs us : List Value} (h : RdF w rb d (feed d p).1 ((feed d p).2.1 : Nat) l (feed d p).2.2.2 av fv bp W) (hn : (feed d p).2.2.2 = none) (hl : l = (feed d p).2.2.1)
    (hv : W.ownsRow w.heap.size 51 4 av (feed d p).1.length vs) (hvg : IsGs (OkR w W rb av) W (feed d p).1 vs) (hU : FeedU w.heap.size W rb d ((feed d p).2.1 : Nat) (feed d p).1.length (feed d (l ++ q)) ov ev bp2 us W2)
    (h3 : W3.ownsRow w.heap.size 51 4 av' ((feed d p).1.length + (feed d (l ++ q)).1.length) (vs ++ us)) (hg : W2.grownBy W3 av.ownBlock) (ho : ∀ x, av'.ownBlock = some x → av.ownBlock = some x ∨ x = W2.heap.size) :
    RdQ w rb d (p ++ q) av' ev W3 := by
  have hj := feed_join d p.length p q (Nat.le_refl _)
  rw [hn] at hj h
  simp only [← hl] at hj
  have := RdF.fed h hv hvg hU h.below.size h3 hg ho
  refine ⟨_, bp2, ?_, fun _ => rfl⟩
  rw [hj]
  simp only
  rw [Int.natCast_add]
  exact this
theorem RdQ.dead {w W W3 : World} {rb : Nat} {d : Int} {p q l : List UInt8} {x : Int × Int} {av av' fv bp : Value} {vs : List Value} (h : RdF w rb d (feed d p).1 ((feed d p).2.1 : Nat) l (feed d p).2.2.2 av fv bp W) (hn : (feed d p).2.2.2 = some x)
    (hv : W.ownsRow w.heap.size 51 4 av (feed d p).1.length vs) (hvg : IsGs (OkR w W rb av) W (feed d p).1 vs)
    (h3 : W3.ownsRow w.heap.size 51 4 av' ((feed d p).1.length + 0) (vs ++ [])) (hg : W.grownBy W3 av.ownBlock) (ho : ∀ x, av'.ownBlock = some x → av.ownBlock = some x ∨ x = W.heap.size) :
    RdQ w rb d (p ++ q) av' fv W3 := by
  have hj := feed_join d p.length p q (Nat.le_refl _)
  rw [hn] at hj h
  simp only at hj
  have := RdF.same h hv hvg h3 hg ho
  refine ⟨l, bp, ?_, fun e => ?_⟩
  · rw [hj]; exact this
  · rw [hj] at e; cases e
theorem bytes_from {ok : Nat → Prop} {w : World} {A : Option Addr} {c : Nat} {l : List UInt8} (h : Bytes ok w (.slice A l.length c) l) (k : Nat) (hk : k ≤ l.length) :
    Bytes ok w (.slice (if c = k then A else Option.map (fun x => x.add k) A) (l.length - k) (c - k)) (l.drop k) := by
  obtain ⟨A', c', hv, h1, h2, h3⟩ := h
  cases hv
  by_cases h0 : l.drop k = []
  · have hl : l.length ≤ k := by simpa using h0
    rw [h0]
    exact ⟨_, _, by rw [show l.length - k = 0 by omega]; rfl, by simp, by simp, .inl rfl⟩
  · have hkl : k < l.length := by
      apply Classical.byContradiction; intro h; exact h0 (List.drop_eq_nil_of_le (by omega))
    obtain ⟨b, o, rfl, hb, _, hc⟩ := h3.at (by simp; intro e; subst e; simp at hkl)
    rw [if_neg (by omega)]
    have hb2 : Bytes ok w (.slice (some ⟨b, o, none⟩) l.length c) l := ⟨_, _, rfl, h1, h2, .inr ⟨b, o, rfl, hb, hc⟩⟩
    have := Bytes.drop hb2 k hk
    simpa [addn] using this
theorem pts_cells_one : ∀ (l : List Pt), ∀ u ∈ ptCells l, u.oneCell' = true
  | [], u, h => by simp [ptCells] at h
  | p :: l, u, h => by
    simp only [ptCells, List.mem_cons] at h
    rcases h with rfl | rfl | h
    · rfl
    · rfl
    · exact pts_cells_one l u h
theorem isG_one {ok : Nat → Prop} {w : World} {g : G} {cs : List Value} (h : IsG ok w g cs) : ∀ u ∈ cs, u.oneCell' = true := by
  obtain ⟨ki, A1, n1, c1, A2, n2, c2, A3, n3, c3, rfl⟩ := geom_shape h
  simp [Value.oneCell']
theorem isGs_one {ok : Nat → Prop} {w : World} : ∀ {gs : List G} {cs : List Value}, IsGs ok w gs cs → ∀ u ∈ cs, u.oneCell' = true
  | [], _, h => by simp only [IsGs] at h; subst h; simp
  | g :: gs, _, h => by
    simp only [IsGs] at h
    obtain ⟨c, d, rfl, h1, h2⟩ := h
    intro u hu
    rcases List.mem_append.1 hu with hu | hu
    · exact isG_one h1 u hu
    · exact isGs_one h2 u hu
set_option maxRecDepth 100000 in
set_option maxHeartbeats 4000000 in
theorem read_any {ok : Nat → Prop} {bv0 cv : Value} {B : List UInt8} {cs : List Int} (d : Int) (w : World) (hb : Bytes ok w bv0 B) (hc : Ints w cv cs) (hl : B.length ≤ 536870912) (hg : ErrT w) :
    Calls Tryd.prog 27 #[bv0, .int .i64 d, cv] w fun e w' => ∃ av fv, e = .returned (.tuple #[av, fv, .pointer (some ⟨w.heap.size, 0, none⟩)]) ∧ RdQ w w.heap.size d B av fv w' := by
  have HN := Lib.hid (new_any d w)
  have hw0 : 0 < w.heap.size := lt_of_cell hg
  obtain ⟨CA, cc, rfl, hcc, hcl, hcr⟩ := hc
  have HI := Lib.hid (And.intro hb (And.intro hcr hg))
  clear hb hcr hg
  go_enter Tryd.func27, Tryd.ntmps27
  go_wp2_with fail
  refine HN.out.mono ?_
  rintro e w1 ⟨rfl, hb1, hf1⟩
  have hq0 : RdQ w w.heap.size d (B.take 0) (.slice none 0 0) .nilIface w1 := by
    rw [List.take_zero]
    refine ⟨[], .pointer none, ?_, fun _ => ?_⟩
    · rw [feed_nil]
      exact ⟨hb1, ⟨[], World.ownsRow_nil _ _ _ _, by simp [IsGs]⟩, (fun _ h => by cases h), rfl, by simpa using hf1.st (Nat.le_refl _), rfl⟩
    · rw [feed_nil]
  have HQ0 := Lib.hid hq0
  clear hb1 hf1 hq0 HN
  go_wp2_with fail
  go_loopw [12, 0, 10, 11] (fun i x av fv W => ∃ k q : Nat, k ≤ cs.length + 1 ∧ q ≤ B.length ∧ (k = cs.length + 1 → q = B.length) ∧ (k = 0 → q = 0) ∧ i = .int .i64 k ∧ Hid (Bytes ok w x (B.drop q)) ∧ Hid (RdQ w w.heap.size d (B.take q) av fv W)) (fun i _ _ _ _ => cs.length + 1 - (intOf i).toNat)
  case atStart => exact ⟨0, 0, by omega, by omega, by omega, by omega, rfl, Lib.hid (by simpa using HI.out.1), HQ0⟩
  case round =>
    obtain ⟨k, q, hk, hq, hkq, hk0, rfl, HX, HQ⟩ := hrel
    obtain ⟨XA, xc, hxe, hxc, _, _⟩ := HX.out
    have hld : (B.drop q).length = B.length - q := List.length_drop
    rw [hld] at hxe hxc
    subst hxe
    by_cases hrun : q < B.length ∨ k = 0
    · have hcond : (0 : Int) < ((B.length - q : Nat) : Int) ∨ (¬ (0 : Int) < ((B.length - q : Nat) : Int) ∧ ((k : Int) == 0) = true) := by
        by_cases h : q < B.length
        · exact .inl (by omega)
        · refine .inr ⟨by omega, beq_iff_eq.2 ?_⟩
          rcases hrun with h2 | h2
          · omega
          · subst h2; rfl
      have hkc : k ≤ cs.length := by omega
      have hrb := HQ.out.below
      have hrs := hrb.size
      have HIN := Lib.hid (fun n => into_any n 40 wr (by omega) (by omega))
      have HCR := Lib.hid (HI.out.2.1.keeps (below_keeps hrb _))
      have HG := Lib.hid (HI.out.2.2.below hrb)
      obtain ⟨L, hL⟩ : ∃ L, L = B.length - q := ⟨_, rfl⟩
      rw [← hL] at hcond hxc hld ⊢
      have HL := Lib.hid hL
      clear hrb hL
      go_upto_region 7 with (fail)
      go_cut [26, 0] (fun z x W => z = .bool true ∧ x = .slice XA L xc ∧ W = wr)
      case first =>
        rcases hcond with h | ⟨h, h'⟩
        all_goals
          go_wp2_with fail
          go_meet
          case rel => first | exact ⟨rfl, rfl, rfl⟩ | exact ⟨rfl, by congr 1; omega, rfl⟩
      case rest =>
        obtain ⟨rfl, rfl, rfl⟩ := hcut
        go_upto_region 10 with (fail)
        go_upto_if 34 with (fail)
        go_cut [13] (fun z W => W = wc ∧ ∃ m : Nat, z = .int .i64 m ∧ m ≤ L ∧ (k = cs.length → m = L))
        case first =>
          by_cases hkl : k < cs.length
          · obtain ⟨n, hn⟩ : ∃ n, cs[k]? = some n := ⟨_, List.getElem?_eq_getElem hkl⟩
            have hn2 : (cs.map fun n => Value.int .i64 n)[k]? = some (.int .i64 n) := by simp [hn]
            obtain ⟨cb, co, rfl, _, _, hcell⟩ := HCR.out.at (by intro e; rw [e] at hn2; simp at hn2)
            have cc0 := hcell k _ hn2
            have hki : (k : Int) < (cs.length : Int) := by omega
            obtain ⟨t, ht⟩ : ∃ t : Nat, n % 40 = t := ⟨(n % 40).toNat, by omega⟩
            have HT := Lib.hid (HIN.out n)
            rw [ht] at HT
            clear hcell hn2 hn ht
            go_wp2_with fail
            refine HT.out.mono ?_
            rintro e w' ⟨rfl, rfl⟩
            go_wp2_with fail
            all_goals
              go_meet
              case rel => first | exact ⟨rfl, _, rfl, by omega, by omega⟩ | (trace_state; sorry)
          · have hki : ¬ (k : Int) < (cs.length : Int) := by omega
            go_wp2_with fail
            go_meet
            case rel => first | exact ⟨rfl, _, rfl, Nat.le_refl _, fun _ => rfl⟩ | (trace_state; sorry)
        case rest =>
          obtain ⟨rfl, m, rfl, hmL, hkm⟩ := hcut
          obtain ⟨w2, hw2⟩ : ∃ w2, w2 = wc := ⟨_, rfl⟩
          subst hw2
          have hbx : Bytes ok w2 (.slice XA L xc) (B.drop q) := by rw [HL.out]; exact Bytes.keepB HX.out HQ.out.below
          have hbm : Bytes ok w2 (.slice XA m xc) ((B.drop q).take m) := by
            have h := hbx
            rw [← hld] at h
            exact Bytes.take h m (by omega)
          have htk : (B.drop q).take m = ((B.drop q).take m).take (m : Int).toNat := by rw [Int.toNat_natCast, List.take_take, Nat.min_self]
          have HCU := Lib.hid (cut_any (m : Int) w2 hbm)
          rw [← htk] at HCU
          have hmi0 : (0 : Int) ≤ (m : Int) := by omega
          have hmi1 : (m : Int) ≤ (L : Int) := by omega
          have hmi2 : (m : Int) ≤ (xc : Int) := by omega
          clear hbx hbm htk hcond HIN HCR
          have hpq : (B.take q) ++ (B.drop q).take m = B.take (q + m) := by rw [List.take_add]
          have hln : ((B.drop q).take m).length ≤ 536870912 := by rw [List.length_take, hld]; have := HL.out; omega
          obtain ⟨l, bp, hRF, hRl⟩ := HQ.out
          have hgl := feed_len d (B.take q).length (B.take q) (Nat.le_refl _)
          have hgq := feed_len d (B.take (q + m)).length (B.take (q + m)) (Nat.le_refl _)
          have htl1 : (B.take q).length ≤ 536870912 := by rw [List.length_take]; omega
          have htl2 : (B.take (q + m)).length ≤ 536870912 := by rw [List.length_take]; omega
          have HPQ := Lib.hid (And.intro hpq (And.intro hgl hgq))
          obtain ⟨er, her⟩ : ∃ er, (feed d (B.take q)).2.2.2 = er := ⟨_, rfl⟩
          clear hpq hgl hgq
          go_wp2_with fail
          refine HCU.out.mono ?_
          rintro e w3 ⟨r3, rfl, ho3, hb3⟩
          have hR3 := hRF.under hb3
          obtain ⟨vs, hv3, hvg3⟩ := hR3.own
          have hs3 := hb3.size
          have hws := hR3.below.size
          have hby := ho3.any (by omega)
          cases er with
          | none =>
            have hll := hRl her
            have hbp := hR3.bp
            have hef := hR3.err
            rw [her] at hbp hef
            have hef : u11 = .nilIface := hef
            have hbp : bp = .pointer none := hbp
            subst hef hbp
            have hlen : l.length + ((B.drop q).take m).length ≤ 1073741824 := by have := HPQ.out.2.1.1; rw [← hll] at this; omega
            have HFD := Lib.hid (feed_any w3 hR3.st hby hlen (by have := HPQ.out.2.1; omega) (HG.out.below hb3) hws hw0)
            have H3 := Lib.hid (And.intro hR3 (And.intro hv3 (And.intro hvg3 (And.intro her hll))))
            clear hR3 hv3 hvg3 hby hb3 ho3 hll hlen her hRF hRl HCU HQ
            go_wp2_with fail
            refine HFD.out.mono ?_
            rintro e w4 ⟨ov, ev, bp2, us, rfl, hU⟩
            have hv4 : w4.ownsRow w.heap.size 51 4 u10 (feed d (B.take q)).1.length vs := by
              refine ⟨H3.out.2.1.1, H3.out.2.1.2.imp id ?_⟩
              rintro ⟨g, cap, cur, h0, hb, hgh, rest⟩
              exact ⟨g, cap, cur, h0, hb, (hU.keep g (H3.out.1.apt g (by rw [h0]; rfl))).1.trans hgh, rest⟩
            have hlr := feed_len d _ (l ++ (B.drop q).take m) (Nat.le_refl _)
            have hlen2 : (feed d (B.take q)).1.length + (feed d (l ++ (B.drop q).take m)).1.length ≤ 1099511627776 := by
              have h1 := HPQ.out.2.1.2.2
              have h2 := HPQ.out.2.1.1
              have h3 := H3.out.2.2.2.2
              have h4 : l.length ≤ 536870912 := by rw [h3]; omega
              have h5 : (l ++ (B.drop q).take m).length ≤ 1073741824 := by rw [List.length_append]; omega
              omega
            have hnl := IsGs.length hU.gs
            have HU := Lib.hid (And.intro hU (And.intro hv4 (And.intro hlen2 (And.intro hnl (isGs_one hU.gs)))))
            have hs4 := hU.below.size
            have hws4 : w.heap.size ≤ w4.heap.size := Nat.le_trans hws hs4
            clear hU hv4 hlen2 hnl hlr HFD
            go_wp2_with (first
              | (at_builtin
                 go_must (
                 refine (list_append_gs rfl (.tmp 55) (.tmp 56) rfl u10 ov (by rfl) (by rfl) HU.out.2.1 HU.out.1.sl (by rw [HU.out.2.2.2.1, Nat.mul_comm]) HU.out.2.2.2.2 HU.out.2.2.1 hws4 ?_)
                 intro r5 w5 ho5 hgr5 hg5
                 have HR5 := Lib.hid (And.intro ho5 (And.intro hgr5 hg5))
                 clear ho5 hgr5 hg5))
              | fail)
            go_roundw
            · refine ⟨k + 1, q + m, by omega, by have := HL.out; omega, (fun h => by have := HL.out; have := hkm (by omega); omega), (fun h => by omega), by simp, Lib.hid ?_, Lib.hid ?_⟩
              · have h := HX.out
                rw [← HL.out] at h
                have := bytes_from (l := B.drop q) (by rw [hld]; exact h) m (by rw [hld]; exact hmL)
                rw [hld, List.drop_drop] at this
                exact this
              · rw [← HPQ.out.1]
                exact RdQ.fed H3.out.1 H3.out.2.2.2.1 H3.out.2.2.2.2 H3.out.2.1 H3.out.2.2.1 HU.out.1 HR5.out.1 HR5.out.2.1 HR5.out.2.2
            · simp [intOf]; omega
          | some x =>
            have hbp := hR3.bp
            have hef := hR3.err
            rw [her] at hbp hef
            obtain ⟨x1, x2⟩ := x
            obtain ⟨fb, rfl, _, hfb⟩ := hbp
            obtain ⟨eb, rfl, _⟩ := hef
            have HFD := Lib.hid (Feed_broken r3 w3 hR3.st hfb)
            have H3 := Lib.hid (And.intro hR3 her)
            clear hR3 hv3 hvg3 hby hb3 ho3 her hRF hRl HCU HQ hfb
            go_wp2_with fail
            refine HFD.out.mono ?_
            rintro e w4 ⟨ev2, rfl, hb4, _⟩
            have hR4 := H3.out.1.under hb4
            have hs4 := hb4.size
            have hws4 : w.heap.size ≤ w4.heap.size := Nat.le_trans hws hs4
            obtain ⟨vs4, hv4, hvg4⟩ := hR4.own
            have H4 := Lib.hid (And.intro hR4 (And.intro hv4 hvg4))
            have hgl : (feed d (B.take q)).1.length + 0 ≤ 1099511627776 := by have := HPQ.out.2.1; omega
            have HGL := Lib.hid hgl
            clear hR4 hv4 hvg4 hb4 hgl HFD
            go_wp2_with (first
              | (at_builtin
                 go_must (
                 refine (list_append_gs (m := 0) (news := []) rfl (.tmp 55) (.tmp 56) rfl u10 (.slice none 0 0) (by rfl) (by rfl) H4.out.2.1 (Sl.nil (fun _ => True) _) rfl (by simp) HGL.out hws4 ?_)
                 intro r5 w5 ho5 hgr5 hg5
                 have HR5 := Lib.hid (And.intro ho5 (And.intro hgr5 hg5))
                 clear ho5 hgr5 hg5))
              | fail)
            go_roundw
            · refine ⟨k + 1, q + m, by omega, by have := HL.out; omega, (fun h => by have := HL.out; have := hkm (by omega); omega), (fun h => by omega), by simp, Lib.hid ?_, Lib.hid ?_⟩
              · have h := HX.out
                rw [← HL.out] at h
                have := bytes_from (l := B.drop q) (by rw [hld]; exact h) m (by rw [hld]; exact hmL)
                rw [hld, List.drop_drop] at this
                exact this
              · rw [← HPQ.out.1]
                exact RdQ.dead H4.out.1 H3.out.2 H4.out.2.1 H4.out.2.2 HR5.out.1 HR5.out.2.1 HR5.out.2.2
            · simp [intOf]; omega
    · have hqB : q = B.length := by omega
      have hk1 : ((k : Int) == 0) = false := beq_eq_false_iff_ne.2 (by omega)
      subst hqB
      rw [List.take_of_length_le (Nat.le_refl _)] at HQ
      have h0 : ((B.length - B.length : Nat) : Int) = 0 := by omega
      go_wp2_with fail
      go_ret3
      exact ⟨_, _, rfl, HQ.out⟩

section
open Go.ChangeShapes Go.WideShapes Go.ChangeAt
variable {H : Type} {enc : TypeId × Value → H}
theorem bytesN : Tryd.prog.bytesOf 3 = 8 := by kernel_rfl
set_option maxRecDepth 100000 in
/-- a slice of integers that came in -/
theorem open_intl {W : World} {base : Nat} {v : Value} {d : DataW H} {p : List MemPlace} (hval : Value.okWide Tryd.prog W .any base 39 v) (h : DataW.Trod enc Tryd.prog W 0 (fun _ => true) true 39 v d p)
    (hsz : ∀ n ∈ d.weights Tryd.prog 39, n ≤ reachBytes) : ∃ l, Ints W v l := by
  obtain ⟨a1, len, cap, rfl⟩ := okWide_slice Tryd.underlying39 hval
  obtain ⟨fuel, hf⟩ := h
  rcases open_ints Tryd.underlying39 Tryd.underlying3 Tryd.cellsI hf with ⟨hcs, hx⟩ | ⟨a, len', cap', zs, hcs, _, hl, hm, hz, hx, hcell, hwz⟩
  · simp [Value.cells] at hcs
    obtain ⟨rfl, rfl, rfl⟩ := hcs
    exact ⟨[], Sl.nil _ _⟩
  · simp [Value.cells] at hcs
    obtain ⟨rfl, rfl, rfl⟩ := hcs
    simp only [if_true] at hz
    simp only [Prod.mk.injEq] at hx
    obtain ⟨rfl, rfl⟩ := hx
    have hcap : cap ≤ 140737488351232 := by
      have := hsz (((lits .i64 (zs.take len) : List (DataW H)).length + (lits .i64 (zs.drop len) : List (DataW H)).length) * Tryd.prog.bytesOf 3) (by
        simp only [DataW.weights, Tryd.underlying39]; exact List.mem_cons_self)
      rw [bytesN] at this
      simp only [lits, List.length_map, List.length_take, List.length_drop] at this
      unfold reachBytes at this
      omega
    have hll : (zs.take len).length = len := by simp; omega
    refine ⟨zs.take len, some a, cap, by rw [hll], by rw [hll]; exact hl, by rw [hll]; omega, ?_⟩
    by_cases h0 : len = 0
    · left; apply List.eq_nil_of_length_eq_zero; rw [List.length_map, hll, h0]
    obtain ⟨ab, ao, spot⟩ := a
    have hspot : spot = none := by simpa [Addr.add] using World.cell?_spot (hcell 0 (by omega))
    subst hspot
    refine .inr ⟨ab, ao, rfl, trivial, fun i c hi => ?_⟩
    have hil : i < len := by have := (List.getElem?_eq_some_iff.1 hi).1; rw [List.length_map, hll] at this; exact this
    have hcj := hcell i (by omega)
    rw [addn] at hcj
    rw [hcj]
    have e : zs[i]? = some (zs[i]'(by omega)) := List.getElem?_eq_getElem (by omega)
    simp only [List.getElem?_map, List.getElem?_take, if_pos hil, e, Option.map_some, Option.some.injEq] at hi
    rw [List.getD_eq_getElem?_getD, e]
    simp only [Option.getD_some]
    rw [← hi]
end
end Go.Proofs.YtlffgepnhhnadaaDoor.Pl
