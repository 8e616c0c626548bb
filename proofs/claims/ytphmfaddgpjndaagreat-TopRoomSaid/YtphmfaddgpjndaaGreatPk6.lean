/- Contracts and laws of their own, used by the claim's theorem: heap.Words. -/
import Derived.Test.YtphmfaddgpjndaaGreatPk5
import Derived.Defers
import Derived.Recover
namespace Go.Proofs.YtphmfaddgpjndaaGreat
open Go.ChangeShapes Go.WideShapes Go.RowKit Go.Maps

/-- a heap's block -/
def hpC (Mb TU LG : Nat) (p : Pl) (CN : Value) (worn : Bool) : Array Value := #[.pointer (some ⟨Mb, 0, none⟩), .int .i64 p.L, .int .i64 p.S, .int .i64 p.P, .int .i64 p.B, .pointer (some ⟨TU, 0, none⟩), .pointer (some ⟨LG, 0, none⟩), CN, .bool worn]
def HpAt (w : World) (HP Mb TU LG : Nat) (p : Pl) (CN : Value) (worn : Bool) : Prop := obj w HP = some (.cells (hpC Mb TU LG p CN worn) 89 (0, 0))
/-- the heap's words -/
def hW (m : MS) (L : Nat) : Nat → Int := fun t => wd (m.cont (16 + L) (16 + t / 8)) (t % 8)
theorem hp_cells {w : World} {HP Mb TU LG : Nat} {p : Pl} {CN : Value} {worn : Bool} (h : HpAt w HP Mb TU LG p CN worn) :
    cellAt (obj w HP) 0 = some (.pointer (some ⟨Mb, 0, none⟩)) ∧ cellAt (obj w HP) 1 = some (.int .i64 p.L) ∧ cellAt (obj w HP) 2 = some (.int .i64 p.S) ∧ cellAt (obj w HP) 3 = some (.int .i64 p.P) ∧ cellAt (obj w HP) 4 = some (.int .i64 p.B) ∧ cellAt (obj w HP) 6 = some (.pointer (some ⟨LG, 0, none⟩)) := by
  have h : obj w HP = some (.cells (hpC Mb TU LG p CN worn) 89 (0, 0)) := h
  rw [h]
  exact ⟨rfl, rfl, rfl, rfl, rfl, rfl⟩
theorem flat_words_app (W : Nat → Int) (i : Nat) (l : List Int) (hl : l.length = 8) (h : ∀ j, j < 8 → W (i * 8 + j) = wd l j) : flatF 1 (wordF W) (i * 8) ++ (cs l).toList = flatF 1 (wordF W) (i * 8 + 8) := by
  apply List.ext_getElem?
  intro t
  have g := fun t (ht : t < i * 8 + 8) => flatF_get 1 (wordF W) (i * 8 + 8) t 0 ht (by decide)
  have g1 := fun t (ht : t < i * 8) => flatF_get 1 (wordF W) (i * 8) t 0 ht (by decide)
  simp only [Nat.mul_one, Nat.add_zero] at g g1
  by_cases h1 : t < i * 8
  · rw [List.getElem?_append_left (by rw [flatF_len]; omega), g1 t h1, g t (by omega)]
  · rw [List.getElem?_append_right (by rw [flatF_len]; omega), flatF_len]
    by_cases h2 : t < i * 8 + 8
    · rw [g t h2]
      have h3 := cs_get l (t - i * 8) (by omega)
      unfold nth at h3
      rw [Nat.mul_one, Array.getElem?_toList, h3]
      show _ = some (Value.int .u64 (W t))
      rw [← h (t - i * 8) (by omega), show i * 8 + (t - i * 8) = t by omega]
    · rw [List.getElem?_eq_none (by rw [Array.length_toList, cs_size]; omega), List.getElem?_eq_none (by rw [flatF_len]; omega)]
theorem below_after (w : World) (o : Obj) {w' : World} (h : Below (w.alloc o).heap.size (w.alloc o) w') : Below w.heap.size w w' := ((Below.refl w.heap.size w).alloc (Nat.le_refl _) o).trans (h.mono (by simp))
theorem words_one (l : List Int) (j : Nat) {v : Value} (h : (cs l).toList[j]? = some v) : v.oneCell' = true := by
  unfold cs at h
  simp at h
  obtain ⟨x, _, rfl⟩ := h
  rfl
section
variable {w : World} {HP Mb Cb TU LN LG puts : Nat} {p : Pl} {CN : Value} {worn : Bool} {m : MS}
set_option maxRecDepth 100000 in
set_option maxHeartbeats 3200000 in
theorem hwords_any (hH : HpAt w HP Mb TU LG p CN worn) (hp : p.Ok) (h : LogIn w LG TU LN Mb Cb (16 + p.L) p.S p.P puts m) (hg : Good m (16 + p.L) p.S) (h0 : m.reg 1 = 0) :
    Calls Tryz.prog 19 #[.pointer (some ⟨HP, 0, none⟩)] w fun e w' => ∃ v', e = .returned (.tuple #[v', .int .i64 0]) ∧ SlOf w' w.heap.size v' 1 (p.L * 8) (wordF (hW m p.L)) ∧ Below w.heap.size w w' := by
  obtain ⟨i0, hi0, hz0, hz1, hz2⟩ := info_parts' info25
  have KH := Lib.hid (fun i (hi : i < p.L) w => home_any hp i hi w)
  unfold Pl.v at KH
  have KG := Lib.hid (fun w1 (hb : Below w.heap.size w w1) i (hi : i < p.L) => gget_in (h.hG.below hb) (h.hT.below hb) hg h0 (16 + i) (by omega))
  have HL := Lib.hid (fun i => cont_len h.hT hg (16 + i))
  have HH := Lib.hid hH
  have hsz := lt_of_obj hH
  have hcl := hp_cells hH
  have HP' := Lib.hid hp.hl
  clear hH hp h hg h0
  go_enter Tryz.func19, Tryz.ntmps19
  go_wp2_with fail
  go_loopw [15, 4] (fun ix s wr => ∃ i : Nat, i ≤ p.L ∧ ix = .int .i64 i ∧ wr.ownsRow w.heap.size 25 1 s (i * 8) (flatF 1 (wordF (hW m p.L)) (i * 8)) ∧ (i * 8 = 0 → s = .slice none 0 0) ∧ Below w.heap.size w wr) (fun ix _ _ => p.L - (intOf ix).toNat)
  case atStart => exact ⟨0, Nat.zero_le _, rfl, World.ownsRow_nil _ _ _ _, fun _ => rfl, Below.refl _ _⟩
  case round =>
    obtain ⟨i, hi, rfl, ho, hz, hbr⟩ := hrel
    have HO := Lib.hid ho
    have HZ := Lib.hid hz
    have HBR := Lib.hid hbr
    by_cases hlt : i < p.L
    · have hltz : (i : Int) < (p.L : Int) := by omega
      have wi : IntKind.i64.wrap ((i : Int) + 1) = (i : Int) + 1 := by have := HP'.out; rw [IntKind.wrap_i64]; omega
      have hHr : HpAt wr HP Mb TU LG p CN worn := keep hbr HH.out
      have hcr := hp_cells hHr
      have hszr := lt_of_obj hHr
      have HHR := Lib.hid hHr
      have KHi := Lib.hid (KH.out i hlt)
      have KGi := Lib.hid (fun w1 hb => KG.out w1 hb i hlt)
      have hl8 := HL.out i
      have HWL : Hid (∀ j, j < 8 → hW m p.L (i * 8 + j) = wd (m.cont (16 + p.L) (16 + i)) j) := Lib.hid (fun j hj => by unfold hW; rw [show (i * 8 + j) / 8 = i by omega, show (i * 8 + j) % 8 = j by omega])
      generalize m.cont (16 + p.L) (16 + i) = l at KGi hl8 HWL
      have hfl := cs_flat l
      have HI := Lib.hid hlt
      clear hi hlt ho hz hbr hHr hcl
      obtain ⟨hc0, hc1, hc2, hc3, hc4, hc6⟩ := hcr
      go_wp2_with fail
      go_region_held3 (fun w' => cellAt (obj w' HP) 1 = some (.int .i64 p.L) ∧ cellAt (obj w' HP) 2 = some (.int .i64 p.S) ∧ cellAt (obj w' HP) 3 = some (.int .i64 p.P) ∧ cellAt (obj w' HP) 4 = some (.int .i64 p.B) ∧ cellAt (obj w' HP) 6 = some (.pointer (some ⟨LG, 0, none⟩)))
        (first
          | exact (hp_cells HHR.out).2
          | exact (hp_cells ((obj_setRow_ne wg _ _ HP (Nat.ne_of_lt hszr)).trans hk2)).2
          | exact (hp_cells ((obj_setRow_ne wg _ _ HP (Nat.ne_of_lt (Nat.lt_of_lt_of_le hszr hbh.size))).trans hk2)).2
          | exact (hp_cells (keepA _ HHR.out)).2
          | exact (hp_cells hk2).2
          | exact (hp_cells (keepA _ hk2)).2
          | exact (hp_cells hk1).2
          | exact (hp_cells (keepA _ hk1)).2)
        (first
          | (go_at_call 46; refine (KHi.out _).mono ?_; rintro _ wh ⟨rfl, hbh⟩; first | (have hk1 : HpAt wh HP Mb TU LG p CN worn := keep hbh HHR.out; have hv1 : Below wr.heap.size wr wh := ⟨hbh.os, hbh.tape, hbh.output, hbh.size, hbh.block⟩) | (have hk1 : HpAt wh HP Mb TU LG p CN worn := keep hbh (keepA _ HHR.out); have ha1 : obj wh wr.heap.size = some (.cells (cs [0, 0, 0, 0, 0, 0, 0, 0]) 91 (0, 0)) := keep hbh (newA _ _); have hv1 : Below wr.heap.size wr wh := below_after wr (.cells (cs [0, 0, 0, 0, 0, 0, 0, 0]) 91) ⟨hbh.os, hbh.tape, hbh.output, hbh.size, hbh.block⟩))
          | (go_at_call 45; refine (KGi.out _ (by first | exact HBR.out.trans (hv1.mono HBR.out.size) | exact (HBR.out.trans (hv1.mono HBR.out.size)).alloc (HBR.out.trans (hv1.mono HBR.out.size)).size _ | exact (HBR.out.trans (hv1.mono HBR.out.size)).drew | exact ((HBR.out.trans (hv1.mono HBR.out.size)).alloc (HBR.out.trans (hv1.mono HBR.out.size)).size _).drew)).mono ?_; rintro _ wg ⟨rfl, hbg⟩; first | (have ha2 : obj wg wr.heap.size = some (.cells (cs [0, 0, 0, 0, 0, 0, 0, 0]) 91 (0, 0)) := keep hbg ha1; have hk2 : HpAt wg HP Mb TU LG p CN worn := keep hbg hk1; have hv2 : Below wh.heap.size wh wg := ⟨hbg.os, hbg.tape, hbg.output, hbg.size, hbg.block⟩) | (have hk2 : HpAt wg HP Mb TU LG p CN worn := keep hbg hk1; have hv2 : Below wh.heap.size wh wg := ⟨hbg.os, hbg.tape, hbg.output, hbg.size, hbg.block⟩) | (have hk2 : HpAt wg HP Mb TU LG p CN worn := keep hbg (keepA _ hk1); have ha2 : obj wg wh.heap.size = some (.cells (cs [0, 0, 0, 0, 0, 0, 0, 0]) 91 (0, 0)) := keep hbg (newA _ _); have hv2 : Below wh.heap.size wh wg := below_after wh (.cells (cs [0, 0, 0, 0, 0, 0, 0, 0]) 91) ⟨hbg.os, hbg.tape, hbg.output, hbg.size, hbg.block⟩)))
      · have hv3 := (hv1.trans (hv2.mono hv1.size)).alloc (hv1.trans (hv2.mono hv1.size)).size (.cells (cs l) 91)
        have hq := newA wg (.cells (cs l) 91)
        have hG : wr.heap.size ≤ wg.heap.size := (hv1.trans (hv2.mono hv1.size)).size
        generalize wg.alloc (.cells (cs l) 91) = W3 at hv3 hq ⊢
        generalize wg.heap.size = G at hq hG ⊢
        have HO3 := Lib.hid (own_below HO.out hv3)
        have HB3 := Lib.hid (HBR.out.trans (hv3.mono HBR.out.size))
        have hql := lt_of_obj hq
        have HQ := Lib.hid hq
        go_wp2_with (at_builtin; refine wpList_append_lies _ rfl (.tmp 35) (.tmp 36) 54 rfl w.heap.size 25 i0 _ 1 8 Tryz.underlying54 hi0 hz0 hz1 hz2 rfl (by decide) _ (i * 8) _ rfl HO3.out ⟨G, 0, none⟩ 8 8 (cs l).toList rfl (by rw [Array.length_toList, cs_size, hl8]) (World.news_of_block (cs := cs l) (t := 91) (fr := (0, 0)) HQ.out) (by intro v hv; obtain ⟨j, hj⟩ := List.getElem?_of_mem hv; exact words_one l j hj) (by decide) (by have := HP'.out; have := HI.out; unfold maxLen; omega) (by have := HP'.out; have := HI.out; omega) HB3.out.size W3.heap.size rfl ?_; intro gA capA wA hownA hgrowA hatA hltA)
        exact ⟨⟨i + 1, HI.out, by simp, by rw [Nat.succ_mul, ← flat_words_app _ _ l hl8 HWL.out]; exact hownA, (fun e => by omega), below_own0 HB3.out HB3.out.size HO3.out hgrowA⟩, by have := HI.out; simp only [intOf]; omega⟩
      · have hv3 := below_setRow (hv1.trans (hv2.mono hv1.size)) (g := wh.heap.size) hv1.size (cs l)
        have hq : obj (wg.setRow wh.heap.size (cs l)) wh.heap.size = some (.cells (cs l) 91 (0, 0)) := by rw [obj_setRow_eq, ha2]; rfl
        have hG := hv1.size
        generalize wg.setRow wh.heap.size (cs l) = W3 at hv3 hq ⊢
        generalize wh.heap.size = G at hq hG ⊢
        have HO3 := Lib.hid (own_below HO.out hv3)
        have HB3 := Lib.hid (HBR.out.trans (hv3.mono HBR.out.size))
        have hql := lt_of_obj hq
        have HQ := Lib.hid hq
        go_wp2_with (at_builtin; refine wpList_append_lies _ rfl (.tmp 35) (.tmp 36) 54 rfl w.heap.size 25 i0 _ 1 8 Tryz.underlying54 hi0 hz0 hz1 hz2 rfl (by decide) _ (i * 8) _ rfl HO3.out ⟨G, 0, none⟩ 8 8 (cs l).toList rfl (by rw [Array.length_toList, cs_size, hl8]) (World.news_of_block (cs := cs l) (t := 91) (fr := (0, 0)) HQ.out) (by intro v hv; obtain ⟨j, hj⟩ := List.getElem?_of_mem hv; exact words_one l j hj) (by decide) (by have := HP'.out; have := HI.out; unfold maxLen; omega) (by have := HP'.out; have := HI.out; omega) HB3.out.size W3.heap.size rfl ?_; intro gA capA wA hownA hgrowA hatA hltA)
        exact ⟨⟨i + 1, HI.out, by simp, by rw [Nat.succ_mul, ← flat_words_app _ _ l hl8 HWL.out]; exact hownA, (fun e => by omega), below_own0 HB3.out HB3.out.size HO3.out hgrowA⟩, by have := HI.out; simp only [intOf]; omega⟩
      · have hv3 := below_setRow (hv1.trans (hv2.mono hv1.size)) (g := wr.heap.size) (Nat.le_refl _) (cs l)
        have hq : obj (wg.setRow wr.heap.size (cs l)) wr.heap.size = some (.cells (cs l) 91 (0, 0)) := by rw [obj_setRow_eq, ha2]; rfl
        have hG := Nat.le_refl wr.heap.size
        generalize wg.setRow wr.heap.size (cs l) = W3 at hv3 hq ⊢
        generalize hGG : wr.heap.size = G at hq hG ⊢
        have HO3 := Lib.hid (own_below HO.out hv3)
        have HB3 := Lib.hid (HBR.out.trans (hv3.mono HBR.out.size))
        have hql := lt_of_obj hq
        have HQ := Lib.hid hq
        go_wp2_with (at_builtin; refine wpList_append_lies _ rfl (.tmp 35) (.tmp 36) 54 rfl w.heap.size 25 i0 _ 1 8 Tryz.underlying54 hi0 hz0 hz1 hz2 rfl (by decide) _ (i * 8) _ rfl HO3.out ⟨G, 0, none⟩ 8 8 (cs l).toList rfl (by rw [Array.length_toList, cs_size, hl8]) (World.news_of_block (cs := cs l) (t := 91) (fr := (0, 0)) HQ.out) (by intro v hv; obtain ⟨j, hj⟩ := List.getElem?_of_mem hv; exact words_one l j hj) (by decide) (by have := HP'.out; have := HI.out; unfold maxLen; omega) (by have := HP'.out; have := HI.out; omega) HB3.out.size W3.heap.size rfl ?_; intro gA capA wA hownA hgrowA hatA hltA)
        exact ⟨⟨i + 1, HI.out, by simp, by rw [Nat.succ_mul, ← flat_words_app _ _ l hl8 HWL.out]; exact hownA, (fun e => by omega), below_own0 HB3.out HB3.out.size HO3.out hgrowA⟩, by have := HI.out; simp only [intOf]; omega⟩
    · have e : i = p.L := by omega
      have HR := Lib.hid (own_sl ho hz)
      rw [e] at HR
      have hltz : ¬ (i : Int) < (p.L : Int) := by omega
      clear hi hlt ho hz hbr
      go_wp2
      go_ret2
      exact ⟨_, rfl, by have := HR.out; rw [← e] at this ⊢; exact this, HBR.out⟩
end
end Go.Proofs.YtphmfaddgpjndaaGreat

/- heap.Worn, heap.must, heap.words, heap.mayChange. -/
namespace Go.Proofs.YtphmfaddgpjndaaGreat
open Go.ChangeShapes Go.WideShapes Go.RowKit Go.Maps

/-- what a panic with an error's number is -/
def died (e : Int) : Ending := .panicked [{ v := .iface 27 (.int .i64 e), recovered := false }]
set_option maxHeartbeats 800000 in
theorem must_ok (w : World) : Calls Tryz.prog 110 #[.int .i64 0] w fun e w' => e = .returned (.tuple #[]) ∧ w = w' := by
  go_enter Tryz.func110, Tryz.ntmps110
  go_wp2
  go_end0
  exact ⟨rfl, rfl⟩
set_option maxHeartbeats 800000 in
theorem must_not (x : Int) (hx : x ≠ 0) (w : World) : Calls Tryz.prog 110 #[.int .i64 x] w fun e w' => e = died x ∧ w = w' := by
  have h1 : (x == 0) = false := by simp; exact hx
  go_enter Tryz.func110, Tryz.ntmps110
  go_wp2
  simp [bodyPost, died]
section
variable {w : World} {HP Mb Cb TU LN LG puts : Nat} {p : Pl} {CN : Value} {worn : Bool} {m : MS}
set_option maxHeartbeats 1600000 in
theorem worn_any (hH : HpAt w HP Mb TU LG p CN false) (hL : LogAt w LG Mb TU) (hm : MemAt w Mb Cb m) (hd : m.down = false) (h0 : m.reg 1 = 0) : Calls Tryz.prog 132 #[.pointer (some ⟨HP, 0, none⟩)] w fun e w' => e = .returned (.bool false) ∧ w = w' := by
  have K := Lib.hid (pending_in hL hm hd h0)
  have hH : obj w HP = some (.cells (hpC Mb TU LG p CN false) 89 (0, 0)) := hH
  unfold hpC at hH
  clear hL hm hd h0
  go_enter Tryz.func132, Tryz.ntmps132
  go_wp2_with (go_at_call 153; refine K.out.mono ?_; rintro _ _ ⟨rfl, rfl⟩)
  go_ret
  exact ⟨rfl, rfl⟩
set_option maxHeartbeats 1600000 in
theorem change_any (hH : HpAt w HP Mb TU LG p CN false) (hL : LogAt w LG Mb TU) (hm : MemAt w Mb Cb m) (hd : m.down = false) (h0 : m.reg 1 = 0) : Calls Tryz.prog 108 #[.pointer (some ⟨HP, 0, none⟩)] w fun e w' => e = .returned (.tuple #[]) ∧ w = w' := by
  have K := Lib.hid (worn_any hH hL hm hd h0)
  clear hH hL hm hd h0
  go_enter Tryz.func108, Tryz.ntmps108
  go_wp2_with (go_at_call 132; refine K.out.mono ?_; rintro _ _ ⟨rfl, rfl⟩)
  go_end0
  exact ⟨rfl, rfl⟩
set_option maxHeartbeats 1600000 in
theorem hw_any (hH : HpAt w HP Mb TU LG p CN worn) (hp : p.Ok) (h : LogIn w LG TU LN Mb Cb (16 + p.L) p.S p.P puts m) (hg : Good m (16 + p.L) p.S) (h0 : m.reg 1 = 0) :
    Calls Tryz.prog 107 #[.pointer (some ⟨HP, 0, none⟩)] w fun e w' => ∃ v', e = .returned v' ∧ SlOf w' w.heap.size v' 1 (p.L * 8) (wordF (hW m p.L)) ∧ Below w.heap.size w w' := by
  have K := Lib.hid (hwords_any hH hp h hg h0)
  clear hH hp h hg h0
  go_enter Tryz.func107, Tryz.ntmps107
  go_wp2_with fail
  refine K.out.mono ?_
  rintro _ w1 ⟨v', rfl, hs, hb⟩
  have HS := Lib.hid hs
  have HB := Lib.hid hb
  have K1 := Lib.hid (must_ok w1)
  clear hs hb K
  go_wp2_with fail
  refine K1.out.mono ?_
  rintro _ _ ⟨rfl, rfl⟩
  go_wp2_with fail
  go_ret
  exact ⟨_, rfl, HS.out, HB.out⟩
end
end Go.Proofs.YtphmfaddgpjndaaGreat

/- count.All as a slice; heap.Counts. -/
namespace Go.Proofs.YtphmfaddgpjndaaGreat
open Go.ChangeShapes Go.WideShapes Go.RowKit Go.Maps
open Go.Shelf
shelf_lay_g SlLaysE0.n41 Slgn 41 at Tryz 85 as Tryz.laysCl85
theorem size3 (w : World) : (sizeOf 3).run Tryz.prog w = .ok 1 w := Tryz.sizeOf3 w
theorem flat_ints_get (F : Nat → Int) (n j : Nat) {u : Value} (h : (flatF 1 (intF F) n)[j]? = some u) : j < n ∧ u = .int .i64 (F j) := by
  by_cases hj : j < n
  · have h1 := flatF_get 1 (intF F) n j 0 hj (by decide)
    rw [Nat.mul_one, Nat.add_zero] at h1
    rw [h1] at h
    exact ⟨hj, (Option.some.inj h).symm⟩
  · rw [List.getElem?_eq_none (by rw [flatF_len]; omega)] at h
    cases h
theorem iclone_any {w : World} {g n cap : Nat} {F : Nat → Int} (h : ∀ j, j < n → cellAt (obj w g) j = some (.int .i64 (F j))) (h0 : 0 < n) (h1 : n ≤ 1000) :
    Calls Tryz.prog 85 #[.slice (some ⟨g, 0, none⟩) n cap] w fun e w' => ∃ v', e = .returned v' ∧ SlOf w' w.heap.size v' 1 n (intF F) ∧ Below w.heap.size w w' := by
  obtain ⟨i0, hi0, hz0, hz1, hz2⟩ := info_parts' info3
  refine Calls.mono (R := _) (AnyE.slices_Clone Tryz.laysCl85 i0 _ 1 8 hi0 hz0 hz1 hz2 rfl (by decide) size3 g 0 n cap (flatF 1 (intF F) n) w (by rw [flatF_len]) (by unfold maxLen; omega) (by omega) ?_ ?_) ?_
  · intro j u hu
    obtain ⟨hj, rfl⟩ := flat_ints_get F n j hu
    rw [cell?_heap, Nat.zero_add]
    exact h j hj
  · intro u hu
    obtain ⟨j, hj⟩ := List.getElem?_of_mem hu
    obtain ⟨_, rfl⟩ := flat_ints_get F n j hj
    rfl
  · rintro e w' ⟨v', he, ho, _, hb⟩
    exact ⟨v', he, own_sl ho (fun e => by omega), hb⟩
set_option maxHeartbeats 800000 in
theorem all_sl {w : World} {base C g1 g2 n cap1 cap2 : Nat} {batch : Int} {now kept : Nat → Int} (h : CountIn w base C g1 g2 batch n cap1 cap2 now kept) (h0 : 0 < n) (hn : n ≤ 1000) :
    Calls Tryz.prog 50 #[.pointer (some ⟨C, 0, none⟩)] w fun e w' => ∃ v', e = .returned v' ∧ SlOf w' w.heap.size v' 1 n (intF now) ∧ Below w.heap.size w w' := by
  have hC := h.hC
  have K := Lib.hid (iclone_any (cap := cap1) (fun j hj => h.cell1 j hj) h0 hn)
  clear h
  go_enter Tryz.func50, Tryz.ntmps50
  go_wp2_with fail
  refine K.out.mono ?_
  rintro _ w1 ⟨v', rfl, hs, hb⟩
  have HS := Lib.hid hs
  have HB := Lib.hid hb
  clear hs hb K
  go_wp2
  go_ret
  exact ⟨_, rfl, HS.out, HB.out⟩
set_option maxHeartbeats 800000 in
theorem counts_any {w : World} {HP Mb TU LG base C g1 g2 n cap1 cap2 : Nat} {p : Pl} {worn : Bool} {batch : Int} {now kept : Nat → Int} (hH : HpAt w HP Mb TU LG p (.pointer (some ⟨C, 0, none⟩)) worn) (h : CountIn w base C g1 g2 batch n cap1 cap2 now kept) (h0 : 0 < n) (hn : n ≤ 1000) :
    Calls Tryz.prog 23 #[.pointer (some ⟨HP, 0, none⟩)] w fun e w' => ∃ v', e = .returned v' ∧ SlOf w' w.heap.size v' 1 n (intF now) ∧ Below w.heap.size w w' := by
  have hH : obj w HP = some (.cells (hpC Mb TU LG p (.pointer (some ⟨C, 0, none⟩)) worn) 89 (0, 0)) := hH
  unfold hpC at hH
  have K := Lib.hid (all_sl h h0 hn)
  clear h
  go_enter Tryz.func23, Tryz.ntmps23
  go_wp2_with fail
  refine K.out.mono ?_
  rintro _ w1 ⟨v', rfl, hs, hb⟩
  have HS := Lib.hid hs
  have HB := Lib.hid hb
  clear hs hb K
  go_wp2
  go_ret
  exact ⟨_, rfl, HS.out, HB.out⟩
set_option maxHeartbeats 800000 in
theorem root_any {w : World} {HP Mb Cb TU LG : Nat} {p : Pl} {CN : Value} {worn : Bool} {m : MS} (hH : HpAt w HP Mb TU LG p CN worn) (hm : MemAt w Mb Cb m) (hd : m.down = false) (hr : IntKind.i64.wrap (m.reg 2) = m.reg 2) :
    Calls Tryz.prog 78 #[.pointer (some ⟨HP, 0, none⟩)] w fun e w' => e = .returned (.int .i64 (m.reg 2)) ∧ w = w' := by
  have hH : obj w HP = some (.cells (hpC Mb TU LG p CN worn) 89 (0, 0)) := hH
  unfold hpC at hH
  have K : Calls Tryz.prog 53 #[.pointer (some ⟨Mb, 0, none⟩), .int .i64 2] w _ := reg_in hm hd 2 (by decide)
  have K := Lib.hid K
  have K1 := Lib.hid (must_ok w)
  clear hm hd
  generalize m.reg ((2 : Nat)) = r at K hr ⊢
  go_enter Tryz.func78, Tryz.ntmps78
  go_wp2_with fail
  refine K.out.mono ?_
  rintro _ _ ⟨rfl, rfl⟩
  go_wp2_with fail
  refine K1.out.mono ?_
  rintro _ _ ⟨rfl, rfl⟩
  go_wp2_with fail
  go_ret
  exact ⟨rfl, rfl⟩
end Go.Proofs.YtphmfaddgpjndaaGreat

/- What a commit of edits makes of the heap's words. -/
namespace Go.Proofs.YtphmfaddgpjndaaGreat
open Go.ChangeShapes Go.WideShapes Go.RowKit Go.Maps

theorem after_eq (q : Nat) (dt : Nat → List Int) (f : Nat → List Int) : ∀ K y, afterN (fun i => 16 + (q + i)) dt f K y = if 16 + q ≤ y ∧ y < 16 + q + K then dt (y - (16 + q)) else f y
  | 0, y => by rw [if_neg (by omega)]; rfl
  | K + 1, y => by
    show updF (afterN (fun i => 16 + (q + i)) dt f K) (16 + (q + K)) (dt K) y = _
    by_cases e : y = 16 + (q + K)
    · subst e
      rw [updF_same, if_pos (by omega)]
      congr 1
      omega
    · rw [updF_ne _ _ _ e, after_eq q dt f K y]
      by_cases h : 16 + q ≤ y ∧ y < 16 + q + K
      · rw [if_pos h, if_pos (by omega)]
      · rw [if_neg h, if_neg (by omega)]
theorem lineW_wd (W : Nat → Int) (i j : Nat) (hj : j < 8) : wd (lineW W i) j = W (i * 8 + j) := by
  simp [wd, lineW, hj]
theorem hW_commit {m m' : MS} {L a0 k : Nat} {V : Nat → Int} (hk : 1 ≤ k) (h : ∀ y, 16 ≤ y → y < 16 + L → m'.cont (16 + L) y = afterN (fun i => 16 + (a0 / 8 + i)) (fun i => lineW (appl a0 V (hW m L) k) (a0 / 8 + i)) (m.cont (16 + L)) (lineN a0 k) y) :
    ∀ t, t < L * 8 → hW m' L t = appl a0 V (hW m L) k t := by
  intro t ht
  have h1 := h (16 + t / 8) (by omega) (by omega)
  show wd (m'.cont (16 + L) (16 + t / 8)) (t % 8) = _
  rw [h1, after_eq]
  have hl : lineN a0 k = (a0 + k - 1) / 8 - a0 / 8 + 1 := by unfold lineN; rw [if_neg (by omega)]
  by_cases hc : 16 + a0 / 8 ≤ 16 + t / 8 ∧ 16 + t / 8 < 16 + a0 / 8 + lineN a0 k
  · rw [if_pos hc, lineW_wd _ _ _ (by omega)]
    congr 1
    omega
  · rw [if_neg hc]
    show hW m L t = _
    unfold appl
    rw [if_neg (by omega)]
/-- how many pages -/
def Pl.pages (p : Pl) : Nat := (p.L - 1) / 4 + 1
/-- where a heap lies -/
structure HB where
  HP : Nat
  Mb : Nat
  Cb : Nat
  TU : Nat
  LN : Nat
  LG : Nat
  C : Nat
  g1 : Nat
  g2 : Nat
  cap1 : Nat
  cap2 : Nat
/-- a heap that nothing has worn -/
structure HeapIn (w : World) (b : HB) (p : Pl) (puts : Nat) (m : MS) (now kept : Nat → Int) (X Y : Nat) : Prop where
  hp : p.Ok
  hH : HpAt w b.HP b.Mb b.TU b.LG p (.pointer (some ⟨b.C, 0, none⟩)) false
  hG : LogIn w b.LG b.TU b.LN b.Mb b.Cb (16 + p.L) p.S p.P puts m
  gd : Good m (16 + p.L) p.S
  cut : m.cut = -1
  r1 : m.reg 1 = 0
  hC : CountIn w 0 b.C b.g1 b.g2 p.B p.pages b.cap1 b.cap2 now kept
  ap : ∀ x ∈ [b.HP, b.C, b.g1, b.g2], x ∉ [b.Mb, b.Cb, b.TU]
  ap2 : ∀ x ∈ [b.HP, b.LG, b.LN, b.Mb, b.Cb, b.TU], x ∉ [b.g1, b.g2]
  ne3 : b.HP ≠ b.LG ∧ b.HP ≠ b.LN ∧ b.HP ≠ b.C
  nn : ∀ j, j < p.pages → 0 ≤ kept j ∧ kept j ≤ now j ∧ now j ≤ X
  regs : ∀ j, j < p.pages → m.reg (19 + j) = kept j
  lg : ∀ j, j < p.pages → now j - kept j < p.B
  wr : m.writes ≤ Y
theorem RowIn.kept {L : List Nat} {w w' : World} {g n : Nat} {f : Nat → Int} (h : RowIn w g n f) (k : Kept L w w') (hg : g ∉ L) : RowIn w' g n f := by
  obtain ⟨c, h1, h2⟩ := h
  exact ⟨c, k.keep h1 hg, h2⟩
theorem CountIn.kept {L : List Nat} {w w' : World} {base C g1 g2 n cap1 cap2 : Nat} {batch : Int} {now kept : Nat → Int} (h : CountIn w base C g1 g2 batch n cap1 cap2 now kept) (k : Kept L w w') (h0 : C ∉ L) (h1 : g1 ∉ L) (h2 : g2 ∉ L) : CountIn w' base C g1 g2 batch n cap1 cap2 now kept :=
  ⟨k.keep h.hC h0, h.r1.kept k h1, h.r2.kept k h2, h.c1, h.c2, h.gg, h.bC, h.b1, h.b2⟩
theorem HpAt.kept {L : List Nat} {w w' : World} {HP Mb TU LG : Nat} {p : Pl} {CN : Value} {worn : Bool} (h : HpAt w HP Mb TU LG p CN worn) (k : Kept L w w') (h0 : HP ∉ L) : HpAt w' HP Mb TU LG p CN worn := k.keep h h0
theorem HeapIn.kept {w : World} {b : HB} {p : Pl} {puts X Y : Nat} {m : MS} {now kep : Nat → Int} (h : HeapIn w b p puts m now kep X Y) {L : List Nat} {w' : World} (k : Kept L w w') (hL : ∀ x ∈ [b.HP, b.Mb, b.Cb, b.TU, b.LN, b.LG, b.C, b.g1, b.g2], x ∉ L) : HeapIn w' b p puts m now kep X Y :=
  { h with
    hH := h.hH.kept k (hL _ (by simp))
    hG := h.hG.kept k (hL _ (by simp)) (hL _ (by simp)) (hL _ (by simp)) (hL _ (by simp)) (hL _ (by simp))
    hC := h.hC.kept k (hL _ (by simp)) (hL _ (by simp)) (hL _ (by simp)) }
theorem HeapIn.below {w : World} {b : HB} {p : Pl} {puts X Y : Nat} {m : MS} {now kep : Nat → Int} (h : HeapIn w b p puts m now kep X Y) {w' : World} (k : Below w.heap.size w w') : HeapIn w' b p puts m now kep X Y := h.kept (below_kept k) (by simp)
section
variable {w : World} {b : HB} {p : Pl} {puts X Y : Nat} {m : MS} {now kept : Nat → Int}
theorem HeapIn.mono (h : HeapIn w b p puts m now kept X Y) {X' Y' : Nat} (hX : X ≤ X') (hY : Y ≤ Y') : HeapIn w b p puts m now kept X' Y' :=
  { h with nn := fun j hj => by have := h.nn j hj; omega, wr := by have := h.wr; omega }
/-- a page noted whose count is not kept -/
theorem HeapIn.noted1 (h : HeapIn w b p puts m now kept X Y) {w' : World} {pg : Nat} (hpg : pg < p.pages) (hc : CountIn w' 0 b.C b.g1 b.g2 p.B p.pages b.cap1 b.cap2 (updI now pg (now pg + 1)) kept) (k : Kept [b.g1, b.g2] w w') (hd : ¬ (p.B : Int) ≤ now pg + 1 - kept pg) :
    HeapIn w' b p puts m (updI now pg (now pg + 1)) kept (X + 1) (Y + 1) := by
  have hap := h.ap2
  refine { h with hH := h.hH.kept k (hap _ (by simp)), hG := h.hG.kept k (hap _ (by simp)) (hap _ (by simp)) (hap _ (by simp)) (hap _ (by simp)) (hap _ (by simp)), hC := hc, nn := fun j hj => ?_, lg := fun j hj => ?_, wr := by have := h.wr; omega }
  · have := h.nn j hj
    unfold updI
    split
    · rename_i e; subst e; omega
    · omega
  · have := h.lg j hj
    unfold updI
    split
    · rename_i e; subst e; omega
    · omega
theorem pages_le (hp : p.Ok) : p.pages ≤ 16 := by have := hp.hl; unfold Pl.pages; omega
/-- a page noted whose count is kept -/
theorem HeapIn.noted2 (h : HeapIn w b p puts m now kept X Y) (hY : Y + 1 ≤ 1000000000000) {w' w2 : World} {pg : Nat} (hpg : pg < p.pages) (hc : CountIn w' 0 b.C b.g1 b.g2 p.B p.pages b.cap1 b.cap2 (updI now pg (now pg + 1)) (updI kept pg (now pg + 1))) (k : Kept [b.g1, b.g2] w w')
    (hm : MemAt w2 b.Mb b.Cb (m.set (19 + pg) (now pg + 1))) (k2 : Kept [b.Mb] w' w2) :
    HeapIn w2 b p puts (m.set (19 + pg) (now pg + 1)) (updI now pg (now pg + 1)) (updI kept pg (now pg + 1)) (X + 1) (Y + 1) ∧ (∀ x, (m.set (19 + pg) (now pg + 1)).cont (16 + p.L) x = m.cont (16 + p.L) x) ∧ (m.set (19 + pg) (now pg + 1)).reg 2 = m.reg 2 := by
  have hap := h.ap
  have hap2 := h.ap2
  have hw := h.wr
  have hs := h.hp.hs
  have hpp := pages_le h.hp
  obtain ⟨q1, q2, q3, q4⟩ := h.gd.setR h.cut (by omega) (19 + pg) (now pg + 1) (by omega) (Or.inr (by omega))
  have hne := h.hG.ne
  have hne2 := h.hG.hT.ne
  have hG1 := h.hG.kept k (hap2 _ (by simp)) (hap2 _ (by simp)) (hap2 _ (by simp)) (hap2 _ (by simp)) (hap2 _ (by simp))
  have e1 : b.HP ≠ b.Mb := fun e => hap b.HP (by simp) (by simp [e])
  have e2 : b.C ≠ b.Mb := fun e => hap b.C (by simp) (by simp [e])
  have e3 : b.g1 ≠ b.Mb := fun e => hap b.g1 (by simp) (by simp [e])
  have e4 : b.g2 ≠ b.Mb := fun e => hap b.g2 (by simp) (by simp [e])
  refine ⟨{ h with hH := (h.hH.kept k (hap2 _ (by simp))).kept k2 (by simpa using e1), hG := ⟨hG1.hG.kept k2 (by simp; omega), ⟨k2.keep hG1.hT.hT (by simp; omega), hG1.hT.hL.kept k2 (by simp; omega), hm, hG1.hT.per, hG1.hT.pu, hG1.hT.ne⟩, hG1.ne, hG1.n16⟩, gd := q1, cut := h.cut, r1 := by rw [q2, updF_ne _ _ _ (by omega)]; exact h.r1, hC := hc.kept k2 (by simpa using e2) (by simpa using e3) (by simpa using e4), nn := fun j hj => ?_, regs := fun j hj => ?_, lg := fun j hj => ?_, wr := by show m.writes + 1 ≤ _; omega }, fun x => by unfold MS.cont; rw [q3, q4], by rw [q2, updF_ne _ _ _ (by omega)]⟩
  · have := h.nn j hj
    unfold updI
    split
    · rename_i e; subst e; omega
    · omega
  · rw [q2]
    unfold updI
    by_cases e : j = pg
    · subst e; rw [updF_same, if_pos rfl]
    · rw [updF_ne _ _ _ (by omega), if_neg e]; exact h.regs j hj
  · have := h.lg j hj
    have := h.hp.hb
    unfold updI
    split
    · omega
    · omega
end
end Go.Proofs.YtphmfaddgpjndaaGreat

/- heap.commit. -/
namespace Go.Proofs.YtphmfaddgpjndaaGreat
open Go.ChangeShapes Go.WideShapes Go.RowKit Go.Maps

theorem info133' : (Tryz.prog.info? 133).map (fun i => (i.zero, i.size, i.bytes)) = some (some (.agg #[.int .i64 0, .int .u64 0, .int .u64 0, .int .u64 0, .int .u64 0, .int .u64 0, .int .u64 0, .int .u64 0, .int .u64 0]), 9, 72) := by kernel_rfl
theorem home_fold (x : Int) (l : List Int) (hl : l.length = 8) : Array.foldl (fun (cs : Array Value) (x : Value × Nat) => cs.setIfInBounds (1 + x.snd) x.fst) #[.int .i64 x, .int .u64 0, .int .u64 0, .int .u64 0, .int .u64 0, .int .u64 0, .int .u64 0, .int .u64 0, .int .u64 0] (cs l).zipIdx 0 8 = homeC x l := by
  match l, hl with
  | [a, b, c, d, e, f, g, h], _ => simp [cs, homeC]
theorem home_fold2 (x : Int) (l : List Int) (hl : l.length = 8) : Array.foldl (fun (cs : Array Value) (x : Value × Nat) => cs.setIfInBounds x.snd x.fst) #[.int .i64 0, .int .u64 0, .int .u64 0, .int .u64 0, .int .u64 0, .int .u64 0, .int .u64 0, .int .u64 0, .int .u64 0] (homeC x l).zipIdx 0 9 = homeC x l := by
  match l, hl with
  | [a, b, c, d, e, f, g, h], _ => simp [homeC]
theorem home_news (ln : Nat → Int) (dt : Nat → List Int) (i : Nat) (hl : (dt i).length = 8) : (List.range 9).map (homeF ln dt i) = (homeC (ln i) (dt i)).toList := by
  apply List.ext_getElem?
  intro t
  by_cases ht : t < 9
  · have h := homeF_nth ln dt i t hl ht
    unfold nth at h
    rw [List.getElem?_map, List.getElem?_range ht, Array.getElem?_toList, ← h]
    rfl
  · rw [List.getElem?_eq_none (by simp; omega), List.getElem?_eq_none (by rw [Array.length_toList, homeC_size, hl]; omega)]
theorem Kept.drop {x : Nat} {L : List Nat} {w w' : World} (h : Kept (x :: L) w w') (e : obj w' x = obj w x) : Kept L w w' :=
  ⟨h.os, h.tape, h.output, h.size, fun n hn h1 => by
    by_cases c : n = x
    · subst c; exact e
    · exact h.block n hn (by simp; exact ⟨c, h1⟩)⟩
section
variable {w : World} {b : HB} {p : Pl} {puts X Y : Nat} {m : MS} {now kept : Nat → Int}
set_option maxRecDepth 100000 in
set_option maxHeartbeats 3200000 in
theorem hcommit_any {B B2 k a0 : Nat} {v vl : Value} {a : Nat → Nat} {V : Nat → Int} (h : HeapIn w b p puts m now kept X Y) (hX : X + 9 ≤ 1000000000000) (hY : Y + 200 ≤ 1000000000000)
    (hs : SlOf w B v 1 (p.L * 8) (wordF (hW m p.L))) (hl : RowSl w B2 vl 2 k (edF a V)) (ha : ∀ j, j < k → a j = a0 + j) (hk : 1 ≤ k ∧ k ≤ 58) (hb : a0 + k ≤ p.L * 8) (hB2 : ∀ x ∈ [b.HP, b.Mb, b.Cb, b.TU, b.g1, b.g2], x < B2) :
    Calls Tryz.prog 111 #[.pointer (some ⟨b.HP, 0, none⟩), v, vl] w fun e w' => ∃ puts' m' now' kept', e = .returned (.tuple #[]) ∧ HeapIn w' b p puts' m' now' kept' (X + 9) (Y + 200) ∧
      (∀ t, t < p.L * 8 → hW m' p.L t = appl a0 V (hW m p.L) k t) ∧ m'.reg 2 = m.reg 2 ∧ (∀ j, j < p.pages → now j ≤ now' j) ∧ Kept [b.Mb, b.Cb, b.TU, b.g1, b.g2] w w' := by
  obtain ⟨i1, hi1, hx0, hx1, hx2⟩ := info_parts' info133'
  have hp := h.hp
  have hL := hp.hl
  have hH := h.hH
  have H0 := Lib.hid h
  have KA := Lib.hid (apply_any hs hl ha hk.1 hb (by omega))
  have KL := Lib.hid (fun w1 (hb1 : Below w.heap.size w w1) => lines_any (hl.below hb1) ha hk.1 (by omega))
  have KLK := Lib.hid (fun w1 (hk1 : Kept [b.HP, b.Mb, b.Cb, b.TU, b.g1, b.g2] w w1) => lines_any (hl.kept hk1 hB2) ha hk.1 (by omega))
  have KH := Lib.hid (fun i (hi : i < p.L) w => home_any hp i hi w)
  unfold Pl.v at KH
  have HH := Lib.hid hH
  obtain ⟨ao, cap, rfl⟩ := hs.form
  obtain ⟨aol, capl, rfl⟩ := hl.form
  have HX := Lib.hid (And.intro hL (And.intro hk hb))
  clear hH hp h hs hl ha hk hb hL hB2
  go_enter Tryz.func111, Tryz.ntmps111
  go_wp2_with fail
  refine KA.out.mono ?_
  rintro _ w1 ⟨v', rfl, hr, hb1⟩
  have KL1 := Lib.hid (KL.out w1 hb1)
  have HR := Lib.hid hr
  have HB1 := Lib.hid hb1
  clear hr hb1 KA
  go_wp2_with fail
  refine KL1.out.mono ?_
  rintro _ w2 ⟨v2, rfl, hr2, hb2⟩
  have HR2 := Lib.hid hr2
  have HB2 := Lib.hid (HB1.out.trans (hb2.mono HB1.out.size))
  have HR1 := Lib.hid (HR.out.below hb2)
  obtain ⟨ao2, cap2', rfl⟩ := hr2.form
  obtain ⟨ao1, cap1', rfl⟩ := HR.out.form
  clear hr2 hb2 KL1 HR
  go_wp2_with fail
  have hsz := lt_of_obj HH.out
  obtain ⟨q0, hq0⟩ : ∃ q0, a0 / 8 = q0 := ⟨_, rfl⟩
  obtain ⟨K, hK⟩ : ∃ K, lineN a0 k = K := ⟨_, rfl⟩
  rw [hK] at HR2 ⊢
  rw [hq0] at HR2
  have HQK : Hid (1 ≤ K ∧ K ≤ 9 ∧ q0 + K ≤ p.L) := Lib.hid (by have := HX.out; rw [← hK, ← hq0]; unfold lineN; rw [if_neg (by omega)]; omega)
  go_loopw [21, 6] (fun ix s wr => ∃ i : Nat, i ≤ K ∧ ix = .int .i64 i ∧ wr.ownsRow w2.heap.size 133 9 s i (flatF 9 (homeF (fun i => (16 + (q0 + i) : Nat)) (fun i => lineW (appl a0 V (hW m p.L) k) (q0 + i))) i) ∧ (i = 0 → s = .slice none 0 0) ∧ Below w2.heap.size w2 wr) (fun ix _ _ => K - (intOf ix).toNat)
  case atStart => exact ⟨0, Nat.zero_le _, rfl, World.ownsRow_nil _ _ _ _, fun _ => rfl, Below.refl _ _⟩
  case round =>
    obtain ⟨i, hi, rfl, ho, hz, hbr⟩ := hrel
    have HO := Lib.hid ho
    have HZ := Lib.hid hz
    have HBR := Lib.hid hbr
    by_cases hlt : i < K
    · have hltz : (i : Int) < (K : Int) := by omega
      have i0' : (0 : Int) ≤ (i : Int) := Int.natCast_nonneg i
      have hqk := HQK.out
      have hxx := HX.out
      have wi : IntKind.i64.wrap ((i : Int) + 1) = (i : Int) + 1 := by rw [IntKind.wrap_i64]; omega
      obtain ⟨g, off, c2, e, _, _, _, hg, _, hcl⟩ := HR2.out.cells (by omega)
      obtain ⟨rfl, rfl⟩ : ao2 = some ⟨g, off, none⟩ ∧ cap2' = c2 := by simpa using e
      have hc := hcl i hlt 0 (by decide)
      rw [Nat.mul_one, Nat.add_zero, ← obj_below hbr hg] at hc
      replace hc : cellAt (obj wr g) (off + i) = some (.int .i64 ((q0 + i : Nat) : Int)) := hc
      have hHr : obj wr b.HP = some (.cells (hpC b.Mb b.TU b.LG p (.pointer (some ⟨b.C, 0, none⟩)) false) 89 (0, 0)) := keep hbr (keep HB2.out HH.out)
      unfold hpC at hHr
      have KHi := Lib.hid (KH.out (q0 + i) (by omega))
      have KN := Lib.hid (fun w3 (hb3 : Below wr.heap.size wr w3) => hline_any ((HR1.out.below hbr).below hb3).sl (q0 + i) (by omega) (by omega))
      have hl8 := lineW_len (appl a0 V (hW m p.L) k) (q0 + i)
      have hnw := home_news (fun i => ((16 + (q0 + i) : Nat) : Int)) (fun i => lineW (appl a0 V (hW m p.L) k) (q0 + i)) i hl8
      generalize lineW (appl a0 V (hW m p.L) k) (q0 + i) = l at KN hl8 hnw
      obtain ⟨y, hy⟩ : ∃ y, q0 + i = y := ⟨_, rfl⟩
      rw [hy] at hc KHi KN hnw
      rw [show ((16 + y : Nat) : Int) = 16 + (y : Int) by omega] at hnw
      have HNW := Lib.hid hnw
      have HI := Lib.hid hlt
      clear hnw
      have hfold := home_fold (16 + (y : Int)) l hl8
      have hfold2 := home_fold2 (16 + (y : Int)) l hl8
      clear hi hlt ho hz hbr hqk hxx e hcl
      go_wp2_with fail
      refine (KHi.out _).mono ?_
      rintro _ w3 ⟨rfl, hb3⟩
      have KN3 := Lib.hid (KN.out w3 hb3)
      go_wp2_with fail
      refine KN3.out.mono ?_
      rintro _ w4 ⟨rfl, hb4⟩
      have hb34 : Below wr.heap.size wr w4 := hb3.trans (hb4.mono hb3.size)
      have HO4 := Lib.hid (own_below HO.out hb34)
      have HB4 := Lib.hid (HBR.out.trans (hb34.mono HBR.out.size))
      have hone : ∀ u ∈ (homeC (16 + (y : Int)) l).toList, u.oneCell' = true := by
        intro u hu
        have := homeC_flat (16 + (y : Int)) l
        unfold flat at this
        rw [List.all_eq_true] at this
        exact this u hu
      have HONE := Lib.hid hone
      have HLEN : Hid ((homeC (16 + (y : Int)) l).toList.length = 1 * 9) := Lib.hid (by rw [Array.length_toList, homeC_size, hl8])
      have HNEW := Lib.hid (newA w4 (.cells (homeC (16 + (y : Int)) l) 133))
      clear hone hb34 hb3 hb4
      go_wp2_with (at_builtin; refine wpList_append_lies _ rfl (.tmp 25) (.tmp 36) 128 rfl w2.heap.size 133 i1 _ 9 72 Tryz.underlying128 hi1 hx0 hx1 hx2 rfl (by decide) _ i _ rfl (HO4.out.alloc _) ⟨w4.heap.size, 0, none⟩ 1 1 (homeC (16 + (y : Int)) l).toList rfl HLEN.out (World.news_of_block (cs := homeC (16 + (y : Int)) l) (t := 133) (fr := (0, 0)) HNEW.out) HONE.out (by decide) (by have := HQK.out; unfold maxLen; omega) (by have := HQK.out; omega) (by have := HB4.out.size; simp; omega) (w4.heap.size + 1) (by simp) ?_; intro gA capA wA hownA hgrowA hatA hltA)
      exact ⟨⟨i + 1, HI.out, by simp, by rw [flatF_succ, HNW.out]; exact hownA, (fun e => by omega), below_own HB4.out HB4.out.size HO4.out hgrowA⟩, by have := HI.out; simp only [intOf]; omega⟩
    · obtain rfl : i = K := by omega
      have hltz : ¬ (i : Int) < (i : Int) := by omega
      have hrw := own_row ho hz
      have hbw := HB2.out.trans (hbr.mono HB2.out.size)
      have hGr := H0.out.hG.below hbw
      have hHr : HpAt wr b.HP b.Mb b.TU b.LG p (.pointer (some ⟨b.C, 0, none⟩)) false := keep hbw HH.out
      have hhm : HomesIn wr w2.heap.size u6 i (fun i => 16 + (q0 + i)) (fun i => lineW (appl a0 V (hW m p.L) k) (q0 + i)) := ⟨hrw.sl, hrw.ob, fun j _ => lineW_len _ _⟩
      have hw2 := HB2.out.size
      have hb1 : b.TU < w.heap.size := lt_of_obj H0.out.hG.hT.hT
      have hb2 : b.Mb < w.heap.size := H0.out.hG.hT.hM.hM.lt
      have hb3 : b.Cb < w.heap.size := H0.out.hG.hT.hM.hL.lt
      have hqk := HQK.out
      have KC := Lib.hid (commit_in hGr H0.out.gd H0.out.cut (by have := H0.out.wr; omega) H0.out.r1 hhm (by omega) (by omega) (fun j hj => by omega) (fun j1 j2 h1 h2 => by omega))
      unfold HpAt hpC at hHr
      have HHR := Lib.hid (show HpAt wr b.HP b.Mb b.TU b.LG p (.pointer (some ⟨b.C, 0, none⟩)) false from hHr)
      have HBW := Lib.hid hbw
      clear hi hlt ho hz hbr hrw hbw hGr hhm hw2 hb1 hb2 hb3 hqk
      go_wp2_with fail
      refine KC.out.mono ?_
      rintro _ w3 ⟨m1, p1, rfl, hG1, hgo, hco, hk1⟩
      have hH3 : HpAt w3 b.HP b.Mb b.TU b.LG p (.pointer (some ⟨b.C, 0, none⟩)) false := hk1.keep HHR.out (H0.out.ap b.HP (by simp))
      have HG1 := Lib.hid hG1
      have HGO := Lib.hid hgo
      have HCO := Lib.hid hco
      have HK1 := Lib.hid hk1
      have hsz3 := lt_of_obj hH3
      unfold HpAt hpC at hH3
      have hk8 : Kept [b.HP] w3 (w3.setCell ⟨b.HP, 8, none⟩ (.bool false)) := (Kept.refl _ _).setCell _ (Or.inl (by simp))
      have hap := H0.out.ap
      have hap2 := H0.out.ap2
      have hne3 := H0.out.ne3
      have hnLG := hG1.ne
      have hnLN := hG1.hT.ne
      have HH4 : Hid (HeapIn (w3.setCell ⟨b.HP, 8, none⟩ (.bool false)) b p p1 m1 now kept X (Y + 100)) := Lib.hid
        { hp := H0.out.hp
          hH := by unfold HpAt hpC; rw [obj_setCell_eq, hH3]; rfl
          hG := hG1.kept hk8 (by simp; exact fun e => hne3.1 e.symm) (by simp; intro e; exact hap b.HP (by simp) (by simp [e])) (by simp; exact fun e => hne3.2.1 e.symm) (by simp; intro e; exact hap b.HP (by simp) (by simp [e])) (by simp; intro e; exact hap b.HP (by simp) (by simp [e]))
          gd := hgo.good
          cut := hgo.cut
          r1 := by rw [hgo.regs 1 (by decide)]; exact H0.out.r1
          hC := ((H0.out.hC.below HBW.out).kept hk1 (hap b.C (by simp)) (hap b.g1 (by simp)) (hap b.g2 (by simp))).kept hk8 (by simp; exact fun e => hne3.2.2 e.symm) (by simp; intro e; exact hap2 b.HP (by simp) (by simp [e])) (by simp; intro e; exact hap2 b.HP (by simp) (by simp [e]))
          ap := hap
          ap2 := hap2
          ne3 := hne3
          nn := H0.out.nn
          regs := fun j hj => by rw [hgo.regs _ (by omega)]; exact H0.out.regs j hj
          lg := H0.out.lg
          wr := by have h1 := hgo.wr; have h2 := H0.out.wr; omega }
      have HK4 : Hid (Kept [b.HP, b.Mb, b.Cb, b.TU, b.g1, b.g2] w (w3.setCell ⟨b.HP, 8, none⟩ (.bool false))) := Lib.hid (((Kept.of_below HBW.out).next hk1 (by intro x hx; left; simp at hx ⊢; omega)).setCell _ (Or.inl (by simp)))
      clear hG1 hgo hco hk1 KC hHr hap hap2 hne3 hnLG hnLN
      go_wp2_with fail
      generalize w3.setCell ⟨b.HP, 8, none⟩ (.bool false) = w4 at HH4 HK4 ⊢
      refine (must_ok _).mono ?_
      rintro _ _ ⟨rfl, rfl⟩
      have KL4 := Lib.hid (KLK.out w4 HK4.out)
      clear hsz3 hH3 HHR HBW HG1 HK1 KLK HR1 HR2 HB1 HB2 hk8
      go_wp2_with fail
      refine KL4.out.mono ?_
      rintro _ w5 ⟨v5, rfl, hr5, hb5⟩
      obtain ⟨ao5, cap5, rfl⟩ := hr5.form
      rw [hK, hq0] at hr5
      have HH5 := Lib.hid (HH4.out.below hb5)
      have HK5 := Lib.hid (HK4.out.then_below hb5)
      have HR5 := Lib.hid hr5
      have HSZ5 := Lib.hid HK4.out.size
      clear hr5 hb5 KL4
      rw [hK]
      go_wp2_with fail
      have hlt5 : ∀ x ∈ [b.Mb, b.g1, b.g2], x < w4.heap.size := fun x hx => by
        have h1 := lt_of_obj HH4.out.hC.r1.choose_spec.1
        have h2 := lt_of_obj HH4.out.hC.r2.choose_spec.1
        have h3 := HH4.out.hG.hT.hM.hM.lt
        simp at hx
        rcases hx with rfl | rfl | rfl <;> assumption
      have HLT5 := Lib.hid hlt5
      clear hlt5 hltz
      go_loopw [61] (fun ix wr => ∃ (j : Nat) (m' : MS) (now' kept' : Nat → Int), j ≤ i ∧ ix = .int .i64 j ∧ HeapIn wr b p p1 m' now' kept' (X + j) (Y + 100 + j) ∧ (∀ x, m'.cont (16 + p.L) x = m1.cont (16 + p.L) x) ∧ m'.reg 2 = m1.reg 2 ∧ (∀ t, t < p.pages → now t ≤ now' t) ∧ Kept [b.Mb, b.g1, b.g2] w5 wr) (fun ix _ => i - (intOf ix).toNat)
      case atStart => exact ⟨0, m1, now, kept, Nat.zero_le _, rfl, HH5.out, fun _ => rfl, rfl, fun _ _ => Int.le_refl _, Kept.refl _ _⟩
      case round =>
        obtain ⟨j, m2, nw, kp, hj, rfl, hh, hcn, hr2, hle, hkk⟩ := hrel
        have H2 := Lib.hid hh
        have HK2 := Lib.hid hkk
        have HC2 := Lib.hid (And.intro hcn (And.intro hr2 hle))
        clear hcn hr2 hle hh hkk
        by_cases hlt : j < i
        · have hltz : (j : Int) < (i : Int) := by omega
          have j0' : (0 : Int) ≤ (j : Int) := Int.natCast_nonneg j
          have hqk := HQK.out
          have hLL := HX.out.1
          have wj : IntKind.i64.wrap ((j : Int) + 1) = (j : Int) + 1 := by rw [IntKind.wrap_i64]; omega
          obtain ⟨g, off, c2, e, _, _, _, hg, _, hcl⟩ := (HR5.out.kept HK2.out HLT5.out).cells (by omega)
          obtain ⟨rfl, rfl⟩ : ao5 = some ⟨g, off, none⟩ ∧ cap5 = c2 := by simpa using e
          have hc := hcl j hlt 0 (by decide)
          rw [Nat.mul_one, Nat.add_zero] at hc
          obtain ⟨y, hy⟩ : ∃ y, q0 + j = y := ⟨_, rfl⟩
          obtain ⟨pg, hpg⟩ : ∃ pg, y / 4 = pg := ⟨_, rfl⟩
          have hpp : pg < p.pages := by unfold Pl.pages; omega
          have hp16 := pages_le H2.out.hp
          replace hc : cellAt (obj _ g) (off + j) = some (.int .i64 ((q0 + j : Nat) : Int)) := hc
          rw [hy] at hc
          have hyb : y ≤ 1000 := by omega
          have KP := Lib.hid (fun w => page_any y hyb w)
          rw [hpg] at KP
          have hHr := H2.out.hH
          unfold HpAt hpC at hHr
          have hnn := H2.out.nn pg hpp
          obtain ⟨hw1, hw2⟩ : IntKind.i64.wrap (nw pg + 1) = nw pg + 1 ∧ IntKind.i64.wrap (nw pg + 1 - kp pg) = nw pg + 1 - kp pg := by
            constructor <;> (rw [IntKind.wrap_i64]; omega)
          have KN := Lib.hid (note_in H2.out.hC pg hpp hw1 hw2)
          have hu : IntKind.u64.wrap (nw pg + 1) = nw pg + 1 := by rw [IntKind.wrap_u64]; omega
          have h19 : IntKind.i64.wrap (19 + (pg : Int)) = ((19 + pg : Nat) : Int) := by rw [IntKind.wrap_i64]; omega
          have HPG := Lib.hid (And.intro hpp hp16)
          have HI := Lib.hid hlt
          clear hj hlt hqk hLL e hcl hy hpg hnn hyb hw1 hw2 hpp hp16
          go_wp2_with fail
          refine (KP.out _).mono ?_
          rintro _ _ ⟨rfl, rfl⟩
          go_wp2_with fail
          refine KN.out.mono ?_
          rintro _ w6 ⟨rfl, hcn6, hk6⟩
          have hne6 : b.HP ∉ [b.g1, b.g2] := H2.out.ap2 b.HP (by simp)
          have hH6 := H2.out.hH.kept hk6 hne6
          unfold HpAt hpC at hH6
          have hne7 : ∀ x ∈ [b.HP, b.LG, b.LN, b.Mb, b.Cb, b.TU], x ∉ [b.g1, b.g2] := H2.out.ap2
          have hM6 := H2.out.hG.hT.hM.kept hk6 (hne7 _ (by simp)) (hne7 _ (by simp))
          have KS : Calls Tryz.prog 115 #[.pointer (some ⟨b.Mb, 0, none⟩), .int .i64 ((19 + pg : Nat) : Int), .int .u64 (nw pg + 1)] w6 _ := set_in hM6 H2.out.gd.up (by rw [H2.out.cut]; decide) H2.out.gd.wr (19 + pg) (by have := HPG.out; omega) (nw pg + 1)
          rw [put_tells H2.out.cut] at KS
          have KS := Lib.hid KS
          have HC6 := Lib.hid hcn6
          have HK6 := Lib.hid hk6
          have HKK6 : Hid (Kept [b.Mb, b.g1, b.g2] w5 w6) := Lib.hid (HK2.out.next hk6 (by intro x hx; left; simp at hx ⊢; omega))
          have HLE6 : Hid (∀ t, t < p.pages → now t ≤ updI nw pg (nw pg + 1) t) := Lib.hid (fun t ht => by have := HC2.out.2.2 t ht; unfold updI; split <;> (try subst_vars) <;> omega)
          by_cases due : (p.B : Int) ≤ nw pg + 1 - kp pg
          · have hdue : decide ((p.B : Int) ≤ nw pg + 1 - kp pg) = true := decide_eq_true due
            rw [if_pos due] at hcn6
            have HC6 := Lib.hid hcn6
            clear hcn6 hk6 KN hHr hM6 hne6 hne7 due hc hg
            go_wp2_with fail
            refine KS.out.mono ?_
            rintro _ w7 ⟨rfl, hm7, hk7⟩
            obtain ⟨n1, n2, n3⟩ := H2.out.noted2 (by have := HI.out; have := HQK.out; omega) HPG.out.1 HC6.out HK6.out hm7 hk7
            have HN := Lib.hid n1
            have HN2 := Lib.hid (And.intro n2 n3)
            have HK7 : Hid (Kept [b.Mb, b.g1, b.g2] w5 w7) := Lib.hid (HKK6.out.next hk7 (by intro x hx; left; simp at hx ⊢; omega))
            clear hm7 hk7 n1 n2 n3 KS hH6
            go_wp2_with fail
            refine (must_ok _).mono ?_
            rintro _ _ ⟨rfl, rfl⟩
            go_wp2_with fail
            exact ⟨⟨j + 1, _, _, _, HI.out, by simp, HN.out.mono (by omega) (by omega), fun x => (HN2.out.1 x).trans (HC2.out.1 x), HN2.out.2.trans HC2.out.2.1, HLE6.out, HK7.out⟩, by have := HI.out; simp only [intOf]; omega⟩
          · have hdue : decide ((p.B : Int) ≤ nw pg + 1 - kp pg) = false := decide_eq_false due
            rw [if_neg due] at hcn6
            have HN := Lib.hid (H2.out.noted1 HPG.out.1 hcn6 hk6 due)
            clear hcn6 hk6 KN hHr hM6 hne6 hne7 due hc hg KS hH6
            go_wp2_with fail
            exact ⟨⟨j + 1, _, _, _, HI.out, by simp, HN.out.mono (by omega) (by omega), HC2.out.1, HC2.out.2.1, HLE6.out, HKK6.out⟩, by have := HI.out; simp only [intOf]; omega⟩
        · obtain rfl : j = i := by omega
          have hltz : ¬ (j : Int) < (j : Int) := by omega
          clear hj hlt
          go_wp2_with fail
          go_end0
          refine ⟨rfl, p1, m2, nw, ⟨kp, H2.out.mono (by have := HQK.out; omega) (by have := HQK.out; omega)⟩, ?_, ?_, HC2.out.2.2, ?_⟩
          · refine hW_commit HX.out.2.1.1 fun y h1 h2 => ?_
            rw [HC2.out.1 y, HCO.out y h1 h2, ← hq0, hK]
          · rw [HC2.out.2.1]; exact HGO.out.regs 2 (by decide)
          · exact Kept.drop (x := b.HP) (HK5.out.next HK2.out (by intro x hx; left; simp at hx ⊢; omega)) (H2.out.hH.trans HH.out.symm)
end
end Go.Proofs.YtphmfaddgpjndaaGreat

/- heap.alloc, heap.free. -/
namespace Go.Proofs.YtphmfaddgpjndaaGreat
open Go.ChangeShapes Go.WideShapes Go.RowKit Go.Maps

/-- a heap behind an operation: its words, its root -/
def Chg (w w' : World) (b : HB) (p : Pl) (now : Nat → Int) (X Y : Nat) (W' : Nat → Int) (r : Int) : Prop :=
  ∃ puts' m' now' kept', HeapIn w' b p puts' m' now' kept' (X + 9) (Y + 200) ∧ (∀ t, t < p.L * 8 → hW m' p.L t = W' t) ∧ m'.reg 2 = r ∧ (∀ j, j < p.pages → now j ≤ now' j) ∧ Kept [b.Mb, b.Cb, b.TU, b.g1, b.g2] w w'
theorem car_bounds {s need : Nat} (h : 2 ≤ need ∧ need ≤ s) (hn : need ≤ 57) : 1 ≤ carC (takesN s need) (takM s (takesN s need)) ∧ carC (takesN s need) (takM s (takesN s need)) ≤ 58 ∧ carC (takesN s need) (takM s (takesN s need)) ≤ s := by
  unfold carC takM takesN
  split <;> split <;> simp <;> omega
section
variable {w : World} {b : HB} {p : Pl} {puts X Y : Nat} {m : MS} {now kept : Nat → Int} {B : Bs}
theorem HeapIn.blk (h : HeapIn w b p puts m now kept X Y) : ∀ x ∈ [b.HP, b.Mb, b.Cb, b.TU, b.g1, b.g2], x < w.heap.size := by
  intro x hx
  have h1 := lt_of_obj h.hC.r1.choose_spec.1
  have h2 := lt_of_obj h.hC.r2.choose_spec.1
  have h3 := h.hG.hT.hM.hM.lt
  have h4 := h.hG.hT.hM.hL.lt
  have h5 := lt_of_obj h.hG.hT.hT
  have h6 := lt_of_obj h.hH
  simp at hx
  rcases hx with rfl | rfl | rfl | rfl | rfl | rfl <;> assumption
theorem HeapIn.chg (h : HeapIn w b p puts m now kept X Y) {w' : World} (hb : Below w.heap.size w w') : Chg w w' b p now X Y (hW m p.L) (m.reg 2) :=
  ⟨puts, m, now, kept, (h.below hb).mono (by omega) (by omega), fun _ _ => rfl, rfl, fun _ _ => Int.le_refl _, Kept.of_below hb⟩
theorem Chg.after {w1 w' : World} {W' : Nat → Int} {r : Int} (hb : Below w.heap.size w w1) (h : Chg w1 w' b p now X Y W' r) : Chg w w' b p now X Y W' r := by
  obtain ⟨a1, a2, a3, a4, h1, h2, h3, h4, h5⟩ := h
  exact ⟨a1, a2, a3, a4, h1, h2, h3, h4, (Kept.of_below hb).trans h5⟩
theorem Chg.behind {w1 w' : World} {W' : Nat → Int} {r : Int} (h : Chg w w1 b p now X Y W' r) (hb : Below w1.heap.size w1 w') : Chg w w' b p now X Y W' r := by
  obtain ⟨a1, a2, a3, a4, h1, h2, h3, h4, h5⟩ := h
  exact ⟨a1, a2, a3, a4, h1.below hb, h2, h3, h4, h5.then_below hb⟩
/-- commit, as the operations call it -/
theorem hcommit_chg {w1 : World} {k a0 : Nat} {v vl : Value} {a : Nat → Nat} {V : Nat → Int} (h : HeapIn w b p puts m now kept X Y) (hX : X + 9 ≤ 1000000000000) (hY : Y + 200 ≤ 1000000000000) (hb : Below w.heap.size w w1)
    (hs : SlOf w1 w.heap.size v 1 (p.L * 8) (wordF (hW m p.L))) (hl : RowSl w1 w.heap.size vl 2 k (edF a V)) (ha : ∀ j, j < k → a j = a0 + j) (hk : 1 ≤ k ∧ k ≤ 58) (hbd : a0 + k ≤ p.L * 8) :
    Calls Tryz.prog 111 #[.pointer (some ⟨b.HP, 0, none⟩), v, vl] w1 fun e w' => e = .returned (.tuple #[]) ∧ Chg w w' b p now X Y (appl a0 V (hW m p.L) k) (m.reg 2) := by
  refine (hcommit_any (h.below hb) hX hY hs hl ha hk hbd h.blk).mono ?_
  rintro e w' ⟨p', m', n', k', rfl, h1, h2, h3, h4, h5⟩
  exact ⟨rfl, p', m', n', k', h1, h2, h3, h4, (Kept.of_below hb).trans h5⟩
/-- what alloc does -/
inductive AllocDid (w w' : World) (b : HB) (p : Pl) (m : MS) (now : Nat → Int) (X Y : Nat) (B : Bs) (n : Int) : Ending → Prop
  | arg : needN n = 0 → Chg w w' b p now X Y (hW m p.L) (m.reg 2) → AllocDid w w' b p m now X Y B n (died 1)
  | none : needN n ≠ 0 → (∀ j, j < B.n → ¬ fits B (needN n) j) → Chg w w' b p now X Y (hW m p.L) (m.reg 2) → AllocDid w w' b p m now X Y B n (died 4)
  | ok (k : Nat) : needN n ≠ 0 → k < B.n → fits B (needN n) k → (∀ j, j < B.n → fits B (needN n) j → B.sz k ≤ B.sz j) →
      Chg w w' b p now X Y (appl (B.at k) (carV (B.sz k) (takesN (B.sz k) (needN n))) (hW m p.L) (carC (takesN (B.sz k) (needN n)) (takM (B.sz k) (takesN (B.sz k) (needN n))))) (m.reg 2) →
      AllocDid w w' b p m now X Y B n (.returned (.int .i64 ((B.at k + 1) * 8 : Nat)))
set_option maxRecDepth 100000 in
set_option maxHeartbeats 3200000 in
theorem halloc_any (h : HeapIn w b p puts m now kept X Y) (hX : X + 9 ≤ 1000000000000) (hY : Y + 200 ≤ 1000000000000) (hB : B.Ok (p.L * 8)) (he : Enc (hW m p.L) B) (n : Int) :
    Calls Tryz.prog 73 #[.pointer (some ⟨b.HP, 0, none⟩), .int .i64 n] w fun e w' => AllocDid w w' b p m now X Y B n e := by
  have K0 := Lib.hid (hw_any h.hH h.hp h.hG h.gd h.r1)
  have KN := Lib.hid (need_any n)
  have H0 := Lib.hid h
  have HXY := Lib.hid (And.intro hX hY)
  have HB := Lib.hid hB
  have HE := Lib.hid he
  have HNT := Lib.hid (needN_two n)
  obtain ⟨need, hneed⟩ : ∃ need, needN n = need := ⟨_, rfl⟩
  have HND := Lib.hid hneed
  rw [hneed] at KN HNT
  clear h hX hY hB he hneed
  by_cases hn0 : need = 0
  · subst hn0
    go_enter Tryz.func73, Tryz.ntmps73
    go_wp2_with fail
    refine K0.out.mono ?_
    rintro _ w1 ⟨v, rfl, hs, hb⟩
    have HB1 := Lib.hid hb
    clear hs hb K0
    go_wp2_with fail
    refine (KN.out _).mono ?_
    rintro _ _ ⟨rfl, rfl⟩
    go_wp2_with fail
    exact ⟨rfl, AllocDid.arg HND.out (H0.out.chg HB1.out)⟩
  · have hz : ((need : Int) == 0) = false := by simp; omega
    have hz2 : ¬ (need : Int) = 0 := by omega
    have HN0 := Lib.hid hn0
    clear hn0
    go_enter Tryz.func73, Tryz.ntmps73
    go_wp2_with fail
    refine K0.out.mono ?_
    rintro _ w1 ⟨v, rfl, hs, hb⟩
    have HB1 := Lib.hid hb
    have HS1 := Lib.hid hs
    have H1 := Lib.hid (H0.out.below hb)
    obtain ⟨ao, cap, rfl⟩ := hs.form
    clear hs hb K0
    go_wp2_with fail
    refine (KN.out _).mono ?_
    rintro _ _ ⟨rfl, rfl⟩
    have KC := Lib.hid (change_any H1.out.hH H1.out.hG.hG H1.out.hG.hT.hM H1.out.gd.up H1.out.r1)
    clear KN
    go_wp2_with fail
    refine KC.out.mono ?_
    rintro _ _ ⟨rfl, rfl⟩
    have hHr := H1.out.hH
    unfold HpAt hpC at hHr
    have KA := Lib.hid (all_sl H1.out.hC (by unfold Pl.pages; omega) (by have := pages_le H1.out.hp; omega))
    clear KC
    go_wp2_with fail
    refine KA.out.mono ?_
    rintro _ w2 ⟨vc, rfl, hsc, hb2⟩
    have HB2 := Lib.hid (HB1.out.trans (hb2.mono HB1.out.size))
    have H2 := Lib.hid (H1.out.below hb2)
    have HS2 := Lib.hid (HS1.out.below hb2)
    have KI := Lib.hid (ialloc_any (B := 0) (HS2.out.mono (Nat.zero_le _)) HB.out HE.out (hsc.mono (Nat.zero_le _)) n)
    obtain ⟨aoc, capc, rfl⟩ := hsc.form
    clear hsc hb2 KA hHr
    go_wp2_with fail
    refine KI.out.mono ?_
    rintro _ w3 ⟨v3, o, e', rfl, hb3, hcase⟩
    rw [HND.out] at hcase
    have HB3 := Lib.hid (HB2.out.trans (hb3.mono HB2.out.size))
    have H3 := Lib.hid (H2.out.below hb3)
    have HS3 := Lib.hid (HS2.out.below hb3)
    have HB23 := Lib.hid HB2.out.size
    clear hb3 KI
    rcases hcase with ⟨h0, _⟩ | ⟨_, rfl, hno⟩ | ⟨_, rfl, k, hk⟩
    · exact absurd h0 HN0.out
    · have HNO := Lib.hid hno
      clear hno
      go_wp2_with fail
      refine (must_not 4 (by decide) _).mono ?_
      rintro _ _ ⟨rfl, rfl⟩
      exact ⟨rfl, AllocDid.none (by rw [HND.out]; exact HN0.out) (by rw [HND.out]; exact HNO.out) (H0.out.chg HB3.out)⟩
    · have HK := Lib.hid hk
      have hsl := hk.sl
      have ho := hk.off
      obtain ⟨ao3, cap3, rfl⟩ := hsl.form
      have hbd := HB.out.le hk.lt
      have hcb := car_bounds ⟨(HNT.out HN0.out).1, hk.fit.2⟩ (HNT.out HN0.out).2
      have KC := Lib.hid (hcommit_chg H0.out HXY.out.1 HXY.out.2 HB3.out HS3.out (hsl.mono (B' := w.heap.size) HB23.out) (fun j _ => rfl) ⟨hcb.1, hcb.2.1⟩ (by omega))
      clear hk hsl hbd hcb
      subst ho
      go_wp2_with fail
      refine (must_ok _).mono ?_
      rintro _ _ ⟨rfl, rfl⟩
      go_wp2_with fail
      refine KC.out.mono ?_
      rintro _ w4 ⟨rfl, hc⟩
      have HC := Lib.hid hc
      clear hc KC
      go_wp2_with fail
      go_ret
      have hnd := HND.out
      subst hnd
      exact AllocDid.ok k HN0.out HK.out.lt HK.out.fit HK.out.least HC.out
/-- what free does -/
inductive FreeDid (w w' : World) (b : HB) (p : Pl) (m : MS) (now : Nat → Int) (X Y : Nat) (B : Bs) (off : Int) : Ending → Prop
  | arg : (∀ i, i < B.n → findP off (B.at i, B.sz i, B.us i) = false) → Chg w w' b p now X Y (hW m p.L) (m.reg 2) → FreeDid w w' b p m now X Y B off (died 1)
  | root (i : Nat) : i < B.n → findP off (B.at i, B.sz i, B.us i) = true → m.reg 2 = off → Chg w w' b p now X Y (hW m p.L) (m.reg 2) → FreeDid w w' b p m now X Y B off (died 5)
  | ok (i : Nat) : i < B.n → findP off (B.at i, B.sz i, B.us i) = true → m.reg 2 ≠ off →
      Chg w w' b p now X Y (appl (B.at (fromM B i)) (fun _ => (hdr (B.at (toM B i) - B.at (fromM B i)) false : Nat)) (hW m p.L) 1) (m.reg 2) → FreeDid w w' b p m now X Y B off (.returned (.tuple #[]))
set_option maxRecDepth 100000 in
set_option maxHeartbeats 3200000 in
theorem hfree_any (h : HeapIn w b p puts m now kept X Y) (hX : X + 9 ≤ 1000000000000) (hY : Y + 200 ≤ 1000000000000) (hB : B.Ok (p.L * 8)) (he : Enc (hW m p.L) B) (hr : IntKind.i64.wrap (m.reg 2) = m.reg 2) (off : Int) :
    Calls Tryz.prog 74 #[.pointer (some ⟨b.HP, 0, none⟩), .int .i64 off] w fun e w' => FreeDid w w' b p m now X Y B off e := by
  have K0 := Lib.hid (hw_any h.hH h.hp h.hG h.gd h.r1)
  have H0 := Lib.hid h
  have HXY := Lib.hid (And.intro hX hY)
  have HB := Lib.hid hB
  have HE := Lib.hid he
  have HRT := Lib.hid hr
  clear h hX hY hB he hr
  go_enter Tryz.func74, Tryz.ntmps74
  go_wp2_with fail
  refine K0.out.mono ?_
  rintro _ w1 ⟨v, rfl, hs, hb⟩
  have HB1 := Lib.hid hb
  have HS1 := Lib.hid hs
  have H1 := Lib.hid (H0.out.below hb)
  have KI := Lib.hid (ifree_any (B := 0) (HS1.out.mono (Nat.zero_le _)) HB.out HE.out off)
  obtain ⟨ao, cap, rfl⟩ := hs.form
  clear hs hb K0
  go_wp2_with fail
  refine KI.out.mono ?_
  rintro _ w3 ⟨v3, e', rfl, hb3, hcase⟩
  have HB3 := Lib.hid (HB1.out.trans (hb3.mono HB1.out.size))
  have H3 := Lib.hid (H1.out.below hb3)
  have HS3 := Lib.hid (HS1.out.below hb3)
  have HB13 := Lib.hid HB1.out.size
  clear hb3 KI
  rcases hcase with ⟨rfl, hno⟩ | ⟨rfl, i, hi, hf, hsl⟩
  · have HNO := Lib.hid hno
    clear hno
    go_wp2_with fail
    refine (must_not 1 (by decide) _).mono ?_
    rintro _ _ ⟨rfl, rfl⟩
    exact ⟨rfl, FreeDid.arg HNO.out (H0.out.chg HB3.out)⟩
  · have KR := Lib.hid (root_any H3.out.hH H3.out.hG.hT.hM H3.out.gd.up HRT.out)
    have HI := Lib.hid (And.intro hi hf)
    obtain ⟨ao3, cap3, rfl⟩ := hsl.form
    have htm := toM_le B hi
    have hfm := fromM_le B i
    have hbd := HB.out.at_le htm.2.1
    have hlt := HB.out.lt (i := fromM B i) (by omega)
    have KC := Lib.hid (hcommit_chg H0.out HXY.out.1 HXY.out.2 HB3.out HS3.out (hsl.mono (B' := w.heap.size) HB13.out) (fun j _ => rfl) (by omega) (by omega))
    have KCH := Lib.hid (change_any H3.out.hH H3.out.hG.hG H3.out.hG.hT.hM H3.out.gd.up H3.out.r1)
    clear hsl hi hf htm hfm hbd hlt
    by_cases hro : m.reg 2 = off
    · have hro2 : (m.reg 2 == off) = true := by simp; exact hro
      go_wp2_with fail
      refine (must_ok _).mono ?_
      rintro _ _ ⟨rfl, rfl⟩
      go_wp2_with fail
      refine KR.out.mono ?_
      rintro _ _ ⟨rfl, rfl⟩
      go_wp2_with fail
      exact ⟨rfl, FreeDid.root i HI.out.1 HI.out.2 hro (H0.out.chg HB3.out)⟩
    · have hro2 : (m.reg 2 == off) = false := by simp; exact hro
      go_wp2_with fail
      refine (must_ok _).mono ?_
      rintro _ _ ⟨rfl, rfl⟩
      go_wp2_with fail
      refine KR.out.mono ?_
      rintro _ _ ⟨rfl, rfl⟩
      go_wp2_with fail
      refine KCH.out.mono ?_
      rintro _ _ ⟨rfl, rfl⟩
      go_wp2_with fail
      refine KC.out.mono ?_
      rintro _ w4 ⟨rfl, hc⟩
      have HC := Lib.hid hc
      clear hc KC
      go_wp2_with fail
      go_end0
      exact FreeDid.ok i HI.out.1 HI.out.2 hro HC.out
end
end Go.Proofs.YtphmfaddgpjndaaGreat

/- heap.read, heap.write, heap.setRoot. -/
namespace Go.Proofs.YtphmfaddgpjndaaGreat
open Go.ChangeShapes Go.WideShapes Go.RowKit Go.Maps

/-- words that fit -/
def WOk (N : Nat) (W : Nat → Int) : Prop := ∀ i, i < N → 0 ≤ W i ∧ W i < 18446744073709551616
section
variable {w : World} {b : HB} {p : Pl} {puts X Y : Nat} {m : MS} {now kept : Nat → Int} {B : Bs}
/-- what read does -/
inductive ReadDid (w w' : World) (b : HB) (p : Pl) (m : MS) (now : Nat → Int) (X Y : Nat) (B : Bs) (off n : Int) : Ending → Prop
  | arg : holdsN B off n = false → Chg w w' b p now X Y (hW m p.L) (m.reg 2) → ReadDid w w' b p m now X Y B off n (died 1)
  | ok (v : Value) : holdsN B off n = true → SlOf w' w.heap.size v 1 n.toNat (fun i _ => .int .u8 (byteW (hW m p.L) (off.toNat + i))) → Below w.heap.size w w' → Chg w w' b p now X Y (hW m p.L) (m.reg 2) → ReadDid w w' b p m now X Y B off n (.returned v)
set_option maxRecDepth 100000 in
set_option maxHeartbeats 3200000 in
theorem hread_any (h : HeapIn w b p puts m now kept X Y) (hB : B.Ok (p.L * 8)) (he : Enc (hW m p.L) B) (hw : WOk (p.L * 8) (hW m p.L)) (off n : Int) :
    Calls Tryz.prog 75 #[.pointer (some ⟨b.HP, 0, none⟩), .int .i64 off, .int .i64 n] w fun e w' => ReadDid w w' b p m now X Y B off n e := by
  have K0 := Lib.hid (hw_any h.hH h.hp h.hG h.gd h.r1)
  have H0 := Lib.hid h
  have HB := Lib.hid hB
  have HE := Lib.hid he
  have HW := Lib.hid hw
  clear h hB he hw
  go_enter Tryz.func75, Tryz.ntmps75
  go_wp2_with fail
  refine K0.out.mono ?_
  rintro _ w1 ⟨v, rfl, hs, hb⟩
  have HB1 := Lib.hid hb
  have HS1 := Lib.hid hs
  have KI := Lib.hid (iread_any (B := 0) (HS1.out.mono (Nat.zero_le _)) HB.out HE.out HW.out off n)
  obtain ⟨ao, cap, rfl⟩ := hs.form
  clear hs hb K0
  go_wp2_with fail
  refine KI.out.mono ?_
  rintro _ w3 ⟨v3, e', rfl, hb3, hcase⟩
  have HB3 := Lib.hid (HB1.out.trans (hb3.mono HB1.out.size))
  have HB13 := Lib.hid HB1.out.size
  clear hb3 KI
  rcases hcase with ⟨hno, rfl⟩ | ⟨hyes, rfl, hsl⟩
  · have HNO := Lib.hid hno
    clear hno
    go_wp2_with fail
    refine (must_not 1 (by decide) _).mono ?_
    rintro _ _ ⟨rfl, rfl⟩
    exact ⟨rfl, ReadDid.arg HNO.out (H0.out.chg HB3.out)⟩
  · have HY := Lib.hid hyes
    have HSL := Lib.hid (hsl.mono (B' := w.heap.size) HB13.out)
    clear hyes hsl
    go_wp2_with fail
    refine (must_ok _).mono ?_
    rintro _ _ ⟨rfl, rfl⟩
    go_wp2_with fail
    go_ret
    exact ReadDid.ok v3 HY.out HSL.out HB3.out (H0.out.chg HB3.out)
/-- the words behind a write of some bytes -/
def wroteW (W : Nat → Int) (off n : Nat) (c : Nat → Int) : Nat → Int := if n = 0 then W else appl (off / 8) (fun j => wrote W off c n (off / 8 + j)) W (lineN off n)
/-- what write does -/
inductive WriteDid (w w' : World) (b : HB) (p : Pl) (m : MS) (now : Nat → Int) (X Y : Nat) (B : Bs) (off : Int) (n : Nat) (c : Nat → Int) : Ending → Prop
  | arg : holdsN B off n = false → Chg w w' b p now X Y (hW m p.L) (m.reg 2) → WriteDid w w' b p m now X Y B off n c (died 1)
  | ok : holdsN B off n = true → Chg w w' b p now X Y (wroteW (hW m p.L) off.toNat n c) (m.reg 2) → WriteDid w w' b p m now X Y B off n c (.returned (.tuple #[]))
theorem lineN_58 (off n : Nat) (h : n ≤ 448) : lineN off n ≤ 58 := by unfold lineN; split <;> omega
set_option maxRecDepth 100000 in
set_option maxHeartbeats 3200000 in
theorem hwrite_any {B2 n : Nat} {vb : Value} {c : Nat → Int} (h : HeapIn w b p puts m now kept X Y) (hX : X + 9 ≤ 1000000000000) (hY : Y + 200 ≤ 1000000000000) (hB : B.Ok (p.L * 8)) (he : Enc (hW m p.L) B)
    (hvb : SlOf w B2 vb 1 n (fun i _ => .int .u8 (c i))) (hc : ∀ k, k < n → 0 ≤ c k ∧ c k < 256) (off : Int) :
    Calls Tryz.prog 76 #[.pointer (some ⟨b.HP, 0, none⟩), .int .i64 off, vb] w fun e w' => WriteDid w w' b p m now X Y B off n c e := by
  have K0 := Lib.hid (hw_any h.hH h.hp h.hG h.gd h.r1)
  have H0 := Lib.hid h
  have HXY := Lib.hid (And.intro hX hY)
  have HB := Lib.hid hB
  have HE := Lib.hid he
  have HVB := Lib.hid hvb
  have HC := Lib.hid hc
  obtain ⟨aob, capb, rfl⟩ := hvb.form
  clear h hX hY hB he hvb hc
  go_enter Tryz.func76, Tryz.ntmps76
  go_wp2_with fail
  refine K0.out.mono ?_
  rintro _ w1 ⟨v, rfl, hs, hb⟩
  have HB1 := Lib.hid hb
  have HS1 := Lib.hid hs
  have H1 := Lib.hid (H0.out.below hb)
  have KI := Lib.hid (iwrite_any (B := 0) (HS1.out.mono (Nat.zero_le _)) HB.out HE.out (HVB.out.below hb) HC.out off)
  obtain ⟨ao, cap, rfl⟩ := hs.form
  clear hs hb K0
  go_wp2_with fail
  refine KI.out.mono ?_
  rintro _ w3 ⟨v3, e', rfl, hb3, hcase⟩
  have HB3 := Lib.hid (HB1.out.trans (hb3.mono HB1.out.size))
  have H3 := Lib.hid (H1.out.below hb3)
  have HS3 := Lib.hid (HS1.out.below hb3)
  have HB13 := Lib.hid HB1.out.size
  clear hb3 KI
  rcases hcase with ⟨hno, rfl⟩ | ⟨hyes, rfl, hsl⟩
  · have HNO := Lib.hid hno
    clear hno
    go_wp2_with fail
    refine (must_not 1 (by decide) _).mono ?_
    rintro _ _ ⟨rfl, rfl⟩
    exact ⟨rfl, WriteDid.arg HNO.out (H0.out.chg HB3.out)⟩
  · have HY := Lib.hid hyes
    obtain ⟨o, k, ho, hk1, h8, hok, hk⟩ := holdsN_bound HB.out hyes
    obtain rfl : n = k := by omega
    have HOK := Lib.hid (And.intro hok hk)
    obtain ⟨ao3, cap3, rfl⟩ := hsl.form
    have HSL := Lib.hid hsl
    subst ho
    clear hyes hsl hk1 h8 hok hk
    by_cases hn : n = 0
    · subst hn
      have hl0 : lineN (o : Int).toNat 0 = 0 := rfl
      rw [hl0]
      have e1 : ((0 : Nat) : Int) = 0 := rfl
      go_wp2_with fail
      refine (must_ok _).mono ?_
      rintro _ _ ⟨rfl, rfl⟩
      go_wp2_with fail
      refine bodyPost_ret (results_none rfl _ _ _) rfl ?_
      refine WriteDid.ok HY.out ?_
      unfold wroteW
      rw [if_pos rfl]
      exact H0.out.chg HB3.out
    · have KCH := Lib.hid (change_any H3.out.hH H3.out.hG.hG H3.out.hG.hT.hM H3.out.gd.up H3.out.r1)
      have hl1 : 1 ≤ lineN (o : Int).toNat n := by unfold lineN; rw [if_neg hn]; omega
      have hl2 : lineN (o : Int).toNat n ≤ 58 := lineN_58 _ _ HOK.out.2
      have hl3 : (o : Int).toNat / 8 + lineN (o : Int).toNat n ≤ p.L * 8 := by have := HOK.out.1; unfold lineN; rw [if_neg hn]; omega
      have KC := Lib.hid (hcommit_chg (a0 := (o : Int).toNat / 8) H0.out HXY.out.1 HXY.out.2 HB3.out HS3.out (HSL.out.mono (B' := w.heap.size) HB13.out) (fun j _ => rfl) ⟨hl1, hl2⟩ hl3)
      have HN := Lib.hid hn
      clear HSL hl2 hl3 hn
      generalize hq0 : lineN (o : Int).toNat n = q at KC hl1 ⊢
      have HQ := Lib.hid hq0
      clear hq0
      have hq : ((q : Int) == 0) = false := by simp; omega
      have hq2 : ¬ (q : Int) = 0 := by omega
      go_wp2_with fail
      refine (must_ok _).mono ?_
      rintro _ _ ⟨rfl, rfl⟩
      go_wp2_with fail
      refine KCH.out.mono ?_
      rintro _ _ ⟨rfl, rfl⟩
      go_wp2_with fail
      refine KC.out.mono ?_
      rintro _ w4 ⟨rfl, hc⟩
      have HC := Lib.hid hc
      clear hc KC
      go_wp2_with fail
      go_end0
      refine WriteDid.ok HY.out ?_
      unfold wroteW
      rw [if_neg HN.out, HQ.out]
      exact HC.out
/-- what setRoot does -/
inductive RootDid (w w' : World) (b : HB) (p : Pl) (m : MS) (now : Nat → Int) (X Y : Nat) (B : Bs) (off : Int) : Ending → Prop
  | arg : off ≠ 0 → (∀ i, i < B.n → findP off (B.at i, B.sz i, B.us i) = false) → Chg w w' b p now X Y (hW m p.L) (m.reg 2) → RootDid w w' b p m now X Y B off (died 1)
  | ok : (off = 0 ∨ ∃ i, i < B.n ∧ findP off (B.at i, B.sz i, B.us i) = true) → Chg w w' b p now X Y (hW m p.L) off → RootDid w w' b p m now X Y B off (.returned (.tuple #[]))
/-- the root written -/
theorem HeapIn.rooted (h : HeapIn w b p puts m now kept X Y) (hY : Y + 1 ≤ 1000000000000) {w1 w2 : World} (hb : Below w.heap.size w w1) {off : Int} (hm : MemAt w2 b.Mb b.Cb (m.set 2 off)) (k2 : Kept [b.Mb] w1 w2) : Chg w w2 b p now X Y (hW m p.L) off := by
  have hap := h.ap
  have hw := h.wr
  obtain ⟨q1, q2, q3, q4⟩ := h.gd.setR h.cut (by omega) 2 off (by decide) (Or.inl (by decide))
  have e1 : b.HP ≠ b.Mb := fun e => hap b.HP (by simp) (by simp [e])
  have e2 : b.C ≠ b.Mb := fun e => hap b.C (by simp) (by simp [e])
  have e3 : b.g1 ≠ b.Mb := fun e => hap b.g1 (by simp) (by simp [e])
  have e4 : b.g2 ≠ b.Mb := fun e => hap b.g2 (by simp) (by simp [e])
  have h1 := h.below hb
  have hne := h.hG.ne
  have hne2 := h.hG.hT.ne
  have h2 : HeapIn w2 b p puts (m.set 2 off) now kept (X + 1) (Y + 1) :=
    { h1 with hH := h1.hH.kept k2 (by simpa using e1), hG := ⟨h1.hG.hG.kept k2 (by simp; omega), ⟨k2.keep h1.hG.hT.hT (by simp; omega), h1.hG.hT.hL.kept k2 (by simp; omega), hm, h1.hG.hT.per, h1.hG.hT.pu, h1.hG.hT.ne⟩, h1.hG.ne, h1.hG.n16⟩, gd := q1, cut := h.cut, r1 := by rw [q2, updF_ne _ _ _ (by omega)]; exact h.r1, hC := h1.hC.kept k2 (by simpa using e2) (by simpa using e3) (by simpa using e4), nn := fun j hj => by have := h.nn j hj; omega, regs := fun j hj => by rw [q2, updF_ne _ _ _ (by omega)]; exact h.regs j hj, wr := by show m.writes + 1 ≤ _; omega }
  refine ⟨puts, _, now, kept, h2.mono (by omega) (by omega), fun t _ => ?_, by rw [q2, updF_same], fun _ _ => Int.le_refl _, (Kept.of_below hb).next k2 (by intro x hx; left; simp at hx ⊢; omega)⟩
  unfold hW MS.cont
  rw [q3, q4]
set_option maxRecDepth 100000 in
set_option maxHeartbeats 3200000 in
theorem hset_any (h : HeapIn w b p puts m now kept X Y) (hY : Y + 200 ≤ 1000000000000) (hB : B.Ok (p.L * 8)) (he : Enc (hW m p.L) B) (off : Int) :
    Calls Tryz.prog 77 #[.pointer (some ⟨b.HP, 0, none⟩), .int .i64 off] w fun e w' => RootDid w w' b p m now X Y B off e := by
  have K0 := Lib.hid (hw_any h.hH h.hp h.hG h.gd h.r1)
  have H0 := Lib.hid h
  have HY := Lib.hid hY
  have HB := Lib.hid hB
  have HE := Lib.hid he
  clear h hY hB he
  by_cases ho : off = 0
  · have ho2 : (off != 0) = false := by simp; exact ho
    have HO := Lib.hid ho
    go_enter Tryz.func77, Tryz.ntmps77
    go_wp2_with fail
    refine K0.out.mono ?_
    rintro _ w1 ⟨v, rfl, hs, hb⟩
    have HB1 := Lib.hid hb
    have H1 := Lib.hid (H0.out.below hb)
    obtain ⟨ao, cap, rfl⟩ := hs.form
    have KCH := Lib.hid (change_any H1.out.hH H1.out.hG.hG H1.out.hG.hT.hM H1.out.gd.up H1.out.r1)
    have hHr := H1.out.hH
    unfold HpAt hpC at hHr
    have hu : IntKind.u64.wrap off = off := by rw [ho]; decide
    have KS : Calls Tryz.prog 115 #[.pointer (some ⟨b.Mb, 0, none⟩), .int .i64 ((2 : Nat) : Int), .int .u64 off] w1 _ := set_in H1.out.hG.hT.hM H1.out.gd.up (by rw [H1.out.cut]; decide) H1.out.gd.wr 2 (by decide) off
    rw [put_tells H1.out.cut] at KS
    have KS := Lib.hid KS
    clear hs hb K0 ho
    go_wp2_with fail
    refine KCH.out.mono ?_
    rintro _ _ ⟨rfl, rfl⟩
    go_wp2_with fail
    refine KS.out.mono ?_
    rintro _ w2 ⟨rfl, hm, hk⟩
    have HC := Lib.hid (H0.out.rooted (by have := HY.out; omega) HB1.out hm hk)
    clear hm hk KS hHr KCH
    go_wp2_with fail
    refine (must_ok _).mono ?_
    rintro _ _ ⟨rfl, rfl⟩
    go_wp2_with fail
    go_end0
    exact RootDid.ok (Or.inl HO.out) HC.out
  · have ho2 : (off != 0) = true := by simp; exact ho
    have HO := Lib.hid ho
    clear ho
    go_enter Tryz.func77, Tryz.ntmps77
    go_wp2_with fail
    refine K0.out.mono ?_
    rintro _ w1 ⟨v, rfl, hs, hb⟩
    have HB1 := Lib.hid hb
    have HS1 := Lib.hid hs
    have KI := Lib.hid (is_any (B := 0) (HS1.out.mono (Nat.zero_le _)) HB.out HE.out off)
    obtain ⟨ao, cap, rfl⟩ := hs.form
    clear hs hb K0
    go_wp2_with fail
    refine KI.out.mono ?_
    rintro _ w3 ⟨r, rfl, hb3, hyes, hno⟩
    have HB3 := Lib.hid (HB1.out.trans (hb3.mono HB1.out.size))
    have H3 := Lib.hid (H0.out.below HB3.out)
    clear hb3 KI
    cases r
    · have HNO := Lib.hid (hno rfl)
      clear hno hyes
      go_wp2_with fail
      exact ⟨rfl, RootDid.arg HO.out HNO.out (H0.out.chg HB3.out)⟩
    · have hy := hyes rfl
      have HYES := Lib.hid hy
      have hu : IntKind.u64.wrap off = off := by
        obtain ⟨i, hi, hf⟩ := hy
        have := (findP_used hf).2
        have := HB.out.lt hi
        have := HB.out.big
        unfold offN at *
        rw [if_pos (by omega)] at *
        rw [IntKind.wrap_u64]
        omega
      have KCH := Lib.hid (change_any H3.out.hH H3.out.hG.hG H3.out.hG.hT.hM H3.out.gd.up H3.out.r1)
      have hHr := H3.out.hH
      unfold HpAt hpC at hHr
      have KS : Calls Tryz.prog 115 #[.pointer (some ⟨b.Mb, 0, none⟩), .int .i64 ((2 : Nat) : Int), .int .u64 off] w3 _ := set_in H3.out.hG.hT.hM H3.out.gd.up (by rw [H3.out.cut]; decide) H3.out.gd.wr 2 (by decide) off
      rw [put_tells H3.out.cut] at KS
      have KS := Lib.hid KS
      clear hno hyes hy
      go_wp2_with fail
      refine KCH.out.mono ?_
      rintro _ _ ⟨rfl, rfl⟩
      go_wp2_with fail
      refine KS.out.mono ?_
      rintro _ w2 ⟨rfl, hm, hk⟩
      have HC := Lib.hid (H0.out.rooted (by have := HY.out; omega) HB3.out hm hk)
      clear hm hk KS hHr KCH
      go_wp2_with fail
      refine (must_ok _).mono ?_
      rintro _ _ ⟨rfl, rfl⟩
      go_wp2_with fail
      go_end0
      exact RootDid.ok (Or.inr HYES.out) HC.out
end
end Go.Proofs.YtphmfaddgpjndaaGreat

/- heap.Do: its deferred closure. -/
namespace Go.Proofs.YtphmfaddgpjndaaGreat
open Go.ChangeShapes Go.WideShapes Go.RowKit Go.Maps

theorem run_assert27 (x : Int) (w : World) : (Instr.typeAssert (.iface 27 (.int .i64 x)) 20 27 true).run Tryz.prog w = .ok (.tuple #[.int .i64 x, .bool true]) w := by
  unfold Instr.typeAssert
  simp [go_sem, Tryz.underlying27]
set_option maxRecDepth 100000 in
set_option maxHeartbeats 1600000 in
theorem catch_pan (g : Nat) (a1 a2 a3 : Value) (x : Int) (older : List PanicEntry) (w : World) (hc : obj w g = some (.cells #[a1, a2, a3] 32 (0, 0))) :
    CallsD Tryz.prog 72 #[.pointer (some ⟨g, 0, none⟩)] (.panicking ({ v := .iface 27 (.int .i64 x), recovered := false } :: older)) w fun e u' w' =>
      e = .returned (.tuple #[]) ∧ u' = .panicking ({ v := .iface 27 (.int .i64 x), recovered := true } :: older) ∧ obj w' g = some (.cells #[.int .i64 x, .int .i64 0, .slice none 0 0] 32 (0, 0)) ∧ Kept [g] w w' := by
  have ha := run_assert27 x
  refine callsD_of_wpS Tryz.func72 rfl fun c₀ cs hu => ?_
  apply wpS_seq
  apply wpS_region
  simp [wpOpsS, go_sem, recoverD, hu, Tryz.ntmps72, Exit.thenS]
  refine wpS_of_wp ?_
  generalize hV : Value.iface 27 (.int .i64 x) = V
  change Code.wp _ _ _ { tmps := #[.pointer (some ⟨g, 0, none⟩), V, undef, undef, V, undef, undef, undef, undef, undef, undef, undef, undef, undef, undef, undef, undef], defers := [] } w
  subst hV
  go_wp2_with fail
  have k3 : Kept [g] w (((w.setCell { block := g, off := 0 } (Value.int IntKind.i64 x)).setCell { block := g, off := 1 } (Value.int IntKind.i64 0)).setCell { block := g, off := 2 } (Value.slice none 0 0)) :=
    (((Kept.refl [g] w).setCell (p := ⟨g, 0, none⟩) _ (Or.inl (by simp))).setCell (p := ⟨g, 1, none⟩) _ (Or.inl (by simp))).setCell (p := ⟨g, 2, none⟩) _ (Or.inl (by simp))
  simp [bodyPostS, results, Tryz.results72]
  exact ⟨by simp [obj_setCell_eq, hc, withCells, setAt], k3⟩
set_option maxRecDepth 100000 in
set_option maxHeartbeats 1600000 in
theorem catch_idle (g : Nat) (w : World) :
    CallsD Tryz.prog 72 #[.pointer (some ⟨g, 0, none⟩)] .returning w fun e u' w' => e = .returned (.tuple #[]) ∧ u' = .returning ∧ w' = w := by
  refine callsD_of_wpS Tryz.func72 rfl fun c₀ cs hu => ?_
  apply wpS_seq
  apply wpS_region
  simp [wpOpsS, go_sem, recoverD, hu, Tryz.ntmps72, Exit.thenS]
  refine wpS_of_wp ?_
  change Code.wp _ _ _ { tmps := #[.pointer (some ⟨g, 0, none⟩), .nilIface, undef, undef, .nilIface, undef, undef, undef, undef, undef, undef, undef, undef, undef, undef, undef, undef], defers := [] } w
  go_wp2_with fail
  cases c₀
  simp_all [bodyPostS, results, Tryz.results72]
end Go.Proofs.YtphmfaddgpjndaaGreat

/- heap.Do: alloc. -/
namespace Go.Proofs.YtphmfaddgpjndaaGreat
open Go.ChangeShapes Go.WideShapes Go.RowKit Go.Maps

/-- an operation -/
def opV (kind off n mask : Int) (d : Value) : Value := .agg #[.int .i64 kind, .int .i64 off, .int .i64 n, .int .i64 mask, d]
/-- an answer -/
def ansV (err off : Int) (d : Value) : Value := .agg #[.int .i64 err, .int .i64 off, d]
theorem run_makeFunc (fn : Fn) (first cap : Array Value) (w : World) : (Instr.makeFunc fn first cap).run Tryz.prog w = .ok (.func fn first cap) w := rfl
theorem Chg.kept {w w' : World} {b : HB} {p : Pl} {now : Nat → Int} {X Y : Nat} {W' : Nat → Int} {r : Int} (h : Chg w w' b p now X Y W' r) : Kept [b.Mb, b.Cb, b.TU, b.g1, b.g2] w w' := by
  obtain ⟨_, _, _, _, _, _, _, _, h⟩ := h
  exact h
theorem res43 (tmps : Array Value) (g : Nat) (a1 a2 a3 : Value) (w : World) (ht : tmps.getD 4 undef = .pointer (some ⟨g, 0, none⟩)) (hg : obj w g = some (.cells #[a1, a2, a3] 32 (0, 0))) :
    (results Tryz.f43 tmps).run Tryz.prog w = .ok (.agg #[a1, a2, a3]) w := by
  have c0 : cellAt (obj w g) 0 = some a1 := by rw [hg]; rfl
  have c1 : cellAt (obj w g) 1 = some a2 := by rw [hg]; rfl
  have c2 : cellAt (obj w g) 2 = some a3 := by rw [hg]; rfl
  have ht2 : tmps[4]?.getD undef = .pointer (some ⟨g, 0, none⟩) := by rw [← ht]; simp [Array.getD_eq_getD_getElem?]
  simp [results, Tryz.results43, go_sem, ht2, c0, c1, c2]
/-- Do's door behind a panic with an error -/
theorem door_pan {R : Ending → World → Prop} (tmps : Array Value) (g : Nat) (a1 a2 a3 : Value) (x : Int) (w3 : World) (ht : tmps.getD 4 undef = .pointer (some ⟨g, 0, none⟩)) (hg : obj w3 g = some (.cells #[a1, a2, a3] 32 (0, 0)))
    (h : ∀ w4, Kept [g] w3 w4 → R (.returned (ansV x 0 (.slice none 0 0))) w4) :
    Leaves Tryz.prog Tryz.f43 tmps R [{ target := .fn (.func 72) #[.pointer (some ⟨g, 0, none⟩)], args := #[] }] (.panicking [{ v := .iface 27 (.int .i64 x), recovered := false }]) w3 := by
  refine leaves_cons (f := 72) (args := #[.pointer (some ⟨g, 0, none⟩)]) (by simp) (by simp [go_sem]) ?_
  refine (catch_pan g _ _ _ x [] w3 hg).mono ?_
  rintro e u' w4 ⟨rfl, rfl, hg4, hk4⟩
  exact ⟨_, res43 tmps g _ _ _ w4 ht hg4, h w4 hk4⟩
/-- Do's door behind a return -/
theorem door_ret {R : Ending → World → Prop} (tmps : Array Value) (g : Nat) (x o : Int) (d : Value) (w3 : World) (ht : tmps.getD 4 undef = .pointer (some ⟨g, 0, none⟩)) (hg : obj w3 g = some (.cells #[.int .i64 x, .int .i64 o, d] 32 (0, 0)))
    (h : R (.returned (ansV x o d)) w3) :
    Leaves Tryz.prog Tryz.f43 tmps R [{ target := .fn (.func 72) #[.pointer (some ⟨g, 0, none⟩)], args := #[] }] .returning w3 := by
  refine leaves_cons (f := 72) (args := #[.pointer (some ⟨g, 0, none⟩)]) (by simp) (by simp [go_sem]) ?_
  refine (catch_idle g w3).mono ?_
  rintro e u' w4 ⟨rfl, rfl, rfl⟩
  exact ⟨_, res43 tmps g _ _ _ _ ht hg, h⟩
theorem Chg.door {w w' w2 : World} {b : HB} {p : Pl} {now : Nat → Int} {X Y : Nat} {W' : Nat → Int} {r : Int} {g : Nat} (h : Chg w w' b p now X Y W' r) (hg : w.heap.size ≤ g) (hn : ∀ x ∈ [b.HP, b.Mb, b.Cb, b.TU, b.LN, b.LG, b.C, b.g1, b.g2], x ≠ g) (k : Kept [g] w' w2) : Chg w w2 b p now X Y W' r := by
  obtain ⟨a1, a2, a3, a4, h1, h2, h3, h4, h5⟩ := h
  exact ⟨a1, a2, a3, a4, h1.kept k (fun x hx => by simp; exact hn x hx), h2, h3, h4, h5.next k (fun x hx => by simp at hx; subst hx; exact Or.inr hg)⟩
theorem HeapIn.lts {w : World} {b : HB} {p : Pl} {puts X Y : Nat} {m : MS} {now kep : Nat → Int} (h : HeapIn w b p puts m now kep X Y) : ∀ x ∈ [b.HP, b.Mb, b.Cb, b.TU, b.LN, b.LG, b.C, b.g1, b.g2], x < w.heap.size := by
  intro x hx
  have h1 := lt_of_obj h.hC.r1.choose_spec.1
  have h2 := lt_of_obj h.hC.r2.choose_spec.1
  have h3 := h.hG.hT.hM.hM.lt
  have h4 := h.hG.hT.hM.hL.lt
  have h5 := lt_of_obj h.hG.hT.hT
  have h6 := lt_of_obj h.hH
  have h7 := lt_of_obj h.hC.hC
  have h8 := lt_of_obj h.hG.hG
  have h9 := lt_of_obj h.hG.hT.hL
  simp at hx
  rcases hx with rfl | rfl | rfl | rfl | rfl | rfl | rfl | rfl | rfl <;> assumption
section
variable {w : World} {b : HB} {p : Pl} {puts X Y : Nat} {m : MS} {now kept : Nat → Int} {B : Bs}
set_option maxRecDepth 100000 in
set_option maxHeartbeats 3200000 in
theorem do_alloc (h : HeapIn w b p puts m now kept X Y) (hX : X + 9 ≤ 1000000000000) (hY : Y + 200 ≤ 1000000000000) (hB : B.Ok (p.L * 8)) (he : Enc (hW m p.L) B) (off n mask : Int) (d : Value) :
    Calls Tryz.prog 43 #[.pointer (some ⟨b.HP, 0, none⟩), opV 1 off n mask d] w fun e w' => ∃ (err o : Int), e = .returned (ansV err o (.slice none 0 0)) ∧
      ((needN n = 0 ∧ err = 1 ∧ o = 0 ∧ Chg w w' b p now X Y (hW m p.L) (m.reg 2)) ∨ (needN n ≠ 0 ∧ err = 4 ∧ o = 0 ∧ (∀ j, j < B.n → ¬ fits B (needN n) j) ∧ Chg w w' b p now X Y (hW m p.L) (m.reg 2)) ∨
       (needN n ≠ 0 ∧ err = 0 ∧ ∃ k, k < B.n ∧ fits B (needN n) k ∧ (∀ j, j < B.n → fits B (needN n) j → B.sz k ≤ B.sz j) ∧ o = ((B.at k + 1) * 8 : Nat) ∧
         Chg w w' b p now X Y (appl (B.at k) (carV (B.sz k) (takesN (B.sz k) (needN n))) (hW m p.L) (carC (takesN (B.sz k) (needN n)) (takM (B.sz k) (takesN (B.sz k) (needN n))))) (m.reg 2))) := by
  have hb1 : Below w.heap.size w (w.alloc (.cells #[.int .i64 1, .int .i64 off, .int .i64 n, .int .i64 mask, d] 35)) := (Below.refl _ _).alloc (Nat.le_refl _) _
  have hb2 := hb1.alloc hb1.size (.cells #[.int .i64 0, .int .i64 0, .slice none 0 0] 32)
  have HBLK := Lib.hid h.lts
  have K := Lib.hid (halloc_any (h.below hb2) hX hY hB he n)
  have HB2 := Lib.hid hb2
  have hmf := run_makeFunc
  have hc2 := newA (w.alloc (.cells #[.int .i64 1, .int .i64 off, .int .i64 n, .int .i64 mask, d] 35)) (.cells #[.int .i64 0, .int .i64 0, .slice none 0 0] 32)
  have HC2 := Lib.hid hc2
  unfold opV
  clear h hB he hb1 hb2 hc2
  go_enter_defers Tryz.func43, Tryz.ntmps43
  go_wp2_with fail
  have HG : Hid (obj ((w.alloc (.cells #[.int .i64 1, .int .i64 off, .int .i64 n, .int .i64 mask, d] 35)).alloc (.cells #[.int .i64 0, .int .i64 0, .slice none 0 0] 32)) (w.heap.size + 1) = some (.cells #[.int .i64 0, .int .i64 0, .slice none 0 0] 32 (0, 0))) := Lib.hid (by have := HC2.out; simpa using this)
  have HN : Hid (w.heap.size + 1 ∉ [b.Mb, b.Cb, b.TU, b.g1, b.g2] ∧ w.heap.size ≤ w.heap.size + 1) := Lib.hid (by
    refine ⟨fun hx => ?_, by omega⟩
    have := HBLK.out (w.heap.size + 1) (by simp at hx ⊢; omega)
    omega)
  have HNB : Hid (∀ x ∈ [b.HP, b.Mb, b.Cb, b.TU, b.LN, b.LG, b.C, b.g1, b.g2], x ≠ w.heap.size + 1) := Lib.hid (fun x hx => by have := HBLK.out x hx; omega)
  clear HC2
  generalize (w.alloc (.cells #[.int .i64 1, .int .i64 off, .int .i64 n, .int .i64 mask, d] 35)).alloc (.cells #[.int .i64 0, .int .i64 0, .slice none 0 0] 32) = w2 at K HB2 HG ⊢
  generalize w.heap.size + 1 = g at HG HN HNB ⊢
  refine K.out.mono ?_
  intro e w3 hd
  have HD : Hid (AllocDid w2 w3 b p m now X Y B n e) := Lib.hid hd
  obtain ⟨W', hchg⟩ : ∃ W', Chg w2 w3 b p now X Y W' (m.reg 2) := by cases hd <;> exact ⟨_, by assumption⟩
  have HG3 : Hid (obj w3 g = some (.cells #[.int .i64 0, .int .i64 0, .slice none 0 0] 32 (0, 0))) := Lib.hid (hchg.kept.keep HG.out HN.out.1)
  clear hd hchg K HG
  cases HD.out
  case arg h0 hc =>
    have HC := Lib.hid (And.intro h0 hc)
    clear h0 hc HD
    exact door_pan _ g _ _ _ 1 w3 rfl HG3.out fun w4 hk => ⟨1, 0, rfl, Or.inl ⟨HC.out.1, rfl, rfl, (HC.out.2.after HB2.out).door HN.out.2 HNB.out hk⟩⟩
  case none h0 hno hc =>
    have HC := Lib.hid (And.intro h0 (And.intro hno hc))
    clear h0 hno hc HD
    exact door_pan _ g _ _ _ 4 w3 rfl HG3.out fun w4 hk => ⟨4, 0, rfl, Or.inr (Or.inl ⟨HC.out.1, rfl, rfl, HC.out.2.1, (HC.out.2.2.after HB2.out).door HN.out.2 HNB.out hk⟩)⟩
  case ok k h0 hk hf hl hc =>
    have HC := Lib.hid (And.intro h0 (And.intro hk (And.intro hf (And.intro hl hc))))
    clear h0 hk hf hl hc HD
    have hg := HG3.out
    have hlt := lt_of_obj hg
    go_wp2_with fail
    refine door_ret _ g 0 ((B.at k + 1 : Nat) * 8 : Nat) (.slice none 0 0) _ rfl ?_ ?_
    · simp [obj_setCell_eq, hg, setAt]
    · refine ⟨0, _, rfl, Or.inr (Or.inr ⟨HC.out.1, rfl, k, HC.out.2.1, HC.out.2.2.1, HC.out.2.2.2.1, rfl, (HC.out.2.2.2.2.after HB2.out).door HN.out.2 HNB.out ?_⟩)⟩
      exact ((((Kept.refl [g] w3).setCell _ (Or.inl (by simp))).setCell _ (Or.inl (by simp))).setCell _ (Or.inl (by simp))).setCell _ (Or.inl (by simp))
end
end Go.Proofs.YtphmfaddgpjndaaGreat

/- heap.Do: free, read, write, root, get, others. (Printed by wip/d/genZN.py.) -/
namespace Go.Proofs.YtphmfaddgpjndaaGreat
open Go.ChangeShapes Go.WideShapes Go.RowKit Go.Maps

section
variable {w : World} {b : HB} {p : Pl} {puts X Y : Nat} {m : MS} {now kept : Nat → Int} {B : Bs}
set_option maxRecDepth 100000 in
set_option maxHeartbeats 3200000 in
theorem do_free (h : HeapIn w b p puts m now kept X Y) (hX : X + 9 ≤ 1000000000000) (hY : Y + 200 ≤ 1000000000000) (hB : B.Ok (p.L * 8)) (he : Enc (hW m p.L) B) (hr : IntKind.i64.wrap (m.reg 2) = m.reg 2) (off n mask : Int) (d : Value) :
    Calls Tryz.prog 43 #[.pointer (some ⟨b.HP, 0, none⟩), opV 2 off n mask d] w fun e w' => ∃ (err : Int), e = .returned (ansV err 0 (.slice none 0 0)) ∧
      (((∀ i, i < B.n → findP off (B.at i, B.sz i, B.us i) = false) ∧ err = 1 ∧ Chg w w' b p now X Y (hW m p.L) (m.reg 2)) ∨
       (∃ i, i < B.n ∧ findP off (B.at i, B.sz i, B.us i) = true ∧ m.reg 2 = off ∧ err = 5 ∧ Chg w w' b p now X Y (hW m p.L) (m.reg 2)) ∨
       (∃ i, i < B.n ∧ findP off (B.at i, B.sz i, B.us i) = true ∧ m.reg 2 ≠ off ∧ err = 0 ∧
         Chg w w' b p now X Y (appl (B.at (fromM B i)) (fun _ => (hdr (B.at (toM B i) - B.at (fromM B i)) false : Nat)) (hW m p.L) 1) (m.reg 2))) := by
  have hb1 : Below w.heap.size w (w.alloc (.cells #[.int .i64 2, .int .i64 off, .int .i64 n, .int .i64 mask, d] 35)) := (Below.refl _ _).alloc (Nat.le_refl _) _
  have hb2 := hb1.alloc hb1.size (.cells #[.int .i64 0, .int .i64 0, .slice none 0 0] 32)
  have HBLK := Lib.hid h.lts
  have K := Lib.hid (hfree_any (h.below hb2) hX hY hB he hr off)
  have HB2 := Lib.hid hb2
  have hmf := run_makeFunc
  have hc2 := newA (w.alloc (.cells #[.int .i64 2, .int .i64 off, .int .i64 n, .int .i64 mask, d] 35)) (.cells #[.int .i64 0, .int .i64 0, .slice none 0 0] 32)
  have HC2 := Lib.hid hc2
  have HSZ : Hid (w.heap.size + 1 < ((w.alloc (.cells #[.int .i64 2, .int .i64 off, .int .i64 n, .int .i64 mask, d] 35)).alloc (.cells #[.int .i64 0, .int .i64 0, .slice none 0 0] 32)).heap.size) := Lib.hid (by simp)
  unfold opV
  clear h hB he hb1 hb2 hc2
  go_enter_defers Tryz.func43, Tryz.ntmps43
  go_wp2_with fail
  have HG : Hid (obj ((w.alloc (.cells #[.int .i64 2, .int .i64 off, .int .i64 n, .int .i64 mask, d] 35)).alloc (.cells #[.int .i64 0, .int .i64 0, .slice none 0 0] 32)) (w.heap.size + 1) = some (.cells #[.int .i64 0, .int .i64 0, .slice none 0 0] 32 (0, 0))) := Lib.hid (by have := HC2.out; simpa using this)
  have HN : Hid (w.heap.size + 1 ∉ [b.Mb, b.Cb, b.TU, b.g1, b.g2] ∧ w.heap.size ≤ w.heap.size + 1) := Lib.hid (by
    refine ⟨fun hx => ?_, by omega⟩
    have := HBLK.out (w.heap.size + 1) (by simp at hx ⊢; omega)
    omega)
  have HNB : Hid (∀ x ∈ [b.HP, b.Mb, b.Cb, b.TU, b.LN, b.LG, b.C, b.g1, b.g2], x ≠ w.heap.size + 1) := Lib.hid (fun x hx => by have := HBLK.out x hx; omega)
  clear HC2
  generalize (w.alloc (.cells #[.int .i64 2, .int .i64 off, .int .i64 n, .int .i64 mask, d] 35)).alloc (.cells #[.int .i64 0, .int .i64 0, .slice none 0 0] 32) = w2 at K HB2 HG HSZ ⊢
  generalize w.heap.size + 1 = g at HG HN HNB HSZ ⊢
  refine K.out.mono ?_
  intro e w3 hd
  have HD : Hid (FreeDid w2 w3 b p m now X Y B off e) := Lib.hid hd
  obtain ⟨W', r', hchg⟩ : ∃ W' r', Chg w2 w3 b p now X Y W' r' := by cases hd <;> exact ⟨_, _, by assumption⟩
  have HG3 : Hid (obj w3 g = some (.cells #[.int .i64 0, .int .i64 0, .slice none 0 0] 32 (0, 0))) := Lib.hid (hchg.kept.keep HG.out HN.out.1)
  clear hd hchg K HG
  cases HD.out
  case arg h0 hc =>
    have HC := Lib.hid (And.intro h0 hc)
    clear h0 hc HD
    exact door_pan _ g _ _ _ 1 w3 rfl HG3.out fun w4 hk => ⟨1, rfl, Or.inl ⟨HC.out.1, rfl, (HC.out.2.after HB2.out).door HN.out.2 HNB.out hk⟩⟩
  case root i hi hf ho hc =>
    have HC := Lib.hid (And.intro hi (And.intro hf (And.intro ho hc)))
    clear hi hf ho hc HD
    exact door_pan _ g _ _ _ 5 w3 rfl HG3.out fun w4 hk => ⟨5, rfl, Or.inr (Or.inl ⟨i, HC.out.1, HC.out.2.1, HC.out.2.2.1, rfl, (HC.out.2.2.2.after HB2.out).door HN.out.2 HNB.out hk⟩)⟩
  case ok i hi hf ho hc =>
    have HC := Lib.hid (And.intro hi (And.intro hf (And.intro ho hc)))
    clear hi hf ho hc HD
    have hg := HG3.out
    have hlt := lt_of_obj hg
    go_wp2_with fail
    refine door_ret _ g 0 0 (.slice none 0 0) _ rfl ?_ ?_
    · simp [obj_setCell_eq, hg, setAt]
    · exact ⟨0, rfl, Or.inr (Or.inr ⟨i, HC.out.1, HC.out.2.1, HC.out.2.2.1, rfl, (HC.out.2.2.2.after HB2.out).door HN.out.2 HNB.out ((((Kept.refl [g] w3).setCell _ (Or.inl (by simp))).setCell _ (Or.inl (by simp))).setCell _ (Or.inl (by simp)))⟩)⟩
set_option maxRecDepth 100000 in
set_option maxHeartbeats 3200000 in
theorem do_read (h : HeapIn w b p puts m now kept X Y) (hB : B.Ok (p.L * 8)) (he : Enc (hW m p.L) B) (hw : WOk (p.L * 8) (hW m p.L)) (off n mask : Int) (d : Value) :
    Calls Tryz.prog 43 #[.pointer (some ⟨b.HP, 0, none⟩), opV 3 off n mask d] w fun e w' => ∃ (err : Int) (v : Value), e = .returned (ansV err 0 v) ∧
      ((holdsN B off n = false ∧ err = 1 ∧ v = .slice none 0 0 ∧ Chg w w' b p now X Y (hW m p.L) (m.reg 2)) ∨
       (holdsN B off n = true ∧ err = 0 ∧ SlOf w' w.heap.size v 1 n.toNat (fun i _ => .int .u8 (byteW (hW m p.L) (off.toNat + i))) ∧ Chg w w' b p now X Y (hW m p.L) (m.reg 2))) := by
  have hb1 : Below w.heap.size w (w.alloc (.cells #[.int .i64 3, .int .i64 off, .int .i64 n, .int .i64 mask, d] 35)) := (Below.refl _ _).alloc (Nat.le_refl _) _
  have hb2 := hb1.alloc hb1.size (.cells #[.int .i64 0, .int .i64 0, .slice none 0 0] 32)
  have HBLK := Lib.hid h.lts
  have K := Lib.hid (hread_any (X := X) (Y := Y) (h.below hb2) hB he hw off n)
  have HB2 := Lib.hid hb2
  have hmf := run_makeFunc
  have hc2 := newA (w.alloc (.cells #[.int .i64 3, .int .i64 off, .int .i64 n, .int .i64 mask, d] 35)) (.cells #[.int .i64 0, .int .i64 0, .slice none 0 0] 32)
  have HC2 := Lib.hid hc2
  have HSZ : Hid (w.heap.size + 1 < ((w.alloc (.cells #[.int .i64 3, .int .i64 off, .int .i64 n, .int .i64 mask, d] 35)).alloc (.cells #[.int .i64 0, .int .i64 0, .slice none 0 0] 32)).heap.size) := Lib.hid (by simp)
  unfold opV
  clear h hB he hw hb1 hb2 hc2
  go_enter_defers Tryz.func43, Tryz.ntmps43
  go_wp2_with fail
  have HG : Hid (obj ((w.alloc (.cells #[.int .i64 3, .int .i64 off, .int .i64 n, .int .i64 mask, d] 35)).alloc (.cells #[.int .i64 0, .int .i64 0, .slice none 0 0] 32)) (w.heap.size + 1) = some (.cells #[.int .i64 0, .int .i64 0, .slice none 0 0] 32 (0, 0))) := Lib.hid (by have := HC2.out; simpa using this)
  have HN : Hid (w.heap.size + 1 ∉ [b.Mb, b.Cb, b.TU, b.g1, b.g2] ∧ w.heap.size ≤ w.heap.size + 1) := Lib.hid (by
    refine ⟨fun hx => ?_, by omega⟩
    have := HBLK.out (w.heap.size + 1) (by simp at hx ⊢; omega)
    omega)
  have HNB : Hid (∀ x ∈ [b.HP, b.Mb, b.Cb, b.TU, b.LN, b.LG, b.C, b.g1, b.g2], x ≠ w.heap.size + 1) := Lib.hid (fun x hx => by have := HBLK.out x hx; omega)
  clear HC2
  generalize (w.alloc (.cells #[.int .i64 3, .int .i64 off, .int .i64 n, .int .i64 mask, d] 35)).alloc (.cells #[.int .i64 0, .int .i64 0, .slice none 0 0] 32) = w2 at K HB2 HG HSZ ⊢
  generalize w.heap.size + 1 = g at HG HN HNB HSZ ⊢
  refine K.out.mono ?_
  intro e w3 hd
  have HD : Hid (ReadDid w2 w3 b p m now X Y B off n e) := Lib.hid hd
  obtain ⟨W', r', hchg⟩ : ∃ W' r', Chg w2 w3 b p now X Y W' r' := by cases hd <;> exact ⟨_, _, by assumption⟩
  have HG3 : Hid (obj w3 g = some (.cells #[.int .i64 0, .int .i64 0, .slice none 0 0] 32 (0, 0))) := Lib.hid (hchg.kept.keep HG.out HN.out.1)
  clear hd hchg K HG
  cases HD.out
  case arg h0 hc =>
    have HC := Lib.hid (And.intro h0 hc)
    clear h0 hc HD
    exact door_pan _ g _ _ _ 1 w3 rfl HG3.out fun w4 hk => ⟨1, _, rfl, Or.inl ⟨HC.out.1, rfl, rfl, (HC.out.2.after HB2.out).door HN.out.2 HNB.out hk⟩⟩
  case ok v h0 hs hb hc =>
    have HC := Lib.hid (And.intro h0 (And.intro hs hc))
    obtain ⟨aov, capv, rfl⟩ := hs.form
    clear h0 hs hc hb HD
    have hg := HG3.out
    have hlt := lt_of_obj hg
    go_wp2_with fail
    refine door_ret _ g 0 0 (.slice aov n.toNat capv) _ rfl ?_ ?_
    · simp [obj_setCell_eq, hg, setAt]
    · refine ⟨0, _, rfl, Or.inr ⟨HC.out.1, rfl, ?_, (HC.out.2.2.after HB2.out).door HN.out.2 HNB.out (((((Kept.refl [g] w3).setCell _ (Or.inl (by simp))).setCell _ (Or.inl (by simp))).setCell _ (Or.inl (by simp))).setCell _ (Or.inl (by simp)))⟩⟩
      exact (HC.out.2.1.kept (((((Kept.refl [g] w3).setCell _ (Or.inl (by simp))).setCell _ (Or.inl (by simp))).setCell _ (Or.inl (by simp))).setCell _ (Or.inl (by simp))) (fun x hx => by simp at hx; rw [hx]; exact HSZ.out)).mono HB2.out.size
set_option maxRecDepth 100000 in
set_option maxHeartbeats 3200000 in
theorem do_write {B2 k : Nat} {vb : Value} {c : Nat → Int} (h : HeapIn w b p puts m now kept X Y) (hX : X + 9 ≤ 1000000000000) (hY : Y + 200 ≤ 1000000000000) (hB : B.Ok (p.L * 8)) (he : Enc (hW m p.L) B) (hvb : SlOf w B2 vb 1 k (fun i _ => .int .u8 (c i))) (hc : ∀ i, i < k → 0 ≤ c i ∧ c i < 256) (off n mask : Int) :
    Calls Tryz.prog 43 #[.pointer (some ⟨b.HP, 0, none⟩), opV 4 off n mask vb] w fun e w' => ∃ (err : Int), e = .returned (ansV err 0 (.slice none 0 0)) ∧
      ((holdsN B off k = false ∧ err = 1 ∧ Chg w w' b p now X Y (hW m p.L) (m.reg 2)) ∨
       (holdsN B off k = true ∧ err = 0 ∧ Chg w w' b p now X Y (wroteW (hW m p.L) off.toNat k c) (m.reg 2))) := by
  have HBLK := Lib.hid h.lts
  have hvb2 := fun (w2 : World) (q : Below w.heap.size w w2) => hvb.below q
  obtain ⟨aob, capb, rfl⟩ := hvb.form
  have hb1 : Below w.heap.size w (w.alloc (.cells #[.int .i64 4, .int .i64 off, .int .i64 n, .int .i64 mask, .slice aob k capb] 35)) := (Below.refl _ _).alloc (Nat.le_refl _) _
  have hb2 := hb1.alloc hb1.size (.cells #[.int .i64 0, .int .i64 0, .slice none 0 0] 32)
  have K := Lib.hid (hwrite_any (h.below hb2) hX hY hB he (hvb2 _ hb2) hc off)
  have HB2 := Lib.hid hb2
  have hmf := run_makeFunc
  have hc2 := newA (w.alloc (.cells #[.int .i64 4, .int .i64 off, .int .i64 n, .int .i64 mask, .slice aob k capb] 35)) (.cells #[.int .i64 0, .int .i64 0, .slice none 0 0] 32)
  have HC2 := Lib.hid hc2
  have HSZ : Hid (w.heap.size + 1 < ((w.alloc (.cells #[.int .i64 4, .int .i64 off, .int .i64 n, .int .i64 mask, .slice aob k capb] 35)).alloc (.cells #[.int .i64 0, .int .i64 0, .slice none 0 0] 32)).heap.size) := Lib.hid (by simp)
  unfold opV
  clear h hB he hvb hvb2 hc hb1 hb2 hc2
  go_enter_defers Tryz.func43, Tryz.ntmps43
  go_wp2_with fail
  have HG : Hid (obj ((w.alloc (.cells #[.int .i64 4, .int .i64 off, .int .i64 n, .int .i64 mask, .slice aob k capb] 35)).alloc (.cells #[.int .i64 0, .int .i64 0, .slice none 0 0] 32)) (w.heap.size + 1) = some (.cells #[.int .i64 0, .int .i64 0, .slice none 0 0] 32 (0, 0))) := Lib.hid (by have := HC2.out; simpa using this)
  have HN : Hid (w.heap.size + 1 ∉ [b.Mb, b.Cb, b.TU, b.g1, b.g2] ∧ w.heap.size ≤ w.heap.size + 1) := Lib.hid (by
    refine ⟨fun hx => ?_, by omega⟩
    have := HBLK.out (w.heap.size + 1) (by simp at hx ⊢; omega)
    omega)
  have HNB : Hid (∀ x ∈ [b.HP, b.Mb, b.Cb, b.TU, b.LN, b.LG, b.C, b.g1, b.g2], x ≠ w.heap.size + 1) := Lib.hid (fun x hx => by have := HBLK.out x hx; omega)
  clear HC2
  generalize (w.alloc (.cells #[.int .i64 4, .int .i64 off, .int .i64 n, .int .i64 mask, .slice aob k capb] 35)).alloc (.cells #[.int .i64 0, .int .i64 0, .slice none 0 0] 32) = w2 at K HB2 HG HSZ ⊢
  generalize w.heap.size + 1 = g at HG HN HNB HSZ ⊢
  refine K.out.mono ?_
  intro e w3 hd
  have HD : Hid (WriteDid w2 w3 b p m now X Y B off k c e) := Lib.hid hd
  obtain ⟨W', r', hchg⟩ : ∃ W' r', Chg w2 w3 b p now X Y W' r' := by cases hd <;> exact ⟨_, _, by assumption⟩
  have HG3 : Hid (obj w3 g = some (.cells #[.int .i64 0, .int .i64 0, .slice none 0 0] 32 (0, 0))) := Lib.hid (hchg.kept.keep HG.out HN.out.1)
  clear hd hchg K HG
  cases HD.out
  case arg h0 hc =>
    have HC := Lib.hid (And.intro h0 hc)
    clear h0 hc HD
    exact door_pan _ g _ _ _ 1 w3 rfl HG3.out fun w4 hk => ⟨1, rfl, Or.inl ⟨HC.out.1, rfl, (HC.out.2.after HB2.out).door HN.out.2 HNB.out hk⟩⟩
  case ok h0 hc =>
    have HC := Lib.hid (And.intro h0 hc)
    clear h0 hc HD
    have hg := HG3.out
    have hlt := lt_of_obj hg
    go_wp2_with fail
    refine door_ret _ g 0 0 (.slice none 0 0) _ rfl ?_ ?_
    · simp [obj_setCell_eq, hg, setAt]
    · exact ⟨0, rfl, Or.inr ⟨HC.out.1, rfl, (HC.out.2.after HB2.out).door HN.out.2 HNB.out ((((Kept.refl [g] w3).setCell _ (Or.inl (by simp))).setCell _ (Or.inl (by simp))).setCell _ (Or.inl (by simp)))⟩⟩
set_option maxRecDepth 100000 in
set_option maxHeartbeats 3200000 in
theorem do_root (h : HeapIn w b p puts m now kept X Y) (hY : Y + 200 ≤ 1000000000000) (hB : B.Ok (p.L * 8)) (he : Enc (hW m p.L) B) (off n mask : Int) (d : Value) :
    Calls Tryz.prog 43 #[.pointer (some ⟨b.HP, 0, none⟩), opV 5 off n mask d] w fun e w' => ∃ (err : Int), e = .returned (ansV err 0 (.slice none 0 0)) ∧
      ((off ≠ 0 ∧ (∀ i, i < B.n → findP off (B.at i, B.sz i, B.us i) = false) ∧ err = 1 ∧ Chg w w' b p now X Y (hW m p.L) (m.reg 2)) ∨
       ((off = 0 ∨ ∃ i, i < B.n ∧ findP off (B.at i, B.sz i, B.us i) = true) ∧ err = 0 ∧ Chg w w' b p now X Y (hW m p.L) off)) := by
  have hb1 : Below w.heap.size w (w.alloc (.cells #[.int .i64 5, .int .i64 off, .int .i64 n, .int .i64 mask, d] 35)) := (Below.refl _ _).alloc (Nat.le_refl _) _
  have hb2 := hb1.alloc hb1.size (.cells #[.int .i64 0, .int .i64 0, .slice none 0 0] 32)
  have HBLK := Lib.hid h.lts
  have K := Lib.hid (hset_any (X := X) (h.below hb2) hY hB he off)
  have HB2 := Lib.hid hb2
  have hmf := run_makeFunc
  have hc2 := newA (w.alloc (.cells #[.int .i64 5, .int .i64 off, .int .i64 n, .int .i64 mask, d] 35)) (.cells #[.int .i64 0, .int .i64 0, .slice none 0 0] 32)
  have HC2 := Lib.hid hc2
  have HSZ : Hid (w.heap.size + 1 < ((w.alloc (.cells #[.int .i64 5, .int .i64 off, .int .i64 n, .int .i64 mask, d] 35)).alloc (.cells #[.int .i64 0, .int .i64 0, .slice none 0 0] 32)).heap.size) := Lib.hid (by simp)
  unfold opV
  clear h hB he hb1 hb2 hc2
  go_enter_defers Tryz.func43, Tryz.ntmps43
  go_wp2_with fail
  have HG : Hid (obj ((w.alloc (.cells #[.int .i64 5, .int .i64 off, .int .i64 n, .int .i64 mask, d] 35)).alloc (.cells #[.int .i64 0, .int .i64 0, .slice none 0 0] 32)) (w.heap.size + 1) = some (.cells #[.int .i64 0, .int .i64 0, .slice none 0 0] 32 (0, 0))) := Lib.hid (by have := HC2.out; simpa using this)
  have HN : Hid (w.heap.size + 1 ∉ [b.Mb, b.Cb, b.TU, b.g1, b.g2] ∧ w.heap.size ≤ w.heap.size + 1) := Lib.hid (by
    refine ⟨fun hx => ?_, by omega⟩
    have := HBLK.out (w.heap.size + 1) (by simp at hx ⊢; omega)
    omega)
  have HNB : Hid (∀ x ∈ [b.HP, b.Mb, b.Cb, b.TU, b.LN, b.LG, b.C, b.g1, b.g2], x ≠ w.heap.size + 1) := Lib.hid (fun x hx => by have := HBLK.out x hx; omega)
  clear HC2
  generalize (w.alloc (.cells #[.int .i64 5, .int .i64 off, .int .i64 n, .int .i64 mask, d] 35)).alloc (.cells #[.int .i64 0, .int .i64 0, .slice none 0 0] 32) = w2 at K HB2 HG HSZ ⊢
  generalize w.heap.size + 1 = g at HG HN HNB HSZ ⊢
  refine K.out.mono ?_
  intro e w3 hd
  have HD : Hid (RootDid w2 w3 b p m now X Y B off e) := Lib.hid hd
  obtain ⟨W', r', hchg⟩ : ∃ W' r', Chg w2 w3 b p now X Y W' r' := by cases hd <;> exact ⟨_, _, by assumption⟩
  have HG3 : Hid (obj w3 g = some (.cells #[.int .i64 0, .int .i64 0, .slice none 0 0] 32 (0, 0))) := Lib.hid (hchg.kept.keep HG.out HN.out.1)
  clear hd hchg K HG
  cases HD.out
  case arg h0 hno hc =>
    have HC := Lib.hid (And.intro h0 (And.intro hno hc))
    clear h0 hno hc HD
    exact door_pan _ g _ _ _ 1 w3 rfl HG3.out fun w4 hk => ⟨1, rfl, Or.inl ⟨HC.out.1, HC.out.2.1, rfl, (HC.out.2.2.after HB2.out).door HN.out.2 HNB.out hk⟩⟩
  case ok h0 hc =>
    have HC := Lib.hid (And.intro h0 hc)
    clear h0 hc HD
    have hg := HG3.out
    have hlt := lt_of_obj hg
    go_wp2_with fail
    refine door_ret _ g 0 0 (.slice none 0 0) _ rfl ?_ ?_
    · simp [obj_setCell_eq, hg, setAt]
    · exact ⟨0, rfl, Or.inr ⟨HC.out.1, rfl, (HC.out.2.after HB2.out).door HN.out.2 HNB.out ((((Kept.refl [g] w3).setCell _ (Or.inl (by simp))).setCell _ (Or.inl (by simp))).setCell _ (Or.inl (by simp)))⟩⟩
set_option maxRecDepth 100000 in
set_option maxHeartbeats 3200000 in
theorem do_get (h : HeapIn w b p puts m now kept X Y) (hr : IntKind.i64.wrap (m.reg 2) = m.reg 2) (off n mask : Int) (d : Value) :
    Calls Tryz.prog 43 #[.pointer (some ⟨b.HP, 0, none⟩), opV 6 off n mask d] w fun e w' => e = .returned (ansV 0 (m.reg 2) (.slice none 0 0)) ∧ Chg w w' b p now X Y (hW m p.L) (m.reg 2) := by
  have hb1 : Below w.heap.size w (w.alloc (.cells #[.int .i64 6, .int .i64 off, .int .i64 n, .int .i64 mask, d] 35)) := (Below.refl _ _).alloc (Nat.le_refl _) _
  have hb2 := hb1.alloc hb1.size (.cells #[.int .i64 0, .int .i64 0, .slice none 0 0] 32)
  have HBLK := Lib.hid h.lts
  have h2 := h.below hb2
  have K := Lib.hid (root_any h2.hH h2.hG.hT.hM h2.gd.up hr)
  have HCHG := Lib.hid (h.chg hb2)
  have HB2 := Lib.hid hb2
  have hmf := run_makeFunc
  have hc2 := newA (w.alloc (.cells #[.int .i64 6, .int .i64 off, .int .i64 n, .int .i64 mask, d] 35)) (.cells #[.int .i64 0, .int .i64 0, .slice none 0 0] 32)
  have HC2 := Lib.hid hc2
  have HSZ : Hid (w.heap.size + 1 < ((w.alloc (.cells #[.int .i64 6, .int .i64 off, .int .i64 n, .int .i64 mask, d] 35)).alloc (.cells #[.int .i64 0, .int .i64 0, .slice none 0 0] 32)).heap.size) := Lib.hid (by simp)
  unfold opV
  clear h h2 hr hb1 hb2 hc2
  go_enter_defers Tryz.func43, Tryz.ntmps43
  go_wp2_with fail
  have HG : Hid (obj ((w.alloc (.cells #[.int .i64 6, .int .i64 off, .int .i64 n, .int .i64 mask, d] 35)).alloc (.cells #[.int .i64 0, .int .i64 0, .slice none 0 0] 32)) (w.heap.size + 1) = some (.cells #[.int .i64 0, .int .i64 0, .slice none 0 0] 32 (0, 0))) := Lib.hid (by have := HC2.out; simpa using this)
  have HN : Hid (w.heap.size + 1 ∉ [b.Mb, b.Cb, b.TU, b.g1, b.g2] ∧ w.heap.size ≤ w.heap.size + 1) := Lib.hid (by
    refine ⟨fun hx => ?_, by omega⟩
    have := HBLK.out (w.heap.size + 1) (by simp at hx ⊢; omega)
    omega)
  have HNB : Hid (∀ x ∈ [b.HP, b.Mb, b.Cb, b.TU, b.LN, b.LG, b.C, b.g1, b.g2], x ≠ w.heap.size + 1) := Lib.hid (fun x hx => by have := HBLK.out x hx; omega)
  clear HC2
  generalize (w.alloc (.cells #[.int .i64 6, .int .i64 off, .int .i64 n, .int .i64 mask, d] 35)).alloc (.cells #[.int .i64 0, .int .i64 0, .slice none 0 0] 32) = w2 at K HCHG HB2 HG HSZ ⊢
  generalize w.heap.size + 1 = g at HG HN HNB HSZ ⊢
  refine K.out.mono ?_
  rintro _ _ ⟨rfl, rfl⟩
  have hg := HG.out
  have hlt := lt_of_obj hg
  clear K
  go_wp2_with fail
  refine door_ret _ g 0 (m.reg 2) (.slice none 0 0) _ rfl ?_ ?_
  · simp [obj_setCell_eq, hg, setAt]
  · refine ⟨rfl, HCHG.out.door HN.out.2 HNB.out ?_⟩
    exact (((((Kept.refl [g] w2).setCell _ (Or.inl (by simp))).setCell _ (Or.inl (by simp))).setCell _ (Or.inl (by simp))).setCell _ (Or.inl (by simp)))
set_option maxRecDepth 100000 in
set_option maxHeartbeats 3200000 in
theorem do_other (h : HeapIn w b p puts m now kept X Y) (kind off n mask : Int) (d : Value) (hk : kind ≠ 1 ∧ kind ≠ 2 ∧ kind ≠ 3 ∧ kind ≠ 4 ∧ kind ≠ 5 ∧ kind ≠ 6) :
    Calls Tryz.prog 43 #[.pointer (some ⟨b.HP, 0, none⟩), opV kind off n mask d] w fun e w' => e = .returned (ansV 1 0 (.slice none 0 0)) ∧ Chg w w' b p now X Y (hW m p.L) (m.reg 2) := by
  obtain ⟨n1, n2, n3, n4, n5, n6⟩ := hk
  have k1 : (kind == 1) = false := by simp; exact n1
  have k2 : (kind == 2) = false := by simp; exact n2
  have k3 : (kind == 3) = false := by simp; exact n3
  have k4 : (kind == 4) = false := by simp; exact n4
  have k5 : (kind == 5) = false := by simp; exact n5
  have k6 : (kind == 6) = false := by simp; exact n6
  have hb1 : Below w.heap.size w (w.alloc (.cells #[.int .i64 kind, .int .i64 off, .int .i64 n, .int .i64 mask, d] 35)) := (Below.refl _ _).alloc (Nat.le_refl _) _
  have HCHG := Lib.hid (h.chg (hb1.alloc hb1.size (.cells #[.int .i64 1, .int .i64 0, .slice none 0 0] 32)))
  have hmf := run_makeFunc
  have HC2 := Lib.hid (newA (w.alloc (.cells #[.int .i64 kind, .int .i64 off, .int .i64 n, .int .i64 mask, d] 35)) (.cells #[.int .i64 1, .int .i64 0, .slice none 0 0] 32))
  unfold opV
  clear h hb1
  go_enter_defers Tryz.func43, Tryz.ntmps43
  go_wp2_with fail
  refine door_ret _ (w.heap.size + 1) 1 0 (.slice none 0 0) _ rfl ?_ ⟨rfl, HCHG.out⟩
  have := HC2.out
  simpa using this
end
end Go.Proofs.YtphmfaddgpjndaaGreat
