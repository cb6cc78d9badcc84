/- The flow walks: rings and Paths. -/
import Derived.Test.YtmhiiomejopaoaaJ5
import Derived.Deep.LoopGhost
import Derived.WalkMore
import Derived.ScopeJumps
import Derived.Test.YtmhiiomejopaoaaX2
import Derived.Test.YtmhiiomejopaoaaW7
import Derived.Test.YtmhiiomejopaoaaE1
namespace Go.Proofs.Ytmhiiomejopaoaa
set_option linter.all false
open Go.RowKit
set_option maxRecDepth 100000

theorem u115 : Try.prog.underlying 115 = some (.map 3 3) := Try.underlying115
theorem zero3 (w : World) : (zeroValue 3).run Try.prog w = .ok (.int .i64 0) w := by kernel_rfl
theorem looksB {w : World} {md : Nat} {S : List Int} (h : MapI w md (setI S)) : LooksB w (.map (some md)) (fun x => S.contains x) := fun W hW k => by
  have := (h.below hW).look u80 (zero4 _) k
  rwa [look_set] at this
theorem IntsAt.drop {w : World} {b o : Nat} {l : List Int} (h : IntsAt w (some ⟨b, o, none⟩) l) (a : Nat) : IntsAt w (some ⟨b, o + a, none⟩) (l.drop a) := by
  intro i h0 hi
  rw [List.length_drop] at hi
  obtain ⟨b', o', e, hc⟩ := h ((a : Int) + i) (by omega) (by omega)
  cases e
  refine ⟨b, o + a, rfl, ?_⟩
  have e1 : gi (l.drop a) i = gi l ((a : Int) + i) := by
    simp only [gi, List.getD_eq_getElem?_getD, List.getElem?_drop]
    rw [show ((a : Int) + i).toNat = a + i.toNat by omega]
  rw [e1, show o + a + i.toNat = o + ((a : Int) + i).toNat by omega]
  exact hc
theorem Rh.start {wx w3 : World} {md mp : Nat} {S : List Int} {m : List (Int × Value)} (hmp : mp = wx.heap.size) (h : MapI wx md (setI S)) (hm : MapI w3 mp m) (hg : (wx.alloc (.map #[] 0)).grownBy w3 (some mp)) : Rh wx w3 md mp S [] m (.slice none 0 0) := by
  subst hmp
  exact ⟨hm, World.ownsRow_nil _ _ _ _, (h.alloc _).grown hg (by have := h.lt; simp; omega), ((Fr.refl wx _).alloc _).grown hg (fun i e => .inr (by cases e; exact Nat.le_refl _)), Nat.le_refl _, h.lt⟩
set_option maxRecDepth 100000 in
set_option maxHeartbeats 8000000 in
theorem rings_any {w : World} {B q g N : Nat} {A : Option Addr} {c : Nat} {l : List Lk} {cap : Nat} {W u0 us : List Int} {ov : Value} {ps : List PV} (h : CutW w (fun _ => False) B q g (N : Int) A c l us cap ov ps) (hcu : Cu N l W u0 us (ps.map (·.1))) (hlk : ∀ k : Nat, k < l.length → 0 ≤ (gl l k).a ∧ (gl l k).a < N ∧ 0 ≤ (gl l k).b ∧ (gl l k).b < N) (hl : l.length ≤ 1000) (hN : N ≤ 1000) (hB : B ≤ w.heap.size) :
    Calls Try.prog 98 #[.pointer (some ⟨q, 0, none⟩)] w fun e w' => e = .returned (.tuple #[]) ∧ ∃ us' ov' ps', CutW w' (fun _ => False) B q g (N : Int) A c l us' cap ov' ps' ∧ Cu N l W u0 us' (ps'.map (·.1)) ∧ Below B w w' ∧ ∃ (r : Int → Nat) (K : Nat), (∀ v : Int, 0 ≤ v → v < N → r v < K) ∧ ∀ k : Nat, k < l.length → 0 < gi us' k → r (gl l k).b < r (gl l k).a := by
  have HLK := Lib.hid hlk
  obtain ⟨W0, hW0⟩ : ∃ W0, W0 = w.alloc (.map #[] 0) := ⟨_, rfl⟩
  have HS0 := Lib.hid (show Rs w W0 B q g w.heap.size N A c l cap W u0 us ov ps [] from by
    rw [hW0]
    refine ⟨((h.keep (Nat.le_refl _)).less (fun k hk => .inr hk)).below bel, hcu, MapI.made w, ⟨fun _ => 0, 0, fun v hv => by simp at hv, fun k hk hp hd => by simp at hd⟩, fun x hx => by simp at hx, (Below.refl B w).alloc hB _, hB⟩)
  have HW0 := Lib.hid hW0
  clear h hcu hlk hW0
  have hmm := @run_makeMap Try.prog
  go_enter Try.func98, Try.ntmps98
  go_upto_region 1 with fail
  rw [← HW0.out]
  obtain ⟨md, hmd⟩ : ∃ md, w.heap.size = md := ⟨_, rfl⟩
  rw [hmd] at HS0 ⊢
  clear hmd HW0
  obtain ⟨c0, c1, c2, c3⟩ := HS0.out.cut.cells
  have lq := HS0.out.cut.lq
  go_wp2
  clear c0 c1 c2 c3 lq
  go_loopw [16] (fun i wr => ∃ v : Nat, v ≤ N ∧ i = .int .i64 (v : Int) ∧ Hid (∃ us1 ov1 ps1 S1, Rs w wr B q g md N A c l cap W u0 us1 ov1 ps1 S1 ∧ ∀ x : Nat, x < v → S1.contains (x : Int) = true)) (fun i _ => N - (intOf i).toNat)
  case atStart => exact ⟨0, by omega, rfl, Lib.hid ⟨us, ov, ps, [], HS0.out, fun x hx => by omega⟩⟩
  case round =>
    obtain ⟨v, hv, rfl, HRS⟩ := hrel
    by_cases hvN : v < N
    · have t1 : decide ((v : Int) < (N : Int)) = true := decide_eq_true (by omega)
      obtain ⟨us1, ov1, ps1, S1, h1, h2⟩ := HRS.out
      have HR1 := Lib.hid h1
      have HD1 := Lib.hid h2
      clear h1 h2 HRS
      go_wp2
      go_step3
      go_wp2
      go_step3
      go_wp2
      go_loopg [] (cntB (posB us1) l.length) (fun gk wx => Hid (∃ us2 ov2 ps2 S2, Rs w wx B q g md N A c l cap W u0 us2 ov2 ps2 S2 ∧ (∀ x : Nat, x < v → S2.contains (x : Int) = true) ∧ gk = cntB (posB us2) l.length))
      case atStart => exact Lib.hid ⟨us1, ov1, ps1, S1, HR1.out, HD1.out, rfl⟩
      case round =>
        obtain ⟨us2, ov2, ps2, S2, h1, h2, h3⟩ := hrel.out
        have HR2 := Lib.hid h1
        have HD2 := Lib.hid h2
        have HG2 := Lib.hid h3
        clear h1 h2 h3
        rename Nat => g2
        rename World => wx
        have hlk := HR2.out.map.look Try.underlying80 (zero4 _) (v : Int)
        rw [look_set] at hlk
        cases hS : S2.contains (v : Int)
        · rw [hS] at hlk
          have HST := Lib.hid (Rq.start (l := l) (us := us2) (s := (v : Int)) ⟨by omega, by omega⟩ hS HR2.out.dn HR2.out.inN)
          clear hS
          have hmm := @run_makeMap Try.prog
          go_wp2_with (refine map_store rfl _ _ _ 115 _ (.inr rfl) Try.underlying115 (v : Int) (.int .i64 0) rfl rfl rfl (MapI.made wx) ?_; intro w3 hm3 hg3; have HM3 := Lib.hid hm3; have HG3 := Lib.hid hg3; clear hm3 hg3 hmm hlk; dsimp only [Act.put])
          obtain ⟨mp, hmp⟩ : ∃ mp, wx.heap.size = mp := ⟨_, rfl⟩
          have HRH := Lib.hid (Rh.start (mp := mp) hmp.symm HR2.out.map (by rw [← hmp]; exact HM3.out) (by rw [← hmp]; exact HG3.out))
          rw [hmp]
          clear HM3 HG3
          have HMP := Lib.hid hmp
          clear hmp
          go_loopg [4, 6] (Mm N S2 0) (fun gk pl pt wy => ∃ (S P : List Int) (t : Int) (m : List (Int × Value)), pt = .int .i64 t ∧ Hid (Rh wx wy md mp S P m pl) ∧ Hid (Rq N l us2 (v : Int) S P t m) ∧ Hid (gk = Mm N S P.length) ∧ Hid (∀ x : Nat, x < v → S.contains (x : Int) = true))
          case atStart => exact ⟨S2, [], (v : Int), _, rfl, HRH, HST, Lib.hid rfl, HD2⟩
          case round =>
            obtain ⟨S, P, t, m, rfl, HH, HQ, HGK, HD4⟩ := hrel
            rename Nat => g3
            rename World => wy
            obtain ⟨Av, cv, rfl, hcv, hnv, hav⟩ := own_slice HH.out.row
            have HCy := Lib.hid (HR2.out.cut.fr HH.out.fr)
            have HLEN := Lib.hid HR2.out.cu.len
            have HNX := Lib.hid (next_any HCy.out (.map (some md)) _ (looksB HH.out.map) t hl HLEN.out)
            have HPS := Lib.hid HQ.out.rg.short
            clear hav
            go_upto_region 9 with (go_at_call 100; refine HNX.out.mono ?_; rintro e w4 ⟨⟨r, rfl, hr⟩, hb⟩; have HB4 := Lib.hid hb; have HNI := Lib.hid hr; clear hb hr)
            have HH4 := Lib.hid (HH.out.below HB4.out)
            have HCy4 := Lib.hid (HCy.out.below HB4.out)
            clear HH HCy HNX
            rcases HNI.out with ⟨rfl, hno⟩ | ⟨k, hk, rfl, hnb⟩
            · have HNO := Lib.hid hno
              clear hno
              have hzz : decide ((-1 : Int) < 0) = true := by decide
              rcases List.eq_nil_or_concat P with hP | ⟨P0, i0, hP⟩
              · subst hP
                have HTV := Lib.hid (show (v : Int) = t from HQ.out.rg.last)
                go_wp2_with (refine map_store rfl _ _ _ 80 _ (.inl rfl) Try.underlying80 t (.bool true) rfl rfl rfl HH4.out.map ?_; intro w5 hm5 hg5; rw [put_set] at hm5; have HH5 := Lib.hid (HH4.out.mark hm5 hg5); clear hm5 hg5; dsimp only [Act.put])
                have HR5 := Lib.hid (HR2.out.inner HH5.out (HQ.out.done HNO.out).1 (HQ.out.done HNO.out).2)
                have HD5 := Lib.hid (show ∀ x : Nat, x < v + 1 → (putS S t).contains (x : Int) = true from fun x hx => by
                  by_cases e : x = v
                  · subst e; exact (put_has S t _).2 (.inr HTV.out)
                  · exact (put_has S t _).2 (.inl (HD4.out x (by omega))))
                rw [Exit.noGoto_normal]
                go_wp2
                go_roundw
                case rel => exact ⟨v + 1, by omega, by go_num, Lib.hid ⟨us2, ov2, ps2, _, HR5.out, HD5.out⟩⟩
                case measure => simp [intOf]; omega
              · rw [List.concat_eq_append] at hP
                obtain ⟨n1, hn1⟩ : ∃ n1, P0.length = n1 := ⟨_, rfl⟩
                have hl1 : P.length = n1 + 1 := by rw [hP]; simp [hn1]
                have HP0 := Lib.hid (show P = P0 ++ [i0] ∧ P0.length = n1 ∧ P.length = n1 + 1 from ⟨hP, hn1, hl1⟩)
                obtain ⟨g6, cap6, e6, hc6, hin6, hb6, lg6⟩ := HH4.out.slice (by omega)
                cases e6
                have HI6 := Lib.hid hin6
                have HQP := Lib.hid (show Rq N l us2 (v : Int) (putS S t) P0 (gl l i0).a (delI m t) ∧ 0 ≤ i0 ∧ i0 < l.length from (show Rq N l us2 (v : Int) S (P0 ++ [i0]) t m by rw [← hP]; exact HQ.out).pop HNO.out)
                have hz0 : ((P.length : Int) == 0) = false := by rw [beq_eq_false_iff_ne]; omega
                have HG6 := Lib.hid (show gi P (n1 : Int) = i0 by rw [hP, ← hn1]; have := gi_app_right (P := P0) (Q := [i0]) 0; rw [Nat.add_zero] at this; rw [this]; rfl)
                have hw1 : IntKind.i64.wrap ((P.length : Int) - 1) = (n1 : Int) := by rw [IntKind.wrap_i64]; have := HPS.out; omega
                have i1 : 0 ≤ (n1 : Int) := by omega
                have i2 : (n1 : Int) < (P.length : Int) := by omega
                have i3 : (n1 : Int) ≤ (cv : Int) := by omega
                have HW14 := Lib.hid (show wrap64 ((P.length : Int) - 1) = (n1 : Int) by rw [← IntWalk.i64_left]; exact hw1)
                clear hP hn1 hl1 hin6 hnv hcv
                go_upto_region 13 with (first
                  | (refine map_store rfl _ _ _ 80 _ (.inl rfl) Try.underlying80 t (.bool true) rfl rfl rfl HH4.out.map ?_; intro w5 hm5 hg5; rw [put_set] at hm5; have HH5 := Lib.hid (HH4.out.mark hm5 hg5); clear hm5 hg5; dsimp only [Act.put])
                  | (refine map_delete rfl _ _ 115 _ rfl Try.underlying115 t rfl rfl HH5.out.mapp ?_; intro w6 hm6 hg6; have HH6 := Lib.hid (HH5.out.place hm6 hg6); clear hm6 hg6; dsimp only [Act.put]))
                have HC6 := Lib.hid (HR2.out.cut.fr HH6.out.fr)
                obtain ⟨c0, c1, c2, c3⟩ := HC6.out.cells
                have lq := HC6.out.lq
                obtain ⟨bb, oo, e7, g7⟩ := (own_ints HH6.out.row).nat n1 (by have := HP0.out.2.2; omega)
                cases e7
                rw [HG6.out, Nat.zero_add] at g7
                have lg7 := World.block_lt_of_cell? _ _ g7
                dsimp only at lg7
                obtain ⟨j0, j1⟩ := HQP.out.2
                obtain ⟨ba, oa, rfl, a1, a2, a3⟩ := HC6.out.lks i0 j0 j1
                have la := World.block_lt_of_cell? _ _ a1
                dsimp only at la
                obtain ⟨ia, hia⟩ : ∃ ia, (gl l i0).a = ia := ⟨_, rfl⟩
                rw [hia] at a1
                have HIA := Lib.hid hia
                clear hia
                go_region_held3 (fun w' => w'.cell? ⟨q, 1, none⟩ = some (.slice (some ⟨ba, oa, none⟩) l.length c) ∧ w'.cell? ⟨g6, n1, none⟩ = some (.int .i64 i0) ∧ w'.cell? ⟨ba, oa + i0.toNat * 3, none⟩ = some (.int .i64 ia)) (exact ⟨c1, g7, a1⟩) (fail)
                clear c0 c1 c2 c3 lq a1 a2 a3 la g7 lg7
                go_wp2
                have HH7 := Lib.hid (show Rh wx w6 md mp (putS S t) P0 (delI m t) (.slice (some ⟨g6, 0, none⟩) n1 cv) by
                  obtain ⟨p1, p2, p3⟩ := HP0.out
                  have := HH6.out
                  rw [p3, p1] at this
                  exact this.pop p2)
                go_roundg (Mm N (putS S t) n1)
                case measure =>
                  rw [HGK.out, HP0.out.2.2]
                  exact Mm_mark HQ.out.tN.2.2 ⟨HQ.out.tN.1, HQ.out.tN.2.1⟩ (.inl rfl) (by have := HPS.out; have := HP0.out.2.2; omega)
                case rel => exact ⟨putS S t, P0, ia, delI m t, rfl, Lib.hid (HH7.out.below (show Below w6.heap.size w6 w6.drew from (Below.refl _ _).drew)), Lib.hid (by rw [← HIA.out]; exact HQP.out.1), Lib.hid (by rw [HP0.out.2.1]), Lib.hid (fun x hx => (put_has S t _).2 (.inl (HD4.out x hx)))⟩
            · have HNB := Lib.hid hnb
              clear hnb hcv hnv
              have hzz : decide ((k : Int) < 0) = false := decide_eq_false (by omega)
              go_upto_region 16 with (at_builtin; refine app_one rfl _ _ 25 3 (.int .i64 0) 1 8 rfl Try.underlying25 info3 rfl (by omega) (.slice Av P.length cv) P.length (ints P) [.int .i64 k] rfl rfl rfl rfl (one1 _ _) wx.heap.size HH4.out.row HH4.out.hB (by have := HPS.out; omega) (by have := HPS.out; unfold maxLen; omega) ?_; intro v6 w6 ho hg hat; have HH6 := Lib.hid (HH4.out.push ho hg); have HO6 := Lib.hid ho; clear ho hg hat)
              obtain ⟨A6, c6, rfl, hc6, -, hA6⟩ := own_slice HO6.out
              have HA6 := Lib.hid hA6
              clear hA6
              have HC6 := Lib.hid (HR2.out.cut.fr HH6.out.fr)
              obtain ⟨c0, c1, c2, c3⟩ := HC6.out.cells
              have lq := HC6.out.lq
              obtain ⟨ba, oa, rfl, a1, a2, a3⟩ := HC6.out.lks.nat k hk
              have la := World.block_lt_of_cell? _ _ a1
              dsimp only at la
              have HBN := Lib.hid (show 0 ≤ (gl l (k : Int)).b ∧ (gl l (k : Int)).b < N from ⟨(HLK.out k hk).2.2.1, (HLK.out k hk).2.2.2⟩)
              have HSN := Lib.hid (fun hn => HQ.out.snoc hk HNB.out HBN.out hn)
              have HFD := Lib.hid (fun (v : Value) hf => HQ.out.found (x := (gl l (k : Int)).b) (v := v) hf)
              have HRG := Lib.hid (fun a ha he => HQ.out.rg.ring (a := a) hk HNB.out ha he)
              obtain ⟨kb, hkb⟩ : ∃ kb, (gl l (k : Int)).b = kb := ⟨_, rfl⟩
              rw [hkb] at a2 HSN HFD HRG
              clear hkb
              have hlook := HH6.out.mapp.look2 Try.underlying115 (zero3 _) kb
              have i0 : (0 : Int) ≤ (k : Int) := by omega
              have i1 : (k : Int) < (l.length : Int) := by omega
              cases hm : lookI m kb with
              | none =>
                rw [hm] at hlook
                simp only [Option.getD_none, Option.isSome_none] at hlook
                have HS6 := Lib.hid (HSN.out hm)
                clear hm
                go_wp2_with (refine map_store rfl _ _ _ 115 _ (.inl rfl) Try.underlying115 kb (.int .i64 ((P.length + 1 : Nat) : Int)) rfl rfl rfl HH6.out.mapp ?_; intro w7 hm7 hg7; have HH7 := Lib.hid (HH6.out.place hm7 hg7); clear hm7 hg7; dsimp only [Act.put])
                go_roundg (Mm N S (P.length + 1))
                case measure => rw [HGK.out]; exact Mm_snoc HPS.out
                case rel => exact ⟨S, P ++ [(k : Int)], kb, _, rfl, HH7, HS6, Lib.hid (by simp), HD4⟩
              | some vv =>
                rw [hm] at hlook
                obtain ⟨a, ha, rfl, he⟩ := HFD.out vv hm
                simp only [Option.getD_some, Option.isSome_some] at hlook
                clear hm
                obtain ⟨g6, cap6, e6, -, hin6, hb6, lg6⟩ := HH6.out.slice (by simp)
                rw [Value.slice.injEq] at e6
                obtain ⟨rfl, -, rfl⟩ := e6
                obtain ⟨rc, rw1, rw2, rw3, rw4⟩ := HRG.out a ha he
                obtain ⟨Q, hQ⟩ : ∃ Q, (P ++ [(k : Int)]).drop a = Q := ⟨_, rfl⟩
                have hQl : P.length + 1 - a = Q.length := by rw [← hQ]; simp
                have hin7 := hin6.drop a
                rw [Nat.zero_add] at hin7
                rw [hQ] at rw1 rw2 rw3 rw4 hin7
                have HR6 := Lib.hid (HR2.out.inner HH6.out HQ.out.dn HQ.out.inN)
                have hQ0 : 0 < Q.length := by rw [← hQl]; omega
                have hQm : Q.length ≤ 1000 := by rw [← hQl]; have := HPS.out; omega
                have HTK := Lib.hid (take_any HR6.out.cut (some ⟨g6, a, none⟩) (c6 - a) Q hin7 (fun k' hk' ad e _ e2 => by
                  cases e
                  have e3 : g6 = k' := Option.some.inj e2
                  have q1 := HR2.out.cut.lq
                  have q2 := HR2.out.cut.lg
                  rcases hk' with h | h | h
                  · omega
                  · omega
                  · have := HR2.out.cut.lo h; omega) (fun e => by cases e) hQ0 hQm rw1.mem hl HLEN.out (fun k' hk' => ⟨HR2.out.cu.lo k' (by have := HLEN.out; omega), HR2.out.cu.hi k' (by have := HLEN.out; omega)⟩) (by have := HR2.out.cu.many; rw [List.length_map] at this; omega) (fun k' e => by subst e; exact HR6.out.map.lt) HR6.out.hw)
                have HTN := Lib.hid (fun w' ov' v' hc hf => HR6.out.taken (w' := w') HLK.out rw1 rw2 rw3 rw4 (ov' := ov') (v := v') hc hf)
                rw [← hQl] at HTK HTN
                have j0 : (0 : Int) ≤ (a : Int) := by omega
                have j1 : (a : Int) ≤ (P.length : Int) + 1 := by omega
                have j2 : (P.length : Int) + 1 ≤ (c6 : Int) := by omega
                have j3 : a ≤ P.length + 1 := by omega
                clear hin6 hin7 rw1 rw2 rw3 rw4 hQl hQ0 hQm hQ he
                go_wp2_with (fail)
                refine HTK.out.mono ?_
                rintro e w7 ⟨rfl, ov7, v7, hc7, hf7, -⟩
                have HZ7 := Lib.hid (HTN.out w7 ov7 v7 hc7 hf7)
                clear hc7 hf7
                go_wp2
                go_roundg (cntB (posB (addP Q (-(minU us2 Q)) us2)) l.length)
                case measure => rw [HG2.out]; exact HZ7.out.2
                case rel => exact Lib.hid ⟨_, _, _, S, HZ7.out.1, HD4.out, rfl⟩
        · rw [hS] at hlk
          have HD3 := Lib.hid (show ∀ x : Nat, x < v + 1 → S2.contains (x : Int) = true from fun x hx => by
            by_cases e : x = v
            · subst e; exact hS
            · exact HD2.out x (by omega))
          clear hS
          go_wp2
          rw [Exit.noGoto_normal]
          go_wp2
          go_roundw
          case rel => exact ⟨v + 1, by omega, by go_num, Lib.hid ⟨us2, ov2, ps2, S2, HR2.out, HD3.out⟩⟩
          case measure => simp [intOf]; omega
    · obtain rfl : v = N := by omega
      have t1 : decide ((v : Int) < (v : Int)) = false := decide_eq_false (by omega)
      obtain ⟨us1, ov1, ps1, S1, h1, h2⟩ := HRS.out
      have HR1 := Lib.hid h1
      have HD1 := Lib.hid h2
      clear h1 h2 HRS
      go_wp2
      go_end0
      refine ⟨rfl, us1, ov1, ps1, HR1.out.cut.less (fun k hk => hk.elim), HR1.out.cu, HR1.out.bel, ?_⟩
      obtain ⟨r, K, hd⟩ := HR1.out.dn
      have hall : ∀ v' : Int, 0 ≤ v' → v' < v → S1.contains v' = true := fun v' h0 h1 => by
        have := HD1.out v'.toNat (by omega)
        rwa [show ((v'.toNat : Nat) : Int) = v' by omega] at this
      exact ⟨r, K, fun v' h0 h1 => hd.1 v' (hall v' h0 h1), fun k hk hp => (hd.2 k hk hp (hall _ (HLK.out k hk).1 (HLK.out k hk).2.1)).2⟩

/-- A slice of paths at A reads as ps. -/
def PthsAt (w : World) (A : Option Addr) (ps : List PV) : Prop := ∀ i : Nat, i < ps.length → ∃ b o, A = some ⟨b, o, none⟩ ∧ w.cell? ⟨b, o + i * 4, none⟩ = some (.int .i64 (gp ps i).1.a) ∧ w.cell? ⟨b, o + i * 4 + 1, none⟩ = some (.int .i64 (gp ps i).1.b) ∧ w.cell? ⟨b, o + i * 4 + 2, none⟩ = some (gp ps i).2 ∧ w.cell? ⟨b, o + i * 4 + 3, none⟩ = some (.int .i64 (gp ps i).1.u) ∧ ∃ LA cc, (gp ps i).2 = .slice LA (gp ps i).1.ls.length cc ∧ IntsAt w LA (gp ps i).1.ls
theorem PthsAt.below {w w' : World} {A : Option Addr} {ps : List PV} (h : PthsAt w A ps) (hb : Below w.heap.size w w') : PthsAt w' A ps := by
  intro i hi
  obtain ⟨b, o, e, h1, h2, h3, h4, LA, cc, e2, h5⟩ := h i hi
  exact ⟨b, o, e, cell_below hb h1, cell_below hb h2, cell_below hb h3, cell_below hb h4, LA, cc, e2, h5.below hb⟩
theorem CutW.paths {w : World} {R : Nat → Prop} {B q g : Nat} {N : Int} {A : Option Addr} {c : Nat} {l : List Lk} {us : List Int} {cap : Nat} {ov : Value} {ps : List PV} (h : CutW w R B q g N A c l us cap ov ps) : ∃ LA cc, ov = .slice LA ps.length cc ∧ PthsAt w LA ps ∧ (LA = none → ps.length = 0 ∧ cc = 0) := by
  obtain ⟨LA, cc, e, -, hn, -⟩ := own_slice h.own
  refine ⟨LA, cc, e, fun i hi => ?_, hn⟩
  rcases h.own.2 with ⟨-, e0⟩ | ⟨g0, cap0, cur, e1, -, hh, -, -, -, ht⟩
  · omega
  · rw [e] at e1
    cases e1
    have at_ : ∀ j, j < 4 → w.cell? ⟨g0, 0 + i * 4 + j, none⟩ = (pcv (gp ps i))[j]? := fun j hj => by
      have e2 : (cur.toList.take (ps.length * 4))[i * 4 + j]? = (pcs ps)[i * 4 + j]? := by rw [ht]
      rw [pcs_get ps i j hi hj, List.getElem?_take, if_pos (by omega)] at e2
      simp only [World.cell?, hh]
      rw [Nat.zero_add]
      simpa using e2
    obtain ⟨A1, c1, e3, h1, -⟩ := h.rows _ (gp_mem hi)
    exact ⟨g0, 0, rfl, at_ 0 (by omega), at_ 1 (by omega), at_ 2 (by omega), at_ 3 (by omega), A1, c1, e3, h1⟩
/-- The state of Paths. -/
structure Rp (w wr : World) (B q g N : Nat) (A : Option Addr) (c : Nat) (l : List Lk) (cap : Nat) (W u0 us : List Int) (ov : Value) (ps : List PV) : Prop where
  cut : CutW wr (fun _ => False) B q g (N : Int) A c l us cap ov ps
  cu : Cu N l W u0 us (ps.map (·.1))
  bel : Below B w wr
  hB : B ≤ wr.heap.size
section
variable {w wr w' : World} {B q g N : Nat} {A : Option Addr} {c : Nat} {l : List Lk} {cap : Nat} {W u0 us : List Int} {ov : Value} {ps : List PV}
theorem Rp.below (h : Rp w wr B q g N A c l cap W u0 us ov ps) (hb : Below wr.heap.size wr w') : Rp w w' B q g N A c l cap W u0 us ov ps :=
  ⟨h.cut.below hb, h.cu, h.bel.trans (hb.mono h.hB), Nat.le_trans h.hB hb.size⟩
theorem Rp.taken (h : Rp w wr B q g N A c l cap W u0 us ov ps) (hlk : ∀ k : Nat, k < l.length → 0 ≤ (gl l k).a ∧ (gl l k).a < N ∧ 0 ≤ (gl l k).b ∧ (gl l k).b < N) {s t c0 : Int} {Q : List Int} (hw : WI l s Q t c0) (hne : Q ≠ []) (ho : Once l Q) (hp : ∀ i ∈ Q, 0 < gi us i)
    (hst : s ≠ t → (∀ k : Nat, k < l.length → 0 < gi us k → (gl l k).b ≠ s) ∧ (∀ k : Nat, k < l.length → 0 < gi us k → (gl l k).a ≠ t))
    {ov' v : Value} (hc : CutW w' (fun _ => False) B q g (N : Int) A c l (addP Q (-(minU us Q)) us) cap ov' (ps ++ [(⟨(gl l (gi Q 0)).a, (gl l (gi Q ((Q.length - 1 : Nat) : Int))).b, Q, minU us Q⟩, v)])) (hf : Fr wr w' (fun k => k = q ∨ k = g ∨ ov.ownBlock = some k)) :
    Rp w w' B q g N A c l cap W u0 (addP Q (-(minU us Q)) us) ov' (ps ++ [(⟨(gl l (gi Q 0)).a, (gl l (gi Q ((Q.length - 1 : Nat) : Int))).b, Q, minU us Q⟩, v)]) ∧ cntB (posB (addP Q (-(minU us Q)) us)) l.length < cntB (posB us) l.length ∧ ∀ k : Nat, k < l.length → 0 < gi (addP Q (-(minU us Q)) us) k → 0 < gi us k := by
  obtain ⟨k1, k2, k3, k4⟩ := h.cu.take hlk hw hne ho hp hst
  obtain ⟨e1, e2⟩ := walk_ends hw hne
  refine ⟨⟨hc, ?_, hf.toBelow h.bel h.hB ?_, Nat.le_trans h.hB hf.size⟩, k2, k3⟩
  · rw [List.map_append, List.map_singleton, e1, e2]; exact k1
  · rintro i (e | e | e)
    · subst e; exact h.cut.Bq
    · subst e; exact h.cut.Bg
    · exact (h.cut.own.lt i e).1
end
theorem OwnN.slice {B : Nat} {w0 w : World} {v : Value} {l : List Int} (h : OwnN B w0 w v l) (h0 : 0 < l.length) : ∃ g cap, v = .slice (some ⟨g, 0, none⟩) l.length cap ∧ IntsAt w (some ⟨g, 0, none⟩) l ∧ B ≤ g := by
  rcases h.row.2 with ⟨-, e0⟩ | ⟨g, cap, cur, e1, h5, h6, h7, _⟩
  · omega
  · subst e1
    exact ⟨g, cap, rfl, own_ints h.row, h5⟩
theorem sumN_one {f : Nat → Int} (h : ∀ k, 0 ≤ f k) : True := trivial
/-- A flow that carries: the cutter's first state. -/
theorem flow_start {N : Nat} {l : List Lk} {x u : List Int} (h : (flowR (N : Int) l x u).2 = 0) : NetOk (N : Int) l ∧ u.length = l.length ∧ Cu N l x u u [] := by
  unfold flowR at h
  by_cases ha : askedI (N : Int) l x = 0
  · rw [if_neg (by simpa using ha)] at h
    by_cases hf : isFlowI l u = 0
    · rw [if_neg (by simpa using hf)] at h
      cases hc : carriesB l x u with
      | false => rw [hc] at h; simp at h
      | true =>
        obtain ⟨hok, hw, hwb, hsum⟩ := asked_facts ha
        obtain ⟨f1, f2, f3⟩ := (isFlow_facts hok.l1).1 hf
        have hlk : ∀ k : Nat, k < l.length → 0 ≤ (gl l k).a ∧ (gl l k).a < N ∧ 0 ≤ (gl l k).b ∧ (gl l k).b < N := fun k hk => by
          have := (hok.lk _ (gl_mem (l := l) (i := (k : Int)) (by omega) (by omega))).1
          exact ⟨this.1, this.2.1, this.2.2.1, this.2.2.2⟩
        have hn := (carries_iff hlk hw hwb f1 (fun k hk => (f2 k hk).1) (by omega)).1 hc
        refine ⟨hok, f1, f1, fun k hk => (f2 k hk).1, fun k hk => (f2 k hk).2, fun p hp => by simp at hp, fun k hk => by simp [used], fun v hv => by rw [hn v hv]; simp [ends], fun v hv => by rw [hn v hv]; exact ⟨fun h => h, fun h => h⟩, by have := cntB_max (posB u) l.length; simp; omega⟩
    · rw [if_pos (by simpa using hf)] at h; exact absurd h hf
  · rw [if_pos (by simpa using ha)] at h; exact absurd h ha

set_option maxRecDepth 100000 in
set_option maxHeartbeats 4000000 in
theorem Paths_bad (n : Int) (A : Option Addr) (c : Nat) (l : List Lk) (B : Option Addr) (d : Nat) (x : List Int) (C : Option Addr) (f : Nat) (u : List Int) (w : World) (hl : l.length ≤ 1000000) (hx : x.length ≤ 1000000) (hu : u.length ≤ 1000000) (h : LksAt w A l) (h1 : IntsAt w B x) (h2 : IntsAt w C u) (hB : B = none → x.length = 0 ∧ d = 0) (hf : (flowR n l x u).2 ≠ 0) :
    Calls Try.prog 61 #[.agg #[.int .i64 n, .slice A l.length c], .slice B x.length d, .slice C u.length f] w fun e w' => e = .returned (.tuple #[.slice none 0 0, .int .i64 (flowR n l x u).2]) ∧ Below w.heap.size w w' := by
  have HCK := Lib.hid (fun W (hW : Below w.heap.size w W) => CheckFlow_any n A c l B d x C f u W hl hx hu (h.below hW) (h1.below hW) (h2.below hW) hB)
  generalize flowR n l x u = r at HCK hf ⊢
  have hr : (r.2 != 0) = true := by simpa using hf
  clear h h1 h2 hB hf
  go_enter Try.func61, Try.ntmps61
  go_wp2_with (go_at_call 46; refine (HCK.out _ bel).mono ?_; rintro e w2 ⟨rfl, hb⟩; have HB2 := Lib.hid hb; clear hb)
  go_ret2
  exact ⟨rfl, below_trans bel HB2.out⟩
theorem paths_start {w w2 w3 w4 : World} {A : Option Addr} {c : Nat} {l : List Lk} {q : Nat} {A3 : Option Addr} {c3 : Nat} {u x : List Int} {N : Nat} (hw4 : w4 = w3.alloc (.cells #[.int .i64 (N : Int), .slice A l.length c, .slice A3 u.length c3, .slice none 0 0] 95)) (hq : q = w3.heap.size) (hb2 : Below w.heap.size w w2 ∧ w.heap.size < w2.heap.size) (hb3 : Below w2.heap.size w2 w3) (ho : w3.ownsRow w2.heap.size 3 1 (.slice A3 u.length c3) u.length (ints u)) (hA3 : ∀ ad, A3 = some ad → (Value.slice A3 u.length c3).ownBlock = some ad.block ∧ w2.heap.size ≤ ad.block ∧ ad.block < w3.heap.size) (hl : LksAt w2 A l) (hcu : Cu N l x u u []) :
    ∃ g cap, Rp w w4 w.heap.size q g N A c l cap x u u (.slice none 0 0) [] := by
  have hsz := hb3.size
  have hx4 : w4.heap[q]? = some (.cells #[.int .i64 (N : Int), .slice A l.length c, .slice A3 u.length c3, .slice none 0 0] 95 (0, 0)) := by rw [hw4, hq]; exact heap_alloc_new w3 _
  have hb4 : Below w3.heap.size w3 w4 := by rw [hw4]; exact bel
  have hbel : Below w.heap.size w w4 := below_trans (below_trans hb2.1 hb3) hb4
  have hs4 : w3.heap.size < w4.heap.size := by rw [hw4]; simp
  have hlen := hcu.len
  have key : ∀ g, (0 < u.length → A3 = some ⟨g, 0, none⟩ ∧ RowI w3 g u) → g < w3.heap.size → w.heap.size ≤ g → (w2.heap.size ≤ g ∨ l.length = 0) → Rp w w4 w.heap.size q g N A c l c3 x u u (.slice none 0 0) [] := by
    intro g hg hlt hge hge2
    have hap : ∀ k, k = q ∨ k = g ∨ (Value.slice none 0 0).ownBlock = some k → Apart A l.length (some k) := by
      rintro k (hk | hk | hk)
      · exact hl.apart (by omega)
      · rcases hge2 with e | e
        · exact hl.apart (by omega)
        · intro ad e1 h0 e2
          omega
      · cases hk
    refine ⟨⟨⟨A3, hx4, fun h0 => (hg h0).1⟩, fun h0 => (hg h0).2.below hb4, by omega, (hl.below hb3).below hb4, World.ownsRow_nil _ _ _ _, by omega, by simp [Value.ownBlock], by simp [Value.ownBlock], hap, fun y hy => by simp at hy, fun h => h, fun h => h, fun k hk h => h, fun k h => h.elim, by omega, hge⟩, hcu, hbel, Nat.le_trans (Nat.le_of_lt hb2.2) (Nat.le_trans hsz hb4.size)⟩
  by_cases h0 : 0 < u.length
  · rcases ho.2 with ⟨-, e0⟩ | ⟨g0, cap0, cur, e1, h5, h6, h7, -, -, h8⟩
    · omega
    · cases e1
      exact ⟨g0, c3, key g0 (fun _ => ⟨rfl, cur, h6, by simpa using h8⟩) (Array.getElem?_eq_some_iff.1 h6).1 (by omega) (.inl h5)⟩
  · exact ⟨w.heap.size, c3, key w.heap.size (fun h => absurd h h0) (by omega) (Nat.le_refl _) (.inr (by omega))⟩
set_option maxRecDepth 100000 in
set_option maxHeartbeats 8000000 in
theorem Paths_ok (N : Nat) (A : Option Addr) (c : Nat) (l : List Lk) (B : Option Addr) (d : Nat) (x : List Int) (C : Option Addr) (f : Nat) (u : List Int) (w : World) (hl : l.length ≤ 1000000) (hx : x.length ≤ 1000000) (hu : u.length ≤ 1000000) (h : LksAt w A l) (h1 : IntsAt w B x) (h2 : IntsAt w C u) (hB : B = none → x.length = 0 ∧ d = 0) (hC : C = none → u.length = 0 ∧ f = 0) (hf : (flowR (N : Int) l x u).2 = 0) :
    Calls Try.prog 61 #[.agg #[.int .i64 (N : Int), .slice A l.length c], .slice B x.length d, .slice C u.length f] w fun e w' => Below w.heap.size w w' ∧ ∃ LA cc ps, e = .returned (.tuple #[.slice LA ps.length cc, .int .i64 0]) ∧ PthsAt w' LA ps ∧ PsOk N l x u (ps.map (·.1)) ∧ (LA = none → ps.length = 0 ∧ cc = 0) := by
  have HCK := Lib.hid (fun W (hW : Below w.heap.size w W) => CheckFlow_any (N : Int) A c l B d x C f u W hl hx hu (h.below hW) (h1.below hW) (h2.below hW) hB)
  have HFS := Lib.hid (flow_start hf)
  have HA := Lib.hid h
  have HUU := Lib.hid h2
  have HU := Lib.hid hu
  have HCN := Lib.hid hC
  obtain ⟨r, hr⟩ : ∃ r, flowR (N : Int) l x u = r := ⟨_, rfl⟩
  rw [hr] at HCK hf
  have hr2 : (r.2 != 0) = false := by simpa using hf
  clear h h1 h2 hB hC hf hr hu
  go_enter Try.func61, Try.ntmps61
  go_upto_region 4 with (go_at_call 46; refine (HCK.out _ bel).mono ?_; rintro e w2 ⟨rfl, hb⟩; have HB2' := Lib.hid hb; clear hb)
  have HB2 := Lib.hid (show Below w.heap.size w w2 ∧ w.heap.size < w2.heap.size from ⟨below_trans bel HB2'.out, by have := HB2'.out.size; simp at this; omega⟩)
  have HA2 := Lib.hid (HA.out.below HB2.out.1)
  have HU2 := Lib.hid (HUU.out.below HB2.out.1)
  have e0 : w2.cell? ⟨w.heap.size, 0, none⟩ = some (.int .i64 (N : Int)) := cell_below HB2'.out (by go_simp)
  have e1 : w2.cell? ⟨w.heap.size, 1, none⟩ = some (.slice A l.length c) := cell_below HB2'.out (by go_simp)
  have el := HB2.out.2
  clear HB2' hr2 HCK HA HUU
  refine wp_region_held_drew (S := fun w' => w'.cell? ⟨w.heap.size, 0, none⟩ = some (.int .i64 (N : Int)) ∧ w'.cell? ⟨w.heap.size, 1, none⟩ = some (.slice A l.length c)) (by kernel_rfl) ⟨e0, e1⟩ (fun hHeld => ?_)
  refine wpAnyH_take (i := 0) (v := ?_) rfl (by kernel_rfl) (by kernel_rfl) (by kernel_rfl) (fun _ _ _ h => h) (Or.inl ⟨by rfl, ?hyy⟩) (by assumption) ?_
  case hyy => (intro w hSw; (try dsimp only at hSw); go_simp; all_goals (with_reducible rfl))
  try simp only [List.getElem_toArray, List.getElem_cons_zero, List.getElem_cons_succ, Act.put, List.setIfInBounds_toArray, List.set_cons_zero, List.set_cons_succ]
  refine wpAnyH_take (i := 1) (v := ?_) rfl (by kernel_rfl) (by kernel_rfl) (by kernel_rfl) (fun _ _ _ h => h) (Or.inl ⟨by rfl, ?hyy⟩) (by assumption) ?_
  case hyy => (intro w hSw; (try dsimp only at hSw); go_simp; all_goals (with_reducible rfl))
  try simp only [List.getElem_toArray, List.getElem_cons_zero, List.getElem_cons_succ, Act.put, List.setIfInBounds_toArray, List.set_cons_zero, List.set_cons_succ]
  refine wpAnyH_ready (rs := [2]) (by kernel_rfl) (by simp) ?_
  refine AllReadyH.cons rfl (fun K hK => ?_) AllReadyH.nil
  go_simp
  go_at_call 97
  refine (clone_ints C f u _ (by have := HU.out; omega) HCN.out HU2.out.drew).mono ?_
  rintro e w3 ⟨v3, rfl, ho3, hb3⟩
  obtain ⟨A3, c3, rfl, hc3, hn3, hA3⟩ := own_slice ho3
  refine hK.out _ _ ⟨cell_below hb3 e0, cell_below hb3 e1⟩ (fun hHeldN1 => ?_)
  clear hK K
  try simp only [List.getElem_toArray, List.getElem_cons_zero, List.getElem_cons_succ, Act.put, List.setIfInBounds_toArray, List.set_cons_zero, List.set_cons_succ]
  refine wpAnyH_take (i := 3) (v := ?_) rfl (by kernel_rfl) (by kernel_rfl) (by kernel_rfl) (fun _ _ _ h => h) (Or.inl ⟨by rfl, ?hyy⟩) (by assumption) ?_
  case hyy => (intro w hSw; (try dsimp only at hSw); go_simp; all_goals (with_reducible rfl))
  try simp only [List.getElem_toArray, List.getElem_cons_zero, List.getElem_cons_succ, Act.put, List.setIfInBounds_toArray, List.set_cons_zero, List.set_cons_succ]
  refine wpAnyH_ready (rs := [4]) (by kernel_rfl) (by simp) ?_
  refine AllReadyH.cons rfl (fun K hK => ?_) AllReadyH.nil
  go_simp
  refine hK.out _ _ ⟨cell_alloc _ (cell_below hb3 e0), cell_alloc _ (cell_below hb3 e1)⟩ (fun hHeldN2 => ?_)
  clear hK K
  try simp only [List.getElem_toArray, List.getElem_cons_zero, List.getElem_cons_succ, Act.put, List.setIfInBounds_toArray, List.set_cons_zero, List.set_cons_succ]
  refine wpAnyH_take (i := 5) (v := ?_) rfl (by kernel_rfl) (by kernel_rfl) (by kernel_rfl) (fun _ _ _ h => h) (Or.inl ⟨by rfl, ?hyy⟩) (by assumption) ?_
  case hyy => (intro w hSw; (try dsimp only at hSw); go_simp; all_goals (with_reducible rfl))
  try simp only [List.getElem_toArray, List.getElem_cons_zero, List.getElem_cons_succ, Act.put, List.setIfInBounds_toArray, List.set_cons_zero, List.set_cons_succ]
  refine wpAnyH_done (by kernel_rfl) ?_ _
  obtain ⟨w4, hw4⟩ : ∃ w4, w4 = w3.alloc (.cells #[.int .i64 (N : Int), .slice A l.length c, .slice A3 u.length c3, .slice none 0 0] 95) := ⟨_, rfl⟩
  obtain ⟨q, hq⟩ : ∃ q, w3.heap.size = q := ⟨_, rfl⟩
  have HST := Lib.hid (paths_start (l := l) (w := w) hw4 hq.symm HB2.out (below_undrew hb3) ho3 hA3 HA2.out HFS.out.2.2)
  rw [hq, ← hw4]
  clear hw4 hq hb3 ho3 hA3 hc3 hn3 e0 e1 el
  obtain ⟨g, cap, hp4⟩ := HST.out
  have HP4 := Lib.hid hp4
  clear hp4 HST
  have HLK := Lib.hid (show ∀ k : Nat, k < l.length → 0 ≤ (gl l k).a ∧ (gl l k).a < N ∧ 0 ≤ (gl l k).b ∧ (gl l k).b < N from fun k hk => by
    have := (HFS.out.1.lk _ (gl_mem (l := l) (i := (k : Int)) (by omega) (by omega))).1
    exact ⟨this.1, this.2.1, this.2.2.1, this.2.2.2⟩)
  have hl2 : l.length ≤ 260 := HFS.out.1.l1
  have hN2 : N ≤ 50 := by have := HFS.out.1.n2; omega
  have HRG := Lib.hid (rings_any HP4.out.cut HP4.out.cu HLK.out (by omega) (by omega) HP4.out.hB)
  go_wp2_with fail
  refine HRG.out.mono ?_
  rintro e w5 ⟨rfl, us5, ov5, ps5, hc5, hu5, hb5, rr, K, hr5, hd5⟩
  have HP5 := Lib.hid (show Rp w w5 w.heap.size q g N A c l cap x u us5 ov5 ps5 from ⟨hc5, hu5, HP4.out.bel.trans hb5, Nat.le_trans HP4.out.hB hb5.size⟩)
  have HR5 := Lib.hid hr5
  have HD5 := Lib.hid hd5
  clear hc5 hu5 hb5 hr5 hd5 HRG HP4
  have HRT5 := Lib.hid (root_any HP5.out.cut (by omega) HP5.out.cu.len (by omega))
  go_wp2_with fail
  refine HRT5.out.mono ?_
  rintro e w6 ⟨⟨v5, rfl, hv5⟩, hb6⟩
  have HP6 := Lib.hid (HP5.out.below hb6)
  have HV5 := Lib.hid hv5
  clear hv5 hb6 HRT5 HP5
  go_wp2
  go_loopg [11] (cntB (posB us5) l.length) (fun gk s wr => ∃ (v : Int) (us : List Int) (ov : Value) (ps : List PV), s = .int .i64 v ∧ Hid (Rp w wr w.heap.size q g N A c l cap x u us ov ps) ∧ Hid (∀ k : Nat, k < l.length → 0 < gi us k → rr (gl l k).b < rr (gl l k).a) ∧ Hid (RootIs N l us v) ∧ Hid (gk = cntB (posB us) l.length))
  case atStart => exact ⟨v5, us5, ov5, ps5, rfl, HP6, HD5, HV5, Lib.hid rfl⟩
  case round =>
    obtain ⟨v, us, ov, ps, rfl, HP, HD, HV, HG⟩ := hrel
    rename Nat => g2
    rename World => wx
    have HLN := Lib.hid HP.out.cu.len
    rcases HV.out with ⟨rfl, hno⟩ | ⟨hv0, hvN, hbe, hen⟩
    · have t1 : decide ((0 : Int) ≤ -1) = false := by decide
      have hnu : ∀ k : Nat, k < l.length → ¬ 0 < gi us k := no_units HLK.out HR5.out HD.out (fun v' h0 h1 hb => by
        have := hno v'.toNat (by omega)
        rw [show ((v'.toNat : Nat) : Int) = v' by omega] at this
        exact this hb)
      have HPS := Lib.hid (HP.out.cu.done hnu)
      obtain ⟨LA, cc, rfl, hpa, hpn⟩ := HP.out.cut.paths
      have HPA := Lib.hid hpa
      have HPN := Lib.hid hpn
      obtain ⟨c0, c1, c2, c3⟩ := HP.out.cut.cells
      have lq := HP.out.cut.lq
      clear hnu hno hpa hpn
      go_wp2
      go_ret2
      exact ⟨HP.out.bel, LA, cc, ps, rfl, HPA.out, HPS.out, HPN.out⟩
    · have t1 : decide ((0 : Int) ≤ v) = true := decide_eq_true hv0
      have HBE := Lib.hid hbe
      have HEN := Lib.hid hen
      have HNX := Lib.hid (fun w' (hb : Below wx.heap.size wx w') t => next_any (HP.out.cut.below hb) (.map none) _ (LooksB.none w') t (by omega) HLN.out)
      clear hbe hen HV
      go_wp2_with fail
      refine (HNX.out wx (Below.refl _ _) v).mono ?_
      rintro e w7 ⟨⟨i7, rfl, hi7⟩, hb7⟩
      have HI7 := Lib.hid hi7
      have HB7 := Lib.hid hb7
      clear hi7 hb7
      go_wp2
      go_loopg [11, 12, 13] (rr v) (fun gk sa sl si wy => ∃ (P : List Int) (t ri : Int), sa = .int .i64 t ∧ si = .int .i64 ri ∧ Hid (OwnN wx.heap.size wx wy sl P) ∧ Hid (Dn l us rr v P t) ∧ Hid (NextIs l us t (fun _ => false) ri) ∧ Hid (gk = rr t))
      case atStart => exact ⟨[], v, i7, rfl, rfl, Lib.hid ⟨World.ownsRow_nil _ _ _ _, HB7.out, HB7.out.size⟩, Lib.hid Dn.nil, HI7, Lib.hid rfl⟩
      case round =>
        obtain ⟨P, t, ri, rfl, rfl, HO, HDN, HNI, HGK⟩ := hrel
        rename Nat => g3
        rename World => wy
        have hPN : P.length ≤ N := HDN.out.once.1.short fun j hj => by
          obtain ⟨c9, hc9⟩ := HDN.out.walk
          have q := (hc9.nodes.2 j hj).2
          have := HLK.out (gi P j).toNat (by omega)
          rw [show (((gi P j).toNat : Nat) : Int) = gi P j by omega] at this
          exact ⟨this.1, this.2.1⟩
        have HPN := Lib.hid hPN
        clear hPN
        rcases HNI.out with ⟨rfl, hno⟩ | ⟨k, hk, rfl, hnb⟩
        · have HNO := Lib.hid hno
          clear hno
          have t3 : decide ((0 : Int) ≤ -1) = false := by decide
          have hP0 : 0 < P.length := by
            refine Nat.pos_of_ne_zero fun e => ?_
            have e2 := List.eq_nil_of_length_eq_zero e
            subst e2
            obtain ⟨c9, hc9⟩ := HDN.out.walk
            have e3 : v = t := hc9.nodes.1
            obtain ⟨k, hk, hp, ha⟩ := HBE.out
            exact HNO.out k hk ⟨by omega, hp, rfl⟩
          obtain ⟨g6, c6, rfl, hin6, hg6⟩ := HO.out.slice hP0
          have HPW := Lib.hid (HP.out.below HO.out.below)
          obtain ⟨rc, rw1⟩ := HDN.out.walk
          have hne : P ≠ [] := fun e => by rw [e] at hP0; simp at hP0
          have HTK := Lib.hid (take_any HPW.out.cut (some ⟨g6, 0, none⟩) c6 P hin6 (fun k' hk' ad e _ e2 => by
            cases e
            have e3 : g6 = k' := Option.some.inj e2
            have q1 := HP.out.cut.lq
            have q2 := HP.out.cut.lg
            rcases hk' with h | h | h
            · omega
            · omega
            · have := HP.out.cut.lo h; omega) (fun e => by cases e) hP0 (by have := HPN.out; omega) rw1.mem (by omega) HLN.out (fun k' hk' => ⟨HP.out.cu.lo k' (by have := HLN.out; omega), HP.out.cu.hi k' (by have := HLN.out; omega)⟩) (by have := HP.out.cu.many; rw [List.length_map] at this; omega) (fun k' e => e.elim) HPW.out.hB)
          have HTN := Lib.hid (fun w' ov' v' hc hf => HPW.out.taken (w' := w') HLK.out rw1 hne HDN.out.once.1 HDN.out.pos (fun _ => ⟨HEN.out, fun k' hk' hp' ha' => HNO.out k' hk' ⟨ha', hp', rfl⟩⟩) (ov' := ov') (v := v') hc hf)
          clear rw1 hne hin6
          go_wp2_with fail
          refine HTK.out.mono ?_
          rintro e w8 ⟨rfl, ov8, v8, hc8, hf8, -⟩
          have HZ8 := Lib.hid (HTN.out w8 ov8 v8 hc8 hf8)
          clear hc8 hf8 HTK HTN
          have HRT := Lib.hid (root_any HZ8.out.1.cut (by omega) HZ8.out.1.cu.len (by omega))
          go_wp2_with fail
          refine HRT.out.mono ?_
          rintro e w9 ⟨⟨v9, rfl, hv9⟩, hb9⟩
          have HV9 := Lib.hid hv9
          have HB9 := Lib.hid hb9
          clear hv9 hb9 HRT
          go_wp2
          go_roundg (cntB (posB (addP P (-(minU us P)) us)) l.length)
          case measure => rw [HG.out]; exact HZ8.out.2.1
          case rel => exact ⟨v9, _, _, _, rfl, Lib.hid (HZ8.out.1.below HB9.out), Lib.hid (fun k' hk' hp' => HD.out k' hk' (HZ8.out.2.2 k' hk' hp')), HV9, Lib.hid rfl⟩
        · have HNB := Lib.hid hnb
          clear hnb
          have t3 : decide ((0 : Int) ≤ (k : Int)) = true := decide_eq_true (by omega)
          have HDD := Lib.hid (HDN.out.snoc hk HNB.out.1 HNB.out.2.1 (HD.out k hk HNB.out.2.1))
          have HDK := Lib.hid (show rr (gl l (k : Int)).b < rr t by have := HD.out k hk HNB.out.2.1; rw [HNB.out.1] at this; exact this)
          obtain ⟨kb, hkb⟩ : ∃ kb, (gl l (k : Int)).b = kb := ⟨_, rfl⟩
          go_upto_region 14 with (at_builtin; refine app_one rfl _ _ 25 3 (.int .i64 0) 1 8 rfl Try.underlying25 info3 rfl (by omega) u12 P.length (ints P) [.int .i64 k] rfl rfl rfl rfl (one1 _ _) wx.heap.size HO.out.row HO.out.hB (by have := HPN.out; omega) (by have := HPN.out; unfold maxLen; omega) ?_; intro v8 w8 ho hg hat; have HO8 := Lib.hid (HO.out.appended ho hg); clear ho hg hat)
          have HC8 := Lib.hid (HP.out.cut.below HO8.out.below)
          obtain ⟨c0, c1, c2, c3⟩ := HC8.out.cells
          have lq := HC8.out.lq
          obtain ⟨ba, oa, rfl, a1, a2, a3⟩ := HC8.out.lks.nat k hk
          have la := World.block_lt_of_cell? _ _ a1
          dsimp only at la
          rw [hkb] at a2 HDD HDK
          clear hkb
          have i0 : (0 : Int) ≤ (k : Int) := by omega
          have i1 : (k : Int) < (l.length : Int) := by omega
          go_wp2_with fail
          refine (HNX.out w8 HO8.out.below kb).mono ?_
          rintro e w9 ⟨⟨i9, rfl, hi9⟩, hb9⟩
          have HI9 := Lib.hid hi9
          have HB9 := Lib.hid hb9
          clear hi9 hb9 c0 c1 c2 c3 lq a1 a2 a3 la
          go_wp2
          go_roundg (rr kb)
          case measure => rw [HGK.out]; exact HDK.out
          case rel => exact ⟨P ++ [(k : Int)], kb, i9, rfl, rfl, Lib.hid (HO8.out.calls HB9.out), HDD, HI9, Lib.hid rfl⟩
end Go.Proofs.Ytmhiiomejopaoaa
