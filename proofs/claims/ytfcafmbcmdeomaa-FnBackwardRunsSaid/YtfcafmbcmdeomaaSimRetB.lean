/- Nets that are retimed backward have the runs of the net; plain data, no condition. -/
import Derived.Test.YtfcafmbcmdeomaaSimRet
set_option linter.all false
namespace Go.Xw
open Go.Proofs
set_option maxHeartbeats 1000000
theorem rbL_ok {n : NetL} (h : NetOkP n) (k : Int) : NetOkP (rbL n k).1 := by
  unfold rbL
  cases hf : bwO n k with
  | none => exact h
  | some m => exact pruneL_ok (bwO_ok hf)
theorem bitX_twice {v l : Int} (hv : is01 v) : bitX (bitX v l) l = v := by
  unfold bitX
  rw [bits_and_one]
  have hl : l % 2 = 0 ∨ l % 2 = 1 := by omega
  unfold is01 at hv
  rcases hl with e | e <;> rcases hv with g | g <;> rw [e, g] <;> decide
theorem and_same01 {v : Int} (hv : is01 v) : bits .and .i64 v v = v := by
  rw [and_01 hv hv]
  unfold is01 at hv
  split <;> omega
theorem leafV_set {n : NetL} (h : NetOkP n) (st : List Int) (inp : Int) (i : Nat) (y : Int) : leafV n (st.set i y) inp = (leafV n st inp).set (fsq n + i) (bits .and .i64 y 1) := by
  have hq := h.fsq
  have e : fsq n = (([0] : List Int) ++ (List.range n.inputs.toNat).map (bitI inp)).length := by simp; unfold fsq at *; omega
  unfold leafV
  rw [List.map_set, List.set_append_right _ _ (by omega), show fsq n + i - (([0] : List Int) ++ (List.range n.inputs.toNat).map (bitI inp)).length = i by omega]
theorem getD_set_self {α : Type} [Inhabited α] {X : List α} {i : Nat} {y : α} (h : i < X.length) : (X.set i y).getD i default = y := by simp [List.getD_eq_getElem?_getD, h]
theorem getD_set_ne {α : Type} [Inhabited α] {X : List α} {i j : Nat} {y : α} (h : j ≠ i) : (X.set i y).getD j default = X.getD j default := by simp [List.getD_eq_getElem?_getD, List.getElem?_set_ne (fun e => h e.symm)]
theorem bw_run {n m : NetL} {s : Int} (h : bwO n s = some m) (ins : List Int) : runL m ins = runL n ins := by
  have hmok := bwO_ok h
  unfold bwO at h
  split at h
  · rename_i hc
    split at h
    · cases h
    · rename_i hneg
      cases hT : bwT n s n.ands.length with
      | none => rw [hT] at h; cases h
      | some T =>
        rw [hT] at h
        have h : some (bwN n s T) = some m := h
        injection h with h
        have hok := hc.1
        have r := bwT_ok hc hneg (Nat.le_refl _) hT
        have hn := hok.nums
        have hq := hok.fsq
        have hf2 := hn.f2
        have hn1 := hn.n1
        have rl := r.len
        have f1 := r.b.f1
        have f2 := r.b.alen
        have hcn := hok.count
        have hs0 := hc.2.1
        have hsl : s.toNat < n.seqs.length := by omega
        obtain ⟨hil, hi1, hi2⟩ := bwI_lit hc
        obtain ⟨hK1, hK2⟩ := bwK_lt hc
        have hV01 := bwV_01 hc
        have hb0 := bw_bld hok hc.2.2.2.1
        obtain ⟨l1, l2⟩ := bw_two hok
        have hms : m.seqs = (mapS n T.2).set s.toNat ⟨0, (n.seqs.getD s.toNat default).init, [0]⟩ ++ [⟨0, bwV n s, [litV T.2 (bwA n s).1]⟩, ⟨0, bwV n s, [litV T.2 (bwA n s).2]⟩] := by rw [← h]; rfl
        have hmi : m.inputs = n.inputs := by rw [← h]; rfl
        have hma : m.ands = T.1 := by rw [← h]; rfl
        have hmo : m.outs = mapL T.2 n.outs := by rw [← h]; rfl
        have hmsl : ((mapS n T.2).set s.toNat (⟨0, (n.seqs.getD s.toNat default).init, [0]⟩ : SeqL)).length = n.seqs.length := by rw [List.length_set, mapS_len]
        refine run_sim (fun st st' => stP n st ∧ ∃ y g1 g2, (is01 y ∧ is01 g1 ∧ is01 g2) ∧ st' = st.set s.toNat y ++ [g1, g2] ∧ bitX (bits .and .i64 g1 g2) (bwI n s) = st.getD s.toNat default) ⟨start_stP hok, (n.seqs.getD s.toNat default).init, bwV n s, bwV n s, ⟨hi2, hV01, hV01⟩, ?_, ?_⟩ ?_
        · show m.seqs.map SeqL.init = _
          rw [hms, List.map_append, List.map_set]
          congr 2
          unfold mapS startL
          rw [List.map_map]
          rfl
        · rw [and_same01 hV01]
          unfold bwV
          rw [bitX_twice hi2]
          unfold startL
          rw [map_getD hsl]
        · rintro st st' inp ⟨hs, y, g1, g2, ⟨hy, hg1, hg2⟩, rfl, hrel⟩
          have hst01 : is01 (st.getD s.toNat default) := flop_01 hs hsl hc.2.2.1
          have hU := leafV_len hok hs.1 inp
          have hU1 := leafV_01 n st inp
          obtain ⟨U', hU'⟩ : ∃ U', U' = (leafV n st inp).set (fsq n + s.toNat) (bits .and .i64 y 1) ++ [g1, g2] := ⟨_, rfl⟩
          have hl' : leafV m (st.set s.toNat y ++ [g1, g2]) inp = U' := by
            rw [snoc_leaf n m hmi, leafV_set hok, hU']
            congr 1
            show [bits .and .i64 g1 1, bits .and .i64 g2 1] = _
            rw [and1_of01 hg1, and1_of01 hg2]
          have hU'l : U'.length = (firstAndL n + 2).toNat := by rw [hU']; simp; omega
          have hU'1 : All01 U' := by rw [← hl']; exact leafV_01 _ _ _
          have hU'0 : U'.getD 0 default = 0 := by rw [← hl']; exact leafV_0 _ _ _
          have hsetl : ((leafV n st inp).set (fsq n + s.toNat) (bits .and .i64 y 1)).length = fst_ n := by rw [List.length_set]; exact hU
          have hG1 : litV U' (2 * firstAndL n) = g1 := by
            rw [litV_if hU'1, if_pos (by omega), show (2 * firstAndL n / 2).toNat = fst_ n by omega, hU', ← hsetl]
            have := getD_right (A := (leafV n st inp).set (fsq n + s.toNat) (bits .and .i64 y 1)) (B := [g1, g2]) (i := 0)
            rw [Nat.add_zero] at this
            exact this
          have hG2 : litV U' (2 * firstAndL n + 2) = g2 := by
            rw [litV_if hU'1, if_pos (by omega), show ((2 * firstAndL n + 2) / 2).toNat = fst_ n + 1 by omega, hU', ← hsetl]
            exact getD_right (A := (leafV n st inp).set (fsq n + s.toNat) (bits .and .i64 y 1)) (B := [g1, g2]) (i := 1)
          have hlow : ∀ k, k < fst_ n → k ≠ fsq n + s.toNat → U'.getD k default = (leafV n st inp).getD k default := fun k hk hne => by
            rw [hU', getD_left (by omega), getD_set_ne hne]
          have hP : litV (valA U' (bwP n).1) (bwP n).2 = bits .and .i64 g1 g2 := by
            have := addC_val hU'l hU'1 hU'0 hb0 (l1.mono (by simp)) (l2.mono (by simp)) (show 0 ≤ (addC (firstAndL n + 2) [] (2 * firstAndL n) (2 * firstAndL n + 2)).2 from Int.not_lt.1 hneg)
            have e : litV (valA U' (bwP n).1) (bwP n).2 = bits .and .i64 (litV U' (2 * firstAndL n)) (litV U' (2 * firstAndL n + 2)) := this
            rw [e, hG1, hG2]
          have hstart := bw_start hc hneg
          have hPlit : 0 ≤ (bwP n).2 ∧ (bwP n).2 ≤ 9223372036854775807 := by
            rcases hb0.addLit (l1.mono (by simp)) (l2.mono (by simp)) with h1 | ⟨h1, _⟩
            · have h1 : litP (bwP n).2 (firstAndL n + 2 + (bwP n).1.length) := h1
              unfold litP at h1
              have := hstart.b.alen
              have h3 : (bwP n).1.length ≤ 300 := this
              omega
            · have : (bwP n).2 = -1 := by unfold bwP; rw [h1]
              omega
          have hV : valsL n st inp = valA (leafV n st inp) n.ands := valsL_eq hok hs.1 inp
          have hix : (1 + n.inputs + s).toNat = fsq n + s.toNat := by omega
          have sim := raTo_sim hok hU hU1 hU'l hU'1 hU'0 hstart (show litP 0 (firstAndL n + 2) by unfold litP; omega) (fun k hk => by
              show litV (valA U' (bwP n).1) (((leafL n).set (1 + n.inputs + s).toNat (bitX (bwP n).2 (bwI n s))).getD k default) = _
              rw [hix]
              by_cases hks : k = fsq n + s.toNat
              · subst hks
                rw [getD_set_self (by rw [leafL_len]; exact hk), litV_bitX (valA_01 _ hU'1) hPlit.1 hPlit.2, hP, hrel, leafV_seq hok (by rw [hs.1]; exact hsl), and1_of01 hst01]
              · rw [getD_set_ne hks, leafL_val (valA_01 _ hU'1) hk, valA_low (by omega)]
                exact hlow k hk hks) (fun i hi he => by omega) n.ands.length (Nat.le_refl _) T hT
          have hV' : valsL m (st.set s.toNat y ++ [g1, g2]) inp = valA U' T.1 := by
            rw [valsL_eq hmok (by rw [hms, List.length_append, List.length_append, hmsl, List.length_set, hs.1]; rfl), hl', hma]
          have hlit : ∀ l, litP l (nodesL n) → litV (valsL m (st.set s.toNat y ++ [g1, g2]) inp) (litV T.2 l) = litV (valsL n st inp) l := fun l hl => by
            have hln := hl.nat hn
            refine litV_comp (valsL_01 _ _ _) (valsL_01 _ _ _) (k := firstAndL n + 2 + T.1.length) (by omega) (r.b.tok _ (by omega)) ?_
            rw [hV', hV]
            exact sim _ (by omega)
          have hroot : ∀ x, x ∈ rootsL n → litV (valsL m (st.set s.toNat y ++ [g1, g2]) inp) (litV T.2 x) = litV (valsL n st inp) x := fun x hx => hlit x (hok.root x hx)
          rw [rootsL_eq] at hroot
          have hpin : ∀ i, i < n.seqs.length → packL (valsL m (st.set s.toNat y ++ [g1, g2]) inp) (mapL T.2 (n.seqs.getD i default).ins) = packL (valsL n st inp) (n.seqs.getD i default).ins := fun i hi => packL_comp fun l hl => hroot l (List.mem_append_right _ (List.mem_flatMap.2 ⟨_, getD_mem hi, hl⟩))
          have hml : m.seqs.length = n.seqs.length + 2 := by rw [hms, List.length_append, hmsl]; rfl
          obtain ⟨V', hVd⟩ : ∃ V', V' = valsL m (st.set s.toNat y ++ [g1, g2]) inp := ⟨_, rfl⟩
          rw [← hVd] at hlit hroot hpin
          have hV'1 : All01 V' := by rw [hVd]; exact valsL_01 _ _ _
          have hsl' : (st.set s.toNat y).length = n.seqs.length := by rw [List.length_set]; exact hs.1
          have one : ∀ g L, is01 g → seqNextL 0 g (packL V' [L]) = litV V' L := fun g L hg => by
            have hv1 := litV_01 hV'1 L
            unfold is01 at hg hv1
            unfold seqNextL
            rw [if_pos ⟨rfl, by omega⟩, packL_one rfl]
            show litV V' L % 2 = _
            omega
          have e0 : nextL m (st.set s.toNat y ++ [g1, g2]) inp = nextTo m (st.set s.toNat y ++ [g1, g2]) V' n.seqs.length ++ [nextAt m (st.set s.toNat y ++ [g1, g2]) V' n.seqs.length, nextAt m (st.set s.toNat y ++ [g1, g2]) V' (n.seqs.length + 1)] := by
            unfold nextL
            rw [hml, ← hVd]
            show (nextTo m _ V' n.seqs.length ++ [_]) ++ [_] = _
            rw [List.append_assoc]
            rfl
          have ea : nextAt m (st.set s.toNat y ++ [g1, g2]) V' n.seqs.length = litV (valsL n st inp) (bwA n s).1 := by
            have hat : m.seqs.getD n.seqs.length default = ⟨0, bwV n s, [litV T.2 (bwA n s).1]⟩ := by
              rw [hms, ← hmsl]
              have := getD_right (A := (mapS n T.2).set s.toNat (⟨0, (n.seqs.getD s.toNat default).init, [0]⟩ : SeqL)) (B := [⟨0, bwV n s, [litV T.2 (bwA n s).1]⟩, ⟨0, bwV n s, [litV T.2 (bwA n s).2]⟩]) (i := 0)
              rw [Nat.add_zero] at this
              exact this
            have hsx : (st.set s.toNat y ++ [g1, g2]).getD n.seqs.length default = g1 := by
              rw [← hsl']
              have := getD_right (A := st.set s.toNat y) (B := [g1, g2]) (i := 0)
              rw [Nat.add_zero] at this
              exact this
            unfold nextAt
            rw [hat, hsx, one _ _ hg1]
            exact hlit _ ((hok.andP (show (bwI n s / 2 - firstAndL n).toNat < n.ands.length by omega)).1.mono (by omega))
          have eb : nextAt m (st.set s.toNat y ++ [g1, g2]) V' (n.seqs.length + 1) = litV (valsL n st inp) (bwA n s).2 := by
            have hat : m.seqs.getD (n.seqs.length + 1) default = ⟨0, bwV n s, [litV T.2 (bwA n s).2]⟩ := by
              rw [hms, ← hmsl]
              exact getD_right (A := (mapS n T.2).set s.toNat (⟨0, (n.seqs.getD s.toNat default).init, [0]⟩ : SeqL)) (B := [⟨0, bwV n s, [litV T.2 (bwA n s).1]⟩, ⟨0, bwV n s, [litV T.2 (bwA n s).2]⟩]) (i := 1)
            have hsx : (st.set s.toNat y ++ [g1, g2]).getD (n.seqs.length + 1) default = g2 := by
              rw [← hsl']
              exact getD_right (A := st.set s.toNat y) (B := [g1, g2]) (i := 1)
            unfold nextAt
            rw [hat, hsx, one _ _ hg2]
            exact hlit _ ((hok.andP (show (bwI n s / 2 - firstAndL n).toNat < n.ands.length by omega)).2.mono (by omega))
          have ey : nextAt m (st.set s.toNat y ++ [g1, g2]) V' s.toNat = litV V' 0 := by
            have hat : m.seqs.getD s.toNat default = ⟨0, (n.seqs.getD s.toNat default).init, [0]⟩ := by
              rw [hms, getD_left (by rw [hmsl]; exact hsl), getD_set_self (by rw [mapS_len]; exact hsl)]
            have hsx : (st.set s.toNat y ++ [g1, g2]).getD s.toNat default = y := by
              rw [getD_left (by rw [hsl']; exact hsl), getD_set_self (by rw [hs.1]; exact hsl)]
            unfold nextAt
            rw [hat, hsx, one _ _ hy]
          refine ⟨?_, next_stP hs inp, litV V' 0, litV (valsL n st inp) (bwA n s).1, litV (valsL n st inp) (bwA n s).2, ⟨litV_01 hV'1 _, litV_01 (valsL_01 _ _ _) _, litV_01 (valsL_01 _ _ _) _⟩, ?_, ?_⟩
          · unfold outL
            rw [hmo, ← hVd]
            exact packL_comp fun l hl => hroot l (List.mem_append_left _ hl)
          · rw [e0, ea, eb]
            congr 1
            refine list_eq (by rw [nextTo_len, List.length_set]; exact (nextTo_len _ _ _ _).symm) fun i hi => ?_
            rw [nextTo_len] at hi
            rw [nextTo_get _ _ _ hi]
            by_cases his : i = s.toNat
            · subst his
              rw [getD_set_self (by show _ < (nextTo _ _ _ _).length; rw [nextTo_len]; exact hsl), ey]
            · rw [getD_set_ne his]
              unfold nextL
              rw [nextTo_get _ _ _ hi]
              unfold nextAt
              rw [hms, getD_left (by rw [hmsl]; exact hi), getD_left (by rw [hsl']; exact hi), getD_set_ne his, getD_set_ne his, show (mapS n T.2).getD i default = _ from map_getD (f := fun s : SeqL => (⟨s.kind, s.init, mapL T.2 s.ins⟩ : SeqL)) hi]
              rw [hpin i hi]
          · rw [flop_next hok hs inp hsl hc.2.2.1]
            have hat := valA_at (U := leafV n st inp) (A := n.ands) (f := firstAndL n) (by omega) (by omega) (i := (bwI n s / 2 - firstAndL n).toNat) (by omega) (hok.andP (by omega))
            rw [← hV] at hat
            show bitX (bits .and .i64 (litV (valsL n st inp) (n.ands.getD (bwI n s / 2 - firstAndL n).toNat default).1) (litV (valsL n st inp) (n.ands.getD (bwI n s / 2 - firstAndL n).toNat default).2)) (bwI n s) = litV (valsL n st inp) (bwI n s)
            rw [← hat, show (firstAndL n).toNat + (bwI n s / 2 - firstAndL n).toNat = (bwI n s / 2).toNat by omega]
            rfl
  · cases h
theorem rbL_run {n : NetL} (_ : NetOkP n) (k : Int) (ins : List Int) : runL (rbL n k).1 ins = runL n ins := by
  unfold rbL
  cases h : bwO n k with
  | none => rfl
  | some m => rw [← bw_run h ins]; exact prune_run (bwO_ok h) ins
end Go.Xw
