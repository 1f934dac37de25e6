/- The storage's invariant is kept by an answer; what it says of the history. Plain: no program is walked here. -/
import Derived.Test.YtldjodgpbnkleaaStoB
import Derived.Test.YtldjodgpbnkleaaDurH
namespace Go.Proofs.Ytldjodgpbnkleaa

theorem findO_of {os : List Opr} (h : (os.map (·.id)).Nodup) {o : Opr} (ho : o ∈ os) {x : Int} (hx : o.id = x) : findO os x = some o := by
  unfold findO
  rcases hf : os.find? (fun o => o.id == x) with _ | t
  · have := List.find?_eq_none.1 hf o ho
    simp [hx] at this
  · have ht := List.find?_some hf
    simp only [beq_iff_eq] at ht
    rw [hf, id_inj h (List.mem_of_find?_eq_some hf) ho (by omega)]

theorem SOK.done {st : SSt} (h : SOK st) {k : Nat} {s : SOp} (hs : st.ops[k]? = some s) (hx : s.ex = true) (hd : s.dn = false) : SOK (stDone st k s) := by
  obtain ⟨os, era, hps, hos, hch, hop, hnd⟩ := h
  obtain ⟨o, ho⟩ := hop s (List.mem_of_getElem? hs)
  have hod := ho.dn hd
  have hoera := ho.era
  have hE := ho.ex hx
  obtain ⟨e, he⟩ : ∃ e, e = doneE s := ⟨_, rfl⟩
  have eop : e.op = o.id := by rw [he, ho.id]; rfl
  have ewr : e.write = o.write := by rw [he, ho.wr]; rfl
  have ereg : e.reg = o.reg := by rw [he, ho.reg]; rfl
  have eba : e.barrier = o.barrier := by rw [he, ho.ba]; rfl
  have ew : o.write = true → e.val = o.val := by
    intro h1
    have h2 : s.call.write = true := by rw [← ho.wr]; exact h1
    rw [he, ho.val h2]
    simp [doneE, h2]
  have er : o.write = false → e.val = s.res := by
    intro h1
    have h2 : s.call.write = false := by rw [← ho.wr]; exact h1
    rw [he]
    simp [doneE, h2]
  have ev : (e.write = false ∧ e.barrier = false) ∨ e.val = o.val := by
    rcases h1 : o.write with _ | _
    · rcases h2 : o.barrier with _ | _
      · exact .inl ⟨by rw [ewr, h1], by rw [eba, h2]⟩
      · right
        have := ho.fl (by rw [← ho.wr]; exact h1) (by rw [← ho.ba]; exact h2)
        rw [er h1]
        omega
    · exact .inr (ew h1)
  have hps' := parseS_done hps (findO_of hos.nd ho.mem eop.symm) hod ho.era (by rw [he]; rfl) ewr ereg eba ev
  simp only at hps'
  have hps2 : parseS (stDone st k s).l = some (os.map (Opr.fin e st.l.length), era) := by
    show parseS (st.l ++ [doneE s]) = _
    rw [← he]
    exact hps'
  obtain ⟨o', ho'⟩ : ∃ o', o' = ({ o with val := e.val, done := (st.l.length : Int) } : Opr) := ⟨_, rfl⟩
  have hfo : Opr.fin e st.l.length o = o' := by unfold Opr.fin; rw [if_pos eop.symm, ho']
  have hfa : ∀ a ∈ os, a ≠ o → Opr.fin e st.l.length a = a := by
    intro a h1 h2
    unfold Opr.fin
    rw [if_neg]
    intro h3
    exact h2 (id_inj hos.nd h1 ho.mem (by omega))
  have hmem : ∀ a ∈ os.map (Opr.fin e st.l.length), (a ∈ os ∧ a ≠ o) ∨ a = o' := by
    intro a h1
    obtain ⟨b, hb, rfl⟩ := List.mem_map.1 h1
    by_cases hbo : b = o
    · subst hbo
      exact .inr hfo
    · rw [hfa b hb hbo]
      exact .inl ⟨hb, hbo⟩
  have hin : ∀ a ∈ os, a ≠ o → a ∈ os.map (Opr.fin e st.l.length) := fun a h1 h2 => List.mem_map.2 ⟨a, h1, hfa a h1 h2⟩
  have hin' : o' ∈ os.map (Opr.fin e st.l.length) := List.mem_map.2 ⟨o, ho.mem, hfo⟩
  have p1 : o'.id = o.id := by rw [ho']
  have p2 : o'.write = o.write := by rw [ho']
  have p3 : o'.reg = o.reg := by rw [ho']
  have p4 : o'.barrier = o.barrier := by rw [ho']
  have p5 : o'.era = o.era := by rw [ho']
  have p6 : o'.call = o.call := by rw [ho']
  have p7 : o'.done = st.l.length := by rw [ho']
  have p8 : o'.val = e.val := by rw [ho']
  have pk : o.write = true → key o' = key o := by
    intro h1
    simp only [key, p3, p8, ew h1]
  have pv : o.write = true → o'.val = o.val := fun h1 => by rw [p8, ew h1]
  clear ho' he
  have hocd := hos.cd o ho.mem
  have hL := fun a ha => (hos.cd a ha).2
  have hidn : ((os.map (Opr.fin e st.l.length)).map (·.id)) = os.map (·.id) := by
    rw [List.map_map]
    refine List.map_congr_left fun a _ => ?_
    exact fin_id _ _ _
  have hos' : OSI (os.map (Opr.fin e st.l.length)) era (st.l.length + 1) st.n := by
    refine ⟨?_, ?_, ?_, ?_, ?_, by rw [hidn]; exact hos.nd⟩
    · intro a h1
      rcases hmem a h1 with ⟨h1, -⟩ | rfl
      · exact hos.id a h1
      · rw [p1]; exact hos.id o ho.mem
    · intro a h1 h2
      rcases hmem a h1 with ⟨h1, -⟩ | rfl
      · exact hos.val a h1 h2
      · rw [p2] at h2
        rw [p1, pv h2]
        exact hos.val o ho.mem h2
    · intro a h1
      rcases hmem a h1 with ⟨h1, -⟩ | rfl
      · have := hos.cd a h1
        omega
      · omega
    · intro a h1
      rcases hmem a h1 with ⟨h1, -⟩ | rfl
      · exact hos.er a h1
      · rw [p5]; exact hos.er o ho.mem
    · intro a h1 b h2 h3 h4
      have hbc : b.call < st.l.length := by
        rcases hmem b h2 with ⟨h2, -⟩ | rfl
        · exact (hos.cd b h2).2.1
        · omega
      rcases hmem a h1 with ⟨h1, -⟩ | rfl
      · rcases hmem b h2 with ⟨h2, -⟩ | rfl
        · exact hos.ord a h1 b h2 h3 h4
        · rw [p5]
          exact hos.ord a h1 o ho.mem h3 (by omega)
      · omega
  -- a write of the new list is a write of the old one with the same key
  have hold : ∀ w ∈ os.map (Opr.fin e st.l.length), w.write = true → ∃ v ∈ os, v.write = true ∧ key v = key w ∧ v.era = w.era ∧ v.call = w.call ∧ v.reg = w.reg ∧ v.barrier = w.barrier ∧ (v.done = w.done ∧ v = w ∨ v = o ∧ w = o') := by
    intro w h1 h2
    rcases hmem w h1 with ⟨h1, -⟩ | rfl
    · exact ⟨w, h1, h2, rfl, rfl, rfl, rfl, rfl, .inl ⟨rfl, rfl⟩⟩
    · rw [p2] at h2
      exact ⟨o, ho.mem, h2, (pk h2).symm, p5.symm, p6.symm, p3.symm, p4.symm, .inr ⟨rfl, rfl⟩⟩
  have hnew : ∀ v ∈ os, v.write = true → ∃ w ∈ os.map (Opr.fin e st.l.length), w.write = true ∧ key w = key v ∧ w.era = v.era ∧ w.call = v.call ∧ (w.done = v.done ∨ w.done = st.l.length) := by
    intro v h1 h2
    by_cases hvo : v = o
    · subst hvo
      exact ⟨o', hin', by rw [p2]; exact h2, pk h2, p5, p6, .inr p7⟩
    · exact ⟨v, hin v h1 hvo, h2, rfl, rfl, rfl, .inl rfl⟩
  have hsafe : st.safe ≤ (stDone st k s).safe := by
    show st.safe ≤ if s.call.barrier then max st.safe s.at_ else st.safe
    split <;> omega
  have hsafb : o.barrier = true → s.at_ ≤ (stDone st k s).safe := by
    intro h1
    show s.at_ ≤ if s.call.barrier then max st.safe s.at_ else st.safe
    rw [← ho.ba, h1]
    simp
    omega
  have hcap : (stDone st k s).safe ≤ st.ch.length := by
    show (if s.call.barrier then max st.safe s.at_ else st.safe) ≤ _
    have := hE.le
    have := hch.sf
    split <;> omega
  -- the value that the read returned
  have hread : ansB o' = true → o.write = false ∧ o.barrier = false ∧ o'.val = valC (st.ch.take s.at_) o.reg := by
    intro h1
    simp only [ansB, p2, p4, Bool.and_eq_true, Bool.not_eq_true'] at h1
    refine ⟨h1.1.1, h1.1.2, ?_⟩
    rw [p8, er h1.1.1]
    exact hE.res h1.1.1 h1.1.2
  refine ⟨_, _, hps2, by simpa [stDone] using hos', ?_, ?_, ?_⟩
  · show CHI _ era st.ch (stDone st k s).safe
    refine ⟨?_, hch.nd, ?_, ?_, ?_, ?_, hcap, ?_, ?_, ?_, ?_⟩
    · intro c h1
      obtain ⟨w, h2, h3, rfl⟩ := hch.src c h1
      obtain ⟨w', h4, h5, h6, -⟩ := hnew w h2 h3
      exact ⟨w', h4, h5, h6⟩
    · intro w h1 h2 h3 h4
      obtain ⟨v, hv, hvw, hvk, hve, -, -, -, ⟨hvd, -⟩ | ⟨rfl, rfl⟩⟩ := hold w h1 h2
      · rw [← hvk]
        exact hch.i1 v hv hvw (by omega) (by omega)
      · obtain ⟨j, -, hj⟩ := hE.wr hvw
        rw [← hvk]
        exact List.mem_of_getElem? hj
    · intro i j s1 h1 w h2 h3 h4 h5 h6 h7
      obtain ⟨v, hv, hvw, hvk, hve, -⟩ := hold w h2 h4
      obtain ⟨t, ht, htw, htk, hte, -⟩ := hold s1 h1 h3
      exact hch.i2 i j t ht v hv htw hvw (by rw [htk]; exact h5) (by rw [hvk]; exact h6) (by omega)
    · intro i s1 h1 w h2 h3 h4 h5 h6 h7 h8
      obtain ⟨t, ht, htw, htk, hte, htc, -⟩ := hold s1 h1 h3
      obtain ⟨v, hv, hvw, hvk, hve, -, -, -, ⟨hvd, -⟩ | ⟨rfl, rfl⟩⟩ := hold w h2 h4
      · rw [← hvk]
        exact hch.i4 i t ht v hv htw hvw (by rw [htk]; exact h5) (by omega) (by omega) (by omega)
      · have := (hos.cd t ht).2.1
        omega
    · intro w h1 h2 h3 h4
      obtain ⟨v, hv, hvw, hvk, hve, -, -, hvb, ⟨hvd, hvw'⟩ | ⟨rfl, rfl⟩⟩ := hold w h1 h2
      · rw [← hvk]
        have old : (v.barrier = true ∨ ∃ o ∈ os, o.barrier = true ∧ 0 ≤ o.done ∧ o.era = v.era ∧ v.done < o.call) → ∃ j, j < (stDone st k s).safe ∧ st.ch[j]? = some (key v) := by
          intro h5
          obtain ⟨j, hj, h6⟩ := hch.i5 v hv hvw (by omega) h5
          exact ⟨j, by omega, h6⟩
        rcases h4 with h4 | ⟨b, hb, hb1, hb2, hb3, hb4⟩
        · exact old (.inl (by rw [hvb]; exact h4))
        · rcases hmem b hb with ⟨hb, -⟩ | rfl
          · exact old (.inr ⟨b, hb, hb1, hb2, by omega, by omega⟩)
          · rw [p4] at hb1
            obtain ⟨j, hj, h6⟩ := hE.pr v hv hvw (by omega) (by omega) (by omega)
            have := hsafb hb1
            exact ⟨j, by omega, h6⟩
      · rcases h4 with h4 | ⟨b, hb, hb1, hb2, hb3, hb4⟩
        · obtain ⟨j, hj, h6⟩ := hE.wr hvw
          have := hsafb (by rw [hvb]; exact h4)
          exact ⟨j, by omega, by rw [← hvk]; exact h6⟩
        · rcases hmem b hb with ⟨hb, -⟩ | rfl
          · have := (hos.cd b hb).2.1
            omega
          · omega
    · intro r h1 h2
      rcases hmem r h1 with ⟨h1, -⟩ | rfl
      · rcases hch.i8a r h1 h2 with h3 | ⟨t, ht, htw, htk, htc⟩
        · exact .inl h3
        · obtain ⟨w, hw, hww, hwk, -, hwc, -⟩ := hnew t ht htw
          exact .inr ⟨w, hw, hww, hwk.trans htk, by omega⟩
      · obtain ⟨h3, h4, h5⟩ := hread h2
        rcases valC_cases (st.ch.take s.at_) o.reg with ⟨h6, -⟩ | ⟨j, h6, h7, -⟩
        · exact .inl (by rw [h5, h6])
        · right
          obtain ⟨h8, h9⟩ := take_at.1 h7
          obtain ⟨t, ht, htw, htk⟩ := hch.src _ (List.mem_of_getElem? h9)
          obtain ⟨w, hw, hww, hwk, -, hwc, -⟩ := hnew t ht htw
          refine ⟨w, hw, hww, ?_, ?_⟩
          · rw [hwk, htk]
            simp only [key, p3, h5]
          · have := (hos.cd t ht).2.1
            omega
    · intro r h1 h2 w h3 h4 h5 h6 h7 h8
      obtain ⟨v, hv, hvw, hvk, hve, hvc, hvr, -, hvd⟩ := hold w h3 h4
      rcases hmem r h1 with ⟨h1, hro⟩ | rfl
      · have hrc := (hos.cd r h1).2.1
        rcases hvd with ⟨hvd, -⟩ | ⟨rfl, rfl⟩
        · rw [← hvk, ← hve]
          refine hch.i8 r h1 h2 v hv hvw (by omega) (by omega) (by omega) fun t ht htw htk => ?_
          obtain ⟨t', ht', htw', htk', hte', htc', htd'⟩ := hnew t ht htw
          have hvcl := (hos.cd v hv).2.1
          rcases h8 t' ht' htw' (htk'.trans htk) with ⟨h9, h10⟩ | h9
          · rcases htd' with h11 | h11
            · exact .inl ⟨by omega, by omega⟩
            · omega
          · exact .inr (by omega)
        · omega
      · obtain ⟨h9, h10, h11⟩ := hread h2
        have hvo : v = w := by
          rcases hvd with ⟨-, h⟩ | ⟨rfl, -⟩
          · exact h
          · rw [h9] at hvw; cases hvw
        subst hvo
        rw [p5, hoera]
        -- if it were among the changes that the read saw, it would be the last one or lie before it
        have hno : ∀ i, i < s.at_ → st.ch[i]? ≠ some (key v) := by
          intro i hi hiv
          rcases valC_cases (st.ch.take s.at_) o.reg with ⟨-, h12⟩ | ⟨j, -, h13, h14⟩
          · refine h12 (key v) (List.mem_of_getElem? (take_at.2 ⟨hi, hiv⟩)) ?_
            simp only [key]
            rw [h5, p3]
          · obtain ⟨h15, h16⟩ := take_at.1 h13
            obtain ⟨t, ht, htw, htk⟩ := hch.src _ (List.mem_of_getElem? h16)
            have htk' : key t = key r := by rw [htk]; simp only [key, p3, h11]
            obtain ⟨t', ht', htw', htk2, hte', htc', htd'⟩ := hnew t ht htw
            have hlt : j < i := by
              rcases h8 t' ht' htw' (htk2.trans htk') with ⟨h17, h18⟩ | h17
              · have hvcl := (hos.cd v hv).2.1
                have htd : t.done = t'.done := by
                  rcases htd' with h19 | h19
                  · exact h19.symm
                  · omega
                by_cases hee : t.era = v.era
                · obtain ⟨j', hj', h19⟩ := hch.i4 i v hv t ht hvw htw hiv hee (by omega) (by omega)
                  have := nodup_at hch.nd h19 (by rw [htk]; exact h16)
                  omega
                · have := hos.ord t ht v hv (by omega) (by omega)
                  exact hch.i2 i j v hv t ht hvw htw hiv (by rw [htk]; exact h16) (by omega)
              · exact hch.i2 i j v hv t ht hvw htw hiv (by rw [htk]; exact h16) (by omega)
            exact h14 i _ hlt (take_at.2 ⟨hi, hiv⟩) (by simp only [key]; rw [h5, p3])
        have hver := hos.er v hv
        constructor
        · intro hve'
          obtain ⟨j, hj, h12⟩ := hE.pr v hv hvw (by omega) (by omega) (by omega)
          exact hno j hj h12
        · intro hin2
          obtain ⟨j, hj⟩ := List.getElem?_of_mem hin2
          by_cases hve' : v.era = era
          · obtain ⟨j', hj', h12⟩ := hE.pr v hv hvw hve' (by omega) (by omega)
            exact hno j' hj' h12
          · exact hno j (hE.old j v hv hvw hj (by omega)) hj
    · intro r h1 h2 t h3 h4 h5 h6
      obtain ⟨v, hv, hvw, hvk, hve, -⟩ := hold t h3 h4
      rcases hmem r h1 with ⟨h1, -⟩ | rfl
      · obtain ⟨j, hj, h7⟩ := hch.i9 r h1 h2 v hv hvw (hvk.trans h5) (by omega)
        exact ⟨j, by omega, by rw [← hvk]; exact h7⟩
      · obtain ⟨h7, h8, h9⟩ := hread h2
        have hv0 := hos.val v hv hvw
        have hkv : key v = (o.reg, valC (st.ch.take s.at_) o.reg) := by
          rw [hvk, h5]
          simp only [key, p3, h9]
        rcases valC_cases (st.ch.take s.at_) o.reg with ⟨h10, -⟩ | ⟨j, -, h10, -⟩
        · have : v.val = 0 := by
            have := congrArg Prod.snd hkv
            simp only [key] at this
            omega
          omega
        · obtain ⟨-, h11⟩ := take_at.1 h10
          rw [← hkv] at h11
          have := hch.i10 j v hv hvw h11 (by omega)
          exact ⟨j, by omega, by rw [← hvk]; exact h11⟩
    · intro j w h1 h2 h3 h4
      obtain ⟨v, hv, hvw, hvk, hve, -⟩ := hold w h1 h2
      have := hch.i10 j v hv hvw (by rw [hvk]; exact h3) (by omega)
      omega
  · intro s' hs'
    show ∃ o, OPI _ era st.ch s' o
    have hext : ∀ w ∈ os.map (Opr.fin e st.l.length), w.write = true → ∀ a ∈ os, w.done < a.call → 0 ≤ w.done → w ∈ os := by
      intro w h1 h2 a ha h3 h4
      rcases hmem w h1 with ⟨h1, -⟩ | rfl
      · exact h1
      · have := (hos.cd a ha).2.1
        omega
    have hEX : ∀ (s2 : SOp) (o2 o3 : Opr), o2 ∈ os → EXI os era st.ch s2 o2 → o3.write = o2.write → o3.barrier = o2.barrier → o3.reg = o2.reg → o3.call = o2.call → (o2.write = true → key o3 = key o2) → EXI (os.map (Opr.fin e st.l.length)) era st.ch s2 o3 := by
      intro s2 o2 o3 hm2 h q1 q2 q3 q4 q5
      refine ⟨h.le, fun h1 => ?_, ?_, ?_, fun h1 h2 => by rw [q3]; exact h.res (by rw [← q1]; exact h1) (by rw [← q2]; exact h2)⟩
      · rw [q1] at h1
        rw [q5 h1]
        exact h.wr h1
      · intro w h1 h2 h3 h4 h5
        exact h.pr w (hext w h1 h2 o2 hm2 (by omega) h4) h2 h3 h4 (by omega)
      · intro j w h1 h2 h3 h4
        obtain ⟨v, hv, hvw, hvk, hve, -⟩ := hold w h1 h2
        exact h.old j v hv hvw (by rw [hvk]; exact h3) (by omega)
    obtain ⟨i, hi⟩ := List.getElem?_of_mem hs'
    rcases set_at hi with ⟨-, rfl⟩ | ⟨hik, hi⟩
    · refine ⟨o', hin', by rw [p1]; exact ho.id, by rw [p5]; exact ho.era, by rw [p2]; exact ho.wr, by rw [p3]; exact ho.reg, by rw [p4]; exact ho.ba, ?_, ?_, fun h => by simp at h, fun h => by simp [hx] at h, fun _ => hEX _ o o' ho.mem ⟨hE.le, hE.wr, hE.pr, hE.old, hE.res⟩ p2 p4 p3 p6 pk⟩
      · intro h1
        have h1' : o.write = true := by rw [ho.wr]; exact h1
        rw [pv h1']
        exact ho.val h1
      · intro h1 h2
        have h3 := ho.fl h1 h2
        refine ⟨h3.1, ?_⟩
        rw [p8, er (by rw [ho.wr]; exact h1)]
        exact h3.1
    · obtain ⟨o2, h⟩ := hop s' (List.mem_of_getElem? hi)
      have hne : o2 ≠ o := by
        rintro rfl
        exact op_ne hnd hi hs hik (by rw [← h.id, ← ho.id])
      exact ⟨o2, hin o2 h.mem hne, h.id, h.era, h.wr, h.reg, h.ba, h.val, h.fl, h.dn, h.nex, fun hx' => hEX s' o2 o2 h.mem (h.ex hx') rfl rfl rfl rfl (fun _ => rfl)⟩
  · rw [show (stDone st k s).ops = st.ops.set k ⟨s.call, s.ex, true, s.res, s.at_⟩ from rfl, map_set_same (f := fun (x : SOp) => x.call.op) (x := ⟨s.call, s.ex, true, s.res, s.at_⟩) hs rfl]
    exact hnd
end Go.Proofs.Ytldjodgpbnkleaa
