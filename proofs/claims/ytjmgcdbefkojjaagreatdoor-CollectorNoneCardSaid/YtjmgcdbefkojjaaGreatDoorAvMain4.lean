/- A part of the proof: a verified reading of the model by values alone, and what is shown by it. It holds without conditions. -/
import Derived.Test.YtjmgcdbefkojjaaGreatDoorAvMain3
namespace Go.Av
open Go

variable {Γ : Par}

theorem setParams_ok {c : Cn} {nt : Nat} : ∀ (ps : List (Tmp × AV)) (us : List Value) (env env' : Env) (tmps : Array Value), setParams nt env ps = some env' → EnvRep c env tmps → tmps.size = nt →
    RepL c (ps.map (·.2)) us →
    EnvRep c env' (((ps.map (·.1)).zip us).foldl (fun t p => t.setIfInBounds p.1 p.2) tmps) ∧ (((ps.map (·.1)).zip us).foldl (fun t p => t.setIfInBounds p.1 p.2) tmps).size = nt
  | [], us, env, env', tmps, h, he, hs, hr => by simp [setParams] at h; subst h; simp [he, hs]
  | (t, a) :: ps, us, env, env', tmps, h, he, hs, hr => by
    simp only [setParams] at h
    split at h
    · rename_i env1 h1
      obtain ⟨v, us, rfl, hv, hr⟩ := hr
      obtain ⟨he1, hs1⟩ := he.put hs h1 hv
      exact setParams_ok ps us env1 env' _ h he1 hs1 hr
    · cases h

theorem zip_fold (ps : Array Tmp) (vs : Array Value) (tmps : Array Value) :
    (ps.zip vs).foldl (fun tmps (t, a) => tmps.setIfInBounds t a) tmps = ((ps.toList.zip vs.toList).foldl (fun t p => t.setIfInBounds p.1 p.2) tmps) := by
  rw [← Array.foldl_toList, Array.toList_zip]

theorem round_ok {T : Task → Res → Prop} (ih : AllT Γ T) {base l : Nat} {args : List AV} {H : Heap} {r : Res}
    (h : Q.Runs T (roundQ Γ base l args H) r) : TaskOK Γ (.round base l args H) r := by
  obtain ⟨ra, rH⟩ := r
  intro c B vs hI hG hm hargs hb
  unfold roundQ at h
  split at h
  · rename_i p fn nt env ps as body ho
    split at h
    · rename_i hlen
      split at h
      · rename_i env' henv
        rw [goto_run] at h
        obtain ⟨B2, tmps, defers, hm2, hB, he, hsz⟩ := hI.ok l _ ho
        rw [hm] at hm2; cases hm2
        have hvl : vs.size = ps.size := by have := hargs.length; simp at this; omega
        have hz2 : (ps.toList.zip args).map (·.2) = args := by rw [List.map_snd_zip]; simp [hlen]
        have hz1 : (ps.toList.zip args).map (·.1) = ps.toList := by rw [List.map_fst_zip]; simp [hlen]
        obtain ⟨he', hs'⟩ := setParams_ok (c := c) _ vs.toList _ _ tmps henv he hsz (by rw [hz2]; exact hargs)
        rw [hz1, ← zip_fold] at he' hs'
        have hrun : (Instr.yield B vs).run Γ.P c.w = .ok (.round B fn ((ps.zip vs).foldl (fun tmps (t, a) => tmps.setIfInBounds t a) tmps) as body) c.w := by
          simp [Instr.yield, Instr.getLoop, getObj, Sem.run, hB, hvl]
        obtain ⟨c', v, hp, hr, hf⟩ := ih _ _ h c _ [] (some B) hI hG he' hs' rfl hb hm
        exact ⟨c', v, hp, hr, _, _, _, _, hrun, fun cf rest => hf .normal _ (fun _ => rfl) cf rest rfl⟩
      · cases h
    · cases h
  · cases h
end Go.Av
