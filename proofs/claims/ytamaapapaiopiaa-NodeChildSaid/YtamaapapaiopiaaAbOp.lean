/- The abstract machine against the model: one operation, whichever. -/
import Derived.Test.YtamaapapaiopiaaAbOps7
set_option linter.unusedVariables false
set_option linter.unusedSimpArgs false
set_option linter.unusedSectionVars false
namespace Go.Proofs.Ytamaapapaiopiaa.Ab
open Go

def CallOk (P : Program) (call : Caller) : Prop :=
  ∀ f args s v s', call f args s = some (v, s') → funcOk P f = true → ∀ wb ι w (args' : Array Value), Sim wb ι s.heap w → All2 (VRel ι) args args'.toList →
    Calls P f args' w fun e w' => ∃ v', e = .returned v' ∧ After wb ι s.heap w s'.heap v v' w'

def operB (n : Nat) (o : Oper) : Bool := o.op.operands.toList.all (opdB n)

section
variable {P : Program} {call : Caller} {o : Oper} {a : Act} {w : World} {wb : Nat} {ι : Emb} {T : Fr} {s : St} {β : Type} {k : Value → St → Option β} {r : β}

theorem one_list {xs : List Operand} {u : Value} {l : List Value} (h : opds T xs = some (u :: l)) : ∃ x ys, xs = x :: ys ∧ opd T x = some u ∧ opds T ys = some l := by
  cases xs with
  | nil => simp [opds] at h
  | cons x xs =>
    simp only [opds, Option.bind_eq_some_iff, Option.map_eq_some_iff] at h
    obtain ⟨v1, h1, r1, h2, h4⟩ := h
    simp only [List.cons.injEq] at h4
    obtain ⟨rfl, rfl⟩ := h4
    exact ⟨x, xs, rfl, h1, h2⟩
theorem no_list {xs : List Operand} (h : opds T xs = some []) : xs = [] := by
  cases xs with
  | nil => rfl
  | cons x xs =>
    simp only [opds, Option.bind_eq_some_iff, Option.map_eq_some_iff] at h
    obtain ⟨v1, h1, r1, h2, h4⟩ := h
    cases h4

theorem list1 {xs : List Operand} {u : Value} (h : opds T xs = some [u]) : ∃ x, xs = [x] ∧ opd T x = some u := by
  obtain ⟨x, ys, rfl, h1, h2⟩ := one_list h
  exact ⟨x, by rw [no_list h2], h1⟩
theorem list2 {xs : List Operand} {u v : Value} (h : opds T xs = some [u, v]) : ∃ x y, xs = [x, y] ∧ opd T x = some u ∧ opd T y = some v := by
  obtain ⟨x, ys, rfl, h1, h2⟩ := one_list h
  obtain ⟨y, rfl, h3⟩ := list1 h2
  exact ⟨x, y, rfl, h1, h3⟩
theorem list3 {xs : List Operand} {u v q : Value} (h : opds T xs = some [u, v, q]) : ∃ x y z, xs = [x, y, z] ∧ opd T x = some u ∧ opd T y = some v ∧ opd T z = some q := by
  obtain ⟨x, ys, rfl, h1, h2⟩ := one_list h
  obtain ⟨y, z, rfl, h3, h4⟩ := list2 h2
  exact ⟨x, y, z, rfl, h1, h3, h4⟩
theorem toArr {α : Type} {c : Array α} {l : List α} (e : c.toList = l) : c = l.toArray := by rw [← e]

theorem builtin_sound {c : Call} {b : Builtin} {xs : List Value} (ho : o.op = .call c) (hc : c.callee = .builtin b) (hx : opds T c.args.toList = some xs) (h : evalBuiltin P b c.argTypes.toList xs s k = some r)
    (hs : Sim wb ι s.heap w) (hf : FrRel ι T a.tmps) (hb : c.args.toList.all (opdB a.tmps.size) = true) : ∃ v s', k v s' = some r ∧ OpOk P o a w (After wb ι s.heap w s'.heap v) := by
  unfold evalBuiltin at h
  split at h
  · -- append
    rename_i t u x y het
    obtain ⟨ox, oy, hargs, h1, h2⟩ := list2 hx
    rw [hargs] at hb
    simp at hb
    split at h
    · rename_i e kn hu1 hu2
      simp only [Option.bind_eq_some_iff] at h
      obtain ⟨n, hn, wd, hw, z, hz, ⟨v, s'⟩, hr, hk⟩ := h
      exact ⟨v, s', hk, so_appendZ ho hc (toArr hargs) (toArr het) hs hu1 hu2 hn hw hz (opd_rel h1 hf hb.1) (opd_rel h2 hf hb.2) hr⟩
    · rename_i e du hnot hu1 hu2
      simp only [Option.bind_eq_some_iff] at h
      obtain ⟨n, hn, wd, hw, z, hz, h⟩ := h
      split at h
      case isFalse => cases h
      rename_i hzl
      simp only [Option.bind_eq_some_iff] at h
      obtain ⟨⟨v, s'⟩, hr, hk⟩ := h
      exact ⟨v, s', hk, so_append ho hc (toArr hargs) (toArr het) hs hu1 hu2 (fun q hq => hnot q hq) hn hw hz hzl (opd_rel h1 hf hb.1) (opd_rel h2 hf hb.2) hr⟩
    · cases h
  · -- copy
    rename_i t u x y het
    obtain ⟨ox, oy, hargs, h1, h2⟩ := list2 hx
    rw [hargs] at hb
    simp at hb
    split at h
    · rename_i e hu1
      simp only [Option.bind_eq_some_iff] at h
      obtain ⟨n, hn, ⟨v, s'⟩, hr, hk⟩ := h
      exact ⟨v, s', hk, so_copy ho hc (toArr hargs) (toArr het) hs hu1 hn (opd_rel h1 hf hb.1) (opd_rel h2 hf hb.2) hr⟩
    · cases h
  · -- len
    rename_i t ts x het
    obtain ⟨ox, hargs, h1⟩ := list1 hx
    rw [hargs] at hb
    simp at hb
    have hts0 : c.argTypes[0]? = some t := by rw [toArr het]; rfl
    split at h
    · rename_i n e hu
      exact ⟨_, _, h, so_lenArr (u := t) ho hc (toArr hargs) rfl hts0 hs (.inl hu)⟩
    · rename_i u hu
      split at h
      · rename_i n e hu2
        exact ⟨_, _, h, so_lenArr (u := u) ho hc (toArr hargs) rfl hts0 hs (.inr ⟨hu, hu2⟩)⟩
      · cases h
    · rename_i d hu1 hu2 hd
      simp only [Option.bind_eq_some_iff] at h
      obtain ⟨v, hv, hk⟩ := h
      unfold alenV at hv
      split at hv
      case isFalse => cases hv
      rename_i hfit
      refine ⟨v, s, hk, so_len ho hc (toArr hargs) rfl hts0 hs hd ?_ (fun e => by rw [hfit] at e; cases e) (opd_rel h1 hf hb) hv⟩
      cases d <;> simp_all [lenFits]
    · cases h
  · -- cap
    rename_i t ts x het
    obtain ⟨ox, hargs, h1⟩ := list1 hx
    rw [hargs] at hb
    simp at hb
    have hts0 : c.argTypes[0]? = some t := by rw [toArr het]; rfl
    split at h
    · rename_i e hu
      simp only [Option.bind_eq_some_iff] at h
      obtain ⟨v, hv, hk⟩ := h
      exact ⟨v, s, hk, so_cap ho hc (toArr hargs) rfl hts0 hs hu (opd_rel h1 hf hb) hv⟩
    · cases h
  · rename_i x y
    obtain ⟨ox, oy, hargs, h1, h2⟩ := list2 hx
    rw [hargs] at hb
    simp at hb
    simp only [Option.bind_eq_some_iff] at h
    obtain ⟨v, hv, hk⟩ := h
    exact ⟨v, s, hk, so_min ho hc (toArr hargs) hs (opd_rel h1 hf hb.1) (opd_rel h2 hf hb.2) hv⟩
  · rename_i x y
    obtain ⟨ox, oy, hargs, h1, h2⟩ := list2 hx
    rw [hargs] at hb
    simp at hb
    simp only [Option.bind_eq_some_iff] at h
    obtain ⟨v, hv, hk⟩ := h
    exact ⟨v, s, hk, so_max ho hc (toArr hargs) hs (opd_rel h1 hf hb.1) (opd_rel h2 hf hb.2) hv⟩
  · obtain ⟨ox, oy, oz, hargs, h1, h2, h3⟩ := list3 hx
    rw [hargs] at hb
    simp at hb
    simp only [Option.bind_eq_some_iff] at h
    obtain ⟨m, hm, v, hv, hk⟩ := h
    exact ⟨v, s, hk, so_min3 ho hc (toArr hargs) hs (opd_rel h1 hf hb.1) (opd_rel h2 hf hb.2.1) (opd_rel h3 hf hb.2.2) hm hv⟩
  · obtain ⟨ox, oy, oz, hargs, h1, h2, h3⟩ := list3 hx
    rw [hargs] at hb
    simp at hb
    simp only [Option.bind_eq_some_iff] at h
    obtain ⟨m, hm, v, hv, hk⟩ := h
    exact ⟨v, s, hk, so_max3 ho hc (toArr hargs) hs (opd_rel h1 hf hb.1) (opd_rel h2 hf hb.2.1) (opd_rel h3 hf hb.2.2) hm hv⟩
  · -- clear
    rename_i t ts x het
    obtain ⟨ox, hargs, h1⟩ := list1 hx
    rw [hargs] at hb
    simp at hb
    have hts0 : c.argTypes[0]? = some t := by rw [toArr het]; rfl
    split at h
    · rename_i e hu
      simp only [Option.bind_eq_some_iff] at h
      obtain ⟨n, hn, z, hz, s', hs', hk⟩ := h
      exact ⟨_, s', hk, so_clear ho hc (toArr hargs) rfl hts0 hs hu hn hz (opd_rel h1 hf hb) hs'⟩
    · cases h
  · cases h

theorem evalOp_sound (hcall : CallOk P call) (h : evalOp P call T o s k = some r) (hs : Sim wb ι s.heap w) (hf : FrRel ι T a.tmps) (hb : operB a.tmps.size o = true) :
    ∃ v s', k v s' = some r ∧ OpOk P o a w (After wb ι s.heap w s'.heap v) := by
  unfold operB at hb
  unfold evalOp at h
  split at h
  case h_1 x ho => -- move
    simp [ho, Op.operands] at hb
    simp only [Option.bind_eq_some_iff] at h
    obtain ⟨v, hv, hk⟩ := h
    exact ⟨v, s, hk, so_move (.inl ho) hs (opd_rel hv hf hb)⟩
  case h_2 x ho => -- assign
    simp [ho, Op.operands] at hb
    simp only [Option.bind_eq_some_iff] at h
    obtain ⟨v, hv, hk⟩ := h
    exact ⟨v, s, hk, so_move (.inr ho) hs (opd_rel hv hf hb)⟩
  case h_3 c x y ho =>
    simp [ho, Op.operands] at hb
    simp only [Option.bind_eq_some_iff] at h
    obtain ⟨vc, hc, va, hva, vb, hvb, v, hv, hk⟩ := h
    unfold apick at hv
    split at hv
    · cases hv
      exact ⟨va, s, hk, so_pick (b := true) ho hs (opd_rel hc hf hb.1) (opd_rel hva hf hb.2.1)⟩
    · cases hv
      exact ⟨vb, s, hk, so_pick (b := false) ho hs (opd_rel hc hf hb.1) (opd_rel hvb hf hb.2.2)⟩
    · cases hv
  case h_4 e ho => -- alloc
    simp only [Option.bind_eq_some_iff] at h
    obtain ⟨z, hz, q, hq, hk⟩ := h
    unfold anew at hq
    split at hq
    case isFalse => cases hq
    cases hq
    exact ⟨_, _, hk, so_alloc ho hs hz⟩
  case h_5 e x ho => -- box
    simp [ho, Op.operands] at hb
    simp only [Option.bind_eq_some_iff] at h
    obtain ⟨v, hv, q, hq, hk⟩ := h
    unfold anew at hq
    split at hq
    case isFalse => cases hq
    rename_i hl
    cases hq
    exact ⟨_, _, hk, so_box ho hs (opd_rel hv hf hb) hl⟩
  case h_6 t parts ho => -- build
    simp only [Option.bind_eq_some_iff] at h
    obtain ⟨ps, hps, v, hv, hk⟩ := h
    unfold abuild at hv
    simp only [Option.bind_eq_some_iff, Option.map_eq_some_iff] at hv
    obtain ⟨pl, hpl, z, hz, cs, hcs, rfl⟩ := hv
    exact ⟨_, s, hk, so_build ho hs hf (by rw [ho] at hb; simpa [Op.operands, List.all_map] using hb) hps hpl hz hcs⟩
  case h_7 t len parts ho => -- buildSlice
    split at h
    · rename_i e hu
      simp only [Option.bind_eq_some_iff] at h
      obtain ⟨ps, hps, n, hn, z, hz, ⟨v, s'⟩, hv, hk⟩ := h
      unfold abuildSl at hv
      split at hv
      case isFalse => cases hv
      rename_i hc
      simp only [Option.map_eq_some_iff] at hv
      obtain ⟨cs, hcs, he⟩ := hv
      cases he
      exact ⟨_, _, hk, so_buildSlice ho hs hf (by rw [ho] at hb; simpa [Op.operands, List.all_map] using hb) hps hu hn hz hc.1 hc.2.1 hcs⟩
    · cases h
  case h_8 t x ho => -- load
    simp [ho, Op.operands] at hb
    simp only [Option.bind_eq_some_iff] at h
    obtain ⟨va, hva, ag, hag, n, hn, v, hv, hk⟩ := h
    exact ⟨v, s, hk, so_load ho hs (opd_rel hva hf hb) hag hn hv⟩
  case h_9 t x y ho => -- store
    simp [ho, Op.operands] at hb
    simp only [Option.bind_eq_some_iff] at h
    obtain ⟨va, hva, v, hv, n, hn, s', hs', hk⟩ := h
    exact ⟨_, s', hk, so_store ho hs (opd_rel hva hf hb.1) (opd_rel hv hf hb.2) hn hs'⟩
  case h_10 x ho => -- nilCheck
    simp [ho, Op.operands] at hb
    simp only [Option.bind_eq_some_iff] at h
    obtain ⟨v, hv, u, hu, hk⟩ := h
    unfold anilCheck at hu
    split at hu
    · cases hu; exact ⟨_, s, hk, so_nilCheck_ptr ho hs (opd_rel hv hf hb)⟩
    · cases hu; exact ⟨_, s, hk, so_nilCheck_func ho hs (opd_rel hv hf hb)⟩
    · cases hu
  case h_11 op t x y yt ho => -- binOp
    simp [ho, Op.operands] at hb
    simp only [Option.bind_eq_some_iff] at h
    obtain ⟨u, hu, v, hv, q, hq, hk⟩ := h
    exact ⟨q, s, hk, so_binOp ho hs (opd_rel hu hf hb.1) (opd_rel hv hf hb.2) hq⟩
  case h_12 op t x ho => -- unOp
    simp [ho, Op.operands] at hb
    simp only [Option.bind_eq_some_iff] at h
    obtain ⟨u, hu, q, hq, hk⟩ := h
    exact ⟨q, s, hk, so_unOp ho hs (opd_rel hu hf hb) hq⟩
  case h_13 src dst x ho => -- convert
    simp [ho, Op.operands] at hb
    simp only [Option.bind_eq_some_iff] at h
    obtain ⟨u, hu, h⟩ := h
    split at h
    · rename_i k0 kd hs1 hs2
      simp only [Option.bind_eq_some_iff] at h
      obtain ⟨v, hv, hk⟩ := h
      unfold convInt at hv
      split at hv
      · cases hv; exact ⟨_, s, hk, so_convInt ho hs hs1 hs2 (opd_rel hu hf hb)⟩
      · cases hv
    · rename_i hs1 hs2
      simp only [Option.bind_eq_some_iff] at h
      obtain ⟨v, hv, hk⟩ := h
      unfold convStr at hv
      split at hv
      · cases hv; exact ⟨_, s, hk, so_convStr ho hs hs1 hs2 (opd_rel hu hf hb)⟩
      · cases hv
    · rename_i e hs1 hs2
      split at h
      · rename_i he
        simp only [Option.bind_eq_some_iff] at h
        obtain ⟨⟨v, s'⟩, hv, hk⟩ := h
        unfold convBytes at hv
        split at hv
        · split at hv
          · cases hv; exact ⟨_, _, hk, so_convBytes ho hs hs1 hs2 he (opd_rel hu hf hb)⟩
          · cases hv
        · cases hv
      · cases h
    · rename_i e hs1 hs2
      split at h
      · rename_i he
        simp only [Option.bind_eq_some_iff] at h
        obtain ⟨v, hv, hk⟩ := h
        exact ⟨v, s, hk, so_convToStr ho hs hs1 hs2 he (opd_rel hu hf hb) hv⟩
      · cases h
    · rename_i e e2 hs1 hs2
      split at h
      case isFalse => cases h
      rename_i heq
      subst heq
      split at h
      · rename_i he
        simp only [Option.bind_eq_some_iff] at h
        obtain ⟨v, hv, hk⟩ := h
        unfold convSl at hv
        split at hv
        · split at hv
          · rename_i hcells
            cases hv
            exact ⟨_, s, hk, so_convSl ho hs hs1 he hcells (opd_rel hu hf hb)⟩
          · cases hv
        · cases hv
      · cases h
    · cases h
  case h_14 t x ho => -- makeInterface
    simp [ho, Op.operands] at hb
    simp only [Option.bind_eq_some_iff] at h
    obtain ⟨v, hv, h⟩ := h
    split at h
    · cases h
    · rename_i d hnot hd
      simp only [Option.bind_eq_some_iff] at h
      obtain ⟨u, hu, hk⟩ := h
      unfold aiface at hu
      split at hu
      case isFalse => cases hu
      rename_i hok
      cases hu
      exact ⟨_, s, hk, so_makeInterface ho hs hd (fun ms e => hnot ms e) (opd_rel hv hf hb) hok⟩
    · cases h
  case h_15 fn first captured ho => -- makeFunc
    rw [ho] at hb
    simp only [Op.operands, Array.toList_append, List.all_append, Bool.and_eq_true] at hb
    split at h
    · simp only [Option.bind_eq_some_iff] at h
      obtain ⟨xs, hxs, ys, hys, v, hv, hk⟩ := h
      unfold amkFunc at hv
      split at hv
      case isFalse => cases hv
      rename_i hc
      cases hv
      exact ⟨_, s, hk, so_makeFunc (T := T) ho hs (opds_rel hf hxs hb.1) (opds_rel hf hys hb.2) hc.1 hc.2⟩
    · cases h
  case h_16 t l c ho => -- makeSlice
    simp [ho, Op.operands] at hb
    simp only [Option.bind_eq_some_iff] at h
    obtain ⟨u, hu, v, hv, h⟩ := h
    split at h
    · rename_i e ht
      simp only [Option.bind_eq_some_iff] at h
      obtain ⟨n, hn, b, hb2, z, hz, ⟨q, s'⟩, hq, hk⟩ := h
      exact ⟨q, s', hk, so_makeSlice ho hs ht hn hb2 hz (opd_rel hu hf hb.1) (opd_rel hv hf hb.2) hq⟩
    · cases h
  case h_17 t x lo hi mx ho => -- slice
    rw [ho] at hb
    have hbs : opdB a.tmps.size x = true ∧ opdOB a.tmps.size lo = true ∧ opdOB a.tmps.size hi = true ∧ opdOB a.tmps.size mx = true := by
      simp only [Op.operands, Array.toList_append, List.all_append, Bool.and_eq_true] at hb
      obtain ⟨⟨⟨h1, h2⟩, h3⟩, h4⟩ := hb
      refine ⟨by simpa using h1, ?_, ?_, ?_⟩
      · cases lo <;> simp_all [opdOB]
      · cases hi <;> simp_all [opdOB]
      · cases mx <;> simp_all [opdOB]
    obtain ⟨b1, b2, b3, b4⟩ := hbs
    simp only [Option.bind_eq_some_iff] at h
    obtain ⟨u, hu, vlo, hlo, vhi, hhi, vmx, hmx, h⟩ := h
    have r1 := opd_rel hu hf b1
    have r2 := opdO_rel hf hlo b2
    have r3 := opdO_rel hf hhi b3
    have r4 := opdO_rel hf hmx b4
    split at h
    · rename_i ht
      simp only [Option.bind_eq_some_iff] at h
      obtain ⟨v, hv, hk⟩ := h
      unfold asliceStrV at hv
      split at hv
      · exact ⟨v, s, hk, so_sliceStr ho hs ht r1 r2 r3 r4 hv⟩
      · cases hv
    · rename_i e ht
      simp only [Option.bind_eq_some_iff] at h
      obtain ⟨n, hn, v, hv, hk⟩ := h
      unfold asliceV at hv
      split at hv
      · exact ⟨v, s, hk, so_slice ho hs ht hn r1 r2 r3 r4 hv⟩
      · cases hv
    · rename_i len e ht
      simp only [Option.bind_eq_some_iff] at h
      obtain ⟨n, hn, v, hv, hk⟩ := h
      unfold asliceArr at hv
      split at hv
      · split at hv
        · rename_i ad _ cells st hcells
          split at hv
          · cases hv
          · rename_i hnd
            exact ⟨v, s, hk, so_sliceArr ho hs (.inl ht) hn r1 r2 r3 r4 ⟨_, _, hcells, hnd⟩ hv⟩
        · cases hv
      · cases hv
    · rename_i u2 ht
      split at h
      · rename_i len e hu2
        simp only [Option.bind_eq_some_iff] at h
        obtain ⟨n, hn, v, hv, hk⟩ := h
        unfold asliceArr at hv
        split at hv
        · split at hv
          · rename_i ad _ cells st hcells
            split at hv
            · cases hv
            · rename_i hnd
              exact ⟨v, s, hk, so_sliceArr ho hs (.inr ⟨u2, ht, hu2⟩) hn r1 r2 r3 r4 ⟨_, _, hcells, hnd⟩ hv⟩
          · cases hv
        · cases hv
      · cases h
    · cases h
  case h_18 t x i ho => -- fieldAddr
    simp [ho, Op.operands] at hb
    simp only [Option.bind_eq_some_iff] at h
    obtain ⟨u, hu, f, hf2, n, hn, h⟩ := h
    split at h
    · cases h
    · rename_i h0
      simp only [Option.bind_eq_some_iff] at h
      obtain ⟨v, hv, hk⟩ := h
      exact ⟨v, s, hk, so_fieldAddr ho hs hf2 hn h0 (opd_rel hu hf hb) hv⟩
  case h_19 t x i ho => -- field
    simp [ho, Op.operands] at hb
    simp only [Option.bind_eq_some_iff] at h
    obtain ⟨u, hu, f, hf2, ag, hag, n, hn, v, hv, hk⟩ := h
    exact ⟨v, s, hk, so_field ho hs hf2 hag hn (opd_rel hu hf hb) hv⟩
  case h_20 t x i ho => -- indexAddr
    simp [ho, Op.operands] at hb
    simp only [Option.bind_eq_some_iff] at h
    obtain ⟨u, hu, v, hv, h⟩ := h
    split at h
    · rename_i e ht
      simp only [Option.bind_eq_some_iff] at h
      obtain ⟨n, hn, q, hq, hk⟩ := h
      exact ⟨q, s, hk, so_indexS ho hs ht hn (opd_rel hu hf hb.1) (opd_rel hv hf hb.2) hq⟩
    · rename_i len e ht
      simp only [Option.bind_eq_some_iff] at h
      obtain ⟨n, hn, q, hq, hk⟩ := h
      exact ⟨q, s, hk, so_indexA ho hs ht hn (opd_rel hu hf hb.1) (opd_rel hv hf hb.2) hq⟩
    · cases h
  case h_21 t x i ho => -- index
    simp [ho, Op.operands] at hb
    simp only [Option.bind_eq_some_iff] at h
    obtain ⟨u, hu, v, hv, h⟩ := h
    split at h
    · rename_i ht
      simp only [Option.bind_eq_some_iff] at h
      obtain ⟨q, hq, hk⟩ := h
      exact ⟨q, s, hk, so_indexStr ho hs ht (opd_rel hu hf hb.1) (opd_rel hv hf hb.2) hq⟩
    · rename_i len e ht
      simp only [Option.bind_eq_some_iff] at h
      obtain ⟨ag, hag, n, hn, q, hq, hk⟩ := h
      exact ⟨q, s, hk, so_indexAgg ho hs ht hag hn (opd_rel hu hf hb.1) (opd_rel hv hf hb.2) hq⟩
    · cases h
  case h_22 x i ho => -- extract
    simp [ho, Op.operands] at hb
    simp only [Option.bind_eq_some_iff] at h
    obtain ⟨u, hu, v, hv, hk⟩ := h
    unfold aextract at hv
    split at hv
    · simp only [Option.bind_eq_some_iff] at hv
      obtain ⟨q, hq, hv⟩ := hv
      split at hv
      · cases hv
      · rename_i hnt
        cases hv
        exact ⟨_, s, hk, so_extract ho hs (opd_rel hu hf hb) hq (by simpa using hnt)⟩
    · cases hv
  case h_23 c ho => -- call
    rw [ho] at hb
    simp only [Op.operands] at hb
    split at h
    · rename_i b hc
      simp only [Option.bind_eq_some_iff] at h
      obtain ⟨xs, hxs, h⟩ := h
      exact builtin_sound ho hc hxs h hs hf (by simpa [Call.operands, hc] using hb)
    · rename_i f hc
      have hb2 : opdB a.tmps.size f = true ∧ c.args.toList.all (opdB a.tmps.size) = true := by
        simpa [Call.operands, hc] using hb
      simp only [Option.bind_eq_some_iff] at h
      obtain ⟨vf, hvf, xs, hxs, ⟨v, s'⟩, hr, hk⟩ := h
      unfold callV at hr
      split at hr
      · rename_i g first captured
        split at hr
        case isFalse => cases hr
        rename_i hok
        exact ⟨v, s', hk, so_call (call := call) ho hc (opd_rel hvf hf hb2.1) (opds_rel hf hxs hb2.2) hok (fun args' ha => hcall _ _ _ _ _ hr hok _ _ _ _ hs ha)⟩
      · cases hr
    · cases h
  case h_24 x xt asserted ok ho => -- typeAssert
    rw [ho] at hb
    simp only [Op.operands] at hb
    simp only [Option.bind_eq_some_iff] at h
    obtain ⟨u, hu, h⟩ := h
    split at h
    · cases h
    · rename_i d hnot hd
      simp only [Option.bind_eq_some_iff] at h
      obtain ⟨z, hz, h⟩ := h
      split at h
      case isFalse => cases h
      rename_i hok
      subst hok
      simp only [Option.bind_eq_some_iff] at h
      obtain ⟨v, hv, hk⟩ := h
      exact ⟨_, s, hk, so_typeAssert ho hs hd (fun ms e => hnot ms e) hz (opd_rel hu hf (by simpa using hb)) hv⟩
    · cases h
  case h_25 => cases h

end
end Go.Proofs.Ytamaapapaiopiaa.Ab
