/- Texts that the laws lean on, in the order in which they build. What both ends do with a datagram: one contract each, and the plain law that they agree. Guarded operations in a chain, of whatever program. Whether an end has the state of the model. One operation on an end and on the model. What holds behind a receipt. One operation on an end and on the model: it receives a data datagram. One operation on an end and on the model: it receives an acknowledgement. One operation on an end and on the model: it receives any bytes. One operation on an end and on the model: it sends. One operation on an end and on the model: it sends. The operations of the laws on one end. One operation on an end and on the model: it does nothing. -/
import Derived.Test.YtilmcdieihmiaaaK4
set_option linter.unusedVariables false
set_option linter.unusedSimpArgs false
namespace Go.Proofs.Ytilmcdieihmiaaa
open Go.RowKit

def Rcv (C : Chan) (d : Bytes) (C' : Chan) (outs : List Bytes) (k : Int) : Prop :=
  (Bad d ∧ C' = C ∧ outs = [] ∧ k = 11) ∨
  (∃ t q, d = 2 :: t ∧ readU t = some (q, []) ∧ C' = C.ackd q ∧ outs = [] ∧ k = if C.sent < q then 2 else 0) ∨
  (∃ t q rest, d = 1 :: t ∧ readU t = some (q, rest) ∧ 0 < q ∧ ((C.received + 1024 < q ∧ C' = C ∧ outs = [] ∧ k = 2) ∨ (q ≤ C.received + 1024 ∧ Got C q rest C' outs ∧ k = 0)))
def GotR (E : REnd) (q : Nat) (l : Bytes) (E' : REnd) (outs : List Bytes) : Prop :=
  (E' = E ∧ outs = [] ∧ (q ≤ E.received ∨ ∃ x ∈ E.early, x.1 = (q : Int))) ∨
  ((∀ x ∈ E.early, x.1 ≠ (q : Int)) ∧ E.received < q ∧ (∃ M, Ins E.early ((q : Int), l) M ∧ DrR { E with early := M } E' outs) ∧ ∀ l tl, E'.early ≠ ((E'.received : Int) + 1, l) :: tl)
def RcvR (E : REnd) (d : Bytes) (E' : REnd) (outs : List Bytes) (k : Int) : Prop :=
  (Bad d ∧ E' = E ∧ outs = [] ∧ k = 11) ∨
  (∃ t q, d = 2 :: t ∧ readU t = some (q, []) ∧ E' = E.ackd q ∧ outs = [] ∧ k = if E.sent < q then 2 else 0) ∨
  (∃ t q rest, d = 1 :: t ∧ readU t = some (q, rest) ∧ 0 < q ∧ ((E.received + 1024 < q ∧ E' = E ∧ outs = [] ∧ k = 2) ∨ (q ≤ E.received + 1024 ∧ GotR E q rest E' outs ∧ k = 0)))

theorem Bad.not_ack {t : Bytes} {q : Nat} (h : Bad (2 :: t)) (hr : readU t = some (q, [])) : False := by
  rcases h with h | ⟨k, t', e, h⟩
  · cases h
  · cases e
    rcases h with ⟨_, h⟩ | h | ⟨q', r', h, h2⟩
    · exact h rfl
    · rw [hr] at h; cases h
    · rw [hr] at h; cases h
      rcases h2 with ⟨_, h2⟩ | ⟨h2, _⟩
      · exact h2 rfl
      · revert h2; decide
theorem Bad.not_data {t rest : Bytes} {q : Nat} (h : Bad (1 :: t)) (hr : readU t = some (q, rest)) (hq : 0 < q) : False := by
  rcases h with h | ⟨k, t', e, h⟩
  · cases h
  · cases e
    rcases h with ⟨h, _⟩ | h | ⟨q', r', h, h2⟩
    · exact h rfl
    · rw [hr] at h; cases h
    · rw [hr] at h; cases h
      rcases h2 with ⟨h2, _⟩ | ⟨_, h2⟩
      · revert h2; decide
      · omega
theorem DrR.same {E E1 : REnd} {o : List Bytes} (h : DrR E E1 o) : E1.sent = E.sent ∧ E1.acked = E.acked ∧ E1.kept = E.kept ∧ E1.received + E1.early.length = E.received + E.early.length := by
  induction h with
  | refl => exact ⟨rfl, rfl, rfl, rfl⟩
  | step _ he ih =>
    obtain ⟨h1, h2, h3, h4⟩ := ih
    refine ⟨h1, h2, h3, ?_⟩
    simp only [REnd.pop]
    rw [he] at h4 ⊢
    simp at h4 ⊢
    omega
theorem Dr.same3 {C C1 : Chan} {o : List Bytes} (h : Dr C C1 o) : C1.sent = C.sent ∧ C1.acked = C.acked ∧ C1.kept = C.kept := by
  induction h with
  | refl => exact ⟨rfl, rfl, rfl⟩
  | step _ _ ih => exact ih

/-- Both ends go together; `T` bounds how much has gone on. -/
structure Joint (C : Chan) (E : REnd) (T D : Nat) : Prop where
  agr : Agr C E
  sum : C.kept.length + C.acked = C.sent
  sent : C.sent ≤ T
  recv : E.received + E.early.length ≤ T
  near : C.near (C.received + 1024)
  len : ∀ l ∈ C.kept, l.length ≤ D

theorem Joint.new (D : Nat) : Joint ⟨0, 0, 0, [], fun _ => none⟩ ⟨0, 0, [], 0, []⟩ 0 D :=
  ⟨⟨rfl, rfl, rfl, rfl, fun s l => by simp, by simp, by simp⟩, rfl, Nat.le_refl _, Nat.le_refl _, fun s h => absurd rfl h, by simp⟩
theorem Joint.mono {C : Chan} {E : REnd} {T T' D : Nat} (h : Joint C E T D) (hT : T ≤ T') : Joint C E T' D :=
  ⟨h.agr, h.sum, by have := h.sent; omega, by have := h.recv; omega, h.near, h.len⟩
theorem Joint.send {C : Chan} {E : REnd} {T D : Nat} {l : Bytes} (h : Joint C E T D) (hl : l.length ≤ D) :
    Joint { C with sent := C.sent + 1, kept := C.kept ++ [l] } { E with sent := E.sent + 1, kept := E.kept ++ [l] } (T + 1) D :=
  ⟨⟨by simp [h.agr.sent], h.agr.acked, by simp [h.agr.kept], h.agr.received, h.agr.early, h.agr.sorted, h.agr.above⟩, by have := h.sum; simp; omega, by have := h.sent; simp; omega, by have := h.recv; simp; omega, h.near,
    fun x hx => by
      rcases List.mem_append.1 hx with hx | hx
      · exact h.len x hx
      · simp at hx; subst hx; exact hl⟩
theorem Joint.ackd {C : Chan} {E : REnd} {T D : Nat} (h : Joint C E T D) (q : Nat) : Joint (C.ackd q) (E.ackd q) T D := by
  have ha := h.agr.ackd q
  have h1 := h.sum
  have h2 := h.sent
  have hr : (E.ackd q).received + (E.ackd q).early.length ≤ T := by
    have := h.recv
    unfold REnd.ackd; split <;> exact this
  have hs : (C.ackd q).kept.length + (C.ackd q).acked = (C.ackd q).sent := by
    unfold Chan.ackd; split
    · simp; omega
    · exact h1
  have hn : (C.ackd q).near ((C.ackd q).received + 1024) := by
    have := h.near
    unfold Chan.ackd; split <;> exact this
  refine ⟨ha, hs, ?_, hr, hn, fun l hl => h.len l ?_⟩
  · unfold Chan.ackd; split <;> exact h2
  · revert hl
    unfold Chan.ackd; split
    · exact fun hl => List.mem_of_mem_drop hl
    · exact fun hl => hl
theorem Got.len {C C' : Chan} {q : Nat} {l : Bytes} {o : List Bytes} (h : Got C q l C' o) : C'.sent = C.sent ∧ C'.acked = C.acked ∧ C'.kept = C.kept := by
  rcases h with ⟨rfl, _, _⟩ | ⟨_, _, hd, _⟩
  · exact ⟨rfl, rfl, rfl⟩
  · exact hd.same3
theorem Joint.got {C C' : Chan} {E E' : REnd} {T D q : Nat} {l : Bytes} {o o' : List Bytes} (h : Joint C E T D) (hq : q ≤ C.received + 1024) (h1 : Got C q l C' o) (h2 : GotR E q l E' o') : Joint C' E' (T + 1) D ∧ o = o' := by
  have hrc := h.agr.received
  have hex : (∃ l, C.early q = some l) ↔ ∃ x ∈ E.early, x.1 = (q : Int) :=
    ⟨fun ⟨l, hl⟩ => ⟨_, (h.agr.early _ _).1 hl, rfl⟩, fun ⟨x, hx, e⟩ => ⟨x.2, (h.agr.early _ _).2 (by rw [← e]; exact hx)⟩⟩
  rcases h1 with ⟨rfl, rfl, hc⟩ | ⟨hn, hlt, hd, hno⟩
  · rcases h2 with ⟨rfl, rfl, _⟩ | ⟨hn2, hlt2, _⟩
    · exact ⟨h.mono (by omega), rfl⟩
    · exfalso
      rcases hc with hc | hc
      · obtain ⟨x, hx, e⟩ := hex.1 hc
        exact hn2 x hx e
      · omega
  · rcases h2 with ⟨rfl, rfl, hc⟩ | ⟨hn2, hlt2, ⟨M, hI, hD⟩, hno2⟩
    · exfalso
      rcases hc with hc | hc
      · omega
      · obtain ⟨l, hl⟩ := hex.2 hc
        rw [hn] at hl; cases hl
    · have ha := h.agr.put hlt2 hn2 hI (hI.sorted h.agr.sorted hn2)
      obtain ⟨C1, hd1, ha1⟩ := Agr.drain hD ha
      obtain ⟨rfl, rfl⟩ := hd.same hno hd1 (ha1.none hno2)
      refine ⟨⟨ha1, ?_, ?_, ?_, ?_, ?_⟩, rfl⟩
      · obtain ⟨e1, e2, e3⟩ := hd.same3
        rw [e1, e2, e3]; exact h.sum
      · obtain ⟨e1, e2, e3⟩ := hd.same3
        rw [e1]; have := h.sent; simp only [Chan.put]; omega
      · obtain ⟨_, _, _, e4⟩ := hD.same
        obtain ⟨k, hk, rfl, _⟩ := hI
        have := h.recv
        simp at e4
        omega
      · have hnr : (C.put q l).near (C.received + 1024) := fun s hs => by
          simp only [Chan.put] at hs ⊢
          split at hs
          · omega
          · exact h.near s hs
        have h3 := hd.near hnr
        have h4 := hd.len
        intro s hs
        have h5 := h3 s hs
        have h6 : (C.put q l).received = C.received := rfl
        omega
      · obtain ⟨e1, e2, e3⟩ := hd.same3
        rw [e3]; exact h.len
theorem Joint.rcv {C C' : Chan} {E E' : REnd} {T D : Nat} {d : Bytes} {o o' : List Bytes} {k k' : Int} (h : Joint C E T D) (h1 : Rcv C d C' o k) (h2 : RcvR E d E' o' k') : Joint C' E' (T + 1) D ∧ o = o' ∧ k = k' := by
  rcases h1 with ⟨hb, rfl, rfl, rfl⟩ | ⟨t, q, rfl, hr, rfl, rfl, rfl⟩ | ⟨t, q, rest, rfl, hr, hq, h1⟩
  · rcases h2 with ⟨_, rfl, rfl, rfl⟩ | ⟨t, q, rfl, hr, _⟩ | ⟨t, q, rest, rfl, hr, hq, _⟩
    · exact ⟨h.mono (by omega), rfl, rfl⟩
    · exact (hb.not_ack hr).elim
    · exact (hb.not_data hr hq).elim
  · rcases h2 with ⟨hb, _⟩ | ⟨t, q', e, hr', rfl, rfl, rfl⟩ | ⟨t, q, rest, e, _⟩
    · exact (hb.not_ack hr).elim
    · cases e
      rw [hr] at hr'; cases hr'
      exact ⟨(h.ackd q).mono (by omega), rfl, by rw [h.agr.sent]⟩
    · cases e
  · rcases h2 with ⟨hb, _⟩ | ⟨t, q', e, hr', _⟩ | ⟨t, q', rest', e, hr', _, h2⟩
    · exact (hb.not_data hr hq).elim
    · cases e
    · cases e
      rw [hr] at hr'; cases hr'
      have hrc := h.agr.received
      rcases h1 with ⟨hf, rfl, rfl, rfl⟩ | ⟨hn, hg, rfl⟩
      · rcases h2 with ⟨_, rfl, rfl, rfl⟩ | ⟨hn, _⟩
        · exact ⟨h.mono (by omega), rfl, rfl⟩
        · omega
      · rcases h2 with ⟨hf, _⟩ | ⟨_, hg2, rfl⟩
        · omega
        · obtain ⟨r1, r2⟩ := h.got hn hg hg2
          exact ⟨r1, r2, rfl⟩

/-- The channel receives whatever comes. -/
theorem recvC (w : World) (B bc bm n T D : Nat) (vk v0 : Value) (C : Chan) (E : REnd) (d : Bytes) (h : Ch w B bc bm n vk C) (hcb : vk.ownBlock ≠ some bc) (hB : B ≤ w.heap.size) (hJ : Joint C E T D) (hT : T < 1000000) (hn : n ≤ T) (hd : SlB w v0 d) (hl : d.length ≤ 140737488350000) :
    Calls Try.prog 13 #[.pointer (some ⟨bc, 0, none⟩), v0] w fun e w' => ∃ v' vk' C' outs n' k, e = .returned (.tuple #[v', .int .i64 k]) ∧ KL w' w.heap.size v' outs ∧ Ch w' B bc bm n' vk' C' ∧ n' ≤ n + 1 ∧ Rcv C d C' outs k ∧ Keeps [bc, bm] w w' ∧ KB w w' ∧
      vk'.ownBlock ≠ some bc ∧ (vk'.ownBlock = vk.ownBlock ∨ ∀ k, vk'.ownBlock = some k → w.heap.size ≤ k) := by
  have hsent := hJ.sent
  have hrecv := hJ.recv
  have hrc := hJ.agr.received
  rcases kinds d with hb | ⟨t, q, rest, rfl, hr, hq⟩ | ⟨t, q, rfl, hr⟩
  · refine (receive_bad w bc v0 d hd (by omega) hb).mono ?_
    rintro e w' ⟨rfl, hk⟩
    exact ⟨_, vk, C, [], n, 11, rfl, KL.nil _ _, h.keeps hk, by omega, .inl ⟨hb, rfl, rfl, rfl⟩, hk.of_nil, hk.kb0, hcb, .inl rfl⟩
  · have hq64 := (readU_drop hr).2
    simp only [List.length_cons] at hl
    have hrl : rest.length ≤ t.length := by obtain ⟨⟨j, _, e⟩, _⟩ := readU_drop hr; rw [e]; simp
    refine (receive_data (fun w1 v k w' => ∃ C' outs n', KL w' w1.heap.size v outs ∧ Ch w' B bc bm n' vk C' ∧ n' ≤ n + 1 ∧ Rcv C (1 :: t) C' outs k ∧ Keeps [bc, bm] w1 w' ∧ KB w1 w') w bc v0 t rest q hd (by omega) hr hq ?_).mono ?_
    · intro w1 v1 hk1 hp1
      have h1 := h.keeps hk1
      have hsl : ∃ a m c, v1 = .slice a m c := by obtain ⟨a, c, rfl⟩ := hp1.form; exact ⟨_, _, _, rfl⟩
      by_cases hf : C.received + 1024 < q
      · refine (accept_far w1 B bc bm n vk v1 C q h1 hsl (by omega) hq64 hf).mono ?_
        rintro e w2 ⟨rfl, hk2⟩
        exact ⟨_, _, rfl, C, [], n, KL.nil _ _, h1.keeps hk2, by omega, .inr (.inr ⟨t, q, rest, rfl, hr, hq, .inl ⟨hf, rfl, rfl, rfl⟩⟩), hk2.of_nil, hk2.kb0⟩
      · by_cases ht : (∃ l, C.early q = some l) ∨ q ≤ C.received
        · refine (accept_twice w1 B bc bm n vk v1 C q h1 hsl (by omega) (by omega) ht).mono ?_
          rintro e w2 ⟨rfl, hk2⟩
          exact ⟨_, _, rfl, C, [], n, KL.nil _ _, h1.keeps hk2, by omega, .inr (.inr ⟨t, q, rest, rfl, hr, hq, .inr ⟨by omega, .inl ⟨rfl, rfl, ht⟩, rfl⟩⟩), hk2.of_nil, hk2.kb0⟩
        · have hn0 : C.early q = none := by
            cases he : C.early q with
            | none => rfl
            | some l => exact absurd (.inl ⟨l, he⟩) ht
          have hq1 : C.received < q := by
            rcases Nat.lt_or_ge C.received q with e | e
            · exact e
            · exact absurd (.inr e) ht
          refine (accept_new w1 B bc bm n vk v1 C q rest h1 hcb hp1 (by omega) (by omega) (by omega) (by omega) hJ.near hn0 hq1).mono ?_
          rintro e w2 ⟨v', C', outs, rfl, hL, hC, hD, hno, hk, hkb⟩
          exact ⟨_, _, rfl, C', outs, n + 1, hL, hC, Nat.le_refl _, .inr (.inr ⟨t, q, rest, rfl, hr, hq, .inr ⟨by omega, .inr ⟨hn0, hq1, hD, hno⟩, rfl⟩⟩), hk, hkb⟩
    · rintro e w' ⟨v, k, w1, rfl, hk1, C', outs, n', hL, hC, hn', hg, hk, hkb⟩
      exact ⟨v, vk, C', outs, n', k, rfl, hL.mono hk1.size, hC, hn', hg, hk1.of_nil.trans hk, hk1.kb0.trans hkb, hcb, .inl rfl⟩
  · simp only [List.length_cons] at hl
    refine (receive_ack w B bc bm n vk v0 C t q h hcb (by omega) hJ.sum hB hd (by omega) hr).mono ?_
    rintro e w' ⟨vk', rfl, hC, hk, hkb, hcb', how⟩
    exact ⟨_, vk', C.ackd q, [], n, _, rfl, KL.nil _ _, hC, by omega, .inr (.inl ⟨t, q, rfl, hr, rfl, rfl, rfl⟩), hk.mono (by simp), hkb, hcb', how⟩
/-- The reference receives whatever comes. -/
theorem recvRR (w : World) (T D : Nat) (vk ve vd : Value) (C : Chan) (E : REnd) (d : Bytes) (h : RE w vk ve E) (hJ : Joint C E T D) (hT : T < 1000000) (hd : SlB w vd d) (hl : d.length ≤ 140737488350000) :
    Calls Try.prog 31 #[.agg #[.int .i64 E.sent, .int .i64 E.acked, vk, .int .i64 E.received, ve], vd] w fun e w' => ∃ vk' ve' vo E' outs k, e = .returned (.tuple #[.agg #[.int .i64 E'.sent, .int .i64 E'.acked, vk', .int .i64 E'.received, ve'], vo, .int .i64 k]) ∧ RE w' vk' ve' E' ∧ KL w' w.heap.size vo outs ∧
      RcvR E d E' outs k ∧ Keeps [] w w' ∧ vk'.ownBlock = vk.ownBlock ∧ (ve'.ownBlock = ve.ownBlock ∨ ∀ b, ve'.ownBlock = some b → w.heap.size ≤ b ∧ b < w'.heap.size ∧ ∀ cs f, w'.heap[b]? ≠ some (.cells cs tyEnd f)) := by
  have hsent := hJ.sent
  have hrecv := hJ.recv
  have hse := hJ.agr.sent
  have hvk : ∃ b n c, vk = .slice b n c := by obtain ⟨a, c, rfl, _⟩ := h.kept.form; exact ⟨_, _, _, rfl⟩
  have hve : ∃ b n c, ve = .slice b n c := by obtain ⟨a, c, rfl⟩ := h.early.form; exact ⟨_, _, _, rfl⟩
  rcases kinds d with hb | ⟨t, q, rest, rfl, hr, hq⟩ | ⟨t, q, rfl, hr⟩
  · have hfin : ∀ (e : Ending) (w' : World), (e = .returned (.tuple #[.agg #[.int .i64 E.sent, .int .i64 E.acked, vk, .int .i64 E.received, ve], .slice none 0 0, .int .i64 11]) ∧ Keeps [] w w') →
        ∃ vk' ve' vo E' outs k, e = .returned (.tuple #[.agg #[.int .i64 E'.sent, .int .i64 E'.acked, vk', .int .i64 E'.received, ve'], vo, .int .i64 k]) ∧ RE w' vk' ve' E' ∧ KL w' w.heap.size vo outs ∧
        RcvR E d E' outs k ∧ Keeps [] w w' ∧ vk'.ownBlock = vk.ownBlock ∧ (ve'.ownBlock = ve.ownBlock ∨ ∀ b, ve'.ownBlock = some b → w.heap.size ≤ b ∧ b < w'.heap.size ∧ ∀ cs f, w'.heap[b]? ≠ some (.cells cs tyEnd f)) := by
      rintro e w' ⟨rfl, hk⟩
      exact ⟨vk, ve, _, E, [], 11, rfl, h.keeps hk, KL.nil _ _, .inl ⟨hb, rfl, rfl, rfl⟩, hk, rfl, .inl rfl⟩
    have hb' := hb
    rcases hb with rfl | ⟨k, t, rfl, hb⟩
    · exact (recvR_bad0 w _ _ _ vk ve vd [] hvk hve hd (.inl rfl)).mono hfin
    · by_cases hk : k = 1 ∨ k = 2
      · refine (recvR_bad1 w _ _ _ vk ve vd k t hvk hve hd hk ?_).mono hfin
        rcases hb with ⟨h1, h2⟩ | h | h
        · rcases hk with e | e
          · exact absurd e h1
          · exact absurd e h2
        · exact .inl h
        · exact .inr h
      · exact (recvR_bad0 w _ _ _ vk ve vd _ hvk hve hd (.inr ⟨k, t, rfl, fun e => hk (.inl e), fun e => hk (.inr e)⟩)).mono hfin
  · have hq64 := (readU_drop hr).2
    simp only [List.length_cons] at hl
    have hrl : rest.length ≤ t.length := by obtain ⟨⟨j, _, e⟩, _⟩ := readU_drop hr; rw [e]; simp
    by_cases hf : E.received + 1024 < q
    · refine (recvR_far w E vk ve vd t rest q h hd hr hq (by omega) hf).mono ?_
      rintro e w' ⟨rfl, hk⟩
      exact ⟨vk, ve, _, E, [], 2, rfl, h.keeps hk, KL.nil _ _, .inr (.inr ⟨t, q, rest, rfl, hr, hq, .inl ⟨hf, rfl, rfl, rfl⟩⟩), hk, rfl, .inl rfl⟩
    · by_cases ht : q ≤ E.received ∨ ∃ x ∈ E.early, x.1 = (q : Int)
      · refine (recvR_twice w E vk ve vd t rest q h hd hr hq (by omega) (by omega) ht).mono ?_
        rintro e w' ⟨rfl, hk⟩
        exact ⟨vk, ve, _, E, [], 0, rfl, h.keeps hk, KL.nil _ _, .inr (.inr ⟨t, q, rest, rfl, hr, hq, .inr ⟨by omega, .inl ⟨rfl, rfl, ht⟩, rfl⟩⟩), hk, rfl, .inl rfl⟩
      · have hq1 : E.received < q := by
          rcases Nat.lt_or_ge E.received q with e | e
          · exact e
          · exact absurd (.inl e) ht
        have hno : ∀ x ∈ E.early, x.1 ≠ (q : Int) := fun x hx e => ht (.inr ⟨x, hx, e⟩)
        refine (recvR_new0 w E vk ve vd t rest q h hd hr hq (by omega) (by omega) hq1 hno (by omega) (by omega)).mono ?_
        rintro e w' ⟨E', ve', vo, outs, rfl, hRE, hE', hL, hD, hst, hk, hfr⟩
        rw [← hE'] at hRE
        refine ⟨vk, ve', vo, E', outs, 0, ?_, hRE, hL, .inr (.inr ⟨t, q, rest, rfl, hr, hq, .inr ⟨by omega, .inr ⟨hno, hq1, hD, hst⟩, rfl⟩⟩), hk, rfl, .inr hfr⟩
        rw [hE']
  · simp only [List.length_cons] at hl
    refine (recvR_ack w E vk ve vd t q h hd hr (by omega) (by have := hJ.sum; have := hJ.agr.acked; rw [← hJ.agr.kept]; omega)).mono ?_
    rintro e w' ⟨vk', rfl, hRE, hk, how⟩
    have hs : (E.ackd q).sent = E.sent ∧ (E.ackd q).received = E.received := by unfold REnd.ackd; split <;> exact ⟨rfl, rfl⟩
    refine ⟨vk', ve, _, E.ackd q, [], _, ?_, hRE, KL.nil _ _, .inr (.inl ⟨t, q, rfl, hr, rfl, rfl, rfl⟩), hk, how, .inl rfl⟩
    rw [hs.1, hs.2]; rfl
end Go.Proofs.Ytilmcdieihmiaaa

namespace Go.Proofs.Ytilmcdieihmiaaa
namespace Free
open Go Go.RowKit
variable {P : Program} {ops : Array Oper} {lo st : Nat → Bool} {T : Nat → Nat → Prop} {w0 : World} {Q : Act → World → Prop}
theorem cw_pureW {o : Oper} {r : List Oper} {i : Nat} {a : Act} {w : World} {c : Value} (hg : Region.wanted o (yielded ops a.tmps) = true) (hlo : lo i = false)
    (hq : ∀ w', Quiet P o a w' c) (h : cwalk P ops lo st T w0 Q r (i + 1) (a.put o.dst c) w) : cwalk P ops lo st T w0 Q (o :: r) i a w := by
  unfold cwalk
  rw [if_pos hg, if_neg (by rw [hlo]; simp)]
  split
  · exact ⟨c, fun w' _ => hq w', h⟩
  · exact ⟨c, hq w, h⟩
theorem cw_steadyW {o : Oper} {r : List Oper} {i : Nat} {a : Act} {w : World} {c : Value} (hg : Region.wanted o (yielded ops a.tmps) = true) (hlo : lo i = false) (hst : st i = true)
    (hq : ∀ w', KeepsP (sx ops T i) w0 w' → Quiet P o a w' c) (h : cwalk P ops lo st T w0 Q r (i + 1) (a.put o.dst c) w) : cwalk P ops lo st T w0 Q (o :: r) i a w := by
  unfold cwalk
  rw [if_pos hg, if_neg (by rw [hlo]; simp), if_pos hst]
  exact ⟨c, hq, h⟩
theorem cw_loudW {o : Oper} {r : List Oper} {i : Nat} {a : Act} {w : World} (hg : Region.wanted o (yielded ops a.tmps) = true) (hlo : lo i = true)
    (h : ∀ K : Act → World → Prop, (∀ a' w', a'.defers = a.defers → KeepsP (T i) w w' → cwalk P ops lo st T w0 Q r (i + 1) a' w' → K a' w') → o.wp P a w K (fun _ _ _ => False)) : cwalk P ops lo st T w0 Q (o :: r) i a w := by
  unfold cwalk
  rw [if_pos hg, if_pos hlo]
  exact h _ fun a' w' h1 h2 h3 => ⟨h1, h2, h3⟩
end Free
end Go.Proofs.Ytilmcdieihmiaaa

namespace Go.Proofs.Ytilmcdieihmiaaa
open Go.RowKit

set_option maxRecDepth 100000 in
set_option maxHeartbeats 4000000 in
theorem sameS_c (w : World) (B bc bm n : Nat) (vk vke vee : Value) (C : Chan) (h : Ch w B bc bm n vk C) (hk : SLs w vke C.kept) (hv : ∃ a m c, vee = .slice a m c) (hs : C.sent < 1099511627777) (hsum : C.kept.length + C.acked = C.sent) (hr : C.received < 1099511627777) (hl : ∀ l ∈ C.kept, l.length ≤ 140737488355000) :
    Calls Try.prog 20 #[.pointer (some ⟨bc, 0, none⟩), .agg #[.int .i64 C.sent, .int .i64 C.acked, vke, .int .i64 C.received, vee]] w fun e w' => e = .returned (.bool true) ∧ Keeps [] w w' := by
  obtain ⟨ae, me, ce, rfl⟩ := hv
  obtain ⟨ak, ck, rfl, hkm⟩ := hk.form
  have hb0 : (w.alloc (.cells #[.int .i64 C.sent, .int .i64 C.acked, .slice ak C.kept.length ck, .int .i64 C.received, .slice ae me ce] tyEnd)).heap[w.heap.size]? = some (.cells #[.int .i64 C.sent, .int .i64 C.acked, .slice ak C.kept.length ck, .int .i64 C.received, .slice ae me ce] tyEnd) := heap_alloc_new w _
  have hkA : Keeps [] w (w.alloc (.cells #[.int .i64 C.sent, .int .i64 C.acked, .slice ak C.kept.length ck, .int .i64 C.received, .slice ae me ce] tyEnd)) := (Keeps.refl [] w).alloc _
  replace h := h.keeps hkA
  replace hk := hk.keeps hkA
  obtain ⟨s, hse⟩ : ∃ s, C.sent = s := ⟨_, rfl⟩
  obtain ⟨a, hae⟩ : ∃ s, C.acked = s := ⟨_, rfl⟩
  obtain ⟨r, hre⟩ : ∃ s, C.received = s := ⟨_, rfl⟩
  obtain ⟨KN, hK⟩ : ∃ s, C.kept.length = s := ⟨_, rfl⟩
  rw [hse, hae, hre, hK] at hb0 hkA h hk ⊢
  rw [hse] at hs hsum
  rw [hae, hK] at hsum
  rw [hre] at hr
  obtain ⟨p0, p1, p2, p3, p4, pf, plt⟩ := cells5 hb0
  replace hse := Lib.hid hse
  replace hae := Lib.hid hae
  replace hre := Lib.hid hre
  have hK0 := Lib.hid hK
  clear hK
  replace hkA := Lib.hid hkA
  replace hb0 := Lib.hid hb0
  replace h := Lib.hid h
  replace hk := Lib.hid hk
  replace hl := Lib.hid hl
  go_enter Try.func20, Try.ntmps20
  go_wp2
  generalize (w.alloc (.cells #[.int .i64 s, .int .i64 a, .slice ak KN ck, .int .i64 r, .slice ae me ce] tyEnd)) = W at *
  refine Free.wp_region_chain (fun i => i == 1 || i == 7 || i == 14 || i == 21 || i == 24 || i == 28 || i == 30 || i == 31 || i == 35 || i == 38 || i == 39) (fun i => true) (fun j b => False) (by kernel_rfl) (by kernel_rfl) (by kernel_rfl) ?_
  (repeat (first | (apply Free.cw_pureW rfl rfl; (intro w'; go_simp <;> exact rfl); go_frame) | (apply Free.cw_steadyW rfl rfl rfl; (intro w' hS; have q0 := Free.sx_cell hS p0 (fun _ _ hT => hT); go_simp <;> exact rfl); go_frame) | (refine Free.cw_skip rfl ?_; go_frame)))
  refine Free.cw_loudW rfl rfl (fun K hK => ?_)
  go_wp2_with fail
  refine (sent_c _ B bc bm n vk C (h.out.keeps ((Keeps.refl [] W).drew))).mono ?_
  rintro e _ ⟨rfl, rfl⟩
  refine hK _ _ rfl (Free.KeepsP.refl _ _) ?_
  clear hK K
  simp only [hse.out]
  (repeat (first | (apply Free.cw_pureW rfl rfl; (intro w'; go_simp <;> exact rfl); go_frame) | (apply Free.cw_steadyW rfl rfl rfl; (intro w' hS; have q0 := Free.sx_cell hS p0 (fun _ _ hT => hT); have q1 := Free.sx_cell hS p1 (fun _ _ hT => hT); have q2 := Free.sx_cell hS p2 (fun _ _ hT => hT); have q3 := Free.sx_cell hS p3 (fun _ _ hT => hT); have q4 := Free.sx_cell hS p4 (fun _ _ hT => hT); go_simp <;> exact rfl); go_frame) | (refine Free.cw_skip rfl ?_; go_frame)))
  refine Free.cw_loudW rfl rfl (fun K hK => ?_)
  go_wp2_with fail
  refine (acked_c _ B bc bm n vk C (h.out.keeps ((Keeps.refl [] W).drew))).mono ?_
  rintro e _ ⟨rfl, rfl⟩
  refine hK _ _ rfl (Free.KeepsP.refl _ _) ?_
  clear hK K
  simp only [hae.out]
  (repeat (first | (apply Free.cw_pureW rfl rfl; (intro w'; go_simp <;> exact rfl); go_frame) | (apply Free.cw_steadyW rfl rfl rfl; (intro w' hS; have q0 := Free.sx_cell hS p0 (fun _ _ hT => hT); have q1 := Free.sx_cell hS p1 (fun _ _ hT => hT); have q2 := Free.sx_cell hS p2 (fun _ _ hT => hT); have q3 := Free.sx_cell hS p3 (fun _ _ hT => hT); have q4 := Free.sx_cell hS p4 (fun _ _ hT => hT); go_simp <;> exact rfl); go_frame) | (refine Free.cw_skip rfl ?_; go_frame)))
  refine Free.cw_loudW rfl rfl (fun K hK => ?_)
  go_wp2_with fail
  refine (received_c _ B bc bm n vk C (h.out.keeps ((Keeps.refl [] W).drew))).mono ?_
  rintro e _ ⟨rfl, rfl⟩
  refine hK _ _ rfl (Free.KeepsP.refl _ _) ?_
  clear hK K
  simp only [hre.out]
  (repeat (first | (apply Free.cw_pureW rfl rfl; (intro w'; go_simp <;> exact rfl); go_frame) | (apply Free.cw_steadyW rfl rfl rfl; (intro w' hS; have q0 := Free.sx_cell hS p0 (fun _ _ hT => hT); have q1 := Free.sx_cell hS p1 (fun _ _ hT => hT); have q2 := Free.sx_cell hS p2 (fun _ _ hT => hT); have q3 := Free.sx_cell hS p3 (fun _ _ hT => hT); have q4 := Free.sx_cell hS p4 (fun _ _ hT => hT); go_simp <;> exact rfl); go_frame) | (refine Free.cw_skip rfl ?_; go_frame)))
  refine Free.cw_loudW rfl rfl (fun K hK => ?_)
  go_wp2_with fail
  refine (unacked_c _ B bc bm n vk C (h.out.keeps ((Keeps.refl [] W).drew)) (by rw [hK0.out]; omega) hl.out).mono ?_
  rintro e w1 ⟨v1, rfl, hL1, hk1⟩
  refine hK _ _ rfl (Free.KeepsP.of hk1 (by simp)) ?_
  clear hK K
  obtain ⟨a1, c1, rfl⟩ := hL1.form
  have hk01 : Keeps [] W w1 := ((Keeps.refl [] W).drew).trans hk1
  (repeat (first | (apply Free.cw_pureW rfl rfl; (intro w'; go_simp <;> exact rfl); go_frame) | (apply Free.cw_steadyW rfl rfl rfl; (intro w' hS; have q0 := Free.sx_cell hS p0 (fun _ _ hT => hT); have q1 := Free.sx_cell hS p1 (fun _ _ hT => hT); have q2 := Free.sx_cell hS p2 (fun _ _ hT => hT); have q3 := Free.sx_cell hS p3 (fun _ _ hT => hT); have q4 := Free.sx_cell hS p4 (fun _ _ hT => hT); go_simp <;> exact rfl); go_frame) | (refine Free.cw_skip rfl ?_; go_frame)))
  refine Free.cw_loudW rfl rfl (fun K hK => ?_)
  go_wp2_with fail
  refine (texts_c _ _ _ _ _ hL1.sls (hk.out.keeps hk01)).mono ?_
  rintro e w2 ⟨rfl, hk2⟩
  rw [show decide (C.kept = C.kept) = true from by simp]
  refine hK _ _ rfl (Free.KeepsP.of hk2 (by simp)) ?_
  clear hK K
  have hk02 : Keeps [] W w2 := hk01.trans hk2
  clear hL1 hk1 hk2 hk01
  (repeat (first | (apply Free.cw_pureW rfl rfl; (intro w'; go_simp <;> exact rfl); go_frame) | (apply Free.cw_steadyW rfl rfl rfl; (intro w' hS; have q0 := Free.sx_cell hS p0 (fun _ _ hT => hT); have q1 := Free.sx_cell hS p1 (fun _ _ hT => hT); have q2 := Free.sx_cell hS p2 (fun _ _ hT => hT); have q3 := Free.sx_cell hS p3 (fun _ _ hT => hT); have q4 := Free.sx_cell hS p4 (fun _ _ hT => hT); go_simp <;> exact rfl); go_frame) | (refine Free.cw_skip rfl ?_; go_frame)))
  refine Free.cw_loudW rfl rfl (fun K hK => ?_)
  go_wp2_with fail
  refine (datagrams_c _ B bc bm n vk C (h.out.keeps hk02) (by rw [hK0.out, hae.out]; omega) hl.out).mono ?_
  rintro e w3 ⟨v3, rfl, hL3, hk3⟩
  refine hK _ _ rfl (Free.KeepsP.of hk3 (by simp)) ?_
  clear hK K
  obtain ⟨a3, c3, rfl⟩ := hL3.form
  have hk03 : Keeps [] W w3 := hk02.trans hk3
  clear hk02 hk3
  replace hL3 := Lib.hid hL3
  (repeat (first | (apply Free.cw_pureW rfl rfl; (intro w'; go_simp <;> exact rfl); go_frame) | (apply Free.cw_steadyW rfl rfl rfl; (intro w' hS; have q0 := Free.sx_cell hS p0 (fun _ _ hT => hT); have q1 := Free.sx_cell hS p1 (fun _ _ hT => hT); have q2 := Free.sx_cell hS p2 (fun _ _ hT => hT); have q3 := Free.sx_cell hS p3 (fun _ _ hT => hT); have q4 := Free.sx_cell hS p4 (fun _ _ hT => hT); go_simp <;> exact rfl); go_frame) | (refine Free.cw_skip rfl ?_; go_frame)))
  refine Free.cw_loudW rfl rfl (fun K hK => ?_)
  go_wp2_with fail
  refine (datagramsR_c _ s a r (.slice ak KN ck) (.slice ae me ce) C.kept (hk.out.keeps hk03) (by rw [hK0.out]; omega) hl.out).mono ?_
  rintro e w4 ⟨v4, rfl, hL4, hk4⟩
  refine hK _ _ rfl (Free.KeepsP.of hk4 (by simp)) ?_
  clear hK K
  obtain ⟨a4, c4, rfl⟩ := hL4.form
  have hk04 : Keeps [] W w4 := hk03.trans hk4
  replace hL3 := Lib.hid (hL3.out.keepN hk4)
  clear hk03 hk4
  replace hL4 := Lib.hid hL4
  (repeat (first | (apply Free.cw_pureW rfl rfl; (intro w'; go_simp <;> exact rfl); go_frame) | (apply Free.cw_steadyW rfl rfl rfl; (intro w' hS; have q0 := Free.sx_cell hS p0 (fun _ _ hT => hT); have q1 := Free.sx_cell hS p1 (fun _ _ hT => hT); have q2 := Free.sx_cell hS p2 (fun _ _ hT => hT); have q3 := Free.sx_cell hS p3 (fun _ _ hT => hT); have q4 := Free.sx_cell hS p4 (fun _ _ hT => hT); go_simp <;> exact rfl); go_frame) | (refine Free.cw_skip rfl ?_; go_frame)))
  refine Free.cw_loudW rfl rfl (fun K hK => ?_)
  go_wp2_with fail
  refine (texts_c _ _ _ _ _ hL3.out.sls hL4.out.sls).mono ?_
  rintro e w5 ⟨rfl, hk5⟩
  rw [hae.out, show decide (dgF a C.kept = dgF a C.kept) = true from by simp]
  refine hK _ _ rfl (Free.KeepsP.of hk5 (by simp)) ?_
  clear hK K
  have hk05 : Keeps [] W w5 := hk04.trans hk5
  clear hL3 hL4 hk5 hk04
  (repeat (first | (apply Free.cw_pureW rfl rfl; (intro w'; go_simp <;> exact rfl); go_frame) | (apply Free.cw_steadyW rfl rfl rfl; (intro w' hS; have q0 := Free.sx_cell hS p0 (fun _ _ hT => hT); have q1 := Free.sx_cell hS p1 (fun _ _ hT => hT); have q2 := Free.sx_cell hS p2 (fun _ _ hT => hT); have q3 := Free.sx_cell hS p3 (fun _ _ hT => hT); have q4 := Free.sx_cell hS p4 (fun _ _ hT => hT); go_simp <;> exact rfl); go_frame) | (refine Free.cw_skip rfl ?_; go_frame)))
  refine Free.cw_loudW rfl rfl (fun K hK => ?_)
  go_wp2_with fail
  refine (ack_c _ bc r (hk05.val (by have := h.out.cells.2.2.1; rw [hre.out] at this; exact this)) (by omega)).mono ?_
  rintro e w6 ⟨v6, rfl, hB6, hk6⟩
  refine hK _ _ rfl (Free.KeepsP.of hk6 (by simp)) ?_
  clear hK K
  obtain ⟨a6, c6, rfl⟩ := hB6.form
  have hk06 : Keeps [] W w6 := hk05.trans hk6
  clear hk05 hk6
  replace hB6 := Lib.hid hB6
  (repeat (first | (apply Free.cw_pureW rfl rfl; (intro w'; go_simp <;> exact rfl); go_frame) | (apply Free.cw_steadyW rfl rfl rfl; (intro w' hS; have q0 := Free.sx_cell hS p0 (fun _ _ hT => hT); have q1 := Free.sx_cell hS p1 (fun _ _ hT => hT); have q2 := Free.sx_cell hS p2 (fun _ _ hT => hT); have q3 := Free.sx_cell hS p3 (fun _ _ hT => hT); have q4 := Free.sx_cell hS p4 (fun _ _ hT => hT); go_simp <;> exact rfl); go_frame) | (refine Free.cw_skip rfl ?_; go_frame)))
  refine Free.cw_loudW rfl rfl (fun K hK => ?_)
  go_wp2_with fail
  refine (ackR_c _ r (by omega)).mono ?_
  rintro e w7 ⟨v7, rfl, hB7, hk7⟩
  refine hK _ _ rfl (Free.KeepsP.of hk7 (by simp)) ?_
  clear hK K
  obtain ⟨a7, c7, rfl⟩ := hB7.form
  have hk07 : Keeps [] W w7 := hk06.trans hk7
  replace hB6 := Lib.hid (hB6.out.slB.keeps hk7)
  replace hB7 := Lib.hid hB7
  clear hk06 hk7
  (repeat (first | (apply Free.cw_pureW rfl rfl; (intro w'; go_simp <;> exact rfl); go_frame) | (apply Free.cw_steadyW rfl rfl rfl; (intro w' hS; have q0 := Free.sx_cell hS p0 (fun _ _ hT => hT); have q1 := Free.sx_cell hS p1 (fun _ _ hT => hT); have q2 := Free.sx_cell hS p2 (fun _ _ hT => hT); have q3 := Free.sx_cell hS p3 (fun _ _ hT => hT); have q4 := Free.sx_cell hS p4 (fun _ _ hT => hT); go_simp <;> exact rfl); go_frame) | (refine Free.cw_skip rfl ?_; go_frame)))
  refine Free.cw_loudW rfl rfl (fun K hK => ?_)
  go_wp2_with fail
  refine (same_c _ _ _ (ackB r) (ackB r) hB6.out hB7.out.slB).mono ?_
  rintro e _ ⟨rfl, rfl⟩
  rw [show decide (ackB r = ackB r) = true from by simp]
  refine hK _ _ rfl (Free.KeepsP.refl _ _) ?_
  clear hK K
  (repeat (first | (apply Free.cw_pureW rfl rfl; (intro w'; go_simp <;> exact rfl); go_frame) | (apply Free.cw_steadyW rfl rfl rfl; (intro w' hS; have q0 := Free.sx_cell hS p0 (fun _ _ hT => hT); have q1 := Free.sx_cell hS p1 (fun _ _ hT => hT); have q2 := Free.sx_cell hS p2 (fun _ _ hT => hT); have q3 := Free.sx_cell hS p3 (fun _ _ hT => hT); have q4 := Free.sx_cell hS p4 (fun _ _ hT => hT); go_simp <;> exact rfl); go_frame) | (refine Free.cw_skip rfl ?_; go_frame)))
  refine Free.cw_nil ?_
  go_wp2
  go_ret
  exact ⟨rfl, hkA.out.trans hk07⟩
end Go.Proofs.Ytilmcdieihmiaaa

namespace Go.Proofs.Ytilmcdieihmiaaa
open Go.RowKit

theorem Sl.keepS {w w' : World} {sz n : Nat} {v : Value} {cs : List Value} {S : List Nat} (h : Sl w sz v n cs) (hk : Keeps S w w') (hS : ∀ b ∈ S, v.ownBlock ≠ some b) : Sl w' sz v n cs := by
  obtain ⟨h1, a, cap, rfl, h2, h3, h0, h4⟩ := h
  refine ⟨h1, a, cap, rfl, h2, h3, h0, fun hp => ?_⟩
  obtain ⟨g, o, rfl, hc⟩ := h4 hp
  refine ⟨g, o, rfl, fun j u hj => ?_⟩
  have := hc j u hj
  rw [hk.cell g _ (lt_of_cell this) (fun hm => hS g hm rfl)]
  exact this
theorem SLs.keepS {w w' : World} {v : Value} {ls : List Bytes} {S : List Nat} (h : SLs w v ls) (hk : Keeps S w w') (hS : ∀ b ∈ S, v.ownBlock ≠ some b) (hb : KB w w') : SLs w' v ls := by
  obtain ⟨cs, h1, h2⟩ := h
  exact ⟨cs, h1.keepS hk hS, fun k c l hc hl => (h2 k c l hc hl).kb hb⟩
theorem SE.keepS {w w' : World} {v : Value} {L : List NB} {S : List Nat} (h : SE w v L) (hk : Keeps S w w') (hS : ∀ b ∈ S, v.ownBlock ≠ some b) (hb : KB w w') : SE w' v L := by
  obtain ⟨cs, h1, h2⟩ := h
  exact ⟨cs, h1.keepS hk hS, h2.kb hb⟩
/-- The blocks that an end may write. -/
def own3 (bc bm : Nat) (vk : Value) : List Nat := bc :: bm :: vk.ownBlock.toList
/-- The end and the model's end, side by side and apart. -/
structure BothW (w : World) (B bc bm n : Nat) (vk vke vee : Value) (C : Chan) (E : REnd) : Prop where
  ch : Ch w B bc bm n vk C
  hB : B ≤ w.heap.size
  ne : vk.ownBlock ≠ some bc
  re : RE w vke vee E
  sep : ∀ b ∈ own3 bc bm vk, vke.ownBlock ≠ some b ∧ vee.ownBlock ≠ some b
  lt : ∀ b, vke.ownBlock = some b ∨ vee.ownBlock = some b → b < w.heap.size
  nk : NE w vke
  ny : NE w vee
theorem BothW.keeps {w w' : World} {B bc bm n : Nat} {vk vke vee : Value} {C : Chan} {E : REnd} (h : BothW w B bc bm n vk vke vee C E) (hk : Keeps [] w w') : BothW w' B bc bm n vk vke vee C E :=
  ⟨h.ch.keeps hk, Nat.le_trans h.hB hk.size, h.ne, h.re.keeps hk, h.sep, fun b hb => Nat.lt_of_lt_of_le (h.lt b hb) hk.size, h.nk.keep hk (by simp) (fun b e => h.lt b (.inl e)), h.ny.keep hk (by simp) (fun b e => h.lt b (.inr e))⟩
/-- What an operation of the list does. -/
def dgm (k : Nat) (N : Int) (d : Bytes) : Bytes := if k = 2 then dataB (uOf N) d else if k = 3 then ackB (uOf N) else d
def StepR (C : Chan) (k : Nat) (N : Int) (d : Bytes) (C' : Chan) : Prop :=
  (2 ≤ k → k ≤ 4 → ∃ o c, Rcv C (dgm k N d) C' o c) ∧ (k < 2 → C' = { C with sent := C.sent + 1, kept := C.kept ++ [d] }) ∧ (4 < k → C' = C)
def StepPost (w : World) (B bc bm n T D : Nat) (vk : Value) (C : Chan) (k : Nat) (N : Int) (d : Bytes) (e : Ending) (w' : World) : Prop :=
  ∃ vk' n' C' vke' vee' E', e = .returned (.tuple #[.agg #[.int .i64 E'.sent, .int .i64 E'.acked, vke', .int .i64 E'.received, vee'], .bool true]) ∧ BothW w' B bc bm n' vk' vke' vee' C' E' ∧ Joint C' E' (T + 1) D ∧ n' ≤ n + 1 ∧ StepR C k N d C' ∧
    Keeps (own3 bc bm vk) w w' ∧ KB w w' ∧ (vk'.ownBlock = vk.ownBlock ∨ ∀ b, vk'.ownBlock = some b → w.heap.size ≤ b)
theorem results_step {fn : Func} {p u : Tmp} (h : fn.results = #[.cell p tyEnd, .tmp u]) (tmps : Array Value) (w : World) (g : Nat) (t : TypeId) (x0 x1 x2 x3 x4 y : Value) (f : Nat × Nat) (hp : tmps.getD p undef = .pointer (some ⟨g, 0, none⟩)) (hu : tmps.getD u undef = y)
    (hg : w.heap[g]? = some (.cells #[x0, x1, x2, x3, x4] t f)) : (results fn tmps).run Try.prog w = .ok (.tuple #[.agg #[x0, x1, x2, x3, x4], y]) w := by
  rw [results_end2 h tmps w g t x0 x1 x2 x3 x4 f hp hg, hu]
theorem KB.drews {a b : World} (h : KB a b) : KB a.drew b.drew := fun x o v hx => h x o v hx
theorem Keeps.drews {S : List Nat} {a b : World} (h : Keeps S a b) : Keeps S a.drew b.drew := ⟨h.os, h.tape, h.output, h.size, h.block⟩
theorem cells3 {w : World} {b : Nat} {x0 x1 x2 : Value} {t : TypeId} (h : w.heap[b]? = some (.cells #[x0, x1, x2] t (0, 0))) :
    w.cell? ⟨b, 0, none⟩ = some x0 ∧ w.cell? ⟨b, 1, none⟩ = some x1 ∧ w.cell? ⟨b, 2, none⟩ = some x2 := by
  exact ⟨by simp [World.cell?, h], by simp [World.cell?, h], by simp [World.cell?, h]⟩
theorem box_three (w : World) (A B C : Obj) : (((w.alloc A).alloc B).alloc C).heap[w.heap.size]? = some A ∧ (((w.alloc A).alloc B).alloc C).heap[w.heap.size + 1]? = some B ∧ (((w.alloc A).alloc B).alloc C).heap[w.heap.size + 2]? = some C ∧ Keeps [] w (((w.alloc A).alloc B).alloc C) ∧ (((w.alloc A).alloc B).alloc C).heap.size = w.heap.size + 3 :=
  ⟨heap_box2 w A B C, heap_box3 w A B C, by simpa using heap_alloc_new ((w.alloc A).alloc B) C, (((Keeps.refl [] w).alloc _).alloc _).alloc _, by simp⟩
theorem send_post {w W w1 w3 w5 : World} {B bc bm n T D s a r : Nat} {vk vk1 vke vee vke2 : Value} {C : Chan} {E : REnd} {k : Nat} {N : Int} {d : Bytes} (hny0 : NE w vee) (hre0 : RE w vke vee E) (hsep : ∀ b ∈ own3 bc bm vk, vke.ownBlock ≠ some b ∧ vee.ownBlock ≠ some b)
    (hlt0 : ∀ b, vke.ownBlock = some b ∨ vee.ownBlock = some b → b < w.heap.size) (hbl : bc < w.heap.size) (hml : bm < w.heap.size) (hvl : ∀ b, vk.ownBlock = some b → b < w.heap.size) (hB : B ≤ w.heap.size) (hJ : Joint C E T D) (hdl : d.length ≤ D)
    (hse : E.sent = s) (hae : E.acked = a) (hre : E.received = r) (hCs : C.sent = s) (hk : k < 2) (b4 : Keeps [] w W) (b5 : W.heap.size = w.heap.size + 3)
    (hC1 : KL w1 B vk1 (C.kept ++ [d])) (hk1 : Keeps (bc :: vk.ownBlock.toList) W w1) (hkb1 : KB W w1) (hne1 : vk1.ownBlock ≠ some bc) (how1 : vk1.ownBlock = vk.ownBlock ∨ ∃ k, vk1.ownBlock = some k ∧ W.heap.size ≤ k)
    (hC2 : Ch w3 B bc bm n vk1 { C with sent := s + 1, kept := C.kept ++ [d] }) (hL2 : KL w3 w1.heap.size vke2 (E.kept ++ [d])) (hkA : Keeps [] w1 w3) (g2 : Keeps [w.heap.size + 2] w3.drew w5) (g3 : KB w3.drew w5) :
    StepPost w B bc bm n T D vk C k N d (.returned (.tuple #[.agg #[.int .i64 ((s : Int) + 1), .int .i64 a, vke2, .int .i64 r, vee], .bool true])) w5 := by
  have hS1 : ∀ b ∈ bc :: vk.ownBlock.toList, b ∈ own3 bc bm vk := fun b hb => by simp [own3] at hb ⊢; rcases hb with h | h <;> simp [h]
  have hsz1 := hk1.size
  have hge1 := fun b e => ge_own hC1 b e
  have hge2 := fun b e => ge_own hL2 b e
  have hvk1 : ∀ b, vk1.ownBlock = some b → (b ∈ own3 bc bm vk ∧ b < w.heap.size) ∨ w.heap.size + 3 ≤ b := fun b e => by
    rcases how1 with e2 | ⟨k, e2, hk⟩
    · exact .inl ⟨by simp [own3, ← e2, e], hvl b (by rw [← e2]; exact e)⟩
    · rw [e2] at e; cases e; exact .inr (by omega)
  have htot : Keeps (own3 bc bm vk) w w5 := ((b4.of_nil.trans (hk1.mono hS1)).trans hkA.of_nil).drew.fresh g2 (by intro x hx; simp at hx; exact .inr (by omega))
  have hkbt : KB w w5 := (b4.kb0.trans hkb1).trans (hkA.kb0.trans ((KB.drew _).trans g3))
  have hL2f := KL.keep (S := [w.heap.size + 2]) (hL2.keepN ((Keeps.refl [] w3).drew)) g2 (fun b hb e => by have := (hge2 b e).1; simp at hb; omega) g3
  have hdd : w3.drew.heap.size = w3.heap.size := rfl
  have hfs := g2.size
  rw [hdd] at hfs
  have hfA := hkA.size
  have hnk5 : NE w5 vke2 := by
    obtain ⟨cs0, hown0, _⟩ := hL2f
    exact NE.of_owns hown0 (by decide)
  refine ⟨vk1, n, { C with sent := s + 1, kept := C.kept ++ [d] }, _, _, ⟨s + 1, a, E.kept ++ [d], r, E.early⟩, rfl, ⟨?_, ?_, hne1, ⟨hL2f.sls, ?_⟩, ?_, ?_, hnk5, hny0.keep htot (fun b hb => (hsep b hb).2) (fun b e => hlt0 b (.inr e))⟩, ?_, by omega, ⟨fun h2 => by omega, fun _ => by rw [hCs], fun h4 => by omega⟩, htot, hkbt, ?_⟩
  · exact (hC2.keeps ((Keeps.refl [] w3).drew)).keepS g2 (fun hm => by simp at hm; omega) (fun hm => by simp at hm; omega) (fun b hb e => by simp at hb; rcases hvk1 b e with h | h <;> omega) g3
  · omega
  · exact hre0.early.keepS htot (fun b hb => (hsep b hb).2) hkbt
  · intro b hb
    have hb' : b ∈ own3 bc bm vk ∧ b < w.heap.size ∨ w.heap.size + 3 ≤ b ∧ b < w1.heap.size := by
      simp only [own3, List.mem_cons, Option.mem_toList] at hb
      rcases hb with rfl | rfl | hb
      · exact .inl ⟨by simp [own3], hbl⟩
      · exact .inl ⟨by simp [own3], hml⟩
      · rcases hvk1 b hb with h | h
        · exact .inl h
        · exact .inr ⟨h, (hge1 b hb).2⟩
    refine ⟨fun e => ?_, fun e => ?_⟩
    · have := (hge2 b e).1
      rcases hb' with h | h <;> omega
    · rcases hb' with h | h
      · exact (hsep b h.1).2 e
      · have := hlt0 b (.inr e); omega
  · rintro b (e | e)
    · have := (hge2 b e).2; omega
    · have := hlt0 b (.inr e); omega
  · have := hJ.send hdl
    rw [hse, hae, hre, hCs] at this
    exact this
  · rcases how1 with e | ⟨k, e, hk⟩
    · exact .inl e
    · exact .inr fun b e2 => by rw [e] at e2; cases e2; omega
end Go.Proofs.Ytilmcdieihmiaaa

namespace Go.Proofs.Ytilmcdieihmiaaa
open Go.RowKit
theorem recv_post {w W w1 w3 w5 : World} {B bc bm n n1 T D : Nat} {vk vk1 vke vee vke2 vee2 : Value} {C C1 : Chan} {E E2 : REnd} {k : Nat} {N : Int} {d : Bytes} (hnk0 : NE w vke) (hny0 : NE w vee) (_hre0 : RE w vke vee E) (hsep : ∀ b ∈ own3 bc bm vk, vke.ownBlock ≠ some b ∧ vee.ownBlock ≠ some b)
    (hlt0 : ∀ b, vke.ownBlock = some b ∨ vee.ownBlock = some b → b < w.heap.size) (hbl : bc < w.heap.size) (hml : bm < w.heap.size) (hvl : ∀ b, vk.ownBlock = some b → b < w.heap.size) (hB : B ≤ w.heap.size) (b4 : Keeps [] w W) (b5 : w.heap.size + 3 ≤ W.heap.size)
    (hC1 : KL w1 B vk1 C1.kept) (hk1 : Keeps [bc, bm] W w1) (hkb1 : KB W w1) (hne1 : vk1.ownBlock ≠ some bc) (how1 : vk1.ownBlock = vk.ownBlock ∨ ∀ k, vk1.ownBlock = some k → W.heap.size ≤ k)
    (hC3 : Ch w3 B bc bm n1 vk1 C1) (hn1 : n1 ≤ n + 1) (hRE3 : RE w3 vke2 vee2 E2) (hkA : Keeps [] w1 w3) (howk : vke2.ownBlock = vke.ownBlock) (howe : vee2.ownBlock = vee.ownBlock ∨ ∀ b, vee2.ownBlock = some b → w1.heap.size ≤ b ∧ b < w3.heap.size ∧ ∀ cs f, w3.heap[b]? ≠ some (.cells cs tyEnd f))
    (hJ1 : Joint C1 E2 (T + 1) D) (hS : StepR C k N d C1) (g2 : Keeps [w.heap.size + 2] w3 w5) (g3 : KB w3 w5) :
    StepPost w B bc bm n T D vk C k N d (.returned (.tuple #[.agg #[.int .i64 E2.sent, .int .i64 E2.acked, vke2, .int .i64 E2.received, vee2], .bool true])) w5 := by
  have hsz1 := hk1.size
  have hge1 := fun b e => ge_own hC1 b e
  have hvk1 : ∀ b, vk1.ownBlock = some b → (b ∈ own3 bc bm vk ∧ b < w.heap.size) ∨ w.heap.size + 3 ≤ b := fun b e => by
    rcases how1 with e2 | hk
    · exact .inl ⟨by simp [own3, ← e2, e], hvl b (by rw [← e2]; exact e)⟩
    · have := hk b e; exact .inr (by omega)
  have hS1 : ∀ b ∈ [bc, bm], b ∈ own3 bc bm vk := fun b hb => by simp [own3] at hb ⊢; rcases hb with h | h <;> simp [h]
  have htot : Keeps (own3 bc bm vk) w w5 := ((b4.of_nil.trans (hk1.mono hS1)).trans hkA.of_nil).fresh g2 (by intro x hx; simp at hx; exact .inr (by omega))
  have hkbt : KB w w5 := (b4.kb0.trans hkb1).trans (hkA.kb0.trans g3)
  have hfs := g2.size
  have hfA := hkA.size
  have hd3 : Keeps [] w3 w3 := Keeps.refl [] w3
  have hown : ∀ b, vke2.ownBlock = some b ∨ vee2.ownBlock = some b → b < w.heap.size ∨ (w1.heap.size ≤ b ∧ b < w3.heap.size) := by
    rintro b (e | e)
    · exact .inl (hlt0 b (.inl (by rw [← howk]; exact e)))
    · rcases howe with h | h
      · exact .inl (hlt0 b (.inr (by rw [← h]; exact e)))
      · exact .inr ⟨(h b e).1, (h b e).2.1⟩
  refine ⟨vk1, n1, C1, vke2, vee2, E2, rfl, ⟨?_, by omega, hne1, ⟨?_, ?_⟩, ?_, ?_, ?_, ?_⟩, hJ1, hn1, hS, htot, hkbt, ?_⟩
  · exact (hC3.keeps hd3).keepS g2 (fun hm => by simp at hm; omega) (fun hm => by simp at hm; omega) (fun b hb e => by simp at hb; rcases hvk1 b e with h | h <;> omega) g3
  · exact (hRE3.kept.keeps hd3).keepS g2 (fun b hb e => by simp at hb; rcases hown b (.inl e) with h | h <;> omega) g3
  · exact (hRE3.early.keeps hd3).keepS g2 (fun b hb e => by simp at hb; rcases hown b (.inr e) with h | h <;> omega) g3
  · intro b hb
    have hb' : b ∈ own3 bc bm vk ∧ b < w.heap.size ∨ w.heap.size + 3 ≤ b ∧ b < w1.heap.size := by
      simp only [own3, List.mem_cons, Option.mem_toList] at hb
      rcases hb with rfl | rfl | hb
      · exact .inl ⟨by simp [own3], hbl⟩
      · exact .inl ⟨by simp [own3], hml⟩
      · rcases hvk1 b hb with h | h
        · exact .inl h
        · exact .inr ⟨h, (hge1 b hb).2⟩
    refine ⟨fun e => ?_, fun e => ?_⟩
    · rw [howk] at e
      rcases hb' with h | h
      · exact (hsep b h.1).1 e
      · have := hlt0 b (.inl e); omega
    · rcases howe with he | he
      · rw [he] at e
        rcases hb' with h | h
        · exact (hsep b h.1).2 e
        · have := hlt0 b (.inr e); omega
      · have := he b e
        rcases hb' with h | h <;> omega
  · intro b hb
    rcases hown b hb with h | h <;> omega
  · intro b e
    rw [howk] at e
    exact (hnk0.keep htot (fun b hb => (hsep b hb).1) (fun b e => hlt0 b (.inl e))) b e
  · rcases howe with he | he
    · intro b e
      rw [he] at e
      exact (hny0.keep htot (fun b hb => (hsep b hb).2) (fun b e => hlt0 b (.inr e))) b e
    · intro b e cs f e2
      have h1 := he b e
      rw [g2.block b h1.2.1 (by simp; omega)] at e2
      exact h1.2.2 cs f e2
  · rcases how1 with e | hk
    · exact .inl e
    · exact .inr fun b e => by have := hk b e; omega
end Go.Proofs.Ytilmcdieihmiaaa

namespace Go.Proofs.Ytilmcdieihmiaaa
open Go.RowKit
set_option maxRecDepth 100000 in
set_option maxHeartbeats 12000000 in
theorem step_recv2 (w : World) (B bc bm n T D : Nat) (vk vke vee vd : Value) (C : Chan) (E : REnd) (N : Int) (d : Bytes) (h : BothW w B bc bm n vk vke vee C E) (hJ : Joint C E T D) (hT : T < 900000) (hn : n ≤ T) (hD : D ≤ 100000) (hN : -9223372036854775808 ≤ N ∧ N ≤ 9223372036854775807) (hd : SlB w vd d) (hdl : d.length ≤ D) :
    Calls Try.prog 19 #[.pointer (some ⟨bc, 0, none⟩), .agg #[.int .i64 E.sent, .int .i64 E.acked, vke, .int .i64 E.received, vee], .agg #[.int .u8 (2 : Nat), .int .i64 N, vd]] w (StepPost w B bc bm n T D vk C 2 N d) := by
  obtain ⟨ae, ce, rfl⟩ := h.re.early.form
  obtain ⟨ak, ck, rfl, hkm⟩ := h.re.kept.form
  obtain ⟨ad, cd, rfl⟩ := hd.form
  obtain ⟨s, hse⟩ : ∃ s, E.sent = s := ⟨_, rfl⟩
  obtain ⟨a, hae⟩ : ∃ s, E.acked = s := ⟨_, rfl⟩
  obtain ⟨r, hre⟩ : ∃ s, E.received = s := ⟨_, rfl⟩
  obtain ⟨KN, hK⟩ : ∃ s, E.kept.length = s := ⟨_, rfl⟩
  obtain ⟨EN, hEN⟩ : ∃ s, E.early.length = s := ⟨_, rfl⟩
  obtain ⟨DN, hDN⟩ : ∃ s, d.length = s := ⟨_, rfl⟩
  rw [hK, hEN] at h
  rw [hDN] at hd
  rw [hse, hae, hre, hK, hEN, hDN]
  obtain ⟨b1, b2, b3, b4, b5⟩ := box_three w (.cells #[.int .i64 s, .int .i64 a, .slice ak KN ck, .int .i64 r, .slice ae EN ce] tyEnd) (.cells #[.int .u8 (2 : Nat), .int .i64 N, .slice ad DN cd] 48) zEnd
  have hW := h.keeps b4
  have hdW := hd.keeps b4
  obtain ⟨p0, p1, p2, p3, p4, pf, plt⟩ := cells5 b1
  obtain ⟨o0, o1, o2⟩ := cells3 b2
  obtain ⟨z0, z1, z2, z3, z4, zf, zlt⟩ := cells5 b3
  have hsent := hJ.sent
  have hsum := hJ.sum
  have hrecv := hJ.recv
  have hCs : C.sent = s := by rw [← hse]; exact hJ.agr.sent
  have hbl := h.ch.cells.2.2.2.2.2.2
  have hml := h.ch.early.lt
  have hvl : ∀ b, vk.ownBlock = some b → b < w.heap.size := fun b hb => (ge_own h.ch.kept b hb).2
  have hsep := h.sep
  have hlt0 := h.lt
  have hB0 := h.hB
  have hre0 := h.re
  have hnk0 := h.nk
  have hny0 := h.ny
  replace hJ := Lib.hid hJ
  replace hse := Lib.hid hse
  replace hae := Lib.hid hae
  replace hre := Lib.hid hre
  have hKK := Lib.hid hK
  replace hEN := Lib.hid hEN
  replace hDN := Lib.hid hDN
  replace hW := Lib.hid hW
  replace hdW := Lib.hid hdW
  replace hsep := Lib.hid hsep
  replace hlt0 := Lib.hid hlt0
  replace hre0 := Lib.hid hre0
  replace hnk0 := Lib.hid hnk0
  replace hny0 := Lib.hid hny0
  replace hvl := Lib.hid hvl
  replace b1 := Lib.hid b1
  replace b2 := Lib.hid b2
  replace b3 := Lib.hid b3
  replace b4 := Lib.hid b4
  clear h hd hK
  have hl0 := hdl
  rw [hDN.out] at hl0
  · go_enter Try.func19, Try.ntmps19
    go_wp2_with fail
    generalize (((w.alloc (.cells #[.int .i64 s, .int .i64 a, .slice ak KN ck, .int .i64 r, .slice ae EN ce] tyEnd)).alloc (.cells #[.int .u8 _, .int .i64 N, .slice ad DN cd] 48)).alloc zEnd) = W at *
    refine (dataRi_c _ _ d N hdW.out (by rw [hDN.out]; omega)).mono ?_
    rintro e wX ⟨vx, rfl, hBX, hkX⟩
    have hdX := hBX.slB
    obtain ⟨ax, cx, rfl⟩ := hdX.form
    have hLX0 : (dataB (uOf N) d).length ≤ DN + 10 := by have := encU_len (uOf_lt N); have := hDN.out; simp [dataB]; omega
    obtain ⟨LX, hLX⟩ : ∃ n, (dataB (uOf N) d).length = n := ⟨_, rfl⟩
    rw [hLX] at hdX hLX0 ⊢
    replace hLX := Lib.hid hLX
    clear hBX
    have hWX := hW.out.keeps hkX
    have hp1 := (hkX.block w.heap.size (by omega) (by simp)).trans b1.out
    have ho1 := (hkX.block (w.heap.size + 1) (by omega) (by simp)).trans b2.out
    have hz1 := (hkX.block (w.heap.size + 2) (by omega) (by simp)).trans b3.out
    have hszX := hkX.size
    obtain ⟨p0, p1, p2, p3, p4, pf, plt⟩ := cells5 hp1
    obtain ⟨o0, o1, o2⟩ := cells3 ho1
    have hlx : (dataB (uOf N) d).length ≤ 140737488350000 := by rw [hLX.out]; omega
    replace hp1 := Lib.hid hp1
    replace ho1 := Lib.hid ho1
    replace hz1 := Lib.hid hz1
    replace hWX := Lib.hid hWX
    replace hdX := Lib.hid hdX
    replace hkX := Lib.hid (b4.out.trans hkX)
    replace hlx := Lib.hid hlx
    go_wp2_with fail
    refine (recvC _ B bc bm n T D vk _ C E (dataB (uOf N) d) hWX.out.ch hWX.out.ne hWX.out.hB hJ.out (by omega) hn hdX.out hlx.out).mono ?_
    rintro e w1 ⟨v1, vk1, C1, outs1, n1, k1, rfl, hL1, hC1, hn1, hR1, hk1, hkb1, hne1, how1⟩
    have hS1 : ∀ b ∈ [bc, bm], b ∈ own3 bc bm vk := fun b hb => by simp [own3] at hb ⊢; rcases hb with h | h <;> simp [h]
    have hlow : ∀ b ∈ [bc, bm], b < w.heap.size := fun b hb => by simp at hb; rcases hb with h | h <;> omega
    have hp2 := (hk1.block w.heap.size (by omega) (fun hm => by have := hlow _ hm; omega)).trans hp1.out
    have hz2 := (hk1.block (w.heap.size + 2) (by omega) (fun hm => by have := hlow _ hm; omega)).trans hz1.out
    have hRE1 : RE w1 (.slice ak KN ck) (.slice ae EN ce) E :=
      ⟨hWX.out.re.kept.keepS hk1 (fun b hb => (hsep.out b (hS1 b hb)).1) hkb1, hWX.out.re.early.keepS hk1 (fun b hb => (hsep.out b (hS1 b hb)).2) hkb1⟩
    have hd1 := hdX.out.kb hkb1
    have hsz1 := hk1.size
    obtain ⟨a1, c1, rfl⟩ := hL1.form
    obtain ⟨O1, hO1⟩ : ∃ n, outs1.length = n := ⟨_, rfl⟩
    rw [hO1] at hL1 ⊢
    replace hO1 := Lib.hid hO1
    obtain ⟨p0, p1, p2, p3, p4, pf, plt⟩ := cells5 hp2
    replace hz2 := Lib.hid hz2
    replace hC1 := Lib.hid hC1
    replace hd1 := Lib.hid hd1
    replace hk1 := Lib.hid hk1
    replace hkb1 := Lib.hid hkb1
    replace how1 := Lib.hid how1
    replace hR1 := Lib.hid hR1
    replace hL1 := Lib.hid hL1
    replace hRE1 := Lib.hid hRE1
    go_wp2_with fail
    have hrr := recvRR w1 T D (.slice ak KN ck) (.slice ae EN ce) _ C E (dataB (uOf N) d) hRE1.out hJ.out (by omega) hd1.out hlx.out
    rw [hse.out, hae.out, hre.out] at hrr
    refine hrr.mono ?_
    clear hrr
    rintro e w2 ⟨vk2, ve2, vo2, E2, outs2, k2, rfl, hRE2, hL2, hR2, hk2, how2, hoe2⟩
    obtain ⟨hJ1, rfl, rfl⟩ := hJ.out.rcv hR1.out hR2
    have hz3 := (hk2.block _ (by omega) (by simp)).trans hz2.out
    have hsz2 := hk2.size
    have hC2 := hC1.out.keeps hk2
    have hL12 := hL1.out.keepN hk2
    obtain ⟨ak2, ck2, rfl, _⟩ := hRE2.kept.form
    obtain ⟨ae2, ce2, rfl⟩ := hRE2.early.form
    obtain ⟨a2, c2, rfl⟩ := hL2.form
    obtain ⟨s2, hs2⟩ : ∃ x, E2.sent = x := ⟨_, rfl⟩
    obtain ⟨q2, hq2⟩ : ∃ x, E2.acked = x := ⟨_, rfl⟩
    obtain ⟨r2, hr2⟩ : ∃ x, E2.received = x := ⟨_, rfl⟩
    obtain ⟨K2, hK2⟩ : ∃ x, E2.kept.length = x := ⟨_, rfl⟩
    obtain ⟨N2, hN2⟩ : ∃ x, E2.early.length = x := ⟨_, rfl⟩
    rw [hK2, hN2] at hRE2
    rw [hK2] at how2
    rw [hN2] at hoe2
    rw [hs2, hq2, hr2, hK2, hN2]
    rw [hO1.out] at hL2 ⊢
    have hkA : Keeps [] w2 (w2.alloc (.cells #[.int .i64 s2, .int .i64 q2, .slice ak2 K2 ck2, .int .i64 r2, .slice ae2 N2 ce2] tyEnd)) := (Keeps.refl _ _).alloc _
    have hy2 := heap_alloc_new w2 (.cells #[.int .i64 s2, .int .i64 q2, .slice ak2 K2 ck2, .int .i64 r2, .slice ae2 N2 ce2] tyEnd)
    obtain ⟨y0, y1, y2, y3, y4, yf, ylt⟩ := cells5 hy2
    have hz3' := (hkA.block _ (by omega) (by simp)).trans hz3
    obtain ⟨u0, u1, u2, u3, u4, uf, ult⟩ := cells5 hz3'
    have hszA : (w2.alloc (.cells #[.int .i64 s2, .int .i64 q2, .slice ak2 K2 ck2, .int .i64 r2, .slice ae2 N2 ce2] tyEnd)).heap.size = w2.heap.size + 1 := by simp
    replace hs2 := Lib.hid hs2
    replace hq2 := Lib.hid hq2
    replace hr2 := Lib.hid hr2
    replace hK2 := Lib.hid hK2
    replace hN2 := Lib.hid hN2
    replace hz3' := Lib.hid hz3'
    replace hC2 := Lib.hid (hC2.keeps hkA)
    replace hL2 := Lib.hid (hL2.keepN hkA)
    replace hL12 := Lib.hid (hL12.keepN hkA)
    replace hRE2 := Lib.hid (hRE2.keeps hkA)
    have hAW := Lib.hid hkA
    replace hkA := Lib.hid (hk2.trans hkA)
    replace how2 := Lib.hid how2
    replace hoe2 := Lib.hid hoe2
    replace hJ1 := Lib.hid hJ1
    replace hR2 := Lib.hid hR2
    clear hRE1 hd1 hz3 hy2
    go_wp2
    generalize (w2.alloc (.cells #[.int .i64 s2, .int .i64 q2, .slice ak2 K2 ck2, .int .i64 r2, .slice ae2 N2 ce2] tyEnd)) = w3 at *
    have hsep2 : w2.heap.size = w.heap.size + 2 → False := fun e => by omega
    refine Free.wp_region_chain (fun i => i == 7 || i == 9) (fun i => true) (fun j b => j = 9 ∧ b = w.heap.size + 2) (by kernel_rfl) (by kernel_rfl) (by kernel_rfl) ?_
    (repeat (first | (apply Free.cw_pureW rfl rfl; (intro w'; go_simp <;> exact rfl); go_frame) | (apply Free.cw_steadyW rfl rfl rfl; (intro w' hS; have q0 := Free.sx_cell hS y0 (fun _ _ hT => hsep2 hT.2); have q1 := Free.sx_cell hS y1 (fun _ _ hT => hsep2 hT.2); have q2 := Free.sx_cell hS y2 (fun _ _ hT => hsep2 hT.2); have q3 := Free.sx_cell hS y3 (fun _ _ hT => hsep2 hT.2); have q4 := Free.sx_cell hS y4 (fun _ _ hT => hsep2 hT.2); go_simp <;> exact rfl); go_frame) | (refine Free.cw_skip rfl ?_; go_frame)))
    refine Free.cw_loudW rfl rfl (fun K hK => ?_)
    go_wp2_with fail
    refine (texts_c _ _ _ _ _ (hL12.out.keepN ((Keeps.refl [] w3).drew)).sls (hL2.out.keepN ((Keeps.refl [] w3).drew)).sls).mono ?_
    rintro e w4 ⟨rfl, hk4⟩
    refine hK _ _ rfl (Free.KeepsP.of hk4 (by simp)) ?_
    clear hK K
    rw [show decide (outs1 = outs1) = true from by simp]
    have hk4' : Keeps [] w3 w4 := ((Keeps.refl [] w3).drew).trans hk4
    have hz4 := (hk4'.block _ ult (by simp)).trans hz3'.out
    obtain ⟨u0, u1, u2, u3, u4, uf, ult⟩ := cells5 hz4
    (repeat (apply Free.cw_pureW rfl rfl; (intro w'; go_simp <;> exact rfl); go_frame))
    have hfin := set5_all (w := w4) hz4 (by simp [noB]) (.int .i64 s2) (.int .i64 q2) (.slice ak2 K2 ck2) (.int .i64 r2) (.slice ae2 N2 ce2)
    replace hfin := Lib.hid hfin
    replace hz4 := Lib.hid hz4
    refine Free.cw_loudW rfl rfl (fun K hK => ?_)
    go_wp2
    refine hK _ _ rfl (Free.KeepsP.of hfin.out.2.1 (fun b hb => ⟨trivial, by simpa using hb⟩)) ?_
    clear hK K
    (repeat (apply Free.cw_pureW rfl rfl; (intro w'; go_simp <;> exact rfl); go_frame))
    refine Free.cw_nil ?_
    go_wp2
    obtain ⟨g1, g2, g3⟩ := hfin.out
    refine bodyPost_ret (results_end2 rfl _ _ _ _ _ _ _ _ _ _ rfl g1) rfl ?_
    have hsz4 := hk4'.size
    have hq := recv_post (k := 2) (N := N) (d := d) (C := C) (T := T) (w3 := w4) hnk0.out hny0.out hre0.out hsep.out hlt0.out hbl hml hvl.out hB0 hkX.out (by omega) hC1.out.kept hk1.out hkb1.out hne1 how1.out (hC2.out.keeps hk4') hn1 (hRE2.out.keeps hk4') (hkA.out.trans hk4') how2.out (hoe2.out.elim .inl (fun h => .inr fun b e => ⟨by have := (h b e).1; omega, by have := (h b e).2.1; have := hkA.out.size; omega, fun cs f e2 => (h b e).2.2 cs f (by rw [(hAW.out.trans hk4').block b (h b e).2.1 (by simp)] at e2; exact e2)⟩)) hJ1.out (⟨fun _ _ => ⟨_, _, by rw [show dgm 2 N d = (dataB (uOf N) d) from rfl]; exact hR1.out⟩, fun h => by omega, fun h => by omega⟩) g2 g3
    rw [hs2.out, hq2.out, hr2.out] at hq
    exact hq
end Go.Proofs.Ytilmcdieihmiaaa

namespace Go.Proofs.Ytilmcdieihmiaaa
open Go.RowKit
set_option maxRecDepth 100000 in
set_option maxHeartbeats 12000000 in
theorem step_recv3 (w : World) (B bc bm n T D : Nat) (vk vke vee vd : Value) (C : Chan) (E : REnd) (N : Int) (d : Bytes) (h : BothW w B bc bm n vk vke vee C E) (hJ : Joint C E T D) (hT : T < 900000) (hn : n ≤ T) (hD : D ≤ 100000) (hN : -9223372036854775808 ≤ N ∧ N ≤ 9223372036854775807) (hd : SlB w vd d) (hdl : d.length ≤ D) :
    Calls Try.prog 19 #[.pointer (some ⟨bc, 0, none⟩), .agg #[.int .i64 E.sent, .int .i64 E.acked, vke, .int .i64 E.received, vee], .agg #[.int .u8 (3 : Nat), .int .i64 N, vd]] w (StepPost w B bc bm n T D vk C 3 N d) := by
  obtain ⟨ae, ce, rfl⟩ := h.re.early.form
  obtain ⟨ak, ck, rfl, hkm⟩ := h.re.kept.form
  obtain ⟨ad, cd, rfl⟩ := hd.form
  obtain ⟨s, hse⟩ : ∃ s, E.sent = s := ⟨_, rfl⟩
  obtain ⟨a, hae⟩ : ∃ s, E.acked = s := ⟨_, rfl⟩
  obtain ⟨r, hre⟩ : ∃ s, E.received = s := ⟨_, rfl⟩
  obtain ⟨KN, hK⟩ : ∃ s, E.kept.length = s := ⟨_, rfl⟩
  obtain ⟨EN, hEN⟩ : ∃ s, E.early.length = s := ⟨_, rfl⟩
  obtain ⟨DN, hDN⟩ : ∃ s, d.length = s := ⟨_, rfl⟩
  rw [hK, hEN] at h
  rw [hDN] at hd
  rw [hse, hae, hre, hK, hEN, hDN]
  obtain ⟨b1, b2, b3, b4, b5⟩ := box_three w (.cells #[.int .i64 s, .int .i64 a, .slice ak KN ck, .int .i64 r, .slice ae EN ce] tyEnd) (.cells #[.int .u8 (3 : Nat), .int .i64 N, .slice ad DN cd] 48) zEnd
  have hW := h.keeps b4
  have hdW := hd.keeps b4
  obtain ⟨p0, p1, p2, p3, p4, pf, plt⟩ := cells5 b1
  obtain ⟨o0, o1, o2⟩ := cells3 b2
  obtain ⟨z0, z1, z2, z3, z4, zf, zlt⟩ := cells5 b3
  have hsent := hJ.sent
  have hsum := hJ.sum
  have hrecv := hJ.recv
  have hCs : C.sent = s := by rw [← hse]; exact hJ.agr.sent
  have hbl := h.ch.cells.2.2.2.2.2.2
  have hml := h.ch.early.lt
  have hvl : ∀ b, vk.ownBlock = some b → b < w.heap.size := fun b hb => (ge_own h.ch.kept b hb).2
  have hsep := h.sep
  have hlt0 := h.lt
  have hB0 := h.hB
  have hre0 := h.re
  have hnk0 := h.nk
  have hny0 := h.ny
  replace hJ := Lib.hid hJ
  replace hse := Lib.hid hse
  replace hae := Lib.hid hae
  replace hre := Lib.hid hre
  have hKK := Lib.hid hK
  replace hEN := Lib.hid hEN
  replace hDN := Lib.hid hDN
  replace hW := Lib.hid hW
  replace hdW := Lib.hid hdW
  replace hsep := Lib.hid hsep
  replace hlt0 := Lib.hid hlt0
  replace hre0 := Lib.hid hre0
  replace hnk0 := Lib.hid hnk0
  replace hny0 := Lib.hid hny0
  replace hvl := Lib.hid hvl
  replace b1 := Lib.hid b1
  replace b2 := Lib.hid b2
  replace b3 := Lib.hid b3
  replace b4 := Lib.hid b4
  clear h hd hK
  have hl0 := hdl
  rw [hDN.out] at hl0
  · go_enter Try.func19, Try.ntmps19
    go_wp2_with fail
    generalize (((w.alloc (.cells #[.int .i64 s, .int .i64 a, .slice ak KN ck, .int .i64 r, .slice ae EN ce] tyEnd)).alloc (.cells #[.int .u8 _, .int .i64 N, .slice ad DN cd] 48)).alloc zEnd) = W at *
    refine (ackRi_c _ N).mono ?_
    rintro e wX ⟨vx, rfl, hBX, hkX⟩
    have hdX := hBX.slB
    obtain ⟨ax, cx, rfl⟩ := hdX.form
    have hLX0 : (ackB (uOf N)).length ≤ DN + 10 := by have := encU_len (uOf_lt N); simp [ackB]; omega
    obtain ⟨LX, hLX⟩ : ∃ n, (ackB (uOf N)).length = n := ⟨_, rfl⟩
    rw [hLX] at hdX hLX0 ⊢
    replace hLX := Lib.hid hLX
    clear hBX
    have hWX := hW.out.keeps hkX
    have hp1 := (hkX.block w.heap.size (by omega) (by simp)).trans b1.out
    have ho1 := (hkX.block (w.heap.size + 1) (by omega) (by simp)).trans b2.out
    have hz1 := (hkX.block (w.heap.size + 2) (by omega) (by simp)).trans b3.out
    have hszX := hkX.size
    obtain ⟨p0, p1, p2, p3, p4, pf, plt⟩ := cells5 hp1
    obtain ⟨o0, o1, o2⟩ := cells3 ho1
    have hlx : (ackB (uOf N)).length ≤ 140737488350000 := by rw [hLX.out]; omega
    replace hp1 := Lib.hid hp1
    replace ho1 := Lib.hid ho1
    replace hz1 := Lib.hid hz1
    replace hWX := Lib.hid hWX
    replace hdX := Lib.hid hdX
    replace hkX := Lib.hid (b4.out.trans hkX)
    replace hlx := Lib.hid hlx
    go_wp2_with fail
    refine (recvC _ B bc bm n T D vk _ C E (ackB (uOf N)) hWX.out.ch hWX.out.ne hWX.out.hB hJ.out (by omega) hn hdX.out hlx.out).mono ?_
    rintro e w1 ⟨v1, vk1, C1, outs1, n1, k1, rfl, hL1, hC1, hn1, hR1, hk1, hkb1, hne1, how1⟩
    have hS1 : ∀ b ∈ [bc, bm], b ∈ own3 bc bm vk := fun b hb => by simp [own3] at hb ⊢; rcases hb with h | h <;> simp [h]
    have hlow : ∀ b ∈ [bc, bm], b < w.heap.size := fun b hb => by simp at hb; rcases hb with h | h <;> omega
    have hp2 := (hk1.block w.heap.size (by omega) (fun hm => by have := hlow _ hm; omega)).trans hp1.out
    have hz2 := (hk1.block (w.heap.size + 2) (by omega) (fun hm => by have := hlow _ hm; omega)).trans hz1.out
    have hRE1 : RE w1 (.slice ak KN ck) (.slice ae EN ce) E :=
      ⟨hWX.out.re.kept.keepS hk1 (fun b hb => (hsep.out b (hS1 b hb)).1) hkb1, hWX.out.re.early.keepS hk1 (fun b hb => (hsep.out b (hS1 b hb)).2) hkb1⟩
    have hd1 := hdX.out.kb hkb1
    have hsz1 := hk1.size
    obtain ⟨a1, c1, rfl⟩ := hL1.form
    obtain ⟨O1, hO1⟩ : ∃ n, outs1.length = n := ⟨_, rfl⟩
    rw [hO1] at hL1 ⊢
    replace hO1 := Lib.hid hO1
    obtain ⟨p0, p1, p2, p3, p4, pf, plt⟩ := cells5 hp2
    replace hz2 := Lib.hid hz2
    replace hC1 := Lib.hid hC1
    replace hd1 := Lib.hid hd1
    replace hk1 := Lib.hid hk1
    replace hkb1 := Lib.hid hkb1
    replace how1 := Lib.hid how1
    replace hR1 := Lib.hid hR1
    replace hL1 := Lib.hid hL1
    replace hRE1 := Lib.hid hRE1
    go_wp2_with fail
    have hrr := recvRR w1 T D (.slice ak KN ck) (.slice ae EN ce) _ C E (ackB (uOf N)) hRE1.out hJ.out (by omega) hd1.out hlx.out
    rw [hse.out, hae.out, hre.out] at hrr
    refine hrr.mono ?_
    clear hrr
    rintro e w2 ⟨vk2, ve2, vo2, E2, outs2, k2, rfl, hRE2, hL2, hR2, hk2, how2, hoe2⟩
    obtain ⟨hJ1, rfl, rfl⟩ := hJ.out.rcv hR1.out hR2
    have hz3 := (hk2.block _ (by omega) (by simp)).trans hz2.out
    have hsz2 := hk2.size
    have hC2 := hC1.out.keeps hk2
    have hL12 := hL1.out.keepN hk2
    obtain ⟨ak2, ck2, rfl, _⟩ := hRE2.kept.form
    obtain ⟨ae2, ce2, rfl⟩ := hRE2.early.form
    obtain ⟨a2, c2, rfl⟩ := hL2.form
    obtain ⟨s2, hs2⟩ : ∃ x, E2.sent = x := ⟨_, rfl⟩
    obtain ⟨q2, hq2⟩ : ∃ x, E2.acked = x := ⟨_, rfl⟩
    obtain ⟨r2, hr2⟩ : ∃ x, E2.received = x := ⟨_, rfl⟩
    obtain ⟨K2, hK2⟩ : ∃ x, E2.kept.length = x := ⟨_, rfl⟩
    obtain ⟨N2, hN2⟩ : ∃ x, E2.early.length = x := ⟨_, rfl⟩
    rw [hK2, hN2] at hRE2
    rw [hK2] at how2
    rw [hN2] at hoe2
    rw [hs2, hq2, hr2, hK2, hN2]
    rw [hO1.out] at hL2 ⊢
    have hkA : Keeps [] w2 (w2.alloc (.cells #[.int .i64 s2, .int .i64 q2, .slice ak2 K2 ck2, .int .i64 r2, .slice ae2 N2 ce2] tyEnd)) := (Keeps.refl _ _).alloc _
    have hy2 := heap_alloc_new w2 (.cells #[.int .i64 s2, .int .i64 q2, .slice ak2 K2 ck2, .int .i64 r2, .slice ae2 N2 ce2] tyEnd)
    obtain ⟨y0, y1, y2, y3, y4, yf, ylt⟩ := cells5 hy2
    have hz3' := (hkA.block _ (by omega) (by simp)).trans hz3
    obtain ⟨u0, u1, u2, u3, u4, uf, ult⟩ := cells5 hz3'
    have hszA : (w2.alloc (.cells #[.int .i64 s2, .int .i64 q2, .slice ak2 K2 ck2, .int .i64 r2, .slice ae2 N2 ce2] tyEnd)).heap.size = w2.heap.size + 1 := by simp
    replace hs2 := Lib.hid hs2
    replace hq2 := Lib.hid hq2
    replace hr2 := Lib.hid hr2
    replace hK2 := Lib.hid hK2
    replace hN2 := Lib.hid hN2
    replace hz3' := Lib.hid hz3'
    replace hC2 := Lib.hid (hC2.keeps hkA)
    replace hL2 := Lib.hid (hL2.keepN hkA)
    replace hL12 := Lib.hid (hL12.keepN hkA)
    replace hRE2 := Lib.hid (hRE2.keeps hkA)
    have hAW := Lib.hid hkA
    replace hkA := Lib.hid (hk2.trans hkA)
    replace how2 := Lib.hid how2
    replace hoe2 := Lib.hid hoe2
    replace hJ1 := Lib.hid hJ1
    replace hR2 := Lib.hid hR2
    clear hRE1 hd1 hz3 hy2
    go_wp2
    generalize (w2.alloc (.cells #[.int .i64 s2, .int .i64 q2, .slice ak2 K2 ck2, .int .i64 r2, .slice ae2 N2 ce2] tyEnd)) = w3 at *
    have hsep2 : w2.heap.size = w.heap.size + 2 → False := fun e => by omega
    refine Free.wp_region_chain (fun i => i == 7 || i == 9) (fun i => true) (fun j b => j = 9 ∧ b = w.heap.size + 2) (by kernel_rfl) (by kernel_rfl) (by kernel_rfl) ?_
    (repeat (first | (apply Free.cw_pureW rfl rfl; (intro w'; go_simp <;> exact rfl); go_frame) | (apply Free.cw_steadyW rfl rfl rfl; (intro w' hS; have q0 := Free.sx_cell hS y0 (fun _ _ hT => hsep2 hT.2); have q1 := Free.sx_cell hS y1 (fun _ _ hT => hsep2 hT.2); have q2 := Free.sx_cell hS y2 (fun _ _ hT => hsep2 hT.2); have q3 := Free.sx_cell hS y3 (fun _ _ hT => hsep2 hT.2); have q4 := Free.sx_cell hS y4 (fun _ _ hT => hsep2 hT.2); go_simp <;> exact rfl); go_frame) | (refine Free.cw_skip rfl ?_; go_frame)))
    refine Free.cw_loudW rfl rfl (fun K hK => ?_)
    go_wp2_with fail
    refine (texts_c _ _ _ _ _ (hL12.out.keepN ((Keeps.refl [] w3).drew)).sls (hL2.out.keepN ((Keeps.refl [] w3).drew)).sls).mono ?_
    rintro e w4 ⟨rfl, hk4⟩
    refine hK _ _ rfl (Free.KeepsP.of hk4 (by simp)) ?_
    clear hK K
    rw [show decide (outs1 = outs1) = true from by simp]
    have hk4' : Keeps [] w3 w4 := ((Keeps.refl [] w3).drew).trans hk4
    have hz4 := (hk4'.block _ ult (by simp)).trans hz3'.out
    obtain ⟨u0, u1, u2, u3, u4, uf, ult⟩ := cells5 hz4
    (repeat (apply Free.cw_pureW rfl rfl; (intro w'; go_simp <;> exact rfl); go_frame))
    have hfin := set5_all (w := w4) hz4 (by simp [noB]) (.int .i64 s2) (.int .i64 q2) (.slice ak2 K2 ck2) (.int .i64 r2) (.slice ae2 N2 ce2)
    replace hfin := Lib.hid hfin
    replace hz4 := Lib.hid hz4
    refine Free.cw_loudW rfl rfl (fun K hK => ?_)
    go_wp2
    refine hK _ _ rfl (Free.KeepsP.of hfin.out.2.1 (fun b hb => ⟨trivial, by simpa using hb⟩)) ?_
    clear hK K
    (repeat (apply Free.cw_pureW rfl rfl; (intro w'; go_simp <;> exact rfl); go_frame))
    refine Free.cw_nil ?_
    go_wp2
    obtain ⟨g1, g2, g3⟩ := hfin.out
    refine bodyPost_ret (results_end2 rfl _ _ _ _ _ _ _ _ _ _ rfl g1) rfl ?_
    have hsz4 := hk4'.size
    have hq := recv_post (k := 3) (N := N) (d := d) (C := C) (T := T) (w3 := w4) hnk0.out hny0.out hre0.out hsep.out hlt0.out hbl hml hvl.out hB0 hkX.out (by omega) hC1.out.kept hk1.out hkb1.out hne1 how1.out (hC2.out.keeps hk4') hn1 (hRE2.out.keeps hk4') (hkA.out.trans hk4') how2.out (hoe2.out.elim .inl (fun h => .inr fun b e => ⟨by have := (h b e).1; omega, by have := (h b e).2.1; have := hkA.out.size; omega, fun cs f e2 => (h b e).2.2 cs f (by rw [(hAW.out.trans hk4').block b (h b e).2.1 (by simp)] at e2; exact e2)⟩)) hJ1.out (⟨fun _ _ => ⟨_, _, by rw [show dgm 3 N d = (ackB (uOf N)) from rfl]; exact hR1.out⟩, fun h => by omega, fun h => by omega⟩) g2 g3
    rw [hs2.out, hq2.out, hr2.out] at hq
    exact hq
end Go.Proofs.Ytilmcdieihmiaaa

namespace Go.Proofs.Ytilmcdieihmiaaa
open Go.RowKit
set_option maxRecDepth 100000 in
set_option maxHeartbeats 12000000 in
theorem step_recv4 (w : World) (B bc bm n T D : Nat) (vk vke vee vd : Value) (C : Chan) (E : REnd) (N : Int) (d : Bytes) (h : BothW w B bc bm n vk vke vee C E) (hJ : Joint C E T D) (hT : T < 900000) (hn : n ≤ T) (hD : D ≤ 100000) (hN : -9223372036854775808 ≤ N ∧ N ≤ 9223372036854775807) (hd : SlB w vd d) (hdl : d.length ≤ D) :
    Calls Try.prog 19 #[.pointer (some ⟨bc, 0, none⟩), .agg #[.int .i64 E.sent, .int .i64 E.acked, vke, .int .i64 E.received, vee], .agg #[.int .u8 (4 : Nat), .int .i64 N, vd]] w (StepPost w B bc bm n T D vk C 4 N d) := by
  obtain ⟨ae, ce, rfl⟩ := h.re.early.form
  obtain ⟨ak, ck, rfl, hkm⟩ := h.re.kept.form
  obtain ⟨ad, cd, rfl⟩ := hd.form
  obtain ⟨s, hse⟩ : ∃ s, E.sent = s := ⟨_, rfl⟩
  obtain ⟨a, hae⟩ : ∃ s, E.acked = s := ⟨_, rfl⟩
  obtain ⟨r, hre⟩ : ∃ s, E.received = s := ⟨_, rfl⟩
  obtain ⟨KN, hK⟩ : ∃ s, E.kept.length = s := ⟨_, rfl⟩
  obtain ⟨EN, hEN⟩ : ∃ s, E.early.length = s := ⟨_, rfl⟩
  obtain ⟨DN, hDN⟩ : ∃ s, d.length = s := ⟨_, rfl⟩
  rw [hK, hEN] at h
  rw [hDN] at hd
  rw [hse, hae, hre, hK, hEN, hDN]
  obtain ⟨b1, b2, b3, b4, b5⟩ := box_three w (.cells #[.int .i64 s, .int .i64 a, .slice ak KN ck, .int .i64 r, .slice ae EN ce] tyEnd) (.cells #[.int .u8 (4 : Nat), .int .i64 N, .slice ad DN cd] 48) zEnd
  have hW := h.keeps b4
  have hdW := hd.keeps b4
  obtain ⟨p0, p1, p2, p3, p4, pf, plt⟩ := cells5 b1
  obtain ⟨o0, o1, o2⟩ := cells3 b2
  obtain ⟨z0, z1, z2, z3, z4, zf, zlt⟩ := cells5 b3
  have hsent := hJ.sent
  have hsum := hJ.sum
  have hrecv := hJ.recv
  have hCs : C.sent = s := by rw [← hse]; exact hJ.agr.sent
  have hbl := h.ch.cells.2.2.2.2.2.2
  have hml := h.ch.early.lt
  have hvl : ∀ b, vk.ownBlock = some b → b < w.heap.size := fun b hb => (ge_own h.ch.kept b hb).2
  have hsep := h.sep
  have hlt0 := h.lt
  have hB0 := h.hB
  have hre0 := h.re
  have hnk0 := h.nk
  have hny0 := h.ny
  replace hJ := Lib.hid hJ
  replace hse := Lib.hid hse
  replace hae := Lib.hid hae
  replace hre := Lib.hid hre
  have hKK := Lib.hid hK
  replace hEN := Lib.hid hEN
  replace hDN := Lib.hid hDN
  replace hW := Lib.hid hW
  replace hdW := Lib.hid hdW
  replace hsep := Lib.hid hsep
  replace hlt0 := Lib.hid hlt0
  replace hre0 := Lib.hid hre0
  replace hnk0 := Lib.hid hnk0
  replace hny0 := Lib.hid hny0
  replace hvl := Lib.hid hvl
  replace b1 := Lib.hid b1
  replace b2 := Lib.hid b2
  replace b3 := Lib.hid b3
  replace b4 := Lib.hid b4
  clear h hd hK
  have hl0 := hdl
  rw [hDN.out] at hl0
  · go_enter Try.func19, Try.ntmps19
    go_wp2_with fail
    generalize (((w.alloc (.cells #[.int .i64 s, .int .i64 a, .slice ak KN ck, .int .i64 r, .slice ae EN ce] tyEnd)).alloc (.cells #[.int .u8 _, .int .i64 N, .slice ad DN cd] 48)).alloc zEnd) = W at *
    have hkX : Keeps [] W W := Keeps.refl _ _
    have hdX := hdW.out
    have hLX := hDN
    have hWX := hW.out.keeps hkX
    have hp1 := (hkX.block w.heap.size (by omega) (by simp)).trans b1.out
    have ho1 := (hkX.block (w.heap.size + 1) (by omega) (by simp)).trans b2.out
    have hz1 := (hkX.block (w.heap.size + 2) (by omega) (by simp)).trans b3.out
    have hszX := hkX.size
    obtain ⟨p0, p1, p2, p3, p4, pf, plt⟩ := cells5 hp1
    obtain ⟨o0, o1, o2⟩ := cells3 ho1
    have hlx : d.length ≤ 140737488350000 := by rw [hLX.out]; omega
    replace hp1 := Lib.hid hp1
    replace ho1 := Lib.hid ho1
    replace hz1 := Lib.hid hz1
    replace hWX := Lib.hid hWX
    replace hdX := Lib.hid hdX
    replace hkX := Lib.hid (b4.out.trans hkX)
    replace hlx := Lib.hid hlx
    go_wp2_with fail
    refine (recvC _ B bc bm n T D vk _ C E d hWX.out.ch hWX.out.ne hWX.out.hB hJ.out (by omega) hn hdX.out hlx.out).mono ?_
    rintro e w1 ⟨v1, vk1, C1, outs1, n1, k1, rfl, hL1, hC1, hn1, hR1, hk1, hkb1, hne1, how1⟩
    have hS1 : ∀ b ∈ [bc, bm], b ∈ own3 bc bm vk := fun b hb => by simp [own3] at hb ⊢; rcases hb with h | h <;> simp [h]
    have hlow : ∀ b ∈ [bc, bm], b < w.heap.size := fun b hb => by simp at hb; rcases hb with h | h <;> omega
    have hp2 := (hk1.block w.heap.size (by omega) (fun hm => by have := hlow _ hm; omega)).trans hp1.out
    have hz2 := (hk1.block (w.heap.size + 2) (by omega) (fun hm => by have := hlow _ hm; omega)).trans hz1.out
    have hRE1 : RE w1 (.slice ak KN ck) (.slice ae EN ce) E :=
      ⟨hWX.out.re.kept.keepS hk1 (fun b hb => (hsep.out b (hS1 b hb)).1) hkb1, hWX.out.re.early.keepS hk1 (fun b hb => (hsep.out b (hS1 b hb)).2) hkb1⟩
    have hd1 := hdX.out.kb hkb1
    have hsz1 := hk1.size
    obtain ⟨a1, c1, rfl⟩ := hL1.form
    obtain ⟨O1, hO1⟩ : ∃ n, outs1.length = n := ⟨_, rfl⟩
    rw [hO1] at hL1 ⊢
    replace hO1 := Lib.hid hO1
    obtain ⟨p0, p1, p2, p3, p4, pf, plt⟩ := cells5 hp2
    replace hz2 := Lib.hid hz2
    replace hC1 := Lib.hid hC1
    replace hd1 := Lib.hid hd1
    replace hk1 := Lib.hid hk1
    replace hkb1 := Lib.hid hkb1
    replace how1 := Lib.hid how1
    replace hR1 := Lib.hid hR1
    replace hL1 := Lib.hid hL1
    replace hRE1 := Lib.hid hRE1
    go_wp2_with fail
    have hrr := recvRR w1 T D (.slice ak KN ck) (.slice ae EN ce) _ C E d hRE1.out hJ.out (by omega) hd1.out hlx.out
    rw [hse.out, hae.out, hre.out] at hrr
    refine hrr.mono ?_
    clear hrr
    rintro e w2 ⟨vk2, ve2, vo2, E2, outs2, k2, rfl, hRE2, hL2, hR2, hk2, how2, hoe2⟩
    obtain ⟨hJ1, rfl, rfl⟩ := hJ.out.rcv hR1.out hR2
    have hz3 := (hk2.block _ (by omega) (by simp)).trans hz2.out
    have hsz2 := hk2.size
    have hC2 := hC1.out.keeps hk2
    have hL12 := hL1.out.keepN hk2
    obtain ⟨ak2, ck2, rfl, _⟩ := hRE2.kept.form
    obtain ⟨ae2, ce2, rfl⟩ := hRE2.early.form
    obtain ⟨a2, c2, rfl⟩ := hL2.form
    obtain ⟨s2, hs2⟩ : ∃ x, E2.sent = x := ⟨_, rfl⟩
    obtain ⟨q2, hq2⟩ : ∃ x, E2.acked = x := ⟨_, rfl⟩
    obtain ⟨r2, hr2⟩ : ∃ x, E2.received = x := ⟨_, rfl⟩
    obtain ⟨K2, hK2⟩ : ∃ x, E2.kept.length = x := ⟨_, rfl⟩
    obtain ⟨N2, hN2⟩ : ∃ x, E2.early.length = x := ⟨_, rfl⟩
    rw [hK2, hN2] at hRE2
    rw [hK2] at how2
    rw [hN2] at hoe2
    rw [hs2, hq2, hr2, hK2, hN2]
    rw [hO1.out] at hL2 ⊢
    have hkA : Keeps [] w2 (w2.alloc (.cells #[.int .i64 s2, .int .i64 q2, .slice ak2 K2 ck2, .int .i64 r2, .slice ae2 N2 ce2] tyEnd)) := (Keeps.refl _ _).alloc _
    have hy2 := heap_alloc_new w2 (.cells #[.int .i64 s2, .int .i64 q2, .slice ak2 K2 ck2, .int .i64 r2, .slice ae2 N2 ce2] tyEnd)
    obtain ⟨y0, y1, y2, y3, y4, yf, ylt⟩ := cells5 hy2
    have hz3' := (hkA.block _ (by omega) (by simp)).trans hz3
    obtain ⟨u0, u1, u2, u3, u4, uf, ult⟩ := cells5 hz3'
    have hszA : (w2.alloc (.cells #[.int .i64 s2, .int .i64 q2, .slice ak2 K2 ck2, .int .i64 r2, .slice ae2 N2 ce2] tyEnd)).heap.size = w2.heap.size + 1 := by simp
    replace hs2 := Lib.hid hs2
    replace hq2 := Lib.hid hq2
    replace hr2 := Lib.hid hr2
    replace hK2 := Lib.hid hK2
    replace hN2 := Lib.hid hN2
    replace hz3' := Lib.hid hz3'
    replace hC2 := Lib.hid (hC2.keeps hkA)
    replace hL2 := Lib.hid (hL2.keepN hkA)
    replace hL12 := Lib.hid (hL12.keepN hkA)
    replace hRE2 := Lib.hid (hRE2.keeps hkA)
    have hAW := Lib.hid hkA
    replace hkA := Lib.hid (hk2.trans hkA)
    replace how2 := Lib.hid how2
    replace hoe2 := Lib.hid hoe2
    replace hJ1 := Lib.hid hJ1
    replace hR2 := Lib.hid hR2
    clear hRE1 hd1 hz3 hy2
    go_wp2
    generalize (w2.alloc (.cells #[.int .i64 s2, .int .i64 q2, .slice ak2 K2 ck2, .int .i64 r2, .slice ae2 N2 ce2] tyEnd)) = w3 at *
    have hsep2 : w2.heap.size = w.heap.size + 2 → False := fun e => by omega
    refine Free.wp_region_chain (fun i => i == 7 || i == 9) (fun i => true) (fun j b => j = 9 ∧ b = w.heap.size + 2) (by kernel_rfl) (by kernel_rfl) (by kernel_rfl) ?_
    (repeat (first | (apply Free.cw_pureW rfl rfl; (intro w'; go_simp <;> exact rfl); go_frame) | (apply Free.cw_steadyW rfl rfl rfl; (intro w' hS; have q0 := Free.sx_cell hS y0 (fun _ _ hT => hsep2 hT.2); have q1 := Free.sx_cell hS y1 (fun _ _ hT => hsep2 hT.2); have q2 := Free.sx_cell hS y2 (fun _ _ hT => hsep2 hT.2); have q3 := Free.sx_cell hS y3 (fun _ _ hT => hsep2 hT.2); have q4 := Free.sx_cell hS y4 (fun _ _ hT => hsep2 hT.2); go_simp <;> exact rfl); go_frame) | (refine Free.cw_skip rfl ?_; go_frame)))
    refine Free.cw_loudW rfl rfl (fun K hK => ?_)
    go_wp2_with fail
    refine (texts_c _ _ _ _ _ (hL12.out.keepN ((Keeps.refl [] w3).drew)).sls (hL2.out.keepN ((Keeps.refl [] w3).drew)).sls).mono ?_
    rintro e w4 ⟨rfl, hk4⟩
    refine hK _ _ rfl (Free.KeepsP.of hk4 (by simp)) ?_
    clear hK K
    rw [show decide (outs1 = outs1) = true from by simp]
    have hk4' : Keeps [] w3 w4 := ((Keeps.refl [] w3).drew).trans hk4
    have hz4 := (hk4'.block _ ult (by simp)).trans hz3'.out
    obtain ⟨u0, u1, u2, u3, u4, uf, ult⟩ := cells5 hz4
    (repeat (apply Free.cw_pureW rfl rfl; (intro w'; go_simp <;> exact rfl); go_frame))
    have hfin := set5_all (w := w4) hz4 (by simp [noB]) (.int .i64 s2) (.int .i64 q2) (.slice ak2 K2 ck2) (.int .i64 r2) (.slice ae2 N2 ce2)
    replace hfin := Lib.hid hfin
    replace hz4 := Lib.hid hz4
    refine Free.cw_loudW rfl rfl (fun K hK => ?_)
    go_wp2
    refine hK _ _ rfl (Free.KeepsP.of hfin.out.2.1 (fun b hb => ⟨trivial, by simpa using hb⟩)) ?_
    clear hK K
    (repeat (apply Free.cw_pureW rfl rfl; (intro w'; go_simp <;> exact rfl); go_frame))
    refine Free.cw_nil ?_
    go_wp2
    obtain ⟨g1, g2, g3⟩ := hfin.out
    refine bodyPost_ret (results_end2 rfl _ _ _ _ _ _ _ _ _ _ rfl g1) rfl ?_
    have hsz4 := hk4'.size
    have hq := recv_post (k := 4) (N := N) (d := d) (C := C) (T := T) (w3 := w4) hnk0.out hny0.out hre0.out hsep.out hlt0.out hbl hml hvl.out hB0 hkX.out (by omega) hC1.out.kept hk1.out hkb1.out hne1 how1.out (hC2.out.keeps hk4') hn1 (hRE2.out.keeps hk4') (hkA.out.trans hk4') how2.out (hoe2.out.elim .inl (fun h => .inr fun b e => ⟨by have := (h b e).1; omega, by have := (h b e).2.1; have := hkA.out.size; omega, fun cs f e2 => (h b e).2.2 cs f (by rw [(hAW.out.trans hk4').block b (h b e).2.1 (by simp)] at e2; exact e2)⟩)) hJ1.out (⟨fun _ _ => ⟨_, _, by rw [show dgm 4 N d = d from rfl]; exact hR1.out⟩, fun h => by omega, fun h => by omega⟩) g2 g3
    rw [hs2.out, hq2.out, hr2.out] at hq
    exact hq
end Go.Proofs.Ytilmcdieihmiaaa

namespace Go.Proofs.Ytilmcdieihmiaaa
open Go.RowKit
set_option maxRecDepth 100000 in
set_option maxHeartbeats 12000000 in
theorem step_send0 (w : World) (B bc bm n T D : Nat) (vk vke vee vd : Value) (C : Chan) (E : REnd) (N : Int) (d : Bytes) (h : BothW w B bc bm n vk vke vee C E) (hJ : Joint C E T D) (hT : T < 900000) (hn : n ≤ T) (hD : D ≤ 100000) (hN : -9223372036854775808 ≤ N ∧ N ≤ 9223372036854775807) (hd : SlB w vd d) (hdl : d.length ≤ D) :
    Calls Try.prog 19 #[.pointer (some ⟨bc, 0, none⟩), .agg #[.int .i64 E.sent, .int .i64 E.acked, vke, .int .i64 E.received, vee], .agg #[.int .u8 (0 : Nat), .int .i64 N, vd]] w (StepPost w B bc bm n T D vk C 0 N d) := by
  obtain ⟨ae, ce, rfl⟩ := h.re.early.form
  obtain ⟨ak, ck, rfl, hkm⟩ := h.re.kept.form
  obtain ⟨ad, cd, rfl⟩ := hd.form
  obtain ⟨s, hse⟩ : ∃ s, E.sent = s := ⟨_, rfl⟩
  obtain ⟨a, hae⟩ : ∃ s, E.acked = s := ⟨_, rfl⟩
  obtain ⟨r, hre⟩ : ∃ s, E.received = s := ⟨_, rfl⟩
  obtain ⟨KN, hK⟩ : ∃ s, E.kept.length = s := ⟨_, rfl⟩
  obtain ⟨EN, hEN⟩ : ∃ s, E.early.length = s := ⟨_, rfl⟩
  obtain ⟨DN, hDN⟩ : ∃ s, d.length = s := ⟨_, rfl⟩
  rw [hK, hEN] at h
  rw [hDN] at hd
  rw [hse, hae, hre, hK, hEN, hDN]
  obtain ⟨b1, b2, b3, b4, b5⟩ := box_three w (.cells #[.int .i64 s, .int .i64 a, .slice ak KN ck, .int .i64 r, .slice ae EN ce] tyEnd) (.cells #[.int .u8 (0 : Nat), .int .i64 N, .slice ad DN cd] 48) zEnd
  have hW := h.keeps b4
  have hdW := hd.keeps b4
  obtain ⟨p0, p1, p2, p3, p4, pf, plt⟩ := cells5 b1
  obtain ⟨o0, o1, o2⟩ := cells3 b2
  obtain ⟨z0, z1, z2, z3, z4, zf, zlt⟩ := cells5 b3
  have hsent := hJ.sent
  have hsum := hJ.sum
  have hrecv := hJ.recv
  have hCs : C.sent = s := by rw [← hse]; exact hJ.agr.sent
  have hbl := h.ch.cells.2.2.2.2.2.2
  have hml := h.ch.early.lt
  have hvl : ∀ b, vk.ownBlock = some b → b < w.heap.size := fun b hb => (ge_own h.ch.kept b hb).2
  have hsep := h.sep
  have hlt0 := h.lt
  have hB0 := h.hB
  have hre0 := h.re
  have hnk0 := h.nk
  have hny0 := h.ny
  replace hJ := Lib.hid hJ
  replace hse := Lib.hid hse
  replace hae := Lib.hid hae
  replace hre := Lib.hid hre
  have hKK := Lib.hid hK
  replace hEN := Lib.hid hEN
  replace hDN := Lib.hid hDN
  replace hW := Lib.hid hW
  replace hdW := Lib.hid hdW
  replace hsep := Lib.hid hsep
  replace hlt0 := Lib.hid hlt0
  replace hre0 := Lib.hid hre0
  replace hnk0 := Lib.hid hnk0
  replace hny0 := Lib.hid hny0
  replace hvl := Lib.hid hvl
  replace b1 := Lib.hid b1
  replace b2 := Lib.hid b2
  replace b3 := Lib.hid b3
  replace b4 := Lib.hid b4
  clear h hd hK
  have hl0 := hdl
  rw [hDN.out] at hl0
  have hW0 : ∀ b ∈ own3 bc bm vk, b < w.heap.size := fun b hb => by
    simp [own3] at hb
    rcases hb with rfl | rfl | hb
    · exact hbl
    · exact hml
    · exact hvl.out b hb
  replace hW0 := Lib.hid hW0
  · go_enter Try.func19, Try.ntmps19
    go_wp2_with fail
    generalize (((w.alloc (.cells #[.int .i64 s, .int .i64 a, .slice ak KN ck, .int .i64 r, .slice ae EN ce] tyEnd)).alloc (.cells #[.int .u8 _, .int .i64 N, .slice ad DN cd] 48)).alloc zEnd) = W at *
    have hszW := b5
    refine (send_c _ B bc bm n vk _ C d hW.out.ch hdW.out (by rw [hDN.out]; omega) (by omega) (by omega) hW.out.hB hW.out.ne).mono ?_
    rintro e w1 ⟨vk1, vd1, rfl, hC1, hd1, hk1, hkb1, hne1, how1⟩
    have hS1 : ∀ b ∈ bc :: vk.ownBlock.toList, b ∈ own3 bc bm vk := fun b hb => by simp [own3] at hb ⊢; rcases hb with h | h <;> simp [h]
    have hlow : ∀ b ∈ bc :: vk.ownBlock.toList, b < w.heap.size := fun b hb => hW0.out b (hS1 b hb)
    have hp1 := (hk1.block w.heap.size (by omega) (fun hm => by have := hlow _ hm; omega)).trans b1.out
    have ho1 := (hk1.block (w.heap.size + 1) (by omega) (fun hm => by have := hlow _ hm; omega)).trans b2.out
    have hz1 := (hk1.block (w.heap.size + 2) (by omega) (fun hm => by have := hlow _ hm; omega)).trans b3.out
    have hRE1 : RE w1 (.slice ak KN ck) (.slice ae EN ce) E :=
      ⟨hW.out.re.kept.keepS hk1 (fun b hb => (hsep.out b (hS1 b hb)).1) hkb1, hW.out.re.early.keepS hk1 (fun b hb => (hsep.out b (hS1 b hb)).2) hkb1⟩
    have hd01 := hdW.out.kb hkb1
    have hsz1 := hk1.size
    have hB1 := hW.out.hB
    rw [hCs] at hC1 hd1 ⊢
    obtain ⟨ad1, cd1, rfl⟩ := hd1.form
    obtain ⟨L1, hL1⟩ : ∃ n, (dataB (s + 1) d).length = n := ⟨_, rfl⟩
    rw [hL1] at hd1 ⊢
    replace hL1 := Lib.hid hL1
    obtain ⟨p0, p1, p2, p3, p4, pf, plt⟩ := cells5 hp1
    obtain ⟨o0, o1, o2⟩ := cells3 ho1
    replace hp1 := Lib.hid hp1
    replace ho1 := Lib.hid ho1
    replace hz1 := Lib.hid hz1
    replace hC1 := Lib.hid hC1
    replace hd1 := Lib.hid hd1
    replace hk1 := Lib.hid hk1
    replace hkb1 := Lib.hid hkb1
    replace how1 := Lib.hid how1
    replace hlow := Lib.hid hlow
    go_wp2_with fail
    refine (sendR_c _ s a r _ _ _ E d hRE1 hd01 (by rw [hDN.out]; omega) (by omega) (by have := hJ.out.agr.kept; rw [← this]; omega)).mono ?_
    rintro e w2 ⟨vk2, vd2, rfl, hL2, hd2, hk2⟩
    have hz2 := (hk2.block _ (by omega) (by simp)).trans hz1.out
    have hsz2 := hk2.size
    have hC2 := hC1.out.keeps hk2
    have hd12 := hd1.out.keeps hk2
    have hse2 := hRE1.early.keeps hk2
    obtain ⟨ak2, ck2, rfl⟩ := hL2.form
    obtain ⟨KN2, hK2⟩ : ∃ n, (E.kept ++ [d]).length = n := ⟨_, rfl⟩
    rw [hK2] at hL2 ⊢
    replace hK2 := Lib.hid hK2
    obtain ⟨ad2, cd2, rfl⟩ := hd2.form
    obtain ⟨L2, hL2'⟩ : ∃ n, (dataB (s + 1) d).length = n := ⟨_, rfl⟩
    rw [hL2'] at hd2 ⊢
    replace hL2' := Lib.hid hL2'
    have hkA : Keeps [] w2 (w2.alloc (.cells #[.int .i64 ((s : Int) + 1), .int .i64 a, .slice ak2 KN2 ck2, .int .i64 r, .slice ae EN ce] tyEnd)) := (Keeps.refl _ _).alloc _
    have hy2 := heap_alloc_new w2 (.cells #[.int .i64 ((s : Int) + 1), .int .i64 a, .slice ak2 KN2 ck2, .int .i64 r, .slice ae EN ce] tyEnd)
    obtain ⟨y0, y1, y2, y3, y4, yf, ylt⟩ := cells5 hy2
    have hz2' := (hkA.block _ (by omega) (by simp)).trans hz2
    obtain ⟨u0, u1, u2, u3, u4, uf, ult⟩ := cells5 hz2'
    replace hz2 := Lib.hid hz2
    replace hz2' := Lib.hid hz2'
    replace hy2 := Lib.hid hy2
    replace hC2 := Lib.hid (hC2.keeps hkA)
    replace hL2 := Lib.hid (hL2.keepN hkA)
    replace hd2 := Lib.hid (hd2.keeps hkA)
    replace hd12 := Lib.hid (hd12.keeps hkA)
    replace hse2 := Lib.hid (hse2.keeps hkA)
    replace hkA := Lib.hid (hk2.trans hkA)
    clear hRE1 hd01
    go_wp2
    generalize (w2.alloc (.cells #[.int .i64 ((s : Int) + 1), .int .i64 a, .slice ak2 KN2 ck2, .int .i64 r, .slice ae EN ce] tyEnd)) = w3 at *
    have hsep2 : w2.heap.size = w.heap.size + 2 → False := fun e => by omega
    refine Free.wp_region_chain (fun i => i == 8 || i == 10) (fun i => true) (fun j b => j = 10 ∧ b = w.heap.size + 2) (by kernel_rfl) (by kernel_rfl) (by kernel_rfl) ?_
    (repeat (first | (apply Free.cw_pureW rfl rfl; (intro w'; go_simp <;> exact rfl); go_frame) | (apply Free.cw_steadyW rfl rfl rfl; (intro w' hS; have q0 := Free.sx_cell hS y0 (fun _ _ hT => hsep2 hT.2); have q1 := Free.sx_cell hS y1 (fun _ _ hT => hsep2 hT.2); have q2 := Free.sx_cell hS y2 (fun _ _ hT => hsep2 hT.2); have q3 := Free.sx_cell hS y3 (fun _ _ hT => hsep2 hT.2); have q4 := Free.sx_cell hS y4 (fun _ _ hT => hsep2 hT.2); go_simp <;> exact rfl); go_frame) | (refine Free.cw_skip rfl ?_; go_frame)))
    refine Free.cw_loudW rfl rfl (fun K hK => ?_)
    go_wp2_with fail
    refine (same_c _ _ _ _ _ (hd12.out.kb (KB.drew _)) (hd2.out.kb (KB.drew _))).mono ?_
    rintro e _ ⟨rfl, rfl⟩
    refine hK _ _ rfl (Free.KeepsP.refl _ _) ?_
    clear hK K
    rw [show decide (dataB (s + 1) d = dataB (s + 1) d) = true from by simp]
    (repeat (apply Free.cw_pureW rfl rfl; (intro w'; go_simp <;> exact rfl); go_frame))
    have hfin := set5_all (b := w.heap.size + 1 + 1) (w := w3) hz2'.out (by simp [noB]) (.int .i64 ((s : Int) + 1)) (.int .i64 a) (.slice ak2 KN2 ck2) (.int .i64 r) (.slice ae EN ce)
    replace hfin := Lib.hid hfin
    refine Free.cw_loudW rfl rfl (fun K hK => ?_)
    go_wp2
    refine hK _ _ rfl (Free.KeepsP.of hfin.out.2.1.drews (fun b hb => ⟨trivial, by simpa using hb⟩)) ?_
    clear hK K
    (repeat (apply Free.cw_pureW rfl rfl; (intro w'; go_simp <;> exact rfl); go_frame))
    refine Free.cw_nil ?_
    go_wp2
    obtain ⟨g1, g2, g3⟩ := hfin.out
    refine bodyPost_ret (results_end2 rfl _ _ _ _ _ _ _ _ _ _ rfl g1) rfl ?_
    exact send_post (k := 0) (N := N) (T := T) hny0.out hre0.out hsep.out hlt0.out hbl hml hvl.out hB0 hJ.out hdl hse.out hae.out hre.out hCs (by omega) b4.out b5 hC1.out.kept hk1.out hkb1.out hne1 how1.out hC2.out hL2.out hkA.out g2.drews g3.drews
end Go.Proofs.Ytilmcdieihmiaaa

namespace Go.Proofs.Ytilmcdieihmiaaa
open Go.RowKit
set_option maxRecDepth 100000 in
set_option maxHeartbeats 12000000 in
theorem step_send1 (w : World) (B bc bm n T D : Nat) (vk vke vee vd : Value) (C : Chan) (E : REnd) (N : Int) (d : Bytes) (h : BothW w B bc bm n vk vke vee C E) (hJ : Joint C E T D) (hT : T < 900000) (hn : n ≤ T) (hD : D ≤ 100000) (hN : -9223372036854775808 ≤ N ∧ N ≤ 9223372036854775807) (hd : SlB w vd d) (hdl : d.length ≤ D) :
    Calls Try.prog 19 #[.pointer (some ⟨bc, 0, none⟩), .agg #[.int .i64 E.sent, .int .i64 E.acked, vke, .int .i64 E.received, vee], .agg #[.int .u8 (1 : Nat), .int .i64 N, vd]] w (StepPost w B bc bm n T D vk C 1 N d) := by
  obtain ⟨ae, ce, rfl⟩ := h.re.early.form
  obtain ⟨ak, ck, rfl, hkm⟩ := h.re.kept.form
  obtain ⟨ad, cd, rfl⟩ := hd.form
  obtain ⟨s, hse⟩ : ∃ s, E.sent = s := ⟨_, rfl⟩
  obtain ⟨a, hae⟩ : ∃ s, E.acked = s := ⟨_, rfl⟩
  obtain ⟨r, hre⟩ : ∃ s, E.received = s := ⟨_, rfl⟩
  obtain ⟨KN, hK⟩ : ∃ s, E.kept.length = s := ⟨_, rfl⟩
  obtain ⟨EN, hEN⟩ : ∃ s, E.early.length = s := ⟨_, rfl⟩
  obtain ⟨DN, hDN⟩ : ∃ s, d.length = s := ⟨_, rfl⟩
  rw [hK, hEN] at h
  rw [hDN] at hd
  rw [hse, hae, hre, hK, hEN, hDN]
  obtain ⟨b1, b2, b3, b4, b5⟩ := box_three w (.cells #[.int .i64 s, .int .i64 a, .slice ak KN ck, .int .i64 r, .slice ae EN ce] tyEnd) (.cells #[.int .u8 (1 : Nat), .int .i64 N, .slice ad DN cd] 48) zEnd
  have hW := h.keeps b4
  have hdW := hd.keeps b4
  obtain ⟨p0, p1, p2, p3, p4, pf, plt⟩ := cells5 b1
  obtain ⟨o0, o1, o2⟩ := cells3 b2
  obtain ⟨z0, z1, z2, z3, z4, zf, zlt⟩ := cells5 b3
  have hsent := hJ.sent
  have hsum := hJ.sum
  have hrecv := hJ.recv
  have hCs : C.sent = s := by rw [← hse]; exact hJ.agr.sent
  have hbl := h.ch.cells.2.2.2.2.2.2
  have hml := h.ch.early.lt
  have hvl : ∀ b, vk.ownBlock = some b → b < w.heap.size := fun b hb => (ge_own h.ch.kept b hb).2
  have hsep := h.sep
  have hlt0 := h.lt
  have hB0 := h.hB
  have hre0 := h.re
  have hnk0 := h.nk
  have hny0 := h.ny
  replace hJ := Lib.hid hJ
  replace hse := Lib.hid hse
  replace hae := Lib.hid hae
  replace hre := Lib.hid hre
  have hKK := Lib.hid hK
  replace hEN := Lib.hid hEN
  replace hDN := Lib.hid hDN
  replace hW := Lib.hid hW
  replace hdW := Lib.hid hdW
  replace hsep := Lib.hid hsep
  replace hlt0 := Lib.hid hlt0
  replace hre0 := Lib.hid hre0
  replace hnk0 := Lib.hid hnk0
  replace hny0 := Lib.hid hny0
  replace hvl := Lib.hid hvl
  replace b1 := Lib.hid b1
  replace b2 := Lib.hid b2
  replace b3 := Lib.hid b3
  replace b4 := Lib.hid b4
  clear h hd hK
  have hl0 := hdl
  rw [hDN.out] at hl0
  have hW0 : ∀ b ∈ own3 bc bm vk, b < w.heap.size := fun b hb => by
    simp [own3] at hb
    rcases hb with rfl | rfl | hb
    · exact hbl
    · exact hml
    · exact hvl.out b hb
  replace hW0 := Lib.hid hW0
  · go_enter Try.func19, Try.ntmps19
    go_wp2_with fail
    generalize (((w.alloc (.cells #[.int .i64 s, .int .i64 a, .slice ak KN ck, .int .i64 r, .slice ae EN ce] tyEnd)).alloc (.cells #[.int .u8 _, .int .i64 N, .slice ad DN cd] 48)).alloc zEnd) = W at *
    have hszW := b5
    refine (send_c _ B bc bm n vk _ C d hW.out.ch hdW.out (by rw [hDN.out]; omega) (by omega) (by omega) hW.out.hB hW.out.ne).mono ?_
    rintro e w1 ⟨vk1, vd1, rfl, hC1, hd1, hk1, hkb1, hne1, how1⟩
    have hS1 : ∀ b ∈ bc :: vk.ownBlock.toList, b ∈ own3 bc bm vk := fun b hb => by simp [own3] at hb ⊢; rcases hb with h | h <;> simp [h]
    have hlow : ∀ b ∈ bc :: vk.ownBlock.toList, b < w.heap.size := fun b hb => hW0.out b (hS1 b hb)
    have hp1 := (hk1.block w.heap.size (by omega) (fun hm => by have := hlow _ hm; omega)).trans b1.out
    have ho1 := (hk1.block (w.heap.size + 1) (by omega) (fun hm => by have := hlow _ hm; omega)).trans b2.out
    have hz1 := (hk1.block (w.heap.size + 2) (by omega) (fun hm => by have := hlow _ hm; omega)).trans b3.out
    have hRE1 : RE w1 (.slice ak KN ck) (.slice ae EN ce) E :=
      ⟨hW.out.re.kept.keepS hk1 (fun b hb => (hsep.out b (hS1 b hb)).1) hkb1, hW.out.re.early.keepS hk1 (fun b hb => (hsep.out b (hS1 b hb)).2) hkb1⟩
    have hd01 := hdW.out.kb hkb1
    have hsz1 := hk1.size
    have hB1 := hW.out.hB
    rw [hCs] at hC1 hd1 ⊢
    obtain ⟨ad1, cd1, rfl⟩ := hd1.form
    obtain ⟨L1, hL1⟩ : ∃ n, (dataB (s + 1) d).length = n := ⟨_, rfl⟩
    rw [hL1] at hd1 ⊢
    replace hL1 := Lib.hid hL1
    obtain ⟨p0, p1, p2, p3, p4, pf, plt⟩ := cells5 hp1
    obtain ⟨o0, o1, o2⟩ := cells3 ho1
    replace hp1 := Lib.hid hp1
    replace ho1 := Lib.hid ho1
    replace hz1 := Lib.hid hz1
    replace hC1 := Lib.hid hC1
    replace hd1 := Lib.hid hd1
    replace hk1 := Lib.hid hk1
    replace hkb1 := Lib.hid hkb1
    replace how1 := Lib.hid how1
    replace hlow := Lib.hid hlow
    go_wp2_with fail
    refine (sendR_c _ s a r _ _ _ E d hRE1 hd01 (by rw [hDN.out]; omega) (by omega) (by have := hJ.out.agr.kept; rw [← this]; omega)).mono ?_
    rintro e w2 ⟨vk2, vd2, rfl, hL2, hd2, hk2⟩
    have hz2 := (hk2.block _ (by omega) (by simp)).trans hz1.out
    have hsz2 := hk2.size
    have hC2 := hC1.out.keeps hk2
    have hd12 := hd1.out.keeps hk2
    have hse2 := hRE1.early.keeps hk2
    obtain ⟨ak2, ck2, rfl⟩ := hL2.form
    obtain ⟨KN2, hK2⟩ : ∃ n, (E.kept ++ [d]).length = n := ⟨_, rfl⟩
    rw [hK2] at hL2 ⊢
    replace hK2 := Lib.hid hK2
    obtain ⟨ad2, cd2, rfl⟩ := hd2.form
    obtain ⟨L2, hL2'⟩ : ∃ n, (dataB (s + 1) d).length = n := ⟨_, rfl⟩
    rw [hL2'] at hd2 ⊢
    replace hL2' := Lib.hid hL2'
    have hkA : Keeps [] w2 (w2.alloc (.cells #[.int .i64 ((s : Int) + 1), .int .i64 a, .slice ak2 KN2 ck2, .int .i64 r, .slice ae EN ce] tyEnd)) := (Keeps.refl _ _).alloc _
    have hy2 := heap_alloc_new w2 (.cells #[.int .i64 ((s : Int) + 1), .int .i64 a, .slice ak2 KN2 ck2, .int .i64 r, .slice ae EN ce] tyEnd)
    obtain ⟨y0, y1, y2, y3, y4, yf, ylt⟩ := cells5 hy2
    have hz2' := (hkA.block _ (by omega) (by simp)).trans hz2
    obtain ⟨u0, u1, u2, u3, u4, uf, ult⟩ := cells5 hz2'
    replace hz2 := Lib.hid hz2
    replace hz2' := Lib.hid hz2'
    replace hy2 := Lib.hid hy2
    replace hC2 := Lib.hid (hC2.keeps hkA)
    replace hL2 := Lib.hid (hL2.keepN hkA)
    replace hd2 := Lib.hid (hd2.keeps hkA)
    replace hd12 := Lib.hid (hd12.keeps hkA)
    replace hse2 := Lib.hid (hse2.keeps hkA)
    replace hkA := Lib.hid (hk2.trans hkA)
    clear hRE1 hd01
    go_wp2
    generalize (w2.alloc (.cells #[.int .i64 ((s : Int) + 1), .int .i64 a, .slice ak2 KN2 ck2, .int .i64 r, .slice ae EN ce] tyEnd)) = w3 at *
    have hsep2 : w2.heap.size = w.heap.size + 2 → False := fun e => by omega
    refine Free.wp_region_chain (fun i => i == 8 || i == 10) (fun i => true) (fun j b => j = 10 ∧ b = w.heap.size + 2) (by kernel_rfl) (by kernel_rfl) (by kernel_rfl) ?_
    (repeat (first | (apply Free.cw_pureW rfl rfl; (intro w'; go_simp <;> exact rfl); go_frame) | (apply Free.cw_steadyW rfl rfl rfl; (intro w' hS; have q0 := Free.sx_cell hS y0 (fun _ _ hT => hsep2 hT.2); have q1 := Free.sx_cell hS y1 (fun _ _ hT => hsep2 hT.2); have q2 := Free.sx_cell hS y2 (fun _ _ hT => hsep2 hT.2); have q3 := Free.sx_cell hS y3 (fun _ _ hT => hsep2 hT.2); have q4 := Free.sx_cell hS y4 (fun _ _ hT => hsep2 hT.2); go_simp <;> exact rfl); go_frame) | (refine Free.cw_skip rfl ?_; go_frame)))
    refine Free.cw_loudW rfl rfl (fun K hK => ?_)
    go_wp2_with fail
    refine (same_c _ _ _ _ _ (hd12.out.kb (KB.drew _)) (hd2.out.kb (KB.drew _))).mono ?_
    rintro e _ ⟨rfl, rfl⟩
    refine hK _ _ rfl (Free.KeepsP.refl _ _) ?_
    clear hK K
    rw [show decide (dataB (s + 1) d = dataB (s + 1) d) = true from by simp]
    (repeat (apply Free.cw_pureW rfl rfl; (intro w'; go_simp <;> exact rfl); go_frame))
    have hfin := set5_all (b := w.heap.size + 1 + 1) (w := w3) hz2'.out (by simp [noB]) (.int .i64 ((s : Int) + 1)) (.int .i64 a) (.slice ak2 KN2 ck2) (.int .i64 r) (.slice ae EN ce)
    replace hfin := Lib.hid hfin
    refine Free.cw_loudW rfl rfl (fun K hK => ?_)
    go_wp2
    refine hK _ _ rfl (Free.KeepsP.of hfin.out.2.1.drews (fun b hb => ⟨trivial, by simpa using hb⟩)) ?_
    clear hK K
    (repeat (apply Free.cw_pureW rfl rfl; (intro w'; go_simp <;> exact rfl); go_frame))
    refine Free.cw_nil ?_
    go_wp2
    obtain ⟨g1, g2, g3⟩ := hfin.out
    refine bodyPost_ret (results_end2 rfl _ _ _ _ _ _ _ _ _ _ rfl g1) rfl ?_
    exact send_post (k := 1) (N := N) (T := T) hny0.out hre0.out hsep.out hlt0.out hbl hml hvl.out hB0 hJ.out hdl hse.out hae.out hre.out hCs (by omega) b4.out b5 hC1.out.kept hk1.out hkb1.out hne1 how1.out hC2.out hL2.out hkA.out g2.drews g3.drews
end Go.Proofs.Ytilmcdieihmiaaa

namespace Go.Proofs.Ytilmcdieihmiaaa
open Go.RowKit

structure OpV where
  k : Nat
  N : Int
  d : Bytes
def OpV.ok (x : OpV) : Prop := x.k < 256 ∧ -9223372036854775808 ≤ x.N ∧ x.N ≤ 9223372036854775807
def OpR (w : World) (cs : List Value) (x : OpV) : Prop := ∃ c, cs = [.int .u8 x.k, .int .i64 x.N, c] ∧ SlB w c x.d ∧ x.ok
theorem OpR.kb {w w' : World} {cs : List Value} {x : OpV} (h : OpR w cs x) (hk : KB w w') : OpR w' cs x := by
  obtain ⟨c, h1, h2, h3⟩ := h; exact ⟨c, h1, h2.kb hk, h3⟩
abbrev SOps (w : World) (v : Value) (L : List OpV) : Prop := Gen.SlR OpR 3 w v L
theorem SOps.keeps {w w' : World} {v : Value} {L : List OpV} (h : SOps w v L) (hk : Keeps [] w w') : SOps w' v L := Gen.SlR.keeps h hk fun _ _ h => h.kb hk.kb0
theorem SOps.keepS {w w' : World} {v : Value} {L : List OpV} {S : List Nat} (h : SOps w v L) (hk : Keeps S w w') (hS : ∀ b ∈ S, v.ownBlock ≠ some b) (hb : KB w w') : SOps w' v L := Gen.SlR.keepS h hk hS fun _ _ h => h.kb hb
theorem SOps.op {w : World} {v : Value} {L : List OpV} (h : SOps w v L) {k : Nat} (hk : k < L.length) : ∃ g o c ad cd, v = .slice (some ⟨g, o, none⟩) L.length c ∧ w.cell? ⟨g, o + k * 3, none⟩ = some (.int .u8 L[k].k) ∧ w.cell? ⟨g, o + k * 3 + 1, none⟩ = some (.int .i64 L[k].N) ∧
    w.cell? ⟨g, o + k * 3 + 2, none⟩ = some (.slice ad L[k].d.length cd) ∧ SlB w (.slice ad L[k].d.length cd) L[k].d ∧ L[k].ok ∧ g < w.heap.size := by
  obtain ⟨g, o, c, xs, hv, hl, ⟨c2, rfl, hd, hok⟩, hc⟩ := Gen.SlR.elem h (by decide) hk
  obtain ⟨ad, cd, rfl⟩ := hd.form
  have h0 := hc 0 _ rfl
  exact ⟨g, o, c, ad, cd, hv, h0, hc 1 _ rfl, hc 2 _ rfl, hd, hok, lt_of_cell h0⟩
/-- Too many, or too long. -/
def hvB (L : List OpV) : Bool := L.any (fun x => decide (5000 < x.d.length)) || decide (30 < L.length)

set_option maxRecDepth 100000 in
set_option maxHeartbeats 4000000 in
theorem heavy_c (w : World) (v0 : Value) (L : List OpV) (h : SOps w v0 L) :
    Calls Try.prog 18 #[v0] w fun e w' => e = .returned (.bool (hvB L)) ∧ Keeps [] w w' := by
  obtain ⟨a, c, rfl, hlc, hcm, _⟩ := Gen.SlR.form h
  obtain ⟨N, hN⟩ : ∃ N, L.length = N := ⟨_, rfl⟩
  rw [hN] at hlc ⊢
  have hNm : N ≤ 9223372036854775807 := by unfold maxLen at hcm; omega
  have hel := fun k hk => SOps.op h (k := k) hk
  replace hel := Lib.hid hel
  replace hN := Lib.hid hN
  clear h
  obtain ⟨B, hB⟩ : ∃ B, hvB L = B := ⟨_, rfl⟩
  rw [hB]
  replace hB := Lib.hid hB
  go_enter Try.func18, Try.ntmps18
  go_wp2
  go_loopw [3] (fun i wr => ∃ k : Nat, i = .int .i64 k ∧ k ≤ N ∧ (∀ j (hj : j < L.length), j < k → L[j].d.length ≤ 5000) ∧ Keeps [] w wr) (fun i _ => N - (intOf i).toNat)
  case atStart => exact ⟨0, rfl, by omega, fun _ _ h => by omega, Keeps.refl _ _⟩
  case round =>
    obtain ⟨k, rfl, hk, hno, hkw⟩ := hrel
    replace hno := Lib.hid hno
    by_cases hlt : k < N
    · obtain ⟨g, o, c', ad, cd, hv, _, _, hx, _⟩ := hel.out k (by rw [hN.out]; exact hlt)
      cases hv
      have hxr := hkw.val hx
      clear hx
      replace hkw := Lib.hid hkw
      obtain ⟨z, hz⟩ : ∃ z, (L[k]'(by rw [hN.out]; exact hlt)).d.length = z := ⟨_, rfl⟩
      rw [hz] at hxr
      replace hz := Lib.hid hz
      by_cases he : 5000 < z
      · go_wp2
        go_ret
        refine ⟨?_, hkw.out⟩
        rw [← hB.out]
        have : hvB L = true := by
          unfold hvB
          rw [Bool.or_eq_true, List.any_eq_true]
          exact .inl ⟨_, List.getElem_mem (by rw [hN.out]; exact hlt), by rw [hz.out]; simpa using he⟩
        rw [this]; rfl
      · have hno' : Hid (∀ j (hj : j < L.length), j < k + 1 → L[j].d.length ≤ 5000) := fun j hj hjk => by
          by_cases e : j = k
          · subst e; rw [hz.out]; omega
          · exact hno.out j hj (by omega)
        go_wp2
        go_roundw
        case rel => exact ⟨k + 1, rfl, by omega, hno'.out, hkw.out⟩
        case measure => simp [intOf]; omega
    · have hkk : k = N := by omega
      subst hkk
      replace hkw := Lib.hid hkw
      have hb : B = decide (30 < k) := by
        rw [← hB.out]
        unfold hvB
        rw [hN.out]
        have : L.any (fun x => decide (5000 < x.d.length)) = false := by
          rw [List.any_eq_false]
          intro x hx
          obtain ⟨j, hj, rfl⟩ := List.getElem_of_mem hx
          have := hno.out j hj (by rw [hN.out] at hj; exact hj)
          simp; omega
        rw [this]; rfl
      replace hb := Lib.hid hb
      by_cases h30 : 30 < k
      · go_wp2
        go_ret
        exact ⟨by rw [hb.out]; simp [h30]; omega, hkw.out⟩
      · go_wp2
        go_ret
        exact ⟨by rw [hb.out]; simp [h30]; omega, hkw.out⟩
end Go.Proofs.Ytilmcdieihmiaaa

namespace Go.Proofs.Ytilmcdieihmiaaa
open Go.RowKit
set_option maxRecDepth 100000 in
set_option maxHeartbeats 1000000 in
theorem step_other (w : World) (B bc bm n T D : Nat) (vk vke vee vd : Value) (C : Chan) (E : REnd) (k : Nat) (N : Int) (d : Bytes) (h : BothW w B bc bm n vk vke vee C E) (hJ : Joint C E T D) (hT : T < 900000) (hn : n ≤ T) (hD : D ≤ 100000) (hN : -9223372036854775808 ≤ N ∧ N ≤ 9223372036854775807) (hd : SlB w vd d) (hdl : d.length ≤ D) (hk4 : 4 < k) :
    Calls Try.prog 19 #[.pointer (some ⟨bc, 0, none⟩), .agg #[.int .i64 E.sent, .int .i64 E.acked, vke, .int .i64 E.received, vee], .agg #[.int .u8 k, .int .i64 N, vd]] w (StepPost w B bc bm n T D vk C k N d) := by
  obtain ⟨ae, ce, rfl⟩ := h.re.early.form
  obtain ⟨ak, ck, rfl, hkm⟩ := h.re.kept.form
  obtain ⟨ad, cd, rfl⟩ := hd.form
  obtain ⟨s, hse⟩ : ∃ s, E.sent = s := ⟨_, rfl⟩
  obtain ⟨a, hae⟩ : ∃ s, E.acked = s := ⟨_, rfl⟩
  obtain ⟨r, hre⟩ : ∃ s, E.received = s := ⟨_, rfl⟩
  obtain ⟨KN, hK⟩ : ∃ s, E.kept.length = s := ⟨_, rfl⟩
  obtain ⟨EN, hEN⟩ : ∃ s, E.early.length = s := ⟨_, rfl⟩
  obtain ⟨DN, hDN⟩ : ∃ s, d.length = s := ⟨_, rfl⟩
  rw [hK, hEN] at h
  rw [hDN] at hd
  rw [hse, hae, hre, hK, hEN, hDN]
  obtain ⟨b1, b2, b3, b4, b5⟩ := box_three w (.cells #[.int .i64 s, .int .i64 a, .slice ak KN ck, .int .i64 r, .slice ae EN ce] tyEnd) (.cells #[.int .u8 k, .int .i64 N, .slice ad DN cd] 48) zEnd
  have hW := h.keeps b4
  have hdW := hd.keeps b4
  obtain ⟨p0, p1, p2, p3, p4, pf, plt⟩ := cells5 b1
  obtain ⟨o0, o1, o2⟩ := cells3 b2
  obtain ⟨z0, z1, z2, z3, z4, zf, zlt⟩ := cells5 b3
  obtain ⟨_, _, f3, f4, f5⟩ := box_three w (.cells #[.int .i64 s, .int .i64 a, .slice ak KN ck, .int .i64 r, .slice ae EN ce] tyEnd) (.cells #[.int .u8 k, .int .i64 N, .slice ad DN cd] 48) (.cells #[.int .i64 s, .int .i64 a, .slice ak KN ck, .int .i64 r, .slice ae EN ce] tyEnd)
  have hF := h.keeps f4
  replace f3 := Lib.hid f3
  replace f4 := Lib.hid f4
  replace f5 := Lib.hid f5
  replace hF := Lib.hid hF
  have hsent := hJ.sent
  have hsum := hJ.sum
  have hrecv := hJ.recv
  have hCs : C.sent = s := by rw [← hse]; exact hJ.agr.sent
  have hbl := h.ch.cells.2.2.2.2.2.2
  have hml := h.ch.early.lt
  have hvl : ∀ b, vk.ownBlock = some b → b < w.heap.size := fun b hb => (ge_own h.ch.kept b hb).2
  have hsep := h.sep
  have hlt0 := h.lt
  have hB0 := h.hB
  have hre0 := h.re
  have hnk0 := h.nk
  have hny0 := h.ny
  replace hJ := Lib.hid hJ
  replace hse := Lib.hid hse
  replace hae := Lib.hid hae
  replace hre := Lib.hid hre
  have hKK := Lib.hid hK
  replace hEN := Lib.hid hEN
  replace hDN := Lib.hid hDN
  replace hW := Lib.hid hW
  replace hdW := Lib.hid hdW
  replace hsep := Lib.hid hsep
  replace hlt0 := Lib.hid hlt0
  replace hre0 := Lib.hid hre0
  replace hnk0 := Lib.hid hnk0
  replace hny0 := Lib.hid hny0
  replace hvl := Lib.hid hvl
  replace b1 := Lib.hid b1
  replace b2 := Lib.hid b2
  replace b3 := Lib.hid b3
  replace b4 := Lib.hid b4
  clear h hd hK
  have e0 : ((k : Int) == 0) = false := by simp; omega
  have e1 : ((k : Int) == 1) = false := by simp; omega
  have e2 : ((k : Int) == 2) = false := by simp; omega
  have e3 : ((k : Int) == 3) = false := by simp; omega
  have e4 : ((k : Int) == 4) = false := by simp; omega
  · go_enter Try.func19, Try.ntmps19
    go_wp2
    refine bodyPost_ret (results_end2 rfl _ _ _ _ _ _ _ _ _ _ rfl f3.out) rfl ?_
    have hq := recv_post (k := k) (N := N) (d := d) (C := C) (C1 := C) (T := T) (n := n) (n1 := n) hnk0.out hny0.out hre0.out hsep.out hlt0.out hbl hml hvl.out hB0 f4.out (by rw [f5.out]; exact Nat.le_refl _) hF.out.ch.kept (Keeps.refl _ _) (KB.refl _) hF.out.ne (.inl rfl) hF.out.ch (by omega) hF.out.re (Keeps.refl _ _) rfl (.inl rfl) (hJ.out.mono (by omega)) ⟨fun h1 h2 => by omega, fun h => by omega, fun _ => rfl⟩ (Keeps.refl _ _) (KB.refl _)
    rw [hse.out, hae.out, hre.out] at hq
    exact hq
end Go.Proofs.Ytilmcdieihmiaaa
