/-
  Joined: TopA
-/
import Derived.Test.YtlpbbihjnmikkaaGreatDoorJ37
import Derived.Test.YtlpbbihjnmikkaaGreatDoorJ38
import Derived.Test.YtlpbbihjnmikkaaGreatDoorJ49
namespace Go.Proofs.YtlpbbihjnmikkaaGreatDoor.Exe
set_option linter.unusedSimpArgs false
set_option linter.unusedVariables false
set_option maxRecDepth 100000

/-- The ciphers are those of the program. -/
structure Real (C : Ciph) : Prop where
  mac : ∀ k l, C.mac k l = macF k l
  dkey : ∀ l, C.dkey l = dkF l
  dval : ∀ l, C.dval l = dvF l
  vkey : ∀ k d, C.vkey k d = macF k (nameB ++ [BitVec.ofNat 8 d] ++ [1])
  sealed : ∀ k n b t, C.sealed k n b t = sealG k (oct8 n) b t
theorem known_ok {C : Ciph} (hC : Real C) (f : FuncId) (k : F) (h : known f = some k) : KnownOk Tryz.prog (lore C) f k := by
  have := pick_cases h
  simp only [List.mem_cons, List.not_mem_nil, or_false, Prod.mk.injEq] at this
  rcases this with ⟨rfl, rfl⟩ | ⟨rfl, rfl⟩ | ⟨rfl, rfl⟩ | ⟨rfl, rfl⟩ | ⟨rfl, rfl⟩ | ⟨rfl, rfl⟩ | ⟨rfl, rfl⟩ | ⟨rfl, rfl⟩ | ⟨rfl, rfl⟩ | ⟨rfl, rfl⟩ | ⟨rfl, rfl⟩ | ⟨rfl, rfl⟩ | ⟨rfl, rfl⟩ | ⟨rfl, rfl⟩ | ⟨rfl, rfl⟩ | ⟨rfl, rfl⟩
  · exact clone_known C
  · exact equal_known C
  · exact few_known C
  · exact put_known C
  · exact putText_known C
  · exact take_known C
  · exact takeText_known C
  · exact blob_known C
  · exact read_known C
  · exact seal_known C hC.sealed
  · exact unseal_known C hC.sealed
  · exact key_known C hC.vkey
  · exact source_known C hC.mac hC.dkey hC.dval
  · exact sum_known C hC.mac
  · exact open_known C
  · exact save_known C
end Go.Proofs.YtlpbbihjnmikkaaGreatDoor.Exe
