import Derived.Test.YtpfhmnmpiagnnaaGreatDoorFC
open Go Go.D Go.Proofs
theorem c21 : lo0.call 21 [] ⟨.tip, 0⟩ = some (.bool true, ⟨.tip, 0⟩) := of_quiet (by kernel_rfl)
