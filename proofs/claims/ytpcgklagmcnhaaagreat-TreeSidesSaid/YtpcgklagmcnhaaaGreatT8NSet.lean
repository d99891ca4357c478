/- map[int]int of a call's own whose number of entries is known: a value put at a key that is there. Conditions: what each law says. -/
import Derived.Test.YtpcgklagmcnhaaaGreatT8LookP
namespace Go.Proofs.YtpcgklagmcnhaaaGreat
open Go.RowKit Go.Maps
end Go.Proofs.YtpcgklagmcnhaaaGreat
namespace Go.Proofs.YtpcgklagmcnhaaaGreat
end Go.Proofs.YtpcgklagmcnhaaaGreat
namespace Go.Proofs.YtpcgklagmcnhaaaGreat.Plain
def g1 : Gr := ⟨4, [(0, 1), (1, 2), (2, 0)]⟩
def p1 : Pt := ⟨[0, 1, 2, 3], [0, 1, 2]⟩
def t1 : List (List Int) := [[0, 5], [1, 2], [3, 4], []]
def w1 : List Face := [(-4, []), (0, [0, 2, 4]), (1, [1, 5, 3])]
end Go.Proofs.YtpcgklagmcnhaaaGreat.Plain
namespace Go.Proofs.YtpcgklagmcnhaaaGreat
open Go.RowKit Go.Maps
namespace Plain
end Plain
namespace Plain
end Plain
end Go.Proofs.YtpcgklagmcnhaaaGreat
