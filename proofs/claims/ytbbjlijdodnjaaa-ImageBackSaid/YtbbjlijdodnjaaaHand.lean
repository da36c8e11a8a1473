/- One step of a drawn region that is walked by hand. Over any program. -/
import Derived.Deep.RegionHeld3
namespace Go.Proofs.Ytbbjlijdodnjaaa
theorem tk {P : Program} {md : Region.Mode} {ops : Array Oper} {Q : Exit → Act → World → Prop} {S : World → Prop} {i : Nat} {oi : Oper} {v : Value} {fuel : Nat} {listed : Array Bool} {a : Act} {w : World} (hi : ops[i]? = some oi)
    (hs : Region.noSelect ops = true) (hf : Region.free md ops listed i = true) (hr : (Region.ready md ops listed).contains i = true) (hy : YieldsIf P ops S oi v a) (hS : S w)
    (h : wpAnyH P md ops (NoPanic Q) S fuel (listed.setIfInBounds i true) (a.put oi.dst v) w) : wpAnyH P md ops (NoPanic Q) S (fuel + 1) listed a w :=
  wpAnyH_take hi hs hf hr (fun _ _ _ h => h) hy hS h
/-- The beginning, what has come up written out. -/
theorem wp_region_open {P : Program} {ops : Array Oper} {Q : Exit → Act → World → Prop} {S : World → Prop} {id : Nat} {a : Act} {w : World} (L : Array Bool) (n : Nat) (hm : P.follows .mixedOrders = true) (hL : Array.replicate ops.size false = L) (hn : ops.size = n) (hS : S w.drew)
    (h : S w.drew → wpAnyH P .any ops (NoPanic Q) S n L a w.drew) : (Code.region id ops true).wp P Q a w := by
  subst hL hn
  exact wp_region_noPanic (wp_region_held_drew hm hS h)
/-- What several ways lead to is shown once. -/
theorem viaKey {G T : Prop} (f : G → T) (x : G) : T := f x
end Go.Proofs.Ytbbjlijdodnjaaa
